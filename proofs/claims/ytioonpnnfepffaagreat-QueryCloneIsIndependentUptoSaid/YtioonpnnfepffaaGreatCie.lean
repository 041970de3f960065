/- queryCloneIsIndependentUpto_holds, part 5: the layer, the plain functions and what they compute; conditions as in the statement. -/
import Derived.Test.YtioonpnnfepffaaGreatCid
set_option maxHeartbeats 4000000
namespace Go.Proofs.YtioonpnnfepffaaGreat
noncomputable section
open Go Go.Ab
attribute [local irreducible] V Ao Do Gh Eff PH IntKind.wrap
set_option maxRecDepth 4000
def ii (c : LChecker) (q : LQuery) (inA : List (List LCol)) : Option ((List LCol) × Int) :=
 cond (q.kind == (1 : Int))
  (ae (cS c.s.tables (fun a0=>some (eD a0 q))) fun x25 =>
  cond (decide (x25 < (0 : Int)))
   (some ([],4))
   (ae (aK c.s.tables x25) fun (x32 : LTable) =>
   some (x32.columns,0)))
  (cond (q.kind == (2 : Int))
   (ae (aK inA 0) fun (x39 : List LCol) =>
   ae (aK inA 0) fun (x43 : List LCol) =>
   ae (aK q.exprs 0) fun (x47 : LExpr) =>
   br (dF c x43 x47) fun x49 =>
   some (x39,x49))
   (br (
    cond (q.kind == (4 : Int))
     ((q.kind == (4 : Int)))
     ((q.kind == (5 : Int)))) fun (t1 : Bool) =>
   cond t1
    (ae (aK inA 0) fun (x54 : List LCol) =>
    ae (aK inA 1) fun (x58 : List LCol) =>
    ae (aD (σ := List LCol) (ρ := Empty) (fun (_ : Nat) (x2 : LCol) (s2 : List LCol) =>
     cond x2.nullable
      (ae (cy 32 s2 ([(LCol.mk x2.name x2.kind true)] : List LCol)) fun (x76 : List LCol) =>
      some (.next x76))
      (ae (cy 32 s2 ([(LCol.mk x2.name x2.kind (q.kind == (5 : Int)))] : List LCol)) fun (x76 : List LCol) =>
      some (.next x76))) 0 x58 x54) fun fl2=>fl2.thenP fun (s2 : List LCol) =>
    ae (aK q.exprs 0) fun (x83 : LExpr) =>
    br (dF c s2 x83) fun x85 =>
    some (s2,x85))
    (br (
     cond (q.kind == (6 : Int))
      ((q.kind == (6 : Int)))
      ((q.kind == (7 : Int)))) fun (t3 : Bool) =>
    cond t3
     (ae (aK inA 0) fun (x92 : List LCol) =>
     ae (aK inA 1) fun (x95 : List LCol) =>
     ae (iq q.kind x92 x95) fun x97 =>
     some (x97.1,x97.2))
     (br (
      cond (q.kind == (3 : Int))
       ((q.kind == (3 : Int)))
       ((q.kind == (8 : Int)))) fun (t4 : Bool) =>
     cond t4
      (ae (aK inA 0) fun (x106 : List LCol) =>
      ae (eB c q x106) fun x108 =>
      some (x108.1,x108.2))
      (cond (q.kind == (9 : Int))
       (ae (aD (σ := Unit) (ρ := ((List LCol) × Int)) (fun (_ : Nat) (x5 : LExpr) (_ : Unit) =>
        ae (aK inA 0) fun (x122 : List LCol) =>
        br (cW x122 c.vars x5) fun x127 =>
        cond (x127.2.2 != (0 : Int))
         (some (.ret ([],x127.2.2)))
         (some (.next ()))) 0 q.exprs ()) fun fl5=>fl5.thenR fun (_ : Unit) =>
       ae (aK inA 0) fun (x136 : List LCol) =>
       some (x136,0))
       (ae (aK inA 0) fun (x136 : List LCol) =>
       some (x136,0)))))))
theorem qq (c : LChecker) (q : LQuery) (inA : List (List LCol)) (r : (List LCol) × Int) (H : ii c q inA = some r) :
  aL Tryz.prog 80 [(.agg (dW c)),(.agg (aw q)),(.list 39 (inA.map (al 53 aR)))] (.tup [(.list 53 (r.1.map aR)),(ai r.2)]) := by
 unfold ii at H
 refine PH.ax Tryz.func80 Tryz.ntmps80 ?_
 refine ab (aa (aH ?_))
 refine aH ?_
 refine ag 2 tk rfl (ac (ab (am 2 tk rfl (av (am 2 tk rfl ?_)))))
 refine aM rfl H (fun H=>?_) (fun H=>?_)
 ·refine ab (aa (ag 4 tk rfl ?_))
  obtain ⟨x25,h25,H⟩ := au H
  have s25 := hD c.s.tables (fun a0=>some (eD a0 q)) Tryz.call102 (fun a0 r h=>(aA h) ▸ pt a0 q) _ h25
  refine aj Tryz.call97 (gK.r) s25 ?_
  refine ah tk rfl (ac (ab (am 2 tk rfl ?_)))
  refine aM rfl H (fun H=>?_) (fun H=>?_)
  ·refine am 2 tk rfl ?_
   obtain rfl := aA H
   refine bj tk rfl (ps := [(.val (.slice none 0 0)),(ai 4)]) ⟨_,_,rfl,rfl,_,_,rfl,rfl,rfl⟩ (PLe.of2 (lA.tup (iz.cons (lA.nil tk rfl) (iz.cons (lA.of_eq rfl) iz.nil))))
  refine ao (ab (aa (ag 4 tk rfl ?_)))
  obtain ⟨x32,k32,H⟩ := bq H
  refine aU tk k32.1 (aO (fun _=>rfl) k32.2) ?_
  refine ag 2 tk rfl ?_
  have s35 := pS (m := 35) x32.columns
  refine aj Tryz.call83 (gK.r) (PFun.jH s35) ?_
  refine ag 2 tk rfl (ac ?_)
  exact aS tk H rfl
 refine am 2 tk rfl ?_
 refine aM rfl H (fun H=>?_) (fun H=>?_)
 ·refine ab (bo tk mok ⟨false,false,[]⟩ [0,1,2,3,4,5,6,7,8,9,10,11,12,13] rfl (by decide +kernel) rfl (bt rfl ?_))
  obtain ⟨x39,k39,H⟩ := bq H
  refine bK k39.1 (aO (fun _=>rfl) k39.2) ?_
  refine aW 3 rfl ?_
  obtain ⟨x43,k43,H⟩ := bq H
  refine bK k43.1 (aO (fun _=>rfl) k43.2) ?_
  refine aW 3 rfl ?_
  obtain ⟨x47,k47,H⟩ := bq H
  refine bK k47.1 (aO bP k47.2) ?_
  refine bt rfl ?_
  obtain ⟨x49,h49,H⟩ := cL H
  have s49 := kA c x43 x47
  rw [h49] at s49
  refine aZ Tryz.call103 (gK.r) s49 ?_
  refine aW 2 rfl (bn ?_)
  exact aS tk H rfl
 refine ab (am 2 tk rfl ?_)
 refine gF (γ := Unit) (fun t1 g1=>⟨138,upd (upd (upd (upd (upd (fun _=>.any) 50 (ay t1)) 18 (ai q.kind)) 4 (.ptr (aw q))) 3 (.ptr (dW c))) 2 (.list 39 (inA.map (al 53 aR))),fun _=>none,fun _=>none⟩) H (fun _ H=>?_) (fun t1 g1 H=>?_)
 ·refine aM rfl H (fun H=>?_) (fun H=>?_)
  ·refine ao ?_
   refine be _ () H Gh.d
  refine bc 2 tk rfl ?_
  refine be _ () H Gh.d
 refine aM rfl H (fun H=>?_) (fun H=>?_)
 ·refine ab (aa (ah tk rfl ?_))
  obtain ⟨x54,k54,H⟩ := bq H
  refine aU tk k54.1 (aO (fun _=>rfl) k54.2) ?_
  refine ah tk rfl ?_
  have s56 := pS (m := 56) x54
  refine lE (g := 83) rfl rfl rfl Tryz.call83 (gK.r) rfl rfl s56 (fun g56=>?_)
  refine ah tk rfl (ac (ab (ab (aa (ah tk rfl ?_)))))
  obtain ⟨x58,k58,H⟩ := bq H
  refine aU tk k58.1 (aO (fun _=>rfl) k58.2) ?_
  refine ah tk rfl (az tk (zl _) ?_)
  refine ah tk rfl (ac ?_)
  refine fg (γ := OwnRef) tk 61 60 59 (fun s2 g2=>upd (upd (upd (fun _=>.any) 9 (.own 56 g2 (s2.map aR).length)) 4 (.ptr (aw q))) 3 (.ptr (dW c))) nB (fun s2 g2=>upd (fun _=>none) 56 (some ⟨g2,53,(s2.map aR),true⟩)) g56 H (fun fl2 Hp2 j2 s2 g2 hz2 hl2 x2 fb2 hx2 H hg2=>?_) (fun s2 g2 H=>?_)
  ·refine ab (av (ab (aa ?_)))
   refine aU tk (zn j2) (bl (fun _=>rfl) hx2) ?_
   refine ah tk rfl ?_
   refine aN tk fun b11=>?_
   refine ak tk ?_
   refine ac (ab (aa (ah tk rfl (aq tk ?_))))
   refine ah tk rfl ?_
   refine aV rfl rfl rfl H (fun H=>?_) (fun H=>?_)
   ·refine ag 5 tk rfl (ak tk ?_)
    refine ac (aa (ah tk rfl (aq tk ?_)))
    refine cv tk (rows' := List.map aR ([(LCol.mk x2.name x2.kind true)] : List LCol)) (gP.refl _) ?_
    obtain ⟨x76,h76,H⟩ := au H
    have k76 := bX h76
    refine cr (rows2' := List.map aR ([(LCol.mk x2.name x2.kind true)] : List LCol)) (rows' := List.map aR x76) tk rfl rfl rfl rfl rfl rfl rfl rfl rfl rfl rfl rfl rfl (gP.refl _) (cK k76.1) (cI k76.2.1) (cF k76.2.2) fun g76=>?_
    refine ah tk rfl (ac (aG (bc 2 tk rfl ?_)))
    exact bg g76 H hl2 hg2
   refine ag 5 tk rfl (ak tk ?_)
   refine ac (aa (ah tk rfl (aq tk ?_)))
   refine cv tk (rows' := List.map aR ([(LCol.mk x2.name x2.kind (q.kind == (5 : Int)))] : List LCol)) (gP.refl _) ?_
   obtain ⟨x76,h76,H⟩ := au H
   have k76 := bX h76
   refine cr (rows2' := List.map aR ([(LCol.mk x2.name x2.kind (q.kind == (5 : Int)))] : List LCol)) (rows' := List.map aR x76) tk rfl rfl rfl rfl rfl rfl rfl rfl rfl rfl rfl rfl rfl (gP.refl _) (cK k76.1) (cI k76.2.1) (cF k76.2.2) fun g76=>?_
   refine ah tk rfl (ac (aG (bc 2 tk rfl ?_)))
   exact bg g76 H hl2 hg2
  refine ab (dZ 9 rfl rfl rfl (bo tk mok ⟨false,false,[]⟩ [0,1,2,3,4,5,6,7,8,9] rfl (by decide +kernel) rfl (aW 5 rfl ?_)))
  obtain ⟨x83,k83,H⟩ := bq H
  refine bK k83.1 (aO bP k83.2) ?_
  refine bt rfl ?_
  obtain ⟨x85,h85,H⟩ := cL H
  have s85 := kA c s2 x83
  rw [h85] at s85
  refine aZ Tryz.call103 (gK.r) s85 ?_
  refine aW 2 rfl (bn ?_)
  exact aS tk H rfl
 refine ab (am 2 tk rfl ?_)
 refine gF (γ := Unit) (fun t3 g3=>⟨138,upd (upd (upd (upd (upd (fun _=>.any) 86 (ay t3)) 18 (ai q.kind)) 4 (.ptr (aw q))) 3 (.ptr (dW c))) 2 (.list 39 (inA.map (al 53 aR))),fun _=>none,fun _=>none⟩) H (fun _ H=>?_) (fun t3 g3 H=>?_)
 ·refine aM rfl H (fun H=>?_) (fun H=>?_)
  ·refine ao ?_
   refine be _ () H Gh.d
  refine bc 2 tk rfl ?_
  refine be _ () H Gh.d
 refine aM rfl H (fun H=>?_) (fun H=>?_)
 ·refine ab (bo tk mok ⟨false,false,[]⟩ [0,1,2,3,4,5,6,7,8,9,10,11,12] rfl (by decide +kernel) rfl (aW 3 rfl ?_))
  obtain ⟨x92,k92,H⟩ := bq H
  refine bK k92.1 (aO (fun _=>rfl) k92.2) ?_
  refine aW 2 rfl ?_
  obtain ⟨x95,k95,H⟩ := bq H
  refine bK k95.1 (aO (fun _=>rfl) k95.2) ?_
  refine bt rfl ?_
  obtain ⟨x97,h97,H⟩ := au H
  have s97 := qJ q.kind x92 x95 _ h97
  refine aZ Tryz.call104 (gK.r) s97 ?_
  refine aW 4 rfl (bn ?_)
  exact aS tk H rfl
 refine ab (am 2 tk rfl ?_)
 refine gF (γ := Unit) (fun t4 g4=>⟨138,upd (upd (upd (upd (upd (fun _=>.any) 100 (ay t4)) 18 (ai q.kind)) 4 (.ptr (aw q))) 3 (.ptr (dW c))) 2 (.list 39 (inA.map (al 53 aR))),fun _=>none,fun _=>none⟩) H (fun _ H=>?_) (fun t4 g4 H=>?_)
 ·refine aM rfl H (fun H=>?_) (fun H=>?_)
  ·refine ao ?_
   refine be _ () H Gh.d
  refine bc 2 tk rfl ?_
  refine be _ () H Gh.d
 refine aM rfl H (fun H=>?_) (fun H=>?_)
 ·refine ab (bo tk mok ⟨false,false,[]⟩ [0,1,2,3,4,5,6,7,8,9] rfl (by decide +kernel) rfl (aW 3 rfl ?_))
  obtain ⟨x106,k106,H⟩ := bq H
  refine bK k106.1 (aO (fun _=>rfl) k106.2) ?_
  refine bt rfl ?_
  obtain ⟨x108,h108,H⟩ := au H
  have s108 := mD c q x106 _ h108
  refine aZ Tryz.call105 (gK.r) s108 ?_
  refine aW 4 rfl (bn ?_)
  exact aS tk H rfl
 refine am 2 tk rfl ?_
 refine aM rfl H (fun H=>?_) (fun H=>?_)
 ·refine ab (aa (ag 2 tk rfl (az tk (zl _) ?_)))
  refine ah tk rfl (ac ?_)
  refine ez tk 116 115 114 (fun s5 g5=>upd (upd (fun _=>.any) 3 (.ptr (dW c))) 2 (.list 39 (inA.map (al 53 aR)))) nB nO () H (fun fl5 Hp5 j5 s5 g5 hz5 hl5 x5 fb5 hx5 H hg5=>?_) (fun s5 g5 H=>?_)
  ·refine ab (av (ab (aa (aU tk (zn j5) (bl bP hx5) ?_))))
   refine ah tk rfl ?_
   refine aN tk fun b13=>?_
   refine ak tk ?_
   refine ac (ab (bo tk mok ⟨true,false,[123,125]⟩ [0,1,2,3,4,5,6,7,8,9,10,11,12,13] rfl (by decide +kernel) rfl (bt rfl ?_)))
   obtain ⟨x122,k122,H⟩ := bq H
   refine bK k122.1 (aO (fun _=>rfl) k122.2) ?_
   refine aW 3 rfl (bi ?_)
   obtain ⟨x127,h127,H⟩ := cL H
   have s127 := mO x122 c.vars x5
   rw [h127] at s127
   refine aZ Tryz.call106 (gK.r) s127 ?_
   refine aW 7 rfl (bn (am 2 tk rfl ?_))
   refine aM rfl H (fun H=>?_) (fun H=>?_)
   ·refine am 3 tk rfl ?_
    obtain rfl := aA H
    have e5 : fl5 = .ret _ := hg5
    subst e5
    obtain rfl := aY Hp5
    refine bj tk rfl (ps := [(.val (.slice none 0 0)),(ai x127.2.2)]) ⟨_,_,rfl,rfl,_,_,rfl,rfl,rfl⟩ (PLe.of2 (lA.tup (iz.cons (lA.nil tk rfl) (iz.cons (lA.of_eq rfl) iz.nil))))
   refine ao (aG (bc 2 tk rfl ?_))
   exact bg () H hl5 hg5
  refine aG (ab (aa (ah tk rfl ?_)))
  obtain ⟨x136,k136,H⟩ := bq H
  refine aU tk k136.1 (aO (fun _=>rfl) k136.2) ?_
  refine ag 3 tk rfl (ac ?_)
  exact aS tk H rfl
 refine ao (aG (ab (aa (ah tk rfl ?_))))
 obtain ⟨x136,k136,H⟩ := bq H
 refine aU tk k136.1 (aO (fun _=>rfl) k136.2) ?_
 refine ag 3 tk rfl (ac ?_)
 exact aS tk H rfl
def iN (rA : LRun) (q : LQuery) (cols : List LCol) (inA : Rz) : Option (Rz) :=
 br (
  cond ((q.exprs.length : Int) == (0 : Int))
   (([[]],[[]]))
   (([],[]))) fun (t1 : Rz × List Rz) =>
 ae (aD (σ := Rz × List Rz) (ρ := Empty) (fun (_ : Nat) (x2 : Rq) (s2 : Rz × List Rz) =>
  ae (dy rA cols x2 q.exprs) fun x38 =>
  ae (bM s2.1 (fun a0=>fZ a0 x38)) fun x41 =>
  ae (fe (x41.2.length = s2.1.length) ()) fun (_ : Unit) =>
  ae (
   cond (decide (x41.1 < (0 : Int)))
    (ae (cy 24 x41.2 ([x38] : Rz)) fun (x49 : Rz) =>
    ae (cy 24 s2.2 ([[]] : List Rz)) fun (x52 : List Rz) =>
    some (x49,x52,(x41.2.length : Int)))
    (some (x41.2,s2.2,x41.1))) fun (t7 : Rz × List Rz × Int) =>
  ae (aK t7.2.1 t7.2.2) fun (x57 : Rz) =>
  ae (cy 24 x57 ([x2] : Rz)) fun (x61 : Rz) =>
  ae (aK t7.2.1 t7.2.2) fun (_ : Rz) =>
  br (t7.2.1.set t7.2.2.toNat x61) fun (y8 : List Rz) =>
  some (.next (t7.1,y8))) 0 inA (t1.1,t1.2)) fun fl2=>fl2.thenP fun (s2 : Rz × List Rz) =>
 ae (fe (s2.2.length * 24 ≤ 2 ^ 47) ()) fun (_ : Unit) =>
 ae (gj (s2.1.length : Int)) fun (n10 : Nat) =>
 ae (aD (σ := Rz) (ρ := Empty) (fun (j10 : Nat) (_ : Nat) (s10 : Rz) =>
  ae (aK s2.1 (j10 : Int)) fun (x69 : Rq) =>
  ae (aD (σ := Rq) (ρ := Empty) (fun (_ : Nat) (x13 : LAggregateCall) (s13 : Rq) =>
   ae (aK s2.2 (j10 : Int)) fun (x86 : Rz) =>
   ae (jG rA x13 cols x86) fun x88 =>
   ae (cy 32 s13 ([x88] : Rq)) fun (x90 : Rq) =>
   some (.next x90)) 0 q.aggregates x69) fun fl13=>fl13.thenP fun (s13 : Rq) =>
  ae (cy 24 s10 ([s13] : Rz)) fun (x95 : Rz) =>
  some (.next x95)) 0 (List.range n10) []) fun fl10=>fl10.thenP fun (s10 : Rz) =>
 some s10
theorem ro (rA : LRun) (q : LQuery) (cols : List LCol) (inA : Rz) (r : Rz) (H : iN rA q cols inA = some r) :
  aL Tryz.prog 68 [(.agg (dL rA)),(.agg (aw q)),(.list 53 (cols.map aR)),(.list 57 (inA.map (al 48 af)))] (.list 57 (r.map (al 48 af))) := by
 unfold iN at H
 refine PH.ax Tryz.func68 Tryz.ntmps68 ?_
 refine ab (aa (aH ?_))
 refine aH ?_
 refine ah tk rfl (ac (am 1 tk rfl (am 1 tk rfl (ab (ab (aa (ag 2 tk rfl (az tk (zl _) ?_))))))))
 refine ah tk rfl (ac ?_)
 refine gF (γ := OwnRef × (Nat × Nat × (Nat → OwnRef))) (fun t1 g1=>⟨98,upd (upd (upd (upd (upd (upd (fun _=>.any) 10 (.val (iP g1.2.1 t1.2.length g1.2.2.1))) 9 (.own 25 g1.1 (t1.1.map (al 48 af)).length)) 5 (.ptr (aw q))) 4 (.ptr (dL rA))) 3 (.list 57 (inA.map (al 48 af)))) 2 (.list 53 (cols.map aR)),upd (fun _=>none) 990 (iG g1.2.1 g1.2.2.2 (List.map (List.map (al 48 af)) t1.2) g1.2.2.1),eE 57 g1.2.2.2 (List.map (List.map (al 48 af)) t1.2) (upd (fun _=>none) 25 (some ⟨g1.1,57,(t1.1.map (al 48 af)),true⟩))⟩) H (fun _ H=>?_) (fun t1 g1 H=>?_)
 ·refine aM rfl H (fun H=>?_) (fun H=>?_)
  ·refine aa ?_
   refine mz (rows' := List.map (al 48 af) ([[]] : Rz)) tk rfl rfl rfl rfl rfl rfl rfl rfl rfl (iz.cons (lA.nil tk rfl) iz.nil) fun g25=>?_
   refine sQ 990 57 tk rfl rfl rfl rfl rfl rfl rfl rfl fun bf26 cf26=>?_
   refine ag 2 tk rfl (ac ?_)
   refine be _ (g25,(bf26,cf26,(fun _=>⟨none,0⟩))) H (Gh.le (ap (ap (ap (ap (ap (ap aT)))))) (kv rfl aI) (jU (fun i rs h=>by first | exact ek h | (simp only [lP,gD,hJ,Nat.reduceLT]; exact ek h)) (aP aJ)))
  refine ao (ic tk 9 25 (e := 57) rfl rfl ?_)
  refine be _ (⟨none,0⟩,(0,0,fun _=>⟨none,0⟩)) H (Gh.le (ap (ap (ap (ap (ap (ap aT)))))) (sI aI) (sF (aP aJ)))
 refine ab (ab (aa (ah tk rfl (az tk (zl _) ?_))))
 refine ah tk rfl (ac ?_)
 obtain ⟨fl2,H2,Hp2⟩ := au H
 refine gG tk 27 rfl rfl (fun hz2 _=>?_)
 rw [zl] at hz2
 refine dM (τ := Rz × List Rz) (γ := OwnRef × (Nat × Nat × (Nat → OwnRef))) (fun s2 g2=>⟨98,upd (upd (upd (upd (upd (fun _=>.any) 10 (.val (iP g2.2.1 s2.2.length g2.2.2.1))) 9 (.own 25 g2.1 (s2.1.map (al 48 af)).length)) 5 (.ptr (aw q))) 4 (.ptr (dL rA))) 2 (.list 53 (cols.map aR)),upd (fun _=>none) 990 (iG g2.2.1 g2.2.2.2 (List.map (List.map (al 48 af)) s2.2) g2.2.2.1),eE 57 g2.2.2.2 (List.map (List.map (al 48 af)) s2.2) (upd (fun _=>none) 25 (some ⟨g2.1,57,(s2.1.map (al 48 af)),true⟩))⟩) (fun t=>fl2 = .next t) ?_ (fun s2 g2 hn2=>?_)
 ·refine av ?_
  refine eF (fun j2 s2 g2=>⟨98,upd (upd (upd (upd (upd (upd (upd (upd (fun _=>.any) 29 (ai (j2 : Int))) 28 (ai (inA.length : Int))) 27 (.list 57 (inA.map (al 48 af)))) 10 (.val (iP g2.2.1 s2.2.length g2.2.2.1))) 9 (.own 25 g2.1 (s2.1.map (al 48 af)).length)) 5 (.ptr (aw q))) 4 (.ptr (dL rA))) 2 (.list 53 (cols.map aR)),upd (fun _=>none) 990 (iG g2.2.1 g2.2.2.2 (List.map (List.map (al 48 af)) s2.2) g2.2.2.1),eE 57 g2.2.2.2 (List.map (List.map (al 48 af)) s2.2) (upd (fun _=>none) 25 (some ⟨g2.1,57,(s2.1.map (al 48 af)),true⟩))⟩) (g1.1,(g1.2.1,g1.2.2.1,g1.2.2.2)) H2 (Gh.le (ap (ap (ap (ap (ap (ap (ap (ap aT)))))))) (kv rfl aI) (jU (fun i rs h=>by first | exact ek h | (simp only [lP,gD,hJ,Nat.reduceLT]; exact ek h)) (aP aJ))) (fun j2 s2 g2 hj2 hr2=>?_)
  refine am 1 tk rfl (ab ?_)
  refine bh rfl (fun h=>?_) (fun h=>?_)
  ·have hl2 := pl h
   obtain ⟨x2,fb2,hx2,H,hg2⟩ := rMc hl2 hr2
   refine ao (ab (av (ab (aa ?_))))
   refine aU tk (zn j2) (bl (fun _=>rfl) hx2) ?_
   refine ag 2 tk rfl (ac (ab (aa (ag 5 tk rfl ?_))))
   obtain ⟨x38,h38,H⟩ := au H
   have s38 := jN rA cols x2 q.exprs _ h38
   refine aj Tryz.call67 (gK.r) s38 ?_
   refine aN tk fun b13=>?_
   refine ak tk ?_
   refine ac (ab (aa (ah tk rfl (dB (Gh.freezeB 13 rfl rfl rfl rfl) (ah tk rfl ?_)))))
   obtain ⟨x41,h41,H⟩ := au H
   have s41 := fA g2.1 s2.1 (fun a0=>fZ a0 x38) Tryz.call91 (fun a0 r h=>qt a0 x38 r h) _ h41
   obtain ⟨_,q41_0,H⟩ := au H
   have l41_0 := (dH q41_0).1
   have z41_0 : (List.map (al 48 af) s2.1).length = (List.map (al 48 af) x41.2).length := by simpa using (l41_0).symm
   refine dD (g := 85) rfl rfl rfl Tryz.call85 [] [(25,0)] rfl rfl rfl rfl (gK.of2 (iz.cons (lA.own rfl) (iz.cons (lA.of_eq rfl) iz.nil))) (by rw [cX,cl,cZ]; rfl) s41 ?_
   rintro u41 H41h ⟨rfl,rfl⟩
   refine ⟨_,rfl,?_⟩
   refine dB (st' := ⟨_,_,upd (fun _=>none) 990 (iG g2.2.1 g2.2.2.2 (List.map (List.map (al 48 af)) s2.2) g2.2.2.1),eE 57 g2.2.2.2 (List.map (List.map (al 48 af)) s2.2) (upd (fun _=>none) 25 (some ⟨g2.1,57,(x41.2.map (al 48 af)),true⟩))⟩) (Gh.le (cA _ _) (kv rfl aI) (jU (fun i rs h=>by first | exact ek h | (simp only [gD,hJ,Nat.reduceLT]; exact ek h)) (aP aJ))) ?_
   refine ah tk rfl (ac (ab (am 2 tk rfl ?_)))
   refine fS (γ := OwnRef × (Nat × Nat × (Nat → OwnRef))) (fun t7 g7=>⟨98,upd (upd (upd (upd (upd (upd (upd (upd (upd (upd (fun _=>.any) 29 (ai (j2 : Int))) 28 (ai (inA.length : Int))) 27 (.list 57 (inA.map (al 48 af)))) 14 (ai t7.2.2)) 12 (.list 48 (x2.map af))) 10 (.val (iP g7.2.1 t7.2.1.length g7.2.2.1))) 9 (.own 25 g7.1 (t7.1.map (al 48 af)).length)) 5 (.ptr (aw q))) 4 (.ptr (dL rA))) 2 (.list 53 (cols.map aR)),upd (fun _=>none) 990 (iG g7.2.1 g7.2.2.2 (List.map (List.map (al 48 af)) t7.2.1) g7.2.2.1),eE 57 g7.2.2.2 (List.map (List.map (al 48 af)) t7.2.1) (upd (fun _=>none) 25 (some ⟨g7.1,57,(t7.1.map (al 48 af)),true⟩))⟩) H (fun _ H=>?_) (fun t7 g7 H=>?_)
   ·refine aM rfl H (fun H=>?_) (fun H=>?_)
    ·refine ab (aa (ah tk rfl (el tk (z41_0.trans (zl _)) ?_)))
     refine ah tk rfl (ac (aa (ag 2 tk rfl (cv tk (rows' := List.map (al 48 af) ([x38] : Rz)) (gP.refl _) ?_))))
     obtain ⟨x49,h49,H⟩ := au H
     have k49 := bX h49
     refine cr (rows2' := List.map (al 48 af) ([x38] : Rz)) (rows' := List.map (al 48 af) x49) tk rfl rfl rfl rfl rfl rfl rfl rfl rfl rfl rfl z41_0 rfl (gP.refl _) (cK k49.1) (cI k49.2.1) (cF k49.2.2) fun g49=>?_
     refine ah tk rfl (qT tk rfl rfl rfl rfl rfl rfl ?_)
     obtain ⟨x52,h52,H⟩ := au H
     have k52 := bX h52
     refine dB (st' := ⟨_,_,upd (fun _=>none) 990 (iG g2.2.1 g2.2.2.2 (List.map (List.map (al 48 af)) s2.2) g2.2.2.1),eE 57 g2.2.2.2 (List.map (List.map (al 48 af)) s2.2) (upd (fun _=>none) 25 (some ⟨g49,57,(x49.map (al 48 af)),true⟩))⟩) (Gh.le (cA _ _) (kv rfl aI) (jU (fun i rs h=>by first | exact ek h | (simp only [lP,Nat.reduceLT]; exact ek h)) (aP aJ))) ?_
     refine sP 990 57 tk rfl rfl rfl rfl rfl rfl rfl rfl rfl rfl rfl (zl _).symm rfl rfl (by rw [zl]; exact k52.1) (by rw [zl]; exact k52.2.1) fun bf52 cf52=>?_
     have hz52 : List.map (List.map (al 48 af)) x52 = List.map (List.map (al 48 af)) s2.2 ++ [[]] := by rw [k52.2.2,List.map_append]; rfl
     refine dB (st' := ⟨_,_,upd (fun _=>none) 990 (iG bf52 (upd g2.2.2.2 s2.2.length ⟨none,0⟩) (List.map (List.map (al 48 af)) x52) cf52),eE 57 (upd g2.2.2.2 s2.2.length ⟨none,0⟩) (List.map (List.map (al 48 af)) x52) (upd (fun _=>none) 25 (some ⟨g49,57,(x49.map (al 48 af)),true⟩))⟩) (Gh.le (cA _ _) (kv (by rw [hz52]; rfl) aI) (jU (fun i rs h=>by rw [hz52] at h; exact ek h) (aP aJ))) ?_
     refine lO 52 (q := (.val (iP bf52 x52.length cf52))) rfl (PLe.q (by rw [k52.2.2,List.length_append]; rfl)) ?_
     refine ag 2 tk rfl (ac ?_)
     refine be _ (g49,(bf52,cf52,(upd g2.2.2.2 s2.2.length ⟨none,0⟩))) (aA H) (Gh.le (ap (ap (ap (ap (ap (ap (ap (ap (ap (ap aT)))))))))) (kv rfl aI) (jU (fun i rs h=>by first | exact ek h | (simp only [lP,gD,hJ,Nat.reduceLT]; exact ek h)) (aP aJ)))
    refine ao ?_
    refine be _ (g2.1,(g2.2.1,g2.2.2.1,g2.2.2.2)) (aA H) (Gh.le (ap (ap (ap (bs (PLe.of2 (lA.of_eq (congrArg (PV.own 25 g2.1) z41_0))) (ap (ap (ap (ap (ap (ap aT)))))))))) (kv rfl aI) (jU (fun i rs h=>by first | exact ek h | (simp only [lP,gD,hJ,Nat.reduceLT]; exact ek h)) (aP aJ)))
   refine aa (ag 4 tk rfl ?_)
   obtain ⟨x57,k57,H⟩ := bq H
   have wk57 : (List.map (List.map (al 48 af)) t7.2.1)[t7.2.2.toNat]? = some (List.map (al 48 af) x57) := by rw [List.getElem?_map,k57.2]; rfl
   refine so 990 tk rfl rfl rfl rfl rfl rfl rfl rfl ⟨k57.1,(zg.1 k57.2).1⟩ rfl ?_
   refine sX (hok := pf _ _ _) tk rfl rfl rfl rfl rfl (qH wk57) (famCells_get wk57) rfl (ah tk rfl (cv tk (rows' := List.map (al 48 af) ([x2] : Rz)) (gP.refl _) ?_))
   obtain ⟨x61,h61,H⟩ := au H
   have k61 := bX h61
   refine cr (rows2' := List.map (al 48 af) ([x2] : Rz)) (rows' := List.map (al 48 af) x61) tk rfl rfl rfl rfl rfl rfl rfl rfl rfl rfl (ek wk57) rfl rfl (gP.refl _) (cK k61.1) (cI k61.2.1) (cF k61.2.2) fun g61=>?_
   obtain ⟨x62,k62,H⟩ := bq H
   have wk62 : (List.map (List.map (al 48 af)) t7.2.1)[t7.2.2.toNat]? = some (List.map (al 48 af) x62) := by rw [List.getElem?_map,k62.2]; rfl
   refine so 990 tk rfl rfl rfl rfl rfl rfl rfl rfl ⟨k62.1,(zg.1 k62.2).1⟩ rfl ?_
   obtain ⟨y8,hy8,H⟩ := cL H
   have hzy8 : List.map (List.map (al 48 af)) y8 = (List.map (List.map (al 48 af)) t7.2.1).set t7.2.2.toNat (List.map (al 48 af) x61) := by rw [← hy8,List.map_set]
   have hly8 : y8.length = t7.2.1.length := by rw [← hy8,List.length_set]
   refine sM (hok := pf _ _ _) tk rfl rfl rfl rfl rfl rfl (qH wk62) rfl rfl (by rw [nR]; exact Nat.lt_of_lt_of_le (zg.1 wk62).1 (jw _ _)) (famCells_set wk62 _) ?_
   refine dB (st' := ⟨_,_,upd (fun _=>none) 990 (iG g7.2.1 (upd g7.2.2.2 t7.2.2.toNat g61) (List.map (List.map (al 48 af)) y8) g7.2.2.1),eE 57 (upd g7.2.2.2 t7.2.2.toNat g61) (List.map (List.map (al 48 af)) y8) (upd (fun _=>none) 25 (some ⟨g7.1,57,(t7.1.map (al 48 af)),true⟩))⟩) (Gh.le (cA _ _) (kv (famB_put wk62 hzy8) aI) (jU (famO_put wk62 hzy8) (sZ (by rw [eY _ _ (by unfold bF; omega)]; rfl) aJ))) ?_
   refine lO 10 (q := (.val (iP g7.2.1 y8.length g7.2.2.1))) rfl (PLe.q (by rw [hly8]; rfl)) ?_
   refine lO 53 (q := (.val (iP g7.2.1 y8.length g7.2.2.1))) rfl (PLe.q (by rw [hly8]; rfl)) ?_
   refine lO 55 (q := (.val (iP g7.2.1 y8.length g7.2.2.1))) rfl (PLe.q (by rw [hly8]; rfl)) ?_
   refine ac (aG (bc 2 tk rfl ?_))
   exact bg (g7.1,(g7.2.1,g7.2.2.1,(upd g7.2.2.2 t7.2.2.toNat g61))) H hl2 hg2 (Gh.le (ap (ap (ap (ap (ap (ap (ap (bs (PLe.q (ft (by omega))) aT)))))))) (kv rfl aI) (jU (fun i rs h=>by first | exact ek h | (simp only [lP,gD,hJ,Nat.reduceLT]; exact ek h)) (aP aJ)))
  have hn2 := rMd (pp h) hr2
  refine bm rfl ?_
  refine be s2 g2 hn2 (Gh.le (ap (ap (ap (ap (ap aT))))) (kv rfl aI) (jU (fun i rs h=>by first | exact ek h | (simp only [lP,gD,hJ,Nat.reduceLT]; exact ek h)) (aP aJ)))
 have H := ci hn2 Hp2
 refine am 1 tk rfl (ab (ab (aa (ah tk rfl (el tk (zl _) ?_)))))
 refine ah tk rfl (ac ?_)
 obtain ⟨_,hf9,H⟩ := au H
 have kf9 := (dH hf9).1
 refine sx 10 990 tk (e := 57) (e' := 40) (rows := List.map (al 57 (al 48 af)) s2.2) rfl rfl rfl (zl _).symm rfl (by rw [zl]; exact kf9) (by rw [zl]; unfold maxLen; omega) (by rw [List.map_map]; rfl) ?_
 obtain ⟨n10,hs10,H⟩ := au H
 have hz10 := fm hs10
 obtain ⟨fl10,H10,Hp10⟩ := au H
 refine dM (τ := Rz) (γ := OwnRef) (fun s10 g10=>⟨98,upd (fun _=>.any) 15 (.own 95 g10 (s10.map (al 48 af)).length),fun _=>none,upd (fun _=>none) 95 (some ⟨g10,57,(s10.map (al 48 af)),true⟩)⟩) (fun t=>fl10 = .next t) ?_ (fun s10 g10 hn10=>?_)
 ·refine av (ic tk 15 95 (e := 57) rfl rfl ?_)
  refine eF (fun j10 s10 g10=>⟨98,upd (upd (upd (upd (upd (upd (upd (upd (fun _=>.any) 66 (ai (j10 : Int))) 65 (ai (s2.1.length : Int))) 64 (.own 25 g2.1 (s2.1.map (al 48 af)).length)) 15 (.own 95 g10 (s10.map (al 48 af)).length)) 10 (.list 40 (s2.2.map (al 57 (al 48 af))))) 5 (.ptr (aw q))) 4 (.ptr (dL rA))) 2 (.list 53 (cols.map aR)),fun _=>none,upd (upd (fun _=>none) 95 (some ⟨g10,57,(s10.map (al 48 af)),true⟩)) 25 (some ⟨g2.1,57,(s2.1.map (al 48 af)),true⟩)⟩) (⟨none,0⟩) H10 Gh.d (fun j10 s10 g10 hj10 hr10=>?_)
  refine am 1 tk rfl (ab ?_)
  refine bh rfl (fun h=>?_) (fun h=>?_)
  ·have hl10 := kT hz10 h
   obtain ⟨x10,fb10,hx10,H,hg10⟩ := rMc hl10 hr10
   obtain rfl := mA hx10
   refine ao (ab (av (ab (aa (ah tk rfl ?_)))))
   obtain ⟨x69,k69,H⟩ := bq H
   refine gA (tag := 25) rfl (fun ho25=>?_)
   refine fH tk ⟨k69.1,(cE k69.2)⟩ (cN ho25 k69.2) ?_
   refine lD tk rfl rfl rfl rfl rfl rfl rfl (aO (fun _=>rfl) k69.2) rfl rfl ?_
   refine ag 2 tk rfl (ac (ab (aa (ah tk rfl ?_))))
   have s72 := clone_40 (m := 72) x69
   refine lE (g := 40) rfl rfl rfl Tryz.call40 (gK.r) rfl rfl s72 (fun g72=>?_)
   refine ah tk rfl (ac (ab (ab (aa (ag 2 tk rfl (az tk (zl _) ?_))))))
   refine ah tk rfl (ac ?_)
   refine fg (γ := OwnRef) tk 76 75 74 (fun s13 g13=>upd (upd (upd (upd (upd (upd (upd (upd (upd (upd (fun _=>.any) 66 (ai (j10 : Int))) 65 (ai (s2.1.length : Int))) 64 (.own 25 g2.1 (s2.1.map (al 48 af)).length)) 18 (.own 72 g13 (s13.map af).length)) 16 (ai (j10 : Int))) 15 (.own 95 g10 (s10.map (al 48 af)).length)) 10 (.list 40 (s2.2.map (al 57 (al 48 af))))) 5 (.ptr (aw q))) 4 (.ptr (dL rA))) 2 (.list 53 (cols.map aR))) nB (fun s13 g13=>upd (upd (upd (fun _=>none) 95 (some ⟨g10,57,(s10.map (al 48 af)),true⟩)) 72 (some ⟨g13,48,(s13.map af),true⟩)) 25 (some ⟨g2.1,57,(s2.1.map (al 48 af)),true⟩)) g72 H (fun fl13 Hp13 j13 s13 g13 hz13 hl13 x13 fb13 hx13 H hg13=>?_) (fun s13 g13 H=>?_)
   ·refine ab (av (ab (aa ?_)))
    refine aU tk (zn j13) (bl (fun _=>rfl) hx13) ?_
    refine ah tk rfl ?_
    refine aN tk fun b20=>?_
    refine ak tk ?_
    refine ac ?_
    refine jA (tag := 25) rfl (fun ho25=>?_)
    refine jA (tag := 72) rfl (fun ho72=>?_)
    refine jA (tag := 95) rfl (fun ho95=>?_)
    refine bo tk mok ⟨true,false,[81,87]⟩ [0,1,2,3,4,5,6,7,8,9,10,11] rfl (by decide +kernel) rfl (aW 2 rfl (bi ?_))
    refine aW 3 rfl ?_
    obtain ⟨x86,k86,H⟩ := bq H
    refine bK k86.1 (aO (fun _=>rfl) k86.2) ?_
    refine bt rfl ?_
    obtain ⟨x88,h88,H⟩ := au H
    have s88 := rX rA x13 cols x86 _ h88
    refine aZ Tryz.call92 (gK.r) s88 ?_
    refine bt rfl ?_
    obtain ⟨x90,h90,H⟩ := au H
    have k90 := bX h90
    refine ew (rows2' := List.map af ([x88] : Rq)) (rows' := List.map af x90) tk rfl rfl rfl rfl rfl rfl rfl rfl rfl rfl rfl rfl rfl rfl (gP.refl _) (cK k90.1) (cI k90.2.1) (cF k90.2.2) fun g90=>?_
    refine bt rfl (bn (aG (bc 2 tk rfl ?_)))
    exact bg g90 H hl13 hg13
   refine dZ 18 rfl rfl rfl (aa (ag 2 tk rfl (cv tk (rows' := List.map (al 48 af) ([s13] : Rz)) (gP.refl _) ?_)))
   obtain ⟨x95,h95,H⟩ := au H
   have k95 := bX h95
   refine cr (rows2' := List.map (al 48 af) ([s13] : Rz)) (rows' := List.map (al 48 af) x95) tk rfl rfl rfl rfl rfl rfl rfl rfl rfl rfl rfl rfl rfl (gP.refl _) (cK k95.1) (cI k95.2.1) (cF k95.2.2) fun g95=>?_
   refine ah tk rfl (ac (aG (bc 2 tk rfl ?_)))
   exact bg g95 H hl10 hg10 (Gh.le (ap (ap (ap (ap (ap (ap (ap (bs (PLe.q (fR hz10 hl10)) aT)))))))) aI (aP (aP aJ)))
  have hn10 := rMd (kX hz10 h) hr10
  refine bm rfl ?_
  refine be s10 g10 hn10 Gh.d
 have H := ci hn10 Hp10
 refine am 2 tk rfl (dZ 8 rfl rfl rfl ?_)
 exact aS tk H rfl
def fI (a : Rq) (b : Rq) (c0 : LRun) (c1 : List LCol) (c2 : LQuery) : Option (Int) :=
 ae (dy c0 c1 a c2.exprs) fun x13 =>
 ae (dy c0 c1 b c2.exprs) fun x19 =>
 ae (ie x13 x19 c2.descending) fun x22 =>
 some x22
theorem qM (a : Rq) (b : Rq) (c0 : LRun) (c1 : List LCol) (c2 : LQuery) (r : Int) (H : fI a b c0 c1 c2 = some r) :
  aL Tryz.prog 94 [(.list 48 (a.map af)),(.list 48 (b.map af)),(.ptr (dL c0)),(.ptr [(.list 53 (c1.map aR))]),(.ptr (aw c2))] (ai r) := by
 unfold fI at H
 refine PH.ax Tryz.func94 Tryz.ntmps94 ?_
 refine am 1 tk rfl (ab (bo tk mok ⟨false,false,[]⟩ [0,1,2,3,4,6,7,8,9,10,12,13,5,11,14,15] rfl (by decide +kernel) rfl (aW 12 rfl ?_)))
 obtain ⟨x13,h13,H⟩ := au H
 have s13 := jN c0 c1 a c2.exprs _ h13
 refine aZ Tryz.call67 (gK.r) s13 ?_
 obtain ⟨x19,h19,H⟩ := au H
 have s19 := jN c0 c1 b c2.exprs _ h19
 refine aZ Tryz.call67 (gK.r) s19 ?_
 obtain ⟨x22,h22,H⟩ := au H
 have s22 := qr x13 x19 c2.descending _ h22
 refine aZ Tryz.call95 (gK.r) s22 ?_
 refine bt rfl (bn ?_)
 exact aS tk H rfl
def iK (sA : LSchema) : Option (Int) :=
 br (
  cond (decide ((sA.tables.length : Int) > (6 : Int)))
   (true)
   (cond (decide ((sA.foreignKeys.length : Int) > (8 : Int)))
    (true)
    ((decide ((sA.constraints.length : Int) > (8 : Int)))))) fun (t1 : Bool) =>
 cond t1
  (some 2)
  (ae (aD (σ := Unit) (ρ := (Int)) (fun (j2 : Nat) (x2 : LTable) (_ : Unit) =>
   ae (fq x2) fun x37 =>
   cond (x37 != (0 : Int))
    (some (.ret x37))
    (cond (decide ((j2 : Int) > (0 : Int)))
     (ae (aK sA.tables (IntKind.i64.wrap ((j2 : Int) - (1 : Int)))) fun (x50 : LTable) =>
     cond (Op.bytesLess x2.name x50.name || x2.name == x50.name)
      (some (.ret 6))
      (some (.next ())))
     (some (.next ())))) 0 sA.tables ()) fun fl2=>fl2.thenR fun (_ : Unit) =>
  ae (aD (σ := Unit) (ρ := (Int)) (fun (j3 : Nat) (x3 : LForeignKey) (_ : Unit) =>
   ae (eJ sA x3) fun x66 =>
   cond (x66 != (0 : Int))
    (some (.ret x66))
    (ae (nn sA.foreignKeys 0 (j3 : Int)) fun (x73 : List LForeignKey) =>
    ae (bY x73 (fun a0=>gc a0 x3)) fun x75 =>
    cond x75
     (some (.ret 5))
     (some (.next ())))) 0 sA.foreignKeys ()) fun fl3=>fl3.thenR fun (_ : Unit) =>
  ae (aD (σ := Unit) (ρ := (Int)) (fun (j4 : Nat) (x4 : LConstraint) (_ : Unit) =>
   ae (eN sA x4) fun x87 =>
   cond (x87 != (0 : Int))
    (some (.ret x87))
    (ae (nn sA.constraints 0 (j4 : Int)) fun (x94 : List LConstraint) =>
    ae (ce x94 x4) fun x96 =>
    cond x96
     (some (.ret 5))
     (some (.next ())))) 0 sA.constraints ()) fun fl4=>fl4.thenR fun (_ : Unit) =>
  some 0)
theorem ri (sA : LSchema) (r : Int) (H : iK sA = some r) :
  aL Tryz.prog 30 [(.agg (bG sA))] (ai r) := by
 unfold iK at H
 refine PH.ax Tryz.func30 Tryz.ntmps30 ?_
 refine ab (aa (aH ?_))
 refine ah tk rfl (ac (ab (ab ?_)))
 refine gF (γ := Unit) (fun t1 g1=>⟨98,upd (upd (fun _=>.any) 27 (ay t1)) 1 (.ptr (bG sA)),fun _=>none,fun _=>none⟩) H (fun _ H=>?_) (fun t1 g1 H=>?_)
 ·refine aa (ag 2 tk rfl (az tk (zl _) ?_))
  refine ag 2 tk rfl ?_
  refine aV rfl rfl rfl H (fun H=>?_) (fun H=>?_)
  ·refine ag 11 tk rfl (ac ?_)
   refine be _ () H Gh.d
  refine ag 2 tk rfl (az tk (zl _) ?_)
  refine ag 3 tk rfl ?_
  refine aV rfl rfl rfl H (fun H=>?_) (fun H=>?_)
  ·refine ag 5 tk rfl (ac ?_)
   refine be _ () H Gh.d
  refine ag 2 tk rfl (az tk (zl _) ?_)
  refine ag 2 tk rfl (ac ?_)
  refine be _ () H Gh.d
 refine aM rfl H (fun H=>?_) (fun H=>?_)
 ·refine am 1 tk rfl ?_
  exact aS tk H rfl
 refine ao (ab (ab (aa (ag 2 tk rfl (az tk (zl _) ?_)))))
 refine ah tk rfl (ac ?_)
 refine ez tk 31 30 29 (fun s2 g2=>upd (fun _=>.any) 1 (.ptr (bG sA))) nB nO () H (fun fl2 Hp2 j2 s2 g2 hz2 hl2 x2 fb2 hx2 H hg2=>?_) (fun s2 g2 H=>?_)
 ·refine ab (av (ab (aa (ah tk rfl ?_))))
  refine aU tk (zn j2) (bl (fun _=>rfl) hx2) ?_
  refine ah tk rfl ?_
  refine aN tk fun b4=>?_
  refine ah tk rfl (ak tk ?_)
  refine ac (ab (ab (aa (aq tk ?_))))
  obtain ⟨x37,h37,H⟩ := au H
  have s37 := oS x2 _ h37
  refine aj Tryz.call42 (gK.r) s37 ?_
  refine ah tk rfl (ac (am 2 tk rfl ?_))
  refine aM rfl H (fun H=>?_) (fun H=>?_)
  ·refine am 2 tk rfl ?_
   obtain rfl := aA H
   have e2 : fl2 = .ret _ := hg2
   subst e2
   obtain rfl := aY Hp2
   refine bj tk rfl (ps := [(ai x37)]) ⟨_,_,rfl,rfl,rfl⟩ (PLe.q rfl)
  refine ao (ab (bo tk mok ⟨true,false,[47,52]⟩ [0,1,2,3,4,5,6,7,8,9,10,11,12,13] rfl (by decide +kernel) rfl (aW 3 rfl ?_)))
  refine mR H (fun H=>?_) (fun H=>?_)
  ·refine bt rfl (bi ?_)
   refine aW 4 rfl ?_
   obtain ⟨x50,k50,H⟩ := bq H
   refine bK k50.1 (aO (fun _=>rfl) k50.2) ?_
   refine aW 4 rfl (bn ?_)
   refine aM rfl H (fun H=>?_) (fun H=>?_)
   ·refine am 1 tk rfl ?_
    obtain rfl := aA H
    have e2 : fl2 = .ret _ := hg2
    subst e2
    obtain rfl := aY Hp2
    refine bj tk rfl (ps := [(ai 6)]) ⟨_,_,rfl,rfl,rfl⟩ (PLe.q rfl)
   refine ao (aG (bc 2 tk rfl ?_))
   exact bg () H hl2 hg2
  refine aW 11 rfl (bn (bB rfl (ao (aG (bc 2 tk rfl ?_)))))
  exact bg () H hl2 hg2
 refine ab (ab (aa (ag 2 tk rfl (az tk (zl _) ?_))))
 refine ah tk rfl (ac ?_)
 refine ez tk 59 58 57 (fun s3 g3=>upd (fun _=>.any) 1 (.ptr (bG sA))) nB nO () H (fun fl3 Hp3 j3 s3 g3 hz3 hl3 x3 fb3 hx3 H hg3=>?_) (fun s3 g3 H=>?_)
 ·refine ab (av (ab (aa (ah tk rfl ?_))))
  refine aU tk (zn j3) (bl (fun _=>rfl) hx3) ?_
  refine ah tk rfl ?_
  refine aN tk fun b7=>?_
  refine ah tk rfl (ak tk ?_)
  refine ac (ab (ab (aa (ah tk rfl (aq tk ?_)))))
  obtain ⟨x66,h66,H⟩ := au H
  have s66 := mX sA x3 _ h66
  refine aj Tryz.call43 (gK.r) s66 ?_
  refine ah tk rfl (ac (am 2 tk rfl ?_))
  refine aM rfl H (fun H=>?_) (fun H=>?_)
  ·refine am 2 tk rfl ?_
   obtain rfl := aA H
   have e3 : fl3 = .ret _ := hg3
   subst e3
   obtain rfl := aY Hp3
   refine bj tk rfl (ps := [(ai x66)]) ⟨_,_,rfl,rfl,rfl⟩ (PLe.q rfl)
  refine ao (ab (aa (ag 3 tk rfl ?_)))
  obtain ⟨x73,h73,H⟩ := au H
  have k73 := oH h73
  refine sl tk rfl rfl rfl rfl rfl (zl _) rfl rfl k73.1 (pC k73.2) rfl (dB (Gh.freezeB 7 rfl rfl rfl rfl) (ah tk rfl ?_))
  obtain ⟨x75,h75,H⟩ := au H
  have s75 := iH x73 (fun a0=>gc a0 x3) Tryz.call45 (fun a0 r h=>qv a0 x3 r h) _ h75
  refine aj Tryz.call44 (gK.r) s75 ?_
  refine ac ?_
  refine aM rfl H (fun H=>?_) (fun H=>?_)
  ·refine am 1 tk rfl ?_
   obtain rfl := aA H
   have e3 : fl3 = .ret _ := hg3
   subst e3
   obtain rfl := aY Hp3
   refine bj tk rfl (ps := [(ai 5)]) ⟨_,_,rfl,rfl,rfl⟩ (PLe.q rfl)
  refine ao (aG (bc 2 tk rfl ?_))
  exact bg () H hl3 hg3
 refine ab (ab (aa (ag 2 tk rfl (az tk (zl _) ?_))))
 refine ah tk rfl (ac ?_)
 refine ez tk 80 79 78 (fun s4 g4=>upd (fun _=>.any) 1 (.ptr (bG sA))) nB nO () H (fun fl4 Hp4 j4 s4 g4 hz4 hl4 x4 fb4 hx4 H hg4=>?_) (fun s4 g4 H=>?_)
 ·refine ab (av (ab (aa (ah tk rfl ?_))))
  refine aU tk (zn j4) (bl (fun _=>rfl) hx4) ?_
  refine ah tk rfl ?_
  refine aN tk fun b10=>?_
  refine ah tk rfl (ak tk ?_)
  refine ac (ab (ab (aa (ah tk rfl (aq tk ?_)))))
  obtain ⟨x87,h87,H⟩ := au H
  have s87 := nh sA x4 _ h87
  refine aj Tryz.call47 (gK.r) s87 ?_
  refine ah tk rfl (ac (am 2 tk rfl ?_))
  refine aM rfl H (fun H=>?_) (fun H=>?_)
  ·refine am 2 tk rfl ?_
   obtain rfl := aA H
   have e4 : fl4 = .ret _ := hg4
   subst e4
   obtain rfl := aY Hp4
   refine bj tk rfl (ps := [(ai x87)]) ⟨_,_,rfl,rfl,rfl⟩ (PLe.q rfl)
  refine ao (ab (bo tk mok ⟨true,false,[92]⟩ [0,1,2,3,4,5] rfl (by decide +kernel) rfl (aW 3 rfl ?_)))
  obtain ⟨x94,h94,H⟩ := au H
  have k94 := oH h94
  refine Do.subL rfl rfl rfl rfl rfl rfl (zl _) rfl rfl k94.1 (pC k94.2) rfl (bi ?_)
  obtain ⟨x96,h96,H⟩ := au H
  have s96 := jn x94 x4 _ h96
  refine aZ Tryz.call48 (gK.r) s96 ?_
  refine bn ?_
  refine aM rfl H (fun H=>?_) (fun H=>?_)
  ·refine am 1 tk rfl ?_
   obtain rfl := aA H
   have e4 : fl4 = .ret _ := hg4
   subst e4
   obtain rfl := aY Hp4
   refine bj tk rfl (ps := [(ai 5)]) ⟨_,_,rfl,rfl,rfl⟩ (PLe.q rfl)
  refine ao (aG (bc 2 tk rfl ?_))
  exact bg () H hl4 hg4
 refine am 1 tk rfl ?_
 exact aS tk H rfl
def eS (rec57 : LChecker → LQuery → Option ((List LCol) × Int)) (c : LChecker) (q : LQuery) : Option ((List LCol) × Int) :=
 ae (km q) fun x16 =>
 cond (!x16)
  (some ([],3))
  (ae (aD (σ := List (List LCol)) (ρ := ((List LCol) × Int)) (fun (_ : Nat) (x1 : LQuery) (s1 : List (List LCol)) =>
   ae (rec57 c x1) fun x28 =>
   cond (x28.2 != (0 : Int))
    (some (.ret ([],x28.2)))
    (ae (cy 24 s1 ([x28.1] : List (List LCol))) fun (x37 : List (List LCol)) =>
    some (.next x37))) 0 q.inputs []) fun fl1=>fl1.thenR fun (s1 : List (List LCol)) =>
  ae (ii c q s1) fun x43 =>
  cond (x43.2 != (0 : Int))
   (some ([],x43.2))
   (cond (decide ((x43.1.length : Int) > (20 : Int)))
    (some ([],2))
    (ae (aD (σ := Unit) (ρ := ((List LCol) × Int)) (fun (j2 : Nat) (x2 : LCol) (_ : Unit) =>
     ae (nn x43.1 0 (j2 : Int)) fun (x61 : List LCol) =>
     ae (bZ x61 (fun a0=>some (ck a0 x2))) fun x63 =>
     cond x63
      (some (.ret ([],23)))
      (some (.next ()))) 0 x43.1 ()) fun fl2=>fl2.thenR fun (_ : Unit) =>
    some (x43.1,0))))
theorem ou (rec57 : LChecker → LQuery → Option ((List LCol) × Int)) (hrec57 : ∀ a0 a1 r,rec57 a0 a1 = some r → aL Tryz.prog 57 [(.agg (dW a0)),(.agg (aw a1))] (.tup [(.list 53 (r.1.map aR)),(ai r.2)])) (c : LChecker) (q : LQuery) (r : (List LCol) × Int) (H : eS rec57 c q = some r) :
  aL Tryz.prog 57 [(.agg (dW c)),(.agg (aw q))] (.tup [(.list 53 (r.1.map aR)),(ai r.2)]) := by
 unfold eS at H
 refine PH.ax Tryz.func57 Tryz.ntmps57 ?_
 refine ab (aa (aH ?_))
 refine aH ?_
 refine ag 2 tk rfl (ac (ab (ab (aa (ah tk rfl ?_)))))
 obtain ⟨x16,h16,H⟩ := au H
 have s16 := W_query_shape q _ h16
 refine aj Tryz.call79 (gK.r) s16 ?_
 refine ah tk rfl (ac ?_)
 refine aM rfl H (fun H=>?_) (fun H=>?_)
 ·refine am 2 tk rfl ?_
  obtain rfl := aA H
  refine bj tk rfl (ps := [(.val (.slice none 0 0)),(ai 3)]) ⟨_,_,rfl,rfl,_,_,rfl,rfl,rfl⟩ (PLe.of2 (lA.tup (iz.cons (lA.nil tk rfl) (iz.cons (lA.of_eq rfl) iz.nil))))
 refine ao (am 1 tk rfl (ab (ab (aa (ag 2 tk rfl (az tk (zl _) ?_))))))
 refine ah tk rfl (ac (ic tk 6 37 (e := 39) rfl rfl ?_))
 refine ez (γ := OwnRef) tk 21 20 19 (fun s1 g1=>upd (upd (upd (fun _=>.any) 6 (.own 37 g1 (s1.map (al 53 aR)).length)) 3 (.ptr (aw q))) 2 (.ptr (dW c))) nB (fun s1 g1=>upd (fun _=>none) 37 (some ⟨g1,39,(s1.map (al 53 aR)),true⟩)) (⟨none,0⟩) H (fun fl1 Hp1 j1 s1 g1 hz1 hl1 x1 fb1 hx1 H hg1=>?_) (fun s1 g1 H=>?_)
 ·refine ab (av (ab (aa (aU tk (zn j1) (bl bA hx1) ?_))))
  refine ah tk rfl ?_
  refine aN tk fun b8=>?_
  refine ak tk ?_
  refine ac (ab (aa (ah tk rfl (aq tk ?_))))
  obtain ⟨x28,h28,H⟩ := au H
  have s28 := hrec57 c x1 _ h28
  refine aj Tryz.call57 (gK.r) s28 ?_
  refine ag 5 tk rfl (ac (ab (am 2 tk rfl ?_)))
  refine aM rfl H (fun H=>?_) (fun H=>?_)
  ·refine am 3 tk rfl ?_
   obtain rfl := aA H
   have e1 : fl1 = .ret _ := hg1
   subst e1
   obtain rfl := aY Hp1
   refine bj tk rfl (ps := [(.val (.slice none 0 0)),(ai x28.2)]) ⟨_,_,rfl,rfl,_,_,rfl,rfl,rfl⟩ (PLe.of2 (lA.tup (iz.cons (lA.nil tk rfl) (iz.cons (lA.of_eq rfl) iz.nil))))
  refine ao (aa (ag 2 tk rfl (cv tk (rows' := List.map (al 53 aR) ([x28.1] : List (List LCol))) (gP.refl _) ?_)))
  obtain ⟨x37,h37,H⟩ := au H
  have k37 := bX h37
  refine cr (rows2' := List.map (al 53 aR) ([x28.1] : List (List LCol))) (rows' := List.map (al 53 aR) x37) tk rfl rfl rfl rfl rfl rfl rfl rfl rfl rfl rfl rfl rfl (gP.refl _) (cK k37.1) (cI k37.2.1) (cF k37.2.2) fun g37=>?_
  refine ah tk rfl (ac (aG (bc 2 tk rfl ?_)))
  exact bg g37 H hl1 hg1
 refine ab (dZ 6 rfl rfl rfl (aa (ag 3 tk rfl ?_)))
 obtain ⟨x43,h43,H⟩ := au H
 have s43 := qq c q s1 _ h43
 refine aj Tryz.call80 (gK.r) s43 ?_
 refine ag 5 tk rfl (ac (ab (am 2 tk rfl ?_)))
 refine aM rfl H (fun H=>?_) (fun H=>?_)
 ·refine am 3 tk rfl ?_
  obtain rfl := aA H
  refine bj tk rfl (ps := [(.val (.slice none 0 0)),(ai x43.2)]) ⟨_,_,rfl,rfl,_,_,rfl,rfl,rfl⟩ (PLe.of2 (lA.tup (iz.cons (lA.nil tk rfl) (iz.cons (lA.of_eq rfl) iz.nil))))
 refine ao (ab (ab (aa (ah tk rfl (az tk (zl _) ?_)))))
 refine ah tk rfl (ac ?_)
 refine aM rfl H (fun H=>?_) (fun H=>?_)
 ·refine am 2 tk rfl ?_
  obtain rfl := aA H
  refine bj tk rfl (ps := [(.val (.slice none 0 0)),(ai 2)]) ⟨_,_,rfl,rfl,_,_,rfl,rfl,rfl⟩ (PLe.of2 (lA.tup (iz.cons (lA.nil tk rfl) (iz.cons (lA.of_eq rfl) iz.nil))))
 refine ao (ab (ab (aa (ah tk rfl (az tk (zl _) ?_)))))
 refine ah tk rfl (ac ?_)
 refine ez tk 54 53 52 (fun s2 g2=>upd (fun _=>.any) 11 (.list 53 (x43.1.map aR))) nB nO () H (fun fl2 Hp2 j2 s2 g2 hz2 hl2 x2 fb2 hx2 H hg2=>?_) (fun s2 g2 H=>?_)
 ·refine ab (av (ab (aa (ah tk rfl ?_))))
  refine aU tk (zn j2) (bl (fun _=>rfl) hx2) ?_
  refine ah tk rfl ?_
  refine aN tk fun b14=>?_
  refine ah tk rfl (ak tk ?_)
  refine ac (ab (aa (ag 2 tk rfl ?_)))
  obtain ⟨x61,h61,H⟩ := au H
  have k61 := oH h61
  refine sl tk rfl rfl rfl rfl rfl (zl _) rfl rfl k61.1 (pC k61.2) rfl (dB (Gh.freezeB 14 rfl rfl rfl rfl) (ah tk rfl ?_))
  obtain ⟨x63,h63,H⟩ := au H
  have s63 := jI x61 (fun a0=>some (ck a0 x2)) Tryz.call82 (fun a0 r h=>(aA h) ▸ nJ a0 x2) _ h63
  refine aj Tryz.call81 (gK.r) s63 ?_
  refine ac ?_
  refine aM rfl H (fun H=>?_) (fun H=>?_)
  ·refine am 2 tk rfl ?_
   obtain rfl := aA H
   have e2 : fl2 = .ret _ := hg2
   subst e2
   obtain rfl := aY Hp2
   refine bj tk rfl (ps := [(.val (.slice none 0 0)),(ai 23)]) ⟨_,_,rfl,rfl,_,_,rfl,rfl,rfl⟩ (PLe.of2 (lA.tup (iz.cons (lA.nil tk rfl) (iz.cons (lA.of_eq rfl) iz.nil))))
  refine ao (aG (bc 2 tk rfl ?_))
  exact bg () H hl2 hg2
 refine am 3 tk rfl ?_
 exact aS tk H rfl
def eQ : Nat → LChecker → LQuery → Option ((List LCol) × Int)
 | 0,_,_=>none
 | n + 1,v0,v1=>eS (fun b0 b1=>eQ n b0 b1) v0 v1
theorem nZ  (n : Nat) : (∀ a0 a1 r,eQ n a0 a1 = some r → aL Tryz.prog 57 [(.agg (dW a0)),(.agg (aw a1))] (.tup [(.list 53 (r.1.map aR)),(ai r.2)])) := by
 induction n with
 | zero=>exact (by intros; rename_i h; exact absurd (show (none : Option _) = some _ from h) (by simp))
 | succ n ih =>
  exact (fun v0 v1 r h=>ou (fun b0 b1=>eQ n b0 b1) ih v0 v1  r h)
def eP (c : LChecker) (q : LQuery) : Option ((List LCol) × Int) := ik fun n=>eQ n c q
theorem lb (c : LChecker) (q : LQuery) (r : (List LCol) × Int) (H : eP c q = some r) :
  aL Tryz.prog 57 [(.agg (dW c)),(.agg (aw q))] (.tup [(.list 53 (r.1.map aR)),(ai r.2)]) := by
 obtain ⟨n,h⟩ := gX H
 exact (nZ  n) c q r h
def fE (rA : LRun) (q : LQuery) (cols : List LCol) (inA : Rz) : Option (Rz) :=
 ae (cO inA (fun a0 a1=>fI a0 a1 rA cols q)) fun x14 =>
 ae (fe (x14.length = inA.length) ()) fun (_ : Unit) =>
 some x14
theorem rU (rA : LRun) (q : LQuery) (cols : List LCol) (inA : Rz) (r : Rz) (H : fE rA q cols inA = some r) :
  aL Tryz.prog 69 [(.agg (dL rA)),(.agg (aw q)),(.list 53 (cols.map aR)),(.list 57 (inA.map (al 48 af)))] (.list 57 (r.map (al 48 af))) := by
 unfold fE at H
 refine PH.ax Tryz.func69 Tryz.ntmps69 ?_
 refine ab (aa (aH ?_))
 refine aH ?_
 refine aH ?_
 refine ah tk rfl (ac (ab (aa (ah tk rfl ?_))))
 have s11 := pQ (m := 11) inA
 refine lE (g := 59) rfl rfl rfl Tryz.call59 (gK.r) rfl rfl s11 (fun g11=>?_)
 refine ah tk rfl (ac (ab (aa (ag 2 tk rfl ?_))))
 obtain ⟨x14,h14,H⟩ := au H
 have s14 := kh g11 inA (fun a0 a1=>fI a0 a1 rA cols q) Tryz.call94 (fun a0 a1 r h=>qM a0 a1 rA cols q r h) _ h14
 obtain ⟨_,q14_0,H⟩ := au H
 have l14_0 := (dH q14_0).1
 have z14_0 : (List.map (al 48 af) inA).length = (List.map (al 48 af) x14).length := by simpa using (l14_0).symm
 refine dD (g := 93) rfl rfl rfl Tryz.call93 [] [(11,0)] rfl rfl rfl rfl (gK.of2 (iz.cons (lA.own rfl) (iz.cons (lA.of_eq rfl) iz.nil))) (by rw [cX,cl,cZ]; rfl) s14 ?_
 rintro u14 H14h ⟨rfl,rfl⟩
 refine ⟨_,rfl,?_⟩
 refine dB (st' := ⟨_,_,fun _=>none,upd (fun _=>none) 11 (some ⟨g11,57,(x14.map (al 48 af)),true⟩)⟩) (Gh.le (cA _ _) aI (aP aJ)) ?_
 refine ac (am 2 tk rfl (dZ 8 rfl rfl z14_0 ?_))
 exact aS tk H rfl
def gg (sA : LSchema) (vars : List LCol) (q : LQuery) : Option ((List LCol) × Int) :=
 ae (
  ae (js q) fun x12 =>
  cond (decide ((x12.length : Int) > (24 : Int)))
   (some true)
   (ae (kp q) fun x17 =>
   cond (decide (x17 > (12 : Int)))
    (some true)
    (ae (fX q) fun x22 =>
    some (decide (x22 > (20000 : Int)))))) fun (t1 : Bool) =>
 cond t1
  (some ([],2))
  (ae (fh q) fun x27 =>
  cond (x27.2 != (0 : Int))
   (some ([],x27.2))
   (ae (eP (LChecker.mk sA vars) q) fun x38 =>
   some (x38.1,x38.2)))
theorem ms (sA : LSchema) (vars : List LCol) (q : LQuery) (r : (List LCol) × Int) (H : gg sA vars q = some r) :
  aL Tryz.prog 38 [(.agg (bG sA)),(.list 53 (vars.map aR)),(.agg (aw q))] (.tup [(.list 53 (r.1.map aR)),(ai r.2)]) := by
 unfold gg at H
 refine PH.ax Tryz.func38 Tryz.ntmps38 ?_
 refine ab (aa (aH ?_))
 refine aH ?_
 refine ag 2 tk rfl (ac (ab (ab ?_)))
 refine fS (γ := Unit) (fun t1 g1=>⟨41,upd (upd (upd (upd (fun _=>.any) 24 (ay t1)) 5 (.ptr (aw q))) 3 (.ptr (bG sA))) 1 (.list 53 (vars.map aR)),fun _=>none,fun _=>none⟩) H (fun _ H=>?_) (fun t1 g1 H=>?_)
 ·refine aa (ah tk rfl ?_)
  obtain ⟨x12,h12,H⟩ := au H
  have s12 := qh (m := 12) q _ h12
  refine aj Tryz.call53 (gK.r) (PFun.jH s12) ?_
  refine az tk (zl _) ?_
  refine ag 2 tk rfl ?_
  refine aV rfl rfl rfl H (fun H=>?_) (fun H=>?_)
  ·refine ag 9 tk rfl (ac ?_)
   refine be _ () (aA H) Gh.d
  refine ah tk rfl ?_
  obtain ⟨x17,h17,H⟩ := au H
  have s17 := W_query_depth q _ h17
  refine aj Tryz.call55 (gK.r) s17 ?_
  refine ag 3 tk rfl ?_
  refine aV rfl rfl rfl H (fun H=>?_) (fun H=>?_)
  ·refine ag 4 tk rfl (ac ?_)
   refine be _ () (aA H) Gh.d
  refine ah tk rfl ?_
  obtain ⟨x22,h22,H⟩ := au H
  have s22 := mS q _ h22
  refine aj Tryz.call56 (gK.r) s22 ?_
  refine ag 2 tk rfl (ac ?_)
  refine be _ () (aA H) Gh.d
 refine aM rfl H (fun H=>?_) (fun H=>?_)
 ·refine am 2 tk rfl ?_
  obtain rfl := aA H
  refine bj tk rfl (ps := [(.val (.slice none 0 0)),(ai 2)]) ⟨_,_,rfl,rfl,_,_,rfl,rfl,rfl⟩ (PLe.of2 (lA.tup (iz.cons (lA.nil tk rfl) (iz.cons (lA.of_eq rfl) iz.nil))))
 refine ao (ab (ab (aa (ah tk rfl ?_))))
 obtain ⟨x27,h27,H⟩ := au H
 have s27 := lf q _ h27
 refine aj Tryz.call35 (gK.r) s27 ?_
 refine ag 5 tk rfl (ac (am 2 tk rfl ?_))
 refine aM rfl H (fun H=>?_) (fun H=>?_)
 ·refine am 3 tk rfl ?_
  obtain rfl := aA H
  refine bj tk rfl (ps := [(.val (.slice none 0 0)),(ai x27.2)]) ⟨_,_,rfl,rfl,_,_,rfl,rfl,rfl⟩ (PLe.of2 (lA.tup (iz.cons (lA.nil tk rfl) (iz.cons (lA.of_eq rfl) iz.nil))))
 refine ao (ab (aa (ag 3 tk rfl ?_)))
 refine aN tk fun b10=>?_
 refine ak tk ?_
 refine ac (ab (aa (aq tk ?_)))
 refine ah tk rfl ?_
 obtain ⟨x38,h38,H⟩ := au H
 have s38 := lb (LChecker.mk sA vars) q _ h38
 refine aj Tryz.call57 (gK.r) s38 ?_
 refine ag 4 tk rfl (ac ?_)
 exact aS tk H rfl
def gv (rA : LRun) (q : LQuery) : Option ((List LCol)) :=
 ae (eP (LChecker.mk rA.s rA.vars) q) fun x14 =>
 some x14.1
theorem lG (rA : LRun) (q : LQuery) (r : (List LCol)) (H : gv rA q = some r) :
  aL Tryz.prog 61 [(.agg (dL rA)),(.agg (aw q))] (.list 53 (r.map aR)) := by
 unfold gv at H
 refine PH.ax Tryz.func61 Tryz.ntmps61 ?_
 refine ab (aa (aH ?_))
 refine aH ?_
 refine ah tk rfl (ac (ab (aa (ag 6 tk rfl ?_))))
 obtain ⟨x14,h14,H⟩ := au H
 have s14 := lb (LChecker.mk rA.s rA.vars) q _ h14
 refine aj Tryz.call57 (gK.r) s14 ?_
 refine ag 5 tk rfl (ac (am 2 tk rfl ?_))
 exact aS tk H rfl
def kd (rec39 : LRun → LQuery → Option (Rz)) (rec58 : LRun → LQuery → Option (Rz)) (rA : LRun) (q : LQuery) : Option (Rz) :=
 cond (q.kind == (1 : Int))
  (ae (aD (σ := Unit) (ρ := (Rz)) (fun (_ : Nat) (x1 : LRelation) (_ : Unit) =>
   cond (x1.table == q.table)
    (some (.ret x1.rows))
    (some (.next ()))) 0 rA.st ()) fun fl1=>fl1.thenR fun (_ : Unit) =>
  some [])
  (br (
   cond (q.kind == (4 : Int))
    ((q.kind == (4 : Int)))
    ((q.kind == (5 : Int)))) fun (t2 : Bool) =>
  cond t2
   (ae (rec58 rA q) fun x37 =>
   some x37)
   (cond (q.kind == (6 : Int))
    (ae (aK q.inputs 0) fun (x43 : LQuery) =>
    ae (aK q.inputs 1) fun (x50 : LQuery) =>
    ae (rec39 rA x43) fun x45 =>
    ae (rec39 rA x50) fun x52 =>
    ae (cy 24 x45 x52) fun (x53 : Rz) =>
    some x53)
    (cond (q.kind == (7 : Int))
     (ae (aK q.inputs 0) fun (x59 : LQuery) =>
     ae (aK q.inputs 1) fun (x65 : LQuery) =>
     ae (rec39 rA x59) fun x61 =>
     ae (rec39 rA x65) fun x67 =>
     ae (kG x61 x67) fun x68 =>
     some x68)
     (ae (aK q.inputs 0) fun (x72 : LQuery) =>
     ae (rec39 rA x72) fun x74 =>
     ae (aK q.inputs 0) fun (x78 : LQuery) =>
     ae (gv rA x78) fun x80 =>
     cond (q.kind == (2 : Int))
      (ae (dh x74 (fun a0=>iy a0 rA x80 q)) fun x88 =>
      some x88)
      (cond (q.kind == (3 : Int))
       (ae (aD (σ := Rz) (ρ := Empty) (fun (_ : Nat) (x3 : Rq) (s3 : Rz) =>
        ae (dy rA x80 x3 q.exprs) fun x103 =>
        ae (cy 24 s3 ([x103] : Rz)) fun (x105 : Rz) =>
        some (.next x105)) 0 x74 []) fun fl3=>fl3.thenP fun (s3 : Rz) =>
       some s3)
       (cond (q.kind == (8 : Int))
        (ae (iN rA q x80 x74) fun x114 =>
        some x114)
        (cond (q.kind == (9 : Int))
         (ae (fE rA q x80 x74) fun x121 =>
         some x121)
         (ae (nn x74 (if (x74.length : Int) < q.offset then (x74.length : Int) else q.offset) (IntKind.i64.wrap ((if (x74.length : Int) < q.offset then (x74.length : Int) else q.offset) + (if (IntKind.i64.wrap ((x74.length : Int) - (if (x74.length : Int) < q.offset then (x74.length : Int) else q.offset))) < q.count then (IntKind.i64.wrap ((x74.length : Int) - (if (x74.length : Int) < q.offset then (x74.length : Int) else q.offset))) else q.count)))) fun (x138 : Rz) =>
         some x138))))))))
theorem rh (rec39 : LRun → LQuery → Option (Rz)) (rec58 : LRun → LQuery → Option (Rz)) (hrec39 : ∀ a0 a1 r,rec39 a0 a1 = some r → aL Tryz.prog 39 [(.agg (dL a0)),(.agg (aw a1))] (.list 57 (r.map (al 48 af)))) (hrec58 : ∀ a0 a1 r,rec58 a0 a1 = some r → aL Tryz.prog 58 [(.agg (dL a0)),(.agg (aw a1))] (.list 57 (r.map (al 48 af)))) (rA : LRun) (q : LQuery) (r : Rz) (H : kd rec39 rec58 rA q = some r) :
  aL Tryz.prog 39 [(.agg (dL rA)),(.agg (aw q))] (.list 57 (r.map (al 48 af))) := by
 unfold kd at H
 refine PH.ax Tryz.func39 Tryz.ntmps39 ?_
 refine ab (aa (aH ?_))
 refine aH ?_
 refine ah tk rfl (ac (ab (am 2 tk rfl (av (am 2 tk rfl ?_)))))
 refine aM rfl H (fun H=>?_) (fun H=>?_)
 ·refine ab (ab (aa (ag 2 tk rfl (az tk (zl _) ?_))))
  refine ah tk rfl (ac ?_)
  refine ez tk 20 19 18 (fun s1 g1=>upd (fun _=>.any) 3 (.ptr (aw q))) nB nO () H (fun fl1 Hp1 j1 s1 g1 hz1 hl1 x1 fb1 hx1 H hg1=>?_) (fun s1 g1 H=>?_)
  ·refine ab (av (ab (aa ?_)))
   refine aU tk (zn j1) (bl (fun _=>rfl) hx1) ?_
   refine ah tk rfl ?_
   refine aN tk fun b6=>?_
   refine ak tk ?_
   refine ac (ab (aa (ah tk rfl (aq tk ?_))))
   refine ag 3 tk rfl (ac ?_)
   refine aM rfl H (fun H=>?_) (fun H=>?_)
   ·refine ab (aa (ah tk rfl (aq tk ?_)))
    refine ah tk rfl (ac ?_)
    obtain rfl := aA H
    have e1 : fl1 = .ret _ := hg1
    subst e1
    obtain rfl := aY Hp1
    refine bj tk rfl (ps := [(.list 57 (x1.rows.map (al 48 af)))]) ⟨_,_,rfl,rfl,rfl⟩ (PLe.q rfl)
   refine ao (aG (bc 2 tk rfl ?_))
   exact bg () H hl1 hg1
  refine am 1 tk rfl ?_
  obtain rfl := aA H
  refine bj tk rfl (ps := [(.val (.slice none 0 0))]) ⟨_,_,rfl,rfl,rfl⟩ (PLe.of2 (lA.nil tk rfl))
 refine ab (am 2 tk rfl ?_)
 refine gF (γ := Unit) (fun t2 g2=>⟨139,upd (upd (upd (upd (fun _=>.any) 32 (ay t2)) 14 (ai q.kind)) 3 (.ptr (aw q))) 2 (.ptr (dL rA)),fun _=>none,fun _=>none⟩) H (fun _ H=>?_) (fun t2 g2 H=>?_)
 ·refine aM rfl H (fun H=>?_) (fun H=>?_)
  ·refine ao ?_
   refine be _ () H Gh.d
  refine bc 2 tk rfl ?_
  refine be _ () H Gh.d
 refine aM rfl H (fun H=>?_) (fun H=>?_)
 ·refine ab (aa (ag 2 tk rfl ?_))
  obtain ⟨x37,h37,H⟩ := au H
  have s37 := hrec58 rA q _ h37
  refine aj Tryz.call58 (gK.r) s37 ?_
  refine ah tk rfl (ac ?_)
  exact aS tk H rfl
 refine am 2 tk rfl ?_
 refine aM rfl H (fun H=>?_) (fun H=>?_)
 ·refine ab (bo tk mok ⟨false,false,[]⟩ [0,1,2,3,4,7,8,9,10,11,5,6,12,13,14] rfl (by decide +kernel) rfl (aW 3 rfl ?_))
  obtain ⟨x43,k43,H⟩ := bq H
  refine bK k43.1 (aO bA k43.2) ?_
  refine aW 4 rfl ?_
  obtain ⟨x50,k50,H⟩ := bq H
  refine bK k50.1 (aO bA k50.2) ?_
  refine bt rfl ?_
  obtain ⟨x45,h45,H⟩ := au H
  have s45 := hrec39 rA x43 _ h45
  refine aZ Tryz.call39 (gK.r) s45 ?_
  have s46 := pQ (m := 46) x45
  refine kK (g := 59) rfl rfl rfl rfl Tryz.call59 (gK.r) rfl rfl s46 (fun g46=>?_)
  obtain ⟨x52,h52,H⟩ := au H
  have s52 := hrec39 rA x50 _ h52
  refine aZ Tryz.call39 (gK.r) s52 ?_
  obtain ⟨x53,h53,H⟩ := au H
  have k53 := bX h53
  refine ew (rows2' := List.map (al 48 af) x52) (rows' := List.map (al 48 af) x53) tk rfl rfl rfl rfl rfl rfl rfl rfl rfl rfl rfl rfl rfl rfl (gP.refl _) (cK k53.1) (cI k53.2.1) (cF k53.2.2) fun g53=>?_
  refine bt rfl (bn (dZ 4 rfl rfl rfl ?_))
  exact aS tk H rfl
 refine am 2 tk rfl ?_
 refine aM rfl H (fun H=>?_) (fun H=>?_)
 ·refine ab (bo tk mok ⟨false,false,[]⟩ [0,1,2,3,4,6,7,8,9,10,5,11,12,13] rfl (by decide +kernel) rfl (aW 3 rfl ?_))
  obtain ⟨x59,k59,H⟩ := bq H
  refine bK k59.1 (aO bA k59.2) ?_
  refine aW 4 rfl ?_
  obtain ⟨x65,k65,H⟩ := bq H
  refine bK k65.1 (aO bA k65.2) ?_
  refine bt rfl ?_
  obtain ⟨x61,h61,H⟩ := au H
  have s61 := hrec39 rA x59 _ h61
  refine aZ Tryz.call39 (gK.r) s61 ?_
  obtain ⟨x67,h67,H⟩ := au H
  have s67 := hrec39 rA x65 _ h67
  refine aZ Tryz.call39 (gK.r) s67 ?_
  obtain ⟨x68,h68,H⟩ := au H
  have s68 := W_query_less x61 x67 _ h68
  refine aZ Tryz.call60 (gK.r) s68 ?_
  refine bt rfl (bn ?_)
  exact aS tk H rfl
 refine ao (aG (ab (bo tk mok ⟨false,false,[]⟩ [0,1,2,3,4,5,6] rfl (by decide +kernel) rfl (aW 3 rfl ?_))))
 obtain ⟨x72,k72,H⟩ := bq H
 refine bK k72.1 (aO bA k72.2) ?_
 refine bt rfl ?_
 obtain ⟨x74,h74,H⟩ := au H
 have s74 := hrec39 rA x72 _ h74
 refine aZ Tryz.call39 (gK.r) s74 ?_
 refine bt rfl (bn (ab (bo tk mok ⟨false,false,[]⟩ [0,1,2,3,4,5,6,7] rfl (by decide +kernel) rfl (aW 3 rfl ?_))))
 obtain ⟨x78,k78,H⟩ := bq H
 refine bK k78.1 (aO bA k78.2) ?_
 refine bt rfl ?_
 obtain ⟨x80,h80,H⟩ := au H
 have s80 := lG rA x78 _ h80
 refine aZ Tryz.call61 (gK.r) s80 ?_
 refine qd rfl rfl rfl rfl rfl rfl rfl rfl fun b8=>?_
 refine bR ?_
 refine bn (ab (am 2 tk rfl (av (am 2 tk rfl ?_))))
 refine aM rfl H (fun H=>?_) (fun H=>?_)
 ·refine ab (aa (ah tk rfl ?_))
  have s86 := pQ (m := 86) x74
  refine lE (g := 59) rfl rfl rfl Tryz.call59 (gK.r) rfl rfl s86 (fun g86=>?_)
  refine dB (Gh.freezeB 8 rfl rfl rfl rfl) (ah tk rfl ?_)
  obtain ⟨x88,h88,H⟩ := au H
  have s88 := kM g86 x74 (fun a0=>iy a0 rA x80 q) Tryz.call63 (fun a0 r h=>qP a0 rA x80 q r h) _ h88
  refine dD (g := 62) rfl rfl rfl Tryz.call62 [] [(86,0)] rfl rfl rfl rfl (gK.of2 (iz.cons (lA.own rfl) (iz.cons (lA.of_eq rfl) iz.nil))) (by rw [cX,cl,cZ]; rfl) s88 ?_
  rintro u88 H88h ⟨rfl,rfl⟩
  refine ⟨_,rfl,?_⟩
  refine dB (st' := ⟨_,_,fun _=>none,upd (fun _=>none) 86 (some ⟨g86,57,(x88.map (al 48 af)),true⟩)⟩) (Gh.le (cA _ _) aI (aP aJ)) ?_
  refine lO 88 (q := (.own 86 g86 (x88.map (al 48 af)).length)) rfl (PLe.of2 (lA.own rfl)) (ah tk rfl (ac (dZ 4 rfl rfl rfl ?_)))
  exact aS tk H rfl
 refine am 2 tk rfl ?_
 refine aM rfl H (fun H=>?_) (fun H=>?_)
 ·refine am 1 tk rfl (ab (ab (aa (ah tk rfl (az tk (zl _) ?_)))))
  refine ah tk rfl (ac ?_)
  obtain ⟨fl3,H3,Hp3⟩ := au H
  refine gG tk 91 rfl rfl (fun hz3 _=>?_)
  rw [zl] at hz3
  refine dM (τ := Rz) (γ := OwnRef) (fun s3 g3=>⟨139,upd (upd (upd (fun _=>.any) 9 (.own 105 g3 (s3.map (al 48 af)).length)) 3 (.ptr (aw q))) 2 (.ptr (dL rA)),fun _=>none,upd (fun _=>none) 105 (some ⟨g3,57,(s3.map (al 48 af)),true⟩)⟩) (fun t=>fl3 = .next t) ?_ (fun s3 g3 hn3=>?_)
  ·refine av (ic tk 9 105 (e := 57) rfl rfl ?_)
   refine eF (fun j3 s3 g3=>⟨139,upd (upd (upd (upd (upd (upd (upd (fun _=>.any) 93 (ai (j3 : Int))) 92 (ai (x74.length : Int))) 91 (.list 57 (x74.map (al 48 af)))) 9 (.own 105 g3 (s3.map (al 48 af)).length)) 8 (.box 8 b8 0)) 3 (.ptr (aw q))) 2 (.ptr (dL rA)),upd (fun _=>none) 8 (some ⟨b8,[(.list 53 (x80.map aR))]⟩),upd (fun _=>none) 105 (some ⟨g3,57,(s3.map (al 48 af)),true⟩)⟩) (⟨none,0⟩) H3 Gh.d (fun j3 s3 g3 hj3 hr3=>?_)
   refine am 1 tk rfl (ab ?_)
   refine bh rfl (fun h=>?_) (fun h=>?_)
   ·have hl3 := pl h
    obtain ⟨x3,fb3,hx3,H,hg3⟩ := rMc hl3 hr3
    refine ao (ab (av (ab (aa ?_))))
    refine aU tk (zn j3) (bl (fun _=>rfl) hx3) ?_
    refine ag 2 tk rfl (ac (aa (ag 2 tk rfl (aq tk ?_))))
    refine ag 3 tk rfl ?_
    obtain ⟨x103,h103,H⟩ := au H
    have s103 := jN rA x80 x3 q.exprs _ h103
    refine aj Tryz.call67 (gK.r) s103 ?_
    refine cv tk (rows' := List.map (al 48 af) ([x103] : Rz)) (gP.refl _) ?_
    obtain ⟨x105,h105,H⟩ := au H
    have k105 := bX h105
    refine cr (rows2' := List.map (al 48 af) ([x103] : Rz)) (rows' := List.map (al 48 af) x105) tk rfl rfl rfl rfl rfl rfl rfl rfl rfl rfl rfl rfl rfl (gP.refl _) (cK k105.1) (cI k105.2.1) (cF k105.2.2) fun g105=>?_
    refine ah tk rfl (ac (aG (bc 2 tk rfl ?_)))
    exact bg g105 H hl3 hg3
   have hn3 := rMd (pp h) hr3
   refine bm rfl ?_
   refine be s3 g3 hn3 Gh.d
  have H := ci hn3 Hp3
  refine am 2 tk rfl (dZ 4 rfl rfl rfl ?_)
  exact aS tk H rfl
 refine am 2 tk rfl ?_
 refine aM rfl H (fun H=>?_) (fun H=>?_)
 ·refine ab (aa (ag 2 tk rfl (aq tk ?_)))
  refine ah tk rfl ?_
  obtain ⟨x114,h114,H⟩ := au H
  have s114 := ro rA q x80 x74 _ h114
  refine aj Tryz.call68 (gK.r) s114 ?_
  refine ah tk rfl (ac ?_)
  exact aS tk H rfl
 refine am 2 tk rfl ?_
 refine aM rfl H (fun H=>?_) (fun H=>?_)
 ·refine ab (aa (ag 2 tk rfl (aq tk ?_)))
  refine ah tk rfl ?_
  obtain ⟨x121,h121,H⟩ := au H
  have s121 := rU rA q x80 x74 _ h121
  refine aj Tryz.call69 (gK.r) s121 ?_
  refine ah tk rfl (ac ?_)
  exact aS tk H rfl
 refine ao (aG (ab (aa (ag 3 tk rfl (az tk (zl _) ?_)))))
 refine ag 2 tk rfl (ac (ab (aa (ag 6 tk rfl (az tk (zl _) ?_)))))
 refine ag 4 tk rfl ?_
 obtain ⟨x138,h138,H⟩ := au H
 have k138 := oH h138
 refine sl tk rfl rfl rfl rfl rfl (zl _) rfl rfl k138.1 (pC k138.2) rfl (ah tk rfl (ac ?_))
 exact aS tk H rfl
def jm (rec39 : LRun → LQuery → Option (Rz)) (_rec58 : LRun → LQuery → Option (Rz)) (rA : LRun) (q : LQuery) : Option (Rz) :=
 ae (aK q.inputs 0) fun (x19 : LQuery) =>
 ae (aK q.inputs 1) fun (x25 : LQuery) =>
 ae (rec39 rA x19) fun x21 =>
 ae (rec39 rA x25) fun x27 =>
 ae (aK q.inputs 1) fun (x31 : LQuery) =>
 ae (gv rA x31) fun x33 =>
 ae (aK q.inputs 0) fun (x37 : LQuery) =>
 ae (gv rA x37) fun x39 =>
 ae (cy 32 x39 x33) fun (x42 : List LCol) =>
 ae (aD (σ := List LCol × Rz) (ρ := Empty) (fun (_ : Nat) (x1 : Rq) (s1 : List LCol × Rz) =>
  ae (aD (σ := Rz × Bool) (ρ := Empty) (fun (_ : Nat) (x6 : Rq) (s6 : Rz × Bool) =>
   ae (bV ([x1,x6] : Rz)) fun x58 =>
   ae (aK q.exprs 0) fun (x65 : LExpr) =>
   br (bw rA s1.1 x58) fun x62 =>
   br (cM x62 x65) fun x67 =>
   br (kV x67) fun x68 =>
   cond x68
    (ae (cy 24 s6.1 ([x58] : Rz)) fun (x72 : Rz) =>
    some (.next (x72,true)))
    (some (.next (s6.1,s6.2)))) 0 x27 (s1.2,false)) fun fl6=>fl6.thenP fun (s6 : Rz × Bool) =>
  br (
   cond (!s6.2)
    ((q.kind == (5 : Int)))
    (false)) fun (t7 : Bool) =>
  cond t7
   (ae (oO 32 (x33.length : Int)) fun (_ : Unit) =>
   ae (bV ([x1,(List.replicate (x33.length : Int).toNat (LVal.mk 0 0 []))] : Rz)) fun x87 =>
   ae (cy 24 s6.1 ([x87] : Rz)) fun (x89 : Rz) =>
   some (.next (s1.1,x89)))
   (some (.next (s1.1,s6.1)))) 0 x21 (x42,[])) fun fl1=>fl1.thenP fun (s1 : List LCol × Rz) =>
 some s1.2
theorem rk (rec39 : LRun → LQuery → Option (Rz)) (rec58 : LRun → LQuery → Option (Rz)) (hrec39 : ∀ a0 a1 r,rec39 a0 a1 = some r → aL Tryz.prog 39 [(.agg (dL a0)),(.agg (aw a1))] (.list 57 (r.map (al 48 af)))) (_hrec58 : ∀ a0 a1 r,rec58 a0 a1 = some r → aL Tryz.prog 58 [(.agg (dL a0)),(.agg (aw a1))] (.list 57 (r.map (al 48 af)))) (rA : LRun) (q : LQuery) (r : Rz) (H : jm rec39 rec58 rA q = some r) :
  aL Tryz.prog 58 [(.agg (dL rA)),(.agg (aw q))] (.list 57 (r.map (al 48 af))) := by
 unfold jm at H
 refine PH.ax Tryz.func58 Tryz.ntmps58 ?_
 refine ab (aa (aH ?_))
 refine aH ?_
 refine ah tk rfl (ac (ab (bo tk mok ⟨false,false,[]⟩ [0,1,2,3,4,6,7,8,9,10,5,11,12,13] rfl (by decide +kernel) rfl (aW 3 rfl ?_))))
 obtain ⟨x19,k19,H⟩ := bq H
 refine bK k19.1 (aO bA k19.2) ?_
 refine aW 4 rfl ?_
 obtain ⟨x25,k25,H⟩ := bq H
 refine bK k25.1 (aO bA k25.2) ?_
 refine bt rfl ?_
 obtain ⟨x21,h21,H⟩ := au H
 have s21 := hrec39 rA x19 _ h21
 refine aZ Tryz.call39 (gK.r) s21 ?_
 obtain ⟨x27,h27,H⟩ := au H
 have s27 := hrec39 rA x25 _ h27
 refine aZ Tryz.call39 (gK.r) s27 ?_
 refine aW 2 rfl (bn (ab (bo tk mok ⟨false,false,[]⟩ [0,1,2,3,4,5,6] rfl (by decide +kernel) rfl (aW 3 rfl ?_))))
 obtain ⟨x31,k31,H⟩ := bq H
 refine bK k31.1 (aO bA k31.2) ?_
 refine bt rfl ?_
 obtain ⟨x33,h33,H⟩ := au H
 have s33 := lG rA x31 _ h33
 refine aZ Tryz.call61 (gK.r) s33 ?_
 refine bt rfl (bn (ab (bo tk mok ⟨false,false,[]⟩ [0,1,2,3,4,7,5,6,8,9] rfl (by decide +kernel) rfl (aW 3 rfl ?_))))
 obtain ⟨x37,k37,H⟩ := bq H
 refine bK k37.1 (aO bA k37.2) ?_
 refine aW 2 rfl ?_
 obtain ⟨x39,h39,H⟩ := au H
 have s39 := lG rA x37 _ h39
 refine aZ Tryz.call61 (gK.r) s39 ?_
 have s40 := pS (m := 40) x39
 refine kK (g := 83) rfl rfl rfl rfl Tryz.call83 (gK.r) rfl rfl s40 (fun g40=>?_)
 obtain ⟨x42,h42,H⟩ := au H
 have k42 := bX h42
 refine ew (rows2' := List.map aR x33) (rows' := List.map aR x42) tk rfl rfl rfl rfl rfl rfl rfl rfl rfl rfl rfl rfl rfl rfl (gP.refl _) (cK k42.1) (cI k42.2.1) (cF k42.2.2) fun g42=>?_
 refine bt rfl (bn (am 1 tk rfl (ab (ab (aa (ah tk rfl (az tk (zl _) ?_)))))))
 refine ah tk rfl (ac (dZ 8 rfl rfl rfl (ic tk 9 72 (e := 57) rfl rfl ?_)))
 refine sv (γ := OwnRef) tk 43 rfl rfl (fun s1 g1=>upd (upd (upd (upd (upd (fun _=>.any) 9 (.own 72 g1 (s1.2.map (al 48 af)).length)) 7 (.list 53 (x33.map aR))) 6 (.list 57 (x27.map (al 48 af)))) 3 (.ptr (aw q))) 2 (.ptr (dL rA))) nB (fun s1 g1=>upd (fun _=>none) 72 (some ⟨g1,57,(s1.2.map (al 48 af)),true⟩)) (fun e j1 s1 g1=>upd (upd (upd (upd e 45 (ai (j1 : Int))) 44 (ai (x21.length : Int))) 43 (.list 57 (x21.map (al 48 af)))) 8 (.list 53 (s1.1.map aR))) (⟨none,0⟩) H rfl Gh.d (fun _ _ _=>rfl) (fun _ _ _=>rfl) (fun _ _ _=>Gh.d) (fun fl1 Hp1 j1 s1 g1 hz1 hl1 x1 fb1 hx1 H hg1=>?_) (fun s1 g1 H=>?_)
 ·refine ab (av (ab (aa ?_)))
  refine aU tk (zn j1) (bl (fun _=>rfl) hx1) ?_
  refine ag 2 tk rfl (ac (am 1 tk rfl (ab (ab (aa (ah tk rfl (az tk (zl _) ?_)))))))
  refine ah tk rfl (ac ?_)
  refine fg (γ := OwnRef) tk 51 50 49 (fun s6 g6=>upd (upd (upd (upd (upd (upd (upd (upd (upd (upd (upd (fun _=>.any) 45 (ai (j1 : Int))) 44 (ai (x21.length : Int))) 43 (.list 57 (x21.map (al 48 af)))) 12 (ay s6.2)) 11 (.list 48 (x1.map af))) 9 (.own 72 g6 (s6.1.map (al 48 af)).length)) 8 (.list 53 (s1.1.map aR))) 7 (.list 53 (x33.map aR))) 6 (.list 57 (x27.map (al 48 af)))) 3 (.ptr (aw q))) 2 (.ptr (dL rA))) nB (fun s6 g6=>upd (fun _=>none) 72 (some ⟨g6,57,(s6.1.map (al 48 af)),true⟩)) g1 H (fun fl6 Hp6 j6 s6 g6 hz6 hl6 x6 fb6 hx6 H hg6=>?_) (fun s6 g6 H=>?_)
  ·refine ab (av (ab (aa ?_)))
   refine aU tk (zn j6) (bl (fun _=>rfl) hx6) ?_
   refine ag 2 tk rfl (ac (ab (aa (ag 2 tk rfl (cv tk (rows' := List.map (al 48 af) ([x1,x6] : Rz)) (gP.refl _) ?_)))))
   obtain ⟨x58,h58,H⟩ := au H
   have s58 := iW (m := 58) ([x1,x6] : Rz) _ h58
   refine aj Tryz.call84 (gK.r) (PFun.jH s58) ?_
   refine ah tk rfl (ac (ab (bo tk mok ⟨false,false,[]⟩ [0,1,2,4,5,6,7,3,8,9] rfl (by decide +kernel) rfl (aW 5 rfl ?_))))
   obtain ⟨x65,k65,H⟩ := bq H
   refine bK k65.1 (aO bP k65.2) ?_
   refine bt rfl ?_
   obtain ⟨x62,h62,H⟩ := cL H
   have s62 := kC rA s1.1 x58
   rw [h62] at s62
   refine aZ Tryz.call66 (gK.r) s62 ?_
   obtain ⟨x67,h67,H⟩ := cL H
   have s67 := mY x62 x65
   rw [h67] at s67
   refine aZ Tryz.call65 (gK.r) s67 ?_
   obtain ⟨x68,h68,H⟩ := cL H
   have s68 := isTS x67
   rw [h68] at s68
   refine aZ Tryz.call64 (gK.r) s68 ?_
   refine bn ?_
   refine aM rfl H (fun H=>?_) (fun H=>?_)
   ·refine ab (aa (ag 2 tk rfl (cv tk (rows' := List.map (al 48 af) ([x58] : Rz)) (gP.refl _) ?_)))
    obtain ⟨x72,h72,H⟩ := au H
    have k72 := bX h72
    refine cr (rows2' := List.map (al 48 af) ([x58] : Rz)) (rows' := List.map (al 48 af) x72) tk rfl rfl rfl rfl rfl rfl rfl rfl rfl rfl rfl rfl rfl (gP.refl _) (cK k72.1) (cI k72.2.1) (cF k72.2.2) fun g72=>?_
    refine ah tk rfl (ac (bc 1 tk rfl (aG (bc 2 tk rfl ?_))))
    exact bg g72 H hl6 hg6
   refine ao (aG (bc 2 tk rfl ?_))
   exact bg g6 H hl6 hg6
  refine ab ?_
  refine gF (γ := Unit) (fun t7 g7=>⟨92,upd (upd (upd (upd (upd (upd (upd (upd (upd (upd (upd (fun _=>.any) 80 (ay t7)) 45 (ai (j1 : Int))) 44 (ai (x21.length : Int))) 43 (.list 57 (x21.map (al 48 af)))) 11 (.list 48 (x1.map af))) 9 (.own 72 g6 (s6.1.map (al 48 af)).length)) 8 (.list 53 (s1.1.map aR))) 7 (.list 53 (x33.map aR))) 6 (.list 57 (x27.map (al 48 af)))) 3 (.ptr (aw q))) 2 (.ptr (dL rA)),fun _=>none,upd (fun _=>none) 72 (some ⟨g6,57,(s6.1.map (al 48 af)),true⟩)⟩) H (fun _ H=>?_) (fun t7 g7 H=>?_)
  ·refine aa (ag 3 tk rfl ?_)
   refine aV rfl rfl rfl H (fun H=>?_) (fun H=>?_)
   ·refine ag 4 tk rfl (ac ?_)
    refine be _ () H Gh.d
   refine ag 4 tk rfl (ac ?_)
   refine be _ () H Gh.d
  refine aM rfl H (fun H=>?_) (fun H=>?_)
  ·refine aa (ag 3 tk rfl (az tk (zl _) ?_))
   obtain ⟨_,h85,H⟩ := au H
   have k85 := growI_some h85
   refine sV (rows := List.map af (List.replicate (x33.length : Int).toNat (LVal.mk 0 0 []))) tk rfl rfl rfl rfl rfl rfl rfl rfl rfl rfl k85.1 k85.2.1 k85.2.2 (by rw [List.map_replicate]; rfl) fun g85=>?_
   refine dB (Gh.freezeO 85 rfl rfl rfl) (cv tk (rows' := List.map (al 48 af) ([x1,(List.replicate (x33.length : Int).toNat (LVal.mk 0 0 []))] : Rz)) (gP.refl _) ?_)
   obtain ⟨x87,h87,H⟩ := au H
   have s87 := iW (m := 87) ([x1,(List.replicate (x33.length : Int).toNat (LVal.mk 0 0 []))] : Rz) _ h87
   refine aj Tryz.call84 (gK.r) (PFun.jH s87) ?_
   refine cv tk (rows' := List.map (al 48 af) ([x87] : Rz)) (gP.refl _) ?_
   obtain ⟨x89,h89,H⟩ := au H
   have k89 := bX h89
   refine cr (rows2' := List.map (al 48 af) ([x87] : Rz)) (rows' := List.map (al 48 af) x89) tk rfl rfl rfl rfl rfl rfl rfl rfl rfl rfl rfl rfl rfl (gP.refl _) (cK k89.1) (cI k89.2.1) (cF k89.2.2) fun g89=>?_
   refine ah tk rfl (ac (aG (bc 2 tk rfl ?_)))
   exact bg g89 H hl1 hg1
  refine ao (aG (bc 2 tk rfl ?_))
  exact bg g6 H hl1 hg1
 refine am 2 tk rfl (dZ 4 rfl rfl rfl ?_)
 exact aS tk H rfl
mutual
def eW : Nat → LRun → LQuery → Option (Rz)
 | 0,_,_=>none
 | n + 1,v0,v1=>kd (fun b0 b1=>eW n b0 b1) (fun b0 b1=>gu n b0 b1) v0 v1
def gu : Nat → LRun → LQuery → Option (Rz)
 | 0,_,_=>none
 | n + 1,v0,v1=>jm (fun b0 b1=>eW n b0 b1) (fun b0 b1=>gu n b0 b1) v0 v1
end
theorem rt  (n : Nat) : (∀ a0 a1 r,eW n a0 a1 = some r → aL Tryz.prog 39 [(.agg (dL a0)),(.agg (aw a1))] (.list 57 (r.map (al 48 af)))) ∧ (∀ a0 a1 r,gu n a0 a1 = some r → aL Tryz.prog 58 [(.agg (dL a0)),(.agg (aw a1))] (.list 57 (r.map (al 48 af)))) := by
 induction n with
 | zero=>exact ⟨(by intros; rename_i h; exact absurd (show (none : Option _) = some _ from h) (by simp)),(by intros; rename_i h; exact absurd (show (none : Option _) = some _ from h) (by simp))⟩
 | succ n ih =>
  exact ⟨(fun v0 v1 r h=>rh (fun b0 b1=>eW n b0 b1) (fun b0 b1=>gu n b0 b1) ih.1 ih.2 v0 v1  r h),(fun v0 v1 r h=>rk (fun b0 b1=>eW n b0 b1) (fun b0 b1=>gu n b0 b1) ih.1 ih.2 v0 v1  r h)⟩
def lI (rA : LRun) (q : LQuery) : Option (Rz) := ik fun n=>eW n rA q
theorem rN (rA : LRun) (q : LQuery) (r : Rz) (H : lI rA q = some r) :
  aL Tryz.prog 39 [(.agg (dL rA)),(.agg (aw q))] (.list 57 (r.map (al 48 af))) := by
 obtain ⟨n,h⟩ := gX H
 exact (rt  n).1 rA q r h
def lw (sA : LSchema) (q : LQuery) : Option ((List LCol) × Int) :=
 ae (gg sA ([] : List LCol) q) fun x8 =>
 some (x8.1,x8.2)
theorem W_query_Check (sA : LSchema) (q : LQuery) (r : (List LCol) × Int) (H : lw sA q = some r) :
  aL Tryz.prog 31 [(.agg (bG sA)),(.agg (aw q))] (.tup [(.list 53 (r.1.map aR)),(ai r.2)]) := by
 unfold lw at H
 refine PH.ax Tryz.func31 Tryz.ntmps31 ?_
 refine ab (aa (aH ?_))
 refine aH ?_
 refine ag 2 tk rfl (ac (ab (aa (ag 2 tk rfl ?_))))
 obtain ⟨x8,h8,H⟩ := au H
 have s8 := ms sA ([] : List LCol) q _ h8
 refine aj Tryz.call38 (gK.of2 (iz.cons (lA.of_eq rfl) (iz.cons (lA.nil tk rfl) (iz.cons (lA.of_eq rfl) iz.nil)))) s8 ?_
 refine ag 4 tk rfl (ac ?_)
 exact aS tk H rfl
def ip (sA : LSchema) (st : List LRelation) (q : LQuery) (args : Rq) (vars : List LCol) (vals : Rq) : Option (LResult × Int) :=
 ae (gg sA vars q) fun x28 =>
 cond (x28.2 != (0 : Int))
  (some ((LResult.mk [] []),x28.2))
  (ae (fp q args) fun x37 =>
  cond (x37 != (0 : Int))
   (some ((LResult.mk [] []),x37))
   (ae (fu sA st) fun x44 =>
   cond (x44 != (0 : Int))
    (some ((LResult.mk [] []),x44))
    (ae (aD (σ := List (List UInt8)) (ρ := Empty) (fun (_ : Nat) (x1 : LCol) (s1 : List (List UInt8)) =>
     ae (cy 16 s1 ([x1.name] : List (List UInt8))) fun (x66 : List (List UInt8)) =>
     some (.next x66)) 0 vars []) fun fl1=>fl1.thenP fun (s1 : List (List UInt8)) =>
    ae (lI (LRun.mk sA st args vars s1 vals) q) fun x73 =>
    ae (aD (σ := Rz) (ρ := Empty) (fun (_ : Nat) (x2 : Rq) (s2 : Rz) =>
     ae (cy 24 s2 ([x2] : Rz)) fun (x84 : Rz) =>
     some (.next x84)) 0 x73 []) fun fl2=>fl2.thenP fun (s2 : Rz) =>
    some ((LResult.mk x28.1 s2),0))))
theorem oY (sA : LSchema) (st : List LRelation) (q : LQuery) (args : Rq) (vars : List LCol) (vals : Rq) (r : LResult × Int) (H : ip sA st q args vars vals = some r) :
  aL Tryz.prog 28 [(.agg (bG sA)),(.list 59 (st.map bO)),(.agg (aw q)),(.list 48 (args.map af)),(.list 53 (vars.map aR)),(.list 48 (vals.map af))] (.tup [(.agg (dw r.1)),(ai r.2)]) := by
 unfold ip at H
 refine PH.ax Tryz.func28 Tryz.ntmps28 ?_
 refine ab (aa (aH ?_))
 refine aH ?_
 refine aN tk fun b12=>?_
 refine ah tk rfl (ac (ab (aa (ag 3 tk rfl ?_))))
 obtain ⟨x28,h28,H⟩ := au H
 have s28 := ms sA vars q _ h28
 refine aj Tryz.call38 (gK.r) s28 ?_
 refine ag 5 tk rfl (ac (ab (am 2 tk rfl ?_)))
 refine aM rfl H (fun H=>?_) (fun H=>?_)
 ·refine ab (aa (ag 2 tk rfl (ak tk ?_)))
  refine ah tk rfl (ac ?_)
  obtain rfl := aA H
  refine bj tk rfl (ps := [(.agg [(.val (.slice none 0 0)),(.val (.slice none 0 0))]),(ai x28.2)]) ⟨_,_,rfl,⟨_,_,_,_,_,rfl,rfl,rfl,rfl⟩,_,_,rfl,rfl,rfl⟩ (PLe.of2 (lA.tup (iz.cons (lA.agg (iz.cons (lA.nil tk rfl) (iz.cons (lA.nil tk rfl) iz.nil))) (iz.cons (lA.of_eq rfl) iz.nil))))
 refine ao (ab (ab (aa (ag 2 tk rfl ?_))))
 obtain ⟨x37,h37,H⟩ := au H
 have s37 := lp q args _ h37
 refine aj Tryz.call13 (gK.r) s37 ?_
 refine ah tk rfl (ac (am 2 tk rfl ?_))
 refine aM rfl H (fun H=>?_) (fun H=>?_)
 ·refine ab (aa (ag 2 tk rfl (ak tk ?_)))
  refine ah tk rfl (ac ?_)
  obtain rfl := aA H
  refine bj tk rfl (ps := [(.agg [(.val (.slice none 0 0)),(.val (.slice none 0 0))]),(ai x37)]) ⟨_,_,rfl,⟨_,_,_,_,_,rfl,rfl,rfl,rfl⟩,_,_,rfl,rfl,rfl⟩ (PLe.of2 (lA.tup (iz.cons (lA.agg (iz.cons (lA.nil tk rfl) (iz.cons (lA.nil tk rfl) iz.nil))) (iz.cons (lA.of_eq rfl) iz.nil))))
 refine ao (ab (ab (aa (ag 2 tk rfl ?_))))
 obtain ⟨x44,h44,H⟩ := au H
 have s44 := mt sA st _ h44
 refine aj Tryz.call12 (gK.r) s44 ?_
 refine ah tk rfl (ac (am 2 tk rfl ?_))
 refine aM rfl H (fun H=>?_) (fun H=>?_)
 ·refine ab (aa (ag 2 tk rfl (ak tk ?_)))
  refine ah tk rfl (ac ?_)
  obtain rfl := aA H
  refine bj tk rfl (ps := [(.agg [(.val (.slice none 0 0)),(.val (.slice none 0 0))]),(ai x44)]) ⟨_,_,rfl,⟨_,_,_,_,_,rfl,rfl,rfl,rfl⟩,_,_,rfl,rfl,rfl⟩ (PLe.of2 (lA.tup (iz.cons (lA.agg (iz.cons (lA.nil tk rfl) (iz.cons (lA.nil tk rfl) iz.nil))) (iz.cons (lA.of_eq rfl) iz.nil))))
 refine ao (ab (aa (ag 6 tk rfl ?_)))
 refine aN tk fun b18=>?_
 refine ak tk ?_
 refine ac (ab (ab (aa (ah tk rfl (az tk (zl _) ?_)))))
 refine ah tk rfl (ac (iC tk 18 6 66 (e := 9) rfl rfl rfl rfl ?_))
 refine fg (γ := OwnRef) tk 57 56 55 (fun s1 g1=>upd (upd (upd (upd (fun _=>.any) 18 (.box 18 b18 0)) 14 (.list 53 (x28.1.map aR))) 12 (.box 12 b12 0)) 8 (.ptr (aw q))) (fun s1 g1=>upd (upd (fun _=>none) 18 (some ⟨b18,[(.list 56 (sA.tables.map cP)),(.list 101 (sA.foreignKeys.map jz)),(.list 107 (sA.constraints.map kB)),(.list 59 (st.map bO)),(.list 48 (args.map af)),(.list 53 (vars.map aR)),(.own 66 g1 (s1.map cj).length),(.list 48 (vals.map af))]⟩)) 12 (some ⟨b12,[(.val (.slice none 0 0)),(.val (.slice none 0 0))]⟩)) (fun s1 g1=>upd (fun _=>none) 66 (some ⟨g1,9,(s1.map cj),true⟩)) (⟨none,0⟩) H (fun fl1 Hp1 j1 s1 g1 hz1 hl1 x1 fb1 hx1 H hg1=>?_) (fun s1 g1 H=>?_)
 ·refine ab (av (ab (aa ?_)))
  refine aU tk (zn j1) (bl (fun _=>rfl) hx1) ?_
  refine ah tk rfl ?_
  refine aN tk fun b20=>?_
  refine ak tk ?_
  refine ac (aa (ah tk rfl (aq tk ?_)))
  refine ah tk rfl (aq tk ?_)
  refine cv tk (rows' := List.map cj ([x1.name] : List (List UInt8))) (gP.refl _) ?_
  obtain ⟨x66,h66,H⟩ := au H
  have k66 := bX h66
  refine cr (rows2' := List.map cj ([x1.name] : List (List UInt8))) (rows' := List.map cj x66) tk rfl rfl rfl rfl rfl rfl rfl rfl rfl rfl rfl rfl rfl (gP.refl _) (cK k66.1) (cI k66.2.1) (cF k66.2.2) fun g66=>?_
  refine ah tk rfl (ak tk ?_)
  refine ac (aG (bc 2 tk rfl ?_))
  exact bg g66 H hl1 hg1
 refine ab (aa (ag 2 tk rfl ?_))
 refine aN tk fun b21=>?_
 refine ak tk ?_
 refine ac (ab (ab (dY 18 6 rfl rfl rfl rfl rfl (aa (aq tk ?_)))))
 refine ah tk rfl ?_
 obtain ⟨x73,h73,H⟩ := au H
 have s73 := rN (LRun.mk sA st args vars s1 vals) q _ h73
 refine aj Tryz.call39 (gK.r) s73 ?_
 refine az tk (zl _) ?_
 refine ah tk rfl (ac (iC tk 21 1 84 (e := 57) rfl rfl rfl rfl ?_))
 refine fg (γ := OwnRef) tk 75 74 73 (fun s2 g2=>upd (upd (fun _=>.any) 21 (.box 21 b21 0)) 12 (.box 12 b12 0)) (fun s2 g2=>upd (upd (fun _=>none) 21 (some ⟨b21,[(.list 53 (x28.1.map aR)),(.own 84 g2 (s2.map (al 48 af)).length)]⟩)) 12 (some ⟨b12,[(.val (.slice none 0 0)),(.val (.slice none 0 0))]⟩)) (fun s2 g2=>upd (fun _=>none) 84 (some ⟨g2,57,(s2.map (al 48 af)),true⟩)) (⟨none,0⟩) H (fun fl2 Hp2 j2 s2 g2 hz2 hl2 x2 fb2 hx2 H hg2=>?_) (fun s2 g2 H=>?_)
 ·refine ab (av (ab (aa ?_)))
  refine aU tk (zn j2) (bl (fun _=>rfl) hx2) ?_
  refine ag 2 tk rfl (ac (bo tk mok ⟨true,false,[]⟩ [0,1,2,3,4,5,6,7] rfl (by decide +kernel) rfl (bt rfl (bi ?_))))
  refine bt rfl ?_
  have s82 := clone_40 (m := 82) x2
  refine aZ Tryz.call40 (gK.r) (PFun.jH s82) ?_
  refine bt rfl ?_
  obtain ⟨x84,h84,H⟩ := au H
  have k84 := bX h84
  refine ew (rows2' := List.map (al 48 af) ([x2] : Rz)) (rows' := List.map (al 48 af) x84) tk rfl rfl rfl rfl rfl rfl rfl rfl rfl rfl rfl rfl rfl rfl (gP.refl _) (cK k84.1) (cI k84.2.1) (cF k84.2.2) fun g84=>?_
  refine bt rfl (bR ?_)
  refine bn (aG (bc 2 tk rfl ?_))
  exact bg g84 H hl2 hg2
 refine ab (aa (aq tk ?_))
 refine ak tk ?_
 refine ah tk rfl (ac ?_)
 obtain rfl := aA H
 refine dY 12 1 rfl rfl rfl rfl rfl ?_
 refine bj tk rfl (ps := [(.agg [(.list 53 (x28.1.map aR)),(.list 57 (s2.map (al 48 af)))]),(ai 0)]) ⟨_,_,rfl,⟨_,_,_,_,_,rfl,rfl,rfl,rfl⟩,_,_,rfl,rfl,rfl⟩ (PLe.q rfl)
def jQ (sA : LSchema) (q : LQuery) : Option (Bool) :=
 ae (
  ae (lF q 400) fun x8 =>
  cond (decide (x8 < (0 : Int)))
   (some true)
   (ae (iK sA) fun x12 =>
   some (x12 != (0 : Int)))) fun (t1 : Bool) =>
 cond t1
  (some false)
  (ae (lw sA q) fun x18 =>
  some (x18.2 == (0 : Int)))
theorem rl (sA : LSchema) (q : LQuery) (r : Bool) (H : jQ sA q = some r) :
  aL Tryz.prog 11 [(.agg (bG sA)),(.agg (aw q))] (ay r) := by
 unfold jQ at H
 refine PH.ax Tryz.func11 Tryz.ntmps11 ?_
 refine ab (aa (aH ?_))
 refine aH ?_
 refine ah tk rfl (ac (ab (ab ?_)))
 refine fS (γ := Unit) (fun t1 g1=>⟨23,upd (upd (upd (fun _=>.any) 14 (ay t1)) 3 (.ptr (aw q))) 2 (.ptr (bG sA)),fun _=>none,fun _=>none⟩) H (fun _ H=>?_) (fun t1 g1 H=>?_)
 ·refine aa (ah tk rfl ?_)
  obtain ⟨x8,h8,H⟩ := au H
  have s8 := rP q 400 _ h8
  refine aj Tryz.call29 (gK.r) s8 ?_
  refine ag 2 tk rfl ?_
  refine aV rfl rfl rfl H (fun H=>?_) (fun H=>?_)
  ·refine ag 4 tk rfl (ac ?_)
   refine be _ () (aA H) Gh.d
  refine ah tk rfl ?_
  obtain ⟨x12,h12,H⟩ := au H
  have s12 := ri sA _ h12
  refine aj Tryz.call30 (gK.r) s12 ?_
  refine ag 2 tk rfl (ac ?_)
  refine be _ () (aA H) Gh.d
 refine aM rfl H (fun H=>?_) (fun H=>?_)
 ·refine am 1 tk rfl ?_
  exact aS tk H rfl
 refine ao (ab (aa (ag 2 tk rfl ?_)))
 obtain ⟨x18,h18,H⟩ := au H
 have s18 := W_query_Check sA q _ h18
 refine aj Tryz.call31 (gK.r) s18 ?_
 refine ag 5 tk rfl (ac (am 3 tk rfl ?_))
 exact aS tk H rfl
def ij (sA : LSchema) (st : List LRelation) (q : LQuery) (args : Rq) : Option (LResult × Int) :=
 ae (ip sA st q args ([] : List LCol) ([] : Rq)) fun x14 =>
 some (x14.1,x14.2)
theorem ot (sA : LSchema) (st : List LRelation) (q : LQuery) (args : Rq) (r : LResult × Int) (H : ij sA st q args = some r) :
  aL Tryz.prog 10 [(.agg (bG sA)),(.list 59 (st.map bO)),(.agg (aw q)),(.list 48 (args.map af))] (.tup [(.agg (dw r.1)),(ai r.2)]) := by
 unfold ij at H
 refine PH.ax Tryz.func10 Tryz.ntmps10 ?_
 refine ab (aa (aH ?_))
 refine aH ?_
 refine aN tk fun b8=>?_
 refine ah tk rfl (ac (ab (aa (ag 4 tk rfl ?_))))
 obtain ⟨x14,h14,H⟩ := au H
 have s14 := oY sA st q args ([] : List LCol) ([] : Rq) _ h14
 refine aj Tryz.call28 (gK.of2 (iz.cons (lA.of_eq rfl) (iz.cons (lA.of_eq rfl) (iz.cons (lA.of_eq rfl) (iz.cons (lA.of_eq rfl) (iz.cons (lA.nil tk rfl) (iz.cons (lA.nil tk rfl) iz.nil))))))) s14 ?_
 refine ag 2 tk rfl (ak tk ?_)
 refine ah tk rfl (ac ?_)
 obtain rfl := aA H
 refine bj tk rfl (ps := [(.agg (dw x14.1)),(ai x14.2)]) ⟨_,_,rfl,⟨_,_,_,_,_,rfl,rfl,rfl,rfl⟩,_,_,rfl,rfl,rfl⟩ (PLe.q rfl)
def jj (sA : LSchema) (st : List LRelation) (q : LQuery) (args : Rq) : Option (Bool) :=
 ae (jQ sA q) fun x11 =>
 cond x11
  (cond (decide ((args.length : Int) ≤ (20 : Int)))
   (ae (fu sA st) fun x20 =>
   cond (x20 == (0 : Int))
    (ae (fp q args) fun x26 =>
    some (x26 == (0 : Int)))
    (some false))
   (some false))
  (some false)
theorem rO (sA : LSchema) (st : List LRelation) (q : LQuery) (args : Rq) (r : Bool) (H : jj sA st q args = some r) :
  aL Tryz.prog 5 [(.agg (bG sA)),(.list 59 (st.map bO)),(.agg (aw q)),(.list 48 (args.map af))] (ay r) := by
 unfold jj at H
 refine PH.ax Tryz.func5 Tryz.ntmps5 ?_
 refine ab (aa (aH ?_))
 refine aH ?_
 refine ah tk rfl (ac (ab (aa (ag 2 tk rfl ?_))))
 obtain ⟨x11,h11,H⟩ := au H
 have s11 := rl sA q _ h11
 refine aj Tryz.call11 (gK.r) s11 ?_
 refine ah tk rfl ?_
 refine aV rfl rfl rfl H (fun H=>?_) (fun H=>?_)
 ·refine ah tk rfl (az tk (zl _) ?_)
  refine ag 3 tk rfl ?_
  refine aV rfl rfl rfl H (fun H=>?_) (fun H=>?_)
  ·refine ag 2 tk rfl ?_
   obtain ⟨x20,h20,H⟩ := au H
   have s20 := mt sA st _ h20
   refine aj Tryz.call12 (gK.r) s20 ?_
   refine ag 3 tk rfl ?_
   refine aV rfl rfl rfl H (fun H=>?_) (fun H=>?_)
   ·refine ag 2 tk rfl ?_
    obtain ⟨x26,h26,H⟩ := au H
    have s26 := lp q args _ h26
    refine aj Tryz.call13 (gK.r) s26 ?_
    refine ag 3 tk rfl (ac ?_)
    exact aS tk H rfl
   refine ag 6 tk rfl (ac ?_)
   exact aS tk H rfl
  refine ag 12 tk rfl (ac ?_)
  exact aS tk H rfl
 refine ag 17 tk rfl (ac ?_)
 exact aS tk H rfl
def iL : Option (Bool) :=
 ae (ij (LSchema.mk [(LTable.mk [116] [(LCol.mk [97] 1 false)] [0])] [] []) ([(LRelation.mk [116] [[(LVal.mk 1 1 [])],[(LVal.mk 1 2 [])]])] : List LRelation) (LQuery.mk 1 [116] [] [] [] [] 0 0 []) ([] : Rq)) fun x22 =>
 cond (x22.2 == (0 : Int))
  (some ((x22.1.rows.length : Int) == (2 : Int)))
  (some false)
theorem rn (r : Bool) (H : iL = some r) :
  aL Tryz.prog 4 [] (ay r) := by
 unfold iL at H
 refine PH.ax Tryz.func4 Tryz.ntmps4 ?_
 refine am 1 tk rfl (ab (aa (ah tk rfl (cv tk (rows' := List.map aR ([(LCol.mk [97] 1 false)] : List LCol)) (gP.refl _) ?_))))
 refine cv tk (rows' := List.map bS ([0] : List Int)) (gP.refl _) ?_
 refine ah tk rfl (cv tk (rows' := List.map cP ([(LTable.mk [116] [(LCol.mk [97] 1 false)] [0])] : List LTable)) (gP.refl _) ?_)
 refine ah tk rfl ?_
 refine aN tk fun b1=>?_
 refine ak tk ?_
 refine ac (ab (aa (ah tk rfl (cv tk (rows' := List.map af ([(LVal.mk 1 1 [])] : Rq)) (gP.refl _) ?_))))
 refine ah tk rfl (cv tk (rows' := List.map af ([(LVal.mk 1 2 [])] : Rq)) (gP.refl _) ?_)
 refine cv tk (rows' := List.map (al 48 af) ([[(LVal.mk 1 1 [])],[(LVal.mk 1 2 [])]] : Rz)) (gP.refl _) ?_
 refine ah tk rfl (cv tk (rows' := List.map bO ([(LRelation.mk [116] [[(LVal.mk 1 1 [])],[(LVal.mk 1 2 [])]])] : List LRelation)) (gP.refl _) ?_)
 refine ah tk rfl (ac (ab (aa (aq tk ?_))))
 refine ag 2 tk rfl ?_
 obtain ⟨x22,h22,H⟩ := au H
 have s22 := ot (LSchema.mk [(LTable.mk [116] [(LCol.mk [97] 1 false)] [0])] [] []) ([(LRelation.mk [116] [[(LVal.mk 1 1 [])],[(LVal.mk 1 2 [])]])] : List LRelation) (LQuery.mk 1 [116] [] [] [] [] 0 0 []) ([] : Rq) _ h22
 refine aj Tryz.call10 (gK.of2 (iz.cons (lA.agg (iz.cons (lA.of_eq rfl) (iz.cons (lA.nil tk rfl) (iz.cons (lA.nil tk rfl) iz.nil)))) (iz.cons (lA.of_eq rfl) (iz.cons (lA.agg (iz.cons (lA.of_eq rfl) (iz.cons (lA.of_eq rfl) (iz.cons (lA.nil tk rfl) (iz.cons (lA.nil tk rfl) (iz.cons (lA.nil tk rfl) (iz.cons (lA.nil tk rfl) (iz.cons (lA.of_eq rfl) (iz.cons (lA.of_eq rfl) (iz.cons (lA.nil tk rfl) iz.nil)))))))))) (iz.cons (lA.nil tk rfl) iz.nil))))) s22 ?_
 refine ag 3 tk rfl ?_
 refine aN tk fun b3=>?_
 refine ak tk ?_
 refine ah tk rfl (ac (ab (aa (ag 3 tk rfl ?_))))
 refine aV rfl rfl rfl H (fun H=>?_) (fun H=>?_)
 ·refine ah tk rfl (aq tk ?_)
  refine az tk (zl _) ?_
  refine ag 3 tk rfl (ac ?_)
  exact aS tk H rfl
 refine ag 6 tk rfl (ac ?_)
 exact aS tk H rfl
def cR (sA : LSchema) (st : List LRelation) (q : LQuery) (args : Rq) : Option (LResult × Bool) :=
 ae (ij sA st q args) fun x17 =>
 some (x17.1,(x17.2 == (0 : Int)))
theorem gQ (sA : LSchema) (st : List LRelation) (q : LQuery) (args : Rq) (r : LResult × Bool) (H : cR sA st q args = some r) :
  aL Tryz.prog 6 [(.agg (bG sA)),(.list 59 (st.map bO)),(.agg (aw q)),(.list 48 (args.map af))] (.tup [(.agg (dw r.1)),(ay r.2)]) := by
 unfold cR at H
 refine PH.ax Tryz.func6 Tryz.ntmps6 ?_
 refine ab (aa (aH ?_))
 refine aH ?_
 refine aN tk fun b8=>?_
 refine ah tk rfl (ac (ab (aa (ag 4 tk rfl ?_))))
 obtain ⟨x17,h17,H⟩ := au H
 have s17 := ot sA st q args _ h17
 refine aj Tryz.call10 (gK.r) s17 ?_
 refine ag 3 tk rfl ?_
 refine aN tk fun b10=>?_
 refine ak tk ?_
 refine ah tk rfl (ac (ab (aa (aq tk ?_))))
 refine ag 2 tk rfl (ak tk ?_)
 refine ah tk rfl (ac ?_)
 obtain rfl := aA H
 refine bj tk rfl (ps := [(.agg (dw x17.1)),(ay (x17.2 == (0 : Int)))]) ⟨_,_,rfl,⟨_,_,_,_,_,rfl,rfl,rfl,rfl⟩,_,_,rfl,rfl,rfl⟩ (PLe.q rfl)
def ep (sA : LSchema) (st : List LRelation) (q : LQuery) (args : Rq) : Option (Bool) :=
 ae (iL) fun x18 =>
 cond (!x18)
  (some false)
  (ae (jj sA st q args) fun x24 =>
  cond (!x24)
   (some true)
   (ae (cR sA st q args) fun x31 =>
   ae (jy q) fun x35 =>
   ae (jE x35 q) fun x38 =>
   ae (jF x35) fun x40 =>
   oe
    (ae (
     cond ((x35.exprs.length : Int) != (0 : Int))
      (ae (gj (x35.exprs.length : Int)) fun (n6 : Nat) =>
      ae (aD (σ := List LExpr) (ρ := Empty) (fun (j6 : Nat) (_ : Nat) (s6 : List LExpr) =>
       ae (aK s6 (j6 : Int)) fun (_ : LExpr) =>
       br (s6.set ((j6 : Int).toNat) (LExpr.mk 0 [] 0 (LVal.mk 0 0 []) [])) fun (y9 : List LExpr) =>
       some (.next y9)) 0 (List.range n6) x35.exprs) fun fl6=>fl6.thenP fun (s6 : List LExpr) =>
      some s6)
      (some x35.exprs)) fun (_ : List LExpr) =>
    oe
     (ae (
      cond ((x35.inputs.length : Int) != (0 : Int))
       (ae (gj (x35.inputs.length : Int)) fun (n15 : Nat) =>
       ae (aD (σ := List LQuery) (ρ := Empty) (fun (j15 : Nat) (_ : Nat) (s15 : List LQuery) =>
        ae (aK s15 (j15 : Int)) fun (_ : LQuery) =>
        br (s15.set ((j15 : Int).toNat) (LQuery.mk 0 [] [] [] [] [] 0 0 [])) fun (y18 : List LQuery) =>
        some (.next y18)) 0 (List.range n15) x35.inputs) fun fl15=>fl15.thenP fun (_s15 : List LQuery) =>
       some ())
       (some ())) fun (_ : Unit) =>
     ae (cR sA st x40 args) fun x92 =>
     cond x31.2
      (cond x92.2
       (cond x38
        (ae (fN x40 q) fun x105 =>
        cond x105
         (ae (dG x31.1.rows x92.1.rows) fun x112 =>
         some x112)
         (some false))
        (some false))
       (some false))
      (some false))
     (ae (gj (x35.inputs.length : Int)) fun (n19 : Nat) =>
     ae (aD (σ := List LQuery) (ρ := Empty) (fun (j19 : Nat) (_ : Nat) (s19 : List LQuery) =>
      ae (aK s19 (j19 : Int)) fun (_ : LQuery) =>
      br (s19.set ((j19 : Int).toNat) (LQuery.mk 0 [] [] [] [] [] 0 0 [])) fun (y22 : List LQuery) =>
      some (.next y22)) 0 (List.range n19) x35.inputs) fun fl19=>fl19.thenP fun (_s19 : List LQuery) =>
     ae (cR sA st x40 args) fun x92 =>
     cond x31.2
      (cond x92.2
       (cond x38
        (ae (fN x40 q) fun x105 =>
        cond x105
         (ae (dG x31.1.rows x92.1.rows) fun x112 =>
         some x112)
         (some false))
        (some false))
       (some false))
      (some false)))
    (ae (gj (x35.exprs.length : Int)) fun (n23 : Nat) =>
    ae (aD (σ := List LExpr) (ρ := Empty) (fun (j23 : Nat) (_ : Nat) (s23 : List LExpr) =>
     ae (aK s23 (j23 : Int)) fun (_ : LExpr) =>
     br (s23.set ((j23 : Int).toNat) (LExpr.mk 0 [] 0 (LVal.mk 0 0 []) [])) fun (y26 : List LExpr) =>
     some (.next y26)) 0 (List.range n23) x35.exprs) fun fl23=>fl23.thenP fun (_s23 : List LExpr) =>
    oe
     (ae (
      cond ((x35.inputs.length : Int) != (0 : Int))
       (ae (gj (x35.inputs.length : Int)) fun (n32 : Nat) =>
       ae (aD (σ := List LQuery) (ρ := Empty) (fun (j32 : Nat) (_ : Nat) (s32 : List LQuery) =>
        ae (aK s32 (j32 : Int)) fun (_ : LQuery) =>
        br (s32.set ((j32 : Int).toNat) (LQuery.mk 0 [] [] [] [] [] 0 0 [])) fun (y35 : List LQuery) =>
        some (.next y35)) 0 (List.range n32) x35.inputs) fun fl32=>fl32.thenP fun (_s32 : List LQuery) =>
       some ())
       (some ())) fun (_ : Unit) =>
     ae (cR sA st x40 args) fun x92 =>
     cond x31.2
      (cond x92.2
       (cond x38
        (ae (fN x40 q) fun x105 =>
        cond x105
         (ae (dG x31.1.rows x92.1.rows) fun x112 =>
         some x112)
         (some false))
        (some false))
       (some false))
      (some false))
     (ae (gj (x35.inputs.length : Int)) fun (n36 : Nat) =>
     ae (aD (σ := List LQuery) (ρ := Empty) (fun (j36 : Nat) (_ : Nat) (s36 : List LQuery) =>
      ae (aK s36 (j36 : Int)) fun (_ : LQuery) =>
      br (s36.set ((j36 : Int).toNat) (LQuery.mk 0 [] [] [] [] [] 0 0 [])) fun (y39 : List LQuery) =>
      some (.next y39)) 0 (List.range n36) x35.inputs) fun fl36=>fl36.thenP fun (_s36 : List LQuery) =>
     ae (cR sA st x40 args) fun x92 =>
     cond x31.2
      (cond x92.2
       (cond x38
        (ae (fN x40 q) fun x105 =>
        cond x105
         (ae (dG x31.1.rows x92.1.rows) fun x112 =>
         some x112)
         (some false))
        (some false))
       (some false))
      (some false)))))
theorem kS (sA : LSchema) (st : List LRelation) (q : LQuery) (args : Rq) (r : Bool) (H : ep sA st q args = some r) :
  aL Tryz.prog 3 [(.agg (bG sA)),(.list 59 (st.map bO)),(.agg (aw q)),(.list 48 (args.map af))] (ay r) := by
 unfold ep at H
 refine PH.ax Tryz.func3 Tryz.ntmps3 ?_
 refine ab (aa (aH ?_))
 refine aH ?_
 refine ah tk rfl (ac (ab (ab (aa ?_))))
 obtain ⟨x18,h18,H⟩ := au H
 have s18 := rn _ h18
 refine aj Tryz.call4 (gK.r) s18 ?_
 refine ah tk rfl (ac ?_)
 refine aM rfl H (fun H=>?_) (fun H=>?_)
 ·refine am 1 tk rfl ?_
  exact aS tk H rfl
 refine ao (ab (ab (aa (ag 4 tk rfl ?_))))
 obtain ⟨x24,h24,H⟩ := au H
 have s24 := rO sA st q args _ h24
 refine aj Tryz.call5 (gK.r) s24 ?_
 refine ah tk rfl (ac ?_)
 refine aM rfl H (fun H=>?_) (fun H=>?_)
 ·refine am 1 tk rfl ?_
  exact aS tk H rfl
 refine ao (ab (aa (ag 4 tk rfl ?_)))
 obtain ⟨x31,h31,H⟩ := au H
 have s31 := gQ sA st q args _ h31
 refine aj Tryz.call6 (gK.r) s31 ?_
 refine ag 3 tk rfl ?_
 refine aN tk fun b9=>?_
 refine ak tk ?_
 refine ah tk rfl (ac (ab (aa (ah tk rfl ?_))))
 obtain ⟨x35,h35,H⟩ := au H
 have s35 := sd q _ h35
 refine sG (g := 7) rfl rfl rfl Tryz.call7 (gK.r) rfl rfl s35 (fun g35_3 g35_8=>?_)
 refine aN tk fun b11=>?_
 refine ak tk ?_
 refine ac (ab (aa (aq tk ?_)))
 refine ah tk rfl ?_
 obtain ⟨x38,h38,H⟩ := au H
 have s38 := rW g35_3 g35_8 x35 q _ h38
 refine dD (g := 8) rfl rfl rfl Tryz.call8 [] [(4003,3003),(4008,3008)] rfl rfl rfl rfl (gK.cons (PLe.of2 (lA.agg (iz.cons (lA.of_eq rfl) (iz.cons (lA.of_eq rfl) (iz.cons (lA.of_eq rfl) (iz.cons (lA.own rfl) (iz.cons (lA.of_eq rfl) (iz.cons (lA.of_eq rfl) (iz.cons (lA.of_eq rfl) (iz.cons (lA.of_eq rfl) (iz.cons (lA.own rfl) iz.nil))))))))))) <| gK.cons (PLe.refl _ _) <| gK.nil _) (by rw [cX,cl,cl,cZ]; rfl) s38 ?_
 rintro u38 H38h ⟨rfl,rfl⟩
 refine ⟨_,rfl,?_⟩
 refine dB (st' := ⟨_,_,upd (upd (fun _=>none) 11 (some ⟨b11,[(ai x35.kind),(.str x35.table),(.list 9 (x35.names.map cj)),(.own 4003 g35_3 (x35.exprs.map aC).length),(.list 70 (x35.aggregates.map bT)),(.list 4 (x35.descending.map cf)),(ai x35.count),(ai x35.offset),(.own 4008 g35_8 (x35.inputs.map aE).length)]⟩)) 9 (some ⟨b9,(dw x31.1)⟩),upd (upd (fun _=>none) 4008 (some ⟨g35_8,35,(x35.inputs.map aE),true⟩)) 4003 (some ⟨g35_3,50,(x35.exprs.map aC),true⟩)⟩) (Gh.le (cA _ _) (aX rfl (gK.r) (aX rfl (gK.r) aI)) (aP (aP aJ))) ?_
 refine ah tk rfl (ac (ab (aa (aq tk ?_))))
 obtain ⟨x40,h40,H⟩ := au H
 have s40 := sg g35_3 g35_8 x35 _ h40
 refine dD (g := 7) rfl rfl rfl Tryz.call7 [] [(4003,3003),(4008,3008)] rfl rfl rfl rfl (gK.cons (PLe.of2 (lA.agg (iz.cons (lA.of_eq rfl) (iz.cons (lA.of_eq rfl) (iz.cons (lA.of_eq rfl) (iz.cons (lA.own rfl) (iz.cons (lA.of_eq rfl) (iz.cons (lA.of_eq rfl) (iz.cons (lA.of_eq rfl) (iz.cons (lA.of_eq rfl) (iz.cons (lA.own rfl) iz.nil))))))))))) <| gK.nil _) (by rw [cX,cl,cl,cZ]; rfl) s40 ?_
 rintro u40 H40h ⟨rfl,rfl⟩
 refine ⟨_,rfl,?_⟩
 refine dB (st' := ⟨_,_,upd (upd (fun _=>none) 11 (some ⟨b11,[(ai x35.kind),(.str x35.table),(.list 9 (x35.names.map cj)),(.own 4003 g35_3 (x35.exprs.map aC).length),(.list 70 (x35.aggregates.map bT)),(.list 4 (x35.descending.map cf)),(ai x35.count),(ai x35.offset),(.own 4008 g35_8 (x35.inputs.map aE).length)]⟩)) 9 (some ⟨b9,(dw x31.1)⟩),upd (upd (fun _=>none) 4008 (some ⟨g35_8,35,(x35.inputs.map aE),true⟩)) 4003 (some ⟨g35_3,50,(x35.exprs.map aC),true⟩)⟩) (Gh.le (cA _ _) (aX rfl (gK.r) (aX rfl (gK.r) aI)) (aP (aP aJ))) ?_
 refine aN tk fun b13=>?_
 refine ak tk ?_
 refine ac (ab (ab ?_))
 refine rM tk mok rfl rfl rfl rfl rfl rfl rfl rfl rfl rfl rfl rfl rfl rfl rfl rfl rfl (fun _=>rfl) (fun _=>rfl) rfl rfl rfl (by decide +kernel) (by decide +kernel) (by decide +kernel) (by decide +kernel) (by decide +kernel) (by decide +kernel) rfl rfl rfl (fun v=>by cases v <;> rfl) (fun b41 v41=>?_)
 obtain ⟨HA,HB⟩ := oW H
 clear H
 cases v41
 ·have H := HB
  refine bB rfl (ab (aa (ah tk rfl (aq tk ?_))))
  refine el tk (zl _) ?_
  refine ah tk rfl (ac ?_)
  obtain ⟨n23,hs23,H⟩ := au H
  have hz23 := fm hs23
  obtain ⟨fl23,H23,Hp23⟩ := au H
  refine dM (τ := List LExpr) (γ := OwnRef) (fun s23 g23=>⟨114,upd (upd (upd (upd (upd (upd (upd (upd (upd (fun _=>.any) 13 (.box 13 b13 0)) 12 (ay x38)) 11 (.box 11 b11 0)) 10 (ay x31.2)) 9 (.box 9 b9 0)) 6 (.ptr (aw q))) 4 (.ptr (bG sA))) 3 (.list 48 (args.map af))) 1 (.list 59 (st.map bO)),upd (upd (upd (fun _=>none) 13 (some ⟨b13,(aw x40)⟩)) 11 (some ⟨b11,[(ai x35.kind),(.str x35.table),(.list 9 (x35.names.map cj)),(.own 4003 g23 (s23.map aC).length),(.list 70 (x35.aggregates.map bT)),(.list 4 (x35.descending.map cf)),(ai x35.count),(ai x35.offset),(.own 4008 g35_8 (x35.inputs.map aE).length)]⟩)) 9 (some ⟨b9,(dw x31.1)⟩),upd (upd (fun _=>none) 4008 (some ⟨g35_8,35,(x35.inputs.map aE),true⟩)) 4003 (some ⟨g23,50,(s23.map aC),true⟩)⟩) (fun t=>fl23 = .next t) ?_ (fun s23 g23 hn23=>?_)
  ·refine av ?_
   refine eF (fun j23 s23 g23=>⟨114,upd (upd (upd (upd (upd (upd (upd (upd (upd (upd (upd (fun _=>.any) 55 (ai (j23 : Int))) 54 (ai (x35.exprs.length : Int))) 13 (.box 13 b13 0)) 12 (ay x38)) 11 (.box 11 b11 0)) 10 (ay x31.2)) 9 (.box 9 b9 0)) 6 (.ptr (aw q))) 4 (.ptr (bG sA))) 3 (.list 48 (args.map af))) 1 (.list 59 (st.map bO)),upd (upd (upd (fun _=>none) 13 (some ⟨b13,(aw x40)⟩)) 11 (some ⟨b11,[(ai x35.kind),(.str x35.table),(.list 9 (x35.names.map cj)),(.own 4003 g23 (s23.map aC).length),(.list 70 (x35.aggregates.map bT)),(.list 4 (x35.descending.map cf)),(ai x35.count),(ai x35.offset),(.own 4008 g35_8 (x35.inputs.map aE).length)]⟩)) 9 (some ⟨b9,(dw x31.1)⟩),upd (upd (fun _=>none) 4008 (some ⟨g35_8,35,(x35.inputs.map aE),true⟩)) 4003 (some ⟨g23,50,(s23.map aC),true⟩)⟩) g35_3 H23 Gh.d (fun j23 s23 g23 hj23 hr23=>?_)
   refine am 1 tk rfl (ab ?_)
   refine bh rfl (fun h=>?_) (fun h=>?_)
   ·have hl23 := kT hz23 h
    obtain ⟨x23,fb23,hx23,H,hg23⟩ := rMc hl23 hr23
    obtain rfl := mA hx23
    refine ao (ab (av (am 2 tk rfl (aa (ah tk rfl (aq tk ?_))))))
    refine ag 2 tk rfl ?_
    obtain ⟨x62,k62,H⟩ := bq H
    refine gA (tag := 4003) rfl (fun ho4003=>?_)
    refine fH tk ⟨k62.1,(cE k62.2)⟩ (cN ho4003 k62.2) ?_
    obtain ⟨y26,hy26,H⟩ := cL H
    refine iu tk rfl rfl rfl rfl rfl rfl rfl rfl (by rw [zl]; exact (zg.1 k62.2).1) (PLe.of2 (lA.agg (iz.cons (lA.of_eq rfl) (iz.cons (lA.of_eq rfl) (iz.cons (lA.of_eq rfl) (iz.cons (lA.of_eq rfl) (iz.cons (lA.of_eq rfl) (iz.cons (lA.of_eq rfl) (iz.cons (lA.nil tk rfl) iz.nil))))))))) rfl rfl rfl rfl (by decide) (dC bP k62.2 rfl hy26) ?_
    refine ac (aG (bc 2 tk rfl ?_))
    exact bg g23 H hl23 hg23 (Gh.le (ap (ap (ap (ap (ap (ap (ap (ap (ap (ap (bs (PLe.q (fR hz23 hl23)) aT))))))))))) (aX rfl (gK.r) (aX rfl (gK.of2 (iz.cons (lA.of_eq rfl) (iz.cons (lA.of_eq rfl) (iz.cons (lA.of_eq rfl) (iz.cons (lA.of_eq (congrArg (PV.own 4003 g23) (dz (f := aC) hy26))) (iz.cons (lA.of_eq rfl) (iz.cons (lA.of_eq rfl) (iz.cons (lA.of_eq rfl) (iz.cons (lA.of_eq rfl) (iz.cons (lA.of_eq rfl) iz.nil)))))))))) (aX rfl (gK.r) aI))) (aP (aP aJ)))
   have hn23 := rMd (kX hz23 h) hr23
   refine bm rfl ?_
   refine be s23 g23 hn23 Gh.d
  have H := ci hn23 Hp23
  refine ab (ab ?_)
  refine rM tk mok rfl rfl rfl rfl rfl rfl rfl rfl rfl rfl rfl rfl rfl rfl rfl rfl rfl (fun _=>rfl) (fun _=>rfl) rfl rfl rfl (by decide +kernel) (by decide +kernel) (by decide +kernel) (by decide +kernel) (by decide +kernel) (by decide +kernel) rfl rfl rfl (fun v=>by cases v <;> rfl) (fun b64 v64=>?_)
  obtain ⟨HA,HB⟩ := oW H
  clear H
  cases v64
  ·have H := HB
   refine bB rfl (ab (aa (ah tk rfl (aq tk ?_))))
   refine el tk (zl _) ?_
   refine ah tk rfl (ac ?_)
   obtain ⟨n36,hs36,H⟩ := au H
   have hz36 := fm hs36
   obtain ⟨fl36,H36,Hp36⟩ := au H
   refine dM (τ := List LQuery) (γ := OwnRef) (fun s36 g36=>⟨114,upd (upd (upd (upd (upd (upd (upd (upd (fun _=>.any) 13 (.box 13 b13 0)) 12 (ay x38)) 10 (ay x31.2)) 9 (.box 9 b9 0)) 6 (.ptr (aw q))) 4 (.ptr (bG sA))) 3 (.list 48 (args.map af))) 1 (.list 59 (st.map bO)),upd (upd (fun _=>none) 13 (some ⟨b13,(aw x40)⟩)) 9 (some ⟨b9,(dw x31.1)⟩),fun _=>none⟩) (fun t=>fl36 = .next t) ?_ (fun s36 g36 hn36=>?_)
   ·refine av ?_
    refine eF (fun j36 s36 g36=>⟨114,upd (upd (upd (upd (upd (upd (upd (upd (upd (upd (upd (fun _=>.any) 78 (ai (j36 : Int))) 77 (ai (x35.inputs.length : Int))) 13 (.box 13 b13 0)) 12 (ay x38)) 11 (.box 11 b11 0)) 10 (ay x31.2)) 9 (.box 9 b9 0)) 6 (.ptr (aw q))) 4 (.ptr (bG sA))) 3 (.list 48 (args.map af))) 1 (.list 59 (st.map bO)),upd (upd (upd (fun _=>none) 13 (some ⟨b13,(aw x40)⟩)) 11 (some ⟨b11,[(ai x35.kind),(.str x35.table),(.list 9 (x35.names.map cj)),(.own 4003 g23 (s23.map aC).length),(.list 70 (x35.aggregates.map bT)),(.list 4 (x35.descending.map cf)),(ai x35.count),(ai x35.offset),(.own 4008 g36 (s36.map aE).length)]⟩)) 9 (some ⟨b9,(dw x31.1)⟩),upd (upd (fun _=>none) 4008 (some ⟨g36,35,(s36.map aE),true⟩)) 4003 (some ⟨g23,50,(s23.map aC),true⟩)⟩) g35_8 H36 Gh.d (fun j36 s36 g36 hj36 hr36=>?_)
    refine am 1 tk rfl (ab ?_)
    refine bh rfl (fun h=>?_) (fun h=>?_)
    ·have hl36 := kT hz36 h
     obtain ⟨x36,fb36,hx36,H,hg36⟩ := rMc hl36 hr36
     obtain rfl := mA hx36
     refine ao (ab (av (am 2 tk rfl (aa (ah tk rfl (aq tk ?_))))))
     refine ag 2 tk rfl ?_
     obtain ⟨x85,k85,H⟩ := bq H
     refine gA (tag := 4008) rfl (fun ho4008=>?_)
     refine fH tk ⟨k85.1,(cE k85.2)⟩ (cN ho4008 k85.2) ?_
     obtain ⟨y39,hy39,H⟩ := cL H
     refine iu tk rfl rfl rfl rfl rfl rfl rfl rfl (by rw [zl]; exact (zg.1 k85.2).1) (PLe.of2 (lA.agg (iz.cons (lA.of_eq rfl) (iz.cons (lA.of_eq rfl) (iz.cons (lA.nil tk rfl) (iz.cons (lA.nil tk rfl) (iz.cons (lA.nil tk rfl) (iz.cons (lA.nil tk rfl) (iz.cons (lA.of_eq rfl) (iz.cons (lA.of_eq rfl) (iz.cons (lA.nil tk rfl) iz.nil))))))))))) rfl rfl rfl rfl (by decide) (dC bA k85.2 rfl hy39) ?_
     refine ac (aG (bc 2 tk rfl ?_))
     exact bg g36 H hl36 hg36 (Gh.le (ap (ap (ap (ap (ap (ap (ap (ap (ap (ap (bs (PLe.q (fR hz36 hl36)) aT))))))))))) (aX rfl (gK.r) (aX rfl (gK.of2 (iz.cons (lA.of_eq rfl) (iz.cons (lA.of_eq rfl) (iz.cons (lA.of_eq rfl) (iz.cons (lA.of_eq rfl) (iz.cons (lA.of_eq rfl) (iz.cons (lA.of_eq rfl) (iz.cons (lA.of_eq rfl) (iz.cons (lA.of_eq rfl) (iz.cons (lA.of_eq (congrArg (PV.own 4008 g36) (dz (f := aE) hy39))) iz.nil)))))))))) (aX rfl (gK.r) aI))) (aP (aP aJ)))
    have hn36 := rMd (kX hz36 h) hr36
    refine bm rfl ?_
    refine be s36 g36 hn36 Gh.d
   have H := ci hn36 Hp36
   refine ab (aa (ag 2 tk rfl (aq tk ?_)))
   refine ah tk rfl ?_
   obtain ⟨x92,h92,H⟩ := au H
   have s92 := gQ sA st x40 args _ h92
   refine aj Tryz.call6 (gK.r) s92 ?_
   refine ag 3 tk rfl ?_
   refine aN tk fun b16=>?_
   refine ak tk ?_
   refine ah tk rfl (ac (ab (aa (ag 2 tk rfl ?_))))
   refine aV rfl rfl rfl H (fun H=>?_) (fun H=>?_)
   ·refine ag 3 tk rfl ?_
    refine aV rfl rfl rfl H (fun H=>?_) (fun H=>?_)
    ·refine ag 3 tk rfl ?_
     refine aV rfl rfl rfl H (fun H=>?_) (fun H=>?_)
     ·refine aq tk ?_
      refine ah tk rfl ?_
      obtain ⟨x105,h105,H⟩ := au H
      have s105 := kn x40 q _ h105
      refine aj Tryz.call8 (gK.r) s105 ?_
      refine ag 2 tk rfl ?_
      refine aV rfl rfl rfl H (fun H=>?_) (fun H=>?_)
      ·refine ah tk rfl (aq tk ?_)
       refine ah tk rfl (aq tk ?_)
       obtain ⟨x112,h112,H⟩ := au H
       have s112 := iR x31.1.rows x92.1.rows _ h112
       refine aj Tryz.call9 (gK.r) s112 ?_
       refine ag 2 tk rfl (ac ?_)
       exact aS tk H rfl
      refine ag 7 tk rfl (ac ?_)
      exact aS tk H rfl
     refine ag 12 tk rfl (ac ?_)
     exact aS tk H rfl
    refine ag 15 tk rfl (ac ?_)
    exact aS tk H rfl
   refine ag 18 tk rfl (ac ?_)
   exact aS tk H rfl
  have H := HA
  refine bU rfl (ab (aa (ah tk rfl (aq tk ?_))))
  refine el tk (zl _) ?_
  refine ah tk rfl (ac ?_)
  refine fS (γ := Unit) (fun t31 g31=>⟨114,upd (upd (upd (upd (upd (upd (upd (upd (fun _=>.any) 13 (.box 13 b13 0)) 12 (ay x38)) 10 (ay x31.2)) 9 (.box 9 b9 0)) 6 (.ptr (aw q))) 4 (.ptr (bG sA))) 3 (.list 48 (args.map af))) 1 (.list 59 (st.map bO)),upd (upd (fun _=>none) 13 (some ⟨b13,(aw x40)⟩)) 9 (some ⟨b9,(dw x31.1)⟩),fun _=>none⟩) H (fun _ H=>?_) (fun t31 g31 H=>?_)
  ·refine aM rfl H (fun H=>?_) (fun H=>?_)
   ·refine ab (am 1 tk rfl ?_)
    obtain ⟨n32,hs32,H⟩ := au H
    have hz32 := fm hs32
    obtain ⟨fl32,H32,Hp32⟩ := au H
    refine dM (τ := List LQuery) (γ := OwnRef) (fun s32 g32=>⟨114,upd (upd (upd (upd (upd (upd (upd (upd (upd (fun _=>.any) 68 (ai (x35.inputs.length : Int))) 13 (.box 13 b13 0)) 12 (ay x38)) 10 (ay x31.2)) 9 (.box 9 b9 0)) 6 (.ptr (aw q))) 4 (.ptr (bG sA))) 3 (.list 48 (args.map af))) 1 (.list 59 (st.map bO)),upd (upd (fun _=>none) 13 (some ⟨b13,(aw x40)⟩)) 9 (some ⟨b9,(dw x31.1)⟩),fun _=>none⟩) (fun t=>fl32 = .next t) ?_ (fun s32 g32 hn32=>?_)
    ·refine av ?_
     refine eF (fun j32 s32 g32=>⟨114,upd (upd (upd (upd (upd (upd (upd (upd (upd (upd (upd (fun _=>.any) 70 (ai (j32 : Int))) 68 (ai (x35.inputs.length : Int))) 67 (.own 4008 g32 (s32.map aE).length)) 13 (.box 13 b13 0)) 12 (ay x38)) 10 (ay x31.2)) 9 (.box 9 b9 0)) 6 (.ptr (aw q))) 4 (.ptr (bG sA))) 3 (.list 48 (args.map af))) 1 (.list 59 (st.map bO)),upd (upd (fun _=>none) 13 (some ⟨b13,(aw x40)⟩)) 9 (some ⟨b9,(dw x31.1)⟩),upd (fun _=>none) 4008 (some ⟨g32,35,(s32.map aE),true⟩)⟩) g35_8 H32 Gh.d (fun j32 s32 g32 hj32 hr32=>?_)
     refine am 1 tk rfl (ab ?_)
     refine bh rfl (fun h=>?_) (fun h=>?_)
     ·have hl32 := kT hz32 h
      obtain ⟨x32,fb32,hx32,H,hg32⟩ := rMc hl32 hr32
      obtain rfl := mA hx32
      refine ao (ab (aa ?_))
      obtain ⟨x72,k72,H⟩ := bq H
      refine gA (tag := 4008) rfl (fun ho4008=>?_)
      refine fH tk ⟨k72.1,(cE k72.2)⟩ (cN ho4008 k72.2) ?_
      obtain ⟨y35,hy35,H⟩ := cL H
      refine iu tk rfl rfl rfl rfl rfl rfl rfl rfl (by rw [zl]; exact (zg.1 k72.2).1) (PLe.of2 (lA.trans lA.cagg (lA.agg (iz.cons (lA.of_eq rfl) (iz.cons (lA.of_eq rfl) (iz.cons (lA.nil tk rfl) (iz.cons (lA.nil tk rfl) (iz.cons (lA.nil tk rfl) (iz.cons (lA.nil tk rfl) (iz.cons (lA.of_eq rfl) (iz.cons (lA.of_eq rfl) (iz.cons (lA.nil tk rfl) iz.nil)))))))))))) rfl rfl rfl rfl (by decide) (dC bA k72.2 rfl hy35) ?_
      refine ac (bc 2 tk rfl ?_)
      exact bg g32 H hl32 hg32 (Gh.le (ap (ap (ap (ap (ap (ap (ap (ap (bs (PLe.of2 (lA.of_eq (congrArg (PV.own 4008 g32) (dz (f := aE) hy35)))) (ap (bs (PLe.q (fR hz32 hl32)) aT))))))))))) (aX rfl (gK.r) (aX rfl (gK.r) aI)) (aP aJ))
     have hn32 := rMd (kX hz32 h) hr32
     refine bm rfl ?_
     refine be s32 g32 hn32 Gh.d
    have H := ci hn32 Hp32
    refine bc 2 tk rfl ?_
    refine be _ () (aA H) Gh.d
   refine ao ?_
   refine be _ () (aA H) Gh.d
  refine ab (aa (ag 2 tk rfl (aq tk ?_)))
  refine ah tk rfl ?_
  obtain ⟨x92,h92,H⟩ := au H
  have s92 := gQ sA st x40 args _ h92
  refine aj Tryz.call6 (gK.r) s92 ?_
  refine ag 3 tk rfl ?_
  refine aN tk fun b16=>?_
  refine ak tk ?_
  refine ah tk rfl (ac (ab (aa (ag 2 tk rfl ?_))))
  refine aV rfl rfl rfl H (fun H=>?_) (fun H=>?_)
  ·refine ag 3 tk rfl ?_
   refine aV rfl rfl rfl H (fun H=>?_) (fun H=>?_)
   ·refine ag 3 tk rfl ?_
    refine aV rfl rfl rfl H (fun H=>?_) (fun H=>?_)
    ·refine aq tk ?_
     refine ah tk rfl ?_
     obtain ⟨x105,h105,H⟩ := au H
     have s105 := kn x40 q _ h105
     refine aj Tryz.call8 (gK.r) s105 ?_
     refine ag 2 tk rfl ?_
     refine aV rfl rfl rfl H (fun H=>?_) (fun H=>?_)
     ·refine ah tk rfl (aq tk ?_)
      refine ah tk rfl (aq tk ?_)
      obtain ⟨x112,h112,H⟩ := au H
      have s112 := iR x31.1.rows x92.1.rows _ h112
      refine aj Tryz.call9 (gK.r) s112 ?_
      refine ag 2 tk rfl (ac ?_)
      exact aS tk H rfl
     refine ag 7 tk rfl (ac ?_)
     exact aS tk H rfl
    refine ag 12 tk rfl (ac ?_)
    exact aS tk H rfl
   refine ag 15 tk rfl (ac ?_)
   exact aS tk H rfl
  refine ag 18 tk rfl (ac ?_)
  exact aS tk H rfl
 have H := HA
 refine bU rfl (ab (aa (ah tk rfl (aq tk ?_))))
 refine el tk (zl _) ?_
 refine ah tk rfl (ac ?_)
 refine fS (γ := OwnRef) (fun t5 g5=>⟨114,upd (upd (upd (upd (upd (upd (upd (upd (upd (fun _=>.any) 13 (.box 13 b13 0)) 12 (ay x38)) 11 (.box 11 b11 0)) 10 (ay x31.2)) 9 (.box 9 b9 0)) 6 (.ptr (aw q))) 4 (.ptr (bG sA))) 3 (.list 48 (args.map af))) 1 (.list 59 (st.map bO)),upd (upd (upd (fun _=>none) 13 (some ⟨b13,(aw x40)⟩)) 11 (some ⟨b11,[(ai x35.kind),(.str x35.table),(.list 9 (x35.names.map cj)),(.own 4003 g5 (t5.map aC).length),(.list 70 (x35.aggregates.map bT)),(.list 4 (x35.descending.map cf)),(ai x35.count),(ai x35.offset),(.own 4008 g35_8 (x35.inputs.map aE).length)]⟩)) 9 (some ⟨b9,(dw x31.1)⟩),upd (upd (fun _=>none) 4008 (some ⟨g35_8,35,(x35.inputs.map aE),true⟩)) 4003 (some ⟨g5,50,(t5.map aC),true⟩)⟩) H (fun _ H=>?_) (fun t5 g5 H=>?_)
 ·refine aM rfl H (fun H=>?_) (fun H=>?_)
  ·refine ab (am 1 tk rfl ?_)
   obtain ⟨n6,hs6,H⟩ := au H
   have hz6 := fm hs6
   obtain ⟨fl6,H6,Hp6⟩ := au H
   refine dM (τ := List LExpr) (γ := OwnRef) (fun s6 g6=>⟨114,upd (upd (upd (upd (upd (upd (upd (upd (upd (upd (fun _=>.any) 45 (ai (x35.exprs.length : Int))) 13 (.box 13 b13 0)) 12 (ay x38)) 11 (.box 11 b11 0)) 10 (ay x31.2)) 9 (.box 9 b9 0)) 6 (.ptr (aw q))) 4 (.ptr (bG sA))) 3 (.list 48 (args.map af))) 1 (.list 59 (st.map bO)),upd (upd (upd (fun _=>none) 13 (some ⟨b13,(aw x40)⟩)) 11 (some ⟨b11,[(ai x35.kind),(.str x35.table),(.list 9 (x35.names.map cj)),(.own 4003 g6 (s6.map aC).length),(.list 70 (x35.aggregates.map bT)),(.list 4 (x35.descending.map cf)),(ai x35.count),(ai x35.offset),(.own 4008 g35_8 (x35.inputs.map aE).length)]⟩)) 9 (some ⟨b9,(dw x31.1)⟩),upd (upd (fun _=>none) 4008 (some ⟨g35_8,35,(x35.inputs.map aE),true⟩)) 4003 (some ⟨g6,50,(s6.map aC),true⟩)⟩) (fun t=>fl6 = .next t) ?_ (fun s6 g6 hn6=>?_)
   ·refine av ?_
    refine eF (fun j6 s6 g6=>⟨114,upd (upd (upd (upd (upd (upd (upd (upd (upd (upd (upd (upd (fun _=>.any) 47 (ai (j6 : Int))) 45 (ai (x35.exprs.length : Int))) 44 (.own 4003 g6 (s6.map aC).length)) 13 (.box 13 b13 0)) 12 (ay x38)) 11 (.box 11 b11 0)) 10 (ay x31.2)) 9 (.box 9 b9 0)) 6 (.ptr (aw q))) 4 (.ptr (bG sA))) 3 (.list 48 (args.map af))) 1 (.list 59 (st.map bO)),upd (upd (upd (fun _=>none) 13 (some ⟨b13,(aw x40)⟩)) 11 (some ⟨b11,[(ai x35.kind),(.str x35.table),(.list 9 (x35.names.map cj)),(.own 4003 g6 (s6.map aC).length),(.list 70 (x35.aggregates.map bT)),(.list 4 (x35.descending.map cf)),(ai x35.count),(ai x35.offset),(.own 4008 g35_8 (x35.inputs.map aE).length)]⟩)) 9 (some ⟨b9,(dw x31.1)⟩),upd (upd (fun _=>none) 4008 (some ⟨g35_8,35,(x35.inputs.map aE),true⟩)) 4003 (some ⟨g6,50,(s6.map aC),true⟩)⟩) g35_3 H6 Gh.d (fun j6 s6 g6 hj6 hr6=>?_)
    refine am 1 tk rfl (ab ?_)
    refine bh rfl (fun h=>?_) (fun h=>?_)
    ·have hl6 := kT hz6 h
     obtain ⟨x6,fb6,hx6,H,hg6⟩ := rMc hl6 hr6
     obtain rfl := mA hx6
     refine ao (ab (aa ?_))
     obtain ⟨x49,k49,H⟩ := bq H
     refine gA (tag := 4003) rfl (fun ho4003=>?_)
     refine fH tk ⟨k49.1,(cE k49.2)⟩ (cN ho4003 k49.2) ?_
     obtain ⟨y9,hy9,H⟩ := cL H
     refine iu tk rfl rfl rfl rfl rfl rfl rfl rfl (by rw [zl]; exact (zg.1 k49.2).1) (PLe.of2 (lA.trans lA.cagg (lA.agg (iz.cons (lA.of_eq rfl) (iz.cons (lA.of_eq rfl) (iz.cons (lA.of_eq rfl) (iz.cons (lA.of_eq rfl) (iz.cons (lA.of_eq rfl) (iz.cons (lA.of_eq rfl) (iz.cons (lA.nil tk rfl) iz.nil)))))))))) rfl rfl rfl rfl (by decide) (dC bP k49.2 rfl hy9) ?_
     refine ac (bc 2 tk rfl ?_)
     exact bg g6 H hl6 hg6 (Gh.le (ap (ap (ap (ap (ap (ap (ap (ap (ap (bs (PLe.of2 (lA.of_eq (congrArg (PV.own 4003 g6) (dz (f := aC) hy9)))) (ap (bs (PLe.q (fR hz6 hl6)) aT)))))))))))) (aX rfl (gK.r) (aX rfl (gK.of2 (iz.cons (lA.of_eq rfl) (iz.cons (lA.of_eq rfl) (iz.cons (lA.of_eq rfl) (iz.cons (lA.of_eq (congrArg (PV.own 4003 g6) (dz (f := aC) hy9))) (iz.cons (lA.of_eq rfl) (iz.cons (lA.of_eq rfl) (iz.cons (lA.of_eq rfl) (iz.cons (lA.of_eq rfl) (iz.cons (lA.of_eq rfl) iz.nil)))))))))) (aX rfl (gK.r) aI))) (aP (aP aJ)))
    have hn6 := rMd (kX hz6 h) hr6
    refine bm rfl ?_
    refine be s6 g6 hn6 Gh.d
   have H := ci hn6 Hp6
   refine bc 2 tk rfl ?_
   refine be _ g6 (aA H) Gh.d
  refine ao ?_
  refine be _ g35_3 (aA H) Gh.d
 refine ab (ab ?_)
 refine rM tk mok rfl rfl rfl rfl rfl rfl rfl rfl rfl rfl rfl rfl rfl rfl rfl rfl rfl (fun _=>rfl) (fun _=>rfl) rfl rfl rfl (by decide +kernel) (by decide +kernel) (by decide +kernel) (by decide +kernel) (by decide +kernel) (by decide +kernel) rfl rfl rfl (fun v=>by cases v <;> rfl) (fun b64 v64=>?_)
 obtain ⟨HA,HB⟩ := oW H
 clear H
 cases v64
 ·have H := HB
  refine bB rfl (ab (aa (ah tk rfl (aq tk ?_))))
  refine el tk (zl _) ?_
  refine ah tk rfl (ac ?_)
  obtain ⟨n19,hs19,H⟩ := au H
  have hz19 := fm hs19
  obtain ⟨fl19,H19,Hp19⟩ := au H
  refine dM (τ := List LQuery) (γ := OwnRef) (fun s19 g19=>⟨114,upd (upd (upd (upd (upd (upd (upd (upd (fun _=>.any) 13 (.box 13 b13 0)) 12 (ay x38)) 10 (ay x31.2)) 9 (.box 9 b9 0)) 6 (.ptr (aw q))) 4 (.ptr (bG sA))) 3 (.list 48 (args.map af))) 1 (.list 59 (st.map bO)),upd (upd (fun _=>none) 13 (some ⟨b13,(aw x40)⟩)) 9 (some ⟨b9,(dw x31.1)⟩),fun _=>none⟩) (fun t=>fl19 = .next t) ?_ (fun s19 g19 hn19=>?_)
  ·refine av ?_
   refine eF (fun j19 s19 g19=>⟨114,upd (upd (upd (upd (upd (upd (upd (upd (upd (upd (upd (fun _=>.any) 78 (ai (j19 : Int))) 77 (ai (x35.inputs.length : Int))) 13 (.box 13 b13 0)) 12 (ay x38)) 11 (.box 11 b11 0)) 10 (ay x31.2)) 9 (.box 9 b9 0)) 6 (.ptr (aw q))) 4 (.ptr (bG sA))) 3 (.list 48 (args.map af))) 1 (.list 59 (st.map bO)),upd (upd (upd (fun _=>none) 13 (some ⟨b13,(aw x40)⟩)) 11 (some ⟨b11,[(ai x35.kind),(.str x35.table),(.list 9 (x35.names.map cj)),(.own 4003 g5 (t5.map aC).length),(.list 70 (x35.aggregates.map bT)),(.list 4 (x35.descending.map cf)),(ai x35.count),(ai x35.offset),(.own 4008 g19 (s19.map aE).length)]⟩)) 9 (some ⟨b9,(dw x31.1)⟩),upd (upd (fun _=>none) 4008 (some ⟨g19,35,(s19.map aE),true⟩)) 4003 (some ⟨g5,50,(t5.map aC),true⟩)⟩) g35_8 H19 Gh.d (fun j19 s19 g19 hj19 hr19=>?_)
   refine am 1 tk rfl (ab ?_)
   refine bh rfl (fun h=>?_) (fun h=>?_)
   ·have hl19 := kT hz19 h
    obtain ⟨x19,fb19,hx19,H,hg19⟩ := rMc hl19 hr19
    obtain rfl := mA hx19
    refine ao (ab (av (am 2 tk rfl (aa (ah tk rfl (aq tk ?_))))))
    refine ag 2 tk rfl ?_
    obtain ⟨x85,k85,H⟩ := bq H
    refine gA (tag := 4008) rfl (fun ho4008=>?_)
    refine fH tk ⟨k85.1,(cE k85.2)⟩ (cN ho4008 k85.2) ?_
    obtain ⟨y22,hy22,H⟩ := cL H
    refine iu tk rfl rfl rfl rfl rfl rfl rfl rfl (by rw [zl]; exact (zg.1 k85.2).1) (PLe.of2 (lA.agg (iz.cons (lA.of_eq rfl) (iz.cons (lA.of_eq rfl) (iz.cons (lA.nil tk rfl) (iz.cons (lA.nil tk rfl) (iz.cons (lA.nil tk rfl) (iz.cons (lA.nil tk rfl) (iz.cons (lA.of_eq rfl) (iz.cons (lA.of_eq rfl) (iz.cons (lA.nil tk rfl) iz.nil))))))))))) rfl rfl rfl rfl (by decide) (dC bA k85.2 rfl hy22) ?_
    refine ac (aG (bc 2 tk rfl ?_))
    exact bg g19 H hl19 hg19 (Gh.le (ap (ap (ap (ap (ap (ap (ap (ap (ap (ap (bs (PLe.q (fR hz19 hl19)) aT))))))))))) (aX rfl (gK.r) (aX rfl (gK.of2 (iz.cons (lA.of_eq rfl) (iz.cons (lA.of_eq rfl) (iz.cons (lA.of_eq rfl) (iz.cons (lA.of_eq rfl) (iz.cons (lA.of_eq rfl) (iz.cons (lA.of_eq rfl) (iz.cons (lA.of_eq rfl) (iz.cons (lA.of_eq rfl) (iz.cons (lA.of_eq (congrArg (PV.own 4008 g19) (dz (f := aE) hy22))) iz.nil)))))))))) (aX rfl (gK.r) aI))) (aP (aP aJ)))
   have hn19 := rMd (kX hz19 h) hr19
   refine bm rfl ?_
   refine be s19 g19 hn19 Gh.d
  have H := ci hn19 Hp19
  refine ab (aa (ag 2 tk rfl (aq tk ?_)))
  refine ah tk rfl ?_
  obtain ⟨x92,h92,H⟩ := au H
  have s92 := gQ sA st x40 args _ h92
  refine aj Tryz.call6 (gK.r) s92 ?_
  refine ag 3 tk rfl ?_
  refine aN tk fun b16=>?_
  refine ak tk ?_
  refine ah tk rfl (ac (ab (aa (ag 2 tk rfl ?_))))
  refine aV rfl rfl rfl H (fun H=>?_) (fun H=>?_)
  ·refine ag 3 tk rfl ?_
   refine aV rfl rfl rfl H (fun H=>?_) (fun H=>?_)
   ·refine ag 3 tk rfl ?_
    refine aV rfl rfl rfl H (fun H=>?_) (fun H=>?_)
    ·refine aq tk ?_
     refine ah tk rfl ?_
     obtain ⟨x105,h105,H⟩ := au H
     have s105 := kn x40 q _ h105
     refine aj Tryz.call8 (gK.r) s105 ?_
     refine ag 2 tk rfl ?_
     refine aV rfl rfl rfl H (fun H=>?_) (fun H=>?_)
     ·refine ah tk rfl (aq tk ?_)
      refine ah tk rfl (aq tk ?_)
      obtain ⟨x112,h112,H⟩ := au H
      have s112 := iR x31.1.rows x92.1.rows _ h112
      refine aj Tryz.call9 (gK.r) s112 ?_
      refine ag 2 tk rfl (ac ?_)
      exact aS tk H rfl
     refine ag 7 tk rfl (ac ?_)
     exact aS tk H rfl
    refine ag 12 tk rfl (ac ?_)
    exact aS tk H rfl
   refine ag 15 tk rfl (ac ?_)
   exact aS tk H rfl
  refine ag 18 tk rfl (ac ?_)
  exact aS tk H rfl
 have H := HA
 refine bU rfl (ab (aa (ah tk rfl (aq tk ?_))))
 refine el tk (zl _) ?_
 refine ah tk rfl (ac ?_)
 refine fS (γ := Unit) (fun t14 g14=>⟨114,upd (upd (upd (upd (upd (upd (upd (upd (fun _=>.any) 13 (.box 13 b13 0)) 12 (ay x38)) 10 (ay x31.2)) 9 (.box 9 b9 0)) 6 (.ptr (aw q))) 4 (.ptr (bG sA))) 3 (.list 48 (args.map af))) 1 (.list 59 (st.map bO)),upd (upd (fun _=>none) 13 (some ⟨b13,(aw x40)⟩)) 9 (some ⟨b9,(dw x31.1)⟩),fun _=>none⟩) H (fun _ H=>?_) (fun t14 g14 H=>?_)
 ·refine aM rfl H (fun H=>?_) (fun H=>?_)
  ·refine ab (am 1 tk rfl ?_)
   obtain ⟨n15,hs15,H⟩ := au H
   have hz15 := fm hs15
   obtain ⟨fl15,H15,Hp15⟩ := au H
   refine dM (τ := List LQuery) (γ := OwnRef) (fun s15 g15=>⟨114,upd (upd (upd (upd (upd (upd (upd (upd (upd (fun _=>.any) 68 (ai (x35.inputs.length : Int))) 13 (.box 13 b13 0)) 12 (ay x38)) 10 (ay x31.2)) 9 (.box 9 b9 0)) 6 (.ptr (aw q))) 4 (.ptr (bG sA))) 3 (.list 48 (args.map af))) 1 (.list 59 (st.map bO)),upd (upd (fun _=>none) 13 (some ⟨b13,(aw x40)⟩)) 9 (some ⟨b9,(dw x31.1)⟩),fun _=>none⟩) (fun t=>fl15 = .next t) ?_ (fun s15 g15 hn15=>?_)
   ·refine av ?_
    refine eF (fun j15 s15 g15=>⟨114,upd (upd (upd (upd (upd (upd (upd (upd (upd (upd (upd (fun _=>.any) 70 (ai (j15 : Int))) 68 (ai (x35.inputs.length : Int))) 67 (.own 4008 g15 (s15.map aE).length)) 13 (.box 13 b13 0)) 12 (ay x38)) 10 (ay x31.2)) 9 (.box 9 b9 0)) 6 (.ptr (aw q))) 4 (.ptr (bG sA))) 3 (.list 48 (args.map af))) 1 (.list 59 (st.map bO)),upd (upd (fun _=>none) 13 (some ⟨b13,(aw x40)⟩)) 9 (some ⟨b9,(dw x31.1)⟩),upd (fun _=>none) 4008 (some ⟨g15,35,(s15.map aE),true⟩)⟩) g35_8 H15 Gh.d (fun j15 s15 g15 hj15 hr15=>?_)
    refine am 1 tk rfl (ab ?_)
    refine bh rfl (fun h=>?_) (fun h=>?_)
    ·have hl15 := kT hz15 h
     obtain ⟨x15,fb15,hx15,H,hg15⟩ := rMc hl15 hr15
     obtain rfl := mA hx15
     refine ao (ab (aa ?_))
     obtain ⟨x72,k72,H⟩ := bq H
     refine gA (tag := 4008) rfl (fun ho4008=>?_)
     refine fH tk ⟨k72.1,(cE k72.2)⟩ (cN ho4008 k72.2) ?_
     obtain ⟨y18,hy18,H⟩ := cL H
     refine iu tk rfl rfl rfl rfl rfl rfl rfl rfl (by rw [zl]; exact (zg.1 k72.2).1) (PLe.of2 (lA.trans lA.cagg (lA.agg (iz.cons (lA.of_eq rfl) (iz.cons (lA.of_eq rfl) (iz.cons (lA.nil tk rfl) (iz.cons (lA.nil tk rfl) (iz.cons (lA.nil tk rfl) (iz.cons (lA.nil tk rfl) (iz.cons (lA.of_eq rfl) (iz.cons (lA.of_eq rfl) (iz.cons (lA.nil tk rfl) iz.nil)))))))))))) rfl rfl rfl rfl (by decide) (dC bA k72.2 rfl hy18) ?_
     refine ac (bc 2 tk rfl ?_)
     exact bg g15 H hl15 hg15 (Gh.le (ap (ap (ap (ap (ap (ap (ap (ap (bs (PLe.of2 (lA.of_eq (congrArg (PV.own 4008 g15) (dz (f := aE) hy18)))) (ap (bs (PLe.q (fR hz15 hl15)) aT))))))))))) (aX rfl (gK.r) (aX rfl (gK.r) aI)) (aP aJ))
    have hn15 := rMd (kX hz15 h) hr15
    refine bm rfl ?_
    refine be s15 g15 hn15 Gh.d
   have H := ci hn15 Hp15
   refine bc 2 tk rfl ?_
   refine be _ () (aA H) Gh.d
  refine ao ?_
  refine be _ () (aA H) Gh.d
 refine ab (aa (ag 2 tk rfl (aq tk ?_)))
 refine ah tk rfl ?_
 obtain ⟨x92,h92,H⟩ := au H
 have s92 := gQ sA st x40 args _ h92
 refine aj Tryz.call6 (gK.r) s92 ?_
 refine ag 3 tk rfl ?_
 refine aN tk fun b16=>?_
 refine ak tk ?_
 refine ah tk rfl (ac (ab (aa (ag 2 tk rfl ?_))))
 refine aV rfl rfl rfl H (fun H=>?_) (fun H=>?_)
 ·refine ag 3 tk rfl ?_
  refine aV rfl rfl rfl H (fun H=>?_) (fun H=>?_)
  ·refine ag 3 tk rfl ?_
   refine aV rfl rfl rfl H (fun H=>?_) (fun H=>?_)
   ·refine aq tk ?_
    refine ah tk rfl ?_
    obtain ⟨x105,h105,H⟩ := au H
    have s105 := kn x40 q _ h105
    refine aj Tryz.call8 (gK.r) s105 ?_
    refine ag 2 tk rfl ?_
    refine aV rfl rfl rfl H (fun H=>?_) (fun H=>?_)
    ·refine ah tk rfl (aq tk ?_)
     refine ah tk rfl (aq tk ?_)
     obtain ⟨x112,h112,H⟩ := au H
     have s112 := iR x31.1.rows x92.1.rows _ h112
     refine aj Tryz.call9 (gK.r) s112 ?_
     refine ag 2 tk rfl (ac ?_)
     exact aS tk H rfl
    refine ag 7 tk rfl (ac ?_)
    exact aS tk H rfl
   refine ag 12 tk rfl (ac ?_)
   exact aS tk H rfl
  refine ag 15 tk rfl (ac ?_)
  exact aS tk H rfl
 refine ag 18 tk rfl (ac ?_)
 exact aS tk H rfl
end
end Go.Proofs.YtioonpnnfepffaaGreat

namespace Go.Proofs.YtioonpnnfepffaaGreat
noncomputable section
open Go Go.Ab
theorem LQuery.inputs_lt {q x : LQuery} (h : x ∈ q.inputs) : SizeOf.sizeOf x < SizeOf.sizeOf q := by
 cases q
 simp only [LQuery.inputs] at h
 have := List.sizeOf_lt_of_mem h
 simp only [LQuery.mk.sizeOf_spec]
 omega
theorem LQuery.ind {p : LQuery → Prop} (h : ∀ q : LQuery,(∀ x ∈ q.inputs,p x) → p q) : ∀ q,p q := by
 intro q
 generalize hn : SizeOf.sizeOf q = n
 induction n using Nat.strongRecOn generalizing q with
 | _ n ih=>exact h q fun x hx=>ih _ (hn ▸ LQuery.inputs_lt hx) x rfl
theorem nd {α : Type} {p : α → Nat → Prop} : ∀ (xs : List α),(∀ x ∈ xs,∃ N,∀ n,N ≤ n → p x n) → ∃ N,∀ n,N ≤ n → ∀ x ∈ xs,p x n
 | [],_=>⟨0,fun _ _ x hx=>by simp at hx⟩
 | y :: xs,h=>by
  obtain ⟨N,hN⟩ := h y (by simp)
  obtain ⟨N',hN'⟩ := nd xs fun x hx=>h x (by simp [hx])
  refine ⟨N + N',fun n hn x hx=>?_⟩
  rcases List.mem_cons.1 hx with rfl | hx
  ·exact hN n (by omega)
  ·exact hN' n (by omega) x hx
theorem kO {α σ ρ : Type} {step step' : Nat → α → σ → Option (Flow σ ρ)} : ∀ (xs : List α) (j : Nat) (s : σ),(∀ k x s,xs[k]? = some x → step (j + k) x s = step' (j + k) x s) → aD step j xs s = aD step' j xs s
 | [],_,_,_=>rfl
 | x :: xs,j,s,h=>by
  have h0 := h 0 x s rfl
  rw [Nat.add_zero] at h0
  rw [aD,aD,h0]
  split
  ·rfl
  ·exact kO xs (j + 1) _ fun k y t hk=>by
    have := h (k + 1) y t (by simpa using hk)
    rwa [show j + (k + 1) = j + 1 + k from by omega] at this
  ·rfl
  ·rfl
theorem dr {α : Type} {xs : List α} {k : Nat} {x : α} (h : xs[k]? = some x) : x ∈ xs := List.mem_of_getElem? h
theorem nF {γ β : Type} {F : Nat → γ → LQuery → Option β} {O : (γ → LQuery → Option β) → γ → LQuery → Option β} (hF : ∀ n,F (n + 1) = O (F n)) (c : γ) (q : LQuery)
  (hc : ∀ r r' : γ → LQuery → Option β,(∀ x ∈ q.inputs,r c x = r' c x) → O r c q = O r' c q) (hx : ∀ x ∈ q.inputs,∃ v,ik (fun n=>F n c x) = some v) {r : β} (h : O (fun c q=>ik fun n=>F n c q) c q = some r) :
  ik (fun n=>F n c q) = some r := by
 obtain ⟨N,hN⟩ := nd (p := fun x n=>F n c x = ik fun n=>F n c x) q.inputs (fun x hm=>by
  obtain ⟨v,hv⟩ := hx x hm
  obtain ⟨N,hN⟩ := limN_ev hv
  exact ⟨N,fun n hn=>by rw [hN n hn,hv]⟩)
 refine kR (N + 1) fun m hm=>?_
 obtain ⟨m,rfl⟩ : ∃ k,m = k + 1 := ⟨m - 1,by omega⟩
 rw [hF,hc _ (fun c q=>ik fun n=>F n c q) (hN m (by omega)),h]
def cg (q : LQuery) : List LQuery := q :: (q.inputs.attach.map fun x=>cg x.1).flatten
termination_by SizeOf.sizeOf q
decreasing_by exact LQuery.inputs_lt x.2
theorem gY (q : LQuery) : cg q = q :: (q.inputs.map cg).flatten := by
 rw [cg,List.attach_map_val (f := cg)]
theorem nodesQ_pos (q : LQuery) : 1 ≤ (cg q).length := by rw [gY]; simp
theorem flat_le {α β : Type} {f : α → List β} {xs : List α} {x : α} (h : x ∈ xs) : (f x).length ≤ ((xs.map f).flatten).length := by
 induction xs with
 | nil=>simp at h
 | cons y xs ih =>
  simp only [List.map_cons,List.flatten_cons,List.length_append]
  rcases List.mem_cons.1 h with rfl | h
  ·omega
  ·have := ih h; omega
theorem lQ {q x : LQuery} (h : x ∈ q.inputs) : (cg x).length + 1 ≤ (cg q).length := by
 rw [gY q]
 have := flat_le (f := cg) h
 simp only [List.length_cons]
 omega
theorem bN {α : Type} {bytes : Nat} {xs ys : List α} (hb : bytes ≤ 200) (h : xs.length + ys.length ≤ 10000000) : cy bytes xs ys = some (xs ++ ys) := by
 refine appI_ok ?_ (by unfold maxLen; omega)
 have : (xs.length + ys.length) * bytes ≤ 10000000 * 200 := Nat.mul_le_mul h hb
 omega
theorem take_flat {α β : Type} {f : α → List β} {xs : List α} {k : Nat} : (((xs.take k).map f).flatten).length ≤ ((xs.map f).flatten).length := by
 induction xs generalizing k with
 | nil=>simp
 | cons y xs ih =>
  cases k with
  | zero=>simp
  | succ k=>simp only [List.take_succ_cons,List.map_cons,List.flatten_cons,List.length_append]; have := ih (k := k); omega
theorem nodes_ok : ∀ q : LQuery,(cg q).length ≤ 10000000 → js q = some (cg q) := by
 refine LQuery.ind fun q ih hb=>?_
 refine nF (γ := Unit) (F := fun n _ q=>ju n q) (O := fun r _ q=>jr (fun x=>r () x) q) (fun n=>rfl) () q ?_ (fun x hx=>⟨_,ih x hx (by have := lQ hx; omega)⟩) ?_
 ·intro r r' h
  simp only [jr]
  congr 1
  exact kO q.inputs 0 _ fun k x s hk=>by rw [h x (dr hk)]
 ·have hr := rMa (step := fun (_ : Nat) (x1 : LQuery) (s1 : List LQuery)=>ae (js x1) fun x17=>ae (cy 160 s1 x17) fun (x18 : List LQuery)=>some (Flow.next (ρ := Empty) x18)) (xs := q.inputs) (s := [q])
   (fun k=>q :: ((q.inputs.take k).map cg).flatten) (by simp) (fun k x hk=>by
    have hx := dr hk
    rw [ih x hx (by have := lQ hx; omega),bPs,bN (by decide),bPs]
    ·rw [List.take_add_one,hk]; simp
    ·have h1 : (((q.inputs.take (k + 1)).map cg).flatten).length ≤ ((q.inputs.map cg).flatten).length := take_flat
     rw [List.take_add_one,hk] at h1
     rw [gY] at hb
     simp at h1 hb ⊢
     omega)
  simp only [jr]
  have e : ∀ x,(ik fun n=>ju n x) = js x := fun _=>rfl
  simp only [e]
  rw [hr,bPs,bI,List.take_length,gY]
def du (a b : Int) : Int := if b > a then b else a
theorem pr {a b c : Int} (h : a ≤ c) (h' : b ≤ c) : du a b ≤ c := by unfold du; split <;> assumption
theorem jk (a b : Int) : a ≤ du a b := by unfold du; split <;> omega
theorem nc (a b : Int) : b ≤ du a b := by unfold du; split <;> omega
def jh (q : LQuery) : Int := (q.inputs.attach.map fun x=>jh x.1).foldl du 0 + 1
termination_by SizeOf.sizeOf q
decreasing_by exact LQuery.inputs_lt x.2
theorem oK (q : LQuery) : jh q = (q.inputs.map jh).foldl du 0 + 1 := by
 rw [jh,List.attach_map_val (f := jh)]
theorem qg : ∀ {l : List Int} {a c : Int},a ≤ c → (∀ x ∈ l,x ≤ c) → l.foldl du a ≤ c
 | [],_,_,h,_=>h
 | x :: l,a,c,h,hl=>qg (l := l) (pr h (hl x (by simp))) fun y hy=>hl y (by simp [hy])
theorem qk : ∀ {l : List Int} {a : Int},a ≤ l.foldl du a ∧ ∀ x ∈ l,x ≤ l.foldl du a
 | [],a=>⟨Int.le_refl a,by simp⟩
 | x :: l,a=>by
  obtain ⟨h1,h2⟩ := qk (l := l) (a := du a x)
  simp only [List.foldl_cons]
  refine ⟨Int.le_trans (jk a x) h1,fun y hy=>?_⟩
  rcases List.mem_cons.1 hy with rfl | hy
  ·exact Int.le_trans (nc a y) h1
  ·exact h2 y hy
theorem depthQ_nodes : ∀ q : LQuery,1 ≤ jh q ∧ jh q ≤ (cg q).length := by
 refine LQuery.ind fun q ih=>?_
 rw [oK,gY]
 have h1 : (q.inputs.map jh).foldl du 0 ≤ (((q.inputs.map cg).flatten).length : Nat) := qg (by omega) fun x hx=>by
  obtain ⟨y,hy,rfl⟩ := List.mem_map.1 hx
  have := (ih y hy).2
  have := flat_le (f := cg) hy
  omega
 have h2 := (qk (l := q.inputs.map jh) (a := 0)).1
 simp only [List.length_cons]
 omega
theorem depth_ok : ∀ q : LQuery,(cg q).length ≤ 10000000 → kp q = some (jh q) := by
 refine LQuery.ind fun q ih hb=>?_
 refine nF (γ := Unit) (F := fun n _ q=>jp n q) (O := fun r _ q=>jv (fun x=>r () x) q) (fun n=>rfl) () q ?_ (fun x hx=>⟨_,ih x hx (by have := lQ hx; omega)⟩) ?_
 ·intro r r' h
  simp only [jv]
  congr 1
  exact kO q.inputs 0 _ fun k x s hk=>by rw [h x (dr hk)]
 ·have hr := rMa (step := fun (_ : Nat) (x1 : LQuery) (s1 : Int)=>ae (kp x1) fun x15=>some (Flow.next (ρ := Empty) (if x15 > s1 then x15 else s1))) (xs := q.inputs) (s := 0)
   (fun k=>((q.inputs.take k).map jh).foldl du 0) (by simp) (fun k x hk=>by
    have hx := dr hk
    rw [ih x hx (by have := lQ hx; omega),bPs,List.take_add_one,hk]
    simp [du])
  simp only [jv]
  have e : ∀ x,(ik fun n=>jp n x) = kp x := fun _=>rfl
  simp only [e]
  rw [hr,bPs,bI,List.take_length,oK]
  have h := depthQ_nodes q
  rw [oK] at h
  rw [bD (by omega) (by omega)]
def mu (n : Int) : Int := if 20001 < n then 20001 else n
def iE (kind : Int) (s : Int × Int) (j : Nat) (x : Int × Int) : Int × Int :=
 (mu (if j = 0 then x.1 else if kind = 6 then s.1 + x.1 else if kind = 4 ∨ kind = 5 then s.1 * du 1 x.1 else s.1),du s.2 x.2)
def ef (kind : Int) : Nat → List (Int × Int) → Int × Int → Int × Int
 | _,[],s=>s
 | j,x :: l,s=>ef kind (j + 1) l (iE kind s j x)
def bH (q : LQuery) : Int × Int :=
 let s := ef q.kind 0 (q.inputs.attach.map fun x=>bH x.1) (0,0)
 if q.kind = 1 then (24,du s.2 24) else (s.1,du s.2 s.1)
termination_by SizeOf.sizeOf q
decreasing_by exact LQuery.inputs_lt x.2
theorem lL (q : LQuery) : bH q = if q.kind = 1 then (24,du (ef q.kind 0 (q.inputs.map bH) (0,0)).2 24) else ((ef q.kind 0 (q.inputs.map bH) (0,0)).1,du (ef q.kind 0 (q.inputs.map bH) (0,0)).2 (ef q.kind 0 (q.inputs.map bH) (0,0)).1) := by
 rw [bH,List.attach_map_val (f := bH)]
def mM (s : Int × Int) : Prop := 0 ≤ s.1 ∧ s.1 ≤ 20001 ∧ 0 ≤ s.2 ∧ s.2 ≤ 20001
theorem capI_b {n : Int} (h : 0 ≤ n) : 0 ≤ mu n ∧ mu n ≤ 20001 := by unfold mu; split <;> omega
theorem mostStep_r {kind : Int} {s x : Int × Int} {j : Nat} (hs : mM s) (hx : mM x) : mM (iE kind s j x) := by
 obtain ⟨a1,a2,a3,a4⟩ := hs
 obtain ⟨b1,b2,b3,b4⟩ := hx
 unfold iE
 have h1 : 0 ≤ (if j = 0 then x.1 else if kind = 6 then s.1 + x.1 else if kind = 4 ∨ kind = 5 then s.1 * du 1 x.1 else s.1) := by
  split
  ·exact b1
  ·split
   ·omega
   ·split
    ·exact Int.mul_nonneg a1 (Int.le_trans (by decide) (jk 1 x.1))
    ·exact a1
 exact ⟨(capI_b h1).1,(capI_b h1).2,Int.le_trans a3 (jk _ _),pr a4 b4⟩
theorem pR {kind : Int} : ∀ {l : List (Int × Int)} {j : Nat} {s : Int × Int},mM s → (∀ x ∈ l,mM x) → mM (ef kind j l s)
 | [],_,_,h,_=>h
 | x :: l,j,s,h,hl=>pR (l := l) (mostStep_r h (hl x (by simp))) fun y hy=>hl y (by simp [hy])
theorem mostQ_r : ∀ q : LQuery,mM (bH q) := by
 refine LQuery.ind fun q ih=>?_
 rw [lL]
 have h : mM (ef q.kind 0 (q.inputs.map bH) (0,0)) := pR ⟨by decide,by decide,by decide,by decide⟩ fun x hx=>by
  obtain ⟨y,hy,rfl⟩ := List.mem_map.1 hx
  exact ih y hy
 obtain ⟨a1,a2,a3,a4⟩ := h
 split
 ·exact ⟨show (0 : Int) ≤ 24 by decide,show (24 : Int) ≤ 20001 by decide,Int.le_trans a3 (jk _ _),pr a4 (by decide)⟩
 ·exact ⟨a1,a2,Int.le_trans a3 (jk _ _),pr a4 a2⟩
theorem qO (kind : Int) : ∀ (l : List (Int × Int)) (j : Nat) (s x : Int × Int),ef kind j (l ++ [x]) s = iE kind (ef kind j l s) (j + l.length) x
 | [],j,s,x=>by simp [ef]
 | y :: l,j,s,x=>by
  rw [List.cons_append,ef,qO kind l (j + 1),ef]
  congr 1
  simp
  omega
theorem mostStep_run {kind : Int} {s x : Int × Int} {j : Nat} (hs : mM s) (hx : mM x) :
  (cond ((j : Int) == (0 : Int))
   (some (Flow.next (ρ := Empty) ((if (20001 : Int) < x.1 then (20001 : Int) else x.1),(if x.2 > s.2 then x.2 else s.2))))
   (cond (kind == (6 : Int))
    (some (.next ((if (20001 : Int) < (IntKind.i64.wrap (s.1 + x.1)) then (20001 : Int) else (IntKind.i64.wrap (s.1 + x.1))),(if x.2 > s.2 then x.2 else s.2))))
    (br (
     cond (kind == (4 : Int))
      (true)
      ((kind == (5 : Int)))) fun (t4 : Bool) =>
    cond t4
     (some (.next ((if (20001 : Int) < (IntKind.i64.wrap (s.1 * (if x.1 > (1 : Int) then x.1 else (1 : Int)))) then (20001 : Int) else (IntKind.i64.wrap (s.1 * (if x.1 > (1 : Int) then x.1 else (1 : Int))))),(if x.2 > s.2 then x.2 else s.2))))
     (some (.next ((if (20001 : Int) < s.1 then (20001 : Int) else s.1),(if x.2 > s.2 then x.2 else s.2))))))) = some (.next (iE kind s j x)) := by
 obtain ⟨a1,a2,a3,a4⟩ := hs
 obtain ⟨b1,b2,b3,b4⟩ := hx
 have hm : 1 ≤ du 1 x.1 ∧ du 1 x.1 ≤ 20001 := ⟨jk _ _,pr (by decide) b2⟩
 have hp : 0 ≤ s.1 * du 1 x.1 ∧ s.1 * du 1 x.1 ≤ 20001 * 20001 := ⟨Int.mul_nonneg a1 (by omega),Int.mul_le_mul a2 hm.2 (by omega) (by decide)⟩
 have hw1 : IntKind.i64.wrap (s.1 + x.1) = s.1 + x.1 := bD (by omega) (by omega)
 have hw2 : IntKind.i64.wrap (s.1 * (if x.1 > (1 : Int) then x.1 else (1 : Int))) = s.1 * du 1 x.1 := bD (by show _ ≤ s.1 * du 1 x.1; omega) (by show s.1 * du 1 x.1 ≤ _; omega)
 rw [hw1,hw2]
 unfold iE mu du br
 by_cases h0 : j = 0
 ·subst h0; simp
 ·have : ((j : Int) == (0 : Int)) = false := by simp; omega
  rw [this]
  by_cases h6 : kind = 6
  ·subst h6; simp [h0]
  ·by_cases h4 : kind = 4
   ·subst h4; simp [h0]
   ·by_cases h5 : kind = 5
    ·subst h5; simp [h0]
    ·have e6 : (kind == (6 : Int)) = false := by simpa using h6
     have e4 : (kind == (4 : Int)) = false := by simpa using h4
     have e5 : (kind == (5 : Int)) = false := by simpa using h5
     simp [h0,h6,h4,h5,e6,e4,e5]
theorem most_ok : ∀ q : LQuery,mf q = some (bH q) := by
 refine LQuery.ind fun q ih=>?_
 refine nF (γ := Unit) (F := fun n _ q=>jW n q) (O := fun r _ q=>jS (fun x=>r () x) q) (fun n=>rfl) () q ?_ (fun x hx=>⟨_,ih x hx⟩) ?_
 ·intro r r' h
  simp only [jS]
  congr 1
  exact kO q.inputs 0 _ fun k x s hk=>by rw [h x (dr hk)]
 ·simp only [jS]
  have e : ∀ x,(ik fun n=>jW n x) = mf x := fun _=>rfl
  simp only [e]
  rw [rMa (xs := q.inputs) (s := (0,0)) (fun k=>ef q.kind 0 ((q.inputs.take k).map bH) (0,0)) (by simp [ef]) (fun k x hk=>by
    have hx := dr hk
    rw [ih x hx,bPs,mostStep_run (pR ⟨by decide,by decide,by decide,by decide⟩ fun y hy=>by
     obtain ⟨z,_,rfl⟩ := List.mem_map.1 hy
     exact mostQ_r z) (mostQ_r x),List.take_add_one,hk]
    have hk' := (zg.1 hk).1
    simp only [Option.toList_some,List.map_append,List.map_cons,List.map_nil]
    rw [qO]
    congr 3
    simp
    omega)]
  rw [bPs,bI,List.take_length,lL]
  by_cases h1 : q.kind = 1
  ·simp [h1,du]
  ·have : (q.kind == (1 : Int)) = false := by simpa using h1
   simp [h1,this,du]
def nS : List (Int → Int) → Int → Int
 | [],s=>s
 | f :: l,s=>if s < 0 then -1 else nS l (f (IntKind.i64.wrap (s - 1)))
def sizeHere (q : LQuery) (m : Int) : Int :=
 q.aggregates.foldl (fun s a=>a.args.foldl (fun s e=>jg e (IntKind.i64.wrap (s - 1))) s) (q.exprs.foldl (fun s e=>jg e (IntKind.i64.wrap (s - 1))) m)
def mn (q : LQuery) : Int → Int := fun m=>nS (q.inputs.attach.map fun x=>mn x.1) (sizeHere q m)
termination_by SizeOf.sizeOf q
decreasing_by exact LQuery.inputs_lt x.2
theorem sizeQ_eq (q : LQuery) (m : Int) : mn q m = nS (q.inputs.map mn) (sizeHere q m) := by
 rw [mn,List.attach_map_val (f := mn)]
theorem qU {f : LQuery → Int → Option Int} : ∀ (l : List LQuery) (j : Nat) (s : Int),(∀ x ∈ l,∀ m,f x m = some (mn x m)) →
  ae (aD (σ := Int) (ρ := Int) (fun (_ : Nat) (x6 : LQuery) (s6 : Int)=>cond (decide (s6 < (0 : Int))) (some (.ret (-1))) (ae (f x6 (IntKind.i64.wrap (s6 - (1 : Int)))) fun x57=>some (.next x57))) j l s) (fun fl6=>fl6.thenR fun (s6 : Int)=>some s6) = some (nS (l.map mn) s)
 | [],j,s,_=>rfl
 | x :: l,j,s,h=>by
  rw [aD,List.map_cons,nS]
  by_cases hs : s < 0
  ·simp [hs]
  ·simp only [hs,decide_false,zd,if_false]
   rw [h x (by simp),bPs]
   exact qU l (j + 1) _ fun y hy=>h y (by simp [hy])
theorem size_ok : ∀ (q : LQuery) (m : Int),lF q m = some (mn q m) := by
 have key : ∀ q : LQuery,∃ N,∀ n,N ≤ n → ∀ m,gr n q m = some (mn q m) := by
  refine LQuery.ind fun q ih=>?_
  obtain ⟨N,hN⟩ := nd (p := fun x n=>∀ m,gr n x m = some (mn x m)) q.inputs ih
  refine ⟨N + 1,fun n hn m=>?_⟩
  obtain ⟨n,rfl⟩ : ∃ k,n = k + 1 := ⟨n - 1,by omega⟩
  rw [gr]
  simp only [kf,bQ]
  rw [mP (xs := q.exprs) (fun s e=>jg e (IntKind.i64.wrap (s - 1))) (fun _ _ _=>rfl),bPs,bI]
  rw [mP (xs := q.aggregates) (fun s a=>a.args.foldl (fun s e=>jg e (IntKind.i64.wrap (s - 1))) s) (fun k a _=>by
   rw [mP (xs := a.args) (fun s e=>jg e (IntKind.i64.wrap (s - 1))) (fun _ _ _=>rfl),bPs,bI]),bPs,bI]
  rw [qU q.inputs 0 _ (hN n (by omega)),sizeQ_eq]
  rfl
 intro q m
 obtain ⟨N,hN⟩ := key q
 exact kR N fun n hn=>hN n hn m
theorem LExpr.args_lt {e x : LExpr} (h : x ∈ e.args) : SizeOf.sizeOf x < SizeOf.sizeOf e := by
 cases e
 simp only [LExpr.args] at h
 have := List.sizeOf_lt_of_mem h
 simp only [LExpr.mk.sizeOf_spec]
 omega
theorem LExpr.ind {p : LExpr → Prop} (h : ∀ e : LExpr,(∀ x ∈ e.args,p x) → p e) : ∀ e,p e := by
 intro e
 generalize hn : SizeOf.sizeOf e = n
 induction n using Nat.strongRecOn generalizing e with
 | _ n ih=>exact h e fun x hx=>ih _ (hn ▸ LExpr.args_lt hx) x rfl
def iU (e : LExpr) : List (Nat × Int) := if e.kind = 3 ∧ 0 ≤ e.index ∧ e.index < 8 then [(e.index.toNat,e.value.kind)] else []
def cJ (e : LExpr) : List (Nat × Int) := iU e ++ (e.args.attach.map fun x=>cJ x.1).flatten
termination_by SizeOf.sizeOf e
decreasing_by exact LExpr.args_lt x.2
theorem mg (e : LExpr) : cJ e = iU e ++ (e.args.map cJ).flatten := by
 rw [cJ,List.attach_map_val (f := cJ)]
abbrev PSt := List Int × Bool × List Bool
def iB (out : List Int) (i : Nat) : List Int := out ++ List.replicate (i + 1 - out.length) 0
def eH (s : PSt) (p : Nat × Int) : PSt :=
 ((iB s.1 p.1).set p.1 p.2,s.2.1 || (s.2.2.getD p.1 false && (iB s.1 p.1).getD p.1 0 != p.2),s.2.2.set p.1 true)
def POk (s : PSt) : Prop := s.1.length ≤ 8 ∧ s.2.2.length = 8
theorem mU (out : List Int) (i : Nat) : (iB out i).length = max out.length (i + 1) := by simp [iB]; omega
theorem pstep_ok {s : PSt} {p : Nat × Int} (h : POk s) (hp : p.1 < 8) : POk (eH s p) := by
 refine ⟨?_,by simp [eH,h.2]⟩
 show ((iB s.1 p.1).set p.1 p.2).length ≤ 8
 rw [List.length_set,mU]
 have := h.1
 omega
theorem md : ∀ e : LExpr,∀ p ∈ cJ e,p.1 < 8 := by
 refine LExpr.ind fun e ih p hp=>?_
 rw [mg,List.mem_append] at hp
 rcases hp with hp | hp
 ·unfold iU at hp
  split at hp
  ·rename_i h; simp at hp; subst hp; simp; omega
  ·simp at hp
 ·obtain ⟨l,hl,hp⟩ := List.mem_flatten.1 hp
  obtain ⟨x,hx,rfl⟩ := List.mem_map.1 hl
  exact ih x hx p hp
theorem lC : ∀ {l : List (Nat × Int)} {s : PSt},POk s → (∀ p ∈ l,p.1 < 8) → POk (l.foldl eH s)
 | [],_,h,_=>h
 | p :: l,s,h,hl=>lC (l := l) (pstep_ok h (hl p (by simp))) fun q hq=>hl q (by simp [hq])
theorem pad_while (i : Nat) (hi : i < 8) : ∀ (n : Nat) (out : List Int),i + 1 - out.length = n → out.length ≤ 8 →
  fJ (σ := List Int) (ρ := Empty) (fun (s7 : List Int)=>cond (decide ((s7.length : Int) ≤ (i : Int))) (ae (cy 8 s7 ([0] : List Int)) fun (x28 : List Int)=>some (.next x28)) (some (.brk s7))) out = some (.next (iB out i))
 | 0,out,hn,ho=>by
  refine lk (fl := .brk out) ?_ ?_
  ·have : ¬ ((out.length : Int) ≤ (i : Int)) := by omega
   simp [this]
  ·simp [iB,hn]
 | n + 1,out,hn,ho=>by
  refine lk (fl := .next (out ++ [0])) ?_ ?_
  ·have : (out.length : Int) ≤ (i : Int) := by omega
   simp only [this,decide_true,zc]
   rw [bN (by decide) (by simp; omega)]
   rfl
  ·have := pad_while i hi n (out ++ [0]) (by simp; omega) (by simp; omega)
   simp only
   rw [this]
   simp only [iB,List.length_append,List.length_singleton,List.append_assoc,hn]
   rw [show i + 1 - (out.length + 1) = n from by omega,show (List.replicate (n + 1) (0 : Int)) = [0] ++ List.replicate n 0 from rfl]
theorem arrI_at {xs : List Bool} {i : Nat} (h : xs.length = 8) (hi : i < 8) : arrI 8 xs (i : Int) = some (xs.getD i false) := by
 have : xs[i]? = some (xs.getD i false) := by rw [List.getD_eq_getElem?_getD,ze (by omega)]; rfl
 exact arrI_eq (by omega) (by simpa using this)
theorem getI_at {xs : List Int} {i : Nat} (h : i < xs.length) : aK xs (i : Int) = some (xs.getD i 0) := by
 have : xs[i]? = some (xs.getD i 0) := by rw [List.getD_eq_getElem?_getD,ze h]; rfl
 exact gL this
theorem look_ok : ∀ e : LExpr,∃ N,∀ n,N ≤ n → ∀ s : PSt,POk s → dj n e s.1 s.2.1 s.2.2 = some ((cJ e).foldl eH s) := by
 refine LExpr.ind fun e ih=>?_
 obtain ⟨N,hN⟩ := nd (p := fun x n=>∀ s : PSt,POk s → dj n x s.1 s.2.1 s.2.2 = some ((cJ x).foldl eH s)) e.args ih
 refine ⟨N + 1,fun n hn s hs=>?_⟩
 obtain ⟨n,rfl⟩ : ∃ k,n = k + 1 := ⟨n - 1,by omega⟩
 rw [dj]
 simp only [gR]
 have h1 : POk ((iU e).foldl eH s) := lC hs fun p hp=>md e p (by rw [mg]; simp [hp])
 have hloop : ∀ s : PSt,POk s → ae (aD (σ := List Int × Bool × List Bool) (ρ := Empty) (fun (_ : Nat) (x11 : LExpr) (s11 : List Int × Bool × List Bool) =>
   ae (dj n x11 s11.1 s11.2.1 s11.2.2) fun x66=>some (.next (x66.1,x66.2.1,x66.2.2))) 0 e.args (s.1,s.2.1,s.2.2)) (fun fl11=>fl11.thenP fun (s11 : List Int × Bool × List Bool)=>some (s11.1,s11.2.1,s11.2.2)) =
   some (((e.args.map cJ).flatten).foldl eH s) := by
  intro s hs
  rw [rMa (xs := e.args) (s := (s.1,s.2.1,s.2.2)) (fun k=>(((e.args.take k).map cJ).flatten).foldl eH s) rfl (fun k x hk=>by
   have hx := dr hk
   have hok : POk ((((e.args.take k).map cJ).flatten).foldl eH s) := lC hs fun p hp=>by
    obtain ⟨l,hl,hp⟩ := List.mem_flatten.1 hp
    obtain ⟨y,hy,rfl⟩ := List.mem_map.1 hl
    exact md y p hp
   rw [hN n (by omega) x hx _ hok,bPs,List.take_add_one,hk]
   simp)]
  rw [bPs,bI,List.take_length]
 have key : (ae (cond (br (cond (e.kind == (3 : Int)) (cond (decide (e.index ≥ (0 : Int))) ((decide (e.index < (8 : Int)))) (false)) (false)) fun (t1 : Bool)=>t1)
   (ae (fJ (σ := List Int) (ρ := Empty) (fun (s7 : List Int)=>cond (decide ((s7.length : Int) ≤ e.index)) (ae (cy 8 s7 ([0] : List Int)) fun (x28 : List Int)=>some (.next x28)) (some (.brk s7))) s.1) fun fl7=>fl7.thenP fun (s7 : List Int) =>
   ae (cond s.2.1 (some true) (ae (arrI 8 s.2.2 e.index) fun (x33 : Bool)=>cond x33 (ae (aK s7 e.index) fun (x39 : Int)=>some (x39 != e.value.kind)) (some false))) fun (t8 : Bool) =>
   ae (aK s7 e.index) fun (_ : Int)=>br (s7.set e.index.toNat e.value.kind) fun (y9 : List Int)=>ae (arrI 8 s.2.2 e.index) fun (_ : Bool)=>br (s.2.2.set e.index.toNat true) fun (y10 : List Bool)=>some (y9,t8,y10))
   (some (s.1,s.2.1,s.2.2))) fun t=>some t) = some ((iU e).foldl eH s) := by
  unfold br
  by_cases hc : e.kind = 3 ∧ 0 ≤ e.index ∧ e.index < 8
  ·obtain ⟨hk,h0,h8⟩ := hc
   obtain ⟨i,hi⟩ : ∃ i : Nat,e.index = i := ⟨e.index.toNat,by omega⟩
   have hi8 : i < 8 := by omega
   have e0 : (e.kind == (3 : Int)) = true := by simpa using hk
   have e1 : decide (e.index ≥ (0 : Int)) = true := zt h0
   have e2 : decide (e.index < (8 : Int)) = true := zt h8
   rw [e0,e1,e2]
   simp only [zc]
   rw [hi,pad_while i hi8 _ s.1 rfl hs.1]
   simp only [bPs,bI]
   have hl : i < (iB s.1 i).length := by rw [mU]; omega
   rw [arrI_at hs.2 hi8,getI_at hl]
   simp only [bPs,Int.toNat_natCast]
   have hh : iU e = [(i,e.value.kind)] := by unfold iU; rw [zp ⟨hk,h0,h8⟩,hi,Int.toNat_natCast]
   rw [hh]
   simp only [List.foldl_cons,List.foldl_nil,eH]
   cases hb : s.2.1 <;> cases hc : s.2.2.getD i false <;> simp
  ·have hh : iU e = [] := by unfold iU; rw [zy hc]
   rw [hh]
   have e0 : (cond (e.kind == (3 : Int)) (cond (decide (e.index ≥ (0 : Int))) ((decide (e.index < (8 : Int)))) (false)) (false)) = false := by
    by_cases a : e.kind = 3
    ·by_cases b : 0 ≤ e.index
     ·have : ¬ e.index < 8 := fun h=>hc ⟨a,b,h⟩
      simp [this]
     ·have : ¬ e.index ≥ 0 := b
      simp [this]
    ·have : (e.kind == (3 : Int)) = false := by simpa using a
     simp [this]
   rw [e0]
   rfl
 simp only [bQ] at key ⊢
 rw [mg,List.foldl_append,← hloop _ h1]
 generalize hg : (cond _ _ _ : Option PSt) = o at key
 cases o with
 | none=>cases key
 | some t =>
  simp only [bPs,zo] at key
  subst key
  rfl
theorem look_eq (e : LExpr) {s : PSt} (h : POk s) : fL e s.1 s.2.1 s.2.2 = some ((cJ e).foldl eH s) := by
 obtain ⟨N,hN⟩ := look_ok e
 exact kR N fun n hn=>hN n hn s h
def iY (x : LQuery) : List (Nat × Int) := (x.exprs.map cJ).flatten ++ (x.aggregates.map fun a=>(a.args.map cJ).flatten).flatten
def gV (q : LQuery) : List (Nat × Int) := ((cg q).map iY).flatten
theorem nu {x : LQuery} : ∀ p ∈ iY x,p.1 < 8 := by
 intro p hp
 rcases List.mem_append.1 hp with hp | hp
 ·obtain ⟨l,hl,hp⟩ := List.mem_flatten.1 hp
  obtain ⟨e,_,rfl⟩ := List.mem_map.1 hl
  exact md e p hp
 ·obtain ⟨l,hl,hp⟩ := List.mem_flatten.1 hp
  obtain ⟨a,_,rfl⟩ := List.mem_map.1 hl
  obtain ⟨l,hl,hp⟩ := List.mem_flatten.1 hp
  obtain ⟨e,_,rfl⟩ := List.mem_map.1 hl
  exact md e p hp
theorem paramsQ_lt {q : LQuery} : ∀ p ∈ gV q,p.1 < 8 := by
 intro p hp
 obtain ⟨l,hl,hp⟩ := List.mem_flatten.1 hp
 obtain ⟨x,_,rfl⟩ := List.mem_map.1 hl
 exact nu p hp
theorem lookAll {l : List LExpr} {s : PSt} (h : POk s) : aD (σ := PSt) (ρ := Empty) (fun (_ : Nat) (x12 : LExpr) (s12 : PSt) =>
   ae (fL x12 s12.1 s12.2.1 s12.2.2) fun x33=>some (.next (x33.1,x33.2.1,x33.2.2))) 0 l (s.1,s.2.1,s.2.2) = some (.next (((l.map cJ).flatten).foldl eH s)) := by
 rw [rMa (xs := l) (s := (s.1,s.2.1,s.2.2)) (fun k=>(((l.take k).map cJ).flatten).foldl eH s) rfl (fun k x hk=>by
  have hok : POk ((((l.take k).map cJ).flatten).foldl eH s) := lC h fun p hp=>by
   obtain ⟨m,hm,hp⟩ := List.mem_flatten.1 hp
   obtain ⟨y,hy,rfl⟩ := List.mem_map.1 hm
   exact md y p hp
  rw [look_eq x hok,bPs,List.take_add_one,hk]
  simp),List.take_length]
def dR (q : LQuery) : PSt := (gV q).foldl eH ([],false,List.replicate 8 false)
theorem kinds_ok {q : LQuery} (hb : (cg q).length ≤ 10000000) : fh q = some (cond (dR q).2.1 ([],13) ((dR q).1,0)) := by
 unfold fh
 rw [nodes_ok q hb,bPs]
 rw [rMa (xs := cg q) (s := ([],false,List.replicate 8 false)) (fun k=>((((cg q).take k).map iY).flatten).foldl eH ([],false,List.replicate 8 false)) rfl (fun k x hk=>by
  have hok : POk (((((cg q).take k).map iY).flatten).foldl eH ([],false,List.replicate 8 false)) := lC ⟨by simp,by simp⟩ fun p hp=>by
   obtain ⟨m,hm,hp⟩ := List.mem_flatten.1 hp
   obtain ⟨y,hy,rfl⟩ := List.mem_map.1 hm
   exact nu p hp
  rw [lookAll hok,bPs,bI]
  rw [show ((((cg q).take (k + 1)).map iY).flatten).foldl eH ([],false,List.replicate 8 false) = (iY x).foldl eH (((((cg q).take k).map iY).flatten).foldl eH ([],false,List.replicate 8 false)) from by
   rw [List.take_add_one,hk]
   simp only [Option.toList_some,List.map_append,List.map_cons,List.map_nil,List.flatten_append,List.flatten_cons,List.flatten_nil,List.append_nil,List.foldl_append]]
  generalize (((((cg q).take k).map iY).flatten).foldl eH ([],false,List.replicate 8 false)) = s at hok ⊢
  have hok2 : POk (((x.exprs.map cJ).flatten).foldl eH s) := lC hok fun p hp=>nu (x := x) p (by unfold iY; simp only [List.mem_append]; exact .inl hp)
  rw [rMa (xs := x.aggregates) (s := ((((x.exprs.map cJ).flatten).foldl eH s).1,(((x.exprs.map cJ).flatten).foldl eH s).2.1,(((x.exprs.map cJ).flatten).foldl eH s).2.2))
   (fun k=>((((x.aggregates.take k).map fun a=>(a.args.map cJ).flatten).flatten).foldl eH (((x.exprs.map cJ).flatten).foldl eH s))) rfl (fun k a ha=>by
    have hok3 : POk ((((x.aggregates.take k).map fun a=>(a.args.map cJ).flatten).flatten).foldl eH (((x.exprs.map cJ).flatten).foldl eH s)) := lC hok2 fun p hp=>nu (x := x) p (by
     unfold iY
     simp only [List.mem_append]
     obtain ⟨m,hm,hp⟩ := List.mem_flatten.1 hp
     obtain ⟨y,hy,rfl⟩ := List.mem_map.1 hm
     exact .inr (List.mem_flatten.2 ⟨_,List.mem_map.2 ⟨y,List.mem_of_mem_take hy,rfl⟩,hp⟩))
    rw [lookAll hok3,bPs,bI,List.take_add_one,ha]
    simp)]
  rw [bPs,bI,List.take_length]
  unfold iY
  rw [List.foldl_append])]
 rw [bPs,bI,List.take_length]
 show (cond (dR q).2.1 (some ([],13)) (some ((dR q).1,0))) = _
 cases (dR q).2.1 <;> rfl
def nQ (l : List (Nat × Int)) : Prop := ∀ i k k',(i,k) ∈ l → (i,k') ∈ l → k = k'
structure PInv (l : List (Nat × Int)) (s : PSt) : Prop where
 ok : POk s
 seen : ∀ i,i < 8 → (s.2.2.getD i false = true ↔ ∃ k,(i,k) ∈ l)
 len : ∀ i k,(i,k) ∈ l → i < s.1.length
 last : s.1.length = 0 ∨ ∃ k,(s.1.length - 1,k) ∈ l
 zero : ∀ i,(∀ k,(i,k) ∉ l) → s.1.getD i 0 = 0
 good : s.2.1 = false → ∀ i k,(i,k) ∈ l → s.1.getD i 0 = k
 bad : nQ l → s.2.1 = false
theorem oL (out : List Int) (i j : Nat) : (iB out i).getD j 0 = out.getD j 0 := by
 simp only [iB,List.getD_eq_getElem?_getD]
 by_cases h : j < out.length
 ·rw [List.getElem?_append_left h]
 ·rw [List.getElem?_append_right (by omega),List.getElem?_eq_none (l := out) (by omega),List.getElem?_replicate]
  split <;> rfl
theorem PInv.init : PInv [] ([],false,List.replicate 8 false) :=
 ⟨⟨by simp,by simp⟩,fun i hi=>by
  have : (List.replicate 8 false).getD i false = false := by rw [List.getD_eq_getElem?_getD,List.getElem?_replicate]; split <;> rfl
  exact ⟨fun h=>(by rw [show (([],false,List.replicate 8 false) : PSt).2.2 = List.replicate 8 false from rfl,this] at h; cases h),fun ⟨k,hk⟩=>(by simp at hk)⟩,fun i k h=>by simp at h,.inl rfl,fun i _=>by simp,fun _ i k h=>by simp at h,fun _=>rfl⟩
theorem PInv.step {l : List (Nat × Int)} {s : PSt} (h : PInv l s) {p : Nat × Int} (hp : p.1 < 8) : PInv (l ++ [p]) (eH s p) := by
 obtain ⟨i,k⟩ := p
 simp only at hp
 have hset : ∀ (xs : List Int) (j : Nat) (v : Int),i < xs.length → (xs.set i v).getD j 0 = if j = i then v else xs.getD j 0 := by
  intro xs j v hl
  rw [List.getD_eq_getElem?_getD,List.getD_eq_getElem?_getD,List.getElem?_set]
  by_cases hji : i = j
  ·subst hji; simp [hl]
  ·have : j ≠ i := fun h=>hji h.symm
   simp [hji,this]
 have hl1 : i < (iB s.1 i).length := by rw [mU]; omega
 refine ⟨pstep_ok h.ok hp,fun j hj=>?_,fun j k' hm=>?_,?_,fun j hno=>?_,fun hb j k' hm=>?_,fun hk=>?_⟩
 ·show (s.2.2.set i true).getD j false = true ↔ _
  rw [List.getD_eq_getElem?_getD,List.getElem?_set]
  by_cases hji : i = j
  ·subst hji
   have : i < s.2.2.length := by rw [h.ok.2]; exact hp
   simp [this]
  ·have h1 := h.seen j hj
   rw [List.getD_eq_getElem?_getD] at h1
   have hji' : j ≠ i := fun h=>hji h.symm
   simp only [hji,if_false,h1,List.mem_append,List.mem_singleton,Prod.mk.injEq,hji',false_and,or_false]
 ·show j < ((iB s.1 i).set i k).length
  rw [List.length_set,mU]
  rcases List.mem_append.1 hm with hm | hm
  ·have := h.len j k' hm; omega
  ·simp at hm; omega
 ·show ((iB s.1 i).set i k).length = 0 ∨ ∃ k',(((iB s.1 i).set i k).length - 1,k') ∈ l ++ [(i,k)]
  rw [List.length_set,mU]
  by_cases hle : s.1.length ≤ i + 1
  ·right
   exact ⟨k,by rw [show max s.1.length (i + 1) - 1 = i from by omega]; simp⟩
  ·rcases h.last with h0 | ⟨k',hk'⟩
   ·omega
   ·right
    exact ⟨k',by rw [show max s.1.length (i + 1) - 1 = s.1.length - 1 from by omega]; simp [hk']⟩
 ·show ((iB s.1 i).set i k).getD j 0 = 0
  have hji : j ≠ i := fun e=>hno k (by simp [e])
  rw [hset _ _ _ hl1,zy hji,oL]
  exact h.zero j fun k' hm=>hno k' (by simp [hm])
 ·have hb' : s.2.1 = false ∧ (s.2.2.getD i false && (iB s.1 i).getD i 0 != k) = false := by
   have : (s.2.1 || (s.2.2.getD i false && (iB s.1 i).getD i 0 != k)) = false := hb
   simpa using this
  show ((iB s.1 i).set i k).getD j 0 = k'
  rw [hset _ _ _ hl1]
  have hold := h.good hb'.1
  rcases List.mem_append.1 hm with hm1 | hm
  ·by_cases hji : j = i
   ·subst hji
    rw [zp rfl]
    have hs := (h.seen j hp).2 ⟨k',hm1⟩
    have := hb'.2
    rw [hs,oL,hold j k' hm1] at this
    simp at this
    exact this.symm
   ·rw [zy hji,oL]
    exact hold j k' hm1
  ·simp at hm
   rw [zp hm.1,hm.2]
 ·have h1 := h.bad fun i k k' a b=>hk i k k' (by simp [a]) (by simp [b])
  show (s.2.1 || (s.2.2.getD i false && (iB s.1 i).getD i 0 != k)) = false
  rw [h1,Bool.false_or,oL]
  cases hs : s.2.2.getD i false with
  | false=>rfl
  | true =>
   obtain ⟨k',hk'⟩ := (h.seen i hp).1 hs
   rw [h.good h1 i k' hk',hk i k' k (by simp [hk']) (by simp)]
   simp
theorem PInv.fold : ∀ {r l : List (Nat × Int)} {s : PSt},PInv l s → (∀ p ∈ r,p.1 < 8) → PInv (l ++ r) (r.foldl eH s)
 | [],l,s,h,_=>by simpa using h
 | p :: r,l,s,h,hr=>by
  have := PInv.fold (r := r) (h.step (hr p (by simp))) fun q hq=>hr q (by simp [hq])
  simpa using this
theorem kinds_inv (q : LQuery) : PInv (gV q) (dR q) := by
 have := PInv.fold (r := gV q) PInv.init paramsQ_lt
 rw [List.nil_append] at this
 exact this
theorem kinds_bad {q : LQuery} : (dR q).2.1 = false ↔ nQ (gV q) := by
 have h := kinds_inv q
 refine ⟨fun hb i k k' a b=>?_,h.bad⟩
 rw [← h.good hb i k a,← h.good hb i k' b]
structure ArgsOk (l : List (Nat × Int)) (args : Rq) : Prop where
 kinds : nQ l
 args : ∀ i k,(i,k) ∈ l → i < args.length ∧ (∀ j x,j ≤ i → args[j]? = some x → eO x = true) ∧ (∀ x,args[i]? = some x → k = 0 ∨ x.kind = k ∨ x.kind = 0)
theorem args_ok {q : LQuery} (hb : (cg q).length ≤ 10000000) (args : Rq) : ∃ e,fp q args = some e ∧ (e = 0 ↔ ArgsOk (gV q) args) := by
 unfold fp
 rw [kinds_ok hb,bPs]
 have h := kinds_inv q
 cases hbad : (dR q).2.1 with
 | true =>
  refine ⟨13,by simp,?_⟩
  have : ¬ nQ (gV q) := fun hk=>by rw [kinds_bad.2 hk] at hbad; cases hbad
  exact ⟨fun h=>by omega,fun h=>absurd h.kinds this⟩
 | false =>
  simp only [zd]
  have hk := kinds_bad.1 hbad
  by_cases hl : args.length < (dR q).1.length
  ·refine ⟨1,by simp [hl],fun h=>by omega,fun ha=>?_⟩
   rcases h.last with h0 | ⟨k,hm⟩
   ·omega
   ·have := (ha.args _ _ hm).1; omega
  ·have hge : (dR q).1.length ≤ args.length := by omega
   have hstep : ∀ k x,(dR q).1[k]? = some x → ∃ y,args[k]? = some y := fun k x hx=>by
    have := (zg.1 hx).1
    exact ⟨args[k],ze (by omega)⟩
   let okAt : Nat → Int → Prop := fun k x=>∀ y,args[k]? = some y → eO y = true ∧ (x = 0 ∨ y.kind = x ∨ y.kind = 0)
   obtain ⟨fl,hfl,hres⟩ := eI (step := fun (j1 : Nat) (x1 : Int) (_ : Unit)=>ae (aK args (j1 : Int)) fun (x31 : LVal)=>br (eO x31) fun x33=>cond (!x33) (some (Flow.ret (σ := Unit) (7 : Int)))
     (cond (x1 != (0 : Int)) (ae (aK args (j1 : Int)) fun (x41 : LVal)=>cond (x41.kind != x1) (ae (aK args (j1 : Int)) fun (x50 : LVal)=>cond (x50.kind != (0 : Int)) (some (.ret 7)) (some (.next ()))) (some (.next ()))) (some (.next ()))))
    (fun j _=>∀ k x,k < j → (dR q).1[k]? = some x → okAt k x) (fun r=>r = 7 ∧ ∃ k x,(dR q).1[k]? = some x ∧ ¬ okAt k x) (dR q).1 0 () (fun k x hk=>by omega) (fun k x s hk hI=>by
     obtain ⟨y,hy⟩ := hstep k x hk
     simp only [Nat.zero_add] at hI ⊢
     rw [gL hy]
     simp only [bPs,bQ]
     have next : okAt k x → ∀ k' x',k' < k + 1 → (dR q).1[k']? = some x' → okAt k' x' := fun ho k' x' hk' hx'=>by
      by_cases he : k' = k
      ·subst he; rw [hk] at hx'; cases hx'; exact ho
      ·exact hI k' x' (by omega) hx'
     cases hv : eO y with
     | false=>exact ⟨_,rfl,rfl,k,x,hk,fun ho=>by have := (ho y hy).1; rw [hv] at this; cases this⟩
     | true =>
      simp only [Bool.not_true,zd]
      by_cases hx0 : x = 0
      ·refine ⟨.next (),by simp [hx0],next fun z hz=>?_⟩
       rw [hy] at hz; cases hz; exact ⟨hv,.inl hx0⟩
      ·have e0 : (x != (0 : Int)) = true := by simpa using hx0
       rw [e0,zc]
       by_cases hyx : y.kind = x
       ·refine ⟨.next (),by simp [hyx],next fun z hz=>?_⟩
        rw [hy] at hz; cases hz; exact ⟨hv,.inr (.inl hyx)⟩
       ·have e1 : (y.kind != x) = true := by simpa using hyx
        rw [e1,zc]
        by_cases hy0 : y.kind = 0
        ·refine ⟨.next (),by simp [hy0],next fun z hz=>?_⟩
         rw [hy] at hz; cases hz; exact ⟨hv,.inr (.inr hy0)⟩
        ·have e2 : (y.kind != (0 : Int)) = true := by simpa using hy0
         refine ⟨.ret 7,by simp [e2],rfl,k,x,hk,fun ho=>?_⟩
         rcases (ho y hy).2 with a | a | a
         ·exact hx0 a
         ·exact hyx a
         ·exact hy0 a)
   have e0 : decide ((args.length : Int) < ((dR q).1.length : Int)) = false := zf (by omega)
   simp only [bne_self_eq_false,zd,e0]
   rw [hfl,bPs]
   have hget : ∀ k,k < (dR q).1.length → (dR q).1[k]? = some ((dR q).1.getD k 0) := fun k hk=>by
    rw [List.getD_eq_getElem?_getD,ze hk]; rfl
   cases fl with
   | brk s=>exact absurd hres (by simp)
   | next s =>
    refine ⟨0,rfl,fun _=>⟨hk,fun i k hm=>?_⟩,fun _=>rfl⟩
    have hi := h.len i k hm
    simp only [Nat.zero_add] at hres
    refine ⟨by omega,fun j x hj hx=>?_,fun x hx=>?_⟩
    ·exact ((hres j _ (by omega) (hget j (by omega))) x hx).1
    ·have := ((hres i _ (by omega) (hget i (by omega))) x hx).2
     rwa [h.good hbad i k hm] at this
   | ret r =>
    obtain ⟨rfl,k,x,hx,hno⟩ := hres
    refine ⟨7,rfl,fun h=>by omega,fun ha=>absurd ?_ hno⟩
    intro y hy
    have hkl := (zg.1 hx).1
    rcases h.last with h0 | ⟨k',hm⟩
    ·omega
    ·have hv := (ha.args _ _ hm).2.1 k y (by omega) hy
     refine ⟨hv,?_⟩
     by_cases hex : ∃ k2,(k,k2) ∈ gV q
     ·obtain ⟨k2,hm2⟩ := hex
      have hg := h.good hbad k k2 hm2
      have hxx : x = k2 := by
       rw [hget k hkl] at hx
       rw [← hg]
       exact (Option.some.inj hx).symm
      rw [hxx]
      exact (ha.args k k2 hm2).2.2 y hy
     ·left
      have := h.zero k fun k2 hm2=>hex ⟨k2,hm2⟩
      rw [hget k hkl] at hx
      rw [← this]
      exact (Option.some.inj hx).symm
def Tot {α : Type} (o : Option α) : Prop := ∃ v,o = some v
theorem Tot.mk {α : Type} {v : α} : Tot (Option.some v) := ⟨v,rfl⟩
theorem Tot.bind {α β : Type} {o : Option α} {k : α → Option β} (h : Tot o) (hk : ∀ v,o = some v → Tot (k v)) : Tot (ae o k) := by
 obtain ⟨v,hv⟩ := h
 rw [hv]
 exact hk v hv
theorem Tot.cond {α : Type} {b : Bool} {x y : Option α} (hx : b = true → Tot x) (hy : b = false → Tot y) : Tot (cond b x y) := by
 cases b
 ·exact hy rfl
 ·exact hx rfl
theorem Tot.get {α : Type} {xs : List α} {i : Int} (h0 : 0 ≤ i) (h : i < xs.length) : Tot (aK xs i) := by
 have : i.toNat < xs.length := by omega
 exact ⟨xs[i.toNat],lM h0 (ze this)⟩
theorem Tot.sub {α : Type} {xs : List α} {a b : Int} (h : 0 ≤ a ∧ a ≤ b ∧ b ≤ xs.length) : Tot (nn xs a b) := ⟨_,oZ h⟩
theorem Tot.range {α σ ρ : Type} {step : Nat → α → σ → Option (Flow σ ρ)} : ∀ (xs : List α) (j : Nat) (s : σ),(∀ k x s,xs[k]? = some x → Tot (step (j + k) x s)) → Tot (aD step j xs s)
 | [],_,s,_=>⟨.next s,rfl⟩
 | x :: xs,j,s,h=>by
  obtain ⟨fl,hfl⟩ := h 0 x s rfl
  rw [Nat.add_zero] at hfl
  rw [aD,hfl]
  cases fl with
  | next s' =>
   exact Tot.range xs (j + 1) s' fun k y t hk=>by
    have := h (k + 1) y t (by simpa using hk)
    rwa [show j + (k + 1) = j + 1 + k from by omega] at this
  | brk s'=>exact ⟨_,rfl⟩
  | ret r=>exact ⟨_,rfl⟩
theorem Tot.thenR {σ ρ : Type} {fl : Flow σ ρ} {k : σ → Option ρ} (h : ∀ s,(fl = .next s ∨ fl = .brk s) → Tot (k s)) : Tot (fl.thenR k) := by
 cases fl with
 | next s=>exact h s (.inl rfl)
 | brk s=>exact h s (.inr rfl)
 | ret r=>exact ⟨r,rfl⟩
theorem lJ {a b : Int} (h : a ≠ b) : (a != b) = true := by simpa using h
theorem lY {a b : Int} (h : a = b) : (a != b) = false := by simp [h]
theorem dg {a b : Int} (h : a ≠ b) : (a == b) = false := by simpa using h
theorem lc {a b : Int} (h : a = b) : (a == b) = true := by simp [h]
theorem idxF {α : Type} {l : List α} {f : α → Option Bool} {p : α → Bool} (h : ∀ x ∈ l,f x = some (p x)) :
  ae (aD (σ := Unit) (ρ := Int) (fun (j1 : Nat) (x1 : α) (_ : Unit)=>ae (f x1) fun x16=>cond x16 (some (.ret (j1 : Int))) (some (.next ()))) 0 l ()) (fun fl1=>fl1.thenR fun (_ : Unit)=>some (-1)) = some (bf p l) := by
 rw [oX p (fun j _=>(j : Int)) l 0 (fun k x hk=>by
  rw [h x (dr hk),bPs]
  cases p x <;> simp)]
 unfold bf
 cases hf : l.findIdx? p with
 | none=>rfl
 | some i =>
  have hi := (List.findIdx?_eq_some_iff_getElem.1 hf).1
  simp only [ze hi]
  simp
theorem idxF2 {α : Type} {l : List α} {p : α → Bool} :
  ae (aD (σ := Unit) (ρ := Int) (fun (j1 : Nat) (x1 : α) (_ : Unit)=>cond (p x1) (some (.ret (j1 : Int))) (some (.next ()))) 0 l ()) (fun fl1=>fl1.thenR fun (_ : Unit)=>some (-1)) = some (bf p l) := idxF (f := fun x=>some (p x)) fun _ _=>rfl
theorem idxOf_neg {α : Type} {p : α → Bool} {l : List α} : bf p l = -1 ∨ 0 ≤ bf p l := by
 unfold bf
 cases l.findIdx? p with
 | none=>exact .inl rfl
 | some i=>exact .inr (by simp)
theorem ni {α : Type} {p : α → Bool} {l : List α} (h : 0 ≤ bf p l) : ∃ x,l[(bf p l).toNat]? = some x ∧ p x = true := by
 unfold bf at h ⊢
 cases hf : l.findIdx? p with
 | none=>rw [hf] at h; simp at h
 | some i =>
  obtain ⟨hi,hp,_⟩ := List.findIdx?_eq_some_iff_getElem.1 hf
  exact ⟨l[i],by simp [hi],hp⟩
theorem idx_table (l : List LTable) (p : LTable → Bool) : cS l (fun a=>some (p a)) = some (bf p l) := idxF fun _ _=>rfl
theorem idx_column (l : List LCol) (p : LCol → Bool) : cD l (fun a=>some (p a)) = some (bf p l) := idxF fun _ _=>rfl
theorem nV (s : LSchema) (name : List UInt8) : fF s name = some (du 0 (bf (fun t=>dc t name) s.tables),decide (bf (fun t=>dc t name) s.tables ≥ 0)) := by
 unfold fF
 rw [idx_table,bPs]
 congr 2
 unfold du
 split <;> split <;> omega
theorem findColumn_eq (t : LTable) (name : List UInt8) : gd t name = some (du 0 (bf (fun c=>dQ c name) t.columns),decide (bf (fun c=>dQ c name) t.columns ≥ 0)) := by
 unfold gd
 rw [idx_column,bPs]
 congr 2
 unfold du
 split <;> split <;> omega
theorem oT {n : Int} (h : 0 ≤ n) : du 0 n = n := by unfold du; split <;> omega
theorem ql (s : List UInt8) : Tot (fK s) := by
 unfold fK
 refine Tot.bind ?_ fun b hb=>?_
 ·refine Tot.cond (fun _=>Tot.mk) fun h1=>?_
  refine Tot.cond (fun _=>Tot.mk) fun h2=>?_
  have h1 := of_decide_eq_false h1
  refine Tot.bind (Tot.get (by decide) (by omega)) fun x _=>?_
  refine Tot.cond (fun _=>?_) fun _=>Tot.mk
  exact Tot.bind (Tot.get (by decide) (by omega)) fun x _=>Tot.mk
 ·refine Tot.cond (fun _=>Tot.mk) fun h=>?_
  subst h
  have hl : (s.length : Int) ≤ 12 := by
   by_cases h1 : (s.length : Int) < 1
   ·omega
   ·by_cases h2 : (s.length : Int) > 12
    ·rw [zf h1,zt h2] at hb; simp at hb
    ·omega
  refine Tot.bind ⟨(),ec (by omega)⟩ fun _ _=>?_
  refine Tot.bind (Tot.range _ _ _ fun k x _ _=>?_) fun fl _=>Tot.thenR fun _ _=>Tot.mk
  repeat' first | exact Tot.mk | refine Tot.cond (fun _=>?_) (fun _=>?_)
structure TableOk (t : LTable) : Prop where
 pk : ∀ x ∈ t.primaryKey,0 ≤ x ∧ x < t.columns.length
theorem validTable (t : LTable) (hsm : t.primaryKey.length ≤ 10000000) : ∃ e,fq t = some e ∧ (e = 0 → TableOk t) := by
 unfold fq
 obtain ⟨b,hb⟩ := ql t.name
 rw [hb,bPs]
 cases b with
 | false=>exact ⟨23,rfl,fun h=>by omega⟩
 | true =>
  simp only [Bool.not_true,zd]
  by_cases h0 : (t.columns.length : Int) = 0
  ·exact ⟨3,by simp [h0],fun h=>by omega⟩
  by_cases h6 : (t.columns.length : Int) > 6
  ·have : ((t.columns.length : Int) == 0) = false := by simpa using h0
   exact ⟨2,by rw [this]; simp [h6],fun h=>by omega⟩
  have e0 : ((t.columns.length : Int) == 0) = false := by simpa using h0
  rw [e0,zf h6]
  simp only [zd]
  obtain ⟨fl,hfl,hr⟩ := eI (step := fun (j1 : Nat) (x1 : LCol) (_ : Unit) =>
    ae (fK x1.name) fun x31=>cond (!x31) (some (Flow.ret (σ := Unit) (23 : Int)))
     (ae (gd t x1.name) fun x37=>cond (decide (x37.1 < (j1 : Int))) (some (.ret 5)) (cond (decide (x1.kind < (1 : Int))) (some (.ret 7)) (cond (decide (x1.kind > (3 : Int))) (some (.ret 7)) (some (.next ())))))) (fun _ _=>True) (fun r=>r ≠ 0) t.columns 0 () trivial (fun k x s hk _=>by
    obtain ⟨b,hb⟩ := ql x.name
    rw [hb,bPs,findColumn_eq,bPs]
    cases b with
    | false=>exact ⟨_,rfl,by simp⟩
    | true =>
     simp only [Bool.not_true,zd]
     by_cases a1 : du 0 (bf (fun c=>dQ c x.name) t.columns) < ((0 + k : Nat) : Int)
     ·exact ⟨.ret 5,by rw [zt a1]; rfl,by simp⟩
     ·rw [zf a1]
      by_cases a2 : x.kind < 1
      ·exact ⟨.ret 7,by rw [zt a2]; rfl,by simp⟩
      ·rw [zf a2]
       by_cases a3 : x.kind > 3
       ·exact ⟨.ret 7,by rw [zt a3]; rfl,by simp⟩
       ·exact ⟨.next (),by rw [zf a3]; rfl,trivial⟩)
  rw [hfl,bPs]
  cases fl with
  | brk s=>exact absurd hr (by simp)
  | ret r=>exact ⟨r,rfl,fun h=>absurd h hr⟩
  | next s =>
   rw [iV]
   obtain ⟨fl,hfl,hr⟩ := eI (step := fun (j2 : Nat) (x2 : Int) (_ : Unit) =>
     cond (decide (x2 < (0 : Int))) (some (Flow.ret (σ := Unit) (9 : Int))) (cond (decide (x2 ≥ (t.columns.length : Int))) (some (.ret 9))
      (ae (aK t.columns x2) fun (x73 : LCol)=>cond x73.nullable (some (.ret 9)) (cond (decide ((j2 : Int) > (0 : Int)))
       (ae (aK t.primaryKey (IntKind.i64.wrap ((j2 : Int) - (1 : Int)))) fun (x86 : Int)=>cond (decide (x2 ≤ x86)) (some (.ret 9)) (some (.next ()))) (some (.next ())))))) (fun j _=>∀ k x,k < j → t.primaryKey[k]? = some x → 0 ≤ x ∧ x < t.columns.length) (fun r=>r ≠ 0) t.primaryKey 0 () (fun k x h=>by omega) (fun k x s hk hI=>by
     simp only [Nat.zero_add] at hI ⊢
     by_cases a1 : x < 0
     ·exact ⟨.ret 9,by rw [zt a1]; rfl,by simp⟩
     rw [zf a1]
     by_cases a2 : x ≥ (t.columns.length : Int)
     ·exact ⟨.ret 9,by rw [zt a2]; rfl,by simp⟩
     rw [zf a2]
     simp only [zd]
     obtain ⟨c,hc⟩ := Tot.get (xs := t.columns) (i := x) (by omega) (by omega)
     rw [hc,bPs]
     have next : ∀ k' x',k' < k + 1 → t.primaryKey[k']? = some x' → 0 ≤ x' ∧ x' < t.columns.length := fun k' x' h1 h2=>by
      by_cases he : k' = k
      ·subst he; rw [hk] at h2; cases h2; omega
      ·exact hI k' x' (by omega) h2
     cases c.nullable with
     | true=>exact ⟨_,rfl,by simp⟩
     | false =>
      simp only [zd]
      by_cases a3 : (k : Int) > 0
      ·rw [zt a3]
       have hkl := (zg.1 hk).1
       rw [bD (by omega) (by omega)]
       obtain ⟨y,hy⟩ := Tot.get (xs := t.primaryKey) (i := (k : Int) - 1) (by omega) (by omega)
       rw [zc,hy,bPs]
       by_cases a4 : x ≤ y
       ·exact ⟨.ret 9,by rw [zt a4]; rfl,by simp⟩
       ·exact ⟨.next (),by rw [zf a4]; rfl,next⟩
      ·exact ⟨.next (),by rw [zf a3]; rfl,next⟩)
   rw [hfl,bPs]
   cases fl with
   | brk s=>exact absurd hr (by simp)
   | ret r=>exact ⟨r,rfl,fun h=>absurd h hr⟩
   | next s =>
    rw [iV]
    simp only [Nat.zero_add] at hr
    by_cases hp : (t.primaryKey.length : Int) = 0
    ·exact ⟨9,by simp [hp],fun h=>by omega⟩
    ·have : ((t.primaryKey.length : Int) == 0) = false := by simpa using hp
     refine ⟨0,by rw [this]; rfl,fun _=>⟨fun x hx=>?_⟩⟩
     obtain ⟨k,hk,rfl⟩ := List.mem_iff_getElem.1 hx
     exact hr k _ hk (ze hk)
theorem gU {α : Type} {xs : List α} {k : Nat} (h : k < xs.length) : aK xs (k : Int) = some xs[k] := gL (ze h)
theorem foreignKey_tot {s : LSchema} (hs : ∀ t ∈ s.tables,TableOk t) (fk : LForeignKey) : Tot (eJ s fk) := by
 unfold eJ
 rw [nV,nV]
 simp only [bPs,bQ]
 generalize hi : bf (fun t=>dc t fk.table) s.tables = i
 generalize hj : bf (fun t=>dc t fk.refTable) s.tables = j
 by_cases h1 : i ≥ 0
 ·by_cases h2 : j ≥ 0
  ·rw [zt h1,zt h2]
   simp only [Bool.not_true,zd]
   rw [oT h1,oT h2]
   obtain ⟨t,ht,_⟩ := ni (hi ▸ h1)
   obtain ⟨u,hu,_⟩ := ni (hj ▸ h2)
   rw [hi] at ht
   rw [hj] at hu
   rw [lM h1 ht,lM h2 hu]
   simp only [bPs]
   refine Tot.cond (fun _=>Tot.mk) fun hl=>?_
   have hl : fk.columns.length = u.primaryKey.length := by
    by_cases h : (fk.columns.length : Int) = (u.primaryKey.length : Int)
    ·omega
    ·simp [h] at hl
   refine Tot.bind (Tot.range _ _ _ fun k x st hk=>?_) fun fl _=>Tot.thenR fun _ _=>Tot.mk
   have hkl := (zg.1 hk).1
   by_cases a1 : x < 0
   ·rw [zt a1]; exact Tot.mk
   ·rw [zf a1]
    by_cases a2 : x ≥ (t.columns.length : Int)
    ·rw [zt a2]; exact Tot.mk
    ·rw [zf a2]
     simp only [zd]
     obtain ⟨c,hc⟩ := Tot.get (xs := t.columns) (i := x) (by omega) (by omega)
     rw [hc,bPs,Nat.zero_add,gU (by omega),bPs]
     have hp := (hs u (dr hu)).pk u.primaryKey[k] (List.getElem_mem _)
     obtain ⟨d,hd⟩ := Tot.get (xs := u.columns) (i := u.primaryKey[k]) hp.1 hp.2
     rw [hd,bPs]
     exact Tot.cond (fun _=>Tot.mk) fun _=>Tot.mk
  ·rw [zf h2]
   simp only [Bool.not_false]
   cases decide (i ≥ 0) <;> exact Tot.mk
 ·rw [zf h1]
  exact Tot.mk
theorem constraint_tot (s : LSchema) (c : LConstraint) : Tot (eN s c) := by
 unfold eN
 rw [nV]
 simp only [bPs,bQ]
 generalize hi : bf (fun t=>dc t c.table) s.tables = i
 by_cases h1 : i ≥ 0
 ·rw [zt h1]
  simp only [Bool.not_true,zd]
  rw [oT h1]
  obtain ⟨t,ht,_⟩ := ni (hi ▸ h1)
  rw [hi] at ht
  rw [lM h1 ht,bPs]
  refine Tot.cond (fun _=>Tot.mk) fun hl=>?_
  by_cases a1 : c.left < 0
  ·rw [zt a1] at hl; cases hl
  rw [zf a1,zd] at hl
  by_cases a2 : c.left ≥ (t.columns.length : Int)
  ·rw [zt a2] at hl; cases hl
  rw [zf a2,zd] at hl
  obtain ⟨x,hx⟩ := Tot.get (xs := t.columns) (i := c.left) (by omega) (by omega)
  rw [hx]
  refine Tot.cond (fun a3=>?_) fun _=>?_
  ·have a3 := of_decide_eq_true a3
   have a4 : c.right < (t.columns.length : Int) := by
    rcases Int.lt_or_le c.right (t.columns.length : Int) with h | h
    ·exact h
    ·have e : decide (c.right ≥ (t.columns.length : Int)) = true := zt h
     rw [e] at hl
     revert hl
     cases ((gT (LVal.mk 0 0 []) c.op (LVal.mk 0 0 [])).2 != 0) <;> cases decide (c.right < -1) <;> simp
   obtain ⟨y,hy⟩ := Tot.get (xs := t.columns) (i := c.right) a3 a4
   rw [hy]
   simp only [bPs]
   exact Tot.cond (fun _=>Tot.mk) fun _=>Tot.mk
  ·rw [bPs]
   exact Tot.cond (fun _=>Tot.mk) fun _=>Tot.mk
 ·rw [zf h1]
  exact Tot.mk
theorem equalInts_tot (a b : List Int) : Tot (fT a b) := by
 unfold fT
 refine Tot.cond (fun _=>Tot.mk) fun h=>?_
 have h : a.length = b.length := by
  by_cases h' : (a.length : Int) = (b.length : Int)
  ·omega
  ·simp [h'] at h
 refine Tot.bind (Tot.range _ _ _ fun k x s hk=>?_) fun fl _=>Tot.thenR fun _ _=>Tot.mk
 have hkl := (zg.1 hk).1
 rw [Nat.zero_add,gU (by omega),bPs]
 exact Tot.cond (fun _=>Tot.mk) fun _=>Tot.mk
theorem fkIn_tot (l : List LForeignKey) (x : LForeignKey) : Tot (bY l (fun a0=>gc a0 x)) := by
 unfold bY cG
 refine Tot.bind (Tot.bind (Tot.range _ _ _ fun k y s hk=>?_) fun fl _=>Tot.thenR fun _ _=>Tot.mk) fun _ _=>Tot.mk
 refine Tot.bind ?_ fun _ _=>Tot.cond (fun _=>Tot.mk) fun _=>Tot.mk
 unfold gc
 refine Tot.bind ?_ fun _ _=>Tot.mk
 unfold gH
 refine Tot.cond (fun _=>Tot.bind (equalInts_tot _ _) fun _ _=>Tot.cond (fun _=>Tot.mk) fun _=>Tot.mk) fun _=>Tot.mk
theorem csIn_tot (l : List LConstraint) (x : LConstraint) : Tot (ce l x) := by
 unfold ce cY
 refine Tot.bind (Tot.bind (Tot.range _ _ _ fun k y s hk=>?_) fun fl _=>Tot.thenR fun _ _=>Tot.mk) fun _ _=>Tot.mk
 exact Tot.cond (fun _=>Tot.mk) fun _=>Tot.mk
def lS (s : LSchema) : Prop := ∀ t ∈ s.tables,t.primaryKey.length ≤ 10000000
theorem validate_tot {s : LSchema} (hsm : lS s) : Tot (iK s) := by
 unfold iK
 rw [bQ]
 refine Tot.cond (fun _=>Tot.mk) fun ht=>?_
 have h6 : s.tables.length ≤ 6 := by
  by_cases h : (s.tables.length : Int) > 6
  ·rw [zt h] at ht; cases ht
  ·omega
 obtain ⟨fl,hfl,hr⟩ := eI (step := fun (j2 : Nat) (x2 : LTable) (_ : Unit) =>
   ae (fq x2) fun x37=>cond (x37 != (0 : Int)) (some (Flow.ret (σ := Unit) x37)) (cond (decide ((j2 : Int) > (0 : Int)))
     (ae (aK s.tables (IntKind.i64.wrap ((j2 : Int) - (1 : Int)))) fun (x50 : LTable)=>cond (Op.bytesLess x2.name x50.name || x2.name == x50.name) (some (.ret 6)) (some (.next ()))) (some (.next ())))) (fun j _=>∀ k x,k < j → s.tables[k]? = some x → TableOk x) (fun _=>True) s.tables 0 () (fun k x h=>by omega) (fun k x st hk hI=>by
    simp only [Nat.zero_add] at hI ⊢
    obtain ⟨e,he,hok⟩ := validTable x (hsm x (dr hk))
    rw [he,bPs]
    by_cases h0 : e = 0
    ·have next : ∀ k' x',k' < k + 1 → s.tables[k']? = some x' → TableOk x' := fun k' x' h1 h2=>by
      by_cases heq : k' = k
      ·subst heq; rw [hk] at h2; cases h2; exact hok h0
      ·exact hI k' x' (by omega) h2
     rw [show (e != (0 : Int)) = false from by simp [h0],zd]
     by_cases a3 : (k : Int) > 0
     ·have hkl := (zg.1 hk).1
      rw [zt a3,bD (by omega) (by omega)]
      obtain ⟨y,hy⟩ := Tot.get (xs := s.tables) (i := (k : Int) - 1) (by omega) (by omega)
      rw [zc,hy,bPs]
      cases (Op.bytesLess x.name y.name || x.name == y.name) with
      | true=>exact ⟨.ret 6,rfl,trivial⟩
      | false=>exact ⟨.next (),rfl,next⟩
     ·exact ⟨.next (),by rw [zf a3]; rfl,next⟩
    ·exact ⟨.ret e,by rw [show (e != (0 : Int)) = true from by simp [h0]]; rfl,trivial⟩)
 rw [hfl,bPs]
 cases fl with
 | brk s=>exact absurd hr (by simp)
 | ret r=>exact Tot.mk
 | next u =>
  rw [iV]
  simp only [Nat.zero_add] at hr
  have hok : ∀ t ∈ s.tables,TableOk t := fun t ht=>by
   obtain ⟨k,hk,rfl⟩ := List.mem_iff_getElem.1 ht
   exact hr k _ hk (ze hk)
  refine Tot.bind (Tot.range _ _ _ fun k x st hk=>?_) fun fl _=>Tot.thenR fun _ _=>?_
  ·refine Tot.bind (foreignKey_tot hok x) fun e _=>Tot.cond (fun _=>Tot.mk) fun _=>?_
   have hkl := (zg.1 hk).1
   refine Tot.bind (Tot.sub ⟨by omega,by omega,by omega⟩) fun l _=>?_
   exact Tot.bind (fkIn_tot l x) fun _ _=>Tot.cond (fun _=>Tot.mk) fun _=>Tot.mk
  ·refine Tot.bind (Tot.range _ _ _ fun k x st hk=>?_) fun fl _=>Tot.thenR fun _ _=>Tot.mk
   refine Tot.bind (constraint_tot s x) fun e _=>Tot.cond (fun _=>Tot.mk) fun _=>?_
   have hkl := (zg.1 hk).1
   refine Tot.bind (Tot.sub ⟨by omega,by omega,by omega⟩) fun l _=>?_
   exact Tot.bind (csIn_tot l x) fun _ _=>Tot.cond (fun _=>Tot.mk) fun _=>Tot.mk
def eR (cols : List LCol) (row : Rq) : Prop := row.length = cols.length ∧ ∀ (i : Nat) (c : LCol) (x : LVal),cols[i]? = some c → row[i]? = some x → fB x c.kind c.nullable
theorem validate_valid {v : LVal} (h : dv v = 0) : eO v = true := by
 obtain ⟨k,n,t⟩ := v
 unfold dv br at h
 unfold eO
 by_cases k0 : k = 0
 ·subst k0
  by_cases hn : n = 0
  ·subst hn
   cases t with
   | nil=>rfl
   | cons c t=>simp at h
  ·simp [lJ hn] at h
 ·have e0 : (k == (0 : Int)) = false := by simpa using k0
  simp only [e0,zd] at h
  by_cases k1 : k = 1
  ·subst k1
   cases t with
   | cons c t=>simp at h
   | nil =>
    by_cases a : n < -1000000000000
    ·simp [a] at h
    ·by_cases b : n > 1000000000000
     ·simp [a,b] at h
     ·simp; omega
  ·by_cases k2 : k = 2
   ·subst k2
    cases t with
    | cons c t=>simp at h
    | nil =>
     by_cases a : n = 0
     ·simp [a]
     ·by_cases b : n = 1
      ·simp [b]
      ·simp [lJ a,lJ b] at h
   ·by_cases k3 : k = 3
    ·subst k3
     by_cases a : n = 0
     ·subst a
      by_cases b : (t.length : Int) > 24
      ·simp [b] at h
      ·simp; omega
     ·simp [lJ a] at h
    ·have e1 : (k == (1 : Int)) = false := by simpa using k1
     have e2 : (k == (2 : Int)) = false := by simpa using k2
     have e3 : (k == (3 : Int)) = false := by simpa using k3
     simp [e1,e2,e3] at h
theorem conformsRow (t : LTable) (row : Rq) : ∃ e,ed t row = some e ∧ (e = 0 → eR t.columns row) := by
 unfold ed
 by_cases hl : (row.length : Int) = (t.columns.length : Int)
 ·have hl' : row.length = t.columns.length := by omega
  rw [show ((row.length : Int) != (t.columns.length : Int)) = false from by simp [hl],zd]
  obtain ⟨fl,hfl,hr⟩ := eI (step := fun (j1 : Nat) (x1 : LVal) (_ : Unit)=>br (dv x1) fun x22=>cond (x22 != (0 : Int)) (some (Flow.ret (σ := Unit) x22))
    (ae (cond (x1.kind == (0 : Int)) (ae (aK t.columns (j1 : Int)) fun (x33 : LCol)=>some (!x33.nullable)) (some false)) fun (t3 : Bool)=>cond t3 (some (.ret 8))
     (cond (x1.kind != (0 : Int)) (ae (aK t.columns (j1 : Int)) fun (x47 : LCol)=>cond (x1.kind != x47.kind) (some (.ret 7)) (some (.next ()))) (some (.next ())))))
   (fun j _=>∀ (k : Nat) (c : LCol) (x : LVal),k < j → t.columns[k]? = some c → row[k]? = some x → fB x c.kind c.nullable) (fun r=>r ≠ 0) row 0 () (fun k c x h=>by omega) (fun k x st hk hI=>by
    simp only [Nat.zero_add] at hI ⊢
    have hkl := (zg.1 hk).1
    rw [bQ,gU (xs := t.columns) (by omega)]
    by_cases hv : dv x = 0
    ·rw [show (dv x != (0 : Int)) = false from by simp [hv],zd]
     have hvv := validate_valid hv
     have next : fB x t.columns[k].kind t.columns[k].nullable → ∀ (k' : Nat) (c : LCol) (x' : LVal),k' < k + 1 → t.columns[k']? = some c → row[k']? = some x' → fB x' c.kind c.nullable := fun hf k' c x' h1 h2 h3=>by
      by_cases heq : k' = k
      ·subst heq
       rw [hk] at h3
       rw [ze (by omega)] at h2
       cases h2
       cases h3
       exact hf
      ·exact hI k' c x' (by omega) h2 h3
     by_cases hx : x.kind = 0
     ·rw [show (x.kind == (0 : Int)) = true from by simp [hx],zc,bPs,bPs]
      cases hn : t.columns[k].nullable with
      | false=>exact ⟨.ret 8,rfl,by simp⟩
      | true=>exact ⟨.next (),by simp [hx],next ⟨hvv,.inr hx,fun _=>hn⟩⟩
     ·rw [show (x.kind == (0 : Int)) = false from by simp [hx],zd,bPs,zd,show (x.kind != (0 : Int)) = true from by simp [hx],zc,bPs]
      by_cases hk' : x.kind = t.columns[k].kind
      ·exact ⟨.next (),by rw [lY hk']; rfl,next ⟨hvv,.inl hk',fun h=>absurd h hx⟩⟩
      ·exact ⟨.ret 7,by rw [lJ hk']; rfl,by simp⟩
    ·exact ⟨.ret (dv x),by rw [show (dv x != (0 : Int)) = true from by simp [hv]]; rfl,hv⟩)
  rw [hfl,bPs]
  cases fl with
  | brk s=>exact absurd hr (by simp)
  | ret r=>exact ⟨r,rfl,fun h=>absurd h hr⟩
  | next s =>
   simp only [Nat.zero_add] at hr
   exact ⟨0,rfl,fun _=>⟨hl',fun i c x hc hx=>hr i c x (zg.1 hx).1 hc hx⟩⟩
 ·exact ⟨3,by rw [show ((row.length : Int) != (t.columns.length : Int)) = true from by simp [hl]]; rfl,fun h=>by omega⟩
theorem key_tot (t : LTable) (row : Rq) (hsm : t.primaryKey.length ≤ 10000000) : ∃ k,dq t row = some k ∧ k.length = t.primaryKey.length := by
 unfold dq
 obtain ⟨fl,hfl,hr⟩ := eI (step := fun (_ : Nat) (x1 : Int) (s1 : Rq) =>
  br (cond (decide (x1 ≥ (0 : Int))) ((decide (x1 < (row.length : Int)))) (false)) fun (t6 : Bool) =>
  ae (cond t6 (ae (aK row x1) fun (x27 : LVal)=>some x27) (some (LVal.mk 0 0 []))) fun (t7 : LVal) =>
  ae (cy 32 s1 ([t7] : Rq)) fun (x32 : Rq)=>some (Flow.next (ρ := Empty) x32)) (fun j s=>s.length = j) (fun _=>False) t.primaryKey 0 ([] : Rq) rfl (fun k x s hk hI=>by
   have hI : s.length = k := by simpa using hI
   have hkl := (zg.1 hk).1
   rw [bQ]
   have ht : ∃ v,(cond (cond (decide (x ≥ (0 : Int))) ((decide (x < (row.length : Int)))) (false)) (ae (aK row x) fun (x27 : LVal)=>some x27) (some (LVal.mk 0 0 []))) = some v := by
    refine Tot.cond (fun h=>?_) fun _=>Tot.mk
    by_cases h0 : x ≥ 0
    ·rw [zt h0] at h
     exact Tot.bind (Tot.get h0 (of_decide_eq_true h)) fun _ _=>Tot.mk
    ·rw [zf h0] at h; cases h
   obtain ⟨v,hv⟩ := ht
   rw [hv,bPs,bN (by decide) (by simp; omega),bPs]
   exact ⟨_,rfl,by simp [hI]⟩)
 rw [hfl,bPs]
 cases fl with
 | brk s=>exact absurd hr (by simp)
 | ret r=>exact r.elim
 | next s=>exact ⟨s,rfl,by simpa using hr⟩
theorem rZ (a b : Rq) (ha : a.length ≤ 10000000) : Tot (dO a b) := by
 unfold dO
 have hm : ∃ n : Nat,(if (b.length : Int) < (a.length : Int) then (b.length : Int) else (a.length : Int)) = (n : Int) ∧ n ≤ a.length ∧ n ≤ b.length := by
  split
  ·exact ⟨b.length,rfl,by omega,by omega⟩
  ·exact ⟨a.length,rfl,by omega,by omega⟩
 obtain ⟨n,hn,h1,h2⟩ := hm
 rw [hn,jX (by omega),bPs]
 refine Tot.bind (Tot.range _ _ _ fun k x s hk=>?_) fun fl _=>Tot.thenR fun _ _=>Tot.mk
 have hkl := (zg.1 hk).1
 simp at hkl
 rw [Nat.zero_add,gU (by omega),gU (by omega)]
 simp only [bPs,bQ]
 exact Tot.cond (fun _=>Tot.mk) fun _=>Tot.mk
def KeyOrd (t : LTable) (rows : Rz) : Prop := ∀ (i : Nat) (p row : Rq),rows[i]? = some p → rows[i + 1]? = some row → ∃ k1 k2 z,dq t p = some k1 ∧ dq t row = some k2 ∧ dO k1 k2 = some z ∧ z < 0
structure InstOk (s : LSchema) (st : List LRelation) : Prop where
 len : st.length = s.tables.length
 ord : ∀ (i : Nat) (r : LRelation) (t : LTable),st[i]? = some r → s.tables[i]? = some t → KeyOrd t r.rows
 tab : ∀ (i : Nat) (r : LRelation) (t : LTable),st[i]? = some r → s.tables[i]? = some t → r.table = t.name ∧ r.rows.length ≤ 24 ∧ ∀ row ∈ r.rows,eR t.columns row
theorem conforms {s : LSchema} (hsm : lS s) (st : List LRelation) : ∃ e,fu s st = some e ∧ (e = 0 → InstOk s st) := by
 unfold fu
 by_cases hl : (st.length : Int) = (s.tables.length : Int)
 ·have hl' : st.length = s.tables.length := by omega
  rw [show ((st.length : Int) != (s.tables.length : Int)) = false from by simp [hl],zd]
  let good : LRelation → LTable → Prop := fun r t=>(r.table = t.name ∧ r.rows.length ≤ 24 ∧ ∀ row ∈ r.rows,eR t.columns row) ∧ KeyOrd t r.rows
  obtain ⟨fl,hfl,hr⟩ := eI (step := fun (j1 : Nat) (x1 : LRelation) (_ : Unit) =>
   ae (aK s.tables (j1 : Int)) fun (x28 : LTable) =>
   cond (!(x1.table == x28.name)) (some (Flow.ret (σ := Unit) (3 : Int))) (cond (decide ((x1.rows.length : Int) > (24 : Int))) (some (.ret 2))
     (ae (aD (σ := Unit) (ρ := (Int)) (fun (j3 : Nat) (x3 : Rq) (_ : Unit) =>
      ae (ed x28 x3) fun x49=>cond (x49 != (0 : Int)) (some (.ret x49)) (cond ((j3 : Int) == (0 : Int)) (some (.next ()))
        (ae (aK x1.rows (IntKind.i64.wrap ((j3 : Int) - (1 : Int)))) fun (x60 : Rq)=>ae (dq x28 x60) fun x62=>ae (dq x28 x3) fun x65=>ae (dO x62 x65) fun x66 =>
        cond (x66 == (0 : Int)) (some (.ret 9)) (cond (decide (x66 > (0 : Int))) (some (.ret 6)) (some (.next ())))))) 0 x1.rows ()) fun fl3=>fl3.thenF fun (_ : Unit)=>some (.next ()))))
   (fun j _=>∀ (k : Nat) (r : LRelation) (t : LTable),k < j → st[k]? = some r → s.tables[k]? = some t → good r t) (fun r=>r ≠ 0) st 0 () (fun k r t h=>by omega) (fun k r u hk hI=>by
    simp only [Nat.zero_add] at hI ⊢
    have hkl := (zg.1 hk).1
    have hkt : k < s.tables.length := by omega
    rw [gU hkt,bPs]
    by_cases hn : r.table = s.tables[k].name
    ·rw [show (!(r.table == s.tables[k].name)) = false from by simp [hn],zd]
     by_cases h24 : (r.rows.length : Int) > 24
     ·exact ⟨.ret 2,by rw [zt h24]; rfl,by simp⟩
     ·rw [zf h24,zd]
      have hsk := hsm s.tables[k] (List.getElem_mem _)
      obtain ⟨fl,hfl,hr⟩ := eI (step := fun (j3 : Nat) (x3 : Rq) (_ : Unit) =>
       ae (ed s.tables[k] x3) fun x49=>cond (x49 != (0 : Int)) (some (Flow.ret (σ := Unit) x49)) (cond ((j3 : Int) == (0 : Int)) (some (.next ()))
        (ae (aK r.rows (IntKind.i64.wrap ((j3 : Int) - (1 : Int)))) fun (x60 : Rq)=>ae (dq s.tables[k] x60) fun x62=>ae (dq s.tables[k] x3) fun x65=>ae (dO x62 x65) fun x66 =>
        cond (x66 == (0 : Int)) (some (.ret 9)) (cond (decide (x66 > (0 : Int))) (some (.ret 6)) (some (.next ())))))) (fun j _=>(∀ i row,i < j → r.rows[i]? = some row → eR s.tables[k].columns row) ∧ ∀ (i : Nat) (p row : Rq),i + 1 < j → r.rows[i]? = some p → r.rows[i + 1]? = some row → ∃ k1 k2 z,dq s.tables[k] p = some k1 ∧ dq s.tables[k] row = some k2 ∧ dO k1 k2 = some z ∧ z < 0) (fun r=>r ≠ 0) r.rows 0 () ⟨fun i row h=>by omega,fun i p row h=>by omega⟩ (fun i row u hi hI2=>by
        simp only [Nat.zero_add] at hI2 ⊢
        have hil := (zg.1 hi).1
        obtain ⟨e,he,hok⟩ := conformsRow s.tables[k] row
        rw [he,bPs]
        by_cases h0 : e = 0
        ·rw [show (e != (0 : Int)) = false from by simp [h0],zd]
         have next : ∀ i' row',i' < i + 1 → r.rows[i']? = some row' → eR s.tables[k].columns row' := fun i' row' h1 h2=>by
          by_cases heq : i' = i
          ·subst heq; rw [hi] at h2; cases h2; exact hok h0
          ·exact hI2.1 i' row' (by omega) h2
         by_cases hi0 : i = 0
         ·exact ⟨.next (),by simp [hi0],next,fun i' p row' h1=>by omega⟩
         ·rw [show ((i : Int) == (0 : Int)) = false from by simp; omega,zd,bD (by omega) (by omega)]
          obtain ⟨p,hp⟩ := Tot.get (xs := r.rows) (i := (i : Int) - 1) (by omega) (by omega)
          obtain ⟨k1,hk1,hl1⟩ := key_tot s.tables[k] p hsk
          obtain ⟨k2,hk2,_⟩ := key_tot s.tables[k] row hsk
          obtain ⟨z,hz⟩ := rZ k1 k2 (by omega)
          rw [hp,bPs,hk1,bPs,hk2,bPs,hz,bPs]
          by_cases z0 : z = 0
          ·exact ⟨.ret 9,by rw [lc z0]; rfl,by simp⟩
          ·by_cases z1 : z > 0
           ·exact ⟨.ret 6,by rw [dg z0,zt z1]; rfl,by simp⟩
           ·refine ⟨.next (),by rw [dg z0,zf z1]; rfl,next,fun i' p' row' h1 h2 h3=>?_⟩
            by_cases heq : i' + 1 = i
            ·subst heq
             rw [hi] at h3
             cases h3
             have hp' := (gIs hp).2
             rw [show (((i' + 1 : Nat) : Int) - 1).toNat = i' from by omega,h2] at hp'
             cases hp'
             exact ⟨k1,k2,z,hk1,hk2,hz,by omega⟩
            ·exact hI2.2 i' p' row' (by omega) h2 h3
        ·exact ⟨.ret e,by rw [show (e != (0 : Int)) = true from by simp [h0]]; rfl,h0⟩)
      rw [hfl,bPs]
      cases fl with
      | brk s=>exact absurd hr (by simp)
      | ret e=>exact ⟨.ret e,rfl,hr⟩
      | next s' =>
       simp only [Nat.zero_add] at hr
       refine ⟨.next (),rfl,fun k' r' t' h1 h2 h3=>?_⟩
       by_cases heq : k' = k
       ·subst heq
        rw [hk] at h2
        rw [ze hkt] at h3
        cases h2
        cases h3
        refine ⟨⟨hn,by omega,fun row hrow=>?_⟩,fun i p row h2 h3=>hr.2 i p row (zg.1 h3).1 h2 h3⟩
        obtain ⟨i,hi,rfl⟩ := List.mem_iff_getElem.1 hrow
        exact hr.1 i _ hi (ze hi)
       ·exact hI k' r' t' (by omega) h2 h3
    ·exact ⟨.ret 3,by rw [show (!(r.table == s.tables[k].name)) = true from by simp [hn]]; rfl,by simp⟩)
  rw [hfl,bPs]
  cases fl with
  | brk s=>exact absurd hr (by simp)
  | ret r=>exact ⟨r,rfl,fun h=>absurd h hr⟩
  | next u =>
   simp only [Nat.zero_add] at hr
   exact ⟨0,rfl,fun _=>⟨hl',fun i r t h1 h2=>(hr i r t (zg.1 h1).1 h1 h2).2,fun i r t h1 h2=>(hr i r t (zg.1 h1).1 h1 h2).1⟩⟩
 ·exact ⟨3,by rw [show ((st.length : Int) != (s.tables.length : Int)) = true from by simp [hl]]; rfl,fun h=>by omega⟩
theorem containsI (l : List Int) (v : Int) : eZ l v = some (l.any fun x=>v == x) := by
 unfold eZ hP
 rw [idxF2 (p := fun x=>v == x),bPs,iT]
theorem shape1 (l : List Int) (q : LQuery) : dn l q = some (l.any fun x=>q.kind == x) := by
 unfold dn
 rw [containsI,bPs]
def oq (k : Int) : Nat := if k = 1 then 0 else if k = 4 ∨ k = 5 ∨ k = 6 ∨ k = 7 then 2 else 1
def lh (q : LQuery) : Bool :=
 decide (1 ≤ q.kind) && decide (q.kind ≤ 10) && decide (q.inputs.length = oq q.kind) && (q.kind == 1 || q.table == []) && (q.kind == 3 || q.kind == 8 || decide (q.names.length = 0)) &&
 (q.kind == 8 || decide (q.aggregates.length = 0)) && (q.kind == 9 || decide (q.descending.length = 0)) && (q.kind == 10 || (q.count == 0 && q.offset == 0)) &&
 (if q.kind = 2 ∨ q.kind = 4 ∨ q.kind = 5 then decide (q.exprs.length = 1)
  else if q.kind = 3 ∨ q.kind = 8 then decide (q.exprs.length = q.names.length) && decide (0 < q.exprs.length + q.aggregates.length)
  else if q.kind = 9 then decide (q.exprs.length = q.descending.length) && decide (0 < q.exprs.length)
  else if q.kind = 10 then decide (q.exprs.length = 0) && decide (q.count ≥ 0) && decide (q.offset ≥ 0)
  else decide (q.exprs.length = 0))
theorem natE (a b : Nat) : ((a : Int) == (b : Int)) = decide (a = b) := by
 by_cases h : a = b
 ·simp [h]
 ·rw [zf h]; exact dg (by omega)
theorem nH (a b : Nat) : ((a : Int) != (b : Int)) = !decide (a = b) := by rw [bne,natE]
theorem natPos (a : Nat) : decide ((a : Int) > 0) = !decide (a = 0) := by
 by_cases h : a = 0
 ·simp [h]
 ·rw [zf h,zt (by omega)]; rfl
theorem condSome {α : Type} (b : Bool) (x y : α) : (cond b (some x) (some y)) = some (cond b x y) := by cases b <;> rfl
theorem shape_eq (q : LQuery) (hs : q.exprs.length ≤ 10000000 ∧ q.aggregates.length ≤ 10000000) : km q = some (lh q) := by
 unfold km
 simp only [shape1,bPs]
 by_cases k0 : q.kind < 1
 ·rw [zt k0]
  simp [lh,show ¬ (1 ≤ q.kind) from by omega]
 rw [zf k0]
 by_cases k10 : q.kind > 10
 ·rw [zt k10]
  simp [lh,show ¬ (q.kind ≤ 10) from by omega]
 rw [zf k10]
 have hw : IntKind.i64.wrap ((q.exprs.length : Int) + (q.aggregates.length : Int)) = ((q.exprs.length + q.aggregates.length : Nat) : Int) := by rw [bD (by omega) (by omega)]; simp
 rw [hw]
 have hk : q.kind = 1 ∨ q.kind = 2 ∨ q.kind = 3 ∨ q.kind = 4 ∨ q.kind = 5 ∨ q.kind = 6 ∨ q.kind = 7 ∨ q.kind = 8 ∨ q.kind = 9 ∨ q.kind = 10 := by omega
 unfold lh
 have e0 : ∀ n : Nat,((n : Int) == 0) = decide (n = 0) := fun n=>natE n 0
 have e1 : ∀ n : Nat,((n : Int) == 1) = decide (n = 1) := fun n=>natE n 1
 have n0 : ∀ n : Nat,((n : Int) != 0) = !decide (n = 0) := fun n=>nH n 0
 have n1 : ∀ n : Nat,((n : Int) != 1) = !decide (n = 1) := fun n=>nH n 1
 have n2 : ∀ n : Nat,((n : Int) != 2) = !decide (n = 2) := fun n=>nH n 2
 have c0 : (q.count != 0) = !(q.count == 0) := rfl
 have o0 : (q.offset != 0) = !(q.offset == 0) := rfl
 have p0 : decide (0 < q.exprs.length) = !decide (q.exprs.length = 0) := by rw [← natPos]; simp
 have p1 : decide (0 < q.exprs.length + q.aggregates.length) = !decide (q.exprs.length + q.aggregates.length = 0) := by rw [← natPos]; simp; omega
 simp only [natPos,natE,e0,e1,c0,o0,p0,p1]
 generalize (q.table == []) = b1
 generalize decide (q.names.length = 0) = b2
 generalize decide (q.aggregates.length = 0) = b3
 generalize decide (q.descending.length = 0) = b4
 generalize (q.count == 0) = b5
 generalize (q.offset == 0) = b6
 generalize decide (q.exprs.length = 1) = b7
 generalize decide (q.exprs.length = q.names.length) = b8
 generalize decide (q.exprs.length + q.aggregates.length = 0) = b9
 generalize decide (q.exprs.length = q.descending.length) = b10
 generalize decide (q.exprs.length = 0) = b11
 generalize decide (q.count ≥ 0) = b12
 generalize decide (q.offset ≥ 0) = b13
 generalize hL : q.inputs.length = L
 rcases hk with h | h | h | h | h | h | h | h | h | h <;> rw [h]
 all_goals simp only [oq,aK]
 all_goals simp [n0,n1,n2,condSome,Bool.and_assoc]
def e0Q (q : LQuery) : LExpr := q.exprs.headD (.mk 1 [] 0 .nul [])
def jf (a b : List LCol) (left : Bool) : List LCol := a ++ b.map fun x=>⟨x.name,x.kind,x.nullable || left⟩
def ku (kind : Int) (a b : List LCol) : List LCol × Int :=
 if a.length = b.length ∧ a.map LCol.kind = b.map LCol.kind then (List.zipWith (fun x y=>⟨x.name,x.kind,x.nullable || (kind == 6 && y.nullable)⟩) a b,0) else ([],7)
def ct (vars cols : List LCol) : List LExpr → List (List UInt8) → List LCol × Int
 | e :: es,n :: ns=>if dp n = false then ([],3) else if (cW cols vars e).2.2 ≠ 0 then ([],(cW cols vars e).2.2) else if (cW cols vars e).1 = 0 then ([],7)
  else if (ct vars cols es ns).2 ≠ 0 then ([],(ct vars cols es ns).2) else (⟨n,(cW cols vars e).1,(cW cols vars e).2.1⟩ :: (ct vars cols es ns).1,0)
 | _,_=>([],0)
abbrev hX : List UInt8 := [99,111,117,110,116]
abbrev sSum : List UInt8 := [115,117,109]
abbrev sMin : List UInt8 := [109,105,110]
abbrev sMax : List UInt8 := [109,97,120]
def np (vars cols : List LCol) (a : LAggregateCall) : Int × Int :=
 if dp a.name = false ∨ ¬ a.function ∈ [hX,sSum,sMin,sMax] ∨ 1 < a.args.length ∨ (a.args.length < 1 ∧ a.function ≠ hX) then (0,3)
 else match a.args with
  | []=>(1,0)
  | e :: _=>if (cW cols vars e).2.2 ≠ 0 then (0,(cW cols vars e).2.2) else if (cW cols vars e).1 = 0 ∨ (a.function = sSum ∧ (cW cols vars e).1 ≠ 1) then (0,7)
   else if a.function = hX then (1,0) else ((cW cols vars e).1,0)
def dS (vars cols : List LCol) : List LAggregateCall → List LCol × Int
 | []=>([],0)
 | a :: l=>if (np vars cols a).2 ≠ 0 then ([],(np vars cols a).2) else if (dS vars cols l).2 ≠ 0 then ([],(dS vars cols l).2)
  else (⟨a.name,(np vars cols a).1,!(a.function == hX)⟩ :: (dS vars cols l).1,0)
def ml (vars cols : List LCol) (q : LQuery) : List LCol × Int :=
 if (ct vars cols q.exprs q.names).2 ≠ 0 then ([],(ct vars cols q.exprs q.names).2)
 else if (dS vars cols q.aggregates).2 ≠ 0 then ([],(dS vars cols q.aggregates).2)
 else ((ct vars cols q.exprs q.names).1 ++ (dS vars cols q.aggregates).1,0)
def jq (vars cols : List LCol) : List LExpr → Int
 | []=>0
 | e :: l=>if (cW cols vars e).2.2 ≠ 0 then (cW cols vars e).2.2 else jq vars cols l
def iI (c : LChecker) (q : LQuery) (ins : List (List LCol)) : List LCol × Int :=
 if q.kind = 1 then (match c.s.tables.find? fun t=>t.name == q.table with | some t=>(t.columns,0) | none=>([],4))
 else if q.kind = 2 then (ins.getD 0 [],dF c (ins.getD 0 []) (e0Q q))
 else if q.kind = 4 ∨ q.kind = 5 then (jf (ins.getD 0 []) (ins.getD 1 []) (q.kind == 5),dF c (jf (ins.getD 0 []) (ins.getD 1 []) (q.kind == 5)) (e0Q q))
 else if q.kind = 6 ∨ q.kind = 7 then ku q.kind (ins.getD 0 []) (ins.getD 1 [])
 else if q.kind = 3 ∨ q.kind = 8 then ml c.vars (ins.getD 0 []) q
 else if q.kind = 9 then (if jq c.vars (ins.getD 0 []) q.exprs ≠ 0 then ([],jq c.vars (ins.getD 0 []) q.exprs) else (ins.getD 0 [],0))
 else (ins.getD 0 [],0)
theorem find_idx {α : Type} (p : α → Bool) (l : List α) : (l.find? p = none ∧ bf p l = -1) ∨ ∃ x,l.find? p = some x ∧ 0 ≤ bf p l ∧ l[(bf p l).toNat]? = some x := by
 induction l with
 | nil=>exact .inl ⟨rfl,rfl⟩
 | cons a l ih =>
  by_cases h : p a = true
  ·right
   exact ⟨a,by simp [h],by unfold bf; simp [List.findIdx?_cons,h],by unfold bf; simp [List.findIdx?_cons,h]⟩
  ·have h : p a = false := by simpa using h
   have hi : bf p (a :: l) = if bf p l < 0 then -1 else bf p l + 1 := by
    unfold bf
    simp only [List.findIdx?_cons,h,Bool.false_eq_true,if_false]
    cases l.findIdx? p with
    | none=>rfl
    | some i=>rw [zy (by simp only; omega)]; simp
   rw [List.find?_cons,h,hi]
   rcases ih with ⟨h1,h2⟩ | ⟨x,h1,h2,h3⟩
   ·left; exact ⟨h1,by rw [h2]; rfl⟩
   ·right
    refine ⟨x,h1,by split <;> omega,?_⟩
    rw [zy (by omega),show (bf p l + 1).toNat = (bf p l).toNat + 1 from by omega,List.getElem?_cons_succ,h3]
theorem set_ok (kind : Int) (a b : List LCol) : iq kind a b = some (ku kind a b) := by
 unfold iq ku
 by_cases hl : a.length = b.length
 ·rw [nH,zt hl]
  simp only [Bool.not_true,zd]
  let z : LCol → LCol → LCol := fun x y=>⟨x.name,x.kind,x.nullable || (kind == 6 && y.nullable)⟩
  obtain ⟨fl,hfl,hr⟩ := eI (step := fun (j1 : Nat) (x1 : LCol) (s1 : List LCol) =>
   ae (aK b (j1 : Int)) fun (x29 : LCol)=>cond (x1.kind != x29.kind) (some (Flow.ret (([],7) : List LCol × Int)))
    (cond x1.nullable (ae (aK s1 (j1 : Int)) fun (x51 : LCol)=>br (s1.set ((j1 : Int).toNat) (LCol.mk x51.name x51.kind true)) fun (y8 : List LCol)=>some (.next y8))
     (cond (kind == (6 : Int)) (ae (aK b (j1 : Int)) fun (x46 : LCol)=>ae (aK s1 (j1 : Int)) fun (x51 : LCol)=>br (s1.set ((j1 : Int).toNat) (LCol.mk x51.name x51.kind x46.nullable)) fun (y9 : List LCol)=>some (.next y9))
      (ae (aK s1 (j1 : Int)) fun (x51 : LCol)=>br (s1.set ((j1 : Int).toNat) (LCol.mk x51.name x51.kind false)) fun (y10 : List LCol)=>some (.next y10)))))
   (fun j s=>s = (List.zipWith z a b).take j ++ a.drop j ∧ (a.take j).map LCol.kind = (b.take j).map LCol.kind) (fun r=>r = ([],7) ∧ a.map LCol.kind ≠ b.map LCol.kind) a 0 a ⟨by simp,rfl⟩ (fun k x s hk hI=>by
    simp only [Nat.zero_add] at hI ⊢
    have hka := (zg.1 hk).1
    have hxe := (zg.1 hk).2
    have hkb : k < b.length := by omega
    rw [gU hkb,bPs,bPs]
    by_cases hkk : x.kind = b[k].kind
    ·have hzl : ((List.zipWith z a b).take k).length = k := by simp; omega
     have hs : s[k]? = some x := by
      rw [hI.1,List.getElem?_append_right (by omega),hzl,Nat.sub_self,List.getElem?_drop,Nat.add_zero,hk]
     have hkinds : (a.take (k + 1)).map LCol.kind = (b.take (k + 1)).map LCol.kind := by
      rw [List.take_add_one,List.take_add_one,hk,ze hkb,List.map_append,List.map_append,hI.2]
      congr 1
      show [x.kind] = [b[k].kind]
      rw [hkk]
     have hset : ∀ v : LCol,v = z x b[k] → s.set k v = (List.zipWith z a b).take (k + 1) ++ a.drop (k + 1) := by
      intro v hv
      rw [hI.1,List.set_append_right _ _ (by omega),hzl,Nat.sub_self]
      rw [List.drop_eq_getElem_cons hka,List.set_cons_zero,List.take_add_one,List.append_assoc]
      congr 1
      rw [List.getElem?_zipWith,hk,ze hkb]
      simp [hv]
     rw [lY hkk,zd,gL hs]
     simp only [bPs,bQ,Int.toNat_natCast]
     cases hx : x.nullable with
     | true=>exact ⟨_,rfl,hset _ (by simp [z,hx]),hkinds⟩
     | false =>
      by_cases h6 : kind = 6
      ·exact ⟨.next _,by rw [lc h6]; rfl,hset _ (by simp [z,hx,h6]),hkinds⟩
      ·exact ⟨.next _,by rw [dg h6]; rfl,hset _ (by simp [z,hx,h6]),hkinds⟩
    ·refine ⟨.ret ([],7),by rw [lJ hkk]; rfl,rfl,fun he=>hkk ?_⟩
     have := congrArg (fun l=>l[k]?) he
     simp only [List.getElem?_map,hk,ze hkb,Option.map_some,zo] at this
     exact this)
  rw [hfl,bPs]
  cases fl with
  | brk s=>exact absurd hr (by simp)
  | ret r=>rw [hr.1,zy (fun h=>hr.2 h.2)]; rfl
  | next s =>
   simp only [Nat.zero_add] at hr
   rw [iV,hr.1,zp ⟨hl,by have := hr.2; rwa [List.take_length,hl,List.take_length] at this⟩]
   have : (List.zipWith z a b).take a.length = List.zipWith z a b := List.take_of_length_le (by simp; omega)
   rw [this,List.drop_length,List.append_nil]
 ·rw [nH,zf hl,zy (fun h=>hl h.1)]
  rfl
theorem nL {α : Type} {l : List α} {d : α} (h : 0 < l.length) : aK l 0 = some (l.getD 0 d) := by
 cases l with
 | nil=>simp at h
 | cons a l=>rfl
theorem getD1 {α : Type} {l : List α} {d : α} (h : 1 < l.length) : aK l 1 = some (l.getD 1 d) := by
 match l with
 | []=>simp at h
 | [_]=>simp at h
 | a :: b :: l=>rfl
theorem e0_get {q : LQuery} (h : 0 < q.exprs.length) : aK q.exprs 0 = some (e0Q q) := by
 unfold e0Q
 cases hq : q.exprs with
 | nil=>rw [hq] at h; simp at h
 | cons a l=>rfl
theorem containsS (l : List (List UInt8)) (v : List UInt8) : dI l v = some (decide (v ∈ l)) := by
 unfold dI dA
 rw [idxF2 (p := fun x=>v == x),bPs,iT]
 congr 1
 by_cases h : v ∈ l
 ·rw [zt h,List.any_eq_true]; exact ⟨v,h,by simp⟩
 ·rw [zf h,List.any_eq_false]
  intro x hx he
  exact h (by simp at he; rwa [he])
theorem agg_eq (c : LChecker) (cols : List LCol) (a : LAggregateCall) : gi c cols a = some (np c.vars cols a) := by
 unfold gi np
 simp only [bQ,containsS,bPs]
 by_cases h1 : dp a.name = false
 ·simp [h1]
 have h1' : dp a.name = true := by simpa using h1
 by_cases h2 : a.function ∈ [hX,sSum,sMin,sMax]
 ·rw [zt (show a.function ∈ ([[99,111,117,110,116],[115,117,109],[109,105,110],[109,97,120]] : List (List UInt8)) from h2)]
  cases ha : a.args with
  | nil =>
   by_cases h3 : a.function = hX
   ·simp [h1',h3]
   ·have h3' : (a.function == ([99,111,117,110,116] : List UInt8)) = false := by simpa using h3
    simp [h1',h3,h2,h3']
  | cons e l =>
   cases l with
   | cons e2 l =>
    have : (1 : Int) < (l.length : Int) + 1 + 1 := by omega
    simp [h1',h2,this]
   | nil =>
    simp only [h1',Bool.not_true,zd,List.length_singleton]
    have hno : ¬ (True = False ∨ ¬ a.function ∈ [hX,sSum,sMin,sMax] ∨ 1 < 1 ∨ (1 < 1 ∧ a.function ≠ hX)) := by simp [h2]
    simp only [aK]
    by_cases h4 : (cW cols c.vars e).2.2 = 0
    ·by_cases h5 : (cW cols c.vars e).1 = 0
     ·simp [h2,h4,h5]
     ·by_cases h6 : a.function = sSum
      ·by_cases h7 : (cW cols c.vars e).1 = 1
       ·simp [h4,h6,h7]
       ·simp [h4,h5,h6,h7,lJ h7]
      ·have h6' : (a.function == ([115,117,109] : List UInt8)) = false := by simpa using h6
       by_cases h8 : a.function = hX
       ·simp [h4,h5,h8,dg h5]
       ·have h8' : (a.function == ([99,111,117,110,116] : List UInt8)) = false := by simpa using h8
        simp [h2,h4,h5,h6,h8,h6',h8',dg h5]
    ·simp [h2,h4,lJ h4]
 ·rw [zf (show ¬ a.function ∈ ([[99,111,117,110,116],[115,117,109],[109,105,110],[109,97,120]] : List (List UInt8)) from h2)]
  simp [h1',h2]
theorem namedE_run (vars cols : List LCol) (names : List (List UInt8)) : ∀ (es : List LExpr) (j : Nat) (s : List LCol),es.length + j = names.length → s.length + es.length ≤ 10000000 →
  ∀ k : List LCol → Option (List LCol × Int),ae (aD (σ := List LCol) (ρ := ((List LCol) × Int)) (fun (j1 : Nat) (x1 : LExpr) (s1 : List LCol) =>
  br (cW cols vars x1) fun x31 =>
  ae (aK names (j1 : Int)) fun (x39 : List UInt8) =>
  br (dp x39) fun x41 =>
  cond (!x41)
   (some (.ret ([],3)))
   (cond (x31.2.2 != (0 : Int))
    (some (.ret ([],x31.2.2)))
    (cond (x31.1 == (0 : Int))
     (some (.ret ([],7)))
     (ae (aK names (j1 : Int)) fun (x54 : List UInt8) =>
     ae (cy 32 s1 ([(LCol.mk x54 x31.1 x31.2.1)] : List LCol)) fun (x60 : List LCol) =>
     some (.next x60))))) j es s) (fun fl1=>fl1.thenR k) = if (ct vars cols es (names.drop j)).2 ≠ 0 then some ([],(ct vars cols es (names.drop j)).2) else k (s ++ (ct vars cols es (names.drop j)).1)
 | [],j,s,_,_,k=>by simp [aD,ct]
 | e :: es,j,s,hl,hb,k=>by
  have hj : j < names.length := by simp at hl; omega
  rw [aD,List.drop_eq_getElem_cons hj,ct,bQ,gU hj,bPs,bQ]
  cases h1 : dp names[j] with
  | false=>simp
  | true =>
   simp only [Bool.not_true,zd,Bool.true_eq_false,if_false]
   by_cases h2 : (cW cols vars e).2.2 = 0
   ·rw [lY h2,zd]
    simp only [h2,ne_eq,not_true_eq_false,if_false]
    by_cases h3 : (cW cols vars e).1 = 0
    ·rw [lc h3]; simp [h3]
    ·rw [dg h3,zd,bPs,bN (by decide) (by simp at hb ⊢; omega),bPs]
     simp only [h3,if_false]
     rw [namedE_run vars cols names es (j + 1) _ (by simp at hl; omega) (by simp at hb ⊢; omega) k]
     by_cases h4 : (ct vars cols es (names.drop (j + 1))).2 = 0
     ·simp [h4]
     ·simp [h4]
   ·rw [lJ h2]
    simp [h2]
theorem namedA_run (c : LChecker) (cols : List LCol) : ∀ (l : List LAggregateCall) (j : Nat) (s : List LCol),s.length + l.length ≤ 10000000 →
  ae (aD (σ := List LCol) (ρ := ((List LCol) × Int)) (fun (_ : Nat) (x2 : LAggregateCall) (s2 : List LCol) =>
  ae (gi c cols x2) fun x73 =>
  cond (x73.2 != (0 : Int))
   (some (.ret ([],x73.2)))
   (ae (cy 32 s2 ([(LCol.mk x2.name x73.1 (!(x2.function == ([99,111,117,110,116] : List UInt8))))] : List LCol)) fun (x88 : List LCol) =>
   some (.next x88))) j l s) (fun fl2=>fl2.thenR fun (s2 : List LCol)=>some (s2,0)) = some (if (dS c.vars cols l).2 ≠ 0 then ([],(dS c.vars cols l).2) else (s ++ (dS c.vars cols l).1,0))
 | [],j,s,_=>by simp [aD,dS]
 | a :: l,j,s,hb=>by
  rw [aD,dS,agg_eq,bPs]
  by_cases h1 : (np c.vars cols a).2 = 0
  ·rw [lY h1,zd,bN (by decide) (by simp at hb ⊢; omega),bPs]
   simp only [h1,ne_eq,not_true_eq_false,if_false]
   rw [namedA_run c cols l (j + 1) _ (by simp at hb ⊢; omega)]
   by_cases h4 : (dS c.vars cols l).2 = 0
   ·simp [h4]
   ·simp [h4]
  ·rw [lJ h1]
   simp [h1]
theorem named_eq (c : LChecker) (q : LQuery) (cols : List LCol) (hl : q.exprs.length = q.names.length) (hb : q.exprs.length ≤ 1000000 ∧ q.aggregates.length ≤ 1000000) : eB c q cols = some (ml c.vars cols q) := by
 unfold eB ml
 rw [namedE_run c.vars cols q.names q.exprs 0 [] (by omega) (by simp; omega),List.drop_zero]
 by_cases h : (ct c.vars cols q.exprs q.names).2 = 0
 ·have hlen : ∀ (es : List LExpr) (ns : List (List UInt8)),(ct c.vars cols es ns).1.length ≤ es.length := by
   intro es
   induction es with
   | nil=>intro ns; simp [ct]
   | cons e es ih =>
    intro ns
    cases ns with
    | nil=>simp [ct]
    | cons n ns =>
     simp only [ct]
     split
     ·simp
     ·split
      ·simp
      ·split
       ·simp
       ·split
        ·simp
        ·have := ih ns; simp; omega
  simp only [h,ne_eq,not_true_eq_false,if_false,List.nil_append]
  rw [namedA_run c cols q.aggregates 0 _ (by have := hlen q.exprs q.names; omega)]
 ·simp [h]
structure SmallQ (q : LQuery) : Prop where
 nodes : (cg q).length ≤ 10000000
 here : ∀ x ∈ cg q,x.exprs.length ≤ 1000000 ∧ x.aggregates.length ≤ 1000000
theorem mem_nodes {q x y : LQuery} (h : x ∈ q.inputs) (hy : y ∈ cg x) : y ∈ cg q := by
 rw [gY]
 exact List.mem_cons_of_mem _ (List.mem_flatten.2 ⟨_,List.mem_map.2 ⟨x,h,rfl⟩,hy⟩)
theorem pP (q : LQuery) : q ∈ cg q := by rw [gY]; exact List.mem_cons_self
theorem SmallQ.sub {q x : LQuery} (h : SmallQ q) (hx : x ∈ q.inputs) : SmallQ x :=
 ⟨by have := lQ hx; have := h.nodes; omega,fun y hy=>h.here y (mem_nodes hx hy)⟩
theorem SmallQ.self {q : LQuery} (h : SmallQ q) : q.exprs.length ≤ 1000000 ∧ q.aggregates.length ≤ 1000000 := h.here q (pP q)
structure ShapeOk (q : LQuery) : Prop where
 kind : 1 ≤ q.kind ∧ q.kind ≤ 10
 arity : q.inputs.length = oq q.kind
 one : q.kind = 2 ∨ q.kind = 4 ∨ q.kind = 5 → q.exprs.length = 1
 named : q.kind = 3 ∨ q.kind = 8 → q.exprs.length = q.names.length
 aggs : q.kind ≠ 8 → q.aggregates = []
 sorted : q.kind = 9 → q.exprs.length = q.descending.length
 limit : q.kind = 10 → 0 ≤ q.count ∧ 0 ≤ q.offset
theorem shape_ok {q : LQuery} (h : lh q = true) : ShapeOk q := by
 unfold lh at h
 simp only [Bool.and_eq_true,decide_eq_true_eq] at h
 obtain ⟨⟨⟨⟨⟨⟨⟨⟨h1,h2⟩,h3⟩,h4⟩,h5⟩,h6⟩,h7⟩,h8⟩,h9⟩ := h
 refine ⟨⟨h1,h2⟩,h3,fun hk=>?_,fun hk=>?_,fun hk=>?_,fun hk=>?_,fun hk=>?_⟩
 ·rw [zp hk] at h9; simpa using h9
 ·rw [zy (by omega),zp hk] at h9; simp at h9; exact h9.1
 ·have : (q.kind == 8) = false := dg hk
  rw [this] at h6; simp at h6; exact h6
 ·rw [zy (by omega),zy (by omega),zp hk] at h9; simp at h9; exact h9.1
 ·rw [zy (by omega),zy (by omega),zy (by omega),zp hk] at h9; simp at h9; omega
theorem join_run (left : Bool) : ∀ (b : List LCol) (j : Nat) (a : List LCol),a.length + b.length ≤ 10000000 →
  aD (σ := List LCol) (ρ := Empty) (fun (_ : Nat) (x2 : LCol) (s2 : List LCol)=>cond x2.nullable
          (ae (cy 32 s2 ([(LCol.mk x2.name x2.kind true)] : List LCol)) fun (x76 : List LCol)=>some (.next x76))
          (ae (cy 32 s2 ([(LCol.mk x2.name x2.kind left)] : List LCol)) fun (x76 : List LCol)=>some (.next x76))) j b a = some (.next (jf a b left))
 | [],j,a,_=>by simp [aD,jf]
 | x :: b,j,a,h=>by
  have step : (cond x.nullable (ae (cy 32 a ([(LCol.mk x.name x.kind true)] : List LCol)) fun (x76 : List LCol)=>some (Flow.next (ρ := Empty) x76))
    (ae (cy 32 a ([(LCol.mk x.name x.kind left)] : List LCol)) fun (x76 : List LCol)=>some (.next x76))) = some (.next (a ++ [⟨x.name,x.kind,x.nullable || left⟩])) := by
   rw [bN (by decide) (by simp at h ⊢; omega),bN (by decide) (by simp at h ⊢; omega)]
   cases x.nullable <;> simp
  rw [aD,step]
  simp only
  rw [join_run left b (j + 1) _ (by simp at h ⊢; omega)]
  simp [jf]
theorem sort_run (vars cols : List LCol) (ins : List (List LCol)) (h0 : aK ins 0 = some cols) : ∀ (es : List LExpr) (j : Nat) (k : Unit → Option (List LCol × Int)),
  ae (aD (σ := Unit) (ρ := ((List LCol) × Int)) (fun (_ : Nat) (x5 : LExpr) (_ : Unit)=>ae (aK ins 0) fun (x122 : List LCol)=>br (cW x122 vars x5) fun x127=>cond (x127.2.2 != (0 : Int)) (some (.ret ([],x127.2.2))) (some (.next ()))) j es ()) (fun fl5=>fl5.thenR k) =
   if jq vars cols es ≠ 0 then some ([],jq vars cols es) else k ()
 | [],j,k=>by simp [aD,jq]
 | e :: es,j,k=>by
  rw [aD,jq,h0,bPs,bQ]
  by_cases h : (cW cols vars e).2.2 = 0
  ·rw [lY h,zd]
   simp only [h,ne_eq,not_true_eq_false,if_false]
   rw [← h0]
   exact sort_run vars cols ins h0 es (j + 1) k
  ·rw [lJ h]; simp [h]
theorem out_eq {c : LChecker} {q : LQuery} {ins : List (List LCol)} (hs : ShapeOk q) (hsm : SmallQ q) (hl : ins.length = q.inputs.length) (hb : ∀ l ∈ ins,l.length ≤ 20) : ii c q ins = some (iI c q ins) := by
 obtain ⟨hk,ha,h1,hn,_,_,_⟩ := hs
 have hself := hsm.self
 have hi : ∀ i,i < ins.length → (ins.getD i []).length ≤ 20 := fun i hi=>by
  rw [List.getD_eq_getElem?_getD,ze hi]
  exact hb _ (List.getElem_mem hi)
 have e0 : q.exprs.length = 1 → aK q.exprs 0 = some (e0Q q) := fun h=>e0_get (by omega)
 unfold ii iI
 have kk : q.kind = 1 ∨ q.kind = 2 ∨ q.kind = 3 ∨ q.kind = 4 ∨ q.kind = 5 ∨ q.kind = 6 ∨ q.kind = 7 ∨ q.kind = 8 ∨ q.kind = 9 ∨ q.kind = 10 := by omega
 rcases kk with h | h | h | h | h | h | h | h | h | h
 ·rw [h,idx_table]
  simp only [bPs]
  rcases find_idx (fun a0=>eD a0 q) c.s.tables with ⟨f1,f2⟩ | ⟨t,f1,f2,f3⟩
  ·have f1' : c.s.tables.find? (fun t=>t.name == q.table) = none := f1
   rw [f2,f1']
   rfl
  ·have f1' : c.s.tables.find? (fun t=>t.name == q.table) = some t := f1
   rw [f1',zf (show ¬ bf (fun a0=>eD a0 q) c.s.tables < 0 from by omega),lM f2 f3]
   rfl
 all_goals rw [h] at ha
 all_goals simp only [oq] at ha
 ·have g0 : aK ins 0 = some (ins.getD 0 []) := nL (by simp at ha; omega)
  rw [h,g0,e0 (h1 (.inl h))]
  simp [bQ]
 ·have g0 : aK ins 0 = some (ins.getD 0 []) := nL (by simp at ha; omega)
  rw [h,g0]
  simp only [bPs]
  rw [named_eq c q _ (hn (.inl h)) hself]
  simp [bQ]
 ·have g0 : aK ins 0 = some (ins.getD 0 []) := nL (by simp at ha; omega)
  have g1 : aK ins 1 = some (ins.getD 1 []) := getD1 (by simp at ha; omega)
  rw [h,g0,g1,e0 (h1 (.inr (.inl h)))]
  simp only [bPs]
  rw [join_run ((4 : Int) == 5) _ 0 _ (by have := hi 0 (by simp at ha; omega); have := hi 1 (by simp at ha; omega); omega)]
  simp [bQ]
 ·have g0 : aK ins 0 = some (ins.getD 0 []) := nL (by simp at ha; omega)
  have g1 : aK ins 1 = some (ins.getD 1 []) := getD1 (by simp at ha; omega)
  rw [h,g0,g1,e0 (h1 (.inr (.inr h)))]
  simp only [bPs]
  rw [join_run ((5 : Int) == 5) _ 0 _ (by have := hi 0 (by simp at ha; omega); have := hi 1 (by simp at ha; omega); omega)]
  simp [bQ]
 ·have g0 : aK ins 0 = some (ins.getD 0 []) := nL (by simp at ha; omega)
  have g1 : aK ins 1 = some (ins.getD 1 []) := getD1 (by simp at ha; omega)
  rw [h,g0,g1]
  simp only [bPs,set_ok]
  simp [bQ]
 ·have g0 : aK ins 0 = some (ins.getD 0 []) := nL (by simp at ha; omega)
  have g1 : aK ins 1 = some (ins.getD 1 []) := getD1 (by simp at ha; omega)
  rw [h,g0,g1]
  simp only [bPs,set_ok]
  simp [bQ]
 ·have g0 : aK ins 0 = some (ins.getD 0 []) := nL (by simp at ha; omega)
  rw [h,g0]
  simp only [bPs]
  rw [named_eq c q _ (hn (.inr h)) hself]
  simp [bQ]
 ·have g0 : aK ins 0 = some (ins.getD 0 []) := nL (by simp at ha; omega)
  rw [h,sort_run c.vars _ ins g0,g0]
  simp only [bQ,bPs]
  by_cases hse : jq c.vars (ins.getD 0 []) q.exprs = 0
  ·simp only [hse,ne_eq,not_true_eq_false,if_false]; rfl
  ·simp only [hse,ne_eq,not_false_eq_true,if_true]; rfl
 ·have g0 : aK ins 0 = some (ins.getD 0 []) := nL (by simp at ha; omega)
  rw [h,g0]
  simp [bQ]
def dK : List (List LCol × Int) → List (List LCol) × Int
 | []=>([],0)
 | r :: l=>if r.2 ≠ 0 then ([],r.2) else if (dK l).2 ≠ 0 then ([],(dK l).2) else (r.1 :: (dK l).1,0)
def nY (c : LChecker) (q : LQuery) (ins : List (List LCol × Int)) : List LCol × Int :=
 if lh q = false then ([],3) else if (dK ins).2 ≠ 0 then ([],(dK ins).2)
 else if (iI c q (dK ins).1).2 ≠ 0 then ([],(iI c q (dK ins).1).2)
 else if 20 < (iI c q (dK ins).1).1.length then ([],2)
 else if ((iI c q (dK ins).1).1.map LCol.name).Nodup then ((iI c q (dK ins).1).1,0) else ([],23)
def ff (c : LChecker) (q : LQuery) : List LCol × Int := nY c q (q.inputs.attach.map fun x=>ff c x.1)
termination_by SizeOf.sizeOf q
decreasing_by exact LQuery.inputs_lt x.2
theorem pD (c : LChecker) (q : LQuery) : ff c q = nY c q (q.inputs.map (ff c)) := by
 rw [ff,List.attach_map_val (f := ff c)]
theorem rB (f : LQuery → Option (List LCol × Int)) (g : LQuery → List LCol × Int) : ∀ (l : List LQuery) (j : Nat) (s : List (List LCol)),(∀ x ∈ l,f x = some (g x)) → s.length + l.length ≤ 10000000 → ∀ k : List (List LCol) → Option (List LCol × Int),
  ae (aD (σ := List (List LCol)) (ρ := ((List LCol) × Int)) (fun (_ : Nat) (x1 : LQuery) (s1 : List (List LCol))=>ae (f x1) fun x28=>cond (x28.2 != (0 : Int)) (some (.ret ([],x28.2)))
    (ae (cy 24 s1 ([x28.1] : List (List LCol))) fun (x37 : List (List LCol))=>some (.next x37))) j l s) (fun fl1=>fl1.thenR k) =
   if (dK (l.map g)).2 ≠ 0 then some ([],(dK (l.map g)).2) else k (s ++ (dK (l.map g)).1)
 | [],j,s,_,_,k=>by simp [aD,dK]
 | x :: l,j,s,h,hb,k=>by
  rw [aD,h x (by simp),bPs,List.map_cons,dK]
  by_cases h1 : (g x).2 = 0
  ·rw [lY h1,zd,bN (by decide) (by simp at hb ⊢; omega),bPs]
   simp only [h1,ne_eq,not_true_eq_false,if_false]
   rw [rB f g l (j + 1) _ (fun y hy=>h y (by simp [hy])) (by simp at hb ⊢; omega) k]
   by_cases h2 : (dK (l.map g)).2 = 0
   ·simp [h2]
   ·simp [h2]
  ·rw [lJ h1]; simp [h1]
theorem pY : ∀ {l : List (List LCol × Int)},(dK l).2 = 0 → (∀ r ∈ l,r.2 = 0) ∧ (dK l).1 = l.map (·.1)
 | [],_=>⟨by simp,rfl⟩
 | r :: l,h=>by
  simp only [dK] at h ⊢
  by_cases h1 : r.2 = 0
  ·by_cases h2 : (dK l).2 = 0
   ·obtain ⟨a,b⟩ := pY h2
    refine ⟨fun x hx=>?_,by simp [h1,h2,b]⟩
    rcases List.mem_cons.1 hx with rfl | hx
    ·exact h1
    ·exact a x hx
   ·simp [h1,h2] at h
  ·simp [h1] at h
theorem dup_run (out : List LCol) : ae (aD (σ := Unit) (ρ := ((List LCol) × Int)) (fun (j2 : Nat) (x2 : LCol) (_ : Unit) =>
     ae (nn out 0 (j2 : Int)) fun (x61 : List LCol) =>
     ae (bZ x61 (fun a0=>some (ck a0 x2))) fun x63 =>
     cond x63 (some (.ret ([],23))) (some (.next ()))) 0 out ()) (fun fl2=>fl2.thenR fun (_ : Unit)=>some (out,0)) = some (if (out.map LCol.name).Nodup then (out,0) else ([],23)) := by
 obtain ⟨fl,hfl,hr⟩ := eI (step := fun (j2 : Nat) (x2 : LCol) (_ : Unit) =>
     ae (nn out 0 (j2 : Int)) fun (x61 : List LCol) =>
     ae (bZ x61 (fun a0=>some (ck a0 x2))) fun x63 =>
     cond x63 (some (Flow.ret (([],23) : List LCol × Int))) (some (.next ())))
  (fun j _=>((out.take j).map LCol.name).Nodup) (fun r=>r = ([],23) ∧ ¬ (out.map LCol.name).Nodup) out 0 () (by simp) (fun k x s hk hI=>by
   simp only [Nat.zero_add] at hI ⊢
   have hkl := (zg.1 hk).1
   rw [oZ ⟨by omega,by omega,by omega⟩,bPs]
   unfold bZ
   rw [idx_column,bPs,bPs,iT]
   simp only [Int.toNat_natCast,Int.toNat_zero,List.drop_zero]
   cases ha : (out.take k).any fun a0=>ck a0 x with
   | true =>
    refine ⟨_,rfl,rfl,fun hnd=>?_⟩
    obtain ⟨y,hy,he⟩ := List.any_eq_true.1 ha
    have he : y.name = x.name := by simpa [ck] using he
    obtain ⟨i,hi,hyi⟩ := List.mem_take_iff_getElem.1 hy
    have hii : i < k := by omega
    rw [List.nodup_iff_pairwise_ne,List.pairwise_iff_getElem] at hnd
    refine hnd i k (by simp; omega) (by simpa using hkl) hii ?_
    simp only [List.getElem_map]
    rw [(zg.1 hk).2,hyi,he]
   | false =>
    refine ⟨_,rfl,?_⟩
    simp only
    rw [List.take_add_one,hk,List.map_append,List.nodup_append]
    refine ⟨hI,by simp,fun a ha' b hb hab=>?_⟩
    simp at hb
    subst hb
    subst hab
    obtain ⟨y,hy,he⟩ := List.mem_map.1 ha'
    have := List.any_eq_false.1 ha y hy
    exact this (by simpa [ck] using he))
 rw [hfl,bPs]
 cases fl with
 | brk s=>exact absurd hr (by simp)
 | ret r=>rw [nx,hr.1,zy hr.2]
 | next s =>
  simp only [Nat.zero_add,List.take_length] at hr
  rw [iV,zp hr]
theorem jY (c : LChecker) (q : LQuery) : (ff c q).1.length ≤ 20 := by
 rw [pD]
 unfold nY
 repeat' split
 all_goals first | (simp; done) | (simp only; omega)
theorem cols_ok (c : LChecker) : ∀ q : LQuery,SmallQ q → eP c q = some (ff c q) := by
 refine LQuery.ind fun q ih hsm=>?_
 refine nF (γ := LChecker) (F := fun n c q=>eQ n c q) (O := fun r c q=>eS r c q) (fun n=>rfl) c q ?_ (fun x hx=>⟨_,ih x hx (hsm.sub hx)⟩) ?_
 ·intro r r' h
  simp only [eS]
  congr 1
  funext b
  congr 2
  exact kO q.inputs 0 _ fun k x s hk=>by rw [h x (dr hk)]
 ·have e : ∀ c x,(ik fun n=>eQ n c x) = eP c x := fun _ _=>rfl
  simp only [eS,e]
  have hself := hsm.self
  rw [shape_eq q ⟨by omega,by omega⟩,bPs,pD]
  unfold nY
  cases hs : lh q with
  | false=>rfl
  | true =>
   have hok := shape_ok hs
   have hin : q.inputs.length ≤ 2 := by rw [hok.arity]; unfold oq; split <;> (try split) <;> omega
   simp only [Bool.not_true,zd,Bool.true_eq_false,if_false]
   rw [rB (eP c) (ff c) q.inputs 0 [] (fun x hx=>ih x hx (hsm.sub hx)) (by simp; omega),List.nil_append]
   by_cases h1 : (dK (q.inputs.map (ff c))).2 = 0
   ·obtain ⟨a,b⟩ := pY h1
    simp only [h1,ne_eq,not_true_eq_false,if_false]
    rw [out_eq hok hsm (by rw [b]; simp) (fun l hl=>by
     rw [b] at hl
     obtain ⟨r,hr,rfl⟩ := List.mem_map.1 hl
     obtain ⟨x,_,rfl⟩ := List.mem_map.1 hr
     exact jY c x),bPs]
    generalize iI c q (dK (q.inputs.map (ff c))).1 = o
    by_cases h2 : o.2 = 0
    ·rw [lY h2,zd]
     simp only [h2,not_true_eq_false,if_false]
     by_cases h3 : 20 < o.1.length
     ·rw [zt (show (o.1.length : Int) > 20 from by omega),zp h3]; rfl
     ·rw [zf (show ¬ (o.1.length : Int) > 20 from by omega),zy h3,zd]
      exact dup_run o.1
    ·rw [lJ h2]; simp [h2]
   ·simp [h1]
theorem whileM_by {σ ρ : Type} {step : σ → Option (Flow σ ρ)} (I : σ → Prop) (μ : σ → Nat) (Q : σ → Prop) (R : ρ → Prop) (hs : ∀ s,I s → ∃ fl,step s = some fl ∧ (match fl with | .next s'=>I s' ∧ μ s' < μ s | .brk s'=>Q s' | .ret r=>R r)) :
  ∀ s,I s → ∃ fl,fJ step s = some fl ∧ (match fl with | .next s'=>Q s' | .brk _=>False | .ret r=>R r) := by
 intro s
 generalize hn : μ s = n
 induction n using Nat.strongRecOn generalizing s with
 | _ n ih =>
  intro hI
  obtain ⟨fl,h1,h2⟩ := hs s hI
  cases fl with
  | next s' =>
   obtain ⟨fl,h3,h4⟩ := ih (μ s') (hn ▸ h2.2) s' rfl h2.1
   exact ⟨fl,lk h1 h3,h4⟩
  | brk s'=>exact ⟨.next s',lk h1 rfl,h2⟩
  | ret r=>exact ⟨.ret r,lk h1 rfl,h2⟩
theorem gC {σ β : Type} {step : σ → Option (Flow σ Empty)} {k : σ → Option β} {R : β → Prop} {s : σ} (I : σ → Prop) (μ : σ → Nat) (Q : σ → Prop) (h0 : I s)
  (hs : ∀ s,I s → ∃ fl,step s = some fl ∧ (match fl with | .next s'=>I s' ∧ μ s' < μ s | .brk s'=>Q s' | .ret _=>False)) (hk : ∀ s',Q s' → ∃ r,k s' = some r ∧ R r) :
  ∃ r,ae (fJ step s) (fun fl=>fl.thenP k) = some r ∧ R r := by
 obtain ⟨fl,h1,h2⟩ := whileM_by (step := step) I μ Q (fun _=>False) (fun s hI=>by
  obtain ⟨fl,h1,h2⟩ := hs s hI
  refine ⟨fl,h1,?_⟩
  cases fl with
  | next s'=>exact h2
  | brk s'=>exact h2
  | ret r=>exact r.elim) s h0
 cases fl with
 | next s'=>rw [h1]; exact hk s' h2
 | brk s'=>exact absurd h2 (by simp)
 | ret r=>exact r.elim
theorem mid_eq {n : Int} (h0 : 0 ≤ n) (h1 : n ≤ 4611686018427387904) : IntKind.i64.wrap (Int.fdiv (IntKind.u64.wrap (IntKind.i64.wrap n)) (2 ^ 1)) = n / 2 := by
 have h3 : IntKind.i64.wrap n = n := bD (by omega) (by omega)
 have h2 : IntKind.u64.wrap n = n := by
  simp only [IntKind.wrap,IntKind.bits,IntKind.signed]
  simp
  omega
 rw [h3,h2,show (2 : Int) ^ 1 = 2 from rfl,Int.fdiv_eq_ediv_of_nonneg _ (by decide)]
 exact bD (by omega) (by omega)
section
variable {α : Type}
theorem swap_perm {l : List α} {i j : Nat} {x y : α} (hi : l[i]? = some x) (hj : l[j]? = some y) : ((l.set i y).set j x).Perm l := by
 have hil := (zg.1 hi).1
 have hjl := (zg.1 hj).1
 have hx := (zg.1 hi).2
 have hy := (zg.1 hj).2
 rw [← hx,← hy]
 exact List.set_set_perm hil hjl
end
section
abbrev Rows := Rz
abbrev Cmp := Rq → Rq → Option Int
structure SrtOk (cmp : Cmp) (d0 d : Rows) : Prop where
 perm : d.Perm d0
 small : d0.length ≤ 1000000
 tot : ∀ x ∈ d0,∀ y ∈ d0,Tot (cmp x y)
variable {cmp : Cmp} {d0 : Rows}
theorem SrtOk.len {d : Rows} (h : SrtOk cmp d0 d) : d.length = d0.length := h.perm.length_eq
theorem SrtOk.cm {d : Rows} (h : SrtOk cmp d0 d) {x y : Rq} (hx : x ∈ d) (hy : y ∈ d) : Tot (cmp x y) := h.tot x (h.perm.mem_iff.1 hx) y (h.perm.mem_iff.1 hy)
theorem SrtOk.swap {d : Rows} (h : SrtOk cmp d0 d) {i j : Nat} {x y : Rq} (hi : d[i]? = some x) (hj : d[j]? = some y) : SrtOk cmp d0 ((d.set i y).set j x) := ⟨(swap_perm hi hj).trans h.perm,h.small,h.tot⟩
theorem SrtOk.get {d : Rows} (h : SrtOk cmp d0 d) {i : Int} (h0 : 0 ≤ i) (h1 : i < d0.length) : ∃ x,aK d i = some x ∧ d[i.toNat]? = some x ∧ x ∈ d := by
 have hl := h.len
 have : i.toNat < d.length := by omega
 exact ⟨d[i.toNat],lM h0 (ze this),ze this,List.getElem_mem _⟩
theorem getI_set {α : Type} {l : List α} {i j : Int} {x y : α} (h0 : 0 ≤ j) (hj : l[j.toNat]? = some y) : ∃ z,aK (l.set i.toNat x) j = some z := by
 have hl := (zg.1 hj).1
 exact ⟨_,lM h0 (ze (by simpa using hl))⟩
theorem rg {β : Type} {d : Rows} (h : SrtOk cmp d0 d) {i j : Int} (hi0 : 0 ≤ i) (hi1 : i < d0.length) (hj0 : 0 ≤ j) (hj1 : j < d0.length) : ∃ d',SrtOk cmp d0 d' ∧ ∀ k : Rows → Option β,
  (ae (aK d j) fun (x28 : Rq)=>ae (aK d i) fun (x34 : Rq)=>ae (aK d i) fun (_ : Rq)=>br (d.set i.toNat x28) fun (y6 : Rows)=>ae (aK y6 j) fun (_ : Rq)=>br (y6.set j.toNat x34) fun (y7 : Rows)=>k y7) = k d' := by
 obtain ⟨y,hy,hy',_⟩ := h.get hj0 hj1
 obtain ⟨x,hx,hx',_⟩ := h.get hi0 hi1
 obtain ⟨z,hz⟩ := getI_set (i := i) (x := y) hj0 hy'
 refine ⟨_,h.swap hx' hy',fun k=>?_⟩
 rw [hy,hx]
 simp only [bPs,bQ]
 rw [hz,bPs]
theorem qL {d : Rows} (h : SrtOk cmp d0 d) {a b : Int} (ha : 0 ≤ a ∧ a ≤ d0.length) (hb : b ≤ d0.length) : ∃ d',cu d a b cmp = some d' ∧ SrtOk cmp d0 d' := by
 have hs := h.small
 unfold cu
 rw [bD (by omega) (by omega)]
 refine gC (fun s=>SrtOk cmp d0 s.1 ∧ a < s.2) (fun s=>(b - s.2).toNat) (fun s=>SrtOk cmp d0 s.1) ⟨h,by show a < a + 1; omega⟩ (fun s hI=>?_) (fun s hq=>⟨_,rfl,hq⟩)
 obtain ⟨h1,h2⟩ := hI
 by_cases hlt : s.2 < b
 ·rw [zt hlt,zc]
  refine gC (fun t=>SrtOk cmp d0 t.1 ∧ a ≤ t.2 ∧ t.2 < b) (fun t=>(t.2 - a).toNat) (fun t=>SrtOk cmp d0 t.1) ⟨h1,by show a ≤ s.2; omega,hlt⟩ (fun t hI=>?_) (fun t hq=>⟨_,rfl,?_⟩)
  ·obtain ⟨g1,g2,g3⟩ := hI
   by_cases hgt : t.2 > a
   ·rw [zt hgt,zc,bD (by omega) (by omega)]
    obtain ⟨x,hx,hx',hxm⟩ := g1.get (i := t.2) (by omega) (by omega)
    obtain ⟨y,hy,hy',hym⟩ := g1.get (i := t.2 - 1) (by omega) (by omega)
    obtain ⟨c,hc⟩ := g1.cm hxm hym
    obtain ⟨d',hd',hsw⟩ := rg (β := Flow (Rows × Int) Empty) g1 (i := t.2) (j := t.2 - 1) (by omega) (by omega) (by omega) (by omega)
    rw [hx,bPs,hy,bPs,hc,bPs,bPs]
    by_cases hneg : c < 0
    ·rw [zt hneg]
     have := hsw (fun y31=>some (.next (y31,t.2 - 1)))
     rw [hx,hy] at this
     refine ⟨.next (d',t.2 - 1),?_,⟨hd',by show a ≤ t.2 - 1; omega,by show t.2 - 1 < b; omega⟩,by show (t.2 - 1 - a).toNat < (t.2 - a).toNat; omega⟩
     rw [zc]
     simp only
     rw [hy,hx]
     exact this
    ·rw [zf hneg]
     exact ⟨_,rfl,g1⟩
   ·rw [zf hgt]
    exact ⟨_,rfl,g1⟩
  ·show (SrtOk cmp d0 t.1 ∧ a < IntKind.i64.wrap (s.2 + 1)) ∧ (b - IntKind.i64.wrap (s.2 + 1)).toNat < (b - s.2).toNat
   rw [bD (by omega) (by omega)]
   exact ⟨⟨hq,by omega⟩,by omega⟩
 ·rw [zf hlt]
  exact ⟨_,rfl,h1⟩
theorem og {d : Rows} (h : SrtOk cmp d0 d) {a b n : Int} (ha : 0 ≤ a) (hb : 0 ≤ b) (hn : n ≤ d0.length) (ha' : a + n ≤ d0.length) (hb' : b + n ≤ d0.length) : ∃ d',co d a b n cmp = some d' ∧ SrtOk cmp d0 d' := by
 have hs := h.small
 unfold co
 refine gC (fun s=>SrtOk cmp d0 s.1 ∧ 0 ≤ s.2) (fun s=>(n - s.2).toNat) (fun s=>SrtOk cmp d0 s.1) ⟨h,by show (0 : Int) ≤ 0; omega⟩ (fun s hI=>?_) (fun s hq=>⟨_,rfl,hq⟩)
 obtain ⟨h1,h2⟩ := hI
 by_cases hlt : s.2 < n
 ·rw [zt hlt,zc,bD (n := b + s.2) (by omega) (by omega),bD (n := a + s.2) (by omega) (by omega),bD (n := s.2 + 1) (by omega) (by omega)]
  obtain ⟨d',hd',hsw⟩ := rg (β := Flow (Rows × Int) Empty) h1 (i := a + s.2) (j := b + s.2) (by omega) (by omega) (by omega) (by omega)
  exact ⟨_,hsw _,⟨hd',by show 0 ≤ s.2 + 1; omega⟩,by show (n - (s.2 + 1)).toNat < (n - s.2).toNat; omega⟩
 ·rw [zf hlt]
  exact ⟨_,rfl,h1⟩
theorem rotate_ok {d : Rows} (h : SrtOk cmp d0 d) {a m b : Int} (ha : 0 ≤ a) (hm : a < m) (hb : m < b) (hb' : b ≤ d0.length) : ∃ d',dt d a m b cmp = some d' ∧ SrtOk cmp d0 d' := by
 have hs := h.small
 unfold dt
 rw [bD (n := m - a) (by omega) (by omega),bD (n := b - m) (by omega) (by omega)]
 refine gC (fun s=>SrtOk cmp d0 s.1 ∧ 0 < s.2.1 ∧ 0 < s.2.2 ∧ s.2.1 ≤ m - a ∧ s.2.2 ≤ b - m) (fun s=>(s.2.1 + s.2.2).toNat) (fun s=>SrtOk cmp d0 s.1 ∧ 0 < s.2.1 ∧ s.2.1 ≤ m - a ∧ s.2.1 ≤ b - m) ⟨h,by show 0 < m - a; omega,by show 0 < b - m; omega,Int.le_refl _,Int.le_refl _⟩ (fun s hI=>?_) (fun s hq=>?_)
 ·obtain ⟨h1,h2,h3,h4,h5⟩ := hI
  by_cases hne : s.2.1 = s.2.2
  ·rw [lY hne]
   exact ⟨_,rfl,h1,h2,h4,by show s.2.1 ≤ b - m; omega⟩
  ·rw [lJ hne,zc,bD (n := m - s.2.1) (by omega) (by omega)]
   by_cases hgt : s.2.1 > s.2.2
   ·rw [zt hgt,zc]
    obtain ⟨d',e,hd'⟩ := og h1 (a := m - s.2.1) (b := m) (n := s.2.2) (by omega) (by omega) (by omega) (by omega) (by omega)
    rw [e,bPs,ec (by rw [hd'.len,h1.len]),bPs,bD (by omega) (by omega)]
    exact ⟨_,rfl,⟨hd',by show 0 < s.2.1 - s.2.2; omega,h3,by show s.2.1 - s.2.2 ≤ m - a; omega,h5⟩,by show (s.2.1 - s.2.2 + s.2.2).toNat < (s.2.1 + s.2.2).toNat; omega⟩
   ·rw [zf hgt,zd,bD (n := m + s.2.2) (by omega) (by omega),bD (n := m + s.2.2 - s.2.1) (by omega) (by omega)]
    obtain ⟨d',e,hd'⟩ := og h1 (a := m - s.2.1) (b := m + s.2.2 - s.2.1) (n := s.2.1) (by omega) (by omega) (by omega) (by omega) (by omega)
    rw [e,bPs,ec (by rw [hd'.len,h1.len]),bPs,bD (by omega) (by omega)]
    exact ⟨_,rfl,⟨hd',h2,by show 0 < s.2.2 - s.2.1; omega,h4,by show s.2.2 - s.2.1 ≤ b - m; omega⟩,by show (s.2.1 + (s.2.2 - s.2.1)).toNat < (s.2.1 + s.2.2).toNat; omega⟩
 ·obtain ⟨h1,h2,h3,h4⟩ := hq
  rw [bD (n := m - s.2.1) (by omega) (by omega)]
  obtain ⟨d',e,hd'⟩ := og h1 (a := m - s.2.1) (b := m) (n := s.2.1) (by omega) (by omega) (by omega) (by omega) (by omega)
  rw [e,bPs,ec (by rw [hd'.len,h1.len]),bPs]
  exact ⟨_,rfl,hd'⟩
def LeO {β : Type} (o o' : Option β) : Prop := ∀ r,o = some r → o' = some r
theorem LeO.refl {β : Type} (o : Option β) : LeO o o := fun _ h=>h
theorem LeO.bind {β γ : Type} {o o' : Option β} {k k' : β → Option γ} (h : LeO o o') (hk : ∀ v,LeO (k v) (k' v)) : LeO (ae o k) (ae o' k') := by
 intro r hr
 cases o with
 | none=>cases hr
 | some v=>rw [h v rfl]; exact hk v r hr
theorem LeO.cond {β : Type} {b : Bool} {x x' y y' : Option β} (hx : LeO x x') (hy : LeO y y') : LeO (cond b x y) (cond b x' y') := by
 cases b
 ·exact hy
 ·exact hx
theorem LeO.thenP {σ β : Type} {fl : Flow σ Empty} {k k' : σ → Option β} (hk : ∀ s,LeO (k s) (k' s)) : LeO (fl.thenP k) (fl.thenP k') := by
 cases fl with
 | next s=>exact hk s
 | brk s=>exact hk s
 | ret r=>exact r.elim
theorem symMerge_mono {r r' : Rows → Int → Int → Int → Option Rows} (h : ∀ d a m b,LeO (r d a m b) (r' d a m b)) (d : Rows) (a m b : Int) : LeO (cx r d a m b cmp) (cx r' d a m b cmp) := by
 unfold cx
 simp only [bQ]
 refine LeO.cond (LeO.refl _) (LeO.cond (LeO.refl _) (LeO.bind (LeO.refl _) fun fl=>LeO.thenP fun s=>LeO.bind (LeO.refl _) fun t=>LeO.bind (LeO.cond (LeO.bind (h _ _ _ _) fun _=>LeO.refl _) (LeO.refl _)) fun u=>LeO.cond (LeO.cond (LeO.bind (h _ _ _ _) fun _=>LeO.refl _) (LeO.refl _)) (LeO.refl _)))
theorem qi : ∀ (n : Nat) (d : Rows) (a m b : Int),LeO (bu n d a m b cmp) (bu (n + 1) d a m b cmp)
 | 0,d,a,m,b=>fun r h=>by simp [bu] at h
 | n + 1,d,a,m,b=>by
  rw [bu,bu]
  exact symMerge_mono (fun d a m b=>qi n d a m b) d a m b
theorem qz {n : Nat} {d : Rows} {a m b : Int} {r : Rows} (h : bu n d a m b cmp = some r) : eV d a m b cmp = some r := by
 refine kR n fun k hk=>?_
 obtain ⟨j,rfl⟩ : ∃ j,k = n + j := ⟨k - n,by omega⟩
 clear hk
 induction j with
 | zero=>exact h
 | succ j ih=>exact qi (n + j) d a m b r ih
theorem mQ : ∀ (n : Nat) {d : Rows} (_ : SrtOk cmp d0 d) {a m b : Int},0 ≤ a → a < m → m < b → b ≤ d0.length → (b - a).toNat < n → ∃ d',bu n d a m b cmp = some d' ∧ SrtOk cmp d0 d'
 | 0,_,_,_,_,_,_,_,_,_,hn=>by omega
 | n + 1,d,h,a,m,b,ha,hm,hb,hb',hn=>by
  have hs := h.small
  rw [bu]
  unfold cx
  rw [bD (n := m - a) (by omega) (by omega),bD (n := b - m) (by omega) (by omega)]
  by_cases h1 : m - a = 1
  ·rw [lc h1,zc]
   refine gC (fun s=>SrtOk cmp d0 s.1 ∧ m ≤ s.2.1 ∧ s.2.1 ≤ s.2.2 ∧ s.2.2 ≤ b) (fun s=>(s.2.2 - s.2.1).toNat) (fun s=>SrtOk cmp d0 s.1 ∧ m ≤ s.2.1 ∧ s.2.1 ≤ b) ⟨h,Int.le_refl _,by show m ≤ b; omega,Int.le_refl _⟩ (fun s hI=>?_) (fun s hq=>?_)
   ·obtain ⟨g1,g2,g3,g4⟩ := hI
    by_cases hlt : s.2.1 < s.2.2
    ·rw [zt hlt,zc,mid_eq (n := s.2.1 + s.2.2) (by omega) (by omega)]
     obtain ⟨x,hx,_,hxm⟩ := g1.get (i := (s.2.1 + s.2.2) / 2) (by omega) (by omega)
     obtain ⟨y,hy,_,hym⟩ := g1.get (i := a) (by omega) (by omega)
     obtain ⟨c,hc⟩ := g1.cm hxm hym
     rw [hx,bPs,hy,bPs,hc,bPs]
     by_cases hneg : c < 0
     ·rw [zt hneg,zc,bD (by omega) (by omega)]
      exact ⟨_,rfl,⟨g1,by show m ≤ (s.2.1 + s.2.2) / 2 + 1; omega,by show (s.2.1 + s.2.2) / 2 + 1 ≤ s.2.2; omega,g4⟩,by show (s.2.2 - ((s.2.1 + s.2.2) / 2 + 1)).toNat < (s.2.2 - s.2.1).toNat; omega⟩
     ·rw [zf hneg,zd]
      exact ⟨_,rfl,⟨g1,g2,by show s.2.1 ≤ (s.2.1 + s.2.2) / 2; omega,by show (s.2.1 + s.2.2) / 2 ≤ b; omega⟩,by show ((s.2.1 + s.2.2) / 2 - s.2.1).toNat < (s.2.2 - s.2.1).toNat; omega⟩
    ·rw [zf hlt]
     exact ⟨_,rfl,g1,g2,by show s.2.1 ≤ b; omega⟩
   ·obtain ⟨g1,g2,g3⟩ := hq
    rw [bD (n := s.2.1 - 1) (by omega) (by omega)]
    refine gC (fun t=>SrtOk cmp d0 t.1 ∧ a ≤ t.2) (fun t=>(s.2.1 - t.2).toNat) (fun t=>SrtOk cmp d0 t.1) ⟨g1,Int.le_refl _⟩ (fun t hI=>?_) (fun t hq=>⟨_,rfl,hq⟩)
    obtain ⟨k1,k2⟩ := hI
    by_cases hlt : t.2 < s.2.1 - 1
    ·rw [zt hlt,zc,bD (n := t.2 + 1) (by omega) (by omega)]
     obtain ⟨d',hd',hsw⟩ := rg (β := Flow (Rows × Int) Empty) k1 (i := t.2) (j := t.2 + 1) (by omega) (by omega) (by omega) (by omega)
     exact ⟨_,hsw _,⟨hd',by show a ≤ t.2 + 1; omega⟩,by show (s.2.1 - (t.2 + 1)).toNat < (s.2.1 - t.2).toNat; omega⟩
    ·rw [zf hlt]
     exact ⟨_,rfl,k1⟩
  ·rw [dg h1,zd]
   by_cases h2 : b - m = 1
   ·rw [lc h2,zc]
    refine gC (fun s=>SrtOk cmp d0 s.1 ∧ a ≤ s.2.1 ∧ s.2.1 ≤ s.2.2 ∧ s.2.2 ≤ m) (fun s=>(s.2.2 - s.2.1).toNat) (fun s=>SrtOk cmp d0 s.1 ∧ a ≤ s.2.1 ∧ s.2.1 ≤ m) ⟨h,Int.le_refl _,by show a ≤ m; omega,Int.le_refl _⟩ (fun s hI=>?_) (fun s hq=>?_)
    ·obtain ⟨g1,g2,g3,g4⟩ := hI
     by_cases hlt : s.2.1 < s.2.2
     ·rw [zt hlt,zc,mid_eq (n := s.2.1 + s.2.2) (by omega) (by omega)]
      obtain ⟨x,hx,_,hxm⟩ := g1.get (i := m) (by omega) (by omega)
      obtain ⟨y,hy,_,hym⟩ := g1.get (i := (s.2.1 + s.2.2) / 2) (by omega) (by omega)
      obtain ⟨c,hc⟩ := g1.cm hxm hym
      rw [hx,bPs,hy,bPs,hc,bPs]
      by_cases hneg : c < 0
      ·rw [zt hneg]
       exact ⟨_,rfl,⟨g1,g2,by show s.2.1 ≤ (s.2.1 + s.2.2) / 2; omega,by show (s.2.1 + s.2.2) / 2 ≤ m; omega⟩,by show ((s.2.1 + s.2.2) / 2 - s.2.1).toNat < (s.2.2 - s.2.1).toNat; omega⟩
      ·rw [zf hneg,Bool.not_false,zc,bD (by omega) (by omega)]
       exact ⟨_,rfl,⟨g1,by show a ≤ (s.2.1 + s.2.2) / 2 + 1; omega,by show (s.2.1 + s.2.2) / 2 + 1 ≤ s.2.2; omega,g4⟩,by show (s.2.2 - ((s.2.1 + s.2.2) / 2 + 1)).toNat < (s.2.2 - s.2.1).toNat; omega⟩
     ·rw [zf hlt]
      exact ⟨_,rfl,g1,g2,by show s.2.1 ≤ m; omega⟩
    ·obtain ⟨g1,g2,g3⟩ := hq
     refine gC (fun t=>SrtOk cmp d0 t.1 ∧ a ≤ t.2 ∧ t.2 ≤ m) (fun t=>(t.2 - a).toNat) (fun t=>SrtOk cmp d0 t.1) ⟨g1,by show a ≤ m; omega,Int.le_refl _⟩ (fun t hI=>?_) (fun t hq=>⟨_,rfl,hq⟩)
     obtain ⟨k1,k2,k3⟩ := hI
     by_cases hlt : t.2 > s.2.1
     ·rw [zt hlt,zc,bD (n := t.2 - 1) (by omega) (by omega)]
      obtain ⟨d',hd',hsw⟩ := rg (β := Flow (Rows × Int) Empty) k1 (i := t.2) (j := t.2 - 1) (by omega) (by omega) (by omega) (by omega)
      exact ⟨_,hsw _,⟨hd',by show a ≤ t.2 - 1; omega,by show t.2 - 1 ≤ m; omega⟩,by show (t.2 - 1 - a).toNat < (t.2 - a).toNat; omega⟩
     ·rw [zf hlt]
      exact ⟨_,rfl,k1⟩
   ·rw [dg h2,zd]
    simp only [bQ]
    rw [mid_eq (n := a + b) (by omega) (by omega)]
    generalize hmid : (a + b) / 2 = mid
    have b1 : 2 * mid ≤ a + b ∧ a + b ≤ 2 * mid + 1 := by omega
    rw [bD (n := mid + m) (by omega) (by omega),bD (n := mid + m - b) (by omega) (by omega),bD (n := mid + m - 1) (by omega) (by omega)]
    obtain ⟨lo,hi,e1,l1,l2,l3,l4,l5,l6⟩ : ∃ lo hi : Int,(cond (decide (m > mid)) ((d,mid + m - b,mid)) ((d,a,m)) : Rows × Int × Int) = (d,lo,hi) ∧ a ≤ lo ∧ lo ≤ hi ∧ hi ≤ m ∧ mid + m - lo ≤ b ∧ m ≤ mid + m - hi ∧ hi ≤ mid := by
     by_cases hgt : m > mid
     ·exact ⟨mid + m - b,mid,by rw [zt hgt]; rfl,by omega,by omega,by omega,by omega,by omega,by omega⟩
     ·exact ⟨a,m,by rw [zf hgt]; rfl,by omega,by omega,by omega,by omega,by omega,by omega⟩
    rw [e1]
    refine gC (fun s=>SrtOk cmp d0 s.1 ∧ lo ≤ s.2.1 ∧ s.2.1 ≤ s.2.2 ∧ s.2.2 ≤ hi) (fun s=>(s.2.2 - s.2.1).toNat) (fun s=>SrtOk cmp d0 s.1 ∧ lo ≤ s.2.1 ∧ s.2.1 ≤ hi) ⟨h,Int.le_refl _,l2,Int.le_refl _⟩ (fun s hI=>?_) (fun s hq=>?_)
    ·obtain ⟨g1,g2,g3,g4⟩ := hI
     by_cases hlt : s.2.1 < s.2.2
     ·rw [zt hlt,zc,mid_eq (n := s.2.1 + s.2.2) (by omega) (by omega)]
      generalize hc : (s.2.1 + s.2.2) / 2 = c
      have c1 : s.2.1 ≤ c ∧ c < s.2.2 := by omega
      rw [bD (n := mid + m - 1 - c) (by omega) (by omega)]
      obtain ⟨x,hx,_,hxm⟩ := g1.get (i := mid + m - 1 - c) (by omega) (by omega)
      obtain ⟨y,hy,_,hym⟩ := g1.get (i := c) (by omega) (by omega)
      obtain ⟨v,hv⟩ := g1.cm hxm hym
      rw [hx,bPs,hy,bPs,hv,bPs]
      by_cases hneg : v < 0
      ·rw [zt hneg]
       exact ⟨_,rfl,⟨g1,g2,by show s.2.1 ≤ c; omega,by show c ≤ hi; omega⟩,by show (c - s.2.1).toNat < (s.2.2 - s.2.1).toNat; omega⟩
      ·rw [zf hneg,Bool.not_false,zc,bD (by omega) (by omega)]
       exact ⟨_,rfl,⟨g1,by show lo ≤ c + 1; omega,by show c + 1 ≤ s.2.2; omega,g4⟩,by show (s.2.2 - (c + 1)).toNat < (s.2.2 - s.2.1).toNat; omega⟩
     ·rw [zf hlt]
      exact ⟨_,rfl,g1,g2,by show s.2.1 ≤ hi; omega⟩
    ·obtain ⟨g1,g2,g3⟩ := hq
     rw [bD (n := mid + m - s.2.1) (by omega) (by omega)]
     -- the rotation
     obtain ⟨t,ht,hto⟩ : ∃ t,(ae (cond ((cond (decide (s.2.1 < m)) ((s.1,decide (m < mid + m - s.2.1))) ((s.1,false)) : Rows × Bool)).2
       (ae (dt ((cond (decide (s.2.1 < m)) ((s.1,decide (m < mid + m - s.2.1))) ((s.1,false)) : Rows × Bool)).1 s.2.1 m (mid + m - s.2.1) cmp) fun x191=>ae (fe (x191.length = ((cond (decide (s.2.1 < m)) ((s.1,decide (m < mid + m - s.2.1))) ((s.1,false)) : Rows × Bool)).1.length) ()) fun (_ : Unit)=>some x191)
       (some ((cond (decide (s.2.1 < m)) ((s.1,decide (m < mid + m - s.2.1))) ((s.1,false)) : Rows × Bool)).1)) some) = some t ∧ SrtOk cmp d0 t := by
      by_cases c1 : s.2.1 < m
      ·by_cases c2 : m < mid + m - s.2.1
       ·rw [zt c1,zt c2]
        simp only [zc]
        obtain ⟨d',e,hd'⟩ := rotate_ok g1 (a := s.2.1) (m := m) (b := mid + m - s.2.1) (by omega) c1 c2 (by omega)
        rw [e,bPs,ec (by rw [hd'.len,g1.len])]
        exact ⟨_,rfl,hd'⟩
       ·rw [zt c1,zf c2]
        exact ⟨_,rfl,g1⟩
      ·rw [zf c1]
       exact ⟨_,rfl,g1⟩
     have ht' := ht
     generalize hcc : (cond ((cond (decide (s.2.1 < m)) ((s.1,decide (m < mid + m - s.2.1))) ((s.1,false)) : Rows × Bool)).2 _ _ : Option Rows) = o at ht ⊢
     cases o with
     | none=>cases ht
     | some t0 =>
      simp only [bPs,zo] at ht
      subst ht
      rw [bPs]
      clear hcc ht'
      obtain ⟨u,hu,huo⟩ : ∃ u,(ae (cond ((cond (decide (a < s.2.1)) ((t0,decide (s.2.1 < mid))) ((t0,false)) : Rows × Bool)).2
        (ae (bu n ((cond (decide (a < s.2.1)) ((t0,decide (s.2.1 < mid))) ((t0,false)) : Rows × Bool)).1 a s.2.1 mid cmp) fun x205=>ae (fe (x205.length = ((cond (decide (a < s.2.1)) ((t0,decide (s.2.1 < mid))) ((t0,false)) : Rows × Bool)).1.length) ()) fun (_ : Unit)=>some x205)
        (some ((cond (decide (a < s.2.1)) ((t0,decide (s.2.1 < mid))) ((t0,false)) : Rows × Bool)).1)) some) = some u ∧ SrtOk cmp d0 u := by
       by_cases c1 : a < s.2.1
       ·by_cases c2 : s.2.1 < mid
        ·rw [zt c1,zt c2]
         simp only [zc]
         obtain ⟨d',e,hd'⟩ := mQ n hto (a := a) (m := s.2.1) (b := mid) ha c1 c2 (by omega) (by omega)
         rw [e,bPs,ec (by rw [hd'.len,hto.len])]
         exact ⟨_,rfl,hd'⟩
        ·rw [zt c1,zf c2]
         exact ⟨_,rfl,hto⟩
       ·rw [zf c1]
        exact ⟨_,rfl,hto⟩
      generalize hcc : (cond ((cond (decide (a < s.2.1)) ((t0,decide (s.2.1 < mid))) ((t0,false)) : Rows × Bool)).2 _ _ : Option Rows) = o at hu ⊢
      cases o with
      | none=>cases hu
      | some u0 =>
       simp only [bPs,zo] at hu
       subst hu
       rw [bPs]
       by_cases c1 : mid < mid + m - s.2.1
       ·rw [zt c1,zc]
        by_cases c2 : mid + m - s.2.1 < b
        ·rw [zt c2,zc]
         obtain ⟨d',e,hd'⟩ := mQ n huo (a := mid) (m := mid + m - s.2.1) (b := b) (by omega) c1 c2 hb' (by omega)
         rw [e,bPs,ec (by rw [hd'.len,huo.len])]
         exact ⟨_,rfl,hd'⟩
        ·rw [zf c2]
         exact ⟨_,rfl,huo⟩
       ·rw [zf c1]
        exact ⟨_,rfl,huo⟩
theorem stable_ok {d : Rows} (h : SrtOk cmp d0 d) : ∃ d',dX d (d0.length : Int) cmp = some d' ∧ SrtOk cmp d0 d' := by
 have hs := h.small
 unfold dX
 refine gC (fun s=>SrtOk cmp d0 s.1 ∧ 0 ≤ s.2.1 ∧ s.2.1 ≤ s.2.2 ∧ s.2.2 ≤ s.2.1 + 20 ∧ s.2.1 ≤ d0.length) (fun s=>(d0.length + 20 - s.2.2).toNat) (fun s=>SrtOk cmp d0 s.1 ∧ 0 ≤ s.2.1 ∧ s.2.1 ≤ d0.length) ⟨h,by show (0 : Int) ≤ 0; omega,by show (0 : Int) ≤ 20; omega,by show (20 : Int) ≤ 0 + 20; omega,by show (0 : Int) ≤ d0.length; omega⟩ (fun s hI=>?_) (fun s hq=>?_)
 ·obtain ⟨g1,g2,g3,g4,g5⟩ := hI
  by_cases hle : s.2.2 ≤ (d0.length : Int)
  ·rw [zt hle,zc]
   obtain ⟨d',e,hd'⟩ := qL g1 (a := s.2.1) (b := s.2.2) ⟨g2,by omega⟩ hle
   rw [e,bPs,ec (by rw [hd'.len,g1.len]),bPs,bD (by omega) (by omega)]
   exact ⟨_,rfl,⟨hd',by show 0 ≤ s.2.2; omega,by show s.2.2 ≤ s.2.2 + 20; omega,by show s.2.2 + 20 ≤ s.2.2 + 20; omega,hle⟩,by show ((d0.length : Int) + 20 - (s.2.2 + 20)).toNat < ((d0.length : Int) + 20 - s.2.2).toNat; omega⟩
  ·rw [zf hle]
   exact ⟨_,rfl,g1,g2,g5⟩
 ·obtain ⟨g1,g2,g3⟩ := hq
  obtain ⟨d',e,hd'⟩ := qL g1 (a := s.2.1) (b := (d0.length : Int)) ⟨g2,by omega⟩ (Int.le_refl _)
  rw [e,bPs,ec (by rw [hd'.len,g1.len]),bPs]
  clear e g1 g2 g3 s h
  refine gC (fun s=>SrtOk cmp d0 s.1 ∧ 20 ≤ s.2) (fun s=>(d0.length - s.2).toNat) (fun s=>SrtOk cmp d0 s.1) ⟨hd',by show (20 : Int) ≤ 20; omega⟩ (fun s hI=>?_) (fun s hq=>⟨_,rfl,hq⟩)
  obtain ⟨g1,g2⟩ := hI
  by_cases hlt : s.2 < (d0.length : Int)
  ·rw [zt hlt,zc,bD (n := 2 * s.2) (by omega) (by omega)]
   refine gC (fun t=>SrtOk cmp d0 t.1 ∧ 0 ≤ t.2.1 ∧ t.2.2 = t.2.1 + 2 * s.2 ∧ t.2.1 ≤ d0.length) (fun t=>(d0.length + 2 * s.2 - t.2.2).toNat) (fun t=>SrtOk cmp d0 t.1 ∧ 0 ≤ t.2.1 ∧ t.2.1 ≤ d0.length) ⟨g1,by show (0 : Int) ≤ 0; omega,by show 2 * s.2 = 0 + 2 * s.2; omega,by show (0 : Int) ≤ d0.length; omega⟩ (fun t hI=>?_) (fun t hq=>?_)
   ·obtain ⟨k1,k2,k3,k4⟩ := hI
    by_cases hle : t.2.2 ≤ (d0.length : Int)
    ·rw [zt hle,zc,bD (n := t.2.1 + s.2) (by omega) (by omega)]
     obtain ⟨d'',e,hd''⟩ := mQ ((t.2.2 - t.2.1).toNat + 1) k1 (a := t.2.1) (m := t.2.1 + s.2) (b := t.2.2) k2 (by omega) (by omega) hle (by omega)
     rw [qz e,bPs,ec (by rw [hd''.len,k1.len]),bPs,bD (by omega) (by omega)]
     exact ⟨_,rfl,⟨hd'',by show 0 ≤ t.2.2; omega,by show t.2.2 + 2 * s.2 = t.2.2 + 2 * s.2; omega,hle⟩,by show ((d0.length : Int) + 2 * s.2 - (t.2.2 + 2 * s.2)).toNat < ((d0.length : Int) + 2 * s.2 - t.2.2).toNat; omega⟩
    ·rw [zf hle]
     exact ⟨_,rfl,k1,k2,k4⟩
   ·obtain ⟨k1,k2,k3⟩ := hq
    rw [bD (n := t.2.1 + s.2) (by omega) (by omega),bD (n := s.2 * 2) (by omega) (by omega)]
    by_cases hm : t.2.1 + s.2 < (d0.length : Int)
    ·rw [zt hm,zc]
     obtain ⟨d'',e,hd''⟩ := mQ ((d0.length - t.2.1).toNat + 1) k1 (a := t.2.1) (m := t.2.1 + s.2) (b := (d0.length : Int)) k2 (by omega) (by omega) (Int.le_refl _) (by omega)
     rw [qz e,bPs,ec (by rw [hd''.len,k1.len]),bPs]
     exact ⟨_,rfl,⟨hd'',by show 20 ≤ s.2 * 2; omega⟩,by show ((d0.length : Int) - s.2 * 2).toNat < ((d0.length : Int) - s.2).toNat; omega⟩
    ·rw [zf hm,zd]
     exact ⟨_,rfl,⟨k1,by show 20 ≤ s.2 * 2; omega⟩,by show ((d0.length : Int) - s.2 * 2).toNat < ((d0.length : Int) - s.2).toNat; omega⟩
  ·rw [zf hlt]
   exact ⟨_,rfl,g1⟩
theorem sortStable_ok {d : Rows} (hs : d.length ≤ 1000000) (ht : ∀ x ∈ d,∀ y ∈ d,Tot (cmp x y)) : ∃ d',cO d cmp = some d' ∧ d'.Perm d := by
 unfold cO
 obtain ⟨d',e,hd'⟩ := stable_ok (cmp := cmp) (d0 := d) (d := d) ⟨List.Perm.refl _,hs,ht⟩
 rw [e,bPs,ec hd'.len,bPs]
 exact ⟨d',rfl,hd'.perm⟩
end
theorem pA (r : LRun) (cols : List LCol) (x : Rq) (l : List LExpr) (hl : l.length ≤ 10000000) : dy r cols x l = some (l.map fun e=>cM (bw r cols x) e) := by
 unfold dy
 rw [io (xs := l) (fun e=>cM (bw r cols x) e) (fun k e hk=>by
  have := (zg.1 hk).1
  rw [bQ,bQ,bN (by decide) (by simp; omega),bPs])]
 rfl
theorem compare_tot (a b : Rq) (ds : List Bool) : Tot (ie a b ds) := by
 unfold ie
 refine Tot.bind (Tot.range _ _ _ fun k x s hk=>?_) fun fl _=>Tot.thenR fun _ _=>Tot.mk
 rw [Nat.zero_add]
 by_cases h1 : (k : Int) ≥ (b.length : Int)
 ·rw [zt h1]; exact Tot.mk
 ·rw [zf h1,zd,gU (by omega)]
  simp only [bPs,bQ]
  refine Tot.cond (fun _=>Tot.mk) fun _=>?_
  refine Tot.cond (fun h=>?_) fun _=>Tot.cond (fun _=>Tot.mk) fun _=>Tot.mk
  have h := of_decide_eq_true h
  rw [gU (by omega),bPs]
  exact Tot.cond (fun _=>Tot.cond (fun _=>Tot.mk) fun _=>Tot.mk) fun _=>Tot.cond (fun _=>Tot.mk) fun _=>Tot.mk
theorem sort_ok (r : LRun) (q : LQuery) (cols : List LCol) (l : Rows) (hs : l.length ≤ 1000000) (he : q.exprs.length ≤ 1000000) : ∃ l',fE r q cols l = some l' ∧ l'.Perm l := by
 unfold fE
 obtain ⟨l',e,hp⟩ := sortStable_ok (cmp := fun a0 a1=>fI a0 a1 r cols q) hs (fun x _ y _=>by
  show Tot (fI x y r cols q)
  unfold fI
  rw [pA r cols x q.exprs (by omega),pA r cols y q.exprs (by omega),bPs,bPs]
  exact Tot.bind (compare_tot _ _ _) fun _ _=>Tot.mk)
 rw [e,bPs,ec hp.length_eq,bPs]
 exact ⟨l',rfl,hp⟩
end
end Go.Proofs.YtioonpnnfepffaaGreat
