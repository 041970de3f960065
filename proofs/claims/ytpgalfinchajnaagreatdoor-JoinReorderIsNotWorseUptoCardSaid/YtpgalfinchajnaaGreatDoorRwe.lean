/- joinReorderIsNotWorseUpto_holds, part 5: the layer, the plain functions and what they compute; conditions as in the statement. -/
import Derived.Test.YtpgalfinchajnaaGreatDoorRwd
set_option maxHeartbeats 4000000
namespace Go.Proofs.YtpgalfinchajnaaGreatDoor
noncomputable section
open Go Go.Ab
attribute [local irreducible] V Ao Do Gh Eff PH IntKind.wrap
set_option maxRecDepth 4000
def gc (sA : LSchema) : Option (Int) :=
 bL (
  cond (decide ((sA.tables.length : Int) > (6 : Int)))
   (true)
   (cond (decide ((sA.foreignKeys.length : Int) > (8 : Int)))
    (true)
    ((decide ((sA.constraints.length : Int) > (8 : Int)))))) fun (t1 : Bool) =>
 cond t1
  (some 2)
  (af (aC (σ := Unit) (ρ := (Int)) (fun (j2 : Nat) (x2 : LTable) (_ : Unit) =>
   af (dJ x2) fun x37 =>
   cond (x37 != (0 : Int))
    (some (.ret x37))
    (cond (decide ((j2 : Int) > (0 : Int)))
     (af (aH sA.tables (IntKind.i64.wrap ((j2 : Int) - (1 : Int)))) fun (x50 : LTable) =>
     cond (Op.bytesLess x2.name x50.name || x2.name == x50.name)
      (some (.ret 6))
      (some (.next ())))
     (some (.next ())))) 0 sA.tables ()) fun fl2=>fl2.thenR fun (_ : Unit) =>
  af (aC (σ := Unit) (ρ := (Int)) (fun (j3 : Nat) (x3 : LForeignKey) (_ : Unit) =>
   af (dw sA x3) fun x66 =>
   cond (x66 != (0 : Int))
    (some (.ret x66))
    (af (subI sA.foreignKeys 0 (j3 : Int)) fun (x73 : List LForeignKey) =>
    af (bD x73 (fun a0=>en a0 x3)) fun x75 =>
    cond x75
     (some (.ret 5))
     (some (.next ())))) 0 sA.foreignKeys ()) fun fl3=>fl3.thenR fun (_ : Unit) =>
  af (aC (σ := Unit) (ρ := (Int)) (fun (j4 : Nat) (x4 : LConstraint) (_ : Unit) =>
   af (dv sA x4) fun x87 =>
   cond (x87 != (0 : Int))
    (some (.ret x87))
    (af (subI sA.constraints 0 (j4 : Int)) fun (x94 : List LConstraint) =>
    af (bH x94 x4) fun x96 =>
    cond x96
     (some (.ret 5))
     (some (.next ())))) 0 sA.constraints ()) fun fl4=>fl4.thenR fun (_ : Unit) =>
  some 0)
theorem qo (sA : LSchema) (r : Int) (H : gc sA = some r) :
  aJ Tryz.prog 17 [(.agg (bs sA))] (ah r) := by
 unfold gc at H
 refine PH.ap Tryz.func17 Tryz.ntmps17 ?_
 refine ab (aa (aB ?_))
 refine ag tk rfl (ac (ab (ab ?_)))
 refine eF (γ := Unit) (fun t1 g1=>⟨98,upd (upd (fun _=>.any) 27 (ay t1)) 1 (.ptr (bs sA)),fun _=>none,fun _=>none⟩) H (fun _ H=>?_) (fun t1 g1 H=>?_)
 ·refine aa (ae 2 tk rfl (ax tk (zl _) ?_))
  refine ae 2 tk rfl ?_
  refine aR rfl rfl rfl H (fun H=>?_) (fun H=>?_)
  ·refine ae 11 tk rfl (ac ?_)
   refine aS _ () H Gh.d
  refine ae 2 tk rfl (ax tk (zl _) ?_)
  refine ae 3 tk rfl ?_
  refine aR rfl rfl rfl H (fun H=>?_) (fun H=>?_)
  ·refine ae 5 tk rfl (ac ?_)
   refine aS _ () H Gh.d
  refine ae 2 tk rfl (ax tk (zl _) ?_)
  refine ae 2 tk rfl (ac ?_)
  refine aS _ () H Gh.d
 refine aK rfl H (fun H=>?_) (fun H=>?_)
 ·refine al 1 tk rfl ?_
  exact aV tk H rfl
 refine ao (ab (ab (aa (ae 2 tk rfl (ax tk (zl _) ?_)))))
 refine ag tk rfl (ac ?_)
 refine dY tk 31 30 29 (fun s2 g2=>upd (fun _=>.any) 1 (.ptr (bs sA))) nB nO () H (fun fl2 Hp2 j2 s2 g2 hz2 hl2 x2 fb2 hx2 H hg2=>?_) (fun s2 g2 H=>?_)
 ·refine ab (az (ab (aa (ag tk rfl ?_))))
  refine aN tk (zn j2) (bd (fun _=>rfl) hx2) ?_
  refine ag tk rfl ?_
  refine aM tk fun b4=>?_
  refine ag tk rfl (am tk ?_)
  refine ac (ab (ab (aa (aq tk ?_))))
  obtain ⟨x37,h37,H⟩ := av H
  have s37 := nz x2 _ h37
  refine ak Tryz.call42 (fG.r) s37 ?_
  refine ag tk rfl (ac (al 2 tk rfl ?_))
  refine aK rfl H (fun H=>?_) (fun H=>?_)
  ·refine al 2 tk rfl ?_
   obtain rfl := aD H
   have e2 : fl2 = .ret _ := hg2
   subst e2
   obtain rfl := aU Hp2
   refine bc tk rfl (ps := [(ah x37)]) ⟨_,_,rfl,rfl,rfl⟩ (PLe.q rfl)
  refine ao (ab (bn tk mok ⟨true,false,[47,52]⟩ [0,1,2,3,4,5,6,7,8,9,10,11,12,13] rfl (by decide +kernel) rfl (aL 3 rfl ?_)))
  refine lJ H (fun H=>?_) (fun H=>?_)
  ·refine bt rfl (bI ?_)
   refine aL 4 rfl ?_
   obtain ⟨x50,k50,H⟩ := bg H
   refine aZ k50.1 (aF (fun _=>rfl) k50.2) ?_
   refine aL 4 rfl (bf ?_)
   refine aK rfl H (fun H=>?_) (fun H=>?_)
   ·refine al 1 tk rfl ?_
    obtain rfl := aD H
    have e2 : fl2 = .ret _ := hg2
    subst e2
    obtain rfl := aU Hp2
    refine bc tk rfl (ps := [(ah 6)]) ⟨_,_,rfl,rfl,rfl⟩ (PLe.q rfl)
   refine ao (aP (bl 2 tk rfl ?_))
   exact bi () H hl2 hg2
  refine aL 11 rfl (bf (dl rfl (ao (aP (bl 2 tk rfl ?_)))))
  exact bi () H hl2 hg2
 refine ab (ab (aa (ae 2 tk rfl (ax tk (zl _) ?_))))
 refine ag tk rfl (ac ?_)
 refine dY tk 59 58 57 (fun s3 g3=>upd (fun _=>.any) 1 (.ptr (bs sA))) nB nO () H (fun fl3 Hp3 j3 s3 g3 hz3 hl3 x3 fb3 hx3 H hg3=>?_) (fun s3 g3 H=>?_)
 ·refine ab (az (ab (aa (ag tk rfl ?_))))
  refine aN tk (zn j3) (bd (fun _=>rfl) hx3) ?_
  refine ag tk rfl ?_
  refine aM tk fun b7=>?_
  refine ag tk rfl (am tk ?_)
  refine ac (ab (ab (aa (ag tk rfl (aq tk ?_)))))
  obtain ⟨x66,h66,H⟩ := av H
  have s66 := lN sA x3 _ h66
  refine ak Tryz.call43 (fG.r) s66 ?_
  refine ag tk rfl (ac (al 2 tk rfl ?_))
  refine aK rfl H (fun H=>?_) (fun H=>?_)
  ·refine al 2 tk rfl ?_
   obtain rfl := aD H
   have e3 : fl3 = .ret _ := hg3
   subst e3
   obtain rfl := aU Hp3
   refine bc tk rfl (ps := [(ah x66)]) ⟨_,_,rfl,rfl,rfl⟩ (PLe.q rfl)
  refine ao (ab (aa (ae 3 tk rfl ?_)))
  obtain ⟨x73,h73,H⟩ := av H
  have k73 := pK h73
  refine rj tk rfl rfl rfl rfl rfl (zl _) rfl rfl k73.1 (rowsSubE k73.2) rfl (gL (Gh.freezeB 7 rfl rfl rfl rfl) (ag tk rfl ?_))
  obtain ⟨x75,h75,H⟩ := av H
  have s75 := fY x73 (fun a0=>en a0 x3) Tryz.call45 (fun a0 r h=>po a0 x3 r h) _ h75
  refine ak Tryz.call44 (fG.r) s75 ?_
  refine ac ?_
  refine aK rfl H (fun H=>?_) (fun H=>?_)
  ·refine al 1 tk rfl ?_
   obtain rfl := aD H
   have e3 : fl3 = .ret _ := hg3
   subst e3
   obtain rfl := aU Hp3
   refine bc tk rfl (ps := [(ah 5)]) ⟨_,_,rfl,rfl,rfl⟩ (PLe.q rfl)
  refine ao (aP (bl 2 tk rfl ?_))
  exact bi () H hl3 hg3
 refine ab (ab (aa (ae 2 tk rfl (ax tk (zl _) ?_))))
 refine ag tk rfl (ac ?_)
 refine dY tk 80 79 78 (fun s4 g4=>upd (fun _=>.any) 1 (.ptr (bs sA))) nB nO () H (fun fl4 Hp4 j4 s4 g4 hz4 hl4 x4 fb4 hx4 H hg4=>?_) (fun s4 g4 H=>?_)
 ·refine ab (az (ab (aa (ag tk rfl ?_))))
  refine aN tk (zn j4) (bd (fun _=>rfl) hx4) ?_
  refine ag tk rfl ?_
  refine aM tk fun b10=>?_
  refine ag tk rfl (am tk ?_)
  refine ac (ab (ab (aa (ag tk rfl (aq tk ?_)))))
  obtain ⟨x87,h87,H⟩ := av H
  have s87 := lG sA x4 _ h87
  refine ak Tryz.call47 (fG.r) s87 ?_
  refine ag tk rfl (ac (al 2 tk rfl ?_))
  refine aK rfl H (fun H=>?_) (fun H=>?_)
  ·refine al 2 tk rfl ?_
   obtain rfl := aD H
   have e4 : fl4 = .ret _ := hg4
   subst e4
   obtain rfl := aU Hp4
   refine bc tk rfl (ps := [(ah x87)]) ⟨_,_,rfl,rfl,rfl⟩ (PLe.q rfl)
  refine ao (ab (bn tk mok ⟨true,false,[92]⟩ [0,1,2,3,4,5] rfl (by decide +kernel) rfl (aL 3 rfl ?_)))
  obtain ⟨x94,h94,H⟩ := av H
  have k94 := pK h94
  refine Do.subL rfl rfl rfl rfl rfl rfl (zl _) rfl rfl k94.1 (rowsSubE k94.2) rfl (bI ?_)
  obtain ⟨x96,h96,H⟩ := av H
  have s96 := gJ x94 x4 _ h96
  refine bq Tryz.call48 (fG.r) s96 ?_
  refine bf ?_
  refine aK rfl H (fun H=>?_) (fun H=>?_)
  ·refine al 1 tk rfl ?_
   obtain rfl := aD H
   have e4 : fl4 = .ret _ := hg4
   subst e4
   obtain rfl := aU Hp4
   refine bc tk rfl (ps := [(ah 5)]) ⟨_,_,rfl,rfl,rfl⟩ (PLe.q rfl)
  refine ao (aP (bl 2 tk rfl ?_))
  exact bi () H hl4 hg4
 refine al 1 tk rfl ?_
 exact aV tk H rfl
def fF (c : LChecker) (q : LQuery) (inA : List (List LCol)) : Option ((List LCol) × Int) :=
 cond (q.kind == (1 : Int))
  (af (cd c.s.tables (fun a0=>some (dg a0 q))) fun x25 =>
  cond (decide (x25 < (0 : Int)))
   (some ([],4))
   (af (aH c.s.tables x25) fun (x32 : LTable) =>
   some (x32.columns,0)))
  (cond (q.kind == (2 : Int))
   (af (aH inA 0) fun (x39 : List LCol) =>
   af (aH inA 0) fun (x43 : List LCol) =>
   af (aH q.exprs 0) fun (x47 : LExpr) =>
   bL (cz c x43 x47) fun x49 =>
   some (x39,x49))
   (bL (
    cond (q.kind == (4 : Int))
     ((q.kind == (4 : Int)))
     ((q.kind == (5 : Int)))) fun (t1 : Bool) =>
   cond t1
    (af (aH inA 0) fun (x54 : List LCol) =>
    af (aH inA 1) fun (x58 : List LCol) =>
    af (aC (σ := List LCol) (ρ := Empty) (fun (_ : Nat) (x2 : LCol) (s2 : List LCol) =>
     cond x2.nullable
      (af (cJ 32 s2 ([(LCol.mk x2.name x2.kind true)] : List LCol)) fun (x76 : List LCol) =>
      some (.next x76))
      (af (cJ 32 s2 ([(LCol.mk x2.name x2.kind (q.kind == (5 : Int)))] : List LCol)) fun (x76 : List LCol) =>
      some (.next x76))) 0 x58 x54) fun fl2=>fl2.thenP fun (s2 : List LCol) =>
    af (aH q.exprs 0) fun (x83 : LExpr) =>
    bL (cz c s2 x83) fun x85 =>
    some (s2,x85))
    (bL (
     cond (q.kind == (6 : Int))
      ((q.kind == (6 : Int)))
      ((q.kind == (7 : Int)))) fun (t3 : Bool) =>
    cond t3
     (af (aH inA 0) fun (x92 : List LCol) =>
     af (aH inA 1) fun (x95 : List LCol) =>
     af (fR q.kind x92 x95) fun x97 =>
     some (x97.1,x97.2))
     (bL (
      cond (q.kind == (3 : Int))
       ((q.kind == (3 : Int)))
       ((q.kind == (8 : Int)))) fun (t4 : Bool) =>
     cond t4
      (af (aH inA 0) fun (x106 : List LCol) =>
      af (dh c q x106) fun x108 =>
      some (x108.1,x108.2))
      (cond (q.kind == (9 : Int))
       (af (aC (σ := Unit) (ρ := ((List LCol) × Int)) (fun (_ : Nat) (x5 : LExpr) (_ : Unit) =>
        af (aH inA 0) fun (x122 : List LCol) =>
        bL (el x122 c.vars x5) fun x127 =>
        cond (x127.2.2 != (0 : Int))
         (some (.ret ([],x127.2.2)))
         (some (.next ()))) 0 q.exprs ()) fun fl5=>fl5.thenR fun (_ : Unit) =>
       af (aH inA 0) fun (x136 : List LCol) =>
       some (x136,0))
       (af (aH inA 0) fun (x136 : List LCol) =>
       some (x136,0)))))))
theorem pp (c : LChecker) (q : LQuery) (inA : List (List LCol)) (r : (List LCol) × Int) (H : fF c q inA = some r) :
  aJ Tryz.prog 132 [(.agg (cM c)),(.agg (aw q)),(.list 59 (inA.map (fg 58 aT)))] (.tup [(.list 58 (r.1.map aT)),(ah r.2)]) := by
 unfold fF at H
 refine PH.ap Tryz.func132 Tryz.ntmps132 ?_
 refine ab (aa (aB ?_))
 refine aB ?_
 refine ae 2 tk rfl (ac (ab (al 2 tk rfl (az (al 2 tk rfl ?_)))))
 refine aK rfl H (fun H=>?_) (fun H=>?_)
 ·refine ab (aa (ae 4 tk rfl ?_))
  obtain ⟨x25,h25,H⟩ := av H
  have s25 := ft c.s.tables (fun a0=>some (dg a0 q)) Tryz.call165 (fun a0 r h=>(aD h) ▸ og a0 q) _ h25
  refine ak Tryz.call126 (fG.r) s25 ?_
  refine ag tk rfl (ac (ab (al 2 tk rfl ?_)))
  refine aK rfl H (fun H=>?_) (fun H=>?_)
  ·refine al 2 tk rfl ?_
   obtain rfl := aD H
   refine bc tk rfl (ps := [(.val (.slice none 0 0)),(ah 4)]) ⟨_,_,rfl,rfl,_,_,rfl,rfl,rfl⟩ (PLe.of2 (lT.tup (fH.cons (lT.nil tk rfl) (fH.cons (lT.of_eq rfl) fH.nil))))
  refine ao (ab (aa (ae 4 tk rfl ?_)))
  obtain ⟨x32,k32,H⟩ := bg H
  refine aN tk k32.1 (aF (fun _=>rfl) k32.2) ?_
  refine ae 2 tk rfl ?_
  have s35 := pu (m := 35) x32.columns
  refine ak Tryz.call150 (fG.r) (PFun.gn s35) ?_
  refine ae 2 tk rfl (ac ?_)
  exact aV tk H rfl
 refine al 2 tk rfl ?_
 refine aK rfl H (fun H=>?_) (fun H=>?_)
 ·refine ab (bn tk mok ⟨false,false,[]⟩ [0,1,2,3,4,5,6,7,8,9,10,11,12,13] rfl (by decide +kernel) rfl (bt rfl ?_))
  obtain ⟨x39,k39,H⟩ := bg H
  refine aZ k39.1 (aF (fun _=>rfl) k39.2) ?_
  refine aL 3 rfl ?_
  obtain ⟨x43,k43,H⟩ := bg H
  refine aZ k43.1 (aF (fun _=>rfl) k43.2) ?_
  refine aL 3 rfl ?_
  obtain ⟨x47,k47,H⟩ := bg H
  refine aZ k47.1 (aF bj k47.2) ?_
  refine bt rfl ?_
  obtain ⟨x49,h49,H⟩ := ef H
  have s49 := jc c x43 x47
  rw [h49] at s49
  refine bq Tryz.call166 (fG.r) s49 ?_
  refine aL 2 rfl (bf ?_)
  exact aV tk H rfl
 refine ab (al 2 tk rfl ?_)
 refine eF (γ := Unit) (fun t1 g1=>⟨138,upd (upd (upd (upd (upd (fun _=>.any) 50 (ay t1)) 18 (ah q.kind)) 4 (.ptr (aw q))) 3 (.ptr (cM c))) 2 (.list 59 (inA.map (fg 58 aT))),fun _=>none,fun _=>none⟩) H (fun _ H=>?_) (fun t1 g1 H=>?_)
 ·refine aK rfl H (fun H=>?_) (fun H=>?_)
  ·refine ao ?_
   refine aS _ () H Gh.d
  refine bl 2 tk rfl ?_
  refine aS _ () H Gh.d
 refine aK rfl H (fun H=>?_) (fun H=>?_)
 ·refine ab (aa (ag tk rfl ?_))
  obtain ⟨x54,k54,H⟩ := bg H
  refine aN tk k54.1 (aF (fun _=>rfl) k54.2) ?_
  refine ag tk rfl ?_
  have s56 := pu (m := 56) x54
  refine qI (g := 150) rfl rfl rfl Tryz.call150 (fG.r) rfl rfl s56 (fun g56=>?_)
  refine ag tk rfl (ac (ab (ab (aa (ag tk rfl ?_)))))
  obtain ⟨x58,k58,H⟩ := bg H
  refine aN tk k58.1 (aF (fun _=>rfl) k58.2) ?_
  refine ag tk rfl (ax tk (zl _) ?_)
  refine ag tk rfl (ac ?_)
  refine ek (γ := OwnRef) tk 61 60 59 (fun s2 g2=>upd (upd (upd (fun _=>.any) 9 (.own 56 g2 (s2.map aT).length)) 4 (.ptr (aw q))) 3 (.ptr (cM c))) nB (fun s2 g2=>upd (fun _=>none) 56 (some ⟨g2,58,(s2.map aT),true⟩)) g56 H (fun fl2 Hp2 j2 s2 g2 hz2 hl2 x2 fb2 hx2 H hg2=>?_) (fun s2 g2 H=>?_)
  ·refine ab (az (ab (aa ?_)))
   refine aN tk (zn j2) (bd (fun _=>rfl) hx2) ?_
   refine ag tk rfl ?_
   refine aM tk fun b11=>?_
   refine am tk ?_
   refine ac (ab (aa (ag tk rfl (aq tk ?_))))
   refine ag tk rfl ?_
   refine aR rfl rfl rfl H (fun H=>?_) (fun H=>?_)
   ·refine ae 5 tk rfl (am tk ?_)
    refine ac (aa (ag tk rfl (aq tk ?_)))
    refine de tk (rows' := List.map aT ([(LCol.mk x2.name x2.kind true)] : List LCol)) (dS.refl _) ?_
    obtain ⟨x76,h76,H⟩ := av H
    have k76 := ci h76
    refine cy (rows2' := List.map aT ([(LCol.mk x2.name x2.kind true)] : List LCol)) (rows' := List.map aT x76) tk rfl rfl rfl rfl rfl rfl rfl rfl rfl rfl rfl rfl rfl (dS.refl _) (cW k76.1) (cX k76.2.1) (cY k76.2.2) fun g76=>?_
    refine ag tk rfl (ac (aP (bl 2 tk rfl ?_)))
    exact bi g76 H hl2 hg2
   refine ae 5 tk rfl (am tk ?_)
   refine ac (aa (ag tk rfl (aq tk ?_)))
   refine de tk (rows' := List.map aT ([(LCol.mk x2.name x2.kind (q.kind == (5 : Int)))] : List LCol)) (dS.refl _) ?_
   obtain ⟨x76,h76,H⟩ := av H
   have k76 := ci h76
   refine cy (rows2' := List.map aT ([(LCol.mk x2.name x2.kind (q.kind == (5 : Int)))] : List LCol)) (rows' := List.map aT x76) tk rfl rfl rfl rfl rfl rfl rfl rfl rfl rfl rfl rfl rfl (dS.refl _) (cW k76.1) (cX k76.2.1) (cY k76.2.2) fun g76=>?_
   refine ag tk rfl (ac (aP (bl 2 tk rfl ?_)))
   exact bi g76 H hl2 hg2
  refine ab (cQ 9 rfl rfl rfl (bn tk mok ⟨false,false,[]⟩ [0,1,2,3,4,5,6,7,8,9] rfl (by decide +kernel) rfl (aL 5 rfl ?_)))
  obtain ⟨x83,k83,H⟩ := bg H
  refine aZ k83.1 (aF bj k83.2) ?_
  refine bt rfl ?_
  obtain ⟨x85,h85,H⟩ := ef H
  have s85 := jc c s2 x83
  rw [h85] at s85
  refine bq Tryz.call166 (fG.r) s85 ?_
  refine aL 2 rfl (bf ?_)
  exact aV tk H rfl
 refine ab (al 2 tk rfl ?_)
 refine eF (γ := Unit) (fun t3 g3=>⟨138,upd (upd (upd (upd (upd (fun _=>.any) 86 (ay t3)) 18 (ah q.kind)) 4 (.ptr (aw q))) 3 (.ptr (cM c))) 2 (.list 59 (inA.map (fg 58 aT))),fun _=>none,fun _=>none⟩) H (fun _ H=>?_) (fun t3 g3 H=>?_)
 ·refine aK rfl H (fun H=>?_) (fun H=>?_)
  ·refine ao ?_
   refine aS _ () H Gh.d
  refine bl 2 tk rfl ?_
  refine aS _ () H Gh.d
 refine aK rfl H (fun H=>?_) (fun H=>?_)
 ·refine ab (bn tk mok ⟨false,false,[]⟩ [0,1,2,3,4,5,6,7,8,9,10,11,12] rfl (by decide +kernel) rfl (aL 3 rfl ?_))
  obtain ⟨x92,k92,H⟩ := bg H
  refine aZ k92.1 (aF (fun _=>rfl) k92.2) ?_
  refine aL 2 rfl ?_
  obtain ⟨x95,k95,H⟩ := bg H
  refine aZ k95.1 (aF (fun _=>rfl) k95.2) ?_
  refine bt rfl ?_
  obtain ⟨x97,h97,H⟩ := av H
  have s97 := pH q.kind x92 x95 _ h97
  refine bq Tryz.call167 (fG.r) s97 ?_
  refine aL 4 rfl (bf ?_)
  exact aV tk H rfl
 refine ab (al 2 tk rfl ?_)
 refine eF (γ := Unit) (fun t4 g4=>⟨138,upd (upd (upd (upd (upd (fun _=>.any) 100 (ay t4)) 18 (ah q.kind)) 4 (.ptr (aw q))) 3 (.ptr (cM c))) 2 (.list 59 (inA.map (fg 58 aT))),fun _=>none,fun _=>none⟩) H (fun _ H=>?_) (fun t4 g4 H=>?_)
 ·refine aK rfl H (fun H=>?_) (fun H=>?_)
  ·refine ao ?_
   refine aS _ () H Gh.d
  refine bl 2 tk rfl ?_
  refine aS _ () H Gh.d
 refine aK rfl H (fun H=>?_) (fun H=>?_)
 ·refine ab (bn tk mok ⟨false,false,[]⟩ [0,1,2,3,4,5,6,7,8,9] rfl (by decide +kernel) rfl (aL 3 rfl ?_))
  obtain ⟨x106,k106,H⟩ := bg H
  refine aZ k106.1 (aF (fun _=>rfl) k106.2) ?_
  refine bt rfl ?_
  obtain ⟨x108,h108,H⟩ := av H
  have s108 := kV c q x106 _ h108
  refine bq Tryz.call168 (fG.r) s108 ?_
  refine aL 4 rfl (bf ?_)
  exact aV tk H rfl
 refine al 2 tk rfl ?_
 refine aK rfl H (fun H=>?_) (fun H=>?_)
 ·refine ab (aa (ae 2 tk rfl (ax tk (zl _) ?_)))
  refine ag tk rfl (ac ?_)
  refine dY tk 116 115 114 (fun s5 g5=>upd (upd (fun _=>.any) 3 (.ptr (cM c))) 2 (.list 59 (inA.map (fg 58 aT)))) nB nO () H (fun fl5 Hp5 j5 s5 g5 hz5 hl5 x5 fb5 hx5 H hg5=>?_) (fun s5 g5 H=>?_)
  ·refine ab (az (ab (aa (aN tk (zn j5) (bd bj hx5) ?_))))
   refine ag tk rfl ?_
   refine aM tk fun b13=>?_
   refine am tk ?_
   refine ac (ab (bn tk mok ⟨true,false,[123,125]⟩ [0,1,2,3,4,5,6,7,8,9,10,11,12,13] rfl (by decide +kernel) rfl (bt rfl ?_)))
   obtain ⟨x122,k122,H⟩ := bg H
   refine aZ k122.1 (aF (fun _=>rfl) k122.2) ?_
   refine aL 3 rfl (bI ?_)
   obtain ⟨x127,h127,H⟩ := ef H
   have s127 := lA x122 c.vars x5
   rw [h127] at s127
   refine bq Tryz.call169 (fG.r) s127 ?_
   refine aL 7 rfl (bf (al 2 tk rfl ?_))
   refine aK rfl H (fun H=>?_) (fun H=>?_)
   ·refine al 3 tk rfl ?_
    obtain rfl := aD H
    have e5 : fl5 = .ret _ := hg5
    subst e5
    obtain rfl := aU Hp5
    refine bc tk rfl (ps := [(.val (.slice none 0 0)),(ah x127.2.2)]) ⟨_,_,rfl,rfl,_,_,rfl,rfl,rfl⟩ (PLe.of2 (lT.tup (fH.cons (lT.nil tk rfl) (fH.cons (lT.of_eq rfl) fH.nil))))
   refine ao (aP (bl 2 tk rfl ?_))
   exact bi () H hl5 hg5
  refine aP (ab (aa (ag tk rfl ?_)))
  obtain ⟨x136,k136,H⟩ := bg H
  refine aN tk k136.1 (aF (fun _=>rfl) k136.2) ?_
  refine ae 3 tk rfl (ac ?_)
  exact aV tk H rfl
 refine ao (aP (ab (aa (ag tk rfl ?_))))
 obtain ⟨x136,k136,H⟩ := bg H
 refine aN tk k136.1 (aF (fun _=>rfl) k136.2) ?_
 refine ae 3 tk rfl (ac ?_)
 exact aV tk H rfl
def eP (sA : LSchema) (q : LQuery) (inA : List LCardinalityBounds) : Option (LCardinalityBounds) :=
 af (aH inA 0) fun (x10 : LCardinalityBounds) =>
 af (aH inA 1) fun (x14 : LCardinalityBounds) =>
 af (aH q.exprs 0) fun (x21 : LExpr) =>
 cond (x21.kind == (1 : Int))
  (bL (nW x21.value) fun x28 =>
  cond x28
   (af (aH inA 0) fun (x30 : LCardinalityBounds) =>
   af (aH inA 1) fun (x34 : LCardinalityBounds) =>
   some (LCardinalityBounds.mk (IntKind.i64.wrap (x30.low * x34.low)) (IntKind.i64.wrap (x10.high * x14.high))))
   (some (LCardinalityBounds.mk 0 0)))
  (af (aH q.inputs 1) fun (x45 : LQuery) =>
  af (aH q.exprs 0) fun (x49 : LExpr) =>
  af (dL sA x45 x49) fun x51 =>
  af (
   cond x51
    (af (aH inA 0) fun (x55 : LCardinalityBounds) =>
    some (if x55.high < (IntKind.i64.wrap (x10.high * x14.high)) then x55.high else (IntKind.i64.wrap (x10.high * x14.high))))
    (some (IntKind.i64.wrap (x10.high * x14.high)))) fun (t1 : Int) =>
  af (aH q.inputs 0) fun (x63 : LQuery) =>
  af (aH q.exprs 0) fun (x67 : LExpr) =>
  af (dL sA x63 x67) fun x69 =>
  cond x69
   (af (aH inA 1) fun (x73 : LCardinalityBounds) =>
   some (LCardinalityBounds.mk 0 (if x73.high < t1 then x73.high else t1)))
   (some (LCardinalityBounds.mk 0 t1)))
theorem lM (sA : LSchema) (q : LQuery) (inA : List LCardinalityBounds) (r : LCardinalityBounds) (H : eP sA q inA = some r) :
  aJ Tryz.prog 54 [(.agg (bs sA)),(.agg (aw q)),(.list 88 (inA.map br))] (.agg (br r)) := by
 unfold eP at H
 refine PH.ap Tryz.func54 Tryz.ntmps54 ?_
 refine ab (aa (aB ?_))
 refine aB ?_
 refine aM tk fun b6=>?_
 refine ac (ab (bn tk mok ⟨false,false,[]⟩ [0,1,2,3,4,5,6,7,8,9,10,11] rfl (by decide +kernel) rfl (bt rfl ?_)))
 obtain ⟨x10,k10,H⟩ := bg H
 refine aZ k10.1 (aF (fun _=>rfl) k10.2) ?_
 refine aL 3 rfl ?_
 obtain ⟨x14,k14,H⟩ := bg H
 refine aZ k14.1 (aF (fun _=>rfl) k14.2) ?_
 refine aL 4 rfl ?_
 refine qL rfl rfl rfl rfl rfl rfl rfl rfl fun b7=>?_
 refine bB ?_
 refine bf (ab (ab (aa (ae 2 tk rfl ?_))))
 obtain ⟨x21,k21,H⟩ := bg H
 refine aN tk k21.1 (aF bj k21.2) ?_
 refine ag tk rfl ?_
 refine aM tk fun b8=>?_
 refine am tk ?_
 refine ac (ab (aa (ag tk rfl (aq tk ?_))))
 refine ag tk rfl (ac ?_)
 refine aK rfl H (fun H=>?_) (fun H=>?_)
 ·refine ab (ab (aa (ag tk rfl (aq tk ?_))))
  obtain ⟨x28,h28,H⟩ := ef H
  have s28 := isTS x21.value
  rw [h28] at s28
  refine ak Tryz.call93 (fG.r) s28 ?_
  refine ac ?_
  refine aK rfl H (fun H=>?_) (fun H=>?_)
  ·refine ab (bn tk mok ⟨true,false,[32,36]⟩ [0,1,2,3,4,5,6,7,8,9,10,11,12] rfl (by decide +kernel) rfl (bt rfl ?_))
   obtain ⟨x30,k30,H⟩ := bg H
   refine aZ k30.1 (aF (fun _=>rfl) k30.2) ?_
   refine aL 3 rfl ?_
   obtain ⟨x34,k34,H⟩ := bg H
   refine aZ k34.1 (aF (fun _=>rfl) k34.2) ?_
   refine aL 4 rfl (bI ?_)
   refine bt rfl (bB ?_)
   refine bf ?_
   exact gQ tk H rfl rfl rfl rfl rfl
  refine ao (ab (aa (ag tk rfl (am tk ?_))))
  refine ac ?_
  exact gQ tk H rfl rfl rfl rfl rfl
 refine ao (ab (ab (bn tk mok ⟨false,false,[]⟩ [0,1,2,3,4,5,6,7,8,9] rfl (by decide +kernel) rfl (aL 3 rfl ?_))))
 obtain ⟨x45,k45,H⟩ := bg H
 refine aZ k45.1 (aF bw k45.2) ?_
 refine aL 3 rfl ?_
 obtain ⟨x49,k49,H⟩ := bg H
 refine aZ k49.1 (aF bj k49.2) ?_
 refine bt rfl ?_
 obtain ⟨x51,h51,H⟩ := av H
 have s51 := iX sA x45 x49 _ h51
 refine bq Tryz.call94 (fG.r) s51 ?_
 refine bf ?_
 refine fm (γ := Unit) (fun t1 g1=>⟨79,upd (upd (upd (upd (upd (fun _=>.any) 7 (.box 7 b7 0)) 6 (.box 6 b6 0)) 4 (.ptr (aw q))) 3 (.ptr (bs sA))) 2 (.list 88 (inA.map br)),upd (upd (fun _=>none) 7 (some ⟨b7,[(ah 0),(ah t1)]⟩)) 6 (some ⟨b6,[(ah 0),(ah 0)]⟩),fun _=>none⟩) H (fun _ H=>?_) (fun t1 g1 H=>?_)
 ·refine aK rfl H (fun H=>?_) (fun H=>?_)
  ·refine bn tk mok ⟨true,false,[57]⟩ [0,1,2,3,4,5,6,7,8] rfl (by decide +kernel) rfl (bt rfl (bI ?_))
   refine bt rfl ?_
   obtain ⟨x55,k55,H⟩ := bg H
   refine aZ k55.1 (aF (fun _=>rfl) k55.2) ?_
   refine aL 4 rfl (bB ?_)
   refine bf ?_
   refine aS _ () (aD H) Gh.d
  refine ao ?_
  refine aS _ () (aD H) Gh.d
 refine ab (ab (bn tk mok ⟨false,false,[]⟩ [0,1,2,3,4,5,6,7,8,9] rfl (by decide +kernel) rfl (aL 3 rfl ?_)))
 obtain ⟨x63,k63,H⟩ := bg H
 refine aZ k63.1 (aF bw k63.2) ?_
 refine aL 3 rfl ?_
 obtain ⟨x67,k67,H⟩ := bg H
 refine aZ k67.1 (aF bj k67.2) ?_
 refine bt rfl ?_
 obtain ⟨x69,h69,H⟩ := av H
 have s69 := iX sA x63 x67 _ h69
 refine bq Tryz.call94 (fG.r) s69 ?_
 refine bf ?_
 refine aK rfl H (fun H=>?_) (fun H=>?_)
 ·refine bn tk mok ⟨true,false,[75]⟩ [0,1,2,3,4,5,6,7,8] rfl (by decide +kernel) rfl (bt rfl (bI ?_))
  refine bt rfl ?_
  obtain ⟨x73,k73,H⟩ := bg H
  refine aZ k73.1 (aF (fun _=>rfl) k73.2) ?_
  refine aL 4 rfl (bB ?_)
  refine bf (ab (aa (aq tk ?_)))
  refine am tk ?_
  refine ac ?_
  exact gQ tk H rfl rfl rfl rfl rfl
 refine ao (ab (aa (aq tk ?_)))
 refine am tk ?_
 refine ac ?_
 exact gQ tk H rfl rfl rfl rfl rfl
def fQ (sA : LSchema) (q : LQuery) (inA : List LCardinalityBounds) (_jA : LCardinalityBounds) : Option (Int) :=
 af (aH q.inputs 1) fun (x12 : LQuery) =>
 af (aH q.exprs 0) fun (x16 : LExpr) =>
 af (dL sA x12 x16) fun x18 =>
 cond x18
  (af (aH inA 0) fun (x20 : LCardinalityBounds) =>
  some x20.high)
  (af (aH inA 0) fun (x24 : LCardinalityBounds) =>
  af (aH inA 1) fun (x28 : LCardinalityBounds) =>
  some (IntKind.i64.wrap (x24.high * (if x28.high > (1 : Int) then x28.high else (1 : Int)))))
theorem pM (sA : LSchema) (q : LQuery) (inA : List LCardinalityBounds) (jA : LCardinalityBounds) (r : Int) (H : fQ sA q inA jA = some r) :
  aJ Tryz.prog 55 [(.agg (bs sA)),(.agg (aw q)),(.list 88 (inA.map br)),(.agg (br jA))] (ah r) := by
 unfold fQ at H
 refine PH.ap Tryz.func55 Tryz.ntmps55 ?_
 refine ab (aa (aB ?_))
 refine aB ?_
 refine aB ?_
 refine ag tk rfl (ac (ab (ab (bn tk mok ⟨false,false,[]⟩ [0,1,2,3,4,5,6,7,8,9] rfl (by decide +kernel) rfl (aL 3 rfl ?_)))))
 obtain ⟨x12,k12,H⟩ := bg H
 refine aZ k12.1 (aF bw k12.2) ?_
 refine aL 3 rfl ?_
 obtain ⟨x16,k16,H⟩ := bg H
 refine aZ k16.1 (aF bj k16.2) ?_
 refine bt rfl ?_
 obtain ⟨x18,h18,H⟩ := av H
 have s18 := iX sA x12 x16 _ h18
 refine bq Tryz.call94 (fG.r) s18 ?_
 refine bf ?_
 refine aK rfl H (fun H=>?_) (fun H=>?_)
 ·refine ab (aa (ag tk rfl ?_))
  obtain ⟨x20,k20,H⟩ := bg H
  refine aN tk k20.1 (aF (fun _=>rfl) k20.2) ?_
  refine ae 3 tk rfl (ac ?_)
  exact aV tk H rfl
 refine ao (ab (bn tk mok ⟨false,false,[]⟩ [0,1,2,3,4,5,6,7,8,9,10] rfl (by decide +kernel) rfl (bt rfl ?_)))
 obtain ⟨x24,k24,H⟩ := bg H
 refine aZ k24.1 (aF (fun _=>rfl) k24.2) ?_
 refine aL 3 rfl ?_
 obtain ⟨x28,k28,H⟩ := bg H
 refine aZ k28.1 (aF (fun _=>rfl) k28.2) ?_
 refine aL 5 rfl (bf ?_)
 exact aV tk H rfl
def dA (rec87 : LChecker → LQuery → Option ((List LCol) × Int)) (c : LChecker) (q : LQuery) : Option ((List LCol) × Int) :=
 af (iQ q) fun x16 =>
 cond (!x16)
  (some ([],3))
  (af (aC (σ := List (List LCol)) (ρ := ((List LCol) × Int)) (fun (_ : Nat) (x1 : LQuery) (s1 : List (List LCol)) =>
   af (rec87 c x1) fun x28 =>
   cond (x28.2 != (0 : Int))
    (some (.ret ([],x28.2)))
    (af (cJ 24 s1 ([x28.1] : List (List LCol))) fun (x37 : List (List LCol)) =>
    some (.next x37))) 0 q.inputs []) fun fl1=>fl1.thenR fun (s1 : List (List LCol)) =>
  af (fF c q s1) fun x43 =>
  cond (x43.2 != (0 : Int))
   (some ([],x43.2))
   (cond (decide ((x43.1.length : Int) > (20 : Int)))
    (some ([],2))
    (af (aC (σ := Unit) (ρ := ((List LCol) × Int)) (fun (j2 : Nat) (x2 : LCol) (_ : Unit) =>
     af (subI x43.1 0 (j2 : Int)) fun (x61 : List LCol) =>
     af (bF x61 (fun a0=>some (bM a0 x2))) fun x63 =>
     cond x63
      (some (.ret ([],23)))
      (some (.next ()))) 0 x43.1 ()) fun fl2=>fl2.thenR fun (_ : Unit) =>
    some (x43.1,0))))
theorem mJ (rec87 : LChecker → LQuery → Option ((List LCol) × Int)) (hrec87 : ∀ a0 a1 r,rec87 a0 a1 = some r → aJ Tryz.prog 87 [(.agg (cM a0)),(.agg (aw a1))] (.tup [(.list 58 (r.1.map aT)),(ah r.2)])) (c : LChecker) (q : LQuery) (r : (List LCol) × Int) (H : dA rec87 c q = some r) :
  aJ Tryz.prog 87 [(.agg (cM c)),(.agg (aw q))] (.tup [(.list 58 (r.1.map aT)),(ah r.2)]) := by
 unfold dA at H
 refine PH.ap Tryz.func87 Tryz.ntmps87 ?_
 refine ab (aa (aB ?_))
 refine aB ?_
 refine ae 2 tk rfl (ac (ab (ab (aa (ag tk rfl ?_)))))
 obtain ⟨x16,h16,H⟩ := av H
 have s16 := W_query_shape q _ h16
 refine ak Tryz.call131 (fG.r) s16 ?_
 refine ag tk rfl (ac ?_)
 refine aK rfl H (fun H=>?_) (fun H=>?_)
 ·refine al 2 tk rfl ?_
  obtain rfl := aD H
  refine bc tk rfl (ps := [(.val (.slice none 0 0)),(ah 3)]) ⟨_,_,rfl,rfl,_,_,rfl,rfl,rfl⟩ (PLe.of2 (lT.tup (fH.cons (lT.nil tk rfl) (fH.cons (lT.of_eq rfl) fH.nil))))
 refine ao (al 1 tk rfl (ab (ab (aa (ae 2 tk rfl (ax tk (zl _) ?_))))))
 refine ag tk rfl (ac (iO tk 6 37 (e := 59) rfl rfl ?_))
 refine dY (γ := OwnRef) tk 21 20 19 (fun s1 g1=>upd (upd (upd (fun _=>.any) 6 (.own 37 g1 (s1.map (fg 58 aT)).length)) 3 (.ptr (aw q))) 2 (.ptr (cM c))) nB (fun s1 g1=>upd (fun _=>none) 37 (some ⟨g1,59,(s1.map (fg 58 aT)),true⟩)) (⟨none,0⟩) H (fun fl1 Hp1 j1 s1 g1 hz1 hl1 x1 fb1 hx1 H hg1=>?_) (fun s1 g1 H=>?_)
 ·refine ab (az (ab (aa (aN tk (zn j1) (bd bw hx1) ?_))))
  refine ag tk rfl ?_
  refine aM tk fun b8=>?_
  refine am tk ?_
  refine ac (ab (aa (ag tk rfl (aq tk ?_))))
  obtain ⟨x28,h28,H⟩ := av H
  have s28 := hrec87 c x1 _ h28
  refine ak Tryz.call87 (fG.r) s28 ?_
  refine ae 5 tk rfl (ac (ab (al 2 tk rfl ?_)))
  refine aK rfl H (fun H=>?_) (fun H=>?_)
  ·refine al 3 tk rfl ?_
   obtain rfl := aD H
   have e1 : fl1 = .ret _ := hg1
   subst e1
   obtain rfl := aU Hp1
   refine bc tk rfl (ps := [(.val (.slice none 0 0)),(ah x28.2)]) ⟨_,_,rfl,rfl,_,_,rfl,rfl,rfl⟩ (PLe.of2 (lT.tup (fH.cons (lT.nil tk rfl) (fH.cons (lT.of_eq rfl) fH.nil))))
  refine ao (aa (ae 2 tk rfl (de tk (rows' := List.map (fg 58 aT) ([x28.1] : List (List LCol))) (dS.refl _) ?_)))
  obtain ⟨x37,h37,H⟩ := av H
  have k37 := ci h37
  refine cy (rows2' := List.map (fg 58 aT) ([x28.1] : List (List LCol))) (rows' := List.map (fg 58 aT) x37) tk rfl rfl rfl rfl rfl rfl rfl rfl rfl rfl rfl rfl rfl (dS.refl _) (cW k37.1) (cX k37.2.1) (cY k37.2.2) fun g37=>?_
  refine ag tk rfl (ac (aP (bl 2 tk rfl ?_)))
  exact bi g37 H hl1 hg1
 refine ab (cQ 6 rfl rfl rfl (aa (ae 3 tk rfl ?_)))
 obtain ⟨x43,h43,H⟩ := av H
 have s43 := pp c q s1 _ h43
 refine ak Tryz.call132 (fG.r) s43 ?_
 refine ae 5 tk rfl (ac (ab (al 2 tk rfl ?_)))
 refine aK rfl H (fun H=>?_) (fun H=>?_)
 ·refine al 3 tk rfl ?_
  obtain rfl := aD H
  refine bc tk rfl (ps := [(.val (.slice none 0 0)),(ah x43.2)]) ⟨_,_,rfl,rfl,_,_,rfl,rfl,rfl⟩ (PLe.of2 (lT.tup (fH.cons (lT.nil tk rfl) (fH.cons (lT.of_eq rfl) fH.nil))))
 refine ao (ab (ab (aa (ag tk rfl (ax tk (zl _) ?_)))))
 refine ag tk rfl (ac ?_)
 refine aK rfl H (fun H=>?_) (fun H=>?_)
 ·refine al 2 tk rfl ?_
  obtain rfl := aD H
  refine bc tk rfl (ps := [(.val (.slice none 0 0)),(ah 2)]) ⟨_,_,rfl,rfl,_,_,rfl,rfl,rfl⟩ (PLe.of2 (lT.tup (fH.cons (lT.nil tk rfl) (fH.cons (lT.of_eq rfl) fH.nil))))
 refine ao (ab (ab (aa (ag tk rfl (ax tk (zl _) ?_)))))
 refine ag tk rfl (ac ?_)
 refine dY tk 54 53 52 (fun s2 g2=>upd (fun _=>.any) 11 (.list 58 (x43.1.map aT))) nB nO () H (fun fl2 Hp2 j2 s2 g2 hz2 hl2 x2 fb2 hx2 H hg2=>?_) (fun s2 g2 H=>?_)
 ·refine ab (az (ab (aa (ag tk rfl ?_))))
  refine aN tk (zn j2) (bd (fun _=>rfl) hx2) ?_
  refine ag tk rfl ?_
  refine aM tk fun b14=>?_
  refine ag tk rfl (am tk ?_)
  refine ac (ab (aa (ae 2 tk rfl ?_)))
  obtain ⟨x61,h61,H⟩ := av H
  have k61 := pK h61
  refine rj tk rfl rfl rfl rfl rfl (zl _) rfl rfl k61.1 (rowsSubE k61.2) rfl (gL (Gh.freezeB 14 rfl rfl rfl rfl) (ag tk rfl ?_))
  obtain ⟨x63,h63,H⟩ := av H
  have s63 := ie x61 (fun a0=>some (bM a0 x2)) Tryz.call134 (fun a0 r h=>(aD h) ▸ md a0 x2) _ h63
  refine ak Tryz.call133 (fG.r) s63 ?_
  refine ac ?_
  refine aK rfl H (fun H=>?_) (fun H=>?_)
  ·refine al 2 tk rfl ?_
   obtain rfl := aD H
   have e2 : fl2 = .ret _ := hg2
   subst e2
   obtain rfl := aU Hp2
   refine bc tk rfl (ps := [(.val (.slice none 0 0)),(ah 23)]) ⟨_,_,rfl,rfl,_,_,rfl,rfl,rfl⟩ (PLe.of2 (lT.tup (fH.cons (lT.nil tk rfl) (fH.cons (lT.of_eq rfl) fH.nil))))
  refine ao (aP (bl 2 tk rfl ?_))
  exact bi () H hl2 hg2
 refine al 3 tk rfl ?_
 exact aV tk H rfl
def dy : Nat → LChecker → LQuery → Option ((List LCol) × Int)
 | 0,_,_=>none
 | n + 1,v0,v1=>dA (fun b0 b1=>dy n b0 b1) v0 v1
theorem mW  (n : Nat) : (∀ a0 a1 r,dy n a0 a1 = some r → aJ Tryz.prog 87 [(.agg (cM a0)),(.agg (aw a1))] (.tup [(.list 58 (r.1.map aT)),(ah r.2)])) := by
 induction n with
 | zero=>exact (by intros; rename_i h; exact absurd (show (none : Option _) = some _ from h) (by simp))
 | succ n ih =>
  exact (fun v0 v1 r h=>mJ (fun b0 b1=>dy n b0 b1) ih v0 v1  r h)
def ee (c : LChecker) (q : LQuery) : Option ((List LCol) × Int) := eH fun n=>dy n c q
theorem nf (c : LChecker) (q : LQuery) (r : (List LCol) × Int) (H : ee c q = some r) :
  aJ Tryz.prog 87 [(.agg (cM c)),(.agg (aw q))] (.tup [(.list 58 (r.1.map aT)),(ah r.2)]) := by
 obtain ⟨n,h⟩ := dU H
 exact (mW  n) c q r h
def cA (rec21 : LSchema → (List LCardinalityTableSize) → LQuery → Option (LCardinalityBounds)) (sA : LSchema) (sizes : List LCardinalityTableSize) (q : LQuery) : Option (LCardinalityBounds) :=
 af (aC (σ := List LCardinalityBounds) (ρ := Empty) (fun (_ : Nat) (x1 : LQuery) (s1 : List LCardinalityBounds) =>
  af (rec21 sA sizes x1) fun x24 =>
  af (cJ 16 s1 ([x24] : List LCardinalityBounds)) fun (x26 : List LCardinalityBounds) =>
  some (.next x26)) 0 q.inputs []) fun fl1=>fl1.thenP fun (s1 : List LCardinalityBounds) =>
 cond (q.kind == (1 : Int))
  (af (aC (σ := Unit) (ρ := (LCardinalityBounds)) (fun (_ : Nat) (x2 : LCardinalityTableSize) (_ : Unit) =>
   cond (x2.table == q.table)
    (some (.ret (LCardinalityBounds.mk x2.rows x2.rows)))
    (some (.next ()))) 0 sizes ()) fun fl2=>fl2.thenR fun (_ : Unit) =>
  some (LCardinalityBounds.mk 0 0))
  (cond (q.kind == (2 : Int))
   (af (aH s1 0) fun (x52 : LCardinalityBounds) =>
   af (aH q.exprs 0) fun (x56 : LExpr) =>
   bL (gP x52 x56) fun x58 =>
   some x58)
   (cond (q.kind == (4 : Int))
    (af (eP sA q s1) fun x64 =>
    some x64)
    (cond (q.kind == (5 : Int))
     (af (eP sA q s1) fun x70 =>
     af (aH s1 0) fun (x72 : LCardinalityBounds) =>
     af (aH s1 0) fun (x79 : LCardinalityBounds) =>
     af (fQ sA q s1 x70) fun x86 =>
     some (LCardinalityBounds.mk (if x70.low > x72.low then x70.low else x72.low) (if x86 > x79.high then x86 else x79.high)))
     (cond (q.kind == (6 : Int))
      (af (aH s1 0) fun (x92 : LCardinalityBounds) =>
      af (aH s1 1) fun (x96 : LCardinalityBounds) =>
      af (aH s1 0) fun (x101 : LCardinalityBounds) =>
      af (aH s1 1) fun (x105 : LCardinalityBounds) =>
      some (LCardinalityBounds.mk (IntKind.i64.wrap (x92.low + x96.low)) (IntKind.i64.wrap (x101.high + x105.high))))
      (cond (q.kind == (7 : Int))
       (af (aH s1 0) fun (x113 : LCardinalityBounds) =>
       af (aH s1 1) fun (x117 : LCardinalityBounds) =>
       af (aH s1 0) fun (x123 : LCardinalityBounds) =>
       some (LCardinalityBounds.mk (if (IntKind.i64.wrap (x113.low - x117.high)) > (0 : Int) then (IntKind.i64.wrap (x113.low - x117.high)) else (0 : Int)) x123.high))
       (cond (q.kind == (8 : Int))
        (cond ((q.exprs.length : Int) == (0 : Int))
         (some (LCardinalityBounds.mk 1 1))
         (af (aH s1 0) fun (x135 : LCardinalityBounds) =>
         af (aH s1 0) fun (x140 : LCardinalityBounds) =>
         some (LCardinalityBounds.mk (if x135.low < (1 : Int) then x135.low else (1 : Int)) x140.high)))
        (cond (q.kind == (10 : Int))
         (af (aH s1 0) fun (x149 : LCardinalityBounds) =>
         af (aH s1 0) fun (x160 : LCardinalityBounds) =>
         some (LCardinalityBounds.mk (if (if (IntKind.i64.wrap (x149.low - q.offset)) > (0 : Int) then (IntKind.i64.wrap (x149.low - q.offset)) else (0 : Int)) < q.count then (if (IntKind.i64.wrap (x149.low - q.offset)) > (0 : Int) then (IntKind.i64.wrap (x149.low - q.offset)) else (0 : Int)) else q.count) (if (if (IntKind.i64.wrap (x160.high - q.offset)) > (0 : Int) then (IntKind.i64.wrap (x160.high - q.offset)) else (0 : Int)) < q.count then (if (IntKind.i64.wrap (x160.high - q.offset)) > (0 : Int) then (IntKind.i64.wrap (x160.high - q.offset)) else (0 : Int)) else q.count)))
         (cond (q.kind == (3 : Int))
          (cond (q.kind == (3 : Int))
           (af (aH s1 0) fun (x173 : LCardinalityBounds) =>
           some x173)
           (some (LCardinalityBounds.mk 0 0)))
          (cond (q.kind == (9 : Int))
           (af (aH s1 0) fun (x173 : LCardinalityBounds) =>
           some x173)
           (some (LCardinalityBounds.mk 0 0)))))))))))
theorem ng (rec21 : LSchema → (List LCardinalityTableSize) → LQuery → Option (LCardinalityBounds)) (hrec21 : ∀ a0 a1 a2 r,rec21 a0 a1 a2 = some r → aJ Tryz.prog 21 [(.agg (bs a0)),(.list 40 (a1.map aX)),(.agg (aw a2))] (.agg (br r))) (sA : LSchema) (sizes : List LCardinalityTableSize) (q : LQuery) (r : LCardinalityBounds) (H : cA rec21 sA sizes q = some r) :
  aJ Tryz.prog 21 [(.agg (bs sA)),(.list 40 (sizes.map aX)),(.agg (aw q))] (.agg (br r)) := by
 unfold cA at H
 refine PH.ap Tryz.func21 Tryz.ntmps21 ?_
 refine ab (aa (aB ?_))
 refine aB ?_
 refine aM tk fun b6=>?_
 refine ac (al 1 tk rfl (ab (ab (aa (ae 2 tk rfl (ax tk (zl _) ?_))))))
 refine ag tk rfl (ac (iO tk 7 26 (e := 88) rfl rfl ?_))
 refine ek (γ := OwnRef) tk 16 15 14 (fun s1 g1=>upd (upd (upd (upd (upd (fun _=>.any) 7 (.own 26 g1 (s1.map br).length)) 6 (.box 6 b6 0)) 5 (.ptr (aw q))) 3 (.ptr (bs sA))) 1 (.list 40 (sizes.map aX))) (fun s1 g1=>upd (fun _=>none) 6 (some ⟨b6,[(ah 0),(ah 0)]⟩)) (fun s1 g1=>upd (fun _=>none) 26 (some ⟨g1,88,(s1.map br),true⟩)) (⟨none,0⟩) H (fun fl1 Hp1 j1 s1 g1 hz1 hl1 x1 fb1 hx1 H hg1=>?_) (fun s1 g1 H=>?_)
 ·refine ab (az (ab (aa (aN tk (zn j1) (bd bw hx1) ?_))))
  refine ag tk rfl ?_
  refine aM tk fun b9=>?_
  refine am tk ?_
  refine ac (aa (ae 3 tk rfl (aq tk ?_)))
  obtain ⟨x24,h24,H⟩ := av H
  have s24 := hrec21 sA sizes x1 _ h24
  refine ak Tryz.call21 (fG.r) s24 ?_
  refine de tk (rows' := List.map br ([x24] : List LCardinalityBounds)) (dS.refl _) ?_
  obtain ⟨x26,h26,H⟩ := av H
  have k26 := ci h26
  refine cy (rows2' := List.map br ([x24] : List LCardinalityBounds)) (rows' := List.map br x26) tk rfl rfl rfl rfl rfl rfl rfl rfl rfl rfl rfl rfl rfl (dS.refl _) (cW k26.1) (cX k26.2.1) (cY k26.2.2) fun g26=>?_
  refine ag tk rfl (ac (aP (bl 2 tk rfl ?_)))
  exact bi g26 H hl1 hg1
 refine ab (al 2 tk rfl (az (al 2 tk rfl ?_)))
 refine aK rfl H (fun H=>?_) (fun H=>?_)
 ·refine ab (aa (ag tk rfl (ax tk (zl _) ?_)))
  refine ag tk rfl (ac ?_)
  refine dY tk 34 33 32 (fun s2 g2=>upd (upd (fun _=>.any) 6 (.box 6 b6 0)) 5 (.ptr (aw q))) (fun s2 g2=>upd (fun _=>none) 6 (some ⟨b6,[(ah 0),(ah 0)]⟩)) nO () H (fun fl2 Hp2 j2 s2 g2 hz2 hl2 x2 fb2 hx2 H hg2=>?_) (fun s2 g2 H=>?_)
  ·refine ab (az (ab (aa ?_)))
   refine aN tk (zn j2) (bd (fun _=>rfl) hx2) ?_
   refine ag tk rfl ?_
   refine aM tk fun b11=>?_
   refine am tk ?_
   refine ac (ab (aa (ag tk rfl (aq tk ?_))))
   refine ae 3 tk rfl (ac ?_)
   refine aK rfl H (fun H=>?_) (fun H=>?_)
   ·refine ab (aa (ag tk rfl (aq tk ?_)))
    refine ag tk rfl (aq tk ?_)
    refine ag tk rfl (am tk ?_)
    refine ac ?_
    obtain rfl := aD H
    have e2 : fl2 = .ret _ := hg2
    subst e2
    obtain rfl := aU Hp2
    refine bc tk rfl (ps := [(.agg [(ah x2.rows),(ah x2.rows)])]) ⟨_,_,rfl,⟨_,_,_,_,_,rfl,rfl,rfl,rfl⟩,rfl⟩ (PLe.q rfl)
   refine ao (aP (bl 2 tk rfl ?_))
   exact bi () H hl2 hg2
  refine aP (ab (aa (ag tk rfl (am tk ?_))))
  refine ac ?_
  exact gQ tk H rfl rfl rfl rfl rfl
 refine al 2 tk rfl ?_
 refine aK rfl H (fun H=>?_) (fun H=>?_)
 ·refine ab (cQ 7 rfl rfl rfl (bn tk mok ⟨false,false,[]⟩ [0,1,2,3,4,5,6,7,8] rfl (by decide +kernel) rfl (bt rfl ?_)))
  obtain ⟨x52,k52,H⟩ := bg H
  refine aZ k52.1 (aF (fun _=>rfl) k52.2) ?_
  refine aL 3 rfl ?_
  obtain ⟨x56,k56,H⟩ := bg H
  refine aZ k56.1 (aF bj k56.2) ?_
  refine bt rfl ?_
  obtain ⟨x58,h58,H⟩ := ef H
  have s58 := pt x52 x56
  rw [h58] at s58
  refine bq Tryz.call53 (fG.r) s58 ?_
  refine bB ?_
  refine bf ?_
  exact gQ tk H rfl rfl rfl rfl rfl
 refine al 2 tk rfl ?_
 refine aK rfl H (fun H=>?_) (fun H=>?_)
 ·refine ab (cQ 7 rfl rfl rfl (aa (ae 3 tk rfl ?_)))
  obtain ⟨x64,h64,H⟩ := av H
  have s64 := lM sA q s1 _ h64
  refine ak Tryz.call54 (fG.r) s64 ?_
  refine am tk ?_
  refine ac ?_
  exact gQ tk H rfl rfl rfl rfl rfl
 refine al 2 tk rfl ?_
 refine aK rfl H (fun H=>?_) (fun H=>?_)
 ·refine ab (cQ 7 rfl rfl rfl (aa (ae 3 tk rfl ?_)))
  obtain ⟨x70,h70,H⟩ := av H
  have s70 := lM sA q s1 _ h70
  refine ak Tryz.call54 (fG.r) s70 ?_
  refine aM tk fun b12=>?_
  refine am tk ?_
  refine ac (ab (fN 12 ?_))
  refine bn tk mok ⟨false,false,[]⟩ [0,1,2,3,4,5,6,7,8,9,10,11,12,13,14,15,16,17,18] rfl (by decide +kernel) rfl (bt rfl ?_)
  obtain ⟨x72,k72,H⟩ := bg H
  refine aZ k72.1 (aF (fun _=>rfl) k72.2) ?_
  refine aL 6 rfl ?_
  obtain ⟨x79,k79,H⟩ := bg H
  refine aZ k79.1 (aF (fun _=>rfl) k79.2) ?_
  refine aL 6 rfl ?_
  obtain ⟨x86,h86,H⟩ := av H
  have s86 := pM sA q s1 x70 _ h86
  refine bq Tryz.call55 (fG.r) s86 ?_
  refine aL 2 rfl (bB ?_)
  refine bf ?_
  exact gQ tk H rfl rfl rfl rfl rfl
 refine al 2 tk rfl ?_
 refine aK rfl H (fun H=>?_) (fun H=>?_)
 ·refine ab (cQ 7 rfl rfl rfl (bn tk mok ⟨false,false,[]⟩ [0,1,2,3,4,5,6,7,8,9,10,11,12,13,14,15,16,17,18,19] rfl (by decide +kernel) rfl (bt rfl ?_)))
  obtain ⟨x92,k92,H⟩ := bg H
  refine aZ k92.1 (aF (fun _=>rfl) k92.2) ?_
  refine aL 3 rfl ?_
  obtain ⟨x96,k96,H⟩ := bg H
  refine aZ k96.1 (aF (fun _=>rfl) k96.2) ?_
  refine aL 4 rfl ?_
  obtain ⟨x101,k101,H⟩ := bg H
  refine aZ k101.1 (aF (fun _=>rfl) k101.2) ?_
  refine aL 3 rfl ?_
  obtain ⟨x105,k105,H⟩ := bg H
  refine aZ k105.1 (aF (fun _=>rfl) k105.2) ?_
  refine aL 4 rfl (bB ?_)
  refine bf ?_
  exact gQ tk H rfl rfl rfl rfl rfl
 refine al 2 tk rfl ?_
 refine aK rfl H (fun H=>?_) (fun H=>?_)
 ·refine ab (cQ 7 rfl rfl rfl (bn tk mok ⟨false,false,[]⟩ [0,1,2,3,4,5,6,7,8,9,10,11,12,13,14,15] rfl (by decide +kernel) rfl (bt rfl ?_)))
  obtain ⟨x113,k113,H⟩ := bg H
  refine aZ k113.1 (aF (fun _=>rfl) k113.2) ?_
  refine aL 3 rfl ?_
  obtain ⟨x117,k117,H⟩ := bg H
  refine aZ k117.1 (aF (fun _=>rfl) k117.2) ?_
  refine aL 5 rfl ?_
  obtain ⟨x123,k123,H⟩ := bg H
  refine aZ k123.1 (aF (fun _=>rfl) k123.2) ?_
  refine aL 3 rfl (bB ?_)
  refine bf ?_
  exact gQ tk H rfl rfl rfl rfl rfl
 refine al 2 tk rfl ?_
 refine aK rfl H (fun H=>?_) (fun H=>?_)
 ·refine ab (ab (aa (ae 2 tk rfl (ax tk (zl _) ?_))))
  refine ag tk rfl (ac ?_)
  refine aK rfl H (fun H=>?_) (fun H=>?_)
  ·refine ab (aa (ag tk rfl (am tk ?_)))
   refine ac ?_
   exact gQ tk H rfl rfl rfl rfl rfl
  refine ao (ab (cQ 7 rfl rfl rfl (bn tk mok ⟨false,false,[]⟩ [0,1,2,3,4,5,6,7,8,9,10] rfl (by decide +kernel) rfl (bt rfl ?_))))
  obtain ⟨x135,k135,H⟩ := bg H
  refine aZ k135.1 (aF (fun _=>rfl) k135.2) ?_
  refine aL 4 rfl ?_
  obtain ⟨x140,k140,H⟩ := bg H
  refine aZ k140.1 (aF (fun _=>rfl) k140.2) ?_
  refine aL 3 rfl (bB ?_)
  refine bf ?_
  exact gQ tk H rfl rfl rfl rfl rfl
 refine al 2 tk rfl ?_
 refine aK rfl H (fun H=>?_) (fun H=>?_)
 ·refine ab (cQ 7 rfl rfl rfl (bn tk mok ⟨false,false,[]⟩ [0,1,2,3,4,5,6,7,8,9,10,11,12,13,14,15,16,17,18,19,20,21,22,23] rfl (by decide +kernel) rfl (aL 3 rfl ?_)))
  obtain ⟨x149,k149,H⟩ := bg H
  refine aZ k149.1 (aF (fun _=>rfl) k149.2) ?_
  refine aL 10 rfl ?_
  obtain ⟨x160,k160,H⟩ := bg H
  refine aZ k160.1 (aF (fun _=>rfl) k160.2) ?_
  refine aL 8 rfl (bB ?_)
  refine bf ?_
  exact gQ tk H rfl rfl rfl rfl rfl
 refine ab (al 2 tk rfl ?_)
 refine aK rfl H (fun H=>?_) (fun H=>?_)
 ·refine ao ?_
  refine aK rfl H (fun H=>?_) (fun H=>?_)
  ·refine ab (cQ 7 rfl rfl rfl (aa (ag tk rfl ?_)))
   obtain ⟨x173,k173,H⟩ := bg H
   refine aN tk k173.1 (aF (fun _=>rfl) k173.2) ?_
   refine ag tk rfl (am tk ?_)
   refine ac ?_
   exact gQ tk H rfl rfl rfl rfl rfl
  refine ao (aP (ab (aa (ag tk rfl (am tk ?_)))))
  refine ac ?_
  exact gQ tk H rfl rfl rfl rfl rfl
 refine bl 2 tk rfl ?_
 refine aK rfl H (fun H=>?_) (fun H=>?_)
 ·refine ab (cQ 7 rfl rfl rfl (aa (ag tk rfl ?_)))
  obtain ⟨x173,k173,H⟩ := bg H
  refine aN tk k173.1 (aF (fun _=>rfl) k173.2) ?_
  refine ag tk rfl (am tk ?_)
  refine ac ?_
  exact gQ tk H rfl rfl rfl rfl rfl
 refine ao (aP (ab (aa (ag tk rfl (am tk ?_)))))
 refine ac ?_
 exact gQ tk H rfl rfl rfl rfl rfl
def eA : Nat → LSchema → (List LCardinalityTableSize) → LQuery → Option (LCardinalityBounds)
 | 0,_,_,_=>none
 | n + 1,v0,v1,v2=>cA (fun b0 b1 b2=>eA n b0 b1 b2) v0 v1 v2
theorem nh  (n : Nat) : (∀ a0 a1 a2 r,eA n a0 a1 a2 = some r → aJ Tryz.prog 21 [(.agg (bs a0)),(.list 40 (a1.map aX)),(.agg (aw a2))] (.agg (br r))) := by
 induction n with
 | zero=>exact (by intros; rename_i h; exact absurd (show (none : Option _) = some _ from h) (by simp))
 | succ n ih =>
  exact (fun v0 v1 v2 r h=>ng (fun b0 b1 b2=>eA n b0 b1 b2) ih v0 v1 v2  r h)
def bP (sA : LSchema) (sizes : List LCardinalityTableSize) (q : LQuery) : Option (LCardinalityBounds) := eH fun n=>eA n sA sizes q
theorem nF (sA : LSchema) (sizes : List LCardinalityTableSize) (q : LQuery) (r : LCardinalityBounds) (H : bP sA sizes q = some r) :
  aJ Tryz.prog 21 [(.agg (bs sA)),(.list 40 (sizes.map aX)),(.agg (aw q))] (.agg (br r)) := by
 obtain ⟨n,h⟩ := dU H
 exact (nh  n) sA sizes q r h
def fE (sA : LSchema) (vars : List LCol) (q : LQuery) : Option ((List LCol) × Int) :=
 af (
  af (gW q) fun x12 =>
  cond (decide ((x12.length : Int) > (24 : Int)))
   (some true)
   (af (iR q) fun x17 =>
   cond (decide (x17 > (12 : Int)))
    (some true)
    (af (eg q) fun x22 =>
    some (decide (x22 > (20000 : Int)))))) fun (t1 : Bool) =>
 cond t1
  (some ([],2))
  (af (eG q) fun x27 =>
  cond (x27.2 != (0 : Int))
   (some ([],x27.2))
   (af (ee (LChecker.mk sA vars) q) fun x38 =>
   some (x38.1,x38.2)))
theorem pr (sA : LSchema) (vars : List LCol) (q : LQuery) (r : (List LCol) × Int) (H : fE sA vars q = some r) :
  aJ Tryz.prog 49 [(.agg (bs sA)),(.list 58 (vars.map aT)),(.agg (aw q))] (.tup [(.list 58 (r.1.map aT)),(ah r.2)]) := by
 unfold fE at H
 refine PH.ap Tryz.func49 Tryz.ntmps49 ?_
 refine ab (aa (aB ?_))
 refine aB ?_
 refine ae 2 tk rfl (ac (ab (ab ?_)))
 refine fm (γ := Unit) (fun t1 g1=>⟨41,upd (upd (upd (upd (fun _=>.any) 24 (ay t1)) 5 (.ptr (aw q))) 3 (.ptr (bs sA))) 1 (.list 58 (vars.map aT)),fun _=>none,fun _=>none⟩) H (fun _ H=>?_) (fun t1 g1 H=>?_)
 ·refine aa (ag tk rfl ?_)
  obtain ⟨x12,h12,H⟩ := av H
  have s12 := ph (m := 12) q _ h12
  refine ak Tryz.call83 (fG.r) (PFun.gn s12) ?_
  refine ax tk (zl _) ?_
  refine ae 2 tk rfl ?_
  refine aR rfl rfl rfl H (fun H=>?_) (fun H=>?_)
  ·refine ae 9 tk rfl (ac ?_)
   refine aS _ () (aD H) Gh.d
  refine ag tk rfl ?_
  obtain ⟨x17,h17,H⟩ := av H
  have s17 := W_query_depth q _ h17
  refine ak Tryz.call84 (fG.r) s17 ?_
  refine ae 3 tk rfl ?_
  refine aR rfl rfl rfl H (fun H=>?_) (fun H=>?_)
  ·refine ae 4 tk rfl (ac ?_)
   refine aS _ () (aD H) Gh.d
  refine ag tk rfl ?_
  obtain ⟨x22,h22,H⟩ := av H
  have s22 := lI q _ h22
  refine ak Tryz.call85 (fG.r) s22 ?_
  refine ae 2 tk rfl (ac ?_)
  refine aS _ () (aD H) Gh.d
 refine aK rfl H (fun H=>?_) (fun H=>?_)
 ·refine al 2 tk rfl ?_
  obtain rfl := aD H
  refine bc tk rfl (ps := [(.val (.slice none 0 0)),(ah 2)]) ⟨_,_,rfl,rfl,_,_,rfl,rfl,rfl⟩ (PLe.of2 (lT.tup (fH.cons (lT.nil tk rfl) (fH.cons (lT.of_eq rfl) fH.nil))))
 refine ao (ab (ab (aa (ag tk rfl ?_))))
 obtain ⟨x27,h27,H⟩ := av H
 have s27 := nC q _ h27
 refine ak Tryz.call86 (fG.r) s27 ?_
 refine ae 5 tk rfl (ac (al 2 tk rfl ?_))
 refine aK rfl H (fun H=>?_) (fun H=>?_)
 ·refine al 3 tk rfl ?_
  obtain rfl := aD H
  refine bc tk rfl (ps := [(.val (.slice none 0 0)),(ah x27.2)]) ⟨_,_,rfl,rfl,_,_,rfl,rfl,rfl⟩ (PLe.of2 (lT.tup (fH.cons (lT.nil tk rfl) (fH.cons (lT.of_eq rfl) fH.nil))))
 refine ao (ab (aa (ae 3 tk rfl ?_)))
 refine aM tk fun b10=>?_
 refine am tk ?_
 refine ac (ab (aa (aq tk ?_)))
 refine ag tk rfl ?_
 obtain ⟨x38,h38,H⟩ := av H
 have s38 := nf (LChecker.mk sA vars) q _ h38
 refine ak Tryz.call87 (fG.r) s38 ?_
 refine ae 4 tk rfl (ac ?_)
 exact aV tk H rfl
def fw (sA : LSchema) (q : LQuery) : Option ((List LCol) × Int) :=
 af (fE sA ([] : List LCol) q) fun x8 =>
 some (x8.1,x8.2)
theorem lS (sA : LSchema) (q : LQuery) (r : (List LCol) × Int) (H : fw sA q = some r) :
  aJ Tryz.prog 18 [(.agg (bs sA)),(.agg (aw q))] (.tup [(.list 58 (r.1.map aT)),(ah r.2)]) := by
 unfold fw at H
 refine PH.ap Tryz.func18 Tryz.ntmps18 ?_
 refine ab (aa (aB ?_))
 refine aB ?_
 refine ae 2 tk rfl (ac (ab (aa (ae 2 tk rfl ?_))))
 obtain ⟨x8,h8,H⟩ := av H
 have s8 := pr sA ([] : List LCol) q _ h8
 refine ak Tryz.call49 (fG.of2 (fH.cons (lT.of_eq rfl) (fH.cons (lT.nil tk rfl) (fH.cons (lT.of_eq rfl) fH.nil)))) s8 ?_
 refine ae 4 tk rfl (ac ?_)
 exact aV tk H rfl
def gd (sA : LSchema) (q : LQuery) : Option (Bool) :=
 af (
  af (jV q 400) fun x8 =>
  cond (decide (x8 < (0 : Int)))
   (some true)
   (af (gc sA) fun x12 =>
   some (x12 != (0 : Int)))) fun (t1 : Bool) =>
 cond t1
  (some false)
  (af (fw sA q) fun x18 =>
  some (x18.2 == (0 : Int)))
theorem qn (sA : LSchema) (q : LQuery) (r : Bool) (H : gd sA q = some r) :
  aJ Tryz.prog 5 [(.agg (bs sA)),(.agg (aw q))] (ay r) := by
 unfold gd at H
 refine PH.ap Tryz.func5 Tryz.ntmps5 ?_
 refine ab (aa (aB ?_))
 refine aB ?_
 refine ag tk rfl (ac (ab (ab ?_)))
 refine fm (γ := Unit) (fun t1 g1=>⟨23,upd (upd (upd (fun _=>.any) 14 (ay t1)) 3 (.ptr (aw q))) 2 (.ptr (bs sA)),fun _=>none,fun _=>none⟩) H (fun _ H=>?_) (fun t1 g1 H=>?_)
 ·refine aa (ag tk rfl ?_)
  obtain ⟨x8,h8,H⟩ := av H
  have s8 := qE q 400 _ h8
  refine ak Tryz.call16 (fG.r) s8 ?_
  refine ae 2 tk rfl ?_
  refine aR rfl rfl rfl H (fun H=>?_) (fun H=>?_)
  ·refine ae 4 tk rfl (ac ?_)
   refine aS _ () (aD H) Gh.d
  refine ag tk rfl ?_
  obtain ⟨x12,h12,H⟩ := av H
  have s12 := qo sA _ h12
  refine ak Tryz.call17 (fG.r) s12 ?_
  refine ae 2 tk rfl (ac ?_)
  refine aS _ () (aD H) Gh.d
 refine aK rfl H (fun H=>?_) (fun H=>?_)
 ·refine al 1 tk rfl ?_
  exact aV tk H rfl
 refine ao (ab (aa (ae 2 tk rfl ?_)))
 obtain ⟨x18,h18,H⟩ := av H
 have s18 := lS sA q _ h18
 refine ak Tryz.call18 (fG.r) s18 ?_
 refine ae 5 tk rfl (ac (al 3 tk rfl ?_))
 exact aV tk H rfl
def gf (sA : LSchema) (q : LQuery) : Option ((List (List UInt8))) :=
 af (fw sA q) fun x13 =>
 af (aC (σ := List (List UInt8)) (ρ := Empty) (fun (_ : Nat) (x1 : LCol) (s1 : List (List UInt8)) =>
  af (cJ 16 s1 ([x1.name] : List (List UInt8))) fun (x26 : List (List UInt8)) =>
  some (.next x26)) 0 x13.1 []) fun fl1=>fl1.thenP fun (s1 : List (List UInt8)) =>
 some s1
theorem qh (sA : LSchema) (q : LQuery) (r : (List (List UInt8))) (H : gf sA q = some r) :
  aJ Tryz.prog 22 [(.agg (bs sA)),(.agg (aw q))] (.list 9 (r.map bm)) := by
 unfold gf at H
 refine PH.ap Tryz.func22 Tryz.ntmps22 ?_
 refine ab (aa (aB ?_))
 refine aB ?_
 refine ag tk rfl (ac (ab (aa (ae 2 tk rfl ?_))))
 obtain ⟨x13,h13,H⟩ := av H
 have s13 := lS sA q _ h13
 refine ak Tryz.call18 (fG.r) s13 ?_
 refine ae 5 tk rfl (ac (al 1 tk rfl (ab (ab (aa (ag tk rfl (ax tk (zl _) ?_)))))))
 refine ag tk rfl (ac (iO tk 7 26 (e := 9) rfl rfl ?_))
 refine ek (γ := OwnRef) tk 18 17 16 (fun s1 g1=>upd (fun _=>.any) 7 (.own 26 g1 (s1.map bm).length)) nB (fun s1 g1=>upd (fun _=>none) 26 (some ⟨g1,9,(s1.map bm),true⟩)) (⟨none,0⟩) H (fun fl1 Hp1 j1 s1 g1 hz1 hl1 x1 fb1 hx1 H hg1=>?_) (fun s1 g1 H=>?_)
 ·refine ab (az (ab (aa ?_)))
  refine aN tk (zn j1) (bd (fun _=>rfl) hx1) ?_
  refine ag tk rfl ?_
  refine aM tk fun b9=>?_
  refine am tk ?_
  refine ac (aa (ae 2 tk rfl (aq tk ?_)))
  refine de tk (rows' := List.map bm ([x1.name] : List (List UInt8))) (dS.refl _) ?_
  obtain ⟨x26,h26,H⟩ := av H
  have k26 := ci h26
  refine cy (rows2' := List.map bm ([x1.name] : List (List UInt8))) (rows' := List.map bm x26) tk rfl rfl rfl rfl rfl rfl rfl rfl rfl rfl rfl rfl rfl (dS.refl _) (cW k26.1) (cX k26.2.1) (cY k26.2.2) fun g26=>?_
  refine ag tk rfl (ac (aP (bl 2 tk rfl ?_)))
  exact bi g26 H hl1 hg1
 refine al 2 tk rfl (cQ 4 rfl rfl rfl ?_)
 exact aV tk H rfl
def eu (sA : LSchema) (sizes : List LCardinalityTableSize) (q : LQuery) : Option (LJoinorderGraph × Int) :=
 af (fw sA q) fun x24 =>
 cond (x24.2 != (0 : Int))
  (some ((LJoinorderGraph.mk [] []),x24.2))
  (af (ig q) fun x33 =>
  af (aC (σ := List (List (List UInt8)) × List Int) (ρ := Empty) (fun (_ : Nat) (x1 : LQuery) (s1 : List (List (List UInt8)) × List Int) =>
   af (bP sA sizes x1) fun x47 =>
   af (cJ 8 s1.2 ([(if (if x47.high < (1073741824 : Int) then x47.high else (1073741824 : Int)) > (0 : Int) then (if x47.high < (1073741824 : Int) then x47.high else (1073741824 : Int)) else (0 : Int))] : List Int)) fun (x52 : List Int) =>
   af (gf sA x1) fun x57 =>
   af (cJ 24 s1.1 ([x57] : List (List (List UInt8)))) fun (x59 : List (List (List UInt8))) =>
   some (.next (x59,x52))) 0 x33.1 ([],[])) fun fl1=>fl1.thenP fun (s1 : List (List (List UInt8)) × List Int) =>
  af (aC (σ := List (List (List UInt8)) × List LJoinorderSelectivity) (ρ := Empty) (fun (_ : Nat) (x2 : LExpr) (s2 : List (List (List UInt8)) × List LJoinorderSelectivity) =>
   af (fh x2 s2.1) fun x69 =>
   cond ((x69.length : Int) != (2 : Int))
    (some (.next (s2.1,s2.2)))
    (bL (
     cond (x2.kind == (5 : Int))
      ((x2.name == ([61] : List UInt8)))
      (false)) fun (t7 : Bool) =>
    bL (
     cond t7
      (10)
      (3)) fun (t8 : Int) =>
    af (aH x69 0) fun (x84 : Int) =>
    af (aH x69 1) fun (x87 : Int) =>
    af (cJ 24 s2.2 ([(LJoinorderSelectivity.mk x84 x87 t8)] : List LJoinorderSelectivity)) fun (x92 : List LJoinorderSelectivity) =>
    some (.next (s2.1,x92)))) 0 x33.2 (s1.1,[])) fun fl2=>fl2.thenP fun (s2 : List (List (List UInt8)) × List LJoinorderSelectivity) =>
  af (bK (LJoinorderGraph.mk s1.2 s2.2)) fun x96 =>
  cond (x96 != (0 : Int))
   (some ((LJoinorderGraph.mk [] []),x96))
   (some ((LJoinorderGraph.mk s1.2 s2.2),0)))
theorem pn (sA : LSchema) (sizes : List LCardinalityTableSize) (q : LQuery) (r : LJoinorderGraph × Int) (H : eu sA sizes q = some r) :
  aJ Tryz.prog 8 [(.agg (bs sA)),(.list 40 (sizes.map aX)),(.agg (aw q))] (.tup [(.agg (ba r.1)),(ah r.2)]) := by
 unfold eu at H
 refine PH.ap Tryz.func8 Tryz.ntmps8 ?_
 refine ab (aa (aB ?_))
 refine aB ?_
 refine aM tk fun b6=>?_
 refine ag tk rfl (ac (ab (ab (aa (ae 2 tk rfl ?_)))))
 obtain ⟨x24,h24,H⟩ := av H
 have s24 := lS sA q _ h24
 refine ak Tryz.call18 (fG.r) s24 ?_
 refine ae 5 tk rfl (ac (al 2 tk rfl ?_))
 refine aK rfl H (fun H=>?_) (fun H=>?_)
 ·refine ab (aa (ae 2 tk rfl (am tk ?_)))
  refine ag tk rfl (ac ?_)
  obtain rfl := aD H
  refine bc tk rfl (ps := [(.agg [(.val (.slice none 0 0)),(.val (.slice none 0 0))]),(ah x24.2)]) ⟨_,_,rfl,⟨_,_,_,_,_,rfl,rfl,rfl,rfl⟩,_,_,rfl,rfl,rfl⟩ (PLe.of2 (lT.tup (fH.cons (lT.agg (fH.cons (lT.nil tk rfl) (fH.cons (lT.nil tk rfl) fH.nil))) (fH.cons (lT.of_eq rfl) fH.nil))))
 refine ao (ab (aa (ag tk rfl ?_)))
 obtain ⟨x33,h33,H⟩ := av H
 have s33 := nG (m := 33) q _ h33
 refine ak Tryz.call20 (fG.r) (aJ.of_ownT s33) ?_
 refine ae 5 tk rfl (ac (ab (aa ?_)))
 refine aM tk fun b12=>?_
 refine ac (al 1 tk rfl (ab (ab (aa (ag tk rfl (ax tk (zl _) ?_))))))
 refine ag tk rfl (ac (iO tk 13 59 (e := 28) rfl rfl (jq tk 12 0 52 (e := 3) rfl rfl rfl rfl ?_)))
 refine ek (γ := OwnRef × OwnRef) tk 38 37 36 (fun s1 g1=>upd (upd (upd (upd (upd (upd (fun _=>.any) 13 (.own 59 g1.1 (s1.1.map (fg 9 bm)).length)) 12 (.box 12 b12 0)) 11 (.list 92 (x33.2.map aE))) 6 (.box 6 b6 0)) 3 (.ptr (bs sA))) 1 (.list 40 (sizes.map aX))) (fun s1 g1=>upd (upd (fun _=>none) 12 (some ⟨b12,[(.own 52 g1.2 (s1.2.map aY).length),(.val (.slice none 0 0))]⟩)) 6 (some ⟨b6,[(.val (.slice none 0 0)),(.val (.slice none 0 0))]⟩)) (fun s1 g1=>upd (upd (fun _=>none) 59 (some ⟨g1.1,28,(s1.1.map (fg 9 bm)),true⟩)) 52 (some ⟨g1.2,3,(s1.2.map aY),true⟩)) (⟨none,0⟩,⟨none,0⟩) H (fun fl1 Hp1 j1 s1 g1 hz1 hl1 x1 fb1 hx1 H hg1=>?_) (fun s1 g1 H=>?_)
 ·refine ab (az (ab (aa (aN tk (zn j1) (bd bw hx1) ?_))))
  refine ag tk rfl ?_
  refine aM tk fun b15=>?_
  refine am tk ?_
  refine ac (ab (fN 15 ?_))
  refine bn tk mok ⟨true,false,[44,46]⟩ [0,1,2,3,4,5,6,7,8,9,10,11,12] rfl (by decide +kernel) rfl (bt rfl (bI ?_))
  refine aL 3 rfl ?_
  obtain ⟨x47,h47,H⟩ := av H
  have s47 := nF sA sizes x1 _ h47
  refine bq Tryz.call21 (fG.r) s47 ?_
  refine aL 4 rfl ?_
  obtain ⟨x52,h52,H⟩ := av H
  have k52 := ci h52
  refine fM (rows2' := List.map aY ([(if (if x47.high < (1073741824 : Int) then x47.high else (1073741824 : Int)) > (0 : Int) then (if x47.high < (1073741824 : Int) then x47.high else (1073741824 : Int)) else (0 : Int))] : List Int)) (rows' := List.map aY x52) tk rfl rfl rfl rfl rfl rfl rfl rfl rfl rfl rfl rfl rfl rfl (dS.refl _) (cW k52.1) (cX k52.2.1) (cY k52.2.2) fun g52=>?_
  refine bt rfl (bB ?_)
  refine bf (aa (ae 3 tk rfl ?_))
  obtain ⟨x57,h57,H⟩ := av H
  have s57 := qh sA x1 _ h57
  refine ak Tryz.call22 (fG.r) s57 ?_
  refine de tk (rows' := List.map (fg 9 bm) ([x57] : List (List (List UInt8)))) (dS.refl _) ?_
  obtain ⟨x59,h59,H⟩ := av H
  have k59 := ci h59
  refine cy (rows2' := List.map (fg 9 bm) ([x57] : List (List (List UInt8)))) (rows' := List.map (fg 9 bm) x59) tk rfl rfl rfl rfl rfl rfl rfl rfl rfl rfl rfl rfl rfl (dS.refl _) (cW k59.1) (cX k59.2.1) (cY k59.2.2) fun g59=>?_
  refine ag tk rfl (ac (aP (bl 2 tk rfl ?_)))
  exact bi (g59,g52) H hl1 hg1
 refine ab (ab (aa (ag tk rfl (ax tk (zl _) ?_))))
 refine ag tk rfl (ac (cQ 13 rfl rfl rfl (jq tk 12 1 92 (e := 95) rfl rfl rfl rfl ?_)))
 refine rc (γ := OwnRef) tk 61 rfl rfl (fun s2 g2=>upd (upd (fun _=>.any) 12 (.box 12 b12 0)) 6 (.box 6 b6 0)) (fun s2 g2=>upd (upd (fun _=>none) 12 (some ⟨b12,[(.own 52 g1.2 (s1.2.map aY).length),(.own 92 g2 (s2.2.map bG).length)]⟩)) 6 (some ⟨b6,[(.val (.slice none 0 0)),(.val (.slice none 0 0))]⟩)) (fun s2 g2=>upd (upd (fun _=>none) 92 (some ⟨g2,95,(s2.2.map bG),true⟩)) 52 (some ⟨g1.2,3,(s1.2.map aY),true⟩)) (fun e j2 s2 g2=>upd (upd (upd (upd e 63 (ah (j2 : Int))) 62 (ah (x33.2.length : Int))) 61 (.list 92 (x33.2.map aE))) 13 (.list 28 (s2.1.map (fg 9 bm)))) (⟨none,0⟩) H rfl Gh.d (fun _ _ _=>rfl) (fun _ _ _=>rfl) (fun _ _ _=>Gh.d) (fun fl2 Hp2 j2 s2 g2 hz2 hl2 x2 fb2 hx2 H hg2=>?_) (fun s2 g2 H=>?_)
 ·refine ab (az (ab (aa (aN tk (zn j2) (bd bj hx2) ?_))))
  refine ag tk rfl ?_
  refine aM tk fun b17=>?_
  refine am tk ?_
  refine ac (ab (aa (aq tk ?_)))
  refine ag tk rfl ?_
  obtain ⟨x69,h69,H⟩ := av H
  have s69 := ow x2 s2.1 _ h69
  refine ak Tryz.call23 (fG.r) s69 ?_
  refine ag tk rfl (ac (ab (ab (aa (ag tk rfl (ax tk (zl _) ?_))))))
  refine ag tk rfl (ac ?_)
  refine aK rfl H (fun H=>?_) (fun H=>?_)
  ·refine ca rfl (bl 2 tk rfl ?_)
   exact bi g2 H hl2 hg2
  refine ao (al 1 tk rfl (ab (ab ?_)))
  refine eF (γ := Unit) (fun t7 g7=>⟨102,upd (upd (upd (upd (upd (upd (upd (upd (upd (fun _=>.any) 80 (ay t7)) 63 (ah (j2 : Int))) 62 (ah (x33.2.length : Int))) 61 (.list 92 (x33.2.map aE))) 19 (ah 3)) 18 (.list 3 (x69.map aY))) 13 (.list 28 (s2.1.map (fg 9 bm)))) 12 (.box 12 b12 0)) 6 (.box 6 b6 0),upd (upd (fun _=>none) 12 (some ⟨b12,[(.own 52 g1.2 (s1.2.map aY).length),(.own 92 g2 (s2.2.map bG).length)]⟩)) 6 (some ⟨b6,[(.val (.slice none 0 0)),(.val (.slice none 0 0))]⟩),upd (upd (fun _=>none) 92 (some ⟨g2,95,(s2.2.map bG),true⟩)) 52 (some ⟨g1.2,3,(s1.2.map aY),true⟩)⟩) H (fun _ H=>?_) (fun t7 g7 H=>?_)
  ·refine aa (ag tk rfl (aq tk ?_))
   refine ae 2 tk rfl ?_
   refine aR rfl rfl rfl H (fun H=>?_) (fun H=>?_)
   ·refine ag tk rfl (aq tk ?_)
    refine ae 2 tk rfl (ac ?_)
    refine aS _ () H Gh.d
   refine ae 4 tk rfl (ac ?_)
   refine aS _ () H Gh.d
  refine eF (γ := Unit) (fun t8 g8=>⟨102,upd (upd (upd (upd (upd (upd (upd (upd (fun _=>.any) 63 (ah (j2 : Int))) 62 (ah (x33.2.length : Int))) 61 (.list 92 (x33.2.map aE))) 19 (ah t8)) 18 (.list 3 (x69.map aY))) 13 (.list 28 (s2.1.map (fg 9 bm)))) 12 (.box 12 b12 0)) 6 (.box 6 b6 0),upd (upd (fun _=>none) 12 (some ⟨b12,[(.own 52 g1.2 (s1.2.map aY).length),(.own 92 g2 (s2.2.map bG).length)]⟩)) 6 (some ⟨b6,[(.val (.slice none 0 0)),(.val (.slice none 0 0))]⟩),upd (upd (fun _=>none) 92 (some ⟨g2,95,(s2.2.map bG),true⟩)) 52 (some ⟨g1.2,3,(s1.2.map aY),true⟩)⟩) H (fun _ H=>?_) (fun t8 g8 H=>?_)
  ·refine aK rfl H (fun H=>?_) (fun H=>?_)
   ·refine bl 1 tk rfl ?_
    refine aS _ () H Gh.d
   refine ao ?_
   refine aS _ () H Gh.d
  refine bn tk mok ⟨true,false,[85,88]⟩ [0,1,2,3,4,5,6,7,8,9,10,11,12,13] rfl (by decide +kernel) rfl (bt rfl (bI ?_))
  refine bt rfl ?_
  obtain ⟨x84,k84,H⟩ := bg H
  refine aZ k84.1 (aF (fun _=>rfl) k84.2) ?_
  refine aL 2 rfl ?_
  obtain ⟨x87,k87,H⟩ := bg H
  refine aZ k87.1 (aF (fun _=>rfl) k87.2) ?_
  refine aL 4 rfl ?_
  obtain ⟨x92,h92,H⟩ := av H
  have k92 := ci h92
  refine fM (rows2' := List.map bG ([(LJoinorderSelectivity.mk x84 x87 t8)] : List LJoinorderSelectivity)) (rows' := List.map bG x92) tk rfl rfl rfl rfl rfl rfl rfl rfl rfl rfl rfl rfl rfl rfl (dS.refl _) (cW k92.1) (cX k92.2.1) (cY k92.2.2) fun g92=>?_
  refine bt rfl (bB ?_)
  refine bf (aP (bl 2 tk rfl ?_))
  exact bi g92 H hl2 hg2
 refine ab (ab (fL 12 0 rfl rfl rfl rfl rfl (fL 12 1 rfl rfl rfl rfl rfl (aa (aq tk ?_)))))
 obtain ⟨x96,h96,H⟩ := av H
 have s96 := iI (LJoinorderGraph.mk s1.2 s2.2) _ h96
 refine ak Tryz.call24 (fG.r) s96 ?_
 refine ag tk rfl (ac (al 2 tk rfl ?_))
 refine aK rfl H (fun H=>?_) (fun H=>?_)
 ·refine ab (aa (ae 2 tk rfl (am tk ?_)))
  refine ag tk rfl (ac ?_)
  obtain rfl := aD H
  refine bc tk rfl (ps := [(.agg [(.val (.slice none 0 0)),(.val (.slice none 0 0))]),(ah x96)]) ⟨_,_,rfl,⟨_,_,_,_,_,rfl,rfl,rfl,rfl⟩,_,_,rfl,rfl,rfl⟩ (PLe.of2 (lT.tup (fH.cons (lT.agg (fH.cons (lT.nil tk rfl) (fH.cons (lT.nil tk rfl) fH.nil))) (fH.cons (lT.of_eq rfl) fH.nil))))
 refine ao (ab (aa (aq tk ?_)))
 refine am tk ?_
 refine ag tk rfl (ac ?_)
 obtain rfl := aD H
 refine bc tk rfl (ps := [(.agg [(.list 3 (s1.2.map aY)),(.list 95 (s2.2.map bG))]),(ah 0)]) ⟨_,_,rfl,⟨_,_,_,_,_,rfl,rfl,rfl,rfl⟩,_,_,rfl,rfl,rfl⟩ (PLe.q rfl)
def dq (sA : LSchema) (sizes : List LCardinalityTableSize) (q : LQuery) (picks : List Int) : Option (Bool) :=
 bL (sampleV) fun x15 =>
 cond (!x15)
  (some false)
  (af (
   af (gd sA q) fun x19 =>
   cond (!x19)
    (some true)
    (cond (q.kind != (4 : Int))
     (some true)
     (cond (decide ((picks.length : Int) > (20 : Int)))
      (some true)
      (cond (decide ((sizes.length : Int) > (10 : Int)))
       (some true)
       (af (bh sizes (fun a0=>some (bJ a0))) fun x38 =>
       some x38))))) fun (t1 : Bool) =>
  cond t1
   (some true)
   (af (eu sA sizes q) fun x44 =>
   cond (x44.2 != (0 : Int))
    (some true)
    (af (dX x44.1 false) fun x51 =>
    af (dZ (x44.1.sizes.length : Int) picks) fun x61 =>
    af (gF x44.1 x61) fun x62 =>
    cond (x51.2.2 == (0 : Int))
     (cond (x62.2 == (0 : Int))
      (some (decide (x51.2.1 ≤ x62.1)))
      (some false))
     (some false))))
theorem jE (sA : LSchema) (sizes : List LCardinalityTableSize) (q : LQuery) (picks : List Int) (r : Bool) (H : dq sA sizes q picks = some r) :
  aJ Tryz.prog 3 [(.agg (bs sA)),(.list 40 (sizes.map aX)),(.agg (aw q)),(.list 3 (picks.map aY))] (ay r) := by
 unfold dq at H
 refine PH.ap Tryz.func3 Tryz.ntmps3 ?_
 refine ab (aa (aB ?_))
 refine aB ?_
 refine ag tk rfl (ac (ab (ab (aa ?_))))
 obtain ⟨x15,h15,H⟩ := ef H
 have s15 := sampleV_spec
 rw [h15] at s15
 refine ak Tryz.call4 (fG.r) s15 ?_
 refine ag tk rfl (ac ?_)
 refine aK rfl H (fun H=>?_) (fun H=>?_)
 ·refine al 1 tk rfl ?_
  exact aV tk H rfl
 refine ao (ab (ab ?_))
 refine fm (γ := Unit) (fun t1 g1=>⟨76,upd (upd (upd (upd (upd (fun _=>.any) 39 (ay t1)) 6 (.ptr (aw q))) 4 (.ptr (bs sA))) 3 (.list 3 (picks.map aY))) 1 (.list 40 (sizes.map aX)),fun _=>none,fun _=>none⟩) H (fun _ H=>?_) (fun t1 g1 H=>?_)
 ·refine aa (ae 2 tk rfl ?_)
  obtain ⟨x19,h19,H⟩ := av H
  have s19 := qn sA q _ h19
  refine ak Tryz.call5 (fG.r) s19 ?_
  refine ae 2 tk rfl ?_
  refine aR rfl rfl rfl H (fun H=>?_) (fun H=>?_)
  ·refine ae 18 tk rfl (ac ?_)
   refine aS _ () (aD H) Gh.d
  refine ae 5 tk rfl ?_
  refine aR rfl rfl rfl H (fun H=>?_) (fun H=>?_)
  ·refine ae 13 tk rfl (ac ?_)
   refine aS _ () (aD H) Gh.d
  refine ag tk rfl (ax tk (zl _) ?_)
  refine ae 3 tk rfl ?_
  refine aR rfl rfl rfl H (fun H=>?_) (fun H=>?_)
  ·refine ae 8 tk rfl (ac ?_)
   refine aS _ () (aD H) Gh.d
  refine ag tk rfl (ax tk (zl _) ?_)
  refine ae 3 tk rfl ?_
  refine aR rfl rfl rfl H (fun H=>?_) (fun H=>?_)
  ·refine ae 3 tk rfl (ac ?_)
   refine aS _ () (aD H) Gh.d
  refine ag tk rfl ?_
  obtain ⟨x38,h38,H⟩ := av H
  have s38 := eE sizes (fun a0=>some (bJ a0)) Tryz.call7 (fun a0 r h=>(aD h) ▸ jx a0) _ h38
  refine ak Tryz.call6 (fG.r) s38 ?_
  refine ag tk rfl (ac ?_)
  refine aS _ () (aD H) Gh.d
 refine aK rfl H (fun H=>?_) (fun H=>?_)
 ·refine al 1 tk rfl ?_
  exact aV tk H rfl
 refine ao (ab (aa (ae 3 tk rfl ?_)))
 obtain ⟨x44,h44,H⟩ := av H
 have s44 := pn sA sizes q _ h44
 refine ak Tryz.call8 (fG.r) s44 ?_
 refine ae 3 tk rfl ?_
 refine aM tk fun b9=>?_
 refine am tk ?_
 refine ag tk rfl (ac (ab (al 2 tk rfl ?_)))
 refine aK rfl H (fun H=>?_) (fun H=>?_)
 ·refine al 1 tk rfl ?_
  exact aV tk H rfl
 refine ao (ab (aa (aq tk ?_)))
 obtain ⟨x51,h51,H⟩ := av H
 have s51 := oM x44.1 false _ h51
 refine ak Tryz.call9 (fG.r) s51 ?_
 refine ae 4 tk rfl ?_
 refine aM tk fun b11=>?_
 refine am tk ?_
 refine ae 2 tk rfl (ac (ab (bn tk mok ⟨true,false,[]⟩ [0,1,2,3,4,5,6,7,8,9,10,11] rfl (by decide +kernel) rfl (bI ?_))))
 refine bt rfl (bI ?_)
 refine qd rfl rfl rfl rfl rfl rfl (zl _) rfl (bt rfl ?_)
 obtain ⟨x61,h61,H⟩ := av H
 have s61 := oG (x44.1.sizes.length : Int) picks _ h61
 refine bq Tryz.call11 (fG.r) s61 ?_
 obtain ⟨x62,h62,H⟩ := av H
 have s62 := qN x44.1 x61 _ h62
 refine bq Tryz.call10 (fG.r) s62 ?_
 refine aL 5 rfl (bf (ab (aa (ae 3 tk rfl ?_))))
 refine aR rfl rfl rfl H (fun H=>?_) (fun H=>?_)
 ·refine ae 4 tk rfl ?_
  refine aR rfl rfl rfl H (fun H=>?_) (fun H=>?_)
  ·refine ae 5 tk rfl (ac ?_)
   exact aV tk H rfl
  refine ae 5 tk rfl (ac ?_)
  exact aV tk H rfl
 refine ae 9 tk rfl (ac ?_)
 exact aV tk H rfl
end
end Go.Proofs.YtpgalfinchajnaaGreatDoor

namespace Go.Proofs.YtpgalfinchajnaaGreatDoor
noncomputable section
open Go Go.Ab
theorem jwhileM_by {σ ρ : Type} {step : σ → Option (Flow σ ρ)} (I : σ → Prop) (μ : σ → Nat) (Q : σ → Prop) (R : ρ → Prop) (hs : ∀ s,I s → ∃ fl,step s = some fl ∧ (match fl with | .next s'=>I s' ∧ μ s' < μ s | .brk s'=>Q s' | .ret r=>R r)) :
  ∀ s,I s → ∃ fl,gD step s = some fl ∧ (match fl with | .next s'=>Q s' | .brk _=>False | .ret r=>R r) := by
 intro s
 generalize hn : μ s = n
 induction n using Nat.strongRecOn generalizing s with
 | _ n ih =>
  intro hI
  obtain ⟨fl,h1,h2⟩ := hs s hI
  cases fl with
  | next s' =>
   obtain ⟨fl,h3,h4⟩ := ih (μ s') (hn ▸ h2.2) s' rfl h2.1
   exact ⟨fl,gm h1 h3,h4⟩
  | brk s'=>exact ⟨.next s',gm h1 rfl,h2⟩
  | ret r=>exact ⟨.ret r,gm h1 rfl,h2⟩
theorem oC {σ β : Type} {step : σ → Option (Flow σ Empty)} {k : σ → Option β} {R : β → Prop} {s : σ} (I : σ → Prop) (μ : σ → Nat) (Q : σ → Prop) (h0 : I s)
  (hs : ∀ s,I s → ∃ fl,step s = some fl ∧ (match fl with | .next s'=>I s' ∧ μ s' < μ s | .brk s'=>Q s' | .ret _=>False)) (hk : ∀ s',Q s' → ∃ r,k s' = some r ∧ R r) :
  ∃ r,af (gD step s) (fun fl=>fl.thenP k) = some r ∧ R r := by
 obtain ⟨fl,h1,h2⟩ := jwhileM_by (step := step) I μ Q (fun _=>False) (fun s hI=>by
  obtain ⟨fl,h1,h2⟩ := hs s hI
  refine ⟨fl,h1,?_⟩
  cases fl with
  | next s'=>exact h2
  | brk s'=>exact h2
  | ret r=>exact r.elim) s h0
 cases fl with
 | next s'=>rw [h1]; exact hk s' h2
 | brk s'=>exact absurd h2 (by simp)
 | ret r=>exact r.elim
theorem iT (x : Nat) (h : x < 256) : (BitVec.ofInt 64 (x : Int)).toNat = x := by
 rw [BitVec.ofInt_natCast,BitVec.toNat_ofNat]; exact Nat.mod_eq_of_lt (by omega)
theorem oR (x s : Nat) (hx : x < 256) (hs : s < 256) : aO .i64 (x : Int) (s : Int) = ((x &&& s : Nat) : Int) := by
 have hle : x &&& s ≤ x := Nat.and_le_left
 show IntKind.i64.wrap ((BitVec.ofInt 64 (x : Int) &&& BitVec.ofInt 64 (s : Int)).toNat : Int) = _
 rw [BitVec.toNat_and,iT x hx,iT s hs,bT (by omega) (by omega)]
theorem sub_all : ((List.range 256).all fun s=>(List.range 256).all fun x=>Nat.beq (s &&& (18446744073709551615 - (x &&& s))) (s - (x &&& s))) = true := by decide +kernel
theorem sub_bits (s x : Nat) (hx : x < 256) (hs : s < 256) : s &&& (18446744073709551615 - (x &&& s)) = s - (x &&& s) :=
 Nat.eq_of_beq_eq_true (List.all_eq_true.1 (List.all_eq_true.1 sub_all s (List.mem_range.2 hs)) x (List.mem_range.2 hx))
theorem andNotI_nat (x s : Nat) (hx : x < 256) (hs : s < 256) : it .i64 (s : Int) ((x &&& s : Nat) : Int) = ((s - (x &&& s) : Nat) : Int) := by
 have hle : x &&& s ≤ x := Nat.and_le_left
 show IntKind.i64.wrap ((BitVec.ofInt 64 (s : Int) &&& ~~~ BitVec.ofInt 64 ((x &&& s : Nat) : Int)).toNat : Int) = _
 have e : (2 : Nat) ^ 64 - 1 - (x &&& s) = 18446744073709551615 - (x &&& s) := rfl
 rw [BitVec.toNat_and,BitVec.toNat_not,iT s hs,iT (x &&& s) (by omega),e,sub_bits s x hx hs,bT (by omega) (by omega)]
theorem bits_and {s x : Int} (hs0 : 0 ≤ s) (hs : s < 256) (hx0 : 0 ≤ x) (hx : x < 256) : 0 ≤ aO .i64 x s ∧ aO .i64 x s ≤ x ∧ it .i64 s (aO .i64 x s) = s - aO .i64 x s := by
 obtain ⟨x,rfl⟩ := Int.eq_ofNat_of_zero_le hx0
 obtain ⟨s,rfl⟩ := Int.eq_ofNat_of_zero_le hs0
 have h1 := oR x s (by omega) (by omega)
 have h2 := andNotI_nat x s (by omega) (by omega)
 have hle : x &&& s ≤ x := Nat.and_le_left
 have hle' : x &&& s ≤ s := Nat.and_le_right
 rw [h1,h2]
 omega
def pop (x : Int) : Int := ce (IntKind.u64.wrap x)
theorem bits_pop_all (s : Fin 256) : 1 ≤ s.val → (pop (s.val : Int) == 1) = false → 0 < aO .i64 ((s.val : Int) - 1) (s.val : Int) ∧ ¬ pop ((s.val : Int) - aO .i64 ((s.val : Int) - 1) (s.val : Int)) > 1 := by
 unfold pop ce dz
 revert s; decide +kernel
theorem bits_pop {s : Int} (h1 : 1 ≤ s) (hs : s < 256) (hp : (pop s == 1) = false) : 0 < aO .i64 (s - 1) s ∧ ¬ pop (s - aO .i64 (s - 1) s) > 1 := by
 obtain ⟨s,rfl⟩ := Int.eq_ofNat_of_zero_le (show 0 ≤ s by omega)
 exact bits_pop_all ⟨s,by omega⟩ (by simp only; omega) hp
def inR (n : Int) : Prop := 0 ≤ n ∧ n ≤ 1073741824
structure ValidG (g : LJoinorderGraph) : Prop where
 n1 : 1 ≤ g.sizes.length
 n8 : g.sizes.length ≤ 8
 sizes : ∀ x ∈ g.sizes,inR x
 sel : ∀ p ∈ g.selectivities,0 ≤ p.a ∧ 1 ≤ p.divisor ∧ p.divisor ≤ 1073741824
theorem qy {α ρ : Type} {step : Nat → α → Unit → Option (Flow Unit ρ)} {xs : List α} (p : α → Bool) (out : ρ) (hs : ∀ k x,xs[k]? = some x → step k x () = some (if p x then .ret out else .next ())) :
  aC step 0 xs () = some (if xs.any p then .ret out else .next ()) := by
 obtain ⟨fl,h1,h2⟩ := eh (step := step) (fun j s=>(xs.take j).any p = false) (fun r=>r = out ∧ xs.any p = true) xs 0 () (by simp) (fun k x s hk hI=>by
  rw [Nat.zero_add] at hI ⊢
  refine ⟨_,hs k x hk,?_⟩
  have e1 : xs.take (k + 1) = xs.take k ++ [x] := by rw [List.take_add_one,hk]; rfl
  cases hp : p x with
  | true=>exact ⟨rfl,List.any_eq_true.2 ⟨x,List.mem_of_getElem? hk,hp⟩⟩
  | false=>simp only [Bool.false_eq_true,if_false]; rw [e1]; simp [hI,hp])
 rw [h1]
 cases fl with
 | next s =>
  simp only [Nat.zero_add,List.take_length] at h2
  rw [zy (by rw [h2]; simp)]
 | brk s=>exact absurd h2 (by simp)
 | ret r=>rw [h2.1,zp h2.2]
theorem validG_eq (g : LJoinorderGraph) : ∃ e,bK g = some e ∧ (e = 0 → ValidG g) := by
 unfold bK
 simp only [ck]
 generalize hc : (bif decide ((g.sizes.length : Int) < 1) then true else bif decide ((g.sizes.length : Int) > 8) then true else decide ((g.selectivities.length : Int) > 40)) = c
 cases c with
 | true=>exact ⟨2,rfl,fun h=>by cases h⟩
 | false =>
  have h1 : ¬ (g.sizes.length : Int) < 1 := fun h=>by rw [zt h] at hc; cases hc
  rw [zf h1,zd] at hc
  have h8 : ¬ (g.sizes.length : Int) > 8 := fun h=>by rw [zt h] at hc; cases hc
  rw [zd,qy (fun x=>decide (x < 0) || decide (x > 1073741824)) 1 (fun k x _=>by cases decide (x < 0) <;> cases decide (x > 1073741824) <;> rfl)]
  rw [qy (fun x=>decide (x.a < 0) || (decide (x.a ≥ x.b) || (decide (x.b ≥ (g.sizes.length : Int)) || (decide (x.divisor < 1) || decide (x.divisor > 1073741824))))) 1 (fun k x _=>by
   cases decide (x.a < 0) <;> cases decide (x.a ≥ x.b) <;> cases decide (x.b ≥ (g.sizes.length : Int)) <;> cases decide (x.divisor < 1) <;> cases decide (x.divisor > 1073741824) <;> rfl)]
  cases hA : g.sizes.any (fun x=>decide (x < 0) || decide (x > 1073741824)) with
  | true=>exact ⟨1,rfl,fun h=>by cases h⟩
  | false =>
   cases hB : g.selectivities.any (fun x=>decide (x.a < 0) || (decide (x.a ≥ x.b) || (decide (x.b ≥ (g.sizes.length : Int)) || (decide (x.divisor < 1) || decide (x.divisor > 1073741824))))) with
   | true=>exact ⟨1,rfl,fun h=>by cases h⟩
   | false =>
    refine ⟨0,rfl,fun _=>⟨by omega,by omega,fun x hx=>?_,fun p hp=>?_⟩⟩
    ·have := List.any_eq_false.1 hA x hx
     simp at this
     exact ⟨by omega,by omega⟩
    ·have := List.any_eq_false.1 hB p hp
     simp at this
     omega
theorem fK {σ β : Type} (s : σ) (k : σ → Option β) : (Flow.next s : Flow σ Empty).thenP k = k s := rfl
theorem range_then {α σ β : Type} {step : Nat → α → σ → Option (Flow σ Empty)} {k : σ → Option β} {R : β → Prop} {xs : List α} {s0 : σ} (I : σ → Prop) (h0 : I s0)
  (hk : ∀ s,I s → ∃ r,k s = some r ∧ R r) (hs : ∀ j x s,xs[j]? = some x → I s → ∃ s',step j x s = some (.next s') ∧ I s') :
  ∃ r,af (aC step 0 xs s0) (fun fl=>fl.thenP k) = some r ∧ R r := by
 obtain ⟨fl,h1,h2⟩ := eh (step := step) (fun _=>I) (fun _=>False) xs 0 s0 h0 (fun j x s hj hI=>by
  rw [Nat.zero_add]
  obtain ⟨s',h1,h2⟩ := hs j x s hj hI
  exact ⟨_,h1,h2⟩)
 rw [h1]
 cases fl with
 | next s=>exact hk s h2
 | brk s=>exact absurd h2 (by simp)
 | ret r=>exact r.elim
theorem inR_mul {a b : Int} (ha : inR a) (hb : inR b) : 0 ≤ a * b ∧ a * b ≤ 1152921504606846976 :=
 ⟨Int.mul_nonneg ha.1 hb.1,Int.le_trans (Int.mul_le_mul ha.2 hb.2 hb.1 (by decide)) (by decide)⟩
theorem size_eq {g : LJoinorderGraph} (hv : ValidG g) (s : Int) : ∃ h,eJ g s = some h ∧ inR h := by
 unfold eJ
 refine range_then (R := inR) inR ⟨by decide,by decide⟩ (fun s h=>⟨s,rfl,h⟩) (fun j x s1 hj h1=>?_)
 have hx := hv.sizes x (List.mem_of_getElem? hj)
 have e1 : lP .i64 s (j : Int) = some (s.fdiv (2 ^ (min (j : Int).toNat IntKind.i64.bits))) := by unfold lP; rw [zp (by omega)]
 rw [e1,bPs]
 cases (aO .i64 (s.fdiv (2 ^ (min (j : Int).toNat IntKind.i64.bits))) 1 == (0 : Int)) with
 | true=>exact ⟨s1,rfl,h1⟩
 | false =>
  rw [zd]
  obtain ⟨m0,m1⟩ := inR_mul h1 hx
  have hw : IntKind.i64.wrap (s1 * x) = s1 * x := bT (by omega) (by omega)
  rw [hw]
  have hstart : inR (if s1 * x < (1073741824 : Int) then s1 * x else 1073741824) := by
   split
   ·exact ⟨m0,by omega⟩
   ·exact ⟨by decide,by decide⟩
  have hgo := range_then (R := fun fl : Flow Int Empty=>∃ s',fl = .next s' ∧ inR s') (xs := g.selectivities) (k := fun s10 : Int=>some (Flow.next s10)) inR hstart (fun s h=>⟨_,rfl,s,rfl,h⟩)
   (step := fun (_ : Nat) (x10 : LJoinorderSelectivity) (s10 : Int) =>
    af (
     cond (x10.b == (j : Int))
      (af (lP .i64 s x10.a) fun (x42 : Int) =>
      some ((aO .i64 x42 (1 : Int)) == (1 : Int)))
      (some false)) fun (t13 : Bool) =>
    cond t13
     (af (quoI (IntKind.i64.wrap ((IntKind.i64.wrap (s10 + x10.divisor)) - (1 : Int))) x10.divisor) fun (x53 : Int) =>
     some (.next x53))
     (some (.next s10))) (fun i p n hi hn=>by
    obtain ⟨p0,p1,p2⟩ := hv.sel p (List.mem_of_getElem? hi)
    have e2 : lP .i64 s p.a = some (s.fdiv (2 ^ (min p.a.toNat IntKind.i64.bits))) := by unfold lP; rw [zp p0]
    have e3 : ∃ t,(cond (p.b == (j : Int)) (af (lP .i64 s p.a) fun (x42 : Int)=>some ((aO .i64 x42 (1 : Int)) == (1 : Int))) (some false)) = some t := by
     cases (p.b == (j : Int)) with
     | true=>exact ⟨_,by rw [zc,e2,bPs]⟩
     | false=>exact ⟨false,rfl⟩
    obtain ⟨t,e3⟩ := e3
    rw [e3,bPs]
    cases t with
    | false=>exact ⟨n,rfl,hn⟩
    | true =>
     have n0 := hn.1
     have n1 := hn.2
     have w1 : IntKind.i64.wrap (n + p.divisor) = n + p.divisor := bT (by omega) (by omega)
     have w2 : IntKind.i64.wrap (n + p.divisor - 1) = n + p.divisor - 1 := bT (by omega) (by omega)
     have hq : (n + p.divisor - 1).tdiv p.divisor = (n + p.divisor - 1) / p.divisor := Int.tdiv_eq_ediv_of_nonneg (by omega)
     have q0 : 0 ≤ (n + p.divisor - 1) / p.divisor := Int.ediv_nonneg (by omega) (by omega)
     have q1 : (n + p.divisor - 1) / p.divisor < 1073741825 := Int.ediv_lt_of_lt_mul (by omega) (by omega)
     rw [zc,w1,w2]
     unfold quoI
     rw [zy (by omega),hq,bT (by omega) (by omega),bPs]
     exact ⟨_,rfl,q0,by omega⟩)
  obtain ⟨fl,h2,s',rfl,h3⟩ := hgo
  exact ⟨s',h2,h3⟩
def kI : Nat → LJoinorderTree → Prop
 | 0,t=>t.children = []
 | n + 1,t=>t.children.length ≤ 2 ∧ ∀ c ∈ t.children,kI n c
theorem kI.up : ∀ {n m : Nat} {t : LJoinorderTree},n ≤ m → kI n t → kI m t
 | 0,0,_,_,h=>h
 | 0,m + 1,t,_,h=>by
  have h' : t.children = [] := h
  exact ⟨by rw [h']; simp,by rw [h']; simp⟩
 | n + 1,m + 1,_,hm,h=>⟨h.1,fun c hc=>kI.up (by omega) (h.2 c hc)⟩
theorem own_small : ∀ (n : Nat) (t : LJoinorderTree),kI n t → ∀ m,n + 1 ≤ m → ff m t = some t := by
 intro n
 induction n with
 | zero =>
  intro t ht m hm
  obtain ⟨m,rfl⟩ : ∃ k,m = k + 1 := ⟨m - 1,by omega⟩
  have h' : t.children = [] := ht
  cases t with
  | mk a l =>
   have h2 : l = [] := h'
   subst h2
   rfl
 | succ n ih =>
  intro t ht m hm
  obtain ⟨m,rfl⟩ : ∃ k,m = k + 1 := ⟨m - 1,by omega⟩
  cases t with
  | mk a l =>
   have hl : l.length ≤ 2 := ht.1
   have hc : ∀ c ∈ l,ff m c = some c := fun c hc=>ih c (ht.2 c hc) m (by omega)
   show hC (fun b0=>ff m b0) (LJoinorderTree.mk a l) = _
   unfold hC
   simp only [LJoinorderTree.children,LJoinorderTree.leaf]
   match l,hl,hc with
   | [],_,_=>rfl
   | [x],_,hc =>
    simp only [aC,hc x (by simp),bPs,nX (bytes := 32) (xs := ([] : List LJoinorderTree)) (ys := [x]) (by simp) (by simp; unfold maxLen; omega),List.nil_append,fK]
   | [x,y],_,hc =>
    simp only [aC,hc x (by simp),hc y (by simp),bPs,nX (bytes := 32) (xs := ([] : List LJoinorderTree)) (ys := [x]) (by simp) (by simp; unfold maxLen; omega),List.nil_append,nX (bytes := 32) (xs := [x]) (ys := [y]) (by simp) (by simp; unfold maxLen; omega),List.cons_append,fK]
theorem own_eq {n : Nat} {t : LJoinorderTree} (h : kI n t) : kN t = some t := ix (n + 1) (own_small n t h)
def nil0 : LJoinorderBest := ⟨.mk 0 [],0,false⟩
def tat (T : List LJoinorderBest) (i : Int) : LJoinorderBest := T.getD i.toNat nil0
theorem mM {T : List LJoinorderBest} {i : Int} (h0 : 0 ≤ i) (h1 : i < T.length) : aH T i = some (tat T i) := by
 have hlt : i.toNat < T.length := by omega
 rw [jz h0 (ze hlt)]
 simp [tat,hlt]
theorem tat_set {T : List LJoinorderBest} {i j : Int} (h0 : 0 ≤ i) (h1 : i < T.length) (hj : 0 ≤ j) (v : LJoinorderBest) : tat (T.set i.toNat v) j = if j = i then v else tat T j := by
 unfold tat
 rw [List.getD_eq_getElem?_getD,List.getD_eq_getElem?_getD,List.getElem?_set]
 by_cases h : j = i
 ·subst h
  rw [zp rfl,zp (by omega),zp rfl]
  rfl
 ·rw [zy (by omega),zy h]
inductive Rch (s : Int) : Int → Int → Prop
 | here (a : Int) : Rch s a a
 | next {a x : Int} : 0 < a → Rch s (aO .i64 (a - 1) s) x → Rch s a x
theorem Rch.snoc {s a x : Int} (h : Rch s a x) (hx : 0 < x) : Rch s a (aO .i64 (x - 1) s) := by
 induction h with
 | here a=>exact .next hx (.here _)
 | next h0 _ ih=>exact .next h0 (ih hx)
def kv (s : Int) : Int := aO .i64 (s - 1) s
structure OkAt (h : Int → Int) (ld : Bool) (T : List LJoinorderBest) (s : Int) : Prop where
 cost0 : 0 ≤ (tat T s).cost
 cost1 : (tat T s).cost ≤ 1073741824 * (s - 1)
 small : kI s.toNat (tat T s).tree
 leaf : (pop s == 1) = true → (tat T s).cost = 0
 split : (pop s == 1) = false → ∃ a,Rch s (kv s) a ∧ 0 < a ∧ a < s ∧ (tat T s).cost = (tat T a).cost + (tat T (s - a)).cost + h s ∧ (tat T s).tree.children.length = 2
 all : (pop s == 1) = false → ld = false → ∀ a,Rch s (kv s) a → 0 < a → a < s → (tat T s).cost ≤ (tat T a).cost + (tat T (s - a)).cost + h s
theorem OkAt.same {h : Int → Int} {ld : Bool} {T T' : List LJoinorderBest} {s : Int} (hs : 1 ≤ s) (he : ∀ x,1 ≤ x → x ≤ s → tat T' x = tat T x) (o : OkAt h ld T s) : OkAt h ld T' s := by
 have e := he s hs (Int.le_refl s)
 refine ⟨by rw [e]; exact o.cost0,by rw [e]; exact o.cost1,by rw [e]; exact o.small,fun hp=>by rw [e]; exact o.leaf hp,fun hp=>?_,fun hp hl a ha h0 h1=>?_⟩
 ·obtain ⟨a,h1,h2,h3,h4,h5⟩ := o.split hp
  exact ⟨a,h1,h2,h3,by rw [e,he a (by omega) (by omega),he (s - a) (by omega) (by omega)]; exact h4,by rw [e]; exact h5⟩
 ·rw [e,he a (by omega) (by omega),he (s - a) (by omega) (by omega)]
  exact o.all hp hl a ha h0 h1
structure Got (T : List LJoinorderBest) (h : Int) (ld : Bool) (s a : Int) (e : LJoinorderBest) : Prop where
 ok : e.ok = true
 cost0 : 0 ≤ e.cost
 cost1 : e.cost ≤ 1073741824 * (s - 1)
 small : kI s.toNat e.tree
 split : ∃ a,Rch s (kv s) a ∧ 0 < a ∧ a < s ∧ e.cost = (tat T a).cost + (tat T (s - a)).cost + h ∧ e.tree.children.length = 2
 all : ld = false → ∀ x,Rch s (kv s) x → 0 < x → Rch s a x ∨ e.cost ≤ (tat T x).cost + (tat T (s - x)).cost + h
theorem small_leaf (n : Nat) (y : Int) : kI n (.mk y []) := by
 cases n with
 | zero=>rfl
 | succ n=>exact ⟨by simp [LJoinorderTree.children],by simp [LJoinorderTree.children]⟩
theorem u64_id {x : Int} (h0 : 0 ≤ x) (h1 : x ≤ 4611686018427387904) : IntKind.u64.wrap x = x := by
 simp only [IntKind.wrap,IntKind.bits,IntKind.signed]
 simp
 omega
def hsz (g : LJoinorderGraph) (s : Int) : Int := (eJ g s).getD 0
theorem pow_eq {n : Nat} (h1 : 1 ≤ n) (h8 : n ≤ 8) : ∃ N : Nat,shlI .i64 1 (n : Int) = some (N : Int) ∧ 2 ≤ N ∧ N ≤ 256 := by
 have : n = 1 ∨ n = 2 ∨ n = 3 ∨ n = 4 ∨ n = 5 ∨ n = 6 ∨ n = 7 ∨ n = 8 := by omega
 rcases this with rfl | rfl | rfl | rfl | rfl | rfl | rfl | rfl
 ·exact ⟨2,rfl,by decide,by decide⟩
 ·exact ⟨4,rfl,by decide,by decide⟩
 ·exact ⟨8,rfl,by decide,by decide⟩
 ·exact ⟨16,rfl,by decide,by decide⟩
 ·exact ⟨32,rfl,by decide,by decide⟩
 ·exact ⟨64,rfl,by decide,by decide⟩
 ·exact ⟨128,rfl,by decide,by decide⟩
 ·exact ⟨256,rfl,by decide,by decide⟩
theorem cheapest_eq {g : LJoinorderGraph} (hv : ValidG g) (he : bK g = some 0) {N : Nat} (hN : shlI .i64 1 (g.sizes.length : Int) = some (N : Int)) (hN2 : 2 ≤ N) (hN8 : N ≤ 256) (ld : Bool) :
  ∃ r T,dX g ld = some r ∧ T.length = N ∧ (∀ s : Int,1 ≤ s → s < N → OkAt (hsz g) ld T s) ∧ r = ((tat T ((N : Int) - 1)).tree,(tat T ((N : Int) - 1)).cost,0) := by
 have fin : ∀ o : Option (LJoinorderTree × Int × Int),(∃ r,o = some r ∧ ∃ T,T.length = N ∧ (∀ s : Int,1 ≤ s → s < N → OkAt (hsz g) ld T s) ∧ r = ((tat T ((N : Int) - 1)).tree,(tat T ((N : Int) - 1)).cost,0)) →
   ∃ r T,o = some r ∧ T.length = N ∧ (∀ s : Int,1 ≤ s → s < N → OkAt (hsz g) ld T s) ∧ r = ((tat T ((N : Int) - 1)).tree,(tat T ((N : Int) - 1)).cost,0) := fun o ⟨r,h1,T,h2,h3,h4⟩=>⟨r,T,h1,h2,h3,h4⟩
 apply fin
 unfold dX
 rw [he,bPs,show ((0 : Int) != 0) = false from rfl,zd,hN,bPs,growI_ok ⟨by omega,by rw [Int.toNat_natCast]; omega,by rw [Int.toNat_natCast]; unfold maxLen; omega⟩,bPs,Int.toNat_natCast]
 refine oC (fun st : List LJoinorderBest × Int=>st.1.length = N ∧ 1 ≤ st.2 ∧ st.2 ≤ N ∧ (∀ t,1 ≤ t → t < st.2 → OkAt (hsz g) ld st.1 t) ∧ (∀ t,st.2 ≤ t → t < N → (tat st.1 t).ok = false)) (fun st=>((N : Int) - st.2).toNat)
  (fun st=>st.1.length = N ∧ ∀ t : Int,1 ≤ t → t < N → OkAt (hsz g) ld st.1 t) ?_ (fun st hI=>?_) (fun st hQ=>?_)
 ·refine ⟨by simp,by simp,by simp; omega,fun t h1 h2=>by simp only at h2; omega,fun t h1 h2=>?_⟩
  have hlt : t.toNat < N := by simp only at h1; omega
  simp [tat,hlt]
 ·obtain ⟨T,s⟩ := st
  obtain ⟨hT,hs1,hsN,hdone,hnew⟩ := hI
  simp only at hT hs1 hsN hdone hnew ⊢
  by_cases hlt : s < N
  ·rw [hT,zt hlt,zc]
   simp only [ck]
   have hpop : ce (IntKind.u64.wrap s) = pop s := rfl
   rw [hpop,bT (n := s + 1) (by omega) (by omega)]
   cases hp : (pop s == 1) with
   | true =>
    obtain ⟨y,hy⟩ := tzL_ok (x := s) (by omega) (by omega)
    rw [zc,u64_id (by omega) (by omega),hy,bPs,mM (by omega) (by omega),bPs]
    have hset : ∀ j,0 ≤ j → tat (T.set s.toNat (LJoinorderBest.mk (LJoinorderTree.mk y []) 0 true)) j = if j = s then LJoinorderBest.mk (LJoinorderTree.mk y []) 0 true else tat T j := fun j hj=>tat_set (by omega) (by omega) hj _
    refine ⟨_,rfl,⟨by simp [hT],by simp only; omega,by simp only; omega,fun t h1 h2=>?_,fun t h1 h2=>?_⟩,by simp only; omega⟩
    ·simp only at h2 ⊢
     by_cases hts : t < s
     ·exact (hdone t h1 hts).same h1 fun x hx0 hx1=>by rw [hset x (by omega),zy (by omega)]
     ·obtain rfl : t = s := by omega
      have e := hset t (by omega)
      rw [zp rfl] at e
      refine ⟨by rw [e]; simp,by rw [e]; simp only; omega,by rw [e]; exact small_leaf _ _,fun _=>by rw [e],fun h=>?_,fun h=>?_⟩
      ·rw [hp] at h; cases h
      ·rw [hp] at h; cases h
    ·simp only at h1 ⊢
     rw [hset t (by omega),zy (by omega)]
     exact hnew t (by omega) h2
   | false =>
    obtain ⟨h,hh,hR⟩ := size_eq hv s
    have hhs : hsz g s = h := by unfold hsz; rw [hh]; rfl
    rw [zd,hh,bPs,bT (n := s - 1) (by omega) (by omega)]
    obtain ⟨hp0,hp1⟩ := bits_pop hs1 (by omega) hp
    obtain ⟨q0,q1,q2⟩ := bits_and (s := s) (x := s - 1) (by omega) (by omega) (by omega) (by omega)
    have hb : ∀ t,1 ≤ t → t < s → 0 ≤ (tat T t).cost ∧ (tat T t).cost ≤ 1073741824 * (t - 1) ∧ kI t.toNat (tat T t).tree := fun t h1 h2=>⟨(hdone t h1 h2).cost0,(hdone t h1 h2).cost1,(hdone t h1 h2).small⟩
    have hR0 := hR.1
    have hR1 := hR.2
    refine oC (fun st : List LJoinorderBest × Int=>st.1.length = N ∧ (∀ t,0 ≤ t → t ≠ s → tat st.1 t = tat T t) ∧ 0 ≤ st.2 ∧ st.2 < s ∧ it .i64 s st.2 = s - st.2 ∧ Rch s (kv s) st.2 ∧ ((st.2 = kv s ∧ (tat st.1 s).ok = false) ∨ Got T h ld s st.2 (tat st.1 s)))
     (fun st=>st.2.toNat) (fun st=>st.1.length = N ∧ (∀ t,0 ≤ t → t ≠ s → tat st.1 t = tat T t) ∧ st.2 ≤ 0 ∧ Got T h ld s st.2 (tat st.1 s)) ⟨hT,fun _ _ _=>rfl,q0,by simp only; omega,q2,.here _,.inl ⟨rfl,hnew s (by omega) hlt⟩⟩ (fun st hI=>?_) (fun st hQ=>?_)
    ·obtain ⟨T',a⟩ := st
     obtain ⟨hT',hoff,ha0,has,hsub,hrch,hcur⟩ := hI
     simp only at hT' hoff ha0 has hsub hrch hcur ⊢
     by_cases hapos : a > 0
     ·obtain ⟨p0,p1,p2⟩ := bits_and (s := s) (x := a - 1) (by omega) (by omega) (by omega) (by omega)
      have hrch' := hrch.snoc hapos
      rw [zt hapos,zc,hsub,bT (n := a - 1) (by omega) (by omega)]
      have hpop2 : ce (IntKind.u64.wrap (s - a)) = pop (s - a) := rfl
      rw [hpop2]
      -- going on with what was found
      have keep : ∀ e : LJoinorderBest,Got T h ld s a e → (ld = false → e.cost ≤ (tat T a).cost + (tat T (s - a)).cost + h) → Got T h ld s (aO .i64 (a - 1) s) e := fun e hg hle =>
       ⟨hg.ok,hg.cost0,hg.cost1,hg.small,hg.split,fun hl x hx hx0=>by
        rcases hg.all hl x hx hx0 with hr | hr
        ·cases hr with
         | here=>exact .inr (hle hl)
         | next _ hr=>exact .inl hr
        ·exact .inr hr⟩
      cases ht : (bif ld then decide (pop (s - a) > 1) else false) with
      | true =>
       rw [zc]
       have hld : ld = true := by cases ld with
        | true=>rfl
        | false=>cases ht
       refine ⟨_,rfl,⟨hT',hoff,p0,by simp only; omega,p2,hrch',?_⟩,by simp only; omega⟩
       rcases hcur with ⟨hfirst,_⟩ | hg
       ·rw [hld,zc,hfirst] at ht
        exact absurd (of_decide_eq_true ht) hp1
       ·exact .inr (keep _ hg fun hl=>by rw [hld] at hl; cases hl)
      | false =>
       have ea : tat T' a = tat T a := hoff a ha0 (by omega)
       have eb : tat T' (s - a) = tat T (s - a) := hoff (s - a) (by omega) (by omega)
       obtain ⟨ca0,ca1,ca2⟩ := hb a (by omega) has
       obtain ⟨cb0,cb1,cb2⟩ := hb (s - a) (by omega) (by omega)
       have w1 : IntKind.i64.wrap ((tat T a).cost + (tat T (s - a)).cost) = (tat T a).cost + (tat T (s - a)).cost := bT (by omega) (by omega)
       have w2 : IntKind.i64.wrap ((tat T a).cost + (tat T (s - a)).cost + h) = (tat T a).cost + (tat T (s - a)).cost + h := bT (by omega) (by omega)
       rw [zd,mM ha0 (by omega),bPs,mM (i := s - a) (by omega) (by omega),bPs,mM (i := s) (by omega) (by omega),bPs,ea,eb,w1,w2,bPs]
       have hset : ∀ v j,0 ≤ j → tat (T'.set s.toNat v) j = if j = s then v else tat T' j := fun v j hj=>tat_set (by omega) (by omega) hj _
       -- the new entry
       have hnewG : Got T h ld s (aO .i64 (a - 1) s) (LJoinorderBest.mk (LJoinorderTree.mk 0 [(tat T a).tree,(tat T (s - a)).tree]) ((tat T a).cost + (tat T (s - a)).cost + h) true) ∨ ¬ (ld = false → ∀ x,Rch s (kv s) x → 0 < x → Rch s (aO .i64 (a - 1) s) x ∨ (tat T a).cost + (tat T (s - a)).cost + h ≤ (tat T x).cost + (tat T (s - x)).cost + h) := by
        by_cases hall : ld = false → ∀ x,Rch s (kv s) x → 0 < x → Rch s (aO .i64 (a - 1) s) x ∨ (tat T a).cost + (tat T (s - a)).cost + h ≤ (tat T x).cost + (tat T (s - x)).cost + h
        ·refine .inl ⟨rfl,by simp only; omega,by simp only; omega,?_,⟨a,hrch,hapos,has,rfl,rfl⟩,hall⟩
         obtain ⟨m,hm⟩ : ∃ m,s.toNat = m + 1 := ⟨s.toNat - 1,by omega⟩
         rw [hm]
         refine ⟨by simp [LJoinorderTree.children],fun c hc=>?_⟩
         simp only [LJoinorderTree.children,List.mem_cons,List.mem_nil_iff,or_false] at hc
         rcases hc with rfl | rfl
         ·exact ca2.up (by omega)
         ·exact cb2.up (by omega)
        ·exact .inr hall
       have put : (ld = false → ∀ x,Rch s (kv s) x → 0 < x → Rch s (aO .i64 (a - 1) s) x ∨ (tat T a).cost + (tat T (s - a)).cost + h ≤ (tat T x).cost + (tat T (s - x)).cost + h) →
         Got T h ld s (aO .i64 (a - 1) s) (tat (T'.set s.toNat (LJoinorderBest.mk (LJoinorderTree.mk 0 [(tat T a).tree,(tat T (s - a)).tree]) ((tat T a).cost + (tat T (s - a)).cost + h) true)) s) := fun hall=>by
        rw [hset _ s (by omega),zp rfl]
        exact hnewG.resolve_right (fun h=>h hall)
       have hoff' : ∀ v t,0 ≤ t → t ≠ s → tat (T'.set s.toNat v) t = tat T t := fun v t h0 h1=>by rw [hset v t h0,zy h1]; exact hoff t h0 h1
       cases hok : (tat T' s).ok with
       | false =>
        rw [Bool.not_false,zc,bPs,zc,bPs,bPs,bPs]
        refine ⟨_,rfl,⟨by simp [hT'],hoff' _,p0,by simp only; omega,p2,hrch',.inr (put fun hl x hx hx0=>?_)⟩,by simp only; omega⟩
        rcases hcur with ⟨hfirst,_⟩ | hg
        ·rw [← hfirst] at hx
         cases hx with
         | here=>exact .inr (Int.le_refl _)
         | next _ hr=>exact .inl hr
        ·rw [hg.ok] at hok; cases hok
       | true =>
        have hg : Got T h ld s a (tat T' s) := hcur.resolve_left fun hx=>by rw [hok] at hx; cases hx.2
        rw [Bool.not_true,zd,bPs,bPs]
        by_cases hless : (tat T a).cost + (tat T (s - a)).cost + h < (tat T' s).cost
        ·rw [zt hless,zc]
         refine ⟨_,rfl,⟨by simp [hT'],hoff' _,p0,by simp only; omega,p2,hrch',.inr (put fun hl x hx hx0=>?_)⟩,by simp only; omega⟩
         rcases hg.all hl x hx hx0 with hr | hr
         ·cases hr with
          | here=>exact .inr (Int.le_refl _)
          | next _ hr=>exact .inl hr
         ·exact .inr (by omega)
        ·rw [zf hless,zd]
         exact ⟨_,rfl,⟨hT',hoff,p0,by simp only; omega,p2,hrch',.inr (keep (tat T' s) hg fun _=>by omega)⟩,by simp only; omega⟩
     ·rw [zf hapos,zd]
      refine ⟨_,rfl,hT',hoff,by simp only; omega,?_⟩
      rcases hcur with ⟨hfirst,_⟩ | hg
      ·exact absurd (show a > 0 by rw [hfirst]; exact hp0) hapos
      ·exact hg
    ·obtain ⟨T',a⟩ := st
     obtain ⟨hT',hoff,ha,hg⟩ := hQ
     simp only at hT' hoff ha hg ⊢
     refine ⟨_,rfl,⟨hT',by simp only; omega,by simp only; omega,fun t h1 h2=>?_,fun t h1 h2=>?_⟩,by simp only; omega⟩
     ·simp only at h2 ⊢
      by_cases hts : t < s
      ·exact (hdone t h1 hts).same h1 fun x hx0 hx1=>hoff x (by omega) (by omega)
      ·obtain rfl : t = s := by omega
       refine ⟨hg.cost0,hg.cost1,hg.small,fun hx=>by (rw [hp] at hx; cases hx),fun _=>?_,fun _ hl x hx hx0 hx1=>?_⟩
       ·obtain ⟨x,x1,x2,x3,x4,x5⟩ := hg.split
        exact ⟨x,x1,x2,x3,by rw [hoff x (by omega) (by omega),hoff (t - x) (by omega) (by omega),hhs]; exact x4,x5⟩
       ·rw [hoff x (by omega) (by omega),hoff (t - x) (by omega) (by omega),hhs]
        rcases hg.all hl x hx hx0 with hr | hr
        ·cases hr with
         | here=>omega
         | next h0 _=>omega
        ·exact hr
     ·simp only at h1 ⊢
      rw [hoff t (by omega) (by omega)]
      exact hnew t (by omega) h2
  ·rw [hT,zf hlt,zd]
   exact ⟨_,rfl,hT,fun t h1 h2=>hdone t h1 (by omega)⟩
 ·obtain ⟨T,s⟩ := st
  obtain ⟨hT,hdone⟩ := hQ
  simp only at hT hdone ⊢
  have hlast := hdone ((N : Int) - 1) (by omega) (by omega)
  rw [hT,bT (n := (N : Int) - 1) (by omega) (by omega),mM (by omega) (by omega),bPs,own_eq hlast.small,bPs]
  exact ⟨_,rfl,T,hT,hdone,rfl⟩
theorem LQuery.inputs_lt {q x : LQuery} (h : x ∈ q.inputs) : SizeOf.sizeOf x < SizeOf.sizeOf q := by
 cases q
 simp only [LQuery.inputs] at h
 have := List.sizeOf_lt_of_mem h
 simp only [LQuery.mk.sizeOf_spec]
 omega
theorem LQuery.ind {p : LQuery → Prop} (h : ∀ q : LQuery,(∀ x ∈ q.inputs,p x) → p q) : ∀ q,p q := by
 intro q
 generalize hn : SizeOf.sizeOf q = n
 induction n using Nat.strongRecOn generalizing q with
 | _ n ih=>exact h q fun x hx=>ih _ (hn ▸ LQuery.inputs_lt hx) x rfl
theorem oi {α : Type} {p : α → Nat → Prop} : ∀ (xs : List α),(∀ x ∈ xs,∃ N,∀ n,N ≤ n → p x n) → ∃ N,∀ n,N ≤ n → ∀ x ∈ xs,p x n
 | [],_=>⟨0,fun _ _ x hx=>by simp at hx⟩
 | y :: xs,h=>by
  obtain ⟨N,hN⟩ := h y (by simp)
  obtain ⟨N',hN'⟩ := oi xs fun x hx=>h x (by simp [hx])
  refine ⟨N + N',fun n hn x hx=>?_⟩
  rcases List.mem_cons.1 hx with rfl | hx
  ·exact hN n (by omega)
  ·exact hN' n (by omega) x hx
theorem gK {α σ ρ : Type} {step step' : Nat → α → σ → Option (Flow σ ρ)} : ∀ (xs : List α) (j : Nat) (s : σ),(∀ k x s,xs[k]? = some x → step (j + k) x s = step' (j + k) x s) → aC step j xs s = aC step' j xs s
 | [],_,_,_=>rfl
 | x :: xs,j,s,h=>by
  have h0 := h 0 x s rfl
  rw [Nat.add_zero] at h0
  rw [aC,aC,h0]
  split
  ·rfl
  ·exact gK xs (j + 1) _ fun k y t hk=>by
    have := h (k + 1) y t (by simpa using hk)
    rwa [show j + (k + 1) = j + 1 + k from by omega] at this
  ·rfl
  ·rfl
theorem dc {α : Type} {xs : List α} {k : Nat} {x : α} (h : xs[k]? = some x) : x ∈ xs := List.mem_of_getElem? h
theorem kP {γ β : Type} {F : Nat → γ → LQuery → Option β} {O : (γ → LQuery → Option β) → γ → LQuery → Option β} (hF : ∀ n,F (n + 1) = O (F n)) (c : γ) (q : LQuery)
  (hc : ∀ r r' : γ → LQuery → Option β,(∀ x ∈ q.inputs,r c x = r' c x) → O r c q = O r' c q) (hx : ∀ x ∈ q.inputs,∃ v,eH (fun n=>F n c x) = some v) {r : β} (h : O (fun c q=>eH fun n=>F n c q) c q = some r) :
  eH (fun n=>F n c q) = some r := by
 obtain ⟨N,hN⟩ := oi (p := fun x n=>F n c x = eH fun n=>F n c x) q.inputs (fun x hm=>by
  obtain ⟨v,hv⟩ := hx x hm
  obtain ⟨N,hN⟩ := limN_ev hv
  exact ⟨N,fun n hn=>by rw [hN n hn,hv]⟩)
 refine ix (N + 1) fun m hm=>?_
 obtain ⟨m,rfl⟩ : ∃ k,m = k + 1 := ⟨m - 1,by omega⟩
 rw [hF,hc _ (fun c q=>eH fun n=>F n c q) (hN m (by omega)),h]
def bC (q : LQuery) : List LQuery := q :: (q.inputs.attach.map fun x=>bC x.1).flatten
termination_by SizeOf.sizeOf q
decreasing_by exact LQuery.inputs_lt x.2
theorem fA (q : LQuery) : bC q = q :: (q.inputs.map bC).flatten := by
 rw [bC,List.attach_map_val (f := bC)]
theorem nodesQ_pos (q : LQuery) : 1 ≤ (bC q).length := by rw [fA]; simp
theorem flat_le {α β : Type} {f : α → List β} {xs : List α} {x : α} (h : x ∈ xs) : (f x).length ≤ ((xs.map f).flatten).length := by
 induction xs with
 | nil=>simp at h
 | cons y xs ih =>
  simp only [List.map_cons,List.flatten_cons,List.length_append]
  rcases List.mem_cons.1 h with rfl | h
  ·omega
  ·have := ih h; omega
theorem jr {q x : LQuery} (h : x ∈ q.inputs) : (bC x).length + 1 ≤ (bC q).length := by
 rw [fA q]
 have := flat_le (f := bC) h
 simp only [List.length_cons]
 omega
theorem cu {α : Type} {bytes : Nat} {xs ys : List α} (hb : bytes ≤ 200) (h : xs.length + ys.length ≤ 10000000) : cJ bytes xs ys = some (xs ++ ys) := by
 refine nX ?_ (by unfold maxLen; omega)
 have : (xs.length + ys.length) * bytes ≤ 10000000 * 200 := Nat.mul_le_mul h hb
 omega
theorem take_flat {α β : Type} {f : α → List β} {xs : List α} {k : Nat} : (((xs.take k).map f).flatten).length ≤ ((xs.map f).flatten).length := by
 induction xs generalizing k with
 | nil=>simp
 | cons y xs ih =>
  cases k with
  | zero=>simp
  | succ k=>simp only [List.take_succ_cons,List.map_cons,List.flatten_cons,List.length_append]; have := ih (k := k); omega
theorem nodes_ok : ∀ q : LQuery,(bC q).length ≤ 10000000 → gW q = some (bC q) := by
 refine LQuery.ind fun q ih hb=>?_
 refine kP (γ := Unit) (F := fun n _ q=>gR n q) (O := fun r _ q=>gS (fun x=>r () x) q) (fun n=>rfl) () q ?_ (fun x hx=>⟨_,ih x hx (by have := jr hx; omega)⟩) ?_
 ·intro r r' h
  simp only [gS]
  congr 1
  exact gK q.inputs 0 _ fun k x s hk=>by rw [h x (dc hk)]
 ·have hr := rMa (step := fun (_ : Nat) (x1 : LQuery) (s1 : List LQuery)=>af (gW x1) fun x17=>af (cJ 160 s1 x17) fun (x18 : List LQuery)=>some (Flow.next (ρ := Empty) x18)) (xs := q.inputs) (s := [q])
   (fun k=>q :: ((q.inputs.take k).map bC).flatten) (by simp) (fun k x hk=>by
    have hx := dc hk
    rw [ih x hx (by have := jr hx; omega),bPs,cu (by decide),bPs]
    ·rw [List.take_add_one,hk]; simp
    ·have h1 : (((q.inputs.take (k + 1)).map bC).flatten).length ≤ ((q.inputs.map bC).flatten).length := take_flat
     rw [List.take_add_one,hk] at h1
     rw [fA] at hb
     simp at h1 hb ⊢
     omega)
  simp only [gS]
  have e : ∀ x,(eH fun n=>gR n x) = gW x := fun _=>rfl
  simp only [e]
  rw [hr,bPs,cq,List.take_length,fA]
def dC (a b : Int) : Int := if b > a then b else a
theorem nK {a b c : Int} (h : a ≤ c) (h' : b ≤ c) : dC a b ≤ c := by unfold dC; split <;> assumption
theorem kp (a b : Int) : a ≤ dC a b := by unfold dC; split <;> omega
theorem maxI_r (a b : Int) : b ≤ dC a b := by unfold dC; split <;> omega
def fc (q : LQuery) : Int := (q.inputs.attach.map fun x=>fc x.1).foldl dC 0 + 1
termination_by SizeOf.sizeOf q
decreasing_by exact LQuery.inputs_lt x.2
theorem nu (q : LQuery) : fc q = (q.inputs.map fc).foldl dC 0 + 1 := by
 rw [fc,List.attach_map_val (f := fc)]
theorem pl : ∀ {l : List Int} {a c : Int},a ≤ c → (∀ x ∈ l,x ≤ c) → l.foldl dC a ≤ c
 | [],_,_,h,_=>h
 | x :: l,a,c,h,hl=>pl (l := l) (nK h (hl x (by simp))) fun y hy=>hl y (by simp [hy])
theorem lU : ∀ {l : List Int} {a : Int},a ≤ l.foldl dC a ∧ ∀ x ∈ l,x ≤ l.foldl dC a
 | [],a=>⟨Int.le_refl a,by simp⟩
 | x :: l,a=>by
  obtain ⟨h1,h2⟩ := lU (l := l) (a := dC a x)
  simp only [List.foldl_cons]
  refine ⟨Int.le_trans (kp a x) h1,fun y hy=>?_⟩
  rcases List.mem_cons.1 hy with rfl | hy
  ·exact Int.le_trans (maxI_r a y) h1
  ·exact h2 y hy
theorem depthQ_nodes : ∀ q : LQuery,1 ≤ fc q ∧ fc q ≤ (bC q).length := by
 refine LQuery.ind fun q ih=>?_
 rw [nu,fA]
 have h1 : (q.inputs.map fc).foldl dC 0 ≤ (((q.inputs.map bC).flatten).length : Nat) := pl (by omega) fun x hx=>by
  obtain ⟨y,hy,rfl⟩ := List.mem_map.1 hx
  have := (ih y hy).2
  have := flat_le (f := bC) hy
  omega
 have h2 := (lU (l := q.inputs.map fc) (a := 0)).1
 simp only [List.length_cons]
 omega
theorem depthQ_sub {q x : LQuery} (h : x ∈ q.inputs) : fc x + 1 ≤ fc q := by
 rw [nu q]
 have := (lU (l := q.inputs.map fc) (a := 0)).2 (fc x) (List.mem_map.2 ⟨x,h,rfl⟩)
 omega
theorem depth_ok : ∀ q : LQuery,(bC q).length ≤ 10000000 → iR q = some (fc q) := by
 refine LQuery.ind fun q ih hb=>?_
 refine kP (γ := Unit) (F := fun n _ q=>gV n q) (O := fun r _ q=>gU (fun x=>r () x) q) (fun n=>rfl) () q ?_ (fun x hx=>⟨_,ih x hx (by have := jr hx; omega)⟩) ?_
 ·intro r r' h
  simp only [gU]
  congr 1
  exact gK q.inputs 0 _ fun k x s hk=>by rw [h x (dc hk)]
 ·have hr := rMa (step := fun (_ : Nat) (x1 : LQuery) (s1 : Int)=>af (iR x1) fun x15=>some (Flow.next (ρ := Empty) (if x15 > s1 then x15 else s1))) (xs := q.inputs) (s := 0)
   (fun k=>((q.inputs.take k).map fc).foldl dC 0) (by simp) (fun k x hk=>by
    have hx := dc hk
    rw [ih x hx (by have := jr hx; omega),bPs,List.take_add_one,hk]
    simp [dC])
  simp only [gU]
  have e : ∀ x,(eH fun n=>gV n x) = iR x := fun _=>rfl
  simp only [e]
  rw [hr,bPs,cq,List.take_length,nu]
  have h := depthQ_nodes q
  rw [nu] at h
  rw [bT (by omega) (by omega)]
def capI (n : Int) : Int := if 20001 < n then 20001 else n
def iD (kind : Int) (s : Int × Int) (j : Nat) (x : Int × Int) : Int × Int :=
 (capI (if j = 0 then x.1 else if kind = 6 then s.1 + x.1 else if kind = 4 ∨ kind = 5 then s.1 * dC 1 x.1 else s.1),dC s.2 x.2)
def cV (kind : Int) : Nat → List (Int × Int) → Int × Int → Int × Int
 | _,[],s=>s
 | j,x :: l,s=>cV kind (j + 1) l (iD kind s j x)
def em (q : LQuery) : Int × Int :=
 let s := cV q.kind 0 (q.inputs.attach.map fun x=>em x.1) (0,0)
 if q.kind = 1 then (24,dC s.2 24) else (s.1,dC s.2 s.1)
termination_by SizeOf.sizeOf q
decreasing_by exact LQuery.inputs_lt x.2
theorem mostQ_eq (q : LQuery) : em q = if q.kind = 1 then (24,dC (cV q.kind 0 (q.inputs.map em) (0,0)).2 24) else ((cV q.kind 0 (q.inputs.map em) (0,0)).1,dC (cV q.kind 0 (q.inputs.map em) (0,0)).2 (cV q.kind 0 (q.inputs.map em) (0,0)).1) := by
 rw [em,List.attach_map_val (f := em)]
def ly (s : Int × Int) : Prop := 0 ≤ s.1 ∧ s.1 ≤ 20001 ∧ 0 ≤ s.2 ∧ s.2 ≤ 20001
theorem capI_b {n : Int} (h : 0 ≤ n) : 0 ≤ capI n ∧ capI n ≤ 20001 := by unfold capI; split <;> omega
theorem mostStep_r {kind : Int} {s x : Int × Int} {j : Nat} (hs : ly s) (hx : ly x) : ly (iD kind s j x) := by
 obtain ⟨a1,a2,a3,a4⟩ := hs
 obtain ⟨b1,b2,b3,b4⟩ := hx
 unfold iD
 have h1 : 0 ≤ (if j = 0 then x.1 else if kind = 6 then s.1 + x.1 else if kind = 4 ∨ kind = 5 then s.1 * dC 1 x.1 else s.1) := by
  split
  ·exact b1
  ·split
   ·omega
   ·split
    ·exact Int.mul_nonneg a1 (Int.le_trans (by decide) (kp 1 x.1))
    ·exact a1
 exact ⟨(capI_b h1).1,(capI_b h1).2,Int.le_trans a3 (kp _ _),nK a4 b4⟩
theorem oB {kind : Int} : ∀ {l : List (Int × Int)} {j : Nat} {s : Int × Int},ly s → (∀ x ∈ l,ly x) → ly (cV kind j l s)
 | [],_,_,h,_=>h
 | x :: l,j,s,h,hl=>oB (l := l) (mostStep_r h (hl x (by simp))) fun y hy=>hl y (by simp [hy])
theorem mostQ_r : ∀ q : LQuery,ly (em q) := by
 refine LQuery.ind fun q ih=>?_
 rw [mostQ_eq]
 have h : ly (cV q.kind 0 (q.inputs.map em) (0,0)) := oB ⟨by decide,by decide,by decide,by decide⟩ fun x hx=>by
  obtain ⟨y,hy,rfl⟩ := List.mem_map.1 hx
  exact ih y hy
 obtain ⟨a1,a2,a3,a4⟩ := h
 split
 ·exact ⟨show (0 : Int) ≤ 24 by decide,show (24 : Int) ≤ 20001 by decide,Int.le_trans a3 (kp _ _),nK a4 (by decide)⟩
 ·exact ⟨a1,a2,Int.le_trans a3 (kp _ _),nK a4 a2⟩
theorem pO (kind : Int) : ∀ (l : List (Int × Int)) (j : Nat) (s x : Int × Int),cV kind j (l ++ [x]) s = iD kind (cV kind j l s) (j + l.length) x
 | [],j,s,x=>by simp [cV]
 | y :: l,j,s,x=>by
  rw [List.cons_append,cV,pO kind l (j + 1),cV]
  congr 1
  simp
  omega
theorem mostStep_run {kind : Int} {s x : Int × Int} {j : Nat} (hs : ly s) (hx : ly x) :
  (cond ((j : Int) == (0 : Int))
   (some (Flow.next (ρ := Empty) ((if (20001 : Int) < x.1 then (20001 : Int) else x.1),(if x.2 > s.2 then x.2 else s.2))))
   (cond (kind == (6 : Int))
    (some (.next ((if (20001 : Int) < (IntKind.i64.wrap (s.1 + x.1)) then (20001 : Int) else (IntKind.i64.wrap (s.1 + x.1))),(if x.2 > s.2 then x.2 else s.2))))
    (bL (
     cond (kind == (4 : Int))
      (true)
      ((kind == (5 : Int)))) fun (t4 : Bool) =>
    cond t4
     (some (.next ((if (20001 : Int) < (IntKind.i64.wrap (s.1 * (if x.1 > (1 : Int) then x.1 else (1 : Int)))) then (20001 : Int) else (IntKind.i64.wrap (s.1 * (if x.1 > (1 : Int) then x.1 else (1 : Int))))),(if x.2 > s.2 then x.2 else s.2))))
     (some (.next ((if (20001 : Int) < s.1 then (20001 : Int) else s.1),(if x.2 > s.2 then x.2 else s.2))))))) = some (.next (iD kind s j x)) := by
 obtain ⟨a1,a2,a3,a4⟩ := hs
 obtain ⟨b1,b2,b3,b4⟩ := hx
 have hm : 1 ≤ dC 1 x.1 ∧ dC 1 x.1 ≤ 20001 := ⟨kp _ _,nK (by decide) b2⟩
 have hp : 0 ≤ s.1 * dC 1 x.1 ∧ s.1 * dC 1 x.1 ≤ 20001 * 20001 := ⟨Int.mul_nonneg a1 (by omega),Int.mul_le_mul a2 hm.2 (by omega) (by decide)⟩
 have hw1 : IntKind.i64.wrap (s.1 + x.1) = s.1 + x.1 := bT (by omega) (by omega)
 have hw2 : IntKind.i64.wrap (s.1 * (if x.1 > (1 : Int) then x.1 else (1 : Int))) = s.1 * dC 1 x.1 := bT (by show _ ≤ s.1 * dC 1 x.1; omega) (by show s.1 * dC 1 x.1 ≤ _; omega)
 rw [hw1,hw2]
 unfold iD capI dC bL
 by_cases h0 : j = 0
 ·subst h0; simp
 ·have : ((j : Int) == (0 : Int)) = false := by simp; omega
  rw [this]
  by_cases h6 : kind = 6
  ·subst h6; simp [h0]
  ·by_cases h4 : kind = 4
   ·subst h4; simp [h0]
   ·by_cases h5 : kind = 5
    ·subst h5; simp [h0]
    ·have e6 : (kind == (6 : Int)) = false := by simpa using h6
     have e4 : (kind == (4 : Int)) = false := by simpa using h4
     have e5 : (kind == (5 : Int)) = false := by simpa using h5
     simp [h0,h6,h4,h5,e6,e4,e5]
theorem most_ok : ∀ q : LQuery,kA q = some (em q) := by
 refine LQuery.ind fun q ih=>?_
 refine kP (γ := Unit) (F := fun n _ q=>iu n q) (O := fun r _ q=>ir (fun x=>r () x) q) (fun n=>rfl) () q ?_ (fun x hx=>⟨_,ih x hx⟩) ?_
 ·intro r r' h
  simp only [ir]
  congr 1
  exact gK q.inputs 0 _ fun k x s hk=>by rw [h x (dc hk)]
 ·simp only [ir]
  have e : ∀ x,(eH fun n=>iu n x) = kA x := fun _=>rfl
  simp only [e]
  rw [rMa (xs := q.inputs) (s := (0,0)) (fun k=>cV q.kind 0 ((q.inputs.take k).map em) (0,0)) (by simp [cV]) (fun k x hk=>by
    have hx := dc hk
    rw [ih x hx,bPs,mostStep_run (oB ⟨by decide,by decide,by decide,by decide⟩ fun y hy=>by
     obtain ⟨z,_,rfl⟩ := List.mem_map.1 hy
     exact mostQ_r z) (mostQ_r x),List.take_add_one,hk]
    have hk' := (zg.1 hk).1
    simp only [Option.toList_some,List.map_append,List.map_cons,List.map_nil]
    rw [pO]
    congr 3
    simp
    omega)]
  rw [bPs,cq,List.take_length,mostQ_eq]
  by_cases h1 : q.kind = 1
  ·simp [h1,dC]
  ·have : (q.kind == (1 : Int)) = false := by simpa using h1
   simp [h1,this,dC]
def mB : List (Int → Int) → Int → Int
 | [],s=>s
 | f :: l,s=>if s < 0 then -1 else mB l (f (IntKind.i64.wrap (s - 1)))
def sizeHere (q : LQuery) (m : Int) : Int :=
 q.aggregates.foldl (fun s a=>a.args.foldl (fun s e=>gw e (IntKind.i64.wrap (s - 1))) s) (q.exprs.foldl (fun s e=>gw e (IntKind.i64.wrap (s - 1))) m)
def kr (q : LQuery) : Int → Int := fun m=>mB (q.inputs.attach.map fun x=>kr x.1) (sizeHere q m)
termination_by SizeOf.sizeOf q
decreasing_by exact LQuery.inputs_lt x.2
theorem sizeQ_eq (q : LQuery) (m : Int) : kr q m = mB (q.inputs.map kr) (sizeHere q m) := by
 rw [kr,List.attach_map_val (f := kr)]
theorem pL {f : LQuery → Int → Option Int} : ∀ (l : List LQuery) (j : Nat) (s : Int),(∀ x ∈ l,∀ m,f x m = some (kr x m)) →
  af (aC (σ := Int) (ρ := Int) (fun (_ : Nat) (x6 : LQuery) (s6 : Int)=>cond (decide (s6 < (0 : Int))) (some (.ret (-1))) (af (f x6 (IntKind.i64.wrap (s6 - (1 : Int)))) fun x57=>some (.next x57))) j l s) (fun fl6=>fl6.thenR fun (s6 : Int)=>some s6) = some (mB (l.map kr) s)
 | [],j,s,_=>rfl
 | x :: l,j,s,h=>by
  rw [aC,List.map_cons,mB]
  by_cases hs : s < 0
  ·simp [hs]
  ·simp only [hs,decide_false,zd,if_false]
   rw [h x (by simp),bPs]
   exact pL l (j + 1) _ fun y hy=>h y (by simp [hy])
theorem size_ok : ∀ (q : LQuery) (m : Int),jV q m = some (kr q m) := by
 have key : ∀ q : LQuery,∃ N,∀ n,N ≤ n → ∀ m,eM n q m = some (kr q m) := by
  refine LQuery.ind fun q ih=>?_
  obtain ⟨N,hN⟩ := oi (p := fun x n=>∀ m,eM n x m = some (kr x m)) q.inputs ih
  refine ⟨N + 1,fun n hn m=>?_⟩
  obtain ⟨n,rfl⟩ : ∃ k,n = k + 1 := ⟨n - 1,by omega⟩
  rw [eM]
  simp only [iJ,ck]
  rw [nH (xs := q.exprs) (fun s e=>gw e (IntKind.i64.wrap (s - 1))) (fun _ _ _=>rfl),bPs,cq]
  rw [nH (xs := q.aggregates) (fun s a=>a.args.foldl (fun s e=>gw e (IntKind.i64.wrap (s - 1))) s) (fun k a _=>by
   rw [nH (xs := a.args) (fun s e=>gw e (IntKind.i64.wrap (s - 1))) (fun _ _ _=>rfl),bPs,cq]),bPs,cq]
  rw [pL q.inputs 0 _ (hN n (by omega)),sizeQ_eq]
  rfl
 intro q m
 obtain ⟨N,hN⟩ := key q
 exact ix N fun n hn=>hN n hn m
theorem LExpr.args_lt {e x : LExpr} (h : x ∈ e.args) : SizeOf.sizeOf x < SizeOf.sizeOf e := by
 cases e
 simp only [LExpr.args] at h
 have := List.sizeOf_lt_of_mem h
 simp only [LExpr.mk.sizeOf_spec]
 omega
theorem LExpr.ind {p : LExpr → Prop} (h : ∀ e : LExpr,(∀ x ∈ e.args,p x) → p e) : ∀ e,p e := by
 intro e
 generalize hn : SizeOf.sizeOf e = n
 induction n using Nat.strongRecOn generalizing e with
 | _ n ih=>exact h e fun x hx=>ih _ (hn ▸ LExpr.args_lt hx) x rfl
def gX (e : LExpr) : List (Nat × Int) := if e.kind = 3 ∧ 0 ≤ e.index ∧ e.index < 8 then [(e.index.toNat,e.value.kind)] else []
def cK (e : LExpr) : List (Nat × Int) := gX e ++ (e.args.attach.map fun x=>cK x.1).flatten
termination_by SizeOf.sizeOf e
decreasing_by exact LExpr.args_lt x.2
theorem oT (e : LExpr) : cK e = gX e ++ (e.args.map cK).flatten := by
 rw [cK,List.attach_map_val (f := cK)]
abbrev PSt := List Int × Bool × List Bool
def fW (out : List Int) (i : Nat) : List Int := out ++ List.replicate (i + 1 - out.length) 0
def dt (s : PSt) (p : Nat × Int) : PSt :=
 ((fW s.1 p.1).set p.1 p.2,s.2.1 || (s.2.2.getD p.1 false && (fW s.1 p.1).getD p.1 0 != p.2),s.2.2.set p.1 true)
def POk (s : PSt) : Prop := s.1.length ≤ 8 ∧ s.2.2.length = 8
theorem lL (out : List Int) (i : Nat) : (fW out i).length = max out.length (i + 1) := by simp [fW]; omega
theorem pstep_ok {s : PSt} {p : Nat × Int} (h : POk s) (hp : p.1 < 8) : POk (dt s p) := by
 refine ⟨?_,by simp [dt,h.2]⟩
 show ((fW s.1 p.1).set p.1 p.2).length ≤ 8
 rw [List.length_set,lL]
 have := h.1
 omega
theorem kH : ∀ e : LExpr,∀ p ∈ cK e,p.1 < 8 := by
 refine LExpr.ind fun e ih p hp=>?_
 rw [oT,List.mem_append] at hp
 rcases hp with hp | hp
 ·unfold gX at hp
  split at hp
  ·rename_i h; simp at hp; subst hp; simp; omega
  ·simp at hp
 ·obtain ⟨l,hl,hp⟩ := List.mem_flatten.1 hp
  obtain ⟨x,hx,rfl⟩ := List.mem_map.1 hl
  exact ih x hx p hp
theorem jS : ∀ {l : List (Nat × Int)} {s : PSt},POk s → (∀ p ∈ l,p.1 < 8) → POk (l.foldl dt s)
 | [],_,h,_=>h
 | p :: l,s,h,hl=>jS (l := l) (pstep_ok h (hl p (by simp))) fun q hq=>hl q (by simp [hq])
theorem pad_while (i : Nat) (hi : i < 8) : ∀ (n : Nat) (out : List Int),i + 1 - out.length = n → out.length ≤ 8 →
  gD (σ := List Int) (ρ := Empty) (fun (s7 : List Int)=>cond (decide ((s7.length : Int) ≤ (i : Int))) (af (cJ 8 s7 ([0] : List Int)) fun (x28 : List Int)=>some (.next x28)) (some (.brk s7))) out = some (.next (fW out i))
 | 0,out,hn,ho=>by
  refine gm (fl := .brk out) ?_ ?_
  ·have : ¬ ((out.length : Int) ≤ (i : Int)) := by omega
   simp [this]
  ·simp [fW,hn]
 | n + 1,out,hn,ho=>by
  refine gm (fl := .next (out ++ [0])) ?_ ?_
  ·have : (out.length : Int) ≤ (i : Int) := by omega
   simp only [this,decide_true,zc]
   rw [cu (by decide) (by simp; omega)]
   rfl
  ·have := pad_while i hi n (out ++ [0]) (by simp; omega) (by simp; omega)
   simp only
   rw [this]
   simp only [fW,List.length_append,List.length_singleton,List.append_assoc,hn]
   rw [show i + 1 - (out.length + 1) = n from by omega,show (List.replicate (n + 1) (0 : Int)) = [0] ++ List.replicate n 0 from rfl]
theorem arrI_at {xs : List Bool} {i : Nat} (h : xs.length = 8) (hi : i < 8) : arrI 8 xs (i : Int) = some (xs.getD i false) := by
 have : xs[i]? = some (xs.getD i false) := by rw [List.getD_eq_getElem?_getD,ze (by omega)]; rfl
 exact arrI_eq (by omega) (by simpa using this)
theorem getI_at {xs : List Int} {i : Nat} (h : i < xs.length) : aH xs (i : Int) = some (xs.getD i 0) := by
 have : xs[i]? = some (xs.getD i 0) := by rw [List.getD_eq_getElem?_getD,ze h]; rfl
 exact kY this
theorem look_ok : ∀ e : LExpr,∃ N,∀ n,N ≤ n → ∀ s : PSt,POk s → ct n e s.1 s.2.1 s.2.2 = some ((cK e).foldl dt s) := by
 refine LExpr.ind fun e ih=>?_
 obtain ⟨N,hN⟩ := oi (p := fun x n=>∀ s : PSt,POk s → ct n x s.1 s.2.1 s.2.2 = some ((cK x).foldl dt s)) e.args ih
 refine ⟨N + 1,fun n hn s hs=>?_⟩
 obtain ⟨n,rfl⟩ : ∃ k,n = k + 1 := ⟨n - 1,by omega⟩
 rw [ct]
 simp only [fo]
 have h1 : POk ((gX e).foldl dt s) := jS hs fun p hp=>kH e p (by rw [oT]; simp [hp])
 have hloop : ∀ s : PSt,POk s → af (aC (σ := List Int × Bool × List Bool) (ρ := Empty) (fun (_ : Nat) (x11 : LExpr) (s11 : List Int × Bool × List Bool) =>
   af (ct n x11 s11.1 s11.2.1 s11.2.2) fun x66=>some (.next (x66.1,x66.2.1,x66.2.2))) 0 e.args (s.1,s.2.1,s.2.2)) (fun fl11=>fl11.thenP fun (s11 : List Int × Bool × List Bool)=>some (s11.1,s11.2.1,s11.2.2)) =
   some (((e.args.map cK).flatten).foldl dt s) := by
  intro s hs
  rw [rMa (xs := e.args) (s := (s.1,s.2.1,s.2.2)) (fun k=>(((e.args.take k).map cK).flatten).foldl dt s) rfl (fun k x hk=>by
   have hx := dc hk
   have hok : POk ((((e.args.take k).map cK).flatten).foldl dt s) := jS hs fun p hp=>by
    obtain ⟨l,hl,hp⟩ := List.mem_flatten.1 hp
    obtain ⟨y,hy,rfl⟩ := List.mem_map.1 hl
    exact kH y p hp
   rw [hN n (by omega) x hx _ hok,bPs,List.take_add_one,hk]
   simp)]
  rw [bPs,cq,List.take_length]
 have key : (af (cond (bL (cond (e.kind == (3 : Int)) (cond (decide (e.index ≥ (0 : Int))) ((decide (e.index < (8 : Int)))) (false)) (false)) fun (t1 : Bool)=>t1)
   (af (gD (σ := List Int) (ρ := Empty) (fun (s7 : List Int)=>cond (decide ((s7.length : Int) ≤ e.index)) (af (cJ 8 s7 ([0] : List Int)) fun (x28 : List Int)=>some (.next x28)) (some (.brk s7))) s.1) fun fl7=>fl7.thenP fun (s7 : List Int) =>
   af (cond s.2.1 (some true) (af (arrI 8 s.2.2 e.index) fun (x33 : Bool)=>cond x33 (af (aH s7 e.index) fun (x39 : Int)=>some (x39 != e.value.kind)) (some false))) fun (t8 : Bool) =>
   af (aH s7 e.index) fun (_ : Int)=>bL (s7.set e.index.toNat e.value.kind) fun (y9 : List Int)=>af (arrI 8 s.2.2 e.index) fun (_ : Bool)=>bL (s.2.2.set e.index.toNat true) fun (y10 : List Bool)=>some (y9,t8,y10))
   (some (s.1,s.2.1,s.2.2))) fun t=>some t) = some ((gX e).foldl dt s) := by
  unfold bL
  by_cases hc : e.kind = 3 ∧ 0 ≤ e.index ∧ e.index < 8
  ·obtain ⟨hk,h0,h8⟩ := hc
   obtain ⟨i,hi⟩ : ∃ i : Nat,e.index = i := ⟨e.index.toNat,by omega⟩
   have hi8 : i < 8 := by omega
   have e0 : (e.kind == (3 : Int)) = true := by simpa using hk
   have e1 : decide (e.index ≥ (0 : Int)) = true := zt h0
   have e2 : decide (e.index < (8 : Int)) = true := zt h8
   rw [e0,e1,e2]
   simp only [zc]
   rw [hi,pad_while i hi8 _ s.1 rfl hs.1]
   simp only [bPs,cq]
   have hl : i < (fW s.1 i).length := by rw [lL]; omega
   rw [arrI_at hs.2 hi8,getI_at hl]
   simp only [bPs,Int.toNat_natCast]
   have hh : gX e = [(i,e.value.kind)] := by unfold gX; rw [zp ⟨hk,h0,h8⟩,hi,Int.toNat_natCast]
   rw [hh]
   simp only [List.foldl_cons,List.foldl_nil,dt]
   cases hb : s.2.1 <;> cases hc : s.2.2.getD i false <;> simp
  ·have hh : gX e = [] := by unfold gX; rw [zy hc]
   rw [hh]
   have e0 : (cond (e.kind == (3 : Int)) (cond (decide (e.index ≥ (0 : Int))) ((decide (e.index < (8 : Int)))) (false)) (false)) = false := by
    by_cases a : e.kind = 3
    ·by_cases b : 0 ≤ e.index
     ·have : ¬ e.index < 8 := fun h=>hc ⟨a,b,h⟩
      simp [this]
     ·have : ¬ e.index ≥ 0 := b
      simp [this]
    ·have : (e.kind == (3 : Int)) = false := by simpa using a
     simp [this]
   rw [e0]
   rfl
 simp only [ck] at key ⊢
 rw [oT,List.foldl_append,← hloop _ h1]
 generalize hg : (cond _ _ _ : Option PSt) = o at key
 cases o with
 | none=>cases key
 | some t =>
  simp only [bPs,zo] at key
  subst key
  rfl
theorem look_eq (e : LExpr) {s : PSt} (h : POk s) : dV e s.1 s.2.1 s.2.2 = some ((cK e).foldl dt s) := by
 obtain ⟨N,hN⟩ := look_ok e
 exact ix N fun n hn=>hN n hn s h
def iw (x : LQuery) : List (Nat × Int) := (x.exprs.map cK).flatten ++ (x.aggregates.map fun a=>(a.args.map cK).flatten).flatten
def jC (q : LQuery) : List (Nat × Int) := ((bC q).map iw).flatten
theorem mr {x : LQuery} : ∀ p ∈ iw x,p.1 < 8 := by
 intro p hp
 rcases List.mem_append.1 hp with hp | hp
 ·obtain ⟨l,hl,hp⟩ := List.mem_flatten.1 hp
  obtain ⟨e,_,rfl⟩ := List.mem_map.1 hl
  exact kH e p hp
 ·obtain ⟨l,hl,hp⟩ := List.mem_flatten.1 hp
  obtain ⟨a,_,rfl⟩ := List.mem_map.1 hl
  obtain ⟨l,hl,hp⟩ := List.mem_flatten.1 hp
  obtain ⟨e,_,rfl⟩ := List.mem_map.1 hl
  exact kH e p hp
theorem paramsQ_lt {q : LQuery} : ∀ p ∈ jC q,p.1 < 8 := by
 intro p hp
 obtain ⟨l,hl,hp⟩ := List.mem_flatten.1 hp
 obtain ⟨x,_,rfl⟩ := List.mem_map.1 hl
 exact mr p hp
theorem lookAll {l : List LExpr} {s : PSt} (h : POk s) : aC (σ := PSt) (ρ := Empty) (fun (_ : Nat) (x12 : LExpr) (s12 : PSt) =>
   af (dV x12 s12.1 s12.2.1 s12.2.2) fun x33=>some (.next (x33.1,x33.2.1,x33.2.2))) 0 l (s.1,s.2.1,s.2.2) = some (.next (((l.map cK).flatten).foldl dt s)) := by
 rw [rMa (xs := l) (s := (s.1,s.2.1,s.2.2)) (fun k=>(((l.take k).map cK).flatten).foldl dt s) rfl (fun k x hk=>by
  have hok : POk ((((l.take k).map cK).flatten).foldl dt s) := jS h fun p hp=>by
   obtain ⟨m,hm,hp⟩ := List.mem_flatten.1 hp
   obtain ⟨y,hy,rfl⟩ := List.mem_map.1 hm
   exact kH y p hp
  rw [look_eq x hok,bPs,List.take_add_one,hk]
  simp),List.take_length]
def iz (q : LQuery) : PSt := (jC q).foldl dt ([],false,List.replicate 8 false)
theorem kinds_ok {q : LQuery} (hb : (bC q).length ≤ 10000000) : eG q = some (cond (iz q).2.1 ([],13) ((iz q).1,0)) := by
 unfold eG
 rw [nodes_ok q hb,bPs]
 rw [rMa (xs := bC q) (s := ([],false,List.replicate 8 false)) (fun k=>((((bC q).take k).map iw).flatten).foldl dt ([],false,List.replicate 8 false)) rfl (fun k x hk=>by
  have hok : POk (((((bC q).take k).map iw).flatten).foldl dt ([],false,List.replicate 8 false)) := jS ⟨by simp,by simp⟩ fun p hp=>by
   obtain ⟨m,hm,hp⟩ := List.mem_flatten.1 hp
   obtain ⟨y,hy,rfl⟩ := List.mem_map.1 hm
   exact mr p hp
  rw [lookAll hok,bPs,cq]
  rw [show ((((bC q).take (k + 1)).map iw).flatten).foldl dt ([],false,List.replicate 8 false) = (iw x).foldl dt (((((bC q).take k).map iw).flatten).foldl dt ([],false,List.replicate 8 false)) from by
   rw [List.take_add_one,hk]
   simp only [Option.toList_some,List.map_append,List.map_cons,List.map_nil,List.flatten_append,List.flatten_cons,List.flatten_nil,List.append_nil,List.foldl_append]]
  generalize (((((bC q).take k).map iw).flatten).foldl dt ([],false,List.replicate 8 false)) = s at hok ⊢
  have hok2 : POk (((x.exprs.map cK).flatten).foldl dt s) := jS hok fun p hp=>mr (x := x) p (by unfold iw; simp only [List.mem_append]; exact .inl hp)
  rw [rMa (xs := x.aggregates) (s := ((((x.exprs.map cK).flatten).foldl dt s).1,(((x.exprs.map cK).flatten).foldl dt s).2.1,(((x.exprs.map cK).flatten).foldl dt s).2.2))
   (fun k=>((((x.aggregates.take k).map fun a=>(a.args.map cK).flatten).flatten).foldl dt (((x.exprs.map cK).flatten).foldl dt s))) rfl (fun k a ha=>by
    have hok3 : POk ((((x.aggregates.take k).map fun a=>(a.args.map cK).flatten).flatten).foldl dt (((x.exprs.map cK).flatten).foldl dt s)) := jS hok2 fun p hp=>mr (x := x) p (by
     unfold iw
     simp only [List.mem_append]
     obtain ⟨m,hm,hp⟩ := List.mem_flatten.1 hp
     obtain ⟨y,hy,rfl⟩ := List.mem_map.1 hm
     exact .inr (List.mem_flatten.2 ⟨_,List.mem_map.2 ⟨y,List.mem_of_mem_take hy,rfl⟩,hp⟩))
    rw [lookAll hok3,bPs,cq,List.take_add_one,ha]
    simp)]
  rw [bPs,cq,List.take_length]
  unfold iw
  rw [List.foldl_append])]
 rw [bPs,cq,List.take_length]
 show (cond (iz q).2.1 (some ([],13)) (some ((iz q).1,0))) = _
 cases (iz q).2.1 <;> rfl
def pZ (l : List (Nat × Int)) : Prop := ∀ i k k',(i,k) ∈ l → (i,k') ∈ l → k = k'
structure PInv (l : List (Nat × Int)) (s : PSt) : Prop where
 ok : POk s
 seen : ∀ i,i < 8 → (s.2.2.getD i false = true ↔ ∃ k,(i,k) ∈ l)
 len : ∀ i k,(i,k) ∈ l → i < s.1.length
 last : s.1.length = 0 ∨ ∃ k,(s.1.length - 1,k) ∈ l
 zero : ∀ i,(∀ k,(i,k) ∉ l) → s.1.getD i 0 = 0
 good : s.2.1 = false → ∀ i k,(i,k) ∈ l → s.1.getD i 0 = k
 bad : pZ l → s.2.1 = false
theorem ny (out : List Int) (i j : Nat) : (fW out i).getD j 0 = out.getD j 0 := by
 simp only [fW,List.getD_eq_getElem?_getD]
 by_cases h : j < out.length
 ·rw [List.getElem?_append_left h]
 ·rw [List.getElem?_append_right (by omega),List.getElem?_eq_none (l := out) (by omega),List.getElem?_replicate]
  split <;> rfl
theorem PInv.init : PInv [] ([],false,List.replicate 8 false) :=
 ⟨⟨by simp,by simp⟩,fun i hi=>by
  have : (List.replicate 8 false).getD i false = false := by rw [List.getD_eq_getElem?_getD,List.getElem?_replicate]; split <;> rfl
  exact ⟨fun h=>(by rw [show (([],false,List.replicate 8 false) : PSt).2.2 = List.replicate 8 false from rfl,this] at h; cases h),fun ⟨k,hk⟩=>(by simp at hk)⟩,fun i k h=>by simp at h,.inl rfl,fun i _=>by simp,fun _ i k h=>by simp at h,fun _=>rfl⟩
theorem PInv.step {l : List (Nat × Int)} {s : PSt} (h : PInv l s) {p : Nat × Int} (hp : p.1 < 8) : PInv (l ++ [p]) (dt s p) := by
 obtain ⟨i,k⟩ := p
 simp only at hp
 have hset : ∀ (xs : List Int) (j : Nat) (v : Int),i < xs.length → (xs.set i v).getD j 0 = if j = i then v else xs.getD j 0 := by
  intro xs j v hl
  rw [List.getD_eq_getElem?_getD,List.getD_eq_getElem?_getD,List.getElem?_set]
  by_cases hji : i = j
  ·subst hji; simp [hl]
  ·have : j ≠ i := fun h=>hji h.symm
   simp [hji,this]
 have hl1 : i < (fW s.1 i).length := by rw [lL]; omega
 refine ⟨pstep_ok h.ok hp,fun j hj=>?_,fun j k' hm=>?_,?_,fun j hno=>?_,fun hb j k' hm=>?_,fun hk=>?_⟩
 ·show (s.2.2.set i true).getD j false = true ↔ _
  rw [List.getD_eq_getElem?_getD,List.getElem?_set]
  by_cases hji : i = j
  ·subst hji
   have : i < s.2.2.length := by rw [h.ok.2]; exact hp
   simp [this]
  ·have h1 := h.seen j hj
   rw [List.getD_eq_getElem?_getD] at h1
   have hji' : j ≠ i := fun h=>hji h.symm
   simp only [hji,if_false,h1,List.mem_append,List.mem_singleton,Prod.mk.injEq,hji',false_and,or_false]
 ·show j < ((fW s.1 i).set i k).length
  rw [List.length_set,lL]
  rcases List.mem_append.1 hm with hm | hm
  ·have := h.len j k' hm; omega
  ·simp at hm; omega
 ·show ((fW s.1 i).set i k).length = 0 ∨ ∃ k',(((fW s.1 i).set i k).length - 1,k') ∈ l ++ [(i,k)]
  rw [List.length_set,lL]
  by_cases hle : s.1.length ≤ i + 1
  ·right
   exact ⟨k,by rw [show max s.1.length (i + 1) - 1 = i from by omega]; simp⟩
  ·rcases h.last with h0 | ⟨k',hk'⟩
   ·omega
   ·right
    exact ⟨k',by rw [show max s.1.length (i + 1) - 1 = s.1.length - 1 from by omega]; simp [hk']⟩
 ·show ((fW s.1 i).set i k).getD j 0 = 0
  have hji : j ≠ i := fun e=>hno k (by simp [e])
  rw [hset _ _ _ hl1,zy hji,ny]
  exact h.zero j fun k' hm=>hno k' (by simp [hm])
 ·have hb' : s.2.1 = false ∧ (s.2.2.getD i false && (fW s.1 i).getD i 0 != k) = false := by
   have : (s.2.1 || (s.2.2.getD i false && (fW s.1 i).getD i 0 != k)) = false := hb
   simpa using this
  show ((fW s.1 i).set i k).getD j 0 = k'
  rw [hset _ _ _ hl1]
  have hold := h.good hb'.1
  rcases List.mem_append.1 hm with hm1 | hm
  ·by_cases hji : j = i
   ·subst hji
    rw [zp rfl]
    have hs := (h.seen j hp).2 ⟨k',hm1⟩
    have := hb'.2
    rw [hs,ny,hold j k' hm1] at this
    simp at this
    exact this.symm
   ·rw [zy hji,ny]
    exact hold j k' hm1
  ·simp at hm
   rw [zp hm.1,hm.2]
 ·have h1 := h.bad fun i k k' a b=>hk i k k' (by simp [a]) (by simp [b])
  show (s.2.1 || (s.2.2.getD i false && (fW s.1 i).getD i 0 != k)) = false
  rw [h1,Bool.false_or,ny]
  cases hs : s.2.2.getD i false with
  | false=>rfl
  | true =>
   obtain ⟨k',hk'⟩ := (h.seen i hp).1 hs
   rw [h.good h1 i k' hk',hk i k' k (by simp [hk']) (by simp)]
   simp
theorem PInv.fold : ∀ {r l : List (Nat × Int)} {s : PSt},PInv l s → (∀ p ∈ r,p.1 < 8) → PInv (l ++ r) (r.foldl dt s)
 | [],l,s,h,_=>by simpa using h
 | p :: r,l,s,h,hr=>by
  have := PInv.fold (r := r) (h.step (hr p (by simp))) fun q hq=>hr q (by simp [hq])
  simpa using this
theorem kinds_inv (q : LQuery) : PInv (jC q) (iz q) := by
 have := PInv.fold (r := jC q) PInv.init paramsQ_lt
 rw [List.nil_append] at this
 exact this
theorem kinds_bad {q : LQuery} : (iz q).2.1 = false ↔ pZ (jC q) := by
 have h := kinds_inv q
 refine ⟨fun hb i k k' a b=>?_,h.bad⟩
 rw [← h.good hb i k a,← h.good hb i k' b]
def Tot {α : Type} (o : Option α) : Prop := ∃ v,o = some v
theorem Tot.mk {α : Type} {v : α} : Tot (Option.some v) := ⟨v,rfl⟩
theorem Tot.bind {α β : Type} {o : Option α} {k : α → Option β} (h : Tot o) (hk : ∀ v,o = some v → Tot (k v)) : Tot (af o k) := by
 obtain ⟨v,hv⟩ := h
 rw [hv]
 exact hk v hv
theorem Tot.cond {α : Type} {b : Bool} {x y : Option α} (hx : b = true → Tot x) (hy : b = false → Tot y) : Tot (cond b x y) := by
 cases b
 ·exact hy rfl
 ·exact hx rfl
theorem Tot.get {α : Type} {xs : List α} {i : Int} (h0 : 0 ≤ i) (h : i < xs.length) : Tot (aH xs i) := by
 have : i.toNat < xs.length := by omega
 exact ⟨xs[i.toNat],jz h0 (ze this)⟩
theorem Tot.sub {α : Type} {xs : List α} {a b : Int} (h : 0 ≤ a ∧ a ≤ b ∧ b ≤ xs.length) : Tot (subI xs a b) := ⟨_,subI_ok h⟩
theorem Tot.range {α σ ρ : Type} {step : Nat → α → σ → Option (Flow σ ρ)} : ∀ (xs : List α) (j : Nat) (s : σ),(∀ k x s,xs[k]? = some x → Tot (step (j + k) x s)) → Tot (aC step j xs s)
 | [],_,s,_=>⟨.next s,rfl⟩
 | x :: xs,j,s,h=>by
  obtain ⟨fl,hfl⟩ := h 0 x s rfl
  rw [Nat.add_zero] at hfl
  rw [aC,hfl]
  cases fl with
  | next s' =>
   exact Tot.range xs (j + 1) s' fun k y t hk=>by
    have := h (k + 1) y t (by simpa using hk)
    rwa [show j + (k + 1) = j + 1 + k from by omega] at this
  | brk s'=>exact ⟨_,rfl⟩
  | ret r=>exact ⟨_,rfl⟩
theorem Tot.thenR {σ ρ : Type} {fl : Flow σ ρ} {k : σ → Option ρ} (h : ∀ s,(fl = .next s ∨ fl = .brk s) → Tot (k s)) : Tot (fl.thenR k) := by
 cases fl with
 | next s=>exact h s (.inl rfl)
 | brk s=>exact h s (.inr rfl)
 | ret r=>exact ⟨r,rfl⟩
theorem kM {a b : Int} (h : a ≠ b) : (a != b) = true := by simpa using h
theorem kW {a b : Int} (h : a = b) : (a != b) = false := by simp [h]
theorem beqF {a b : Int} (h : a ≠ b) : (a == b) = false := by simpa using h
theorem beqT {a b : Int} (h : a = b) : (a == b) = true := by simp [h]
theorem idxF {α : Type} {l : List α} {f : α → Option Bool} {p : α → Bool} (h : ∀ x ∈ l,f x = some (p x)) :
  af (aC (σ := Unit) (ρ := Int) (fun (j1 : Nat) (x1 : α) (_ : Unit)=>af (f x1) fun x16=>cond x16 (some (.ret (j1 : Int))) (some (.next ()))) 0 l ()) (fun fl1=>fl1.thenR fun (_ : Unit)=>some (-1)) = some (bZ p l) := by
 rw [nA p (fun j _=>(j : Int)) l 0 (fun k x hk=>by
  rw [h x (dc hk),bPs]
  cases p x <;> simp)]
 unfold bZ
 cases hf : l.findIdx? p with
 | none=>rfl
 | some i =>
  have hi := (List.findIdx?_eq_some_iff_getElem.1 hf).1
  simp only [ze hi]
  simp
theorem idxF2 {α : Type} {l : List α} {p : α → Bool} :
  af (aC (σ := Unit) (ρ := Int) (fun (j1 : Nat) (x1 : α) (_ : Unit)=>cond (p x1) (some (.ret (j1 : Int))) (some (.next ()))) 0 l ()) (fun fl1=>fl1.thenR fun (_ : Unit)=>some (-1)) = some (bZ p l) := idxF (f := fun x=>some (p x)) fun _ _=>rfl
theorem pE {α : Type} {p : α → Bool} {l : List α} (h : 0 ≤ bZ p l) : ∃ x,l[(bZ p l).toNat]? = some x ∧ p x = true := by
 unfold bZ at h ⊢
 cases hf : l.findIdx? p with
 | none=>rw [hf] at h; simp at h
 | some i =>
  obtain ⟨hi,hp,_⟩ := List.findIdx?_eq_some_iff_getElem.1 hf
  exact ⟨l[i],by simp [hi],hp⟩
theorem idx_table (l : List LTable) (p : LTable → Bool) : cd l (fun a=>some (p a)) = some (bZ p l) := idxF fun _ _=>rfl
theorem idx_column (l : List LCol) (p : LCol → Bool) : bW l (fun a=>some (p a)) = some (bZ p l) := idxF fun _ _=>rfl
theorem mT (s : LSchema) (name : List UInt8) : dR s name = some (dC 0 (bZ (fun t=>cp t name) s.tables),decide (bZ (fun t=>cp t name) s.tables ≥ 0)) := by
 unfold dR
 rw [idx_table,bPs]
 congr 2
 unfold dC
 split <;> split <;> omega
theorem findColumn_eq (t : LTable) (name : List UInt8) : ew t name = some (dC 0 (bZ (fun c=>cD c name) t.columns),decide (bZ (fun c=>cD c name) t.columns ≥ 0)) := by
 unfold ew
 rw [idx_column,bPs]
 congr 2
 unfold dC
 split <;> split <;> omega
theorem nJ {n : Int} (h : 0 ≤ n) : dC 0 n = n := by unfold dC; split <;> omega
theorem pj (s : List UInt8) : Tot (dT s) := by
 unfold dT
 refine Tot.bind ?_ fun b hb=>?_
 ·refine Tot.cond (fun _=>Tot.mk) fun h1=>?_
  refine Tot.cond (fun _=>Tot.mk) fun h2=>?_
  have h1 := of_decide_eq_false h1
  refine Tot.bind (Tot.get (by decide) (by omega)) fun x _=>?_
  refine Tot.cond (fun _=>?_) fun _=>Tot.mk
  exact Tot.bind (Tot.get (by decide) (by omega)) fun x _=>Tot.mk
 ·refine Tot.cond (fun _=>Tot.mk) fun h=>?_
  subst h
  have hl : (s.length : Int) ≤ 12 := by
   by_cases h1 : (s.length : Int) < 1
   ·omega
   ·by_cases h2 : (s.length : Int) > 12
    ·rw [zf h1,zt h2] at hb; simp at hb
    ·omega
  refine Tot.bind ⟨(),mw (by omega)⟩ fun _ _=>?_
  refine Tot.bind (Tot.range _ _ _ fun k x _ _=>?_) fun fl _=>Tot.thenR fun _ _=>Tot.mk
  repeat' first | exact Tot.mk | refine Tot.cond (fun _=>?_) (fun _=>?_)
structure TableOk (t : LTable) : Prop where
 pk : ∀ x ∈ t.primaryKey,0 ≤ x ∧ x < t.columns.length
theorem validTable (t : LTable) (hsm : t.primaryKey.length ≤ 10000000) : ∃ e,dJ t = some e ∧ (e = 0 → TableOk t) := by
 unfold dJ
 obtain ⟨b,hb⟩ := pj t.name
 rw [hb,bPs]
 cases b with
 | false=>exact ⟨23,rfl,fun h=>by omega⟩
 | true =>
  simp only [Bool.not_true,zd]
  by_cases h0 : (t.columns.length : Int) = 0
  ·exact ⟨3,by simp [h0],fun h=>by omega⟩
  by_cases h6 : (t.columns.length : Int) > 6
  ·have : ((t.columns.length : Int) == 0) = false := by simpa using h0
   exact ⟨2,by rw [this]; simp [h6],fun h=>by omega⟩
  have e0 : ((t.columns.length : Int) == 0) = false := by simpa using h0
  rw [e0,zf h6]
  simp only [zd]
  obtain ⟨fl,hfl,hr⟩ := eh (step := fun (j1 : Nat) (x1 : LCol) (_ : Unit) =>
    af (dT x1.name) fun x31=>cond (!x31) (some (Flow.ret (σ := Unit) (23 : Int)))
     (af (ew t x1.name) fun x37=>cond (decide (x37.1 < (j1 : Int))) (some (.ret 5)) (cond (decide (x1.kind < (1 : Int))) (some (.ret 7)) (cond (decide (x1.kind > (3 : Int))) (some (.ret 7)) (some (.next ())))))) (fun _ _=>True) (fun r=>r ≠ 0) t.columns 0 () trivial (fun k x s hk _=>by
    obtain ⟨b,hb⟩ := pj x.name
    rw [hb,bPs,findColumn_eq,bPs]
    cases b with
    | false=>exact ⟨_,rfl,by simp⟩
    | true =>
     simp only [Bool.not_true,zd]
     by_cases a1 : dC 0 (bZ (fun c=>cD c x.name) t.columns) < ((0 + k : Nat) : Int)
     ·exact ⟨.ret 5,by rw [zt a1]; rfl,by simp⟩
     ·rw [zf a1]
      by_cases a2 : x.kind < 1
      ·exact ⟨.ret 7,by rw [zt a2]; rfl,by simp⟩
      ·rw [zf a2]
       by_cases a3 : x.kind > 3
       ·exact ⟨.ret 7,by rw [zt a3]; rfl,by simp⟩
       ·exact ⟨.next (),by rw [zf a3]; rfl,trivial⟩)
  rw [hfl,bPs]
  cases fl with
  | brk s=>exact absurd hr (by simp)
  | ret r=>exact ⟨r,rfl,fun h=>absurd h hr⟩
  | next s =>
   rw [jH]
   obtain ⟨fl,hfl,hr⟩ := eh (step := fun (j2 : Nat) (x2 : Int) (_ : Unit) =>
     cond (decide (x2 < (0 : Int))) (some (Flow.ret (σ := Unit) (9 : Int))) (cond (decide (x2 ≥ (t.columns.length : Int))) (some (.ret 9))
      (af (aH t.columns x2) fun (x73 : LCol)=>cond x73.nullable (some (.ret 9)) (cond (decide ((j2 : Int) > (0 : Int)))
       (af (aH t.primaryKey (IntKind.i64.wrap ((j2 : Int) - (1 : Int)))) fun (x86 : Int)=>cond (decide (x2 ≤ x86)) (some (.ret 9)) (some (.next ()))) (some (.next ())))))) (fun j _=>∀ k x,k < j → t.primaryKey[k]? = some x → 0 ≤ x ∧ x < t.columns.length) (fun r=>r ≠ 0) t.primaryKey 0 () (fun k x h=>by omega) (fun k x s hk hI=>by
     simp only [Nat.zero_add] at hI ⊢
     by_cases a1 : x < 0
     ·exact ⟨.ret 9,by rw [zt a1]; rfl,by simp⟩
     rw [zf a1]
     by_cases a2 : x ≥ (t.columns.length : Int)
     ·exact ⟨.ret 9,by rw [zt a2]; rfl,by simp⟩
     rw [zf a2]
     simp only [zd]
     obtain ⟨c,hc⟩ := Tot.get (xs := t.columns) (i := x) (by omega) (by omega)
     rw [hc,bPs]
     have next : ∀ k' x',k' < k + 1 → t.primaryKey[k']? = some x' → 0 ≤ x' ∧ x' < t.columns.length := fun k' x' h1 h2=>by
      by_cases he : k' = k
      ·subst he; rw [hk] at h2; cases h2; omega
      ·exact hI k' x' (by omega) h2
     cases c.nullable with
     | true=>exact ⟨_,rfl,by simp⟩
     | false =>
      simp only [zd]
      by_cases a3 : (k : Int) > 0
      ·rw [zt a3]
       have hkl := (zg.1 hk).1
       rw [bT (by omega) (by omega)]
       obtain ⟨y,hy⟩ := Tot.get (xs := t.primaryKey) (i := (k : Int) - 1) (by omega) (by omega)
       rw [zc,hy,bPs]
       by_cases a4 : x ≤ y
       ·exact ⟨.ret 9,by rw [zt a4]; rfl,by simp⟩
       ·exact ⟨.next (),by rw [zf a4]; rfl,next⟩
      ·exact ⟨.next (),by rw [zf a3]; rfl,next⟩)
   rw [hfl,bPs]
   cases fl with
   | brk s=>exact absurd hr (by simp)
   | ret r=>exact ⟨r,rfl,fun h=>absurd h hr⟩
   | next s =>
    rw [jH]
    simp only [Nat.zero_add] at hr
    by_cases hp : (t.primaryKey.length : Int) = 0
    ·exact ⟨9,by simp [hp],fun h=>by omega⟩
    ·have : ((t.primaryKey.length : Int) == 0) = false := by simpa using hp
     refine ⟨0,by rw [this]; rfl,fun _=>⟨fun x hx=>?_⟩⟩
     obtain ⟨k,hk,rfl⟩ := List.mem_iff_getElem.1 hx
     exact hr k _ hk (ze hk)
theorem qb {α : Type} {xs : List α} {k : Nat} (h : k < xs.length) : aH xs (k : Int) = some xs[k] := kY (ze h)
theorem foreignKey_tot {s : LSchema} (hs : ∀ t ∈ s.tables,TableOk t) (fk : LForeignKey) : Tot (dw s fk) := by
 unfold dw
 rw [mT,mT]
 simp only [bPs,ck]
 generalize hi : bZ (fun t=>cp t fk.table) s.tables = i
 generalize hj : bZ (fun t=>cp t fk.refTable) s.tables = j
 by_cases h1 : i ≥ 0
 ·by_cases h2 : j ≥ 0
  ·rw [zt h1,zt h2]
   simp only [Bool.not_true,zd]
   rw [nJ h1,nJ h2]
   obtain ⟨t,ht,_⟩ := pE (hi ▸ h1)
   obtain ⟨u,hu,_⟩ := pE (hj ▸ h2)
   rw [hi] at ht
   rw [hj] at hu
   rw [jz h1 ht,jz h2 hu]
   simp only [bPs]
   refine Tot.cond (fun _=>Tot.mk) fun hl=>?_
   have hl : fk.columns.length = u.primaryKey.length := by
    by_cases h : (fk.columns.length : Int) = (u.primaryKey.length : Int)
    ·omega
    ·simp [h] at hl
   refine Tot.bind (Tot.range _ _ _ fun k x st hk=>?_) fun fl _=>Tot.thenR fun _ _=>Tot.mk
   have hkl := (zg.1 hk).1
   by_cases a1 : x < 0
   ·rw [zt a1]; exact Tot.mk
   ·rw [zf a1]
    by_cases a2 : x ≥ (t.columns.length : Int)
    ·rw [zt a2]; exact Tot.mk
    ·rw [zf a2]
     simp only [zd]
     obtain ⟨c,hc⟩ := Tot.get (xs := t.columns) (i := x) (by omega) (by omega)
     rw [hc,bPs,Nat.zero_add,qb (by omega),bPs]
     have hp := (hs u (dc hu)).pk u.primaryKey[k] (List.getElem_mem _)
     obtain ⟨d,hd⟩ := Tot.get (xs := u.columns) (i := u.primaryKey[k]) hp.1 hp.2
     rw [hd,bPs]
     exact Tot.cond (fun _=>Tot.mk) fun _=>Tot.mk
  ·rw [zf h2]
   simp only [Bool.not_false]
   cases decide (i ≥ 0) <;> exact Tot.mk
 ·rw [zf h1]
  exact Tot.mk
theorem constraint_tot (s : LSchema) (c : LConstraint) : Tot (dv s c) := by
 unfold dv
 rw [mT]
 simp only [bPs,ck]
 generalize hi : bZ (fun t=>cp t c.table) s.tables = i
 by_cases h1 : i ≥ 0
 ·rw [zt h1]
  simp only [Bool.not_true,zd]
  rw [nJ h1]
  obtain ⟨t,ht,_⟩ := pE (hi ▸ h1)
  rw [hi] at ht
  rw [jz h1 ht,bPs]
  refine Tot.cond (fun _=>Tot.mk) fun hl=>?_
  by_cases a1 : c.left < 0
  ·rw [zt a1] at hl; cases hl
  rw [zf a1,zd] at hl
  by_cases a2 : c.left ≥ (t.columns.length : Int)
  ·rw [zt a2] at hl; cases hl
  rw [zf a2,zd] at hl
  obtain ⟨x,hx⟩ := Tot.get (xs := t.columns) (i := c.left) (by omega) (by omega)
  rw [hx]
  refine Tot.cond (fun a3=>?_) fun _=>?_
  ·have a3 := of_decide_eq_true a3
   have a4 : c.right < (t.columns.length : Int) := by
    rcases Int.lt_or_le c.right (t.columns.length : Int) with h | h
    ·exact h
    ·have e : decide (c.right ≥ (t.columns.length : Int)) = true := zt h
     rw [e] at hl
     revert hl
     cases ((fp (LVal.mk 0 0 []) c.op (LVal.mk 0 0 [])).2 != 0) <;> cases decide (c.right < -1) <;> simp
   obtain ⟨y,hy⟩ := Tot.get (xs := t.columns) (i := c.right) a3 a4
   rw [hy]
   simp only [bPs]
   exact Tot.cond (fun _=>Tot.mk) fun _=>Tot.mk
  ·rw [bPs]
   exact Tot.cond (fun _=>Tot.mk) fun _=>Tot.mk
 ·rw [zf h1]
  exact Tot.mk
theorem equalInts_tot (a b : List Int) : Tot (ed a b) := by
 unfold ed
 refine Tot.cond (fun _=>Tot.mk) fun h=>?_
 have h : a.length = b.length := by
  by_cases h' : (a.length : Int) = (b.length : Int)
  ·omega
  ·simp [h'] at h
 refine Tot.bind (Tot.range _ _ _ fun k x s hk=>?_) fun fl _=>Tot.thenR fun _ _=>Tot.mk
 have hkl := (zg.1 hk).1
 rw [Nat.zero_add,qb (by omega),bPs]
 exact Tot.cond (fun _=>Tot.mk) fun _=>Tot.mk
theorem fkIn_tot (l : List LForeignKey) (x : LForeignKey) : Tot (bD l (fun a0=>en a0 x)) := by
 unfold bD bX
 refine Tot.bind (Tot.bind (Tot.range _ _ _ fun k y s hk=>?_) fun fl _=>Tot.thenR fun _ _=>Tot.mk) fun _ _=>Tot.mk
 refine Tot.bind ?_ fun _ _=>Tot.cond (fun _=>Tot.mk) fun _=>Tot.mk
 unfold en
 refine Tot.bind ?_ fun _ _=>Tot.mk
 unfold eU
 refine Tot.cond (fun _=>Tot.bind (equalInts_tot _ _) fun _ _=>Tot.cond (fun _=>Tot.mk) fun _=>Tot.mk) fun _=>Tot.mk
theorem csIn_tot (l : List LConstraint) (x : LConstraint) : Tot (bH l x) := by
 unfold bH cg
 refine Tot.bind (Tot.bind (Tot.range _ _ _ fun k y s hk=>?_) fun fl _=>Tot.thenR fun _ _=>Tot.mk) fun _ _=>Tot.mk
 exact Tot.cond (fun _=>Tot.mk) fun _=>Tot.mk
def SmallS (s : LSchema) : Prop := ∀ t ∈ s.tables,t.primaryKey.length ≤ 10000000
theorem validate_tot {s : LSchema} (hsm : SmallS s) : Tot (gc s) := by
 unfold gc
 rw [ck]
 refine Tot.cond (fun _=>Tot.mk) fun ht=>?_
 have h6 : s.tables.length ≤ 6 := by
  by_cases h : (s.tables.length : Int) > 6
  ·rw [zt h] at ht; cases ht
  ·omega
 obtain ⟨fl,hfl,hr⟩ := eh (step := fun (j2 : Nat) (x2 : LTable) (_ : Unit) =>
   af (dJ x2) fun x37=>cond (x37 != (0 : Int)) (some (Flow.ret (σ := Unit) x37)) (cond (decide ((j2 : Int) > (0 : Int)))
     (af (aH s.tables (IntKind.i64.wrap ((j2 : Int) - (1 : Int)))) fun (x50 : LTable)=>cond (Op.bytesLess x2.name x50.name || x2.name == x50.name) (some (.ret 6)) (some (.next ()))) (some (.next ())))) (fun j _=>∀ k x,k < j → s.tables[k]? = some x → TableOk x) (fun _=>True) s.tables 0 () (fun k x h=>by omega) (fun k x st hk hI=>by
    simp only [Nat.zero_add] at hI ⊢
    obtain ⟨e,he,hok⟩ := validTable x (hsm x (dc hk))
    rw [he,bPs]
    by_cases h0 : e = 0
    ·have next : ∀ k' x',k' < k + 1 → s.tables[k']? = some x' → TableOk x' := fun k' x' h1 h2=>by
      by_cases heq : k' = k
      ·subst heq; rw [hk] at h2; cases h2; exact hok h0
      ·exact hI k' x' (by omega) h2
     rw [show (e != (0 : Int)) = false from by simp [h0],zd]
     by_cases a3 : (k : Int) > 0
     ·have hkl := (zg.1 hk).1
      rw [zt a3,bT (by omega) (by omega)]
      obtain ⟨y,hy⟩ := Tot.get (xs := s.tables) (i := (k : Int) - 1) (by omega) (by omega)
      rw [zc,hy,bPs]
      cases (Op.bytesLess x.name y.name || x.name == y.name) with
      | true=>exact ⟨.ret 6,rfl,trivial⟩
      | false=>exact ⟨.next (),rfl,next⟩
     ·exact ⟨.next (),by rw [zf a3]; rfl,next⟩
    ·exact ⟨.ret e,by rw [show (e != (0 : Int)) = true from by simp [h0]]; rfl,trivial⟩)
 rw [hfl,bPs]
 cases fl with
 | brk s=>exact absurd hr (by simp)
 | ret r=>exact Tot.mk
 | next u =>
  rw [jH]
  simp only [Nat.zero_add] at hr
  have hok : ∀ t ∈ s.tables,TableOk t := fun t ht=>by
   obtain ⟨k,hk,rfl⟩ := List.mem_iff_getElem.1 ht
   exact hr k _ hk (ze hk)
  refine Tot.bind (Tot.range _ _ _ fun k x st hk=>?_) fun fl _=>Tot.thenR fun _ _=>?_
  ·refine Tot.bind (foreignKey_tot hok x) fun e _=>Tot.cond (fun _=>Tot.mk) fun _=>?_
   have hkl := (zg.1 hk).1
   refine Tot.bind (Tot.sub ⟨by omega,by omega,by omega⟩) fun l _=>?_
   exact Tot.bind (fkIn_tot l x) fun _ _=>Tot.cond (fun _=>Tot.mk) fun _=>Tot.mk
  ·refine Tot.bind (Tot.range _ _ _ fun k x st hk=>?_) fun fl _=>Tot.thenR fun _ _=>Tot.mk
   refine Tot.bind (constraint_tot s x) fun e _=>Tot.cond (fun _=>Tot.mk) fun _=>?_
   have hkl := (zg.1 hk).1
   refine Tot.bind (Tot.sub ⟨by omega,by omega,by omega⟩) fun l _=>?_
   exact Tot.bind (csIn_tot l x) fun _ _=>Tot.cond (fun _=>Tot.mk) fun _=>Tot.mk
theorem containsI (l : List Int) (v : Int) : dF l v = some (l.any fun x=>v == x) := by
 unfold dF fC
 rw [idxF2 (p := fun x=>v == x),bPs,nn]
theorem shape1 (l : List Int) (q : LQuery) : cv l q = some (l.any fun x=>q.kind == x) := by
 unfold cv
 rw [containsI,bPs]
def ky (k : Int) : Nat := if k = 1 then 0 else if k = 4 ∨ k = 5 ∨ k = 6 ∨ k = 7 then 2 else 1
def jG (q : LQuery) : Bool :=
 decide (1 ≤ q.kind) && decide (q.kind ≤ 10) && decide (q.inputs.length = ky q.kind) && (q.kind == 1 || q.table == []) && (q.kind == 3 || q.kind == 8 || decide (q.names.length = 0)) &&
 (q.kind == 8 || decide (q.aggregates.length = 0)) && (q.kind == 9 || decide (q.descending.length = 0)) && (q.kind == 10 || (q.count == 0 && q.offset == 0)) &&
 (if q.kind = 2 ∨ q.kind = 4 ∨ q.kind = 5 then decide (q.exprs.length = 1)
  else if q.kind = 3 ∨ q.kind = 8 then decide (q.exprs.length = q.names.length) && decide (0 < q.exprs.length + q.aggregates.length)
  else if q.kind = 9 then decide (q.exprs.length = q.descending.length) && decide (0 < q.exprs.length)
  else if q.kind = 10 then decide (q.exprs.length = 0) && decide (q.count ≥ 0) && decide (q.offset ≥ 0)
  else decide (q.exprs.length = 0))
theorem natE (a b : Nat) : ((a : Int) == (b : Int)) = decide (a = b) := by
 by_cases h : a = b
 ·simp [h]
 ·rw [zf h]; exact beqF (by omega)
theorem natNE (a b : Nat) : ((a : Int) != (b : Int)) = !decide (a = b) := by rw [bne,natE]
theorem natPos (a : Nat) : decide ((a : Int) > 0) = !decide (a = 0) := by
 by_cases h : a = 0
 ·simp [h]
 ·rw [zf h,zt (by omega)]; rfl
theorem condSome {α : Type} (b : Bool) (x y : α) : (cond b (some x) (some y)) = some (cond b x y) := by cases b <;> rfl
theorem shape_eq (q : LQuery) (hs : q.exprs.length ≤ 10000000 ∧ q.aggregates.length ≤ 10000000) : iQ q = some (jG q) := by
 unfold iQ
 simp only [shape1,bPs]
 by_cases k0 : q.kind < 1
 ·rw [zt k0]
  simp [jG,show ¬ (1 ≤ q.kind) from by omega]
 rw [zf k0]
 by_cases k10 : q.kind > 10
 ·rw [zt k10]
  simp [jG,show ¬ (q.kind ≤ 10) from by omega]
 rw [zf k10]
 have hw : IntKind.i64.wrap ((q.exprs.length : Int) + (q.aggregates.length : Int)) = ((q.exprs.length + q.aggregates.length : Nat) : Int) := by rw [bT (by omega) (by omega)]; simp
 rw [hw]
 have hk : q.kind = 1 ∨ q.kind = 2 ∨ q.kind = 3 ∨ q.kind = 4 ∨ q.kind = 5 ∨ q.kind = 6 ∨ q.kind = 7 ∨ q.kind = 8 ∨ q.kind = 9 ∨ q.kind = 10 := by omega
 unfold jG
 have e0 : ∀ n : Nat,((n : Int) == 0) = decide (n = 0) := fun n=>natE n 0
 have e1 : ∀ n : Nat,((n : Int) == 1) = decide (n = 1) := fun n=>natE n 1
 have n0 : ∀ n : Nat,((n : Int) != 0) = !decide (n = 0) := fun n=>natNE n 0
 have n1 : ∀ n : Nat,((n : Int) != 1) = !decide (n = 1) := fun n=>natNE n 1
 have n2 : ∀ n : Nat,((n : Int) != 2) = !decide (n = 2) := fun n=>natNE n 2
 have c0 : (q.count != 0) = !(q.count == 0) := rfl
 have o0 : (q.offset != 0) = !(q.offset == 0) := rfl
 have p0 : decide (0 < q.exprs.length) = !decide (q.exprs.length = 0) := by rw [← natPos]; simp
 have p1 : decide (0 < q.exprs.length + q.aggregates.length) = !decide (q.exprs.length + q.aggregates.length = 0) := by rw [← natPos]; simp; omega
 simp only [natPos,natE,e0,e1,c0,o0,p0,p1]
 generalize (q.table == []) = b1
 generalize decide (q.names.length = 0) = b2
 generalize decide (q.aggregates.length = 0) = b3
 generalize decide (q.descending.length = 0) = b4
 generalize (q.count == 0) = b5
 generalize (q.offset == 0) = b6
 generalize decide (q.exprs.length = 1) = b7
 generalize decide (q.exprs.length = q.names.length) = b8
 generalize decide (q.exprs.length + q.aggregates.length = 0) = b9
 generalize decide (q.exprs.length = q.descending.length) = b10
 generalize decide (q.exprs.length = 0) = b11
 generalize decide (q.count ≥ 0) = b12
 generalize decide (q.offset ≥ 0) = b13
 generalize hL : q.inputs.length = L
 rcases hk with h | h | h | h | h | h | h | h | h | h <;> rw [h]
 all_goals simp only [ky,aH]
 all_goals simp [n0,n1,n2,condSome,Bool.and_assoc]
def e0Q (q : LQuery) : LExpr := q.exprs.headD (.mk 1 [] 0 .nul [])
def mE (a b : List LCol) (left : Bool) : List LCol := a ++ b.map fun x=>⟨x.name,x.kind,x.nullable || left⟩
def setCols (kind : Int) (a b : List LCol) : List LCol × Int :=
 if a.length = b.length ∧ a.map LCol.kind = b.map LCol.kind then (List.zipWith (fun x y=>⟨x.name,x.kind,x.nullable || (kind == 6 && y.nullable)⟩) a b,0) else ([],7)
def cS (vars cols : List LCol) : List LExpr → List (List UInt8) → List LCol × Int
 | e :: es,n :: ns=>if cN n = false then ([],3) else if (el cols vars e).2.2 ≠ 0 then ([],(el cols vars e).2.2) else if (el cols vars e).1 = 0 then ([],7)
  else if (cS vars cols es ns).2 ≠ 0 then ([],(cS vars cols es ns).2) else (⟨n,(el cols vars e).1,(el cols vars e).2.1⟩ :: (cS vars cols es ns).1,0)
 | _,_=>([],0)
abbrev kQ : List UInt8 := [99,111,117,110,116]
abbrev sSum : List UInt8 := [115,117,109]
abbrev sMin : List UInt8 := [109,105,110]
abbrev sMax : List UInt8 := [109,97,120]
def aggQ (vars cols : List LCol) (a : LAggregateCall) : Int × Int :=
 if cN a.name = false ∨ ¬ a.function ∈ [kQ,sSum,sMin,sMax] ∨ 1 < a.args.length ∨ (a.args.length < 1 ∧ a.function ≠ kQ) then (0,3)
 else match a.args with
  | []=>(1,0)
  | e :: _=>if (el cols vars e).2.2 ≠ 0 then (0,(el cols vars e).2.2) else if (el cols vars e).1 = 0 ∨ (a.function = sSum ∧ (el cols vars e).1 ≠ 1) then (0,7)
   else if a.function = kQ then (1,0) else ((el cols vars e).1,0)
def fv (vars cols : List LCol) : List LAggregateCall → List LCol × Int
 | []=>([],0)
 | a :: l=>if (aggQ vars cols a).2 ≠ 0 then ([],(aggQ vars cols a).2) else if (fv vars cols l).2 ≠ 0 then ([],(fv vars cols l).2)
  else (⟨a.name,(aggQ vars cols a).1,!(a.function == kQ)⟩ :: (fv vars cols l).1,0)
def namedQ (vars cols : List LCol) (q : LQuery) : List LCol × Int :=
 if (cS vars cols q.exprs q.names).2 ≠ 0 then ([],(cS vars cols q.exprs q.names).2)
 else if (fv vars cols q.aggregates).2 ≠ 0 then ([],(fv vars cols q.aggregates).2)
 else ((cS vars cols q.exprs q.names).1 ++ (fv vars cols q.aggregates).1,0)
def kd (vars cols : List LCol) : List LExpr → Int
 | []=>0
 | e :: l=>if (el cols vars e).2.2 ≠ 0 then (el cols vars e).2.2 else kd vars cols l
def lw (c : LChecker) (q : LQuery) (ins : List (List LCol)) : List LCol × Int :=
 if q.kind = 1 then (match c.s.tables.find? fun t=>t.name == q.table with | some t=>(t.columns,0) | none=>([],4))
 else if q.kind = 2 then (ins.getD 0 [],cz c (ins.getD 0 []) (e0Q q))
 else if q.kind = 4 ∨ q.kind = 5 then (mE (ins.getD 0 []) (ins.getD 1 []) (q.kind == 5),cz c (mE (ins.getD 0 []) (ins.getD 1 []) (q.kind == 5)) (e0Q q))
 else if q.kind = 6 ∨ q.kind = 7 then setCols q.kind (ins.getD 0 []) (ins.getD 1 [])
 else if q.kind = 3 ∨ q.kind = 8 then namedQ c.vars (ins.getD 0 []) q
 else if q.kind = 9 then (if kd c.vars (ins.getD 0 []) q.exprs ≠ 0 then ([],kd c.vars (ins.getD 0 []) q.exprs) else (ins.getD 0 [],0))
 else (ins.getD 0 [],0)
theorem find_idx {α : Type} (p : α → Bool) (l : List α) : (l.find? p = none ∧ bZ p l = -1) ∨ ∃ x,l.find? p = some x ∧ 0 ≤ bZ p l ∧ l[(bZ p l).toNat]? = some x := by
 induction l with
 | nil=>exact .inl ⟨rfl,rfl⟩
 | cons a l ih =>
  by_cases h : p a = true
  ·right
   exact ⟨a,by simp [h],by unfold bZ; simp [List.findIdx?_cons,h],by unfold bZ; simp [List.findIdx?_cons,h]⟩
  ·have h : p a = false := by simpa using h
   have hi : bZ p (a :: l) = if bZ p l < 0 then -1 else bZ p l + 1 := by
    unfold bZ
    simp only [List.findIdx?_cons,h,Bool.false_eq_true,if_false]
    cases l.findIdx? p with
    | none=>rfl
    | some i=>rw [zy (by simp only; omega)]; simp
   rw [List.find?_cons,h,hi]
   rcases ih with ⟨h1,h2⟩ | ⟨x,h1,h2,h3⟩
   ·left; exact ⟨h1,by rw [h2]; rfl⟩
   ·right
    refine ⟨x,h1,by split <;> omega,?_⟩
    rw [zy (by omega),show (bZ p l + 1).toNat = (bZ p l).toNat + 1 from by omega,List.getElem?_cons_succ,h3]
theorem set_ok (kind : Int) (a b : List LCol) : fR kind a b = some (setCols kind a b) := by
 unfold fR setCols
 by_cases hl : a.length = b.length
 ·rw [natNE,zt hl]
  simp only [Bool.not_true,zd]
  let z : LCol → LCol → LCol := fun x y=>⟨x.name,x.kind,x.nullable || (kind == 6 && y.nullable)⟩
  obtain ⟨fl,hfl,hr⟩ := eh (step := fun (j1 : Nat) (x1 : LCol) (s1 : List LCol) =>
   af (aH b (j1 : Int)) fun (x29 : LCol)=>cond (x1.kind != x29.kind) (some (Flow.ret (([],7) : List LCol × Int)))
    (cond x1.nullable (af (aH s1 (j1 : Int)) fun (x51 : LCol)=>bL (s1.set ((j1 : Int).toNat) (LCol.mk x51.name x51.kind true)) fun (y8 : List LCol)=>some (.next y8))
     (cond (kind == (6 : Int)) (af (aH b (j1 : Int)) fun (x46 : LCol)=>af (aH s1 (j1 : Int)) fun (x51 : LCol)=>bL (s1.set ((j1 : Int).toNat) (LCol.mk x51.name x51.kind x46.nullable)) fun (y9 : List LCol)=>some (.next y9))
      (af (aH s1 (j1 : Int)) fun (x51 : LCol)=>bL (s1.set ((j1 : Int).toNat) (LCol.mk x51.name x51.kind false)) fun (y10 : List LCol)=>some (.next y10)))))
   (fun j s=>s = (List.zipWith z a b).take j ++ a.drop j ∧ (a.take j).map LCol.kind = (b.take j).map LCol.kind) (fun r=>r = ([],7) ∧ a.map LCol.kind ≠ b.map LCol.kind) a 0 a ⟨by simp,rfl⟩ (fun k x s hk hI=>by
    simp only [Nat.zero_add] at hI ⊢
    have hka := (zg.1 hk).1
    have hxe := (zg.1 hk).2
    have hkb : k < b.length := by omega
    rw [qb hkb,bPs,bPs]
    by_cases hkk : x.kind = b[k].kind
    ·have hzl : ((List.zipWith z a b).take k).length = k := by simp; omega
     have hs : s[k]? = some x := by
      rw [hI.1,List.getElem?_append_right (by omega),hzl,Nat.sub_self,List.getElem?_drop,Nat.add_zero,hk]
     have hkinds : (a.take (k + 1)).map LCol.kind = (b.take (k + 1)).map LCol.kind := by
      rw [List.take_add_one,List.take_add_one,hk,ze hkb,List.map_append,List.map_append,hI.2]
      congr 1
      show [x.kind] = [b[k].kind]
      rw [hkk]
     have hset : ∀ v : LCol,v = z x b[k] → s.set k v = (List.zipWith z a b).take (k + 1) ++ a.drop (k + 1) := by
      intro v hv
      rw [hI.1,List.set_append_right _ _ (by omega),hzl,Nat.sub_self]
      rw [List.drop_eq_getElem_cons hka,List.set_cons_zero,List.take_add_one,List.append_assoc]
      congr 1
      rw [List.getElem?_zipWith,hk,ze hkb]
      simp [hv]
     rw [kW hkk,zd,kY hs]
     simp only [bPs,ck,Int.toNat_natCast]
     cases hx : x.nullable with
     | true=>exact ⟨_,rfl,hset _ (by simp [z,hx]),hkinds⟩
     | false =>
      by_cases h6 : kind = 6
      ·exact ⟨.next _,by rw [beqT h6]; rfl,hset _ (by simp [z,hx,h6]),hkinds⟩
      ·exact ⟨.next _,by rw [beqF h6]; rfl,hset _ (by simp [z,hx,h6]),hkinds⟩
    ·refine ⟨.ret ([],7),by rw [kM hkk]; rfl,rfl,fun he=>hkk ?_⟩
     have := congrArg (fun l=>l[k]?) he
     simp only [List.getElem?_map,hk,ze hkb,Option.map_some,zo] at this
     exact this)
  rw [hfl,bPs]
  cases fl with
  | brk s=>exact absurd hr (by simp)
  | ret r=>rw [hr.1,zy (fun h=>hr.2 h.2)]; rfl
  | next s =>
   simp only [Nat.zero_add] at hr
   rw [jH,hr.1,zp ⟨hl,by have := hr.2; rwa [List.take_length,hl,List.take_length] at this⟩]
   have : (List.zipWith z a b).take a.length = List.zipWith z a b := List.take_of_length_le (by simp; omega)
   rw [this,List.drop_length,List.append_nil]
 ·rw [natNE,zf hl,zy (fun h=>hl h.1)]
  rfl
theorem ml {α : Type} {l : List α} {d : α} (h : 0 < l.length) : aH l 0 = some (l.getD 0 d) := by
 cases l with
 | nil=>simp at h
 | cons a l=>rfl
theorem getD1 {α : Type} {l : List α} {d : α} (h : 1 < l.length) : aH l 1 = some (l.getD 1 d) := by
 match l with
 | []=>simp at h
 | [_]=>simp at h
 | a :: b :: l=>rfl
theorem e0_get {q : LQuery} (h : 0 < q.exprs.length) : aH q.exprs 0 = some (e0Q q) := by
 unfold e0Q
 cases hq : q.exprs with
 | nil=>rw [hq] at h; simp at h
 | cons a l=>rfl
theorem containsS (l : List (List UInt8)) (v : List UInt8) : cn l v = some (decide (v ∈ l)) := by
 unfold cn cw
 rw [idxF2 (p := fun x=>v == x),bPs,nn]
 congr 1
 by_cases h : v ∈ l
 ·rw [zt h,List.any_eq_true]; exact ⟨v,h,by simp⟩
 ·rw [zf h,List.any_eq_false]
  intro x hx he
  exact h (by simp at he; rwa [he])
theorem agg_eq (c : LChecker) (cols : List LCol) (a : LAggregateCall) : ep c cols a = some (aggQ c.vars cols a) := by
 unfold ep aggQ
 simp only [ck,containsS,bPs]
 by_cases h1 : cN a.name = false
 ·simp [h1]
 have h1' : cN a.name = true := by simpa using h1
 by_cases h2 : a.function ∈ [kQ,sSum,sMin,sMax]
 ·rw [zt (show a.function ∈ ([[99,111,117,110,116],[115,117,109],[109,105,110],[109,97,120]] : List (List UInt8)) from h2)]
  cases ha : a.args with
  | nil =>
   by_cases h3 : a.function = kQ
   ·simp [h1',h3]
   ·have h3' : (a.function == ([99,111,117,110,116] : List UInt8)) = false := by simpa using h3
    simp [h1',h3,h2,h3']
  | cons e l =>
   cases l with
   | cons e2 l =>
    have : (1 : Int) < (l.length : Int) + 1 + 1 := by omega
    simp [h1',h2,this]
   | nil =>
    simp only [h1',Bool.not_true,zd,List.length_singleton]
    have hno : ¬ (True = False ∨ ¬ a.function ∈ [kQ,sSum,sMin,sMax] ∨ 1 < 1 ∨ (1 < 1 ∧ a.function ≠ kQ)) := by simp [h2]
    simp only [aH]
    by_cases h4 : (el cols c.vars e).2.2 = 0
    ·by_cases h5 : (el cols c.vars e).1 = 0
     ·simp [h2,h4,h5]
     ·by_cases h6 : a.function = sSum
      ·by_cases h7 : (el cols c.vars e).1 = 1
       ·simp [h4,h6,h7]
       ·simp [h4,h5,h6,h7,kM h7]
      ·have h6' : (a.function == ([115,117,109] : List UInt8)) = false := by simpa using h6
       by_cases h8 : a.function = kQ
       ·simp [h4,h5,h8,beqF h5]
       ·have h8' : (a.function == ([99,111,117,110,116] : List UInt8)) = false := by simpa using h8
        simp [h2,h4,h5,h6,h8,h6',h8',beqF h5]
    ·simp [h2,h4,kM h4]
 ·rw [zf (show ¬ a.function ∈ ([[99,111,117,110,116],[115,117,109],[109,105,110],[109,97,120]] : List (List UInt8)) from h2)]
  simp [h1',h2]
theorem namedE_run (vars cols : List LCol) (names : List (List UInt8)) : ∀ (es : List LExpr) (j : Nat) (s : List LCol),es.length + j = names.length → s.length + es.length ≤ 10000000 →
  ∀ k : List LCol → Option (List LCol × Int),af (aC (σ := List LCol) (ρ := ((List LCol) × Int)) (fun (j1 : Nat) (x1 : LExpr) (s1 : List LCol) =>
  bL (el cols vars x1) fun x31 =>
  af (aH names (j1 : Int)) fun (x39 : List UInt8) =>
  bL (cN x39) fun x41 =>
  cond (!x41)
   (some (.ret ([],3)))
   (cond (x31.2.2 != (0 : Int))
    (some (.ret ([],x31.2.2)))
    (cond (x31.1 == (0 : Int))
     (some (.ret ([],7)))
     (af (aH names (j1 : Int)) fun (x54 : List UInt8) =>
     af (cJ 32 s1 ([(LCol.mk x54 x31.1 x31.2.1)] : List LCol)) fun (x60 : List LCol) =>
     some (.next x60))))) j es s) (fun fl1=>fl1.thenR k) = if (cS vars cols es (names.drop j)).2 ≠ 0 then some ([],(cS vars cols es (names.drop j)).2) else k (s ++ (cS vars cols es (names.drop j)).1)
 | [],j,s,_,_,k=>by simp [aC,cS]
 | e :: es,j,s,hl,hb,k=>by
  have hj : j < names.length := by simp at hl; omega
  rw [aC,List.drop_eq_getElem_cons hj,cS,ck,qb hj,bPs,ck]
  cases h1 : cN names[j] with
  | false=>simp
  | true =>
   simp only [Bool.not_true,zd,Bool.true_eq_false,if_false]
   by_cases h2 : (el cols vars e).2.2 = 0
   ·rw [kW h2,zd]
    simp only [h2,ne_eq,not_true_eq_false,if_false]
    by_cases h3 : (el cols vars e).1 = 0
    ·rw [beqT h3]; simp [h3]
    ·rw [beqF h3,zd,bPs,cu (by decide) (by simp at hb ⊢; omega),bPs]
     simp only [h3,if_false]
     rw [namedE_run vars cols names es (j + 1) _ (by simp at hl; omega) (by simp at hb ⊢; omega) k]
     by_cases h4 : (cS vars cols es (names.drop (j + 1))).2 = 0
     ·simp [h4]
     ·simp [h4]
   ·rw [kM h2]
    simp [h2]
theorem namedA_run (c : LChecker) (cols : List LCol) : ∀ (l : List LAggregateCall) (j : Nat) (s : List LCol),s.length + l.length ≤ 10000000 →
  af (aC (σ := List LCol) (ρ := ((List LCol) × Int)) (fun (_ : Nat) (x2 : LAggregateCall) (s2 : List LCol) =>
  af (ep c cols x2) fun x73 =>
  cond (x73.2 != (0 : Int))
   (some (.ret ([],x73.2)))
   (af (cJ 32 s2 ([(LCol.mk x2.name x73.1 (!(x2.function == ([99,111,117,110,116] : List UInt8))))] : List LCol)) fun (x88 : List LCol) =>
   some (.next x88))) j l s) (fun fl2=>fl2.thenR fun (s2 : List LCol)=>some (s2,0)) = some (if (fv c.vars cols l).2 ≠ 0 then ([],(fv c.vars cols l).2) else (s ++ (fv c.vars cols l).1,0))
 | [],j,s,_=>by simp [aC,fv]
 | a :: l,j,s,hb=>by
  rw [aC,fv,agg_eq,bPs]
  by_cases h1 : (aggQ c.vars cols a).2 = 0
  ·rw [kW h1,zd,cu (by decide) (by simp at hb ⊢; omega),bPs]
   simp only [h1,ne_eq,not_true_eq_false,if_false]
   rw [namedA_run c cols l (j + 1) _ (by simp at hb ⊢; omega)]
   by_cases h4 : (fv c.vars cols l).2 = 0
   ·simp [h4]
   ·simp [h4]
  ·rw [kM h1]
   simp [h1]
theorem named_eq (c : LChecker) (q : LQuery) (cols : List LCol) (hl : q.exprs.length = q.names.length) (hb : q.exprs.length ≤ 1000000 ∧ q.aggregates.length ≤ 1000000) : dh c q cols = some (namedQ c.vars cols q) := by
 unfold dh namedQ
 rw [namedE_run c.vars cols q.names q.exprs 0 [] (by omega) (by simp; omega),List.drop_zero]
 by_cases h : (cS c.vars cols q.exprs q.names).2 = 0
 ·have hlen : ∀ (es : List LExpr) (ns : List (List UInt8)),(cS c.vars cols es ns).1.length ≤ es.length := by
   intro es
   induction es with
   | nil=>intro ns; simp [cS]
   | cons e es ih =>
    intro ns
    cases ns with
    | nil=>simp [cS]
    | cons n ns =>
     simp only [cS]
     split
     ·simp
     ·split
      ·simp
      ·split
       ·simp
       ·split
        ·simp
        ·have := ih ns; simp; omega
  simp only [h,ne_eq,not_true_eq_false,if_false,List.nil_append]
  rw [namedA_run c cols q.aggregates 0 _ (by have := hlen q.exprs q.names; omega)]
 ·simp [h]
structure SmallQ (q : LQuery) : Prop where
 nodes : (bC q).length ≤ 10000000
 here : ∀ x ∈ bC q,x.exprs.length ≤ 1000000 ∧ x.aggregates.length ≤ 1000000
theorem mem_nodes {q x y : LQuery} (h : x ∈ q.inputs) (hy : y ∈ bC x) : y ∈ bC q := by
 rw [fA]
 exact List.mem_cons_of_mem _ (List.mem_flatten.2 ⟨_,List.mem_map.2 ⟨x,h,rfl⟩,hy⟩)
theorem self_nodes (q : LQuery) : q ∈ bC q := by rw [fA]; exact List.mem_cons_self
theorem SmallQ.sub {q x : LQuery} (h : SmallQ q) (hx : x ∈ q.inputs) : SmallQ x :=
 ⟨by have := jr hx; have := h.nodes; omega,fun y hy=>h.here y (mem_nodes hx hy)⟩
theorem SmallQ.self {q : LQuery} (h : SmallQ q) : q.exprs.length ≤ 1000000 ∧ q.aggregates.length ≤ 1000000 := h.here q (self_nodes q)
structure ShapeOk (q : LQuery) : Prop where
 kind : 1 ≤ q.kind ∧ q.kind ≤ 10
 arity : q.inputs.length = ky q.kind
 one : q.kind = 2 ∨ q.kind = 4 ∨ q.kind = 5 → q.exprs.length = 1
 named : q.kind = 3 ∨ q.kind = 8 → q.exprs.length = q.names.length
 aggs : q.kind ≠ 8 → q.aggregates = []
 sorted : q.kind = 9 → q.exprs.length = q.descending.length
 limit : q.kind = 10 → 0 ≤ q.count ∧ 0 ≤ q.offset
theorem oQ {q : LQuery} (h : jG q = true) : ShapeOk q := by
 unfold jG at h
 simp only [Bool.and_eq_true,decide_eq_true_eq] at h
 obtain ⟨⟨⟨⟨⟨⟨⟨⟨h1,h2⟩,h3⟩,h4⟩,h5⟩,h6⟩,h7⟩,h8⟩,h9⟩ := h
 refine ⟨⟨h1,h2⟩,h3,fun hk=>?_,fun hk=>?_,fun hk=>?_,fun hk=>?_,fun hk=>?_⟩
 ·rw [zp hk] at h9; simpa using h9
 ·rw [zy (by omega),zp hk] at h9; simp at h9; exact h9.1
 ·have : (q.kind == 8) = false := beqF hk
  rw [this] at h6; simp at h6; exact h6
 ·rw [zy (by omega),zy (by omega),zp hk] at h9; simp at h9; exact h9.1
 ·rw [zy (by omega),zy (by omega),zy (by omega),zp hk] at h9; simp at h9; omega
theorem join_run (left : Bool) : ∀ (b : List LCol) (j : Nat) (a : List LCol),a.length + b.length ≤ 10000000 →
  aC (σ := List LCol) (ρ := Empty) (fun (_ : Nat) (x2 : LCol) (s2 : List LCol)=>cond x2.nullable
          (af (cJ 32 s2 ([(LCol.mk x2.name x2.kind true)] : List LCol)) fun (x76 : List LCol)=>some (.next x76))
          (af (cJ 32 s2 ([(LCol.mk x2.name x2.kind left)] : List LCol)) fun (x76 : List LCol)=>some (.next x76))) j b a = some (.next (mE a b left))
 | [],j,a,_=>by simp [aC,mE]
 | x :: b,j,a,h=>by
  have step : (cond x.nullable (af (cJ 32 a ([(LCol.mk x.name x.kind true)] : List LCol)) fun (x76 : List LCol)=>some (Flow.next (ρ := Empty) x76))
    (af (cJ 32 a ([(LCol.mk x.name x.kind left)] : List LCol)) fun (x76 : List LCol)=>some (.next x76))) = some (.next (a ++ [⟨x.name,x.kind,x.nullable || left⟩])) := by
   rw [cu (by decide) (by simp at h ⊢; omega),cu (by decide) (by simp at h ⊢; omega)]
   cases x.nullable <;> simp
  rw [aC,step]
  simp only
  rw [join_run left b (j + 1) _ (by simp at h ⊢; omega)]
  simp [mE]
theorem sort_run (vars cols : List LCol) (ins : List (List LCol)) (h0 : aH ins 0 = some cols) : ∀ (es : List LExpr) (j : Nat) (k : Unit → Option (List LCol × Int)),
  af (aC (σ := Unit) (ρ := ((List LCol) × Int)) (fun (_ : Nat) (x5 : LExpr) (_ : Unit)=>af (aH ins 0) fun (x122 : List LCol)=>bL (el x122 vars x5) fun x127=>cond (x127.2.2 != (0 : Int)) (some (.ret ([],x127.2.2))) (some (.next ()))) j es ()) (fun fl5=>fl5.thenR k) =
   if kd vars cols es ≠ 0 then some ([],kd vars cols es) else k ()
 | [],j,k=>by simp [aC,kd]
 | e :: es,j,k=>by
  rw [aC,kd,h0,bPs,ck]
  by_cases h : (el cols vars e).2.2 = 0
  ·rw [kW h,zd]
   simp only [h,ne_eq,not_true_eq_false,if_false]
   rw [← h0]
   exact sort_run vars cols ins h0 es (j + 1) k
  ·rw [kM h]; simp [h]
theorem out_eq {c : LChecker} {q : LQuery} {ins : List (List LCol)} (hs : ShapeOk q) (hsm : SmallQ q) (hl : ins.length = q.inputs.length) (hb : ∀ l ∈ ins,l.length ≤ 20) : fF c q ins = some (lw c q ins) := by
 obtain ⟨hk,ha,h1,hn,_,_,_⟩ := hs
 have hself := hsm.self
 have hi : ∀ i,i < ins.length → (ins.getD i []).length ≤ 20 := fun i hi=>by
  rw [List.getD_eq_getElem?_getD,ze hi]
  exact hb _ (List.getElem_mem hi)
 have e0 : q.exprs.length = 1 → aH q.exprs 0 = some (e0Q q) := fun h=>e0_get (by omega)
 unfold fF lw
 have kk : q.kind = 1 ∨ q.kind = 2 ∨ q.kind = 3 ∨ q.kind = 4 ∨ q.kind = 5 ∨ q.kind = 6 ∨ q.kind = 7 ∨ q.kind = 8 ∨ q.kind = 9 ∨ q.kind = 10 := by omega
 rcases kk with h | h | h | h | h | h | h | h | h | h
 ·rw [h,idx_table]
  simp only [bPs]
  rcases find_idx (fun a0=>dg a0 q) c.s.tables with ⟨f1,f2⟩ | ⟨t,f1,f2,f3⟩
  ·have f1' : c.s.tables.find? (fun t=>t.name == q.table) = none := f1
   rw [f2,f1']
   rfl
  ·have f1' : c.s.tables.find? (fun t=>t.name == q.table) = some t := f1
   rw [f1',zf (show ¬ bZ (fun a0=>dg a0 q) c.s.tables < 0 from by omega),jz f2 f3]
   rfl
 all_goals rw [h] at ha
 all_goals simp only [ky] at ha
 ·have g0 : aH ins 0 = some (ins.getD 0 []) := ml (by simp at ha; omega)
  rw [h,g0,e0 (h1 (.inl h))]
  simp [ck]
 ·have g0 : aH ins 0 = some (ins.getD 0 []) := ml (by simp at ha; omega)
  rw [h,g0]
  simp only [bPs]
  rw [named_eq c q _ (hn (.inl h)) hself]
  simp [ck]
 ·have g0 : aH ins 0 = some (ins.getD 0 []) := ml (by simp at ha; omega)
  have g1 : aH ins 1 = some (ins.getD 1 []) := getD1 (by simp at ha; omega)
  rw [h,g0,g1,e0 (h1 (.inr (.inl h)))]
  simp only [bPs]
  rw [join_run ((4 : Int) == 5) _ 0 _ (by have := hi 0 (by simp at ha; omega); have := hi 1 (by simp at ha; omega); omega)]
  simp [ck]
 ·have g0 : aH ins 0 = some (ins.getD 0 []) := ml (by simp at ha; omega)
  have g1 : aH ins 1 = some (ins.getD 1 []) := getD1 (by simp at ha; omega)
  rw [h,g0,g1,e0 (h1 (.inr (.inr h)))]
  simp only [bPs]
  rw [join_run ((5 : Int) == 5) _ 0 _ (by have := hi 0 (by simp at ha; omega); have := hi 1 (by simp at ha; omega); omega)]
  simp [ck]
 ·have g0 : aH ins 0 = some (ins.getD 0 []) := ml (by simp at ha; omega)
  have g1 : aH ins 1 = some (ins.getD 1 []) := getD1 (by simp at ha; omega)
  rw [h,g0,g1]
  simp only [bPs,set_ok]
  simp [ck]
 ·have g0 : aH ins 0 = some (ins.getD 0 []) := ml (by simp at ha; omega)
  have g1 : aH ins 1 = some (ins.getD 1 []) := getD1 (by simp at ha; omega)
  rw [h,g0,g1]
  simp only [bPs,set_ok]
  simp [ck]
 ·have g0 : aH ins 0 = some (ins.getD 0 []) := ml (by simp at ha; omega)
  rw [h,g0]
  simp only [bPs]
  rw [named_eq c q _ (hn (.inr h)) hself]
  simp [ck]
 ·have g0 : aH ins 0 = some (ins.getD 0 []) := ml (by simp at ha; omega)
  rw [h,sort_run c.vars _ ins g0,g0]
  simp only [ck,bPs]
  by_cases hse : kd c.vars (ins.getD 0 []) q.exprs = 0
  ·simp only [hse,ne_eq,not_true_eq_false,if_false]; rfl
  ·simp only [hse,ne_eq,not_false_eq_true,if_true]; rfl
 ·have g0 : aH ins 0 = some (ins.getD 0 []) := ml (by simp at ha; omega)
  rw [h,g0]
  simp [ck]
def cC : List (List LCol × Int) → List (List LCol) × Int
 | []=>([],0)
 | r :: l=>if r.2 ≠ 0 then ([],r.2) else if (cC l).2 ≠ 0 then ([],(cC l).2) else (r.1 :: (cC l).1,0)
def mC (c : LChecker) (q : LQuery) (ins : List (List LCol × Int)) : List LCol × Int :=
 if jG q = false then ([],3) else if (cC ins).2 ≠ 0 then ([],(cC ins).2)
 else if (lw c q (cC ins).1).2 ≠ 0 then ([],(lw c q (cC ins).1).2)
 else if 20 < (lw c q (cC ins).1).1.length then ([],2)
 else if ((lw c q (cC ins).1).1.map LCol.name).Nodup then ((lw c q (cC ins).1).1,0) else ([],23)
def dQ (c : LChecker) (q : LQuery) : List LCol × Int := mC c q (q.inputs.attach.map fun x=>dQ c x.1)
termination_by SizeOf.sizeOf q
decreasing_by exact LQuery.inputs_lt x.2
theorem colsQ_eq (c : LChecker) (q : LQuery) : dQ c q = mC c q (q.inputs.map (dQ c)) := by
 rw [dQ,List.attach_map_val (f := dQ c)]
theorem qD (f : LQuery → Option (List LCol × Int)) (g : LQuery → List LCol × Int) : ∀ (l : List LQuery) (j : Nat) (s : List (List LCol)),(∀ x ∈ l,f x = some (g x)) → s.length + l.length ≤ 10000000 → ∀ k : List (List LCol) → Option (List LCol × Int),
  af (aC (σ := List (List LCol)) (ρ := ((List LCol) × Int)) (fun (_ : Nat) (x1 : LQuery) (s1 : List (List LCol))=>af (f x1) fun x28=>cond (x28.2 != (0 : Int)) (some (.ret ([],x28.2)))
    (af (cJ 24 s1 ([x28.1] : List (List LCol))) fun (x37 : List (List LCol))=>some (.next x37))) j l s) (fun fl1=>fl1.thenR k) =
   if (cC (l.map g)).2 ≠ 0 then some ([],(cC (l.map g)).2) else k (s ++ (cC (l.map g)).1)
 | [],j,s,_,_,k=>by simp [aC,cC]
 | x :: l,j,s,h,hb,k=>by
  rw [aC,h x (by simp),bPs,List.map_cons,cC]
  by_cases h1 : (g x).2 = 0
  ·rw [kW h1,zd,cu (by decide) (by simp at hb ⊢; omega),bPs]
   simp only [h1,ne_eq,not_true_eq_false,if_false]
   rw [qD f g l (j + 1) _ (fun y hy=>h y (by simp [hy])) (by simp at hb ⊢; omega) k]
   by_cases h2 : (cC (l.map g)).2 = 0
   ·simp [h2]
   ·simp [h2]
  ·rw [kM h1]; simp [h1]
theorem oP : ∀ {l : List (List LCol × Int)},(cC l).2 = 0 → (∀ r ∈ l,r.2 = 0) ∧ (cC l).1 = l.map (·.1)
 | [],_=>⟨by simp,rfl⟩
 | r :: l,h=>by
  simp only [cC] at h ⊢
  by_cases h1 : r.2 = 0
  ·by_cases h2 : (cC l).2 = 0
   ·obtain ⟨a,b⟩ := oP h2
    refine ⟨fun x hx=>?_,by simp [h1,h2,b]⟩
    rcases List.mem_cons.1 hx with rfl | hx
    ·exact h1
    ·exact a x hx
   ·simp [h1,h2] at h
  ·simp [h1] at h
theorem dup_run (out : List LCol) : af (aC (σ := Unit) (ρ := ((List LCol) × Int)) (fun (j2 : Nat) (x2 : LCol) (_ : Unit) =>
     af (subI out 0 (j2 : Int)) fun (x61 : List LCol) =>
     af (bF x61 (fun a0=>some (bM a0 x2))) fun x63 =>
     cond x63 (some (.ret ([],23))) (some (.next ()))) 0 out ()) (fun fl2=>fl2.thenR fun (_ : Unit)=>some (out,0)) = some (if (out.map LCol.name).Nodup then (out,0) else ([],23)) := by
 obtain ⟨fl,hfl,hr⟩ := eh (step := fun (j2 : Nat) (x2 : LCol) (_ : Unit) =>
     af (subI out 0 (j2 : Int)) fun (x61 : List LCol) =>
     af (bF x61 (fun a0=>some (bM a0 x2))) fun x63 =>
     cond x63 (some (Flow.ret (([],23) : List LCol × Int))) (some (.next ())))
  (fun j _=>((out.take j).map LCol.name).Nodup) (fun r=>r = ([],23) ∧ ¬ (out.map LCol.name).Nodup) out 0 () (by simp) (fun k x s hk hI=>by
   simp only [Nat.zero_add] at hI ⊢
   have hkl := (zg.1 hk).1
   rw [subI_ok ⟨by omega,by omega,by omega⟩,bPs]
   unfold bF
   rw [idx_column,bPs,bPs,nn]
   simp only [Int.toNat_natCast,Int.toNat_zero,List.drop_zero]
   cases ha : (out.take k).any fun a0=>bM a0 x with
   | true =>
    refine ⟨_,rfl,rfl,fun hnd=>?_⟩
    obtain ⟨y,hy,he⟩ := List.any_eq_true.1 ha
    have he : y.name = x.name := by simpa [bM] using he
    obtain ⟨i,hi,hyi⟩ := List.mem_take_iff_getElem.1 hy
    have hii : i < k := by omega
    rw [List.nodup_iff_pairwise_ne,List.pairwise_iff_getElem] at hnd
    refine hnd i k (by simp; omega) (by simpa using hkl) hii ?_
    simp only [List.getElem_map]
    rw [(zg.1 hk).2,hyi,he]
   | false =>
    refine ⟨_,rfl,?_⟩
    simp only
    rw [List.take_add_one,hk,List.map_append,List.nodup_append]
    refine ⟨hI,by simp,fun a ha' b hb hab=>?_⟩
    simp at hb
    subst hb
    subst hab
    obtain ⟨y,hy,he⟩ := List.mem_map.1 ha'
    have := List.any_eq_false.1 ha y hy
    exact this (by simpa [bM] using he))
 rw [hfl,bPs]
 cases fl with
 | brk s=>exact absurd hr (by simp)
 | ret r=>rw [thenR_retS,hr.1,zy hr.2]
 | next s =>
  simp only [Nat.zero_add,List.take_length] at hr
  rw [jH,zp hr]
theorem colsQ_len (c : LChecker) (q : LQuery) : (dQ c q).1.length ≤ 20 := by
 rw [colsQ_eq]
 unfold mC
 repeat' split
 all_goals first | (simp; done) | (simp only; omega)
theorem cols_ok (c : LChecker) : ∀ q : LQuery,SmallQ q → ee c q = some (dQ c q) := by
 refine LQuery.ind fun q ih hsm=>?_
 refine kP (γ := LChecker) (F := fun n c q=>dy n c q) (O := fun r c q=>dA r c q) (fun n=>rfl) c q ?_ (fun x hx=>⟨_,ih x hx (hsm.sub hx)⟩) ?_
 ·intro r r' h
  simp only [dA]
  congr 1
  funext b
  congr 2
  exact gK q.inputs 0 _ fun k x s hk=>by rw [h x (dc hk)]
 ·have e : ∀ c x,(eH fun n=>dy n c x) = ee c x := fun _ _=>rfl
  simp only [dA,e]
  have hself := hsm.self
  rw [shape_eq q ⟨by omega,by omega⟩,bPs,colsQ_eq]
  unfold mC
  cases hs : jG q with
  | false=>rfl
  | true =>
   have hok := oQ hs
   have hin : q.inputs.length ≤ 2 := by rw [hok.arity]; unfold ky; split <;> (try split) <;> omega
   simp only [Bool.not_true,zd,Bool.true_eq_false,if_false]
   rw [qD (ee c) (dQ c) q.inputs 0 [] (fun x hx=>ih x hx (hsm.sub hx)) (by simp; omega),List.nil_append]
   by_cases h1 : (cC (q.inputs.map (dQ c))).2 = 0
   ·obtain ⟨a,b⟩ := oP h1
    simp only [h1,ne_eq,not_true_eq_false,if_false]
    rw [out_eq hok hsm (by rw [b]; simp) (fun l hl=>by
     rw [b] at hl
     obtain ⟨r,hr,rfl⟩ := List.mem_map.1 hl
     obtain ⟨x,_,rfl⟩ := List.mem_map.1 hr
     exact colsQ_len c x),bPs]
    generalize lw c q (cC (q.inputs.map (dQ c))).1 = o
    by_cases h2 : o.2 = 0
    ·rw [kW h2,zd]
     simp only [h2,not_true_eq_false,if_false]
     by_cases h3 : 20 < o.1.length
     ·rw [zt (show (o.1.length : Int) > 20 from by omega),zp h3]; rfl
     ·rw [zf (show ¬ (o.1.length : Int) > 20 from by omega),zy h3,zd]
      exact dup_run o.1
    ·rw [kM h2]; simp [h2]
   ·simp [h1]
section
variable {α : Type}
end
section
abbrev Rows := Rz
abbrev Cmp := Rq → Rq → Option Int
variable {cmp : Cmp} {d0 : Rows}
end
theorem pe {c : LChecker} {q : LQuery} (h : (dQ c q).2 = 0) : jG q = true ∧ (∀ x ∈ q.inputs,(dQ c x).2 = 0) ∧ (lw c q (q.inputs.map fun x=>(dQ c x).1)).2 = 0 ∧ (dQ c q).1 = (lw c q (q.inputs.map fun x=>(dQ c x).1)).1 ∧ ((dQ c q).1.map LCol.name).Nodup := by
 rw [colsQ_eq] at h ⊢
 unfold mC at h ⊢
 by_cases h1 : jG q = false
 ·simp [h1] at h
 rw [zy h1] at h ⊢
 by_cases h2 : (cC (q.inputs.map (dQ c))).2 = 0
 ·obtain ⟨a,b⟩ := oP h2
  have e : (q.inputs.map (dQ c)).map (·.1) = q.inputs.map fun x=>(dQ c x).1 := by rw [List.map_map]; rfl
  rw [e] at b
  rw [b] at h ⊢
  rw [zy (by simpa using h2)] at h ⊢
  by_cases h3 : (lw c q (q.inputs.map fun x=>(dQ c x).1)).2 = 0
  ·rw [zy (by simpa using h3)] at h ⊢
   by_cases h4 : 20 < (lw c q (q.inputs.map fun x=>(dQ c x).1)).1.length
   ·rw [zp h4] at h; simp at h
   ·rw [zy h4] at h ⊢
    by_cases h5 : ((lw c q (q.inputs.map fun x=>(dQ c x).1)).1.map LCol.name).Nodup
    ·rw [zp h5] at h ⊢
     exact ⟨by simpa using h1,fun x hx=>a _ (List.mem_map.2 ⟨x,hx,rfl⟩),h3,rfl,h5⟩
    ·rw [zy h5] at h; simp at h
  ·rw [zp h3] at h; exact absurd h h3
 ·rw [zp h2] at h; exact absurd h h2
theorem most_inv {q : LQuery} (h : (em q).2 ≤ 20000) : (em q).1 ≤ (em q).2 ∧ ∀ x ∈ q.inputs,(em x).2 ≤ 20000 := by
 have key : ∀ (l : List (Int × Int)) (j : Nat) (s : Int × Int),s.2 ≤ (cV q.kind j l s).2 ∧ ∀ x ∈ l,x.2 ≤ (cV q.kind j l s).2 := by
  intro l
  induction l with
  | nil=>intro j s; exact ⟨Int.le_refl _,by simp⟩
  | cons y l ih =>
   intro j s
   obtain ⟨h1,h2⟩ := ih (j + 1) (iD q.kind s j y)
   rw [cV]
   have h3 : s.2 ≤ (iD q.kind s j y).2 := kp _ _
   have h4 : y.2 ≤ (iD q.kind s j y).2 := maxI_r _ _
   refine ⟨by omega,fun x hx=>?_⟩
   rcases List.mem_cons.1 hx with rfl | hx
   ·omega
   ·exact h2 x hx
 have hk := key (q.inputs.map em) 0 (0,0)
 rw [mostQ_eq] at h ⊢
 by_cases h1 : q.kind = 1
 ·rw [zp h1] at h ⊢
  refine ⟨maxI_r _ _,fun x hx=>?_⟩
  have := hk.2 (em x) (List.mem_map.2 ⟨x,hx,rfl⟩)
  have := kp (cV q.kind 0 (q.inputs.map em) (0,0)).2 24
  simp only at h
  omega
 ·rw [zy h1] at h ⊢
  refine ⟨maxI_r _ _,fun x hx=>?_⟩
  have := hk.2 (em x) (List.mem_map.2 ⟨x,hx,rfl⟩)
  have := kp (cV q.kind 0 (q.inputs.map em) (0,0)).2 (cV q.kind 0 (q.inputs.map em) (0,0)).1
  simp only at h
  omega
theorem params_sub {q x : LQuery} (h : x ∈ q.inputs) : ∀ p ∈ jC x,p ∈ jC q := by
 intro p hp
 obtain ⟨l,hl,hp⟩ := List.mem_flatten.1 hp
 obtain ⟨y,hy,rfl⟩ := List.mem_map.1 hl
 exact List.mem_flatten.2 ⟨_,List.mem_map.2 ⟨y,mem_nodes h hy,rfl⟩,hp⟩
theorem e0_mem {q : LQuery} (h : q.exprs.length = 1) : e0Q q ∈ q.exprs := by
 unfold e0Q
 cases hq : q.exprs with
 | nil=>rw [hq] at h; simp at h
 | cons a l=>simp
theorem two {q : LQuery} (h : q.inputs.length = 2) : ∃ x y,q.inputs = [x,y] := by
 match hq : q.inputs,h with
 | [x,y],_=>exact ⟨x,y,rfl⟩
theorem one {q : LQuery} (h : q.inputs.length = 1) : ∃ x,q.inputs = [x] := by
 match hq : q.inputs,h with
 | [x],_=>exact ⟨x,rfl⟩
def SizeOk (q : LQuery) : Prop := (bC q).length ≤ 24 ∧ fc q ≤ 12 ∧ (em q).2 ≤ 20000
instance (q : LQuery) : Decidable (SizeOk q) := by unfold SizeOk; infer_instance
theorem check_eq {s : LSchema} {vars : List LCol} {q : LQuery} (h : SmallQ q) : ∃ cs e,fE s vars q = some (cs,e) ∧ (e = 0 ↔ SizeOk q ∧ pZ (jC q) ∧ (dQ ⟨s,vars⟩ q).2 = 0) ∧ (e = 0 → cs = (dQ ⟨s,vars⟩ q).1) := by
 unfold fE
 rw [nodes_ok q h.nodes,bPs]
 by_cases h1 : (bC q).length ≤ 24
 ·rw [zf (show ¬ ((bC q).length : Int) > 24 from by omega),zd,depth_ok q h.nodes,bPs]
  by_cases h2 : fc q ≤ 12
  ·rw [zf (show ¬ fc q > 12 from by omega),zd]
   unfold eg
   rw [most_ok,bPs,bPs]
   by_cases h3 : (em q).2 ≤ 20000
   ·rw [zf (show ¬ (em q).2 > 20000 from by omega),bPs,zd,kinds_ok h.nodes,bPs]
    cases hb : (iz q).2.1 with
    | true =>
     refine ⟨[],13,rfl,⟨fun h=>by omega,fun hh=>?_⟩,fun h=>by omega⟩
     rw [kinds_bad.2 hh.2.1] at hb
     cases hb
    | false =>
     have hk := kinds_bad.1 hb
     simp only [zd]
     rw [cols_ok _ q h]
     refine ⟨(dQ ⟨s,vars⟩ q).1,(dQ ⟨s,vars⟩ q).2,rfl,⟨fun h0=>⟨⟨h1,h2,h3⟩,hk,h0⟩,fun hh=>hh.2.2⟩,fun _=>rfl⟩
   ·rw [zt (show (em q).2 > 20000 from by omega)]
    exact ⟨[],2,rfl,⟨fun h=>by omega,fun hh=>absurd hh.1.2.2 h3⟩,fun h=>by omega⟩
  ·rw [zt (show fc q > 12 from by omega)]
   exact ⟨[],2,rfl,⟨fun h=>by omega,fun hh=>absurd hh.1.2.1 h2⟩,fun h=>by omega⟩
 ·rw [zt (show ((bC q).length : Int) > 24 from by omega)]
  exact ⟨[],2,rfl,⟨fun h=>by omega,fun hh=>absurd hh.1.1 h1⟩,fun h=>by omega⟩
def chainF (s : Nat) : Nat → Nat → List Nat
 | 0,_=>[]
 | n + 1,x=>x :: (bif Nat.beq x 0 then [] else chainF s n ((x - 1) &&& s))
theorem chain_all : ((List.range 256).all fun s=>(List.range s).all fun a=>bif Nat.beq (a &&& s) a then (chainF s 256 ((s - 1) &&& s)).any (Nat.beq a) else true) = true := by decide +kernel
theorem chain_rch {s : Nat} (hs : s < 256) : ∀ (n x : Nat),x < 256 → ∀ a,(chainF s n x).any (Nat.beq a) = true → Rch (s : Int) (x : Int) (a : Int)
 | 0,_,_,_,h=>by cases h
 | n + 1,x,hx,a,h=>by
  simp only [chainF,List.any_cons,Bool.or_eq_true] at h
  rcases h with h | h
  ·rw [Nat.eq_of_beq_eq_true h]; exact .here _
  ·cases hb : Nat.beq x 0 with
   | true=>rw [hb] at h; cases h
   | false =>
    rw [hb,zd] at h
    have hx0 : x ≠ 0 := fun e=>by subst e; cases hb
    have hle : (x - 1) &&& s ≤ x - 1 := Nat.and_le_left
    have ih := chain_rch hs n ((x - 1) &&& s) (by omega) a h
    refine .next (by omega) ?_
    have e : aO .i64 ((x : Int) - 1) (s : Int) = (((x - 1) &&& s : Nat) : Int) := by
     rw [show (x : Int) - 1 = ((x - 1 : Nat) : Int) by omega]
     exact oR (x - 1) s (by omega) hs
    rw [e]
    exact ih
theorem rch_all {s a : Nat} (hs : s < 256) (ha : a &&& s = a) (has : a < s) : Rch (s : Int) (kv (s : Int)) (a : Int) := by
 have h1 := List.all_eq_true.1 (List.all_eq_true.1 chain_all s (List.mem_range.2 hs)) a (List.mem_range.2 has)
 have hb : Nat.beq (a &&& s) a = true := by rw [ha]; exact Nat.beq_refl a
 rw [hb,zc] at h1
 have hle : (s - 1) &&& s ≤ s := Nat.and_le_right
 have h2 := chain_rch hs 256 ((s - 1) &&& s) (by omega) a h1
 unfold kv
 rw [show (s : Int) - 1 = ((s - 1 : Nat) : Int) by omega,oR (s - 1) s (by omega) hs]
 exact h2
theorem or_all : ((List.range 256).all fun a=>(List.range 256).all fun b=>bif Nat.beq (a &&& b) 0 then Nat.beq (a ||| b) (a + b) && Nat.beq (a &&& (a + b)) a else true) = true := by decide +kernel
theorem or_add {a b : Nat} (ha : a < 256) (hb : b < 256) (h : a &&& b = 0) : a ||| b = a + b ∧ a &&& (a + b) = a := by
 have h1 := List.all_eq_true.1 (List.all_eq_true.1 or_all a (List.mem_range.2 ha)) b (List.mem_range.2 hb)
 rw [show Nat.beq (a &&& b) 0 = true by rw [h]; rfl,zc,Bool.and_eq_true] at h1
 exact ⟨Nat.eq_of_beq_eq_true h1.1,Nat.eq_of_beq_eq_true h1.2⟩
inductive TW (n : Nat) : LJoinorderTree → Nat → Prop
 | leaf {i : Nat} : i < n → TW n (.mk (i : Int) []) (2 ^ i)
 | join {x y : LJoinorderTree} {a b : Nat} : TW n x a → TW n y b → a &&& b = 0 → TW n (.mk 0 [x,y]) (a + b)
theorem pV {n : Nat} (h : n ≤ 8) : 2 ^ n ≤ 256 := Nat.pow_le_pow_right (n := 2) (by decide) h
theorem TW.lt {n : Nat} (hn : n ≤ 8) {t : LJoinorderTree} {s : Nat} (h : TW n t s) : 1 ≤ s ∧ s < 2 ^ n := by
 have h8 := pV hn
 induction h with
 | leaf hi=>exact ⟨Nat.pos_of_ne_zero (by simp),Nat.pow_lt_pow_right (by decide) hi⟩
 | join _ _ hd ha hb =>
  obtain ⟨e,_⟩ := or_add (by omega) (by omega) hd
  refine ⟨by omega,?_⟩
  rw [← e]
  exact Nat.or_lt_two_pow ha.2 hb.2
structure Forest (n : Nat) (ps : List (LJoinorderTree × Nat)) : Prop where
 tw : ∀ p ∈ ps,TW n p.1 p.2
 dis : ps.Pairwise fun p q=>p.2 &&& q.2 = 0
 sum : (ps.map (·.2)).sum = 2 ^ n - 1
theorem sum_perm {l m : List Nat} (h : l.Perm m) : l.sum = m.sum := by
 induction h with
 | nil=>rfl
 | cons x _ ih=>simp [ih]
 | swap x y l=>simp; omega
 | trans _ _ h1 h2=>exact h1.trans h2
theorem Forest.perm {n : Nat} {ps qs : List (LJoinorderTree × Nat)} (h : Forest n ps) (hp : ps.Perm qs) : Forest n qs :=
 ⟨fun p hq=>h.tw p (hp.mem_iff.2 hq),(hp.pairwise_iff fun {x y} e=>by rw [Nat.and_comm]; exact e).1 h.dis,by rw [← sum_perm (hp.map _)]; exact h.sum⟩
theorem Forest.join {n : Nat} (hn : n ≤ 8) {p q : LJoinorderTree × Nat} {r : List (LJoinorderTree × Nat)} (h : Forest n (p :: q :: r)) : Forest n ((.mk 0 [p.1,q.1],p.2 + q.2) :: r) := by
 have h8 := pV hn
 have hp := h.tw p (by simp)
 have hq := h.tw q (by simp)
 obtain ⟨d1,d2⟩ := List.pairwise_cons.1 h.dis
 obtain ⟨d3,d4⟩ := List.pairwise_cons.1 d2
 have hpq := d1 q (by simp)
 have lp := hp.lt hn
 have lq := hq.lt hn
 obtain ⟨e,_⟩ := or_add (by omega) (by omega) hpq
 refine ⟨fun x hx=>?_,List.pairwise_cons.2 ⟨fun x hx=>?_,d4⟩,?_⟩
 ·rcases List.mem_cons.1 hx with rfl | hx
  ·exact .join hp hq hpq
  ·exact h.tw x (by simp [hx])
 ·show (p.2 + q.2) &&& x.2 = 0
  rw [← e,Nat.and_or_distrib_right,d1 x (by simp [hx]),d3 x hx]
  rfl
 ·have := h.sum
  simp only [List.map_cons,List.sum_cons] at this ⊢
  omega
theorem om {α : Type} {l : List α} {i : Nat} (h : i < l.length) : l.Perm (l[i] :: l.eraseIdx i) := by
 have e : l = l.take i ++ l[i] :: l.drop (i + 1) := by rw [← List.drop_eq_getElem_cons h,List.take_append_drop]
 rw [List.eraseIdx_eq_take_drop_succ]
 exact (List.Perm.of_eq e).trans List.perm_middle
theorem perm_set {α : Type} {l : List α} {i : Nat} (h : i < l.length) (v : α) : (l.set i v).Perm (v :: l.eraseIdx i) := by
 have h' : i < (l.set i v).length := by rw [List.length_set]; exact h
 have h1 := om h'
 rw [List.getElem_set_self,List.eraseIdx_eq_take_drop_succ,List.take_set_of_le (Nat.le_refl i),List.drop_set_of_lt (Nat.lt_succ_self i),← List.eraseIdx_eq_take_drop_succ] at h1
 exact h1
theorem Forest.step {n : Nat} (hn : n ≤ 8) {ps : List (LJoinorderTree × Nat)} (h : Forest n ps) {i j : Nat} (hi : i < ps.length) (hj : j < (ps.eraseIdx i).length) :
  Forest n ((ps.eraseIdx i).set j (.mk 0 [ps[i].1,(ps.eraseIdx i)[j].1],ps[i].2 + (ps.eraseIdx i)[j].2)) := by
 have h1 : Forest n (ps[i] :: ps.eraseIdx i) := h.perm (om hi)
 have h2 : Forest n (ps[i] :: (ps.eraseIdx i)[j] :: (ps.eraseIdx i).eraseIdx j) := h1.perm ((om hj).cons _)
 exact (h2.join hn).perm (perm_set hj _).symm
def jZ (n : Nat) : List (LJoinorderTree × Nat) := (List.range n).map fun i : Nat=>(LJoinorderTree.mk (i : Int) [],(2 : Nat) ^ i)
theorem Forest.init {n : Nat} (h1 : 1 ≤ n) (h8 : n ≤ 8) : Forest n (jZ n) := by
 refine ⟨fun p hp=>?_,?_,?_⟩
 ·obtain ⟨i,hi,rfl⟩ := List.mem_map.1 hp
  exact .leaf (List.mem_range.1 hi)
 ·unfold jZ
  rw [List.pairwise_map]
  have : n = 1 ∨ n = 2 ∨ n = 3 ∨ n = 4 ∨ n = 5 ∨ n = 6 ∨ n = 7 ∨ n = 8 := by omega
  rcases this with rfl | rfl | rfl | rfl | rfl | rfl | rfl | rfl <;> decide +kernel
 ·have e : (jZ n).map (·.2) = (List.range n).map fun i=>2 ^ i := by unfold jZ; rw [List.map_map]; rfl
  rw [e]
  have : n = 1 ∨ n = 2 ∨ n = 3 ∨ n = 4 ∨ n = 5 ∨ n = 6 ∨ n = 7 ∨ n = 8 := by omega
  rcases this with rfl | rfl | rfl | rfl | rfl | rfl | rfl | rfl <;> decide +kernel
theorem Forest.one {n : Nat} {p : LJoinorderTree × Nat} (h : Forest n [p]) : TW n p.1 (2 ^ n - 1) := by
 have h1 := h.sum
 simp only [List.map_cons,List.map_nil,List.sum_cons,List.sum_nil,Nat.add_zero] at h1
 rw [← h1]
 exact h.tw p (by simp)
theorem shl_small {i : Nat} (h : i < 8) : shlI .i64 1 (i : Int) = some ((2 ^ i : Nat) : Int) := by
 have : i = 0 ∨ i = 1 ∨ i = 2 ∨ i = 3 ∨ i = 4 ∨ i = 5 ∨ i = 6 ∨ i = 7 := by omega
 rcases this with rfl | rfl | rfl | rfl | rfl | rfl | rfl | rfl <;> rfl
theorem orI_nat (x s : Nat) (hx : x < 256) (hs : s < 256) : orI .i64 (x : Int) (s : Int) = ((x ||| s : Nat) : Int) := by
 have hle : x ||| s < 2 ^ 8 := Nat.or_lt_two_pow (n := 8) hx hs
 show IntKind.i64.wrap ((BitVec.ofInt 64 (x : Int) ||| BitVec.ofInt 64 (s : Int)).toNat : Int) = _
 rw [BitVec.toNat_or,iT x hx,iT s hs,bT (by omega) (by omega)]
theorem leafset_ev {g : LJoinorderGraph} (h8 : g.sizes.length ≤ 8) {t : LJoinorderTree} {s : Nat} (h : TW g.sizes.length t s) : ∃ N,∀ m,N ≤ m → eo m g t = some ((s : Int),true) := by
 have hp := pV h8
 induction h with
 | @leaf i hi =>
  refine ⟨1,fun m hm=>?_⟩
  obtain ⟨m,rfl⟩ : ∃ k,m = k + 1 := ⟨m - 1,by omega⟩
  show dM _ g (LJoinorderTree.mk (i : Int) []) = _
  unfold dM
  rw [show (((LJoinorderTree.mk (i : Int) []).children.length : Int) == (0 : Int)) = true from rfl,zc]
  rw [zy (show ¬ (8 : Int) < (LJoinorderTree.mk (i : Int) []).leaf from by show ¬ (8 : Int) < (i : Int); omega)]
  have e2 : (if (LJoinorderTree.mk (i : Int) []).leaf > (0 : Int) then (LJoinorderTree.mk (i : Int) []).leaf else (0 : Int)) = (i : Int) := by
   show (if (i : Int) > (0 : Int) then (i : Int) else (0 : Int)) = (i : Int)
   split <;> omega
  rw [e2,shl_small (by omega),bPs,zt (show (LJoinorderTree.mk (i : Int) []).leaf ≥ 0 from by show (i : Int) ≥ 0; omega),zc,
   zt (show (LJoinorderTree.mk (i : Int) []).leaf < (g.sizes.length : Int) from by show (i : Int) < _; omega)]
 | @join x y a b hx hy hd ihx ihy =>
  obtain ⟨N1,h1⟩ := ihx
  obtain ⟨N2,h2⟩ := ihy
  have la := hx.lt h8
  have lb := hy.lt h8
  obtain ⟨ho,_⟩ := or_add (by omega) (by omega) hd
  refine ⟨N1 + N2 + 1,fun m hm=>?_⟩
  obtain ⟨m,rfl⟩ : ∃ k,m = k + 1 := ⟨m - 1,by omega⟩
  show dM (fun b0 b1=>eo m b0 b1) g (LJoinorderTree.mk 0 [x,y]) = _
  unfold dM
  simp only [LJoinorderTree.children,LJoinorderTree.leaf,ck]
  rw [show ((([x,y] : List LJoinorderTree).length : Int) == (0 : Int)) = false from rfl,zd,show ((([x,y] : List LJoinorderTree).length : Int) != (2 : Int)) = false from rfl,zd,
   show ((0 : Int) != (0 : Int)) = false from rfl,zd,show aH [x,y] 0 = some x from rfl,bPs,h1 m (by omega),bPs,show aH [x,y] 1 = some y from rfl,bPs,h2 m (by omega),bPs]
  simp only [zc]
  rw [orI_nat a b (by omega) (by omega),oR a b (by omega) (by omega),hd,ho]
  rfl
theorem leafset_eq {g : LJoinorderGraph} (h8 : g.sizes.length ≤ 8) {t : LJoinorderTree} {s : Nat} (h : TW g.sizes.length t s) : gO g t = some ((s : Int),true) := by
 obtain ⟨N,h⟩ := leafset_ev h8 h
 exact ix N h
theorem pop_pow_all (i : Fin 8) : (pop ((2 ^ i.val : Nat) : Int) == 1) = true := by
 unfold pop ce dz
 revert i; decide +kernel
theorem cost_ev {g : LJoinorderGraph} (hv : ValidG g) {T : List LJoinorderBest} (hT : ∀ s : Int,1 ≤ s → s < ((2 ^ g.sizes.length : Nat) : Int) → OkAt (hsz g) false T s) {t : LJoinorderTree} {s : Nat} (h : TW g.sizes.length t s) :
  ∃ N c,(∀ m,N ≤ m → fJ m g t = some c) ∧ 0 ≤ c ∧ c ≤ 1073741824 * ((s : Int) - 1) ∧ (tat T (s : Int)).cost ≤ c := by
 have h8 := hv.n8
 have hp := pV h8
 induction h with
 | @leaf i hi =>
  have hl := (TW.leaf hi).lt h8
  refine ⟨1,0,fun m hm=>?_,Int.le_refl _,by omega,?_⟩
  ·obtain ⟨m,rfl⟩ : ∃ k,m = k + 1 := ⟨m - 1,by omega⟩
   show eK _ g (LJoinorderTree.mk (i : Int) []) = _
   unfold eK
   simp only [LJoinorderTree.children]
   rw [show ((([] : List LJoinorderTree).length : Int) == (0 : Int)) = true from rfl,zc]
  ·rw [(hT ((2 ^ i : Nat) : Int) (by omega) (by omega)).leaf (pop_pow_all ⟨i,by omega⟩)]
   exact Int.le_refl _
 | @join x y a b hx hy hd ihx ihy =>
  obtain ⟨N1,c1,h1,p1,q1,r1⟩ := ihx
  obtain ⟨N2,c2,h2,p2,q2,r2⟩ := ihy
  have la := hx.lt h8
  have lb := hy.lt h8
  have hj := TW.join hx hy hd
  have lj := hj.lt h8
  obtain ⟨ho,hand⟩ := or_add (by omega) (by omega) hd
  obtain ⟨h,hh,hR⟩ := size_eq hv ((a + b : Nat) : Int)
  have hhs : hsz g ((a + b : Nat) : Int) = h := by unfold hsz; rw [hh]; rfl
  have hR0 := hR.1
  have hR1 := hR.2
  refine ⟨N1 + N2 + 1,c1 + c2 + h,fun m hm=>?_,by omega,by omega,?_⟩
  ·obtain ⟨m,rfl⟩ : ∃ k,m = k + 1 := ⟨m - 1,by omega⟩
   show eK (fun b0 b1=>fJ m b0 b1) g (LJoinorderTree.mk 0 [x,y]) = _
   unfold eK
   rw [leafset_eq h8 hj]
   simp only [LJoinorderTree.children]
   rw [show ((([x,y] : List LJoinorderTree).length : Int) == (0 : Int)) = false from rfl,zd,bPs,show aH [x,y] 0 = some x from rfl,bPs,show aH [x,y] 1 = some y from rfl,bPs,
    h1 m (by omega),bPs,h2 m (by omega),bPs,hh,bPs,bT (n := c1 + c2) (by omega) (by omega),bT (n := c1 + c2 + h) (by omega) (by omega)]
  ·have ok := hT ((a + b : Nat) : Int) (by omega) (by omega)
   cases hpop : (pop ((a + b : Nat) : Int) == 1) with
   | true=>rw [ok.leaf hpop]; omega
   | false =>
    have := ok.all hpop rfl (a : Int) (rch_all (by omega) hand (by omega)) (by omega) (by omega)
    rw [show ((a + b : Nat) : Int) - (a : Int) = (b : Int) by omega,hhs] at this
    omega
theorem u64_nonneg (x : Int) : 0 ≤ IntKind.u64.wrap x := by
 simp only [IntKind.wrap,IntKind.bits,IntKind.signed]
 simp
 omega
theorem rem_ok {x : Int} {n : Nat} (h1 : 1 ≤ n) (h8 : n ≤ 8) : ∃ r : Nat,r < n ∧ remN (IntKind.u64.wrap x) (IntKind.u64.wrap (n : Int)) = some (r : Int) := by
 have h0 := u64_nonneg x
 rw [u64_id (x := (n : Int)) (by omega) (by omega)]
 have e : (IntKind.u64.wrap x).tmod (n : Int) = IntKind.u64.wrap x % (n : Int) := Int.tmod_eq_emod_of_nonneg h0
 have q0 : 0 ≤ IntKind.u64.wrap x % (n : Int) := Int.emod_nonneg _ (by omega)
 have q1 : IntKind.u64.wrap x % (n : Int) < n := Int.emod_lt_of_pos _ (by omega)
 refine ⟨(IntKind.u64.wrap x % (n : Int)).toNat,by omega,?_⟩
 unfold remN
 rw [zy (by omega),e]
 congr 1
 omega
theorem pick_ok (picks : List Int) (hb : picks.length ≤ 1000000) {k : Int} (h0 : 0 ≤ k) : ∃ p,(cond (decide ((picks.length : Int) > (0 : Int)))
     (af (remI k (picks.length : Int)) fun (x35 : Int) =>
     af (aH picks x35) fun (x36 : Int) =>
     some x36)
     (some k)) = some p := by
 by_cases h : (picks.length : Int) > 0
 ·have e : k.tmod (picks.length : Int) = k % (picks.length : Int) := Int.tmod_eq_emod_of_nonneg h0
  have q0 : 0 ≤ k % (picks.length : Int) := Int.emod_nonneg _ (by omega)
  have q1 : k % (picks.length : Int) < picks.length := Int.emod_lt_of_pos _ (by omega)
  have hlt : (k % (picks.length : Int)).toNat < picks.length := by omega
  refine ⟨picks[(k % (picks.length : Int)).toNat],?_⟩
  rw [zt h,zc]
  unfold remI
  rw [zy (by omega),e,bPs,jz q0 (ze hlt),bPs]
 ·exact ⟨k,by rw [zf h,zd]⟩
theorem lK {α σ β : Type} {step : Nat → α → σ → Option (Flow σ Empty)} {k : σ → Option β} {R : β → Prop} {xs : List α} {s0 : σ} (I : Nat → σ → Prop) (h0 : I 0 s0)
  (hs : ∀ j x s,xs[j]? = some x → I j s → ∃ s',step j x s = some (.next s') ∧ I (j + 1) s') (hk : ∀ s,I xs.length s → ∃ r,k s = some r ∧ R r) :
  ∃ r,af (aC step 0 xs s0) (fun fl=>fl.thenP k) = some r ∧ R r := by
 obtain ⟨fl,h1,h2⟩ := eh (step := step) I (fun _=>False) xs 0 s0 h0 (fun j x s hj hI=>by
  rw [Nat.zero_add] at hI ⊢
  obtain ⟨s',h1,h2⟩ := hs j x s hj hI
  exact ⟨_,h1,h2⟩)
 rw [h1]
 cases fl with
 | next s=>simp only [Nat.zero_add] at h2; exact hk s h2
 | brk s=>exact absurd h2 (by simp)
 | ret r=>exact r.elim
theorem tree_ok {n : Nat} (h1 : 1 ≤ n) (h8 : n ≤ 8) (picks : List Int) (hb : picks.length ≤ 1000000) : ∃ t,dZ (n : Int) picks = some t ∧ TW n t (2 ^ n - 1) := by
 unfold dZ
 rw [smallI_ok (by omega),bPs,Int.toNat_natCast]
 refine lK (fun j s=>s = (List.range j).map fun i : Nat=>LJoinorderTree.mk (i : Int) []) rfl (fun j x s hj hI=>?_) (fun s hI=>?_)
 ·subst hI
  have hj' := (zg.1 hj).1
  simp only [List.length_range] at hj'
  refine ⟨_,by rw [cu (by decide) (by simp; omega),bPs],?_⟩
  rw [List.range_succ,List.map_append]
  rfl
 ·rw [List.length_range] at hI
  refine oC (fun st : List LJoinorderTree × Int=>∃ ps : List (LJoinorderTree × Nat),st.1 = ps.map (·.1) ∧ Forest n ps ∧ 1 ≤ ps.length ∧ ps.length + st.2 = n ∧ 0 ≤ st.2) (fun st=>st.1.length)
   (fun st=>∃ p : LJoinorderTree × Nat,st.1 = [p.1] ∧ Forest n [p]) ?_ (fun st hI=>?_) (fun st hQ=>?_)
  ·refine ⟨jZ n,?_,Forest.init h1 h8,by simp [jZ]; omega,by simp [jZ],by simp⟩
   rw [hI]
   unfold jZ
   rw [List.map_map]
   rfl
  ·obtain ⟨l,k⟩ := st
   obtain ⟨ps,hl,hF,hp1,hpk,hk0⟩ := hI
   simp only at hl hpk hk0 ⊢
   have hlen : l.length = ps.length := by rw [hl,zl]
   by_cases hgt : (l.length : Int) > 1
   ·obtain ⟨p,hp⟩ := pick_ok picks hb hk0
    obtain ⟨r,hr,hrem⟩ := rem_ok (x := p) (n := l.length) (by omega) (by omega)
    rw [zt hgt,zc,hp,bPs,hrem,bPs,bT (n := (r : Int)) (by omega) (by omega),kY (ze hr),bPs,bT (n := (r : Int) + 1) (by omega) (by omega)]
    have hdel : delI l (r : Int) ((r : Int) + 1) = some (l.eraseIdx r) := by
     unfold delI
     rw [zp ⟨by omega,by omega,by omega⟩,List.eraseIdx_eq_take_drop_succ,Int.toNat_natCast]
     rw [show ((r : Int) + 1).toNat = r + 1 by omega]
    have hel : (l.eraseIdx r).length = l.length - 1 := List.length_eraseIdx_of_lt hr
    obtain ⟨j,hj,hrem2⟩ := rem_ok (x := IntKind.i64.wrap (Int.tdiv p (7 : Int))) (n := (l.eraseIdx r).length) (by omega) (by omega)
    rw [hdel,bPs,hrem2,bPs,bT (n := (j : Int)) (by omega) (by omega),kY (ze hj),bPs,bPs,ck,bT (n := k + 1) (by omega) (by omega),Int.toNat_natCast]
    have hr' : r < ps.length := by omega
    have he : l.eraseIdx r = (ps.eraseIdx r).map (·.1) := by rw [hl,List.eraseIdx_eq_take_drop_succ,List.eraseIdx_eq_take_drop_succ,List.map_append,List.map_take,List.map_drop]
    have hj' : j < (ps.eraseIdx r).length := by rw [he,zl] at hj; exact hj
    refine ⟨_,rfl,⟨(ps.eraseIdx r).set j (.mk 0 [ps[r].1,(ps.eraseIdx r)[j].1],ps[r].2 + (ps.eraseIdx r)[j].2),?_,hF.step h8 hr' hj',?_,?_,?_⟩,?_⟩
    ·have er : l[r] = ps[r].1 := by simp only [hl,List.getElem_map]
     have ej : (l.eraseIdx r)[j] = (ps.eraseIdx r)[j].1 := by simp only [he,List.getElem_map]
     simp only
     rw [List.map_set,er,ej,he]
    ·rw [List.length_set,List.length_eraseIdx_of_lt hr']; omega
    ·rw [List.length_set,List.length_eraseIdx_of_lt hr']; simp only; omega
    ·simp only; omega
    ·simp only; rw [List.length_set]; omega
   ·rw [zf hgt,zd]
    refine ⟨_,rfl,?_⟩
    simp only
    match ps,hl,hF,hlen,hp1 with
    | [p],hl,hF,_,_=>exact ⟨p,hl,hF⟩
    | [],_,_,_,hp1=>simp at hp1
    | _ :: _ :: _,_,_,hlen,_=>simp at hlen; omega
  ·obtain ⟨l,k⟩ := st
   obtain ⟨p,hl,hF⟩ := hQ
   simp only at hl
   subst hl
   exact ⟨p.1,rfl,hF.one⟩
theorem notWorse {g : LJoinorderGraph} (hv : ValidG g) (he : bK g = some 0) (picks : List Int) (hb : picks.length ≤ 1000000) :
  ∃ r t c,dX g false = some r ∧ r.2.2 = 0 ∧ dZ (g.sizes.length : Int) picks = some t ∧ gF g t = some (c,0) ∧ r.2.1 ≤ c := by
 obtain ⟨N,hN,hN2,hN8⟩ := pow_eq hv.n1 hv.n8
 have hNp : N = 2 ^ g.sizes.length := by
  have h8 := hv.n8
  have h1 := hv.n1
  revert hN h8 h1
  generalize g.sizes.length = n
  intro hN h8 h1
  have : n = 1 ∨ n = 2 ∨ n = 3 ∨ n = 4 ∨ n = 5 ∨ n = 6 ∨ n = 7 ∨ n = 8 := by omega
  rcases this with rfl | rfl | rfl | rfl | rfl | rfl | rfl | rfl
  ·have : (2 : Int) = (N : Int) := Option.some.inj (hN.symm.trans rfl).symm; omega
  ·have : (4 : Int) = (N : Int) := Option.some.inj (hN.symm.trans rfl).symm; omega
  ·have : (8 : Int) = (N : Int) := Option.some.inj (hN.symm.trans rfl).symm; omega
  ·have : (16 : Int) = (N : Int) := Option.some.inj (hN.symm.trans rfl).symm; omega
  ·have : (32 : Int) = (N : Int) := Option.some.inj (hN.symm.trans rfl).symm; omega
  ·have : (64 : Int) = (N : Int) := Option.some.inj (hN.symm.trans rfl).symm; omega
  ·have : (128 : Int) = (N : Int) := Option.some.inj (hN.symm.trans rfl).symm; omega
  ·have : (256 : Int) = (N : Int) := Option.some.inj (hN.symm.trans rfl).symm; omega
 obtain ⟨r,T,e1,hT,allT,rfl⟩ := cheapest_eq hv he hN hN2 hN8 false
 obtain ⟨t,et,ht⟩ := tree_ok hv.n1 hv.n8 picks hb
 subst hNp
 obtain ⟨M,c,hc,_,_,hle⟩ := cost_ev hv allT ht
 have ec : jT g t = some c := ix M hc
 refine ⟨_,t,c,e1,rfl,et,?_,?_⟩
 ·unfold gF
  rw [he,bPs,show ((0 : Int) != 0) = false from rfl,zd,leafset_eq hv.n8 ht,bPs]
  simp only [Bool.not_true,zd]
  rw [hN,bPs,bT (n := ((2 ^ g.sizes.length : Nat) : Int) - 1) (by omega) (by omega),kW (show ((2 ^ g.sizes.length - 1 : Nat) : Int) = ((2 ^ g.sizes.length : Nat) : Int) - 1 by omega),zd,ec,bPs]
 ·simp only
  rw [show ((2 ^ g.sizes.length : Nat) : Int) - 1 = ((2 ^ g.sizes.length - 1 : Nat) : Int) by omega]
  exact hle
structure TinyQ (q : LQuery) : Prop where
 nodes : (bC q).length ≤ 2000000
 here : ∀ x ∈ bC q,x.exprs.length ≤ 1000000 ∧ x.aggregates.length ≤ 1000000
theorem TinyQ.small {q : LQuery} (h : TinyQ q) : SmallQ q := ⟨by have := h.nodes; omega,h.here⟩
theorem nv {H : Type} : ∀ ds : List (DataW H),(ds.map (fun d=>Rows.uptoBulk d)).sum = Rows.uptoBulkAll ds
 | []=>by simp [Rows.uptoBulkAll]
 | d :: ds=>by simp only [List.map_cons,List.sum_cons,Rows.uptoBulkAll,nv ds]
theorem bulk_is : IsBulk (fun _ d=>Rows.uptoBulk d) where
 one := by
  intro H d
  cases d with
  | lit l=>cases l <;> simp [Rows.uptoBulk]
  | nil=>simp [Rows.uptoBulk]
  | ptr d=>simp [Rows.uptoBulk]
  | slice elems spare=>simp [Rows.uptoBulk]
  | agg parts=>simp [Rows.uptoBulk]
  | iface t d=>simp [Rows.uptoBulk]
  | map entries=>simp [Rows.uptoBulk]
  | held h=>simp [Rows.uptoBulk]
 str := by intro H l; simp [Rows.uptoBulk]
 slice := by intro H a b; rw [nv]; simp only [Rows.uptoBulk]; omega
 agg := by intro H a; rw [nv]; simp only [Rows.uptoBulk]; omega
theorem eC {r : List PV} : ∀ {rs : List (List PV)},r ∈ rs → aG r ≤ cI rs
 | x :: rs,h=>by
  simp only [cI]
  rcases List.mem_cons.1 h with rfl | h
  ·omega
  ·have := eC h; omega
theorem iv {α : Type} {f : α → List PV} {k : Nat} (hf : ∀ x,k ≤ aG (f x)) : ∀ l : List α,k * l.length ≤ cI (l.map f)
 | []=>by simp
 | x :: l=>by
  have := iv hf l
  have := hf x
  simp only [List.map_cons,cI,List.length_cons,Nat.mul_add]
  omega
theorem oO (e : LExpr) : 2 ≤ aG (aE e) := by
 cases e; simp only [aE,aG,PV.bulk]; omega
theorem call_pos (c : LAggregateCall) : 2 ≤ aG (eT c) := by
 simp only [eT,aG,PV.bulk]; omega
theorem smallS_bulk {s : LSchema} {n : Nat} (hn : n ≤ 10000000) (h : aG (bs s) ≤ n) : SmallS s := by
 intro t ht
 have h1 : cI (s.tables.map bS) ≤ aG (bs s) := by
  simp only [bs,aG,PV.bulk]; omega
 have h2 := eC (List.mem_map_of_mem (f := bS) ht)
 have h3 : cI (t.primaryKey.map aY) ≤ aG (bS t) := by
  simp only [bS,aG,PV.bulk]; omega
 have h4 := iv (f := aY) (k := 1) (fun x=>by simp [aG,PV.bulk]) t.primaryKey
 omega
theorem nodes_bulk : ∀ q : LQuery,(bC q).length + 1 ≤ aG (bp q) ∧ ∀ x ∈ bC q,2 * x.exprs.length ≤ aG (bp q) ∧ 2 * x.aggregates.length ≤ aG (bp q) := by
 apply LQuery.ind
 intro q ih
 have e : aG (bp q) = aG (aw q) := by rw [bw]
 have hr : cI (q.inputs.map bp) + 8 ≤ aG (aw q) := by
  simp only [aw,aG,PV.bulk]; omega
 have hsum : ∀ l : List LQuery,(∀ x ∈ l,x ∈ q.inputs) → ((l.map bC).flatten).length + l.length ≤ cI (l.map bp) := by
  intro l
  induction l with
  | nil=>intro _; simp
  | cons x l ihl =>
   intro hm
   have h1 := (ih x (hm x (by simp))).1
   have h2 := ihl (fun y hy=>hm y (by simp [hy]))
   simp only [List.map_cons,List.flatten_cons,List.length_append,List.length_cons,cI]
   omega
 have h0 := hsum q.inputs (fun _ h=>h)
 rw [e]
 refine ⟨?_,fun x hx=>?_⟩
 ·rw [fA]; simp only [List.length_cons]; omega
 ·rw [fA] at hx
  rcases List.mem_cons.1 hx with rfl | hx
  ·have h1 := iv oO x.exprs
   have h2 := iv call_pos x.aggregates
   constructor
   ·simp only [aw,aG,PV.bulk]; omega
   ·simp only [aw,aG,PV.bulk]; omega
  ·simp only [List.mem_flatten,List.mem_map] at hx
   obtain ⟨l,⟨y,hy,rfl⟩,hx⟩ := hx
   have h1 := (ih y hy).2 x hx
   have h2 := eC (List.mem_map_of_mem (f := bp) hy)
   omega
theorem pA {q : LQuery} {n : Nat} (hn : n ≤ 1048576) (h : aG (aw q) ≤ n) : TinyQ q := by
 rw [← bw] at h
 have := nodes_bulk q
 exact ⟨by omega,fun x hx=>by have := this.2 x hx; omega⟩
theorem args_lt {e a : LExpr} (h : a ∈ e.args) : SizeOf.sizeOf a < SizeOf.sizeOf e := by
 cases e
 have := List.sizeOf_lt_of_mem (show a ∈ _ from h)
 simp only [LExpr.mk.sizeOf_spec,LExpr.args] at *
 omega
theorem bulk_arg {e a : LExpr} (h : a ∈ e.args) : aG (aE a) ≤ aG (aE e) := by
 have h1 := eC (List.mem_map_of_mem (f := aE) h)
 rw [bj e]
 simp only [bE,aG,PV.bulk]
 omega
theorem args_bulk (e : LExpr) : e.args.length ≤ aG (aE e) := by
 have h1 := iv oO e.args
 rw [bj e]
 simp only [bE,aG,PV.bulk]
 omega
theorem subst_id : ∀ (n : Nat) (e : LExpr),SizeOf.sizeOf e ≤ n → aG (aE e) ≤ 1048576 → da (n + 1) e [] [] = some e
 | 0,e,h,_=>by cases e; simp at h
 | n + 1,e,h,hb=>by
  have ih := fun a (ha : a ∈ e.args)=>subst_id n a (by have := args_lt ha; omega) (by have := bulk_arg ha; omega)
  have hl := args_bulk e
  rw [da]
  unfold ij
  have hi : cw [] e.name = some (-1) := rfl
  rw [hi]
  have hr := rMa (step := fun (_ : Nat) (x2 : LExpr) (s2 : List LExpr)=>af (da (n + 1) x2 [] []) fun x45=>af (cJ 88 s2 ([x45] : List LExpr)) fun (x47 : List LExpr)=>some (Flow.next (ρ := Empty) x47)) (xs := e.args) (s := [])
   (fun k=>e.args.take k) (by simp) (fun k x hk=>by
    have hkl := (zg.1 hk).1
    rw [ih x (dc hk),bPs,cu (by decide) (by simp; omega),bPs,List.take_add_one,hk]
    rfl)
  rw [hr]
  cases e.kind == 2 <;> cases e <;> simp [bPs,Flow.thenR,Flow.thenP,LExpr.kind,LExpr.name,LExpr.index,LExpr.value,LExpr.args]
theorem clone_eq {e : LExpr} (hb : aG (aE e) ≤ 1048576) : iy e = some e := by
 unfold iy
 refine ix (SizeOf.sizeOf e + 2) fun m hm=>?_
 obtain ⟨m,rfl⟩ : ∃ k,m = k + 2 := ⟨m - 2,by omega⟩
 rw [gG]
 unfold kt
 show (af (da (m + 1) e [] []) fun x4=>some x4) = some e
 rw [subst_id m e (by omega) hb]
 rfl
def mi (e : LExpr) : Bool := e.kind == 5 && (e.name == [97,110,100] && e.args.length == 2)
mutual
def jP : LExpr → List LExpr
 | .mk k n i x args=>if k == 5 && (n == [97,110,100] && args.length == 2) then conjEs args else [.mk k n i x args]
def conjEs : List LExpr → List LExpr
 | []=>[]
 | e :: r=>jP e ++ conjEs r
end
theorem oI (e : LExpr) : jP e = if mi e then conjEs e.args else [e] := by cases e; rw [jP]; rfl
theorem oS {e : LExpr} (h : mi e = true) : e.kind = 5 ∧ e.name = [97,110,100] ∧ ∃ a b,e.args = [a,b] := by
 simp only [mi,Bool.and_eq_true,beq_iff_eq] at h
 exact ⟨h.1,h.2.1,len2 h.2.2⟩
theorem conj_two {e a b : LExpr} (h : mi e = true) (hab : e.args = [a,b]) : jP e = jP a ++ jP b := by
 rw [oI,zp h,hab]
 simp [conjEs]
theorem args_two {e a b : LExpr} (hab : e.args = [a,b]) : aG (aE a) + aG (aE b) ≤ aG (aE e) := by
 rw [bj e]
 simp only [bE,aG,PV.bulk,hab,List.map_cons,List.map_nil,cI]
 omega
theorem conj_len (e : LExpr) : (jP e).length ≤ aG (aE e) := by
 induction e using LExpr.ind with
 | _ e ih =>
  by_cases h : mi e = true
  ·obtain ⟨_,_,a,b,hab⟩ := oS h
   have h1 := ih a (by rw [hab]; simp)
   have h2 := ih b (by rw [hab]; simp)
   have h3 := args_two hab
   rw [conj_two h hab,List.length_append]
   omega
  ·rw [oI,zy h]
   have := oO e
   simp
   omega
theorem conj_ev (e : LExpr) : aG (aE e) ≤ 1048576 → ∃ N,∀ n,N ≤ n → eN n e = some (jP e) := by
 induction e using LExpr.ind with
 | _ e ih =>
  intro hb
  by_cases h : mi e = true
  ·obtain ⟨hk,hn,a,b,hab⟩ := oS h
   have h3 := args_two hab
   obtain ⟨N1,h1⟩ := ih a (by rw [hab]; simp) (by omega)
   obtain ⟨N2,h2⟩ := ih b (by rw [hab]; simp) (by omega)
   refine ⟨N1 + N2 + 1,fun n hn'=>?_⟩
   obtain ⟨n,rfl⟩ : ∃ k,n = k + 1 := ⟨n - 1,by omega⟩
   have la := conj_len a
   have lb := conj_len b
   have g0 : aH [a,b] 0 = some a := rfl
   have g1 : aH [a,b] 1 = some b := rfl
   rw [eN]
   unfold gH
   rw [hk,hn,hab,conj_two h hab]
   simp only [beq_self_eq_true,zc,ck,g0,g1,bPs,h1 n (by omega),h2 n (by omega)]
   rw [show ((([a,b] : List LExpr).length : Int) == 2) = true from rfl,zc,cu (by decide) (by omega)]
   rfl
  ·refine ⟨1,fun n hn'=>?_⟩
   obtain ⟨n,rfl⟩ : ∃ k,n = k + 1 := ⟨n - 1,by omega⟩
   have hc : (cond (e.kind == (5 : Int)) (cond (e.name == ([97,110,100] : List UInt8)) (((e.args.length : Int) == (2 : Int))) (false)) (false)) = false := by
    have h' : mi e = false := by simpa using h
    unfold mi at h'
    rw [← h']
    rw [show ((e.args.length : Int) == (2 : Int)) = (e.args.length == 2) from natE _ 2]
    cases e.kind == (5 : Int) <;> cases e.name == ([97,110,100] : List UInt8) <;> rfl
   rw [eN]
   unfold gH
   rw [hc,ck,zd,clone_eq hb,oI,zy h]
   rfl
theorem conj_ok {e : LExpr} (hb : aG (aE e) ≤ 1048576) : iK e = some (jP e) := by
 obtain ⟨N,h⟩ := conj_ev e hb
 exact ix N h
def OtherE (t : LTable) (b : LExpr) : Prop := (b.kind = 2 ∧ ∀ c ∈ t.columns,c.name ≠ b.name) ∨ b.kind = 1 ∨ b.kind = 3 ∨ b.kind = 4
def Det (t : LTable) (name : List UInt8) (cond : LExpr) : Prop := ∃ c ∈ jP cond,c.kind = 5 ∧ c.name = [61] ∧ ∃ a b,(c.args = [a,b] ∨ c.args = [b,a]) ∧ a.kind = 2 ∧ a.name = name ∧ OtherE t b
def TinyE (q : LQuery) : Prop := ∀ x ∈ bC q,∀ e ∈ x.exprs,aG (aE e) ≤ 1048576
theorem TinyE.e0 {q : LQuery} (h : TinyE q) (hl : q.exprs.length = 1) : aG (aE (e0Q q)) ≤ 1048576 := h q (self_nodes q) _ (e0_mem hl)
theorem range_ret {α σ ρ : Type} {step : Nat → α → σ → Option (Flow σ ρ)} {xs : List α} {s : σ} {k : σ → Option ρ} (Q : ρ → Prop) (hs : ∀ j x s,xs[j]? = some x → ∃ fl,step j x s = some fl ∧ (match fl with | .next _=>True | .brk _=>False | .ret r=>Q r)) (hk : ∀ s,∃ r,k s = some r ∧ Q r) :
  ∃ r,af (aC step 0 xs s) (fun fl=>fl.thenR k) = some r ∧ Q r := by
 obtain ⟨fl,h1,h2⟩ := eh (step := step) (fun _ _=>True) Q xs 0 s trivial (fun j x s hx _=>by
  rw [Nat.zero_add]
  obtain ⟨fl,a,b⟩ := hs j x s hx
  exact ⟨fl,a,by cases fl <;> simp_all⟩)
 rw [h1,bPs]
 cases fl with
 | next s=>exact hk s
 | brk s=>exact absurd h2 (by simp)
 | ret r=>exact ⟨r,rfl,h2⟩
theorem range_retF {α σ τ ρ : Type} {step : Nat → α → σ → Option (Flow σ ρ)} {xs : List α} {s : σ} {k : σ → Option (Flow τ ρ)} (Q : ρ → Prop) (hs : ∀ j x s,xs[j]? = some x → ∃ fl,step j x s = some fl ∧ (match fl with | .next _=>True | .brk _=>False | .ret r=>Q r)) (hk : ∀ s,∃ t,k s = some (.next t)) :
  ∃ fl,af (aC step 0 xs s) (fun fl=>fl.thenF k) = some fl ∧ (match fl with | .next _=>True | .brk _=>False | .ret r=>Q r) := by
 obtain ⟨fl,h1,h2⟩ := eh (step := step) (fun _ _=>True) Q xs 0 s trivial (fun j x s hx _=>by
  rw [Nat.zero_add]
  obtain ⟨fl,a,b⟩ := hs j x s hx
  exact ⟨fl,a,by cases fl <;> simp_all⟩)
 rw [h1,bPs]
 cases fl with
 | next s=>obtain ⟨t,ht⟩ := hk s; exact ⟨.next t,ht,trivial⟩
 | brk s=>exact absurd h2 (by simp)
 | ret r=>exact ⟨.ret r,rfl,h2⟩
theorem range_chk {α σ τ : Type} {step : Nat → α → σ → Option (Flow σ Bool)} {xs : List α} {s : σ} (P : α → Prop) (hs : ∀ j x s,xs[j]? = some x → ∃ fl,step j x s = some fl ∧ (match fl with | .next _=>P x | .brk _=>False | .ret r=>r = false)) :
  ∃ r,af (aC step 0 xs s) (fun fl=>fl.thenF fun _=>(some (.ret true) : Option (Flow τ Bool))) = some (.ret r) ∧ (r = true → ∀ x ∈ xs,P x) := by
 obtain ⟨fl,h1,h2⟩ := eh (step := step) (fun j _=>∀ i x,i < j → xs[i]? = some x → P x) (fun r=>r = false) xs 0 s (fun i x h=>by omega) (fun j x s hx hI=>by
  rw [Nat.zero_add] at hI ⊢
  obtain ⟨fl,a,b⟩ := hs j x s hx
  refine ⟨fl,a,?_⟩
  cases fl with
  | next s' =>
   intro i y hi hy
   by_cases he : i = j
   ·subst he; rw [hx] at hy; cases hy; exact b
   ·exact hI i y (by omega) hy
  | brk s'=>exact b
  | ret r=>exact b)
 rw [h1,bPs]
 cases fl with
 | next s =>
  refine ⟨true,rfl,fun _ x hx=>?_⟩
  obtain ⟨i,hi,rfl⟩ := List.mem_iff_getElem.1 hx
  exact h2 i _ (by simpa using hi) (ze hi)
 | brk s=>exact absurd h2 (by simp)
 | ret r=>exact ⟨r,rfl,fun h=>absurd (h2.symm.trans h) (by simp)⟩
theorem qw {α ρ : Type} {p : α → Bool} {g : α → Option (Flow Unit ρ)} (hg : ∀ x,∃ r,g x = some (.ret r)) : ∀ (xs : List α) (j : Nat),aC (fun (_ : Nat) (x : α) (_ : Unit)=>cond (!p x) (some (.next ())) (g x)) j xs () = match xs.find? p with | none=>some (.next ()) | some x=>g x
 | [],_=>rfl
 | x :: xs,j=>by
  rw [aC,List.find?_cons]
  cases hp : p x with
  | true =>
   obtain ⟨r,hr⟩ := hg x
   simp only [Bool.not_true,zd,hr]
  | false =>
   simp only [Bool.not_false,zc]
   exact qw hg xs (j + 1)
theorem ownCol (n : List UInt8) (t : LTable) : dE n t = some (t.columns.any fun c=>c.name == n) := by
 unfold dE
 rw [nA (fun c : LCol=>c.name == n) (fun _ _=>true) t.columns 0 (fun k x _=>by cases x.name == n <;> rfl),bPs]
 cases hf : t.columns.findIdx? (fun c=>c.name == n) with
 | none =>
  have h : t.columns.any (fun c=>c.name == n) = false := by
   rw [List.findIdx?_eq_none_iff] at hf
   rw [List.any_eq_false]
   intro x hx
   simpa using hf x hx
  rw [h]
  rfl
 | some i =>
  obtain ⟨hi,h1,_⟩ := List.findIdx?_eq_some_iff_getElem.1 hf
  have h : t.columns.any (fun c=>c.name == n) = true := List.any_eq_true.2 ⟨_,List.getElem_mem hi,h1⟩
  rw [h]
  simp only [ze hi]
  rfl
theorem other_tot (e : LExpr) (t : LTable) : ∃ b,dD e t = some b ∧ (b = true → OtherE t e) := by
 unfold dD
 rw [ownCol,bPs]
 by_cases h2 : e.kind = 2
 ·rw [beqT h2,zc]
  cases ha : t.columns.any (fun c=>c.name == e.name) with
  | true=>exact ⟨false,by rw [h2]; rfl,by simp⟩
  | false =>
   refine ⟨true,rfl,fun _=>.inl ⟨h2,fun c hc=>?_⟩⟩
   have := List.any_eq_false.1 ha c hc
   simpa using this
 ·rw [beqF h2,zd]
  by_cases h1 : e.kind = 1
  ·exact ⟨true,by rw [beqT h1]; rfl,fun _=>.inr (.inl h1)⟩
  ·rw [beqF h1,zd]
   by_cases h3 : e.kind = 3
   ·exact ⟨true,by rw [beqT h3]; rfl,fun _=>.inr (.inr (.inl h3))⟩
   ·rw [beqF h3,zd]
    exact ⟨_,rfl,fun h=>.inr (.inr (.inr (by simpa using h)))⟩
theorem det_tot (t : LTable) (name : List UInt8) {cnd : LExpr} (hb : aG (aE cnd) ≤ 1048576) : ∃ b,cB t name cnd = some b ∧ (b = true → Det t name cnd) := by
 unfold cB
 rw [conj_ok hb,bPs]
 refine range_ret (fun b=>b = true → Det t name cnd) (fun j x s hx=>?_) (fun s=>⟨false,rfl,by simp⟩)
 rw [ck]
 by_cases hk : x.kind = 5
 ·rw [kW hk,zd]
  by_cases hn : x.name = [61]
  ·rw [show (!(x.name == ([61] : List UInt8))) = false from by simp [hn],zd]
   by_cases hl : x.args.length = 2
   ·rw [show ((x.args.length : Int) != (2 : Int)) = false from by rw [hl]; rfl,zd]
    obtain ⟨a,b,hab⟩ := len2 hl
    rw [hab]
    refine range_retF (fun b=>b = true → Det t name cnd) (fun i y s hy=>?_) (fun s=>⟨(),rfl⟩)
    have hgo : ∃ z,aH [a,b] (IntKind.i64.wrap ((1 : Int) - (i : Int))) = some z ∧ (x.args = [y,z] ∨ x.args = [z,y]) := by
     match i,hy with
     | 0,hy =>
      cases hy
      exact ⟨b,by rw [bT (by omega) (by omega)]; rfl,.inl hab⟩
     | 1,hy =>
      cases hy
      exact ⟨a,by rw [bT (by omega) (by omega)]; rfl,.inr hab⟩
     | n + 2,hy=>simp at hy
    obtain ⟨z,hz,hyz⟩ := hgo
    by_cases k2 : y.kind = 2
    ·rw [beqT k2,zc]
     by_cases kn : y.name = name
     ·rw [show (y.name == name) = true from by simp [kn],zc,hz,bPs]
      obtain ⟨c,hc,hco⟩ := other_tot z t
      rw [hc,bPs]
      cases c with
      | true=>exact ⟨.ret true,rfl,fun _=>⟨x,dc hx,hk,hn,y,z,hyz,k2,kn,hco rfl⟩⟩
      | false=>exact ⟨.next (),rfl,trivial⟩
     ·rw [show (y.name == name) = false from by simp [kn]]
      exact ⟨.next (),rfl,trivial⟩
    ·rw [beqF k2]
     exact ⟨.next (),rfl,trivial⟩
   ·rw [show ((x.args.length : Int) != (2 : Int)) = true from by simp; omega]
    exact ⟨.next (),rfl,trivial⟩
  ·rw [show (!(x.name == ([61] : List UInt8))) = true from by simp [hn]]
   exact ⟨.next (),rfl,trivial⟩
 ·rw [kM hk]
  exact ⟨.next (),rfl,trivial⟩
inductive Under : LQuery → LQuery → Prop
 | refl (q : LQuery) : Under q q
 | step {q x y : LQuery} (hk : q.kind = 2) (hi : q.inputs = [x]) (h : Under x y) : Under q y
theorem strip_run : ∀ q : LQuery,∃ y,gD (σ := LQuery) (ρ := Empty) (fun (s1 : LQuery) =>
  cond (s1.kind == (2 : Int))
   (cond ((s1.inputs.length : Int) == (1 : Int))
    (af (aH s1.inputs 0) fun (x22 : LQuery) =>
    some (.next x22))
    (some (.brk s1)))
   (some (.brk s1))) q = some (.next y) ∧ Under q y := by
 refine LQuery.ind fun q ih=>?_
 by_cases hk : q.kind = 2
 ·by_cases hl : q.inputs.length = 1
  ·obtain ⟨x,hx⟩ := one hl
   obtain ⟨y,h1,h2⟩ := ih x (by rw [hx]; simp)
   refine ⟨y,gm (fl := .next x) ?_ h1,.step hk hx h2⟩
   rw [beqT hk,hx]
   rfl
  ·refine ⟨q,gm (fl := .brk q) ?_ rfl,.refl q⟩
   rw [beqT hk,show ((q.inputs.length : Int) == (1 : Int)) = false from by simp; omega]
   rfl
 ·refine ⟨q,gm (fl := .brk q) ?_ rfl,.refl q⟩
  rw [beqF hk]
  rfl
theorem tinyE_bulk : ∀ q : LQuery,aG (bp q) ≤ 1048576 → TinyE q := by
 apply LQuery.ind
 intro q ih h x hx e he
 have e1 : aG (bp q) = aG (aw q) := by rw [bw]
 rw [e1] at h
 rw [fA] at hx
 rcases List.mem_cons.1 hx with rfl | hx
 ·have h1 := eC (List.mem_map_of_mem (f := aE) he)
  simp only [aw,aG,PV.bulk] at h
  omega
 ·simp only [List.mem_flatten,List.mem_map] at hx
  obtain ⟨l,⟨y,hy,rfl⟩,hx⟩ := hx
  have h2 := eC (List.mem_map_of_mem (f := bp) hy)
  simp only [aw,aG,PV.bulk] at h
  exact ih y hy (by omega) x hx e he
structure CQ (s : LSchema) (q : LQuery) : Prop where
 bulk : aG (aw q) ≤ 1048576
 size : SizeOk q
 kinds : pZ (jC q)
 cols : (dQ ⟨s,[]⟩ q).2 = 0
theorem CQ.small {s : LSchema} {q : LQuery} (h : CQ s q) : SmallQ q := (pA (Nat.le_refl _) h.bulk).small
theorem CQ.tiny {s : LSchema} {q : LQuery} (h : CQ s q) : TinyE q := tinyE_bulk q (by rw [bw]; exact h.bulk)
theorem bulk_sub {q x : LQuery} (h : x ∈ q.inputs) : aG (aw x) ≤ aG (aw q) := by
 have h2 := eC (List.mem_map_of_mem (f := bp) h)
 rw [bw] at h2
 cases q
 simp only [aw,aG,PV.bulk,LQuery.inputs] at h2 ⊢
 omega
theorem CQ.sub {s : LSchema} {q x : LQuery} (h : CQ s q) (hx : x ∈ q.inputs) : CQ s x := by
 have hp := params_sub hx
 refine ⟨Nat.le_trans (bulk_sub hx) h.bulk,⟨?_,?_,(most_inv h.size.2.2).2 x hx⟩,fun i k k' a b=>h.kinds i k k' (hp _ a) (hp _ b),(pe h.cols).2.1 x hx⟩
 ·have := jr hx; have := h.size.1; omega
 ·have := depthQ_sub hx; have := h.size.2.1; omega
theorem check_ok {s : LSchema} {q : LQuery} (h : CQ s q) : fw s q = some ((dQ ⟨s,[]⟩ q).1,0) := by
 obtain ⟨cs,e,hc,he,hcs⟩ := check_eq (s := s) (vars := []) h.small
 have e0 : e = 0 := he.2 ⟨h.size,h.kinds,h.cols⟩
 unfold fw
 rw [hc,bPs,e0,hcs e0]
theorem valid_tot {s : LSchema} (hs : SmallS s) {q : LQuery} (hq : aG (aw q) ≤ 1048576) : ∃ b,gd s q = some b ∧ (b = true → CQ s q) := by
 unfold gd
 rw [size_ok,bPs]
 obtain ⟨v,hv⟩ := validate_tot hs
 have hsm : SmallQ q := (pA (Nat.le_refl _) hq).small
 obtain ⟨cs,e,hc,he,_⟩ := check_eq (s := s) (vars := []) hsm
 unfold fw
 rw [hv,hc]
 simp only [bPs]
 by_cases c1 : kr q 400 < 0
 ·rw [zt c1]; exact ⟨false,rfl,fun h=>by cases h⟩
 rw [zf c1,zd,bPs]
 by_cases c2 : v = 0
 ·rw [kW c2,zd]
  refine ⟨_,rfl,fun h=>?_⟩
  have h : e = 0 := by simpa using h
  obtain ⟨a,b,c⟩ := he.1 h
  exact ⟨hq,a,b,c⟩
 ·rw [kM c2]; exact ⟨false,rfl,fun h=>by cases h⟩
theorem keyed_tot2 (s : LSchema) (q : LQuery) {cnd : LExpr} (hb : aG (aE cnd) ≤ 1048576) : Tot (dL s q cnd) := by
 unfold dL
 obtain ⟨y,h1,_⟩ := strip_run q
 rw [h1,bPs,cq]
 by_cases hk : y.kind = 1
 ·rw [kW hk,zd]
  have hg : ∀ x2 : LTable,∃ b,af (aC (σ := Unit) (ρ := (Bool)) (fun (_ : Nat) (x4 : Int) (_ : Unit) =>
     cond (decide (x4 < (0 : Int)))
      (some (.ret false))
      (cond (decide (x4 ≥ (x2.columns.length : Int)))
       (some (.ret false))
       (af (aH x2.columns x4) fun (x60 : LCol) =>
       af (cB x2 x60.name cnd) fun x64 =>
       cond (!x64)
        (some (.ret false))
        (some (.next ()))))) 0 x2.primaryKey ()) (fun fl4=>fl4.thenF fun (_ : Unit)=>(some (.ret true) : Option (Flow Unit Bool))) = some (.ret b) := by
   intro x2
   obtain ⟨b,h,_⟩ := range_chk (step := fun (_ : Nat) (x4 : Int) (_ : Unit) =>
     cond (decide (x4 < (0 : Int)))
      (some (.ret false))
      (cond (decide (x4 ≥ (x2.columns.length : Int)))
       (some (.ret false))
       (af (aH x2.columns x4) fun (x60 : LCol) =>
       af (cB x2 x60.name cnd) fun x64 =>
       cond (!x64)
        (some (.ret false))
        (some (.next ()))))) (xs := x2.primaryKey) (s := ()) (fun _ : Int=>True) (fun j k s hk=>by
    by_cases k0 : k < 0
    ·rw [zt k0]; exact ⟨.ret false,rfl,rfl⟩
    ·rw [zf k0,zd]
     by_cases k1 : k ≥ (x2.columns.length : Int)
     ·rw [zt k1]; exact ⟨.ret false,rfl,rfl⟩
     ·rw [zf k1,zd]
      have hc : x2.columns[k.toNat]? = some (x2.columns[k.toNat]'(by omega)) := ze (by omega)
      rw [jz (by omega) hc,bPs]
      obtain ⟨b,hb1,_⟩ := det_tot x2 (x2.columns[k.toNat]'(by omega)).name hb
      rw [hb1,bPs]
      cases b with
      | true=>exact ⟨.next (),rfl,trivial⟩
      | false=>exact ⟨.ret false,rfl,rfl⟩)
   exact ⟨b,h⟩
  rw [qw (fun x=>hg x)]
  cases hf : s.tables.find? (fun t=>t.name == y.table) with
  | none=>exact ⟨false,rfl⟩
  | some t =>
   obtain ⟨b,hb1⟩ := hg t
   exact ⟨b,by simp only [hb1,bPs]; rfl⟩
 ·rw [kM hk]
  exact ⟨false,rfl⟩
theorem join_tot2 {s : LSchema} {q : LQuery} (h : CQ s q) (hk : q.kind = 4 ∨ q.kind = 5) (A B : LCardinalityBounds) : Tot (eP s q [A,B]) ∧ ∀ J,Tot (fQ s q [A,B] J) := by
 have hsh := oQ (pe h.cols).1
 have hl := hsh.one (by omega)
 have he : aH q.exprs 0 = some (e0Q q) := e0_get (by omega)
 have hb := h.tiny.e0 hl
 obtain ⟨x,y,hxy⟩ := two (by rw [hsh.arity]; rcases hk with hk | hk <;> rw [hk] <;> rfl : q.inputs.length = 2)
 have g0 : aH [A,B] 0 = some A := rfl
 have g1 : aH [A,B] 1 = some B := rfl
 have i0 : aH q.inputs 0 = some x := by rw [hxy]; rfl
 have i1 : aH q.inputs 1 = some y := by rw [hxy]; rfl
 obtain ⟨k1,hk1⟩ := keyed_tot2 s y hb
 obtain ⟨k0,hk0⟩ := keyed_tot2 s x hb
 constructor
 ·unfold eP
  simp only [g0,g1,he,i0,i1,bPs,ck,hk1,hk0]
  cases ((e0Q q).kind == (1 : Int)) with
  | true=>cases nW (e0Q q).value <;> exact Tot.mk
  | false=>cases k1 <;> cases k0 <;> exact Tot.mk
 ·intro J
  unfold fQ
  simp only [g0,g1,he,i1,bPs,hk1]
  cases k1 <;> exact Tot.mk
theorem est_tot (s : LSchema) (sizes : List LCardinalityTableSize) : ∀ q : LQuery,CQ s q → Tot (bP s sizes q) := by
 refine LQuery.ind fun q ih h=>?_
 have hsh := oQ (pe h.cols).1
 have har := hsh.arity
 have hil : q.inputs.length ≤ 2 := by
  rw [har]; unfold ky; split
  ·omega
  ·split <;> omega
 have hall : ∀ x ∈ q.inputs,∃ B,bP s sizes x = some B := fun x hx=>ih x hx (h.sub hx)
 have hstep : ∀ B,cA bP s sizes q = some B → bP s sizes q = some B := by
  intro B hO
  refine kP (γ := LSchema × List LCardinalityTableSize) (F := fun n c q=>eA n c.1 c.2 q) (O := fun r c q=>cA (fun a b x=>r (a,b) x) c.1 c.2 q) (fun n=>rfl) (s,sizes) q ?_ (fun x hx=>?_) hO
  ·intro f f' hf
   simp only [cA]
   congr 1
   exact gK q.inputs 0 _ fun k x s hk=>by rw [hf x (dc hk)]
  ·exact hall x hx
 let g : LQuery → LCardinalityBounds := fun x=>(bP s sizes x).getD ⟨0,0⟩
 have hg : ∀ x ∈ q.inputs,bP s sizes x = some (g x) := by
  intro x hx
  obtain ⟨B,hB⟩ := hall x hx
  have : g x = B := by show (bP s sizes x).getD _ = B; rw [hB]; rfl
  rw [this]
  exact hB
 have hloop : aC (σ := List LCardinalityBounds) (ρ := Empty) (fun (_ : Nat) (x1 : LQuery) (s1 : List LCardinalityBounds) =>
   af (bP s sizes x1) fun x24 =>
   af (cJ 16 s1 ([x24] : List LCardinalityBounds)) fun (x26 : List LCardinalityBounds) =>
   some (.next x26)) 0 q.inputs [] = some (.next (q.inputs.map g)) := ju g (fun k x hk=>by
  have hkl := (zg.1 hk).1
  rw [hg x (dc hk),bPs,cu (by decide) (by simp; omega),bPs])
 suffices hO : Tot (cA bP s sizes q) by
  obtain ⟨B,h1⟩ := hO
  exact ⟨B,hstep B h1⟩
 unfold cA
 rw [hloop,bPs,cq]
 have hl1 : (q.inputs.map g).length = ky q.kind := by rw [zl,har]
 revert hl1
 generalize q.inputs.map g = s1
 intro hl1
 have kk : q.kind = 1 ∨ q.kind = 2 ∨ q.kind = 3 ∨ q.kind = 4 ∨ q.kind = 5 ∨ q.kind = 6 ∨ q.kind = 7 ∨ q.kind = 8 ∨ q.kind = 9 ∨ q.kind = 10 := by have := hsh.kind; omega
 have one1 : ky q.kind = 1 → ∃ A,s1 = [A] := fun ha=>List.length_eq_one_iff.1 (hl1.trans ha)
 have two1 : ky q.kind = 2 → ∃ A B,s1 = [A,B] := fun ha=>by
  match s1,hl1.trans ha with
  | [A,B],_=>exact ⟨A,B,rfl⟩
 rcases kk with k | k | k | k | k | k | k | k | k | k
 ·rw [beqT k,zc]
  refine Tot.bind (Tot.range _ _ _ fun j x u _=>Tot.cond (fun _=>Tot.mk) (fun _=>Tot.mk)) (fun v _=>Tot.thenR fun _ _=>Tot.mk)
 ·obtain ⟨A,hA⟩ := one1 (by rw [k]; rfl)
  have he : aH q.exprs 0 = some (e0Q q) := e0_get (by have := hsh.one (by omega); omega)
  rw [hA,k,he]
  exact Tot.mk
 ·obtain ⟨A,hA⟩ := one1 (by rw [k]; rfl)
  rw [hA,k]
  exact Tot.mk
 ·obtain ⟨A,B,hA⟩ := two1 (by rw [k]; rfl)
  obtain ⟨⟨J,hJ⟩,_⟩ := join_tot2 h (.inl k) A B
  rw [hA,hJ,k]
  exact Tot.mk
 ·obtain ⟨A,B,hA⟩ := two1 (by rw [k]; rfl)
  obtain ⟨⟨J,hJ⟩,hL⟩ := join_tot2 h (.inr k) A B
  obtain ⟨W,hW⟩ := hL J
  rw [hA,hJ,k]
  simp only [bPs,hW]
  exact Tot.mk
 ·obtain ⟨A,B,hA⟩ := two1 (by rw [k]; rfl)
  rw [hA,k]
  exact Tot.mk
 ·obtain ⟨A,B,hA⟩ := two1 (by rw [k]; rfl)
  rw [hA,k]
  exact Tot.mk
 ·obtain ⟨A,hA⟩ := one1 (by rw [k]; rfl)
  rw [hA,k]
  refine Tot.cond (b := ((q.exprs.length : Int) == (0 : Int))) (fun _=>Tot.mk) (fun _=>Tot.mk)
 ·obtain ⟨A,hA⟩ := one1 (by rw [k]; rfl)
  rw [hA,k]
  exact Tot.mk
 ·obtain ⟨A,hA⟩ := one1 (by rw [k]; rfl)
  rw [hA,k]
  exact Tot.mk
theorem mD {α : Type} {bytes : Nat} {xs ys : List α} (hb : bytes ≤ 200) (h : xs.length + ys.length ≤ 100000000) : cJ bytes xs ys = some (xs ++ ys) := by
 refine nX ?_ (by unfold maxLen; omega)
 have := Nat.mul_le_mul h hb
 omega
theorem indexO (l : List (List UInt8)) (v : List UInt8) (h : l.length ≤ 10000000) : ∃ i,cG l v = some (i,l) := by
 unfold cG
 rw [smallI_ok (by omega),bPs,Int.toNat_natCast]
 obtain ⟨fl,h1,h2⟩ := eh (step := fun (j1 : Nat) (_ : Nat) (s1 : List (List UInt8)) =>
  af (aH s1 (j1 : Int)) fun (x14 : List UInt8) =>
  cond (v == x14)
   (some (.ret ((j1 : Int),s1)))
   (some (.next s1))) (fun _ s=>s = l) (fun r : Int × List (List UInt8)=>r.2 = l) (List.range l.length) 0 l rfl (fun k x s hk hI=>by
  subst hI
  have hlt := (zg.1 hk).1
  rw [List.length_range] at hlt
  rw [Nat.zero_add,kY (ze hlt),bPs]
  cases v == s[k] with
  | true=>exact ⟨_,rfl,rfl⟩
  | false=>exact ⟨_,rfl,rfl⟩)
 rw [h1]
 cases fl with
 | next s=>exact ⟨-1,by rw [show s = l from h2]; rfl⟩
 | brk s=>exact absurd h2 (by simp)
 | ret r=>exact ⟨r.1,by rw [← (show r.2 = l from h2)]; rfl⟩
theorem contO (l : List (List UInt8)) (v : List UInt8) (h : l.length ≤ 10000000) : ∃ b,cb l v = some (b,l) := by
 obtain ⟨i,hi⟩ := indexO l v h
 unfold cb
 rw [hi,bPs,mw rfl,bPs]
 exact ⟨_,rfl⟩
theorem limN_settles {β : Type} {F : Nat → Option β} {v : Option β} (n : Nat) (h : ∀ m,n ≤ m → F m = v) : eH F = v := by
 cases v with
 | some r=>exact ix n h
 | none =>
  cases hl : eH F with
  | none=>rfl
  | some r =>
   obtain ⟨k,hk⟩ := limN_ev hl
   have := hk (max n k) (Nat.le_max_right n k)
   rw [h _ (Nat.le_max_left n k)] at this
   cases this
theorem names_both (e : LExpr) : (∃ N,∀ n,N ≤ n → ∀ k l,fS n e k l = eD e k l) ∧ ∀ k l,eD e k l = fj eD e k l := by
 induction e using LExpr.ind with
 | _ e ih =>
  obtain ⟨N,hN⟩ := oi (p := fun x n=>∀ k l,fS n x k l = eD x k l) e.args fun x hx=>(ih x hx).1
  have key : ∀ n,N + 1 ≤ n → ∀ k l,fS n e k l = fj eD e k l := by
   intro n hn k l
   obtain ⟨n,rfl⟩ : ∃ k,n = k + 1 := ⟨n - 1,by omega⟩
   show fj (fun b0 b1 b2=>fS n b0 b1 b2) e k l = _
   simp only [fj]
   congr 1
   funext t1
   congr 1
   funext t2
   congr 1
   exact gK e.args 0 _ fun j x s hj=>by rw [hN n (by omega) x (dc hj)]
  have e1 : ∀ k l,eD e k l = fj eD e k l := fun k l=>limN_settles (N + 1) fun n hn=>key n hn k l
  exact ⟨⟨N + 1,fun n hn k l=>by rw [key n hn,e1]⟩,e1⟩
theorem rows_drop {xs : List LExpr} {j : Nat} {x : LExpr} (h : xs[j]? = some x) : cI ((xs.drop j).map aE) = aG (aE x) + cI ((xs.drop (j + 1)).map aE) := by
 obtain ⟨hlt,he⟩ := zg.1 h
 rw [List.drop_eq_getElem_cons hlt,he,List.map_cons]
 simp only [cI]
theorem nargs_bulk (e : LExpr) : cI (e.args.map aE) + 2 ≤ aG (aE e) := by
 rw [bj e]
 simp only [bE,aG,PV.bulk]
 omega
theorem names_tot2 (e : LExpr) : ∀ l : List (List UInt8),l.length + aG (aE e) ≤ 10000000 → ∃ l',eD e 2 l = some l' ∧ l'.length ≤ l.length + aG (aE e) := by
 induction e using LExpr.ind with
 | _ e ih =>
  intro l hl
  have hb := nargs_bulk e
  rw [(names_both e).2]
  unfold fj
  obtain ⟨b,hb1⟩ := contO l e.name (by omega)
  have ht : ∃ b2,(cond (e.kind == (2 : Int)) (af (cb l e.name) fun x17=>af (kw (x17.2.length = l.length) ()) fun (_ : Unit)=>some (x17.2,(!x17.1))) (some (l,false))) = some (l,b2) := by
   cases e.kind == (2 : Int) with
   | true=>exact ⟨!b,by rw [zc,hb1,bPs,mw rfl,bPs]⟩
   | false=>exact ⟨false,rfl⟩
  obtain ⟨b2,ht⟩ := ht
  rw [ht,bPs]
  have hu : ∃ l1,(cond b2 (af (cJ 16 l ([e.name] : List (List UInt8))) fun (x24 : List (List UInt8))=>some x24) (some l)) = some l1 ∧ l1.length ≤ l.length + 1 := by
   cases b2 with
   | true=>exact ⟨l ++ [e.name],by rw [zc,cu (by decide) (by simp; omega),bPs],by simp⟩
   | false=>exact ⟨l,rfl,by omega⟩
  obtain ⟨l1,hu,hu1⟩ := hu
  simp only
  rw [hu,bPs]
  refine lK (R := fun l' : List (List UInt8)=>l'.length ≤ l.length + aG (aE e)) (fun j s=>s.length + cI ((e.args.drop j).map aE) ≤ l.length + aG (aE e)) (by rw [List.drop_zero]; omega) (fun j x s hj hI=>?_) (fun s hI=>?_)
  ·rw [rows_drop hj] at hI
   obtain ⟨l',h1,h2⟩ := ih x (dc hj) s (by omega)
   exact ⟨l',by rw [h1,bPs],by omega⟩
  ·exact ⟨s,rfl,by omega⟩
theorem columns_tot {e : LExpr} (hb : aG (aE e) ≤ 1048576) : ∃ l,gp e = some l := by
 obtain ⟨l,h,_⟩ := names_tot2 e [] (by simp; omega)
 unfold gp
 rw [h,bPs]
 exact ⟨l,rfl⟩
theorem leavesOf_tot {c : LExpr} (hb : aG (aE c) ≤ 1048576) (cols : List (List (List UInt8))) (hc : cols.length ≤ 1000) : ∃ l,fh c cols = some l := by
 unfold fh
 obtain ⟨ns,hn⟩ := columns_tot hb
 obtain ⟨l,h,_⟩ := lK (R := fun _ : List Int=>True) (step := fun (j1 : Nat) (x1 : List (List UInt8)) (s1 : List Int) =>
  af (gp c) fun x16 =>
  af (bV x16 (fun a0=>cT a0 x1)) fun x18 =>
  cond x18
   (af (cJ 8 s1 ([(j1 : Int)] : List Int)) fun (x22 : List Int) =>
   some (.next x22))
   (some (.next s1))) (k := fun s1 : List Int=>some s1) (xs := cols) (s0 := []) (fun j s=>s.length ≤ j) (by simp) (fun j x s hj hI=>by
  have hlt := (zg.1 hj).1
  have hcf : bV ns (fun a0=>cT a0 x) = some (decide (bZ (fun a0=>decide (a0 ∈ x)) ns ≥ 0)) := by
   unfold bV dr
   rw [idxF (p := fun a0=>decide (a0 ∈ x)) (fun y _=>by unfold cT; rw [containsS,bPs]),bPs]
  rw [hn,bPs,hcf,bPs]
  cases decide (bZ (fun a0=>decide (a0 ∈ x)) ns ≥ 0) with
  | true=>exact ⟨s ++ [(j : Int)],by rw [zc,cu (by decide) (by simp; omega),bPs],by simp; omega⟩
  | false=>exact ⟨s,rfl,by omega⟩) (fun s _=>⟨s,rfl,trivial⟩)
 exact ⟨l,h⟩
theorem jnames_tot {s : LSchema} {q : LQuery} (h : CQ s q) : ∃ l,gf s q = some l := by
 unfold gf
 rw [check_ok h,bPs]
 have hc := colsQ_len ⟨s,[]⟩ q
 have hm := ju (ρ := Empty) (step := fun (_ : Nat) (x1 : LCol) (s1 : List (List UInt8)) =>
  af (cJ 16 s1 ([x1.name] : List (List UInt8))) fun (x26 : List (List UInt8)) =>
  some (.next x26)) (xs := (dQ ⟨s,[]⟩ q).1) LCol.name (fun k x hk=>by
  have hlt := (zg.1 hk).1
  rw [cu (by decide) (by simp; omega),bPs])
 simp only
 rw [hm,bPs]
 exact ⟨_,rfl⟩
theorem exprs_eq {l : List LExpr} (hl : l.length ≤ 1000000) (hb : ∀ e ∈ l,aG (aE e) ≤ 1048576) : iN l = some l := by
 unfold iN
 rw [ju (xs := l) id (fun k x hk=>by
  have hlt := (zg.1 hk).1
  rw [clone_eq (hb x (dc hk)),bPs,cu (by decide) (by simp; omega),bPs]
  rfl),bPs,cq,List.map_id]
theorem bulk_exprs {q : LQuery} {e : LExpr} (h : e ∈ q.exprs) : aG (aE e) ≤ aG (aw q) := by
 have h2 := eC (List.mem_map_of_mem (f := aE) h)
 simp only [aw,aG,PV.bulk]
 omega
theorem bulk_agg {q : LQuery} {a : LAggregateCall} (h : a ∈ q.aggregates) : aG (eT a) ≤ aG (aw q) := by
 have h2 := eC (List.mem_map_of_mem (f := eT) h)
 simp only [aw,aG,PV.bulk] at h2 ⊢
 omega
theorem bulk_args {a : LAggregateCall} {e : LExpr} (h : e ∈ a.args) : aG (aE e) ≤ aG (eT a) := by
 have h2 := eC (List.mem_map_of_mem (f := aE) h)
 simp only [eT,aG,PV.bulk]
 omega
theorem args_len (a : LAggregateCall) : 2 * a.args.length ≤ aG (eT a) := by
 have := iv (f := aE) (k := 2) oO a.args
 simp only [eT,aG,PV.bulk]
 omega
theorem clone_ev : ∀ q : LQuery,aG (aw q) ≤ 1048576 → ∃ N,∀ n,N ≤ n → fX n q = some q := by
 refine LQuery.ind fun q ih hb=>?_
 have hsm : SmallQ q := (pA (Nat.le_refl _) hb).small
 obtain ⟨hE,hA⟩ := hsm.self
 have hi : q.inputs.length ≤ 10000000 := by
  have := hsm.nodes
  rw [fA] at this
  have h2 : q.inputs.length ≤ ((q.inputs.map bC).flatten).length := by
   have : ∀ l : List LQuery,l.length ≤ ((l.map bC).flatten).length := by
    intro l
    induction l with
    | nil=>simp
    | cons x l ih=>have := nodesQ_pos x; simp only [List.map_cons,List.flatten_cons,List.length_append,List.length_cons]; omega
   exact this _
  simp only [List.length_cons] at this
  omega
 obtain ⟨N,hN⟩ := oi (p := fun x n=>fX n x = some x) q.inputs fun x hx=>ih x hx (Nat.le_trans (bulk_sub hx) hb)
 refine ⟨N + 1,fun n hn=>?_⟩
 obtain ⟨n,rfl⟩ : ∃ k,n = k + 1 := ⟨n - 1,by omega⟩
 rw [fX]
 unfold jO
 rw [ju (xs := q.exprs) id (fun k x hk=>by
  have hlt := (zg.1 hk).1
  rw [clone_eq (Nat.le_trans (bulk_exprs (dc hk)) hb),bPs,cu (by decide) (by simp; omega),bPs]
  rfl),bPs,cq,List.map_id]
 rw [ju (xs := q.aggregates) id (fun k x hk=>by
  have hlt := (zg.1 hk).1
  have hbx := Nat.le_trans (bulk_agg (dc hk)) hb
  have hlx := args_len x
  rw [exprs_eq (l := x.args) (by omega) (fun e he=>Nat.le_trans (bulk_args he) hbx),bPs,cu (by decide) (by simp; omega),bPs]
  rfl),bPs,cq,List.map_id]
 rw [ju (xs := q.inputs) id (fun k x hk=>by
  have hlt := (zg.1 hk).1
  dsimp only
  rw [hN n (by omega) x (dc hk),bPs,cu (by decide) (by simp; omega),bPs]
  rfl),bPs,cq,List.map_id]
 cases q
 rfl
theorem cloneQ_eq {q : LQuery} (hb : aG (aw q) ≤ 1048576) : lW q = some q := by
 obtain ⟨N,h⟩ := clone_ev q hb
 exact ix N h
theorem concat3 {a b c : List LExpr} (h : a.length + b.length + c.length ≤ 100000000) : cr ([a,b,c] : List (List LExpr)) = some (a ++ b ++ c) := by
 unfold cr
 have w1 : IntKind.i64.wrap ((0 : Int) + (a.length : Int)) = (a.length : Int) := by rw [bT (by omega) (by omega)]; omega
 have w2 : IntKind.i64.wrap ((a.length : Int) + (b.length : Int)) = (a.length : Int) + (b.length : Int) := bT (by omega) (by omega)
 have w3 : IntKind.i64.wrap ((a.length : Int) + (b.length : Int) + (c.length : Int)) = (a.length : Int) + (b.length : Int) + (c.length : Int) := bT (by omega) (by omega)
 have n1 : ¬ (a.length : Int) < 0 := by omega
 have n2 : ¬ (a.length : Int) + (b.length : Int) < 0 := by omega
 have n3 : ¬ (a.length : Int) + (b.length : Int) + (c.length : Int) < 0 := by omega
 simp only [aC,w1,w2,w3,zf n1,zf n2,zf n3,zd,bPs,cq]
 rw [growI_ok ⟨by omega,by omega,by unfold maxLen; omega⟩,bPs]
 rw [mD (xs := ([] : List LExpr)) (by decide) (by simp; omega),bPs]
 simp only [List.nil_append]
 rw [mD (by decide) (by omega),bPs]
 simp only
 rw [mD (by decide) (by simp; omega),bPs]
 rfl
theorem conj_bulk (e : LExpr) : ∀ c ∈ jP e,aG (aE c) ≤ aG (aE e) := by
 induction e using LExpr.ind with
 | _ e ih =>
  intro c hc
  by_cases h : mi e = true
  ·obtain ⟨_,_,a,b,hab⟩ := oS h
   have h3 := args_two hab
   rw [conj_two h hab] at hc
   rcases List.mem_append.1 hc with hc | hc
   ·have := ih a (by rw [hab]; simp) c hc; omega
   ·have := ih b (by rw [hab]; simp) c hc; omega
  ·rw [oI,zy h] at hc
   rw [List.mem_singleton.1 hc]
   exact Nat.le_refl _
theorem inputs_ev {s : LSchema} : ∀ q : LQuery,CQ s q → ∃ N ls cs,(∀ n,N ≤ n → cU n q = some (ls,cs)) ∧ (∀ x ∈ ls,CQ s x) ∧ (∀ c ∈ cs,aG (aE c) ≤ 1048576) ∧ ls.length ≤ (bC q).length ∧ cs.length ≤ 1048576 * (bC q).length := by
 refine LQuery.ind fun q ih h=>?_
 have hsh := oQ (pe h.cols).1
 by_cases hk : q.kind = 4
 ·obtain ⟨x,y,hxy⟩ := two (by rw [hsh.arity,hk]; rfl : q.inputs.length = 2)
  have hxm : x ∈ q.inputs := by rw [hxy]; simp
  have hym : y ∈ q.inputs := by rw [hxy]; simp
  obtain ⟨N1,l1,c1,a1,a2,a3,a4,a5⟩ := ih x hxm (h.sub hxm)
  obtain ⟨N2,l2,c2,b1,b2,b3,b4,b5⟩ := ih y hym (h.sub hym)
  have hl := hsh.one (by omega)
  have he : aH q.exprs 0 = some (e0Q q) := e0_get (by omega)
  have hb := h.tiny.e0 hl
  have hcl := conj_len (e0Q q)
  have hn : (bC q).length = (bC x).length + (bC y).length + 1 := by
   rw [fA,hxy]; simp
  have hn24 := h.size.1
  have hm1 : 1048576 * (bC q).length = 1048576 * (bC x).length + 1048576 * (bC y).length + 1048576 := by rw [hn]; omega
  refine ⟨N1 + N2 + 1,l1 ++ l2,c1 ++ c2 ++ jP (e0Q q),fun n hn'=>?_,?_,?_,?_,?_⟩
  ·obtain ⟨n,rfl⟩ : ∃ k,n = k + 1 := ⟨n - 1,by omega⟩
   rw [cU]
   unfold eB
   have i0 : aH q.inputs 0 = some x := by rw [hxy]; rfl
   have i1 : aH q.inputs 1 = some y := by rw [hxy]; rfl
   have hc : (cond (q.kind != (4 : Int)) true (cond ((q.inputs.length : Int) != (2 : Int)) true ((q.exprs.length : Int) != (1 : Int)))) = false := by
    rw [kW hk,zd,show ((q.inputs.length : Int) != (2 : Int)) = false from by rw [hxy]; rfl,zd,hl]
    rfl
   rw [hc,ck,zd,i0,bPs]
   dsimp only
   rw [a1 n (by omega),bPs,i1,bPs,b1 n (by omega),bPs,he,bPs]
   dsimp only
   rw [mD (by decide) (by omega),bPs,conj_ok hb,bPs,concat3 (by omega),bPs]
  ·intro z hz
   rcases List.mem_append.1 hz with hz | hz
   ·exact a2 z hz
   ·exact b2 z hz
  ·intro c hc
   rcases List.mem_append.1 hc with hc | hc
   ·rcases List.mem_append.1 hc with hc | hc
    ·exact a3 c hc
    ·exact b3 c hc
   ·exact Nat.le_trans (conj_bulk _ c hc) hb
  ·rw [List.length_append]; omega
  ·rw [List.length_append,List.length_append]; omega
 ·refine ⟨1,[q],[],fun n hn=>?_,fun x hx=>by rw [List.mem_singleton.1 hx]; exact h,fun c hc=>(List.not_mem_nil hc).elim,by have := nodesQ_pos q; simpa using this,by simp⟩
  obtain ⟨n,rfl⟩ : ∃ k,n = k + 1 := ⟨n - 1,by omega⟩
  rw [cU]
  unfold eB
  rw [kM hk,zc,ck,zc,cloneQ_eq h.bulk,bPs]
theorem graph_ok {s : LSchema} {q : LQuery} (h : CQ s q) (sizes : List LCardinalityTableSize) : ∃ g e,eu s sizes q = some (g,e) ∧ (e = 0 → bK g = some 0) := by
 obtain ⟨N,ls,cs,h1,h2,h3,h4,h5⟩ := inputs_ev q h
 have hn := h.size.1
 have hji : ig q = some (ls,cs) := ix N h1
 suffices hx : ∃ r,eu s sizes q = some r ∧ (r.2 = 0 → bK r.1 = some 0) by
  obtain ⟨r,hr,hv⟩ := hx
  exact ⟨r.1,r.2,hr,hv⟩
 unfold eu
 rw [check_ok h,bPs]
 simp only
 rw [show ((0 : Int) != 0) = false from rfl,zd,hji,bPs]
 simp only
 refine lK (R := fun r : LJoinorderGraph × Int=>r.2 = 0 → bK r.1 = some 0) (fun j s1=>s1.1.length = j ∧ s1.2.length = j) ⟨rfl,rfl⟩ (fun j x s1 hj hI=>?_) (fun s1 hI=>?_)
 ·have hlt := (zg.1 hj).1
  have hx := h2 x (dc hj)
  obtain ⟨B,hB⟩ := est_tot s sizes x hx
  obtain ⟨l,hl⟩ := jnames_tot hx
  rw [hB,bPs,cu (by decide) (by simp; omega),bPs,hl,bPs,cu (by decide) (by simp; omega),bPs]
  exact ⟨_,rfl,by simp [hI.1],by simp [hI.2]⟩
 ·refine lK (R := fun r : LJoinorderGraph × Int=>r.2 = 0 → bK r.1 = some 0) (fun j s2=>s2.1 = s1.1 ∧ s2.2.length ≤ j) ⟨rfl,by simp⟩ (fun j c s2 hj hJ=>?_) (fun s2 _=>?_)
  ·have hlt := (zg.1 hj).1
   obtain ⟨l,hl⟩ := leavesOf_tot (h3 c (dc hj)) s1.1 (by omega)
   rw [hJ.1,hl,bPs]
   by_cases hl2 : l.length = 2
   ·match l,hl2 with
    | [a,b],_ =>
     rw [show ((([a,b] : List Int).length : Int) != (2 : Int)) = false from rfl,zd,show aH [a,b] 0 = some a from rfl,show aH [a,b] 1 = some b from rfl]
     simp only [ck,bPs]
     rw [mD (by decide) (by simp; omega),bPs]
     exact ⟨_,rfl,rfl,by simp; omega⟩
   ·rw [show ((l.length : Int) != (2 : Int)) = true from by simp; omega,zc]
    exact ⟨_,rfl,rfl,by simp only; omega⟩
  ·obtain ⟨e,he,_⟩ := validG_eq (LJoinorderGraph.mk s1.2 s2.2)
   rw [he,bPs]
   by_cases h0 : e = 0
   ·rw [kW h0,zd]
    exact ⟨_,rfl,fun _=>by simp only; rw [he,h0]⟩
   ·rw [kM h0,zc]
    exact ⟨_,rfl,fun hc=>absurd hc h0⟩
theorem reorder_law {s : LSchema} (hs : SmallS s) (sizes : List LCardinalityTableSize) {q : LQuery} (hq : aG (aw q) ≤ 1048576) (picks : List Int) :
  dq s sizes q picks = some true := by
 unfold dq
 have es : sampleV = true := rfl
 rw [es]
 simp only [ck,Bool.not_true,zd]
 obtain ⟨b,hb,hcq⟩ := valid_tot hs hq
 have hsz : ∃ t,bh sizes (fun a0=>some (bJ a0)) = some t := by
  unfold bh bA
  rw [idxF (p := bJ) (fun _ _=>rfl),bPs]
  exact ⟨_,rfl⟩
 obtain ⟨t,ht⟩ := hsz
 rw [hb,bPs]
 cases b with
 | false=>rfl
 | true =>
  have hc := hcq rfl
  simp only [Bool.not_true,zd]
  cases (q.kind != (4 : Int)) with
  | true=>rfl
  | false =>
   rw [zd]
   by_cases hp : (picks.length : Int) > 20
   ·rw [zt hp]; rfl
   ·rw [zf hp,zd]
    cases decide ((sizes.length : Int) > (10 : Int)) with
    | true=>rfl
    | false =>
     rw [zd,ht,bPs,bPs]
     cases t with
     | true=>rfl
     | false =>
      rw [zd]
      obtain ⟨g,e,hg,hv⟩ := graph_ok hc sizes
      rw [hg,bPs]
      simp only
      by_cases h0 : e = 0
      ·rw [kW h0,zd]
       have hval := hv h0
       obtain ⟨e',he',hvg⟩ := validG_eq g
       rw [hval] at he'
       have hVG := hvg (Option.some.inj he').symm
       obtain ⟨r,tr,c,e1,e2,e3,e4,e5⟩ := notWorse hVG hval picks (by omega)
       rw [e1,bPs,e3,bPs,e4,bPs]
       simp only
       rw [e2,zt e5]
       rfl
      ·rw [kM h0]
       rfl
end
end Go.Proofs.YtpgalfinchajnaaGreatDoor
