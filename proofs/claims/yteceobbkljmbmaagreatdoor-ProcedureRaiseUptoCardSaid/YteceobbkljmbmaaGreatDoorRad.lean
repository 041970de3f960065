/- procedureRaiseUpto_holds, part 4: the layer, the plain functions and what they compute; conditions as in the statement. -/
import Derived.Test.YteceobbkljmbmaaGreatDoorRac
set_option maxHeartbeats 4000000
namespace Go.Proofs.YteceobbkljmbmaaGreatDoor
noncomputable section
open Go Go.Ab
attribute [local irreducible] V Ao Do Gh Eff PH IntKind.wrap
set_option maxRecDepth 4000
def eB (rec33 : LExpr → (List Int) → Bool → (List Bool) → Option ((List Int) × Bool × (List Bool))) (e : LExpr) (c0 : List Int) (c1 : Bool) (c2 : List Bool) : Option ((List Int) × Bool × (List Bool)) :=
 letP (
  cond (e.kind == (3 : Int))
   (cond (decide (e.index ≥ (0 : Int)))
    ((decide (e.index < (8 : Int))))
    (false))
   (false)) fun (t1 : Bool) =>
 af (
  cond t1
   (af (hP (σ := List Int) (ρ := Empty) (fun (s7 : List Int) =>
    cond (decide ((s7.length : Int) ≤ e.index))
     (af (ej 8 s7 ([0] : List Int)) fun (x28 : List Int) =>
     some (.next x28))
     (some (.brk s7))) c0) fun fl7=>fl7.thenP fun (s7 : List Int) =>
   af (
    cond c1
     (some true)
     (af (arrI 8 c2 e.index) fun (x33 : Bool) =>
     cond x33
      (af (aN s7 e.index) fun (x39 : Int) =>
      some (x39 != e.value.kind))
      (some false))) fun (t8 : Bool) =>
   af (aN s7 e.index) fun (_ : Int) =>
   letP (s7.set e.index.toNat e.value.kind) fun (y9 : List Int) =>
   af (arrI 8 c2 e.index) fun (_ : Bool) =>
   letP (c2.set e.index.toNat true) fun (y10 : List Bool) =>
   some (y9,t8,y10))
   (some (c0,c1,c2))) fun (t6 : List Int × Bool × List Bool) =>
 af (aF (σ := List Int × Bool × List Bool) (ρ := Empty) (fun (_ : Nat) (x11 : LExpr) (s11 : List Int × Bool × List Bool) =>
  af (rec33 x11 s11.1 s11.2.1 s11.2.2) fun x66 =>
  some (.next (x66.1,x66.2.1,x66.2.2))) 0 e.args (t6.1,t6.2.1,t6.2.2)) fun fl11=>fl11.thenP fun (s11 : List Int × Bool × List Bool) =>
 some (s11.1,s11.2.1,s11.2.2)
theorem kq (b_c0 : Nat) (g_c0 : OwnRef) (b_c1 : Nat) (b_c2 : Nat) (b_c3 : Nat) (rec33 : LExpr → (List Int) → Bool → (List Bool) → Option ((List Int) × Bool × (List Bool))) (hrec33 : ∀ bq0 gq0 bq1 bq2 bq3 a0 a1 a2 a3 r,rec33 a0 a1 a2 a3 = some r → PH Tryz.prog 33 [(.agg (fj a0)),(.box 1000 bq0 0),(.box 1001 bq1 0),(.box 1002 bq2 0),(.box 1003 bq3 0)] ⟨upd (upd (upd (upd (fun _=>none) 1003 (some ⟨bq3,[(.fn 33 [(.box 1000 bq0 0),(.box 1001 bq1 0),(.box 1002 bq2 0),(.box 1003 bq3 0)])]⟩)) 1002 (some ⟨bq2,(List.map az a3)⟩)) 1001 (some ⟨bq1,[(az a2)]⟩)) 1000 (some ⟨bq0,[(.own 1100 gq0 (a1.map aZ).length)]⟩),upd (fun _=>none) 1100 (some ⟨gq0,3,(a1.map aZ),true⟩)⟩ (fun u H=>∃ gz0,u = (.tup []) ∧ H = ⟨upd (upd (upd (upd (fun _=>none) 1003 (some ⟨bq3,[(.fn 33 [(.box 1000 bq0 0),(.box 1001 bq1 0),(.box 1002 bq2 0),(.box 1003 bq3 0)])]⟩)) 1002 (some ⟨bq2,(List.map az r.2.2)⟩)) 1001 (some ⟨bq1,[(az r.2.1)]⟩)) 1000 (some ⟨bq0,[(.own 1100 gz0 (r.1.map aZ).length)]⟩),upd (fun _=>none) 1100 (some ⟨gz0,3,(r.1.map aZ),true⟩)⟩)) (e : LExpr) (c0 : List Int) (c1 : Bool) (c2 : List Bool) (r : (List Int) × Bool × (List Bool)) (H : eB rec33 e c0 c1 c2 = some r) :
  PH Tryz.prog 33 [(.agg (fj e)),(.box 1000 b_c0 0),(.box 1001 b_c1 0),(.box 1002 b_c2 0),(.box 1003 b_c3 0)] ⟨upd (upd (upd (upd (fun _=>none) 1003 (some ⟨b_c3,[(.fn 33 [(.box 1000 b_c0 0),(.box 1001 b_c1 0),(.box 1002 b_c2 0),(.box 1003 b_c3 0)])]⟩)) 1002 (some ⟨b_c2,(List.map az c2)⟩)) 1001 (some ⟨b_c1,[(az c1)]⟩)) 1000 (some ⟨b_c0,[(.own 1100 g_c0 (c0.map aZ).length)]⟩),upd (fun _=>none) 1100 (some ⟨g_c0,3,(c0.map aZ),true⟩)⟩ (fun u H=>∃ gz0,u = (.tup []) ∧ H = ⟨upd (upd (upd (upd (fun _=>none) 1003 (some ⟨b_c3,[(.fn 33 [(.box 1000 b_c0 0),(.box 1001 b_c1 0),(.box 1002 b_c2 0),(.box 1003 b_c3 0)])]⟩)) 1002 (some ⟨b_c2,(List.map az r.2.2)⟩)) 1001 (some ⟨b_c1,[(az r.2.1)]⟩)) 1000 (some ⟨b_c0,[(.own 1100 gz0 (r.1.map aZ).length)]⟩),upd (fun _=>none) 1100 (some ⟨gz0,3,(r.1.map aZ),true⟩)⟩) := by
 unfold eB at H
 refine PH.aw Tryz.func33 Tryz.ntmps33 ?_
 refine ab (aa (aD ?_))
 refine ac (ab (ab ?_))
 refine en (γ := Unit) (fun t1 g1=>⟨68,upd (upd (upd (upd (upd (upd (fun _=>.any) 20 (az t1)) 5 (.ptr (fj e))) 4 (.box 1003 b_c3 0)) 3 (.box 1002 b_c2 0)) 2 (.box 1001 b_c1 0)) 1 (.box 1000 b_c0 0),upd (upd (upd (upd (fun _=>none) 1003 (some ⟨b_c3,[(.fn 33 [(.box 1000 b_c0 0),(.box 1001 b_c1 0),(.box 1002 b_c2 0),(.box 1003 b_c3 0)])]⟩)) 1002 (some ⟨b_c2,(List.map az c2)⟩)) 1001 (some ⟨b_c1,[(az c1)]⟩)) 1000 (some ⟨b_c0,[(.own 1100 g_c0 (c0.map aZ).length)]⟩),upd (fun _=>none) 1100 (some ⟨g_c0,3,(c0.map aZ),true⟩)⟩) H (fun _ H=>?_) (fun t1 g1 H=>?_)
 ·refine aa (ae 4 tk rfl ?_)
  refine aR rfl rfl rfl H (fun H=>?_) (fun H=>?_)
  ·refine ae 5 tk rfl ?_
   refine aR rfl rfl rfl H (fun H=>?_) (fun H=>?_)
   ·refine ae 4 tk rfl (ac ?_)
    refine aK _ () H Gh.d
   refine ae 4 tk rfl (ac ?_)
   refine aK _ () H Gh.d
  refine ae 9 tk rfl (ac ?_)
  refine aK _ () H Gh.d
 refine eg (γ := OwnRef) (fun t6 g6=>⟨68,upd (upd (upd (upd (upd (fun _=>.any) 5 (.ptr (fj e))) 4 (.box 1003 b_c3 0)) 3 (.box 1002 b_c2 0)) 2 (.box 1001 b_c1 0)) 1 (.box 1000 b_c0 0),upd (upd (upd (upd (fun _=>none) 1003 (some ⟨b_c3,[(.fn 33 [(.box 1000 b_c0 0),(.box 1001 b_c1 0),(.box 1002 b_c2 0),(.box 1003 b_c3 0)])]⟩)) 1002 (some ⟨b_c2,(List.map az t6.2.2)⟩)) 1001 (some ⟨b_c1,[(az t6.2.1)]⟩)) 1000 (some ⟨b_c0,[(.own 1100 g6 (t6.1.map aZ).length)]⟩),upd (fun _=>none) 1100 (some ⟨g6,3,(t6.1.map aZ),true⟩)⟩) H (fun _ H=>?_) (fun t6 g6 H=>?_)
 ·refine aA rfl H (fun H=>?_) (fun H=>?_)
  ·refine ab ?_
   obtain ⟨fl7,H7,Hp7⟩ := ay H
   refine io (τ := List Int) (γ := OwnRef) (fun s7 g7=>⟨68,upd (upd (upd (upd (upd (fun _=>.any) 5 (.ptr (fj e))) 4 (.box 1003 b_c3 0)) 3 (.box 1002 b_c2 0)) 2 (.box 1001 b_c1 0)) 1 (.box 1000 b_c0 0),upd (upd (upd (upd (fun _=>none) 1003 (some ⟨b_c3,[(.fn 33 [(.box 1000 b_c0 0),(.box 1001 b_c1 0),(.box 1002 b_c2 0),(.box 1003 b_c3 0)])]⟩)) 1002 (some ⟨b_c2,(List.map az c2)⟩)) 1001 (some ⟨b_c1,[(az c1)]⟩)) 1000 (some ⟨b_c0,[(.own 1100 g7 (s7.map aZ).length)]⟩),upd (fun _=>none) 1100 (some ⟨g7,3,(s7.map aZ),true⟩)⟩) (fun t=>fl7 = .next t) ?_ (fun s7 g7 hn7=>?_)
   ·refine aC ?_
    refine oK (fun s7 g7=>⟨68,upd (upd (upd (upd (upd (fun _=>.any) 5 (.ptr (fj e))) 4 (.box 1003 b_c3 0)) 3 (.box 1002 b_c2 0)) 2 (.box 1001 b_c1 0)) 1 (.box 1000 b_c0 0),upd (upd (upd (upd (fun _=>none) 1003 (some ⟨b_c3,[(.fn 33 [(.box 1000 b_c0 0),(.box 1001 b_c1 0),(.box 1002 b_c2 0),(.box 1003 b_c3 0)])]⟩)) 1002 (some ⟨b_c2,(List.map az c2)⟩)) 1001 (some ⟨b_c1,[(az c1)]⟩)) 1000 (some ⟨b_c0,[(.own 1100 g7 (s7.map aZ).length)]⟩),upd (fun _=>none) 1100 (some ⟨g7,3,(s7.map aZ),true⟩)⟩) g_c0 H7 Gh.d (fun m7 s7 g7 hr7=>?_)
    obtain ⟨fb7,H,hg7⟩ := iterM_cons hr7
    refine ab (ab (aa (aB tk ?_)))
    refine ow tk rfl rfl rfl rfl rfl (zl _) rfl (ae 3 tk rfl (ac ?_))
    refine aA rfl H (fun H=>?_) (fun H=>?_)
    ·refine ao (aC (aa (aB tk ?_)))
     refine ct tk (rows' := List.map aZ ([0] : List Int)) (fh.refl _) ?_
     obtain ⟨x28,h28,H⟩ := ay H
     have k28 := eo h28
     refine cW (rows2' := List.map aZ ([0] : List Int)) (rows' := List.map aZ x28) tk rfl rfl rfl rfl rfl rfl rfl rfl rfl rfl rfl rfl rfl (fh.refl _) (fC k28.1) (fB k28.2.1) (fy k28.2.2) fun g28=>?_
     refine aE tk ?_
     refine ac (aP ?_)
     obtain rfl := ax H
     refine mw x28 g28 hg7 Gh.d
    refine cT rfl ?_
    obtain rfl := ax H
    refine aK s7 g7 hg7 Gh.d
   have H := mg hn7 Hp7
   refine ab ?_
   refine eg (γ := Unit) (fun t8 g8=>⟨68,upd (upd (upd (upd (upd (fun _=>.any) 5 (.ptr (fj e))) 4 (.box 1003 b_c3 0)) 3 (.box 1002 b_c2 0)) 2 (.box 1001 b_c1 0)) 1 (.box 1000 b_c0 0),upd (upd (upd (upd (fun _=>none) 1003 (some ⟨b_c3,[(.fn 33 [(.box 1000 b_c0 0),(.box 1001 b_c1 0),(.box 1002 b_c2 0),(.box 1003 b_c3 0)])]⟩)) 1002 (some ⟨b_c2,(List.map az c2)⟩)) 1001 (some ⟨b_c1,[(az t8)]⟩)) 1000 (some ⟨b_c0,[(.own 1100 g7 (s7.map aZ).length)]⟩),upd (fun _=>none) 1100 (some ⟨g7,3,(s7.map aZ),true⟩)⟩) H (fun _ H=>?_) (fun t8 g8 H=>?_)
   ·refine oG (tag := 1100) rfl (fun ho1100=>?_)
    refine bD tk mok ⟨true,true,[32,38,43]⟩ [0,1,2,3,4,5,6,7,8,9,10,11,12,13,14,15,16,17,18] rfl (by decide +kernel) rfl (bE ?_)
    refine bY rfl ?_
    refine iU H (fun H=>?_) (fun H=>?_)
    ·refine aO 16 rfl (nD rfl rfl rfl rfl rfl rfl rfl rfl rfl rfl rfl rfl (bi ?_))
     refine aK _ () (ax H) Gh.d
    refine aO 2 rfl ?_
    obtain ⟨x33,h33,H⟩ := ay H
    have k33 := arrI_some h33
    refine oP rfl rfl rfl rfl rfl rfl rfl rfl rfl k33.1 rfl ?_
    refine ph rfl rfl rfl rfl rfl rfl rfl rfl (by rw [List.getElem?_map,k33.2]; rfl) rfl ?_
    refine bY rfl ?_
    refine iU H (fun H=>?_) (fun H=>?_)
    ·refine bE ?_
     refine aO 2 rfl ?_
     obtain ⟨x39,k39,H⟩ := bL H
     refine oN tk rfl rfl rfl rfl rfl rfl rfl rfl ⟨k39.1,(jK k39.2)⟩ (jC ho1100 k39.2) rfl ?_
     refine pj tk rfl rfl rfl rfl rfl rfl rfl rfl rfl (aS (fun _=>rfl) k39.2) rfl rfl ?_
     refine aO 6 rfl (nD rfl rfl rfl rfl rfl rfl rfl rfl rfl rfl rfl rfl (bi ?_))
     refine aK _ () (ax H) Gh.d
    refine aO 11 rfl (nD rfl rfl rfl rfl rfl rfl rfl rfl rfl rfl rfl rfl (bi ?_))
    refine aK _ () (ax H) Gh.d
   refine oG (tag := 1100) rfl (fun ho1100=>?_)
   refine bD tk mok ⟨true,false,[49,51,54]⟩ [0,1,2,3,4,5,6,7,8,9,10,11] rfl (by decide +kernel) rfl (bE ?_)
   refine aO 7 rfl ?_
   obtain ⟨x55,k55,H⟩ := bL H
   refine oN tk rfl rfl rfl rfl rfl rfl rfl rfl ⟨k55.1,(jK k55.2)⟩ (jC ho1100 k55.2) rfl ?_
   obtain ⟨y9,hy9,H⟩ := eh H
   refine oT tk rfl rfl rfl rfl rfl rfl rfl rfl rfl (by rw [zl]; exact (zg.1 k55.2).1) (PLe.refl _ _) rfl rfl rfl rfl (by decide) (jb (fun _=>rfl) k55.2 rfl hy9) ?_
   obtain ⟨x56,h56,H⟩ := ay H
   have k56 := arrI_some h56
   refine oP rfl rfl rfl rfl rfl rfl rfl rfl rfl k56.1 rfl ?_
   obtain ⟨y10,hy10,H⟩ := eh H
   refine oV rfl rfl rfl rfl rfl rfl rfl rfl rfl rfl (by rw [zl]; exact (zg.1 k56.2).1) (splice_map az _ _ _ (zg.1 k56.2).1 hy10) ?_
   refine bi ?_
   refine aK _ g7 (ax H) (Gh.le (aI (aI (aI (aI (aI bN))))) (aT rfl (fW.of2 (fe.cons (PLe2.of_eq (congrArg (PV.own 1100 g7) (lM (f := aZ) hy9))) fe.nil)) (aT rfl (fW.r) (aT rfl (fW.r) (aT rfl (fW.r) bf)))) (eu be))
  refine ao ?_
  refine aK _ g_c0 (ax H) Gh.d
 refine ab (aa (ae 2 tk rfl (av tk (zl _) ?_)))
 refine ag tk rfl (ac ?_)
 refine iq (γ := OwnRef) tk 60 59 58 (fun s11 g11=>upd (upd (upd (upd (fun _=>.any) 4 (.box 1003 b_c3 0)) 3 (.box 1002 b_c2 0)) 2 (.box 1001 b_c1 0)) 1 (.box 1000 b_c0 0)) (fun s11 g11=>upd (upd (upd (upd (fun _=>none) 1003 (some ⟨b_c3,[(.fn 33 [(.box 1000 b_c0 0),(.box 1001 b_c1 0),(.box 1002 b_c2 0),(.box 1003 b_c3 0)])]⟩)) 1002 (some ⟨b_c2,(List.map az s11.2.2)⟩)) 1001 (some ⟨b_c1,[(az s11.2.1)]⟩)) 1000 (some ⟨b_c0,[(.own 1100 g11 (s11.1.map aZ).length)]⟩)) (fun s11 g11=>upd (fun _=>none) 1100 (some ⟨g11,3,(s11.1.map aZ),true⟩)) g6 H (fun fl11 Hp11 j11 s11 g11 hz11 hl11 x11 fb11 hx11 H hg11=>?_) (fun s11 g11 H=>?_)
 ·refine ab (aC (ab (aa (aX tk (zn j11) (bp cv hx11) ?_))))
  refine ag tk rfl ?_
  refine bd tk fun b7=>?_
  refine aE tk ?_
  refine ac (aa (aB tk ?_))
  refine aB tk ?_
  obtain ⟨x66,h66,H⟩ := ay H
  have s66 := hrec33 b_c0 g11 b_c1 b_c2 b_c3 x11 s11.1 s11.2.1 s11.2.2 _ h66
  refine gn (st' := ⟨_,_,upd (upd (upd (upd (upd (fun _=>none) 1003 (some ⟨b_c3,[(.fn 33 [(.box 1000 b_c0 0),(.box 1001 b_c1 0),(.box 1002 b_c2 0),(.box 1003 b_c3 0)])]⟩)) 1002 (some ⟨b_c2,(List.map az s11.2.2)⟩)) 1001 (some ⟨b_c1,[(az s11.2.1)]⟩)) 1000 (some ⟨b_c0,[(.own 1100 g11 (s11.1.map aZ).length)]⟩)) 7 (some ⟨b7,(fj x11)⟩),upd (fun _=>none) 1100 (some ⟨g11,3,(s11.1.map aZ),true⟩)⟩) (Gh.le (fE _ _) (aT rfl (fW.r) (aT rfl (fW.of2 (fe.cons (PLe2.own rfl) fe.nil)) (aT rfl (fW.r) (aT rfl (fW.r) (aT rfl (fW.of2 (fe.cons (PLe2.fn (fe.cons PLe2.boxT (fe.cons PLe2.boxT (fe.cons PLe2.boxT (fe.cons PLe2.boxT fe.nil))))) fe.nil)) bf))))) (eu be)) ?_
  refine iG (g := 33) rfl rfl rfl Tryz.call33 [(1000,1000),(1001,1001),(1002,1002),(1003,1003)] [(1100,1100)] rfl rfl rfl rfl (fW.of2 (fe.cons (PLe2.of_eq rfl) (fe.cons PLe2.boxT (fe.cons PLe2.boxT (fe.cons PLe2.boxT (fe.cons PLe2.boxT fe.nil)))))) (by rw [dF,dF,dF,dF,hJ,jd,hC]; rfl) s66 ?_
  rintro u66 H66h ⟨gz66_0,rfl,rfl⟩
  refine ⟨_,rfl,?_⟩
  refine gn (st' := ⟨_,_,upd (upd (upd (upd (upd (fun _=>none) 1003 (some ⟨b_c3,[(.fn 33 [(.box 1000 b_c0 0),(.box 1001 b_c1 0),(.box 1002 b_c2 0),(.box 1003 b_c3 0)])]⟩)) 1002 (some ⟨b_c2,(List.map az x66.2.2)⟩)) 1001 (some ⟨b_c1,[(az x66.2.1)]⟩)) 1000 (some ⟨b_c0,[(.own 1100 gz66_0 (x66.1.map aZ).length)]⟩)) 7 (some ⟨b7,(fj x11)⟩),upd (fun _=>none) 1100 (some ⟨gz66_0,3,(x66.1.map aZ),true⟩)⟩) (Gh.le (fE _ _) (aT rfl (fW.r) (aT rfl (fW.of2 (fe.cons (PLe2.own rfl) fe.nil)) (aT rfl (fW.r) (aT rfl (fW.r) (aT rfl (fW.of2 (fe.cons (PLe2.fn (fe.cons PLe2.boxT (fe.cons PLe2.boxT (fe.cons PLe2.boxT (fe.cons PLe2.boxT fe.nil))))) fe.nil)) bf))))) (eu be)) ?_
  refine ac (aP (bm 2 tk rfl ?_))
  exact bv gz66_0 H hl11 hg11
 obtain rfl := ax H
 refine gA (st' := ⟨68,fun _=>.any,upd (upd (upd (upd (fun _=>none) 1003 (some ⟨b_c3,[(.fn 33 [(.box 1000 b_c0 0),(.box 1001 b_c1 0),(.box 1002 b_c2 0),(.box 1003 b_c3 0)])]⟩)) 1002 (some ⟨b_c2,(List.map az s11.2.2)⟩)) 1001 (some ⟨b_c1,[(az s11.2.1)]⟩)) 1000 (some ⟨b_c0,[(.own 1100 g11 (s11.1.map aZ).length)]⟩),upd (fun _=>none) 1100 (some ⟨g11,3,(s11.1.map aZ),true⟩)⟩) (Gh.le bN (aT rfl (fW.of2 (fe.cons (PLe2.own rfl) fe.nil)) (aT rfl (fW.r) (aT rfl (fW.r) (aT rfl (fW.r) bf)))) (eu be)) ?_
 refine V.endH rfl (PLe.q rfl) ⟨_,rfl,rfl⟩
def cj : Nat → LExpr → (List Int) → Bool → (List Bool) → Option ((List Int) × Bool × (List Bool))
 | 0,_,_,_,_=>none
 | n + 1,v0,v1,v2,v3=>eB (fun b0 b1 b2 b3=>cj n b0 b1 b2 b3) v0 v1 v2 v3
theorem kx  (n : Nat) : (∀ bq0 gq0 bq1 bq2 bq3 a0 a1 a2 a3 r,cj n a0 a1 a2 a3 = some r → PH Tryz.prog 33 [(.agg (fj a0)),(.box 1000 bq0 0),(.box 1001 bq1 0),(.box 1002 bq2 0),(.box 1003 bq3 0)] ⟨upd (upd (upd (upd (fun _=>none) 1003 (some ⟨bq3,[(.fn 33 [(.box 1000 bq0 0),(.box 1001 bq1 0),(.box 1002 bq2 0),(.box 1003 bq3 0)])]⟩)) 1002 (some ⟨bq2,(List.map az a3)⟩)) 1001 (some ⟨bq1,[(az a2)]⟩)) 1000 (some ⟨bq0,[(.own 1100 gq0 (a1.map aZ).length)]⟩),upd (fun _=>none) 1100 (some ⟨gq0,3,(a1.map aZ),true⟩)⟩ (fun u H=>∃ gz0,u = (.tup []) ∧ H = ⟨upd (upd (upd (upd (fun _=>none) 1003 (some ⟨bq3,[(.fn 33 [(.box 1000 bq0 0),(.box 1001 bq1 0),(.box 1002 bq2 0),(.box 1003 bq3 0)])]⟩)) 1002 (some ⟨bq2,(List.map az r.2.2)⟩)) 1001 (some ⟨bq1,[(az r.2.1)]⟩)) 1000 (some ⟨bq0,[(.own 1100 gz0 (r.1.map aZ).length)]⟩),upd (fun _=>none) 1100 (some ⟨gz0,3,(r.1.map aZ),true⟩)⟩)) := by
 induction n with
 | zero=>exact (by intros; rename_i h; exact absurd (show (none : Option _) = some _ from h) (by simp))
 | succ n ih =>
  exact (fun bq0 gq0 bq1 bq2 bq3 v0 v1 v2 v3 r h=>kq bq0 gq0 bq1 bq2 bq3 (fun b0 b1 b2 b3=>cj n b0 b1 b2 b3) ih v0 v1 v2 v3  r h)
def dN (e : LExpr) (c0 : List Int) (c1 : Bool) (c2 : List Bool) : Option ((List Int) × Bool × (List Bool)) := eU fun n=>cj n e c0 c1 c2
theorem il (b_c0 : Nat) (g_c0 : OwnRef) (b_c1 : Nat) (b_c2 : Nat) (b_c3 : Nat) (e : LExpr) (c0 : List Int) (c1 : Bool) (c2 : List Bool) (r : (List Int) × Bool × (List Bool)) (H : dN e c0 c1 c2 = some r) :
  PH Tryz.prog 33 [(.agg (fj e)),(.box 1000 b_c0 0),(.box 1001 b_c1 0),(.box 1002 b_c2 0),(.box 1003 b_c3 0)] ⟨upd (upd (upd (upd (fun _=>none) 1003 (some ⟨b_c3,[(.fn 33 [(.box 1000 b_c0 0),(.box 1001 b_c1 0),(.box 1002 b_c2 0),(.box 1003 b_c3 0)])]⟩)) 1002 (some ⟨b_c2,(List.map az c2)⟩)) 1001 (some ⟨b_c1,[(az c1)]⟩)) 1000 (some ⟨b_c0,[(.own 1100 g_c0 (c0.map aZ).length)]⟩),upd (fun _=>none) 1100 (some ⟨g_c0,3,(c0.map aZ),true⟩)⟩ (fun u H=>∃ gz0,u = (.tup []) ∧ H = ⟨upd (upd (upd (upd (fun _=>none) 1003 (some ⟨b_c3,[(.fn 33 [(.box 1000 b_c0 0),(.box 1001 b_c1 0),(.box 1002 b_c2 0),(.box 1003 b_c3 0)])]⟩)) 1002 (some ⟨b_c2,(List.map az r.2.2)⟩)) 1001 (some ⟨b_c1,[(az r.2.1)]⟩)) 1000 (some ⟨b_c0,[(.own 1100 gz0 (r.1.map aZ).length)]⟩),upd (fun _=>none) 1100 (some ⟨gz0,3,(r.1.map aZ),true⟩)⟩) := by
 obtain ⟨n,h⟩ := gF H
 exact (kx  n) b_c0 g_c0 b_c1 b_c2 b_c3 e c0 c1 c2 r h
def fO (rec34 : LQuery → Option ((List LQuery))) (q : LQuery) : Option ((List LQuery)) :=
 af (aF (σ := List LQuery) (ρ := Empty) (fun (_ : Nat) (x1 : LQuery) (s1 : List LQuery) =>
  af (rec34 x1) fun x17 =>
  af (ej 160 s1 x17) fun (x18 : List LQuery) =>
  some (.next x18)) 0 q.inputs [q]) fun fl1=>fl1.thenP fun (s1 : List LQuery) =>
 some s1
theorem WO_query_Nodes {m : Nat} (rec34 : LQuery → Option ((List LQuery))) (hrec34 : ∀ m a0 r,rec34 a0 = some r → iC Tryz.prog 34 [(.agg (aU a0))] (OwnR m 35 (r.map bI))) (q : LQuery) (r : (List LQuery)) (H : fO rec34 q = some r) :
  iC Tryz.prog 34 [(.agg (aU q))] (OwnR m 35 (r.map bI)) := by
 unfold fO at H
 refine PH.aw Tryz.func34 Tryz.ntmps34 ?_
 refine ab (aa (aD ?_))
 refine ag tk rfl (ac (ab (aa (ag tk rfl ?_))))
 refine nH (rows' := List.map bI ([q] : List LQuery)) tk rfl rfl rfl rfl rfl rfl rfl (congrArg (List.map List.length) (kI dz ([q] : List LQuery))).symm rfl (fe.trans (b := (List.map aU ([q] : List LQuery)).flatten) (fe.refl _) (fe.of_eq (congrArg List.flatten (kI dz ([q] : List LQuery))))) fun g7=>?_
 refine ag tk rfl (ac (ab (ab (aa (ae 2 tk rfl (av tk (zl _) ?_))))))
 refine ag tk rfl (ac ?_)
 refine iq (γ := OwnRef) tk 11 10 9 (fun s1 g1=>upd (fun _=>.any) 3 (.own 7 g1 (s1.map bI).length)) nB (fun s1 g1=>upd (fun _=>none) 7 (some ⟨g1,35,(s1.map bI),true⟩)) g7 H (fun fl1 Hp1 j1 s1 g1 hz1 hl1 x1 fb1 hx1 H hg1=>?_) (fun s1 g1 H=>?_)
 ·refine ab (aC (ab (aa (aX tk (zn j1) (bp dz hx1) ?_))))
  refine ag tk rfl ?_
  refine bd tk fun b5=>?_
  refine aE tk ?_
  refine ac (aa (ag tk rfl (aB tk ?_)))
  obtain ⟨x17,h17,H⟩ := ay H
  have s17 := hrec34 17 x1 _ h17
  refine am Tryz.call34 (fW.r) (aH.of_own s17) ?_
  obtain ⟨x18,h18,H⟩ := ay H
  have k18 := eo h18
  refine cW (rows2' := List.map bI x17) (rows' := List.map bI x18) tk rfl rfl rfl rfl rfl rfl rfl rfl rfl rfl rfl rfl rfl (fh.refl _) (fC k18.1) (fB k18.2.1) (fy k18.2.2) fun g18=>?_
  refine ag tk rfl (ac (aP (bm 2 tk rfl ?_)))
  exact bv g18 H hl1 hg1
 refine al 2 tk rfl ?_
 obtain rfl := ax H
 refine ng tk rfl rfl rfl rfl rfl
def fN : Nat → LQuery → Option ((List LQuery))
 | 0,_=>none
 | n + 1,v0=>fO (fun b0=>fN n b0) v0
theorem WF_query_Nodes  (n : Nat) : (∀ m a0 r,fN n a0 = some r → iC Tryz.prog 34 [(.agg (aU a0))] (OwnR m 35 (r.map bI))) := by
 induction n with
 | zero=>exact (by intros; rename_i h; exact absurd (show (none : Option _) = some _ from h) (by simp))
 | succ n ih =>
  exact (fun m v0 r h=>WO_query_Nodes (m := m) (fun b0=>fN n b0) ih v0  r h)
def fR (q : LQuery) : Option ((List LQuery)) := eU fun n=>fN n q
theorem mJ {m : Nat} (q : LQuery) (r : (List LQuery)) (H : fR q = some r) :
  iC Tryz.prog 34 [(.agg (aU q))] (OwnR m 35 (r.map bI)) := by
 obtain ⟨n,h⟩ := gF H
 exact (WF_query_Nodes  n) m q r h
theorem lj {m : Nat} (xs : List LCol) : iC Tryz.prog 136 [.list 70 (xs.map ap)] (OwnR m 70 (xs.map ap)) := by
 refine PH.aw Tryz.func136 Tryz.ntmps136 ?_
 refine gO tk 0 rfl rfl (fun hz hb=>?_)
 refine al 1 tk rfl (ab (ab (aa (ag tk rfl ?_))))
 refine oJ tk rfl rfl rfl rfl rfl rfl rfl (fun b hn=>?_)
 refine ac ?_
 refine cS rfl (fun h=>?_) (fun h=>?_)
 ·refine al 1 tk rfl (lO tk 2 902 (e := 70) rfl rfl ?_)
  refine ng tk rfl rfl rfl rfl (hn h).symm
 ·refine ao (ab (aa ?_))
  refine nH (rows' := []) tk rfl rfl rfl rfl rfl rfl rfl rfl rfl (fe.refl _) fun g=>?_
  refine ag tk rfl ?_
  refine cW (rows2' := xs.map ap) (rows' := xs.map ap) tk rfl rfl rfl rfl rfl rfl rfl rfl rfl rfl rfl rfl rfl (fh.refl _) (by simpa using hb) (by simpa using hz) rfl fun g'=>?_
  refine ag tk rfl (ac ?_)
  refine ng tk rfl rfl rfl rfl rfl
def dX (c : LCol) (c0 : LCol) : Bool :=
 (c.name == c0.name)
theorem nL (c : LCol) (c0 : LCol) :
  aH Tryz.prog 144 [(.agg (ap c)),(.ptr (ap c0))] (az (dX c c0)) := by
 obtain ⟨r,H⟩ : ∃ r,dX c c0 = r := ⟨_,rfl⟩
 rw [H]
 unfold dX at H
 refine PH.aw Tryz.func144 Tryz.ntmps144 ?_
 refine ab (aa (aD ?_))
 refine ag tk rfl (ac (al 6 tk rfl ?_))
 exact cG tk H rfl
def fQ (rec111 : LQuery → Option (Int)) (q : LQuery) : Option (Int) :=
 af (aF (σ := Int) (ρ := Empty) (fun (_ : Nat) (x1 : LQuery) (s1 : Int) =>
  af (rec111 x1) fun x15 =>
  some (.next (if x15 > s1 then x15 else s1))) 0 q.inputs 0) fun fl1=>fl1.thenP fun (s1 : Int) =>
 some (IntKind.i64.wrap (s1 + (1 : Int)))
theorem WO_query_depth (rec111 : LQuery → Option (Int)) (hrec111 : ∀ a0 r,rec111 a0 = some r → aH Tryz.prog 111 [(.agg (aU a0))] (ak r)) (q : LQuery) (r : Int) (H : fQ rec111 q = some r) :
  aH Tryz.prog 111 [(.agg (aU q))] (ak r) := by
 unfold fQ at H
 refine PH.aw Tryz.func111 Tryz.ntmps111 ?_
 refine ab (aa (aD ?_))
 refine ag tk rfl (ac (al 1 tk rfl (ab (ab (aa (ae 2 tk rfl (av tk (zl _) ?_)))))))
 refine ag tk rfl (ac ?_)
 refine iq tk 9 8 7 (fun s1 g1=>upd (fun _=>.any) 3 (ak s1)) nB nO () H (fun fl1 Hp1 j1 s1 g1 hz1 hl1 x1 fb1 hx1 H hg1=>?_) (fun s1 g1 H=>?_)
 ·refine ab (aC (ab (aa (aX tk (zn j1) (bp dz hx1) ?_))))
  refine ag tk rfl ?_
  refine bd tk fun b5=>?_
  refine aE tk ?_
  refine ac (aa (ag tk rfl (aB tk ?_)))
  obtain ⟨x15,h15,H⟩ := ay H
  have s15 := hrec111 x1 _ h15
  refine am Tryz.call111 (fW.r) s15 ?_
  refine ae 2 tk rfl (ac (aP (bm 2 tk rfl ?_)))
  exact bv () H hl1 hg1
 refine al 3 tk rfl ?_
 exact aM tk H rfl
def fP : Nat → LQuery → Option (Int)
 | 0,_=>none
 | n + 1,v0=>fQ (fun b0=>fP n b0) v0
theorem WF_query_depth  (n : Nat) : (∀ a0 r,fP n a0 = some r → aH Tryz.prog 111 [(.agg (aU a0))] (ak r)) := by
 induction n with
 | zero=>exact (by intros; rename_i h; exact absurd (show (none : Option _) = some _ from h) (by simp))
 | succ n ih =>
  exact (fun v0 r h=>WO_query_depth (fun b0=>fP n b0) ih v0  r h)
def gP (q : LQuery) : Option (Int) := eU fun n=>fP n q
theorem W_query_depth (q : LQuery) (r : Int) (H : gP q = some r) :
  aH Tryz.prog 111 [(.agg (aU q))] (ak r) := by
 obtain ⟨n,h⟩ := gF H
 exact (WF_query_depth  n) q r h
def gz (rec159 : LQuery → Option (Int × Int)) (q : LQuery) : Option (Int × Int) :=
 af (aF (σ := Int × Int) (ρ := Empty) (fun (j1 : Nat) (x1 : LQuery) (s1 : Int × Int) =>
  af (rec159 x1) fun x20 =>
  cond ((j1 : Int) == (0 : Int))
   (some (.next ((if (20001 : Int) < x20.1 then (20001 : Int) else x20.1),(if x20.2 > s1.2 then x20.2 else s1.2))))
   (cond (q.kind == (6 : Int))
    (some (.next ((if (20001 : Int) < (IntKind.i64.wrap (s1.1 + x20.1)) then (20001 : Int) else (IntKind.i64.wrap (s1.1 + x20.1))),(if x20.2 > s1.2 then x20.2 else s1.2))))
    (letP (
     cond (q.kind == (4 : Int))
      (true)
      ((q.kind == (5 : Int)))) fun (t4 : Bool) =>
    cond t4
     (some (.next ((if (20001 : Int) < (IntKind.i64.wrap (s1.1 * (if x20.1 > (1 : Int) then x20.1 else (1 : Int)))) then (20001 : Int) else (IntKind.i64.wrap (s1.1 * (if x20.1 > (1 : Int) then x20.1 else (1 : Int))))),(if x20.2 > s1.2 then x20.2 else s1.2))))
     (some (.next ((if (20001 : Int) < s1.1 then (20001 : Int) else s1.1),(if x20.2 > s1.2 then x20.2 else s1.2))))))) 0 q.inputs (0,0)) fun fl1=>fl1.thenP fun (s1 : Int × Int) =>
 cond (q.kind == (1 : Int))
  (some (24,(if (24 : Int) > s1.2 then (24 : Int) else s1.2)))
  (some (s1.1,(if s1.1 > s1.2 then s1.1 else s1.2)))
theorem WO_query_most (rec159 : LQuery → Option (Int × Int)) (hrec159 : ∀ a0 r,rec159 a0 = some r → aH Tryz.prog 159 [(.agg (aU a0))] (.tup [(ak r.1),(ak r.2)])) (q : LQuery) (r : Int × Int) (H : gz rec159 q = some r) :
  aH Tryz.prog 159 [(.agg (aU q))] (.tup [(ak r.1),(ak r.2)]) := by
 unfold gz at H
 refine PH.aw Tryz.func159 Tryz.ntmps159 ?_
 refine ab (aa (aD ?_))
 refine ae 2 tk rfl (ac (al 2 tk rfl (ab (ab (aa (ae 2 tk rfl (av tk (zl _) ?_)))))))
 refine ag tk rfl (ac ?_)
 refine iq tk 13 12 11 (fun s1 g1=>upd (upd (upd (fun _=>.any) 5 (ak s1.2)) 4 (ak s1.1)) 1 (.ptr (aU q))) nB nO () H (fun fl1 Hp1 j1 s1 g1 hz1 hl1 x1 fb1 hx1 H hg1=>?_) (fun s1 g1 H=>?_)
 ·refine ab (aC (ab (aa (ag tk rfl (aX tk (zn j1) (bp dz hx1) ?_)))))
  refine ag tk rfl ?_
  refine bd tk fun b7=>?_
  refine ag tk rfl (aE tk ?_)
  refine ac (ab (aa (aB tk ?_)))
  obtain ⟨x20,h20,H⟩ := ay H
  have s20 := hrec159 x1 _ h20
  refine am Tryz.call159 (fW.r) s20 ?_
  refine ae 5 tk rfl (ac (al 4 tk rfl (ab (aC (al 3 tk rfl ?_)))))
  refine aA rfl H (fun H=>?_) (fun H=>?_)
  ·refine bm 2 tk rfl (aP (bm 3 tk rfl (aP (bm 2 tk rfl ?_))))
   exact bv () H hl1 hg1
  refine al 4 tk rfl ?_
  refine aA rfl H (fun H=>?_) (fun H=>?_)
  ·refine bm 4 tk rfl (aP (bm 3 tk rfl (aP (bm 2 tk rfl ?_))))
   exact bv () H hl1 hg1
  refine ab ?_
  refine en (γ := Unit) (fun t4 g4=>⟨60,upd (upd (upd (upd (upd (upd (upd (upd (fun _=>.any) 37 (az t4)) 13 (ak (j1 : Int))) 12 (ak (q.inputs.length : Int))) 11 (.list 35 (q.inputs.map bI))) 8 (ak x20.1)) 5 (ak (if x20.2 > s1.2 then x20.2 else s1.2))) 4 (ak s1.1)) 1 (.ptr (aU q)),fun _=>none,fun _=>none⟩) H (fun _ H=>?_) (fun t4 g4 H=>?_)
  ·refine aa (ae 4 tk rfl ?_)
   refine aR rfl rfl rfl H (fun H=>?_) (fun H=>?_)
   ·refine ae 5 tk rfl (ac ?_)
    refine aK _ () H Gh.d
   refine ae 5 tk rfl (ac ?_)
   refine aK _ () H Gh.d
  refine aA rfl H (fun H=>?_) (fun H=>?_)
  ·refine bm 5 tk rfl (aP (bm 3 tk rfl (aP (bm 2 tk rfl ?_))))
   exact bv () H hl1 hg1
  refine ao (aP (bm 3 tk rfl (aP (bm 2 tk rfl ?_))))
  exact bv () H hl1 hg1
 refine ab (al 3 tk rfl ?_)
 refine aA rfl H (fun H=>?_) (fun H=>?_)
 ·refine bm 1 tk rfl (al 6 tk rfl ?_)
  exact aM tk H rfl
 refine ao (al 6 tk rfl ?_)
 exact aM tk H rfl
def gu : Nat → LQuery → Option (Int × Int)
 | 0,_=>none
 | n + 1,v0=>gz (fun b0=>gu n b0) v0
theorem WF_query_most  (n : Nat) : (∀ a0 r,gu n a0 = some r → aH Tryz.prog 159 [(.agg (aU a0))] (.tup [(ak r.1),(ak r.2)])) := by
 induction n with
 | zero=>exact (by intros; rename_i h; exact absurd (show (none : Option _) = some _ from h) (by simp))
 | succ n ih =>
  exact (fun v0 r h=>WO_query_most (fun b0=>gu n b0) ih v0  r h)
def iV (q : LQuery) : Option (Int × Int) := eU fun n=>gu n q
theorem W_query_most (q : LQuery) (r : Int × Int) (H : iV q = some r) :
  aH Tryz.prog 159 [(.agg (aU q))] (.tup [(ak r.1),(ak r.2)]) := by
 obtain ⟨n,h⟩ := gF H
 exact (WF_query_most  n) q r h
def da (t : LTable) (c0 : LQuery) : Bool :=
 (t.name == c0.table)
theorem lU (t : LTable) (c0 : LQuery) :
  aH Tryz.prog 194 [(.agg (bu t)),(.ptr (aU c0))] (az (da t c0)) := by
 obtain ⟨r,H⟩ : ∃ r,da t c0 = r := ⟨_,rfl⟩
 rw [H]
 unfold da at H
 refine PH.aw Tryz.func194 Tryz.ntmps194 ?_
 refine ab (aa (aD ?_))
 refine ag tk rfl (ac (al 6 tk rfl ?_))
 exact cG tk H rfl
def bF (y : LCol) (c0 : LCol) : Bool :=
 (y.name == c0.name)
theorem kv (y : LCol) (c0 : LCol) :
  aH Tryz.prog 163 [(.agg (ap y)),(.ptr (ap c0))] (az (bF y c0)) := by
 obtain ⟨r,H⟩ : ∃ r,bF y c0 = r := ⟨_,rfl⟩
 rw [H]
 unfold bF at H
 refine PH.aw Tryz.func163 Tryz.ntmps163 ?_
 refine ab (aa (aD ?_))
 refine ag tk rfl (ac (al 6 tk rfl ?_))
 exact cG tk H rfl
def cB (t : LTable) (c0 : List UInt8) : Bool :=
 (t.name == c0)
theorem jN (t : LTable) (c0 : List UInt8) :
  aH Tryz.prog 184 [(.agg (bu t)),(.ptr [(.str c0)])] (az (cB t c0)) := by
 obtain ⟨r,H⟩ : ∃ r,cB t c0 = r := ⟨_,rfl⟩
 rw [H]
 unfold cB at H
 refine PH.aw Tryz.func184 Tryz.ntmps184 ?_
 refine ab (aa (aD ?_))
 refine ag tk rfl (ac (al 5 tk rfl ?_))
 exact cG tk H rfl
def ci (y : LCol) (c0 : LProcedureStatement) (c1 : Int) : Option (Bool) :=
 af (aN c0.names c1) fun (x10 : List UInt8) =>
 some (y.name == x10)
theorem jG (y : LCol) (c0 : LProcedureStatement) (c1 : Int) (r : Bool) (H : ci y c0 c1 = some r) :
  aH Tryz.prog 146 [(.agg (ap y)),(.ptr (aq c0)),(.ptr [(ak c1)])] (az r) := by
 unfold ci at H
 refine PH.aw Tryz.func146 Tryz.ntmps146 ?_
 refine ab (aa (aD ?_))
 refine ag tk rfl (ac (ab (bD tk mok ⟨false,false,[]⟩ [0,1,2,3,4,5,6,7,8] rfl (by decide +kernel) rfl (aO 5 rfl ?_))))
 obtain ⟨x10,k10,H⟩ := bL H
 refine bH k10.1 (aS (fun _=>rfl) k10.2) ?_
 refine aO 3 rfl (bi ?_)
 exact aM tk H rfl
theorem clone_31 {m : Nat} (xs : Rq) : iC Tryz.prog 31 [.list 75 (xs.map aY)] (OwnR m 75 (xs.map aY)) := by
 refine PH.aw Tryz.func31 Tryz.ntmps31 ?_
 refine gO tk 0 rfl rfl (fun hz hb=>?_)
 refine al 1 tk rfl (ab (ab (aa (ag tk rfl ?_))))
 refine oJ tk rfl rfl rfl rfl rfl rfl rfl (fun b hn=>?_)
 refine ac ?_
 refine cS rfl (fun h=>?_) (fun h=>?_)
 ·refine al 1 tk rfl (lO tk 2 902 (e := 75) rfl rfl ?_)
  refine ng tk rfl rfl rfl rfl (hn h).symm
 ·refine ao (ab (aa ?_))
  refine nH (rows' := []) tk rfl rfl rfl rfl rfl rfl rfl rfl rfl (fe.refl _) fun g=>?_
  refine ag tk rfl ?_
  refine cW (rows2' := xs.map aY) (rows' := xs.map aY) tk rfl rfl rfl rfl rfl rfl rfl rfl rfl rfl rfl rfl rfl (fh.refl _) (by simpa using hb) (by simpa using hz) rfl fun g'=>?_
  refine ag tk rfl (ac ?_)
  refine ng tk rfl rfl rfl rfl rfl
def cE (n : Int) : Int :=
 (IntKind.i64.wrap ((100 : Int) + n))
theorem iu (n : Int) :
  aH Tryz.prog 13 [(ak n)] (ak (cE n)) := by
 obtain ⟨r,H⟩ : ∃ r,cE n = r := ⟨_,rfl⟩
 rw [H]
 unfold cE at H
 refine PH.aw Tryz.func13 Tryz.ntmps13 ?_
 refine al 1 tk rfl (al 3 tk rfl ?_)
 exact cG tk H rfl
def ec (t : LTable) (name : List UInt8) : Option (Int × Bool) :=
 af (ba t.columns (fun a0=>some (cC a0 name))) fun x10 =>
 some ((if (0 : Int) > x10 then (0 : Int) else x10),(decide (x10 ≥ (0 : Int))))
theorem mO (t : LTable) (name : List UInt8) (r : Int × Bool) (H : ec t name = some r) :
  aH Tryz.prog 80 [(.agg (bu t)),(.str name)] (.tup [(ak r.1),(az r.2)]) := by
 unfold ec at H
 refine PH.aw Tryz.func80 Tryz.ntmps80 ?_
 refine ab (aa (aD ?_))
 refine aD ?_
 refine ae 2 tk rfl (ac (ab (aa (ae 3 tk rfl ?_))))
 obtain ⟨x10,h10,H⟩ := ay H
 have s10 := de t.columns (fun a0=>some (cC a0 name)) Tryz.call130 (fun a0 r h=>(ax h) ▸ lW a0 name) _ h10
 refine am Tryz.call129 (fW.r) s10 ?_
 refine ag tk rfl (ac (al 6 tk rfl ?_))
 exact aM tk H rfl
def dM (sA : LSchema) (name : List UInt8) : Option (Int × Bool) :=
 af (bG sA.tables (fun a0=>some (ca a0 name))) fun x10 =>
 some ((if (0 : Int) > x10 then (0 : Int) else x10),(decide (x10 ≥ (0 : Int))))
theorem ia (sA : LSchema) (name : List UInt8) (r : Int × Bool) (H : dM sA name = some r) :
  aH Tryz.prog 81 [(.agg (bK sA)),(.str name)] (.tup [(ak r.1),(az r.2)]) := by
 unfold dM at H
 refine PH.aw Tryz.func81 Tryz.ntmps81 ?_
 refine ab (aa (aD ?_))
 refine aD ?_
 refine ae 2 tk rfl (ac (ab (aa (ae 3 tk rfl ?_))))
 obtain ⟨x10,h10,H⟩ := ay H
 have s10 := du sA.tables (fun a0=>some (ca a0 name)) Tryz.call132 (fun a0 r h=>(ax h) ▸ mq a0 name) _ h10
 refine am Tryz.call131 (fW.r) s10 ?_
 refine ag tk rfl (ac (al 6 tk rfl ?_))
 exact aM tk H rfl
def et (a : LForeignKey) (b : LForeignKey) : Option (Bool) :=
 cond (a.table == b.table)
  (af (dU a.columns b.columns) fun x15 =>
  cond x15
   (some (a.refTable == b.refTable))
   (some false))
  (some false)
theorem jW (a : LForeignKey) (b : LForeignKey) (r : Bool) (H : et a b = some r) :
  aH Tryz.prog 58 [(.agg (ft a)),(.agg (ft b))] (az r) := by
 unfold et at H
 refine PH.aw Tryz.func58 Tryz.ntmps58 ?_
 refine ab (aa (aD ?_))
 refine aD ?_
 refine ag tk rfl (ac (ab (aa (ae 6 tk rfl ?_))))
 refine aR rfl rfl rfl H (fun H=>?_) (fun H=>?_)
 ·refine ae 4 tk rfl ?_
  obtain ⟨x15,h15,H⟩ := ay H
  have s15 := lh a.columns b.columns _ h15
  refine am Tryz.call83 (fW.r) s15 ?_
  refine ae 2 tk rfl ?_
  refine aR rfl rfl rfl H (fun H=>?_) (fun H=>?_)
  ·refine ae 7 tk rfl (ac ?_)
   exact aM tk H rfl
  refine ae 7 tk rfl (ac ?_)
  exact aM tk H rfl
 refine ae 14 tk rfl (ac ?_)
 exact aM tk H rfl
def br (sA : List LForeignKey) (f : LForeignKey → Option (Bool)) : Option (Bool) :=
 af (bS sA f) fun x7 =>
 some (decide (x7 ≥ (0 : Int)))
theorem fg {g_f : FuncId} {caps_f : List PV} (sA : List LForeignKey) (f : LForeignKey → Option (Bool)) (hg_f : ∀ (vs : Array Value) (w : World),(callFunc g_f vs).run Tryz.prog w = .ok (.enter g_f vs) w) (hp_f : ∀ a0 r,f a0 = some r → aH Tryz.prog g_f ((.agg (ft a0)) :: caps_f) (az r)) (r : Bool) (H : br sA f = some r) :
  aH Tryz.prog 56 [(.list 131 (sA.map ft)),(.fn g_f caps_f)] (az r) := by
 unfold br at H
 refine PH.aw Tryz.func56 Tryz.ntmps56 ?_
 refine al 1 tk rfl (ab (aa (ae 2 tk rfl ?_)))
 obtain ⟨x7,h7,H⟩ := ay H
 have s7 := fA sA f hg_f hp_f _ h7
 refine am Tryz.call82 (fW.r) s7 ?_
 refine ae 2 tk rfl (ac ?_)
 exact aM tk H rfl
def gq (a : List UInt8) (b : List UInt8) : Int :=
 letP (dr a b) fun x7 =>
 x7
theorem nN (a : List UInt8) (b : List UInt8) :
  aH Tryz.prog 125 [(.str a),(.str b)] (ak (gq a b)) := by
 obtain ⟨r,H⟩ : ∃ r,gq a b = r := ⟨_,rfl⟩
 rw [H]
 unfold gq at H
 refine PH.aw Tryz.func125 Tryz.ntmps125 ?_
 refine al 1 tk rfl (ab (aa (ae 2 tk rfl ?_)))
 obtain ⟨x7,h7,H⟩ := eh H
 have s7 := iF a b
 rw [h7] at s7
 refine am Tryz.call176 (fW.r) s7 ?_
 refine ag tk rfl (ac ?_)
 exact cG tk H rfl
def bB (sA : List LConstraint) (v : LConstraint) : Option (Bool) :=
 af (bW sA v) fun x7 =>
 some (decide (x7 ≥ (0 : Int)))
theorem fF (sA : List LConstraint) (v : LConstraint) (r : Bool) (H : bB sA v = some r) :
  aH Tryz.prog 60 [(.list 137 (sA.map gp)),(.agg (gp v))] (az r) := by
 unfold bB at H
 refine PH.aw Tryz.func60 Tryz.ntmps60 ?_
 refine ab (aa (aD ?_))
 refine ag tk rfl (ac (ab (aa (ae 2 tk rfl ?_))))
 obtain ⟨x7,h7,H⟩ := ay H
 have s7 := fU sA v _ h7
 refine am Tryz.call85 (fW.r) s7 ?_
 refine ae 2 tk rfl (ac ?_)
 exact aM tk H rfl
def cO (t : LTable) (row : Rq) : Option (Int) :=
 cond ((row.length : Int) != (t.columns.length : Int))
  (some 3)
  (af (aF (σ := Unit) (ρ := (Int)) (fun (j1 : Nat) (x1 : LVal) (_ : Unit) =>
   letP (co x1) fun x22 =>
   cond (x22 != (0 : Int))
    (some (.ret x22))
    (af (
     cond (x1.kind == (0 : Int))
      (af (aN t.columns (j1 : Int)) fun (x33 : LCol) =>
      some (!x33.nullable))
      (some false)) fun (t3 : Bool) =>
    cond t3
     (some (.ret 8))
     (cond (x1.kind != (0 : Int))
      (af (aN t.columns (j1 : Int)) fun (x47 : LCol) =>
      cond (x1.kind != x47.kind)
       (some (.ret 7))
       (some (.next ())))
      (some (.next ()))))) 0 row ()) fun fl1=>fl1.thenR fun (_ : Unit) =>
  some 0)
theorem lx (t : LTable) (row : Rq) (r : Int) (H : cO t row = some r) :
  aH Tryz.prog 49 [(.agg (bu t)),(.list 75 (row.map aY))] (ak r) := by
 unfold cO at H
 refine PH.aw Tryz.func49 Tryz.ntmps49 ?_
 refine ab (aa (aD ?_))
 refine ag tk rfl (ac (ab (ab (aa (ag tk rfl (av tk (zl _) ?_))))))
 refine ae 2 tk rfl (av tk (zl _) ?_)
 refine ag tk rfl (ac ?_)
 refine aA rfl H (fun H=>?_) (fun H=>?_)
 ·refine al 1 tk rfl ?_
  exact aM tk H rfl
 refine ao (ab (ab (aa (ag tk rfl (av tk (zl _) ?_)))))
 refine ag tk rfl (ac ?_)
 refine dZ tk 16 15 14 (fun s1 g1=>upd (fun _=>.any) 2 (.ptr (bu t))) nB nO () H (fun fl1 Hp1 j1 s1 g1 hz1 hl1 x1 fb1 hx1 H hg1=>?_) (fun s1 g1 H=>?_)
 ·refine ab (aC (ab (aa (ag tk rfl ?_))))
  refine aX tk (zn j1) (bp (fun _=>rfl) hx1) ?_
  refine ag tk rfl ?_
  refine bd tk fun b6=>?_
  refine ag tk rfl (aE tk ?_)
  refine ac (ab (ab (aa (aB tk ?_))))
  obtain ⟨x22,h22,H⟩ := eh H
  have s22 := kS x1
  rw [h22] at s22
  refine am Tryz.call75 (fW.r) s22 ?_
  refine ag tk rfl (ac (al 2 tk rfl ?_))
  refine aA rfl H (fun H=>?_) (fun H=>?_)
  ·refine al 2 tk rfl ?_
   obtain rfl := ax H
   have e1 : fl1 = .ret _ := hg1
   subst e1
   obtain rfl := aG Hp1
   refine aL tk rfl (ps := [(ak x22)]) ⟨_,_,rfl,rfl,rfl⟩ (PLe.q rfl)
  refine ao (ab (ab ?_))
  refine eg (γ := Unit) (fun t3 g3=>⟨53,upd (upd (upd (upd (upd (upd (upd (fun _=>.any) 37 (az t3)) 16 (ak (j1 : Int))) 15 (ak (row.length : Int))) 14 (.list 75 (row.map aY))) 6 (.box 6 b6 0)) 5 (ak (j1 : Int))) 2 (.ptr (bu t)),upd (fun _=>none) 6 (some ⟨b6,(aY x1)⟩),fun _=>none⟩) H (fun _ H=>?_) (fun t3 g3 H=>?_)
  ·refine aa (ag tk rfl (aB tk ?_))
   refine ae 2 tk rfl ?_
   refine aR rfl rfl rfl H (fun H=>?_) (fun H=>?_)
   ·refine ae 3 tk rfl ?_
    obtain ⟨x33,k33,H⟩ := bL H
    refine aX tk k33.1 (aS (fun _=>rfl) k33.2) ?_
    refine ae 4 tk rfl (ac ?_)
    refine aK _ () (ax H) Gh.d
   refine ae 8 tk rfl (ac ?_)
   refine aK _ () (ax H) Gh.d
  refine aA rfl H (fun H=>?_) (fun H=>?_)
  ·refine al 1 tk rfl ?_
   obtain rfl := ax H
   have e1 : fl1 = .ret _ := hg1
   subst e1
   obtain rfl := aG Hp1
   refine aL tk rfl (ps := [(ak 8)]) ⟨_,_,rfl,rfl,rfl⟩ (PLe.q rfl)
  refine ao (ab (bD tk mok ⟨true,false,[45,49]⟩ [0,1,2,3,4,5,6,7,8,9,10,11,12,13] rfl (by decide +kernel) rfl (bY rfl (bE ?_))))
  refine aO 2 rfl ?_
  refine iU H (fun H=>?_) (fun H=>?_)
  ·refine bY rfl (bE ?_)
   refine aO 3 rfl ?_
   obtain ⟨x47,k47,H⟩ := bL H
   refine bH k47.1 (aS (fun _=>rfl) k47.2) ?_
   refine aO 4 rfl (bi ?_)
   refine aA rfl H (fun H=>?_) (fun H=>?_)
   ·refine al 1 tk rfl ?_
    obtain rfl := ax H
    have e1 : fl1 = .ret _ := hg1
    subst e1
    obtain rfl := aG Hp1
    refine aL tk rfl (ps := [(ak 7)]) ⟨_,_,rfl,rfl,rfl⟩ (PLe.q rfl)
   refine ao (aP (bm 2 tk rfl ?_))
   exact bv () H hl1 hg1
  refine aO 10 rfl (bi (cQ rfl (ao (aP (bm 2 tk rfl ?_)))))
  exact bv () H hl1 hg1
 refine al 1 tk rfl ?_
 exact aM tk H rfl
def bU (sA : List Int) (v : Int) : Option (Bool) :=
 af (eN sA v) fun x7 =>
 some (decide (x7 ≥ (0 : Int)))
theorem fm (sA : List Int) (v : Int) (r : Bool) (H : bU sA v = some r) :
  aH Tryz.prog 15 [(.list 3 (sA.map aZ)),(ak v)] (az r) := by
 unfold bU at H
 refine PH.aw Tryz.func15 Tryz.ntmps15 ?_
 refine al 1 tk rfl (ab (aa (ae 2 tk rfl ?_)))
 obtain ⟨x7,h7,H⟩ := ay H
 have s7 := lf sA v _ h7
 refine am Tryz.call35 (fW.r) s7 ?_
 refine ae 2 tk rfl (ac ?_)
 exact aM tk H rfl
def dA (q : LQuery) : Option ((List Int) × Int) :=
 af (fR q) fun x18 =>
 af (aF (σ := List Int × Bool × List Bool) (ρ := Empty) (fun (_ : Nat) (x1 : LQuery) (s1 : List Int × Bool × List Bool) =>
  af (aF (σ := List Int × Bool × List Bool) (ρ := Empty) (fun (_ : Nat) (x12 : LExpr) (s12 : List Int × Bool × List Bool) =>
   af (dN x12 s12.1 s12.2.1 s12.2.2) fun x33 =>
   some (.next (x33.1,x33.2.1,x33.2.2))) 0 x1.exprs (s1.1,s1.2.1,s1.2.2)) fun fl12=>fl12.thenP fun (s12 : List Int × Bool × List Bool) =>
  af (aF (σ := List Int × Bool × List Bool) (ρ := Empty) (fun (_ : Nat) (x13 : LAggregateCall) (s13 : List Int × Bool × List Bool) =>
   af (aF (σ := List Int × Bool × List Bool) (ρ := Empty) (fun (_ : Nat) (x16 : LExpr) (s16 : List Int × Bool × List Bool) =>
    af (dN x16 s16.1 s16.2.1 s16.2.2) fun x51 =>
    some (.next (x51.1,x51.2.1,x51.2.2))) 0 x13.args (s13.1,s13.2.1,s13.2.2)) fun fl16=>fl16.thenP fun (s16 : List Int × Bool × List Bool) =>
   some (.next (s16.1,s16.2.1,s16.2.2))) 0 x1.aggregates (s12.1,s12.2.1,s12.2.2)) fun fl13=>fl13.thenP fun (s13 : List Int × Bool × List Bool) =>
  some (.next (s13.1,s13.2.1,s13.2.2))) 0 x18 ([],false,(List.replicate 8 false))) fun fl1=>fl1.thenP fun (s1 : List Int × Bool × List Bool) =>
 cond s1.2.1
  (some ([],13))
  (some (s1.1,0))
theorem ix (q : LQuery) (r : (List Int) × Int) (H : dA q = some r) :
  aH Tryz.prog 14 [(.agg (aU q))] (.tup [(.list 3 (r.1.map aZ)),(ak r.2)]) := by
 unfold dA at H
 refine PH.aw Tryz.func14 Tryz.ntmps14 ?_
 refine ab (aa (aD ?_))
 refine ae 2 tk rfl (ac (ab (aa ?_)))
 refine bd tk fun b4=>?_
 refine ac (ab (aa ?_))
 refine bd tk fun b5=>?_
 refine ac (ab (aa ?_))
 refine bd tk fun b6=>?_
 refine aE tk ?_
 refine ac (ab (aa ?_))
 refine bd tk fun b7=>?_
 refine ac (ab (aa (ag tk rfl (aE tk ?_))))
 refine ac (ab (ab (aa (ag tk rfl ?_))))
 obtain ⟨x18,h18,H⟩ := ay H
 have s18 := mJ (m := 18) q _ h18
 refine am Tryz.call34 (fW.r) (aH.of_own s18) ?_
 refine av tk (zl _) ?_
 refine ag tk rfl (ac ?_)
 obtain ⟨fl1,H1,Hp1⟩ := ay H
 refine gO tk 18 rfl rfl (fun hz1 _=>?_)
 rw [zl] at hz1
 refine io (τ := List Int × Bool × List Bool) (γ := OwnRef) (fun s1 g1=>⟨57,upd (upd (fun _=>.any) 6 (.box 6 b6 0)) 4 (.box 4 b4 0),upd (upd (fun _=>none) 6 (some ⟨b6,[(az s1.2.1)]⟩)) 4 (some ⟨b4,[(.own 1204 g1 (s1.1.map aZ).length)]⟩),upd (fun _=>none) 1204 (some ⟨g1,3,(s1.1.map aZ),true⟩)⟩) (fun t=>fl1 = .next t) ?_ (fun s1 g1 hn1=>?_)
 ·refine aC (oM tk 4 0 1204 (e := 3) rfl rfl rfl rfl ?_)
  refine iI (fun j1 s1 g1=>⟨57,upd (upd (upd (upd (upd (upd (fun _=>.any) 20 (ak (j1 : Int))) 19 (ak (x18.length : Int))) 18 (.list 35 (x18.map bI))) 7 (.box 7 b7 0)) 6 (.box 6 b6 0)) 4 (.box 4 b4 0),upd (upd (upd (upd (fun _=>none) 7 (some ⟨b7,[(.fn 33 [(.box 4 b4 0),(.box 6 b6 0),(.box 5 b5 0),(.box 7 b7 0)])]⟩)) 6 (some ⟨b6,[(az s1.2.1)]⟩)) 5 (some ⟨b5,(List.map az s1.2.2)⟩)) 4 (some ⟨b4,[(.own 1204 g1 (s1.1.map aZ).length)]⟩),upd (fun _=>none) 1204 (some ⟨g1,3,(s1.1.map aZ),true⟩)⟩) (⟨none,0⟩) H1 Gh.d (fun j1 s1 g1 hj1 hr1=>?_)
  refine al 1 tk rfl (ab ?_)
  refine cS rfl (fun h=>?_) (fun h=>?_)
  ·have hl1 := rowsLt h
   obtain ⟨x1,fb1,hx1,H,hg1⟩ := rMc hl1 hr1
   refine ao (ab (aC (ab (aa (aX tk (zn j1) (bp dz hx1) ?_)))))
   refine ag tk rfl ?_
   refine bd tk fun b9=>?_
   refine aE tk ?_
   refine ac (ab (ab (aa (ag tk rfl (aB tk ?_)))))
   refine av tk (zl _) ?_
   refine ag tk rfl (ac ?_)
   refine iq (γ := OwnRef) tk 27 26 25 (fun s12 g12=>upd (upd (upd (upd (upd (upd (upd (fun _=>.any) 20 (ak (j1 : Int))) 19 (ak (x18.length : Int))) 18 (.list 35 (x18.map bI))) 9 (.box 9 b9 0)) 7 (.box 7 b7 0)) 6 (.box 6 b6 0)) 4 (.box 4 b4 0)) (fun s12 g12=>upd (upd (upd (upd (upd (fun _=>none) 9 (some ⟨b9,(aU x1)⟩)) 7 (some ⟨b7,[(.fn 33 [(.box 4 b4 0),(.box 6 b6 0),(.box 5 b5 0),(.box 7 b7 0)])]⟩)) 6 (some ⟨b6,[(az s12.2.1)]⟩)) 5 (some ⟨b5,(List.map az s12.2.2)⟩)) 4 (some ⟨b4,[(.own 1204 g12 (s12.1.map aZ).length)]⟩)) (fun s12 g12=>upd (fun _=>none) 1204 (some ⟨g12,3,(s12.1.map aZ),true⟩)) g1 H (fun fl12 Hp12 j12 s12 g12 hz12 hl12 x12 fb12 hx12 H hg12=>?_) (fun s12 g12 H=>?_)
   ·refine ab (aC (ab (aa (aX tk (zn j12) (bp cv hx12) ?_))))
    refine ag tk rfl ?_
    refine bd tk fun b11=>?_
    refine aE tk ?_
    refine ac (aa (aB tk ?_))
    refine aB tk ?_
    obtain ⟨x33,h33,H⟩ := ay H
    have s33 := il b4 g12 b6 b5 b7 x12 s12.1 s12.2.1 s12.2.2 _ h33
    refine gn (st' := ⟨_,_,upd (upd (upd (upd (upd (upd (fun _=>none) 11 (some ⟨b11,(fj x12)⟩)) 9 (some ⟨b9,(aU x1)⟩)) 7 (some ⟨b7,[(.fn 33 [(.box 1000 b4 0),(.box 1001 b6 0),(.box 1002 b5 0),(.box 1003 b7 0)])]⟩)) 6 (some ⟨b6,[(az s12.2.1)]⟩)) 5 (some ⟨b5,(List.map az s12.2.2)⟩)) 4 (some ⟨b4,[(.own 1100 g12 (s12.1.map aZ).length)]⟩),upd (fun _=>none) 1204 (some ⟨g12,3,(s12.1.map aZ),true⟩)⟩) (Gh.le (fE _ _) (aT rfl (fW.of2 (fe.cons (PLe2.own rfl) fe.nil)) (aT rfl (fW.r) (aT rfl (fW.r) (aT rfl (fW.of2 (fe.cons (PLe2.fn (fe.cons PLe2.boxT (fe.cons PLe2.boxT (fe.cons PLe2.boxT (fe.cons PLe2.boxT fe.nil))))) fe.nil)) (aT rfl (fW.r) (aT rfl (fW.r) bf)))))) (eu be)) ?_
    refine iG (g := 33) rfl rfl rfl Tryz.call33 [(4,1000),(6,1001),(5,1002),(7,1003)] [(1204,1100)] rfl rfl rfl rfl (fW.of2 (fe.cons (PLe2.of_eq rfl) (fe.cons PLe2.boxT (fe.cons PLe2.boxT (fe.cons PLe2.boxT (fe.cons PLe2.boxT fe.nil)))))) (by rw [dF,dF,dF,dF,hJ,jd,hC]; rfl) s33 ?_
    rintro u33 H33h ⟨gz33_0,rfl,rfl⟩
    refine ⟨_,rfl,?_⟩
    refine gn (st' := ⟨_,_,upd (upd (upd (upd (upd (upd (fun _=>none) 11 (some ⟨b11,(fj x12)⟩)) 9 (some ⟨b9,(aU x1)⟩)) 7 (some ⟨b7,[(.fn 33 [(.box 4 b4 0),(.box 6 b6 0),(.box 5 b5 0),(.box 7 b7 0)])]⟩)) 6 (some ⟨b6,[(az x33.2.1)]⟩)) 5 (some ⟨b5,(List.map az x33.2.2)⟩)) 4 (some ⟨b4,[(.own 1204 gz33_0 (x33.1.map aZ).length)]⟩),upd (fun _=>none) 1204 (some ⟨gz33_0,3,(x33.1.map aZ),true⟩)⟩) (Gh.le (fE _ _) (aT rfl (fW.of2 (fe.cons (PLe2.own rfl) fe.nil)) (aT rfl (fW.r) (aT rfl (fW.r) (aT rfl (fW.of2 (fe.cons (PLe2.fn (fe.cons PLe2.boxT (fe.cons PLe2.boxT (fe.cons PLe2.boxT (fe.cons PLe2.boxT fe.nil))))) fe.nil)) (aT rfl (fW.r) (aT rfl (fW.r) bf)))))) (eu be)) ?_
    refine ac (aP (bm 2 tk rfl ?_))
    exact bv gz33_0 H hl12 hg12
   refine ab (aa (ag tk rfl (aB tk ?_)))
   refine av tk (zl _) ?_
   refine ag tk rfl (ac ?_)
   refine iq (γ := OwnRef) tk 38 37 36 (fun s13 g13=>upd (upd (upd (upd (upd (upd (fun _=>.any) 20 (ak (j1 : Int))) 19 (ak (x18.length : Int))) 18 (.list 35 (x18.map bI))) 7 (.box 7 b7 0)) 6 (.box 6 b6 0)) 4 (.box 4 b4 0)) (fun s13 g13=>upd (upd (upd (upd (fun _=>none) 7 (some ⟨b7,[(.fn 33 [(.box 4 b4 0),(.box 6 b6 0),(.box 5 b5 0),(.box 7 b7 0)])]⟩)) 6 (some ⟨b6,[(az s13.2.1)]⟩)) 5 (some ⟨b5,(List.map az s13.2.2)⟩)) 4 (some ⟨b4,[(.own 1204 g13 (s13.1.map aZ).length)]⟩)) (fun s13 g13=>upd (fun _=>none) 1204 (some ⟨g13,3,(s13.1.map aZ),true⟩)) g12 H (fun fl13 Hp13 j13 s13 g13 hz13 hl13 x13 fb13 hx13 H hg13=>?_) (fun s13 g13 H=>?_)
   ·refine ab (aC (ab (aa ?_)))
    refine aX tk (zn j13) (bp (fun _=>rfl) hx13) ?_
    refine ag tk rfl ?_
    refine bd tk fun b13=>?_
    refine aE tk ?_
    refine ac (ab (aa (ag tk rfl (aB tk ?_))))
    refine av tk (zl _) ?_
    refine ag tk rfl (ac ?_)
    refine iq (γ := OwnRef) tk 45 44 43 (fun s16 g16=>upd (upd (upd (upd (upd (upd (upd (upd (upd (fun _=>.any) 38 (ak (j13 : Int))) 37 (ak (x1.aggregates.length : Int))) 36 (.list 107 (x1.aggregates.map iS))) 20 (ak (j1 : Int))) 19 (ak (x18.length : Int))) 18 (.list 35 (x18.map bI))) 7 (.box 7 b7 0)) 6 (.box 6 b6 0)) 4 (.box 4 b4 0)) (fun s16 g16=>upd (upd (upd (upd (fun _=>none) 7 (some ⟨b7,[(.fn 33 [(.box 4 b4 0),(.box 6 b6 0),(.box 5 b5 0),(.box 7 b7 0)])]⟩)) 6 (some ⟨b6,[(az s16.2.1)]⟩)) 5 (some ⟨b5,(List.map az s16.2.2)⟩)) 4 (some ⟨b4,[(.own 1204 g16 (s16.1.map aZ).length)]⟩)) (fun s16 g16=>upd (fun _=>none) 1204 (some ⟨g16,3,(s16.1.map aZ),true⟩)) g13 H (fun fl16 Hp16 j16 s16 g16 hz16 hl16 x16 fb16 hx16 H hg16=>?_) (fun s16 g16 H=>?_)
    ·refine ab (aC (ab (aa (aX tk (zn j16) (bp cv hx16) ?_))))
     refine ag tk rfl ?_
     refine bd tk fun b15=>?_
     refine aE tk ?_
     refine ac (aa (aB tk ?_))
     refine aB tk ?_
     obtain ⟨x51,h51,H⟩ := ay H
     have s51 := il b4 g16 b6 b5 b7 x16 s16.1 s16.2.1 s16.2.2 _ h51
     refine gn (st' := ⟨_,_,upd (upd (upd (upd (upd (fun _=>none) 15 (some ⟨b15,(fj x16)⟩)) 7 (some ⟨b7,[(.fn 33 [(.box 1000 b4 0),(.box 1001 b6 0),(.box 1002 b5 0),(.box 1003 b7 0)])]⟩)) 6 (some ⟨b6,[(az s16.2.1)]⟩)) 5 (some ⟨b5,(List.map az s16.2.2)⟩)) 4 (some ⟨b4,[(.own 1100 g16 (s16.1.map aZ).length)]⟩),upd (fun _=>none) 1204 (some ⟨g16,3,(s16.1.map aZ),true⟩)⟩) (Gh.le (fE _ _) (aT rfl (fW.of2 (fe.cons (PLe2.own rfl) fe.nil)) (aT rfl (fW.r) (aT rfl (fW.r) (aT rfl (fW.of2 (fe.cons (PLe2.fn (fe.cons PLe2.boxT (fe.cons PLe2.boxT (fe.cons PLe2.boxT (fe.cons PLe2.boxT fe.nil))))) fe.nil)) (aT rfl (fW.r) bf))))) (eu be)) ?_
     refine iG (g := 33) rfl rfl rfl Tryz.call33 [(4,1000),(6,1001),(5,1002),(7,1003)] [(1204,1100)] rfl rfl rfl rfl (fW.of2 (fe.cons (PLe2.of_eq rfl) (fe.cons PLe2.boxT (fe.cons PLe2.boxT (fe.cons PLe2.boxT (fe.cons PLe2.boxT fe.nil)))))) (by rw [dF,dF,dF,dF,hJ,jd,hC]; rfl) s51 ?_
     rintro u51 H51h ⟨gz51_0,rfl,rfl⟩
     refine ⟨_,rfl,?_⟩
     refine gn (st' := ⟨_,_,upd (upd (upd (upd (upd (fun _=>none) 15 (some ⟨b15,(fj x16)⟩)) 7 (some ⟨b7,[(.fn 33 [(.box 4 b4 0),(.box 6 b6 0),(.box 5 b5 0),(.box 7 b7 0)])]⟩)) 6 (some ⟨b6,[(az x51.2.1)]⟩)) 5 (some ⟨b5,(List.map az x51.2.2)⟩)) 4 (some ⟨b4,[(.own 1204 gz51_0 (x51.1.map aZ).length)]⟩),upd (fun _=>none) 1204 (some ⟨gz51_0,3,(x51.1.map aZ),true⟩)⟩) (Gh.le (fE _ _) (aT rfl (fW.of2 (fe.cons (PLe2.own rfl) fe.nil)) (aT rfl (fW.r) (aT rfl (fW.r) (aT rfl (fW.of2 (fe.cons (PLe2.fn (fe.cons PLe2.boxT (fe.cons PLe2.boxT (fe.cons PLe2.boxT (fe.cons PLe2.boxT fe.nil))))) fe.nil)) (aT rfl (fW.r) bf))))) (eu be)) ?_
     refine ac (aP (bm 2 tk rfl ?_))
     exact bv gz51_0 H hl16 hg16
    refine aP (bm 2 tk rfl ?_)
    exact bv g16 H hl13 hg13
   refine aP (bm 2 tk rfl ?_)
   exact bv g13 H hl1 hg1
  have hn1 := rMd (rowsGe h) hr1
  refine cT rfl ?_
  refine aK s1 g1 hn1 Gh.d
 have H := mg hn1 Hp1
 refine ab (ab (aa (aB tk ?_)))
 refine ac ?_
 refine aA rfl H (fun H=>?_) (fun H=>?_)
 ·refine al 2 tk rfl ?_
  obtain rfl := ax H
  refine aL tk rfl (ps := [(.val (.slice none 0 0)),(ak 13)]) ⟨_,_,rfl,rfl,_,_,rfl,rfl,rfl⟩ (PLe.of2 (PLe2.tup (fe.cons (PLe2.nil tk rfl) (fe.cons (PLe2.of_eq rfl) fe.nil))))
 refine ao (ab (aa (aB tk ?_)))
 refine ae 2 tk rfl (ac (gG 2 rfl rfl rfl ?_))
 exact aM tk H rfl
def bP (sA : List LCol) (del : LCol → Option (Bool)) : Option (List LCol) :=
 af (bO sA del) fun x10 =>
 af (lE (x10.2.length = sA.length) ()) fun (_ : Unit) =>
 cond (x10.1 == (-1))
  (some x10.2)
  (af (hP (σ := List LCol × Int × Int) (ρ := Empty) (fun (s1 : List LCol × Int × Int) =>
   cond (decide (s1.2.2 < (s1.1.length : Int)))
    (af (aN s1.1 s1.2.2) fun (x24 : LCol) =>
    af (del x24) fun x28 =>
    cond (!x28)
     (af (aN s1.1 s1.2.1) fun (_ : LCol) =>
     letP (s1.1.set s1.2.1.toNat x24) fun (y4 : List LCol) =>
     some (.next (y4,(IntKind.i64.wrap (s1.2.1 + (1 : Int))),(IntKind.i64.wrap (s1.2.2 + (1 : Int))))))
     (some (.next (s1.1,s1.2.1,(IntKind.i64.wrap (s1.2.2 + (1 : Int)))))))
    (some (.brk (s1.1,s1.2.1,s1.2.2)))) (x10.2,x10.1,(IntKind.i64.wrap (x10.1 + (1 : Int))))) fun fl1=>fl1.thenP fun (s1 : List LCol × Int × Int) =>
  af (cutI s1.1 s1.2.1) fun (y5 : List LCol) =>
  af (cutI y5 s1.2.1) fun (y6 : List LCol) =>
  some y6)
theorem gw (g_sA : OwnRef) {g_del : FuncId} {caps_del : List PV} (sA : List LCol) (del : LCol → Option (Bool)) (hg_del : ∀ (vs : Array Value) (w : World),(callFunc g_del vs).run Tryz.prog w = .ok (.enter g_del vs) w) (hp_del : ∀ a0 r,del a0 = some r → aH Tryz.prog g_del ((.agg (ap a0)) :: caps_del) (az r)) (r : List LCol) (H : bP sA del = some r) :
  PH Tryz.prog 143 [(.own 0 g_sA (sA.map ap).length),(.fn g_del caps_del)] ⟨fun _=>none,upd (fun _=>none) 0 (some ⟨g_sA,70,(sA.map ap),true⟩)⟩ (fun u H=>u = .own 0 g_sA (r.map ap).length ∧ H = ⟨fun _=>none,upd (fun _=>none) 0 (some ⟨g_sA,70,(r.map ap),true⟩)⟩) := by
 unfold bP at H
 refine PH.aw Tryz.func143 Tryz.ntmps143 ?_
 refine al 1 tk rfl (ab (aa (ae 2 tk rfl ?_)))
 obtain ⟨x10,h10,H⟩ := ay H
 have s10 := gk g_sA sA del hg_del hp_del _ h10
 obtain ⟨_,q10_0,H⟩ := ay H
 have l10_0 := (oc q10_0).1
 have z10_0 : (List.map ap sA).length = (List.map ap x10.2).length := by simpa using (l10_0).symm
 refine iG (g := 129) rfl rfl rfl Tryz.call129 [] [(0,0)] rfl rfl rfl rfl (fW.of2 (fe.cons (PLe2.own rfl) (fe.cons (PLe2.of_eq rfl) fe.nil))) (by rw [hJ,jd,hC]; rfl) s10 ?_
 rintro u10 H10h ⟨rfl,rfl⟩
 refine ⟨_,rfl,?_⟩
 refine gn (st' := ⟨_,_,fun _=>none,upd (fun _=>none) 0 (some ⟨g_sA,70,(x10.2.map ap),true⟩)⟩) (Gh.le (fE _ _) bf (eu be)) ?_
 refine ag tk rfl (ac (ab (al 2 tk rfl ?_)))
 refine aA rfl H (fun H=>?_) (fun H=>?_)
 ·refine al 2 tk rfl ?_
  obtain rfl := ax H
  refine gA (st' := ⟨42,upd (fun _=>.any) 4 (.own 0 g_sA (sA.map ap).length),fun _=>none,upd (fun _=>none) 0 (some ⟨g_sA,70,(x10.2.map ap),true⟩)⟩) (Gh.le (aI bN) bf (eu be)) ?_
  refine ik tk rfl (ps := [(.own 0 g_sA (sA.map ap).length)]) ⟨_,_,rfl,rfl,rfl⟩ (PLe.of2 (PLe2.own z10_0)) ⟨rfl,rfl⟩
 refine ao (ab (al 3 tk rfl ?_))
 obtain ⟨fl1,H1,Hp1⟩ := ay H
 refine io (τ := List LCol × Int × Int) (γ := Unit) (fun s1 g1=>⟨42,upd (upd (fun _=>.any) 5 (ak s1.2.1)) 0 (.own 0 g_sA (s1.1.map ap).length),fun _=>none,upd (fun _=>none) 0 (some ⟨g_sA,70,(s1.1.map ap),true⟩)⟩) (fun t=>fl1 = .next t) ?_ (fun s1 g1 hn1=>?_)
 ·refine aC ?_
  refine oK (fun s1 g1=>⟨42,upd (upd (upd (upd (fun _=>.any) 6 (ak s1.2.2)) 5 (ak s1.2.1)) 1 (.fn g_del caps_del)) 0 (.own 0 g_sA (s1.1.map ap).length),fun _=>none,upd (fun _=>none) 0 (some ⟨g_sA,70,(s1.1.map ap),true⟩)⟩) () H1 (Gh.le (cp (PLe.of2 (PLe2.of_eq (congrArg (PV.own 0 g_sA) z10_0))) (aI (aI (aI bN)))) bf (eu be)) (fun m1 s1 g1 hr1=>?_)
  obtain ⟨fb1,H,hg1⟩ := iterM_cons hr1
  refine ab (ab (aa (ae 2 tk rfl (ow tk rfl rfl rfl rfl rfl (zl _) rfl (ag tk rfl (ac ?_))))))
  refine aA rfl H (fun H=>?_) (fun H=>?_)
  ·refine ao (ab (aC (ab (aa (ae 2 tk rfl ?_)))))
   obtain ⟨x24,k24,H⟩ := bL H
   refine kD (tag := 0) rfl (fun ho0=>?_)
   refine kH tk rfl rfl rfl rfl rfl rfl rfl ⟨k24.1,(jK k24.2)⟩ (jC ho0 k24.2) rfl ?_
   refine oI tk rfl rfl rfl rfl rfl rfl rfl (aS (fun _=>rfl) k24.2) rfl rfl ?_
   refine bd tk fun b7=>?_
   refine aE tk ?_
   refine ac (ab (aa (ag tk rfl (aB tk ?_))))
   obtain ⟨x28,h28,H⟩ := ay H
   refine am hg_del (fW.r) (hp_del _ _ h28) ?_
   refine ag tk rfl (ac ?_)
   refine aA rfl H (fun H=>?_) (fun H=>?_)
   ·refine ab (aa (ae 2 tk rfl (aB tk ?_)))
    obtain ⟨x33,k33,H⟩ := bL H
    refine kD (tag := 0) rfl (fun ho0=>?_)
    refine kH tk rfl rfl rfl rfl rfl rfl rfl ⟨k33.1,(jK k33.2)⟩ (jC ho0 k33.2) rfl ?_
    obtain ⟨y4,hy4,H⟩ := eh H
    refine lr tk rfl rfl rfl rfl rfl rfl rfl rfl (by rw [zl]; exact (zg.1 k33.2).1) (PLe.refl _ _) rfl rfl rfl rfl (by decide) (jb (fun _=>rfl) k33.2 rfl hy4) ?_
    refine ac (bm 3 tk rfl (aP (bm 3 tk rfl ?_)))
    obtain rfl := ax H
    refine mw (y4,(IntKind.i64.wrap (s1.2.1 + (1 : Int))),(IntKind.i64.wrap (s1.2.2 + (1 : Int)))) () hg1 (Gh.le (cp (PLe.of2 (PLe2.of_eq (congrArg (PV.own 0 g_sA) (lM (f := ap) hy4)))) (aI (aI (aI bN)))) bf (eu be))
   refine ao (aP (bm 3 tk rfl ?_))
   obtain rfl := ax H
   refine mw (s1.1,s1.2.1,(IntKind.i64.wrap (s1.2.2 + (1 : Int)))) () hg1 Gh.d
  refine cT rfl ?_
  obtain rfl := ax H
  refine aK (s1.1,s1.2.1,s1.2.2) () hg1 Gh.d
 have H := mg hn1 Hp1
 refine ab (aa (ae 2 tk rfl ?_))
 obtain ⟨y5,hy5,H⟩ := ay H
 have ky5 := cutI_some hy5
 refine Ao.ownC (tag := 0) rfl (fun hcy5=>?_)
 have hny5 : (s1.1.map ap).length = (List.map ap s1.1).length := rfl
 have hmy5 := ky5.2.1
 rw [← zl (f := ap),← hny5] at hmy5
 rw [← hny5] at hcy5
 refine Ao.subV (l := s1.2.1.toNat) (h := (s1.1.map ap).length) (m := g_sA.cap) tk rfl rfl rfl rfl rfl rfl ⟨_,_,rfl,(Int.toNat_of_nonneg ky5.1).symm⟩ rfl rfl (by decide) hmy5 hcy5 (Nat.le_refl _) rfl (gn (Gh.cutO (tag := 0) (rows' := List.map ap y5) rfl s1.2.1.toNat (by rw [← List.map_take,ky5.2.2])) ?_)
 refine oU (tag := 0) (rows := List.map ap y5) tk rfl rfl rfl rfl rfl rfl rfl rfl rfl (p := s1.2.1.toNat) (q := (s1.1.map ap).length) (m := g_sA.cap) (by rw [zl,ky5.2.2,List.length_take]; exact Nat.min_le_left _ _) hmy5 hcy5 (Nat.le_refl _) rfl ?_
 refine ac (ab (aa (ae 2 tk rfl ?_)))
 obtain ⟨y6,hy6,H⟩ := ay H
 have ky6 := cutI_some hy6
 refine Ao.cutP (rows' := List.map ap y6) tk rfl rfl rfl rfl rfl rfl rfl rfl ⟨ky6.1,by rw [zl]; exact ky6.2.1⟩ (by rw [← List.map_take,ky6.2.2]) rfl rfl ?_
 refine ag tk rfl (ac ?_)
 obtain rfl := ax H
 refine gA (st' := ⟨42,upd (fun _=>.any) 4 (.own 0 g_sA (y6.map ap).length),fun _=>none,upd (fun _=>none) 0 (some ⟨g_sA,70,(y6.map ap),true⟩)⟩) (Gh.le (aI bN) bf (eu be)) ?_
 refine ik tk rfl (ps := [(.own 0 g_sA (y6.map ap).length)]) ⟨_,_,rfl,rfl,rfl⟩ (PLe.of2 (PLe2.own rfl)) ⟨rfl,rfl⟩
def dY (q : LQuery) : Option (Int) :=
 af (iV q) fun x7 =>
 some x7.2
theorem jM (q : LQuery) (r : Int) (H : dY q = some r) :
  aH Tryz.prog 112 [(.agg (aU q))] (ak r) := by
 unfold dY at H
 refine PH.aw Tryz.func112 Tryz.ntmps112 ?_
 refine ab (aa (aD ?_))
 refine ag tk rfl (ac (ab (aa (ag tk rfl ?_))))
 obtain ⟨x7,h7,H⟩ := ay H
 have s7 := W_query_most q _ h7
 refine am Tryz.call159 (fW.r) s7 ?_
 refine ae 5 tk rfl (ac (al 2 tk rfl ?_))
 exact aM tk H rfl
def eT (kind : Int) (a : List LCol) (b : List LCol) : Option ((List LCol) × Int) :=
 cond ((a.length : Int) != (b.length : Int))
  (some ([],7))
  (af (aF (σ := List LCol) (ρ := ((List LCol) × Int)) (fun (j1 : Nat) (x1 : LCol) (s1 : List LCol) =>
   af (aN b (j1 : Int)) fun (x29 : LCol) =>
   cond (x1.kind != x29.kind)
    (some (.ret ([],7)))
    (cond x1.nullable
     (af (aN s1 (j1 : Int)) fun (x51 : LCol) =>
     letP (s1.set ((j1 : Int).toNat) (LCol.mk x51.name x51.kind true)) fun (y8 : List LCol) =>
     some (.next y8))
     (cond (kind == (6 : Int))
      (af (aN b (j1 : Int)) fun (x46 : LCol) =>
      af (aN s1 (j1 : Int)) fun (x51 : LCol) =>
      letP (s1.set ((j1 : Int).toNat) (LCol.mk x51.name x51.kind x46.nullable)) fun (y9 : List LCol) =>
      some (.next y9))
      (af (aN s1 (j1 : Int)) fun (x51 : LCol) =>
      letP (s1.set ((j1 : Int).toNat) (LCol.mk x51.name x51.kind false)) fun (y10 : List LCol) =>
      some (.next y10))))) 0 a a) fun fl1=>fl1.thenR fun (s1 : List LCol) =>
  some (s1,0))
theorem mR (kind : Int) (a : List LCol) (b : List LCol) (r : (List LCol) × Int) (H : eT kind a b = some r) :
  aH Tryz.prog 196 [(ak kind),(.list 70 (a.map ap)),(.list 70 (b.map ap))] (.tup [(.list 70 (r.1.map ap)),(ak r.2)]) := by
 unfold eT at H
 refine PH.aw Tryz.func196 Tryz.ntmps196 ?_
 refine al 2 tk rfl (ab (ab (aa (ag tk rfl (av tk (zl _) ?_)))))
 refine ag tk rfl (av tk (zl _) ?_)
 refine ag tk rfl (ac ?_)
 refine aA rfl H (fun H=>?_) (fun H=>?_)
 ·refine al 2 tk rfl ?_
  obtain rfl := ax H
  refine aL tk rfl (ps := [(.val (.slice none 0 0)),(ak 7)]) ⟨_,_,rfl,rfl,_,_,rfl,rfl,rfl⟩ (PLe.of2 (PLe2.tup (fe.cons (PLe2.nil tk rfl) (fe.cons (PLe2.of_eq rfl) fe.nil))))
 refine ao (ab (aa (ag tk rfl ?_)))
 have s16 := lj (m := 16) a
 refine og (g := 136) rfl rfl rfl Tryz.call136 (fW.r) rfl rfl s16 (fun g16=>?_)
 refine ag tk rfl (ac (ab (ab (aa (ag tk rfl (av tk (zl _) ?_))))))
 refine ag tk rfl (ac ?_)
 refine dZ (γ := OwnRef) tk 19 18 1 (fun s1 g1=>upd (upd (upd (fun _=>.any) 8 (.own 16 g1 (s1.map ap).length)) 2 (.list 70 (b.map ap))) 0 (ak kind)) nB (fun s1 g1=>upd (fun _=>none) 16 (some ⟨g1,70,(s1.map ap),true⟩)) g16 H (fun fl1 Hp1 j1 s1 g1 hz1 hl1 x1 fb1 hx1 H hg1=>?_) (fun s1 g1 H=>?_)
 ·refine ab (aC (al 2 tk rfl (ab (ab ?_))))
  refine oG (tag := 16) rfl (fun ho16=>?_)
  refine bD tk mok ⟨false,false,[]⟩ [0,1,2,3,4,5,6,7,8,9,10] rfl (by decide +kernel) rfl (aO 2 rfl ?_)
  refine bH (zn j1) (bp (fun _=>rfl) hx1) ?_
  refine aO 4 rfl ?_
  obtain ⟨x29,k29,H⟩ := bL H
  refine bH k29.1 (aS (fun _=>rfl) k29.2) ?_
  refine aO 3 rfl (bi ?_)
  refine aA rfl H (fun H=>?_) (fun H=>?_)
  ·refine al 2 tk rfl ?_
   obtain rfl := ax H
   have e1 : fl1 = .ret _ := hg1
   subst e1
   obtain rfl := aG Hp1
   refine aL tk rfl (ps := [(.val (.slice none 0 0)),(ak 7)]) ⟨_,_,rfl,rfl,_,_,rfl,rfl,rfl⟩ (PLe.of2 (PLe2.tup (fe.cons (PLe2.nil tk rfl) (fe.cons (PLe2.of_eq rfl) fe.nil))))
  refine ao (aa (ae 4 tk rfl ?_))
  refine aX tk (zn j1) (bp (fun _=>rfl) hx1) ?_
  refine ae 3 tk rfl ?_
  refine aR rfl rfl rfl H (fun H=>?_) (fun H=>?_)
  ·refine ae 10 tk rfl ?_
   obtain ⟨x51,k51,H⟩ := bL H
   refine kD (tag := 16) rfl (fun ho16=>?_)
   refine kH tk rfl rfl rfl rfl rfl rfl rfl ⟨k51.1,(jK k51.2)⟩ (jC ho16 k51.2) rfl (ag tk rfl ?_)
   obtain ⟨y8,hy8,H⟩ := eh H
   refine lr tk rfl rfl rfl rfl rfl rfl rfl rfl (by rw [zl]; exact (zg.1 k51.2).1) (PLe.refl _ _) rfl rfl rfl rfl (by decide) (jb (fun _=>rfl) k51.2 rfl hy8) ?_
   refine ac (aP (bm 2 tk rfl ?_))
   exact bv g1 H hl1 hg1 (Gh.le (aI (aI (cp (PLe.q (eV (by omega))) (aI (aI (cp (PLe.of2 (PLe2.of_eq (congrArg (PV.own 16 g1) (lM (f := ap) hy8)))) bN)))))) bf (eu be))
  refine ae 3 tk rfl ?_
  refine aR rfl rfl rfl H (fun H=>?_) (fun H=>?_)
  ·refine ae 2 tk rfl ?_
   obtain ⟨x46,k46,H⟩ := bL H
   refine aX tk k46.1 (aS (fun _=>rfl) k46.2) ?_
   refine ae 4 tk rfl ?_
   obtain ⟨x51,k51,H⟩ := bL H
   refine kD (tag := 16) rfl (fun ho16=>?_)
   refine kH tk rfl rfl rfl rfl rfl rfl rfl ⟨k51.1,(jK k51.2)⟩ (jC ho16 k51.2) rfl (ag tk rfl ?_)
   obtain ⟨y9,hy9,H⟩ := eh H
   refine lr tk rfl rfl rfl rfl rfl rfl rfl rfl (by rw [zl]; exact (zg.1 k51.2).1) (PLe.refl _ _) rfl rfl rfl rfl (by decide) (jb (fun _=>rfl) k51.2 rfl hy9) ?_
   refine ac (aP (bm 2 tk rfl ?_))
   exact bv g1 H hl1 hg1 (Gh.le (aI (aI (cp (PLe.q (eV (by omega))) (aI (aI (cp (PLe.of2 (PLe2.of_eq (congrArg (PV.own 16 g1) (lM (f := ap) hy9)))) bN)))))) bf (eu be))
  refine ae 7 tk rfl ?_
  obtain ⟨x51,k51,H⟩ := bL H
  refine kD (tag := 16) rfl (fun ho16=>?_)
  refine kH tk rfl rfl rfl rfl rfl rfl rfl ⟨k51.1,(jK k51.2)⟩ (jC ho16 k51.2) rfl (ag tk rfl ?_)
  obtain ⟨y10,hy10,H⟩ := eh H
  refine lr tk rfl rfl rfl rfl rfl rfl rfl rfl (by rw [zl]; exact (zg.1 k51.2).1) (PLe.refl _ _) rfl rfl rfl rfl (by decide) (jb (fun _=>rfl) k51.2 rfl hy10) ?_
  refine ac (aP (bm 2 tk rfl ?_))
  exact bv g1 H hl1 hg1 (Gh.le (aI (aI (cp (PLe.q (eV (by omega))) (aI (aI (cp (PLe.of2 (PLe2.of_eq (congrArg (PV.own 16 g1) (lM (f := ap) hy10)))) bN)))))) bf (eu be))
 refine al 3 tk rfl (gG 6 rfl rfl rfl ?_)
 exact aM tk H rfl
def bn (sA : List (List UInt8)) (v : List UInt8) : Option (Bool) :=
 af (cR sA v) fun x7 =>
 some (decide (x7 ≥ (0 : Int)))
theorem fI (sA : List (List UInt8)) (v : List UInt8) (r : Bool) (H : bn sA v = some r) :
  aH Tryz.prog 147 [(.list 9 (sA.map rStr)),(.str v)] (az r) := by
 unfold bn at H
 refine PH.aw Tryz.func147 Tryz.ntmps147 ?_
 refine al 1 tk rfl (ab (aa (ae 2 tk rfl ?_)))
 obtain ⟨x7,h7,H⟩ := ay H
 have s7 := jh sA v _ h7
 refine am Tryz.call169 (fW.r) s7 ?_
 refine ae 2 tk rfl (ac ?_)
 exact aM tk H rfl
def bt (sA : List LCol) (f : LCol → Option (Bool)) : Option (Bool) :=
 af (ba sA f) fun x7 =>
 some (decide (x7 ≥ (0 : Int)))
theorem gf {g_f : FuncId} {caps_f : List PV} (sA : List LCol) (f : LCol → Option (Bool)) (hg_f : ∀ (vs : Array Value) (w : World),(callFunc g_f vs).run Tryz.prog w = .ok (.enter g_f vs) w) (hp_f : ∀ a0 r,f a0 = some r → aH Tryz.prog g_f ((.agg (ap a0)) :: caps_f) (az r)) (r : Bool) (H : bt sA f = some r) :
  aH Tryz.prog 162 [(.list 70 (sA.map ap)),(.fn g_f caps_f)] (az r) := by
 unfold bt at H
 refine PH.aw Tryz.func162 Tryz.ntmps162 ?_
 refine al 1 tk rfl (ab (aa (ae 2 tk rfl ?_)))
 obtain ⟨x7,h7,H⟩ := ay H
 have s7 := de sA f hg_f hp_f _ h7
 refine am Tryz.call129 (fW.r) s7 ?_
 refine ae 2 tk rfl (ac ?_)
 exact aM tk H rfl
def dH (c : LProcedureChecker) (name : List UInt8) : Option (LTable × Bool) :=
 af (bG c.s.tables (fun a0=>some (cB a0 name))) fun x11 =>
 cond (decide (x11 < (0 : Int)))
  (some ((LTable.mk [] [] []),false))
  (af (aN c.s.tables x11) fun (x19 : LTable) =>
  some (x19,true))
theorem ku (c : LProcedureChecker) (name : List UInt8) (r : LTable × Bool) (H : dH c name = some r) :
  aH Tryz.prog 145 [(.agg (aQ c)),(.str name)] (.tup [(.agg (bu r.1)),(az r.2)]) := by
 unfold dH at H
 refine PH.aw Tryz.func145 Tryz.ntmps145 ?_
 refine ab (aa (aD ?_))
 refine aD ?_
 refine bd tk fun b4=>?_
 refine ag tk rfl (ac (ab (aa (ae 4 tk rfl ?_))))
 obtain ⟨x11,h11,H⟩ := ay H
 have s11 := du c.s.tables (fun a0=>some (cB a0 name)) Tryz.call184 (fun a0 r h=>(ax h) ▸ jN a0 name) _ h11
 refine am Tryz.call131 (fW.r) s11 ?_
 refine ag tk rfl (ac (ab (al 2 tk rfl ?_)))
 refine aA rfl H (fun H=>?_) (fun H=>?_)
 ·refine ab (aa (ag tk rfl (aE tk ?_)))
  refine ag tk rfl (ac ?_)
  obtain rfl := ax H
  refine aL tk rfl (ps := [(.agg [(.str []),(.val (.slice none 0 0)),(.val (.slice none 0 0))]),(az false)]) ⟨_,_,rfl,⟨_,_,_,_,_,rfl,rfl,rfl,rfl⟩,_,_,rfl,rfl,rfl⟩ (PLe.of2 (PLe2.tup (fe.cons (PLe2.agg (fe.cons (PLe2.of_eq rfl) (fe.cons (PLe2.nil tk rfl) (fe.cons (PLe2.nil tk rfl) fe.nil)))) (fe.cons (PLe2.of_eq rfl) fe.nil))))
 refine ao (ab (aa (ae 4 tk rfl ?_)))
 obtain ⟨x19,k19,H⟩ := bL H
 refine aX tk k19.1 (aS (fun _=>rfl) k19.2) ?_
 refine ag tk rfl (aE tk ?_)
 refine ag tk rfl (ac ?_)
 obtain rfl := ax H
 refine aL tk rfl (ps := [(.agg (bu x19)),(az true)]) ⟨_,_,rfl,⟨_,_,_,_,_,rfl,rfl,rfl,rfl⟩,_,_,rfl,rfl,rfl⟩ (PLe.q rfl)
def dy (t : LTable) : Option (Int) :=
 af (dL t.name) fun x11 =>
 cond (!x11)
  (some 23)
  (cond ((t.columns.length : Int) == (0 : Int))
   (some 3)
   (cond (decide ((t.columns.length : Int) > (6 : Int)))
    (some 2)
    (af (aF (σ := Unit) (ρ := (Int)) (fun (j1 : Nat) (x1 : LCol) (_ : Unit) =>
     af (dL x1.name) fun x31 =>
     cond (!x31)
      (some (.ret 23))
      (af (ec t x1.name) fun x37 =>
      cond (decide (x37.1 < (j1 : Int)))
       (some (.ret 5))
       (cond (decide (x1.kind < (1 : Int)))
        (some (.ret 7))
        (cond (decide (x1.kind > (3 : Int)))
         (some (.ret 7))
         (some (.next ())))))) 0 t.columns ()) fun fl1=>fl1.thenR fun (_ : Unit) =>
    af (aF (σ := Unit) (ρ := (Int)) (fun (j2 : Nat) (x2 : Int) (_ : Unit) =>
     cond (decide (x2 < (0 : Int)))
      (some (.ret 9))
      (cond (decide (x2 ≥ (t.columns.length : Int)))
       (some (.ret 9))
       (af (aN t.columns x2) fun (x73 : LCol) =>
       cond x73.nullable
        (some (.ret 9))
        (cond (decide ((j2 : Int) > (0 : Int)))
         (af (aN t.primaryKey (IntKind.i64.wrap ((j2 : Int) - (1 : Int)))) fun (x86 : Int) =>
         cond (decide (x2 ≤ x86))
          (some (.ret 9))
          (some (.next ())))
         (some (.next ())))))) 0 t.primaryKey ()) fun fl2=>fl2.thenR fun (_ : Unit) =>
    cond ((t.primaryKey.length : Int) == (0 : Int))
     (some 9)
     (some 0))))
theorem lD (t : LTable) (r : Int) (H : dy t = some r) :
  aH Tryz.prog 54 [(.agg (bu t))] (ak r) := by
 unfold dy at H
 refine PH.aw Tryz.func54 Tryz.ntmps54 ?_
 refine ab (aa (aD ?_))
 refine ag tk rfl (ac (ab (ab (aa (ae 2 tk rfl ?_)))))
 obtain ⟨x11,h11,H⟩ := ay H
 have s11 := jP t.name _ h11
 refine am Tryz.call79 (fW.r) s11 ?_
 refine ag tk rfl (ac ?_)
 refine aA rfl H (fun H=>?_) (fun H=>?_)
 ·refine al 1 tk rfl ?_
  exact aM tk H rfl
 refine ao (ab (ab (aa (ae 2 tk rfl (av tk (zl _) ?_)))))
 refine ag tk rfl (ac ?_)
 refine aA rfl H (fun H=>?_) (fun H=>?_)
 ·refine al 1 tk rfl ?_
  exact aM tk H rfl
 refine ao (ab (ab (aa (ae 2 tk rfl (av tk (zl _) ?_)))))
 refine ag tk rfl (ac ?_)
 refine aA rfl H (fun H=>?_) (fun H=>?_)
 ·refine al 1 tk rfl ?_
  exact aM tk H rfl
 refine ao (ab (ab (aa (ae 2 tk rfl (av tk (zl _) ?_)))))
 refine ag tk rfl (ac ?_)
 refine dZ tk 24 23 22 (fun s1 g1=>upd (fun _=>.any) 1 (.ptr (bu t))) nB nO () H (fun fl1 Hp1 j1 s1 g1 hz1 hl1 x1 fb1 hx1 H hg1=>?_) (fun s1 g1 H=>?_)
 ·refine ab (aC (ab (aa (ag tk rfl ?_))))
  refine aX tk (zn j1) (bp (fun _=>rfl) hx1) ?_
  refine ag tk rfl ?_
  refine bd tk fun b4=>?_
  refine ag tk rfl (aE tk ?_)
  refine ac (ab (ab (aa (ag tk rfl (aB tk ?_)))))
  obtain ⟨x31,h31,H⟩ := ay H
  have s31 := jP x1.name _ h31
  refine am Tryz.call79 (fW.r) s31 ?_
  refine ag tk rfl (ac ?_)
  refine aA rfl H (fun H=>?_) (fun H=>?_)
  ·refine al 1 tk rfl ?_
   obtain rfl := ax H
   have e1 : fl1 = .ret _ := hg1
   subst e1
   obtain rfl := aG Hp1
   refine aL tk rfl (ps := [(ak 23)]) ⟨_,_,rfl,rfl,rfl⟩ (PLe.q rfl)
  refine ao (ab (ab (aa (ae 2 tk rfl (aB tk ?_)))))
  obtain ⟨x37,h37,H⟩ := ay H
  have s37 := mO t x1.name _ h37
  refine am Tryz.call80 (fW.r) s37 ?_
  refine ae 5 tk rfl (ac (al 3 tk rfl ?_))
  refine aA rfl H (fun H=>?_) (fun H=>?_)
  ·refine al 1 tk rfl ?_
   obtain rfl := ax H
   have e1 : fl1 = .ret _ := hg1
   subst e1
   obtain rfl := aG Hp1
   refine aL tk rfl (ps := [(ak 5)]) ⟨_,_,rfl,rfl,rfl⟩ (PLe.q rfl)
  refine ao (ab (aa (ag tk rfl (aB tk ?_))))
  refine ae 2 tk rfl ?_
  refine aR rfl rfl rfl H (fun H=>?_) (fun H=>?_)
  ·refine ae 4 tk rfl (ac (bX rfl (al 1 tk rfl ?_)))
   obtain rfl := ax H
   have e1 : fl1 = .ret _ := hg1
   subst e1
   obtain rfl := aG Hp1
   refine aL tk rfl (ps := [(ak 7)]) ⟨_,_,rfl,rfl,rfl⟩ (PLe.q rfl)
  refine ag tk rfl (aB tk ?_)
  refine ae 2 tk rfl (ac ?_)
  refine aA rfl H (fun H=>?_) (fun H=>?_)
  ·refine al 1 tk rfl ?_
   obtain rfl := ax H
   have e1 : fl1 = .ret _ := hg1
   subst e1
   obtain rfl := aG Hp1
   refine aL tk rfl (ps := [(ak 7)]) ⟨_,_,rfl,rfl,rfl⟩ (PLe.q rfl)
  refine ao (aP (bm 2 tk rfl ?_))
  exact bv () H hl1 hg1
 refine ab (ab (aa (ae 2 tk rfl (av tk (zl _) ?_))))
 refine ag tk rfl (ac ?_)
 refine dZ tk 55 54 53 (fun s2 g2=>upd (fun _=>.any) 1 (.ptr (bu t))) nB nO () H (fun fl2 Hp2 j2 s2 g2 hz2 hl2 x2 fb2 hx2 H hg2=>?_) (fun s2 g2 H=>?_)
 ·refine ab (aC (ab (aa (ag tk rfl ?_))))
  refine aX tk (zn j2) (bp (fun _=>rfl) hx2) ?_
  refine ae 3 tk rfl (ac (ab (aa (ae 3 tk rfl ?_))))
  refine aR rfl rfl rfl H (fun H=>?_) (fun H=>?_)
  ·refine ae 28 tk rfl (ac (bX rfl (al 1 tk rfl ?_)))
   obtain rfl := ax H
   have e2 : fl2 = .ret _ := hg2
   subst e2
   obtain rfl := aG Hp2
   refine aL tk rfl (ps := [(ak 9)]) ⟨_,_,rfl,rfl,rfl⟩ (PLe.q rfl)
  refine ae 3 tk rfl (av tk (zl _) ?_)
  refine ae 3 tk rfl ?_
  refine aR rfl rfl rfl H (fun H=>?_) (fun H=>?_)
  ·refine ae 21 tk rfl (ac (bX rfl (al 1 tk rfl ?_)))
   obtain rfl := ax H
   have e2 : fl2 = .ret _ := hg2
   subst e2
   obtain rfl := aG Hp2
   refine aL tk rfl (ps := [(ak 9)]) ⟨_,_,rfl,rfl,rfl⟩ (PLe.q rfl)
  refine ae 3 tk rfl ?_
  obtain ⟨x73,k73,H⟩ := bL H
  refine aX tk k73.1 (aS (fun _=>rfl) k73.2) ?_
  refine ae 4 tk rfl ?_
  refine aR rfl rfl rfl H (fun H=>?_) (fun H=>?_)
  ·refine ae 13 tk rfl (ac (bX rfl (al 1 tk rfl ?_)))
   obtain rfl := ax H
   have e2 : fl2 = .ret _ := hg2
   subst e2
   obtain rfl := aG Hp2
   refine aL tk rfl (ps := [(ak 9)]) ⟨_,_,rfl,rfl,rfl⟩ (PLe.q rfl)
  refine ae 3 tk rfl ?_
  refine aR rfl rfl rfl H (fun H=>?_) (fun H=>?_)
  ·refine ae 5 tk rfl ?_
   obtain ⟨x86,k86,H⟩ := bL H
   refine aX tk k86.1 (aS (fun _=>rfl) k86.2) ?_
   refine ae 4 tk rfl (ac ?_)
   refine aA rfl H (fun H=>?_) (fun H=>?_)
   ·refine al 1 tk rfl ?_
    obtain rfl := ax H
    have e2 : fl2 = .ret _ := hg2
    subst e2
    obtain rfl := aG Hp2
    refine aL tk rfl (ps := [(ak 9)]) ⟨_,_,rfl,rfl,rfl⟩ (PLe.q rfl)
   refine ao (aP (bm 2 tk rfl ?_))
   exact bv () H hl2 hg2
  refine ae 10 tk rfl (ac (cQ rfl (ao (aP (bm 2 tk rfl ?_)))))
  exact bv () H hl2 hg2
 refine ab (ab (aa (ae 2 tk rfl (av tk (zl _) ?_))))
 refine ag tk rfl (ac ?_)
 refine aA rfl H (fun H=>?_) (fun H=>?_)
 ·refine al 1 tk rfl ?_
  exact aM tk H rfl
 refine ao (al 1 tk rfl ?_)
 exact aM tk H rfl
def dg (sA : LSchema) (fk : LForeignKey) : Option (Int) :=
 af (dM sA fk.table) fun x17 =>
 af (dM sA fk.refTable) fun x24 =>
 letP (
  cond (!x17.2)
   (true)
   ((!x24.2))) fun (t1 : Bool) =>
 cond t1
  (some 4)
  (af (aN sA.tables x17.1) fun (x36 : LTable) =>
  af (aN sA.tables x24.1) fun (x41 : LTable) =>
  cond ((fk.columns.length : Int) != (x41.primaryKey.length : Int))
   (some 3)
   (af (aF (σ := Unit) (ρ := (Int)) (fun (j2 : Nat) (x2 : Int) (_ : Unit) =>
    letP (
     cond (decide (x2 < (0 : Int)))
      (true)
      ((decide (x2 ≥ (x36.columns.length : Int))))) fun (t4 : Bool) =>
    cond t4
     (some (.ret 3))
     (af (aN x36.columns x2) fun (x70 : LCol) =>
     af (aN x41.primaryKey (j2 : Int)) fun (x78 : Int) =>
     af (aN x41.columns x78) fun (x80 : LCol) =>
     cond (x70.kind != x80.kind)
      (some (.ret 7))
      (some (.next ())))) 0 fk.columns ()) fun fl2=>fl2.thenR fun (_ : Unit) =>
   some 0))
theorem jH (sA : LSchema) (fk : LForeignKey) (r : Int) (H : dg sA fk = some r) :
  aH Tryz.prog 55 [(.agg (bK sA)),(.agg (ft fk))] (ak r) := by
 unfold dg at H
 refine PH.aw Tryz.func55 Tryz.ntmps55 ?_
 refine ab (aa (aD ?_))
 refine aD ?_
 refine ag tk rfl (ac (ab (aa (ae 3 tk rfl ?_))))
 obtain ⟨x17,h17,H⟩ := ay H
 have s17 := ia sA fk.table _ h17
 refine am Tryz.call81 (fW.r) s17 ?_
 refine ae 5 tk rfl (ac (ab (aa (ae 3 tk rfl ?_))))
 obtain ⟨x24,h24,H⟩ := ay H
 have s24 := ia sA fk.refTable _ h24
 refine am Tryz.call81 (fW.r) s24 ?_
 refine ae 5 tk rfl (ac (ab (ab ?_)))
 refine en (γ := Unit) (fun t1 g1=>⟨85,upd (upd (upd (upd (upd (fun _=>.any) 32 (az t1)) 7 (ak x24.1)) 5 (ak x17.1)) 3 (.ptr (ft fk))) 2 (.ptr (bK sA)),fun _=>none,fun _=>none⟩) H (fun _ H=>?_) (fun t1 g1 H=>?_)
 ·refine aa (ae 3 tk rfl ?_)
  refine aR rfl rfl rfl H (fun H=>?_) (fun H=>?_)
  ·refine ae 3 tk rfl (ac ?_)
   refine aK _ () H Gh.d
  refine ae 3 tk rfl (ac ?_)
  refine aK _ () H Gh.d
 refine aA rfl H (fun H=>?_) (fun H=>?_)
 ·refine al 1 tk rfl ?_
  exact aM tk H rfl
 refine ao (ab (bD tk mok ⟨false,false,[]⟩ [0,1,2,3,4,5,6,7,8,9,10,11,12,13] rfl (by decide +kernel) rfl (aO 3 rfl ?_)))
 obtain ⟨x36,k36,H⟩ := bL H
 refine bH k36.1 (aS (fun _=>rfl) k36.2) ?_
 refine aO 4 rfl ?_
 obtain ⟨x41,k41,H⟩ := bL H
 refine bH k41.1 (aS (fun _=>rfl) k41.2) ?_
 refine bY rfl ?_
 refine oL rfl rfl rfl rfl rfl rfl rfl rfl fun b9=>?_
 refine oL rfl rfl rfl rfl rfl rfl rfl rfl fun b10=>?_
 refine nD rfl rfl rfl rfl rfl rfl rfl rfl rfl rfl rfl rfl (nD rfl rfl rfl rfl rfl rfl rfl rfl rfl rfl rfl rfl (bi (ab (ab (aa (ae 2 tk rfl (av tk (zl _) ?_)))))))
 refine ag tk rfl (aB tk ?_)
 refine av tk (zl _) ?_
 refine ag tk rfl (ac ?_)
 refine aA rfl H (fun H=>?_) (fun H=>?_)
 ·refine al 1 tk rfl ?_
  exact aM tk H rfl
 refine ao (ab (ab (aa (ae 2 tk rfl (av tk (zl _) ?_)))))
 refine ag tk rfl (ac ?_)
 obtain ⟨fl2,H2,Hp2⟩ := ay H
 refine gO tk 51 rfl rfl (fun hz2 _=>?_)
 rw [zl] at hz2
 refine io (τ := Unit) (γ := Unit) (fun s2 g2=>⟨85,fun _=>.any,fun _=>none,fun _=>none⟩) (fun t=>fl2 = .next t) ?_ (fun s2 g2 hn2=>?_)
 ·refine aC ?_
  refine iI (fun j2 s2 g2=>⟨85,upd (upd (upd (upd (upd (fun _=>.any) 53 (ak (j2 : Int))) 52 (ak (fk.columns.length : Int))) 51 (.list 3 (fk.columns.map aZ))) 10 (.box 10 b10 0)) 9 (.box 9 b9 0),upd (upd (fun _=>none) 10 (some ⟨b10,(bu x41)⟩)) 9 (some ⟨b9,(bu x36)⟩),fun _=>none⟩) () H2 Gh.d (fun j2 s2 g2 hj2 hr2=>?_)
  refine al 1 tk rfl (ab ?_)
  refine cS rfl (fun h=>?_) (fun h=>?_)
  ·have hl2 := rowsLt h
   obtain ⟨x2,fb2,hx2,H,hg2⟩ := rMc hl2 hr2
   refine ao (ab (aC (ab (aa (ag tk rfl ?_)))))
   refine aX tk (zn j2) (bp (fun _=>rfl) hx2) ?_
   refine ae 3 tk rfl (ac (ab (ab ?_)))
   refine en (γ := Unit) (fun t4 g4=>⟨85,upd (upd (upd (upd (upd (upd (upd (upd (fun _=>.any) 66 (az t4)) 53 (ak (j2 : Int))) 52 (ak (fk.columns.length : Int))) 51 (.list 3 (fk.columns.map aZ))) 12 (ak x2)) 11 (ak (j2 : Int))) 10 (.box 10 b10 0)) 9 (.box 9 b9 0),upd (upd (fun _=>none) 10 (some ⟨b10,(bu x41)⟩)) 9 (some ⟨b9,(bu x36)⟩),fun _=>none⟩) H (fun _ H=>?_) (fun t4 g4 H=>?_)
   ·refine aa (ae 3 tk rfl ?_)
    refine aR rfl rfl rfl H (fun H=>?_) (fun H=>?_)
    ·refine ae 6 tk rfl (ac ?_)
     refine aK _ () H Gh.d
    refine ae 2 tk rfl (aB tk ?_)
    refine av tk (zl _) ?_
    refine ae 2 tk rfl (ac ?_)
    refine aK _ () H Gh.d
   refine aA rfl H (fun H=>?_) (fun H=>?_)
   ·refine al 1 tk rfl ?_
    obtain rfl := ax H
    have e2 : fl2 = .ret _ := hg2
    subst e2
    obtain rfl := aG Hp2
    refine aL tk rfl (ps := [(ak 3)]) ⟨_,_,rfl,rfl,rfl⟩ (PLe.q rfl)
   refine ao (ab (bD tk mok ⟨true,false,[72,79,82]⟩ [0,1,2,3,4,5,6,7,8,9,10,11,12,13,14,15,16] rfl (by decide +kernel) rfl (bY rfl (bE ?_))))
   refine bY rfl ?_
   obtain ⟨x70,k70,H⟩ := bL H
   refine bH k70.1 (aS (fun _=>rfl) k70.2) ?_
   refine aO 3 rfl (bE ?_)
   refine bY rfl (bE ?_)
   refine bY rfl ?_
   obtain ⟨x78,k78,H⟩ := bL H
   refine bH k78.1 (aS (fun _=>rfl) k78.2) ?_
   refine bY rfl ?_
   obtain ⟨x80,k80,H⟩ := bL H
   refine bH k80.1 (aS (fun _=>rfl) k80.2) ?_
   refine aO 3 rfl (bi ?_)
   refine aA rfl H (fun H=>?_) (fun H=>?_)
   ·refine al 1 tk rfl ?_
    obtain rfl := ax H
    have e2 : fl2 = .ret _ := hg2
    subst e2
    obtain rfl := aG Hp2
    refine aL tk rfl (ps := [(ak 7)]) ⟨_,_,rfl,rfl,rfl⟩ (PLe.q rfl)
   refine ao (aP (bm 2 tk rfl ?_))
   exact bv () H hl2 hg2
  have hn2 := rMd (rowsGe h) hr2
  refine cT rfl ?_
  refine aK s2 g2 hn2 Gh.d
 have H := ka hn2 Hp2
 refine al 1 tk rfl ?_
 exact aM tk H rfl
def ed (other : LForeignKey) (c0 : LForeignKey) : Option (Bool) :=
 af (et other c0) fun x6 =>
 some x6
theorem mM (other : LForeignKey) (c0 : LForeignKey) (r : Bool) (H : ed other c0 = some r) :
  aH Tryz.prog 57 [(.agg (ft other)),(.ptr (ft c0))] (az r) := by
 unfold ed at H
 refine PH.aw Tryz.func57 Tryz.ntmps57 ?_
 refine ab (aa (aD ?_))
 refine ag tk rfl (ac (ab (aa (ae 2 tk rfl ?_))))
 obtain ⟨x6,h6,H⟩ := ay H
 have s6 := jW other c0 _ h6
 refine am Tryz.call58 (fW.r) s6 ?_
 refine ag tk rfl (ac ?_)
 exact aM tk H rfl
def fZ (a : LVal) (b : LVal) : Int :=
 letP (ef a.kind b.kind) fun x11 =>
 cond (x11 != (0 : Int))
  (x11)
  (letP (ef a.int b.int) fun x19 =>
  cond (x19 != (0 : Int))
   (x19)
   (letP (gq a.text b.text) fun x27 =>
   x27))
theorem lk (a : LVal) (b : LVal) :
  aH Tryz.prog 76 [(.agg (aY a)),(.agg (aY b))] (ak (fZ a b)) := by
 obtain ⟨r,H⟩ : ∃ r,fZ a b = r := ⟨_,rfl⟩
 rw [H]
 unfold fZ at H
 refine PH.aw Tryz.func76 Tryz.ntmps76 ?_
 refine ab (aa (aD ?_))
 refine aD ?_
 refine ag tk rfl (ac (ab (ab (aa (ae 4 tk rfl ?_)))))
 obtain ⟨x11,h11,H⟩ := eh H
 have s11 := gU a.kind b.kind
 rw [h11] at s11
 refine am Tryz.call77 (fW.r) s11 ?_
 refine ag tk rfl (ac (al 2 tk rfl ?_))
 refine aA rfl H (fun H=>?_) (fun H=>?_)
 ·refine al 2 tk rfl ?_
  exact cG tk H rfl
 refine ao (ab (ab (aa (ae 4 tk rfl ?_))))
 obtain ⟨x19,h19,H⟩ := eh H
 have s19 := gU a.int b.int
 rw [h19] at s19
 refine am Tryz.call77 (fW.r) s19 ?_
 refine ag tk rfl (ac (al 2 tk rfl ?_))
 refine aA rfl H (fun H=>?_) (fun H=>?_)
 ·refine al 2 tk rfl ?_
  exact cG tk H rfl
 refine ao (ab (aa (ae 4 tk rfl ?_)))
 obtain ⟨x27,h27,H⟩ := eh H
 have s27 := nN a.text b.text
 rw [h27] at s27
 refine am Tryz.call125 (fW.r) s27 ?_
 refine ag tk rfl (ac ?_)
 exact cG tk H rfl
def bl (kinds : List Int) (c0 : LProcedureStatement) : Option (Bool) :=
 af (bU kinds c0.kind) fun x7 =>
 some x7
theorem bQ (kinds : List Int) (c0 : LProcedureStatement) (r : Bool) (H : bl kinds c0 = some r) :
  aH Tryz.prog 93 [(.list 3 (kinds.map aZ)),(.ptr (aq c0))] (az r) := by
 unfold bl at H
 refine PH.aw Tryz.func93 Tryz.ntmps93 ?_
 refine al 1 tk rfl (ab (aa (ae 3 tk rfl ?_)))
 obtain ⟨x7,h7,H⟩ := ay H
 have s7 := fm kinds c0.kind _ h7
 refine am Tryz.call15 (fW.r) s7 ?_
 refine ag tk rfl (ac ?_)
 exact aM tk H rfl
def cP (c : LProcedureChecker) (q : LQuery) : Option (Int) :=
 af (dA q) fun x11 =>
 af (aF (σ := Unit) (ρ := (Int)) (fun (j1 : Nat) (x1 : Int) (_ : Unit) =>
  cond (x1 != (0 : Int))
   (cond (decide ((j1 : Int) ≥ (c.args.length : Int)))
    (some (.ret 7))
    (af (aN c.args (j1 : Int)) fun (x33 : Int) =>
    cond (x33 != x1)
     (some (.ret 7))
     (some (.next ()))))
   (some (.next ()))) 0 x11.1 ()) fun fl1=>fl1.thenR fun (_ : Unit) =>
 some 0
theorem gX (c : LProcedureChecker) (q : LQuery) (r : Int) (H : cP c q = some r) :
  aH Tryz.prog 98 [(.agg (aQ c)),(.agg (aU q))] (ak r) := by
 unfold cP at H
 refine PH.aw Tryz.func98 Tryz.ntmps98 ?_
 refine ab (aa (aD ?_))
 refine aD ?_
 refine ag tk rfl (ac (ab (aa (ag tk rfl ?_))))
 obtain ⟨x11,h11,H⟩ := ay H
 have s11 := ix q _ h11
 refine am Tryz.call14 (fW.r) s11 ?_
 refine ae 5 tk rfl (ac (ab (ab (aa (ag tk rfl (av tk (zl _) ?_))))))
 refine ag tk rfl (ac ?_)
 refine dZ tk 16 15 14 (fun s1 g1=>upd (fun _=>.any) 2 (.ptr (aQ c))) nB nO () H (fun fl1 Hp1 j1 s1 g1 hz1 hl1 x1 fb1 hx1 H hg1=>?_) (fun s1 g1 H=>?_)
 ·refine ab (aC (ab (aa (ag tk rfl ?_))))
  refine aX tk (zn j1) (bp (fun _=>rfl) hx1) ?_
  refine ae 3 tk rfl (ac (ab (aa (ae 3 tk rfl ?_))))
  refine aR rfl rfl rfl H (fun H=>?_) (fun H=>?_)
  ·refine ae 3 tk rfl (av tk (zl _) ?_)
   refine ae 2 tk rfl ?_
   refine aR rfl rfl rfl H (fun H=>?_) (fun H=>?_)
   ·refine ae 9 tk rfl (ac (bX rfl (al 1 tk rfl ?_)))
    obtain rfl := ax H
    have e1 : fl1 = .ret _ := hg1
    subst e1
    obtain rfl := aG Hp1
    refine aL tk rfl (ps := [(ak 7)]) ⟨_,_,rfl,rfl,rfl⟩ (PLe.q rfl)
   refine ae 3 tk rfl ?_
   obtain ⟨x33,k33,H⟩ := bL H
   refine aX tk k33.1 (aS (fun _=>rfl) k33.2) ?_
   refine ae 5 tk rfl (ac ?_)
   refine aA rfl H (fun H=>?_) (fun H=>?_)
   ·refine al 1 tk rfl ?_
    obtain rfl := ax H
    have e1 : fl1 = .ret _ := hg1
    subst e1
    obtain rfl := aG Hp1
    refine aL tk rfl (ps := [(ak 7)]) ⟨_,_,rfl,rfl,rfl⟩ (PLe.q rfl)
   refine ao (aP (bm 2 tk rfl ?_))
   exact bv () H hl1 hg1
  refine ae 15 tk rfl (ac (cQ rfl (ao (aP (bm 2 tk rfl ?_)))))
  exact bv () H hl1 hg1
 refine al 1 tk rfl ?_
 exact aM tk H rfl
def ez (vars : List LCol) (x : LCol) : Option ((List LCol)) :=
 af (bP vars (fun a0=>some (dX a0 x))) fun x9 =>
 af (ej 32 x9 ([x] : List LCol)) fun (x13 : List LCol) =>
 some x13
theorem lm (vars : List LCol) (x : LCol) (r : (List LCol)) (H : ez vars x = some r) :
  aH Tryz.prog 96 [(.list 70 (vars.map ap)),(.agg (ap x))] (.list 70 (r.map ap)) := by
 unfold ez at H
 refine PH.aw Tryz.func96 Tryz.ntmps96 ?_
 refine ab (aa (aD ?_))
 refine ag tk rfl (ac (ab (aa (ag tk rfl ?_))))
 have s7 := lj (m := 7) vars
 refine og (g := 136) rfl rfl rfl Tryz.call136 (fW.r) rfl rfl s7 (fun g7=>?_)
 refine ag tk rfl ?_
 obtain ⟨x9,h9,H⟩ := ay H
 have s9 := gw g7 vars (fun a0=>some (dX a0 x)) Tryz.call144 (fun a0 r h=>(ax h) ▸ nL a0 x) _ h9
 refine iG (g := 143) rfl rfl rfl Tryz.call143 [] [(7,0)] rfl rfl rfl rfl (fW.of2 (fe.cons (PLe2.own rfl) (fe.cons (PLe2.of_eq rfl) fe.nil))) (by rw [hJ,jd,hC]; rfl) s9 ?_
 rintro u9 H9h ⟨rfl,rfl⟩
 refine ⟨_,rfl,?_⟩
 refine gn (st' := ⟨_,_,fun _=>none,upd (fun _=>none) 7 (some ⟨g7,70,(x9.map ap),true⟩)⟩) (Gh.le (fE _ _) bf (eu be)) ?_
 refine oQ 9 (q := (.own 7 g7 (x9.map ap).length)) rfl (PLe.of2 (PLe2.own rfl)) (ag tk rfl (ac (ab (aa (ae 2 tk rfl (ct tk (rows' := List.map ap ([x] : List LCol)) (fh.refl _) ?_))))))
 obtain ⟨x13,h13,H⟩ := ay H
 have k13 := eo h13
 refine cW (rows2' := List.map ap ([x] : List LCol)) (rows' := List.map ap x13) tk rfl rfl rfl rfl rfl rfl rfl rfl rfl rfl rfl rfl rfl (fh.refl _) (fC k13.1) (fB k13.2.1) (fy k13.2.2) fun g13=>?_
 refine ag tk rfl (ac (gG 4 rfl rfl rfl ?_))
 exact aM tk H rfl
def cm (kinds : List Int) (c0 : LQuery) : Option (Bool) :=
 af (bU kinds c0.kind) fun x7 =>
 some x7
theorem dG (kinds : List Int) (c0 : LQuery) (r : Bool) (H : cm kinds c0 = some r) :
  aH Tryz.prog 193 [(.list 3 (kinds.map aZ)),(.ptr (aU c0))] (az r) := by
 unfold cm at H
 refine PH.aw Tryz.func193 Tryz.ntmps193 ?_
 refine al 1 tk rfl (ab (aa (ae 3 tk rfl ?_)))
 obtain ⟨x7,h7,H⟩ := ay H
 have s7 := fm kinds c0.kind _ h7
 refine am Tryz.call15 (fW.r) s7 ?_
 refine ag tk rfl (ac ?_)
 exact aM tk H rfl
def eI (a : LVal) (op : List UInt8) (b : LVal) : Bool × Int :=
 letP (
  cond (!(op == ([61] : List UInt8)))
   (cond (!(op == ([60] : List UInt8)))
    ((!(op == ([60,61] : List UInt8))))
    (false))
   (false)) fun (t1 : Bool) =>
 cond t1
  ((false,3))
  (letP (
   cond (a.kind == (0 : Int))
    (true)
    ((b.kind == (0 : Int)))) fun (t2 : Bool) =>
  cond t2
   ((true,0))
   (letP (fZ a b) fun x29 =>
   cond (x29 == (0 : Int))
    (cond (!(op == ([60] : List UInt8)))
     ((true,0))
     (cond (decide (x29 < (0 : Int)))
      (((!(op == ([61] : List UInt8))),0))
      ((false,0))))
    (cond (decide (x29 < (0 : Int)))
     (((!(op == ([61] : List UInt8))),0))
     ((false,0)))))
theorem nM (a : LVal) (op : List UInt8) (b : LVal) :
  aH Tryz.prog 84 [(.agg (aY a)),(.str op),(.agg (aY b))] (.tup [(az ((eI a op b).1)),(ak ((eI a op b).2))]) := by
 obtain ⟨r,H⟩ : ∃ r,eI a op b = r := ⟨_,rfl⟩
 rw [H]
 unfold eI at H
 refine PH.aw Tryz.func84 Tryz.ntmps84 ?_
 refine ab (aa (aD ?_))
 refine aD ?_
 refine ae 2 tk rfl (ac (ab (ab ?_)))
 refine en (γ := Unit) (fun t1 g1=>⟨44,upd (upd (upd (upd (fun _=>.any) 18 (az t1)) 5 (.ptr (aY b))) 3 (.ptr (aY a))) 1 (.str op),fun _=>none,fun _=>none⟩) H (fun _ H=>?_) (fun t1 g1 H=>?_)
 ·refine aa (ae 3 tk rfl ?_)
  refine aR rfl rfl rfl H (fun H=>?_) (fun H=>?_)
  ·refine ae 4 tk rfl ?_
   refine aR rfl rfl rfl H (fun H=>?_) (fun H=>?_)
   ·refine ae 3 tk rfl (ac ?_)
    refine aK _ () H Gh.d
   refine ae 3 tk rfl (ac ?_)
   refine aK _ () H Gh.d
  refine ae 7 tk rfl (ac ?_)
  refine aK _ () H Gh.d
 refine aA rfl H (fun H=>?_) (fun H=>?_)
 ·refine al 2 tk rfl ?_
  exact cG tk H rfl
 refine ao (ab (ab ?_))
 refine en (γ := Unit) (fun t2 g2=>⟨44,upd (upd (upd (upd (fun _=>.any) 26 (az t2)) 5 (.ptr (aY b))) 3 (.ptr (aY a))) 1 (.str op),fun _=>none,fun _=>none⟩) H (fun _ H=>?_) (fun t2 g2 H=>?_)
 ·refine aa (ae 4 tk rfl ?_)
  refine aR rfl rfl rfl H (fun H=>?_) (fun H=>?_)
  ·refine ae 4 tk rfl (ac ?_)
   refine aK _ () H Gh.d
  refine ae 4 tk rfl (ac ?_)
  refine aK _ () H Gh.d
 refine aA rfl H (fun H=>?_) (fun H=>?_)
 ·refine al 2 tk rfl ?_
  exact cG tk H rfl
 refine ao (ab (aa (ae 2 tk rfl ?_)))
 obtain ⟨x29,h29,H⟩ := eh H
 have s29 := lk a b
 rw [h29] at s29
 refine am Tryz.call76 (fW.r) s29 ?_
 refine ag tk rfl (ac (ab (aa (ae 3 tk rfl ?_))))
 refine aR rfl rfl rfl H (fun H=>?_) (fun H=>?_)
 ·refine ae 4 tk rfl ?_
  refine aR rfl rfl rfl H (fun H=>?_) (fun H=>?_)
  ·refine ae 9 tk rfl (ac ?_)
   exact cG tk H rfl
  refine ae 3 tk rfl ?_
  refine aR rfl rfl rfl H (fun H=>?_) (fun H=>?_)
  ·refine ae 6 tk rfl (ac ?_)
   exact cG tk H rfl
  refine ae 6 tk rfl (ac ?_)
  exact cG tk H rfl
 refine ae 7 tk rfl ?_
 refine aR rfl rfl rfl H (fun H=>?_) (fun H=>?_)
 ·refine ae 6 tk rfl (ac ?_)
  exact cG tk H rfl
 refine ae 6 tk rfl (ac ?_)
 exact cG tk H rfl
def cA (a : Rq) (b : Rq) : Option (Int) :=
 af (lI (if (b.length : Int) < (a.length : Int) then (b.length : Int) else (a.length : Int))) fun (n1 : Nat) =>
 af (aF (σ := Unit) (ρ := (Int)) (fun (j1 : Nat) (_ : Nat) (_ : Unit) =>
  af (aN a (j1 : Int)) fun (x17 : LVal) =>
  af (aN b (j1 : Int)) fun (x21 : LVal) =>
  letP (fZ x17 x21) fun x23 =>
  cond (x23 != (0 : Int))
   (some (.ret x23))
   (some (.next ()))) 0 (List.range n1) ()) fun fl1=>fl1.thenR fun (_ : Unit) =>
 letP (ef (a.length : Int) (b.length : Int)) fun x32 =>
 some x32
theorem mQ (a : Rq) (b : Rq) (r : Int) (H : cA a b = some r) :
  aH Tryz.prog 50 [(.list 75 (a.map aY)),(.list 75 (b.map aY))] (ak r) := by
 unfold cA at H
 refine PH.aw Tryz.func50 Tryz.ntmps50 ?_
 refine al 1 tk rfl (ab (ab (aa (ag tk rfl (av tk (zl _) ?_)))))
 refine ag tk rfl (av tk (zl _) ?_)
 refine ae 2 tk rfl (ac ?_)
 obtain ⟨n1,hs1,H⟩ := ay H
 have hz1 := nS hs1
 obtain ⟨fl1,H1,Hp1⟩ := ay H
 refine io (τ := Unit) (γ := Unit) (fun s1 g1=>⟨33,upd (upd (fun _=>.any) 1 (.list 75 (b.map aY))) 0 (.list 75 (a.map aY)),fun _=>none,fun _=>none⟩) (fun t=>fl1 = .next t) ?_ (fun s1 g1 hn1=>?_)
 ·refine aC ?_
  refine iI (fun j1 s1 g1=>⟨33,upd (upd (upd (upd (fun _=>.any) 12 (ak (j1 : Int))) 11 (ak (if (b.length : Int) < (a.length : Int) then (b.length : Int) else (a.length : Int)))) 1 (.list 75 (b.map aY))) 0 (.list 75 (a.map aY)),fun _=>none,fun _=>none⟩) () H1 Gh.d (fun j1 s1 g1 hj1 hr1=>?_)
  refine al 1 tk rfl (ab ?_)
  refine cS rfl (fun h=>?_) (fun h=>?_)
  ·have hl1 := natLt hz1 h
   obtain ⟨x1,fb1,hx1,H,hg1⟩ := rMc hl1 hr1
   obtain rfl := natX hx1
   refine ao (ab (aC (al 2 tk rfl (ab (bD tk mok ⟨false,false,[]⟩ [0,1,2,3,4,5,6,7,8,9] rfl (by decide +kernel) rfl (aO 2 rfl ?_))))))
   obtain ⟨x17,k17,H⟩ := bL H
   refine bH k17.1 (aS (fun _=>rfl) k17.2) ?_
   refine aO 3 rfl ?_
   obtain ⟨x21,k21,H⟩ := bL H
   refine bH k21.1 (aS (fun _=>rfl) k21.2) ?_
   refine bY rfl ?_
   obtain ⟨x23,h23,H⟩ := eh H
   have s23 := lk x17 x21
   rw [h23] at s23
   refine bj Tryz.call76 (fW.r) s23 ?_
   refine bY rfl (bi (al 2 tk rfl ?_))
   refine aA rfl H (fun H=>?_) (fun H=>?_)
   ·refine al 2 tk rfl ?_
    obtain rfl := ax H
    have e1 : fl1 = .ret _ := hg1
    subst e1
    obtain rfl := aG Hp1
    refine aL tk rfl (ps := [(ak x23)]) ⟨_,_,rfl,rfl,rfl⟩ (PLe.q rfl)
   refine ao (aP (bm 2 tk rfl ?_))
   exact bv () H hl1 hg1 (Gh.le (aI (aI (aI (cp (PLe.q (pint_succN hz1 hl1)) bN)))) bf be)
  have hn1 := rMd (natGe hz1 h) hr1
  refine cT rfl ?_
  refine aK s1 g1 hn1 Gh.d
 have H := ka hn1 Hp1
 refine ab (aa (ag tk rfl (av tk (zl _) ?_)))
 refine ag tk rfl (av tk (zl _) ?_)
 obtain ⟨x32,h32,H⟩ := eh H
 have s32 := gU (a.length : Int) (b.length : Int)
 rw [h32] at s32
 refine am Tryz.call77 (fW.r) s32 ?_
 refine ag tk rfl (ac ?_)
 exact aM tk H rfl
def dC (sA : LProcedureStatement) : Option (Bool) :=
 letP (
  cond (decide (sA.kind < (1 : Int)))
   (true)
   ((decide (sA.kind > (9 : Int))))) fun (t1 : Bool) =>
 af (
  cond t1
   (some t1)
   (af (bl ([1] : List Int) sA) fun x16 =>
   cond (!(x16 == (!(sA.name == ([] : List UInt8)))))
    (some (!(x16 == (!(sA.name == ([] : List UInt8))))))
    (af (bl ([4,5,6] : List Int) sA) fun x23 =>
    cond (!(x23 == (!(sA.table == ([] : List UInt8)))))
     (some (!(x23 == (!(sA.table == ([] : List UInt8))))))
     (af (
      af (bl ([3,7] : List Int) sA) fun x30 =>
      cond (!(x30 == ((sA.query.length : Int) == (1 : Int))))
       (some true)
       (some (decide ((sA.query.length : Int) > (1 : Int))))) fun (t8 : Bool) =>
     cond t8
      (some t8)
      (af (
       af (bl ([5,6] : List Int) sA) fun x44 =>
       cond (!(x44 == ((sA.whereF.length : Int) == (1 : Int))))
        (some true)
        (some (decide ((sA.whereF.length : Int) > (1 : Int))))) fun (t9 : Bool) =>
      cond t9
       (some t9)
       (af (
        af (bl ([8] : List Int) sA) fun x58 =>
        cond (!x58)
         (some (sA.code != (0 : Int)))
         (some false)) fun (t10 : Bool) =>
       cond t10
        (some t10)
        (af (
         af (bl ([2,3] : List Int) sA) fun x67 =>
         cond (!x67)
          (some (decide ((sA.body.length : Int) > (0 : Int))))
          (some false)) fun (t11 : Bool) =>
        cond t11
         (some t11)
         (af (
          af (bl ([2] : List Int) sA) fun x77 =>
          cond (!x77)
           (some (decide ((sA.elseF.length : Int) > (0 : Int))))
           (some false)) fun (t12 : Bool) =>
         cond t12
          (some t12)
          (af (bl ([5] : List Int) sA) fun x87 =>
          cond (!x87)
           (some (decide ((sA.names.length : Int) > (0 : Int))))
           (some false)))))))))) fun (t7 : Bool) =>
 cond t7
  (some false)
  (af (bl ([1,2] : List Int) sA) fun x98 =>
  cond x98
   (some ((sA.exprs.length : Int) == (1 : Int)))
   (af (bl ([5] : List Int) sA) fun x106 =>
   cond x106
    (cond ((sA.exprs.length : Int) == (sA.names.length : Int))
     (some (decide ((sA.names.length : Int) > (0 : Int))))
     (some false))
    (af (bl ([8] : List Int) sA) fun x123 =>
    cond x123
     (cond (decide (sA.code ≥ (1 : Int)))
      (some (decide (sA.code ≤ (100 : Int))))
      (some false))
     (af (bl ([4] : List Int) sA) fun x134 =>
     cond x134
      (some true)
      (some ((sA.exprs.length : Int) == (0 : Int)))))))
theorem nK (sA : LProcedureStatement) (r : Bool) (H : dC sA = some r) :
  aH Tryz.prog 62 [(.agg (aq sA))] (az r) := by
 unfold dC at H
 refine PH.aw Tryz.func62 Tryz.ntmps62 ?_
 refine ab (aa (aD ?_))
 refine ag tk rfl (ac (al 2 tk rfl (ab (aC (ab (ab ?_))))))
 refine en (γ := Unit) (fun t1 g1=>⟨141,upd (upd (upd (fun _=>.any) 5 (az t1)) 3 (.fn 93 [(.ptr (aq sA))])) 1 (.ptr (aq sA)),fun _=>none,fun _=>none⟩) H (fun _ H=>?_) (fun t1 g1 H=>?_)
 ·refine aa (ae 4 tk rfl ?_)
  refine aR rfl rfl rfl H (fun H=>?_) (fun H=>?_)
  ·refine ae 5 tk rfl (ac ?_)
   refine aK _ () H Gh.d
  refine ae 5 tk rfl (ac ?_)
  refine aK _ () H Gh.d
 refine eg (γ := Unit) (fun t7 g7=>⟨141,upd (upd (upd (fun _=>.any) 5 (az t7)) 3 (.fn 93 [(.ptr (aq sA))])) 1 (.ptr (aq sA)),fun _=>none,fun _=>none⟩) H (fun _ H=>?_) (fun t7 g7 H=>?_)
 ·refine aA rfl H (fun H=>?_) (fun H=>?_)
  ·refine ao ?_
   refine aK _ () (ax H) Gh.d
  refine ab (bD tk mok ⟨false,false,[]⟩ [0,1,3,4,5,2,6,7] rfl (by decide +kernel) rfl (aO 5 rfl ?_))
  obtain ⟨x16,h16,H⟩ := ay H
  have s16 := bQ ([1] : List Int) sA _ h16
  refine bj Tryz.call93 (fW.r) s16 ?_
  refine aO 2 rfl (bi ?_)
  refine aA rfl H (fun H=>?_) (fun H=>?_)
  ·refine ao ?_
   refine aK _ () (ax H) Gh.d
  refine ab (bD tk mok ⟨false,false,[]⟩ [0,1,3,4,5,2,6,7] rfl (by decide +kernel) rfl (aO 5 rfl ?_))
  obtain ⟨x23,h23,H⟩ := ay H
  have s23 := bQ ([4,5,6] : List Int) sA _ h23
  refine bj Tryz.call93 (fW.r) s23 ?_
  refine aO 2 rfl (bi ?_)
  refine aA rfl H (fun H=>?_) (fun H=>?_)
  ·refine ao ?_
   refine aK _ () (ax H) Gh.d
  refine ab ?_
  refine eg (γ := Unit) (fun t8 g8=>⟨141,upd (upd (upd (fun _=>.any) 5 (az t8)) 3 (.fn 93 [(.ptr (aq sA))])) 1 (.ptr (aq sA)),fun _=>none,fun _=>none⟩) H (fun _ H=>?_) (fun t8 g8 H=>?_)
  ·refine bD tk mok ⟨false,false,[]⟩ [0,1,3,4,5,6,2,7,8,9,10,11,12,13,14] rfl (by decide +kernel) rfl (aO 4 rfl (kE rfl rfl rfl rfl rfl rfl (zl _) rfl (bY rfl ?_)))
   obtain ⟨x30,h30,H⟩ := ay H
   have s30 := bQ ([3,7] : List Int) sA _ h30
   refine bj Tryz.call93 (fW.r) s30 ?_
   refine aO 2 rfl ?_
   refine iU H (fun H=>?_) (fun H=>?_)
   ·refine aO 6 rfl (bi ?_)
    refine aK _ () (ax H) Gh.d
   refine aO 2 rfl (kE rfl rfl rfl rfl rfl rfl (zl _) rfl (aO 3 rfl (bi ?_)))
   refine aK _ () (ax H) Gh.d
  refine aA rfl H (fun H=>?_) (fun H=>?_)
  ·refine ao ?_
   refine aK _ () (ax H) Gh.d
  refine ab ?_
  refine eg (γ := Unit) (fun t9 g9=>⟨141,upd (upd (upd (fun _=>.any) 5 (az t9)) 3 (.fn 93 [(.ptr (aq sA))])) 1 (.ptr (aq sA)),fun _=>none,fun _=>none⟩) H (fun _ H=>?_) (fun t9 g9 H=>?_)
  ·refine bD tk mok ⟨false,false,[]⟩ [0,1,3,4,5,6,2,7,8,9,10,11,12,13,14] rfl (by decide +kernel) rfl (aO 4 rfl (kE rfl rfl rfl rfl rfl rfl (zl _) rfl (bY rfl ?_)))
   obtain ⟨x44,h44,H⟩ := ay H
   have s44 := bQ ([5,6] : List Int) sA _ h44
   refine bj Tryz.call93 (fW.r) s44 ?_
   refine aO 2 rfl ?_
   refine iU H (fun H=>?_) (fun H=>?_)
   ·refine aO 6 rfl (bi ?_)
    refine aK _ () (ax H) Gh.d
   refine aO 2 rfl (kE rfl rfl rfl rfl rfl rfl (zl _) rfl (aO 3 rfl (bi ?_)))
   refine aK _ () (ax H) Gh.d
  refine aA rfl H (fun H=>?_) (fun H=>?_)
  ·refine ao ?_
   refine aK _ () (ax H) Gh.d
  refine ab ?_
  refine eg (γ := Unit) (fun t10 g10=>⟨141,upd (upd (upd (fun _=>.any) 5 (az t10)) 3 (.fn 93 [(.ptr (aq sA))])) 1 (.ptr (aq sA)),fun _=>none,fun _=>none⟩) H (fun _ H=>?_) (fun t10 g10 H=>?_)
  ·refine aa (ag tk rfl (ct tk (rows' := List.map aZ ([8] : List Int)) (fh.refl _) ?_))
   obtain ⟨x58,h58,H⟩ := ay H
   have s58 := bQ ([8] : List Int) sA _ h58
   refine am Tryz.call93 (fW.r) s58 ?_
   refine ae 2 tk rfl ?_
   refine aR rfl rfl rfl H (fun H=>?_) (fun H=>?_)
   ·refine ae 5 tk rfl (ac ?_)
    refine aK _ () (ax H) Gh.d
   refine ae 5 tk rfl (ac ?_)
   refine aK _ () (ax H) Gh.d
  refine aA rfl H (fun H=>?_) (fun H=>?_)
  ·refine ao ?_
   refine aK _ () (ax H) Gh.d
  refine ab ?_
  refine eg (γ := Unit) (fun t11 g11=>⟨141,upd (upd (upd (fun _=>.any) 5 (az t11)) 3 (.fn 93 [(.ptr (aq sA))])) 1 (.ptr (aq sA)),fun _=>none,fun _=>none⟩) H (fun _ H=>?_) (fun t11 g11 H=>?_)
  ·refine aa (ag tk rfl (ct tk (rows' := List.map aZ ([2,3] : List Int)) (fh.refl _) ?_))
   obtain ⟨x67,h67,H⟩ := ay H
   have s67 := bQ ([2,3] : List Int) sA _ h67
   refine am Tryz.call93 (fW.r) s67 ?_
   refine ae 2 tk rfl ?_
   refine aR rfl rfl rfl H (fun H=>?_) (fun H=>?_)
   ·refine ae 2 tk rfl (av tk (zl _) ?_)
    refine ae 3 tk rfl (ac ?_)
    refine aK _ () (ax H) Gh.d
   refine ae 6 tk rfl (ac ?_)
   refine aK _ () (ax H) Gh.d
  refine aA rfl H (fun H=>?_) (fun H=>?_)
  ·refine ao ?_
   refine aK _ () (ax H) Gh.d
  refine ab ?_
  refine eg (γ := Unit) (fun t12 g12=>⟨141,upd (upd (upd (fun _=>.any) 5 (az t12)) 3 (.fn 93 [(.ptr (aq sA))])) 1 (.ptr (aq sA)),fun _=>none,fun _=>none⟩) H (fun _ H=>?_) (fun t12 g12 H=>?_)
  ·refine aa (ag tk rfl (ct tk (rows' := List.map aZ ([2] : List Int)) (fh.refl _) ?_))
   obtain ⟨x77,h77,H⟩ := ay H
   have s77 := bQ ([2] : List Int) sA _ h77
   refine am Tryz.call93 (fW.r) s77 ?_
   refine ae 2 tk rfl ?_
   refine aR rfl rfl rfl H (fun H=>?_) (fun H=>?_)
   ·refine ae 2 tk rfl (av tk (zl _) ?_)
    refine ae 3 tk rfl (ac ?_)
    refine aK _ () (ax H) Gh.d
   refine ae 6 tk rfl (ac ?_)
   refine aK _ () (ax H) Gh.d
  refine aA rfl H (fun H=>?_) (fun H=>?_)
  ·refine ao ?_
   refine aK _ () (ax H) Gh.d
  refine aa (ag tk rfl (ct tk (rows' := List.map aZ ([5] : List Int)) (fh.refl _) ?_))
  obtain ⟨x87,h87,H⟩ := ay H
  have s87 := bQ ([5] : List Int) sA _ h87
  refine am Tryz.call93 (fW.r) s87 ?_
  refine ae 2 tk rfl ?_
  refine aR rfl rfl rfl H (fun H=>?_) (fun H=>?_)
  ·refine ae 2 tk rfl (av tk (zl _) ?_)
   refine ae 3 tk rfl (ac ?_)
   refine aK _ () (ax H) Gh.d
  refine ae 6 tk rfl (ac ?_)
  refine aK _ () (ax H) Gh.d
 refine aA rfl H (fun H=>?_) (fun H=>?_)
 ·refine al 1 tk rfl ?_
  exact aM tk H rfl
 refine ab (aa (ag tk rfl (ct tk (rows' := List.map aZ ([1,2] : List Int)) (fh.refl _) ?_)))
 obtain ⟨x98,h98,H⟩ := ay H
 have s98 := bQ ([1,2] : List Int) sA _ h98
 refine am Tryz.call93 (fW.r) s98 ?_
 refine ag tk rfl (ac ?_)
 refine aA rfl H (fun H=>?_) (fun H=>?_)
 ·refine ab (aa (ae 2 tk rfl (av tk (zl _) ?_)))
  refine ae 2 tk rfl (ac ?_)
  exact aM tk H rfl
 refine ab (aa (ag tk rfl (ct tk (rows' := List.map aZ ([5] : List Int)) (fh.refl _) ?_)))
 obtain ⟨x106,h106,H⟩ := ay H
 have s106 := bQ ([5] : List Int) sA _ h106
 refine am Tryz.call93 (fW.r) s106 ?_
 refine ag tk rfl (ac ?_)
 refine aA rfl H (fun H=>?_) (fun H=>?_)
 ·refine ab (aa (ae 2 tk rfl (av tk (zl _) ?_)))
  refine ae 2 tk rfl (av tk (zl _) ?_)
  refine ae 2 tk rfl ?_
  refine aR rfl rfl rfl H (fun H=>?_) (fun H=>?_)
  ·refine ae 2 tk rfl (av tk (zl _) ?_)
   refine ae 3 tk rfl (ac ?_)
   exact aM tk H rfl
  refine ae 6 tk rfl (ac ?_)
  exact aM tk H rfl
 refine ab (aa (ag tk rfl (ct tk (rows' := List.map aZ ([8] : List Int)) (fh.refl _) ?_)))
 obtain ⟨x123,h123,H⟩ := ay H
 have s123 := bQ ([8] : List Int) sA _ h123
 refine am Tryz.call93 (fW.r) s123 ?_
 refine ag tk rfl (ac ?_)
 refine aA rfl H (fun H=>?_) (fun H=>?_)
 ·refine ab (aa (ae 4 tk rfl ?_))
  refine aR rfl rfl rfl H (fun H=>?_) (fun H=>?_)
  ·refine ae 5 tk rfl (ac ?_)
   exact aM tk H rfl
  refine ae 5 tk rfl (ac ?_)
  exact aM tk H rfl
 refine ao (aP (ab (aa (ag tk rfl (ct tk (rows' := List.map aZ ([4] : List Int)) (fh.refl _) ?_)))))
 obtain ⟨x134,h134,H⟩ := ay H
 have s134 := bQ ([4] : List Int) sA _ h134
 refine am Tryz.call93 (fW.r) s134 ?_
 refine ag tk rfl ?_
 refine aR rfl rfl rfl H (fun H=>?_) (fun H=>?_)
 ·refine ae 6 tk rfl (ac ?_)
  exact aM tk H rfl
 refine ae 2 tk rfl (av tk (zl _) ?_)
 refine ae 3 tk rfl (ac ?_)
 exact aM tk H rfl
def cq (c : LProcedureChecker) (cols : List LCol) (vars : List LCol) (e : LExpr) : Option (Int × Bool × Int) :=
 letP (dK cols vars e) fun x19 =>
 cond (x19.2.2 != (0 : Int))
  (some (0,false,x19.2.2))
  (af (cP c (LQuery.mk 0 [] [] [e] [] [] 0 0 [])) fun x30 =>
  cond (x30 != (0 : Int))
   (some (0,false,x30))
   (some (x19.1,x19.2.1,0)))
theorem fo (c : LProcedureChecker) (cols : List LCol) (vars : List LCol) (e : LExpr) (r : Int × Bool × Int) (H : cq c cols vars e = some r) :
  aH Tryz.prog 94 [(.agg (aQ c)),(.list 70 (cols.map ap)),(.list 70 (vars.map ap)),(.agg (fj e))] (.tup [(ak r.1),(az r.2.1),(ak r.2.2)]) := by
 unfold cq at H
 refine PH.aw Tryz.func94 Tryz.ntmps94 ?_
 refine ab (aa (aD ?_))
 refine aD ?_
 refine ae 3 tk rfl (ac (ab (aa (ae 3 tk rfl ?_))))
 obtain ⟨x19,h19,H⟩ := eh H
 have s19 := gR cols vars e
 rw [h19] at s19
 refine am Tryz.call86 (fW.r) s19 ?_
 refine ae 7 tk rfl (ac (ab (al 2 tk rfl ?_)))
 refine aA rfl H (fun H=>?_) (fun H=>?_)
 ·refine al 4 tk rfl ?_
  exact aM tk H rfl
 refine ao (ab (ab (aa (ae 2 tk rfl (ct tk (rows' := List.map cJ ([e] : List LExpr)) (fh.trans (b := List.map fj [e]) (fh.refl _) (fh.of_eq (kI cv [e]))) ?_)))))
 refine ag tk rfl ?_
 obtain ⟨x30,h30,H⟩ := ay H
 have s30 := gX c (LQuery.mk 0 [] [] [e] [] [] 0 0 []) _ h30
 refine am Tryz.call98 (fW.of2 (fe.cons (PLe2.of_eq rfl) (fe.cons (PLe2.agg (fe.cons (PLe2.of_eq rfl) (fe.cons (PLe2.of_eq rfl) (fe.cons (PLe2.nil tk rfl) (fe.cons (PLe2.of_eq rfl) (fe.cons (PLe2.nil tk rfl) (fe.cons (PLe2.nil tk rfl) (fe.cons (PLe2.of_eq rfl) (fe.cons (PLe2.of_eq rfl) (fe.cons (PLe2.nil tk rfl) fe.nil)))))))))) fe.nil))) s30 ?_
 refine ag tk rfl (ac (al 2 tk rfl ?_))
 refine aA rfl H (fun H=>?_) (fun H=>?_)
 ·refine al 4 tk rfl ?_
  exact aM tk H rfl
 refine ao (al 5 tk rfl ?_)
 exact aM tk H rfl
def gQ (q : LQuery) : Option (Bool) :=
 af (
  cond (decide (q.kind < (1 : Int)))
   (some true)
   (cond (decide (q.kind > (10 : Int)))
    (some true)
    (af (aN ([(-1),0,1,1,2,2,2,2,1,1,1] : List Int) q.kind) fun (x21 : Int) =>
    some ((q.inputs.length : Int) != x21)))) fun (t1 : Bool) =>
 cond t1
  (some false)
  (af (
   af (cm ([1] : List Int) q) fun x29 =>
   cond (!x29)
    (some (!(q.table == ([] : List UInt8))))
    (some false)) fun (t2 : Bool) =>
  af (
   cond t2
    (some t2)
    (af (
     af (cm ([3,8] : List Int) q) fun x38 =>
     cond (!x38)
      (some (decide ((q.names.length : Int) > (0 : Int))))
      (some false)) fun (t7 : Bool) =>
    cond t7
     (some t7)
     (af (
      af (cm ([8] : List Int) q) fun x48 =>
      cond (!x48)
       (some (decide ((q.aggregates.length : Int) > (0 : Int))))
       (some false)) fun (t8 : Bool) =>
     cond t8
      (some t8)
      (af (
       af (cm ([9] : List Int) q) fun x58 =>
       cond (!x58)
        (some (decide ((q.descending.length : Int) > (0 : Int))))
        (some false)) fun (t9 : Bool) =>
      cond t9
       (some t9)
       (af (cm ([10] : List Int) q) fun x68 =>
       cond (!x68)
        (cond (q.count != (0 : Int))
         (some true)
         (some (q.offset != (0 : Int))))
        (some false)))))) fun (t6 : Bool) =>
  cond t6
   (some false)
   (af (cm ([2,4,5] : List Int) q) fun x83 =>
   cond x83
    (some ((q.exprs.length : Int) == (1 : Int)))
    (af (cm ([3,8] : List Int) q) fun x91 =>
    cond x91
     (cond ((q.exprs.length : Int) == (q.names.length : Int))
      (some (decide ((IntKind.i64.wrap ((q.exprs.length : Int) + (q.aggregates.length : Int))) > (0 : Int))))
      (some false))
     (af (cm ([9] : List Int) q) fun x112 =>
     cond x112
      (cond ((q.exprs.length : Int) == (q.descending.length : Int))
       (some (decide ((q.exprs.length : Int) > (0 : Int))))
       (some false))
      (af (cm ([10] : List Int) q) fun x129 =>
      cond x129
       (cond ((q.exprs.length : Int) == (0 : Int))
        (cond (decide (q.count ≥ (0 : Int)))
         (some (decide (q.offset ≥ (0 : Int))))
         (some false))
        (some false))
       (some ((q.exprs.length : Int) == (0 : Int))))))))
theorem W_query_shape (q : LQuery) (r : Bool) (H : gQ q = some r) :
  aH Tryz.prog 160 [(.agg (aU q))] (az r) := by
 unfold gQ at H
 refine PH.aw Tryz.func160 Tryz.ntmps160 ?_
 refine ab (aa (aD ?_))
 refine ag tk rfl (ac (ab (aa (oW (e := 3) (rows := [[(ak (-1))],[(ak 0)],[(ak 1)],[(ak 1)],[(ak 2)],[(ak 2)],[(ak 2)],[(ak 2)],[(ak 1)],[(ak 1)],[(ak 1)]]) tk rfl rfl rfl rfl (rows' := List.map aZ ([(-1),0,1,1,2,2,2,2,1,1,1] : List Int)) (by kernel_rfl) (fh.refl _) rfl rfl (ag tk rfl (ac (ab (ab ?_))))))))
 refine eg (γ := Unit) (fun t1 g1=>⟨148,upd (upd (fun _=>.any) 24 (az t1)) 1 (.ptr (aU q)),fun _=>none,fun _=>none⟩) H (fun _ H=>?_) (fun t1 g1 H=>?_)
 ·refine bD tk mok ⟨false,false,[]⟩ [0,1,2,3,4,5,6,7,8,9,10,11,12,13,14,15,16,17,18] rfl (by decide +kernel) rfl (aO 4 rfl ?_)
  refine iU H (fun H=>?_) (fun H=>?_)
  ·refine aO 15 rfl (bi ?_)
   refine aK _ () (ax H) Gh.d
  refine aO 5 rfl ?_
  refine iU H (fun H=>?_) (fun H=>?_)
  ·refine aO 10 rfl (bi ?_)
   refine aK _ () (ax H) Gh.d
  refine aO 2 rfl (kE rfl rfl rfl rfl rfl rfl (zl _) rfl (aO 3 rfl ?_))
  obtain ⟨x21,k21,H⟩ := bL H
  refine bH k21.1 (aS (fun _=>rfl) k21.2) ?_
  refine aO 3 rfl (bi ?_)
  refine aK _ () (ax H) Gh.d
 refine aA rfl H (fun H=>?_) (fun H=>?_)
 ·refine al 1 tk rfl ?_
  exact aM tk H rfl
 refine ao (al 2 tk rfl (ab (aC (ab (ab ?_)))))
 refine eg (γ := Unit) (fun t2 g2=>⟨148,upd (upd (upd (fun _=>.any) 26 (az t2)) 4 (.fn 193 [(.ptr (aU q))])) 1 (.ptr (aU q)),fun _=>none,fun _=>none⟩) H (fun _ H=>?_) (fun t2 g2 H=>?_)
 ·refine aa (ag tk rfl (ct tk (rows' := List.map aZ ([1] : List Int)) (fh.refl _) ?_))
  obtain ⟨x29,h29,H⟩ := ay H
  have s29 := dG ([1] : List Int) q _ h29
  refine am Tryz.call193 (fW.r) s29 ?_
  refine ae 2 tk rfl ?_
  refine aR rfl rfl rfl H (fun H=>?_) (fun H=>?_)
  ·refine ae 5 tk rfl (ac ?_)
   refine aK _ () (ax H) Gh.d
  refine ae 5 tk rfl (ac ?_)
  refine aK _ () (ax H) Gh.d
 refine eg (γ := Unit) (fun t6 g6=>⟨148,upd (upd (upd (fun _=>.any) 26 (az t6)) 4 (.fn 193 [(.ptr (aU q))])) 1 (.ptr (aU q)),fun _=>none,fun _=>none⟩) H (fun _ H=>?_) (fun t6 g6 H=>?_)
 ·refine aA rfl H (fun H=>?_) (fun H=>?_)
  ·refine ao ?_
   refine aK _ () (ax H) Gh.d
  refine ab ?_
  refine eg (γ := Unit) (fun t7 g7=>⟨148,upd (upd (upd (fun _=>.any) 26 (az t7)) 4 (.fn 193 [(.ptr (aU q))])) 1 (.ptr (aU q)),fun _=>none,fun _=>none⟩) H (fun _ H=>?_) (fun t7 g7 H=>?_)
  ·refine aa (ag tk rfl (ct tk (rows' := List.map aZ ([3,8] : List Int)) (fh.refl _) ?_))
   obtain ⟨x38,h38,H⟩ := ay H
   have s38 := dG ([3,8] : List Int) q _ h38
   refine am Tryz.call193 (fW.r) s38 ?_
   refine ae 2 tk rfl ?_
   refine aR rfl rfl rfl H (fun H=>?_) (fun H=>?_)
   ·refine ae 2 tk rfl (av tk (zl _) ?_)
    refine ae 3 tk rfl (ac ?_)
    refine aK _ () (ax H) Gh.d
   refine ae 6 tk rfl (ac ?_)
   refine aK _ () (ax H) Gh.d
  refine aA rfl H (fun H=>?_) (fun H=>?_)
  ·refine ao ?_
   refine aK _ () (ax H) Gh.d
  refine ab ?_
  refine eg (γ := Unit) (fun t8 g8=>⟨148,upd (upd (upd (fun _=>.any) 26 (az t8)) 4 (.fn 193 [(.ptr (aU q))])) 1 (.ptr (aU q)),fun _=>none,fun _=>none⟩) H (fun _ H=>?_) (fun t8 g8 H=>?_)
  ·refine aa (ag tk rfl (ct tk (rows' := List.map aZ ([8] : List Int)) (fh.refl _) ?_))
   obtain ⟨x48,h48,H⟩ := ay H
   have s48 := dG ([8] : List Int) q _ h48
   refine am Tryz.call193 (fW.r) s48 ?_
   refine ae 2 tk rfl ?_
   refine aR rfl rfl rfl H (fun H=>?_) (fun H=>?_)
   ·refine ae 2 tk rfl (av tk (zl _) ?_)
    refine ae 3 tk rfl (ac ?_)
    refine aK _ () (ax H) Gh.d
   refine ae 6 tk rfl (ac ?_)
   refine aK _ () (ax H) Gh.d
  refine aA rfl H (fun H=>?_) (fun H=>?_)
  ·refine ao ?_
   refine aK _ () (ax H) Gh.d
  refine ab ?_
  refine eg (γ := Unit) (fun t9 g9=>⟨148,upd (upd (upd (fun _=>.any) 26 (az t9)) 4 (.fn 193 [(.ptr (aU q))])) 1 (.ptr (aU q)),fun _=>none,fun _=>none⟩) H (fun _ H=>?_) (fun t9 g9 H=>?_)
  ·refine aa (ag tk rfl (ct tk (rows' := List.map aZ ([9] : List Int)) (fh.refl _) ?_))
   obtain ⟨x58,h58,H⟩ := ay H
   have s58 := dG ([9] : List Int) q _ h58
   refine am Tryz.call193 (fW.r) s58 ?_
   refine ae 2 tk rfl ?_
   refine aR rfl rfl rfl H (fun H=>?_) (fun H=>?_)
   ·refine ae 2 tk rfl (av tk (zl _) ?_)
    refine ae 3 tk rfl (ac ?_)
    refine aK _ () (ax H) Gh.d
   refine ae 6 tk rfl (ac ?_)
   refine aK _ () (ax H) Gh.d
  refine aA rfl H (fun H=>?_) (fun H=>?_)
  ·refine ao ?_
   refine aK _ () (ax H) Gh.d
  refine aa (ag tk rfl (ct tk (rows' := List.map aZ ([10] : List Int)) (fh.refl _) ?_))
  obtain ⟨x68,h68,H⟩ := ay H
  have s68 := dG ([10] : List Int) q _ h68
  refine am Tryz.call193 (fW.r) s68 ?_
  refine ae 2 tk rfl ?_
  refine aR rfl rfl rfl H (fun H=>?_) (fun H=>?_)
  ·refine ae 4 tk rfl ?_
   refine aR rfl rfl rfl H (fun H=>?_) (fun H=>?_)
   ·refine ae 6 tk rfl (ac ?_)
    refine aK _ () (ax H) Gh.d
   refine ae 6 tk rfl (ac ?_)
   refine aK _ () (ax H) Gh.d
  refine ae 10 tk rfl (ac ?_)
  refine aK _ () (ax H) Gh.d
 refine aA rfl H (fun H=>?_) (fun H=>?_)
 ·refine al 1 tk rfl ?_
  exact aM tk H rfl
 refine ab (aa (ag tk rfl (ct tk (rows' := List.map aZ ([2,4,5] : List Int)) (fh.refl _) ?_)))
 obtain ⟨x83,h83,H⟩ := ay H
 have s83 := dG ([2,4,5] : List Int) q _ h83
 refine am Tryz.call193 (fW.r) s83 ?_
 refine ag tk rfl (ac ?_)
 refine aA rfl H (fun H=>?_) (fun H=>?_)
 ·refine ab (aa (ae 2 tk rfl (av tk (zl _) ?_)))
  refine ae 2 tk rfl (ac ?_)
  exact aM tk H rfl
 refine ab (aa (ag tk rfl (ct tk (rows' := List.map aZ ([3,8] : List Int)) (fh.refl _) ?_)))
 obtain ⟨x91,h91,H⟩ := ay H
 have s91 := dG ([3,8] : List Int) q _ h91
 refine am Tryz.call193 (fW.r) s91 ?_
 refine ag tk rfl (ac ?_)
 refine aA rfl H (fun H=>?_) (fun H=>?_)
 ·refine ab (aa (ae 2 tk rfl (av tk (zl _) ?_)))
  refine ae 2 tk rfl (av tk (zl _) ?_)
  refine ae 2 tk rfl ?_
  refine aR rfl rfl rfl H (fun H=>?_) (fun H=>?_)
  ·refine ae 2 tk rfl (av tk (zl _) ?_)
   refine ae 2 tk rfl (av tk (zl _) ?_)
   refine ae 4 tk rfl (ac ?_)
   exact aM tk H rfl
  refine ae 10 tk rfl (ac ?_)
  exact aM tk H rfl
 refine ab (aa (ag tk rfl (ct tk (rows' := List.map aZ ([9] : List Int)) (fh.refl _) ?_)))
 obtain ⟨x112,h112,H⟩ := ay H
 have s112 := dG ([9] : List Int) q _ h112
 refine am Tryz.call193 (fW.r) s112 ?_
 refine ag tk rfl (ac ?_)
 refine aA rfl H (fun H=>?_) (fun H=>?_)
 ·refine ab (aa (ae 2 tk rfl (av tk (zl _) ?_)))
  refine ae 2 tk rfl (av tk (zl _) ?_)
  refine ae 2 tk rfl ?_
  refine aR rfl rfl rfl H (fun H=>?_) (fun H=>?_)
  ·refine ae 2 tk rfl (av tk (zl _) ?_)
   refine ae 3 tk rfl (ac ?_)
   exact aM tk H rfl
  refine ae 6 tk rfl (ac ?_)
  exact aM tk H rfl
 refine ab (aa (ag tk rfl (ct tk (rows' := List.map aZ ([10] : List Int)) (fh.refl _) ?_)))
 obtain ⟨x129,h129,H⟩ := ay H
 have s129 := dG ([10] : List Int) q _ h129
 refine am Tryz.call193 (fW.r) s129 ?_
 refine ag tk rfl (ac ?_)
 refine aA rfl H (fun H=>?_) (fun H=>?_)
 ·refine ab (aa (ae 2 tk rfl (av tk (zl _) ?_)))
  refine ae 2 tk rfl ?_
  refine aR rfl rfl rfl H (fun H=>?_) (fun H=>?_)
  ·refine ae 5 tk rfl ?_
   refine aR rfl rfl rfl H (fun H=>?_) (fun H=>?_)
   ·refine ae 5 tk rfl (ac ?_)
    exact aM tk H rfl
   refine ae 5 tk rfl (ac ?_)
   exact aM tk H rfl
  refine ae 10 tk rfl (ac ?_)
  exact aM tk H rfl
 refine ao (aP (ab (aa (ae 2 tk rfl (av tk (zl _) ?_)))))
 refine ae 2 tk rfl (ac ?_)
 exact aM tk H rfl
def cx (c : LChecker) (l : List LCol) (e : LExpr) : Int :=
 letP (dK l c.vars e) fun x15 =>
 cond (x15.2.2 == (0 : Int))
  (cond (x15.1 != (2 : Int))
   (cond (x15.1 != (0 : Int))
    (7)
    (x15.2.2))
   (x15.2.2))
  (x15.2.2)
theorem gW (c : LChecker) (l : List LCol) (e : LExpr) :
  aH Tryz.prog 195 [(.agg (cK c)),(.list 70 (l.map ap)),(.agg (fj e))] (ak (cx c l e)) := by
 obtain ⟨r,H⟩ : ∃ r,cx c l e = r := ⟨_,rfl⟩
 rw [H]
 unfold cx at H
 refine PH.aw Tryz.func195 Tryz.ntmps195 ?_
 refine ab (aa (aD ?_))
 refine aD ?_
 refine ag tk rfl (ac (ab (aa (ae 4 tk rfl ?_))))
 obtain ⟨x15,h15,H⟩ := eh H
 have s15 := gR l c.vars e
 rw [h15] at s15
 refine am Tryz.call86 (fW.r) s15 ?_
 refine ae 7 tk rfl (ac (ab (ab (aa (ae 3 tk rfl ?_)))))
 refine aR rfl rfl rfl H (fun H=>?_) (fun H=>?_)
 ·refine ae 4 tk rfl ?_
  refine aR rfl rfl rfl H (fun H=>?_) (fun H=>?_)
  ·refine ae 3 tk rfl (ac ?_)
   refine aA rfl H (fun H=>?_) (fun H=>?_)
   ·refine al 1 tk rfl ?_
    exact cG tk H rfl
   refine ao (al 2 tk rfl ?_)
   exact cG tk H rfl
  refine ae 3 tk rfl (ac (cQ rfl (ao (al 2 tk rfl ?_))))
  exact cG tk H rfl
 refine ae 7 tk rfl (ac (cQ rfl (ao (al 2 tk rfl ?_))))
 exact cG tk H rfl
def ee (c : LChecker) (inA : List LCol) (a : LAggregateCall) : Option (Int × Int) :=
 af (
  letP (cw a.name) fun x13 =>
  cond (!x13)
   (some true)
   (af (bn ([[99,111,117,110,116],[115,117,109],[109,105,110],[109,97,120]] : List (List UInt8)) a.function) fun x19 =>
   cond (!x19)
    (some true)
    (cond (decide ((a.args.length : Int) > (1 : Int)))
     (some true)
     (cond (decide ((a.args.length : Int) < (1 : Int)))
      (some (!(a.function == ([99,111,117,110,116] : List UInt8))))
      (some false))))) fun (t1 : Bool) =>
 cond t1
  (some (0,3))
  (cond ((a.args.length : Int) == (0 : Int))
   (some (1,0))
   (af (aN a.args 0) fun (x49 : LExpr) =>
   letP (dK inA c.vars x49) fun x51 =>
   cond (x51.2.2 != (0 : Int))
    (some (0,x51.2.2))
    (letP (
     cond (x51.1 == (0 : Int))
      (true)
      (cond (a.function == ([115,117,109] : List UInt8))
       ((x51.1 != (1 : Int)))
       (false))) fun (t2 : Bool) =>
    cond t2
     (some (0,7))
     (cond (a.function == ([99,111,117,110,116] : List UInt8))
      (some (1,0))
      (some (x51.1,0))))))
theorem mL (c : LChecker) (inA : List LCol) (a : LAggregateCall) (r : Int × Int) (H : ee c inA a = some r) :
  aH Tryz.prog 226 [(.agg (cK c)),(.list 70 (inA.map ap)),(.agg (iS a))] (.tup [(ak r.1),(ak r.2)]) := by
 unfold ee at H
 refine PH.aw Tryz.func226 Tryz.ntmps226 ?_
 refine ab (aa (aD ?_))
 refine aD ?_
 refine ae 2 tk rfl (ac (ab (ab ?_)))
 refine eg (γ := Unit) (fun t1 g1=>⟨76,upd (upd (upd (upd (fun _=>.any) 38 (az t1)) 5 (.ptr (iS a))) 3 (.ptr (cK c))) 1 (.list 70 (inA.map ap)),fun _=>none,fun _=>none⟩) H (fun _ H=>?_) (fun t1 g1 H=>?_)
 ·refine aa (ae 2 tk rfl ?_)
  obtain ⟨x13,h13,H⟩ := eh H
  have s13 := gY a.name
  rw [h13] at s13
  refine am Tryz.call95 (fW.r) s13 ?_
  refine ae 2 tk rfl ?_
  refine aR rfl rfl rfl H (fun H=>?_) (fun H=>?_)
  ·refine ae 23 tk rfl (ac ?_)
   refine aK _ () (ax H) Gh.d
  refine ct tk (rows' := List.map rStr ([[99,111,117,110,116],[115,117,109],[109,105,110],[109,97,120]] : List (List UInt8))) (fh.refl _) ?_
  refine ae 2 tk rfl ?_
  obtain ⟨x19,h19,H⟩ := ay H
  have s19 := fI ([[99,111,117,110,116],[115,117,109],[109,105,110],[109,97,120]] : List (List UInt8)) a.function _ h19
  refine am Tryz.call147 (fW.r) s19 ?_
  refine ae 3 tk rfl ?_
  refine aR rfl rfl rfl H (fun H=>?_) (fun H=>?_)
  ·refine ae 16 tk rfl (ac ?_)
   refine aK _ () (ax H) Gh.d
  refine ae 2 tk rfl (av tk (zl _) ?_)
  refine ae 3 tk rfl ?_
  refine aR rfl rfl rfl H (fun H=>?_) (fun H=>?_)
  ·refine ae 10 tk rfl (ac ?_)
   refine aK _ () (ax H) Gh.d
  refine ae 2 tk rfl (av tk (zl _) ?_)
  refine ae 2 tk rfl ?_
  refine aR rfl rfl rfl H (fun H=>?_) (fun H=>?_)
  ·refine ae 5 tk rfl (ac ?_)
   refine aK _ () (ax H) Gh.d
  refine ae 5 tk rfl (ac ?_)
  refine aK _ () (ax H) Gh.d
 refine aA rfl H (fun H=>?_) (fun H=>?_)
 ·refine al 2 tk rfl ?_
  exact aM tk H rfl
 refine ao (ab (ab (aa (ae 2 tk rfl (av tk (zl _) ?_)))))
 refine ag tk rfl (ac ?_)
 refine aA rfl H (fun H=>?_) (fun H=>?_)
 ·refine al 2 tk rfl ?_
  exact aM tk H rfl
 refine ao (ab (bD tk mok ⟨false,false,[]⟩ [0,1,2,3,4,5,6,7,8,9,10,11,12,13,14] rfl (by decide +kernel) rfl (aO 5 rfl ?_)))
 obtain ⟨x49,k49,H⟩ := bL H
 refine bH k49.1 (aS cv k49.2) ?_
 refine bY rfl ?_
 obtain ⟨x51,h51,H⟩ := eh H
 have s51 := gR inA c.vars x49
 rw [h51] at s51
 refine bj Tryz.call86 (fW.r) s51 ?_
 refine aO 7 rfl (bi (ab (aC (al 3 tk rfl ?_))))
 refine aA rfl H (fun H=>?_) (fun H=>?_)
 ·refine al 3 tk rfl ?_
  exact aM tk H rfl
 refine ab ?_
 refine en (γ := Unit) (fun t2 g2=>⟨76,upd (upd (upd (fun _=>.any) 59 (az t2)) 8 (ak x51.1)) 5 (.ptr (iS a)),fun _=>none,fun _=>none⟩) H (fun _ H=>?_) (fun t2 g2 H=>?_)
 ·refine aa (ae 3 tk rfl ?_)
  refine aR rfl rfl rfl H (fun H=>?_) (fun H=>?_)
  ·refine ae 9 tk rfl (ac ?_)
   refine aK _ () H Gh.d
  refine ae 4 tk rfl ?_
  refine aR rfl rfl rfl H (fun H=>?_) (fun H=>?_)
  ·refine ae 5 tk rfl (ac ?_)
   refine aK _ () H Gh.d
  refine ae 5 tk rfl (ac ?_)
  refine aK _ () H Gh.d
 refine aA rfl H (fun H=>?_) (fun H=>?_)
 ·refine al 2 tk rfl ?_
  exact aM tk H rfl
 refine al 4 tk rfl ?_
 refine aA rfl H (fun H=>?_) (fun H=>?_)
 ·refine al 2 tk rfl ?_
  exact aM tk H rfl
 refine ao (aP (al 3 tk rfl ?_))
 exact aM tk H rfl
def eG (rA : LProcedureRun) (sA : LProcedureStatement) : Option (Int × LProcedureRun) :=
 cond (sA.kind == (1 : Int))
  (af (aN sA.exprs 0) fun (x22 : LExpr) =>
  letP (dK ([] : List LCol) rA.vars x22) fun _ =>
  af (aN sA.exprs 0) fun (_ : LExpr) =>
  none)
  (cond (sA.kind == (2 : Int))
   (af (aN sA.exprs 0) fun (_ : LExpr) =>
   none)
   (letP (
    cond (sA.kind == (3 : Int))
     ((sA.kind == (3 : Int)))
     ((sA.kind == (7 : Int)))) fun (t1 : Bool) =>
   cond t1
    (none)
    (cond (sA.kind == (4 : Int))
     (af (aF (σ := Unit) (ρ := Empty) (fun (_ : Nat) (_ : LExpr) (_ : Unit) =>
      none) 0 sA.exprs ()) fun fl2=>fl2.thenP fun (_ : Unit) =>
     none)
     (letP (
      cond (sA.kind == (5 : Int))
       ((sA.kind == (5 : Int)))
       ((sA.kind == (6 : Int)))) fun (t3 : Bool) =>
     cond t3
      (none)
      (cond (sA.kind == (8 : Int))
       (letP (cE sA.code) fun x96 =>
       some (x96,rA))
       (cond (sA.kind == (9 : Int))
        (some (0,(LProcedureRun.mk rA.s rA.st rA.args rA.vars rA.vals rA.changes rA.results rA.left true)))
        (some (0,rA))))))))
theorem mc (b_rA : Nat) (rA : LProcedureRun) (sA : LProcedureStatement) (r : Int × LProcedureRun) (H : eG rA sA = some r) :
  PH Tryz.prog 61 [(.box 1500 b_rA 0),(.agg (aq sA))] ⟨upd (fun _=>none) 1500 (some ⟨b_rA,(bJ rA)⟩),fun _=>none⟩ (fun u H=>u = (ak r.1) ∧ H = ⟨upd (fun _=>none) 1500 (some ⟨b_rA,(bJ r.2)⟩),fun _=>none⟩) := by
 unfold eG at H
 refine PH.aw Tryz.func61 Tryz.ntmps61 ?_
 refine ab (aa (aD ?_))
 refine ag tk rfl (ac (ab (al 2 tk rfl (aC (al 2 tk rfl ?_)))))
 refine aA rfl H (fun H=>?_) (fun H=>?_)
 ·refine ab (bD tk mok ⟨true,false,[21,23]⟩ [0,1,2,3,4,5,6,7,8,9,10,11,12,13,14,15] rfl (by decide +kernel) rfl (aO 3 rfl (bE ?_)))
  refine aO 2 rfl ?_
  obtain ⟨x22,k22,H⟩ := bL H
  refine bH k22.1 (aS cv k22.2) ?_
  refine bY rfl ?_
  obtain ⟨x24,h24,H⟩ := eh H
  have s24 := gR ([] : List LCol) rA.vars x22
  rw [h24] at s24
  refine bj Tryz.call86 (fW.of2 (fe.cons (PLe2.nil tk rfl) (fe.cons (PLe2.of_eq rfl) (fe.cons (PLe2.of_eq rfl) fe.nil)))) s24 ?_
  refine aO 7 rfl (bi (bD tk mok ⟨false,false,[]⟩ [0,1,2,3,4,5,6,7,8,9,10,11,12] rfl (by decide +kernel) rfl (aO 9 rfl ?_)))
  obtain ⟨x37,k37,H⟩ := bL H
  refine bH k37.1 (aS cv k37.2) ?_
  refine bY rfl ?_
  cases H
 refine al 2 tk rfl ?_
 refine aA rfl H (fun H=>?_) (fun H=>?_)
 ·refine ab (ab (aa (ae 3 tk rfl ?_)))
  obtain ⟨x46,k46,H⟩ := bL H
  refine aX tk k46.1 (aS cv k46.2) ?_
  refine ag tk rfl ?_
  cases H
 refine ab (al 2 tk rfl ?_)
 refine en (γ := Unit) (fun t1 g1=>⟨102,upd (upd (upd (upd (fun _=>.any) 58 (az t1)) 12 (ak sA.kind)) 3 (.ptr (aq sA))) 0 (.box 1500 b_rA 0),upd (fun _=>none) 1500 (some ⟨b_rA,(bJ rA)⟩),fun _=>none⟩) H (fun _ H=>?_) (fun t1 g1 H=>?_)
 ·refine aA rfl H (fun H=>?_) (fun H=>?_)
  ·refine ao ?_
   refine aK _ () H Gh.d
  refine bm 2 tk rfl ?_
  refine aK _ () H Gh.d
 refine aA rfl H (fun H=>?_) (fun H=>?_)
 ·refine ab (aa (ae 2 tk rfl ?_))
  cases H
 refine al 2 tk rfl ?_
 refine aA rfl H (fun H=>?_) (fun H=>?_)
 ·refine al 1 tk rfl (ab (ab (aa (ae 2 tk rfl (av tk (zl _) ?_)))))
  refine ag tk rfl (ac ?_)
  refine iq tk 69 68 67 (fun s2 g2=>upd (upd (upd (fun _=>.any) 8 (.val (.slice none 0 0))) 3 (.ptr (aq sA))) 0 (.box 1500 b_rA 0)) (fun s2 g2=>upd (fun _=>none) 1500 (some ⟨b_rA,(bJ rA)⟩)) nO () H (fun fl2 Hp2 j2 s2 g2 hz2 hl2 x2 fb2 hx2 H hg2=>?_) (fun s2 g2 H=>?_)
  ·refine ab (aC (ab (aa (aX tk (zn j2) (bp cv hx2) ?_))))
   refine ag tk rfl ?_
   refine bd tk fun b10=>?_
   refine aE tk ?_
   refine ac (aa (ae 2 tk rfl (aB tk ?_)))
   cases H
  refine ab (aa (ae 5 tk rfl ?_))
  cases H
 refine ab (al 2 tk rfl ?_)
 refine en (γ := Unit) (fun t3 g3=>⟨102,upd (upd (upd (upd (fun _=>.any) 86 (az t3)) 12 (ak sA.kind)) 3 (.ptr (aq sA))) 0 (.box 1500 b_rA 0),upd (fun _=>none) 1500 (some ⟨b_rA,(bJ rA)⟩),fun _=>none⟩) H (fun _ H=>?_) (fun t3 g3 H=>?_)
 ·refine aA rfl H (fun H=>?_) (fun H=>?_)
  ·refine ao ?_
   refine aK _ () H Gh.d
  refine bm 2 tk rfl ?_
  refine aK _ () H Gh.d
 refine aA rfl H (fun H=>?_) (fun H=>?_)
 ·refine ab (aa (ae 2 tk rfl ?_))
  cases H
 refine al 2 tk rfl ?_
 refine aA rfl H (fun H=>?_) (fun H=>?_)
 ·refine ab (aa (ae 2 tk rfl ?_))
  obtain ⟨x96,h96,H⟩ := eh H
  have s96 := iu sA.code
  rw [h96] at s96
  refine am Tryz.call13 (fW.r) s96 ?_
  refine ag tk rfl (ac ?_)
  obtain rfl := ax H
  refine gA (st' := ⟨102,upd (fun _=>.any) 4 (ak x96),upd (fun _=>none) 1500 (some ⟨b_rA,(bJ rA)⟩),fun _=>none⟩) (Gh.le (aI bN) (aT rfl (fW.r) bf) be) ?_
  refine ik tk rfl (ps := [(ak x96)]) ⟨_,_,rfl,rfl,rfl⟩ (PLe.q rfl) ⟨rfl,rfl⟩
 refine al 2 tk rfl ?_
 refine aA rfl H (fun H=>?_) (fun H=>?_)
 ·refine aa (ae 3 tk rfl (aE tk ?_))
  refine ac (aP (al 1 tk rfl ?_))
  obtain rfl := ax H
  refine gA (st' := ⟨102,upd (fun _=>.any) 4 (ak 0),upd (fun _=>none) 1500 (some ⟨b_rA,(bJ (LProcedureRun.mk rA.s rA.st rA.args rA.vars rA.vals rA.changes rA.results rA.left true))⟩),fun _=>none⟩) (Gh.le (aI bN) (aT rfl (fW.r) bf) be) ?_
  refine ik tk rfl (ps := [(ak 0)]) ⟨_,_,rfl,rfl,rfl⟩ (PLe.q rfl) ⟨rfl,rfl⟩
 refine ao (aP (al 1 tk rfl ?_))
 obtain rfl := ax H
 refine gA (st' := ⟨102,upd (fun _=>.any) 4 (ak 0),upd (fun _=>none) 1500 (some ⟨b_rA,(bJ rA)⟩),fun _=>none⟩) (Gh.le (aI bN) (aT rfl (fW.r) bf) be) ?_
 refine ik tk rfl (ps := [(ak 0)]) ⟨_,_,rfl,rfl,rfl⟩ (PLe.q rfl) ⟨rfl,rfl⟩
def dh (sA : LSchema) (c : LConstraint) : Option (Int) :=
 af (dM sA c.table) fun x14 =>
 cond (!x14.2)
  (some 4)
  (af (aN sA.tables x14.1) fun (x22 : LTable) =>
  letP (eI (LVal.mk 0 0 []) c.op (LVal.mk 0 0 [])) fun x30 =>
  letP (
   cond (decide (c.left < (0 : Int)))
    (true)
    (cond (decide (c.left ≥ (x22.columns.length : Int)))
     (true)
     (cond (x30.2 != (0 : Int))
      (true)
      (cond (decide (c.right < (-1)))
       (true)
       (cond (decide (c.right ≥ (x22.columns.length : Int)))
        (true)
        (cond (decide (c.right ≥ (0 : Int)))
         ((!(c.value.kind == (0 : Int) && (c.value.int == (0 : Int) && (c.value.text == ([] : List UInt8) && true)))))
         (false))))))) fun (t1 : Bool) =>
  cond t1
   (some 3)
   (cond (decide (c.right ≥ (0 : Int)))
    (af (aN x22.columns c.left) fun (x76 : LCol) =>
    af (aN x22.columns c.right) fun (x82 : LCol) =>
    cond (x76.kind != x82.kind)
     (some 7)
     (some 0))
    (af (aN x22.columns c.left) fun (x92 : LCol) =>
    cond (c.value.kind != x92.kind)
     (some 7)
     (letP (co c.value) fun x98 =>
     some x98))))
theorem jE (sA : LSchema) (c : LConstraint) (r : Int) (H : dh sA c = some r) :
  aH Tryz.prog 59 [(.agg (bK sA)),(.agg (gp c))] (ak r) := by
 unfold dh at H
 refine PH.aw Tryz.func59 Tryz.ntmps59 ?_
 refine ab (aa (aD ?_))
 refine aD ?_
 refine ag tk rfl (ac (ab (aa (ae 3 tk rfl ?_))))
 obtain ⟨x14,h14,H⟩ := ay H
 have s14 := ia sA c.table _ h14
 refine am Tryz.call81 (fW.r) s14 ?_
 refine ae 5 tk rfl (ac (ab (al 2 tk rfl ?_)))
 refine aA rfl H (fun H=>?_) (fun H=>?_)
 ·refine al 1 tk rfl ?_
  exact aM tk H rfl
 refine ao (ab (aa (ae 3 tk rfl ?_)))
 obtain ⟨x22,k22,H⟩ := bL H
 refine aX tk k22.1 (aS (fun _=>rfl) k22.2) ?_
 refine ae 3 tk rfl (ac (ab (aa (ae 4 tk rfl ?_))))
 obtain ⟨x30,h30,H⟩ := eh H
 have s30 := nM (LVal.mk 0 0 []) c.op (LVal.mk 0 0 [])
 rw [h30] at s30
 refine am Tryz.call84 (fW.r) s30 ?_
 refine ae 5 tk rfl (ac (ab (ab ?_)))
 refine en (γ := Unit) (fun t1 g1=>⟨99,upd (upd (upd (fun _=>.any) 69 (az t1)) 7 (.list 70 (x22.columns.map ap))) 3 (.ptr (gp c)),fun _=>none,fun _=>none⟩) H (fun _ H=>?_) (fun t1 g1 H=>?_)
 ·refine aa (ae 4 tk rfl ?_)
  refine aR rfl rfl rfl H (fun H=>?_) (fun H=>?_)
  ·refine ae 33 tk rfl (ac ?_)
   refine aK _ () H Gh.d
  refine ae 3 tk rfl (av tk (zl _) ?_)
  refine ae 3 tk rfl ?_
  refine aR rfl rfl rfl H (fun H=>?_) (fun H=>?_)
  ·refine ae 26 tk rfl (ac ?_)
   refine aK _ () H Gh.d
  refine ae 4 tk rfl ?_
  refine aR rfl rfl rfl H (fun H=>?_) (fun H=>?_)
  ·refine ae 22 tk rfl (ac ?_)
   refine aK _ () H Gh.d
  refine ae 5 tk rfl ?_
  refine aR rfl rfl rfl H (fun H=>?_) (fun H=>?_)
  ·refine ae 17 tk rfl (ac ?_)
   refine aK _ () H Gh.d
  refine ae 3 tk rfl (av tk (zl _) ?_)
  refine ae 3 tk rfl ?_
  refine aR rfl rfl rfl H (fun H=>?_) (fun H=>?_)
  ·refine ae 10 tk rfl (ac ?_)
   refine aK _ () H Gh.d
  refine ae 4 tk rfl ?_
  refine aR rfl rfl rfl H (fun H=>?_) (fun H=>?_)
  ·refine ae 6 tk rfl (ac ?_)
   refine aK _ () H Gh.d
  refine ae 6 tk rfl (ac ?_)
  refine aK _ () H Gh.d
 refine aA rfl H (fun H=>?_) (fun H=>?_)
 ·refine al 1 tk rfl ?_
  exact aM tk H rfl
 refine ao (ab (al 3 tk rfl ?_))
 refine aA rfl H (fun H=>?_) (fun H=>?_)
 ·refine ab (ab (bD tk mok ⟨false,false,[]⟩ [0,1,2,3,4,5,6,7,8,9,10,11,12] rfl (by decide +kernel) rfl (aO 3 rfl ?_)))
  obtain ⟨x76,k76,H⟩ := bL H
  refine bH k76.1 (aS (fun _=>rfl) k76.2) ?_
  refine aO 5 rfl ?_
  obtain ⟨x82,k82,H⟩ := bL H
  refine bH k82.1 (aS (fun _=>rfl) k82.2) ?_
  refine aO 3 rfl (bi ?_)
  refine aA rfl H (fun H=>?_) (fun H=>?_)
  ·refine al 1 tk rfl ?_
   exact aM tk H rfl
  refine ao (al 1 tk rfl ?_)
  exact aM tk H rfl
 refine ao (ab (ab (bD tk mok ⟨false,false,[]⟩ [0,1,2,3,4,5,6,7,8,9] rfl (by decide +kernel) rfl (aO 6 rfl ?_))))
 obtain ⟨x92,k92,H⟩ := bL H
 refine bH k92.1 (aS (fun _=>rfl) k92.2) ?_
 refine aO 3 rfl (bi ?_)
 refine aA rfl H (fun H=>?_) (fun H=>?_)
 ·refine al 1 tk rfl ?_
  exact aM tk H rfl
 refine ao (ab (aa (ae 2 tk rfl ?_)))
 obtain ⟨x98,h98,H⟩ := eh H
 have s98 := kS c.value
 rw [h98] at s98
 refine am Tryz.call75 (fW.r) s98 ?_
 refine ag tk rfl (ac ?_)
 exact aM tk H rfl
def cV (sA : LSchema) (inst : List LRelation) : Option (Int) :=
 cond ((inst.length : Int) != (sA.tables.length : Int))
  (some 3)
  (af (aF (σ := Unit) (ρ := (Int)) (fun (j1 : Nat) (x1 : LRelation) (_ : Unit) =>
   af (aN sA.tables (j1 : Int)) fun (x28 : LTable) =>
   cond (!(x1.table == x28.name))
    (some (.ret 3))
    (cond (decide ((x1.rows.length : Int) > (24 : Int)))
     (some (.ret 2))
     (af (aF (σ := Unit) (ρ := (Int)) (fun (j3 : Nat) (x3 : Rq) (_ : Unit) =>
      af (cO x28 x3) fun x49 =>
      cond (x49 != (0 : Int))
       (some (.ret x49))
       (cond ((j3 : Int) == (0 : Int))
        (some (.next ()))
        (af (aN x1.rows (IntKind.i64.wrap ((j3 : Int) - (1 : Int)))) fun (x60 : Rq) =>
        af (cn x28 x60) fun x62 =>
        af (cn x28 x3) fun x65 =>
        af (cA x62 x65) fun x66 =>
        cond (x66 == (0 : Int))
         (some (.ret 9))
         (cond (decide (x66 > (0 : Int)))
          (some (.ret 6))
          (some (.next ())))))) 0 x1.rows ()) fun fl3=>fl3.thenF fun (_ : Unit) =>
     some (.next ())))) 0 inst ()) fun fl1=>fl1.thenR fun (_ : Unit) =>
  some 0)
theorem ji (sA : LSchema) (inst : List LRelation) (r : Int) (H : cV sA inst = some r) :
  aH Tryz.prog 23 [(.agg (bK sA)),(.list 79 (inst.map cy))] (ak r) := by
 unfold cV at H
 refine PH.aw Tryz.func23 Tryz.ntmps23 ?_
 refine ab (aa (aD ?_))
 refine ag tk rfl (ac (ab (ab (aa (ag tk rfl (av tk (zl _) ?_))))))
 refine ae 2 tk rfl (av tk (zl _) ?_)
 refine ag tk rfl (ac ?_)
 refine aA rfl H (fun H=>?_) (fun H=>?_)
 ·refine al 1 tk rfl ?_
  exact aM tk H rfl
 refine ao (ab (ab (aa (ag tk rfl (av tk (zl _) ?_)))))
 refine ag tk rfl (ac ?_)
 refine dZ tk 20 19 18 (fun s1 g1=>upd (fun _=>.any) 2 (.ptr (bK sA))) nB nO () H (fun fl1 Hp1 j1 s1 g1 hz1 hl1 x1 fb1 hx1 H hg1=>?_) (fun s1 g1 H=>?_)
 ·refine ab (aC (ab (aa (ag tk rfl ?_))))
  refine aX tk (zn j1) (bp (fun _=>rfl) hx1) ?_
  refine ag tk rfl ?_
  refine bd tk fun b6=>?_
  refine ag tk rfl (aE tk ?_)
  refine ac (ab (aa (ae 3 tk rfl ?_)))
  obtain ⟨x28,k28,H⟩ := bL H
  refine aX tk k28.1 (aS (fun _=>rfl) k28.2) ?_
  refine ag tk rfl ?_
  refine bd tk fun b7=>?_
  refine aE tk ?_
  refine ac (ab (ab (aa (ag tk rfl (aB tk ?_)))))
  refine ag tk rfl (aB tk ?_)
  refine ag tk rfl (ac ?_)
  refine aA rfl H (fun H=>?_) (fun H=>?_)
  ·refine al 1 tk rfl ?_
   obtain rfl := ax H
   have e1 : fl1 = .ret _ := hg1
   subst e1
   obtain rfl := aG Hp1
   refine aL tk rfl (ps := [(ak 3)]) ⟨_,_,rfl,rfl,rfl⟩ (PLe.q rfl)
  refine ao (ab (ab (aa (ag tk rfl (aB tk ?_)))))
  refine av tk (zl _) ?_
  refine ag tk rfl (ac ?_)
  refine aA rfl H (fun H=>?_) (fun H=>?_)
  ·refine al 1 tk rfl ?_
   obtain rfl := ax H
   have e1 : fl1 = .ret _ := hg1
   subst e1
   obtain rfl := aG Hp1
   refine aL tk rfl (ps := [(ak 2)]) ⟨_,_,rfl,rfl,rfl⟩ (PLe.q rfl)
  refine ao (ab (aa (ag tk rfl (aB tk ?_))))
  refine av tk (zl _) ?_
  refine ag tk rfl (ac ?_)
  obtain ⟨fl3,H3,Hp3⟩ := ay H
  refine gO tk 40 rfl rfl (fun hz3 _=>?_)
  rw [zl] at hz3
  refine io (τ := Unit) (γ := Unit) (fun s3 g3=>⟨75,upd (upd (upd (upd (fun _=>.any) 20 (ak (j1 : Int))) 19 (ak (inst.length : Int))) 18 (.list 79 (inst.map cy))) 2 (.ptr (bK sA)),fun _=>none,fun _=>none⟩) (fun t=>fl3 = .next t) ?_ (fun s3 g3 hn3=>?_)
  ·refine aC ?_
   refine iI (fun j3 s3 g3=>⟨75,upd (upd (upd (upd (upd (upd (upd (upd (upd (fun _=>.any) 42 (ak (j3 : Int))) 41 (ak (x1.rows.length : Int))) 40 (.list 77 (x1.rows.map (gL 75 aY)))) 20 (ak (j1 : Int))) 19 (ak (inst.length : Int))) 18 (.list 79 (inst.map cy))) 7 (.box 7 b7 0)) 6 (.box 6 b6 0)) 2 (.ptr (bK sA)),upd (upd (fun _=>none) 7 (some ⟨b7,(bu x28)⟩)) 6 (some ⟨b6,(cy x1)⟩),fun _=>none⟩) () H3 Gh.d (fun j3 s3 g3 hj3 hr3=>?_)
   refine al 1 tk rfl (ab ?_)
   refine cS rfl (fun h=>?_) (fun h=>?_)
   ·have hl3 := rowsLt h
    obtain ⟨x3,fb3,hx3,H,hg3⟩ := rMc hl3 hr3
    refine ao (ab (aC (ab (aa (ag tk rfl ?_)))))
    refine aX tk (zn j3) (bp (fun _=>rfl) hx3) ?_
    refine ae 3 tk rfl (ac (ab (ab (aa (aB tk ?_)))))
    refine ag tk rfl ?_
    obtain ⟨x49,h49,H⟩ := ay H
    have s49 := lx x28 x3 _ h49
    refine am Tryz.call49 (fW.r) s49 ?_
    refine ag tk rfl (ac (al 2 tk rfl ?_))
    refine aA rfl H (fun H=>?_) (fun H=>?_)
    ·refine al 2 tk rfl ?_
     obtain rfl := ax H
     have e3 : fl3 = .ret _ := hg3
     subst e3
     have q3 := iO Hp3
     subst q3
     have e1 : fl1 = .ret _ := hg1
     subst e1
     obtain rfl := aG Hp1
     refine aL tk rfl (ps := [(ak x49)]) ⟨_,_,rfl,rfl,rfl⟩ (PLe.q rfl)
    refine ao (ab (al 2 tk rfl ?_))
    refine aA rfl H (fun H=>?_) (fun H=>?_)
    ·refine cT rfl (bm 2 tk rfl ?_)
     exact bv () H hl3 hg3
    refine ao (ab (bD tk mok ⟨true,false,[61]⟩ [0,1,2,3,4,5,6,8,9,7,10,11,12] rfl (by decide +kernel) rfl (bE ?_)))
    refine bY rfl (bE ?_)
    refine aO 2 rfl ?_
    obtain ⟨x60,k60,H⟩ := bL H
    refine bH k60.1 (aS (fun _=>rfl) k60.2) ?_
    refine bY rfl (bE ?_)
    refine bY rfl ?_
    obtain ⟨x62,h62,H⟩ := ay H
    have s62 := lP x28 x60 _ h62
    refine bj Tryz.call51 (fW.r) s62 ?_
    obtain ⟨x65,h65,H⟩ := ay H
    have s65 := lP x28 x3 _ h65
    refine bj Tryz.call51 (fW.r) s65 ?_
    obtain ⟨x66,h66,H⟩ := ay H
    have s66 := mQ x62 x65 _ h66
    refine bj Tryz.call50 (fW.r) s66 ?_
    refine bY rfl (bi (aC (al 3 tk rfl ?_)))
    refine aA rfl H (fun H=>?_) (fun H=>?_)
    ·refine al 1 tk rfl ?_
     obtain rfl := ax H
     have e3 : fl3 = .ret _ := hg3
     subst e3
     have q3 := iO Hp3
     subst q3
     have e1 : fl1 = .ret _ := hg1
     subst e1
     obtain rfl := aG Hp1
     refine aL tk rfl (ps := [(ak 9)]) ⟨_,_,rfl,rfl,rfl⟩ (PLe.q rfl)
    refine al 3 tk rfl ?_
    refine aA rfl H (fun H=>?_) (fun H=>?_)
    ·refine al 1 tk rfl ?_
     obtain rfl := ax H
     have e3 : fl3 = .ret _ := hg3
     subst e3
     have q3 := iO Hp3
     subst q3
     have e1 : fl1 = .ret _ := hg1
     subst e1
     obtain rfl := aG Hp1
     refine aL tk rfl (ps := [(ak 6)]) ⟨_,_,rfl,rfl,rfl⟩ (PLe.q rfl)
    refine ao (aP (aP (bm 2 tk rfl ?_)))
    exact bv () H hl3 hg3
   have hn3 := rMd (rowsGe h) hr3
   refine cT rfl ?_
   refine aK s3 g3 hn3 Gh.d
  have H := thenF_next hn3 Hp3
  refine aP (bm 2 tk rfl ?_)
  exact bv () H hl1 hg1
 refine al 1 tk rfl ?_
 exact aM tk H rfl
def cu (c : LProcedureChecker) (cols : List LCol) (vars : List LCol) (e : LExpr) : Option (Int) :=
 af (cq c cols vars e) fun x17 =>
 cond (x17.2.2 == (0 : Int))
  (cond (x17.1 != (2 : Int))
   (cond (x17.1 != (0 : Int))
    (some 7)
    (some x17.2.2))
   (some x17.2.2))
  (some x17.2.2)
theorem gg (c : LProcedureChecker) (cols : List LCol) (vars : List LCol) (e : LExpr) (r : Int) (H : cu c cols vars e = some r) :
  aH Tryz.prog 97 [(.agg (aQ c)),(.list 70 (cols.map ap)),(.list 70 (vars.map ap)),(.agg (fj e))] (ak r) := by
 unfold cu at H
 refine PH.aw Tryz.func97 Tryz.ntmps97 ?_
 refine ab (aa (aD ?_))
 refine aD ?_
 refine ag tk rfl (ac (ab (aa (ae 4 tk rfl ?_))))
 obtain ⟨x17,h17,H⟩ := ay H
 have s17 := fo c cols vars e _ h17
 refine am Tryz.call94 (fW.r) s17 ?_
 refine ae 7 tk rfl (ac (ab (ab (aa (ae 3 tk rfl ?_)))))
 refine aR rfl rfl rfl H (fun H=>?_) (fun H=>?_)
 ·refine ae 4 tk rfl ?_
  refine aR rfl rfl rfl H (fun H=>?_) (fun H=>?_)
  ·refine ae 3 tk rfl (ac ?_)
   refine aA rfl H (fun H=>?_) (fun H=>?_)
   ·refine al 1 tk rfl ?_
    exact aM tk H rfl
   refine ao (al 2 tk rfl ?_)
   exact aM tk H rfl
  refine ae 3 tk rfl (ac (cQ rfl (ao (al 2 tk rfl ?_))))
  exact aM tk H rfl
 refine ae 7 tk rfl (ac (cQ rfl (ao (al 2 tk rfl ?_))))
 exact aM tk H rfl
def db (c : LChecker) (q : LQuery) (inA : List LCol) : Option ((List LCol) × Int) :=
 af (aF (σ := List LCol) (ρ := ((List LCol) × Int)) (fun (j1 : Nat) (x1 : LExpr) (s1 : List LCol) =>
  letP (dK inA c.vars x1) fun x31 =>
  af (aN q.names (j1 : Int)) fun (x39 : List UInt8) =>
  letP (cw x39) fun x41 =>
  cond (!x41)
   (some (.ret ([],3)))
   (cond (x31.2.2 != (0 : Int))
    (some (.ret ([],x31.2.2)))
    (cond (x31.1 == (0 : Int))
     (some (.ret ([],7)))
     (af (aN q.names (j1 : Int)) fun (x54 : List UInt8) =>
     af (ej 32 s1 ([(LCol.mk x54 x31.1 x31.2.1)] : List LCol)) fun (x60 : List LCol) =>
     some (.next x60))))) 0 q.exprs []) fun fl1=>fl1.thenR fun (s1 : List LCol) =>
 af (aF (σ := List LCol) (ρ := ((List LCol) × Int)) (fun (_ : Nat) (x2 : LAggregateCall) (s2 : List LCol) =>
  af (ee c inA x2) fun x73 =>
  cond (x73.2 != (0 : Int))
   (some (.ret ([],x73.2)))
   (af (ej 32 s2 ([(LCol.mk x2.name x73.1 (!(x2.function == ([99,111,117,110,116] : List UInt8))))] : List LCol)) fun (x88 : List LCol) =>
   some (.next x88))) 0 q.aggregates s1) fun fl2=>fl2.thenR fun (s2 : List LCol) =>
 some (s2,0)
theorem jo (c : LChecker) (q : LQuery) (inA : List LCol) (r : (List LCol) × Int) (H : db c q inA = some r) :
  aH Tryz.prog 197 [(.agg (cK c)),(.agg (aU q)),(.list 70 (inA.map ap))] (.tup [(.list 70 (r.1.map ap)),(ak r.2)]) := by
 unfold db at H
 refine PH.aw Tryz.func197 Tryz.ntmps197 ?_
 refine ab (aa (aD ?_))
 refine aD ?_
 refine ae 2 tk rfl (ac (al 1 tk rfl (ab (ab (aa (ae 2 tk rfl (av tk (zl _) ?_)))))))
 refine ag tk rfl (ac (lO tk 8 60 (e := 70) rfl rfl ?_))
 refine dZ (γ := OwnRef) tk 21 20 19 (fun s1 g1=>upd (upd (upd (upd (fun _=>.any) 8 (.own 60 g1 (s1.map ap).length)) 4 (.ptr (aU q))) 3 (.ptr (cK c))) 2 (.list 70 (inA.map ap))) nB (fun s1 g1=>upd (fun _=>none) 60 (some ⟨g1,70,(s1.map ap),true⟩)) (⟨none,0⟩) H (fun fl1 Hp1 j1 s1 g1 hz1 hl1 x1 fb1 hx1 H hg1=>?_) (fun s1 g1 H=>?_)
 ·refine ab (aC (ab (aa (ag tk rfl (aX tk (zn j1) (bp cv hx1) ?_)))))
  refine ag tk rfl ?_
  refine bd tk fun b10=>?_
  refine ag tk rfl (aE tk ?_)
  refine ac (ab (aa (ae 3 tk rfl (aB tk ?_))))
  obtain ⟨x31,h31,H⟩ := eh H
  have s31 := gR inA c.vars x1
  rw [h31] at s31
  refine am Tryz.call86 (fW.r) s31 ?_
  refine ae 7 tk rfl (ac (ab (aC (ab (aa (ae 3 tk rfl ?_))))))
  obtain ⟨x39,k39,H⟩ := bL H
  refine aX tk k39.1 (aS (fun _=>rfl) k39.2) ?_
  refine ag tk rfl ?_
  obtain ⟨x41,h41,H⟩ := eh H
  have s41 := gY x39
  rw [h41] at s41
  refine am Tryz.call95 (fW.r) s41 ?_
  refine ae 2 tk rfl (ac ?_)
  refine aA rfl H (fun H=>?_) (fun H=>?_)
  ·refine al 2 tk rfl ?_
   obtain rfl := ax H
   have e1 : fl1 = .ret _ := hg1
   subst e1
   obtain rfl := aG Hp1
   refine aL tk rfl (ps := [(.val (.slice none 0 0)),(ak 3)]) ⟨_,_,rfl,rfl,_,_,rfl,rfl,rfl⟩ (PLe.of2 (PLe2.tup (fe.cons (PLe2.nil tk rfl) (fe.cons (PLe2.of_eq rfl) fe.nil))))
  refine al 3 tk rfl ?_
  refine aA rfl H (fun H=>?_) (fun H=>?_)
  ·refine al 3 tk rfl ?_
   obtain rfl := ax H
   have e1 : fl1 = .ret _ := hg1
   subst e1
   obtain rfl := aG Hp1
   refine aL tk rfl (ps := [(.val (.slice none 0 0)),(ak x31.2.2)]) ⟨_,_,rfl,rfl,_,_,rfl,rfl,rfl⟩ (PLe.of2 (PLe2.tup (fe.cons (PLe2.nil tk rfl) (fe.cons (PLe2.of_eq rfl) fe.nil))))
  refine al 3 tk rfl ?_
  refine aA rfl H (fun H=>?_) (fun H=>?_)
  ·refine al 2 tk rfl ?_
   obtain rfl := ax H
   have e1 : fl1 = .ret _ := hg1
   subst e1
   obtain rfl := aG Hp1
   refine aL tk rfl (ps := [(.val (.slice none 0 0)),(ak 7)]) ⟨_,_,rfl,rfl,_,_,rfl,rfl,rfl⟩ (PLe.of2 (PLe2.tup (fe.cons (PLe2.nil tk rfl) (fe.cons (PLe2.of_eq rfl) fe.nil))))
  refine ao (aP (aa (ae 4 tk rfl ?_)))
  obtain ⟨x54,k54,H⟩ := bL H
  refine aX tk k54.1 (aS (fun _=>rfl) k54.2) ?_
  refine ae 4 tk rfl (ct tk (rows' := List.map ap ([(LCol.mk x54 x31.1 x31.2.1)] : List LCol)) (fh.refl _) ?_)
  obtain ⟨x60,h60,H⟩ := ay H
  have k60 := eo h60
  refine cW (rows2' := List.map ap ([(LCol.mk x54 x31.1 x31.2.1)] : List LCol)) (rows' := List.map ap x60) tk rfl rfl rfl rfl rfl rfl rfl rfl rfl rfl rfl rfl rfl (fh.refl _) (fC k60.1) (fB k60.2.1) (fy k60.2.2) fun g60=>?_
  refine ag tk rfl (ac (aP (bm 2 tk rfl ?_)))
  exact bv g60 H hl1 hg1
 refine ab (ab (aa (ae 2 tk rfl (av tk (zl _) ?_))))
 refine ag tk rfl (ac ?_)
 refine dZ (γ := OwnRef) tk 65 64 63 (fun s2 g2=>upd (upd (upd (fun _=>.any) 8 (.own 60 g2 (s2.map ap).length)) 3 (.ptr (cK c))) 2 (.list 70 (inA.map ap))) nB (fun s2 g2=>upd (fun _=>none) 60 (some ⟨g2,70,(s2.map ap),true⟩)) g1 H (fun fl2 Hp2 j2 s2 g2 hz2 hl2 x2 fb2 hx2 H hg2=>?_) (fun s2 g2 H=>?_)
 ·refine ab (aC (ab (aa ?_)))
  refine aX tk (zn j2) (bp (fun _=>rfl) hx2) ?_
  refine ag tk rfl ?_
  refine bd tk fun b15=>?_
  refine aE tk ?_
  refine ac (ab (aa (ae 2 tk rfl (aB tk ?_))))
  obtain ⟨x73,h73,H⟩ := ay H
  have s73 := mL c inA x2 _ h73
  refine am Tryz.call226 (fW.r) s73 ?_
  refine ae 5 tk rfl (ac (ab (al 2 tk rfl ?_)))
  refine aA rfl H (fun H=>?_) (fun H=>?_)
  ·refine al 3 tk rfl ?_
   obtain rfl := ax H
   have e2 : fl2 = .ret _ := hg2
   subst e2
   obtain rfl := aG Hp2
   refine aL tk rfl (ps := [(.val (.slice none 0 0)),(ak x73.2)]) ⟨_,_,rfl,rfl,_,_,rfl,rfl,rfl⟩ (PLe.of2 (PLe2.tup (fe.cons (PLe2.nil tk rfl) (fe.cons (PLe2.of_eq rfl) fe.nil))))
  refine ao (aa (ae 2 tk rfl (aB tk ?_)))
  refine ae 2 tk rfl (aB tk ?_)
  refine ae 2 tk rfl ?_
  refine ct tk (rows' := List.map ap ([(LCol.mk x2.name x73.1 (!(x2.function == ([99,111,117,110,116] : List UInt8))))] : List LCol)) (fh.refl _) ?_
  obtain ⟨x88,h88,H⟩ := ay H
  have k88 := eo h88
  refine cW (rows2' := List.map ap ([(LCol.mk x2.name x73.1 (!(x2.function == ([99,111,117,110,116] : List UInt8))))] : List LCol)) (rows' := List.map ap x88) tk rfl rfl rfl rfl rfl rfl rfl rfl rfl rfl rfl rfl rfl (fh.refl _) (fC k88.1) (fB k88.2.1) (fy k88.2.2) fun g88=>?_
  refine ag tk rfl (ac (aP (bm 2 tk rfl ?_)))
  exact bv g88 H hl2 hg2
 refine al 3 tk rfl (gG 6 rfl rfl rfl ?_)
 exact aM tk H rfl
def eE (rA : LProcedureRun) (l : List LProcedureStatement) : Option (Int × LProcedureRun) :=
 af (aF (σ := List LTable × List LForeignKey × List LConstraint × List LRelation × Rq × List LCol × Rq × List LChange × List LResult × Int × Bool) (ρ := (Int × LProcedureRun)) (fun (_ : Nat) (x1 : LProcedureStatement) (s1 : List LTable × List LForeignKey × List LConstraint × List LRelation × Rq × List LCol × Rq × List LChange × List LResult × Int × Bool) =>
  cond s1.2.2.2.2.2.2.2.2.2.2
   (some (.ret (0,(LProcedureRun.mk (LSchema.mk s1.1 s1.2.1 s1.2.2.1) s1.2.2.2.1 s1.2.2.2.2.1 s1.2.2.2.2.2.1 s1.2.2.2.2.2.2.1 s1.2.2.2.2.2.2.2.1 s1.2.2.2.2.2.2.2.2.1 s1.2.2.2.2.2.2.2.2.2.1 s1.2.2.2.2.2.2.2.2.2.2))))
   (cond (decide ((IntKind.i64.wrap (s1.2.2.2.2.2.2.2.2.2.1 - (1 : Int))) < (0 : Int)))
    (some (.ret (2,(LProcedureRun.mk (LSchema.mk s1.1 s1.2.1 s1.2.2.1) s1.2.2.2.1 s1.2.2.2.2.1 s1.2.2.2.2.2.1 s1.2.2.2.2.2.2.1 s1.2.2.2.2.2.2.2.1 s1.2.2.2.2.2.2.2.2.1 (IntKind.i64.wrap (s1.2.2.2.2.2.2.2.2.2.1 - (1 : Int))) s1.2.2.2.2.2.2.2.2.2.2))))
    (af (eG (LProcedureRun.mk (LSchema.mk s1.1 s1.2.1 s1.2.2.1) s1.2.2.2.1 s1.2.2.2.2.1 s1.2.2.2.2.2.1 s1.2.2.2.2.2.2.1 s1.2.2.2.2.2.2.2.1 s1.2.2.2.2.2.2.2.2.1 (IntKind.i64.wrap (s1.2.2.2.2.2.2.2.2.2.1 - (1 : Int))) s1.2.2.2.2.2.2.2.2.2.2) x1) fun x32 =>
    cond (x32.1 != (0 : Int))
     (some (.ret (x32.1,x32.2)))
     (some (.next (x32.2.s.tables,x32.2.s.foreignKeys,x32.2.s.constraints,x32.2.st,x32.2.args,x32.2.vars,x32.2.vals,x32.2.changes,x32.2.results,x32.2.left,x32.2.stopped)))))) 0 l (rA.s.tables,rA.s.foreignKeys,rA.s.constraints,rA.st,rA.args,rA.vars,rA.vals,rA.changes,rA.results,rA.left,rA.stopped)) fun fl1=>fl1.thenR fun (s1 : List LTable × List LForeignKey × List LConstraint × List LRelation × Rq × List LCol × Rq × List LChange × List LResult × Int × Bool) =>
 some (0,(LProcedureRun.mk (LSchema.mk s1.1 s1.2.1 s1.2.2.1) s1.2.2.2.1 s1.2.2.2.2.1 s1.2.2.2.2.2.1 s1.2.2.2.2.2.2.1 s1.2.2.2.2.2.2.2.1 s1.2.2.2.2.2.2.2.2.1 s1.2.2.2.2.2.2.2.2.2.1 s1.2.2.2.2.2.2.2.2.2.2))
theorem mh (b_rA : Nat) (rA : LProcedureRun) (l : List LProcedureStatement) (r : Int × LProcedureRun) (H : eE rA l = some r) :
  PH Tryz.prog 32 [(.box 1500 b_rA 0),(.list 55 (l.map ah))] ⟨upd (fun _=>none) 1500 (some ⟨b_rA,(bJ rA)⟩),fun _=>none⟩ (fun u H=>u = (ak r.1) ∧ H = ⟨upd (fun _=>none) 1500 (some ⟨b_rA,(bJ r.2)⟩),fun _=>none⟩) := by
 unfold eE at H
 refine PH.aw Tryz.func32 Tryz.ntmps32 ?_
 refine al 1 tk rfl (ab (ab (aa (ag tk rfl (av tk (zl _) ?_)))))
 refine ag tk rfl (ac ?_)
 refine dZ tk 10 9 8 (fun s1 g1=>upd (fun _=>.any) 0 (.box 1500 b_rA 0)) (fun s1 g1=>upd (fun _=>none) 1500 (some ⟨b_rA,[(.list 73 (s1.1.map bu)),(.list 131 (s1.2.1.map ft)),(.list 137 (s1.2.2.1.map gp)),(.list 79 (s1.2.2.2.1.map cy)),(.list 75 (s1.2.2.2.2.1.map aY)),(.list 70 (s1.2.2.2.2.2.1.map ap)),(.list 75 (s1.2.2.2.2.2.2.1.map aY)),(.list 179 (s1.2.2.2.2.2.2.2.1.map ni)),(.list 42 (s1.2.2.2.2.2.2.2.2.1.map nk)),(ak s1.2.2.2.2.2.2.2.2.2.1),(az s1.2.2.2.2.2.2.2.2.2.2)]⟩)) nO () H (fun fl1 Hp1 j1 s1 g1 hz1 hl1 x1 fb1 hx1 H hg1=>?_) (fun s1 g1 H=>?_)
 ·refine ab (aC (ab (aa (aX tk (zn j1) (bp bs hx1) ?_))))
  refine ag tk rfl ?_
  refine bd tk fun b6=>?_
  refine aE tk ?_
  refine ac (ab (ab (aa (ae 3 tk rfl (aB tk ?_)))))
  refine ac ?_
  refine aA rfl H (fun H=>?_) (fun H=>?_)
  ·refine al 1 tk rfl ?_
   obtain rfl := ax H
   have e1 : fl1 = .ret _ := hg1
   subst e1
   obtain rfl := aG Hp1
   refine gA (st' := ⟨37,upd (fun _=>.any) 4 (ak 0),upd (fun _=>none) 1500 (some ⟨b_rA,(bJ (LProcedureRun.mk (LSchema.mk s1.1 s1.2.1 s1.2.2.1) s1.2.2.2.1 s1.2.2.2.2.1 s1.2.2.2.2.2.1 s1.2.2.2.2.2.2.1 s1.2.2.2.2.2.2.2.1 s1.2.2.2.2.2.2.2.2.1 s1.2.2.2.2.2.2.2.2.2.1 s1.2.2.2.2.2.2.2.2.2.2))⟩),fun _=>none⟩) (Gh.le (aI bN) (aT rfl (fW.r) bf) be) ?_
   refine ik tk rfl (ps := [(ak 0)]) ⟨_,_,rfl,rfl,rfl⟩ (PLe.q rfl) ⟨rfl,rfl⟩
  refine ao (ab (ab (aa (ae 3 tk rfl (aB tk ?_)))))
  refine ae 3 tk rfl (aE tk ?_)
  refine ac (ab (aa (ae 3 tk rfl (aB tk ?_))))
  refine ag tk rfl (ac ?_)
  refine aA rfl H (fun H=>?_) (fun H=>?_)
  ·refine al 1 tk rfl ?_
   obtain rfl := ax H
   have e1 : fl1 = .ret _ := hg1
   subst e1
   obtain rfl := aG Hp1
   refine gA (st' := ⟨37,upd (fun _=>.any) 4 (ak 2),upd (fun _=>none) 1500 (some ⟨b_rA,(bJ (LProcedureRun.mk (LSchema.mk s1.1 s1.2.1 s1.2.2.1) s1.2.2.2.1 s1.2.2.2.2.1 s1.2.2.2.2.2.1 s1.2.2.2.2.2.2.1 s1.2.2.2.2.2.2.2.1 s1.2.2.2.2.2.2.2.2.1 (IntKind.i64.wrap (s1.2.2.2.2.2.2.2.2.2.1 - (1 : Int))) s1.2.2.2.2.2.2.2.2.2.2))⟩),fun _=>none⟩) (Gh.le (aI bN) (aT rfl (fW.r) bf) be) ?_
   refine ik tk rfl (ps := [(ak 2)]) ⟨_,_,rfl,rfl,rfl⟩ (PLe.q rfl) ⟨rfl,rfl⟩
  refine ao (ab (aa (ag tk rfl (aB tk ?_))))
  obtain ⟨x32,h32,H⟩ := ay H
  have s32 := mc b_rA (LProcedureRun.mk (LSchema.mk s1.1 s1.2.1 s1.2.2.1) s1.2.2.2.1 s1.2.2.2.2.1 s1.2.2.2.2.2.1 s1.2.2.2.2.2.2.1 s1.2.2.2.2.2.2.2.1 s1.2.2.2.2.2.2.2.2.1 (IntKind.i64.wrap (s1.2.2.2.2.2.2.2.2.2.1 - (1 : Int))) s1.2.2.2.2.2.2.2.2.2.2) x1 _ h32
  refine iG (g := 61) rfl rfl rfl Tryz.call61 [(1500,1500)] [] rfl rfl rfl rfl (fW.of2 (fe.cons PLe2.boxT (fe.cons (PLe2.of_eq rfl) fe.nil))) (by rw [dF,hJ,hC]; rfl) s32 ?_
  rintro u32 H32h ⟨rfl,rfl⟩
  refine ⟨_,rfl,?_⟩
  refine gn (st' := ⟨_,_,upd (upd (fun _=>none) 1500 (some ⟨b_rA,(bJ x32.2)⟩)) 6 (some ⟨b6,(aq x1)⟩),fun _=>none⟩) (Gh.le (fE _ _) (aT rfl (fW.r) (aT rfl (fW.r) bf)) be) ?_
  refine ag tk rfl (ac (al 2 tk rfl ?_))
  refine aA rfl H (fun H=>?_) (fun H=>?_)
  ·refine al 2 tk rfl ?_
   obtain rfl := ax H
   have e1 : fl1 = .ret _ := hg1
   subst e1
   obtain rfl := aG Hp1
   refine gA (st' := ⟨37,upd (fun _=>.any) 4 (ak x32.1),upd (fun _=>none) 1500 (some ⟨b_rA,(bJ x32.2)⟩),fun _=>none⟩) (Gh.le (aI bN) (aT rfl (fW.r) bf) be) ?_
   refine ik tk rfl (ps := [(ak x32.1)]) ⟨_,_,rfl,rfl,rfl⟩ (PLe.q rfl) ⟨rfl,rfl⟩
  refine ao (aP (bm 2 tk rfl ?_))
  exact bv () H hl1 hg1
 refine al 1 tk rfl ?_
 obtain rfl := ax H
 refine gA (st' := ⟨37,upd (fun _=>.any) 4 (ak 0),upd (fun _=>none) 1500 (some ⟨b_rA,(bJ (LProcedureRun.mk (LSchema.mk s1.1 s1.2.1 s1.2.2.1) s1.2.2.2.1 s1.2.2.2.2.1 s1.2.2.2.2.2.1 s1.2.2.2.2.2.2.1 s1.2.2.2.2.2.2.2.1 s1.2.2.2.2.2.2.2.2.1 s1.2.2.2.2.2.2.2.2.2.1 s1.2.2.2.2.2.2.2.2.2.2))⟩),fun _=>none⟩) (Gh.le (aI bN) (aT rfl (fW.r) bf) be) ?_
 refine ik tk rfl (ps := [(ak 0)]) ⟨_,_,rfl,rfl,rfl⟩ (PLe.q rfl) ⟨rfl,rfl⟩
def fp (sA : LSchema) : Option (Int) :=
 letP (
  cond (decide ((sA.tables.length : Int) > (6 : Int)))
   (true)
   (cond (decide ((sA.foreignKeys.length : Int) > (8 : Int)))
    (true)
    ((decide ((sA.constraints.length : Int) > (8 : Int)))))) fun (t1 : Bool) =>
 cond t1
  (some 2)
  (af (aF (σ := Unit) (ρ := (Int)) (fun (j2 : Nat) (x2 : LTable) (_ : Unit) =>
   af (dy x2) fun x37 =>
   cond (x37 != (0 : Int))
    (some (.ret x37))
    (cond (decide ((j2 : Int) > (0 : Int)))
     (af (aN sA.tables (IntKind.i64.wrap ((j2 : Int) - (1 : Int)))) fun (x50 : LTable) =>
     cond (Op.bytesLess x2.name x50.name || x2.name == x50.name)
      (some (.ret 6))
      (some (.next ())))
     (some (.next ())))) 0 sA.tables ()) fun fl2=>fl2.thenR fun (_ : Unit) =>
  af (aF (σ := Unit) (ρ := (Int)) (fun (j3 : Nat) (x3 : LForeignKey) (_ : Unit) =>
   af (dg sA x3) fun x66 =>
   cond (x66 != (0 : Int))
    (some (.ret x66))
    (af (jp sA.foreignKeys 0 (j3 : Int)) fun (x73 : List LForeignKey) =>
    af (br x73 (fun a0=>ed a0 x3)) fun x75 =>
    cond x75
     (some (.ret 5))
     (some (.next ())))) 0 sA.foreignKeys ()) fun fl3=>fl3.thenR fun (_ : Unit) =>
  af (aF (σ := Unit) (ρ := (Int)) (fun (j4 : Nat) (x4 : LConstraint) (_ : Unit) =>
   af (dh sA x4) fun x87 =>
   cond (x87 != (0 : Int))
    (some (.ret x87))
    (af (jp sA.constraints 0 (j4 : Int)) fun (x94 : List LConstraint) =>
    af (bB x94 x4) fun x96 =>
    cond x96
     (some (.ret 5))
     (some (.next ())))) 0 sA.constraints ()) fun fl4=>fl4.thenR fun (_ : Unit) =>
  some 0)
theorem nI (sA : LSchema) (r : Int) (H : fp sA = some r) :
  aH Tryz.prog 29 [(.agg (bK sA))] (ak r) := by
 unfold fp at H
 refine PH.aw Tryz.func29 Tryz.ntmps29 ?_
 refine ab (aa (aD ?_))
 refine ag tk rfl (ac (ab (ab ?_)))
 refine en (γ := Unit) (fun t1 g1=>⟨98,upd (upd (fun _=>.any) 27 (az t1)) 1 (.ptr (bK sA)),fun _=>none,fun _=>none⟩) H (fun _ H=>?_) (fun t1 g1 H=>?_)
 ·refine aa (ae 2 tk rfl (av tk (zl _) ?_))
  refine ae 2 tk rfl ?_
  refine aR rfl rfl rfl H (fun H=>?_) (fun H=>?_)
  ·refine ae 11 tk rfl (ac ?_)
   refine aK _ () H Gh.d
  refine ae 2 tk rfl (av tk (zl _) ?_)
  refine ae 3 tk rfl ?_
  refine aR rfl rfl rfl H (fun H=>?_) (fun H=>?_)
  ·refine ae 5 tk rfl (ac ?_)
   refine aK _ () H Gh.d
  refine ae 2 tk rfl (av tk (zl _) ?_)
  refine ae 2 tk rfl (ac ?_)
  refine aK _ () H Gh.d
 refine aA rfl H (fun H=>?_) (fun H=>?_)
 ·refine al 1 tk rfl ?_
  exact aM tk H rfl
 refine ao (ab (ab (aa (ae 2 tk rfl (av tk (zl _) ?_)))))
 refine ag tk rfl (ac ?_)
 refine dZ tk 31 30 29 (fun s2 g2=>upd (fun _=>.any) 1 (.ptr (bK sA))) nB nO () H (fun fl2 Hp2 j2 s2 g2 hz2 hl2 x2 fb2 hx2 H hg2=>?_) (fun s2 g2 H=>?_)
 ·refine ab (aC (ab (aa (ag tk rfl ?_))))
  refine aX tk (zn j2) (bp (fun _=>rfl) hx2) ?_
  refine ag tk rfl ?_
  refine bd tk fun b4=>?_
  refine ag tk rfl (aE tk ?_)
  refine ac (ab (ab (aa (aB tk ?_))))
  obtain ⟨x37,h37,H⟩ := ay H
  have s37 := lD x2 _ h37
  refine am Tryz.call54 (fW.r) s37 ?_
  refine ag tk rfl (ac (al 2 tk rfl ?_))
  refine aA rfl H (fun H=>?_) (fun H=>?_)
  ·refine al 2 tk rfl ?_
   obtain rfl := ax H
   have e2 : fl2 = .ret _ := hg2
   subst e2
   obtain rfl := aG Hp2
   refine aL tk rfl (ps := [(ak x37)]) ⟨_,_,rfl,rfl,rfl⟩ (PLe.q rfl)
  refine ao (ab (bD tk mok ⟨true,false,[47,52]⟩ [0,1,2,3,4,5,6,7,8,9,10,11,12,13] rfl (by decide +kernel) rfl (aO 3 rfl ?_)))
  refine iU H (fun H=>?_) (fun H=>?_)
  ·refine bY rfl (bE ?_)
   refine aO 4 rfl ?_
   obtain ⟨x50,k50,H⟩ := bL H
   refine bH k50.1 (aS (fun _=>rfl) k50.2) ?_
   refine aO 4 rfl (bi ?_)
   refine aA rfl H (fun H=>?_) (fun H=>?_)
   ·refine al 1 tk rfl ?_
    obtain rfl := ax H
    have e2 : fl2 = .ret _ := hg2
    subst e2
    obtain rfl := aG Hp2
    refine aL tk rfl (ps := [(ak 6)]) ⟨_,_,rfl,rfl,rfl⟩ (PLe.q rfl)
   refine ao (aP (bm 2 tk rfl ?_))
   exact bv () H hl2 hg2
  refine aO 11 rfl (bi (cQ rfl (ao (aP (bm 2 tk rfl ?_)))))
  exact bv () H hl2 hg2
 refine ab (ab (aa (ae 2 tk rfl (av tk (zl _) ?_))))
 refine ag tk rfl (ac ?_)
 refine dZ tk 59 58 57 (fun s3 g3=>upd (fun _=>.any) 1 (.ptr (bK sA))) nB nO () H (fun fl3 Hp3 j3 s3 g3 hz3 hl3 x3 fb3 hx3 H hg3=>?_) (fun s3 g3 H=>?_)
 ·refine ab (aC (ab (aa (ag tk rfl ?_))))
  refine aX tk (zn j3) (bp (fun _=>rfl) hx3) ?_
  refine ag tk rfl ?_
  refine bd tk fun b7=>?_
  refine ag tk rfl (aE tk ?_)
  refine ac (ab (ab (aa (ag tk rfl (aB tk ?_)))))
  obtain ⟨x66,h66,H⟩ := ay H
  have s66 := jH sA x3 _ h66
  refine am Tryz.call55 (fW.r) s66 ?_
  refine ag tk rfl (ac (al 2 tk rfl ?_))
  refine aA rfl H (fun H=>?_) (fun H=>?_)
  ·refine al 2 tk rfl ?_
   obtain rfl := ax H
   have e3 : fl3 = .ret _ := hg3
   subst e3
   obtain rfl := aG Hp3
   refine aL tk rfl (ps := [(ak x66)]) ⟨_,_,rfl,rfl,rfl⟩ (PLe.q rfl)
  refine ao (ab (aa (ae 3 tk rfl ?_)))
  obtain ⟨x73,h73,H⟩ := ay H
  have k73 := jI h73
  refine oO tk rfl rfl rfl rfl rfl (zl _) rfl rfl k73.1 (kU k73.2) rfl (gn (Gh.freezeB 7 rfl rfl rfl rfl) (ag tk rfl ?_))
  obtain ⟨x75,h75,H⟩ := ay H
  have s75 := fg x73 (fun a0=>ed a0 x3) Tryz.call57 (fun a0 r h=>mM a0 x3 r h) _ h75
  refine am Tryz.call56 (fW.r) s75 ?_
  refine ac ?_
  refine aA rfl H (fun H=>?_) (fun H=>?_)
  ·refine al 1 tk rfl ?_
   obtain rfl := ax H
   have e3 : fl3 = .ret _ := hg3
   subst e3
   obtain rfl := aG Hp3
   refine aL tk rfl (ps := [(ak 5)]) ⟨_,_,rfl,rfl,rfl⟩ (PLe.q rfl)
  refine ao (aP (bm 2 tk rfl ?_))
  exact bv () H hl3 hg3
 refine ab (ab (aa (ae 2 tk rfl (av tk (zl _) ?_))))
 refine ag tk rfl (ac ?_)
 refine dZ tk 80 79 78 (fun s4 g4=>upd (fun _=>.any) 1 (.ptr (bK sA))) nB nO () H (fun fl4 Hp4 j4 s4 g4 hz4 hl4 x4 fb4 hx4 H hg4=>?_) (fun s4 g4 H=>?_)
 ·refine ab (aC (ab (aa (ag tk rfl ?_))))
  refine aX tk (zn j4) (bp (fun _=>rfl) hx4) ?_
  refine ag tk rfl ?_
  refine bd tk fun b10=>?_
  refine ag tk rfl (aE tk ?_)
  refine ac (ab (ab (aa (ag tk rfl (aB tk ?_)))))
  obtain ⟨x87,h87,H⟩ := ay H
  have s87 := jE sA x4 _ h87
  refine am Tryz.call59 (fW.r) s87 ?_
  refine ag tk rfl (ac (al 2 tk rfl ?_))
  refine aA rfl H (fun H=>?_) (fun H=>?_)
  ·refine al 2 tk rfl ?_
   obtain rfl := ax H
   have e4 : fl4 = .ret _ := hg4
   subst e4
   obtain rfl := aG Hp4
   refine aL tk rfl (ps := [(ak x87)]) ⟨_,_,rfl,rfl,rfl⟩ (PLe.q rfl)
  refine ao (ab (bD tk mok ⟨true,false,[92]⟩ [0,1,2,3,4,5] rfl (by decide +kernel) rfl (aO 3 rfl ?_)))
  obtain ⟨x94,h94,H⟩ := ay H
  have k94 := jI h94
  refine oB rfl rfl rfl rfl rfl rfl (zl _) rfl rfl k94.1 (kU k94.2) rfl (bE ?_)
  obtain ⟨x96,h96,H⟩ := ay H
  have s96 := fF x94 x4 _ h96
  refine bj Tryz.call60 (fW.r) s96 ?_
  refine bi ?_
  refine aA rfl H (fun H=>?_) (fun H=>?_)
  ·refine al 1 tk rfl ?_
   obtain rfl := ax H
   have e4 : fl4 = .ret _ := hg4
   subst e4
   obtain rfl := aG Hp4
   refine aL tk rfl (ps := [(ak 5)]) ⟨_,_,rfl,rfl,rfl⟩ (PLe.q rfl)
  refine ao (aP (bm 2 tk rfl ?_))
  exact bv () H hl4 hg4
 refine al 1 tk rfl ?_
 exact aM tk H rfl
def eQ (c : LChecker) (q : LQuery) (inA : List (List LCol)) : Option ((List LCol) × Int) :=
 cond (q.kind == (1 : Int))
  (af (bG c.s.tables (fun a0=>some (da a0 q))) fun x25 =>
  cond (decide (x25 < (0 : Int)))
   (some ([],4))
   (af (aN c.s.tables x25) fun (x32 : LTable) =>
   some (x32.columns,0)))
  (cond (q.kind == (2 : Int))
   (af (aN inA 0) fun (x39 : List LCol) =>
   af (aN inA 0) fun (x43 : List LCol) =>
   af (aN q.exprs 0) fun (x47 : LExpr) =>
   letP (cx c x43 x47) fun x49 =>
   some (x39,x49))
   (letP (
    cond (q.kind == (4 : Int))
     ((q.kind == (4 : Int)))
     ((q.kind == (5 : Int)))) fun (t1 : Bool) =>
   cond t1
    (af (aN inA 0) fun (x54 : List LCol) =>
    af (aN inA 1) fun (x58 : List LCol) =>
    af (aF (σ := List LCol) (ρ := Empty) (fun (_ : Nat) (x2 : LCol) (s2 : List LCol) =>
     cond x2.nullable
      (af (ej 32 s2 ([(LCol.mk x2.name x2.kind true)] : List LCol)) fun (x76 : List LCol) =>
      some (.next x76))
      (af (ej 32 s2 ([(LCol.mk x2.name x2.kind (q.kind == (5 : Int)))] : List LCol)) fun (x76 : List LCol) =>
      some (.next x76))) 0 x58 x54) fun fl2=>fl2.thenP fun (s2 : List LCol) =>
    af (aN q.exprs 0) fun (x83 : LExpr) =>
    letP (cx c s2 x83) fun x85 =>
    some (s2,x85))
    (letP (
     cond (q.kind == (6 : Int))
      ((q.kind == (6 : Int)))
      ((q.kind == (7 : Int)))) fun (t3 : Bool) =>
    cond t3
     (af (aN inA 0) fun (x92 : List LCol) =>
     af (aN inA 1) fun (x95 : List LCol) =>
     af (eT q.kind x92 x95) fun x97 =>
     some (x97.1,x97.2))
     (letP (
      cond (q.kind == (3 : Int))
       ((q.kind == (3 : Int)))
       ((q.kind == (8 : Int)))) fun (t4 : Bool) =>
     cond t4
      (af (aN inA 0) fun (x106 : List LCol) =>
      af (db c q x106) fun x108 =>
      some (x108.1,x108.2))
      (cond (q.kind == (9 : Int))
       (af (aF (σ := Unit) (ρ := ((List LCol) × Int)) (fun (_ : Nat) (x5 : LExpr) (_ : Unit) =>
        af (aN inA 0) fun (x122 : List LCol) =>
        letP (dK x122 c.vars x5) fun x127 =>
        cond (x127.2.2 != (0 : Int))
         (some (.ret ([],x127.2.2)))
         (some (.next ()))) 0 q.exprs ()) fun fl5=>fl5.thenR fun (_ : Unit) =>
       af (aN inA 0) fun (x136 : List LCol) =>
       some (x136,0))
       (af (aN inA 0) fun (x136 : List LCol) =>
       some (x136,0)))))))
theorem mP (c : LChecker) (q : LQuery) (inA : List (List LCol)) (r : (List LCol) × Int) (H : eQ c q inA = some r) :
  aH Tryz.prog 161 [(.agg (cK c)),(.agg (aU q)),(.list 39 (inA.map (gL 70 ap)))] (.tup [(.list 70 (r.1.map ap)),(ak r.2)]) := by
 unfold eQ at H
 refine PH.aw Tryz.func161 Tryz.ntmps161 ?_
 refine ab (aa (aD ?_))
 refine aD ?_
 refine ae 2 tk rfl (ac (ab (al 2 tk rfl (aC (al 2 tk rfl ?_)))))
 refine aA rfl H (fun H=>?_) (fun H=>?_)
 ·refine ab (aa (ae 4 tk rfl ?_))
  obtain ⟨x25,h25,H⟩ := ay H
  have s25 := du c.s.tables (fun a0=>some (da a0 q)) Tryz.call194 (fun a0 r h=>(ax h) ▸ lU a0 q) _ h25
  refine am Tryz.call131 (fW.r) s25 ?_
  refine ag tk rfl (ac (ab (al 2 tk rfl ?_)))
  refine aA rfl H (fun H=>?_) (fun H=>?_)
  ·refine al 2 tk rfl ?_
   obtain rfl := ax H
   refine aL tk rfl (ps := [(.val (.slice none 0 0)),(ak 4)]) ⟨_,_,rfl,rfl,_,_,rfl,rfl,rfl⟩ (PLe.of2 (PLe2.tup (fe.cons (PLe2.nil tk rfl) (fe.cons (PLe2.of_eq rfl) fe.nil))))
  refine ao (ab (aa (ae 4 tk rfl ?_)))
  obtain ⟨x32,k32,H⟩ := bL H
  refine aX tk k32.1 (aS (fun _=>rfl) k32.2) ?_
  refine ae 2 tk rfl ?_
  have s35 := lj (m := 35) x32.columns
  refine am Tryz.call136 (fW.r) (aH.of_own s35) ?_
  refine ae 2 tk rfl (ac ?_)
  exact aM tk H rfl
 refine al 2 tk rfl ?_
 refine aA rfl H (fun H=>?_) (fun H=>?_)
 ·refine ab (bD tk mok ⟨false,false,[]⟩ [0,1,2,3,4,5,6,7,8,9,10,11,12,13] rfl (by decide +kernel) rfl (bY rfl ?_))
  obtain ⟨x39,k39,H⟩ := bL H
  refine bH k39.1 (aS (fun _=>rfl) k39.2) ?_
  refine aO 3 rfl ?_
  obtain ⟨x43,k43,H⟩ := bL H
  refine bH k43.1 (aS (fun _=>rfl) k43.2) ?_
  refine aO 3 rfl ?_
  obtain ⟨x47,k47,H⟩ := bL H
  refine bH k47.1 (aS cv k47.2) ?_
  refine bY rfl ?_
  obtain ⟨x49,h49,H⟩ := eh H
  have s49 := gW c x43 x47
  rw [h49] at s49
  refine bj Tryz.call195 (fW.r) s49 ?_
  refine aO 2 rfl (bi ?_)
  exact aM tk H rfl
 refine ab (al 2 tk rfl ?_)
 refine en (γ := Unit) (fun t1 g1=>⟨138,upd (upd (upd (upd (upd (fun _=>.any) 50 (az t1)) 18 (ak q.kind)) 4 (.ptr (aU q))) 3 (.ptr (cK c))) 2 (.list 39 (inA.map (gL 70 ap))),fun _=>none,fun _=>none⟩) H (fun _ H=>?_) (fun t1 g1 H=>?_)
 ·refine aA rfl H (fun H=>?_) (fun H=>?_)
  ·refine ao ?_
   refine aK _ () H Gh.d
  refine bm 2 tk rfl ?_
  refine aK _ () H Gh.d
 refine aA rfl H (fun H=>?_) (fun H=>?_)
 ·refine ab (aa (ag tk rfl ?_))
  obtain ⟨x54,k54,H⟩ := bL H
  refine aX tk k54.1 (aS (fun _=>rfl) k54.2) ?_
  refine ag tk rfl ?_
  have s56 := lj (m := 56) x54
  refine og (g := 136) rfl rfl rfl Tryz.call136 (fW.r) rfl rfl s56 (fun g56=>?_)
  refine ag tk rfl (ac (ab (ab (aa (ag tk rfl ?_)))))
  obtain ⟨x58,k58,H⟩ := bL H
  refine aX tk k58.1 (aS (fun _=>rfl) k58.2) ?_
  refine ag tk rfl (av tk (zl _) ?_)
  refine ag tk rfl (ac ?_)
  refine iq (γ := OwnRef) tk 61 60 59 (fun s2 g2=>upd (upd (upd (fun _=>.any) 9 (.own 56 g2 (s2.map ap).length)) 4 (.ptr (aU q))) 3 (.ptr (cK c))) nB (fun s2 g2=>upd (fun _=>none) 56 (some ⟨g2,70,(s2.map ap),true⟩)) g56 H (fun fl2 Hp2 j2 s2 g2 hz2 hl2 x2 fb2 hx2 H hg2=>?_) (fun s2 g2 H=>?_)
  ·refine ab (aC (ab (aa ?_)))
   refine aX tk (zn j2) (bp (fun _=>rfl) hx2) ?_
   refine ag tk rfl ?_
   refine bd tk fun b11=>?_
   refine aE tk ?_
   refine ac (ab (aa (ag tk rfl (aB tk ?_))))
   refine ag tk rfl ?_
   refine aR rfl rfl rfl H (fun H=>?_) (fun H=>?_)
   ·refine ae 5 tk rfl (aE tk ?_)
    refine ac (aa (ag tk rfl (aB tk ?_)))
    refine ct tk (rows' := List.map ap ([(LCol.mk x2.name x2.kind true)] : List LCol)) (fh.refl _) ?_
    obtain ⟨x76,h76,H⟩ := ay H
    have k76 := eo h76
    refine cW (rows2' := List.map ap ([(LCol.mk x2.name x2.kind true)] : List LCol)) (rows' := List.map ap x76) tk rfl rfl rfl rfl rfl rfl rfl rfl rfl rfl rfl rfl rfl (fh.refl _) (fC k76.1) (fB k76.2.1) (fy k76.2.2) fun g76=>?_
    refine ag tk rfl (ac (aP (bm 2 tk rfl ?_)))
    exact bv g76 H hl2 hg2
   refine ae 5 tk rfl (aE tk ?_)
   refine ac (aa (ag tk rfl (aB tk ?_)))
   refine ct tk (rows' := List.map ap ([(LCol.mk x2.name x2.kind (q.kind == (5 : Int)))] : List LCol)) (fh.refl _) ?_
   obtain ⟨x76,h76,H⟩ := ay H
   have k76 := eo h76
   refine cW (rows2' := List.map ap ([(LCol.mk x2.name x2.kind (q.kind == (5 : Int)))] : List LCol)) (rows' := List.map ap x76) tk rfl rfl rfl rfl rfl rfl rfl rfl rfl rfl rfl rfl rfl (fh.refl _) (fC k76.1) (fB k76.2.1) (fy k76.2.2) fun g76=>?_
   refine ag tk rfl (ac (aP (bm 2 tk rfl ?_)))
   exact bv g76 H hl2 hg2
  refine ab (gG 9 rfl rfl rfl (bD tk mok ⟨false,false,[]⟩ [0,1,2,3,4,5,6,7,8,9] rfl (by decide +kernel) rfl (aO 5 rfl ?_)))
  obtain ⟨x83,k83,H⟩ := bL H
  refine bH k83.1 (aS cv k83.2) ?_
  refine bY rfl ?_
  obtain ⟨x85,h85,H⟩ := eh H
  have s85 := gW c s2 x83
  rw [h85] at s85
  refine bj Tryz.call195 (fW.r) s85 ?_
  refine aO 2 rfl (bi ?_)
  exact aM tk H rfl
 refine ab (al 2 tk rfl ?_)
 refine en (γ := Unit) (fun t3 g3=>⟨138,upd (upd (upd (upd (upd (fun _=>.any) 86 (az t3)) 18 (ak q.kind)) 4 (.ptr (aU q))) 3 (.ptr (cK c))) 2 (.list 39 (inA.map (gL 70 ap))),fun _=>none,fun _=>none⟩) H (fun _ H=>?_) (fun t3 g3 H=>?_)
 ·refine aA rfl H (fun H=>?_) (fun H=>?_)
  ·refine ao ?_
   refine aK _ () H Gh.d
  refine bm 2 tk rfl ?_
  refine aK _ () H Gh.d
 refine aA rfl H (fun H=>?_) (fun H=>?_)
 ·refine ab (bD tk mok ⟨false,false,[]⟩ [0,1,2,3,4,5,6,7,8,9,10,11,12] rfl (by decide +kernel) rfl (aO 3 rfl ?_))
  obtain ⟨x92,k92,H⟩ := bL H
  refine bH k92.1 (aS (fun _=>rfl) k92.2) ?_
  refine aO 2 rfl ?_
  obtain ⟨x95,k95,H⟩ := bL H
  refine bH k95.1 (aS (fun _=>rfl) k95.2) ?_
  refine bY rfl ?_
  obtain ⟨x97,h97,H⟩ := ay H
  have s97 := mR q.kind x92 x95 _ h97
  refine bj Tryz.call196 (fW.r) s97 ?_
  refine aO 4 rfl (bi ?_)
  exact aM tk H rfl
 refine ab (al 2 tk rfl ?_)
 refine en (γ := Unit) (fun t4 g4=>⟨138,upd (upd (upd (upd (upd (fun _=>.any) 100 (az t4)) 18 (ak q.kind)) 4 (.ptr (aU q))) 3 (.ptr (cK c))) 2 (.list 39 (inA.map (gL 70 ap))),fun _=>none,fun _=>none⟩) H (fun _ H=>?_) (fun t4 g4 H=>?_)
 ·refine aA rfl H (fun H=>?_) (fun H=>?_)
  ·refine ao ?_
   refine aK _ () H Gh.d
  refine bm 2 tk rfl ?_
  refine aK _ () H Gh.d
 refine aA rfl H (fun H=>?_) (fun H=>?_)
 ·refine ab (bD tk mok ⟨false,false,[]⟩ [0,1,2,3,4,5,6,7,8,9] rfl (by decide +kernel) rfl (aO 3 rfl ?_))
  obtain ⟨x106,k106,H⟩ := bL H
  refine bH k106.1 (aS (fun _=>rfl) k106.2) ?_
  refine bY rfl ?_
  obtain ⟨x108,h108,H⟩ := ay H
  have s108 := jo c q x106 _ h108
  refine bj Tryz.call197 (fW.r) s108 ?_
  refine aO 4 rfl (bi ?_)
  exact aM tk H rfl
 refine al 2 tk rfl ?_
 refine aA rfl H (fun H=>?_) (fun H=>?_)
 ·refine ab (aa (ae 2 tk rfl (av tk (zl _) ?_)))
  refine ag tk rfl (ac ?_)
  refine dZ tk 116 115 114 (fun s5 g5=>upd (upd (fun _=>.any) 3 (.ptr (cK c))) 2 (.list 39 (inA.map (gL 70 ap)))) nB nO () H (fun fl5 Hp5 j5 s5 g5 hz5 hl5 x5 fb5 hx5 H hg5=>?_) (fun s5 g5 H=>?_)
  ·refine ab (aC (ab (aa (aX tk (zn j5) (bp cv hx5) ?_))))
   refine ag tk rfl ?_
   refine bd tk fun b13=>?_
   refine aE tk ?_
   refine ac (ab (bD tk mok ⟨true,false,[123,125]⟩ [0,1,2,3,4,5,6,7,8,9,10,11,12,13] rfl (by decide +kernel) rfl (bY rfl ?_)))
   obtain ⟨x122,k122,H⟩ := bL H
   refine bH k122.1 (aS (fun _=>rfl) k122.2) ?_
   refine aO 3 rfl (bE ?_)
   obtain ⟨x127,h127,H⟩ := eh H
   have s127 := gR x122 c.vars x5
   rw [h127] at s127
   refine bj Tryz.call86 (fW.r) s127 ?_
   refine aO 7 rfl (bi (al 2 tk rfl ?_))
   refine aA rfl H (fun H=>?_) (fun H=>?_)
   ·refine al 3 tk rfl ?_
    obtain rfl := ax H
    have e5 : fl5 = .ret _ := hg5
    subst e5
    obtain rfl := aG Hp5
    refine aL tk rfl (ps := [(.val (.slice none 0 0)),(ak x127.2.2)]) ⟨_,_,rfl,rfl,_,_,rfl,rfl,rfl⟩ (PLe.of2 (PLe2.tup (fe.cons (PLe2.nil tk rfl) (fe.cons (PLe2.of_eq rfl) fe.nil))))
   refine ao (aP (bm 2 tk rfl ?_))
   exact bv () H hl5 hg5
  refine aP (ab (aa (ag tk rfl ?_)))
  obtain ⟨x136,k136,H⟩ := bL H
  refine aX tk k136.1 (aS (fun _=>rfl) k136.2) ?_
  refine ae 3 tk rfl (ac ?_)
  exact aM tk H rfl
 refine ao (aP (ab (aa (ag tk rfl ?_))))
 obtain ⟨x136,k136,H⟩ := bL H
 refine aX tk k136.1 (aS (fun _=>rfl) k136.2) ?_
 refine ae 3 tk rfl (ac ?_)
 exact aM tk H rfl
def dE (c : LProcedureChecker) (vars : List LCol) (sA : LProcedureStatement) : Option (Int) :=
 af (dH c sA.table) fun x21 =>
 cond (!x21.2)
  (some 4)
  (af (
   cond (sA.kind != (4 : Int))
    (af (aN sA.whereF 0) fun (x35 : LExpr) =>
    af (cu c x21.1.columns vars x35) fun x37 =>
    cond (x37 != (0 : Int))
     (some (.ret x37))
     (some (.next ())))
    (some (.next ()))) fun (fl1 : Flow (Unit) (Int))=>fl1.thenR fun _ =>
  letP (
   cond (sA.kind == (4 : Int))
    (((sA.exprs.length : Int) != (x21.1.columns.length : Int)))
    (false)) fun (t2 : Bool) =>
  cond t2
   (some 3)
   (af (aF (σ := Unit) (ρ := (Int)) (fun (j3 : Nat) (x3 : LExpr) (_ : Unit) =>
    af (
     cond (sA.kind == (5 : Int))
      (af (ba x21.1.columns (fun a0=>ci a0 sA (j3 : Int))) fun x68 =>
      cond (decide (x68 < (0 : Int)))
       (some (.ret 23))
       (af (jp sA.names 0 (j3 : Int)) fun (x76 : List (List UInt8)) =>
       af (aN sA.names (j3 : Int)) fun (x80 : List UInt8) =>
       af (bn x76 x80) fun x82 =>
       cond x82
        (some (.ret 9))
        (af (bU x21.1.primaryKey x68) fun x87 =>
        cond x87
         (some (.ret 9))
         (some (.next (x68,x21.1.columns))))))
      (some (.next ((j3 : Int),[])))) fun (fl5 : Flow (Int × List LCol) (Int))=>fl5.thenF fun t5 =>
    af (cq c t5.2 vars x3) fun x94 =>
    cond (x94.2.2 != (0 : Int))
     (some (.ret x94.2.2))
     (cond (x94.1 != (0 : Int))
      (af (aN x21.1.columns t5.1) fun (x108 : LCol) =>
      cond (x94.1 != x108.kind)
       (some (.ret 7))
       (some (.next ())))
      (some (.next ())))) 0 sA.exprs ()) fun fl3=>fl3.thenR fun (_ : Unit) =>
   some 0))
theorem kh (c : LProcedureChecker) (vars : List LCol) (sA : LProcedureStatement) (r : Int) (H : dE c vars sA = some r) :
  aH Tryz.prog 99 [(.agg (aQ c)),(.list 70 (vars.map ap)),(.agg (aq sA))] (ak r) := by
 unfold dE at H
 refine PH.aw Tryz.func99 Tryz.ntmps99 ?_
 refine ab (aa (aD ?_))
 refine aD ?_
 refine ag tk rfl (ac (ab (aa (ae 3 tk rfl ?_))))
 obtain ⟨x21,h21,H⟩ := ay H
 have s21 := ku c sA.table _ h21
 refine am Tryz.call145 (fW.r) s21 ?_
 refine ae 3 tk rfl ?_
 refine bd tk fun b7=>?_
 refine aE tk ?_
 refine ag tk rfl (ac (ab (al 2 tk rfl ?_)))
 refine aA rfl H (fun H=>?_) (fun H=>?_)
 ·refine al 1 tk rfl ?_
  exact aM tk H rfl
 refine ao (ab (al 3 tk rfl ?_))
 refine V.cutR (γ := Unit) (fun t1 g1=>⟨114,upd (upd (upd (upd (fun _=>.any) 7 (.box 7 b7 0)) 5 (.ptr (aq sA))) 3 (.ptr (aQ c))) 1 (.list 70 (vars.map ap)),upd (fun _=>none) 7 (some ⟨b7,(bu x21.1)⟩),fun _=>none⟩) H (fun _ H Hp1=>?_) (fun t1 g1 H=>?_)
 ·refine aA rfl H (fun H=>?_) (fun H=>?_)
  ·refine ab (bD tk mok ⟨true,false,[29,34,36]⟩ [0,1,2,3,4,5,6,7,8,9] rfl (by decide +kernel) rfl (aO 2 rfl (bE ?_)))
   refine aO 3 rfl ?_
   obtain ⟨x35,k35,H⟩ := bL H
   refine bH k35.1 (aS cv k35.2) ?_
   refine bY rfl ?_
   obtain ⟨x37,h37,H⟩ := ay H
   have s37 := gg c x21.1.columns vars x35 _ h37
   refine bj Tryz.call97 (fW.r) s37 ?_
   refine bY rfl (bi (al 2 tk rfl ?_))
   refine aA rfl H (fun H=>?_) (fun H=>?_)
   ·refine al 2 tk rfl ?_
    obtain rfl := ax H
    obtain rfl := aG Hp1
    refine aL tk rfl (ps := [(ak x37)]) ⟨_,_,rfl,rfl,rfl⟩ (PLe.q rfl)
   refine ao ?_
   refine aK _ () (ax H).symm Gh.d
  refine ao ?_
  refine aK _ () (ax H).symm Gh.d
 refine ab (ab ?_)
 refine en (γ := Unit) (fun t2 g2=>⟨114,upd (upd (upd (upd (upd (fun _=>.any) 52 (az t2)) 7 (.box 7 b7 0)) 5 (.ptr (aq sA))) 3 (.ptr (aQ c))) 1 (.list 70 (vars.map ap)),upd (fun _=>none) 7 (some ⟨b7,(bu x21.1)⟩),fun _=>none⟩) H (fun _ H=>?_) (fun t2 g2 H=>?_)
 ·refine aa (ae 4 tk rfl ?_)
  refine aR rfl rfl rfl H (fun H=>?_) (fun H=>?_)
  ·refine ae 2 tk rfl (av tk (zl _) ?_)
   refine ag tk rfl (aB tk ?_)
   refine av tk (zl _) ?_
   refine ae 2 tk rfl (ac ?_)
   refine aK _ () H Gh.d
  refine ae 8 tk rfl (ac ?_)
  refine aK _ () H Gh.d
 refine aA rfl H (fun H=>?_) (fun H=>?_)
 ·refine al 1 tk rfl ?_
  exact aM tk H rfl
 refine ao (ab (ab (aa (ae 2 tk rfl (av tk (zl _) ?_)))))
 refine ag tk rfl (ac ?_)
 obtain ⟨fl3,H3,Hp3⟩ := ay H
 refine gO tk 54 rfl rfl (fun hz3 _=>?_)
 rw [zl] at hz3
 refine io (τ := Unit) (γ := Unit) (fun s3 g3=>⟨114,upd (upd (upd (fun _=>.any) 5 (.ptr (aq sA))) 3 (.ptr (aQ c))) 1 (.list 70 (vars.map ap)),fun _=>none,fun _=>none⟩) (fun t=>fl3 = .next t) ?_ (fun s3 g3 hn3=>?_)
 ·refine aC ?_
  refine iI (fun j3 s3 g3=>⟨114,upd (upd (upd (upd (upd (upd (upd (fun _=>.any) 56 (ak (j3 : Int))) 55 (ak (sA.exprs.length : Int))) 54 (.list 92 (sA.exprs.map cJ))) 7 (.box 7 b7 0)) 5 (.ptr (aq sA))) 3 (.ptr (aQ c))) 1 (.list 70 (vars.map ap)),upd (fun _=>none) 7 (some ⟨b7,(bu x21.1)⟩),fun _=>none⟩) () H3 Gh.d (fun j3 s3 g3 hj3 hr3=>?_)
  refine al 1 tk rfl (ab ?_)
  refine cS rfl (fun h=>?_) (fun h=>?_)
  ·have hl3 := rowsLt h
   obtain ⟨x3,fb3,hx3,H,hg3⟩ := rMc hl3 hr3
   refine ao (ab (aC (ab (aa (ag tk rfl (aX tk (zn j3) (bp cv hx3) ?_))))))
   refine ag tk rfl ?_
   refine bd tk fun b10=>?_
   refine bd tk fun b11=>?_
   refine aE tk ?_
   refine aE tk ?_
   refine ac (ab (aa (aB tk ?_)))
   refine ae 2 tk rfl (ac (ab (al 3 tk rfl ?_)))
   refine V.cutF (γ := Unit) (fun t5 g5=>⟨114,upd (upd (upd (upd (upd (upd (upd (upd (upd (upd (fun _=>.any) 56 (ak (j3 : Int))) 55 (ak (sA.exprs.length : Int))) 54 (.list 92 (sA.exprs.map cJ))) 13 (.list 70 (t5.2.map ap))) 12 (ak t5.1)) 11 (.box 11 b11 0)) 7 (.box 7 b7 0)) 5 (.ptr (aq sA))) 3 (.ptr (aQ c))) 1 (.list 70 (vars.map ap)),upd (upd (fun _=>none) 11 (some ⟨b11,(fj x3)⟩)) 7 (some ⟨b7,(bu x21.1)⟩),fun _=>none⟩) H (fun _ H Hp5=>?_) (fun t5 g5 H=>?_)
   ·refine aA rfl H (fun H=>?_) (fun H=>?_)
    ·refine ab (oD 10 rfl rfl rfl rfl (bD tk mok ⟨true,false,[]⟩ [0,1,2,4,5,3,6,7] rfl (by decide +kernel) rfl (bY rfl (bE ?_))))
     refine aO 2 rfl (bE ?_)
     obtain ⟨x68,h68,H⟩ := ay H
     have s68 := de x21.1.columns (fun a0=>ci a0 sA (j3 : Int)) Tryz.call146 (fun a0 r h=>jG a0 sA (j3 : Int) r h) _ h68
     refine bj Tryz.call129 (fW.r) s68 ?_
     refine aO 2 rfl (bi (ab (al 2 tk rfl ?_)))
     refine aA rfl H (fun H=>?_) (fun H=>?_)
     ·refine al 1 tk rfl ?_
      obtain rfl := ax H
      have q5 := iO Hp5
      subst q5
      have e3 : fl3 = .ret _ := hg3
      subst e3
      obtain rfl := aG Hp3
      refine aL tk rfl (ps := [(ak 23)]) ⟨_,_,rfl,rfl,rfl⟩ (PLe.q rfl)
     refine ao (ab (bD tk mok ⟨true,false,[74,75,78,79,81]⟩ [0,1,2,3,4,5,6,7,8,9,10,11,12,13,14,15] rfl (by decide +kernel) rfl (aO 3 rfl ?_)))
     obtain ⟨x76,h76,H⟩ := ay H
     have k76 := jI h76
     refine oB rfl rfl rfl rfl rfl rfl (zl _) rfl rfl k76.1 (kU k76.2) rfl (aO 3 rfl ?_)
     obtain ⟨x80,k80,H⟩ := bL H
     refine bH k80.1 (aS (fun _=>rfl) k80.2) ?_
     refine bY rfl ?_
     obtain ⟨x82,h82,H⟩ := ay H
     have s82 := fI x76 x80 _ h82
     refine bj Tryz.call147 (fW.r) s82 ?_
     refine bY rfl ?_
     refine iU H (fun H=>?_) (fun H=>?_)
     ·refine aO 5 rfl (bi (bX rfl (al 1 tk rfl ?_)))
      obtain rfl := ax H
      have q5 := iO Hp5
      subst q5
      have e3 : fl3 = .ret _ := hg3
      subst e3
      obtain rfl := aG Hp3
      refine aL tk rfl (ps := [(ak 9)]) ⟨_,_,rfl,rfl,rfl⟩ (PLe.q rfl)
     refine bY rfl (bE ?_)
     refine bY rfl ?_
     obtain ⟨x87,h87,H⟩ := ay H
     have s87 := fm x21.1.primaryKey x68 _ h87
     refine bj Tryz.call15 (fW.r) s87 ?_
     refine bY rfl (bi ?_)
     refine aA rfl H (fun H=>?_) (fun H=>?_)
     ·refine al 1 tk rfl ?_
      obtain rfl := ax H
      have q5 := iO Hp5
      subst q5
      have e3 : fl3 = .ret _ := hg3
      subst e3
      obtain rfl := aG Hp3
      refine aL tk rfl (ps := [(ak 9)]) ⟨_,_,rfl,rfl,rfl⟩ (PLe.q rfl)
     refine ao ?_
     refine aK _ () (ax H).symm Gh.d
    refine ao ?_
    refine aK _ () (ax H).symm (Gh.le (aI (aI (aI (aI (aI (aI (cp (PLe.of2 (PLe2.nil tk rfl)) (aI (aI (aI bN)))))))))) (aT rfl (fW.r) (aT rfl (fW.r) bf)) be)
   refine ab (aa (ae 3 tk rfl (aB tk ?_)))
   obtain ⟨x94,h94,H⟩ := ay H
   have s94 := fo c t5.2 vars x3 _ h94
   refine am Tryz.call94 (fW.r) s94 ?_
   refine ae 7 tk rfl (ac (ab (al 2 tk rfl ?_)))
   refine aA rfl H (fun H=>?_) (fun H=>?_)
   ·refine al 2 tk rfl ?_
    obtain rfl := ax H
    have e3 : fl3 = .ret _ := hg3
    subst e3
    obtain rfl := aG Hp3
    refine aL tk rfl (ps := [(ak x94.2.2)]) ⟨_,_,rfl,rfl,rfl⟩ (PLe.q rfl)
   refine ao (ab (aa (ae 3 tk rfl ?_)))
   refine aR rfl rfl rfl H (fun H=>?_) (fun H=>?_)
   ·refine ae 2 tk rfl (aB tk ?_)
    refine ag tk rfl ?_
    obtain ⟨x108,k108,H⟩ := bL H
    refine aX tk k108.1 (aS (fun _=>rfl) k108.2) ?_
    refine ae 4 tk rfl (ac ?_)
    refine aA rfl H (fun H=>?_) (fun H=>?_)
    ·refine al 1 tk rfl ?_
     obtain rfl := ax H
     have e3 : fl3 = .ret _ := hg3
     subst e3
     obtain rfl := aG Hp3
     refine aL tk rfl (ps := [(ak 7)]) ⟨_,_,rfl,rfl,rfl⟩ (PLe.q rfl)
    refine ao (aP (bm 2 tk rfl ?_))
    exact bv () H hl3 hg3
   refine ae 9 tk rfl (ac (cQ rfl (ao (aP (bm 2 tk rfl ?_)))))
   exact bv () H hl3 hg3
  have hn3 := rMd (rowsGe h) hr3
  refine cT rfl ?_
  refine aK s3 g3 hn3 Gh.d
 have H := ka hn3 Hp3
 refine al 1 tk rfl ?_
 exact aM tk H rfl
def dq (rec113 : LChecker → LQuery → Option ((List LCol) × Int)) (c : LChecker) (q : LQuery) : Option ((List LCol) × Int) :=
 af (gQ q) fun x16 =>
 cond (!x16)
  (some ([],3))
  (af (aF (σ := List (List LCol)) (ρ := ((List LCol) × Int)) (fun (_ : Nat) (x1 : LQuery) (s1 : List (List LCol)) =>
   af (rec113 c x1) fun x28 =>
   cond (x28.2 != (0 : Int))
    (some (.ret ([],x28.2)))
    (af (ej 24 s1 ([x28.1] : List (List LCol))) fun (x37 : List (List LCol)) =>
    some (.next x37))) 0 q.inputs []) fun fl1=>fl1.thenR fun (s1 : List (List LCol)) =>
  af (eQ c q s1) fun x43 =>
  cond (x43.2 != (0 : Int))
   (some ([],x43.2))
   (cond (decide ((x43.1.length : Int) > (20 : Int)))
    (some ([],2))
    (af (aF (σ := Unit) (ρ := ((List LCol) × Int)) (fun (j2 : Nat) (x2 : LCol) (_ : Unit) =>
     af (jp x43.1 0 (j2 : Int)) fun (x61 : List LCol) =>
     af (bt x61 (fun a0=>some (bF a0 x2))) fun x63 =>
     cond x63
      (some (.ret ([],23)))
      (some (.next ()))) 0 x43.1 ()) fun fl2=>fl2.thenR fun (_ : Unit) =>
    some (x43.1,0))))
theorem kW (rec113 : LChecker → LQuery → Option ((List LCol) × Int)) (hrec113 : ∀ a0 a1 r,rec113 a0 a1 = some r → aH Tryz.prog 113 [(.agg (cK a0)),(.agg (aU a1))] (.tup [(.list 70 (r.1.map ap)),(ak r.2)])) (c : LChecker) (q : LQuery) (r : (List LCol) × Int) (H : dq rec113 c q = some r) :
  aH Tryz.prog 113 [(.agg (cK c)),(.agg (aU q))] (.tup [(.list 70 (r.1.map ap)),(ak r.2)]) := by
 unfold dq at H
 refine PH.aw Tryz.func113 Tryz.ntmps113 ?_
 refine ab (aa (aD ?_))
 refine aD ?_
 refine ae 2 tk rfl (ac (ab (ab (aa (ag tk rfl ?_)))))
 obtain ⟨x16,h16,H⟩ := ay H
 have s16 := W_query_shape q _ h16
 refine am Tryz.call160 (fW.r) s16 ?_
 refine ag tk rfl (ac ?_)
 refine aA rfl H (fun H=>?_) (fun H=>?_)
 ·refine al 2 tk rfl ?_
  obtain rfl := ax H
  refine aL tk rfl (ps := [(.val (.slice none 0 0)),(ak 3)]) ⟨_,_,rfl,rfl,_,_,rfl,rfl,rfl⟩ (PLe.of2 (PLe2.tup (fe.cons (PLe2.nil tk rfl) (fe.cons (PLe2.of_eq rfl) fe.nil))))
 refine ao (al 1 tk rfl (ab (ab (aa (ae 2 tk rfl (av tk (zl _) ?_))))))
 refine ag tk rfl (ac (lO tk 6 37 (e := 39) rfl rfl ?_))
 refine dZ (γ := OwnRef) tk 21 20 19 (fun s1 g1=>upd (upd (upd (fun _=>.any) 6 (.own 37 g1 (s1.map (gL 70 ap)).length)) 3 (.ptr (aU q))) 2 (.ptr (cK c))) nB (fun s1 g1=>upd (fun _=>none) 37 (some ⟨g1,39,(s1.map (gL 70 ap)),true⟩)) (⟨none,0⟩) H (fun fl1 Hp1 j1 s1 g1 hz1 hl1 x1 fb1 hx1 H hg1=>?_) (fun s1 g1 H=>?_)
 ·refine ab (aC (ab (aa (aX tk (zn j1) (bp dz hx1) ?_))))
  refine ag tk rfl ?_
  refine bd tk fun b8=>?_
  refine aE tk ?_
  refine ac (ab (aa (ag tk rfl (aB tk ?_))))
  obtain ⟨x28,h28,H⟩ := ay H
  have s28 := hrec113 c x1 _ h28
  refine am Tryz.call113 (fW.r) s28 ?_
  refine ae 5 tk rfl (ac (ab (al 2 tk rfl ?_)))
  refine aA rfl H (fun H=>?_) (fun H=>?_)
  ·refine al 3 tk rfl ?_
   obtain rfl := ax H
   have e1 : fl1 = .ret _ := hg1
   subst e1
   obtain rfl := aG Hp1
   refine aL tk rfl (ps := [(.val (.slice none 0 0)),(ak x28.2)]) ⟨_,_,rfl,rfl,_,_,rfl,rfl,rfl⟩ (PLe.of2 (PLe2.tup (fe.cons (PLe2.nil tk rfl) (fe.cons (PLe2.of_eq rfl) fe.nil))))
  refine ao (aa (ae 2 tk rfl (ct tk (rows' := List.map (gL 70 ap) ([x28.1] : List (List LCol))) (fh.refl _) ?_)))
  obtain ⟨x37,h37,H⟩ := ay H
  have k37 := eo h37
  refine cW (rows2' := List.map (gL 70 ap) ([x28.1] : List (List LCol))) (rows' := List.map (gL 70 ap) x37) tk rfl rfl rfl rfl rfl rfl rfl rfl rfl rfl rfl rfl rfl (fh.refl _) (fC k37.1) (fB k37.2.1) (fy k37.2.2) fun g37=>?_
  refine ag tk rfl (ac (aP (bm 2 tk rfl ?_)))
  exact bv g37 H hl1 hg1
 refine ab (gG 6 rfl rfl rfl (aa (ae 3 tk rfl ?_)))
 obtain ⟨x43,h43,H⟩ := ay H
 have s43 := mP c q s1 _ h43
 refine am Tryz.call161 (fW.r) s43 ?_
 refine ae 5 tk rfl (ac (ab (al 2 tk rfl ?_)))
 refine aA rfl H (fun H=>?_) (fun H=>?_)
 ·refine al 3 tk rfl ?_
  obtain rfl := ax H
  refine aL tk rfl (ps := [(.val (.slice none 0 0)),(ak x43.2)]) ⟨_,_,rfl,rfl,_,_,rfl,rfl,rfl⟩ (PLe.of2 (PLe2.tup (fe.cons (PLe2.nil tk rfl) (fe.cons (PLe2.of_eq rfl) fe.nil))))
 refine ao (ab (ab (aa (ag tk rfl (av tk (zl _) ?_)))))
 refine ag tk rfl (ac ?_)
 refine aA rfl H (fun H=>?_) (fun H=>?_)
 ·refine al 2 tk rfl ?_
  obtain rfl := ax H
  refine aL tk rfl (ps := [(.val (.slice none 0 0)),(ak 2)]) ⟨_,_,rfl,rfl,_,_,rfl,rfl,rfl⟩ (PLe.of2 (PLe2.tup (fe.cons (PLe2.nil tk rfl) (fe.cons (PLe2.of_eq rfl) fe.nil))))
 refine ao (ab (ab (aa (ag tk rfl (av tk (zl _) ?_)))))
 refine ag tk rfl (ac ?_)
 refine dZ tk 54 53 52 (fun s2 g2=>upd (fun _=>.any) 11 (.list 70 (x43.1.map ap))) nB nO () H (fun fl2 Hp2 j2 s2 g2 hz2 hl2 x2 fb2 hx2 H hg2=>?_) (fun s2 g2 H=>?_)
 ·refine ab (aC (ab (aa (ag tk rfl ?_))))
  refine aX tk (zn j2) (bp (fun _=>rfl) hx2) ?_
  refine ag tk rfl ?_
  refine bd tk fun b14=>?_
  refine ag tk rfl (aE tk ?_)
  refine ac (ab (aa (ae 2 tk rfl ?_)))
  obtain ⟨x61,h61,H⟩ := ay H
  have k61 := jI h61
  refine oO tk rfl rfl rfl rfl rfl (zl _) rfl rfl k61.1 (kU k61.2) rfl (gn (Gh.freezeB 14 rfl rfl rfl rfl) (ag tk rfl ?_))
  obtain ⟨x63,h63,H⟩ := ay H
  have s63 := gf x61 (fun a0=>some (bF a0 x2)) Tryz.call163 (fun a0 r h=>(ax h) ▸ kv a0 x2) _ h63
  refine am Tryz.call162 (fW.r) s63 ?_
  refine ac ?_
  refine aA rfl H (fun H=>?_) (fun H=>?_)
  ·refine al 2 tk rfl ?_
   obtain rfl := ax H
   have e2 : fl2 = .ret _ := hg2
   subst e2
   obtain rfl := aG Hp2
   refine aL tk rfl (ps := [(.val (.slice none 0 0)),(ak 23)]) ⟨_,_,rfl,rfl,_,_,rfl,rfl,rfl⟩ (PLe.of2 (PLe2.tup (fe.cons (PLe2.nil tk rfl) (fe.cons (PLe2.of_eq rfl) fe.nil))))
  refine ao (aP (bm 2 tk rfl ?_))
  exact bv () H hl2 hg2
 refine al 3 tk rfl ?_
 exact aM tk H rfl
def dp : Nat → LChecker → LQuery → Option ((List LCol) × Int)
 | 0,_,_=>none
 | n + 1,v0,v1=>dq (fun b0 b1=>dp n b0 b1) v0 v1
theorem kX  (n : Nat) : (∀ a0 a1 r,dp n a0 a1 = some r → aH Tryz.prog 113 [(.agg (cK a0)),(.agg (aU a1))] (.tup [(.list 70 (r.1.map ap)),(ak r.2)])) := by
 induction n with
 | zero=>exact (by intros; rename_i h; exact absurd (show (none : Option _) = some _ from h) (by simp))
 | succ n ih =>
  exact (fun v0 v1 r h=>kW (fun b0 b1=>dp n b0 b1) ih v0 v1  r h)
def dW (c : LChecker) (q : LQuery) : Option ((List LCol) × Int) := eU fun n=>dp n c q
theorem lc (c : LChecker) (q : LQuery) (r : (List LCol) × Int) (H : dW c q = some r) :
  aH Tryz.prog 113 [(.agg (cK c)),(.agg (aU q))] (.tup [(.list 70 (r.1.map ap)),(ak r.2)]) := by
 obtain ⟨n,h⟩ := gF H
 exact (kX  n) c q r h
def eO (sA : LSchema) (vars : List LCol) (q : LQuery) : Option ((List LCol) × Int) :=
 af (
  af (fR q) fun x12 =>
  cond (decide ((x12.length : Int) > (24 : Int)))
   (some true)
   (af (gP q) fun x17 =>
   cond (decide (x17 > (12 : Int)))
    (some true)
    (af (dY q) fun x22 =>
    some (decide (x22 > (20000 : Int)))))) fun (t1 : Bool) =>
 cond t1
  (some ([],2))
  (af (dA q) fun x27 =>
  cond (x27.2 != (0 : Int))
   (some ([],x27.2))
   (af (dW (LChecker.mk sA vars) q) fun x38 =>
   some (x38.1,x38.2)))
theorem mN (sA : LSchema) (vars : List LCol) (q : LQuery) (r : (List LCol) × Int) (H : eO sA vars q = some r) :
  aH Tryz.prog 71 [(.agg (bK sA)),(.list 70 (vars.map ap)),(.agg (aU q))] (.tup [(.list 70 (r.1.map ap)),(ak r.2)]) := by
 unfold eO at H
 refine PH.aw Tryz.func71 Tryz.ntmps71 ?_
 refine ab (aa (aD ?_))
 refine aD ?_
 refine ae 2 tk rfl (ac (ab (ab ?_)))
 refine eg (γ := Unit) (fun t1 g1=>⟨41,upd (upd (upd (upd (fun _=>.any) 24 (az t1)) 5 (.ptr (aU q))) 3 (.ptr (bK sA))) 1 (.list 70 (vars.map ap)),fun _=>none,fun _=>none⟩) H (fun _ H=>?_) (fun t1 g1 H=>?_)
 ·refine aa (ag tk rfl ?_)
  obtain ⟨x12,h12,H⟩ := ay H
  have s12 := mJ (m := 12) q _ h12
  refine am Tryz.call34 (fW.r) (aH.of_own s12) ?_
  refine av tk (zl _) ?_
  refine ae 2 tk rfl ?_
  refine aR rfl rfl rfl H (fun H=>?_) (fun H=>?_)
  ·refine ae 9 tk rfl (ac ?_)
   refine aK _ () (ax H) Gh.d
  refine ag tk rfl ?_
  obtain ⟨x17,h17,H⟩ := ay H
  have s17 := W_query_depth q _ h17
  refine am Tryz.call111 (fW.r) s17 ?_
  refine ae 3 tk rfl ?_
  refine aR rfl rfl rfl H (fun H=>?_) (fun H=>?_)
  ·refine ae 4 tk rfl (ac ?_)
   refine aK _ () (ax H) Gh.d
  refine ag tk rfl ?_
  obtain ⟨x22,h22,H⟩ := ay H
  have s22 := jM q _ h22
  refine am Tryz.call112 (fW.r) s22 ?_
  refine ae 2 tk rfl (ac ?_)
  refine aK _ () (ax H) Gh.d
 refine aA rfl H (fun H=>?_) (fun H=>?_)
 ·refine al 2 tk rfl ?_
  obtain rfl := ax H
  refine aL tk rfl (ps := [(.val (.slice none 0 0)),(ak 2)]) ⟨_,_,rfl,rfl,_,_,rfl,rfl,rfl⟩ (PLe.of2 (PLe2.tup (fe.cons (PLe2.nil tk rfl) (fe.cons (PLe2.of_eq rfl) fe.nil))))
 refine ao (ab (ab (aa (ag tk rfl ?_))))
 obtain ⟨x27,h27,H⟩ := ay H
 have s27 := ix q _ h27
 refine am Tryz.call14 (fW.r) s27 ?_
 refine ae 5 tk rfl (ac (al 2 tk rfl ?_))
 refine aA rfl H (fun H=>?_) (fun H=>?_)
 ·refine al 3 tk rfl ?_
  obtain rfl := ax H
  refine aL tk rfl (ps := [(.val (.slice none 0 0)),(ak x27.2)]) ⟨_,_,rfl,rfl,_,_,rfl,rfl,rfl⟩ (PLe.of2 (PLe2.tup (fe.cons (PLe2.nil tk rfl) (fe.cons (PLe2.of_eq rfl) fe.nil))))
 refine ao (ab (aa (ae 3 tk rfl ?_)))
 refine bd tk fun b10=>?_
 refine aE tk ?_
 refine ac (ab (aa (aB tk ?_)))
 refine ag tk rfl ?_
 obtain ⟨x38,h38,H⟩ := ay H
 have s38 := lc (LChecker.mk sA vars) q _ h38
 refine am Tryz.call113 (fW.r) s38 ?_
 refine ae 4 tk rfl (ac ?_)
 exact aM tk H rfl
def bT (_rec37 : LProcedureChecker → (List LCol) → (List LProcedureStatement) → Option ((List LCol) × Int)) (rec63 : LProcedureChecker → (List LCol) → LProcedureStatement → Option ((List LCol) × Int)) (c : LProcedureChecker) (vars : List LCol) (l : List LProcedureStatement) : Option ((List LCol) × Int) :=
 af (aF (σ := List LCol) (ρ := ((List LCol) × Int)) (fun (_ : Nat) (x1 : LProcedureStatement) (s1 : List LCol) =>
  af (dC x1) fun x18 =>
  cond (!x18)
   (some (.ret ([],3)))
   (af (rec63 c s1 x1) fun x24 =>
   cond (x24.2 != (0 : Int))
    (some (.ret ([],x24.2)))
    (some (.next x24.1)))) 0 l vars) fun fl1=>fl1.thenR fun (s1 : List LCol) =>
 some (s1,0)
theorem kf (rec37 : LProcedureChecker → (List LCol) → (List LProcedureStatement) → Option ((List LCol) × Int)) (rec63 : LProcedureChecker → (List LCol) → LProcedureStatement → Option ((List LCol) × Int)) (_hrec37 : ∀ a0 a1 a2 r,rec37 a0 a1 a2 = some r → aH Tryz.prog 37 [(.agg (aQ a0)),(.list 70 (a1.map ap)),(.list 55 (a2.map ah))] (.tup [(.list 70 (r.1.map ap)),(ak r.2)])) (hrec63 : ∀ a0 a1 a2 r,rec63 a0 a1 a2 = some r → aH Tryz.prog 63 [(.agg (aQ a0)),(.list 70 (a1.map ap)),(.agg (aq a2))] (.tup [(.list 70 (r.1.map ap)),(ak r.2)])) (c : LProcedureChecker) (vars : List LCol) (l : List LProcedureStatement) (r : (List LCol) × Int) (H : bT rec37 rec63 c vars l = some r) :
  aH Tryz.prog 37 [(.agg (aQ c)),(.list 70 (vars.map ap)),(.list 55 (l.map ah))] (.tup [(.list 70 (r.1.map ap)),(ak r.2)]) := by
 unfold bT at H
 refine PH.aw Tryz.func37 Tryz.ntmps37 ?_
 refine ab (aa (aD ?_))
 refine ae 2 tk rfl (ac (ab (ab (aa (ag tk rfl (av tk (zl _) ?_))))))
 refine ag tk rfl (ac ?_)
 refine dZ tk 13 12 11 (fun s1 g1=>upd (upd (fun _=>.any) 3 (.ptr (aQ c))) 1 (.list 70 (s1.map ap))) nB nO () H (fun fl1 Hp1 j1 s1 g1 hz1 hl1 x1 fb1 hx1 H hg1=>?_) (fun s1 g1 H=>?_)
 ·refine ab (aC (ab (aa (aX tk (zn j1) (bp bs hx1) ?_))))
  refine ag tk rfl ?_
  refine bd tk fun b9=>?_
  refine aE tk ?_
  refine ac (ab (ab (aa (aB tk ?_))))
  obtain ⟨x18,h18,H⟩ := ay H
  have s18 := nK x1 _ h18
  refine am Tryz.call62 (fW.r) s18 ?_
  refine ag tk rfl (ac ?_)
  refine aA rfl H (fun H=>?_) (fun H=>?_)
  ·refine al 2 tk rfl ?_
   obtain rfl := ax H
   have e1 : fl1 = .ret _ := hg1
   subst e1
   obtain rfl := aG Hp1
   refine aL tk rfl (ps := [(.val (.slice none 0 0)),(ak 3)]) ⟨_,_,rfl,rfl,_,_,rfl,rfl,rfl⟩ (PLe.of2 (PLe2.tup (fe.cons (PLe2.nil tk rfl) (fe.cons (PLe2.of_eq rfl) fe.nil))))
  refine ao (al 1 tk rfl (ab (aa (ae 2 tk rfl (aB tk ?_)))))
  obtain ⟨x24,h24,H⟩ := ay H
  have s24 := hrec63 c s1 x1 _ h24
  refine am Tryz.call63 (fW.r) s24 ?_
  refine ae 5 tk rfl (ac (al 2 tk rfl ?_))
  refine aA rfl H (fun H=>?_) (fun H=>?_)
  ·refine al 3 tk rfl ?_
   obtain rfl := ax H
   have e1 : fl1 = .ret _ := hg1
   subst e1
   obtain rfl := aG Hp1
   refine aL tk rfl (ps := [(.val (.slice none 0 0)),(ak x24.2)]) ⟨_,_,rfl,rfl,_,_,rfl,rfl,rfl⟩ (PLe.of2 (PLe2.tup (fe.cons (PLe2.nil tk rfl) (fe.cons (PLe2.of_eq rfl) fe.nil))))
  refine ao (aP (bm 2 tk rfl ?_))
  exact bv () H hl1 hg1
 refine al 3 tk rfl ?_
 exact aM tk H rfl
def bA (rec37 : LProcedureChecker → (List LCol) → (List LProcedureStatement) → Option ((List LCol) × Int)) (_rec63 : LProcedureChecker → (List LCol) → LProcedureStatement → Option ((List LCol) × Int)) (c : LProcedureChecker) (vars : List LCol) (sA : LProcedureStatement) : Option ((List LCol) × Int) :=
 cond (sA.kind == (1 : Int))
  (af (aN sA.exprs 0) fun (x31 : LExpr) =>
  af (cq c ([] : List LCol) vars x31) fun x33 =>
  letP (cw sA.name) fun x40 =>
  cond (!x40)
   (some ([],3))
   (cond (x33.2.2 != (0 : Int))
    (some ([],x33.2.2))
    (cond (x33.1 == (0 : Int))
     (some ([],7))
     (af (ez vars (LCol.mk sA.name x33.1 x33.2.1)) fun x55 =>
     some (x55,0)))))
  (cond (sA.kind == (2 : Int))
   (af (aN sA.exprs 0) fun (x62 : LExpr) =>
   af (cu c ([] : List LCol) vars x62) fun x64 =>
   cond (x64 != (0 : Int))
    (some ([],x64))
    (af (rec37 c vars sA.body) fun x73 =>
    cond (x73.2 != (0 : Int))
     (some ([],x73.2))
     (af (rec37 c vars sA.elseF) fun x84 =>
     some (vars,x84.2))))
   (letP (
    cond (sA.kind == (3 : Int))
     ((sA.kind == (3 : Int)))
     ((sA.kind == (7 : Int)))) fun (t1 : Bool) =>
   cond t1
    (af (aN sA.query 0) fun (x98 : LQuery) =>
    af (eO c.s vars x98) fun x100 =>
    cond (x100.2 != (0 : Int))
     (some ([],x100.2))
     (af (aN sA.query 0) fun (x109 : LQuery) =>
     af (cP c x109) fun x111 =>
     cond (x111 != (0 : Int))
      (some ([],x111))
      (af (aF (σ := List LCol) (ρ := Empty) (fun (_ : Nat) (x2 : LCol) (s2 : List LCol) =>
       af (ez s2 x2) fun x124 =>
       some (.next x124)) 0 x100.1 vars) fun fl2=>fl2.thenP fun (s2 : List LCol) =>
      af (rec37 c s2 sA.body) fun x131 =>
      some (vars,x131.2))))
    (letP (
     cond (sA.kind == (4 : Int))
      ((sA.kind == (4 : Int)))
      (cond (sA.kind == (5 : Int))
       ((sA.kind == (5 : Int)))
       ((sA.kind == (6 : Int))))) fun (t3 : Bool) =>
    cond t3
     (af (dE c vars sA) fun x144 =>
     some (vars,x144))
     (some (vars,0)))))
theorem kg (rec37 : LProcedureChecker → (List LCol) → (List LProcedureStatement) → Option ((List LCol) × Int)) (rec63 : LProcedureChecker → (List LCol) → LProcedureStatement → Option ((List LCol) × Int)) (hrec37 : ∀ a0 a1 a2 r,rec37 a0 a1 a2 = some r → aH Tryz.prog 37 [(.agg (aQ a0)),(.list 70 (a1.map ap)),(.list 55 (a2.map ah))] (.tup [(.list 70 (r.1.map ap)),(ak r.2)])) (_hrec63 : ∀ a0 a1 a2 r,rec63 a0 a1 a2 = some r → aH Tryz.prog 63 [(.agg (aQ a0)),(.list 70 (a1.map ap)),(.agg (aq a2))] (.tup [(.list 70 (r.1.map ap)),(ak r.2)])) (c : LProcedureChecker) (vars : List LCol) (sA : LProcedureStatement) (r : (List LCol) × Int) (H : bA rec37 rec63 c vars sA = some r) :
  aH Tryz.prog 63 [(.agg (aQ c)),(.list 70 (vars.map ap)),(.agg (aq sA))] (.tup [(.list 70 (r.1.map ap)),(ak r.2)]) := by
 unfold bA at H
 refine PH.aw Tryz.func63 Tryz.ntmps63 ?_
 refine ab (aa (aD ?_))
 refine aD ?_
 refine ae 2 tk rfl (ac (ab (al 2 tk rfl (aC (al 2 tk rfl ?_)))))
 refine aA rfl H (fun H=>?_) (fun H=>?_)
 ·refine ab (bD tk mok ⟨false,false,[]⟩ [0,1,2,3,4,5,6,7,8,9,10,11,12,13] rfl (by decide +kernel) rfl (aO 4 rfl ?_))
  obtain ⟨x31,k31,H⟩ := bL H
  refine bH k31.1 (aS cv k31.2) ?_
  refine bY rfl ?_
  obtain ⟨x33,h33,H⟩ := ay H
  have s33 := fo c ([] : List LCol) vars x31 _ h33
  refine bj Tryz.call94 (fW.of2 (fe.cons (PLe2.of_eq rfl) (fe.cons (PLe2.nil tk rfl) (fe.cons (PLe2.of_eq rfl) (fe.cons (PLe2.of_eq rfl) fe.nil))))) s33 ?_
  refine aO 7 rfl (bi (ab (aC (ab (aa (ae 2 tk rfl ?_))))))
  obtain ⟨x40,h40,H⟩ := eh H
  have s40 := gY sA.name
  rw [h40] at s40
  refine am Tryz.call95 (fW.r) s40 ?_
  refine ae 2 tk rfl (ac ?_)
  refine aA rfl H (fun H=>?_) (fun H=>?_)
  ·refine al 2 tk rfl ?_
   obtain rfl := ax H
   refine aL tk rfl (ps := [(.val (.slice none 0 0)),(ak 3)]) ⟨_,_,rfl,rfl,_,_,rfl,rfl,rfl⟩ (PLe.of2 (PLe2.tup (fe.cons (PLe2.nil tk rfl) (fe.cons (PLe2.of_eq rfl) fe.nil))))
  refine al 3 tk rfl ?_
  refine aA rfl H (fun H=>?_) (fun H=>?_)
  ·refine al 3 tk rfl ?_
   obtain rfl := ax H
   refine aL tk rfl (ps := [(.val (.slice none 0 0)),(ak x33.2.2)]) ⟨_,_,rfl,rfl,_,_,rfl,rfl,rfl⟩ (PLe.of2 (PLe2.tup (fe.cons (PLe2.nil tk rfl) (fe.cons (PLe2.of_eq rfl) fe.nil))))
  refine al 3 tk rfl ?_
  refine aA rfl H (fun H=>?_) (fun H=>?_)
  ·refine al 2 tk rfl ?_
   obtain rfl := ax H
   refine aL tk rfl (ps := [(.val (.slice none 0 0)),(ak 7)]) ⟨_,_,rfl,rfl,_,_,rfl,rfl,rfl⟩ (PLe.of2 (PLe2.tup (fe.cons (PLe2.nil tk rfl) (fe.cons (PLe2.of_eq rfl) fe.nil))))
  refine ao (aP (ab (aa (ae 6 tk rfl ?_))))
  obtain ⟨x55,h55,H⟩ := ay H
  have s55 := lm vars (LCol.mk sA.name x33.1 x33.2.1) _ h55
  refine am Tryz.call96 (fW.r) s55 ?_
  refine ae 2 tk rfl (ac ?_)
  exact aM tk H rfl
 refine al 2 tk rfl ?_
 refine aA rfl H (fun H=>?_) (fun H=>?_)
 ·refine ab (ab (bD tk mok ⟨false,false,[]⟩ [0,1,2,3,4,5,6,7] rfl (by decide +kernel) rfl (aO 4 rfl ?_)))
  obtain ⟨x62,k62,H⟩ := bL H
  refine bH k62.1 (aS cv k62.2) ?_
  refine bY rfl ?_
  obtain ⟨x64,h64,H⟩ := ay H
  have s64 := gg c ([] : List LCol) vars x62 _ h64
  refine bj Tryz.call97 (fW.of2 (fe.cons (PLe2.of_eq rfl) (fe.cons (PLe2.nil tk rfl) (fe.cons (PLe2.of_eq rfl) (fe.cons (PLe2.of_eq rfl) fe.nil))))) s64 ?_
  refine bY rfl (bi (al 2 tk rfl ?_))
  refine aA rfl H (fun H=>?_) (fun H=>?_)
  ·refine al 3 tk rfl ?_
   obtain rfl := ax H
   refine aL tk rfl (ps := [(.val (.slice none 0 0)),(ak x64)]) ⟨_,_,rfl,rfl,_,_,rfl,rfl,rfl⟩ (PLe.of2 (PLe2.tup (fe.cons (PLe2.nil tk rfl) (fe.cons (PLe2.of_eq rfl) fe.nil))))
  refine ao (ab (ab (aa (ae 4 tk rfl ?_))))
  obtain ⟨x73,h73,H⟩ := ay H
  have s73 := hrec37 c vars sA.body _ h73
  refine am Tryz.call37 (fW.r) s73 ?_
  refine ae 5 tk rfl (ac (al 2 tk rfl ?_))
  refine aA rfl H (fun H=>?_) (fun H=>?_)
  ·refine al 3 tk rfl ?_
   obtain rfl := ax H
   refine aL tk rfl (ps := [(.val (.slice none 0 0)),(ak x73.2)]) ⟨_,_,rfl,rfl,_,_,rfl,rfl,rfl⟩ (PLe.of2 (PLe2.tup (fe.cons (PLe2.nil tk rfl) (fe.cons (PLe2.of_eq rfl) fe.nil))))
  refine ao (ab (aa (ae 4 tk rfl ?_)))
  obtain ⟨x84,h84,H⟩ := ay H
  have s84 := hrec37 c vars sA.elseF _ h84
  refine am Tryz.call37 (fW.r) s84 ?_
  refine ae 5 tk rfl (ac (al 4 tk rfl ?_))
  exact aM tk H rfl
 refine ab (al 2 tk rfl ?_)
 refine en (γ := Unit) (fun t1 g1=>⟨146,upd (upd (upd (upd (upd (fun _=>.any) 89 (az t1)) 23 (ak sA.kind)) 5 (.ptr (aq sA))) 3 (.ptr (aQ c))) 1 (.list 70 (vars.map ap)),fun _=>none,fun _=>none⟩) H (fun _ H=>?_) (fun t1 g1 H=>?_)
 ·refine aA rfl H (fun H=>?_) (fun H=>?_)
  ·refine ao ?_
   refine aK _ () H Gh.d
  refine bm 2 tk rfl ?_
  refine aK _ () H Gh.d
 refine aA rfl H (fun H=>?_) (fun H=>?_)
 ·refine ab (bD tk mok ⟨false,false,[]⟩ [0,1,2,3,4,5,6,7,8,9,10,11,12] rfl (by decide +kernel) rfl (aO 5 rfl ?_))
  obtain ⟨x98,k98,H⟩ := bL H
  refine bH k98.1 (aS dz k98.2) ?_
  refine bY rfl ?_
  obtain ⟨x100,h100,H⟩ := ay H
  have s100 := mN c.s vars x98 _ h100
  refine bj Tryz.call71 (fW.r) s100 ?_
  refine aO 5 rfl (bi (ab (al 2 tk rfl ?_)))
  refine aA rfl H (fun H=>?_) (fun H=>?_)
  ·refine al 3 tk rfl ?_
   obtain rfl := ax H
   refine aL tk rfl (ps := [(.val (.slice none 0 0)),(ak x100.2)]) ⟨_,_,rfl,rfl,_,_,rfl,rfl,rfl⟩ (PLe.of2 (PLe2.tup (fe.cons (PLe2.nil tk rfl) (fe.cons (PLe2.of_eq rfl) fe.nil))))
  refine ao (ab (ab (bD tk mok ⟨false,false,[]⟩ [0,1,2,3,4,5,6] rfl (by decide +kernel) rfl (aO 3 rfl ?_))))
  obtain ⟨x109,k109,H⟩ := bL H
  refine bH k109.1 (aS dz k109.2) ?_
  refine bY rfl ?_
  obtain ⟨x111,h111,H⟩ := ay H
  have s111 := gX c x109 _ h111
  refine bj Tryz.call98 (fW.r) s111 ?_
  refine bY rfl (bi (al 2 tk rfl ?_))
  refine aA rfl H (fun H=>?_) (fun H=>?_)
  ·refine al 3 tk rfl ?_
   obtain rfl := ax H
   refine aL tk rfl (ps := [(.val (.slice none 0 0)),(ak x111)]) ⟨_,_,rfl,rfl,_,_,rfl,rfl,rfl⟩ (PLe.of2 (PLe2.tup (fe.cons (PLe2.nil tk rfl) (fe.cons (PLe2.of_eq rfl) fe.nil))))
  refine ao (al 2 tk rfl (ab (ab (aa (ag tk rfl (av tk (zl _) ?_))))))
  refine ag tk rfl (ac ?_)
  refine iq tk 118 117 116 (fun s2 g2=>upd (upd (upd (upd (fun _=>.any) 19 (.list 70 (s2.map ap))) 5 (.ptr (aq sA))) 3 (.ptr (aQ c))) 1 (.list 70 (vars.map ap))) nB nO () H (fun fl2 Hp2 j2 s2 g2 hz2 hl2 x2 fb2 hx2 H hg2=>?_) (fun s2 g2 H=>?_)
  ·refine ab (aC (ab (aa ?_)))
   refine aX tk (zn j2) (bp (fun _=>rfl) hx2) ?_
   refine ag tk rfl ?_
   refine bd tk fun b21=>?_
   refine aE tk ?_
   refine ac (aa (ag tk rfl (aB tk ?_)))
   obtain ⟨x124,h124,H⟩ := ay H
   have s124 := lm s2 x2 _ h124
   refine am Tryz.call96 (fW.r) s124 ?_
   refine ag tk rfl (ac (aP (bm 2 tk rfl ?_)))
   exact bv () H hl2 hg2
  refine ab (aa (ae 4 tk rfl ?_))
  obtain ⟨x131,h131,H⟩ := ay H
  have s131 := hrec37 c s2 sA.body _ h131
  refine am Tryz.call37 (fW.r) s131 ?_
  refine ae 4 tk rfl (ac (al 4 tk rfl ?_))
  exact aM tk H rfl
 refine ab (al 2 tk rfl ?_)
 refine en (γ := Unit) (fun t3 g3=>⟨146,upd (upd (upd (upd (fun _=>.any) 136 (az t3)) 5 (.ptr (aq sA))) 3 (.ptr (aQ c))) 1 (.list 70 (vars.map ap)),fun _=>none,fun _=>none⟩) H (fun _ H=>?_) (fun t3 g3 H=>?_)
 ·refine aA rfl H (fun H=>?_) (fun H=>?_)
  ·refine ao ?_
   refine aK _ () H Gh.d
  refine al 2 tk rfl ?_
  refine aA rfl H (fun H=>?_) (fun H=>?_)
  ·refine ao ?_
   refine aK _ () H Gh.d
  refine bm 2 tk rfl ?_
  refine aK _ () H Gh.d
 refine aA rfl H (fun H=>?_) (fun H=>?_)
 ·refine ab (aa (ae 4 tk rfl ?_))
  obtain ⟨x144,h144,H⟩ := ay H
  have s144 := kh c vars sA _ h144
  refine am Tryz.call99 (fW.r) s144 ?_
  refine ae 2 tk rfl (ac ?_)
  exact aM tk H rfl
 refine ao (aP (al 3 tk rfl ?_))
 exact aM tk H rfl
mutual
def bq : Nat → LProcedureChecker → (List LCol) → (List LProcedureStatement) → Option ((List LCol) × Int)
 | 0,_,_,_=>none
 | n + 1,v0,v1,v2=>bT (fun b0 b1 b2=>bq n b0 b1 b2) (fun b0 b1 b2=>bC n b0 b1 b2) v0 v1 v2
def bC : Nat → LProcedureChecker → (List LCol) → LProcedureStatement → Option ((List LCol) × Int)
 | 0,_,_,_=>none
 | n + 1,v0,v1,v2=>bA (fun b0 b1 b2=>bq n b0 b1 b2) (fun b0 b1 b2=>bC n b0 b1 b2) v0 v1 v2
end
theorem kn  (n : Nat) : (∀ a0 a1 a2 r,bq n a0 a1 a2 = some r → aH Tryz.prog 37 [(.agg (aQ a0)),(.list 70 (a1.map ap)),(.list 55 (a2.map ah))] (.tup [(.list 70 (r.1.map ap)),(ak r.2)])) ∧ (∀ a0 a1 a2 r,bC n a0 a1 a2 = some r → aH Tryz.prog 63 [(.agg (aQ a0)),(.list 70 (a1.map ap)),(.agg (aq a2))] (.tup [(.list 70 (r.1.map ap)),(ak r.2)])) := by
 induction n with
 | zero=>exact ⟨(by intros; rename_i h; exact absurd (show (none : Option _) = some _ from h) (by simp)),(by intros; rename_i h; exact absurd (show (none : Option _) = some _ from h) (by simp))⟩
 | succ n ih =>
  exact ⟨(fun v0 v1 v2 r h=>kf (fun b0 b1 b2=>bq n b0 b1 b2) (fun b0 b1 b2=>bC n b0 b1 b2) ih.1 ih.2 v0 v1 v2  r h),(fun v0 v1 v2 r h=>kg (fun b0 b1 b2=>bq n b0 b1 b2) (fun b0 b1 b2=>bC n b0 b1 b2) ih.1 ih.2 v0 v1 v2  r h)⟩
def aW (c : LProcedureChecker) (vars : List LCol) (l : List LProcedureStatement) : Option ((List LCol) × Int) := eU fun n=>bq n c vars l
theorem kJ (c : LProcedureChecker) (vars : List LCol) (l : List LProcedureStatement) (r : (List LCol) × Int) (H : aW c vars l = some r) :
  aH Tryz.prog 37 [(.agg (aQ c)),(.list 70 (vars.map ap)),(.list 55 (l.map ah))] (.tup [(.list 70 (r.1.map ap)),(ak r.2)]) := by
 obtain ⟨n,h⟩ := gF H
 exact (kn  n).1 c vars l r h
def bc (c : LProcedureChecker) (vars : List LCol) (sA : LProcedureStatement) : Option ((List LCol) × Int) := eU fun n=>bC n c vars sA
def dB (sA : LSchema) (p : LProcedureProcedure) : Option (Int) :=
 af (
  af (bh p.body) fun x11 =>
  cond (decide ((x11.length : Int) > (40 : Int)))
   (some true)
   (af (cr p.body) fun x17 =>
   cond (decide (x17 > (6 : Int)))
    (some true)
    (some (decide ((p.parameters.length : Int) > (8 : Int)))))) fun (t1 : Bool) =>
 cond t1
  (some 2)
  (af (aF (σ := Unit) (ρ := (Int)) (fun (_ : Nat) (x2 : Int) (_ : Unit) =>
   cond (decide (x2 < (1 : Int)))
    (some (.ret 1))
    (cond (decide (x2 > (3 : Int)))
     (some (.ret 1))
     (some (.next ())))) 0 p.parameters ()) fun fl2=>fl2.thenR fun (_ : Unit) =>
  af (aW (LProcedureChecker.mk sA p.parameters) ([] : List LCol) p.body) fun x47 =>
  some x47.2)
theorem jU (sA : LSchema) (p : LProcedureProcedure) (r : Int) (H : dB sA p = some r) :
  aH Tryz.prog 16 [(.agg (bK sA)),(.agg (bw p))] (ak r) := by
 unfold dB at H
 refine PH.aw Tryz.func16 Tryz.ntmps16 ?_
 refine ab (aa (aD ?_))
 refine aD ?_
 refine ag tk rfl (ac (ab (ab ?_)))
 refine eg (γ := Unit) (fun t1 g1=>⟨51,upd (upd (upd (fun _=>.any) 25 (az t1)) 3 (.ptr (bw p))) 2 (.ptr (bK sA)),fun _=>none,fun _=>none⟩) H (fun _ H=>?_) (fun t1 g1 H=>?_)
 ·refine aa (ae 2 tk rfl ?_)
  obtain ⟨x11,h11,H⟩ := ay H
  have s11 := iB p.body _ h11
  refine am Tryz.call28 (fW.r) s11 ?_
  refine av tk (zl _) ?_
  refine ae 2 tk rfl ?_
  refine aR rfl rfl rfl H (fun H=>?_) (fun H=>?_)
  ·refine ae 11 tk rfl (ac ?_)
   refine aK _ () (ax H) Gh.d
  refine ae 2 tk rfl ?_
  obtain ⟨x17,h17,H⟩ := ay H
  have s17 := nJ p.body _ h17
  refine am Tryz.call36 (fW.r) s17 ?_
  refine ae 3 tk rfl ?_
  refine aR rfl rfl rfl H (fun H=>?_) (fun H=>?_)
  ·refine ae 5 tk rfl (ac ?_)
   refine aK _ () (ax H) Gh.d
  refine ae 2 tk rfl (av tk (zl _) ?_)
  refine ae 2 tk rfl (ac ?_)
  refine aK _ () (ax H) Gh.d
 refine aA rfl H (fun H=>?_) (fun H=>?_)
 ·refine al 1 tk rfl ?_
  exact aM tk H rfl
 refine ao (ab (ab (aa (ae 2 tk rfl (av tk (zl _) ?_)))))
 refine ag tk rfl (ac ?_)
 refine dZ tk 29 28 27 (fun s2 g2=>upd (upd (fun _=>.any) 3 (.ptr (bw p))) 2 (.ptr (bK sA))) nB nO () H (fun fl2 Hp2 j2 s2 g2 hz2 hl2 x2 fb2 hx2 H hg2=>?_) (fun s2 g2 H=>?_)
 ·refine ab (aC (ab (aa ?_)))
  refine aX tk (zn j2) (bp (fun _=>rfl) hx2) ?_
  refine ae 2 tk rfl (ac (ab (aa (ae 3 tk rfl ?_))))
  refine aR rfl rfl rfl H (fun H=>?_) (fun H=>?_)
  ·refine ae 3 tk rfl (ac (bX rfl (al 1 tk rfl ?_)))
   obtain rfl := ax H
   have e2 : fl2 = .ret _ := hg2
   subst e2
   obtain rfl := aG Hp2
   refine aL tk rfl (ps := [(ak 1)]) ⟨_,_,rfl,rfl,rfl⟩ (PLe.q rfl)
  refine ae 3 tk rfl (ac ?_)
  refine aA rfl H (fun H=>?_) (fun H=>?_)
  ·refine al 1 tk rfl ?_
   obtain rfl := ax H
   have e2 : fl2 = .ret _ := hg2
   subst e2
   obtain rfl := aG Hp2
   refine aL tk rfl (ps := [(ak 1)]) ⟨_,_,rfl,rfl,rfl⟩ (PLe.q rfl)
  refine ao (aP (bm 2 tk rfl ?_))
  exact bv () H hl2 hg2
 refine ab (aa (ae 6 tk rfl ?_))
 obtain ⟨x47,h47,H⟩ := ay H
 have s47 := kJ (LProcedureChecker.mk sA p.parameters) ([] : List LCol) p.body _ h47
 refine am Tryz.call37 (fW.of2 (fe.cons (PLe2.of_eq rfl) (fe.cons (PLe2.nil tk rfl) (fe.cons (PLe2.of_eq rfl) fe.nil)))) s47 ?_
 refine ae 5 tk rfl (ac (al 2 tk rfl ?_))
 exact aM tk H rfl
def dR (sA : LSchema) (st : List LRelation) (p : LProcedureProcedure) : Option (Bool) :=
 af (bh p.body) fun x9 =>
 cond (decide ((x9.length : Int) ≤ (40 : Int)))
  (af (fp sA) fun x14 =>
  cond (x14 == (0 : Int))
   (af (cV sA st) fun x20 =>
   cond (x20 == (0 : Int))
    (af (dB sA p) fun x26 =>
    some (x26 == (0 : Int)))
    (some false))
   (some false))
  (some false)
theorem md (sA : LSchema) (st : List LRelation) (p : LProcedureProcedure) (r : Bool) (H : dR sA st p = some r) :
  aH Tryz.prog 11 [(.agg (bK sA)),(.list 79 (st.map cy)),(.agg (bw p))] (az r) := by
 unfold dR at H
 refine PH.aw Tryz.func11 Tryz.ntmps11 ?_
 refine ab (aa (aD ?_))
 refine aD ?_
 refine ag tk rfl (ac (ab (aa (ae 2 tk rfl ?_))))
 obtain ⟨x9,h9,H⟩ := ay H
 have s9 := iB p.body _ h9
 refine am Tryz.call28 (fW.r) s9 ?_
 refine av tk (zl _) ?_
 refine ae 2 tk rfl ?_
 refine aR rfl rfl rfl H (fun H=>?_) (fun H=>?_)
 ·refine ag tk rfl ?_
  obtain ⟨x14,h14,H⟩ := ay H
  have s14 := nI sA _ h14
  refine am Tryz.call29 (fW.r) s14 ?_
  refine ae 3 tk rfl ?_
  refine aR rfl rfl rfl H (fun H=>?_) (fun H=>?_)
  ·refine ae 2 tk rfl ?_
   obtain ⟨x20,h20,H⟩ := ay H
   have s20 := ji sA st _ h20
   refine am Tryz.call23 (fW.r) s20 ?_
   refine ae 3 tk rfl ?_
   refine aR rfl rfl rfl H (fun H=>?_) (fun H=>?_)
   ·refine ae 2 tk rfl ?_
    obtain ⟨x26,h26,H⟩ := ay H
    have s26 := jU sA p _ h26
    refine am Tryz.call16 (fW.r) s26 ?_
    refine ae 3 tk rfl (ac ?_)
    exact aM tk H rfl
   refine ae 6 tk rfl (ac ?_)
   exact aM tk H rfl
  refine ae 12 tk rfl (ac ?_)
  exact aM tk H rfl
 refine ae 17 tk rfl (ac ?_)
 exact aM tk H rfl
def eD (sA : LSchema) (st : List LRelation) (p : LProcedureProcedure) (args : Rq) : Option ((List LChange) × (List LResult) × Int) :=
 af (dB sA p) fun x19 =>
 cond (x19 != (0 : Int))
  (some ([],[],x19))
  (cond (decide ((args.length : Int) < (p.parameters.length : Int)))
   (some ([],[],1))
   (af (aF (σ := Unit) (ρ := ((List LChange) × (List LResult) × Int)) (fun (j1 : Nat) (x1 : Int) (_ : Unit) =>
    af (aN args (j1 : Int)) fun (x39 : LVal) =>
    letP (iv x39) fun x41 =>
    cond (!x41)
     (some (.ret ([],[],7)))
     (af (aN args (j1 : Int)) fun (x46 : LVal) =>
     cond (x46.kind != x1)
      (af (aN args (j1 : Int)) fun (x54 : LVal) =>
      cond (x54.kind != (0 : Int))
       (some (.ret ([],[],7)))
       (some (.next ())))
      (some (.next ())))) 0 p.parameters ()) fun fl1=>fl1.thenR fun (_ : Unit) =>
   af (cV sA st) fun x63 =>
   cond (x63 != (0 : Int))
    (some ([],[],x63))
    (af (jp args 0 (p.parameters.length : Int)) fun (x73 : Rq) =>
    af (eE (LProcedureRun.mk sA st x73 [] [] [] [] 400 false) p.body) fun x80 =>
    cond (x80.1 != (0 : Int))
     (some ([],[],x80.1))
     (some (x80.2.changes,x80.2.results,0)))))
theorem ou (sA : LSchema) (st : List LRelation) (p : LProcedureProcedure) (args : Rq) (r : (List LChange) × (List LResult) × Int) (H : eD sA st p args = some r) :
  aH Tryz.prog 12 [(.agg (bK sA)),(.list 79 (st.map cy)),(.agg (bw p)),(.list 75 (args.map aY))] (.tup [(.list 179 (r.1.map ni)),(.list 42 (r.2.1.map nk)),(ak r.2.2)]) := by
 unfold eD at H
 refine PH.aw Tryz.func12 Tryz.ntmps12 ?_
 refine ab (aa (aD ?_))
 refine aD ?_
 refine ae 3 tk rfl (ac (ab (ab (aa (ae 2 tk rfl ?_)))))
 obtain ⟨x19,h19,H⟩ := ay H
 have s19 := jU sA p _ h19
 refine am Tryz.call16 (fW.r) s19 ?_
 refine ag tk rfl (ac (al 2 tk rfl ?_))
 refine aA rfl H (fun H=>?_) (fun H=>?_)
 ·refine al 4 tk rfl ?_
  obtain rfl := ax H
  refine aL tk rfl (ps := [(.val (.slice none 0 0)),(.val (.slice none 0 0)),(ak x19)]) ⟨_,_,rfl,rfl,_,_,rfl,rfl,_,_,rfl,rfl,rfl⟩ (PLe.of2 (PLe2.tup (fe.cons (PLe2.nil tk rfl) (fe.cons (PLe2.nil tk rfl) (fe.cons (PLe2.of_eq rfl) fe.nil)))))
 refine ao (ab (ab (aa (ag tk rfl (av tk (zl _) ?_)))))
 refine ae 2 tk rfl (av tk (zl _) ?_)
 refine ag tk rfl (ac ?_)
 refine aA rfl H (fun H=>?_) (fun H=>?_)
 ·refine al 3 tk rfl ?_
  obtain rfl := ax H
  refine aL tk rfl (ps := [(.val (.slice none 0 0)),(.val (.slice none 0 0)),(ak 1)]) ⟨_,_,rfl,rfl,_,_,rfl,rfl,_,_,rfl,rfl,rfl⟩ (PLe.of2 (PLe2.tup (fe.cons (PLe2.nil tk rfl) (fe.cons (PLe2.nil tk rfl) (fe.cons (PLe2.of_eq rfl) fe.nil)))))
 refine ao (ab (ab (aa (ae 2 tk rfl (av tk (zl _) ?_)))))
 refine ag tk rfl (ac ?_)
 refine dZ tk 32 31 30 (fun s1 g1=>upd (upd (upd (upd (fun _=>.any) 6 (.ptr (bw p))) 4 (.ptr (bK sA))) 3 (.list 75 (args.map aY))) 1 (.list 79 (st.map cy))) nB nO () H (fun fl1 Hp1 j1 s1 g1 hz1 hl1 x1 fb1 hx1 H hg1=>?_) (fun s1 g1 H=>?_)
 ·refine ab (aC (ab (aa (ag tk rfl ?_))))
  refine aX tk (zn j1) (bp (fun _=>rfl) hx1) ?_
  refine ae 3 tk rfl (ac (ab (aa (ae 2 tk rfl ?_))))
  obtain ⟨x39,k39,H⟩ := bL H
  refine aX tk k39.1 (aS (fun _=>rfl) k39.2) ?_
  refine ag tk rfl ?_
  obtain ⟨x41,h41,H⟩ := eh H
  have s41 := nX x39
  rw [h41] at s41
  refine am Tryz.call30 (fW.r) s41 ?_
  refine ae 2 tk rfl ?_
  refine aR rfl rfl rfl H (fun H=>?_) (fun H=>?_)
  ·refine ae 16 tk rfl (ac (bX rfl (al 3 tk rfl ?_)))
   obtain rfl := ax H
   have e1 : fl1 = .ret _ := hg1
   subst e1
   obtain rfl := aG Hp1
   refine aL tk rfl (ps := [(.val (.slice none 0 0)),(.val (.slice none 0 0)),(ak 7)]) ⟨_,_,rfl,rfl,_,_,rfl,rfl,_,_,rfl,rfl,rfl⟩ (PLe.of2 (PLe2.tup (fe.cons (PLe2.nil tk rfl) (fe.cons (PLe2.nil tk rfl) (fe.cons (PLe2.of_eq rfl) fe.nil)))))
  refine ae 2 tk rfl ?_
  obtain ⟨x46,k46,H⟩ := bL H
  refine aX tk k46.1 (aS (fun _=>rfl) k46.2) ?_
  refine ae 5 tk rfl ?_
  refine aR rfl rfl rfl H (fun H=>?_) (fun H=>?_)
  ·refine ae 2 tk rfl ?_
   obtain ⟨x54,k54,H⟩ := bL H
   refine aX tk k54.1 (aS (fun _=>rfl) k54.2) ?_
   refine ae 5 tk rfl (ac ?_)
   refine aA rfl H (fun H=>?_) (fun H=>?_)
   ·refine al 3 tk rfl ?_
    obtain rfl := ax H
    have e1 : fl1 = .ret _ := hg1
    subst e1
    obtain rfl := aG Hp1
    refine aL tk rfl (ps := [(.val (.slice none 0 0)),(.val (.slice none 0 0)),(ak 7)]) ⟨_,_,rfl,rfl,_,_,rfl,rfl,_,_,rfl,rfl,rfl⟩ (PLe.of2 (PLe2.tup (fe.cons (PLe2.nil tk rfl) (fe.cons (PLe2.nil tk rfl) (fe.cons (PLe2.of_eq rfl) fe.nil)))))
   refine ao (aP (bm 2 tk rfl ?_))
   exact bv () H hl1 hg1
  refine ae 8 tk rfl (ac (cQ rfl (ao (aP (bm 2 tk rfl ?_)))))
  exact bv () H hl1 hg1
 refine ab (ab (aa (ae 2 tk rfl ?_)))
 obtain ⟨x63,h63,H⟩ := ay H
 have s63 := ji sA st _ h63
 refine am Tryz.call23 (fW.r) s63 ?_
 refine ag tk rfl (ac (al 2 tk rfl ?_))
 refine aA rfl H (fun H=>?_) (fun H=>?_)
 ·refine al 4 tk rfl ?_
  obtain rfl := ax H
  refine aL tk rfl (ps := [(.val (.slice none 0 0)),(.val (.slice none 0 0)),(ak x63)]) ⟨_,_,rfl,rfl,_,_,rfl,rfl,_,_,rfl,rfl,rfl⟩ (PLe.of2 (PLe2.tup (fe.cons (PLe2.nil tk rfl) (fe.cons (PLe2.nil tk rfl) (fe.cons (PLe2.of_eq rfl) fe.nil)))))
 refine ao (ab (bD tk mok ⟨false,false,[]⟩ [0,1,2,3,4,5,6,7,8,9,10] rfl (by decide +kernel) rfl (aO 5 rfl (kE rfl rfl rfl rfl rfl rfl (zl _) rfl ?_))))
 obtain ⟨x73,h73,H⟩ := ay H
 have k73 := jI h73
 refine oB rfl rfl rfl rfl rfl rfl (zl _) rfl rfl k73.1 (kU k73.2) rfl ?_
 have s74 := clone_31 (m := 74) x73
 refine bj Tryz.call31 (fW.r) (aH.of_own s74) ?_
 refine bY rfl ?_
 refine Do.box (d := 76) rfl rfl rfl rfl rfl rfl fun b76=>?_
 refine bY rfl (bi (ab (ab (aa (ae 3 tk rfl ?_)))))
 obtain ⟨x80,h80,H⟩ := ay H
 have s80 := mh b76 (LProcedureRun.mk sA st x73 [] [] [] [] 400 false) p.body _ h80
 refine gn (st' := ⟨_,_,upd (fun _=>none) 76 (some ⟨b76,(bJ (LProcedureRun.mk sA st x73 [] [] [] [] 400 false))⟩),fun _=>none⟩) (Gh.le (fE _ _) (aT rfl (fW.of2 (fe.cons (PLe2.of_eq rfl) (fe.cons (PLe2.of_eq rfl) (fe.cons (PLe2.of_eq rfl) (fe.cons (PLe2.of_eq rfl) (fe.cons (PLe2.of_eq rfl) (fe.cons (PLe2.nil tk rfl) (fe.cons (PLe2.nil tk rfl) (fe.cons (PLe2.nil tk rfl) (fe.cons (PLe2.nil tk rfl) (fe.cons (PLe2.of_eq rfl) (fe.cons (PLe2.of_eq rfl) fe.nil)))))))))))) bf) be) ?_
 refine iG (g := 32) rfl rfl rfl Tryz.call32 [(76,1500)] [] rfl rfl rfl rfl (fW.of2 (fe.cons PLe2.boxT (fe.cons (PLe2.of_eq rfl) fe.nil))) (by rw [dF,hJ,hC]; rfl) s80 ?_
 rintro u80 H80h ⟨rfl,rfl⟩
 refine ⟨_,rfl,?_⟩
 refine gn (st' := ⟨_,_,upd (fun _=>none) 76 (some ⟨b76,(bJ x80.2)⟩),fun _=>none⟩) (Gh.le (fE _ _) (aT rfl (fW.r) bf) be) ?_
 refine ag tk rfl (ac (al 2 tk rfl ?_))
 refine aA rfl H (fun H=>?_) (fun H=>?_)
 ·refine al 4 tk rfl ?_
  obtain rfl := ax H
  refine aL tk rfl (ps := [(.val (.slice none 0 0)),(.val (.slice none 0 0)),(ak x80.1)]) ⟨_,_,rfl,rfl,_,_,rfl,rfl,_,_,rfl,rfl,rfl⟩ (PLe.of2 (PLe2.tup (fe.cons (PLe2.nil tk rfl) (fe.cons (PLe2.nil tk rfl) (fe.cons (PLe2.of_eq rfl) fe.nil)))))
 refine ao (ab (bD tk mok ⟨true,false,[]⟩ [0,1,2,3,4,5,6,7,8,9,10] rfl (by decide +kernel) rfl (aO 3 rfl (bE ?_))))
 refine aO 3 rfl (bE ?_)
 refine aO 3 rfl (bi ?_)
 exact aM tk H rfl
def el (sA : LSchema) (st : List LRelation) (p : LProcedureProcedure) (code : Int) (args : Rq) : Option (Bool) :=
 letP (sampleV) fun x15 =>
 cond (!x15)
  (some false)
  (af (ej 192 ([(LProcedureStatement.mk 8 code [] [] [] [] [] [] [] [])] : List LProcedureStatement) p.body) fun (x23 : List LProcedureStatement) =>
  af (
   af (dR sA st (LProcedureProcedure.mk p.parameters x23)) fun x28 =>
   cond (!x28)
    (some true)
    (some (decide ((args.length : Int) > (20 : Int))))) fun (t1 : Bool) =>
  cond t1
   (some true)
   (af (eD sA st (LProcedureProcedure.mk p.parameters x23) args) fun x40 =>
   cond (decide ((args.length : Int) < (p.parameters.length : Int)))
    (some (x40.2.2 == (1 : Int)))
    (cond ((IntKind.i64.wrap ((x40.1.length : Int) + (x40.2.1.length : Int))) == (0 : Int))
     (letP (cE code) fun x61 =>
     cond (x40.2.2 == x61)
      (cond (x40.2.2 == (IntKind.i64.wrap ((100 : Int) + code)))
       (some true)
       (cond (x40.2.2 == (7 : Int))
        (some (decide ((p.parameters.length : Int) > (0 : Int))))
        (some false)))
      (cond (x40.2.2 == (7 : Int))
       (some (decide ((p.parameters.length : Int) > (0 : Int))))
       (some false)))
     (some false))))
theorem jS (sA : LSchema) (st : List LRelation) (p : LProcedureProcedure) (code : Int) (args : Rq) (r : Bool) (H : el sA st p code args = some r) :
  aH Tryz.prog 4 [(.agg (bK sA)),(.list 79 (st.map cy)),(.agg (bw p)),(ak code),(.list 75 (args.map aY))] (az r) := by
 unfold el at H
 refine PH.aw Tryz.func4 Tryz.ntmps4 ?_
 refine ab (aa (aD ?_))
 refine aD ?_
 refine ag tk rfl (ac (ab (ab (aa ?_))))
 obtain ⟨x15,h15,H⟩ := eh H
 have s15 := sampleV_spec
 rw [h15] at s15
 refine am Tryz.call6 (fW.r) s15 ?_
 refine ag tk rfl (ac ?_)
 refine aA rfl H (fun H=>?_) (fun H=>?_)
 ·refine al 1 tk rfl ?_
  exact aM tk H rfl
 refine ao (ab (aa (ag tk rfl ?_)))
 refine bd tk fun b11=>?_
 refine aE tk ?_
 refine ac (ab (aa (ae 2 tk rfl ?_)))
 refine nH (rows' := List.map ah ([(LProcedureStatement.mk 8 code [] [] [] [] [] [] [] [])] : List LProcedureStatement)) tk rfl rfl rfl rfl rfl rfl rfl (congrArg (List.map List.length) (kI bs ([(LProcedureStatement.mk 8 code [] [] [] [] [] [] [] [])] : List LProcedureStatement))).symm rfl (fe.trans (b := (List.map aq ([(LProcedureStatement.mk 8 code [] [] [] [] [] [] [] [])] : List LProcedureStatement)).flatten) (fe.cons (PLe2.of_eq rfl) (fe.cons (PLe2.of_eq rfl) (fe.cons (PLe2.of_eq rfl) (fe.cons (PLe2.of_eq rfl) (fe.cons (PLe2.nil tk rfl) (fe.cons (PLe2.nil tk rfl) (fe.cons (PLe2.nil tk rfl) (fe.cons (PLe2.nil tk rfl) (fe.cons (PLe2.nil tk rfl) (fe.cons (PLe2.nil tk rfl) fe.nil)))))))))) (fe.of_eq (congrArg List.flatten (kI bs ([(LProcedureStatement.mk 8 code [] [] [] [] [] [] [] [])] : List LProcedureStatement))))) fun g20=>?_
 refine ae 2 tk rfl ?_
 obtain ⟨x23,h23,H⟩ := ay H
 have k23 := eo h23
 refine cW (rows2' := List.map ah p.body) (rows' := List.map ah x23) tk rfl rfl rfl rfl rfl rfl rfl rfl rfl rfl rfl rfl rfl (fh.refl _) (fC k23.1) (fB k23.2.1) (fy k23.2.2) fun g23=>?_
 refine ag tk rfl (aE tk ?_)
 refine ac (ab (ab ?_))
 refine eg (γ := Unit) (fun t1 g1=>⟨80,upd (upd (upd (upd (upd (upd (upd (fun _=>.any) 34 (az t1)) 11 (.box 11 b11 0)) 7 (.ptr (bw p))) 5 (.ptr (bK sA))) 4 (.list 75 (args.map aY))) 3 (ak code)) 1 (.list 79 (st.map cy)),upd (fun _=>none) 11 (some ⟨b11,[(.list 3 (p.parameters.map aZ)),(.list 55 (x23.map ah))]⟩),fun _=>none⟩) H (fun _ H=>?_) (fun t1 g1 H=>?_)
 ·refine om 11 1 rfl rfl rfl rfl rfl (aa (ae 2 tk rfl (aB tk ?_)))
  obtain ⟨x28,h28,H⟩ := ay H
  have s28 := md sA st (LProcedureProcedure.mk p.parameters x23) _ h28
  refine am Tryz.call11 (fW.r) s28 ?_
  refine ae 2 tk rfl ?_
  refine aR rfl rfl rfl H (fun H=>?_) (fun H=>?_)
  ·refine ae 4 tk rfl (ac ?_)
   refine aK _ () (ax H) Gh.d
  refine ag tk rfl (av tk (zl _) ?_)
  refine ae 2 tk rfl (ac ?_)
  refine aK _ () (ax H) Gh.d
 refine aA rfl H (fun H=>?_) (fun H=>?_)
 ·refine al 1 tk rfl ?_
  exact aM tk H rfl
 refine ao (ab (aa (ae 2 tk rfl (aB tk ?_))))
 refine ag tk rfl ?_
 obtain ⟨x40,h40,H⟩ := ay H
 have s40 := ou sA st (LProcedureProcedure.mk p.parameters x23) args _ h40
 refine am Tryz.call12 (fW.r) s40 ?_
 refine ae 7 tk rfl (ac (ab (ab (aa (ag tk rfl (av tk (zl _) ?_))))))
 refine ae 2 tk rfl (av tk (zl _) ?_)
 refine ag tk rfl (ac ?_)
 refine aA rfl H (fun H=>?_) (fun H=>?_)
 ·refine al 3 tk rfl ?_
  exact aM tk H rfl
 refine ao (ab (aa (ag tk rfl (av tk (zl _) ?_))))
 refine ag tk rfl (av tk (zl _) ?_)
 refine ae 3 tk rfl ?_
 refine aR rfl rfl rfl H (fun H=>?_) (fun H=>?_)
 ·refine ae 2 tk rfl ?_
  obtain ⟨x61,h61,H⟩ := eh H
  have s61 := iu code
  rw [h61] at s61
  refine am Tryz.call13 (fW.r) s61 ?_
  refine ae 2 tk rfl ?_
  refine aR rfl rfl rfl H (fun H=>?_) (fun H=>?_)
  ·refine ae 6 tk rfl ?_
   refine aR rfl rfl rfl H (fun H=>?_) (fun H=>?_)
   ·refine ae 11 tk rfl (ac ?_)
    exact aM tk H rfl
   refine ae 3 tk rfl ?_
   refine aR rfl rfl rfl H (fun H=>?_) (fun H=>?_)
   ·refine ae 2 tk rfl (av tk (zl _) ?_)
    refine ae 5 tk rfl (ac ?_)
    exact aM tk H rfl
   refine ae 8 tk rfl (ac ?_)
   exact aM tk H rfl
  refine ae 9 tk rfl ?_
  refine aR rfl rfl rfl H (fun H=>?_) (fun H=>?_)
  ·refine ae 2 tk rfl (av tk (zl _) ?_)
   refine ae 5 tk rfl (ac ?_)
   exact aM tk H rfl
  refine ae 8 tk rfl (ac ?_)
  exact aM tk H rfl
 refine ae 22 tk rfl (ac ?_)
 exact aM tk H rfl
end
end Go.Proofs.YteceobbkljmbmaaGreatDoor

namespace Go.Proofs.YteceobbkljmbmaaGreatDoor
noncomputable section
open Go Go.Ab
theorem LQuery.inputs_lt {q x : LQuery} (h : x ∈ q.inputs) : SizeOf.sizeOf x < SizeOf.sizeOf q := by
 cases q
 simp only [LQuery.inputs] at h
 have := List.sizeOf_lt_of_mem h
 simp only [LQuery.mk.sizeOf_spec]
 omega
theorem LQuery.ind {p : LQuery → Prop} (h : ∀ q : LQuery,(∀ x ∈ q.inputs,p x) → p q) : ∀ q,p q := by
 intro q
 generalize hn : SizeOf.sizeOf q = n
 induction n using Nat.strongRecOn generalizing q with
 | _ n ih=>exact h q fun x hx=>ih _ (hn ▸ LQuery.inputs_lt hx) x rfl
theorem lH {α : Type} {p : α → Nat → Prop} : ∀ (xs : List α),(∀ x ∈ xs,∃ N,∀ n,N ≤ n → p x n) → ∃ N,∀ n,N ≤ n → ∀ x ∈ xs,p x n
 | [],_=>⟨0,fun _ _ x hx=>by simp at hx⟩
 | y :: xs,h=>by
  obtain ⟨N,hN⟩ := h y (by simp)
  obtain ⟨N',hN'⟩ := lH xs fun x hx=>h x (by simp [hx])
  refine ⟨N + N',fun n hn x hx=>?_⟩
  rcases List.mem_cons.1 hx with rfl | hx
  ·exact hN n (by omega)
  ·exact hN' n (by omega) x hx
theorem eW {α σ ρ : Type} {step step' : Nat → α → σ → Option (Flow σ ρ)} : ∀ (xs : List α) (j : Nat) (s : σ),(∀ k x s,xs[k]? = some x → step (j + k) x s = step' (j + k) x s) → aF step j xs s = aF step' j xs s
 | [],_,_,_=>rfl
 | x :: xs,j,s,h=>by
  have h0 := h 0 x s rfl
  rw [Nat.add_zero] at h0
  rw [aF,aF,h0]
  split
  ·rfl
  ·exact eW xs (j + 1) _ fun k y t hk=>by
    have := h (k + 1) y t (by simpa using hk)
    rwa [show j + (k + 1) = j + 1 + k from by omega] at this
  ·rfl
  ·rfl
theorem dS {α : Type} {xs : List α} {k : Nat} {x : α} (h : xs[k]? = some x) : x ∈ xs := List.mem_of_getElem? h
theorem kw {γ β : Type} {F : Nat → γ → LQuery → Option β} {O : (γ → LQuery → Option β) → γ → LQuery → Option β} (hF : ∀ n,F (n + 1) = O (F n)) (c : γ) (q : LQuery)
  (hc : ∀ r r' : γ → LQuery → Option β,(∀ x ∈ q.inputs,r c x = r' c x) → O r c q = O r' c q) (hx : ∀ x ∈ q.inputs,∃ v,eU (fun n=>F n c x) = some v) {r : β} (h : O (fun c q=>eU fun n=>F n c q) c q = some r) :
  eU (fun n=>F n c q) = some r := by
 obtain ⟨N,hN⟩ := lH (p := fun x n=>F n c x = eU fun n=>F n c x) q.inputs (fun x hm=>by
  obtain ⟨v,hv⟩ := hx x hm
  obtain ⟨N,hN⟩ := limN_ev hv
  exact ⟨N,fun n hn=>by rw [hN n hn,hv]⟩)
 refine limN_eq (N + 1) fun m hm=>?_
 obtain ⟨m,rfl⟩ : ∃ k,m = k + 1 := ⟨m - 1,by omega⟩
 rw [hF,hc _ (fun c q=>eU fun n=>F n c q) (hN m (by omega)),h]
def bR (q : LQuery) : List LQuery := q :: (q.inputs.attach.map fun x=>bR x.1).flatten
termination_by SizeOf.sizeOf q
decreasing_by exact LQuery.inputs_lt x.2
theorem fV (q : LQuery) : bR q = q :: (q.inputs.map bR).flatten := by
 rw [bR,List.attach_map_val (f := bR)]
theorem flat_le {α β : Type} {f : α → List β} {xs : List α} {x : α} (h : x ∈ xs) : (f x).length ≤ ((xs.map f).flatten).length := by
 induction xs with
 | nil=>simp at h
 | cons y xs ih =>
  simp only [List.map_cons,List.flatten_cons,List.length_append]
  rcases List.mem_cons.1 h with rfl | h
  ·omega
  ·have := ih h; omega
theorem iW {q x : LQuery} (h : x ∈ q.inputs) : (bR x).length + 1 ≤ (bR q).length := by
 rw [fV q]
 have := flat_le (f := bR) h
 simp only [List.length_cons]
 omega
theorem dT {α : Type} {bytes : Nat} {xs ys : List α} (hb : bytes ≤ 200) (h : xs.length + ys.length ≤ 10000000) : ej bytes xs ys = some (xs ++ ys) := by
 refine appI_ok ?_ (by unfold maxLen; omega)
 have : (xs.length + ys.length) * bytes ≤ 10000000 * 200 := Nat.mul_le_mul h hb
 omega
theorem take_flat {α β : Type} {f : α → List β} {xs : List α} {k : Nat} : (((xs.take k).map f).flatten).length ≤ ((xs.map f).flatten).length := by
 induction xs generalizing k with
 | nil=>simp
 | cons y xs ih =>
  cases k with
  | zero=>simp
  | succ k=>simp only [List.take_succ_cons,List.map_cons,List.flatten_cons,List.length_append]; have := ih (k := k); omega
theorem nodes_ok : ∀ q : LQuery,(bR q).length ≤ 10000000 → fR q = some (bR q) := by
 refine LQuery.ind fun q ih hb=>?_
 refine kw (γ := Unit) (F := fun n _ q=>fN n q) (O := fun r _ q=>fO (fun x=>r () x) q) (fun n=>rfl) () q ?_ (fun x hx=>⟨_,ih x hx (by have := iW hx; omega)⟩) ?_
 ·intro r r' h
  simp only [fO]
  congr 1
  exact eW q.inputs 0 _ fun k x s hk=>by rw [h x (dS hk)]
 ·have hr := rMa (step := fun (_ : Nat) (x1 : LQuery) (s1 : List LQuery)=>af (fR x1) fun x17=>af (ej 160 s1 x17) fun (x18 : List LQuery)=>some (Flow.next (ρ := Empty) x18)) (xs := q.inputs) (s := [q])
   (fun k=>q :: ((q.inputs.take k).map bR).flatten) (by simp) (fun k x hk=>by
    have hx := dS hk
    rw [ih x hx (by have := iW hx; omega),bPs,dT (by decide),bPs]
    ·rw [List.take_add_one,hk]; simp
    ·have h1 : (((q.inputs.take (k + 1)).map bR).flatten).length ≤ ((q.inputs.map bR).flatten).length := take_flat
     rw [List.take_add_one,hk] at h1
     rw [fV] at hb
     simp at h1 hb ⊢
     omega)
  simp only [fO]
  have e : ∀ x,(eU fun n=>fN n x) = fR x := fun _=>rfl
  simp only [e]
  rw [hr,bPs,ew,List.take_length,fV]
def dt (a b : Int) : Int := if b > a then b else a
theorem lY {a b c : Int} (h : a ≤ c) (h' : b ≤ c) : dt a b ≤ c := by unfold dt; split <;> assumption
theorem lT (a b : Int) : a ≤ dt a b := by unfold dt; split <;> omega
theorem maxI_r (a b : Int) : b ≤ dt a b := by unfold dt; split <;> omega
def fJ (q : LQuery) : Int := (q.inputs.attach.map fun x=>fJ x.1).foldl dt 0 + 1
termination_by SizeOf.sizeOf q
decreasing_by exact LQuery.inputs_lt x.2
theorem np (q : LQuery) : fJ q = (q.inputs.map fJ).foldl dt 0 + 1 := by
 rw [fJ,List.attach_map_val (f := fJ)]
theorem mH : ∀ {l : List Int} {a c : Int},a ≤ c → (∀ x ∈ l,x ≤ c) → l.foldl dt a ≤ c
 | [],_,_,h,_=>h
 | x :: l,a,c,h,hl=>mH (l := l) (lY h (hl x (by simp))) fun y hy=>hl y (by simp [hy])
theorem mF : ∀ {l : List Int} {a : Int},a ≤ l.foldl dt a ∧ ∀ x ∈ l,x ≤ l.foldl dt a
 | [],a=>⟨Int.le_refl a,by simp⟩
 | x :: l,a=>by
  obtain ⟨h1,h2⟩ := mF (l := l) (a := dt a x)
  simp only [List.foldl_cons]
  refine ⟨Int.le_trans (lT a x) h1,fun y hy=>?_⟩
  rcases List.mem_cons.1 hy with rfl | hy
  ·exact Int.le_trans (maxI_r a y) h1
  ·exact h2 y hy
theorem depthQ_nodes : ∀ q : LQuery,1 ≤ fJ q ∧ fJ q ≤ (bR q).length := by
 refine LQuery.ind fun q ih=>?_
 rw [np,fV]
 have h1 : (q.inputs.map fJ).foldl dt 0 ≤ (((q.inputs.map bR).flatten).length : Nat) := mH (by omega) fun x hx=>by
  obtain ⟨y,hy,rfl⟩ := List.mem_map.1 hx
  have := (ih y hy).2
  have := flat_le (f := bR) hy
  omega
 have h2 := (mF (l := q.inputs.map fJ) (a := 0)).1
 simp only [List.length_cons]
 omega
theorem depth_ok : ∀ q : LQuery,(bR q).length ≤ 10000000 → gP q = some (fJ q) := by
 refine LQuery.ind fun q ih hb=>?_
 refine kw (γ := Unit) (F := fun n _ q=>fP n q) (O := fun r _ q=>fQ (fun x=>r () x) q) (fun n=>rfl) () q ?_ (fun x hx=>⟨_,ih x hx (by have := iW hx; omega)⟩) ?_
 ·intro r r' h
  simp only [fQ]
  congr 1
  exact eW q.inputs 0 _ fun k x s hk=>by rw [h x (dS hk)]
 ·have hr := rMa (step := fun (_ : Nat) (x1 : LQuery) (s1 : Int)=>af (gP x1) fun x15=>some (Flow.next (ρ := Empty) (if x15 > s1 then x15 else s1))) (xs := q.inputs) (s := 0)
   (fun k=>((q.inputs.take k).map fJ).foldl dt 0) (by simp) (fun k x hk=>by
    have hx := dS hk
    rw [ih x hx (by have := iW hx; omega),bPs,List.take_add_one,hk]
    simp [dt])
  simp only [fQ]
  have e : ∀ x,(eU fun n=>fP n x) = gP x := fun _=>rfl
  simp only [e]
  rw [hr,bPs,ew,List.take_length,np]
  have h := depthQ_nodes q
  rw [np] at h
  rw [fa (by omega) (by omega)]
def capI (n : Int) : Int := if 20001 < n then 20001 else n
def jn (kind : Int) (s : Int × Int) (j : Nat) (x : Int × Int) : Int × Int :=
 (capI (if j = 0 then x.1 else if kind = 6 then s.1 + x.1 else if kind = 4 ∨ kind = 5 then s.1 * dt 1 x.1 else s.1),dt s.2 x.2)
def em (kind : Int) : Nat → List (Int × Int) → Int × Int → Int × Int
 | _,[],s=>s
 | j,x :: l,s=>em kind (j + 1) l (jn kind s j x)
def gm (q : LQuery) : Int × Int :=
 let s := em q.kind 0 (q.inputs.attach.map fun x=>gm x.1) (0,0)
 if q.kind = 1 then (24,dt s.2 24) else (s.1,dt s.2 s.1)
termination_by SizeOf.sizeOf q
decreasing_by exact LQuery.inputs_lt x.2
theorem mostQ_eq (q : LQuery) : gm q = if q.kind = 1 then (24,dt (em q.kind 0 (q.inputs.map gm) (0,0)).2 24) else ((em q.kind 0 (q.inputs.map gm) (0,0)).1,dt (em q.kind 0 (q.inputs.map gm) (0,0)).2 (em q.kind 0 (q.inputs.map gm) (0,0)).1) := by
 rw [gm,List.attach_map_val (f := gm)]
def jy (s : Int × Int) : Prop := 0 ≤ s.1 ∧ s.1 ≤ 20001 ∧ 0 ≤ s.2 ∧ s.2 ≤ 20001
theorem capI_b {n : Int} (h : 0 ≤ n) : 0 ≤ capI n ∧ capI n ≤ 20001 := by unfold capI; split <;> omega
theorem mostStep_r {kind : Int} {s x : Int × Int} {j : Nat} (hs : jy s) (hx : jy x) : jy (jn kind s j x) := by
 obtain ⟨a1,a2,a3,a4⟩ := hs
 obtain ⟨b1,b2,b3,b4⟩ := hx
 unfold jn
 have h1 : 0 ≤ (if j = 0 then x.1 else if kind = 6 then s.1 + x.1 else if kind = 4 ∨ kind = 5 then s.1 * dt 1 x.1 else s.1) := by
  split
  ·exact b1
  ·split
   ·omega
   ·split
    ·exact Int.mul_nonneg a1 (Int.le_trans (by decide) (lT 1 x.1))
    ·exact a1
 exact ⟨(capI_b h1).1,(capI_b h1).2,Int.le_trans a3 (lT _ _),lY a4 b4⟩
theorem mi {kind : Int} : ∀ {l : List (Int × Int)} {j : Nat} {s : Int × Int},jy s → (∀ x ∈ l,jy x) → jy (em kind j l s)
 | [],_,_,h,_=>h
 | x :: l,j,s,h,hl=>mi (l := l) (mostStep_r h (hl x (by simp))) fun y hy=>hl y (by simp [hy])
theorem mostQ_r : ∀ q : LQuery,jy (gm q) := by
 refine LQuery.ind fun q ih=>?_
 rw [mostQ_eq]
 have h : jy (em q.kind 0 (q.inputs.map gm) (0,0)) := mi ⟨by decide,by decide,by decide,by decide⟩ fun x hx=>by
  obtain ⟨y,hy,rfl⟩ := List.mem_map.1 hx
  exact ih y hy
 obtain ⟨a1,a2,a3,a4⟩ := h
 split
 ·exact ⟨show (0 : Int) ≤ 24 by decide,show (24 : Int) ≤ 20001 by decide,Int.le_trans a3 (lT _ _),lY a4 (by decide)⟩
 ·exact ⟨a1,a2,Int.le_trans a3 (lT _ _),lY a4 a2⟩
theorem nn (kind : Int) : ∀ (l : List (Int × Int)) (j : Nat) (s x : Int × Int),em kind j (l ++ [x]) s = jn kind (em kind j l s) (j + l.length) x
 | [],j,s,x=>by simp [em]
 | y :: l,j,s,x=>by
  rw [List.cons_append,em,nn kind l (j + 1),em]
  congr 1
  simp
  omega
theorem mostStep_run {kind : Int} {s x : Int × Int} {j : Nat} (hs : jy s) (hx : jy x) :
  (cond ((j : Int) == (0 : Int))
   (some (Flow.next (ρ := Empty) ((if (20001 : Int) < x.1 then (20001 : Int) else x.1),(if x.2 > s.2 then x.2 else s.2))))
   (cond (kind == (6 : Int))
    (some (.next ((if (20001 : Int) < (IntKind.i64.wrap (s.1 + x.1)) then (20001 : Int) else (IntKind.i64.wrap (s.1 + x.1))),(if x.2 > s.2 then x.2 else s.2))))
    (letP (
     cond (kind == (4 : Int))
      (true)
      ((kind == (5 : Int)))) fun (t4 : Bool) =>
    cond t4
     (some (.next ((if (20001 : Int) < (IntKind.i64.wrap (s.1 * (if x.1 > (1 : Int) then x.1 else (1 : Int)))) then (20001 : Int) else (IntKind.i64.wrap (s.1 * (if x.1 > (1 : Int) then x.1 else (1 : Int))))),(if x.2 > s.2 then x.2 else s.2))))
     (some (.next ((if (20001 : Int) < s.1 then (20001 : Int) else s.1),(if x.2 > s.2 then x.2 else s.2))))))) = some (.next (jn kind s j x)) := by
 obtain ⟨a1,a2,a3,a4⟩ := hs
 obtain ⟨b1,b2,b3,b4⟩ := hx
 have hm : 1 ≤ dt 1 x.1 ∧ dt 1 x.1 ≤ 20001 := ⟨lT _ _,lY (by decide) b2⟩
 have hp : 0 ≤ s.1 * dt 1 x.1 ∧ s.1 * dt 1 x.1 ≤ 20001 * 20001 := ⟨Int.mul_nonneg a1 (by omega),Int.mul_le_mul a2 hm.2 (by omega) (by decide)⟩
 have hw1 : IntKind.i64.wrap (s.1 + x.1) = s.1 + x.1 := fa (by omega) (by omega)
 have hw2 : IntKind.i64.wrap (s.1 * (if x.1 > (1 : Int) then x.1 else (1 : Int))) = s.1 * dt 1 x.1 := fa (by show _ ≤ s.1 * dt 1 x.1; omega) (by show s.1 * dt 1 x.1 ≤ _; omega)
 rw [hw1,hw2]
 unfold jn capI dt letP
 by_cases h0 : j = 0
 ·subst h0; simp
 ·have : ((j : Int) == (0 : Int)) = false := by simp; omega
  rw [this]
  by_cases h6 : kind = 6
  ·subst h6; simp [h0]
  ·by_cases h4 : kind = 4
   ·subst h4; simp [h0]
   ·by_cases h5 : kind = 5
    ·subst h5; simp [h0]
    ·have e6 : (kind == (6 : Int)) = false := by simpa using h6
     have e4 : (kind == (4 : Int)) = false := by simpa using h4
     have e5 : (kind == (5 : Int)) = false := by simpa using h5
     simp [h0,h6,h4,h5,e6,e4,e5]
theorem most_ok : ∀ q : LQuery,iV q = some (gm q) := by
 refine LQuery.ind fun q ih=>?_
 refine kw (γ := Unit) (F := fun n _ q=>gu n q) (O := fun r _ q=>gz (fun x=>r () x) q) (fun n=>rfl) () q ?_ (fun x hx=>⟨_,ih x hx⟩) ?_
 ·intro r r' h
  simp only [gz]
  congr 1
  exact eW q.inputs 0 _ fun k x s hk=>by rw [h x (dS hk)]
 ·simp only [gz]
  have e : ∀ x,(eU fun n=>gu n x) = iV x := fun _=>rfl
  simp only [e]
  rw [rMa (xs := q.inputs) (s := (0,0)) (fun k=>em q.kind 0 ((q.inputs.take k).map gm) (0,0)) (by simp [em]) (fun k x hk=>by
    have hx := dS hk
    rw [ih x hx,bPs,mostStep_run (mi ⟨by decide,by decide,by decide,by decide⟩ fun y hy=>by
     obtain ⟨z,_,rfl⟩ := List.mem_map.1 hy
     exact mostQ_r z) (mostQ_r x),List.take_add_one,hk]
    have hk' := (zg.1 hk).1
    simp only [Option.toList_some,List.map_append,List.map_cons,List.map_nil]
    rw [nn]
    congr 3
    simp
    omega)]
  rw [bPs,ew,List.take_length,mostQ_eq]
  by_cases h1 : q.kind = 1
  ·simp [h1,dt]
  ·have : (q.kind == (1 : Int)) = false := by simpa using h1
   simp [h1,this,dt]
end
end Go.Proofs.YteceobbkljmbmaaGreatDoor
