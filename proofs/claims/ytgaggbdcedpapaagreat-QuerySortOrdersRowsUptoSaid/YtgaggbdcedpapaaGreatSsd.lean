/- querySortOrdersRowsUpto_holds, part 4: the layer, the plain functions and what they compute; conditions as in the statement. -/
import Derived.Test.YtgaggbdcedpapaaGreatSsc
set_option maxHeartbeats 4000000
namespace Go.Proofs.YtgaggbdcedpapaaGreat
open Go.IntKind (i64)
noncomputable section
open Go Go.Ab
attribute [local irreducible] V Ao Do Gh Eff PH IntKind.wrap
set_option maxRecDepth 4000
def du (data : Rz) (a : Int) (b : Int) (pivot : Int) (cmp : Rq → Rq → Option (Int)) : Option (Int × Rz) :=
 aj (aF data pivot) fun (x19 : Rq) =>
 aj (aF data a) fun (x23 : Rq) =>
 aj (aF data a) fun (_ : Rq) =>
 bo (data.set a.toNat x19) fun (y1 : Rz) =>
 aj (aF y1 pivot) fun (_ : Rq) =>
 bo (y1.set pivot.toNat x23) fun (y2 : Rz) =>
 aj (whileM (σ := Rz × Int × Int) (ρ := Empty) (fun (s3 : Rz × Int × Int) =>
  aj (whileM (σ := Rz × Int) (ρ := Empty) (fun (s12 : Rz × Int) =>
   cond (decide (s12.2 ≤ s3.2.2))
    (aj (aF s12.1 a) fun (x38 : Rq) =>
    aj (aF s12.1 s12.2) fun (x42 : Rq) =>
    aj (cmp x38 x42) fun x44 =>
    cond (!(decide (x44 < (0 : Int))))
     (some (.next (s12.1,(i64.wrap (s12.2 + (1 : Int))))))
     (some (.brk (s12.1,s12.2))))
    (some (.brk (s12.1,s12.2)))) (s3.1,s3.2.1)) fun fl12=>fl12.thenP fun (s12 : Rz × Int) =>
  aj (whileM (σ := Rz × Int) (ρ := Empty) (fun (s13 : Rz × Int) =>
   cond (decide (s12.2 ≤ s13.2))
    (aj (aF s13.1 a) fun (x57 : Rq) =>
    aj (aF s13.1 s13.2) fun (x61 : Rq) =>
    aj (cmp x57 x61) fun x63 =>
    cond (decide (x63 < (0 : Int)))
     (some (.next (s13.1,(i64.wrap (s13.2 - (1 : Int))))))
     (some (.brk (s13.1,s13.2))))
    (some (.brk (s13.1,s13.2)))) (s12.1,s3.2.2)) fun fl13=>fl13.thenP fun (s13 : Rz × Int) =>
  cond (decide (s12.2 > s13.2))
   (some (.brk (s13.1,s12.2,s13.2)))
   (aj (aF s13.1 s13.2) fun (x77 : Rq) =>
   aj (aF s13.1 s12.2) fun (x81 : Rq) =>
   aj (aF s13.1 s12.2) fun (_ : Rq) =>
   bo (s13.1.set s12.2.toNat x77) fun (y14 : Rz) =>
   aj (aF y14 s13.2) fun (_ : Rq) =>
   bo (y14.set s13.2.toNat x81) fun (y15 : Rz) =>
   some (.next (y15,(i64.wrap (s12.2 + (1 : Int))),(i64.wrap (s13.2 - (1 : Int))))))) (y2,(i64.wrap (a + (1 : Int))),(i64.wrap (b - (1 : Int))))) fun fl3=>fl3.thenP fun (s3 : Rz × Int × Int) =>
 some (s3.2.1,s3.1)
theorem kv (g_data : OwnRef) {g_cmp : FuncId} {caps_cmp : List PV} (data : Rz) (a : Int) (b : Int) (pivot : Int) (cmp : Rq → Rq → Option (Int)) (hg_cmp : ∀ (vs : Array Value) (w : World),(callFunc g_cmp vs).run Tryz.prog w = .ok (.enter g_cmp vs) w) (hp_cmp : ∀ a0 a1 r,cmp a0 a1 = some r → aV Tryz.prog g_cmp ((.list 53 (a0.map ab)) :: (.list 53 (a1.map ab)) :: caps_cmp) (ae r)) (r : Int × Rz) (H : du data a b pivot cmp = some r) :
  PH Tryz.prog 120 [(.own 0 g_data (data.map (al 53 ab)).length),(ae a),(ae b),(ae pivot),(.fn g_cmp caps_cmp)] ⟨fun _=>none,upd (fun _=>none) 0 (some ⟨g_data,51,(data.map (al 53 ab)),true⟩)⟩ (fun u H=>u = (ae r.1) ∧ H = ⟨fun _=>none,upd (fun _=>none) 0 (some ⟨g_data,51,(r.2.map (al 53 ab)),true⟩)⟩) := by
 unfold du at H
 refine PH.aC Tryz.func120 Tryz.ntmps120 ?_
 refine aw 1 tk rfl (ac ?_)
 refine cZ (tag := 0) rfl (fun ho0=>?_)
 refine bl tk mok ⟨false,true,[]⟩ [0,1,2,3,4,5,6,7,8,9,10,11,12,13,14,15] rfl (by decide +kernel) rfl (aJ 6 rfl ?_)
 obtain ⟨x19,k19,H⟩ := aW H
 refine aS tk ⟨k19.1,(bm k19.2)⟩ (bn ho0 k19.2) ?_
 refine bf tk (aH (fun _=>rfl) k19.2) ?_
 refine aJ 2 rfl ?_
 obtain ⟨x23,k23,H⟩ := aW H
 refine aS tk ⟨k23.1,(bm k23.2)⟩ (bn ho0 k23.2) ?_
 refine bf tk (aH (fun _=>rfl) k23.2) ?_
 obtain ⟨x25,k25,H⟩ := aW H
 refine aS tk ⟨k25.1,(bm k25.2)⟩ (bn ho0 k25.2) ?_
 obtain ⟨y1,hy1,H⟩ := bK H
 refine cj tk rfl rfl rfl rfl rfl rfl rfl rfl rfl (by rw [zl]; exact (zg.1 k25.2).1) (PLe.refl _ _) rfl rfl rfl rfl (by decide) (bM (fun _=>rfl) k25.2 rfl hy1) ?_
 obtain ⟨x26,k26,H⟩ := aW H
 refine aS tk ⟨k26.1,(gq (br (f := (al 53 ab)) hy1) k26.2)⟩ (gw ho0 (br (f := (al 53 ab)) hy1) k26.2) ?_
 obtain ⟨y2,hy2,H⟩ := bK H
 refine cj tk rfl rfl rfl rfl rfl rfl rfl rfl rfl (by rw [zl]; exact (zg.1 k26.2).1) (PLe.refl _ _) rfl rfl rfl rfl (by decide) (bM (fun _=>rfl) k26.2 rfl hy2) ?_
 refine be (aw 6 tk rfl (ac ?_))
 obtain ⟨fl3,H3,Hp3⟩ := ax H
 refine aZ (τ := Rz × Int × Int) (γ := Unit) (fun s3 g3=>⟨90,upd (upd (fun _=>.any) 11 (ae s3.2.1)) 0 (.own 0 g_data (s3.1.map (al 53 ab)).length),fun _=>none,upd (fun _=>none) 0 (some ⟨g_data,51,(s3.1.map (al 53 ab)),true⟩)⟩) (fun t=>fl3 = .next t) ?_ (fun s3 g3 hn3=>?_)
 ·refine az ?_
  refine cP (fun s3 g3=>⟨90,upd (upd (upd (upd (upd (fun _=>.any) 12 (ae s3.2.2)) 11 (ae s3.2.1)) 4 (.fn g_cmp caps_cmp)) 1 (ae a)) 0 (.own 0 g_data (s3.1.map (al 53 ab)).length),fun _=>none,upd (fun _=>none) 0 (some ⟨g_data,51,(s3.1.map (al 53 ab)),true⟩)⟩) () H3 (Gh.le (aI (PLe.of2 (np.of_eq (congrArg (PV.own 0 g_data) ((br (f := (al 53 ab)) hy1).trans (br (f := (al 53 ab)) hy2))))) (aa (aa (aa (aa ak))))) ah (aA ai)) (fun m3 s3 g3 hr3=>?_)
  obtain ⟨fb3,H,hg3⟩ := cn hr3
  refine az (ac ?_)
  obtain ⟨fl12,H12,Hp12⟩ := ax H
  refine aZ (τ := Rz × Int) (γ := Unit) (fun s12 g12=>⟨90,upd (upd (upd (upd (upd (fun _=>.any) 12 (ae s3.2.2)) 11 (ae s12.2)) 4 (.fn g_cmp caps_cmp)) 1 (ae a)) 0 (.own 0 g_data (s12.1.map (al 53 ab)).length),fun _=>none,upd (fun _=>none) 0 (some ⟨g_data,51,(s12.1.map (al 53 ab)),true⟩)⟩) (fun t=>fl12 = .next t) ?_ (fun s12 g12 hn12=>?_)
  ·refine az ?_
   refine cP (fun s12 g12=>⟨90,upd (upd (upd (upd (upd (fun _=>.any) 12 (ae s3.2.2)) 11 (ae s12.2)) 4 (.fn g_cmp caps_cmp)) 1 (ae a)) 0 (.own 0 g_data (s12.1.map (al 53 ab)).length),fun _=>none,upd (fun _=>none) 0 (some ⟨g_data,51,(s12.1.map (al 53 ab)),true⟩)⟩) () H12 (Gh.le (aa (aa (aa (aa (aa ak))))) ah (aA ai)) (fun m12 s12 g12 hr12=>?_)
   obtain ⟨fb12,H,hg12⟩ := cn hr12
   refine ac (ac ?_)
   refine cZ (tag := 0) rfl (fun ho0=>?_)
   refine bl tk mok ⟨false,true,[]⟩ [0,1,2,3,4,5,6,7,8,9,10,11,12,13,14,15,16] rfl (by decide +kernel) rfl (aJ 4 rfl ?_)
   refine im H (fun H=>?_) (fun H=>?_)
   ·refine aJ 3 rfl ?_
    obtain ⟨x38,k38,H⟩ := aW H
    refine aS tk ⟨k38.1,(bm k38.2)⟩ (bn ho0 k38.2) ?_
    refine bf tk (aH (fun _=>rfl) k38.2) ?_
    refine aJ 2 rfl ?_
    obtain ⟨x42,k42,H⟩ := aW H
    refine aS tk ⟨k42.1,(bm k42.2)⟩ (bn ho0 k42.2) ?_
    refine bf tk (aH (fun _=>rfl) k42.2) ?_
    obtain ⟨x44,h44,H⟩ := ax H
    refine bg hg_cmp (jc.r) (hp_cmp _ _ _ h44) ?_
    refine aJ 3 rfl (be ?_)
    refine aP rfl H (fun H=>?_) (fun H=>?_)
    ·refine av (az (bh 3 tk rfl (aQ ?_)))
     obtain rfl := ao H
     refine aK (s12.1,(i64.wrap (s12.2 + (1 : Int)))) () hg12 (Gh.le (aa (aa (aa (aa (aa ak))))) ah (aA ai))
    refine aR rfl ?_
    obtain rfl := ao H
    refine aO (s12.1,s12.2) () hg12 (Gh.le (aa (aa (aa (aa (aa ak))))) ah (aA ai))
   refine aJ 13 rfl (be (bH rfl (aR rfl ?_)))
   obtain rfl := ao H
   refine aO (s12.1,s12.2) () hg12 (Gh.le (aa (aa (aa (aa (aa ak))))) ah (aA ai))
  have H := bq hn12 Hp12
  refine ac ?_
  obtain ⟨fl13,H13,Hp13⟩ := ax H
  refine aZ (τ := Rz × Int) (γ := Unit) (fun s13 g13=>⟨90,upd (upd (upd (upd (upd (fun _=>.any) 12 (ae s13.2)) 11 (ae s12.2)) 4 (.fn g_cmp caps_cmp)) 1 (ae a)) 0 (.own 0 g_data (s13.1.map (al 53 ab)).length),fun _=>none,upd (fun _=>none) 0 (some ⟨g_data,51,(s13.1.map (al 53 ab)),true⟩)⟩) (fun t=>fl13 = .next t) ?_ (fun s13 g13 hn13=>?_)
  ·refine az ?_
   refine cP (fun s13 g13=>⟨90,upd (upd (upd (upd (upd (fun _=>.any) 12 (ae s13.2)) 11 (ae s12.2)) 4 (.fn g_cmp caps_cmp)) 1 (ae a)) 0 (.own 0 g_data (s13.1.map (al 53 ab)).length),fun _=>none,upd (fun _=>none) 0 (some ⟨g_data,51,(s13.1.map (al 53 ab)),true⟩)⟩) () H13 (Gh.le (aa (aa (aa (aa (aa ak))))) ah (aA ai)) (fun m13 s13 g13 hr13=>?_)
   obtain ⟨fb13,H,hg13⟩ := cn hr13
   refine ac (ac ?_)
   refine cZ (tag := 0) rfl (fun ho0=>?_)
   refine bl tk mok ⟨false,true,[]⟩ [0,1,2,3,4,5,6,7,8,9,10,11,12,13,14,15] rfl (by decide +kernel) rfl (aJ 4 rfl ?_)
   refine im H (fun H=>?_) (fun H=>?_)
   ·refine aJ 3 rfl ?_
    obtain ⟨x57,k57,H⟩ := aW H
    refine aS tk ⟨k57.1,(bm k57.2)⟩ (bn ho0 k57.2) ?_
    refine bf tk (aH (fun _=>rfl) k57.2) ?_
    refine aJ 2 rfl ?_
    obtain ⟨x61,k61,H⟩ := aW H
    refine aS tk ⟨k61.1,(bm k61.2)⟩ (bn ho0 k61.2) ?_
    refine bf tk (aH (fun _=>rfl) k61.2) ?_
    obtain ⟨x63,h63,H⟩ := ax H
    refine bg hg_cmp (jc.r) (hp_cmp _ _ _ h63) ?_
    refine aJ 2 rfl (be ?_)
    refine aP rfl H (fun H=>?_) (fun H=>?_)
    ·refine av (az (bh 3 tk rfl (aQ ?_)))
     obtain rfl := ao H
     refine aK (s13.1,(i64.wrap (s13.2 - (1 : Int)))) () hg13 (Gh.le (aa (aa (aa (aa (aa ak))))) ah (aA ai))
    refine aR rfl ?_
    obtain rfl := ao H
    refine aO (s13.1,s13.2) () hg13 (Gh.le (aa (aa (aa (aa (aa ak))))) ah (aA ai))
   refine aJ 12 rfl (be (bH rfl (aR rfl ?_)))
   obtain rfl := ao H
   refine aO (s13.1,s13.2) () hg13 (Gh.le (aa (aa (aa (aa (aa ak))))) ah (aA ai))
  have H := bq hn13 Hp13
  refine ac (aw 3 tk rfl ?_)
  refine aP rfl H (fun H=>?_) (fun H=>?_)
  ·refine aR rfl ?_
   obtain rfl := ao H
   refine aO (s13.1,s12.2,s13.2) () hg3 (Gh.le (aa (aa ak)) ah (aA ai))
  refine av (ac ?_)
  refine cZ (tag := 0) rfl (fun ho0=>?_)
  refine bl tk mok ⟨false,true,[]⟩ [0,1,2,3,4,5,6,7,8,9,10,11,12,13,14,15] rfl (by decide +kernel) rfl (aJ 6 rfl ?_)
  obtain ⟨x77,k77,H⟩ := aW H
  refine aS tk ⟨k77.1,(bm k77.2)⟩ (bn ho0 k77.2) ?_
  refine bf tk (aH (fun _=>rfl) k77.2) ?_
  refine aJ 2 rfl ?_
  obtain ⟨x81,k81,H⟩ := aW H
  refine aS tk ⟨k81.1,(bm k81.2)⟩ (bn ho0 k81.2) ?_
  refine bf tk (aH (fun _=>rfl) k81.2) ?_
  obtain ⟨x83,k83,H⟩ := aW H
  refine aS tk ⟨k83.1,(bm k83.2)⟩ (bn ho0 k83.2) ?_
  obtain ⟨y14,hy14,H⟩ := bK H
  refine cj tk rfl rfl rfl rfl rfl rfl rfl rfl rfl (by rw [zl]; exact (zg.1 k83.2).1) (PLe.refl _ _) rfl rfl rfl rfl (by decide) (bM (fun _=>rfl) k83.2 rfl hy14) ?_
  obtain ⟨x84,k84,H⟩ := aW H
  refine aS tk ⟨k84.1,(gq (br (f := (al 53 ab)) hy14) k84.2)⟩ (gw ho0 (br (f := (al 53 ab)) hy14) k84.2) ?_
  obtain ⟨y15,hy15,H⟩ := bK H
  refine cj tk rfl rfl rfl rfl rfl rfl rfl rfl rfl (by rw [zl]; exact (zg.1 k84.2).1) (PLe.refl _ _) rfl rfl rfl rfl (by decide) (bM (fun _=>rfl) k84.2 rfl hy15) ?_
  refine be (aw 3 tk rfl (bh 3 tk rfl (aQ ?_)))
  obtain rfl := ao H
  refine aK (y15,(i64.wrap (s12.2 + (1 : Int))),(i64.wrap (s13.2 - (1 : Int)))) () hg3 (Gh.le (aI (PLe.of2 (np.of_eq (congrArg (PV.own 0 g_data) ((br (f := (al 53 ab)) hy14).trans (br (f := (al 53 ab)) hy15))))) (aa (aa (aa (aa ak))))) ah (aA ai))
 have H := bq hn3 Hp3
 refine aw 2 tk rfl ?_
 obtain rfl := ao H
 refine dN (st' := ⟨90,upd (fun _=>.any) 10 (ae s3.2.1),fun _=>none,upd (fun _=>none) 0 (some ⟨g_data,51,(s3.1.map (al 53 ab)),true⟩)⟩) (Gh.le (aa ak) ah (aA ai)) ?_
 refine eZ tk rfl (ps := [(ae s3.2.1)]) ⟨_,_,rfl,rfl,rfl⟩ (PLe.q rfl) ⟨rfl,rfl⟩
def dX (data : Rz) (a : Int) (b : Int) (pivot : Int) (cmp : Rq → Rq → Option (Int)) : Option (Int × Bool × Rz) :=
 aj (aF data pivot) fun (x20 : Rq) =>
 aj (aF data a) fun (x24 : Rq) =>
 aj (aF data a) fun (_ : Rq) =>
 bo (data.set a.toNat x20) fun (y1 : Rz) =>
 aj (aF y1 pivot) fun (_ : Rq) =>
 bo (y1.set pivot.toNat x24) fun (y2 : Rz) =>
 aj (whileM (σ := Rz × Int) (ρ := Empty) (fun (s3 : Rz × Int) =>
  cond (decide (s3.2 ≤ (i64.wrap (b - (1 : Int)))))
   (aj (aF s3.1 s3.2) fun (x39 : Rq) =>
   aj (aF s3.1 a) fun (x43 : Rq) =>
   aj (cmp x39 x43) fun x45 =>
   cond (decide (x45 < (0 : Int)))
    (some (.next (s3.1,(i64.wrap (s3.2 + (1 : Int))))))
    (some (.brk (s3.1,s3.2))))
   (some (.brk (s3.1,s3.2)))) (y2,(i64.wrap (a + (1 : Int))))) fun fl3=>fl3.thenP fun (s3 : Rz × Int) =>
 aj (whileM (σ := Rz × Int) (ρ := Empty) (fun (s4 : Rz × Int) =>
  cond (decide (s3.2 ≤ s4.2))
   (aj (aF s4.1 s4.2) fun (x57 : Rq) =>
   aj (aF s4.1 a) fun (x61 : Rq) =>
   aj (cmp x57 x61) fun x63 =>
   cond (!(decide (x63 < (0 : Int))))
    (some (.next (s4.1,(i64.wrap (s4.2 - (1 : Int))))))
    (some (.brk (s4.1,s4.2))))
   (some (.brk (s4.1,s4.2)))) (s3.1,(i64.wrap (b - (1 : Int))))) fun fl4=>fl4.thenP fun (s4 : Rz × Int) =>
 cond (decide (s3.2 > s4.2))
  (aj (aF s4.1 a) fun (x78 : Rq) =>
  aj (aF s4.1 s4.2) fun (x82 : Rq) =>
  aj (aF s4.1 s4.2) fun (_ : Rq) =>
  bo (s4.1.set s4.2.toNat x78) fun (y5 : Rz) =>
  aj (aF y5 a) fun (_ : Rq) =>
  bo (y5.set a.toNat x82) fun (y6 : Rz) =>
  some (s4.2,true,y6))
  (aj (aF s4.1 s4.2) fun (x93 : Rq) =>
  aj (aF s4.1 s3.2) fun (x97 : Rq) =>
  aj (aF s4.1 s3.2) fun (_ : Rq) =>
  bo (s4.1.set s3.2.toNat x93) fun (y7 : Rz) =>
  aj (aF y7 s4.2) fun (_ : Rq) =>
  bo (y7.set s4.2.toNat x97) fun (y8 : Rz) =>
  aj (whileM (σ := Rz × Int × Int) (ρ := Empty) (fun (s9 : Rz × Int × Int) =>
   aj (whileM (σ := Rz × Int) (ρ := Empty) (fun (s18 : Rz × Int) =>
    cond (decide (s18.2 ≤ s9.2.2))
     (aj (aF s18.1 s18.2) fun (x112 : Rq) =>
     aj (aF s18.1 a) fun (x116 : Rq) =>
     aj (cmp x112 x116) fun x118 =>
     cond (decide (x118 < (0 : Int)))
      (some (.next (s18.1,(i64.wrap (s18.2 + (1 : Int))))))
      (some (.brk (s18.1,s18.2))))
     (some (.brk (s18.1,s18.2)))) (s9.1,s9.2.1)) fun fl18=>fl18.thenP fun (s18 : Rz × Int) =>
   aj (whileM (σ := Rz × Int) (ρ := Empty) (fun (s19 : Rz × Int) =>
    cond (decide (s18.2 ≤ s19.2))
     (aj (aF s19.1 s19.2) fun (x130 : Rq) =>
     aj (aF s19.1 a) fun (x134 : Rq) =>
     aj (cmp x130 x134) fun x136 =>
     cond (!(decide (x136 < (0 : Int))))
      (some (.next (s19.1,(i64.wrap (s19.2 - (1 : Int))))))
      (some (.brk (s19.1,s19.2))))
     (some (.brk (s19.1,s19.2)))) (s18.1,s9.2.2)) fun fl19=>fl19.thenP fun (s19 : Rz × Int) =>
   cond (decide (s18.2 > s19.2))
    (some (.brk (s19.1,s18.2,s19.2)))
    (aj (aF s19.1 s19.2) fun (x151 : Rq) =>
    aj (aF s19.1 s18.2) fun (x155 : Rq) =>
    aj (aF s19.1 s18.2) fun (_ : Rq) =>
    bo (s19.1.set s18.2.toNat x151) fun (y20 : Rz) =>
    aj (aF y20 s19.2) fun (_ : Rq) =>
    bo (y20.set s19.2.toNat x155) fun (y21 : Rz) =>
    some (.next (y21,(i64.wrap (s18.2 + (1 : Int))),(i64.wrap (s19.2 - (1 : Int))))))) (y8,(i64.wrap (s3.2 + (1 : Int))),(i64.wrap (s4.2 - (1 : Int))))) fun fl9=>fl9.thenP fun (s9 : Rz × Int × Int) =>
  aj (aF s9.1 a) fun (x169 : Rq) =>
  aj (aF s9.1 s9.2.2) fun (x173 : Rq) =>
  aj (aF s9.1 s9.2.2) fun (_ : Rq) =>
  bo (s9.1.set s9.2.2.toNat x169) fun (y22 : Rz) =>
  aj (aF y22 a) fun (_ : Rq) =>
  bo (y22.set a.toNat x173) fun (y23 : Rz) =>
  some (s9.2.2,false,y23))
theorem lh (g_data : OwnRef) {g_cmp : FuncId} {caps_cmp : List PV} (data : Rz) (a : Int) (b : Int) (pivot : Int) (cmp : Rq → Rq → Option (Int)) (hg_cmp : ∀ (vs : Array Value) (w : World),(callFunc g_cmp vs).run Tryz.prog w = .ok (.enter g_cmp vs) w) (hp_cmp : ∀ a0 a1 r,cmp a0 a1 = some r → aV Tryz.prog g_cmp ((.list 53 (a0.map ab)) :: (.list 53 (a1.map ab)) :: caps_cmp) (ae r)) (r : Int × Bool × Rz) (H : dX data a b pivot cmp = some r) :
  PH Tryz.prog 121 [(.own 0 g_data (data.map (al 53 ab)).length),(ae a),(ae b),(ae pivot),(.fn g_cmp caps_cmp)] ⟨fun _=>none,upd (fun _=>none) 0 (some ⟨g_data,51,(data.map (al 53 ab)),true⟩)⟩ (fun u H=>u = (.tup [(ae r.1),(aE r.2.1)]) ∧ H = ⟨fun _=>none,upd (fun _=>none) 0 (some ⟨g_data,51,(r.2.2.map (al 53 ab)),true⟩)⟩) := by
 unfold dX at H
 refine PH.aC Tryz.func121 Tryz.ntmps121 ?_
 refine aw 2 tk rfl (ac ?_)
 refine cZ (tag := 0) rfl (fun ho0=>?_)
 refine bl tk mok ⟨false,true,[]⟩ [0,1,2,3,4,5,6,7,8,9,10,11,12,13,14,15] rfl (by decide +kernel) rfl (aJ 6 rfl ?_)
 obtain ⟨x20,k20,H⟩ := aW H
 refine aS tk ⟨k20.1,(bm k20.2)⟩ (bn ho0 k20.2) ?_
 refine bf tk (aH (fun _=>rfl) k20.2) ?_
 refine aJ 2 rfl ?_
 obtain ⟨x24,k24,H⟩ := aW H
 refine aS tk ⟨k24.1,(bm k24.2)⟩ (bn ho0 k24.2) ?_
 refine bf tk (aH (fun _=>rfl) k24.2) ?_
 obtain ⟨x26,k26,H⟩ := aW H
 refine aS tk ⟨k26.1,(bm k26.2)⟩ (bn ho0 k26.2) ?_
 obtain ⟨y1,hy1,H⟩ := bK H
 refine cj tk rfl rfl rfl rfl rfl rfl rfl rfl rfl (by rw [zl]; exact (zg.1 k26.2).1) (PLe.refl _ _) rfl rfl rfl rfl (by decide) (bM (fun _=>rfl) k26.2 rfl hy1) ?_
 obtain ⟨x27,k27,H⟩ := aW H
 refine aS tk ⟨k27.1,(gq (br (f := (al 53 ab)) hy1) k27.2)⟩ (gw ho0 (br (f := (al 53 ab)) hy1) k27.2) ?_
 obtain ⟨y2,hy2,H⟩ := bK H
 refine cj tk rfl rfl rfl rfl rfl rfl rfl rfl rfl (by rw [zl]; exact (zg.1 k27.2).1) (PLe.refl _ _) rfl rfl rfl rfl (by decide) (bM (fun _=>rfl) k27.2 rfl hy2) ?_
 refine be (aw 6 tk rfl (ac ?_))
 obtain ⟨fl3,H3,Hp3⟩ := ax H
 refine aZ (τ := Rz × Int) (γ := Unit) (fun s3 g3=>⟨178,upd (upd (upd (upd (upd (fun _=>.any) 13 (ae (i64.wrap (b - (1 : Int))))) 12 (ae s3.2)) 4 (.fn g_cmp caps_cmp)) 1 (ae a)) 0 (.own 0 g_data (s3.1.map (al 53 ab)).length),fun _=>none,upd (fun _=>none) 0 (some ⟨g_data,51,(s3.1.map (al 53 ab)),true⟩)⟩) (fun t=>fl3 = .next t) ?_ (fun s3 g3 hn3=>?_)
 ·refine az ?_
  refine cP (fun s3 g3=>⟨178,upd (upd (upd (upd (upd (fun _=>.any) 13 (ae (i64.wrap (b - (1 : Int))))) 12 (ae s3.2)) 4 (.fn g_cmp caps_cmp)) 1 (ae a)) 0 (.own 0 g_data (s3.1.map (al 53 ab)).length),fun _=>none,upd (fun _=>none) 0 (some ⟨g_data,51,(s3.1.map (al 53 ab)),true⟩)⟩) () H3 (Gh.le (aI (PLe.of2 (np.of_eq (congrArg (PV.own 0 g_data) ((br (f := (al 53 ab)) hy1).trans (br (f := (al 53 ab)) hy2))))) (aa (aa (aa (aa ak))))) ah (aA ai)) (fun m3 s3 g3 hr3=>?_)
  obtain ⟨fb3,H,hg3⟩ := cn hr3
  refine ac (ac ?_)
  refine cZ (tag := 0) rfl (fun ho0=>?_)
  refine bl tk mok ⟨false,true,[]⟩ [0,1,2,3,4,5,6,7,8,9,10,11,12,13,14,15] rfl (by decide +kernel) rfl (aJ 4 rfl ?_)
  refine im H (fun H=>?_) (fun H=>?_)
  ·refine aJ 3 rfl ?_
   obtain ⟨x39,k39,H⟩ := aW H
   refine aS tk ⟨k39.1,(bm k39.2)⟩ (bn ho0 k39.2) ?_
   refine bf tk (aH (fun _=>rfl) k39.2) ?_
   refine aJ 2 rfl ?_
   obtain ⟨x43,k43,H⟩ := aW H
   refine aS tk ⟨k43.1,(bm k43.2)⟩ (bn ho0 k43.2) ?_
   refine bf tk (aH (fun _=>rfl) k43.2) ?_
   obtain ⟨x45,h45,H⟩ := ax H
   refine bg hg_cmp (jc.r) (hp_cmp _ _ _ h45) ?_
   refine aJ 2 rfl (be ?_)
   refine aP rfl H (fun H=>?_) (fun H=>?_)
   ·refine av (az (bh 3 tk rfl (aQ ?_)))
    obtain rfl := ao H
    refine aK (s3.1,(i64.wrap (s3.2 + (1 : Int)))) () hg3 (Gh.le (aa (aa (aa (aa (aa ak))))) ah (aA ai))
   refine aR rfl ?_
   obtain rfl := ao H
   refine aO (s3.1,s3.2) () hg3 (Gh.le (aa (aa (aa (aa (aa ak))))) ah (aA ai))
  refine aJ 12 rfl (be (bH rfl (aR rfl ?_)))
  obtain rfl := ao H
  refine aO (s3.1,s3.2) () hg3 (Gh.le (aa (aa (aa (aa (aa ak))))) ah (aA ai))
 have H := bq hn3 Hp3
 refine ac ?_
 obtain ⟨fl4,H4,Hp4⟩ := ax H
 refine aZ (τ := Rz × Int) (γ := Unit) (fun s4 g4=>⟨178,upd (upd (upd (upd (upd (fun _=>.any) 13 (ae s4.2)) 12 (ae s3.2)) 4 (.fn g_cmp caps_cmp)) 1 (ae a)) 0 (.own 0 g_data (s4.1.map (al 53 ab)).length),fun _=>none,upd (fun _=>none) 0 (some ⟨g_data,51,(s4.1.map (al 53 ab)),true⟩)⟩) (fun t=>fl4 = .next t) ?_ (fun s4 g4 hn4=>?_)
 ·refine az ?_
  refine cP (fun s4 g4=>⟨178,upd (upd (upd (upd (upd (fun _=>.any) 13 (ae s4.2)) 12 (ae s3.2)) 4 (.fn g_cmp caps_cmp)) 1 (ae a)) 0 (.own 0 g_data (s4.1.map (al 53 ab)).length),fun _=>none,upd (fun _=>none) 0 (some ⟨g_data,51,(s4.1.map (al 53 ab)),true⟩)⟩) () H4 (Gh.le (aa (aa (aa (aa (aa ak))))) ah (aA ai)) (fun m4 s4 g4 hr4=>?_)
  obtain ⟨fb4,H,hg4⟩ := cn hr4
  refine ac (ac ?_)
  refine cZ (tag := 0) rfl (fun ho0=>?_)
  refine bl tk mok ⟨false,true,[]⟩ [0,1,2,3,4,5,6,7,8,9,10,11,12,13,14,15,16] rfl (by decide +kernel) rfl (aJ 4 rfl ?_)
  refine im H (fun H=>?_) (fun H=>?_)
  ·refine aJ 3 rfl ?_
   obtain ⟨x57,k57,H⟩ := aW H
   refine aS tk ⟨k57.1,(bm k57.2)⟩ (bn ho0 k57.2) ?_
   refine bf tk (aH (fun _=>rfl) k57.2) ?_
   refine aJ 2 rfl ?_
   obtain ⟨x61,k61,H⟩ := aW H
   refine aS tk ⟨k61.1,(bm k61.2)⟩ (bn ho0 k61.2) ?_
   refine bf tk (aH (fun _=>rfl) k61.2) ?_
   obtain ⟨x63,h63,H⟩ := ax H
   refine bg hg_cmp (jc.r) (hp_cmp _ _ _ h63) ?_
   refine aJ 3 rfl (be ?_)
   refine aP rfl H (fun H=>?_) (fun H=>?_)
   ·refine av (az (bh 3 tk rfl (aQ ?_)))
    obtain rfl := ao H
    refine aK (s4.1,(i64.wrap (s4.2 - (1 : Int)))) () hg4 (Gh.le (aa (aa (aa (aa (aa ak))))) ah (aA ai))
   refine aR rfl ?_
   obtain rfl := ao H
   refine aO (s4.1,s4.2) () hg4 (Gh.le (aa (aa (aa (aa (aa ak))))) ah (aA ai))
  refine aJ 13 rfl (be (bH rfl (aR rfl ?_)))
  obtain rfl := ao H
  refine aO (s4.1,s4.2) () hg4 (Gh.le (aa (aa (aa (aa (aa ak))))) ah (aA ai))
 have H := bq hn4 Hp4
 refine ac (aw 3 tk rfl ?_)
 refine aP rfl H (fun H=>?_) (fun H=>?_)
 ·refine ac ?_
  refine cZ (tag := 0) rfl (fun ho0=>?_)
  refine bl tk mok ⟨false,true,[]⟩ [0,1,2,3,4,5,6,7,8,9,10,11,12,13,14,15] rfl (by decide +kernel) rfl (aJ 6 rfl ?_)
  obtain ⟨x78,k78,H⟩ := aW H
  refine aS tk ⟨k78.1,(bm k78.2)⟩ (bn ho0 k78.2) ?_
  refine bf tk (aH (fun _=>rfl) k78.2) ?_
  refine aJ 2 rfl ?_
  obtain ⟨x82,k82,H⟩ := aW H
  refine aS tk ⟨k82.1,(bm k82.2)⟩ (bn ho0 k82.2) ?_
  refine bf tk (aH (fun _=>rfl) k82.2) ?_
  obtain ⟨x84,k84,H⟩ := aW H
  refine aS tk ⟨k84.1,(bm k84.2)⟩ (bn ho0 k84.2) ?_
  obtain ⟨y5,hy5,H⟩ := bK H
  refine cj tk rfl rfl rfl rfl rfl rfl rfl rfl rfl (by rw [zl]; exact (zg.1 k84.2).1) (PLe.refl _ _) rfl rfl rfl rfl (by decide) (bM (fun _=>rfl) k84.2 rfl hy5) ?_
  obtain ⟨x85,k85,H⟩ := aW H
  refine aS tk ⟨k85.1,(gq (br (f := (al 53 ab)) hy5) k85.2)⟩ (gw ho0 (br (f := (al 53 ab)) hy5) k85.2) ?_
  obtain ⟨y6,hy6,H⟩ := bK H
  refine cj tk rfl rfl rfl rfl rfl rfl rfl rfl rfl (by rw [zl]; exact (zg.1 k85.2).1) (PLe.refl _ _) rfl rfl rfl rfl (by decide) (bM (fun _=>rfl) k85.2 rfl hy6) ?_
  refine be (aw 3 tk rfl ?_)
  obtain rfl := ao H
  refine dN (st' := ⟨178,upd (upd (fun _=>.any) 11 (aE true)) 10 (ae s4.2),fun _=>none,upd (fun _=>none) 0 (some ⟨g_data,51,(y6.map (al 53 ab)),true⟩)⟩) (Gh.le (aa (aa ak)) ah (aA ai)) ?_
  refine eZ tk rfl (ps := [(ae s4.2),(aE true)]) ⟨_,_,rfl,rfl,_,_,rfl,rfl,rfl⟩ (PLe.q rfl) ⟨rfl,rfl⟩
 refine av (ac ?_)
 refine cZ (tag := 0) rfl (fun ho0=>?_)
 refine bl tk mok ⟨false,true,[]⟩ [0,1,2,3,4,5,6,7,8,9,10,11,12,13,14,15] rfl (by decide +kernel) rfl (aJ 6 rfl ?_)
 obtain ⟨x93,k93,H⟩ := aW H
 refine aS tk ⟨k93.1,(bm k93.2)⟩ (bn ho0 k93.2) ?_
 refine bf tk (aH (fun _=>rfl) k93.2) ?_
 refine aJ 2 rfl ?_
 obtain ⟨x97,k97,H⟩ := aW H
 refine aS tk ⟨k97.1,(bm k97.2)⟩ (bn ho0 k97.2) ?_
 refine bf tk (aH (fun _=>rfl) k97.2) ?_
 obtain ⟨x99,k99,H⟩ := aW H
 refine aS tk ⟨k99.1,(bm k99.2)⟩ (bn ho0 k99.2) ?_
 obtain ⟨y7,hy7,H⟩ := bK H
 refine cj tk rfl rfl rfl rfl rfl rfl rfl rfl rfl (by rw [zl]; exact (zg.1 k99.2).1) (PLe.refl _ _) rfl rfl rfl rfl (by decide) (bM (fun _=>rfl) k99.2 rfl hy7) ?_
 obtain ⟨x100,k100,H⟩ := aW H
 refine aS tk ⟨k100.1,(gq (br (f := (al 53 ab)) hy7) k100.2)⟩ (gw ho0 (br (f := (al 53 ab)) hy7) k100.2) ?_
 obtain ⟨y8,hy8,H⟩ := bK H
 refine cj tk rfl rfl rfl rfl rfl rfl rfl rfl rfl (by rw [zl]; exact (zg.1 k100.2).1) (PLe.refl _ _) rfl rfl rfl rfl (by decide) (bM (fun _=>rfl) k100.2 rfl hy8) ?_
 refine be (aw 3 tk rfl (aw 3 tk rfl (ac ?_)))
 obtain ⟨fl9,H9,Hp9⟩ := ax H
 refine aZ (τ := Rz × Int × Int) (γ := Unit) (fun s9 g9=>⟨178,upd (upd (upd (fun _=>.any) 13 (ae s9.2.2)) 1 (ae a)) 0 (.own 0 g_data (s9.1.map (al 53 ab)).length),fun _=>none,upd (fun _=>none) 0 (some ⟨g_data,51,(s9.1.map (al 53 ab)),true⟩)⟩) (fun t=>fl9 = .next t) ?_ (fun s9 g9 hn9=>?_)
 ·refine az ?_
  refine cP (fun s9 g9=>⟨178,upd (upd (upd (upd (upd (fun _=>.any) 13 (ae s9.2.2)) 12 (ae s9.2.1)) 4 (.fn g_cmp caps_cmp)) 1 (ae a)) 0 (.own 0 g_data (s9.1.map (al 53 ab)).length),fun _=>none,upd (fun _=>none) 0 (some ⟨g_data,51,(s9.1.map (al 53 ab)),true⟩)⟩) () H9 (Gh.le (aI (PLe.of2 (np.of_eq (congrArg (PV.own 0 g_data) ((br (f := (al 53 ab)) hy7).trans (br (f := (al 53 ab)) hy8))))) (aa (aa (aa (aa ak))))) ah (aA ai)) (fun m9 s9 g9 hr9=>?_)
  obtain ⟨fb9,H,hg9⟩ := cn hr9
  refine az (ac ?_)
  obtain ⟨fl18,H18,Hp18⟩ := ax H
  refine aZ (τ := Rz × Int) (γ := Unit) (fun s18 g18=>⟨178,upd (upd (upd (upd (upd (fun _=>.any) 13 (ae s9.2.2)) 12 (ae s18.2)) 4 (.fn g_cmp caps_cmp)) 1 (ae a)) 0 (.own 0 g_data (s18.1.map (al 53 ab)).length),fun _=>none,upd (fun _=>none) 0 (some ⟨g_data,51,(s18.1.map (al 53 ab)),true⟩)⟩) (fun t=>fl18 = .next t) ?_ (fun s18 g18 hn18=>?_)
  ·refine az ?_
   refine cP (fun s18 g18=>⟨178,upd (upd (upd (upd (upd (fun _=>.any) 13 (ae s9.2.2)) 12 (ae s18.2)) 4 (.fn g_cmp caps_cmp)) 1 (ae a)) 0 (.own 0 g_data (s18.1.map (al 53 ab)).length),fun _=>none,upd (fun _=>none) 0 (some ⟨g_data,51,(s18.1.map (al 53 ab)),true⟩)⟩) () H18 (Gh.le (aa (aa (aa (aa (aa ak))))) ah (aA ai)) (fun m18 s18 g18 hr18=>?_)
   obtain ⟨fb18,H,hg18⟩ := cn hr18
   refine ac (ac ?_)
   refine cZ (tag := 0) rfl (fun ho0=>?_)
   refine bl tk mok ⟨false,true,[]⟩ [0,1,2,3,4,5,6,7,8,9,10,11,12,13,14,15] rfl (by decide +kernel) rfl (aJ 4 rfl ?_)
   refine im H (fun H=>?_) (fun H=>?_)
   ·refine aJ 3 rfl ?_
    obtain ⟨x112,k112,H⟩ := aW H
    refine aS tk ⟨k112.1,(bm k112.2)⟩ (bn ho0 k112.2) ?_
    refine bf tk (aH (fun _=>rfl) k112.2) ?_
    refine aJ 2 rfl ?_
    obtain ⟨x116,k116,H⟩ := aW H
    refine aS tk ⟨k116.1,(bm k116.2)⟩ (bn ho0 k116.2) ?_
    refine bf tk (aH (fun _=>rfl) k116.2) ?_
    obtain ⟨x118,h118,H⟩ := ax H
    refine bg hg_cmp (jc.r) (hp_cmp _ _ _ h118) ?_
    refine aJ 2 rfl (be ?_)
    refine aP rfl H (fun H=>?_) (fun H=>?_)
    ·refine av (az (bh 3 tk rfl (aQ ?_)))
     obtain rfl := ao H
     refine aK (s18.1,(i64.wrap (s18.2 + (1 : Int)))) () hg18 (Gh.le (aa (aa (aa (aa (aa ak))))) ah (aA ai))
    refine aR rfl ?_
    obtain rfl := ao H
    refine aO (s18.1,s18.2) () hg18 (Gh.le (aa (aa (aa (aa (aa ak))))) ah (aA ai))
   refine aJ 12 rfl (be (bH rfl (aR rfl ?_)))
   obtain rfl := ao H
   refine aO (s18.1,s18.2) () hg18 (Gh.le (aa (aa (aa (aa (aa ak))))) ah (aA ai))
  have H := bq hn18 Hp18
  refine ac ?_
  obtain ⟨fl19,H19,Hp19⟩ := ax H
  refine aZ (τ := Rz × Int) (γ := Unit) (fun s19 g19=>⟨178,upd (upd (upd (upd (upd (fun _=>.any) 13 (ae s19.2)) 12 (ae s18.2)) 4 (.fn g_cmp caps_cmp)) 1 (ae a)) 0 (.own 0 g_data (s19.1.map (al 53 ab)).length),fun _=>none,upd (fun _=>none) 0 (some ⟨g_data,51,(s19.1.map (al 53 ab)),true⟩)⟩) (fun t=>fl19 = .next t) ?_ (fun s19 g19 hn19=>?_)
  ·refine az ?_
   refine cP (fun s19 g19=>⟨178,upd (upd (upd (upd (upd (fun _=>.any) 13 (ae s19.2)) 12 (ae s18.2)) 4 (.fn g_cmp caps_cmp)) 1 (ae a)) 0 (.own 0 g_data (s19.1.map (al 53 ab)).length),fun _=>none,upd (fun _=>none) 0 (some ⟨g_data,51,(s19.1.map (al 53 ab)),true⟩)⟩) () H19 (Gh.le (aa (aa (aa (aa (aa ak))))) ah (aA ai)) (fun m19 s19 g19 hr19=>?_)
   obtain ⟨fb19,H,hg19⟩ := cn hr19
   refine ac (ac ?_)
   refine cZ (tag := 0) rfl (fun ho0=>?_)
   refine bl tk mok ⟨false,true,[]⟩ [0,1,2,3,4,5,6,7,8,9,10,11,12,13,14,15,16] rfl (by decide +kernel) rfl (aJ 4 rfl ?_)
   refine im H (fun H=>?_) (fun H=>?_)
   ·refine aJ 3 rfl ?_
    obtain ⟨x130,k130,H⟩ := aW H
    refine aS tk ⟨k130.1,(bm k130.2)⟩ (bn ho0 k130.2) ?_
    refine bf tk (aH (fun _=>rfl) k130.2) ?_
    refine aJ 2 rfl ?_
    obtain ⟨x134,k134,H⟩ := aW H
    refine aS tk ⟨k134.1,(bm k134.2)⟩ (bn ho0 k134.2) ?_
    refine bf tk (aH (fun _=>rfl) k134.2) ?_
    obtain ⟨x136,h136,H⟩ := ax H
    refine bg hg_cmp (jc.r) (hp_cmp _ _ _ h136) ?_
    refine aJ 3 rfl (be ?_)
    refine aP rfl H (fun H=>?_) (fun H=>?_)
    ·refine av (az (bh 3 tk rfl (aQ ?_)))
     obtain rfl := ao H
     refine aK (s19.1,(i64.wrap (s19.2 - (1 : Int)))) () hg19 (Gh.le (aa (aa (aa (aa (aa ak))))) ah (aA ai))
    refine aR rfl ?_
    obtain rfl := ao H
    refine aO (s19.1,s19.2) () hg19 (Gh.le (aa (aa (aa (aa (aa ak))))) ah (aA ai))
   refine aJ 13 rfl (be (bH rfl (aR rfl ?_)))
   obtain rfl := ao H
   refine aO (s19.1,s19.2) () hg19 (Gh.le (aa (aa (aa (aa (aa ak))))) ah (aA ai))
  have H := bq hn19 Hp19
  refine ac (aw 3 tk rfl ?_)
  refine aP rfl H (fun H=>?_) (fun H=>?_)
  ·refine aR rfl ?_
   obtain rfl := ao H
   refine aO (s19.1,s18.2,s19.2) () hg9 (Gh.le (aa (aa (aa ak))) ah (aA ai))
  refine av (ac ?_)
  refine cZ (tag := 0) rfl (fun ho0=>?_)
  refine bl tk mok ⟨false,true,[]⟩ [0,1,2,3,4,5,6,7,8,9,10,11,12,13,14,15] rfl (by decide +kernel) rfl (aJ 6 rfl ?_)
  obtain ⟨x151,k151,H⟩ := aW H
  refine aS tk ⟨k151.1,(bm k151.2)⟩ (bn ho0 k151.2) ?_
  refine bf tk (aH (fun _=>rfl) k151.2) ?_
  refine aJ 2 rfl ?_
  obtain ⟨x155,k155,H⟩ := aW H
  refine aS tk ⟨k155.1,(bm k155.2)⟩ (bn ho0 k155.2) ?_
  refine bf tk (aH (fun _=>rfl) k155.2) ?_
  obtain ⟨x157,k157,H⟩ := aW H
  refine aS tk ⟨k157.1,(bm k157.2)⟩ (bn ho0 k157.2) ?_
  obtain ⟨y20,hy20,H⟩ := bK H
  refine cj tk rfl rfl rfl rfl rfl rfl rfl rfl rfl (by rw [zl]; exact (zg.1 k157.2).1) (PLe.refl _ _) rfl rfl rfl rfl (by decide) (bM (fun _=>rfl) k157.2 rfl hy20) ?_
  obtain ⟨x158,k158,H⟩ := aW H
  refine aS tk ⟨k158.1,(gq (br (f := (al 53 ab)) hy20) k158.2)⟩ (gw ho0 (br (f := (al 53 ab)) hy20) k158.2) ?_
  obtain ⟨y21,hy21,H⟩ := bK H
  refine cj tk rfl rfl rfl rfl rfl rfl rfl rfl rfl (by rw [zl]; exact (zg.1 k158.2).1) (PLe.refl _ _) rfl rfl rfl rfl (by decide) (bM (fun _=>rfl) k158.2 rfl hy21) ?_
  refine be (aw 3 tk rfl (bh 3 tk rfl (aQ ?_)))
  obtain rfl := ao H
  refine aK (y21,(i64.wrap (s18.2 + (1 : Int))),(i64.wrap (s19.2 - (1 : Int)))) () hg9 (Gh.le (aI (PLe.of2 (np.of_eq (congrArg (PV.own 0 g_data) ((br (f := (al 53 ab)) hy20).trans (br (f := (al 53 ab)) hy21))))) (aa (aa (aa (aa ak))))) ah (aA ai))
 have H := bq hn9 Hp9
 refine ac ?_
 refine cZ (tag := 0) rfl (fun ho0=>?_)
 refine bl tk mok ⟨false,true,[]⟩ [0,1,2,3,4,5,6,7,8,9,10,11,12,13,14,15] rfl (by decide +kernel) rfl (aJ 6 rfl ?_)
 obtain ⟨x169,k169,H⟩ := aW H
 refine aS tk ⟨k169.1,(bm k169.2)⟩ (bn ho0 k169.2) ?_
 refine bf tk (aH (fun _=>rfl) k169.2) ?_
 refine aJ 2 rfl ?_
 obtain ⟨x173,k173,H⟩ := aW H
 refine aS tk ⟨k173.1,(bm k173.2)⟩ (bn ho0 k173.2) ?_
 refine bf tk (aH (fun _=>rfl) k173.2) ?_
 obtain ⟨x175,k175,H⟩ := aW H
 refine aS tk ⟨k175.1,(bm k175.2)⟩ (bn ho0 k175.2) ?_
 obtain ⟨y22,hy22,H⟩ := bK H
 refine cj tk rfl rfl rfl rfl rfl rfl rfl rfl rfl (by rw [zl]; exact (zg.1 k175.2).1) (PLe.refl _ _) rfl rfl rfl rfl (by decide) (bM (fun _=>rfl) k175.2 rfl hy22) ?_
 obtain ⟨x176,k176,H⟩ := aW H
 refine aS tk ⟨k176.1,(gq (br (f := (al 53 ab)) hy22) k176.2)⟩ (gw ho0 (br (f := (al 53 ab)) hy22) k176.2) ?_
 obtain ⟨y23,hy23,H⟩ := bK H
 refine cj tk rfl rfl rfl rfl rfl rfl rfl rfl rfl (by rw [zl]; exact (zg.1 k176.2).1) (PLe.refl _ _) rfl rfl rfl rfl (by decide) (bM (fun _=>rfl) k176.2 rfl hy23) ?_
 refine be (aw 3 tk rfl ?_)
 obtain rfl := ao H
 refine dN (st' := ⟨178,upd (upd (fun _=>.any) 11 (aE false)) 10 (ae s9.2.2),fun _=>none,upd (fun _=>none) 0 (some ⟨g_data,51,(y23.map (al 53 ab)),true⟩)⟩) (Gh.le (aa (aa ak)) ah (aA ai)) ?_
 refine eZ tk rfl (ps := [(ae s9.2.2),(aE false)]) ⟨_,_,rfl,rfl,_,_,rfl,rfl,rfl⟩ (PLe.q rfl) ⟨rfl,rfl⟩
def dp (c : LCol) (c0 : List UInt8) : Bool :=
 (c.name == c0)
theorem li (c : LCol) (c0 : List UInt8) :
  aV Tryz.prog 44 [(.agg (aG c)),(.ptr [(.str c0)])] (aE (dp c c0)) := by
 obtain ⟨r,H⟩ : ∃ r,dp c c0 = r := ⟨_,rfl⟩
 rw [H]
 unfold dp at H
 refine PH.aC Tryz.func44 Tryz.ntmps44 ?_
 refine ac (af (aT ?_))
 refine aq tk rfl (ag (aw 5 tk rfl ?_))
 subst H
 refine aB tk rfl (ps := [(aE (c.name == c0))]) ⟨_,_,rfl,rfl,rfl⟩ (PLe.q rfl)
def gm (q : LQuery) : Option (Int) :=
 aj (mc q) fun x7 =>
 some x7.2
theorem mZ (q : LQuery) (r : Int) (H : gm q = some r) :
  aV Tryz.prog 89 [(.agg (bD q))] (ae r) := by
 unfold gm at H
 refine PH.aC Tryz.func89 Tryz.ntmps89 ?_
 refine ac (af (aT ?_))
 refine aq tk rfl (ag (ac (af (aq tk rfl ?_))))
 obtain ⟨x7,h7,H⟩ := ax H
 have s7 := W_query_most q _ h7
 refine au Tryz.call109 (jc.r) s7 ?_
 refine am 5 tk rfl (ag (aw 2 tk rfl ?_))
 obtain rfl := ao H
 refine aB tk rfl (ps := [(ae x7.2)]) ⟨_,_,rfl,rfl,rfl⟩ (PLe.q rfl)
def fE (q : LQuery) : Option ((List Int) × Int) :=
 aj (jn q) fun x18 =>
 aj (ba (σ := List Int × Bool × List Bool) (ρ := Empty) (fun (_ : Nat) (x1 : LQuery) (s1 : List Int × Bool × List Bool) =>
  aj (ba (σ := List Int × Bool × List Bool) (ρ := Empty) (fun (_ : Nat) (x12 : LExpr) (s12 : List Int × Bool × List Bool) =>
   aj (fV x12 s12.1 s12.2.1 s12.2.2) fun x33 =>
   some (.next (x33.1,x33.2.1,x33.2.2))) 0 x1.exprs (s1.1,s1.2.1,s1.2.2)) fun fl12=>fl12.thenP fun (s12 : List Int × Bool × List Bool) =>
  aj (ba (σ := List Int × Bool × List Bool) (ρ := Empty) (fun (_ : Nat) (x13 : LAggregateCall) (s13 : List Int × Bool × List Bool) =>
   aj (ba (σ := List Int × Bool × List Bool) (ρ := Empty) (fun (_ : Nat) (x16 : LExpr) (s16 : List Int × Bool × List Bool) =>
    aj (fV x16 s16.1 s16.2.1 s16.2.2) fun x51 =>
    some (.next (x51.1,x51.2.1,x51.2.2))) 0 x13.args (s13.1,s13.2.1,s13.2.2)) fun fl16=>fl16.thenP fun (s16 : List Int × Bool × List Bool) =>
   some (.next (s16.1,s16.2.1,s16.2.2))) 0 x1.aggregates (s12.1,s12.2.1,s12.2.2)) fun fl13=>fl13.thenP fun (s13 : List Int × Bool × List Bool) =>
  some (.next (s13.1,s13.2.1,s13.2.2))) 0 x18 ([],false,(List.replicate 8 false))) fun fl1=>fl1.thenP fun (s1 : List Int × Bool × List Bool) =>
 cond s1.2.1
  (some ([],13))
  (some (s1.1,0))
theorem lf (q : LQuery) (r : (List Int) × Int) (H : fE q = some r) :
  aV Tryz.prog 87 [(.agg (bD q))] (.tup [(.list 3 (r.1.map bJ)),(ae r.2)]) := by
 unfold fE at H
 refine PH.aC Tryz.func87 Tryz.ntmps87 ?_
 refine ac (af (aT ?_))
 refine am 2 tk rfl (ag (ac (af ?_)))
 refine bv tk fun b4=>?_
 refine ag (ac (af ?_))
 refine bv tk fun b5=>?_
 refine ag (ac (af ?_))
 refine bv tk fun b6=>?_
 refine aD tk ?_
 refine ag (ac (af ?_))
 refine bv tk fun b7=>?_
 refine ag (ac (af (aq tk rfl (aD tk ?_))))
 refine ag (ac (ac (af (aq tk rfl ?_))))
 obtain ⟨x18,h18,H⟩ := ax H
 have s18 := qm (m := 18) q _ h18
 refine au Tryz.call76 (jc.r) (PFun.jI s18) ?_
 refine aN tk (zl _) ?_
 refine aq tk rfl (ag ?_)
 obtain ⟨fl1,H1,Hp1⟩ := ax H
 refine bU tk 18 rfl rfl (fun hz1 _=>?_)
 rw [zl] at hz1
 refine aZ (τ := List Int × Bool × List Bool) (γ := OwnRef) (fun s1 g1=>⟨57,upd (upd (fun _=>.any) 6 (.box 6 b6 0)) 4 (.box 4 b4 0),upd (upd (fun _=>none) 6 (some ⟨b6,[(aE s1.2.1)]⟩)) 4 (some ⟨b4,[(.own 1204 g1 (s1.1.map bJ).length)]⟩),upd (fun _=>none) 1204 (some ⟨g1,3,(s1.1.map bJ),true⟩)⟩) (fun t=>fl1 = .next t) ?_ (fun s1 g1 hn1=>?_)
 ·refine az (qU tk 4 0 1204 (e := 3) rfl rfl rfl rfl ?_)
  refine bF (fun j1 s1 g1=>⟨57,upd (upd (upd (upd (upd (upd (fun _=>.any) 20 (ae (j1 : Int))) 19 (ae (x18.length : Int))) 18 (.list 35 (x18.map aX))) 7 (.box 7 b7 0)) 6 (.box 6 b6 0)) 4 (.box 4 b4 0),upd (upd (upd (upd (fun _=>none) 7 (some ⟨b7,[(.fn 108 [(.box 4 b4 0),(.box 6 b6 0),(.box 5 b5 0),(.box 7 b7 0)])]⟩)) 6 (some ⟨b6,[(aE s1.2.1)]⟩)) 5 (some ⟨b5,(List.map aE s1.2.2)⟩)) 4 (some ⟨b4,[(.own 1204 g1 (s1.1.map bJ).length)]⟩),upd (fun _=>none) 1204 (some ⟨g1,3,(s1.1.map bJ),true⟩)⟩) (⟨none,0⟩) H1 (Gh.le (aa (aa (aa (aa (aa (aa ak)))))) (ay rfl (jc.r) (ay rfl (jc.r) (ay rfl (jc.r) (ay rfl (jc.r) ah)))) (aA ai)) (fun j1 s1 g1 hj1 hr1=>?_)
  refine aw 1 tk rfl (ac ?_)
  refine aY rfl (fun h=>?_) (fun h=>?_)
  ·have hl1 := cp h
   obtain ⟨x1,fb1,hx1,H,hg1⟩ := rMc hl1 hr1
   refine av (ac (az (ac (af (bt tk (zn j1) (bQ cK hx1) ?_)))))
   refine aq tk rfl ?_
   refine bv tk fun b9=>?_
   refine aD tk ?_
   refine ag (ac (ac (af (aq tk rfl (aM tk ?_)))))
   refine aN tk (zl _) ?_
   refine aq tk rfl (ag ?_)
   obtain ⟨fl12,H12,Hp12⟩ := ax H
   refine bU tk 25 rfl rfl (fun hz12 _=>?_)
   rw [zl] at hz12
   refine aZ (τ := List Int × Bool × List Bool) (γ := OwnRef) (fun s12 g12=>⟨57,upd (upd (upd (upd (upd (upd (upd (fun _=>.any) 20 (ae (j1 : Int))) 19 (ae (x18.length : Int))) 18 (.list 35 (x18.map aX))) 9 (.box 9 b9 0)) 7 (.box 7 b7 0)) 6 (.box 6 b6 0)) 4 (.box 4 b4 0),upd (upd (upd (upd (upd (fun _=>none) 9 (some ⟨b9,[(ae x1.kind),(.str x1.table),(.list 9 (x1.names.map co)),(.list 56 (x1.exprs.map bc)),(.list 66 (x1.aggregates.map cl)),(.list 4 (x1.descending.map cB)),(ae x1.count),(ae x1.offset),(.list 35 (x1.inputs.map aX))]⟩)) 7 (some ⟨b7,[(.fn 108 [(.box 4 b4 0),(.box 6 b6 0),(.box 5 b5 0),(.box 7 b7 0)])]⟩)) 6 (some ⟨b6,[(aE s12.2.1)]⟩)) 5 (some ⟨b5,(List.map aE s12.2.2)⟩)) 4 (some ⟨b4,[(.own 1204 g12 (s12.1.map bJ).length)]⟩),upd (fun _=>none) 1204 (some ⟨g12,3,(s12.1.map bJ),true⟩)⟩) (fun t=>fl12 = .next t) ?_ (fun s12 g12 hn12=>?_)
   ·refine az ?_
    refine bF (fun j12 s12 g12=>⟨57,upd (upd (upd (upd (upd (upd (upd (upd (upd (upd (fun _=>.any) 27 (ae (j12 : Int))) 26 (ae (x1.exprs.length : Int))) 25 (.list 56 (x1.exprs.map bc))) 20 (ae (j1 : Int))) 19 (ae (x18.length : Int))) 18 (.list 35 (x18.map aX))) 9 (.box 9 b9 0)) 7 (.box 7 b7 0)) 6 (.box 6 b6 0)) 4 (.box 4 b4 0),upd (upd (upd (upd (upd (fun _=>none) 9 (some ⟨b9,[(ae x1.kind),(.str x1.table),(.list 9 (x1.names.map co)),(.list 56 (x1.exprs.map bc)),(.list 66 (x1.aggregates.map cl)),(.list 4 (x1.descending.map cB)),(ae x1.count),(ae x1.offset),(.list 35 (x1.inputs.map aX))]⟩)) 7 (some ⟨b7,[(.fn 108 [(.box 4 b4 0),(.box 6 b6 0),(.box 5 b5 0),(.box 7 b7 0)])]⟩)) 6 (some ⟨b6,[(aE s12.2.1)]⟩)) 5 (some ⟨b5,(List.map aE s12.2.2)⟩)) 4 (some ⟨b4,[(.own 1204 g12 (s12.1.map bJ).length)]⟩),upd (fun _=>none) 1204 (some ⟨g12,3,(s12.1.map bJ),true⟩)⟩) g1 H12 (Gh.le (aa (aa (aa (aa (aa (aa (aa (aa (aa (aa ak)))))))))) (ay rfl (jc.r) (ay rfl (jc.r) (ay rfl (jc.r) (ay rfl (jc.r) (ay rfl (jc.r) ah))))) (aA ai)) (fun j12 s12 g12 hj12 hr12=>?_)
    refine aw 1 tk rfl (ac ?_)
    refine aY rfl (fun h=>?_) (fun h=>?_)
    ·have hl12 := cp h
     obtain ⟨x12,fb12,hx12,H,hg12⟩ := rMc hl12 hr12
     refine av (ac (az (ac (af (bt tk (zn j12) (bQ eF hx12) ?_)))))
     refine aq tk rfl ?_
     refine bv tk fun b11=>?_
     refine aD tk ?_
     refine ag (af (aM tk ?_))
     refine aM tk ?_
     obtain ⟨x33,h33,H⟩ := ax H
     have s33 := kH b4 g12 b6 b5 b7 x12 s12.1 s12.2.1 s12.2.2 _ h33
     refine cA (st' := ⟨_,_,upd (upd (upd (upd (upd (upd (fun _=>none) 11 (some ⟨b11,[(ae x12.kind),(.str x12.name),(ae x12.index),(ae x12.value.kind),(ae x12.value.int),(.str x12.value.text),(.list 56 (x12.args.map bc))]⟩)) 9 (some ⟨b9,[(ae x1.kind),(.str x1.table),(.list 9 (x1.names.map co)),(.list 56 (x1.exprs.map bc)),(.list 66 (x1.aggregates.map cl)),(.list 4 (x1.descending.map cB)),(ae x1.count),(ae x1.offset),(.list 35 (x1.inputs.map aX))]⟩)) 7 (some ⟨b7,[(.fn 108 [(.box 1000 b4 0),(.box 1001 b6 0),(.box 1002 b5 0),(.box 1003 b7 0)])]⟩)) 6 (some ⟨b6,[(aE s12.2.1)]⟩)) 5 (some ⟨b5,(List.map aE s12.2.2)⟩)) 4 (some ⟨b4,[(.own 1100 g12 (s12.1.map bJ).length)]⟩),upd (fun _=>none) 1204 (some ⟨g12,3,(s12.1.map bJ),true⟩)⟩) (Gh.le (bO _ _) (ay rfl (jc.of2 (iw.cons (np.own rfl) iw.nil)) (ay rfl (jc.r) (ay rfl (jc.r) (ay rfl (jc.of2 (iw.cons (np.fn (iw.cons np.boxT (iw.cons np.boxT (iw.cons np.boxT (iw.cons np.boxT iw.nil))))) iw.nil)) (ay rfl (jc.r) (ay rfl (jc.r) ah)))))) (aA ai)) ?_
     refine cf (g := 108) rfl rfl rfl Tryz.call108 [(4,1000),(6,1001),(5,1002),(7,1003)] [(1204,1100)] rfl rfl rfl rfl (jc.of2 (iw.cons (np.of_eq rfl) (iw.cons np.boxT (iw.cons np.boxT (iw.cons np.boxT (iw.cons np.boxT iw.nil)))))) (by rw [dE,dE,dE,dE,bR,bL,bS]; rfl) s33 ?_
     rintro u33 H33h ⟨gz33_0,rfl,rfl⟩
     refine ⟨_,rfl,?_⟩
     refine cA (st' := ⟨_,_,upd (upd (upd (upd (upd (upd (fun _=>none) 11 (some ⟨b11,[(ae x12.kind),(.str x12.name),(ae x12.index),(ae x12.value.kind),(ae x12.value.int),(.str x12.value.text),(.list 56 (x12.args.map bc))]⟩)) 9 (some ⟨b9,[(ae x1.kind),(.str x1.table),(.list 9 (x1.names.map co)),(.list 56 (x1.exprs.map bc)),(.list 66 (x1.aggregates.map cl)),(.list 4 (x1.descending.map cB)),(ae x1.count),(ae x1.offset),(.list 35 (x1.inputs.map aX))]⟩)) 7 (some ⟨b7,[(.fn 108 [(.box 4 b4 0),(.box 6 b6 0),(.box 5 b5 0),(.box 7 b7 0)])]⟩)) 6 (some ⟨b6,[(aE x33.2.1)]⟩)) 5 (some ⟨b5,(List.map aE x33.2.2)⟩)) 4 (some ⟨b4,[(.own 1204 gz33_0 (x33.1.map bJ).length)]⟩),upd (fun _=>none) 1204 (some ⟨gz33_0,3,(x33.1.map bJ),true⟩)⟩) (Gh.le (bO _ _) (ay rfl (jc.of2 (iw.cons (np.own rfl) iw.nil)) (ay rfl (jc.r) (ay rfl (jc.r) (ay rfl (jc.of2 (iw.cons (np.fn (iw.cons np.boxT (iw.cons np.boxT (iw.cons np.boxT (iw.cons np.boxT iw.nil))))) iw.nil)) (ay rfl (jc.r) (ay rfl (jc.r) ah)))))) (aA ai)) ?_
     refine ag (aQ (bh 2 tk rfl ?_))
     obtain rfl := ao H
     refine aK (x33.1,x33.2.1,x33.2.2) gz33_0 ⟨hl12,hg12⟩ (Gh.le (aa (aa (aa (aa (aa (aa (aa (aa (aa (aI (PLe.q (aU (by omega))) ak)))))))))) (ay rfl (jc.r) (ay rfl (jc.r) (ay rfl (jc.r) (ay rfl (jc.r) (ay rfl (jc.r) ah))))) (aA ai))
    have hn12 := rMd (cq h) hr12
    refine aR rfl ?_
    refine aO s12 g12 hn12 (Gh.le (aa (aa (aa (aa (aa (aa (aa ak))))))) (ay rfl (jc.r) (ay rfl (jc.r) (ay rfl (jc.r) (ay rfl (jc.r) (ay rfl (jc.r) ah))))) (aA ai))
   have H := bq hn12 Hp12
   refine ac (af (aq tk rfl (aM tk ?_)))
   refine aN tk (zl _) ?_
   refine aq tk rfl (ag ?_)
   obtain ⟨fl13,H13,Hp13⟩ := ax H
   refine bU tk 36 rfl rfl (fun hz13 _=>?_)
   rw [zl] at hz13
   refine aZ (τ := List Int × Bool × List Bool) (γ := OwnRef) (fun s13 g13=>⟨57,upd (upd (upd (upd (upd (upd (fun _=>.any) 20 (ae (j1 : Int))) 19 (ae (x18.length : Int))) 18 (.list 35 (x18.map aX))) 7 (.box 7 b7 0)) 6 (.box 6 b6 0)) 4 (.box 4 b4 0),upd (upd (upd (upd (fun _=>none) 7 (some ⟨b7,[(.fn 108 [(.box 4 b4 0),(.box 6 b6 0),(.box 5 b5 0),(.box 7 b7 0)])]⟩)) 6 (some ⟨b6,[(aE s13.2.1)]⟩)) 5 (some ⟨b5,(List.map aE s13.2.2)⟩)) 4 (some ⟨b4,[(.own 1204 g13 (s13.1.map bJ).length)]⟩),upd (fun _=>none) 1204 (some ⟨g13,3,(s13.1.map bJ),true⟩)⟩) (fun t=>fl13 = .next t) ?_ (fun s13 g13 hn13=>?_)
   ·refine az ?_
    refine bF (fun j13 s13 g13=>⟨57,upd (upd (upd (upd (upd (upd (upd (upd (upd (fun _=>.any) 38 (ae (j13 : Int))) 37 (ae (x1.aggregates.length : Int))) 36 (.list 66 (x1.aggregates.map cl))) 20 (ae (j1 : Int))) 19 (ae (x18.length : Int))) 18 (.list 35 (x18.map aX))) 7 (.box 7 b7 0)) 6 (.box 6 b6 0)) 4 (.box 4 b4 0),upd (upd (upd (upd (fun _=>none) 7 (some ⟨b7,[(.fn 108 [(.box 4 b4 0),(.box 6 b6 0),(.box 5 b5 0),(.box 7 b7 0)])]⟩)) 6 (some ⟨b6,[(aE s13.2.1)]⟩)) 5 (some ⟨b5,(List.map aE s13.2.2)⟩)) 4 (some ⟨b4,[(.own 1204 g13 (s13.1.map bJ).length)]⟩),upd (fun _=>none) 1204 (some ⟨g13,3,(s13.1.map bJ),true⟩)⟩) g12 H13 (Gh.le (aa (aa (aa (aa (aa (aa (aa (aa (aa ak))))))))) (ay rfl (jc.r) (ay rfl (jc.r) (ay rfl (jc.r) (ay rfl (jc.r) ah)))) (aA ai)) (fun j13 s13 g13 hj13 hr13=>?_)
    refine aw 1 tk rfl (ac ?_)
    refine aY rfl (fun h=>?_) (fun h=>?_)
    ·have hl13 := cp h
     obtain ⟨x13,fb13,hx13,H,hg13⟩ := rMc hl13 hr13
     refine av (ac (az (ac (af ?_))))
     refine bt tk (zn j13) (bQ (fun _=>rfl) hx13) ?_
     refine aq tk rfl ?_
     refine bv tk fun b13=>?_
     refine aD tk ?_
     refine ag (ac (af (aq tk rfl (aM tk ?_))))
     refine aN tk (zl _) ?_
     refine aq tk rfl (ag ?_)
     obtain ⟨fl16,H16,Hp16⟩ := ax H
     refine bU tk 43 rfl rfl (fun hz16 _=>?_)
     rw [zl] at hz16
     refine aZ (τ := List Int × Bool × List Bool) (γ := OwnRef) (fun s16 g16=>⟨57,upd (upd (upd (upd (upd (upd (upd (upd (upd (fun _=>.any) 38 (ae (j13 : Int))) 37 (ae (x1.aggregates.length : Int))) 36 (.list 66 (x1.aggregates.map cl))) 20 (ae (j1 : Int))) 19 (ae (x18.length : Int))) 18 (.list 35 (x18.map aX))) 7 (.box 7 b7 0)) 6 (.box 6 b6 0)) 4 (.box 4 b4 0),upd (upd (upd (upd (fun _=>none) 7 (some ⟨b7,[(.fn 108 [(.box 4 b4 0),(.box 6 b6 0),(.box 5 b5 0),(.box 7 b7 0)])]⟩)) 6 (some ⟨b6,[(aE s16.2.1)]⟩)) 5 (some ⟨b5,(List.map aE s16.2.2)⟩)) 4 (some ⟨b4,[(.own 1204 g16 (s16.1.map bJ).length)]⟩),upd (fun _=>none) 1204 (some ⟨g16,3,(s16.1.map bJ),true⟩)⟩) (fun t=>fl16 = .next t) ?_ (fun s16 g16 hn16=>?_)
     ·refine az ?_
      refine bF (fun j16 s16 g16=>⟨57,upd (upd (upd (upd (upd (upd (upd (upd (upd (upd (upd (upd (fun _=>.any) 45 (ae (j16 : Int))) 44 (ae (x13.args.length : Int))) 43 (.list 56 (x13.args.map bc))) 38 (ae (j13 : Int))) 37 (ae (x1.aggregates.length : Int))) 36 (.list 66 (x1.aggregates.map cl))) 20 (ae (j1 : Int))) 19 (ae (x18.length : Int))) 18 (.list 35 (x18.map aX))) 7 (.box 7 b7 0)) 6 (.box 6 b6 0)) 4 (.box 4 b4 0),upd (upd (upd (upd (fun _=>none) 7 (some ⟨b7,[(.fn 108 [(.box 4 b4 0),(.box 6 b6 0),(.box 5 b5 0),(.box 7 b7 0)])]⟩)) 6 (some ⟨b6,[(aE s16.2.1)]⟩)) 5 (some ⟨b5,(List.map aE s16.2.2)⟩)) 4 (some ⟨b4,[(.own 1204 g16 (s16.1.map bJ).length)]⟩),upd (fun _=>none) 1204 (some ⟨g16,3,(s16.1.map bJ),true⟩)⟩) g13 H16 (Gh.le (aa (aa (aa (aa (aa (aa (aa (aa (aa (aa (aa (aa ak)))))))))))) (ay rfl (jc.r) (ay rfl (jc.r) (ay rfl (jc.r) (ay rfl (jc.r) ah)))) (aA ai)) (fun j16 s16 g16 hj16 hr16=>?_)
      refine aw 1 tk rfl (ac ?_)
      refine aY rfl (fun h=>?_) (fun h=>?_)
      ·have hl16 := cp h
       obtain ⟨x16,fb16,hx16,H,hg16⟩ := rMc hl16 hr16
       refine av (ac (az (ac (af (bt tk (zn j16) (bQ eF hx16) ?_)))))
       refine aq tk rfl ?_
       refine bv tk fun b15=>?_
       refine aD tk ?_
       refine ag (af (aM tk ?_))
       refine aM tk ?_
       obtain ⟨x51,h51,H⟩ := ax H
       have s51 := kH b4 g16 b6 b5 b7 x16 s16.1 s16.2.1 s16.2.2 _ h51
       refine cA (st' := ⟨_,_,upd (upd (upd (upd (upd (fun _=>none) 15 (some ⟨b15,[(ae x16.kind),(.str x16.name),(ae x16.index),(ae x16.value.kind),(ae x16.value.int),(.str x16.value.text),(.list 56 (x16.args.map bc))]⟩)) 7 (some ⟨b7,[(.fn 108 [(.box 1000 b4 0),(.box 1001 b6 0),(.box 1002 b5 0),(.box 1003 b7 0)])]⟩)) 6 (some ⟨b6,[(aE s16.2.1)]⟩)) 5 (some ⟨b5,(List.map aE s16.2.2)⟩)) 4 (some ⟨b4,[(.own 1100 g16 (s16.1.map bJ).length)]⟩),upd (fun _=>none) 1204 (some ⟨g16,3,(s16.1.map bJ),true⟩)⟩) (Gh.le (bO _ _) (ay rfl (jc.of2 (iw.cons (np.own rfl) iw.nil)) (ay rfl (jc.r) (ay rfl (jc.r) (ay rfl (jc.of2 (iw.cons (np.fn (iw.cons np.boxT (iw.cons np.boxT (iw.cons np.boxT (iw.cons np.boxT iw.nil))))) iw.nil)) (ay rfl (jc.r) ah))))) (aA ai)) ?_
       refine cf (g := 108) rfl rfl rfl Tryz.call108 [(4,1000),(6,1001),(5,1002),(7,1003)] [(1204,1100)] rfl rfl rfl rfl (jc.of2 (iw.cons (np.of_eq rfl) (iw.cons np.boxT (iw.cons np.boxT (iw.cons np.boxT (iw.cons np.boxT iw.nil)))))) (by rw [dE,dE,dE,dE,bR,bL,bS]; rfl) s51 ?_
       rintro u51 H51h ⟨gz51_0,rfl,rfl⟩
       refine ⟨_,rfl,?_⟩
       refine cA (st' := ⟨_,_,upd (upd (upd (upd (upd (fun _=>none) 15 (some ⟨b15,[(ae x16.kind),(.str x16.name),(ae x16.index),(ae x16.value.kind),(ae x16.value.int),(.str x16.value.text),(.list 56 (x16.args.map bc))]⟩)) 7 (some ⟨b7,[(.fn 108 [(.box 4 b4 0),(.box 6 b6 0),(.box 5 b5 0),(.box 7 b7 0)])]⟩)) 6 (some ⟨b6,[(aE x51.2.1)]⟩)) 5 (some ⟨b5,(List.map aE x51.2.2)⟩)) 4 (some ⟨b4,[(.own 1204 gz51_0 (x51.1.map bJ).length)]⟩),upd (fun _=>none) 1204 (some ⟨gz51_0,3,(x51.1.map bJ),true⟩)⟩) (Gh.le (bO _ _) (ay rfl (jc.of2 (iw.cons (np.own rfl) iw.nil)) (ay rfl (jc.r) (ay rfl (jc.r) (ay rfl (jc.of2 (iw.cons (np.fn (iw.cons np.boxT (iw.cons np.boxT (iw.cons np.boxT (iw.cons np.boxT iw.nil))))) iw.nil)) (ay rfl (jc.r) ah))))) (aA ai)) ?_
       refine ag (aQ (bh 2 tk rfl ?_))
       obtain rfl := ao H
       refine aK (x51.1,x51.2.1,x51.2.2) gz51_0 ⟨hl16,hg16⟩ (Gh.le (aa (aa (aa (aa (aa (aa (aa (aa (aa (aa (aa (aI (PLe.q (aU (by omega))) ak)))))))))))) (ay rfl (jc.r) (ay rfl (jc.r) (ay rfl (jc.r) (ay rfl (jc.r) ah)))) (aA ai))
      have hn16 := rMd (cq h) hr16
      refine aR rfl ?_
      refine aO s16 g16 hn16 (Gh.le (aa (aa (aa (aa (aa (aa (aa (aa (aa ak))))))))) (ay rfl (jc.r) (ay rfl (jc.r) (ay rfl (jc.r) (ay rfl (jc.r) ah)))) (aA ai))
     have H := bq hn16 Hp16
     refine aQ (bh 2 tk rfl ?_)
     obtain rfl := ao H
     refine aK (s16.1,s16.2.1,s16.2.2) g16 ⟨hl13,hg13⟩ (Gh.le (aa (aa (aa (aa (aa (aa (aa (aa (aI (PLe.q (aU (by omega))) ak))))))))) (ay rfl (jc.r) (ay rfl (jc.r) (ay rfl (jc.r) (ay rfl (jc.r) ah)))) (aA ai))
    have hn13 := rMd (cq h) hr13
    refine aR rfl ?_
    refine aO s13 g13 hn13 (Gh.le (aa (aa (aa (aa (aa (aa ak)))))) (ay rfl (jc.r) (ay rfl (jc.r) (ay rfl (jc.r) (ay rfl (jc.r) ah)))) (aA ai))
   have H := bq hn13 Hp13
   refine aQ (bh 2 tk rfl ?_)
   obtain rfl := ao H
   refine aK (s13.1,s13.2.1,s13.2.2) g13 ⟨hl1,hg1⟩ (Gh.le (aa (aa (aa (aa (aa (aI (PLe.q (aU (by omega))) ak)))))) (ay rfl (jc.r) (ay rfl (jc.r) (ay rfl (jc.r) (ay rfl (jc.r) ah)))) (aA ai))
  have hn1 := rMd (cq h) hr1
  refine aR rfl ?_
  refine aO s1 g1 hn1 (Gh.le (aa (aa ak)) (ay rfl (jc.r) (ay rfl (jc.r) ah)) (aA ai))
 have H := bq hn1 Hp1
 refine ac (ac (af (aM tk ?_)))
 refine ag ?_
 refine aP rfl H (fun H=>?_) (fun H=>?_)
 ·refine aw 2 tk rfl ?_
  obtain rfl := ao H
  refine aB tk rfl (ps := [(.val (.slice none 0 0)),(ae 13)]) ⟨_,_,rfl,rfl,_,_,rfl,rfl,rfl⟩ (PLe.of2 (np.tup (iw.cons (np.nil tk rfl) (iw.cons (np.of_eq rfl) iw.nil))))
 refine av (ac (af (aM tk ?_)))
 refine am 2 tk rfl (ag ?_)
 obtain rfl := ao H
 refine el 2 rfl rfl rfl ?_
 refine aB tk rfl (ps := [(.list 3 (s1.1.map bJ)),(ae 0)]) ⟨_,_,rfl,rfl,_,_,rfl,rfl,rfl⟩ (PLe.q rfl)
def fv (sA : List Int) (v : Int) : Option (Bool) :=
 aj (gX sA v) fun x7 =>
 some (decide (x7 ≥ (0 : Int)))
theorem nr (sA : List Int) (v : Int) (r : Bool) (H : fv sA v = some r) :
  aV Tryz.prog 152 [(.list 3 (sA.map bJ)),(ae v)] (aE r) := by
 unfold fv at H
 refine PH.aC Tryz.func152 Tryz.ntmps152 ?_
 refine aw 1 tk rfl (ac (af (am 2 tk rfl ?_)))
 obtain ⟨x7,h7,H⟩ := ax H
 have s7 := oE sA v _ h7
 refine au Tryz.call179 (jc.r) s7 ?_
 refine am 2 tk rfl (ag ?_)
 obtain rfl := ao H
 refine aB tk rfl (ps := [(aE (decide (x7 ≥ (0 : Int))))]) ⟨_,_,rfl,rfl,rfl⟩ (PLe.q rfl)
def iq (kind : Int) (a : List LCol) (b : List LCol) : Option ((List LCol) × Int) :=
 cond ((a.length : Int) != (b.length : Int))
  (some ([],7))
  (aj (ba (σ := List LCol) (ρ := ((List LCol) × Int)) (fun (j1 : Nat) (x1 : LCol) (s1 : List LCol) =>
   aj (aF b (j1 : Int)) fun (x29 : LCol) =>
   cond (x1.kind != x29.kind)
    (some (.ret ([],7)))
    (cond x1.nullable
     (aj (aF s1 (j1 : Int)) fun (x51 : LCol) =>
     bo (s1.set ((j1 : Int).toNat) (LCol.mk x51.name x51.kind true)) fun (y8 : List LCol) =>
     some (.next y8))
     (cond (kind == (6 : Int))
      (aj (aF b (j1 : Int)) fun (x46 : LCol) =>
      aj (aF s1 (j1 : Int)) fun (x51 : LCol) =>
      bo (s1.set ((j1 : Int).toNat) (LCol.mk x51.name x51.kind x46.nullable)) fun (y9 : List LCol) =>
      some (.next y9))
      (aj (aF s1 (j1 : Int)) fun (x51 : LCol) =>
      bo (s1.set ((j1 : Int).toNat) (LCol.mk x51.name x51.kind false)) fun (y10 : List LCol) =>
      some (.next y10))))) 0 a a) fun fl1=>fl1.thenR fun (s1 : List LCol) =>
  some (s1,0))
theorem qN (kind : Int) (a : List LCol) (b : List LCol) (r : (List LCol) × Int) (H : iq kind a b = some r) :
  aV Tryz.prog 157 [(ae kind),(.list 50 (a.map aG)),(.list 50 (b.map aG))] (.tup [(.list 50 (r.1.map aG)),(ae r.2)]) := by
 unfold iq at H
 refine PH.aC Tryz.func157 Tryz.ntmps157 ?_
 refine aw 2 tk rfl (ac (ac (af (aq tk rfl (aN tk (zl _) ?_)))))
 refine aq tk rfl (aN tk (zl _) ?_)
 refine aq tk rfl (ag ?_)
 refine aP rfl H (fun H=>?_) (fun H=>?_)
 ·refine aw 2 tk rfl ?_
  obtain rfl := ao H
  refine aB tk rfl (ps := [(.val (.slice none 0 0)),(ae 7)]) ⟨_,_,rfl,rfl,_,_,rfl,rfl,rfl⟩ (PLe.of2 (np.tup (iw.cons (np.nil tk rfl) (iw.cons (np.of_eq rfl) iw.nil))))
 refine av (ac (af (aq tk rfl ?_)))
 have s16 := oG (m := 16) a
 refine lz (g := 155) rfl rfl rfl Tryz.call155 (jc.r) rfl rfl s16 (fun g16=>?_)
 refine aq tk rfl (ag (ac (ac (af (aq tk rfl (aN tk (zl _) ?_))))))
 refine aq tk rfl (ag ?_)
 obtain ⟨fl1,H1,Hp1⟩ := ax H
 refine bU tk 1 rfl rfl (fun hz1 _=>?_)
 rw [zl] at hz1
 refine aZ (τ := List LCol) (γ := OwnRef) (fun s1 g1=>⟨55,upd (fun _=>.any) 8 (.own 16 g1 (s1.map aG).length),fun _=>none,upd (fun _=>none) 16 (some ⟨g1,50,(s1.map aG),true⟩)⟩) (fun t=>fl1 = .next t) ?_ (fun s1 g1 hn1=>?_)
 ·refine az ?_
  refine bF (fun j1 s1 g1=>⟨55,upd (upd (upd (upd (upd (upd (fun _=>.any) 19 (ae (j1 : Int))) 18 (ae (a.length : Int))) 8 (.own 16 g1 (s1.map aG).length)) 2 (.list 50 (b.map aG))) 1 (.list 50 (a.map aG))) 0 (ae kind),fun _=>none,upd (fun _=>none) 16 (some ⟨g1,50,(s1.map aG),true⟩)⟩) g16 H1 (Gh.le (aa (aa (aa (aa (aa (aa ak)))))) ah (aA ai)) (fun j1 s1 g1 hj1 hr1=>?_)
  refine aw 1 tk rfl (ac ?_)
  refine aY rfl (fun h=>?_) (fun h=>?_)
  ·have hl1 := cp h
   obtain ⟨x1,fb1,hx1,H,hg1⟩ := rMc hl1 hr1
   refine av (ac (az (aw 2 tk rfl (ac (ac ?_)))))
   refine cZ (tag := 16) rfl (fun ho16=>?_)
   refine bl tk mok ⟨false,false,[]⟩ [0,1,2,3,4,5,6,7,8,9,10] rfl (by decide +kernel) rfl (aJ 2 rfl ?_)
   refine bX (zn j1) (bQ (fun _=>rfl) hx1) ?_
   refine aJ 4 rfl ?_
   obtain ⟨x29,k29,H⟩ := aW H
   refine bX k29.1 (aH (fun _=>rfl) k29.2) ?_
   refine aJ 3 rfl (be ?_)
   refine aP rfl H (fun H=>?_) (fun H=>?_)
   ·refine aw 2 tk rfl ?_
    obtain rfl := ao H
    have e1 : fl1 = .ret _ := hg1
    subst e1
    obtain rfl := bj Hp1
    refine aB tk rfl (ps := [(.val (.slice none 0 0)),(ae 7)]) ⟨_,_,rfl,rfl,_,_,rfl,rfl,rfl⟩ (PLe.of2 (np.tup (iw.cons (np.nil tk rfl) (iw.cons (np.of_eq rfl) iw.nil))))
   refine av (af (am 4 tk rfl ?_))
   refine bt tk (zn j1) (bQ (fun _=>rfl) hx1) ?_
   refine am 3 tk rfl ?_
   refine bG rfl rfl rfl H (fun H=>?_) (fun H=>?_)
   ·refine am 10 tk rfl ?_
    obtain ⟨x51,k51,H⟩ := aW H
    refine mI (tag := 16) rfl (fun ho16=>?_)
    refine mr tk rfl rfl rfl rfl rfl rfl rfl ⟨k51.1,(bm k51.2)⟩ (bn ho16 k51.2) rfl (aq tk rfl ?_)
    obtain ⟨y8,hy8,H⟩ := bK H
    refine oU tk rfl rfl rfl rfl rfl rfl rfl rfl (by rw [zl]; exact (zg.1 k51.2).1) (PLe.refl _ _) rfl rfl rfl rfl (by decide) (bM (fun _=>rfl) k51.2 rfl hy8) ?_
    refine ag (aQ (bh 2 tk rfl ?_))
    obtain rfl := ao H
    refine aK y8 g1 ⟨hl1,hg1⟩ (Gh.le (aa (aa (aa (aI (PLe.of2 (np.of_eq (congrArg (PV.own 16 g1) (br (f := aG) hy8)))) (aa (aI (PLe.q (aU (by omega))) ak)))))) ah (aA ai))
   refine am 3 tk rfl ?_
   refine bG rfl rfl rfl H (fun H=>?_) (fun H=>?_)
   ·refine am 2 tk rfl ?_
    obtain ⟨x46,k46,H⟩ := aW H
    refine bt tk k46.1 (aH (fun _=>rfl) k46.2) ?_
    refine am 4 tk rfl ?_
    obtain ⟨x51,k51,H⟩ := aW H
    refine mI (tag := 16) rfl (fun ho16=>?_)
    refine mr tk rfl rfl rfl rfl rfl rfl rfl ⟨k51.1,(bm k51.2)⟩ (bn ho16 k51.2) rfl (aq tk rfl ?_)
    obtain ⟨y9,hy9,H⟩ := bK H
    refine oU tk rfl rfl rfl rfl rfl rfl rfl rfl (by rw [zl]; exact (zg.1 k51.2).1) (PLe.refl _ _) rfl rfl rfl rfl (by decide) (bM (fun _=>rfl) k51.2 rfl hy9) ?_
    refine ag (aQ (bh 2 tk rfl ?_))
    obtain rfl := ao H
    refine aK y9 g1 ⟨hl1,hg1⟩ (Gh.le (aa (aa (aa (aI (PLe.of2 (np.of_eq (congrArg (PV.own 16 g1) (br (f := aG) hy9)))) (aa (aI (PLe.q (aU (by omega))) ak)))))) ah (aA ai))
   refine am 7 tk rfl ?_
   obtain ⟨x51,k51,H⟩ := aW H
   refine mI (tag := 16) rfl (fun ho16=>?_)
   refine mr tk rfl rfl rfl rfl rfl rfl rfl ⟨k51.1,(bm k51.2)⟩ (bn ho16 k51.2) rfl (aq tk rfl ?_)
   obtain ⟨y10,hy10,H⟩ := bK H
   refine oU tk rfl rfl rfl rfl rfl rfl rfl rfl (by rw [zl]; exact (zg.1 k51.2).1) (PLe.refl _ _) rfl rfl rfl rfl (by decide) (bM (fun _=>rfl) k51.2 rfl hy10) ?_
   refine ag (aQ (bh 2 tk rfl ?_))
   obtain rfl := ao H
   refine aK y10 g1 ⟨hl1,hg1⟩ (Gh.le (aa (aa (aa (aI (PLe.of2 (np.of_eq (congrArg (PV.own 16 g1) (br (f := aG) hy10)))) (aa (aI (PLe.q (aU (by omega))) ak)))))) ah (aA ai))
  have hn1 := rMd (cq h) hr1
  refine aR rfl ?_
  refine aO s1 g1 hn1 (Gh.le (aa ak) ah (aA ai))
 have H := ck hn1 Hp1
 refine aw 3 tk rfl ?_
 obtain rfl := ao H
 refine el 6 rfl rfl rfl ?_
 refine aB tk rfl (ps := [(.list 50 (s1.map aG)),(ae 0)]) ⟨_,_,rfl,rfl,_,_,rfl,rfl,rfl⟩ (PLe.q rfl)
def dZ (sA : List (List UInt8)) (v : List UInt8) : Option (Bool) :=
 aj (fQ sA v) fun x7 =>
 some (decide (x7 ≥ (0 : Int)))
theorem lu (sA : List (List UInt8)) (v : List UInt8) (r : Bool) (H : dZ sA v = some r) :
  aV Tryz.prog 48 [(.list 9 (sA.map co)),(.str v)] (aE r) := by
 unfold dZ at H
 refine PH.aC Tryz.func48 Tryz.ntmps48 ?_
 refine aw 1 tk rfl (ac (af (am 2 tk rfl ?_)))
 obtain ⟨x7,h7,H⟩ := ax H
 have s7 := mg sA v _ h7
 refine au Tryz.call79 (jc.r) s7 ?_
 refine am 2 tk rfl (ag ?_)
 obtain rfl := ao H
 refine aB tk rfl (ps := [(aE (decide (x7 ≥ (0 : Int))))]) ⟨_,_,rfl,rfl,rfl⟩ (PLe.q rfl)
def cx (sA : List LCol) (f : LCol → Option (Bool)) : Option (Bool) :=
 aj (ce sA f) fun x7 =>
 some (decide (x7 ≥ (0 : Int)))
theorem jK {g_f : FuncId} {caps_f : List PV} (sA : List LCol) (f : LCol → Option (Bool)) (hg_f : ∀ (vs : Array Value) (w : World),(callFunc g_f vs).run Tryz.prog w = .ok (.enter g_f vs) w) (hp_f : ∀ a0 r,f a0 = some r → aV Tryz.prog g_f ((.agg (aG a0)) :: caps_f) (aE r)) (r : Bool) (H : cx sA f = some r) :
  aV Tryz.prog 112 [(.list 50 (sA.map aG)),(.fn g_f caps_f)] (aE r) := by
 unfold cx at H
 refine PH.aC Tryz.func112 Tryz.ntmps112 ?_
 refine aw 1 tk rfl (ac (af (am 2 tk rfl ?_)))
 obtain ⟨x7,h7,H⟩ := ax H
 have s7 := eT sA f hg_f hp_f _ h7
 refine au Tryz.call43 (jc.r) s7 ?_
 refine am 2 tk rfl (ag ?_)
 obtain rfl := ao H
 refine aB tk rfl (ps := [(aE (decide (x7 ≥ (0 : Int))))]) ⟨_,_,rfl,rfl,rfl⟩ (PLe.q rfl)
def eJ (t : LTable) (row : Rq) : Option (Int) :=
 cond ((row.length : Int) != (t.columns.length : Int))
  (some 3)
  (aj (ba (σ := Unit) (ρ := (Int)) (fun (j1 : Nat) (x1 : LVal) (_ : Unit) =>
   bo (dS x1) fun x22 =>
   cond (x22 != (0 : Int))
    (some (.ret x22))
    (aj (
     cond (x1.kind == (0 : Int))
      (aj (aF t.columns (j1 : Int)) fun (x33 : LCol) =>
      some (!x33.nullable))
      (some false)) fun (t3 : Bool) =>
    cond t3
     (some (.ret 8))
     (cond (x1.kind != (0 : Int))
      (aj (aF t.columns (j1 : Int)) fun (x47 : LCol) =>
      cond (x1.kind != x47.kind)
       (some (.ret 7))
       (some (.next ())))
      (some (.next ()))))) 0 row ()) fun fl1=>fl1.thenR fun (_ : Unit) =>
  some 0)
theorem ph (t : LTable) (row : Rq) (r : Int) (H : eJ t row = some r) :
  aV Tryz.prog 84 [(.agg (bA t)),(.list 53 (row.map ab))] (ae r) := by
 unfold eJ at H
 refine PH.aC Tryz.func84 Tryz.ntmps84 ?_
 refine ac (af (aT ?_))
 refine aq tk rfl (ag (ac (ac (af (aq tk rfl (aN tk (zl _) ?_))))))
 refine am 2 tk rfl (aN tk (zl _) ?_)
 refine aq tk rfl (ag ?_)
 refine aP rfl H (fun H=>?_) (fun H=>?_)
 ·refine aw 1 tk rfl ?_
  obtain rfl := ao H
  refine aB tk rfl (ps := [(ae 3)]) ⟨_,_,rfl,rfl,rfl⟩ (PLe.q rfl)
 refine av (ac (ac (af (aq tk rfl (aN tk (zl _) ?_)))))
 refine aq tk rfl (ag ?_)
 obtain ⟨fl1,H1,Hp1⟩ := ax H
 refine bU tk 14 rfl rfl (fun hz1 _=>?_)
 rw [zl] at hz1
 refine aZ (τ := Unit) (γ := Unit) (fun s1 g1=>⟨53,fun _=>.any,fun _=>none,fun _=>none⟩) (fun t=>fl1 = .next t) ?_ (fun s1 g1 hn1=>?_)
 ·refine az ?_
  refine bF (fun j1 s1 g1=>⟨53,upd (upd (upd (upd (fun _=>.any) 16 (ae (j1 : Int))) 15 (ae (row.length : Int))) 14 (.list 53 (row.map ab))) 2 (.ptr [(.str t.name),(.list 50 (t.columns.map aG)),(.list 3 (t.primaryKey.map bJ))]),fun _=>none,fun _=>none⟩) () H1 (Gh.le (aa (aa (aa (aa ak)))) ah ai) (fun j1 s1 g1 hj1 hr1=>?_)
  refine aw 1 tk rfl (ac ?_)
  refine aY rfl (fun h=>?_) (fun h=>?_)
  ·have hl1 := cp h
   obtain ⟨x1,fb1,hx1,H,hg1⟩ := rMc hl1 hr1
   refine av (ac (az (ac (af (aq tk rfl ?_)))))
   refine bt tk (zn j1) (bQ (fun _=>rfl) hx1) ?_
   refine aq tk rfl ?_
   refine bv tk fun b6=>?_
   refine aq tk rfl (aD tk ?_)
   refine ag (ac (ac (af (aM tk ?_))))
   obtain ⟨x22,h22,H⟩ := bK H
   have s22 := nX x1
   rw [h22] at s22
   refine au Tryz.call105 (jc.r) s22 ?_
   refine aq tk rfl (ag (aw 2 tk rfl ?_))
   refine aP rfl H (fun H=>?_) (fun H=>?_)
   ·refine aw 2 tk rfl ?_
    obtain rfl := ao H
    have e1 : fl1 = .ret _ := hg1
    subst e1
    obtain rfl := bj Hp1
    refine aB tk rfl (ps := [(ae x22)]) ⟨_,_,rfl,rfl,rfl⟩ (PLe.q rfl)
   refine av (ac (ac ?_))
   obtain ⟨fl3,H3,Hp3⟩ := ax H
   refine aZ (τ := Bool) (γ := Unit) (fun t3 g3=>⟨53,upd (upd (upd (upd (upd (upd (upd (fun _=>.any) 37 (aE t3)) 16 (ae (j1 : Int))) 15 (ae (row.length : Int))) 14 (.list 53 (row.map ab))) 6 (.box 6 b6 0)) 5 (ae (j1 : Int))) 2 (.ptr [(.str t.name),(.list 50 (t.columns.map aG)),(.list 3 (t.primaryKey.map bJ))]),upd (fun _=>none) 6 (some ⟨b6,[(ae x1.kind),(ae x1.int),(.str x1.text)]⟩),fun _=>none⟩) (fun t=>t = fl3) ?_ (fun t3 g3 hn3=>?_)
   ·have H := H3
    refine af (aq tk rfl (aM tk ?_))
    refine am 2 tk rfl ?_
    refine bG rfl rfl rfl H (fun H=>?_) (fun H=>?_)
    ·refine am 3 tk rfl ?_
     obtain ⟨x33,k33,H⟩ := aW H
     refine bt tk k33.1 (aH (fun _=>rfl) k33.2) ?_
     refine am 4 tk rfl (ag ?_)
     obtain rfl := ao H
     refine aO (!x33.nullable) () rfl (Gh.le (aa (aa (aa (aa (aa (aa (aa ak))))))) (ay rfl (jc.r) ah) ai)
    refine am 8 tk rfl (ag ?_)
    obtain rfl := ao H
    refine aO false () rfl (Gh.le (aa (aa (aa (aa (aa (aa (aa ak))))))) (ay rfl (jc.r) ah) ai)
   subst hn3
   have H := Hp3
   refine aP rfl H (fun H=>?_) (fun H=>?_)
   ·refine aw 1 tk rfl ?_
    obtain rfl := ao H
    have e1 : fl1 = .ret _ := hg1
    subst e1
    obtain rfl := bj Hp1
    refine aB tk rfl (ps := [(ae 8)]) ⟨_,_,rfl,rfl,rfl⟩ (PLe.q rfl)
   refine av (ac (bl tk mok ⟨true,false,[45,49]⟩ [0,1,2,3,4,5,6,7,8,9,10,11,12,13] rfl (by decide +kernel) rfl (cC rfl (cM ?_))))
   refine aJ 2 rfl ?_
   refine im H (fun H=>?_) (fun H=>?_)
   ·refine cC rfl (cM ?_)
    refine aJ 3 rfl ?_
    obtain ⟨x47,k47,H⟩ := aW H
    refine bX k47.1 (aH (fun _=>rfl) k47.2) ?_
    refine aJ 4 rfl (be ?_)
    refine aP rfl H (fun H=>?_) (fun H=>?_)
    ·refine aw 1 tk rfl ?_
     obtain rfl := ao H
     have e1 : fl1 = .ret _ := hg1
     subst e1
     obtain rfl := bj Hp1
     refine aB tk rfl (ps := [(ae 7)]) ⟨_,_,rfl,rfl,rfl⟩ (PLe.q rfl)
    refine av (aQ (bh 2 tk rfl ?_))
    obtain rfl := ao H
    refine aK () () ⟨hl1,hg1⟩ (Gh.le (aa (aa (aa (aI (PLe.q (aU (by omega))) ak)))) ah ai)
   refine aJ 10 rfl (be (bH rfl (av (aQ (bh 2 tk rfl ?_)))))
   obtain rfl := ao H
   refine aK () () ⟨hl1,hg1⟩ (Gh.le (aa (aa (aa (aI (PLe.q (aU (by omega))) ak)))) ah ai)
  have hn1 := rMd (cq h) hr1
  refine aR rfl ?_
  refine aO s1 g1 hn1 (Gh.le ak ah ai)
 have H := ck hn1 Hp1
 refine aw 1 tk rfl ?_
 obtain rfl := ao H
 refine aB tk rfl (ps := [(ae 0)]) ⟨_,_,rfl,rfl,rfl⟩ (PLe.q rfl)
def jQ (a : List UInt8) (b : List UInt8) : Int :=
 bo (fp a b) fun x7 =>
 x7
theorem rh (a : List UInt8) (b : List UInt8) :
  aV Tryz.prog 150 [(.str a),(.str b)] (ae (jQ a b)) := by
 obtain ⟨r,H⟩ : ∃ r,jQ a b = r := ⟨_,rfl⟩
 rw [H]
 unfold jQ at H
 refine PH.aC Tryz.func150 Tryz.ntmps150 ?_
 refine aw 1 tk rfl (ac (af (am 2 tk rfl ?_)))
 obtain ⟨x7,h7,H⟩ := bK H
 have s7 := lr a b
 rw [h7] at s7
 refine au Tryz.call178 (jc.r) s7 ?_
 refine aq tk rfl (ag ?_)
 subst H
 refine aB tk rfl (ps := [(ae x7)]) ⟨_,_,rfl,rfl,rfl⟩ (PLe.q rfl)
def ct (slices : Rz) : Option (Rq) :=
 aj (ba (σ := Int) (ρ := Empty) (fun (_ : Nat) (x1 : Rq) (s1 : Int) =>
  cond (decide ((i64.wrap (s1 + (x1.length : Int))) < (0 : Int)))
   (none)
   (some (.next (i64.wrap (s1 + (x1.length : Int)))))) 0 slices 0) fun fl1=>fl1.thenP fun (s1 : Int) =>
 aj (oJ 32 s1) fun (_ : Unit) =>
 aj (ba (σ := Rq) (ρ := Empty) (fun (_ : Nat) (x2 : Rq) (s2 : Rq) =>
  aj (ee 32 s2 x2) fun (x33 : Rq) =>
  some (.next x33)) 0 slices []) fun fl2=>fl2.thenP fun (s2 : Rq) =>
 some s2
theorem iR {m : Nat} (slices : Rz) (r : Rq) (H : ct slices = some r) :
  jE Tryz.prog 168 [(.list 51 (slices.map (al 53 ab)))] (ma m 53 (r.map ab)) := by
 unfold ct at H
 refine PH.aC Tryz.func168 Tryz.ntmps168 ?_
 refine aw 1 tk rfl (aw 1 tk rfl (ac (ac (af (aq tk rfl (aN tk (zl _) ?_))))))
 refine aq tk rfl (ag ?_)
 obtain ⟨fl1,H1,Hp1⟩ := ax H
 refine bU tk 9 rfl rfl (fun hz1 _=>?_)
 rw [zl] at hz1
 refine aZ (τ := Int) (γ := Unit) (fun s1 g1=>⟨36,upd (upd (fun _=>.any) 3 (ae s1)) 0 (.list 51 (slices.map (al 53 ab))),fun _=>none,fun _=>none⟩) (fun t=>fl1 = .next t) ?_ (fun s1 g1 hn1=>?_)
 ·refine az ?_
  refine bF (fun j1 s1 g1=>⟨36,upd (upd (upd (upd (upd (fun _=>.any) 11 (ae (j1 : Int))) 10 (ae (slices.length : Int))) 9 (.list 51 (slices.map (al 53 ab)))) 3 (ae s1)) 0 (.list 51 (slices.map (al 53 ab))),fun _=>none,fun _=>none⟩) () H1 (Gh.le (aa (aa (aa (aa (aa ak))))) ah ai) (fun j1 s1 g1 hj1 hr1=>?_)
  refine aw 1 tk rfl (ac ?_)
  refine aY rfl (fun h=>?_) (fun h=>?_)
  ·have hl1 := cp h
   obtain ⟨x1,fb1,hx1,H,hg1⟩ := rMc hl1 hr1
   refine av (ac (az (ac (af ?_))))
   refine bt tk (zn j1) (bQ (fun _=>rfl) hx1) ?_
   refine am 2 tk rfl (ag (ac (af (am 2 tk rfl (aN tk (zl _) ?_)))))
   refine am 2 tk rfl (ag (aw 2 tk rfl ?_))
   refine aP rfl H (fun H=>?_) (fun H=>?_)
   ·cases H
   refine av (aQ (bh 2 tk rfl ?_))
   obtain rfl := ao H
   refine aK (i64.wrap (s1 + (x1.length : Int))) () ⟨hl1,hg1⟩ (Gh.le (aa (aa (aa (aa (aI (PLe.q (aU (by omega))) ak))))) ah ai)
  have hn1 := rMd (cq h) hr1
  refine aR rfl ?_
  refine aO s1 g1 hn1 (Gh.le (aa (aa ak)) ah ai)
 have H := bq hn1 Hp1
 refine ac (af (aq tk rfl ?_))
 obtain ⟨_,h24,H⟩ := ax H
 have s24 := grow_186 (m := 24) s1 h24
 refine lz (g := 186) rfl rfl rfl Tryz.call186 (jc.r) rfl rfl s24 (fun g24=>?_)
 refine aq tk rfl (ag (ac (ac (af (aq tk rfl (aN tk (zl _) ?_))))))
 refine aq tk rfl (ag ?_)
 obtain ⟨fl2,H2,Hp2⟩ := ax H
 refine bU tk 25 rfl rfl (fun hz2 _=>?_)
 rw [zl] at hz2
 refine aZ (τ := Rq) (γ := OwnRef) (fun s2 g2=>⟨36,upd (fun _=>.any) 6 (.own 24 g2 (s2.map ab).length),fun _=>none,upd (fun _=>none) 24 (some ⟨g2,53,(s2.map ab),true⟩)⟩) (fun t=>fl2 = .next t) ?_ (fun s2 g2 hn2=>?_)
 ·refine az ?_
  refine bF (fun j2 s2 g2=>⟨36,upd (upd (upd (upd (fun _=>.any) 27 (ae (j2 : Int))) 26 (ae (slices.length : Int))) 25 (.list 51 (slices.map (al 53 ab)))) 6 (.own 24 g2 (s2.map ab).length),fun _=>none,upd (fun _=>none) 24 (some ⟨g2,53,(s2.map ab),true⟩)⟩) g24 H2 (Gh.le (aa (aa (aa (aa ak)))) ah (aA ai)) (fun j2 s2 g2 hj2 hr2=>?_)
  refine aw 1 tk rfl (ac ?_)
  refine aY rfl (fun h=>?_) (fun h=>?_)
  ·have hl2 := cp h
   obtain ⟨x2,fb2,hx2,H,hg2⟩ := rMc hl2 hr2
   refine av (ac (az (ac (af ?_))))
   refine bt tk (zn j2) (bQ (fun _=>rfl) hx2) ?_
   refine am 2 tk rfl (ag (af (am 2 tk rfl ?_)))
   obtain ⟨x33,h33,H⟩ := ax H
   have k33 := dw h33
   refine dr (rows2' := List.map ab x2) (rows' := List.map ab x33) tk rfl rfl rfl rfl rfl rfl rfl rfl rfl rfl rfl rfl rfl (gk.refl _) (eK k33.1) (eN k33.2.1) (eR k33.2.2) fun g33=>?_
   refine aq tk rfl (ag (aQ (bh 2 tk rfl ?_)))
   obtain rfl := ao H
   refine aK x33 g33 ⟨hl2,hg2⟩ (Gh.le (aa (aa (aa (aI (PLe.q (aU (by omega))) ak)))) ah (aA ai))
  have hn2 := rMd (cq h) hr2
  refine aR rfl ?_
  refine aO s2 g2 hn2 (Gh.le (aa ak) ah (aA ai))
 have H := bq hn2 Hp2
 refine aw 2 tk rfl ?_
 obtain rfl := ao H
 refine kq tk rfl
def iW (y : Rq) (c0 : Rq) : Option (Bool) :=
 aj (cY c0 y) fun x6 =>
 some x6
theorem W_query_less_1 (y : Rq) (c0 : Rq) (r : Bool) (H : iW y c0 = some r) :
  aV Tryz.prog 169 [(.list 53 (y.map ab)),(.ptr [(.list 53 (c0.map ab))])] (aE r) := by
 unfold iW at H
 refine PH.aC Tryz.func169 Tryz.ntmps169 ?_
 refine aw 1 tk rfl (ac (af (am 2 tk rfl ?_)))
 obtain ⟨x6,h6,H⟩ := ax H
 have s6 := gG c0 y _ h6
 refine au Tryz.call24 (jc.r) s6 ?_
 refine aq tk rfl (ag ?_)
 obtain rfl := ao H
 refine aB tk rfl (ps := [(aE x6)]) ⟨_,_,rfl,rfl,rfl⟩ (PLe.q rfl)
def dJ (sA : Rz) (del : Rq → Option (Bool)) : Option Rz :=
 aj (cd sA del) fun x10 =>
 aj (cF (x10.2.length = sA.length) ()) fun (_ : Unit) =>
 cond (x10.1 == (-1))
  (some x10.2)
  (aj (whileM (σ := Rz × Int × Int) (ρ := Empty) (fun (s1 : Rz × Int × Int) =>
   cond (decide (s1.2.2 < (s1.1.length : Int)))
    (aj (aF s1.1 s1.2.2) fun (x24 : Rq) =>
    aj (del x24) fun x28 =>
    cond (!x28)
     (aj (aF s1.1 s1.2.1) fun (_ : Rq) =>
     bo (s1.1.set s1.2.1.toNat x24) fun (y4 : Rz) =>
     some (.next (y4,(i64.wrap (s1.2.1 + (1 : Int))),(i64.wrap (s1.2.2 + (1 : Int))))))
     (some (.next (s1.1,s1.2.1,(i64.wrap (s1.2.2 + (1 : Int)))))))
    (some (.brk (s1.1,s1.2.1,s1.2.2)))) (x10.2,x10.1,(i64.wrap (x10.1 + (1 : Int))))) fun fl1=>fl1.thenP fun (s1 : Rz × Int × Int) =>
  aj (cutI s1.1 s1.2.1) fun (y5 : Rz) =>
  aj (cutI y5 s1.2.1) fun (y6 : Rz) =>
  some y6)
theorem kF (g_sA : OwnRef) {g_del : FuncId} {caps_del : List PV} (sA : Rz) (del : Rq → Option (Bool)) (hg_del : ∀ (vs : Array Value) (w : World),(callFunc g_del vs).run Tryz.prog w = .ok (.enter g_del vs) w) (hp_del : ∀ a0 r,del a0 = some r → aV Tryz.prog g_del ((.list 53 (a0.map ab)) :: caps_del) (aE r)) (r : Rz) (H : dJ sA del = some r) :
  PH Tryz.prog 135 [(.own 0 g_sA (sA.map (al 53 ab)).length),(.fn g_del caps_del)] ⟨fun _=>none,upd (fun _=>none) 0 (some ⟨g_sA,51,(sA.map (al 53 ab)),true⟩)⟩ (fun u H=>u = .own 0 g_sA (r.map (al 53 ab)).length ∧ H = ⟨fun _=>none,upd (fun _=>none) 0 (some ⟨g_sA,51,(r.map (al 53 ab)),true⟩)⟩) := by
 unfold dJ at H
 refine PH.aC Tryz.func135 Tryz.ntmps135 ?_
 refine aw 1 tk rfl (ac (af (am 2 tk rfl ?_)))
 obtain ⟨x10,h10,H⟩ := ax H
 have s10 := fM g_sA sA del hg_del hp_del _ h10
 obtain ⟨_,q10_0,H⟩ := ax H
 have l10_0 := (bI q10_0).1
 have z10_0 : (List.map (al 53 ab) sA).length = (List.map (al 53 ab) x10.2).length := by simpa using (l10_0).symm
 refine cf (g := 22) rfl rfl rfl Tryz.call22 [] [(0,0)] rfl rfl rfl rfl (jc.of2 (iw.cons (np.own rfl) (iw.cons (np.of_eq rfl) iw.nil))) (by rw [bR,bL,bS]; rfl) s10 ?_
 rintro u10 H10h ⟨rfl,rfl⟩
 refine ⟨_,rfl,?_⟩
 refine cA (st' := ⟨_,_,fun _=>none,upd (fun _=>none) 0 (some ⟨g_sA,51,(x10.2.map (al 53 ab)),true⟩)⟩) (Gh.le (bO _ _) ah (aA ai)) ?_
 refine aq tk rfl (ag (ac (aw 2 tk rfl ?_)))
 refine aP rfl H (fun H=>?_) (fun H=>?_)
 ·refine aw 2 tk rfl ?_
  obtain rfl := ao H
  refine dN (st' := ⟨42,upd (fun _=>.any) 4 (.own 0 g_sA (sA.map (al 53 ab)).length),fun _=>none,upd (fun _=>none) 0 (some ⟨g_sA,51,(x10.2.map (al 53 ab)),true⟩)⟩) (Gh.le (aa ak) ah (aA ai)) ?_
  refine eZ tk rfl (ps := [(.own 0 g_sA (sA.map (al 53 ab)).length)]) ⟨_,_,rfl,rfl,rfl⟩ (PLe.of2 (np.own z10_0)) ⟨rfl,rfl⟩
 refine av (ac (aw 3 tk rfl ?_))
 obtain ⟨fl1,H1,Hp1⟩ := ax H
 refine aZ (τ := Rz × Int × Int) (γ := Unit) (fun s1 g1=>⟨42,upd (upd (fun _=>.any) 5 (ae s1.2.1)) 0 (.own 0 g_sA (s1.1.map (al 53 ab)).length),fun _=>none,upd (fun _=>none) 0 (some ⟨g_sA,51,(s1.1.map (al 53 ab)),true⟩)⟩) (fun t=>fl1 = .next t) ?_ (fun s1 g1 hn1=>?_)
 ·refine az ?_
  refine cP (fun s1 g1=>⟨42,upd (upd (upd (upd (fun _=>.any) 6 (ae s1.2.2)) 5 (ae s1.2.1)) 1 (.fn g_del caps_del)) 0 (.own 0 g_sA (s1.1.map (al 53 ab)).length),fun _=>none,upd (fun _=>none) 0 (some ⟨g_sA,51,(s1.1.map (al 53 ab)),true⟩)⟩) () H1 (Gh.le (aI (PLe.of2 (np.of_eq (congrArg (PV.own 0 g_sA) z10_0))) (aa (aa (aa ak)))) ah (aA ai)) (fun m1 s1 g1 hr1=>?_)
  obtain ⟨fb1,H,hg1⟩ := cn hr1
  refine ac (ac (af (am 2 tk rfl (jG tk (zl _) ?_))))
  refine aq tk rfl (ag ?_)
  refine aP rfl H (fun H=>?_) (fun H=>?_)
  ·refine av (ac (az (ac (af (am 2 tk rfl ?_)))))
   obtain ⟨x24,k24,H⟩ := aW H
   refine mI (tag := 0) rfl (fun ho0=>?_)
   refine mr tk rfl rfl rfl rfl rfl rfl rfl ⟨k24.1,(bm k24.2)⟩ (bn ho0 k24.2) rfl ?_
   refine rH tk rfl rfl rfl rfl rfl rfl rfl (aH (fun _=>rfl) k24.2) rfl rfl ?_
   refine aq tk rfl (ag (ac (af (am 2 tk rfl ?_))))
   obtain ⟨x28,h28,H⟩ := ax H
   refine au hg_del (jc.r) (hp_del _ _ h28) ?_
   refine aq tk rfl (ag ?_)
   refine aP rfl H (fun H=>?_) (fun H=>?_)
   ·refine ac (af (am 3 tk rfl ?_))
    obtain ⟨x33,k33,H⟩ := aW H
    refine mI (tag := 0) rfl (fun ho0=>?_)
    refine mr tk rfl rfl rfl rfl rfl rfl rfl ⟨k33.1,(bm k33.2)⟩ (bn ho0 k33.2) rfl ?_
    obtain ⟨y4,hy4,H⟩ := bK H
    refine oU tk rfl rfl rfl rfl rfl rfl rfl rfl (by rw [zl]; exact (zg.1 k33.2).1) (PLe.refl _ _) rfl rfl rfl rfl (by decide) (bM (fun _=>rfl) k33.2 rfl hy4) ?_
    refine ag (bh 3 tk rfl (aQ (bh 3 tk rfl ?_)))
    obtain rfl := ao H
    refine aK (y4,(i64.wrap (s1.2.1 + (1 : Int))),(i64.wrap (s1.2.2 + (1 : Int)))) () hg1 (Gh.le (aI (PLe.of2 (np.of_eq (congrArg (PV.own 0 g_sA) (br (f := (al 53 ab)) hy4)))) (aa (aa (aa ak)))) ah (aA ai))
   refine av (aQ (bh 3 tk rfl ?_))
   obtain rfl := ao H
   refine aK (s1.1,s1.2.1,(i64.wrap (s1.2.2 + (1 : Int)))) () hg1 (Gh.le (aa (aa (aa (aa ak)))) ah (aA ai))
  refine aR rfl ?_
  obtain rfl := ao H
  refine aO (s1.1,s1.2.1,s1.2.2) () hg1 (Gh.le (aa (aa ak)) ah (aA ai))
 have H := bq hn1 Hp1
 refine ac (af (am 2 tk rfl ?_))
 obtain ⟨y5,hy5,H⟩ := ax H
 have ky5 := cutI_some hy5
 refine Ao.ownC (tag := 0) rfl (fun hcy5=>?_)
 have hny5 : (s1.1.map (al 53 ab)).length = (List.map (al 53 ab) s1.1).length := rfl
 have hmy5 := ky5.2.1
 rw [← zl (f := (al 53 ab)),← hny5] at hmy5
 rw [← hny5] at hcy5
 refine rY (l := s1.2.1.toNat) (h := (s1.1.map (al 53 ab)).length) (m := g_sA.cap) tk rfl rfl rfl rfl rfl rfl ⟨_,_,rfl,(Int.toNat_of_nonneg ky5.1).symm⟩ rfl rfl (by decide) hmy5 hcy5 (Nat.le_refl _) rfl (cA (Gh.cutO (tag := 0) (rows' := List.map (al 53 ab) y5) rfl s1.2.1.toNat (by rw [← List.map_take,ky5.2.2])) ?_)
 refine se (tag := 0) (rows := List.map (al 53 ab) y5) tk rfl rfl rfl rfl rfl rfl rfl rfl rfl (p := s1.2.1.toNat) (q := (s1.1.map (al 53 ab)).length) (m := g_sA.cap) (by rw [zl,ky5.2.2,List.length_take]; exact Nat.min_le_left _ _) hmy5 hcy5 (Nat.le_refl _) rfl ?_
 refine ag (ac (af (am 2 tk rfl ?_)))
 obtain ⟨y6,hy6,H⟩ := ax H
 have ky6 := cutI_some hy6
 refine Ao.cutP (rows' := List.map (al 53 ab) y6) tk rfl rfl rfl rfl rfl rfl rfl rfl ⟨ky6.1,by rw [zl]; exact ky6.2.1⟩ (by rw [← List.map_take,ky6.2.2]) rfl rfl ?_
 refine aq tk rfl (ag ?_)
 obtain rfl := ao H
 refine dN (st' := ⟨42,upd (fun _=>.any) 4 (.own 0 g_sA (y6.map (al 53 ab)).length),fun _=>none,upd (fun _=>none) 0 (some ⟨g_sA,51,(y6.map (al 53 ab)),true⟩)⟩) (Gh.le (aa ak) ah (aA ai)) ?_
 refine eZ tk rfl (ps := [(.own 0 g_sA (y6.map (al 53 ab)).length)]) ⟨_,_,rfl,rfl,rfl⟩ (PLe.of2 (np.own rfl)) ⟨rfl,rfl⟩
def gp (y : Rq) (c0 : Rq) : Option (Bool) :=
 aj (cY c0 y) fun x6 =>
 some x6
theorem qr (y : Rq) (c0 : Rq) (r : Bool) (H : gp y c0 = some r) :
  aV Tryz.prog 172 [(.list 53 (y.map ab)),(.ptr [(.list 53 (c0.map ab))])] (aE r) := by
 unfold gp at H
 refine PH.aC Tryz.func172 Tryz.ntmps172 ?_
 refine aw 1 tk rfl (ac (af (am 2 tk rfl ?_)))
 obtain ⟨x6,h6,H⟩ := ax H
 have s6 := gG c0 y _ h6
 refine au Tryz.call24 (jc.r) s6 ?_
 refine aq tk rfl (ag ?_)
 obtain rfl := ao H
 refine aB tk rfl (ps := [(aE x6)]) ⟨_,_,rfl,rfl,rfl⟩ (PLe.q rfl)
def fT (op : List UInt8) (l : Rq) : Option (LVal) :=
 cond (op == ([99,111,117,110,116] : List UInt8))
  (bo (fZ (l.length : Int)) fun x13 =>
  some x13)
  (cond ((l.length : Int) == (0 : Int))
   (some (LVal.mk 0 0 []))
   (aj (aF l 0) fun (x19 : LVal) =>
   aj (ba (σ := Int × LVal) (ρ := Empty) (fun (_ : Nat) (x1 : LVal) (s1 : Int × LVal) =>
    cond (op == ([109,105,110] : List UInt8))
     (bo (er x1 s1.2) fun x36 =>
     cond x36
      (some (.next ((i64.wrap (s1.1 + x1.int)),x1)))
      (cond (op == ([109,97,120] : List UInt8))
       (bo (er s1.2 x1) fun x44 =>
       cond x44
        (some (.next ((i64.wrap (s1.1 + x1.int)),x1)))
        (some (.next ((i64.wrap (s1.1 + x1.int)),s1.2))))
       (some (.next ((i64.wrap (s1.1 + x1.int)),s1.2)))))
     (cond (op == ([109,97,120] : List UInt8))
      (bo (er s1.2 x1) fun x44 =>
      cond x44
       (some (.next ((i64.wrap (s1.1 + x1.int)),x1)))
       (some (.next ((i64.wrap (s1.1 + x1.int)),s1.2))))
      (some (.next ((i64.wrap (s1.1 + x1.int)),s1.2))))) 0 l (0,x19)) fun fl1=>fl1.thenP fun (s1 : Int × LVal) =>
   cond (op == ([115,117,109] : List UInt8))
    (bo (fZ s1.1) fun x52 =>
    some x52)
    (some s1.2)))
theorem oB (op : List UInt8) (l : Rq) (r : LVal) (H : fT op l = some r) :
  aV Tryz.prog 193 [(.str op),(.list 53 (l.map ab))] (.agg (ab r)) := by
 unfold fT at H
 refine PH.aC Tryz.func193 Tryz.ntmps193 ?_
 refine ac (af ?_)
 refine bv tk fun b4=>?_
 refine ag (ac (aw 2 tk rfl ?_))
 refine aP rfl H (fun H=>?_) (fun H=>?_)
 ·refine ac (af (aq tk rfl (aN tk (zl _) ?_)))
  obtain ⟨x13,h13,H⟩ := bK H
  have s13 := pP (l.length : Int)
  rw [h13] at s13
  refine au Tryz.call192 (jc.r) s13 ?_
  refine aD tk ?_
  refine ag ?_
  obtain rfl := ao H
  refine aB tk rfl (ps := [(.agg [(ae x13.kind),(ae x13.int),(.str x13.text)])]) ⟨_,_,rfl,⟨_,_,_,_,_,rfl,rfl,rfl,rfl⟩,rfl⟩ (PLe.q rfl)
 refine av (ac (ac (af (aq tk rfl (aN tk (zl _) ?_)))))
 refine aq tk rfl (ag ?_)
 refine aP rfl H (fun H=>?_) (fun H=>?_)
 ·refine ac (af (aq tk rfl (aD tk ?_)))
  refine ag ?_
  obtain rfl := ao H
  refine aB tk rfl (ps := [(.agg [(ae 0),(ae 0),(.str [])])]) ⟨_,_,rfl,⟨_,_,_,_,_,rfl,rfl,rfl,rfl⟩,rfl⟩ (PLe.q rfl)
 refine av (ac (af (aq tk rfl ?_)))
 obtain ⟨x19,k19,H⟩ := aW H
 refine bt tk k19.1 (aH (fun _=>rfl) k19.2) ?_
 refine aq tk rfl ?_
 refine bv tk fun b5=>?_
 refine aD tk ?_
 refine ag (aw 1 tk rfl (ac (ac (af (aq tk rfl (aN tk (zl _) ?_))))))
 refine aq tk rfl (ag ?_)
 obtain ⟨fl1,H1,Hp1⟩ := ax H
 refine bU tk 21 rfl rfl (fun hz1 _=>?_)
 rw [zl] at hz1
 refine aZ (τ := Int × LVal) (γ := Unit) (fun s1 g1=>⟨54,upd (upd (upd (upd (fun _=>.any) 6 (ae s1.1)) 5 (.box 5 b5 0)) 4 (.box 4 b4 0)) 0 (.str op),upd (upd (fun _=>none) 5 (some ⟨b5,[(ae s1.2.kind),(ae s1.2.int),(.str s1.2.text)]⟩)) 4 (some ⟨b4,[(ae 0),(ae 0),(.str [])]⟩),fun _=>none⟩) (fun t=>fl1 = .next t) ?_ (fun s1 g1 hn1=>?_)
 ·refine az ?_
  refine bF (fun j1 s1 g1=>⟨54,upd (upd (upd (upd (upd (upd (upd (fun _=>.any) 23 (ae (j1 : Int))) 22 (ae (l.length : Int))) 21 (.list 53 (l.map ab))) 6 (ae s1.1)) 5 (.box 5 b5 0)) 4 (.box 4 b4 0)) 0 (.str op),upd (upd (fun _=>none) 5 (some ⟨b5,[(ae s1.2.kind),(ae s1.2.int),(.str s1.2.text)]⟩)) 4 (some ⟨b4,[(ae 0),(ae 0),(.str [])]⟩),fun _=>none⟩) () H1 (Gh.le (aa (aa (aa (aa (aa (aa (aa ak))))))) (ay rfl (jc.r) (ay rfl (jc.r) ah)) ai) (fun j1 s1 g1 hj1 hr1=>?_)
  refine aw 1 tk rfl (ac ?_)
  refine aY rfl (fun h=>?_) (fun h=>?_)
  ·have hl1 := cp h
   obtain ⟨x1,fb1,hx1,H,hg1⟩ := rMc hl1 hr1
   refine av (ac (az (ac (af ?_))))
   refine bt tk (zn j1) (bQ (fun _=>rfl) hx1) ?_
   refine aq tk rfl ?_
   refine bv tk fun b8=>?_
   refine aD tk ?_
   refine ag (ac (af (am 2 tk rfl (aM tk ?_))))
   refine am 2 tk rfl (ag (ac (af (am 3 tk rfl ?_))))
   refine bG rfl rfl rfl H (fun H=>?_) (fun H=>?_)
   ·refine aM tk ?_
    refine aM tk ?_
    obtain ⟨x36,h36,H⟩ := bK H
    have s36 := jF x1 s1.2
    rw [h36] at s36
    refine au Tryz.call45 (jc.r) s36 ?_
    refine am 2 tk rfl ?_
    refine bG rfl rfl rfl H (fun H=>?_) (fun H=>?_)
    ·refine am 8 tk rfl (ag (cv rfl (af (aM tk ?_))))
     refine aD tk ?_
     refine ag (aQ (bh 2 tk rfl ?_))
     obtain rfl := ao H
     refine aK ((i64.wrap (s1.1 + x1.int)),x1) () ⟨hl1,hg1⟩ (Gh.le (aa (aa (aa (aa (aa (aa (aI (PLe.q (aU (by omega))) ak))))))) (ay rfl (jc.r) (ay rfl (jc.r) ah)) ai)
    refine am 3 tk rfl ?_
    refine bG rfl rfl rfl H (fun H=>?_) (fun H=>?_)
    ·refine aM tk ?_
     refine aM tk ?_
     obtain ⟨x44,h44,H⟩ := bK H
     have s44 := jF s1.2 x1
     rw [h44] at s44
     refine au Tryz.call45 (jc.r) s44 ?_
     refine am 2 tk rfl (ag ?_)
     refine aP rfl H (fun H=>?_) (fun H=>?_)
     ·refine af (aM tk ?_)
      refine aD tk ?_
      refine ag (aQ (bh 2 tk rfl ?_))
      obtain rfl := ao H
      refine aK ((i64.wrap (s1.1 + x1.int)),x1) () ⟨hl1,hg1⟩ (Gh.le (aa (aa (aa (aa (aa (aa (aI (PLe.q (aU (by omega))) ak))))))) (ay rfl (jc.r) (ay rfl (jc.r) ah)) ai)
     refine av (aQ (bh 2 tk rfl ?_))
     obtain rfl := ao H
     refine aK ((i64.wrap (s1.1 + x1.int)),s1.2) () ⟨hl1,hg1⟩ (Gh.le (aa (aa (aa (aa (aa (aa (aI (PLe.q (aU (by omega))) ak))))))) (ay rfl (jc.r) (ay rfl (jc.r) ah)) ai)
    refine am 5 tk rfl (ag (bH rfl (av (aQ (bh 2 tk rfl ?_)))))
    obtain rfl := ao H
    refine aK ((i64.wrap (s1.1 + x1.int)),s1.2) () ⟨hl1,hg1⟩ (Gh.le (aa (aa (aa (aa (aa (aa (aI (PLe.q (aU (by omega))) ak))))))) (ay rfl (jc.r) (ay rfl (jc.r) ah)) ai)
   refine am 8 tk rfl ?_
   refine bG rfl rfl rfl H (fun H=>?_) (fun H=>?_)
   ·refine aM tk ?_
    refine aM tk ?_
    obtain ⟨x44,h44,H⟩ := bK H
    have s44 := jF s1.2 x1
    rw [h44] at s44
    refine au Tryz.call45 (jc.r) s44 ?_
    refine am 2 tk rfl (ag ?_)
    refine aP rfl H (fun H=>?_) (fun H=>?_)
    ·refine af (aM tk ?_)
     refine aD tk ?_
     refine ag (aQ (bh 2 tk rfl ?_))
     obtain rfl := ao H
     refine aK ((i64.wrap (s1.1 + x1.int)),x1) () ⟨hl1,hg1⟩ (Gh.le (aa (aa (aa (aa (aa (aa (aI (PLe.q (aU (by omega))) ak))))))) (ay rfl (jc.r) (ay rfl (jc.r) ah)) ai)
    refine av (aQ (bh 2 tk rfl ?_))
    obtain rfl := ao H
    refine aK ((i64.wrap (s1.1 + x1.int)),s1.2) () ⟨hl1,hg1⟩ (Gh.le (aa (aa (aa (aa (aa (aa (aI (PLe.q (aU (by omega))) ak))))))) (ay rfl (jc.r) (ay rfl (jc.r) ah)) ai)
   refine am 5 tk rfl (ag (bH rfl (av (aQ (bh 2 tk rfl ?_)))))
   obtain rfl := ao H
   refine aK ((i64.wrap (s1.1 + x1.int)),s1.2) () ⟨hl1,hg1⟩ (Gh.le (aa (aa (aa (aa (aa (aa (aI (PLe.q (aU (by omega))) ak))))))) (ay rfl (jc.r) (ay rfl (jc.r) ah)) ai)
  have hn1 := rMd (cq h) hr1
  refine aR rfl ?_
  refine aO s1 g1 hn1 (Gh.le (aa (aa (aa (aa ak)))) (ay rfl (jc.r) (ay rfl (jc.r) ah)) ai)
 have H := bq hn1 Hp1
 refine ac (aw 2 tk rfl ?_)
 refine aP rfl H (fun H=>?_) (fun H=>?_)
 ·refine ac (af (aq tk rfl ?_))
  obtain ⟨x52,h52,H⟩ := bK H
  have s52 := pP s1.1
  rw [h52] at s52
  refine au Tryz.call192 (jc.r) s52 ?_
  refine aD tk ?_
  refine ag ?_
  obtain rfl := ao H
  refine aB tk rfl (ps := [(.agg [(ae x52.kind),(ae x52.int),(.str x52.text)])]) ⟨_,_,rfl,⟨_,_,_,_,_,rfl,rfl,rfl,rfl⟩,rfl⟩ (PLe.q rfl)
 refine av (ac (af (aM tk ?_)))
 refine aD tk ?_
 refine ag ?_
 obtain rfl := ao H
 refine aB tk rfl (ps := [(.agg [(ae s1.2.kind),(ae s1.2.int),(.str s1.2.text)])]) ⟨_,_,rfl,⟨_,_,_,_,_,rfl,rfl,rfl,rfl⟩,rfl⟩ (PLe.q rfl)
def cS (data : Rz) (a : Int) (m : Int) (b : Int) (cmp : Rq → Rq → Option (Int)) : Option (Rz) :=
 aj (whileM (σ := Rz × Int × Int) (ρ := Empty) (fun (s1 : Rz × Int × Int) =>
  cond (s1.2.1 != s1.2.2)
   (cond (decide (s1.2.1 > s1.2.2))
    (aj (cr s1.1 (i64.wrap (m - s1.2.1)) m s1.2.2 cmp) fun x31 =>
    aj (cF (x31.length = s1.1.length) ()) fun (_ : Unit) =>
    some (.next (x31,(i64.wrap (s1.2.1 - s1.2.2)),s1.2.2)))
    (aj (cr s1.1 (i64.wrap (m - s1.2.1)) (i64.wrap ((i64.wrap (m + s1.2.2)) - s1.2.1)) s1.2.1 cmp) fun x46 =>
    aj (cF (x46.length = s1.1.length) ()) fun (_ : Unit) =>
    some (.next (x46,s1.2.1,(i64.wrap (s1.2.2 - s1.2.1))))))
   (some (.brk (s1.1,s1.2.1,s1.2.2)))) (data,(i64.wrap (m - a)),(i64.wrap (b - m)))) fun fl1=>fl1.thenP fun (s1 : Rz × Int × Int) =>
 aj (cr s1.1 (i64.wrap (m - s1.2.1)) m s1.2.1 cmp) fun x57 =>
 aj (cF (x57.length = s1.1.length) ()) fun (_ : Unit) =>
 some x57
theorem lY (g_data : OwnRef) {g_cmp : FuncId} {caps_cmp : List PV} (data : Rz) (a : Int) (m : Int) (b : Int) (cmp : Rq → Rq → Option (Int)) (hg_cmp : ∀ (vs : Array Value) (w : World),(callFunc g_cmp vs).run Tryz.prog w = .ok (.enter g_cmp vs) w) (hp_cmp : ∀ a0 a1 r,cmp a0 a1 = some r → aV Tryz.prog g_cmp ((.list 53 (a0.map ab)) :: (.list 53 (a1.map ab)) :: caps_cmp) (ae r)) (r : Rz) (H : cS data a m b cmp = some r) :
  PH Tryz.prog 211 [(.own 0 g_data (data.map (al 53 ab)).length),(ae a),(ae m),(ae b),(.fn g_cmp caps_cmp)] ⟨fun _=>none,upd (fun _=>none) 0 (some ⟨g_data,51,(data.map (al 53 ab)),true⟩)⟩ (fun u H=>u = (.tup []) ∧ H = ⟨fun _=>none,upd (fun _=>none) 0 (some ⟨g_data,51,(r.map (al 53 ab)),true⟩)⟩) := by
 unfold cS at H
 refine PH.aC Tryz.func211 Tryz.ntmps211 ?_
 refine aw 4 tk rfl (aw 4 tk rfl (ac ?_))
 obtain ⟨fl1,H1,Hp1⟩ := ax H
 refine aZ (τ := Rz × Int × Int) (γ := Unit) (fun s1 g1=>⟨58,upd (upd (upd (upd (fun _=>.any) 10 (ae s1.2.1)) 4 (.fn g_cmp caps_cmp)) 2 (ae m)) 0 (.own 0 g_data (s1.1.map (al 53 ab)).length),fun _=>none,upd (fun _=>none) 0 (some ⟨g_data,51,(s1.1.map (al 53 ab)),true⟩)⟩) (fun t=>fl1 = .next t) ?_ (fun s1 g1 hn1=>?_)
 ·refine az ?_
  refine cP (fun s1 g1=>⟨58,upd (upd (upd (upd (upd (fun _=>.any) 11 (ae s1.2.2)) 10 (ae s1.2.1)) 4 (.fn g_cmp caps_cmp)) 2 (ae m)) 0 (.own 0 g_data (s1.1.map (al 53 ab)).length),fun _=>none,upd (fun _=>none) 0 (some ⟨g_data,51,(s1.1.map (al 53 ab)),true⟩)⟩) () H1 (Gh.le (aa (aa (aa (aa (aa ak))))) ah (aA ai)) (fun m1 s1 g1 hr1=>?_)
  obtain ⟨fb1,H,hg1⟩ := cn hr1
  refine ac (aw 3 tk rfl ?_)
  refine aP rfl H (fun H=>?_) (fun H=>?_)
  ·refine av (az (aw 3 tk rfl ?_))
   refine aP rfl H (fun H=>?_) (fun H=>?_)
   ·refine ac (af (am 7 tk rfl ?_))
    obtain ⟨x31,h31,H⟩ := ax H
    have s31 := gB g_data s1.1 (i64.wrap (m - s1.2.1)) m s1.2.2 cmp hg_cmp hp_cmp _ h31
    obtain ⟨_,q31_0,H⟩ := ax H
    have l31_0 := (bI q31_0).1
    have z31_0 : (List.map (al 53 ab) s1.1).length = (List.map (al 53 ab) x31).length := by simpa using (l31_0).symm
    refine cf (g := 213) rfl rfl rfl Tryz.call213 [] [(0,0)] rfl rfl rfl rfl (jc.of2 (iw.cons (np.own rfl) (iw.cons (np.of_eq rfl) (iw.cons (np.of_eq rfl) (iw.cons (np.of_eq rfl) (iw.cons (np.of_eq rfl) iw.nil)))))) (by rw [bR,bL,bS]; rfl) s31 ?_
    rintro u31 H31h ⟨rfl,rfl⟩
    refine ⟨_,rfl,?_⟩
    refine cA (st' := ⟨_,_,fun _=>none,upd (fun _=>none) 0 (some ⟨g_data,51,(x31.map (al 53 ab)),true⟩)⟩) (Gh.le (bO _ _) ah (aA ai)) ?_
    refine ag (bh 4 tk rfl (aQ ?_))
    obtain rfl := ao H
    refine aK (x31,(i64.wrap (s1.2.1 - s1.2.2)),s1.2.2) () hg1 (Gh.le (aI (PLe.of2 (np.of_eq (congrArg (PV.own 0 g_data) z31_0))) (aa (aa (aa (aa ak))))) ah (aA ai))
   refine ac (af (am 11 tk rfl ?_))
   obtain ⟨x46,h46,H⟩ := ax H
   have s46 := gB g_data s1.1 (i64.wrap (m - s1.2.1)) (i64.wrap ((i64.wrap (m + s1.2.2)) - s1.2.1)) s1.2.1 cmp hg_cmp hp_cmp _ h46
   obtain ⟨_,q46_0,H⟩ := ax H
   have l46_0 := (bI q46_0).1
   have z46_0 : (List.map (al 53 ab) s1.1).length = (List.map (al 53 ab) x46).length := by simpa using (l46_0).symm
   refine cf (g := 213) rfl rfl rfl Tryz.call213 [] [(0,0)] rfl rfl rfl rfl (jc.of2 (iw.cons (np.own rfl) (iw.cons (np.of_eq rfl) (iw.cons (np.of_eq rfl) (iw.cons (np.of_eq rfl) (iw.cons (np.of_eq rfl) iw.nil)))))) (by rw [bR,bL,bS]; rfl) s46 ?_
   rintro u46 H46h ⟨rfl,rfl⟩
   refine ⟨_,rfl,?_⟩
   refine cA (st' := ⟨_,_,fun _=>none,upd (fun _=>none) 0 (some ⟨g_data,51,(x46.map (al 53 ab)),true⟩)⟩) (Gh.le (bO _ _) ah (aA ai)) ?_
   refine ag (bh 4 tk rfl (aQ ?_))
   obtain rfl := ao H
   refine aK (x46,s1.2.1,(i64.wrap (s1.2.2 - s1.2.1))) () hg1 (Gh.le (aI (PLe.of2 (np.of_eq (congrArg (PV.own 0 g_data) z46_0))) (aa (aa (aa (aa ak))))) ah (aA ai))
  refine aR rfl ?_
  obtain rfl := ao H
  refine aO (s1.1,s1.2.1,s1.2.2) () hg1 (Gh.le (aa (aa (aa (aa ak)))) ah (aA ai))
 have H := bq hn1 Hp1
 refine af (am 7 tk rfl ?_)
 obtain ⟨x57,h57,H⟩ := ax H
 have s57 := gB g_data s1.1 (i64.wrap (m - s1.2.1)) m s1.2.1 cmp hg_cmp hp_cmp _ h57
 obtain ⟨_,q57_0,H⟩ := ax H
 have l57_0 := (bI q57_0).1
 have z57_0 : (List.map (al 53 ab) s1.1).length = (List.map (al 53 ab) x57).length := by simpa using (l57_0).symm
 refine cf (g := 213) rfl rfl rfl Tryz.call213 [] [(0,0)] rfl rfl rfl rfl (jc.of2 (iw.cons (np.own rfl) (iw.cons (np.of_eq rfl) (iw.cons (np.of_eq rfl) (iw.cons (np.of_eq rfl) (iw.cons (np.of_eq rfl) iw.nil)))))) (by rw [bR,bL,bS]; rfl) s57 ?_
 rintro u57 H57h ⟨rfl,rfl⟩
 refine ⟨_,rfl,?_⟩
 refine cA (st' := ⟨_,_,fun _=>none,upd (fun _=>none) 0 (some ⟨g_data,51,(x57.map (al 53 ab)),true⟩)⟩) (Gh.le (bO _ _) ah (aA ai)) ?_
 refine ag ?_
 obtain rfl := ao H
 refine dN (st' := ⟨58,fun _=>.any,fun _=>none,upd (fun _=>none) 0 (some ⟨g_data,51,(x57.map (al 53 ab)),true⟩)⟩) (Gh.le ak ah (aA ai)) ?_
 refine iI rfl (PLe.q rfl) ⟨rfl,rfl⟩
def gz (t : LTable) (name : List UInt8) : Option (Int × Bool) :=
 aj (ce t.columns (fun a0=>some (ep a0 name))) fun x10 =>
 some ((if (0 : Int) > x10 then (0 : Int) else x10),(decide (x10 ≥ (0 : Int))))
theorem qq (t : LTable) (name : List UInt8) (r : Int × Bool) (H : gz t name = some r) :
  aV Tryz.prog 144 [(.agg (bA t)),(.str name)] (.tup [(ae r.1),(aE r.2)]) := by
 unfold gz at H
 refine PH.aC Tryz.func144 Tryz.ntmps144 ?_
 refine ac (af (aT ?_))
 refine aT ?_
 refine am 2 tk rfl (ag (ac (af (am 3 tk rfl ?_))))
 obtain ⟨x10,h10,H⟩ := ax H
 have s10 := eT t.columns (fun a0=>some (ep a0 name)) Tryz.call176 (fun a0 r h=>(ao h) ▸ pu a0 name) _ h10
 refine au Tryz.call43 (jc.r) s10 ?_
 refine aq tk rfl (ag (aw 6 tk rfl ?_))
 obtain rfl := ao H
 refine aB tk rfl (ps := [(ae (if (0 : Int) > x10 then (0 : Int) else x10)),(aE (decide (x10 ≥ (0 : Int))))]) ⟨_,_,rfl,rfl,_,_,rfl,rfl,rfl⟩ (PLe.q rfl)
def fX (sA : LSchema) (name : List UInt8) : Option (Int × Bool) :=
 aj (dm sA.tables (fun a0=>some (dD a0 name))) fun x10 =>
 some ((if (0 : Int) > x10 then (0 : Int) else x10),(decide (x10 ≥ (0 : Int))))
theorem kB (sA : LSchema) (name : List UInt8) (r : Int × Bool) (H : fX sA name = some r) :
  aV Tryz.prog 145 [(.agg (eA sA)),(.str name)] (.tup [(ae r.1),(aE r.2)]) := by
 unfold fX at H
 refine PH.aC Tryz.func145 Tryz.ntmps145 ?_
 refine ac (af (aT ?_))
 refine aT ?_
 refine am 2 tk rfl (ag (ac (af (am 3 tk rfl ?_))))
 obtain ⟨x10,h10,H⟩ := ax H
 have s10 := gV sA.tables (fun a0=>some (dD a0 name)) Tryz.call177 (fun a0 r h=>(ao h) ▸ qb a0 name) _ h10
 refine au Tryz.call153 (jc.r) s10 ?_
 refine aq tk rfl (ag (aw 6 tk rfl ?_))
 obtain rfl := ao H
 refine aB tk rfl (ps := [(ae (if (0 : Int) > x10 then (0 : Int) else x10)),(aE (decide (x10 ≥ (0 : Int))))]) ⟨_,_,rfl,rfl,_,_,rfl,rfl,rfl⟩ (PLe.q rfl)
def gN (a : LForeignKey) (b : LForeignKey) : Option (Bool) :=
 cond (a.table == b.table)
  (aj (gg a.columns b.columns) fun x15 =>
  cond x15
   (some (a.refTable == b.refTable))
   (some false))
  (some false)
theorem nz (a : LForeignKey) (b : LForeignKey) (r : Bool) (H : gN a b = some r) :
  aV Tryz.prog 102 [(.agg (cD a)),(.agg (cD b))] (aE r) := by
 unfold gN at H
 refine PH.aC Tryz.func102 Tryz.ntmps102 ?_
 refine ac (af (aT ?_))
 refine aT ?_
 refine aq tk rfl (ag (ac (af (am 6 tk rfl ?_))))
 refine bG rfl rfl rfl H (fun H=>?_) (fun H=>?_)
 ·refine am 4 tk rfl ?_
  obtain ⟨x15,h15,H⟩ := ax H
  have s15 := oD a.columns b.columns _ h15
  refine au Tryz.call147 (jc.r) s15 ?_
  refine am 2 tk rfl ?_
  refine bG rfl rfl rfl H (fun H=>?_) (fun H=>?_)
  ·refine am 7 tk rfl (ag ?_)
   obtain rfl := ao H
   refine aB tk rfl (ps := [(aE (a.refTable == b.refTable))]) ⟨_,_,rfl,rfl,rfl⟩ (PLe.q rfl)
  refine am 7 tk rfl (ag ?_)
  obtain rfl := ao H
  refine aB tk rfl (ps := [(aE false)]) ⟨_,_,rfl,rfl,rfl⟩ (PLe.q rfl)
 refine am 14 tk rfl (ag ?_)
 obtain rfl := ao H
 refine aB tk rfl (ps := [(aE false)]) ⟨_,_,rfl,rfl,rfl⟩ (PLe.q rfl)
def cw (sA : List LForeignKey) (f : LForeignKey → Option (Bool)) : Option (Bool) :=
 aj (dd sA f) fun x7 =>
 some (decide (x7 ≥ (0 : Int)))
theorem iF {g_f : FuncId} {caps_f : List PV} (sA : List LForeignKey) (f : LForeignKey → Option (Bool)) (hg_f : ∀ (vs : Array Value) (w : World),(callFunc g_f vs).run Tryz.prog w = .ok (.enter g_f vs) w) (hp_f : ∀ a0 r,f a0 = some r → aV Tryz.prog g_f ((.agg (cD a0)) :: caps_f) (aE r)) (r : Bool) (H : cw sA f = some r) :
  aV Tryz.prog 100 [(.list 142 (sA.map cD)),(.fn g_f caps_f)] (aE r) := by
 unfold cw at H
 refine PH.aC Tryz.func100 Tryz.ntmps100 ?_
 refine aw 1 tk rfl (ac (af (am 2 tk rfl ?_)))
 obtain ⟨x7,h7,H⟩ := ax H
 have s7 := iX sA f hg_f hp_f _ h7
 refine au Tryz.call146 (jc.r) s7 ?_
 refine am 2 tk rfl (ag ?_)
 obtain rfl := ao H
 refine aB tk rfl (ps := [(aE (decide (x7 ≥ (0 : Int))))]) ⟨_,_,rfl,rfl,rfl⟩ (PLe.q rfl)
def cI (sA : List LConstraint) (v : LConstraint) : Option (Bool) :=
 aj (dy sA v) fun x7 =>
 some (decide (x7 ≥ (0 : Int)))
theorem jk (sA : List LConstraint) (v : LConstraint) (r : Bool) (H : cI sA v = some r) :
  aV Tryz.prog 104 [(.list 148 (sA.map cN)),(.agg (cN v))] (aE r) := by
 unfold cI at H
 refine PH.aC Tryz.func104 Tryz.ntmps104 ?_
 refine ac (af (aT ?_))
 refine aq tk rfl (ag (ac (af (am 2 tk rfl ?_))))
 obtain ⟨x7,h7,H⟩ := ax H
 have s7 := jz sA v _ h7
 refine au Tryz.call149 (jc.r) s7 ?_
 refine am 2 tk rfl (ag ?_)
 obtain rfl := ao H
 refine aB tk rfl (ps := [(aE (decide (x7 ≥ (0 : Int))))]) ⟨_,_,rfl,rfl,rfl⟩ (PLe.q rfl)
def eX (x : Rq) (y : Rq) : Option (Int) :=
 aj (dv x y ([] : List Bool)) fun x7 =>
 some x7
theorem mT (x : Rq) (y : Rq) (r : Int) (H : eX x y = some r) :
  aV Tryz.prog 71 [(.list 53 (x.map ab)),(.list 53 (y.map ab))] (ae r) := by
 unfold eX at H
 refine PH.aC Tryz.func71 Tryz.ntmps71 ?_
 refine aw 1 tk rfl (ac (af (am 2 tk rfl ?_)))
 obtain ⟨x7,h7,H⟩ := ax H
 have s7 := mh x y ([] : List Bool) _ h7
 refine au Tryz.call72 (jc.of2 (iw.cons (np.of_eq rfl) (iw.cons (np.of_eq rfl) (iw.cons (np.nil tk rfl) iw.nil)))) s7 ?_
 refine aq tk rfl (ag ?_)
 obtain rfl := ao H
 refine aB tk rfl (ps := [(ae x7)]) ⟨_,_,rfl,rfl,rfl⟩ (PLe.q rfl)
def iy (x : Int) : Option (Int) :=
 aj (jP x) fun x7 =>
 some x7
theorem oL (x : Int) (r : Int) (H : iy x = some r) :
  aV Tryz.prog 93 [(.val (.int .u64 x))] (ae r) := by
 unfold iy at H
 refine PH.aC Tryz.func93 Tryz.ntmps93 ?_
 refine aw 1 tk rfl (ac (bH rfl (av (ac (af (aq tk rfl ?_))))))
 obtain ⟨x7,h7,H⟩ := ax H
 have s7 := ra x _ h7
 refine au Tryz.call123 (jc.r) s7 ?_
 refine aq tk rfl (ag ?_)
 obtain rfl := ao H
 refine aB tk rfl (ps := [(ae x7)]) ⟨_,_,rfl,rfl,rfl⟩ (PLe.q rfl)
def ef (data : Rz) (a : Int) (b : Int) (cmp : Rq → Rq → Option (Int)) : Option (Rz) :=
 aj (whileM (σ := Rz × Int) (ρ := Empty) (fun (s1 : Rz × Int) =>
  cond (decide (s1.2 ≥ (0 : Int)))
   (aj (dz s1.1 s1.2 (i64.wrap (b - a)) a cmp) fun x29 =>
   aj (cF (x29.length = s1.1.length) ()) fun (_ : Unit) =>
   some (.next (x29,(i64.wrap (s1.2 - (1 : Int))))))
   (some (.brk (s1.1,s1.2)))) (data,(i64.wrap (Int.tdiv (i64.wrap ((i64.wrap (b - a)) - (1 : Int))) (2 : Int))))) fun fl1=>fl1.thenP fun (s1 : Rz × Int) =>
 aj (whileM (σ := Rz × Int) (ρ := Empty) (fun (s2 : Rz × Int) =>
  cond (decide (s2.2 ≥ (0 : Int)))
   (aj (aF s2.1 (i64.wrap (a + s2.2))) fun (x46 : Rq) =>
   aj (aF s2.1 a) fun (x50 : Rq) =>
   aj (aF s2.1 a) fun (_ : Rq) =>
   bo (s2.1.set a.toNat x46) fun (y7 : Rz) =>
   aj (aF y7 (i64.wrap (a + s2.2))) fun (_ : Rq) =>
   bo (y7.set ((i64.wrap (a + s2.2)).toNat) x50) fun (y8 : Rz) =>
   aj (dz y8 0 s2.2 a cmp) fun x59 =>
   aj (cF (x59.length = y8.length) ()) fun (_ : Unit) =>
   some (.next (x59,(i64.wrap (s2.2 - (1 : Int))))))
   (some (.brk (s2.1,s2.2)))) (s1.1,(i64.wrap ((i64.wrap (b - a)) - (1 : Int))))) fun fl2=>fl2.thenP fun (s2 : Rz × Int) =>
 some s2.1
theorem lw (g_data : OwnRef) {g_cmp : FuncId} {caps_cmp : List PV} (data : Rz) (a : Int) (b : Int) (cmp : Rq → Rq → Option (Int)) (hg_cmp : ∀ (vs : Array Value) (w : World),(callFunc g_cmp vs).run Tryz.prog w = .ok (.enter g_cmp vs) w) (hp_cmp : ∀ a0 a1 r,cmp a0 a1 = some r → aV Tryz.prog g_cmp ((.list 53 (a0.map ab)) :: (.list 53 (a1.map ab)) :: caps_cmp) (ae r)) (r : Rz) (H : ef data a b cmp = some r) :
  PH Tryz.prog 115 [(.own 0 g_data (data.map (al 53 ab)).length),(ae a),(ae b),(.fn g_cmp caps_cmp)] ⟨fun _=>none,upd (fun _=>none) 0 (some ⟨g_data,51,(data.map (al 53 ab)),true⟩)⟩ (fun u H=>u = (.tup []) ∧ H = ⟨fun _=>none,upd (fun _=>none) 0 (some ⟨g_data,51,(r.map (al 53 ab)),true⟩)⟩) := by
 unfold ef at H
 refine PH.aC Tryz.func115 Tryz.ntmps115 ?_
 refine aw 2 tk rfl (aw 1 tk rfl (aw 4 tk rfl (ac (aw 4 tk rfl ?_))))
 obtain ⟨fl1,H1,Hp1⟩ := ax H
 refine aZ (τ := Rz × Int) (γ := Unit) (fun s1 g1=>⟨60,upd (upd (upd (upd (upd (fun _=>.any) 10 (ae (i64.wrap (b - a)))) 9 (ae 0)) 8 (ae a)) 3 (.fn g_cmp caps_cmp)) 0 (.own 0 g_data (s1.1.map (al 53 ab)).length),fun _=>none,upd (fun _=>none) 0 (some ⟨g_data,51,(s1.1.map (al 53 ab)),true⟩)⟩) (fun t=>fl1 = .next t) ?_ (fun s1 g1 hn1=>?_)
 ·refine az ?_
  refine cP (fun s1 g1=>⟨60,upd (upd (upd (upd (upd (upd (fun _=>.any) 11 (ae s1.2)) 10 (ae (i64.wrap (b - a)))) 9 (ae 0)) 8 (ae a)) 3 (.fn g_cmp caps_cmp)) 0 (.own 0 g_data (s1.1.map (al 53 ab)).length),fun _=>none,upd (fun _=>none) 0 (some ⟨g_data,51,(s1.1.map (al 53 ab)),true⟩)⟩) () H1 (Gh.le (aa (aa (aa (aa (aa (aa ak)))))) ah (aA ai)) (fun m1 s1 g1 hr1=>?_)
  obtain ⟨fb1,H,hg1⟩ := cn hr1
  refine ac (aw 2 tk rfl ?_)
  refine aP rfl H (fun H=>?_) (fun H=>?_)
  ·refine av (ac (az (af (am 5 tk rfl ?_))))
   obtain ⟨x29,h29,H⟩ := ax H
   have s29 := ja g_data s1.1 s1.2 (i64.wrap (b - a)) a cmp hg_cmp hp_cmp _ h29
   obtain ⟨_,q29_0,H⟩ := ax H
   have l29_0 := (bI q29_0).1
   have z29_0 : (List.map (al 53 ab) s1.1).length = (List.map (al 53 ab) x29).length := by simpa using (l29_0).symm
   refine cf (g := 160) rfl rfl rfl Tryz.call160 [] [(0,0)] rfl rfl rfl rfl (jc.of2 (iw.cons (np.own rfl) (iw.cons (np.of_eq rfl) (iw.cons (np.of_eq rfl) (iw.cons (np.of_eq rfl) (iw.cons (np.of_eq rfl) iw.nil)))))) (by rw [bR,bL,bS]; rfl) s29 ?_
   rintro u29 H29h ⟨rfl,rfl⟩
   refine ⟨_,rfl,?_⟩
   refine cA (st' := ⟨_,_,fun _=>none,upd (fun _=>none) 0 (some ⟨g_data,51,(x29.map (al 53 ab)),true⟩)⟩) (Gh.le (bO _ _) ah (aA ai)) ?_
   refine ag (aQ (bh 3 tk rfl ?_))
   obtain rfl := ao H
   refine aK (x29,(i64.wrap (s1.2 - (1 : Int)))) () hg1 (Gh.le (aI (PLe.of2 (np.of_eq (congrArg (PV.own 0 g_data) z29_0))) (aa (aa (aa (aa (aa ak)))))) ah (aA ai))
  refine aR rfl ?_
  obtain rfl := ao H
  refine aO (s1.1,s1.2) () hg1 (Gh.le (aa (aa (aa (aa (aa ak))))) ah (aA ai))
 have H := bq hn1 Hp1
 refine aw 3 tk rfl ?_
 obtain ⟨fl2,H2,Hp2⟩ := ax H
 refine aZ (τ := Rz × Int) (γ := Unit) (fun s2 g2=>⟨60,upd (fun _=>.any) 0 (.own 0 g_data (s2.1.map (al 53 ab)).length),fun _=>none,upd (fun _=>none) 0 (some ⟨g_data,51,(s2.1.map (al 53 ab)),true⟩)⟩) (fun t=>fl2 = .next t) ?_ (fun s2 g2 hn2=>?_)
 ·refine az ?_
  refine cP (fun s2 g2=>⟨60,upd (upd (upd (upd (upd (fun _=>.any) 12 (ae s2.2)) 9 (ae 0)) 8 (ae a)) 3 (.fn g_cmp caps_cmp)) 0 (.own 0 g_data (s2.1.map (al 53 ab)).length),fun _=>none,upd (fun _=>none) 0 (some ⟨g_data,51,(s2.1.map (al 53 ab)),true⟩)⟩) () H2 (Gh.le (aa (aa (aa (aa (aa ak))))) ah (aA ai)) (fun m2 s2 g2 hr2=>?_)
  obtain ⟨fb2,H,hg2⟩ := cn hr2
  refine ac (aw 2 tk rfl ?_)
  refine aP rfl H (fun H=>?_) (fun H=>?_)
  ·refine av (ac (az (ac ?_)))
   refine cZ (tag := 0) rfl (fun ho0=>?_)
   refine bl tk mok ⟨false,true,[]⟩ [0,1,2,3,4,5,6,7,8,9,10,11,12,13,14,15,16,17,18,19] rfl (by decide +kernel) rfl (aJ 10 rfl ?_)
   obtain ⟨x46,k46,H⟩ := aW H
   refine aS tk ⟨k46.1,(bm k46.2)⟩ (bn ho0 k46.2) ?_
   refine bf tk (aH (fun _=>rfl) k46.2) ?_
   refine aJ 2 rfl ?_
   obtain ⟨x50,k50,H⟩ := aW H
   refine aS tk ⟨k50.1,(bm k50.2)⟩ (bn ho0 k50.2) ?_
   refine bf tk (aH (fun _=>rfl) k50.2) ?_
   obtain ⟨x52,k52,H⟩ := aW H
   refine aS tk ⟨k52.1,(bm k52.2)⟩ (bn ho0 k52.2) ?_
   obtain ⟨y7,hy7,H⟩ := bK H
   refine cj tk rfl rfl rfl rfl rfl rfl rfl rfl rfl (by rw [zl]; exact (zg.1 k52.2).1) (PLe.refl _ _) rfl rfl rfl rfl (by decide) (bM (fun _=>rfl) k52.2 rfl hy7) ?_
   obtain ⟨x53,k53,H⟩ := aW H
   refine aS tk ⟨k53.1,(gq (br (f := (al 53 ab)) hy7) k53.2)⟩ (gw ho0 (br (f := (al 53 ab)) hy7) k53.2) ?_
   obtain ⟨y8,hy8,H⟩ := bK H
   refine cj tk rfl rfl rfl rfl rfl rfl rfl rfl rfl (by rw [zl]; exact (zg.1 k53.2).1) (PLe.refl _ _) rfl rfl rfl rfl (by decide) (bM (fun _=>rfl) k53.2 rfl hy8) ?_
   refine be (af (am 5 tk rfl ?_))
   obtain ⟨x59,h59,H⟩ := ax H
   have s59 := ja g_data y8 0 s2.2 a cmp hg_cmp hp_cmp _ h59
   obtain ⟨_,q59_0,H⟩ := ax H
   have l59_0 := (bI q59_0).1
   have z59_0 : (List.map (al 53 ab) y8).length = (List.map (al 53 ab) x59).length := by simpa using (l59_0).symm
   refine cf (g := 160) rfl rfl rfl Tryz.call160 [] [(0,0)] rfl rfl rfl rfl (jc.of2 (iw.cons (np.own ((br (f := (al 53 ab)) hy7).trans (br (f := (al 53 ab)) hy8))) (iw.cons (np.of_eq rfl) (iw.cons (np.of_eq rfl) (iw.cons (np.of_eq rfl) (iw.cons (np.of_eq rfl) iw.nil)))))) (by rw [bR,bL,bS]; rfl) s59 ?_
   rintro u59 H59h ⟨rfl,rfl⟩
   refine ⟨_,rfl,?_⟩
   refine cA (st' := ⟨_,_,fun _=>none,upd (fun _=>none) 0 (some ⟨g_data,51,(x59.map (al 53 ab)),true⟩)⟩) (Gh.le (bO _ _) ah (aA ai)) ?_
   refine ag (aQ (bh 3 tk rfl ?_))
   obtain rfl := ao H
   refine aK (x59,(i64.wrap (s2.2 - (1 : Int)))) () hg2 (Gh.le (aI (PLe.of2 (np.of_eq (congrArg (PV.own 0 g_data) (((br (f := (al 53 ab)) hy7).trans (br (f := (al 53 ab)) hy8)).trans z59_0)))) (aa (aa (aa (aa ak))))) ah (aA ai))
  refine aR rfl ?_
  obtain rfl := ao H
  refine aO (s2.1,s2.2) () hg2 (Gh.le (aa ak) ah (aA ai))
 have H := bq hn2 Hp2
 obtain rfl := ao H
 refine dN (st' := ⟨60,fun _=>.any,fun _=>none,upd (fun _=>none) 0 (some ⟨g_data,51,(s2.1.map (al 53 ab)),true⟩)⟩) (Gh.le ak ah (aA ai)) ?_
 refine iI rfl (PLe.q rfl) ⟨rfl,rfl⟩
def dO (data : Rz) (a : Int) (b : Int) (c : Int) (swaps : Int) (cmp : Rq → Rq → Option (Int)) : Option (Int × Rz × Int) :=
 aj (dh data a b swaps cmp) fun x19 =>
 aj (cF (x19.2.2.1.length = data.length) ()) fun (_ : Unit) =>
 aj (dh x19.2.2.1 x19.2.1 c x19.2.2.2 cmp) fun x28 =>
 aj (cF (x28.2.2.1.length = x19.2.2.1.length) ()) fun (_ : Unit) =>
 aj (dh x28.2.2.1 x19.1 x28.1 x28.2.2.2 cmp) fun x37 =>
 aj (cF (x37.2.2.1.length = x28.2.2.1.length) ()) fun (_ : Unit) =>
 some (x37.2.1,x37.2.2.1,x37.2.2.2)
theorem ju (g_data : OwnRef) (b_swaps : Nat) {g_cmp : FuncId} {caps_cmp : List PV} (data : Rz) (a : Int) (b : Int) (c : Int) (swaps : Int) (cmp : Rq → Rq → Option (Int)) (hg_cmp : ∀ (vs : Array Value) (w : World),(callFunc g_cmp vs).run Tryz.prog w = .ok (.enter g_cmp vs) w) (hp_cmp : ∀ a0 a1 r,cmp a0 a1 = some r → aV Tryz.prog g_cmp ((.list 53 (a0.map ab)) :: (.list 53 (a1.map ab)) :: caps_cmp) (ae r)) (r : Int × Rz × Int) (H : dO data a b c swaps cmp = some r) :
  PH Tryz.prog 164 [(.own 0 g_data (data.map (al 53 ab)).length),(ae a),(ae b),(ae c),(.box 1504 b_swaps 0),(.fn g_cmp caps_cmp)] ⟨upd (fun _=>none) 1504 (some ⟨b_swaps,[(ae swaps)]⟩),upd (fun _=>none) 0 (some ⟨g_data,51,(data.map (al 53 ab)),true⟩)⟩ (fun u H=>u = (ae r.1) ∧ H = ⟨upd (fun _=>none) 1504 (some ⟨b_swaps,[(ae r.2.2)]⟩),upd (fun _=>none) 0 (some ⟨g_data,51,(r.2.1.map (al 53 ab)),true⟩)⟩) := by
 unfold dO at H
 refine PH.aC Tryz.func164 Tryz.ntmps164 ?_
 refine aw 1 tk rfl (ac (af (am 5 tk rfl ?_)))
 obtain ⟨x19,h19,H⟩ := ax H
 have s19 := gP g_data b_swaps data a b swaps cmp hg_cmp hp_cmp _ h19
 obtain ⟨_,q19_0,H⟩ := ax H
 have l19_0 := (bI q19_0).1
 have z19_0 : (List.map (al 53 ab) data).length = (List.map (al 53 ab) x19.2.2.1).length := by simpa using (l19_0).symm
 refine cf (g := 184) rfl rfl rfl Tryz.call184 [(1504,1503)] [(0,0)] rfl rfl rfl rfl (jc.of2 (iw.cons (np.own rfl) (iw.cons (np.of_eq rfl) (iw.cons (np.of_eq rfl) (iw.cons np.boxT (iw.cons (np.of_eq rfl) iw.nil)))))) (by rw [dE,bR,bL,bS]; rfl) s19 ?_
 rintro u19 H19h ⟨rfl,rfl⟩
 refine ⟨_,rfl,?_⟩
 refine cA (st' := ⟨_,_,upd (fun _=>none) 1504 (some ⟨b_swaps,[(ae x19.2.2.2)]⟩),upd (fun _=>none) 0 (some ⟨g_data,51,(x19.2.2.1.map (al 53 ab)),true⟩)⟩) (Gh.le (bO _ _) (ay rfl (jc.r) ah) (aA ai)) ?_
 refine am 5 tk rfl (ag (ac (af (am 5 tk rfl ?_))))
 obtain ⟨x28,h28,H⟩ := ax H
 have s28 := gP g_data b_swaps x19.2.2.1 x19.2.1 c x19.2.2.2 cmp hg_cmp hp_cmp _ h28
 obtain ⟨_,q28_0,H⟩ := ax H
 have l28_0 := (bI q28_0).1
 have z28_0 : (List.map (al 53 ab) x19.2.2.1).length = (List.map (al 53 ab) x28.2.2.1).length := by simpa using (l28_0).symm
 refine cf (g := 184) rfl rfl rfl Tryz.call184 [(1504,1503)] [(0,0)] rfl rfl rfl rfl (jc.of2 (iw.cons (np.own z19_0) (iw.cons (np.of_eq rfl) (iw.cons (np.of_eq rfl) (iw.cons np.boxT (iw.cons (np.of_eq rfl) iw.nil)))))) (by rw [dE,bR,bL,bS]; rfl) s28 ?_
 rintro u28 H28h ⟨rfl,rfl⟩
 refine ⟨_,rfl,?_⟩
 refine cA (st' := ⟨_,_,upd (fun _=>none) 1504 (some ⟨b_swaps,[(ae x28.2.2.2)]⟩),upd (fun _=>none) 0 (some ⟨g_data,51,(x28.2.2.1.map (al 53 ab)),true⟩)⟩) (Gh.le (bO _ _) (ay rfl (jc.r) ah) (aA ai)) ?_
 refine am 5 tk rfl (ag (ac (af (am 5 tk rfl ?_))))
 obtain ⟨x37,h37,H⟩ := ax H
 have s37 := gP g_data b_swaps x28.2.2.1 x19.1 x28.1 x28.2.2.2 cmp hg_cmp hp_cmp _ h37
 obtain ⟨_,q37_0,H⟩ := ax H
 have l37_0 := (bI q37_0).1
 have z37_0 : (List.map (al 53 ab) x28.2.2.1).length = (List.map (al 53 ab) x37.2.2.1).length := by simpa using (l37_0).symm
 refine cf (g := 184) rfl rfl rfl Tryz.call184 [(1504,1503)] [(0,0)] rfl rfl rfl rfl (jc.of2 (iw.cons (np.own (z19_0.trans z28_0)) (iw.cons (np.of_eq rfl) (iw.cons (np.of_eq rfl) (iw.cons np.boxT (iw.cons (np.of_eq rfl) iw.nil)))))) (by rw [dE,bR,bL,bS]; rfl) s37 ?_
 rintro u37 H37h ⟨rfl,rfl⟩
 refine ⟨_,rfl,?_⟩
 refine cA (st' := ⟨_,_,upd (fun _=>none) 1504 (some ⟨b_swaps,[(ae x37.2.2.2)]⟩),upd (fun _=>none) 0 (some ⟨g_data,51,(x37.2.2.1.map (al 53 ab)),true⟩)⟩) (Gh.le (bO _ _) (ay rfl (jc.r) ah) (aA ai)) ?_
 refine am 5 tk rfl (ag (aw 2 tk rfl ?_))
 obtain rfl := ao H
 refine dN (st' := ⟨41,upd (fun _=>.any) 12 (ae x37.2.1),upd (fun _=>none) 1504 (some ⟨b_swaps,[(ae x37.2.2.2)]⟩),upd (fun _=>none) 0 (some ⟨g_data,51,(x37.2.2.1.map (al 53 ab)),true⟩)⟩) (Gh.le (aa ak) (ay rfl (jc.r) ah) (aA ai)) ?_
 refine eZ tk rfl (ps := [(ae x37.2.1)]) ⟨_,_,rfl,rfl,rfl⟩ (PLe.q rfl) ⟨rfl,rfl⟩
def il (x : Rq) (y : Rq) : Option (Bool) :=
 aj (cY x y) fun x7 =>
 some x7
theorem qB (x : Rq) (y : Rq) (r : Bool) (H : il x y = some r) :
  aV Tryz.prog 74 [(.list 53 (x.map ab)),(.list 53 (y.map ab))] (aE r) := by
 unfold il at H
 refine PH.aC Tryz.func74 Tryz.ntmps74 ?_
 refine aw 1 tk rfl (ac (af (am 2 tk rfl ?_)))
 obtain ⟨x7,h7,H⟩ := ax H
 have s7 := gG x y _ h7
 refine au Tryz.call24 (jc.r) s7 ?_
 refine aq tk rfl (ag ?_)
 obtain rfl := ao H
 refine aB tk rfl (ps := [(aE x7)]) ⟨_,_,rfl,rfl,rfl⟩ (PLe.q rfl)
def dQ (kinds : List Int) (c0 : LQuery) : Option (Bool) :=
 aj (fv kinds c0.kind) fun x7 =>
 some x7
theorem fK (kinds : List Int) (c0 : LQuery) (r : Bool) (H : dQ kinds c0 = some r) :
  aV Tryz.prog 151 [(.list 3 (kinds.map bJ)),(.ptr (bD c0))] (aE r) := by
 unfold dQ at H
 refine PH.aC Tryz.func151 Tryz.ntmps151 ?_
 refine aw 1 tk rfl (ac (af (am 3 tk rfl ?_)))
 obtain ⟨x7,h7,H⟩ := ax H
 have s7 := nr kinds c0.kind _ h7
 refine au Tryz.call152 (jc.r) s7 ?_
 refine aq tk rfl (ag ?_)
 obtain rfl := ao H
 refine aB tk rfl (ps := [(aE x7)]) ⟨_,_,rfl,rfl,rfl⟩ (PLe.q rfl)
def fB (q : LQuery) (args : Rq) : Option (Int) :=
 aj (fE q) fun x11 =>
 cond (x11.2 != (0 : Int))
  (some x11.2)
  (cond (decide ((args.length : Int) < (x11.1.length : Int)))
   (some 1)
   (aj (ba (σ := Unit) (ρ := (Int)) (fun (j1 : Nat) (x1 : Int) (_ : Unit) =>
    aj (aF args (j1 : Int)) fun (x31 : LVal) =>
    bo (eW x31) fun x33 =>
    cond (!x33)
     (some (.ret 7))
     (cond (x1 != (0 : Int))
      (aj (aF args (j1 : Int)) fun (x41 : LVal) =>
      cond (x41.kind != x1)
       (aj (aF args (j1 : Int)) fun (x50 : LVal) =>
       cond (x50.kind != (0 : Int))
        (some (.ret 7))
        (some (.next ())))
       (some (.next ())))
      (some (.next ())))) 0 x11.1 ()) fun fl1=>fl1.thenR fun (_ : Unit) =>
   some 0))
theorem lc (q : LQuery) (args : Rq) (r : Int) (H : fB q args = some r) :
  aV Tryz.prog 53 [(.agg (bD q)),(.list 53 (args.map ab))] (ae r) := by
 unfold fB at H
 refine PH.aC Tryz.func53 Tryz.ntmps53 ?_
 refine ac (af (aT ?_))
 refine aq tk rfl (ag (ac (af (aq tk rfl ?_))))
 obtain ⟨x11,h11,H⟩ := ax H
 have s11 := lf q _ h11
 refine au Tryz.call87 (jc.r) s11 ?_
 refine am 5 tk rfl (ag (ac (aw 2 tk rfl ?_)))
 refine aP rfl H (fun H=>?_) (fun H=>?_)
 ·refine aw 2 tk rfl ?_
  obtain rfl := ao H
  refine aB tk rfl (ps := [(ae x11.2)]) ⟨_,_,rfl,rfl,rfl⟩ (PLe.q rfl)
 refine av (ac (ac (af (aq tk rfl (aN tk (zl _) ?_)))))
 refine aq tk rfl (aN tk (zl _) ?_)
 refine aq tk rfl (ag ?_)
 refine aP rfl H (fun H=>?_) (fun H=>?_)
 ·refine aw 1 tk rfl ?_
  obtain rfl := ao H
  refine aB tk rfl (ps := [(ae 1)]) ⟨_,_,rfl,rfl,rfl⟩ (PLe.q rfl)
 refine av (ac (ac (af (aq tk rfl (aN tk (zl _) ?_)))))
 refine aq tk rfl (ag ?_)
 obtain ⟨fl1,H1,Hp1⟩ := ax H
 refine bU tk 22 rfl rfl (fun hz1 _=>?_)
 rw [zl] at hz1
 refine aZ (τ := Unit) (γ := Unit) (fun s1 g1=>⟨57,fun _=>.any,fun _=>none,fun _=>none⟩) (fun t=>fl1 = .next t) ?_ (fun s1 g1 hn1=>?_)
 ·refine az ?_
  refine bF (fun j1 s1 g1=>⟨57,upd (upd (upd (upd (fun _=>.any) 24 (ae (j1 : Int))) 23 (ae (x11.1.length : Int))) 22 (.list 3 (x11.1.map bJ))) 1 (.list 53 (args.map ab)),fun _=>none,fun _=>none⟩) () H1 (Gh.le (aa (aa (aa (aa ak)))) ah ai) (fun j1 s1 g1 hj1 hr1=>?_)
  refine aw 1 tk rfl (ac ?_)
  refine aY rfl (fun h=>?_) (fun h=>?_)
  ·have hl1 := cp h
   obtain ⟨x1,fb1,hx1,H,hg1⟩ := rMc hl1 hr1
   refine av (ac (az (ac (af (aq tk rfl ?_)))))
   refine bt tk (zn j1) (bQ (fun _=>rfl) hx1) ?_
   refine am 3 tk rfl (ag (ac (af (am 2 tk rfl ?_))))
   obtain ⟨x31,k31,H⟩ := aW H
   refine bt tk k31.1 (aH (fun _=>rfl) k31.2) ?_
   refine aq tk rfl ?_
   obtain ⟨x33,h33,H⟩ := bK H
   have s33 := rn x31
   rw [h33] at s33
   refine au Tryz.call20 (jc.r) s33 ?_
   refine am 2 tk rfl ?_
   refine bG rfl rfl rfl H (fun H=>?_) (fun H=>?_)
   ·refine am 20 tk rfl (ag (cv rfl (aw 1 tk rfl ?_)))
    obtain rfl := ao H
    have e1 : fl1 = .ret _ := hg1
    subst e1
    obtain rfl := bj Hp1
    refine aB tk rfl (ps := [(ae 7)]) ⟨_,_,rfl,rfl,rfl⟩ (PLe.q rfl)
   refine am 3 tk rfl ?_
   refine bG rfl rfl rfl H (fun H=>?_) (fun H=>?_)
   ·refine am 2 tk rfl ?_
    obtain ⟨x41,k41,H⟩ := aW H
    refine bt tk k41.1 (aH (fun _=>rfl) k41.2) ?_
    refine am 6 tk rfl ?_
    refine bG rfl rfl rfl H (fun H=>?_) (fun H=>?_)
    ·refine am 2 tk rfl ?_
     obtain ⟨x50,k50,H⟩ := aW H
     refine bt tk k50.1 (aH (fun _=>rfl) k50.2) ?_
     refine am 5 tk rfl (ag ?_)
     refine aP rfl H (fun H=>?_) (fun H=>?_)
     ·refine aw 1 tk rfl ?_
      obtain rfl := ao H
      have e1 : fl1 = .ret _ := hg1
      subst e1
      obtain rfl := bj Hp1
      refine aB tk rfl (ps := [(ae 7)]) ⟨_,_,rfl,rfl,rfl⟩ (PLe.q rfl)
     refine av (aQ (bh 2 tk rfl ?_))
     obtain rfl := ao H
     refine aK () () ⟨hl1,hg1⟩ (Gh.le (aa (aa (aa (aI (PLe.q (aU (by omega))) ak)))) ah ai)
    refine am 8 tk rfl (ag (bH rfl (av (aQ (bh 2 tk rfl ?_)))))
    obtain rfl := ao H
    refine aK () () ⟨hl1,hg1⟩ (Gh.le (aa (aa (aa (aI (PLe.q (aU (by omega))) ak)))) ah ai)
   refine am 17 tk rfl (ag (bH rfl (av (aQ (bh 2 tk rfl ?_)))))
   obtain rfl := ao H
   refine aK () () ⟨hl1,hg1⟩ (Gh.le (aa (aa (aa (aI (PLe.q (aU (by omega))) ak)))) ah ai)
  have hn1 := rMd (cq h) hr1
  refine aR rfl ?_
  refine aO s1 g1 hn1 (Gh.le ak ah ai)
 have H := ck hn1 Hp1
 refine aw 1 tk rfl ?_
 obtain rfl := ao H
 refine aB tk rfl (ps := [(ae 0)]) ⟨_,_,rfl,rfl,rfl⟩ (PLe.q rfl)
def jA (a : LVal) (b : LVal) : Int :=
 bo (gA a.kind b.kind) fun x11 =>
 cond (x11 != (0 : Int))
  (x11)
  (bo (gA a.int b.int) fun x19 =>
  cond (x19 != (0 : Int))
   (x19)
   (bo (jQ a.text b.text) fun x27 =>
   x27))
theorem oX (a : LVal) (b : LVal) :
  aV Tryz.prog 106 [(.agg (ab a)),(.agg (ab b))] (ae (jA a b)) := by
 obtain ⟨r,H⟩ : ∃ r,jA a b = r := ⟨_,rfl⟩
 rw [H]
 unfold jA at H
 refine PH.aC Tryz.func106 Tryz.ntmps106 ?_
 refine ac (af (aT ?_))
 refine aT ?_
 refine aq tk rfl (ag (ac (ac (af (am 4 tk rfl ?_)))))
 obtain ⟨x11,h11,H⟩ := bK H
 have s11 := ku a.kind b.kind
 rw [h11] at s11
 refine au Tryz.call107 (jc.r) s11 ?_
 refine aq tk rfl (ag (aw 2 tk rfl ?_))
 refine aP rfl H (fun H=>?_) (fun H=>?_)
 ·refine aw 2 tk rfl ?_
  subst H
  refine aB tk rfl (ps := [(ae x11)]) ⟨_,_,rfl,rfl,rfl⟩ (PLe.q rfl)
 refine av (ac (ac (af (am 4 tk rfl ?_))))
 obtain ⟨x19,h19,H⟩ := bK H
 have s19 := ku a.int b.int
 rw [h19] at s19
 refine au Tryz.call107 (jc.r) s19 ?_
 refine aq tk rfl (ag (aw 2 tk rfl ?_))
 refine aP rfl H (fun H=>?_) (fun H=>?_)
 ·refine aw 2 tk rfl ?_
  subst H
  refine aB tk rfl (ps := [(ae x19)]) ⟨_,_,rfl,rfl,rfl⟩ (PLe.q rfl)
 refine av (ac (af (am 4 tk rfl ?_)))
 obtain ⟨x27,h27,H⟩ := bK H
 have s27 := rh a.text b.text
 rw [h27] at s27
 refine au Tryz.call150 (jc.r) s27 ?_
 refine aq tk rfl (ag ?_)
 subst H
 refine aB tk rfl (ps := [(ae x27)]) ⟨_,_,rfl,rfl,rfl⟩ (PLe.q rfl)
def kL (a : Rz) (b : Rz) : Option (Rz) :=
 aj (ba (σ := Rz × Rz) (ρ := Empty) (fun (_ : Nat) (x1 : Rq) (s1 : Rz × Rz) =>
  aj (cd s1.1 (fun a0=>iW a0 x1)) fun x20 =>
  aj (cF (x20.2.length = s1.1.length) ()) fun (_ : Unit) =>
  cond (decide (x20.1 ≥ (0 : Int)))
   (aj (delI x20.2 x20.1 (i64.wrap (x20.1 + (1 : Int)))) fun x27 =>
   some (.next (x27,s1.2)))
   (aj (ee 24 s1.2 ([x1] : Rz)) fun (x31 : Rz) =>
   some (.next (x20.2,x31)))) 0 a (b,[])) fun fl1=>fl1.thenP fun (s1 : Rz × Rz) =>
 some s1.2
theorem W_query_less (a : Rz) (b : Rz) (r : Rz) (H : kL a b = some r) :
  aV Tryz.prog 133 [(.list 51 (a.map (al 53 ab))),(.list 51 (b.map (al 53 ab)))] (.list 51 (r.map (al 53 ab))) := by
 unfold kL at H
 refine PH.aC Tryz.func133 Tryz.ntmps133 ?_
 refine aw 1 tk rfl (ac (af (aq tk rfl ?_)))
 have s11 := mE (m := 11) b
 refine lz (g := 21) rfl rfl rfl Tryz.call21 (jc.r) rfl rfl s11 (fun g11=>?_)
 refine aq tk rfl (ag (aw 1 tk rfl (ac (ac (af (aq tk rfl (aN tk (zl _) ?_)))))))
 refine aq tk rfl (ag ?_)
 obtain ⟨fl1,H1,Hp1⟩ := ax H
 refine bU tk 12 rfl rfl (fun hz1 _=>?_)
 rw [zl] at hz1
 refine aZ (τ := Rz × Rz) (γ := OwnRef × OwnRef) (fun s1 g1=>⟨34,upd (fun _=>.any) 6 (.own 31 g1.2 (s1.2.map (al 53 ab)).length),fun _=>none,upd (fun _=>none) 31 (some ⟨g1.2,51,(s1.2.map (al 53 ab)),true⟩)⟩) (fun t=>fl1 = .next t) ?_ (fun s1 g1 hn1=>?_)
 ·refine az (jb tk 6 31 (e := 51) rfl rfl ?_)
  refine bF (fun j1 s1 g1=>⟨34,upd (upd (upd (upd (upd (fun _=>.any) 14 (ae (j1 : Int))) 13 (ae (a.length : Int))) 12 (.list 51 (a.map (al 53 ab)))) 6 (.own 31 g1.2 (s1.2.map (al 53 ab)).length)) 5 (.own 11 g1.1 (s1.1.map (al 53 ab)).length),fun _=>none,upd (upd (fun _=>none) 31 (some ⟨g1.2,51,(s1.2.map (al 53 ab)),true⟩)) 11 (some ⟨g1.1,51,(s1.1.map (al 53 ab)),true⟩)⟩) (g11,⟨none,0⟩) H1 (Gh.le (aa (aa (aa (aa (aa ak))))) ah (aA (aA ai))) (fun j1 s1 g1 hj1 hr1=>?_)
  refine aw 1 tk rfl (ac ?_)
  refine aY rfl (fun h=>?_) (fun h=>?_)
  ·have hl1 := cp h
   obtain ⟨x1,fb1,hx1,H,hg1⟩ := rMc hl1 hr1
   refine av (ac (az (ac (af ?_))))
   refine bt tk (zn j1) (bQ (fun _=>rfl) hx1) ?_
   refine aq tk rfl ?_
   refine bv tk fun b8=>?_
   refine aD tk ?_
   refine ag (ac (ac (af (aq tk rfl (cA (Gh.freezeB 8 rfl rfl rfl rfl) (aq tk rfl ?_))))))
   obtain ⟨x20,h20,H⟩ := ax H
   have s20 := fM g1.1 s1.1 (fun a0=>iW a0 x1) Tryz.call169 (fun a0 r h=>W_query_less_1 a0 x1 r h) _ h20
   obtain ⟨_,q20_0,H⟩ := ax H
   have l20_0 := (bI q20_0).1
   have z20_0 : (List.map (al 53 ab) s1.1).length = (List.map (al 53 ab) x20.2).length := by simpa using (l20_0).symm
   refine cf (g := 22) rfl rfl rfl Tryz.call22 [] [(11,0)] rfl rfl rfl rfl (jc.of2 (iw.cons (np.own rfl) (iw.cons (np.of_eq rfl) iw.nil))) (by rw [bR,bL,bS]; rfl) s20 ?_
   rintro u20 H20h ⟨rfl,rfl⟩
   refine ⟨_,rfl,?_⟩
   refine cA (st' := ⟨_,_,fun _=>none,upd (upd (fun _=>none) 31 (some ⟨g1.2,51,(s1.2.map (al 53 ab)),true⟩)) 11 (some ⟨g1.1,51,(x20.2.map (al 53 ab)),true⟩)⟩) (Gh.le (bO _ _) ah (aA (aA ai))) ?_
   refine aq tk rfl (ag (aw 2 tk rfl ?_))
   refine aP rfl H (fun H=>?_) (fun H=>?_)
   ·refine ac (af (am 4 tk rfl ?_))
    obtain ⟨x27,h27,H⟩ := ax H
    have s27 := W_delete_25 g1.1 x20.2 x20.1 (i64.wrap (x20.1 + (1 : Int))) _ h27
    refine cf (g := 25) rfl rfl rfl Tryz.call25 [] [(11,0)] rfl rfl rfl rfl (jc.of2 (iw.cons (np.own z20_0) (iw.cons (np.of_eq rfl) (iw.cons (np.of_eq rfl) iw.nil)))) (by rw [bR,bL,bS]; rfl) s27 ?_
    rintro u27 H27h ⟨rfl,rfl⟩
    refine ⟨_,rfl,?_⟩
    refine cA (st' := ⟨_,_,fun _=>none,upd (upd (fun _=>none) 31 (some ⟨g1.2,51,(s1.2.map (al 53 ab)),true⟩)) 11 (some ⟨g1.1,51,(x27.map (al 53 ab)),true⟩)⟩) (Gh.le (bO _ _) ah (aA (aA ai))) ?_
    refine lF 27 (q := (.own 11 g1.1 (x27.map (al 53 ab)).length)) rfl (PLe.of2 (np.own rfl)) (aq tk rfl (ag (aR rfl (bh 2 tk rfl ?_))))
    obtain rfl := ao H
    refine aK (x27,s1.2) (g1.1,g1.2) ⟨hl1,hg1⟩ (Gh.le (aa (aa (aa (aa (aI (PLe.q (aU (by omega))) ak))))) ah (aA (aA ai)))
   refine av (af (am 2 tk rfl (cO tk (rows' := List.map (al 53 ab) ([x1] : Rz)) (gk.refl _) ?_)))
   obtain ⟨x31,h31,H⟩ := ax H
   have k31 := dw h31
   refine dr (rows2' := List.map (al 53 ab) ([x1] : Rz)) (rows' := List.map (al 53 ab) x31) tk rfl rfl rfl rfl rfl rfl rfl rfl rfl rfl rfl rfl rfl (gk.refl _) (eK k31.1) (eN k31.2.1) (eR k31.2.2) fun g31=>?_
   refine aq tk rfl (ag (aQ (bh 2 tk rfl ?_)))
   obtain rfl := ao H
   refine aK (x20.2,x31) (g1.1,g31) ⟨hl1,hg1⟩ (Gh.le (aI (PLe.of2 (np.of_eq (congrArg (PV.own 11 g1.1) z20_0))) (aa (aa (aa (aI (PLe.q (aU (by omega))) ak))))) ah (aA (aA ai)))
  have hn1 := rMd (cq h) hr1
  refine aR rfl ?_
  refine aO s1 g1 hn1 (Gh.le (aa ak) ah (aA ai))
 have H := bq hn1 Hp1
 refine aw 2 tk rfl ?_
 obtain rfl := ao H
 refine el 4 rfl rfl rfl ?_
 refine aB tk rfl (ps := [(.list 51 (s1.2.map (al 53 ab)))]) ⟨_,_,rfl,rfl,rfl⟩ (PLe.q rfl)
def cG (rec204 : Rz → Int → Int → Int → Option (Rz)) (data : Rz) (a : Int) (m : Int) (b : Int) (cmp : Rq → Rq → Option (Int)) : Option (Rz) :=
 cond ((i64.wrap (m - a)) == (1 : Int))
  (aj (whileM (σ := Rz × Int × Int) (ρ := Empty) (fun (s1 : Rz × Int × Int) =>
   cond (decide (s1.2.1 < s1.2.2))
    (aj (aF s1.1 (i64.wrap (Int.fdiv (IntKind.u64.wrap (i64.wrap (s1.2.1 + s1.2.2))) (2 ^ 1)))) fun (x43 : Rq) =>
    aj (aF s1.1 a) fun (x47 : Rq) =>
    aj (cmp x43 x47) fun x49 =>
    cond (decide (x49 < (0 : Int)))
     (some (.next (s1.1,(i64.wrap ((i64.wrap (Int.fdiv (IntKind.u64.wrap (i64.wrap (s1.2.1 + s1.2.2))) (2 ^ 1))) + (1 : Int))),s1.2.2)))
     (some (.next (s1.1,s1.2.1,(i64.wrap (Int.fdiv (IntKind.u64.wrap (i64.wrap (s1.2.1 + s1.2.2))) (2 ^ 1)))))))
    (some (.brk (s1.1,s1.2.1,s1.2.2)))) (data,m,b)) fun fl1=>fl1.thenP fun (s1 : Rz × Int × Int) =>
  aj (whileM (σ := Rz × Int) (ρ := Empty) (fun (s2 : Rz × Int) =>
   cond (decide (s2.2 < (i64.wrap (s1.2.1 - (1 : Int)))))
    (aj (aF s2.1 (i64.wrap (s2.2 + (1 : Int)))) fun (x69 : Rq) =>
    aj (aF s2.1 s2.2) fun (x73 : Rq) =>
    aj (aF s2.1 s2.2) fun (_ : Rq) =>
    bo (s2.1.set s2.2.toNat x69) fun (y7 : Rz) =>
    aj (aF y7 (i64.wrap (s2.2 + (1 : Int)))) fun (_ : Rq) =>
    bo (y7.set ((i64.wrap (s2.2 + (1 : Int))).toNat) x73) fun (y8 : Rz) =>
    some (.next (y8,(i64.wrap (s2.2 + (1 : Int))))))
    (some (.brk (s2.1,s2.2)))) (s1.1,a)) fun fl2=>fl2.thenP fun (s2 : Rz × Int) =>
  some s2.1)
  (cond ((i64.wrap (b - m)) == (1 : Int))
   (aj (whileM (σ := Rz × Int × Int) (ρ := Empty) (fun (s9 : Rz × Int × Int) =>
    cond (decide (s9.2.1 < s9.2.2))
     (aj (aF s9.1 m) fun (x95 : Rq) =>
     aj (aF s9.1 (i64.wrap (Int.fdiv (IntKind.u64.wrap (i64.wrap (s9.2.1 + s9.2.2))) (2 ^ 1)))) fun (x99 : Rq) =>
     aj (cmp x95 x99) fun x101 =>
     cond (!(decide (x101 < (0 : Int))))
      (some (.next (s9.1,(i64.wrap ((i64.wrap (Int.fdiv (IntKind.u64.wrap (i64.wrap (s9.2.1 + s9.2.2))) (2 ^ 1))) + (1 : Int))),s9.2.2)))
      (some (.next (s9.1,s9.2.1,(i64.wrap (Int.fdiv (IntKind.u64.wrap (i64.wrap (s9.2.1 + s9.2.2))) (2 ^ 1)))))))
     (some (.brk (s9.1,s9.2.1,s9.2.2)))) (data,a,m)) fun fl9=>fl9.thenP fun (s9 : Rz × Int × Int) =>
   aj (whileM (σ := Rz × Int) (ρ := Empty) (fun (s10 : Rz × Int) =>
    cond (decide (s10.2 > s9.2.1))
     (aj (aF s10.1 (i64.wrap (s10.2 - (1 : Int)))) fun (x121 : Rq) =>
     aj (aF s10.1 s10.2) fun (x125 : Rq) =>
     aj (aF s10.1 s10.2) fun (_ : Rq) =>
     bo (s10.1.set s10.2.toNat x121) fun (y15 : Rz) =>
     aj (aF y15 (i64.wrap (s10.2 - (1 : Int)))) fun (_ : Rq) =>
     bo (y15.set ((i64.wrap (s10.2 - (1 : Int))).toNat) x125) fun (y16 : Rz) =>
     some (.next (y16,(i64.wrap (s10.2 - (1 : Int))))))
     (some (.brk (s10.1,s10.2)))) (s9.1,m)) fun fl10=>fl10.thenP fun (s10 : Rz × Int) =>
   some s10.1)
   (bo (
    cond (decide (m > (i64.wrap (Int.fdiv (IntKind.u64.wrap (i64.wrap (a + b))) (2 ^ 1)))))
     ((data,(i64.wrap ((i64.wrap ((i64.wrap (Int.fdiv (IntKind.u64.wrap (i64.wrap (a + b))) (2 ^ 1))) + m)) - b)),(i64.wrap (Int.fdiv (IntKind.u64.wrap (i64.wrap (a + b))) (2 ^ 1)))))
     ((data,a,m))) fun (t17 : Rz × Int × Int) =>
   aj (whileM (σ := Rz × Int × Int) (ρ := Empty) (fun (s18 : Rz × Int × Int) =>
    cond (decide (s18.2.1 < s18.2.2))
     (aj (aF s18.1 (i64.wrap ((i64.wrap ((i64.wrap ((i64.wrap (Int.fdiv (IntKind.u64.wrap (i64.wrap (a + b))) (2 ^ 1))) + m)) - (1 : Int))) - (i64.wrap (Int.fdiv (IntKind.u64.wrap (i64.wrap (s18.2.1 + s18.2.2))) (2 ^ 1)))))) fun (x163 : Rq) =>
     aj (aF s18.1 (i64.wrap (Int.fdiv (IntKind.u64.wrap (i64.wrap (s18.2.1 + s18.2.2))) (2 ^ 1)))) fun (x167 : Rq) =>
     aj (cmp x163 x167) fun x169 =>
     cond (!(decide (x169 < (0 : Int))))
      (some (.next (s18.1,(i64.wrap ((i64.wrap (Int.fdiv (IntKind.u64.wrap (i64.wrap (s18.2.1 + s18.2.2))) (2 ^ 1))) + (1 : Int))),s18.2.2)))
      (some (.next (s18.1,s18.2.1,(i64.wrap (Int.fdiv (IntKind.u64.wrap (i64.wrap (s18.2.1 + s18.2.2))) (2 ^ 1)))))))
     (some (.brk (s18.1,s18.2.1,s18.2.2)))) (t17.1,t17.2.1,t17.2.2)) fun fl18=>fl18.thenP fun (s18 : Rz × Int × Int) =>
   bo (
    cond (decide (s18.2.1 < m))
     ((s18.1,(decide (m < (i64.wrap ((i64.wrap ((i64.wrap (Int.fdiv (IntKind.u64.wrap (i64.wrap (a + b))) (2 ^ 1))) + m)) - s18.2.1))))))
     ((s18.1,false))) fun (t19 : Rz × Bool) =>
   aj (
    cond t19.2
     (aj (cS t19.1 s18.2.1 m (i64.wrap ((i64.wrap ((i64.wrap (Int.fdiv (IntKind.u64.wrap (i64.wrap (a + b))) (2 ^ 1))) + m)) - s18.2.1)) cmp) fun x191 =>
     aj (cF (x191.length = t19.1.length) ()) fun (_ : Unit) =>
     some x191)
     (some t19.1)) fun (t20 : Rz) =>
   bo (
    cond (decide (a < s18.2.1))
     ((t20,(decide (s18.2.1 < (i64.wrap (Int.fdiv (IntKind.u64.wrap (i64.wrap (a + b))) (2 ^ 1)))))))
     ((t20,false))) fun (t21 : Rz × Bool) =>
   aj (
    cond t21.2
     (aj (rec204 t21.1 a s18.2.1 (i64.wrap (Int.fdiv (IntKind.u64.wrap (i64.wrap (a + b))) (2 ^ 1)))) fun x205 =>
     aj (cF (x205.length = t21.1.length) ()) fun (_ : Unit) =>
     some x205)
     (some t21.1)) fun (t22 : Rz) =>
   cond (decide ((i64.wrap (Int.fdiv (IntKind.u64.wrap (i64.wrap (a + b))) (2 ^ 1))) < (i64.wrap ((i64.wrap ((i64.wrap (Int.fdiv (IntKind.u64.wrap (i64.wrap (a + b))) (2 ^ 1))) + m)) - s18.2.1))))
    (cond (decide ((i64.wrap ((i64.wrap ((i64.wrap (Int.fdiv (IntKind.u64.wrap (i64.wrap (a + b))) (2 ^ 1))) + m)) - s18.2.1)) < b))
     (aj (rec204 t22 (i64.wrap (Int.fdiv (IntKind.u64.wrap (i64.wrap (a + b))) (2 ^ 1))) (i64.wrap ((i64.wrap ((i64.wrap (Int.fdiv (IntKind.u64.wrap (i64.wrap (a + b))) (2 ^ 1))) + m)) - s18.2.1)) b) fun x219 =>
     aj (cF (x219.length = t22.length) ()) fun (_ : Unit) =>
     some x219)
     (some t22))
    (some t22)))
theorem lg (g_data : OwnRef) {g_cmp : FuncId} {caps_cmp : List PV} (rec204 : Rz → Int → Int → Int → Option (Rz)) (hrec204 : ∀ g0 a0 a1 a2 a3 r,rec204 a0 a1 a2 a3 = some r → PH Tryz.prog 204 [(.own 0 g0 (a0.map (al 53 ab)).length),(ae a1),(ae a2),(ae a3),(.fn g_cmp caps_cmp)] ⟨fun _=>none,upd (fun _=>none) 0 (some ⟨g0,51,(a0.map (al 53 ab)),true⟩)⟩ (fun u H=>u = (.tup []) ∧ H = ⟨fun _=>none,upd (fun _=>none) 0 (some ⟨g0,51,(r.map (al 53 ab)),true⟩)⟩)) (data : Rz) (a : Int) (m : Int) (b : Int) (cmp : Rq → Rq → Option (Int)) (hg_cmp : ∀ (vs : Array Value) (w : World),(callFunc g_cmp vs).run Tryz.prog w = .ok (.enter g_cmp vs) w) (hp_cmp : ∀ a0 a1 r,cmp a0 a1 = some r → aV Tryz.prog g_cmp ((.list 53 (a0.map ab)) :: (.list 53 (a1.map ab)) :: caps_cmp) (ae r)) (r : Rz) (H : cG rec204 data a m b cmp = some r) :
  PH Tryz.prog 204 [(.own 0 g_data (data.map (al 53 ab)).length),(ae a),(ae m),(ae b),(.fn g_cmp caps_cmp)] ⟨fun _=>none,upd (fun _=>none) 0 (some ⟨g_data,51,(data.map (al 53 ab)),true⟩)⟩ (fun u H=>u = (.tup []) ∧ H = ⟨fun _=>none,upd (fun _=>none) 0 (some ⟨g_data,51,(r.map (al 53 ab)),true⟩)⟩) := by
 unfold cG at H
 refine PH.aC Tryz.func204 Tryz.ntmps204 ?_
 refine ac (aw 4 tk rfl ?_)
 refine aP rfl H (fun H=>?_) (fun H=>?_)
 ·refine aw 2 tk rfl (aw 2 tk rfl (ac ?_))
  obtain ⟨fl1,H1,Hp1⟩ := ax H
  refine aZ (τ := Rz × Int × Int) (γ := Unit) (fun s1 g1=>⟨220,upd (upd (upd (fun _=>.any) 10 (ae s1.2.1)) 1 (ae a)) 0 (.own 0 g_data (s1.1.map (al 53 ab)).length),fun _=>none,upd (fun _=>none) 0 (some ⟨g_data,51,(s1.1.map (al 53 ab)),true⟩)⟩) (fun t=>fl1 = .next t) ?_ (fun s1 g1 hn1=>?_)
  ·refine az ?_
   refine cP (fun s1 g1=>⟨220,upd (upd (upd (upd (upd (fun _=>.any) 11 (ae s1.2.2)) 10 (ae s1.2.1)) 4 (.fn g_cmp caps_cmp)) 1 (ae a)) 0 (.own 0 g_data (s1.1.map (al 53 ab)).length),fun _=>none,upd (fun _=>none) 0 (some ⟨g_data,51,(s1.1.map (al 53 ab)),true⟩)⟩) () H1 (Gh.le (aa (aa (aa (aa (aa ak))))) ah (aA ai)) (fun m1 s1 g1 hr1=>?_)
   obtain ⟨fb1,H,hg1⟩ := cn hr1
   refine ac (aw 3 tk rfl ?_)
   refine aP rfl H (fun H=>?_) (fun H=>?_)
   ·refine av (az (ac (af (am 4 tk rfl (ox (m := 1) rfl rfl rfl rfl (by decide) rfl rfl (am 2 tk rfl (ag (ac ?_))))))))
    refine cZ (tag := 0) rfl (fun ho0=>?_)
    refine bl tk mok ⟨false,true,[]⟩ [0,1,2,3,4,5,6,7,8,9,10] rfl (by decide +kernel) rfl (aJ 3 rfl ?_)
    obtain ⟨x43,k43,H⟩ := aW H
    refine aS tk ⟨k43.1,(bm k43.2)⟩ (bn ho0 k43.2) ?_
    refine bf tk (aH (fun _=>rfl) k43.2) ?_
    refine aJ 2 rfl ?_
    obtain ⟨x47,k47,H⟩ := aW H
    refine aS tk ⟨k47.1,(bm k47.2)⟩ (bn ho0 k47.2) ?_
    refine bf tk (aH (fun _=>rfl) k47.2) ?_
    obtain ⟨x49,h49,H⟩ := ax H
    refine bg hg_cmp (jc.r) (hp_cmp _ _ _ h49) ?_
    refine cC rfl (be ?_)
    refine aP rfl H (fun H=>?_) (fun H=>?_)
    ·refine bh 3 tk rfl (aQ ?_)
     obtain rfl := ao H
     refine aK (s1.1,(i64.wrap ((i64.wrap (Int.fdiv (IntKind.u64.wrap (i64.wrap (s1.2.1 + s1.2.2))) (2 ^ 1))) + (1 : Int))),s1.2.2) () hg1 (Gh.le (aa (aa (aa (aa (aa ak))))) ah (aA ai))
    refine bh 2 tk rfl (aQ ?_)
    obtain rfl := ao H
    refine aK (s1.1,s1.2.1,(i64.wrap (Int.fdiv (IntKind.u64.wrap (i64.wrap (s1.2.1 + s1.2.2))) (2 ^ 1)))) () hg1 (Gh.le (aa (aa (aa (aa (aa ak))))) ah (aA ai))
   refine aR rfl ?_
   obtain rfl := ao H
   refine aO (s1.1,s1.2.1,s1.2.2) () hg1 (Gh.le (aa (aa (aa ak))) ah (aA ai))
  have H := bq hn1 Hp1
  refine ac (aw 2 tk rfl ?_)
  obtain ⟨fl2,H2,Hp2⟩ := ax H
  refine aZ (τ := Rz × Int) (γ := Unit) (fun s2 g2=>⟨220,upd (fun _=>.any) 0 (.own 0 g_data (s2.1.map (al 53 ab)).length),fun _=>none,upd (fun _=>none) 0 (some ⟨g_data,51,(s2.1.map (al 53 ab)),true⟩)⟩) (fun t=>fl2 = .next t) ?_ (fun s2 g2 hn2=>?_)
  ·refine az ?_
   refine cP (fun s2 g2=>⟨220,upd (upd (upd (fun _=>.any) 13 (ae s2.2)) 10 (ae s1.2.1)) 0 (.own 0 g_data (s2.1.map (al 53 ab)).length),fun _=>none,upd (fun _=>none) 0 (some ⟨g_data,51,(s2.1.map (al 53 ab)),true⟩)⟩) () H2 (Gh.le (aa (aa (aa ak))) ah (aA ai)) (fun m2 s2 g2 hr2=>?_)
   obtain ⟨fb2,H,hg2⟩ := cn hr2
   refine ac (aw 4 tk rfl ?_)
   refine aP rfl H (fun H=>?_) (fun H=>?_)
   ·refine av (ac (az ?_))
    refine cZ (tag := 0) rfl (fun ho0=>?_)
    refine bl tk mok ⟨false,true,[]⟩ [0,1,2,3,4,5,6,7,8,9,10,11,12,13,14,15,16,17] rfl (by decide +kernel) rfl (aJ 8 rfl ?_)
    obtain ⟨x69,k69,H⟩ := aW H
    refine aS tk ⟨k69.1,(bm k69.2)⟩ (bn ho0 k69.2) ?_
    refine bf tk (aH (fun _=>rfl) k69.2) ?_
    refine aJ 2 rfl ?_
    obtain ⟨x73,k73,H⟩ := aW H
    refine aS tk ⟨k73.1,(bm k73.2)⟩ (bn ho0 k73.2) ?_
    refine bf tk (aH (fun _=>rfl) k73.2) ?_
    obtain ⟨x75,k75,H⟩ := aW H
    refine aS tk ⟨k75.1,(bm k75.2)⟩ (bn ho0 k75.2) ?_
    obtain ⟨y7,hy7,H⟩ := bK H
    refine cj tk rfl rfl rfl rfl rfl rfl rfl rfl rfl (by rw [zl]; exact (zg.1 k75.2).1) (PLe.refl _ _) rfl rfl rfl rfl (by decide) (bM (fun _=>rfl) k75.2 rfl hy7) ?_
    obtain ⟨x76,k76,H⟩ := aW H
    refine aS tk ⟨k76.1,(gq (br (f := (al 53 ab)) hy7) k76.2)⟩ (gw ho0 (br (f := (al 53 ab)) hy7) k76.2) ?_
    obtain ⟨y8,hy8,H⟩ := bK H
    refine cj tk rfl rfl rfl rfl rfl rfl rfl rfl rfl (by rw [zl]; exact (zg.1 k76.2).1) (PLe.refl _ _) rfl rfl rfl rfl (by decide) (bM (fun _=>rfl) k76.2 rfl hy8) ?_
    refine be (aQ (bh 3 tk rfl ?_))
    obtain rfl := ao H
    refine aK (y8,(i64.wrap (s2.2 + (1 : Int)))) () hg2 (Gh.le (aI (PLe.of2 (np.of_eq (congrArg (PV.own 0 g_data) ((br (f := (al 53 ab)) hy7).trans (br (f := (al 53 ab)) hy8))))) (aa (aa ak))) ah (aA ai))
   refine aR rfl ?_
   obtain rfl := ao H
   refine aO (s2.1,s2.2) () hg2 (Gh.le (aa ak) ah (aA ai))
  have H := bq hn2 Hp2
  obtain rfl := ao H
  refine dN (st' := ⟨220,fun _=>.any,fun _=>none,upd (fun _=>none) 0 (some ⟨g_data,51,(s2.1.map (al 53 ab)),true⟩)⟩) (Gh.le ak ah (aA ai)) ?_
  refine eZ tk rfl (ps := []) rfl (PLe.q rfl) ⟨rfl,rfl⟩
 refine av (ac (aw 4 tk rfl ?_))
 refine aP rfl H (fun H=>?_) (fun H=>?_)
 ·refine aw 2 tk rfl (aw 2 tk rfl (ac ?_))
  obtain ⟨fl9,H9,Hp9⟩ := ax H
  refine aZ (τ := Rz × Int × Int) (γ := Unit) (fun s9 g9=>⟨220,upd (upd (upd (fun _=>.any) 14 (ae s9.2.1)) 2 (ae m)) 0 (.own 0 g_data (s9.1.map (al 53 ab)).length),fun _=>none,upd (fun _=>none) 0 (some ⟨g_data,51,(s9.1.map (al 53 ab)),true⟩)⟩) (fun t=>fl9 = .next t) ?_ (fun s9 g9 hn9=>?_)
  ·refine az ?_
   refine cP (fun s9 g9=>⟨220,upd (upd (upd (upd (upd (fun _=>.any) 15 (ae s9.2.2)) 14 (ae s9.2.1)) 4 (.fn g_cmp caps_cmp)) 2 (ae m)) 0 (.own 0 g_data (s9.1.map (al 53 ab)).length),fun _=>none,upd (fun _=>none) 0 (some ⟨g_data,51,(s9.1.map (al 53 ab)),true⟩)⟩) () H9 (Gh.le (aa (aa (aa (aa (aa ak))))) ah (aA ai)) (fun m9 s9 g9 hr9=>?_)
   obtain ⟨fb9,H,hg9⟩ := cn hr9
   refine ac (aw 3 tk rfl ?_)
   refine aP rfl H (fun H=>?_) (fun H=>?_)
   ·refine av (az (ac (af (am 4 tk rfl (ox (m := 1) rfl rfl rfl rfl (by decide) rfl rfl (am 2 tk rfl (ag (ac ?_))))))))
    refine cZ (tag := 0) rfl (fun ho0=>?_)
    refine bl tk mok ⟨false,true,[]⟩ [0,1,2,3,4,5,6,7,8,9,10,11] rfl (by decide +kernel) rfl (aJ 3 rfl ?_)
    obtain ⟨x95,k95,H⟩ := aW H
    refine aS tk ⟨k95.1,(bm k95.2)⟩ (bn ho0 k95.2) ?_
    refine bf tk (aH (fun _=>rfl) k95.2) ?_
    refine aJ 2 rfl ?_
    obtain ⟨x99,k99,H⟩ := aW H
    refine aS tk ⟨k99.1,(bm k99.2)⟩ (bn ho0 k99.2) ?_
    refine bf tk (aH (fun _=>rfl) k99.2) ?_
    obtain ⟨x101,h101,H⟩ := ax H
    refine bg hg_cmp (jc.r) (hp_cmp _ _ _ h101) ?_
    refine aJ 2 rfl (be ?_)
    refine aP rfl H (fun H=>?_) (fun H=>?_)
    ·refine bh 3 tk rfl (aQ ?_)
     obtain rfl := ao H
     refine aK (s9.1,(i64.wrap ((i64.wrap (Int.fdiv (IntKind.u64.wrap (i64.wrap (s9.2.1 + s9.2.2))) (2 ^ 1))) + (1 : Int))),s9.2.2) () hg9 (Gh.le (aa (aa (aa (aa (aa ak))))) ah (aA ai))
    refine bh 2 tk rfl (aQ ?_)
    obtain rfl := ao H
    refine aK (s9.1,s9.2.1,(i64.wrap (Int.fdiv (IntKind.u64.wrap (i64.wrap (s9.2.1 + s9.2.2))) (2 ^ 1)))) () hg9 (Gh.le (aa (aa (aa (aa (aa ak))))) ah (aA ai))
   refine aR rfl ?_
   obtain rfl := ao H
   refine aO (s9.1,s9.2.1,s9.2.2) () hg9 (Gh.le (aa (aa (aa ak))) ah (aA ai))
  have H := bq hn9 Hp9
  refine ac (aw 2 tk rfl ?_)
  obtain ⟨fl10,H10,Hp10⟩ := ax H
  refine aZ (τ := Rz × Int) (γ := Unit) (fun s10 g10=>⟨220,upd (fun _=>.any) 0 (.own 0 g_data (s10.1.map (al 53 ab)).length),fun _=>none,upd (fun _=>none) 0 (some ⟨g_data,51,(s10.1.map (al 53 ab)),true⟩)⟩) (fun t=>fl10 = .next t) ?_ (fun s10 g10 hn10=>?_)
  ·refine az ?_
   refine cP (fun s10 g10=>⟨220,upd (upd (upd (fun _=>.any) 17 (ae s10.2)) 14 (ae s9.2.1)) 0 (.own 0 g_data (s10.1.map (al 53 ab)).length),fun _=>none,upd (fun _=>none) 0 (some ⟨g_data,51,(s10.1.map (al 53 ab)),true⟩)⟩) () H10 (Gh.le (aa (aa (aa ak))) ah (aA ai)) (fun m10 s10 g10 hr10=>?_)
   obtain ⟨fb10,H,hg10⟩ := cn hr10
   refine ac (aw 3 tk rfl ?_)
   refine aP rfl H (fun H=>?_) (fun H=>?_)
   ·refine av (ac (az ?_))
    refine cZ (tag := 0) rfl (fun ho0=>?_)
    refine bl tk mok ⟨false,true,[]⟩ [0,1,2,3,4,5,6,7,8,9,10,11,12,13,14,15,16,17] rfl (by decide +kernel) rfl (aJ 8 rfl ?_)
    obtain ⟨x121,k121,H⟩ := aW H
    refine aS tk ⟨k121.1,(bm k121.2)⟩ (bn ho0 k121.2) ?_
    refine bf tk (aH (fun _=>rfl) k121.2) ?_
    refine aJ 2 rfl ?_
    obtain ⟨x125,k125,H⟩ := aW H
    refine aS tk ⟨k125.1,(bm k125.2)⟩ (bn ho0 k125.2) ?_
    refine bf tk (aH (fun _=>rfl) k125.2) ?_
    obtain ⟨x127,k127,H⟩ := aW H
    refine aS tk ⟨k127.1,(bm k127.2)⟩ (bn ho0 k127.2) ?_
    obtain ⟨y15,hy15,H⟩ := bK H
    refine cj tk rfl rfl rfl rfl rfl rfl rfl rfl rfl (by rw [zl]; exact (zg.1 k127.2).1) (PLe.refl _ _) rfl rfl rfl rfl (by decide) (bM (fun _=>rfl) k127.2 rfl hy15) ?_
    obtain ⟨x128,k128,H⟩ := aW H
    refine aS tk ⟨k128.1,(gq (br (f := (al 53 ab)) hy15) k128.2)⟩ (gw ho0 (br (f := (al 53 ab)) hy15) k128.2) ?_
    obtain ⟨y16,hy16,H⟩ := bK H
    refine cj tk rfl rfl rfl rfl rfl rfl rfl rfl rfl (by rw [zl]; exact (zg.1 k128.2).1) (PLe.refl _ _) rfl rfl rfl rfl (by decide) (bM (fun _=>rfl) k128.2 rfl hy16) ?_
    refine be (aQ (bh 3 tk rfl ?_))
    obtain rfl := ao H
    refine aK (y16,(i64.wrap (s10.2 - (1 : Int)))) () hg10 (Gh.le (aI (PLe.of2 (np.of_eq (congrArg (PV.own 0 g_data) ((br (f := (al 53 ab)) hy15).trans (br (f := (al 53 ab)) hy16))))) (aa (aa ak))) ah (aA ai))
   refine aR rfl ?_
   obtain rfl := ao H
   refine aO (s10.1,s10.2) () hg10 (Gh.le (aa ak) ah (aA ai))
  have H := bq hn10 Hp10
  obtain rfl := ao H
  refine dN (st' := ⟨220,fun _=>.any,fun _=>none,upd (fun _=>none) 0 (some ⟨g_data,51,(s10.1.map (al 53 ab)),true⟩)⟩) (Gh.le ak ah (aA ai)) ?_
  refine eZ tk rfl (ps := []) rfl (PLe.q rfl) ⟨rfl,rfl⟩
 refine av (ac (af (am 4 tk rfl (ox (m := 1) rfl rfl rfl rfl (by decide) rfl rfl (am 2 tk rfl (ag (aw 4 tk rfl (aw 2 tk rfl (ac (aw 3 tk rfl ?_))))))))))
 obtain ⟨fl17,H17,Hp17⟩ := bK H
 refine aZ (τ := Rz × Int × Int) (γ := Unit) (fun t17 g17=>⟨220,upd (upd (upd (upd (upd (upd (upd (upd (upd (fun _=>.any) 21 (ae t17.2.2)) 20 (ae t17.2.1)) 19 (ae (i64.wrap ((i64.wrap (Int.fdiv (IntKind.u64.wrap (i64.wrap (a + b))) (2 ^ 1))) + m)))) 18 (ae (i64.wrap (Int.fdiv (IntKind.u64.wrap (i64.wrap (a + b))) (2 ^ 1))))) 4 (.fn g_cmp caps_cmp)) 3 (ae b)) 2 (ae m)) 1 (ae a)) 0 (.own 0 g_data (t17.1.map (al 53 ab)).length),fun _=>none,upd (fun _=>none) 0 (some ⟨g_data,51,(t17.1.map (al 53 ab)),true⟩)⟩) (fun t=>t = fl17) ?_ (fun t17 g17 hn17=>?_)
 ·have H := H17
  refine aP rfl H (fun H=>?_) (fun H=>?_)
  ·refine aw 4 tk rfl (bh 2 tk rfl ?_)
   subst H
   refine aO (data,(i64.wrap ((i64.wrap ((i64.wrap (Int.fdiv (IntKind.u64.wrap (i64.wrap (a + b))) (2 ^ 1))) + m)) - b)),(i64.wrap (Int.fdiv (IntKind.u64.wrap (i64.wrap (a + b))) (2 ^ 1)))) () rfl (Gh.le (aa (aa (aa (aa (aa (aa (aa (aa (aa ak))))))))) ah (aA ai))
  refine aw 2 tk rfl (bh 2 tk rfl ?_)
  subst H
  refine aO (data,a,m) () rfl (Gh.le (aa (aa (aa (aa (aa (aa (aa (aa (aa ak))))))))) ah (aA ai))
 subst hn17
 have H := Hp17
 refine aw 3 tk rfl (ac ?_)
 obtain ⟨fl18,H18,Hp18⟩ := ax H
 refine aZ (τ := Rz × Int × Int) (γ := Unit) (fun s18 g18=>⟨220,upd (upd (upd (upd (upd (upd (upd (upd (fun _=>.any) 20 (ae s18.2.1)) 19 (ae (i64.wrap ((i64.wrap (Int.fdiv (IntKind.u64.wrap (i64.wrap (a + b))) (2 ^ 1))) + m)))) 18 (ae (i64.wrap (Int.fdiv (IntKind.u64.wrap (i64.wrap (a + b))) (2 ^ 1))))) 4 (.fn g_cmp caps_cmp)) 3 (ae b)) 2 (ae m)) 1 (ae a)) 0 (.own 0 g_data (s18.1.map (al 53 ab)).length),fun _=>none,upd (fun _=>none) 0 (some ⟨g_data,51,(s18.1.map (al 53 ab)),true⟩)⟩) (fun t=>fl18 = .next t) ?_ (fun s18 g18 hn18=>?_)
 ·refine az ?_
  refine cP (fun s18 g18=>⟨220,upd (upd (upd (upd (upd (upd (upd (upd (upd (upd (fun _=>.any) 22 (ae (i64.wrap ((i64.wrap ((i64.wrap (Int.fdiv (IntKind.u64.wrap (i64.wrap (a + b))) (2 ^ 1))) + m)) - (1 : Int))))) 21 (ae s18.2.2)) 20 (ae s18.2.1)) 19 (ae (i64.wrap ((i64.wrap (Int.fdiv (IntKind.u64.wrap (i64.wrap (a + b))) (2 ^ 1))) + m)))) 18 (ae (i64.wrap (Int.fdiv (IntKind.u64.wrap (i64.wrap (a + b))) (2 ^ 1))))) 4 (.fn g_cmp caps_cmp)) 3 (ae b)) 2 (ae m)) 1 (ae a)) 0 (.own 0 g_data (s18.1.map (al 53 ab)).length),fun _=>none,upd (fun _=>none) 0 (some ⟨g_data,51,(s18.1.map (al 53 ab)),true⟩)⟩) () H18 (Gh.le (aa (aa (aa (aa (aa (aa (aa (aa (aa (aa ak)))))))))) ah (aA ai)) (fun m18 s18 g18 hr18=>?_)
  obtain ⟨fb18,H,hg18⟩ := cn hr18
  refine ac (aw 3 tk rfl ?_)
  refine aP rfl H (fun H=>?_) (fun H=>?_)
  ·refine av (az (ac (af (am 4 tk rfl (ox (m := 1) rfl rfl rfl rfl (by decide) rfl rfl (am 2 tk rfl (ag (ac ?_))))))))
   refine cZ (tag := 0) rfl (fun ho0=>?_)
   refine bl tk mok ⟨false,true,[]⟩ [0,1,2,3,4,5,6,7,8,9,10,11,12,13] rfl (by decide +kernel) rfl (aJ 5 rfl ?_)
   obtain ⟨x163,k163,H⟩ := aW H
   refine aS tk ⟨k163.1,(bm k163.2)⟩ (bn ho0 k163.2) ?_
   refine bf tk (aH (fun _=>rfl) k163.2) ?_
   refine aJ 2 rfl ?_
   obtain ⟨x167,k167,H⟩ := aW H
   refine aS tk ⟨k167.1,(bm k167.2)⟩ (bn ho0 k167.2) ?_
   refine bf tk (aH (fun _=>rfl) k167.2) ?_
   obtain ⟨x169,h169,H⟩ := ax H
   refine bg hg_cmp (jc.r) (hp_cmp _ _ _ h169) ?_
   refine aJ 2 rfl (be ?_)
   refine aP rfl H (fun H=>?_) (fun H=>?_)
   ·refine bh 3 tk rfl (aQ ?_)
    obtain rfl := ao H
    refine aK (s18.1,(i64.wrap ((i64.wrap (Int.fdiv (IntKind.u64.wrap (i64.wrap (s18.2.1 + s18.2.2))) (2 ^ 1))) + (1 : Int))),s18.2.2) () hg18 (Gh.le (aa (aa (aa (aa (aa (aa (aa (aa (aa (aa ak)))))))))) ah (aA ai))
   refine bh 2 tk rfl (aQ ?_)
   obtain rfl := ao H
   refine aK (s18.1,s18.2.1,(i64.wrap (Int.fdiv (IntKind.u64.wrap (i64.wrap (s18.2.1 + s18.2.2))) (2 ^ 1)))) () hg18 (Gh.le (aa (aa (aa (aa (aa (aa (aa (aa (aa (aa ak)))))))))) ah (aA ai))
  refine aR rfl ?_
  obtain rfl := ao H
  refine aO (s18.1,s18.2.1,s18.2.2) () hg18 (Gh.le (aa (aa (aa (aa (aa (aa (aa (aa ak)))))))) ah (aA ai))
 have H := bq hn18 Hp18
 refine aw 4 tk rfl (ac (ac ?_))
 obtain ⟨fl19,H19,Hp19⟩ := bK H
 refine aZ (τ := Rz × Bool) (γ := Unit) (fun t19 g19=>⟨220,upd (upd (upd (upd (upd (upd (upd (upd (upd (fun _=>.any) 185 (aE t19.2)) 24 (ae (i64.wrap ((i64.wrap ((i64.wrap (Int.fdiv (IntKind.u64.wrap (i64.wrap (a + b))) (2 ^ 1))) + m)) - s18.2.1)))) 20 (ae s18.2.1)) 18 (ae (i64.wrap (Int.fdiv (IntKind.u64.wrap (i64.wrap (a + b))) (2 ^ 1))))) 4 (.fn g_cmp caps_cmp)) 3 (ae b)) 2 (ae m)) 1 (ae a)) 0 (.own 0 g_data (t19.1.map (al 53 ab)).length),fun _=>none,upd (fun _=>none) 0 (some ⟨g_data,51,(t19.1.map (al 53 ab)),true⟩)⟩) (fun t=>t = fl19) ?_ (fun t19 g19 hn19=>?_)
 ·have H := H19
  refine af (am 4 tk rfl ?_)
  refine bG rfl rfl rfl H (fun H=>?_) (fun H=>?_)
  ·refine am 4 tk rfl (ag ?_)
   subst H
   refine aO (s18.1,(decide (m < (i64.wrap ((i64.wrap ((i64.wrap (Int.fdiv (IntKind.u64.wrap (i64.wrap (a + b))) (2 ^ 1))) + m)) - s18.2.1))))) () rfl (Gh.le (aa (aa (aa (aa (aa (aa (aa (aa (aa ak))))))))) ah (aA ai))
  refine am 4 tk rfl (ag ?_)
  subst H
  refine aO (s18.1,false) () rfl (Gh.le (aa (aa (aa (aa (aa (aa (aa (aa (aa ak))))))))) ah (aA ai))
 subst hn19
 have H := Hp19
 obtain ⟨fl20,H20,Hp20⟩ := ax H
 refine aZ (τ := Rz) (γ := Unit) (fun t20 g20=>⟨220,upd (upd (upd (upd (upd (upd (upd (fun _=>.any) 24 (ae (i64.wrap ((i64.wrap ((i64.wrap (Int.fdiv (IntKind.u64.wrap (i64.wrap (a + b))) (2 ^ 1))) + m)) - s18.2.1)))) 20 (ae s18.2.1)) 18 (ae (i64.wrap (Int.fdiv (IntKind.u64.wrap (i64.wrap (a + b))) (2 ^ 1))))) 4 (.fn g_cmp caps_cmp)) 3 (ae b)) 1 (ae a)) 0 (.own 0 g_data (t20.map (al 53 ab)).length),fun _=>none,upd (fun _=>none) 0 (some ⟨g_data,51,(t20.map (al 53 ab)),true⟩)⟩) (fun t=>t = fl20) ?_ (fun t20 g20 hn20=>?_)
 ·have H := H20
  refine aP rfl H (fun H=>?_) (fun H=>?_)
  ·refine af (am 5 tk rfl ?_)
   obtain ⟨x191,h191,H⟩ := ax H
   have s191 := lY g_data t19.1 s18.2.1 m (i64.wrap ((i64.wrap ((i64.wrap (Int.fdiv (IntKind.u64.wrap (i64.wrap (a + b))) (2 ^ 1))) + m)) - s18.2.1)) cmp hg_cmp hp_cmp _ h191
   obtain ⟨_,q191_0,H⟩ := ax H
   have l191_0 := (bI q191_0).1
   have z191_0 : (List.map (al 53 ab) t19.1).length = (List.map (al 53 ab) x191).length := by simpa using (l191_0).symm
   refine cf (g := 211) rfl rfl rfl Tryz.call211 [] [(0,0)] rfl rfl rfl rfl (jc.of2 (iw.cons (np.own rfl) (iw.cons (np.of_eq rfl) (iw.cons (np.of_eq rfl) (iw.cons (np.of_eq rfl) (iw.cons (np.of_eq rfl) iw.nil)))))) (by rw [bR,bL,bS]; rfl) s191 ?_
   rintro u191 H191h ⟨rfl,rfl⟩
   refine ⟨_,rfl,?_⟩
   refine cA (st' := ⟨_,_,fun _=>none,upd (fun _=>none) 0 (some ⟨g_data,51,(x191.map (al 53 ab)),true⟩)⟩) (Gh.le (bO _ _) ah (aA ai)) ?_
   refine ag ?_
   obtain rfl := ao H
   refine aO x191 () rfl (Gh.le (aI (PLe.of2 (np.of_eq (congrArg (PV.own 0 g_data) z191_0))) (aa (aa (aa (aa (aa (aa ak))))))) ah (aA ai))
  refine av ?_
  obtain rfl := ao H
  refine aO t19.1 () rfl (Gh.le (aa (aa (aa (aa (aa (aa (aa ak))))))) ah (aA ai))
 subst hn20
 have H := Hp20
 refine ac (ac ?_)
 obtain ⟨fl21,H21,Hp21⟩ := bK H
 refine aZ (τ := Rz × Bool) (γ := Unit) (fun t21 g21=>⟨220,upd (upd (upd (upd (upd (upd (upd (upd (fun _=>.any) 199 (aE t21.2)) 24 (ae (i64.wrap ((i64.wrap ((i64.wrap (Int.fdiv (IntKind.u64.wrap (i64.wrap (a + b))) (2 ^ 1))) + m)) - s18.2.1)))) 20 (ae s18.2.1)) 18 (ae (i64.wrap (Int.fdiv (IntKind.u64.wrap (i64.wrap (a + b))) (2 ^ 1))))) 4 (.fn g_cmp caps_cmp)) 3 (ae b)) 1 (ae a)) 0 (.own 0 g_data (t21.1.map (al 53 ab)).length),fun _=>none,upd (fun _=>none) 0 (some ⟨g_data,51,(t21.1.map (al 53 ab)),true⟩)⟩) (fun t=>t = fl21) ?_ (fun t21 g21 hn21=>?_)
 ·have H := H21
  refine af (am 4 tk rfl ?_)
  refine bG rfl rfl rfl H (fun H=>?_) (fun H=>?_)
  ·refine am 4 tk rfl (ag ?_)
   subst H
   refine aO (t20,(decide (s18.2.1 < (i64.wrap (Int.fdiv (IntKind.u64.wrap (i64.wrap (a + b))) (2 ^ 1)))))) () rfl (Gh.le (aa (aa (aa (aa (aa (aa (aa (aa ak)))))))) ah (aA ai))
  refine am 4 tk rfl (ag ?_)
  subst H
  refine aO (t20,false) () rfl (Gh.le (aa (aa (aa (aa (aa (aa (aa (aa ak)))))))) ah (aA ai))
 subst hn21
 have H := Hp21
 obtain ⟨fl22,H22,Hp22⟩ := ax H
 refine aZ (τ := Rz) (γ := Unit) (fun t22 g22=>⟨220,upd (upd (upd (upd (upd (fun _=>.any) 24 (ae (i64.wrap ((i64.wrap ((i64.wrap (Int.fdiv (IntKind.u64.wrap (i64.wrap (a + b))) (2 ^ 1))) + m)) - s18.2.1)))) 18 (ae (i64.wrap (Int.fdiv (IntKind.u64.wrap (i64.wrap (a + b))) (2 ^ 1))))) 4 (.fn g_cmp caps_cmp)) 3 (ae b)) 0 (.own 0 g_data (t22.map (al 53 ab)).length),fun _=>none,upd (fun _=>none) 0 (some ⟨g_data,51,(t22.map (al 53 ab)),true⟩)⟩) (fun t=>t = fl22) ?_ (fun t22 g22 hn22=>?_)
 ·have H := H22
  refine aP rfl H (fun H=>?_) (fun H=>?_)
  ·refine af (am 5 tk rfl ?_)
   obtain ⟨x205,h205,H⟩ := ax H
   have s205 := hrec204 g_data t21.1 a s18.2.1 (i64.wrap (Int.fdiv (IntKind.u64.wrap (i64.wrap (a + b))) (2 ^ 1))) _ h205
   obtain ⟨_,q205_0,H⟩ := ax H
   have l205_0 := (bI q205_0).1
   have z205_0 : (List.map (al 53 ab) t21.1).length = (List.map (al 53 ab) x205).length := by simpa using (l205_0).symm
   refine cf (g := 204) rfl rfl rfl Tryz.call204 [] [(0,0)] rfl rfl rfl rfl (jc.of2 (iw.cons (np.own rfl) (iw.cons (np.of_eq rfl) (iw.cons (np.of_eq rfl) (iw.cons (np.of_eq rfl) (iw.cons (np.of_eq rfl) iw.nil)))))) (by rw [bR,bL,bS]; rfl) s205 ?_
   rintro u205 H205h ⟨rfl,rfl⟩
   refine ⟨_,rfl,?_⟩
   refine cA (st' := ⟨_,_,fun _=>none,upd (fun _=>none) 0 (some ⟨g_data,51,(x205.map (al 53 ab)),true⟩)⟩) (Gh.le (bO _ _) ah (aA ai)) ?_
   refine ag ?_
   obtain rfl := ao H
   refine aO x205 () rfl (Gh.le (aI (PLe.of2 (np.of_eq (congrArg (PV.own 0 g_data) z205_0))) (aa (aa (aa (aa ak))))) ah (aA ai))
  refine av ?_
  obtain rfl := ao H
  refine aO t21.1 () rfl (Gh.le (aa (aa (aa (aa (aa ak))))) ah (aA ai))
 subst hn22
 have H := Hp22
 refine ac (af (am 4 tk rfl ?_))
 refine bG rfl rfl rfl H (fun H=>?_) (fun H=>?_)
 ·refine am 4 tk rfl (ag ?_)
  refine aP rfl H (fun H=>?_) (fun H=>?_)
  ·refine af (am 5 tk rfl ?_)
   obtain ⟨x219,h219,H⟩ := ax H
   have s219 := hrec204 g_data t22 (i64.wrap (Int.fdiv (IntKind.u64.wrap (i64.wrap (a + b))) (2 ^ 1))) (i64.wrap ((i64.wrap ((i64.wrap (Int.fdiv (IntKind.u64.wrap (i64.wrap (a + b))) (2 ^ 1))) + m)) - s18.2.1)) b _ h219
   obtain ⟨_,q219_0,H⟩ := ax H
   have l219_0 := (bI q219_0).1
   have z219_0 : (List.map (al 53 ab) t22).length = (List.map (al 53 ab) x219).length := by simpa using (l219_0).symm
   refine cf (g := 204) rfl rfl rfl Tryz.call204 [] [(0,0)] rfl rfl rfl rfl (jc.of2 (iw.cons (np.own rfl) (iw.cons (np.of_eq rfl) (iw.cons (np.of_eq rfl) (iw.cons (np.of_eq rfl) (iw.cons (np.of_eq rfl) iw.nil)))))) (by rw [bR,bL,bS]; rfl) s219 ?_
   rintro u219 H219h ⟨rfl,rfl⟩
   refine ⟨_,rfl,?_⟩
   refine cA (st' := ⟨_,_,fun _=>none,upd (fun _=>none) 0 (some ⟨g_data,51,(x219.map (al 53 ab)),true⟩)⟩) (Gh.le (bO _ _) ah (aA ai)) ?_
   refine ag ?_
   obtain rfl := ao H
   refine dN (st' := ⟨220,fun _=>.any,fun _=>none,upd (fun _=>none) 0 (some ⟨g_data,51,(x219.map (al 53 ab)),true⟩)⟩) (Gh.le ak ah (aA ai)) ?_
   refine iI rfl (PLe.q rfl) ⟨rfl,rfl⟩
  refine av ?_
  obtain rfl := ao H
  refine dN (st' := ⟨220,fun _=>.any,fun _=>none,upd (fun _=>none) 0 (some ⟨g_data,51,(t22.map (al 53 ab)),true⟩)⟩) (Gh.le ak ah (aA ai)) ?_
  refine iI rfl (PLe.q rfl) ⟨rfl,rfl⟩
 refine am 4 tk rfl (ag (bH rfl (av ?_)))
 obtain rfl := ao H
 refine dN (st' := ⟨220,fun _=>.any,fun _=>none,upd (fun _=>none) 0 (some ⟨g_data,51,(t22.map (al 53 ab)),true⟩)⟩) (Gh.le ak ah (aA ai)) ?_
 refine iI rfl (PLe.q rfl) ⟨rfl,rfl⟩
def bw : Nat → Rz → Int → Int → Int → (Rq → Rq → Option (Int)) → Option (Rz)
 | 0,_,_,_,_,_=>none
 | n + 1,v0,v1,v2,v3,v4=>cG (fun b0 b1 b2 b3=>bw n b0 b1 b2 b3 v4) v0 v1 v2 v3 v4
theorem lb {g_cmp : FuncId} {caps_cmp : List PV} (cmp : Rq → Rq → Option (Int)) (hg_cmp : ∀ (vs : Array Value) (w : World),(callFunc g_cmp vs).run Tryz.prog w = .ok (.enter g_cmp vs) w) (hp_cmp : ∀ a0 a1 r,cmp a0 a1 = some r → aV Tryz.prog g_cmp ((.list 53 (a0.map ab)) :: (.list 53 (a1.map ab)) :: caps_cmp) (ae r)) (n : Nat) : (∀ g0 a0 a1 a2 a3 r,bw n a0 a1 a2 a3 cmp = some r → PH Tryz.prog 204 [(.own 0 g0 (a0.map (al 53 ab)).length),(ae a1),(ae a2),(ae a3),(.fn g_cmp caps_cmp)] ⟨fun _=>none,upd (fun _=>none) 0 (some ⟨g0,51,(a0.map (al 53 ab)),true⟩)⟩ (fun u H=>u = (.tup []) ∧ H = ⟨fun _=>none,upd (fun _=>none) 0 (some ⟨g0,51,(r.map (al 53 ab)),true⟩)⟩)) := by
 induction n with
 | zero=>exact (by intros; rename_i h; exact absurd (show (none : Option _) = some _ from h) (by simp))
 | succ n ih =>
  exact (fun g0 v0 v1 v2 v3 r h=>lg g0 (fun b0 b1 b2 b3=>bw n b0 b1 b2 b3 cmp) ih v0 v1 v2 v3 cmp hg_cmp hp_cmp r h)
def fm (data : Rz) (a : Int) (m : Int) (b : Int) (cmp : Rq → Rq → Option (Int)) : Option (Rz) := iQ fun n=>bw n data a m b cmp
theorem jf (g_data : OwnRef) {g_cmp : FuncId} {caps_cmp : List PV} (data : Rz) (a : Int) (m : Int) (b : Int) (cmp : Rq → Rq → Option (Int)) (hg_cmp : ∀ (vs : Array Value) (w : World),(callFunc g_cmp vs).run Tryz.prog w = .ok (.enter g_cmp vs) w) (hp_cmp : ∀ a0 a1 r,cmp a0 a1 = some r → aV Tryz.prog g_cmp ((.list 53 (a0.map ab)) :: (.list 53 (a1.map ab)) :: caps_cmp) (ae r)) (r : Rz) (H : fm data a m b cmp = some r) :
  PH Tryz.prog 204 [(.own 0 g_data (data.map (al 53 ab)).length),(ae a),(ae m),(ae b),(.fn g_cmp caps_cmp)] ⟨fun _=>none,upd (fun _=>none) 0 (some ⟨g_data,51,(data.map (al 53 ab)),true⟩)⟩ (fun u H=>u = (.tup []) ∧ H = ⟨fun _=>none,upd (fun _=>none) 0 (some ⟨g_data,51,(r.map (al 53 ab)),true⟩)⟩) := by
 obtain ⟨n,h⟩ := jy H
 exact (lb cmp hg_cmp hp_cmp n) g_data data a m b r h
def fy (t : LTable) : Option (Int) :=
 aj (fU t.name) fun x11 =>
 cond (!x11)
  (some 23)
  (cond ((t.columns.length : Int) == (0 : Int))
   (some 3)
   (cond (decide ((t.columns.length : Int) > (6 : Int)))
    (some 2)
    (aj (ba (σ := Unit) (ρ := (Int)) (fun (j1 : Nat) (x1 : LCol) (_ : Unit) =>
     aj (fU x1.name) fun x31 =>
     cond (!x31)
      (some (.ret 23))
      (aj (gz t x1.name) fun x37 =>
      cond (decide (x37.1 < (j1 : Int)))
       (some (.ret 5))
       (cond (decide (x1.kind < (1 : Int)))
        (some (.ret 7))
        (cond (decide (x1.kind > (3 : Int)))
         (some (.ret 7))
         (some (.next ())))))) 0 t.columns ()) fun fl1=>fl1.thenR fun (_ : Unit) =>
    aj (ba (σ := Unit) (ρ := (Int)) (fun (j2 : Nat) (x2 : Int) (_ : Unit) =>
     cond (decide (x2 < (0 : Int)))
      (some (.ret 9))
      (cond (decide (x2 ≥ (t.columns.length : Int)))
       (some (.ret 9))
       (aj (aF t.columns x2) fun (x73 : LCol) =>
       cond x73.nullable
        (some (.ret 9))
        (cond (decide ((j2 : Int) > (0 : Int)))
         (aj (aF t.primaryKey (i64.wrap ((j2 : Int) - (1 : Int)))) fun (x86 : Int) =>
         cond (decide (x2 ≤ x86))
          (some (.ret 9))
          (some (.next ())))
         (some (.next ())))))) 0 t.primaryKey ()) fun fl2=>fl2.thenR fun (_ : Unit) =>
    cond ((t.primaryKey.length : Int) == (0 : Int))
     (some 9)
     (some 0))))
theorem pf (t : LTable) (r : Int) (H : fy t = some r) :
  aV Tryz.prog 98 [(.agg (bA t))] (ae r) := by
 unfold fy at H
 refine PH.aC Tryz.func98 Tryz.ntmps98 ?_
 refine ac (af (aT ?_))
 refine aq tk rfl (ag (ac (ac (af (am 2 tk rfl ?_)))))
 obtain ⟨x11,h11,H⟩ := ax H
 have s11 := mX t.name _ h11
 refine au Tryz.call143 (jc.r) s11 ?_
 refine aq tk rfl (ag ?_)
 refine aP rfl H (fun H=>?_) (fun H=>?_)
 ·refine aw 1 tk rfl ?_
  obtain rfl := ao H
  refine aB tk rfl (ps := [(ae 23)]) ⟨_,_,rfl,rfl,rfl⟩ (PLe.q rfl)
 refine av (ac (ac (af (am 2 tk rfl (aN tk (zl _) ?_)))))
 refine aq tk rfl (ag ?_)
 refine aP rfl H (fun H=>?_) (fun H=>?_)
 ·refine aw 1 tk rfl ?_
  obtain rfl := ao H
  refine aB tk rfl (ps := [(ae 3)]) ⟨_,_,rfl,rfl,rfl⟩ (PLe.q rfl)
 refine av (ac (ac (af (am 2 tk rfl (aN tk (zl _) ?_)))))
 refine aq tk rfl (ag ?_)
 refine aP rfl H (fun H=>?_) (fun H=>?_)
 ·refine aw 1 tk rfl ?_
  obtain rfl := ao H
  refine aB tk rfl (ps := [(ae 2)]) ⟨_,_,rfl,rfl,rfl⟩ (PLe.q rfl)
 refine av (ac (ac (af (am 2 tk rfl (aN tk (zl _) ?_)))))
 refine aq tk rfl (ag ?_)
 obtain ⟨fl1,H1,Hp1⟩ := ax H
 refine bU tk 22 rfl rfl (fun hz1 _=>?_)
 rw [zl] at hz1
 refine aZ (τ := Unit) (γ := Unit) (fun s1 g1=>⟨96,upd (fun _=>.any) 1 (.ptr [(.str t.name),(.list 50 (t.columns.map aG)),(.list 3 (t.primaryKey.map bJ))]),fun _=>none,fun _=>none⟩) (fun t=>fl1 = .next t) ?_ (fun s1 g1 hn1=>?_)
 ·refine az ?_
  refine bF (fun j1 s1 g1=>⟨96,upd (upd (upd (upd (fun _=>.any) 24 (ae (j1 : Int))) 23 (ae (t.columns.length : Int))) 22 (.list 50 (t.columns.map aG))) 1 (.ptr [(.str t.name),(.list 50 (t.columns.map aG)),(.list 3 (t.primaryKey.map bJ))]),fun _=>none,fun _=>none⟩) () H1 (Gh.le (aa (aa (aa (aa ak)))) ah ai) (fun j1 s1 g1 hj1 hr1=>?_)
  refine aw 1 tk rfl (ac ?_)
  refine aY rfl (fun h=>?_) (fun h=>?_)
  ·have hl1 := cp h
   obtain ⟨x1,fb1,hx1,H,hg1⟩ := rMc hl1 hr1
   refine av (ac (az (ac (af (aq tk rfl ?_)))))
   refine bt tk (zn j1) (bQ (fun _=>rfl) hx1) ?_
   refine aq tk rfl ?_
   refine bv tk fun b4=>?_
   refine aq tk rfl (aD tk ?_)
   refine ag (ac (ac (af (aq tk rfl (aM tk ?_)))))
   obtain ⟨x31,h31,H⟩ := ax H
   have s31 := mX x1.name _ h31
   refine au Tryz.call143 (jc.r) s31 ?_
   refine aq tk rfl (ag ?_)
   refine aP rfl H (fun H=>?_) (fun H=>?_)
   ·refine aw 1 tk rfl ?_
    obtain rfl := ao H
    have e1 : fl1 = .ret _ := hg1
    subst e1
    obtain rfl := bj Hp1
    refine aB tk rfl (ps := [(ae 23)]) ⟨_,_,rfl,rfl,rfl⟩ (PLe.q rfl)
   refine av (ac (ac (af (am 2 tk rfl (aM tk ?_)))))
   obtain ⟨x37,h37,H⟩ := ax H
   have s37 := qq t x1.name _ h37
   refine au Tryz.call144 (jc.r) s37 ?_
   refine am 5 tk rfl (ag (aw 3 tk rfl ?_))
   refine aP rfl H (fun H=>?_) (fun H=>?_)
   ·refine aw 1 tk rfl ?_
    obtain rfl := ao H
    have e1 : fl1 = .ret _ := hg1
    subst e1
    obtain rfl := bj Hp1
    refine aB tk rfl (ps := [(ae 5)]) ⟨_,_,rfl,rfl,rfl⟩ (PLe.q rfl)
   refine av (ac (af (aq tk rfl (aM tk ?_))))
   refine am 2 tk rfl ?_
   refine bG rfl rfl rfl H (fun H=>?_) (fun H=>?_)
   ·refine am 4 tk rfl (ag (cv rfl (aw 1 tk rfl ?_)))
    obtain rfl := ao H
    have e1 : fl1 = .ret _ := hg1
    subst e1
    obtain rfl := bj Hp1
    refine aB tk rfl (ps := [(ae 7)]) ⟨_,_,rfl,rfl,rfl⟩ (PLe.q rfl)
   refine aq tk rfl (aM tk ?_)
   refine am 2 tk rfl (ag ?_)
   refine aP rfl H (fun H=>?_) (fun H=>?_)
   ·refine aw 1 tk rfl ?_
    obtain rfl := ao H
    have e1 : fl1 = .ret _ := hg1
    subst e1
    obtain rfl := bj Hp1
    refine aB tk rfl (ps := [(ae 7)]) ⟨_,_,rfl,rfl,rfl⟩ (PLe.q rfl)
   refine av (aQ (bh 2 tk rfl ?_))
   obtain rfl := ao H
   refine aK () () ⟨hl1,hg1⟩ (Gh.le (aa (aa (aa (aI (PLe.q (aU (by omega))) ak)))) ah ai)
  have hn1 := rMd (cq h) hr1
  refine aR rfl ?_
  refine aO s1 g1 hn1 (Gh.le (aa ak) ah ai)
 have H := ck hn1 Hp1
 refine ac (ac (af (am 2 tk rfl (aN tk (zl _) ?_))))
 refine aq tk rfl (ag ?_)
 obtain ⟨fl2,H2,Hp2⟩ := ax H
 refine bU tk 53 rfl rfl (fun hz2 _=>?_)
 rw [zl] at hz2
 refine aZ (τ := Unit) (γ := Unit) (fun s2 g2=>⟨96,upd (fun _=>.any) 1 (.ptr [(.str t.name),(.list 50 (t.columns.map aG)),(.list 3 (t.primaryKey.map bJ))]),fun _=>none,fun _=>none⟩) (fun t=>fl2 = .next t) ?_ (fun s2 g2 hn2=>?_)
 ·refine az ?_
  refine bF (fun j2 s2 g2=>⟨96,upd (upd (upd (upd (fun _=>.any) 55 (ae (j2 : Int))) 54 (ae (t.primaryKey.length : Int))) 53 (.list 3 (t.primaryKey.map bJ))) 1 (.ptr [(.str t.name),(.list 50 (t.columns.map aG)),(.list 3 (t.primaryKey.map bJ))]),fun _=>none,fun _=>none⟩) () H2 (Gh.le (aa (aa (aa (aa ak)))) ah ai) (fun j2 s2 g2 hj2 hr2=>?_)
  refine aw 1 tk rfl (ac ?_)
  refine aY rfl (fun h=>?_) (fun h=>?_)
  ·have hl2 := cp h
   obtain ⟨x2,fb2,hx2,H,hg2⟩ := rMc hl2 hr2
   refine av (ac (az (ac (af (aq tk rfl ?_)))))
   refine bt tk (zn j2) (bQ (fun _=>rfl) hx2) ?_
   refine am 3 tk rfl (ag (ac (af (am 3 tk rfl ?_))))
   refine bG rfl rfl rfl H (fun H=>?_) (fun H=>?_)
   ·refine am 28 tk rfl (ag (cv rfl (aw 1 tk rfl ?_)))
    obtain rfl := ao H
    have e2 : fl2 = .ret _ := hg2
    subst e2
    obtain rfl := bj Hp2
    refine aB tk rfl (ps := [(ae 9)]) ⟨_,_,rfl,rfl,rfl⟩ (PLe.q rfl)
   refine am 3 tk rfl (aN tk (zl _) ?_)
   refine am 3 tk rfl ?_
   refine bG rfl rfl rfl H (fun H=>?_) (fun H=>?_)
   ·refine am 21 tk rfl (ag (cv rfl (aw 1 tk rfl ?_)))
    obtain rfl := ao H
    have e2 : fl2 = .ret _ := hg2
    subst e2
    obtain rfl := bj Hp2
    refine aB tk rfl (ps := [(ae 9)]) ⟨_,_,rfl,rfl,rfl⟩ (PLe.q rfl)
   refine am 3 tk rfl ?_
   obtain ⟨x73,k73,H⟩ := aW H
   refine bt tk k73.1 (aH (fun _=>rfl) k73.2) ?_
   refine am 4 tk rfl ?_
   refine bG rfl rfl rfl H (fun H=>?_) (fun H=>?_)
   ·refine am 13 tk rfl (ag (cv rfl (aw 1 tk rfl ?_)))
    obtain rfl := ao H
    have e2 : fl2 = .ret _ := hg2
    subst e2
    obtain rfl := bj Hp2
    refine aB tk rfl (ps := [(ae 9)]) ⟨_,_,rfl,rfl,rfl⟩ (PLe.q rfl)
   refine am 3 tk rfl ?_
   refine bG rfl rfl rfl H (fun H=>?_) (fun H=>?_)
   ·refine am 5 tk rfl ?_
    obtain ⟨x86,k86,H⟩ := aW H
    refine bt tk k86.1 (aH (fun _=>rfl) k86.2) ?_
    refine am 4 tk rfl (ag ?_)
    refine aP rfl H (fun H=>?_) (fun H=>?_)
    ·refine aw 1 tk rfl ?_
     obtain rfl := ao H
     have e2 : fl2 = .ret _ := hg2
     subst e2
     obtain rfl := bj Hp2
     refine aB tk rfl (ps := [(ae 9)]) ⟨_,_,rfl,rfl,rfl⟩ (PLe.q rfl)
    refine av (aQ (bh 2 tk rfl ?_))
    obtain rfl := ao H
    refine aK () () ⟨hl2,hg2⟩ (Gh.le (aa (aa (aa (aI (PLe.q (aU (by omega))) ak)))) ah ai)
   refine am 10 tk rfl (ag (bH rfl (av (aQ (bh 2 tk rfl ?_)))))
   obtain rfl := ao H
   refine aK () () ⟨hl2,hg2⟩ (Gh.le (aa (aa (aa (aI (PLe.q (aU (by omega))) ak)))) ah ai)
  have hn2 := rMd (cq h) hr2
  refine aR rfl ?_
  refine aO s2 g2 hn2 (Gh.le (aa ak) ah ai)
 have H := ck hn2 Hp2
 refine ac (ac (af (am 2 tk rfl (aN tk (zl _) ?_))))
 refine aq tk rfl (ag ?_)
 refine aP rfl H (fun H=>?_) (fun H=>?_)
 ·refine aw 1 tk rfl ?_
  obtain rfl := ao H
  refine aB tk rfl (ps := [(ae 9)]) ⟨_,_,rfl,rfl,rfl⟩ (PLe.q rfl)
 refine av (aw 1 tk rfl ?_)
 obtain rfl := ao H
 refine aB tk rfl (ps := [(ae 0)]) ⟨_,_,rfl,rfl,rfl⟩ (PLe.q rfl)
def eU (sA : LSchema) (fk : LForeignKey) : Option (Int) :=
 aj (fX sA fk.table) fun x17 =>
 aj (fX sA fk.refTable) fun x24 =>
 bo (
  cond (!x17.2)
   (true)
   ((!x24.2))) fun (t1 : Bool) =>
 cond t1
  (some 4)
  (aj (aF sA.tables x17.1) fun (x36 : LTable) =>
  aj (aF sA.tables x24.1) fun (x41 : LTable) =>
  cond ((fk.columns.length : Int) != (x41.primaryKey.length : Int))
   (some 3)
   (aj (ba (σ := Unit) (ρ := (Int)) (fun (j2 : Nat) (x2 : Int) (_ : Unit) =>
    bo (
     cond (decide (x2 < (0 : Int)))
      (true)
      ((decide (x2 ≥ (x36.columns.length : Int))))) fun (t4 : Bool) =>
    cond t4
     (some (.ret 3))
     (aj (aF x36.columns x2) fun (x70 : LCol) =>
     aj (aF x41.primaryKey (j2 : Int)) fun (x78 : Int) =>
     aj (aF x41.columns x78) fun (x80 : LCol) =>
     cond (x70.kind != x80.kind)
      (some (.ret 7))
      (some (.next ())))) 0 fk.columns ()) fun fl2=>fl2.thenR fun (_ : Unit) =>
   some 0))
theorem mW (sA : LSchema) (fk : LForeignKey) (r : Int) (H : eU sA fk = some r) :
  aV Tryz.prog 99 [(.agg (eA sA)),(.agg (cD fk))] (ae r) := by
 unfold eU at H
 refine PH.aC Tryz.func99 Tryz.ntmps99 ?_
 refine ac (af (aT ?_))
 refine aT ?_
 refine aq tk rfl (ag (ac (af (am 3 tk rfl ?_))))
 obtain ⟨x17,h17,H⟩ := ax H
 have s17 := kB sA fk.table _ h17
 refine au Tryz.call145 (jc.r) s17 ?_
 refine am 5 tk rfl (ag (ac (af (am 3 tk rfl ?_))))
 obtain ⟨x24,h24,H⟩ := ax H
 have s24 := kB sA fk.refTable _ h24
 refine au Tryz.call145 (jc.r) s24 ?_
 refine am 5 tk rfl (ag (ac (ac ?_)))
 obtain ⟨fl1,H1,Hp1⟩ := bK H
 refine aZ (τ := Bool) (γ := Unit) (fun t1 g1=>⟨85,upd (upd (upd (upd (upd (fun _=>.any) 32 (aE t1)) 7 (ae x24.1)) 5 (ae x17.1)) 3 (.ptr [(.str fk.table),(.list 3 (fk.columns.map bJ)),(.str fk.refTable)])) 2 (.ptr [(.list 91 (sA.tables.map bA)),(.list 142 (sA.foreignKeys.map cD)),(.list 148 (sA.constraints.map cN))]),fun _=>none,fun _=>none⟩) (fun t=>t = fl1) ?_ (fun t1 g1 hn1=>?_)
 ·have H := H1
  refine af (am 3 tk rfl ?_)
  refine bG rfl rfl rfl H (fun H=>?_) (fun H=>?_)
  ·refine am 3 tk rfl (ag ?_)
   subst H
   refine aO true () rfl (Gh.le (aa (aa (aa (aa (aa ak))))) ah ai)
  refine am 3 tk rfl (ag ?_)
  subst H
  refine aO (!x24.2) () rfl (Gh.le (aa (aa (aa (aa (aa ak))))) ah ai)
 subst hn1
 have H := Hp1
 refine aP rfl H (fun H=>?_) (fun H=>?_)
 ·refine aw 1 tk rfl ?_
  obtain rfl := ao H
  refine aB tk rfl (ps := [(ae 4)]) ⟨_,_,rfl,rfl,rfl⟩ (PLe.q rfl)
 refine av (ac (bl tk mok ⟨false,false,[]⟩ [0,1,2,3,4,5,6,7,8,9,10,11,12,13] rfl (by decide +kernel) rfl (aJ 3 rfl ?_)))
 obtain ⟨x36,k36,H⟩ := aW H
 refine bX k36.1 (aH (fun _=>rfl) k36.2) ?_
 refine aJ 4 rfl ?_
 obtain ⟨x41,k41,H⟩ := aW H
 refine bX k41.1 (aH (fun _=>rfl) k41.2) ?_
 refine cC rfl ?_
 refine mt rfl rfl rfl rfl rfl rfl rfl rfl fun b9=>?_
 refine mt rfl rfl rfl rfl rfl rfl rfl rfl fun b10=>?_
 refine dK ?_
 refine dK ?_
 refine be (ac (ac (af (am 2 tk rfl (aN tk (zl _) ?_)))))
 refine aq tk rfl (aM tk ?_)
 refine aN tk (zl _) ?_
 refine aq tk rfl (ag ?_)
 refine aP rfl H (fun H=>?_) (fun H=>?_)
 ·refine aw 1 tk rfl ?_
  obtain rfl := ao H
  refine aB tk rfl (ps := [(ae 3)]) ⟨_,_,rfl,rfl,rfl⟩ (PLe.q rfl)
 refine av (ac (ac (af (am 2 tk rfl (aN tk (zl _) ?_)))))
 refine aq tk rfl (ag ?_)
 obtain ⟨fl2,H2,Hp2⟩ := ax H
 refine bU tk 51 rfl rfl (fun hz2 _=>?_)
 rw [zl] at hz2
 refine aZ (τ := Unit) (γ := Unit) (fun s2 g2=>⟨85,fun _=>.any,fun _=>none,fun _=>none⟩) (fun t=>fl2 = .next t) ?_ (fun s2 g2 hn2=>?_)
 ·refine az ?_
  refine bF (fun j2 s2 g2=>⟨85,upd (upd (upd (upd (upd (fun _=>.any) 53 (ae (j2 : Int))) 52 (ae (fk.columns.length : Int))) 51 (.list 3 (fk.columns.map bJ))) 10 (.box 10 b10 0)) 9 (.box 9 b9 0),upd (upd (fun _=>none) 10 (some ⟨b10,[(.str x41.name),(.list 50 (x41.columns.map aG)),(.list 3 (x41.primaryKey.map bJ))]⟩)) 9 (some ⟨b9,[(.str x36.name),(.list 50 (x36.columns.map aG)),(.list 3 (x36.primaryKey.map bJ))]⟩),fun _=>none⟩) () H2 (Gh.le (aa (aa (aa (aa (aa ak))))) (ay rfl (jc.r) (ay rfl (jc.r) ah)) ai) (fun j2 s2 g2 hj2 hr2=>?_)
  refine aw 1 tk rfl (ac ?_)
  refine aY rfl (fun h=>?_) (fun h=>?_)
  ·have hl2 := cp h
   obtain ⟨x2,fb2,hx2,H,hg2⟩ := rMc hl2 hr2
   refine av (ac (az (ac (af (aq tk rfl ?_)))))
   refine bt tk (zn j2) (bQ (fun _=>rfl) hx2) ?_
   refine am 3 tk rfl (ag (ac (ac ?_)))
   obtain ⟨fl4,H4,Hp4⟩ := bK H
   refine aZ (τ := Bool) (γ := Unit) (fun t4 g4=>⟨85,upd (upd (upd (upd (upd (upd (upd (upd (fun _=>.any) 66 (aE t4)) 53 (ae (j2 : Int))) 52 (ae (fk.columns.length : Int))) 51 (.list 3 (fk.columns.map bJ))) 12 (ae x2)) 11 (ae (j2 : Int))) 10 (.box 10 b10 0)) 9 (.box 9 b9 0),upd (upd (fun _=>none) 10 (some ⟨b10,[(.str x41.name),(.list 50 (x41.columns.map aG)),(.list 3 (x41.primaryKey.map bJ))]⟩)) 9 (some ⟨b9,[(.str x36.name),(.list 50 (x36.columns.map aG)),(.list 3 (x36.primaryKey.map bJ))]⟩),fun _=>none⟩) (fun t=>t = fl4) ?_ (fun t4 g4 hn4=>?_)
   ·have H := H4
    refine af (am 3 tk rfl ?_)
    refine bG rfl rfl rfl H (fun H=>?_) (fun H=>?_)
    ·refine am 6 tk rfl (ag ?_)
     subst H
     refine aO true () rfl (Gh.le (aa (aa (aa (aa (aa (aa (aa (aa ak)))))))) (ay rfl (jc.r) (ay rfl (jc.r) ah)) ai)
    refine am 2 tk rfl (aM tk ?_)
    refine aN tk (zl _) ?_
    refine am 2 tk rfl (ag ?_)
    subst H
    refine aO (decide (x2 ≥ (x36.columns.length : Int))) () rfl (Gh.le (aa (aa (aa (aa (aa (aa (aa (aa ak)))))))) (ay rfl (jc.r) (ay rfl (jc.r) ah)) ai)
   subst hn4
   have H := Hp4
   refine aP rfl H (fun H=>?_) (fun H=>?_)
   ·refine aw 1 tk rfl ?_
    obtain rfl := ao H
    have e2 : fl2 = .ret _ := hg2
    subst e2
    obtain rfl := bj Hp2
    refine aB tk rfl (ps := [(ae 3)]) ⟨_,_,rfl,rfl,rfl⟩ (PLe.q rfl)
   refine av (ac (bl tk mok ⟨true,false,[72,79,82]⟩ [0,1,2,3,4,5,6,7,8,9,10,11,12,13,14,15,16] rfl (by decide +kernel) rfl (cC rfl (cM ?_))))
   refine cC rfl ?_
   obtain ⟨x70,k70,H⟩ := aW H
   refine bX k70.1 (aH (fun _=>rfl) k70.2) ?_
   refine aJ 3 rfl (cM ?_)
   refine cC rfl (cM ?_)
   refine cC rfl ?_
   obtain ⟨x78,k78,H⟩ := aW H
   refine bX k78.1 (aH (fun _=>rfl) k78.2) ?_
   refine cC rfl ?_
   obtain ⟨x80,k80,H⟩ := aW H
   refine bX k80.1 (aH (fun _=>rfl) k80.2) ?_
   refine aJ 3 rfl (be ?_)
   refine aP rfl H (fun H=>?_) (fun H=>?_)
   ·refine aw 1 tk rfl ?_
    obtain rfl := ao H
    have e2 : fl2 = .ret _ := hg2
    subst e2
    obtain rfl := bj Hp2
    refine aB tk rfl (ps := [(ae 7)]) ⟨_,_,rfl,rfl,rfl⟩ (PLe.q rfl)
   refine av (aQ (bh 2 tk rfl ?_))
   obtain rfl := ao H
   refine aK () () ⟨hl2,hg2⟩ (Gh.le (aa (aa (aa (aa (aI (PLe.q (aU (by omega))) ak))))) (ay rfl (jc.r) (ay rfl (jc.r) ah)) ai)
  have hn2 := rMd (cq h) hr2
  refine aR rfl ?_
  refine aO s2 g2 hn2 (Gh.le ak ah ai)
 have H := ck hn2 Hp2
 refine aw 1 tk rfl ?_
 obtain rfl := ao H
 refine aB tk rfl (ps := [(ae 0)]) ⟨_,_,rfl,rfl,rfl⟩ (PLe.q rfl)
def go (other : LForeignKey) (c0 : LForeignKey) : Option (Bool) :=
 aj (gN other c0) fun x6 =>
 some x6
theorem qp (other : LForeignKey) (c0 : LForeignKey) (r : Bool) (H : go other c0 = some r) :
  aV Tryz.prog 101 [(.agg (cD other)),(.ptr (cD c0))] (aE r) := by
 unfold go at H
 refine PH.aC Tryz.func101 Tryz.ntmps101 ?_
 refine ac (af (aT ?_))
 refine aq tk rfl (ag (ac (af (am 2 tk rfl ?_))))
 obtain ⟨x6,h6,H⟩ := ax H
 have s6 := nz other c0 _ h6
 refine au Tryz.call102 (jc.r) s6 ?_
 refine aq tk rfl (ag ?_)
 obtain rfl := ao H
 refine aB tk rfl (ps := [(aE x6)]) ⟨_,_,rfl,rfl,rfl⟩ (PLe.q rfl)
def gd (length : Int) : Option (Int) :=
 aj (iy (IntKind.u64.wrap length)) fun x5 =>
 aj (shlI .u64 (1 : Int) x5) fun (x6 : Int) =>
 some x6
theorem oF (length : Int) (r : Int) (H : gd length = some r) :
  aV Tryz.prog 161 [(ae length)] (.val (.int .u64 r)) := by
 unfold gd at H
 refine PH.aC Tryz.func161 Tryz.ntmps161 ?_
 refine aw 1 tk rfl (ac (af (am 2 tk rfl ?_)))
 obtain ⟨x5,h5,H⟩ := ax H
 have s5 := oL (IntKind.u64.wrap length) _ h5
 refine au Tryz.call93 (jc.r) s5 ?_
 obtain ⟨x6,h6,H⟩ := ax H
 refine Ao.shl rfl rfl rfl rfl h6 rfl (aq tk rfl (ag ?_))
 obtain rfl := ao H
 refine aB tk rfl (ps := [(.val (.int .u64 x6))]) ⟨_,_,rfl,rfl,rfl⟩ (PLe.q rfl)
def cz (data : Rz) (a : Int) (swaps : Int) (cmp : Rq → Rq → Option (Int)) : Option (Int × Rz × Int) :=
 aj (dO data (i64.wrap (a - (1 : Int))) a (i64.wrap (a + (1 : Int))) swaps cmp) fun x17 =>
 aj (cF (x17.2.1.length = data.length) ()) fun (_ : Unit) =>
 some (x17.1,x17.2.1,x17.2.2)
theorem fH (g_data : OwnRef) (b_swaps : Nat) {g_cmp : FuncId} {caps_cmp : List PV} (data : Rz) (a : Int) (swaps : Int) (cmp : Rq → Rq → Option (Int)) (hg_cmp : ∀ (vs : Array Value) (w : World),(callFunc g_cmp vs).run Tryz.prog w = .ok (.enter g_cmp vs) w) (hp_cmp : ∀ a0 a1 r,cmp a0 a1 = some r → aV Tryz.prog g_cmp ((.list 53 (a0.map ab)) :: (.list 53 (a1.map ab)) :: caps_cmp) (ae r)) (r : Int × Rz × Int) (H : cz data a swaps cmp = some r) :
  PH Tryz.prog 163 [(.own 0 g_data (data.map (al 53 ab)).length),(ae a),(.box 1502 b_swaps 0),(.fn g_cmp caps_cmp)] ⟨upd (fun _=>none) 1502 (some ⟨b_swaps,[(ae swaps)]⟩),upd (fun _=>none) 0 (some ⟨g_data,51,(data.map (al 53 ab)),true⟩)⟩ (fun u H=>u = (ae r.1) ∧ H = ⟨upd (fun _=>none) 1502 (some ⟨b_swaps,[(ae r.2.2)]⟩),upd (fun _=>none) 0 (some ⟨g_data,51,(r.2.1.map (al 53 ab)),true⟩)⟩) := by
 unfold cz at H
 refine PH.aC Tryz.func163 Tryz.ntmps163 ?_
 refine aw 1 tk rfl (ac (af (am 8 tk rfl ?_)))
 obtain ⟨x17,h17,H⟩ := ax H
 have s17 := ju g_data b_swaps data (i64.wrap (a - (1 : Int))) a (i64.wrap (a + (1 : Int))) swaps cmp hg_cmp hp_cmp _ h17
 obtain ⟨_,q17_0,H⟩ := ax H
 have l17_0 := (bI q17_0).1
 have z17_0 : (List.map (al 53 ab) data).length = (List.map (al 53 ab) x17.2.1).length := by simpa using (l17_0).symm
 refine cf (g := 164) rfl rfl rfl Tryz.call164 [(1502,1504)] [(0,0)] rfl rfl rfl rfl (jc.of2 (iw.cons (np.own rfl) (iw.cons (np.of_eq rfl) (iw.cons (np.of_eq rfl) (iw.cons (np.of_eq rfl) (iw.cons np.boxT (iw.cons (np.of_eq rfl) iw.nil))))))) (by rw [dE,bR,bL,bS]; rfl) s17 ?_
 rintro u17 H17h ⟨rfl,rfl⟩
 refine ⟨_,rfl,?_⟩
 refine cA (st' := ⟨_,_,upd (fun _=>none) 1502 (some ⟨b_swaps,[(ae x17.2.2)]⟩),upd (fun _=>none) 0 (some ⟨g_data,51,(x17.2.1.map (al 53 ab)),true⟩)⟩) (Gh.le (bO _ _) (ay rfl (jc.r) ah) (aA ai)) ?_
 refine aq tk rfl (ag ?_)
 obtain rfl := ao H
 refine dN (st' := ⟨18,upd (fun _=>.any) 8 (ae x17.1),upd (fun _=>none) 1502 (some ⟨b_swaps,[(ae x17.2.2)]⟩),upd (fun _=>none) 0 (some ⟨g_data,51,(x17.2.1.map (al 53 ab)),true⟩)⟩) (Gh.le (aa ak) (ay rfl (jc.r) ah) (aA ai)) ?_
 refine eZ tk rfl (ps := [(ae x17.1)]) ⟨_,_,rfl,rfl,rfl⟩ (PLe.q rfl) ⟨rfl,rfl⟩
def kn (q : LQuery) : Option (Bool) :=
 aj (
  cond (decide (q.kind < (1 : Int)))
   (some true)
   (cond (decide (q.kind > (10 : Int)))
    (some true)
    (aj (aF ([(-1),0,1,1,2,2,2,2,1,1,1] : List Int) q.kind) fun (x21 : Int) =>
    some ((q.inputs.length : Int) != x21)))) fun (t1 : Bool) =>
 cond t1
  (some false)
  (aj (
   aj (dQ ([1] : List Int) q) fun x29 =>
   cond (!x29)
    (some (!(q.table == ([] : List UInt8))))
    (some false)) fun (t2 : Bool) =>
  aj (
   cond t2
    (some t2)
    (aj (
     aj (dQ ([3,8] : List Int) q) fun x38 =>
     cond (!x38)
      (some (decide ((q.names.length : Int) > (0 : Int))))
      (some false)) fun (t7 : Bool) =>
    cond t7
     (some t7)
     (aj (
      aj (dQ ([8] : List Int) q) fun x48 =>
      cond (!x48)
       (some (decide ((q.aggregates.length : Int) > (0 : Int))))
       (some false)) fun (t8 : Bool) =>
     cond t8
      (some t8)
      (aj (
       aj (dQ ([9] : List Int) q) fun x58 =>
       cond (!x58)
        (some (decide ((q.descending.length : Int) > (0 : Int))))
        (some false)) fun (t9 : Bool) =>
      cond t9
       (some t9)
       (aj (dQ ([10] : List Int) q) fun x68 =>
       cond (!x68)
        (cond (q.count != (0 : Int))
         (some true)
         (some (q.offset != (0 : Int))))
        (some false)))))) fun (t6 : Bool) =>
  cond t6
   (some false)
   (aj (dQ ([2,4,5] : List Int) q) fun x83 =>
   cond x83
    (some ((q.exprs.length : Int) == (1 : Int)))
    (aj (dQ ([3,8] : List Int) q) fun x91 =>
    cond x91
     (cond ((q.exprs.length : Int) == (q.names.length : Int))
      (some (decide ((i64.wrap ((q.exprs.length : Int) + (q.aggregates.length : Int))) > (0 : Int))))
      (some false))
     (aj (dQ ([9] : List Int) q) fun x112 =>
     cond x112
      (cond ((q.exprs.length : Int) == (q.descending.length : Int))
       (some (decide ((q.exprs.length : Int) > (0 : Int))))
       (some false))
      (aj (dQ ([10] : List Int) q) fun x129 =>
      cond x129
       (cond ((q.exprs.length : Int) == (0 : Int))
        (cond (decide (q.count ≥ (0 : Int)))
         (some (decide (q.offset ≥ (0 : Int))))
         (some false))
        (some false))
       (some ((q.exprs.length : Int) == (0 : Int))))))))
theorem W_query_shape (q : LQuery) (r : Bool) (H : kn q = some r) :
  aV Tryz.prog 110 [(.agg (bD q))] (aE r) := by
 unfold kn at H
 refine PH.aC Tryz.func110 Tryz.ntmps110 ?_
 refine ac (af (aT ?_))
 refine aq tk rfl (ag (ac (af (sy (e := 3) (rows := [[(ae (-1))],[(ae 0)],[(ae 1)],[(ae 1)],[(ae 2)],[(ae 2)],[(ae 2)],[(ae 2)],[(ae 1)],[(ae 1)],[(ae 1)]]) tk rfl rfl rfl rfl (rows' := List.map bJ ([(-1),0,1,1,2,2,2,2,1,1,1] : List Int)) (by kernel_rfl) (gk.refl _) rfl rfl (aq tk rfl (ag (ac (ac ?_))))))))
 obtain ⟨fl1,H1,Hp1⟩ := ax H
 refine aZ (τ := Bool) (γ := Unit) (fun t1 g1=>⟨148,upd (upd (fun _=>.any) 24 (aE t1)) 1 (.ptr [(ae q.kind),(.str q.table),(.list 9 (q.names.map co)),(.list 56 (q.exprs.map bc)),(.list 66 (q.aggregates.map cl)),(.list 4 (q.descending.map cB)),(ae q.count),(ae q.offset),(.list 35 (q.inputs.map aX))]),fun _=>none,fun _=>none⟩) (fun t=>t = fl1) ?_ (fun t1 g1 hn1=>?_)
 ·have H := H1
  refine bl tk mok ⟨false,false,[]⟩ [0,1,2,3,4,5,6,7,8,9,10,11,12,13,14,15,16,17,18] rfl (by decide +kernel) rfl (aJ 4 rfl ?_)
  refine im H (fun H=>?_) (fun H=>?_)
  ·refine aJ 15 rfl (be ?_)
   obtain rfl := ao H
   refine aO true () rfl (Gh.le (aa (aa ak)) ah ai)
  refine aJ 5 rfl ?_
  refine im H (fun H=>?_) (fun H=>?_)
  ·refine aJ 10 rfl (be ?_)
   obtain rfl := ao H
   refine aO true () rfl (Gh.le (aa (aa ak)) ah ai)
  refine aJ 2 rfl (sm rfl rfl rfl rfl rfl rfl (zl _) rfl (aJ 3 rfl ?_))
  obtain ⟨x21,k21,H⟩ := aW H
  refine bX k21.1 (aH (fun _=>rfl) k21.2) ?_
  refine aJ 3 rfl (be ?_)
  obtain rfl := ao H
  refine aO ((q.inputs.length : Int) != x21) () rfl (Gh.le (aa (aa ak)) ah ai)
 subst hn1
 have H := Hp1
 refine aP rfl H (fun H=>?_) (fun H=>?_)
 ·refine aw 1 tk rfl ?_
  obtain rfl := ao H
  refine aB tk rfl (ps := [(aE false)]) ⟨_,_,rfl,rfl,rfl⟩ (PLe.q rfl)
 refine av (aw 2 tk rfl (ac (az (ac (ac ?_)))))
 obtain ⟨fl2,H2,Hp2⟩ := ax H
 refine aZ (τ := Bool) (γ := Unit) (fun t2 g2=>⟨148,upd (upd (upd (fun _=>.any) 26 (aE t2)) 4 (.fn 151 [(.ptr [(ae q.kind),(.str q.table),(.list 9 (q.names.map co)),(.list 56 (q.exprs.map bc)),(.list 66 (q.aggregates.map cl)),(.list 4 (q.descending.map cB)),(ae q.count),(ae q.offset),(.list 35 (q.inputs.map aX))])])) 1 (.ptr [(ae q.kind),(.str q.table),(.list 9 (q.names.map co)),(.list 56 (q.exprs.map bc)),(.list 66 (q.aggregates.map cl)),(.list 4 (q.descending.map cB)),(ae q.count),(ae q.offset),(.list 35 (q.inputs.map aX))]),fun _=>none,fun _=>none⟩) (fun t=>t = fl2) ?_ (fun t2 g2 hn2=>?_)
 ·have H := H2
  refine af (aq tk rfl (cO tk (rows' := List.map bJ ([1] : List Int)) (gk.refl _) ?_))
  obtain ⟨x29,h29,H⟩ := ax H
  have s29 := fK ([1] : List Int) q _ h29
  refine au Tryz.call151 (jc.r) s29 ?_
  refine am 2 tk rfl ?_
  refine bG rfl rfl rfl H (fun H=>?_) (fun H=>?_)
  ·refine am 5 tk rfl (ag ?_)
   obtain rfl := ao H
   refine aO (!(q.table == ([] : List UInt8))) () rfl (Gh.le (aa (aa (aa ak))) ah ai)
  refine am 5 tk rfl (ag ?_)
  obtain rfl := ao H
  refine aO false () rfl (Gh.le (aa (aa (aa ak))) ah ai)
 subst hn2
 have H := Hp2
 obtain ⟨fl6,H6,Hp6⟩ := ax H
 refine aZ (τ := Bool) (γ := Unit) (fun t6 g6=>⟨148,upd (upd (upd (fun _=>.any) 26 (aE t6)) 4 (.fn 151 [(.ptr [(ae q.kind),(.str q.table),(.list 9 (q.names.map co)),(.list 56 (q.exprs.map bc)),(.list 66 (q.aggregates.map cl)),(.list 4 (q.descending.map cB)),(ae q.count),(ae q.offset),(.list 35 (q.inputs.map aX))])])) 1 (.ptr [(ae q.kind),(.str q.table),(.list 9 (q.names.map co)),(.list 56 (q.exprs.map bc)),(.list 66 (q.aggregates.map cl)),(.list 4 (q.descending.map cB)),(ae q.count),(ae q.offset),(.list 35 (q.inputs.map aX))]),fun _=>none,fun _=>none⟩) (fun t=>t = fl6) ?_ (fun t6 g6 hn6=>?_)
 ·have H := H6
  refine aP rfl H (fun H=>?_) (fun H=>?_)
  ·refine av ?_
   obtain rfl := ao H
   refine aO t2 () rfl (Gh.le (aa (aa (aa ak))) ah ai)
  refine ac ?_
  obtain ⟨fl7,H7,Hp7⟩ := ax H
  refine aZ (τ := Bool) (γ := Unit) (fun t7 g7=>⟨148,upd (upd (upd (fun _=>.any) 26 (aE t7)) 4 (.fn 151 [(.ptr [(ae q.kind),(.str q.table),(.list 9 (q.names.map co)),(.list 56 (q.exprs.map bc)),(.list 66 (q.aggregates.map cl)),(.list 4 (q.descending.map cB)),(ae q.count),(ae q.offset),(.list 35 (q.inputs.map aX))])])) 1 (.ptr [(ae q.kind),(.str q.table),(.list 9 (q.names.map co)),(.list 56 (q.exprs.map bc)),(.list 66 (q.aggregates.map cl)),(.list 4 (q.descending.map cB)),(ae q.count),(ae q.offset),(.list 35 (q.inputs.map aX))]),fun _=>none,fun _=>none⟩) (fun t=>t = fl7) ?_ (fun t7 g7 hn7=>?_)
  ·have H := H7
   refine af (aq tk rfl (cO tk (rows' := List.map bJ ([3,8] : List Int)) (gk.refl _) ?_))
   obtain ⟨x38,h38,H⟩ := ax H
   have s38 := fK ([3,8] : List Int) q _ h38
   refine au Tryz.call151 (jc.r) s38 ?_
   refine am 2 tk rfl ?_
   refine bG rfl rfl rfl H (fun H=>?_) (fun H=>?_)
   ·refine am 2 tk rfl (aN tk (zl _) ?_)
    refine am 3 tk rfl (ag ?_)
    obtain rfl := ao H
    refine aO (decide ((q.names.length : Int) > (0 : Int))) () rfl (Gh.le (aa (aa (aa ak))) ah ai)
   refine am 6 tk rfl (ag ?_)
   obtain rfl := ao H
   refine aO false () rfl (Gh.le (aa (aa (aa ak))) ah ai)
  subst hn7
  have H := Hp7
  refine aP rfl H (fun H=>?_) (fun H=>?_)
  ·refine av ?_
   obtain rfl := ao H
   refine aO t7 () rfl (Gh.le (aa (aa (aa ak))) ah ai)
  refine ac ?_
  obtain ⟨fl8,H8,Hp8⟩ := ax H
  refine aZ (τ := Bool) (γ := Unit) (fun t8 g8=>⟨148,upd (upd (upd (fun _=>.any) 26 (aE t8)) 4 (.fn 151 [(.ptr [(ae q.kind),(.str q.table),(.list 9 (q.names.map co)),(.list 56 (q.exprs.map bc)),(.list 66 (q.aggregates.map cl)),(.list 4 (q.descending.map cB)),(ae q.count),(ae q.offset),(.list 35 (q.inputs.map aX))])])) 1 (.ptr [(ae q.kind),(.str q.table),(.list 9 (q.names.map co)),(.list 56 (q.exprs.map bc)),(.list 66 (q.aggregates.map cl)),(.list 4 (q.descending.map cB)),(ae q.count),(ae q.offset),(.list 35 (q.inputs.map aX))]),fun _=>none,fun _=>none⟩) (fun t=>t = fl8) ?_ (fun t8 g8 hn8=>?_)
  ·have H := H8
   refine af (aq tk rfl (cO tk (rows' := List.map bJ ([8] : List Int)) (gk.refl _) ?_))
   obtain ⟨x48,h48,H⟩ := ax H
   have s48 := fK ([8] : List Int) q _ h48
   refine au Tryz.call151 (jc.r) s48 ?_
   refine am 2 tk rfl ?_
   refine bG rfl rfl rfl H (fun H=>?_) (fun H=>?_)
   ·refine am 2 tk rfl (aN tk (zl _) ?_)
    refine am 3 tk rfl (ag ?_)
    obtain rfl := ao H
    refine aO (decide ((q.aggregates.length : Int) > (0 : Int))) () rfl (Gh.le (aa (aa (aa ak))) ah ai)
   refine am 6 tk rfl (ag ?_)
   obtain rfl := ao H
   refine aO false () rfl (Gh.le (aa (aa (aa ak))) ah ai)
  subst hn8
  have H := Hp8
  refine aP rfl H (fun H=>?_) (fun H=>?_)
  ·refine av ?_
   obtain rfl := ao H
   refine aO t8 () rfl (Gh.le (aa (aa (aa ak))) ah ai)
  refine ac ?_
  obtain ⟨fl9,H9,Hp9⟩ := ax H
  refine aZ (τ := Bool) (γ := Unit) (fun t9 g9=>⟨148,upd (upd (upd (fun _=>.any) 26 (aE t9)) 4 (.fn 151 [(.ptr [(ae q.kind),(.str q.table),(.list 9 (q.names.map co)),(.list 56 (q.exprs.map bc)),(.list 66 (q.aggregates.map cl)),(.list 4 (q.descending.map cB)),(ae q.count),(ae q.offset),(.list 35 (q.inputs.map aX))])])) 1 (.ptr [(ae q.kind),(.str q.table),(.list 9 (q.names.map co)),(.list 56 (q.exprs.map bc)),(.list 66 (q.aggregates.map cl)),(.list 4 (q.descending.map cB)),(ae q.count),(ae q.offset),(.list 35 (q.inputs.map aX))]),fun _=>none,fun _=>none⟩) (fun t=>t = fl9) ?_ (fun t9 g9 hn9=>?_)
  ·have H := H9
   refine af (aq tk rfl (cO tk (rows' := List.map bJ ([9] : List Int)) (gk.refl _) ?_))
   obtain ⟨x58,h58,H⟩ := ax H
   have s58 := fK ([9] : List Int) q _ h58
   refine au Tryz.call151 (jc.r) s58 ?_
   refine am 2 tk rfl ?_
   refine bG rfl rfl rfl H (fun H=>?_) (fun H=>?_)
   ·refine am 2 tk rfl (aN tk (zl _) ?_)
    refine am 3 tk rfl (ag ?_)
    obtain rfl := ao H
    refine aO (decide ((q.descending.length : Int) > (0 : Int))) () rfl (Gh.le (aa (aa (aa ak))) ah ai)
   refine am 6 tk rfl (ag ?_)
   obtain rfl := ao H
   refine aO false () rfl (Gh.le (aa (aa (aa ak))) ah ai)
  subst hn9
  have H := Hp9
  refine aP rfl H (fun H=>?_) (fun H=>?_)
  ·refine av ?_
   obtain rfl := ao H
   refine aO t9 () rfl (Gh.le (aa (aa (aa ak))) ah ai)
  refine af (aq tk rfl (cO tk (rows' := List.map bJ ([10] : List Int)) (gk.refl _) ?_))
  obtain ⟨x68,h68,H⟩ := ax H
  have s68 := fK ([10] : List Int) q _ h68
  refine au Tryz.call151 (jc.r) s68 ?_
  refine am 2 tk rfl ?_
  refine bG rfl rfl rfl H (fun H=>?_) (fun H=>?_)
  ·refine am 4 tk rfl ?_
   refine bG rfl rfl rfl H (fun H=>?_) (fun H=>?_)
   ·refine am 6 tk rfl (ag ?_)
    obtain rfl := ao H
    refine aO true () rfl (Gh.le (aa (aa (aa ak))) ah ai)
   refine am 6 tk rfl (ag ?_)
   obtain rfl := ao H
   refine aO (q.offset != (0 : Int)) () rfl (Gh.le (aa (aa (aa ak))) ah ai)
  refine am 10 tk rfl (ag ?_)
  obtain rfl := ao H
  refine aO false () rfl (Gh.le (aa (aa (aa ak))) ah ai)
 subst hn6
 have H := Hp6
 refine aP rfl H (fun H=>?_) (fun H=>?_)
 ·refine aw 1 tk rfl ?_
  obtain rfl := ao H
  refine aB tk rfl (ps := [(aE false)]) ⟨_,_,rfl,rfl,rfl⟩ (PLe.q rfl)
 refine ac (af (aq tk rfl (cO tk (rows' := List.map bJ ([2,4,5] : List Int)) (gk.refl _) ?_)))
 obtain ⟨x83,h83,H⟩ := ax H
 have s83 := fK ([2,4,5] : List Int) q _ h83
 refine au Tryz.call151 (jc.r) s83 ?_
 refine aq tk rfl (ag ?_)
 refine aP rfl H (fun H=>?_) (fun H=>?_)
 ·refine ac (af (am 2 tk rfl (aN tk (zl _) ?_)))
  refine am 2 tk rfl (ag ?_)
  obtain rfl := ao H
  refine aB tk rfl (ps := [(aE ((q.exprs.length : Int) == (1 : Int)))]) ⟨_,_,rfl,rfl,rfl⟩ (PLe.q rfl)
 refine ac (af (aq tk rfl (cO tk (rows' := List.map bJ ([3,8] : List Int)) (gk.refl _) ?_)))
 obtain ⟨x91,h91,H⟩ := ax H
 have s91 := fK ([3,8] : List Int) q _ h91
 refine au Tryz.call151 (jc.r) s91 ?_
 refine aq tk rfl (ag ?_)
 refine aP rfl H (fun H=>?_) (fun H=>?_)
 ·refine ac (af (am 2 tk rfl (aN tk (zl _) ?_)))
  refine am 2 tk rfl (aN tk (zl _) ?_)
  refine am 2 tk rfl ?_
  refine bG rfl rfl rfl H (fun H=>?_) (fun H=>?_)
  ·refine am 2 tk rfl (aN tk (zl _) ?_)
   refine am 2 tk rfl (aN tk (zl _) ?_)
   refine am 4 tk rfl (ag ?_)
   obtain rfl := ao H
   refine aB tk rfl (ps := [(aE (decide ((i64.wrap ((q.exprs.length : Int) + (q.aggregates.length : Int))) > (0 : Int))))]) ⟨_,_,rfl,rfl,rfl⟩ (PLe.q rfl)
  refine am 10 tk rfl (ag ?_)
  obtain rfl := ao H
  refine aB tk rfl (ps := [(aE false)]) ⟨_,_,rfl,rfl,rfl⟩ (PLe.q rfl)
 refine ac (af (aq tk rfl (cO tk (rows' := List.map bJ ([9] : List Int)) (gk.refl _) ?_)))
 obtain ⟨x112,h112,H⟩ := ax H
 have s112 := fK ([9] : List Int) q _ h112
 refine au Tryz.call151 (jc.r) s112 ?_
 refine aq tk rfl (ag ?_)
 refine aP rfl H (fun H=>?_) (fun H=>?_)
 ·refine ac (af (am 2 tk rfl (aN tk (zl _) ?_)))
  refine am 2 tk rfl (aN tk (zl _) ?_)
  refine am 2 tk rfl ?_
  refine bG rfl rfl rfl H (fun H=>?_) (fun H=>?_)
  ·refine am 2 tk rfl (aN tk (zl _) ?_)
   refine am 3 tk rfl (ag ?_)
   obtain rfl := ao H
   refine aB tk rfl (ps := [(aE (decide ((q.exprs.length : Int) > (0 : Int))))]) ⟨_,_,rfl,rfl,rfl⟩ (PLe.q rfl)
  refine am 6 tk rfl (ag ?_)
  obtain rfl := ao H
  refine aB tk rfl (ps := [(aE false)]) ⟨_,_,rfl,rfl,rfl⟩ (PLe.q rfl)
 refine ac (af (aq tk rfl (cO tk (rows' := List.map bJ ([10] : List Int)) (gk.refl _) ?_)))
 obtain ⟨x129,h129,H⟩ := ax H
 have s129 := fK ([10] : List Int) q _ h129
 refine au Tryz.call151 (jc.r) s129 ?_
 refine aq tk rfl (ag ?_)
 refine aP rfl H (fun H=>?_) (fun H=>?_)
 ·refine ac (af (am 2 tk rfl (aN tk (zl _) ?_)))
  refine am 2 tk rfl ?_
  refine bG rfl rfl rfl H (fun H=>?_) (fun H=>?_)
  ·refine am 5 tk rfl ?_
   refine bG rfl rfl rfl H (fun H=>?_) (fun H=>?_)
   ·refine am 5 tk rfl (ag ?_)
    obtain rfl := ao H
    refine aB tk rfl (ps := [(aE (decide (q.offset ≥ (0 : Int))))]) ⟨_,_,rfl,rfl,rfl⟩ (PLe.q rfl)
   refine am 5 tk rfl (ag ?_)
   obtain rfl := ao H
   refine aB tk rfl (ps := [(aE false)]) ⟨_,_,rfl,rfl,rfl⟩ (PLe.q rfl)
  refine am 10 tk rfl (ag ?_)
  obtain rfl := ao H
  refine aB tk rfl (ps := [(aE false)]) ⟨_,_,rfl,rfl,rfl⟩ (PLe.q rfl)
 refine av (aQ (ac (af (am 2 tk rfl (aN tk (zl _) ?_)))))
 refine am 2 tk rfl (ag ?_)
 obtain rfl := ao H
 refine aB tk rfl (ps := [(aE ((q.exprs.length : Int) == (0 : Int)))]) ⟨_,_,rfl,rfl,rfl⟩ (PLe.q rfl)
def dV (c : LChecker) (l : List LCol) (e : LExpr) : Int :=
 bo (dk l c.vars e) fun x15 =>
 cond (x15.2.2 == (0 : Int))
  (cond (x15.1 != (2 : Int))
   (cond (x15.1 != (0 : Int))
    (7)
    (x15.2.2))
   (x15.2.2))
  (x15.2.2)
theorem kx (c : LChecker) (l : List LCol) (e : LExpr) :
  aV Tryz.prog 156 [(.agg (jv c)),(.list 50 (l.map aG)),(.agg (mm e))] (ae (dV c l e)) := by
 obtain ⟨r,H⟩ : ∃ r,dV c l e = r := ⟨_,rfl⟩
 rw [H]
 unfold dV at H
 refine PH.aC Tryz.func156 Tryz.ntmps156 ?_
 refine ac (af (aT ?_))
 refine aT ?_
 refine aq tk rfl (ag (ac (af (am 4 tk rfl ?_))))
 obtain ⟨x15,h15,H⟩ := bK H
 have s15 := mO l c.vars e
 rw [h15] at s15
 refine au Tryz.call159 (jc.r) s15 ?_
 refine am 7 tk rfl (ag (ac (ac (af (am 3 tk rfl ?_)))))
 refine bG rfl rfl rfl H (fun H=>?_) (fun H=>?_)
 ·refine am 4 tk rfl ?_
  refine bG rfl rfl rfl H (fun H=>?_) (fun H=>?_)
  ·refine am 3 tk rfl (ag ?_)
   refine aP rfl H (fun H=>?_) (fun H=>?_)
   ·refine aw 1 tk rfl ?_
    subst H
    refine aB tk rfl (ps := [(ae 7)]) ⟨_,_,rfl,rfl,rfl⟩ (PLe.q rfl)
   refine av (aw 2 tk rfl ?_)
   subst H
   refine aB tk rfl (ps := [(ae x15.2.2)]) ⟨_,_,rfl,rfl,rfl⟩ (PLe.q rfl)
  refine am 3 tk rfl (ag (bH rfl (av (aw 2 tk rfl ?_))))
  subst H
  refine aB tk rfl (ps := [(ae x15.2.2)]) ⟨_,_,rfl,rfl,rfl⟩ (PLe.q rfl)
 refine am 7 tk rfl (ag (bH rfl (av (aw 2 tk rfl ?_))))
 subst H
 refine aB tk rfl (ps := [(ae x15.2.2)]) ⟨_,_,rfl,rfl,rfl⟩ (PLe.q rfl)
def gu (c : LChecker) (inA : List LCol) (a : LAggregateCall) : Option (Int × Int) :=
 aj (
  bo (dR a.name) fun x13 =>
  cond (!x13)
   (some true)
   (aj (dZ ([[99,111,117,110,116],[115,117,109],[109,105,110],[109,97,120]] : List (List UInt8)) a.function) fun x19 =>
   cond (!x19)
    (some true)
    (cond (decide ((a.args.length : Int) > (1 : Int)))
     (some true)
     (cond (decide ((a.args.length : Int) < (1 : Int)))
      (some (!(a.function == ([99,111,117,110,116] : List UInt8))))
      (some false))))) fun (t1 : Bool) =>
 cond t1
  (some (0,3))
  (cond ((a.args.length : Int) == (0 : Int))
   (some (1,0))
   (aj (aF a.args 0) fun (x49 : LExpr) =>
   bo (dk inA c.vars x49) fun x51 =>
   cond (x51.2.2 != (0 : Int))
    (some (0,x51.2.2))
    (bo (
     cond (x51.1 == (0 : Int))
      (true)
      (cond (a.function == ([115,117,109] : List UInt8))
       ((x51.1 != (1 : Int)))
       (false))) fun (t2 : Bool) =>
    cond t2
     (some (0,7))
     (cond (a.function == ([99,111,117,110,116] : List UInt8))
      (some (1,0))
      (some (x51.1,0))))))
theorem qu (c : LChecker) (inA : List LCol) (a : LAggregateCall) (r : Int × Int) (H : gu c inA a = some r) :
  aV Tryz.prog 181 [(.agg (jv c)),(.list 50 (inA.map aG)),(.agg (cl a))] (.tup [(ae r.1),(ae r.2)]) := by
 unfold gu at H
 refine PH.aC Tryz.func181 Tryz.ntmps181 ?_
 refine ac (af (aT ?_))
 refine aT ?_
 refine am 2 tk rfl (ag (ac (ac ?_)))
 obtain ⟨fl1,H1,Hp1⟩ := ax H
 refine aZ (τ := Bool) (γ := Unit) (fun t1 g1=>⟨76,upd (upd (upd (upd (fun _=>.any) 38 (aE t1)) 5 (.ptr [(.str a.name),(.str a.function),(.list 56 (a.args.map bc))])) 3 (.ptr [(.list 91 (c.s.tables.map bA)),(.list 142 (c.s.foreignKeys.map cD)),(.list 148 (c.s.constraints.map cN)),(.list 50 (c.vars.map aG))])) 1 (.list 50 (inA.map aG)),fun _=>none,fun _=>none⟩) (fun t=>t = fl1) ?_ (fun t1 g1 hn1=>?_)
 ·have H := H1
  refine af (am 2 tk rfl ?_)
  obtain ⟨x13,h13,H⟩ := bK H
  have s13 := lW a.name
  rw [h13] at s13
  refine au Tryz.call180 (jc.r) s13 ?_
  refine am 2 tk rfl ?_
  refine bG rfl rfl rfl H (fun H=>?_) (fun H=>?_)
  ·refine am 23 tk rfl (ag ?_)
   obtain rfl := ao H
   refine aO true () rfl (Gh.le (aa (aa (aa (aa ak)))) ah ai)
  refine cO tk (rows' := List.map co ([[99,111,117,110,116],[115,117,109],[109,105,110],[109,97,120]] : List (List UInt8))) (gk.refl _) ?_
  refine am 2 tk rfl ?_
  obtain ⟨x19,h19,H⟩ := ax H
  have s19 := lu ([[99,111,117,110,116],[115,117,109],[109,105,110],[109,97,120]] : List (List UInt8)) a.function _ h19
  refine au Tryz.call48 (jc.r) s19 ?_
  refine am 3 tk rfl ?_
  refine bG rfl rfl rfl H (fun H=>?_) (fun H=>?_)
  ·refine am 16 tk rfl (ag ?_)
   obtain rfl := ao H
   refine aO true () rfl (Gh.le (aa (aa (aa (aa ak)))) ah ai)
  refine am 2 tk rfl (aN tk (zl _) ?_)
  refine am 3 tk rfl ?_
  refine bG rfl rfl rfl H (fun H=>?_) (fun H=>?_)
  ·refine am 10 tk rfl (ag ?_)
   obtain rfl := ao H
   refine aO true () rfl (Gh.le (aa (aa (aa (aa ak)))) ah ai)
  refine am 2 tk rfl (aN tk (zl _) ?_)
  refine am 2 tk rfl ?_
  refine bG rfl rfl rfl H (fun H=>?_) (fun H=>?_)
  ·refine am 5 tk rfl (ag ?_)
   obtain rfl := ao H
   refine aO (!(a.function == ([99,111,117,110,116] : List UInt8))) () rfl (Gh.le (aa (aa (aa (aa ak)))) ah ai)
  refine am 5 tk rfl (ag ?_)
  obtain rfl := ao H
  refine aO false () rfl (Gh.le (aa (aa (aa (aa ak)))) ah ai)
 subst hn1
 have H := Hp1
 refine aP rfl H (fun H=>?_) (fun H=>?_)
 ·refine aw 2 tk rfl ?_
  obtain rfl := ao H
  refine aB tk rfl (ps := [(ae 0),(ae 3)]) ⟨_,_,rfl,rfl,_,_,rfl,rfl,rfl⟩ (PLe.q rfl)
 refine av (ac (ac (af (am 2 tk rfl (aN tk (zl _) ?_)))))
 refine aq tk rfl (ag ?_)
 refine aP rfl H (fun H=>?_) (fun H=>?_)
 ·refine aw 2 tk rfl ?_
  obtain rfl := ao H
  refine aB tk rfl (ps := [(ae 1),(ae 0)]) ⟨_,_,rfl,rfl,_,_,rfl,rfl,rfl⟩ (PLe.q rfl)
 refine av (ac (bl tk mok ⟨false,false,[]⟩ [0,1,2,3,4,5,6,7,8,9,10,11,12,13,14] rfl (by decide +kernel) rfl (aJ 5 rfl ?_)))
 obtain ⟨x49,k49,H⟩ := aW H
 refine bX k49.1 (aH eF k49.2) ?_
 refine cC rfl ?_
 obtain ⟨x51,h51,H⟩ := bK H
 have s51 := mO inA c.vars x49
 rw [h51] at s51
 refine bg Tryz.call159 (jc.r) s51 ?_
 refine aJ 7 rfl (be (ac (az (aw 3 tk rfl ?_))))
 refine aP rfl H (fun H=>?_) (fun H=>?_)
 ·refine aw 3 tk rfl ?_
  obtain rfl := ao H
  refine aB tk rfl (ps := [(ae 0),(ae x51.2.2)]) ⟨_,_,rfl,rfl,_,_,rfl,rfl,rfl⟩ (PLe.q rfl)
 refine ac ?_
 obtain ⟨fl2,H2,Hp2⟩ := bK H
 refine aZ (τ := Bool) (γ := Unit) (fun t2 g2=>⟨76,upd (upd (upd (fun _=>.any) 59 (aE t2)) 8 (ae x51.1)) 5 (.ptr [(.str a.name),(.str a.function),(.list 56 (a.args.map bc))]),fun _=>none,fun _=>none⟩) (fun t=>t = fl2) ?_ (fun t2 g2 hn2=>?_)
 ·have H := H2
  refine af (am 3 tk rfl ?_)
  refine bG rfl rfl rfl H (fun H=>?_) (fun H=>?_)
  ·refine am 9 tk rfl (ag ?_)
   subst H
   refine aO true () rfl (Gh.le (aa (aa (aa ak))) ah ai)
  refine am 4 tk rfl ?_
  refine bG rfl rfl rfl H (fun H=>?_) (fun H=>?_)
  ·refine am 5 tk rfl (ag ?_)
   subst H
   refine aO (x51.1 != (1 : Int)) () rfl (Gh.le (aa (aa (aa ak))) ah ai)
  refine am 5 tk rfl (ag ?_)
  subst H
  refine aO false () rfl (Gh.le (aa (aa (aa ak))) ah ai)
 subst hn2
 have H := Hp2
 refine aP rfl H (fun H=>?_) (fun H=>?_)
 ·refine aw 2 tk rfl ?_
  obtain rfl := ao H
  refine aB tk rfl (ps := [(ae 0),(ae 7)]) ⟨_,_,rfl,rfl,_,_,rfl,rfl,rfl⟩ (PLe.q rfl)
 refine aw 4 tk rfl ?_
 refine aP rfl H (fun H=>?_) (fun H=>?_)
 ·refine aw 2 tk rfl ?_
  obtain rfl := ao H
  refine aB tk rfl (ps := [(ae 1),(ae 0)]) ⟨_,_,rfl,rfl,_,_,rfl,rfl,rfl⟩ (PLe.q rfl)
 refine av (aQ (aw 3 tk rfl ?_))
 obtain rfl := ao H
 refine aB tk rfl (ps := [(ae x51.1),(ae 0)]) ⟨_,_,rfl,rfl,_,_,rfl,rfl,rfl⟩ (PLe.q rfl)
def fG (a : Rq) (b : Rq) : Option (Int) :=
 aj (oy (if (b.length : Int) < (a.length : Int) then (b.length : Int) else (a.length : Int))) fun (n1 : Nat) =>
 aj (ba (σ := Unit) (ρ := (Int)) (fun (j1 : Nat) (_ : Nat) (_ : Unit) =>
  aj (aF a (j1 : Int)) fun (x17 : LVal) =>
  aj (aF b (j1 : Int)) fun (x21 : LVal) =>
  bo (jA x17 x21) fun x23 =>
  cond (x23 != (0 : Int))
   (some (.ret x23))
   (some (.next ()))) 0 (List.range n1) ()) fun fl1=>fl1.thenR fun (_ : Unit) =>
 bo (gA (a.length : Int) (b.length : Int)) fun x32 =>
 some x32
theorem qt (a : Rq) (b : Rq) (r : Int) (H : fG a b = some r) :
  aV Tryz.prog 85 [(.list 53 (a.map ab)),(.list 53 (b.map ab))] (ae r) := by
 unfold fG at H
 refine PH.aC Tryz.func85 Tryz.ntmps85 ?_
 refine aw 1 tk rfl (ac (ac (af (aq tk rfl (aN tk (zl _) ?_)))))
 refine aq tk rfl (aN tk (zl _) ?_)
 refine am 2 tk rfl (ag ?_)
 obtain ⟨n1,hs1,H⟩ := ax H
 have hz1 := pl hs1
 obtain ⟨fl1,H1,Hp1⟩ := ax H
 refine aZ (τ := Unit) (γ := Unit) (fun s1 g1=>⟨33,upd (upd (fun _=>.any) 1 (.list 53 (b.map ab))) 0 (.list 53 (a.map ab)),fun _=>none,fun _=>none⟩) (fun t=>fl1 = .next t) ?_ (fun s1 g1 hn1=>?_)
 ·refine az ?_
  refine bF (fun j1 s1 g1=>⟨33,upd (upd (upd (upd (fun _=>.any) 12 (ae (j1 : Int))) 11 (ae (if (b.length : Int) < (a.length : Int) then (b.length : Int) else (a.length : Int)))) 1 (.list 53 (b.map ab))) 0 (.list 53 (a.map ab)),fun _=>none,fun _=>none⟩) () H1 (Gh.le (aa (aa (aa (aa ak)))) ah ai) (fun j1 s1 g1 hj1 hr1=>?_)
  refine aw 1 tk rfl (ac ?_)
  refine aY rfl (fun h=>?_) (fun h=>?_)
  ·have hl1 := natLt hz1 h
   obtain ⟨x1,fb1,hx1,H,hg1⟩ := rMc hl1 hr1
   obtain rfl := natX hx1
   refine av (ac (az (aw 2 tk rfl (ac (bl tk mok ⟨false,false,[]⟩ [0,1,2,3,4,5,6,7,8,9] rfl (by decide +kernel) rfl (aJ 2 rfl ?_))))))
   obtain ⟨x17,k17,H⟩ := aW H
   refine bX k17.1 (aH (fun _=>rfl) k17.2) ?_
   refine aJ 3 rfl ?_
   obtain ⟨x21,k21,H⟩ := aW H
   refine bX k21.1 (aH (fun _=>rfl) k21.2) ?_
   refine cC rfl ?_
   obtain ⟨x23,h23,H⟩ := bK H
   have s23 := oX x17 x21
   rw [h23] at s23
   refine bg Tryz.call106 (jc.r) s23 ?_
   refine cC rfl (be (aw 2 tk rfl ?_))
   refine aP rfl H (fun H=>?_) (fun H=>?_)
   ·refine aw 2 tk rfl ?_
    obtain rfl := ao H
    have e1 : fl1 = .ret _ := hg1
    subst e1
    obtain rfl := bj Hp1
    refine aB tk rfl (ps := [(ae x23)]) ⟨_,_,rfl,rfl,rfl⟩ (PLe.q rfl)
   refine av (aQ (bh 2 tk rfl ?_))
   obtain rfl := ao H
   refine aK () () ⟨hl1,hg1⟩ (Gh.le (aa (aa (aa (aI (PLe.q (pS hz1 hl1)) ak)))) ah ai)
  have hn1 := rMd (natGe hz1 h) hr1
  refine aR rfl ?_
  refine aO s1 g1 hn1 (Gh.le (aa (aa ak)) ah ai)
 have H := ck hn1 Hp1
 refine ac (af (aq tk rfl (aN tk (zl _) ?_)))
 refine aq tk rfl (aN tk (zl _) ?_)
 obtain ⟨x32,h32,H⟩ := bK H
 have s32 := ku (a.length : Int) (b.length : Int)
 rw [h32] at s32
 refine au Tryz.call107 (jc.r) s32 ?_
 refine aq tk rfl (ag ?_)
 obtain rfl := ao H
 refine aB tk rfl (ps := [(ae x32)]) ⟨_,_,rfl,rfl,rfl⟩ (PLe.q rfl)
def dj (data : Rz) (n : Int) (cmp : Rq → Rq → Option (Int)) : Option (Rz) :=
 aj (whileM (σ := Rz × Int × Int) (ρ := Empty) (fun (s1 : Rz × Int × Int) =>
  cond (decide (s1.2.2 ≤ n))
   (aj (bZ s1.1 s1.2.1 s1.2.2 cmp) fun x18 =>
   aj (cF (x18.length = s1.1.length) ()) fun (_ : Unit) =>
   some (.next (x18,s1.2.2,(i64.wrap (s1.2.2 + (20 : Int))))))
   (some (.brk (s1.1,s1.2.1,s1.2.2)))) (data,0,20)) fun fl1=>fl1.thenP fun (s1 : Rz × Int × Int) =>
 aj (bZ s1.1 s1.2.1 n cmp) fun x27 =>
 aj (cF (x27.length = s1.1.length) ()) fun (_ : Unit) =>
 aj (whileM (σ := Rz × Int) (ρ := Empty) (fun (s2 : Rz × Int) =>
  cond (decide (s2.2 < n))
   (aj (whileM (σ := Rz × Int × Int) (ρ := Empty) (fun (s5 : Rz × Int × Int) =>
    cond (decide (s5.2.2 ≤ n))
     (aj (fm s5.1 s5.2.1 (i64.wrap (s5.2.1 + s2.2)) s5.2.2 cmp) fun x43 =>
     aj (cF (x43.length = s5.1.length) ()) fun (_ : Unit) =>
     some (.next (x43,s5.2.2,(i64.wrap (s5.2.2 + (i64.wrap ((2 : Int) * s2.2)))))))
     (some (.brk (s5.1,s5.2.1,s5.2.2)))) (s2.1,0,(i64.wrap ((2 : Int) * s2.2)))) fun fl5=>fl5.thenP fun (s5 : Rz × Int × Int) =>
   cond (decide ((i64.wrap (s5.2.1 + s2.2)) < n))
    (aj (fm s5.1 s5.2.1 (i64.wrap (s5.2.1 + s2.2)) n cmp) fun x60 =>
    aj (cF (x60.length = s5.1.length) ()) fun (_ : Unit) =>
    some (.next (x60,(i64.wrap (s2.2 * (2 : Int))))))
    (some (.next (s5.1,(i64.wrap (s2.2 * (2 : Int)))))))
   (some (.brk (s2.1,s2.2)))) (x27,20)) fun fl2=>fl2.thenP fun (s2 : Rz × Int) =>
 some s2.1
theorem lZ (g_data : OwnRef) {g_cmp : FuncId} {caps_cmp : List PV} (data : Rz) (n : Int) (cmp : Rq → Rq → Option (Int)) (hg_cmp : ∀ (vs : Array Value) (w : World),(callFunc g_cmp vs).run Tryz.prog w = .ok (.enter g_cmp vs) w) (hp_cmp : ∀ a0 a1 r,cmp a0 a1 = some r → aV Tryz.prog g_cmp ((.list 53 (a0.map ab)) :: (.list 53 (a1.map ab)) :: caps_cmp) (ae r)) (r : Rz) (H : dj data n cmp = some r) :
  PH Tryz.prog 194 [(.own 0 g_data (data.map (al 53 ab)).length),(ae n),(.fn g_cmp caps_cmp)] ⟨fun _=>none,upd (fun _=>none) 0 (some ⟨g_data,51,(data.map (al 53 ab)),true⟩)⟩ (fun u H=>u = (.tup []) ∧ H = ⟨fun _=>none,upd (fun _=>none) 0 (some ⟨g_data,51,(r.map (al 53 ab)),true⟩)⟩) := by
 unfold dj at H
 refine PH.aC Tryz.func194 Tryz.ntmps194 ?_
 refine aw 1 tk rfl (aw 3 tk rfl (ac ?_))
 obtain ⟨fl1,H1,Hp1⟩ := ax H
 refine aZ (τ := Rz × Int × Int) (γ := Unit) (fun s1 g1=>⟨63,upd (upd (upd (upd (upd (fun _=>.any) 7 (ae s1.2.1)) 6 (ae 20)) 2 (.fn g_cmp caps_cmp)) 1 (ae n)) 0 (.own 0 g_data (s1.1.map (al 53 ab)).length),fun _=>none,upd (fun _=>none) 0 (some ⟨g_data,51,(s1.1.map (al 53 ab)),true⟩)⟩) (fun t=>fl1 = .next t) ?_ (fun s1 g1 hn1=>?_)
 ·refine az ?_
  refine cP (fun s1 g1=>⟨63,upd (upd (upd (upd (upd (upd (fun _=>.any) 8 (ae s1.2.2)) 7 (ae s1.2.1)) 6 (ae 20)) 2 (.fn g_cmp caps_cmp)) 1 (ae n)) 0 (.own 0 g_data (s1.1.map (al 53 ab)).length),fun _=>none,upd (fun _=>none) 0 (some ⟨g_data,51,(s1.1.map (al 53 ab)),true⟩)⟩) () H1 (Gh.le (aa (aa (aa (aa (aa (aa ak)))))) ah (aA ai)) (fun m1 s1 g1 hr1=>?_)
  obtain ⟨fb1,H,hg1⟩ := cn hr1
  refine ac (aw 3 tk rfl ?_)
  refine aP rfl H (fun H=>?_) (fun H=>?_)
  ·refine av (az (ac (af (am 4 tk rfl ?_))))
   obtain ⟨x18,h18,H⟩ := ax H
   have s18 := fN g_data s1.1 s1.2.1 s1.2.2 cmp hg_cmp hp_cmp _ h18
   obtain ⟨_,q18_0,H⟩ := ax H
   have l18_0 := (bI q18_0).1
   have z18_0 : (List.map (al 53 ab) s1.1).length = (List.map (al 53 ab) x18).length := by simpa using (l18_0).symm
   refine cf (g := 114) rfl rfl rfl Tryz.call114 [] [(0,0)] rfl rfl rfl rfl (jc.of2 (iw.cons (np.own rfl) (iw.cons (np.of_eq rfl) (iw.cons (np.of_eq rfl) (iw.cons (np.of_eq rfl) iw.nil))))) (by rw [bR,bL,bS]; rfl) s18 ?_
   rintro u18 H18h ⟨rfl,rfl⟩
   refine ⟨_,rfl,?_⟩
   refine cA (st' := ⟨_,_,fun _=>none,upd (fun _=>none) 0 (some ⟨g_data,51,(x18.map (al 53 ab)),true⟩)⟩) (Gh.le (bO _ _) ah (aA ai)) ?_
   refine ag (aw 2 tk rfl (bh 4 tk rfl (aQ ?_)))
   obtain rfl := ao H
   refine aK (x18,s1.2.2,(i64.wrap (s1.2.2 + (20 : Int)))) () hg1 (Gh.le (aI (PLe.of2 (np.of_eq (congrArg (PV.own 0 g_data) z18_0))) (aa (aa (aa (aa (aa ak)))))) ah (aA ai))
  refine aR rfl ?_
  obtain rfl := ao H
  refine aO (s1.1,s1.2.1,s1.2.2) () hg1 (Gh.le (aa (aa (aa (aa (aa ak))))) ah (aA ai))
 have H := bq hn1 Hp1
 refine ac (af (am 4 tk rfl ?_))
 obtain ⟨x27,h27,H⟩ := ax H
 have s27 := fN g_data s1.1 s1.2.1 n cmp hg_cmp hp_cmp _ h27
 obtain ⟨_,q27_0,H⟩ := ax H
 have l27_0 := (bI q27_0).1
 have z27_0 : (List.map (al 53 ab) s1.1).length = (List.map (al 53 ab) x27).length := by simpa using (l27_0).symm
 refine cf (g := 114) rfl rfl rfl Tryz.call114 [] [(0,0)] rfl rfl rfl rfl (jc.of2 (iw.cons (np.own rfl) (iw.cons (np.of_eq rfl) (iw.cons (np.of_eq rfl) (iw.cons (np.of_eq rfl) iw.nil))))) (by rw [bR,bL,bS]; rfl) s27 ?_
 rintro u27 H27h ⟨rfl,rfl⟩
 refine ⟨_,rfl,?_⟩
 refine cA (st' := ⟨_,_,fun _=>none,upd (fun _=>none) 0 (some ⟨g_data,51,(x27.map (al 53 ab)),true⟩)⟩) (Gh.le (bO _ _) ah (aA ai)) ?_
 refine ag ?_
 obtain ⟨fl2,H2,Hp2⟩ := ax H
 refine aZ (τ := Rz × Int) (γ := Unit) (fun s2 g2=>⟨63,upd (fun _=>.any) 0 (.own 0 g_data (s2.1.map (al 53 ab)).length),fun _=>none,upd (fun _=>none) 0 (some ⟨g_data,51,(s2.1.map (al 53 ab)),true⟩)⟩) (fun t=>fl2 = .next t) ?_ (fun s2 g2 hn2=>?_)
 ·refine az ?_
  refine cP (fun s2 g2=>⟨63,upd (upd (upd (upd (fun _=>.any) 6 (ae s2.2)) 2 (.fn g_cmp caps_cmp)) 1 (ae n)) 0 (.own 0 g_data (s2.1.map (al 53 ab)).length),fun _=>none,upd (fun _=>none) 0 (some ⟨g_data,51,(s2.1.map (al 53 ab)),true⟩)⟩) () H2 (Gh.le (aI (PLe.of2 (np.of_eq (congrArg (PV.own 0 g_data) z27_0))) (aa (aa (aa ak)))) ah (aA ai)) (fun m2 s2 g2 hr2=>?_)
  obtain ⟨fb2,H,hg2⟩ := cn hr2
  refine ac (aw 3 tk rfl ?_)
  refine aP rfl H (fun H=>?_) (fun H=>?_)
  ·refine av (az (aw 4 tk rfl (ac ?_)))
   obtain ⟨fl5,H5,Hp5⟩ := ax H
   refine aZ (τ := Rz × Int × Int) (γ := Unit) (fun s5 g5=>⟨63,upd (upd (upd (upd (upd (fun _=>.any) 7 (ae s5.2.1)) 6 (ae s2.2)) 2 (.fn g_cmp caps_cmp)) 1 (ae n)) 0 (.own 0 g_data (s5.1.map (al 53 ab)).length),fun _=>none,upd (fun _=>none) 0 (some ⟨g_data,51,(s5.1.map (al 53 ab)),true⟩)⟩) (fun t=>fl5 = .next t) ?_ (fun s5 g5 hn5=>?_)
   ·refine az ?_
    refine cP (fun s5 g5=>⟨63,upd (upd (upd (upd (upd (upd (fun _=>.any) 8 (ae s5.2.2)) 7 (ae s5.2.1)) 6 (ae s2.2)) 2 (.fn g_cmp caps_cmp)) 1 (ae n)) 0 (.own 0 g_data (s5.1.map (al 53 ab)).length),fun _=>none,upd (fun _=>none) 0 (some ⟨g_data,51,(s5.1.map (al 53 ab)),true⟩)⟩) () H5 (Gh.le (aa (aa (aa (aa (aa (aa ak)))))) ah (aA ai)) (fun m5 s5 g5 hr5=>?_)
    obtain ⟨fb5,H,hg5⟩ := cn hr5
    refine ac (aw 3 tk rfl ?_)
    refine aP rfl H (fun H=>?_) (fun H=>?_)
    ·refine av (az (ac (af (am 7 tk rfl ?_))))
     obtain ⟨x43,h43,H⟩ := ax H
     have s43 := jf g_data s5.1 s5.2.1 (i64.wrap (s5.2.1 + s2.2)) s5.2.2 cmp hg_cmp hp_cmp _ h43
     obtain ⟨_,q43_0,H⟩ := ax H
     have l43_0 := (bI q43_0).1
     have z43_0 : (List.map (al 53 ab) s5.1).length = (List.map (al 53 ab) x43).length := by simpa using (l43_0).symm
     refine cf (g := 204) rfl rfl rfl Tryz.call204 [] [(0,0)] rfl rfl rfl rfl (jc.of2 (iw.cons (np.own rfl) (iw.cons (np.of_eq rfl) (iw.cons (np.of_eq rfl) (iw.cons (np.of_eq rfl) (iw.cons (np.of_eq rfl) iw.nil)))))) (by rw [bR,bL,bS]; rfl) s43 ?_
     rintro u43 H43h ⟨rfl,rfl⟩
     refine ⟨_,rfl,?_⟩
     refine cA (st' := ⟨_,_,fun _=>none,upd (fun _=>none) 0 (some ⟨g_data,51,(x43.map (al 53 ab)),true⟩)⟩) (Gh.le (bO _ _) ah (aA ai)) ?_
     refine ag (aw 2 tk rfl (bh 5 tk rfl (aQ ?_)))
     obtain rfl := ao H
     refine aK (x43,s5.2.2,(i64.wrap (s5.2.2 + (i64.wrap ((2 : Int) * s2.2))))) () hg5 (Gh.le (aI (PLe.of2 (np.of_eq (congrArg (PV.own 0 g_data) z43_0))) (aa (aa (aa (aa (aa ak)))))) ah (aA ai))
    refine aR rfl ?_
    obtain rfl := ao H
    refine aO (s5.1,s5.2.1,s5.2.2) () hg5 (Gh.le (aa (aa (aa (aa (aa ak))))) ah (aA ai))
   have H := bq hn5 Hp5
   refine ac (aw 4 tk rfl (aw 3 tk rfl ?_))
   refine aP rfl H (fun H=>?_) (fun H=>?_)
   ·refine af (am 5 tk rfl ?_)
    obtain ⟨x60,h60,H⟩ := ax H
    have s60 := jf g_data s5.1 s5.2.1 (i64.wrap (s5.2.1 + s2.2)) n cmp hg_cmp hp_cmp _ h60
    obtain ⟨_,q60_0,H⟩ := ax H
    have l60_0 := (bI q60_0).1
    have z60_0 : (List.map (al 53 ab) s5.1).length = (List.map (al 53 ab) x60).length := by simpa using (l60_0).symm
    refine cf (g := 204) rfl rfl rfl Tryz.call204 [] [(0,0)] rfl rfl rfl rfl (jc.of2 (iw.cons (np.own rfl) (iw.cons (np.of_eq rfl) (iw.cons (np.of_eq rfl) (iw.cons (np.of_eq rfl) (iw.cons (np.of_eq rfl) iw.nil)))))) (by rw [bR,bL,bS]; rfl) s60 ?_
    rintro u60 H60h ⟨rfl,rfl⟩
    refine ⟨_,rfl,?_⟩
    refine cA (st' := ⟨_,_,fun _=>none,upd (fun _=>none) 0 (some ⟨g_data,51,(x60.map (al 53 ab)),true⟩)⟩) (Gh.le (bO _ _) ah (aA ai)) ?_
    refine ag (bh 3 tk rfl (aQ ?_))
    obtain rfl := ao H
    refine aK (x60,(i64.wrap (s2.2 * (2 : Int)))) () hg2 (Gh.le (aI (PLe.of2 (np.of_eq (congrArg (PV.own 0 g_data) z60_0))) (aa (aa (aa ak)))) ah (aA ai))
   refine av (bh 3 tk rfl (aQ ?_))
   obtain rfl := ao H
   refine aK (s5.1,(i64.wrap (s2.2 * (2 : Int)))) () hg2 (Gh.le (aa (aa (aa (aa ak)))) ah (aA ai))
  refine aR rfl ?_
  obtain rfl := ao H
  refine aO (s2.1,s2.2) () hg2 (Gh.le (aa ak) ah (aA ai))
 have H := bq hn2 Hp2
 obtain rfl := ao H
 refine dN (st' := ⟨63,fun _=>.any,fun _=>none,upd (fun _=>none) 0 (some ⟨g_data,51,(s2.1.map (al 53 ab)),true⟩)⟩) (Gh.le ak ah (aA ai)) ?_
 refine iI rfl (PLe.q rfl) ⟨rfl,rfl⟩
def gT (a : LVal) (op : List UInt8) (b : LVal) : Bool × Int :=
 bo (
  cond (!(op == ([61] : List UInt8)))
   (cond (!(op == ([60] : List UInt8)))
    ((!(op == ([60,61] : List UInt8))))
    (false))
   (false)) fun (t1 : Bool) =>
 cond t1
  ((false,3))
  (bo (
   cond (a.kind == (0 : Int))
    (true)
    ((b.kind == (0 : Int)))) fun (t2 : Bool) =>
  cond t2
   ((true,0))
   (bo (jA a b) fun x29 =>
   cond (x29 == (0 : Int))
    (cond (!(op == ([60] : List UInt8)))
     ((true,0))
     (cond (decide (x29 < (0 : Int)))
      (((!(op == ([61] : List UInt8))),0))
      ((false,0))))
    (cond (decide (x29 < (0 : Int)))
     (((!(op == ([61] : List UInt8))),0))
     ((false,0)))))
theorem rj (a : LVal) (op : List UInt8) (b : LVal) :
  aV Tryz.prog 148 [(.agg (ab a)),(.str op),(.agg (ab b))] (.tup [(aE ((gT a op b).1)),(ae ((gT a op b).2))]) := by
 obtain ⟨r,H⟩ : ∃ r,gT a op b = r := ⟨_,rfl⟩
 rw [H]
 unfold gT at H
 refine PH.aC Tryz.func148 Tryz.ntmps148 ?_
 refine ac (af (aT ?_))
 refine aT ?_
 refine am 2 tk rfl (ag (ac (ac ?_)))
 obtain ⟨fl1,H1,Hp1⟩ := bK H
 refine aZ (τ := Bool) (γ := Unit) (fun t1 g1=>⟨44,upd (upd (upd (upd (fun _=>.any) 18 (aE t1)) 5 (.ptr [(ae b.kind),(ae b.int),(.str b.text)])) 3 (.ptr [(ae a.kind),(ae a.int),(.str a.text)])) 1 (.str op),fun _=>none,fun _=>none⟩) (fun t=>t = fl1) ?_ (fun t1 g1 hn1=>?_)
 ·have H := H1
  refine af (am 3 tk rfl ?_)
  refine bG rfl rfl rfl H (fun H=>?_) (fun H=>?_)
  ·refine am 4 tk rfl ?_
   refine bG rfl rfl rfl H (fun H=>?_) (fun H=>?_)
   ·refine am 3 tk rfl (ag ?_)
    subst H
    refine aO (!(op == ([60,61] : List UInt8))) () rfl (Gh.le (aa (aa (aa (aa ak)))) ah ai)
   refine am 3 tk rfl (ag ?_)
   subst H
   refine aO false () rfl (Gh.le (aa (aa (aa (aa ak)))) ah ai)
  refine am 7 tk rfl (ag ?_)
  subst H
  refine aO false () rfl (Gh.le (aa (aa (aa (aa ak)))) ah ai)
 subst hn1
 have H := Hp1
 refine aP rfl H (fun H=>?_) (fun H=>?_)
 ·refine aw 2 tk rfl ?_
  subst H
  refine aB tk rfl (ps := [(aE false),(ae 3)]) ⟨_,_,rfl,rfl,_,_,rfl,rfl,rfl⟩ (PLe.q rfl)
 refine av (ac (ac ?_))
 obtain ⟨fl2,H2,Hp2⟩ := bK H
 refine aZ (τ := Bool) (γ := Unit) (fun t2 g2=>⟨44,upd (upd (upd (upd (fun _=>.any) 26 (aE t2)) 5 (.ptr [(ae b.kind),(ae b.int),(.str b.text)])) 3 (.ptr [(ae a.kind),(ae a.int),(.str a.text)])) 1 (.str op),fun _=>none,fun _=>none⟩) (fun t=>t = fl2) ?_ (fun t2 g2 hn2=>?_)
 ·have H := H2
  refine af (am 4 tk rfl ?_)
  refine bG rfl rfl rfl H (fun H=>?_) (fun H=>?_)
  ·refine am 4 tk rfl (ag ?_)
   subst H
   refine aO true () rfl (Gh.le (aa (aa (aa (aa ak)))) ah ai)
  refine am 4 tk rfl (ag ?_)
  subst H
  refine aO (b.kind == (0 : Int)) () rfl (Gh.le (aa (aa (aa (aa ak)))) ah ai)
 subst hn2
 have H := Hp2
 refine aP rfl H (fun H=>?_) (fun H=>?_)
 ·refine aw 2 tk rfl ?_
  subst H
  refine aB tk rfl (ps := [(aE true),(ae 0)]) ⟨_,_,rfl,rfl,_,_,rfl,rfl,rfl⟩ (PLe.q rfl)
 refine av (ac (af (am 2 tk rfl ?_)))
 obtain ⟨x29,h29,H⟩ := bK H
 have s29 := oX a b
 rw [h29] at s29
 refine au Tryz.call106 (jc.r) s29 ?_
 refine aq tk rfl (ag (ac (af (am 3 tk rfl ?_))))
 refine bG rfl rfl rfl H (fun H=>?_) (fun H=>?_)
 ·refine am 4 tk rfl ?_
  refine bG rfl rfl rfl H (fun H=>?_) (fun H=>?_)
  ·refine am 9 tk rfl (ag ?_)
   subst H
   refine aB tk rfl (ps := [(aE true),(ae 0)]) ⟨_,_,rfl,rfl,_,_,rfl,rfl,rfl⟩ (PLe.q rfl)
  refine am 3 tk rfl ?_
  refine bG rfl rfl rfl H (fun H=>?_) (fun H=>?_)
  ·refine am 6 tk rfl (ag ?_)
   subst H
   refine aB tk rfl (ps := [(aE (!(op == ([61] : List UInt8)))),(ae 0)]) ⟨_,_,rfl,rfl,_,_,rfl,rfl,rfl⟩ (PLe.q rfl)
  refine am 6 tk rfl (ag ?_)
  subst H
  refine aB tk rfl (ps := [(aE false),(ae 0)]) ⟨_,_,rfl,rfl,_,_,rfl,rfl,rfl⟩ (PLe.q rfl)
 refine am 7 tk rfl ?_
 refine bG rfl rfl rfl H (fun H=>?_) (fun H=>?_)
 ·refine am 6 tk rfl (ag ?_)
  subst H
  refine aB tk rfl (ps := [(aE (!(op == ([61] : List UInt8)))),(ae 0)]) ⟨_,_,rfl,rfl,_,_,rfl,rfl,rfl⟩ (PLe.q rfl)
 refine am 6 tk rfl (ag ?_)
 subst H
 refine aB tk rfl (ps := [(aE false),(ae 0)]) ⟨_,_,rfl,rfl,_,_,rfl,rfl,rfl⟩ (PLe.q rfl)
def dC (data : Rz) (a : Int) (b : Int) (_cmp : Rq → Rq → Option (Int)) : Option (Rz) :=
 cond (decide ((i64.wrap (b - a)) ≥ (8 : Int)))
  (aj (gd (i64.wrap (b - a))) fun x21 =>
  aj (whileM (σ := Rz × Int × Int) (ρ := Empty) (fun (s1 : Rz × Int × Int) =>
   cond (decide (s1.2.1 ≤ (i64.wrap ((i64.wrap (a + (i64.wrap ((i64.wrap (Int.tdiv (i64.wrap (b - a)) (4 : Int))) * (2 : Int))))) + (1 : Int)))))
    (aj (ij s1.2.2) fun x38 =>
    bo (
     cond (decide ((i64.wrap (andI .u64 x38.1 (IntKind.u64.wrap (x21 - (1 : Int))))) ≥ (i64.wrap (b - a))))
      ((s1.1,(i64.wrap ((i64.wrap (andI .u64 x38.1 (IntKind.u64.wrap (x21 - (1 : Int))))) - (i64.wrap (b - a))))))
      ((s1.1,(i64.wrap (andI .u64 x38.1 (IntKind.u64.wrap (x21 - (1 : Int)))))))) fun (t8 : Rz × Int) =>
    aj (aF t8.1 (i64.wrap (a + t8.2))) fun (x59 : Rq) =>
    aj (aF t8.1 s1.2.1) fun (x63 : Rq) =>
    aj (aF t8.1 s1.2.1) fun (_ : Rq) =>
    bo (t8.1.set s1.2.1.toNat x59) fun (y9 : Rz) =>
    aj (aF y9 (i64.wrap (a + t8.2))) fun (_ : Rq) =>
    bo (y9.set ((i64.wrap (a + t8.2)).toNat) x63) fun (y10 : Rz) =>
    some (.next (y10,(i64.wrap (s1.2.1 + (1 : Int))),x38.2)))
    (some (.brk (s1.1,s1.2.1,s1.2.2)))) (data,(i64.wrap ((i64.wrap (a + (i64.wrap ((i64.wrap (Int.tdiv (i64.wrap (b - a)) (4 : Int))) * (2 : Int))))) - (1 : Int))),(IntKind.u64.wrap (i64.wrap (b - a))))) fun fl1=>fl1.thenP fun (s1 : Rz × Int × Int) =>
  some s1.1)
  (some data)
theorem ky (g_data : OwnRef) {g_cmp : FuncId} {caps_cmp : List PV} (data : Rz) (a : Int) (b : Int) (cmp : Rq → Rq → Option (Int)) (_hg_cmp : ∀ (vs : Array Value) (w : World),(callFunc g_cmp vs).run Tryz.prog w = .ok (.enter g_cmp vs) w) (_hp_cmp : ∀ a0 a1 r,cmp a0 a1 = some r → aV Tryz.prog g_cmp ((.list 53 (a0.map ab)) :: (.list 53 (a1.map ab)) :: caps_cmp) (ae r)) (r : Rz) (H : dC data a b cmp = some r) :
  PH Tryz.prog 116 [(.own 0 g_data (data.map (al 53 ab)).length),(ae a),(ae b),(.fn g_cmp caps_cmp)] ⟨fun _=>none,upd (fun _=>none) 0 (some ⟨g_data,51,(data.map (al 53 ab)),true⟩)⟩ (fun u H=>u = (.tup []) ∧ H = ⟨fun _=>none,upd (fun _=>none) 0 (some ⟨g_data,51,(r.map (al 53 ab)),true⟩)⟩) := by
 unfold dC at H
 refine PH.aC Tryz.func116 Tryz.ntmps116 ?_
 refine aw 4 tk rfl (aw 2 tk rfl ?_)
 refine aP rfl H (fun H=>?_) (fun H=>?_)
 ·refine ac (af (am 2 tk rfl ?_))
  refine bv tk fun b9=>?_
  refine aD tk ?_
  refine ag (ac (af (aq tk rfl ?_)))
  obtain ⟨x21,h21,H⟩ := ax H
  have s21 := oF (i64.wrap (b - a)) _ h21
  refine au Tryz.call161 (jc.r) s21 ?_
  refine aq tk rfl (ag (aw 7 tk rfl ?_))
  obtain ⟨fl1,H1,Hp1⟩ := ax H
  refine aZ (τ := Rz × Int × Int) (γ := Unit) (fun s1 g1=>⟨67,upd (fun _=>.any) 0 (.own 0 g_data (s1.1.map (al 53 ab)).length),fun _=>none,upd (fun _=>none) 0 (some ⟨g_data,51,(s1.1.map (al 53 ab)),true⟩)⟩) (fun t=>fl1 = .next t) ?_ (fun s1 g1 hn1=>?_)
  ·refine az ?_
   refine cP (fun s1 g1=>⟨67,upd (upd (upd (upd (upd (upd (fun _=>.any) 11 (ae s1.2.1)) 10 (.val (.int .u64 x21))) 9 (.box 9 b9 0)) 8 (ae (i64.wrap (b - a)))) 1 (ae a)) 0 (.own 0 g_data (s1.1.map (al 53 ab)).length),upd (fun _=>none) 9 (some ⟨b9,[(.val (.int .u64 s1.2.2))]⟩),upd (fun _=>none) 0 (some ⟨g_data,51,(s1.1.map (al 53 ab)),true⟩)⟩) () H1 (Gh.le (aa (aa (aa (aa (aa (aa ak)))))) (ay rfl (jc.r) ah) (aA ai)) (fun m1 s1 g1 hr1=>?_)
   obtain ⟨fb1,H,hg1⟩ := cn hr1
   refine ac (aw 8 tk rfl ?_)
   refine aP rfl H (fun H=>?_) (fun H=>?_)
   ·refine av (ac (az (ac (af ?_))))
    obtain ⟨x38,h38,H⟩ := ax H
    have s38 := oZ b9 s1.2.2 _ h38
    refine cf (g := 162) rfl rfl rfl Tryz.call162 [(9,1500)] [] rfl rfl rfl rfl (jc.of2 (iw.cons np.boxT iw.nil)) (by rw [dE,bR,bS]; rfl) s38 ?_
    rintro u38 H38h ⟨rfl,rfl⟩
    refine ⟨_,rfl,?_⟩
    refine cA (st' := ⟨_,_,upd (fun _=>none) 9 (some ⟨b9,[(.val (.int .u64 x38.2))]⟩),upd (fun _=>none) 0 (some ⟨g_data,51,(s1.1.map (al 53 ab)),true⟩)⟩) (Gh.le (bO _ _) (ay rfl (jc.r) ah) (aA ai)) ?_
    refine am 2 tk rfl (Ao.and rfl rfl rfl rfl rfl (am 2 tk rfl (ag (ac (aw 3 tk rfl ?_)))))
    obtain ⟨fl8,H8,Hp8⟩ := bK H
    refine aZ (τ := Rz × Int) (γ := Unit) (fun t8 g8=>⟨67,upd (upd (upd (upd (upd (upd (upd (fun _=>.any) 12 (ae t8.2)) 11 (ae s1.2.1)) 10 (.val (.int .u64 x21))) 9 (.box 9 b9 0)) 8 (ae (i64.wrap (b - a)))) 1 (ae a)) 0 (.own 0 g_data (t8.1.map (al 53 ab)).length),upd (fun _=>none) 9 (some ⟨b9,[(.val (.int .u64 x38.2))]⟩),upd (fun _=>none) 0 (some ⟨g_data,51,(t8.1.map (al 53 ab)),true⟩)⟩) (fun t=>t = fl8) ?_ (fun t8 g8 hn8=>?_)
    ·have H := H8
     refine aP rfl H (fun H=>?_) (fun H=>?_)
     ·refine bh 4 tk rfl ?_
      subst H
      refine aO (s1.1,(i64.wrap ((i64.wrap (andI .u64 x38.1 (IntKind.u64.wrap (x21 - (1 : Int))))) - (i64.wrap (b - a))))) () rfl (Gh.le (aa (aa (aa (aa (aa (aa (aa ak))))))) (ay rfl (jc.r) ah) (aA ai))
     refine av ?_
     subst H
     refine aO (s1.1,(i64.wrap (andI .u64 x38.1 (IntKind.u64.wrap (x21 - (1 : Int)))))) () rfl (Gh.le (aa (aa (aa (aa (aa (aa (aa ak))))))) (ay rfl (jc.r) ah) (aA ai))
    subst hn8
    have H := Hp8
    refine cZ (tag := 0) rfl (fun ho0=>?_)
    refine bl tk mok ⟨false,true,[]⟩ [0,1,2,3,4,5,6,7,8,9,10,11,12,13,14,15,16,17,18,19] rfl (by decide +kernel) rfl (aJ 10 rfl ?_)
    obtain ⟨x59,k59,H⟩ := aW H
    refine aS tk ⟨k59.1,(bm k59.2)⟩ (bn ho0 k59.2) ?_
    refine bf tk (aH (fun _=>rfl) k59.2) ?_
    refine aJ 2 rfl ?_
    obtain ⟨x63,k63,H⟩ := aW H
    refine aS tk ⟨k63.1,(bm k63.2)⟩ (bn ho0 k63.2) ?_
    refine bf tk (aH (fun _=>rfl) k63.2) ?_
    obtain ⟨x65,k65,H⟩ := aW H
    refine aS tk ⟨k65.1,(bm k65.2)⟩ (bn ho0 k65.2) ?_
    obtain ⟨y9,hy9,H⟩ := bK H
    refine cj tk rfl rfl rfl rfl rfl rfl rfl rfl rfl (by rw [zl]; exact (zg.1 k65.2).1) (PLe.refl _ _) rfl rfl rfl rfl (by decide) (bM (fun _=>rfl) k65.2 rfl hy9) ?_
    obtain ⟨x66,k66,H⟩ := aW H
    refine aS tk ⟨k66.1,(gq (br (f := (al 53 ab)) hy9) k66.2)⟩ (gw ho0 (br (f := (al 53 ab)) hy9) k66.2) ?_
    obtain ⟨y10,hy10,H⟩ := bK H
    refine cj tk rfl rfl rfl rfl rfl rfl rfl rfl rfl (by rw [zl]; exact (zg.1 k66.2).1) (PLe.refl _ _) rfl rfl rfl rfl (by decide) (bM (fun _=>rfl) k66.2 rfl hy10) ?_
    refine be (aQ (bh 3 tk rfl ?_))
    obtain rfl := ao H
    refine aK (y10,(i64.wrap (s1.2.1 + (1 : Int))),x38.2) () hg1 (Gh.le (aI (PLe.of2 (np.of_eq (congrArg (PV.own 0 g_data) ((br (f := (al 53 ab)) hy9).trans (br (f := (al 53 ab)) hy10))))) (aa (aa (aa (aa (aa ak)))))) (ay rfl (jc.r) ah) (aA ai))
   refine aR rfl ?_
   obtain rfl := ao H
   refine aO (s1.1,s1.2.1,s1.2.2) () hg1 (Gh.le (aa ak) ah (aA ai))
  have H := bq hn1 Hp1
  obtain rfl := ao H
  refine dN (st' := ⟨67,fun _=>.any,fun _=>none,upd (fun _=>none) 0 (some ⟨g_data,51,(s1.1.map (al 53 ab)),true⟩)⟩) (Gh.le ak ah (aA ai)) ?_
  refine iI rfl (PLe.q rfl) ⟨rfl,rfl⟩
 refine av ?_
 obtain rfl := ao H
 refine dN (st' := ⟨67,fun _=>.any,fun _=>none,upd (fun _=>none) 0 (some ⟨g_data,51,(data.map (al 53 ab)),true⟩)⟩) (Gh.le ak ah (aA ai)) ?_
 refine iI rfl (PLe.q rfl) ⟨rfl,rfl⟩
def dP (data : Rz) (a : Int) (b : Int) (cmp : Rq → Rq → Option (Int)) : Option (Int × Int × Rz) :=
 aj (
  cond (decide ((i64.wrap (b - a)) ≥ (8 : Int)))
   (aj (
    cond (decide ((i64.wrap (b - a)) ≥ (50 : Int)))
     (aj (cz data (i64.wrap (a + (i64.wrap ((i64.wrap (Int.tdiv (i64.wrap (b - a)) (4 : Int))) * (1 : Int))))) 0 cmp) fun x40 =>
     aj (cF (x40.2.1.length = data.length) ()) fun (_ : Unit) =>
     aj (cz x40.2.1 (i64.wrap (a + (i64.wrap ((i64.wrap (Int.tdiv (i64.wrap (b - a)) (4 : Int))) * (2 : Int))))) x40.2.2 cmp) fun x44 =>
     aj (cF (x44.2.1.length = x40.2.1.length) ()) fun (_ : Unit) =>
     aj (cz x44.2.1 (i64.wrap (a + (i64.wrap ((i64.wrap (Int.tdiv (i64.wrap (b - a)) (4 : Int))) * (3 : Int))))) x44.2.2 cmp) fun x48 =>
     aj (cF (x48.2.1.length = x44.2.1.length) ()) fun (_ : Unit) =>
     some (x48.2.1,x40.1,x44.1,x48.1,x48.2.2))
     (some (data,(i64.wrap (a + (i64.wrap ((i64.wrap (Int.tdiv (i64.wrap (b - a)) (4 : Int))) * (1 : Int))))),(i64.wrap (a + (i64.wrap ((i64.wrap (Int.tdiv (i64.wrap (b - a)) (4 : Int))) * (2 : Int))))),(i64.wrap (a + (i64.wrap ((i64.wrap (Int.tdiv (i64.wrap (b - a)) (4 : Int))) * (3 : Int))))),0))) fun (t3 : Rz × Int × Int × Int × Int) =>
   aj (dO t3.1 t3.2.1 t3.2.2.1 t3.2.2.2.1 t3.2.2.2.2 cmp) fun x54 =>
   aj (cF (x54.2.1.length = t3.1.length) ()) fun (_ : Unit) =>
   some (x54.2.1,x54.1,x54.2.2))
   (some (data,(i64.wrap (a + (i64.wrap ((i64.wrap (Int.tdiv (i64.wrap (b - a)) (4 : Int))) * (2 : Int))))),0))) fun (t2 : Rz × Int × Int) =>
 cond (t2.2.2 == (0 : Int))
  (some (t2.2.1,1,t2.1))
  (cond (t2.2.2 == (12 : Int))
   (some (t2.2.1,2,t2.1))
   (some (t2.2.1,0,t2.1)))
theorem kU (g_data : OwnRef) {g_cmp : FuncId} {caps_cmp : List PV} (data : Rz) (a : Int) (b : Int) (cmp : Rq → Rq → Option (Int)) (hg_cmp : ∀ (vs : Array Value) (w : World),(callFunc g_cmp vs).run Tryz.prog w = .ok (.enter g_cmp vs) w) (hp_cmp : ∀ a0 a1 r,cmp a0 a1 = some r → aV Tryz.prog g_cmp ((.list 53 (a0.map ab)) :: (.list 53 (a1.map ab)) :: caps_cmp) (ae r)) (r : Int × Int × Rz) (H : dP data a b cmp = some r) :
  PH Tryz.prog 117 [(.own 0 g_data (data.map (al 53 ab)).length),(ae a),(ae b),(.fn g_cmp caps_cmp)] ⟨fun _=>none,upd (fun _=>none) 0 (some ⟨g_data,51,(data.map (al 53 ab)),true⟩)⟩ (fun u H=>u = (.tup [(ae r.1),(ae r.2.1)]) ∧ H = ⟨fun _=>none,upd (fun _=>none) 0 (some ⟨g_data,51,(r.2.2.map (al 53 ab)),true⟩)⟩) := by
 unfold dP at H
 refine PH.aC Tryz.func117 Tryz.ntmps117 ?_
 refine aw 2 tk rfl (aw 4 tk rfl (ac (af ?_)))
 refine bv tk fun b11=>?_
 refine ag (aw 6 tk rfl (aw 6 tk rfl (aw 6 tk rfl (ac (aw 2 tk rfl ?_)))))
 obtain ⟨fl2,H2,Hp2⟩ := ax H
 refine aZ (τ := Rz × Int × Int) (γ := Unit) (fun t2 g2=>⟨63,upd (upd (upd (fun _=>.any) 13 (ae t2.2.1)) 11 (.box 11 b11 0)) 0 (.own 0 g_data (t2.1.map (al 53 ab)).length),upd (fun _=>none) 11 (some ⟨b11,[(ae t2.2.2)]⟩),upd (fun _=>none) 0 (some ⟨g_data,51,(t2.1.map (al 53 ab)),true⟩)⟩) (fun t=>t = fl2) ?_ (fun t2 g2 hn2=>?_)
 ·have H := H2
  refine aP rfl H (fun H=>?_) (fun H=>?_)
  ·refine ac (aw 2 tk rfl ?_)
   obtain ⟨fl3,H3,Hp3⟩ := ax H
   refine aZ (τ := Rz × Int × Int × Int × Int) (γ := Unit) (fun t3 g3=>⟨63,upd (upd (upd (upd (upd (upd (fun _=>.any) 14 (ae t3.2.2.2.1)) 13 (ae t3.2.2.1)) 12 (ae t3.2.1)) 11 (.box 11 b11 0)) 3 (.fn g_cmp caps_cmp)) 0 (.own 0 g_data (t3.1.map (al 53 ab)).length),upd (fun _=>none) 11 (some ⟨b11,[(ae t3.2.2.2.2)]⟩),upd (fun _=>none) 0 (some ⟨g_data,51,(t3.1.map (al 53 ab)),true⟩)⟩) (fun t=>t = fl3) ?_ (fun t3 g3 hn3=>?_)
   ·have H := H3
    refine aP rfl H (fun H=>?_) (fun H=>?_)
    ·refine ac (af (am 3 tk rfl ?_))
     obtain ⟨x40,h40,H⟩ := ax H
     have s40 := fH g_data b11 data (i64.wrap (a + (i64.wrap ((i64.wrap (Int.tdiv (i64.wrap (b - a)) (4 : Int))) * (1 : Int))))) 0 cmp hg_cmp hp_cmp _ h40
     obtain ⟨_,q40_0,H⟩ := ax H
     have l40_0 := (bI q40_0).1
     have z40_0 : (List.map (al 53 ab) data).length = (List.map (al 53 ab) x40.2.1).length := by simpa using (l40_0).symm
     refine cf (g := 163) rfl rfl rfl Tryz.call163 [(11,1502)] [(0,0)] rfl rfl rfl rfl (jc.of2 (iw.cons (np.own rfl) (iw.cons (np.of_eq rfl) (iw.cons np.boxT (iw.cons (np.of_eq rfl) iw.nil))))) (by rw [dE,bR,bL,bS]; rfl) s40 ?_
     rintro u40 H40h ⟨rfl,rfl⟩
     refine ⟨_,rfl,?_⟩
     refine cA (st' := ⟨_,_,upd (fun _=>none) 11 (some ⟨b11,[(ae x40.2.2)]⟩),upd (fun _=>none) 0 (some ⟨g_data,51,(x40.2.1.map (al 53 ab)),true⟩)⟩) (Gh.le (bO _ _) (ay rfl (jc.r) ah) (aA ai)) ?_
     refine aq tk rfl (ag (ac (af (am 3 tk rfl ?_))))
     obtain ⟨x44,h44,H⟩ := ax H
     have s44 := fH g_data b11 x40.2.1 (i64.wrap (a + (i64.wrap ((i64.wrap (Int.tdiv (i64.wrap (b - a)) (4 : Int))) * (2 : Int))))) x40.2.2 cmp hg_cmp hp_cmp _ h44
     obtain ⟨_,q44_0,H⟩ := ax H
     have l44_0 := (bI q44_0).1
     have z44_0 : (List.map (al 53 ab) x40.2.1).length = (List.map (al 53 ab) x44.2.1).length := by simpa using (l44_0).symm
     refine cf (g := 163) rfl rfl rfl Tryz.call163 [(11,1502)] [(0,0)] rfl rfl rfl rfl (jc.of2 (iw.cons (np.own z40_0) (iw.cons (np.of_eq rfl) (iw.cons np.boxT (iw.cons (np.of_eq rfl) iw.nil))))) (by rw [dE,bR,bL,bS]; rfl) s44 ?_
     rintro u44 H44h ⟨rfl,rfl⟩
     refine ⟨_,rfl,?_⟩
     refine cA (st' := ⟨_,_,upd (fun _=>none) 11 (some ⟨b11,[(ae x44.2.2)]⟩),upd (fun _=>none) 0 (some ⟨g_data,51,(x44.2.1.map (al 53 ab)),true⟩)⟩) (Gh.le (bO _ _) (ay rfl (jc.r) ah) (aA ai)) ?_
     refine aq tk rfl (ag (af (am 3 tk rfl ?_)))
     obtain ⟨x48,h48,H⟩ := ax H
     have s48 := fH g_data b11 x44.2.1 (i64.wrap (a + (i64.wrap ((i64.wrap (Int.tdiv (i64.wrap (b - a)) (4 : Int))) * (3 : Int))))) x44.2.2 cmp hg_cmp hp_cmp _ h48
     obtain ⟨_,q48_0,H⟩ := ax H
     have l48_0 := (bI q48_0).1
     have z48_0 : (List.map (al 53 ab) x44.2.1).length = (List.map (al 53 ab) x48.2.1).length := by simpa using (l48_0).symm
     refine cf (g := 163) rfl rfl rfl Tryz.call163 [(11,1502)] [(0,0)] rfl rfl rfl rfl (jc.of2 (iw.cons (np.own (z40_0.trans z44_0)) (iw.cons (np.of_eq rfl) (iw.cons np.boxT (iw.cons (np.of_eq rfl) iw.nil))))) (by rw [dE,bR,bL,bS]; rfl) s48 ?_
     rintro u48 H48h ⟨rfl,rfl⟩
     refine ⟨_,rfl,?_⟩
     refine cA (st' := ⟨_,_,upd (fun _=>none) 11 (some ⟨b11,[(ae x48.2.2)]⟩),upd (fun _=>none) 0 (some ⟨g_data,51,(x48.2.1.map (al 53 ab)),true⟩)⟩) (Gh.le (bO _ _) (ay rfl (jc.r) ah) (aA ai)) ?_
     refine aq tk rfl (ag ?_)
     obtain rfl := ao H
     refine aO (x48.2.1,x40.1,x44.1,x48.1,x48.2.2) () rfl (Gh.le (aI (PLe.of2 (np.of_eq (congrArg (PV.own 0 g_data) ((z40_0.trans z44_0).trans z48_0)))) (aa (aa (aa (aa (aa ak)))))) (ay rfl (jc.r) ah) (aA ai))
    refine av ?_
    obtain rfl := ao H
    refine aO (data,(i64.wrap (a + (i64.wrap ((i64.wrap (Int.tdiv (i64.wrap (b - a)) (4 : Int))) * (1 : Int))))),(i64.wrap (a + (i64.wrap ((i64.wrap (Int.tdiv (i64.wrap (b - a)) (4 : Int))) * (2 : Int))))),(i64.wrap (a + (i64.wrap ((i64.wrap (Int.tdiv (i64.wrap (b - a)) (4 : Int))) * (3 : Int))))),0) () rfl (Gh.le (aa (aa (aa (aa (aa (aa ak)))))) (ay rfl (jc.r) ah) (aA ai))
   subst hn3
   have H := Hp3
   refine af (am 5 tk rfl ?_)
   obtain ⟨x54,h54,H⟩ := ax H
   have s54 := ju g_data b11 t3.1 t3.2.1 t3.2.2.1 t3.2.2.2.1 t3.2.2.2.2 cmp hg_cmp hp_cmp _ h54
   obtain ⟨_,q54_0,H⟩ := ax H
   have l54_0 := (bI q54_0).1
   have z54_0 : (List.map (al 53 ab) t3.1).length = (List.map (al 53 ab) x54.2.1).length := by simpa using (l54_0).symm
   refine cf (g := 164) rfl rfl rfl Tryz.call164 [(11,1504)] [(0,0)] rfl rfl rfl rfl (jc.of2 (iw.cons (np.own rfl) (iw.cons (np.of_eq rfl) (iw.cons (np.of_eq rfl) (iw.cons (np.of_eq rfl) (iw.cons np.boxT (iw.cons (np.of_eq rfl) iw.nil))))))) (by rw [dE,bR,bL,bS]; rfl) s54 ?_
   rintro u54 H54h ⟨rfl,rfl⟩
   refine ⟨_,rfl,?_⟩
   refine cA (st' := ⟨_,_,upd (fun _=>none) 11 (some ⟨b11,[(ae x54.2.2)]⟩),upd (fun _=>none) 0 (some ⟨g_data,51,(x54.2.1.map (al 53 ab)),true⟩)⟩) (Gh.le (bO _ _) (ay rfl (jc.r) ah) (aA ai)) ?_
   refine aq tk rfl (ag ?_)
   obtain rfl := ao H
   refine aO (x54.2.1,x54.1,x54.2.2) () rfl (Gh.le (aI (PLe.of2 (np.of_eq (congrArg (PV.own 0 g_data) z54_0))) (aa (aa ak))) (ay rfl (jc.r) ah) (aA ai))
  refine av ?_
  obtain rfl := ao H
  refine aO (data,(i64.wrap (a + (i64.wrap ((i64.wrap (Int.tdiv (i64.wrap (b - a)) (4 : Int))) * (2 : Int))))),0) () rfl (Gh.le (aa (aa (aa ak))) (ay rfl (jc.r) ah) (aA ai))
 subst hn2
 have H := Hp2
 refine ac (af (aM tk ?_))
 refine ag (az (aw 2 tk rfl ?_))
 refine aP rfl H (fun H=>?_) (fun H=>?_)
 ·refine aw 3 tk rfl ?_
  obtain rfl := ao H
  refine dN (st' := ⟨63,upd (upd (fun _=>.any) 9 (ae 1)) 8 (ae t2.2.1),fun _=>none,upd (fun _=>none) 0 (some ⟨g_data,51,(t2.1.map (al 53 ab)),true⟩)⟩) (Gh.le (aa (aa ak)) ah (aA ai)) ?_
  refine eZ tk rfl (ps := [(ae t2.2.1),(ae 1)]) ⟨_,_,rfl,rfl,_,_,rfl,rfl,rfl⟩ (PLe.q rfl) ⟨rfl,rfl⟩
 refine aw 2 tk rfl ?_
 refine aP rfl H (fun H=>?_) (fun H=>?_)
 ·refine aw 3 tk rfl ?_
  obtain rfl := ao H
  refine dN (st' := ⟨63,upd (upd (fun _=>.any) 9 (ae 2)) 8 (ae t2.2.1),fun _=>none,upd (fun _=>none) 0 (some ⟨g_data,51,(t2.1.map (al 53 ab)),true⟩)⟩) (Gh.le (aa (aa ak)) ah (aA ai)) ?_
  refine eZ tk rfl (ps := [(ae t2.2.1),(ae 2)]) ⟨_,_,rfl,rfl,_,_,rfl,rfl,rfl⟩ (PLe.q rfl) ⟨rfl,rfl⟩
 refine aw 3 tk rfl ?_
 obtain rfl := ao H
 refine dN (st' := ⟨63,upd (upd (fun _=>.any) 9 (ae 0)) 8 (ae t2.2.1),fun _=>none,upd (fun _=>none) 0 (some ⟨g_data,51,(t2.1.map (al 53 ab)),true⟩)⟩) (Gh.le (aa (aa ak)) ah (aA ai)) ?_
 refine eZ tk rfl (ps := [(ae t2.2.1),(ae 0)]) ⟨_,_,rfl,rfl,_,_,rfl,rfl,rfl⟩ (PLe.q rfl) ⟨rfl,rfl⟩
end
end Go.Proofs.YtgaggbdcedpapaaGreat
