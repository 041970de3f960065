/- queryUnionExceptCancelUpto_holds, part 4: the layer, the plain functions and what they compute; conditions as in the statement. -/
import Derived.Test.YtgaggbdcedpapaaGreatUsc
set_option maxHeartbeats 4000000
namespace Go.Proofs.YtgaggbdcedpapaaGreat
noncomputable section
open Go Go.Ab
attribute [local irreducible] V Ao Do Gh Eff PH IntKind.wrap
set_option maxRecDepth 4000
def dl (data : Rz) (a : Int) (b : Int) (pivot : Int) (cmp : Rq → Rq → Option (Int)) : Option (Int × Rz) :=
 aj (aF data pivot) fun (x19 : Rq) =>
 aj (aF data a) fun (x23 : Rq) =>
 aj (aF data a) fun (_ : Rq) =>
 bn (data.set a.toNat x19) fun (y1 : Rz) =>
 aj (aF y1 pivot) fun (_ : Rq) =>
 bn (y1.set pivot.toNat x23) fun (y2 : Rz) =>
 aj (whileM (σ := Rz × Int × Int) (ρ := Empty) (fun (s3 : Rz × Int × Int) =>
  aj (whileM (σ := Rz × Int) (ρ := Empty) (fun (s12 : Rz × Int) =>
   cond (decide (s12.2 ≤ s3.2.2))
    (aj (aF s12.1 a) fun (x38 : Rq) =>
    aj (aF s12.1 s12.2) fun (x42 : Rq) =>
    aj (cmp x38 x42) fun x44 =>
    cond (!(decide (x44 < (0 : Int))))
     (some (.next (s12.1,(IntKind.i64.wrap (s12.2 + (1 : Int))))))
     (some (.brk (s12.1,s12.2))))
    (some (.brk (s12.1,s12.2)))) (s3.1,s3.2.1)) fun fl12=>fl12.thenP fun (s12 : Rz × Int) =>
  aj (whileM (σ := Rz × Int) (ρ := Empty) (fun (s13 : Rz × Int) =>
   cond (decide (s12.2 ≤ s13.2))
    (aj (aF s13.1 a) fun (x57 : Rq) =>
    aj (aF s13.1 s13.2) fun (x61 : Rq) =>
    aj (cmp x57 x61) fun x63 =>
    cond (decide (x63 < (0 : Int)))
     (some (.next (s13.1,(IntKind.i64.wrap (s13.2 - (1 : Int))))))
     (some (.brk (s13.1,s13.2))))
    (some (.brk (s13.1,s13.2)))) (s12.1,s3.2.2)) fun fl13=>fl13.thenP fun (s13 : Rz × Int) =>
  cond (decide (s12.2 > s13.2))
   (some (.brk (s13.1,s12.2,s13.2)))
   (aj (aF s13.1 s13.2) fun (x77 : Rq) =>
   aj (aF s13.1 s12.2) fun (x81 : Rq) =>
   aj (aF s13.1 s12.2) fun (_ : Rq) =>
   bn (s13.1.set s12.2.toNat x77) fun (y14 : Rz) =>
   aj (aF y14 s13.2) fun (_ : Rq) =>
   bn (y14.set s13.2.toNat x81) fun (y15 : Rz) =>
   some (.next (y15,(IntKind.i64.wrap (s12.2 + (1 : Int))),(IntKind.i64.wrap (s13.2 - (1 : Int))))))) (y2,(IntKind.i64.wrap (a + (1 : Int))),(IntKind.i64.wrap (b - (1 : Int))))) fun fl3=>fl3.thenP fun (s3 : Rz × Int × Int) =>
 some (s3.2.1,s3.1)
theorem kn (g_data : OwnRef) {g_cmp : FuncId} {caps_cmp : List PV} (data : Rz) (a : Int) (b : Int) (pivot : Int) (cmp : Rq → Rq → Option (Int)) (hg_cmp : ∀ (vs : Array Value) (w : World),(callFunc g_cmp vs).run Tryz.prog w = .ok (.enter g_cmp vs) w) (hp_cmp : ∀ a0 a1 r,cmp a0 a1 = some r → aV Tryz.prog g_cmp ((.list 53 (a0.map ab)) :: (.list 53 (a1.map ab)) :: caps_cmp) (ae r)) (r : Int × Rz) (H : dl data a b pivot cmp = some r) :
  PH Tryz.prog 120 [(.own 0 g_data (data.map (ak 53 ab)).length),(ae a),(ae b),(ae pivot),(.fn g_cmp caps_cmp)] ⟨fun _=>none,upd (fun _=>none) 0 (some ⟨g_data,51,(data.map (ak 53 ab)),true⟩)⟩ (fun u H=>u = (ae r.1) ∧ H = ⟨fun _=>none,upd (fun _=>none) 0 (some ⟨g_data,51,(r.2.map (ak 53 ab)),true⟩)⟩) := by
 unfold dl at H
 refine PH.aC Tryz.func120 Tryz.ntmps120 ?_
 refine aw 1 tk rfl (ac ?_)
 refine cU (tag := 0) rfl (fun ho0=>?_)
 refine bj tk mok ⟨false,true,[]⟩ [0,1,2,3,4,5,6,7,8,9,10,11,12,13,14,15] rfl (by decide +kernel) rfl (aK 6 rfl ?_)
 obtain ⟨x19,k19,H⟩ := aY H
 refine aS tk ⟨k19.1,(bh k19.2)⟩ (bl ho0 k19.2) ?_
 refine be tk (aI (fun _=>rfl) k19.2) ?_
 refine aK 2 rfl ?_
 obtain ⟨x23,k23,H⟩ := aY H
 refine aS tk ⟨k23.1,(bh k23.2)⟩ (bl ho0 k23.2) ?_
 refine be tk (aI (fun _=>rfl) k23.2) ?_
 obtain ⟨x25,k25,H⟩ := aY H
 refine aS tk ⟨k25.1,(bh k25.2)⟩ (bl ho0 k25.2) ?_
 obtain ⟨y1,hy1,H⟩ := bJ H
 refine cf tk rfl rfl rfl rfl rfl rfl rfl rfl rfl (by rw [zl]; exact (zg.1 k25.2).1) (PLe.refl _ _) rfl rfl rfl rfl (by decide) (bK (fun _=>rfl) k25.2 rfl hy1) ?_
 obtain ⟨x26,k26,H⟩ := aY H
 refine aS tk ⟨k26.1,(gi (bq (f := (ak 53 ab)) hy1) k26.2)⟩ (gg ho0 (bq (f := (ak 53 ab)) hy1) k26.2) ?_
 obtain ⟨y2,hy2,H⟩ := bJ H
 refine cf tk rfl rfl rfl rfl rfl rfl rfl rfl rfl (by rw [zl]; exact (zg.1 k26.2).1) (PLe.refl _ _) rfl rfl rfl rfl (by decide) (bK (fun _=>rfl) k26.2 rfl hy2) ?_
 refine bf (aw 6 tk rfl (ac ?_))
 obtain ⟨fl3,H3,Hp3⟩ := ax H
 refine aZ (τ := Rz × Int × Int) (γ := Unit) (fun s3 g3=>⟨90,upd (upd (fun _=>.any) 11 (ae s3.2.1)) 0 (.own 0 g_data (s3.1.map (ak 53 ab)).length),fun _=>none,upd (fun _=>none) 0 (some ⟨g_data,51,(s3.1.map (ak 53 ab)),true⟩)⟩) (fun t=>fl3 = .next t) ?_ (fun s3 g3 hn3=>?_)
 ·refine az ?_
  refine cM (fun s3 g3=>⟨90,upd (upd (upd (upd (upd (fun _=>.any) 12 (ae s3.2.2)) 11 (ae s3.2.1)) 4 (.fn g_cmp caps_cmp)) 1 (ae a)) 0 (.own 0 g_data (s3.1.map (ak 53 ab)).length),fun _=>none,upd (fun _=>none) 0 (some ⟨g_data,51,(s3.1.map (ak 53 ab)),true⟩)⟩) () H3 (Gh.le (aH (PLe.of2 (mV.of_eq (congrArg (PV.own 0 g_data) ((bq (f := (ak 53 ab)) hy1).trans (bq (f := (ak 53 ab)) hy2))))) (aa (aa (aa (aa al))))) ai (aA ah)) (fun m3 s3 g3 hr3=>?_)
  obtain ⟨fb3,H,hg3⟩ := cq hr3
  refine az (ac ?_)
  obtain ⟨fl12,H12,Hp12⟩ := ax H
  refine aZ (τ := Rz × Int) (γ := Unit) (fun s12 g12=>⟨90,upd (upd (upd (upd (upd (fun _=>.any) 12 (ae s3.2.2)) 11 (ae s12.2)) 4 (.fn g_cmp caps_cmp)) 1 (ae a)) 0 (.own 0 g_data (s12.1.map (ak 53 ab)).length),fun _=>none,upd (fun _=>none) 0 (some ⟨g_data,51,(s12.1.map (ak 53 ab)),true⟩)⟩) (fun t=>fl12 = .next t) ?_ (fun s12 g12 hn12=>?_)
  ·refine az ?_
   refine cM (fun s12 g12=>⟨90,upd (upd (upd (upd (upd (fun _=>.any) 12 (ae s3.2.2)) 11 (ae s12.2)) 4 (.fn g_cmp caps_cmp)) 1 (ae a)) 0 (.own 0 g_data (s12.1.map (ak 53 ab)).length),fun _=>none,upd (fun _=>none) 0 (some ⟨g_data,51,(s12.1.map (ak 53 ab)),true⟩)⟩) () H12 (Gh.le (aa (aa (aa (aa (aa al))))) ai (aA ah)) (fun m12 s12 g12 hr12=>?_)
   obtain ⟨fb12,H,hg12⟩ := cq hr12
   refine ac (ac ?_)
   refine cU (tag := 0) rfl (fun ho0=>?_)
   refine bj tk mok ⟨false,true,[]⟩ [0,1,2,3,4,5,6,7,8,9,10,11,12,13,14,15,16] rfl (by decide +kernel) rfl (aK 4 rfl ?_)
   refine iq H (fun H=>?_) (fun H=>?_)
   ·refine aK 3 rfl ?_
    obtain ⟨x38,k38,H⟩ := aY H
    refine aS tk ⟨k38.1,(bh k38.2)⟩ (bl ho0 k38.2) ?_
    refine be tk (aI (fun _=>rfl) k38.2) ?_
    refine aK 2 rfl ?_
    obtain ⟨x42,k42,H⟩ := aY H
    refine aS tk ⟨k42.1,(bh k42.2)⟩ (bl ho0 k42.2) ?_
    refine be tk (aI (fun _=>rfl) k42.2) ?_
    obtain ⟨x44,h44,H⟩ := ax H
    refine bg hg_cmp (iX.r) (hp_cmp _ _ _ h44) ?_
    refine aK 3 rfl (bf ?_)
    refine aP rfl H (fun H=>?_) (fun H=>?_)
    ·refine av (az (bi 3 tk rfl (aR ?_)))
     obtain rfl := ao H
     refine aL (s12.1,(IntKind.i64.wrap (s12.2 + (1 : Int)))) () hg12 (Gh.le (aa (aa (aa (aa (aa al))))) ai (aA ah))
    refine aQ rfl ?_
    obtain rfl := ao H
    refine aO (s12.1,s12.2) () hg12 (Gh.le (aa (aa (aa (aa (aa al))))) ai (aA ah))
   refine aK 13 rfl (bf (bD rfl (aQ rfl ?_)))
   obtain rfl := ao H
   refine aO (s12.1,s12.2) () hg12 (Gh.le (aa (aa (aa (aa (aa al))))) ai (aA ah))
  have H := bo hn12 Hp12
  refine ac ?_
  obtain ⟨fl13,H13,Hp13⟩ := ax H
  refine aZ (τ := Rz × Int) (γ := Unit) (fun s13 g13=>⟨90,upd (upd (upd (upd (upd (fun _=>.any) 12 (ae s13.2)) 11 (ae s12.2)) 4 (.fn g_cmp caps_cmp)) 1 (ae a)) 0 (.own 0 g_data (s13.1.map (ak 53 ab)).length),fun _=>none,upd (fun _=>none) 0 (some ⟨g_data,51,(s13.1.map (ak 53 ab)),true⟩)⟩) (fun t=>fl13 = .next t) ?_ (fun s13 g13 hn13=>?_)
  ·refine az ?_
   refine cM (fun s13 g13=>⟨90,upd (upd (upd (upd (upd (fun _=>.any) 12 (ae s13.2)) 11 (ae s12.2)) 4 (.fn g_cmp caps_cmp)) 1 (ae a)) 0 (.own 0 g_data (s13.1.map (ak 53 ab)).length),fun _=>none,upd (fun _=>none) 0 (some ⟨g_data,51,(s13.1.map (ak 53 ab)),true⟩)⟩) () H13 (Gh.le (aa (aa (aa (aa (aa al))))) ai (aA ah)) (fun m13 s13 g13 hr13=>?_)
   obtain ⟨fb13,H,hg13⟩ := cq hr13
   refine ac (ac ?_)
   refine cU (tag := 0) rfl (fun ho0=>?_)
   refine bj tk mok ⟨false,true,[]⟩ [0,1,2,3,4,5,6,7,8,9,10,11,12,13,14,15] rfl (by decide +kernel) rfl (aK 4 rfl ?_)
   refine iq H (fun H=>?_) (fun H=>?_)
   ·refine aK 3 rfl ?_
    obtain ⟨x57,k57,H⟩ := aY H
    refine aS tk ⟨k57.1,(bh k57.2)⟩ (bl ho0 k57.2) ?_
    refine be tk (aI (fun _=>rfl) k57.2) ?_
    refine aK 2 rfl ?_
    obtain ⟨x61,k61,H⟩ := aY H
    refine aS tk ⟨k61.1,(bh k61.2)⟩ (bl ho0 k61.2) ?_
    refine be tk (aI (fun _=>rfl) k61.2) ?_
    obtain ⟨x63,h63,H⟩ := ax H
    refine bg hg_cmp (iX.r) (hp_cmp _ _ _ h63) ?_
    refine aK 2 rfl (bf ?_)
    refine aP rfl H (fun H=>?_) (fun H=>?_)
    ·refine av (az (bi 3 tk rfl (aR ?_)))
     obtain rfl := ao H
     refine aL (s13.1,(IntKind.i64.wrap (s13.2 - (1 : Int)))) () hg13 (Gh.le (aa (aa (aa (aa (aa al))))) ai (aA ah))
    refine aQ rfl ?_
    obtain rfl := ao H
    refine aO (s13.1,s13.2) () hg13 (Gh.le (aa (aa (aa (aa (aa al))))) ai (aA ah))
   refine aK 12 rfl (bf (bD rfl (aQ rfl ?_)))
   obtain rfl := ao H
   refine aO (s13.1,s13.2) () hg13 (Gh.le (aa (aa (aa (aa (aa al))))) ai (aA ah))
  have H := bo hn13 Hp13
  refine ac (aw 3 tk rfl ?_)
  refine aP rfl H (fun H=>?_) (fun H=>?_)
  ·refine aQ rfl ?_
   obtain rfl := ao H
   refine aO (s13.1,s12.2,s13.2) () hg3 (Gh.le (aa (aa al)) ai (aA ah))
  refine av (ac ?_)
  refine cU (tag := 0) rfl (fun ho0=>?_)
  refine bj tk mok ⟨false,true,[]⟩ [0,1,2,3,4,5,6,7,8,9,10,11,12,13,14,15] rfl (by decide +kernel) rfl (aK 6 rfl ?_)
  obtain ⟨x77,k77,H⟩ := aY H
  refine aS tk ⟨k77.1,(bh k77.2)⟩ (bl ho0 k77.2) ?_
  refine be tk (aI (fun _=>rfl) k77.2) ?_
  refine aK 2 rfl ?_
  obtain ⟨x81,k81,H⟩ := aY H
  refine aS tk ⟨k81.1,(bh k81.2)⟩ (bl ho0 k81.2) ?_
  refine be tk (aI (fun _=>rfl) k81.2) ?_
  obtain ⟨x83,k83,H⟩ := aY H
  refine aS tk ⟨k83.1,(bh k83.2)⟩ (bl ho0 k83.2) ?_
  obtain ⟨y14,hy14,H⟩ := bJ H
  refine cf tk rfl rfl rfl rfl rfl rfl rfl rfl rfl (by rw [zl]; exact (zg.1 k83.2).1) (PLe.refl _ _) rfl rfl rfl rfl (by decide) (bK (fun _=>rfl) k83.2 rfl hy14) ?_
  obtain ⟨x84,k84,H⟩ := aY H
  refine aS tk ⟨k84.1,(gi (bq (f := (ak 53 ab)) hy14) k84.2)⟩ (gg ho0 (bq (f := (ak 53 ab)) hy14) k84.2) ?_
  obtain ⟨y15,hy15,H⟩ := bJ H
  refine cf tk rfl rfl rfl rfl rfl rfl rfl rfl rfl (by rw [zl]; exact (zg.1 k84.2).1) (PLe.refl _ _) rfl rfl rfl rfl (by decide) (bK (fun _=>rfl) k84.2 rfl hy15) ?_
  refine bf (aw 3 tk rfl (bi 3 tk rfl (aR ?_)))
  obtain rfl := ao H
  refine aL (y15,(IntKind.i64.wrap (s12.2 + (1 : Int))),(IntKind.i64.wrap (s13.2 - (1 : Int)))) () hg3 (Gh.le (aH (PLe.of2 (mV.of_eq (congrArg (PV.own 0 g_data) ((bq (f := (ak 53 ab)) hy14).trans (bq (f := (ak 53 ab)) hy15))))) (aa (aa (aa (aa al))))) ai (aA ah))
 have H := bo hn3 Hp3
 refine aw 2 tk rfl ?_
 obtain rfl := ao H
 refine dG (st' := ⟨90,upd (fun _=>.any) 10 (ae s3.2.1),fun _=>none,upd (fun _=>none) 0 (some ⟨g_data,51,(s3.1.map (ak 53 ab)),true⟩)⟩) (Gh.le (aa al) ai (aA ah)) ?_
 refine eP tk rfl (ps := [(ae s3.2.1)]) ⟨_,_,rfl,rfl,rfl⟩ (PLe.q rfl) ⟨rfl,rfl⟩
def dQ (data : Rz) (a : Int) (b : Int) (pivot : Int) (cmp : Rq → Rq → Option (Int)) : Option (Int × Bool × Rz) :=
 aj (aF data pivot) fun (x20 : Rq) =>
 aj (aF data a) fun (x24 : Rq) =>
 aj (aF data a) fun (_ : Rq) =>
 bn (data.set a.toNat x20) fun (y1 : Rz) =>
 aj (aF y1 pivot) fun (_ : Rq) =>
 bn (y1.set pivot.toNat x24) fun (y2 : Rz) =>
 aj (whileM (σ := Rz × Int) (ρ := Empty) (fun (s3 : Rz × Int) =>
  cond (decide (s3.2 ≤ (IntKind.i64.wrap (b - (1 : Int)))))
   (aj (aF s3.1 s3.2) fun (x39 : Rq) =>
   aj (aF s3.1 a) fun (x43 : Rq) =>
   aj (cmp x39 x43) fun x45 =>
   cond (decide (x45 < (0 : Int)))
    (some (.next (s3.1,(IntKind.i64.wrap (s3.2 + (1 : Int))))))
    (some (.brk (s3.1,s3.2))))
   (some (.brk (s3.1,s3.2)))) (y2,(IntKind.i64.wrap (a + (1 : Int))))) fun fl3=>fl3.thenP fun (s3 : Rz × Int) =>
 aj (whileM (σ := Rz × Int) (ρ := Empty) (fun (s4 : Rz × Int) =>
  cond (decide (s3.2 ≤ s4.2))
   (aj (aF s4.1 s4.2) fun (x57 : Rq) =>
   aj (aF s4.1 a) fun (x61 : Rq) =>
   aj (cmp x57 x61) fun x63 =>
   cond (!(decide (x63 < (0 : Int))))
    (some (.next (s4.1,(IntKind.i64.wrap (s4.2 - (1 : Int))))))
    (some (.brk (s4.1,s4.2))))
   (some (.brk (s4.1,s4.2)))) (s3.1,(IntKind.i64.wrap (b - (1 : Int))))) fun fl4=>fl4.thenP fun (s4 : Rz × Int) =>
 cond (decide (s3.2 > s4.2))
  (aj (aF s4.1 a) fun (x78 : Rq) =>
  aj (aF s4.1 s4.2) fun (x82 : Rq) =>
  aj (aF s4.1 s4.2) fun (_ : Rq) =>
  bn (s4.1.set s4.2.toNat x78) fun (y5 : Rz) =>
  aj (aF y5 a) fun (_ : Rq) =>
  bn (y5.set a.toNat x82) fun (y6 : Rz) =>
  some (s4.2,true,y6))
  (aj (aF s4.1 s4.2) fun (x93 : Rq) =>
  aj (aF s4.1 s3.2) fun (x97 : Rq) =>
  aj (aF s4.1 s3.2) fun (_ : Rq) =>
  bn (s4.1.set s3.2.toNat x93) fun (y7 : Rz) =>
  aj (aF y7 s4.2) fun (_ : Rq) =>
  bn (y7.set s4.2.toNat x97) fun (y8 : Rz) =>
  aj (whileM (σ := Rz × Int × Int) (ρ := Empty) (fun (s9 : Rz × Int × Int) =>
   aj (whileM (σ := Rz × Int) (ρ := Empty) (fun (s18 : Rz × Int) =>
    cond (decide (s18.2 ≤ s9.2.2))
     (aj (aF s18.1 s18.2) fun (x112 : Rq) =>
     aj (aF s18.1 a) fun (x116 : Rq) =>
     aj (cmp x112 x116) fun x118 =>
     cond (decide (x118 < (0 : Int)))
      (some (.next (s18.1,(IntKind.i64.wrap (s18.2 + (1 : Int))))))
      (some (.brk (s18.1,s18.2))))
     (some (.brk (s18.1,s18.2)))) (s9.1,s9.2.1)) fun fl18=>fl18.thenP fun (s18 : Rz × Int) =>
   aj (whileM (σ := Rz × Int) (ρ := Empty) (fun (s19 : Rz × Int) =>
    cond (decide (s18.2 ≤ s19.2))
     (aj (aF s19.1 s19.2) fun (x130 : Rq) =>
     aj (aF s19.1 a) fun (x134 : Rq) =>
     aj (cmp x130 x134) fun x136 =>
     cond (!(decide (x136 < (0 : Int))))
      (some (.next (s19.1,(IntKind.i64.wrap (s19.2 - (1 : Int))))))
      (some (.brk (s19.1,s19.2))))
     (some (.brk (s19.1,s19.2)))) (s18.1,s9.2.2)) fun fl19=>fl19.thenP fun (s19 : Rz × Int) =>
   cond (decide (s18.2 > s19.2))
    (some (.brk (s19.1,s18.2,s19.2)))
    (aj (aF s19.1 s19.2) fun (x151 : Rq) =>
    aj (aF s19.1 s18.2) fun (x155 : Rq) =>
    aj (aF s19.1 s18.2) fun (_ : Rq) =>
    bn (s19.1.set s18.2.toNat x151) fun (y20 : Rz) =>
    aj (aF y20 s19.2) fun (_ : Rq) =>
    bn (y20.set s19.2.toNat x155) fun (y21 : Rz) =>
    some (.next (y21,(IntKind.i64.wrap (s18.2 + (1 : Int))),(IntKind.i64.wrap (s19.2 - (1 : Int))))))) (y8,(IntKind.i64.wrap (s3.2 + (1 : Int))),(IntKind.i64.wrap (s4.2 - (1 : Int))))) fun fl9=>fl9.thenP fun (s9 : Rz × Int × Int) =>
  aj (aF s9.1 a) fun (x169 : Rq) =>
  aj (aF s9.1 s9.2.2) fun (x173 : Rq) =>
  aj (aF s9.1 s9.2.2) fun (_ : Rq) =>
  bn (s9.1.set s9.2.2.toNat x169) fun (y22 : Rz) =>
  aj (aF y22 a) fun (_ : Rq) =>
  bn (y22.set a.toNat x173) fun (y23 : Rz) =>
  some (s9.2.2,false,y23))
theorem la (g_data : OwnRef) {g_cmp : FuncId} {caps_cmp : List PV} (data : Rz) (a : Int) (b : Int) (pivot : Int) (cmp : Rq → Rq → Option (Int)) (hg_cmp : ∀ (vs : Array Value) (w : World),(callFunc g_cmp vs).run Tryz.prog w = .ok (.enter g_cmp vs) w) (hp_cmp : ∀ a0 a1 r,cmp a0 a1 = some r → aV Tryz.prog g_cmp ((.list 53 (a0.map ab)) :: (.list 53 (a1.map ab)) :: caps_cmp) (ae r)) (r : Int × Bool × Rz) (H : dQ data a b pivot cmp = some r) :
  PH Tryz.prog 121 [(.own 0 g_data (data.map (ak 53 ab)).length),(ae a),(ae b),(ae pivot),(.fn g_cmp caps_cmp)] ⟨fun _=>none,upd (fun _=>none) 0 (some ⟨g_data,51,(data.map (ak 53 ab)),true⟩)⟩ (fun u H=>u = (.tup [(ae r.1),(aE r.2.1)]) ∧ H = ⟨fun _=>none,upd (fun _=>none) 0 (some ⟨g_data,51,(r.2.2.map (ak 53 ab)),true⟩)⟩) := by
 unfold dQ at H
 refine PH.aC Tryz.func121 Tryz.ntmps121 ?_
 refine aw 2 tk rfl (ac ?_)
 refine cU (tag := 0) rfl (fun ho0=>?_)
 refine bj tk mok ⟨false,true,[]⟩ [0,1,2,3,4,5,6,7,8,9,10,11,12,13,14,15] rfl (by decide +kernel) rfl (aK 6 rfl ?_)
 obtain ⟨x20,k20,H⟩ := aY H
 refine aS tk ⟨k20.1,(bh k20.2)⟩ (bl ho0 k20.2) ?_
 refine be tk (aI (fun _=>rfl) k20.2) ?_
 refine aK 2 rfl ?_
 obtain ⟨x24,k24,H⟩ := aY H
 refine aS tk ⟨k24.1,(bh k24.2)⟩ (bl ho0 k24.2) ?_
 refine be tk (aI (fun _=>rfl) k24.2) ?_
 obtain ⟨x26,k26,H⟩ := aY H
 refine aS tk ⟨k26.1,(bh k26.2)⟩ (bl ho0 k26.2) ?_
 obtain ⟨y1,hy1,H⟩ := bJ H
 refine cf tk rfl rfl rfl rfl rfl rfl rfl rfl rfl (by rw [zl]; exact (zg.1 k26.2).1) (PLe.refl _ _) rfl rfl rfl rfl (by decide) (bK (fun _=>rfl) k26.2 rfl hy1) ?_
 obtain ⟨x27,k27,H⟩ := aY H
 refine aS tk ⟨k27.1,(gi (bq (f := (ak 53 ab)) hy1) k27.2)⟩ (gg ho0 (bq (f := (ak 53 ab)) hy1) k27.2) ?_
 obtain ⟨y2,hy2,H⟩ := bJ H
 refine cf tk rfl rfl rfl rfl rfl rfl rfl rfl rfl (by rw [zl]; exact (zg.1 k27.2).1) (PLe.refl _ _) rfl rfl rfl rfl (by decide) (bK (fun _=>rfl) k27.2 rfl hy2) ?_
 refine bf (aw 6 tk rfl (ac ?_))
 obtain ⟨fl3,H3,Hp3⟩ := ax H
 refine aZ (τ := Rz × Int) (γ := Unit) (fun s3 g3=>⟨178,upd (upd (upd (upd (upd (fun _=>.any) 13 (ae (IntKind.i64.wrap (b - (1 : Int))))) 12 (ae s3.2)) 4 (.fn g_cmp caps_cmp)) 1 (ae a)) 0 (.own 0 g_data (s3.1.map (ak 53 ab)).length),fun _=>none,upd (fun _=>none) 0 (some ⟨g_data,51,(s3.1.map (ak 53 ab)),true⟩)⟩) (fun t=>fl3 = .next t) ?_ (fun s3 g3 hn3=>?_)
 ·refine az ?_
  refine cM (fun s3 g3=>⟨178,upd (upd (upd (upd (upd (fun _=>.any) 13 (ae (IntKind.i64.wrap (b - (1 : Int))))) 12 (ae s3.2)) 4 (.fn g_cmp caps_cmp)) 1 (ae a)) 0 (.own 0 g_data (s3.1.map (ak 53 ab)).length),fun _=>none,upd (fun _=>none) 0 (some ⟨g_data,51,(s3.1.map (ak 53 ab)),true⟩)⟩) () H3 (Gh.le (aH (PLe.of2 (mV.of_eq (congrArg (PV.own 0 g_data) ((bq (f := (ak 53 ab)) hy1).trans (bq (f := (ak 53 ab)) hy2))))) (aa (aa (aa (aa al))))) ai (aA ah)) (fun m3 s3 g3 hr3=>?_)
  obtain ⟨fb3,H,hg3⟩ := cq hr3
  refine ac (ac ?_)
  refine cU (tag := 0) rfl (fun ho0=>?_)
  refine bj tk mok ⟨false,true,[]⟩ [0,1,2,3,4,5,6,7,8,9,10,11,12,13,14,15] rfl (by decide +kernel) rfl (aK 4 rfl ?_)
  refine iq H (fun H=>?_) (fun H=>?_)
  ·refine aK 3 rfl ?_
   obtain ⟨x39,k39,H⟩ := aY H
   refine aS tk ⟨k39.1,(bh k39.2)⟩ (bl ho0 k39.2) ?_
   refine be tk (aI (fun _=>rfl) k39.2) ?_
   refine aK 2 rfl ?_
   obtain ⟨x43,k43,H⟩ := aY H
   refine aS tk ⟨k43.1,(bh k43.2)⟩ (bl ho0 k43.2) ?_
   refine be tk (aI (fun _=>rfl) k43.2) ?_
   obtain ⟨x45,h45,H⟩ := ax H
   refine bg hg_cmp (iX.r) (hp_cmp _ _ _ h45) ?_
   refine aK 2 rfl (bf ?_)
   refine aP rfl H (fun H=>?_) (fun H=>?_)
   ·refine av (az (bi 3 tk rfl (aR ?_)))
    obtain rfl := ao H
    refine aL (s3.1,(IntKind.i64.wrap (s3.2 + (1 : Int)))) () hg3 (Gh.le (aa (aa (aa (aa (aa al))))) ai (aA ah))
   refine aQ rfl ?_
   obtain rfl := ao H
   refine aO (s3.1,s3.2) () hg3 (Gh.le (aa (aa (aa (aa (aa al))))) ai (aA ah))
  refine aK 12 rfl (bf (bD rfl (aQ rfl ?_)))
  obtain rfl := ao H
  refine aO (s3.1,s3.2) () hg3 (Gh.le (aa (aa (aa (aa (aa al))))) ai (aA ah))
 have H := bo hn3 Hp3
 refine ac ?_
 obtain ⟨fl4,H4,Hp4⟩ := ax H
 refine aZ (τ := Rz × Int) (γ := Unit) (fun s4 g4=>⟨178,upd (upd (upd (upd (upd (fun _=>.any) 13 (ae s4.2)) 12 (ae s3.2)) 4 (.fn g_cmp caps_cmp)) 1 (ae a)) 0 (.own 0 g_data (s4.1.map (ak 53 ab)).length),fun _=>none,upd (fun _=>none) 0 (some ⟨g_data,51,(s4.1.map (ak 53 ab)),true⟩)⟩) (fun t=>fl4 = .next t) ?_ (fun s4 g4 hn4=>?_)
 ·refine az ?_
  refine cM (fun s4 g4=>⟨178,upd (upd (upd (upd (upd (fun _=>.any) 13 (ae s4.2)) 12 (ae s3.2)) 4 (.fn g_cmp caps_cmp)) 1 (ae a)) 0 (.own 0 g_data (s4.1.map (ak 53 ab)).length),fun _=>none,upd (fun _=>none) 0 (some ⟨g_data,51,(s4.1.map (ak 53 ab)),true⟩)⟩) () H4 (Gh.le (aa (aa (aa (aa (aa al))))) ai (aA ah)) (fun m4 s4 g4 hr4=>?_)
  obtain ⟨fb4,H,hg4⟩ := cq hr4
  refine ac (ac ?_)
  refine cU (tag := 0) rfl (fun ho0=>?_)
  refine bj tk mok ⟨false,true,[]⟩ [0,1,2,3,4,5,6,7,8,9,10,11,12,13,14,15,16] rfl (by decide +kernel) rfl (aK 4 rfl ?_)
  refine iq H (fun H=>?_) (fun H=>?_)
  ·refine aK 3 rfl ?_
   obtain ⟨x57,k57,H⟩ := aY H
   refine aS tk ⟨k57.1,(bh k57.2)⟩ (bl ho0 k57.2) ?_
   refine be tk (aI (fun _=>rfl) k57.2) ?_
   refine aK 2 rfl ?_
   obtain ⟨x61,k61,H⟩ := aY H
   refine aS tk ⟨k61.1,(bh k61.2)⟩ (bl ho0 k61.2) ?_
   refine be tk (aI (fun _=>rfl) k61.2) ?_
   obtain ⟨x63,h63,H⟩ := ax H
   refine bg hg_cmp (iX.r) (hp_cmp _ _ _ h63) ?_
   refine aK 3 rfl (bf ?_)
   refine aP rfl H (fun H=>?_) (fun H=>?_)
   ·refine av (az (bi 3 tk rfl (aR ?_)))
    obtain rfl := ao H
    refine aL (s4.1,(IntKind.i64.wrap (s4.2 - (1 : Int)))) () hg4 (Gh.le (aa (aa (aa (aa (aa al))))) ai (aA ah))
   refine aQ rfl ?_
   obtain rfl := ao H
   refine aO (s4.1,s4.2) () hg4 (Gh.le (aa (aa (aa (aa (aa al))))) ai (aA ah))
  refine aK 13 rfl (bf (bD rfl (aQ rfl ?_)))
  obtain rfl := ao H
  refine aO (s4.1,s4.2) () hg4 (Gh.le (aa (aa (aa (aa (aa al))))) ai (aA ah))
 have H := bo hn4 Hp4
 refine ac (aw 3 tk rfl ?_)
 refine aP rfl H (fun H=>?_) (fun H=>?_)
 ·refine ac ?_
  refine cU (tag := 0) rfl (fun ho0=>?_)
  refine bj tk mok ⟨false,true,[]⟩ [0,1,2,3,4,5,6,7,8,9,10,11,12,13,14,15] rfl (by decide +kernel) rfl (aK 6 rfl ?_)
  obtain ⟨x78,k78,H⟩ := aY H
  refine aS tk ⟨k78.1,(bh k78.2)⟩ (bl ho0 k78.2) ?_
  refine be tk (aI (fun _=>rfl) k78.2) ?_
  refine aK 2 rfl ?_
  obtain ⟨x82,k82,H⟩ := aY H
  refine aS tk ⟨k82.1,(bh k82.2)⟩ (bl ho0 k82.2) ?_
  refine be tk (aI (fun _=>rfl) k82.2) ?_
  obtain ⟨x84,k84,H⟩ := aY H
  refine aS tk ⟨k84.1,(bh k84.2)⟩ (bl ho0 k84.2) ?_
  obtain ⟨y5,hy5,H⟩ := bJ H
  refine cf tk rfl rfl rfl rfl rfl rfl rfl rfl rfl (by rw [zl]; exact (zg.1 k84.2).1) (PLe.refl _ _) rfl rfl rfl rfl (by decide) (bK (fun _=>rfl) k84.2 rfl hy5) ?_
  obtain ⟨x85,k85,H⟩ := aY H
  refine aS tk ⟨k85.1,(gi (bq (f := (ak 53 ab)) hy5) k85.2)⟩ (gg ho0 (bq (f := (ak 53 ab)) hy5) k85.2) ?_
  obtain ⟨y6,hy6,H⟩ := bJ H
  refine cf tk rfl rfl rfl rfl rfl rfl rfl rfl rfl (by rw [zl]; exact (zg.1 k85.2).1) (PLe.refl _ _) rfl rfl rfl rfl (by decide) (bK (fun _=>rfl) k85.2 rfl hy6) ?_
  refine bf (aw 3 tk rfl ?_)
  obtain rfl := ao H
  refine dG (st' := ⟨178,upd (upd (fun _=>.any) 11 (aE true)) 10 (ae s4.2),fun _=>none,upd (fun _=>none) 0 (some ⟨g_data,51,(y6.map (ak 53 ab)),true⟩)⟩) (Gh.le (aa (aa al)) ai (aA ah)) ?_
  refine eP tk rfl (ps := [(ae s4.2),(aE true)]) ⟨_,_,rfl,rfl,_,_,rfl,rfl,rfl⟩ (PLe.q rfl) ⟨rfl,rfl⟩
 refine av (ac ?_)
 refine cU (tag := 0) rfl (fun ho0=>?_)
 refine bj tk mok ⟨false,true,[]⟩ [0,1,2,3,4,5,6,7,8,9,10,11,12,13,14,15] rfl (by decide +kernel) rfl (aK 6 rfl ?_)
 obtain ⟨x93,k93,H⟩ := aY H
 refine aS tk ⟨k93.1,(bh k93.2)⟩ (bl ho0 k93.2) ?_
 refine be tk (aI (fun _=>rfl) k93.2) ?_
 refine aK 2 rfl ?_
 obtain ⟨x97,k97,H⟩ := aY H
 refine aS tk ⟨k97.1,(bh k97.2)⟩ (bl ho0 k97.2) ?_
 refine be tk (aI (fun _=>rfl) k97.2) ?_
 obtain ⟨x99,k99,H⟩ := aY H
 refine aS tk ⟨k99.1,(bh k99.2)⟩ (bl ho0 k99.2) ?_
 obtain ⟨y7,hy7,H⟩ := bJ H
 refine cf tk rfl rfl rfl rfl rfl rfl rfl rfl rfl (by rw [zl]; exact (zg.1 k99.2).1) (PLe.refl _ _) rfl rfl rfl rfl (by decide) (bK (fun _=>rfl) k99.2 rfl hy7) ?_
 obtain ⟨x100,k100,H⟩ := aY H
 refine aS tk ⟨k100.1,(gi (bq (f := (ak 53 ab)) hy7) k100.2)⟩ (gg ho0 (bq (f := (ak 53 ab)) hy7) k100.2) ?_
 obtain ⟨y8,hy8,H⟩ := bJ H
 refine cf tk rfl rfl rfl rfl rfl rfl rfl rfl rfl (by rw [zl]; exact (zg.1 k100.2).1) (PLe.refl _ _) rfl rfl rfl rfl (by decide) (bK (fun _=>rfl) k100.2 rfl hy8) ?_
 refine bf (aw 3 tk rfl (aw 3 tk rfl (ac ?_)))
 obtain ⟨fl9,H9,Hp9⟩ := ax H
 refine aZ (τ := Rz × Int × Int) (γ := Unit) (fun s9 g9=>⟨178,upd (upd (upd (fun _=>.any) 13 (ae s9.2.2)) 1 (ae a)) 0 (.own 0 g_data (s9.1.map (ak 53 ab)).length),fun _=>none,upd (fun _=>none) 0 (some ⟨g_data,51,(s9.1.map (ak 53 ab)),true⟩)⟩) (fun t=>fl9 = .next t) ?_ (fun s9 g9 hn9=>?_)
 ·refine az ?_
  refine cM (fun s9 g9=>⟨178,upd (upd (upd (upd (upd (fun _=>.any) 13 (ae s9.2.2)) 12 (ae s9.2.1)) 4 (.fn g_cmp caps_cmp)) 1 (ae a)) 0 (.own 0 g_data (s9.1.map (ak 53 ab)).length),fun _=>none,upd (fun _=>none) 0 (some ⟨g_data,51,(s9.1.map (ak 53 ab)),true⟩)⟩) () H9 (Gh.le (aH (PLe.of2 (mV.of_eq (congrArg (PV.own 0 g_data) ((bq (f := (ak 53 ab)) hy7).trans (bq (f := (ak 53 ab)) hy8))))) (aa (aa (aa (aa al))))) ai (aA ah)) (fun m9 s9 g9 hr9=>?_)
  obtain ⟨fb9,H,hg9⟩ := cq hr9
  refine az (ac ?_)
  obtain ⟨fl18,H18,Hp18⟩ := ax H
  refine aZ (τ := Rz × Int) (γ := Unit) (fun s18 g18=>⟨178,upd (upd (upd (upd (upd (fun _=>.any) 13 (ae s9.2.2)) 12 (ae s18.2)) 4 (.fn g_cmp caps_cmp)) 1 (ae a)) 0 (.own 0 g_data (s18.1.map (ak 53 ab)).length),fun _=>none,upd (fun _=>none) 0 (some ⟨g_data,51,(s18.1.map (ak 53 ab)),true⟩)⟩) (fun t=>fl18 = .next t) ?_ (fun s18 g18 hn18=>?_)
  ·refine az ?_
   refine cM (fun s18 g18=>⟨178,upd (upd (upd (upd (upd (fun _=>.any) 13 (ae s9.2.2)) 12 (ae s18.2)) 4 (.fn g_cmp caps_cmp)) 1 (ae a)) 0 (.own 0 g_data (s18.1.map (ak 53 ab)).length),fun _=>none,upd (fun _=>none) 0 (some ⟨g_data,51,(s18.1.map (ak 53 ab)),true⟩)⟩) () H18 (Gh.le (aa (aa (aa (aa (aa al))))) ai (aA ah)) (fun m18 s18 g18 hr18=>?_)
   obtain ⟨fb18,H,hg18⟩ := cq hr18
   refine ac (ac ?_)
   refine cU (tag := 0) rfl (fun ho0=>?_)
   refine bj tk mok ⟨false,true,[]⟩ [0,1,2,3,4,5,6,7,8,9,10,11,12,13,14,15] rfl (by decide +kernel) rfl (aK 4 rfl ?_)
   refine iq H (fun H=>?_) (fun H=>?_)
   ·refine aK 3 rfl ?_
    obtain ⟨x112,k112,H⟩ := aY H
    refine aS tk ⟨k112.1,(bh k112.2)⟩ (bl ho0 k112.2) ?_
    refine be tk (aI (fun _=>rfl) k112.2) ?_
    refine aK 2 rfl ?_
    obtain ⟨x116,k116,H⟩ := aY H
    refine aS tk ⟨k116.1,(bh k116.2)⟩ (bl ho0 k116.2) ?_
    refine be tk (aI (fun _=>rfl) k116.2) ?_
    obtain ⟨x118,h118,H⟩ := ax H
    refine bg hg_cmp (iX.r) (hp_cmp _ _ _ h118) ?_
    refine aK 2 rfl (bf ?_)
    refine aP rfl H (fun H=>?_) (fun H=>?_)
    ·refine av (az (bi 3 tk rfl (aR ?_)))
     obtain rfl := ao H
     refine aL (s18.1,(IntKind.i64.wrap (s18.2 + (1 : Int)))) () hg18 (Gh.le (aa (aa (aa (aa (aa al))))) ai (aA ah))
    refine aQ rfl ?_
    obtain rfl := ao H
    refine aO (s18.1,s18.2) () hg18 (Gh.le (aa (aa (aa (aa (aa al))))) ai (aA ah))
   refine aK 12 rfl (bf (bD rfl (aQ rfl ?_)))
   obtain rfl := ao H
   refine aO (s18.1,s18.2) () hg18 (Gh.le (aa (aa (aa (aa (aa al))))) ai (aA ah))
  have H := bo hn18 Hp18
  refine ac ?_
  obtain ⟨fl19,H19,Hp19⟩ := ax H
  refine aZ (τ := Rz × Int) (γ := Unit) (fun s19 g19=>⟨178,upd (upd (upd (upd (upd (fun _=>.any) 13 (ae s19.2)) 12 (ae s18.2)) 4 (.fn g_cmp caps_cmp)) 1 (ae a)) 0 (.own 0 g_data (s19.1.map (ak 53 ab)).length),fun _=>none,upd (fun _=>none) 0 (some ⟨g_data,51,(s19.1.map (ak 53 ab)),true⟩)⟩) (fun t=>fl19 = .next t) ?_ (fun s19 g19 hn19=>?_)
  ·refine az ?_
   refine cM (fun s19 g19=>⟨178,upd (upd (upd (upd (upd (fun _=>.any) 13 (ae s19.2)) 12 (ae s18.2)) 4 (.fn g_cmp caps_cmp)) 1 (ae a)) 0 (.own 0 g_data (s19.1.map (ak 53 ab)).length),fun _=>none,upd (fun _=>none) 0 (some ⟨g_data,51,(s19.1.map (ak 53 ab)),true⟩)⟩) () H19 (Gh.le (aa (aa (aa (aa (aa al))))) ai (aA ah)) (fun m19 s19 g19 hr19=>?_)
   obtain ⟨fb19,H,hg19⟩ := cq hr19
   refine ac (ac ?_)
   refine cU (tag := 0) rfl (fun ho0=>?_)
   refine bj tk mok ⟨false,true,[]⟩ [0,1,2,3,4,5,6,7,8,9,10,11,12,13,14,15,16] rfl (by decide +kernel) rfl (aK 4 rfl ?_)
   refine iq H (fun H=>?_) (fun H=>?_)
   ·refine aK 3 rfl ?_
    obtain ⟨x130,k130,H⟩ := aY H
    refine aS tk ⟨k130.1,(bh k130.2)⟩ (bl ho0 k130.2) ?_
    refine be tk (aI (fun _=>rfl) k130.2) ?_
    refine aK 2 rfl ?_
    obtain ⟨x134,k134,H⟩ := aY H
    refine aS tk ⟨k134.1,(bh k134.2)⟩ (bl ho0 k134.2) ?_
    refine be tk (aI (fun _=>rfl) k134.2) ?_
    obtain ⟨x136,h136,H⟩ := ax H
    refine bg hg_cmp (iX.r) (hp_cmp _ _ _ h136) ?_
    refine aK 3 rfl (bf ?_)
    refine aP rfl H (fun H=>?_) (fun H=>?_)
    ·refine av (az (bi 3 tk rfl (aR ?_)))
     obtain rfl := ao H
     refine aL (s19.1,(IntKind.i64.wrap (s19.2 - (1 : Int)))) () hg19 (Gh.le (aa (aa (aa (aa (aa al))))) ai (aA ah))
    refine aQ rfl ?_
    obtain rfl := ao H
    refine aO (s19.1,s19.2) () hg19 (Gh.le (aa (aa (aa (aa (aa al))))) ai (aA ah))
   refine aK 13 rfl (bf (bD rfl (aQ rfl ?_)))
   obtain rfl := ao H
   refine aO (s19.1,s19.2) () hg19 (Gh.le (aa (aa (aa (aa (aa al))))) ai (aA ah))
  have H := bo hn19 Hp19
  refine ac (aw 3 tk rfl ?_)
  refine aP rfl H (fun H=>?_) (fun H=>?_)
  ·refine aQ rfl ?_
   obtain rfl := ao H
   refine aO (s19.1,s18.2,s19.2) () hg9 (Gh.le (aa (aa (aa al))) ai (aA ah))
  refine av (ac ?_)
  refine cU (tag := 0) rfl (fun ho0=>?_)
  refine bj tk mok ⟨false,true,[]⟩ [0,1,2,3,4,5,6,7,8,9,10,11,12,13,14,15] rfl (by decide +kernel) rfl (aK 6 rfl ?_)
  obtain ⟨x151,k151,H⟩ := aY H
  refine aS tk ⟨k151.1,(bh k151.2)⟩ (bl ho0 k151.2) ?_
  refine be tk (aI (fun _=>rfl) k151.2) ?_
  refine aK 2 rfl ?_
  obtain ⟨x155,k155,H⟩ := aY H
  refine aS tk ⟨k155.1,(bh k155.2)⟩ (bl ho0 k155.2) ?_
  refine be tk (aI (fun _=>rfl) k155.2) ?_
  obtain ⟨x157,k157,H⟩ := aY H
  refine aS tk ⟨k157.1,(bh k157.2)⟩ (bl ho0 k157.2) ?_
  obtain ⟨y20,hy20,H⟩ := bJ H
  refine cf tk rfl rfl rfl rfl rfl rfl rfl rfl rfl (by rw [zl]; exact (zg.1 k157.2).1) (PLe.refl _ _) rfl rfl rfl rfl (by decide) (bK (fun _=>rfl) k157.2 rfl hy20) ?_
  obtain ⟨x158,k158,H⟩ := aY H
  refine aS tk ⟨k158.1,(gi (bq (f := (ak 53 ab)) hy20) k158.2)⟩ (gg ho0 (bq (f := (ak 53 ab)) hy20) k158.2) ?_
  obtain ⟨y21,hy21,H⟩ := bJ H
  refine cf tk rfl rfl rfl rfl rfl rfl rfl rfl rfl (by rw [zl]; exact (zg.1 k158.2).1) (PLe.refl _ _) rfl rfl rfl rfl (by decide) (bK (fun _=>rfl) k158.2 rfl hy21) ?_
  refine bf (aw 3 tk rfl (bi 3 tk rfl (aR ?_)))
  obtain rfl := ao H
  refine aL (y21,(IntKind.i64.wrap (s18.2 + (1 : Int))),(IntKind.i64.wrap (s19.2 - (1 : Int)))) () hg9 (Gh.le (aH (PLe.of2 (mV.of_eq (congrArg (PV.own 0 g_data) ((bq (f := (ak 53 ab)) hy20).trans (bq (f := (ak 53 ab)) hy21))))) (aa (aa (aa (aa al))))) ai (aA ah))
 have H := bo hn9 Hp9
 refine ac ?_
 refine cU (tag := 0) rfl (fun ho0=>?_)
 refine bj tk mok ⟨false,true,[]⟩ [0,1,2,3,4,5,6,7,8,9,10,11,12,13,14,15] rfl (by decide +kernel) rfl (aK 6 rfl ?_)
 obtain ⟨x169,k169,H⟩ := aY H
 refine aS tk ⟨k169.1,(bh k169.2)⟩ (bl ho0 k169.2) ?_
 refine be tk (aI (fun _=>rfl) k169.2) ?_
 refine aK 2 rfl ?_
 obtain ⟨x173,k173,H⟩ := aY H
 refine aS tk ⟨k173.1,(bh k173.2)⟩ (bl ho0 k173.2) ?_
 refine be tk (aI (fun _=>rfl) k173.2) ?_
 obtain ⟨x175,k175,H⟩ := aY H
 refine aS tk ⟨k175.1,(bh k175.2)⟩ (bl ho0 k175.2) ?_
 obtain ⟨y22,hy22,H⟩ := bJ H
 refine cf tk rfl rfl rfl rfl rfl rfl rfl rfl rfl (by rw [zl]; exact (zg.1 k175.2).1) (PLe.refl _ _) rfl rfl rfl rfl (by decide) (bK (fun _=>rfl) k175.2 rfl hy22) ?_
 obtain ⟨x176,k176,H⟩ := aY H
 refine aS tk ⟨k176.1,(gi (bq (f := (ak 53 ab)) hy22) k176.2)⟩ (gg ho0 (bq (f := (ak 53 ab)) hy22) k176.2) ?_
 obtain ⟨y23,hy23,H⟩ := bJ H
 refine cf tk rfl rfl rfl rfl rfl rfl rfl rfl rfl (by rw [zl]; exact (zg.1 k176.2).1) (PLe.refl _ _) rfl rfl rfl rfl (by decide) (bK (fun _=>rfl) k176.2 rfl hy23) ?_
 refine bf (aw 3 tk rfl ?_)
 obtain rfl := ao H
 refine dG (st' := ⟨178,upd (upd (fun _=>.any) 11 (aE false)) 10 (ae s9.2.2),fun _=>none,upd (fun _=>none) 0 (some ⟨g_data,51,(y23.map (ak 53 ab)),true⟩)⟩) (Gh.le (aa (aa al)) ai (aA ah)) ?_
 refine eP tk rfl (ps := [(ae s9.2.2),(aE false)]) ⟨_,_,rfl,rfl,_,_,rfl,rfl,rfl⟩ (PLe.q rfl) ⟨rfl,rfl⟩
def gd (q : LQuery) : Option (Int) :=
 aj (lJ q) fun x7 =>
 some x7.2
theorem mN (q : LQuery) (r : Int) (H : gd q = some r) :
  aV Tryz.prog 89 [(.agg (bv q))] (ae r) := by
 unfold gd at H
 refine PH.aC Tryz.func89 Tryz.ntmps89 ?_
 refine ac (af (aT ?_))
 refine aq tk rfl (ag (ac (af (aq tk rfl ?_))))
 obtain ⟨x7,h7,H⟩ := ax H
 have s7 := W_query_most q _ h7
 refine au Tryz.call109 (iX.r) s7 ?_
 refine am 5 tk rfl (ag (aw 2 tk rfl ?_))
 obtain rfl := ao H
 refine aB tk rfl (ps := [(ae x7.2)]) ⟨_,_,rfl,rfl,rfl⟩ (PLe.q rfl)
def fq (q : LQuery) : Option ((List Int) × Int) :=
 aj (jk q) fun x18 =>
 aj (ba (σ := List Int × Bool × List Bool) (ρ := Empty) (fun (_ : Nat) (x1 : LQuery) (s1 : List Int × Bool × List Bool) =>
  aj (ba (σ := List Int × Bool × List Bool) (ρ := Empty) (fun (_ : Nat) (x12 : LExpr) (s12 : List Int × Bool × List Bool) =>
   aj (fK x12 s12.1 s12.2.1 s12.2.2) fun x33 =>
   some (.next (x33.1,x33.2.1,x33.2.2))) 0 x1.exprs (s1.1,s1.2.1,s1.2.2)) fun fl12=>fl12.thenP fun (s12 : List Int × Bool × List Bool) =>
  aj (ba (σ := List Int × Bool × List Bool) (ρ := Empty) (fun (_ : Nat) (x13 : LAggregateCall) (s13 : List Int × Bool × List Bool) =>
   aj (ba (σ := List Int × Bool × List Bool) (ρ := Empty) (fun (_ : Nat) (x16 : LExpr) (s16 : List Int × Bool × List Bool) =>
    aj (fK x16 s16.1 s16.2.1 s16.2.2) fun x51 =>
    some (.next (x51.1,x51.2.1,x51.2.2))) 0 x13.args (s13.1,s13.2.1,s13.2.2)) fun fl16=>fl16.thenP fun (s16 : List Int × Bool × List Bool) =>
   some (.next (s16.1,s16.2.1,s16.2.2))) 0 x1.aggregates (s12.1,s12.2.1,s12.2.2)) fun fl13=>fl13.thenP fun (s13 : List Int × Bool × List Bool) =>
  some (.next (s13.1,s13.2.1,s13.2.2))) 0 x18 ([],false,(List.replicate 8 false))) fun fl1=>fl1.thenP fun (s1 : List Int × Bool × List Bool) =>
 cond s1.2.1
  (some ([],13))
  (some (s1.1,0))
theorem kX (q : LQuery) (r : (List Int) × Int) (H : fq q = some r) :
  aV Tryz.prog 87 [(.agg (bv q))] (.tup [(.list 3 (r.1.map bG)),(ae r.2)]) := by
 unfold fq at H
 refine PH.aC Tryz.func87 Tryz.ntmps87 ?_
 refine ac (af (aT ?_))
 refine am 2 tk rfl (ag (ac (af ?_)))
 refine bt tk fun b4=>?_
 refine ag (ac (af ?_))
 refine bt tk fun b5=>?_
 refine ag (ac (af ?_))
 refine bt tk fun b6=>?_
 refine aD tk ?_
 refine ag (ac (af ?_))
 refine bt tk fun b7=>?_
 refine ag (ac (af (aq tk rfl (aD tk ?_))))
 refine ag (ac (ac (af (aq tk rfl ?_))))
 obtain ⟨x18,h18,H⟩ := ax H
 have s18 := qa (m := 18) q _ h18
 refine au Tryz.call76 (iX.r) (PFun.jH s18) ?_
 refine aM tk (zl _) ?_
 refine aq tk rfl (ag ?_)
 obtain ⟨fl1,H1,Hp1⟩ := ax H
 refine bS tk 18 rfl rfl (fun hz1 _=>?_)
 rw [zl] at hz1
 refine aZ (τ := List Int × Bool × List Bool) (γ := OwnRef) (fun s1 g1=>⟨57,upd (upd (fun _=>.any) 6 (.box 6 b6 0)) 4 (.box 4 b4 0),upd (upd (fun _=>none) 6 (some ⟨b6,[(aE s1.2.1)]⟩)) 4 (some ⟨b4,[(.own 1204 g1 (s1.1.map bG).length)]⟩),upd (fun _=>none) 1204 (some ⟨g1,3,(s1.1.map bG),true⟩)⟩) (fun t=>fl1 = .next t) ?_ (fun s1 g1 hn1=>?_)
 ·refine az (qN tk 4 0 1204 (e := 3) rfl rfl rfl rfl ?_)
  refine bA (fun j1 s1 g1=>⟨57,upd (upd (upd (upd (upd (upd (fun _=>.any) 20 (ae (j1 : Int))) 19 (ae (x18.length : Int))) 18 (.list 35 (x18.map aW))) 7 (.box 7 b7 0)) 6 (.box 6 b6 0)) 4 (.box 4 b4 0),upd (upd (upd (upd (fun _=>none) 7 (some ⟨b7,[(.fn 108 [(.box 4 b4 0),(.box 6 b6 0),(.box 5 b5 0),(.box 7 b7 0)])]⟩)) 6 (some ⟨b6,[(aE s1.2.1)]⟩)) 5 (some ⟨b5,(List.map aE s1.2.2)⟩)) 4 (some ⟨b4,[(.own 1204 g1 (s1.1.map bG).length)]⟩),upd (fun _=>none) 1204 (some ⟨g1,3,(s1.1.map bG),true⟩)⟩) (⟨none,0⟩) H1 (Gh.le (aa (aa (aa (aa (aa (aa al)))))) (ay rfl (iX.r) (ay rfl (iX.r) (ay rfl (iX.r) (ay rfl (iX.r) ai)))) (aA ah)) (fun j1 s1 g1 hj1 hr1=>?_)
  refine aw 1 tk rfl (ac ?_)
  refine aX rfl (fun h=>?_) (fun h=>?_)
  ·have hl1 := cn h
   obtain ⟨x1,fb1,hx1,H,hg1⟩ := rMc hl1 hr1
   refine av (ac (az (ac (af (bs tk (zn j1) (bO cv hx1) ?_)))))
   refine aq tk rfl ?_
   refine bt tk fun b9=>?_
   refine aD tk ?_
   refine ag (ac (ac (af (aq tk rfl (aN tk ?_)))))
   refine aM tk (zl _) ?_
   refine aq tk rfl (ag ?_)
   obtain ⟨fl12,H12,Hp12⟩ := ax H
   refine bS tk 25 rfl rfl (fun hz12 _=>?_)
   rw [zl] at hz12
   refine aZ (τ := List Int × Bool × List Bool) (γ := OwnRef) (fun s12 g12=>⟨57,upd (upd (upd (upd (upd (upd (upd (fun _=>.any) 20 (ae (j1 : Int))) 19 (ae (x18.length : Int))) 18 (.list 35 (x18.map aW))) 9 (.box 9 b9 0)) 7 (.box 7 b7 0)) 6 (.box 6 b6 0)) 4 (.box 4 b4 0),upd (upd (upd (upd (upd (fun _=>none) 9 (some ⟨b9,[(ae x1.kind),(.str x1.table),(.list 9 (x1.names.map cl)),(.list 56 (x1.exprs.map bd)),(.list 66 (x1.aggregates.map cj)),(.list 4 (x1.descending.map cA)),(ae x1.count),(ae x1.offset),(.list 35 (x1.inputs.map aW))]⟩)) 7 (some ⟨b7,[(.fn 108 [(.box 4 b4 0),(.box 6 b6 0),(.box 5 b5 0),(.box 7 b7 0)])]⟩)) 6 (some ⟨b6,[(aE s12.2.1)]⟩)) 5 (some ⟨b5,(List.map aE s12.2.2)⟩)) 4 (some ⟨b4,[(.own 1204 g12 (s12.1.map bG).length)]⟩),upd (fun _=>none) 1204 (some ⟨g12,3,(s12.1.map bG),true⟩)⟩) (fun t=>fl12 = .next t) ?_ (fun s12 g12 hn12=>?_)
   ·refine az ?_
    refine bA (fun j12 s12 g12=>⟨57,upd (upd (upd (upd (upd (upd (upd (upd (upd (upd (fun _=>.any) 27 (ae (j12 : Int))) 26 (ae (x1.exprs.length : Int))) 25 (.list 56 (x1.exprs.map bd))) 20 (ae (j1 : Int))) 19 (ae (x18.length : Int))) 18 (.list 35 (x18.map aW))) 9 (.box 9 b9 0)) 7 (.box 7 b7 0)) 6 (.box 6 b6 0)) 4 (.box 4 b4 0),upd (upd (upd (upd (upd (fun _=>none) 9 (some ⟨b9,[(ae x1.kind),(.str x1.table),(.list 9 (x1.names.map cl)),(.list 56 (x1.exprs.map bd)),(.list 66 (x1.aggregates.map cj)),(.list 4 (x1.descending.map cA)),(ae x1.count),(ae x1.offset),(.list 35 (x1.inputs.map aW))]⟩)) 7 (some ⟨b7,[(.fn 108 [(.box 4 b4 0),(.box 6 b6 0),(.box 5 b5 0),(.box 7 b7 0)])]⟩)) 6 (some ⟨b6,[(aE s12.2.1)]⟩)) 5 (some ⟨b5,(List.map aE s12.2.2)⟩)) 4 (some ⟨b4,[(.own 1204 g12 (s12.1.map bG).length)]⟩),upd (fun _=>none) 1204 (some ⟨g12,3,(s12.1.map bG),true⟩)⟩) g1 H12 (Gh.le (aa (aa (aa (aa (aa (aa (aa (aa (aa (aa al)))))))))) (ay rfl (iX.r) (ay rfl (iX.r) (ay rfl (iX.r) (ay rfl (iX.r) (ay rfl (iX.r) ai))))) (aA ah)) (fun j12 s12 g12 hj12 hr12=>?_)
    refine aw 1 tk rfl (ac ?_)
    refine aX rfl (fun h=>?_) (fun h=>?_)
    ·have hl12 := cn h
     obtain ⟨x12,fb12,hx12,H,hg12⟩ := rMc hl12 hr12
     refine av (ac (az (ac (af (bs tk (zn j12) (bO eC hx12) ?_)))))
     refine aq tk rfl ?_
     refine bt tk fun b11=>?_
     refine aD tk ?_
     refine ag (af (aN tk ?_))
     refine aN tk ?_
     obtain ⟨x33,h33,H⟩ := ax H
     have s33 := ky b4 g12 b6 b5 b7 x12 s12.1 s12.2.1 s12.2.2 _ h33
     refine cy (st' := ⟨_,_,upd (upd (upd (upd (upd (upd (fun _=>none) 11 (some ⟨b11,[(ae x12.kind),(.str x12.name),(ae x12.index),(ae x12.value.kind),(ae x12.value.int),(.str x12.value.text),(.list 56 (x12.args.map bd))]⟩)) 9 (some ⟨b9,[(ae x1.kind),(.str x1.table),(.list 9 (x1.names.map cl)),(.list 56 (x1.exprs.map bd)),(.list 66 (x1.aggregates.map cj)),(.list 4 (x1.descending.map cA)),(ae x1.count),(ae x1.offset),(.list 35 (x1.inputs.map aW))]⟩)) 7 (some ⟨b7,[(.fn 108 [(.box 1000 b4 0),(.box 1001 b6 0),(.box 1002 b5 0),(.box 1003 b7 0)])]⟩)) 6 (some ⟨b6,[(aE s12.2.1)]⟩)) 5 (some ⟨b5,(List.map aE s12.2.2)⟩)) 4 (some ⟨b4,[(.own 1100 g12 (s12.1.map bG).length)]⟩),upd (fun _=>none) 1204 (some ⟨g12,3,(s12.1.map bG),true⟩)⟩) (Gh.le (bM _ _) (ay rfl (iX.of2 (ir.cons (mV.own rfl) ir.nil)) (ay rfl (iX.r) (ay rfl (iX.r) (ay rfl (iX.of2 (ir.cons (mV.fn (ir.cons mV.boxT (ir.cons mV.boxT (ir.cons mV.boxT (ir.cons mV.boxT ir.nil))))) ir.nil)) (ay rfl (iX.r) (ay rfl (iX.r) ai)))))) (aA ah)) ?_
     refine bZ (g := 108) rfl rfl rfl Tryz.call108 [(4,1000),(6,1001),(5,1002),(7,1003)] [(1204,1100)] rfl rfl rfl rfl (iX.of2 (ir.cons (mV.of_eq rfl) (ir.cons mV.boxT (ir.cons mV.boxT (ir.cons mV.boxT (ir.cons mV.boxT ir.nil)))))) (by rw [dw,dw,dw,dw,bQ,bH,bP]; rfl) s33 ?_
     rintro u33 H33h ⟨gz33_0,rfl,rfl⟩
     refine ⟨_,rfl,?_⟩
     refine cy (st' := ⟨_,_,upd (upd (upd (upd (upd (upd (fun _=>none) 11 (some ⟨b11,[(ae x12.kind),(.str x12.name),(ae x12.index),(ae x12.value.kind),(ae x12.value.int),(.str x12.value.text),(.list 56 (x12.args.map bd))]⟩)) 9 (some ⟨b9,[(ae x1.kind),(.str x1.table),(.list 9 (x1.names.map cl)),(.list 56 (x1.exprs.map bd)),(.list 66 (x1.aggregates.map cj)),(.list 4 (x1.descending.map cA)),(ae x1.count),(ae x1.offset),(.list 35 (x1.inputs.map aW))]⟩)) 7 (some ⟨b7,[(.fn 108 [(.box 4 b4 0),(.box 6 b6 0),(.box 5 b5 0),(.box 7 b7 0)])]⟩)) 6 (some ⟨b6,[(aE x33.2.1)]⟩)) 5 (some ⟨b5,(List.map aE x33.2.2)⟩)) 4 (some ⟨b4,[(.own 1204 gz33_0 (x33.1.map bG).length)]⟩),upd (fun _=>none) 1204 (some ⟨gz33_0,3,(x33.1.map bG),true⟩)⟩) (Gh.le (bM _ _) (ay rfl (iX.of2 (ir.cons (mV.own rfl) ir.nil)) (ay rfl (iX.r) (ay rfl (iX.r) (ay rfl (iX.of2 (ir.cons (mV.fn (ir.cons mV.boxT (ir.cons mV.boxT (ir.cons mV.boxT (ir.cons mV.boxT ir.nil))))) ir.nil)) (ay rfl (iX.r) (ay rfl (iX.r) ai)))))) (aA ah)) ?_
     refine ag (aR (bi 2 tk rfl ?_))
     obtain rfl := ao H
     refine aL (x33.1,x33.2.1,x33.2.2) gz33_0 ⟨hl12,hg12⟩ (Gh.le (aa (aa (aa (aa (aa (aa (aa (aa (aa (aH (PLe.q (aU (by omega))) al)))))))))) (ay rfl (iX.r) (ay rfl (iX.r) (ay rfl (iX.r) (ay rfl (iX.r) (ay rfl (iX.r) ai))))) (aA ah))
    have hn12 := rMd (co h) hr12
    refine aQ rfl ?_
    refine aO s12 g12 hn12 (Gh.le (aa (aa (aa (aa (aa (aa (aa al))))))) (ay rfl (iX.r) (ay rfl (iX.r) (ay rfl (iX.r) (ay rfl (iX.r) (ay rfl (iX.r) ai))))) (aA ah))
   have H := bo hn12 Hp12
   refine ac (af (aq tk rfl (aN tk ?_)))
   refine aM tk (zl _) ?_
   refine aq tk rfl (ag ?_)
   obtain ⟨fl13,H13,Hp13⟩ := ax H
   refine bS tk 36 rfl rfl (fun hz13 _=>?_)
   rw [zl] at hz13
   refine aZ (τ := List Int × Bool × List Bool) (γ := OwnRef) (fun s13 g13=>⟨57,upd (upd (upd (upd (upd (upd (fun _=>.any) 20 (ae (j1 : Int))) 19 (ae (x18.length : Int))) 18 (.list 35 (x18.map aW))) 7 (.box 7 b7 0)) 6 (.box 6 b6 0)) 4 (.box 4 b4 0),upd (upd (upd (upd (fun _=>none) 7 (some ⟨b7,[(.fn 108 [(.box 4 b4 0),(.box 6 b6 0),(.box 5 b5 0),(.box 7 b7 0)])]⟩)) 6 (some ⟨b6,[(aE s13.2.1)]⟩)) 5 (some ⟨b5,(List.map aE s13.2.2)⟩)) 4 (some ⟨b4,[(.own 1204 g13 (s13.1.map bG).length)]⟩),upd (fun _=>none) 1204 (some ⟨g13,3,(s13.1.map bG),true⟩)⟩) (fun t=>fl13 = .next t) ?_ (fun s13 g13 hn13=>?_)
   ·refine az ?_
    refine bA (fun j13 s13 g13=>⟨57,upd (upd (upd (upd (upd (upd (upd (upd (upd (fun _=>.any) 38 (ae (j13 : Int))) 37 (ae (x1.aggregates.length : Int))) 36 (.list 66 (x1.aggregates.map cj))) 20 (ae (j1 : Int))) 19 (ae (x18.length : Int))) 18 (.list 35 (x18.map aW))) 7 (.box 7 b7 0)) 6 (.box 6 b6 0)) 4 (.box 4 b4 0),upd (upd (upd (upd (fun _=>none) 7 (some ⟨b7,[(.fn 108 [(.box 4 b4 0),(.box 6 b6 0),(.box 5 b5 0),(.box 7 b7 0)])]⟩)) 6 (some ⟨b6,[(aE s13.2.1)]⟩)) 5 (some ⟨b5,(List.map aE s13.2.2)⟩)) 4 (some ⟨b4,[(.own 1204 g13 (s13.1.map bG).length)]⟩),upd (fun _=>none) 1204 (some ⟨g13,3,(s13.1.map bG),true⟩)⟩) g12 H13 (Gh.le (aa (aa (aa (aa (aa (aa (aa (aa (aa al))))))))) (ay rfl (iX.r) (ay rfl (iX.r) (ay rfl (iX.r) (ay rfl (iX.r) ai)))) (aA ah)) (fun j13 s13 g13 hj13 hr13=>?_)
    refine aw 1 tk rfl (ac ?_)
    refine aX rfl (fun h=>?_) (fun h=>?_)
    ·have hl13 := cn h
     obtain ⟨x13,fb13,hx13,H,hg13⟩ := rMc hl13 hr13
     refine av (ac (az (ac (af ?_))))
     refine bs tk (zn j13) (bO (fun _=>rfl) hx13) ?_
     refine aq tk rfl ?_
     refine bt tk fun b13=>?_
     refine aD tk ?_
     refine ag (ac (af (aq tk rfl (aN tk ?_))))
     refine aM tk (zl _) ?_
     refine aq tk rfl (ag ?_)
     obtain ⟨fl16,H16,Hp16⟩ := ax H
     refine bS tk 43 rfl rfl (fun hz16 _=>?_)
     rw [zl] at hz16
     refine aZ (τ := List Int × Bool × List Bool) (γ := OwnRef) (fun s16 g16=>⟨57,upd (upd (upd (upd (upd (upd (upd (upd (upd (fun _=>.any) 38 (ae (j13 : Int))) 37 (ae (x1.aggregates.length : Int))) 36 (.list 66 (x1.aggregates.map cj))) 20 (ae (j1 : Int))) 19 (ae (x18.length : Int))) 18 (.list 35 (x18.map aW))) 7 (.box 7 b7 0)) 6 (.box 6 b6 0)) 4 (.box 4 b4 0),upd (upd (upd (upd (fun _=>none) 7 (some ⟨b7,[(.fn 108 [(.box 4 b4 0),(.box 6 b6 0),(.box 5 b5 0),(.box 7 b7 0)])]⟩)) 6 (some ⟨b6,[(aE s16.2.1)]⟩)) 5 (some ⟨b5,(List.map aE s16.2.2)⟩)) 4 (some ⟨b4,[(.own 1204 g16 (s16.1.map bG).length)]⟩),upd (fun _=>none) 1204 (some ⟨g16,3,(s16.1.map bG),true⟩)⟩) (fun t=>fl16 = .next t) ?_ (fun s16 g16 hn16=>?_)
     ·refine az ?_
      refine bA (fun j16 s16 g16=>⟨57,upd (upd (upd (upd (upd (upd (upd (upd (upd (upd (upd (upd (fun _=>.any) 45 (ae (j16 : Int))) 44 (ae (x13.args.length : Int))) 43 (.list 56 (x13.args.map bd))) 38 (ae (j13 : Int))) 37 (ae (x1.aggregates.length : Int))) 36 (.list 66 (x1.aggregates.map cj))) 20 (ae (j1 : Int))) 19 (ae (x18.length : Int))) 18 (.list 35 (x18.map aW))) 7 (.box 7 b7 0)) 6 (.box 6 b6 0)) 4 (.box 4 b4 0),upd (upd (upd (upd (fun _=>none) 7 (some ⟨b7,[(.fn 108 [(.box 4 b4 0),(.box 6 b6 0),(.box 5 b5 0),(.box 7 b7 0)])]⟩)) 6 (some ⟨b6,[(aE s16.2.1)]⟩)) 5 (some ⟨b5,(List.map aE s16.2.2)⟩)) 4 (some ⟨b4,[(.own 1204 g16 (s16.1.map bG).length)]⟩),upd (fun _=>none) 1204 (some ⟨g16,3,(s16.1.map bG),true⟩)⟩) g13 H16 (Gh.le (aa (aa (aa (aa (aa (aa (aa (aa (aa (aa (aa (aa al)))))))))))) (ay rfl (iX.r) (ay rfl (iX.r) (ay rfl (iX.r) (ay rfl (iX.r) ai)))) (aA ah)) (fun j16 s16 g16 hj16 hr16=>?_)
      refine aw 1 tk rfl (ac ?_)
      refine aX rfl (fun h=>?_) (fun h=>?_)
      ·have hl16 := cn h
       obtain ⟨x16,fb16,hx16,H,hg16⟩ := rMc hl16 hr16
       refine av (ac (az (ac (af (bs tk (zn j16) (bO eC hx16) ?_)))))
       refine aq tk rfl ?_
       refine bt tk fun b15=>?_
       refine aD tk ?_
       refine ag (af (aN tk ?_))
       refine aN tk ?_
       obtain ⟨x51,h51,H⟩ := ax H
       have s51 := ky b4 g16 b6 b5 b7 x16 s16.1 s16.2.1 s16.2.2 _ h51
       refine cy (st' := ⟨_,_,upd (upd (upd (upd (upd (fun _=>none) 15 (some ⟨b15,[(ae x16.kind),(.str x16.name),(ae x16.index),(ae x16.value.kind),(ae x16.value.int),(.str x16.value.text),(.list 56 (x16.args.map bd))]⟩)) 7 (some ⟨b7,[(.fn 108 [(.box 1000 b4 0),(.box 1001 b6 0),(.box 1002 b5 0),(.box 1003 b7 0)])]⟩)) 6 (some ⟨b6,[(aE s16.2.1)]⟩)) 5 (some ⟨b5,(List.map aE s16.2.2)⟩)) 4 (some ⟨b4,[(.own 1100 g16 (s16.1.map bG).length)]⟩),upd (fun _=>none) 1204 (some ⟨g16,3,(s16.1.map bG),true⟩)⟩) (Gh.le (bM _ _) (ay rfl (iX.of2 (ir.cons (mV.own rfl) ir.nil)) (ay rfl (iX.r) (ay rfl (iX.r) (ay rfl (iX.of2 (ir.cons (mV.fn (ir.cons mV.boxT (ir.cons mV.boxT (ir.cons mV.boxT (ir.cons mV.boxT ir.nil))))) ir.nil)) (ay rfl (iX.r) ai))))) (aA ah)) ?_
       refine bZ (g := 108) rfl rfl rfl Tryz.call108 [(4,1000),(6,1001),(5,1002),(7,1003)] [(1204,1100)] rfl rfl rfl rfl (iX.of2 (ir.cons (mV.of_eq rfl) (ir.cons mV.boxT (ir.cons mV.boxT (ir.cons mV.boxT (ir.cons mV.boxT ir.nil)))))) (by rw [dw,dw,dw,dw,bQ,bH,bP]; rfl) s51 ?_
       rintro u51 H51h ⟨gz51_0,rfl,rfl⟩
       refine ⟨_,rfl,?_⟩
       refine cy (st' := ⟨_,_,upd (upd (upd (upd (upd (fun _=>none) 15 (some ⟨b15,[(ae x16.kind),(.str x16.name),(ae x16.index),(ae x16.value.kind),(ae x16.value.int),(.str x16.value.text),(.list 56 (x16.args.map bd))]⟩)) 7 (some ⟨b7,[(.fn 108 [(.box 4 b4 0),(.box 6 b6 0),(.box 5 b5 0),(.box 7 b7 0)])]⟩)) 6 (some ⟨b6,[(aE x51.2.1)]⟩)) 5 (some ⟨b5,(List.map aE x51.2.2)⟩)) 4 (some ⟨b4,[(.own 1204 gz51_0 (x51.1.map bG).length)]⟩),upd (fun _=>none) 1204 (some ⟨gz51_0,3,(x51.1.map bG),true⟩)⟩) (Gh.le (bM _ _) (ay rfl (iX.of2 (ir.cons (mV.own rfl) ir.nil)) (ay rfl (iX.r) (ay rfl (iX.r) (ay rfl (iX.of2 (ir.cons (mV.fn (ir.cons mV.boxT (ir.cons mV.boxT (ir.cons mV.boxT (ir.cons mV.boxT ir.nil))))) ir.nil)) (ay rfl (iX.r) ai))))) (aA ah)) ?_
       refine ag (aR (bi 2 tk rfl ?_))
       obtain rfl := ao H
       refine aL (x51.1,x51.2.1,x51.2.2) gz51_0 ⟨hl16,hg16⟩ (Gh.le (aa (aa (aa (aa (aa (aa (aa (aa (aa (aa (aa (aH (PLe.q (aU (by omega))) al)))))))))))) (ay rfl (iX.r) (ay rfl (iX.r) (ay rfl (iX.r) (ay rfl (iX.r) ai)))) (aA ah))
      have hn16 := rMd (co h) hr16
      refine aQ rfl ?_
      refine aO s16 g16 hn16 (Gh.le (aa (aa (aa (aa (aa (aa (aa (aa (aa al))))))))) (ay rfl (iX.r) (ay rfl (iX.r) (ay rfl (iX.r) (ay rfl (iX.r) ai)))) (aA ah))
     have H := bo hn16 Hp16
     refine aR (bi 2 tk rfl ?_)
     obtain rfl := ao H
     refine aL (s16.1,s16.2.1,s16.2.2) g16 ⟨hl13,hg13⟩ (Gh.le (aa (aa (aa (aa (aa (aa (aa (aa (aH (PLe.q (aU (by omega))) al))))))))) (ay rfl (iX.r) (ay rfl (iX.r) (ay rfl (iX.r) (ay rfl (iX.r) ai)))) (aA ah))
    have hn13 := rMd (co h) hr13
    refine aQ rfl ?_
    refine aO s13 g13 hn13 (Gh.le (aa (aa (aa (aa (aa (aa al)))))) (ay rfl (iX.r) (ay rfl (iX.r) (ay rfl (iX.r) (ay rfl (iX.r) ai)))) (aA ah))
   have H := bo hn13 Hp13
   refine aR (bi 2 tk rfl ?_)
   obtain rfl := ao H
   refine aL (s13.1,s13.2.1,s13.2.2) g13 ⟨hl1,hg1⟩ (Gh.le (aa (aa (aa (aa (aa (aH (PLe.q (aU (by omega))) al)))))) (ay rfl (iX.r) (ay rfl (iX.r) (ay rfl (iX.r) (ay rfl (iX.r) ai)))) (aA ah))
  have hn1 := rMd (co h) hr1
  refine aQ rfl ?_
  refine aO s1 g1 hn1 (Gh.le (aa (aa al)) (ay rfl (iX.r) (ay rfl (iX.r) ai)) (aA ah))
 have H := bo hn1 Hp1
 refine ac (ac (af (aN tk ?_)))
 refine ag ?_
 refine aP rfl H (fun H=>?_) (fun H=>?_)
 ·refine aw 2 tk rfl ?_
  obtain rfl := ao H
  refine aB tk rfl (ps := [(.val (.slice none 0 0)),(ae 13)]) ⟨_,_,rfl,rfl,_,_,rfl,rfl,rfl⟩ (PLe.of2 (mV.tup (ir.cons (mV.nil tk rfl) (ir.cons (mV.of_eq rfl) ir.nil))))
 refine av (ac (af (aN tk ?_)))
 refine am 2 tk rfl (ag ?_)
 obtain rfl := ao H
 refine ec 2 rfl rfl rfl ?_
 refine aB tk rfl (ps := [(.list 3 (s1.1.map bG)),(ae 0)]) ⟨_,_,rfl,rfl,_,_,rfl,rfl,rfl⟩ (PLe.q rfl)
def fj (sA : List Int) (v : Int) : Option (Bool) :=
 aj (gV sA v) fun x7 =>
 some (decide (x7 ≥ (0 : Int)))
theorem mX (sA : List Int) (v : Int) (r : Bool) (H : fj sA v = some r) :
  aV Tryz.prog 152 [(.list 3 (sA.map bG)),(ae v)] (aE r) := by
 unfold fj at H
 refine PH.aC Tryz.func152 Tryz.ntmps152 ?_
 refine aw 1 tk rfl (ac (af (am 2 tk rfl ?_)))
 obtain ⟨x7,h7,H⟩ := ax H
 have s7 := oi sA v _ h7
 refine au Tryz.call179 (iX.r) s7 ?_
 refine am 2 tk rfl (ag ?_)
 obtain rfl := ao H
 refine aB tk rfl (ps := [(aE (decide (x7 ≥ (0 : Int))))]) ⟨_,_,rfl,rfl,rfl⟩ (PLe.q rfl)
def ij (kind : Int) (a : List LCol) (b : List LCol) : Option ((List LCol) × Int) :=
 cond ((a.length : Int) != (b.length : Int))
  (some ([],7))
  (aj (ba (σ := List LCol) (ρ := ((List LCol) × Int)) (fun (j1 : Nat) (x1 : LCol) (s1 : List LCol) =>
   aj (aF b (j1 : Int)) fun (x29 : LCol) =>
   cond (x1.kind != x29.kind)
    (some (.ret ([],7)))
    (cond x1.nullable
     (aj (aF s1 (j1 : Int)) fun (x51 : LCol) =>
     bn (s1.set ((j1 : Int).toNat) (LCol.mk x51.name x51.kind true)) fun (y8 : List LCol) =>
     some (.next y8))
     (cond (kind == (6 : Int))
      (aj (aF b (j1 : Int)) fun (x46 : LCol) =>
      aj (aF s1 (j1 : Int)) fun (x51 : LCol) =>
      bn (s1.set ((j1 : Int).toNat) (LCol.mk x51.name x51.kind x46.nullable)) fun (y9 : List LCol) =>
      some (.next y9))
      (aj (aF s1 (j1 : Int)) fun (x51 : LCol) =>
      bn (s1.set ((j1 : Int).toNat) (LCol.mk x51.name x51.kind false)) fun (y10 : List LCol) =>
      some (.next y10))))) 0 a a) fun fl1=>fl1.thenR fun (s1 : List LCol) =>
  some (s1,0))
theorem qK (kind : Int) (a : List LCol) (b : List LCol) (r : (List LCol) × Int) (H : ij kind a b = some r) :
  aV Tryz.prog 157 [(ae kind),(.list 50 (a.map aG)),(.list 50 (b.map aG))] (.tup [(.list 50 (r.1.map aG)),(ae r.2)]) := by
 unfold ij at H
 refine PH.aC Tryz.func157 Tryz.ntmps157 ?_
 refine aw 2 tk rfl (ac (ac (af (aq tk rfl (aM tk (zl _) ?_)))))
 refine aq tk rfl (aM tk (zl _) ?_)
 refine aq tk rfl (ag ?_)
 refine aP rfl H (fun H=>?_) (fun H=>?_)
 ·refine aw 2 tk rfl ?_
  obtain rfl := ao H
  refine aB tk rfl (ps := [(.val (.slice none 0 0)),(ae 7)]) ⟨_,_,rfl,rfl,_,_,rfl,rfl,rfl⟩ (PLe.of2 (mV.tup (ir.cons (mV.nil tk rfl) (ir.cons (mV.of_eq rfl) ir.nil))))
 refine av (ac (af (aq tk rfl ?_)))
 have s16 := ot (m := 16) a
 refine li (g := 155) rfl rfl rfl Tryz.call155 (iX.r) rfl rfl s16 (fun g16=>?_)
 refine aq tk rfl (ag (ac (ac (af (aq tk rfl (aM tk (zl _) ?_))))))
 refine aq tk rfl (ag ?_)
 obtain ⟨fl1,H1,Hp1⟩ := ax H
 refine bS tk 1 rfl rfl (fun hz1 _=>?_)
 rw [zl] at hz1
 refine aZ (τ := List LCol) (γ := OwnRef) (fun s1 g1=>⟨55,upd (fun _=>.any) 8 (.own 16 g1 (s1.map aG).length),fun _=>none,upd (fun _=>none) 16 (some ⟨g1,50,(s1.map aG),true⟩)⟩) (fun t=>fl1 = .next t) ?_ (fun s1 g1 hn1=>?_)
 ·refine az ?_
  refine bA (fun j1 s1 g1=>⟨55,upd (upd (upd (upd (upd (upd (fun _=>.any) 19 (ae (j1 : Int))) 18 (ae (a.length : Int))) 8 (.own 16 g1 (s1.map aG).length)) 2 (.list 50 (b.map aG))) 1 (.list 50 (a.map aG))) 0 (ae kind),fun _=>none,upd (fun _=>none) 16 (some ⟨g1,50,(s1.map aG),true⟩)⟩) g16 H1 (Gh.le (aa (aa (aa (aa (aa (aa al)))))) ai (aA ah)) (fun j1 s1 g1 hj1 hr1=>?_)
  refine aw 1 tk rfl (ac ?_)
  refine aX rfl (fun h=>?_) (fun h=>?_)
  ·have hl1 := cn h
   obtain ⟨x1,fb1,hx1,H,hg1⟩ := rMc hl1 hr1
   refine av (ac (az (aw 2 tk rfl (ac (ac ?_)))))
   refine cU (tag := 16) rfl (fun ho16=>?_)
   refine bj tk mok ⟨false,false,[]⟩ [0,1,2,3,4,5,6,7,8,9,10] rfl (by decide +kernel) rfl (aK 2 rfl ?_)
   refine cg (zn j1) (bO (fun _=>rfl) hx1) ?_
   refine aK 4 rfl ?_
   obtain ⟨x29,k29,H⟩ := aY H
   refine cg k29.1 (aI (fun _=>rfl) k29.2) ?_
   refine aK 3 rfl (bf ?_)
   refine aP rfl H (fun H=>?_) (fun H=>?_)
   ·refine aw 2 tk rfl ?_
    obtain rfl := ao H
    have e1 : fl1 = .ret _ := hg1
    subst e1
    obtain rfl := bm Hp1
    refine aB tk rfl (ps := [(.val (.slice none 0 0)),(ae 7)]) ⟨_,_,rfl,rfl,_,_,rfl,rfl,rfl⟩ (PLe.of2 (mV.tup (ir.cons (mV.nil tk rfl) (ir.cons (mV.of_eq rfl) ir.nil))))
   refine av (af (am 4 tk rfl ?_))
   refine bs tk (zn j1) (bO (fun _=>rfl) hx1) ?_
   refine am 3 tk rfl ?_
   refine bF rfl rfl rfl H (fun H=>?_) (fun H=>?_)
   ·refine am 10 tk rfl ?_
    obtain ⟨x51,k51,H⟩ := aY H
    refine mj (tag := 16) rfl (fun ho16=>?_)
    refine ml tk rfl rfl rfl rfl rfl rfl rfl ⟨k51.1,(bh k51.2)⟩ (bl ho16 k51.2) rfl (aq tk rfl ?_)
    obtain ⟨y8,hy8,H⟩ := bJ H
    refine oB tk rfl rfl rfl rfl rfl rfl rfl rfl (by rw [zl]; exact (zg.1 k51.2).1) (PLe.refl _ _) rfl rfl rfl rfl (by decide) (bK (fun _=>rfl) k51.2 rfl hy8) ?_
    refine ag (aR (bi 2 tk rfl ?_))
    obtain rfl := ao H
    refine aL y8 g1 ⟨hl1,hg1⟩ (Gh.le (aa (aa (aa (aH (PLe.of2 (mV.of_eq (congrArg (PV.own 16 g1) (bq (f := aG) hy8)))) (aa (aH (PLe.q (aU (by omega))) al)))))) ai (aA ah))
   refine am 3 tk rfl ?_
   refine bF rfl rfl rfl H (fun H=>?_) (fun H=>?_)
   ·refine am 2 tk rfl ?_
    obtain ⟨x46,k46,H⟩ := aY H
    refine bs tk k46.1 (aI (fun _=>rfl) k46.2) ?_
    refine am 4 tk rfl ?_
    obtain ⟨x51,k51,H⟩ := aY H
    refine mj (tag := 16) rfl (fun ho16=>?_)
    refine ml tk rfl rfl rfl rfl rfl rfl rfl ⟨k51.1,(bh k51.2)⟩ (bl ho16 k51.2) rfl (aq tk rfl ?_)
    obtain ⟨y9,hy9,H⟩ := bJ H
    refine oB tk rfl rfl rfl rfl rfl rfl rfl rfl (by rw [zl]; exact (zg.1 k51.2).1) (PLe.refl _ _) rfl rfl rfl rfl (by decide) (bK (fun _=>rfl) k51.2 rfl hy9) ?_
    refine ag (aR (bi 2 tk rfl ?_))
    obtain rfl := ao H
    refine aL y9 g1 ⟨hl1,hg1⟩ (Gh.le (aa (aa (aa (aH (PLe.of2 (mV.of_eq (congrArg (PV.own 16 g1) (bq (f := aG) hy9)))) (aa (aH (PLe.q (aU (by omega))) al)))))) ai (aA ah))
   refine am 7 tk rfl ?_
   obtain ⟨x51,k51,H⟩ := aY H
   refine mj (tag := 16) rfl (fun ho16=>?_)
   refine ml tk rfl rfl rfl rfl rfl rfl rfl ⟨k51.1,(bh k51.2)⟩ (bl ho16 k51.2) rfl (aq tk rfl ?_)
   obtain ⟨y10,hy10,H⟩ := bJ H
   refine oB tk rfl rfl rfl rfl rfl rfl rfl rfl (by rw [zl]; exact (zg.1 k51.2).1) (PLe.refl _ _) rfl rfl rfl rfl (by decide) (bK (fun _=>rfl) k51.2 rfl hy10) ?_
   refine ag (aR (bi 2 tk rfl ?_))
   obtain rfl := ao H
   refine aL y10 g1 ⟨hl1,hg1⟩ (Gh.le (aa (aa (aa (aH (PLe.of2 (mV.of_eq (congrArg (PV.own 16 g1) (bq (f := aG) hy10)))) (aa (aH (PLe.q (aU (by omega))) al)))))) ai (aA ah))
  have hn1 := rMd (co h) hr1
  refine aQ rfl ?_
  refine aO s1 g1 hn1 (Gh.le (aa al) ai (aA ah))
 have H := ck hn1 Hp1
 refine aw 3 tk rfl ?_
 obtain rfl := ao H
 refine ec 6 rfl rfl rfl ?_
 refine aB tk rfl (ps := [(.list 50 (s1.map aG)),(ae 0)]) ⟨_,_,rfl,rfl,_,_,rfl,rfl,rfl⟩ (PLe.q rfl)
def dR (sA : List (List UInt8)) (v : List UInt8) : Option (Bool) :=
 aj (fI sA v) fun x7 =>
 some (decide (x7 ≥ (0 : Int)))
theorem lg (sA : List (List UInt8)) (v : List UInt8) (r : Bool) (H : dR sA v = some r) :
  aV Tryz.prog 48 [(.list 9 (sA.map cl)),(.str v)] (aE r) := by
 unfold dR at H
 refine PH.aC Tryz.func48 Tryz.ntmps48 ?_
 refine aw 1 tk rfl (ac (af (am 2 tk rfl ?_)))
 obtain ⟨x7,h7,H⟩ := ax H
 have s7 := lX sA v _ h7
 refine au Tryz.call79 (iX.r) s7 ?_
 refine am 2 tk rfl (ag ?_)
 obtain rfl := ao H
 refine aB tk rfl (ps := [(aE (decide (x7 ≥ (0 : Int))))]) ⟨_,_,rfl,rfl,rfl⟩ (PLe.q rfl)
def cw (sA : List LCol) (f : LCol → Option (Bool)) : Option (Bool) :=
 aj (cY sA f) fun x7 =>
 some (decide (x7 ≥ (0 : Int)))
theorem jE {g_f : FuncId} {caps_f : List PV} (sA : List LCol) (f : LCol → Option (Bool)) (hg_f : ∀ (vs : Array Value) (w : World),(callFunc g_f vs).run Tryz.prog w = .ok (.enter g_f vs) w) (hp_f : ∀ a0 r,f a0 = some r → aV Tryz.prog g_f ((.agg (aG a0)) :: caps_f) (aE r)) (r : Bool) (H : cw sA f = some r) :
  aV Tryz.prog 112 [(.list 50 (sA.map aG)),(.fn g_f caps_f)] (aE r) := by
 unfold cw at H
 refine PH.aC Tryz.func112 Tryz.ntmps112 ?_
 refine aw 1 tk rfl (ac (af (am 2 tk rfl ?_)))
 obtain ⟨x7,h7,H⟩ := ax H
 have s7 := gK sA f hg_f hp_f _ h7
 refine au Tryz.call43 (iX.r) s7 ?_
 refine am 2 tk rfl (ag ?_)
 obtain rfl := ao H
 refine aB tk rfl (ps := [(aE (decide (x7 ≥ (0 : Int))))]) ⟨_,_,rfl,rfl,rfl⟩ (PLe.q rfl)
def eu (t : LTable) (row : Rq) : Option (Int) :=
 cond ((row.length : Int) != (t.columns.length : Int))
  (some 3)
  (aj (ba (σ := Unit) (ρ := (Int)) (fun (j1 : Nat) (x1 : LVal) (_ : Unit) =>
   bn (dM x1) fun x22 =>
   cond (x22 != (0 : Int))
    (some (.ret x22))
    (aj (
     cond (x1.kind == (0 : Int))
      (aj (aF t.columns (j1 : Int)) fun (x33 : LCol) =>
      some (!x33.nullable))
      (some false)) fun (t3 : Bool) =>
    cond t3
     (some (.ret 8))
     (cond (x1.kind != (0 : Int))
      (aj (aF t.columns (j1 : Int)) fun (x47 : LCol) =>
      cond (x1.kind != x47.kind)
       (some (.ret 7))
       (some (.next ())))
      (some (.next ()))))) 0 row ()) fun fl1=>fl1.thenR fun (_ : Unit) =>
  some 0)
theorem oK (t : LTable) (row : Rq) (r : Int) (H : eu t row = some r) :
  aV Tryz.prog 84 [(.agg (bu t)),(.list 53 (row.map ab))] (ae r) := by
 unfold eu at H
 refine PH.aC Tryz.func84 Tryz.ntmps84 ?_
 refine ac (af (aT ?_))
 refine aq tk rfl (ag (ac (ac (af (aq tk rfl (aM tk (zl _) ?_))))))
 refine am 2 tk rfl (aM tk (zl _) ?_)
 refine aq tk rfl (ag ?_)
 refine aP rfl H (fun H=>?_) (fun H=>?_)
 ·refine aw 1 tk rfl ?_
  obtain rfl := ao H
  refine aB tk rfl (ps := [(ae 3)]) ⟨_,_,rfl,rfl,rfl⟩ (PLe.q rfl)
 refine av (ac (ac (af (aq tk rfl (aM tk (zl _) ?_)))))
 refine aq tk rfl (ag ?_)
 obtain ⟨fl1,H1,Hp1⟩ := ax H
 refine bS tk 14 rfl rfl (fun hz1 _=>?_)
 rw [zl] at hz1
 refine aZ (τ := Unit) (γ := Unit) (fun s1 g1=>⟨53,fun _=>.any,fun _=>none,fun _=>none⟩) (fun t=>fl1 = .next t) ?_ (fun s1 g1 hn1=>?_)
 ·refine az ?_
  refine bA (fun j1 s1 g1=>⟨53,upd (upd (upd (upd (fun _=>.any) 16 (ae (j1 : Int))) 15 (ae (row.length : Int))) 14 (.list 53 (row.map ab))) 2 (.ptr [(.str t.name),(.list 50 (t.columns.map aG)),(.list 3 (t.primaryKey.map bG))]),fun _=>none,fun _=>none⟩) () H1 (Gh.le (aa (aa (aa (aa al)))) ai ah) (fun j1 s1 g1 hj1 hr1=>?_)
  refine aw 1 tk rfl (ac ?_)
  refine aX rfl (fun h=>?_) (fun h=>?_)
  ·have hl1 := cn h
   obtain ⟨x1,fb1,hx1,H,hg1⟩ := rMc hl1 hr1
   refine av (ac (az (ac (af (aq tk rfl ?_)))))
   refine bs tk (zn j1) (bO (fun _=>rfl) hx1) ?_
   refine aq tk rfl ?_
   refine bt tk fun b6=>?_
   refine aq tk rfl (aD tk ?_)
   refine ag (ac (ac (af (aN tk ?_))))
   obtain ⟨x22,h22,H⟩ := bJ H
   have s22 := nZ x1
   rw [h22] at s22
   refine au Tryz.call105 (iX.r) s22 ?_
   refine aq tk rfl (ag (aw 2 tk rfl ?_))
   refine aP rfl H (fun H=>?_) (fun H=>?_)
   ·refine aw 2 tk rfl ?_
    obtain rfl := ao H
    have e1 : fl1 = .ret _ := hg1
    subst e1
    obtain rfl := bm Hp1
    refine aB tk rfl (ps := [(ae x22)]) ⟨_,_,rfl,rfl,rfl⟩ (PLe.q rfl)
   refine av (ac (ac ?_))
   obtain ⟨fl3,H3,Hp3⟩ := ax H
   refine aZ (τ := Bool) (γ := Unit) (fun t3 g3=>⟨53,upd (upd (upd (upd (upd (upd (upd (fun _=>.any) 37 (aE t3)) 16 (ae (j1 : Int))) 15 (ae (row.length : Int))) 14 (.list 53 (row.map ab))) 6 (.box 6 b6 0)) 5 (ae (j1 : Int))) 2 (.ptr [(.str t.name),(.list 50 (t.columns.map aG)),(.list 3 (t.primaryKey.map bG))]),upd (fun _=>none) 6 (some ⟨b6,[(ae x1.kind),(ae x1.int),(.str x1.text)]⟩),fun _=>none⟩) (fun t=>t = fl3) ?_ (fun t3 g3 hn3=>?_)
   ·have H := H3
    refine af (aq tk rfl (aN tk ?_))
    refine am 2 tk rfl ?_
    refine bF rfl rfl rfl H (fun H=>?_) (fun H=>?_)
    ·refine am 3 tk rfl ?_
     obtain ⟨x33,k33,H⟩ := aY H
     refine bs tk k33.1 (aI (fun _=>rfl) k33.2) ?_
     refine am 4 tk rfl (ag ?_)
     obtain rfl := ao H
     refine aO (!x33.nullable) () rfl (Gh.le (aa (aa (aa (aa (aa (aa (aa al))))))) (ay rfl (iX.r) ai) ah)
    refine am 8 tk rfl (ag ?_)
    obtain rfl := ao H
    refine aO false () rfl (Gh.le (aa (aa (aa (aa (aa (aa (aa al))))))) (ay rfl (iX.r) ai) ah)
   subst hn3
   have H := Hp3
   refine aP rfl H (fun H=>?_) (fun H=>?_)
   ·refine aw 1 tk rfl ?_
    obtain rfl := ao H
    have e1 : fl1 = .ret _ := hg1
    subst e1
    obtain rfl := bm Hp1
    refine aB tk rfl (ps := [(ae 8)]) ⟨_,_,rfl,rfl,rfl⟩ (PLe.q rfl)
   refine av (ac (bj tk mok ⟨true,false,[45,49]⟩ [0,1,2,3,4,5,6,7,8,9,10,11,12,13] rfl (by decide +kernel) rfl (cC rfl (cF ?_))))
   refine aK 2 rfl ?_
   refine iq H (fun H=>?_) (fun H=>?_)
   ·refine cC rfl (cF ?_)
    refine aK 3 rfl ?_
    obtain ⟨x47,k47,H⟩ := aY H
    refine cg k47.1 (aI (fun _=>rfl) k47.2) ?_
    refine aK 4 rfl (bf ?_)
    refine aP rfl H (fun H=>?_) (fun H=>?_)
    ·refine aw 1 tk rfl ?_
     obtain rfl := ao H
     have e1 : fl1 = .ret _ := hg1
     subst e1
     obtain rfl := bm Hp1
     refine aB tk rfl (ps := [(ae 7)]) ⟨_,_,rfl,rfl,rfl⟩ (PLe.q rfl)
    refine av (aR (bi 2 tk rfl ?_))
    obtain rfl := ao H
    refine aL () () ⟨hl1,hg1⟩ (Gh.le (aa (aa (aa (aH (PLe.q (aU (by omega))) al)))) ai ah)
   refine aK 10 rfl (bf (bD rfl (av (aR (bi 2 tk rfl ?_)))))
   obtain rfl := ao H
   refine aL () () ⟨hl1,hg1⟩ (Gh.le (aa (aa (aa (aH (PLe.q (aU (by omega))) al)))) ai ah)
  have hn1 := rMd (co h) hr1
  refine aQ rfl ?_
  refine aO s1 g1 hn1 (Gh.le al ai ah)
 have H := ck hn1 Hp1
 refine aw 1 tk rfl ?_
 obtain rfl := ao H
 refine aB tk rfl (ps := [(ae 0)]) ⟨_,_,rfl,rfl,rfl⟩ (PLe.q rfl)
def jL (a : List UInt8) (b : List UInt8) : Int :=
 bn (fh a b) fun x7 =>
 x7
theorem qY (a : List UInt8) (b : List UInt8) :
  aV Tryz.prog 150 [(.str a),(.str b)] (ae (jL a b)) := by
 obtain ⟨r,H⟩ : ∃ r,jL a b = r := ⟨_,rfl⟩
 rw [H]
 unfold jL at H
 refine PH.aC Tryz.func150 Tryz.ntmps150 ?_
 refine aw 1 tk rfl (ac (af (am 2 tk rfl ?_)))
 obtain ⟨x7,h7,H⟩ := bJ H
 have s7 := lj a b
 rw [h7] at s7
 refine au Tryz.call178 (iX.r) s7 ?_
 refine aq tk rfl (ag ?_)
 subst H
 refine aB tk rfl (ps := [(ae x7)]) ⟨_,_,rfl,rfl,rfl⟩ (PLe.q rfl)
def cp (slices : Rz) : Option (Rq) :=
 aj (ba (σ := Int) (ρ := Empty) (fun (_ : Nat) (x1 : Rq) (s1 : Int) =>
  cond (decide ((IntKind.i64.wrap (s1 + (x1.length : Int))) < (0 : Int)))
   (none)
   (some (.next (IntKind.i64.wrap (s1 + (x1.length : Int)))))) 0 slices 0) fun fl1=>fl1.thenP fun (s1 : Int) =>
 aj (ou 32 s1) fun (_ : Unit) =>
 aj (ba (σ := Rq) (ρ := Empty) (fun (_ : Nat) (x2 : Rq) (s2 : Rq) =>
  aj (dW 32 s2 x2) fun (x33 : Rq) =>
  some (.next x33)) 0 slices []) fun fl2=>fl2.thenP fun (s2 : Rq) =>
 some s2
theorem iN {m : Nat} (slices : Rz) (r : Rq) (H : cp slices = some r) :
  jw Tryz.prog 168 [(.list 51 (slices.map (ak 53 ab)))] (lS m 53 (r.map ab)) := by
 unfold cp at H
 refine PH.aC Tryz.func168 Tryz.ntmps168 ?_
 refine aw 1 tk rfl (aw 1 tk rfl (ac (ac (af (aq tk rfl (aM tk (zl _) ?_))))))
 refine aq tk rfl (ag ?_)
 obtain ⟨fl1,H1,Hp1⟩ := ax H
 refine bS tk 9 rfl rfl (fun hz1 _=>?_)
 rw [zl] at hz1
 refine aZ (τ := Int) (γ := Unit) (fun s1 g1=>⟨36,upd (upd (fun _=>.any) 3 (ae s1)) 0 (.list 51 (slices.map (ak 53 ab))),fun _=>none,fun _=>none⟩) (fun t=>fl1 = .next t) ?_ (fun s1 g1 hn1=>?_)
 ·refine az ?_
  refine bA (fun j1 s1 g1=>⟨36,upd (upd (upd (upd (upd (fun _=>.any) 11 (ae (j1 : Int))) 10 (ae (slices.length : Int))) 9 (.list 51 (slices.map (ak 53 ab)))) 3 (ae s1)) 0 (.list 51 (slices.map (ak 53 ab))),fun _=>none,fun _=>none⟩) () H1 (Gh.le (aa (aa (aa (aa (aa al))))) ai ah) (fun j1 s1 g1 hj1 hr1=>?_)
  refine aw 1 tk rfl (ac ?_)
  refine aX rfl (fun h=>?_) (fun h=>?_)
  ·have hl1 := cn h
   obtain ⟨x1,fb1,hx1,H,hg1⟩ := rMc hl1 hr1
   refine av (ac (az (ac (af ?_))))
   refine bs tk (zn j1) (bO (fun _=>rfl) hx1) ?_
   refine am 2 tk rfl (ag (ac (af (am 2 tk rfl (aM tk (zl _) ?_)))))
   refine am 2 tk rfl (ag (aw 2 tk rfl ?_))
   refine aP rfl H (fun H=>?_) (fun H=>?_)
   ·cases H
   refine av (aR (bi 2 tk rfl ?_))
   obtain rfl := ao H
   refine aL (IntKind.i64.wrap (s1 + (x1.length : Int))) () ⟨hl1,hg1⟩ (Gh.le (aa (aa (aa (aa (aH (PLe.q (aU (by omega))) al))))) ai ah)
  have hn1 := rMd (co h) hr1
  refine aQ rfl ?_
  refine aO s1 g1 hn1 (Gh.le (aa (aa al)) ai ah)
 have H := bo hn1 Hp1
 refine ac (af (aq tk rfl ?_))
 obtain ⟨_,h24,H⟩ := ax H
 have s24 := grow_186 (m := 24) s1 h24
 refine li (g := 186) rfl rfl rfl Tryz.call186 (iX.r) rfl rfl s24 (fun g24=>?_)
 refine aq tk rfl (ag (ac (ac (af (aq tk rfl (aM tk (zl _) ?_))))))
 refine aq tk rfl (ag ?_)
 obtain ⟨fl2,H2,Hp2⟩ := ax H
 refine bS tk 25 rfl rfl (fun hz2 _=>?_)
 rw [zl] at hz2
 refine aZ (τ := Rq) (γ := OwnRef) (fun s2 g2=>⟨36,upd (fun _=>.any) 6 (.own 24 g2 (s2.map ab).length),fun _=>none,upd (fun _=>none) 24 (some ⟨g2,53,(s2.map ab),true⟩)⟩) (fun t=>fl2 = .next t) ?_ (fun s2 g2 hn2=>?_)
 ·refine az ?_
  refine bA (fun j2 s2 g2=>⟨36,upd (upd (upd (upd (fun _=>.any) 27 (ae (j2 : Int))) 26 (ae (slices.length : Int))) 25 (.list 51 (slices.map (ak 53 ab)))) 6 (.own 24 g2 (s2.map ab).length),fun _=>none,upd (fun _=>none) 24 (some ⟨g2,53,(s2.map ab),true⟩)⟩) g24 H2 (Gh.le (aa (aa (aa (aa al)))) ai (aA ah)) (fun j2 s2 g2 hj2 hr2=>?_)
  refine aw 1 tk rfl (ac ?_)
  refine aX rfl (fun h=>?_) (fun h=>?_)
  ·have hl2 := cn h
   obtain ⟨x2,fb2,hx2,H,hg2⟩ := rMc hl2 hr2
   refine av (ac (az (ac (af ?_))))
   refine bs tk (zn j2) (bO (fun _=>rfl) hx2) ?_
   refine am 2 tk rfl (ag (af (am 2 tk rfl ?_)))
   obtain ⟨x33,h33,H⟩ := ax H
   have k33 := dp h33
   refine dk (rows2' := List.map ab x2) (rows' := List.map ab x33) tk rfl rfl rfl rfl rfl rfl rfl rfl rfl rfl rfl rfl rfl (gc.refl _) (eL k33.1) (eG k33.2.1) (eK k33.2.2) fun g33=>?_
   refine aq tk rfl (ag (aR (bi 2 tk rfl ?_)))
   obtain rfl := ao H
   refine aL x33 g33 ⟨hl2,hg2⟩ (Gh.le (aa (aa (aa (aH (PLe.q (aU (by omega))) al)))) ai (aA ah))
  have hn2 := rMd (co h) hr2
  refine aQ rfl ?_
  refine aO s2 g2 hn2 (Gh.le (aa al) ai (aA ah))
 have H := bo hn2 Hp2
 refine aw 2 tk rfl ?_
 obtain rfl := ao H
 refine kh tk rfl
def iQ (y : Rq) (c0 : Rq) : Option (Bool) :=
 aj (cR c0 y) fun x6 =>
 some x6
theorem W_query_less_1 (y : Rq) (c0 : Rq) (r : Bool) (H : iQ y c0 = some r) :
  aV Tryz.prog 169 [(.list 53 (y.map ab)),(.ptr [(.list 53 (c0.map ab))])] (aE r) := by
 unfold iQ at H
 refine PH.aC Tryz.func169 Tryz.ntmps169 ?_
 refine aw 1 tk rfl (ac (af (am 2 tk rfl ?_)))
 obtain ⟨x6,h6,H⟩ := ax H
 have s6 := gz c0 y _ h6
 refine au Tryz.call24 (iX.r) s6 ?_
 refine aq tk rfl (ag ?_)
 obtain rfl := ao H
 refine aB tk rfl (ps := [(aE x6)]) ⟨_,_,rfl,rfl,rfl⟩ (PLe.q rfl)
def dC (sA : Rz) (del : Rq → Option (Bool)) : Option Rz :=
 aj (bY sA del) fun x10 =>
 aj (cB (x10.2.length = sA.length) ()) fun (_ : Unit) =>
 cond (x10.1 == (-1))
  (some x10.2)
  (aj (whileM (σ := Rz × Int × Int) (ρ := Empty) (fun (s1 : Rz × Int × Int) =>
   cond (decide (s1.2.2 < (s1.1.length : Int)))
    (aj (aF s1.1 s1.2.2) fun (x24 : Rq) =>
    aj (del x24) fun x28 =>
    cond (!x28)
     (aj (aF s1.1 s1.2.1) fun (_ : Rq) =>
     bn (s1.1.set s1.2.1.toNat x24) fun (y4 : Rz) =>
     some (.next (y4,(IntKind.i64.wrap (s1.2.1 + (1 : Int))),(IntKind.i64.wrap (s1.2.2 + (1 : Int))))))
     (some (.next (s1.1,s1.2.1,(IntKind.i64.wrap (s1.2.2 + (1 : Int)))))))
    (some (.brk (s1.1,s1.2.1,s1.2.2)))) (x10.2,x10.1,(IntKind.i64.wrap (x10.1 + (1 : Int))))) fun fl1=>fl1.thenP fun (s1 : Rz × Int × Int) =>
  aj (cutI s1.1 s1.2.1) fun (y5 : Rz) =>
  aj (cutI y5 s1.2.1) fun (y6 : Rz) =>
  some y6)
theorem kE (g_sA : OwnRef) {g_del : FuncId} {caps_del : List PV} (sA : Rz) (del : Rq → Option (Bool)) (hg_del : ∀ (vs : Array Value) (w : World),(callFunc g_del vs).run Tryz.prog w = .ok (.enter g_del vs) w) (hp_del : ∀ a0 r,del a0 = some r → aV Tryz.prog g_del ((.list 53 (a0.map ab)) :: caps_del) (aE r)) (r : Rz) (H : dC sA del = some r) :
  PH Tryz.prog 135 [(.own 0 g_sA (sA.map (ak 53 ab)).length),(.fn g_del caps_del)] ⟨fun _=>none,upd (fun _=>none) 0 (some ⟨g_sA,51,(sA.map (ak 53 ab)),true⟩)⟩ (fun u H=>u = .own 0 g_sA (r.map (ak 53 ab)).length ∧ H = ⟨fun _=>none,upd (fun _=>none) 0 (some ⟨g_sA,51,(r.map (ak 53 ab)),true⟩)⟩) := by
 unfold dC at H
 refine PH.aC Tryz.func135 Tryz.ntmps135 ?_
 refine aw 1 tk rfl (ac (af (am 2 tk rfl ?_)))
 obtain ⟨x10,h10,H⟩ := ax H
 have s10 := fH g_sA sA del hg_del hp_del _ h10
 obtain ⟨_,q10_0,H⟩ := ax H
 have l10_0 := (bB q10_0).1
 have z10_0 : (List.map (ak 53 ab) sA).length = (List.map (ak 53 ab) x10.2).length := by simpa using (l10_0).symm
 refine bZ (g := 22) rfl rfl rfl Tryz.call22 [] [(0,0)] rfl rfl rfl rfl (iX.of2 (ir.cons (mV.own rfl) (ir.cons (mV.of_eq rfl) ir.nil))) (by rw [bQ,bH,bP]; rfl) s10 ?_
 rintro u10 H10h ⟨rfl,rfl⟩
 refine ⟨_,rfl,?_⟩
 refine cy (st' := ⟨_,_,fun _=>none,upd (fun _=>none) 0 (some ⟨g_sA,51,(x10.2.map (ak 53 ab)),true⟩)⟩) (Gh.le (bM _ _) ai (aA ah)) ?_
 refine aq tk rfl (ag (ac (aw 2 tk rfl ?_)))
 refine aP rfl H (fun H=>?_) (fun H=>?_)
 ·refine aw 2 tk rfl ?_
  obtain rfl := ao H
  refine dG (st' := ⟨42,upd (fun _=>.any) 4 (.own 0 g_sA (sA.map (ak 53 ab)).length),fun _=>none,upd (fun _=>none) 0 (some ⟨g_sA,51,(x10.2.map (ak 53 ab)),true⟩)⟩) (Gh.le (aa al) ai (aA ah)) ?_
  refine eP tk rfl (ps := [(.own 0 g_sA (sA.map (ak 53 ab)).length)]) ⟨_,_,rfl,rfl,rfl⟩ (PLe.of2 (mV.own z10_0)) ⟨rfl,rfl⟩
 refine av (ac (aw 3 tk rfl ?_))
 obtain ⟨fl1,H1,Hp1⟩ := ax H
 refine aZ (τ := Rz × Int × Int) (γ := Unit) (fun s1 g1=>⟨42,upd (upd (fun _=>.any) 5 (ae s1.2.1)) 0 (.own 0 g_sA (s1.1.map (ak 53 ab)).length),fun _=>none,upd (fun _=>none) 0 (some ⟨g_sA,51,(s1.1.map (ak 53 ab)),true⟩)⟩) (fun t=>fl1 = .next t) ?_ (fun s1 g1 hn1=>?_)
 ·refine az ?_
  refine cM (fun s1 g1=>⟨42,upd (upd (upd (upd (fun _=>.any) 6 (ae s1.2.2)) 5 (ae s1.2.1)) 1 (.fn g_del caps_del)) 0 (.own 0 g_sA (s1.1.map (ak 53 ab)).length),fun _=>none,upd (fun _=>none) 0 (some ⟨g_sA,51,(s1.1.map (ak 53 ab)),true⟩)⟩) () H1 (Gh.le (aH (PLe.of2 (mV.of_eq (congrArg (PV.own 0 g_sA) z10_0))) (aa (aa (aa al)))) ai (aA ah)) (fun m1 s1 g1 hr1=>?_)
  obtain ⟨fb1,H,hg1⟩ := cq hr1
  refine ac (ac (af (am 2 tk rfl (jG tk (zl _) ?_))))
  refine aq tk rfl (ag ?_)
  refine aP rfl H (fun H=>?_) (fun H=>?_)
  ·refine av (ac (az (ac (af (am 2 tk rfl ?_)))))
   obtain ⟨x24,k24,H⟩ := aY H
   refine mj (tag := 0) rfl (fun ho0=>?_)
   refine ml tk rfl rfl rfl rfl rfl rfl rfl ⟨k24.1,(bh k24.2)⟩ (bl ho0 k24.2) rfl ?_
   refine rB tk rfl rfl rfl rfl rfl rfl rfl (aI (fun _=>rfl) k24.2) rfl rfl ?_
   refine aq tk rfl (ag (ac (af (am 2 tk rfl ?_))))
   obtain ⟨x28,h28,H⟩ := ax H
   refine au hg_del (iX.r) (hp_del _ _ h28) ?_
   refine aq tk rfl (ag ?_)
   refine aP rfl H (fun H=>?_) (fun H=>?_)
   ·refine ac (af (am 3 tk rfl ?_))
    obtain ⟨x33,k33,H⟩ := aY H
    refine mj (tag := 0) rfl (fun ho0=>?_)
    refine ml tk rfl rfl rfl rfl rfl rfl rfl ⟨k33.1,(bh k33.2)⟩ (bl ho0 k33.2) rfl ?_
    obtain ⟨y4,hy4,H⟩ := bJ H
    refine oB tk rfl rfl rfl rfl rfl rfl rfl rfl (by rw [zl]; exact (zg.1 k33.2).1) (PLe.refl _ _) rfl rfl rfl rfl (by decide) (bK (fun _=>rfl) k33.2 rfl hy4) ?_
    refine ag (bi 3 tk rfl (aR (bi 3 tk rfl ?_)))
    obtain rfl := ao H
    refine aL (y4,(IntKind.i64.wrap (s1.2.1 + (1 : Int))),(IntKind.i64.wrap (s1.2.2 + (1 : Int)))) () hg1 (Gh.le (aH (PLe.of2 (mV.of_eq (congrArg (PV.own 0 g_sA) (bq (f := (ak 53 ab)) hy4)))) (aa (aa (aa al)))) ai (aA ah))
   refine av (aR (bi 3 tk rfl ?_))
   obtain rfl := ao H
   refine aL (s1.1,s1.2.1,(IntKind.i64.wrap (s1.2.2 + (1 : Int)))) () hg1 (Gh.le (aa (aa (aa (aa al)))) ai (aA ah))
  refine aQ rfl ?_
  obtain rfl := ao H
  refine aO (s1.1,s1.2.1,s1.2.2) () hg1 (Gh.le (aa (aa al)) ai (aA ah))
 have H := bo hn1 Hp1
 refine ac (af (am 2 tk rfl ?_))
 obtain ⟨y5,hy5,H⟩ := ax H
 have ky5 := cutI_some hy5
 refine Ao.ownC (tag := 0) rfl (fun hcy5=>?_)
 have hny5 : (s1.1.map (ak 53 ab)).length = (List.map (ak 53 ab) s1.1).length := rfl
 have hmy5 := ky5.2.1
 rw [← zl (f := (ak 53 ab)),← hny5] at hmy5
 rw [← hny5] at hcy5
 refine rR (l := s1.2.1.toNat) (h := (s1.1.map (ak 53 ab)).length) (m := g_sA.cap) tk rfl rfl rfl rfl rfl rfl ⟨_,_,rfl,(Int.toNat_of_nonneg ky5.1).symm⟩ rfl rfl (by decide) hmy5 hcy5 (Nat.le_refl _) rfl (cy (Gh.cutO (tag := 0) (rows' := List.map (ak 53 ab) y5) rfl s1.2.1.toNat (by rw [← List.map_take,ky5.2.2])) ?_)
 refine rV (tag := 0) (rows := List.map (ak 53 ab) y5) tk rfl rfl rfl rfl rfl rfl rfl rfl rfl (p := s1.2.1.toNat) (q := (s1.1.map (ak 53 ab)).length) (m := g_sA.cap) (by rw [zl,ky5.2.2,List.length_take]; exact Nat.min_le_left _ _) hmy5 hcy5 (Nat.le_refl _) rfl ?_
 refine ag (ac (af (am 2 tk rfl ?_)))
 obtain ⟨y6,hy6,H⟩ := ax H
 have ky6 := cutI_some hy6
 refine Ao.cutP (rows' := List.map (ak 53 ab) y6) tk rfl rfl rfl rfl rfl rfl rfl rfl ⟨ky6.1,by rw [zl]; exact ky6.2.1⟩ (by rw [← List.map_take,ky6.2.2]) rfl rfl ?_
 refine aq tk rfl (ag ?_)
 obtain rfl := ao H
 refine dG (st' := ⟨42,upd (fun _=>.any) 4 (.own 0 g_sA (y6.map (ak 53 ab)).length),fun _=>none,upd (fun _=>none) 0 (some ⟨g_sA,51,(y6.map (ak 53 ab)),true⟩)⟩) (Gh.le (aa al) ai (aA ah)) ?_
 refine eP tk rfl (ps := [(.own 0 g_sA (y6.map (ak 53 ab)).length)]) ⟨_,_,rfl,rfl,rfl⟩ (PLe.of2 (mV.own rfl)) ⟨rfl,rfl⟩
def go (y : Rq) (c0 : Rq) : Option (Bool) :=
 aj (cR c0 y) fun x6 =>
 some x6
theorem qk (y : Rq) (c0 : Rq) (r : Bool) (H : go y c0 = some r) :
  aV Tryz.prog 172 [(.list 53 (y.map ab)),(.ptr [(.list 53 (c0.map ab))])] (aE r) := by
 unfold go at H
 refine PH.aC Tryz.func172 Tryz.ntmps172 ?_
 refine aw 1 tk rfl (ac (af (am 2 tk rfl ?_)))
 obtain ⟨x6,h6,H⟩ := ax H
 have s6 := gz c0 y _ h6
 refine au Tryz.call24 (iX.r) s6 ?_
 refine aq tk rfl (ag ?_)
 obtain rfl := ao H
 refine aB tk rfl (ps := [(aE x6)]) ⟨_,_,rfl,rfl,rfl⟩ (PLe.q rfl)
def fN (op : List UInt8) (l : Rq) : Option (LVal) :=
 cond (op == ([99,111,117,110,116] : List UInt8))
  (bn (fU (l.length : Int)) fun x13 =>
  some x13)
  (cond ((l.length : Int) == (0 : Int))
   (some (LVal.mk 0 0 []))
   (aj (aF l 0) fun (x19 : LVal) =>
   aj (ba (σ := Int × LVal) (ρ := Empty) (fun (_ : Nat) (x1 : LVal) (s1 : Int × LVal) =>
    cond (op == ([109,105,110] : List UInt8))
     (bn (ii x1 s1.2) fun x36 =>
     cond x36
      (some (.next ((IntKind.i64.wrap (s1.1 + x1.int)),x1)))
      (cond (op == ([109,97,120] : List UInt8))
       (bn (ii s1.2 x1) fun x44 =>
       cond x44
        (some (.next ((IntKind.i64.wrap (s1.1 + x1.int)),x1)))
        (some (.next ((IntKind.i64.wrap (s1.1 + x1.int)),s1.2))))
       (some (.next ((IntKind.i64.wrap (s1.1 + x1.int)),s1.2)))))
     (cond (op == ([109,97,120] : List UInt8))
      (bn (ii s1.2 x1) fun x44 =>
      cond x44
       (some (.next ((IntKind.i64.wrap (s1.1 + x1.int)),x1)))
       (some (.next ((IntKind.i64.wrap (s1.1 + x1.int)),s1.2))))
      (some (.next ((IntKind.i64.wrap (s1.1 + x1.int)),s1.2))))) 0 l (0,x19)) fun fl1=>fl1.thenP fun (s1 : Int × LVal) =>
   cond (op == ([115,117,109] : List UInt8))
    (bn (fU s1.1) fun x52 =>
    some x52)
    (some s1.2)))
theorem nP (op : List UInt8) (l : Rq) (r : LVal) (H : fN op l = some r) :
  aV Tryz.prog 193 [(.str op),(.list 53 (l.map ab))] (.agg (ab r)) := by
 unfold fN at H
 refine PH.aC Tryz.func193 Tryz.ntmps193 ?_
 refine ac (af ?_)
 refine bt tk fun b4=>?_
 refine ag (ac (aw 2 tk rfl ?_))
 refine aP rfl H (fun H=>?_) (fun H=>?_)
 ·refine ac (af (aq tk rfl (aM tk (zl _) ?_)))
  obtain ⟨x13,h13,H⟩ := bJ H
  have s13 := pw (l.length : Int)
  rw [h13] at s13
  refine au Tryz.call192 (iX.r) s13 ?_
  refine aD tk ?_
  refine ag ?_
  obtain rfl := ao H
  refine aB tk rfl (ps := [(.agg [(ae x13.kind),(ae x13.int),(.str x13.text)])]) ⟨_,_,rfl,⟨_,_,_,_,_,rfl,rfl,rfl,rfl⟩,rfl⟩ (PLe.q rfl)
 refine av (ac (ac (af (aq tk rfl (aM tk (zl _) ?_)))))
 refine aq tk rfl (ag ?_)
 refine aP rfl H (fun H=>?_) (fun H=>?_)
 ·refine ac (af (aq tk rfl (aD tk ?_)))
  refine ag ?_
  obtain rfl := ao H
  refine aB tk rfl (ps := [(.agg [(ae 0),(ae 0),(.str [])])]) ⟨_,_,rfl,⟨_,_,_,_,_,rfl,rfl,rfl,rfl⟩,rfl⟩ (PLe.q rfl)
 refine av (ac (af (aq tk rfl ?_)))
 obtain ⟨x19,k19,H⟩ := aY H
 refine bs tk k19.1 (aI (fun _=>rfl) k19.2) ?_
 refine aq tk rfl ?_
 refine bt tk fun b5=>?_
 refine aD tk ?_
 refine ag (aw 1 tk rfl (ac (ac (af (aq tk rfl (aM tk (zl _) ?_))))))
 refine aq tk rfl (ag ?_)
 obtain ⟨fl1,H1,Hp1⟩ := ax H
 refine bS tk 21 rfl rfl (fun hz1 _=>?_)
 rw [zl] at hz1
 refine aZ (τ := Int × LVal) (γ := Unit) (fun s1 g1=>⟨54,upd (upd (upd (upd (fun _=>.any) 6 (ae s1.1)) 5 (.box 5 b5 0)) 4 (.box 4 b4 0)) 0 (.str op),upd (upd (fun _=>none) 5 (some ⟨b5,[(ae s1.2.kind),(ae s1.2.int),(.str s1.2.text)]⟩)) 4 (some ⟨b4,[(ae 0),(ae 0),(.str [])]⟩),fun _=>none⟩) (fun t=>fl1 = .next t) ?_ (fun s1 g1 hn1=>?_)
 ·refine az ?_
  refine bA (fun j1 s1 g1=>⟨54,upd (upd (upd (upd (upd (upd (upd (fun _=>.any) 23 (ae (j1 : Int))) 22 (ae (l.length : Int))) 21 (.list 53 (l.map ab))) 6 (ae s1.1)) 5 (.box 5 b5 0)) 4 (.box 4 b4 0)) 0 (.str op),upd (upd (fun _=>none) 5 (some ⟨b5,[(ae s1.2.kind),(ae s1.2.int),(.str s1.2.text)]⟩)) 4 (some ⟨b4,[(ae 0),(ae 0),(.str [])]⟩),fun _=>none⟩) () H1 (Gh.le (aa (aa (aa (aa (aa (aa (aa al))))))) (ay rfl (iX.r) (ay rfl (iX.r) ai)) ah) (fun j1 s1 g1 hj1 hr1=>?_)
  refine aw 1 tk rfl (ac ?_)
  refine aX rfl (fun h=>?_) (fun h=>?_)
  ·have hl1 := cn h
   obtain ⟨x1,fb1,hx1,H,hg1⟩ := rMc hl1 hr1
   refine av (ac (az (ac (af ?_))))
   refine bs tk (zn j1) (bO (fun _=>rfl) hx1) ?_
   refine aq tk rfl ?_
   refine bt tk fun b8=>?_
   refine aD tk ?_
   refine ag (ac (af (am 2 tk rfl (aN tk ?_))))
   refine am 2 tk rfl (ag (ac (af (am 3 tk rfl ?_))))
   refine bF rfl rfl rfl H (fun H=>?_) (fun H=>?_)
   ·refine aN tk ?_
    refine aN tk ?_
    obtain ⟨x36,h36,H⟩ := bJ H
    have s36 := lT x1 s1.2
    rw [h36] at s36
    refine au Tryz.call45 (iX.r) s36 ?_
    refine am 2 tk rfl ?_
    refine bF rfl rfl rfl H (fun H=>?_) (fun H=>?_)
    ·refine am 8 tk rfl (ag (ct rfl (af (aN tk ?_))))
     refine aD tk ?_
     refine ag (aR (bi 2 tk rfl ?_))
     obtain rfl := ao H
     refine aL ((IntKind.i64.wrap (s1.1 + x1.int)),x1) () ⟨hl1,hg1⟩ (Gh.le (aa (aa (aa (aa (aa (aa (aH (PLe.q (aU (by omega))) al))))))) (ay rfl (iX.r) (ay rfl (iX.r) ai)) ah)
    refine am 3 tk rfl ?_
    refine bF rfl rfl rfl H (fun H=>?_) (fun H=>?_)
    ·refine aN tk ?_
     refine aN tk ?_
     obtain ⟨x44,h44,H⟩ := bJ H
     have s44 := lT s1.2 x1
     rw [h44] at s44
     refine au Tryz.call45 (iX.r) s44 ?_
     refine am 2 tk rfl (ag ?_)
     refine aP rfl H (fun H=>?_) (fun H=>?_)
     ·refine af (aN tk ?_)
      refine aD tk ?_
      refine ag (aR (bi 2 tk rfl ?_))
      obtain rfl := ao H
      refine aL ((IntKind.i64.wrap (s1.1 + x1.int)),x1) () ⟨hl1,hg1⟩ (Gh.le (aa (aa (aa (aa (aa (aa (aH (PLe.q (aU (by omega))) al))))))) (ay rfl (iX.r) (ay rfl (iX.r) ai)) ah)
     refine av (aR (bi 2 tk rfl ?_))
     obtain rfl := ao H
     refine aL ((IntKind.i64.wrap (s1.1 + x1.int)),s1.2) () ⟨hl1,hg1⟩ (Gh.le (aa (aa (aa (aa (aa (aa (aH (PLe.q (aU (by omega))) al))))))) (ay rfl (iX.r) (ay rfl (iX.r) ai)) ah)
    refine am 5 tk rfl (ag (bD rfl (av (aR (bi 2 tk rfl ?_)))))
    obtain rfl := ao H
    refine aL ((IntKind.i64.wrap (s1.1 + x1.int)),s1.2) () ⟨hl1,hg1⟩ (Gh.le (aa (aa (aa (aa (aa (aa (aH (PLe.q (aU (by omega))) al))))))) (ay rfl (iX.r) (ay rfl (iX.r) ai)) ah)
   refine am 8 tk rfl ?_
   refine bF rfl rfl rfl H (fun H=>?_) (fun H=>?_)
   ·refine aN tk ?_
    refine aN tk ?_
    obtain ⟨x44,h44,H⟩ := bJ H
    have s44 := lT s1.2 x1
    rw [h44] at s44
    refine au Tryz.call45 (iX.r) s44 ?_
    refine am 2 tk rfl (ag ?_)
    refine aP rfl H (fun H=>?_) (fun H=>?_)
    ·refine af (aN tk ?_)
     refine aD tk ?_
     refine ag (aR (bi 2 tk rfl ?_))
     obtain rfl := ao H
     refine aL ((IntKind.i64.wrap (s1.1 + x1.int)),x1) () ⟨hl1,hg1⟩ (Gh.le (aa (aa (aa (aa (aa (aa (aH (PLe.q (aU (by omega))) al))))))) (ay rfl (iX.r) (ay rfl (iX.r) ai)) ah)
    refine av (aR (bi 2 tk rfl ?_))
    obtain rfl := ao H
    refine aL ((IntKind.i64.wrap (s1.1 + x1.int)),s1.2) () ⟨hl1,hg1⟩ (Gh.le (aa (aa (aa (aa (aa (aa (aH (PLe.q (aU (by omega))) al))))))) (ay rfl (iX.r) (ay rfl (iX.r) ai)) ah)
   refine am 5 tk rfl (ag (bD rfl (av (aR (bi 2 tk rfl ?_)))))
   obtain rfl := ao H
   refine aL ((IntKind.i64.wrap (s1.1 + x1.int)),s1.2) () ⟨hl1,hg1⟩ (Gh.le (aa (aa (aa (aa (aa (aa (aH (PLe.q (aU (by omega))) al))))))) (ay rfl (iX.r) (ay rfl (iX.r) ai)) ah)
  have hn1 := rMd (co h) hr1
  refine aQ rfl ?_
  refine aO s1 g1 hn1 (Gh.le (aa (aa (aa (aa al)))) (ay rfl (iX.r) (ay rfl (iX.r) ai)) ah)
 have H := bo hn1 Hp1
 refine ac (aw 2 tk rfl ?_)
 refine aP rfl H (fun H=>?_) (fun H=>?_)
 ·refine ac (af (aq tk rfl ?_))
  obtain ⟨x52,h52,H⟩ := bJ H
  have s52 := pw s1.1
  rw [h52] at s52
  refine au Tryz.call192 (iX.r) s52 ?_
  refine aD tk ?_
  refine ag ?_
  obtain rfl := ao H
  refine aB tk rfl (ps := [(.agg [(ae x52.kind),(ae x52.int),(.str x52.text)])]) ⟨_,_,rfl,⟨_,_,_,_,_,rfl,rfl,rfl,rfl⟩,rfl⟩ (PLe.q rfl)
 refine av (ac (af (aN tk ?_)))
 refine aD tk ?_
 refine ag ?_
 obtain rfl := ao H
 refine aB tk rfl (ps := [(.agg [(ae s1.2.kind),(ae s1.2.int),(.str s1.2.text)])]) ⟨_,_,rfl,⟨_,_,_,_,_,rfl,rfl,rfl,rfl⟩,rfl⟩ (PLe.q rfl)
def dI (data : Rz) (a : Int) (m : Int) (b : Int) (cmp : Rq → Rq → Option (Int)) : Option (Rz) :=
 aj (whileM (σ := Rz × Int × Int) (ρ := Empty) (fun (s1 : Rz × Int × Int) =>
  cond (s1.2.1 != s1.2.2)
   (cond (decide (s1.2.1 > s1.2.2))
    (aj (cN s1.1 (IntKind.i64.wrap (m - s1.2.1)) m s1.2.2 cmp) fun x31 =>
    aj (cB (x31.length = s1.1.length) ()) fun (_ : Unit) =>
    some (.next (x31,(IntKind.i64.wrap (s1.2.1 - s1.2.2)),s1.2.2)))
    (aj (cN s1.1 (IntKind.i64.wrap (m - s1.2.1)) (IntKind.i64.wrap ((IntKind.i64.wrap (m + s1.2.2)) - s1.2.1)) s1.2.1 cmp) fun x46 =>
    aj (cB (x46.length = s1.1.length) ()) fun (_ : Unit) =>
    some (.next (x46,s1.2.1,(IntKind.i64.wrap (s1.2.2 - s1.2.1))))))
   (some (.brk (s1.1,s1.2.1,s1.2.2)))) (data,(IntKind.i64.wrap (m - a)),(IntKind.i64.wrap (b - m)))) fun fl1=>fl1.thenP fun (s1 : Rz × Int × Int) =>
 aj (cN s1.1 (IntKind.i64.wrap (m - s1.2.1)) m s1.2.1 cmp) fun x57 =>
 aj (cB (x57.length = s1.1.length) ()) fun (_ : Unit) =>
 some x57
theorem lW (g_data : OwnRef) {g_cmp : FuncId} {caps_cmp : List PV} (data : Rz) (a : Int) (m : Int) (b : Int) (cmp : Rq → Rq → Option (Int)) (hg_cmp : ∀ (vs : Array Value) (w : World),(callFunc g_cmp vs).run Tryz.prog w = .ok (.enter g_cmp vs) w) (hp_cmp : ∀ a0 a1 r,cmp a0 a1 = some r → aV Tryz.prog g_cmp ((.list 53 (a0.map ab)) :: (.list 53 (a1.map ab)) :: caps_cmp) (ae r)) (r : Rz) (H : dI data a m b cmp = some r) :
  PH Tryz.prog 211 [(.own 0 g_data (data.map (ak 53 ab)).length),(ae a),(ae m),(ae b),(.fn g_cmp caps_cmp)] ⟨fun _=>none,upd (fun _=>none) 0 (some ⟨g_data,51,(data.map (ak 53 ab)),true⟩)⟩ (fun u H=>u = (.tup []) ∧ H = ⟨fun _=>none,upd (fun _=>none) 0 (some ⟨g_data,51,(r.map (ak 53 ab)),true⟩)⟩) := by
 unfold dI at H
 refine PH.aC Tryz.func211 Tryz.ntmps211 ?_
 refine aw 4 tk rfl (aw 4 tk rfl (ac ?_))
 obtain ⟨fl1,H1,Hp1⟩ := ax H
 refine aZ (τ := Rz × Int × Int) (γ := Unit) (fun s1 g1=>⟨58,upd (upd (upd (upd (fun _=>.any) 10 (ae s1.2.1)) 4 (.fn g_cmp caps_cmp)) 2 (ae m)) 0 (.own 0 g_data (s1.1.map (ak 53 ab)).length),fun _=>none,upd (fun _=>none) 0 (some ⟨g_data,51,(s1.1.map (ak 53 ab)),true⟩)⟩) (fun t=>fl1 = .next t) ?_ (fun s1 g1 hn1=>?_)
 ·refine az ?_
  refine cM (fun s1 g1=>⟨58,upd (upd (upd (upd (upd (fun _=>.any) 11 (ae s1.2.2)) 10 (ae s1.2.1)) 4 (.fn g_cmp caps_cmp)) 2 (ae m)) 0 (.own 0 g_data (s1.1.map (ak 53 ab)).length),fun _=>none,upd (fun _=>none) 0 (some ⟨g_data,51,(s1.1.map (ak 53 ab)),true⟩)⟩) () H1 (Gh.le (aa (aa (aa (aa (aa al))))) ai (aA ah)) (fun m1 s1 g1 hr1=>?_)
  obtain ⟨fb1,H,hg1⟩ := cq hr1
  refine ac (aw 3 tk rfl ?_)
  refine aP rfl H (fun H=>?_) (fun H=>?_)
  ·refine av (az (aw 3 tk rfl ?_))
   refine aP rfl H (fun H=>?_) (fun H=>?_)
   ·refine ac (af (am 7 tk rfl ?_))
    obtain ⟨x31,h31,H⟩ := ax H
    have s31 := gr g_data s1.1 (IntKind.i64.wrap (m - s1.2.1)) m s1.2.2 cmp hg_cmp hp_cmp _ h31
    obtain ⟨_,q31_0,H⟩ := ax H
    have l31_0 := (bB q31_0).1
    have z31_0 : (List.map (ak 53 ab) s1.1).length = (List.map (ak 53 ab) x31).length := by simpa using (l31_0).symm
    refine bZ (g := 213) rfl rfl rfl Tryz.call213 [] [(0,0)] rfl rfl rfl rfl (iX.of2 (ir.cons (mV.own rfl) (ir.cons (mV.of_eq rfl) (ir.cons (mV.of_eq rfl) (ir.cons (mV.of_eq rfl) (ir.cons (mV.of_eq rfl) ir.nil)))))) (by rw [bQ,bH,bP]; rfl) s31 ?_
    rintro u31 H31h ⟨rfl,rfl⟩
    refine ⟨_,rfl,?_⟩
    refine cy (st' := ⟨_,_,fun _=>none,upd (fun _=>none) 0 (some ⟨g_data,51,(x31.map (ak 53 ab)),true⟩)⟩) (Gh.le (bM _ _) ai (aA ah)) ?_
    refine ag (bi 4 tk rfl (aR ?_))
    obtain rfl := ao H
    refine aL (x31,(IntKind.i64.wrap (s1.2.1 - s1.2.2)),s1.2.2) () hg1 (Gh.le (aH (PLe.of2 (mV.of_eq (congrArg (PV.own 0 g_data) z31_0))) (aa (aa (aa (aa al))))) ai (aA ah))
   refine ac (af (am 11 tk rfl ?_))
   obtain ⟨x46,h46,H⟩ := ax H
   have s46 := gr g_data s1.1 (IntKind.i64.wrap (m - s1.2.1)) (IntKind.i64.wrap ((IntKind.i64.wrap (m + s1.2.2)) - s1.2.1)) s1.2.1 cmp hg_cmp hp_cmp _ h46
   obtain ⟨_,q46_0,H⟩ := ax H
   have l46_0 := (bB q46_0).1
   have z46_0 : (List.map (ak 53 ab) s1.1).length = (List.map (ak 53 ab) x46).length := by simpa using (l46_0).symm
   refine bZ (g := 213) rfl rfl rfl Tryz.call213 [] [(0,0)] rfl rfl rfl rfl (iX.of2 (ir.cons (mV.own rfl) (ir.cons (mV.of_eq rfl) (ir.cons (mV.of_eq rfl) (ir.cons (mV.of_eq rfl) (ir.cons (mV.of_eq rfl) ir.nil)))))) (by rw [bQ,bH,bP]; rfl) s46 ?_
   rintro u46 H46h ⟨rfl,rfl⟩
   refine ⟨_,rfl,?_⟩
   refine cy (st' := ⟨_,_,fun _=>none,upd (fun _=>none) 0 (some ⟨g_data,51,(x46.map (ak 53 ab)),true⟩)⟩) (Gh.le (bM _ _) ai (aA ah)) ?_
   refine ag (bi 4 tk rfl (aR ?_))
   obtain rfl := ao H
   refine aL (x46,s1.2.1,(IntKind.i64.wrap (s1.2.2 - s1.2.1))) () hg1 (Gh.le (aH (PLe.of2 (mV.of_eq (congrArg (PV.own 0 g_data) z46_0))) (aa (aa (aa (aa al))))) ai (aA ah))
  refine aQ rfl ?_
  obtain rfl := ao H
  refine aO (s1.1,s1.2.1,s1.2.2) () hg1 (Gh.le (aa (aa (aa (aa al)))) ai (aA ah))
 have H := bo hn1 Hp1
 refine af (am 7 tk rfl ?_)
 obtain ⟨x57,h57,H⟩ := ax H
 have s57 := gr g_data s1.1 (IntKind.i64.wrap (m - s1.2.1)) m s1.2.1 cmp hg_cmp hp_cmp _ h57
 obtain ⟨_,q57_0,H⟩ := ax H
 have l57_0 := (bB q57_0).1
 have z57_0 : (List.map (ak 53 ab) s1.1).length = (List.map (ak 53 ab) x57).length := by simpa using (l57_0).symm
 refine bZ (g := 213) rfl rfl rfl Tryz.call213 [] [(0,0)] rfl rfl rfl rfl (iX.of2 (ir.cons (mV.own rfl) (ir.cons (mV.of_eq rfl) (ir.cons (mV.of_eq rfl) (ir.cons (mV.of_eq rfl) (ir.cons (mV.of_eq rfl) ir.nil)))))) (by rw [bQ,bH,bP]; rfl) s57 ?_
 rintro u57 H57h ⟨rfl,rfl⟩
 refine ⟨_,rfl,?_⟩
 refine cy (st' := ⟨_,_,fun _=>none,upd (fun _=>none) 0 (some ⟨g_data,51,(x57.map (ak 53 ab)),true⟩)⟩) (Gh.le (bM _ _) ai (aA ah)) ?_
 refine ag ?_
 obtain rfl := ao H
 refine dG (st' := ⟨58,fun _=>.any,fun _=>none,upd (fun _=>none) 0 (some ⟨g_data,51,(x57.map (ak 53 ab)),true⟩)⟩) (Gh.le al ai (aA ah)) ?_
 refine iG rfl (PLe.q rfl) ⟨rfl,rfl⟩
def gq (t : LTable) (name : List UInt8) : Option (Int × Bool) :=
 aj (cY t.columns (fun a0=>some (dZ a0 name))) fun x10 =>
 some ((if (0 : Int) > x10 then (0 : Int) else x10),(decide (x10 ≥ (0 : Int))))
theorem ql (t : LTable) (name : List UInt8) (r : Int × Bool) (H : gq t name = some r) :
  aV Tryz.prog 144 [(.agg (bu t)),(.str name)] (.tup [(ae r.1),(aE r.2)]) := by
 unfold gq at H
 refine PH.aC Tryz.func144 Tryz.ntmps144 ?_
 refine ac (af (aT ?_))
 refine aT ?_
 refine am 2 tk rfl (ag (ac (af (am 3 tk rfl ?_))))
 obtain ⟨x10,h10,H⟩ := ax H
 have s10 := gK t.columns (fun a0=>some (dZ a0 name)) Tryz.call176 (fun a0 r h=>(ao h) ▸ pn a0 name) _ h10
 refine au Tryz.call43 (iX.r) s10 ?_
 refine aq tk rfl (ag (aw 6 tk rfl ?_))
 obtain rfl := ao H
 refine aB tk rfl (ps := [(ae (if (0 : Int) > x10 then (0 : Int) else x10)),(aE (decide (x10 ≥ (0 : Int))))]) ⟨_,_,rfl,rfl,_,_,rfl,rfl,rfl⟩ (PLe.q rfl)
def fS (sA : LSchema) (name : List UInt8) : Option (Int × Bool) :=
 aj (dg sA.tables (fun a0=>some (dz a0 name))) fun x10 =>
 some ((if (0 : Int) > x10 then (0 : Int) else x10),(decide (x10 ≥ (0 : Int))))
theorem kC (sA : LSchema) (name : List UInt8) (r : Int × Bool) (H : fS sA name = some r) :
  aV Tryz.prog 145 [(.agg (eh sA)),(.str name)] (.tup [(ae r.1),(aE r.2)]) := by
 unfold fS at H
 refine PH.aC Tryz.func145 Tryz.ntmps145 ?_
 refine ac (af (aT ?_))
 refine aT ?_
 refine am 2 tk rfl (ag (ac (af (am 3 tk rfl ?_))))
 obtain ⟨x10,h10,H⟩ := ax H
 have s10 := gR sA.tables (fun a0=>some (dz a0 name)) Tryz.call177 (fun a0 r h=>(ao h) ▸ pO a0 name) _ h10
 refine au Tryz.call153 (iX.r) s10 ?_
 refine aq tk rfl (ag (aw 6 tk rfl ?_))
 obtain rfl := ao H
 refine aB tk rfl (ps := [(ae (if (0 : Int) > x10 then (0 : Int) else x10)),(aE (decide (x10 ≥ (0 : Int))))]) ⟨_,_,rfl,rfl,_,_,rfl,rfl,rfl⟩ (PLe.q rfl)
def gI (a : LForeignKey) (b : LForeignKey) : Option (Bool) :=
 cond (a.table == b.table)
  (aj (fW a.columns b.columns) fun x15 =>
  cond x15
   (some (a.refTable == b.refTable))
   (some false))
  (some false)
theorem nn (a : LForeignKey) (b : LForeignKey) (r : Bool) (H : gI a b = some r) :
  aV Tryz.prog 102 [(.agg (cz a)),(.agg (cz b))] (aE r) := by
 unfold gI at H
 refine PH.aC Tryz.func102 Tryz.ntmps102 ?_
 refine ac (af (aT ?_))
 refine aT ?_
 refine aq tk rfl (ag (ac (af (am 6 tk rfl ?_))))
 refine bF rfl rfl rfl H (fun H=>?_) (fun H=>?_)
 ·refine am 4 tk rfl ?_
  obtain ⟨x15,h15,H⟩ := ax H
  have s15 := oj a.columns b.columns _ h15
  refine au Tryz.call147 (iX.r) s15 ?_
  refine am 2 tk rfl ?_
  refine bF rfl rfl rfl H (fun H=>?_) (fun H=>?_)
  ·refine am 7 tk rfl (ag ?_)
   obtain rfl := ao H
   refine aB tk rfl (ps := [(aE (a.refTable == b.refTable))]) ⟨_,_,rfl,rfl,rfl⟩ (PLe.q rfl)
  refine am 7 tk rfl (ag ?_)
  obtain rfl := ao H
  refine aB tk rfl (ps := [(aE false)]) ⟨_,_,rfl,rfl,rfl⟩ (PLe.q rfl)
 refine am 14 tk rfl (ag ?_)
 obtain rfl := ao H
 refine aB tk rfl (ps := [(aE false)]) ⟨_,_,rfl,rfl,rfl⟩ (PLe.q rfl)
def cu (sA : List LForeignKey) (f : LForeignKey → Option (Bool)) : Option (Bool) :=
 aj (da sA f) fun x7 =>
 some (decide (x7 ≥ (0 : Int)))
theorem iy {g_f : FuncId} {caps_f : List PV} (sA : List LForeignKey) (f : LForeignKey → Option (Bool)) (hg_f : ∀ (vs : Array Value) (w : World),(callFunc g_f vs).run Tryz.prog w = .ok (.enter g_f vs) w) (hp_f : ∀ a0 r,f a0 = some r → aV Tryz.prog g_f ((.agg (cz a0)) :: caps_f) (aE r)) (r : Bool) (H : cu sA f = some r) :
  aV Tryz.prog 100 [(.list 142 (sA.map cz)),(.fn g_f caps_f)] (aE r) := by
 unfold cu at H
 refine PH.aC Tryz.func100 Tryz.ntmps100 ?_
 refine aw 1 tk rfl (ac (af (am 2 tk rfl ?_)))
 obtain ⟨x7,h7,H⟩ := ax H
 have s7 := iR sA f hg_f hp_f _ h7
 refine au Tryz.call146 (iX.r) s7 ?_
 refine am 2 tk rfl (ag ?_)
 obtain rfl := ao H
 refine aB tk rfl (ps := [(aE (decide (x7 ≥ (0 : Int))))]) ⟨_,_,rfl,rfl,rfl⟩ (PLe.q rfl)
def cD (sA : List LConstraint) (v : LConstraint) : Option (Bool) :=
 aj (dm sA v) fun x7 =>
 some (decide (x7 ≥ (0 : Int)))
theorem jd (sA : List LConstraint) (v : LConstraint) (r : Bool) (H : cD sA v = some r) :
  aV Tryz.prog 104 [(.list 148 (sA.map cG)),(.agg (cG v))] (aE r) := by
 unfold cD at H
 refine PH.aC Tryz.func104 Tryz.ntmps104 ?_
 refine ac (af (aT ?_))
 refine aq tk rfl (ag (ac (af (am 2 tk rfl ?_))))
 obtain ⟨x7,h7,H⟩ := ax H
 have s7 := jC sA v _ h7
 refine au Tryz.call149 (iX.r) s7 ?_
 refine am 2 tk rfl (ag ?_)
 obtain rfl := ao H
 refine aB tk rfl (ps := [(aE (decide (x7 ≥ (0 : Int))))]) ⟨_,_,rfl,rfl,rfl⟩ (PLe.q rfl)
def eT (x : Rq) (y : Rq) : Option (Int) :=
 aj (eB x y ([] : List Bool)) fun x7 =>
 some x7
theorem mI (x : Rq) (y : Rq) (r : Int) (H : eT x y = some r) :
  aV Tryz.prog 71 [(.list 53 (x.map ab)),(.list 53 (y.map ab))] (ae r) := by
 unfold eT at H
 refine PH.aC Tryz.func71 Tryz.ntmps71 ?_
 refine aw 1 tk rfl (ac (af (am 2 tk rfl ?_)))
 obtain ⟨x7,h7,H⟩ := ax H
 have s7 := lZ x y ([] : List Bool) _ h7
 refine au Tryz.call72 (iX.of2 (ir.cons (mV.of_eq rfl) (ir.cons (mV.of_eq rfl) (ir.cons (mV.nil tk rfl) ir.nil)))) s7 ?_
 refine aq tk rfl (ag ?_)
 obtain rfl := ao H
 refine aB tk rfl (ps := [(ae x7)]) ⟨_,_,rfl,rfl,rfl⟩ (PLe.q rfl)
def iv (x : Int) : Option (Int) :=
 aj (jK x) fun x7 =>
 some x7
theorem oq (x : Int) (r : Int) (H : iv x = some r) :
  aV Tryz.prog 93 [(.val (.int .u64 x))] (ae r) := by
 unfold iv at H
 refine PH.aC Tryz.func93 Tryz.ntmps93 ?_
 refine aw 1 tk rfl (ac (bD rfl (av (ac (af (aq tk rfl ?_))))))
 obtain ⟨x7,h7,H⟩ := ax H
 have s7 := qW x _ h7
 refine au Tryz.call123 (iX.r) s7 ?_
 refine aq tk rfl (ag ?_)
 obtain rfl := ao H
 refine aB tk rfl (ps := [(ae x7)]) ⟨_,_,rfl,rfl,rfl⟩ (PLe.q rfl)
def dV (data : Rz) (a : Int) (b : Int) (cmp : Rq → Rq → Option (Int)) : Option (Rz) :=
 aj (whileM (σ := Rz × Int) (ρ := Empty) (fun (s1 : Rz × Int) =>
  cond (decide (s1.2 ≥ (0 : Int)))
   (aj (dt s1.1 s1.2 (IntKind.i64.wrap (b - a)) a cmp) fun x29 =>
   aj (cB (x29.length = s1.1.length) ()) fun (_ : Unit) =>
   some (.next (x29,(IntKind.i64.wrap (s1.2 - (1 : Int))))))
   (some (.brk (s1.1,s1.2)))) (data,(IntKind.i64.wrap (Int.tdiv (IntKind.i64.wrap ((IntKind.i64.wrap (b - a)) - (1 : Int))) (2 : Int))))) fun fl1=>fl1.thenP fun (s1 : Rz × Int) =>
 aj (whileM (σ := Rz × Int) (ρ := Empty) (fun (s2 : Rz × Int) =>
  cond (decide (s2.2 ≥ (0 : Int)))
   (aj (aF s2.1 (IntKind.i64.wrap (a + s2.2))) fun (x46 : Rq) =>
   aj (aF s2.1 a) fun (x50 : Rq) =>
   aj (aF s2.1 a) fun (_ : Rq) =>
   bn (s2.1.set a.toNat x46) fun (y7 : Rz) =>
   aj (aF y7 (IntKind.i64.wrap (a + s2.2))) fun (_ : Rq) =>
   bn (y7.set ((IntKind.i64.wrap (a + s2.2)).toNat) x50) fun (y8 : Rz) =>
   aj (dt y8 0 s2.2 a cmp) fun x59 =>
   aj (cB (x59.length = y8.length) ()) fun (_ : Unit) =>
   some (.next (x59,(IntKind.i64.wrap (s2.2 - (1 : Int))))))
   (some (.brk (s2.1,s2.2)))) (s1.1,(IntKind.i64.wrap ((IntKind.i64.wrap (b - a)) - (1 : Int))))) fun fl2=>fl2.thenP fun (s2 : Rz × Int) =>
 some s2.1
theorem lf (g_data : OwnRef) {g_cmp : FuncId} {caps_cmp : List PV} (data : Rz) (a : Int) (b : Int) (cmp : Rq → Rq → Option (Int)) (hg_cmp : ∀ (vs : Array Value) (w : World),(callFunc g_cmp vs).run Tryz.prog w = .ok (.enter g_cmp vs) w) (hp_cmp : ∀ a0 a1 r,cmp a0 a1 = some r → aV Tryz.prog g_cmp ((.list 53 (a0.map ab)) :: (.list 53 (a1.map ab)) :: caps_cmp) (ae r)) (r : Rz) (H : dV data a b cmp = some r) :
  PH Tryz.prog 115 [(.own 0 g_data (data.map (ak 53 ab)).length),(ae a),(ae b),(.fn g_cmp caps_cmp)] ⟨fun _=>none,upd (fun _=>none) 0 (some ⟨g_data,51,(data.map (ak 53 ab)),true⟩)⟩ (fun u H=>u = (.tup []) ∧ H = ⟨fun _=>none,upd (fun _=>none) 0 (some ⟨g_data,51,(r.map (ak 53 ab)),true⟩)⟩) := by
 unfold dV at H
 refine PH.aC Tryz.func115 Tryz.ntmps115 ?_
 refine aw 2 tk rfl (aw 1 tk rfl (aw 4 tk rfl (ac (aw 4 tk rfl ?_))))
 obtain ⟨fl1,H1,Hp1⟩ := ax H
 refine aZ (τ := Rz × Int) (γ := Unit) (fun s1 g1=>⟨60,upd (upd (upd (upd (upd (fun _=>.any) 10 (ae (IntKind.i64.wrap (b - a)))) 9 (ae 0)) 8 (ae a)) 3 (.fn g_cmp caps_cmp)) 0 (.own 0 g_data (s1.1.map (ak 53 ab)).length),fun _=>none,upd (fun _=>none) 0 (some ⟨g_data,51,(s1.1.map (ak 53 ab)),true⟩)⟩) (fun t=>fl1 = .next t) ?_ (fun s1 g1 hn1=>?_)
 ·refine az ?_
  refine cM (fun s1 g1=>⟨60,upd (upd (upd (upd (upd (upd (fun _=>.any) 11 (ae s1.2)) 10 (ae (IntKind.i64.wrap (b - a)))) 9 (ae 0)) 8 (ae a)) 3 (.fn g_cmp caps_cmp)) 0 (.own 0 g_data (s1.1.map (ak 53 ab)).length),fun _=>none,upd (fun _=>none) 0 (some ⟨g_data,51,(s1.1.map (ak 53 ab)),true⟩)⟩) () H1 (Gh.le (aa (aa (aa (aa (aa (aa al)))))) ai (aA ah)) (fun m1 s1 g1 hr1=>?_)
  obtain ⟨fb1,H,hg1⟩ := cq hr1
  refine ac (aw 2 tk rfl ?_)
  refine aP rfl H (fun H=>?_) (fun H=>?_)
  ·refine av (ac (az (af (am 5 tk rfl ?_))))
   obtain ⟨x29,h29,H⟩ := ax H
   have s29 := ja g_data s1.1 s1.2 (IntKind.i64.wrap (b - a)) a cmp hg_cmp hp_cmp _ h29
   obtain ⟨_,q29_0,H⟩ := ax H
   have l29_0 := (bB q29_0).1
   have z29_0 : (List.map (ak 53 ab) s1.1).length = (List.map (ak 53 ab) x29).length := by simpa using (l29_0).symm
   refine bZ (g := 160) rfl rfl rfl Tryz.call160 [] [(0,0)] rfl rfl rfl rfl (iX.of2 (ir.cons (mV.own rfl) (ir.cons (mV.of_eq rfl) (ir.cons (mV.of_eq rfl) (ir.cons (mV.of_eq rfl) (ir.cons (mV.of_eq rfl) ir.nil)))))) (by rw [bQ,bH,bP]; rfl) s29 ?_
   rintro u29 H29h ⟨rfl,rfl⟩
   refine ⟨_,rfl,?_⟩
   refine cy (st' := ⟨_,_,fun _=>none,upd (fun _=>none) 0 (some ⟨g_data,51,(x29.map (ak 53 ab)),true⟩)⟩) (Gh.le (bM _ _) ai (aA ah)) ?_
   refine ag (aR (bi 3 tk rfl ?_))
   obtain rfl := ao H
   refine aL (x29,(IntKind.i64.wrap (s1.2 - (1 : Int)))) () hg1 (Gh.le (aH (PLe.of2 (mV.of_eq (congrArg (PV.own 0 g_data) z29_0))) (aa (aa (aa (aa (aa al)))))) ai (aA ah))
  refine aQ rfl ?_
  obtain rfl := ao H
  refine aO (s1.1,s1.2) () hg1 (Gh.le (aa (aa (aa (aa (aa al))))) ai (aA ah))
 have H := bo hn1 Hp1
 refine aw 3 tk rfl ?_
 obtain ⟨fl2,H2,Hp2⟩ := ax H
 refine aZ (τ := Rz × Int) (γ := Unit) (fun s2 g2=>⟨60,upd (fun _=>.any) 0 (.own 0 g_data (s2.1.map (ak 53 ab)).length),fun _=>none,upd (fun _=>none) 0 (some ⟨g_data,51,(s2.1.map (ak 53 ab)),true⟩)⟩) (fun t=>fl2 = .next t) ?_ (fun s2 g2 hn2=>?_)
 ·refine az ?_
  refine cM (fun s2 g2=>⟨60,upd (upd (upd (upd (upd (fun _=>.any) 12 (ae s2.2)) 9 (ae 0)) 8 (ae a)) 3 (.fn g_cmp caps_cmp)) 0 (.own 0 g_data (s2.1.map (ak 53 ab)).length),fun _=>none,upd (fun _=>none) 0 (some ⟨g_data,51,(s2.1.map (ak 53 ab)),true⟩)⟩) () H2 (Gh.le (aa (aa (aa (aa (aa al))))) ai (aA ah)) (fun m2 s2 g2 hr2=>?_)
  obtain ⟨fb2,H,hg2⟩ := cq hr2
  refine ac (aw 2 tk rfl ?_)
  refine aP rfl H (fun H=>?_) (fun H=>?_)
  ·refine av (ac (az (ac ?_)))
   refine cU (tag := 0) rfl (fun ho0=>?_)
   refine bj tk mok ⟨false,true,[]⟩ [0,1,2,3,4,5,6,7,8,9,10,11,12,13,14,15,16,17,18,19] rfl (by decide +kernel) rfl (aK 10 rfl ?_)
   obtain ⟨x46,k46,H⟩ := aY H
   refine aS tk ⟨k46.1,(bh k46.2)⟩ (bl ho0 k46.2) ?_
   refine be tk (aI (fun _=>rfl) k46.2) ?_
   refine aK 2 rfl ?_
   obtain ⟨x50,k50,H⟩ := aY H
   refine aS tk ⟨k50.1,(bh k50.2)⟩ (bl ho0 k50.2) ?_
   refine be tk (aI (fun _=>rfl) k50.2) ?_
   obtain ⟨x52,k52,H⟩ := aY H
   refine aS tk ⟨k52.1,(bh k52.2)⟩ (bl ho0 k52.2) ?_
   obtain ⟨y7,hy7,H⟩ := bJ H
   refine cf tk rfl rfl rfl rfl rfl rfl rfl rfl rfl (by rw [zl]; exact (zg.1 k52.2).1) (PLe.refl _ _) rfl rfl rfl rfl (by decide) (bK (fun _=>rfl) k52.2 rfl hy7) ?_
   obtain ⟨x53,k53,H⟩ := aY H
   refine aS tk ⟨k53.1,(gi (bq (f := (ak 53 ab)) hy7) k53.2)⟩ (gg ho0 (bq (f := (ak 53 ab)) hy7) k53.2) ?_
   obtain ⟨y8,hy8,H⟩ := bJ H
   refine cf tk rfl rfl rfl rfl rfl rfl rfl rfl rfl (by rw [zl]; exact (zg.1 k53.2).1) (PLe.refl _ _) rfl rfl rfl rfl (by decide) (bK (fun _=>rfl) k53.2 rfl hy8) ?_
   refine bf (af (am 5 tk rfl ?_))
   obtain ⟨x59,h59,H⟩ := ax H
   have s59 := ja g_data y8 0 s2.2 a cmp hg_cmp hp_cmp _ h59
   obtain ⟨_,q59_0,H⟩ := ax H
   have l59_0 := (bB q59_0).1
   have z59_0 : (List.map (ak 53 ab) y8).length = (List.map (ak 53 ab) x59).length := by simpa using (l59_0).symm
   refine bZ (g := 160) rfl rfl rfl Tryz.call160 [] [(0,0)] rfl rfl rfl rfl (iX.of2 (ir.cons (mV.own ((bq (f := (ak 53 ab)) hy7).trans (bq (f := (ak 53 ab)) hy8))) (ir.cons (mV.of_eq rfl) (ir.cons (mV.of_eq rfl) (ir.cons (mV.of_eq rfl) (ir.cons (mV.of_eq rfl) ir.nil)))))) (by rw [bQ,bH,bP]; rfl) s59 ?_
   rintro u59 H59h ⟨rfl,rfl⟩
   refine ⟨_,rfl,?_⟩
   refine cy (st' := ⟨_,_,fun _=>none,upd (fun _=>none) 0 (some ⟨g_data,51,(x59.map (ak 53 ab)),true⟩)⟩) (Gh.le (bM _ _) ai (aA ah)) ?_
   refine ag (aR (bi 3 tk rfl ?_))
   obtain rfl := ao H
   refine aL (x59,(IntKind.i64.wrap (s2.2 - (1 : Int)))) () hg2 (Gh.le (aH (PLe.of2 (mV.of_eq (congrArg (PV.own 0 g_data) (((bq (f := (ak 53 ab)) hy7).trans (bq (f := (ak 53 ab)) hy8)).trans z59_0)))) (aa (aa (aa (aa al))))) ai (aA ah))
  refine aQ rfl ?_
  obtain rfl := ao H
  refine aO (s2.1,s2.2) () hg2 (Gh.le (aa al) ai (aA ah))
 have H := bo hn2 Hp2
 obtain rfl := ao H
 refine dG (st' := ⟨60,fun _=>.any,fun _=>none,upd (fun _=>none) 0 (some ⟨g_data,51,(s2.1.map (ak 53 ab)),true⟩)⟩) (Gh.le al ai (aA ah)) ?_
 refine iG rfl (PLe.q rfl) ⟨rfl,rfl⟩
def dK (data : Rz) (a : Int) (b : Int) (c : Int) (swaps : Int) (cmp : Rq → Rq → Option (Int)) : Option (Int × Rz × Int) :=
 aj (dc data a b swaps cmp) fun x19 =>
 aj (cB (x19.2.2.1.length = data.length) ()) fun (_ : Unit) =>
 aj (dc x19.2.2.1 x19.2.1 c x19.2.2.2 cmp) fun x28 =>
 aj (cB (x28.2.2.1.length = x19.2.2.1.length) ()) fun (_ : Unit) =>
 aj (dc x28.2.2.1 x19.1 x28.1 x28.2.2.2 cmp) fun x37 =>
 aj (cB (x37.2.2.1.length = x28.2.2.1.length) ()) fun (_ : Unit) =>
 some (x37.2.1,x37.2.2.1,x37.2.2.2)
theorem jD (g_data : OwnRef) (b_swaps : Nat) {g_cmp : FuncId} {caps_cmp : List PV} (data : Rz) (a : Int) (b : Int) (c : Int) (swaps : Int) (cmp : Rq → Rq → Option (Int)) (hg_cmp : ∀ (vs : Array Value) (w : World),(callFunc g_cmp vs).run Tryz.prog w = .ok (.enter g_cmp vs) w) (hp_cmp : ∀ a0 a1 r,cmp a0 a1 = some r → aV Tryz.prog g_cmp ((.list 53 (a0.map ab)) :: (.list 53 (a1.map ab)) :: caps_cmp) (ae r)) (r : Int × Rz × Int) (H : dK data a b c swaps cmp = some r) :
  PH Tryz.prog 164 [(.own 0 g_data (data.map (ak 53 ab)).length),(ae a),(ae b),(ae c),(.box 1504 b_swaps 0),(.fn g_cmp caps_cmp)] ⟨upd (fun _=>none) 1504 (some ⟨b_swaps,[(ae swaps)]⟩),upd (fun _=>none) 0 (some ⟨g_data,51,(data.map (ak 53 ab)),true⟩)⟩ (fun u H=>u = (ae r.1) ∧ H = ⟨upd (fun _=>none) 1504 (some ⟨b_swaps,[(ae r.2.2)]⟩),upd (fun _=>none) 0 (some ⟨g_data,51,(r.2.1.map (ak 53 ab)),true⟩)⟩) := by
 unfold dK at H
 refine PH.aC Tryz.func164 Tryz.ntmps164 ?_
 refine aw 1 tk rfl (ac (af (am 5 tk rfl ?_)))
 obtain ⟨x19,h19,H⟩ := ax H
 have s19 := gO g_data b_swaps data a b swaps cmp hg_cmp hp_cmp _ h19
 obtain ⟨_,q19_0,H⟩ := ax H
 have l19_0 := (bB q19_0).1
 have z19_0 : (List.map (ak 53 ab) data).length = (List.map (ak 53 ab) x19.2.2.1).length := by simpa using (l19_0).symm
 refine bZ (g := 184) rfl rfl rfl Tryz.call184 [(1504,1503)] [(0,0)] rfl rfl rfl rfl (iX.of2 (ir.cons (mV.own rfl) (ir.cons (mV.of_eq rfl) (ir.cons (mV.of_eq rfl) (ir.cons mV.boxT (ir.cons (mV.of_eq rfl) ir.nil)))))) (by rw [dw,bQ,bH,bP]; rfl) s19 ?_
 rintro u19 H19h ⟨rfl,rfl⟩
 refine ⟨_,rfl,?_⟩
 refine cy (st' := ⟨_,_,upd (fun _=>none) 1504 (some ⟨b_swaps,[(ae x19.2.2.2)]⟩),upd (fun _=>none) 0 (some ⟨g_data,51,(x19.2.2.1.map (ak 53 ab)),true⟩)⟩) (Gh.le (bM _ _) (ay rfl (iX.r) ai) (aA ah)) ?_
 refine am 5 tk rfl (ag (ac (af (am 5 tk rfl ?_))))
 obtain ⟨x28,h28,H⟩ := ax H
 have s28 := gO g_data b_swaps x19.2.2.1 x19.2.1 c x19.2.2.2 cmp hg_cmp hp_cmp _ h28
 obtain ⟨_,q28_0,H⟩ := ax H
 have l28_0 := (bB q28_0).1
 have z28_0 : (List.map (ak 53 ab) x19.2.2.1).length = (List.map (ak 53 ab) x28.2.2.1).length := by simpa using (l28_0).symm
 refine bZ (g := 184) rfl rfl rfl Tryz.call184 [(1504,1503)] [(0,0)] rfl rfl rfl rfl (iX.of2 (ir.cons (mV.own z19_0) (ir.cons (mV.of_eq rfl) (ir.cons (mV.of_eq rfl) (ir.cons mV.boxT (ir.cons (mV.of_eq rfl) ir.nil)))))) (by rw [dw,bQ,bH,bP]; rfl) s28 ?_
 rintro u28 H28h ⟨rfl,rfl⟩
 refine ⟨_,rfl,?_⟩
 refine cy (st' := ⟨_,_,upd (fun _=>none) 1504 (some ⟨b_swaps,[(ae x28.2.2.2)]⟩),upd (fun _=>none) 0 (some ⟨g_data,51,(x28.2.2.1.map (ak 53 ab)),true⟩)⟩) (Gh.le (bM _ _) (ay rfl (iX.r) ai) (aA ah)) ?_
 refine am 5 tk rfl (ag (ac (af (am 5 tk rfl ?_))))
 obtain ⟨x37,h37,H⟩ := ax H
 have s37 := gO g_data b_swaps x28.2.2.1 x19.1 x28.1 x28.2.2.2 cmp hg_cmp hp_cmp _ h37
 obtain ⟨_,q37_0,H⟩ := ax H
 have l37_0 := (bB q37_0).1
 have z37_0 : (List.map (ak 53 ab) x28.2.2.1).length = (List.map (ak 53 ab) x37.2.2.1).length := by simpa using (l37_0).symm
 refine bZ (g := 184) rfl rfl rfl Tryz.call184 [(1504,1503)] [(0,0)] rfl rfl rfl rfl (iX.of2 (ir.cons (mV.own (z19_0.trans z28_0)) (ir.cons (mV.of_eq rfl) (ir.cons (mV.of_eq rfl) (ir.cons mV.boxT (ir.cons (mV.of_eq rfl) ir.nil)))))) (by rw [dw,bQ,bH,bP]; rfl) s37 ?_
 rintro u37 H37h ⟨rfl,rfl⟩
 refine ⟨_,rfl,?_⟩
 refine cy (st' := ⟨_,_,upd (fun _=>none) 1504 (some ⟨b_swaps,[(ae x37.2.2.2)]⟩),upd (fun _=>none) 0 (some ⟨g_data,51,(x37.2.2.1.map (ak 53 ab)),true⟩)⟩) (Gh.le (bM _ _) (ay rfl (iX.r) ai) (aA ah)) ?_
 refine am 5 tk rfl (ag (aw 2 tk rfl ?_))
 obtain rfl := ao H
 refine dG (st' := ⟨41,upd (fun _=>.any) 12 (ae x37.2.1),upd (fun _=>none) 1504 (some ⟨b_swaps,[(ae x37.2.2.2)]⟩),upd (fun _=>none) 0 (some ⟨g_data,51,(x37.2.2.1.map (ak 53 ab)),true⟩)⟩) (Gh.le (aa al) (ay rfl (iX.r) ai) (aA ah)) ?_
 refine eP tk rfl (ps := [(ae x37.2.1)]) ⟨_,_,rfl,rfl,rfl⟩ (PLe.q rfl) ⟨rfl,rfl⟩
def im (x : Rq) (y : Rq) : Option (Bool) :=
 aj (cR x y) fun x7 =>
 some x7
theorem qC (x : Rq) (y : Rq) (r : Bool) (H : im x y = some r) :
  aV Tryz.prog 74 [(.list 53 (x.map ab)),(.list 53 (y.map ab))] (aE r) := by
 unfold im at H
 refine PH.aC Tryz.func74 Tryz.ntmps74 ?_
 refine aw 1 tk rfl (ac (af (am 2 tk rfl ?_)))
 obtain ⟨x7,h7,H⟩ := ax H
 have s7 := gz x y _ h7
 refine au Tryz.call24 (iX.r) s7 ?_
 refine aq tk rfl (ag ?_)
 obtain rfl := ao H
 refine aB tk rfl (ps := [(aE x7)]) ⟨_,_,rfl,rfl,rfl⟩ (PLe.q rfl)
def dH (kinds : List Int) (c0 : LQuery) : Option (Bool) :=
 aj (fj kinds c0.kind) fun x7 =>
 some x7
theorem fF (kinds : List Int) (c0 : LQuery) (r : Bool) (H : dH kinds c0 = some r) :
  aV Tryz.prog 151 [(.list 3 (kinds.map bG)),(.ptr (bv c0))] (aE r) := by
 unfold dH at H
 refine PH.aC Tryz.func151 Tryz.ntmps151 ?_
 refine aw 1 tk rfl (ac (af (am 3 tk rfl ?_)))
 obtain ⟨x7,h7,H⟩ := ax H
 have s7 := mX kinds c0.kind _ h7
 refine au Tryz.call152 (iX.r) s7 ?_
 refine aq tk rfl (ag ?_)
 obtain rfl := ao H
 refine aB tk rfl (ps := [(aE x7)]) ⟨_,_,rfl,rfl,rfl⟩ (PLe.q rfl)
def fp (q : LQuery) (args : Rq) : Option (Int) :=
 aj (fq q) fun x11 =>
 cond (x11.2 != (0 : Int))
  (some x11.2)
  (cond (decide ((args.length : Int) < (x11.1.length : Int)))
   (some 1)
   (aj (ba (σ := Unit) (ρ := (Int)) (fun (j1 : Nat) (x1 : Int) (_ : Unit) =>
    aj (aF args (j1 : Int)) fun (x31 : LVal) =>
    bn (eO x31) fun x33 =>
    cond (!x33)
     (some (.ret 7))
     (cond (x1 != (0 : Int))
      (aj (aF args (j1 : Int)) fun (x41 : LVal) =>
      cond (x41.kind != x1)
       (aj (aF args (j1 : Int)) fun (x50 : LVal) =>
       cond (x50.kind != (0 : Int))
        (some (.ret 7))
        (some (.next ())))
       (some (.next ())))
      (some (.next ())))) 0 x11.1 ()) fun fl1=>fl1.thenR fun (_ : Unit) =>
   some 0))
theorem kY (q : LQuery) (args : Rq) (r : Int) (H : fp q args = some r) :
  aV Tryz.prog 53 [(.agg (bv q)),(.list 53 (args.map ab))] (ae r) := by
 unfold fp at H
 refine PH.aC Tryz.func53 Tryz.ntmps53 ?_
 refine ac (af (aT ?_))
 refine aq tk rfl (ag (ac (af (aq tk rfl ?_))))
 obtain ⟨x11,h11,H⟩ := ax H
 have s11 := kX q _ h11
 refine au Tryz.call87 (iX.r) s11 ?_
 refine am 5 tk rfl (ag (ac (aw 2 tk rfl ?_)))
 refine aP rfl H (fun H=>?_) (fun H=>?_)
 ·refine aw 2 tk rfl ?_
  obtain rfl := ao H
  refine aB tk rfl (ps := [(ae x11.2)]) ⟨_,_,rfl,rfl,rfl⟩ (PLe.q rfl)
 refine av (ac (ac (af (aq tk rfl (aM tk (zl _) ?_)))))
 refine aq tk rfl (aM tk (zl _) ?_)
 refine aq tk rfl (ag ?_)
 refine aP rfl H (fun H=>?_) (fun H=>?_)
 ·refine aw 1 tk rfl ?_
  obtain rfl := ao H
  refine aB tk rfl (ps := [(ae 1)]) ⟨_,_,rfl,rfl,rfl⟩ (PLe.q rfl)
 refine av (ac (ac (af (aq tk rfl (aM tk (zl _) ?_)))))
 refine aq tk rfl (ag ?_)
 obtain ⟨fl1,H1,Hp1⟩ := ax H
 refine bS tk 22 rfl rfl (fun hz1 _=>?_)
 rw [zl] at hz1
 refine aZ (τ := Unit) (γ := Unit) (fun s1 g1=>⟨57,fun _=>.any,fun _=>none,fun _=>none⟩) (fun t=>fl1 = .next t) ?_ (fun s1 g1 hn1=>?_)
 ·refine az ?_
  refine bA (fun j1 s1 g1=>⟨57,upd (upd (upd (upd (fun _=>.any) 24 (ae (j1 : Int))) 23 (ae (x11.1.length : Int))) 22 (.list 3 (x11.1.map bG))) 1 (.list 53 (args.map ab)),fun _=>none,fun _=>none⟩) () H1 (Gh.le (aa (aa (aa (aa al)))) ai ah) (fun j1 s1 g1 hj1 hr1=>?_)
  refine aw 1 tk rfl (ac ?_)
  refine aX rfl (fun h=>?_) (fun h=>?_)
  ·have hl1 := cn h
   obtain ⟨x1,fb1,hx1,H,hg1⟩ := rMc hl1 hr1
   refine av (ac (az (ac (af (aq tk rfl ?_)))))
   refine bs tk (zn j1) (bO (fun _=>rfl) hx1) ?_
   refine am 3 tk rfl (ag (ac (af (am 2 tk rfl ?_))))
   obtain ⟨x31,k31,H⟩ := aY H
   refine bs tk k31.1 (aI (fun _=>rfl) k31.2) ?_
   refine aq tk rfl ?_
   obtain ⟨x33,h33,H⟩ := bJ H
   have s33 := rg x31
   rw [h33] at s33
   refine au Tryz.call20 (iX.r) s33 ?_
   refine am 2 tk rfl ?_
   refine bF rfl rfl rfl H (fun H=>?_) (fun H=>?_)
   ·refine am 20 tk rfl (ag (ct rfl (aw 1 tk rfl ?_)))
    obtain rfl := ao H
    have e1 : fl1 = .ret _ := hg1
    subst e1
    obtain rfl := bm Hp1
    refine aB tk rfl (ps := [(ae 7)]) ⟨_,_,rfl,rfl,rfl⟩ (PLe.q rfl)
   refine am 3 tk rfl ?_
   refine bF rfl rfl rfl H (fun H=>?_) (fun H=>?_)
   ·refine am 2 tk rfl ?_
    obtain ⟨x41,k41,H⟩ := aY H
    refine bs tk k41.1 (aI (fun _=>rfl) k41.2) ?_
    refine am 6 tk rfl ?_
    refine bF rfl rfl rfl H (fun H=>?_) (fun H=>?_)
    ·refine am 2 tk rfl ?_
     obtain ⟨x50,k50,H⟩ := aY H
     refine bs tk k50.1 (aI (fun _=>rfl) k50.2) ?_
     refine am 5 tk rfl (ag ?_)
     refine aP rfl H (fun H=>?_) (fun H=>?_)
     ·refine aw 1 tk rfl ?_
      obtain rfl := ao H
      have e1 : fl1 = .ret _ := hg1
      subst e1
      obtain rfl := bm Hp1
      refine aB tk rfl (ps := [(ae 7)]) ⟨_,_,rfl,rfl,rfl⟩ (PLe.q rfl)
     refine av (aR (bi 2 tk rfl ?_))
     obtain rfl := ao H
     refine aL () () ⟨hl1,hg1⟩ (Gh.le (aa (aa (aa (aH (PLe.q (aU (by omega))) al)))) ai ah)
    refine am 8 tk rfl (ag (bD rfl (av (aR (bi 2 tk rfl ?_)))))
    obtain rfl := ao H
    refine aL () () ⟨hl1,hg1⟩ (Gh.le (aa (aa (aa (aH (PLe.q (aU (by omega))) al)))) ai ah)
   refine am 17 tk rfl (ag (bD rfl (av (aR (bi 2 tk rfl ?_)))))
   obtain rfl := ao H
   refine aL () () ⟨hl1,hg1⟩ (Gh.le (aa (aa (aa (aH (PLe.q (aU (by omega))) al)))) ai ah)
  have hn1 := rMd (co h) hr1
  refine aQ rfl ?_
  refine aO s1 g1 hn1 (Gh.le al ai ah)
 have H := ck hn1 Hp1
 refine aw 1 tk rfl ?_
 obtain rfl := ao H
 refine aB tk rfl (ps := [(ae 0)]) ⟨_,_,rfl,rfl,rfl⟩ (PLe.q rfl)
def jt (a : LVal) (b : LVal) : Int :=
 bn (gn a.kind b.kind) fun x11 =>
 cond (x11 != (0 : Int))
  (x11)
  (bn (gn a.int b.int) fun x19 =>
  cond (x19 != (0 : Int))
   (x19)
   (bn (jL a.text b.text) fun x27 =>
   x27))
theorem oE (a : LVal) (b : LVal) :
  aV Tryz.prog 106 [(.agg (ab a)),(.agg (ab b))] (ae (jt a b)) := by
 obtain ⟨r,H⟩ : ∃ r,jt a b = r := ⟨_,rfl⟩
 rw [H]
 unfold jt at H
 refine PH.aC Tryz.func106 Tryz.ntmps106 ?_
 refine ac (af (aT ?_))
 refine aT ?_
 refine aq tk rfl (ag (ac (ac (af (am 4 tk rfl ?_)))))
 obtain ⟨x11,h11,H⟩ := bJ H
 have s11 := km a.kind b.kind
 rw [h11] at s11
 refine au Tryz.call107 (iX.r) s11 ?_
 refine aq tk rfl (ag (aw 2 tk rfl ?_))
 refine aP rfl H (fun H=>?_) (fun H=>?_)
 ·refine aw 2 tk rfl ?_
  subst H
  refine aB tk rfl (ps := [(ae x11)]) ⟨_,_,rfl,rfl,rfl⟩ (PLe.q rfl)
 refine av (ac (ac (af (am 4 tk rfl ?_))))
 obtain ⟨x19,h19,H⟩ := bJ H
 have s19 := km a.int b.int
 rw [h19] at s19
 refine au Tryz.call107 (iX.r) s19 ?_
 refine aq tk rfl (ag (aw 2 tk rfl ?_))
 refine aP rfl H (fun H=>?_) (fun H=>?_)
 ·refine aw 2 tk rfl ?_
  subst H
  refine aB tk rfl (ps := [(ae x19)]) ⟨_,_,rfl,rfl,rfl⟩ (PLe.q rfl)
 refine av (ac (af (am 4 tk rfl ?_)))
 obtain ⟨x27,h27,H⟩ := bJ H
 have s27 := qY a.text b.text
 rw [h27] at s27
 refine au Tryz.call150 (iX.r) s27 ?_
 refine aq tk rfl (ag ?_)
 subst H
 refine aB tk rfl (ps := [(ae x27)]) ⟨_,_,rfl,rfl,rfl⟩ (PLe.q rfl)
def kD (a : Rz) (b : Rz) : Option (Rz) :=
 aj (ba (σ := Rz × Rz) (ρ := Empty) (fun (_ : Nat) (x1 : Rq) (s1 : Rz × Rz) =>
  aj (bY s1.1 (fun a0=>iQ a0 x1)) fun x20 =>
  aj (cB (x20.2.length = s1.1.length) ()) fun (_ : Unit) =>
  cond (decide (x20.1 ≥ (0 : Int)))
   (aj (delI x20.2 x20.1 (IntKind.i64.wrap (x20.1 + (1 : Int)))) fun x27 =>
   some (.next (x27,s1.2)))
   (aj (dW 24 s1.2 ([x1] : Rz)) fun (x31 : Rz) =>
   some (.next (x20.2,x31)))) 0 a (b,[])) fun fl1=>fl1.thenP fun (s1 : Rz × Rz) =>
 some s1.2
theorem W_query_less (a : Rz) (b : Rz) (r : Rz) (H : kD a b = some r) :
  aV Tryz.prog 133 [(.list 51 (a.map (ak 53 ab))),(.list 51 (b.map (ak 53 ab)))] (.list 51 (r.map (ak 53 ab))) := by
 unfold kD at H
 refine PH.aC Tryz.func133 Tryz.ntmps133 ?_
 refine aw 1 tk rfl (ac (af (aq tk rfl ?_)))
 have s11 := mt (m := 11) b
 refine li (g := 21) rfl rfl rfl Tryz.call21 (iX.r) rfl rfl s11 (fun g11=>?_)
 refine aq tk rfl (ag (aw 1 tk rfl (ac (ac (af (aq tk rfl (aM tk (zl _) ?_)))))))
 refine aq tk rfl (ag ?_)
 obtain ⟨fl1,H1,Hp1⟩ := ax H
 refine bS tk 12 rfl rfl (fun hz1 _=>?_)
 rw [zl] at hz1
 refine aZ (τ := Rz × Rz) (γ := OwnRef × OwnRef) (fun s1 g1=>⟨34,upd (fun _=>.any) 6 (.own 31 g1.2 (s1.2.map (ak 53 ab)).length),fun _=>none,upd (fun _=>none) 31 (some ⟨g1.2,51,(s1.2.map (ak 53 ab)),true⟩)⟩) (fun t=>fl1 = .next t) ?_ (fun s1 g1 hn1=>?_)
 ·refine az (iW tk 6 31 (e := 51) rfl rfl ?_)
  refine bA (fun j1 s1 g1=>⟨34,upd (upd (upd (upd (upd (fun _=>.any) 14 (ae (j1 : Int))) 13 (ae (a.length : Int))) 12 (.list 51 (a.map (ak 53 ab)))) 6 (.own 31 g1.2 (s1.2.map (ak 53 ab)).length)) 5 (.own 11 g1.1 (s1.1.map (ak 53 ab)).length),fun _=>none,upd (upd (fun _=>none) 31 (some ⟨g1.2,51,(s1.2.map (ak 53 ab)),true⟩)) 11 (some ⟨g1.1,51,(s1.1.map (ak 53 ab)),true⟩)⟩) (g11,⟨none,0⟩) H1 (Gh.le (aa (aa (aa (aa (aa al))))) ai (aA (aA ah))) (fun j1 s1 g1 hj1 hr1=>?_)
  refine aw 1 tk rfl (ac ?_)
  refine aX rfl (fun h=>?_) (fun h=>?_)
  ·have hl1 := cn h
   obtain ⟨x1,fb1,hx1,H,hg1⟩ := rMc hl1 hr1
   refine av (ac (az (ac (af ?_))))
   refine bs tk (zn j1) (bO (fun _=>rfl) hx1) ?_
   refine aq tk rfl ?_
   refine bt tk fun b8=>?_
   refine aD tk ?_
   refine ag (ac (ac (af (aq tk rfl (cy (Gh.freezeB 8 rfl rfl rfl rfl) (aq tk rfl ?_))))))
   obtain ⟨x20,h20,H⟩ := ax H
   have s20 := fH g1.1 s1.1 (fun a0=>iQ a0 x1) Tryz.call169 (fun a0 r h=>W_query_less_1 a0 x1 r h) _ h20
   obtain ⟨_,q20_0,H⟩ := ax H
   have l20_0 := (bB q20_0).1
   have z20_0 : (List.map (ak 53 ab) s1.1).length = (List.map (ak 53 ab) x20.2).length := by simpa using (l20_0).symm
   refine bZ (g := 22) rfl rfl rfl Tryz.call22 [] [(11,0)] rfl rfl rfl rfl (iX.of2 (ir.cons (mV.own rfl) (ir.cons (mV.of_eq rfl) ir.nil))) (by rw [bQ,bH,bP]; rfl) s20 ?_
   rintro u20 H20h ⟨rfl,rfl⟩
   refine ⟨_,rfl,?_⟩
   refine cy (st' := ⟨_,_,fun _=>none,upd (upd (fun _=>none) 31 (some ⟨g1.2,51,(s1.2.map (ak 53 ab)),true⟩)) 11 (some ⟨g1.1,51,(x20.2.map (ak 53 ab)),true⟩)⟩) (Gh.le (bM _ _) ai (aA (aA ah))) ?_
   refine aq tk rfl (ag (aw 2 tk rfl ?_))
   refine aP rfl H (fun H=>?_) (fun H=>?_)
   ·refine ac (af (am 4 tk rfl ?_))
    obtain ⟨x27,h27,H⟩ := ax H
    have s27 := W_delete_25 g1.1 x20.2 x20.1 (IntKind.i64.wrap (x20.1 + (1 : Int))) _ h27
    refine bZ (g := 25) rfl rfl rfl Tryz.call25 [] [(11,0)] rfl rfl rfl rfl (iX.of2 (ir.cons (mV.own z20_0) (ir.cons (mV.of_eq rfl) (ir.cons (mV.of_eq rfl) ir.nil)))) (by rw [bQ,bH,bP]; rfl) s27 ?_
    rintro u27 H27h ⟨rfl,rfl⟩
    refine ⟨_,rfl,?_⟩
    refine cy (st' := ⟨_,_,fun _=>none,upd (upd (fun _=>none) 31 (some ⟨g1.2,51,(s1.2.map (ak 53 ab)),true⟩)) 11 (some ⟨g1.1,51,(x27.map (ak 53 ab)),true⟩)⟩) (Gh.le (bM _ _) ai (aA (aA ah))) ?_
    refine lw 27 (q := (.own 11 g1.1 (x27.map (ak 53 ab)).length)) rfl (PLe.of2 (mV.own rfl)) (aq tk rfl (ag (aQ rfl (bi 2 tk rfl ?_))))
    obtain rfl := ao H
    refine aL (x27,s1.2) (g1.1,g1.2) ⟨hl1,hg1⟩ (Gh.le (aa (aa (aa (aa (aH (PLe.q (aU (by omega))) al))))) ai (aA (aA ah)))
   refine av (af (am 2 tk rfl (cK tk (rows' := List.map (ak 53 ab) ([x1] : Rz)) (gc.refl _) ?_)))
   obtain ⟨x31,h31,H⟩ := ax H
   have k31 := dp h31
   refine dk (rows2' := List.map (ak 53 ab) ([x1] : Rz)) (rows' := List.map (ak 53 ab) x31) tk rfl rfl rfl rfl rfl rfl rfl rfl rfl rfl rfl rfl rfl (gc.refl _) (eL k31.1) (eG k31.2.1) (eK k31.2.2) fun g31=>?_
   refine aq tk rfl (ag (aR (bi 2 tk rfl ?_)))
   obtain rfl := ao H
   refine aL (x20.2,x31) (g1.1,g31) ⟨hl1,hg1⟩ (Gh.le (aH (PLe.of2 (mV.of_eq (congrArg (PV.own 11 g1.1) z20_0))) (aa (aa (aa (aH (PLe.q (aU (by omega))) al))))) ai (aA (aA ah)))
  have hn1 := rMd (co h) hr1
  refine aQ rfl ?_
  refine aO s1 g1 hn1 (Gh.le (aa al) ai (aA ah))
 have H := bo hn1 Hp1
 refine aw 2 tk rfl ?_
 obtain rfl := ao H
 refine ec 4 rfl rfl rfl ?_
 refine aB tk rfl (ps := [(.list 51 (s1.2.map (ak 53 ab)))]) ⟨_,_,rfl,rfl,rfl⟩ (PLe.q rfl)
def cS (rec204 : Rz → Int → Int → Int → Option (Rz)) (data : Rz) (a : Int) (m : Int) (b : Int) (cmp : Rq → Rq → Option (Int)) : Option (Rz) :=
 cond ((IntKind.i64.wrap (m - a)) == (1 : Int))
  (aj (whileM (σ := Rz × Int × Int) (ρ := Empty) (fun (s1 : Rz × Int × Int) =>
   cond (decide (s1.2.1 < s1.2.2))
    (aj (aF s1.1 (IntKind.i64.wrap (Int.fdiv (IntKind.u64.wrap (IntKind.i64.wrap (s1.2.1 + s1.2.2))) (2 ^ 1)))) fun (x43 : Rq) =>
    aj (aF s1.1 a) fun (x47 : Rq) =>
    aj (cmp x43 x47) fun x49 =>
    cond (decide (x49 < (0 : Int)))
     (some (.next (s1.1,(IntKind.i64.wrap ((IntKind.i64.wrap (Int.fdiv (IntKind.u64.wrap (IntKind.i64.wrap (s1.2.1 + s1.2.2))) (2 ^ 1))) + (1 : Int))),s1.2.2)))
     (some (.next (s1.1,s1.2.1,(IntKind.i64.wrap (Int.fdiv (IntKind.u64.wrap (IntKind.i64.wrap (s1.2.1 + s1.2.2))) (2 ^ 1)))))))
    (some (.brk (s1.1,s1.2.1,s1.2.2)))) (data,m,b)) fun fl1=>fl1.thenP fun (s1 : Rz × Int × Int) =>
  aj (whileM (σ := Rz × Int) (ρ := Empty) (fun (s2 : Rz × Int) =>
   cond (decide (s2.2 < (IntKind.i64.wrap (s1.2.1 - (1 : Int)))))
    (aj (aF s2.1 (IntKind.i64.wrap (s2.2 + (1 : Int)))) fun (x69 : Rq) =>
    aj (aF s2.1 s2.2) fun (x73 : Rq) =>
    aj (aF s2.1 s2.2) fun (_ : Rq) =>
    bn (s2.1.set s2.2.toNat x69) fun (y7 : Rz) =>
    aj (aF y7 (IntKind.i64.wrap (s2.2 + (1 : Int)))) fun (_ : Rq) =>
    bn (y7.set ((IntKind.i64.wrap (s2.2 + (1 : Int))).toNat) x73) fun (y8 : Rz) =>
    some (.next (y8,(IntKind.i64.wrap (s2.2 + (1 : Int))))))
    (some (.brk (s2.1,s2.2)))) (s1.1,a)) fun fl2=>fl2.thenP fun (s2 : Rz × Int) =>
  some s2.1)
  (cond ((IntKind.i64.wrap (b - m)) == (1 : Int))
   (aj (whileM (σ := Rz × Int × Int) (ρ := Empty) (fun (s9 : Rz × Int × Int) =>
    cond (decide (s9.2.1 < s9.2.2))
     (aj (aF s9.1 m) fun (x95 : Rq) =>
     aj (aF s9.1 (IntKind.i64.wrap (Int.fdiv (IntKind.u64.wrap (IntKind.i64.wrap (s9.2.1 + s9.2.2))) (2 ^ 1)))) fun (x99 : Rq) =>
     aj (cmp x95 x99) fun x101 =>
     cond (!(decide (x101 < (0 : Int))))
      (some (.next (s9.1,(IntKind.i64.wrap ((IntKind.i64.wrap (Int.fdiv (IntKind.u64.wrap (IntKind.i64.wrap (s9.2.1 + s9.2.2))) (2 ^ 1))) + (1 : Int))),s9.2.2)))
      (some (.next (s9.1,s9.2.1,(IntKind.i64.wrap (Int.fdiv (IntKind.u64.wrap (IntKind.i64.wrap (s9.2.1 + s9.2.2))) (2 ^ 1)))))))
     (some (.brk (s9.1,s9.2.1,s9.2.2)))) (data,a,m)) fun fl9=>fl9.thenP fun (s9 : Rz × Int × Int) =>
   aj (whileM (σ := Rz × Int) (ρ := Empty) (fun (s10 : Rz × Int) =>
    cond (decide (s10.2 > s9.2.1))
     (aj (aF s10.1 (IntKind.i64.wrap (s10.2 - (1 : Int)))) fun (x121 : Rq) =>
     aj (aF s10.1 s10.2) fun (x125 : Rq) =>
     aj (aF s10.1 s10.2) fun (_ : Rq) =>
     bn (s10.1.set s10.2.toNat x121) fun (y15 : Rz) =>
     aj (aF y15 (IntKind.i64.wrap (s10.2 - (1 : Int)))) fun (_ : Rq) =>
     bn (y15.set ((IntKind.i64.wrap (s10.2 - (1 : Int))).toNat) x125) fun (y16 : Rz) =>
     some (.next (y16,(IntKind.i64.wrap (s10.2 - (1 : Int))))))
     (some (.brk (s10.1,s10.2)))) (s9.1,m)) fun fl10=>fl10.thenP fun (s10 : Rz × Int) =>
   some s10.1)
   (bn (
    cond (decide (m > (IntKind.i64.wrap (Int.fdiv (IntKind.u64.wrap (IntKind.i64.wrap (a + b))) (2 ^ 1)))))
     ((data,(IntKind.i64.wrap ((IntKind.i64.wrap ((IntKind.i64.wrap (Int.fdiv (IntKind.u64.wrap (IntKind.i64.wrap (a + b))) (2 ^ 1))) + m)) - b)),(IntKind.i64.wrap (Int.fdiv (IntKind.u64.wrap (IntKind.i64.wrap (a + b))) (2 ^ 1)))))
     ((data,a,m))) fun (t17 : Rz × Int × Int) =>
   aj (whileM (σ := Rz × Int × Int) (ρ := Empty) (fun (s18 : Rz × Int × Int) =>
    cond (decide (s18.2.1 < s18.2.2))
     (aj (aF s18.1 (IntKind.i64.wrap ((IntKind.i64.wrap ((IntKind.i64.wrap ((IntKind.i64.wrap (Int.fdiv (IntKind.u64.wrap (IntKind.i64.wrap (a + b))) (2 ^ 1))) + m)) - (1 : Int))) - (IntKind.i64.wrap (Int.fdiv (IntKind.u64.wrap (IntKind.i64.wrap (s18.2.1 + s18.2.2))) (2 ^ 1)))))) fun (x163 : Rq) =>
     aj (aF s18.1 (IntKind.i64.wrap (Int.fdiv (IntKind.u64.wrap (IntKind.i64.wrap (s18.2.1 + s18.2.2))) (2 ^ 1)))) fun (x167 : Rq) =>
     aj (cmp x163 x167) fun x169 =>
     cond (!(decide (x169 < (0 : Int))))
      (some (.next (s18.1,(IntKind.i64.wrap ((IntKind.i64.wrap (Int.fdiv (IntKind.u64.wrap (IntKind.i64.wrap (s18.2.1 + s18.2.2))) (2 ^ 1))) + (1 : Int))),s18.2.2)))
      (some (.next (s18.1,s18.2.1,(IntKind.i64.wrap (Int.fdiv (IntKind.u64.wrap (IntKind.i64.wrap (s18.2.1 + s18.2.2))) (2 ^ 1)))))))
     (some (.brk (s18.1,s18.2.1,s18.2.2)))) (t17.1,t17.2.1,t17.2.2)) fun fl18=>fl18.thenP fun (s18 : Rz × Int × Int) =>
   bn (
    cond (decide (s18.2.1 < m))
     ((s18.1,(decide (m < (IntKind.i64.wrap ((IntKind.i64.wrap ((IntKind.i64.wrap (Int.fdiv (IntKind.u64.wrap (IntKind.i64.wrap (a + b))) (2 ^ 1))) + m)) - s18.2.1))))))
     ((s18.1,false))) fun (t19 : Rz × Bool) =>
   aj (
    cond t19.2
     (aj (dI t19.1 s18.2.1 m (IntKind.i64.wrap ((IntKind.i64.wrap ((IntKind.i64.wrap (Int.fdiv (IntKind.u64.wrap (IntKind.i64.wrap (a + b))) (2 ^ 1))) + m)) - s18.2.1)) cmp) fun x191 =>
     aj (cB (x191.length = t19.1.length) ()) fun (_ : Unit) =>
     some x191)
     (some t19.1)) fun (t20 : Rz) =>
   bn (
    cond (decide (a < s18.2.1))
     ((t20,(decide (s18.2.1 < (IntKind.i64.wrap (Int.fdiv (IntKind.u64.wrap (IntKind.i64.wrap (a + b))) (2 ^ 1)))))))
     ((t20,false))) fun (t21 : Rz × Bool) =>
   aj (
    cond t21.2
     (aj (rec204 t21.1 a s18.2.1 (IntKind.i64.wrap (Int.fdiv (IntKind.u64.wrap (IntKind.i64.wrap (a + b))) (2 ^ 1)))) fun x205 =>
     aj (cB (x205.length = t21.1.length) ()) fun (_ : Unit) =>
     some x205)
     (some t21.1)) fun (t22 : Rz) =>
   cond (decide ((IntKind.i64.wrap (Int.fdiv (IntKind.u64.wrap (IntKind.i64.wrap (a + b))) (2 ^ 1))) < (IntKind.i64.wrap ((IntKind.i64.wrap ((IntKind.i64.wrap (Int.fdiv (IntKind.u64.wrap (IntKind.i64.wrap (a + b))) (2 ^ 1))) + m)) - s18.2.1))))
    (cond (decide ((IntKind.i64.wrap ((IntKind.i64.wrap ((IntKind.i64.wrap (Int.fdiv (IntKind.u64.wrap (IntKind.i64.wrap (a + b))) (2 ^ 1))) + m)) - s18.2.1)) < b))
     (aj (rec204 t22 (IntKind.i64.wrap (Int.fdiv (IntKind.u64.wrap (IntKind.i64.wrap (a + b))) (2 ^ 1))) (IntKind.i64.wrap ((IntKind.i64.wrap ((IntKind.i64.wrap (Int.fdiv (IntKind.u64.wrap (IntKind.i64.wrap (a + b))) (2 ^ 1))) + m)) - s18.2.1)) b) fun x219 =>
     aj (cB (x219.length = t22.length) ()) fun (_ : Unit) =>
     some x219)
     (some t22))
    (some t22)))
theorem kU (g_data : OwnRef) {g_cmp : FuncId} {caps_cmp : List PV} (rec204 : Rz → Int → Int → Int → Option (Rz)) (hrec204 : ∀ g0 a0 a1 a2 a3 r,rec204 a0 a1 a2 a3 = some r → PH Tryz.prog 204 [(.own 0 g0 (a0.map (ak 53 ab)).length),(ae a1),(ae a2),(ae a3),(.fn g_cmp caps_cmp)] ⟨fun _=>none,upd (fun _=>none) 0 (some ⟨g0,51,(a0.map (ak 53 ab)),true⟩)⟩ (fun u H=>u = (.tup []) ∧ H = ⟨fun _=>none,upd (fun _=>none) 0 (some ⟨g0,51,(r.map (ak 53 ab)),true⟩)⟩)) (data : Rz) (a : Int) (m : Int) (b : Int) (cmp : Rq → Rq → Option (Int)) (hg_cmp : ∀ (vs : Array Value) (w : World),(callFunc g_cmp vs).run Tryz.prog w = .ok (.enter g_cmp vs) w) (hp_cmp : ∀ a0 a1 r,cmp a0 a1 = some r → aV Tryz.prog g_cmp ((.list 53 (a0.map ab)) :: (.list 53 (a1.map ab)) :: caps_cmp) (ae r)) (r : Rz) (H : cS rec204 data a m b cmp = some r) :
  PH Tryz.prog 204 [(.own 0 g_data (data.map (ak 53 ab)).length),(ae a),(ae m),(ae b),(.fn g_cmp caps_cmp)] ⟨fun _=>none,upd (fun _=>none) 0 (some ⟨g_data,51,(data.map (ak 53 ab)),true⟩)⟩ (fun u H=>u = (.tup []) ∧ H = ⟨fun _=>none,upd (fun _=>none) 0 (some ⟨g_data,51,(r.map (ak 53 ab)),true⟩)⟩) := by
 unfold cS at H
 refine PH.aC Tryz.func204 Tryz.ntmps204 ?_
 refine ac (aw 4 tk rfl ?_)
 refine aP rfl H (fun H=>?_) (fun H=>?_)
 ·refine aw 2 tk rfl (aw 2 tk rfl (ac ?_))
  obtain ⟨fl1,H1,Hp1⟩ := ax H
  refine aZ (τ := Rz × Int × Int) (γ := Unit) (fun s1 g1=>⟨220,upd (upd (upd (fun _=>.any) 10 (ae s1.2.1)) 1 (ae a)) 0 (.own 0 g_data (s1.1.map (ak 53 ab)).length),fun _=>none,upd (fun _=>none) 0 (some ⟨g_data,51,(s1.1.map (ak 53 ab)),true⟩)⟩) (fun t=>fl1 = .next t) ?_ (fun s1 g1 hn1=>?_)
  ·refine az ?_
   refine cM (fun s1 g1=>⟨220,upd (upd (upd (upd (upd (fun _=>.any) 11 (ae s1.2.2)) 10 (ae s1.2.1)) 4 (.fn g_cmp caps_cmp)) 1 (ae a)) 0 (.own 0 g_data (s1.1.map (ak 53 ab)).length),fun _=>none,upd (fun _=>none) 0 (some ⟨g_data,51,(s1.1.map (ak 53 ab)),true⟩)⟩) () H1 (Gh.le (aa (aa (aa (aa (aa al))))) ai (aA ah)) (fun m1 s1 g1 hr1=>?_)
   obtain ⟨fb1,H,hg1⟩ := cq hr1
   refine ac (aw 3 tk rfl ?_)
   refine aP rfl H (fun H=>?_) (fun H=>?_)
   ·refine av (az (ac (af (am 4 tk rfl (nY (m := 1) rfl rfl rfl rfl (by decide) rfl rfl (am 2 tk rfl (ag (ac ?_))))))))
    refine cU (tag := 0) rfl (fun ho0=>?_)
    refine bj tk mok ⟨false,true,[]⟩ [0,1,2,3,4,5,6,7,8,9,10] rfl (by decide +kernel) rfl (aK 3 rfl ?_)
    obtain ⟨x43,k43,H⟩ := aY H
    refine aS tk ⟨k43.1,(bh k43.2)⟩ (bl ho0 k43.2) ?_
    refine be tk (aI (fun _=>rfl) k43.2) ?_
    refine aK 2 rfl ?_
    obtain ⟨x47,k47,H⟩ := aY H
    refine aS tk ⟨k47.1,(bh k47.2)⟩ (bl ho0 k47.2) ?_
    refine be tk (aI (fun _=>rfl) k47.2) ?_
    obtain ⟨x49,h49,H⟩ := ax H
    refine bg hg_cmp (iX.r) (hp_cmp _ _ _ h49) ?_
    refine cC rfl (bf ?_)
    refine aP rfl H (fun H=>?_) (fun H=>?_)
    ·refine bi 3 tk rfl (aR ?_)
     obtain rfl := ao H
     refine aL (s1.1,(IntKind.i64.wrap ((IntKind.i64.wrap (Int.fdiv (IntKind.u64.wrap (IntKind.i64.wrap (s1.2.1 + s1.2.2))) (2 ^ 1))) + (1 : Int))),s1.2.2) () hg1 (Gh.le (aa (aa (aa (aa (aa al))))) ai (aA ah))
    refine bi 2 tk rfl (aR ?_)
    obtain rfl := ao H
    refine aL (s1.1,s1.2.1,(IntKind.i64.wrap (Int.fdiv (IntKind.u64.wrap (IntKind.i64.wrap (s1.2.1 + s1.2.2))) (2 ^ 1)))) () hg1 (Gh.le (aa (aa (aa (aa (aa al))))) ai (aA ah))
   refine aQ rfl ?_
   obtain rfl := ao H
   refine aO (s1.1,s1.2.1,s1.2.2) () hg1 (Gh.le (aa (aa (aa al))) ai (aA ah))
  have H := bo hn1 Hp1
  refine ac (aw 2 tk rfl ?_)
  obtain ⟨fl2,H2,Hp2⟩ := ax H
  refine aZ (τ := Rz × Int) (γ := Unit) (fun s2 g2=>⟨220,upd (fun _=>.any) 0 (.own 0 g_data (s2.1.map (ak 53 ab)).length),fun _=>none,upd (fun _=>none) 0 (some ⟨g_data,51,(s2.1.map (ak 53 ab)),true⟩)⟩) (fun t=>fl2 = .next t) ?_ (fun s2 g2 hn2=>?_)
  ·refine az ?_
   refine cM (fun s2 g2=>⟨220,upd (upd (upd (fun _=>.any) 13 (ae s2.2)) 10 (ae s1.2.1)) 0 (.own 0 g_data (s2.1.map (ak 53 ab)).length),fun _=>none,upd (fun _=>none) 0 (some ⟨g_data,51,(s2.1.map (ak 53 ab)),true⟩)⟩) () H2 (Gh.le (aa (aa (aa al))) ai (aA ah)) (fun m2 s2 g2 hr2=>?_)
   obtain ⟨fb2,H,hg2⟩ := cq hr2
   refine ac (aw 4 tk rfl ?_)
   refine aP rfl H (fun H=>?_) (fun H=>?_)
   ·refine av (ac (az ?_))
    refine cU (tag := 0) rfl (fun ho0=>?_)
    refine bj tk mok ⟨false,true,[]⟩ [0,1,2,3,4,5,6,7,8,9,10,11,12,13,14,15,16,17] rfl (by decide +kernel) rfl (aK 8 rfl ?_)
    obtain ⟨x69,k69,H⟩ := aY H
    refine aS tk ⟨k69.1,(bh k69.2)⟩ (bl ho0 k69.2) ?_
    refine be tk (aI (fun _=>rfl) k69.2) ?_
    refine aK 2 rfl ?_
    obtain ⟨x73,k73,H⟩ := aY H
    refine aS tk ⟨k73.1,(bh k73.2)⟩ (bl ho0 k73.2) ?_
    refine be tk (aI (fun _=>rfl) k73.2) ?_
    obtain ⟨x75,k75,H⟩ := aY H
    refine aS tk ⟨k75.1,(bh k75.2)⟩ (bl ho0 k75.2) ?_
    obtain ⟨y7,hy7,H⟩ := bJ H
    refine cf tk rfl rfl rfl rfl rfl rfl rfl rfl rfl (by rw [zl]; exact (zg.1 k75.2).1) (PLe.refl _ _) rfl rfl rfl rfl (by decide) (bK (fun _=>rfl) k75.2 rfl hy7) ?_
    obtain ⟨x76,k76,H⟩ := aY H
    refine aS tk ⟨k76.1,(gi (bq (f := (ak 53 ab)) hy7) k76.2)⟩ (gg ho0 (bq (f := (ak 53 ab)) hy7) k76.2) ?_
    obtain ⟨y8,hy8,H⟩ := bJ H
    refine cf tk rfl rfl rfl rfl rfl rfl rfl rfl rfl (by rw [zl]; exact (zg.1 k76.2).1) (PLe.refl _ _) rfl rfl rfl rfl (by decide) (bK (fun _=>rfl) k76.2 rfl hy8) ?_
    refine bf (aR (bi 3 tk rfl ?_))
    obtain rfl := ao H
    refine aL (y8,(IntKind.i64.wrap (s2.2 + (1 : Int)))) () hg2 (Gh.le (aH (PLe.of2 (mV.of_eq (congrArg (PV.own 0 g_data) ((bq (f := (ak 53 ab)) hy7).trans (bq (f := (ak 53 ab)) hy8))))) (aa (aa al))) ai (aA ah))
   refine aQ rfl ?_
   obtain rfl := ao H
   refine aO (s2.1,s2.2) () hg2 (Gh.le (aa al) ai (aA ah))
  have H := bo hn2 Hp2
  obtain rfl := ao H
  refine dG (st' := ⟨220,fun _=>.any,fun _=>none,upd (fun _=>none) 0 (some ⟨g_data,51,(s2.1.map (ak 53 ab)),true⟩)⟩) (Gh.le al ai (aA ah)) ?_
  refine eP tk rfl (ps := []) rfl (PLe.q rfl) ⟨rfl,rfl⟩
 refine av (ac (aw 4 tk rfl ?_))
 refine aP rfl H (fun H=>?_) (fun H=>?_)
 ·refine aw 2 tk rfl (aw 2 tk rfl (ac ?_))
  obtain ⟨fl9,H9,Hp9⟩ := ax H
  refine aZ (τ := Rz × Int × Int) (γ := Unit) (fun s9 g9=>⟨220,upd (upd (upd (fun _=>.any) 14 (ae s9.2.1)) 2 (ae m)) 0 (.own 0 g_data (s9.1.map (ak 53 ab)).length),fun _=>none,upd (fun _=>none) 0 (some ⟨g_data,51,(s9.1.map (ak 53 ab)),true⟩)⟩) (fun t=>fl9 = .next t) ?_ (fun s9 g9 hn9=>?_)
  ·refine az ?_
   refine cM (fun s9 g9=>⟨220,upd (upd (upd (upd (upd (fun _=>.any) 15 (ae s9.2.2)) 14 (ae s9.2.1)) 4 (.fn g_cmp caps_cmp)) 2 (ae m)) 0 (.own 0 g_data (s9.1.map (ak 53 ab)).length),fun _=>none,upd (fun _=>none) 0 (some ⟨g_data,51,(s9.1.map (ak 53 ab)),true⟩)⟩) () H9 (Gh.le (aa (aa (aa (aa (aa al))))) ai (aA ah)) (fun m9 s9 g9 hr9=>?_)
   obtain ⟨fb9,H,hg9⟩ := cq hr9
   refine ac (aw 3 tk rfl ?_)
   refine aP rfl H (fun H=>?_) (fun H=>?_)
   ·refine av (az (ac (af (am 4 tk rfl (nY (m := 1) rfl rfl rfl rfl (by decide) rfl rfl (am 2 tk rfl (ag (ac ?_))))))))
    refine cU (tag := 0) rfl (fun ho0=>?_)
    refine bj tk mok ⟨false,true,[]⟩ [0,1,2,3,4,5,6,7,8,9,10,11] rfl (by decide +kernel) rfl (aK 3 rfl ?_)
    obtain ⟨x95,k95,H⟩ := aY H
    refine aS tk ⟨k95.1,(bh k95.2)⟩ (bl ho0 k95.2) ?_
    refine be tk (aI (fun _=>rfl) k95.2) ?_
    refine aK 2 rfl ?_
    obtain ⟨x99,k99,H⟩ := aY H
    refine aS tk ⟨k99.1,(bh k99.2)⟩ (bl ho0 k99.2) ?_
    refine be tk (aI (fun _=>rfl) k99.2) ?_
    obtain ⟨x101,h101,H⟩ := ax H
    refine bg hg_cmp (iX.r) (hp_cmp _ _ _ h101) ?_
    refine aK 2 rfl (bf ?_)
    refine aP rfl H (fun H=>?_) (fun H=>?_)
    ·refine bi 3 tk rfl (aR ?_)
     obtain rfl := ao H
     refine aL (s9.1,(IntKind.i64.wrap ((IntKind.i64.wrap (Int.fdiv (IntKind.u64.wrap (IntKind.i64.wrap (s9.2.1 + s9.2.2))) (2 ^ 1))) + (1 : Int))),s9.2.2) () hg9 (Gh.le (aa (aa (aa (aa (aa al))))) ai (aA ah))
    refine bi 2 tk rfl (aR ?_)
    obtain rfl := ao H
    refine aL (s9.1,s9.2.1,(IntKind.i64.wrap (Int.fdiv (IntKind.u64.wrap (IntKind.i64.wrap (s9.2.1 + s9.2.2))) (2 ^ 1)))) () hg9 (Gh.le (aa (aa (aa (aa (aa al))))) ai (aA ah))
   refine aQ rfl ?_
   obtain rfl := ao H
   refine aO (s9.1,s9.2.1,s9.2.2) () hg9 (Gh.le (aa (aa (aa al))) ai (aA ah))
  have H := bo hn9 Hp9
  refine ac (aw 2 tk rfl ?_)
  obtain ⟨fl10,H10,Hp10⟩ := ax H
  refine aZ (τ := Rz × Int) (γ := Unit) (fun s10 g10=>⟨220,upd (fun _=>.any) 0 (.own 0 g_data (s10.1.map (ak 53 ab)).length),fun _=>none,upd (fun _=>none) 0 (some ⟨g_data,51,(s10.1.map (ak 53 ab)),true⟩)⟩) (fun t=>fl10 = .next t) ?_ (fun s10 g10 hn10=>?_)
  ·refine az ?_
   refine cM (fun s10 g10=>⟨220,upd (upd (upd (fun _=>.any) 17 (ae s10.2)) 14 (ae s9.2.1)) 0 (.own 0 g_data (s10.1.map (ak 53 ab)).length),fun _=>none,upd (fun _=>none) 0 (some ⟨g_data,51,(s10.1.map (ak 53 ab)),true⟩)⟩) () H10 (Gh.le (aa (aa (aa al))) ai (aA ah)) (fun m10 s10 g10 hr10=>?_)
   obtain ⟨fb10,H,hg10⟩ := cq hr10
   refine ac (aw 3 tk rfl ?_)
   refine aP rfl H (fun H=>?_) (fun H=>?_)
   ·refine av (ac (az ?_))
    refine cU (tag := 0) rfl (fun ho0=>?_)
    refine bj tk mok ⟨false,true,[]⟩ [0,1,2,3,4,5,6,7,8,9,10,11,12,13,14,15,16,17] rfl (by decide +kernel) rfl (aK 8 rfl ?_)
    obtain ⟨x121,k121,H⟩ := aY H
    refine aS tk ⟨k121.1,(bh k121.2)⟩ (bl ho0 k121.2) ?_
    refine be tk (aI (fun _=>rfl) k121.2) ?_
    refine aK 2 rfl ?_
    obtain ⟨x125,k125,H⟩ := aY H
    refine aS tk ⟨k125.1,(bh k125.2)⟩ (bl ho0 k125.2) ?_
    refine be tk (aI (fun _=>rfl) k125.2) ?_
    obtain ⟨x127,k127,H⟩ := aY H
    refine aS tk ⟨k127.1,(bh k127.2)⟩ (bl ho0 k127.2) ?_
    obtain ⟨y15,hy15,H⟩ := bJ H
    refine cf tk rfl rfl rfl rfl rfl rfl rfl rfl rfl (by rw [zl]; exact (zg.1 k127.2).1) (PLe.refl _ _) rfl rfl rfl rfl (by decide) (bK (fun _=>rfl) k127.2 rfl hy15) ?_
    obtain ⟨x128,k128,H⟩ := aY H
    refine aS tk ⟨k128.1,(gi (bq (f := (ak 53 ab)) hy15) k128.2)⟩ (gg ho0 (bq (f := (ak 53 ab)) hy15) k128.2) ?_
    obtain ⟨y16,hy16,H⟩ := bJ H
    refine cf tk rfl rfl rfl rfl rfl rfl rfl rfl rfl (by rw [zl]; exact (zg.1 k128.2).1) (PLe.refl _ _) rfl rfl rfl rfl (by decide) (bK (fun _=>rfl) k128.2 rfl hy16) ?_
    refine bf (aR (bi 3 tk rfl ?_))
    obtain rfl := ao H
    refine aL (y16,(IntKind.i64.wrap (s10.2 - (1 : Int)))) () hg10 (Gh.le (aH (PLe.of2 (mV.of_eq (congrArg (PV.own 0 g_data) ((bq (f := (ak 53 ab)) hy15).trans (bq (f := (ak 53 ab)) hy16))))) (aa (aa al))) ai (aA ah))
   refine aQ rfl ?_
   obtain rfl := ao H
   refine aO (s10.1,s10.2) () hg10 (Gh.le (aa al) ai (aA ah))
  have H := bo hn10 Hp10
  obtain rfl := ao H
  refine dG (st' := ⟨220,fun _=>.any,fun _=>none,upd (fun _=>none) 0 (some ⟨g_data,51,(s10.1.map (ak 53 ab)),true⟩)⟩) (Gh.le al ai (aA ah)) ?_
  refine eP tk rfl (ps := []) rfl (PLe.q rfl) ⟨rfl,rfl⟩
 refine av (ac (af (am 4 tk rfl (nY (m := 1) rfl rfl rfl rfl (by decide) rfl rfl (am 2 tk rfl (ag (aw 4 tk rfl (aw 2 tk rfl (ac (aw 3 tk rfl ?_))))))))))
 obtain ⟨fl17,H17,Hp17⟩ := bJ H
 refine aZ (τ := Rz × Int × Int) (γ := Unit) (fun t17 g17=>⟨220,upd (upd (upd (upd (upd (upd (upd (upd (upd (fun _=>.any) 21 (ae t17.2.2)) 20 (ae t17.2.1)) 19 (ae (IntKind.i64.wrap ((IntKind.i64.wrap (Int.fdiv (IntKind.u64.wrap (IntKind.i64.wrap (a + b))) (2 ^ 1))) + m)))) 18 (ae (IntKind.i64.wrap (Int.fdiv (IntKind.u64.wrap (IntKind.i64.wrap (a + b))) (2 ^ 1))))) 4 (.fn g_cmp caps_cmp)) 3 (ae b)) 2 (ae m)) 1 (ae a)) 0 (.own 0 g_data (t17.1.map (ak 53 ab)).length),fun _=>none,upd (fun _=>none) 0 (some ⟨g_data,51,(t17.1.map (ak 53 ab)),true⟩)⟩) (fun t=>t = fl17) ?_ (fun t17 g17 hn17=>?_)
 ·have H := H17
  refine aP rfl H (fun H=>?_) (fun H=>?_)
  ·refine aw 4 tk rfl (bi 2 tk rfl ?_)
   subst H
   refine aO (data,(IntKind.i64.wrap ((IntKind.i64.wrap ((IntKind.i64.wrap (Int.fdiv (IntKind.u64.wrap (IntKind.i64.wrap (a + b))) (2 ^ 1))) + m)) - b)),(IntKind.i64.wrap (Int.fdiv (IntKind.u64.wrap (IntKind.i64.wrap (a + b))) (2 ^ 1)))) () rfl (Gh.le (aa (aa (aa (aa (aa (aa (aa (aa (aa al))))))))) ai (aA ah))
  refine aw 2 tk rfl (bi 2 tk rfl ?_)
  subst H
  refine aO (data,a,m) () rfl (Gh.le (aa (aa (aa (aa (aa (aa (aa (aa (aa al))))))))) ai (aA ah))
 subst hn17
 have H := Hp17
 refine aw 3 tk rfl (ac ?_)
 obtain ⟨fl18,H18,Hp18⟩ := ax H
 refine aZ (τ := Rz × Int × Int) (γ := Unit) (fun s18 g18=>⟨220,upd (upd (upd (upd (upd (upd (upd (upd (fun _=>.any) 20 (ae s18.2.1)) 19 (ae (IntKind.i64.wrap ((IntKind.i64.wrap (Int.fdiv (IntKind.u64.wrap (IntKind.i64.wrap (a + b))) (2 ^ 1))) + m)))) 18 (ae (IntKind.i64.wrap (Int.fdiv (IntKind.u64.wrap (IntKind.i64.wrap (a + b))) (2 ^ 1))))) 4 (.fn g_cmp caps_cmp)) 3 (ae b)) 2 (ae m)) 1 (ae a)) 0 (.own 0 g_data (s18.1.map (ak 53 ab)).length),fun _=>none,upd (fun _=>none) 0 (some ⟨g_data,51,(s18.1.map (ak 53 ab)),true⟩)⟩) (fun t=>fl18 = .next t) ?_ (fun s18 g18 hn18=>?_)
 ·refine az ?_
  refine cM (fun s18 g18=>⟨220,upd (upd (upd (upd (upd (upd (upd (upd (upd (upd (fun _=>.any) 22 (ae (IntKind.i64.wrap ((IntKind.i64.wrap ((IntKind.i64.wrap (Int.fdiv (IntKind.u64.wrap (IntKind.i64.wrap (a + b))) (2 ^ 1))) + m)) - (1 : Int))))) 21 (ae s18.2.2)) 20 (ae s18.2.1)) 19 (ae (IntKind.i64.wrap ((IntKind.i64.wrap (Int.fdiv (IntKind.u64.wrap (IntKind.i64.wrap (a + b))) (2 ^ 1))) + m)))) 18 (ae (IntKind.i64.wrap (Int.fdiv (IntKind.u64.wrap (IntKind.i64.wrap (a + b))) (2 ^ 1))))) 4 (.fn g_cmp caps_cmp)) 3 (ae b)) 2 (ae m)) 1 (ae a)) 0 (.own 0 g_data (s18.1.map (ak 53 ab)).length),fun _=>none,upd (fun _=>none) 0 (some ⟨g_data,51,(s18.1.map (ak 53 ab)),true⟩)⟩) () H18 (Gh.le (aa (aa (aa (aa (aa (aa (aa (aa (aa (aa al)))))))))) ai (aA ah)) (fun m18 s18 g18 hr18=>?_)
  obtain ⟨fb18,H,hg18⟩ := cq hr18
  refine ac (aw 3 tk rfl ?_)
  refine aP rfl H (fun H=>?_) (fun H=>?_)
  ·refine av (az (ac (af (am 4 tk rfl (nY (m := 1) rfl rfl rfl rfl (by decide) rfl rfl (am 2 tk rfl (ag (ac ?_))))))))
   refine cU (tag := 0) rfl (fun ho0=>?_)
   refine bj tk mok ⟨false,true,[]⟩ [0,1,2,3,4,5,6,7,8,9,10,11,12,13] rfl (by decide +kernel) rfl (aK 5 rfl ?_)
   obtain ⟨x163,k163,H⟩ := aY H
   refine aS tk ⟨k163.1,(bh k163.2)⟩ (bl ho0 k163.2) ?_
   refine be tk (aI (fun _=>rfl) k163.2) ?_
   refine aK 2 rfl ?_
   obtain ⟨x167,k167,H⟩ := aY H
   refine aS tk ⟨k167.1,(bh k167.2)⟩ (bl ho0 k167.2) ?_
   refine be tk (aI (fun _=>rfl) k167.2) ?_
   obtain ⟨x169,h169,H⟩ := ax H
   refine bg hg_cmp (iX.r) (hp_cmp _ _ _ h169) ?_
   refine aK 2 rfl (bf ?_)
   refine aP rfl H (fun H=>?_) (fun H=>?_)
   ·refine bi 3 tk rfl (aR ?_)
    obtain rfl := ao H
    refine aL (s18.1,(IntKind.i64.wrap ((IntKind.i64.wrap (Int.fdiv (IntKind.u64.wrap (IntKind.i64.wrap (s18.2.1 + s18.2.2))) (2 ^ 1))) + (1 : Int))),s18.2.2) () hg18 (Gh.le (aa (aa (aa (aa (aa (aa (aa (aa (aa (aa al)))))))))) ai (aA ah))
   refine bi 2 tk rfl (aR ?_)
   obtain rfl := ao H
   refine aL (s18.1,s18.2.1,(IntKind.i64.wrap (Int.fdiv (IntKind.u64.wrap (IntKind.i64.wrap (s18.2.1 + s18.2.2))) (2 ^ 1)))) () hg18 (Gh.le (aa (aa (aa (aa (aa (aa (aa (aa (aa (aa al)))))))))) ai (aA ah))
  refine aQ rfl ?_
  obtain rfl := ao H
  refine aO (s18.1,s18.2.1,s18.2.2) () hg18 (Gh.le (aa (aa (aa (aa (aa (aa (aa (aa al)))))))) ai (aA ah))
 have H := bo hn18 Hp18
 refine aw 4 tk rfl (ac (ac ?_))
 obtain ⟨fl19,H19,Hp19⟩ := bJ H
 refine aZ (τ := Rz × Bool) (γ := Unit) (fun t19 g19=>⟨220,upd (upd (upd (upd (upd (upd (upd (upd (upd (fun _=>.any) 185 (aE t19.2)) 24 (ae (IntKind.i64.wrap ((IntKind.i64.wrap ((IntKind.i64.wrap (Int.fdiv (IntKind.u64.wrap (IntKind.i64.wrap (a + b))) (2 ^ 1))) + m)) - s18.2.1)))) 20 (ae s18.2.1)) 18 (ae (IntKind.i64.wrap (Int.fdiv (IntKind.u64.wrap (IntKind.i64.wrap (a + b))) (2 ^ 1))))) 4 (.fn g_cmp caps_cmp)) 3 (ae b)) 2 (ae m)) 1 (ae a)) 0 (.own 0 g_data (t19.1.map (ak 53 ab)).length),fun _=>none,upd (fun _=>none) 0 (some ⟨g_data,51,(t19.1.map (ak 53 ab)),true⟩)⟩) (fun t=>t = fl19) ?_ (fun t19 g19 hn19=>?_)
 ·have H := H19
  refine af (am 4 tk rfl ?_)
  refine bF rfl rfl rfl H (fun H=>?_) (fun H=>?_)
  ·refine am 4 tk rfl (ag ?_)
   subst H
   refine aO (s18.1,(decide (m < (IntKind.i64.wrap ((IntKind.i64.wrap ((IntKind.i64.wrap (Int.fdiv (IntKind.u64.wrap (IntKind.i64.wrap (a + b))) (2 ^ 1))) + m)) - s18.2.1))))) () rfl (Gh.le (aa (aa (aa (aa (aa (aa (aa (aa (aa al))))))))) ai (aA ah))
  refine am 4 tk rfl (ag ?_)
  subst H
  refine aO (s18.1,false) () rfl (Gh.le (aa (aa (aa (aa (aa (aa (aa (aa (aa al))))))))) ai (aA ah))
 subst hn19
 have H := Hp19
 obtain ⟨fl20,H20,Hp20⟩ := ax H
 refine aZ (τ := Rz) (γ := Unit) (fun t20 g20=>⟨220,upd (upd (upd (upd (upd (upd (upd (fun _=>.any) 24 (ae (IntKind.i64.wrap ((IntKind.i64.wrap ((IntKind.i64.wrap (Int.fdiv (IntKind.u64.wrap (IntKind.i64.wrap (a + b))) (2 ^ 1))) + m)) - s18.2.1)))) 20 (ae s18.2.1)) 18 (ae (IntKind.i64.wrap (Int.fdiv (IntKind.u64.wrap (IntKind.i64.wrap (a + b))) (2 ^ 1))))) 4 (.fn g_cmp caps_cmp)) 3 (ae b)) 1 (ae a)) 0 (.own 0 g_data (t20.map (ak 53 ab)).length),fun _=>none,upd (fun _=>none) 0 (some ⟨g_data,51,(t20.map (ak 53 ab)),true⟩)⟩) (fun t=>t = fl20) ?_ (fun t20 g20 hn20=>?_)
 ·have H := H20
  refine aP rfl H (fun H=>?_) (fun H=>?_)
  ·refine af (am 5 tk rfl ?_)
   obtain ⟨x191,h191,H⟩ := ax H
   have s191 := lW g_data t19.1 s18.2.1 m (IntKind.i64.wrap ((IntKind.i64.wrap ((IntKind.i64.wrap (Int.fdiv (IntKind.u64.wrap (IntKind.i64.wrap (a + b))) (2 ^ 1))) + m)) - s18.2.1)) cmp hg_cmp hp_cmp _ h191
   obtain ⟨_,q191_0,H⟩ := ax H
   have l191_0 := (bB q191_0).1
   have z191_0 : (List.map (ak 53 ab) t19.1).length = (List.map (ak 53 ab) x191).length := by simpa using (l191_0).symm
   refine bZ (g := 211) rfl rfl rfl Tryz.call211 [] [(0,0)] rfl rfl rfl rfl (iX.of2 (ir.cons (mV.own rfl) (ir.cons (mV.of_eq rfl) (ir.cons (mV.of_eq rfl) (ir.cons (mV.of_eq rfl) (ir.cons (mV.of_eq rfl) ir.nil)))))) (by rw [bQ,bH,bP]; rfl) s191 ?_
   rintro u191 H191h ⟨rfl,rfl⟩
   refine ⟨_,rfl,?_⟩
   refine cy (st' := ⟨_,_,fun _=>none,upd (fun _=>none) 0 (some ⟨g_data,51,(x191.map (ak 53 ab)),true⟩)⟩) (Gh.le (bM _ _) ai (aA ah)) ?_
   refine ag ?_
   obtain rfl := ao H
   refine aO x191 () rfl (Gh.le (aH (PLe.of2 (mV.of_eq (congrArg (PV.own 0 g_data) z191_0))) (aa (aa (aa (aa (aa (aa al))))))) ai (aA ah))
  refine av ?_
  obtain rfl := ao H
  refine aO t19.1 () rfl (Gh.le (aa (aa (aa (aa (aa (aa (aa al))))))) ai (aA ah))
 subst hn20
 have H := Hp20
 refine ac (ac ?_)
 obtain ⟨fl21,H21,Hp21⟩ := bJ H
 refine aZ (τ := Rz × Bool) (γ := Unit) (fun t21 g21=>⟨220,upd (upd (upd (upd (upd (upd (upd (upd (fun _=>.any) 199 (aE t21.2)) 24 (ae (IntKind.i64.wrap ((IntKind.i64.wrap ((IntKind.i64.wrap (Int.fdiv (IntKind.u64.wrap (IntKind.i64.wrap (a + b))) (2 ^ 1))) + m)) - s18.2.1)))) 20 (ae s18.2.1)) 18 (ae (IntKind.i64.wrap (Int.fdiv (IntKind.u64.wrap (IntKind.i64.wrap (a + b))) (2 ^ 1))))) 4 (.fn g_cmp caps_cmp)) 3 (ae b)) 1 (ae a)) 0 (.own 0 g_data (t21.1.map (ak 53 ab)).length),fun _=>none,upd (fun _=>none) 0 (some ⟨g_data,51,(t21.1.map (ak 53 ab)),true⟩)⟩) (fun t=>t = fl21) ?_ (fun t21 g21 hn21=>?_)
 ·have H := H21
  refine af (am 4 tk rfl ?_)
  refine bF rfl rfl rfl H (fun H=>?_) (fun H=>?_)
  ·refine am 4 tk rfl (ag ?_)
   subst H
   refine aO (t20,(decide (s18.2.1 < (IntKind.i64.wrap (Int.fdiv (IntKind.u64.wrap (IntKind.i64.wrap (a + b))) (2 ^ 1)))))) () rfl (Gh.le (aa (aa (aa (aa (aa (aa (aa (aa al)))))))) ai (aA ah))
  refine am 4 tk rfl (ag ?_)
  subst H
  refine aO (t20,false) () rfl (Gh.le (aa (aa (aa (aa (aa (aa (aa (aa al)))))))) ai (aA ah))
 subst hn21
 have H := Hp21
 obtain ⟨fl22,H22,Hp22⟩ := ax H
 refine aZ (τ := Rz) (γ := Unit) (fun t22 g22=>⟨220,upd (upd (upd (upd (upd (fun _=>.any) 24 (ae (IntKind.i64.wrap ((IntKind.i64.wrap ((IntKind.i64.wrap (Int.fdiv (IntKind.u64.wrap (IntKind.i64.wrap (a + b))) (2 ^ 1))) + m)) - s18.2.1)))) 18 (ae (IntKind.i64.wrap (Int.fdiv (IntKind.u64.wrap (IntKind.i64.wrap (a + b))) (2 ^ 1))))) 4 (.fn g_cmp caps_cmp)) 3 (ae b)) 0 (.own 0 g_data (t22.map (ak 53 ab)).length),fun _=>none,upd (fun _=>none) 0 (some ⟨g_data,51,(t22.map (ak 53 ab)),true⟩)⟩) (fun t=>t = fl22) ?_ (fun t22 g22 hn22=>?_)
 ·have H := H22
  refine aP rfl H (fun H=>?_) (fun H=>?_)
  ·refine af (am 5 tk rfl ?_)
   obtain ⟨x205,h205,H⟩ := ax H
   have s205 := hrec204 g_data t21.1 a s18.2.1 (IntKind.i64.wrap (Int.fdiv (IntKind.u64.wrap (IntKind.i64.wrap (a + b))) (2 ^ 1))) _ h205
   obtain ⟨_,q205_0,H⟩ := ax H
   have l205_0 := (bB q205_0).1
   have z205_0 : (List.map (ak 53 ab) t21.1).length = (List.map (ak 53 ab) x205).length := by simpa using (l205_0).symm
   refine bZ (g := 204) rfl rfl rfl Tryz.call204 [] [(0,0)] rfl rfl rfl rfl (iX.of2 (ir.cons (mV.own rfl) (ir.cons (mV.of_eq rfl) (ir.cons (mV.of_eq rfl) (ir.cons (mV.of_eq rfl) (ir.cons (mV.of_eq rfl) ir.nil)))))) (by rw [bQ,bH,bP]; rfl) s205 ?_
   rintro u205 H205h ⟨rfl,rfl⟩
   refine ⟨_,rfl,?_⟩
   refine cy (st' := ⟨_,_,fun _=>none,upd (fun _=>none) 0 (some ⟨g_data,51,(x205.map (ak 53 ab)),true⟩)⟩) (Gh.le (bM _ _) ai (aA ah)) ?_
   refine ag ?_
   obtain rfl := ao H
   refine aO x205 () rfl (Gh.le (aH (PLe.of2 (mV.of_eq (congrArg (PV.own 0 g_data) z205_0))) (aa (aa (aa (aa al))))) ai (aA ah))
  refine av ?_
  obtain rfl := ao H
  refine aO t21.1 () rfl (Gh.le (aa (aa (aa (aa (aa al))))) ai (aA ah))
 subst hn22
 have H := Hp22
 refine ac (af (am 4 tk rfl ?_))
 refine bF rfl rfl rfl H (fun H=>?_) (fun H=>?_)
 ·refine am 4 tk rfl (ag ?_)
  refine aP rfl H (fun H=>?_) (fun H=>?_)
  ·refine af (am 5 tk rfl ?_)
   obtain ⟨x219,h219,H⟩ := ax H
   have s219 := hrec204 g_data t22 (IntKind.i64.wrap (Int.fdiv (IntKind.u64.wrap (IntKind.i64.wrap (a + b))) (2 ^ 1))) (IntKind.i64.wrap ((IntKind.i64.wrap ((IntKind.i64.wrap (Int.fdiv (IntKind.u64.wrap (IntKind.i64.wrap (a + b))) (2 ^ 1))) + m)) - s18.2.1)) b _ h219
   obtain ⟨_,q219_0,H⟩ := ax H
   have l219_0 := (bB q219_0).1
   have z219_0 : (List.map (ak 53 ab) t22).length = (List.map (ak 53 ab) x219).length := by simpa using (l219_0).symm
   refine bZ (g := 204) rfl rfl rfl Tryz.call204 [] [(0,0)] rfl rfl rfl rfl (iX.of2 (ir.cons (mV.own rfl) (ir.cons (mV.of_eq rfl) (ir.cons (mV.of_eq rfl) (ir.cons (mV.of_eq rfl) (ir.cons (mV.of_eq rfl) ir.nil)))))) (by rw [bQ,bH,bP]; rfl) s219 ?_
   rintro u219 H219h ⟨rfl,rfl⟩
   refine ⟨_,rfl,?_⟩
   refine cy (st' := ⟨_,_,fun _=>none,upd (fun _=>none) 0 (some ⟨g_data,51,(x219.map (ak 53 ab)),true⟩)⟩) (Gh.le (bM _ _) ai (aA ah)) ?_
   refine ag ?_
   obtain rfl := ao H
   refine dG (st' := ⟨220,fun _=>.any,fun _=>none,upd (fun _=>none) 0 (some ⟨g_data,51,(x219.map (ak 53 ab)),true⟩)⟩) (Gh.le al ai (aA ah)) ?_
   refine iG rfl (PLe.q rfl) ⟨rfl,rfl⟩
  refine av ?_
  obtain rfl := ao H
  refine dG (st' := ⟨220,fun _=>.any,fun _=>none,upd (fun _=>none) 0 (some ⟨g_data,51,(t22.map (ak 53 ab)),true⟩)⟩) (Gh.le al ai (aA ah)) ?_
  refine iG rfl (PLe.q rfl) ⟨rfl,rfl⟩
 refine am 4 tk rfl (ag (bD rfl (av ?_)))
 obtain rfl := ao H
 refine dG (st' := ⟨220,fun _=>.any,fun _=>none,upd (fun _=>none) 0 (some ⟨g_data,51,(t22.map (ak 53 ab)),true⟩)⟩) (Gh.le al ai (aA ah)) ?_
 refine iG rfl (PLe.q rfl) ⟨rfl,rfl⟩
def bE : Nat → Rz → Int → Int → Int → (Rq → Rq → Option (Int)) → Option (Rz)
 | 0,_,_,_,_,_=>none
 | n + 1,v0,v1,v2,v3,v4=>cS (fun b0 b1 b2 b3=>bE n b0 b1 b2 b3 v4) v0 v1 v2 v3 v4
theorem kV {g_cmp : FuncId} {caps_cmp : List PV} (cmp : Rq → Rq → Option (Int)) (hg_cmp : ∀ (vs : Array Value) (w : World),(callFunc g_cmp vs).run Tryz.prog w = .ok (.enter g_cmp vs) w) (hp_cmp : ∀ a0 a1 r,cmp a0 a1 = some r → aV Tryz.prog g_cmp ((.list 53 (a0.map ab)) :: (.list 53 (a1.map ab)) :: caps_cmp) (ae r)) (n : Nat) : (∀ g0 a0 a1 a2 a3 r,bE n a0 a1 a2 a3 cmp = some r → PH Tryz.prog 204 [(.own 0 g0 (a0.map (ak 53 ab)).length),(ae a1),(ae a2),(ae a3),(.fn g_cmp caps_cmp)] ⟨fun _=>none,upd (fun _=>none) 0 (some ⟨g0,51,(a0.map (ak 53 ab)),true⟩)⟩ (fun u H=>u = (.tup []) ∧ H = ⟨fun _=>none,upd (fun _=>none) 0 (some ⟨g0,51,(r.map (ak 53 ab)),true⟩)⟩)) := by
 induction n with
 | zero=>exact (by intros; rename_i h; exact absurd (show (none : Option _) = some _ from h) (by simp))
 | succ n ih =>
  exact (fun g0 v0 v1 v2 v3 r h=>kU g0 (fun b0 b1 b2 b3=>bE n b0 b1 b2 b3 cmp) ih v0 v1 v2 v3 cmp hg_cmp hp_cmp r h)
def eY (data : Rz) (a : Int) (m : Int) (b : Int) (cmp : Rq → Rq → Option (Int)) : Option (Rz) := iK fun n=>bE n data a m b cmp
theorem jh (g_data : OwnRef) {g_cmp : FuncId} {caps_cmp : List PV} (data : Rz) (a : Int) (m : Int) (b : Int) (cmp : Rq → Rq → Option (Int)) (hg_cmp : ∀ (vs : Array Value) (w : World),(callFunc g_cmp vs).run Tryz.prog w = .ok (.enter g_cmp vs) w) (hp_cmp : ∀ a0 a1 r,cmp a0 a1 = some r → aV Tryz.prog g_cmp ((.list 53 (a0.map ab)) :: (.list 53 (a1.map ab)) :: caps_cmp) (ae r)) (r : Rz) (H : eY data a m b cmp = some r) :
  PH Tryz.prog 204 [(.own 0 g_data (data.map (ak 53 ab)).length),(ae a),(ae m),(ae b),(.fn g_cmp caps_cmp)] ⟨fun _=>none,upd (fun _=>none) 0 (some ⟨g_data,51,(data.map (ak 53 ab)),true⟩)⟩ (fun u H=>u = (.tup []) ∧ H = ⟨fun _=>none,upd (fun _=>none) 0 (some ⟨g_data,51,(r.map (ak 53 ab)),true⟩)⟩) := by
 obtain ⟨n,h⟩ := jv H
 exact (kV cmp hg_cmp hp_cmp n) g_data data a m b r h
def fw (t : LTable) : Option (Int) :=
 aj (fP t.name) fun x11 =>
 cond (!x11)
  (some 23)
  (cond ((t.columns.length : Int) == (0 : Int))
   (some 3)
   (cond (decide ((t.columns.length : Int) > (6 : Int)))
    (some 2)
    (aj (ba (σ := Unit) (ρ := (Int)) (fun (j1 : Nat) (x1 : LCol) (_ : Unit) =>
     aj (fP x1.name) fun x31 =>
     cond (!x31)
      (some (.ret 23))
      (aj (gq t x1.name) fun x37 =>
      cond (decide (x37.1 < (j1 : Int)))
       (some (.ret 5))
       (cond (decide (x1.kind < (1 : Int)))
        (some (.ret 7))
        (cond (decide (x1.kind > (3 : Int)))
         (some (.ret 7))
         (some (.next ())))))) 0 t.columns ()) fun fl1=>fl1.thenR fun (_ : Unit) =>
    aj (ba (σ := Unit) (ρ := (Int)) (fun (j2 : Nat) (x2 : Int) (_ : Unit) =>
     cond (decide (x2 < (0 : Int)))
      (some (.ret 9))
      (cond (decide (x2 ≥ (t.columns.length : Int)))
       (some (.ret 9))
       (aj (aF t.columns x2) fun (x73 : LCol) =>
       cond x73.nullable
        (some (.ret 9))
        (cond (decide ((j2 : Int) > (0 : Int)))
         (aj (aF t.primaryKey (IntKind.i64.wrap ((j2 : Int) - (1 : Int)))) fun (x86 : Int) =>
         cond (decide (x2 ≤ x86))
          (some (.ret 9))
          (some (.next ())))
         (some (.next ())))))) 0 t.primaryKey ()) fun fl2=>fl2.thenR fun (_ : Unit) =>
    cond ((t.primaryKey.length : Int) == (0 : Int))
     (some 9)
     (some 0))))
theorem oR (t : LTable) (r : Int) (H : fw t = some r) :
  aV Tryz.prog 98 [(.agg (bu t))] (ae r) := by
 unfold fw at H
 refine PH.aC Tryz.func98 Tryz.ntmps98 ?_
 refine ac (af (aT ?_))
 refine aq tk rfl (ag (ac (ac (af (am 2 tk rfl ?_)))))
 obtain ⟨x11,h11,H⟩ := ax H
 have s11 := mG t.name _ h11
 refine au Tryz.call143 (iX.r) s11 ?_
 refine aq tk rfl (ag ?_)
 refine aP rfl H (fun H=>?_) (fun H=>?_)
 ·refine aw 1 tk rfl ?_
  obtain rfl := ao H
  refine aB tk rfl (ps := [(ae 23)]) ⟨_,_,rfl,rfl,rfl⟩ (PLe.q rfl)
 refine av (ac (ac (af (am 2 tk rfl (aM tk (zl _) ?_)))))
 refine aq tk rfl (ag ?_)
 refine aP rfl H (fun H=>?_) (fun H=>?_)
 ·refine aw 1 tk rfl ?_
  obtain rfl := ao H
  refine aB tk rfl (ps := [(ae 3)]) ⟨_,_,rfl,rfl,rfl⟩ (PLe.q rfl)
 refine av (ac (ac (af (am 2 tk rfl (aM tk (zl _) ?_)))))
 refine aq tk rfl (ag ?_)
 refine aP rfl H (fun H=>?_) (fun H=>?_)
 ·refine aw 1 tk rfl ?_
  obtain rfl := ao H
  refine aB tk rfl (ps := [(ae 2)]) ⟨_,_,rfl,rfl,rfl⟩ (PLe.q rfl)
 refine av (ac (ac (af (am 2 tk rfl (aM tk (zl _) ?_)))))
 refine aq tk rfl (ag ?_)
 obtain ⟨fl1,H1,Hp1⟩ := ax H
 refine bS tk 22 rfl rfl (fun hz1 _=>?_)
 rw [zl] at hz1
 refine aZ (τ := Unit) (γ := Unit) (fun s1 g1=>⟨96,upd (fun _=>.any) 1 (.ptr [(.str t.name),(.list 50 (t.columns.map aG)),(.list 3 (t.primaryKey.map bG))]),fun _=>none,fun _=>none⟩) (fun t=>fl1 = .next t) ?_ (fun s1 g1 hn1=>?_)
 ·refine az ?_
  refine bA (fun j1 s1 g1=>⟨96,upd (upd (upd (upd (fun _=>.any) 24 (ae (j1 : Int))) 23 (ae (t.columns.length : Int))) 22 (.list 50 (t.columns.map aG))) 1 (.ptr [(.str t.name),(.list 50 (t.columns.map aG)),(.list 3 (t.primaryKey.map bG))]),fun _=>none,fun _=>none⟩) () H1 (Gh.le (aa (aa (aa (aa al)))) ai ah) (fun j1 s1 g1 hj1 hr1=>?_)
  refine aw 1 tk rfl (ac ?_)
  refine aX rfl (fun h=>?_) (fun h=>?_)
  ·have hl1 := cn h
   obtain ⟨x1,fb1,hx1,H,hg1⟩ := rMc hl1 hr1
   refine av (ac (az (ac (af (aq tk rfl ?_)))))
   refine bs tk (zn j1) (bO (fun _=>rfl) hx1) ?_
   refine aq tk rfl ?_
   refine bt tk fun b4=>?_
   refine aq tk rfl (aD tk ?_)
   refine ag (ac (ac (af (aq tk rfl (aN tk ?_)))))
   obtain ⟨x31,h31,H⟩ := ax H
   have s31 := mG x1.name _ h31
   refine au Tryz.call143 (iX.r) s31 ?_
   refine aq tk rfl (ag ?_)
   refine aP rfl H (fun H=>?_) (fun H=>?_)
   ·refine aw 1 tk rfl ?_
    obtain rfl := ao H
    have e1 : fl1 = .ret _ := hg1
    subst e1
    obtain rfl := bm Hp1
    refine aB tk rfl (ps := [(ae 23)]) ⟨_,_,rfl,rfl,rfl⟩ (PLe.q rfl)
   refine av (ac (ac (af (am 2 tk rfl (aN tk ?_)))))
   obtain ⟨x37,h37,H⟩ := ax H
   have s37 := ql t x1.name _ h37
   refine au Tryz.call144 (iX.r) s37 ?_
   refine am 5 tk rfl (ag (aw 3 tk rfl ?_))
   refine aP rfl H (fun H=>?_) (fun H=>?_)
   ·refine aw 1 tk rfl ?_
    obtain rfl := ao H
    have e1 : fl1 = .ret _ := hg1
    subst e1
    obtain rfl := bm Hp1
    refine aB tk rfl (ps := [(ae 5)]) ⟨_,_,rfl,rfl,rfl⟩ (PLe.q rfl)
   refine av (ac (af (aq tk rfl (aN tk ?_))))
   refine am 2 tk rfl ?_
   refine bF rfl rfl rfl H (fun H=>?_) (fun H=>?_)
   ·refine am 4 tk rfl (ag (ct rfl (aw 1 tk rfl ?_)))
    obtain rfl := ao H
    have e1 : fl1 = .ret _ := hg1
    subst e1
    obtain rfl := bm Hp1
    refine aB tk rfl (ps := [(ae 7)]) ⟨_,_,rfl,rfl,rfl⟩ (PLe.q rfl)
   refine aq tk rfl (aN tk ?_)
   refine am 2 tk rfl (ag ?_)
   refine aP rfl H (fun H=>?_) (fun H=>?_)
   ·refine aw 1 tk rfl ?_
    obtain rfl := ao H
    have e1 : fl1 = .ret _ := hg1
    subst e1
    obtain rfl := bm Hp1
    refine aB tk rfl (ps := [(ae 7)]) ⟨_,_,rfl,rfl,rfl⟩ (PLe.q rfl)
   refine av (aR (bi 2 tk rfl ?_))
   obtain rfl := ao H
   refine aL () () ⟨hl1,hg1⟩ (Gh.le (aa (aa (aa (aH (PLe.q (aU (by omega))) al)))) ai ah)
  have hn1 := rMd (co h) hr1
  refine aQ rfl ?_
  refine aO s1 g1 hn1 (Gh.le (aa al) ai ah)
 have H := ck hn1 Hp1
 refine ac (ac (af (am 2 tk rfl (aM tk (zl _) ?_))))
 refine aq tk rfl (ag ?_)
 obtain ⟨fl2,H2,Hp2⟩ := ax H
 refine bS tk 53 rfl rfl (fun hz2 _=>?_)
 rw [zl] at hz2
 refine aZ (τ := Unit) (γ := Unit) (fun s2 g2=>⟨96,upd (fun _=>.any) 1 (.ptr [(.str t.name),(.list 50 (t.columns.map aG)),(.list 3 (t.primaryKey.map bG))]),fun _=>none,fun _=>none⟩) (fun t=>fl2 = .next t) ?_ (fun s2 g2 hn2=>?_)
 ·refine az ?_
  refine bA (fun j2 s2 g2=>⟨96,upd (upd (upd (upd (fun _=>.any) 55 (ae (j2 : Int))) 54 (ae (t.primaryKey.length : Int))) 53 (.list 3 (t.primaryKey.map bG))) 1 (.ptr [(.str t.name),(.list 50 (t.columns.map aG)),(.list 3 (t.primaryKey.map bG))]),fun _=>none,fun _=>none⟩) () H2 (Gh.le (aa (aa (aa (aa al)))) ai ah) (fun j2 s2 g2 hj2 hr2=>?_)
  refine aw 1 tk rfl (ac ?_)
  refine aX rfl (fun h=>?_) (fun h=>?_)
  ·have hl2 := cn h
   obtain ⟨x2,fb2,hx2,H,hg2⟩ := rMc hl2 hr2
   refine av (ac (az (ac (af (aq tk rfl ?_)))))
   refine bs tk (zn j2) (bO (fun _=>rfl) hx2) ?_
   refine am 3 tk rfl (ag (ac (af (am 3 tk rfl ?_))))
   refine bF rfl rfl rfl H (fun H=>?_) (fun H=>?_)
   ·refine am 28 tk rfl (ag (ct rfl (aw 1 tk rfl ?_)))
    obtain rfl := ao H
    have e2 : fl2 = .ret _ := hg2
    subst e2
    obtain rfl := bm Hp2
    refine aB tk rfl (ps := [(ae 9)]) ⟨_,_,rfl,rfl,rfl⟩ (PLe.q rfl)
   refine am 3 tk rfl (aM tk (zl _) ?_)
   refine am 3 tk rfl ?_
   refine bF rfl rfl rfl H (fun H=>?_) (fun H=>?_)
   ·refine am 21 tk rfl (ag (ct rfl (aw 1 tk rfl ?_)))
    obtain rfl := ao H
    have e2 : fl2 = .ret _ := hg2
    subst e2
    obtain rfl := bm Hp2
    refine aB tk rfl (ps := [(ae 9)]) ⟨_,_,rfl,rfl,rfl⟩ (PLe.q rfl)
   refine am 3 tk rfl ?_
   obtain ⟨x73,k73,H⟩ := aY H
   refine bs tk k73.1 (aI (fun _=>rfl) k73.2) ?_
   refine am 4 tk rfl ?_
   refine bF rfl rfl rfl H (fun H=>?_) (fun H=>?_)
   ·refine am 13 tk rfl (ag (ct rfl (aw 1 tk rfl ?_)))
    obtain rfl := ao H
    have e2 : fl2 = .ret _ := hg2
    subst e2
    obtain rfl := bm Hp2
    refine aB tk rfl (ps := [(ae 9)]) ⟨_,_,rfl,rfl,rfl⟩ (PLe.q rfl)
   refine am 3 tk rfl ?_
   refine bF rfl rfl rfl H (fun H=>?_) (fun H=>?_)
   ·refine am 5 tk rfl ?_
    obtain ⟨x86,k86,H⟩ := aY H
    refine bs tk k86.1 (aI (fun _=>rfl) k86.2) ?_
    refine am 4 tk rfl (ag ?_)
    refine aP rfl H (fun H=>?_) (fun H=>?_)
    ·refine aw 1 tk rfl ?_
     obtain rfl := ao H
     have e2 : fl2 = .ret _ := hg2
     subst e2
     obtain rfl := bm Hp2
     refine aB tk rfl (ps := [(ae 9)]) ⟨_,_,rfl,rfl,rfl⟩ (PLe.q rfl)
    refine av (aR (bi 2 tk rfl ?_))
    obtain rfl := ao H
    refine aL () () ⟨hl2,hg2⟩ (Gh.le (aa (aa (aa (aH (PLe.q (aU (by omega))) al)))) ai ah)
   refine am 10 tk rfl (ag (bD rfl (av (aR (bi 2 tk rfl ?_)))))
   obtain rfl := ao H
   refine aL () () ⟨hl2,hg2⟩ (Gh.le (aa (aa (aa (aH (PLe.q (aU (by omega))) al)))) ai ah)
  have hn2 := rMd (co h) hr2
  refine aQ rfl ?_
  refine aO s2 g2 hn2 (Gh.le (aa al) ai ah)
 have H := ck hn2 Hp2
 refine ac (ac (af (am 2 tk rfl (aM tk (zl _) ?_))))
 refine aq tk rfl (ag ?_)
 refine aP rfl H (fun H=>?_) (fun H=>?_)
 ·refine aw 1 tk rfl ?_
  obtain rfl := ao H
  refine aB tk rfl (ps := [(ae 9)]) ⟨_,_,rfl,rfl,rfl⟩ (PLe.q rfl)
 refine av (aw 1 tk rfl ?_)
 obtain rfl := ao H
 refine aB tk rfl (ps := [(ae 0)]) ⟨_,_,rfl,rfl,rfl⟩ (PLe.q rfl)
def eR (sA : LSchema) (fk : LForeignKey) : Option (Int) :=
 aj (fS sA fk.table) fun x17 =>
 aj (fS sA fk.refTable) fun x24 =>
 bn (
  cond (!x17.2)
   (true)
   ((!x24.2))) fun (t1 : Bool) =>
 cond t1
  (some 4)
  (aj (aF sA.tables x17.1) fun (x36 : LTable) =>
  aj (aF sA.tables x24.1) fun (x41 : LTable) =>
  cond ((fk.columns.length : Int) != (x41.primaryKey.length : Int))
   (some 3)
   (aj (ba (σ := Unit) (ρ := (Int)) (fun (j2 : Nat) (x2 : Int) (_ : Unit) =>
    bn (
     cond (decide (x2 < (0 : Int)))
      (true)
      ((decide (x2 ≥ (x36.columns.length : Int))))) fun (t4 : Bool) =>
    cond t4
     (some (.ret 3))
     (aj (aF x36.columns x2) fun (x70 : LCol) =>
     aj (aF x41.primaryKey (j2 : Int)) fun (x78 : Int) =>
     aj (aF x41.columns x78) fun (x80 : LCol) =>
     cond (x70.kind != x80.kind)
      (some (.ret 7))
      (some (.next ())))) 0 fk.columns ()) fun fl2=>fl2.thenR fun (_ : Unit) =>
   some 0))
theorem mM (sA : LSchema) (fk : LForeignKey) (r : Int) (H : eR sA fk = some r) :
  aV Tryz.prog 99 [(.agg (eh sA)),(.agg (cz fk))] (ae r) := by
 unfold eR at H
 refine PH.aC Tryz.func99 Tryz.ntmps99 ?_
 refine ac (af (aT ?_))
 refine aT ?_
 refine aq tk rfl (ag (ac (af (am 3 tk rfl ?_))))
 obtain ⟨x17,h17,H⟩ := ax H
 have s17 := kC sA fk.table _ h17
 refine au Tryz.call145 (iX.r) s17 ?_
 refine am 5 tk rfl (ag (ac (af (am 3 tk rfl ?_))))
 obtain ⟨x24,h24,H⟩ := ax H
 have s24 := kC sA fk.refTable _ h24
 refine au Tryz.call145 (iX.r) s24 ?_
 refine am 5 tk rfl (ag (ac (ac ?_)))
 obtain ⟨fl1,H1,Hp1⟩ := bJ H
 refine aZ (τ := Bool) (γ := Unit) (fun t1 g1=>⟨85,upd (upd (upd (upd (upd (fun _=>.any) 32 (aE t1)) 7 (ae x24.1)) 5 (ae x17.1)) 3 (.ptr [(.str fk.table),(.list 3 (fk.columns.map bG)),(.str fk.refTable)])) 2 (.ptr [(.list 91 (sA.tables.map bu)),(.list 142 (sA.foreignKeys.map cz)),(.list 148 (sA.constraints.map cG))]),fun _=>none,fun _=>none⟩) (fun t=>t = fl1) ?_ (fun t1 g1 hn1=>?_)
 ·have H := H1
  refine af (am 3 tk rfl ?_)
  refine bF rfl rfl rfl H (fun H=>?_) (fun H=>?_)
  ·refine am 3 tk rfl (ag ?_)
   subst H
   refine aO true () rfl (Gh.le (aa (aa (aa (aa (aa al))))) ai ah)
  refine am 3 tk rfl (ag ?_)
  subst H
  refine aO (!x24.2) () rfl (Gh.le (aa (aa (aa (aa (aa al))))) ai ah)
 subst hn1
 have H := Hp1
 refine aP rfl H (fun H=>?_) (fun H=>?_)
 ·refine aw 1 tk rfl ?_
  obtain rfl := ao H
  refine aB tk rfl (ps := [(ae 4)]) ⟨_,_,rfl,rfl,rfl⟩ (PLe.q rfl)
 refine av (ac (bj tk mok ⟨false,false,[]⟩ [0,1,2,3,4,5,6,7,8,9,10,11,12,13] rfl (by decide +kernel) rfl (aK 3 rfl ?_)))
 obtain ⟨x36,k36,H⟩ := aY H
 refine cg k36.1 (aI (fun _=>rfl) k36.2) ?_
 refine aK 4 rfl ?_
 obtain ⟨x41,k41,H⟩ := aY H
 refine cg k41.1 (aI (fun _=>rfl) k41.2) ?_
 refine cC rfl ?_
 refine pM rfl rfl rfl rfl rfl rfl rfl rfl fun b9=>?_
 refine pM rfl rfl rfl rfl rfl rfl rfl rfl fun b10=>?_
 refine dX ?_
 refine dX ?_
 refine bf (ac (ac (af (am 2 tk rfl (aM tk (zl _) ?_)))))
 refine aq tk rfl (aN tk ?_)
 refine aM tk (zl _) ?_
 refine aq tk rfl (ag ?_)
 refine aP rfl H (fun H=>?_) (fun H=>?_)
 ·refine aw 1 tk rfl ?_
  obtain rfl := ao H
  refine aB tk rfl (ps := [(ae 3)]) ⟨_,_,rfl,rfl,rfl⟩ (PLe.q rfl)
 refine av (ac (ac (af (am 2 tk rfl (aM tk (zl _) ?_)))))
 refine aq tk rfl (ag ?_)
 obtain ⟨fl2,H2,Hp2⟩ := ax H
 refine bS tk 51 rfl rfl (fun hz2 _=>?_)
 rw [zl] at hz2
 refine aZ (τ := Unit) (γ := Unit) (fun s2 g2=>⟨85,fun _=>.any,fun _=>none,fun _=>none⟩) (fun t=>fl2 = .next t) ?_ (fun s2 g2 hn2=>?_)
 ·refine az ?_
  refine bA (fun j2 s2 g2=>⟨85,upd (upd (upd (upd (upd (fun _=>.any) 53 (ae (j2 : Int))) 52 (ae (fk.columns.length : Int))) 51 (.list 3 (fk.columns.map bG))) 10 (.box 10 b10 0)) 9 (.box 9 b9 0),upd (upd (fun _=>none) 10 (some ⟨b10,[(.str x41.name),(.list 50 (x41.columns.map aG)),(.list 3 (x41.primaryKey.map bG))]⟩)) 9 (some ⟨b9,[(.str x36.name),(.list 50 (x36.columns.map aG)),(.list 3 (x36.primaryKey.map bG))]⟩),fun _=>none⟩) () H2 (Gh.le (aa (aa (aa (aa (aa al))))) (ay rfl (iX.r) (ay rfl (iX.r) ai)) ah) (fun j2 s2 g2 hj2 hr2=>?_)
  refine aw 1 tk rfl (ac ?_)
  refine aX rfl (fun h=>?_) (fun h=>?_)
  ·have hl2 := cn h
   obtain ⟨x2,fb2,hx2,H,hg2⟩ := rMc hl2 hr2
   refine av (ac (az (ac (af (aq tk rfl ?_)))))
   refine bs tk (zn j2) (bO (fun _=>rfl) hx2) ?_
   refine am 3 tk rfl (ag (ac (ac ?_)))
   obtain ⟨fl4,H4,Hp4⟩ := bJ H
   refine aZ (τ := Bool) (γ := Unit) (fun t4 g4=>⟨85,upd (upd (upd (upd (upd (upd (upd (upd (fun _=>.any) 66 (aE t4)) 53 (ae (j2 : Int))) 52 (ae (fk.columns.length : Int))) 51 (.list 3 (fk.columns.map bG))) 12 (ae x2)) 11 (ae (j2 : Int))) 10 (.box 10 b10 0)) 9 (.box 9 b9 0),upd (upd (fun _=>none) 10 (some ⟨b10,[(.str x41.name),(.list 50 (x41.columns.map aG)),(.list 3 (x41.primaryKey.map bG))]⟩)) 9 (some ⟨b9,[(.str x36.name),(.list 50 (x36.columns.map aG)),(.list 3 (x36.primaryKey.map bG))]⟩),fun _=>none⟩) (fun t=>t = fl4) ?_ (fun t4 g4 hn4=>?_)
   ·have H := H4
    refine af (am 3 tk rfl ?_)
    refine bF rfl rfl rfl H (fun H=>?_) (fun H=>?_)
    ·refine am 6 tk rfl (ag ?_)
     subst H
     refine aO true () rfl (Gh.le (aa (aa (aa (aa (aa (aa (aa (aa al)))))))) (ay rfl (iX.r) (ay rfl (iX.r) ai)) ah)
    refine am 2 tk rfl (aN tk ?_)
    refine aM tk (zl _) ?_
    refine am 2 tk rfl (ag ?_)
    subst H
    refine aO (decide (x2 ≥ (x36.columns.length : Int))) () rfl (Gh.le (aa (aa (aa (aa (aa (aa (aa (aa al)))))))) (ay rfl (iX.r) (ay rfl (iX.r) ai)) ah)
   subst hn4
   have H := Hp4
   refine aP rfl H (fun H=>?_) (fun H=>?_)
   ·refine aw 1 tk rfl ?_
    obtain rfl := ao H
    have e2 : fl2 = .ret _ := hg2
    subst e2
    obtain rfl := bm Hp2
    refine aB tk rfl (ps := [(ae 3)]) ⟨_,_,rfl,rfl,rfl⟩ (PLe.q rfl)
   refine av (ac (bj tk mok ⟨true,false,[72,79,82]⟩ [0,1,2,3,4,5,6,7,8,9,10,11,12,13,14,15,16] rfl (by decide +kernel) rfl (cC rfl (cF ?_))))
   refine cC rfl ?_
   obtain ⟨x70,k70,H⟩ := aY H
   refine cg k70.1 (aI (fun _=>rfl) k70.2) ?_
   refine aK 3 rfl (cF ?_)
   refine cC rfl (cF ?_)
   refine cC rfl ?_
   obtain ⟨x78,k78,H⟩ := aY H
   refine cg k78.1 (aI (fun _=>rfl) k78.2) ?_
   refine cC rfl ?_
   obtain ⟨x80,k80,H⟩ := aY H
   refine cg k80.1 (aI (fun _=>rfl) k80.2) ?_
   refine aK 3 rfl (bf ?_)
   refine aP rfl H (fun H=>?_) (fun H=>?_)
   ·refine aw 1 tk rfl ?_
    obtain rfl := ao H
    have e2 : fl2 = .ret _ := hg2
    subst e2
    obtain rfl := bm Hp2
    refine aB tk rfl (ps := [(ae 7)]) ⟨_,_,rfl,rfl,rfl⟩ (PLe.q rfl)
   refine av (aR (bi 2 tk rfl ?_))
   obtain rfl := ao H
   refine aL () () ⟨hl2,hg2⟩ (Gh.le (aa (aa (aa (aa (aH (PLe.q (aU (by omega))) al))))) (ay rfl (iX.r) (ay rfl (iX.r) ai)) ah)
  have hn2 := rMd (co h) hr2
  refine aQ rfl ?_
  refine aO s2 g2 hn2 (Gh.le al ai ah)
 have H := ck hn2 Hp2
 refine aw 1 tk rfl ?_
 obtain rfl := ao H
 refine aB tk rfl (ps := [(ae 0)]) ⟨_,_,rfl,rfl,rfl⟩ (PLe.q rfl)
def gk (other : LForeignKey) (c0 : LForeignKey) : Option (Bool) :=
 aj (gI other c0) fun x6 =>
 some x6
theorem qg (other : LForeignKey) (c0 : LForeignKey) (r : Bool) (H : gk other c0 = some r) :
  aV Tryz.prog 101 [(.agg (cz other)),(.ptr (cz c0))] (aE r) := by
 unfold gk at H
 refine PH.aC Tryz.func101 Tryz.ntmps101 ?_
 refine ac (af (aT ?_))
 refine aq tk rfl (ag (ac (af (am 2 tk rfl ?_))))
 obtain ⟨x6,h6,H⟩ := ax H
 have s6 := nn other c0 _ h6
 refine au Tryz.call102 (iX.r) s6 ?_
 refine aq tk rfl (ag ?_)
 obtain rfl := ao H
 refine aB tk rfl (ps := [(aE x6)]) ⟨_,_,rfl,rfl,rfl⟩ (PLe.q rfl)
def fX (length : Int) : Option (Int) :=
 aj (iv (IntKind.u64.wrap length)) fun x5 =>
 aj (shlI .u64 (1 : Int) x5) fun (x6 : Int) =>
 some x6
theorem ol (length : Int) (r : Int) (H : fX length = some r) :
  aV Tryz.prog 161 [(ae length)] (.val (.int .u64 r)) := by
 unfold fX at H
 refine PH.aC Tryz.func161 Tryz.ntmps161 ?_
 refine aw 1 tk rfl (ac (af (am 2 tk rfl ?_)))
 obtain ⟨x5,h5,H⟩ := ax H
 have s5 := oq (IntKind.u64.wrap length) _ h5
 refine au Tryz.call93 (iX.r) s5 ?_
 obtain ⟨x6,h6,H⟩ := ax H
 refine Ao.shl rfl rfl rfl rfl h6 rfl (aq tk rfl (ag ?_))
 obtain rfl := ao H
 refine aB tk rfl (ps := [(.val (.int .u64 x6))]) ⟨_,_,rfl,rfl,rfl⟩ (PLe.q rfl)
def cx (data : Rz) (a : Int) (swaps : Int) (cmp : Rq → Rq → Option (Int)) : Option (Int × Rz × Int) :=
 aj (dK data (IntKind.i64.wrap (a - (1 : Int))) a (IntKind.i64.wrap (a + (1 : Int))) swaps cmp) fun x17 =>
 aj (cB (x17.2.1.length = data.length) ()) fun (_ : Unit) =>
 some (x17.1,x17.2.1,x17.2.2)
theorem fB (g_data : OwnRef) (b_swaps : Nat) {g_cmp : FuncId} {caps_cmp : List PV} (data : Rz) (a : Int) (swaps : Int) (cmp : Rq → Rq → Option (Int)) (hg_cmp : ∀ (vs : Array Value) (w : World),(callFunc g_cmp vs).run Tryz.prog w = .ok (.enter g_cmp vs) w) (hp_cmp : ∀ a0 a1 r,cmp a0 a1 = some r → aV Tryz.prog g_cmp ((.list 53 (a0.map ab)) :: (.list 53 (a1.map ab)) :: caps_cmp) (ae r)) (r : Int × Rz × Int) (H : cx data a swaps cmp = some r) :
  PH Tryz.prog 163 [(.own 0 g_data (data.map (ak 53 ab)).length),(ae a),(.box 1502 b_swaps 0),(.fn g_cmp caps_cmp)] ⟨upd (fun _=>none) 1502 (some ⟨b_swaps,[(ae swaps)]⟩),upd (fun _=>none) 0 (some ⟨g_data,51,(data.map (ak 53 ab)),true⟩)⟩ (fun u H=>u = (ae r.1) ∧ H = ⟨upd (fun _=>none) 1502 (some ⟨b_swaps,[(ae r.2.2)]⟩),upd (fun _=>none) 0 (some ⟨g_data,51,(r.2.1.map (ak 53 ab)),true⟩)⟩) := by
 unfold cx at H
 refine PH.aC Tryz.func163 Tryz.ntmps163 ?_
 refine aw 1 tk rfl (ac (af (am 8 tk rfl ?_)))
 obtain ⟨x17,h17,H⟩ := ax H
 have s17 := jD g_data b_swaps data (IntKind.i64.wrap (a - (1 : Int))) a (IntKind.i64.wrap (a + (1 : Int))) swaps cmp hg_cmp hp_cmp _ h17
 obtain ⟨_,q17_0,H⟩ := ax H
 have l17_0 := (bB q17_0).1
 have z17_0 : (List.map (ak 53 ab) data).length = (List.map (ak 53 ab) x17.2.1).length := by simpa using (l17_0).symm
 refine bZ (g := 164) rfl rfl rfl Tryz.call164 [(1502,1504)] [(0,0)] rfl rfl rfl rfl (iX.of2 (ir.cons (mV.own rfl) (ir.cons (mV.of_eq rfl) (ir.cons (mV.of_eq rfl) (ir.cons (mV.of_eq rfl) (ir.cons mV.boxT (ir.cons (mV.of_eq rfl) ir.nil))))))) (by rw [dw,bQ,bH,bP]; rfl) s17 ?_
 rintro u17 H17h ⟨rfl,rfl⟩
 refine ⟨_,rfl,?_⟩
 refine cy (st' := ⟨_,_,upd (fun _=>none) 1502 (some ⟨b_swaps,[(ae x17.2.2)]⟩),upd (fun _=>none) 0 (some ⟨g_data,51,(x17.2.1.map (ak 53 ab)),true⟩)⟩) (Gh.le (bM _ _) (ay rfl (iX.r) ai) (aA ah)) ?_
 refine aq tk rfl (ag ?_)
 obtain rfl := ao H
 refine dG (st' := ⟨18,upd (fun _=>.any) 8 (ae x17.1),upd (fun _=>none) 1502 (some ⟨b_swaps,[(ae x17.2.2)]⟩),upd (fun _=>none) 0 (some ⟨g_data,51,(x17.2.1.map (ak 53 ab)),true⟩)⟩) (Gh.le (aa al) (ay rfl (iX.r) ai) (aA ah)) ?_
 refine eP tk rfl (ps := [(ae x17.1)]) ⟨_,_,rfl,rfl,rfl⟩ (PLe.q rfl) ⟨rfl,rfl⟩
def ke (q : LQuery) : Option (Bool) :=
 aj (
  cond (decide (q.kind < (1 : Int)))
   (some true)
   (cond (decide (q.kind > (10 : Int)))
    (some true)
    (aj (aF ([(-1),0,1,1,2,2,2,2,1,1,1] : List Int) q.kind) fun (x21 : Int) =>
    some ((q.inputs.length : Int) != x21)))) fun (t1 : Bool) =>
 cond t1
  (some false)
  (aj (
   aj (dH ([1] : List Int) q) fun x29 =>
   cond (!x29)
    (some (!(q.table == ([] : List UInt8))))
    (some false)) fun (t2 : Bool) =>
  aj (
   cond t2
    (some t2)
    (aj (
     aj (dH ([3,8] : List Int) q) fun x38 =>
     cond (!x38)
      (some (decide ((q.names.length : Int) > (0 : Int))))
      (some false)) fun (t7 : Bool) =>
    cond t7
     (some t7)
     (aj (
      aj (dH ([8] : List Int) q) fun x48 =>
      cond (!x48)
       (some (decide ((q.aggregates.length : Int) > (0 : Int))))
       (some false)) fun (t8 : Bool) =>
     cond t8
      (some t8)
      (aj (
       aj (dH ([9] : List Int) q) fun x58 =>
       cond (!x58)
        (some (decide ((q.descending.length : Int) > (0 : Int))))
        (some false)) fun (t9 : Bool) =>
      cond t9
       (some t9)
       (aj (dH ([10] : List Int) q) fun x68 =>
       cond (!x68)
        (cond (q.count != (0 : Int))
         (some true)
         (some (q.offset != (0 : Int))))
        (some false)))))) fun (t6 : Bool) =>
  cond t6
   (some false)
   (aj (dH ([2,4,5] : List Int) q) fun x83 =>
   cond x83
    (some ((q.exprs.length : Int) == (1 : Int)))
    (aj (dH ([3,8] : List Int) q) fun x91 =>
    cond x91
     (cond ((q.exprs.length : Int) == (q.names.length : Int))
      (some (decide ((IntKind.i64.wrap ((q.exprs.length : Int) + (q.aggregates.length : Int))) > (0 : Int))))
      (some false))
     (aj (dH ([9] : List Int) q) fun x112 =>
     cond x112
      (cond ((q.exprs.length : Int) == (q.descending.length : Int))
       (some (decide ((q.exprs.length : Int) > (0 : Int))))
       (some false))
      (aj (dH ([10] : List Int) q) fun x129 =>
      cond x129
       (cond ((q.exprs.length : Int) == (0 : Int))
        (cond (decide (q.count ≥ (0 : Int)))
         (some (decide (q.offset ≥ (0 : Int))))
         (some false))
        (some false))
       (some ((q.exprs.length : Int) == (0 : Int))))))))
theorem W_query_shape (q : LQuery) (r : Bool) (H : ke q = some r) :
  aV Tryz.prog 110 [(.agg (bv q))] (aE r) := by
 unfold ke at H
 refine PH.aC Tryz.func110 Tryz.ntmps110 ?_
 refine ac (af (aT ?_))
 refine aq tk rfl (ag (ac (af (sm (e := 3) (rows := [[(ae (-1))],[(ae 0)],[(ae 1)],[(ae 1)],[(ae 2)],[(ae 2)],[(ae 2)],[(ae 2)],[(ae 1)],[(ae 1)],[(ae 1)]]) tk rfl rfl rfl rfl (rows' := List.map bG ([(-1),0,1,1,2,2,2,2,1,1,1] : List Int)) (by kernel_rfl) (gc.refl _) rfl rfl (aq tk rfl (ag (ac (ac ?_))))))))
 obtain ⟨fl1,H1,Hp1⟩ := ax H
 refine aZ (τ := Bool) (γ := Unit) (fun t1 g1=>⟨148,upd (upd (fun _=>.any) 24 (aE t1)) 1 (.ptr [(ae q.kind),(.str q.table),(.list 9 (q.names.map cl)),(.list 56 (q.exprs.map bd)),(.list 66 (q.aggregates.map cj)),(.list 4 (q.descending.map cA)),(ae q.count),(ae q.offset),(.list 35 (q.inputs.map aW))]),fun _=>none,fun _=>none⟩) (fun t=>t = fl1) ?_ (fun t1 g1 hn1=>?_)
 ·have H := H1
  refine bj tk mok ⟨false,false,[]⟩ [0,1,2,3,4,5,6,7,8,9,10,11,12,13,14,15,16,17,18] rfl (by decide +kernel) rfl (aK 4 rfl ?_)
  refine iq H (fun H=>?_) (fun H=>?_)
  ·refine aK 15 rfl (bf ?_)
   obtain rfl := ao H
   refine aO true () rfl (Gh.le (aa (aa al)) ai ah)
  refine aK 5 rfl ?_
  refine iq H (fun H=>?_) (fun H=>?_)
  ·refine aK 10 rfl (bf ?_)
   obtain rfl := ao H
   refine aO true () rfl (Gh.le (aa (aa al)) ai ah)
  refine aK 2 rfl (se rfl rfl rfl rfl rfl rfl (zl _) rfl (aK 3 rfl ?_))
  obtain ⟨x21,k21,H⟩ := aY H
  refine cg k21.1 (aI (fun _=>rfl) k21.2) ?_
  refine aK 3 rfl (bf ?_)
  obtain rfl := ao H
  refine aO ((q.inputs.length : Int) != x21) () rfl (Gh.le (aa (aa al)) ai ah)
 subst hn1
 have H := Hp1
 refine aP rfl H (fun H=>?_) (fun H=>?_)
 ·refine aw 1 tk rfl ?_
  obtain rfl := ao H
  refine aB tk rfl (ps := [(aE false)]) ⟨_,_,rfl,rfl,rfl⟩ (PLe.q rfl)
 refine av (aw 2 tk rfl (ac (az (ac (ac ?_)))))
 obtain ⟨fl2,H2,Hp2⟩ := ax H
 refine aZ (τ := Bool) (γ := Unit) (fun t2 g2=>⟨148,upd (upd (upd (fun _=>.any) 26 (aE t2)) 4 (.fn 151 [(.ptr [(ae q.kind),(.str q.table),(.list 9 (q.names.map cl)),(.list 56 (q.exprs.map bd)),(.list 66 (q.aggregates.map cj)),(.list 4 (q.descending.map cA)),(ae q.count),(ae q.offset),(.list 35 (q.inputs.map aW))])])) 1 (.ptr [(ae q.kind),(.str q.table),(.list 9 (q.names.map cl)),(.list 56 (q.exprs.map bd)),(.list 66 (q.aggregates.map cj)),(.list 4 (q.descending.map cA)),(ae q.count),(ae q.offset),(.list 35 (q.inputs.map aW))]),fun _=>none,fun _=>none⟩) (fun t=>t = fl2) ?_ (fun t2 g2 hn2=>?_)
 ·have H := H2
  refine af (aq tk rfl (cK tk (rows' := List.map bG ([1] : List Int)) (gc.refl _) ?_))
  obtain ⟨x29,h29,H⟩ := ax H
  have s29 := fF ([1] : List Int) q _ h29
  refine au Tryz.call151 (iX.r) s29 ?_
  refine am 2 tk rfl ?_
  refine bF rfl rfl rfl H (fun H=>?_) (fun H=>?_)
  ·refine am 5 tk rfl (ag ?_)
   obtain rfl := ao H
   refine aO (!(q.table == ([] : List UInt8))) () rfl (Gh.le (aa (aa (aa al))) ai ah)
  refine am 5 tk rfl (ag ?_)
  obtain rfl := ao H
  refine aO false () rfl (Gh.le (aa (aa (aa al))) ai ah)
 subst hn2
 have H := Hp2
 obtain ⟨fl6,H6,Hp6⟩ := ax H
 refine aZ (τ := Bool) (γ := Unit) (fun t6 g6=>⟨148,upd (upd (upd (fun _=>.any) 26 (aE t6)) 4 (.fn 151 [(.ptr [(ae q.kind),(.str q.table),(.list 9 (q.names.map cl)),(.list 56 (q.exprs.map bd)),(.list 66 (q.aggregates.map cj)),(.list 4 (q.descending.map cA)),(ae q.count),(ae q.offset),(.list 35 (q.inputs.map aW))])])) 1 (.ptr [(ae q.kind),(.str q.table),(.list 9 (q.names.map cl)),(.list 56 (q.exprs.map bd)),(.list 66 (q.aggregates.map cj)),(.list 4 (q.descending.map cA)),(ae q.count),(ae q.offset),(.list 35 (q.inputs.map aW))]),fun _=>none,fun _=>none⟩) (fun t=>t = fl6) ?_ (fun t6 g6 hn6=>?_)
 ·have H := H6
  refine aP rfl H (fun H=>?_) (fun H=>?_)
  ·refine av ?_
   obtain rfl := ao H
   refine aO t2 () rfl (Gh.le (aa (aa (aa al))) ai ah)
  refine ac ?_
  obtain ⟨fl7,H7,Hp7⟩ := ax H
  refine aZ (τ := Bool) (γ := Unit) (fun t7 g7=>⟨148,upd (upd (upd (fun _=>.any) 26 (aE t7)) 4 (.fn 151 [(.ptr [(ae q.kind),(.str q.table),(.list 9 (q.names.map cl)),(.list 56 (q.exprs.map bd)),(.list 66 (q.aggregates.map cj)),(.list 4 (q.descending.map cA)),(ae q.count),(ae q.offset),(.list 35 (q.inputs.map aW))])])) 1 (.ptr [(ae q.kind),(.str q.table),(.list 9 (q.names.map cl)),(.list 56 (q.exprs.map bd)),(.list 66 (q.aggregates.map cj)),(.list 4 (q.descending.map cA)),(ae q.count),(ae q.offset),(.list 35 (q.inputs.map aW))]),fun _=>none,fun _=>none⟩) (fun t=>t = fl7) ?_ (fun t7 g7 hn7=>?_)
  ·have H := H7
   refine af (aq tk rfl (cK tk (rows' := List.map bG ([3,8] : List Int)) (gc.refl _) ?_))
   obtain ⟨x38,h38,H⟩ := ax H
   have s38 := fF ([3,8] : List Int) q _ h38
   refine au Tryz.call151 (iX.r) s38 ?_
   refine am 2 tk rfl ?_
   refine bF rfl rfl rfl H (fun H=>?_) (fun H=>?_)
   ·refine am 2 tk rfl (aM tk (zl _) ?_)
    refine am 3 tk rfl (ag ?_)
    obtain rfl := ao H
    refine aO (decide ((q.names.length : Int) > (0 : Int))) () rfl (Gh.le (aa (aa (aa al))) ai ah)
   refine am 6 tk rfl (ag ?_)
   obtain rfl := ao H
   refine aO false () rfl (Gh.le (aa (aa (aa al))) ai ah)
  subst hn7
  have H := Hp7
  refine aP rfl H (fun H=>?_) (fun H=>?_)
  ·refine av ?_
   obtain rfl := ao H
   refine aO t7 () rfl (Gh.le (aa (aa (aa al))) ai ah)
  refine ac ?_
  obtain ⟨fl8,H8,Hp8⟩ := ax H
  refine aZ (τ := Bool) (γ := Unit) (fun t8 g8=>⟨148,upd (upd (upd (fun _=>.any) 26 (aE t8)) 4 (.fn 151 [(.ptr [(ae q.kind),(.str q.table),(.list 9 (q.names.map cl)),(.list 56 (q.exprs.map bd)),(.list 66 (q.aggregates.map cj)),(.list 4 (q.descending.map cA)),(ae q.count),(ae q.offset),(.list 35 (q.inputs.map aW))])])) 1 (.ptr [(ae q.kind),(.str q.table),(.list 9 (q.names.map cl)),(.list 56 (q.exprs.map bd)),(.list 66 (q.aggregates.map cj)),(.list 4 (q.descending.map cA)),(ae q.count),(ae q.offset),(.list 35 (q.inputs.map aW))]),fun _=>none,fun _=>none⟩) (fun t=>t = fl8) ?_ (fun t8 g8 hn8=>?_)
  ·have H := H8
   refine af (aq tk rfl (cK tk (rows' := List.map bG ([8] : List Int)) (gc.refl _) ?_))
   obtain ⟨x48,h48,H⟩ := ax H
   have s48 := fF ([8] : List Int) q _ h48
   refine au Tryz.call151 (iX.r) s48 ?_
   refine am 2 tk rfl ?_
   refine bF rfl rfl rfl H (fun H=>?_) (fun H=>?_)
   ·refine am 2 tk rfl (aM tk (zl _) ?_)
    refine am 3 tk rfl (ag ?_)
    obtain rfl := ao H
    refine aO (decide ((q.aggregates.length : Int) > (0 : Int))) () rfl (Gh.le (aa (aa (aa al))) ai ah)
   refine am 6 tk rfl (ag ?_)
   obtain rfl := ao H
   refine aO false () rfl (Gh.le (aa (aa (aa al))) ai ah)
  subst hn8
  have H := Hp8
  refine aP rfl H (fun H=>?_) (fun H=>?_)
  ·refine av ?_
   obtain rfl := ao H
   refine aO t8 () rfl (Gh.le (aa (aa (aa al))) ai ah)
  refine ac ?_
  obtain ⟨fl9,H9,Hp9⟩ := ax H
  refine aZ (τ := Bool) (γ := Unit) (fun t9 g9=>⟨148,upd (upd (upd (fun _=>.any) 26 (aE t9)) 4 (.fn 151 [(.ptr [(ae q.kind),(.str q.table),(.list 9 (q.names.map cl)),(.list 56 (q.exprs.map bd)),(.list 66 (q.aggregates.map cj)),(.list 4 (q.descending.map cA)),(ae q.count),(ae q.offset),(.list 35 (q.inputs.map aW))])])) 1 (.ptr [(ae q.kind),(.str q.table),(.list 9 (q.names.map cl)),(.list 56 (q.exprs.map bd)),(.list 66 (q.aggregates.map cj)),(.list 4 (q.descending.map cA)),(ae q.count),(ae q.offset),(.list 35 (q.inputs.map aW))]),fun _=>none,fun _=>none⟩) (fun t=>t = fl9) ?_ (fun t9 g9 hn9=>?_)
  ·have H := H9
   refine af (aq tk rfl (cK tk (rows' := List.map bG ([9] : List Int)) (gc.refl _) ?_))
   obtain ⟨x58,h58,H⟩ := ax H
   have s58 := fF ([9] : List Int) q _ h58
   refine au Tryz.call151 (iX.r) s58 ?_
   refine am 2 tk rfl ?_
   refine bF rfl rfl rfl H (fun H=>?_) (fun H=>?_)
   ·refine am 2 tk rfl (aM tk (zl _) ?_)
    refine am 3 tk rfl (ag ?_)
    obtain rfl := ao H
    refine aO (decide ((q.descending.length : Int) > (0 : Int))) () rfl (Gh.le (aa (aa (aa al))) ai ah)
   refine am 6 tk rfl (ag ?_)
   obtain rfl := ao H
   refine aO false () rfl (Gh.le (aa (aa (aa al))) ai ah)
  subst hn9
  have H := Hp9
  refine aP rfl H (fun H=>?_) (fun H=>?_)
  ·refine av ?_
   obtain rfl := ao H
   refine aO t9 () rfl (Gh.le (aa (aa (aa al))) ai ah)
  refine af (aq tk rfl (cK tk (rows' := List.map bG ([10] : List Int)) (gc.refl _) ?_))
  obtain ⟨x68,h68,H⟩ := ax H
  have s68 := fF ([10] : List Int) q _ h68
  refine au Tryz.call151 (iX.r) s68 ?_
  refine am 2 tk rfl ?_
  refine bF rfl rfl rfl H (fun H=>?_) (fun H=>?_)
  ·refine am 4 tk rfl ?_
   refine bF rfl rfl rfl H (fun H=>?_) (fun H=>?_)
   ·refine am 6 tk rfl (ag ?_)
    obtain rfl := ao H
    refine aO true () rfl (Gh.le (aa (aa (aa al))) ai ah)
   refine am 6 tk rfl (ag ?_)
   obtain rfl := ao H
   refine aO (q.offset != (0 : Int)) () rfl (Gh.le (aa (aa (aa al))) ai ah)
  refine am 10 tk rfl (ag ?_)
  obtain rfl := ao H
  refine aO false () rfl (Gh.le (aa (aa (aa al))) ai ah)
 subst hn6
 have H := Hp6
 refine aP rfl H (fun H=>?_) (fun H=>?_)
 ·refine aw 1 tk rfl ?_
  obtain rfl := ao H
  refine aB tk rfl (ps := [(aE false)]) ⟨_,_,rfl,rfl,rfl⟩ (PLe.q rfl)
 refine ac (af (aq tk rfl (cK tk (rows' := List.map bG ([2,4,5] : List Int)) (gc.refl _) ?_)))
 obtain ⟨x83,h83,H⟩ := ax H
 have s83 := fF ([2,4,5] : List Int) q _ h83
 refine au Tryz.call151 (iX.r) s83 ?_
 refine aq tk rfl (ag ?_)
 refine aP rfl H (fun H=>?_) (fun H=>?_)
 ·refine ac (af (am 2 tk rfl (aM tk (zl _) ?_)))
  refine am 2 tk rfl (ag ?_)
  obtain rfl := ao H
  refine aB tk rfl (ps := [(aE ((q.exprs.length : Int) == (1 : Int)))]) ⟨_,_,rfl,rfl,rfl⟩ (PLe.q rfl)
 refine ac (af (aq tk rfl (cK tk (rows' := List.map bG ([3,8] : List Int)) (gc.refl _) ?_)))
 obtain ⟨x91,h91,H⟩ := ax H
 have s91 := fF ([3,8] : List Int) q _ h91
 refine au Tryz.call151 (iX.r) s91 ?_
 refine aq tk rfl (ag ?_)
 refine aP rfl H (fun H=>?_) (fun H=>?_)
 ·refine ac (af (am 2 tk rfl (aM tk (zl _) ?_)))
  refine am 2 tk rfl (aM tk (zl _) ?_)
  refine am 2 tk rfl ?_
  refine bF rfl rfl rfl H (fun H=>?_) (fun H=>?_)
  ·refine am 2 tk rfl (aM tk (zl _) ?_)
   refine am 2 tk rfl (aM tk (zl _) ?_)
   refine am 4 tk rfl (ag ?_)
   obtain rfl := ao H
   refine aB tk rfl (ps := [(aE (decide ((IntKind.i64.wrap ((q.exprs.length : Int) + (q.aggregates.length : Int))) > (0 : Int))))]) ⟨_,_,rfl,rfl,rfl⟩ (PLe.q rfl)
  refine am 10 tk rfl (ag ?_)
  obtain rfl := ao H
  refine aB tk rfl (ps := [(aE false)]) ⟨_,_,rfl,rfl,rfl⟩ (PLe.q rfl)
 refine ac (af (aq tk rfl (cK tk (rows' := List.map bG ([9] : List Int)) (gc.refl _) ?_)))
 obtain ⟨x112,h112,H⟩ := ax H
 have s112 := fF ([9] : List Int) q _ h112
 refine au Tryz.call151 (iX.r) s112 ?_
 refine aq tk rfl (ag ?_)
 refine aP rfl H (fun H=>?_) (fun H=>?_)
 ·refine ac (af (am 2 tk rfl (aM tk (zl _) ?_)))
  refine am 2 tk rfl (aM tk (zl _) ?_)
  refine am 2 tk rfl ?_
  refine bF rfl rfl rfl H (fun H=>?_) (fun H=>?_)
  ·refine am 2 tk rfl (aM tk (zl _) ?_)
   refine am 3 tk rfl (ag ?_)
   obtain rfl := ao H
   refine aB tk rfl (ps := [(aE (decide ((q.exprs.length : Int) > (0 : Int))))]) ⟨_,_,rfl,rfl,rfl⟩ (PLe.q rfl)
  refine am 6 tk rfl (ag ?_)
  obtain rfl := ao H
  refine aB tk rfl (ps := [(aE false)]) ⟨_,_,rfl,rfl,rfl⟩ (PLe.q rfl)
 refine ac (af (aq tk rfl (cK tk (rows' := List.map bG ([10] : List Int)) (gc.refl _) ?_)))
 obtain ⟨x129,h129,H⟩ := ax H
 have s129 := fF ([10] : List Int) q _ h129
 refine au Tryz.call151 (iX.r) s129 ?_
 refine aq tk rfl (ag ?_)
 refine aP rfl H (fun H=>?_) (fun H=>?_)
 ·refine ac (af (am 2 tk rfl (aM tk (zl _) ?_)))
  refine am 2 tk rfl ?_
  refine bF rfl rfl rfl H (fun H=>?_) (fun H=>?_)
  ·refine am 5 tk rfl ?_
   refine bF rfl rfl rfl H (fun H=>?_) (fun H=>?_)
   ·refine am 5 tk rfl (ag ?_)
    obtain rfl := ao H
    refine aB tk rfl (ps := [(aE (decide (q.offset ≥ (0 : Int))))]) ⟨_,_,rfl,rfl,rfl⟩ (PLe.q rfl)
   refine am 5 tk rfl (ag ?_)
   obtain rfl := ao H
   refine aB tk rfl (ps := [(aE false)]) ⟨_,_,rfl,rfl,rfl⟩ (PLe.q rfl)
  refine am 10 tk rfl (ag ?_)
  obtain rfl := ao H
  refine aB tk rfl (ps := [(aE false)]) ⟨_,_,rfl,rfl,rfl⟩ (PLe.q rfl)
 refine av (aR (ac (af (am 2 tk rfl (aM tk (zl _) ?_)))))
 refine am 2 tk rfl (ag ?_)
 obtain rfl := ao H
 refine aB tk rfl (ps := [(aE ((q.exprs.length : Int) == (0 : Int)))]) ⟨_,_,rfl,rfl,rfl⟩ (PLe.q rfl)
def dP (c : LChecker) (l : List LCol) (e : LExpr) : Int :=
 bn (dn l c.vars e) fun x15 =>
 cond (x15.2.2 == (0 : Int))
  (cond (x15.1 != (2 : Int))
   (cond (x15.1 != (0 : Int))
    (7)
    (x15.2.2))
   (x15.2.2))
  (x15.2.2)
theorem kt (c : LChecker) (l : List LCol) (e : LExpr) :
  aV Tryz.prog 156 [(.agg (js c)),(.list 50 (l.map aG)),(.agg (mZ e))] (ae (dP c l e)) := by
 obtain ⟨r,H⟩ : ∃ r,dP c l e = r := ⟨_,rfl⟩
 rw [H]
 unfold dP at H
 refine PH.aC Tryz.func156 Tryz.ntmps156 ?_
 refine ac (af (aT ?_))
 refine aT ?_
 refine aq tk rfl (ag (ac (af (am 4 tk rfl ?_))))
 obtain ⟨x15,h15,H⟩ := bJ H
 have s15 := mA l c.vars e
 rw [h15] at s15
 refine au Tryz.call159 (iX.r) s15 ?_
 refine am 7 tk rfl (ag (ac (ac (af (am 3 tk rfl ?_)))))
 refine bF rfl rfl rfl H (fun H=>?_) (fun H=>?_)
 ·refine am 4 tk rfl ?_
  refine bF rfl rfl rfl H (fun H=>?_) (fun H=>?_)
  ·refine am 3 tk rfl (ag ?_)
   refine aP rfl H (fun H=>?_) (fun H=>?_)
   ·refine aw 1 tk rfl ?_
    subst H
    refine aB tk rfl (ps := [(ae 7)]) ⟨_,_,rfl,rfl,rfl⟩ (PLe.q rfl)
   refine av (aw 2 tk rfl ?_)
   subst H
   refine aB tk rfl (ps := [(ae x15.2.2)]) ⟨_,_,rfl,rfl,rfl⟩ (PLe.q rfl)
  refine am 3 tk rfl (ag (bD rfl (av (aw 2 tk rfl ?_))))
  subst H
  refine aB tk rfl (ps := [(ae x15.2.2)]) ⟨_,_,rfl,rfl,rfl⟩ (PLe.q rfl)
 refine am 7 tk rfl (ag (bD rfl (av (aw 2 tk rfl ?_))))
 subst H
 refine aB tk rfl (ps := [(ae x15.2.2)]) ⟨_,_,rfl,rfl,rfl⟩ (PLe.q rfl)
def gj (c : LChecker) (inA : List LCol) (a : LAggregateCall) : Option (Int × Int) :=
 aj (
  bn (dL a.name) fun x13 =>
  cond (!x13)
   (some true)
   (aj (dR ([[99,111,117,110,116],[115,117,109],[109,105,110],[109,97,120]] : List (List UInt8)) a.function) fun x19 =>
   cond (!x19)
    (some true)
    (cond (decide ((a.args.length : Int) > (1 : Int)))
     (some true)
     (cond (decide ((a.args.length : Int) < (1 : Int)))
      (some (!(a.function == ([99,111,117,110,116] : List UInt8))))
      (some false))))) fun (t1 : Bool) =>
 cond t1
  (some (0,3))
  (cond ((a.args.length : Int) == (0 : Int))
   (some (1,0))
   (aj (aF a.args 0) fun (x49 : LExpr) =>
   bn (dn inA c.vars x49) fun x51 =>
   cond (x51.2.2 != (0 : Int))
    (some (0,x51.2.2))
    (bn (
     cond (x51.1 == (0 : Int))
      (true)
      (cond (a.function == ([115,117,109] : List UInt8))
       ((x51.1 != (1 : Int)))
       (false))) fun (t2 : Bool) =>
    cond t2
     (some (0,7))
     (cond (a.function == ([99,111,117,110,116] : List UInt8))
      (some (1,0))
      (some (x51.1,0))))))
theorem qi (c : LChecker) (inA : List LCol) (a : LAggregateCall) (r : Int × Int) (H : gj c inA a = some r) :
  aV Tryz.prog 181 [(.agg (js c)),(.list 50 (inA.map aG)),(.agg (cj a))] (.tup [(ae r.1),(ae r.2)]) := by
 unfold gj at H
 refine PH.aC Tryz.func181 Tryz.ntmps181 ?_
 refine ac (af (aT ?_))
 refine aT ?_
 refine am 2 tk rfl (ag (ac (ac ?_)))
 obtain ⟨fl1,H1,Hp1⟩ := ax H
 refine aZ (τ := Bool) (γ := Unit) (fun t1 g1=>⟨76,upd (upd (upd (upd (fun _=>.any) 38 (aE t1)) 5 (.ptr [(.str a.name),(.str a.function),(.list 56 (a.args.map bd))])) 3 (.ptr [(.list 91 (c.s.tables.map bu)),(.list 142 (c.s.foreignKeys.map cz)),(.list 148 (c.s.constraints.map cG)),(.list 50 (c.vars.map aG))])) 1 (.list 50 (inA.map aG)),fun _=>none,fun _=>none⟩) (fun t=>t = fl1) ?_ (fun t1 g1 hn1=>?_)
 ·have H := H1
  refine af (am 2 tk rfl ?_)
  obtain ⟨x13,h13,H⟩ := bJ H
  have s13 := lI a.name
  rw [h13] at s13
  refine au Tryz.call180 (iX.r) s13 ?_
  refine am 2 tk rfl ?_
  refine bF rfl rfl rfl H (fun H=>?_) (fun H=>?_)
  ·refine am 23 tk rfl (ag ?_)
   obtain rfl := ao H
   refine aO true () rfl (Gh.le (aa (aa (aa (aa al)))) ai ah)
  refine cK tk (rows' := List.map cl ([[99,111,117,110,116],[115,117,109],[109,105,110],[109,97,120]] : List (List UInt8))) (gc.refl _) ?_
  refine am 2 tk rfl ?_
  obtain ⟨x19,h19,H⟩ := ax H
  have s19 := lg ([[99,111,117,110,116],[115,117,109],[109,105,110],[109,97,120]] : List (List UInt8)) a.function _ h19
  refine au Tryz.call48 (iX.r) s19 ?_
  refine am 3 tk rfl ?_
  refine bF rfl rfl rfl H (fun H=>?_) (fun H=>?_)
  ·refine am 16 tk rfl (ag ?_)
   obtain rfl := ao H
   refine aO true () rfl (Gh.le (aa (aa (aa (aa al)))) ai ah)
  refine am 2 tk rfl (aM tk (zl _) ?_)
  refine am 3 tk rfl ?_
  refine bF rfl rfl rfl H (fun H=>?_) (fun H=>?_)
  ·refine am 10 tk rfl (ag ?_)
   obtain rfl := ao H
   refine aO true () rfl (Gh.le (aa (aa (aa (aa al)))) ai ah)
  refine am 2 tk rfl (aM tk (zl _) ?_)
  refine am 2 tk rfl ?_
  refine bF rfl rfl rfl H (fun H=>?_) (fun H=>?_)
  ·refine am 5 tk rfl (ag ?_)
   obtain rfl := ao H
   refine aO (!(a.function == ([99,111,117,110,116] : List UInt8))) () rfl (Gh.le (aa (aa (aa (aa al)))) ai ah)
  refine am 5 tk rfl (ag ?_)
  obtain rfl := ao H
  refine aO false () rfl (Gh.le (aa (aa (aa (aa al)))) ai ah)
 subst hn1
 have H := Hp1
 refine aP rfl H (fun H=>?_) (fun H=>?_)
 ·refine aw 2 tk rfl ?_
  obtain rfl := ao H
  refine aB tk rfl (ps := [(ae 0),(ae 3)]) ⟨_,_,rfl,rfl,_,_,rfl,rfl,rfl⟩ (PLe.q rfl)
 refine av (ac (ac (af (am 2 tk rfl (aM tk (zl _) ?_)))))
 refine aq tk rfl (ag ?_)
 refine aP rfl H (fun H=>?_) (fun H=>?_)
 ·refine aw 2 tk rfl ?_
  obtain rfl := ao H
  refine aB tk rfl (ps := [(ae 1),(ae 0)]) ⟨_,_,rfl,rfl,_,_,rfl,rfl,rfl⟩ (PLe.q rfl)
 refine av (ac (bj tk mok ⟨false,false,[]⟩ [0,1,2,3,4,5,6,7,8,9,10,11,12,13,14] rfl (by decide +kernel) rfl (aK 5 rfl ?_)))
 obtain ⟨x49,k49,H⟩ := aY H
 refine cg k49.1 (aI eC k49.2) ?_
 refine cC rfl ?_
 obtain ⟨x51,h51,H⟩ := bJ H
 have s51 := mA inA c.vars x49
 rw [h51] at s51
 refine bg Tryz.call159 (iX.r) s51 ?_
 refine aK 7 rfl (bf (ac (az (aw 3 tk rfl ?_))))
 refine aP rfl H (fun H=>?_) (fun H=>?_)
 ·refine aw 3 tk rfl ?_
  obtain rfl := ao H
  refine aB tk rfl (ps := [(ae 0),(ae x51.2.2)]) ⟨_,_,rfl,rfl,_,_,rfl,rfl,rfl⟩ (PLe.q rfl)
 refine ac ?_
 obtain ⟨fl2,H2,Hp2⟩ := bJ H
 refine aZ (τ := Bool) (γ := Unit) (fun t2 g2=>⟨76,upd (upd (upd (fun _=>.any) 59 (aE t2)) 8 (ae x51.1)) 5 (.ptr [(.str a.name),(.str a.function),(.list 56 (a.args.map bd))]),fun _=>none,fun _=>none⟩) (fun t=>t = fl2) ?_ (fun t2 g2 hn2=>?_)
 ·have H := H2
  refine af (am 3 tk rfl ?_)
  refine bF rfl rfl rfl H (fun H=>?_) (fun H=>?_)
  ·refine am 9 tk rfl (ag ?_)
   subst H
   refine aO true () rfl (Gh.le (aa (aa (aa al))) ai ah)
  refine am 4 tk rfl ?_
  refine bF rfl rfl rfl H (fun H=>?_) (fun H=>?_)
  ·refine am 5 tk rfl (ag ?_)
   subst H
   refine aO (x51.1 != (1 : Int)) () rfl (Gh.le (aa (aa (aa al))) ai ah)
  refine am 5 tk rfl (ag ?_)
  subst H
  refine aO false () rfl (Gh.le (aa (aa (aa al))) ai ah)
 subst hn2
 have H := Hp2
 refine aP rfl H (fun H=>?_) (fun H=>?_)
 ·refine aw 2 tk rfl ?_
  obtain rfl := ao H
  refine aB tk rfl (ps := [(ae 0),(ae 7)]) ⟨_,_,rfl,rfl,_,_,rfl,rfl,rfl⟩ (PLe.q rfl)
 refine aw 4 tk rfl ?_
 refine aP rfl H (fun H=>?_) (fun H=>?_)
 ·refine aw 2 tk rfl ?_
  obtain rfl := ao H
  refine aB tk rfl (ps := [(ae 1),(ae 0)]) ⟨_,_,rfl,rfl,_,_,rfl,rfl,rfl⟩ (PLe.q rfl)
 refine av (aR (aw 3 tk rfl ?_))
 obtain rfl := ao H
 refine aB tk rfl (ps := [(ae x51.1),(ae 0)]) ⟨_,_,rfl,rfl,_,_,rfl,rfl,rfl⟩ (PLe.q rfl)
def fA (a : Rq) (b : Rq) : Option (Int) :=
 aj (nN (if (b.length : Int) < (a.length : Int) then (b.length : Int) else (a.length : Int))) fun (n1 : Nat) =>
 aj (ba (σ := Unit) (ρ := (Int)) (fun (j1 : Nat) (_ : Nat) (_ : Unit) =>
  aj (aF a (j1 : Int)) fun (x17 : LVal) =>
  aj (aF b (j1 : Int)) fun (x21 : LVal) =>
  bn (jt x17 x21) fun x23 =>
  cond (x23 != (0 : Int))
   (some (.ret x23))
   (some (.next ()))) 0 (List.range n1) ()) fun fl1=>fl1.thenR fun (_ : Unit) =>
 bn (gn (a.length : Int) (b.length : Int)) fun x32 =>
 some x32
theorem qh (a : Rq) (b : Rq) (r : Int) (H : fA a b = some r) :
  aV Tryz.prog 85 [(.list 53 (a.map ab)),(.list 53 (b.map ab))] (ae r) := by
 unfold fA at H
 refine PH.aC Tryz.func85 Tryz.ntmps85 ?_
 refine aw 1 tk rfl (ac (ac (af (aq tk rfl (aM tk (zl _) ?_)))))
 refine aq tk rfl (aM tk (zl _) ?_)
 refine am 2 tk rfl (ag ?_)
 obtain ⟨n1,hs1,H⟩ := ax H
 have hz1 := oO hs1
 obtain ⟨fl1,H1,Hp1⟩ := ax H
 refine aZ (τ := Unit) (γ := Unit) (fun s1 g1=>⟨33,upd (upd (fun _=>.any) 1 (.list 53 (b.map ab))) 0 (.list 53 (a.map ab)),fun _=>none,fun _=>none⟩) (fun t=>fl1 = .next t) ?_ (fun s1 g1 hn1=>?_)
 ·refine az ?_
  refine bA (fun j1 s1 g1=>⟨33,upd (upd (upd (upd (fun _=>.any) 12 (ae (j1 : Int))) 11 (ae (if (b.length : Int) < (a.length : Int) then (b.length : Int) else (a.length : Int)))) 1 (.list 53 (b.map ab))) 0 (.list 53 (a.map ab)),fun _=>none,fun _=>none⟩) () H1 (Gh.le (aa (aa (aa (aa al)))) ai ah) (fun j1 s1 g1 hj1 hr1=>?_)
  refine aw 1 tk rfl (ac ?_)
  refine aX rfl (fun h=>?_) (fun h=>?_)
  ·have hl1 := natLt hz1 h
   obtain ⟨x1,fb1,hx1,H,hg1⟩ := rMc hl1 hr1
   obtain rfl := natX hx1
   refine av (ac (az (aw 2 tk rfl (ac (bj tk mok ⟨false,false,[]⟩ [0,1,2,3,4,5,6,7,8,9] rfl (by decide +kernel) rfl (aK 2 rfl ?_))))))
   obtain ⟨x17,k17,H⟩ := aY H
   refine cg k17.1 (aI (fun _=>rfl) k17.2) ?_
   refine aK 3 rfl ?_
   obtain ⟨x21,k21,H⟩ := aY H
   refine cg k21.1 (aI (fun _=>rfl) k21.2) ?_
   refine cC rfl ?_
   obtain ⟨x23,h23,H⟩ := bJ H
   have s23 := oE x17 x21
   rw [h23] at s23
   refine bg Tryz.call106 (iX.r) s23 ?_
   refine cC rfl (bf (aw 2 tk rfl ?_))
   refine aP rfl H (fun H=>?_) (fun H=>?_)
   ·refine aw 2 tk rfl ?_
    obtain rfl := ao H
    have e1 : fl1 = .ret _ := hg1
    subst e1
    obtain rfl := bm Hp1
    refine aB tk rfl (ps := [(ae x23)]) ⟨_,_,rfl,rfl,rfl⟩ (PLe.q rfl)
   refine av (aR (bi 2 tk rfl ?_))
   obtain rfl := ao H
   refine aL () () ⟨hl1,hg1⟩ (Gh.le (aa (aa (aa (aH (PLe.q (pu hz1 hl1)) al)))) ai ah)
  have hn1 := rMd (natGe hz1 h) hr1
  refine aQ rfl ?_
  refine aO s1 g1 hn1 (Gh.le (aa (aa al)) ai ah)
 have H := ck hn1 Hp1
 refine ac (af (aq tk rfl (aM tk (zl _) ?_)))
 refine aq tk rfl (aM tk (zl _) ?_)
 obtain ⟨x32,h32,H⟩ := bJ H
 have s32 := km (a.length : Int) (b.length : Int)
 rw [h32] at s32
 refine au Tryz.call107 (iX.r) s32 ?_
 refine aq tk rfl (ag ?_)
 obtain rfl := ao H
 refine aB tk rfl (ps := [(ae x32)]) ⟨_,_,rfl,rfl,rfl⟩ (PLe.q rfl)
def ep (data : Rz) (n : Int) (cmp : Rq → Rq → Option (Int)) : Option (Rz) :=
 aj (whileM (σ := Rz × Int × Int) (ρ := Empty) (fun (s1 : Rz × Int × Int) =>
  cond (decide (s1.2.2 ≤ n))
   (aj (bX s1.1 s1.2.1 s1.2.2 cmp) fun x18 =>
   aj (cB (x18.length = s1.1.length) ()) fun (_ : Unit) =>
   some (.next (x18,s1.2.2,(IntKind.i64.wrap (s1.2.2 + (20 : Int))))))
   (some (.brk (s1.1,s1.2.1,s1.2.2)))) (data,0,20)) fun fl1=>fl1.thenP fun (s1 : Rz × Int × Int) =>
 aj (bX s1.1 s1.2.1 n cmp) fun x27 =>
 aj (cB (x27.length = s1.1.length) ()) fun (_ : Unit) =>
 aj (whileM (σ := Rz × Int) (ρ := Empty) (fun (s2 : Rz × Int) =>
  cond (decide (s2.2 < n))
   (aj (whileM (σ := Rz × Int × Int) (ρ := Empty) (fun (s5 : Rz × Int × Int) =>
    cond (decide (s5.2.2 ≤ n))
     (aj (eY s5.1 s5.2.1 (IntKind.i64.wrap (s5.2.1 + s2.2)) s5.2.2 cmp) fun x43 =>
     aj (cB (x43.length = s5.1.length) ()) fun (_ : Unit) =>
     some (.next (x43,s5.2.2,(IntKind.i64.wrap (s5.2.2 + (IntKind.i64.wrap ((2 : Int) * s2.2)))))))
     (some (.brk (s5.1,s5.2.1,s5.2.2)))) (s2.1,0,(IntKind.i64.wrap ((2 : Int) * s2.2)))) fun fl5=>fl5.thenP fun (s5 : Rz × Int × Int) =>
   cond (decide ((IntKind.i64.wrap (s5.2.1 + s2.2)) < n))
    (aj (eY s5.1 s5.2.1 (IntKind.i64.wrap (s5.2.1 + s2.2)) n cmp) fun x60 =>
    aj (cB (x60.length = s5.1.length) ()) fun (_ : Unit) =>
    some (.next (x60,(IntKind.i64.wrap (s2.2 * (2 : Int))))))
    (some (.next (s5.1,(IntKind.i64.wrap (s2.2 * (2 : Int)))))))
   (some (.brk (s2.1,s2.2)))) (x27,20)) fun fl2=>fl2.thenP fun (s2 : Rz × Int) =>
 some s2.1
theorem lO (g_data : OwnRef) {g_cmp : FuncId} {caps_cmp : List PV} (data : Rz) (n : Int) (cmp : Rq → Rq → Option (Int)) (hg_cmp : ∀ (vs : Array Value) (w : World),(callFunc g_cmp vs).run Tryz.prog w = .ok (.enter g_cmp vs) w) (hp_cmp : ∀ a0 a1 r,cmp a0 a1 = some r → aV Tryz.prog g_cmp ((.list 53 (a0.map ab)) :: (.list 53 (a1.map ab)) :: caps_cmp) (ae r)) (r : Rz) (H : ep data n cmp = some r) :
  PH Tryz.prog 194 [(.own 0 g_data (data.map (ak 53 ab)).length),(ae n),(.fn g_cmp caps_cmp)] ⟨fun _=>none,upd (fun _=>none) 0 (some ⟨g_data,51,(data.map (ak 53 ab)),true⟩)⟩ (fun u H=>u = (.tup []) ∧ H = ⟨fun _=>none,upd (fun _=>none) 0 (some ⟨g_data,51,(r.map (ak 53 ab)),true⟩)⟩) := by
 unfold ep at H
 refine PH.aC Tryz.func194 Tryz.ntmps194 ?_
 refine aw 1 tk rfl (aw 3 tk rfl (ac ?_))
 obtain ⟨fl1,H1,Hp1⟩ := ax H
 refine aZ (τ := Rz × Int × Int) (γ := Unit) (fun s1 g1=>⟨63,upd (upd (upd (upd (upd (fun _=>.any) 7 (ae s1.2.1)) 6 (ae 20)) 2 (.fn g_cmp caps_cmp)) 1 (ae n)) 0 (.own 0 g_data (s1.1.map (ak 53 ab)).length),fun _=>none,upd (fun _=>none) 0 (some ⟨g_data,51,(s1.1.map (ak 53 ab)),true⟩)⟩) (fun t=>fl1 = .next t) ?_ (fun s1 g1 hn1=>?_)
 ·refine az ?_
  refine cM (fun s1 g1=>⟨63,upd (upd (upd (upd (upd (upd (fun _=>.any) 8 (ae s1.2.2)) 7 (ae s1.2.1)) 6 (ae 20)) 2 (.fn g_cmp caps_cmp)) 1 (ae n)) 0 (.own 0 g_data (s1.1.map (ak 53 ab)).length),fun _=>none,upd (fun _=>none) 0 (some ⟨g_data,51,(s1.1.map (ak 53 ab)),true⟩)⟩) () H1 (Gh.le (aa (aa (aa (aa (aa (aa al)))))) ai (aA ah)) (fun m1 s1 g1 hr1=>?_)
  obtain ⟨fb1,H,hg1⟩ := cq hr1
  refine ac (aw 3 tk rfl ?_)
  refine aP rfl H (fun H=>?_) (fun H=>?_)
  ·refine av (az (ac (af (am 4 tk rfl ?_))))
   obtain ⟨x18,h18,H⟩ := ax H
   have s18 := fG g_data s1.1 s1.2.1 s1.2.2 cmp hg_cmp hp_cmp _ h18
   obtain ⟨_,q18_0,H⟩ := ax H
   have l18_0 := (bB q18_0).1
   have z18_0 : (List.map (ak 53 ab) s1.1).length = (List.map (ak 53 ab) x18).length := by simpa using (l18_0).symm
   refine bZ (g := 114) rfl rfl rfl Tryz.call114 [] [(0,0)] rfl rfl rfl rfl (iX.of2 (ir.cons (mV.own rfl) (ir.cons (mV.of_eq rfl) (ir.cons (mV.of_eq rfl) (ir.cons (mV.of_eq rfl) ir.nil))))) (by rw [bQ,bH,bP]; rfl) s18 ?_
   rintro u18 H18h ⟨rfl,rfl⟩
   refine ⟨_,rfl,?_⟩
   refine cy (st' := ⟨_,_,fun _=>none,upd (fun _=>none) 0 (some ⟨g_data,51,(x18.map (ak 53 ab)),true⟩)⟩) (Gh.le (bM _ _) ai (aA ah)) ?_
   refine ag (aw 2 tk rfl (bi 4 tk rfl (aR ?_)))
   obtain rfl := ao H
   refine aL (x18,s1.2.2,(IntKind.i64.wrap (s1.2.2 + (20 : Int)))) () hg1 (Gh.le (aH (PLe.of2 (mV.of_eq (congrArg (PV.own 0 g_data) z18_0))) (aa (aa (aa (aa (aa al)))))) ai (aA ah))
  refine aQ rfl ?_
  obtain rfl := ao H
  refine aO (s1.1,s1.2.1,s1.2.2) () hg1 (Gh.le (aa (aa (aa (aa (aa al))))) ai (aA ah))
 have H := bo hn1 Hp1
 refine ac (af (am 4 tk rfl ?_))
 obtain ⟨x27,h27,H⟩ := ax H
 have s27 := fG g_data s1.1 s1.2.1 n cmp hg_cmp hp_cmp _ h27
 obtain ⟨_,q27_0,H⟩ := ax H
 have l27_0 := (bB q27_0).1
 have z27_0 : (List.map (ak 53 ab) s1.1).length = (List.map (ak 53 ab) x27).length := by simpa using (l27_0).symm
 refine bZ (g := 114) rfl rfl rfl Tryz.call114 [] [(0,0)] rfl rfl rfl rfl (iX.of2 (ir.cons (mV.own rfl) (ir.cons (mV.of_eq rfl) (ir.cons (mV.of_eq rfl) (ir.cons (mV.of_eq rfl) ir.nil))))) (by rw [bQ,bH,bP]; rfl) s27 ?_
 rintro u27 H27h ⟨rfl,rfl⟩
 refine ⟨_,rfl,?_⟩
 refine cy (st' := ⟨_,_,fun _=>none,upd (fun _=>none) 0 (some ⟨g_data,51,(x27.map (ak 53 ab)),true⟩)⟩) (Gh.le (bM _ _) ai (aA ah)) ?_
 refine ag ?_
 obtain ⟨fl2,H2,Hp2⟩ := ax H
 refine aZ (τ := Rz × Int) (γ := Unit) (fun s2 g2=>⟨63,upd (fun _=>.any) 0 (.own 0 g_data (s2.1.map (ak 53 ab)).length),fun _=>none,upd (fun _=>none) 0 (some ⟨g_data,51,(s2.1.map (ak 53 ab)),true⟩)⟩) (fun t=>fl2 = .next t) ?_ (fun s2 g2 hn2=>?_)
 ·refine az ?_
  refine cM (fun s2 g2=>⟨63,upd (upd (upd (upd (fun _=>.any) 6 (ae s2.2)) 2 (.fn g_cmp caps_cmp)) 1 (ae n)) 0 (.own 0 g_data (s2.1.map (ak 53 ab)).length),fun _=>none,upd (fun _=>none) 0 (some ⟨g_data,51,(s2.1.map (ak 53 ab)),true⟩)⟩) () H2 (Gh.le (aH (PLe.of2 (mV.of_eq (congrArg (PV.own 0 g_data) z27_0))) (aa (aa (aa al)))) ai (aA ah)) (fun m2 s2 g2 hr2=>?_)
  obtain ⟨fb2,H,hg2⟩ := cq hr2
  refine ac (aw 3 tk rfl ?_)
  refine aP rfl H (fun H=>?_) (fun H=>?_)
  ·refine av (az (aw 4 tk rfl (ac ?_)))
   obtain ⟨fl5,H5,Hp5⟩ := ax H
   refine aZ (τ := Rz × Int × Int) (γ := Unit) (fun s5 g5=>⟨63,upd (upd (upd (upd (upd (fun _=>.any) 7 (ae s5.2.1)) 6 (ae s2.2)) 2 (.fn g_cmp caps_cmp)) 1 (ae n)) 0 (.own 0 g_data (s5.1.map (ak 53 ab)).length),fun _=>none,upd (fun _=>none) 0 (some ⟨g_data,51,(s5.1.map (ak 53 ab)),true⟩)⟩) (fun t=>fl5 = .next t) ?_ (fun s5 g5 hn5=>?_)
   ·refine az ?_
    refine cM (fun s5 g5=>⟨63,upd (upd (upd (upd (upd (upd (fun _=>.any) 8 (ae s5.2.2)) 7 (ae s5.2.1)) 6 (ae s2.2)) 2 (.fn g_cmp caps_cmp)) 1 (ae n)) 0 (.own 0 g_data (s5.1.map (ak 53 ab)).length),fun _=>none,upd (fun _=>none) 0 (some ⟨g_data,51,(s5.1.map (ak 53 ab)),true⟩)⟩) () H5 (Gh.le (aa (aa (aa (aa (aa (aa al)))))) ai (aA ah)) (fun m5 s5 g5 hr5=>?_)
    obtain ⟨fb5,H,hg5⟩ := cq hr5
    refine ac (aw 3 tk rfl ?_)
    refine aP rfl H (fun H=>?_) (fun H=>?_)
    ·refine av (az (ac (af (am 7 tk rfl ?_))))
     obtain ⟨x43,h43,H⟩ := ax H
     have s43 := jh g_data s5.1 s5.2.1 (IntKind.i64.wrap (s5.2.1 + s2.2)) s5.2.2 cmp hg_cmp hp_cmp _ h43
     obtain ⟨_,q43_0,H⟩ := ax H
     have l43_0 := (bB q43_0).1
     have z43_0 : (List.map (ak 53 ab) s5.1).length = (List.map (ak 53 ab) x43).length := by simpa using (l43_0).symm
     refine bZ (g := 204) rfl rfl rfl Tryz.call204 [] [(0,0)] rfl rfl rfl rfl (iX.of2 (ir.cons (mV.own rfl) (ir.cons (mV.of_eq rfl) (ir.cons (mV.of_eq rfl) (ir.cons (mV.of_eq rfl) (ir.cons (mV.of_eq rfl) ir.nil)))))) (by rw [bQ,bH,bP]; rfl) s43 ?_
     rintro u43 H43h ⟨rfl,rfl⟩
     refine ⟨_,rfl,?_⟩
     refine cy (st' := ⟨_,_,fun _=>none,upd (fun _=>none) 0 (some ⟨g_data,51,(x43.map (ak 53 ab)),true⟩)⟩) (Gh.le (bM _ _) ai (aA ah)) ?_
     refine ag (aw 2 tk rfl (bi 5 tk rfl (aR ?_)))
     obtain rfl := ao H
     refine aL (x43,s5.2.2,(IntKind.i64.wrap (s5.2.2 + (IntKind.i64.wrap ((2 : Int) * s2.2))))) () hg5 (Gh.le (aH (PLe.of2 (mV.of_eq (congrArg (PV.own 0 g_data) z43_0))) (aa (aa (aa (aa (aa al)))))) ai (aA ah))
    refine aQ rfl ?_
    obtain rfl := ao H
    refine aO (s5.1,s5.2.1,s5.2.2) () hg5 (Gh.le (aa (aa (aa (aa (aa al))))) ai (aA ah))
   have H := bo hn5 Hp5
   refine ac (aw 4 tk rfl (aw 3 tk rfl ?_))
   refine aP rfl H (fun H=>?_) (fun H=>?_)
   ·refine af (am 5 tk rfl ?_)
    obtain ⟨x60,h60,H⟩ := ax H
    have s60 := jh g_data s5.1 s5.2.1 (IntKind.i64.wrap (s5.2.1 + s2.2)) n cmp hg_cmp hp_cmp _ h60
    obtain ⟨_,q60_0,H⟩ := ax H
    have l60_0 := (bB q60_0).1
    have z60_0 : (List.map (ak 53 ab) s5.1).length = (List.map (ak 53 ab) x60).length := by simpa using (l60_0).symm
    refine bZ (g := 204) rfl rfl rfl Tryz.call204 [] [(0,0)] rfl rfl rfl rfl (iX.of2 (ir.cons (mV.own rfl) (ir.cons (mV.of_eq rfl) (ir.cons (mV.of_eq rfl) (ir.cons (mV.of_eq rfl) (ir.cons (mV.of_eq rfl) ir.nil)))))) (by rw [bQ,bH,bP]; rfl) s60 ?_
    rintro u60 H60h ⟨rfl,rfl⟩
    refine ⟨_,rfl,?_⟩
    refine cy (st' := ⟨_,_,fun _=>none,upd (fun _=>none) 0 (some ⟨g_data,51,(x60.map (ak 53 ab)),true⟩)⟩) (Gh.le (bM _ _) ai (aA ah)) ?_
    refine ag (bi 3 tk rfl (aR ?_))
    obtain rfl := ao H
    refine aL (x60,(IntKind.i64.wrap (s2.2 * (2 : Int)))) () hg2 (Gh.le (aH (PLe.of2 (mV.of_eq (congrArg (PV.own 0 g_data) z60_0))) (aa (aa (aa al)))) ai (aA ah))
   refine av (bi 3 tk rfl (aR ?_))
   obtain rfl := ao H
   refine aL (s5.1,(IntKind.i64.wrap (s2.2 * (2 : Int)))) () hg2 (Gh.le (aa (aa (aa (aa al)))) ai (aA ah))
  refine aQ rfl ?_
  obtain rfl := ao H
  refine aO (s2.1,s2.2) () hg2 (Gh.le (aa al) ai (aA ah))
 have H := bo hn2 Hp2
 obtain rfl := ao H
 refine dG (st' := ⟨63,fun _=>.any,fun _=>none,upd (fun _=>none) 0 (some ⟨g_data,51,(s2.1.map (ak 53 ab)),true⟩)⟩) (Gh.le al ai (aA ah)) ?_
 refine iG rfl (PLe.q rfl) ⟨rfl,rfl⟩
def gQ (a : LVal) (op : List UInt8) (b : LVal) : Bool × Int :=
 bn (
  cond (!(op == ([61] : List UInt8)))
   (cond (!(op == ([60] : List UInt8)))
    ((!(op == ([60,61] : List UInt8))))
    (false))
   (false)) fun (t1 : Bool) =>
 cond t1
  ((false,3))
  (bn (
   cond (a.kind == (0 : Int))
    (true)
    ((b.kind == (0 : Int)))) fun (t2 : Bool) =>
  cond t2
   ((true,0))
   (bn (jt a b) fun x29 =>
   cond (x29 == (0 : Int))
    (cond (!(op == ([60] : List UInt8)))
     ((true,0))
     (cond (decide (x29 < (0 : Int)))
      (((!(op == ([61] : List UInt8))),0))
      ((false,0))))
    (cond (decide (x29 < (0 : Int)))
     (((!(op == ([61] : List UInt8))),0))
     ((false,0)))))
theorem ra (a : LVal) (op : List UInt8) (b : LVal) :
  aV Tryz.prog 148 [(.agg (ab a)),(.str op),(.agg (ab b))] (.tup [(aE ((gQ a op b).1)),(ae ((gQ a op b).2))]) := by
 obtain ⟨r,H⟩ : ∃ r,gQ a op b = r := ⟨_,rfl⟩
 rw [H]
 unfold gQ at H
 refine PH.aC Tryz.func148 Tryz.ntmps148 ?_
 refine ac (af (aT ?_))
 refine aT ?_
 refine am 2 tk rfl (ag (ac (ac ?_)))
 obtain ⟨fl1,H1,Hp1⟩ := bJ H
 refine aZ (τ := Bool) (γ := Unit) (fun t1 g1=>⟨44,upd (upd (upd (upd (fun _=>.any) 18 (aE t1)) 5 (.ptr [(ae b.kind),(ae b.int),(.str b.text)])) 3 (.ptr [(ae a.kind),(ae a.int),(.str a.text)])) 1 (.str op),fun _=>none,fun _=>none⟩) (fun t=>t = fl1) ?_ (fun t1 g1 hn1=>?_)
 ·have H := H1
  refine af (am 3 tk rfl ?_)
  refine bF rfl rfl rfl H (fun H=>?_) (fun H=>?_)
  ·refine am 4 tk rfl ?_
   refine bF rfl rfl rfl H (fun H=>?_) (fun H=>?_)
   ·refine am 3 tk rfl (ag ?_)
    subst H
    refine aO (!(op == ([60,61] : List UInt8))) () rfl (Gh.le (aa (aa (aa (aa al)))) ai ah)
   refine am 3 tk rfl (ag ?_)
   subst H
   refine aO false () rfl (Gh.le (aa (aa (aa (aa al)))) ai ah)
  refine am 7 tk rfl (ag ?_)
  subst H
  refine aO false () rfl (Gh.le (aa (aa (aa (aa al)))) ai ah)
 subst hn1
 have H := Hp1
 refine aP rfl H (fun H=>?_) (fun H=>?_)
 ·refine aw 2 tk rfl ?_
  subst H
  refine aB tk rfl (ps := [(aE false),(ae 3)]) ⟨_,_,rfl,rfl,_,_,rfl,rfl,rfl⟩ (PLe.q rfl)
 refine av (ac (ac ?_))
 obtain ⟨fl2,H2,Hp2⟩ := bJ H
 refine aZ (τ := Bool) (γ := Unit) (fun t2 g2=>⟨44,upd (upd (upd (upd (fun _=>.any) 26 (aE t2)) 5 (.ptr [(ae b.kind),(ae b.int),(.str b.text)])) 3 (.ptr [(ae a.kind),(ae a.int),(.str a.text)])) 1 (.str op),fun _=>none,fun _=>none⟩) (fun t=>t = fl2) ?_ (fun t2 g2 hn2=>?_)
 ·have H := H2
  refine af (am 4 tk rfl ?_)
  refine bF rfl rfl rfl H (fun H=>?_) (fun H=>?_)
  ·refine am 4 tk rfl (ag ?_)
   subst H
   refine aO true () rfl (Gh.le (aa (aa (aa (aa al)))) ai ah)
  refine am 4 tk rfl (ag ?_)
  subst H
  refine aO (b.kind == (0 : Int)) () rfl (Gh.le (aa (aa (aa (aa al)))) ai ah)
 subst hn2
 have H := Hp2
 refine aP rfl H (fun H=>?_) (fun H=>?_)
 ·refine aw 2 tk rfl ?_
  subst H
  refine aB tk rfl (ps := [(aE true),(ae 0)]) ⟨_,_,rfl,rfl,_,_,rfl,rfl,rfl⟩ (PLe.q rfl)
 refine av (ac (af (am 2 tk rfl ?_)))
 obtain ⟨x29,h29,H⟩ := bJ H
 have s29 := oE a b
 rw [h29] at s29
 refine au Tryz.call106 (iX.r) s29 ?_
 refine aq tk rfl (ag (ac (af (am 3 tk rfl ?_))))
 refine bF rfl rfl rfl H (fun H=>?_) (fun H=>?_)
 ·refine am 4 tk rfl ?_
  refine bF rfl rfl rfl H (fun H=>?_) (fun H=>?_)
  ·refine am 9 tk rfl (ag ?_)
   subst H
   refine aB tk rfl (ps := [(aE true),(ae 0)]) ⟨_,_,rfl,rfl,_,_,rfl,rfl,rfl⟩ (PLe.q rfl)
  refine am 3 tk rfl ?_
  refine bF rfl rfl rfl H (fun H=>?_) (fun H=>?_)
  ·refine am 6 tk rfl (ag ?_)
   subst H
   refine aB tk rfl (ps := [(aE (!(op == ([61] : List UInt8)))),(ae 0)]) ⟨_,_,rfl,rfl,_,_,rfl,rfl,rfl⟩ (PLe.q rfl)
  refine am 6 tk rfl (ag ?_)
  subst H
  refine aB tk rfl (ps := [(aE false),(ae 0)]) ⟨_,_,rfl,rfl,_,_,rfl,rfl,rfl⟩ (PLe.q rfl)
 refine am 7 tk rfl ?_
 refine bF rfl rfl rfl H (fun H=>?_) (fun H=>?_)
 ·refine am 6 tk rfl (ag ?_)
  subst H
  refine aB tk rfl (ps := [(aE (!(op == ([61] : List UInt8)))),(ae 0)]) ⟨_,_,rfl,rfl,_,_,rfl,rfl,rfl⟩ (PLe.q rfl)
 refine am 6 tk rfl (ag ?_)
 subst H
 refine aB tk rfl (ps := [(aE false),(ae 0)]) ⟨_,_,rfl,rfl,_,_,rfl,rfl,rfl⟩ (PLe.q rfl)
def du (data : Rz) (a : Int) (b : Int) (_cmp : Rq → Rq → Option (Int)) : Option (Rz) :=
 cond (decide ((IntKind.i64.wrap (b - a)) ≥ (8 : Int)))
  (aj (fX (IntKind.i64.wrap (b - a))) fun x21 =>
  aj (whileM (σ := Rz × Int × Int) (ρ := Empty) (fun (s1 : Rz × Int × Int) =>
   cond (decide (s1.2.1 ≤ (IntKind.i64.wrap ((IntKind.i64.wrap (a + (IntKind.i64.wrap ((IntKind.i64.wrap (Int.tdiv (IntKind.i64.wrap (b - a)) (4 : Int))) * (2 : Int))))) + (1 : Int)))))
    (aj (ic s1.2.2) fun x38 =>
    bn (
     cond (decide ((IntKind.i64.wrap (andI .u64 x38.1 (IntKind.u64.wrap (x21 - (1 : Int))))) ≥ (IntKind.i64.wrap (b - a))))
      ((s1.1,(IntKind.i64.wrap ((IntKind.i64.wrap (andI .u64 x38.1 (IntKind.u64.wrap (x21 - (1 : Int))))) - (IntKind.i64.wrap (b - a))))))
      ((s1.1,(IntKind.i64.wrap (andI .u64 x38.1 (IntKind.u64.wrap (x21 - (1 : Int)))))))) fun (t8 : Rz × Int) =>
    aj (aF t8.1 (IntKind.i64.wrap (a + t8.2))) fun (x59 : Rq) =>
    aj (aF t8.1 s1.2.1) fun (x63 : Rq) =>
    aj (aF t8.1 s1.2.1) fun (_ : Rq) =>
    bn (t8.1.set s1.2.1.toNat x59) fun (y9 : Rz) =>
    aj (aF y9 (IntKind.i64.wrap (a + t8.2))) fun (_ : Rq) =>
    bn (y9.set ((IntKind.i64.wrap (a + t8.2)).toNat) x63) fun (y10 : Rz) =>
    some (.next (y10,(IntKind.i64.wrap (s1.2.1 + (1 : Int))),x38.2)))
    (some (.brk (s1.1,s1.2.1,s1.2.2)))) (data,(IntKind.i64.wrap ((IntKind.i64.wrap (a + (IntKind.i64.wrap ((IntKind.i64.wrap (Int.tdiv (IntKind.i64.wrap (b - a)) (4 : Int))) * (2 : Int))))) - (1 : Int))),(IntKind.u64.wrap (IntKind.i64.wrap (b - a))))) fun fl1=>fl1.thenP fun (s1 : Rz × Int × Int) =>
  some s1.1)
  (some data)
theorem ku (g_data : OwnRef) {g_cmp : FuncId} {caps_cmp : List PV} (data : Rz) (a : Int) (b : Int) (cmp : Rq → Rq → Option (Int)) (_hg_cmp : ∀ (vs : Array Value) (w : World),(callFunc g_cmp vs).run Tryz.prog w = .ok (.enter g_cmp vs) w) (_hp_cmp : ∀ a0 a1 r,cmp a0 a1 = some r → aV Tryz.prog g_cmp ((.list 53 (a0.map ab)) :: (.list 53 (a1.map ab)) :: caps_cmp) (ae r)) (r : Rz) (H : du data a b cmp = some r) :
  PH Tryz.prog 116 [(.own 0 g_data (data.map (ak 53 ab)).length),(ae a),(ae b),(.fn g_cmp caps_cmp)] ⟨fun _=>none,upd (fun _=>none) 0 (some ⟨g_data,51,(data.map (ak 53 ab)),true⟩)⟩ (fun u H=>u = (.tup []) ∧ H = ⟨fun _=>none,upd (fun _=>none) 0 (some ⟨g_data,51,(r.map (ak 53 ab)),true⟩)⟩) := by
 unfold du at H
 refine PH.aC Tryz.func116 Tryz.ntmps116 ?_
 refine aw 4 tk rfl (aw 2 tk rfl ?_)
 refine aP rfl H (fun H=>?_) (fun H=>?_)
 ·refine ac (af (am 2 tk rfl ?_))
  refine bt tk fun b9=>?_
  refine aD tk ?_
  refine ag (ac (af (aq tk rfl ?_)))
  obtain ⟨x21,h21,H⟩ := ax H
  have s21 := ol (IntKind.i64.wrap (b - a)) _ h21
  refine au Tryz.call161 (iX.r) s21 ?_
  refine aq tk rfl (ag (aw 7 tk rfl ?_))
  obtain ⟨fl1,H1,Hp1⟩ := ax H
  refine aZ (τ := Rz × Int × Int) (γ := Unit) (fun s1 g1=>⟨67,upd (fun _=>.any) 0 (.own 0 g_data (s1.1.map (ak 53 ab)).length),fun _=>none,upd (fun _=>none) 0 (some ⟨g_data,51,(s1.1.map (ak 53 ab)),true⟩)⟩) (fun t=>fl1 = .next t) ?_ (fun s1 g1 hn1=>?_)
  ·refine az ?_
   refine cM (fun s1 g1=>⟨67,upd (upd (upd (upd (upd (upd (fun _=>.any) 11 (ae s1.2.1)) 10 (.val (.int .u64 x21))) 9 (.box 9 b9 0)) 8 (ae (IntKind.i64.wrap (b - a)))) 1 (ae a)) 0 (.own 0 g_data (s1.1.map (ak 53 ab)).length),upd (fun _=>none) 9 (some ⟨b9,[(.val (.int .u64 s1.2.2))]⟩),upd (fun _=>none) 0 (some ⟨g_data,51,(s1.1.map (ak 53 ab)),true⟩)⟩) () H1 (Gh.le (aa (aa (aa (aa (aa (aa al)))))) (ay rfl (iX.r) ai) (aA ah)) (fun m1 s1 g1 hr1=>?_)
   obtain ⟨fb1,H,hg1⟩ := cq hr1
   refine ac (aw 8 tk rfl ?_)
   refine aP rfl H (fun H=>?_) (fun H=>?_)
   ·refine av (ac (az (ac (af ?_))))
    obtain ⟨x38,h38,H⟩ := ax H
    have s38 := oJ b9 s1.2.2 _ h38
    refine bZ (g := 162) rfl rfl rfl Tryz.call162 [(9,1500)] [] rfl rfl rfl rfl (iX.of2 (ir.cons mV.boxT ir.nil)) (by rw [dw,bQ,bP]; rfl) s38 ?_
    rintro u38 H38h ⟨rfl,rfl⟩
    refine ⟨_,rfl,?_⟩
    refine cy (st' := ⟨_,_,upd (fun _=>none) 9 (some ⟨b9,[(.val (.int .u64 x38.2))]⟩),upd (fun _=>none) 0 (some ⟨g_data,51,(s1.1.map (ak 53 ab)),true⟩)⟩) (Gh.le (bM _ _) (ay rfl (iX.r) ai) (aA ah)) ?_
    refine am 2 tk rfl (Ao.and rfl rfl rfl rfl rfl (am 2 tk rfl (ag (ac (aw 3 tk rfl ?_)))))
    obtain ⟨fl8,H8,Hp8⟩ := bJ H
    refine aZ (τ := Rz × Int) (γ := Unit) (fun t8 g8=>⟨67,upd (upd (upd (upd (upd (upd (upd (fun _=>.any) 12 (ae t8.2)) 11 (ae s1.2.1)) 10 (.val (.int .u64 x21))) 9 (.box 9 b9 0)) 8 (ae (IntKind.i64.wrap (b - a)))) 1 (ae a)) 0 (.own 0 g_data (t8.1.map (ak 53 ab)).length),upd (fun _=>none) 9 (some ⟨b9,[(.val (.int .u64 x38.2))]⟩),upd (fun _=>none) 0 (some ⟨g_data,51,(t8.1.map (ak 53 ab)),true⟩)⟩) (fun t=>t = fl8) ?_ (fun t8 g8 hn8=>?_)
    ·have H := H8
     refine aP rfl H (fun H=>?_) (fun H=>?_)
     ·refine bi 4 tk rfl ?_
      subst H
      refine aO (s1.1,(IntKind.i64.wrap ((IntKind.i64.wrap (andI .u64 x38.1 (IntKind.u64.wrap (x21 - (1 : Int))))) - (IntKind.i64.wrap (b - a))))) () rfl (Gh.le (aa (aa (aa (aa (aa (aa (aa al))))))) (ay rfl (iX.r) ai) (aA ah))
     refine av ?_
     subst H
     refine aO (s1.1,(IntKind.i64.wrap (andI .u64 x38.1 (IntKind.u64.wrap (x21 - (1 : Int)))))) () rfl (Gh.le (aa (aa (aa (aa (aa (aa (aa al))))))) (ay rfl (iX.r) ai) (aA ah))
    subst hn8
    have H := Hp8
    refine cU (tag := 0) rfl (fun ho0=>?_)
    refine bj tk mok ⟨false,true,[]⟩ [0,1,2,3,4,5,6,7,8,9,10,11,12,13,14,15,16,17,18,19] rfl (by decide +kernel) rfl (aK 10 rfl ?_)
    obtain ⟨x59,k59,H⟩ := aY H
    refine aS tk ⟨k59.1,(bh k59.2)⟩ (bl ho0 k59.2) ?_
    refine be tk (aI (fun _=>rfl) k59.2) ?_
    refine aK 2 rfl ?_
    obtain ⟨x63,k63,H⟩ := aY H
    refine aS tk ⟨k63.1,(bh k63.2)⟩ (bl ho0 k63.2) ?_
    refine be tk (aI (fun _=>rfl) k63.2) ?_
    obtain ⟨x65,k65,H⟩ := aY H
    refine aS tk ⟨k65.1,(bh k65.2)⟩ (bl ho0 k65.2) ?_
    obtain ⟨y9,hy9,H⟩ := bJ H
    refine cf tk rfl rfl rfl rfl rfl rfl rfl rfl rfl (by rw [zl]; exact (zg.1 k65.2).1) (PLe.refl _ _) rfl rfl rfl rfl (by decide) (bK (fun _=>rfl) k65.2 rfl hy9) ?_
    obtain ⟨x66,k66,H⟩ := aY H
    refine aS tk ⟨k66.1,(gi (bq (f := (ak 53 ab)) hy9) k66.2)⟩ (gg ho0 (bq (f := (ak 53 ab)) hy9) k66.2) ?_
    obtain ⟨y10,hy10,H⟩ := bJ H
    refine cf tk rfl rfl rfl rfl rfl rfl rfl rfl rfl (by rw [zl]; exact (zg.1 k66.2).1) (PLe.refl _ _) rfl rfl rfl rfl (by decide) (bK (fun _=>rfl) k66.2 rfl hy10) ?_
    refine bf (aR (bi 3 tk rfl ?_))
    obtain rfl := ao H
    refine aL (y10,(IntKind.i64.wrap (s1.2.1 + (1 : Int))),x38.2) () hg1 (Gh.le (aH (PLe.of2 (mV.of_eq (congrArg (PV.own 0 g_data) ((bq (f := (ak 53 ab)) hy9).trans (bq (f := (ak 53 ab)) hy10))))) (aa (aa (aa (aa (aa al)))))) (ay rfl (iX.r) ai) (aA ah))
   refine aQ rfl ?_
   obtain rfl := ao H
   refine aO (s1.1,s1.2.1,s1.2.2) () hg1 (Gh.le (aa al) ai (aA ah))
  have H := bo hn1 Hp1
  obtain rfl := ao H
  refine dG (st' := ⟨67,fun _=>.any,fun _=>none,upd (fun _=>none) 0 (some ⟨g_data,51,(s1.1.map (ak 53 ab)),true⟩)⟩) (Gh.le al ai (aA ah)) ?_
  refine iG rfl (PLe.q rfl) ⟨rfl,rfl⟩
 refine av ?_
 obtain rfl := ao H
 refine dG (st' := ⟨67,fun _=>.any,fun _=>none,upd (fun _=>none) 0 (some ⟨g_data,51,(data.map (ak 53 ab)),true⟩)⟩) (Gh.le al ai (aA ah)) ?_
 refine iG rfl (PLe.q rfl) ⟨rfl,rfl⟩
def dJ (data : Rz) (a : Int) (b : Int) (cmp : Rq → Rq → Option (Int)) : Option (Int × Int × Rz) :=
 aj (
  cond (decide ((IntKind.i64.wrap (b - a)) ≥ (8 : Int)))
   (aj (
    cond (decide ((IntKind.i64.wrap (b - a)) ≥ (50 : Int)))
     (aj (cx data (IntKind.i64.wrap (a + (IntKind.i64.wrap ((IntKind.i64.wrap (Int.tdiv (IntKind.i64.wrap (b - a)) (4 : Int))) * (1 : Int))))) 0 cmp) fun x40 =>
     aj (cB (x40.2.1.length = data.length) ()) fun (_ : Unit) =>
     aj (cx x40.2.1 (IntKind.i64.wrap (a + (IntKind.i64.wrap ((IntKind.i64.wrap (Int.tdiv (IntKind.i64.wrap (b - a)) (4 : Int))) * (2 : Int))))) x40.2.2 cmp) fun x44 =>
     aj (cB (x44.2.1.length = x40.2.1.length) ()) fun (_ : Unit) =>
     aj (cx x44.2.1 (IntKind.i64.wrap (a + (IntKind.i64.wrap ((IntKind.i64.wrap (Int.tdiv (IntKind.i64.wrap (b - a)) (4 : Int))) * (3 : Int))))) x44.2.2 cmp) fun x48 =>
     aj (cB (x48.2.1.length = x44.2.1.length) ()) fun (_ : Unit) =>
     some (x48.2.1,x40.1,x44.1,x48.1,x48.2.2))
     (some (data,(IntKind.i64.wrap (a + (IntKind.i64.wrap ((IntKind.i64.wrap (Int.tdiv (IntKind.i64.wrap (b - a)) (4 : Int))) * (1 : Int))))),(IntKind.i64.wrap (a + (IntKind.i64.wrap ((IntKind.i64.wrap (Int.tdiv (IntKind.i64.wrap (b - a)) (4 : Int))) * (2 : Int))))),(IntKind.i64.wrap (a + (IntKind.i64.wrap ((IntKind.i64.wrap (Int.tdiv (IntKind.i64.wrap (b - a)) (4 : Int))) * (3 : Int))))),0))) fun (t3 : Rz × Int × Int × Int × Int) =>
   aj (dK t3.1 t3.2.1 t3.2.2.1 t3.2.2.2.1 t3.2.2.2.2 cmp) fun x54 =>
   aj (cB (x54.2.1.length = t3.1.length) ()) fun (_ : Unit) =>
   some (x54.2.1,x54.1,x54.2.2))
   (some (data,(IntKind.i64.wrap (a + (IntKind.i64.wrap ((IntKind.i64.wrap (Int.tdiv (IntKind.i64.wrap (b - a)) (4 : Int))) * (2 : Int))))),0))) fun (t2 : Rz × Int × Int) =>
 cond (t2.2.2 == (0 : Int))
  (some (t2.2.1,1,t2.1))
  (cond (t2.2.2 == (12 : Int))
   (some (t2.2.1,2,t2.1))
   (some (t2.2.1,0,t2.1)))
theorem kJ (g_data : OwnRef) {g_cmp : FuncId} {caps_cmp : List PV} (data : Rz) (a : Int) (b : Int) (cmp : Rq → Rq → Option (Int)) (hg_cmp : ∀ (vs : Array Value) (w : World),(callFunc g_cmp vs).run Tryz.prog w = .ok (.enter g_cmp vs) w) (hp_cmp : ∀ a0 a1 r,cmp a0 a1 = some r → aV Tryz.prog g_cmp ((.list 53 (a0.map ab)) :: (.list 53 (a1.map ab)) :: caps_cmp) (ae r)) (r : Int × Int × Rz) (H : dJ data a b cmp = some r) :
  PH Tryz.prog 117 [(.own 0 g_data (data.map (ak 53 ab)).length),(ae a),(ae b),(.fn g_cmp caps_cmp)] ⟨fun _=>none,upd (fun _=>none) 0 (some ⟨g_data,51,(data.map (ak 53 ab)),true⟩)⟩ (fun u H=>u = (.tup [(ae r.1),(ae r.2.1)]) ∧ H = ⟨fun _=>none,upd (fun _=>none) 0 (some ⟨g_data,51,(r.2.2.map (ak 53 ab)),true⟩)⟩) := by
 unfold dJ at H
 refine PH.aC Tryz.func117 Tryz.ntmps117 ?_
 refine aw 2 tk rfl (aw 4 tk rfl (ac (af ?_)))
 refine bt tk fun b11=>?_
 refine ag (aw 6 tk rfl (aw 6 tk rfl (aw 6 tk rfl (ac (aw 2 tk rfl ?_)))))
 obtain ⟨fl2,H2,Hp2⟩ := ax H
 refine aZ (τ := Rz × Int × Int) (γ := Unit) (fun t2 g2=>⟨63,upd (upd (upd (fun _=>.any) 13 (ae t2.2.1)) 11 (.box 11 b11 0)) 0 (.own 0 g_data (t2.1.map (ak 53 ab)).length),upd (fun _=>none) 11 (some ⟨b11,[(ae t2.2.2)]⟩),upd (fun _=>none) 0 (some ⟨g_data,51,(t2.1.map (ak 53 ab)),true⟩)⟩) (fun t=>t = fl2) ?_ (fun t2 g2 hn2=>?_)
 ·have H := H2
  refine aP rfl H (fun H=>?_) (fun H=>?_)
  ·refine ac (aw 2 tk rfl ?_)
   obtain ⟨fl3,H3,Hp3⟩ := ax H
   refine aZ (τ := Rz × Int × Int × Int × Int) (γ := Unit) (fun t3 g3=>⟨63,upd (upd (upd (upd (upd (upd (fun _=>.any) 14 (ae t3.2.2.2.1)) 13 (ae t3.2.2.1)) 12 (ae t3.2.1)) 11 (.box 11 b11 0)) 3 (.fn g_cmp caps_cmp)) 0 (.own 0 g_data (t3.1.map (ak 53 ab)).length),upd (fun _=>none) 11 (some ⟨b11,[(ae t3.2.2.2.2)]⟩),upd (fun _=>none) 0 (some ⟨g_data,51,(t3.1.map (ak 53 ab)),true⟩)⟩) (fun t=>t = fl3) ?_ (fun t3 g3 hn3=>?_)
   ·have H := H3
    refine aP rfl H (fun H=>?_) (fun H=>?_)
    ·refine ac (af (am 3 tk rfl ?_))
     obtain ⟨x40,h40,H⟩ := ax H
     have s40 := fB g_data b11 data (IntKind.i64.wrap (a + (IntKind.i64.wrap ((IntKind.i64.wrap (Int.tdiv (IntKind.i64.wrap (b - a)) (4 : Int))) * (1 : Int))))) 0 cmp hg_cmp hp_cmp _ h40
     obtain ⟨_,q40_0,H⟩ := ax H
     have l40_0 := (bB q40_0).1
     have z40_0 : (List.map (ak 53 ab) data).length = (List.map (ak 53 ab) x40.2.1).length := by simpa using (l40_0).symm
     refine bZ (g := 163) rfl rfl rfl Tryz.call163 [(11,1502)] [(0,0)] rfl rfl rfl rfl (iX.of2 (ir.cons (mV.own rfl) (ir.cons (mV.of_eq rfl) (ir.cons mV.boxT (ir.cons (mV.of_eq rfl) ir.nil))))) (by rw [dw,bQ,bH,bP]; rfl) s40 ?_
     rintro u40 H40h ⟨rfl,rfl⟩
     refine ⟨_,rfl,?_⟩
     refine cy (st' := ⟨_,_,upd (fun _=>none) 11 (some ⟨b11,[(ae x40.2.2)]⟩),upd (fun _=>none) 0 (some ⟨g_data,51,(x40.2.1.map (ak 53 ab)),true⟩)⟩) (Gh.le (bM _ _) (ay rfl (iX.r) ai) (aA ah)) ?_
     refine aq tk rfl (ag (ac (af (am 3 tk rfl ?_))))
     obtain ⟨x44,h44,H⟩ := ax H
     have s44 := fB g_data b11 x40.2.1 (IntKind.i64.wrap (a + (IntKind.i64.wrap ((IntKind.i64.wrap (Int.tdiv (IntKind.i64.wrap (b - a)) (4 : Int))) * (2 : Int))))) x40.2.2 cmp hg_cmp hp_cmp _ h44
     obtain ⟨_,q44_0,H⟩ := ax H
     have l44_0 := (bB q44_0).1
     have z44_0 : (List.map (ak 53 ab) x40.2.1).length = (List.map (ak 53 ab) x44.2.1).length := by simpa using (l44_0).symm
     refine bZ (g := 163) rfl rfl rfl Tryz.call163 [(11,1502)] [(0,0)] rfl rfl rfl rfl (iX.of2 (ir.cons (mV.own z40_0) (ir.cons (mV.of_eq rfl) (ir.cons mV.boxT (ir.cons (mV.of_eq rfl) ir.nil))))) (by rw [dw,bQ,bH,bP]; rfl) s44 ?_
     rintro u44 H44h ⟨rfl,rfl⟩
     refine ⟨_,rfl,?_⟩
     refine cy (st' := ⟨_,_,upd (fun _=>none) 11 (some ⟨b11,[(ae x44.2.2)]⟩),upd (fun _=>none) 0 (some ⟨g_data,51,(x44.2.1.map (ak 53 ab)),true⟩)⟩) (Gh.le (bM _ _) (ay rfl (iX.r) ai) (aA ah)) ?_
     refine aq tk rfl (ag (af (am 3 tk rfl ?_)))
     obtain ⟨x48,h48,H⟩ := ax H
     have s48 := fB g_data b11 x44.2.1 (IntKind.i64.wrap (a + (IntKind.i64.wrap ((IntKind.i64.wrap (Int.tdiv (IntKind.i64.wrap (b - a)) (4 : Int))) * (3 : Int))))) x44.2.2 cmp hg_cmp hp_cmp _ h48
     obtain ⟨_,q48_0,H⟩ := ax H
     have l48_0 := (bB q48_0).1
     have z48_0 : (List.map (ak 53 ab) x44.2.1).length = (List.map (ak 53 ab) x48.2.1).length := by simpa using (l48_0).symm
     refine bZ (g := 163) rfl rfl rfl Tryz.call163 [(11,1502)] [(0,0)] rfl rfl rfl rfl (iX.of2 (ir.cons (mV.own (z40_0.trans z44_0)) (ir.cons (mV.of_eq rfl) (ir.cons mV.boxT (ir.cons (mV.of_eq rfl) ir.nil))))) (by rw [dw,bQ,bH,bP]; rfl) s48 ?_
     rintro u48 H48h ⟨rfl,rfl⟩
     refine ⟨_,rfl,?_⟩
     refine cy (st' := ⟨_,_,upd (fun _=>none) 11 (some ⟨b11,[(ae x48.2.2)]⟩),upd (fun _=>none) 0 (some ⟨g_data,51,(x48.2.1.map (ak 53 ab)),true⟩)⟩) (Gh.le (bM _ _) (ay rfl (iX.r) ai) (aA ah)) ?_
     refine aq tk rfl (ag ?_)
     obtain rfl := ao H
     refine aO (x48.2.1,x40.1,x44.1,x48.1,x48.2.2) () rfl (Gh.le (aH (PLe.of2 (mV.of_eq (congrArg (PV.own 0 g_data) ((z40_0.trans z44_0).trans z48_0)))) (aa (aa (aa (aa (aa al)))))) (ay rfl (iX.r) ai) (aA ah))
    refine av ?_
    obtain rfl := ao H
    refine aO (data,(IntKind.i64.wrap (a + (IntKind.i64.wrap ((IntKind.i64.wrap (Int.tdiv (IntKind.i64.wrap (b - a)) (4 : Int))) * (1 : Int))))),(IntKind.i64.wrap (a + (IntKind.i64.wrap ((IntKind.i64.wrap (Int.tdiv (IntKind.i64.wrap (b - a)) (4 : Int))) * (2 : Int))))),(IntKind.i64.wrap (a + (IntKind.i64.wrap ((IntKind.i64.wrap (Int.tdiv (IntKind.i64.wrap (b - a)) (4 : Int))) * (3 : Int))))),0) () rfl (Gh.le (aa (aa (aa (aa (aa (aa al)))))) (ay rfl (iX.r) ai) (aA ah))
   subst hn3
   have H := Hp3
   refine af (am 5 tk rfl ?_)
   obtain ⟨x54,h54,H⟩ := ax H
   have s54 := jD g_data b11 t3.1 t3.2.1 t3.2.2.1 t3.2.2.2.1 t3.2.2.2.2 cmp hg_cmp hp_cmp _ h54
   obtain ⟨_,q54_0,H⟩ := ax H
   have l54_0 := (bB q54_0).1
   have z54_0 : (List.map (ak 53 ab) t3.1).length = (List.map (ak 53 ab) x54.2.1).length := by simpa using (l54_0).symm
   refine bZ (g := 164) rfl rfl rfl Tryz.call164 [(11,1504)] [(0,0)] rfl rfl rfl rfl (iX.of2 (ir.cons (mV.own rfl) (ir.cons (mV.of_eq rfl) (ir.cons (mV.of_eq rfl) (ir.cons (mV.of_eq rfl) (ir.cons mV.boxT (ir.cons (mV.of_eq rfl) ir.nil))))))) (by rw [dw,bQ,bH,bP]; rfl) s54 ?_
   rintro u54 H54h ⟨rfl,rfl⟩
   refine ⟨_,rfl,?_⟩
   refine cy (st' := ⟨_,_,upd (fun _=>none) 11 (some ⟨b11,[(ae x54.2.2)]⟩),upd (fun _=>none) 0 (some ⟨g_data,51,(x54.2.1.map (ak 53 ab)),true⟩)⟩) (Gh.le (bM _ _) (ay rfl (iX.r) ai) (aA ah)) ?_
   refine aq tk rfl (ag ?_)
   obtain rfl := ao H
   refine aO (x54.2.1,x54.1,x54.2.2) () rfl (Gh.le (aH (PLe.of2 (mV.of_eq (congrArg (PV.own 0 g_data) z54_0))) (aa (aa al))) (ay rfl (iX.r) ai) (aA ah))
  refine av ?_
  obtain rfl := ao H
  refine aO (data,(IntKind.i64.wrap (a + (IntKind.i64.wrap ((IntKind.i64.wrap (Int.tdiv (IntKind.i64.wrap (b - a)) (4 : Int))) * (2 : Int))))),0) () rfl (Gh.le (aa (aa (aa al))) (ay rfl (iX.r) ai) (aA ah))
 subst hn2
 have H := Hp2
 refine ac (af (aN tk ?_))
 refine ag (az (aw 2 tk rfl ?_))
 refine aP rfl H (fun H=>?_) (fun H=>?_)
 ·refine aw 3 tk rfl ?_
  obtain rfl := ao H
  refine dG (st' := ⟨63,upd (upd (fun _=>.any) 9 (ae 1)) 8 (ae t2.2.1),fun _=>none,upd (fun _=>none) 0 (some ⟨g_data,51,(t2.1.map (ak 53 ab)),true⟩)⟩) (Gh.le (aa (aa al)) ai (aA ah)) ?_
  refine eP tk rfl (ps := [(ae t2.2.1),(ae 1)]) ⟨_,_,rfl,rfl,_,_,rfl,rfl,rfl⟩ (PLe.q rfl) ⟨rfl,rfl⟩
 refine aw 2 tk rfl ?_
 refine aP rfl H (fun H=>?_) (fun H=>?_)
 ·refine aw 3 tk rfl ?_
  obtain rfl := ao H
  refine dG (st' := ⟨63,upd (upd (fun _=>.any) 9 (ae 2)) 8 (ae t2.2.1),fun _=>none,upd (fun _=>none) 0 (some ⟨g_data,51,(t2.1.map (ak 53 ab)),true⟩)⟩) (Gh.le (aa (aa al)) ai (aA ah)) ?_
  refine eP tk rfl (ps := [(ae t2.2.1),(ae 2)]) ⟨_,_,rfl,rfl,_,_,rfl,rfl,rfl⟩ (PLe.q rfl) ⟨rfl,rfl⟩
 refine aw 3 tk rfl ?_
 obtain rfl := ao H
 refine dG (st' := ⟨63,upd (upd (fun _=>.any) 9 (ae 0)) 8 (ae t2.2.1),fun _=>none,upd (fun _=>none) 0 (some ⟨g_data,51,(t2.1.map (ak 53 ab)),true⟩)⟩) (Gh.le (aa (aa al)) ai (aA ah)) ?_
 refine eP tk rfl (ps := [(ae t2.2.1),(ae 0)]) ⟨_,_,rfl,rfl,_,_,rfl,rfl,rfl⟩ (PLe.q rfl) ⟨rfl,rfl⟩
end
end Go.Proofs.YtgaggbdcedpapaaGreat
