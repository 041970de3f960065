/- pruneColumnsReducesScansUpto_holds, part 5: the layer, the plain functions and what they compute; conditions as in the statement. -/
import Derived.Test.YtppmcepdcpmpcaaGreatDoorPrd
set_option maxHeartbeats 4000000
namespace Go.Proofs.YtppmcepdcpmpcaaGreatDoor
noncomputable section
open Go Go.Ab
attribute [local irreducible] V Ao Do Gh Eff PH IntKind.wrap
set_option maxRecDepth 4000
def cp (data : List (List UInt8)) (a : Int) (b : Int) : Option (Bool × (List (List UInt8))) :=
 ae (whileM (σ := List (List UInt8) × Int × Int) (ρ := (Bool × (List (List UInt8)))) (fun (s1 : List (List UInt8) × Int × Int) =>
  cond (decide (s1.2.2 < (5 : Int)))
   (ae (whileM (σ := List (List UInt8) × Int) (ρ := Empty) (fun (s52 : List (List UInt8) × Int) =>
    cond (decide (s52.2 < b))
     (ae (aC s52.1 s52.2) fun (x23 : List UInt8) =>
     ae (aC s52.1 (IntKind.i64.wrap (s52.2 - (1 : Int)))) fun (x28 : List UInt8) =>
     be (bi x23 x28) fun x30 =>
     cond (!x30)
      (some (.next (s52.1,(IntKind.i64.wrap (s52.2 + (1 : Int))))))
      (some (.brk (s52.1,s52.2))))
     (some (.brk (s52.1,s52.2)))) (s1.1,s1.2.1)) fun fl52=>fl52.thenP fun (s52 : List (List UInt8) × Int) =>
   cond (s52.2 == b)
    (some (.ret (true,s52.1)))
    (cond (decide ((IntKind.i64.wrap (b - a)) < (50 : Int)))
     (some (.ret (false,s52.1)))
     (ae (aC s52.1 (IntKind.i64.wrap (s52.2 - (1 : Int)))) fun (x50 : List UInt8) =>
     ae (aC s52.1 s52.2) fun (x54 : List UInt8) =>
     ae (aC s52.1 s52.2) fun (_ : List UInt8) =>
     be (s52.1.set s52.2.toNat x50) fun (y53 : List (List UInt8)) =>
     ae (aC y53 (IntKind.i64.wrap (s52.2 - (1 : Int)))) fun (_ : List UInt8) =>
     be (y53.set ((IntKind.i64.wrap (s52.2 - (1 : Int))).toNat) x54) fun (y54 : List (List UInt8)) =>
     ae (
      cond (decide ((IntKind.i64.wrap (s52.2 - a)) ≥ (2 : Int)))
       (ae (whileM (σ := List (List UInt8) × Int) (ρ := Empty) (fun (s63 : List (List UInt8) × Int) =>
        cond (decide (s63.2 ≥ (1 : Int)))
         (ae (aC s63.1 s63.2) fun (x70 : List UInt8) =>
         ae (aC s63.1 (IntKind.i64.wrap (s63.2 - (1 : Int)))) fun (x75 : List UInt8) =>
         be (bi x70 x75) fun x77 =>
         cond (!x77)
          (some (.brk (s63.1,s63.2)))
          (ae (aC s63.1 (IntKind.i64.wrap (s63.2 - (1 : Int)))) fun (x87 : List UInt8) =>
          ae (aC s63.1 s63.2) fun (x91 : List UInt8) =>
          ae (aC s63.1 s63.2) fun (_ : List UInt8) =>
          be (s63.1.set s63.2.toNat x87) fun (y68 : List (List UInt8)) =>
          ae (aC y68 (IntKind.i64.wrap (s63.2 - (1 : Int)))) fun (_ : List UInt8) =>
          be (y68.set ((IntKind.i64.wrap (s63.2 - (1 : Int))).toNat) x91) fun (y69 : List (List UInt8)) =>
          some (.next (y69,(IntKind.i64.wrap (s63.2 - (1 : Int)))))))
         (some (.brk (s63.1,s63.2)))) (y54,(IntKind.i64.wrap (s52.2 - (1 : Int))))) fun fl63=>fl63.thenP fun (s63 : List (List UInt8) × Int) =>
       some s63.1)
       (some y54)) fun (t62 : List (List UInt8)) =>
     cond (decide ((IntKind.i64.wrap (b - s52.2)) ≥ (2 : Int)))
      (ae (whileM (σ := List (List UInt8) × Int) (ρ := Empty) (fun (s70 : List (List UInt8) × Int) =>
       cond (decide (s70.2 < b))
        (ae (aC s70.1 s70.2) fun (x108 : List UInt8) =>
        ae (aC s70.1 (IntKind.i64.wrap (s70.2 - (1 : Int)))) fun (x113 : List UInt8) =>
        be (bi x108 x113) fun x115 =>
        cond (!x115)
         (some (.brk (s70.1,s70.2)))
         (ae (aC s70.1 (IntKind.i64.wrap (s70.2 - (1 : Int)))) fun (x125 : List UInt8) =>
         ae (aC s70.1 s70.2) fun (x129 : List UInt8) =>
         ae (aC s70.1 s70.2) fun (_ : List UInt8) =>
         be (s70.1.set s70.2.toNat x125) fun (y75 : List (List UInt8)) =>
         ae (aC y75 (IntKind.i64.wrap (s70.2 - (1 : Int)))) fun (_ : List UInt8) =>
         be (y75.set ((IntKind.i64.wrap (s70.2 - (1 : Int))).toNat) x129) fun (y76 : List (List UInt8)) =>
         some (.next (y76,(IntKind.i64.wrap (s70.2 + (1 : Int)))))))
        (some (.brk (s70.1,s70.2)))) (t62,(IntKind.i64.wrap (s52.2 + (1 : Int))))) fun fl70=>fl70.thenP fun (s70 : List (List UInt8) × Int) =>
      some (.next (s70.1,s52.2,(IntKind.i64.wrap (s1.2.2 + (1 : Int))))))
      (some (.next (t62,s52.2,(IntKind.i64.wrap (s1.2.2 + (1 : Int)))))))))
   (some (.brk (s1.1,s1.2.1,s1.2.2)))) (data,(IntKind.i64.wrap (a + (1 : Int))),0)) fun fl1=>fl1.thenR fun (s1 : List (List UInt8) × Int × Int) =>
 some (false,s1.1)
theorem jc (g_data : OwnRef) (data : List (List UInt8)) (a : Int) (b : Int) (r : Bool × (List (List UInt8))) (H : cp data a b = some r) :
  PH Tryz.prog 186 [(.own 0 g_data (data.map ah).length),(af a),(af b)] ⟨fun _=>none,upd (fun _=>none) 0 (some ⟨g_data,9,(data.map ah),true⟩)⟩ (fun u H=>u = (aG r.1) ∧ H = ⟨fun _=>none,upd (fun _=>none) 0 (some ⟨g_data,9,(r.2.map ah),true⟩)⟩) := by
 unfold cp at H
 refine PH.ay Tryz.func186 Tryz.ntmps186 ?_
 refine al 1 tk rfl (al 3 tk rfl (ab (al 1 tk rfl ?_)))
 obtain ⟨fl1,H1,Hp1⟩ := am H
 refine dU (τ := List (List UInt8) × Int × Int) (γ := Unit) (fun s1 g1=>⟨133,upd (fun _=>.any) 0 (.own 0 g_data (s1.1.map ah).length),fun _=>none,upd (fun _=>none) 0 (some ⟨g_data,9,(s1.1.map ah),true⟩)⟩) (fun t=>fl1 = .next t) ?_ (fun s1 g1 hn1=>?_)
 ·refine az ?_
  refine dA (fun s1 g1=>⟨133,upd (upd (upd (upd (upd (fun _=>.any) 8 (af s1.2.2)) 7 (af s1.2.1)) 2 (af b)) 1 (af a)) 0 (.own 0 g_data (s1.1.map ah).length),fun _=>none,upd (fun _=>none) 0 (some ⟨g_data,9,(s1.1.map ah),true⟩)⟩) () H1 Gh.d (fun m1 s1 g1 hr1=>?_)
  obtain ⟨fb1,H,hg1⟩ := ct hr1
  refine ab (al 2 tk rfl ?_)
  refine aL rfl H (fun H=>?_) (fun H=>?_)
  ·refine au (ab (az (ab ?_)))
   obtain ⟨fl52,H52,Hp52⟩ := am H
   refine dU (τ := List (List UInt8) × Int) (γ := Unit) (fun s52 g52=>⟨133,upd (upd (upd (upd (upd (fun _=>.any) 8 (af s1.2.2)) 7 (af s52.2)) 2 (af b)) 1 (af a)) 0 (.own 0 g_data (s52.1.map ah).length),fun _=>none,upd (fun _=>none) 0 (some ⟨g_data,9,(s52.1.map ah),true⟩)⟩) (fun t=>fl52 = .next t) ?_ (fun s52 g52 hn52=>?_)
   ·refine az ?_
    refine dA (fun s52 g52=>⟨133,upd (upd (upd (upd (upd (fun _=>.any) 8 (af s1.2.2)) 7 (af s52.2)) 2 (af b)) 1 (af a)) 0 (.own 0 g_data (s52.1.map ah).length),fun _=>none,upd (fun _=>none) 0 (some ⟨g_data,9,(s52.1.map ah),true⟩)⟩) () H52 Gh.d (fun m52 s52 g52 hr52=>?_)
    obtain ⟨fb52,H,hg52⟩ := ct hr52
    refine ab (ab ?_)
    refine cA (tag := 0) rfl (fun ho0=>?_)
    refine bj tk mok ⟨false,true,[]⟩ [0,1,2,3,4,5,6,7,8,9,10,11,12,13,14,15] rfl (by decide +kernel) rfl (aI 4 rfl ?_)
    refine ir H (fun H=>?_) (fun H=>?_)
    ·refine aI 2 rfl ?_
     obtain ⟨x23,k23,H⟩ := aT H
     refine aH tk ⟨k23.1,(aV k23.2)⟩ (bd ho0 k23.2) ?_
     refine bc tk rfl rfl rfl rfl rfl rfl rfl rfl rfl (aJ (fun _=>rfl) k23.2) rfl rfl ?_
     refine aI 3 rfl ?_
     obtain ⟨x28,k28,H⟩ := aT H
     refine aH tk ⟨k28.1,(aV k28.2)⟩ (bd ho0 k28.2) ?_
     refine bc tk rfl rfl rfl rfl rfl rfl rfl rfl rfl (aJ (fun _=>rfl) k28.2) rfl rfl ?_
     obtain ⟨x30,h30,H⟩ := bR H
     have s30 := cr x23 x28
     rw [h30] at s30
     refine br Tryz.call187 (dS.r) s30 ?_
     refine aI 2 rfl (aY ?_)
     refine aL rfl H (fun H=>?_) (fun H=>?_)
     ·refine au (az (bm 3 tk rfl (aR ?_)))
      obtain rfl := ax H
      refine cz (s52.1,(IntKind.i64.wrap (s52.2 + (1 : Int)))) () hg52 Gh.d
     refine bF rfl ?_
     obtain rfl := ax H
     refine aQ (s52.1,s52.2) () hg52 Gh.d
    refine aI 12 rfl (aY (dE rfl (bF rfl ?_)))
    obtain rfl := ax H
    refine aQ (s52.1,s52.2) () hg52 Gh.d
   have H := cw hn52 Hp52
   refine ab (al 3 tk rfl ?_)
   refine aL rfl H (fun H=>?_) (fun H=>?_)
   ·refine al 1 tk rfl ?_
    obtain rfl := ax H
    have e1 : fl1 = .ret _ := hg1
    subst e1
    obtain rfl := bq Hp1
    refine cq (st' := ⟨133,upd (fun _=>.any) 6 (aG true),fun _=>none,upd (fun _=>none) 0 (some ⟨g_data,9,(s52.1.map ah),true⟩)⟩) (Gh.le (ao aP) aD (aU aE)) ?_
    refine dZ tk rfl (ps := [(aG true)]) ⟨_,_,rfl,rfl,rfl⟩ (PLe.q rfl) ⟨rfl,rfl⟩
   refine au (ab (al 4 tk rfl ?_))
   refine aL rfl H (fun H=>?_) (fun H=>?_)
   ·refine al 1 tk rfl ?_
    obtain rfl := ax H
    have e1 : fl1 = .ret _ := hg1
    subst e1
    obtain rfl := bq Hp1
    refine cq (st' := ⟨133,upd (fun _=>.any) 6 (aG false),fun _=>none,upd (fun _=>none) 0 (some ⟨g_data,9,(s52.1.map ah),true⟩)⟩) (Gh.le (ao aP) aD (aU aE)) ?_
    refine dZ tk rfl (ps := [(aG false)]) ⟨_,_,rfl,rfl,rfl⟩ (PLe.q rfl) ⟨rfl,rfl⟩
   refine au (ab ?_)
   refine cA (tag := 0) rfl (fun ho0=>?_)
   refine bj tk mok ⟨false,true,[]⟩ [0,1,2,3,4,5,6,7,8,9,10,11,12,13,14,15,16,17] rfl (by decide +kernel) rfl (aI 8 rfl ?_)
   obtain ⟨x50,k50,H⟩ := aT H
   refine aH tk ⟨k50.1,(aV k50.2)⟩ (bd ho0 k50.2) ?_
   refine bc tk rfl rfl rfl rfl rfl rfl rfl rfl rfl (aJ (fun _=>rfl) k50.2) rfl rfl ?_
   refine aI 2 rfl ?_
   obtain ⟨x54,k54,H⟩ := aT H
   refine aH tk ⟨k54.1,(aV k54.2)⟩ (bd ho0 k54.2) ?_
   refine bc tk rfl rfl rfl rfl rfl rfl rfl rfl rfl (aJ (fun _=>rfl) k54.2) rfl rfl ?_
   obtain ⟨x56,k56,H⟩ := aT H
   refine aH tk ⟨k56.1,(aV k56.2)⟩ (bd ho0 k56.2) ?_
   obtain ⟨y53,hy53,H⟩ := bR H
   refine bY tk rfl rfl rfl rfl rfl rfl rfl rfl rfl (by rw [zl]; exact (zg.1 k56.2).1) (PLe.refl _ _) rfl rfl rfl rfl (by decide) (bD (fun _=>rfl) k56.2 rfl hy53) ?_
   obtain ⟨x57,k57,H⟩ := aT H
   refine aH tk ⟨k57.1,(gw (bf (f := ah) hy53) k57.2)⟩ (gS ho0 (bf (f := ah) hy53) k57.2) ?_
   obtain ⟨y54,hy54,H⟩ := bR H
   refine bY tk rfl rfl rfl rfl rfl rfl rfl rfl rfl (by rw [zl]; exact (zg.1 k57.2).1) (PLe.refl _ _) rfl rfl rfl rfl (by decide) (bD (fun _=>rfl) k57.2 rfl hy54) ?_
   refine aY (ab (al 4 tk rfl ?_))
   refine fp (γ := Unit) (fun t62 g62=>⟨133,upd (upd (upd (upd (upd (fun _=>.any) 8 (af s1.2.2)) 7 (af s52.2)) 2 (af b)) 1 (af a)) 0 (.own 0 g_data (t62.map ah).length),fun _=>none,upd (fun _=>none) 0 (some ⟨g_data,9,(t62.map ah),true⟩)⟩) H (fun _ H=>?_) (fun t62 g62 H=>?_)
   ·refine aL rfl H (fun H=>?_) (fun H=>?_)
    ·refine al 3 tk rfl ?_
     obtain ⟨fl63,H63,Hp63⟩ := am H
     refine dU (τ := List (List UInt8) × Int) (γ := Unit) (fun s63 g63=>⟨133,upd (upd (upd (upd (upd (fun _=>.any) 8 (af s1.2.2)) 7 (af s52.2)) 2 (af b)) 1 (af a)) 0 (.own 0 g_data (s63.1.map ah).length),fun _=>none,upd (fun _=>none) 0 (some ⟨g_data,9,(s63.1.map ah),true⟩)⟩) (fun t=>fl63 = .next t) ?_ (fun s63 g63 hn63=>?_)
     ·refine az ?_
      refine dA (fun s63 g63=>⟨133,upd (upd (upd (upd (upd (upd (fun _=>.any) 9 (af s63.2)) 8 (af s1.2.2)) 7 (af s52.2)) 2 (af b)) 1 (af a)) 0 (.own 0 g_data (s63.1.map ah).length),fun _=>none,upd (fun _=>none) 0 (some ⟨g_data,9,(s63.1.map ah),true⟩)⟩) () H63 (Gh.le (bp (PLe.of2 (mH.of_eq (congrArg (PV.own 0 g_data) ((bf (f := ah) hy53).trans (bf (f := ah) hy54))))) (ao (ao (ao (ao (ao aP)))))) aD (aU aE)) (fun m63 s63 g63 hr63=>?_)
      obtain ⟨fb63,H,hg63⟩ := ct hr63
      refine ab (al 2 tk rfl ?_)
      refine aL rfl H (fun H=>?_) (fun H=>?_)
      ·refine au (ab (az (ab (ab ?_))))
       refine cA (tag := 0) rfl (fun ho0=>?_)
       refine bj tk mok ⟨false,true,[]⟩ [0,1,2,3,4,5,6,7,8,9,10] rfl (by decide +kernel) rfl (aI 2 rfl ?_)
       obtain ⟨x70,k70,H⟩ := aT H
       refine aH tk ⟨k70.1,(aV k70.2)⟩ (bd ho0 k70.2) ?_
       refine bc tk rfl rfl rfl rfl rfl rfl rfl rfl rfl (aJ (fun _=>rfl) k70.2) rfl rfl ?_
       refine aI 3 rfl ?_
       obtain ⟨x75,k75,H⟩ := aT H
       refine aH tk ⟨k75.1,(aV k75.2)⟩ (bd ho0 k75.2) ?_
       refine bc tk rfl rfl rfl rfl rfl rfl rfl rfl rfl (aJ (fun _=>rfl) k75.2) rfl rfl ?_
       obtain ⟨x77,h77,H⟩ := bR H
       have s77 := cr x70 x75
       rw [h77] at s77
       refine br Tryz.call187 (dS.r) s77 ?_
       refine bN rfl (aY ?_)
       refine aL rfl H (fun H=>?_) (fun H=>?_)
       ·refine bF rfl ?_
        obtain rfl := ax H
        refine aQ (s63.1,s63.2) () hg63 Gh.d
       refine au ?_
       refine cA (tag := 0) rfl (fun ho0=>?_)
       refine bj tk mok ⟨false,true,[]⟩ [0,1,2,3,4,5,6,7,8,9,10,11,12,13,14,15,16,17] rfl (by decide +kernel) rfl (aI 8 rfl ?_)
       obtain ⟨x87,k87,H⟩ := aT H
       refine aH tk ⟨k87.1,(aV k87.2)⟩ (bd ho0 k87.2) ?_
       refine bc tk rfl rfl rfl rfl rfl rfl rfl rfl rfl (aJ (fun _=>rfl) k87.2) rfl rfl ?_
       refine aI 2 rfl ?_
       obtain ⟨x91,k91,H⟩ := aT H
       refine aH tk ⟨k91.1,(aV k91.2)⟩ (bd ho0 k91.2) ?_
       refine bc tk rfl rfl rfl rfl rfl rfl rfl rfl rfl (aJ (fun _=>rfl) k91.2) rfl rfl ?_
       obtain ⟨x93,k93,H⟩ := aT H
       refine aH tk ⟨k93.1,(aV k93.2)⟩ (bd ho0 k93.2) ?_
       obtain ⟨y68,hy68,H⟩ := bR H
       refine bY tk rfl rfl rfl rfl rfl rfl rfl rfl rfl (by rw [zl]; exact (zg.1 k93.2).1) (PLe.refl _ _) rfl rfl rfl rfl (by decide) (bD (fun _=>rfl) k93.2 rfl hy68) ?_
       obtain ⟨x94,k94,H⟩ := aT H
       refine aH tk ⟨k94.1,(gw (bf (f := ah) hy68) k94.2)⟩ (gS ho0 (bf (f := ah) hy68) k94.2) ?_
       obtain ⟨y69,hy69,H⟩ := bR H
       refine bY tk rfl rfl rfl rfl rfl rfl rfl rfl rfl (by rw [zl]; exact (zg.1 k94.2).1) (PLe.refl _ _) rfl rfl rfl rfl (by decide) (bD (fun _=>rfl) k94.2 rfl hy69) ?_
       refine aY (aR (bm 3 tk rfl ?_))
       obtain rfl := ax H
       refine cz (y69,(IntKind.i64.wrap (s63.2 - (1 : Int)))) () hg63 (Gh.le (bp (PLe.of2 (mH.of_eq (congrArg (PV.own 0 g_data) ((bf (f := ah) hy68).trans (bf (f := ah) hy69))))) (ao (ao (ao (ao (ao aP)))))) aD (aU aE))
      refine bF rfl ?_
      obtain rfl := ax H
      refine aQ (s63.1,s63.2) () hg63 Gh.d
     have H := cw hn63 Hp63
     refine aQ _ () (ax H) Gh.d
    refine au ?_
    refine aQ _ () (ax H) (Gh.le (bp (PLe.of2 (mH.of_eq (congrArg (PV.own 0 g_data) ((bf (f := ah) hy53).trans (bf (f := ah) hy54))))) (ao (ao (ao (ao aP))))) aD (aU aE))
   refine al 4 tk rfl ?_
   refine aL rfl H (fun H=>?_) (fun H=>?_)
   ·refine al 3 tk rfl ?_
    obtain ⟨fl70,H70,Hp70⟩ := am H
    refine dU (τ := List (List UInt8) × Int) (γ := Unit) (fun s70 g70=>⟨133,upd (upd (upd (upd (upd (fun _=>.any) 8 (af s1.2.2)) 7 (af s52.2)) 2 (af b)) 1 (af a)) 0 (.own 0 g_data (s70.1.map ah).length),fun _=>none,upd (fun _=>none) 0 (some ⟨g_data,9,(s70.1.map ah),true⟩)⟩) (fun t=>fl70 = .next t) ?_ (fun s70 g70 hn70=>?_)
    ·refine az ?_
     refine dA (fun s70 g70=>⟨133,upd (upd (upd (upd (upd (upd (fun _=>.any) 10 (af s70.2)) 8 (af s1.2.2)) 7 (af s52.2)) 2 (af b)) 1 (af a)) 0 (.own 0 g_data (s70.1.map ah).length),fun _=>none,upd (fun _=>none) 0 (some ⟨g_data,9,(s70.1.map ah),true⟩)⟩) () H70 Gh.d (fun m70 s70 g70 hr70=>?_)
     obtain ⟨fb70,H,hg70⟩ := ct hr70
     refine ab (al 3 tk rfl ?_)
     refine aL rfl H (fun H=>?_) (fun H=>?_)
     ·refine au (ab (az (ab (ab ?_))))
      refine cA (tag := 0) rfl (fun ho0=>?_)
      refine bj tk mok ⟨false,true,[]⟩ [0,1,2,3,4,5,6,7,8,9,10] rfl (by decide +kernel) rfl (aI 2 rfl ?_)
      obtain ⟨x108,k108,H⟩ := aT H
      refine aH tk ⟨k108.1,(aV k108.2)⟩ (bd ho0 k108.2) ?_
      refine bc tk rfl rfl rfl rfl rfl rfl rfl rfl rfl (aJ (fun _=>rfl) k108.2) rfl rfl ?_
      refine aI 3 rfl ?_
      obtain ⟨x113,k113,H⟩ := aT H
      refine aH tk ⟨k113.1,(aV k113.2)⟩ (bd ho0 k113.2) ?_
      refine bc tk rfl rfl rfl rfl rfl rfl rfl rfl rfl (aJ (fun _=>rfl) k113.2) rfl rfl ?_
      obtain ⟨x115,h115,H⟩ := bR H
      have s115 := cr x108 x113
      rw [h115] at s115
      refine br Tryz.call187 (dS.r) s115 ?_
      refine bN rfl (aY ?_)
      refine aL rfl H (fun H=>?_) (fun H=>?_)
      ·refine bF rfl ?_
       obtain rfl := ax H
       refine aQ (s70.1,s70.2) () hg70 Gh.d
      refine au ?_
      refine cA (tag := 0) rfl (fun ho0=>?_)
      refine bj tk mok ⟨false,true,[]⟩ [0,1,2,3,4,5,6,7,8,9,10,11,12,13,14,15,16,17] rfl (by decide +kernel) rfl (aI 8 rfl ?_)
      obtain ⟨x125,k125,H⟩ := aT H
      refine aH tk ⟨k125.1,(aV k125.2)⟩ (bd ho0 k125.2) ?_
      refine bc tk rfl rfl rfl rfl rfl rfl rfl rfl rfl (aJ (fun _=>rfl) k125.2) rfl rfl ?_
      refine aI 2 rfl ?_
      obtain ⟨x129,k129,H⟩ := aT H
      refine aH tk ⟨k129.1,(aV k129.2)⟩ (bd ho0 k129.2) ?_
      refine bc tk rfl rfl rfl rfl rfl rfl rfl rfl rfl (aJ (fun _=>rfl) k129.2) rfl rfl ?_
      obtain ⟨x131,k131,H⟩ := aT H
      refine aH tk ⟨k131.1,(aV k131.2)⟩ (bd ho0 k131.2) ?_
      obtain ⟨y75,hy75,H⟩ := bR H
      refine bY tk rfl rfl rfl rfl rfl rfl rfl rfl rfl (by rw [zl]; exact (zg.1 k131.2).1) (PLe.refl _ _) rfl rfl rfl rfl (by decide) (bD (fun _=>rfl) k131.2 rfl hy75) ?_
      obtain ⟨x132,k132,H⟩ := aT H
      refine aH tk ⟨k132.1,(gw (bf (f := ah) hy75) k132.2)⟩ (gS ho0 (bf (f := ah) hy75) k132.2) ?_
      obtain ⟨y76,hy76,H⟩ := bR H
      refine bY tk rfl rfl rfl rfl rfl rfl rfl rfl rfl (by rw [zl]; exact (zg.1 k132.2).1) (PLe.refl _ _) rfl rfl rfl rfl (by decide) (bD (fun _=>rfl) k132.2 rfl hy76) ?_
      refine aY (aR (bm 3 tk rfl ?_))
      obtain rfl := ax H
      refine cz (y76,(IntKind.i64.wrap (s70.2 + (1 : Int)))) () hg70 (Gh.le (bp (PLe.of2 (mH.of_eq (congrArg (PV.own 0 g_data) ((bf (f := ah) hy75).trans (bf (f := ah) hy76))))) (ao (ao (ao (ao (ao aP)))))) aD (aU aE))
     refine bF rfl ?_
     obtain rfl := ax H
     refine aQ (s70.1,s70.2) () hg70 Gh.d
    have H := cw hn70 Hp70
    refine aR (bm 3 tk rfl ?_)
    obtain rfl := ax H
    refine cz (s70.1,s52.2,(IntKind.i64.wrap (s1.2.2 + (1 : Int)))) () hg1 Gh.d
   refine au (aR (bm 3 tk rfl ?_))
   obtain rfl := ax H
   refine cz (t62,s52.2,(IntKind.i64.wrap (s1.2.2 + (1 : Int)))) () hg1 Gh.d
  refine bF rfl ?_
  obtain rfl := ax H
  refine aQ (s1.1,s1.2.1,s1.2.2) () hg1 Gh.d
 have H := jx hn1 Hp1
 refine al 1 tk rfl ?_
 obtain rfl := ax H
 refine cq (st' := ⟨133,upd (fun _=>.any) 6 (aG false),fun _=>none,upd (fun _=>none) 0 (some ⟨g_data,9,(s1.1.map ah),true⟩)⟩) (Gh.le (ao aP) aD (aU aE)) ?_
 refine dZ tk rfl (ps := [(aG false)]) ⟨_,_,rfl,rfl,rfl⟩ (PLe.q rfl) ⟨rfl,rfl⟩
def cS (data : List (List UInt8)) (a : Int) (b : Int) (pivot : Int) : Option (Int × (List (List UInt8))) :=
 ae (aC data pivot) fun (x17 : List UInt8) =>
 ae (aC data a) fun (x21 : List UInt8) =>
 ae (aC data a) fun (_ : List UInt8) =>
 be (data.set a.toNat x17) fun (y1 : List (List UInt8)) =>
 ae (aC y1 pivot) fun (_ : List UInt8) =>
 be (y1.set pivot.toNat x21) fun (y2 : List (List UInt8)) =>
 ae (whileM (σ := List (List UInt8) × Int × Int) (ρ := Empty) (fun (s3 : List (List UInt8) × Int × Int) =>
  ae (whileM (σ := List (List UInt8) × Int) (ρ := Empty) (fun (s12 : List (List UInt8) × Int) =>
   cond (decide (s12.2 ≤ s3.2.2))
    (ae (aC s12.1 a) fun (x35 : List UInt8) =>
    ae (aC s12.1 s12.2) fun (x39 : List UInt8) =>
    be (bi x35 x39) fun x41 =>
    cond (!x41)
     (some (.next (s12.1,(IntKind.i64.wrap (s12.2 + (1 : Int))))))
     (some (.brk (s12.1,s12.2))))
    (some (.brk (s12.1,s12.2)))) (s3.1,s3.2.1)) fun fl12=>fl12.thenP fun (s12 : List (List UInt8) × Int) =>
  ae (whileM (σ := List (List UInt8) × Int) (ρ := Empty) (fun (s13 : List (List UInt8) × Int) =>
   cond (decide (s12.2 ≤ s13.2))
    (ae (aC s13.1 a) fun (x52 : List UInt8) =>
    ae (aC s13.1 s13.2) fun (x56 : List UInt8) =>
    be (bi x52 x56) fun x58 =>
    cond x58
     (some (.next (s13.1,(IntKind.i64.wrap (s13.2 - (1 : Int))))))
     (some (.brk (s13.1,s13.2))))
    (some (.brk (s13.1,s13.2)))) (s12.1,s3.2.2)) fun fl13=>fl13.thenP fun (s13 : List (List UInt8) × Int) =>
  cond (decide (s12.2 > s13.2))
   (some (.brk (s13.1,s12.2,s13.2)))
   (ae (aC s13.1 s13.2) fun (x71 : List UInt8) =>
   ae (aC s13.1 s12.2) fun (x75 : List UInt8) =>
   ae (aC s13.1 s12.2) fun (_ : List UInt8) =>
   be (s13.1.set s12.2.toNat x71) fun (y14 : List (List UInt8)) =>
   ae (aC y14 s13.2) fun (_ : List UInt8) =>
   be (y14.set s13.2.toNat x75) fun (y15 : List (List UInt8)) =>
   some (.next (y15,(IntKind.i64.wrap (s12.2 + (1 : Int))),(IntKind.i64.wrap (s13.2 - (1 : Int))))))) (y2,(IntKind.i64.wrap (a + (1 : Int))),(IntKind.i64.wrap (b - (1 : Int))))) fun fl3=>fl3.thenP fun (s3 : List (List UInt8) × Int × Int) =>
 some (s3.2.1,s3.1)
theorem jP (g_data : OwnRef) (data : List (List UInt8)) (a : Int) (b : Int) (pivot : Int) (r : Int × (List (List UInt8))) (H : cS data a b pivot = some r) :
  PH Tryz.prog 188 [(.own 0 g_data (data.map ah).length),(af a),(af b),(af pivot)] ⟨fun _=>none,upd (fun _=>none) 0 (some ⟨g_data,9,(data.map ah),true⟩)⟩ (fun u H=>u = (af r.1) ∧ H = ⟨fun _=>none,upd (fun _=>none) 0 (some ⟨g_data,9,(r.2.map ah),true⟩)⟩) := by
 unfold cS at H
 refine PH.ay Tryz.func188 Tryz.ntmps188 ?_
 refine al 1 tk rfl (ab ?_)
 refine cA (tag := 0) rfl (fun ho0=>?_)
 refine bj tk mok ⟨false,true,[]⟩ [0,1,2,3,4,5,6,7,8,9,10,11,12,13,14,15] rfl (by decide +kernel) rfl (aI 6 rfl ?_)
 obtain ⟨x17,k17,H⟩ := aT H
 refine aH tk ⟨k17.1,(aV k17.2)⟩ (bd ho0 k17.2) ?_
 refine bc tk rfl rfl rfl rfl rfl rfl rfl rfl rfl (aJ (fun _=>rfl) k17.2) rfl rfl ?_
 refine aI 2 rfl ?_
 obtain ⟨x21,k21,H⟩ := aT H
 refine aH tk ⟨k21.1,(aV k21.2)⟩ (bd ho0 k21.2) ?_
 refine bc tk rfl rfl rfl rfl rfl rfl rfl rfl rfl (aJ (fun _=>rfl) k21.2) rfl rfl ?_
 obtain ⟨x23,k23,H⟩ := aT H
 refine aH tk ⟨k23.1,(aV k23.2)⟩ (bd ho0 k23.2) ?_
 obtain ⟨y1,hy1,H⟩ := bR H
 refine bY tk rfl rfl rfl rfl rfl rfl rfl rfl rfl (by rw [zl]; exact (zg.1 k23.2).1) (PLe.refl _ _) rfl rfl rfl rfl (by decide) (bD (fun _=>rfl) k23.2 rfl hy1) ?_
 obtain ⟨x24,k24,H⟩ := aT H
 refine aH tk ⟨k24.1,(gw (bf (f := ah) hy1) k24.2)⟩ (gS ho0 (bf (f := ah) hy1) k24.2) ?_
 obtain ⟨y2,hy2,H⟩ := bR H
 refine bY tk rfl rfl rfl rfl rfl rfl rfl rfl rfl (by rw [zl]; exact (zg.1 k24.2).1) (PLe.refl _ _) rfl rfl rfl rfl (by decide) (bD (fun _=>rfl) k24.2 rfl hy2) ?_
 refine aY (al 6 tk rfl (ab ?_))
 obtain ⟨fl3,H3,Hp3⟩ := am H
 refine dU (τ := List (List UInt8) × Int × Int) (γ := Unit) (fun s3 g3=>⟨84,upd (upd (fun _=>.any) 9 (af s3.2.1)) 0 (.own 0 g_data (s3.1.map ah).length),fun _=>none,upd (fun _=>none) 0 (some ⟨g_data,9,(s3.1.map ah),true⟩)⟩) (fun t=>fl3 = .next t) ?_ (fun s3 g3 hn3=>?_)
 ·refine az ?_
  refine dA (fun s3 g3=>⟨84,upd (upd (upd (upd (fun _=>.any) 10 (af s3.2.2)) 9 (af s3.2.1)) 1 (af a)) 0 (.own 0 g_data (s3.1.map ah).length),fun _=>none,upd (fun _=>none) 0 (some ⟨g_data,9,(s3.1.map ah),true⟩)⟩) () H3 (Gh.le (bp (PLe.of2 (mH.of_eq (congrArg (PV.own 0 g_data) ((bf (f := ah) hy1).trans (bf (f := ah) hy2))))) (ao (ao (ao aP)))) aD (aU aE)) (fun m3 s3 g3 hr3=>?_)
  obtain ⟨fb3,H,hg3⟩ := ct hr3
  refine az (ab ?_)
  obtain ⟨fl12,H12,Hp12⟩ := am H
  refine dU (τ := List (List UInt8) × Int) (γ := Unit) (fun s12 g12=>⟨84,upd (upd (upd (upd (fun _=>.any) 10 (af s3.2.2)) 9 (af s12.2)) 1 (af a)) 0 (.own 0 g_data (s12.1.map ah).length),fun _=>none,upd (fun _=>none) 0 (some ⟨g_data,9,(s12.1.map ah),true⟩)⟩) (fun t=>fl12 = .next t) ?_ (fun s12 g12 hn12=>?_)
  ·refine az ?_
   refine dA (fun s12 g12=>⟨84,upd (upd (upd (upd (fun _=>.any) 10 (af s3.2.2)) 9 (af s12.2)) 1 (af a)) 0 (.own 0 g_data (s12.1.map ah).length),fun _=>none,upd (fun _=>none) 0 (some ⟨g_data,9,(s12.1.map ah),true⟩)⟩) () H12 Gh.d (fun m12 s12 g12 hr12=>?_)
   obtain ⟨fb12,H,hg12⟩ := ct hr12
   refine ab (ab ?_)
   refine cA (tag := 0) rfl (fun ho0=>?_)
   refine bj tk mok ⟨false,true,[]⟩ [0,1,2,3,4,5,6,7,8,9,10,11,12,13,14] rfl (by decide +kernel) rfl (aI 4 rfl ?_)
   refine ir H (fun H=>?_) (fun H=>?_)
   ·refine aI 2 rfl ?_
    obtain ⟨x35,k35,H⟩ := aT H
    refine aH tk ⟨k35.1,(aV k35.2)⟩ (bd ho0 k35.2) ?_
    refine bc tk rfl rfl rfl rfl rfl rfl rfl rfl rfl (aJ (fun _=>rfl) k35.2) rfl rfl ?_
    refine aI 2 rfl ?_
    obtain ⟨x39,k39,H⟩ := aT H
    refine aH tk ⟨k39.1,(aV k39.2)⟩ (bd ho0 k39.2) ?_
    refine bc tk rfl rfl rfl rfl rfl rfl rfl rfl rfl (aJ (fun _=>rfl) k39.2) rfl rfl ?_
    obtain ⟨x41,h41,H⟩ := bR H
    have s41 := cr x35 x39
    rw [h41] at s41
    refine br Tryz.call187 (dS.r) s41 ?_
    refine aI 2 rfl (aY ?_)
    refine aL rfl H (fun H=>?_) (fun H=>?_)
    ·refine au (az (bm 3 tk rfl (aR ?_)))
     obtain rfl := ax H
     refine cz (s12.1,(IntKind.i64.wrap (s12.2 + (1 : Int)))) () hg12 Gh.d
    refine bF rfl ?_
    obtain rfl := ax H
    refine aQ (s12.1,s12.2) () hg12 Gh.d
   refine aI 11 rfl (aY (dE rfl (bF rfl ?_)))
   obtain rfl := ax H
   refine aQ (s12.1,s12.2) () hg12 Gh.d
  have H := cw hn12 Hp12
  refine ab ?_
  obtain ⟨fl13,H13,Hp13⟩ := am H
  refine dU (τ := List (List UInt8) × Int) (γ := Unit) (fun s13 g13=>⟨84,upd (upd (upd (upd (fun _=>.any) 10 (af s13.2)) 9 (af s12.2)) 1 (af a)) 0 (.own 0 g_data (s13.1.map ah).length),fun _=>none,upd (fun _=>none) 0 (some ⟨g_data,9,(s13.1.map ah),true⟩)⟩) (fun t=>fl13 = .next t) ?_ (fun s13 g13 hn13=>?_)
  ·refine az ?_
   refine dA (fun s13 g13=>⟨84,upd (upd (upd (upd (fun _=>.any) 10 (af s13.2)) 9 (af s12.2)) 1 (af a)) 0 (.own 0 g_data (s13.1.map ah).length),fun _=>none,upd (fun _=>none) 0 (some ⟨g_data,9,(s13.1.map ah),true⟩)⟩) () H13 Gh.d (fun m13 s13 g13 hr13=>?_)
   obtain ⟨fb13,H,hg13⟩ := ct hr13
   refine ab (ab ?_)
   refine cA (tag := 0) rfl (fun ho0=>?_)
   refine bj tk mok ⟨false,true,[]⟩ [0,1,2,3,4,5,6,7,8,9,10,11,12,13] rfl (by decide +kernel) rfl (aI 4 rfl ?_)
   refine ir H (fun H=>?_) (fun H=>?_)
   ·refine aI 2 rfl ?_
    obtain ⟨x52,k52,H⟩ := aT H
    refine aH tk ⟨k52.1,(aV k52.2)⟩ (bd ho0 k52.2) ?_
    refine bc tk rfl rfl rfl rfl rfl rfl rfl rfl rfl (aJ (fun _=>rfl) k52.2) rfl rfl ?_
    refine aI 2 rfl ?_
    obtain ⟨x56,k56,H⟩ := aT H
    refine aH tk ⟨k56.1,(aV k56.2)⟩ (bd ho0 k56.2) ?_
    refine bc tk rfl rfl rfl rfl rfl rfl rfl rfl rfl (aJ (fun _=>rfl) k56.2) rfl rfl ?_
    obtain ⟨x58,h58,H⟩ := bR H
    have s58 := cr x52 x56
    rw [h58] at s58
    refine br Tryz.call187 (dS.r) s58 ?_
    refine bN rfl (aY ?_)
    refine aL rfl H (fun H=>?_) (fun H=>?_)
    ·refine au (az (bm 3 tk rfl (aR ?_)))
     obtain rfl := ax H
     refine cz (s13.1,(IntKind.i64.wrap (s13.2 - (1 : Int)))) () hg13 Gh.d
    refine bF rfl ?_
    obtain rfl := ax H
    refine aQ (s13.1,s13.2) () hg13 Gh.d
   refine aI 10 rfl (aY (dE rfl (bF rfl ?_)))
   obtain rfl := ax H
   refine aQ (s13.1,s13.2) () hg13 Gh.d
  have H := cw hn13 Hp13
  refine ab (al 3 tk rfl ?_)
  refine aL rfl H (fun H=>?_) (fun H=>?_)
  ·refine bF rfl ?_
   obtain rfl := ax H
   refine aQ (s13.1,s12.2,s13.2) () hg3 Gh.d
  refine au (ab ?_)
  refine cA (tag := 0) rfl (fun ho0=>?_)
  refine bj tk mok ⟨false,true,[]⟩ [0,1,2,3,4,5,6,7,8,9,10,11,12,13,14,15] rfl (by decide +kernel) rfl (aI 6 rfl ?_)
  obtain ⟨x71,k71,H⟩ := aT H
  refine aH tk ⟨k71.1,(aV k71.2)⟩ (bd ho0 k71.2) ?_
  refine bc tk rfl rfl rfl rfl rfl rfl rfl rfl rfl (aJ (fun _=>rfl) k71.2) rfl rfl ?_
  refine aI 2 rfl ?_
  obtain ⟨x75,k75,H⟩ := aT H
  refine aH tk ⟨k75.1,(aV k75.2)⟩ (bd ho0 k75.2) ?_
  refine bc tk rfl rfl rfl rfl rfl rfl rfl rfl rfl (aJ (fun _=>rfl) k75.2) rfl rfl ?_
  obtain ⟨x77,k77,H⟩ := aT H
  refine aH tk ⟨k77.1,(aV k77.2)⟩ (bd ho0 k77.2) ?_
  obtain ⟨y14,hy14,H⟩ := bR H
  refine bY tk rfl rfl rfl rfl rfl rfl rfl rfl rfl (by rw [zl]; exact (zg.1 k77.2).1) (PLe.refl _ _) rfl rfl rfl rfl (by decide) (bD (fun _=>rfl) k77.2 rfl hy14) ?_
  obtain ⟨x78,k78,H⟩ := aT H
  refine aH tk ⟨k78.1,(gw (bf (f := ah) hy14) k78.2)⟩ (gS ho0 (bf (f := ah) hy14) k78.2) ?_
  obtain ⟨y15,hy15,H⟩ := bR H
  refine bY tk rfl rfl rfl rfl rfl rfl rfl rfl rfl (by rw [zl]; exact (zg.1 k78.2).1) (PLe.refl _ _) rfl rfl rfl rfl (by decide) (bD (fun _=>rfl) k78.2 rfl hy15) ?_
  refine aY (al 3 tk rfl (bm 3 tk rfl (aR ?_)))
  obtain rfl := ax H
  refine cz (y15,(IntKind.i64.wrap (s12.2 + (1 : Int))),(IntKind.i64.wrap (s13.2 - (1 : Int)))) () hg3 (Gh.le (bp (PLe.of2 (mH.of_eq (congrArg (PV.own 0 g_data) ((bf (f := ah) hy14).trans (bf (f := ah) hy15))))) (ao (ao (ao aP)))) aD (aU aE))
 have H := cw hn3 Hp3
 refine al 2 tk rfl ?_
 obtain rfl := ax H
 refine cq (st' := ⟨84,upd (fun _=>.any) 8 (af s3.2.1),fun _=>none,upd (fun _=>none) 0 (some ⟨g_data,9,(s3.1.map ah),true⟩)⟩) (Gh.le (ao aP) aD (aU aE)) ?_
 refine dZ tk rfl (ps := [(af s3.2.1)]) ⟨_,_,rfl,rfl,rfl⟩ (PLe.q rfl) ⟨rfl,rfl⟩
def dJ (data : List (List UInt8)) (a : Int) (b : Int) (pivot : Int) : Option (Int × Bool × (List (List UInt8))) :=
 ae (aC data pivot) fun (x18 : List UInt8) =>
 ae (aC data a) fun (x22 : List UInt8) =>
 ae (aC data a) fun (_ : List UInt8) =>
 be (data.set a.toNat x18) fun (y1 : List (List UInt8)) =>
 ae (aC y1 pivot) fun (_ : List UInt8) =>
 be (y1.set pivot.toNat x22) fun (y2 : List (List UInt8)) =>
 ae (whileM (σ := List (List UInt8) × Int) (ρ := Empty) (fun (s3 : List (List UInt8) × Int) =>
  cond (decide (s3.2 ≤ (IntKind.i64.wrap (b - (1 : Int)))))
   (ae (aC s3.1 s3.2) fun (x36 : List UInt8) =>
   ae (aC s3.1 a) fun (x40 : List UInt8) =>
   be (bi x36 x40) fun x42 =>
   cond x42
    (some (.next (s3.1,(IntKind.i64.wrap (s3.2 + (1 : Int))))))
    (some (.brk (s3.1,s3.2))))
   (some (.brk (s3.1,s3.2)))) (y2,(IntKind.i64.wrap (a + (1 : Int))))) fun fl3=>fl3.thenP fun (s3 : List (List UInt8) × Int) =>
 ae (whileM (σ := List (List UInt8) × Int) (ρ := Empty) (fun (s4 : List (List UInt8) × Int) =>
  cond (decide (s3.2 ≤ s4.2))
   (ae (aC s4.1 s4.2) fun (x52 : List UInt8) =>
   ae (aC s4.1 a) fun (x56 : List UInt8) =>
   be (bi x52 x56) fun x58 =>
   cond (!x58)
    (some (.next (s4.1,(IntKind.i64.wrap (s4.2 - (1 : Int))))))
    (some (.brk (s4.1,s4.2))))
   (some (.brk (s4.1,s4.2)))) (s3.1,(IntKind.i64.wrap (b - (1 : Int))))) fun fl4=>fl4.thenP fun (s4 : List (List UInt8) × Int) =>
 cond (decide (s3.2 > s4.2))
  (ae (aC s4.1 a) fun (x72 : List UInt8) =>
  ae (aC s4.1 s4.2) fun (x76 : List UInt8) =>
  ae (aC s4.1 s4.2) fun (_ : List UInt8) =>
  be (s4.1.set s4.2.toNat x72) fun (y5 : List (List UInt8)) =>
  ae (aC y5 a) fun (_ : List UInt8) =>
  be (y5.set a.toNat x76) fun (y6 : List (List UInt8)) =>
  some (s4.2,true,y6))
  (ae (aC s4.1 s4.2) fun (x87 : List UInt8) =>
  ae (aC s4.1 s3.2) fun (x91 : List UInt8) =>
  ae (aC s4.1 s3.2) fun (_ : List UInt8) =>
  be (s4.1.set s3.2.toNat x87) fun (y7 : List (List UInt8)) =>
  ae (aC y7 s4.2) fun (_ : List UInt8) =>
  be (y7.set s4.2.toNat x91) fun (y8 : List (List UInt8)) =>
  ae (whileM (σ := List (List UInt8) × Int × Int) (ρ := Empty) (fun (s9 : List (List UInt8) × Int × Int) =>
   ae (whileM (σ := List (List UInt8) × Int) (ρ := Empty) (fun (s18 : List (List UInt8) × Int) =>
    cond (decide (s18.2 ≤ s9.2.2))
     (ae (aC s18.1 s18.2) fun (x105 : List UInt8) =>
     ae (aC s18.1 a) fun (x109 : List UInt8) =>
     be (bi x105 x109) fun x111 =>
     cond x111
      (some (.next (s18.1,(IntKind.i64.wrap (s18.2 + (1 : Int))))))
      (some (.brk (s18.1,s18.2))))
     (some (.brk (s18.1,s18.2)))) (s9.1,s9.2.1)) fun fl18=>fl18.thenP fun (s18 : List (List UInt8) × Int) =>
   ae (whileM (σ := List (List UInt8) × Int) (ρ := Empty) (fun (s19 : List (List UInt8) × Int) =>
    cond (decide (s18.2 ≤ s19.2))
     (ae (aC s19.1 s19.2) fun (x121 : List UInt8) =>
     ae (aC s19.1 a) fun (x125 : List UInt8) =>
     be (bi x121 x125) fun x127 =>
     cond (!x127)
      (some (.next (s19.1,(IntKind.i64.wrap (s19.2 - (1 : Int))))))
      (some (.brk (s19.1,s19.2))))
     (some (.brk (s19.1,s19.2)))) (s18.1,s9.2.2)) fun fl19=>fl19.thenP fun (s19 : List (List UInt8) × Int) =>
   cond (decide (s18.2 > s19.2))
    (some (.brk (s19.1,s18.2,s19.2)))
    (ae (aC s19.1 s19.2) fun (x141 : List UInt8) =>
    ae (aC s19.1 s18.2) fun (x145 : List UInt8) =>
    ae (aC s19.1 s18.2) fun (_ : List UInt8) =>
    be (s19.1.set s18.2.toNat x141) fun (y20 : List (List UInt8)) =>
    ae (aC y20 s19.2) fun (_ : List UInt8) =>
    be (y20.set s19.2.toNat x145) fun (y21 : List (List UInt8)) =>
    some (.next (y21,(IntKind.i64.wrap (s18.2 + (1 : Int))),(IntKind.i64.wrap (s19.2 - (1 : Int))))))) (y8,(IntKind.i64.wrap (s3.2 + (1 : Int))),(IntKind.i64.wrap (s4.2 - (1 : Int))))) fun fl9=>fl9.thenP fun (s9 : List (List UInt8) × Int × Int) =>
  ae (aC s9.1 a) fun (x159 : List UInt8) =>
  ae (aC s9.1 s9.2.2) fun (x163 : List UInt8) =>
  ae (aC s9.1 s9.2.2) fun (_ : List UInt8) =>
  be (s9.1.set s9.2.2.toNat x159) fun (y22 : List (List UInt8)) =>
  ae (aC y22 a) fun (_ : List UInt8) =>
  be (y22.set a.toNat x163) fun (y23 : List (List UInt8)) =>
  some (s9.2.2,false,y23))
theorem kV (g_data : OwnRef) (data : List (List UInt8)) (a : Int) (b : Int) (pivot : Int) (r : Int × Bool × (List (List UInt8))) (H : dJ data a b pivot = some r) :
  PH Tryz.prog 189 [(.own 0 g_data (data.map ah).length),(af a),(af b),(af pivot)] ⟨fun _=>none,upd (fun _=>none) 0 (some ⟨g_data,9,(data.map ah),true⟩)⟩ (fun u H=>u = (.tup [(af r.1),(aG r.2.1)]) ∧ H = ⟨fun _=>none,upd (fun _=>none) 0 (some ⟨g_data,9,(r.2.2.map ah),true⟩)⟩) := by
 unfold dJ at H
 refine PH.ay Tryz.func189 Tryz.ntmps189 ?_
 refine al 2 tk rfl (ab ?_)
 refine cA (tag := 0) rfl (fun ho0=>?_)
 refine bj tk mok ⟨false,true,[]⟩ [0,1,2,3,4,5,6,7,8,9,10,11,12,13,14,15] rfl (by decide +kernel) rfl (aI 6 rfl ?_)
 obtain ⟨x18,k18,H⟩ := aT H
 refine aH tk ⟨k18.1,(aV k18.2)⟩ (bd ho0 k18.2) ?_
 refine bc tk rfl rfl rfl rfl rfl rfl rfl rfl rfl (aJ (fun _=>rfl) k18.2) rfl rfl ?_
 refine aI 2 rfl ?_
 obtain ⟨x22,k22,H⟩ := aT H
 refine aH tk ⟨k22.1,(aV k22.2)⟩ (bd ho0 k22.2) ?_
 refine bc tk rfl rfl rfl rfl rfl rfl rfl rfl rfl (aJ (fun _=>rfl) k22.2) rfl rfl ?_
 obtain ⟨x24,k24,H⟩ := aT H
 refine aH tk ⟨k24.1,(aV k24.2)⟩ (bd ho0 k24.2) ?_
 obtain ⟨y1,hy1,H⟩ := bR H
 refine bY tk rfl rfl rfl rfl rfl rfl rfl rfl rfl (by rw [zl]; exact (zg.1 k24.2).1) (PLe.refl _ _) rfl rfl rfl rfl (by decide) (bD (fun _=>rfl) k24.2 rfl hy1) ?_
 obtain ⟨x25,k25,H⟩ := aT H
 refine aH tk ⟨k25.1,(gw (bf (f := ah) hy1) k25.2)⟩ (gS ho0 (bf (f := ah) hy1) k25.2) ?_
 obtain ⟨y2,hy2,H⟩ := bR H
 refine bY tk rfl rfl rfl rfl rfl rfl rfl rfl rfl (by rw [zl]; exact (zg.1 k25.2).1) (PLe.refl _ _) rfl rfl rfl rfl (by decide) (bD (fun _=>rfl) k25.2 rfl hy2) ?_
 refine aY (al 6 tk rfl (ab ?_))
 obtain ⟨fl3,H3,Hp3⟩ := am H
 refine dU (τ := List (List UInt8) × Int) (γ := Unit) (fun s3 g3=>⟨168,upd (upd (upd (upd (fun _=>.any) 11 (af (IntKind.i64.wrap (b - (1 : Int))))) 10 (af s3.2)) 1 (af a)) 0 (.own 0 g_data (s3.1.map ah).length),fun _=>none,upd (fun _=>none) 0 (some ⟨g_data,9,(s3.1.map ah),true⟩)⟩) (fun t=>fl3 = .next t) ?_ (fun s3 g3 hn3=>?_)
 ·refine az ?_
  refine dA (fun s3 g3=>⟨168,upd (upd (upd (upd (fun _=>.any) 11 (af (IntKind.i64.wrap (b - (1 : Int))))) 10 (af s3.2)) 1 (af a)) 0 (.own 0 g_data (s3.1.map ah).length),fun _=>none,upd (fun _=>none) 0 (some ⟨g_data,9,(s3.1.map ah),true⟩)⟩) () H3 (Gh.le (bp (PLe.of2 (mH.of_eq (congrArg (PV.own 0 g_data) ((bf (f := ah) hy1).trans (bf (f := ah) hy2))))) (ao (ao (ao aP)))) aD (aU aE)) (fun m3 s3 g3 hr3=>?_)
  obtain ⟨fb3,H,hg3⟩ := ct hr3
  refine ab (ab ?_)
  refine cA (tag := 0) rfl (fun ho0=>?_)
  refine bj tk mok ⟨false,true,[]⟩ [0,1,2,3,4,5,6,7,8,9,10,11,12,13] rfl (by decide +kernel) rfl (aI 4 rfl ?_)
  refine ir H (fun H=>?_) (fun H=>?_)
  ·refine aI 2 rfl ?_
   obtain ⟨x36,k36,H⟩ := aT H
   refine aH tk ⟨k36.1,(aV k36.2)⟩ (bd ho0 k36.2) ?_
   refine bc tk rfl rfl rfl rfl rfl rfl rfl rfl rfl (aJ (fun _=>rfl) k36.2) rfl rfl ?_
   refine aI 2 rfl ?_
   obtain ⟨x40,k40,H⟩ := aT H
   refine aH tk ⟨k40.1,(aV k40.2)⟩ (bd ho0 k40.2) ?_
   refine bc tk rfl rfl rfl rfl rfl rfl rfl rfl rfl (aJ (fun _=>rfl) k40.2) rfl rfl ?_
   obtain ⟨x42,h42,H⟩ := bR H
   have s42 := cr x36 x40
   rw [h42] at s42
   refine br Tryz.call187 (dS.r) s42 ?_
   refine bN rfl (aY ?_)
   refine aL rfl H (fun H=>?_) (fun H=>?_)
   ·refine au (az (bm 3 tk rfl (aR ?_)))
    obtain rfl := ax H
    refine cz (s3.1,(IntKind.i64.wrap (s3.2 + (1 : Int)))) () hg3 Gh.d
   refine bF rfl ?_
   obtain rfl := ax H
   refine aQ (s3.1,s3.2) () hg3 Gh.d
  refine aI 10 rfl (aY (dE rfl (bF rfl ?_)))
  obtain rfl := ax H
  refine aQ (s3.1,s3.2) () hg3 Gh.d
 have H := cw hn3 Hp3
 refine ab ?_
 obtain ⟨fl4,H4,Hp4⟩ := am H
 refine dU (τ := List (List UInt8) × Int) (γ := Unit) (fun s4 g4=>⟨168,upd (upd (upd (upd (fun _=>.any) 11 (af s4.2)) 10 (af s3.2)) 1 (af a)) 0 (.own 0 g_data (s4.1.map ah).length),fun _=>none,upd (fun _=>none) 0 (some ⟨g_data,9,(s4.1.map ah),true⟩)⟩) (fun t=>fl4 = .next t) ?_ (fun s4 g4 hn4=>?_)
 ·refine az ?_
  refine dA (fun s4 g4=>⟨168,upd (upd (upd (upd (fun _=>.any) 11 (af s4.2)) 10 (af s3.2)) 1 (af a)) 0 (.own 0 g_data (s4.1.map ah).length),fun _=>none,upd (fun _=>none) 0 (some ⟨g_data,9,(s4.1.map ah),true⟩)⟩) () H4 Gh.d (fun m4 s4 g4 hr4=>?_)
  obtain ⟨fb4,H,hg4⟩ := ct hr4
  refine ab (ab ?_)
  refine cA (tag := 0) rfl (fun ho0=>?_)
  refine bj tk mok ⟨false,true,[]⟩ [0,1,2,3,4,5,6,7,8,9,10,11,12,13,14] rfl (by decide +kernel) rfl (aI 4 rfl ?_)
  refine ir H (fun H=>?_) (fun H=>?_)
  ·refine aI 2 rfl ?_
   obtain ⟨x52,k52,H⟩ := aT H
   refine aH tk ⟨k52.1,(aV k52.2)⟩ (bd ho0 k52.2) ?_
   refine bc tk rfl rfl rfl rfl rfl rfl rfl rfl rfl (aJ (fun _=>rfl) k52.2) rfl rfl ?_
   refine aI 2 rfl ?_
   obtain ⟨x56,k56,H⟩ := aT H
   refine aH tk ⟨k56.1,(aV k56.2)⟩ (bd ho0 k56.2) ?_
   refine bc tk rfl rfl rfl rfl rfl rfl rfl rfl rfl (aJ (fun _=>rfl) k56.2) rfl rfl ?_
   obtain ⟨x58,h58,H⟩ := bR H
   have s58 := cr x52 x56
   rw [h58] at s58
   refine br Tryz.call187 (dS.r) s58 ?_
   refine aI 2 rfl (aY ?_)
   refine aL rfl H (fun H=>?_) (fun H=>?_)
   ·refine au (az (bm 3 tk rfl (aR ?_)))
    obtain rfl := ax H
    refine cz (s4.1,(IntKind.i64.wrap (s4.2 - (1 : Int)))) () hg4 Gh.d
   refine bF rfl ?_
   obtain rfl := ax H
   refine aQ (s4.1,s4.2) () hg4 Gh.d
  refine aI 11 rfl (aY (dE rfl (bF rfl ?_)))
  obtain rfl := ax H
  refine aQ (s4.1,s4.2) () hg4 Gh.d
 have H := cw hn4 Hp4
 refine ab (al 3 tk rfl ?_)
 refine aL rfl H (fun H=>?_) (fun H=>?_)
 ·refine ab ?_
  refine cA (tag := 0) rfl (fun ho0=>?_)
  refine bj tk mok ⟨false,true,[]⟩ [0,1,2,3,4,5,6,7,8,9,10,11,12,13,14,15] rfl (by decide +kernel) rfl (aI 6 rfl ?_)
  obtain ⟨x72,k72,H⟩ := aT H
  refine aH tk ⟨k72.1,(aV k72.2)⟩ (bd ho0 k72.2) ?_
  refine bc tk rfl rfl rfl rfl rfl rfl rfl rfl rfl (aJ (fun _=>rfl) k72.2) rfl rfl ?_
  refine aI 2 rfl ?_
  obtain ⟨x76,k76,H⟩ := aT H
  refine aH tk ⟨k76.1,(aV k76.2)⟩ (bd ho0 k76.2) ?_
  refine bc tk rfl rfl rfl rfl rfl rfl rfl rfl rfl (aJ (fun _=>rfl) k76.2) rfl rfl ?_
  obtain ⟨x78,k78,H⟩ := aT H
  refine aH tk ⟨k78.1,(aV k78.2)⟩ (bd ho0 k78.2) ?_
  obtain ⟨y5,hy5,H⟩ := bR H
  refine bY tk rfl rfl rfl rfl rfl rfl rfl rfl rfl (by rw [zl]; exact (zg.1 k78.2).1) (PLe.refl _ _) rfl rfl rfl rfl (by decide) (bD (fun _=>rfl) k78.2 rfl hy5) ?_
  obtain ⟨x79,k79,H⟩ := aT H
  refine aH tk ⟨k79.1,(gw (bf (f := ah) hy5) k79.2)⟩ (gS ho0 (bf (f := ah) hy5) k79.2) ?_
  obtain ⟨y6,hy6,H⟩ := bR H
  refine bY tk rfl rfl rfl rfl rfl rfl rfl rfl rfl (by rw [zl]; exact (zg.1 k79.2).1) (PLe.refl _ _) rfl rfl rfl rfl (by decide) (bD (fun _=>rfl) k79.2 rfl hy6) ?_
  refine aY (al 3 tk rfl ?_)
  obtain rfl := ax H
  refine cq (st' := ⟨168,upd (upd (fun _=>.any) 9 (aG true)) 8 (af s4.2),fun _=>none,upd (fun _=>none) 0 (some ⟨g_data,9,(y6.map ah),true⟩)⟩) (Gh.le (ao (ao aP)) aD (aU aE)) ?_
  refine dZ tk rfl (ps := [(af s4.2),(aG true)]) ⟨_,_,rfl,rfl,_,_,rfl,rfl,rfl⟩ (PLe.q rfl) ⟨rfl,rfl⟩
 refine au (ab ?_)
 refine cA (tag := 0) rfl (fun ho0=>?_)
 refine bj tk mok ⟨false,true,[]⟩ [0,1,2,3,4,5,6,7,8,9,10,11,12,13,14,15] rfl (by decide +kernel) rfl (aI 6 rfl ?_)
 obtain ⟨x87,k87,H⟩ := aT H
 refine aH tk ⟨k87.1,(aV k87.2)⟩ (bd ho0 k87.2) ?_
 refine bc tk rfl rfl rfl rfl rfl rfl rfl rfl rfl (aJ (fun _=>rfl) k87.2) rfl rfl ?_
 refine aI 2 rfl ?_
 obtain ⟨x91,k91,H⟩ := aT H
 refine aH tk ⟨k91.1,(aV k91.2)⟩ (bd ho0 k91.2) ?_
 refine bc tk rfl rfl rfl rfl rfl rfl rfl rfl rfl (aJ (fun _=>rfl) k91.2) rfl rfl ?_
 obtain ⟨x93,k93,H⟩ := aT H
 refine aH tk ⟨k93.1,(aV k93.2)⟩ (bd ho0 k93.2) ?_
 obtain ⟨y7,hy7,H⟩ := bR H
 refine bY tk rfl rfl rfl rfl rfl rfl rfl rfl rfl (by rw [zl]; exact (zg.1 k93.2).1) (PLe.refl _ _) rfl rfl rfl rfl (by decide) (bD (fun _=>rfl) k93.2 rfl hy7) ?_
 obtain ⟨x94,k94,H⟩ := aT H
 refine aH tk ⟨k94.1,(gw (bf (f := ah) hy7) k94.2)⟩ (gS ho0 (bf (f := ah) hy7) k94.2) ?_
 obtain ⟨y8,hy8,H⟩ := bR H
 refine bY tk rfl rfl rfl rfl rfl rfl rfl rfl rfl (by rw [zl]; exact (zg.1 k94.2).1) (PLe.refl _ _) rfl rfl rfl rfl (by decide) (bD (fun _=>rfl) k94.2 rfl hy8) ?_
 refine aY (al 3 tk rfl (al 3 tk rfl (ab ?_)))
 obtain ⟨fl9,H9,Hp9⟩ := am H
 refine dU (τ := List (List UInt8) × Int × Int) (γ := Unit) (fun s9 g9=>⟨168,upd (upd (upd (fun _=>.any) 11 (af s9.2.2)) 1 (af a)) 0 (.own 0 g_data (s9.1.map ah).length),fun _=>none,upd (fun _=>none) 0 (some ⟨g_data,9,(s9.1.map ah),true⟩)⟩) (fun t=>fl9 = .next t) ?_ (fun s9 g9 hn9=>?_)
 ·refine az ?_
  refine dA (fun s9 g9=>⟨168,upd (upd (upd (upd (fun _=>.any) 11 (af s9.2.2)) 10 (af s9.2.1)) 1 (af a)) 0 (.own 0 g_data (s9.1.map ah).length),fun _=>none,upd (fun _=>none) 0 (some ⟨g_data,9,(s9.1.map ah),true⟩)⟩) () H9 (Gh.le (bp (PLe.of2 (mH.of_eq (congrArg (PV.own 0 g_data) ((bf (f := ah) hy7).trans (bf (f := ah) hy8))))) (ao (ao (ao aP)))) aD (aU aE)) (fun m9 s9 g9 hr9=>?_)
  obtain ⟨fb9,H,hg9⟩ := ct hr9
  refine az (ab ?_)
  obtain ⟨fl18,H18,Hp18⟩ := am H
  refine dU (τ := List (List UInt8) × Int) (γ := Unit) (fun s18 g18=>⟨168,upd (upd (upd (upd (fun _=>.any) 11 (af s9.2.2)) 10 (af s18.2)) 1 (af a)) 0 (.own 0 g_data (s18.1.map ah).length),fun _=>none,upd (fun _=>none) 0 (some ⟨g_data,9,(s18.1.map ah),true⟩)⟩) (fun t=>fl18 = .next t) ?_ (fun s18 g18 hn18=>?_)
  ·refine az ?_
   refine dA (fun s18 g18=>⟨168,upd (upd (upd (upd (fun _=>.any) 11 (af s9.2.2)) 10 (af s18.2)) 1 (af a)) 0 (.own 0 g_data (s18.1.map ah).length),fun _=>none,upd (fun _=>none) 0 (some ⟨g_data,9,(s18.1.map ah),true⟩)⟩) () H18 Gh.d (fun m18 s18 g18 hr18=>?_)
   obtain ⟨fb18,H,hg18⟩ := ct hr18
   refine ab (ab ?_)
   refine cA (tag := 0) rfl (fun ho0=>?_)
   refine bj tk mok ⟨false,true,[]⟩ [0,1,2,3,4,5,6,7,8,9,10,11,12,13] rfl (by decide +kernel) rfl (aI 4 rfl ?_)
   refine ir H (fun H=>?_) (fun H=>?_)
   ·refine aI 2 rfl ?_
    obtain ⟨x105,k105,H⟩ := aT H
    refine aH tk ⟨k105.1,(aV k105.2)⟩ (bd ho0 k105.2) ?_
    refine bc tk rfl rfl rfl rfl rfl rfl rfl rfl rfl (aJ (fun _=>rfl) k105.2) rfl rfl ?_
    refine aI 2 rfl ?_
    obtain ⟨x109,k109,H⟩ := aT H
    refine aH tk ⟨k109.1,(aV k109.2)⟩ (bd ho0 k109.2) ?_
    refine bc tk rfl rfl rfl rfl rfl rfl rfl rfl rfl (aJ (fun _=>rfl) k109.2) rfl rfl ?_
    obtain ⟨x111,h111,H⟩ := bR H
    have s111 := cr x105 x109
    rw [h111] at s111
    refine br Tryz.call187 (dS.r) s111 ?_
    refine bN rfl (aY ?_)
    refine aL rfl H (fun H=>?_) (fun H=>?_)
    ·refine au (az (bm 3 tk rfl (aR ?_)))
     obtain rfl := ax H
     refine cz (s18.1,(IntKind.i64.wrap (s18.2 + (1 : Int)))) () hg18 Gh.d
    refine bF rfl ?_
    obtain rfl := ax H
    refine aQ (s18.1,s18.2) () hg18 Gh.d
   refine aI 10 rfl (aY (dE rfl (bF rfl ?_)))
   obtain rfl := ax H
   refine aQ (s18.1,s18.2) () hg18 Gh.d
  have H := cw hn18 Hp18
  refine ab ?_
  obtain ⟨fl19,H19,Hp19⟩ := am H
  refine dU (τ := List (List UInt8) × Int) (γ := Unit) (fun s19 g19=>⟨168,upd (upd (upd (upd (fun _=>.any) 11 (af s19.2)) 10 (af s18.2)) 1 (af a)) 0 (.own 0 g_data (s19.1.map ah).length),fun _=>none,upd (fun _=>none) 0 (some ⟨g_data,9,(s19.1.map ah),true⟩)⟩) (fun t=>fl19 = .next t) ?_ (fun s19 g19 hn19=>?_)
  ·refine az ?_
   refine dA (fun s19 g19=>⟨168,upd (upd (upd (upd (fun _=>.any) 11 (af s19.2)) 10 (af s18.2)) 1 (af a)) 0 (.own 0 g_data (s19.1.map ah).length),fun _=>none,upd (fun _=>none) 0 (some ⟨g_data,9,(s19.1.map ah),true⟩)⟩) () H19 Gh.d (fun m19 s19 g19 hr19=>?_)
   obtain ⟨fb19,H,hg19⟩ := ct hr19
   refine ab (ab ?_)
   refine cA (tag := 0) rfl (fun ho0=>?_)
   refine bj tk mok ⟨false,true,[]⟩ [0,1,2,3,4,5,6,7,8,9,10,11,12,13,14] rfl (by decide +kernel) rfl (aI 4 rfl ?_)
   refine ir H (fun H=>?_) (fun H=>?_)
   ·refine aI 2 rfl ?_
    obtain ⟨x121,k121,H⟩ := aT H
    refine aH tk ⟨k121.1,(aV k121.2)⟩ (bd ho0 k121.2) ?_
    refine bc tk rfl rfl rfl rfl rfl rfl rfl rfl rfl (aJ (fun _=>rfl) k121.2) rfl rfl ?_
    refine aI 2 rfl ?_
    obtain ⟨x125,k125,H⟩ := aT H
    refine aH tk ⟨k125.1,(aV k125.2)⟩ (bd ho0 k125.2) ?_
    refine bc tk rfl rfl rfl rfl rfl rfl rfl rfl rfl (aJ (fun _=>rfl) k125.2) rfl rfl ?_
    obtain ⟨x127,h127,H⟩ := bR H
    have s127 := cr x121 x125
    rw [h127] at s127
    refine br Tryz.call187 (dS.r) s127 ?_
    refine aI 2 rfl (aY ?_)
    refine aL rfl H (fun H=>?_) (fun H=>?_)
    ·refine au (az (bm 3 tk rfl (aR ?_)))
     obtain rfl := ax H
     refine cz (s19.1,(IntKind.i64.wrap (s19.2 - (1 : Int)))) () hg19 Gh.d
    refine bF rfl ?_
    obtain rfl := ax H
    refine aQ (s19.1,s19.2) () hg19 Gh.d
   refine aI 11 rfl (aY (dE rfl (bF rfl ?_)))
   obtain rfl := ax H
   refine aQ (s19.1,s19.2) () hg19 Gh.d
  have H := cw hn19 Hp19
  refine ab (al 3 tk rfl ?_)
  refine aL rfl H (fun H=>?_) (fun H=>?_)
  ·refine bF rfl ?_
   obtain rfl := ax H
   refine aQ (s19.1,s18.2,s19.2) () hg9 Gh.d
  refine au (ab ?_)
  refine cA (tag := 0) rfl (fun ho0=>?_)
  refine bj tk mok ⟨false,true,[]⟩ [0,1,2,3,4,5,6,7,8,9,10,11,12,13,14,15] rfl (by decide +kernel) rfl (aI 6 rfl ?_)
  obtain ⟨x141,k141,H⟩ := aT H
  refine aH tk ⟨k141.1,(aV k141.2)⟩ (bd ho0 k141.2) ?_
  refine bc tk rfl rfl rfl rfl rfl rfl rfl rfl rfl (aJ (fun _=>rfl) k141.2) rfl rfl ?_
  refine aI 2 rfl ?_
  obtain ⟨x145,k145,H⟩ := aT H
  refine aH tk ⟨k145.1,(aV k145.2)⟩ (bd ho0 k145.2) ?_
  refine bc tk rfl rfl rfl rfl rfl rfl rfl rfl rfl (aJ (fun _=>rfl) k145.2) rfl rfl ?_
  obtain ⟨x147,k147,H⟩ := aT H
  refine aH tk ⟨k147.1,(aV k147.2)⟩ (bd ho0 k147.2) ?_
  obtain ⟨y20,hy20,H⟩ := bR H
  refine bY tk rfl rfl rfl rfl rfl rfl rfl rfl rfl (by rw [zl]; exact (zg.1 k147.2).1) (PLe.refl _ _) rfl rfl rfl rfl (by decide) (bD (fun _=>rfl) k147.2 rfl hy20) ?_
  obtain ⟨x148,k148,H⟩ := aT H
  refine aH tk ⟨k148.1,(gw (bf (f := ah) hy20) k148.2)⟩ (gS ho0 (bf (f := ah) hy20) k148.2) ?_
  obtain ⟨y21,hy21,H⟩ := bR H
  refine bY tk rfl rfl rfl rfl rfl rfl rfl rfl rfl (by rw [zl]; exact (zg.1 k148.2).1) (PLe.refl _ _) rfl rfl rfl rfl (by decide) (bD (fun _=>rfl) k148.2 rfl hy21) ?_
  refine aY (al 3 tk rfl (bm 3 tk rfl (aR ?_)))
  obtain rfl := ax H
  refine cz (y21,(IntKind.i64.wrap (s18.2 + (1 : Int))),(IntKind.i64.wrap (s19.2 - (1 : Int)))) () hg9 (Gh.le (bp (PLe.of2 (mH.of_eq (congrArg (PV.own 0 g_data) ((bf (f := ah) hy20).trans (bf (f := ah) hy21))))) (ao (ao (ao aP)))) aD (aU aE))
 have H := cw hn9 Hp9
 refine ab ?_
 refine cA (tag := 0) rfl (fun ho0=>?_)
 refine bj tk mok ⟨false,true,[]⟩ [0,1,2,3,4,5,6,7,8,9,10,11,12,13,14,15] rfl (by decide +kernel) rfl (aI 6 rfl ?_)
 obtain ⟨x159,k159,H⟩ := aT H
 refine aH tk ⟨k159.1,(aV k159.2)⟩ (bd ho0 k159.2) ?_
 refine bc tk rfl rfl rfl rfl rfl rfl rfl rfl rfl (aJ (fun _=>rfl) k159.2) rfl rfl ?_
 refine aI 2 rfl ?_
 obtain ⟨x163,k163,H⟩ := aT H
 refine aH tk ⟨k163.1,(aV k163.2)⟩ (bd ho0 k163.2) ?_
 refine bc tk rfl rfl rfl rfl rfl rfl rfl rfl rfl (aJ (fun _=>rfl) k163.2) rfl rfl ?_
 obtain ⟨x165,k165,H⟩ := aT H
 refine aH tk ⟨k165.1,(aV k165.2)⟩ (bd ho0 k165.2) ?_
 obtain ⟨y22,hy22,H⟩ := bR H
 refine bY tk rfl rfl rfl rfl rfl rfl rfl rfl rfl (by rw [zl]; exact (zg.1 k165.2).1) (PLe.refl _ _) rfl rfl rfl rfl (by decide) (bD (fun _=>rfl) k165.2 rfl hy22) ?_
 obtain ⟨x166,k166,H⟩ := aT H
 refine aH tk ⟨k166.1,(gw (bf (f := ah) hy22) k166.2)⟩ (gS ho0 (bf (f := ah) hy22) k166.2) ?_
 obtain ⟨y23,hy23,H⟩ := bR H
 refine bY tk rfl rfl rfl rfl rfl rfl rfl rfl rfl (by rw [zl]; exact (zg.1 k166.2).1) (PLe.refl _ _) rfl rfl rfl rfl (by decide) (bD (fun _=>rfl) k166.2 rfl hy23) ?_
 refine aY (al 3 tk rfl ?_)
 obtain rfl := ax H
 refine cq (st' := ⟨168,upd (upd (fun _=>.any) 9 (aG false)) 8 (af s9.2.2),fun _=>none,upd (fun _=>none) 0 (some ⟨g_data,9,(y23.map ah),true⟩)⟩) (Gh.le (ao (ao aP)) aD (aU aE)) ?_
 refine dZ tk rfl (ps := [(af s9.2.2),(aG false)]) ⟨_,_,rfl,rfl,_,_,rfl,rfl,rfl⟩ (PLe.q rfl) ⟨rfl,rfl⟩
def dH (sA : List UInt8) (c0 : List (List UInt8)) : Option (Bool) :=
 ae (bv c0 sA) fun x6 =>
 some (!x6)
theorem nH (sA : List UInt8) (c0 : List (List UInt8)) (r : Bool) (H : dH sA c0 = some r) :
  ba Tryz.prog 79 [(.str sA),(.ptr [(.list 9 (c0.map ah))])] (aG r) := by
 unfold dH at H
 refine PH.ay Tryz.func79 Tryz.ntmps79 ?_
 refine al 1 tk rfl (ab (aa (ag 2 tk rfl ?_)))
 obtain ⟨x6,h6,H⟩ := am H
 have s6 := dI c0 sA _ h6
 refine aq Tryz.call38 (dS.r) s6 ?_
 refine ag 2 tk rfl (ac ?_)
 exact bB tk H rfl
def gV (q : LQuery) (names : List (List UInt8)) : Option (LQuery) :=
 ae (aM (σ := List (List UInt8) × List LExpr) (ρ := Empty) (fun (j1 : Nat) (x1 : List UInt8) (s1 : List (List UInt8) × List LExpr) =>
  ae (bv names x1) fun x21 =>
  cond x21
   (ae (aC q.exprs (j1 : Int)) fun (x32 : LExpr) =>
   ae (dF 16 s1.1 ([x1] : List (List UInt8))) fun (x26 : List (List UInt8)) =>
   ae (dF 88 s1.2 ([x32] : List LExpr)) fun (x35 : List LExpr) =>
   some (.next (x26,x35)))
   (some (.next (s1.1,s1.2)))) 0 q.names ([],[])) fun fl1=>fl1.thenP fun (s1 : List (List UInt8) × List LExpr) =>
 cond ((s1.1.length : Int) == (0 : Int))
  (ae (mi q.names 0 1) fun (x45 : List (List UInt8)) =>
  ae (mi q.exprs 0 1) fun (x48 : List LExpr) =>
  some (LQuery.mk q.kind q.table x45 x48 q.aggregates q.descending q.count q.offset q.inputs))
  (some (LQuery.mk q.kind q.table s1.1 s1.2 q.aggregates q.descending q.count q.offset q.inputs))
theorem rD {gI : OwnRef} {lnI : Nat} (q : LQuery) (names : List (List UInt8)) (r : LQuery) (H : gV q names = some r) :
  ba Tryz.prog 81 [(.agg [(af q.kind),(.str q.table),(.list 9 (q.names.map ah)),(.list 91 (q.exprs.map aF)),(.list 88 (q.aggregates.map bV)),(.list 4 (q.descending.map dl)),(af q.count),(af q.offset),(.val (OwnRef.val gI lnI))]),(.list 9 (names.map ah))] (.agg [(af r.kind),(.str r.table),(.list 9 (r.names.map ah)),(.list 91 (r.exprs.map aF)),(.list 88 (r.aggregates.map bV)),(.list 4 (r.descending.map dl)),(af r.count),(af r.offset),(.val (OwnRef.val gI lnI))]) := by
 unfold gV at H
 refine PH.ay Tryz.func81 Tryz.ntmps81 ?_
 refine ab (aa ?_)
 refine rN (d := 2) rfl rfl rfl rfl rfl fun b2=>?_
 refine aX tk fun b4=>?_
 refine ac (ab (aa (aB tk ?_)))
 refine aX tk fun b5=>?_
 refine av tk ?_
 refine ac (ab (aa (ak tk rfl (av tk ?_))))
 refine ak tk rfl (av tk ?_)
 refine ac (ab (ab (aa (ak tk rfl (aB tk ?_)))))
 refine aK tk (zl _) ?_
 refine ak tk rfl (ac (gn 2 ?_))
 refine iz tk 5 2 26 (e := 9) rfl rfl rfl rfl (iz tk 5 3 35 (e := 91) rfl rfl rfl rfl ?_)
 refine fC (γ := OwnRef × OwnRef) tk 14 13 12 (fun s1 g1=>upd (upd (upd (upd (fun _=>.any) 5 (.box 5 b5 0)) 4 (.box 4 b4 0)) 2 (.ptr [(af q.kind),(.str q.table),(.list 9 (q.names.map ah)),(.list 91 (q.exprs.map aF)),(.list 88 (q.aggregates.map bV)),(.list 4 (q.descending.map dl)),(af q.count),(af q.offset),(.val (OwnRef.val gI lnI))])) 1 (.list 9 (names.map ah))) (fun s1 g1=>upd (upd (fun _=>none) 5 (some ⟨b5,[(af q.kind),(.str q.table),(.own 26 g1.1 (s1.1.map ah).length),(.own 35 g1.2 (s1.2.map aF).length),(.list 88 (q.aggregates.map bV)),(.list 4 (q.descending.map dl)),(af q.count),(af q.offset),(.val (OwnRef.val gI lnI))]⟩)) 4 (some ⟨b4,[(af 0),(.str []),(.val (.slice none 0 0)),(.val (.slice none 0 0)),(.val (.slice none 0 0)),(.val (.slice none 0 0)),(af 0),(af 0),(.val (.slice none 0 0))]⟩)) (fun s1 g1=>upd (upd (fun _=>none) 35 (some ⟨g1.2,91,(s1.2.map aF),true⟩)) 26 (some ⟨g1.1,9,(s1.1.map ah),true⟩)) (⟨none,0⟩,⟨none,0⟩) H (fun fl1 Hp1 j1 s1 g1 hz1 hl1 x1 fb1 hx1 H hg1=>?_) (fun s1 g1 H=>?_)
 ·refine ab (az (ab (aa (ak tk rfl ?_))))
  refine bn tk (zn j1) (bC (fun _=>rfl) hx1) ?_
  refine ag 3 tk rfl (ac (ab (aa (ag 2 tk rfl ?_))))
  obtain ⟨x21,h21,H⟩ := am H
  have s21 := dI names x1 _ h21
  refine aq Tryz.call38 (dS.r) s21 ?_
  refine ac ?_
  refine aL rfl H (fun H=>?_) (fun H=>?_)
  ·refine bj tk mok ⟨true,false,[30,33]⟩ [0,1,2,3,5,6,7,8,9,10,11,12,4,14,13,15,16,17] rfl (by decide +kernel) rfl (bN rfl (bh ?_))
   refine aI 3 rfl (bh ?_)
   refine aI 3 rfl ?_
   obtain ⟨x32,k32,H⟩ := aT H
   refine dN k32.1 (aJ cb k32.2) ?_
   refine aI 2 rfl ?_
   obtain ⟨x26,h26,H⟩ := am H
   have k26 := cQ h26
   refine gX (rows2' := List.map ah ([x1] : List (List UInt8))) (rows' := List.map ah x26) tk rfl rfl rfl rfl rfl rfl rfl rfl rfl rfl rfl rfl rfl rfl (eV.refl _) (eA k26.1) (et k26.2.1) (eB k26.2.2) fun g26=>?_
   refine bN rfl ?_
   obtain ⟨x35,h35,H⟩ := am H
   have k35 := cQ h35
   refine gX (rows2' := List.map aF ([x32] : List LExpr)) (rows' := List.map aF x35) tk rfl rfl rfl rfl rfl rfl rfl rfl rfl rfl rfl rfl rfl rfl (eV.trans (b := List.map cG [x32]) (eV.refl _) (eV.of_eq (jG cb [x32]))) (eA k35.1) (et k35.2.1) (eB k35.2.2) fun g35=>?_
   refine fE rfl rfl rfl rfl rfl rfl rfl rfl rfl rfl rfl rfl (bN rfl (fE rfl rfl rfl rfl rfl rfl rfl rfl rfl rfl rfl rfl (aY (aR (bm 2 tk rfl ?_)))))
   exact bO (g26,g35) H hl1 hg1
  refine au (aR (bm 2 tk rfl ?_))
  exact bO (g1.1,g1.2) H hl1 hg1
 refine ab (ab (aa (ak tk rfl (aB tk ?_))))
 refine io tk (zl _) ?_
 refine ak tk rfl (ac ?_)
 refine aL rfl H (fun H=>?_) (fun H=>?_)
 ·refine bj tk mok ⟨false,false,[]⟩ [0,1,2,3,4,5,6,7,8,9] rfl (by decide +kernel) rfl (aI 2 rfl ?_)
  obtain ⟨x45,h45,H⟩ := am H
  have k45 := lb h45
  refine rU rfl rfl rfl rfl rfl rfl (zl _) rfl rfl k45.1 (lV k45.2) rfl (aI 2 rfl ?_)
  obtain ⟨x48,h48,H⟩ := am H
  have k48 := lb h48
  refine rU rfl rfl rfl rfl rfl rfl (zl _) rfl rfl k48.1 (lV k48.2) rfl (bN rfl (fE rfl rfl rfl rfl rfl rfl rfl rfl rfl rfl rfl rfl (bN rfl (fE rfl rfl rfl rfl rfl rfl rfl rfl rfl rfl rfl rfl (aY (ab (aa (aB tk ?_))))))))
  refine av tk ?_
  refine ac ?_
  exact jW tk H rfl rfl rfl rfl rfl
 refine au (ab (aa (aB tk ?_)))
 refine av tk ?_
 refine ac (eN 4 2 rfl rfl rfl rfl rfl (eN 4 3 rfl rfl rfl rfl rfl ?_))
 exact jW tk H rfl rfl rfl rfl rfl
def ig (q : LQuery) (names : List (List UInt8)) : Option (LQuery) :=
 ae (aM (σ := List LAggregateCall) (ρ := Empty) (fun (_ : Nat) (x1 : LAggregateCall) (s1 : List LAggregateCall) =>
  ae (bv names x1.name) fun x20 =>
  cond x20
   (ae (dF 56 s1 ([x1] : List LAggregateCall)) fun (x25 : List LAggregateCall) =>
   some (.next x25))
   (some (.next s1))) 0 q.aggregates []) fun fl1=>fl1.thenP fun (s1 : List LAggregateCall) =>
 cond ((IntKind.i64.wrap ((s1.length : Int) + (q.exprs.length : Int))) == (0 : Int))
  (ae (mi q.aggregates 0 1) fun (x38 : List LAggregateCall) =>
  some (LQuery.mk q.kind q.table q.names q.exprs x38 q.descending q.count q.offset q.inputs))
  (some (LQuery.mk q.kind q.table q.names q.exprs s1 q.descending q.count q.offset q.inputs))
theorem rO {gI : OwnRef} {lnI : Nat} (q : LQuery) (names : List (List UInt8)) (r : LQuery) (H : ig q names = some r) :
  ba Tryz.prog 82 [(.agg [(af q.kind),(.str q.table),(.list 9 (q.names.map ah)),(.list 91 (q.exprs.map aF)),(.list 88 (q.aggregates.map bV)),(.list 4 (q.descending.map dl)),(af q.count),(af q.offset),(.val (OwnRef.val gI lnI))]),(.list 9 (names.map ah))] (.agg [(af r.kind),(.str r.table),(.list 9 (r.names.map ah)),(.list 91 (r.exprs.map aF)),(.list 88 (r.aggregates.map bV)),(.list 4 (r.descending.map dl)),(af r.count),(af r.offset),(.val (OwnRef.val gI lnI))]) := by
 unfold ig at H
 refine PH.ay Tryz.func82 Tryz.ntmps82 ?_
 refine ab (aa ?_)
 refine rN (d := 2) rfl rfl rfl rfl rfl fun b2=>?_
 refine aX tk fun b4=>?_
 refine ac (ab (aa (aB tk ?_)))
 refine aX tk fun b5=>?_
 refine av tk ?_
 refine ac (ab (aa (ak tk rfl (av tk ?_))))
 refine ac (ab (ab (aa (ak tk rfl (aB tk ?_)))))
 refine aK tk (zl _) ?_
 refine ak tk rfl (ac (iz tk 5 4 25 (e := 88) rfl rfl rfl rfl ?_))
 refine fC (γ := OwnRef) tk 13 12 11 (fun s1 g1=>upd (upd (upd (upd (fun _=>.any) 5 (.box 5 b5 0)) 4 (.box 4 b4 0)) 2 (.box 2 b2 0)) 1 (.list 9 (names.map ah))) (fun s1 g1=>upd (upd (upd (fun _=>none) 5 (some ⟨b5,[(af q.kind),(.str q.table),(.list 9 (q.names.map ah)),(.list 91 (q.exprs.map aF)),(.own 25 g1 (s1.map bV).length),(.list 4 (q.descending.map dl)),(af q.count),(af q.offset),(.val (OwnRef.val gI lnI))]⟩)) 4 (some ⟨b4,[(af 0),(.str []),(.val (.slice none 0 0)),(.val (.slice none 0 0)),(.val (.slice none 0 0)),(.val (.slice none 0 0)),(af 0),(af 0),(.val (.slice none 0 0))]⟩)) 2 (some ⟨b2,[(af q.kind),(.str q.table),(.list 9 (q.names.map ah)),(.list 91 (q.exprs.map aF)),(.list 88 (q.aggregates.map bV)),(.list 4 (q.descending.map dl)),(af q.count),(af q.offset),(.val (OwnRef.val gI lnI))]⟩)) (fun s1 g1=>upd (fun _=>none) 25 (some ⟨g1,88,(s1.map bV),true⟩)) (⟨none,0⟩) H (fun fl1 Hp1 j1 s1 g1 hz1 hl1 x1 fb1 hx1 H hg1=>?_) (fun s1 g1 H=>?_)
 ·refine ab (az (ab (aa ?_)))
  refine bn tk (zn j1) (bC (fun _=>rfl) hx1) ?_
  refine ak tk rfl ?_
  refine aX tk fun b7=>?_
  refine av tk ?_
  refine ac (ab (aa (ag 2 tk rfl (aB tk ?_))))
  obtain ⟨x20,h20,H⟩ := am H
  have s20 := dI names x1.name _ h20
  refine aq Tryz.call38 (dS.r) s20 ?_
  refine ac ?_
  refine aL rfl H (fun H=>?_) (fun H=>?_)
  ·refine aa (ak tk rfl (aB tk ?_))
   refine aB tk ?_
   refine ew tk (rows' := List.map bV ([x1] : List LAggregateCall)) (eV.refl _) ?_
   obtain ⟨x25,h25,H⟩ := am H
   have k25 := cQ h25
   refine dq (rows2' := List.map bV ([x1] : List LAggregateCall)) (rows' := List.map bV x25) tk rfl rfl rfl rfl rfl rfl rfl rfl rfl rfl rfl rfl rfl (eV.refl _) (eA k25.1) (et k25.2.1) (eB k25.2.2) fun g25=>?_
   refine ak tk rfl (av tk ?_)
   refine ac (aR (bm 2 tk rfl ?_))
   exact bO g25 H hl1 hg1
  refine au (aR (bm 2 tk rfl ?_))
  exact bO g1 H hl1 hg1
 refine ab (ab (aa (ak tk rfl (aB tk ?_))))
 refine io tk (zl _) ?_
 refine ak tk rfl (aB tk ?_)
 refine aK tk (zl _) ?_
 refine ag 2 tk rfl (ac ?_)
 refine aL rfl H (fun H=>?_) (fun H=>?_)
 ·refine aa (ak tk rfl (aB tk ?_))
  obtain ⟨x38,h38,H⟩ := am H
  have k38 := lb h38
  refine rW tk rfl rfl rfl rfl rfl (zl _) rfl rfl k38.1 (lV k38.2) rfl (ak tk rfl (av tk ?_))
  refine ac (ab (aa (aB tk ?_)))
  refine av tk ?_
  refine ac ?_
  exact jW tk H rfl rfl rfl rfl rfl
 refine au (ab (aa (aB tk ?_)))
 refine av tk ?_
 refine ac (eN 4 4 rfl rfl rfl rfl rfl ?_)
 exact jW tk H rfl rfl rfl rfl rfl
def gA (a : LVal) (op : List UInt8) (b : LVal) : Bool × Int :=
 be (
  cond (!(op == ([61] : List UInt8)))
   (cond (!(op == ([60] : List UInt8)))
    ((!(op == ([60,61] : List UInt8))))
    (false))
   (false)) fun (t1 : Bool) =>
 cond t1
  ((false,3))
  (be (
   cond (a.kind == (0 : Int))
    (true)
    ((b.kind == (0 : Int)))) fun (t2 : Bool) =>
  cond t2
   ((true,0))
   (be (jM a b) fun x29 =>
   cond (x29 == (0 : Int))
    (cond (!(op == ([60] : List UInt8)))
     ((true,0))
     (cond (decide (x29 < (0 : Int)))
      (((!(op == ([61] : List UInt8))),0))
      ((false,0))))
    (cond (decide (x29 < (0 : Int)))
     (((!(op == ([61] : List UInt8))),0))
     ((false,0)))))
theorem rg (a : LVal) (op : List UInt8) (b : LVal) :
  ba Tryz.prog 107 [(.agg (hJ a)),(.str op),(.agg (hJ b))] (.tup [(aG ((gA a op b).1)),(af ((gA a op b).2))]) := by
 obtain ⟨r,H⟩ : ∃ r,gA a op b = r := ⟨_,rfl⟩
 rw [H]
 unfold gA at H
 refine PH.ay Tryz.func107 Tryz.ntmps107 ?_
 refine ab (aa (aS ?_))
 refine aS ?_
 refine ag 2 tk rfl (ac (ab (ab ?_)))
 refine ff (γ := Unit) (fun t1 g1=>⟨44,upd (upd (upd (upd (fun _=>.any) 18 (aG t1)) 5 (.ptr (hJ b))) 3 (.ptr (hJ a))) 1 (.str op),fun _=>none,fun _=>none⟩) H (fun _ H=>?_) (fun t1 g1 H=>?_)
 ·refine aa (ag 3 tk rfl ?_)
  refine bw rfl rfl rfl H (fun H=>?_) (fun H=>?_)
  ·refine ag 4 tk rfl ?_
   refine bw rfl rfl rfl H (fun H=>?_) (fun H=>?_)
   ·refine ag 3 tk rfl (ac ?_)
    refine aQ _ () H Gh.d
   refine ag 3 tk rfl (ac ?_)
   refine aQ _ () H Gh.d
  refine ag 7 tk rfl (ac ?_)
  refine aQ _ () H Gh.d
 refine aL rfl H (fun H=>?_) (fun H=>?_)
 ·refine al 2 tk rfl ?_
  exact dP tk H rfl
 refine au (ab (ab ?_))
 refine ff (γ := Unit) (fun t2 g2=>⟨44,upd (upd (upd (upd (fun _=>.any) 26 (aG t2)) 5 (.ptr (hJ b))) 3 (.ptr (hJ a))) 1 (.str op),fun _=>none,fun _=>none⟩) H (fun _ H=>?_) (fun t2 g2 H=>?_)
 ·refine aa (ag 4 tk rfl ?_)
  refine bw rfl rfl rfl H (fun H=>?_) (fun H=>?_)
  ·refine ag 4 tk rfl (ac ?_)
   refine aQ _ () H Gh.d
  refine ag 4 tk rfl (ac ?_)
  refine aQ _ () H Gh.d
 refine aL rfl H (fun H=>?_) (fun H=>?_)
 ·refine al 2 tk rfl ?_
  exact dP tk H rfl
 refine au (ab (aa (ag 2 tk rfl ?_)))
 obtain ⟨x29,h29,H⟩ := bR H
 have s29 := rP a b
 rw [h29] at s29
 refine aq Tryz.call123 (dS.r) s29 ?_
 refine ak tk rfl (ac (ab (aa (ag 3 tk rfl ?_))))
 refine bw rfl rfl rfl H (fun H=>?_) (fun H=>?_)
 ·refine ag 4 tk rfl ?_
  refine bw rfl rfl rfl H (fun H=>?_) (fun H=>?_)
  ·refine ag 9 tk rfl (ac ?_)
   exact dP tk H rfl
  refine ag 3 tk rfl ?_
  refine bw rfl rfl rfl H (fun H=>?_) (fun H=>?_)
  ·refine ag 6 tk rfl (ac ?_)
   exact dP tk H rfl
  refine ag 6 tk rfl (ac ?_)
  exact dP tk H rfl
 refine ag 7 tk rfl ?_
 refine bw rfl rfl rfl H (fun H=>?_) (fun H=>?_)
 ·refine ag 6 tk rfl (ac ?_)
  exact dP tk H rfl
 refine ag 6 tk rfl (ac ?_)
 exact dP tk H rfl
def jB (q : LQuery) : Option (Bool) :=
 ae (
  cond (decide (q.kind < (1 : Int)))
   (some true)
   (cond (decide (q.kind > (10 : Int)))
    (some true)
    (ae (aC ([(-1),0,1,1,2,2,2,2,1,1,1] : List Int) q.kind) fun (x21 : Int) =>
    some ((q.inputs.length : Int) != x21)))) fun (t1 : Bool) =>
 cond t1
  (some false)
  (ae (
   ae (dr ([1] : List Int) q) fun x29 =>
   cond (!x29)
    (some (!(q.table == ([] : List UInt8))))
    (some false)) fun (t2 : Bool) =>
  ae (
   cond t2
    (some t2)
    (ae (
     ae (dr ([3,8] : List Int) q) fun x38 =>
     cond (!x38)
      (some (decide ((q.names.length : Int) > (0 : Int))))
      (some false)) fun (t7 : Bool) =>
    cond t7
     (some t7)
     (ae (
      ae (dr ([8] : List Int) q) fun x48 =>
      cond (!x48)
       (some (decide ((q.aggregates.length : Int) > (0 : Int))))
       (some false)) fun (t8 : Bool) =>
     cond t8
      (some t8)
      (ae (
       ae (dr ([9] : List Int) q) fun x58 =>
       cond (!x58)
        (some (decide ((q.descending.length : Int) > (0 : Int))))
        (some false)) fun (t9 : Bool) =>
      cond t9
       (some t9)
       (ae (dr ([10] : List Int) q) fun x68 =>
       cond (!x68)
        (cond (q.count != (0 : Int))
         (some true)
         (some (q.offset != (0 : Int))))
        (some false)))))) fun (t6 : Bool) =>
  cond t6
   (some false)
   (ae (dr ([2,4,5] : List Int) q) fun x83 =>
   cond x83
    (some ((q.exprs.length : Int) == (1 : Int)))
    (ae (dr ([3,8] : List Int) q) fun x91 =>
    cond x91
     (cond ((q.exprs.length : Int) == (q.names.length : Int))
      (some (decide ((IntKind.i64.wrap ((q.exprs.length : Int) + (q.aggregates.length : Int))) > (0 : Int))))
      (some false))
     (ae (dr ([9] : List Int) q) fun x112 =>
     cond x112
      (cond ((q.exprs.length : Int) == (q.descending.length : Int))
       (some (decide ((q.exprs.length : Int) > (0 : Int))))
       (some false))
      (ae (dr ([10] : List Int) q) fun x129 =>
      cond x129
       (cond ((q.exprs.length : Int) == (0 : Int))
        (cond (decide (q.count ≥ (0 : Int)))
         (some (decide (q.offset ≥ (0 : Int))))
         (some false))
        (some false))
       (some ((q.exprs.length : Int) == (0 : Int))))))))
theorem W_query_shape (q : LQuery) (r : Bool) (H : jB q = some r) :
  ba Tryz.prog 168 [(.agg (aA q))] (aG r) := by
 unfold jB at H
 refine PH.ay Tryz.func168 Tryz.ntmps168 ?_
 refine ab (aa (aS ?_))
 refine ak tk rfl (ac (ab (aa (sI (e := 3) (rows := [[(af (-1))],[(af 0)],[(af 1)],[(af 1)],[(af 2)],[(af 2)],[(af 2)],[(af 2)],[(af 1)],[(af 1)],[(af 1)]]) tk rfl rfl rfl rfl (rows' := List.map bP ([(-1),0,1,1,2,2,2,2,1,1,1] : List Int)) (by kernel_rfl) (eV.refl _) rfl rfl (ak tk rfl (ac (ab (ab ?_))))))))
 refine fp (γ := Unit) (fun t1 g1=>⟨148,upd (upd (fun _=>.any) 24 (aG t1)) 1 (.ptr (aA q)),fun _=>none,fun _=>none⟩) H (fun _ H=>?_) (fun t1 g1 H=>?_)
 ·refine bj tk mok ⟨false,false,[]⟩ [0,1,2,3,4,5,6,7,8,9,10,11,12,13,14,15,16,17,18] rfl (by decide +kernel) rfl (aI 4 rfl ?_)
  refine ir H (fun H=>?_) (fun H=>?_)
  ·refine aI 15 rfl (aY ?_)
   refine aQ _ () (ax H) Gh.d
  refine aI 5 rfl ?_
  refine ir H (fun H=>?_) (fun H=>?_)
  ·refine aI 10 rfl (aY ?_)
   refine aQ _ () (ax H) Gh.d
  refine aI 2 rfl (Do.lenL rfl rfl rfl rfl rfl rfl (zl _) rfl (aI 3 rfl ?_))
  obtain ⟨x21,k21,H⟩ := aT H
  refine dN k21.1 (aJ (fun _=>rfl) k21.2) ?_
  refine aI 3 rfl (aY ?_)
  refine aQ _ () (ax H) Gh.d
 refine aL rfl H (fun H=>?_) (fun H=>?_)
 ·refine al 1 tk rfl ?_
  exact bB tk H rfl
 refine au (al 2 tk rfl (ab (az (ab (ab ?_)))))
 refine fp (γ := Unit) (fun t2 g2=>⟨148,upd (upd (upd (fun _=>.any) 26 (aG t2)) 4 (.fn 229 [(.ptr (aA q))])) 1 (.ptr (aA q)),fun _=>none,fun _=>none⟩) H (fun _ H=>?_) (fun t2 g2 H=>?_)
 ·refine aa (ak tk rfl (ew tk (rows' := List.map bP ([1] : List Int)) (eV.refl _) ?_))
  obtain ⟨x29,h29,H⟩ := am H
  have s29 := eX ([1] : List Int) q _ h29
  refine aq Tryz.call229 (dS.r) s29 ?_
  refine ag 2 tk rfl ?_
  refine bw rfl rfl rfl H (fun H=>?_) (fun H=>?_)
  ·refine ag 5 tk rfl (ac ?_)
   refine aQ _ () (ax H) Gh.d
  refine ag 5 tk rfl (ac ?_)
  refine aQ _ () (ax H) Gh.d
 refine fp (γ := Unit) (fun t6 g6=>⟨148,upd (upd (upd (fun _=>.any) 26 (aG t6)) 4 (.fn 229 [(.ptr (aA q))])) 1 (.ptr (aA q)),fun _=>none,fun _=>none⟩) H (fun _ H=>?_) (fun t6 g6 H=>?_)
 ·refine aL rfl H (fun H=>?_) (fun H=>?_)
  ·refine au ?_
   refine aQ _ () (ax H) Gh.d
  refine ab ?_
  refine fp (γ := Unit) (fun t7 g7=>⟨148,upd (upd (upd (fun _=>.any) 26 (aG t7)) 4 (.fn 229 [(.ptr (aA q))])) 1 (.ptr (aA q)),fun _=>none,fun _=>none⟩) H (fun _ H=>?_) (fun t7 g7 H=>?_)
  ·refine aa (ak tk rfl (ew tk (rows' := List.map bP ([3,8] : List Int)) (eV.refl _) ?_))
   obtain ⟨x38,h38,H⟩ := am H
   have s38 := eX ([3,8] : List Int) q _ h38
   refine aq Tryz.call229 (dS.r) s38 ?_
   refine ag 2 tk rfl ?_
   refine bw rfl rfl rfl H (fun H=>?_) (fun H=>?_)
   ·refine ag 2 tk rfl (aK tk (zl _) ?_)
    refine ag 3 tk rfl (ac ?_)
    refine aQ _ () (ax H) Gh.d
   refine ag 6 tk rfl (ac ?_)
   refine aQ _ () (ax H) Gh.d
  refine aL rfl H (fun H=>?_) (fun H=>?_)
  ·refine au ?_
   refine aQ _ () (ax H) Gh.d
  refine ab ?_
  refine fp (γ := Unit) (fun t8 g8=>⟨148,upd (upd (upd (fun _=>.any) 26 (aG t8)) 4 (.fn 229 [(.ptr (aA q))])) 1 (.ptr (aA q)),fun _=>none,fun _=>none⟩) H (fun _ H=>?_) (fun t8 g8 H=>?_)
  ·refine aa (ak tk rfl (ew tk (rows' := List.map bP ([8] : List Int)) (eV.refl _) ?_))
   obtain ⟨x48,h48,H⟩ := am H
   have s48 := eX ([8] : List Int) q _ h48
   refine aq Tryz.call229 (dS.r) s48 ?_
   refine ag 2 tk rfl ?_
   refine bw rfl rfl rfl H (fun H=>?_) (fun H=>?_)
   ·refine ag 2 tk rfl (aK tk (zl _) ?_)
    refine ag 3 tk rfl (ac ?_)
    refine aQ _ () (ax H) Gh.d
   refine ag 6 tk rfl (ac ?_)
   refine aQ _ () (ax H) Gh.d
  refine aL rfl H (fun H=>?_) (fun H=>?_)
  ·refine au ?_
   refine aQ _ () (ax H) Gh.d
  refine ab ?_
  refine fp (γ := Unit) (fun t9 g9=>⟨148,upd (upd (upd (fun _=>.any) 26 (aG t9)) 4 (.fn 229 [(.ptr (aA q))])) 1 (.ptr (aA q)),fun _=>none,fun _=>none⟩) H (fun _ H=>?_) (fun t9 g9 H=>?_)
  ·refine aa (ak tk rfl (ew tk (rows' := List.map bP ([9] : List Int)) (eV.refl _) ?_))
   obtain ⟨x58,h58,H⟩ := am H
   have s58 := eX ([9] : List Int) q _ h58
   refine aq Tryz.call229 (dS.r) s58 ?_
   refine ag 2 tk rfl ?_
   refine bw rfl rfl rfl H (fun H=>?_) (fun H=>?_)
   ·refine ag 2 tk rfl (aK tk (zl _) ?_)
    refine ag 3 tk rfl (ac ?_)
    refine aQ _ () (ax H) Gh.d
   refine ag 6 tk rfl (ac ?_)
   refine aQ _ () (ax H) Gh.d
  refine aL rfl H (fun H=>?_) (fun H=>?_)
  ·refine au ?_
   refine aQ _ () (ax H) Gh.d
  refine aa (ak tk rfl (ew tk (rows' := List.map bP ([10] : List Int)) (eV.refl _) ?_))
  obtain ⟨x68,h68,H⟩ := am H
  have s68 := eX ([10] : List Int) q _ h68
  refine aq Tryz.call229 (dS.r) s68 ?_
  refine ag 2 tk rfl ?_
  refine bw rfl rfl rfl H (fun H=>?_) (fun H=>?_)
  ·refine ag 4 tk rfl ?_
   refine bw rfl rfl rfl H (fun H=>?_) (fun H=>?_)
   ·refine ag 6 tk rfl (ac ?_)
    refine aQ _ () (ax H) Gh.d
   refine ag 6 tk rfl (ac ?_)
   refine aQ _ () (ax H) Gh.d
  refine ag 10 tk rfl (ac ?_)
  refine aQ _ () (ax H) Gh.d
 refine aL rfl H (fun H=>?_) (fun H=>?_)
 ·refine al 1 tk rfl ?_
  exact bB tk H rfl
 refine ab (aa (ak tk rfl (ew tk (rows' := List.map bP ([2,4,5] : List Int)) (eV.refl _) ?_)))
 obtain ⟨x83,h83,H⟩ := am H
 have s83 := eX ([2,4,5] : List Int) q _ h83
 refine aq Tryz.call229 (dS.r) s83 ?_
 refine ak tk rfl (ac ?_)
 refine aL rfl H (fun H=>?_) (fun H=>?_)
 ·refine ab (aa (ag 2 tk rfl (aK tk (zl _) ?_)))
  refine ag 2 tk rfl (ac ?_)
  exact bB tk H rfl
 refine ab (aa (ak tk rfl (ew tk (rows' := List.map bP ([3,8] : List Int)) (eV.refl _) ?_)))
 obtain ⟨x91,h91,H⟩ := am H
 have s91 := eX ([3,8] : List Int) q _ h91
 refine aq Tryz.call229 (dS.r) s91 ?_
 refine ak tk rfl (ac ?_)
 refine aL rfl H (fun H=>?_) (fun H=>?_)
 ·refine ab (aa (ag 2 tk rfl (aK tk (zl _) ?_)))
  refine ag 2 tk rfl (aK tk (zl _) ?_)
  refine ag 2 tk rfl ?_
  refine bw rfl rfl rfl H (fun H=>?_) (fun H=>?_)
  ·refine ag 2 tk rfl (aK tk (zl _) ?_)
   refine ag 2 tk rfl (aK tk (zl _) ?_)
   refine ag 4 tk rfl (ac ?_)
   exact bB tk H rfl
  refine ag 10 tk rfl (ac ?_)
  exact bB tk H rfl
 refine ab (aa (ak tk rfl (ew tk (rows' := List.map bP ([9] : List Int)) (eV.refl _) ?_)))
 obtain ⟨x112,h112,H⟩ := am H
 have s112 := eX ([9] : List Int) q _ h112
 refine aq Tryz.call229 (dS.r) s112 ?_
 refine ak tk rfl (ac ?_)
 refine aL rfl H (fun H=>?_) (fun H=>?_)
 ·refine ab (aa (ag 2 tk rfl (aK tk (zl _) ?_)))
  refine ag 2 tk rfl (aK tk (zl _) ?_)
  refine ag 2 tk rfl ?_
  refine bw rfl rfl rfl H (fun H=>?_) (fun H=>?_)
  ·refine ag 2 tk rfl (aK tk (zl _) ?_)
   refine ag 3 tk rfl (ac ?_)
   exact bB tk H rfl
  refine ag 6 tk rfl (ac ?_)
  exact bB tk H rfl
 refine ab (aa (ak tk rfl (ew tk (rows' := List.map bP ([10] : List Int)) (eV.refl _) ?_)))
 obtain ⟨x129,h129,H⟩ := am H
 have s129 := eX ([10] : List Int) q _ h129
 refine aq Tryz.call229 (dS.r) s129 ?_
 refine ak tk rfl (ac ?_)
 refine aL rfl H (fun H=>?_) (fun H=>?_)
 ·refine ab (aa (ag 2 tk rfl (aK tk (zl _) ?_)))
  refine ag 2 tk rfl ?_
  refine bw rfl rfl rfl H (fun H=>?_) (fun H=>?_)
  ·refine ag 5 tk rfl ?_
   refine bw rfl rfl rfl H (fun H=>?_) (fun H=>?_)
   ·refine ag 5 tk rfl (ac ?_)
    exact bB tk H rfl
   refine ag 5 tk rfl (ac ?_)
   exact bB tk H rfl
  refine ag 10 tk rfl (ac ?_)
  exact bB tk H rfl
 refine au (aR (ab (aa (ag 2 tk rfl (aK tk (zl _) ?_)))))
 refine ag 2 tk rfl (ac ?_)
 exact bB tk H rfl
def dB (c : LChecker) (l : List LCol) (e : LExpr) : Int :=
 be (fG l c.vars e) fun x15 =>
 cond (x15.2.2 == (0 : Int))
  (cond (x15.1 != (2 : Int))
   (cond (x15.1 != (0 : Int))
    (7)
    (x15.2.2))
   (x15.2.2))
  (x15.2.2)
theorem jK (c : LChecker) (l : List LCol) (e : LExpr) :
  ba Tryz.prog 231 [(.agg (ef c)),(.list 68 (l.map bg)),(.agg (cG e))] (af (dB c l e)) := by
 obtain ⟨r,H⟩ : ∃ r,dB c l e = r := ⟨_,rfl⟩
 rw [H]
 unfold dB at H
 refine PH.ay Tryz.func231 Tryz.ntmps231 ?_
 refine ab (aa (aS ?_))
 refine aS ?_
 refine ak tk rfl (ac (ab (aa (ag 4 tk rfl ?_))))
 obtain ⟨x15,h15,H⟩ := bR H
 have s15 := mn l c.vars e
 rw [h15] at s15
 refine aq Tryz.call132 (dS.r) s15 ?_
 refine ag 7 tk rfl (ac (ab (ab (aa (ag 3 tk rfl ?_)))))
 refine bw rfl rfl rfl H (fun H=>?_) (fun H=>?_)
 ·refine ag 4 tk rfl ?_
  refine bw rfl rfl rfl H (fun H=>?_) (fun H=>?_)
  ·refine ag 3 tk rfl (ac ?_)
   refine aL rfl H (fun H=>?_) (fun H=>?_)
   ·refine al 1 tk rfl ?_
    exact dP tk H rfl
   refine au (al 2 tk rfl ?_)
   exact dP tk H rfl
  refine ag 3 tk rfl (ac (dE rfl (au (al 2 tk rfl ?_))))
  exact dP tk H rfl
 refine ag 7 tk rfl (ac (dE rfl (au (al 2 tk rfl ?_))))
 exact dP tk H rfl
def fH (c : LChecker) (inA : List LCol) (a : LAggregateCall) : Option (Int × Int) :=
 ae (
  be (ec a.name) fun x13 =>
  cond (!x13)
   (some true)
   (ae (bv ([[99,111,117,110,116],[115,117,109],[109,105,110],[109,97,120]] : List (List UInt8)) a.function) fun x19 =>
   cond (!x19)
    (some true)
    (cond (decide ((a.args.length : Int) > (1 : Int)))
     (some true)
     (cond (decide ((a.args.length : Int) < (1 : Int)))
      (some (!(a.function == ([99,111,117,110,116] : List UInt8))))
      (some false))))) fun (t1 : Bool) =>
 cond t1
  (some (0,3))
  (cond ((a.args.length : Int) == (0 : Int))
   (some (1,0))
   (ae (aC a.args 0) fun (x49 : LExpr) =>
   be (fG inA c.vars x49) fun x51 =>
   cond (x51.2.2 != (0 : Int))
    (some (0,x51.2.2))
    (be (
     cond (x51.1 == (0 : Int))
      (true)
      (cond (a.function == ([115,117,109] : List UInt8))
       ((x51.1 != (1 : Int)))
       (false))) fun (t2 : Bool) =>
    cond t2
     (some (0,7))
     (cond (a.function == ([99,111,117,110,116] : List UInt8))
      (some (1,0))
      (some (x51.1,0))))))
theorem qk (c : LChecker) (inA : List LCol) (a : LAggregateCall) (r : Int × Int) (H : fH c inA a = some r) :
  ba Tryz.prog 267 [(.agg (ef c)),(.list 68 (inA.map bg)),(.agg (bV a))] (.tup [(af r.1),(af r.2)]) := by
 unfold fH at H
 refine PH.ay Tryz.func267 Tryz.ntmps267 ?_
 refine ab (aa (aS ?_))
 refine aS ?_
 refine ag 2 tk rfl (ac (ab (ab ?_)))
 refine fp (γ := Unit) (fun t1 g1=>⟨76,upd (upd (upd (upd (fun _=>.any) 38 (aG t1)) 5 (.ptr (bV a))) 3 (.ptr (ef c))) 1 (.list 68 (inA.map bg)),fun _=>none,fun _=>none⟩) H (fun _ H=>?_) (fun t1 g1 H=>?_)
 ·refine aa (ag 2 tk rfl ?_)
  obtain ⟨x13,h13,H⟩ := bR H
  have s13 := lL a.name
  rw [h13] at s13
  refine aq Tryz.call127 (dS.r) s13 ?_
  refine ag 2 tk rfl ?_
  refine bw rfl rfl rfl H (fun H=>?_) (fun H=>?_)
  ·refine ag 23 tk rfl (ac ?_)
   refine aQ _ () (ax H) Gh.d
  refine ew tk (rows' := List.map ah ([[99,111,117,110,116],[115,117,109],[109,105,110],[109,97,120]] : List (List UInt8))) (eV.refl _) ?_
  refine ag 2 tk rfl ?_
  obtain ⟨x19,h19,H⟩ := am H
  have s19 := dI ([[99,111,117,110,116],[115,117,109],[109,105,110],[109,97,120]] : List (List UInt8)) a.function _ h19
  refine aq Tryz.call38 (dS.r) s19 ?_
  refine ag 3 tk rfl ?_
  refine bw rfl rfl rfl H (fun H=>?_) (fun H=>?_)
  ·refine ag 16 tk rfl (ac ?_)
   refine aQ _ () (ax H) Gh.d
  refine ag 2 tk rfl (aK tk (zl _) ?_)
  refine ag 3 tk rfl ?_
  refine bw rfl rfl rfl H (fun H=>?_) (fun H=>?_)
  ·refine ag 10 tk rfl (ac ?_)
   refine aQ _ () (ax H) Gh.d
  refine ag 2 tk rfl (aK tk (zl _) ?_)
  refine ag 2 tk rfl ?_
  refine bw rfl rfl rfl H (fun H=>?_) (fun H=>?_)
  ·refine ag 5 tk rfl (ac ?_)
   refine aQ _ () (ax H) Gh.d
  refine ag 5 tk rfl (ac ?_)
  refine aQ _ () (ax H) Gh.d
 refine aL rfl H (fun H=>?_) (fun H=>?_)
 ·refine al 2 tk rfl ?_
  exact bB tk H rfl
 refine au (ab (ab (aa (ag 2 tk rfl (aK tk (zl _) ?_)))))
 refine ak tk rfl (ac ?_)
 refine aL rfl H (fun H=>?_) (fun H=>?_)
 ·refine al 2 tk rfl ?_
  exact bB tk H rfl
 refine au (ab (bj tk mok ⟨false,false,[]⟩ [0,1,2,3,4,5,6,7,8,9,10,11,12,13,14] rfl (by decide +kernel) rfl (aI 5 rfl ?_)))
 obtain ⟨x49,k49,H⟩ := aT H
 refine dN k49.1 (aJ cb k49.2) ?_
 refine bN rfl ?_
 obtain ⟨x51,h51,H⟩ := bR H
 have s51 := mn inA c.vars x49
 rw [h51] at s51
 refine br Tryz.call132 (dS.r) s51 ?_
 refine aI 7 rfl (aY (ab (az (al 3 tk rfl ?_))))
 refine aL rfl H (fun H=>?_) (fun H=>?_)
 ·refine al 3 tk rfl ?_
  exact bB tk H rfl
 refine ab ?_
 refine ff (γ := Unit) (fun t2 g2=>⟨76,upd (upd (upd (fun _=>.any) 59 (aG t2)) 8 (af x51.1)) 5 (.ptr (bV a)),fun _=>none,fun _=>none⟩) H (fun _ H=>?_) (fun t2 g2 H=>?_)
 ·refine aa (ag 3 tk rfl ?_)
  refine bw rfl rfl rfl H (fun H=>?_) (fun H=>?_)
  ·refine ag 9 tk rfl (ac ?_)
   refine aQ _ () H Gh.d
  refine ag 4 tk rfl ?_
  refine bw rfl rfl rfl H (fun H=>?_) (fun H=>?_)
  ·refine ag 5 tk rfl (ac ?_)
   refine aQ _ () H Gh.d
  refine ag 5 tk rfl (ac ?_)
  refine aQ _ () H Gh.d
 refine aL rfl H (fun H=>?_) (fun H=>?_)
 ·refine al 2 tk rfl ?_
  exact bB tk H rfl
 refine al 4 tk rfl ?_
 refine aL rfl H (fun H=>?_) (fun H=>?_)
 ·refine al 2 tk rfl ?_
  exact bB tk H rfl
 refine au (aR (al 3 tk rfl ?_))
 exact bB tk H rfl
def mO (rec27 : LQuery → Option (LQuery)) (q : LQuery) : Option (LQuery) :=
 ae (aM (σ := List LExpr) (ρ := Empty) (fun (_ : Nat) (x1 : LExpr) (s1 : List LExpr) =>
  ae (jh x1) fun x32 =>
  ae (dF 88 s1 ([x32] : List LExpr)) fun (x34 : List LExpr) =>
  some (.next x34)) 0 q.exprs []) fun fl1=>fl1.thenP fun (s1 : List LExpr) =>
 ae (aM (σ := List LAggregateCall) (ρ := Empty) (fun (_ : Nat) (x2 : LAggregateCall) (s2 : List LAggregateCall) =>
  ae (iN x2.args) fun x52 =>
  ae (dF 56 s2 ([(LAggregateCall.mk x2.name x2.function x52)] : List LAggregateCall)) fun (x55 : List LAggregateCall) =>
  some (.next x55)) 0 q.aggregates []) fun fl2=>fl2.thenP fun (s2 : List LAggregateCall) =>
 ae (aM (σ := List LQuery) (ρ := Empty) (fun (_ : Nat) (x3 : LQuery) (s3 : List LQuery) =>
  ae (rec27 x3) fun x68 =>
  ae (dF 160 s3 ([x68] : List LQuery)) fun (x70 : List LQuery) =>
  some (.next x70)) 0 q.inputs []) fun fl3=>fl3.thenP fun (s3 : List LQuery) =>
 some (LQuery.mk q.kind q.table q.names s1 s2 q.descending q.count q.offset s3)
theorem WO_query_Clone (rec27 : LQuery → Option (LQuery)) (hrec27 : ∀ a0 r,rec27 a0 = some r → ba Tryz.prog 27 [(.agg (aA a0))] (.agg (aA r))) (q : LQuery) (r : LQuery) (H : mO rec27 q = some r) :
  ba Tryz.prog 27 [(.agg (aA q))] (.agg (aA r)) := by
 unfold mO at H
 refine PH.ay Tryz.func27 Tryz.ntmps27 ?_
 refine ab (aa (aS ?_))
 refine aX tk fun b2=>?_
 refine ac (ab (aa (ak tk rfl ?_)))
 refine aX tk fun b3=>?_
 refine av tk ?_
 refine ac (ab (bj tk mok ⟨false,false,[]⟩ [0,1,3,4,2,6,5,7,8,9] rfl (by decide +kernel) rfl (aI 4 rfl ?_)))
 have s13 := pH (m := 13) q.names
 refine pD (g := 72) rfl rfl rfl rfl Tryz.call72 (dS.r) rfl rfl s13 (fun g13=>?_)
 refine bN rfl ?_
 have s16 := clone_73 (m := 16) q.descending
 refine pD (g := 73) rfl rfl rfl rfl Tryz.call73 (dS.r) rfl rfl s16 (fun g16=>?_)
 refine fE rfl rfl rfl rfl rfl rfl rfl rfl rfl rfl rfl rfl (bN rfl (fE rfl rfl rfl rfl rfl rfl rfl rfl rfl rfl rfl rfl (aY (ab (aa (ak tk rfl (av tk ?_)))))))
 refine ak tk rfl (av tk ?_)
 refine ak tk rfl (av tk ?_)
 refine ac (ab (ab (aa (ag 2 tk rfl (aK tk (zl _) ?_)))))
 refine ak tk rfl (ac (iz tk 3 3 34 (e := 91) rfl rfl rfl rfl ?_))
 refine fC (γ := OwnRef) tk 25 24 23 (fun s1 g1=>upd (upd (upd (fun _=>.any) 3 (.box 3 b3 0)) 2 (.box 2 b2 0)) 1 (.ptr (aA q))) (fun s1 g1=>upd (upd (fun _=>none) 3 (some ⟨b3,[(af q.kind),(.str q.table),(.own 13 g13 (q.names.map ah).length),(.own 34 g1 (s1.map aF).length),(.val (.slice none 0 0)),(.own 16 g16 (q.descending.map dl).length),(af q.count),(af q.offset),(.val (.slice none 0 0))]⟩)) 2 (some ⟨b2,[(af 0),(.str []),(.val (.slice none 0 0)),(.val (.slice none 0 0)),(.val (.slice none 0 0)),(.val (.slice none 0 0)),(af 0),(af 0),(.val (.slice none 0 0))]⟩)) (fun s1 g1=>upd (upd (upd (fun _=>none) 34 (some ⟨g1,91,(s1.map aF),true⟩)) 16 (some ⟨g16,4,(q.descending.map dl),true⟩)) 13 (some ⟨g13,9,(q.names.map ah),true⟩)) (⟨none,0⟩) H (fun fl1 Hp1 j1 s1 g1 hz1 hl1 x1 fb1 hx1 H hg1=>?_) (fun s1 g1 H=>?_)
 ·refine ab (az (ab (aa (bn tk (zn j1) (bC cb hx1) ?_))))
  refine ak tk rfl ?_
  refine aX tk fun b5=>?_
  refine av tk ?_
  refine ac (gn 5 ?_)
  refine bj tk mok ⟨true,false,[31]⟩ [0,1,2,3,4,5,6,7] rfl (by decide +kernel) rfl (bN rfl (bh ?_))
  refine bN rfl ?_
  obtain ⟨x32,h32,H⟩ := am H
  have s32 := nA x1 _ h32
  refine br Tryz.call74 (dS.r) s32 ?_
  refine bN rfl ?_
  obtain ⟨x34,h34,H⟩ := am H
  have k34 := cQ h34
  refine gX (rows2' := List.map aF ([x32] : List LExpr)) (rows' := List.map aF x34) tk rfl rfl rfl rfl rfl rfl rfl rfl rfl rfl rfl rfl rfl rfl (eV.trans (b := List.map cG [x32]) (eV.refl _) (eV.of_eq (jG cb [x32]))) (eA k34.1) (et k34.2.1) (eB k34.2.2) fun g34=>?_
  refine bN rfl (fE rfl rfl rfl rfl rfl rfl rfl rfl rfl rfl rfl rfl (aY (aR (bm 2 tk rfl ?_))))
  exact bO g34 H hl1 hg1
 refine ab (ab (aa (ag 2 tk rfl (aK tk (zl _) ?_))))
 refine ak tk rfl (ac (iz tk 3 4 55 (e := 88) rfl rfl rfl rfl ?_))
 refine fC (γ := OwnRef) tk 40 39 38 (fun s2 g2=>upd (upd (upd (fun _=>.any) 3 (.box 3 b3 0)) 2 (.box 2 b2 0)) 1 (.ptr (aA q))) (fun s2 g2=>upd (upd (fun _=>none) 3 (some ⟨b3,[(af q.kind),(.str q.table),(.own 13 g13 (q.names.map ah).length),(.own 34 g1 (s1.map aF).length),(.own 55 g2 (s2.map bV).length),(.own 16 g16 (q.descending.map dl).length),(af q.count),(af q.offset),(.val (.slice none 0 0))]⟩)) 2 (some ⟨b2,[(af 0),(.str []),(.val (.slice none 0 0)),(.val (.slice none 0 0)),(.val (.slice none 0 0)),(.val (.slice none 0 0)),(af 0),(af 0),(.val (.slice none 0 0))]⟩)) (fun s2 g2=>upd (upd (upd (upd (fun _=>none) 55 (some ⟨g2,88,(s2.map bV),true⟩)) 34 (some ⟨g1,91,(s1.map aF),true⟩)) 16 (some ⟨g16,4,(q.descending.map dl),true⟩)) 13 (some ⟨g13,9,(q.names.map ah),true⟩)) (⟨none,0⟩) H (fun fl2 Hp2 j2 s2 g2 hz2 hl2 x2 fb2 hx2 H hg2=>?_) (fun s2 g2 H=>?_)
 ·refine ab (az (ab (aa ?_)))
  refine bn tk (zn j2) (bC (fun _=>rfl) hx2) ?_
  refine ak tk rfl ?_
  refine aX tk fun b7=>?_
  refine av tk ?_
  refine ac (gn 7 ?_)
  refine bj tk mok ⟨true,false,[47,49,51]⟩ [0,1,2,3,4,5,6,7,8,9,10,11,12,13] rfl (by decide +kernel) rfl (bN rfl (bh ?_))
  refine aI 6 rfl ?_
  obtain ⟨x52,h52,H⟩ := am H
  have s52 := qi x2.args _ h52
  refine br Tryz.call75 (dS.r) s52 ?_
  refine aI 2 rfl ?_
  obtain ⟨x55,h55,H⟩ := am H
  have k55 := cQ h55
  refine gX (rows2' := List.map bV ([(LAggregateCall.mk x2.name x2.function x52)] : List LAggregateCall)) (rows' := List.map bV x55) tk rfl rfl rfl rfl rfl rfl rfl rfl rfl rfl rfl rfl rfl rfl (eV.refl _) (eA k55.1) (et k55.2.1) (eB k55.2.2) fun g55=>?_
  refine bN rfl (fE rfl rfl rfl rfl rfl rfl rfl rfl rfl rfl rfl rfl (aY (aR (bm 2 tk rfl ?_))))
  exact bO g55 H hl2 hg2
 refine ab (ab (aa (ag 2 tk rfl (aK tk (zl _) ?_))))
 refine ak tk rfl (ac (iz tk 3 8 70 (e := 33) rfl rfl rfl rfl ?_))
 refine fC (γ := OwnRef) tk 61 60 59 (fun s3 g3=>upd (upd (fun _=>.any) 3 (.box 3 b3 0)) 2 (.box 2 b2 0)) (fun s3 g3=>upd (upd (fun _=>none) 3 (some ⟨b3,[(af q.kind),(.str q.table),(.own 13 g13 (q.names.map ah).length),(.own 34 g1 (s1.map aF).length),(.own 55 g2 (s2.map bV).length),(.own 16 g16 (q.descending.map dl).length),(af q.count),(af q.offset),(.own 70 g3 (s3.map aZ).length)]⟩)) 2 (some ⟨b2,[(af 0),(.str []),(.val (.slice none 0 0)),(.val (.slice none 0 0)),(.val (.slice none 0 0)),(.val (.slice none 0 0)),(af 0),(af 0),(.val (.slice none 0 0))]⟩)) (fun s3 g3=>upd (upd (upd (upd (upd (fun _=>none) 70 (some ⟨g3,33,(s3.map aZ),true⟩)) 55 (some ⟨g2,88,(s2.map bV),true⟩)) 34 (some ⟨g1,91,(s1.map aF),true⟩)) 16 (some ⟨g16,4,(q.descending.map dl),true⟩)) 13 (some ⟨g13,9,(q.names.map ah),true⟩)) (⟨none,0⟩) H (fun fl3 Hp3 j3 s3 g3 hz3 hl3 x3 fb3 hx3 H hg3=>?_) (fun s3 g3 H=>?_)
 ·refine ab (az (ab (aa (bn tk (zn j3) (bC bH hx3) ?_))))
  refine ak tk rfl ?_
  refine aX tk fun b9=>?_
  refine av tk ?_
  refine ac (gn 9 ?_)
  refine bj tk mok ⟨true,false,[67]⟩ [0,1,2,3,4,5,6,7] rfl (by decide +kernel) rfl (bN rfl (bh ?_))
  refine bN rfl ?_
  obtain ⟨x68,h68,H⟩ := am H
  have s68 := hrec27 x3 _ h68
  refine br Tryz.call27 (dS.r) s68 ?_
  refine bN rfl ?_
  obtain ⟨x70,h70,H⟩ := am H
  have k70 := cQ h70
  refine gX (rows2' := List.map aZ ([x68] : List LQuery)) (rows' := List.map aZ x70) tk rfl rfl rfl rfl rfl rfl rfl rfl rfl rfl rfl rfl rfl rfl (eV.trans (b := List.map aA [x68]) (eV.refl _) (eV.of_eq (jG bH [x68]))) (eA k70.1) (et k70.2.1) (eB k70.2.2) fun g70=>?_
  refine bN rfl (fE rfl rfl rfl rfl rfl rfl rfl rfl rfl rfl rfl rfl (aY (aR (bm 2 tk rfl ?_))))
  exact bO g70 H hl3 hg3
 refine ab (aa (aB tk ?_))
 refine av tk ?_
 refine ac (eN 2 2 rfl rfl rfl rfl rfl (eN 2 3 rfl rfl rfl rfl rfl (eN 2 4 rfl rfl rfl rfl rfl (eN 2 5 rfl rfl rfl rfl rfl (eN 2 8 rfl rfl rfl rfl rfl ?_)))))
 exact jW tk H rfl rfl rfl rfl rfl
def F_query_Clone : Nat → LQuery → Option (LQuery)
 | 0,_=>none
 | n + 1,v0=>mO (fun b0=>F_query_Clone n b0) v0
def jO (rec27 : LQuery → Option (LQuery)) (q : LQuery) : Option (LQuery) :=
 ae (aM (σ := List LExpr) (ρ := Empty) (fun (_ : Nat) (x1 : LExpr) (s1 : List LExpr) =>
  ae (jh x1) fun x32 =>
  ae (dF 88 s1 ([x32] : List LExpr)) fun (x34 : List LExpr) =>
  some (.next x34)) 0 q.exprs []) fun fl1=>fl1.thenP fun (s1 : List LExpr) =>
 ae (aM (σ := List LAggregateCall) (ρ := Empty) (fun (_ : Nat) (x2 : LAggregateCall) (s2 : List LAggregateCall) =>
  ae (iN x2.args) fun x52 =>
  ae (dF 56 s2 ([(LAggregateCall.mk x2.name x2.function x52)] : List LAggregateCall)) fun (x55 : List LAggregateCall) =>
  some (.next x55)) 0 q.aggregates []) fun fl2=>fl2.thenP fun (s2 : List LAggregateCall) =>
 ae (aM (σ := List LQuery) (ρ := Empty) (fun (_ : Nat) (x3 : LQuery) (s3 : List LQuery) =>
  ae (rec27 x3) fun x68 =>
  ae (dF 160 s3 ([x68] : List LQuery)) fun (x70 : List LQuery) =>
  some (.next x70)) 0 q.inputs []) fun fl3=>fl3.thenP fun (s3 : List LQuery) =>
 some (LQuery.mk q.kind q.table q.names s1 s2 q.descending q.count q.offset s3)
theorem rF (rec27 : LQuery → Option (LQuery)) (hrec27 : ∀ a0 r,rec27 a0 = some r → eY Tryz.prog 27 [(.agg (aA a0))] (mm fun u os=>∃ gt n,u = .agg (gW r gt) ∧ QT n r (gW r gt) os)) (q : LQuery) (r : LQuery) (H : jO rec27 q = some r) :
  eY Tryz.prog 27 [(.agg (aA q))] (mm fun u os=>∃ gt n,u = .agg (gW r gt) ∧ QT n r (gW r gt) os) := by
 unfold jO at H
 refine PH.ay Tryz.func27 Tryz.ntmps27 ?_
 refine ab (aa (aS ?_))
 refine aX tk fun b2=>?_
 refine ac (ab (aa (ak tk rfl ?_)))
 refine aX tk fun b3=>?_
 refine av tk ?_
 refine ac (ab (bj tk mok ⟨false,false,[]⟩ [0,1,3,4,2,6,5,7,8,9] rfl (by decide +kernel) rfl (aI 4 rfl ?_)))
 have s13 := pH (m := 13) q.names
 refine pD (g := 72) rfl rfl rfl rfl Tryz.call72 (dS.r) rfl rfl s13 (fun g13=>?_)
 refine bN rfl ?_
 have s16 := clone_73 (m := 16) q.descending
 refine pD (g := 73) rfl rfl rfl rfl Tryz.call73 (dS.r) rfl rfl s16 (fun g16=>?_)
 refine fE rfl rfl rfl rfl rfl rfl rfl rfl rfl rfl rfl rfl (bN rfl (fE rfl rfl rfl rfl rfl rfl rfl rfl rfl rfl rfl rfl (aY (ab (aa (ak tk rfl (av tk ?_)))))))
 refine ak tk rfl (av tk ?_)
 refine ak tk rfl (av tk ?_)
 refine ac (ab (ab (aa (ag 2 tk rfl (aK tk (zl _) ?_)))))
 refine ak tk rfl (ac (iz tk 3 3 34 (e := 91) rfl rfl rfl rfl ?_))
 refine fC (γ := OwnRef) tk 25 24 23 (fun s1 g1=>upd (upd (upd (fun _=>.any) 3 (.box 3 b3 0)) 2 (.box 2 b2 0)) 1 (.ptr (aA q))) (fun s1 g1=>upd (upd (fun _=>none) 3 (some ⟨b3,[(af q.kind),(.str q.table),(.own 13 g13 (q.names.map ah).length),(.own 34 g1 (s1.map aF).length),(.val (.slice none 0 0)),(.own 16 g16 (q.descending.map dl).length),(af q.count),(af q.offset),(.val (.slice none 0 0))]⟩)) 2 (some ⟨b2,[(af 0),(.str []),(.val (.slice none 0 0)),(.val (.slice none 0 0)),(.val (.slice none 0 0)),(.val (.slice none 0 0)),(af 0),(af 0),(.val (.slice none 0 0))]⟩)) (fun s1 g1=>upd (upd (upd (fun _=>none) 34 (some ⟨g1,91,(s1.map aF),true⟩)) 16 (some ⟨g16,4,(q.descending.map dl),true⟩)) 13 (some ⟨g13,9,(q.names.map ah),true⟩)) (⟨none,0⟩) H (fun fl1 Hp1 j1 s1 g1 hz1 hl1 x1 fb1 hx1 H hg1=>?_) (fun s1 g1 H=>?_)
 ·refine ab (az (ab (aa (bn tk (zn j1) (bC cb hx1) ?_))))
  refine ak tk rfl ?_
  refine aX tk fun b5=>?_
  refine av tk ?_
  refine ac (gn 5 ?_)
  refine bj tk mok ⟨true,false,[31]⟩ [0,1,2,3,4,5,6,7] rfl (by decide +kernel) rfl (bN rfl (bh ?_))
  refine bN rfl ?_
  obtain ⟨x32,h32,H⟩ := am H
  have s32 := nA x1 _ h32
  refine br Tryz.call74 (dS.r) s32 ?_
  refine bN rfl ?_
  obtain ⟨x34,h34,H⟩ := am H
  have k34 := cQ h34
  refine gX (rows2' := List.map aF ([x32] : List LExpr)) (rows' := List.map aF x34) tk rfl rfl rfl rfl rfl rfl rfl rfl rfl rfl rfl rfl rfl rfl (eV.trans (b := List.map cG [x32]) (eV.refl _) (eV.of_eq (jG cb [x32]))) (eA k34.1) (et k34.2.1) (eB k34.2.2) fun g34=>?_
  refine bN rfl (fE rfl rfl rfl rfl rfl rfl rfl rfl rfl rfl rfl rfl (aY (aR (bm 2 tk rfl ?_))))
  exact bO g34 H hl1 hg1
 refine ab (ab (aa (ag 2 tk rfl (aK tk (zl _) ?_))))
 refine ak tk rfl (ac (iz tk 3 4 55 (e := 88) rfl rfl rfl rfl ?_))
 refine fC (γ := OwnRef) tk 40 39 38 (fun s2 g2=>upd (upd (upd (fun _=>.any) 3 (.box 3 b3 0)) 2 (.box 2 b2 0)) 1 (.ptr (aA q))) (fun s2 g2=>upd (upd (fun _=>none) 3 (some ⟨b3,[(af q.kind),(.str q.table),(.own 13 g13 (q.names.map ah).length),(.own 34 g1 (s1.map aF).length),(.own 55 g2 (s2.map bV).length),(.own 16 g16 (q.descending.map dl).length),(af q.count),(af q.offset),(.val (.slice none 0 0))]⟩)) 2 (some ⟨b2,[(af 0),(.str []),(.val (.slice none 0 0)),(.val (.slice none 0 0)),(.val (.slice none 0 0)),(.val (.slice none 0 0)),(af 0),(af 0),(.val (.slice none 0 0))]⟩)) (fun s2 g2=>upd (upd (upd (upd (fun _=>none) 55 (some ⟨g2,88,(s2.map bV),true⟩)) 34 (some ⟨g1,91,(s1.map aF),true⟩)) 16 (some ⟨g16,4,(q.descending.map dl),true⟩)) 13 (some ⟨g13,9,(q.names.map ah),true⟩)) (⟨none,0⟩) H (fun fl2 Hp2 j2 s2 g2 hz2 hl2 x2 fb2 hx2 H hg2=>?_) (fun s2 g2 H=>?_)
 ·refine ab (az (ab (aa ?_)))
  refine bn tk (zn j2) (bC (fun _=>rfl) hx2) ?_
  refine ak tk rfl ?_
  refine aX tk fun b7=>?_
  refine av tk ?_
  refine ac (gn 7 ?_)
  refine bj tk mok ⟨true,false,[47,49,51]⟩ [0,1,2,3,4,5,6,7,8,9,10,11,12,13] rfl (by decide +kernel) rfl (bN rfl (bh ?_))
  refine aI 6 rfl ?_
  obtain ⟨x52,h52,H⟩ := am H
  have s52 := qi x2.args _ h52
  refine br Tryz.call75 (dS.r) s52 ?_
  refine aI 2 rfl ?_
  obtain ⟨x55,h55,H⟩ := am H
  have k55 := cQ h55
  refine gX (rows2' := List.map bV ([(LAggregateCall.mk x2.name x2.function x52)] : List LAggregateCall)) (rows' := List.map bV x55) tk rfl rfl rfl rfl rfl rfl rfl rfl rfl rfl rfl rfl rfl rfl (eV.refl _) (eA k55.1) (et k55.2.1) (eB k55.2.2) fun g55=>?_
  refine bN rfl (fE rfl rfl rfl rfl rfl rfl rfl rfl rfl rfl rfl rfl (aY (aR (bm 2 tk rfl ?_))))
  exact bO g55 H hl2 hg2
 refine ab (ab (aa (ag 2 tk rfl (aK tk (zl _) ?_))))
 refine ak tk rfl (ac ?_)
 obtain ⟨fl3,H3,Hp3⟩ := am H
 refine iB tk 59 rfl rfl (fun hz3 _=>?_)
 rw [zl] at hz3
 refine dU (τ := List LQuery) (γ := (OwnRef × List (List PV) × List (List Ab.Obj))) (fun s3 g3=>gate (All3 (fun x cs o=>∃ n,QT n x cs o) s3 g3.2.1 g3.2.2) ⟨74,upd (upd (fun _=>.any) 3 (.box 3 b3 0)) 2 (.box 2 b2 0),upd (upd (fun _=>none) 3 (some ⟨b3,[(af q.kind),(.str q.table),(.own 13 g13 (q.names.map ah).length),(.own 34 g1 (s1.map aF).length),(.own 55 g2 (s2.map bV).length),(.own 16 g16 (q.descending.map dl).length),(af q.count),(af q.offset),(.own 70 g3.1 (s3.map aZ).length)]⟩)) 2 (some ⟨b2,[(af 0),(.str []),(.val (.slice none 0 0)),(.val (.slice none 0 0)),(.val (.slice none 0 0)),(.val (.slice none 0 0)),(af 0),(af 0),(.val (.slice none 0 0))]⟩),(mix (upd (upd (upd (upd (upd (fun _=>none) 70 (some ⟨g3.1,33,g3.2.1,true⟩)) 55 (some ⟨g2,88,(s2.map bV),true⟩)) 34 (some ⟨g1,91,(s1.map aF),true⟩)) 16 (some ⟨g16,4,(q.descending.map dl),true⟩)) 13 (some ⟨g13,9,(q.names.map ah),true⟩)) g3.2.2.flatten)⟩) (fun t=>fl3 = .next t) ?_ (fun s3 g3 hn3=>?_)
 ·refine az (iz tk 3 8 70 (e := 33) rfl rfl rfl rfl ?_)
  refine km (fun j3 s3 g3=>gate (All3 (fun x cs o=>∃ n,QT n x cs o) s3 g3.2.1 g3.2.2) ⟨74,upd (upd (upd (upd (upd (fun _=>.any) 61 (af (j3 : Int))) 60 (af (q.inputs.length : Int))) 59 (.list 33 (q.inputs.map aZ))) 3 (.box 3 b3 0)) 2 (.box 2 b2 0),upd (upd (fun _=>none) 3 (some ⟨b3,[(af q.kind),(.str q.table),(.own 13 g13 (q.names.map ah).length),(.own 34 g1 (s1.map aF).length),(.own 55 g2 (s2.map bV).length),(.own 16 g16 (q.descending.map dl).length),(af q.count),(af q.offset),(.own 70 g3.1 (s3.map aZ).length)]⟩)) 2 (some ⟨b2,[(af 0),(.str []),(.val (.slice none 0 0)),(.val (.slice none 0 0)),(.val (.slice none 0 0)),(.val (.slice none 0 0)),(af 0),(af 0),(.val (.slice none 0 0))]⟩),(mix (upd (upd (upd (upd (upd (fun _=>none) 70 (some ⟨g3.1,33,g3.2.1,true⟩)) 55 (some ⟨g2,88,(s2.map bV),true⟩)) 34 (some ⟨g1,91,(s1.map aF),true⟩)) 16 (some ⟨g16,4,(q.descending.map dl),true⟩)) 13 (some ⟨g13,9,(q.names.map ah),true⟩)) g3.2.2.flatten)⟩) (⟨none,0⟩,[],[]) H3 (Gh.gateT All3.nil (Gh.trans Gh.mix0 Gh.dm)) (fun j3 s3 g3 hj3 hr3=>?_)
  refine qU (fun hT3=>?_)
  refine al 1 tk rfl (ab ?_)
  refine du rfl (fun h=>?_) (fun h=>?_)
  ·have hl3 := rowsLt h
   obtain ⟨x3,fb3,hx3,H,hg3⟩ := rMc hl3 hr3
   refine au (ab (az (ab (aa (bn tk (zn j3) (bC bH hx3) ?_)))))
   refine ak tk rfl ?_
   refine aX tk fun b9=>?_
   refine av tk ?_
   refine ac (gn 9 ?_)
   refine bj tk mok ⟨true,false,[67]⟩ [0,1,2,3,4,5,6,7] rfl (by decide +kernel) rfl (bN rfl (bh ?_))
   refine bN rfl ?_
   obtain ⟨x68,h68,H⟩ := am H
   have s68 := hrec27 x3 _ h68
   refine rY (g := 27) rfl rfl rfl rfl Tryz.call27 (dS.r) rfl rfl (f := fun gt=>gW x68 gt) (Q := fun k gt os=>QT k x68 (gW x68 gt) os) s68 (fun gt68 k68 os68 hq68=>?_)
   refine bN rfl ?_
   obtain ⟨x70,h70,H⟩ := am H
   have k70 := cQ h70
   have hB70 := (hT3).app (All3.cons ⟨_,hq68⟩ All3.nil)
   rw [← k70.2.2] at hB70
   have hn70 := hB70.len.1.symm.trans (show x70.length = (x70.map aZ).length from (zl _).symm)
   refine ss (rows2' := [gW x68 gt68]) (rows' := (g3.2.1 ++ [gW x68 gt68])) tk rfl rfl rfl rfl rfl rfl rfl rfl rfl rfl rfl rfl (((zl _)).trans (hT3.len.1)) rfl (eV.refl _) (by rw [← hT3.len.1]; exact k70.1) (by rw [← hT3.len.1]; exact k70.2.1) rfl rfl fun g70=>?_
   refine bN rfl (fE rfl rfl rfl rfl rfl rfl rfl rfl rfl rfl rfl rfl (aY (cq (Gh.permO (os' := (g3.2.2 ++ [os68]).flatten) (List.Perm.of_eq (by simp))) (aR (bm 2 tk rfl ?_)))))
   exact bO (g70,(g3.2.1 ++ [gW x68 gt68]),(g3.2.2 ++ [os68])) H hl3 hg3 (Gh.gateT hB70 (Gh.le (ao (ao (ao (ao (bp (PLe.q (fF (by omega))) aP))))) (aW rfl (dS.r) (aW rfl (dS.of2 (ie.cons (mH.of_eq rfl) (ie.cons (mH.of_eq rfl) (ie.cons (mH.of_eq rfl) (ie.cons (mH.of_eq rfl) (ie.cons (mH.of_eq rfl) (ie.cons (mH.of_eq rfl) (ie.cons (mH.of_eq rfl) (ie.cons (mH.of_eq rfl) (ie.cons (mH.of_eq (congrArg (PV.own 70 g70) hn70)) ie.nil)))))))))) aD)) (pw (aU (aU (aU (aU (aU aE))))))))
  have hn3 := rMd (rowsGe h) hr3
  refine bF rfl ?_
  refine aQ s3 g3 hn3 (Gh.gateT hT3 Gh.dm)
 have H := cw hn3 Hp3
 refine qU (fun hE3=>?_)
 refine ab (aa (aB tk ?_))
 refine av tk ?_
 refine ac ?_
 obtain rfl := ax H
 refine eN 2 2 rfl rfl rfl rfl rfl (cq (Gh.mixU rfl) ?_)
 refine eN 2 3 rfl rfl rfl rfl rfl (cq (Gh.mixU rfl) ?_)
 refine eN 2 4 rfl rfl rfl rfl rfl (cq (Gh.mixU rfl) ?_)
 refine eN 2 5 rfl rfl rfl rfl rfl (cq (Gh.mixU rfl) ?_)
 obtain ⟨_,hR⟩ := QT.root (q := (LQuery.mk q.kind q.table q.names s1 s2 q.descending q.count q.offset s3)) (g := g3.1) hE3
 refine cq (Gh.pushO (st' := fun _=>none) 70 rfl (List.Perm.refl _) rfl DropL.nil) ?_
 exact V.retT tk rfl (ps := [(.agg [(af q.kind),(.str q.table),(.list 9 (q.names.map ah)),(.list 91 (s1.map aF)),(.list 88 (s2.map bV)),(.list 4 (q.descending.map dl)),(af q.count),(af q.offset),(.own 70 g3.1 (s3.map aZ).length)])]) (by exact ⟨_,_,rfl,⟨_,_,_,_,_,rfl,rfl,rfl,rfl⟩,rfl⟩) (u := .agg (gW (LQuery.mk q.kind q.table q.names s1 s2 q.descending q.count q.offset s3) g3.1)) (PLe.agg (dS.cons (PLe.refl _ _) <| dS.cons (PLe.refl _ _) <| dS.cons (PLe.refl _ _) <| dS.cons (PLe.refl _ _) <| dS.cons (PLe.refl _ _) <| dS.cons (PLe.refl _ _) <| dS.cons (PLe.refl _ _) <| dS.cons (PLe.refl _ _) <| dS.cons (PLe.ownValE _ _ (zl _)) <| dS.nil _)) (osR := []) (List.Perm.refl _) ⟨_,_,rfl,hR⟩
def gp : Nat → LQuery → Option (LQuery)
 | 0,_=>none
 | n + 1,v0=>jO (fun b0=>gp n b0) v0
theorem rK  (n : Nat) : (∀ a0 r,gp n a0 = some r → eY Tryz.prog 27 [(.agg (aA a0))] (mm fun u os=>∃ gt n,u = .agg (gW r gt) ∧ QT n r (gW r gt) os)) := by
 induction n with
 | zero=>exact (by intros; rename_i h; exact absurd (show (none : Option _) = some _ from h) (by simp))
 | succ n ih =>
  exact (fun v0 r h=>rF (fun b0=>gp n b0) ih v0  r h)
def lF (q : LQuery) : Option (LQuery) := gg fun n=>gp n q
theorem rM (q : LQuery) (r : LQuery) (H : lF q = some r) :
  eY Tryz.prog 27 [(.agg (aA q))] (mm fun u os=>∃ gt n,u = .agg (gW r gt) ∧ QT n r (gW r gt) os) := by
 obtain ⟨n,h⟩ := gG H
 exact (rK  n) q r h
def dV (e : LExpr) : Option ((List (List UInt8))) :=
 ae (fL e 2 ([] : List (List UInt8))) fun x4 =>
 some x4
theorem W_expr_Columns (e : LExpr) (r : (List (List UInt8))) (H : dV e = some r) :
  ba Tryz.prog 84 [(.agg (cG e))] (.list 9 (r.map ah)) := by
 unfold dV at H
 refine PH.ay Tryz.func84 Tryz.ntmps84 ?_
 refine ab (aa (aS ?_))
 refine ak tk rfl (ac (ab (aa (ak tk rfl (cI (Gh.nilB tk 2904 (e := 9) rfl) ?_)))))
 obtain ⟨x4,h4,H⟩ := am H
 have s4 := W_expr_names (⟨none,0⟩) e 2 ([] : List (List UInt8)) _ h4
 refine ci (g := 120) rfl rfl rfl Tryz.call120 [] [(2904,2)] rfl rfl rfl rfl (dS.cons (PLe.refl _ _) <| dS.cons (PLe.refl _ _) <| dS.cons (PLe.nilOwn _ _) <| dS.r) (by rw [bT,bL,bS]; rfl) s4 ?_
 rintro u4 H4h ⟨gw4,rfl,rfl⟩
 refine ⟨_,rfl,?_⟩
 refine cI (st' := ⟨_,_,fun _=>none,upd (fun _=>none) 2904 (some ⟨gw4,9,(x4.map ah),true⟩)⟩) (Gh.le (bZ _ _) aD (aU aE)) ?_
 refine lO 4 (q := (.own 2904 gw4 (x4.map ah).length)) rfl (PLe.of2 (mH.own rfl)) (ak tk rfl (ac (ib 2 rfl rfl rfl ?_)))
 exact bB tk H rfl
def dR (data : List (List UInt8)) (a : Int) (b : Int) : Option ((List (List UInt8))) :=
 ae (whileM (σ := List (List UInt8) × Int) (ρ := Empty) (fun (s1 : List (List UInt8) × Int) =>
  cond (decide (s1.2 ≥ (0 : Int)))
   (ae (cX s1.1 s1.2 (IntKind.i64.wrap (b - a)) a) fun x26 =>
   ae (dC (x26.length = s1.1.length) ()) fun (_ : Unit) =>
   some (.next (x26,(IntKind.i64.wrap (s1.2 - (1 : Int))))))
   (some (.brk (s1.1,s1.2)))) (data,(IntKind.i64.wrap (Int.tdiv (IntKind.i64.wrap ((IntKind.i64.wrap (b - a)) - (1 : Int))) (2 : Int))))) fun fl1=>fl1.thenP fun (s1 : List (List UInt8) × Int) =>
 ae (whileM (σ := List (List UInt8) × Int) (ρ := Empty) (fun (s2 : List (List UInt8) × Int) =>
  cond (decide (s2.2 ≥ (0 : Int)))
   (ae (aC s2.1 (IntKind.i64.wrap (a + s2.2))) fun (x43 : List UInt8) =>
   ae (aC s2.1 a) fun (x47 : List UInt8) =>
   ae (aC s2.1 a) fun (_ : List UInt8) =>
   be (s2.1.set a.toNat x43) fun (y7 : List (List UInt8)) =>
   ae (aC y7 (IntKind.i64.wrap (a + s2.2))) fun (_ : List UInt8) =>
   be (y7.set ((IntKind.i64.wrap (a + s2.2)).toNat) x47) fun (y8 : List (List UInt8)) =>
   ae (cX y8 0 s2.2 a) fun x55 =>
   ae (dC (x55.length = y8.length) ()) fun (_ : Unit) =>
   some (.next (x55,(IntKind.i64.wrap (s2.2 - (1 : Int))))))
   (some (.brk (s2.1,s2.2)))) (s1.1,(IntKind.i64.wrap ((IntKind.i64.wrap (b - a)) - (1 : Int))))) fun fl2=>fl2.thenP fun (s2 : List (List UInt8) × Int) =>
 some s2.1
theorem ln (g_data : OwnRef) (data : List (List UInt8)) (a : Int) (b : Int) (r : (List (List UInt8))) (H : dR data a b = some r) :
  PH Tryz.prog 182 [(.own 0 g_data (data.map ah).length),(af a),(af b)] ⟨fun _=>none,upd (fun _=>none) 0 (some ⟨g_data,9,(data.map ah),true⟩)⟩ (fun u H=>u = (.tup []) ∧ H = ⟨fun _=>none,upd (fun _=>none) 0 (some ⟨g_data,9,(r.map ah),true⟩)⟩) := by
 unfold dR at H
 refine PH.ay Tryz.func182 Tryz.ntmps182 ?_
 refine al 2 tk rfl (al 1 tk rfl (al 4 tk rfl (ab (al 4 tk rfl ?_))))
 obtain ⟨fl1,H1,Hp1⟩ := am H
 refine dU (τ := List (List UInt8) × Int) (γ := Unit) (fun s1 g1=>⟨56,upd (upd (upd (upd (fun _=>.any) 8 (af (IntKind.i64.wrap (b - a)))) 7 (af 0)) 6 (af a)) 0 (.own 0 g_data (s1.1.map ah).length),fun _=>none,upd (fun _=>none) 0 (some ⟨g_data,9,(s1.1.map ah),true⟩)⟩) (fun t=>fl1 = .next t) ?_ (fun s1 g1 hn1=>?_)
 ·refine az ?_
  refine dA (fun s1 g1=>⟨56,upd (upd (upd (upd (upd (fun _=>.any) 9 (af s1.2)) 8 (af (IntKind.i64.wrap (b - a)))) 7 (af 0)) 6 (af a)) 0 (.own 0 g_data (s1.1.map ah).length),fun _=>none,upd (fun _=>none) 0 (some ⟨g_data,9,(s1.1.map ah),true⟩)⟩) () H1 Gh.d (fun m1 s1 g1 hr1=>?_)
  obtain ⟨fb1,H,hg1⟩ := ct hr1
  refine ab (al 2 tk rfl ?_)
  refine aL rfl H (fun H=>?_) (fun H=>?_)
  ·refine au (ab (az (aa (ag 4 tk rfl ?_))))
   obtain ⟨x26,h26,H⟩ := am H
   have s26 := iI g_data s1.1 s1.2 (IntKind.i64.wrap (b - a)) a _ h26
   obtain ⟨_,q26_0,H⟩ := am H
   have l26_0 := (bX q26_0).1
   have z26_0 : (List.map ah s1.1).length = (List.map ah x26).length := by simpa using (l26_0).symm
   refine ci (g := 237) rfl rfl rfl Tryz.call237 [] [(0,0)] rfl rfl rfl rfl (dS.of2 (ie.cons (mH.own rfl) (ie.cons (mH.of_eq rfl) (ie.cons (mH.of_eq rfl) (ie.cons (mH.of_eq rfl) ie.nil))))) (by rw [bT,bL,bS]; rfl) s26 ?_
   rintro u26 H26h ⟨rfl,rfl⟩
   refine ⟨_,rfl,?_⟩
   refine cI (st' := ⟨_,_,fun _=>none,upd (fun _=>none) 0 (some ⟨g_data,9,(x26.map ah),true⟩)⟩) (Gh.le (bZ _ _) aD (aU aE)) ?_
   refine ac (aR (bm 3 tk rfl ?_))
   obtain rfl := ax H
   refine cz (x26,(IntKind.i64.wrap (s1.2 - (1 : Int)))) () hg1 (Gh.le (bp (PLe.of2 (mH.of_eq (congrArg (PV.own 0 g_data) z26_0))) (ao (ao (ao (ao aP))))) aD (aU aE))
  refine bF rfl ?_
  obtain rfl := ax H
  refine aQ (s1.1,s1.2) () hg1 Gh.d
 have H := cw hn1 Hp1
 refine al 3 tk rfl ?_
 obtain ⟨fl2,H2,Hp2⟩ := am H
 refine dU (τ := List (List UInt8) × Int) (γ := Unit) (fun s2 g2=>⟨56,upd (fun _=>.any) 0 (.own 0 g_data (s2.1.map ah).length),fun _=>none,upd (fun _=>none) 0 (some ⟨g_data,9,(s2.1.map ah),true⟩)⟩) (fun t=>fl2 = .next t) ?_ (fun s2 g2 hn2=>?_)
 ·refine az ?_
  refine dA (fun s2 g2=>⟨56,upd (upd (upd (upd (fun _=>.any) 10 (af s2.2)) 7 (af 0)) 6 (af a)) 0 (.own 0 g_data (s2.1.map ah).length),fun _=>none,upd (fun _=>none) 0 (some ⟨g_data,9,(s2.1.map ah),true⟩)⟩) () H2 Gh.d (fun m2 s2 g2 hr2=>?_)
  obtain ⟨fb2,H,hg2⟩ := ct hr2
  refine ab (al 2 tk rfl ?_)
  refine aL rfl H (fun H=>?_) (fun H=>?_)
  ·refine au (ab (az (ab ?_)))
   refine cA (tag := 0) rfl (fun ho0=>?_)
   refine bj tk mok ⟨false,true,[]⟩ [0,1,2,3,4,5,6,7,8,9,10,11,12,13,14,15,16,17,18,19] rfl (by decide +kernel) rfl (aI 10 rfl ?_)
   obtain ⟨x43,k43,H⟩ := aT H
   refine aH tk ⟨k43.1,(aV k43.2)⟩ (bd ho0 k43.2) ?_
   refine bc tk rfl rfl rfl rfl rfl rfl rfl rfl rfl (aJ (fun _=>rfl) k43.2) rfl rfl ?_
   refine aI 2 rfl ?_
   obtain ⟨x47,k47,H⟩ := aT H
   refine aH tk ⟨k47.1,(aV k47.2)⟩ (bd ho0 k47.2) ?_
   refine bc tk rfl rfl rfl rfl rfl rfl rfl rfl rfl (aJ (fun _=>rfl) k47.2) rfl rfl ?_
   obtain ⟨x49,k49,H⟩ := aT H
   refine aH tk ⟨k49.1,(aV k49.2)⟩ (bd ho0 k49.2) ?_
   obtain ⟨y7,hy7,H⟩ := bR H
   refine bY tk rfl rfl rfl rfl rfl rfl rfl rfl rfl (by rw [zl]; exact (zg.1 k49.2).1) (PLe.refl _ _) rfl rfl rfl rfl (by decide) (bD (fun _=>rfl) k49.2 rfl hy7) ?_
   obtain ⟨x50,k50,H⟩ := aT H
   refine aH tk ⟨k50.1,(gw (bf (f := ah) hy7) k50.2)⟩ (gS ho0 (bf (f := ah) hy7) k50.2) ?_
   obtain ⟨y8,hy8,H⟩ := bR H
   refine bY tk rfl rfl rfl rfl rfl rfl rfl rfl rfl (by rw [zl]; exact (zg.1 k50.2).1) (PLe.refl _ _) rfl rfl rfl rfl (by decide) (bD (fun _=>rfl) k50.2 rfl hy8) ?_
   refine aY (aa (ag 4 tk rfl ?_))
   obtain ⟨x55,h55,H⟩ := am H
   have s55 := iI g_data y8 0 s2.2 a _ h55
   obtain ⟨_,q55_0,H⟩ := am H
   have l55_0 := (bX q55_0).1
   have z55_0 : (List.map ah y8).length = (List.map ah x55).length := by simpa using (l55_0).symm
   refine ci (g := 237) rfl rfl rfl Tryz.call237 [] [(0,0)] rfl rfl rfl rfl (dS.of2 (ie.cons (mH.own ((bf (f := ah) hy7).trans (bf (f := ah) hy8))) (ie.cons (mH.of_eq rfl) (ie.cons (mH.of_eq rfl) (ie.cons (mH.of_eq rfl) ie.nil))))) (by rw [bT,bL,bS]; rfl) s55 ?_
   rintro u55 H55h ⟨rfl,rfl⟩
   refine ⟨_,rfl,?_⟩
   refine cI (st' := ⟨_,_,fun _=>none,upd (fun _=>none) 0 (some ⟨g_data,9,(x55.map ah),true⟩)⟩) (Gh.le (bZ _ _) aD (aU aE)) ?_
   refine ac (aR (bm 3 tk rfl ?_))
   obtain rfl := ax H
   refine cz (x55,(IntKind.i64.wrap (s2.2 - (1 : Int)))) () hg2 (Gh.le (bp (PLe.of2 (mH.of_eq (congrArg (PV.own 0 g_data) (((bf (f := ah) hy7).trans (bf (f := ah) hy8)).trans z55_0)))) (ao (ao (ao aP)))) aD (aU aE))
  refine bF rfl ?_
  obtain rfl := ax H
  refine aQ (s2.1,s2.2) () hg2 Gh.d
 have H := cw hn2 Hp2
 obtain rfl := ax H
 refine cq (st' := ⟨56,fun _=>.any,fun _=>none,upd (fun _=>none) 0 (some ⟨g_data,9,(s2.1.map ah),true⟩)⟩) (Gh.le aP aD (aU aE)) ?_
 refine lw rfl (PLe.q rfl) ⟨rfl,rfl⟩
def dh (data : List (List UInt8)) (a : Int) (b : Int) : Option ((List (List UInt8))) :=
 cond (decide ((IntKind.i64.wrap (b - a)) ≥ (8 : Int)))
  (ae (fA (IntKind.i64.wrap (b - a))) fun x19 =>
  ae (whileM (σ := List (List UInt8) × Int × Int) (ρ := Empty) (fun (s1 : List (List UInt8) × Int × Int) =>
   cond (decide (s1.2.1 ≤ (IntKind.i64.wrap ((IntKind.i64.wrap (a + (IntKind.i64.wrap ((IntKind.i64.wrap (Int.tdiv (IntKind.i64.wrap (b - a)) (4 : Int))) * (2 : Int))))) + (1 : Int)))))
    (ae (gZ s1.2.2) fun x36 =>
    be (
     cond (decide ((IntKind.i64.wrap (andI .u64 x36.1 (IntKind.u64.wrap (x19 - (1 : Int))))) ≥ (IntKind.i64.wrap (b - a))))
      ((s1.1,(IntKind.i64.wrap ((IntKind.i64.wrap (andI .u64 x36.1 (IntKind.u64.wrap (x19 - (1 : Int))))) - (IntKind.i64.wrap (b - a))))))
      ((s1.1,(IntKind.i64.wrap (andI .u64 x36.1 (IntKind.u64.wrap (x19 - (1 : Int)))))))) fun (t8 : List (List UInt8) × Int) =>
    ae (aC t8.1 (IntKind.i64.wrap (a + t8.2))) fun (x57 : List UInt8) =>
    ae (aC t8.1 s1.2.1) fun (x61 : List UInt8) =>
    ae (aC t8.1 s1.2.1) fun (_ : List UInt8) =>
    be (t8.1.set s1.2.1.toNat x57) fun (y9 : List (List UInt8)) =>
    ae (aC y9 (IntKind.i64.wrap (a + t8.2))) fun (_ : List UInt8) =>
    be (y9.set ((IntKind.i64.wrap (a + t8.2)).toNat) x61) fun (y10 : List (List UInt8)) =>
    some (.next (y10,(IntKind.i64.wrap (s1.2.1 + (1 : Int))),x36.2)))
    (some (.brk (s1.1,s1.2.1,s1.2.2)))) (data,(IntKind.i64.wrap ((IntKind.i64.wrap (a + (IntKind.i64.wrap ((IntKind.i64.wrap (Int.tdiv (IntKind.i64.wrap (b - a)) (4 : Int))) * (2 : Int))))) - (1 : Int))),(IntKind.u64.wrap (IntKind.i64.wrap (b - a))))) fun fl1=>fl1.thenP fun (s1 : List (List UInt8) × Int × Int) =>
  some s1.1)
  (some data)
theorem jX (g_data : OwnRef) (data : List (List UInt8)) (a : Int) (b : Int) (r : (List (List UInt8))) (H : dh data a b = some r) :
  PH Tryz.prog 183 [(.own 0 g_data (data.map ah).length),(af a),(af b)] ⟨fun _=>none,upd (fun _=>none) 0 (some ⟨g_data,9,(data.map ah),true⟩)⟩ (fun u H=>u = (.tup []) ∧ H = ⟨fun _=>none,upd (fun _=>none) 0 (some ⟨g_data,9,(r.map ah),true⟩)⟩) := by
 unfold dh at H
 refine PH.ay Tryz.func183 Tryz.ntmps183 ?_
 refine al 4 tk rfl (al 2 tk rfl ?_)
 refine aL rfl H (fun H=>?_) (fun H=>?_)
 ·refine ab (aa (ag 2 tk rfl ?_))
  refine aX tk fun b7=>?_
  refine av tk ?_
  refine ac (ab (aa (ak tk rfl ?_)))
  obtain ⟨x19,h19,H⟩ := am H
  have s19 := oj (IntKind.i64.wrap (b - a)) _ h19
  refine aq Tryz.call238 (dS.r) s19 ?_
  refine ak tk rfl (ac (al 7 tk rfl ?_))
  obtain ⟨fl1,H1,Hp1⟩ := am H
  refine dU (τ := List (List UInt8) × Int × Int) (γ := Unit) (fun s1 g1=>⟨65,upd (fun _=>.any) 0 (.own 0 g_data (s1.1.map ah).length),fun _=>none,upd (fun _=>none) 0 (some ⟨g_data,9,(s1.1.map ah),true⟩)⟩) (fun t=>fl1 = .next t) ?_ (fun s1 g1 hn1=>?_)
  ·refine az ?_
   refine dA (fun s1 g1=>⟨65,upd (upd (upd (upd (upd (upd (fun _=>.any) 9 (af s1.2.1)) 8 (.val (.int .u64 x19))) 7 (.box 7 b7 0)) 6 (af (IntKind.i64.wrap (b - a)))) 1 (af a)) 0 (.own 0 g_data (s1.1.map ah).length),upd (fun _=>none) 7 (some ⟨b7,[(.val (.int .u64 s1.2.2))]⟩),upd (fun _=>none) 0 (some ⟨g_data,9,(s1.1.map ah),true⟩)⟩) () H1 Gh.d (fun m1 s1 g1 hr1=>?_)
   obtain ⟨fb1,H,hg1⟩ := ct hr1
   refine ab (al 8 tk rfl ?_)
   refine aL rfl H (fun H=>?_) (fun H=>?_)
   ·refine au (ab (az (ab (aa ?_))))
    obtain ⟨x36,h36,H⟩ := am H
    have s36 := oO b7 s1.2.2 _ h36
    refine ci (g := 239) rfl rfl rfl Tryz.call239 [(7,1500)] [] rfl rfl rfl rfl (dS.of2 (ie.cons mH.boxT ie.nil)) (by rw [cN,bT,bS]; rfl) s36 ?_
    rintro u36 H36h ⟨rfl,rfl⟩
    refine ⟨_,rfl,?_⟩
    refine cI (st' := ⟨_,_,upd (fun _=>none) 7 (some ⟨b7,[(.val (.int .u64 x36.2))]⟩),upd (fun _=>none) 0 (some ⟨g_data,9,(s1.1.map ah),true⟩)⟩) (Gh.le (bZ _ _) (aW rfl (dS.r) aD) (aU aE)) ?_
    refine ag 2 tk rfl (Ao.and rfl rfl rfl rfl rfl (ag 2 tk rfl (ac (ab (al 3 tk rfl ?_)))))
    refine ff (γ := Unit) (fun t8 g8=>⟨65,upd (upd (upd (upd (upd (upd (upd (fun _=>.any) 10 (af t8.2)) 9 (af s1.2.1)) 8 (.val (.int .u64 x19))) 7 (.box 7 b7 0)) 6 (af (IntKind.i64.wrap (b - a)))) 1 (af a)) 0 (.own 0 g_data (t8.1.map ah).length),upd (fun _=>none) 7 (some ⟨b7,[(.val (.int .u64 x36.2))]⟩),upd (fun _=>none) 0 (some ⟨g_data,9,(t8.1.map ah),true⟩)⟩) H (fun _ H=>?_) (fun t8 g8 H=>?_)
    ·refine aL rfl H (fun H=>?_) (fun H=>?_)
     ·refine bm 4 tk rfl ?_
      refine aQ _ () H Gh.d
     refine au ?_
     refine aQ _ () H Gh.d
    refine cA (tag := 0) rfl (fun ho0=>?_)
    refine bj tk mok ⟨false,true,[]⟩ [0,1,2,3,4,5,6,7,8,9,10,11,12,13,14,15,16,17,18,19] rfl (by decide +kernel) rfl (aI 10 rfl ?_)
    obtain ⟨x57,k57,H⟩ := aT H
    refine aH tk ⟨k57.1,(aV k57.2)⟩ (bd ho0 k57.2) ?_
    refine bc tk rfl rfl rfl rfl rfl rfl rfl rfl rfl (aJ (fun _=>rfl) k57.2) rfl rfl ?_
    refine aI 2 rfl ?_
    obtain ⟨x61,k61,H⟩ := aT H
    refine aH tk ⟨k61.1,(aV k61.2)⟩ (bd ho0 k61.2) ?_
    refine bc tk rfl rfl rfl rfl rfl rfl rfl rfl rfl (aJ (fun _=>rfl) k61.2) rfl rfl ?_
    obtain ⟨x63,k63,H⟩ := aT H
    refine aH tk ⟨k63.1,(aV k63.2)⟩ (bd ho0 k63.2) ?_
    obtain ⟨y9,hy9,H⟩ := bR H
    refine bY tk rfl rfl rfl rfl rfl rfl rfl rfl rfl (by rw [zl]; exact (zg.1 k63.2).1) (PLe.refl _ _) rfl rfl rfl rfl (by decide) (bD (fun _=>rfl) k63.2 rfl hy9) ?_
    obtain ⟨x64,k64,H⟩ := aT H
    refine aH tk ⟨k64.1,(gw (bf (f := ah) hy9) k64.2)⟩ (gS ho0 (bf (f := ah) hy9) k64.2) ?_
    obtain ⟨y10,hy10,H⟩ := bR H
    refine bY tk rfl rfl rfl rfl rfl rfl rfl rfl rfl (by rw [zl]; exact (zg.1 k64.2).1) (PLe.refl _ _) rfl rfl rfl rfl (by decide) (bD (fun _=>rfl) k64.2 rfl hy10) ?_
    refine aY (aR (bm 3 tk rfl ?_))
    obtain rfl := ax H
    refine cz (y10,(IntKind.i64.wrap (s1.2.1 + (1 : Int))),x36.2) () hg1 (Gh.le (bp (PLe.of2 (mH.of_eq (congrArg (PV.own 0 g_data) ((bf (f := ah) hy9).trans (bf (f := ah) hy10))))) (ao (ao (ao (ao (ao aP)))))) (aW rfl (dS.r) aD) (aU aE))
   refine bF rfl ?_
   obtain rfl := ax H
   refine aQ (s1.1,s1.2.1,s1.2.2) () hg1 Gh.d
  have H := cw hn1 Hp1
  obtain rfl := ax H
  refine cq (st' := ⟨65,fun _=>.any,fun _=>none,upd (fun _=>none) 0 (some ⟨g_data,9,(s1.1.map ah),true⟩)⟩) (Gh.le aP aD (aU aE)) ?_
  refine lw rfl (PLe.q rfl) ⟨rfl,rfl⟩
 refine au ?_
 obtain rfl := ax H
 refine cq (st' := ⟨65,fun _=>.any,fun _=>none,upd (fun _=>none) 0 (some ⟨g_data,9,(data.map ah),true⟩)⟩) (Gh.le aP aD (aU aE)) ?_
 refine lw rfl (PLe.q rfl) ⟨rfl,rfl⟩
def cL (data : List (List UInt8)) (a : Int) (b : Int) (c : Int) (swaps : Int) : Option (Int × (List (List UInt8)) × Int) :=
 ae (cK data a b swaps) fun x16 =>
 ae (dC (x16.2.2.1.length = data.length) ()) fun (_ : Unit) =>
 ae (cK x16.2.2.1 x16.2.1 c x16.2.2.2) fun x24 =>
 ae (dC (x24.2.2.1.length = x16.2.2.1.length) ()) fun (_ : Unit) =>
 ae (cK x24.2.2.1 x16.1 x24.1 x24.2.2.2) fun x32 =>
 ae (dC (x32.2.2.1.length = x24.2.2.1.length) ()) fun (_ : Unit) =>
 some (x32.2.1,x32.2.2.1,x32.2.2.2)
theorem gH (g_data : OwnRef) (b_swaps : Nat) (data : List (List UInt8)) (a : Int) (b : Int) (c : Int) (swaps : Int) (r : Int × (List (List UInt8)) × Int) (H : cL data a b c swaps = some r) :
  PH Tryz.prog 241 [(.own 0 g_data (data.map ah).length),(af a),(af b),(af c),(.box 1504 b_swaps 0)] ⟨upd (fun _=>none) 1504 (some ⟨b_swaps,[(af swaps)]⟩),upd (fun _=>none) 0 (some ⟨g_data,9,(data.map ah),true⟩)⟩ (fun u H=>u = (af r.1) ∧ H = ⟨upd (fun _=>none) 1504 (some ⟨b_swaps,[(af r.2.2)]⟩),upd (fun _=>none) 0 (some ⟨g_data,9,(r.2.1.map ah),true⟩)⟩) := by
 unfold cL at H
 refine PH.ay Tryz.func241 Tryz.ntmps241 ?_
 refine al 1 tk rfl (ab (aa (ag 4 tk rfl ?_)))
 obtain ⟨x16,h16,H⟩ := am H
 have s16 := gJ g_data b_swaps data a b swaps _ h16
 obtain ⟨_,q16_0,H⟩ := am H
 have l16_0 := (bX q16_0).1
 have z16_0 : (List.map ah data).length = (List.map ah x16.2.2.1).length := by simpa using (l16_0).symm
 refine ci (g := 268) rfl rfl rfl Tryz.call268 [(1504,1503)] [(0,0)] rfl rfl rfl rfl (dS.of2 (ie.cons (mH.own rfl) (ie.cons (mH.of_eq rfl) (ie.cons (mH.of_eq rfl) (ie.cons mH.boxT ie.nil))))) (by rw [cN,bT,bL,bS]; rfl) s16 ?_
 rintro u16 H16h ⟨rfl,rfl⟩
 refine ⟨_,rfl,?_⟩
 refine cI (st' := ⟨_,_,upd (fun _=>none) 1504 (some ⟨b_swaps,[(af x16.2.2.2)]⟩),upd (fun _=>none) 0 (some ⟨g_data,9,(x16.2.2.1.map ah),true⟩)⟩) (Gh.le (bZ _ _) (aW rfl (dS.r) aD) (aU aE)) ?_
 refine ag 5 tk rfl (ac (ab (aa (ag 4 tk rfl ?_))))
 obtain ⟨x24,h24,H⟩ := am H
 have s24 := gJ g_data b_swaps x16.2.2.1 x16.2.1 c x16.2.2.2 _ h24
 obtain ⟨_,q24_0,H⟩ := am H
 have l24_0 := (bX q24_0).1
 have z24_0 : (List.map ah x16.2.2.1).length = (List.map ah x24.2.2.1).length := by simpa using (l24_0).symm
 refine ci (g := 268) rfl rfl rfl Tryz.call268 [(1504,1503)] [(0,0)] rfl rfl rfl rfl (dS.of2 (ie.cons (mH.own z16_0) (ie.cons (mH.of_eq rfl) (ie.cons (mH.of_eq rfl) (ie.cons mH.boxT ie.nil))))) (by rw [cN,bT,bL,bS]; rfl) s24 ?_
 rintro u24 H24h ⟨rfl,rfl⟩
 refine ⟨_,rfl,?_⟩
 refine cI (st' := ⟨_,_,upd (fun _=>none) 1504 (some ⟨b_swaps,[(af x24.2.2.2)]⟩),upd (fun _=>none) 0 (some ⟨g_data,9,(x24.2.2.1.map ah),true⟩)⟩) (Gh.le (bZ _ _) (aW rfl (dS.r) aD) (aU aE)) ?_
 refine ag 5 tk rfl (ac (ab (aa (ag 4 tk rfl ?_))))
 obtain ⟨x32,h32,H⟩ := am H
 have s32 := gJ g_data b_swaps x24.2.2.1 x16.1 x24.1 x24.2.2.2 _ h32
 obtain ⟨_,q32_0,H⟩ := am H
 have l32_0 := (bX q32_0).1
 have z32_0 : (List.map ah x24.2.2.1).length = (List.map ah x32.2.2.1).length := by simpa using (l32_0).symm
 refine ci (g := 268) rfl rfl rfl Tryz.call268 [(1504,1503)] [(0,0)] rfl rfl rfl rfl (dS.of2 (ie.cons (mH.own (z16_0.trans z24_0)) (ie.cons (mH.of_eq rfl) (ie.cons (mH.of_eq rfl) (ie.cons mH.boxT ie.nil))))) (by rw [cN,bT,bL,bS]; rfl) s32 ?_
 rintro u32 H32h ⟨rfl,rfl⟩
 refine ⟨_,rfl,?_⟩
 refine cI (st' := ⟨_,_,upd (fun _=>none) 1504 (some ⟨b_swaps,[(af x32.2.2.2)]⟩),upd (fun _=>none) 0 (some ⟨g_data,9,(x32.2.2.1.map ah),true⟩)⟩) (Gh.le (bZ _ _) (aW rfl (dS.r) aD) (aU aE)) ?_
 refine ag 5 tk rfl (ac (al 2 tk rfl ?_))
 obtain rfl := ax H
 refine cq (st' := ⟨36,upd (fun _=>.any) 10 (af x32.2.1),upd (fun _=>none) 1504 (some ⟨b_swaps,[(af x32.2.2.2)]⟩),upd (fun _=>none) 0 (some ⟨g_data,9,(x32.2.2.1.map ah),true⟩)⟩) (Gh.le (ao aP) (aW rfl (dS.r) aD) (aU aE)) ?_
 refine dZ tk rfl (ps := [(af x32.2.1)]) ⟨_,_,rfl,rfl,rfl⟩ (PLe.q rfl) ⟨rfl,rfl⟩
def eE (sA : LSchema) (c : LConstraint) : Option (Int) :=
 ae (fm sA c.table) fun x14 =>
 cond (!x14.2)
  (some 4)
  (ae (aC sA.tables x14.1) fun (x22 : LTable) =>
  be (gA (LVal.mk 0 0 []) c.op (LVal.mk 0 0 [])) fun x30 =>
  be (
   cond (decide (c.left < (0 : Int)))
    (true)
    (cond (decide (c.left ≥ (x22.columns.length : Int)))
     (true)
     (cond (x30.2 != (0 : Int))
      (true)
      (cond (decide (c.right < (-1)))
       (true)
       (cond (decide (c.right ≥ (x22.columns.length : Int)))
        (true)
        (cond (decide (c.right ≥ (0 : Int)))
         ((!(c.value.kind == (0 : Int) && (c.value.int == (0 : Int) && (c.value.text == ([] : List UInt8) && true)))))
         (false))))))) fun (t1 : Bool) =>
  cond t1
   (some 3)
   (cond (decide (c.right ≥ (0 : Int)))
    (ae (aC x22.columns c.left) fun (x76 : LCol) =>
    ae (aC x22.columns c.right) fun (x82 : LCol) =>
    cond (x76.kind != x82.kind)
     (some 7)
     (some 0))
    (ae (aC x22.columns c.left) fun (x92 : LCol) =>
    cond (c.value.kind != x92.kind)
     (some 7)
     (be (jt c.value) fun x98 =>
     some x98))))
theorem mD (sA : LSchema) (c : LConstraint) (r : Int) (H : eE sA c = some r) :
  ba Tryz.prog 68 [(.agg (bK sA)),(.agg (jy c))] (af r) := by
 unfold eE at H
 refine PH.ay Tryz.func68 Tryz.ntmps68 ?_
 refine ab (aa (aS ?_))
 refine aS ?_
 refine ak tk rfl (ac (ab (aa (ag 3 tk rfl ?_))))
 obtain ⟨x14,h14,H⟩ := am H
 have s14 := kq sA c.table _ h14
 refine aq Tryz.call104 (dS.r) s14 ?_
 refine ag 5 tk rfl (ac (ab (al 2 tk rfl ?_)))
 refine aL rfl H (fun H=>?_) (fun H=>?_)
 ·refine al 1 tk rfl ?_
  exact bB tk H rfl
 refine au (ab (aa (ag 3 tk rfl ?_)))
 obtain ⟨x22,k22,H⟩ := aT H
 refine bn tk k22.1 (aJ (fun _=>rfl) k22.2) ?_
 refine ag 3 tk rfl (ac (ab (aa (ag 4 tk rfl ?_))))
 obtain ⟨x30,h30,H⟩ := bR H
 have s30 := rg (LVal.mk 0 0 []) c.op (LVal.mk 0 0 [])
 rw [h30] at s30
 refine aq Tryz.call107 (dS.r) s30 ?_
 refine ag 5 tk rfl (ac (ab (ab ?_)))
 refine ff (γ := Unit) (fun t1 g1=>⟨99,upd (upd (upd (fun _=>.any) 69 (aG t1)) 7 (.list 68 (x22.columns.map bg))) 3 (.ptr (jy c)),fun _=>none,fun _=>none⟩) H (fun _ H=>?_) (fun t1 g1 H=>?_)
 ·refine aa (ag 4 tk rfl ?_)
  refine bw rfl rfl rfl H (fun H=>?_) (fun H=>?_)
  ·refine ag 33 tk rfl (ac ?_)
   refine aQ _ () H Gh.d
  refine ag 3 tk rfl (aK tk (zl _) ?_)
  refine ag 3 tk rfl ?_
  refine bw rfl rfl rfl H (fun H=>?_) (fun H=>?_)
  ·refine ag 26 tk rfl (ac ?_)
   refine aQ _ () H Gh.d
  refine ag 4 tk rfl ?_
  refine bw rfl rfl rfl H (fun H=>?_) (fun H=>?_)
  ·refine ag 22 tk rfl (ac ?_)
   refine aQ _ () H Gh.d
  refine ag 5 tk rfl ?_
  refine bw rfl rfl rfl H (fun H=>?_) (fun H=>?_)
  ·refine ag 17 tk rfl (ac ?_)
   refine aQ _ () H Gh.d
  refine ag 3 tk rfl (aK tk (zl _) ?_)
  refine ag 3 tk rfl ?_
  refine bw rfl rfl rfl H (fun H=>?_) (fun H=>?_)
  ·refine ag 10 tk rfl (ac ?_)
   refine aQ _ () H Gh.d
  refine ag 4 tk rfl ?_
  refine bw rfl rfl rfl H (fun H=>?_) (fun H=>?_)
  ·refine ag 6 tk rfl (ac ?_)
   refine aQ _ () H Gh.d
  refine ag 6 tk rfl (ac ?_)
  refine aQ _ () H Gh.d
 refine aL rfl H (fun H=>?_) (fun H=>?_)
 ·refine al 1 tk rfl ?_
  exact bB tk H rfl
 refine au (ab (al 3 tk rfl ?_))
 refine aL rfl H (fun H=>?_) (fun H=>?_)
 ·refine ab (ab (bj tk mok ⟨false,false,[]⟩ [0,1,2,3,4,5,6,7,8,9,10,11,12] rfl (by decide +kernel) rfl (aI 3 rfl ?_)))
  obtain ⟨x76,k76,H⟩ := aT H
  refine dN k76.1 (aJ (fun _=>rfl) k76.2) ?_
  refine aI 5 rfl ?_
  obtain ⟨x82,k82,H⟩ := aT H
  refine dN k82.1 (aJ (fun _=>rfl) k82.2) ?_
  refine aI 3 rfl (aY ?_)
  refine aL rfl H (fun H=>?_) (fun H=>?_)
  ·refine al 1 tk rfl ?_
   exact bB tk H rfl
  refine au (al 1 tk rfl ?_)
  exact bB tk H rfl
 refine au (ab (ab (bj tk mok ⟨false,false,[]⟩ [0,1,2,3,4,5,6,7,8,9] rfl (by decide +kernel) rfl (aI 6 rfl ?_))))
 obtain ⟨x92,k92,H⟩ := aT H
 refine dN k92.1 (aJ (fun _=>rfl) k92.2) ?_
 refine aI 3 rfl (aY ?_)
 refine aL rfl H (fun H=>?_) (fun H=>?_)
 ·refine al 1 tk rfl ?_
  exact bB tk H rfl
 refine au (ab (aa (ag 2 tk rfl ?_)))
 obtain ⟨x98,h98,H⟩ := bR H
 have s98 := rI c.value
 rw [h98] at s98
 refine aq Tryz.call108 (dS.r) s98 ?_
 refine ak tk rfl (ac ?_)
 exact bB tk H rfl
def ez (c : LChecker) (q : LQuery) (inA : List LCol) : Option ((List LCol) × Int) :=
 ae (aM (σ := List LCol) (ρ := ((List LCol) × Int)) (fun (j1 : Nat) (x1 : LExpr) (s1 : List LCol) =>
  be (fG inA c.vars x1) fun x31 =>
  ae (aC q.names (j1 : Int)) fun (x39 : List UInt8) =>
  be (ec x39) fun x41 =>
  cond (!x41)
   (some (.ret ([],3)))
   (cond (x31.2.2 != (0 : Int))
    (some (.ret ([],x31.2.2)))
    (cond (x31.1 == (0 : Int))
     (some (.ret ([],7)))
     (ae (aC q.names (j1 : Int)) fun (x54 : List UInt8) =>
     ae (dF 32 s1 ([(LCol.mk x54 x31.1 x31.2.1)] : List LCol)) fun (x60 : List LCol) =>
     some (.next x60))))) 0 q.exprs []) fun fl1=>fl1.thenR fun (s1 : List LCol) =>
 ae (aM (σ := List LCol) (ρ := ((List LCol) × Int)) (fun (_ : Nat) (x2 : LAggregateCall) (s2 : List LCol) =>
  ae (fH c inA x2) fun x73 =>
  cond (x73.2 != (0 : Int))
   (some (.ret ([],x73.2)))
   (ae (dF 32 s2 ([(LCol.mk x2.name x73.1 (!(x2.function == ([99,111,117,110,116] : List UInt8))))] : List LCol)) fun (x88 : List LCol) =>
   some (.next x88))) 0 q.aggregates s1) fun fl2=>fl2.thenR fun (s2 : List LCol) =>
 some (s2,0)
theorem lT (c : LChecker) (q : LQuery) (inA : List LCol) (r : (List LCol) × Int) (H : ez c q inA = some r) :
  ba Tryz.prog 233 [(.agg (ef c)),(.agg (aA q)),(.list 68 (inA.map bg))] (.tup [(.list 68 (r.1.map bg)),(af r.2)]) := by
 unfold ez at H
 refine PH.ay Tryz.func233 Tryz.ntmps233 ?_
 refine ab (aa (aS ?_))
 refine aS ?_
 refine ag 2 tk rfl (ac (al 1 tk rfl (ab (ab (aa (ag 2 tk rfl (aK tk (zl _) ?_)))))))
 refine ak tk rfl (ac (lM tk 8 60 (e := 68) rfl rfl ?_))
 refine gY (γ := OwnRef) tk 21 20 19 (fun s1 g1=>upd (upd (upd (upd (fun _=>.any) 8 (.own 60 g1 (s1.map bg).length)) 4 (.ptr (aA q))) 3 (.ptr (ef c))) 2 (.list 68 (inA.map bg))) nB (fun s1 g1=>upd (fun _=>none) 60 (some ⟨g1,68,(s1.map bg),true⟩)) (⟨none,0⟩) H (fun fl1 Hp1 j1 s1 g1 hz1 hl1 x1 fb1 hx1 H hg1=>?_) (fun s1 g1 H=>?_)
 ·refine ab (az (ab (aa (ak tk rfl (bn tk (zn j1) (bC cb hx1) ?_)))))
  refine ak tk rfl ?_
  refine aX tk fun b10=>?_
  refine ak tk rfl (av tk ?_)
  refine ac (ab (aa (ag 3 tk rfl (aB tk ?_))))
  obtain ⟨x31,h31,H⟩ := bR H
  have s31 := mn inA c.vars x1
  rw [h31] at s31
  refine aq Tryz.call132 (dS.r) s31 ?_
  refine ag 7 tk rfl (ac (ab (az (ab (aa (ag 3 tk rfl ?_))))))
  obtain ⟨x39,k39,H⟩ := aT H
  refine bn tk k39.1 (aJ (fun _=>rfl) k39.2) ?_
  refine ak tk rfl ?_
  obtain ⟨x41,h41,H⟩ := bR H
  have s41 := lL x39
  rw [h41] at s41
  refine aq Tryz.call127 (dS.r) s41 ?_
  refine ag 2 tk rfl (ac ?_)
  refine aL rfl H (fun H=>?_) (fun H=>?_)
  ·refine al 2 tk rfl ?_
   obtain rfl := ax H
   have e1 : fl1 = .ret _ := hg1
   subst e1
   obtain rfl := bq Hp1
   refine bQ tk rfl (ps := [(.val (.slice none 0 0)),(af 3)]) ⟨_,_,rfl,rfl,_,_,rfl,rfl,rfl⟩ (PLe.of2 (mH.tup (ie.cons (mH.nil tk rfl) (ie.cons (mH.of_eq rfl) ie.nil))))
  refine al 3 tk rfl ?_
  refine aL rfl H (fun H=>?_) (fun H=>?_)
  ·refine al 3 tk rfl ?_
   obtain rfl := ax H
   have e1 : fl1 = .ret _ := hg1
   subst e1
   obtain rfl := bq Hp1
   refine bQ tk rfl (ps := [(.val (.slice none 0 0)),(af x31.2.2)]) ⟨_,_,rfl,rfl,_,_,rfl,rfl,rfl⟩ (PLe.of2 (mH.tup (ie.cons (mH.nil tk rfl) (ie.cons (mH.of_eq rfl) ie.nil))))
  refine al 3 tk rfl ?_
  refine aL rfl H (fun H=>?_) (fun H=>?_)
  ·refine al 2 tk rfl ?_
   obtain rfl := ax H
   have e1 : fl1 = .ret _ := hg1
   subst e1
   obtain rfl := bq Hp1
   refine bQ tk rfl (ps := [(.val (.slice none 0 0)),(af 7)]) ⟨_,_,rfl,rfl,_,_,rfl,rfl,rfl⟩ (PLe.of2 (mH.tup (ie.cons (mH.nil tk rfl) (ie.cons (mH.of_eq rfl) ie.nil))))
  refine au (aR (aa (ag 4 tk rfl ?_)))
  obtain ⟨x54,k54,H⟩ := aT H
  refine bn tk k54.1 (aJ (fun _=>rfl) k54.2) ?_
  refine ag 4 tk rfl (ew tk (rows' := List.map bg ([(LCol.mk x54 x31.1 x31.2.1)] : List LCol)) (eV.refl _) ?_)
  obtain ⟨x60,h60,H⟩ := am H
  have k60 := cQ h60
  refine dq (rows2' := List.map bg ([(LCol.mk x54 x31.1 x31.2.1)] : List LCol)) (rows' := List.map bg x60) tk rfl rfl rfl rfl rfl rfl rfl rfl rfl rfl rfl rfl rfl (eV.refl _) (eA k60.1) (et k60.2.1) (eB k60.2.2) fun g60=>?_
  refine ak tk rfl (ac (aR (bm 2 tk rfl ?_)))
  exact bO g60 H hl1 hg1
 refine ab (ab (aa (ag 2 tk rfl (aK tk (zl _) ?_))))
 refine ak tk rfl (ac ?_)
 refine gY (γ := OwnRef) tk 65 64 63 (fun s2 g2=>upd (upd (upd (fun _=>.any) 8 (.own 60 g2 (s2.map bg).length)) 3 (.ptr (ef c))) 2 (.list 68 (inA.map bg))) nB (fun s2 g2=>upd (fun _=>none) 60 (some ⟨g2,68,(s2.map bg),true⟩)) g1 H (fun fl2 Hp2 j2 s2 g2 hz2 hl2 x2 fb2 hx2 H hg2=>?_) (fun s2 g2 H=>?_)
 ·refine ab (az (ab (aa ?_)))
  refine bn tk (zn j2) (bC (fun _=>rfl) hx2) ?_
  refine ak tk rfl ?_
  refine aX tk fun b15=>?_
  refine av tk ?_
  refine ac (ab (aa (ag 2 tk rfl (aB tk ?_))))
  obtain ⟨x73,h73,H⟩ := am H
  have s73 := qk c inA x2 _ h73
  refine aq Tryz.call267 (dS.r) s73 ?_
  refine ag 5 tk rfl (ac (ab (al 2 tk rfl ?_)))
  refine aL rfl H (fun H=>?_) (fun H=>?_)
  ·refine al 3 tk rfl ?_
   obtain rfl := ax H
   have e2 : fl2 = .ret _ := hg2
   subst e2
   obtain rfl := bq Hp2
   refine bQ tk rfl (ps := [(.val (.slice none 0 0)),(af x73.2)]) ⟨_,_,rfl,rfl,_,_,rfl,rfl,rfl⟩ (PLe.of2 (mH.tup (ie.cons (mH.nil tk rfl) (ie.cons (mH.of_eq rfl) ie.nil))))
  refine au (aa (ag 2 tk rfl (aB tk ?_)))
  refine ag 2 tk rfl (aB tk ?_)
  refine ag 2 tk rfl ?_
  refine ew tk (rows' := List.map bg ([(LCol.mk x2.name x73.1 (!(x2.function == ([99,111,117,110,116] : List UInt8))))] : List LCol)) (eV.refl _) ?_
  obtain ⟨x88,h88,H⟩ := am H
  have k88 := cQ h88
  refine dq (rows2' := List.map bg ([(LCol.mk x2.name x73.1 (!(x2.function == ([99,111,117,110,116] : List UInt8))))] : List LCol)) (rows' := List.map bg x88) tk rfl rfl rfl rfl rfl rfl rfl rfl rfl rfl rfl rfl rfl (eV.refl _) (eA k88.1) (et k88.2.1) (eB k88.2.2) fun g88=>?_
  refine ak tk rfl (ac (aR (bm 2 tk rfl ?_)))
  exact bO g88 H hl2 hg2
 refine al 3 tk rfl (ib 6 rfl rfl rfl ?_)
 exact bB tk H rfl
def ce (data : List (List UInt8)) (a : Int) (swaps : Int) : Option (Int × (List (List UInt8)) × Int) :=
 ae (cL data (IntKind.i64.wrap (a - (1 : Int))) a (IntKind.i64.wrap (a + (1 : Int))) swaps) fun x14 =>
 ae (dC (x14.2.1.length = data.length) ()) fun (_ : Unit) =>
 some (x14.1,x14.2.1,x14.2.2)
theorem fg (g_data : OwnRef) (b_swaps : Nat) (data : List (List UInt8)) (a : Int) (swaps : Int) (r : Int × (List (List UInt8)) × Int) (H : ce data a swaps = some r) :
  PH Tryz.prog 240 [(.own 0 g_data (data.map ah).length),(af a),(.box 1502 b_swaps 0)] ⟨upd (fun _=>none) 1502 (some ⟨b_swaps,[(af swaps)]⟩),upd (fun _=>none) 0 (some ⟨g_data,9,(data.map ah),true⟩)⟩ (fun u H=>u = (af r.1) ∧ H = ⟨upd (fun _=>none) 1502 (some ⟨b_swaps,[(af r.2.2)]⟩),upd (fun _=>none) 0 (some ⟨g_data,9,(r.2.1.map ah),true⟩)⟩) := by
 unfold ce at H
 refine PH.ay Tryz.func240 Tryz.ntmps240 ?_
 refine al 1 tk rfl (ab (aa (ag 7 tk rfl ?_)))
 obtain ⟨x14,h14,H⟩ := am H
 have s14 := gH g_data b_swaps data (IntKind.i64.wrap (a - (1 : Int))) a (IntKind.i64.wrap (a + (1 : Int))) swaps _ h14
 obtain ⟨_,q14_0,H⟩ := am H
 have l14_0 := (bX q14_0).1
 have z14_0 : (List.map ah data).length = (List.map ah x14.2.1).length := by simpa using (l14_0).symm
 refine ci (g := 241) rfl rfl rfl Tryz.call241 [(1502,1504)] [(0,0)] rfl rfl rfl rfl (dS.of2 (ie.cons (mH.own rfl) (ie.cons (mH.of_eq rfl) (ie.cons (mH.of_eq rfl) (ie.cons (mH.of_eq rfl) (ie.cons mH.boxT ie.nil)))))) (by rw [cN,bT,bL,bS]; rfl) s14 ?_
 rintro u14 H14h ⟨rfl,rfl⟩
 refine ⟨_,rfl,?_⟩
 refine cI (st' := ⟨_,_,upd (fun _=>none) 1502 (some ⟨b_swaps,[(af x14.2.2)]⟩),upd (fun _=>none) 0 (some ⟨g_data,9,(x14.2.1.map ah),true⟩)⟩) (Gh.le (bZ _ _) (aW rfl (dS.r) aD) (aU aE)) ?_
 refine ak tk rfl (ac ?_)
 obtain rfl := ax H
 refine cq (st' := ⟨15,upd (fun _=>.any) 6 (af x14.1),upd (fun _=>none) 1502 (some ⟨b_swaps,[(af x14.2.2)]⟩),upd (fun _=>none) 0 (some ⟨g_data,9,(x14.2.1.map ah),true⟩)⟩) (Gh.le (ao aP) (aW rfl (dS.r) aD) (aU aE)) ?_
 refine dZ tk rfl (ps := [(af x14.1)]) ⟨_,_,rfl,rfl,rfl⟩ (PLe.q rfl) ⟨rfl,rfl⟩
def iu (sA : LSchema) : Option (Int) :=
 be (
  cond (decide ((sA.tables.length : Int) > (6 : Int)))
   (true)
   (cond (decide ((sA.foreignKeys.length : Int) > (8 : Int)))
    (true)
    ((decide ((sA.constraints.length : Int) > (8 : Int)))))) fun (t1 : Bool) =>
 cond t1
  (some 2)
  (ae (aM (σ := Unit) (ρ := (Int)) (fun (j2 : Nat) (x2 : LTable) (_ : Unit) =>
   ae (eS x2) fun x37 =>
   cond (x37 != (0 : Int))
    (some (.ret x37))
    (cond (decide ((j2 : Int) > (0 : Int)))
     (ae (aC sA.tables (IntKind.i64.wrap ((j2 : Int) - (1 : Int)))) fun (x50 : LTable) =>
     cond (Op.bytesLess x2.name x50.name || x2.name == x50.name)
      (some (.ret 6))
      (some (.next ())))
     (some (.next ())))) 0 sA.tables ()) fun fl2=>fl2.thenR fun (_ : Unit) =>
  ae (aM (σ := Unit) (ρ := (Int)) (fun (j3 : Nat) (x3 : LForeignKey) (_ : Unit) =>
   ae (eF sA x3) fun x66 =>
   cond (x66 != (0 : Int))
    (some (.ret x66))
    (ae (mi sA.foreignKeys 0 (j3 : Int)) fun (x73 : List LForeignKey) =>
    ae (bU x73 (fun a0=>fI a0 x3)) fun x75 =>
    cond x75
     (some (.ret 5))
     (some (.next ())))) 0 sA.foreignKeys ()) fun fl3=>fl3.thenR fun (_ : Unit) =>
  ae (aM (σ := Unit) (ρ := (Int)) (fun (j4 : Nat) (x4 : LConstraint) (_ : Unit) =>
   ae (eE sA x4) fun x87 =>
   cond (x87 != (0 : Int))
    (some (.ret x87))
    (ae (mi sA.constraints 0 (j4 : Int)) fun (x94 : List LConstraint) =>
    ae (cg x94 x4) fun x96 =>
    cond x96
     (some (.ret 5))
     (some (.next ())))) 0 sA.constraints ()) fun fl4=>fl4.thenR fun (_ : Unit) =>
  some 0)
theorem rf (sA : LSchema) (r : Int) (H : iu sA = some r) :
  ba Tryz.prog 24 [(.agg (bK sA))] (af r) := by
 unfold iu at H
 refine PH.ay Tryz.func24 Tryz.ntmps24 ?_
 refine ab (aa (aS ?_))
 refine ak tk rfl (ac (ab (ab ?_)))
 refine ff (γ := Unit) (fun t1 g1=>⟨98,upd (upd (fun _=>.any) 27 (aG t1)) 1 (.ptr (bK sA)),fun _=>none,fun _=>none⟩) H (fun _ H=>?_) (fun t1 g1 H=>?_)
 ·refine aa (ag 2 tk rfl (aK tk (zl _) ?_))
  refine ag 2 tk rfl ?_
  refine bw rfl rfl rfl H (fun H=>?_) (fun H=>?_)
  ·refine ag 11 tk rfl (ac ?_)
   refine aQ _ () H Gh.d
  refine ag 2 tk rfl (aK tk (zl _) ?_)
  refine ag 3 tk rfl ?_
  refine bw rfl rfl rfl H (fun H=>?_) (fun H=>?_)
  ·refine ag 5 tk rfl (ac ?_)
   refine aQ _ () H Gh.d
  refine ag 2 tk rfl (aK tk (zl _) ?_)
  refine ag 2 tk rfl (ac ?_)
  refine aQ _ () H Gh.d
 refine aL rfl H (fun H=>?_) (fun H=>?_)
 ·refine al 1 tk rfl ?_
  exact bB tk H rfl
 refine au (ab (ab (aa (ag 2 tk rfl (aK tk (zl _) ?_)))))
 refine ak tk rfl (ac ?_)
 refine gY tk 31 30 29 (fun s2 g2=>upd (fun _=>.any) 1 (.ptr (bK sA))) nB nO () H (fun fl2 Hp2 j2 s2 g2 hz2 hl2 x2 fb2 hx2 H hg2=>?_) (fun s2 g2 H=>?_)
 ·refine ab (az (ab (aa (ak tk rfl ?_))))
  refine bn tk (zn j2) (bC (fun _=>rfl) hx2) ?_
  refine ak tk rfl ?_
  refine aX tk fun b4=>?_
  refine ak tk rfl (av tk ?_)
  refine ac (ab (ab (aa (aB tk ?_))))
  obtain ⟨x37,h37,H⟩ := am H
  have s37 := oJ x2 _ h37
  refine aq Tryz.call63 (dS.r) s37 ?_
  refine ak tk rfl (ac (al 2 tk rfl ?_))
  refine aL rfl H (fun H=>?_) (fun H=>?_)
  ·refine al 2 tk rfl ?_
   obtain rfl := ax H
   have e2 : fl2 = .ret _ := hg2
   subst e2
   obtain rfl := bq Hp2
   refine bQ tk rfl (ps := [(af x37)]) ⟨_,_,rfl,rfl,rfl⟩ (PLe.q rfl)
  refine au (ab (bj tk mok ⟨true,false,[47,52]⟩ [0,1,2,3,4,5,6,7,8,9,10,11,12,13] rfl (by decide +kernel) rfl (aI 3 rfl ?_)))
  refine ir H (fun H=>?_) (fun H=>?_)
  ·refine bN rfl (bh ?_)
   refine aI 4 rfl ?_
   obtain ⟨x50,k50,H⟩ := aT H
   refine dN k50.1 (aJ (fun _=>rfl) k50.2) ?_
   refine aI 4 rfl (aY ?_)
   refine aL rfl H (fun H=>?_) (fun H=>?_)
   ·refine al 1 tk rfl ?_
    obtain rfl := ax H
    have e2 : fl2 = .ret _ := hg2
    subst e2
    obtain rfl := bq Hp2
    refine bQ tk rfl (ps := [(af 6)]) ⟨_,_,rfl,rfl,rfl⟩ (PLe.q rfl)
   refine au (aR (bm 2 tk rfl ?_))
   exact bO () H hl2 hg2
  refine aI 11 rfl (aY (dE rfl (au (aR (bm 2 tk rfl ?_)))))
  exact bO () H hl2 hg2
 refine ab (ab (aa (ag 2 tk rfl (aK tk (zl _) ?_))))
 refine ak tk rfl (ac ?_)
 refine gY tk 59 58 57 (fun s3 g3=>upd (fun _=>.any) 1 (.ptr (bK sA))) nB nO () H (fun fl3 Hp3 j3 s3 g3 hz3 hl3 x3 fb3 hx3 H hg3=>?_) (fun s3 g3 H=>?_)
 ·refine ab (az (ab (aa (ak tk rfl ?_))))
  refine bn tk (zn j3) (bC (fun _=>rfl) hx3) ?_
  refine ak tk rfl ?_
  refine aX tk fun b7=>?_
  refine ak tk rfl (av tk ?_)
  refine ac (ab (ab (aa (ak tk rfl (aB tk ?_)))))
  obtain ⟨x66,h66,H⟩ := am H
  have s66 := mq sA x3 _ h66
  refine aq Tryz.call64 (dS.r) s66 ?_
  refine ak tk rfl (ac (al 2 tk rfl ?_))
  refine aL rfl H (fun H=>?_) (fun H=>?_)
  ·refine al 2 tk rfl ?_
   obtain rfl := ax H
   have e3 : fl3 = .ret _ := hg3
   subst e3
   obtain rfl := bq Hp3
   refine bQ tk rfl (ps := [(af x66)]) ⟨_,_,rfl,rfl,rfl⟩ (PLe.q rfl)
  refine au (ab (aa (ag 3 tk rfl ?_)))
  obtain ⟨x73,h73,H⟩ := am H
  have k73 := lb h73
  refine rW tk rfl rfl rfl rfl rfl (zl _) rfl rfl k73.1 (lV k73.2) rfl (cI (Gh.freezeB 7 rfl rfl rfl rfl) (ak tk rfl ?_))
  obtain ⟨x75,h75,H⟩ := am H
  have s75 := iq x73 (fun a0=>fI a0 x3) Tryz.call66 (fun a0 r h=>ql a0 x3 r h) _ h75
  refine aq Tryz.call65 (dS.r) s75 ?_
  refine ac ?_
  refine aL rfl H (fun H=>?_) (fun H=>?_)
  ·refine al 1 tk rfl ?_
   obtain rfl := ax H
   have e3 : fl3 = .ret _ := hg3
   subst e3
   obtain rfl := bq Hp3
   refine bQ tk rfl (ps := [(af 5)]) ⟨_,_,rfl,rfl,rfl⟩ (PLe.q rfl)
  refine au (aR (bm 2 tk rfl ?_))
  exact bO () H hl3 hg3
 refine ab (ab (aa (ag 2 tk rfl (aK tk (zl _) ?_))))
 refine ak tk rfl (ac ?_)
 refine gY tk 80 79 78 (fun s4 g4=>upd (fun _=>.any) 1 (.ptr (bK sA))) nB nO () H (fun fl4 Hp4 j4 s4 g4 hz4 hl4 x4 fb4 hx4 H hg4=>?_) (fun s4 g4 H=>?_)
 ·refine ab (az (ab (aa (ak tk rfl ?_))))
  refine bn tk (zn j4) (bC (fun _=>rfl) hx4) ?_
  refine ak tk rfl ?_
  refine aX tk fun b10=>?_
  refine ak tk rfl (av tk ?_)
  refine ac (ab (ab (aa (ak tk rfl (aB tk ?_)))))
  obtain ⟨x87,h87,H⟩ := am H
  have s87 := mD sA x4 _ h87
  refine aq Tryz.call68 (dS.r) s87 ?_
  refine ak tk rfl (ac (al 2 tk rfl ?_))
  refine aL rfl H (fun H=>?_) (fun H=>?_)
  ·refine al 2 tk rfl ?_
   obtain rfl := ax H
   have e4 : fl4 = .ret _ := hg4
   subst e4
   obtain rfl := bq Hp4
   refine bQ tk rfl (ps := [(af x87)]) ⟨_,_,rfl,rfl,rfl⟩ (PLe.q rfl)
  refine au (ab (bj tk mok ⟨true,false,[92]⟩ [0,1,2,3,4,5] rfl (by decide +kernel) rfl (aI 3 rfl ?_)))
  obtain ⟨x94,h94,H⟩ := am H
  have k94 := lb h94
  refine rU rfl rfl rfl rfl rfl rfl (zl _) rfl rfl k94.1 (lV k94.2) rfl (bh ?_)
  obtain ⟨x96,h96,H⟩ := am H
  have s96 := iC x94 x4 _ h96
  refine br Tryz.call69 (dS.r) s96 ?_
  refine aY ?_
  refine aL rfl H (fun H=>?_) (fun H=>?_)
  ·refine al 1 tk rfl ?_
   obtain rfl := ax H
   have e4 : fl4 = .ret _ := hg4
   subst e4
   obtain rfl := bq Hp4
   refine bQ tk rfl (ps := [(af 5)]) ⟨_,_,rfl,rfl,rfl⟩ (PLe.q rfl)
  refine au (aR (bm 2 tk rfl ?_))
  exact bO () H hl4 hg4
 refine al 1 tk rfl ?_
 exact bB tk H rfl
def gP (c : LChecker) (q : LQuery) (inA : List (List LCol)) : Option ((List LCol) × Int) :=
 cond (q.kind == (1 : Int))
  (ae (cJ c.s.tables (fun a0=>some (eu a0 q))) fun x25 =>
  cond (decide (x25 < (0 : Int)))
   (some ([],4))
   (ae (aC c.s.tables x25) fun (x32 : LTable) =>
   some (x32.columns,0)))
  (cond (q.kind == (2 : Int))
   (ae (aC inA 0) fun (x39 : List LCol) =>
   ae (aC inA 0) fun (x43 : List LCol) =>
   ae (aC q.exprs 0) fun (x47 : LExpr) =>
   be (dB c x43 x47) fun x49 =>
   some (x39,x49))
   (be (
    cond (q.kind == (4 : Int))
     ((q.kind == (4 : Int)))
     ((q.kind == (5 : Int)))) fun (t1 : Bool) =>
   cond t1
    (ae (aC inA 0) fun (x54 : List LCol) =>
    ae (aC inA 1) fun (x58 : List LCol) =>
    ae (aM (σ := List LCol) (ρ := Empty) (fun (_ : Nat) (x2 : LCol) (s2 : List LCol) =>
     cond x2.nullable
      (ae (dF 32 s2 ([(LCol.mk x2.name x2.kind true)] : List LCol)) fun (x76 : List LCol) =>
      some (.next x76))
      (ae (dF 32 s2 ([(LCol.mk x2.name x2.kind (q.kind == (5 : Int)))] : List LCol)) fun (x76 : List LCol) =>
      some (.next x76))) 0 x58 x54) fun fl2=>fl2.thenP fun (s2 : List LCol) =>
    ae (aC q.exprs 0) fun (x83 : LExpr) =>
    be (dB c s2 x83) fun x85 =>
    some (s2,x85))
    (be (
     cond (q.kind == (6 : Int))
      ((q.kind == (6 : Int)))
      ((q.kind == (7 : Int)))) fun (t3 : Bool) =>
    cond t3
     (ae (aC inA 0) fun (x92 : List LCol) =>
     ae (aC inA 1) fun (x95 : List LCol) =>
     ae (hX q.kind x92 x95) fun x97 =>
     some (x97.1,x97.2))
     (be (
      cond (q.kind == (3 : Int))
       ((q.kind == (3 : Int)))
       ((q.kind == (8 : Int)))) fun (t4 : Bool) =>
     cond t4
      (ae (aC inA 0) fun (x106 : List LCol) =>
      ae (ez c q x106) fun x108 =>
      some (x108.1,x108.2))
      (cond (q.kind == (9 : Int))
       (ae (aM (σ := Unit) (ρ := ((List LCol) × Int)) (fun (_ : Nat) (x5 : LExpr) (_ : Unit) =>
        ae (aC inA 0) fun (x122 : List LCol) =>
        be (fG x122 c.vars x5) fun x127 =>
        cond (x127.2.2 != (0 : Int))
         (some (.ret ([],x127.2.2)))
         (some (.next ()))) 0 q.exprs ()) fun fl5=>fl5.thenR fun (_ : Unit) =>
       ae (aC inA 0) fun (x136 : List LCol) =>
       some (x136,0))
       (ae (aC inA 0) fun (x136 : List LCol) =>
       some (x136,0)))))))
theorem qm (c : LChecker) (q : LQuery) (inA : List (List LCol)) (r : (List LCol) × Int) (H : gP c q inA = some r) :
  ba Tryz.prog 169 [(.agg (ef c)),(.agg (aA q)),(.list 60 (inA.map (kU 68 bg)))] (.tup [(.list 68 (r.1.map bg)),(af r.2)]) := by
 unfold gP at H
 refine PH.ay Tryz.func169 Tryz.ntmps169 ?_
 refine ab (aa (aS ?_))
 refine aS ?_
 refine ag 2 tk rfl (ac (ab (al 2 tk rfl (az (al 2 tk rfl ?_)))))
 refine aL rfl H (fun H=>?_) (fun H=>?_)
 ·refine ab (aa (ag 4 tk rfl ?_))
  obtain ⟨x25,h25,H⟩ := am H
  have s25 := gD c.s.tables (fun a0=>some (eu a0 q)) Tryz.call230 (fun a0 r h=>(ax h) ▸ pq a0 q) _ h25
  refine aq Tryz.call165 (dS.r) s25 ?_
  refine ak tk rfl (ac (ab (al 2 tk rfl ?_)))
  refine aL rfl H (fun H=>?_) (fun H=>?_)
  ·refine al 2 tk rfl ?_
   obtain rfl := ax H
   refine bQ tk rfl (ps := [(.val (.slice none 0 0)),(af 4)]) ⟨_,_,rfl,rfl,_,_,rfl,rfl,rfl⟩ (PLe.of2 (mH.tup (ie.cons (mH.nil tk rfl) (ie.cons (mH.of_eq rfl) ie.nil))))
  refine au (ab (aa (ag 4 tk rfl ?_)))
  obtain ⟨x32,k32,H⟩ := aT H
  refine bn tk k32.1 (aJ (fun _=>rfl) k32.2) ?_
  refine ag 2 tk rfl ?_
  have s35 := qw (m := 35) x32.columns
  refine aq Tryz.call195 (dS.r) (ba.of_own s35) ?_
  refine ag 2 tk rfl (ac ?_)
  exact bB tk H rfl
 refine al 2 tk rfl ?_
 refine aL rfl H (fun H=>?_) (fun H=>?_)
 ·refine ab (bj tk mok ⟨false,false,[]⟩ [0,1,2,3,4,5,6,7,8,9,10,11,12,13] rfl (by decide +kernel) rfl (bN rfl ?_))
  obtain ⟨x39,k39,H⟩ := aT H
  refine dN k39.1 (aJ (fun _=>rfl) k39.2) ?_
  refine aI 3 rfl ?_
  obtain ⟨x43,k43,H⟩ := aT H
  refine dN k43.1 (aJ (fun _=>rfl) k43.2) ?_
  refine aI 3 rfl ?_
  obtain ⟨x47,k47,H⟩ := aT H
  refine dN k47.1 (aJ cb k47.2) ?_
  refine bN rfl ?_
  obtain ⟨x49,h49,H⟩ := bR H
  have s49 := jK c x43 x47
  rw [h49] at s49
  refine br Tryz.call231 (dS.r) s49 ?_
  refine aI 2 rfl (aY ?_)
  exact bB tk H rfl
 refine ab (al 2 tk rfl ?_)
 refine ff (γ := Unit) (fun t1 g1=>⟨138,upd (upd (upd (upd (upd (fun _=>.any) 50 (aG t1)) 18 (af q.kind)) 4 (.ptr (aA q))) 3 (.ptr (ef c))) 2 (.list 60 (inA.map (kU 68 bg))),fun _=>none,fun _=>none⟩) H (fun _ H=>?_) (fun t1 g1 H=>?_)
 ·refine aL rfl H (fun H=>?_) (fun H=>?_)
  ·refine au ?_
   refine aQ _ () H Gh.d
  refine bm 2 tk rfl ?_
  refine aQ _ () H Gh.d
 refine aL rfl H (fun H=>?_) (fun H=>?_)
 ·refine ab (aa (ak tk rfl ?_))
  obtain ⟨x54,k54,H⟩ := aT H
  refine bn tk k54.1 (aJ (fun _=>rfl) k54.2) ?_
  refine ak tk rfl ?_
  have s56 := qw (m := 56) x54
  refine nL (g := 195) rfl rfl rfl Tryz.call195 (dS.r) rfl rfl s56 (fun g56=>?_)
  refine ak tk rfl (ac (ab (ab (aa (ak tk rfl ?_)))))
  obtain ⟨x58,k58,H⟩ := aT H
  refine bn tk k58.1 (aJ (fun _=>rfl) k58.2) ?_
  refine ak tk rfl (aK tk (zl _) ?_)
  refine ak tk rfl (ac ?_)
  refine fC (γ := OwnRef) tk 61 60 59 (fun s2 g2=>upd (upd (upd (fun _=>.any) 9 (.own 56 g2 (s2.map bg).length)) 4 (.ptr (aA q))) 3 (.ptr (ef c))) nB (fun s2 g2=>upd (fun _=>none) 56 (some ⟨g2,68,(s2.map bg),true⟩)) g56 H (fun fl2 Hp2 j2 s2 g2 hz2 hl2 x2 fb2 hx2 H hg2=>?_) (fun s2 g2 H=>?_)
  ·refine ab (az (ab (aa ?_)))
   refine bn tk (zn j2) (bC (fun _=>rfl) hx2) ?_
   refine ak tk rfl ?_
   refine aX tk fun b11=>?_
   refine av tk ?_
   refine ac (ab (aa (ak tk rfl (aB tk ?_))))
   refine ak tk rfl ?_
   refine bw rfl rfl rfl H (fun H=>?_) (fun H=>?_)
   ·refine ag 5 tk rfl (av tk ?_)
    refine ac (aa (ak tk rfl (aB tk ?_)))
    refine ew tk (rows' := List.map bg ([(LCol.mk x2.name x2.kind true)] : List LCol)) (eV.refl _) ?_
    obtain ⟨x76,h76,H⟩ := am H
    have k76 := cQ h76
    refine dq (rows2' := List.map bg ([(LCol.mk x2.name x2.kind true)] : List LCol)) (rows' := List.map bg x76) tk rfl rfl rfl rfl rfl rfl rfl rfl rfl rfl rfl rfl rfl (eV.refl _) (eA k76.1) (et k76.2.1) (eB k76.2.2) fun g76=>?_
    refine ak tk rfl (ac (aR (bm 2 tk rfl ?_)))
    exact bO g76 H hl2 hg2
   refine ag 5 tk rfl (av tk ?_)
   refine ac (aa (ak tk rfl (aB tk ?_)))
   refine ew tk (rows' := List.map bg ([(LCol.mk x2.name x2.kind (q.kind == (5 : Int)))] : List LCol)) (eV.refl _) ?_
   obtain ⟨x76,h76,H⟩ := am H
   have k76 := cQ h76
   refine dq (rows2' := List.map bg ([(LCol.mk x2.name x2.kind (q.kind == (5 : Int)))] : List LCol)) (rows' := List.map bg x76) tk rfl rfl rfl rfl rfl rfl rfl rfl rfl rfl rfl rfl rfl (eV.refl _) (eA k76.1) (et k76.2.1) (eB k76.2.2) fun g76=>?_
   refine ak tk rfl (ac (aR (bm 2 tk rfl ?_)))
   exact bO g76 H hl2 hg2
  refine ab (ib 9 rfl rfl rfl (bj tk mok ⟨false,false,[]⟩ [0,1,2,3,4,5,6,7,8,9] rfl (by decide +kernel) rfl (aI 5 rfl ?_)))
  obtain ⟨x83,k83,H⟩ := aT H
  refine dN k83.1 (aJ cb k83.2) ?_
  refine bN rfl ?_
  obtain ⟨x85,h85,H⟩ := bR H
  have s85 := jK c s2 x83
  rw [h85] at s85
  refine br Tryz.call231 (dS.r) s85 ?_
  refine aI 2 rfl (aY ?_)
  exact bB tk H rfl
 refine ab (al 2 tk rfl ?_)
 refine ff (γ := Unit) (fun t3 g3=>⟨138,upd (upd (upd (upd (upd (fun _=>.any) 86 (aG t3)) 18 (af q.kind)) 4 (.ptr (aA q))) 3 (.ptr (ef c))) 2 (.list 60 (inA.map (kU 68 bg))),fun _=>none,fun _=>none⟩) H (fun _ H=>?_) (fun t3 g3 H=>?_)
 ·refine aL rfl H (fun H=>?_) (fun H=>?_)
  ·refine au ?_
   refine aQ _ () H Gh.d
  refine bm 2 tk rfl ?_
  refine aQ _ () H Gh.d
 refine aL rfl H (fun H=>?_) (fun H=>?_)
 ·refine ab (bj tk mok ⟨false,false,[]⟩ [0,1,2,3,4,5,6,7,8,9,10,11,12] rfl (by decide +kernel) rfl (aI 3 rfl ?_))
  obtain ⟨x92,k92,H⟩ := aT H
  refine dN k92.1 (aJ (fun _=>rfl) k92.2) ?_
  refine aI 2 rfl ?_
  obtain ⟨x95,k95,H⟩ := aT H
  refine dN k95.1 (aJ (fun _=>rfl) k95.2) ?_
  refine bN rfl ?_
  obtain ⟨x97,h97,H⟩ := am H
  have s97 := qC q.kind x92 x95 _ h97
  refine br Tryz.call232 (dS.r) s97 ?_
  refine aI 4 rfl (aY ?_)
  exact bB tk H rfl
 refine ab (al 2 tk rfl ?_)
 refine ff (γ := Unit) (fun t4 g4=>⟨138,upd (upd (upd (upd (upd (fun _=>.any) 100 (aG t4)) 18 (af q.kind)) 4 (.ptr (aA q))) 3 (.ptr (ef c))) 2 (.list 60 (inA.map (kU 68 bg))),fun _=>none,fun _=>none⟩) H (fun _ H=>?_) (fun t4 g4 H=>?_)
 ·refine aL rfl H (fun H=>?_) (fun H=>?_)
  ·refine au ?_
   refine aQ _ () H Gh.d
  refine bm 2 tk rfl ?_
  refine aQ _ () H Gh.d
 refine aL rfl H (fun H=>?_) (fun H=>?_)
 ·refine ab (bj tk mok ⟨false,false,[]⟩ [0,1,2,3,4,5,6,7,8,9] rfl (by decide +kernel) rfl (aI 3 rfl ?_))
  obtain ⟨x106,k106,H⟩ := aT H
  refine dN k106.1 (aJ (fun _=>rfl) k106.2) ?_
  refine bN rfl ?_
  obtain ⟨x108,h108,H⟩ := am H
  have s108 := lT c q x106 _ h108
  refine br Tryz.call233 (dS.r) s108 ?_
  refine aI 4 rfl (aY ?_)
  exact bB tk H rfl
 refine al 2 tk rfl ?_
 refine aL rfl H (fun H=>?_) (fun H=>?_)
 ·refine ab (aa (ag 2 tk rfl (aK tk (zl _) ?_)))
  refine ak tk rfl (ac ?_)
  refine gY tk 116 115 114 (fun s5 g5=>upd (upd (fun _=>.any) 3 (.ptr (ef c))) 2 (.list 60 (inA.map (kU 68 bg)))) nB nO () H (fun fl5 Hp5 j5 s5 g5 hz5 hl5 x5 fb5 hx5 H hg5=>?_) (fun s5 g5 H=>?_)
  ·refine ab (az (ab (aa (bn tk (zn j5) (bC cb hx5) ?_))))
   refine ak tk rfl ?_
   refine aX tk fun b13=>?_
   refine av tk ?_
   refine ac (ab (bj tk mok ⟨true,false,[123,125]⟩ [0,1,2,3,4,5,6,7,8,9,10,11,12,13] rfl (by decide +kernel) rfl (bN rfl ?_)))
   obtain ⟨x122,k122,H⟩ := aT H
   refine dN k122.1 (aJ (fun _=>rfl) k122.2) ?_
   refine aI 3 rfl (bh ?_)
   obtain ⟨x127,h127,H⟩ := bR H
   have s127 := mn x122 c.vars x5
   rw [h127] at s127
   refine br Tryz.call132 (dS.r) s127 ?_
   refine aI 7 rfl (aY (al 2 tk rfl ?_))
   refine aL rfl H (fun H=>?_) (fun H=>?_)
   ·refine al 3 tk rfl ?_
    obtain rfl := ax H
    have e5 : fl5 = .ret _ := hg5
    subst e5
    obtain rfl := bq Hp5
    refine bQ tk rfl (ps := [(.val (.slice none 0 0)),(af x127.2.2)]) ⟨_,_,rfl,rfl,_,_,rfl,rfl,rfl⟩ (PLe.of2 (mH.tup (ie.cons (mH.nil tk rfl) (ie.cons (mH.of_eq rfl) ie.nil))))
   refine au (aR (bm 2 tk rfl ?_))
   exact bO () H hl5 hg5
  refine aR (ab (aa (ak tk rfl ?_)))
  obtain ⟨x136,k136,H⟩ := aT H
  refine bn tk k136.1 (aJ (fun _=>rfl) k136.2) ?_
  refine ag 3 tk rfl (ac ?_)
  exact bB tk H rfl
 refine au (aR (ab (aa (ak tk rfl ?_))))
 obtain ⟨x136,k136,H⟩ := aT H
 refine bn tk k136.1 (aJ (fun _=>rfl) k136.2) ?_
 refine ag 3 tk rfl (ac ?_)
 exact bB tk H rfl
def dw (data : List (List UInt8)) (a : Int) (b : Int) : Option (Int × Int × (List (List UInt8))) :=
 ae (
  cond (decide ((IntKind.i64.wrap (b - a)) ≥ (8 : Int)))
   (cond (decide ((IntKind.i64.wrap (b - a)) ≥ (50 : Int)))
    (ae (ce data (IntKind.i64.wrap (a + (IntKind.i64.wrap ((IntKind.i64.wrap (Int.tdiv (IntKind.i64.wrap (b - a)) (4 : Int))) * (1 : Int))))) 0) fun x37 =>
    ae (dC (x37.2.1.length = data.length) ()) fun (_ : Unit) =>
    ae (ce x37.2.1 (IntKind.i64.wrap (a + (IntKind.i64.wrap ((IntKind.i64.wrap (Int.tdiv (IntKind.i64.wrap (b - a)) (4 : Int))) * (2 : Int))))) x37.2.2) fun x40 =>
    ae (dC (x40.2.1.length = x37.2.1.length) ()) fun (_ : Unit) =>
    ae (ce x40.2.1 (IntKind.i64.wrap (a + (IntKind.i64.wrap ((IntKind.i64.wrap (Int.tdiv (IntKind.i64.wrap (b - a)) (4 : Int))) * (3 : Int))))) x40.2.2) fun x43 =>
    ae (dC (x43.2.1.length = x40.2.1.length) ()) fun (_ : Unit) =>
    ae (cL x43.2.1 x37.1 x40.1 x43.1 x43.2.2) fun x48 =>
    ae (dC (x48.2.1.length = x43.2.1.length) ()) fun (_ : Unit) =>
    some (x48.2.1,x48.1,x48.2.2))
    (ae (cL data (IntKind.i64.wrap (a + (IntKind.i64.wrap ((IntKind.i64.wrap (Int.tdiv (IntKind.i64.wrap (b - a)) (4 : Int))) * (1 : Int))))) (IntKind.i64.wrap (a + (IntKind.i64.wrap ((IntKind.i64.wrap (Int.tdiv (IntKind.i64.wrap (b - a)) (4 : Int))) * (2 : Int))))) (IntKind.i64.wrap (a + (IntKind.i64.wrap ((IntKind.i64.wrap (Int.tdiv (IntKind.i64.wrap (b - a)) (4 : Int))) * (3 : Int))))) 0) fun x48 =>
    ae (dC (x48.2.1.length = data.length) ()) fun (_ : Unit) =>
    some (x48.2.1,x48.1,x48.2.2)))
   (some (data,(IntKind.i64.wrap (a + (IntKind.i64.wrap ((IntKind.i64.wrap (Int.tdiv (IntKind.i64.wrap (b - a)) (4 : Int))) * (2 : Int))))),0))) fun (t1 : List (List UInt8) × Int × Int) =>
 cond (t1.2.2 == (0 : Int))
  (some (t1.2.1,1,t1.1))
  (cond (t1.2.2 == (12 : Int))
   (some (t1.2.1,2,t1.1))
   (some (t1.2.1,0,t1.1)))
theorem kG (g_data : OwnRef) (data : List (List UInt8)) (a : Int) (b : Int) (r : Int × Int × (List (List UInt8))) (H : dw data a b = some r) :
  PH Tryz.prog 184 [(.own 0 g_data (data.map ah).length),(af a),(af b)] ⟨fun _=>none,upd (fun _=>none) 0 (some ⟨g_data,9,(data.map ah),true⟩)⟩ (fun u H=>u = (.tup [(af r.1),(af r.2.1)]) ∧ H = ⟨fun _=>none,upd (fun _=>none) 0 (some ⟨g_data,9,(r.2.2.map ah),true⟩)⟩) := by
 unfold dw at H
 refine PH.ay Tryz.func184 Tryz.ntmps184 ?_
 refine al 2 tk rfl (al 4 tk rfl (ab (aa ?_)))
 refine aX tk fun b9=>?_
 refine ac (al 6 tk rfl (al 6 tk rfl (al 6 tk rfl (ab (al 2 tk rfl ?_)))))
 refine fp (γ := Unit) (fun t1 g1=>⟨57,upd (upd (upd (fun _=>.any) 11 (af t1.2.1)) 9 (.box 9 b9 0)) 0 (.own 0 g_data (t1.1.map ah).length),upd (fun _=>none) 9 (some ⟨b9,[(af t1.2.2)]⟩),upd (fun _=>none) 0 (some ⟨g_data,9,(t1.1.map ah),true⟩)⟩) H (fun _ H=>?_) (fun t1 g1 H=>?_)
 ·refine aL rfl H (fun H=>?_) (fun H=>?_)
  ·refine ab (al 2 tk rfl ?_)
   refine aL rfl H (fun H=>?_) (fun H=>?_)
   ·refine ab (aa (ag 2 tk rfl ?_))
    obtain ⟨x37,h37,H⟩ := am H
    have s37 := fg g_data b9 data (IntKind.i64.wrap (a + (IntKind.i64.wrap ((IntKind.i64.wrap (Int.tdiv (IntKind.i64.wrap (b - a)) (4 : Int))) * (1 : Int))))) 0 _ h37
    obtain ⟨_,q37_0,H⟩ := am H
    have l37_0 := (bX q37_0).1
    have z37_0 : (List.map ah data).length = (List.map ah x37.2.1).length := by simpa using (l37_0).symm
    refine ci (g := 240) rfl rfl rfl Tryz.call240 [(9,1502)] [(0,0)] rfl rfl rfl rfl (dS.of2 (ie.cons (mH.own rfl) (ie.cons (mH.of_eq rfl) (ie.cons mH.boxT ie.nil)))) (by rw [cN,bT,bL,bS]; rfl) s37 ?_
    rintro u37 H37h ⟨rfl,rfl⟩
    refine ⟨_,rfl,?_⟩
    refine cI (st' := ⟨_,_,upd (fun _=>none) 9 (some ⟨b9,[(af x37.2.2)]⟩),upd (fun _=>none) 0 (some ⟨g_data,9,(x37.2.1.map ah),true⟩)⟩) (Gh.le (bZ _ _) (aW rfl (dS.r) aD) (aU aE)) ?_
    refine ak tk rfl (ac (ab (aa (ag 2 tk rfl ?_))))
    obtain ⟨x40,h40,H⟩ := am H
    have s40 := fg g_data b9 x37.2.1 (IntKind.i64.wrap (a + (IntKind.i64.wrap ((IntKind.i64.wrap (Int.tdiv (IntKind.i64.wrap (b - a)) (4 : Int))) * (2 : Int))))) x37.2.2 _ h40
    obtain ⟨_,q40_0,H⟩ := am H
    have l40_0 := (bX q40_0).1
    have z40_0 : (List.map ah x37.2.1).length = (List.map ah x40.2.1).length := by simpa using (l40_0).symm
    refine ci (g := 240) rfl rfl rfl Tryz.call240 [(9,1502)] [(0,0)] rfl rfl rfl rfl (dS.of2 (ie.cons (mH.own z37_0) (ie.cons (mH.of_eq rfl) (ie.cons mH.boxT ie.nil)))) (by rw [cN,bT,bL,bS]; rfl) s40 ?_
    rintro u40 H40h ⟨rfl,rfl⟩
    refine ⟨_,rfl,?_⟩
    refine cI (st' := ⟨_,_,upd (fun _=>none) 9 (some ⟨b9,[(af x40.2.2)]⟩),upd (fun _=>none) 0 (some ⟨g_data,9,(x40.2.1.map ah),true⟩)⟩) (Gh.le (bZ _ _) (aW rfl (dS.r) aD) (aU aE)) ?_
    refine ak tk rfl (ac (aa (ag 2 tk rfl ?_)))
    obtain ⟨x43,h43,H⟩ := am H
    have s43 := fg g_data b9 x40.2.1 (IntKind.i64.wrap (a + (IntKind.i64.wrap ((IntKind.i64.wrap (Int.tdiv (IntKind.i64.wrap (b - a)) (4 : Int))) * (3 : Int))))) x40.2.2 _ h43
    obtain ⟨_,q43_0,H⟩ := am H
    have l43_0 := (bX q43_0).1
    have z43_0 : (List.map ah x40.2.1).length = (List.map ah x43.2.1).length := by simpa using (l43_0).symm
    refine ci (g := 240) rfl rfl rfl Tryz.call240 [(9,1502)] [(0,0)] rfl rfl rfl rfl (dS.of2 (ie.cons (mH.own (z37_0.trans z40_0)) (ie.cons (mH.of_eq rfl) (ie.cons mH.boxT ie.nil)))) (by rw [cN,bT,bL,bS]; rfl) s43 ?_
    rintro u43 H43h ⟨rfl,rfl⟩
    refine ⟨_,rfl,?_⟩
    refine cI (st' := ⟨_,_,upd (fun _=>none) 9 (some ⟨b9,[(af x43.2.2)]⟩),upd (fun _=>none) 0 (some ⟨g_data,9,(x43.2.1.map ah),true⟩)⟩) (Gh.le (bZ _ _) (aW rfl (dS.r) aD) (aU aE)) ?_
    refine ak tk rfl (ac (aa (ag 4 tk rfl ?_)))
    obtain ⟨x48,h48,H⟩ := am H
    have s48 := gH g_data b9 x43.2.1 x37.1 x40.1 x43.1 x43.2.2 _ h48
    obtain ⟨_,q48_0,H⟩ := am H
    have l48_0 := (bX q48_0).1
    have z48_0 : (List.map ah x43.2.1).length = (List.map ah x48.2.1).length := by simpa using (l48_0).symm
    refine ci (g := 241) rfl rfl rfl Tryz.call241 [(9,1504)] [(0,0)] rfl rfl rfl rfl (dS.of2 (ie.cons (mH.own ((z37_0.trans z40_0).trans z43_0)) (ie.cons (mH.of_eq rfl) (ie.cons (mH.of_eq rfl) (ie.cons (mH.of_eq rfl) (ie.cons mH.boxT ie.nil)))))) (by rw [cN,bT,bL,bS]; rfl) s48 ?_
    rintro u48 H48h ⟨rfl,rfl⟩
    refine ⟨_,rfl,?_⟩
    refine cI (st' := ⟨_,_,upd (fun _=>none) 9 (some ⟨b9,[(af x48.2.2)]⟩),upd (fun _=>none) 0 (some ⟨g_data,9,(x48.2.1.map ah),true⟩)⟩) (Gh.le (bZ _ _) (aW rfl (dS.r) aD) (aU aE)) ?_
    refine ak tk rfl (ac ?_)
    refine aQ _ () (ax H) (Gh.le (bp (PLe.of2 (mH.of_eq (congrArg (PV.own 0 g_data) (((z37_0.trans z40_0).trans z43_0).trans z48_0)))) (ao (ao aP))) (aW rfl (dS.r) aD) (aU aE))
   refine au (aa (ag 4 tk rfl ?_))
   obtain ⟨x48,h48,H⟩ := am H
   have s48 := gH g_data b9 data (IntKind.i64.wrap (a + (IntKind.i64.wrap ((IntKind.i64.wrap (Int.tdiv (IntKind.i64.wrap (b - a)) (4 : Int))) * (1 : Int))))) (IntKind.i64.wrap (a + (IntKind.i64.wrap ((IntKind.i64.wrap (Int.tdiv (IntKind.i64.wrap (b - a)) (4 : Int))) * (2 : Int))))) (IntKind.i64.wrap (a + (IntKind.i64.wrap ((IntKind.i64.wrap (Int.tdiv (IntKind.i64.wrap (b - a)) (4 : Int))) * (3 : Int))))) 0 _ h48
   obtain ⟨_,q48_0,H⟩ := am H
   have l48_0 := (bX q48_0).1
   have z48_0 : (List.map ah data).length = (List.map ah x48.2.1).length := by simpa using (l48_0).symm
   refine ci (g := 241) rfl rfl rfl Tryz.call241 [(9,1504)] [(0,0)] rfl rfl rfl rfl (dS.of2 (ie.cons (mH.own rfl) (ie.cons (mH.of_eq rfl) (ie.cons (mH.of_eq rfl) (ie.cons (mH.of_eq rfl) (ie.cons mH.boxT ie.nil)))))) (by rw [cN,bT,bL,bS]; rfl) s48 ?_
   rintro u48 H48h ⟨rfl,rfl⟩
   refine ⟨_,rfl,?_⟩
   refine cI (st' := ⟨_,_,upd (fun _=>none) 9 (some ⟨b9,[(af x48.2.2)]⟩),upd (fun _=>none) 0 (some ⟨g_data,9,(x48.2.1.map ah),true⟩)⟩) (Gh.le (bZ _ _) (aW rfl (dS.r) aD) (aU aE)) ?_
   refine ak tk rfl (ac ?_)
   refine aQ _ () (ax H) (Gh.le (bp (PLe.of2 (mH.of_eq (congrArg (PV.own 0 g_data) z48_0))) (ao (ao aP))) (aW rfl (dS.r) aD) (aU aE))
  refine au ?_
  refine aQ _ () (ax H) Gh.d
 refine ab (aa (aB tk ?_))
 refine ac (az (al 2 tk rfl ?_))
 refine aL rfl H (fun H=>?_) (fun H=>?_)
 ·refine al 3 tk rfl ?_
  obtain rfl := ax H
  refine cq (st' := ⟨57,upd (upd (fun _=>.any) 7 (af 1)) 6 (af t1.2.1),fun _=>none,upd (fun _=>none) 0 (some ⟨g_data,9,(t1.1.map ah),true⟩)⟩) (Gh.le (ao (ao aP)) aD (aU aE)) ?_
  refine dZ tk rfl (ps := [(af t1.2.1),(af 1)]) ⟨_,_,rfl,rfl,_,_,rfl,rfl,rfl⟩ (PLe.q rfl) ⟨rfl,rfl⟩
 refine al 2 tk rfl ?_
 refine aL rfl H (fun H=>?_) (fun H=>?_)
 ·refine al 3 tk rfl ?_
  obtain rfl := ax H
  refine cq (st' := ⟨57,upd (upd (fun _=>.any) 7 (af 2)) 6 (af t1.2.1),fun _=>none,upd (fun _=>none) 0 (some ⟨g_data,9,(t1.1.map ah),true⟩)⟩) (Gh.le (ao (ao aP)) aD (aU aE)) ?_
  refine dZ tk rfl (ps := [(af t1.2.1),(af 2)]) ⟨_,_,rfl,rfl,_,_,rfl,rfl,rfl⟩ (PLe.q rfl) ⟨rfl,rfl⟩
 refine al 3 tk rfl ?_
 obtain rfl := ax H
 refine cq (st' := ⟨57,upd (upd (fun _=>.any) 7 (af 0)) 6 (af t1.2.1),fun _=>none,upd (fun _=>none) 0 (some ⟨g_data,9,(t1.1.map ah),true⟩)⟩) (Gh.le (ao (ao aP)) aD (aU aE)) ?_
 refine dZ tk rfl (ps := [(af t1.2.1),(af 0)]) ⟨_,_,rfl,rfl,_,_,rfl,rfl,rfl⟩ (PLe.q rfl) ⟨rfl,rfl⟩
def eJ (rec112 : LChecker → LQuery → Option ((List LCol) × Int)) (c : LChecker) (q : LQuery) : Option ((List LCol) × Int) :=
 ae (jB q) fun x16 =>
 cond (!x16)
  (some ([],3))
  (ae (aM (σ := List (List LCol)) (ρ := ((List LCol) × Int)) (fun (_ : Nat) (x1 : LQuery) (s1 : List (List LCol)) =>
   ae (rec112 c x1) fun x28 =>
   cond (x28.2 != (0 : Int))
    (some (.ret ([],x28.2)))
    (ae (dF 24 s1 ([x28.1] : List (List LCol))) fun (x37 : List (List LCol)) =>
    some (.next x37))) 0 q.inputs []) fun fl1=>fl1.thenR fun (s1 : List (List LCol)) =>
  ae (gP c q s1) fun x43 =>
  cond (x43.2 != (0 : Int))
   (some ([],x43.2))
   (cond (decide ((x43.1.length : Int) > (20 : Int)))
    (some ([],2))
    (ae (aM (σ := Unit) (ρ := ((List LCol) × Int)) (fun (j2 : Nat) (x2 : LCol) (_ : Unit) =>
     ae (mi x43.1 0 (j2 : Int)) fun (x61 : List LCol) =>
     ae (bW x61 (fun a0=>some (cm a0 x2))) fun x63 =>
     cond x63
      (some (.ret ([],23)))
      (some (.next ()))) 0 x43.1 ()) fun fl2=>fl2.thenR fun (_ : Unit) =>
    some (x43.1,0))))
theorem nV (rec112 : LChecker → LQuery → Option ((List LCol) × Int)) (hrec112 : ∀ a0 a1 r,rec112 a0 a1 = some r → ba Tryz.prog 112 [(.agg (ef a0)),(.agg (aA a1))] (.tup [(.list 68 (r.1.map bg)),(af r.2)])) (c : LChecker) (q : LQuery) (r : (List LCol) × Int) (H : eJ rec112 c q = some r) :
  ba Tryz.prog 112 [(.agg (ef c)),(.agg (aA q))] (.tup [(.list 68 (r.1.map bg)),(af r.2)]) := by
 unfold eJ at H
 refine PH.ay Tryz.func112 Tryz.ntmps112 ?_
 refine ab (aa (aS ?_))
 refine aS ?_
 refine ag 2 tk rfl (ac (ab (ab (aa (ak tk rfl ?_)))))
 obtain ⟨x16,h16,H⟩ := am H
 have s16 := W_query_shape q _ h16
 refine aq Tryz.call168 (dS.r) s16 ?_
 refine ak tk rfl (ac ?_)
 refine aL rfl H (fun H=>?_) (fun H=>?_)
 ·refine al 2 tk rfl ?_
  obtain rfl := ax H
  refine bQ tk rfl (ps := [(.val (.slice none 0 0)),(af 3)]) ⟨_,_,rfl,rfl,_,_,rfl,rfl,rfl⟩ (PLe.of2 (mH.tup (ie.cons (mH.nil tk rfl) (ie.cons (mH.of_eq rfl) ie.nil))))
 refine au (al 1 tk rfl (ab (ab (aa (ag 2 tk rfl (aK tk (zl _) ?_))))))
 refine ak tk rfl (ac (lM tk 6 37 (e := 60) rfl rfl ?_))
 refine gY (γ := OwnRef) tk 21 20 19 (fun s1 g1=>upd (upd (upd (fun _=>.any) 6 (.own 37 g1 (s1.map (kU 68 bg)).length)) 3 (.ptr (aA q))) 2 (.ptr (ef c))) nB (fun s1 g1=>upd (fun _=>none) 37 (some ⟨g1,60,(s1.map (kU 68 bg)),true⟩)) (⟨none,0⟩) H (fun fl1 Hp1 j1 s1 g1 hz1 hl1 x1 fb1 hx1 H hg1=>?_) (fun s1 g1 H=>?_)
 ·refine ab (az (ab (aa (bn tk (zn j1) (bC bH hx1) ?_))))
  refine ak tk rfl ?_
  refine aX tk fun b8=>?_
  refine av tk ?_
  refine ac (ab (aa (ak tk rfl (aB tk ?_))))
  obtain ⟨x28,h28,H⟩ := am H
  have s28 := hrec112 c x1 _ h28
  refine aq Tryz.call112 (dS.r) s28 ?_
  refine ag 5 tk rfl (ac (ab (al 2 tk rfl ?_)))
  refine aL rfl H (fun H=>?_) (fun H=>?_)
  ·refine al 3 tk rfl ?_
   obtain rfl := ax H
   have e1 : fl1 = .ret _ := hg1
   subst e1
   obtain rfl := bq Hp1
   refine bQ tk rfl (ps := [(.val (.slice none 0 0)),(af x28.2)]) ⟨_,_,rfl,rfl,_,_,rfl,rfl,rfl⟩ (PLe.of2 (mH.tup (ie.cons (mH.nil tk rfl) (ie.cons (mH.of_eq rfl) ie.nil))))
  refine au (aa (ag 2 tk rfl (ew tk (rows' := List.map (kU 68 bg) ([x28.1] : List (List LCol))) (eV.refl _) ?_)))
  obtain ⟨x37,h37,H⟩ := am H
  have k37 := cQ h37
  refine dq (rows2' := List.map (kU 68 bg) ([x28.1] : List (List LCol))) (rows' := List.map (kU 68 bg) x37) tk rfl rfl rfl rfl rfl rfl rfl rfl rfl rfl rfl rfl rfl (eV.refl _) (eA k37.1) (et k37.2.1) (eB k37.2.2) fun g37=>?_
  refine ak tk rfl (ac (aR (bm 2 tk rfl ?_)))
  exact bO g37 H hl1 hg1
 refine ab (ib 6 rfl rfl rfl (aa (ag 3 tk rfl ?_)))
 obtain ⟨x43,h43,H⟩ := am H
 have s43 := qm c q s1 _ h43
 refine aq Tryz.call169 (dS.r) s43 ?_
 refine ag 5 tk rfl (ac (ab (al 2 tk rfl ?_)))
 refine aL rfl H (fun H=>?_) (fun H=>?_)
 ·refine al 3 tk rfl ?_
  obtain rfl := ax H
  refine bQ tk rfl (ps := [(.val (.slice none 0 0)),(af x43.2)]) ⟨_,_,rfl,rfl,_,_,rfl,rfl,rfl⟩ (PLe.of2 (mH.tup (ie.cons (mH.nil tk rfl) (ie.cons (mH.of_eq rfl) ie.nil))))
 refine au (ab (ab (aa (ak tk rfl (aK tk (zl _) ?_)))))
 refine ak tk rfl (ac ?_)
 refine aL rfl H (fun H=>?_) (fun H=>?_)
 ·refine al 2 tk rfl ?_
  obtain rfl := ax H
  refine bQ tk rfl (ps := [(.val (.slice none 0 0)),(af 2)]) ⟨_,_,rfl,rfl,_,_,rfl,rfl,rfl⟩ (PLe.of2 (mH.tup (ie.cons (mH.nil tk rfl) (ie.cons (mH.of_eq rfl) ie.nil))))
 refine au (ab (ab (aa (ak tk rfl (aK tk (zl _) ?_)))))
 refine ak tk rfl (ac ?_)
 refine gY tk 54 53 52 (fun s2 g2=>upd (fun _=>.any) 11 (.list 68 (x43.1.map bg))) nB nO () H (fun fl2 Hp2 j2 s2 g2 hz2 hl2 x2 fb2 hx2 H hg2=>?_) (fun s2 g2 H=>?_)
 ·refine ab (az (ab (aa (ak tk rfl ?_))))
  refine bn tk (zn j2) (bC (fun _=>rfl) hx2) ?_
  refine ak tk rfl ?_
  refine aX tk fun b14=>?_
  refine ak tk rfl (av tk ?_)
  refine ac (ab (aa (ag 2 tk rfl ?_)))
  obtain ⟨x61,h61,H⟩ := am H
  have k61 := lb h61
  refine rW tk rfl rfl rfl rfl rfl (zl _) rfl rfl k61.1 (lV k61.2) rfl (cI (Gh.freezeB 14 rfl rfl rfl rfl) (ak tk rfl ?_))
  obtain ⟨x63,h63,H⟩ := am H
  have s63 := iZ x61 (fun a0=>some (cm a0 x2)) Tryz.call171 (fun a0 r h=>(ax h) ▸ ni a0 x2) _ h63
  refine aq Tryz.call170 (dS.r) s63 ?_
  refine ac ?_
  refine aL rfl H (fun H=>?_) (fun H=>?_)
  ·refine al 2 tk rfl ?_
   obtain rfl := ax H
   have e2 : fl2 = .ret _ := hg2
   subst e2
   obtain rfl := bq Hp2
   refine bQ tk rfl (ps := [(.val (.slice none 0 0)),(af 23)]) ⟨_,_,rfl,rfl,_,_,rfl,rfl,rfl⟩ (PLe.of2 (mH.tup (ie.cons (mH.nil tk rfl) (ie.cons (mH.of_eq rfl) ie.nil))))
  refine au (aR (bm 2 tk rfl ?_))
  exact bO () H hl2 hg2
 refine al 3 tk rfl ?_
 exact bB tk H rfl
def eH : Nat → LChecker → LQuery → Option ((List LCol) × Int)
 | 0,_,_=>none
 | n + 1,v0,v1=>eJ (fun b0 b1=>eH n b0 b1) v0 v1
theorem nN  (n : Nat) : (∀ a0 a1 r,eH n a0 a1 = some r → ba Tryz.prog 112 [(.agg (ef a0)),(.agg (aA a1))] (.tup [(.list 68 (r.1.map bg)),(af r.2)])) := by
 induction n with
 | zero=>exact (by intros; rename_i h; exact absurd (show (none : Option _) = some _ from h) (by simp))
 | succ n ih =>
  exact (fun v0 v1 r h=>nV (fun b0 b1=>eH n b0 b1) ih v0 v1  r h)
def fB (c : LChecker) (q : LQuery) : Option ((List LCol) × Int) := gg fun n=>eH n c q
theorem oi (c : LChecker) (q : LQuery) (r : (List LCol) × Int) (H : fB c q = some r) :
  ba Tryz.prog 112 [(.agg (ef c)),(.agg (aA q))] (.tup [(.list 68 (r.1.map bg)),(af r.2)]) := by
 obtain ⟨n,h⟩ := gG H
 exact (nN  n) c q r h
def cD (rec121 : (List (List UInt8)) → Int → Int → Int → Option ((List (List UInt8)))) (data : List (List UInt8)) (a : Int) (b : Int) (limit : Int) : Option ((List (List UInt8))) :=
 ae (whileM (σ := List (List UInt8) × Int × Int × Int × Bool × Bool) (ρ := ((List (List UInt8)))) (fun (s1 : List (List UInt8) × Int × Int × Int × Bool × Bool) =>
  cond (decide ((IntKind.i64.wrap (s1.2.2.1 - s1.2.1)) ≤ (12 : Int)))
   (ae (da s1.1 s1.2.1 s1.2.2.1) fun x27 =>
   ae (dC (x27.length = s1.1.length) ()) fun (_ : Unit) =>
   some (.ret x27))
   (cond (s1.2.2.2.1 == (0 : Int))
    (ae (dR s1.1 s1.2.1 s1.2.2.1) fun x33 =>
    ae (dC (x33.length = s1.1.length) ()) fun (_ : Unit) =>
    some (.ret x33))
    (ae (
     cond (!s1.2.2.2.2.1)
      (ae (dh s1.1 s1.2.1 s1.2.2.1) fun x39 =>
      ae (dC (x39.length = s1.1.length) ()) fun (_ : Unit) =>
      some (x39,(IntKind.i64.wrap (s1.2.2.2.1 - (1 : Int)))))
      (some (s1.1,s1.2.2.2.1))) fun (t15 : List (List UInt8) × Int) =>
    ae (dw t15.1 s1.2.1 s1.2.2.1) fun x46 =>
    ae (dC (x46.2.2.length = t15.1.length) ()) fun (_ : Unit) =>
    ae (
     cond (x46.2.1 == (2 : Int))
      (ae (dp x46.2.2 s1.2.1 s1.2.2.1) fun x54 =>
      ae (dC (x54.length = x46.2.2.length) ()) fun (_ : Unit) =>
      some (x54,(IntKind.i64.wrap ((IntKind.i64.wrap (s1.2.2.1 - (1 : Int))) - (IntKind.i64.wrap (x46.1 - s1.2.1)))),1))
      (some (x46.2.2,x46.1,x46.2.1))) fun (t16 : List (List UInt8) × Int × Int) =>
    be (
     cond s1.2.2.2.2.1
      (cond s1.2.2.2.2.2
       ((t16.1,(t16.2.2 == (1 : Int))))
       ((t16.1,false)))
      ((t16.1,false))) fun (t17 : List (List UInt8) × Bool) =>
    ae (
     cond t17.2
      (ae (cp t17.1 s1.2.1 s1.2.2.1) fun x72 =>
      ae (dC (x72.2.length = t17.1.length) ()) fun (_ : Unit) =>
      cond x72.1
       (some (.ret x72.2))
       (some (.next x72.2)))
      (some (.next t17.1))) fun (fl18 : Flow (List (List UInt8)) ((List (List UInt8))))=>fl18.thenF fun t18 =>
    ae (
     cond (decide (s1.2.1 > (0 : Int)))
      (ae (aC t18 (IntKind.i64.wrap (s1.2.1 - (1 : Int)))) fun (x79 : List UInt8) =>
      ae (aC t18 t16.2.1) fun (x83 : List UInt8) =>
      be (bi x79 x83) fun x85 =>
      some (t18,(!x85)))
      (some (t18,false))) fun (t19 : List (List UInt8) × Bool) =>
    cond t19.2
     (ae (cS t19.1 s1.2.1 s1.2.2.1 t16.2.1) fun x92 =>
     ae (dC (x92.2.length = t19.1.length) ()) fun (_ : Unit) =>
     some (.next (x92.2,x92.1,s1.2.2.1,t15.2,s1.2.2.2.2.1,s1.2.2.2.2.2)))
     (ae (dJ t19.1 s1.2.1 s1.2.2.1 t16.2.1) fun x99 =>
     ae (dC (x99.2.2.length = t19.1.length) ()) fun (_ : Unit) =>
     cond (decide ((IntKind.i64.wrap (x99.1 - s1.2.1)) < (IntKind.i64.wrap (s1.2.2.1 - x99.1))))
      (ae (rec121 x99.2.2 s1.2.1 x99.1 t15.2) fun x121 =>
      ae (dC (x121.length = x99.2.2.length) ()) fun (_ : Unit) =>
      some (.next (x121,(IntKind.i64.wrap (x99.1 + (1 : Int))),s1.2.2.1,t15.2,(decide ((IntKind.i64.wrap (x99.1 - s1.2.1)) ≥ (IntKind.i64.wrap (Int.tdiv (IntKind.i64.wrap (s1.2.2.1 - s1.2.1)) (8 : Int))))),x99.2.1)))
      (ae (rec121 x99.2.2 (IntKind.i64.wrap (x99.1 + (1 : Int))) s1.2.2.1 t15.2) fun x132 =>
      ae (dC (x132.length = x99.2.2.length) ()) fun (_ : Unit) =>
      some (.next (x132,s1.2.1,x99.1,t15.2,(decide ((IntKind.i64.wrap (s1.2.2.1 - x99.1)) ≥ (IntKind.i64.wrap (Int.tdiv (IntKind.i64.wrap (s1.2.2.1 - s1.2.1)) (8 : Int))))),x99.2.1))))))) (data,a,b,limit,true,true)) fun fl1=>fl1.thenR fun (s1 : List (List UInt8) × Int × Int × Int × Bool × Bool) =>
 some s1.1
theorem lp (g_data : OwnRef) (rec121 : (List (List UInt8)) → Int → Int → Int → Option ((List (List UInt8)))) (hrec121 : ∀ g0 a0 a1 a2 a3 r,rec121 a0 a1 a2 a3 = some r → PH Tryz.prog 121 [(.own 0 g0 (a0.map ah).length),(af a1),(af a2),(af a3)] ⟨fun _=>none,upd (fun _=>none) 0 (some ⟨g0,9,(a0.map ah),true⟩)⟩ (fun u H=>u = (.tup []) ∧ H = ⟨fun _=>none,upd (fun _=>none) 0 (some ⟨g0,9,(r.map ah),true⟩)⟩)) (data : List (List UInt8)) (a : Int) (b : Int) (limit : Int) (r : (List (List UInt8))) (H : cD rec121 data a b limit = some r) :
  PH Tryz.prog 121 [(.own 0 g_data (data.map ah).length),(af a),(af b),(af limit)] ⟨fun _=>none,upd (fun _=>none) 0 (some ⟨g_data,9,(data.map ah),true⟩)⟩ (fun u H=>u = (.tup []) ∧ H = ⟨fun _=>none,upd (fun _=>none) 0 (some ⟨g_data,9,(r.map ah),true⟩)⟩) := by
 unfold cD at H
 refine PH.ay Tryz.func121 Tryz.ntmps121 ?_
 refine al 1 tk rfl (al 1 tk rfl ?_)
 obtain ⟨fl1,H1,Hp1⟩ := am H
 refine dU (τ := List (List UInt8) × Int × Int × Int × Bool × Bool) (γ := Unit) (fun s1 g1=>⟨134,upd (fun _=>.any) 0 (.own 0 g_data (s1.1.map ah).length),fun _=>none,upd (fun _=>none) 0 (some ⟨g_data,9,(s1.1.map ah),true⟩)⟩) (fun t=>fl1 = .next t) ?_ (fun s1 g1 hn1=>?_)
 ·refine az ?_
  refine dA (fun s1 g1=>⟨134,upd (upd (upd (upd (upd (upd (fun _=>.any) 9 (aG s1.2.2.2.2.2)) 8 (aG s1.2.2.2.2.1)) 3 (af s1.2.2.2.1)) 2 (af s1.2.2.1)) 1 (af s1.2.1)) 0 (.own 0 g_data (s1.1.map ah).length),fun _=>none,upd (fun _=>none) 0 (some ⟨g_data,9,(s1.1.map ah),true⟩)⟩) () H1 Gh.d (fun m1 s1 g1 hr1=>?_)
  obtain ⟨fb1,H,hg1⟩ := ct hr1
  refine az (al 4 tk rfl (ab (al 2 tk rfl ?_)))
  refine aL rfl H (fun H=>?_) (fun H=>?_)
  ·refine ab (aa (ag 3 tk rfl ?_))
   obtain ⟨x27,h27,H⟩ := am H
   have s27 := ka g_data s1.1 s1.2.1 s1.2.2.1 _ h27
   obtain ⟨_,q27_0,H⟩ := am H
   have l27_0 := (bX q27_0).1
   have z27_0 : (List.map ah s1.1).length = (List.map ah x27).length := by simpa using (l27_0).symm
   refine ci (g := 181) rfl rfl rfl Tryz.call181 [] [(0,0)] rfl rfl rfl rfl (dS.of2 (ie.cons (mH.own rfl) (ie.cons (mH.of_eq rfl) (ie.cons (mH.of_eq rfl) ie.nil)))) (by rw [bT,bL,bS]; rfl) s27 ?_
   rintro u27 H27h ⟨rfl,rfl⟩
   refine ⟨_,rfl,?_⟩
   refine cI (st' := ⟨_,_,fun _=>none,upd (fun _=>none) 0 (some ⟨g_data,9,(x27.map ah),true⟩)⟩) (Gh.le (bZ _ _) aD (aU aE)) ?_
   refine ac ?_
   obtain rfl := ax H
   have e1 : fl1 = .ret _ := hg1
   subst e1
   obtain rfl := bq Hp1
   refine cq (st' := ⟨134,fun _=>.any,fun _=>none,upd (fun _=>none) 0 (some ⟨g_data,9,(x27.map ah),true⟩)⟩) (Gh.le aP aD (aU aE)) ?_
   refine dZ tk rfl (ps := []) rfl (PLe.q rfl) ⟨rfl,rfl⟩
  refine au (ab (al 2 tk rfl ?_))
  refine aL rfl H (fun H=>?_) (fun H=>?_)
  ·refine ab (aa (ag 3 tk rfl ?_))
   obtain ⟨x33,h33,H⟩ := am H
   have s33 := ln g_data s1.1 s1.2.1 s1.2.2.1 _ h33
   obtain ⟨_,q33_0,H⟩ := am H
   have l33_0 := (bX q33_0).1
   have z33_0 : (List.map ah s1.1).length = (List.map ah x33).length := by simpa using (l33_0).symm
   refine ci (g := 182) rfl rfl rfl Tryz.call182 [] [(0,0)] rfl rfl rfl rfl (dS.of2 (ie.cons (mH.own rfl) (ie.cons (mH.of_eq rfl) (ie.cons (mH.of_eq rfl) ie.nil)))) (by rw [bT,bL,bS]; rfl) s33 ?_
   rintro u33 H33h ⟨rfl,rfl⟩
   refine ⟨_,rfl,?_⟩
   refine cI (st' := ⟨_,_,fun _=>none,upd (fun _=>none) 0 (some ⟨g_data,9,(x33.map ah),true⟩)⟩) (Gh.le (bZ _ _) aD (aU aE)) ?_
   refine ac ?_
   obtain rfl := ax H
   have e1 : fl1 = .ret _ := hg1
   subst e1
   obtain rfl := bq Hp1
   refine cq (st' := ⟨134,fun _=>.any,fun _=>none,upd (fun _=>none) 0 (some ⟨g_data,9,(x33.map ah),true⟩)⟩) (Gh.le aP aD (aU aE)) ?_
   refine dZ tk rfl (ps := []) rfl (PLe.q rfl) ⟨rfl,rfl⟩
  refine au (ab (al 2 tk rfl ?_))
  refine fp (γ := Unit) (fun t15 g15=>⟨134,upd (upd (upd (upd (upd (upd (upd (fun _=>.any) 10 (af (IntKind.i64.wrap (s1.2.2.1 - s1.2.1)))) 9 (aG s1.2.2.2.2.2)) 8 (aG s1.2.2.2.2.1)) 3 (af t15.2)) 2 (af s1.2.2.1)) 1 (af s1.2.1)) 0 (.own 0 g_data (t15.1.map ah).length),fun _=>none,upd (fun _=>none) 0 (some ⟨g_data,9,(t15.1.map ah),true⟩)⟩) H (fun _ H=>?_) (fun t15 g15 H=>?_)
  ·refine aL rfl H (fun H=>?_) (fun H=>?_)
   ·refine ab (aa (ag 3 tk rfl ?_))
    obtain ⟨x39,h39,H⟩ := am H
    have s39 := jX g_data s1.1 s1.2.1 s1.2.2.1 _ h39
    obtain ⟨_,q39_0,H⟩ := am H
    have l39_0 := (bX q39_0).1
    have z39_0 : (List.map ah s1.1).length = (List.map ah x39).length := by simpa using (l39_0).symm
    refine ci (g := 183) rfl rfl rfl Tryz.call183 [] [(0,0)] rfl rfl rfl rfl (dS.of2 (ie.cons (mH.own rfl) (ie.cons (mH.of_eq rfl) (ie.cons (mH.of_eq rfl) ie.nil)))) (by rw [bT,bL,bS]; rfl) s39 ?_
    rintro u39 H39h ⟨rfl,rfl⟩
    refine ⟨_,rfl,?_⟩
    refine cI (st' := ⟨_,_,fun _=>none,upd (fun _=>none) 0 (some ⟨g_data,9,(x39.map ah),true⟩)⟩) (Gh.le (bZ _ _) aD (aU aE)) ?_
    refine ac (bm 3 tk rfl ?_)
    refine aQ _ () (ax H) (Gh.le (bp (PLe.of2 (mH.of_eq (congrArg (PV.own 0 g_data) z39_0))) (ao (ao (ao (ao (ao (ao aP))))))) aD (aU aE))
   refine au ?_
   refine aQ _ () (ax H) Gh.d
  refine ab (aa (ag 3 tk rfl ?_))
  obtain ⟨x46,h46,H⟩ := am H
  have s46 := kG g_data t15.1 s1.2.1 s1.2.2.1 _ h46
  obtain ⟨_,q46_0,H⟩ := am H
  have l46_0 := (bX q46_0).1
  have z46_0 : (List.map ah t15.1).length = (List.map ah x46.2.2).length := by simpa using (l46_0).symm
  refine ci (g := 184) rfl rfl rfl Tryz.call184 [] [(0,0)] rfl rfl rfl rfl (dS.of2 (ie.cons (mH.own rfl) (ie.cons (mH.of_eq rfl) (ie.cons (mH.of_eq rfl) ie.nil)))) (by rw [bT,bL,bS]; rfl) s46 ?_
  rintro u46 H46h ⟨rfl,rfl⟩
  refine ⟨_,rfl,?_⟩
  refine cI (st' := ⟨_,_,fun _=>none,upd (fun _=>none) 0 (some ⟨g_data,9,(x46.2.2.map ah),true⟩)⟩) (Gh.le (bZ _ _) aD (aU aE)) ?_
  refine ag 5 tk rfl (ac (ab (al 2 tk rfl ?_)))
  refine fp (γ := Unit) (fun t16 g16=>⟨134,upd (upd (upd (upd (upd (upd (upd (upd (upd (fun _=>.any) 12 (af t16.2.2)) 11 (af t16.2.1)) 10 (af (IntKind.i64.wrap (s1.2.2.1 - s1.2.1)))) 9 (aG s1.2.2.2.2.2)) 8 (aG s1.2.2.2.2.1)) 3 (af t15.2)) 2 (af s1.2.2.1)) 1 (af s1.2.1)) 0 (.own 0 g_data (t16.1.map ah).length),fun _=>none,upd (fun _=>none) 0 (some ⟨g_data,9,(t16.1.map ah),true⟩)⟩) H (fun _ H=>?_) (fun t16 g16 H=>?_)
  ·refine aL rfl H (fun H=>?_) (fun H=>?_)
   ·refine ab (aa (ag 3 tk rfl ?_))
    obtain ⟨x54,h54,H⟩ := am H
    have s54 := kB g_data x46.2.2 s1.2.1 s1.2.2.1 _ h54
    obtain ⟨_,q54_0,H⟩ := am H
    have l54_0 := (bX q54_0).1
    have z54_0 : (List.map ah x46.2.2).length = (List.map ah x54).length := by simpa using (l54_0).symm
    refine ci (g := 185) rfl rfl rfl Tryz.call185 [] [(0,0)] rfl rfl rfl rfl (dS.of2 (ie.cons (mH.own z46_0) (ie.cons (mH.of_eq rfl) (ie.cons (mH.of_eq rfl) ie.nil)))) (by rw [bT,bL,bS]; rfl) s54 ?_
    rintro u54 H54h ⟨rfl,rfl⟩
    refine ⟨_,rfl,?_⟩
    refine cI (st' := ⟨_,_,fun _=>none,upd (fun _=>none) 0 (some ⟨g_data,9,(x54.map ah),true⟩)⟩) (Gh.le (bZ _ _) aD (aU aE)) ?_
    refine ac (al 7 tk rfl (bm 1 tk rfl ?_))
    refine aQ _ () (ax H) (Gh.le (bp (PLe.of2 (mH.of_eq (congrArg (PV.own 0 g_data) (z46_0.trans z54_0)))) (ao (ao (ao (ao (ao (ao (ao (ao aP))))))))) aD (aU aE))
   refine au ?_
   refine aQ _ () (ax H) (Gh.le (bp (PLe.of2 (mH.of_eq (congrArg (PV.own 0 g_data) z46_0))) (ao (ao (ao (ao (ao (ao (ao (ao aP))))))))) aD (aU aE))
  refine ab (ab ?_)
  refine ff (γ := Unit) (fun t17 g17=>⟨134,upd (upd (upd (upd (upd (upd (upd (upd (upd (fun _=>.any) 68 (aG t17.2)) 11 (af t16.2.1)) 10 (af (IntKind.i64.wrap (s1.2.2.1 - s1.2.1)))) 9 (aG s1.2.2.2.2.2)) 8 (aG s1.2.2.2.2.1)) 3 (af t15.2)) 2 (af s1.2.2.1)) 1 (af s1.2.1)) 0 (.own 0 g_data (t17.1.map ah).length),fun _=>none,upd (fun _=>none) 0 (some ⟨g_data,9,(t17.1.map ah),true⟩)⟩) H (fun _ H=>?_) (fun t17 g17 H=>?_)
  ·refine aa (ag 2 tk rfl ?_)
   refine bw rfl rfl rfl H (fun H=>?_) (fun H=>?_)
   ·refine ag 3 tk rfl ?_
    refine bw rfl rfl rfl H (fun H=>?_) (fun H=>?_)
    ·refine ag 3 tk rfl (ac ?_)
     refine aQ _ () H Gh.d
    refine ag 3 tk rfl (ac ?_)
    refine aQ _ () H Gh.d
   refine ag 6 tk rfl (ac ?_)
   refine aQ _ () H Gh.d
  refine V.cutF (γ := Unit) (fun t18 g18=>⟨134,upd (upd (upd (upd (upd (upd (upd (upd (fun _=>.any) 11 (af t16.2.1)) 10 (af (IntKind.i64.wrap (s1.2.2.1 - s1.2.1)))) 9 (aG s1.2.2.2.2.2)) 8 (aG s1.2.2.2.2.1)) 3 (af t15.2)) 2 (af s1.2.2.1)) 1 (af s1.2.1)) 0 (.own 0 g_data (t18.map ah).length),fun _=>none,upd (fun _=>none) 0 (some ⟨g_data,9,(t18.map ah),true⟩)⟩) H (fun _ H Hp18=>?_) (fun t18 g18 H=>?_)
  ·refine aL rfl H (fun H=>?_) (fun H=>?_)
   ·refine ab (aa (ag 3 tk rfl ?_))
    obtain ⟨x72,h72,H⟩ := am H
    have s72 := jc g_data t17.1 s1.2.1 s1.2.2.1 _ h72
    obtain ⟨_,q72_0,H⟩ := am H
    have l72_0 := (bX q72_0).1
    have z72_0 : (List.map ah t17.1).length = (List.map ah x72.2).length := by simpa using (l72_0).symm
    refine ci (g := 186) rfl rfl rfl Tryz.call186 [] [(0,0)] rfl rfl rfl rfl (dS.of2 (ie.cons (mH.own rfl) (ie.cons (mH.of_eq rfl) (ie.cons (mH.of_eq rfl) ie.nil)))) (by rw [bT,bL,bS]; rfl) s72 ?_
    rintro u72 H72h ⟨rfl,rfl⟩
    refine ⟨_,rfl,?_⟩
    refine cI (st' := ⟨_,_,fun _=>none,upd (fun _=>none) 0 (some ⟨g_data,9,(x72.2.map ah),true⟩)⟩) (Gh.le (bZ _ _) aD (aU aE)) ?_
    refine ac ?_
    refine aL rfl H (fun H=>?_) (fun H=>?_)
    ·obtain rfl := ax H
     have q18 := thenF_ret Hp18
     subst q18
     have e1 : fl1 = .ret _ := hg1
     subst e1
     obtain rfl := bq Hp1
     refine cq (st' := ⟨134,fun _=>.any,fun _=>none,upd (fun _=>none) 0 (some ⟨g_data,9,(x72.2.map ah),true⟩)⟩) (Gh.le aP aD (aU aE)) ?_
     refine dZ tk rfl (ps := []) rfl (PLe.q rfl) ⟨rfl,rfl⟩
    refine au ?_
    refine aQ _ () (ax H).symm (Gh.le (bp (PLe.of2 (mH.of_eq (congrArg (PV.own 0 g_data) z72_0))) (ao (ao (ao (ao (ao (ao (ao aP)))))))) aD (aU aE))
   refine au ?_
   refine aQ _ () (ax H).symm Gh.d
  refine ab (ab ?_)
  refine fp (γ := Unit) (fun t19 g19=>⟨134,upd (upd (upd (upd (upd (upd (upd (upd (upd (fun _=>.any) 87 (aG t19.2)) 11 (af t16.2.1)) 10 (af (IntKind.i64.wrap (s1.2.2.1 - s1.2.1)))) 9 (aG s1.2.2.2.2.2)) 8 (aG s1.2.2.2.2.1)) 3 (af t15.2)) 2 (af s1.2.2.1)) 1 (af s1.2.1)) 0 (.own 0 g_data (t19.1.map ah).length),fun _=>none,upd (fun _=>none) 0 (some ⟨g_data,9,(t19.1.map ah),true⟩)⟩) H (fun _ H=>?_) (fun t19 g19 H=>?_)
  ·refine cA (tag := 0) rfl (fun ho0=>?_)
   refine bj tk mok ⟨false,true,[]⟩ [0,1,2,3,4,5,6,7,8,9,10,11,12,13,14] rfl (by decide +kernel) rfl (aI 3 rfl ?_)
   refine ir H (fun H=>?_) (fun H=>?_)
   ·refine aI 3 rfl ?_
    obtain ⟨x79,k79,H⟩ := aT H
    refine aH tk ⟨k79.1,(aV k79.2)⟩ (bd ho0 k79.2) ?_
    refine bc tk rfl rfl rfl rfl rfl rfl rfl rfl rfl (aJ (fun _=>rfl) k79.2) rfl rfl ?_
    refine aI 2 rfl ?_
    obtain ⟨x83,k83,H⟩ := aT H
    refine aH tk ⟨k83.1,(aV k83.2)⟩ (bd ho0 k83.2) ?_
    refine bc tk rfl rfl rfl rfl rfl rfl rfl rfl rfl (aJ (fun _=>rfl) k83.2) rfl rfl ?_
    obtain ⟨x85,h85,H⟩ := bR H
    have s85 := cr x79 x83
    rw [h85] at s85
    refine br Tryz.call187 (dS.r) s85 ?_
    refine aI 2 rfl (aY ?_)
    refine aQ _ () (ax H) Gh.d
   refine aI 12 rfl (aY ?_)
   refine aQ _ () (ax H) Gh.d
  refine aL rfl H (fun H=>?_) (fun H=>?_)
  ·refine ab (aa (ag 4 tk rfl ?_))
   obtain ⟨x92,h92,H⟩ := am H
   have s92 := jP g_data t19.1 s1.2.1 s1.2.2.1 t16.2.1 _ h92
   obtain ⟨_,q92_0,H⟩ := am H
   have l92_0 := (bX q92_0).1
   have z92_0 : (List.map ah t19.1).length = (List.map ah x92.2).length := by simpa using (l92_0).symm
   refine ci (g := 188) rfl rfl rfl Tryz.call188 [] [(0,0)] rfl rfl rfl rfl (dS.of2 (ie.cons (mH.own rfl) (ie.cons (mH.of_eq rfl) (ie.cons (mH.of_eq rfl) (ie.cons (mH.of_eq rfl) ie.nil))))) (by rw [bT,bL,bS]; rfl) s92 ?_
   rintro u92 H92h ⟨rfl,rfl⟩
   refine ⟨_,rfl,?_⟩
   refine cI (st' := ⟨_,_,fun _=>none,upd (fun _=>none) 0 (some ⟨g_data,9,(x92.2.map ah),true⟩)⟩) (Gh.le (bZ _ _) aD (aU aE)) ?_
   refine ak tk rfl (ac (al 2 tk rfl (bF rfl ?_)))
   obtain rfl := ax H
   refine cz (x92.2,x92.1,s1.2.2.1,t15.2,s1.2.2.2.2.1,s1.2.2.2.2.2) () hg1 (Gh.le (bp (PLe.of2 (mH.of_eq (congrArg (PV.own 0 g_data) z92_0))) (ao (ao (ao (ao (ao aP)))))) aD (aU aE))
  refine au (ab (aa (ag 4 tk rfl ?_)))
  obtain ⟨x99,h99,H⟩ := am H
  have s99 := kV g_data t19.1 s1.2.1 s1.2.2.1 t16.2.1 _ h99
  obtain ⟨_,q99_0,H⟩ := am H
  have l99_0 := (bX q99_0).1
  have z99_0 : (List.map ah t19.1).length = (List.map ah x99.2.2).length := by simpa using (l99_0).symm
  refine ci (g := 189) rfl rfl rfl Tryz.call189 [] [(0,0)] rfl rfl rfl rfl (dS.of2 (ie.cons (mH.own rfl) (ie.cons (mH.of_eq rfl) (ie.cons (mH.of_eq rfl) (ie.cons (mH.of_eq rfl) ie.nil))))) (by rw [bT,bL,bS]; rfl) s99 ?_
  rintro u99 H99h ⟨rfl,rfl⟩
  refine ⟨_,rfl,?_⟩
  refine cI (st' := ⟨_,_,fun _=>none,upd (fun _=>none) 0 (some ⟨g_data,9,(x99.2.2.map ah),true⟩)⟩) (Gh.le (bZ _ _) aD (aU aE)) ?_
  refine ag 5 tk rfl (ac (al 2 tk rfl (al 8 tk rfl (al 3 tk rfl (al 3 tk rfl ?_)))))
  refine aL rfl H (fun H=>?_) (fun H=>?_)
  ·refine al 4 tk rfl (ab (aa (ag 4 tk rfl ?_)))
   obtain ⟨x121,h121,H⟩ := am H
   have s121 := hrec121 g_data x99.2.2 s1.2.1 x99.1 t15.2 _ h121
   obtain ⟨_,q121_0,H⟩ := am H
   have l121_0 := (bX q121_0).1
   have z121_0 : (List.map ah x99.2.2).length = (List.map ah x121).length := by simpa using (l121_0).symm
   refine ci (g := 121) rfl rfl rfl Tryz.call121 [] [(0,0)] rfl rfl rfl rfl (dS.of2 (ie.cons (mH.own z99_0) (ie.cons (mH.of_eq rfl) (ie.cons (mH.of_eq rfl) (ie.cons (mH.of_eq rfl) ie.nil))))) (by rw [bT,bL,bS]; rfl) s121 ?_
   rintro u121 H121h ⟨rfl,rfl⟩
   refine ⟨_,rfl,?_⟩
   refine cI (st' := ⟨_,_,fun _=>none,upd (fun _=>none) 0 (some ⟨g_data,9,(x121.map ah),true⟩)⟩) (Gh.le (bZ _ _) aD (aU aE)) ?_
   refine ac (bm 3 tk rfl (aR ?_))
   obtain rfl := ax H
   refine cz (x121,(IntKind.i64.wrap (x99.1 + (1 : Int))),s1.2.2.1,t15.2,(decide ((IntKind.i64.wrap (x99.1 - s1.2.1)) ≥ (IntKind.i64.wrap (Int.tdiv (IntKind.i64.wrap (s1.2.2.1 - s1.2.1)) (8 : Int))))),x99.2.1) () hg1 (Gh.le (bp (PLe.of2 (mH.of_eq (congrArg (PV.own 0 g_data) (z99_0.trans z121_0)))) (ao (ao (ao (ao (ao aP)))))) aD (aU aE))
  refine al 4 tk rfl (ab (aa (ag 5 tk rfl ?_)))
  obtain ⟨x132,h132,H⟩ := am H
  have s132 := hrec121 g_data x99.2.2 (IntKind.i64.wrap (x99.1 + (1 : Int))) s1.2.2.1 t15.2 _ h132
  obtain ⟨_,q132_0,H⟩ := am H
  have l132_0 := (bX q132_0).1
  have z132_0 : (List.map ah x99.2.2).length = (List.map ah x132).length := by simpa using (l132_0).symm
  refine ci (g := 121) rfl rfl rfl Tryz.call121 [] [(0,0)] rfl rfl rfl rfl (dS.of2 (ie.cons (mH.own z99_0) (ie.cons (mH.of_eq rfl) (ie.cons (mH.of_eq rfl) (ie.cons (mH.of_eq rfl) ie.nil))))) (by rw [bT,bL,bS]; rfl) s132 ?_
  rintro u132 H132h ⟨rfl,rfl⟩
  refine ⟨_,rfl,?_⟩
  refine cI (st' := ⟨_,_,fun _=>none,upd (fun _=>none) 0 (some ⟨g_data,9,(x132.map ah),true⟩)⟩) (Gh.le (bZ _ _) aD (aU aE)) ?_
  refine ac (bm 2 tk rfl (aR ?_))
  obtain rfl := ax H
  refine cz (x132,s1.2.1,x99.1,t15.2,(decide ((IntKind.i64.wrap (s1.2.2.1 - x99.1)) ≥ (IntKind.i64.wrap (Int.tdiv (IntKind.i64.wrap (s1.2.2.1 - s1.2.1)) (8 : Int))))),x99.2.1) () hg1 (Gh.le (bp (PLe.of2 (mH.of_eq (congrArg (PV.own 0 g_data) (z99_0.trans z132_0)))) (ao (ao (ao (ao (ao aP)))))) aD (aU aE))
 have H := jx hn1 Hp1
 obtain rfl := ax H
 refine cq (st' := ⟨134,fun _=>.any,fun _=>none,upd (fun _=>none) 0 (some ⟨g_data,9,(s1.1.map ah),true⟩)⟩) (Gh.le aP aD (aU aE)) ?_
 refine lw rfl (PLe.q rfl) ⟨rfl,rfl⟩
def bt : Nat → (List (List UInt8)) → Int → Int → Int → Option ((List (List UInt8)))
 | 0,_,_,_,_=>none
 | n + 1,v0,v1,v2,v3=>cD (fun b0 b1 b2 b3=>bt n b0 b1 b2 b3) v0 v1 v2 v3
theorem lq  (n : Nat) : (∀ g0 a0 a1 a2 a3 r,bt n a0 a1 a2 a3 = some r → PH Tryz.prog 121 [(.own 0 g0 (a0.map ah).length),(af a1),(af a2),(af a3)] ⟨fun _=>none,upd (fun _=>none) 0 (some ⟨g0,9,(a0.map ah),true⟩)⟩ (fun u H=>u = (.tup []) ∧ H = ⟨fun _=>none,upd (fun _=>none) 0 (some ⟨g0,9,(r.map ah),true⟩)⟩)) := by
 induction n with
 | zero=>exact (by intros; rename_i h; exact absurd (show (none : Option _) = some _ from h) (by simp))
 | succ n ih =>
  exact (fun g0 v0 v1 v2 v3 r h=>lp g0 (fun b0 b1 b2 b3=>bt n b0 b1 b2 b3) ih v0 v1 v2 v3  r h)
def gd (data : List (List UInt8)) (a : Int) (b : Int) (limit : Int) : Option ((List (List UInt8))) := gg fun n=>bt n data a b limit
theorem lC (g_data : OwnRef) (data : List (List UInt8)) (a : Int) (b : Int) (limit : Int) (r : (List (List UInt8))) (H : gd data a b limit = some r) :
  PH Tryz.prog 121 [(.own 0 g_data (data.map ah).length),(af a),(af b),(af limit)] ⟨fun _=>none,upd (fun _=>none) 0 (some ⟨g_data,9,(data.map ah),true⟩)⟩ (fun u H=>u = (.tup []) ∧ H = ⟨fun _=>none,upd (fun _=>none) 0 (some ⟨g_data,9,(r.map ah),true⟩)⟩) := by
 obtain ⟨n,h⟩ := gG H
 exact (lq  n) g_data data a b limit r h
def eW (sA : LSchema) (vars : List LCol) (q : LQuery) : Option ((List LCol) × Int) :=
 ae (
  ae (iM q) fun x12 =>
  cond (decide ((x12.length : Int) > (24 : Int)))
   (some true)
   (ae (jD q) fun x17 =>
   cond (decide (x17 > (12 : Int)))
    (some true)
    (ae (eG q) fun x22 =>
    some (decide (x22 > (20000 : Int)))))) fun (t1 : Bool) =>
 cond t1
  (some ([],2))
  (ae (fN q) fun x27 =>
  cond (x27.2 != (0 : Int))
   (some ([],x27.2))
   (ae (fB (LChecker.mk sA vars) q) fun x38 =>
   some (x38.1,x38.2)))
theorem qj (sA : LSchema) (vars : List LCol) (q : LQuery) (r : (List LCol) × Int) (H : eW sA vars q = some r) :
  ba Tryz.prog 70 [(.agg (bK sA)),(.list 68 (vars.map bg)),(.agg (aA q))] (.tup [(.list 68 (r.1.map bg)),(af r.2)]) := by
 unfold eW at H
 refine PH.ay Tryz.func70 Tryz.ntmps70 ?_
 refine ab (aa (aS ?_))
 refine aS ?_
 refine ag 2 tk rfl (ac (ab (ab ?_)))
 refine fp (γ := Unit) (fun t1 g1=>⟨41,upd (upd (upd (upd (fun _=>.any) 24 (aG t1)) 5 (.ptr (aA q))) 3 (.ptr (bK sA))) 1 (.list 68 (vars.map bg)),fun _=>none,fun _=>none⟩) H (fun _ H=>?_) (fun t1 g1 H=>?_)
 ·refine aa (ak tk rfl ?_)
  obtain ⟨x12,h12,H⟩ := am H
  have s12 := qf (m := 12) q _ h12
  refine aq Tryz.call43 (dS.r) (ba.of_own s12) ?_
  refine aK tk (zl _) ?_
  refine ag 2 tk rfl ?_
  refine bw rfl rfl rfl H (fun H=>?_) (fun H=>?_)
  ·refine ag 9 tk rfl (ac ?_)
   refine aQ _ () (ax H) Gh.d
  refine ak tk rfl ?_
  obtain ⟨x17,h17,H⟩ := am H
  have s17 := W_query_depth q _ h17
  refine aq Tryz.call110 (dS.r) s17 ?_
  refine ag 3 tk rfl ?_
  refine bw rfl rfl rfl H (fun H=>?_) (fun H=>?_)
  ·refine ag 4 tk rfl (ac ?_)
   refine aQ _ () (ax H) Gh.d
  refine ak tk rfl ?_
  obtain ⟨x22,h22,H⟩ := am H
  have s22 := mt q _ h22
  refine aq Tryz.call111 (dS.r) s22 ?_
  refine ag 2 tk rfl (ac ?_)
  refine aQ _ () (ax H) Gh.d
 refine aL rfl H (fun H=>?_) (fun H=>?_)
 ·refine al 2 tk rfl ?_
  obtain rfl := ax H
  refine bQ tk rfl (ps := [(.val (.slice none 0 0)),(af 2)]) ⟨_,_,rfl,rfl,_,_,rfl,rfl,rfl⟩ (PLe.of2 (mH.tup (ie.cons (mH.nil tk rfl) (ie.cons (mH.of_eq rfl) ie.nil))))
 refine au (ab (ab (aa (ak tk rfl ?_))))
 obtain ⟨x27,h27,H⟩ := am H
 have s27 := oM q _ h27
 refine aq Tryz.call12 (dS.r) s27 ?_
 refine ag 5 tk rfl (ac (al 2 tk rfl ?_))
 refine aL rfl H (fun H=>?_) (fun H=>?_)
 ·refine al 3 tk rfl ?_
  obtain rfl := ax H
  refine bQ tk rfl (ps := [(.val (.slice none 0 0)),(af x27.2)]) ⟨_,_,rfl,rfl,_,_,rfl,rfl,rfl⟩ (PLe.of2 (mH.tup (ie.cons (mH.nil tk rfl) (ie.cons (mH.of_eq rfl) ie.nil))))
 refine au (ab (aa (ag 3 tk rfl ?_)))
 refine aX tk fun b10=>?_
 refine av tk ?_
 refine ac (ab (aa (aB tk ?_)))
 refine ak tk rfl ?_
 obtain ⟨x38,h38,H⟩ := am H
 have s38 := oi (LChecker.mk sA vars) q _ h38
 refine aq Tryz.call112 (dS.r) s38 ?_
 refine ag 4 tk rfl (ac ?_)
 exact bB tk H rfl
def dD (x : List (List UInt8)) : Option ((List (List UInt8))) :=
 ae (im (IntKind.u64.wrap (x.length : Int))) fun x9 =>
 ae (gd x 0 (x.length : Int) x9) fun x10 =>
 ae (dC (x10.length = x.length) ()) fun (_ : Unit) =>
 some x10
theorem mg (g_x : OwnRef) (x : List (List UInt8)) (r : (List (List UInt8))) (H : dD x = some r) :
  PH Tryz.prog 85 [(.own 0 g_x (x.map ah).length)] ⟨fun _=>none,upd (fun _=>none) 0 (some ⟨g_x,9,(x.map ah),true⟩)⟩ (fun u H=>u = (.tup []) ∧ H = ⟨fun _=>none,upd (fun _=>none) 0 (some ⟨g_x,9,(r.map ah),true⟩)⟩) := by
 unfold dD at H
 refine PH.ay Tryz.func85 Tryz.ntmps85 ?_
 refine ab (aa (ak tk rfl (io tk (zl _) ?_)))
 refine ak tk rfl (ac (aa (ag 4 tk rfl ?_)))
 obtain ⟨x9,h9,H⟩ := am H
 have s9 := oB (IntKind.u64.wrap (x.length : Int)) _ h9
 refine aq Tryz.call122 (dS.r) s9 ?_
 obtain ⟨x10,h10,H⟩ := am H
 have s10 := lC g_x x 0 (x.length : Int) x9 _ h10
 obtain ⟨_,q10_0,H⟩ := am H
 have l10_0 := (bX q10_0).1
 have z10_0 : (List.map ah x).length = (List.map ah x10).length := by simpa using (l10_0).symm
 refine ci (g := 121) rfl rfl rfl Tryz.call121 [] [(0,0)] rfl rfl rfl rfl (dS.of2 (ie.cons (mH.own rfl) (ie.cons (mH.of_eq rfl) (ie.cons (mH.of_eq rfl) (ie.cons (mH.of_eq rfl) ie.nil))))) (by rw [bT,bL,bS]; rfl) s10 ?_
 rintro u10 H10h ⟨rfl,rfl⟩
 refine ⟨_,rfl,?_⟩
 refine cI (st' := ⟨_,_,fun _=>none,upd (fun _=>none) 0 (some ⟨g_x,9,(x10.map ah),true⟩)⟩) (Gh.le (bZ _ _) aD (aU aE)) ?_
 refine ac ?_
 obtain rfl := ax H
 refine cq (st' := ⟨11,fun _=>.any,fun _=>none,upd (fun _=>none) 0 (some ⟨g_x,9,(x10.map ah),true⟩)⟩) (Gh.le aP aD (aU aE)) ?_
 refine lw rfl (PLe.q rfl) ⟨rfl,rfl⟩
def fP (sA : LSchema) (q : LQuery) : Option ((List LCol) × Int) :=
 ae (eW sA ([] : List LCol) q) fun x8 =>
 some (x8.1,x8.2)
theorem mI (sA : LSchema) (q : LQuery) (r : (List LCol) × Int) (H : fP sA q = some r) :
  ba Tryz.prog 25 [(.agg (bK sA)),(.agg (aA q))] (.tup [(.list 68 (r.1.map bg)),(af r.2)]) := by
 unfold fP at H
 refine PH.ay Tryz.func25 Tryz.ntmps25 ?_
 refine ab (aa (aS ?_))
 refine aS ?_
 refine ag 2 tk rfl (ac (ab (aa (ag 2 tk rfl ?_))))
 obtain ⟨x8,h8,H⟩ := am H
 have s8 := qj sA ([] : List LCol) q _ h8
 refine aq Tryz.call70 (dS.of2 (ie.cons (mH.of_eq rfl) (ie.cons (mH.nil tk rfl) (ie.cons (mH.of_eq rfl) ie.nil)))) s8 ?_
 refine ag 4 tk rfl (ac ?_)
 exact bB tk H rfl
def bG (names : List (List UInt8)) (l : List LExpr) : Option ((List (List UInt8))) :=
 ae (aM (σ := List (List UInt8)) (ρ := Empty) (fun (_ : Nat) (x1 : LExpr) (s1 : List (List UInt8)) =>
  ae (dV x1) fun x18 =>
  ae (dF 16 s1 x18) fun (x19 : List (List UInt8)) =>
  some (.next x19)) 0 l names) fun fl1=>fl1.thenP fun (s1 : List (List UInt8)) =>
 ae (dD s1) fun x22 =>
 ae (dC (x22.length = s1.length) ()) fun (_ : Unit) =>
 ae (cZ x22) fun x24 =>
 some x24
theorem fT (names : List (List UInt8)) (l : List LExpr) (r : (List (List UInt8))) (H : bG names l = some r) :
  ba Tryz.prog 41 [(.list 9 (names.map ah)),(.list 91 (l.map aF))] (.list 9 (r.map ah)) := by
 unfold bG at H
 refine PH.ay Tryz.func41 Tryz.ntmps41 ?_
 refine al 1 tk rfl (ab (aa (ak tk rfl ?_)))
 have s9 := pH (m := 9) names
 refine nL (g := 72) rfl rfl rfl Tryz.call72 (dS.r) rfl rfl s9 (fun g9=>?_)
 refine ak tk rfl (ac (ab (ab (aa (ak tk rfl (aK tk (zl _) ?_))))))
 refine ak tk rfl (ac ?_)
 refine fC (γ := OwnRef) tk 12 11 10 (fun s1 g1=>upd (fun _=>.any) 5 (.own 9 g1 (s1.map ah).length)) nB (fun s1 g1=>upd (fun _=>none) 9 (some ⟨g1,9,(s1.map ah),true⟩)) g9 H (fun fl1 Hp1 j1 s1 g1 hz1 hl1 x1 fb1 hx1 H hg1=>?_) (fun s1 g1 H=>?_)
 ·refine ab (az (ab (aa (bn tk (zn j1) (bC cb hx1) ?_))))
  refine ak tk rfl ?_
  refine aX tk fun b7=>?_
  refine av tk ?_
  refine ac (aa (ak tk rfl (aB tk ?_)))
  obtain ⟨x18,h18,H⟩ := am H
  have s18 := W_expr_Columns x1 _ h18
  refine aq Tryz.call84 (dS.r) s18 ?_
  obtain ⟨x19,h19,H⟩ := am H
  have k19 := cQ h19
  refine dq (rows2' := List.map ah x18) (rows' := List.map ah x19) tk rfl rfl rfl rfl rfl rfl rfl rfl rfl rfl rfl rfl rfl (eV.refl _) (eA k19.1) (et k19.2.1) (eB k19.2.2) fun g19=>?_
  refine ak tk rfl (ac (aR (bm 2 tk rfl ?_)))
  exact bO g19 H hl1 hg1
 refine ab (aa (ak tk rfl ?_))
 obtain ⟨x22,h22,H⟩ := am H
 have s22 := mg g1 s1 _ h22
 obtain ⟨_,q22_0,H⟩ := am H
 have l22_0 := (bX q22_0).1
 have z22_0 : (List.map ah s1).length = (List.map ah x22).length := by simpa using (l22_0).symm
 refine ci (g := 85) rfl rfl rfl Tryz.call85 [] [(9,0)] rfl rfl rfl rfl (dS.of2 (ie.cons (mH.own rfl) ie.nil)) (by rw [bT,bL,bS]; rfl) s22 ?_
 rintro u22 H22h ⟨rfl,rfl⟩
 refine ⟨_,rfl,?_⟩
 refine cI (st' := ⟨_,_,fun _=>none,upd (fun _=>none) 9 (some ⟨g1,9,(x22.map ah),true⟩)⟩) (Gh.le (bZ _ _) aD (aU aE)) ?_
 refine ac (ab (aa (ak tk rfl ?_)))
 obtain ⟨x24,h24,H⟩ := am H
 have s24 := ll g1 x22 _ h24
 refine ci (g := 86) rfl rfl rfl Tryz.call86 [] [(9,0)] rfl rfl rfl rfl (dS.of2 (ie.cons (mH.own z22_0) ie.nil)) (by rw [bT,bL,bS]; rfl) s24 ?_
 rintro u24 H24h ⟨rfl,rfl⟩
 refine ⟨_,rfl,?_⟩
 refine cI (st' := ⟨_,_,fun _=>none,upd (fun _=>none) 9 (some ⟨g1,9,(x24.map ah),true⟩)⟩) (Gh.le (bZ _ _) aD (aU aE)) ?_
 refine lO 24 (q := (.own 9 g1 (x24.map ah).length)) rfl (PLe.of2 (mH.own rfl)) (ak tk rfl (ac (ib 4 rfl rfl rfl ?_)))
 exact bB tk H rfl
def eU (sA : LSchema) (q : LQuery) : Option (Bool) :=
 ae (
  ae (kW q 400) fun x8 =>
  cond (decide (x8 < (0 : Int)))
   (some true)
   (ae (iu sA) fun x12 =>
   some (x12 != (0 : Int)))) fun (t1 : Bool) =>
 cond t1
  (some false)
  (ae (fP sA q) fun x18 =>
  some (x18.2 == (0 : Int)))
theorem mQ (sA : LSchema) (q : LQuery) (r : Bool) (H : eU sA q = some r) :
  ba Tryz.prog 7 [(.agg (bK sA)),(.agg (aA q))] (aG r) := by
 unfold eU at H
 refine PH.ay Tryz.func7 Tryz.ntmps7 ?_
 refine ab (aa (aS ?_))
 refine aS ?_
 refine ak tk rfl (ac (ab (ab ?_)))
 refine fp (γ := Unit) (fun t1 g1=>⟨23,upd (upd (upd (fun _=>.any) 14 (aG t1)) 3 (.ptr (aA q))) 2 (.ptr (bK sA)),fun _=>none,fun _=>none⟩) H (fun _ H=>?_) (fun t1 g1 H=>?_)
 ·refine aa (ak tk rfl ?_)
  obtain ⟨x8,h8,H⟩ := am H
  have s8 := rH q 400 _ h8
  refine aq Tryz.call23 (dS.r) s8 ?_
  refine ag 2 tk rfl ?_
  refine bw rfl rfl rfl H (fun H=>?_) (fun H=>?_)
  ·refine ag 4 tk rfl (ac ?_)
   refine aQ _ () (ax H) Gh.d
  refine ak tk rfl ?_
  obtain ⟨x12,h12,H⟩ := am H
  have s12 := rf sA _ h12
  refine aq Tryz.call24 (dS.r) s12 ?_
  refine ag 2 tk rfl (ac ?_)
  refine aQ _ () (ax H) Gh.d
 refine aL rfl H (fun H=>?_) (fun H=>?_)
 ·refine al 1 tk rfl ?_
  exact bB tk H rfl
 refine au (ab (aa (ag 2 tk rfl ?_)))
 obtain ⟨x18,h18,H⟩ := am H
 have s18 := mI sA q _ h18
 refine aq Tryz.call25 (dS.r) s18 ?_
 refine ag 5 tk rfl (ac (al 3 tk rfl ?_))
 exact bB tk H rfl
def cV (m : LPushdownPruner) (q : LQuery) : Option ((List (List UInt8))) :=
 ae (fP m.s q) fun x14 =>
 ae (aM (σ := List (List UInt8)) (ρ := Empty) (fun (_ : Nat) (x1 : LCol) (s1 : List (List UInt8)) =>
  ae (dF 16 s1 ([x1.name] : List (List UInt8))) fun (x27 : List (List UInt8)) =>
  some (.next x27)) 0 x14.1 []) fun fl1=>fl1.thenP fun (s1 : List (List UInt8)) =>
 some s1
theorem iX (m : LPushdownPruner) (q : LQuery) (r : (List (List UInt8))) (H : cV m q = some r) :
  ba Tryz.prog 35 [(.agg (cT m)),(.agg (aA q))] (.list 9 (r.map ah)) := by
 unfold cV at H
 refine PH.ay Tryz.func35 Tryz.ntmps35 ?_
 refine ab (aa (aS ?_))
 refine aS ?_
 refine ak tk rfl (ac (ab (aa (ag 3 tk rfl ?_))))
 obtain ⟨x14,h14,H⟩ := am H
 have s14 := mI m.s q _ h14
 refine aq Tryz.call25 (dS.r) s14 ?_
 refine ag 5 tk rfl (ac (al 1 tk rfl (ab (ab (aa (ak tk rfl (aK tk (zl _) ?_)))))))
 refine ak tk rfl (ac (lM tk 7 27 (e := 9) rfl rfl ?_))
 refine fC (γ := OwnRef) tk 19 18 17 (fun s1 g1=>upd (fun _=>.any) 7 (.own 27 g1 (s1.map ah).length)) nB (fun s1 g1=>upd (fun _=>none) 27 (some ⟨g1,9,(s1.map ah),true⟩)) (⟨none,0⟩) H (fun fl1 Hp1 j1 s1 g1 hz1 hl1 x1 fb1 hx1 H hg1=>?_) (fun s1 g1 H=>?_)
 ·refine ab (az (ab (aa ?_)))
  refine bn tk (zn j1) (bC (fun _=>rfl) hx1) ?_
  refine ak tk rfl ?_
  refine aX tk fun b9=>?_
  refine av tk ?_
  refine ac (aa (ag 2 tk rfl (aB tk ?_)))
  refine ew tk (rows' := List.map ah ([x1.name] : List (List UInt8))) (eV.refl _) ?_
  obtain ⟨x27,h27,H⟩ := am H
  have k27 := cQ h27
  refine dq (rows2' := List.map ah ([x1.name] : List (List UInt8))) (rows' := List.map ah x27) tk rfl rfl rfl rfl rfl rfl rfl rfl rfl rfl rfl rfl rfl (eV.refl _) (eA k27.1) (et k27.2.1) (eB k27.2.2) fun g27=>?_
  refine ak tk rfl (ac (aR (bm 2 tk rfl ?_)))
  exact bO g27 H hl1 hg1
 refine al 2 tk rfl (ib 4 rfl rfl rfl ?_)
 exact bB tk H rfl
def cn (mA : LPushdownPruner) (q : LQuery) : Option ((List (List UInt8))) :=
 ae (fP mA.s q) fun x14 =>
 ae (aM (σ := List (List UInt8)) (ρ := Empty) (fun (_ : Nat) (x1 : LCol) (s1 : List (List UInt8)) =>
  ae (dF 16 s1 ([x1.name] : List (List UInt8))) fun (x27 : List (List UInt8)) =>
  some (.next x27)) 0 x14.1 []) fun fl1=>fl1.thenP fun (s1 : List (List UInt8)) =>
 some s1
theorem nR {m : Nat} (mA : LPushdownPruner) (q : LQuery) (r : (List (List UInt8))) (H : cn mA q = some r) :
  eY Tryz.prog 35 [(.agg (cT mA)),(.agg (aA q))] (kn m 9 (r.map ah)) := by
 unfold cn at H
 refine PH.ay Tryz.func35 Tryz.ntmps35 ?_
 refine ab (aa (aS ?_))
 refine aS ?_
 refine ak tk rfl (ac (ab (aa (ag 3 tk rfl ?_))))
 obtain ⟨x14,h14,H⟩ := am H
 have s14 := mI mA.s q _ h14
 refine aq Tryz.call25 (dS.r) s14 ?_
 refine ag 5 tk rfl (ac (al 1 tk rfl (ab (ab (aa (ak tk rfl (aK tk (zl _) ?_)))))))
 refine ak tk rfl (ac (lM tk 7 27 (e := 9) rfl rfl ?_))
 refine fC (γ := OwnRef) tk 19 18 17 (fun s1 g1=>upd (fun _=>.any) 7 (.own 27 g1 (s1.map ah).length)) nB (fun s1 g1=>upd (fun _=>none) 27 (some ⟨g1,9,(s1.map ah),true⟩)) (⟨none,0⟩) H (fun fl1 Hp1 j1 s1 g1 hz1 hl1 x1 fb1 hx1 H hg1=>?_) (fun s1 g1 H=>?_)
 ·refine ab (az (ab (aa ?_)))
  refine bn tk (zn j1) (bC (fun _=>rfl) hx1) ?_
  refine ak tk rfl ?_
  refine aX tk fun b9=>?_
  refine av tk ?_
  refine ac (aa (ag 2 tk rfl (aB tk ?_)))
  refine ew tk (rows' := List.map ah ([x1.name] : List (List UInt8))) (eV.refl _) ?_
  obtain ⟨x27,h27,H⟩ := am H
  have k27 := cQ h27
  refine dq (rows2' := List.map ah ([x1.name] : List (List UInt8))) (rows' := List.map ah x27) tk rfl rfl rfl rfl rfl rfl rfl rfl rfl rfl rfl rfl rfl (eV.refl _) (eA k27.1) (et k27.2.1) (eB k27.2.2) fun g27=>?_
  refine ak tk rfl (ac (aR (bm 2 tk rfl ?_)))
  exact bO g27 H hl1 hg1
 refine al 2 tk rfl ?_
 obtain rfl := ax H
 refine jH tk rfl
def ej (m : LPushdownPruner) (q : LQuery) (names : List (List UInt8)) : Option (LQuery) :=
 ae (cV m q) fun x14 =>
 ae (cF x14 (fun a0=>dH a0 names)) fun x18 =>
 be (
  cond ((x18.length : Int) == (x14.length : Int))
   (true)
   (((x18.length : Int) == (0 : Int)))) fun (t1 : Bool) =>
 cond t1
  (some q)
  (ae (aM (σ := List LExpr) (ρ := Empty) (fun (_ : Nat) (x2 : List UInt8) (s2 : List LExpr) =>
   ae (dF 88 s2 ([(LExpr.mk 2 x2 0 (LVal.mk 0 0 []) [])] : List LExpr)) fun (x45 : List LExpr) =>
   some (.next x45)) 0 x18 []) fun fl2=>fl2.thenP fun (s2 : List LExpr) =>
  some (LQuery.mk 3 [] x18 s2 [] [] 0 0 [q]))
theorem kK (m : LPushdownPruner) (q : LQuery) (names : List (List UInt8)) (r : LQuery) (H : ej m q names = some r) :
  ba Tryz.prog 39 [(.agg (cT m)),(.agg (aA q)),(.list 9 (names.map ah))] (.agg (aA r)) := by
 unfold ej at H
 refine PH.ay Tryz.func39 Tryz.ntmps39 ?_
 refine ab (aa (aS ?_))
 refine aS ?_
 refine aS ?_
 refine aX tk fun b6=>?_
 refine ac (ab (aa (ag 2 tk rfl ?_)))
 obtain ⟨x14,h14,H⟩ := am H
 have s14 := iX m q _ h14
 refine aq Tryz.call35 (dS.r) s14 ?_
 refine ak tk rfl (ac (ab (aa (ak tk rfl ?_))))
 have s16 := pH (m := 16) x14
 refine nL (g := 72) rfl rfl rfl Tryz.call72 (dS.r) rfl rfl s16 (fun g16=>?_)
 refine ak tk rfl ?_
 obtain ⟨x18,h18,H⟩ := am H
 have s18 := kI g16 x14 (fun a0=>dH a0 names) Tryz.call79 (fun a0 r h=>nH a0 names r h) _ h18
 refine ci (g := 78) rfl rfl rfl Tryz.call78 [] [(16,0)] rfl rfl rfl rfl (dS.of2 (ie.cons (mH.own rfl) (ie.cons (mH.of_eq rfl) ie.nil))) (by rw [bT,bL,bS]; rfl) s18 ?_
 rintro u18 H18h ⟨rfl,rfl⟩
 refine ⟨_,rfl,?_⟩
 refine cI (st' := ⟨_,_,upd (fun _=>none) 6 (some ⟨b6,[(af 0),(.str []),(.val (.slice none 0 0)),(.val (.slice none 0 0)),(.val (.slice none 0 0)),(.val (.slice none 0 0)),(af 0),(af 0),(.val (.slice none 0 0))]⟩),upd (fun _=>none) 16 (some ⟨g16,9,(x18.map ah),true⟩)⟩) (Gh.le (bZ _ _) (aW rfl (dS.r) aD) (aU aE)) ?_
 refine lO 18 (q := (.own 16 g16 (x18.map ah).length)) rfl (PLe.of2 (mH.own rfl)) (ak tk rfl (ac (ab (ab ?_))))
 refine ff (γ := Unit) (fun t1 g1=>⟨49,upd (upd (upd (upd (fun _=>.any) 28 (aG t1)) 8 (.own 16 g16 (x18.map ah).length)) 6 (.box 6 b6 0)) 4 (.ptr (aA q)),upd (fun _=>none) 6 (some ⟨b6,[(af 0),(.str []),(.val (.slice none 0 0)),(.val (.slice none 0 0)),(.val (.slice none 0 0)),(.val (.slice none 0 0)),(af 0),(af 0),(.val (.slice none 0 0))]⟩),upd (fun _=>none) 16 (some ⟨g16,9,(x18.map ah),true⟩)⟩) H (fun _ H=>?_) (fun t1 g1 H=>?_)
 ·refine aa (ak tk rfl (io tk (zl _) ?_))
  refine ak tk rfl (aK tk (zl _) ?_)
  refine ag 2 tk rfl ?_
  refine bw rfl rfl rfl H (fun H=>?_) (fun H=>?_)
  ·refine ag 4 tk rfl (ac ?_)
   refine aQ _ () H Gh.d
  refine ak tk rfl (io tk (zl _) ?_)
  refine ag 2 tk rfl (ac ?_)
  refine aQ _ () H Gh.d
 refine aL rfl H (fun H=>?_) (fun H=>?_)
 ·refine ab (aa (ak tk rfl (av tk ?_)))
  refine ac ?_
  exact jW tk H rfl rfl rfl rfl rfl
 refine au (ab (ib 8 rfl rfl rfl (aa (ag 2 tk rfl (ew tk (rows' := List.map aZ ([q] : List LQuery)) (eV.trans (b := List.map aA [q]) (eV.refl _) (eV.of_eq (jG bH [q]))) ?_)))))
 refine ak tk rfl ?_
 refine aX tk fun b9=>?_
 refine av tk ?_
 refine ac (ab (ab (aa (ak tk rfl (aK tk (zl _) ?_)))))
 refine ak tk rfl (ac (iz tk 9 3 45 (e := 91) rfl rfl rfl rfl ?_))
 refine fC (γ := OwnRef) tk 36 35 34 (fun s2 g2=>upd (upd (fun _=>.any) 9 (.box 9 b9 0)) 6 (.box 6 b6 0)) (fun s2 g2=>upd (upd (fun _=>none) 9 (some ⟨b9,[(af 3),(.str []),(.list 9 (x18.map ah)),(.own 45 g2 (s2.map aF).length),(.val (.slice none 0 0)),(.val (.slice none 0 0)),(af 0),(af 0),(.list 33 (([q] : List LQuery).map aZ))]⟩)) 6 (some ⟨b6,[(af 0),(.str []),(.val (.slice none 0 0)),(.val (.slice none 0 0)),(.val (.slice none 0 0)),(.val (.slice none 0 0)),(af 0),(af 0),(.val (.slice none 0 0))]⟩)) (fun s2 g2=>upd (fun _=>none) 45 (some ⟨g2,91,(s2.map aF),true⟩)) (⟨none,0⟩) H (fun fl2 Hp2 j2 s2 g2 hz2 hl2 x2 fb2 hx2 H hg2=>?_) (fun s2 g2 H=>?_)
 ·refine ab (az (ab (aa ?_)))
  refine bn tk (zn j2) (bC (fun _=>rfl) hx2) ?_
  refine ag 2 tk rfl (ac (aa (ak tk rfl (aB tk ?_))))
  refine ag 2 tk rfl (ew tk (rows' := List.map aF ([(LExpr.mk 2 x2 0 (LVal.mk 0 0 []) [])] : List LExpr)) (eV.trans (b := List.map cG [(LExpr.mk 2 x2 0 (LVal.mk 0 0 []) [])]) (eV.cons (qQ.cons (mH.of_eq rfl) (qQ.cons (mH.of_eq rfl) (qQ.cons (mH.of_eq rfl) (qQ.cons (mH.of_eq rfl) (qQ.cons (mH.of_eq rfl) (qQ.cons (mH.of_eq rfl) (qQ.cons (mH.nil tk rfl) qQ.nil))))))) eV.nil) (eV.of_eq (jG cb [(LExpr.mk 2 x2 0 (LVal.mk 0 0 []) [])]))) ?_)
  obtain ⟨x45,h45,H⟩ := am H
  have k45 := cQ h45
  refine dq (rows2' := List.map aF ([(LExpr.mk 2 x2 0 (LVal.mk 0 0 []) [])] : List LExpr)) (rows' := List.map aF x45) tk rfl rfl rfl rfl rfl rfl rfl rfl rfl rfl rfl rfl rfl (eV.refl _) (eA k45.1) (et k45.2.1) (eB k45.2.2) fun g45=>?_
  refine ak tk rfl (av tk ?_)
  refine ac (aR (bm 2 tk rfl ?_))
  exact bO g45 H hl2 hg2
 refine ab (aa (aB tk ?_))
 refine av tk ?_
 refine ac ?_
 obtain rfl := ax H
 refine eN 6 3 rfl rfl rfl rfl rfl ?_
 refine bQ tk rfl (ps := [(.agg [(af 3),(.str []),(.list 9 (x18.map ah)),(.list 91 (s2.map aF)),(.val (.slice none 0 0)),(.val (.slice none 0 0)),(af 0),(af 0),(.list 33 (([q] : List LQuery).map aZ))])]) ⟨_,_,rfl,⟨_,_,_,_,_,rfl,rfl,rfl,rfl⟩,rfl⟩ (PLe.of2 (mH.agg (ie.cons (mH.of_eq rfl) (ie.cons (mH.of_eq rfl) (ie.cons (mH.of_eq rfl) (ie.cons (mH.of_eq rfl) (ie.cons (mH.nil tk rfl) (ie.cons (mH.nil tk rfl) (ie.cons (mH.of_eq rfl) (ie.cons (mH.of_eq rfl) (ie.cons (mH.of_eq rfl) ie.nil)))))))))))
def ca (rec11 : LSchema → LQuery → Option (Int)) (sA : LSchema) (q : LQuery) : Option (Int) :=
 cond (q.kind == (1 : Int))
  (ae (cV (LPushdownPruner.mk sA) q) fun x14 =>
  some (x14.length : Int))
  (ae (
   cond (q.kind == (3 : Int))
    (cond ((q.inputs.length : Int) == (1 : Int))
     (ae (aC q.inputs 0) fun (x28 : LQuery) =>
     some (x28.kind == (1 : Int)))
     (some false))
    (some false)) fun (t1 : Bool) =>
  cond t1
   (ae (bG ([] : List (List UInt8)) q.exprs) fun x35 =>
   some (x35.length : Int))
   (ae (aM (σ := Int) (ρ := Empty) (fun (_ : Nat) (x2 : LQuery) (s2 : Int) =>
    ae (rec11 sA x2) fun x47 =>
    some (.next (IntKind.i64.wrap (s2 + x47)))) 0 q.inputs 0) fun fl2=>fl2.thenP fun (s2 : Int) =>
   some s2))
theorem mL (rec11 : LSchema → LQuery → Option (Int)) (hrec11 : ∀ a0 a1 r,rec11 a0 a1 = some r → ba Tryz.prog 11 [(.agg (bK a0)),(.agg (aA a1))] (af r)) (sA : LSchema) (q : LQuery) (r : Int) (H : ca rec11 sA q = some r) :
  ba Tryz.prog 11 [(.agg (bK sA)),(.agg (aA q))] (af r) := by
 unfold ca at H
 refine PH.ay Tryz.func11 Tryz.ntmps11 ?_
 refine ab (aa (aS ?_))
 refine aS ?_
 refine ak tk rfl (ac (ab (al 3 tk rfl ?_)))
 refine aL rfl H (fun H=>?_) (fun H=>?_)
 ·refine ab (aa (ag 3 tk rfl ?_))
  obtain ⟨x14,h14,H⟩ := am H
  have s14 := iX (LPushdownPruner.mk sA) q _ h14
  refine aq Tryz.call35 (dS.r) s14 ?_
  refine aK tk (zl _) ?_
  refine ak tk rfl (ac ?_)
  exact bB tk H rfl
 refine au (ab (ab ?_))
 refine fp (γ := Unit) (fun t1 g1=>⟨51,upd (upd (upd (fun _=>.any) 32 (aG t1)) 3 (.ptr (aA q))) 2 (.ptr (bK sA)),fun _=>none,fun _=>none⟩) H (fun _ H=>?_) (fun t1 g1 H=>?_)
 ·refine aa (ag 4 tk rfl ?_)
  refine bw rfl rfl rfl H (fun H=>?_) (fun H=>?_)
  ·refine ag 2 tk rfl (aK tk (zl _) ?_)
   refine ag 3 tk rfl ?_
   refine bw rfl rfl rfl H (fun H=>?_) (fun H=>?_)
   ·refine ag 2 tk rfl ?_
    obtain ⟨x28,k28,H⟩ := aT H
    refine bn tk k28.1 (aJ bH k28.2) ?_
    refine ag 4 tk rfl (ac ?_)
    refine aQ _ () (ax H) Gh.d
   refine ag 7 tk rfl (ac ?_)
   refine aQ _ () (ax H) Gh.d
  refine ag 13 tk rfl (ac ?_)
  refine aQ _ () (ax H) Gh.d
 refine aL rfl H (fun H=>?_) (fun H=>?_)
 ·refine ab (aa (ag 2 tk rfl ?_))
  obtain ⟨x35,h35,H⟩ := am H
  have s35 := fT ([] : List (List UInt8)) q.exprs _ h35
  refine aq Tryz.call41 (dS.of2 (ie.cons (mH.nil tk rfl) (ie.cons (mH.of_eq rfl) ie.nil))) s35 ?_
  refine aK tk (zl _) ?_
  refine ak tk rfl (ac ?_)
  exact bB tk H rfl
 refine au (al 1 tk rfl (ab (ab (aa (ag 2 tk rfl (aK tk (zl _) ?_))))))
 refine ak tk rfl (ac ?_)
 refine fC tk 40 39 38 (fun s2 g2=>upd (upd (fun _=>.any) 5 (af s2)) 2 (.ptr (bK sA))) nB nO () H (fun fl2 Hp2 j2 s2 g2 hz2 hl2 x2 fb2 hx2 H hg2=>?_) (fun s2 g2 H=>?_)
 ·refine ab (az (ab (aa (bn tk (zn j2) (bC bH hx2) ?_))))
  refine ak tk rfl ?_
  refine aX tk fun b7=>?_
  refine av tk ?_
  refine ac (aa (ag 2 tk rfl (aB tk ?_)))
  obtain ⟨x47,h47,H⟩ := am H
  have s47 := hrec11 sA x2 _ h47
  refine aq Tryz.call11 (dS.r) s47 ?_
  refine ag 2 tk rfl (ac (aR (bm 2 tk rfl ?_)))
  exact bO () H hl2 hg2
 refine al 2 tk rfl ?_
 exact bB tk H rfl
def cv : Nat → LSchema → LQuery → Option (Int)
 | 0,_,_=>none
 | n + 1,v0,v1=>ca (fun b0 b1=>cv n b0 b1) v0 v1
theorem mN  (n : Nat) : (∀ a0 a1 r,cv n a0 a1 = some r → ba Tryz.prog 11 [(.agg (bK a0)),(.agg (aA a1))] (af r)) := by
 induction n with
 | zero=>exact (by intros; rename_i h; exact absurd (show (none : Option _) = some _ from h) (by simp))
 | succ n ih =>
  exact (fun v0 v1 r h=>mL (fun b0 b1=>cv n b0 b1) ih v0 v1  r h)
def fX (sA : LSchema) (q : LQuery) : Option (Int) := gg fun n=>cv n sA q
theorem jL (sA : LSchema) (q : LQuery) (r : Int) (H : fX sA q = some r) :
  ba Tryz.prog 11 [(.agg (bK sA)),(.agg (aA q))] (af r) := by
 obtain ⟨n,h⟩ := gG H
 exact (mN  n) sA q r h
def bl (rec40 : LPushdownPruner → LQuery → (List (List UInt8)) → Option (LQuery)) (rec80 : LPushdownPruner → LQuery → (List (List UInt8)) → Option (LQuery)) (m : LPushdownPruner) (q : LQuery) (names : List (List UInt8)) : Option (LQuery) :=
 be (
  cond (q.kind == (2 : Int))
   ((q.kind == (2 : Int)))
   ((q.kind == (9 : Int)))) fun (t1 : Bool) =>
 cond t1
  (ae (aC q.inputs (0 : Int)) fun (x23 : LQuery) =>
  ae (bG names q.exprs) fun x28 =>
  ae (rec80 m x23 x28) fun x29 =>
  ae (aC q.inputs (0 : Int)) fun (_ : LQuery) =>
  be (q.inputs.set ((0 : Int).toNat) x29) fun (y3 : List LQuery) =>
  some (LQuery.mk q.kind q.table q.names q.exprs q.aggregates q.descending q.count q.offset y3))
  (cond (q.kind == (10 : Int))
   (ae (aC q.inputs (0 : Int)) fun (x38 : LQuery) =>
   ae (rec80 m x38 names) fun x41 =>
   ae (aC q.inputs (0 : Int)) fun (_ : LQuery) =>
   be (q.inputs.set ((0 : Int).toNat) x41) fun (y5 : List LQuery) =>
   some (LQuery.mk q.kind q.table q.names q.exprs q.aggregates q.descending q.count q.offset y5))
   (be (
    cond (q.kind == (4 : Int))
     ((q.kind == (4 : Int)))
     ((q.kind == (5 : Int)))) fun (t6 : Bool) =>
   cond t6
    (ae (bG names q.exprs) fun x49 =>
    ae (aC q.inputs (0 : Int)) fun (x57 : LQuery) =>
    ae (aC q.inputs (1 : Int)) fun (x64 : LQuery) =>
    ae (rec80 m x57 x49) fun x60 =>
    ae (rec80 m x64 x49) fun x67 =>
    ae (aC q.inputs (0 : Int)) fun (_ : LQuery) =>
    be (q.inputs.set ((0 : Int).toNat) x60) fun (y9 : List LQuery) =>
    ae (aC y9 (1 : Int)) fun (_ : LQuery) =>
    be (y9.set ((1 : Int).toNat) x67) fun (y10 : List LQuery) =>
    some (LQuery.mk q.kind q.table q.names q.exprs q.aggregates q.descending q.count q.offset y10))
    (cond (q.kind == (3 : Int))
     (ae (gV q names) fun x74 =>
     ae (aC q.inputs (0 : Int)) fun (x80 : LQuery) =>
     ae (bG ([] : List (List UInt8)) x74.exprs) fun x84 =>
     ae (rec80 m x80 x84) fun x85 =>
     ae (aC q.inputs (0 : Int)) fun (_ : LQuery) =>
     be (q.inputs.set ((0 : Int).toNat) x85) fun (y12 : List LQuery) =>
     some (LQuery.mk x74.kind x74.table x74.names x74.exprs x74.aggregates x74.descending x74.count x74.offset y12))
     (cond (q.kind == (8 : Int))
      (ae (ig q names) fun x91 =>
      ae (aM (σ := List LExpr) (ρ := Empty) (fun (_ : Nat) (x13 : LAggregateCall) (s13 : List LExpr) =>
       ae (dF 88 s13 x13.args) fun (x105 : List LExpr) =>
       some (.next x105)) 0 x91.aggregates x91.exprs) fun fl13=>fl13.thenP fun (s13 : List LExpr) =>
      ae (aC q.inputs (0 : Int)) fun (x112 : LQuery) =>
      ae (bG ([] : List (List UInt8)) s13) fun x115 =>
      ae (rec80 m x112 x115) fun x116 =>
      ae (aC q.inputs (0 : Int)) fun (_ : LQuery) =>
      be (q.inputs.set ((0 : Int).toNat) x116) fun (y15 : List LQuery) =>
      some (LQuery.mk x91.kind x91.table x91.names x91.exprs x91.aggregates x91.descending x91.count x91.offset y15))
      (be (
       cond (q.kind == (6 : Int))
        ((q.kind == (6 : Int)))
        ((q.kind == (7 : Int)))) fun (t16 : Bool) =>
      cond t16
       (ae (mF (q.inputs.length : Int)) fun (n17 : Nat) =>
       ae (aM (σ := List LQuery) (ρ := Empty) (fun (j17 : Nat) (_ : Nat) (s17 : List LQuery) =>
        ae (aC s17 (j17 : Int)) fun (x127 : LQuery) =>
        ae (cn m x127) fun x136 =>
        ae (rec40 m x127 x136) fun x137 =>
        ae (aC s17 (j17 : Int)) fun (_ : LQuery) =>
        be (s17.set ((j17 : Int).toNat) x137) fun (y23 : List LQuery) =>
        some (.next y23)) 0 (List.range n17) q.inputs) fun fl17=>fl17.thenP fun (s17 : List LQuery) =>
       some (LQuery.mk q.kind q.table q.names q.exprs q.aggregates q.descending q.count q.offset s17))
       (some q))))))
theorem oa {nT : Nat} {csT : List PV} {osT : List Ab.Obj} (rec40 : LPushdownPruner → LQuery → (List (List UInt8)) → Option (LQuery)) (rec80 : LPushdownPruner → LQuery → (List (List UInt8)) → Option (LQuery)) (hrec40 : ∀ a0 a1 a2 {nT : Nat} {csT : List PV} {osT : List Ab.Obj},QT nT a1 csT osT → ∀ r,rec40 a0 a1 a2 = some r → PH Tryz.prog 40 [(.agg (cT a0)),(.agg csT),(.list 9 (a2.map ah))] ⟨fun _=>none,mix (fun _=>none) osT⟩ (fun u H=>u = (.agg (aA r)) ∧ H = Heap.empty)) (hrec80 : ∀ a0 a1 a2 {nT : Nat} {csT : List PV} {osT : List Ab.Obj},QT nT a1 csT osT → ∀ r,rec80 a0 a1 a2 = some r → PH Tryz.prog 80 [(.agg (cT a0)),(.agg csT),(.list 9 (a2.map ah))] ⟨fun _=>none,mix (fun _=>none) osT⟩ (fun u H=>u = (.agg (aA r)) ∧ H = Heap.empty)) (m : LPushdownPruner) (q : LQuery) (names : List (List UInt8)) (hT : QT nT q csT osT) (r : LQuery) (H : bl rec40 rec80 m q names = some r) :
  PH Tryz.prog 40 [(.agg (cT m)),(.agg csT),(.list 9 (names.map ah))] ⟨fun _=>none,mix (fun _=>none) osT⟩ (fun u H=>u = (.agg (aA r)) ∧ H = Heap.empty) := by
 unfold bl at H
 obtain ⟨nT,gT,rowsT,ossT,rfl,rfl,hA,hP⟩ := hT.inv
 have hD := hA.imp fun _ _ _ h=>QT.drow h
 refine PH.ay Tryz.func40 Tryz.ntmps40 ?_
 refine cq (Gh.pullO 3101 hP rfl) ?_
 refine V.cast 1 (q := (.agg [(af q.kind),(.str q.table),(.list 9 (q.names.map ah)),(.list 91 (q.exprs.map aF)),(.list 88 (q.aggregates.map bV)),(.list 4 (q.descending.map dl)),(af q.count),(af q.offset),(.own 3101 gT q.inputs.length)])) rfl (PLe.agg (dS.cons (PLe.refl _ _) <| dS.cons (PLe.refl _ _) <| dS.cons (PLe.refl _ _) <| dS.cons (PLe.refl _ _) <| dS.cons (PLe.refl _ _) <| dS.cons (PLe.refl _ _) <| dS.cons (PLe.refl _ _) <| dS.cons (PLe.refl _ _) <| dS.cons (PLe.valOwnE 3101 rfl) <| dS.nil _)) ?_
 refine ab (aa (aS ?_))
 refine rN (d := 4) rfl rfl rfl rfl rfl fun b4=>?_
 refine aX tk fun b6=>?_
 refine ac (ab (ab (aa (ak tk rfl (aB tk ?_)))))
 refine ac (az (ab (al 2 tk rfl ?_)))
 refine ff (γ := Unit) (fun t1 g1=>⟨141,upd (upd (upd (upd (upd (upd (fun _=>.any) 15 (aG t1)) 14 (af q.kind)) 6 (.box 6 b6 0)) 4 (.box 4 b4 0)) 3 (.ptr (bK m.s))) 2 (.list 9 (names.map ah)),upd (upd (fun _=>none) 6 (some ⟨b6,[(af 0),(.str []),(.val (.slice none 0 0)),(.val (.slice none 0 0)),(.val (.slice none 0 0)),(.val (.slice none 0 0)),(af 0),(af 0),(.val (.slice none 0 0))]⟩)) 4 (some ⟨b4,[(af q.kind),(.str q.table),(.list 9 (q.names.map ah)),(.list 91 (q.exprs.map aF)),(.list 88 (q.aggregates.map bV)),(.list 4 (q.descending.map dl)),(af q.count),(af q.offset),(.own 3101 gT (q.inputs.map aZ).length)]⟩),(mix (upd (fun _=>none) 3101 (some ⟨gT,33,rowsT,true⟩)) ossT.flatten)⟩) H (fun _ H=>?_) (fun t1 g1 H=>?_)
 ·refine aL rfl H (fun H=>?_) (fun H=>?_)
  ·refine au ?_
   refine aQ _ () H (Gh.le (ao (ao (ao (ao (ao (ao aP)))))) (aW rfl (dS.of2 (ie.cons (mH.of_eq rfl) (ie.cons (mH.of_eq rfl) (ie.cons (mH.of_eq rfl) (ie.cons (mH.of_eq rfl) (ie.cons (mH.of_eq rfl) (ie.cons (mH.of_eq rfl) (ie.cons (mH.of_eq rfl) (ie.cons (mH.of_eq rfl) (ie.cons (mH.of_eq (congrArg (PV.own 3101 gT) (zl _).symm)) ie.nil)))))))))) (aW rfl (dS.r) aD)) (pw (aU aE)))
  refine bm 2 tk rfl ?_
  refine aQ _ () H (Gh.le (ao (ao (ao (ao (ao (ao aP)))))) (aW rfl (dS.of2 (ie.cons (mH.of_eq rfl) (ie.cons (mH.of_eq rfl) (ie.cons (mH.of_eq rfl) (ie.cons (mH.of_eq rfl) (ie.cons (mH.of_eq rfl) (ie.cons (mH.of_eq rfl) (ie.cons (mH.of_eq rfl) (ie.cons (mH.of_eq rfl) (ie.cons (mH.of_eq (congrArg (PV.own 3101 gT) (zl _).symm)) ie.nil)))))))))) (aW rfl (dS.r) aD)) (pw (aU aE)))
 refine aL rfl H (fun H=>?_) (fun H=>?_)
 ·refine cA (tag := 3101) rfl (fun ho3101=>?_)
  refine bj tk mok ⟨true,true,[20,999999,999998,2000019,2000022,2000027]⟩ [0,1,2,3,4,5,6,7,8,9,10,11,12,13] rfl (by decide +kernel) rfl (bN rfl (bh ?_))
  refine aI 2 rfl (bh ?_)
  obtain ⟨x23,k23,H⟩ := aT H
  refine aH tk ⟨k23.1,(aV k23.2)⟩ (ii ho3101 hA.len.1 k23.2) ?_
  obtain ⟨_,o2,hr2,ho2,hq2⟩ := hA.get k23.2
  obtain ⟨gt2,rfl⟩ := hq2.cs
  refine bc tk rfl rfl rfl rfl rfl rfl rfl rfl rfl hr2 rfl rfl (aI 2 rfl (bh ?_))
  obtain ⟨x28,h28,H⟩ := am H
  have s28 := fT names q.exprs _ h28
  refine br Tryz.call41 (dS.r) s28 ?_
  obtain ⟨x29,h29,H⟩ := am H
  have s29 := hrec80 m x23 x28 hq2 _ h29
  refine iR Tryz.call80 (dS.r) (iU ho2) s29 ?_
  obtain ⟨x30,k30,H⟩ := aT H
  refine aH tk ⟨k30.1,(aV k30.2)⟩ (ii ho3101 hA.len.1 k30.2) ?_
  obtain ⟨y3,hy3,H⟩ := bR H
  obtain ⟨_,_,hcy3,_,hzy3⟩ := hD.get k30.2
  have hDy3 := hD.set ((0 : Int).toNat) (QT.froz x29)
  rw [hy3] at hDy3
  refine jR tk rfl rfl rfl rfl rfl rfl rfl rfl rfl hcy3 (PLe.refl _ _) rfl (hzy3.len.trans (by rw [bH]; rfl)) rfl rfl rfl (by decide) rfl ?_
  refine aY (aR (ab (aa (aB tk ?_))))
  refine av tk ?_
  refine ac ?_
  refine cq (Gh.ja (st' := fun _=>none) 6 8 3101 rfl rfl rfl ((bf (f := aZ) hy3).trans (zl _)) hDy3 rfl rfl rfl DropL.nil) ?_
  exact jW tk H rfl rfl rfl rfl rfl
 refine al 2 tk rfl ?_
 refine aL rfl H (fun H=>?_) (fun H=>?_)
 ·refine cA (tag := 3101) rfl (fun ho3101=>?_)
  refine bj tk mok ⟨true,true,[35,999999,999998,2000034,2000037]⟩ [0,1,2,3,4,5,6,7,8,9,10] rfl (by decide +kernel) rfl (bN rfl (bh ?_))
  refine aI 2 rfl (bh ?_)
  obtain ⟨x38,k38,H⟩ := aT H
  refine aH tk ⟨k38.1,(aV k38.2)⟩ (ii ho3101 hA.len.1 k38.2) ?_
  obtain ⟨_,o4,hr4,ho4,hq4⟩ := hA.get k38.2
  obtain ⟨gt4,rfl⟩ := hq4.cs
  refine bc tk rfl rfl rfl rfl rfl rfl rfl rfl rfl hr4 rfl rfl (bN rfl ?_)
  obtain ⟨x41,h41,H⟩ := am H
  have s41 := hrec80 m x38 names hq4 _ h41
  refine iR Tryz.call80 (dS.r) (iU ho4) s41 ?_
  obtain ⟨x42,k42,H⟩ := aT H
  refine aH tk ⟨k42.1,(aV k42.2)⟩ (ii ho3101 hA.len.1 k42.2) ?_
  obtain ⟨y5,hy5,H⟩ := bR H
  obtain ⟨_,_,hcy5,_,hzy5⟩ := hD.get k42.2
  have hDy5 := hD.set ((0 : Int).toNat) (QT.froz x41)
  rw [hy5] at hDy5
  refine jR tk rfl rfl rfl rfl rfl rfl rfl rfl rfl hcy5 (PLe.refl _ _) rfl (hzy5.len.trans (by rw [bH]; rfl)) rfl rfl rfl (by decide) rfl ?_
  refine aY (aR (ab (aa (aB tk ?_))))
  refine av tk ?_
  refine ac ?_
  refine cq (Gh.ja (st' := fun _=>none) 6 8 3101 rfl rfl rfl ((bf (f := aZ) hy5).trans (zl _)) hDy5 rfl rfl rfl DropL.nil) ?_
  exact jW tk H rfl rfl rfl rfl rfl
 refine ab (al 2 tk rfl ?_)
 refine ff (γ := Unit) (fun t6 g6=>⟨141,upd (upd (upd (upd (upd (upd (fun _=>.any) 43 (aG t6)) 14 (af q.kind)) 6 (.box 6 b6 0)) 4 (.box 4 b4 0)) 3 (.ptr (bK m.s))) 2 (.list 9 (names.map ah)),upd (upd (fun _=>none) 6 (some ⟨b6,[(af 0),(.str []),(.val (.slice none 0 0)),(.val (.slice none 0 0)),(.val (.slice none 0 0)),(.val (.slice none 0 0)),(af 0),(af 0),(.val (.slice none 0 0))]⟩)) 4 (some ⟨b4,[(af q.kind),(.str q.table),(.list 9 (q.names.map ah)),(.list 91 (q.exprs.map aF)),(.list 88 (q.aggregates.map bV)),(.list 4 (q.descending.map dl)),(af q.count),(af q.offset),(.own 3101 gT (q.inputs.map aZ).length)]⟩),(mix (upd (fun _=>none) 3101 (some ⟨gT,33,rowsT,true⟩)) ossT.flatten)⟩) H (fun _ H=>?_) (fun t6 g6 H=>?_)
 ·refine aL rfl H (fun H=>?_) (fun H=>?_)
  ·refine au ?_
   refine aQ _ () H Gh.dm
  refine bm 2 tk rfl ?_
  refine aQ _ () H Gh.dm
 refine aL rfl H (fun H=>?_) (fun H=>?_)
 ·refine ab (aa (ag 2 tk rfl (aB tk ?_)))
  obtain ⟨x49,h49,H⟩ := am H
  have s49 := fT names q.exprs _ h49
  refine aq Tryz.call41 (dS.r) s49 ?_
  refine ak tk rfl (ac ?_)
  refine cA (tag := 3101) rfl (fun ho3101=>?_)
  refine bj tk mok ⟨true,true,[54,61,999999,999998,2000051,2000053,2000056,2000063]⟩ [0,1,2,3,4,5,6,7,8,9,11,12,13,14,15,16,10,17,18,19,20,21] rfl (by decide +kernel) rfl (bN rfl (bh ?_))
  refine bN rfl (bh ?_)
  refine aI 2 rfl (bh ?_)
  obtain ⟨x57,k57,H⟩ := aT H
  refine aH tk ⟨k57.1,(aV k57.2)⟩ (ii ho3101 hA.len.1 k57.2) ?_
  obtain ⟨_,o7,hr7,ho7,hq7⟩ := hA.get k57.2
  obtain ⟨gt7,rfl⟩ := hq7.cs
  refine bc tk rfl rfl rfl rfl rfl rfl rfl rfl rfl hr7 rfl rfl (aI 3 rfl (bh ?_))
  obtain ⟨x64,k64,H⟩ := aT H
  refine aH tk ⟨k64.1,(aV k64.2)⟩ (ii ho3101 hA.len.1 k64.2) ?_
  obtain ⟨_,o8,hr8,ho8,hq8⟩ := hA.get k64.2
  obtain ⟨gt8,rfl⟩ := hq8.cs
  refine bc tk rfl rfl rfl rfl rfl rfl rfl rfl rfl hr8 rfl rfl (bN rfl ?_)
  obtain ⟨x60,h60,H⟩ := am H
  have s60 := hrec80 m x57 x49 hq7 _ h60
  refine iR Tryz.call80 (dS.r) (iU ho7) s60 ?_
  obtain ⟨x67,h67,H⟩ := am H
  have s67 := hrec80 m x64 x49 hq8 _ h67
  refine rX (g := 80) rfl rfl rfl rfl Tryz.call80 (dS.r) (iU ((getSetN (by decide)).trans ho8)) s67 rfl ?_
  obtain ⟨x68,k68,H⟩ := aT H
  refine aH tk ⟨k68.1,(aV k68.2)⟩ (ii ho3101 hA.len.1 k68.2) ?_
  obtain ⟨y9,hy9,H⟩ := bR H
  obtain ⟨_,_,hcy9,_,hzy9⟩ := hD.get k68.2
  have hDy9 := hD.set ((0 : Int).toNat) (QT.froz x60)
  rw [hy9] at hDy9
  refine jR tk rfl rfl rfl rfl rfl rfl rfl rfl rfl hcy9 (PLe.refl _ _) rfl (hzy9.len.trans (by rw [bH]; rfl)) rfl rfl rfl (by decide) rfl ?_
  obtain ⟨x69,k69,H⟩ := aT H
  refine aH tk ⟨k69.1,(gw (bf (f := aZ) hy9) k69.2)⟩ (ii ho3101 ((set_lenT hy9).trans hA.len.1) k69.2) ?_
  obtain ⟨y10,hy10,H⟩ := bR H
  obtain ⟨_,_,hcy10,_,hzy10⟩ := hDy9.get k69.2
  have hDy10 := hDy9.set ((1 : Int).toNat) (QT.froz x67)
  rw [hy10] at hDy10
  refine jR tk rfl rfl rfl rfl rfl rfl rfl rfl rfl hcy10 (PLe.refl _ _) rfl (hzy10.len.trans (by rw [bH]; rfl)) rfl rfl rfl (by decide) rfl ?_
  refine aY (aR (ab (aa (aB tk ?_))))
  refine av tk ?_
  refine ac ?_
  refine cq (Gh.ja (st' := fun _=>none) 6 8 3101 rfl rfl rfl (((bf (f := aZ) hy9).trans (bf (f := aZ) hy10)).trans (zl _)) hDy10 rfl rfl rfl DropL.nil) ?_
  exact jW tk H rfl rfl rfl rfl rfl
 refine al 2 tk rfl ?_
 refine aL rfl H (fun H=>?_) (fun H=>?_)
 ·refine ab (aa (aB tk ?_))
  refine ak tk rfl ?_
  obtain ⟨x74,h74,H⟩ := am H
  have s74 := rD (gI := gT) (lnI := (q.inputs.map aZ).length) q names _ h74
  refine aq Tryz.call81 (dS.cons (PLe.agg (dS.cons (PLe.refl _ _) <| dS.cons (PLe.refl _ _) <| dS.cons (PLe.refl _ _) <| dS.cons (PLe.refl _ _) <| dS.cons (PLe.refl _ _) <| dS.cons (PLe.refl _ _) <| dS.cons (PLe.refl _ _) <| dS.cons (PLe.refl _ _) <| dS.cons (PLe.ownVal _ _ _ _) <| dS.nil _)) <| dS.cons (PLe.refl _ _) <| dS.nil _) s74 ?_
  refine lO 74 (q := (.agg [(af x74.kind),(.str x74.table),(.list 9 (x74.names.map ah)),(.list 91 (x74.exprs.map aF)),(.list 88 (x74.aggregates.map bV)),(.list 4 (x74.descending.map dl)),(af x74.count),(af x74.offset),(.own 3101 gT (q.inputs.map aZ).length)])) rfl (PLe.agg (dS.cons (PLe.refl _ _) <| dS.cons (PLe.refl _ _) <| dS.cons (PLe.refl _ _) <| dS.cons (PLe.refl _ _) <| dS.cons (PLe.refl _ _) <| dS.cons (PLe.refl _ _) <| dS.cons (PLe.refl _ _) <| dS.cons (PLe.refl _ _) <| dS.cons (PLe.valOwnE 3101 rfl) <| dS.nil _)) ?_
  refine av tk ?_
  refine ac ?_
  refine cA (tag := 3101) rfl (fun ho3101=>?_)
  refine bj tk mok ⟨true,true,[77,999999,999998,2000076,2000079,2000083]⟩ [0,1,2,3,4,5,6,7,8,9,10,11,12] rfl (by decide +kernel) rfl (bN rfl (bh ?_))
  refine aI 2 rfl (bh ?_)
  obtain ⟨x80,k80,H⟩ := aT H
  refine aH tk ⟨k80.1,(aV k80.2)⟩ (ii ho3101 hA.len.1 k80.2) ?_
  obtain ⟨_,o11,hr11,ho11,hq11⟩ := hA.get k80.2
  obtain ⟨gt11,rfl⟩ := hq11.cs
  refine bc tk rfl rfl rfl rfl rfl rfl rfl rfl rfl hr11 rfl rfl (bN rfl (bh ?_))
  obtain ⟨x84,h84,H⟩ := am H
  have s84 := fT ([] : List (List UInt8)) x74.exprs _ h84
  refine br Tryz.call41 (dS.of2 (ie.cons (mH.nil tk rfl) (ie.cons (mH.of_eq rfl) ie.nil))) s84 ?_
  obtain ⟨x85,h85,H⟩ := am H
  have s85 := hrec80 m x80 x84 hq11 _ h85
  refine iR Tryz.call80 (dS.r) (iU ho11) s85 ?_
  obtain ⟨x86,k86,H⟩ := aT H
  refine aH tk ⟨k86.1,(aV k86.2)⟩ (ii ho3101 hA.len.1 k86.2) ?_
  obtain ⟨y12,hy12,H⟩ := bR H
  obtain ⟨_,_,hcy12,_,hzy12⟩ := hD.get k86.2
  have hDy12 := hD.set ((0 : Int).toNat) (QT.froz x85)
  rw [hy12] at hDy12
  refine jR tk rfl rfl rfl rfl rfl rfl rfl rfl rfl hcy12 (PLe.refl _ _) rfl (hzy12.len.trans (by rw [bH]; rfl)) rfl rfl rfl (by decide) rfl ?_
  refine aY (aR (ab (aa (aB tk ?_))))
  refine av tk ?_
  refine ac ?_
  refine cq (Gh.ja (st' := fun _=>none) 6 8 3101 rfl rfl rfl ((bf (f := aZ) hy12).trans (zl _)) hDy12 rfl rfl rfl DropL.nil) ?_
  exact jW tk H rfl rfl rfl rfl rfl
 refine al 2 tk rfl ?_
 refine aL rfl H (fun H=>?_) (fun H=>?_)
 ·refine ab (aa (aB tk ?_))
  refine ak tk rfl ?_
  obtain ⟨x91,h91,H⟩ := am H
  have s91 := rO (gI := gT) (lnI := (q.inputs.map aZ).length) q names _ h91
  refine aq Tryz.call82 (dS.cons (PLe.agg (dS.cons (PLe.refl _ _) <| dS.cons (PLe.refl _ _) <| dS.cons (PLe.refl _ _) <| dS.cons (PLe.refl _ _) <| dS.cons (PLe.refl _ _) <| dS.cons (PLe.refl _ _) <| dS.cons (PLe.refl _ _) <| dS.cons (PLe.refl _ _) <| dS.cons (PLe.ownVal _ _ _ _) <| dS.nil _)) <| dS.cons (PLe.refl _ _) <| dS.nil _) s91 ?_
  refine lO 91 (q := (.agg [(af x91.kind),(.str x91.table),(.list 9 (x91.names.map ah)),(.list 91 (x91.exprs.map aF)),(.list 88 (x91.aggregates.map bV)),(.list 4 (x91.descending.map dl)),(af x91.count),(af x91.offset),(.own 3101 gT (q.inputs.map aZ).length)])) rfl (PLe.agg (dS.cons (PLe.refl _ _) <| dS.cons (PLe.refl _ _) <| dS.cons (PLe.refl _ _) <| dS.cons (PLe.refl _ _) <| dS.cons (PLe.refl _ _) <| dS.cons (PLe.refl _ _) <| dS.cons (PLe.refl _ _) <| dS.cons (PLe.refl _ _) <| dS.cons (PLe.valOwnE 3101 rfl) <| dS.nil _)) ?_
  refine av tk ?_
  refine ac (ab (aa (ak tk rfl (aB tk ?_))))
  have s94 := clone_83 (m := 94) x91.exprs
  refine nL (g := 83) rfl rfl rfl Tryz.call83 (dS.r) rfl rfl s94 (fun g94=>cI (Gh.mixU rfl) ?_)
  refine ak tk rfl (ac (ab (ab (aa (ak tk rfl (aB tk ?_))))))
  refine aK tk (zl _) ?_
  refine ak tk rfl (ac ?_)
  obtain ⟨fl13,H13,Hp13⟩ := am H
  refine iB tk 96 rfl rfl (fun hz13 _=>?_)
  rw [zl] at hz13
  refine dU (τ := List LExpr) (γ := OwnRef) (fun s13 g13=>⟨141,upd (upd (upd (upd (fun _=>.any) 8 (.own 94 g13 (s13.map aF).length)) 6 (.box 6 b6 0)) 4 (.box 4 b4 0)) 3 (.ptr (bK m.s)),upd (upd (fun _=>none) 6 (some ⟨b6,[(af 0),(.str []),(.val (.slice none 0 0)),(.val (.slice none 0 0)),(.val (.slice none 0 0)),(.val (.slice none 0 0)),(af 0),(af 0),(.val (.slice none 0 0))]⟩)) 4 (some ⟨b4,[(af x91.kind),(.str x91.table),(.list 9 (x91.names.map ah)),(.list 91 (x91.exprs.map aF)),(.list 88 (x91.aggregates.map bV)),(.list 4 (x91.descending.map dl)),(af x91.count),(af x91.offset),(.own 3101 gT (q.inputs.map aZ).length)]⟩),(mix (upd (upd (fun _=>none) 3101 (some ⟨gT,33,rowsT,true⟩)) 94 (some ⟨g13,91,(s13.map aF),true⟩)) ossT.flatten)⟩) (fun t=>fl13 = .next t) ?_ (fun s13 g13 hn13=>?_)
  ·refine az ?_
   refine km (fun j13 s13 g13=>⟨141,upd (upd (upd (upd (upd (upd (upd (fun _=>.any) 98 (af (j13 : Int))) 97 (af (x91.aggregates.length : Int))) 96 (.list 88 (x91.aggregates.map bV))) 8 (.own 94 g13 (s13.map aF).length)) 6 (.box 6 b6 0)) 4 (.box 4 b4 0)) 3 (.ptr (bK m.s)),upd (upd (fun _=>none) 6 (some ⟨b6,[(af 0),(.str []),(.val (.slice none 0 0)),(.val (.slice none 0 0)),(.val (.slice none 0 0)),(.val (.slice none 0 0)),(af 0),(af 0),(.val (.slice none 0 0))]⟩)) 4 (some ⟨b4,[(af x91.kind),(.str x91.table),(.list 9 (x91.names.map ah)),(.list 91 (x91.exprs.map aF)),(.list 88 (x91.aggregates.map bV)),(.list 4 (x91.descending.map dl)),(af x91.count),(af x91.offset),(.own 3101 gT (q.inputs.map aZ).length)]⟩),(mix (upd (upd (fun _=>none) 3101 (some ⟨gT,33,rowsT,true⟩)) 94 (some ⟨g13,91,(s13.map aF),true⟩)) ossT.flatten)⟩) g94 H13 Gh.dm (fun j13 s13 g13 hj13 hr13=>?_)
   refine al 1 tk rfl (ab ?_)
   refine du rfl (fun h=>?_) (fun h=>?_)
   ·have hl13 := rowsLt h
    obtain ⟨x13,fb13,hx13,H,hg13⟩ := rMc hl13 hr13
    refine au (ab (az (ab (aa ?_))))
    refine bn tk (zn j13) (bC (fun _=>rfl) hx13) ?_
    refine ak tk rfl ?_
    refine aX tk fun b10=>?_
    refine av tk ?_
    refine ac (aa (ag 2 tk rfl (aB tk ?_)))
    obtain ⟨x105,h105,H⟩ := am H
    have k105 := cQ h105
    refine dq (rows2' := List.map aF x13.args) (rows' := List.map aF x105) tk rfl rfl rfl rfl rfl rfl rfl rfl rfl rfl rfl rfl rfl (eV.refl _) (eA k105.1) (et k105.2.1) (eB k105.2.2) fun g105=>(cI (Gh.mixU rfl) ?_)
    refine ak tk rfl (ac (aR (bm 2 tk rfl ?_)))
    exact bO g105 H hl13 hg13 Gh.dm
   have hn13 := rMd (rowsGe h) hr13
   refine bF rfl ?_
   refine aQ s13 g13 hn13 Gh.dm
  have H := cw hn13 Hp13
  refine ib 8 rfl rfl rfl (cq (Gh.mixU rfl) ?_)
  refine cA (tag := 3101) rfl (fun ho3101=>?_)
  refine bj tk mok ⟨true,true,[109,999999,999998,2000108,2000111]⟩ [0,1,2,3,4,5,6,7,8,9,10,11] rfl (by decide +kernel) rfl (bN rfl (bh ?_))
  refine aI 2 rfl (bh ?_)
  obtain ⟨x112,k112,H⟩ := aT H
  refine aH tk ⟨k112.1,(aV k112.2)⟩ (ii ho3101 hA.len.1 k112.2) ?_
  obtain ⟨_,o14,hr14,ho14,hq14⟩ := hA.get k112.2
  obtain ⟨gt14,rfl⟩ := hq14.cs
  refine bc tk rfl rfl rfl rfl rfl rfl rfl rfl rfl hr14 rfl rfl (bN rfl ?_)
  obtain ⟨x115,h115,H⟩ := am H
  have s115 := fT ([] : List (List UInt8)) s13 _ h115
  refine br Tryz.call41 (dS.of2 (ie.cons (mH.nil tk rfl) (ie.cons (mH.of_eq rfl) ie.nil))) s115 ?_
  obtain ⟨x116,h116,H⟩ := am H
  have s116 := hrec80 m x112 x115 hq14 _ h116
  refine iR Tryz.call80 (dS.r) (iU ho14) s116 ?_
  obtain ⟨x117,k117,H⟩ := aT H
  refine aH tk ⟨k117.1,(aV k117.2)⟩ (ii ho3101 hA.len.1 k117.2) ?_
  obtain ⟨y15,hy15,H⟩ := bR H
  obtain ⟨_,_,hcy15,_,hzy15⟩ := hD.get k117.2
  have hDy15 := hD.set ((0 : Int).toNat) (QT.froz x116)
  rw [hy15] at hDy15
  refine jR tk rfl rfl rfl rfl rfl rfl rfl rfl rfl hcy15 (PLe.refl _ _) rfl (hzy15.len.trans (by rw [bH]; rfl)) rfl rfl rfl (by decide) rfl ?_
  refine aY (aR (ab (aa (aB tk ?_))))
  refine av tk ?_
  refine ac ?_
  refine cq (Gh.ja (st' := upd (fun _=>none) 94 (some ⟨g13,91,(s13.map aF),false⟩)) 6 8 3101 rfl rfl rfl ((bf (f := aZ) hy15).trans (zl _)) hDy15 rfl rfl rfl (DropL.cons rfl rfl DropL.nil)) ?_
  exact jW tk H rfl rfl rfl rfl rfl
 refine ab (al 2 tk rfl ?_)
 refine ff (γ := Unit) (fun t16 g16=>⟨141,upd (upd (upd (upd (fun _=>.any) 118 (aG t16)) 6 (.box 6 b6 0)) 4 (.box 4 b4 0)) 3 (.ptr (bK m.s)),upd (upd (fun _=>none) 6 (some ⟨b6,[(af 0),(.str []),(.val (.slice none 0 0)),(.val (.slice none 0 0)),(.val (.slice none 0 0)),(.val (.slice none 0 0)),(af 0),(af 0),(.val (.slice none 0 0))]⟩)) 4 (some ⟨b4,[(af q.kind),(.str q.table),(.list 9 (q.names.map ah)),(.list 91 (q.exprs.map aF)),(.list 88 (q.aggregates.map bV)),(.list 4 (q.descending.map dl)),(af q.count),(af q.offset),(.own 3101 gT (q.inputs.map aZ).length)]⟩),(mix (upd (fun _=>none) 3101 (some ⟨gT,33,rowsT,true⟩)) ossT.flatten)⟩) H (fun _ H=>?_) (fun t16 g16 H=>?_)
 ·refine aL rfl H (fun H=>?_) (fun H=>?_)
  ·refine au ?_
   refine aQ _ () H Gh.dm
  refine bm 2 tk rfl ?_
  refine aQ _ () H Gh.dm
 refine aL rfl H (fun H=>?_) (fun H=>?_)
 ·refine ab (aa (ak tk rfl (aB tk ?_)))
  refine io tk (zl _) ?_
  refine ak tk rfl (ac ?_)
  obtain ⟨n17,hs17,H⟩ := am H
  have hz17 := oI hs17
  obtain ⟨fl17,H17,Hp17⟩ := am H
  refine dU (τ := List LQuery) (γ := (OwnRef × List (List PV) × List (List Ab.Obj))) (fun s17 g17=>gate (All3 (fun x cs o=>DCells (aZ x) cs o) s17 g17.2.1 g17.2.2) ⟨141,upd (upd (fun _=>.any) 6 (.box 6 b6 0)) 4 (.box 4 b4 0),upd (upd (fun _=>none) 6 (some ⟨b6,[(af 0),(.str []),(.val (.slice none 0 0)),(.val (.slice none 0 0)),(.val (.slice none 0 0)),(.val (.slice none 0 0)),(af 0),(af 0),(.val (.slice none 0 0))]⟩)) 4 (some ⟨b4,[(af q.kind),(.str q.table),(.list 9 (q.names.map ah)),(.list 91 (q.exprs.map aF)),(.list 88 (q.aggregates.map bV)),(.list 4 (q.descending.map dl)),(af q.count),(af q.offset),(.own 3101 g17.1 (s17.map aZ).length)]⟩),(mix (upd (fun _=>none) 3101 (some ⟨g17.1,33,g17.2.1,true⟩)) g17.2.2.flatten)⟩) (fun t=>fl17 = .next t) ?_ (fun s17 g17 hn17=>?_)
  ·refine az ?_
   refine km (fun j17 s17 g17=>gate (TRel nT j17 s17 g17.2.1 g17.2.2) ⟨141,upd (upd (upd (upd (upd (upd (fun _=>.any) 124 (af (j17 : Int))) 123 (af (q.inputs.length : Int))) 122 (.own 3101 g17.1 (s17.map aZ).length)) 6 (.box 6 b6 0)) 4 (.box 4 b4 0)) 3 (.ptr (bK m.s)),upd (upd (fun _=>none) 6 (some ⟨b6,[(af 0),(.str []),(.val (.slice none 0 0)),(.val (.slice none 0 0)),(.val (.slice none 0 0)),(.val (.slice none 0 0)),(af 0),(af 0),(.val (.slice none 0 0))]⟩)) 4 (some ⟨b4,[(af q.kind),(.str q.table),(.list 9 (q.names.map ah)),(.list 91 (q.exprs.map aF)),(.list 88 (q.aggregates.map bV)),(.list 4 (q.descending.map dl)),(af q.count),(af q.offset),(.own 3101 g17.1 (s17.map aZ).length)]⟩),(mix (upd (fun _=>none) 3101 (some ⟨g17.1,33,g17.2.1,true⟩)) g17.2.2.flatten)⟩) (gT,rowsT,ossT) H17 (Gh.gateT (TRel.init hA) Gh.dm) (fun j17 s17 g17 hj17 hr17=>?_)
   refine qU (fun hT17=>?_)
   refine al 1 tk rfl (ab ?_)
   refine du rfl (fun h=>?_) (fun h=>?_)
   ·have hl17 := natLt hz17 h
    obtain ⟨x17,fb17,hx17,H,hg17⟩ := rMc hl17 hr17
    obtain rfl := natX hx17
    refine au (ab (az (ab (aa (ak tk rfl ?_)))))
    obtain ⟨x127,k127,H⟩ := aT H
    refine jF (tag := 3101) rfl (fun ho3101=>?_)
    refine jw tk ⟨k127.1,(aV k127.2)⟩ (ii ho3101 hT17.1.len.1 k127.2) ?_
    obtain ⟨_,o22,hr22,ho22,hq22⟩ := hT17.2 _ _ (by simp) k127.2
    obtain ⟨gt22,rfl⟩ := hq22.cs
    refine nS tk rfl rfl rfl rfl rfl rfl rfl hr22 rfl rfl ?_
    refine aX tk fun b12=>?_
    refine ak tk rfl (av tk ?_)
    refine ac ?_
    refine cA (tag := 3101) rfl (fun ho3101=>?_)
    refine gn 12 ?_
    refine bj tk mok ⟨true,false,[132,133,134,135]⟩ [0,1,2,3,4,5,6,7,8,9,10] rfl (by decide +kernel) rfl (bN rfl (bh ?_))
    refine aI 5 rfl ?_
    obtain ⟨x136,h136,H⟩ := am H
    have s136 := nR (m := 1) m x127 _ h136
    refine sC (g := 35) (a1 := [(.agg (bK m.s))]) (a2 := []) rfl rfl rfl rfl Tryz.call35 (dS.r) hq22.dcells ((iU ho22).trans List.perm_append_comm) s136 (Lit.strs _) rfl rfl ?_
    obtain ⟨x137,h137,H⟩ := am H
    have s137 := hrec40 m x127 x136 hq22 _ h137
    refine iR Tryz.call40 (dS.r) (iU ho22) s137 ?_
    obtain ⟨x138,k138,H⟩ := aT H
    refine aH tk ⟨k138.1,(aV k138.2)⟩ (ii ho3101 hT17.1.len.1 k138.2) ?_
    obtain ⟨y23,hy23,H⟩ := bR H
    obtain ⟨_,_,hcy23,_,hzy23⟩ := hT17.1.get k138.2
    have hDy23 := hT17.1.set ((j17 : Int).toNat) (QT.froz x137)
    rw [hy23] at hDy23
    refine jR tk rfl rfl rfl rfl rfl rfl rfl rfl rfl hcy23 (PLe.refl _ _) rfl (hzy23.len.trans (by rw [bH]; rfl)) rfl rfl rfl (by decide) rfl ?_
    refine aY (aR (bm 2 tk rfl ?_))
    exact bO (g17.1,(g17.2.1.set ((j17 : Int).toNat) (aA x137)),(g17.2.2.set ((j17 : Int).toNat) [])) H hl17 hg17 (Gh.gateT (TRel.step hT17 (QT.froz x137) hy23) (Gh.le (ao (ao (ao (bp (PLe.of2 (mH.of_eq (congrArg (PV.own 3101 g17.1) (bf (f := aZ) hy23)))) (ao (bp (PLe.q (qa hz17 hl17)) aP)))))) (aW rfl (dS.of2 (ie.cons (mH.of_eq rfl) (ie.cons (mH.of_eq rfl) (ie.cons (mH.of_eq rfl) (ie.cons (mH.of_eq rfl) (ie.cons (mH.of_eq rfl) (ie.cons (mH.of_eq rfl) (ie.cons (mH.of_eq rfl) (ie.cons (mH.of_eq rfl) (ie.cons (mH.of_eq (congrArg (PV.own 3101 g17.1) (bf (f := aZ) hy23))) ie.nil)))))))))) (aW rfl (dS.r) aD)) (pw (aU aE))))
   have hn17 := rMd (natGe hz17 h) hr17
   refine bF rfl ?_
   refine aQ s17 g17 hn17 (Gh.gateT hT17.1 Gh.dm)
  have H := cw hn17 Hp17
  refine qU (fun hE17=>?_)
  refine aR (ab (aa (aB tk ?_)))
  refine av tk ?_
  refine ac ?_
  refine cq (Gh.ja (st' := fun _=>none) 6 8 3101 rfl rfl rfl (zl _) hE17 rfl rfl rfl DropL.nil) ?_
  exact jW tk H rfl rfl rfl rfl rfl
 refine au (aR (ab (aa (aB tk ?_))))
 refine av tk ?_
 refine ac ?_
 refine cq (Gh.ja (st' := fun _=>none) 6 8 3101 rfl rfl rfl (zl _) hD rfl rfl rfl DropL.nil) ?_
 exact jW tk H rfl rfl rfl rfl rfl
def gK (rec40 : LPushdownPruner → LQuery → (List (List UInt8)) → Option (LQuery)) (_rec80 : LPushdownPruner → LQuery → (List (List UInt8)) → Option (LQuery)) (m : LPushdownPruner) (q : LQuery) (names : List (List UInt8)) : Option (LQuery) :=
 ae (rec40 m q names) fun x11 =>
 ae (ej m x11 names) fun x13 =>
 some x13
theorem nD {nT : Nat} {csT : List PV} {osT : List Ab.Obj} (rec40 : LPushdownPruner → LQuery → (List (List UInt8)) → Option (LQuery)) (rec80 : LPushdownPruner → LQuery → (List (List UInt8)) → Option (LQuery)) (hrec40 : ∀ a0 a1 a2 {nT : Nat} {csT : List PV} {osT : List Ab.Obj},QT nT a1 csT osT → ∀ r,rec40 a0 a1 a2 = some r → PH Tryz.prog 40 [(.agg (cT a0)),(.agg csT),(.list 9 (a2.map ah))] ⟨fun _=>none,mix (fun _=>none) osT⟩ (fun u H=>u = (.agg (aA r)) ∧ H = Heap.empty)) (_hrec80 : ∀ a0 a1 a2 {nT : Nat} {csT : List PV} {osT : List Ab.Obj},QT nT a1 csT osT → ∀ r,rec80 a0 a1 a2 = some r → PH Tryz.prog 80 [(.agg (cT a0)),(.agg csT),(.list 9 (a2.map ah))] ⟨fun _=>none,mix (fun _=>none) osT⟩ (fun u H=>u = (.agg (aA r)) ∧ H = Heap.empty)) (m : LPushdownPruner) (q : LQuery) (names : List (List UInt8)) (hT : QT nT q csT osT) (r : LQuery) (H : gK rec40 rec80 m q names = some r) :
  PH Tryz.prog 80 [(.agg (cT m)),(.agg csT),(.list 9 (names.map ah))] ⟨fun _=>none,mix (fun _=>none) osT⟩ (fun u H=>u = (.agg (aA r)) ∧ H = Heap.empty) := by
 unfold gK at H
 obtain ⟨gT,rfl⟩ := hT.cs
 refine PH.ay Tryz.func80 Tryz.ntmps80 ?_
 refine ab (aa (aS ?_))
 refine aS ?_
 refine aX tk fun b6=>?_
 refine ac (ab (bj tk mok ⟨false,false,[]⟩ [0,1,2,3,5,4,6,7] rfl (by decide +kernel) rfl (aI 5 rfl ?_)))
 obtain ⟨x11,h11,H⟩ := am H
 have s11 := hrec40 m q names hT _ h11
 refine iR Tryz.call40 (dS.r) (osA := []) (List.Perm.refl _) s11 ?_
 obtain ⟨x13,h13,H⟩ := am H
 have s13 := kK m x11 names _ h13
 refine br Tryz.call39 (dS.r) s13 ?_
 refine fE rfl rfl rfl rfl rfl rfl rfl rfl rfl rfl rfl rfl (aY ?_)
 exact jW tk H rfl rfl rfl rfl rfl
mutual
def cd : Nat → LPushdownPruner → LQuery → (List (List UInt8)) → Option (LQuery)
 | 0,_,_,_=>none
 | n + 1,v0,v1,v2=>bl (fun b0 b1 b2=>cd n b0 b1 b2) (fun b0 b1 b2=>ck n b0 b1 b2) v0 v1 v2
def ck : Nat → LPushdownPruner → LQuery → (List (List UInt8)) → Option (LQuery)
 | 0,_,_,_=>none
 | n + 1,v0,v1,v2=>gK (fun b0 b1 b2=>cd n b0 b1 b2) (fun b0 b1 b2=>ck n b0 b1 b2) v0 v1 v2
end
theorem nJ  (n : Nat) : (∀ a0 a1 a2 {nT : Nat} {csT : List PV} {osT : List Ab.Obj},QT nT a1 csT osT → ∀ r,cd n a0 a1 a2 = some r → PH Tryz.prog 40 [(.agg (cT a0)),(.agg csT),(.list 9 (a2.map ah))] ⟨fun _=>none,mix (fun _=>none) osT⟩ (fun u H=>u = (.agg (aA r)) ∧ H = Heap.empty)) ∧ (∀ a0 a1 a2 {nT : Nat} {csT : List PV} {osT : List Ab.Obj},QT nT a1 csT osT → ∀ r,ck n a0 a1 a2 = some r → PH Tryz.prog 80 [(.agg (cT a0)),(.agg csT),(.list 9 (a2.map ah))] ⟨fun _=>none,mix (fun _=>none) osT⟩ (fun u H=>u = (.agg (aA r)) ∧ H = Heap.empty)) := by
 induction n with
 | zero=>exact ⟨(by intros; rename_i h; exact absurd (show (none : Option _) = some _ from h) (by simp)),(by intros; rename_i h; exact absurd (show (none : Option _) = some _ from h) (by simp))⟩
 | succ n ih =>
  exact ⟨(fun v0 v1 v2=>fun hq r h=>oa (fun b0 b1 b2=>cd n b0 b1 b2) (fun b0 b1 b2=>ck n b0 b1 b2) ih.1 ih.2 v0 v1 v2 hq r h),(fun v0 v1 v2=>fun hq r h=>nD (fun b0 b1 b2=>cd n b0 b1 b2) (fun b0 b1 b2=>ck n b0 b1 b2) ih.1 ih.2 v0 v1 v2 hq r h)⟩
def iJ (m : LPushdownPruner) (q : LQuery) (names : List (List UInt8)) : Option (LQuery) := gg fun n=>cd n m q names
theorem oe {nT : Nat} {csT : List PV} {osT : List Ab.Obj} (m : LPushdownPruner) (q : LQuery) (names : List (List UInt8)) (hT : QT nT q csT osT) (r : LQuery) (H : iJ m q names = some r) :
  PH Tryz.prog 40 [(.agg (cT m)),(.agg csT),(.list 9 (names.map ah))] ⟨fun _=>none,mix (fun _=>none) osT⟩ (fun u H=>u = (.agg (aA r)) ∧ H = Heap.empty) := by
 obtain ⟨n,h⟩ := gG H
 exact (nJ  n).1 m q names hT r h
def fy (sA : LSchema) (q : LQuery) (names : List (List UInt8)) : Option (LQuery) :=
 ae (cV (LPushdownPruner.mk sA) q) fun x13 =>
 ae (db x13 (fun a0=>el a0 names)) fun x16 =>
 be (
  cond (!x16)
   (x13)
   (names)) fun (t1 : List (List UInt8)) =>
 ae (lF q) fun x22 =>
 ae (iJ (LPushdownPruner.mk sA) x22 t1) fun x24 =>
 ae (ej (LPushdownPruner.mk sA) x24 t1) fun x26 =>
 some x26
theorem om (sA : LSchema) (q : LQuery) (names : List (List UInt8)) (r : LQuery) (H : fy sA q names = some r) :
  ba Tryz.prog 10 [(.agg (bK sA)),(.agg (aA q)),(.list 9 (names.map ah))] (.agg (aA r)) := by
 unfold fy at H
 refine PH.ay Tryz.func10 Tryz.ntmps10 ?_
 refine ab (aa (aS ?_))
 refine aS ?_
 refine rN (d := 5) rfl rfl rfl rfl rfl fun b5=>?_
 refine aX tk fun b6=>?_
 refine ac (ab (aa (ag 2 tk rfl ?_)))
 refine aX tk fun b7=>?_
 refine av tk ?_
 refine ac (ab (aa (aB tk ?_)))
 refine ak tk rfl ?_
 obtain ⟨x13,h13,H⟩ := am H
 have s13 := iX (LPushdownPruner.mk sA) q _ h13
 refine aq Tryz.call35 (dS.r) s13 ?_
 refine ak tk rfl (ac (ab (ab (aa (ag 2 tk rfl ?_)))))
 obtain ⟨x16,h16,H⟩ := am H
 have s16 := jZ x13 (fun a0=>el a0 names) Tryz.call37 (fun a0 r h=>nh a0 names r h) _ h16
 refine sv (g := 36) (a1 := [(.list 9 (x13.map ah))]) (a2 := []) rfl rfl rfl Tryz.call36 (dS.r) rfl rfl rfl s16 Lit.one rfl (ak tk rfl (ac ?_))
 refine ff (γ := Unit) (fun t1 g1=>⟨27,upd (upd (upd (upd (fun _=>.any) 7 (.box 7 b7 0)) 6 (.box 6 b6 0)) 5 (.box 5 b5 0)) 4 (.ptr (aA q)),upd (upd (upd (fun _=>none) 7 (some ⟨b7,(bK sA)⟩)) 6 (some ⟨b6,[(af 0),(.str []),(.val (.slice none 0 0)),(.val (.slice none 0 0)),(.val (.slice none 0 0)),(.val (.slice none 0 0)),(af 0),(af 0),(.val (.slice none 0 0))]⟩)) 5 (some ⟨b5,[(.list 9 (t1.map ah))]⟩),fun _=>none⟩) H (fun _ H=>?_) (fun t1 g1 H=>?_)
 ·refine aL rfl H (fun H=>?_) (fun H=>?_)
  ·refine aa (ak tk rfl (av tk ?_))
   refine ac ?_
   refine aQ _ () H Gh.d
  refine au ?_
  refine aQ _ () H Gh.d
 refine ab (cq Gh.mix0 (gn 7 ?_))
 refine bj tk mok ⟨true,false,[19,20,21]⟩ [0,1,2,4,6,3,5,7,8] rfl (by decide +kernel) rfl (aI 3 rfl (bh ?_))
 refine bh ?_
 obtain ⟨x22,h22,H⟩ := am H
 have s22 := rM q _ h22
 refine rY (g := 27) rfl rfl rfl rfl Tryz.call27 (dS.r) rfl rfl (f := fun gt=>gW x22 gt) (Q := fun k gt os=>QT k x22 (gW x22 gt) os) s22 (fun gt22 k22 os22 hq22=>?_)
 obtain ⟨x24,h24,H⟩ := am H
 have s24 := oe (LPushdownPruner.mk sA) x22 t1 hq22 _ h24
 refine iR Tryz.call40 (dS.r) (osA := []) (List.Perm.refl _) s24 ?_
 obtain ⟨x26,h26,H⟩ := am H
 have s26 := kK (LPushdownPruner.mk sA) x24 t1 _ h26
 refine br Tryz.call39 (dS.r) s26 ?_
 refine fE rfl rfl rfl rfl rfl rfl rfl rfl rfl rfl rfl rfl (aY ?_)
 exact jW tk H rfl rfl rfl rfl rfl
end
end Go.Proofs.YtppmcepdcpmpcaaGreatDoor
