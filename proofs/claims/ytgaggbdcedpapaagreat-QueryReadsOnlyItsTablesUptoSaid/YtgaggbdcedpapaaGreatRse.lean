/- queryReadsOnlyItsTablesUpto_holds, part 5: the layer, the plain functions and what they compute; conditions as in the statement. -/
import Derived.Test.YtgaggbdcedpapaaGreatRsd
set_option maxHeartbeats 4000000
namespace Go.Proofs.YtgaggbdcedpapaaGreat
noncomputable section
open Go Go.Ab
attribute [local irreducible] V Ao Do Gh Eff PH IntKind.wrap
set_option maxRecDepth 4000
def eA (data : List (List UInt8)) (a : Int) (b : Int) : Option ((List (List UInt8))) :=
 ai (whileM (σ := List (List UInt8) × Int) (ρ := Empty) (fun (s1 : List (List UInt8) × Int) =>
  cond (decide (s1.2 ≥ (0 : Int)))
   (ai (dD s1.1 s1.2 (IntKind.i64.wrap (b - a)) a) fun x26 =>
   ai (cE (x26.length = s1.1.length) ()) fun (_ : Unit) =>
   some (.next (x26,(IntKind.i64.wrap (s1.2 - (1 : Int))))))
   (some (.brk (s1.1,s1.2)))) (data,(IntKind.i64.wrap (Int.tdiv (IntKind.i64.wrap ((IntKind.i64.wrap (b - a)) - (1 : Int))) (2 : Int))))) fun fl1=>fl1.thenP fun (s1 : List (List UInt8) × Int) =>
 ai (whileM (σ := List (List UInt8) × Int) (ρ := Empty) (fun (s2 : List (List UInt8) × Int) =>
  cond (decide (s2.2 ≥ (0 : Int)))
   (ai (aG s2.1 (IntKind.i64.wrap (a + s2.2))) fun (x43 : List UInt8) =>
   ai (aG s2.1 a) fun (x47 : List UInt8) =>
   ai (aG s2.1 a) fun (_ : List UInt8) =>
   bf (s2.1.set a.toNat x43) fun (y7 : List (List UInt8)) =>
   ai (aG y7 (IntKind.i64.wrap (a + s2.2))) fun (_ : List UInt8) =>
   bf (y7.set ((IntKind.i64.wrap (a + s2.2)).toNat) x47) fun (y8 : List (List UInt8)) =>
   ai (dD y8 0 s2.2 a) fun x55 =>
   ai (cE (x55.length = y8.length) ()) fun (_ : Unit) =>
   some (.next (x55,(IntKind.i64.wrap (s2.2 - (1 : Int))))))
   (some (.brk (s2.1,s2.2)))) (s1.1,(IntKind.i64.wrap ((IntKind.i64.wrap (b - a)) - (1 : Int))))) fun fl2=>fl2.thenP fun (s2 : List (List UInt8) × Int) =>
 some s2.1
theorem lV (g_data : OwnRef) (data : List (List UInt8)) (a : Int) (b : Int) (r : (List (List UInt8))) (H : eA data a b = some r) :
  PH Tryz.prog 125 [(.own 0 g_data (data.map aB).length),(ae a),(ae b)] ⟨fun _=>none,upd (fun _=>none) 0 (some ⟨g_data,9,(data.map aB),true⟩)⟩ (fun u H=>u = (.tup []) ∧ H = ⟨fun _=>none,upd (fun _=>none) 0 (some ⟨g_data,9,(r.map aB),true⟩)⟩) := by
 unfold eA at H
 refine PH.aD Tryz.func125 Tryz.ntmps125 ?_
 refine aw 2 tk rfl (aw 1 tk rfl (aw 4 tk rfl (ab (aw 4 tk rfl ?_))))
 obtain ⟨fl1,H1,Hp1⟩ := ax H
 refine aY (τ := List (List UInt8) × Int) (γ := Unit) (fun s1 g1=>⟨56,upd (upd (upd (upd (fun _=>.any) 8 (ae (IntKind.i64.wrap (b - a)))) 7 (ae 0)) 6 (ae a)) 0 (.own 0 g_data (s1.1.map aB).length),fun _=>none,upd (fun _=>none) 0 (some ⟨g_data,9,(s1.1.map aB),true⟩)⟩) (fun t=>fl1 = .next t) ?_ (fun s1 g1 hn1=>?_)
 ·refine az ?_
  refine cA (fun s1 g1=>⟨56,upd (upd (upd (upd (upd (fun _=>.any) 9 (ae s1.2)) 8 (ae (IntKind.i64.wrap (b - a)))) 7 (ae 0)) 6 (ae a)) 0 (.own 0 g_data (s1.1.map aB).length),fun _=>none,upd (fun _=>none) 0 (some ⟨g_data,9,(s1.1.map aB),true⟩)⟩) () H1 (Gh.le (aa (aa (aa (aa (aa aj))))) ah (ay ag)) (fun m1 s1 g1 hr1=>?_)
  obtain ⟨fb1,H,hg1⟩ := bZ hr1
  refine ab (aw 2 tk rfl ?_)
  refine aP rfl H (fun H=>?_) (fun H=>?_)
  ·refine av (ab (az (ac (al 4 tk rfl ?_))))
   obtain ⟨x26,h26,H⟩ := ax H
   have s26 := ju g_data s1.1 s1.2 (IntKind.i64.wrap (b - a)) a _ h26
   obtain ⟨_,q26_0,H⟩ := ax H
   have l26_0 := (bI q26_0).1
   have z26_0 : (List.map aB s1.1).length = (List.map aB x26).length := by simpa using (l26_0).symm
   refine ci (g := 165) rfl rfl rfl Tryz.call165 [] [(0,0)] rfl rfl rfl rfl (iR.of2 (iG.cons (PLe2.own rfl) (iG.cons (PLe2.of_eq rfl) (iG.cons (PLe2.of_eq rfl) (iG.cons (PLe2.of_eq rfl) iG.nil))))) (by rw [bS,bJ,bR]; rfl) s26 ?_
   rintro u26 H26h ⟨rfl,rfl⟩
   refine ⟨_,rfl,?_⟩
   refine cw (st' := ⟨_,_,fun _=>none,upd (fun _=>none) 0 (some ⟨g_data,9,(x26.map aB),true⟩)⟩) (Gh.le (bQ _ _) ah (ay ag)) ?_
   refine af (aR (bm 3 tk rfl ?_))
   obtain rfl := am H
   refine aK (x26,(IntKind.i64.wrap (s1.2 - (1 : Int)))) () hg1 (Gh.le (aH (PLe.of2 (PLe2.of_eq (congrArg (PV.own 0 g_data) z26_0))) (aa (aa (aa (aa aj))))) ah (ay ag))
  refine aO rfl ?_
  obtain rfl := am H
  refine aQ (s1.1,s1.2) () hg1 (Gh.le (aa (aa (aa (aa aj)))) ah (ay ag))
 have H := bn hn1 Hp1
 refine aw 3 tk rfl ?_
 obtain ⟨fl2,H2,Hp2⟩ := ax H
 refine aY (τ := List (List UInt8) × Int) (γ := Unit) (fun s2 g2=>⟨56,upd (fun _=>.any) 0 (.own 0 g_data (s2.1.map aB).length),fun _=>none,upd (fun _=>none) 0 (some ⟨g_data,9,(s2.1.map aB),true⟩)⟩) (fun t=>fl2 = .next t) ?_ (fun s2 g2 hn2=>?_)
 ·refine az ?_
  refine cA (fun s2 g2=>⟨56,upd (upd (upd (upd (fun _=>.any) 10 (ae s2.2)) 7 (ae 0)) 6 (ae a)) 0 (.own 0 g_data (s2.1.map aB).length),fun _=>none,upd (fun _=>none) 0 (some ⟨g_data,9,(s2.1.map aB),true⟩)⟩) () H2 (Gh.le (aa (aa (aa (aa aj)))) ah (ay ag)) (fun m2 s2 g2 hr2=>?_)
  obtain ⟨fb2,H,hg2⟩ := bZ hr2
  refine ab (aw 2 tk rfl ?_)
  refine aP rfl H (fun H=>?_) (fun H=>?_)
  ·refine av (ab (az (ab ?_)))
   refine cK (tag := 0) rfl (fun ho0=>?_)
   refine bo tk mok ⟨false,true,[]⟩ [0,1,2,3,4,5,6,7,8,9,10,11,12,13,14,15,16,17,18,19] rfl (by decide +kernel) rfl (aL 10 rfl ?_)
   obtain ⟨x43,k43,H⟩ := aX H
   refine aS tk ⟨k43.1,(bl k43.2)⟩ (bi ho0 k43.2) ?_
   refine bd tk (aI (fun _=>rfl) k43.2) ?_
   refine aL 2 rfl ?_
   obtain ⟨x47,k47,H⟩ := aX H
   refine aS tk ⟨k47.1,(bl k47.2)⟩ (bi ho0 k47.2) ?_
   refine bd tk (aI (fun _=>rfl) k47.2) ?_
   obtain ⟨x49,k49,H⟩ := aX H
   refine aS tk ⟨k49.1,(bl k49.2)⟩ (bi ho0 k49.2) ?_
   obtain ⟨y7,hy7,H⟩ := bw H
   refine cg tk rfl rfl rfl rfl rfl rfl rfl rfl rfl (by rw [zl]; exact (zg.1 k49.2).1) (PLe.refl _ _) rfl rfl rfl rfl (by decide) (bG (fun _=>rfl) k49.2 rfl hy7) ?_
   obtain ⟨x50,k50,H⟩ := aX H
   refine aS tk ⟨k50.1,(gg (bq (f := aB) hy7) k50.2)⟩ (gc ho0 (bq (f := aB) hy7) k50.2) ?_
   obtain ⟨y8,hy8,H⟩ := bw H
   refine cg tk rfl rfl rfl rfl rfl rfl rfl rfl rfl (by rw [zl]; exact (zg.1 k50.2).1) (PLe.refl _ _) rfl rfl rfl rfl (by decide) (bG (fun _=>rfl) k50.2 rfl hy8) ?_
   refine bh (ac (al 4 tk rfl ?_))
   obtain ⟨x55,h55,H⟩ := ax H
   have s55 := ju g_data y8 0 s2.2 a _ h55
   obtain ⟨_,q55_0,H⟩ := ax H
   have l55_0 := (bI q55_0).1
   have z55_0 : (List.map aB y8).length = (List.map aB x55).length := by simpa using (l55_0).symm
   refine ci (g := 165) rfl rfl rfl Tryz.call165 [] [(0,0)] rfl rfl rfl rfl (iR.of2 (iG.cons (PLe2.own ((bq (f := aB) hy7).trans (bq (f := aB) hy8))) (iG.cons (PLe2.of_eq rfl) (iG.cons (PLe2.of_eq rfl) (iG.cons (PLe2.of_eq rfl) iG.nil))))) (by rw [bS,bJ,bR]; rfl) s55 ?_
   rintro u55 H55h ⟨rfl,rfl⟩
   refine ⟨_,rfl,?_⟩
   refine cw (st' := ⟨_,_,fun _=>none,upd (fun _=>none) 0 (some ⟨g_data,9,(x55.map aB),true⟩)⟩) (Gh.le (bQ _ _) ah (ay ag)) ?_
   refine af (aR (bm 3 tk rfl ?_))
   obtain rfl := am H
   refine aK (x55,(IntKind.i64.wrap (s2.2 - (1 : Int)))) () hg2 (Gh.le (aH (PLe.of2 (PLe2.of_eq (congrArg (PV.own 0 g_data) (((bq (f := aB) hy7).trans (bq (f := aB) hy8)).trans z55_0)))) (aa (aa (aa aj)))) ah (ay ag))
  refine aO rfl ?_
  obtain rfl := am H
  refine aQ (s2.1,s2.2) () hg2 (Gh.le (aa aj) ah (ay ag))
 have H := bn hn2 Hp2
 obtain rfl := am H
 refine dq (st' := ⟨56,fun _=>.any,fun _=>none,upd (fun _=>none) 0 (some ⟨g_data,9,(s2.1.map aB),true⟩)⟩) (Gh.le aj ah (ay ag)) ?_
 refine iy rfl (PLe.q rfl) ⟨rfl,rfl⟩
def dF (data : List (List UInt8)) (a : Int) (b : Int) : Option ((List (List UInt8))) :=
 cond (decide ((IntKind.i64.wrap (b - a)) ≥ (8 : Int)))
  (ai (gj (IntKind.i64.wrap (b - a))) fun x19 =>
  ai (whileM (σ := List (List UInt8) × Int × Int) (ρ := Empty) (fun (s1 : List (List UInt8) × Int × Int) =>
   cond (decide (s1.2.1 ≤ (IntKind.i64.wrap ((IntKind.i64.wrap (a + (IntKind.i64.wrap ((IntKind.i64.wrap (Int.tdiv (IntKind.i64.wrap (b - a)) (4 : Int))) * (2 : Int))))) + (1 : Int)))))
    (ai (ir s1.2.2) fun x36 =>
    bf (
     cond (decide ((IntKind.i64.wrap (andI .u64 x36.1 (IntKind.u64.wrap (x19 - (1 : Int))))) ≥ (IntKind.i64.wrap (b - a))))
      ((s1.1,(IntKind.i64.wrap ((IntKind.i64.wrap (andI .u64 x36.1 (IntKind.u64.wrap (x19 - (1 : Int))))) - (IntKind.i64.wrap (b - a))))))
      ((s1.1,(IntKind.i64.wrap (andI .u64 x36.1 (IntKind.u64.wrap (x19 - (1 : Int)))))))) fun (t8 : List (List UInt8) × Int) =>
    ai (aG t8.1 (IntKind.i64.wrap (a + t8.2))) fun (x57 : List UInt8) =>
    ai (aG t8.1 s1.2.1) fun (x61 : List UInt8) =>
    ai (aG t8.1 s1.2.1) fun (_ : List UInt8) =>
    bf (t8.1.set s1.2.1.toNat x57) fun (y9 : List (List UInt8)) =>
    ai (aG y9 (IntKind.i64.wrap (a + t8.2))) fun (_ : List UInt8) =>
    bf (y9.set ((IntKind.i64.wrap (a + t8.2)).toNat) x61) fun (y10 : List (List UInt8)) =>
    some (.next (y10,(IntKind.i64.wrap (s1.2.1 + (1 : Int))),x36.2)))
    (some (.brk (s1.1,s1.2.1,s1.2.2)))) (data,(IntKind.i64.wrap ((IntKind.i64.wrap (a + (IntKind.i64.wrap ((IntKind.i64.wrap (Int.tdiv (IntKind.i64.wrap (b - a)) (4 : Int))) * (2 : Int))))) - (1 : Int))),(IntKind.u64.wrap (IntKind.i64.wrap (b - a))))) fun fl1=>fl1.thenP fun (s1 : List (List UInt8) × Int × Int) =>
  some s1.1)
  (some data)
theorem kJ (g_data : OwnRef) (data : List (List UInt8)) (a : Int) (b : Int) (r : (List (List UInt8))) (H : dF data a b = some r) :
  PH Tryz.prog 126 [(.own 0 g_data (data.map aB).length),(ae a),(ae b)] ⟨fun _=>none,upd (fun _=>none) 0 (some ⟨g_data,9,(data.map aB),true⟩)⟩ (fun u H=>u = (.tup []) ∧ H = ⟨fun _=>none,upd (fun _=>none) 0 (some ⟨g_data,9,(r.map aB),true⟩)⟩) := by
 unfold dF at H
 refine PH.aD Tryz.func126 Tryz.ntmps126 ?_
 refine aw 4 tk rfl (aw 2 tk rfl ?_)
 refine aP rfl H (fun H=>?_) (fun H=>?_)
 ·refine ab (ac (al 2 tk rfl ?_))
  refine bu tk fun b7=>?_
  refine aE tk ?_
  refine af (ab (ac (ao tk rfl ?_)))
  obtain ⟨x19,h19,H⟩ := ax H
  have s19 := oM (IntKind.i64.wrap (b - a)) _ h19
  refine aq Tryz.call161 (iR.r) s19 ?_
  refine ao tk rfl (af (aw 7 tk rfl ?_))
  obtain ⟨fl1,H1,Hp1⟩ := ax H
  refine aY (τ := List (List UInt8) × Int × Int) (γ := Unit) (fun s1 g1=>⟨65,upd (fun _=>.any) 0 (.own 0 g_data (s1.1.map aB).length),fun _=>none,upd (fun _=>none) 0 (some ⟨g_data,9,(s1.1.map aB),true⟩)⟩) (fun t=>fl1 = .next t) ?_ (fun s1 g1 hn1=>?_)
  ·refine az ?_
   refine cA (fun s1 g1=>⟨65,upd (upd (upd (upd (upd (upd (fun _=>.any) 9 (ae s1.2.1)) 8 (.val (.int .u64 x19))) 7 (.box 7 b7 0)) 6 (ae (IntKind.i64.wrap (b - a)))) 1 (ae a)) 0 (.own 0 g_data (s1.1.map aB).length),upd (fun _=>none) 7 (some ⟨b7,[(.val (.int .u64 s1.2.2))]⟩),upd (fun _=>none) 0 (some ⟨g_data,9,(s1.1.map aB),true⟩)⟩) () H1 (Gh.le (aa (aa (aa (aa (aa (aa aj)))))) (aA rfl (iR.r) ah) (ay ag)) (fun m1 s1 g1 hr1=>?_)
   obtain ⟨fb1,H,hg1⟩ := bZ hr1
   refine ab (aw 8 tk rfl ?_)
   refine aP rfl H (fun H=>?_) (fun H=>?_)
   ·refine av (ab (az (ab (ac ?_))))
    obtain ⟨x36,h36,H⟩ := ax H
    have s36 := pp b7 s1.2.2 _ h36
    refine ci (g := 162) rfl rfl rfl Tryz.call162 [(7,1500)] [] rfl rfl rfl rfl (iR.of2 (iG.cons PLe2.boxT iG.nil)) (by rw [dp,bS,bR]; rfl) s36 ?_
    rintro u36 H36h ⟨rfl,rfl⟩
    refine ⟨_,rfl,?_⟩
    refine cw (st' := ⟨_,_,upd (fun _=>none) 7 (some ⟨b7,[(.val (.int .u64 x36.2))]⟩),upd (fun _=>none) 0 (some ⟨g_data,9,(s1.1.map aB),true⟩)⟩) (Gh.le (bQ _ _) (aA rfl (iR.r) ah) (ay ag)) ?_
    refine al 2 tk rfl (Ao.and rfl rfl rfl rfl rfl (al 2 tk rfl (af (ab (aw 3 tk rfl ?_)))))
    obtain ⟨fl8,H8,Hp8⟩ := bw H
    refine aY (τ := List (List UInt8) × Int) (γ := Unit) (fun t8 g8=>⟨65,upd (upd (upd (upd (upd (upd (upd (fun _=>.any) 10 (ae t8.2)) 9 (ae s1.2.1)) 8 (.val (.int .u64 x19))) 7 (.box 7 b7 0)) 6 (ae (IntKind.i64.wrap (b - a)))) 1 (ae a)) 0 (.own 0 g_data (t8.1.map aB).length),upd (fun _=>none) 7 (some ⟨b7,[(.val (.int .u64 x36.2))]⟩),upd (fun _=>none) 0 (some ⟨g_data,9,(t8.1.map aB),true⟩)⟩) (fun t=>t = fl8) ?_ (fun t8 g8 hn8=>?_)
    ·have H := H8
     refine aP rfl H (fun H=>?_) (fun H=>?_)
     ·refine bm 4 tk rfl ?_
      subst H
      refine aQ (s1.1,(IntKind.i64.wrap ((IntKind.i64.wrap (andI .u64 x36.1 (IntKind.u64.wrap (x19 - (1 : Int))))) - (IntKind.i64.wrap (b - a))))) () rfl (Gh.le (aa (aa (aa (aa (aa (aa (aa aj))))))) (aA rfl (iR.r) ah) (ay ag))
     refine av ?_
     subst H
     refine aQ (s1.1,(IntKind.i64.wrap (andI .u64 x36.1 (IntKind.u64.wrap (x19 - (1 : Int)))))) () rfl (Gh.le (aa (aa (aa (aa (aa (aa (aa aj))))))) (aA rfl (iR.r) ah) (ay ag))
    subst hn8
    have H := Hp8
    refine cK (tag := 0) rfl (fun ho0=>?_)
    refine bo tk mok ⟨false,true,[]⟩ [0,1,2,3,4,5,6,7,8,9,10,11,12,13,14,15,16,17,18,19] rfl (by decide +kernel) rfl (aL 10 rfl ?_)
    obtain ⟨x57,k57,H⟩ := aX H
    refine aS tk ⟨k57.1,(bl k57.2)⟩ (bi ho0 k57.2) ?_
    refine bd tk (aI (fun _=>rfl) k57.2) ?_
    refine aL 2 rfl ?_
    obtain ⟨x61,k61,H⟩ := aX H
    refine aS tk ⟨k61.1,(bl k61.2)⟩ (bi ho0 k61.2) ?_
    refine bd tk (aI (fun _=>rfl) k61.2) ?_
    obtain ⟨x63,k63,H⟩ := aX H
    refine aS tk ⟨k63.1,(bl k63.2)⟩ (bi ho0 k63.2) ?_
    obtain ⟨y9,hy9,H⟩ := bw H
    refine cg tk rfl rfl rfl rfl rfl rfl rfl rfl rfl (by rw [zl]; exact (zg.1 k63.2).1) (PLe.refl _ _) rfl rfl rfl rfl (by decide) (bG (fun _=>rfl) k63.2 rfl hy9) ?_
    obtain ⟨x64,k64,H⟩ := aX H
    refine aS tk ⟨k64.1,(gg (bq (f := aB) hy9) k64.2)⟩ (gc ho0 (bq (f := aB) hy9) k64.2) ?_
    obtain ⟨y10,hy10,H⟩ := bw H
    refine cg tk rfl rfl rfl rfl rfl rfl rfl rfl rfl (by rw [zl]; exact (zg.1 k64.2).1) (PLe.refl _ _) rfl rfl rfl rfl (by decide) (bG (fun _=>rfl) k64.2 rfl hy10) ?_
    refine bh (aR (bm 3 tk rfl ?_))
    obtain rfl := am H
    refine aK (y10,(IntKind.i64.wrap (s1.2.1 + (1 : Int))),x36.2) () hg1 (Gh.le (aH (PLe.of2 (PLe2.of_eq (congrArg (PV.own 0 g_data) ((bq (f := aB) hy9).trans (bq (f := aB) hy10))))) (aa (aa (aa (aa (aa aj)))))) (aA rfl (iR.r) ah) (ay ag))
   refine aO rfl ?_
   obtain rfl := am H
   refine aQ (s1.1,s1.2.1,s1.2.2) () hg1 (Gh.le (aa aj) ah (ay ag))
  have H := bn hn1 Hp1
  obtain rfl := am H
  refine dq (st' := ⟨65,fun _=>.any,fun _=>none,upd (fun _=>none) 0 (some ⟨g_data,9,(s1.1.map aB),true⟩)⟩) (Gh.le aj ah (ay ag)) ?_
  refine iy rfl (PLe.q rfl) ⟨rfl,rfl⟩
 refine av ?_
 obtain rfl := am H
 refine dq (st' := ⟨65,fun _=>.any,fun _=>none,upd (fun _=>none) 0 (some ⟨g_data,9,(data.map aB),true⟩)⟩) (Gh.le aj ah (ay ag)) ?_
 refine iy rfl (PLe.q rfl) ⟨rfl,rfl⟩
def dm (data : List (List UInt8)) (a : Int) (b : Int) (c : Int) (swaps : Int) : Option (Int × (List (List UInt8)) × Int) :=
 ai (dl data a b swaps) fun x16 =>
 ai (cE (x16.2.2.1.length = data.length) ()) fun (_ : Unit) =>
 ai (dl x16.2.2.1 x16.2.1 c x16.2.2.2) fun x24 =>
 ai (cE (x24.2.2.1.length = x16.2.2.1.length) ()) fun (_ : Unit) =>
 ai (dl x24.2.2.1 x16.1 x24.1 x24.2.2.2) fun x32 =>
 ai (cE (x32.2.2.1.length = x24.2.2.1.length) ()) fun (_ : Unit) =>
 some (x32.2.1,x32.2.2.1,x32.2.2.2)
theorem gZ (g_data : OwnRef) (b_swaps : Nat) (data : List (List UInt8)) (a : Int) (b : Int) (c : Int) (swaps : Int) (r : Int × (List (List UInt8)) × Int) (H : dm data a b c swaps = some r) :
  PH Tryz.prog 167 [(.own 0 g_data (data.map aB).length),(ae a),(ae b),(ae c),(.box 1504 b_swaps 0)] ⟨upd (fun _=>none) 1504 (some ⟨b_swaps,[(ae swaps)]⟩),upd (fun _=>none) 0 (some ⟨g_data,9,(data.map aB),true⟩)⟩ (fun u H=>u = (ae r.1) ∧ H = ⟨upd (fun _=>none) 1504 (some ⟨b_swaps,[(ae r.2.2)]⟩),upd (fun _=>none) 0 (some ⟨g_data,9,(r.2.1.map aB),true⟩)⟩) := by
 unfold dm at H
 refine PH.aD Tryz.func167 Tryz.ntmps167 ?_
 refine aw 1 tk rfl (ab (ac (al 4 tk rfl ?_)))
 obtain ⟨x16,h16,H⟩ := ax H
 have s16 := gY g_data b_swaps data a b swaps _ h16
 obtain ⟨_,q16_0,H⟩ := ax H
 have l16_0 := (bI q16_0).1
 have z16_0 : (List.map aB data).length = (List.map aB x16.2.2.1).length := by simpa using (l16_0).symm
 refine ci (g := 185) rfl rfl rfl Tryz.call185 [(1504,1503)] [(0,0)] rfl rfl rfl rfl (iR.of2 (iG.cons (PLe2.own rfl) (iG.cons (PLe2.of_eq rfl) (iG.cons (PLe2.of_eq rfl) (iG.cons PLe2.boxT iG.nil))))) (by rw [dp,bS,bJ,bR]; rfl) s16 ?_
 rintro u16 H16h ⟨rfl,rfl⟩
 refine ⟨_,rfl,?_⟩
 refine cw (st' := ⟨_,_,upd (fun _=>none) 1504 (some ⟨b_swaps,[(ae x16.2.2.2)]⟩),upd (fun _=>none) 0 (some ⟨g_data,9,(x16.2.2.1.map aB),true⟩)⟩) (Gh.le (bQ _ _) (aA rfl (iR.r) ah) (ay ag)) ?_
 refine al 5 tk rfl (af (ab (ac (al 4 tk rfl ?_))))
 obtain ⟨x24,h24,H⟩ := ax H
 have s24 := gY g_data b_swaps x16.2.2.1 x16.2.1 c x16.2.2.2 _ h24
 obtain ⟨_,q24_0,H⟩ := ax H
 have l24_0 := (bI q24_0).1
 have z24_0 : (List.map aB x16.2.2.1).length = (List.map aB x24.2.2.1).length := by simpa using (l24_0).symm
 refine ci (g := 185) rfl rfl rfl Tryz.call185 [(1504,1503)] [(0,0)] rfl rfl rfl rfl (iR.of2 (iG.cons (PLe2.own z16_0) (iG.cons (PLe2.of_eq rfl) (iG.cons (PLe2.of_eq rfl) (iG.cons PLe2.boxT iG.nil))))) (by rw [dp,bS,bJ,bR]; rfl) s24 ?_
 rintro u24 H24h ⟨rfl,rfl⟩
 refine ⟨_,rfl,?_⟩
 refine cw (st' := ⟨_,_,upd (fun _=>none) 1504 (some ⟨b_swaps,[(ae x24.2.2.2)]⟩),upd (fun _=>none) 0 (some ⟨g_data,9,(x24.2.2.1.map aB),true⟩)⟩) (Gh.le (bQ _ _) (aA rfl (iR.r) ah) (ay ag)) ?_
 refine al 5 tk rfl (af (ab (ac (al 4 tk rfl ?_))))
 obtain ⟨x32,h32,H⟩ := ax H
 have s32 := gY g_data b_swaps x24.2.2.1 x16.1 x24.1 x24.2.2.2 _ h32
 obtain ⟨_,q32_0,H⟩ := ax H
 have l32_0 := (bI q32_0).1
 have z32_0 : (List.map aB x24.2.2.1).length = (List.map aB x32.2.2.1).length := by simpa using (l32_0).symm
 refine ci (g := 185) rfl rfl rfl Tryz.call185 [(1504,1503)] [(0,0)] rfl rfl rfl rfl (iR.of2 (iG.cons (PLe2.own (z16_0.trans z24_0)) (iG.cons (PLe2.of_eq rfl) (iG.cons (PLe2.of_eq rfl) (iG.cons PLe2.boxT iG.nil))))) (by rw [dp,bS,bJ,bR]; rfl) s32 ?_
 rintro u32 H32h ⟨rfl,rfl⟩
 refine ⟨_,rfl,?_⟩
 refine cw (st' := ⟨_,_,upd (fun _=>none) 1504 (some ⟨b_swaps,[(ae x32.2.2.2)]⟩),upd (fun _=>none) 0 (some ⟨g_data,9,(x32.2.2.1.map aB),true⟩)⟩) (Gh.le (bQ _ _) (aA rfl (iR.r) ah) (ay ag)) ?_
 refine al 5 tk rfl (af (aw 2 tk rfl ?_))
 obtain rfl := am H
 refine dq (st' := ⟨36,upd (fun _=>.any) 10 (ae x32.2.1),upd (fun _=>none) 1504 (some ⟨b_swaps,[(ae x32.2.2.2)]⟩),upd (fun _=>none) 0 (some ⟨g_data,9,(x32.2.2.1.map aB),true⟩)⟩) (Gh.le (aa aj) (aA rfl (iR.r) ah) (ay ag)) ?_
 refine eH tk rfl (ps := [(ae x32.2.1)]) ⟨_,_,rfl,rfl,rfl⟩ (PLe.q rfl) ⟨rfl,rfl⟩
def eY (c : LChecker) (q : LQuery) (inA : List LCol) : Option ((List LCol) × Int) :=
 ai (aW (σ := List LCol) (ρ := ((List LCol) × Int)) (fun (j1 : Nat) (x1 : LExpr) (s1 : List LCol) =>
  bf (du inA c.vars x1) fun x31 =>
  ai (aG q.names (j1 : Int)) fun (x39 : List UInt8) =>
  bf (dN x39) fun x41 =>
  cond (!x41)
   (some (.ret ([],3)))
   (cond (x31.2.2 != (0 : Int))
    (some (.ret ([],x31.2.2)))
    (cond (x31.1 == (0 : Int))
     (some (.ret ([],7)))
     (ai (aG q.names (j1 : Int)) fun (x54 : List UInt8) =>
     ai (dT 32 s1 ([(LCol.mk x54 x31.1 x31.2.1)] : List LCol)) fun (x60 : List LCol) =>
     some (.next x60))))) 0 q.exprs []) fun fl1=>fl1.thenR fun (s1 : List LCol) =>
 ai (aW (σ := List LCol) (ρ := ((List LCol) × Int)) (fun (_ : Nat) (x2 : LAggregateCall) (s2 : List LCol) =>
  ai (gw c inA x2) fun x73 =>
  cond (x73.2 != (0 : Int))
   (some (.ret ([],x73.2)))
   (ai (dT 32 s2 ([(LCol.mk x2.name x73.1 (!(x2.function == ([99,111,117,110,116] : List UInt8))))] : List LCol)) fun (x88 : List LCol) =>
   some (.next x88))) 0 q.aggregates s1) fun fl2=>fl2.thenR fun (s2 : List LCol) =>
 some (s2,0)
theorem mG (c : LChecker) (q : LQuery) (inA : List LCol) (r : (List LCol) × Int) (H : eY c q inA = some r) :
  bc Tryz.prog 158 [(.agg (jD c)),(.agg (bE q)),(.list 50 (inA.map aJ))] (.tup [(.list 50 (r.1.map aJ)),(ae r.2)]) := by
 unfold eY at H
 refine PH.aD Tryz.func158 Tryz.ntmps158 ?_
 refine ab (ac (aV ?_))
 refine aV ?_
 refine al 2 tk rfl (af (aw 1 tk rfl (ab (ab (ac (al 2 tk rfl (aN tk (zl _) ?_)))))))
 refine ao tk rfl (af ?_)
 obtain ⟨fl1,H1,Hp1⟩ := ax H
 refine bP tk 19 rfl rfl (fun hz1 _=>?_)
 rw [zl] at hz1
 refine aY (τ := List LCol) (γ := OwnRef) (fun s1 g1=>⟨91,upd (upd (upd (upd (fun _=>.any) 8 (.own 60 g1 (s1.map aJ).length)) 4 (.ptr [(ae q.kind),(.str q.table),(.list 9 (q.names.map aB)),(.list 56 (q.exprs.map bg)),(.list 66 (q.aggregates.map cn)),(.list 4 (q.descending.map cz)),(ae q.count),(ae q.offset),(.list 35 (q.inputs.map ba))])) 3 (.ptr [(.list 91 (c.s.tables.map bv)),(.list 142 (c.s.foreignKeys.map cy)),(.list 148 (c.s.constraints.map cJ)),(.list 50 (c.vars.map aJ))])) 2 (.list 50 (inA.map aJ)),fun _=>none,upd (fun _=>none) 60 (some ⟨g1,50,(s1.map aJ),true⟩)⟩) (fun t=>fl1 = .next t) ?_ (fun s1 g1 hn1=>?_)
 ·refine az (ic tk 8 60 (e := 50) rfl rfl ?_)
  refine bC (fun j1 s1 g1=>⟨91,upd (upd (upd (upd (upd (upd (upd (fun _=>.any) 21 (ae (j1 : Int))) 20 (ae (q.exprs.length : Int))) 19 (.list 56 (q.exprs.map bg))) 8 (.own 60 g1 (s1.map aJ).length)) 4 (.ptr [(ae q.kind),(.str q.table),(.list 9 (q.names.map aB)),(.list 56 (q.exprs.map bg)),(.list 66 (q.aggregates.map cn)),(.list 4 (q.descending.map cz)),(ae q.count),(ae q.offset),(.list 35 (q.inputs.map ba))])) 3 (.ptr [(.list 91 (c.s.tables.map bv)),(.list 142 (c.s.foreignKeys.map cy)),(.list 148 (c.s.constraints.map cJ)),(.list 50 (c.vars.map aJ))])) 2 (.list 50 (inA.map aJ)),fun _=>none,upd (fun _=>none) 60 (some ⟨g1,50,(s1.map aJ),true⟩)⟩) (⟨none,0⟩) H1 (Gh.le (aa (aa (aa (aa (aa (aa (aa aj))))))) ah (ay ag)) (fun j1 s1 g1 hj1 hr1=>?_)
  refine aw 1 tk rfl (ab ?_)
  refine aZ rfl (fun h=>?_) (fun h=>?_)
  ·have hl1 := co h
   obtain ⟨x1,fb1,hx1,H,hg1⟩ := rMc hl1 hr1
   refine av (ab (az (ab (ac (ao tk rfl (bs tk (zn j1) (bO eT hx1) ?_))))))
   refine ao tk rfl ?_
   refine bu tk fun b10=>?_
   refine ao tk rfl (aE tk ?_)
   refine af (ab (ac (al 3 tk rfl (aT tk ?_))))
   obtain ⟨x31,h31,H⟩ := bw H
   have s31 := mQ inA c.vars x1
   rw [h31] at s31
   refine aq Tryz.call159 (iR.r) s31 ?_
   refine al 7 tk rfl (af (ab (az (ab (ac (al 3 tk rfl ?_))))))
   obtain ⟨x39,k39,H⟩ := aX H
   refine bs tk k39.1 (aI (fun _=>rfl) k39.2) ?_
   refine ao tk rfl ?_
   obtain ⟨x41,h41,H⟩ := bw H
   have s41 := mu x39
   rw [h41] at s41
   refine aq Tryz.call180 (iR.r) s41 ?_
   refine al 2 tk rfl (af ?_)
   refine aP rfl H (fun H=>?_) (fun H=>?_)
   ·refine aw 2 tk rfl ?_
    obtain rfl := am H
    have e1 : fl1 = .ret _ := hg1
    subst e1
    obtain rfl := bp Hp1
    refine aC tk rfl (ps := [(.val (.slice none 0 0)),(ae 3)]) ⟨_,_,rfl,rfl,_,_,rfl,rfl,rfl⟩ (PLe.of2 (PLe2.tup (iG.cons (PLe2.nil tk rfl) (iG.cons (PLe2.of_eq rfl) iG.nil))))
   refine aw 3 tk rfl ?_
   refine aP rfl H (fun H=>?_) (fun H=>?_)
   ·refine aw 3 tk rfl ?_
    obtain rfl := am H
    have e1 : fl1 = .ret _ := hg1
    subst e1
    obtain rfl := bp Hp1
    refine aC tk rfl (ps := [(.val (.slice none 0 0)),(ae x31.2.2)]) ⟨_,_,rfl,rfl,_,_,rfl,rfl,rfl⟩ (PLe.of2 (PLe2.tup (iG.cons (PLe2.nil tk rfl) (iG.cons (PLe2.of_eq rfl) iG.nil))))
   refine aw 3 tk rfl ?_
   refine aP rfl H (fun H=>?_) (fun H=>?_)
   ·refine aw 2 tk rfl ?_
    obtain rfl := am H
    have e1 : fl1 = .ret _ := hg1
    subst e1
    obtain rfl := bp Hp1
    refine aC tk rfl (ps := [(.val (.slice none 0 0)),(ae 7)]) ⟨_,_,rfl,rfl,_,_,rfl,rfl,rfl⟩ (PLe.of2 (PLe2.tup (iG.cons (PLe2.nil tk rfl) (iG.cons (PLe2.of_eq rfl) iG.nil))))
   refine av (aR (ac (al 4 tk rfl ?_)))
   obtain ⟨x54,k54,H⟩ := aX H
   refine bs tk k54.1 (aI (fun _=>rfl) k54.2) ?_
   refine al 4 tk rfl (cQ tk (rows' := List.map aJ ([(LCol.mk x54 x31.1 x31.2.1)] : List LCol)) (kj.refl _) ?_)
   obtain ⟨x60,h60,H⟩ := ax H
   have k60 := cY h60
   refine cZ (rows2' := List.map aJ ([(LCol.mk x54 x31.1 x31.2.1)] : List LCol)) (rows' := List.map aJ x60) tk rfl rfl rfl rfl rfl rfl rfl rfl rfl rfl rfl rfl rfl (kj.refl _) (et k60.1) (ew k60.2.1) (ez k60.2.2) fun g60=>?_
   refine ao tk rfl (af (aR (bm 2 tk rfl ?_)))
   obtain rfl := am H
   refine aK x60 g60 ⟨hl1,hg1⟩ (Gh.le (aa (aa (aa (aa (aa (aa (aH (PLe.q (aU (by omega))) aj))))))) ah (ay ag))
  have hn1 := rMd (cp h) hr1
  refine aO rfl ?_
  refine aQ s1 g1 hn1 (Gh.le (aa (aa (aa (aa aj)))) ah (ay ag))
 have H := cl hn1 Hp1
 refine ab (ab (ac (al 2 tk rfl (aN tk (zl _) ?_))))
 refine ao tk rfl (af ?_)
 obtain ⟨fl2,H2,Hp2⟩ := ax H
 refine bP tk 63 rfl rfl (fun hz2 _=>?_)
 rw [zl] at hz2
 refine aY (τ := List LCol) (γ := OwnRef) (fun s2 g2=>⟨91,upd (fun _=>.any) 8 (.own 60 g2 (s2.map aJ).length),fun _=>none,upd (fun _=>none) 60 (some ⟨g2,50,(s2.map aJ),true⟩)⟩) (fun t=>fl2 = .next t) ?_ (fun s2 g2 hn2=>?_)
 ·refine az ?_
  refine bC (fun j2 s2 g2=>⟨91,upd (upd (upd (upd (upd (upd (fun _=>.any) 65 (ae (j2 : Int))) 64 (ae (q.aggregates.length : Int))) 63 (.list 66 (q.aggregates.map cn))) 8 (.own 60 g2 (s2.map aJ).length)) 3 (.ptr [(.list 91 (c.s.tables.map bv)),(.list 142 (c.s.foreignKeys.map cy)),(.list 148 (c.s.constraints.map cJ)),(.list 50 (c.vars.map aJ))])) 2 (.list 50 (inA.map aJ)),fun _=>none,upd (fun _=>none) 60 (some ⟨g2,50,(s2.map aJ),true⟩)⟩) g1 H2 (Gh.le (aa (aa (aa (aa (aa (aa aj)))))) ah (ay ag)) (fun j2 s2 g2 hj2 hr2=>?_)
  refine aw 1 tk rfl (ab ?_)
  refine aZ rfl (fun h=>?_) (fun h=>?_)
  ·have hl2 := co h
   obtain ⟨x2,fb2,hx2,H,hg2⟩ := rMc hl2 hr2
   refine av (ab (az (ab (ac ?_))))
   refine bs tk (zn j2) (bO (fun _=>rfl) hx2) ?_
   refine ao tk rfl ?_
   refine bu tk fun b15=>?_
   refine aE tk ?_
   refine af (ab (ac (al 2 tk rfl (aT tk ?_))))
   obtain ⟨x73,h73,H⟩ := ax H
   have s73 := qI c inA x2 _ h73
   refine aq Tryz.call181 (iR.r) s73 ?_
   refine al 5 tk rfl (af (ab (aw 2 tk rfl ?_)))
   refine aP rfl H (fun H=>?_) (fun H=>?_)
   ·refine aw 3 tk rfl ?_
    obtain rfl := am H
    have e2 : fl2 = .ret _ := hg2
    subst e2
    obtain rfl := bp Hp2
    refine aC tk rfl (ps := [(.val (.slice none 0 0)),(ae x73.2)]) ⟨_,_,rfl,rfl,_,_,rfl,rfl,rfl⟩ (PLe.of2 (PLe2.tup (iG.cons (PLe2.nil tk rfl) (iG.cons (PLe2.of_eq rfl) iG.nil))))
   refine av (ac (al 2 tk rfl (aT tk ?_)))
   refine al 2 tk rfl (aT tk ?_)
   refine al 2 tk rfl ?_
   refine cQ tk (rows' := List.map aJ ([(LCol.mk x2.name x73.1 (!(x2.function == ([99,111,117,110,116] : List UInt8))))] : List LCol)) (kj.refl _) ?_
   obtain ⟨x88,h88,H⟩ := ax H
   have k88 := cY h88
   refine cZ (rows2' := List.map aJ ([(LCol.mk x2.name x73.1 (!(x2.function == ([99,111,117,110,116] : List UInt8))))] : List LCol)) (rows' := List.map aJ x88) tk rfl rfl rfl rfl rfl rfl rfl rfl rfl rfl rfl rfl rfl (kj.refl _) (et k88.1) (ew k88.2.1) (ez k88.2.2) fun g88=>?_
   refine ao tk rfl (af (aR (bm 2 tk rfl ?_)))
   obtain rfl := am H
   refine aK x88 g88 ⟨hl2,hg2⟩ (Gh.le (aa (aa (aa (aa (aa (aH (PLe.q (aU (by omega))) aj)))))) ah (ay ag))
  have hn2 := rMd (cp h) hr2
  refine aO rfl ?_
  refine aQ s2 g2 hn2 (Gh.le (aa aj) ah (ay ag))
 have H := cl hn2 Hp2
 refine aw 3 tk rfl ?_
 obtain rfl := am H
 refine dX 6 rfl rfl rfl ?_
 refine aC tk rfl (ps := [(.list 50 (s2.map aJ)),(ae 0)]) ⟨_,_,rfl,rfl,_,_,rfl,rfl,rfl⟩ (PLe.q rfl)
def dr (sA : LSchema) (inst : List LRelation) : Option (Int) :=
 cond ((inst.length : Int) != (sA.tables.length : Int))
  (some 3)
  (ai (aW (σ := Unit) (ρ := (Int)) (fun (j1 : Nat) (x1 : LRelation) (_ : Unit) =>
   ai (aG sA.tables (j1 : Int)) fun (x28 : LTable) =>
   cond (!(x1.table == x28.name))
    (some (.ret 3))
    (cond (decide ((x1.rows.length : Int) > (24 : Int)))
     (some (.ret 2))
     (ai (aW (σ := Unit) (ρ := (Int)) (fun (j3 : Nat) (x3 : Rq) (_ : Unit) =>
      ai (dY x28 x3) fun x49 =>
      cond (x49 != (0 : Int))
       (some (.ret x49))
       (cond ((j3 : Int) == (0 : Int))
        (some (.next ()))
        (ai (aG x1.rows (IntKind.i64.wrap ((j3 : Int) - (1 : Int)))) fun (x60 : Rq) =>
        ai (eC x28 x60) fun x62 =>
        ai (eC x28 x3) fun x65 =>
        ai (eS x62 x65) fun x66 =>
        cond (x66 == (0 : Int))
         (some (.ret 9))
         (cond (decide (x66 > (0 : Int)))
          (some (.ret 6))
          (some (.next ())))))) 0 x1.rows ()) fun fl3=>fl3.thenF fun (_ : Unit) =>
     some (.next ())))) 0 inst ()) fun fl1=>fl1.thenR fun (_ : Unit) =>
  some 0)
theorem mz (sA : LSchema) (inst : List LRelation) (r : Int) (H : dr sA inst = some r) :
  bc Tryz.prog 52 [(.agg (eK sA)),(.list 87 (inst.map br))] (ae r) := by
 unfold dr at H
 refine PH.aD Tryz.func52 Tryz.ntmps52 ?_
 refine ab (ac (aV ?_))
 refine ao tk rfl (af (ab (ab (ac (ao tk rfl (aN tk (zl _) ?_))))))
 refine al 2 tk rfl (aN tk (zl _) ?_)
 refine ao tk rfl (af ?_)
 refine aP rfl H (fun H=>?_) (fun H=>?_)
 ·refine aw 1 tk rfl ?_
  obtain rfl := am H
  refine aC tk rfl (ps := [(ae 3)]) ⟨_,_,rfl,rfl,rfl⟩ (PLe.q rfl)
 refine av (ab (ab (ac (ao tk rfl (aN tk (zl _) ?_)))))
 refine ao tk rfl (af ?_)
 obtain ⟨fl1,H1,Hp1⟩ := ax H
 refine bP tk 18 rfl rfl (fun hz1 _=>?_)
 rw [zl] at hz1
 refine aY (τ := Unit) (γ := Unit) (fun s1 g1=>⟨75,fun _=>.any,fun _=>none,fun _=>none⟩) (fun t=>fl1 = .next t) ?_ (fun s1 g1 hn1=>?_)
 ·refine az ?_
  refine bC (fun j1 s1 g1=>⟨75,upd (upd (upd (upd (fun _=>.any) 20 (ae (j1 : Int))) 19 (ae (inst.length : Int))) 18 (.list 87 (inst.map br))) 2 (.ptr [(.list 91 (sA.tables.map bv)),(.list 142 (sA.foreignKeys.map cy)),(.list 148 (sA.constraints.map cJ))]),fun _=>none,fun _=>none⟩) () H1 (Gh.le (aa (aa (aa (aa aj)))) ah ag) (fun j1 s1 g1 hj1 hr1=>?_)
  refine aw 1 tk rfl (ab ?_)
  refine aZ rfl (fun h=>?_) (fun h=>?_)
  ·have hl1 := co h
   obtain ⟨x1,fb1,hx1,H,hg1⟩ := rMc hl1 hr1
   refine av (ab (az (ab (ac (ao tk rfl ?_)))))
   refine bs tk (zn j1) (bO (fun _=>rfl) hx1) ?_
   refine ao tk rfl ?_
   refine bu tk fun b6=>?_
   refine ao tk rfl (aE tk ?_)
   refine af (ab (ac (al 3 tk rfl ?_)))
   obtain ⟨x28,k28,H⟩ := aX H
   refine bs tk k28.1 (aI (fun _=>rfl) k28.2) ?_
   refine ao tk rfl ?_
   refine bu tk fun b7=>?_
   refine aE tk ?_
   refine af (ab (ab (ac (ao tk rfl (aT tk ?_)))))
   refine ao tk rfl (aT tk ?_)
   refine ao tk rfl (af ?_)
   refine aP rfl H (fun H=>?_) (fun H=>?_)
   ·refine aw 1 tk rfl ?_
    obtain rfl := am H
    have e1 : fl1 = .ret _ := hg1
    subst e1
    obtain rfl := bp Hp1
    refine aC tk rfl (ps := [(ae 3)]) ⟨_,_,rfl,rfl,rfl⟩ (PLe.q rfl)
   refine av (ab (ab (ac (ao tk rfl (aT tk ?_)))))
   refine aN tk (zl _) ?_
   refine ao tk rfl (af ?_)
   refine aP rfl H (fun H=>?_) (fun H=>?_)
   ·refine aw 1 tk rfl ?_
    obtain rfl := am H
    have e1 : fl1 = .ret _ := hg1
    subst e1
    obtain rfl := bp Hp1
    refine aC tk rfl (ps := [(ae 2)]) ⟨_,_,rfl,rfl,rfl⟩ (PLe.q rfl)
   refine av (ab (ac (ao tk rfl (aT tk ?_))))
   refine aN tk (zl _) ?_
   refine ao tk rfl (af ?_)
   obtain ⟨fl3,H3,Hp3⟩ := ax H
   refine bP tk 40 rfl rfl (fun hz3 _=>?_)
   rw [zl] at hz3
   refine aY (τ := Unit) (γ := Unit) (fun s3 g3=>⟨75,upd (upd (upd (upd (fun _=>.any) 20 (ae (j1 : Int))) 19 (ae (inst.length : Int))) 18 (.list 87 (inst.map br))) 2 (.ptr [(.list 91 (sA.tables.map bv)),(.list 142 (sA.foreignKeys.map cy)),(.list 148 (sA.constraints.map cJ))]),fun _=>none,fun _=>none⟩) (fun t=>fl3 = .next t) ?_ (fun s3 g3 hn3=>?_)
   ·refine az ?_
    refine bC (fun j3 s3 g3=>⟨75,upd (upd (upd (upd (upd (upd (upd (upd (upd (fun _=>.any) 42 (ae (j3 : Int))) 41 (ae (x1.rows.length : Int))) 40 (.list 51 (x1.rows.map (au 53 ak)))) 20 (ae (j1 : Int))) 19 (ae (inst.length : Int))) 18 (.list 87 (inst.map br))) 7 (.box 7 b7 0)) 6 (.box 6 b6 0)) 2 (.ptr [(.list 91 (sA.tables.map bv)),(.list 142 (sA.foreignKeys.map cy)),(.list 148 (sA.constraints.map cJ))]),upd (upd (fun _=>none) 7 (some ⟨b7,[(.str x28.name),(.list 50 (x28.columns.map aJ)),(.list 3 (x28.primaryKey.map bM))]⟩)) 6 (some ⟨b6,[(.str x1.table),(.list 51 (x1.rows.map (au 53 ak)))]⟩),fun _=>none⟩) () H3 (Gh.le (aa (aa (aa (aa (aa (aa (aa (aa (aa aj))))))))) (aA rfl (iR.r) (aA rfl (iR.r) ah)) ag) (fun j3 s3 g3 hj3 hr3=>?_)
    refine aw 1 tk rfl (ab ?_)
    refine aZ rfl (fun h=>?_) (fun h=>?_)
    ·have hl3 := co h
     obtain ⟨x3,fb3,hx3,H,hg3⟩ := rMc hl3 hr3
     refine av (ab (az (ab (ac (ao tk rfl ?_)))))
     refine bs tk (zn j3) (bO (fun _=>rfl) hx3) ?_
     refine al 3 tk rfl (af (ab (ab (ac (aT tk ?_)))))
     refine ao tk rfl ?_
     obtain ⟨x49,h49,H⟩ := ax H
     have s49 := pt x28 x3 _ h49
     refine aq Tryz.call84 (iR.r) s49 ?_
     refine ao tk rfl (af (aw 2 tk rfl ?_))
     refine aP rfl H (fun H=>?_) (fun H=>?_)
     ·refine aw 2 tk rfl ?_
      obtain rfl := am H
      have e3 : fl3 = .ret _ := hg3
      subst e3
      have q3 := pd Hp3
      subst q3
      have e1 : fl1 = .ret _ := hg1
      subst e1
      obtain rfl := bp Hp1
      refine aC tk rfl (ps := [(ae x49)]) ⟨_,_,rfl,rfl,rfl⟩ (PLe.q rfl)
     refine av (ab (aw 2 tk rfl ?_))
     refine aP rfl H (fun H=>?_) (fun H=>?_)
     ·refine aO rfl (bm 2 tk rfl ?_)
      obtain rfl := am H
      refine aK () () ⟨hl3,hg3⟩ (Gh.le (aa (aa (aa (aa (aa (aa (aa (aa (aH (PLe.q (aU (by omega))) aj))))))))) (aA rfl (iR.r) (aA rfl (iR.r) ah)) ag)
     refine av (ab (bo tk mok ⟨true,false,[61]⟩ [0,1,2,3,4,5,6,8,9,7,10,11,12] rfl (by decide +kernel) rfl (cC ?_)))
     refine cq rfl (cC ?_)
     refine aL 2 rfl ?_
     obtain ⟨x60,k60,H⟩ := aX H
     refine cj k60.1 (aI (fun _=>rfl) k60.2) ?_
     refine cq rfl (cC ?_)
     refine cq rfl ?_
     obtain ⟨x62,h62,H⟩ := ax H
     have s62 := pC x28 x60 _ h62
     refine bj Tryz.call86 (iR.r) s62 ?_
     obtain ⟨x65,h65,H⟩ := ax H
     have s65 := pC x28 x3 _ h65
     refine bj Tryz.call86 (iR.r) s65 ?_
     obtain ⟨x66,h66,H⟩ := ax H
     have s66 := qF x62 x65 _ h66
     refine bj Tryz.call85 (iR.r) s66 ?_
     refine cq rfl (bh (az (aw 3 tk rfl ?_)))
     refine aP rfl H (fun H=>?_) (fun H=>?_)
     ·refine aw 1 tk rfl ?_
      obtain rfl := am H
      have e3 : fl3 = .ret _ := hg3
      subst e3
      have q3 := pd Hp3
      subst q3
      have e1 : fl1 = .ret _ := hg1
      subst e1
      obtain rfl := bp Hp1
      refine aC tk rfl (ps := [(ae 9)]) ⟨_,_,rfl,rfl,rfl⟩ (PLe.q rfl)
     refine aw 3 tk rfl ?_
     refine aP rfl H (fun H=>?_) (fun H=>?_)
     ·refine aw 1 tk rfl ?_
      obtain rfl := am H
      have e3 : fl3 = .ret _ := hg3
      subst e3
      have q3 := pd Hp3
      subst q3
      have e1 : fl1 = .ret _ := hg1
      subst e1
      obtain rfl := bp Hp1
      refine aC tk rfl (ps := [(ae 6)]) ⟨_,_,rfl,rfl,rfl⟩ (PLe.q rfl)
     refine av (aR (aR (bm 2 tk rfl ?_)))
     obtain rfl := am H
     refine aK () () ⟨hl3,hg3⟩ (Gh.le (aa (aa (aa (aa (aa (aa (aa (aa (aH (PLe.q (aU (by omega))) aj))))))))) (aA rfl (iR.r) (aA rfl (iR.r) ah)) ag)
    have hn3 := rMd (cp h) hr3
    refine aO rfl ?_
    refine aQ s3 g3 hn3 (Gh.le (aa (aa (aa (aa aj)))) ah ag)
   have H := thenF_next hn3 Hp3
   refine aR (bm 2 tk rfl ?_)
   obtain rfl := am H
   refine aK () () ⟨hl1,hg1⟩ (Gh.le (aa (aa (aa (aH (PLe.q (aU (by omega))) aj)))) ah ag)
  have hn1 := rMd (cp h) hr1
  refine aO rfl ?_
  refine aQ s1 g1 hn1 (Gh.le aj ah ag)
 have H := cl hn1 Hp1
 refine aw 1 tk rfl ?_
 obtain rfl := am H
 refine aC tk rfl (ps := [(ae 0)]) ⟨_,_,rfl,rfl,rfl⟩ (PLe.q rfl)
def iA (x : Rq) (c0 : LRun) (c1 : List LCol) (c2 : LQuery) : Option (Bool) :=
 ai (aG c2.exprs 0) fun (x12 : LExpr) =>
 bf (bN c0 c1 x) fun x9 =>
 bf (dh x9 x12) fun x14 =>
 bf (la x14) fun x15 =>
 some (!x15)
theorem re (x : Rq) (c0 : LRun) (c1 : List LCol) (c2 : LQuery) (r : Bool) (H : iA x c0 c1 c2 = some r) :
  bc Tryz.prog 136 [(.list 53 (x.map ak)),(.ptr (iB c0)),(.ptr [(.list 50 (c1.map aJ))]),(.ptr (bE c2))] (aF r) := by
 unfold iA at H
 refine PH.aD Tryz.func136 Tryz.ntmps136 ?_
 refine aw 1 tk rfl (ab (bo tk mok ⟨false,false,[]⟩ [0,1,2,4,5,6,7,3,8,9,10,11] rfl (by decide +kernel) rfl (aL 5 rfl ?_)))
 obtain ⟨x12,k12,H⟩ := aX H
 refine cj k12.1 (aI eT k12.2) ?_
 refine cq rfl ?_
 obtain ⟨x9,h9,H⟩ := bw H
 have s9 := kG c0 c1 x
 rw [h9] at s9
 refine bj Tryz.call139 (iR.r) s9 ?_
 obtain ⟨x14,h14,H⟩ := bw H
 have s14 := ng x9 x12
 rw [h14] at s14
 refine bj Tryz.call138 (iR.r) s14 ?_
 obtain ⟨x15,h15,H⟩ := bw H
 have s15 := isTS x14
 rw [h15] at s15
 refine bj Tryz.call137 (iR.r) s15 ?_
 refine aL 2 rfl (bh ?_)
 obtain rfl := am H
 refine aC tk rfl (ps := [(aF (!x15))]) ⟨_,_,rfl,rfl,rfl⟩ (PLe.q rfl)
def dU (rA : LRun) (cols : List LCol) (x : Rq) (l : List LExpr) : Option (Rq) :=
 ai (aW (σ := Rq) (ρ := Empty) (fun (_ : Nat) (x1 : LExpr) (s1 : Rq) =>
  bf (bN rA cols x) fun x22 =>
  bf (dh x22 x1) fun x24 =>
  ai (dT 32 s1 ([x24] : Rq)) fun (x26 : Rq) =>
  some (.next x26)) 0 l []) fun fl1=>fl1.thenP fun (s1 : Rq) =>
 some s1
theorem jU (rA : LRun) (cols : List LCol) (x : Rq) (l : List LExpr) (r : Rq) (H : dU rA cols x l = some r) :
  bc Tryz.prog 140 [(.agg (iB rA)),(.list 50 (cols.map aJ)),(.list 53 (x.map ak)),(.list 56 (l.map bg))] (.list 53 (r.map ak)) := by
 unfold dU at H
 refine PH.aD Tryz.func140 Tryz.ntmps140 ?_
 refine ab (ac (aV ?_))
 refine ao tk rfl (af (aw 1 tk rfl (ab (ab (ac (ao tk rfl (aN tk (zl _) ?_)))))))
 refine ao tk rfl (af ?_)
 obtain ⟨fl1,H1,Hp1⟩ := ax H
 refine bP tk 12 rfl rfl (fun hz1 _=>?_)
 rw [zl] at hz1
 refine aY (τ := Rq) (γ := OwnRef) (fun s1 g1=>⟨29,upd (fun _=>.any) 9 (.own 26 g1 (s1.map ak).length),fun _=>none,upd (fun _=>none) 26 (some ⟨g1,53,(s1.map ak),true⟩)⟩) (fun t=>fl1 = .next t) ?_ (fun s1 g1 hn1=>?_)
 ·refine az (ic tk 9 26 (e := 53) rfl rfl ?_)
  refine bC (fun j1 s1 g1=>⟨29,upd (upd (upd (upd (upd (upd (upd (fun _=>.any) 14 (ae (j1 : Int))) 13 (ae (l.length : Int))) 12 (.list 56 (l.map bg))) 9 (.own 26 g1 (s1.map ak).length)) 4 (.ptr [(.list 91 (rA.s.tables.map bv)),(.list 142 (rA.s.foreignKeys.map cy)),(.list 148 (rA.s.constraints.map cJ)),(.list 87 (rA.st.map br)),(.list 53 (rA.args.map ak)),(.list 50 (rA.vars.map aJ)),(.list 9 (rA.names.map aB)),(.list 53 (rA.vals.map ak))])) 2 (.list 53 (x.map ak))) 1 (.list 50 (cols.map aJ)),fun _=>none,upd (fun _=>none) 26 (some ⟨g1,53,(s1.map ak),true⟩)⟩) (⟨none,0⟩) H1 (Gh.le (aa (aa (aa (aa (aa (aa (aa aj))))))) ah (ay ag)) (fun j1 s1 g1 hj1 hr1=>?_)
  refine aw 1 tk rfl (ab ?_)
  refine aZ rfl (fun h=>?_) (fun h=>?_)
  ·have hl1 := co h
   obtain ⟨x1,fb1,hx1,H,hg1⟩ := rMc hl1 hr1
   refine av (ab (az (ab (ac (bs tk (zn j1) (bO eT hx1) ?_)))))
   refine ao tk rfl ?_
   refine bu tk fun b11=>?_
   refine aE tk ?_
   refine af (bo tk mok ⟨true,false,[19]⟩ [0,1,2,3,5,4,6,7,8,9] rfl (by decide +kernel) rfl (aL 4 rfl (cC ?_)))
   obtain ⟨x22,h22,H⟩ := bw H
   have s22 := kG rA cols x
   rw [h22] at s22
   refine bj Tryz.call139 (iR.r) s22 ?_
   obtain ⟨x24,h24,H⟩ := bw H
   have s24 := ng x22 x1
   rw [h24] at s24
   refine bj Tryz.call138 (iR.r) s24 ?_
   refine cq rfl ?_
   obtain ⟨x26,h26,H⟩ := ax H
   have k26 := cY h26
   refine lb (rows2' := List.map ak ([x24] : Rq)) (rows' := List.map ak x26) tk rfl rfl rfl rfl rfl rfl rfl rfl rfl rfl rfl rfl rfl rfl (kj.refl _) (et k26.1) (ew k26.2.1) (ez k26.2.2) fun g26=>?_
   refine cq rfl (bh (aR (bm 2 tk rfl ?_)))
   obtain rfl := am H
   refine aK x26 g26 ⟨hl1,hg1⟩ (Gh.le (aa (aa (aa (aa (aa (aa (aH (PLe.q (aU (by omega))) aj))))))) ah (ay ag))
  have hn1 := rMd (cp h) hr1
  refine aO rfl ?_
  refine aQ s1 g1 hn1 (Gh.le (aa aj) ah (ay ag))
 have H := bn hn1 Hp1
 refine aw 2 tk rfl ?_
 obtain rfl := am H
 refine dX 8 rfl rfl rfl ?_
 refine aC tk rfl (ps := [(.list 53 (s1.map ak))]) ⟨_,_,rfl,rfl,rfl⟩ (PLe.q rfl)
def jF (rA : LRun) (a : LAggregateCall) (cols : List LCol) (l : Rz) : Option (LVal) :=
 cond ((a.args.length : Int) == (0 : Int))
  (bf (gd (l.length : Int)) fun x19 =>
  some x19)
  (ai (aW (σ := Rq) (ρ := Empty) (fun (_ : Nat) (x1 : Rq) (s1 : Rq) =>
   ai (aG a.args 0) fun (x32 : LExpr) =>
   bf (bN rA cols x1) fun x29 =>
   bf (dh x29 x32) fun x34 =>
   cond (x34.kind != (0 : Int))
    (ai (dT 32 s1 ([x34] : Rq)) fun (x41 : Rq) =>
    some (.next x41))
    (some (.next s1))) 0 l []) fun fl1=>fl1.thenP fun (s1 : Rq) =>
  ai (fP a.function s1) fun x46 =>
  some x46)
theorem sn (rA : LRun) (a : LAggregateCall) (cols : List LCol) (l : Rz) (r : LVal) (H : jF rA a cols l = some r) :
  bc Tryz.prog 173 [(.agg (iB rA)),(.agg (cn a)),(.list 50 (cols.map aJ)),(.list 51 (l.map (au 53 ak)))] (.agg (ak r)) := by
 unfold jF at H
 refine PH.aD Tryz.func173 Tryz.ntmps173 ?_
 refine ab (ac (aV ?_))
 refine aV ?_
 refine bu tk fun b8=>?_
 refine af (ab (ab (ac (al 2 tk rfl (aN tk (zl _) ?_)))))
 refine ao tk rfl (af ?_)
 refine aP rfl H (fun H=>?_) (fun H=>?_)
 ·refine ab (ac (ao tk rfl (aN tk (zl _) ?_)))
  obtain ⟨x19,h19,H⟩ := bw H
  have s19 := pT (l.length : Int)
  rw [h19] at s19
  refine aq Tryz.call192 (iR.r) s19 ?_
  refine aE tk ?_
  refine af ?_
  obtain rfl := am H
  refine aC tk rfl (ps := [(.agg [(ae x19.kind),(ae x19.int),(.str x19.text)])]) ⟨_,_,rfl,⟨_,_,_,_,_,rfl,rfl,rfl,rfl⟩,rfl⟩ (PLe.q rfl)
 refine av (aw 1 tk rfl (ab (ab (ac (ao tk rfl (aN tk (zl _) ?_))))))
 refine ao tk rfl (af ?_)
 obtain ⟨fl1,H1,Hp1⟩ := ax H
 refine bP tk 20 rfl rfl (fun hz1 _=>?_)
 rw [zl] at hz1
 refine aY (τ := Rq) (γ := OwnRef) (fun s1 g1=>⟨47,upd (upd (upd (fun _=>.any) 9 (.own 41 g1 (s1.map ak).length)) 8 (.box 8 b8 0)) 5 (.ptr [(.str a.name),(.str a.function),(.list 56 (a.args.map bg))]),upd (fun _=>none) 8 (some ⟨b8,[(ae 0),(ae 0),(.str [])]⟩),upd (fun _=>none) 41 (some ⟨g1,53,(s1.map ak),true⟩)⟩) (fun t=>fl1 = .next t) ?_ (fun s1 g1 hn1=>?_)
 ·refine az (ic tk 9 41 (e := 53) rfl rfl ?_)
  refine bC (fun j1 s1 g1=>⟨47,upd (upd (upd (upd (upd (upd (upd (upd (fun _=>.any) 22 (ae (j1 : Int))) 21 (ae (l.length : Int))) 20 (.list 51 (l.map (au 53 ak)))) 9 (.own 41 g1 (s1.map ak).length)) 8 (.box 8 b8 0)) 5 (.ptr [(.str a.name),(.str a.function),(.list 56 (a.args.map bg))])) 4 (.ptr [(.list 91 (rA.s.tables.map bv)),(.list 142 (rA.s.foreignKeys.map cy)),(.list 148 (rA.s.constraints.map cJ)),(.list 87 (rA.st.map br)),(.list 53 (rA.args.map ak)),(.list 50 (rA.vars.map aJ)),(.list 9 (rA.names.map aB)),(.list 53 (rA.vals.map ak))])) 2 (.list 50 (cols.map aJ)),upd (fun _=>none) 8 (some ⟨b8,[(ae 0),(ae 0),(.str [])]⟩),upd (fun _=>none) 41 (some ⟨g1,53,(s1.map ak),true⟩)⟩) (⟨none,0⟩) H1 (Gh.le (aa (aa (aa (aa (aa (aa (aa (aa aj)))))))) (aA rfl (iR.r) ah) (ay ag)) (fun j1 s1 g1 hj1 hr1=>?_)
  refine aw 1 tk rfl (ab ?_)
  refine aZ rfl (fun h=>?_) (fun h=>?_)
  ·have hl1 := co h
   obtain ⟨x1,fb1,hx1,H,hg1⟩ := rMc hl1 hr1
   refine av (ab (az (ab (ac ?_))))
   refine bs tk (zn j1) (bO (fun _=>rfl) hx1) ?_
   refine al 2 tk rfl (af (ab (bo tk mok ⟨false,false,[]⟩ [0,1,2,4,5,6,7,3,8,9,10] rfl (by decide +kernel) rfl (aL 5 rfl ?_))))
   obtain ⟨x32,k32,H⟩ := aX H
   refine cj k32.1 (aI eT k32.2) ?_
   refine cq rfl ?_
   obtain ⟨x29,h29,H⟩ := bw H
   have s29 := kG rA cols x1
   rw [h29] at s29
   refine bj Tryz.call139 (iR.r) s29 ?_
   obtain ⟨x34,h34,H⟩ := bw H
   have s34 := ng x29 x32
   rw [h34] at s34
   refine bj Tryz.call138 (iR.r) s34 ?_
   refine qc rfl rfl rfl rfl rfl rfl rfl rfl fun b12=>?_
   refine ec ?_
   refine bh (ab (ac (ao tk rfl (aT tk ?_))))
   refine ao tk rfl (af ?_)
   refine aP rfl H (fun H=>?_) (fun H=>?_)
   ·refine ac (ao tk rfl (aT tk ?_))
    refine cQ tk (rows' := List.map ak ([x34] : Rq)) (kj.refl _) ?_
    obtain ⟨x41,h41,H⟩ := ax H
    have k41 := cY h41
    refine cZ (rows2' := List.map ak ([x34] : Rq)) (rows' := List.map ak x41) tk rfl rfl rfl rfl rfl rfl rfl rfl rfl rfl rfl rfl rfl (kj.refl _) (et k41.1) (ew k41.2.1) (ez k41.2.2) fun g41=>?_
    refine ao tk rfl (af (aR (bm 2 tk rfl ?_)))
    obtain rfl := am H
    refine aK x41 g41 ⟨hl1,hg1⟩ (Gh.le (aa (aa (aa (aa (aa (aa (aa (aH (PLe.q (aU (by omega))) aj)))))))) (aA rfl (iR.r) ah) (ay ag))
   refine av (aR (bm 2 tk rfl ?_))
   obtain rfl := am H
   refine aK s1 g1 ⟨hl1,hg1⟩ (Gh.le (aa (aa (aa (aa (aa (aa (aa (aH (PLe.q (aU (by omega))) aj)))))))) (aA rfl (iR.r) ah) (ay ag))
  have hn1 := rMd (cp h) hr1
  refine aO rfl ?_
  refine aQ s1 g1 hn1 (Gh.le (aa (aa (aa aj))) (aA rfl (iR.r) ah) (ay ag))
 have H := bn hn1 Hp1
 refine ab (dX 9 rfl rfl rfl (ac (al 3 tk rfl ?_)))
 obtain ⟨x46,h46,H⟩ := ax H
 have s46 := oe a.function s1 _ h46
 refine aq Tryz.call193 (iR.r) s46 ?_
 refine aE tk ?_
 refine af ?_
 obtain rfl := am H
 refine aC tk rfl (ps := [(.agg [(ae x46.kind),(ae x46.int),(.str x46.text)])]) ⟨_,_,rfl,⟨_,_,_,_,_,rfl,rfl,rfl,rfl⟩,rfl⟩ (PLe.q rfl)
def dj (x : Rz) (cmp : Rq → Rq → Option (Int)) : Option (Rz) :=
 ai (eN x (x.length : Int) cmp) fun x8 =>
 ai (cE (x8.length = x.length) ()) fun (_ : Unit) =>
 some x8
theorem kq (g_x : OwnRef) {g_cmp : FuncId} {caps_cmp : List PV} (x : Rz) (cmp : Rq → Rq → Option (Int)) (hg_cmp : ∀ (vs : Array Value) (w : World),(callFunc g_cmp vs).run Tryz.prog w = .ok (.enter g_cmp vs) w) (hp_cmp : ∀ a0 a1 r,cmp a0 a1 = some r → bc Tryz.prog g_cmp ((.list 53 (a0.map ak)) :: (.list 53 (a1.map ak)) :: caps_cmp) (ae r)) (r : Rz) (H : dj x cmp = some r) :
  PH Tryz.prog 174 [(.own 0 g_x (x.map (au 53 ak)).length),(.fn g_cmp caps_cmp)] ⟨fun _=>none,upd (fun _=>none) 0 (some ⟨g_x,51,(x.map (au 53 ak)),true⟩)⟩ (fun u H=>u = (.tup []) ∧ H = ⟨fun _=>none,upd (fun _=>none) 0 (some ⟨g_x,51,(r.map (au 53 ak)),true⟩)⟩) := by
 unfold dj at H
 refine PH.aD Tryz.func174 Tryz.ntmps174 ?_
 refine ac (al 2 tk rfl (ip tk (zl _) ?_))
 refine ao tk rfl ?_
 obtain ⟨x8,h8,H⟩ := ax H
 have s8 := mc g_x x (x.length : Int) cmp hg_cmp hp_cmp _ h8
 obtain ⟨_,q8_0,H⟩ := ax H
 have l8_0 := (bI q8_0).1
 have z8_0 : (List.map (au 53 ak) x).length = (List.map (au 53 ak) x8).length := by simpa using (l8_0).symm
 refine ci (g := 194) rfl rfl rfl Tryz.call194 [] [(0,0)] rfl rfl rfl rfl (iR.of2 (iG.cons (PLe2.own rfl) (iG.cons (PLe2.of_eq rfl) (iG.cons (PLe2.of_eq rfl) iG.nil)))) (by rw [bS,bJ,bR]; rfl) s8 ?_
 rintro u8 H8h ⟨rfl,rfl⟩
 refine ⟨_,rfl,?_⟩
 refine cw (st' := ⟨_,_,fun _=>none,upd (fun _=>none) 0 (some ⟨g_x,51,(x8.map (au 53 ak)),true⟩)⟩) (Gh.le (bQ _ _) ah (ay ag)) ?_
 refine af ?_
 obtain rfl := am H
 refine dq (st' := ⟨9,fun _=>.any,fun _=>none,upd (fun _=>none) 0 (some ⟨g_x,51,(x8.map (au 53 ak)),true⟩)⟩) (Gh.le aj ah (ay ag)) ?_
 refine iy rfl (PLe.q rfl) ⟨rfl,rfl⟩
def ff (sA : LSchema) (c : LConstraint) : Option (Int) :=
 ai (fV sA c.table) fun x14 =>
 cond (!x14.2)
  (some 4)
  (ai (aG sA.tables x14.1) fun (x22 : LTable) =>
  bf (gV (LVal.mk 0 0 []) c.op (LVal.mk 0 0 [])) fun x30 =>
  bf (
   cond (decide (c.left < (0 : Int)))
    (true)
    (cond (decide (c.left ≥ (x22.columns.length : Int)))
     (true)
     (cond (x30.2 != (0 : Int))
      (true)
      (cond (decide (c.right < (-1)))
       (true)
       (cond (decide (c.right ≥ (x22.columns.length : Int)))
        (true)
        (cond (decide (c.right ≥ (0 : Int)))
         ((!(c.value.kind == (0 : Int) && (c.value.int == (0 : Int) && (c.value.text == ([] : List UInt8) && true)))))
         (false))))))) fun (t1 : Bool) =>
  cond t1
   (some 3)
   (cond (decide (c.right ≥ (0 : Int)))
    (ai (aG x22.columns c.left) fun (x76 : LCol) =>
    ai (aG x22.columns c.right) fun (x82 : LCol) =>
    cond (x76.kind != x82.kind)
     (some 7)
     (some 0))
    (ai (aG x22.columns c.left) fun (x92 : LCol) =>
    cond (c.value.kind != x92.kind)
     (some 7)
     (bf (dQ c.value) fun x98 =>
     some x98))))
theorem nq (sA : LSchema) (c : LConstraint) (r : Int) (H : ff sA c = some r) :
  bc Tryz.prog 103 [(.agg (eK sA)),(.agg (cJ c))] (ae r) := by
 unfold ff at H
 refine PH.aD Tryz.func103 Tryz.ntmps103 ?_
 refine ab (ac (aV ?_))
 refine aV ?_
 refine ao tk rfl (af (ab (ac (al 3 tk rfl ?_))))
 obtain ⟨x14,h14,H⟩ := ax H
 have s14 := kQ sA c.table _ h14
 refine aq Tryz.call145 (iR.r) s14 ?_
 refine al 5 tk rfl (af (ab (aw 2 tk rfl ?_)))
 refine aP rfl H (fun H=>?_) (fun H=>?_)
 ·refine aw 1 tk rfl ?_
  obtain rfl := am H
  refine aC tk rfl (ps := [(ae 4)]) ⟨_,_,rfl,rfl,rfl⟩ (PLe.q rfl)
 refine av (ab (ac (al 3 tk rfl ?_)))
 obtain ⟨x22,k22,H⟩ := aX H
 refine bs tk k22.1 (aI (fun _=>rfl) k22.2) ?_
 refine al 3 tk rfl (af (ab (ac (al 4 tk rfl ?_))))
 obtain ⟨x30,h30,H⟩ := bw H
 have s30 := rz (LVal.mk 0 0 []) c.op (LVal.mk 0 0 [])
 rw [h30] at s30
 refine aq Tryz.call148 (iR.r) s30 ?_
 refine al 5 tk rfl (af (ab (ab ?_)))
 obtain ⟨fl1,H1,Hp1⟩ := bw H
 refine aY (τ := Bool) (γ := Unit) (fun t1 g1=>⟨99,upd (upd (upd (fun _=>.any) 69 (aF t1)) 7 (.list 50 (x22.columns.map aJ))) 3 (.ptr [(.str c.table),(ae c.left),(.str c.op),(ae c.right),(ae c.value.kind),(ae c.value.int),(.str c.value.text)]),fun _=>none,fun _=>none⟩) (fun t=>t = fl1) ?_ (fun t1 g1 hn1=>?_)
 ·have H := H1
  refine ac (al 4 tk rfl ?_)
  refine bF rfl rfl rfl H (fun H=>?_) (fun H=>?_)
  ·refine al 33 tk rfl (af ?_)
   subst H
   refine aQ true () rfl (Gh.le (aa (aa (aa aj))) ah ag)
  refine al 3 tk rfl (aN tk (zl _) ?_)
  refine al 3 tk rfl ?_
  refine bF rfl rfl rfl H (fun H=>?_) (fun H=>?_)
  ·refine al 26 tk rfl (af ?_)
   subst H
   refine aQ true () rfl (Gh.le (aa (aa (aa aj))) ah ag)
  refine al 4 tk rfl ?_
  refine bF rfl rfl rfl H (fun H=>?_) (fun H=>?_)
  ·refine al 22 tk rfl (af ?_)
   subst H
   refine aQ true () rfl (Gh.le (aa (aa (aa aj))) ah ag)
  refine al 5 tk rfl ?_
  refine bF rfl rfl rfl H (fun H=>?_) (fun H=>?_)
  ·refine al 17 tk rfl (af ?_)
   subst H
   refine aQ true () rfl (Gh.le (aa (aa (aa aj))) ah ag)
  refine al 3 tk rfl (aN tk (zl _) ?_)
  refine al 3 tk rfl ?_
  refine bF rfl rfl rfl H (fun H=>?_) (fun H=>?_)
  ·refine al 10 tk rfl (af ?_)
   subst H
   refine aQ true () rfl (Gh.le (aa (aa (aa aj))) ah ag)
  refine al 4 tk rfl ?_
  refine bF rfl rfl rfl H (fun H=>?_) (fun H=>?_)
  ·refine al 6 tk rfl (af ?_)
   subst H
   refine aQ (!(c.value.kind == (0 : Int) && (c.value.int == (0 : Int) && (c.value.text == ([] : List UInt8) && true)))) () rfl (Gh.le (aa (aa (aa aj))) ah ag)
  refine al 6 tk rfl (af ?_)
  subst H
  refine aQ false () rfl (Gh.le (aa (aa (aa aj))) ah ag)
 subst hn1
 have H := Hp1
 refine aP rfl H (fun H=>?_) (fun H=>?_)
 ·refine aw 1 tk rfl ?_
  obtain rfl := am H
  refine aC tk rfl (ps := [(ae 3)]) ⟨_,_,rfl,rfl,rfl⟩ (PLe.q rfl)
 refine av (ab (aw 3 tk rfl ?_))
 refine aP rfl H (fun H=>?_) (fun H=>?_)
 ·refine ab (ab (bo tk mok ⟨false,false,[]⟩ [0,1,2,3,4,5,6,7,8,9,10,11,12] rfl (by decide +kernel) rfl (aL 3 rfl ?_)))
  obtain ⟨x76,k76,H⟩ := aX H
  refine cj k76.1 (aI (fun _=>rfl) k76.2) ?_
  refine aL 5 rfl ?_
  obtain ⟨x82,k82,H⟩ := aX H
  refine cj k82.1 (aI (fun _=>rfl) k82.2) ?_
  refine aL 3 rfl (bh ?_)
  refine aP rfl H (fun H=>?_) (fun H=>?_)
  ·refine aw 1 tk rfl ?_
   obtain rfl := am H
   refine aC tk rfl (ps := [(ae 7)]) ⟨_,_,rfl,rfl,rfl⟩ (PLe.q rfl)
  refine av (aw 1 tk rfl ?_)
  obtain rfl := am H
  refine aC tk rfl (ps := [(ae 0)]) ⟨_,_,rfl,rfl,rfl⟩ (PLe.q rfl)
 refine av (ab (ab (bo tk mok ⟨false,false,[]⟩ [0,1,2,3,4,5,6,7,8,9] rfl (by decide +kernel) rfl (aL 6 rfl ?_))))
 obtain ⟨x92,k92,H⟩ := aX H
 refine cj k92.1 (aI (fun _=>rfl) k92.2) ?_
 refine aL 3 rfl (bh ?_)
 refine aP rfl H (fun H=>?_) (fun H=>?_)
 ·refine aw 1 tk rfl ?_
  obtain rfl := am H
  refine aC tk rfl (ps := [(ae 7)]) ⟨_,_,rfl,rfl,rfl⟩ (PLe.q rfl)
 refine av (ab (ac (al 2 tk rfl ?_)))
 obtain ⟨x98,h98,H⟩ := bw H
 have s98 := oG c.value
 rw [h98] at s98
 refine aq Tryz.call105 (iR.r) s98 ?_
 refine ao tk rfl (af ?_)
 obtain rfl := am H
 refine aC tk rfl (ps := [(ae x98)]) ⟨_,_,rfl,rfl,rfl⟩ (PLe.q rfl)
def cD (data : List (List UInt8)) (a : Int) (swaps : Int) : Option (Int × (List (List UInt8)) × Int) :=
 ai (dm data (IntKind.i64.wrap (a - (1 : Int))) a (IntKind.i64.wrap (a + (1 : Int))) swaps) fun x14 =>
 ai (cE (x14.2.1.length = data.length) ()) fun (_ : Unit) =>
 some (x14.1,x14.2.1,x14.2.2)
theorem fM (g_data : OwnRef) (b_swaps : Nat) (data : List (List UInt8)) (a : Int) (swaps : Int) (r : Int × (List (List UInt8)) × Int) (H : cD data a swaps = some r) :
  PH Tryz.prog 166 [(.own 0 g_data (data.map aB).length),(ae a),(.box 1502 b_swaps 0)] ⟨upd (fun _=>none) 1502 (some ⟨b_swaps,[(ae swaps)]⟩),upd (fun _=>none) 0 (some ⟨g_data,9,(data.map aB),true⟩)⟩ (fun u H=>u = (ae r.1) ∧ H = ⟨upd (fun _=>none) 1502 (some ⟨b_swaps,[(ae r.2.2)]⟩),upd (fun _=>none) 0 (some ⟨g_data,9,(r.2.1.map aB),true⟩)⟩) := by
 unfold cD at H
 refine PH.aD Tryz.func166 Tryz.ntmps166 ?_
 refine aw 1 tk rfl (ab (ac (al 7 tk rfl ?_)))
 obtain ⟨x14,h14,H⟩ := ax H
 have s14 := gZ g_data b_swaps data (IntKind.i64.wrap (a - (1 : Int))) a (IntKind.i64.wrap (a + (1 : Int))) swaps _ h14
 obtain ⟨_,q14_0,H⟩ := ax H
 have l14_0 := (bI q14_0).1
 have z14_0 : (List.map aB data).length = (List.map aB x14.2.1).length := by simpa using (l14_0).symm
 refine ci (g := 167) rfl rfl rfl Tryz.call167 [(1502,1504)] [(0,0)] rfl rfl rfl rfl (iR.of2 (iG.cons (PLe2.own rfl) (iG.cons (PLe2.of_eq rfl) (iG.cons (PLe2.of_eq rfl) (iG.cons (PLe2.of_eq rfl) (iG.cons PLe2.boxT iG.nil)))))) (by rw [dp,bS,bJ,bR]; rfl) s14 ?_
 rintro u14 H14h ⟨rfl,rfl⟩
 refine ⟨_,rfl,?_⟩
 refine cw (st' := ⟨_,_,upd (fun _=>none) 1502 (some ⟨b_swaps,[(ae x14.2.2)]⟩),upd (fun _=>none) 0 (some ⟨g_data,9,(x14.2.1.map aB),true⟩)⟩) (Gh.le (bQ _ _) (aA rfl (iR.r) ah) (ay ag)) ?_
 refine ao tk rfl (af ?_)
 obtain rfl := am H
 refine dq (st' := ⟨15,upd (fun _=>.any) 6 (ae x14.1),upd (fun _=>none) 1502 (some ⟨b_swaps,[(ae x14.2.2)]⟩),upd (fun _=>none) 0 (some ⟨g_data,9,(x14.2.1.map aB),true⟩)⟩) (Gh.le (aa aj) (aA rfl (iR.r) ah) (ay ag)) ?_
 refine eH tk rfl (ps := [(ae x14.1)]) ⟨_,_,rfl,rfl,rfl⟩ (PLe.q rfl) ⟨rfl,rfl⟩
def ig (c : LChecker) (q : LQuery) (inA : List (List LCol)) : Option ((List LCol) × Int) :=
 cond (q.kind == (1 : Int))
  (ai (dk c.s.tables (fun a0=>some (eU a0 q))) fun x25 =>
  cond (decide (x25 < (0 : Int)))
   (some ([],4))
   (ai (aG c.s.tables x25) fun (x32 : LTable) =>
   some (x32.columns,0)))
  (cond (q.kind == (2 : Int))
   (ai (aG inA 0) fun (x39 : List LCol) =>
   ai (aG inA 0) fun (x43 : List LCol) =>
   ai (aG q.exprs 0) fun (x47 : LExpr) =>
   bf (dW c x43 x47) fun x49 =>
   some (x39,x49))
   (bf (
    cond (q.kind == (4 : Int))
     ((q.kind == (4 : Int)))
     ((q.kind == (5 : Int)))) fun (t1 : Bool) =>
   cond t1
    (ai (aG inA 0) fun (x54 : List LCol) =>
    ai (aG inA 1) fun (x58 : List LCol) =>
    ai (aW (σ := List LCol) (ρ := Empty) (fun (_ : Nat) (x2 : LCol) (s2 : List LCol) =>
     cond x2.nullable
      (ai (dT 32 s2 ([(LCol.mk x2.name x2.kind true)] : List LCol)) fun (x76 : List LCol) =>
      some (.next x76))
      (ai (dT 32 s2 ([(LCol.mk x2.name x2.kind (q.kind == (5 : Int)))] : List LCol)) fun (x76 : List LCol) =>
      some (.next x76))) 0 x58 x54) fun fl2=>fl2.thenP fun (s2 : List LCol) =>
    ai (aG q.exprs 0) fun (x83 : LExpr) =>
    bf (dW c s2 x83) fun x85 =>
    some (s2,x85))
    (bf (
     cond (q.kind == (6 : Int))
      ((q.kind == (6 : Int)))
      ((q.kind == (7 : Int)))) fun (t3 : Bool) =>
    cond t3
     (ai (aG inA 0) fun (x92 : List LCol) =>
     ai (aG inA 1) fun (x95 : List LCol) =>
     ai (iC q.kind x92 x95) fun x97 =>
     some (x97.1,x97.2))
     (bf (
      cond (q.kind == (3 : Int))
       ((q.kind == (3 : Int)))
       ((q.kind == (8 : Int)))) fun (t4 : Bool) =>
     cond t4
      (ai (aG inA 0) fun (x106 : List LCol) =>
      ai (eY c q x106) fun x108 =>
      some (x108.1,x108.2))
      (cond (q.kind == (9 : Int))
       (ai (aW (σ := Unit) (ρ := ((List LCol) × Int)) (fun (_ : Nat) (x5 : LExpr) (_ : Unit) =>
        ai (aG inA 0) fun (x122 : List LCol) =>
        bf (du x122 c.vars x5) fun x127 =>
        cond (x127.2.2 != (0 : Int))
         (some (.ret ([],x127.2.2)))
         (some (.next ()))) 0 q.exprs ()) fun fl5=>fl5.thenR fun (_ : Unit) =>
       ai (aG inA 0) fun (x136 : List LCol) =>
       some (x136,0))
       (ai (aG inA 0) fun (x136 : List LCol) =>
       some (x136,0)))))))
theorem qD (c : LChecker) (q : LQuery) (inA : List (List LCol)) (r : (List LCol) × Int) (H : ig c q inA = some r) :
  bc Tryz.prog 111 [(.agg (jD c)),(.agg (bE q)),(.list 39 (inA.map (au 50 aJ)))] (.tup [(.list 50 (r.1.map aJ)),(ae r.2)]) := by
 unfold ig at H
 refine PH.aD Tryz.func111 Tryz.ntmps111 ?_
 refine ab (ac (aV ?_))
 refine aV ?_
 refine al 2 tk rfl (af (ab (aw 2 tk rfl (az (aw 2 tk rfl ?_)))))
 refine aP rfl H (fun H=>?_) (fun H=>?_)
 ·refine ab (ac (al 4 tk rfl ?_))
  obtain ⟨x25,h25,H⟩ := ax H
  have s25 := gW c.s.tables (fun a0=>some (eU a0 q)) Tryz.call154 (fun a0 r h=>(am h) ▸ pL a0 q) _ h25
  refine aq Tryz.call153 (iR.r) s25 ?_
  refine ao tk rfl (af (ab (aw 2 tk rfl ?_)))
  refine aP rfl H (fun H=>?_) (fun H=>?_)
  ·refine aw 2 tk rfl ?_
   obtain rfl := am H
   refine aC tk rfl (ps := [(.val (.slice none 0 0)),(ae 4)]) ⟨_,_,rfl,rfl,_,_,rfl,rfl,rfl⟩ (PLe.of2 (PLe2.tup (iG.cons (PLe2.nil tk rfl) (iG.cons (PLe2.of_eq rfl) iG.nil))))
  refine av (ab (ac (al 4 tk rfl ?_)))
  obtain ⟨x32,k32,H⟩ := aX H
  refine bs tk k32.1 (aI (fun _=>rfl) k32.2) ?_
  refine al 2 tk rfl ?_
  have s35 := pf (m := 35) x32.columns
  refine aq Tryz.call155 (iR.r) (PFun.iv s35) ?_
  refine al 2 tk rfl (af ?_)
  obtain rfl := am H
  refine aC tk rfl (ps := [(.list 50 (x32.columns.map aJ)),(ae 0)]) ⟨_,_,rfl,rfl,_,_,rfl,rfl,rfl⟩ (PLe.q rfl)
 refine aw 2 tk rfl ?_
 refine aP rfl H (fun H=>?_) (fun H=>?_)
 ·refine ab (bo tk mok ⟨false,false,[]⟩ [0,1,2,3,4,5,6,7,8,9,10,11,12,13] rfl (by decide +kernel) rfl (cq rfl ?_))
  obtain ⟨x39,k39,H⟩ := aX H
  refine cj k39.1 (aI (fun _=>rfl) k39.2) ?_
  refine aL 3 rfl ?_
  obtain ⟨x43,k43,H⟩ := aX H
  refine cj k43.1 (aI (fun _=>rfl) k43.2) ?_
  refine aL 3 rfl ?_
  obtain ⟨x47,k47,H⟩ := aX H
  refine cj k47.1 (aI eT k47.2) ?_
  refine cq rfl ?_
  obtain ⟨x49,h49,H⟩ := bw H
  have s49 := kF c x43 x47
  rw [h49] at s49
  refine bj Tryz.call156 (iR.r) s49 ?_
  refine aL 2 rfl (bh ?_)
  obtain rfl := am H
  refine aC tk rfl (ps := [(.list 50 (x39.map aJ)),(ae x49)]) ⟨_,_,rfl,rfl,_,_,rfl,rfl,rfl⟩ (PLe.q rfl)
 refine ab (aw 2 tk rfl ?_)
 obtain ⟨fl1,H1,Hp1⟩ := bw H
 refine aY (τ := Bool) (γ := Unit) (fun t1 g1=>⟨138,upd (upd (upd (upd (upd (fun _=>.any) 50 (aF t1)) 18 (ae q.kind)) 4 (.ptr [(ae q.kind),(.str q.table),(.list 9 (q.names.map aB)),(.list 56 (q.exprs.map bg)),(.list 66 (q.aggregates.map cn)),(.list 4 (q.descending.map cz)),(ae q.count),(ae q.offset),(.list 35 (q.inputs.map ba))])) 3 (.ptr [(.list 91 (c.s.tables.map bv)),(.list 142 (c.s.foreignKeys.map cy)),(.list 148 (c.s.constraints.map cJ)),(.list 50 (c.vars.map aJ))])) 2 (.list 39 (inA.map (au 50 aJ))),fun _=>none,fun _=>none⟩) (fun t=>t = fl1) ?_ (fun t1 g1 hn1=>?_)
 ·have H := H1
  refine aP rfl H (fun H=>?_) (fun H=>?_)
  ·refine av ?_
   subst H
   refine aQ (q.kind == (4 : Int)) () rfl (Gh.le (aa (aa (aa (aa (aa aj))))) ah ag)
  refine bm 2 tk rfl ?_
  subst H
  refine aQ (q.kind == (5 : Int)) () rfl (Gh.le (aa (aa (aa (aa (aa aj))))) ah ag)
 subst hn1
 have H := Hp1
 refine aP rfl H (fun H=>?_) (fun H=>?_)
 ·refine ab (ac (ao tk rfl ?_))
  obtain ⟨x54,k54,H⟩ := aX H
  refine bs tk k54.1 (aI (fun _=>rfl) k54.2) ?_
  refine ao tk rfl ?_
  have s56 := pf (m := 56) x54
  refine ki Tryz.call155 (iR.r) s56 (fun g56=>?_)
  refine ao tk rfl (af (ab (ab (ac (ao tk rfl ?_)))))
  obtain ⟨x58,k58,H⟩ := aX H
  refine bs tk k58.1 (aI (fun _=>rfl) k58.2) ?_
  refine ao tk rfl (aN tk (zl _) ?_)
  refine ao tk rfl (af ?_)
  obtain ⟨fl2,H2,Hp2⟩ := ax H
  refine bP tk 59 rfl rfl (fun hz2 _=>?_)
  rw [zl] at hz2
  refine aY (τ := List LCol) (γ := OwnRef) (fun s2 g2=>⟨138,upd (upd (upd (fun _=>.any) 9 (.own 56 g2 (s2.map aJ).length)) 4 (.ptr [(ae q.kind),(.str q.table),(.list 9 (q.names.map aB)),(.list 56 (q.exprs.map bg)),(.list 66 (q.aggregates.map cn)),(.list 4 (q.descending.map cz)),(ae q.count),(ae q.offset),(.list 35 (q.inputs.map ba))])) 3 (.ptr [(.list 91 (c.s.tables.map bv)),(.list 142 (c.s.foreignKeys.map cy)),(.list 148 (c.s.constraints.map cJ)),(.list 50 (c.vars.map aJ))]),fun _=>none,upd (fun _=>none) 56 (some ⟨g2,50,(s2.map aJ),true⟩)⟩) (fun t=>fl2 = .next t) ?_ (fun s2 g2 hn2=>?_)
  ·refine az ?_
   refine bC (fun j2 s2 g2=>⟨138,upd (upd (upd (upd (upd (upd (fun _=>.any) 61 (ae (j2 : Int))) 60 (ae (x58.length : Int))) 59 (.list 50 (x58.map aJ))) 9 (.own 56 g2 (s2.map aJ).length)) 4 (.ptr [(ae q.kind),(.str q.table),(.list 9 (q.names.map aB)),(.list 56 (q.exprs.map bg)),(.list 66 (q.aggregates.map cn)),(.list 4 (q.descending.map cz)),(ae q.count),(ae q.offset),(.list 35 (q.inputs.map ba))])) 3 (.ptr [(.list 91 (c.s.tables.map bv)),(.list 142 (c.s.foreignKeys.map cy)),(.list 148 (c.s.constraints.map cJ)),(.list 50 (c.vars.map aJ))]),fun _=>none,upd (fun _=>none) 56 (some ⟨g2,50,(s2.map aJ),true⟩)⟩) g56 H2 (Gh.le (aa (aa (aa (aa (aa (aa aj)))))) ah (ay ag)) (fun j2 s2 g2 hj2 hr2=>?_)
   refine aw 1 tk rfl (ab ?_)
   refine aZ rfl (fun h=>?_) (fun h=>?_)
   ·have hl2 := co h
    obtain ⟨x2,fb2,hx2,H,hg2⟩ := rMc hl2 hr2
    refine av (ab (az (ab (ac ?_))))
    refine bs tk (zn j2) (bO (fun _=>rfl) hx2) ?_
    refine ao tk rfl ?_
    refine bu tk fun b11=>?_
    refine aE tk ?_
    refine af (ab (ac (ao tk rfl (aT tk ?_))))
    refine ao tk rfl ?_
    refine bF rfl rfl rfl H (fun H=>?_) (fun H=>?_)
    ·refine al 5 tk rfl (aE tk ?_)
     refine af (ac (ao tk rfl (aT tk ?_)))
     refine cQ tk (rows' := List.map aJ ([(LCol.mk x2.name x2.kind true)] : List LCol)) (kj.refl _) ?_
     obtain ⟨x76,h76,H⟩ := ax H
     have k76 := cY h76
     refine cZ (rows2' := List.map aJ ([(LCol.mk x2.name x2.kind true)] : List LCol)) (rows' := List.map aJ x76) tk rfl rfl rfl rfl rfl rfl rfl rfl rfl rfl rfl rfl rfl (kj.refl _) (et k76.1) (ew k76.2.1) (ez k76.2.2) fun g76=>?_
     refine ao tk rfl (af (aR (bm 2 tk rfl ?_)))
     obtain rfl := am H
     refine aK x76 g76 ⟨hl2,hg2⟩ (Gh.le (aa (aa (aa (aa (aa (aH (PLe.q (aU (by omega))) aj)))))) ah (ay ag))
    refine al 5 tk rfl (aE tk ?_)
    refine af (ac (ao tk rfl (aT tk ?_)))
    refine cQ tk (rows' := List.map aJ ([(LCol.mk x2.name x2.kind (q.kind == (5 : Int)))] : List LCol)) (kj.refl _) ?_
    obtain ⟨x76,h76,H⟩ := ax H
    have k76 := cY h76
    refine cZ (rows2' := List.map aJ ([(LCol.mk x2.name x2.kind (q.kind == (5 : Int)))] : List LCol)) (rows' := List.map aJ x76) tk rfl rfl rfl rfl rfl rfl rfl rfl rfl rfl rfl rfl rfl (kj.refl _) (et k76.1) (ew k76.2.1) (ez k76.2.2) fun g76=>?_
    refine ao tk rfl (af (aR (bm 2 tk rfl ?_)))
    obtain rfl := am H
    refine aK x76 g76 ⟨hl2,hg2⟩ (Gh.le (aa (aa (aa (aa (aa (aH (PLe.q (aU (by omega))) aj)))))) ah (ay ag))
   have hn2 := rMd (cp h) hr2
   refine aO rfl ?_
   refine aQ s2 g2 hn2 (Gh.le (aa (aa (aa aj))) ah (ay ag))
  have H := bn hn2 Hp2
  refine ab (dX 9 rfl rfl rfl (bo tk mok ⟨false,false,[]⟩ [0,1,2,3,4,5,6,7,8,9] rfl (by decide +kernel) rfl (aL 5 rfl ?_)))
  obtain ⟨x83,k83,H⟩ := aX H
  refine cj k83.1 (aI eT k83.2) ?_
  refine cq rfl ?_
  obtain ⟨x85,h85,H⟩ := bw H
  have s85 := kF c s2 x83
  rw [h85] at s85
  refine bj Tryz.call156 (iR.r) s85 ?_
  refine aL 2 rfl (bh ?_)
  obtain rfl := am H
  refine aC tk rfl (ps := [(.list 50 (s2.map aJ)),(ae x85)]) ⟨_,_,rfl,rfl,_,_,rfl,rfl,rfl⟩ (PLe.q rfl)
 refine ab (aw 2 tk rfl ?_)
 obtain ⟨fl3,H3,Hp3⟩ := bw H
 refine aY (τ := Bool) (γ := Unit) (fun t3 g3=>⟨138,upd (upd (upd (upd (upd (fun _=>.any) 86 (aF t3)) 18 (ae q.kind)) 4 (.ptr [(ae q.kind),(.str q.table),(.list 9 (q.names.map aB)),(.list 56 (q.exprs.map bg)),(.list 66 (q.aggregates.map cn)),(.list 4 (q.descending.map cz)),(ae q.count),(ae q.offset),(.list 35 (q.inputs.map ba))])) 3 (.ptr [(.list 91 (c.s.tables.map bv)),(.list 142 (c.s.foreignKeys.map cy)),(.list 148 (c.s.constraints.map cJ)),(.list 50 (c.vars.map aJ))])) 2 (.list 39 (inA.map (au 50 aJ))),fun _=>none,fun _=>none⟩) (fun t=>t = fl3) ?_ (fun t3 g3 hn3=>?_)
 ·have H := H3
  refine aP rfl H (fun H=>?_) (fun H=>?_)
  ·refine av ?_
   subst H
   refine aQ (q.kind == (6 : Int)) () rfl (Gh.le (aa (aa (aa (aa (aa aj))))) ah ag)
  refine bm 2 tk rfl ?_
  subst H
  refine aQ (q.kind == (7 : Int)) () rfl (Gh.le (aa (aa (aa (aa (aa aj))))) ah ag)
 subst hn3
 have H := Hp3
 refine aP rfl H (fun H=>?_) (fun H=>?_)
 ·refine ab (bo tk mok ⟨false,false,[]⟩ [0,1,2,3,4,5,6,7,8,9,10,11,12] rfl (by decide +kernel) rfl (aL 3 rfl ?_))
  obtain ⟨x92,k92,H⟩ := aX H
  refine cj k92.1 (aI (fun _=>rfl) k92.2) ?_
  refine aL 2 rfl ?_
  obtain ⟨x95,k95,H⟩ := aX H
  refine cj k95.1 (aI (fun _=>rfl) k95.2) ?_
  refine cq rfl ?_
  obtain ⟨x97,h97,H⟩ := ax H
  have s97 := qW q.kind x92 x95 _ h97
  refine bj Tryz.call157 (iR.r) s97 ?_
  refine aL 4 rfl (bh ?_)
  obtain rfl := am H
  refine aC tk rfl (ps := [(.list 50 (x97.1.map aJ)),(ae x97.2)]) ⟨_,_,rfl,rfl,_,_,rfl,rfl,rfl⟩ (PLe.q rfl)
 refine ab (aw 2 tk rfl ?_)
 obtain ⟨fl4,H4,Hp4⟩ := bw H
 refine aY (τ := Bool) (γ := Unit) (fun t4 g4=>⟨138,upd (upd (upd (upd (upd (fun _=>.any) 100 (aF t4)) 18 (ae q.kind)) 4 (.ptr [(ae q.kind),(.str q.table),(.list 9 (q.names.map aB)),(.list 56 (q.exprs.map bg)),(.list 66 (q.aggregates.map cn)),(.list 4 (q.descending.map cz)),(ae q.count),(ae q.offset),(.list 35 (q.inputs.map ba))])) 3 (.ptr [(.list 91 (c.s.tables.map bv)),(.list 142 (c.s.foreignKeys.map cy)),(.list 148 (c.s.constraints.map cJ)),(.list 50 (c.vars.map aJ))])) 2 (.list 39 (inA.map (au 50 aJ))),fun _=>none,fun _=>none⟩) (fun t=>t = fl4) ?_ (fun t4 g4 hn4=>?_)
 ·have H := H4
  refine aP rfl H (fun H=>?_) (fun H=>?_)
  ·refine av ?_
   subst H
   refine aQ (q.kind == (3 : Int)) () rfl (Gh.le (aa (aa (aa (aa (aa aj))))) ah ag)
  refine bm 2 tk rfl ?_
  subst H
  refine aQ (q.kind == (8 : Int)) () rfl (Gh.le (aa (aa (aa (aa (aa aj))))) ah ag)
 subst hn4
 have H := Hp4
 refine aP rfl H (fun H=>?_) (fun H=>?_)
 ·refine ab (bo tk mok ⟨false,false,[]⟩ [0,1,2,3,4,5,6,7,8,9] rfl (by decide +kernel) rfl (aL 3 rfl ?_))
  obtain ⟨x106,k106,H⟩ := aX H
  refine cj k106.1 (aI (fun _=>rfl) k106.2) ?_
  refine cq rfl ?_
  obtain ⟨x108,h108,H⟩ := ax H
  have s108 := mG c q x106 _ h108
  refine bj Tryz.call158 (iR.r) s108 ?_
  refine aL 4 rfl (bh ?_)
  obtain rfl := am H
  refine aC tk rfl (ps := [(.list 50 (x108.1.map aJ)),(ae x108.2)]) ⟨_,_,rfl,rfl,_,_,rfl,rfl,rfl⟩ (PLe.q rfl)
 refine aw 2 tk rfl ?_
 refine aP rfl H (fun H=>?_) (fun H=>?_)
 ·refine ab (ac (al 2 tk rfl (aN tk (zl _) ?_)))
  refine ao tk rfl (af ?_)
  obtain ⟨fl5,H5,Hp5⟩ := ax H
  refine bP tk 114 rfl rfl (fun hz5 _=>?_)
  rw [zl] at hz5
  refine aY (τ := Unit) (γ := Unit) (fun s5 g5=>⟨138,upd (fun _=>.any) 2 (.list 39 (inA.map (au 50 aJ))),fun _=>none,fun _=>none⟩) (fun t=>fl5 = .next t) ?_ (fun s5 g5 hn5=>?_)
  ·refine az ?_
   refine bC (fun j5 s5 g5=>⟨138,upd (upd (upd (upd (upd (fun _=>.any) 116 (ae (j5 : Int))) 115 (ae (q.exprs.length : Int))) 114 (.list 56 (q.exprs.map bg))) 3 (.ptr [(.list 91 (c.s.tables.map bv)),(.list 142 (c.s.foreignKeys.map cy)),(.list 148 (c.s.constraints.map cJ)),(.list 50 (c.vars.map aJ))])) 2 (.list 39 (inA.map (au 50 aJ))),fun _=>none,fun _=>none⟩) () H5 (Gh.le (aa (aa (aa (aa (aa aj))))) ah ag) (fun j5 s5 g5 hj5 hr5=>?_)
   refine aw 1 tk rfl (ab ?_)
   refine aZ rfl (fun h=>?_) (fun h=>?_)
   ·have hl5 := co h
    obtain ⟨x5,fb5,hx5,H,hg5⟩ := rMc hl5 hr5
    refine av (ab (az (ab (ac (bs tk (zn j5) (bO eT hx5) ?_)))))
    refine ao tk rfl ?_
    refine bu tk fun b13=>?_
    refine aE tk ?_
    refine af (ab (bo tk mok ⟨true,false,[123,125]⟩ [0,1,2,3,4,5,6,7,8,9,10,11,12,13] rfl (by decide +kernel) rfl (cq rfl ?_)))
    obtain ⟨x122,k122,H⟩ := aX H
    refine cj k122.1 (aI (fun _=>rfl) k122.2) ?_
    refine aL 3 rfl (cC ?_)
    obtain ⟨x127,h127,H⟩ := bw H
    have s127 := mQ x122 c.vars x5
    rw [h127] at s127
    refine bj Tryz.call159 (iR.r) s127 ?_
    refine aL 7 rfl (bh (aw 2 tk rfl ?_))
    refine aP rfl H (fun H=>?_) (fun H=>?_)
    ·refine aw 3 tk rfl ?_
     obtain rfl := am H
     have e5 : fl5 = .ret _ := hg5
     subst e5
     obtain rfl := bp Hp5
     refine aC tk rfl (ps := [(.val (.slice none 0 0)),(ae x127.2.2)]) ⟨_,_,rfl,rfl,_,_,rfl,rfl,rfl⟩ (PLe.of2 (PLe2.tup (iG.cons (PLe2.nil tk rfl) (iG.cons (PLe2.of_eq rfl) iG.nil))))
    refine av (aR (bm 2 tk rfl ?_))
    obtain rfl := am H
    refine aK () () ⟨hl5,hg5⟩ (Gh.le (aa (aa (aa (aa (aH (PLe.q (aU (by omega))) aj))))) ah ag)
   have hn5 := rMd (cp h) hr5
   refine aO rfl ?_
   refine aQ s5 g5 hn5 (Gh.le (aa aj) ah ag)
  have H := cl hn5 Hp5
  refine aR (ab (ac (ao tk rfl ?_)))
  obtain ⟨x136,k136,H⟩ := aX H
  refine bs tk k136.1 (aI (fun _=>rfl) k136.2) ?_
  refine al 3 tk rfl (af ?_)
  obtain rfl := am H
  refine aC tk rfl (ps := [(.list 50 (x136.map aJ)),(ae 0)]) ⟨_,_,rfl,rfl,_,_,rfl,rfl,rfl⟩ (PLe.q rfl)
 refine av (aR (ab (ac (ao tk rfl ?_))))
 obtain ⟨x136,k136,H⟩ := aX H
 refine bs tk k136.1 (aI (fun _=>rfl) k136.2) ?_
 refine al 3 tk rfl (af ?_)
 obtain rfl := am H
 refine aC tk rfl (ps := [(.list 50 (x136.map aJ)),(ae 0)]) ⟨_,_,rfl,rfl,_,_,rfl,rfl,rfl⟩ (PLe.q rfl)
def iV (rA : LRun) (q : LQuery) (cols : List LCol) (inA : Rz) : Option (Rz) :=
 bf (
  cond ((q.exprs.length : Int) == (0 : Int))
   (([[]],[[]]))
   (([],[]))) fun (t1 : Rz × List Rz) =>
 ai (aW (σ := Rz × List Rz) (ρ := Empty) (fun (_ : Nat) (x2 : Rq) (s2 : Rz × List Rz) =>
  ai (dU rA cols x2 q.exprs) fun x38 =>
  ai (cf s2.1 (fun a0=>gu a0 x38)) fun x41 =>
  ai (cE (x41.2.length = s2.1.length) ()) fun (_ : Unit) =>
  ai (
   cond (decide (x41.1 < (0 : Int)))
    (ai (dT 24 x41.2 ([x38] : Rz)) fun (x49 : Rz) =>
    ai (dT 24 s2.2 ([[]] : List Rz)) fun (x52 : List Rz) =>
    some (x49,x52,(x41.2.length : Int)))
    (some (x41.2,s2.2,x41.1))) fun (t7 : Rz × List Rz × Int) =>
  ai (aG t7.2.1 t7.2.2) fun (x57 : Rz) =>
  ai (dT 24 x57 ([x2] : Rz)) fun (x61 : Rz) =>
  ai (aG t7.2.1 t7.2.2) fun (_ : Rz) =>
  bf (t7.2.1.set t7.2.2.toNat x61) fun (y8 : List Rz) =>
  some (.next (t7.1,y8))) 0 inA (t1.1,t1.2)) fun fl2=>fl2.thenP fun (s2 : Rz × List Rz) =>
 ai (cE (s2.2.length * 24 ≤ 2 ^ 47) ()) fun (_ : Unit) =>
 ai (ni (s2.1.length : Int)) fun (n10 : Nat) =>
 ai (aW (σ := Rz) (ρ := Empty) (fun (j10 : Nat) (_ : Nat) (s10 : Rz) =>
  ai (aG s2.1 (j10 : Int)) fun (x69 : Rq) =>
  ai (aW (σ := Rq) (ρ := Empty) (fun (_ : Nat) (x13 : LAggregateCall) (s13 : Rq) =>
   ai (aG s2.2 (j10 : Int)) fun (x86 : Rz) =>
   ai (jF rA x13 cols x86) fun x88 =>
   ai (dT 32 s13 ([x88] : Rq)) fun (x90 : Rq) =>
   some (.next x90)) 0 q.aggregates x69) fun fl13=>fl13.thenP fun (s13 : Rq) =>
  ai (dT 24 s10 ([s13] : Rz)) fun (x95 : Rz) =>
  some (.next x95)) 0 (List.range n10) []) fun fl10=>fl10.thenP fun (s10 : Rz) =>
 some s10
theorem rE (rA : LRun) (q : LQuery) (cols : List LCol) (inA : Rz) (r : Rz) (H : iV rA q cols inA = some r) :
  bc Tryz.prog 141 [(.agg (iB rA)),(.agg (bE q)),(.list 50 (cols.map aJ)),(.list 51 (inA.map (au 53 ak)))] (.list 51 (r.map (au 53 ak))) := by
 unfold iV at H
 refine PH.aD Tryz.func141 Tryz.ntmps141 ?_
 refine ab (ac (aV ?_))
 refine aV ?_
 refine ao tk rfl (af (aw 1 tk rfl (aw 1 tk rfl (ab (ab (ac (al 2 tk rfl (aN tk (zl _) ?_))))))))
 refine ao tk rfl (af ?_)
 obtain ⟨fl1,H1,Hp1⟩ := bw H
 refine aY (τ := Rz × List Rz) (γ := OwnRef × (Nat × Nat × (Nat → OwnRef))) (fun t1 g1=>⟨98,upd (upd (upd (upd (upd (upd (fun _=>.any) 10 (.val (iW g1.2.1 t1.2.length g1.2.2.1))) 9 (.own 25 g1.1 (t1.1.map (au 53 ak)).length)) 5 (.ptr [(ae q.kind),(.str q.table),(.list 9 (q.names.map aB)),(.list 56 (q.exprs.map bg)),(.list 66 (q.aggregates.map cn)),(.list 4 (q.descending.map cz)),(ae q.count),(ae q.offset),(.list 35 (q.inputs.map ba))])) 4 (.ptr [(.list 91 (rA.s.tables.map bv)),(.list 142 (rA.s.foreignKeys.map cy)),(.list 148 (rA.s.constraints.map cJ)),(.list 87 (rA.st.map br)),(.list 53 (rA.args.map ak)),(.list 50 (rA.vars.map aJ)),(.list 9 (rA.names.map aB)),(.list 53 (rA.vals.map ak))])) 3 (.list 51 (inA.map (au 53 ak)))) 2 (.list 50 (cols.map aJ)),upd (fun _=>none) 990 (iJ g1.2.1 g1.2.2.2 (List.map (List.map (au 53 ak)) t1.2) g1.2.2.1),eX 51 g1.2.2.2 (List.map (List.map (au 53 ak)) t1.2) (upd (fun _=>none) 25 (some ⟨g1.1,51,(t1.1.map (au 53 ak)),true⟩))⟩) (fun t=>t = fl1) ?_ (fun t1 g1 hn1=>?_)
 ·have H := H1
  refine aP rfl H (fun H=>?_) (fun H=>?_)
  ·refine ac ?_
   refine pK (rows' := List.map (au 53 ak) ([[]] : Rz)) tk rfl rfl rfl rfl rfl rfl rfl rfl rfl (iG.cons (PLe2.nil tk rfl) iG.nil) fun g25=>?_
   refine sU 990 51 tk rfl rfl rfl rfl rfl rfl rfl rfl fun bf26 cf26=>?_
   refine al 2 tk rfl (af ?_)
   subst H
   refine aQ ([[]],[[]]) (g25,(bf26,cf26,(fun _=>⟨none,0⟩))) rfl (Gh.le (aa (aa (aa (aa (aa (aa aj)))))) (kA rfl ah) (kd (fun i rs h=>by first | exact eO h | (simp only [lN,gK,gX,Nat.reduceLT]; exact eO h)) (ay ag)))
  refine av ?_
  subst H
  refine ic tk 9 25 (e := 51) rfl rfl ?_
  refine aQ ([],[]) (⟨none,0⟩,(0,0,fun _=>⟨none,0⟩)) rfl (Gh.le (aa (aa (aa (aa (aa (aa aj)))))) (sM ah) (sL (ay ag)))
 subst hn1
 have H := Hp1
 refine ab (ab (ac (ao tk rfl (aN tk (zl _) ?_))))
 refine ao tk rfl (af ?_)
 obtain ⟨fl2,H2,Hp2⟩ := ax H
 refine bP tk 27 rfl rfl (fun hz2 _=>?_)
 rw [zl] at hz2
 refine aY (τ := Rz × List Rz) (γ := OwnRef × (Nat × Nat × (Nat → OwnRef))) (fun s2 g2=>⟨98,upd (upd (upd (upd (upd (fun _=>.any) 10 (.val (iW g2.2.1 s2.2.length g2.2.2.1))) 9 (.own 25 g2.1 (s2.1.map (au 53 ak)).length)) 5 (.ptr [(ae q.kind),(.str q.table),(.list 9 (q.names.map aB)),(.list 56 (q.exprs.map bg)),(.list 66 (q.aggregates.map cn)),(.list 4 (q.descending.map cz)),(ae q.count),(ae q.offset),(.list 35 (q.inputs.map ba))])) 4 (.ptr [(.list 91 (rA.s.tables.map bv)),(.list 142 (rA.s.foreignKeys.map cy)),(.list 148 (rA.s.constraints.map cJ)),(.list 87 (rA.st.map br)),(.list 53 (rA.args.map ak)),(.list 50 (rA.vars.map aJ)),(.list 9 (rA.names.map aB)),(.list 53 (rA.vals.map ak))])) 2 (.list 50 (cols.map aJ)),upd (fun _=>none) 990 (iJ g2.2.1 g2.2.2.2 (List.map (List.map (au 53 ak)) s2.2) g2.2.2.1),eX 51 g2.2.2.2 (List.map (List.map (au 53 ak)) s2.2) (upd (fun _=>none) 25 (some ⟨g2.1,51,(s2.1.map (au 53 ak)),true⟩))⟩) (fun t=>fl2 = .next t) ?_ (fun s2 g2 hn2=>?_)
 ·refine az ?_
  refine bC (fun j2 s2 g2=>⟨98,upd (upd (upd (upd (upd (upd (upd (upd (fun _=>.any) 29 (ae (j2 : Int))) 28 (ae (inA.length : Int))) 27 (.list 51 (inA.map (au 53 ak)))) 10 (.val (iW g2.2.1 s2.2.length g2.2.2.1))) 9 (.own 25 g2.1 (s2.1.map (au 53 ak)).length)) 5 (.ptr [(ae q.kind),(.str q.table),(.list 9 (q.names.map aB)),(.list 56 (q.exprs.map bg)),(.list 66 (q.aggregates.map cn)),(.list 4 (q.descending.map cz)),(ae q.count),(ae q.offset),(.list 35 (q.inputs.map ba))])) 4 (.ptr [(.list 91 (rA.s.tables.map bv)),(.list 142 (rA.s.foreignKeys.map cy)),(.list 148 (rA.s.constraints.map cJ)),(.list 87 (rA.st.map br)),(.list 53 (rA.args.map ak)),(.list 50 (rA.vars.map aJ)),(.list 9 (rA.names.map aB)),(.list 53 (rA.vals.map ak))])) 2 (.list 50 (cols.map aJ)),upd (fun _=>none) 990 (iJ g2.2.1 g2.2.2.2 (List.map (List.map (au 53 ak)) s2.2) g2.2.2.1),eX 51 g2.2.2.2 (List.map (List.map (au 53 ak)) s2.2) (upd (fun _=>none) 25 (some ⟨g2.1,51,(s2.1.map (au 53 ak)),true⟩))⟩) (g1.1,(g1.2.1,g1.2.2.1,g1.2.2.2)) H2 (Gh.le (aa (aa (aa (aa (aa (aa (aa (aa aj)))))))) (kA rfl ah) (kd (fun i rs h=>by first | exact eO h | (simp only [lN,gK,gX,Nat.reduceLT]; exact eO h)) (ay ag))) (fun j2 s2 g2 hj2 hr2=>?_)
  refine aw 1 tk rfl (ab ?_)
  refine aZ rfl (fun h=>?_) (fun h=>?_)
  ·have hl2 := co h
   obtain ⟨x2,fb2,hx2,H,hg2⟩ := rMc hl2 hr2
   refine av (ab (az (ab (ac ?_))))
   refine bs tk (zn j2) (bO (fun _=>rfl) hx2) ?_
   refine al 2 tk rfl (af (ab (ac (al 5 tk rfl ?_))))
   obtain ⟨x38,h38,H⟩ := ax H
   have s38 := jU rA cols x2 q.exprs _ h38
   refine aq Tryz.call140 (iR.r) s38 ?_
   refine bu tk fun b13=>?_
   refine aE tk ?_
   refine af (ab (ac (ao tk rfl (cw (Gh.freezeB 13 rfl rfl rfl rfl) (ao tk rfl ?_)))))
   obtain ⟨x41,h41,H⟩ := ax H
   have s41 := fN g2.1 s2.1 (fun a0=>gu a0 x38) Tryz.call172 (fun a0 r h=>qG a0 x38 r h) _ h41
   obtain ⟨_,q41_0,H⟩ := ax H
   have l41_0 := (bI q41_0).1
   have z41_0 : (List.map (au 53 ak) s2.1).length = (List.map (au 53 ak) x41.2).length := by simpa using (l41_0).symm
   refine ci (g := 22) rfl rfl rfl Tryz.call22 [] [(25,0)] rfl rfl rfl rfl (iR.of2 (iG.cons (PLe2.own rfl) (iG.cons (PLe2.of_eq rfl) iG.nil))) (by rw [bS,bJ,bR]; rfl) s41 ?_
   rintro u41 H41h ⟨rfl,rfl⟩
   refine ⟨_,rfl,?_⟩
   refine cw (st' := ⟨_,_,upd (fun _=>none) 990 (iJ g2.2.1 g2.2.2.2 (List.map (List.map (au 53 ak)) s2.2) g2.2.2.1),eX 51 g2.2.2.2 (List.map (List.map (au 53 ak)) s2.2) (upd (fun _=>none) 25 (some ⟨g2.1,51,(x41.2.map (au 53 ak)),true⟩))⟩) (Gh.le (bQ _ _) (kA rfl ah) (kd (fun i rs h=>by first | exact eO h | (simp only [gK,gX,Nat.reduceLT]; exact eO h)) (ay ag))) ?_
   refine ao tk rfl (af (ab (aw 2 tk rfl ?_)))
   obtain ⟨fl7,H7,Hp7⟩ := ax H
   refine aY (τ := Rz × List Rz × Int) (γ := OwnRef × (Nat × Nat × (Nat → OwnRef))) (fun t7 g7=>⟨98,upd (upd (upd (upd (upd (upd (upd (upd (upd (upd (fun _=>.any) 29 (ae (j2 : Int))) 28 (ae (inA.length : Int))) 27 (.list 51 (inA.map (au 53 ak)))) 14 (ae t7.2.2)) 12 (.list 53 (x2.map ak))) 10 (.val (iW g7.2.1 t7.2.1.length g7.2.2.1))) 9 (.own 25 g7.1 (t7.1.map (au 53 ak)).length)) 5 (.ptr [(ae q.kind),(.str q.table),(.list 9 (q.names.map aB)),(.list 56 (q.exprs.map bg)),(.list 66 (q.aggregates.map cn)),(.list 4 (q.descending.map cz)),(ae q.count),(ae q.offset),(.list 35 (q.inputs.map ba))])) 4 (.ptr [(.list 91 (rA.s.tables.map bv)),(.list 142 (rA.s.foreignKeys.map cy)),(.list 148 (rA.s.constraints.map cJ)),(.list 87 (rA.st.map br)),(.list 53 (rA.args.map ak)),(.list 50 (rA.vars.map aJ)),(.list 9 (rA.names.map aB)),(.list 53 (rA.vals.map ak))])) 2 (.list 50 (cols.map aJ)),upd (fun _=>none) 990 (iJ g7.2.1 g7.2.2.2 (List.map (List.map (au 53 ak)) t7.2.1) g7.2.2.1),eX 51 g7.2.2.2 (List.map (List.map (au 53 ak)) t7.2.1) (upd (fun _=>none) 25 (some ⟨g7.1,51,(t7.1.map (au 53 ak)),true⟩))⟩) (fun t=>t = fl7) ?_ (fun t7 g7 hn7=>?_)
   ·have H := H7
    refine aP rfl H (fun H=>?_) (fun H=>?_)
    ·refine ab (ac (ao tk rfl (ip tk (z41_0.trans (zl _)) ?_)))
     refine ao tk rfl (af (ac (al 2 tk rfl (cQ tk (rows' := List.map (au 53 ak) ([x38] : Rz)) (kj.refl _) ?_))))
     obtain ⟨x49,h49,H⟩ := ax H
     have k49 := cY h49
     refine cZ (rows2' := List.map (au 53 ak) ([x38] : Rz)) (rows' := List.map (au 53 ak) x49) tk rfl rfl rfl rfl rfl rfl rfl rfl rfl rfl rfl z41_0 rfl (kj.refl _) (et k49.1) (ew k49.2.1) (ez k49.2.2) fun g49=>?_
     refine ao tk rfl (qS tk rfl rfl rfl rfl rfl rfl ?_)
     obtain ⟨x52,h52,H⟩ := ax H
     have k52 := cY h52
     refine cw (st' := ⟨_,_,upd (fun _=>none) 990 (iJ g2.2.1 g2.2.2.2 (List.map (List.map (au 53 ak)) s2.2) g2.2.2.1),eX 51 g2.2.2.2 (List.map (List.map (au 53 ak)) s2.2) (upd (fun _=>none) 25 (some ⟨g49,51,(x49.map (au 53 ak)),true⟩))⟩) (Gh.le (bQ _ _) (kA rfl ah) (kd (fun i rs h=>by first | exact eO h | (simp only [lN,Nat.reduceLT]; exact eO h)) (ay ag))) ?_
     refine sV 990 51 tk rfl rfl rfl rfl rfl rfl rfl rfl rfl rfl rfl (zl _).symm rfl rfl (by rw [zl]; exact k52.1) (by rw [zl]; exact k52.2.1) fun bf52 cf52=>?_
     have hz52 : List.map (List.map (au 53 ak)) x52 = List.map (List.map (au 53 ak)) s2.2 ++ [[]] := by rw [k52.2.2,List.map_append]; rfl
     refine cw (st' := ⟨_,_,upd (fun _=>none) 990 (iJ bf52 (upd g2.2.2.2 s2.2.length ⟨none,0⟩) (List.map (List.map (au 53 ak)) x52) cf52),eX 51 (upd g2.2.2.2 s2.2.length ⟨none,0⟩) (List.map (List.map (au 53 ak)) x52) (upd (fun _=>none) 25 (some ⟨g49,51,(x49.map (au 53 ak)),true⟩))⟩) (Gh.le (bQ _ _) (kA (by rw [hz52]; rfl) ah) (kd (fun i rs h=>by rw [hz52] at h; exact eO h) (ay ag))) ?_
     refine lc 52 (q := (.val (iW bf52 x52.length cf52))) rfl (PLe.q (by rw [k52.2.2,List.length_append]; rfl)) ?_
     refine al 2 tk rfl (af ?_)
     obtain rfl := am H
     refine aQ (x49,x52,(x41.2.length : Int)) (g49,(bf52,cf52,(upd g2.2.2.2 s2.2.length ⟨none,0⟩))) rfl (Gh.le (aa (aa (aa (aa (aa (aa (aa (aa (aa (aa aj)))))))))) (kA rfl ah) (kd (fun i rs h=>by first | exact eO h | (simp only [lN,gK,gX,Nat.reduceLT]; exact eO h)) (ay ag)))
    refine av ?_
    obtain rfl := am H
    refine aQ (x41.2,s2.2,x41.1) (g2.1,(g2.2.1,g2.2.2.1,g2.2.2.2)) rfl (Gh.le (aa (aa (aa (aH (PLe.of2 (PLe2.of_eq (congrArg (PV.own 25 g2.1) z41_0))) (aa (aa (aa (aa (aa (aa aj)))))))))) (kA rfl ah) (kd (fun i rs h=>by first | exact eO h | (simp only [lN,gK,gX,Nat.reduceLT]; exact eO h)) (ay ag)))
   subst hn7
   have H := Hp7
   refine ac (al 4 tk rfl ?_)
   obtain ⟨x57,k57,H⟩ := aX H
   have wk57 : (List.map (List.map (au 53 ak)) t7.2.1)[t7.2.2.toNat]? = some (List.map (au 53 ak) x57) := by rw [List.getElem?_map,k57.2]; rfl
   refine su 990 tk rfl rfl rfl rfl rfl rfl rfl rfl ⟨k57.1,(zg.1 k57.2).1⟩ rfl ?_
   refine tc tk rfl rfl rfl rfl rfl (rj wk57) (famCells_get wk57) rfl (ao tk rfl (cQ tk (rows' := List.map (au 53 ak) ([x2] : Rz)) (kj.refl _) ?_))
   obtain ⟨x61,h61,H⟩ := ax H
   have k61 := cY h61
   refine cZ (rows2' := List.map (au 53 ak) ([x2] : Rz)) (rows' := List.map (au 53 ak) x61) tk rfl rfl rfl rfl rfl rfl rfl rfl rfl rfl (eO wk57) rfl rfl (kj.refl _) (et k61.1) (ew k61.2.1) (ez k61.2.2) fun g61=>?_
   obtain ⟨x62,k62,H⟩ := aX H
   have wk62 : (List.map (List.map (au 53 ak)) t7.2.1)[t7.2.2.toNat]? = some (List.map (au 53 ak) x62) := by rw [List.getElem?_map,k62.2]; rfl
   refine su 990 tk rfl rfl rfl rfl rfl rfl rfl rfl ⟨k62.1,(zg.1 k62.2).1⟩ rfl ?_
   obtain ⟨y8,hy8,H⟩ := bw H
   have hzy8 : List.map (List.map (au 53 ak)) y8 = (List.map (List.map (au 53 ak)) t7.2.1).set t7.2.2.toNat (List.map (au 53 ak) x61) := by rw [← hy8,List.map_set]
   have hly8 : y8.length = t7.2.1.length := by rw [← hy8,List.length_set]
   refine sR tk rfl rfl rfl rfl rfl rfl (rj wk62) rfl rfl (by rw [ou]; exact Nat.lt_of_lt_of_le (zg.1 wk62).1 (jJ _ _)) (famCells_set wk62 _) ?_
   refine cw (st' := ⟨_,_,upd (fun _=>none) 990 (iJ g7.2.1 (upd g7.2.2.2 t7.2.2.toNat g61) (List.map (List.map (au 53 ak)) y8) g7.2.2.1),eX 51 (upd g7.2.2.2 t7.2.2.toNat g61) (List.map (List.map (au 53 ak)) y8) (upd (fun _=>none) 25 (some ⟨g7.1,51,(t7.1.map (au 53 ak)),true⟩))⟩) (Gh.le (bQ _ _) (kA (famB_put wk62 hzy8) ah) (kd (famO_put wk62 hzy8) (sZ (by rw [fK _ _ (by unfold bU; omega)]; rfl) ag))) ?_
   refine lc 10 (q := (.val (iW g7.2.1 y8.length g7.2.2.1))) rfl (PLe.q (by rw [hly8]; rfl)) ?_
   refine lc 53 (q := (.val (iW g7.2.1 y8.length g7.2.2.1))) rfl (PLe.q (by rw [hly8]; rfl)) ?_
   refine lc 55 (q := (.val (iW g7.2.1 y8.length g7.2.2.1))) rfl (PLe.q (by rw [hly8]; rfl)) ?_
   refine af (aR (bm 2 tk rfl ?_))
   obtain rfl := am H
   refine aK (t7.1,y8) (g7.1,(g7.2.1,g7.2.2.1,(upd g7.2.2.2 t7.2.2.toNat g61))) ⟨hl2,hg2⟩ (Gh.le (aa (aa (aa (aa (aa (aa (aa (aH (PLe.q (aU (by omega))) aj)))))))) (kA rfl ah) (kd (fun i rs h=>by first | exact eO h | (simp only [lN,gK,gX,Nat.reduceLT]; exact eO h)) (ay ag)))
  have hn2 := rMd (cp h) hr2
  refine aO rfl ?_
  refine aQ s2 g2 hn2 (Gh.le (aa (aa (aa (aa (aa aj))))) (kA rfl ah) (kd (fun i rs h=>by first | exact eO h | (simp only [lN,gK,gX,Nat.reduceLT]; exact eO h)) (ay ag)))
 have H := bn hn2 Hp2
 refine aw 1 tk rfl (ab (ab (ac (ao tk rfl (ip tk (zl _) ?_)))))
 refine ao tk rfl (af ?_)
 obtain ⟨_,hf9,H⟩ := ax H
 have kf9 := (bI hf9).1
 refine sC 10 990 tk (e := 51) (e' := 40) (rows := List.map (au 51 (au 53 ak)) s2.2) rfl rfl rfl (zl _).symm rfl (by rw [zl]; exact kf9) (by rw [zl]; unfold maxLen; omega) (by rw [List.map_map]; rfl) ?_
 obtain ⟨n10,hs10,H⟩ := ax H
 have hz10 := mU hs10
 obtain ⟨fl10,H10,Hp10⟩ := ax H
 refine aY (τ := Rz) (γ := OwnRef) (fun s10 g10=>⟨98,upd (fun _=>.any) 15 (.own 95 g10 (s10.map (au 53 ak)).length),fun _=>none,upd (fun _=>none) 95 (some ⟨g10,51,(s10.map (au 53 ak)),true⟩)⟩) (fun t=>fl10 = .next t) ?_ (fun s10 g10 hn10=>?_)
 ·refine az (ic tk 15 95 (e := 51) rfl rfl ?_)
  refine bC (fun j10 s10 g10=>⟨98,upd (upd (upd (upd (upd (upd (upd (upd (fun _=>.any) 66 (ae (j10 : Int))) 65 (ae (s2.1.length : Int))) 64 (.own 25 g2.1 (s2.1.map (au 53 ak)).length)) 15 (.own 95 g10 (s10.map (au 53 ak)).length)) 10 (.list 40 (s2.2.map (au 51 (au 53 ak))))) 5 (.ptr [(ae q.kind),(.str q.table),(.list 9 (q.names.map aB)),(.list 56 (q.exprs.map bg)),(.list 66 (q.aggregates.map cn)),(.list 4 (q.descending.map cz)),(ae q.count),(ae q.offset),(.list 35 (q.inputs.map ba))])) 4 (.ptr [(.list 91 (rA.s.tables.map bv)),(.list 142 (rA.s.foreignKeys.map cy)),(.list 148 (rA.s.constraints.map cJ)),(.list 87 (rA.st.map br)),(.list 53 (rA.args.map ak)),(.list 50 (rA.vars.map aJ)),(.list 9 (rA.names.map aB)),(.list 53 (rA.vals.map ak))])) 2 (.list 50 (cols.map aJ)),fun _=>none,upd (upd (fun _=>none) 95 (some ⟨g10,51,(s10.map (au 53 ak)),true⟩)) 25 (some ⟨g2.1,51,(s2.1.map (au 53 ak)),true⟩)⟩) (⟨none,0⟩) H10 (Gh.le (aa (aa (aa (aa (aa (aa (aa (aa aj)))))))) ah (ay (ay ag))) (fun j10 s10 g10 hj10 hr10=>?_)
  refine aw 1 tk rfl (ab ?_)
  refine aZ rfl (fun h=>?_) (fun h=>?_)
  ·have hl10 := natLt hz10 h
   obtain ⟨x10,fb10,hx10,H,hg10⟩ := rMc hl10 hr10
   obtain rfl := natX hx10
   refine av (ab (az (ab (ac (ao tk rfl ?_)))))
   obtain ⟨x69,k69,H⟩ := aX H
   refine jW (tag := 25) rfl (fun ho25=>?_)
   refine jM tk ⟨k69.1,(bl k69.2)⟩ (bi ho25 k69.2) ?_
   refine oF tk rfl rfl rfl rfl rfl rfl rfl (aI (fun _=>rfl) k69.2) rfl rfl ?_
   refine al 2 tk rfl (af (ab (ac (ao tk rfl ?_))))
   have s72 := clone_94 (m := 72) x69
   refine ki Tryz.call94 (iR.r) s72 (fun g72=>?_)
   refine ao tk rfl (af (ab (ab (ac (al 2 tk rfl (aN tk (zl _) ?_))))))
   refine ao tk rfl (af ?_)
   obtain ⟨fl13,H13,Hp13⟩ := ax H
   refine bP tk 74 rfl rfl (fun hz13 _=>?_)
   rw [zl] at hz13
   refine aY (τ := Rq) (γ := OwnRef) (fun s13 g13=>⟨98,upd (upd (upd (upd (upd (upd (upd (upd (upd (fun _=>.any) 66 (ae (j10 : Int))) 65 (ae (s2.1.length : Int))) 64 (.own 25 g2.1 (s2.1.map (au 53 ak)).length)) 18 (.own 72 g13 (s13.map ak).length)) 15 (.own 95 g10 (s10.map (au 53 ak)).length)) 10 (.list 40 (s2.2.map (au 51 (au 53 ak))))) 5 (.ptr [(ae q.kind),(.str q.table),(.list 9 (q.names.map aB)),(.list 56 (q.exprs.map bg)),(.list 66 (q.aggregates.map cn)),(.list 4 (q.descending.map cz)),(ae q.count),(ae q.offset),(.list 35 (q.inputs.map ba))])) 4 (.ptr [(.list 91 (rA.s.tables.map bv)),(.list 142 (rA.s.foreignKeys.map cy)),(.list 148 (rA.s.constraints.map cJ)),(.list 87 (rA.st.map br)),(.list 53 (rA.args.map ak)),(.list 50 (rA.vars.map aJ)),(.list 9 (rA.names.map aB)),(.list 53 (rA.vals.map ak))])) 2 (.list 50 (cols.map aJ)),fun _=>none,upd (upd (upd (fun _=>none) 95 (some ⟨g10,51,(s10.map (au 53 ak)),true⟩)) 72 (some ⟨g13,53,(s13.map ak),true⟩)) 25 (some ⟨g2.1,51,(s2.1.map (au 53 ak)),true⟩)⟩) (fun t=>fl13 = .next t) ?_ (fun s13 g13 hn13=>?_)
   ·refine az ?_
    refine bC (fun j13 s13 g13=>⟨98,upd (upd (upd (upd (upd (upd (upd (upd (upd (upd (upd (upd (upd (fun _=>.any) 76 (ae (j13 : Int))) 75 (ae (q.aggregates.length : Int))) 74 (.list 66 (q.aggregates.map cn))) 66 (ae (j10 : Int))) 65 (ae (s2.1.length : Int))) 64 (.own 25 g2.1 (s2.1.map (au 53 ak)).length)) 18 (.own 72 g13 (s13.map ak).length)) 16 (ae (j10 : Int))) 15 (.own 95 g10 (s10.map (au 53 ak)).length)) 10 (.list 40 (s2.2.map (au 51 (au 53 ak))))) 5 (.ptr [(ae q.kind),(.str q.table),(.list 9 (q.names.map aB)),(.list 56 (q.exprs.map bg)),(.list 66 (q.aggregates.map cn)),(.list 4 (q.descending.map cz)),(ae q.count),(ae q.offset),(.list 35 (q.inputs.map ba))])) 4 (.ptr [(.list 91 (rA.s.tables.map bv)),(.list 142 (rA.s.foreignKeys.map cy)),(.list 148 (rA.s.constraints.map cJ)),(.list 87 (rA.st.map br)),(.list 53 (rA.args.map ak)),(.list 50 (rA.vars.map aJ)),(.list 9 (rA.names.map aB)),(.list 53 (rA.vals.map ak))])) 2 (.list 50 (cols.map aJ)),fun _=>none,upd (upd (upd (fun _=>none) 95 (some ⟨g10,51,(s10.map (au 53 ak)),true⟩)) 72 (some ⟨g13,53,(s13.map ak),true⟩)) 25 (some ⟨g2.1,51,(s2.1.map (au 53 ak)),true⟩)⟩) g72 H13 (Gh.le (aa (aa (aa (aa (aa (aa (aa (aa (aa (aa (aa (aa (aa aj))))))))))))) ah (ay (ay (ay ag)))) (fun j13 s13 g13 hj13 hr13=>?_)
    refine aw 1 tk rfl (ab ?_)
    refine aZ rfl (fun h=>?_) (fun h=>?_)
    ·have hl13 := co h
     obtain ⟨x13,fb13,hx13,H,hg13⟩ := rMc hl13 hr13
     refine av (ab (az (ab (ac ?_))))
     refine bs tk (zn j13) (bO (fun _=>rfl) hx13) ?_
     refine ao tk rfl ?_
     refine bu tk fun b20=>?_
     refine aE tk ?_
     refine af ?_
     refine cK (tag := 25) rfl (fun ho25=>?_)
     refine cK (tag := 72) rfl (fun ho72=>?_)
     refine cK (tag := 95) rfl (fun ho95=>?_)
     refine bo tk mok ⟨true,false,[81,87]⟩ [0,1,2,3,4,5,6,7,8,9,10,11] rfl (by decide +kernel) rfl (aL 2 rfl (cC ?_))
     refine aL 3 rfl ?_
     obtain ⟨x86,k86,H⟩ := aX H
     refine cj k86.1 (aI (fun _=>rfl) k86.2) ?_
     refine cq rfl ?_
     obtain ⟨x88,h88,H⟩ := ax H
     have s88 := sn rA x13 cols x86 _ h88
     refine bj Tryz.call173 (iR.r) s88 ?_
     refine cq rfl ?_
     obtain ⟨x90,h90,H⟩ := ax H
     have k90 := cY h90
     refine lb (rows2' := List.map ak ([x88] : Rq)) (rows' := List.map ak x90) tk rfl rfl rfl rfl rfl rfl rfl rfl rfl rfl rfl rfl rfl rfl (kj.refl _) (et k90.1) (ew k90.2.1) (ez k90.2.2) fun g90=>?_
     refine cq rfl (bh (aR (bm 2 tk rfl ?_)))
     obtain rfl := am H
     refine aK x90 g90 ⟨hl13,hg13⟩ (Gh.le (aa (aa (aa (aa (aa (aa (aa (aa (aa (aa (aa (aa (aH (PLe.q (aU (by omega))) aj))))))))))))) ah (ay (ay (ay ag))))
    have hn13 := rMd (cp h) hr13
    refine aO rfl ?_
    refine aQ s13 g13 hn13 (Gh.le (aa (aa (aa (aa (aa (aa (aa (aa (aa aj))))))))) ah (ay (ay (ay ag))))
   have H := bn hn13 Hp13
   refine dX 18 rfl rfl rfl (ac (al 2 tk rfl (cQ tk (rows' := List.map (au 53 ak) ([s13] : Rz)) (kj.refl _) ?_)))
   obtain ⟨x95,h95,H⟩ := ax H
   have k95 := cY h95
   refine cZ (rows2' := List.map (au 53 ak) ([s13] : Rz)) (rows' := List.map (au 53 ak) x95) tk rfl rfl rfl rfl rfl rfl rfl rfl rfl rfl rfl rfl rfl (kj.refl _) (et k95.1) (ew k95.2.1) (ez k95.2.2) fun g95=>?_
   refine ao tk rfl (af (aR (bm 2 tk rfl ?_)))
   obtain rfl := am H
   refine aK x95 g95 ⟨hl10,hg10⟩ (Gh.le (aa (aa (aa (aa (aa (aa (aa (aH (PLe.q (mw hz10 hl10)) aj)))))))) ah (ay (ay ag)))
  have hn10 := rMd (natGe hz10 h) hr10
  refine aO rfl ?_
  refine aQ s10 g10 hn10 (Gh.le (aa aj) ah (ay ag))
 have H := bn hn10 Hp10
 refine aw 2 tk rfl ?_
 obtain rfl := am H
 refine dX 8 rfl rfl rfl ?_
 refine aC tk rfl (ps := [(.list 51 (s10.map (au 53 ak)))]) ⟨_,_,rfl,rfl,rfl⟩ (PLe.q rfl)
def fU (a : Rq) (b : Rq) (c0 : LRun) (c1 : List LCol) (c2 : LQuery) : Option (Int) :=
 ai (dU c0 c1 a c2.exprs) fun x13 =>
 ai (dU c0 c1 b c2.exprs) fun x19 =>
 ai (ij x13 x19 c2.descending) fun x22 =>
 some x22
theorem qQ (a : Rq) (b : Rq) (c0 : LRun) (c1 : List LCol) (c2 : LQuery) (r : Int) (H : fU a b c0 c1 c2 = some r) :
  bc Tryz.prog 175 [(.list 53 (a.map ak)),(.list 53 (b.map ak)),(.ptr (iB c0)),(.ptr [(.list 50 (c1.map aJ))]),(.ptr (bE c2))] (ae r) := by
 unfold fU at H
 refine PH.aD Tryz.func175 Tryz.ntmps175 ?_
 refine aw 1 tk rfl (ab (bo tk mok ⟨false,false,[]⟩ [0,1,2,3,4,6,7,8,9,10,12,13,5,11,14,15] rfl (by decide +kernel) rfl (aL 12 rfl ?_)))
 obtain ⟨x13,h13,H⟩ := ax H
 have s13 := jU c0 c1 a c2.exprs _ h13
 refine bj Tryz.call140 (iR.r) s13 ?_
 obtain ⟨x19,h19,H⟩ := ax H
 have s19 := jU c0 c1 b c2.exprs _ h19
 refine bj Tryz.call140 (iR.r) s19 ?_
 obtain ⟨x22,h22,H⟩ := ax H
 have s22 := qH x13 x19 c2.descending _ h22
 refine bj Tryz.call72 (iR.r) s22 ?_
 refine cq rfl (bh ?_)
 obtain rfl := am H
 refine aC tk rfl (ps := [(ae x22)]) ⟨_,_,rfl,rfl,rfl⟩ (PLe.q rfl)
def iS (sA : LSchema) : Option (Int) :=
 bf (
  cond (decide ((sA.tables.length : Int) > (6 : Int)))
   (true)
   (cond (decide ((sA.foreignKeys.length : Int) > (8 : Int)))
    (true)
    ((decide ((sA.constraints.length : Int) > (8 : Int)))))) fun (t1 : Bool) =>
 cond t1
  (some 2)
  (ai (aW (σ := Unit) (ρ := (Int)) (fun (j2 : Nat) (x2 : LTable) (_ : Unit) =>
   ai (fI x2) fun x37 =>
   cond (x37 != (0 : Int))
    (some (.ret x37))
    (cond (decide ((j2 : Int) > (0 : Int)))
     (ai (aG sA.tables (IntKind.i64.wrap ((j2 : Int) - (1 : Int)))) fun (x50 : LTable) =>
     cond (Op.bytesLess x2.name x50.name || x2.name == x50.name)
      (some (.ret 6))
      (some (.next ())))
     (some (.next ())))) 0 sA.tables ()) fun fl2=>fl2.thenR fun (_ : Unit) =>
  ai (aW (σ := Unit) (ρ := (Int)) (fun (j3 : Nat) (x3 : LForeignKey) (_ : Unit) =>
   ai (fh sA x3) fun x66 =>
   cond (x66 != (0 : Int))
    (some (.ret x66))
    (ai (ny sA.foreignKeys 0 (j3 : Int)) fun (x73 : List LForeignKey) =>
    ai (cv x73 (fun a0=>gv a0 x3)) fun x75 =>
    cond x75
     (some (.ret 5))
     (some (.next ())))) 0 sA.foreignKeys ()) fun fl3=>fl3.thenR fun (_ : Unit) =>
  ai (aW (σ := Unit) (ρ := (Int)) (fun (j4 : Nat) (x4 : LConstraint) (_ : Unit) =>
   ai (ff sA x4) fun x87 =>
   cond (x87 != (0 : Int))
    (some (.ret x87))
    (ai (ny sA.constraints 0 (j4 : Int)) fun (x94 : List LConstraint) =>
    ai (cI x94 x4) fun x96 =>
    cond x96
     (some (.ret 5))
     (some (.next ())))) 0 sA.constraints ()) fun fl4=>fl4.thenR fun (_ : Unit) =>
  some 0)
theorem rt (sA : LSchema) (r : Int) (H : iS sA = some r) :
  bc Tryz.prog 83 [(.agg (eK sA))] (ae r) := by
 unfold iS at H
 refine PH.aD Tryz.func83 Tryz.ntmps83 ?_
 refine ab (ac (aV ?_))
 refine ao tk rfl (af (ab (ab ?_)))
 obtain ⟨fl1,H1,Hp1⟩ := bw H
 refine aY (τ := Bool) (γ := Unit) (fun t1 g1=>⟨98,upd (upd (fun _=>.any) 27 (aF t1)) 1 (.ptr [(.list 91 (sA.tables.map bv)),(.list 142 (sA.foreignKeys.map cy)),(.list 148 (sA.constraints.map cJ))]),fun _=>none,fun _=>none⟩) (fun t=>t = fl1) ?_ (fun t1 g1 hn1=>?_)
 ·have H := H1
  refine ac (al 2 tk rfl (aN tk (zl _) ?_))
  refine al 2 tk rfl ?_
  refine bF rfl rfl rfl H (fun H=>?_) (fun H=>?_)
  ·refine al 11 tk rfl (af ?_)
   subst H
   refine aQ true () rfl (Gh.le (aa (aa aj)) ah ag)
  refine al 2 tk rfl (aN tk (zl _) ?_)
  refine al 3 tk rfl ?_
  refine bF rfl rfl rfl H (fun H=>?_) (fun H=>?_)
  ·refine al 5 tk rfl (af ?_)
   subst H
   refine aQ true () rfl (Gh.le (aa (aa aj)) ah ag)
  refine al 2 tk rfl (aN tk (zl _) ?_)
  refine al 2 tk rfl (af ?_)
  subst H
  refine aQ (decide ((sA.constraints.length : Int) > (8 : Int))) () rfl (Gh.le (aa (aa aj)) ah ag)
 subst hn1
 have H := Hp1
 refine aP rfl H (fun H=>?_) (fun H=>?_)
 ·refine aw 1 tk rfl ?_
  obtain rfl := am H
  refine aC tk rfl (ps := [(ae 2)]) ⟨_,_,rfl,rfl,rfl⟩ (PLe.q rfl)
 refine av (ab (ab (ac (al 2 tk rfl (aN tk (zl _) ?_)))))
 refine ao tk rfl (af ?_)
 obtain ⟨fl2,H2,Hp2⟩ := ax H
 refine bP tk 29 rfl rfl (fun hz2 _=>?_)
 rw [zl] at hz2
 refine aY (τ := Unit) (γ := Unit) (fun s2 g2=>⟨98,upd (fun _=>.any) 1 (.ptr [(.list 91 (sA.tables.map bv)),(.list 142 (sA.foreignKeys.map cy)),(.list 148 (sA.constraints.map cJ))]),fun _=>none,fun _=>none⟩) (fun t=>fl2 = .next t) ?_ (fun s2 g2 hn2=>?_)
 ·refine az ?_
  refine bC (fun j2 s2 g2=>⟨98,upd (upd (upd (upd (fun _=>.any) 31 (ae (j2 : Int))) 30 (ae (sA.tables.length : Int))) 29 (.list 91 (sA.tables.map bv))) 1 (.ptr [(.list 91 (sA.tables.map bv)),(.list 142 (sA.foreignKeys.map cy)),(.list 148 (sA.constraints.map cJ))]),fun _=>none,fun _=>none⟩) () H2 (Gh.le (aa (aa (aa (aa aj)))) ah ag) (fun j2 s2 g2 hj2 hr2=>?_)
  refine aw 1 tk rfl (ab ?_)
  refine aZ rfl (fun h=>?_) (fun h=>?_)
  ·have hl2 := co h
   obtain ⟨x2,fb2,hx2,H,hg2⟩ := rMc hl2 hr2
   refine av (ab (az (ab (ac (ao tk rfl ?_)))))
   refine bs tk (zn j2) (bO (fun _=>rfl) hx2) ?_
   refine ao tk rfl ?_
   refine bu tk fun b4=>?_
   refine ao tk rfl (aE tk ?_)
   refine af (ab (ab (ac (aT tk ?_))))
   obtain ⟨x37,h37,H⟩ := ax H
   have s37 := pu x2 _ h37
   refine aq Tryz.call98 (iR.r) s37 ?_
   refine ao tk rfl (af (aw 2 tk rfl ?_))
   refine aP rfl H (fun H=>?_) (fun H=>?_)
   ·refine aw 2 tk rfl ?_
    obtain rfl := am H
    have e2 : fl2 = .ret _ := hg2
    subst e2
    obtain rfl := bp Hp2
    refine aC tk rfl (ps := [(ae x37)]) ⟨_,_,rfl,rfl,rfl⟩ (PLe.q rfl)
   refine av (ab (bo tk mok ⟨true,false,[47,52]⟩ [0,1,2,3,4,5,6,7,8,9,10,11,12,13] rfl (by decide +kernel) rfl (aL 3 rfl ?_)))
   refine ik H (fun H=>?_) (fun H=>?_)
   ·refine cq rfl (cC ?_)
    refine aL 4 rfl ?_
    obtain ⟨x50,k50,H⟩ := aX H
    refine cj k50.1 (aI (fun _=>rfl) k50.2) ?_
    refine aL 4 rfl (bh ?_)
    refine aP rfl H (fun H=>?_) (fun H=>?_)
    ·refine aw 1 tk rfl ?_
     obtain rfl := am H
     have e2 : fl2 = .ret _ := hg2
     subst e2
     obtain rfl := bp Hp2
     refine aC tk rfl (ps := [(ae 6)]) ⟨_,_,rfl,rfl,rfl⟩ (PLe.q rfl)
    refine av (aR (bm 2 tk rfl ?_))
    obtain rfl := am H
    refine aK () () ⟨hl2,hg2⟩ (Gh.le (aa (aa (aa (aH (PLe.q (aU (by omega))) aj)))) ah ag)
   refine aL 11 rfl (bh (bL rfl (av (aR (bm 2 tk rfl ?_)))))
   obtain rfl := am H
   refine aK () () ⟨hl2,hg2⟩ (Gh.le (aa (aa (aa (aH (PLe.q (aU (by omega))) aj)))) ah ag)
  have hn2 := rMd (cp h) hr2
  refine aO rfl ?_
  refine aQ s2 g2 hn2 (Gh.le (aa aj) ah ag)
 have H := cl hn2 Hp2
 refine ab (ab (ac (al 2 tk rfl (aN tk (zl _) ?_))))
 refine ao tk rfl (af ?_)
 obtain ⟨fl3,H3,Hp3⟩ := ax H
 refine bP tk 57 rfl rfl (fun hz3 _=>?_)
 rw [zl] at hz3
 refine aY (τ := Unit) (γ := Unit) (fun s3 g3=>⟨98,upd (fun _=>.any) 1 (.ptr [(.list 91 (sA.tables.map bv)),(.list 142 (sA.foreignKeys.map cy)),(.list 148 (sA.constraints.map cJ))]),fun _=>none,fun _=>none⟩) (fun t=>fl3 = .next t) ?_ (fun s3 g3 hn3=>?_)
 ·refine az ?_
  refine bC (fun j3 s3 g3=>⟨98,upd (upd (upd (upd (fun _=>.any) 59 (ae (j3 : Int))) 58 (ae (sA.foreignKeys.length : Int))) 57 (.list 142 (sA.foreignKeys.map cy))) 1 (.ptr [(.list 91 (sA.tables.map bv)),(.list 142 (sA.foreignKeys.map cy)),(.list 148 (sA.constraints.map cJ))]),fun _=>none,fun _=>none⟩) () H3 (Gh.le (aa (aa (aa (aa aj)))) ah ag) (fun j3 s3 g3 hj3 hr3=>?_)
  refine aw 1 tk rfl (ab ?_)
  refine aZ rfl (fun h=>?_) (fun h=>?_)
  ·have hl3 := co h
   obtain ⟨x3,fb3,hx3,H,hg3⟩ := rMc hl3 hr3
   refine av (ab (az (ab (ac (ao tk rfl ?_)))))
   refine bs tk (zn j3) (bO (fun _=>rfl) hx3) ?_
   refine ao tk rfl ?_
   refine bu tk fun b7=>?_
   refine ao tk rfl (aE tk ?_)
   refine af (ab (ab (ac (ao tk rfl (aT tk ?_)))))
   obtain ⟨x66,h66,H⟩ := ax H
   have s66 := nc sA x3 _ h66
   refine aq Tryz.call99 (iR.r) s66 ?_
   refine ao tk rfl (af (aw 2 tk rfl ?_))
   refine aP rfl H (fun H=>?_) (fun H=>?_)
   ·refine aw 2 tk rfl ?_
    obtain rfl := am H
    have e3 : fl3 = .ret _ := hg3
    subst e3
    obtain rfl := bp Hp3
    refine aC tk rfl (ps := [(ae x66)]) ⟨_,_,rfl,rfl,rfl⟩ (PLe.q rfl)
   refine av (ab (ac (al 3 tk rfl ?_)))
   obtain ⟨x73,h73,H⟩ := ax H
   have k73 := oS h73
   refine ss tk rfl rfl rfl rfl rfl (zl _) rfl rfl k73.1 (qj k73.2) rfl (cw (Gh.freezeB 7 rfl rfl rfl rfl) (ao tk rfl ?_))
   obtain ⟨x75,h75,H⟩ := ax H
   have s75 := iN x73 (fun a0=>gv a0 x3) Tryz.call101 (fun a0 r h=>qJ a0 x3 r h) _ h75
   refine aq Tryz.call100 (iR.r) s75 ?_
   refine af ?_
   refine aP rfl H (fun H=>?_) (fun H=>?_)
   ·refine aw 1 tk rfl ?_
    obtain rfl := am H
    have e3 : fl3 = .ret _ := hg3
    subst e3
    obtain rfl := bp Hp3
    refine aC tk rfl (ps := [(ae 5)]) ⟨_,_,rfl,rfl,rfl⟩ (PLe.q rfl)
   refine av (aR (bm 2 tk rfl ?_))
   obtain rfl := am H
   refine aK () () ⟨hl3,hg3⟩ (Gh.le (aa (aa (aa (aH (PLe.q (aU (by omega))) aj)))) ah ag)
  have hn3 := rMd (cp h) hr3
  refine aO rfl ?_
  refine aQ s3 g3 hn3 (Gh.le (aa aj) ah ag)
 have H := cl hn3 Hp3
 refine ab (ab (ac (al 2 tk rfl (aN tk (zl _) ?_))))
 refine ao tk rfl (af ?_)
 obtain ⟨fl4,H4,Hp4⟩ := ax H
 refine bP tk 78 rfl rfl (fun hz4 _=>?_)
 rw [zl] at hz4
 refine aY (τ := Unit) (γ := Unit) (fun s4 g4=>⟨98,fun _=>.any,fun _=>none,fun _=>none⟩) (fun t=>fl4 = .next t) ?_ (fun s4 g4 hn4=>?_)
 ·refine az ?_
  refine bC (fun j4 s4 g4=>⟨98,upd (upd (upd (upd (fun _=>.any) 80 (ae (j4 : Int))) 79 (ae (sA.constraints.length : Int))) 78 (.list 148 (sA.constraints.map cJ))) 1 (.ptr [(.list 91 (sA.tables.map bv)),(.list 142 (sA.foreignKeys.map cy)),(.list 148 (sA.constraints.map cJ))]),fun _=>none,fun _=>none⟩) () H4 (Gh.le (aa (aa (aa (aa aj)))) ah ag) (fun j4 s4 g4 hj4 hr4=>?_)
  refine aw 1 tk rfl (ab ?_)
  refine aZ rfl (fun h=>?_) (fun h=>?_)
  ·have hl4 := co h
   obtain ⟨x4,fb4,hx4,H,hg4⟩ := rMc hl4 hr4
   refine av (ab (az (ab (ac (ao tk rfl ?_)))))
   refine bs tk (zn j4) (bO (fun _=>rfl) hx4) ?_
   refine ao tk rfl ?_
   refine bu tk fun b10=>?_
   refine ao tk rfl (aE tk ?_)
   refine af (ab (ab (ac (ao tk rfl (aT tk ?_)))))
   obtain ⟨x87,h87,H⟩ := ax H
   have s87 := nq sA x4 _ h87
   refine aq Tryz.call103 (iR.r) s87 ?_
   refine ao tk rfl (af (aw 2 tk rfl ?_))
   refine aP rfl H (fun H=>?_) (fun H=>?_)
   ·refine aw 2 tk rfl ?_
    obtain rfl := am H
    have e4 : fl4 = .ret _ := hg4
    subst e4
    obtain rfl := bp Hp4
    refine aC tk rfl (ps := [(ae x87)]) ⟨_,_,rfl,rfl,rfl⟩ (PLe.q rfl)
   refine av (ab (bo tk mok ⟨true,false,[92]⟩ [0,1,2,3,4,5] rfl (by decide +kernel) rfl (aL 3 rfl ?_)))
   obtain ⟨x94,h94,H⟩ := ax H
   have k94 := oS h94
   refine Do.subL rfl rfl rfl rfl rfl rfl (zl _) rfl rfl k94.1 (qj k94.2) rfl (cC ?_)
   obtain ⟨x96,h96,H⟩ := ax H
   have s96 := jh x94 x4 _ h96
   refine bj Tryz.call104 (iR.r) s96 ?_
   refine bh ?_
   refine aP rfl H (fun H=>?_) (fun H=>?_)
   ·refine aw 1 tk rfl ?_
    obtain rfl := am H
    have e4 : fl4 = .ret _ := hg4
    subst e4
    obtain rfl := bp Hp4
    refine aC tk rfl (ps := [(ae 5)]) ⟨_,_,rfl,rfl,rfl⟩ (PLe.q rfl)
   refine av (aR (bm 2 tk rfl ?_))
   obtain rfl := am H
   refine aK () () ⟨hl4,hg4⟩ (Gh.le (aa (aa (aa (aH (PLe.q (aU (by omega))) aj)))) ah ag)
  have hn4 := rMd (cp h) hr4
  refine aO rfl ?_
  refine aQ s4 g4 hn4 (Gh.le aj ah ag)
 have H := cl hn4 Hp4
 refine aw 1 tk rfl ?_
 obtain rfl := am H
 refine aC tk rfl (ps := [(ae 0)]) ⟨_,_,rfl,rfl,rfl⟩ (PLe.q rfl)
def dS (data : List (List UInt8)) (a : Int) (b : Int) : Option (Int × Int × (List (List UInt8))) :=
 ai (
  cond (decide ((IntKind.i64.wrap (b - a)) ≥ (8 : Int)))
   (cond (decide ((IntKind.i64.wrap (b - a)) ≥ (50 : Int)))
    (ai (cD data (IntKind.i64.wrap (a + (IntKind.i64.wrap ((IntKind.i64.wrap (Int.tdiv (IntKind.i64.wrap (b - a)) (4 : Int))) * (1 : Int))))) 0) fun x37 =>
    ai (cE (x37.2.1.length = data.length) ()) fun (_ : Unit) =>
    ai (cD x37.2.1 (IntKind.i64.wrap (a + (IntKind.i64.wrap ((IntKind.i64.wrap (Int.tdiv (IntKind.i64.wrap (b - a)) (4 : Int))) * (2 : Int))))) x37.2.2) fun x40 =>
    ai (cE (x40.2.1.length = x37.2.1.length) ()) fun (_ : Unit) =>
    ai (cD x40.2.1 (IntKind.i64.wrap (a + (IntKind.i64.wrap ((IntKind.i64.wrap (Int.tdiv (IntKind.i64.wrap (b - a)) (4 : Int))) * (3 : Int))))) x40.2.2) fun x43 =>
    ai (cE (x43.2.1.length = x40.2.1.length) ()) fun (_ : Unit) =>
    ai (dm x43.2.1 x37.1 x40.1 x43.1 x43.2.2) fun x48 =>
    ai (cE (x48.2.1.length = x43.2.1.length) ()) fun (_ : Unit) =>
    some (x48.2.1,x48.1,x48.2.2))
    (ai (dm data (IntKind.i64.wrap (a + (IntKind.i64.wrap ((IntKind.i64.wrap (Int.tdiv (IntKind.i64.wrap (b - a)) (4 : Int))) * (1 : Int))))) (IntKind.i64.wrap (a + (IntKind.i64.wrap ((IntKind.i64.wrap (Int.tdiv (IntKind.i64.wrap (b - a)) (4 : Int))) * (2 : Int))))) (IntKind.i64.wrap (a + (IntKind.i64.wrap ((IntKind.i64.wrap (Int.tdiv (IntKind.i64.wrap (b - a)) (4 : Int))) * (3 : Int))))) 0) fun x48 =>
    ai (cE (x48.2.1.length = data.length) ()) fun (_ : Unit) =>
    some (x48.2.1,x48.1,x48.2.2)))
   (some (data,(IntKind.i64.wrap (a + (IntKind.i64.wrap ((IntKind.i64.wrap (Int.tdiv (IntKind.i64.wrap (b - a)) (4 : Int))) * (2 : Int))))),0))) fun (t1 : List (List UInt8) × Int × Int) =>
 cond (t1.2.2 == (0 : Int))
  (some (t1.2.1,1,t1.1))
  (cond (t1.2.2 == (12 : Int))
   (some (t1.2.1,2,t1.1))
   (some (t1.2.1,0,t1.1)))
theorem li (g_data : OwnRef) (data : List (List UInt8)) (a : Int) (b : Int) (r : Int × Int × (List (List UInt8))) (H : dS data a b = some r) :
  PH Tryz.prog 127 [(.own 0 g_data (data.map aB).length),(ae a),(ae b)] ⟨fun _=>none,upd (fun _=>none) 0 (some ⟨g_data,9,(data.map aB),true⟩)⟩ (fun u H=>u = (.tup [(ae r.1),(ae r.2.1)]) ∧ H = ⟨fun _=>none,upd (fun _=>none) 0 (some ⟨g_data,9,(r.2.2.map aB),true⟩)⟩) := by
 unfold dS at H
 refine PH.aD Tryz.func127 Tryz.ntmps127 ?_
 refine aw 2 tk rfl (aw 4 tk rfl (ab (ac ?_)))
 refine bu tk fun b9=>?_
 refine af (aw 6 tk rfl (aw 6 tk rfl (aw 6 tk rfl (ab (aw 2 tk rfl ?_)))))
 obtain ⟨fl1,H1,Hp1⟩ := ax H
 refine aY (τ := List (List UInt8) × Int × Int) (γ := Unit) (fun t1 g1=>⟨57,upd (upd (upd (fun _=>.any) 11 (ae t1.2.1)) 9 (.box 9 b9 0)) 0 (.own 0 g_data (t1.1.map aB).length),upd (fun _=>none) 9 (some ⟨b9,[(ae t1.2.2)]⟩),upd (fun _=>none) 0 (some ⟨g_data,9,(t1.1.map aB),true⟩)⟩) (fun t=>t = fl1) ?_ (fun t1 g1 hn1=>?_)
 ·have H := H1
  refine aP rfl H (fun H=>?_) (fun H=>?_)
  ·refine ab (aw 2 tk rfl ?_)
   refine aP rfl H (fun H=>?_) (fun H=>?_)
   ·refine ab (ac (al 2 tk rfl ?_))
    obtain ⟨x37,h37,H⟩ := ax H
    have s37 := fM g_data b9 data (IntKind.i64.wrap (a + (IntKind.i64.wrap ((IntKind.i64.wrap (Int.tdiv (IntKind.i64.wrap (b - a)) (4 : Int))) * (1 : Int))))) 0 _ h37
    obtain ⟨_,q37_0,H⟩ := ax H
    have l37_0 := (bI q37_0).1
    have z37_0 : (List.map aB data).length = (List.map aB x37.2.1).length := by simpa using (l37_0).symm
    refine ci (g := 166) rfl rfl rfl Tryz.call166 [(9,1502)] [(0,0)] rfl rfl rfl rfl (iR.of2 (iG.cons (PLe2.own rfl) (iG.cons (PLe2.of_eq rfl) (iG.cons PLe2.boxT iG.nil)))) (by rw [dp,bS,bJ,bR]; rfl) s37 ?_
    rintro u37 H37h ⟨rfl,rfl⟩
    refine ⟨_,rfl,?_⟩
    refine cw (st' := ⟨_,_,upd (fun _=>none) 9 (some ⟨b9,[(ae x37.2.2)]⟩),upd (fun _=>none) 0 (some ⟨g_data,9,(x37.2.1.map aB),true⟩)⟩) (Gh.le (bQ _ _) (aA rfl (iR.r) ah) (ay ag)) ?_
    refine ao tk rfl (af (ab (ac (al 2 tk rfl ?_))))
    obtain ⟨x40,h40,H⟩ := ax H
    have s40 := fM g_data b9 x37.2.1 (IntKind.i64.wrap (a + (IntKind.i64.wrap ((IntKind.i64.wrap (Int.tdiv (IntKind.i64.wrap (b - a)) (4 : Int))) * (2 : Int))))) x37.2.2 _ h40
    obtain ⟨_,q40_0,H⟩ := ax H
    have l40_0 := (bI q40_0).1
    have z40_0 : (List.map aB x37.2.1).length = (List.map aB x40.2.1).length := by simpa using (l40_0).symm
    refine ci (g := 166) rfl rfl rfl Tryz.call166 [(9,1502)] [(0,0)] rfl rfl rfl rfl (iR.of2 (iG.cons (PLe2.own z37_0) (iG.cons (PLe2.of_eq rfl) (iG.cons PLe2.boxT iG.nil)))) (by rw [dp,bS,bJ,bR]; rfl) s40 ?_
    rintro u40 H40h ⟨rfl,rfl⟩
    refine ⟨_,rfl,?_⟩
    refine cw (st' := ⟨_,_,upd (fun _=>none) 9 (some ⟨b9,[(ae x40.2.2)]⟩),upd (fun _=>none) 0 (some ⟨g_data,9,(x40.2.1.map aB),true⟩)⟩) (Gh.le (bQ _ _) (aA rfl (iR.r) ah) (ay ag)) ?_
    refine ao tk rfl (af (ac (al 2 tk rfl ?_)))
    obtain ⟨x43,h43,H⟩ := ax H
    have s43 := fM g_data b9 x40.2.1 (IntKind.i64.wrap (a + (IntKind.i64.wrap ((IntKind.i64.wrap (Int.tdiv (IntKind.i64.wrap (b - a)) (4 : Int))) * (3 : Int))))) x40.2.2 _ h43
    obtain ⟨_,q43_0,H⟩ := ax H
    have l43_0 := (bI q43_0).1
    have z43_0 : (List.map aB x40.2.1).length = (List.map aB x43.2.1).length := by simpa using (l43_0).symm
    refine ci (g := 166) rfl rfl rfl Tryz.call166 [(9,1502)] [(0,0)] rfl rfl rfl rfl (iR.of2 (iG.cons (PLe2.own (z37_0.trans z40_0)) (iG.cons (PLe2.of_eq rfl) (iG.cons PLe2.boxT iG.nil)))) (by rw [dp,bS,bJ,bR]; rfl) s43 ?_
    rintro u43 H43h ⟨rfl,rfl⟩
    refine ⟨_,rfl,?_⟩
    refine cw (st' := ⟨_,_,upd (fun _=>none) 9 (some ⟨b9,[(ae x43.2.2)]⟩),upd (fun _=>none) 0 (some ⟨g_data,9,(x43.2.1.map aB),true⟩)⟩) (Gh.le (bQ _ _) (aA rfl (iR.r) ah) (ay ag)) ?_
    refine ao tk rfl (af (ac (al 4 tk rfl ?_)))
    obtain ⟨x48,h48,H⟩ := ax H
    have s48 := gZ g_data b9 x43.2.1 x37.1 x40.1 x43.1 x43.2.2 _ h48
    obtain ⟨_,q48_0,H⟩ := ax H
    have l48_0 := (bI q48_0).1
    have z48_0 : (List.map aB x43.2.1).length = (List.map aB x48.2.1).length := by simpa using (l48_0).symm
    refine ci (g := 167) rfl rfl rfl Tryz.call167 [(9,1504)] [(0,0)] rfl rfl rfl rfl (iR.of2 (iG.cons (PLe2.own ((z37_0.trans z40_0).trans z43_0)) (iG.cons (PLe2.of_eq rfl) (iG.cons (PLe2.of_eq rfl) (iG.cons (PLe2.of_eq rfl) (iG.cons PLe2.boxT iG.nil)))))) (by rw [dp,bS,bJ,bR]; rfl) s48 ?_
    rintro u48 H48h ⟨rfl,rfl⟩
    refine ⟨_,rfl,?_⟩
    refine cw (st' := ⟨_,_,upd (fun _=>none) 9 (some ⟨b9,[(ae x48.2.2)]⟩),upd (fun _=>none) 0 (some ⟨g_data,9,(x48.2.1.map aB),true⟩)⟩) (Gh.le (bQ _ _) (aA rfl (iR.r) ah) (ay ag)) ?_
    refine ao tk rfl (af ?_)
    obtain rfl := am H
    refine aQ (x48.2.1,x48.1,x48.2.2) () rfl (Gh.le (aH (PLe.of2 (PLe2.of_eq (congrArg (PV.own 0 g_data) (((z37_0.trans z40_0).trans z43_0).trans z48_0)))) (aa (aa aj))) (aA rfl (iR.r) ah) (ay ag))
   refine av (ac (al 4 tk rfl ?_))
   obtain ⟨x48,h48,H⟩ := ax H
   have s48 := gZ g_data b9 data (IntKind.i64.wrap (a + (IntKind.i64.wrap ((IntKind.i64.wrap (Int.tdiv (IntKind.i64.wrap (b - a)) (4 : Int))) * (1 : Int))))) (IntKind.i64.wrap (a + (IntKind.i64.wrap ((IntKind.i64.wrap (Int.tdiv (IntKind.i64.wrap (b - a)) (4 : Int))) * (2 : Int))))) (IntKind.i64.wrap (a + (IntKind.i64.wrap ((IntKind.i64.wrap (Int.tdiv (IntKind.i64.wrap (b - a)) (4 : Int))) * (3 : Int))))) 0 _ h48
   obtain ⟨_,q48_0,H⟩ := ax H
   have l48_0 := (bI q48_0).1
   have z48_0 : (List.map aB data).length = (List.map aB x48.2.1).length := by simpa using (l48_0).symm
   refine ci (g := 167) rfl rfl rfl Tryz.call167 [(9,1504)] [(0,0)] rfl rfl rfl rfl (iR.of2 (iG.cons (PLe2.own rfl) (iG.cons (PLe2.of_eq rfl) (iG.cons (PLe2.of_eq rfl) (iG.cons (PLe2.of_eq rfl) (iG.cons PLe2.boxT iG.nil)))))) (by rw [dp,bS,bJ,bR]; rfl) s48 ?_
   rintro u48 H48h ⟨rfl,rfl⟩
   refine ⟨_,rfl,?_⟩
   refine cw (st' := ⟨_,_,upd (fun _=>none) 9 (some ⟨b9,[(ae x48.2.2)]⟩),upd (fun _=>none) 0 (some ⟨g_data,9,(x48.2.1.map aB),true⟩)⟩) (Gh.le (bQ _ _) (aA rfl (iR.r) ah) (ay ag)) ?_
   refine ao tk rfl (af ?_)
   obtain rfl := am H
   refine aQ (x48.2.1,x48.1,x48.2.2) () rfl (Gh.le (aH (PLe.of2 (PLe2.of_eq (congrArg (PV.own 0 g_data) z48_0))) (aa (aa aj))) (aA rfl (iR.r) ah) (ay ag))
  refine av ?_
  obtain rfl := am H
  refine aQ (data,(IntKind.i64.wrap (a + (IntKind.i64.wrap ((IntKind.i64.wrap (Int.tdiv (IntKind.i64.wrap (b - a)) (4 : Int))) * (2 : Int))))),0) () rfl (Gh.le (aa (aa (aa aj))) (aA rfl (iR.r) ah) (ay ag))
 subst hn1
 have H := Hp1
 refine ab (ac (aT tk ?_))
 refine af (az (aw 2 tk rfl ?_))
 refine aP rfl H (fun H=>?_) (fun H=>?_)
 ·refine aw 3 tk rfl ?_
  obtain rfl := am H
  refine dq (st' := ⟨57,upd (upd (fun _=>.any) 7 (ae 1)) 6 (ae t1.2.1),fun _=>none,upd (fun _=>none) 0 (some ⟨g_data,9,(t1.1.map aB),true⟩)⟩) (Gh.le (aa (aa aj)) ah (ay ag)) ?_
  refine eH tk rfl (ps := [(ae t1.2.1),(ae 1)]) ⟨_,_,rfl,rfl,_,_,rfl,rfl,rfl⟩ (PLe.q rfl) ⟨rfl,rfl⟩
 refine aw 2 tk rfl ?_
 refine aP rfl H (fun H=>?_) (fun H=>?_)
 ·refine aw 3 tk rfl ?_
  obtain rfl := am H
  refine dq (st' := ⟨57,upd (upd (fun _=>.any) 7 (ae 2)) 6 (ae t1.2.1),fun _=>none,upd (fun _=>none) 0 (some ⟨g_data,9,(t1.1.map aB),true⟩)⟩) (Gh.le (aa (aa aj)) ah (ay ag)) ?_
  refine eH tk rfl (ps := [(ae t1.2.1),(ae 2)]) ⟨_,_,rfl,rfl,_,_,rfl,rfl,rfl⟩ (PLe.q rfl) ⟨rfl,rfl⟩
 refine aw 3 tk rfl ?_
 obtain rfl := am H
 refine dq (st' := ⟨57,upd (upd (fun _=>.any) 7 (ae 0)) 6 (ae t1.2.1),fun _=>none,upd (fun _=>none) 0 (some ⟨g_data,9,(t1.1.map aB),true⟩)⟩) (Gh.le (aa (aa aj)) ah (ay ag)) ?_
 refine eH tk rfl (ps := [(ae t1.2.1),(ae 0)]) ⟨_,_,rfl,rfl,_,_,rfl,rfl,rfl⟩ (PLe.q rfl) ⟨rfl,rfl⟩
def fp (rec90 : LChecker → LQuery → Option ((List LCol) × Int)) (c : LChecker) (q : LQuery) : Option ((List LCol) × Int) :=
 ai (kw q) fun x16 =>
 cond (!x16)
  (some ([],3))
  (ai (aW (σ := List (List LCol)) (ρ := ((List LCol) × Int)) (fun (_ : Nat) (x1 : LQuery) (s1 : List (List LCol)) =>
   ai (rec90 c x1) fun x28 =>
   cond (x28.2 != (0 : Int))
    (some (.ret ([],x28.2)))
    (ai (dT 24 s1 ([x28.1] : List (List LCol))) fun (x37 : List (List LCol)) =>
    some (.next x37))) 0 q.inputs []) fun fl1=>fl1.thenR fun (s1 : List (List LCol)) =>
  ai (ig c q s1) fun x43 =>
  cond (x43.2 != (0 : Int))
   (some ([],x43.2))
   (cond (decide ((x43.1.length : Int) > (20 : Int)))
    (some ([],2))
    (ai (aW (σ := Unit) (ρ := ((List LCol) × Int)) (fun (j2 : Nat) (x2 : LCol) (_ : Unit) =>
     ai (ny x43.1 0 (j2 : Int)) fun (x61 : List LCol) =>
     ai (cx x61 (fun a0=>some (cL a0 x2))) fun x63 =>
     cond x63
      (some (.ret ([],23)))
      (some (.next ()))) 0 x43.1 ()) fun fl2=>fl2.thenR fun (_ : Unit) =>
    some (x43.1,0))))
theorem oB (rec90 : LChecker → LQuery → Option ((List LCol) × Int)) (hrec90 : ∀ a0 a1 r,rec90 a0 a1 = some r → bc Tryz.prog 90 [(.agg (jD a0)),(.agg (bE a1))] (.tup [(.list 50 (r.1.map aJ)),(ae r.2)])) (c : LChecker) (q : LQuery) (r : (List LCol) × Int) (H : fp rec90 c q = some r) :
  bc Tryz.prog 90 [(.agg (jD c)),(.agg (bE q))] (.tup [(.list 50 (r.1.map aJ)),(ae r.2)]) := by
 unfold fp at H
 refine PH.aD Tryz.func90 Tryz.ntmps90 ?_
 refine ab (ac (aV ?_))
 refine aV ?_
 refine al 2 tk rfl (af (ab (ab (ac (ao tk rfl ?_)))))
 obtain ⟨x16,h16,H⟩ := ax H
 have s16 := W_query_shape q _ h16
 refine aq Tryz.call110 (iR.r) s16 ?_
 refine ao tk rfl (af ?_)
 refine aP rfl H (fun H=>?_) (fun H=>?_)
 ·refine aw 2 tk rfl ?_
  obtain rfl := am H
  refine aC tk rfl (ps := [(.val (.slice none 0 0)),(ae 3)]) ⟨_,_,rfl,rfl,_,_,rfl,rfl,rfl⟩ (PLe.of2 (PLe2.tup (iG.cons (PLe2.nil tk rfl) (iG.cons (PLe2.of_eq rfl) iG.nil))))
 refine av (aw 1 tk rfl (ab (ab (ac (al 2 tk rfl (aN tk (zl _) ?_))))))
 refine ao tk rfl (af ?_)
 obtain ⟨fl1,H1,Hp1⟩ := ax H
 refine bP tk 19 rfl rfl (fun hz1 _=>?_)
 rw [zl] at hz1
 refine aY (τ := List (List LCol)) (γ := OwnRef) (fun s1 g1=>⟨66,upd (upd (upd (fun _=>.any) 6 (.own 37 g1 (s1.map (au 50 aJ)).length)) 3 (.ptr [(ae q.kind),(.str q.table),(.list 9 (q.names.map aB)),(.list 56 (q.exprs.map bg)),(.list 66 (q.aggregates.map cn)),(.list 4 (q.descending.map cz)),(ae q.count),(ae q.offset),(.list 35 (q.inputs.map ba))])) 2 (.ptr [(.list 91 (c.s.tables.map bv)),(.list 142 (c.s.foreignKeys.map cy)),(.list 148 (c.s.constraints.map cJ)),(.list 50 (c.vars.map aJ))]),fun _=>none,upd (fun _=>none) 37 (some ⟨g1,39,(s1.map (au 50 aJ)),true⟩)⟩) (fun t=>fl1 = .next t) ?_ (fun s1 g1 hn1=>?_)
 ·refine az (ic tk 6 37 (e := 39) rfl rfl ?_)
  refine bC (fun j1 s1 g1=>⟨66,upd (upd (upd (upd (upd (upd (fun _=>.any) 21 (ae (j1 : Int))) 20 (ae (q.inputs.length : Int))) 19 (.list 35 (q.inputs.map ba))) 6 (.own 37 g1 (s1.map (au 50 aJ)).length)) 3 (.ptr [(ae q.kind),(.str q.table),(.list 9 (q.names.map aB)),(.list 56 (q.exprs.map bg)),(.list 66 (q.aggregates.map cn)),(.list 4 (q.descending.map cz)),(ae q.count),(ae q.offset),(.list 35 (q.inputs.map ba))])) 2 (.ptr [(.list 91 (c.s.tables.map bv)),(.list 142 (c.s.foreignKeys.map cy)),(.list 148 (c.s.constraints.map cJ)),(.list 50 (c.vars.map aJ))]),fun _=>none,upd (fun _=>none) 37 (some ⟨g1,39,(s1.map (au 50 aJ)),true⟩)⟩) (⟨none,0⟩) H1 (Gh.le (aa (aa (aa (aa (aa (aa aj)))))) ah (ay ag)) (fun j1 s1 g1 hj1 hr1=>?_)
  refine aw 1 tk rfl (ab ?_)
  refine aZ rfl (fun h=>?_) (fun h=>?_)
  ·have hl1 := co h
   obtain ⟨x1,fb1,hx1,H,hg1⟩ := rMc hl1 hr1
   refine av (ab (az (ab (ac (bs tk (zn j1) (bO cM hx1) ?_)))))
   refine ao tk rfl ?_
   refine bu tk fun b8=>?_
   refine aE tk ?_
   refine af (ab (ac (ao tk rfl (aT tk ?_))))
   obtain ⟨x28,h28,H⟩ := ax H
   have s28 := hrec90 c x1 _ h28
   refine aq Tryz.call90 (iR.r) s28 ?_
   refine al 5 tk rfl (af (ab (aw 2 tk rfl ?_)))
   refine aP rfl H (fun H=>?_) (fun H=>?_)
   ·refine aw 3 tk rfl ?_
    obtain rfl := am H
    have e1 : fl1 = .ret _ := hg1
    subst e1
    obtain rfl := bp Hp1
    refine aC tk rfl (ps := [(.val (.slice none 0 0)),(ae x28.2)]) ⟨_,_,rfl,rfl,_,_,rfl,rfl,rfl⟩ (PLe.of2 (PLe2.tup (iG.cons (PLe2.nil tk rfl) (iG.cons (PLe2.of_eq rfl) iG.nil))))
   refine av (ac (al 2 tk rfl (cQ tk (rows' := List.map (au 50 aJ) ([x28.1] : List (List LCol))) (kj.refl _) ?_)))
   obtain ⟨x37,h37,H⟩ := ax H
   have k37 := cY h37
   refine cZ (rows2' := List.map (au 50 aJ) ([x28.1] : List (List LCol))) (rows' := List.map (au 50 aJ) x37) tk rfl rfl rfl rfl rfl rfl rfl rfl rfl rfl rfl rfl rfl (kj.refl _) (et k37.1) (ew k37.2.1) (ez k37.2.2) fun g37=>?_
   refine ao tk rfl (af (aR (bm 2 tk rfl ?_)))
   obtain rfl := am H
   refine aK x37 g37 ⟨hl1,hg1⟩ (Gh.le (aa (aa (aa (aa (aa (aH (PLe.q (aU (by omega))) aj)))))) ah (ay ag))
  have hn1 := rMd (cp h) hr1
  refine aO rfl ?_
  refine aQ s1 g1 hn1 (Gh.le (aa (aa (aa aj))) ah (ay ag))
 have H := cl hn1 Hp1
 refine ab (dX 6 rfl rfl rfl (ac (al 3 tk rfl ?_)))
 obtain ⟨x43,h43,H⟩ := ax H
 have s43 := qD c q s1 _ h43
 refine aq Tryz.call111 (iR.r) s43 ?_
 refine al 5 tk rfl (af (ab (aw 2 tk rfl ?_)))
 refine aP rfl H (fun H=>?_) (fun H=>?_)
 ·refine aw 3 tk rfl ?_
  obtain rfl := am H
  refine aC tk rfl (ps := [(.val (.slice none 0 0)),(ae x43.2)]) ⟨_,_,rfl,rfl,_,_,rfl,rfl,rfl⟩ (PLe.of2 (PLe2.tup (iG.cons (PLe2.nil tk rfl) (iG.cons (PLe2.of_eq rfl) iG.nil))))
 refine av (ab (ab (ac (ao tk rfl (aN tk (zl _) ?_)))))
 refine ao tk rfl (af ?_)
 refine aP rfl H (fun H=>?_) (fun H=>?_)
 ·refine aw 2 tk rfl ?_
  obtain rfl := am H
  refine aC tk rfl (ps := [(.val (.slice none 0 0)),(ae 2)]) ⟨_,_,rfl,rfl,_,_,rfl,rfl,rfl⟩ (PLe.of2 (PLe2.tup (iG.cons (PLe2.nil tk rfl) (iG.cons (PLe2.of_eq rfl) iG.nil))))
 refine av (ab (ab (ac (ao tk rfl (aN tk (zl _) ?_)))))
 refine ao tk rfl (af ?_)
 obtain ⟨fl2,H2,Hp2⟩ := ax H
 refine bP tk 52 rfl rfl (fun hz2 _=>?_)
 rw [zl] at hz2
 refine aY (τ := Unit) (γ := Unit) (fun s2 g2=>⟨66,upd (fun _=>.any) 11 (.list 50 (x43.1.map aJ)),fun _=>none,fun _=>none⟩) (fun t=>fl2 = .next t) ?_ (fun s2 g2 hn2=>?_)
 ·refine az ?_
  refine bC (fun j2 s2 g2=>⟨66,upd (upd (upd (upd (fun _=>.any) 54 (ae (j2 : Int))) 53 (ae (x43.1.length : Int))) 52 (.list 50 (x43.1.map aJ))) 11 (.list 50 (x43.1.map aJ)),fun _=>none,fun _=>none⟩) () H2 (Gh.le (aa (aa (aa (aa aj)))) ah ag) (fun j2 s2 g2 hj2 hr2=>?_)
  refine aw 1 tk rfl (ab ?_)
  refine aZ rfl (fun h=>?_) (fun h=>?_)
  ·have hl2 := co h
   obtain ⟨x2,fb2,hx2,H,hg2⟩ := rMc hl2 hr2
   refine av (ab (az (ab (ac (ao tk rfl ?_)))))
   refine bs tk (zn j2) (bO (fun _=>rfl) hx2) ?_
   refine ao tk rfl ?_
   refine bu tk fun b14=>?_
   refine ao tk rfl (aE tk ?_)
   refine af (ab (ac (al 2 tk rfl ?_)))
   obtain ⟨x61,h61,H⟩ := ax H
   have k61 := oS h61
   refine ss tk rfl rfl rfl rfl rfl (zl _) rfl rfl k61.1 (qj k61.2) rfl (cw (Gh.freezeB 14 rfl rfl rfl rfl) (ao tk rfl ?_))
   obtain ⟨x63,h63,H⟩ := ax H
   have s63 := jO x61 (fun a0=>some (cL a0 x2)) Tryz.call113 (fun a0 r h=>(am h) ▸ nI a0 x2) _ h63
   refine aq Tryz.call112 (iR.r) s63 ?_
   refine af ?_
   refine aP rfl H (fun H=>?_) (fun H=>?_)
   ·refine aw 2 tk rfl ?_
    obtain rfl := am H
    have e2 : fl2 = .ret _ := hg2
    subst e2
    obtain rfl := bp Hp2
    refine aC tk rfl (ps := [(.val (.slice none 0 0)),(ae 23)]) ⟨_,_,rfl,rfl,_,_,rfl,rfl,rfl⟩ (PLe.of2 (PLe2.tup (iG.cons (PLe2.nil tk rfl) (iG.cons (PLe2.of_eq rfl) iG.nil))))
   refine av (aR (bm 2 tk rfl ?_))
   obtain rfl := am H
   refine aK () () ⟨hl2,hg2⟩ (Gh.le (aa (aa (aa (aH (PLe.q (aU (by omega))) aj)))) ah ag)
  have hn2 := rMd (cp h) hr2
  refine aO rfl ?_
  refine aQ s2 g2 hn2 (Gh.le (aa aj) ah ag)
 have H := cl hn2 Hp2
 refine aw 3 tk rfl ?_
 obtain rfl := am H
 refine aC tk rfl (ps := [(.list 50 (x43.1.map aJ)),(ae 0)]) ⟨_,_,rfl,rfl,_,_,rfl,rfl,rfl⟩ (PLe.q rfl)
def fj : Nat → LChecker → LQuery → Option ((List LCol) × Int)
 | 0,_,_=>none
 | n + 1,v0,v1=>fp (fun b0 b1=>fj n b0 b1) v0 v1
theorem oE  (n : Nat) : (∀ a0 a1 r,fj n a0 a1 = some r → bc Tryz.prog 90 [(.agg (jD a0)),(.agg (bE a1))] (.tup [(.list 50 (r.1.map aJ)),(ae r.2)])) := by
 induction n with
 | zero=>exact (by intros; rename_i h; exact absurd (show (none : Option _) = some _ from h) (by simp))
 | succ n ih =>
  exact (fun v0 v1 r h=>oB (fun b0 b1=>fj n b0 b1) ih v0 v1  r h)
def fq (c : LChecker) (q : LQuery) : Option ((List LCol) × Int) := iY fun n=>fj n c q
theorem lg (c : LChecker) (q : LQuery) (r : (List LCol) × Int) (H : fq c q = some r) :
  bc Tryz.prog 90 [(.agg (jD c)),(.agg (bE q))] (.tup [(.list 50 (r.1.map aJ)),(ae r.2)]) := by
 obtain ⟨n,h⟩ := jG H
 exact (oE  n) c q r h
def fX (rA : LRun) (q : LQuery) (cols : List LCol) (inA : Rz) : Option (Rz) :=
 ai (dj inA (fun a0 a1=>fU a0 a1 rA cols q)) fun x14 =>
 ai (cE (x14.length = inA.length) ()) fun (_ : Unit) =>
 some x14
theorem sd (rA : LRun) (q : LQuery) (cols : List LCol) (inA : Rz) (r : Rz) (H : fX rA q cols inA = some r) :
  bc Tryz.prog 142 [(.agg (iB rA)),(.agg (bE q)),(.list 50 (cols.map aJ)),(.list 51 (inA.map (au 53 ak)))] (.list 51 (r.map (au 53 ak))) := by
 unfold fX at H
 refine PH.aD Tryz.func142 Tryz.ntmps142 ?_
 refine ab (ac (aV ?_))
 refine aV ?_
 refine aV ?_
 refine ao tk rfl (af (ab (ac (ao tk rfl ?_))))
 have s11 := qb (m := 11) inA
 refine ki Tryz.call21 (iR.r) s11 (fun g11=>?_)
 refine ao tk rfl (af (ab (ac (al 2 tk rfl ?_))))
 obtain ⟨x14,h14,H⟩ := ax H
 have s14 := kq g11 inA (fun a0 a1=>fU a0 a1 rA cols q) Tryz.call175 (fun a0 a1 r h=>qQ a0 a1 rA cols q r h) _ h14
 obtain ⟨_,q14_0,H⟩ := ax H
 have l14_0 := (bI q14_0).1
 have z14_0 : (List.map (au 53 ak) inA).length = (List.map (au 53 ak) x14).length := by simpa using (l14_0).symm
 refine ci (g := 174) rfl rfl rfl Tryz.call174 [] [(11,0)] rfl rfl rfl rfl (iR.of2 (iG.cons (PLe2.own rfl) (iG.cons (PLe2.of_eq rfl) iG.nil))) (by rw [bS,bJ,bR]; rfl) s14 ?_
 rintro u14 H14h ⟨rfl,rfl⟩
 refine ⟨_,rfl,?_⟩
 refine cw (st' := ⟨_,_,fun _=>none,upd (fun _=>none) 11 (some ⟨g11,51,(x14.map (au 53 ak)),true⟩)⟩) (Gh.le (bQ _ _) ah (ay ag)) ?_
 refine af (aw 2 tk rfl ?_)
 obtain rfl := am H
 refine dX 8 rfl rfl z14_0 ?_
 refine aC tk rfl (ps := [(.list 51 (x14.map (au 53 ak)))]) ⟨_,_,rfl,rfl,rfl⟩ (PLe.q rfl)
def dg (rec95 : (List (List UInt8)) → Int → Int → Int → Option ((List (List UInt8)))) (data : List (List UInt8)) (a : Int) (b : Int) (limit : Int) : Option ((List (List UInt8))) :=
 ai (whileM (σ := List (List UInt8) × Int × Int × Int × Bool × Bool) (ρ := ((List (List UInt8)))) (fun (s1 : List (List UInt8) × Int × Int × Int × Bool × Bool) =>
  cond (decide ((IntKind.i64.wrap (s1.2.2.1 - s1.2.1)) ≤ (12 : Int)))
   (ai (dI s1.1 s1.2.1 s1.2.2.1) fun x27 =>
   ai (cE (x27.length = s1.1.length) ()) fun (_ : Unit) =>
   some (.ret x27))
   (cond (s1.2.2.2.1 == (0 : Int))
    (ai (eA s1.1 s1.2.1 s1.2.2.1) fun x33 =>
    ai (cE (x33.length = s1.1.length) ()) fun (_ : Unit) =>
    some (.ret x33))
    (ai (
     cond (!s1.2.2.2.2.1)
      (ai (dF s1.1 s1.2.1 s1.2.2.1) fun x39 =>
      ai (cE (x39.length = s1.1.length) ()) fun (_ : Unit) =>
      some (x39,(IntKind.i64.wrap (s1.2.2.2.1 - (1 : Int)))))
      (some (s1.1,s1.2.2.2.1))) fun (t15 : List (List UInt8) × Int) =>
    ai (dS t15.1 s1.2.1 s1.2.2.1) fun x46 =>
    ai (cE (x46.2.2.length = t15.1.length) ()) fun (_ : Unit) =>
    ai (
     cond (x46.2.1 == (2 : Int))
      (ai (dL x46.2.2 s1.2.1 s1.2.2.1) fun x54 =>
      ai (cE (x54.length = x46.2.2.length) ()) fun (_ : Unit) =>
      some (x54,(IntKind.i64.wrap ((IntKind.i64.wrap (s1.2.2.1 - (1 : Int))) - (IntKind.i64.wrap (x46.1 - s1.2.1)))),1))
      (some (x46.2.2,x46.1,x46.2.1))) fun (t16 : List (List UInt8) × Int × Int) =>
    bf (
     cond s1.2.2.2.2.1
      (cond s1.2.2.2.2.2
       ((t16.1,(t16.2.2 == (1 : Int))))
       ((t16.1,false)))
      ((t16.1,false))) fun (t17 : List (List UInt8) × Bool) =>
    ai (
     cond t17.2
      (ai (cV t17.1 s1.2.1 s1.2.2.1) fun x72 =>
      ai (cE (x72.2.length = t17.1.length) ()) fun (_ : Unit) =>
      cond x72.1
       (some (.ret x72.2))
       (some (.next x72.2)))
      (some (.next t17.1))) fun (fl18 : Flow (List (List UInt8)) ((List (List UInt8))))=>fl18.thenF fun t18 =>
    ai (
     cond (decide (s1.2.1 > (0 : Int)))
      (ai (aG t18 (IntKind.i64.wrap (s1.2.1 - (1 : Int)))) fun (x79 : List UInt8) =>
      ai (aG t18 t16.2.1) fun (x83 : List UInt8) =>
      bf (bB x79 x83) fun x85 =>
      some (t18,(!x85)))
      (some (t18,false))) fun (t19 : List (List UInt8) × Bool) =>
    cond t19.2
     (ai (dz t19.1 s1.2.1 s1.2.2.1 t16.2.1) fun x92 =>
     ai (cE (x92.2.length = t19.1.length) ()) fun (_ : Unit) =>
     some (.next (x92.2,x92.1,s1.2.2.1,t15.2,s1.2.2.2.2.1,s1.2.2.2.2.2)))
     (ai (eg t19.1 s1.2.1 s1.2.2.1 t16.2.1) fun x99 =>
     ai (cE (x99.2.2.length = t19.1.length) ()) fun (_ : Unit) =>
     cond (decide ((IntKind.i64.wrap (x99.1 - s1.2.1)) < (IntKind.i64.wrap (s1.2.2.1 - x99.1))))
      (ai (rec95 x99.2.2 s1.2.1 x99.1 t15.2) fun x121 =>
      ai (cE (x121.length = x99.2.2.length) ()) fun (_ : Unit) =>
      some (.next (x121,(IntKind.i64.wrap (x99.1 + (1 : Int))),s1.2.2.1,t15.2,(decide ((IntKind.i64.wrap (x99.1 - s1.2.1)) ≥ (IntKind.i64.wrap (Int.tdiv (IntKind.i64.wrap (s1.2.2.1 - s1.2.1)) (8 : Int))))),x99.2.1)))
      (ai (rec95 x99.2.2 (IntKind.i64.wrap (x99.1 + (1 : Int))) s1.2.2.1 t15.2) fun x132 =>
      ai (cE (x132.length = x99.2.2.length) ()) fun (_ : Unit) =>
      some (.next (x132,s1.2.1,x99.1,t15.2,(decide ((IntKind.i64.wrap (s1.2.2.1 - x99.1)) ≥ (IntKind.i64.wrap (Int.tdiv (IntKind.i64.wrap (s1.2.2.1 - s1.2.1)) (8 : Int))))),x99.2.1))))))) (data,a,b,limit,true,true)) fun fl1=>fl1.thenR fun (s1 : List (List UInt8) × Int × Int × Int × Bool × Bool) =>
 some s1.1
theorem lS (g_data : OwnRef) (rec95 : (List (List UInt8)) → Int → Int → Int → Option ((List (List UInt8)))) (hrec95 : ∀ g0 a0 a1 a2 a3 r,rec95 a0 a1 a2 a3 = some r → PH Tryz.prog 95 [(.own 0 g0 (a0.map aB).length),(ae a1),(ae a2),(ae a3)] ⟨fun _=>none,upd (fun _=>none) 0 (some ⟨g0,9,(a0.map aB),true⟩)⟩ (fun u H=>u = (.tup []) ∧ H = ⟨fun _=>none,upd (fun _=>none) 0 (some ⟨g0,9,(r.map aB),true⟩)⟩)) (data : List (List UInt8)) (a : Int) (b : Int) (limit : Int) (r : (List (List UInt8))) (H : dg rec95 data a b limit = some r) :
  PH Tryz.prog 95 [(.own 0 g_data (data.map aB).length),(ae a),(ae b),(ae limit)] ⟨fun _=>none,upd (fun _=>none) 0 (some ⟨g_data,9,(data.map aB),true⟩)⟩ (fun u H=>u = (.tup []) ∧ H = ⟨fun _=>none,upd (fun _=>none) 0 (some ⟨g_data,9,(r.map aB),true⟩)⟩) := by
 unfold dg at H
 refine PH.aD Tryz.func95 Tryz.ntmps95 ?_
 refine aw 1 tk rfl (aw 1 tk rfl ?_)
 obtain ⟨fl1,H1,Hp1⟩ := ax H
 refine aY (τ := List (List UInt8) × Int × Int × Int × Bool × Bool) (γ := Unit) (fun s1 g1=>⟨134,upd (fun _=>.any) 0 (.own 0 g_data (s1.1.map aB).length),fun _=>none,upd (fun _=>none) 0 (some ⟨g_data,9,(s1.1.map aB),true⟩)⟩) (fun t=>fl1 = .next t) ?_ (fun s1 g1 hn1=>?_)
 ·refine az ?_
  refine cA (fun s1 g1=>⟨134,upd (upd (upd (upd (upd (upd (fun _=>.any) 9 (aF s1.2.2.2.2.2)) 8 (aF s1.2.2.2.2.1)) 3 (ae s1.2.2.2.1)) 2 (ae s1.2.2.1)) 1 (ae s1.2.1)) 0 (.own 0 g_data (s1.1.map aB).length),fun _=>none,upd (fun _=>none) 0 (some ⟨g_data,9,(s1.1.map aB),true⟩)⟩) () H1 (Gh.le (aa (aa (aa (aa (aa (aa aj)))))) ah (ay ag)) (fun m1 s1 g1 hr1=>?_)
  obtain ⟨fb1,H,hg1⟩ := bZ hr1
  refine az (aw 4 tk rfl (ab (aw 2 tk rfl ?_)))
  refine aP rfl H (fun H=>?_) (fun H=>?_)
  ·refine ab (ac (al 3 tk rfl ?_))
   obtain ⟨x27,h27,H⟩ := ax H
   have s27 := kK g_data s1.1 s1.2.1 s1.2.2.1 _ h27
   obtain ⟨_,q27_0,H⟩ := ax H
   have l27_0 := (bI q27_0).1
   have z27_0 : (List.map aB s1.1).length = (List.map aB x27).length := by simpa using (l27_0).symm
   refine ci (g := 124) rfl rfl rfl Tryz.call124 [] [(0,0)] rfl rfl rfl rfl (iR.of2 (iG.cons (PLe2.own rfl) (iG.cons (PLe2.of_eq rfl) (iG.cons (PLe2.of_eq rfl) iG.nil)))) (by rw [bS,bJ,bR]; rfl) s27 ?_
   rintro u27 H27h ⟨rfl,rfl⟩
   refine ⟨_,rfl,?_⟩
   refine cw (st' := ⟨_,_,fun _=>none,upd (fun _=>none) 0 (some ⟨g_data,9,(x27.map aB),true⟩)⟩) (Gh.le (bQ _ _) ah (ay ag)) ?_
   refine af ?_
   obtain rfl := am H
   have e1 : fl1 = .ret _ := hg1
   subst e1
   obtain rfl := bp Hp1
   refine dq (st' := ⟨134,fun _=>.any,fun _=>none,upd (fun _=>none) 0 (some ⟨g_data,9,(x27.map aB),true⟩)⟩) (Gh.le aj ah (ay ag)) ?_
   refine eH tk rfl (ps := []) rfl (PLe.q rfl) ⟨rfl,rfl⟩
  refine av (ab (aw 2 tk rfl ?_))
  refine aP rfl H (fun H=>?_) (fun H=>?_)
  ·refine ab (ac (al 3 tk rfl ?_))
   obtain ⟨x33,h33,H⟩ := ax H
   have s33 := lV g_data s1.1 s1.2.1 s1.2.2.1 _ h33
   obtain ⟨_,q33_0,H⟩ := ax H
   have l33_0 := (bI q33_0).1
   have z33_0 : (List.map aB s1.1).length = (List.map aB x33).length := by simpa using (l33_0).symm
   refine ci (g := 125) rfl rfl rfl Tryz.call125 [] [(0,0)] rfl rfl rfl rfl (iR.of2 (iG.cons (PLe2.own rfl) (iG.cons (PLe2.of_eq rfl) (iG.cons (PLe2.of_eq rfl) iG.nil)))) (by rw [bS,bJ,bR]; rfl) s33 ?_
   rintro u33 H33h ⟨rfl,rfl⟩
   refine ⟨_,rfl,?_⟩
   refine cw (st' := ⟨_,_,fun _=>none,upd (fun _=>none) 0 (some ⟨g_data,9,(x33.map aB),true⟩)⟩) (Gh.le (bQ _ _) ah (ay ag)) ?_
   refine af ?_
   obtain rfl := am H
   have e1 : fl1 = .ret _ := hg1
   subst e1
   obtain rfl := bp Hp1
   refine dq (st' := ⟨134,fun _=>.any,fun _=>none,upd (fun _=>none) 0 (some ⟨g_data,9,(x33.map aB),true⟩)⟩) (Gh.le aj ah (ay ag)) ?_
   refine eH tk rfl (ps := []) rfl (PLe.q rfl) ⟨rfl,rfl⟩
  refine av (ab (aw 2 tk rfl ?_))
  obtain ⟨fl15,H15,Hp15⟩ := ax H
  refine aY (τ := List (List UInt8) × Int) (γ := Unit) (fun t15 g15=>⟨134,upd (upd (upd (upd (upd (upd (upd (fun _=>.any) 10 (ae (IntKind.i64.wrap (s1.2.2.1 - s1.2.1)))) 9 (aF s1.2.2.2.2.2)) 8 (aF s1.2.2.2.2.1)) 3 (ae t15.2)) 2 (ae s1.2.2.1)) 1 (ae s1.2.1)) 0 (.own 0 g_data (t15.1.map aB).length),fun _=>none,upd (fun _=>none) 0 (some ⟨g_data,9,(t15.1.map aB),true⟩)⟩) (fun t=>t = fl15) ?_ (fun t15 g15 hn15=>?_)
  ·have H := H15
   refine aP rfl H (fun H=>?_) (fun H=>?_)
   ·refine ab (ac (al 3 tk rfl ?_))
    obtain ⟨x39,h39,H⟩ := ax H
    have s39 := kJ g_data s1.1 s1.2.1 s1.2.2.1 _ h39
    obtain ⟨_,q39_0,H⟩ := ax H
    have l39_0 := (bI q39_0).1
    have z39_0 : (List.map aB s1.1).length = (List.map aB x39).length := by simpa using (l39_0).symm
    refine ci (g := 126) rfl rfl rfl Tryz.call126 [] [(0,0)] rfl rfl rfl rfl (iR.of2 (iG.cons (PLe2.own rfl) (iG.cons (PLe2.of_eq rfl) (iG.cons (PLe2.of_eq rfl) iG.nil)))) (by rw [bS,bJ,bR]; rfl) s39 ?_
    rintro u39 H39h ⟨rfl,rfl⟩
    refine ⟨_,rfl,?_⟩
    refine cw (st' := ⟨_,_,fun _=>none,upd (fun _=>none) 0 (some ⟨g_data,9,(x39.map aB),true⟩)⟩) (Gh.le (bQ _ _) ah (ay ag)) ?_
    refine af (bm 3 tk rfl ?_)
    obtain rfl := am H
    refine aQ (x39,(IntKind.i64.wrap (s1.2.2.2.1 - (1 : Int)))) () rfl (Gh.le (aH (PLe.of2 (PLe2.of_eq (congrArg (PV.own 0 g_data) z39_0))) (aa (aa (aa (aa (aa (aa aj))))))) ah (ay ag))
   refine av ?_
   obtain rfl := am H
   refine aQ (s1.1,s1.2.2.2.1) () rfl (Gh.le (aa (aa (aa (aa (aa (aa (aa aj))))))) ah (ay ag))
  subst hn15
  have H := Hp15
  refine ab (ac (al 3 tk rfl ?_))
  obtain ⟨x46,h46,H⟩ := ax H
  have s46 := li g_data t15.1 s1.2.1 s1.2.2.1 _ h46
  obtain ⟨_,q46_0,H⟩ := ax H
  have l46_0 := (bI q46_0).1
  have z46_0 : (List.map aB t15.1).length = (List.map aB x46.2.2).length := by simpa using (l46_0).symm
  refine ci (g := 127) rfl rfl rfl Tryz.call127 [] [(0,0)] rfl rfl rfl rfl (iR.of2 (iG.cons (PLe2.own rfl) (iG.cons (PLe2.of_eq rfl) (iG.cons (PLe2.of_eq rfl) iG.nil)))) (by rw [bS,bJ,bR]; rfl) s46 ?_
  rintro u46 H46h ⟨rfl,rfl⟩
  refine ⟨_,rfl,?_⟩
  refine cw (st' := ⟨_,_,fun _=>none,upd (fun _=>none) 0 (some ⟨g_data,9,(x46.2.2.map aB),true⟩)⟩) (Gh.le (bQ _ _) ah (ay ag)) ?_
  refine al 5 tk rfl (af (ab (aw 2 tk rfl ?_)))
  obtain ⟨fl16,H16,Hp16⟩ := ax H
  refine aY (τ := List (List UInt8) × Int × Int) (γ := Unit) (fun t16 g16=>⟨134,upd (upd (upd (upd (upd (upd (upd (upd (upd (fun _=>.any) 12 (ae t16.2.2)) 11 (ae t16.2.1)) 10 (ae (IntKind.i64.wrap (s1.2.2.1 - s1.2.1)))) 9 (aF s1.2.2.2.2.2)) 8 (aF s1.2.2.2.2.1)) 3 (ae t15.2)) 2 (ae s1.2.2.1)) 1 (ae s1.2.1)) 0 (.own 0 g_data (t16.1.map aB).length),fun _=>none,upd (fun _=>none) 0 (some ⟨g_data,9,(t16.1.map aB),true⟩)⟩) (fun t=>t = fl16) ?_ (fun t16 g16 hn16=>?_)
  ·have H := H16
   refine aP rfl H (fun H=>?_) (fun H=>?_)
   ·refine ab (ac (al 3 tk rfl ?_))
    obtain ⟨x54,h54,H⟩ := ax H
    have s54 := ld g_data x46.2.2 s1.2.1 s1.2.2.1 _ h54
    obtain ⟨_,q54_0,H⟩ := ax H
    have l54_0 := (bI q54_0).1
    have z54_0 : (List.map aB x46.2.2).length = (List.map aB x54).length := by simpa using (l54_0).symm
    refine ci (g := 128) rfl rfl rfl Tryz.call128 [] [(0,0)] rfl rfl rfl rfl (iR.of2 (iG.cons (PLe2.own z46_0) (iG.cons (PLe2.of_eq rfl) (iG.cons (PLe2.of_eq rfl) iG.nil)))) (by rw [bS,bJ,bR]; rfl) s54 ?_
    rintro u54 H54h ⟨rfl,rfl⟩
    refine ⟨_,rfl,?_⟩
    refine cw (st' := ⟨_,_,fun _=>none,upd (fun _=>none) 0 (some ⟨g_data,9,(x54.map aB),true⟩)⟩) (Gh.le (bQ _ _) ah (ay ag)) ?_
    refine af (aw 7 tk rfl (bm 1 tk rfl ?_))
    obtain rfl := am H
    refine aQ (x54,(IntKind.i64.wrap ((IntKind.i64.wrap (s1.2.2.1 - (1 : Int))) - (IntKind.i64.wrap (x46.1 - s1.2.1)))),1) () rfl (Gh.le (aH (PLe.of2 (PLe2.of_eq (congrArg (PV.own 0 g_data) (z46_0.trans z54_0)))) (aa (aa (aa (aa (aa (aa (aa (aa aj))))))))) ah (ay ag))
   refine av ?_
   obtain rfl := am H
   refine aQ (x46.2.2,x46.1,x46.2.1) () rfl (Gh.le (aH (PLe.of2 (PLe2.of_eq (congrArg (PV.own 0 g_data) z46_0))) (aa (aa (aa (aa (aa (aa (aa (aa aj))))))))) ah (ay ag))
  subst hn16
  have H := Hp16
  refine ab (ab ?_)
  obtain ⟨fl17,H17,Hp17⟩ := bw H
  refine aY (τ := List (List UInt8) × Bool) (γ := Unit) (fun t17 g17=>⟨134,upd (upd (upd (upd (upd (upd (upd (upd (upd (fun _=>.any) 68 (aF t17.2)) 11 (ae t16.2.1)) 10 (ae (IntKind.i64.wrap (s1.2.2.1 - s1.2.1)))) 9 (aF s1.2.2.2.2.2)) 8 (aF s1.2.2.2.2.1)) 3 (ae t15.2)) 2 (ae s1.2.2.1)) 1 (ae s1.2.1)) 0 (.own 0 g_data (t17.1.map aB).length),fun _=>none,upd (fun _=>none) 0 (some ⟨g_data,9,(t17.1.map aB),true⟩)⟩) (fun t=>t = fl17) ?_ (fun t17 g17 hn17=>?_)
  ·have H := H17
   refine ac (al 2 tk rfl ?_)
   refine bF rfl rfl rfl H (fun H=>?_) (fun H=>?_)
   ·refine al 3 tk rfl ?_
    refine bF rfl rfl rfl H (fun H=>?_) (fun H=>?_)
    ·refine al 3 tk rfl (af ?_)
     subst H
     refine aQ (t16.1,(t16.2.2 == (1 : Int))) () rfl (Gh.le (aa (aa (aa (aa (aa (aa (aa (aa (aa aj))))))))) ah (ay ag))
    refine al 3 tk rfl (af ?_)
    subst H
    refine aQ (t16.1,false) () rfl (Gh.le (aa (aa (aa (aa (aa (aa (aa (aa (aa aj))))))))) ah (ay ag))
   refine al 6 tk rfl (af ?_)
   subst H
   refine aQ (t16.1,false) () rfl (Gh.le (aa (aa (aa (aa (aa (aa (aa (aa (aa aj))))))))) ah (ay ag))
  subst hn17
  have H := Hp17
  obtain ⟨fl18,H18,Hp18⟩ := ax H
  refine aY (τ := List (List UInt8)) (γ := Unit) (fun t18 g18=>⟨134,upd (upd (upd (upd (upd (upd (upd (upd (fun _=>.any) 11 (ae t16.2.1)) 10 (ae (IntKind.i64.wrap (s1.2.2.1 - s1.2.1)))) 9 (aF s1.2.2.2.2.2)) 8 (aF s1.2.2.2.2.1)) 3 (ae t15.2)) 2 (ae s1.2.2.1)) 1 (ae s1.2.1)) 0 (.own 0 g_data (t18.map aB).length),fun _=>none,upd (fun _=>none) 0 (some ⟨g_data,9,(t18.map aB),true⟩)⟩) (fun t=>fl18 = .next t) ?_ (fun t18 g18 hn18=>?_)
  ·have H := H18
   refine aP rfl H (fun H=>?_) (fun H=>?_)
   ·refine ab (ac (al 3 tk rfl ?_))
    obtain ⟨x72,h72,H⟩ := ax H
    have s72 := jP g_data t17.1 s1.2.1 s1.2.2.1 _ h72
    obtain ⟨_,q72_0,H⟩ := ax H
    have l72_0 := (bI q72_0).1
    have z72_0 : (List.map aB t17.1).length = (List.map aB x72.2).length := by simpa using (l72_0).symm
    refine ci (g := 129) rfl rfl rfl Tryz.call129 [] [(0,0)] rfl rfl rfl rfl (iR.of2 (iG.cons (PLe2.own rfl) (iG.cons (PLe2.of_eq rfl) (iG.cons (PLe2.of_eq rfl) iG.nil)))) (by rw [bS,bJ,bR]; rfl) s72 ?_
    rintro u72 H72h ⟨rfl,rfl⟩
    refine ⟨_,rfl,?_⟩
    refine cw (st' := ⟨_,_,fun _=>none,upd (fun _=>none) 0 (some ⟨g_data,9,(x72.2.map aB),true⟩)⟩) (Gh.le (bQ _ _) ah (ay ag)) ?_
    refine af ?_
    refine aP rfl H (fun H=>?_) (fun H=>?_)
    ·obtain rfl := am H
     have q18 := pd Hp18
     subst q18
     have e1 : fl1 = .ret _ := hg1
     subst e1
     obtain rfl := bp Hp1
     refine dq (st' := ⟨134,fun _=>.any,fun _=>none,upd (fun _=>none) 0 (some ⟨g_data,9,(x72.2.map aB),true⟩)⟩) (Gh.le aj ah (ay ag)) ?_
     refine eH tk rfl (ps := []) rfl (PLe.q rfl) ⟨rfl,rfl⟩
    refine av ?_
    obtain rfl := am H
    refine aQ x72.2 () rfl (Gh.le (aH (PLe.of2 (PLe2.of_eq (congrArg (PV.own 0 g_data) z72_0))) (aa (aa (aa (aa (aa (aa (aa aj)))))))) ah (ay ag))
   refine av ?_
   obtain rfl := am H
   refine aQ t17.1 () rfl (Gh.le (aa (aa (aa (aa (aa (aa (aa (aa aj)))))))) ah (ay ag))
  have H := thenF_next hn18 Hp18
  refine ab (ab ?_)
  obtain ⟨fl19,H19,Hp19⟩ := ax H
  refine aY (τ := List (List UInt8) × Bool) (γ := Unit) (fun t19 g19=>⟨134,upd (upd (upd (upd (upd (upd (upd (upd (upd (fun _=>.any) 87 (aF t19.2)) 11 (ae t16.2.1)) 10 (ae (IntKind.i64.wrap (s1.2.2.1 - s1.2.1)))) 9 (aF s1.2.2.2.2.2)) 8 (aF s1.2.2.2.2.1)) 3 (ae t15.2)) 2 (ae s1.2.2.1)) 1 (ae s1.2.1)) 0 (.own 0 g_data (t19.1.map aB).length),fun _=>none,upd (fun _=>none) 0 (some ⟨g_data,9,(t19.1.map aB),true⟩)⟩) (fun t=>t = fl19) ?_ (fun t19 g19 hn19=>?_)
  ·have H := H19
   refine cK (tag := 0) rfl (fun ho0=>?_)
   refine bo tk mok ⟨false,true,[]⟩ [0,1,2,3,4,5,6,7,8,9,10,11,12,13,14] rfl (by decide +kernel) rfl (aL 3 rfl ?_)
   refine ik H (fun H=>?_) (fun H=>?_)
   ·refine aL 3 rfl ?_
    obtain ⟨x79,k79,H⟩ := aX H
    refine aS tk ⟨k79.1,(bl k79.2)⟩ (bi ho0 k79.2) ?_
    refine bd tk (aI (fun _=>rfl) k79.2) ?_
    refine aL 2 rfl ?_
    obtain ⟨x83,k83,H⟩ := aX H
    refine aS tk ⟨k83.1,(bl k83.2)⟩ (bi ho0 k83.2) ?_
    refine bd tk (aI (fun _=>rfl) k83.2) ?_
    obtain ⟨x85,h85,H⟩ := bw H
    have s85 := cN x79 x83
    rw [h85] at s85
    refine bj Tryz.call80 (iR.r) s85 ?_
    refine aL 2 rfl (bh ?_)
    obtain rfl := am H
    refine aQ (t18,(!x85)) () rfl (Gh.le (aa (aa (aa (aa (aa (aa (aa (aa (aa aj))))))))) ah (ay ag))
   refine aL 12 rfl (bh ?_)
   obtain rfl := am H
   refine aQ (t18,false) () rfl (Gh.le (aa (aa (aa (aa (aa (aa (aa (aa (aa aj))))))))) ah (ay ag))
  subst hn19
  have H := Hp19
  refine aP rfl H (fun H=>?_) (fun H=>?_)
  ·refine ab (ac (al 4 tk rfl ?_))
   obtain ⟨x92,h92,H⟩ := ax H
   have s92 := kH g_data t19.1 s1.2.1 s1.2.2.1 t16.2.1 _ h92
   obtain ⟨_,q92_0,H⟩ := ax H
   have l92_0 := (bI q92_0).1
   have z92_0 : (List.map aB t19.1).length = (List.map aB x92.2).length := by simpa using (l92_0).symm
   refine ci (g := 130) rfl rfl rfl Tryz.call130 [] [(0,0)] rfl rfl rfl rfl (iR.of2 (iG.cons (PLe2.own rfl) (iG.cons (PLe2.of_eq rfl) (iG.cons (PLe2.of_eq rfl) (iG.cons (PLe2.of_eq rfl) iG.nil))))) (by rw [bS,bJ,bR]; rfl) s92 ?_
   rintro u92 H92h ⟨rfl,rfl⟩
   refine ⟨_,rfl,?_⟩
   refine cw (st' := ⟨_,_,fun _=>none,upd (fun _=>none) 0 (some ⟨g_data,9,(x92.2.map aB),true⟩)⟩) (Gh.le (bQ _ _) ah (ay ag)) ?_
   refine ao tk rfl (af (aw 2 tk rfl (aO rfl ?_)))
   obtain rfl := am H
   refine aK (x92.2,x92.1,s1.2.2.1,t15.2,s1.2.2.2.2.1,s1.2.2.2.2.2) () hg1 (Gh.le (aH (PLe.of2 (PLe2.of_eq (congrArg (PV.own 0 g_data) z92_0))) (aa (aa (aa (aa (aa aj)))))) ah (ay ag))
  refine av (ab (ac (al 4 tk rfl ?_)))
  obtain ⟨x99,h99,H⟩ := ax H
  have s99 := lL g_data t19.1 s1.2.1 s1.2.2.1 t16.2.1 _ h99
  obtain ⟨_,q99_0,H⟩ := ax H
  have l99_0 := (bI q99_0).1
  have z99_0 : (List.map aB t19.1).length = (List.map aB x99.2.2).length := by simpa using (l99_0).symm
  refine ci (g := 131) rfl rfl rfl Tryz.call131 [] [(0,0)] rfl rfl rfl rfl (iR.of2 (iG.cons (PLe2.own rfl) (iG.cons (PLe2.of_eq rfl) (iG.cons (PLe2.of_eq rfl) (iG.cons (PLe2.of_eq rfl) iG.nil))))) (by rw [bS,bJ,bR]; rfl) s99 ?_
  rintro u99 H99h ⟨rfl,rfl⟩
  refine ⟨_,rfl,?_⟩
  refine cw (st' := ⟨_,_,fun _=>none,upd (fun _=>none) 0 (some ⟨g_data,9,(x99.2.2.map aB),true⟩)⟩) (Gh.le (bQ _ _) ah (ay ag)) ?_
  refine al 5 tk rfl (af (aw 2 tk rfl (aw 8 tk rfl (aw 3 tk rfl (aw 3 tk rfl ?_)))))
  refine aP rfl H (fun H=>?_) (fun H=>?_)
  ·refine aw 4 tk rfl (ab (ac (al 4 tk rfl ?_)))
   obtain ⟨x121,h121,H⟩ := ax H
   have s121 := hrec95 g_data x99.2.2 s1.2.1 x99.1 t15.2 _ h121
   obtain ⟨_,q121_0,H⟩ := ax H
   have l121_0 := (bI q121_0).1
   have z121_0 : (List.map aB x99.2.2).length = (List.map aB x121).length := by simpa using (l121_0).symm
   refine ci (g := 95) rfl rfl rfl Tryz.call95 [] [(0,0)] rfl rfl rfl rfl (iR.of2 (iG.cons (PLe2.own z99_0) (iG.cons (PLe2.of_eq rfl) (iG.cons (PLe2.of_eq rfl) (iG.cons (PLe2.of_eq rfl) iG.nil))))) (by rw [bS,bJ,bR]; rfl) s121 ?_
   rintro u121 H121h ⟨rfl,rfl⟩
   refine ⟨_,rfl,?_⟩
   refine cw (st' := ⟨_,_,fun _=>none,upd (fun _=>none) 0 (some ⟨g_data,9,(x121.map aB),true⟩)⟩) (Gh.le (bQ _ _) ah (ay ag)) ?_
   refine af (bm 3 tk rfl (aR ?_))
   obtain rfl := am H
   refine aK (x121,(IntKind.i64.wrap (x99.1 + (1 : Int))),s1.2.2.1,t15.2,(decide ((IntKind.i64.wrap (x99.1 - s1.2.1)) ≥ (IntKind.i64.wrap (Int.tdiv (IntKind.i64.wrap (s1.2.2.1 - s1.2.1)) (8 : Int))))),x99.2.1) () hg1 (Gh.le (aH (PLe.of2 (PLe2.of_eq (congrArg (PV.own 0 g_data) (z99_0.trans z121_0)))) (aa (aa (aa (aa (aa aj)))))) ah (ay ag))
  refine aw 4 tk rfl (ab (ac (al 5 tk rfl ?_)))
  obtain ⟨x132,h132,H⟩ := ax H
  have s132 := hrec95 g_data x99.2.2 (IntKind.i64.wrap (x99.1 + (1 : Int))) s1.2.2.1 t15.2 _ h132
  obtain ⟨_,q132_0,H⟩ := ax H
  have l132_0 := (bI q132_0).1
  have z132_0 : (List.map aB x99.2.2).length = (List.map aB x132).length := by simpa using (l132_0).symm
  refine ci (g := 95) rfl rfl rfl Tryz.call95 [] [(0,0)] rfl rfl rfl rfl (iR.of2 (iG.cons (PLe2.own z99_0) (iG.cons (PLe2.of_eq rfl) (iG.cons (PLe2.of_eq rfl) (iG.cons (PLe2.of_eq rfl) iG.nil))))) (by rw [bS,bJ,bR]; rfl) s132 ?_
  rintro u132 H132h ⟨rfl,rfl⟩
  refine ⟨_,rfl,?_⟩
  refine cw (st' := ⟨_,_,fun _=>none,upd (fun _=>none) 0 (some ⟨g_data,9,(x132.map aB),true⟩)⟩) (Gh.le (bQ _ _) ah (ay ag)) ?_
  refine af (bm 2 tk rfl (aR ?_))
  obtain rfl := am H
  refine aK (x132,s1.2.1,x99.1,t15.2,(decide ((IntKind.i64.wrap (s1.2.2.1 - x99.1)) ≥ (IntKind.i64.wrap (Int.tdiv (IntKind.i64.wrap (s1.2.2.1 - s1.2.1)) (8 : Int))))),x99.2.1) () hg1 (Gh.le (aH (PLe.of2 (PLe2.of_eq (congrArg (PV.own 0 g_data) (z99_0.trans z132_0)))) (aa (aa (aa (aa (aa aj)))))) ah (ay ag))
 have H := cl hn1 Hp1
 obtain rfl := am H
 refine dq (st' := ⟨134,fun _=>.any,fun _=>none,upd (fun _=>none) 0 (some ⟨g_data,9,(s1.1.map aB),true⟩)⟩) (Gh.le aj ah (ay ag)) ?_
 refine iy rfl (PLe.q rfl) ⟨rfl,rfl⟩
def bX : Nat → (List (List UInt8)) → Int → Int → Int → Option ((List (List UInt8)))
 | 0,_,_,_,_=>none
 | n + 1,v0,v1,v2,v3=>dg (fun b0 b1 b2 b3=>bX n b0 b1 b2 b3) v0 v1 v2 v3
theorem lR  (n : Nat) : (∀ g0 a0 a1 a2 a3 r,bX n a0 a1 a2 a3 = some r → PH Tryz.prog 95 [(.own 0 g0 (a0.map aB).length),(ae a1),(ae a2),(ae a3)] ⟨fun _=>none,upd (fun _=>none) 0 (some ⟨g0,9,(a0.map aB),true⟩)⟩ (fun u H=>u = (.tup []) ∧ H = ⟨fun _=>none,upd (fun _=>none) 0 (some ⟨g0,9,(r.map aB),true⟩)⟩)) := by
 induction n with
 | zero=>exact (by intros; rename_i h; exact absurd (show (none : Option _) = some _ from h) (by simp))
 | succ n ih =>
  exact (fun g0 v0 v1 v2 v3 r h=>lS g0 (fun b0 b1 b2 b3=>bX n b0 b1 b2 b3) ih v0 v1 v2 v3  r h)
def gR (data : List (List UInt8)) (a : Int) (b : Int) (limit : Int) : Option ((List (List UInt8))) := iY fun n=>bX n data a b limit
theorem mp (g_data : OwnRef) (data : List (List UInt8)) (a : Int) (b : Int) (limit : Int) (r : (List (List UInt8))) (H : gR data a b limit = some r) :
  PH Tryz.prog 95 [(.own 0 g_data (data.map aB).length),(ae a),(ae b),(ae limit)] ⟨fun _=>none,upd (fun _=>none) 0 (some ⟨g_data,9,(data.map aB),true⟩)⟩ (fun u H=>u = (.tup []) ∧ H = ⟨fun _=>none,upd (fun _=>none) 0 (some ⟨g_data,9,(r.map aB),true⟩)⟩) := by
 obtain ⟨n,h⟩ := jG H
 exact (lR  n) g_data data a b limit r h
def gz (sA : LSchema) (vars : List LCol) (q : LQuery) : Option ((List LCol) × Int) :=
 ai (
  ai (iL q) fun x12 =>
  cond (decide ((x12.length : Int) > (24 : Int)))
   (some true)
   (ai (kx q) fun x17 =>
   cond (decide (x17 > (12 : Int)))
    (some true)
    (ai (gn q) fun x22 =>
    some (decide (x22 > (20000 : Int)))))) fun (t1 : Bool) =>
 cond t1
  (some ([],2))
  (ai (fE q) fun x27 =>
  cond (x27.2 != (0 : Int))
   (some ([],x27.2))
   (ai (fq (LChecker.mk sA vars) q) fun x38 =>
   some (x38.1,x38.2)))
theorem mA (sA : LSchema) (vars : List LCol) (q : LQuery) (r : (List LCol) × Int) (H : gz sA vars q = some r) :
  bc Tryz.prog 54 [(.agg (eK sA)),(.list 50 (vars.map aJ)),(.agg (bE q))] (.tup [(.list 50 (r.1.map aJ)),(ae r.2)]) := by
 unfold gz at H
 refine PH.aD Tryz.func54 Tryz.ntmps54 ?_
 refine ab (ac (aV ?_))
 refine aV ?_
 refine al 2 tk rfl (af (ab (ab ?_)))
 obtain ⟨fl1,H1,Hp1⟩ := ax H
 refine aY (τ := Bool) (γ := Unit) (fun t1 g1=>⟨41,upd (upd (upd (upd (fun _=>.any) 24 (aF t1)) 5 (.ptr [(ae q.kind),(.str q.table),(.list 9 (q.names.map aB)),(.list 56 (q.exprs.map bg)),(.list 66 (q.aggregates.map cn)),(.list 4 (q.descending.map cz)),(ae q.count),(ae q.offset),(.list 35 (q.inputs.map ba))])) 3 (.ptr [(.list 91 (sA.tables.map bv)),(.list 142 (sA.foreignKeys.map cy)),(.list 148 (sA.constraints.map cJ))])) 1 (.list 50 (vars.map aJ)),fun _=>none,fun _=>none⟩) (fun t=>t = fl1) ?_ (fun t1 g1 hn1=>?_)
 ·have H := H1
  refine ac (ao tk rfl ?_)
  obtain ⟨x12,h12,H⟩ := ax H
  have s12 := nv (m := 12) q _ h12
  refine aq Tryz.call76 (iR.r) (PFun.iv s12) ?_
  refine aN tk (zl _) ?_
  refine al 2 tk rfl ?_
  refine bF rfl rfl rfl H (fun H=>?_) (fun H=>?_)
  ·refine al 9 tk rfl (af ?_)
   obtain rfl := am H
   refine aQ true () rfl (Gh.le (aa (aa (aa (aa aj)))) ah ag)
  refine ao tk rfl ?_
  obtain ⟨x17,h17,H⟩ := ax H
  have s17 := W_query_depth q _ h17
  refine aq Tryz.call88 (iR.r) s17 ?_
  refine al 3 tk rfl ?_
  refine bF rfl rfl rfl H (fun H=>?_) (fun H=>?_)
  ·refine al 4 tk rfl (af ?_)
   obtain rfl := am H
   refine aQ true () rfl (Gh.le (aa (aa (aa (aa aj)))) ah ag)
  refine ao tk rfl ?_
  obtain ⟨x22,h22,H⟩ := ax H
  have s22 := nd q _ h22
  refine aq Tryz.call89 (iR.r) s22 ?_
  refine al 2 tk rfl (af ?_)
  obtain rfl := am H
  refine aQ (decide (x22 > (20000 : Int))) () rfl (Gh.le (aa (aa (aa (aa aj)))) ah ag)
 subst hn1
 have H := Hp1
 refine aP rfl H (fun H=>?_) (fun H=>?_)
 ·refine aw 2 tk rfl ?_
  obtain rfl := am H
  refine aC tk rfl (ps := [(.val (.slice none 0 0)),(ae 2)]) ⟨_,_,rfl,rfl,_,_,rfl,rfl,rfl⟩ (PLe.of2 (PLe2.tup (iG.cons (PLe2.nil tk rfl) (iG.cons (PLe2.of_eq rfl) iG.nil))))
 refine av (ab (ab (ac (ao tk rfl ?_))))
 obtain ⟨x27,h27,H⟩ := ax H
 have s27 := lp q _ h27
 refine aq Tryz.call87 (iR.r) s27 ?_
 refine al 5 tk rfl (af (aw 2 tk rfl ?_))
 refine aP rfl H (fun H=>?_) (fun H=>?_)
 ·refine aw 3 tk rfl ?_
  obtain rfl := am H
  refine aC tk rfl (ps := [(.val (.slice none 0 0)),(ae x27.2)]) ⟨_,_,rfl,rfl,_,_,rfl,rfl,rfl⟩ (PLe.of2 (PLe2.tup (iG.cons (PLe2.nil tk rfl) (iG.cons (PLe2.of_eq rfl) iG.nil))))
 refine av (ab (ac (al 3 tk rfl ?_)))
 refine bu tk fun b10=>?_
 refine aE tk ?_
 refine af (ab (ac (aT tk ?_)))
 refine ao tk rfl ?_
 obtain ⟨x38,h38,H⟩ := ax H
 have s38 := lg (LChecker.mk sA vars) q _ h38
 refine aq Tryz.call90 (iR.r) s38 ?_
 refine al 4 tk rfl (af ?_)
 obtain rfl := am H
 refine aC tk rfl (ps := [(.list 50 (x38.1.map aJ)),(ae x38.2)]) ⟨_,_,rfl,rfl,_,_,rfl,rfl,rfl⟩ (PLe.q rfl)
def gG (rA : LRun) (q : LQuery) : Option ((List LCol)) :=
 ai (fq (LChecker.mk rA.s rA.vars) q) fun x14 =>
 some x14.1
theorem lE (rA : LRun) (q : LQuery) (r : (List LCol)) (H : gG rA q = some r) :
  bc Tryz.prog 134 [(.agg (iB rA)),(.agg (bE q))] (.list 50 (r.map aJ)) := by
 unfold gG at H
 refine PH.aD Tryz.func134 Tryz.ntmps134 ?_
 refine ab (ac (aV ?_))
 refine aV ?_
 refine ao tk rfl (af (ab (ac (al 6 tk rfl ?_))))
 obtain ⟨x14,h14,H⟩ := ax H
 have s14 := lg (LChecker.mk rA.s rA.vars) q _ h14
 refine aq Tryz.call90 (iR.r) s14 ?_
 refine al 5 tk rfl (af (aw 2 tk rfl ?_))
 obtain rfl := am H
 refine aC tk rfl (ps := [(.list 50 (x14.1.map aJ))]) ⟨_,_,rfl,rfl,rfl⟩ (PLe.q rfl)
def eV (x : List (List UInt8)) : Option ((List (List UInt8))) :=
 ai (iF (IntKind.u64.wrap (x.length : Int))) fun x9 =>
 ai (gR x 0 (x.length : Int) x9) fun x10 =>
 ai (cE (x10.length = x.length) ()) fun (_ : Unit) =>
 some x10
theorem mJ (g_x : OwnRef) (x : List (List UInt8)) (r : (List (List UInt8))) (H : eV x = some r) :
  PH Tryz.prog 77 [(.own 0 g_x (x.map aB).length)] ⟨fun _=>none,upd (fun _=>none) 0 (some ⟨g_x,9,(x.map aB),true⟩)⟩ (fun u H=>u = (.tup []) ∧ H = ⟨fun _=>none,upd (fun _=>none) 0 (some ⟨g_x,9,(r.map aB),true⟩)⟩) := by
 unfold eV at H
 refine PH.aD Tryz.func77 Tryz.ntmps77 ?_
 refine ab (ac (ao tk rfl (ip tk (zl _) ?_)))
 refine ao tk rfl (af (ac (al 4 tk rfl ?_)))
 obtain ⟨x9,h9,H⟩ := ax H
 have s9 := oY (IntKind.u64.wrap (x.length : Int)) _ h9
 refine aq Tryz.call93 (iR.r) s9 ?_
 obtain ⟨x10,h10,H⟩ := ax H
 have s10 := mp g_x x 0 (x.length : Int) x9 _ h10
 obtain ⟨_,q10_0,H⟩ := ax H
 have l10_0 := (bI q10_0).1
 have z10_0 : (List.map aB x).length = (List.map aB x10).length := by simpa using (l10_0).symm
 refine ci (g := 95) rfl rfl rfl Tryz.call95 [] [(0,0)] rfl rfl rfl rfl (iR.of2 (iG.cons (PLe2.own rfl) (iG.cons (PLe2.of_eq rfl) (iG.cons (PLe2.of_eq rfl) (iG.cons (PLe2.of_eq rfl) iG.nil))))) (by rw [bS,bJ,bR]; rfl) s10 ?_
 rintro u10 H10h ⟨rfl,rfl⟩
 refine ⟨_,rfl,?_⟩
 refine cw (st' := ⟨_,_,fun _=>none,upd (fun _=>none) 0 (some ⟨g_x,9,(x10.map aB),true⟩)⟩) (Gh.le (bQ _ _) ah (ay ag)) ?_
 refine af ?_
 obtain rfl := am H
 refine dq (st' := ⟨11,fun _=>.any,fun _=>none,upd (fun _=>none) 0 (some ⟨g_x,9,(x10.map aB),true⟩)⟩) (Gh.le aj ah (ay ag)) ?_
 refine iy rfl (PLe.q rfl) ⟨rfl,rfl⟩
def kt (rec97 : LRun → LQuery → Option (Rz)) (rec132 : LRun → LQuery → Option (Rz)) (rA : LRun) (q : LQuery) : Option (Rz) :=
 cond (q.kind == (1 : Int))
  (ai (aW (σ := Unit) (ρ := (Rz)) (fun (_ : Nat) (x1 : LRelation) (_ : Unit) =>
   cond (x1.table == q.table)
    (some (.ret x1.rows))
    (some (.next ()))) 0 rA.st ()) fun fl1=>fl1.thenR fun (_ : Unit) =>
  some [])
  (bf (
   cond (q.kind == (4 : Int))
    ((q.kind == (4 : Int)))
    ((q.kind == (5 : Int)))) fun (t2 : Bool) =>
  cond t2
   (ai (rec132 rA q) fun x37 =>
   some x37)
   (cond (q.kind == (6 : Int))
    (ai (aG q.inputs 0) fun (x43 : LQuery) =>
    ai (aG q.inputs 1) fun (x50 : LQuery) =>
    ai (rec97 rA x43) fun x45 =>
    ai (rec97 rA x50) fun x52 =>
    ai (dT 24 x45 x52) fun (x53 : Rz) =>
    some x53)
    (cond (q.kind == (7 : Int))
     (ai (aG q.inputs 0) fun (x59 : LQuery) =>
     ai (aG q.inputs 1) fun (x65 : LQuery) =>
     ai (rec97 rA x59) fun x61 =>
     ai (rec97 rA x65) fun x67 =>
     ai (kT x61 x67) fun x68 =>
     some x68)
     (ai (aG q.inputs 0) fun (x72 : LQuery) =>
     ai (rec97 rA x72) fun x74 =>
     ai (aG q.inputs 0) fun (x78 : LQuery) =>
     ai (gG rA x78) fun x80 =>
     cond (q.kind == (2 : Int))
      (ai (dH x74 (fun a0=>iA a0 rA x80 q)) fun x88 =>
      some x88)
      (cond (q.kind == (3 : Int))
       (ai (aW (σ := Rz) (ρ := Empty) (fun (_ : Nat) (x3 : Rq) (s3 : Rz) =>
        ai (dU rA x80 x3 q.exprs) fun x103 =>
        ai (dT 24 s3 ([x103] : Rz)) fun (x105 : Rz) =>
        some (.next x105)) 0 x74 []) fun fl3=>fl3.thenP fun (s3 : Rz) =>
       some s3)
       (cond (q.kind == (8 : Int))
        (ai (iV rA q x80 x74) fun x114 =>
        some x114)
        (cond (q.kind == (9 : Int))
         (ai (fX rA q x80 x74) fun x121 =>
         some x121)
         (ai (ny x74 (if (x74.length : Int) < q.offset then (x74.length : Int) else q.offset) (IntKind.i64.wrap ((if (x74.length : Int) < q.offset then (x74.length : Int) else q.offset) + (if (IntKind.i64.wrap ((x74.length : Int) - (if (x74.length : Int) < q.offset then (x74.length : Int) else q.offset))) < q.count then (IntKind.i64.wrap ((x74.length : Int) - (if (x74.length : Int) < q.offset then (x74.length : Int) else q.offset))) else q.count)))) fun (x138 : Rz) =>
         some x138))))))))
theorem ry (rec97 : LRun → LQuery → Option (Rz)) (rec132 : LRun → LQuery → Option (Rz)) (hrec97 : ∀ a0 a1 r,rec97 a0 a1 = some r → bc Tryz.prog 97 [(.agg (iB a0)),(.agg (bE a1))] (.list 51 (r.map (au 53 ak)))) (hrec132 : ∀ a0 a1 r,rec132 a0 a1 = some r → bc Tryz.prog 132 [(.agg (iB a0)),(.agg (bE a1))] (.list 51 (r.map (au 53 ak)))) (rA : LRun) (q : LQuery) (r : Rz) (H : kt rec97 rec132 rA q = some r) :
  bc Tryz.prog 97 [(.agg (iB rA)),(.agg (bE q))] (.list 51 (r.map (au 53 ak))) := by
 unfold kt at H
 refine PH.aD Tryz.func97 Tryz.ntmps97 ?_
 refine ab (ac (aV ?_))
 refine aV ?_
 refine ao tk rfl (af (ab (aw 2 tk rfl (az (aw 2 tk rfl ?_)))))
 refine aP rfl H (fun H=>?_) (fun H=>?_)
 ·refine ab (ab (ac (al 2 tk rfl (aN tk (zl _) ?_))))
  refine ao tk rfl (af ?_)
  obtain ⟨fl1,H1,Hp1⟩ := ax H
  refine bP tk 18 rfl rfl (fun hz1 _=>?_)
  rw [zl] at hz1
  refine aY (τ := Unit) (γ := Unit) (fun s1 g1=>⟨139,fun _=>.any,fun _=>none,fun _=>none⟩) (fun t=>fl1 = .next t) ?_ (fun s1 g1 hn1=>?_)
  ·refine az ?_
   refine bC (fun j1 s1 g1=>⟨139,upd (upd (upd (upd (fun _=>.any) 20 (ae (j1 : Int))) 19 (ae (rA.st.length : Int))) 18 (.list 87 (rA.st.map br))) 3 (.ptr [(ae q.kind),(.str q.table),(.list 9 (q.names.map aB)),(.list 56 (q.exprs.map bg)),(.list 66 (q.aggregates.map cn)),(.list 4 (q.descending.map cz)),(ae q.count),(ae q.offset),(.list 35 (q.inputs.map ba))]),fun _=>none,fun _=>none⟩) () H1 (Gh.le (aa (aa (aa (aa aj)))) ah ag) (fun j1 s1 g1 hj1 hr1=>?_)
   refine aw 1 tk rfl (ab ?_)
   refine aZ rfl (fun h=>?_) (fun h=>?_)
   ·have hl1 := co h
    obtain ⟨x1,fb1,hx1,H,hg1⟩ := rMc hl1 hr1
    refine av (ab (az (ab (ac ?_))))
    refine bs tk (zn j1) (bO (fun _=>rfl) hx1) ?_
    refine ao tk rfl ?_
    refine bu tk fun b6=>?_
    refine aE tk ?_
    refine af (ab (ac (ao tk rfl (aT tk ?_))))
    refine al 3 tk rfl (af ?_)
    refine aP rfl H (fun H=>?_) (fun H=>?_)
    ·refine ab (ac (ao tk rfl (aT tk ?_)))
     refine ao tk rfl (af ?_)
     obtain rfl := am H
     have e1 : fl1 = .ret _ := hg1
     subst e1
     obtain rfl := bp Hp1
     refine aC tk rfl (ps := [(.list 51 (x1.rows.map (au 53 ak)))]) ⟨_,_,rfl,rfl,rfl⟩ (PLe.q rfl)
    refine av (aR (bm 2 tk rfl ?_))
    obtain rfl := am H
    refine aK () () ⟨hl1,hg1⟩ (Gh.le (aa (aa (aa (aH (PLe.q (aU (by omega))) aj)))) ah ag)
   have hn1 := rMd (cp h) hr1
   refine aO rfl ?_
   refine aQ s1 g1 hn1 (Gh.le aj ah ag)
  have H := cl hn1 Hp1
  refine aw 1 tk rfl ?_
  obtain rfl := am H
  refine aC tk rfl (ps := [(.val (.slice none 0 0))]) ⟨_,_,rfl,rfl,rfl⟩ (PLe.of2 (PLe2.nil tk rfl))
 refine ab (aw 2 tk rfl ?_)
 obtain ⟨fl2,H2,Hp2⟩ := bw H
 refine aY (τ := Bool) (γ := Unit) (fun t2 g2=>⟨139,upd (upd (upd (upd (fun _=>.any) 32 (aF t2)) 14 (ae q.kind)) 3 (.ptr [(ae q.kind),(.str q.table),(.list 9 (q.names.map aB)),(.list 56 (q.exprs.map bg)),(.list 66 (q.aggregates.map cn)),(.list 4 (q.descending.map cz)),(ae q.count),(ae q.offset),(.list 35 (q.inputs.map ba))])) 2 (.ptr [(.list 91 (rA.s.tables.map bv)),(.list 142 (rA.s.foreignKeys.map cy)),(.list 148 (rA.s.constraints.map cJ)),(.list 87 (rA.st.map br)),(.list 53 (rA.args.map ak)),(.list 50 (rA.vars.map aJ)),(.list 9 (rA.names.map aB)),(.list 53 (rA.vals.map ak))]),fun _=>none,fun _=>none⟩) (fun t=>t = fl2) ?_ (fun t2 g2 hn2=>?_)
 ·have H := H2
  refine aP rfl H (fun H=>?_) (fun H=>?_)
  ·refine av ?_
   subst H
   refine aQ (q.kind == (4 : Int)) () rfl (Gh.le (aa (aa (aa (aa aj)))) ah ag)
  refine bm 2 tk rfl ?_
  subst H
  refine aQ (q.kind == (5 : Int)) () rfl (Gh.le (aa (aa (aa (aa aj)))) ah ag)
 subst hn2
 have H := Hp2
 refine aP rfl H (fun H=>?_) (fun H=>?_)
 ·refine ab (ac (al 2 tk rfl ?_))
  obtain ⟨x37,h37,H⟩ := ax H
  have s37 := hrec132 rA q _ h37
  refine aq Tryz.call132 (iR.r) s37 ?_
  refine ao tk rfl (af ?_)
  obtain rfl := am H
  refine aC tk rfl (ps := [(.list 51 (x37.map (au 53 ak)))]) ⟨_,_,rfl,rfl,rfl⟩ (PLe.q rfl)
 refine aw 2 tk rfl ?_
 refine aP rfl H (fun H=>?_) (fun H=>?_)
 ·refine ab (bo tk mok ⟨false,false,[]⟩ [0,1,2,3,4,7,8,9,10,11,5,6,12,13,14] rfl (by decide +kernel) rfl (aL 3 rfl ?_))
  obtain ⟨x43,k43,H⟩ := aX H
  refine cj k43.1 (aI cM k43.2) ?_
  refine aL 4 rfl ?_
  obtain ⟨x50,k50,H⟩ := aX H
  refine cj k50.1 (aI cM k50.2) ?_
  refine cq rfl ?_
  obtain ⟨x45,h45,H⟩ := ax H
  have s45 := hrec97 rA x43 _ h45
  refine bj Tryz.call97 (iR.r) s45 ?_
  have s46 := qb (m := 46) x45
  refine sy (g := 21) rfl rfl rfl rfl Tryz.call21 (iR.r) rfl rfl s46 (fun g46=>?_)
  obtain ⟨x52,h52,H⟩ := ax H
  have s52 := hrec97 rA x50 _ h52
  refine bj Tryz.call97 (iR.r) s52 ?_
  obtain ⟨x53,h53,H⟩ := ax H
  have k53 := cY h53
  refine lb (rows2' := List.map (au 53 ak) x52) (rows' := List.map (au 53 ak) x53) tk rfl rfl rfl rfl rfl rfl rfl rfl rfl rfl rfl rfl rfl rfl (kj.refl _) (et k53.1) (ew k53.2.1) (ez k53.2.2) fun g53=>?_
  refine cq rfl (bh ?_)
  obtain rfl := am H
  refine dX 4 rfl rfl rfl ?_
  refine aC tk rfl (ps := [(.list 51 (x53.map (au 53 ak)))]) ⟨_,_,rfl,rfl,rfl⟩ (PLe.q rfl)
 refine aw 2 tk rfl ?_
 refine aP rfl H (fun H=>?_) (fun H=>?_)
 ·refine ab (bo tk mok ⟨false,false,[]⟩ [0,1,2,3,4,6,7,8,9,10,5,11,12,13] rfl (by decide +kernel) rfl (aL 3 rfl ?_))
  obtain ⟨x59,k59,H⟩ := aX H
  refine cj k59.1 (aI cM k59.2) ?_
  refine aL 4 rfl ?_
  obtain ⟨x65,k65,H⟩ := aX H
  refine cj k65.1 (aI cM k65.2) ?_
  refine cq rfl ?_
  obtain ⟨x61,h61,H⟩ := ax H
  have s61 := hrec97 rA x59 _ h61
  refine bj Tryz.call97 (iR.r) s61 ?_
  obtain ⟨x67,h67,H⟩ := ax H
  have s67 := hrec97 rA x65 _ h67
  refine bj Tryz.call97 (iR.r) s67 ?_
  obtain ⟨x68,h68,H⟩ := ax H
  have s68 := W_query_less x61 x67 _ h68
  refine bj Tryz.call133 (iR.r) s68 ?_
  refine cq rfl (bh ?_)
  obtain rfl := am H
  refine aC tk rfl (ps := [(.list 51 (x68.map (au 53 ak)))]) ⟨_,_,rfl,rfl,rfl⟩ (PLe.q rfl)
 refine av (aR (ab (bo tk mok ⟨false,false,[]⟩ [0,1,2,3,4,5,6] rfl (by decide +kernel) rfl (aL 3 rfl ?_))))
 obtain ⟨x72,k72,H⟩ := aX H
 refine cj k72.1 (aI cM k72.2) ?_
 refine cq rfl ?_
 obtain ⟨x74,h74,H⟩ := ax H
 have s74 := hrec97 rA x72 _ h74
 refine bj Tryz.call97 (iR.r) s74 ?_
 refine cq rfl (bh (ab (bo tk mok ⟨false,false,[]⟩ [0,1,2,3,4,5,6,7] rfl (by decide +kernel) rfl (aL 3 rfl ?_))))
 obtain ⟨x78,k78,H⟩ := aX H
 refine cj k78.1 (aI cM k78.2) ?_
 refine cq rfl ?_
 obtain ⟨x80,h80,H⟩ := ax H
 have s80 := lE rA x78 _ h80
 refine bj Tryz.call134 (iR.r) s80 ?_
 refine qc rfl rfl rfl rfl rfl rfl rfl rfl fun b8=>?_
 refine ec ?_
 refine bh (ab (aw 2 tk rfl (az (aw 2 tk rfl ?_))))
 refine aP rfl H (fun H=>?_) (fun H=>?_)
 ·refine ab (ac (ao tk rfl ?_))
  have s86 := qb (m := 86) x74
  refine ki Tryz.call21 (iR.r) s86 (fun g86=>?_)
  refine cw (Gh.freezeB 8 rfl rfl rfl rfl) (ao tk rfl ?_)
  obtain ⟨x88,h88,H⟩ := ax H
  have s88 := kM g86 x74 (fun a0=>iA a0 rA x80 q) Tryz.call136 (fun a0 r h=>re a0 rA x80 q r h) _ h88
  refine ci (g := 135) rfl rfl rfl Tryz.call135 [] [(86,0)] rfl rfl rfl rfl (iR.of2 (iG.cons (PLe2.own rfl) (iG.cons (PLe2.of_eq rfl) iG.nil))) (by rw [bS,bJ,bR]; rfl) s88 ?_
  rintro u88 H88h ⟨rfl,rfl⟩
  refine ⟨_,rfl,?_⟩
  refine cw (st' := ⟨_,_,fun _=>none,upd (fun _=>none) 86 (some ⟨g86,51,(x88.map (au 53 ak)),true⟩)⟩) (Gh.le (bQ _ _) ah (ay ag)) ?_
  refine lc 88 (q := (.own 86 g86 (x88.map (au 53 ak)).length)) rfl (PLe.of2 (PLe2.own rfl)) (ao tk rfl (af ?_))
  obtain rfl := am H
  refine dX 4 rfl rfl rfl ?_
  refine aC tk rfl (ps := [(.list 51 (x88.map (au 53 ak)))]) ⟨_,_,rfl,rfl,rfl⟩ (PLe.q rfl)
 refine aw 2 tk rfl ?_
 refine aP rfl H (fun H=>?_) (fun H=>?_)
 ·refine aw 1 tk rfl (ab (ab (ac (ao tk rfl (aN tk (zl _) ?_)))))
  refine ao tk rfl (af ?_)
  obtain ⟨fl3,H3,Hp3⟩ := ax H
  refine bP tk 91 rfl rfl (fun hz3 _=>?_)
  rw [zl] at hz3
  refine aY (τ := Rz) (γ := OwnRef) (fun s3 g3=>⟨139,upd (fun _=>.any) 9 (.own 105 g3 (s3.map (au 53 ak)).length),fun _=>none,upd (fun _=>none) 105 (some ⟨g3,51,(s3.map (au 53 ak)),true⟩)⟩) (fun t=>fl3 = .next t) ?_ (fun s3 g3 hn3=>?_)
  ·refine az (ic tk 9 105 (e := 51) rfl rfl ?_)
   refine bC (fun j3 s3 g3=>⟨139,upd (upd (upd (upd (upd (upd (upd (fun _=>.any) 93 (ae (j3 : Int))) 92 (ae (x74.length : Int))) 91 (.list 51 (x74.map (au 53 ak)))) 9 (.own 105 g3 (s3.map (au 53 ak)).length)) 8 (.box 8 b8 0)) 3 (.ptr [(ae q.kind),(.str q.table),(.list 9 (q.names.map aB)),(.list 56 (q.exprs.map bg)),(.list 66 (q.aggregates.map cn)),(.list 4 (q.descending.map cz)),(ae q.count),(ae q.offset),(.list 35 (q.inputs.map ba))])) 2 (.ptr [(.list 91 (rA.s.tables.map bv)),(.list 142 (rA.s.foreignKeys.map cy)),(.list 148 (rA.s.constraints.map cJ)),(.list 87 (rA.st.map br)),(.list 53 (rA.args.map ak)),(.list 50 (rA.vars.map aJ)),(.list 9 (rA.names.map aB)),(.list 53 (rA.vals.map ak))]),upd (fun _=>none) 8 (some ⟨b8,[(.list 50 (x80.map aJ))]⟩),upd (fun _=>none) 105 (some ⟨g3,51,(s3.map (au 53 ak)),true⟩)⟩) (⟨none,0⟩) H3 (Gh.le (aa (aa (aa (aa (aa (aa (aa aj))))))) (aA rfl (iR.r) ah) (ay ag)) (fun j3 s3 g3 hj3 hr3=>?_)
   refine aw 1 tk rfl (ab ?_)
   refine aZ rfl (fun h=>?_) (fun h=>?_)
   ·have hl3 := co h
    obtain ⟨x3,fb3,hx3,H,hg3⟩ := rMc hl3 hr3
    refine av (ab (az (ab (ac ?_))))
    refine bs tk (zn j3) (bO (fun _=>rfl) hx3) ?_
    refine al 2 tk rfl (af (ac (al 2 tk rfl (aT tk ?_))))
    refine al 3 tk rfl ?_
    obtain ⟨x103,h103,H⟩ := ax H
    have s103 := jU rA x80 x3 q.exprs _ h103
    refine aq Tryz.call140 (iR.r) s103 ?_
    refine cQ tk (rows' := List.map (au 53 ak) ([x103] : Rz)) (kj.refl _) ?_
    obtain ⟨x105,h105,H⟩ := ax H
    have k105 := cY h105
    refine cZ (rows2' := List.map (au 53 ak) ([x103] : Rz)) (rows' := List.map (au 53 ak) x105) tk rfl rfl rfl rfl rfl rfl rfl rfl rfl rfl rfl rfl rfl (kj.refl _) (et k105.1) (ew k105.2.1) (ez k105.2.2) fun g105=>?_
    refine ao tk rfl (af (aR (bm 2 tk rfl ?_)))
    obtain rfl := am H
    refine aK x105 g105 ⟨hl3,hg3⟩ (Gh.le (aa (aa (aa (aa (aa (aa (aH (PLe.q (aU (by omega))) aj))))))) (aA rfl (iR.r) ah) (ay ag))
   have hn3 := rMd (cp h) hr3
   refine aO rfl ?_
   refine aQ s3 g3 hn3 (Gh.le (aa aj) ah (ay ag))
  have H := bn hn3 Hp3
  refine aw 2 tk rfl ?_
  obtain rfl := am H
  refine dX 4 rfl rfl rfl ?_
  refine aC tk rfl (ps := [(.list 51 (s3.map (au 53 ak)))]) ⟨_,_,rfl,rfl,rfl⟩ (PLe.q rfl)
 refine aw 2 tk rfl ?_
 refine aP rfl H (fun H=>?_) (fun H=>?_)
 ·refine ab (ac (al 2 tk rfl (aT tk ?_)))
  refine ao tk rfl ?_
  obtain ⟨x114,h114,H⟩ := ax H
  have s114 := rE rA q x80 x74 _ h114
  refine aq Tryz.call141 (iR.r) s114 ?_
  refine ao tk rfl (af ?_)
  obtain rfl := am H
  refine aC tk rfl (ps := [(.list 51 (x114.map (au 53 ak)))]) ⟨_,_,rfl,rfl,rfl⟩ (PLe.q rfl)
 refine aw 2 tk rfl ?_
 refine aP rfl H (fun H=>?_) (fun H=>?_)
 ·refine ab (ac (al 2 tk rfl (aT tk ?_)))
  refine ao tk rfl ?_
  obtain ⟨x121,h121,H⟩ := ax H
  have s121 := sd rA q x80 x74 _ h121
  refine aq Tryz.call142 (iR.r) s121 ?_
  refine ao tk rfl (af ?_)
  obtain rfl := am H
  refine aC tk rfl (ps := [(.list 51 (x121.map (au 53 ak)))]) ⟨_,_,rfl,rfl,rfl⟩ (PLe.q rfl)
 refine av (aR (ab (ac (al 3 tk rfl (aN tk (zl _) ?_)))))
 refine al 2 tk rfl (af (ab (ac (al 6 tk rfl (aN tk (zl _) ?_)))))
 refine al 4 tk rfl ?_
 obtain ⟨x138,h138,H⟩ := ax H
 have k138 := oS h138
 refine ss tk rfl rfl rfl rfl rfl (zl _) rfl rfl k138.1 (qj k138.2) rfl (ao tk rfl (af ?_))
 obtain rfl := am H
 refine aC tk rfl (ps := [(.list 51 (x138.map (au 53 ak)))]) ⟨_,_,rfl,rfl,rfl⟩ (PLe.q rfl)
def jr (rec97 : LRun → LQuery → Option (Rz)) (_rec132 : LRun → LQuery → Option (Rz)) (rA : LRun) (q : LQuery) : Option (Rz) :=
 ai (aG q.inputs 0) fun (x19 : LQuery) =>
 ai (aG q.inputs 1) fun (x25 : LQuery) =>
 ai (rec97 rA x19) fun x21 =>
 ai (rec97 rA x25) fun x27 =>
 ai (aG q.inputs 1) fun (x31 : LQuery) =>
 ai (gG rA x31) fun x33 =>
 ai (aG q.inputs 0) fun (x37 : LQuery) =>
 ai (gG rA x37) fun x39 =>
 ai (dT 32 x39 x33) fun (x42 : List LCol) =>
 ai (aW (σ := List LCol × Rz) (ρ := Empty) (fun (_ : Nat) (x1 : Rq) (s1 : List LCol × Rz) =>
  ai (aW (σ := Rz × Bool) (ρ := Empty) (fun (_ : Nat) (x6 : Rq) (s6 : Rz × Bool) =>
   ai (cr ([x1,x6] : Rz)) fun x58 =>
   ai (aG q.exprs 0) fun (x65 : LExpr) =>
   bf (bN rA s1.1 x58) fun x62 =>
   bf (dh x62 x65) fun x67 =>
   bf (la x67) fun x68 =>
   cond x68
    (ai (dT 24 s6.1 ([x58] : Rz)) fun (x72 : Rz) =>
    some (.next (x72,true)))
    (some (.next (s6.1,s6.2)))) 0 x27 (s1.2,false)) fun fl6=>fl6.thenP fun (s6 : Rz × Bool) =>
  bf (
   cond (!s6.2)
    ((q.kind == (5 : Int)))
    (false)) fun (t7 : Bool) =>
  cond t7
   (ai (oW 32 (x33.length : Int)) fun (_ : Unit) =>
   ai (cr ([x1,(List.replicate (x33.length : Int).toNat (LVal.mk 0 0 []))] : Rz)) fun x87 =>
   ai (dT 24 s6.1 ([x87] : Rz)) fun (x89 : Rz) =>
   some (.next (s1.1,x89)))
   (some (.next (s1.1,s6.1)))) 0 x21 (x42,[])) fun fl1=>fl1.thenP fun (s1 : List LCol × Rz) =>
 some s1.2
theorem rB (rec97 : LRun → LQuery → Option (Rz)) (rec132 : LRun → LQuery → Option (Rz)) (hrec97 : ∀ a0 a1 r,rec97 a0 a1 = some r → bc Tryz.prog 97 [(.agg (iB a0)),(.agg (bE a1))] (.list 51 (r.map (au 53 ak)))) (_hrec132 : ∀ a0 a1 r,rec132 a0 a1 = some r → bc Tryz.prog 132 [(.agg (iB a0)),(.agg (bE a1))] (.list 51 (r.map (au 53 ak)))) (rA : LRun) (q : LQuery) (r : Rz) (H : jr rec97 rec132 rA q = some r) :
  bc Tryz.prog 132 [(.agg (iB rA)),(.agg (bE q))] (.list 51 (r.map (au 53 ak))) := by
 unfold jr at H
 refine PH.aD Tryz.func132 Tryz.ntmps132 ?_
 refine ab (ac (aV ?_))
 refine aV ?_
 refine ao tk rfl (af (ab (bo tk mok ⟨false,false,[]⟩ [0,1,2,3,4,6,7,8,9,10,5,11,12,13] rfl (by decide +kernel) rfl (aL 3 rfl ?_))))
 obtain ⟨x19,k19,H⟩ := aX H
 refine cj k19.1 (aI cM k19.2) ?_
 refine aL 4 rfl ?_
 obtain ⟨x25,k25,H⟩ := aX H
 refine cj k25.1 (aI cM k25.2) ?_
 refine cq rfl ?_
 obtain ⟨x21,h21,H⟩ := ax H
 have s21 := hrec97 rA x19 _ h21
 refine bj Tryz.call97 (iR.r) s21 ?_
 obtain ⟨x27,h27,H⟩ := ax H
 have s27 := hrec97 rA x25 _ h27
 refine bj Tryz.call97 (iR.r) s27 ?_
 refine aL 2 rfl (bh (ab (bo tk mok ⟨false,false,[]⟩ [0,1,2,3,4,5,6] rfl (by decide +kernel) rfl (aL 3 rfl ?_))))
 obtain ⟨x31,k31,H⟩ := aX H
 refine cj k31.1 (aI cM k31.2) ?_
 refine cq rfl ?_
 obtain ⟨x33,h33,H⟩ := ax H
 have s33 := lE rA x31 _ h33
 refine bj Tryz.call134 (iR.r) s33 ?_
 refine cq rfl (bh (ab (bo tk mok ⟨false,false,[]⟩ [0,1,2,3,4,7,5,6,8,9] rfl (by decide +kernel) rfl (aL 3 rfl ?_))))
 obtain ⟨x37,k37,H⟩ := aX H
 refine cj k37.1 (aI cM k37.2) ?_
 refine aL 2 rfl ?_
 obtain ⟨x39,h39,H⟩ := ax H
 have s39 := lE rA x37 _ h39
 refine bj Tryz.call134 (iR.r) s39 ?_
 have s40 := pf (m := 40) x39
 refine sy (g := 155) rfl rfl rfl rfl Tryz.call155 (iR.r) rfl rfl s40 (fun g40=>?_)
 obtain ⟨x42,h42,H⟩ := ax H
 have k42 := cY h42
 refine lb (rows2' := List.map aJ x33) (rows' := List.map aJ x42) tk rfl rfl rfl rfl rfl rfl rfl rfl rfl rfl rfl rfl rfl rfl (kj.refl _) (et k42.1) (ew k42.2.1) (ez k42.2.2) fun g42=>?_
 refine cq rfl (bh (aw 1 tk rfl (ab (ab (ac (ao tk rfl (aN tk (zl _) ?_)))))))
 refine ao tk rfl (af ?_)
 obtain ⟨fl1,H1,Hp1⟩ := ax H
 refine bP tk 43 rfl rfl (fun hz1 _=>?_)
 rw [zl] at hz1
 refine aY (τ := List LCol × Rz) (γ := OwnRef) (fun s1 g1=>⟨92,upd (fun _=>.any) 9 (.own 72 g1 (s1.2.map (au 53 ak)).length),fun _=>none,upd (fun _=>none) 72 (some ⟨g1,51,(s1.2.map (au 53 ak)),true⟩)⟩) (fun t=>fl1 = .next t) ?_ (fun s1 g1 hn1=>?_)
 ·refine az (dX 8 rfl rfl rfl (ic tk 9 72 (e := 51) rfl rfl ?_))
  refine bC (fun j1 s1 g1=>⟨92,upd (upd (upd (upd (upd (upd (upd (upd (upd (fun _=>.any) 45 (ae (j1 : Int))) 44 (ae (x21.length : Int))) 43 (.list 51 (x21.map (au 53 ak)))) 9 (.own 72 g1 (s1.2.map (au 53 ak)).length)) 8 (.list 50 (s1.1.map aJ))) 7 (.list 50 (x33.map aJ))) 6 (.list 51 (x27.map (au 53 ak)))) 3 (.ptr [(ae q.kind),(.str q.table),(.list 9 (q.names.map aB)),(.list 56 (q.exprs.map bg)),(.list 66 (q.aggregates.map cn)),(.list 4 (q.descending.map cz)),(ae q.count),(ae q.offset),(.list 35 (q.inputs.map ba))])) 2 (.ptr [(.list 91 (rA.s.tables.map bv)),(.list 142 (rA.s.foreignKeys.map cy)),(.list 148 (rA.s.constraints.map cJ)),(.list 87 (rA.st.map br)),(.list 53 (rA.args.map ak)),(.list 50 (rA.vars.map aJ)),(.list 9 (rA.names.map aB)),(.list 53 (rA.vals.map ak))]),fun _=>none,upd (fun _=>none) 72 (some ⟨g1,51,(s1.2.map (au 53 ak)),true⟩)⟩) (⟨none,0⟩) H1 (Gh.le (aa (aa (aa (aa (aa (aa (aa (aa (aa aj))))))))) ah (ay ag)) (fun j1 s1 g1 hj1 hr1=>?_)
  refine aw 1 tk rfl (ab ?_)
  refine aZ rfl (fun h=>?_) (fun h=>?_)
  ·have hl1 := co h
   obtain ⟨x1,fb1,hx1,H,hg1⟩ := rMc hl1 hr1
   refine av (ab (az (ab (ac ?_))))
   refine bs tk (zn j1) (bO (fun _=>rfl) hx1) ?_
   refine al 2 tk rfl (af (aw 1 tk rfl (ab (ab (ac (ao tk rfl (aN tk (zl _) ?_)))))))
   refine ao tk rfl (af ?_)
   obtain ⟨fl6,H6,Hp6⟩ := ax H
   refine bP tk 49 rfl rfl (fun hz6 _=>?_)
   rw [zl] at hz6
   refine aY (τ := Rz × Bool) (γ := OwnRef) (fun s6 g6=>⟨92,upd (upd (upd (upd (upd (upd (upd (upd (upd (upd (upd (fun _=>.any) 45 (ae (j1 : Int))) 44 (ae (x21.length : Int))) 43 (.list 51 (x21.map (au 53 ak)))) 12 (aF s6.2)) 11 (.list 53 (x1.map ak))) 9 (.own 72 g6 (s6.1.map (au 53 ak)).length)) 8 (.list 50 (s1.1.map aJ))) 7 (.list 50 (x33.map aJ))) 6 (.list 51 (x27.map (au 53 ak)))) 3 (.ptr [(ae q.kind),(.str q.table),(.list 9 (q.names.map aB)),(.list 56 (q.exprs.map bg)),(.list 66 (q.aggregates.map cn)),(.list 4 (q.descending.map cz)),(ae q.count),(ae q.offset),(.list 35 (q.inputs.map ba))])) 2 (.ptr [(.list 91 (rA.s.tables.map bv)),(.list 142 (rA.s.foreignKeys.map cy)),(.list 148 (rA.s.constraints.map cJ)),(.list 87 (rA.st.map br)),(.list 53 (rA.args.map ak)),(.list 50 (rA.vars.map aJ)),(.list 9 (rA.names.map aB)),(.list 53 (rA.vals.map ak))]),fun _=>none,upd (fun _=>none) 72 (some ⟨g6,51,(s6.1.map (au 53 ak)),true⟩)⟩) (fun t=>fl6 = .next t) ?_ (fun s6 g6 hn6=>?_)
   ·refine az ?_
    refine bC (fun j6 s6 g6=>⟨92,upd (upd (upd (upd (upd (upd (upd (upd (upd (upd (upd (upd (upd (upd (fun _=>.any) 51 (ae (j6 : Int))) 50 (ae (x27.length : Int))) 49 (.list 51 (x27.map (au 53 ak)))) 45 (ae (j1 : Int))) 44 (ae (x21.length : Int))) 43 (.list 51 (x21.map (au 53 ak)))) 12 (aF s6.2)) 11 (.list 53 (x1.map ak))) 9 (.own 72 g6 (s6.1.map (au 53 ak)).length)) 8 (.list 50 (s1.1.map aJ))) 7 (.list 50 (x33.map aJ))) 6 (.list 51 (x27.map (au 53 ak)))) 3 (.ptr [(ae q.kind),(.str q.table),(.list 9 (q.names.map aB)),(.list 56 (q.exprs.map bg)),(.list 66 (q.aggregates.map cn)),(.list 4 (q.descending.map cz)),(ae q.count),(ae q.offset),(.list 35 (q.inputs.map ba))])) 2 (.ptr [(.list 91 (rA.s.tables.map bv)),(.list 142 (rA.s.foreignKeys.map cy)),(.list 148 (rA.s.constraints.map cJ)),(.list 87 (rA.st.map br)),(.list 53 (rA.args.map ak)),(.list 50 (rA.vars.map aJ)),(.list 9 (rA.names.map aB)),(.list 53 (rA.vals.map ak))]),fun _=>none,upd (fun _=>none) 72 (some ⟨g6,51,(s6.1.map (au 53 ak)),true⟩)⟩) g1 H6 (Gh.le (aa (aa (aa (aa (aa (aa (aa (aa (aa (aa (aa (aa (aa (aa aj)))))))))))))) ah (ay ag)) (fun j6 s6 g6 hj6 hr6=>?_)
    refine aw 1 tk rfl (ab ?_)
    refine aZ rfl (fun h=>?_) (fun h=>?_)
    ·have hl6 := co h
     obtain ⟨x6,fb6,hx6,H,hg6⟩ := rMc hl6 hr6
     refine av (ab (az (ab (ac ?_))))
     refine bs tk (zn j6) (bO (fun _=>rfl) hx6) ?_
     refine al 2 tk rfl (af (ab (ac (al 2 tk rfl (cQ tk (rows' := List.map (au 53 ak) ([x1,x6] : Rz)) (kj.refl _) ?_)))))
     obtain ⟨x58,h58,H⟩ := ax H
     have s58 := ja (m := 58) ([x1,x6] : Rz) _ h58
     refine aq Tryz.call168 (iR.r) (PFun.iv s58) ?_
     refine ao tk rfl (af (ab (bo tk mok ⟨false,false,[]⟩ [0,1,2,4,5,6,7,3,8,9] rfl (by decide +kernel) rfl (aL 5 rfl ?_))))
     obtain ⟨x65,k65,H⟩ := aX H
     refine cj k65.1 (aI eT k65.2) ?_
     refine cq rfl ?_
     obtain ⟨x62,h62,H⟩ := bw H
     have s62 := kG rA s1.1 x58
     rw [h62] at s62
     refine bj Tryz.call139 (iR.r) s62 ?_
     obtain ⟨x67,h67,H⟩ := bw H
     have s67 := ng x62 x65
     rw [h67] at s67
     refine bj Tryz.call138 (iR.r) s67 ?_
     obtain ⟨x68,h68,H⟩ := bw H
     have s68 := isTS x67
     rw [h68] at s68
     refine bj Tryz.call137 (iR.r) s68 ?_
     refine bh ?_
     refine aP rfl H (fun H=>?_) (fun H=>?_)
     ·refine ab (ac (al 2 tk rfl (cQ tk (rows' := List.map (au 53 ak) ([x58] : Rz)) (kj.refl _) ?_)))
      obtain ⟨x72,h72,H⟩ := ax H
      have k72 := cY h72
      refine cZ (rows2' := List.map (au 53 ak) ([x58] : Rz)) (rows' := List.map (au 53 ak) x72) tk rfl rfl rfl rfl rfl rfl rfl rfl rfl rfl rfl rfl rfl (kj.refl _) (et k72.1) (ew k72.2.1) (ez k72.2.2) fun g72=>?_
      refine ao tk rfl (af (bm 1 tk rfl (aR (bm 2 tk rfl ?_))))
      obtain rfl := am H
      refine aK (x72,true) g72 ⟨hl6,hg6⟩ (Gh.le (aa (aa (aa (aa (aa (aa (aa (aa (aa (aa (aa (aa (aa (aH (PLe.q (aU (by omega))) aj)))))))))))))) ah (ay ag))
     refine av (aR (bm 2 tk rfl ?_))
     obtain rfl := am H
     refine aK (s6.1,s6.2) g6 ⟨hl6,hg6⟩ (Gh.le (aa (aa (aa (aa (aa (aa (aa (aa (aa (aa (aa (aa (aa (aH (PLe.q (aU (by omega))) aj)))))))))))))) ah (ay ag))
    have hn6 := rMd (cp h) hr6
    refine aO rfl ?_
    refine aQ s6 g6 hn6 (Gh.le (aa (aa (aa (aa (aa (aa (aa (aa (aa (aa (aa aj))))))))))) ah (ay ag))
   have H := bn hn6 Hp6
   refine ab ?_
   obtain ⟨fl7,H7,Hp7⟩ := bw H
   refine aY (τ := Bool) (γ := Unit) (fun t7 g7=>⟨92,upd (upd (upd (upd (upd (upd (upd (upd (upd (upd (upd (fun _=>.any) 80 (aF t7)) 45 (ae (j1 : Int))) 44 (ae (x21.length : Int))) 43 (.list 51 (x21.map (au 53 ak)))) 11 (.list 53 (x1.map ak))) 9 (.own 72 g6 (s6.1.map (au 53 ak)).length)) 8 (.list 50 (s1.1.map aJ))) 7 (.list 50 (x33.map aJ))) 6 (.list 51 (x27.map (au 53 ak)))) 3 (.ptr [(ae q.kind),(.str q.table),(.list 9 (q.names.map aB)),(.list 56 (q.exprs.map bg)),(.list 66 (q.aggregates.map cn)),(.list 4 (q.descending.map cz)),(ae q.count),(ae q.offset),(.list 35 (q.inputs.map ba))])) 2 (.ptr [(.list 91 (rA.s.tables.map bv)),(.list 142 (rA.s.foreignKeys.map cy)),(.list 148 (rA.s.constraints.map cJ)),(.list 87 (rA.st.map br)),(.list 53 (rA.args.map ak)),(.list 50 (rA.vars.map aJ)),(.list 9 (rA.names.map aB)),(.list 53 (rA.vals.map ak))]),fun _=>none,upd (fun _=>none) 72 (some ⟨g6,51,(s6.1.map (au 53 ak)),true⟩)⟩) (fun t=>t = fl7) ?_ (fun t7 g7 hn7=>?_)
   ·have H := H7
    refine ac (al 3 tk rfl ?_)
    refine bF rfl rfl rfl H (fun H=>?_) (fun H=>?_)
    ·refine al 4 tk rfl (af ?_)
     subst H
     refine aQ (q.kind == (5 : Int)) () rfl (Gh.le (aa (aa (aa (aa (aa (aa (aa (aa (aa (aa (aa aj))))))))))) ah (ay ag))
    refine al 4 tk rfl (af ?_)
    subst H
    refine aQ false () rfl (Gh.le (aa (aa (aa (aa (aa (aa (aa (aa (aa (aa (aa aj))))))))))) ah (ay ag))
   subst hn7
   have H := Hp7
   refine aP rfl H (fun H=>?_) (fun H=>?_)
   ·refine ac (al 3 tk rfl (aN tk (zl _) ?_))
    obtain ⟨_,h85,H⟩ := ax H
    have k85 := growI_some h85
    refine tf (rows := List.map ak (List.replicate (x33.length : Int).toNat (LVal.mk 0 0 []))) tk rfl rfl rfl rfl rfl rfl rfl rfl rfl rfl k85.1 k85.2.1 k85.2.2 (by rw [List.map_replicate]; rfl) fun g85=>?_
    refine cw (Gh.freezeO 85 rfl rfl rfl) (cQ tk (rows' := List.map (au 53 ak) ([x1,(List.replicate (x33.length : Int).toNat (LVal.mk 0 0 []))] : Rz)) (kj.refl _) ?_)
    obtain ⟨x87,h87,H⟩ := ax H
    have s87 := ja (m := 87) ([x1,(List.replicate (x33.length : Int).toNat (LVal.mk 0 0 []))] : Rz) _ h87
    refine aq Tryz.call168 (iR.r) (PFun.iv s87) ?_
    refine cQ tk (rows' := List.map (au 53 ak) ([x87] : Rz)) (kj.refl _) ?_
    obtain ⟨x89,h89,H⟩ := ax H
    have k89 := cY h89
    refine cZ (rows2' := List.map (au 53 ak) ([x87] : Rz)) (rows' := List.map (au 53 ak) x89) tk rfl rfl rfl rfl rfl rfl rfl rfl rfl rfl rfl rfl rfl (kj.refl _) (et k89.1) (ew k89.2.1) (ez k89.2.2) fun g89=>?_
    refine ao tk rfl (af (aR (bm 2 tk rfl ?_)))
    obtain rfl := am H
    refine aK (s1.1,x89) g89 ⟨hl1,hg1⟩ (Gh.le (aa (aa (aa (aa (aa (aa (aa (aa (aH (PLe.q (aU (by omega))) aj))))))))) ah (ay ag))
   refine av (aR (bm 2 tk rfl ?_))
   obtain rfl := am H
   refine aK (s1.1,s6.1) g6 ⟨hl1,hg1⟩ (Gh.le (aa (aa (aa (aa (aa (aa (aa (aa (aH (PLe.q (aU (by omega))) aj))))))))) ah (ay ag))
  have hn1 := rMd (cp h) hr1
  refine aO rfl ?_
  refine aQ s1 g1 hn1 (Gh.le (aa aj) ah (ay ag))
 have H := bn hn1 Hp1
 refine aw 2 tk rfl ?_
 obtain rfl := am H
 refine dX 4 rfl rfl rfl ?_
 refine aC tk rfl (ps := [(.list 51 (s1.2.map (au 53 ak)))]) ⟨_,_,rfl,rfl,rfl⟩ (PLe.q rfl)
mutual
def fy : Nat → LRun → LQuery → Option (Rz)
 | 0,_,_=>none
 | n + 1,v0,v1=>kt (fun b0 b1=>fy n b0 b1) (fun b0 b1=>gD n b0 b1) v0 v1
def gD : Nat → LRun → LQuery → Option (Rz)
 | 0,_,_=>none
 | n + 1,v0,v1=>jr (fun b0 b1=>fy n b0 b1) (fun b0 b1=>gD n b0 b1) v0 v1
end
theorem rC  (n : Nat) : (∀ a0 a1 r,fy n a0 a1 = some r → bc Tryz.prog 97 [(.agg (iB a0)),(.agg (bE a1))] (.list 51 (r.map (au 53 ak)))) ∧ (∀ a0 a1 r,gD n a0 a1 = some r → bc Tryz.prog 132 [(.agg (iB a0)),(.agg (bE a1))] (.list 51 (r.map (au 53 ak)))) := by
 induction n with
 | zero=>exact ⟨(by intros; rename_i h; exact absurd (show (none : Option _) = some _ from h) (by simp)),(by intros; rename_i h; exact absurd (show (none : Option _) = some _ from h) (by simp))⟩
 | succ n ih =>
  exact ⟨(fun v0 v1 r h=>ry (fun b0 b1=>fy n b0 b1) (fun b0 b1=>gD n b0 b1) ih.1 ih.2 v0 v1  r h),(fun v0 v1 r h=>rB (fun b0 b1=>fy n b0 b1) (fun b0 b1=>gD n b0 b1) ih.1 ih.2 v0 v1  r h)⟩
def lD (rA : LRun) (q : LQuery) : Option (Rz) := iY fun n=>fy n rA q
theorem rY (rA : LRun) (q : LQuery) (r : Rz) (H : lD rA q = some r) :
  bc Tryz.prog 97 [(.agg (iB rA)),(.agg (bE q))] (.list 51 (r.map (au 53 ak))) := by
 obtain ⟨n,h⟩ := jG H
 exact (rC  n).1 rA q r h
def lA (sA : LSchema) (q : LQuery) : Option ((List LCol) × Int) :=
 ai (gz sA ([] : List LCol) q) fun x8 =>
 some (x8.1,x8.2)
theorem W_query_Check (sA : LSchema) (q : LQuery) (r : (List LCol) × Int) (H : lA sA q = some r) :
  bc Tryz.prog 18 [(.agg (eK sA)),(.agg (bE q))] (.tup [(.list 50 (r.1.map aJ)),(ae r.2)]) := by
 unfold lA at H
 refine PH.aD Tryz.func18 Tryz.ntmps18 ?_
 refine ab (ac (aV ?_))
 refine aV ?_
 refine al 2 tk rfl (af (ab (ac (al 2 tk rfl ?_))))
 obtain ⟨x8,h8,H⟩ := ax H
 have s8 := mA sA ([] : List LCol) q _ h8
 refine aq Tryz.call54 (iR.of2 (iG.cons (PLe2.of_eq rfl) (iG.cons (PLe2.nil tk rfl) (iG.cons (PLe2.of_eq rfl) iG.nil)))) s8 ?_
 refine al 4 tk rfl (af ?_)
 obtain rfl := am H
 refine aC tk rfl (ps := [(.list 50 (x8.1.map aJ)),(ae x8.2)]) ⟨_,_,rfl,rfl,_,_,rfl,rfl,rfl⟩ (PLe.q rfl)
def iz (q : LQuery) : Option ((List (List UInt8))) :=
 ai (iL q) fun x7 =>
 ai (aW (σ := List (List UInt8)) (ρ := Empty) (fun (_ : Nat) (x1 : LQuery) (s1 : List (List UInt8)) =>
  cond (x1.kind == (1 : Int))
   (ai (dT 16 s1 ([x1.table] : List (List UInt8))) fun (x20 : List (List UInt8)) =>
   some (.next x20))
   (some (.next s1))) 0 x7 []) fun fl1=>fl1.thenP fun (s1 : List (List UInt8)) =>
 ai (eV s1) fun x23 =>
 ai (cE (x23.length = s1.length) ()) fun (_ : Unit) =>
 ai (eB x23) fun x25 =>
 some x25
theorem rc (q : LQuery) (r : (List (List UInt8))) (H : iz q = some r) :
  bc Tryz.prog 47 [(.agg (bE q))] (.list 9 (r.map aB)) := by
 unfold iz at H
 refine PH.aD Tryz.func47 Tryz.ntmps47 ?_
 refine ab (ac (aV ?_))
 refine ao tk rfl (af (aw 1 tk rfl (ab (ab (ac (ao tk rfl ?_))))))
 obtain ⟨x7,h7,H⟩ := ax H
 have s7 := nv (m := 7) q _ h7
 refine aq Tryz.call76 (iR.r) (PFun.iv s7) ?_
 refine aN tk (zl _) ?_
 refine ao tk rfl (af ?_)
 obtain ⟨fl1,H1,Hp1⟩ := ax H
 refine bP tk 7 rfl rfl (fun hz1 _=>?_)
 rw [zl] at hz1
 refine aY (τ := List (List UInt8)) (γ := OwnRef) (fun s1 g1=>⟨26,upd (fun _=>.any) 3 (.own 20 g1 (s1.map aB).length),fun _=>none,upd (fun _=>none) 20 (some ⟨g1,9,(s1.map aB),true⟩)⟩) (fun t=>fl1 = .next t) ?_ (fun s1 g1 hn1=>?_)
 ·refine az (ic tk 3 20 (e := 9) rfl rfl ?_)
  refine bC (fun j1 s1 g1=>⟨26,upd (upd (upd (upd (fun _=>.any) 9 (ae (j1 : Int))) 8 (ae (x7.length : Int))) 7 (.list 35 (x7.map ba))) 3 (.own 20 g1 (s1.map aB).length),fun _=>none,upd (fun _=>none) 20 (some ⟨g1,9,(s1.map aB),true⟩)⟩) (⟨none,0⟩) H1 (Gh.le (aa (aa (aa (aa aj)))) ah (ay ag)) (fun j1 s1 g1 hj1 hr1=>?_)
  refine aw 1 tk rfl (ab ?_)
  refine aZ rfl (fun h=>?_) (fun h=>?_)
  ·have hl1 := co h
   obtain ⟨x1,fb1,hx1,H,hg1⟩ := rMc hl1 hr1
   refine av (ab (az (ab (ac (bs tk (zn j1) (bO cM hx1) ?_)))))
   refine ao tk rfl ?_
   refine bu tk fun b5=>?_
   refine aE tk ?_
   refine af (ab (ac (ao tk rfl (aT tk ?_))))
   refine ao tk rfl (af ?_)
   refine aP rfl H (fun H=>?_) (fun H=>?_)
   ·refine ac (al 2 tk rfl (aT tk ?_))
    refine cQ tk (rows' := List.map aB ([x1.table] : List (List UInt8))) (kj.refl _) ?_
    obtain ⟨x20,h20,H⟩ := ax H
    have k20 := cY h20
    refine cZ (rows2' := List.map aB ([x1.table] : List (List UInt8))) (rows' := List.map aB x20) tk rfl rfl rfl rfl rfl rfl rfl rfl rfl rfl rfl rfl rfl (kj.refl _) (et k20.1) (ew k20.2.1) (ez k20.2.2) fun g20=>?_
    refine ao tk rfl (af (aR (bm 2 tk rfl ?_)))
    obtain rfl := am H
    refine aK x20 g20 ⟨hl1,hg1⟩ (Gh.le (aa (aa (aa (aH (PLe.q (aU (by omega))) aj)))) ah (ay ag))
   refine av (aR (bm 2 tk rfl ?_))
   obtain rfl := am H
   refine aK s1 g1 ⟨hl1,hg1⟩ (Gh.le (aa (aa (aa (aH (PLe.q (aU (by omega))) aj)))) ah (ay ag))
  have hn1 := rMd (cp h) hr1
  refine aO rfl ?_
  refine aQ s1 g1 hn1 (Gh.le (aa aj) ah (ay ag))
 have H := bn hn1 Hp1
 refine ab (ac (ao tk rfl ?_))
 obtain ⟨x23,h23,H⟩ := ax H
 have s23 := mJ g1 s1 _ h23
 obtain ⟨_,q23_0,H⟩ := ax H
 have l23_0 := (bI q23_0).1
 have z23_0 : (List.map aB s1).length = (List.map aB x23).length := by simpa using (l23_0).symm
 refine ci (g := 77) rfl rfl rfl Tryz.call77 [] [(20,0)] rfl rfl rfl rfl (iR.of2 (iG.cons (PLe2.own rfl) iG.nil)) (by rw [bS,bJ,bR]; rfl) s23 ?_
 rintro u23 H23h ⟨rfl,rfl⟩
 refine ⟨_,rfl,?_⟩
 refine cw (st' := ⟨_,_,fun _=>none,upd (fun _=>none) 20 (some ⟨g1,9,(x23.map aB),true⟩)⟩) (Gh.le (bQ _ _) ah (ay ag)) ?_
 refine af (ab (ac (ao tk rfl ?_)))
 obtain ⟨x25,h25,H⟩ := ax H
 have s25 := lU g1 x23 _ h25
 refine ci (g := 78) rfl rfl rfl Tryz.call78 [] [(20,0)] rfl rfl rfl rfl (iR.of2 (iG.cons (PLe2.own z23_0) iG.nil)) (by rw [bS,bJ,bR]; rfl) s25 ?_
 rintro u25 H25h ⟨rfl,rfl⟩
 refine ⟨_,rfl,?_⟩
 refine cw (st' := ⟨_,_,fun _=>none,upd (fun _=>none) 20 (some ⟨g1,9,(x25.map aB),true⟩)⟩) (Gh.le (bQ _ _) ah (ay ag)) ?_
 refine lc 25 (q := (.own 20 g1 (x25.map aB).length)) rfl (PLe.of2 (PLe2.own rfl)) (ao tk rfl (af ?_))
 obtain rfl := am H
 refine dX 2 rfl rfl rfl ?_
 refine aC tk rfl (ps := [(.list 9 (x25.map aB))]) ⟨_,_,rfl,rfl,rfl⟩ (PLe.q rfl)
def it (sA : LSchema) (st : List LRelation) (q : LQuery) (args : Rq) (vars : List LCol) (vals : Rq) : Option (LResult × Int) :=
 ai (gz sA vars q) fun x28 =>
 cond (x28.2 != (0 : Int))
  (some ((LResult.mk [] []),x28.2))
  (ai (fG q args) fun x37 =>
  cond (x37 != (0 : Int))
   (some ((LResult.mk [] []),x37))
   (ai (dr sA st) fun x44 =>
   cond (x44 != (0 : Int))
    (some ((LResult.mk [] []),x44))
    (ai (aW (σ := List (List UInt8)) (ρ := Empty) (fun (_ : Nat) (x1 : LCol) (s1 : List (List UInt8)) =>
     ai (dT 16 s1 ([x1.name] : List (List UInt8))) fun (x66 : List (List UInt8)) =>
     some (.next x66)) 0 vars []) fun fl1=>fl1.thenP fun (s1 : List (List UInt8)) =>
    ai (lD (LRun.mk sA st args vars s1 vals) q) fun x73 =>
    ai (aW (σ := Rz) (ρ := Empty) (fun (_ : Nat) (x2 : Rq) (s2 : Rz) =>
     ai (dT 24 s2 ([x2] : Rz)) fun (x84 : Rz) =>
     some (.next x84)) 0 x73 []) fun fl2=>fl2.thenP fun (s2 : Rz) =>
    some ((LResult.mk x28.1 s2),0))))
theorem po (sA : LSchema) (st : List LRelation) (q : LQuery) (args : Rq) (vars : List LCol) (vals : Rq) (r : LResult × Int) (H : it sA st q args vars vals = some r) :
  bc Tryz.prog 81 [(.agg (eK sA)),(.list 87 (st.map br)),(.agg (bE q)),(.list 53 (args.map ak)),(.list 50 (vars.map aJ)),(.list 53 (vals.map ak))] (.tup [(.agg (qZ r.1)),(ae r.2)]) := by
 unfold it at H
 refine PH.aD Tryz.func81 Tryz.ntmps81 ?_
 refine ab (ac (aV ?_))
 refine aV ?_
 refine bu tk fun b12=>?_
 refine ao tk rfl (af (ab (ac (al 3 tk rfl ?_))))
 obtain ⟨x28,h28,H⟩ := ax H
 have s28 := mA sA vars q _ h28
 refine aq Tryz.call54 (iR.r) s28 ?_
 refine al 5 tk rfl (af (ab (aw 2 tk rfl ?_)))
 refine aP rfl H (fun H=>?_) (fun H=>?_)
 ·refine ab (ac (al 2 tk rfl (aE tk ?_)))
  refine ao tk rfl (af ?_)
  obtain rfl := am H
  refine aC tk rfl (ps := [(.agg [(.val (.slice none 0 0)),(.val (.slice none 0 0))]),(ae x28.2)]) ⟨_,_,rfl,⟨_,_,_,_,_,rfl,rfl,rfl,rfl⟩,_,_,rfl,rfl,rfl⟩ (PLe.of2 (PLe2.tup (iG.cons (PLe2.agg (iG.cons (PLe2.nil tk rfl) (iG.cons (PLe2.nil tk rfl) iG.nil))) (iG.cons (PLe2.of_eq rfl) iG.nil))))
 refine av (ab (ab (ac (al 2 tk rfl ?_))))
 obtain ⟨x37,h37,H⟩ := ax H
 have s37 := lu q args _ h37
 refine aq Tryz.call53 (iR.r) s37 ?_
 refine ao tk rfl (af (aw 2 tk rfl ?_))
 refine aP rfl H (fun H=>?_) (fun H=>?_)
 ·refine ab (ac (al 2 tk rfl (aE tk ?_)))
  refine ao tk rfl (af ?_)
  obtain rfl := am H
  refine aC tk rfl (ps := [(.agg [(.val (.slice none 0 0)),(.val (.slice none 0 0))]),(ae x37)]) ⟨_,_,rfl,⟨_,_,_,_,_,rfl,rfl,rfl,rfl⟩,_,_,rfl,rfl,rfl⟩ (PLe.of2 (PLe2.tup (iG.cons (PLe2.agg (iG.cons (PLe2.nil tk rfl) (iG.cons (PLe2.nil tk rfl) iG.nil))) (iG.cons (PLe2.of_eq rfl) iG.nil))))
 refine av (ab (ab (ac (al 2 tk rfl ?_))))
 obtain ⟨x44,h44,H⟩ := ax H
 have s44 := mz sA st _ h44
 refine aq Tryz.call52 (iR.r) s44 ?_
 refine ao tk rfl (af (aw 2 tk rfl ?_))
 refine aP rfl H (fun H=>?_) (fun H=>?_)
 ·refine ab (ac (al 2 tk rfl (aE tk ?_)))
  refine ao tk rfl (af ?_)
  obtain rfl := am H
  refine aC tk rfl (ps := [(.agg [(.val (.slice none 0 0)),(.val (.slice none 0 0))]),(ae x44)]) ⟨_,_,rfl,⟨_,_,_,_,_,rfl,rfl,rfl,rfl⟩,_,_,rfl,rfl,rfl⟩ (PLe.of2 (PLe2.tup (iG.cons (PLe2.agg (iG.cons (PLe2.nil tk rfl) (iG.cons (PLe2.nil tk rfl) iG.nil))) (iG.cons (PLe2.of_eq rfl) iG.nil))))
 refine av (ab (ac (al 6 tk rfl ?_)))
 refine bu tk fun b18=>?_
 refine aE tk ?_
 refine af (ab (ab (ac (ao tk rfl (aN tk (zl _) ?_)))))
 refine ao tk rfl (af ?_)
 obtain ⟨fl1,H1,Hp1⟩ := ax H
 refine bP tk 55 rfl rfl (fun hz1 _=>?_)
 rw [zl] at hz1
 refine aY (τ := List (List UInt8)) (γ := OwnRef) (fun s1 g1=>⟨88,upd (upd (upd (upd (fun _=>.any) 18 (.box 18 b18 0)) 14 (.list 50 (x28.1.map aJ))) 12 (.box 12 b12 0)) 8 (.ptr [(ae q.kind),(.str q.table),(.list 9 (q.names.map aB)),(.list 56 (q.exprs.map bg)),(.list 66 (q.aggregates.map cn)),(.list 4 (q.descending.map cz)),(ae q.count),(ae q.offset),(.list 35 (q.inputs.map ba))]),upd (upd (fun _=>none) 18 (some ⟨b18,[(.list 91 (sA.tables.map bv)),(.list 142 (sA.foreignKeys.map cy)),(.list 148 (sA.constraints.map cJ)),(.list 87 (st.map br)),(.list 53 (args.map ak)),(.list 50 (vars.map aJ)),(.own 66 g1 (s1.map aB).length),(.list 53 (vals.map ak))]⟩)) 12 (some ⟨b12,[(.val (.slice none 0 0)),(.val (.slice none 0 0))]⟩),upd (fun _=>none) 66 (some ⟨g1,9,(s1.map aB),true⟩)⟩) (fun t=>fl1 = .next t) ?_ (fun s1 g1 hn1=>?_)
 ·refine az (rl tk 18 6 66 (e := 9) rfl rfl rfl rfl ?_)
  refine bC (fun j1 s1 g1=>⟨88,upd (upd (upd (upd (upd (upd (upd (fun _=>.any) 57 (ae (j1 : Int))) 56 (ae (vars.length : Int))) 55 (.list 50 (vars.map aJ))) 18 (.box 18 b18 0)) 14 (.list 50 (x28.1.map aJ))) 12 (.box 12 b12 0)) 8 (.ptr [(ae q.kind),(.str q.table),(.list 9 (q.names.map aB)),(.list 56 (q.exprs.map bg)),(.list 66 (q.aggregates.map cn)),(.list 4 (q.descending.map cz)),(ae q.count),(ae q.offset),(.list 35 (q.inputs.map ba))]),upd (upd (fun _=>none) 18 (some ⟨b18,[(.list 91 (sA.tables.map bv)),(.list 142 (sA.foreignKeys.map cy)),(.list 148 (sA.constraints.map cJ)),(.list 87 (st.map br)),(.list 53 (args.map ak)),(.list 50 (vars.map aJ)),(.own 66 g1 (s1.map aB).length),(.list 53 (vals.map ak))]⟩)) 12 (some ⟨b12,[(.val (.slice none 0 0)),(.val (.slice none 0 0))]⟩),upd (fun _=>none) 66 (some ⟨g1,9,(s1.map aB),true⟩)⟩) (⟨none,0⟩) H1 (Gh.le (aa (aa (aa (aa (aa (aa (aa aj))))))) (aA rfl (iR.r) (aA rfl (iR.r) ah)) (ay ag)) (fun j1 s1 g1 hj1 hr1=>?_)
  refine aw 1 tk rfl (ab ?_)
  refine aZ rfl (fun h=>?_) (fun h=>?_)
  ·have hl1 := co h
   obtain ⟨x1,fb1,hx1,H,hg1⟩ := rMc hl1 hr1
   refine av (ab (az (ab (ac ?_))))
   refine bs tk (zn j1) (bO (fun _=>rfl) hx1) ?_
   refine ao tk rfl ?_
   refine bu tk fun b20=>?_
   refine aE tk ?_
   refine af (ac (ao tk rfl (aT tk ?_)))
   refine ao tk rfl (aT tk ?_)
   refine cQ tk (rows' := List.map aB ([x1.name] : List (List UInt8))) (kj.refl _) ?_
   obtain ⟨x66,h66,H⟩ := ax H
   have k66 := cY h66
   refine cZ (rows2' := List.map aB ([x1.name] : List (List UInt8))) (rows' := List.map aB x66) tk rfl rfl rfl rfl rfl rfl rfl rfl rfl rfl rfl rfl rfl (kj.refl _) (et k66.1) (ew k66.2.1) (ez k66.2.2) fun g66=>?_
   refine ao tk rfl (aE tk ?_)
   refine af (aR (bm 2 tk rfl ?_))
   obtain rfl := am H
   refine aK x66 g66 ⟨hl1,hg1⟩ (Gh.le (aa (aa (aa (aa (aa (aa (aH (PLe.q (aU (by omega))) aj))))))) (aA rfl (iR.r) (aA rfl (iR.r) ah)) (ay ag))
  have hn1 := rMd (cp h) hr1
  refine aO rfl ?_
  refine aQ s1 g1 hn1 (Gh.le (aa (aa (aa (aa aj)))) (aA rfl (iR.r) (aA rfl (iR.r) ah)) (ay ag))
 have H := bn hn1 Hp1
 refine ab (ac (al 2 tk rfl ?_))
 refine bu tk fun b21=>?_
 refine aE tk ?_
 refine af (ab (ab (pV 18 6 rfl rfl rfl rfl rfl (ac (aT tk ?_)))))
 refine ao tk rfl ?_
 obtain ⟨x73,h73,H⟩ := ax H
 have s73 := rY (LRun.mk sA st args vars s1 vals) q _ h73
 refine aq Tryz.call97 (iR.r) s73 ?_
 refine aN tk (zl _) ?_
 refine ao tk rfl (af ?_)
 obtain ⟨fl2,H2,Hp2⟩ := ax H
 refine bP tk 73 rfl rfl (fun hz2 _=>?_)
 rw [zl] at hz2
 refine aY (τ := Rz) (γ := OwnRef) (fun s2 g2=>⟨88,upd (upd (fun _=>.any) 21 (.box 21 b21 0)) 12 (.box 12 b12 0),upd (upd (fun _=>none) 21 (some ⟨b21,[(.list 50 (x28.1.map aJ)),(.own 84 g2 (s2.map (au 53 ak)).length)]⟩)) 12 (some ⟨b12,[(.val (.slice none 0 0)),(.val (.slice none 0 0))]⟩),upd (fun _=>none) 84 (some ⟨g2,51,(s2.map (au 53 ak)),true⟩)⟩) (fun t=>fl2 = .next t) ?_ (fun s2 g2 hn2=>?_)
 ·refine az (rl tk 21 1 84 (e := 51) rfl rfl rfl rfl ?_)
  refine bC (fun j2 s2 g2=>⟨88,upd (upd (upd (upd (upd (fun _=>.any) 75 (ae (j2 : Int))) 74 (ae (x73.length : Int))) 73 (.list 51 (x73.map (au 53 ak)))) 21 (.box 21 b21 0)) 12 (.box 12 b12 0),upd (upd (fun _=>none) 21 (some ⟨b21,[(.list 50 (x28.1.map aJ)),(.own 84 g2 (s2.map (au 53 ak)).length)]⟩)) 12 (some ⟨b12,[(.val (.slice none 0 0)),(.val (.slice none 0 0))]⟩),upd (fun _=>none) 84 (some ⟨g2,51,(s2.map (au 53 ak)),true⟩)⟩) (⟨none,0⟩) H2 (Gh.le (aa (aa (aa (aa (aa aj))))) (aA rfl (iR.r) (aA rfl (iR.r) ah)) (ay ag)) (fun j2 s2 g2 hj2 hr2=>?_)
  refine aw 1 tk rfl (ab ?_)
  refine aZ rfl (fun h=>?_) (fun h=>?_)
  ·have hl2 := co h
   obtain ⟨x2,fb2,hx2,H,hg2⟩ := rMc hl2 hr2
   refine av (ab (az (ab (ac ?_))))
   refine bs tk (zn j2) (bO (fun _=>rfl) hx2) ?_
   refine al 2 tk rfl (af (bo tk mok ⟨true,false,[]⟩ [0,1,2,3,4,5,6,7] rfl (by decide +kernel) rfl (cq rfl (cC ?_))))
   refine cq rfl ?_
   have s82 := clone_94 (m := 82) x2
   refine bj Tryz.call94 (iR.r) (PFun.iv s82) ?_
   refine cq rfl ?_
   obtain ⟨x84,h84,H⟩ := ax H
   have k84 := cY h84
   refine lb (rows2' := List.map (au 53 ak) ([x2] : Rz)) (rows' := List.map (au 53 ak) x84) tk rfl rfl rfl rfl rfl rfl rfl rfl rfl rfl rfl rfl rfl rfl (kj.refl _) (et k84.1) (ew k84.2.1) (ez k84.2.2) fun g84=>?_
   refine cq rfl (ec ?_)
   refine bh (aR (bm 2 tk rfl ?_))
   obtain rfl := am H
   refine aK x84 g84 ⟨hl2,hg2⟩ (Gh.le (aa (aa (aa (aa (aH (PLe.q (aU (by omega))) aj))))) (aA rfl (iR.r) (aA rfl (iR.r) ah)) (ay ag))
  have hn2 := rMd (cp h) hr2
  refine aO rfl ?_
  refine aQ s2 g2 hn2 (Gh.le (aa (aa aj)) (aA rfl (iR.r) (aA rfl (iR.r) ah)) (ay ag))
 have H := bn hn2 Hp2
 refine ab (ac (aT tk ?_))
 refine aE tk ?_
 refine ao tk rfl (af ?_)
 obtain rfl := am H
 refine pV 12 1 rfl rfl rfl rfl rfl ?_
 refine aC tk rfl (ps := [(.agg [(.list 50 (x28.1.map aJ)),(.list 51 (s2.map (au 53 ak)))]),(ae 0)]) ⟨_,_,rfl,⟨_,_,_,_,_,rfl,rfl,rfl,rfl⟩,_,_,rfl,rfl,rfl⟩ (PLe.q rfl)
def jS (sA : LSchema) (q : LQuery) : Option (Bool) :=
 ai (
  ai (lK q 400) fun x8 =>
  cond (decide (x8 < (0 : Int)))
   (some true)
   (ai (iS sA) fun x12 =>
   some (x12 != (0 : Int)))) fun (t1 : Bool) =>
 cond t1
  (some false)
  (ai (lA sA q) fun x18 =>
  some (x18.2 == (0 : Int)))
theorem rF (sA : LSchema) (q : LQuery) (r : Bool) (H : jS sA q = some r) :
  bc Tryz.prog 51 [(.agg (eK sA)),(.agg (bE q))] (aF r) := by
 unfold jS at H
 refine PH.aD Tryz.func51 Tryz.ntmps51 ?_
 refine ab (ac (aV ?_))
 refine aV ?_
 refine ao tk rfl (af (ab (ab ?_)))
 obtain ⟨fl1,H1,Hp1⟩ := ax H
 refine aY (τ := Bool) (γ := Unit) (fun t1 g1=>⟨23,upd (upd (upd (fun _=>.any) 14 (aF t1)) 3 (.ptr [(ae q.kind),(.str q.table),(.list 9 (q.names.map aB)),(.list 56 (q.exprs.map bg)),(.list 66 (q.aggregates.map cn)),(.list 4 (q.descending.map cz)),(ae q.count),(ae q.offset),(.list 35 (q.inputs.map ba))])) 2 (.ptr [(.list 91 (sA.tables.map bv)),(.list 142 (sA.foreignKeys.map cy)),(.list 148 (sA.constraints.map cJ))]),fun _=>none,fun _=>none⟩) (fun t=>t = fl1) ?_ (fun t1 g1 hn1=>?_)
 ·have H := H1
  refine ac (ao tk rfl ?_)
  obtain ⟨x8,h8,H⟩ := ax H
  have s8 := rZ q 400 _ h8
  refine aq Tryz.call82 (iR.r) s8 ?_
  refine al 2 tk rfl ?_
  refine bF rfl rfl rfl H (fun H=>?_) (fun H=>?_)
  ·refine al 4 tk rfl (af ?_)
   obtain rfl := am H
   refine aQ true () rfl (Gh.le (aa (aa (aa aj))) ah ag)
  refine ao tk rfl ?_
  obtain ⟨x12,h12,H⟩ := ax H
  have s12 := rt sA _ h12
  refine aq Tryz.call83 (iR.r) s12 ?_
  refine al 2 tk rfl (af ?_)
  obtain rfl := am H
  refine aQ (x12 != (0 : Int)) () rfl (Gh.le (aa (aa (aa aj))) ah ag)
 subst hn1
 have H := Hp1
 refine aP rfl H (fun H=>?_) (fun H=>?_)
 ·refine aw 1 tk rfl ?_
  obtain rfl := am H
  refine aC tk rfl (ps := [(aF false)]) ⟨_,_,rfl,rfl,rfl⟩ (PLe.q rfl)
 refine av (ab (ac (al 2 tk rfl ?_)))
 obtain ⟨x18,h18,H⟩ := ax H
 have s18 := W_query_Check sA q _ h18
 refine aq Tryz.call18 (iR.r) s18 ?_
 refine al 5 tk rfl (af (aw 3 tk rfl ?_))
 obtain rfl := am H
 refine aC tk rfl (ps := [(aF (x18.2 == (0 : Int)))]) ⟨_,_,rfl,rfl,rfl⟩ (PLe.q rfl)
def io (sA : LSchema) (st : List LRelation) (q : LQuery) (args : Rq) : Option (LResult × Int) :=
 ai (it sA st q args ([] : List LCol) ([] : Rq)) fun x14 =>
 some (x14.1,x14.2)
theorem oa (sA : LSchema) (st : List LRelation) (q : LQuery) (args : Rq) (r : LResult × Int) (H : io sA st q args = some r) :
  bc Tryz.prog 50 [(.agg (eK sA)),(.list 87 (st.map br)),(.agg (bE q)),(.list 53 (args.map ak))] (.tup [(.agg (qZ r.1)),(ae r.2)]) := by
 unfold io at H
 refine PH.aD Tryz.func50 Tryz.ntmps50 ?_
 refine ab (ac (aV ?_))
 refine aV ?_
 refine bu tk fun b8=>?_
 refine ao tk rfl (af (ab (ac (al 4 tk rfl ?_))))
 obtain ⟨x14,h14,H⟩ := ax H
 have s14 := po sA st q args ([] : List LCol) ([] : Rq) _ h14
 refine aq Tryz.call81 (iR.of2 (iG.cons (PLe2.of_eq rfl) (iG.cons (PLe2.of_eq rfl) (iG.cons (PLe2.of_eq rfl) (iG.cons (PLe2.of_eq rfl) (iG.cons (PLe2.nil tk rfl) (iG.cons (PLe2.nil tk rfl) iG.nil))))))) s14 ?_
 refine al 2 tk rfl (aE tk ?_)
 refine ao tk rfl (af ?_)
 obtain rfl := am H
 refine aC tk rfl (ps := [(.agg [(.list 50 (x14.1.columns.map aJ)),(.list 51 (x14.1.rows.map (au 53 ak)))]),(ae x14.2)]) ⟨_,_,rfl,⟨_,_,_,_,_,rfl,rfl,rfl,rfl⟩,_,_,rfl,rfl,rfl⟩ (PLe.q rfl)
def jj (sA : LSchema) (st : List LRelation) (q : LQuery) (args : Rq) : Option (Bool) :=
 ai (jS sA q) fun x11 =>
 cond x11
  (cond (decide ((args.length : Int) ≤ (20 : Int)))
   (ai (dr sA st) fun x20 =>
   cond (x20 == (0 : Int))
    (ai (fG q args) fun x26 =>
    some (x26 == (0 : Int)))
    (some false))
   (some false))
  (some false)
theorem rV (sA : LSchema) (st : List LRelation) (q : LQuery) (args : Rq) (r : Bool) (H : jj sA st q args = some r) :
  bc Tryz.prog 16 [(.agg (eK sA)),(.list 87 (st.map br)),(.agg (bE q)),(.list 53 (args.map ak))] (aF r) := by
 unfold jj at H
 refine PH.aD Tryz.func16 Tryz.ntmps16 ?_
 refine ab (ac (aV ?_))
 refine aV ?_
 refine ao tk rfl (af (ab (ac (al 2 tk rfl ?_))))
 obtain ⟨x11,h11,H⟩ := ax H
 have s11 := rF sA q _ h11
 refine aq Tryz.call51 (iR.r) s11 ?_
 refine ao tk rfl ?_
 refine bF rfl rfl rfl H (fun H=>?_) (fun H=>?_)
 ·refine ao tk rfl (aN tk (zl _) ?_)
  refine al 3 tk rfl ?_
  refine bF rfl rfl rfl H (fun H=>?_) (fun H=>?_)
  ·refine al 2 tk rfl ?_
   obtain ⟨x20,h20,H⟩ := ax H
   have s20 := mz sA st _ h20
   refine aq Tryz.call52 (iR.r) s20 ?_
   refine al 3 tk rfl ?_
   refine bF rfl rfl rfl H (fun H=>?_) (fun H=>?_)
   ·refine al 2 tk rfl ?_
    obtain ⟨x26,h26,H⟩ := ax H
    have s26 := lu q args _ h26
    refine aq Tryz.call53 (iR.r) s26 ?_
    refine al 3 tk rfl (af ?_)
    obtain rfl := am H
    refine aC tk rfl (ps := [(aF (x26 == (0 : Int)))]) ⟨_,_,rfl,rfl,rfl⟩ (PLe.q rfl)
   refine al 6 tk rfl (af ?_)
   obtain rfl := am H
   refine aC tk rfl (ps := [(aF false)]) ⟨_,_,rfl,rfl,rfl⟩ (PLe.q rfl)
  refine al 12 tk rfl (af ?_)
  obtain rfl := am H
  refine aC tk rfl (ps := [(aF false)]) ⟨_,_,rfl,rfl,rfl⟩ (PLe.q rfl)
 refine al 17 tk rfl (af ?_)
 obtain rfl := am H
 refine aC tk rfl (ps := [(aF false)]) ⟨_,_,rfl,rfl,rfl⟩ (PLe.q rfl)
def iT : Option (Bool) :=
 ai (io (LSchema.mk [(LTable.mk [116] [(LCol.mk [97] 1 false)] [0])] [] []) ([(LRelation.mk [116] [[(LVal.mk 1 1 [])],[(LVal.mk 1 2 [])]])] : List LRelation) (LQuery.mk 1 [116] [] [] [] [] 0 0 []) ([] : Rq)) fun x22 =>
 cond (x22.2 == (0 : Int))
  (some ((x22.1.rows.length : Int) == (2 : Int)))
  (some false)
theorem rD (r : Bool) (H : iT = some r) :
  bc Tryz.prog 15 [] (aF r) := by
 unfold iT at H
 refine PH.aD Tryz.func15 Tryz.ntmps15 ?_
 refine aw 1 tk rfl (ab (ac (ao tk rfl (cQ tk (rows' := List.map aJ ([(LCol.mk [97] 1 false)] : List LCol)) (kj.refl _) ?_))))
 refine cQ tk (rows' := List.map bM ([0] : List Int)) (kj.refl _) ?_
 refine ao tk rfl (cQ tk (rows' := List.map bv ([(LTable.mk [116] [(LCol.mk [97] 1 false)] [0])] : List LTable)) (kj.refl _) ?_)
 refine ao tk rfl ?_
 refine bu tk fun b1=>?_
 refine aE tk ?_
 refine af (ab (ac (ao tk rfl (cQ tk (rows' := List.map ak ([(LVal.mk 1 1 [])] : Rq)) (kj.refl _) ?_))))
 refine ao tk rfl (cQ tk (rows' := List.map ak ([(LVal.mk 1 2 [])] : Rq)) (kj.refl _) ?_)
 refine cQ tk (rows' := List.map (au 53 ak) ([[(LVal.mk 1 1 [])],[(LVal.mk 1 2 [])]] : Rz)) (kj.refl _) ?_
 refine ao tk rfl (cQ tk (rows' := List.map br ([(LRelation.mk [116] [[(LVal.mk 1 1 [])],[(LVal.mk 1 2 [])]])] : List LRelation)) (kj.refl _) ?_)
 refine ao tk rfl (af (ab (ac (aT tk ?_))))
 refine al 2 tk rfl ?_
 obtain ⟨x22,h22,H⟩ := ax H
 have s22 := oa (LSchema.mk [(LTable.mk [116] [(LCol.mk [97] 1 false)] [0])] [] []) ([(LRelation.mk [116] [[(LVal.mk 1 1 [])],[(LVal.mk 1 2 [])]])] : List LRelation) (LQuery.mk 1 [116] [] [] [] [] 0 0 []) ([] : Rq) _ h22
 refine aq Tryz.call50 (iR.of2 (iG.cons (PLe2.agg (iG.cons (PLe2.of_eq rfl) (iG.cons (PLe2.nil tk rfl) (iG.cons (PLe2.nil tk rfl) iG.nil)))) (iG.cons (PLe2.of_eq rfl) (iG.cons (PLe2.agg (iG.cons (PLe2.of_eq rfl) (iG.cons (PLe2.of_eq rfl) (iG.cons (PLe2.nil tk rfl) (iG.cons (PLe2.nil tk rfl) (iG.cons (PLe2.nil tk rfl) (iG.cons (PLe2.nil tk rfl) (iG.cons (PLe2.of_eq rfl) (iG.cons (PLe2.of_eq rfl) (iG.cons (PLe2.nil tk rfl) iG.nil)))))))))) (iG.cons (PLe2.nil tk rfl) iG.nil))))) s22 ?_
 refine al 3 tk rfl ?_
 refine bu tk fun b3=>?_
 refine aE tk ?_
 refine ao tk rfl (af (ab (ac (al 3 tk rfl ?_))))
 refine bF rfl rfl rfl H (fun H=>?_) (fun H=>?_)
 ·refine ao tk rfl (aT tk ?_)
  refine aN tk (zl _) ?_
  refine al 3 tk rfl (af ?_)
  obtain rfl := am H
  refine aC tk rfl (ps := [(aF ((x22.1.rows.length : Int) == (2 : Int)))]) ⟨_,_,rfl,rfl,rfl⟩ (PLe.q rfl)
 refine al 6 tk rfl (af ?_)
 obtain rfl := am H
 refine aC tk rfl (ps := [(aF false)]) ⟨_,_,rfl,rfl,rfl⟩ (PLe.q rfl)
def fw (sA : LSchema) (st : List LRelation) (q : LQuery) (args : Rq) : Option (LResult × Bool) :=
 ai (io sA st q args) fun x17 =>
 some (x17.1,(x17.2 == (0 : Int)))
theorem mh (sA : LSchema) (st : List LRelation) (q : LQuery) (args : Rq) (r : LResult × Bool) (H : fw sA st q args = some r) :
  bc Tryz.prog 17 [(.agg (eK sA)),(.list 87 (st.map br)),(.agg (bE q)),(.list 53 (args.map ak))] (.tup [(.agg (qZ r.1)),(aF r.2)]) := by
 unfold fw at H
 refine PH.aD Tryz.func17 Tryz.ntmps17 ?_
 refine ab (ac (aV ?_))
 refine aV ?_
 refine bu tk fun b8=>?_
 refine ao tk rfl (af (ab (ac (al 4 tk rfl ?_))))
 obtain ⟨x17,h17,H⟩ := ax H
 have s17 := oa sA st q args _ h17
 refine aq Tryz.call50 (iR.r) s17 ?_
 refine al 3 tk rfl ?_
 refine bu tk fun b10=>?_
 refine aE tk ?_
 refine ao tk rfl (af (ab (ac (aT tk ?_))))
 refine al 2 tk rfl (aE tk ?_)
 refine ao tk rfl (af ?_)
 obtain rfl := am H
 refine aC tk rfl (ps := [(.agg [(.list 50 (x17.1.columns.map aJ)),(.list 51 (x17.1.rows.map (au 53 ak)))]),(aF (x17.2 == (0 : Int)))]) ⟨_,_,rfl,⟨_,_,_,_,_,rfl,rfl,rfl,rfl⟩,_,_,rfl,rfl,rfl⟩ (PLe.q rfl)
def eR (sA : LSchema) (st : List LRelation) (q : LQuery) (args : Rq) : Option (Bool) :=
 ai (iT) fun x16 =>
 cond (!x16)
  (some false)
  (ai (jj sA st q args) fun x22 =>
  cond (!x22)
   (some true)
   (ai (ji st) fun x25 =>
   ai (iz q) fun x27 =>
   ai (ni (x25.length : Int)) fun (n1 : Nat) =>
   ai (aW (σ := List LRelation) (ρ := Empty) (fun (j1 : Nat) (_ : Nat) (s1 : List LRelation) =>
    ai (aG s1 (j1 : Int)) fun (x36 : LRelation) =>
    ai (cG x27 x36.table) fun x39 =>
    cond (!x39)
     (ai (aG s1 (j1 : Int)) fun (x43 : LRelation) =>
     bf (s1.set ((j1 : Int).toNat) (LRelation.mk x43.table [])) fun (y4 : List LRelation) =>
     some (.next y4))
     (some (.next s1))) 0 (List.range n1) x25) fun fl1=>fl1.thenP fun (s1 : List LRelation) =>
   ai (fw sA st q args) fun x51 =>
   ai (fw sA s1 q args) fun x59 =>
   cond x51.2
    (cond x59.2
     (ai (ef x27) fun x68 =>
     cond x68
      (ai (gS x51.1.rows x59.1.rows) fun x75 =>
      some x75)
      (some false))
     (some false))
    (some false)))
theorem lf (sA : LSchema) (st : List LRelation) (q : LQuery) (args : Rq) (r : Bool) (H : eR sA st q args = some r) :
  bc Tryz.prog 14 [(.agg (eK sA)),(.list 87 (st.map br)),(.agg (bE q)),(.list 53 (args.map ak))] (aF r) := by
 unfold eR at H
 refine PH.aD Tryz.func14 Tryz.ntmps14 ?_
 refine ab (ac (aV ?_))
 refine aV ?_
 refine ao tk rfl (af (ab (ab (ac ?_))))
 obtain ⟨x16,h16,H⟩ := ax H
 have s16 := rD _ h16
 refine aq Tryz.call15 (iR.r) s16 ?_
 refine ao tk rfl (af ?_)
 refine aP rfl H (fun H=>?_) (fun H=>?_)
 ·refine aw 1 tk rfl ?_
  obtain rfl := am H
  refine aC tk rfl (ps := [(aF false)]) ⟨_,_,rfl,rfl,rfl⟩ (PLe.q rfl)
 refine av (ab (ab (ac (al 4 tk rfl ?_))))
 obtain ⟨x22,h22,H⟩ := ax H
 have s22 := rV sA st q args _ h22
 refine aq Tryz.call16 (iR.r) s22 ?_
 refine ao tk rfl (af ?_)
 refine aP rfl H (fun H=>?_) (fun H=>?_)
 ·refine aw 1 tk rfl ?_
  obtain rfl := am H
  refine aC tk rfl (ps := [(aF true)]) ⟨_,_,rfl,rfl,rfl⟩ (PLe.q rfl)
 refine av (ab (ac (ao tk rfl ?_)))
 obtain ⟨x25,h25,H⟩ := ax H
 have s25 := rW (m := 25) st _ h25
 refine ki Tryz.call46 (iR.r) s25 (fun g25=>?_)
 refine ao tk rfl (af (ab (ac (ao tk rfl ?_))))
 obtain ⟨x27,h27,H⟩ := ax H
 have s27 := rc q _ h27
 refine aq Tryz.call47 (iR.r) s27 ?_
 refine ao tk rfl (af (ab (ab (ac (ao tk rfl (ip tk (zl _) ?_))))))
 refine ao tk rfl (af ?_)
 obtain ⟨n1,hs1,H⟩ := ax H
 have hz1 := mU hs1
 obtain ⟨fl1,H1,Hp1⟩ := ax H
 refine aY (τ := List LRelation) (γ := OwnRef) (fun s1 g1=>⟨77,upd (upd (upd (upd (upd (upd (fun _=>.any) 10 (.list 9 (x27.map aB))) 9 (.own 25 g1 (s1.map br).length)) 6 (.ptr [(ae q.kind),(.str q.table),(.list 9 (q.names.map aB)),(.list 56 (q.exprs.map bg)),(.list 66 (q.aggregates.map cn)),(.list 4 (q.descending.map cz)),(ae q.count),(ae q.offset),(.list 35 (q.inputs.map ba))])) 4 (.ptr [(.list 91 (sA.tables.map bv)),(.list 142 (sA.foreignKeys.map cy)),(.list 148 (sA.constraints.map cJ))])) 3 (.list 53 (args.map ak))) 1 (.list 87 (st.map br)),fun _=>none,upd (fun _=>none) 25 (some ⟨g1,87,(s1.map br),true⟩)⟩) (fun t=>fl1 = .next t) ?_ (fun s1 g1 hn1=>?_)
 ·refine az ?_
  refine bC (fun j1 s1 g1=>⟨77,upd (upd (upd (upd (upd (upd (upd (upd (fun _=>.any) 30 (ae (j1 : Int))) 29 (ae (x25.length : Int))) 10 (.list 9 (x27.map aB))) 9 (.own 25 g1 (s1.map br).length)) 6 (.ptr [(ae q.kind),(.str q.table),(.list 9 (q.names.map aB)),(.list 56 (q.exprs.map bg)),(.list 66 (q.aggregates.map cn)),(.list 4 (q.descending.map cz)),(ae q.count),(ae q.offset),(.list 35 (q.inputs.map ba))])) 4 (.ptr [(.list 91 (sA.tables.map bv)),(.list 142 (sA.foreignKeys.map cy)),(.list 148 (sA.constraints.map cJ))])) 3 (.list 53 (args.map ak))) 1 (.list 87 (st.map br)),fun _=>none,upd (fun _=>none) 25 (some ⟨g1,87,(s1.map br),true⟩)⟩) g25 H1 (Gh.le (aa (aa (aa (aa (aa (aa (aa (aa aj)))))))) ah (ay ag)) (fun j1 s1 g1 hj1 hr1=>?_)
  refine aw 1 tk rfl (ab ?_)
  refine aZ rfl (fun h=>?_) (fun h=>?_)
  ·have hl1 := natLt hz1 h
   obtain ⟨x1,fb1,hx1,H,hg1⟩ := rMc hl1 hr1
   obtain rfl := natX hx1
   refine av (ab (az (aw 2 tk rfl (ab (ac (al 3 tk rfl ?_))))))
   obtain ⟨x36,k36,H⟩ := aX H
   refine jW (tag := 25) rfl (fun ho25=>?_)
   refine jM tk ⟨k36.1,(bl k36.2)⟩ (bi ho25 k36.2) ?_
   refine ao tk rfl ?_
   refine oF tk rfl rfl rfl rfl rfl rfl rfl (aI (fun _=>rfl) k36.2) rfl rfl ?_
   obtain ⟨x39,h39,H⟩ := ax H
   have s39 := js x27 x36.table _ h39
   refine aq Tryz.call48 (iR.r) s39 ?_
   refine ao tk rfl (af ?_)
   refine aP rfl H (fun H=>?_) (fun H=>?_)
   ·refine ac (al 2 tk rfl ?_)
    obtain ⟨x43,k43,H⟩ := aX H
    refine jW (tag := 25) rfl (fun ho25=>?_)
    refine jM tk ⟨k43.1,(bl k43.2)⟩ (bi ho25 k43.2) ?_
    refine ao tk rfl ?_
    obtain ⟨y4,hy4,H⟩ := bw H
    refine lM tk rfl rfl rfl rfl rfl rfl rfl rfl (by rw [zl]; exact (zg.1 k43.2).1) (PLe.of2 (PLe2.nil tk rfl)) rfl rfl rfl rfl (by decide) (bG (fun _=>rfl) k43.2 rfl hy4) ?_
    refine af (aR (bm 2 tk rfl ?_))
    obtain rfl := am H
    refine aK y4 g1 ⟨hl1,hg1⟩ (Gh.le (aa (aa (aa (aa (aH (PLe.of2 (PLe2.of_eq (congrArg (PV.own 25 g1) (bq (f := br) hy4)))) (aa (aa (aH (PLe.q (mw hz1 hl1)) aj)))))))) ah (ay ag))
   refine av (aR (bm 2 tk rfl ?_))
   obtain rfl := am H
   refine aK s1 g1 ⟨hl1,hg1⟩ (Gh.le (aa (aa (aa (aa (aa (aa (aa (aH (PLe.q (mw hz1 hl1)) aj)))))))) ah (ay ag))
  have hn1 := rMd (natGe hz1 h) hr1
  refine aO rfl ?_
  refine aQ s1 g1 hn1 (Gh.le (aa (aa (aa (aa (aa (aa aj)))))) ah (ay ag))
 have H := bn hn1 Hp1
 refine ab (ac (al 4 tk rfl ?_))
 obtain ⟨x51,h51,H⟩ := ax H
 have s51 := mh sA st q args _ h51
 refine aq Tryz.call17 (iR.r) s51 ?_
 refine al 3 tk rfl ?_
 refine bu tk fun b12=>?_
 refine aE tk ?_
 refine ao tk rfl (af (ab (dX 9 rfl rfl rfl (ac (al 4 tk rfl ?_)))))
 obtain ⟨x59,h59,H⟩ := ax H
 have s59 := mh sA s1 q args _ h59
 refine aq Tryz.call17 (iR.r) s59 ?_
 refine al 3 tk rfl ?_
 refine bu tk fun b14=>?_
 refine aE tk ?_
 refine ao tk rfl (af (ab (ac (al 2 tk rfl ?_))))
 refine bF rfl rfl rfl H (fun H=>?_) (fun H=>?_)
 ·refine al 3 tk rfl ?_
  refine bF rfl rfl rfl H (fun H=>?_) (fun H=>?_)
  ·refine ao tk rfl ?_
   obtain ⟨x68,h68,H⟩ := ax H
   have s68 := lJ x27 _ h68
   refine aq Tryz.call49 (iR.r) s68 ?_
   refine al 2 tk rfl ?_
   refine bF rfl rfl rfl H (fun H=>?_) (fun H=>?_)
   ·refine ao tk rfl (aT tk ?_)
    refine ao tk rfl (aT tk ?_)
    obtain ⟨x75,h75,H⟩ := ax H
    have s75 := qf x51.1.rows x59.1.rows _ h75
    refine aq Tryz.call35 (iR.r) s75 ?_
    refine al 2 tk rfl (af ?_)
    obtain rfl := am H
    refine aC tk rfl (ps := [(aF x75)]) ⟨_,_,rfl,rfl,rfl⟩ (PLe.q rfl)
   refine al 7 tk rfl (af ?_)
   obtain rfl := am H
   refine aC tk rfl (ps := [(aF false)]) ⟨_,_,rfl,rfl,rfl⟩ (PLe.q rfl)
  refine al 11 tk rfl (af ?_)
  obtain rfl := am H
  refine aC tk rfl (ps := [(aF false)]) ⟨_,_,rfl,rfl,rfl⟩ (PLe.q rfl)
 refine al 14 tk rfl (af ?_)
 obtain rfl := am H
 refine aC tk rfl (ps := [(aF false)]) ⟨_,_,rfl,rfl,rfl⟩ (PLe.q rfl)
end
end Go.Proofs.YtgaggbdcedpapaaGreat

namespace Go.Proofs.YtgaggbdcedpapaaGreat
noncomputable section
open Go Go.Ab
theorem LQuery.inputs_lt {q x : LQuery} (h : x ∈ q.inputs) : SizeOf.sizeOf x < SizeOf.sizeOf q := by
 cases q
 simp only [LQuery.inputs] at h
 have := List.sizeOf_lt_of_mem h
 simp only [LQuery.mk.sizeOf_spec]
 omega
theorem LQuery.ind {p : LQuery → Prop} (h : ∀ q : LQuery,(∀ x ∈ q.inputs,p x) → p q) : ∀ q,p q := by
 intro q
 generalize hn : SizeOf.sizeOf q = n
 induction n using Nat.strongRecOn generalizing q with
 | _ n ih=>exact h q fun x hx=>ih _ (hn ▸ LQuery.inputs_lt hx) x rfl
theorem ev_all {α : Type} {p : α → Nat → Prop} : ∀ (xs : List α),(∀ x ∈ xs,∃ N,∀ n,N ≤ n → p x n) → ∃ N,∀ n,N ≤ n → ∀ x ∈ xs,p x n
 | [],_=>⟨0,fun _ _ x hx=>by simp at hx⟩
 | y :: xs,h=>by
  obtain ⟨N,hN⟩ := h y (by simp)
  obtain ⟨N',hN'⟩ := ev_all xs fun x hx=>h x (by simp [hx])
  refine ⟨N + N',fun n hn x hx=>?_⟩
  rcases List.mem_cons.1 hx with rfl | hx
  ·exact hN n (by omega)
  ·exact hN' n (by omega) x hx
theorem kL {α σ ρ : Type} {step step' : Nat → α → σ → Option (Flow σ ρ)} : ∀ (xs : List α) (j : Nat) (s : σ),(∀ k x s,xs[k]? = some x → step (j + k) x s = step' (j + k) x s) → aW step j xs s = aW step' j xs s
 | [],_,_,_=>rfl
 | x :: xs,j,s,h=>by
  have h0 := h 0 x s rfl
  rw [Nat.add_zero] at h0
  rw [aW,aW,h0]
  split
  ·rfl
  ·exact kL xs (j + 1) _ fun k y t hk=>by
    have := h (k + 1) y t (by simpa using hk)
    rwa [show j + (k + 1) = j + 1 + k from by omega] at this
  ·rfl
  ·rfl
theorem gp {α : Type} {xs : List α} {k : Nat} {x : α} (h : xs[k]? = some x) : x ∈ xs := List.mem_of_getElem? h
theorem nB {γ β : Type} {F : Nat → γ → LQuery → Option β} {O : (γ → LQuery → Option β) → γ → LQuery → Option β} (hF : ∀ n,F (n + 1) = O (F n)) (c : γ) (q : LQuery)
  (hc : ∀ r r' : γ → LQuery → Option β,(∀ x ∈ q.inputs,r c x = r' c x) → O r c q = O r' c q) (hx : ∀ x ∈ q.inputs,∃ v,iY (fun n=>F n c x) = some v) {r : β} (h : O (fun c q=>iY fun n=>F n c q) c q = some r) :
  iY (fun n=>F n c q) = some r := by
 obtain ⟨N,hN⟩ := ev_all (p := fun x n=>F n c x = iY fun n=>F n c x) q.inputs (fun x hm=>by
  obtain ⟨v,hv⟩ := hx x hm
  obtain ⟨N,hN⟩ := limN_ev hv
  exact ⟨N,fun n hn=>by rw [hN n hn,hv]⟩)
 refine nY (N + 1) fun m hm=>?_
 obtain ⟨m,rfl⟩ : ∃ k,m = k + 1 := ⟨m - 1,by omega⟩
 rw [hF,hc _ (fun c q=>iY fun n=>F n c q) (hN m (by omega)),h]
def cF (q : LQuery) : List LQuery := q :: (q.inputs.attach.map fun x=>cF x.1).flatten
termination_by SizeOf.sizeOf q
decreasing_by exact LQuery.inputs_lt x.2
theorem jL (q : LQuery) : cF q = q :: (q.inputs.map cF).flatten := by
 rw [cF,List.attach_map_val (f := cF)]
theorem flat_le {α β : Type} {f : α → List β} {xs : List α} {x : α} (h : x ∈ xs) : (f x).length ≤ ((xs.map f).flatten).length := by
 induction xs with
 | nil=>simp at h
 | cons y xs ih =>
  simp only [List.map_cons,List.flatten_cons,List.length_append]
  rcases List.mem_cons.1 h with rfl | h
  ·omega
  ·have := ih h; omega
theorem mn {q x : LQuery} (h : x ∈ q.inputs) : (cF x).length + 1 ≤ (cF q).length := by
 rw [jL q]
 have := flat_le (f := cF) h
 simp only [List.length_cons]
 omega
theorem cB {α : Type} {bytes : Nat} {xs ys : List α} (hb : bytes ≤ 200) (h : xs.length + ys.length ≤ 10000000) : dT bytes xs ys = some (xs ++ ys) := by
 refine appI_ok ?_ (by unfold maxLen; omega)
 have : (xs.length + ys.length) * bytes ≤ 10000000 * 200 := Nat.mul_le_mul h hb
 omega
theorem take_flat {α β : Type} {f : α → List β} {xs : List α} {k : Nat} : (((xs.take k).map f).flatten).length ≤ ((xs.map f).flatten).length := by
 induction xs generalizing k with
 | nil=>simp
 | cons y xs ih =>
  cases k with
  | zero=>simp
  | succ k=>simp only [List.take_succ_cons,List.map_cons,List.flatten_cons,List.length_append]; have := ih (k := k); omega
theorem nodes_ok : ∀ q : LQuery,(cF q).length ≤ 10000000 → iL q = some (cF q) := by
 refine LQuery.ind fun q ih hb=>?_
 refine nB (γ := Unit) (F := fun n _ q=>jB n q) (O := fun r _ q=>jv (fun x=>r () x) q) (fun n=>rfl) () q ?_ (fun x hx=>⟨_,ih x hx (by have := mn hx; omega)⟩) ?_
 ·intro r r' h
  simp only [jv]
  congr 1
  exact kL q.inputs 0 _ fun k x s hk=>by rw [h x (gp hk)]
 ·have hr := rMa (step := fun (_ : Nat) (x1 : LQuery) (s1 : List LQuery)=>ai (iL x1) fun x17=>ai (dT 160 s1 x17) fun (x18 : List LQuery)=>some (Flow.next (ρ := Empty) x18)) (xs := q.inputs) (s := [q])
   (fun k=>q :: ((q.inputs.take k).map cF).flatten) (by simp) (fun k x hk=>by
    have hx := gp hk
    rw [ih x hx (by have := mn hx; omega),bPs,cB (by decide),bPs]
    ·rw [List.take_add_one,hk]; simp
    ·have h1 : (((q.inputs.take (k + 1)).map cF).flatten).length ≤ ((q.inputs.map cF).flatten).length := take_flat
     rw [List.take_add_one,hk] at h1
     rw [jL] at hb
     simp at h1 hb ⊢
     omega)
  simp only [jv]
  have e : ∀ x,(iY fun n=>jB n x) = iL x := fun _=>rfl
  simp only [e]
  rw [hr,bPs,bW,List.take_length,jL]
def dR (a b : Int) : Int := if b > a then b else a
theorem pH {a b c : Int} (h : a ≤ c) (h' : b ≤ c) : dR a b ≤ c := by unfold dR; split <;> assumption
theorem jk (a b : Int) : a ≤ dR a b := by unfold dR; split <;> omega
theorem nh (a b : Int) : b ≤ dR a b := by unfold dR; split <;> omega
def jq (q : LQuery) : Int := (q.inputs.attach.map fun x=>jq x.1).foldl dR 0 + 1
termination_by SizeOf.sizeOf q
decreasing_by exact LQuery.inputs_lt x.2
theorem oP (q : LQuery) : jq q = (q.inputs.map jq).foldl dR 0 + 1 := by
 rw [jq,List.attach_map_val (f := jq)]
theorem qx : ∀ {l : List Int} {a c : Int},a ≤ c → (∀ x ∈ l,x ≤ c) → l.foldl dR a ≤ c
 | [],_,_,h,_=>h
 | x :: l,a,c,h,hl=>qx (l := l) (pH h (hl x (by simp))) fun y hy=>hl y (by simp [hy])
theorem qB : ∀ {l : List Int} {a : Int},a ≤ l.foldl dR a ∧ ∀ x ∈ l,x ≤ l.foldl dR a
 | [],a=>⟨Int.le_refl a,by simp⟩
 | x :: l,a=>by
  obtain ⟨h1,h2⟩ := qB (l := l) (a := dR a x)
  simp only [List.foldl_cons]
  refine ⟨Int.le_trans (jk a x) h1,fun y hy=>?_⟩
  rcases List.mem_cons.1 hy with rfl | hy
  ·exact Int.le_trans (nh a y) h1
  ·exact h2 y hy
theorem depthQ_nodes : ∀ q : LQuery,1 ≤ jq q ∧ jq q ≤ (cF q).length := by
 refine LQuery.ind fun q ih=>?_
 rw [oP,jL]
 have h1 : (q.inputs.map jq).foldl dR 0 ≤ (((q.inputs.map cF).flatten).length : Nat) := qx (by omega) fun x hx=>by
  obtain ⟨y,hy,rfl⟩ := List.mem_map.1 hx
  have := (ih y hy).2
  have := flat_le (f := cF) hy
  omega
 have h2 := (qB (l := q.inputs.map jq) (a := 0)).1
 simp only [List.length_cons]
 omega
theorem depth_ok : ∀ q : LQuery,(cF q).length ≤ 10000000 → kx q = some (jq q) := by
 refine LQuery.ind fun q ih hb=>?_
 refine nB (γ := Unit) (F := fun n _ q=>jy n q) (O := fun r _ q=>jA (fun x=>r () x) q) (fun n=>rfl) () q ?_ (fun x hx=>⟨_,ih x hx (by have := mn hx; omega)⟩) ?_
 ·intro r r' h
  simp only [jA]
  congr 1
  exact kL q.inputs 0 _ fun k x s hk=>by rw [h x (gp hk)]
 ·have hr := rMa (step := fun (_ : Nat) (x1 : LQuery) (s1 : Int)=>ai (kx x1) fun x15=>some (Flow.next (ρ := Empty) (if x15 > s1 then x15 else s1))) (xs := q.inputs) (s := 0)
   (fun k=>((q.inputs.take k).map jq).foldl dR 0) (by simp) (fun k x hk=>by
    have hx := gp hk
    rw [ih x hx (by have := mn hx; omega),bPs,List.take_add_one,hk]
    simp [dR])
  simp only [jA]
  have e : ∀ x,(iY fun n=>jy n x) = kx x := fun _=>rfl
  simp only [e]
  rw [hr,bPs,bW,List.take_length,oP]
  have h := depthQ_nodes q
  rw [oP] at h
  rw [bD (by omega) (by omega)]
def mF (n : Int) : Int := if 20001 < n then 20001 else n
def iO (kind : Int) (s : Int × Int) (j : Nat) (x : Int × Int) : Int × Int :=
 (mF (if j = 0 then x.1 else if kind = 6 then s.1 + x.1 else if kind = 4 ∨ kind = 5 then s.1 * dR 1 x.1 else s.1),dR s.2 x.2)
def eP (kind : Int) : Nat → List (Int × Int) → Int × Int → Int × Int
 | _,[],s=>s
 | j,x :: l,s=>eP kind (j + 1) l (iO kind s j x)
def bY (q : LQuery) : Int × Int :=
 let s := eP q.kind 0 (q.inputs.attach.map fun x=>bY x.1) (0,0)
 if q.kind = 1 then (24,dR s.2 24) else (s.1,dR s.2 s.1)
termination_by SizeOf.sizeOf q
decreasing_by exact LQuery.inputs_lt x.2
theorem lC (q : LQuery) : bY q = if q.kind = 1 then (24,dR (eP q.kind 0 (q.inputs.map bY) (0,0)).2 24) else ((eP q.kind 0 (q.inputs.map bY) (0,0)).1,dR (eP q.kind 0 (q.inputs.map bY) (0,0)).2 (eP q.kind 0 (q.inputs.map bY) (0,0)).1) := by
 rw [bY,List.attach_map_val (f := bY)]
def mV (s : Int × Int) : Prop := 0 ≤ s.1 ∧ s.1 ≤ 20001 ∧ 0 ≤ s.2 ∧ s.2 ≤ 20001
theorem capI_b {n : Int} (h : 0 ≤ n) : 0 ≤ mF n ∧ mF n ≤ 20001 := by unfold mF; split <;> omega
theorem mostStep_r {kind : Int} {s x : Int × Int} {j : Nat} (hs : mV s) (hx : mV x) : mV (iO kind s j x) := by
 obtain ⟨a1,a2,a3,a4⟩ := hs
 obtain ⟨b1,b2,b3,b4⟩ := hx
 unfold iO
 have h1 : 0 ≤ (if j = 0 then x.1 else if kind = 6 then s.1 + x.1 else if kind = 4 ∨ kind = 5 then s.1 * dR 1 x.1 else s.1) := by
  split
  ·exact b1
  ·split
   ·omega
   ·split
    ·exact Int.mul_nonneg a1 (Int.le_trans (by decide) (jk 1 x.1))
    ·exact a1
 exact ⟨(capI_b h1).1,(capI_b h1).2,Int.le_trans a3 (jk _ _),pH a4 b4⟩
theorem qq {kind : Int} : ∀ {l : List (Int × Int)} {j : Nat} {s : Int × Int},mV s → (∀ x ∈ l,mV x) → mV (eP kind j l s)
 | [],_,_,h,_=>h
 | x :: l,j,s,h,hl=>qq (l := l) (mostStep_r h (hl x (by simp))) fun y hy=>hl y (by simp [hy])
theorem mostQ_r : ∀ q : LQuery,mV (bY q) := by
 refine LQuery.ind fun q ih=>?_
 rw [lC]
 have h : mV (eP q.kind 0 (q.inputs.map bY) (0,0)) := qq ⟨by decide,by decide,by decide,by decide⟩ fun x hx=>by
  obtain ⟨y,hy,rfl⟩ := List.mem_map.1 hx
  exact ih y hy
 obtain ⟨a1,a2,a3,a4⟩ := h
 split
 ·exact ⟨show (0 : Int) ≤ 24 by decide,show (24 : Int) ≤ 20001 by decide,Int.le_trans a3 (jk _ _),pH a4 (by decide)⟩
 ·exact ⟨a1,a2,Int.le_trans a3 (jk _ _),pH a4 a2⟩
theorem qN (kind : Int) : ∀ (l : List (Int × Int)) (j : Nat) (s x : Int × Int),eP kind j (l ++ [x]) s = iO kind (eP kind j l s) (j + l.length) x
 | [],j,s,x=>by simp [eP]
 | y :: l,j,s,x=>by
  rw [List.cons_append,eP,qN kind l (j + 1),eP]
  congr 1
  simp
  omega
theorem mostStep_run {kind : Int} {s x : Int × Int} {j : Nat} (hs : mV s) (hx : mV x) :
  (cond ((j : Int) == (0 : Int))
   (some (Flow.next (ρ := Empty) ((if (20001 : Int) < x.1 then (20001 : Int) else x.1),(if x.2 > s.2 then x.2 else s.2))))
   (cond (kind == (6 : Int))
    (some (.next ((if (20001 : Int) < (IntKind.i64.wrap (s.1 + x.1)) then (20001 : Int) else (IntKind.i64.wrap (s.1 + x.1))),(if x.2 > s.2 then x.2 else s.2))))
    (bf (
     cond (kind == (4 : Int))
      (true)
      ((kind == (5 : Int)))) fun (t4 : Bool) =>
    cond t4
     (some (.next ((if (20001 : Int) < (IntKind.i64.wrap (s.1 * (if x.1 > (1 : Int) then x.1 else (1 : Int)))) then (20001 : Int) else (IntKind.i64.wrap (s.1 * (if x.1 > (1 : Int) then x.1 else (1 : Int))))),(if x.2 > s.2 then x.2 else s.2))))
     (some (.next ((if (20001 : Int) < s.1 then (20001 : Int) else s.1),(if x.2 > s.2 then x.2 else s.2))))))) = some (.next (iO kind s j x)) := by
 obtain ⟨a1,a2,a3,a4⟩ := hs
 obtain ⟨b1,b2,b3,b4⟩ := hx
 have hm : 1 ≤ dR 1 x.1 ∧ dR 1 x.1 ≤ 20001 := ⟨jk _ _,pH (by decide) b2⟩
 have hp : 0 ≤ s.1 * dR 1 x.1 ∧ s.1 * dR 1 x.1 ≤ 20001 * 20001 := ⟨Int.mul_nonneg a1 (by omega),Int.mul_le_mul a2 hm.2 (by omega) (by decide)⟩
 have hw1 : IntKind.i64.wrap (s.1 + x.1) = s.1 + x.1 := bD (by omega) (by omega)
 have hw2 : IntKind.i64.wrap (s.1 * (if x.1 > (1 : Int) then x.1 else (1 : Int))) = s.1 * dR 1 x.1 := bD (by show _ ≤ s.1 * dR 1 x.1; omega) (by show s.1 * dR 1 x.1 ≤ _; omega)
 rw [hw1,hw2]
 unfold iO mF dR bf
 by_cases h0 : j = 0
 ·subst h0; simp
 ·have : ((j : Int) == (0 : Int)) = false := by simp; omega
  rw [this]
  by_cases h6 : kind = 6
  ·subst h6; simp [h0]
  ·by_cases h4 : kind = 4
   ·subst h4; simp [h0]
   ·by_cases h5 : kind = 5
    ·subst h5; simp [h0]
    ·have e6 : (kind == (6 : Int)) = false := by simpa using h6
     have e4 : (kind == (4 : Int)) = false := by simpa using h4
     have e5 : (kind == (5 : Int)) = false := by simpa using h5
     simp [h0,h6,h4,h5,e6,e4,e5]
theorem most_ok : ∀ q : LQuery,mf q = some (bY q) := by
 refine LQuery.ind fun q ih=>?_
 refine nB (γ := Unit) (F := fun n _ q=>jZ n q) (O := fun r _ q=>jY (fun x=>r () x) q) (fun n=>rfl) () q ?_ (fun x hx=>⟨_,ih x hx⟩) ?_
 ·intro r r' h
  simp only [jY]
  congr 1
  exact kL q.inputs 0 _ fun k x s hk=>by rw [h x (gp hk)]
 ·simp only [jY]
  have e : ∀ x,(iY fun n=>jZ n x) = mf x := fun _=>rfl
  simp only [e]
  rw [rMa (xs := q.inputs) (s := (0,0)) (fun k=>eP q.kind 0 ((q.inputs.take k).map bY) (0,0)) (by simp [eP]) (fun k x hk=>by
    have hx := gp hk
    rw [ih x hx,bPs,mostStep_run (qq ⟨by decide,by decide,by decide,by decide⟩ fun y hy=>by
     obtain ⟨z,_,rfl⟩ := List.mem_map.1 hy
     exact mostQ_r z) (mostQ_r x),List.take_add_one,hk]
    have hk' := (zg.1 hk).1
    simp only [Option.toList_some,List.map_append,List.map_cons,List.map_nil]
    rw [qN]
    congr 3
    simp
    omega)]
  rw [bPs,bW,List.take_length,lC]
  by_cases h1 : q.kind = 1
  ·simp [h1,dR]
  ·have : (q.kind == (1 : Int)) = false := by simpa using h1
   simp [h1,this,dR]
def ot : List (Int → Int) → Int → Int
 | [],s=>s
 | f :: l,s=>if s < 0 then -1 else ot l (f (IntKind.i64.wrap (s - 1)))
def sizeHere (q : LQuery) (m : Int) : Int :=
 q.aggregates.foldl (fun s a=>a.args.foldl (fun s e=>jf e (IntKind.i64.wrap (s - 1))) s) (q.exprs.foldl (fun s e=>jf e (IntKind.i64.wrap (s - 1))) m)
def mj (q : LQuery) : Int → Int := fun m=>ot (q.inputs.attach.map fun x=>mj x.1) (sizeHere q m)
termination_by SizeOf.sizeOf q
decreasing_by exact LQuery.inputs_lt x.2
theorem sizeQ_eq (q : LQuery) (m : Int) : mj q m = ot (q.inputs.map mj) (sizeHere q m) := by
 rw [mj,List.attach_map_val (f := mj)]
theorem qV {f : LQuery → Int → Option Int} : ∀ (l : List LQuery) (j : Nat) (s : Int),(∀ x ∈ l,∀ m,f x m = some (mj x m)) →
  ai (aW (σ := Int) (ρ := Int) (fun (_ : Nat) (x6 : LQuery) (s6 : Int)=>cond (decide (s6 < (0 : Int))) (some (.ret (-1))) (ai (f x6 (IntKind.i64.wrap (s6 - (1 : Int)))) fun x57=>some (.next x57))) j l s) (fun fl6=>fl6.thenR fun (s6 : Int)=>some s6) = some (ot (l.map mj) s)
 | [],j,s,_=>rfl
 | x :: l,j,s,h=>by
  rw [aW,List.map_cons,ot]
  by_cases hs : s < 0
  ·simp [hs]
  ·simp only [hs,decide_false,zd,if_false]
   rw [h x (by simp),bPs]
   exact qV l (j + 1) _ fun y hy=>h y (by simp [hy])
theorem size_ok : ∀ (q : LQuery) (m : Int),lK q m = some (mj q m) := by
 have key : ∀ q : LQuery,∃ N,∀ n,N ≤ n → ∀ m,gE n q m = some (mj q m) := by
  refine LQuery.ind fun q ih=>?_
  obtain ⟨N,hN⟩ := ev_all (p := fun x n=>∀ m,gE n x m = some (mj x m)) q.inputs ih
  refine ⟨N + 1,fun n hn m=>?_⟩
  obtain ⟨n,rfl⟩ : ∃ k,n = k + 1 := ⟨n - 1,by omega⟩
  rw [gE]
  simp only [kr,bV]
  rw [mT (xs := q.exprs) (fun s e=>jf e (IntKind.i64.wrap (s - 1))) (fun _ _ _=>rfl),bPs,bW]
  rw [mT (xs := q.aggregates) (fun s a=>a.args.foldl (fun s e=>jf e (IntKind.i64.wrap (s - 1))) s) (fun k a _=>by
   rw [mT (xs := a.args) (fun s e=>jf e (IntKind.i64.wrap (s - 1))) (fun _ _ _=>rfl),bPs,bW]),bPs,bW]
  rw [qV q.inputs 0 _ (hN n (by omega)),sizeQ_eq]
  rfl
 intro q m
 obtain ⟨N,hN⟩ := key q
 exact nY N fun n hn=>hN n hn m
end
end Go.Proofs.YtgaggbdcedpapaaGreat
