/- procedureEmitMatchesQueryUpto_holds, part 5: the layer, the plain functions and what they compute; conditions as in the statement. -/
import Derived.Test.YtppmcepdcpmpcaaGreatDoorEmd
set_option maxHeartbeats 4000000
namespace Go.Proofs.YtppmcepdcpmpcaaGreatDoor
noncomputable section
open Go Go.Ab
attribute [local irreducible] V Ao Do Gh Eff PH IntKind.wrap
set_option maxRecDepth 4000
def eH (t : LTable) (row : Rq) : Option (Int) :=
 cond ((row.length : Int) != (t.columns.length : Int))
  (some 3)
  (af (aH (σ := Unit) (ρ := (Int)) (fun (j1 : Nat) (x1 : LVal) (_ : Unit) =>
   bv (dO x1) fun x22 =>
   cond (x22 != (0 : Int))
    (some (.ret x22))
    (af (
     cond (x1.kind == (0 : Int))
      (af (aJ t.columns (j1 : Int)) fun (x33 : LCol) =>
      some (!x33.nullable))
      (some false)) fun (t3 : Bool) =>
    cond t3
     (some (.ret 8))
     (cond (x1.kind != (0 : Int))
      (af (aJ t.columns (j1 : Int)) fun (x47 : LCol) =>
      cond (x1.kind != x47.kind)
       (some (.ret 7))
       (some (.next ())))
      (some (.next ()))))) 0 row ()) fun fl1=>fl1.thenR fun (_ : Unit) =>
  some 0)
theorem qB (t : LTable) (row : Rq) (r : Int) (H : eH t row = some r) :
  aK Tryz.prog 87 [(.agg (bA t)),(.list 73 (row.map ae))] (al r) := by
 unfold eH at H
 refine PH.au Tryz.func87 Tryz.ntmps87 ?_
 refine ab (aa (aE ?_))
 refine ah tk rfl (ac (ab (ab (aa (ah tk rfl (aA tk (zl _) ?_))))))
 refine ag 2 tk rfl (aA tk (zl _) ?_)
 refine ah tk rfl (ac ?_)
 refine aF rfl H (fun H=>?_) (fun H=>?_)
 ·refine ao 1 tk rfl ?_
  exact aY tk H rfl
 refine ap (ab (ab (aa (ah tk rfl (aA tk (zl _) ?_)))))
 refine ah tk rfl (ac ?_)
 refine eM tk 16 15 14 (fun s1 g1=>upd (fun _=>.any) 2 (.ptr (bA t))) nB nO () H (fun fl1 Hp1 j1 s1 g1 hz1 hl1 x1 fb1 hx1 H hg1=>?_) (fun s1 g1 H=>?_)
 ·refine ab (aw (ab (aa (ah tk rfl ?_))))
  refine aU tk (zn j1) (bn (fun _=>rfl) hx1) ?_
  refine ah tk rfl ?_
  refine bg tk fun b6=>?_
  refine ah tk rfl (aq tk ?_)
  refine ac (ab (ab (aa (aD tk ?_))))
  obtain ⟨x22,h22,H⟩ := cX H
  have s22 := pY x1
  rw [h22] at s22
  refine ak Tryz.call108 (jn.r) s22 ?_
  refine ah tk rfl (ac (ao 2 tk rfl ?_))
  refine aF rfl H (fun H=>?_) (fun H=>?_)
  ·refine ao 2 tk rfl ?_
   obtain rfl := az H
   have e1 : fl1 = .ret _ := hg1
   subst e1
   obtain rfl := aS Hp1
   refine ba tk rfl (ps := [(al x22)]) ⟨_,_,rfl,rfl,rfl⟩ (PLe.q rfl)
  refine ap (ab (ab ?_))
  refine eO (γ := Unit) (fun t3 g3=>⟨53,upd (upd (upd (upd (upd (upd (upd (fun _=>.any) 37 (aC t3)) 16 (al (j1 : Int))) 15 (al (row.length : Int))) 14 (.list 73 (row.map ae))) 6 (.box 6 b6 0)) 5 (al (j1 : Int))) 2 (.ptr (bA t)),upd (fun _=>none) 6 (some ⟨b6,(ae x1)⟩),fun _=>none⟩) H (fun _ H=>?_) (fun t3 g3 H=>?_)
  ·refine aa (ah tk rfl (aD tk ?_))
   refine ag 2 tk rfl ?_
   refine bh rfl rfl rfl H (fun H=>?_) (fun H=>?_)
   ·refine ag 3 tk rfl ?_
    obtain ⟨x33,k33,H⟩ := bs H
    refine aU tk k33.1 (aP (fun _=>rfl) k33.2) ?_
    refine ag 4 tk rfl (ac ?_)
    refine aT _ () (az H) Gh.d
   refine ag 8 tk rfl (ac ?_)
   refine aT _ () (az H) Gh.d
  refine aF rfl H (fun H=>?_) (fun H=>?_)
  ·refine ao 1 tk rfl ?_
   obtain rfl := az H
   have e1 : fl1 = .ret _ := hg1
   subst e1
   obtain rfl := aS Hp1
   refine ba tk rfl (ps := [(al 8)]) ⟨_,_,rfl,rfl,rfl⟩ (PLe.q rfl)
  refine ap (ab (bm tk mok ⟨true,false,[45,49]⟩ [0,1,2,3,4,5,6,7,8,9,10,11,12,13] rfl (by decide +kernel) rfl (bV rfl (bO ?_))))
  refine aN 2 rfl ?_
  refine jK H (fun H=>?_) (fun H=>?_)
  ·refine bV rfl (bO ?_)
   refine aN 3 rfl ?_
   obtain ⟨x47,k47,H⟩ := bs H
   refine bE k47.1 (aP (fun _=>rfl) k47.2) ?_
   refine aN 4 rfl (be ?_)
   refine aF rfl H (fun H=>?_) (fun H=>?_)
   ·refine ao 1 tk rfl ?_
    obtain rfl := az H
    have e1 : fl1 = .ret _ := hg1
    subst e1
    obtain rfl := aS Hp1
    refine ba tk rfl (ps := [(al 7)]) ⟨_,_,rfl,rfl,rfl⟩ (PLe.q rfl)
   refine ap (aG (bc 2 tk rfl ?_))
   exact bl () H hl1 hg1
  refine aN 10 rfl (be (bC rfl (ap (aG (bc 2 tk rfl ?_)))))
  exact bl () H hl1 hg1
 refine ao 1 tk rfl ?_
 exact aY tk H rfl
def cJ (sA : List LCol) (del : LCol → Option (Bool)) : Option (List LCol) :=
 af (cD sA del) fun x10 =>
 af (fo (x10.2.length = sA.length) ()) fun (_ : Unit) =>
 cond (x10.1 == (-1))
  (some x10.2)
  (af (fU (σ := List LCol × Int × Int) (ρ := Empty) (fun (s1 : List LCol × Int × Int) =>
   cond (decide (s1.2.2 < (s1.1.length : Int)))
    (af (aJ s1.1 s1.2.2) fun (x24 : LCol) =>
    af (del x24) fun x28 =>
    cond (!x28)
     (af (aJ s1.1 s1.2.1) fun (_ : LCol) =>
     bv (s1.1.set s1.2.1.toNat x24) fun (y4 : List LCol) =>
     some (.next (y4,(IntKind.i64.wrap (s1.2.1 + (1 : Int))),(IntKind.i64.wrap (s1.2.2 + (1 : Int))))))
     (some (.next (s1.1,s1.2.1,(IntKind.i64.wrap (s1.2.2 + (1 : Int)))))))
    (some (.brk (s1.1,s1.2.1,s1.2.2)))) (x10.2,x10.1,(IntKind.i64.wrap (x10.1 + (1 : Int))))) fun fl1=>fl1.thenP fun (s1 : List LCol × Int × Int) =>
  af (oA s1.1 s1.2.1) fun (y5 : List LCol) =>
  af (oA y5 s1.2.1) fun (y6 : List LCol) =>
  some y6)
theorem kD (g_sA : OwnRef) {g_del : FuncId} {caps_del : List PV} (sA : List LCol) (del : LCol → Option (Bool)) (hg_del : ∀ (vs : Array Value) (w : World),(callFunc g_del vs).run Tryz.prog w = .ok (.enter g_del vs) w) (hp_del : ∀ a0 r,del a0 = some r → aK Tryz.prog g_del ((.agg (ay a0)) :: caps_del) (aC r)) (r : List LCol) (H : cJ sA del = some r) :
  PH Tryz.prog 194 [(.own 0 g_sA (sA.map ay).length),(.fn g_del caps_del)] ⟨fun _=>none,upd (fun _=>none) 0 (some ⟨g_sA,68,(sA.map ay),true⟩)⟩ (fun u H=>u = .own 0 g_sA (r.map ay).length ∧ H = ⟨fun _=>none,upd (fun _=>none) 0 (some ⟨g_sA,68,(r.map ay),true⟩)⟩) := by
 unfold cJ at H
 refine PH.au Tryz.func194 Tryz.ntmps194 ?_
 refine ao 1 tk rfl (ab (aa (ag 2 tk rfl ?_)))
 obtain ⟨x10,h10,H⟩ := av H
 have s10 := kr g_sA sA del hg_del hp_del _ h10
 obtain ⟨_,q10_0,H⟩ := av H
 have l10_0 := (dJ q10_0).1
 have z10_0 : (List.map ay sA).length = (List.map ay x10.2).length := by simpa using (l10_0).symm
 refine dN (g := 163) rfl rfl rfl Tryz.call163 [] [(0,0)] rfl rfl rfl rfl (jn.of2 (iZ.cons (oB.own rfl) (iZ.cons (oB.of_eq rfl) iZ.nil))) (by rw [cW,ci,cV]; rfl) s10 ?_
 rintro u10 H10h ⟨rfl,rfl⟩
 refine ⟨_,rfl,?_⟩
 refine dc (st' := ⟨_,_,fun _=>none,upd (fun _=>none) 0 (some ⟨g_sA,68,(x10.2.map ay),true⟩)⟩) (Gh.le (cy _ _) aM (aZ aL)) ?_
 refine ah tk rfl (ac (ab (ao 2 tk rfl ?_)))
 refine aF rfl H (fun H=>?_) (fun H=>?_)
 ·refine ao 2 tk rfl ?_
  obtain rfl := az H
  refine fI (st' := ⟨42,upd (fun _=>.any) 4 (.own 0 g_sA (sA.map ay).length),fun _=>none,upd (fun _=>none) 0 (some ⟨g_sA,68,(x10.2.map ay),true⟩)⟩) (Gh.le (ax aW) aM (aZ aL)) ?_
  refine hJ tk rfl (ps := [(.own 0 g_sA (sA.map ay).length)]) ⟨_,_,rfl,rfl,rfl⟩ (PLe.of2 (oB.own z10_0)) ⟨rfl,rfl⟩
 refine ap (ab (ao 3 tk rfl ?_))
 obtain ⟨fl1,H1,Hp1⟩ := av H
 refine fY (τ := List LCol × Int × Int) (γ := Unit) (fun s1 g1=>⟨42,upd (upd (fun _=>.any) 5 (al s1.2.1)) 0 (.own 0 g_sA (s1.1.map ay).length),fun _=>none,upd (fun _=>none) 0 (some ⟨g_sA,68,(s1.1.map ay),true⟩)⟩) (fun t=>fl1 = .next t) ?_ (fun s1 g1 hn1=>?_)
 ·refine aw ?_
  refine gX (fun s1 g1=>⟨42,upd (upd (upd (upd (fun _=>.any) 6 (al s1.2.2)) 5 (al s1.2.1)) 1 (.fn g_del caps_del)) 0 (.own 0 g_sA (s1.1.map ay).length),fun _=>none,upd (fun _=>none) 0 (some ⟨g_sA,68,(s1.1.map ay),true⟩)⟩) () H1 (Gh.le (bJ (PLe.of2 (oB.of_eq (congrArg (PV.own 0 g_sA) z10_0))) (ax (ax (ax aW)))) aM (aZ aL)) (fun m1 s1 g1 hr1=>?_)
  obtain ⟨fb1,H,hg1⟩ := fE hr1
  refine ab (ab (aa (ag 2 tk rfl (jf tk (zl _) ?_))))
  refine ah tk rfl (ac ?_)
  refine aF rfl H (fun H=>?_) (fun H=>?_)
  ·refine ap (ab (aw (ab (aa (ag 2 tk rfl ?_)))))
   obtain ⟨x24,k24,H⟩ := bs H
   refine lc (tag := 0) rfl (fun ho0=>?_)
   refine kp tk ⟨k24.1,(dR k24.2)⟩ (dZ ho0 k24.2) ?_
   refine pP tk rfl rfl rfl rfl rfl rfl rfl (aP (fun _=>rfl) k24.2) rfl rfl ?_
   refine bg tk fun b7=>?_
   refine aq tk ?_
   refine ac (ab (aa (ah tk rfl (aD tk ?_))))
   obtain ⟨x28,h28,H⟩ := av H
   refine ak hg_del (jn.r) (hp_del _ _ h28) ?_
   refine ah tk rfl (ac ?_)
   refine aF rfl H (fun H=>?_) (fun H=>?_)
   ·refine ab (aa (ag 2 tk rfl (aD tk ?_)))
    obtain ⟨x33,k33,H⟩ := bs H
    refine lc (tag := 0) rfl (fun ho0=>?_)
    refine kp tk ⟨k33.1,(dR k33.2)⟩ (dZ ho0 k33.2) ?_
    obtain ⟨y4,hy4,H⟩ := cX H
    refine oe tk rfl rfl rfl rfl rfl rfl rfl rfl (by rw [zl]; exact (zg.1 k33.2).1) (PLe.refl _ _) rfl rfl rfl rfl (by decide) (fT (fun _=>rfl) k33.2 rfl hy4) ?_
    refine ac (bc 3 tk rfl (aG (bc 3 tk rfl ?_)))
    obtain rfl := az H
    refine eg (y4,(IntKind.i64.wrap (s1.2.1 + (1 : Int))),(IntKind.i64.wrap (s1.2.2 + (1 : Int)))) () hg1 (Gh.le (bJ (PLe.of2 (oB.of_eq (congrArg (PV.own 0 g_sA) (fy (f := ay) hy4)))) (ax (ax (ax aW)))) aM (aZ aL))
   refine ap (aG (bc 3 tk rfl ?_))
   obtain rfl := az H
   refine eg (s1.1,s1.2.1,(IntKind.i64.wrap (s1.2.2 + (1 : Int)))) () hg1 Gh.d
  refine bq rfl ?_
  obtain rfl := az H
  refine aT (s1.1,s1.2.1,s1.2.2) () hg1 Gh.d
 have H := dG hn1 Hp1
 refine ab (aa (ag 2 tk rfl ?_))
 obtain ⟨y5,hy5,H⟩ := av H
 have ky5 := qq hy5
 refine uY (tag := 0) rfl (fun hcy5=>?_)
 have hny5 : (s1.1.map ay).length = (List.map ay s1.1).length := rfl
 have hmy5 := ky5.2.1
 rw [← zl (f := ay),← hny5] at hmy5
 rw [← hny5] at hcy5
 refine sZ (l := s1.2.1.toNat) (h := (s1.1.map ay).length) (m := g_sA.cap) tk rfl rfl rfl rfl rfl rfl ⟨_,_,rfl,(Int.toNat_of_nonneg ky5.1).symm⟩ rfl rfl (by decide) hmy5 hcy5 (Nat.le_refl _) rfl (dc (Gh.cutO (tag := 0) (rows' := List.map ay y5) rfl s1.2.1.toNat (by rw [← List.map_take,ky5.2.2])) ?_)
 refine so (tag := 0) (rows := List.map ay y5) tk rfl rfl rfl rfl rfl rfl rfl rfl rfl (p := s1.2.1.toNat) (q := (s1.1.map ay).length) (m := g_sA.cap) (by rw [zl,ky5.2.2,List.length_take]; exact Nat.min_le_left _ _) hmy5 hcy5 (Nat.le_refl _) rfl ?_
 refine ac (ab (aa (ag 2 tk rfl ?_)))
 obtain ⟨y6,hy6,H⟩ := av H
 have ky6 := qq hy6
 refine uW (rows' := List.map ay y6) tk rfl rfl rfl rfl rfl rfl rfl rfl ⟨ky6.1,by rw [zl]; exact ky6.2.1⟩ (by rw [← List.map_take,ky6.2.2]) rfl rfl ?_
 refine ah tk rfl (ac ?_)
 obtain rfl := az H
 refine fI (st' := ⟨42,upd (fun _=>.any) 4 (.own 0 g_sA (y6.map ay).length),fun _=>none,upd (fun _=>none) 0 (some ⟨g_sA,68,(y6.map ay),true⟩)⟩) (Gh.le (ax aW) aM (aZ aL)) ?_
 refine hJ tk rfl (ps := [(.own 0 g_sA (y6.map ay).length)]) ⟨_,_,rfl,rfl,rfl⟩ (PLe.of2 (oB.own rfl)) ⟨rfl,rfl⟩
def bT (slices : Rz) : Option (Rq) :=
 af (aH (σ := Int) (ρ := Empty) (fun (_ : Nat) (x1 : Rq) (s1 : Int) =>
  cond (decide ((IntKind.i64.wrap (s1 + (x1.length : Int))) < (0 : Int)))
   (none)
   (some (.next (IntKind.i64.wrap (s1 + (x1.length : Int)))))) 0 slices 0) fun fl1=>fl1.thenP fun (s1 : Int) =>
 af (qp 32 s1) fun (_ : Unit) =>
 af (aH (σ := Rq) (ρ := Empty) (fun (_ : Nat) (x2 : Rq) (s2 : Rq) =>
  af (dg 32 s2 x2) fun (x33 : Rq) =>
  some (.next x33)) 0 slices []) fun fl2=>fl2.thenP fun (s2 : Rq) =>
 some s2
theorem js {m : Nat} (slices : Rz) (r : Rq) (H : bT slices = some r) :
  jm Tryz.prog 218 [(.list 75 (slices.map (am 73 ae)))] (lR m 73 (r.map ae)) := by
 unfold bT at H
 refine PH.au Tryz.func218 Tryz.ntmps218 ?_
 refine ao 1 tk rfl (ao 1 tk rfl (ab (ab (aa (ah tk rfl (aA tk (zl _) ?_))))))
 refine ah tk rfl (ac ?_)
 refine hZ tk 11 10 9 (fun s1 g1=>upd (upd (fun _=>.any) 3 (al s1)) 0 (.list 75 (slices.map (am 73 ae)))) nB nO () H (fun fl1 Hp1 j1 s1 g1 hz1 hl1 x1 fb1 hx1 H hg1=>?_) (fun s1 g1 H=>?_)
 ·refine ab (aw (ab (aa ?_)))
  refine aU tk (zn j1) (bn (fun _=>rfl) hx1) ?_
  refine ag 2 tk rfl (ac (ab (aa (ag 2 tk rfl (aA tk (zl _) ?_)))))
  refine ag 2 tk rfl (ac (ao 2 tk rfl ?_))
  refine aF rfl H (fun H=>?_) (fun H=>?_)
  ·cases H
  refine ap (aG (bc 2 tk rfl ?_))
  exact bl () H hl1 hg1
 refine ab (aa (ah tk rfl ?_))
 obtain ⟨_,h24,H⟩ := av H
 have s24 := grow_258 (m := 24) s1 h24
 refine kF Tryz.call258 (jn.r) s24 (fun g24=>?_)
 refine ah tk rfl (ac (ab (ab (aa (ah tk rfl (aA tk (zl _) ?_))))))
 refine ah tk rfl (ac ?_)
 refine hZ (γ := OwnRef) tk 27 26 25 (fun s2 g2=>upd (fun _=>.any) 6 (.own 24 g2 (s2.map ae).length)) nB (fun s2 g2=>upd (fun _=>none) 24 (some ⟨g2,73,(s2.map ae),true⟩)) g24 H (fun fl2 Hp2 j2 s2 g2 hz2 hl2 x2 fb2 hx2 H hg2=>?_) (fun s2 g2 H=>?_)
 ·refine ab (aw (ab (aa ?_)))
  refine aU tk (zn j2) (bn (fun _=>rfl) hx2) ?_
  refine ag 2 tk rfl (ac (aa (ag 2 tk rfl ?_)))
  obtain ⟨x33,h33,H⟩ := av H
  have k33 := cu h33
  refine cp (rows2' := List.map ae x2) (rows' := List.map ae x33) tk rfl rfl rfl rfl rfl rfl rfl rfl rfl rfl rfl rfl rfl (gD.refl _) (dT k33.1) (dU k33.2.1) (dS k33.2.2) fun g33=>?_
  refine ah tk rfl (ac (aG (bc 2 tk rfl ?_)))
  exact bl g33 H hl2 hg2
 refine ao 2 tk rfl ?_
 obtain rfl := az H
 refine jP tk rfl
def jx (y : Rq) (c0 : Rq) : Option (Bool) :=
 af (cG c0 y) fun x6 =>
 some x6
theorem W_query_less_1 (y : Rq) (c0 : Rq) (r : Bool) (H : jx y c0 = some r) :
  aK Tryz.prog 220 [(.list 73 (y.map ae)),(.ptr [(.list 73 (c0.map ae))])] (aC r) := by
 unfold jx at H
 refine PH.au Tryz.func220 Tryz.ntmps220 ?_
 refine ao 1 tk rfl (ab (aa (ag 2 tk rfl ?_)))
 obtain ⟨x6,h6,H⟩ := av H
 have s6 := gV c0 y _ h6
 refine ak Tryz.call55 (jn.r) s6 ?_
 refine ah tk rfl (ac ?_)
 exact aY tk H rfl
def dA (sA : Rz) (del : Rq → Option (Bool)) : Option Rz :=
 af (bL sA del) fun x10 =>
 af (fo (x10.2.length = sA.length) ()) fun (_ : Unit) =>
 cond (x10.1 == (-1))
  (some x10.2)
  (af (fU (σ := Rz × Int × Int) (ρ := Empty) (fun (s1 : Rz × Int × Int) =>
   cond (decide (s1.2.2 < (s1.1.length : Int)))
    (af (aJ s1.1 s1.2.2) fun (x24 : Rq) =>
    af (del x24) fun x28 =>
    cond (!x28)
     (af (aJ s1.1 s1.2.1) fun (_ : Rq) =>
     bv (s1.1.set s1.2.1.toNat x24) fun (y4 : Rz) =>
     some (.next (y4,(IntKind.i64.wrap (s1.2.1 + (1 : Int))),(IntKind.i64.wrap (s1.2.2 + (1 : Int))))))
     (some (.next (s1.1,s1.2.1,(IntKind.i64.wrap (s1.2.2 + (1 : Int)))))))
    (some (.brk (s1.1,s1.2.1,s1.2.2)))) (x10.2,x10.1,(IntKind.i64.wrap (x10.1 + (1 : Int))))) fun fl1=>fl1.thenP fun (s1 : Rz × Int × Int) =>
  af (oA s1.1 s1.2.1) fun (y5 : Rz) =>
  af (oA y5 s1.2.1) fun (y6 : Rz) =>
  some y6)
theorem lp (g_sA : OwnRef) {g_del : FuncId} {caps_del : List PV} (sA : Rz) (del : Rq → Option (Bool)) (hg_del : ∀ (vs : Array Value) (w : World),(callFunc g_del vs).run Tryz.prog w = .ok (.enter g_del vs) w) (hp_del : ∀ a0 r,del a0 = some r → aK Tryz.prog g_del ((.list 73 (a0.map ae)) :: caps_del) (aC r)) (r : Rz) (H : dA sA del = some r) :
  PH Tryz.prog 156 [(.own 0 g_sA (sA.map (am 73 ae)).length),(.fn g_del caps_del)] ⟨fun _=>none,upd (fun _=>none) 0 (some ⟨g_sA,75,(sA.map (am 73 ae)),true⟩)⟩ (fun u H=>u = .own 0 g_sA (r.map (am 73 ae)).length ∧ H = ⟨fun _=>none,upd (fun _=>none) 0 (some ⟨g_sA,75,(r.map (am 73 ae)),true⟩)⟩) := by
 unfold dA at H
 refine PH.au Tryz.func156 Tryz.ntmps156 ?_
 refine ao 1 tk rfl (ab (aa (ag 2 tk rfl ?_)))
 obtain ⟨x10,h10,H⟩ := av H
 have s10 := fW g_sA sA del hg_del hp_del _ h10
 obtain ⟨_,q10_0,H⟩ := av H
 have l10_0 := (dJ q10_0).1
 have z10_0 : (List.map (am 73 ae) sA).length = (List.map (am 73 ae) x10.2).length := by simpa using (l10_0).symm
 refine dN (g := 219) rfl rfl rfl Tryz.call219 [] [(0,0)] rfl rfl rfl rfl (jn.of2 (iZ.cons (oB.own rfl) (iZ.cons (oB.of_eq rfl) iZ.nil))) (by rw [cW,ci,cV]; rfl) s10 ?_
 rintro u10 H10h ⟨rfl,rfl⟩
 refine ⟨_,rfl,?_⟩
 refine dc (st' := ⟨_,_,fun _=>none,upd (fun _=>none) 0 (some ⟨g_sA,75,(x10.2.map (am 73 ae)),true⟩)⟩) (Gh.le (cy _ _) aM (aZ aL)) ?_
 refine ah tk rfl (ac (ab (ao 2 tk rfl ?_)))
 refine aF rfl H (fun H=>?_) (fun H=>?_)
 ·refine ao 2 tk rfl ?_
  obtain rfl := az H
  refine fI (st' := ⟨42,upd (fun _=>.any) 4 (.own 0 g_sA (sA.map (am 73 ae)).length),fun _=>none,upd (fun _=>none) 0 (some ⟨g_sA,75,(x10.2.map (am 73 ae)),true⟩)⟩) (Gh.le (ax aW) aM (aZ aL)) ?_
  refine hJ tk rfl (ps := [(.own 0 g_sA (sA.map (am 73 ae)).length)]) ⟨_,_,rfl,rfl,rfl⟩ (PLe.of2 (oB.own z10_0)) ⟨rfl,rfl⟩
 refine ap (ab (ao 3 tk rfl ?_))
 obtain ⟨fl1,H1,Hp1⟩ := av H
 refine fY (τ := Rz × Int × Int) (γ := Unit) (fun s1 g1=>⟨42,upd (upd (fun _=>.any) 5 (al s1.2.1)) 0 (.own 0 g_sA (s1.1.map (am 73 ae)).length),fun _=>none,upd (fun _=>none) 0 (some ⟨g_sA,75,(s1.1.map (am 73 ae)),true⟩)⟩) (fun t=>fl1 = .next t) ?_ (fun s1 g1 hn1=>?_)
 ·refine aw ?_
  refine gX (fun s1 g1=>⟨42,upd (upd (upd (upd (fun _=>.any) 6 (al s1.2.2)) 5 (al s1.2.1)) 1 (.fn g_del caps_del)) 0 (.own 0 g_sA (s1.1.map (am 73 ae)).length),fun _=>none,upd (fun _=>none) 0 (some ⟨g_sA,75,(s1.1.map (am 73 ae)),true⟩)⟩) () H1 (Gh.le (bJ (PLe.of2 (oB.of_eq (congrArg (PV.own 0 g_sA) z10_0))) (ax (ax (ax aW)))) aM (aZ aL)) (fun m1 s1 g1 hr1=>?_)
  obtain ⟨fb1,H,hg1⟩ := fE hr1
  refine ab (ab (aa (ag 2 tk rfl (jf tk (zl _) ?_))))
  refine ah tk rfl (ac ?_)
  refine aF rfl H (fun H=>?_) (fun H=>?_)
  ·refine ap (ab (aw (ab (aa (ag 2 tk rfl ?_)))))
   obtain ⟨x24,k24,H⟩ := bs H
   refine lc (tag := 0) rfl (fun ho0=>?_)
   refine kp tk ⟨k24.1,(dR k24.2)⟩ (dZ ho0 k24.2) ?_
   refine pP tk rfl rfl rfl rfl rfl rfl rfl (aP (fun _=>rfl) k24.2) rfl rfl ?_
   refine ah tk rfl (ac (ab (aa (ag 2 tk rfl ?_))))
   obtain ⟨x28,h28,H⟩ := av H
   refine ak hg_del (jn.r) (hp_del _ _ h28) ?_
   refine ah tk rfl (ac ?_)
   refine aF rfl H (fun H=>?_) (fun H=>?_)
   ·refine ab (aa (ag 3 tk rfl ?_))
    obtain ⟨x33,k33,H⟩ := bs H
    refine lc (tag := 0) rfl (fun ho0=>?_)
    refine kp tk ⟨k33.1,(dR k33.2)⟩ (dZ ho0 k33.2) ?_
    obtain ⟨y4,hy4,H⟩ := cX H
    refine oe tk rfl rfl rfl rfl rfl rfl rfl rfl (by rw [zl]; exact (zg.1 k33.2).1) (PLe.refl _ _) rfl rfl rfl rfl (by decide) (fT (fun _=>rfl) k33.2 rfl hy4) ?_
    refine ac (bc 3 tk rfl (aG (bc 3 tk rfl ?_)))
    obtain rfl := az H
    refine eg (y4,(IntKind.i64.wrap (s1.2.1 + (1 : Int))),(IntKind.i64.wrap (s1.2.2 + (1 : Int)))) () hg1 (Gh.le (bJ (PLe.of2 (oB.of_eq (congrArg (PV.own 0 g_sA) (fy (f := (am 73 ae)) hy4)))) (ax (ax (ax aW)))) aM (aZ aL))
   refine ap (aG (bc 3 tk rfl ?_))
   obtain rfl := az H
   refine eg (s1.1,s1.2.1,(IntKind.i64.wrap (s1.2.2 + (1 : Int)))) () hg1 Gh.d
  refine bq rfl ?_
  obtain rfl := az H
  refine aT (s1.1,s1.2.1,s1.2.2) () hg1 Gh.d
 have H := dG hn1 Hp1
 refine ab (aa (ag 2 tk rfl ?_))
 obtain ⟨y5,hy5,H⟩ := av H
 have ky5 := qq hy5
 refine uY (tag := 0) rfl (fun hcy5=>?_)
 have hny5 : (s1.1.map (am 73 ae)).length = (List.map (am 73 ae) s1.1).length := rfl
 have hmy5 := ky5.2.1
 rw [← zl (f := (am 73 ae)),← hny5] at hmy5
 rw [← hny5] at hcy5
 refine sZ (l := s1.2.1.toNat) (h := (s1.1.map (am 73 ae)).length) (m := g_sA.cap) tk rfl rfl rfl rfl rfl rfl ⟨_,_,rfl,(Int.toNat_of_nonneg ky5.1).symm⟩ rfl rfl (by decide) hmy5 hcy5 (Nat.le_refl _) rfl (dc (Gh.cutO (tag := 0) (rows' := List.map (am 73 ae) y5) rfl s1.2.1.toNat (by rw [← List.map_take,ky5.2.2])) ?_)
 refine so (tag := 0) (rows := List.map (am 73 ae) y5) tk rfl rfl rfl rfl rfl rfl rfl rfl rfl (p := s1.2.1.toNat) (q := (s1.1.map (am 73 ae)).length) (m := g_sA.cap) (by rw [zl,ky5.2.2,List.length_take]; exact Nat.min_le_left _ _) hmy5 hcy5 (Nat.le_refl _) rfl ?_
 refine ac (ab (aa (ag 2 tk rfl ?_)))
 obtain ⟨y6,hy6,H⟩ := av H
 have ky6 := qq hy6
 refine uW (rows' := List.map (am 73 ae) y6) tk rfl rfl rfl rfl rfl rfl rfl rfl ⟨ky6.1,by rw [zl]; exact ky6.2.1⟩ (by rw [← List.map_take,ky6.2.2]) rfl rfl ?_
 refine ah tk rfl (ac ?_)
 obtain rfl := az H
 refine fI (st' := ⟨42,upd (fun _=>.any) 4 (.own 0 g_sA (y6.map (am 73 ae)).length),fun _=>none,upd (fun _=>none) 0 (some ⟨g_sA,75,(y6.map (am 73 ae)),true⟩)⟩) (Gh.le (ax aW) aM (aZ aL)) ?_
 refine hJ tk rfl (ps := [(.own 0 g_sA (y6.map (am 73 ae)).length)]) ⟨_,_,rfl,rfl,rfl⟩ (PLe.of2 (oB.own rfl)) ⟨rfl,rfl⟩
def gL (y : Rq) (c0 : Rq) : Option (Bool) :=
 af (cG c0 y) fun x6 =>
 some x6
theorem sd (y : Rq) (c0 : Rq) (r : Bool) (H : gL y c0 = some r) :
  aK Tryz.prog 224 [(.list 73 (y.map ae)),(.ptr [(.list 73 (c0.map ae))])] (aC r) := by
 unfold gL at H
 refine PH.au Tryz.func224 Tryz.ntmps224 ?_
 refine ao 1 tk rfl (ab (aa (ag 2 tk rfl ?_)))
 obtain ⟨x6,h6,H⟩ := av H
 have s6 := gV c0 y _ h6
 refine ak Tryz.call55 (jn.r) s6 ?_
 refine ah tk rfl (ac ?_)
 exact aY tk H rfl
def gc (op : List UInt8) (l : Rq) : Option (LVal) :=
 cond (op == ([99,111,117,110,116] : List UInt8))
  (bv (gu (l.length : Int)) fun x13 =>
  some x13)
  (cond ((l.length : Int) == (0 : Int))
   (some (LVal.mk 0 0 []))
   (af (aJ l 0) fun (x19 : LVal) =>
   af (aH (σ := Int × LVal) (ρ := Empty) (fun (_ : Nat) (x1 : LVal) (s1 : Int × LVal) =>
    cond (op == ([109,105,110] : List UInt8))
     (bv (me x1 s1.2) fun x36 =>
     cond x36
      (some (.next ((IntKind.i64.wrap (s1.1 + x1.int)),x1)))
      (cond (op == ([109,97,120] : List UInt8))
       (bv (me s1.2 x1) fun x44 =>
       cond x44
        (some (.next ((IntKind.i64.wrap (s1.1 + x1.int)),x1)))
        (some (.next ((IntKind.i64.wrap (s1.1 + x1.int)),s1.2))))
       (some (.next ((IntKind.i64.wrap (s1.1 + x1.int)),s1.2)))))
     (cond (op == ([109,97,120] : List UInt8))
      (bv (me s1.2 x1) fun x44 =>
      cond x44
       (some (.next ((IntKind.i64.wrap (s1.1 + x1.int)),x1)))
       (some (.next ((IntKind.i64.wrap (s1.1 + x1.int)),s1.2))))
      (some (.next ((IntKind.i64.wrap (s1.1 + x1.int)),s1.2))))) 0 l (0,x19)) fun fl1=>fl1.thenP fun (s1 : Int × LVal) =>
   cond (op == ([115,117,109] : List UInt8))
    (bv (gu s1.1) fun x52 =>
    some x52)
    (some s1.2)))
theorem pW (op : List UInt8) (l : Rq) (r : LVal) (H : gc op l = some r) :
  aK Tryz.prog 264 [(.str op),(.list 73 (l.map ae))] (.agg (ae r)) := by
 unfold gc at H
 refine PH.au Tryz.func264 Tryz.ntmps264 ?_
 refine ab (aa ?_)
 refine bg tk fun b4=>?_
 refine ac (ab (ao 2 tk rfl ?_))
 refine aF rfl H (fun H=>?_) (fun H=>?_)
 ·refine ab (aa (ah tk rfl (aA tk (zl _) ?_)))
  obtain ⟨x13,h13,H⟩ := cX H
  have s13 := rL (l.length : Int)
  rw [h13] at s13
  refine ak Tryz.call257 (jn.r) s13 ?_
  refine aq tk ?_
  refine ac ?_
  exact uJ tk H rfl rfl rfl rfl rfl
 refine ap (ab (ab (aa (ah tk rfl (aA tk (zl _) ?_)))))
 refine ah tk rfl (ac ?_)
 refine aF rfl H (fun H=>?_) (fun H=>?_)
 ·refine ab (aa (ah tk rfl (aq tk ?_)))
  refine ac ?_
  exact uJ tk H rfl rfl rfl rfl rfl
 refine ap (ab (aa (ah tk rfl ?_)))
 obtain ⟨x19,k19,H⟩ := bs H
 refine aU tk k19.1 (aP (fun _=>rfl) k19.2) ?_
 refine ah tk rfl ?_
 refine bg tk fun b5=>?_
 refine aq tk ?_
 refine ac (ao 1 tk rfl (ab (ab (aa (ah tk rfl (aA tk (zl _) ?_))))))
 refine ah tk rfl (ac ?_)
 refine hZ tk 23 22 21 (fun s1 g1=>upd (upd (upd (upd (fun _=>.any) 6 (al s1.1)) 5 (.box 5 b5 0)) 4 (.box 4 b4 0)) 0 (.str op)) (fun s1 g1=>upd (upd (fun _=>none) 5 (some ⟨b5,(ae s1.2)⟩)) 4 (some ⟨b4,[(al 0),(al 0),(.str [])]⟩)) nO () H (fun fl1 Hp1 j1 s1 g1 hz1 hl1 x1 fb1 hx1 H hg1=>?_) (fun s1 g1 H=>?_)
 ·refine ab (aw (ab (aa ?_)))
  refine aU tk (zn j1) (bn (fun _=>rfl) hx1) ?_
  refine ah tk rfl ?_
  refine bg tk fun b8=>?_
  refine aq tk ?_
  refine ac (ab (aa (ag 2 tk rfl (aD tk ?_))))
  refine ag 2 tk rfl (ac (ab (aa (ag 3 tk rfl ?_))))
  refine bh rfl rfl rfl H (fun H=>?_) (fun H=>?_)
  ·refine aD tk ?_
   refine aD tk ?_
   obtain ⟨x36,h36,H⟩ := cX H
   have s36 := mX x1 s1.2
   rw [h36] at s36
   refine ak Tryz.call266 (jn.r) s36 ?_
   refine ag 2 tk rfl ?_
   refine bh rfl rfl rfl H (fun H=>?_) (fun H=>?_)
   ·refine ag 8 tk rfl (ac (bP rfl (aa (aD tk ?_))))
    refine aq tk ?_
    refine ac (aG (bc 2 tk rfl ?_))
    exact bl () H hl1 hg1
   refine ag 3 tk rfl ?_
   refine bh rfl rfl rfl H (fun H=>?_) (fun H=>?_)
   ·refine aD tk ?_
    refine aD tk ?_
    obtain ⟨x44,h44,H⟩ := cX H
    have s44 := mX s1.2 x1
    rw [h44] at s44
    refine ak Tryz.call266 (jn.r) s44 ?_
    refine ag 2 tk rfl (ac ?_)
    refine aF rfl H (fun H=>?_) (fun H=>?_)
    ·refine aa (aD tk ?_)
     refine aq tk ?_
     refine ac (aG (bc 2 tk rfl ?_))
     exact bl () H hl1 hg1
    refine ap (aG (bc 2 tk rfl ?_))
    exact bl () H hl1 hg1
   refine ag 5 tk rfl (ac (bC rfl (ap (aG (bc 2 tk rfl ?_)))))
   exact bl () H hl1 hg1
  refine ag 8 tk rfl ?_
  refine bh rfl rfl rfl H (fun H=>?_) (fun H=>?_)
  ·refine aD tk ?_
   refine aD tk ?_
   obtain ⟨x44,h44,H⟩ := cX H
   have s44 := mX s1.2 x1
   rw [h44] at s44
   refine ak Tryz.call266 (jn.r) s44 ?_
   refine ag 2 tk rfl (ac ?_)
   refine aF rfl H (fun H=>?_) (fun H=>?_)
   ·refine aa (aD tk ?_)
    refine aq tk ?_
    refine ac (aG (bc 2 tk rfl ?_))
    exact bl () H hl1 hg1
   refine ap (aG (bc 2 tk rfl ?_))
   exact bl () H hl1 hg1
  refine ag 5 tk rfl (ac (bC rfl (ap (aG (bc 2 tk rfl ?_)))))
  exact bl () H hl1 hg1
 refine ab (ao 2 tk rfl ?_)
 refine aF rfl H (fun H=>?_) (fun H=>?_)
 ·refine ab (aa (ah tk rfl ?_))
  obtain ⟨x52,h52,H⟩ := cX H
  have s52 := rL s1.1
  rw [h52] at s52
  refine ak Tryz.call257 (jn.r) s52 ?_
  refine aq tk ?_
  refine ac ?_
  exact uJ tk H rfl rfl rfl rfl rfl
 refine ap (ab (aa (aD tk ?_)))
 refine aq tk ?_
 refine ac ?_
 exact uJ tk H rfl rfl rfl rfl rfl
def dE (data : Rz) (a : Int) (m : Int) (b : Int) (cmp : Rq → Rq → Option (Int)) : Option (Rz) :=
 af (fU (σ := Rz × Int × Int) (ρ := Empty) (fun (s1 : Rz × Int × Int) =>
  cond (s1.2.1 != s1.2.2)
   (cond (decide (s1.2.1 > s1.2.2))
    (af (cx s1.1 (IntKind.i64.wrap (m - s1.2.1)) m s1.2.2 cmp) fun x31 =>
    af (fo (x31.length = s1.1.length) ()) fun (_ : Unit) =>
    some (.next (x31,(IntKind.i64.wrap (s1.2.1 - s1.2.2)),s1.2.2)))
    (af (cx s1.1 (IntKind.i64.wrap (m - s1.2.1)) (IntKind.i64.wrap ((IntKind.i64.wrap (m + s1.2.2)) - s1.2.1)) s1.2.1 cmp) fun x46 =>
    af (fo (x46.length = s1.1.length) ()) fun (_ : Unit) =>
    some (.next (x46,s1.2.1,(IntKind.i64.wrap (s1.2.2 - s1.2.1))))))
   (some (.brk (s1.1,s1.2.1,s1.2.2)))) (data,(IntKind.i64.wrap (m - a)),(IntKind.i64.wrap (b - m)))) fun fl1=>fl1.thenP fun (s1 : Rz × Int × Int) =>
 af (cx s1.1 (IntKind.i64.wrap (m - s1.2.1)) m s1.2.1 cmp) fun x57 =>
 af (fo (x57.length = s1.1.length) ()) fun (_ : Unit) =>
 some x57
theorem mG (g_data : OwnRef) {g_cmp : FuncId} {caps_cmp : List PV} (data : Rz) (a : Int) (m : Int) (b : Int) (cmp : Rq → Rq → Option (Int)) (hg_cmp : ∀ (vs : Array Value) (w : World),(callFunc g_cmp vs).run Tryz.prog w = .ok (.enter g_cmp vs) w) (hp_cmp : ∀ a0 a1 r,cmp a0 a1 = some r → aK Tryz.prog g_cmp ((.list 73 (a0.map ae)) :: (.list 73 (a1.map ae)) :: caps_cmp) (al r)) (r : Rz) (H : dE data a m b cmp = some r) :
  PH Tryz.prog 305 [(.own 0 g_data (data.map (am 73 ae)).length),(al a),(al m),(al b),(.fn g_cmp caps_cmp)] ⟨fun _=>none,upd (fun _=>none) 0 (some ⟨g_data,75,(data.map (am 73 ae)),true⟩)⟩ (fun u H=>u = (.tup []) ∧ H = ⟨fun _=>none,upd (fun _=>none) 0 (some ⟨g_data,75,(r.map (am 73 ae)),true⟩)⟩) := by
 unfold dE at H
 refine PH.au Tryz.func305 Tryz.ntmps305 ?_
 refine ao 4 tk rfl (ao 4 tk rfl (ab ?_))
 obtain ⟨fl1,H1,Hp1⟩ := av H
 refine fY (τ := Rz × Int × Int) (γ := Unit) (fun s1 g1=>⟨58,upd (upd (upd (upd (fun _=>.any) 10 (al s1.2.1)) 4 (.fn g_cmp caps_cmp)) 2 (al m)) 0 (.own 0 g_data (s1.1.map (am 73 ae)).length),fun _=>none,upd (fun _=>none) 0 (some ⟨g_data,75,(s1.1.map (am 73 ae)),true⟩)⟩) (fun t=>fl1 = .next t) ?_ (fun s1 g1 hn1=>?_)
 ·refine aw ?_
  refine gX (fun s1 g1=>⟨58,upd (upd (upd (upd (upd (fun _=>.any) 11 (al s1.2.2)) 10 (al s1.2.1)) 4 (.fn g_cmp caps_cmp)) 2 (al m)) 0 (.own 0 g_data (s1.1.map (am 73 ae)).length),fun _=>none,upd (fun _=>none) 0 (some ⟨g_data,75,(s1.1.map (am 73 ae)),true⟩)⟩) () H1 Gh.d (fun m1 s1 g1 hr1=>?_)
  obtain ⟨fb1,H,hg1⟩ := fE hr1
  refine ab (ao 3 tk rfl ?_)
  refine aF rfl H (fun H=>?_) (fun H=>?_)
  ·refine ap (aw (ao 3 tk rfl ?_))
   refine aF rfl H (fun H=>?_) (fun H=>?_)
   ·refine ab (aa (ag 7 tk rfl ?_))
    obtain ⟨x31,h31,H⟩ := av H
    have s31 := gN g_data s1.1 (IntKind.i64.wrap (m - s1.2.1)) m s1.2.2 cmp hg_cmp hp_cmp _ h31
    obtain ⟨_,q31_0,H⟩ := av H
    have l31_0 := (dJ q31_0).1
    have z31_0 : (List.map (am 73 ae) s1.1).length = (List.map (am 73 ae) x31).length := by simpa using (l31_0).symm
    refine dN (g := 314) rfl rfl rfl Tryz.call314 [] [(0,0)] rfl rfl rfl rfl (jn.of2 (iZ.cons (oB.own rfl) (iZ.cons (oB.of_eq rfl) (iZ.cons (oB.of_eq rfl) (iZ.cons (oB.of_eq rfl) (iZ.cons (oB.of_eq rfl) iZ.nil)))))) (by rw [cW,ci,cV]; rfl) s31 ?_
    rintro u31 H31h ⟨rfl,rfl⟩
    refine ⟨_,rfl,?_⟩
    refine dc (st' := ⟨_,_,fun _=>none,upd (fun _=>none) 0 (some ⟨g_data,75,(x31.map (am 73 ae)),true⟩)⟩) (Gh.le (cy _ _) aM (aZ aL)) ?_
    refine ac (bc 4 tk rfl (aG ?_))
    obtain rfl := az H
    refine eg (x31,(IntKind.i64.wrap (s1.2.1 - s1.2.2)),s1.2.2) () hg1 (Gh.le (bJ (PLe.of2 (oB.of_eq (congrArg (PV.own 0 g_data) z31_0))) (ax (ax (ax (ax aW))))) aM (aZ aL))
   refine ab (aa (ag 11 tk rfl ?_))
   obtain ⟨x46,h46,H⟩ := av H
   have s46 := gN g_data s1.1 (IntKind.i64.wrap (m - s1.2.1)) (IntKind.i64.wrap ((IntKind.i64.wrap (m + s1.2.2)) - s1.2.1)) s1.2.1 cmp hg_cmp hp_cmp _ h46
   obtain ⟨_,q46_0,H⟩ := av H
   have l46_0 := (dJ q46_0).1
   have z46_0 : (List.map (am 73 ae) s1.1).length = (List.map (am 73 ae) x46).length := by simpa using (l46_0).symm
   refine dN (g := 314) rfl rfl rfl Tryz.call314 [] [(0,0)] rfl rfl rfl rfl (jn.of2 (iZ.cons (oB.own rfl) (iZ.cons (oB.of_eq rfl) (iZ.cons (oB.of_eq rfl) (iZ.cons (oB.of_eq rfl) (iZ.cons (oB.of_eq rfl) iZ.nil)))))) (by rw [cW,ci,cV]; rfl) s46 ?_
   rintro u46 H46h ⟨rfl,rfl⟩
   refine ⟨_,rfl,?_⟩
   refine dc (st' := ⟨_,_,fun _=>none,upd (fun _=>none) 0 (some ⟨g_data,75,(x46.map (am 73 ae)),true⟩)⟩) (Gh.le (cy _ _) aM (aZ aL)) ?_
   refine ac (bc 4 tk rfl (aG ?_))
   obtain rfl := az H
   refine eg (x46,s1.2.1,(IntKind.i64.wrap (s1.2.2 - s1.2.1))) () hg1 (Gh.le (bJ (PLe.of2 (oB.of_eq (congrArg (PV.own 0 g_data) z46_0))) (ax (ax (ax (ax aW))))) aM (aZ aL))
  refine bq rfl ?_
  obtain rfl := az H
  refine aT (s1.1,s1.2.1,s1.2.2) () hg1 Gh.d
 have H := dG hn1 Hp1
 refine aa (ag 7 tk rfl ?_)
 obtain ⟨x57,h57,H⟩ := av H
 have s57 := gN g_data s1.1 (IntKind.i64.wrap (m - s1.2.1)) m s1.2.1 cmp hg_cmp hp_cmp _ h57
 obtain ⟨_,q57_0,H⟩ := av H
 have l57_0 := (dJ q57_0).1
 have z57_0 : (List.map (am 73 ae) s1.1).length = (List.map (am 73 ae) x57).length := by simpa using (l57_0).symm
 refine dN (g := 314) rfl rfl rfl Tryz.call314 [] [(0,0)] rfl rfl rfl rfl (jn.of2 (iZ.cons (oB.own rfl) (iZ.cons (oB.of_eq rfl) (iZ.cons (oB.of_eq rfl) (iZ.cons (oB.of_eq rfl) (iZ.cons (oB.of_eq rfl) iZ.nil)))))) (by rw [cW,ci,cV]; rfl) s57 ?_
 rintro u57 H57h ⟨rfl,rfl⟩
 refine ⟨_,rfl,?_⟩
 refine dc (st' := ⟨_,_,fun _=>none,upd (fun _=>none) 0 (some ⟨g_data,75,(x57.map (am 73 ae)),true⟩)⟩) (Gh.le (cy _ _) aM (aZ aL)) ?_
 refine ac ?_
 obtain rfl := az H
 refine fI (st' := ⟨58,fun _=>.any,fun _=>none,upd (fun _=>none) 0 (some ⟨g_data,75,(x57.map (am 73 ae)),true⟩)⟩) (Gh.le aW aM (aZ aL)) ?_
 refine mH rfl (PLe.q rfl) ⟨rfl,rfl⟩
def gP (x : Rq) (y : Rq) : Option (Bool) :=
 af (cG x y) fun x7 =>
 some x7
theorem qv (x : Rq) (y : Rq) (r : Bool) (H : gP x y = some r) :
  aK Tryz.prog 54 [(.list 73 (x.map ae)),(.list 73 (y.map ae))] (aC r) := by
 unfold gP at H
 refine PH.au Tryz.func54 Tryz.ntmps54 ?_
 refine ao 1 tk rfl (ab (aa (ag 2 tk rfl ?_)))
 obtain ⟨x7,h7,H⟩ := av H
 have s7 := gV x y _ h7
 refine ak Tryz.call55 (jn.r) s7 ?_
 refine ah tk rfl (ac ?_)
 exact aY tk H rfl
def fL (t : LTable) : Option (Int) :=
 af (gn t.name) fun x11 =>
 cond (!x11)
  (some 23)
  (cond ((t.columns.length : Int) == (0 : Int))
   (some 3)
   (cond (decide ((t.columns.length : Int) > (6 : Int)))
    (some 2)
    (af (aH (σ := Unit) (ρ := (Int)) (fun (j1 : Nat) (x1 : LCol) (_ : Unit) =>
     af (gn x1.name) fun x31 =>
     cond (!x31)
      (some (.ret 23))
      (af (gI t x1.name) fun x37 =>
      cond (decide (x37.1 < (j1 : Int)))
       (some (.ret 5))
       (cond (decide (x1.kind < (1 : Int)))
        (some (.ret 7))
        (cond (decide (x1.kind > (3 : Int)))
         (some (.ret 7))
         (some (.next ())))))) 0 t.columns ()) fun fl1=>fl1.thenR fun (_ : Unit) =>
    af (aH (σ := Unit) (ρ := (Int)) (fun (j2 : Nat) (x2 : Int) (_ : Unit) =>
     cond (decide (x2 < (0 : Int)))
      (some (.ret 9))
      (cond (decide (x2 ≥ (t.columns.length : Int)))
       (some (.ret 9))
       (af (aJ t.columns x2) fun (x73 : LCol) =>
       cond x73.nullable
        (some (.ret 9))
        (cond (decide ((j2 : Int) > (0 : Int)))
         (af (aJ t.primaryKey (IntKind.i64.wrap ((j2 : Int) - (1 : Int)))) fun (x86 : Int) =>
         cond (decide (x2 ≤ x86))
          (some (.ret 9))
          (some (.next ())))
         (some (.next ())))))) 0 t.primaryKey ()) fun fl2=>fl2.thenR fun (_ : Unit) =>
    cond ((t.primaryKey.length : Int) == (0 : Int))
     (some 9)
     (some 0))))
theorem qz (t : LTable) (r : Int) (H : fL t = some r) :
  aK Tryz.prog 63 [(.agg (bA t))] (al r) := by
 unfold fL at H
 refine PH.au Tryz.func63 Tryz.ntmps63 ?_
 refine ab (aa (aE ?_))
 refine ah tk rfl (ac (ab (ab (aa (ag 2 tk rfl ?_)))))
 obtain ⟨x11,h11,H⟩ := av H
 have s11 := oa t.name _ h11
 refine ak Tryz.call102 (jn.r) s11 ?_
 refine ah tk rfl (ac ?_)
 refine aF rfl H (fun H=>?_) (fun H=>?_)
 ·refine ao 1 tk rfl ?_
  exact aY tk H rfl
 refine ap (ab (ab (aa (ag 2 tk rfl (aA tk (zl _) ?_)))))
 refine ah tk rfl (ac ?_)
 refine aF rfl H (fun H=>?_) (fun H=>?_)
 ·refine ao 1 tk rfl ?_
  exact aY tk H rfl
 refine ap (ab (ab (aa (ag 2 tk rfl (aA tk (zl _) ?_)))))
 refine ah tk rfl (ac ?_)
 refine aF rfl H (fun H=>?_) (fun H=>?_)
 ·refine ao 1 tk rfl ?_
  exact aY tk H rfl
 refine ap (ab (ab (aa (ag 2 tk rfl (aA tk (zl _) ?_)))))
 refine ah tk rfl (ac ?_)
 refine eM tk 24 23 22 (fun s1 g1=>upd (fun _=>.any) 1 (.ptr (bA t))) nB nO () H (fun fl1 Hp1 j1 s1 g1 hz1 hl1 x1 fb1 hx1 H hg1=>?_) (fun s1 g1 H=>?_)
 ·refine ab (aw (ab (aa (ah tk rfl ?_))))
  refine aU tk (zn j1) (bn (fun _=>rfl) hx1) ?_
  refine ah tk rfl ?_
  refine bg tk fun b4=>?_
  refine ah tk rfl (aq tk ?_)
  refine ac (ab (ab (aa (ah tk rfl (aD tk ?_)))))
  obtain ⟨x31,h31,H⟩ := av H
  have s31 := oa x1.name _ h31
  refine ak Tryz.call102 (jn.r) s31 ?_
  refine ah tk rfl (ac ?_)
  refine aF rfl H (fun H=>?_) (fun H=>?_)
  ·refine ao 1 tk rfl ?_
   obtain rfl := az H
   have e1 : fl1 = .ret _ := hg1
   subst e1
   obtain rfl := aS Hp1
   refine ba tk rfl (ps := [(al 23)]) ⟨_,_,rfl,rfl,rfl⟩ (PLe.q rfl)
  refine ap (ab (ab (aa (ag 2 tk rfl (aD tk ?_)))))
  obtain ⟨x37,h37,H⟩ := av H
  have s37 := sc t x1.name _ h37
  refine ak Tryz.call103 (jn.r) s37 ?_
  refine ag 5 tk rfl (ac (ao 3 tk rfl ?_))
  refine aF rfl H (fun H=>?_) (fun H=>?_)
  ·refine ao 1 tk rfl ?_
   obtain rfl := az H
   have e1 : fl1 = .ret _ := hg1
   subst e1
   obtain rfl := aS Hp1
   refine ba tk rfl (ps := [(al 5)]) ⟨_,_,rfl,rfl,rfl⟩ (PLe.q rfl)
  refine ap (ab (aa (ah tk rfl (aD tk ?_))))
  refine ag 2 tk rfl ?_
  refine bh rfl rfl rfl H (fun H=>?_) (fun H=>?_)
  ·refine ag 4 tk rfl (ac (bP rfl (ao 1 tk rfl ?_)))
   obtain rfl := az H
   have e1 : fl1 = .ret _ := hg1
   subst e1
   obtain rfl := aS Hp1
   refine ba tk rfl (ps := [(al 7)]) ⟨_,_,rfl,rfl,rfl⟩ (PLe.q rfl)
  refine ah tk rfl (aD tk ?_)
  refine ag 2 tk rfl (ac ?_)
  refine aF rfl H (fun H=>?_) (fun H=>?_)
  ·refine ao 1 tk rfl ?_
   obtain rfl := az H
   have e1 : fl1 = .ret _ := hg1
   subst e1
   obtain rfl := aS Hp1
   refine ba tk rfl (ps := [(al 7)]) ⟨_,_,rfl,rfl,rfl⟩ (PLe.q rfl)
  refine ap (aG (bc 2 tk rfl ?_))
  exact bl () H hl1 hg1
 refine ab (ab (aa (ag 2 tk rfl (aA tk (zl _) ?_))))
 refine ah tk rfl (ac ?_)
 refine eM tk 55 54 53 (fun s2 g2=>upd (fun _=>.any) 1 (.ptr (bA t))) nB nO () H (fun fl2 Hp2 j2 s2 g2 hz2 hl2 x2 fb2 hx2 H hg2=>?_) (fun s2 g2 H=>?_)
 ·refine ab (aw (ab (aa (ah tk rfl ?_))))
  refine aU tk (zn j2) (bn (fun _=>rfl) hx2) ?_
  refine ag 3 tk rfl (ac (ab (aa (ag 3 tk rfl ?_))))
  refine bh rfl rfl rfl H (fun H=>?_) (fun H=>?_)
  ·refine ag 28 tk rfl (ac (bP rfl (ao 1 tk rfl ?_)))
   obtain rfl := az H
   have e2 : fl2 = .ret _ := hg2
   subst e2
   obtain rfl := aS Hp2
   refine ba tk rfl (ps := [(al 9)]) ⟨_,_,rfl,rfl,rfl⟩ (PLe.q rfl)
  refine ag 3 tk rfl (aA tk (zl _) ?_)
  refine ag 3 tk rfl ?_
  refine bh rfl rfl rfl H (fun H=>?_) (fun H=>?_)
  ·refine ag 21 tk rfl (ac (bP rfl (ao 1 tk rfl ?_)))
   obtain rfl := az H
   have e2 : fl2 = .ret _ := hg2
   subst e2
   obtain rfl := aS Hp2
   refine ba tk rfl (ps := [(al 9)]) ⟨_,_,rfl,rfl,rfl⟩ (PLe.q rfl)
  refine ag 3 tk rfl ?_
  obtain ⟨x73,k73,H⟩ := bs H
  refine aU tk k73.1 (aP (fun _=>rfl) k73.2) ?_
  refine ag 4 tk rfl ?_
  refine bh rfl rfl rfl H (fun H=>?_) (fun H=>?_)
  ·refine ag 13 tk rfl (ac (bP rfl (ao 1 tk rfl ?_)))
   obtain rfl := az H
   have e2 : fl2 = .ret _ := hg2
   subst e2
   obtain rfl := aS Hp2
   refine ba tk rfl (ps := [(al 9)]) ⟨_,_,rfl,rfl,rfl⟩ (PLe.q rfl)
  refine ag 3 tk rfl ?_
  refine bh rfl rfl rfl H (fun H=>?_) (fun H=>?_)
  ·refine ag 5 tk rfl ?_
   obtain ⟨x86,k86,H⟩ := bs H
   refine aU tk k86.1 (aP (fun _=>rfl) k86.2) ?_
   refine ag 4 tk rfl (ac ?_)
   refine aF rfl H (fun H=>?_) (fun H=>?_)
   ·refine ao 1 tk rfl ?_
    obtain rfl := az H
    have e2 : fl2 = .ret _ := hg2
    subst e2
    obtain rfl := aS Hp2
    refine ba tk rfl (ps := [(al 9)]) ⟨_,_,rfl,rfl,rfl⟩ (PLe.q rfl)
   refine ap (aG (bc 2 tk rfl ?_))
   exact bl () H hl2 hg2
  refine ag 10 tk rfl (ac (bC rfl (ap (aG (bc 2 tk rfl ?_)))))
  exact bl () H hl2 hg2
 refine ab (ab (aa (ag 2 tk rfl (aA tk (zl _) ?_))))
 refine ah tk rfl (ac ?_)
 refine aF rfl H (fun H=>?_) (fun H=>?_)
 ·refine ao 1 tk rfl ?_
  exact aY tk H rfl
 refine ap (ao 1 tk rfl ?_)
 exact aY tk H rfl
def fj (sA : LSchema) (fk : LForeignKey) : Option (Int) :=
 af (gk sA fk.table) fun x17 =>
 af (gk sA fk.refTable) fun x24 =>
 bv (
  cond (!x17.2)
   (true)
   ((!x24.2))) fun (t1 : Bool) =>
 cond t1
  (some 4)
  (af (aJ sA.tables x17.1) fun (x36 : LTable) =>
  af (aJ sA.tables x24.1) fun (x41 : LTable) =>
  cond ((fk.columns.length : Int) != (x41.primaryKey.length : Int))
   (some 3)
   (af (aH (σ := Unit) (ρ := (Int)) (fun (j2 : Nat) (x2 : Int) (_ : Unit) =>
    bv (
     cond (decide (x2 < (0 : Int)))
      (true)
      ((decide (x2 ≥ (x36.columns.length : Int))))) fun (t4 : Bool) =>
    cond t4
     (some (.ret 3))
     (af (aJ x36.columns x2) fun (x70 : LCol) =>
     af (aJ x41.primaryKey (j2 : Int)) fun (x78 : Int) =>
     af (aJ x41.columns x78) fun (x80 : LCol) =>
     cond (x70.kind != x80.kind)
      (some (.ret 7))
      (some (.next ())))) 0 fk.columns ()) fun fl2=>fl2.thenR fun (_ : Unit) =>
   some 0))
theorem oj (sA : LSchema) (fk : LForeignKey) (r : Int) (H : fj sA fk = some r) :
  aK Tryz.prog 64 [(.agg (bR sA)),(.agg (dC fk))] (al r) := by
 unfold fj at H
 refine PH.au Tryz.func64 Tryz.ntmps64 ?_
 refine ab (aa (aE ?_))
 refine aE ?_
 refine ah tk rfl (ac (ab (aa (ag 3 tk rfl ?_))))
 obtain ⟨x17,h17,H⟩ := av H
 have s17 := lw sA fk.table _ h17
 refine ak Tryz.call104 (jn.r) s17 ?_
 refine ag 5 tk rfl (ac (ab (aa (ag 3 tk rfl ?_))))
 obtain ⟨x24,h24,H⟩ := av H
 have s24 := lw sA fk.refTable _ h24
 refine ak Tryz.call104 (jn.r) s24 ?_
 refine ag 5 tk rfl (ac (ab (ab ?_)))
 refine gp (γ := Unit) (fun t1 g1=>⟨85,upd (upd (upd (upd (upd (fun _=>.any) 32 (aC t1)) 7 (al x24.1)) 5 (al x17.1)) 3 (.ptr (dC fk))) 2 (.ptr (bR sA)),fun _=>none,fun _=>none⟩) H (fun _ H=>?_) (fun t1 g1 H=>?_)
 ·refine aa (ag 3 tk rfl ?_)
  refine bh rfl rfl rfl H (fun H=>?_) (fun H=>?_)
  ·refine ag 3 tk rfl (ac ?_)
   refine aT _ () H Gh.d
  refine ag 3 tk rfl (ac ?_)
  refine aT _ () H Gh.d
 refine aF rfl H (fun H=>?_) (fun H=>?_)
 ·refine ao 1 tk rfl ?_
  exact aY tk H rfl
 refine ap (ab (bm tk mok ⟨false,false,[]⟩ [0,1,2,3,4,5,6,7,8,9,10,11,12,13] rfl (by decide +kernel) rfl (aN 3 rfl ?_)))
 obtain ⟨x36,k36,H⟩ := bs H
 refine bE k36.1 (aP (fun _=>rfl) k36.2) ?_
 refine aN 4 rfl ?_
 obtain ⟨x41,k41,H⟩ := bs H
 refine bE k41.1 (aP (fun _=>rfl) k41.2) ?_
 refine bV rfl ?_
 refine pC rfl rfl rfl rfl rfl rfl rfl rfl fun b9=>?_
 refine pC rfl rfl rfl rfl rfl rfl rfl rfl fun b10=>?_
 refine eD ?_
 refine eD ?_
 refine be (ab (ab (aa (ag 2 tk rfl (aA tk (zl _) ?_)))))
 refine ah tk rfl (aD tk ?_)
 refine aA tk (zl _) ?_
 refine ah tk rfl (ac ?_)
 refine aF rfl H (fun H=>?_) (fun H=>?_)
 ·refine ao 1 tk rfl ?_
  exact aY tk H rfl
 refine ap (ab (ab (aa (ag 2 tk rfl (aA tk (zl _) ?_)))))
 refine ah tk rfl (ac ?_)
 obtain ⟨fl2,H2,Hp2⟩ := av H
 refine iq tk 51 rfl rfl (fun hz2 _=>?_)
 rw [zl] at hz2
 refine fY (τ := Unit) (γ := Unit) (fun s2 g2=>⟨85,fun _=>.any,fun _=>none,fun _=>none⟩) (fun t=>fl2 = .next t) ?_ (fun s2 g2 hn2=>?_)
 ·refine aw ?_
  refine jC (fun j2 s2 g2=>⟨85,upd (upd (upd (upd (upd (fun _=>.any) 53 (al (j2 : Int))) 52 (al (fk.columns.length : Int))) 51 (.list 3 (fk.columns.map bG))) 10 (.box 10 b10 0)) 9 (.box 9 b9 0),upd (upd (fun _=>none) 10 (some ⟨b10,(bA x41)⟩)) 9 (some ⟨b9,(bA x36)⟩),fun _=>none⟩) () H2 Gh.d (fun j2 s2 g2 hj2 hr2=>?_)
  refine ao 1 tk rfl (ab ?_)
  refine br rfl (fun h=>?_) (fun h=>?_)
  ·have hl2 := qH h
   obtain ⟨x2,fb2,hx2,H,hg2⟩ := rMc hl2 hr2
   refine ap (ab (aw (ab (aa (ah tk rfl ?_)))))
   refine aU tk (zn j2) (bn (fun _=>rfl) hx2) ?_
   refine ag 3 tk rfl (ac (ab (ab ?_)))
   refine gp (γ := Unit) (fun t4 g4=>⟨85,upd (upd (upd (upd (upd (upd (upd (upd (fun _=>.any) 66 (aC t4)) 53 (al (j2 : Int))) 52 (al (fk.columns.length : Int))) 51 (.list 3 (fk.columns.map bG))) 12 (al x2)) 11 (al (j2 : Int))) 10 (.box 10 b10 0)) 9 (.box 9 b9 0),upd (upd (fun _=>none) 10 (some ⟨b10,(bA x41)⟩)) 9 (some ⟨b9,(bA x36)⟩),fun _=>none⟩) H (fun _ H=>?_) (fun t4 g4 H=>?_)
   ·refine aa (ag 3 tk rfl ?_)
    refine bh rfl rfl rfl H (fun H=>?_) (fun H=>?_)
    ·refine ag 6 tk rfl (ac ?_)
     refine aT _ () H Gh.d
    refine ag 2 tk rfl (aD tk ?_)
    refine aA tk (zl _) ?_
    refine ag 2 tk rfl (ac ?_)
    refine aT _ () H Gh.d
   refine aF rfl H (fun H=>?_) (fun H=>?_)
   ·refine ao 1 tk rfl ?_
    obtain rfl := az H
    have e2 : fl2 = .ret _ := hg2
    subst e2
    obtain rfl := aS Hp2
    refine ba tk rfl (ps := [(al 3)]) ⟨_,_,rfl,rfl,rfl⟩ (PLe.q rfl)
   refine ap (ab (bm tk mok ⟨true,false,[72,79,82]⟩ [0,1,2,3,4,5,6,7,8,9,10,11,12,13,14,15,16] rfl (by decide +kernel) rfl (bV rfl (bO ?_))))
   refine bV rfl ?_
   obtain ⟨x70,k70,H⟩ := bs H
   refine bE k70.1 (aP (fun _=>rfl) k70.2) ?_
   refine aN 3 rfl (bO ?_)
   refine bV rfl (bO ?_)
   refine bV rfl ?_
   obtain ⟨x78,k78,H⟩ := bs H
   refine bE k78.1 (aP (fun _=>rfl) k78.2) ?_
   refine bV rfl ?_
   obtain ⟨x80,k80,H⟩ := bs H
   refine bE k80.1 (aP (fun _=>rfl) k80.2) ?_
   refine aN 3 rfl (be ?_)
   refine aF rfl H (fun H=>?_) (fun H=>?_)
   ·refine ao 1 tk rfl ?_
    obtain rfl := az H
    have e2 : fl2 = .ret _ := hg2
    subst e2
    obtain rfl := aS Hp2
    refine ba tk rfl (ps := [(al 7)]) ⟨_,_,rfl,rfl,rfl⟩ (PLe.q rfl)
   refine ap (aG (bc 2 tk rfl ?_))
   exact bl () H hl2 hg2
  have hn2 := rMd (qJ h) hr2
  refine bq rfl ?_
  refine aT s2 g2 hn2 Gh.d
 have H := oP hn2 Hp2
 refine ao 1 tk rfl ?_
 exact aY tk H rfl
def gM (other : LForeignKey) (c0 : LForeignKey) : Option (Bool) :=
 af (hX other c0) fun x6 =>
 some x6
theorem rZ (other : LForeignKey) (c0 : LForeignKey) (r : Bool) (H : gM other c0 = some r) :
  aK Tryz.prog 66 [(.agg (dC other)),(.ptr (dC c0))] (aC r) := by
 unfold gM at H
 refine PH.au Tryz.func66 Tryz.ntmps66 ?_
 refine ab (aa (aE ?_))
 refine ah tk rfl (ac (ab (aa (ag 2 tk rfl ?_))))
 obtain ⟨x6,h6,H⟩ := av H
 have s6 := pj other c0 _ h6
 refine ak Tryz.call67 (jn.r) s6 ?_
 refine ah tk rfl (ac ?_)
 exact aY tk H rfl
def kf (a : LVal) (b : LVal) : Int :=
 bv (gK a.kind b.kind) fun x11 =>
 cond (x11 != (0 : Int))
  (x11)
  (bv (gK a.int b.int) fun x19 =>
  cond (x19 != (0 : Int))
   (x19)
   (bv (ku a.text b.text) fun x27 =>
   x27))
theorem qi (a : LVal) (b : LVal) :
  aK Tryz.prog 123 [(.agg (ae a)),(.agg (ae b))] (al (kf a b)) := by
 obtain ⟨r,H⟩ : ∃ r,kf a b = r := ⟨_,rfl⟩
 rw [H]
 unfold kf at H
 refine PH.au Tryz.func123 Tryz.ntmps123 ?_
 refine ab (aa (aE ?_))
 refine aE ?_
 refine ah tk rfl (ac (ab (ab (aa (ag 4 tk rfl ?_)))))
 obtain ⟨x11,h11,H⟩ := cX H
 have s11 := lf a.kind b.kind
 rw [h11] at s11
 refine ak Tryz.call124 (jn.r) s11 ?_
 refine ah tk rfl (ac (ao 2 tk rfl ?_))
 refine aF rfl H (fun H=>?_) (fun H=>?_)
 ·refine ao 2 tk rfl ?_
  exact eK tk H rfl
 refine ap (ab (ab (aa (ag 4 tk rfl ?_))))
 obtain ⟨x19,h19,H⟩ := cX H
 have s19 := lf a.int b.int
 rw [h19] at s19
 refine ak Tryz.call124 (jn.r) s19 ?_
 refine ah tk rfl (ac (ao 2 tk rfl ?_))
 refine aF rfl H (fun H=>?_) (fun H=>?_)
 ·refine ao 2 tk rfl ?_
  exact eK tk H rfl
 refine ap (ab (aa (ag 4 tk rfl ?_)))
 obtain ⟨x27,h27,H⟩ := cX H
 have s27 := tL a.text b.text
 rw [h27] at s27
 refine ak Tryz.call192 (jn.r) s27 ?_
 refine ah tk rfl (ac ?_)
 exact eK tk H rfl
def dH (kinds : List Int) (c0 : LQuery) : Option (Bool) :=
 af (dL kinds c0.kind) fun x7 =>
 some x7
theorem fS (kinds : List Int) (c0 : LQuery) (r : Bool) (H : dH kinds c0 = some r) :
  aK Tryz.prog 229 [(.list 3 (kinds.map bG)),(.ptr (aI c0))] (aC r) := by
 unfold dH at H
 refine PH.au Tryz.func229 Tryz.ntmps229 ?_
 refine ao 1 tk rfl (ab (aa (ag 3 tk rfl ?_)))
 obtain ⟨x7,h7,H⟩ := av H
 have s7 := jh kinds c0.kind _ h7
 refine ak Tryz.call13 (jn.r) s7 ?_
 refine ah tk rfl (ac ?_)
 exact aY tk H rfl
def fN (q : LQuery) (args : Rq) : Option (Int) :=
 af (dY q) fun x11 =>
 cond (x11.2 != (0 : Int))
  (some x11.2)
  (cond (decide ((args.length : Int) < (x11.1.length : Int)))
   (some 1)
   (af (aH (σ := Unit) (ρ := (Int)) (fun (j1 : Nat) (x1 : Int) (_ : Unit) =>
    af (aJ args (j1 : Int)) fun (x31 : LVal) =>
    bv (eU x31) fun x33 =>
    cond (!x33)
     (some (.ret 7))
     (cond (x1 != (0 : Int))
      (af (aJ args (j1 : Int)) fun (x41 : LVal) =>
      cond (x41.kind != x1)
       (af (aJ args (j1 : Int)) fun (x50 : LVal) =>
       cond (x50.kind != (0 : Int))
        (some (.ret 7))
        (some (.next ())))
       (some (.next ())))
      (some (.next ())))) 0 x11.1 ()) fun fl1=>fl1.thenR fun (_ : Unit) =>
   some 0))
theorem ma (q : LQuery) (args : Rq) (r : Int) (H : fN q args = some r) :
  aK Tryz.prog 46 [(.agg (aI q)),(.list 73 (args.map ae))] (al r) := by
 unfold fN at H
 refine PH.au Tryz.func46 Tryz.ntmps46 ?_
 refine ab (aa (aE ?_))
 refine ah tk rfl (ac (ab (aa (ah tk rfl ?_))))
 obtain ⟨x11,h11,H⟩ := av H
 have s11 := iP q _ h11
 refine ak Tryz.call12 (jn.r) s11 ?_
 refine ag 5 tk rfl (ac (ab (ao 2 tk rfl ?_)))
 refine aF rfl H (fun H=>?_) (fun H=>?_)
 ·refine ao 2 tk rfl ?_
  exact aY tk H rfl
 refine ap (ab (ab (aa (ah tk rfl (aA tk (zl _) ?_)))))
 refine ah tk rfl (aA tk (zl _) ?_)
 refine ah tk rfl (ac ?_)
 refine aF rfl H (fun H=>?_) (fun H=>?_)
 ·refine ao 1 tk rfl ?_
  exact aY tk H rfl
 refine ap (ab (ab (aa (ah tk rfl (aA tk (zl _) ?_)))))
 refine ah tk rfl (ac ?_)
 refine eM tk 24 23 22 (fun s1 g1=>upd (fun _=>.any) 1 (.list 73 (args.map ae))) nB nO () H (fun fl1 Hp1 j1 s1 g1 hz1 hl1 x1 fb1 hx1 H hg1=>?_) (fun s1 g1 H=>?_)
 ·refine ab (aw (ab (aa (ah tk rfl ?_))))
  refine aU tk (zn j1) (bn (fun _=>rfl) hx1) ?_
  refine ag 3 tk rfl (ac (ab (aa (ag 2 tk rfl ?_))))
  obtain ⟨x31,k31,H⟩ := bs H
  refine aU tk k31.1 (aP (fun _=>rfl) k31.2) ?_
  refine ah tk rfl ?_
  obtain ⟨x33,h33,H⟩ := cX H
  have s33 := qt x31
  rw [h33] at s33
  refine ak Tryz.call50 (jn.r) s33 ?_
  refine ag 2 tk rfl ?_
  refine bh rfl rfl rfl H (fun H=>?_) (fun H=>?_)
  ·refine ag 20 tk rfl (ac (bP rfl (ao 1 tk rfl ?_)))
   obtain rfl := az H
   have e1 : fl1 = .ret _ := hg1
   subst e1
   obtain rfl := aS Hp1
   refine ba tk rfl (ps := [(al 7)]) ⟨_,_,rfl,rfl,rfl⟩ (PLe.q rfl)
  refine ag 3 tk rfl ?_
  refine bh rfl rfl rfl H (fun H=>?_) (fun H=>?_)
  ·refine ag 2 tk rfl ?_
   obtain ⟨x41,k41,H⟩ := bs H
   refine aU tk k41.1 (aP (fun _=>rfl) k41.2) ?_
   refine ag 6 tk rfl ?_
   refine bh rfl rfl rfl H (fun H=>?_) (fun H=>?_)
   ·refine ag 2 tk rfl ?_
    obtain ⟨x50,k50,H⟩ := bs H
    refine aU tk k50.1 (aP (fun _=>rfl) k50.2) ?_
    refine ag 5 tk rfl (ac ?_)
    refine aF rfl H (fun H=>?_) (fun H=>?_)
    ·refine ao 1 tk rfl ?_
     obtain rfl := az H
     have e1 : fl1 = .ret _ := hg1
     subst e1
     obtain rfl := aS Hp1
     refine ba tk rfl (ps := [(al 7)]) ⟨_,_,rfl,rfl,rfl⟩ (PLe.q rfl)
    refine ap (aG (bc 2 tk rfl ?_))
    exact bl () H hl1 hg1
   refine ag 8 tk rfl (ac (bC rfl (ap (aG (bc 2 tk rfl ?_)))))
   exact bl () H hl1 hg1
  refine ag 17 tk rfl (ac (bC rfl (ap (aG (bc 2 tk rfl ?_)))))
  exact bl () H hl1 hg1
 refine ao 1 tk rfl ?_
 exact aY tk H rfl
def bW (kinds : List Int) (c0 : LProcedureStatement) : Option (Bool) :=
 af (dL kinds c0.kind) fun x7 =>
 some x7
theorem cN (kinds : List Int) (c0 : LProcedureStatement) (r : Bool) (H : bW kinds c0 = some r) :
  aK Tryz.prog 125 [(.list 3 (kinds.map bG)),(.ptr (aR c0))] (aC r) := by
 unfold bW at H
 refine PH.au Tryz.func125 Tryz.ntmps125 ?_
 refine ao 1 tk rfl (ab (aa (ag 3 tk rfl ?_)))
 obtain ⟨x7,h7,H⟩ := av H
 have s7 := jh kinds c0.kind _ h7
 refine ak Tryz.call13 (jn.r) s7 ?_
 refine ah tk rfl (ac ?_)
 exact aY tk H rfl
def fQ (c : LProcedureChecker) (q : LQuery) : Option (Int) :=
 af (dY q) fun x11 =>
 af (aH (σ := Unit) (ρ := (Int)) (fun (j1 : Nat) (x1 : Int) (_ : Unit) =>
  cond (x1 != (0 : Int))
   (cond (decide ((j1 : Int) ≥ (c.args.length : Int)))
    (some (.ret 7))
    (af (aJ c.args (j1 : Int)) fun (x33 : Int) =>
    cond (x33 != x1)
     (some (.ret 7))
     (some (.next ()))))
   (some (.next ()))) 0 x11.1 ()) fun fl1=>fl1.thenR fun (_ : Unit) =>
 some 0
theorem oR (c : LProcedureChecker) (q : LQuery) (r : Int) (H : fQ c q = some r) :
  aK Tryz.prog 130 [(.agg (co c)),(.agg (aI q))] (al r) := by
 unfold fQ at H
 refine PH.au Tryz.func130 Tryz.ntmps130 ?_
 refine ab (aa (aE ?_))
 refine aE ?_
 refine ah tk rfl (ac (ab (aa (ah tk rfl ?_))))
 obtain ⟨x11,h11,H⟩ := av H
 have s11 := iP q _ h11
 refine ak Tryz.call12 (jn.r) s11 ?_
 refine ag 5 tk rfl (ac (ab (ab (aa (ah tk rfl (aA tk (zl _) ?_))))))
 refine ah tk rfl (ac ?_)
 refine eM tk 16 15 14 (fun s1 g1=>upd (fun _=>.any) 2 (.ptr (co c))) nB nO () H (fun fl1 Hp1 j1 s1 g1 hz1 hl1 x1 fb1 hx1 H hg1=>?_) (fun s1 g1 H=>?_)
 ·refine ab (aw (ab (aa (ah tk rfl ?_))))
  refine aU tk (zn j1) (bn (fun _=>rfl) hx1) ?_
  refine ag 3 tk rfl (ac (ab (aa (ag 3 tk rfl ?_))))
  refine bh rfl rfl rfl H (fun H=>?_) (fun H=>?_)
  ·refine ag 3 tk rfl (aA tk (zl _) ?_)
   refine ag 2 tk rfl ?_
   refine bh rfl rfl rfl H (fun H=>?_) (fun H=>?_)
   ·refine ag 9 tk rfl (ac (bP rfl (ao 1 tk rfl ?_)))
    obtain rfl := az H
    have e1 : fl1 = .ret _ := hg1
    subst e1
    obtain rfl := aS Hp1
    refine ba tk rfl (ps := [(al 7)]) ⟨_,_,rfl,rfl,rfl⟩ (PLe.q rfl)
   refine ag 3 tk rfl ?_
   obtain ⟨x33,k33,H⟩ := bs H
   refine aU tk k33.1 (aP (fun _=>rfl) k33.2) ?_
   refine ag 5 tk rfl (ac ?_)
   refine aF rfl H (fun H=>?_) (fun H=>?_)
   ·refine ao 1 tk rfl ?_
    obtain rfl := az H
    have e1 : fl1 = .ret _ := hg1
    subst e1
    obtain rfl := aS Hp1
    refine ba tk rfl (ps := [(al 7)]) ⟨_,_,rfl,rfl,rfl⟩ (PLe.q rfl)
   refine ap (aG (bc 2 tk rfl ?_))
   exact bl () H hl1 hg1
  refine ag 15 tk rfl (ac (bC rfl (ap (aG (bc 2 tk rfl ?_)))))
  exact bl () H hl1 hg1
 refine ao 1 tk rfl ?_
 exact aY tk H rfl
def ja (vars : List LCol) (x : LCol) : Option ((List LCol)) :=
 af (cJ vars (fun a0=>some (gB a0 x))) fun x9 =>
 af (dg 32 x9 ([x] : List LCol)) fun (x13 : List LCol) =>
 some x13
theorem uA (vars : List LCol) (x : LCol) (r : (List LCol)) (H : ja vars x = some r) :
  aK Tryz.prog 128 [(.list 68 (vars.map ay)),(.agg (ay x))] (.list 68 (r.map ay)) := by
 unfold ja at H
 refine PH.au Tryz.func128 Tryz.ntmps128 ?_
 refine ab (aa (aE ?_))
 refine ah tk rfl (ac (ab (aa (ah tk rfl ?_))))
 have s7 := ol (m := 7) vars
 refine kF Tryz.call195 (jn.r) s7 (fun g7=>?_)
 refine ah tk rfl ?_
 obtain ⟨x9,h9,H⟩ := av H
 have s9 := kD g7 vars (fun a0=>some (gB a0 x)) Tryz.call196 (fun a0 r h=>(az h) ▸ tN a0 x) _ h9
 refine dN (g := 194) rfl rfl rfl Tryz.call194 [] [(7,0)] rfl rfl rfl rfl (jn.of2 (iZ.cons (oB.own rfl) (iZ.cons (oB.of_eq rfl) iZ.nil))) (by rw [cW,ci,cV]; rfl) s9 ?_
 rintro u9 H9h ⟨rfl,rfl⟩
 refine ⟨_,rfl,?_⟩
 refine dc (st' := ⟨_,_,fun _=>none,upd (fun _=>none) 7 (some ⟨g7,68,(x9.map ay),true⟩)⟩) (Gh.le (cy _ _) aM (aZ aL)) ?_
 refine lP 9 (q := (.own 7 g7 (x9.map ay).length)) rfl (PLe.of2 (oB.own rfl)) (ah tk rfl (ac (ab (aa (ag 2 tk rfl (cn tk (rows' := List.map ay ([x] : List LCol)) (gD.refl _) ?_))))))
 obtain ⟨x13,h13,H⟩ := av H
 have k13 := cu h13
 refine cp (rows2' := List.map ay ([x] : List LCol)) (rows' := List.map ay x13) tk rfl rfl rfl rfl rfl rfl rfl rfl rfl rfl rfl rfl rfl (gD.refl _) (dT k13.1) (dU k13.2.1) (dS k13.2.2) fun g13=>?_
 refine ah tk rfl (ac (dP 4 rfl rfl rfl ?_))
 exact aY tk H rfl
def lC (a : Rz) (b : Rz) : Option (Rz) :=
 af (aH (σ := Rz × Rz) (ρ := Empty) (fun (_ : Nat) (x1 : Rq) (s1 : Rz × Rz) =>
  af (bL s1.1 (fun a0=>jx a0 x1)) fun x20 =>
  af (fo (x20.2.length = s1.1.length) ()) fun (_ : Unit) =>
  cond (decide (x20.1 ≥ (0 : Int)))
   (af (delI x20.2 x20.1 (IntKind.i64.wrap (x20.1 + (1 : Int)))) fun x27 =>
   some (.next (x27,s1.2)))
   (af (dg 24 s1.2 ([x1] : Rz)) fun (x31 : Rz) =>
   some (.next (x20.2,x31)))) 0 a (b,[])) fun fl1=>fl1.thenP fun (s1 : Rz × Rz) =>
 some s1.2
theorem W_query_less (a : Rz) (b : Rz) (r : Rz) (H : lC a b = some r) :
  aK Tryz.prog 154 [(.list 75 (a.map (am 73 ae))),(.list 75 (b.map (am 73 ae)))] (.list 75 (r.map (am 73 ae))) := by
 unfold lC at H
 refine PH.au Tryz.func154 Tryz.ntmps154 ?_
 refine ao 1 tk rfl (ab (aa (ah tk rfl ?_)))
 have s11 := qe (m := 11) b
 refine kF Tryz.call153 (jn.r) s11 (fun g11=>?_)
 refine ah tk rfl (ac (ao 1 tk rfl (ab (ab (aa (ah tk rfl (aA tk (zl _) ?_)))))))
 refine ah tk rfl (ac ?_)
 obtain ⟨fl1,H1,Hp1⟩ := av H
 refine iq tk 12 rfl rfl (fun hz1 _=>?_)
 rw [zl] at hz1
 refine fY (τ := Rz × Rz) (γ := OwnRef × OwnRef) (fun s1 g1=>⟨34,upd (fun _=>.any) 6 (.own 31 g1.2 (s1.2.map (am 73 ae)).length),fun _=>none,upd (fun _=>none) 31 (some ⟨g1.2,75,(s1.2.map (am 73 ae)),true⟩)⟩) (fun t=>fl1 = .next t) ?_ (fun s1 g1 hn1=>?_)
 ·refine aw (iR tk 6 31 (e := 75) rfl rfl ?_)
  refine jC (fun j1 s1 g1=>⟨34,upd (upd (upd (upd (upd (fun _=>.any) 14 (al (j1 : Int))) 13 (al (a.length : Int))) 12 (.list 75 (a.map (am 73 ae)))) 6 (.own 31 g1.2 (s1.2.map (am 73 ae)).length)) 5 (.own 11 g1.1 (s1.1.map (am 73 ae)).length),fun _=>none,upd (upd (fun _=>none) 31 (some ⟨g1.2,75,(s1.2.map (am 73 ae)),true⟩)) 11 (some ⟨g1.1,75,(s1.1.map (am 73 ae)),true⟩)⟩) (g11,⟨none,0⟩) H1 Gh.d (fun j1 s1 g1 hj1 hr1=>?_)
  refine ao 1 tk rfl (ab ?_)
  refine br rfl (fun h=>?_) (fun h=>?_)
  ·have hl1 := qH h
   obtain ⟨x1,fb1,hx1,H,hg1⟩ := rMc hl1 hr1
   refine ap (ab (aw (ab (aa ?_))))
   refine aU tk (zn j1) (bn (fun _=>rfl) hx1) ?_
   refine ah tk rfl ?_
   refine bg tk fun b8=>?_
   refine aq tk ?_
   refine ac (ab (ab (aa (ah tk rfl (dc (Gh.freezeB 8 rfl rfl rfl rfl) (ah tk rfl ?_))))))
   obtain ⟨x20,h20,H⟩ := av H
   have s20 := fW g1.1 s1.1 (fun a0=>jx a0 x1) Tryz.call220 (fun a0 r h=>W_query_less_1 a0 x1 r h) _ h20
   obtain ⟨_,q20_0,H⟩ := av H
   have l20_0 := (dJ q20_0).1
   have z20_0 : (List.map (am 73 ae) s1.1).length = (List.map (am 73 ae) x20.2).length := by simpa using (l20_0).symm
   refine dN (g := 219) rfl rfl rfl Tryz.call219 [] [(11,0)] rfl rfl rfl rfl (jn.of2 (iZ.cons (oB.own rfl) (iZ.cons (oB.of_eq rfl) iZ.nil))) (by rw [cW,ci,cV]; rfl) s20 ?_
   rintro u20 H20h ⟨rfl,rfl⟩
   refine ⟨_,rfl,?_⟩
   refine dc (st' := ⟨_,_,fun _=>none,upd (upd (fun _=>none) 31 (some ⟨g1.2,75,(s1.2.map (am 73 ae)),true⟩)) 11 (some ⟨g1.1,75,(x20.2.map (am 73 ae)),true⟩)⟩) (Gh.le (cy _ _) aM (aZ (aZ aL))) ?_
   refine ah tk rfl (ac (ao 2 tk rfl ?_))
   refine aF rfl H (fun H=>?_) (fun H=>?_)
   ·refine ab (aa (ag 4 tk rfl ?_))
    obtain ⟨x27,h27,H⟩ := av H
    have s27 := W_delete_221 g1.1 x20.2 x20.1 (IntKind.i64.wrap (x20.1 + (1 : Int))) _ h27
    refine dN (g := 221) rfl rfl rfl Tryz.call221 [] [(11,0)] rfl rfl rfl rfl (jn.of2 (iZ.cons (oB.own z20_0) (iZ.cons (oB.of_eq rfl) (iZ.cons (oB.of_eq rfl) iZ.nil)))) (by rw [cW,ci,cV]; rfl) s27 ?_
    rintro u27 H27h ⟨rfl,rfl⟩
    refine ⟨_,rfl,?_⟩
    refine dc (st' := ⟨_,_,fun _=>none,upd (upd (fun _=>none) 31 (some ⟨g1.2,75,(s1.2.map (am 73 ae)),true⟩)) 11 (some ⟨g1.1,75,(x27.map (am 73 ae)),true⟩)⟩) (Gh.le (cy _ _) aM (aZ (aZ aL))) ?_
    refine lP 27 (q := (.own 11 g1.1 (x27.map (am 73 ae)).length)) rfl (PLe.of2 (oB.own rfl)) (ah tk rfl (ac (bq rfl (bc 2 tk rfl ?_))))
    exact bl (g1.1,g1.2) H hl1 hg1
   refine ap (aa (ag 2 tk rfl (cn tk (rows' := List.map (am 73 ae) ([x1] : Rz)) (gD.refl _) ?_)))
   obtain ⟨x31,h31,H⟩ := av H
   have k31 := cu h31
   refine cp (rows2' := List.map (am 73 ae) ([x1] : Rz)) (rows' := List.map (am 73 ae) x31) tk rfl rfl rfl rfl rfl rfl rfl rfl rfl rfl rfl rfl rfl (gD.refl _) (dT k31.1) (dU k31.2.1) (dS k31.2.2) fun g31=>?_
   refine ah tk rfl (ac (aG (bc 2 tk rfl ?_)))
   exact bl (g1.1,g31) H hl1 hg1 (Gh.le (bJ (PLe.of2 (oB.of_eq (congrArg (PV.own 11 g1.1) z20_0))) (ax (ax (ax (bJ (PLe.q (fO (by omega))) aW))))) aM (aZ (aZ aL)))
  have hn1 := rMd (qJ h) hr1
  refine bq rfl ?_
  refine aT s1 g1 hn1 Gh.d
 have H := dG hn1 Hp1
 refine ao 2 tk rfl (dP 4 rfl rfl rfl ?_)
 exact aY tk H rfl
def cF (rec293 : Rz → Int → Int → Int → Option (Rz)) (data : Rz) (a : Int) (m : Int) (b : Int) (cmp : Rq → Rq → Option (Int)) : Option (Rz) :=
 cond ((IntKind.i64.wrap (m - a)) == (1 : Int))
  (af (fU (σ := Rz × Int × Int) (ρ := Empty) (fun (s1 : Rz × Int × Int) =>
   cond (decide (s1.2.1 < s1.2.2))
    (af (aJ s1.1 (IntKind.i64.wrap (Int.fdiv (IntKind.u64.wrap (IntKind.i64.wrap (s1.2.1 + s1.2.2))) (2 ^ 1)))) fun (x43 : Rq) =>
    af (aJ s1.1 a) fun (x47 : Rq) =>
    af (cmp x43 x47) fun x49 =>
    cond (decide (x49 < (0 : Int)))
     (some (.next (s1.1,(IntKind.i64.wrap ((IntKind.i64.wrap (Int.fdiv (IntKind.u64.wrap (IntKind.i64.wrap (s1.2.1 + s1.2.2))) (2 ^ 1))) + (1 : Int))),s1.2.2)))
     (some (.next (s1.1,s1.2.1,(IntKind.i64.wrap (Int.fdiv (IntKind.u64.wrap (IntKind.i64.wrap (s1.2.1 + s1.2.2))) (2 ^ 1)))))))
    (some (.brk (s1.1,s1.2.1,s1.2.2)))) (data,m,b)) fun fl1=>fl1.thenP fun (s1 : Rz × Int × Int) =>
  af (fU (σ := Rz × Int) (ρ := Empty) (fun (s2 : Rz × Int) =>
   cond (decide (s2.2 < (IntKind.i64.wrap (s1.2.1 - (1 : Int)))))
    (af (aJ s2.1 (IntKind.i64.wrap (s2.2 + (1 : Int)))) fun (x69 : Rq) =>
    af (aJ s2.1 s2.2) fun (x73 : Rq) =>
    af (aJ s2.1 s2.2) fun (_ : Rq) =>
    bv (s2.1.set s2.2.toNat x69) fun (y7 : Rz) =>
    af (aJ y7 (IntKind.i64.wrap (s2.2 + (1 : Int)))) fun (_ : Rq) =>
    bv (y7.set ((IntKind.i64.wrap (s2.2 + (1 : Int))).toNat) x73) fun (y8 : Rz) =>
    some (.next (y8,(IntKind.i64.wrap (s2.2 + (1 : Int))))))
    (some (.brk (s2.1,s2.2)))) (s1.1,a)) fun fl2=>fl2.thenP fun (s2 : Rz × Int) =>
  some s2.1)
  (cond ((IntKind.i64.wrap (b - m)) == (1 : Int))
   (af (fU (σ := Rz × Int × Int) (ρ := Empty) (fun (s9 : Rz × Int × Int) =>
    cond (decide (s9.2.1 < s9.2.2))
     (af (aJ s9.1 m) fun (x95 : Rq) =>
     af (aJ s9.1 (IntKind.i64.wrap (Int.fdiv (IntKind.u64.wrap (IntKind.i64.wrap (s9.2.1 + s9.2.2))) (2 ^ 1)))) fun (x99 : Rq) =>
     af (cmp x95 x99) fun x101 =>
     cond (!(decide (x101 < (0 : Int))))
      (some (.next (s9.1,(IntKind.i64.wrap ((IntKind.i64.wrap (Int.fdiv (IntKind.u64.wrap (IntKind.i64.wrap (s9.2.1 + s9.2.2))) (2 ^ 1))) + (1 : Int))),s9.2.2)))
      (some (.next (s9.1,s9.2.1,(IntKind.i64.wrap (Int.fdiv (IntKind.u64.wrap (IntKind.i64.wrap (s9.2.1 + s9.2.2))) (2 ^ 1)))))))
     (some (.brk (s9.1,s9.2.1,s9.2.2)))) (data,a,m)) fun fl9=>fl9.thenP fun (s9 : Rz × Int × Int) =>
   af (fU (σ := Rz × Int) (ρ := Empty) (fun (s10 : Rz × Int) =>
    cond (decide (s10.2 > s9.2.1))
     (af (aJ s10.1 (IntKind.i64.wrap (s10.2 - (1 : Int)))) fun (x121 : Rq) =>
     af (aJ s10.1 s10.2) fun (x125 : Rq) =>
     af (aJ s10.1 s10.2) fun (_ : Rq) =>
     bv (s10.1.set s10.2.toNat x121) fun (y15 : Rz) =>
     af (aJ y15 (IntKind.i64.wrap (s10.2 - (1 : Int)))) fun (_ : Rq) =>
     bv (y15.set ((IntKind.i64.wrap (s10.2 - (1 : Int))).toNat) x125) fun (y16 : Rz) =>
     some (.next (y16,(IntKind.i64.wrap (s10.2 - (1 : Int))))))
     (some (.brk (s10.1,s10.2)))) (s9.1,m)) fun fl10=>fl10.thenP fun (s10 : Rz × Int) =>
   some s10.1)
   (bv (
    cond (decide (m > (IntKind.i64.wrap (Int.fdiv (IntKind.u64.wrap (IntKind.i64.wrap (a + b))) (2 ^ 1)))))
     ((data,(IntKind.i64.wrap ((IntKind.i64.wrap ((IntKind.i64.wrap (Int.fdiv (IntKind.u64.wrap (IntKind.i64.wrap (a + b))) (2 ^ 1))) + m)) - b)),(IntKind.i64.wrap (Int.fdiv (IntKind.u64.wrap (IntKind.i64.wrap (a + b))) (2 ^ 1)))))
     ((data,a,m))) fun (t17 : Rz × Int × Int) =>
   af (fU (σ := Rz × Int × Int) (ρ := Empty) (fun (s18 : Rz × Int × Int) =>
    cond (decide (s18.2.1 < s18.2.2))
     (af (aJ s18.1 (IntKind.i64.wrap ((IntKind.i64.wrap ((IntKind.i64.wrap ((IntKind.i64.wrap (Int.fdiv (IntKind.u64.wrap (IntKind.i64.wrap (a + b))) (2 ^ 1))) + m)) - (1 : Int))) - (IntKind.i64.wrap (Int.fdiv (IntKind.u64.wrap (IntKind.i64.wrap (s18.2.1 + s18.2.2))) (2 ^ 1)))))) fun (x163 : Rq) =>
     af (aJ s18.1 (IntKind.i64.wrap (Int.fdiv (IntKind.u64.wrap (IntKind.i64.wrap (s18.2.1 + s18.2.2))) (2 ^ 1)))) fun (x167 : Rq) =>
     af (cmp x163 x167) fun x169 =>
     cond (!(decide (x169 < (0 : Int))))
      (some (.next (s18.1,(IntKind.i64.wrap ((IntKind.i64.wrap (Int.fdiv (IntKind.u64.wrap (IntKind.i64.wrap (s18.2.1 + s18.2.2))) (2 ^ 1))) + (1 : Int))),s18.2.2)))
      (some (.next (s18.1,s18.2.1,(IntKind.i64.wrap (Int.fdiv (IntKind.u64.wrap (IntKind.i64.wrap (s18.2.1 + s18.2.2))) (2 ^ 1)))))))
     (some (.brk (s18.1,s18.2.1,s18.2.2)))) (t17.1,t17.2.1,t17.2.2)) fun fl18=>fl18.thenP fun (s18 : Rz × Int × Int) =>
   bv (
    cond (decide (s18.2.1 < m))
     ((s18.1,(decide (m < (IntKind.i64.wrap ((IntKind.i64.wrap ((IntKind.i64.wrap (Int.fdiv (IntKind.u64.wrap (IntKind.i64.wrap (a + b))) (2 ^ 1))) + m)) - s18.2.1))))))
     ((s18.1,false))) fun (t19 : Rz × Bool) =>
   af (
    cond t19.2
     (af (dE t19.1 s18.2.1 m (IntKind.i64.wrap ((IntKind.i64.wrap ((IntKind.i64.wrap (Int.fdiv (IntKind.u64.wrap (IntKind.i64.wrap (a + b))) (2 ^ 1))) + m)) - s18.2.1)) cmp) fun x191 =>
     af (fo (x191.length = t19.1.length) ()) fun (_ : Unit) =>
     some x191)
     (some t19.1)) fun (t20 : Rz) =>
   bv (
    cond (decide (a < s18.2.1))
     ((t20,(decide (s18.2.1 < (IntKind.i64.wrap (Int.fdiv (IntKind.u64.wrap (IntKind.i64.wrap (a + b))) (2 ^ 1)))))))
     ((t20,false))) fun (t21 : Rz × Bool) =>
   af (
    cond t21.2
     (af (rec293 t21.1 a s18.2.1 (IntKind.i64.wrap (Int.fdiv (IntKind.u64.wrap (IntKind.i64.wrap (a + b))) (2 ^ 1)))) fun x205 =>
     af (fo (x205.length = t21.1.length) ()) fun (_ : Unit) =>
     some x205)
     (some t21.1)) fun (t22 : Rz) =>
   cond (decide ((IntKind.i64.wrap (Int.fdiv (IntKind.u64.wrap (IntKind.i64.wrap (a + b))) (2 ^ 1))) < (IntKind.i64.wrap ((IntKind.i64.wrap ((IntKind.i64.wrap (Int.fdiv (IntKind.u64.wrap (IntKind.i64.wrap (a + b))) (2 ^ 1))) + m)) - s18.2.1))))
    (cond (decide ((IntKind.i64.wrap ((IntKind.i64.wrap ((IntKind.i64.wrap (Int.fdiv (IntKind.u64.wrap (IntKind.i64.wrap (a + b))) (2 ^ 1))) + m)) - s18.2.1)) < b))
     (af (rec293 t22 (IntKind.i64.wrap (Int.fdiv (IntKind.u64.wrap (IntKind.i64.wrap (a + b))) (2 ^ 1))) (IntKind.i64.wrap ((IntKind.i64.wrap ((IntKind.i64.wrap (Int.fdiv (IntKind.u64.wrap (IntKind.i64.wrap (a + b))) (2 ^ 1))) + m)) - s18.2.1)) b) fun x219 =>
     af (fo (x219.length = t22.length) ()) fun (_ : Unit) =>
     some x219)
     (some t22))
    (some t22)))
theorem lS (g_data : OwnRef) {g_cmp : FuncId} {caps_cmp : List PV} (rec293 : Rz → Int → Int → Int → Option (Rz)) (hrec293 : ∀ g0 a0 a1 a2 a3 r,rec293 a0 a1 a2 a3 = some r → PH Tryz.prog 293 [(.own 0 g0 (a0.map (am 73 ae)).length),(al a1),(al a2),(al a3),(.fn g_cmp caps_cmp)] ⟨fun _=>none,upd (fun _=>none) 0 (some ⟨g0,75,(a0.map (am 73 ae)),true⟩)⟩ (fun u H=>u = (.tup []) ∧ H = ⟨fun _=>none,upd (fun _=>none) 0 (some ⟨g0,75,(r.map (am 73 ae)),true⟩)⟩)) (data : Rz) (a : Int) (m : Int) (b : Int) (cmp : Rq → Rq → Option (Int)) (hg_cmp : ∀ (vs : Array Value) (w : World),(callFunc g_cmp vs).run Tryz.prog w = .ok (.enter g_cmp vs) w) (hp_cmp : ∀ a0 a1 r,cmp a0 a1 = some r → aK Tryz.prog g_cmp ((.list 73 (a0.map ae)) :: (.list 73 (a1.map ae)) :: caps_cmp) (al r)) (r : Rz) (H : cF rec293 data a m b cmp = some r) :
  PH Tryz.prog 293 [(.own 0 g_data (data.map (am 73 ae)).length),(al a),(al m),(al b),(.fn g_cmp caps_cmp)] ⟨fun _=>none,upd (fun _=>none) 0 (some ⟨g_data,75,(data.map (am 73 ae)),true⟩)⟩ (fun u H=>u = (.tup []) ∧ H = ⟨fun _=>none,upd (fun _=>none) 0 (some ⟨g_data,75,(r.map (am 73 ae)),true⟩)⟩) := by
 unfold cF at H
 refine PH.au Tryz.func293 Tryz.ntmps293 ?_
 refine ab (ao 4 tk rfl ?_)
 refine aF rfl H (fun H=>?_) (fun H=>?_)
 ·refine ao 2 tk rfl (ao 2 tk rfl (ab ?_))
  obtain ⟨fl1,H1,Hp1⟩ := av H
  refine fY (τ := Rz × Int × Int) (γ := Unit) (fun s1 g1=>⟨220,upd (upd (upd (fun _=>.any) 10 (al s1.2.1)) 1 (al a)) 0 (.own 0 g_data (s1.1.map (am 73 ae)).length),fun _=>none,upd (fun _=>none) 0 (some ⟨g_data,75,(s1.1.map (am 73 ae)),true⟩)⟩) (fun t=>fl1 = .next t) ?_ (fun s1 g1 hn1=>?_)
  ·refine aw ?_
   refine gX (fun s1 g1=>⟨220,upd (upd (upd (upd (upd (fun _=>.any) 11 (al s1.2.2)) 10 (al s1.2.1)) 4 (.fn g_cmp caps_cmp)) 1 (al a)) 0 (.own 0 g_data (s1.1.map (am 73 ae)).length),fun _=>none,upd (fun _=>none) 0 (some ⟨g_data,75,(s1.1.map (am 73 ae)),true⟩)⟩) () H1 Gh.d (fun m1 s1 g1 hr1=>?_)
   obtain ⟨fb1,H,hg1⟩ := fE hr1
   refine ab (ao 3 tk rfl ?_)
   refine aF rfl H (fun H=>?_) (fun H=>?_)
   ·refine ap (aw (ab (aa (ag 4 tk rfl (uC (m := 1) rfl rfl rfl rfl (by decide) rfl rfl (ag 2 tk rfl (ac (ab ?_))))))))
    refine jX (tag := 0) rfl (fun ho0=>?_)
    refine bm tk mok ⟨false,true,[]⟩ [0,1,2,3,4,5,6,7,8,9,10] rfl (by decide +kernel) rfl (aN 3 rfl ?_)
    obtain ⟨x43,k43,H⟩ := bs H
    refine dz tk ⟨k43.1,(dR k43.2)⟩ (dZ ho0 k43.2) ?_
    refine fq tk (aP (fun _=>rfl) k43.2) ?_
    refine aN 2 rfl ?_
    obtain ⟨x47,k47,H⟩ := bs H
    refine dz tk ⟨k47.1,(dR k47.2)⟩ (dZ ho0 k47.2) ?_
    refine fq tk (aP (fun _=>rfl) k47.2) ?_
    obtain ⟨x49,h49,H⟩ := av H
    refine aV hg_cmp (jn.r) (hp_cmp _ _ _ h49) ?_
    refine bV rfl (be ?_)
    refine aF rfl H (fun H=>?_) (fun H=>?_)
    ·refine bc 3 tk rfl (aG ?_)
     obtain rfl := az H
     refine eg (s1.1,(IntKind.i64.wrap ((IntKind.i64.wrap (Int.fdiv (IntKind.u64.wrap (IntKind.i64.wrap (s1.2.1 + s1.2.2))) (2 ^ 1))) + (1 : Int))),s1.2.2) () hg1 Gh.d
    refine bc 2 tk rfl (aG ?_)
    obtain rfl := az H
    refine eg (s1.1,s1.2.1,(IntKind.i64.wrap (Int.fdiv (IntKind.u64.wrap (IntKind.i64.wrap (s1.2.1 + s1.2.2))) (2 ^ 1)))) () hg1 Gh.d
   refine bq rfl ?_
   obtain rfl := az H
   refine aT (s1.1,s1.2.1,s1.2.2) () hg1 Gh.d
  have H := dG hn1 Hp1
  refine ab (ao 2 tk rfl ?_)
  obtain ⟨fl2,H2,Hp2⟩ := av H
  refine fY (τ := Rz × Int) (γ := Unit) (fun s2 g2=>⟨220,upd (fun _=>.any) 0 (.own 0 g_data (s2.1.map (am 73 ae)).length),fun _=>none,upd (fun _=>none) 0 (some ⟨g_data,75,(s2.1.map (am 73 ae)),true⟩)⟩) (fun t=>fl2 = .next t) ?_ (fun s2 g2 hn2=>?_)
  ·refine aw ?_
   refine gX (fun s2 g2=>⟨220,upd (upd (upd (fun _=>.any) 13 (al s2.2)) 10 (al s1.2.1)) 0 (.own 0 g_data (s2.1.map (am 73 ae)).length),fun _=>none,upd (fun _=>none) 0 (some ⟨g_data,75,(s2.1.map (am 73 ae)),true⟩)⟩) () H2 Gh.d (fun m2 s2 g2 hr2=>?_)
   obtain ⟨fb2,H,hg2⟩ := fE hr2
   refine ab (ao 4 tk rfl ?_)
   refine aF rfl H (fun H=>?_) (fun H=>?_)
   ·refine ap (ab (aw ?_))
    refine jX (tag := 0) rfl (fun ho0=>?_)
    refine bm tk mok ⟨false,true,[]⟩ [0,1,2,3,4,5,6,7,8,9,10,11,12,13,14,15,16,17] rfl (by decide +kernel) rfl (aN 8 rfl ?_)
    obtain ⟨x69,k69,H⟩ := bs H
    refine dz tk ⟨k69.1,(dR k69.2)⟩ (dZ ho0 k69.2) ?_
    refine fq tk (aP (fun _=>rfl) k69.2) ?_
    refine aN 2 rfl ?_
    obtain ⟨x73,k73,H⟩ := bs H
    refine dz tk ⟨k73.1,(dR k73.2)⟩ (dZ ho0 k73.2) ?_
    refine fq tk (aP (fun _=>rfl) k73.2) ?_
    obtain ⟨x75,k75,H⟩ := bs H
    refine dz tk ⟨k75.1,(dR k75.2)⟩ (dZ ho0 k75.2) ?_
    obtain ⟨y7,hy7,H⟩ := cX H
    refine jt tk rfl rfl rfl rfl rfl rfl rfl rfl rfl (by rw [zl]; exact (zg.1 k75.2).1) (PLe.refl _ _) rfl rfl rfl rfl (by decide) (fT (fun _=>rfl) k75.2 rfl hy7) ?_
    obtain ⟨x76,k76,H⟩ := bs H
    refine dz tk ⟨k76.1,(tl (fy (f := (am 73 ae)) hy7) k76.2)⟩ (tC ho0 (fy (f := (am 73 ae)) hy7) k76.2) ?_
    obtain ⟨y8,hy8,H⟩ := cX H
    refine jt tk rfl rfl rfl rfl rfl rfl rfl rfl rfl (by rw [zl]; exact (zg.1 k76.2).1) (PLe.refl _ _) rfl rfl rfl rfl (by decide) (fT (fun _=>rfl) k76.2 rfl hy8) ?_
    refine be (aG (bc 3 tk rfl ?_))
    obtain rfl := az H
    refine eg (y8,(IntKind.i64.wrap (s2.2 + (1 : Int)))) () hg2 (Gh.le (bJ (PLe.of2 (oB.of_eq (congrArg (PV.own 0 g_data) ((fy (f := (am 73 ae)) hy7).trans (fy (f := (am 73 ae)) hy8))))) (ax (ax aW))) aM (aZ aL))
   refine bq rfl ?_
   obtain rfl := az H
   refine aT (s2.1,s2.2) () hg2 Gh.d
  have H := dG hn2 Hp2
  obtain rfl := az H
  refine fI (st' := ⟨220,fun _=>.any,fun _=>none,upd (fun _=>none) 0 (some ⟨g_data,75,(s2.1.map (am 73 ae)),true⟩)⟩) (Gh.le aW aM (aZ aL)) ?_
  refine hJ tk rfl (ps := []) rfl (PLe.q rfl) ⟨rfl,rfl⟩
 refine ap (ab (ao 4 tk rfl ?_))
 refine aF rfl H (fun H=>?_) (fun H=>?_)
 ·refine ao 2 tk rfl (ao 2 tk rfl (ab ?_))
  obtain ⟨fl9,H9,Hp9⟩ := av H
  refine fY (τ := Rz × Int × Int) (γ := Unit) (fun s9 g9=>⟨220,upd (upd (upd (fun _=>.any) 14 (al s9.2.1)) 2 (al m)) 0 (.own 0 g_data (s9.1.map (am 73 ae)).length),fun _=>none,upd (fun _=>none) 0 (some ⟨g_data,75,(s9.1.map (am 73 ae)),true⟩)⟩) (fun t=>fl9 = .next t) ?_ (fun s9 g9 hn9=>?_)
  ·refine aw ?_
   refine gX (fun s9 g9=>⟨220,upd (upd (upd (upd (upd (fun _=>.any) 15 (al s9.2.2)) 14 (al s9.2.1)) 4 (.fn g_cmp caps_cmp)) 2 (al m)) 0 (.own 0 g_data (s9.1.map (am 73 ae)).length),fun _=>none,upd (fun _=>none) 0 (some ⟨g_data,75,(s9.1.map (am 73 ae)),true⟩)⟩) () H9 Gh.d (fun m9 s9 g9 hr9=>?_)
   obtain ⟨fb9,H,hg9⟩ := fE hr9
   refine ab (ao 3 tk rfl ?_)
   refine aF rfl H (fun H=>?_) (fun H=>?_)
   ·refine ap (aw (ab (aa (ag 4 tk rfl (uC (m := 1) rfl rfl rfl rfl (by decide) rfl rfl (ag 2 tk rfl (ac (ab ?_))))))))
    refine jX (tag := 0) rfl (fun ho0=>?_)
    refine bm tk mok ⟨false,true,[]⟩ [0,1,2,3,4,5,6,7,8,9,10,11] rfl (by decide +kernel) rfl (aN 3 rfl ?_)
    obtain ⟨x95,k95,H⟩ := bs H
    refine dz tk ⟨k95.1,(dR k95.2)⟩ (dZ ho0 k95.2) ?_
    refine fq tk (aP (fun _=>rfl) k95.2) ?_
    refine aN 2 rfl ?_
    obtain ⟨x99,k99,H⟩ := bs H
    refine dz tk ⟨k99.1,(dR k99.2)⟩ (dZ ho0 k99.2) ?_
    refine fq tk (aP (fun _=>rfl) k99.2) ?_
    obtain ⟨x101,h101,H⟩ := av H
    refine aV hg_cmp (jn.r) (hp_cmp _ _ _ h101) ?_
    refine aN 2 rfl (be ?_)
    refine aF rfl H (fun H=>?_) (fun H=>?_)
    ·refine bc 3 tk rfl (aG ?_)
     obtain rfl := az H
     refine eg (s9.1,(IntKind.i64.wrap ((IntKind.i64.wrap (Int.fdiv (IntKind.u64.wrap (IntKind.i64.wrap (s9.2.1 + s9.2.2))) (2 ^ 1))) + (1 : Int))),s9.2.2) () hg9 Gh.d
    refine bc 2 tk rfl (aG ?_)
    obtain rfl := az H
    refine eg (s9.1,s9.2.1,(IntKind.i64.wrap (Int.fdiv (IntKind.u64.wrap (IntKind.i64.wrap (s9.2.1 + s9.2.2))) (2 ^ 1)))) () hg9 Gh.d
   refine bq rfl ?_
   obtain rfl := az H
   refine aT (s9.1,s9.2.1,s9.2.2) () hg9 Gh.d
  have H := dG hn9 Hp9
  refine ab (ao 2 tk rfl ?_)
  obtain ⟨fl10,H10,Hp10⟩ := av H
  refine fY (τ := Rz × Int) (γ := Unit) (fun s10 g10=>⟨220,upd (fun _=>.any) 0 (.own 0 g_data (s10.1.map (am 73 ae)).length),fun _=>none,upd (fun _=>none) 0 (some ⟨g_data,75,(s10.1.map (am 73 ae)),true⟩)⟩) (fun t=>fl10 = .next t) ?_ (fun s10 g10 hn10=>?_)
  ·refine aw ?_
   refine gX (fun s10 g10=>⟨220,upd (upd (upd (fun _=>.any) 17 (al s10.2)) 14 (al s9.2.1)) 0 (.own 0 g_data (s10.1.map (am 73 ae)).length),fun _=>none,upd (fun _=>none) 0 (some ⟨g_data,75,(s10.1.map (am 73 ae)),true⟩)⟩) () H10 Gh.d (fun m10 s10 g10 hr10=>?_)
   obtain ⟨fb10,H,hg10⟩ := fE hr10
   refine ab (ao 3 tk rfl ?_)
   refine aF rfl H (fun H=>?_) (fun H=>?_)
   ·refine ap (ab (aw ?_))
    refine jX (tag := 0) rfl (fun ho0=>?_)
    refine bm tk mok ⟨false,true,[]⟩ [0,1,2,3,4,5,6,7,8,9,10,11,12,13,14,15,16,17] rfl (by decide +kernel) rfl (aN 8 rfl ?_)
    obtain ⟨x121,k121,H⟩ := bs H
    refine dz tk ⟨k121.1,(dR k121.2)⟩ (dZ ho0 k121.2) ?_
    refine fq tk (aP (fun _=>rfl) k121.2) ?_
    refine aN 2 rfl ?_
    obtain ⟨x125,k125,H⟩ := bs H
    refine dz tk ⟨k125.1,(dR k125.2)⟩ (dZ ho0 k125.2) ?_
    refine fq tk (aP (fun _=>rfl) k125.2) ?_
    obtain ⟨x127,k127,H⟩ := bs H
    refine dz tk ⟨k127.1,(dR k127.2)⟩ (dZ ho0 k127.2) ?_
    obtain ⟨y15,hy15,H⟩ := cX H
    refine jt tk rfl rfl rfl rfl rfl rfl rfl rfl rfl (by rw [zl]; exact (zg.1 k127.2).1) (PLe.refl _ _) rfl rfl rfl rfl (by decide) (fT (fun _=>rfl) k127.2 rfl hy15) ?_
    obtain ⟨x128,k128,H⟩ := bs H
    refine dz tk ⟨k128.1,(tl (fy (f := (am 73 ae)) hy15) k128.2)⟩ (tC ho0 (fy (f := (am 73 ae)) hy15) k128.2) ?_
    obtain ⟨y16,hy16,H⟩ := cX H
    refine jt tk rfl rfl rfl rfl rfl rfl rfl rfl rfl (by rw [zl]; exact (zg.1 k128.2).1) (PLe.refl _ _) rfl rfl rfl rfl (by decide) (fT (fun _=>rfl) k128.2 rfl hy16) ?_
    refine be (aG (bc 3 tk rfl ?_))
    obtain rfl := az H
    refine eg (y16,(IntKind.i64.wrap (s10.2 - (1 : Int)))) () hg10 (Gh.le (bJ (PLe.of2 (oB.of_eq (congrArg (PV.own 0 g_data) ((fy (f := (am 73 ae)) hy15).trans (fy (f := (am 73 ae)) hy16))))) (ax (ax aW))) aM (aZ aL))
   refine bq rfl ?_
   obtain rfl := az H
   refine aT (s10.1,s10.2) () hg10 Gh.d
  have H := dG hn10 Hp10
  obtain rfl := az H
  refine fI (st' := ⟨220,fun _=>.any,fun _=>none,upd (fun _=>none) 0 (some ⟨g_data,75,(s10.1.map (am 73 ae)),true⟩)⟩) (Gh.le aW aM (aZ aL)) ?_
  refine hJ tk rfl (ps := []) rfl (PLe.q rfl) ⟨rfl,rfl⟩
 refine ap (ab (aa (ag 4 tk rfl (uC (m := 1) rfl rfl rfl rfl (by decide) rfl rfl (ag 2 tk rfl (ac (ao 4 tk rfl (ao 2 tk rfl (ab (ao 3 tk rfl ?_))))))))))
 refine gp (γ := Unit) (fun t17 g17=>⟨220,upd (upd (upd (upd (upd (upd (upd (upd (upd (fun _=>.any) 21 (al t17.2.2)) 20 (al t17.2.1)) 19 (al (IntKind.i64.wrap ((IntKind.i64.wrap (Int.fdiv (IntKind.u64.wrap (IntKind.i64.wrap (a + b))) (2 ^ 1))) + m)))) 18 (al (IntKind.i64.wrap (Int.fdiv (IntKind.u64.wrap (IntKind.i64.wrap (a + b))) (2 ^ 1))))) 4 (.fn g_cmp caps_cmp)) 3 (al b)) 2 (al m)) 1 (al a)) 0 (.own 0 g_data (t17.1.map (am 73 ae)).length),fun _=>none,upd (fun _=>none) 0 (some ⟨g_data,75,(t17.1.map (am 73 ae)),true⟩)⟩) H (fun _ H=>?_) (fun t17 g17 H=>?_)
 ·refine aF rfl H (fun H=>?_) (fun H=>?_)
  ·refine ao 4 tk rfl (bc 2 tk rfl ?_)
   refine aT _ () H Gh.d
  refine ao 2 tk rfl (bc 2 tk rfl ?_)
  refine aT _ () H Gh.d
 refine ao 3 tk rfl (ab ?_)
 obtain ⟨fl18,H18,Hp18⟩ := av H
 refine fY (τ := Rz × Int × Int) (γ := Unit) (fun s18 g18=>⟨220,upd (upd (upd (upd (upd (upd (upd (upd (fun _=>.any) 20 (al s18.2.1)) 19 (al (IntKind.i64.wrap ((IntKind.i64.wrap (Int.fdiv (IntKind.u64.wrap (IntKind.i64.wrap (a + b))) (2 ^ 1))) + m)))) 18 (al (IntKind.i64.wrap (Int.fdiv (IntKind.u64.wrap (IntKind.i64.wrap (a + b))) (2 ^ 1))))) 4 (.fn g_cmp caps_cmp)) 3 (al b)) 2 (al m)) 1 (al a)) 0 (.own 0 g_data (s18.1.map (am 73 ae)).length),fun _=>none,upd (fun _=>none) 0 (some ⟨g_data,75,(s18.1.map (am 73 ae)),true⟩)⟩) (fun t=>fl18 = .next t) ?_ (fun s18 g18 hn18=>?_)
 ·refine aw ?_
  refine gX (fun s18 g18=>⟨220,upd (upd (upd (upd (upd (upd (upd (upd (upd (upd (fun _=>.any) 22 (al (IntKind.i64.wrap ((IntKind.i64.wrap ((IntKind.i64.wrap (Int.fdiv (IntKind.u64.wrap (IntKind.i64.wrap (a + b))) (2 ^ 1))) + m)) - (1 : Int))))) 21 (al s18.2.2)) 20 (al s18.2.1)) 19 (al (IntKind.i64.wrap ((IntKind.i64.wrap (Int.fdiv (IntKind.u64.wrap (IntKind.i64.wrap (a + b))) (2 ^ 1))) + m)))) 18 (al (IntKind.i64.wrap (Int.fdiv (IntKind.u64.wrap (IntKind.i64.wrap (a + b))) (2 ^ 1))))) 4 (.fn g_cmp caps_cmp)) 3 (al b)) 2 (al m)) 1 (al a)) 0 (.own 0 g_data (s18.1.map (am 73 ae)).length),fun _=>none,upd (fun _=>none) 0 (some ⟨g_data,75,(s18.1.map (am 73 ae)),true⟩)⟩) () H18 Gh.d (fun m18 s18 g18 hr18=>?_)
  obtain ⟨fb18,H,hg18⟩ := fE hr18
  refine ab (ao 3 tk rfl ?_)
  refine aF rfl H (fun H=>?_) (fun H=>?_)
  ·refine ap (aw (ab (aa (ag 4 tk rfl (uC (m := 1) rfl rfl rfl rfl (by decide) rfl rfl (ag 2 tk rfl (ac (ab ?_))))))))
   refine jX (tag := 0) rfl (fun ho0=>?_)
   refine bm tk mok ⟨false,true,[]⟩ [0,1,2,3,4,5,6,7,8,9,10,11,12,13] rfl (by decide +kernel) rfl (aN 5 rfl ?_)
   obtain ⟨x163,k163,H⟩ := bs H
   refine dz tk ⟨k163.1,(dR k163.2)⟩ (dZ ho0 k163.2) ?_
   refine fq tk (aP (fun _=>rfl) k163.2) ?_
   refine aN 2 rfl ?_
   obtain ⟨x167,k167,H⟩ := bs H
   refine dz tk ⟨k167.1,(dR k167.2)⟩ (dZ ho0 k167.2) ?_
   refine fq tk (aP (fun _=>rfl) k167.2) ?_
   obtain ⟨x169,h169,H⟩ := av H
   refine aV hg_cmp (jn.r) (hp_cmp _ _ _ h169) ?_
   refine aN 2 rfl (be ?_)
   refine aF rfl H (fun H=>?_) (fun H=>?_)
   ·refine bc 3 tk rfl (aG ?_)
    obtain rfl := az H
    refine eg (s18.1,(IntKind.i64.wrap ((IntKind.i64.wrap (Int.fdiv (IntKind.u64.wrap (IntKind.i64.wrap (s18.2.1 + s18.2.2))) (2 ^ 1))) + (1 : Int))),s18.2.2) () hg18 Gh.d
   refine bc 2 tk rfl (aG ?_)
   obtain rfl := az H
   refine eg (s18.1,s18.2.1,(IntKind.i64.wrap (Int.fdiv (IntKind.u64.wrap (IntKind.i64.wrap (s18.2.1 + s18.2.2))) (2 ^ 1)))) () hg18 Gh.d
  refine bq rfl ?_
  obtain rfl := az H
  refine aT (s18.1,s18.2.1,s18.2.2) () hg18 Gh.d
 have H := dG hn18 Hp18
 refine ao 4 tk rfl (ab (ab ?_))
 refine gp (γ := Unit) (fun t19 g19=>⟨220,upd (upd (upd (upd (upd (upd (upd (upd (upd (fun _=>.any) 185 (aC t19.2)) 24 (al (IntKind.i64.wrap ((IntKind.i64.wrap ((IntKind.i64.wrap (Int.fdiv (IntKind.u64.wrap (IntKind.i64.wrap (a + b))) (2 ^ 1))) + m)) - s18.2.1)))) 20 (al s18.2.1)) 18 (al (IntKind.i64.wrap (Int.fdiv (IntKind.u64.wrap (IntKind.i64.wrap (a + b))) (2 ^ 1))))) 4 (.fn g_cmp caps_cmp)) 3 (al b)) 2 (al m)) 1 (al a)) 0 (.own 0 g_data (t19.1.map (am 73 ae)).length),fun _=>none,upd (fun _=>none) 0 (some ⟨g_data,75,(t19.1.map (am 73 ae)),true⟩)⟩) H (fun _ H=>?_) (fun t19 g19 H=>?_)
 ·refine aa (ag 4 tk rfl ?_)
  refine bh rfl rfl rfl H (fun H=>?_) (fun H=>?_)
  ·refine ag 4 tk rfl (ac ?_)
   refine aT _ () H Gh.d
  refine ag 4 tk rfl (ac ?_)
  refine aT _ () H Gh.d
 refine eO (γ := Unit) (fun t20 g20=>⟨220,upd (upd (upd (upd (upd (upd (upd (fun _=>.any) 24 (al (IntKind.i64.wrap ((IntKind.i64.wrap ((IntKind.i64.wrap (Int.fdiv (IntKind.u64.wrap (IntKind.i64.wrap (a + b))) (2 ^ 1))) + m)) - s18.2.1)))) 20 (al s18.2.1)) 18 (al (IntKind.i64.wrap (Int.fdiv (IntKind.u64.wrap (IntKind.i64.wrap (a + b))) (2 ^ 1))))) 4 (.fn g_cmp caps_cmp)) 3 (al b)) 1 (al a)) 0 (.own 0 g_data (t20.map (am 73 ae)).length),fun _=>none,upd (fun _=>none) 0 (some ⟨g_data,75,(t20.map (am 73 ae)),true⟩)⟩) H (fun _ H=>?_) (fun t20 g20 H=>?_)
 ·refine aF rfl H (fun H=>?_) (fun H=>?_)
  ·refine aa (ag 5 tk rfl ?_)
   obtain ⟨x191,h191,H⟩ := av H
   have s191 := mG g_data t19.1 s18.2.1 m (IntKind.i64.wrap ((IntKind.i64.wrap ((IntKind.i64.wrap (Int.fdiv (IntKind.u64.wrap (IntKind.i64.wrap (a + b))) (2 ^ 1))) + m)) - s18.2.1)) cmp hg_cmp hp_cmp _ h191
   obtain ⟨_,q191_0,H⟩ := av H
   have l191_0 := (dJ q191_0).1
   have z191_0 : (List.map (am 73 ae) t19.1).length = (List.map (am 73 ae) x191).length := by simpa using (l191_0).symm
   refine dN (g := 305) rfl rfl rfl Tryz.call305 [] [(0,0)] rfl rfl rfl rfl (jn.of2 (iZ.cons (oB.own rfl) (iZ.cons (oB.of_eq rfl) (iZ.cons (oB.of_eq rfl) (iZ.cons (oB.of_eq rfl) (iZ.cons (oB.of_eq rfl) iZ.nil)))))) (by rw [cW,ci,cV]; rfl) s191 ?_
   rintro u191 H191h ⟨rfl,rfl⟩
   refine ⟨_,rfl,?_⟩
   refine dc (st' := ⟨_,_,fun _=>none,upd (fun _=>none) 0 (some ⟨g_data,75,(x191.map (am 73 ae)),true⟩)⟩) (Gh.le (cy _ _) aM (aZ aL)) ?_
   refine ac ?_
   refine aT _ () (az H) (Gh.le (bJ (PLe.of2 (oB.of_eq (congrArg (PV.own 0 g_data) z191_0))) (ax (ax (ax (ax (ax (ax aW))))))) aM (aZ aL))
  refine ap ?_
  refine aT _ () (az H) Gh.d
 refine ab (ab ?_)
 refine gp (γ := Unit) (fun t21 g21=>⟨220,upd (upd (upd (upd (upd (upd (upd (upd (fun _=>.any) 199 (aC t21.2)) 24 (al (IntKind.i64.wrap ((IntKind.i64.wrap ((IntKind.i64.wrap (Int.fdiv (IntKind.u64.wrap (IntKind.i64.wrap (a + b))) (2 ^ 1))) + m)) - s18.2.1)))) 20 (al s18.2.1)) 18 (al (IntKind.i64.wrap (Int.fdiv (IntKind.u64.wrap (IntKind.i64.wrap (a + b))) (2 ^ 1))))) 4 (.fn g_cmp caps_cmp)) 3 (al b)) 1 (al a)) 0 (.own 0 g_data (t21.1.map (am 73 ae)).length),fun _=>none,upd (fun _=>none) 0 (some ⟨g_data,75,(t21.1.map (am 73 ae)),true⟩)⟩) H (fun _ H=>?_) (fun t21 g21 H=>?_)
 ·refine aa (ag 4 tk rfl ?_)
  refine bh rfl rfl rfl H (fun H=>?_) (fun H=>?_)
  ·refine ag 4 tk rfl (ac ?_)
   refine aT _ () H Gh.d
  refine ag 4 tk rfl (ac ?_)
  refine aT _ () H Gh.d
 refine eO (γ := Unit) (fun t22 g22=>⟨220,upd (upd (upd (upd (upd (fun _=>.any) 24 (al (IntKind.i64.wrap ((IntKind.i64.wrap ((IntKind.i64.wrap (Int.fdiv (IntKind.u64.wrap (IntKind.i64.wrap (a + b))) (2 ^ 1))) + m)) - s18.2.1)))) 18 (al (IntKind.i64.wrap (Int.fdiv (IntKind.u64.wrap (IntKind.i64.wrap (a + b))) (2 ^ 1))))) 4 (.fn g_cmp caps_cmp)) 3 (al b)) 0 (.own 0 g_data (t22.map (am 73 ae)).length),fun _=>none,upd (fun _=>none) 0 (some ⟨g_data,75,(t22.map (am 73 ae)),true⟩)⟩) H (fun _ H=>?_) (fun t22 g22 H=>?_)
 ·refine aF rfl H (fun H=>?_) (fun H=>?_)
  ·refine aa (ag 5 tk rfl ?_)
   obtain ⟨x205,h205,H⟩ := av H
   have s205 := hrec293 g_data t21.1 a s18.2.1 (IntKind.i64.wrap (Int.fdiv (IntKind.u64.wrap (IntKind.i64.wrap (a + b))) (2 ^ 1))) _ h205
   obtain ⟨_,q205_0,H⟩ := av H
   have l205_0 := (dJ q205_0).1
   have z205_0 : (List.map (am 73 ae) t21.1).length = (List.map (am 73 ae) x205).length := by simpa using (l205_0).symm
   refine dN (g := 293) rfl rfl rfl Tryz.call293 [] [(0,0)] rfl rfl rfl rfl (jn.of2 (iZ.cons (oB.own rfl) (iZ.cons (oB.of_eq rfl) (iZ.cons (oB.of_eq rfl) (iZ.cons (oB.of_eq rfl) (iZ.cons (oB.of_eq rfl) iZ.nil)))))) (by rw [cW,ci,cV]; rfl) s205 ?_
   rintro u205 H205h ⟨rfl,rfl⟩
   refine ⟨_,rfl,?_⟩
   refine dc (st' := ⟨_,_,fun _=>none,upd (fun _=>none) 0 (some ⟨g_data,75,(x205.map (am 73 ae)),true⟩)⟩) (Gh.le (cy _ _) aM (aZ aL)) ?_
   refine ac ?_
   refine aT _ () (az H) (Gh.le (bJ (PLe.of2 (oB.of_eq (congrArg (PV.own 0 g_data) z205_0))) (ax (ax (ax (ax aW))))) aM (aZ aL))
  refine ap ?_
  refine aT _ () (az H) Gh.d
 refine ab (aa (ag 4 tk rfl ?_))
 refine bh rfl rfl rfl H (fun H=>?_) (fun H=>?_)
 ·refine ag 4 tk rfl (ac ?_)
  refine aF rfl H (fun H=>?_) (fun H=>?_)
  ·refine aa (ag 5 tk rfl ?_)
   obtain ⟨x219,h219,H⟩ := av H
   have s219 := hrec293 g_data t22 (IntKind.i64.wrap (Int.fdiv (IntKind.u64.wrap (IntKind.i64.wrap (a + b))) (2 ^ 1))) (IntKind.i64.wrap ((IntKind.i64.wrap ((IntKind.i64.wrap (Int.fdiv (IntKind.u64.wrap (IntKind.i64.wrap (a + b))) (2 ^ 1))) + m)) - s18.2.1)) b _ h219
   obtain ⟨_,q219_0,H⟩ := av H
   have l219_0 := (dJ q219_0).1
   have z219_0 : (List.map (am 73 ae) t22).length = (List.map (am 73 ae) x219).length := by simpa using (l219_0).symm
   refine dN (g := 293) rfl rfl rfl Tryz.call293 [] [(0,0)] rfl rfl rfl rfl (jn.of2 (iZ.cons (oB.own rfl) (iZ.cons (oB.of_eq rfl) (iZ.cons (oB.of_eq rfl) (iZ.cons (oB.of_eq rfl) (iZ.cons (oB.of_eq rfl) iZ.nil)))))) (by rw [cW,ci,cV]; rfl) s219 ?_
   rintro u219 H219h ⟨rfl,rfl⟩
   refine ⟨_,rfl,?_⟩
   refine dc (st' := ⟨_,_,fun _=>none,upd (fun _=>none) 0 (some ⟨g_data,75,(x219.map (am 73 ae)),true⟩)⟩) (Gh.le (cy _ _) aM (aZ aL)) ?_
   refine ac ?_
   obtain rfl := az H
   refine fI (st' := ⟨220,fun _=>.any,fun _=>none,upd (fun _=>none) 0 (some ⟨g_data,75,(x219.map (am 73 ae)),true⟩)⟩) (Gh.le aW aM (aZ aL)) ?_
   refine mH rfl (PLe.q rfl) ⟨rfl,rfl⟩
  refine ap ?_
  obtain rfl := az H
  refine fI (st' := ⟨220,fun _=>.any,fun _=>none,upd (fun _=>none) 0 (some ⟨g_data,75,(t22.map (am 73 ae)),true⟩)⟩) (Gh.le aW aM (aZ aL)) ?_
  refine mH rfl (PLe.q rfl) ⟨rfl,rfl⟩
 refine ag 4 tk rfl (ac (bC rfl (ap ?_)))
 obtain rfl := az H
 refine fI (st' := ⟨220,fun _=>.any,fun _=>none,upd (fun _=>none) 0 (some ⟨g_data,75,(t22.map (am 73 ae)),true⟩)⟩) (Gh.le aW aM (aZ aL)) ?_
 refine mH rfl (PLe.q rfl) ⟨rfl,rfl⟩
def bu : Nat → Rz → Int → Int → Int → (Rq → Rq → Option (Int)) → Option (Rz)
 | 0,_,_,_,_,_=>none
 | n + 1,v0,v1,v2,v3,v4=>cF (fun b0 b1 b2 b3=>bu n b0 b1 b2 b3 v4) v0 v1 v2 v3 v4
theorem lW {g_cmp : FuncId} {caps_cmp : List PV} (cmp : Rq → Rq → Option (Int)) (hg_cmp : ∀ (vs : Array Value) (w : World),(callFunc g_cmp vs).run Tryz.prog w = .ok (.enter g_cmp vs) w) (hp_cmp : ∀ a0 a1 r,cmp a0 a1 = some r → aK Tryz.prog g_cmp ((.list 73 (a0.map ae)) :: (.list 73 (a1.map ae)) :: caps_cmp) (al r)) (n : Nat) : (∀ g0 a0 a1 a2 a3 r,bu n a0 a1 a2 a3 cmp = some r → PH Tryz.prog 293 [(.own 0 g0 (a0.map (am 73 ae)).length),(al a1),(al a2),(al a3),(.fn g_cmp caps_cmp)] ⟨fun _=>none,upd (fun _=>none) 0 (some ⟨g0,75,(a0.map (am 73 ae)),true⟩)⟩ (fun u H=>u = (.tup []) ∧ H = ⟨fun _=>none,upd (fun _=>none) 0 (some ⟨g0,75,(r.map (am 73 ae)),true⟩)⟩)) := by
 induction n with
 | zero=>exact (by intros; rename_i h; exact absurd (show (none : Option _) = some _ from h) (by simp))
 | succ n ih =>
  exact (fun g0 v0 v1 v2 v3 r h=>lS g0 (fun b0 b1 b2 b3=>bu n b0 b1 b2 b3 cmp) ih v0 v1 v2 v3 cmp hg_cmp hp_cmp r h)
def fC (data : Rz) (a : Int) (m : Int) (b : Int) (cmp : Rq → Rq → Option (Int)) : Option (Rz) := ir fun n=>bu n data a m b cmp
theorem jz (g_data : OwnRef) {g_cmp : FuncId} {caps_cmp : List PV} (data : Rz) (a : Int) (m : Int) (b : Int) (cmp : Rq → Rq → Option (Int)) (hg_cmp : ∀ (vs : Array Value) (w : World),(callFunc g_cmp vs).run Tryz.prog w = .ok (.enter g_cmp vs) w) (hp_cmp : ∀ a0 a1 r,cmp a0 a1 = some r → aK Tryz.prog g_cmp ((.list 73 (a0.map ae)) :: (.list 73 (a1.map ae)) :: caps_cmp) (al r)) (r : Rz) (H : fC data a m b cmp = some r) :
  PH Tryz.prog 293 [(.own 0 g_data (data.map (am 73 ae)).length),(al a),(al m),(al b),(.fn g_cmp caps_cmp)] ⟨fun _=>none,upd (fun _=>none) 0 (some ⟨g_data,75,(data.map (am 73 ae)),true⟩)⟩ (fun u H=>u = (.tup []) ∧ H = ⟨fun _=>none,upd (fun _=>none) 0 (some ⟨g_data,75,(r.map (am 73 ae)),true⟩)⟩) := by
 obtain ⟨n,h⟩ := iW H
 exact (lW cmp hg_cmp hp_cmp n) g_data data a m b r h
def ip (a : Rz) (b : Rz) : Option (Bool) :=
 af (cA a b (fun a0 a1=>gP a0 a1)) fun x7 =>
 some x7
theorem re (a : Rz) (b : Rz) (r : Bool) (H : ip a b = some r) :
  aK Tryz.prog 19 [(.list 75 (a.map (am 73 ae))),(.list 75 (b.map (am 73 ae)))] (aC r) := by
 unfold ip at H
 refine PH.au Tryz.func19 Tryz.ntmps19 ?_
 refine ao 1 tk rfl (ab (aa (ag 2 tk rfl ?_)))
 obtain ⟨x7,h7,H⟩ := av H
 have s7 := jd a b (fun a0 a1=>gP a0 a1) Tryz.call54 (fun a0 a1 r h=>qv a0 a1 r h) _ h7
 refine ak Tryz.call53 (jn.r) s7 ?_
 refine ah tk rfl (ac ?_)
 exact aY tk H rfl
def iv (a : LVal) (op : List UInt8) (b : LVal) : Bool × Int :=
 bv (
  cond (!(op == ([61] : List UInt8)))
   (cond (!(op == ([60] : List UInt8)))
    ((!(op == ([60,61] : List UInt8))))
    (false))
   (false)) fun (t1 : Bool) =>
 cond t1
  ((false,3))
  (bv (
   cond (a.kind == (0 : Int))
    (true)
    ((b.kind == (0 : Int)))) fun (t2 : Bool) =>
  cond t2
   ((true,0))
   (bv (kf a b) fun x29 =>
   cond (x29 == (0 : Int))
    (cond (!(op == ([60] : List UInt8)))
     ((true,0))
     (cond (decide (x29 < (0 : Int)))
      (((!(op == ([61] : List UInt8))),0))
      ((false,0))))
    (cond (decide (x29 < (0 : Int)))
     (((!(op == ([61] : List UInt8))),0))
     ((false,0)))))
theorem tH (a : LVal) (op : List UInt8) (b : LVal) :
  aK Tryz.prog 107 [(.agg (ae a)),(.str op),(.agg (ae b))] (.tup [(aC ((iv a op b).1)),(al ((iv a op b).2))]) := by
 obtain ⟨r,H⟩ : ∃ r,iv a op b = r := ⟨_,rfl⟩
 rw [H]
 unfold iv at H
 refine PH.au Tryz.func107 Tryz.ntmps107 ?_
 refine ab (aa (aE ?_))
 refine aE ?_
 refine ag 2 tk rfl (ac (ab (ab ?_)))
 refine gp (γ := Unit) (fun t1 g1=>⟨44,upd (upd (upd (upd (fun _=>.any) 18 (aC t1)) 5 (.ptr (ae b))) 3 (.ptr (ae a))) 1 (.str op),fun _=>none,fun _=>none⟩) H (fun _ H=>?_) (fun t1 g1 H=>?_)
 ·refine aa (ag 3 tk rfl ?_)
  refine bh rfl rfl rfl H (fun H=>?_) (fun H=>?_)
  ·refine ag 4 tk rfl ?_
   refine bh rfl rfl rfl H (fun H=>?_) (fun H=>?_)
   ·refine ag 3 tk rfl (ac ?_)
    refine aT _ () H Gh.d
   refine ag 3 tk rfl (ac ?_)
   refine aT _ () H Gh.d
  refine ag 7 tk rfl (ac ?_)
  refine aT _ () H Gh.d
 refine aF rfl H (fun H=>?_) (fun H=>?_)
 ·refine ao 2 tk rfl ?_
  exact eK tk H rfl
 refine ap (ab (ab ?_))
 refine gp (γ := Unit) (fun t2 g2=>⟨44,upd (upd (upd (upd (fun _=>.any) 26 (aC t2)) 5 (.ptr (ae b))) 3 (.ptr (ae a))) 1 (.str op),fun _=>none,fun _=>none⟩) H (fun _ H=>?_) (fun t2 g2 H=>?_)
 ·refine aa (ag 4 tk rfl ?_)
  refine bh rfl rfl rfl H (fun H=>?_) (fun H=>?_)
  ·refine ag 4 tk rfl (ac ?_)
   refine aT _ () H Gh.d
  refine ag 4 tk rfl (ac ?_)
  refine aT _ () H Gh.d
 refine aF rfl H (fun H=>?_) (fun H=>?_)
 ·refine ao 2 tk rfl ?_
  exact eK tk H rfl
 refine ap (ab (aa (ag 2 tk rfl ?_)))
 obtain ⟨x29,h29,H⟩ := cX H
 have s29 := qi a b
 rw [h29] at s29
 refine ak Tryz.call123 (jn.r) s29 ?_
 refine ah tk rfl (ac (ab (aa (ag 3 tk rfl ?_))))
 refine bh rfl rfl rfl H (fun H=>?_) (fun H=>?_)
 ·refine ag 4 tk rfl ?_
  refine bh rfl rfl rfl H (fun H=>?_) (fun H=>?_)
  ·refine ag 9 tk rfl (ac ?_)
   exact eK tk H rfl
  refine ag 3 tk rfl ?_
  refine bh rfl rfl rfl H (fun H=>?_) (fun H=>?_)
  ·refine ag 6 tk rfl (ac ?_)
   exact eK tk H rfl
  refine ag 6 tk rfl (ac ?_)
  exact eK tk H rfl
 refine ag 7 tk rfl ?_
 refine bh rfl rfl rfl H (fun H=>?_) (fun H=>?_)
 ·refine ag 6 tk rfl (ac ?_)
  exact eK tk H rfl
 refine ag 6 tk rfl (ac ?_)
 exact eK tk H rfl
def kV (q : LQuery) : Option (Bool) :=
 af (
  cond (decide (q.kind < (1 : Int)))
   (some true)
   (cond (decide (q.kind > (10 : Int)))
    (some true)
    (af (aJ ([(-1),0,1,1,2,2,2,2,1,1,1] : List Int) q.kind) fun (x21 : Int) =>
    some ((q.inputs.length : Int) != x21)))) fun (t1 : Bool) =>
 cond t1
  (some false)
  (af (
   af (dH ([1] : List Int) q) fun x29 =>
   cond (!x29)
    (some (!(q.table == ([] : List UInt8))))
    (some false)) fun (t2 : Bool) =>
  af (
   cond t2
    (some t2)
    (af (
     af (dH ([3,8] : List Int) q) fun x38 =>
     cond (!x38)
      (some (decide ((q.names.length : Int) > (0 : Int))))
      (some false)) fun (t7 : Bool) =>
    cond t7
     (some t7)
     (af (
      af (dH ([8] : List Int) q) fun x48 =>
      cond (!x48)
       (some (decide ((q.aggregates.length : Int) > (0 : Int))))
       (some false)) fun (t8 : Bool) =>
     cond t8
      (some t8)
      (af (
       af (dH ([9] : List Int) q) fun x58 =>
       cond (!x58)
        (some (decide ((q.descending.length : Int) > (0 : Int))))
        (some false)) fun (t9 : Bool) =>
      cond t9
       (some t9)
       (af (dH ([10] : List Int) q) fun x68 =>
       cond (!x68)
        (cond (q.count != (0 : Int))
         (some true)
         (some (q.offset != (0 : Int))))
        (some false)))))) fun (t6 : Bool) =>
  cond t6
   (some false)
   (af (dH ([2,4,5] : List Int) q) fun x83 =>
   cond x83
    (some ((q.exprs.length : Int) == (1 : Int)))
    (af (dH ([3,8] : List Int) q) fun x91 =>
    cond x91
     (cond ((q.exprs.length : Int) == (q.names.length : Int))
      (some (decide ((IntKind.i64.wrap ((q.exprs.length : Int) + (q.aggregates.length : Int))) > (0 : Int))))
      (some false))
     (af (dH ([9] : List Int) q) fun x112 =>
     cond x112
      (cond ((q.exprs.length : Int) == (q.descending.length : Int))
       (some (decide ((q.exprs.length : Int) > (0 : Int))))
       (some false))
      (af (dH ([10] : List Int) q) fun x129 =>
      cond x129
       (cond ((q.exprs.length : Int) == (0 : Int))
        (cond (decide (q.count ≥ (0 : Int)))
         (some (decide (q.offset ≥ (0 : Int))))
         (some false))
        (some false))
       (some ((q.exprs.length : Int) == (0 : Int))))))))
theorem W_query_shape (q : LQuery) (r : Bool) (H : kV q = some r) :
  aK Tryz.prog 168 [(.agg (aI q))] (aC r) := by
 unfold kV at H
 refine PH.au Tryz.func168 Tryz.ntmps168 ?_
 refine ab (aa (aE ?_))
 refine ah tk rfl (ac (ab (aa (vm (e := 3) (rows := [[(al (-1))],[(al 0)],[(al 1)],[(al 1)],[(al 2)],[(al 2)],[(al 2)],[(al 2)],[(al 1)],[(al 1)],[(al 1)]]) tk rfl rfl rfl rfl (rows' := List.map bG ([(-1),0,1,1,2,2,2,2,1,1,1] : List Int)) (by kernel_rfl) (gD.refl _) rfl rfl (ah tk rfl (ac (ab (ab ?_))))))))
 refine eO (γ := Unit) (fun t1 g1=>⟨148,upd (upd (fun _=>.any) 24 (aC t1)) 1 (.ptr (aI q)),fun _=>none,fun _=>none⟩) H (fun _ H=>?_) (fun t1 g1 H=>?_)
 ·refine bm tk mok ⟨false,false,[]⟩ [0,1,2,3,4,5,6,7,8,9,10,11,12,13,14,15,16,17,18] rfl (by decide +kernel) rfl (aN 4 rfl ?_)
  refine jK H (fun H=>?_) (fun H=>?_)
  ·refine aN 15 rfl (be ?_)
   refine aT _ () (az H) Gh.d
  refine aN 5 rfl ?_
  refine jK H (fun H=>?_) (fun H=>?_)
  ·refine aN 10 rfl (be ?_)
   refine aT _ () (az H) Gh.d
  refine aN 2 rfl (kH (zl _) ?_)
  refine aN 3 rfl ?_
  obtain ⟨x21,k21,H⟩ := bs H
  refine bE k21.1 (aP (fun _=>rfl) k21.2) ?_
  refine aN 3 rfl (be ?_)
  refine aT _ () (az H) Gh.d
 refine aF rfl H (fun H=>?_) (fun H=>?_)
 ·refine ao 1 tk rfl ?_
  exact aY tk H rfl
 refine ap (ao 2 tk rfl (ab (aw (ab (ab ?_)))))
 refine eO (γ := Unit) (fun t2 g2=>⟨148,upd (upd (upd (fun _=>.any) 26 (aC t2)) 4 (.fn 229 [(.ptr (aI q))])) 1 (.ptr (aI q)),fun _=>none,fun _=>none⟩) H (fun _ H=>?_) (fun t2 g2 H=>?_)
 ·refine aa (ah tk rfl (cn tk (rows' := List.map bG ([1] : List Int)) (gD.refl _) ?_))
  obtain ⟨x29,h29,H⟩ := av H
  have s29 := fS ([1] : List Int) q _ h29
  refine ak Tryz.call229 (jn.r) s29 ?_
  refine ag 2 tk rfl ?_
  refine bh rfl rfl rfl H (fun H=>?_) (fun H=>?_)
  ·refine ag 5 tk rfl (ac ?_)
   refine aT _ () (az H) Gh.d
  refine ag 5 tk rfl (ac ?_)
  refine aT _ () (az H) Gh.d
 refine eO (γ := Unit) (fun t6 g6=>⟨148,upd (upd (upd (fun _=>.any) 26 (aC t6)) 4 (.fn 229 [(.ptr (aI q))])) 1 (.ptr (aI q)),fun _=>none,fun _=>none⟩) H (fun _ H=>?_) (fun t6 g6 H=>?_)
 ·refine aF rfl H (fun H=>?_) (fun H=>?_)
  ·refine ap ?_
   refine aT _ () (az H) Gh.d
  refine ab ?_
  refine eO (γ := Unit) (fun t7 g7=>⟨148,upd (upd (upd (fun _=>.any) 26 (aC t7)) 4 (.fn 229 [(.ptr (aI q))])) 1 (.ptr (aI q)),fun _=>none,fun _=>none⟩) H (fun _ H=>?_) (fun t7 g7 H=>?_)
  ·refine aa (ah tk rfl (cn tk (rows' := List.map bG ([3,8] : List Int)) (gD.refl _) ?_))
   obtain ⟨x38,h38,H⟩ := av H
   have s38 := fS ([3,8] : List Int) q _ h38
   refine ak Tryz.call229 (jn.r) s38 ?_
   refine ag 2 tk rfl ?_
   refine bh rfl rfl rfl H (fun H=>?_) (fun H=>?_)
   ·refine ag 2 tk rfl (aA tk (zl _) ?_)
    refine ag 3 tk rfl (ac ?_)
    refine aT _ () (az H) Gh.d
   refine ag 6 tk rfl (ac ?_)
   refine aT _ () (az H) Gh.d
  refine aF rfl H (fun H=>?_) (fun H=>?_)
  ·refine ap ?_
   refine aT _ () (az H) Gh.d
  refine ab ?_
  refine eO (γ := Unit) (fun t8 g8=>⟨148,upd (upd (upd (fun _=>.any) 26 (aC t8)) 4 (.fn 229 [(.ptr (aI q))])) 1 (.ptr (aI q)),fun _=>none,fun _=>none⟩) H (fun _ H=>?_) (fun t8 g8 H=>?_)
  ·refine aa (ah tk rfl (cn tk (rows' := List.map bG ([8] : List Int)) (gD.refl _) ?_))
   obtain ⟨x48,h48,H⟩ := av H
   have s48 := fS ([8] : List Int) q _ h48
   refine ak Tryz.call229 (jn.r) s48 ?_
   refine ag 2 tk rfl ?_
   refine bh rfl rfl rfl H (fun H=>?_) (fun H=>?_)
   ·refine ag 2 tk rfl (aA tk (zl _) ?_)
    refine ag 3 tk rfl (ac ?_)
    refine aT _ () (az H) Gh.d
   refine ag 6 tk rfl (ac ?_)
   refine aT _ () (az H) Gh.d
  refine aF rfl H (fun H=>?_) (fun H=>?_)
  ·refine ap ?_
   refine aT _ () (az H) Gh.d
  refine ab ?_
  refine eO (γ := Unit) (fun t9 g9=>⟨148,upd (upd (upd (fun _=>.any) 26 (aC t9)) 4 (.fn 229 [(.ptr (aI q))])) 1 (.ptr (aI q)),fun _=>none,fun _=>none⟩) H (fun _ H=>?_) (fun t9 g9 H=>?_)
  ·refine aa (ah tk rfl (cn tk (rows' := List.map bG ([9] : List Int)) (gD.refl _) ?_))
   obtain ⟨x58,h58,H⟩ := av H
   have s58 := fS ([9] : List Int) q _ h58
   refine ak Tryz.call229 (jn.r) s58 ?_
   refine ag 2 tk rfl ?_
   refine bh rfl rfl rfl H (fun H=>?_) (fun H=>?_)
   ·refine ag 2 tk rfl (aA tk (zl _) ?_)
    refine ag 3 tk rfl (ac ?_)
    refine aT _ () (az H) Gh.d
   refine ag 6 tk rfl (ac ?_)
   refine aT _ () (az H) Gh.d
  refine aF rfl H (fun H=>?_) (fun H=>?_)
  ·refine ap ?_
   refine aT _ () (az H) Gh.d
  refine aa (ah tk rfl (cn tk (rows' := List.map bG ([10] : List Int)) (gD.refl _) ?_))
  obtain ⟨x68,h68,H⟩ := av H
  have s68 := fS ([10] : List Int) q _ h68
  refine ak Tryz.call229 (jn.r) s68 ?_
  refine ag 2 tk rfl ?_
  refine bh rfl rfl rfl H (fun H=>?_) (fun H=>?_)
  ·refine ag 4 tk rfl ?_
   refine bh rfl rfl rfl H (fun H=>?_) (fun H=>?_)
   ·refine ag 6 tk rfl (ac ?_)
    refine aT _ () (az H) Gh.d
   refine ag 6 tk rfl (ac ?_)
   refine aT _ () (az H) Gh.d
  refine ag 10 tk rfl (ac ?_)
  refine aT _ () (az H) Gh.d
 refine aF rfl H (fun H=>?_) (fun H=>?_)
 ·refine ao 1 tk rfl ?_
  exact aY tk H rfl
 refine ab (aa (ah tk rfl (cn tk (rows' := List.map bG ([2,4,5] : List Int)) (gD.refl _) ?_)))
 obtain ⟨x83,h83,H⟩ := av H
 have s83 := fS ([2,4,5] : List Int) q _ h83
 refine ak Tryz.call229 (jn.r) s83 ?_
 refine ah tk rfl (ac ?_)
 refine aF rfl H (fun H=>?_) (fun H=>?_)
 ·refine ab (aa (ag 2 tk rfl (aA tk (zl _) ?_)))
  refine ag 2 tk rfl (ac ?_)
  exact aY tk H rfl
 refine ab (aa (ah tk rfl (cn tk (rows' := List.map bG ([3,8] : List Int)) (gD.refl _) ?_)))
 obtain ⟨x91,h91,H⟩ := av H
 have s91 := fS ([3,8] : List Int) q _ h91
 refine ak Tryz.call229 (jn.r) s91 ?_
 refine ah tk rfl (ac ?_)
 refine aF rfl H (fun H=>?_) (fun H=>?_)
 ·refine ab (aa (ag 2 tk rfl (aA tk (zl _) ?_)))
  refine ag 2 tk rfl (aA tk (zl _) ?_)
  refine ag 2 tk rfl ?_
  refine bh rfl rfl rfl H (fun H=>?_) (fun H=>?_)
  ·refine ag 2 tk rfl (aA tk (zl _) ?_)
   refine ag 2 tk rfl (aA tk (zl _) ?_)
   refine ag 4 tk rfl (ac ?_)
   exact aY tk H rfl
  refine ag 10 tk rfl (ac ?_)
  exact aY tk H rfl
 refine ab (aa (ah tk rfl (cn tk (rows' := List.map bG ([9] : List Int)) (gD.refl _) ?_)))
 obtain ⟨x112,h112,H⟩ := av H
 have s112 := fS ([9] : List Int) q _ h112
 refine ak Tryz.call229 (jn.r) s112 ?_
 refine ah tk rfl (ac ?_)
 refine aF rfl H (fun H=>?_) (fun H=>?_)
 ·refine ab (aa (ag 2 tk rfl (aA tk (zl _) ?_)))
  refine ag 2 tk rfl (aA tk (zl _) ?_)
  refine ag 2 tk rfl ?_
  refine bh rfl rfl rfl H (fun H=>?_) (fun H=>?_)
  ·refine ag 2 tk rfl (aA tk (zl _) ?_)
   refine ag 3 tk rfl (ac ?_)
   exact aY tk H rfl
  refine ag 6 tk rfl (ac ?_)
  exact aY tk H rfl
 refine ab (aa (ah tk rfl (cn tk (rows' := List.map bG ([10] : List Int)) (gD.refl _) ?_)))
 obtain ⟨x129,h129,H⟩ := av H
 have s129 := fS ([10] : List Int) q _ h129
 refine ak Tryz.call229 (jn.r) s129 ?_
 refine ah tk rfl (ac ?_)
 refine aF rfl H (fun H=>?_) (fun H=>?_)
 ·refine ab (aa (ag 2 tk rfl (aA tk (zl _) ?_)))
  refine ag 2 tk rfl ?_
  refine bh rfl rfl rfl H (fun H=>?_) (fun H=>?_)
  ·refine ag 5 tk rfl ?_
   refine bh rfl rfl rfl H (fun H=>?_) (fun H=>?_)
   ·refine ag 5 tk rfl (ac ?_)
    exact aY tk H rfl
   refine ag 5 tk rfl (ac ?_)
   exact aY tk H rfl
  refine ag 10 tk rfl (ac ?_)
  exact aY tk H rfl
 refine ap (aG (ab (aa (ag 2 tk rfl (aA tk (zl _) ?_)))))
 refine ag 2 tk rfl (ac ?_)
 exact aY tk H rfl
def cL (c : LChecker) (l : List LCol) (e : LExpr) : Int :=
 bv (cK l c.vars e) fun x15 =>
 cond (x15.2.2 == (0 : Int))
  (cond (x15.1 != (2 : Int))
   (cond (x15.1 != (0 : Int))
    (7)
    (x15.2.2))
   (x15.2.2))
  (x15.2.2)
theorem ll (c : LChecker) (l : List LCol) (e : LExpr) :
  aK Tryz.prog 231 [(.agg (eF c)),(.list 68 (l.map ay)),(.agg (jB e))] (al (cL c l e)) := by
 obtain ⟨r,H⟩ : ∃ r,cL c l e = r := ⟨_,rfl⟩
 rw [H]
 unfold cL at H
 refine PH.au Tryz.func231 Tryz.ntmps231 ?_
 refine ab (aa (aE ?_))
 refine aE ?_
 refine ah tk rfl (ac (ab (aa (ag 4 tk rfl ?_))))
 obtain ⟨x15,h15,H⟩ := cX H
 have s15 := nQ l c.vars e
 rw [h15] at s15
 refine ak Tryz.call132 (jn.r) s15 ?_
 refine ag 7 tk rfl (ac (ab (ab (aa (ag 3 tk rfl ?_)))))
 refine bh rfl rfl rfl H (fun H=>?_) (fun H=>?_)
 ·refine ag 4 tk rfl ?_
  refine bh rfl rfl rfl H (fun H=>?_) (fun H=>?_)
  ·refine ag 3 tk rfl (ac ?_)
   refine aF rfl H (fun H=>?_) (fun H=>?_)
   ·refine ao 1 tk rfl ?_
    exact eK tk H rfl
   refine ap (ao 2 tk rfl ?_)
   exact eK tk H rfl
  refine ag 3 tk rfl (ac (bC rfl (ap (ao 2 tk rfl ?_))))
  exact eK tk H rfl
 refine ag 7 tk rfl (ac (bC rfl (ap (ao 2 tk rfl ?_))))
 exact eK tk H rfl
def gH (c : LChecker) (inA : List LCol) (a : LAggregateCall) : Option (Int × Int) :=
 af (
  bv (dD a.name) fun x13 =>
  cond (!x13)
   (some true)
   (af (ef ([[99,111,117,110,116],[115,117,109],[109,105,110],[109,97,120]] : List (List UInt8)) a.function) fun x19 =>
   cond (!x19)
    (some true)
    (cond (decide ((a.args.length : Int) > (1 : Int)))
     (some true)
     (cond (decide ((a.args.length : Int) < (1 : Int)))
      (some (!(a.function == ([99,111,117,110,116] : List UInt8))))
      (some false))))) fun (t1 : Bool) =>
 cond t1
  (some (0,3))
  (cond ((a.args.length : Int) == (0 : Int))
   (some (1,0))
   (af (aJ a.args 0) fun (x49 : LExpr) =>
   bv (cK inA c.vars x49) fun x51 =>
   cond (x51.2.2 != (0 : Int))
    (some (0,x51.2.2))
    (bv (
     cond (x51.1 == (0 : Int))
      (true)
      (cond (a.function == ([115,117,109] : List UInt8))
       ((x51.1 != (1 : Int)))
       (false))) fun (t2 : Bool) =>
    cond t2
     (some (0,7))
     (cond (a.function == ([99,111,117,110,116] : List UInt8))
      (some (1,0))
      (some (x51.1,0))))))
theorem sg (c : LChecker) (inA : List LCol) (a : LAggregateCall) (r : Int × Int) (H : gH c inA a = some r) :
  aK Tryz.prog 267 [(.agg (eF c)),(.list 68 (inA.map ay)),(.agg (li a))] (.tup [(al r.1),(al r.2)]) := by
 unfold gH at H
 refine PH.au Tryz.func267 Tryz.ntmps267 ?_
 refine ab (aa (aE ?_))
 refine aE ?_
 refine ag 2 tk rfl (ac (ab (ab ?_)))
 refine eO (γ := Unit) (fun t1 g1=>⟨76,upd (upd (upd (upd (fun _=>.any) 38 (aC t1)) 5 (.ptr (li a))) 3 (.ptr (eF c))) 1 (.list 68 (inA.map ay)),fun _=>none,fun _=>none⟩) H (fun _ H=>?_) (fun t1 g1 H=>?_)
 ·refine aa (ag 2 tk rfl ?_)
  obtain ⟨x13,h13,H⟩ := cX H
  have s13 := mU a.name
  rw [h13] at s13
  refine ak Tryz.call127 (jn.r) s13 ?_
  refine ag 2 tk rfl ?_
  refine bh rfl rfl rfl H (fun H=>?_) (fun H=>?_)
  ·refine ag 23 tk rfl (ac ?_)
   refine aT _ () (az H) Gh.d
  refine cn tk (rows' := List.map mi ([[99,111,117,110,116],[115,117,109],[109,105,110],[109,97,120]] : List (List UInt8))) (gD.refl _) ?_
  refine ag 2 tk rfl ?_
  obtain ⟨x19,h19,H⟩ := av H
  have s19 := ml ([[99,111,117,110,116],[115,117,109],[109,105,110],[109,97,120]] : List (List UInt8)) a.function _ h19
  refine ak Tryz.call38 (jn.r) s19 ?_
  refine ag 3 tk rfl ?_
  refine bh rfl rfl rfl H (fun H=>?_) (fun H=>?_)
  ·refine ag 16 tk rfl (ac ?_)
   refine aT _ () (az H) Gh.d
  refine ag 2 tk rfl (aA tk (zl _) ?_)
  refine ag 3 tk rfl ?_
  refine bh rfl rfl rfl H (fun H=>?_) (fun H=>?_)
  ·refine ag 10 tk rfl (ac ?_)
   refine aT _ () (az H) Gh.d
  refine ag 2 tk rfl (aA tk (zl _) ?_)
  refine ag 2 tk rfl ?_
  refine bh rfl rfl rfl H (fun H=>?_) (fun H=>?_)
  ·refine ag 5 tk rfl (ac ?_)
   refine aT _ () (az H) Gh.d
  refine ag 5 tk rfl (ac ?_)
  refine aT _ () (az H) Gh.d
 refine aF rfl H (fun H=>?_) (fun H=>?_)
 ·refine ao 2 tk rfl ?_
  exact aY tk H rfl
 refine ap (ab (ab (aa (ag 2 tk rfl (aA tk (zl _) ?_)))))
 refine ah tk rfl (ac ?_)
 refine aF rfl H (fun H=>?_) (fun H=>?_)
 ·refine ao 2 tk rfl ?_
  exact aY tk H rfl
 refine ap (ab (bm tk mok ⟨false,false,[]⟩ [0,1,2,3,4,5,6,7,8,9,10,11,12,13,14] rfl (by decide +kernel) rfl (aN 5 rfl ?_)))
 obtain ⟨x49,k49,H⟩ := bs H
 refine bE k49.1 (aP eS k49.2) ?_
 refine bV rfl ?_
 obtain ⟨x51,h51,H⟩ := cX H
 have s51 := nQ inA c.vars x49
 rw [h51] at s51
 refine aV Tryz.call132 (jn.r) s51 ?_
 refine aN 7 rfl (be (ab (aw (ao 3 tk rfl ?_))))
 refine aF rfl H (fun H=>?_) (fun H=>?_)
 ·refine ao 3 tk rfl ?_
  exact aY tk H rfl
 refine ab ?_
 refine gp (γ := Unit) (fun t2 g2=>⟨76,upd (upd (upd (fun _=>.any) 59 (aC t2)) 8 (al x51.1)) 5 (.ptr (li a)),fun _=>none,fun _=>none⟩) H (fun _ H=>?_) (fun t2 g2 H=>?_)
 ·refine aa (ag 3 tk rfl ?_)
  refine bh rfl rfl rfl H (fun H=>?_) (fun H=>?_)
  ·refine ag 9 tk rfl (ac ?_)
   refine aT _ () H Gh.d
  refine ag 4 tk rfl ?_
  refine bh rfl rfl rfl H (fun H=>?_) (fun H=>?_)
  ·refine ag 5 tk rfl (ac ?_)
   refine aT _ () H Gh.d
  refine ag 5 tk rfl (ac ?_)
  refine aT _ () H Gh.d
 refine aF rfl H (fun H=>?_) (fun H=>?_)
 ·refine ao 2 tk rfl ?_
  exact aY tk H rfl
 refine ao 4 tk rfl ?_
 refine aF rfl H (fun H=>?_) (fun H=>?_)
 ·refine ao 2 tk rfl ?_
  exact aY tk H rfl
 refine ap (aG (ao 3 tk rfl ?_))
 exact aY tk H rfl
def ep (a : Rq) (b : Rq) : Option (Int) :=
 af (nZ (if (b.length : Int) < (a.length : Int) then (b.length : Int) else (a.length : Int))) fun (n1 : Nat) =>
 af (aH (σ := Unit) (ρ := (Int)) (fun (j1 : Nat) (_ : Nat) (_ : Unit) =>
  af (aJ a (j1 : Int)) fun (x17 : LVal) =>
  af (aJ b (j1 : Int)) fun (x21 : LVal) =>
  bv (kf x17 x21) fun x23 =>
  cond (x23 != (0 : Int))
   (some (.ret x23))
   (some (.next ()))) 0 (List.range n1) ()) fun fl1=>fl1.thenR fun (_ : Unit) =>
 bv (gK (a.length : Int) (b.length : Int)) fun x32 =>
 some x32
theorem sj (a : Rq) (b : Rq) (r : Int) (H : ep a b = some r) :
  aK Tryz.prog 88 [(.list 73 (a.map ae)),(.list 73 (b.map ae))] (al r) := by
 unfold ep at H
 refine PH.au Tryz.func88 Tryz.ntmps88 ?_
 refine ao 1 tk rfl (ab (ab (aa (ah tk rfl (aA tk (zl _) ?_)))))
 refine ah tk rfl (aA tk (zl _) ?_)
 refine ag 2 tk rfl (ac ?_)
 obtain ⟨n1,hs1,H⟩ := av H
 have hz1 := nP hs1
 obtain ⟨fl1,H1,Hp1⟩ := av H
 refine fY (τ := Unit) (γ := Unit) (fun s1 g1=>⟨33,upd (upd (fun _=>.any) 1 (.list 73 (b.map ae))) 0 (.list 73 (a.map ae)),fun _=>none,fun _=>none⟩) (fun t=>fl1 = .next t) ?_ (fun s1 g1 hn1=>?_)
 ·refine aw ?_
  refine jC (fun j1 s1 g1=>⟨33,upd (upd (upd (upd (fun _=>.any) 12 (al (j1 : Int))) 11 (al (if (b.length : Int) < (a.length : Int) then (b.length : Int) else (a.length : Int)))) 1 (.list 73 (b.map ae))) 0 (.list 73 (a.map ae)),fun _=>none,fun _=>none⟩) () H1 Gh.d (fun j1 s1 g1 hj1 hr1=>?_)
  refine ao 1 tk rfl (ab ?_)
  refine br rfl (fun h=>?_) (fun h=>?_)
  ·have hl1 := natLt hz1 h
   obtain ⟨x1,fb1,hx1,H,hg1⟩ := rMc hl1 hr1
   obtain rfl := natX hx1
   refine ap (ab (aw (ao 2 tk rfl (ab (bm tk mok ⟨false,false,[]⟩ [0,1,2,3,4,5,6,7,8,9] rfl (by decide +kernel) rfl (aN 2 rfl ?_))))))
   obtain ⟨x17,k17,H⟩ := bs H
   refine bE k17.1 (aP (fun _=>rfl) k17.2) ?_
   refine aN 3 rfl ?_
   obtain ⟨x21,k21,H⟩ := bs H
   refine bE k21.1 (aP (fun _=>rfl) k21.2) ?_
   refine bV rfl ?_
   obtain ⟨x23,h23,H⟩ := cX H
   have s23 := qi x17 x21
   rw [h23] at s23
   refine aV Tryz.call123 (jn.r) s23 ?_
   refine bV rfl (be (ao 2 tk rfl ?_))
   refine aF rfl H (fun H=>?_) (fun H=>?_)
   ·refine ao 2 tk rfl ?_
    obtain rfl := az H
    have e1 : fl1 = .ret _ := hg1
    subst e1
    obtain rfl := aS Hp1
    refine ba tk rfl (ps := [(al x23)]) ⟨_,_,rfl,rfl,rfl⟩ (PLe.q rfl)
   refine ap (aG (bc 2 tk rfl ?_))
   exact bl () H hl1 hg1 (Gh.le (ax (ax (ax (bJ (PLe.q (pe hz1 hl1)) aW)))) aM aL)
  have hn1 := rMd (natGe hz1 h) hr1
  refine bq rfl ?_
  refine aT s1 g1 hn1 Gh.d
 have H := oP hn1 Hp1
 refine ab (aa (ah tk rfl (aA tk (zl _) ?_)))
 refine ah tk rfl (aA tk (zl _) ?_)
 obtain ⟨x32,h32,H⟩ := cX H
 have s32 := lf (a.length : Int) (b.length : Int)
 rw [h32] at s32
 refine ak Tryz.call124 (jn.r) s32 ?_
 refine ah tk rfl (ac ?_)
 exact aY tk H rfl
def jk (sA : LProcedureStatement) : Option (Bool) :=
 bv (
  cond (decide (sA.kind < (1 : Int)))
   (true)
   ((decide (sA.kind > (9 : Int))))) fun (t1 : Bool) =>
 af (
  cond t1
   (some t1)
   (af (bW ([1] : List Int) sA) fun x16 =>
   cond (!(x16 == (!(sA.name == ([] : List UInt8)))))
    (some (!(x16 == (!(sA.name == ([] : List UInt8))))))
    (af (bW ([4,5,6] : List Int) sA) fun x23 =>
    cond (!(x23 == (!(sA.table == ([] : List UInt8)))))
     (some (!(x23 == (!(sA.table == ([] : List UInt8))))))
     (af (
      af (bW ([3,7] : List Int) sA) fun x30 =>
      cond (!(x30 == ((sA.query.length : Int) == (1 : Int))))
       (some true)
       (some (decide ((sA.query.length : Int) > (1 : Int))))) fun (t8 : Bool) =>
     cond t8
      (some t8)
      (af (
       af (bW ([5,6] : List Int) sA) fun x44 =>
       cond (!(x44 == ((sA.whereF.length : Int) == (1 : Int))))
        (some true)
        (some (decide ((sA.whereF.length : Int) > (1 : Int))))) fun (t9 : Bool) =>
      cond t9
       (some t9)
       (af (
        af (bW ([8] : List Int) sA) fun x58 =>
        cond (!x58)
         (some (sA.code != (0 : Int)))
         (some false)) fun (t10 : Bool) =>
       cond t10
        (some t10)
        (af (
         af (bW ([2,3] : List Int) sA) fun x67 =>
         cond (!x67)
          (some (decide ((sA.body.length : Int) > (0 : Int))))
          (some false)) fun (t11 : Bool) =>
        cond t11
         (some t11)
         (af (
          af (bW ([2] : List Int) sA) fun x77 =>
          cond (!x77)
           (some (decide ((sA.elseF.length : Int) > (0 : Int))))
           (some false)) fun (t12 : Bool) =>
         cond t12
          (some t12)
          (af (bW ([5] : List Int) sA) fun x87 =>
          cond (!x87)
           (some (decide ((sA.names.length : Int) > (0 : Int))))
           (some false)))))))))) fun (t7 : Bool) =>
 cond t7
  (some false)
  (af (bW ([1,2] : List Int) sA) fun x98 =>
  cond x98
   (some ((sA.exprs.length : Int) == (1 : Int)))
   (af (bW ([5] : List Int) sA) fun x106 =>
   cond x106
    (cond ((sA.exprs.length : Int) == (sA.names.length : Int))
     (some (decide ((sA.names.length : Int) > (0 : Int))))
     (some false))
    (af (bW ([8] : List Int) sA) fun x123 =>
    cond x123
     (cond (decide (sA.code ≥ (1 : Int)))
      (some (decide (sA.code ≤ (100 : Int))))
      (some false))
     (af (bW ([4] : List Int) sA) fun x134 =>
     cond x134
      (some true)
      (some ((sA.exprs.length : Int) == (0 : Int)))))))
theorem tU (sA : LProcedureStatement) (r : Bool) (H : jk sA = some r) :
  aK Tryz.prog 90 [(.agg (aR sA))] (aC r) := by
 unfold jk at H
 refine PH.au Tryz.func90 Tryz.ntmps90 ?_
 refine ab (aa (aE ?_))
 refine ah tk rfl (ac (ao 2 tk rfl (ab (aw (ab (ab ?_))))))
 refine gp (γ := Unit) (fun t1 g1=>⟨141,upd (upd (upd (fun _=>.any) 5 (aC t1)) 3 (.fn 125 [(.ptr (aR sA))])) 1 (.ptr (aR sA)),fun _=>none,fun _=>none⟩) H (fun _ H=>?_) (fun t1 g1 H=>?_)
 ·refine aa (ag 4 tk rfl ?_)
  refine bh rfl rfl rfl H (fun H=>?_) (fun H=>?_)
  ·refine ag 5 tk rfl (ac ?_)
   refine aT _ () H Gh.d
  refine ag 5 tk rfl (ac ?_)
  refine aT _ () H Gh.d
 refine eO (γ := Unit) (fun t7 g7=>⟨141,upd (upd (upd (fun _=>.any) 5 (aC t7)) 3 (.fn 125 [(.ptr (aR sA))])) 1 (.ptr (aR sA)),fun _=>none,fun _=>none⟩) H (fun _ H=>?_) (fun t7 g7 H=>?_)
 ·refine aF rfl H (fun H=>?_) (fun H=>?_)
  ·refine ap ?_
   refine aT _ () (az H) Gh.d
  refine ab (bm tk mok ⟨false,false,[]⟩ [0,1,3,4,5,2,6,7] rfl (by decide +kernel) rfl (aN 5 rfl ?_))
  obtain ⟨x16,h16,H⟩ := av H
  have s16 := cN ([1] : List Int) sA _ h16
  refine aV Tryz.call125 (jn.r) s16 ?_
  refine aN 2 rfl (be ?_)
  refine aF rfl H (fun H=>?_) (fun H=>?_)
  ·refine ap ?_
   refine aT _ () (az H) Gh.d
  refine ab (bm tk mok ⟨false,false,[]⟩ [0,1,3,4,5,2,6,7] rfl (by decide +kernel) rfl (aN 5 rfl ?_))
  obtain ⟨x23,h23,H⟩ := av H
  have s23 := cN ([4,5,6] : List Int) sA _ h23
  refine aV Tryz.call125 (jn.r) s23 ?_
  refine aN 2 rfl (be ?_)
  refine aF rfl H (fun H=>?_) (fun H=>?_)
  ·refine ap ?_
   refine aT _ () (az H) Gh.d
  refine ab ?_
  refine eO (γ := Unit) (fun t8 g8=>⟨141,upd (upd (upd (fun _=>.any) 5 (aC t8)) 3 (.fn 125 [(.ptr (aR sA))])) 1 (.ptr (aR sA)),fun _=>none,fun _=>none⟩) H (fun _ H=>?_) (fun t8 g8 H=>?_)
  ·refine bm tk mok ⟨false,false,[]⟩ [0,1,3,4,5,6,2,7,8,9,10,11,12,13,14] rfl (by decide +kernel) rfl (aN 4 rfl (kH (zl _) ?_))
   refine bV rfl ?_
   obtain ⟨x30,h30,H⟩ := av H
   have s30 := cN ([3,7] : List Int) sA _ h30
   refine aV Tryz.call125 (jn.r) s30 ?_
   refine aN 2 rfl ?_
   refine jK H (fun H=>?_) (fun H=>?_)
   ·refine aN 6 rfl (be ?_)
    refine aT _ () (az H) Gh.d
   refine aN 2 rfl (kH (zl _) ?_)
   refine aN 3 rfl (be ?_)
   refine aT _ () (az H) Gh.d
  refine aF rfl H (fun H=>?_) (fun H=>?_)
  ·refine ap ?_
   refine aT _ () (az H) Gh.d
  refine ab ?_
  refine eO (γ := Unit) (fun t9 g9=>⟨141,upd (upd (upd (fun _=>.any) 5 (aC t9)) 3 (.fn 125 [(.ptr (aR sA))])) 1 (.ptr (aR sA)),fun _=>none,fun _=>none⟩) H (fun _ H=>?_) (fun t9 g9 H=>?_)
  ·refine bm tk mok ⟨false,false,[]⟩ [0,1,3,4,5,6,2,7,8,9,10,11,12,13,14] rfl (by decide +kernel) rfl (aN 4 rfl (kH (zl _) ?_))
   refine bV rfl ?_
   obtain ⟨x44,h44,H⟩ := av H
   have s44 := cN ([5,6] : List Int) sA _ h44
   refine aV Tryz.call125 (jn.r) s44 ?_
   refine aN 2 rfl ?_
   refine jK H (fun H=>?_) (fun H=>?_)
   ·refine aN 6 rfl (be ?_)
    refine aT _ () (az H) Gh.d
   refine aN 2 rfl (kH (zl _) ?_)
   refine aN 3 rfl (be ?_)
   refine aT _ () (az H) Gh.d
  refine aF rfl H (fun H=>?_) (fun H=>?_)
  ·refine ap ?_
   refine aT _ () (az H) Gh.d
  refine ab ?_
  refine eO (γ := Unit) (fun t10 g10=>⟨141,upd (upd (upd (fun _=>.any) 5 (aC t10)) 3 (.fn 125 [(.ptr (aR sA))])) 1 (.ptr (aR sA)),fun _=>none,fun _=>none⟩) H (fun _ H=>?_) (fun t10 g10 H=>?_)
  ·refine aa (ah tk rfl (cn tk (rows' := List.map bG ([8] : List Int)) (gD.refl _) ?_))
   obtain ⟨x58,h58,H⟩ := av H
   have s58 := cN ([8] : List Int) sA _ h58
   refine ak Tryz.call125 (jn.r) s58 ?_
   refine ag 2 tk rfl ?_
   refine bh rfl rfl rfl H (fun H=>?_) (fun H=>?_)
   ·refine ag 5 tk rfl (ac ?_)
    refine aT _ () (az H) Gh.d
   refine ag 5 tk rfl (ac ?_)
   refine aT _ () (az H) Gh.d
  refine aF rfl H (fun H=>?_) (fun H=>?_)
  ·refine ap ?_
   refine aT _ () (az H) Gh.d
  refine ab ?_
  refine eO (γ := Unit) (fun t11 g11=>⟨141,upd (upd (upd (fun _=>.any) 5 (aC t11)) 3 (.fn 125 [(.ptr (aR sA))])) 1 (.ptr (aR sA)),fun _=>none,fun _=>none⟩) H (fun _ H=>?_) (fun t11 g11 H=>?_)
  ·refine aa (ah tk rfl (cn tk (rows' := List.map bG ([2,3] : List Int)) (gD.refl _) ?_))
   obtain ⟨x67,h67,H⟩ := av H
   have s67 := cN ([2,3] : List Int) sA _ h67
   refine ak Tryz.call125 (jn.r) s67 ?_
   refine ag 2 tk rfl ?_
   refine bh rfl rfl rfl H (fun H=>?_) (fun H=>?_)
   ·refine ag 2 tk rfl (aA tk (zl _) ?_)
    refine ag 3 tk rfl (ac ?_)
    refine aT _ () (az H) Gh.d
   refine ag 6 tk rfl (ac ?_)
   refine aT _ () (az H) Gh.d
  refine aF rfl H (fun H=>?_) (fun H=>?_)
  ·refine ap ?_
   refine aT _ () (az H) Gh.d
  refine ab ?_
  refine eO (γ := Unit) (fun t12 g12=>⟨141,upd (upd (upd (fun _=>.any) 5 (aC t12)) 3 (.fn 125 [(.ptr (aR sA))])) 1 (.ptr (aR sA)),fun _=>none,fun _=>none⟩) H (fun _ H=>?_) (fun t12 g12 H=>?_)
  ·refine aa (ah tk rfl (cn tk (rows' := List.map bG ([2] : List Int)) (gD.refl _) ?_))
   obtain ⟨x77,h77,H⟩ := av H
   have s77 := cN ([2] : List Int) sA _ h77
   refine ak Tryz.call125 (jn.r) s77 ?_
   refine ag 2 tk rfl ?_
   refine bh rfl rfl rfl H (fun H=>?_) (fun H=>?_)
   ·refine ag 2 tk rfl (aA tk (zl _) ?_)
    refine ag 3 tk rfl (ac ?_)
    refine aT _ () (az H) Gh.d
   refine ag 6 tk rfl (ac ?_)
   refine aT _ () (az H) Gh.d
  refine aF rfl H (fun H=>?_) (fun H=>?_)
  ·refine ap ?_
   refine aT _ () (az H) Gh.d
  refine aa (ah tk rfl (cn tk (rows' := List.map bG ([5] : List Int)) (gD.refl _) ?_))
  obtain ⟨x87,h87,H⟩ := av H
  have s87 := cN ([5] : List Int) sA _ h87
  refine ak Tryz.call125 (jn.r) s87 ?_
  refine ag 2 tk rfl ?_
  refine bh rfl rfl rfl H (fun H=>?_) (fun H=>?_)
  ·refine ag 2 tk rfl (aA tk (zl _) ?_)
   refine ag 3 tk rfl (ac ?_)
   refine aT _ () (az H) Gh.d
  refine ag 6 tk rfl (ac ?_)
  refine aT _ () (az H) Gh.d
 refine aF rfl H (fun H=>?_) (fun H=>?_)
 ·refine ao 1 tk rfl ?_
  exact aY tk H rfl
 refine ab (aa (ah tk rfl (cn tk (rows' := List.map bG ([1,2] : List Int)) (gD.refl _) ?_)))
 obtain ⟨x98,h98,H⟩ := av H
 have s98 := cN ([1,2] : List Int) sA _ h98
 refine ak Tryz.call125 (jn.r) s98 ?_
 refine ah tk rfl (ac ?_)
 refine aF rfl H (fun H=>?_) (fun H=>?_)
 ·refine ab (aa (ag 2 tk rfl (aA tk (zl _) ?_)))
  refine ag 2 tk rfl (ac ?_)
  exact aY tk H rfl
 refine ab (aa (ah tk rfl (cn tk (rows' := List.map bG ([5] : List Int)) (gD.refl _) ?_)))
 obtain ⟨x106,h106,H⟩ := av H
 have s106 := cN ([5] : List Int) sA _ h106
 refine ak Tryz.call125 (jn.r) s106 ?_
 refine ah tk rfl (ac ?_)
 refine aF rfl H (fun H=>?_) (fun H=>?_)
 ·refine ab (aa (ag 2 tk rfl (aA tk (zl _) ?_)))
  refine ag 2 tk rfl (aA tk (zl _) ?_)
  refine ag 2 tk rfl ?_
  refine bh rfl rfl rfl H (fun H=>?_) (fun H=>?_)
  ·refine ag 2 tk rfl (aA tk (zl _) ?_)
   refine ag 3 tk rfl (ac ?_)
   exact aY tk H rfl
  refine ag 6 tk rfl (ac ?_)
  exact aY tk H rfl
 refine ab (aa (ah tk rfl (cn tk (rows' := List.map bG ([8] : List Int)) (gD.refl _) ?_)))
 obtain ⟨x123,h123,H⟩ := av H
 have s123 := cN ([8] : List Int) sA _ h123
 refine ak Tryz.call125 (jn.r) s123 ?_
 refine ah tk rfl (ac ?_)
 refine aF rfl H (fun H=>?_) (fun H=>?_)
 ·refine ab (aa (ag 4 tk rfl ?_))
  refine bh rfl rfl rfl H (fun H=>?_) (fun H=>?_)
  ·refine ag 5 tk rfl (ac ?_)
   exact aY tk H rfl
  refine ag 5 tk rfl (ac ?_)
  exact aY tk H rfl
 refine ap (aG (ab (aa (ah tk rfl (cn tk (rows' := List.map bG ([4] : List Int)) (gD.refl _) ?_)))))
 obtain ⟨x134,h134,H⟩ := av H
 have s134 := cN ([4] : List Int) sA _ h134
 refine ak Tryz.call125 (jn.r) s134 ?_
 refine ah tk rfl ?_
 refine bh rfl rfl rfl H (fun H=>?_) (fun H=>?_)
 ·refine ag 6 tk rfl (ac ?_)
  exact aY tk H rfl
 refine ag 2 tk rfl (aA tk (zl _) ?_)
 refine ag 3 tk rfl (ac ?_)
 exact aY tk H rfl
def eC (data : Rz) (n : Int) (cmp : Rq → Rq → Option (Int)) : Option (Rz) :=
 af (fU (σ := Rz × Int × Int) (ρ := Empty) (fun (s1 : Rz × Int × Int) =>
  cond (decide (s1.2.2 ≤ n))
   (af (cC s1.1 s1.2.1 s1.2.2 cmp) fun x18 =>
   af (fo (x18.length = s1.1.length) ()) fun (_ : Unit) =>
   some (.next (x18,s1.2.2,(IntKind.i64.wrap (s1.2.2 + (20 : Int))))))
   (some (.brk (s1.1,s1.2.1,s1.2.2)))) (data,0,20)) fun fl1=>fl1.thenP fun (s1 : Rz × Int × Int) =>
 af (cC s1.1 s1.2.1 n cmp) fun x27 =>
 af (fo (x27.length = s1.1.length) ()) fun (_ : Unit) =>
 af (fU (σ := Rz × Int) (ρ := Empty) (fun (s2 : Rz × Int) =>
  cond (decide (s2.2 < n))
   (af (fU (σ := Rz × Int × Int) (ρ := Empty) (fun (s5 : Rz × Int × Int) =>
    cond (decide (s5.2.2 ≤ n))
     (af (fC s5.1 s5.2.1 (IntKind.i64.wrap (s5.2.1 + s2.2)) s5.2.2 cmp) fun x43 =>
     af (fo (x43.length = s5.1.length) ()) fun (_ : Unit) =>
     some (.next (x43,s5.2.2,(IntKind.i64.wrap (s5.2.2 + (IntKind.i64.wrap ((2 : Int) * s2.2)))))))
     (some (.brk (s5.1,s5.2.1,s5.2.2)))) (s2.1,0,(IntKind.i64.wrap ((2 : Int) * s2.2)))) fun fl5=>fl5.thenP fun (s5 : Rz × Int × Int) =>
   cond (decide ((IntKind.i64.wrap (s5.2.1 + s2.2)) < n))
    (af (fC s5.1 s5.2.1 (IntKind.i64.wrap (s5.2.1 + s2.2)) n cmp) fun x60 =>
    af (fo (x60.length = s5.1.length) ()) fun (_ : Unit) =>
    some (.next (x60,(IntKind.i64.wrap (s2.2 * (2 : Int))))))
    (some (.next (s5.1,(IntKind.i64.wrap (s2.2 * (2 : Int)))))))
   (some (.brk (s2.1,s2.2)))) (x27,20)) fun fl2=>fl2.thenP fun (s2 : Rz × Int) =>
 some s2.1
theorem ng (g_data : OwnRef) {g_cmp : FuncId} {caps_cmp : List PV} (data : Rz) (n : Int) (cmp : Rq → Rq → Option (Int)) (hg_cmp : ∀ (vs : Array Value) (w : World),(callFunc g_cmp vs).run Tryz.prog w = .ok (.enter g_cmp vs) w) (hp_cmp : ∀ a0 a1 r,cmp a0 a1 = some r → aK Tryz.prog g_cmp ((.list 73 (a0.map ae)) :: (.list 73 (a1.map ae)) :: caps_cmp) (al r)) (r : Rz) (H : eC data n cmp = some r) :
  PH Tryz.prog 265 [(.own 0 g_data (data.map (am 73 ae)).length),(al n),(.fn g_cmp caps_cmp)] ⟨fun _=>none,upd (fun _=>none) 0 (some ⟨g_data,75,(data.map (am 73 ae)),true⟩)⟩ (fun u H=>u = (.tup []) ∧ H = ⟨fun _=>none,upd (fun _=>none) 0 (some ⟨g_data,75,(r.map (am 73 ae)),true⟩)⟩) := by
 unfold eC at H
 refine PH.au Tryz.func265 Tryz.ntmps265 ?_
 refine ao 1 tk rfl (ao 3 tk rfl (ab ?_))
 obtain ⟨fl1,H1,Hp1⟩ := av H
 refine fY (τ := Rz × Int × Int) (γ := Unit) (fun s1 g1=>⟨63,upd (upd (upd (upd (upd (fun _=>.any) 7 (al s1.2.1)) 6 (al 20)) 2 (.fn g_cmp caps_cmp)) 1 (al n)) 0 (.own 0 g_data (s1.1.map (am 73 ae)).length),fun _=>none,upd (fun _=>none) 0 (some ⟨g_data,75,(s1.1.map (am 73 ae)),true⟩)⟩) (fun t=>fl1 = .next t) ?_ (fun s1 g1 hn1=>?_)
 ·refine aw ?_
  refine gX (fun s1 g1=>⟨63,upd (upd (upd (upd (upd (upd (fun _=>.any) 8 (al s1.2.2)) 7 (al s1.2.1)) 6 (al 20)) 2 (.fn g_cmp caps_cmp)) 1 (al n)) 0 (.own 0 g_data (s1.1.map (am 73 ae)).length),fun _=>none,upd (fun _=>none) 0 (some ⟨g_data,75,(s1.1.map (am 73 ae)),true⟩)⟩) () H1 Gh.d (fun m1 s1 g1 hr1=>?_)
  obtain ⟨fb1,H,hg1⟩ := fE hr1
  refine ab (ao 3 tk rfl ?_)
  refine aF rfl H (fun H=>?_) (fun H=>?_)
  ·refine ap (aw (ab (aa (ag 4 tk rfl ?_))))
   obtain ⟨x18,h18,H⟩ := av H
   have s18 := iO g_data s1.1 s1.2.1 s1.2.2 cmp hg_cmp hp_cmp _ h18
   obtain ⟨_,q18_0,H⟩ := av H
   have l18_0 := (dJ q18_0).1
   have z18_0 : (List.map (am 73 ae) s1.1).length = (List.map (am 73 ae) x18).length := by simpa using (l18_0).symm
   refine dN (g := 292) rfl rfl rfl Tryz.call292 [] [(0,0)] rfl rfl rfl rfl (jn.of2 (iZ.cons (oB.own rfl) (iZ.cons (oB.of_eq rfl) (iZ.cons (oB.of_eq rfl) (iZ.cons (oB.of_eq rfl) iZ.nil))))) (by rw [cW,ci,cV]; rfl) s18 ?_
   rintro u18 H18h ⟨rfl,rfl⟩
   refine ⟨_,rfl,?_⟩
   refine dc (st' := ⟨_,_,fun _=>none,upd (fun _=>none) 0 (some ⟨g_data,75,(x18.map (am 73 ae)),true⟩)⟩) (Gh.le (cy _ _) aM (aZ aL)) ?_
   refine ac (ao 2 tk rfl (bc 4 tk rfl (aG ?_)))
   obtain rfl := az H
   refine eg (x18,s1.2.2,(IntKind.i64.wrap (s1.2.2 + (20 : Int)))) () hg1 (Gh.le (bJ (PLe.of2 (oB.of_eq (congrArg (PV.own 0 g_data) z18_0))) (ax (ax (ax (ax (ax aW)))))) aM (aZ aL))
  refine bq rfl ?_
  obtain rfl := az H
  refine aT (s1.1,s1.2.1,s1.2.2) () hg1 Gh.d
 have H := dG hn1 Hp1
 refine ab (aa (ag 4 tk rfl ?_))
 obtain ⟨x27,h27,H⟩ := av H
 have s27 := iO g_data s1.1 s1.2.1 n cmp hg_cmp hp_cmp _ h27
 obtain ⟨_,q27_0,H⟩ := av H
 have l27_0 := (dJ q27_0).1
 have z27_0 : (List.map (am 73 ae) s1.1).length = (List.map (am 73 ae) x27).length := by simpa using (l27_0).symm
 refine dN (g := 292) rfl rfl rfl Tryz.call292 [] [(0,0)] rfl rfl rfl rfl (jn.of2 (iZ.cons (oB.own rfl) (iZ.cons (oB.of_eq rfl) (iZ.cons (oB.of_eq rfl) (iZ.cons (oB.of_eq rfl) iZ.nil))))) (by rw [cW,ci,cV]; rfl) s27 ?_
 rintro u27 H27h ⟨rfl,rfl⟩
 refine ⟨_,rfl,?_⟩
 refine dc (st' := ⟨_,_,fun _=>none,upd (fun _=>none) 0 (some ⟨g_data,75,(x27.map (am 73 ae)),true⟩)⟩) (Gh.le (cy _ _) aM (aZ aL)) ?_
 refine ac ?_
 obtain ⟨fl2,H2,Hp2⟩ := av H
 refine fY (τ := Rz × Int) (γ := Unit) (fun s2 g2=>⟨63,upd (fun _=>.any) 0 (.own 0 g_data (s2.1.map (am 73 ae)).length),fun _=>none,upd (fun _=>none) 0 (some ⟨g_data,75,(s2.1.map (am 73 ae)),true⟩)⟩) (fun t=>fl2 = .next t) ?_ (fun s2 g2 hn2=>?_)
 ·refine aw ?_
  refine gX (fun s2 g2=>⟨63,upd (upd (upd (upd (fun _=>.any) 6 (al s2.2)) 2 (.fn g_cmp caps_cmp)) 1 (al n)) 0 (.own 0 g_data (s2.1.map (am 73 ae)).length),fun _=>none,upd (fun _=>none) 0 (some ⟨g_data,75,(s2.1.map (am 73 ae)),true⟩)⟩) () H2 (Gh.le (bJ (PLe.of2 (oB.of_eq (congrArg (PV.own 0 g_data) z27_0))) (ax (ax (ax aW)))) aM (aZ aL)) (fun m2 s2 g2 hr2=>?_)
  obtain ⟨fb2,H,hg2⟩ := fE hr2
  refine ab (ao 3 tk rfl ?_)
  refine aF rfl H (fun H=>?_) (fun H=>?_)
  ·refine ap (aw (ao 4 tk rfl (ab ?_)))
   obtain ⟨fl5,H5,Hp5⟩ := av H
   refine fY (τ := Rz × Int × Int) (γ := Unit) (fun s5 g5=>⟨63,upd (upd (upd (upd (upd (fun _=>.any) 7 (al s5.2.1)) 6 (al s2.2)) 2 (.fn g_cmp caps_cmp)) 1 (al n)) 0 (.own 0 g_data (s5.1.map (am 73 ae)).length),fun _=>none,upd (fun _=>none) 0 (some ⟨g_data,75,(s5.1.map (am 73 ae)),true⟩)⟩) (fun t=>fl5 = .next t) ?_ (fun s5 g5 hn5=>?_)
   ·refine aw ?_
    refine gX (fun s5 g5=>⟨63,upd (upd (upd (upd (upd (upd (fun _=>.any) 8 (al s5.2.2)) 7 (al s5.2.1)) 6 (al s2.2)) 2 (.fn g_cmp caps_cmp)) 1 (al n)) 0 (.own 0 g_data (s5.1.map (am 73 ae)).length),fun _=>none,upd (fun _=>none) 0 (some ⟨g_data,75,(s5.1.map (am 73 ae)),true⟩)⟩) () H5 Gh.d (fun m5 s5 g5 hr5=>?_)
    obtain ⟨fb5,H,hg5⟩ := fE hr5
    refine ab (ao 3 tk rfl ?_)
    refine aF rfl H (fun H=>?_) (fun H=>?_)
    ·refine ap (aw (ab (aa (ag 7 tk rfl ?_))))
     obtain ⟨x43,h43,H⟩ := av H
     have s43 := jz g_data s5.1 s5.2.1 (IntKind.i64.wrap (s5.2.1 + s2.2)) s5.2.2 cmp hg_cmp hp_cmp _ h43
     obtain ⟨_,q43_0,H⟩ := av H
     have l43_0 := (dJ q43_0).1
     have z43_0 : (List.map (am 73 ae) s5.1).length = (List.map (am 73 ae) x43).length := by simpa using (l43_0).symm
     refine dN (g := 293) rfl rfl rfl Tryz.call293 [] [(0,0)] rfl rfl rfl rfl (jn.of2 (iZ.cons (oB.own rfl) (iZ.cons (oB.of_eq rfl) (iZ.cons (oB.of_eq rfl) (iZ.cons (oB.of_eq rfl) (iZ.cons (oB.of_eq rfl) iZ.nil)))))) (by rw [cW,ci,cV]; rfl) s43 ?_
     rintro u43 H43h ⟨rfl,rfl⟩
     refine ⟨_,rfl,?_⟩
     refine dc (st' := ⟨_,_,fun _=>none,upd (fun _=>none) 0 (some ⟨g_data,75,(x43.map (am 73 ae)),true⟩)⟩) (Gh.le (cy _ _) aM (aZ aL)) ?_
     refine ac (ao 2 tk rfl (bc 5 tk rfl (aG ?_)))
     obtain rfl := az H
     refine eg (x43,s5.2.2,(IntKind.i64.wrap (s5.2.2 + (IntKind.i64.wrap ((2 : Int) * s2.2))))) () hg5 (Gh.le (bJ (PLe.of2 (oB.of_eq (congrArg (PV.own 0 g_data) z43_0))) (ax (ax (ax (ax (ax aW)))))) aM (aZ aL))
    refine bq rfl ?_
    obtain rfl := az H
    refine aT (s5.1,s5.2.1,s5.2.2) () hg5 Gh.d
   have H := dG hn5 Hp5
   refine ab (ao 4 tk rfl (ao 3 tk rfl ?_))
   refine aF rfl H (fun H=>?_) (fun H=>?_)
   ·refine aa (ag 5 tk rfl ?_)
    obtain ⟨x60,h60,H⟩ := av H
    have s60 := jz g_data s5.1 s5.2.1 (IntKind.i64.wrap (s5.2.1 + s2.2)) n cmp hg_cmp hp_cmp _ h60
    obtain ⟨_,q60_0,H⟩ := av H
    have l60_0 := (dJ q60_0).1
    have z60_0 : (List.map (am 73 ae) s5.1).length = (List.map (am 73 ae) x60).length := by simpa using (l60_0).symm
    refine dN (g := 293) rfl rfl rfl Tryz.call293 [] [(0,0)] rfl rfl rfl rfl (jn.of2 (iZ.cons (oB.own rfl) (iZ.cons (oB.of_eq rfl) (iZ.cons (oB.of_eq rfl) (iZ.cons (oB.of_eq rfl) (iZ.cons (oB.of_eq rfl) iZ.nil)))))) (by rw [cW,ci,cV]; rfl) s60 ?_
    rintro u60 H60h ⟨rfl,rfl⟩
    refine ⟨_,rfl,?_⟩
    refine dc (st' := ⟨_,_,fun _=>none,upd (fun _=>none) 0 (some ⟨g_data,75,(x60.map (am 73 ae)),true⟩)⟩) (Gh.le (cy _ _) aM (aZ aL)) ?_
    refine ac (bc 3 tk rfl (aG ?_))
    obtain rfl := az H
    refine eg (x60,(IntKind.i64.wrap (s2.2 * (2 : Int)))) () hg2 (Gh.le (bJ (PLe.of2 (oB.of_eq (congrArg (PV.own 0 g_data) z60_0))) (ax (ax (ax aW)))) aM (aZ aL))
   refine ap (bc 3 tk rfl (aG ?_))
   obtain rfl := az H
   refine eg (s5.1,(IntKind.i64.wrap (s2.2 * (2 : Int)))) () hg2 Gh.d
  refine bq rfl ?_
  obtain rfl := az H
  refine aT (s2.1,s2.2) () hg2 Gh.d
 have H := dG hn2 Hp2
 obtain rfl := az H
 refine fI (st' := ⟨63,fun _=>.any,fun _=>none,upd (fun _=>none) 0 (some ⟨g_data,75,(s2.1.map (am 73 ae)),true⟩)⟩) (Gh.le aW aM (aZ aL)) ?_
 refine mH rfl (PLe.q rfl) ⟨rfl,rfl⟩
def fm (sA : LSchema) (c : LConstraint) : Option (Int) :=
 af (gk sA c.table) fun x14 =>
 cond (!x14.2)
  (some 4)
  (af (aJ sA.tables x14.1) fun (x22 : LTable) =>
  bv (iv (LVal.mk 0 0 []) c.op (LVal.mk 0 0 [])) fun x30 =>
  bv (
   cond (decide (c.left < (0 : Int)))
    (true)
    (cond (decide (c.left ≥ (x22.columns.length : Int)))
     (true)
     (cond (x30.2 != (0 : Int))
      (true)
      (cond (decide (c.right < (-1)))
       (true)
       (cond (decide (c.right ≥ (x22.columns.length : Int)))
        (true)
        (cond (decide (c.right ≥ (0 : Int)))
         ((!(c.value.kind == (0 : Int) && (c.value.int == (0 : Int) && (c.value.text == ([] : List UInt8) && true)))))
         (false))))))) fun (t1 : Bool) =>
  cond t1
   (some 3)
   (cond (decide (c.right ≥ (0 : Int)))
    (af (aJ x22.columns c.left) fun (x76 : LCol) =>
    af (aJ x22.columns c.right) fun (x82 : LCol) =>
    cond (x76.kind != x82.kind)
     (some 7)
     (some 0))
    (af (aJ x22.columns c.left) fun (x92 : LCol) =>
    cond (c.value.kind != x92.kind)
     (some 7)
     (bv (dO c.value) fun x98 =>
     some x98))))
theorem om (sA : LSchema) (c : LConstraint) (r : Int) (H : fm sA c = some r) :
  aK Tryz.prog 68 [(.agg (bR sA)),(.agg (ed c))] (al r) := by
 unfold fm at H
 refine PH.au Tryz.func68 Tryz.ntmps68 ?_
 refine ab (aa (aE ?_))
 refine aE ?_
 refine ah tk rfl (ac (ab (aa (ag 3 tk rfl ?_))))
 obtain ⟨x14,h14,H⟩ := av H
 have s14 := lw sA c.table _ h14
 refine ak Tryz.call104 (jn.r) s14 ?_
 refine ag 5 tk rfl (ac (ab (ao 2 tk rfl ?_)))
 refine aF rfl H (fun H=>?_) (fun H=>?_)
 ·refine ao 1 tk rfl ?_
  exact aY tk H rfl
 refine ap (ab (aa (ag 3 tk rfl ?_)))
 obtain ⟨x22,k22,H⟩ := bs H
 refine aU tk k22.1 (aP (fun _=>rfl) k22.2) ?_
 refine ag 3 tk rfl (ac (ab (aa (ag 4 tk rfl ?_))))
 obtain ⟨x30,h30,H⟩ := cX H
 have s30 := tH (LVal.mk 0 0 []) c.op (LVal.mk 0 0 [])
 rw [h30] at s30
 refine ak Tryz.call107 (jn.r) s30 ?_
 refine ag 5 tk rfl (ac (ab (ab ?_)))
 refine gp (γ := Unit) (fun t1 g1=>⟨99,upd (upd (upd (fun _=>.any) 69 (aC t1)) 7 (.list 68 (x22.columns.map ay))) 3 (.ptr (ed c)),fun _=>none,fun _=>none⟩) H (fun _ H=>?_) (fun t1 g1 H=>?_)
 ·refine aa (ag 4 tk rfl ?_)
  refine bh rfl rfl rfl H (fun H=>?_) (fun H=>?_)
  ·refine ag 33 tk rfl (ac ?_)
   refine aT _ () H Gh.d
  refine ag 3 tk rfl (aA tk (zl _) ?_)
  refine ag 3 tk rfl ?_
  refine bh rfl rfl rfl H (fun H=>?_) (fun H=>?_)
  ·refine ag 26 tk rfl (ac ?_)
   refine aT _ () H Gh.d
  refine ag 4 tk rfl ?_
  refine bh rfl rfl rfl H (fun H=>?_) (fun H=>?_)
  ·refine ag 22 tk rfl (ac ?_)
   refine aT _ () H Gh.d
  refine ag 5 tk rfl ?_
  refine bh rfl rfl rfl H (fun H=>?_) (fun H=>?_)
  ·refine ag 17 tk rfl (ac ?_)
   refine aT _ () H Gh.d
  refine ag 3 tk rfl (aA tk (zl _) ?_)
  refine ag 3 tk rfl ?_
  refine bh rfl rfl rfl H (fun H=>?_) (fun H=>?_)
  ·refine ag 10 tk rfl (ac ?_)
   refine aT _ () H Gh.d
  refine ag 4 tk rfl ?_
  refine bh rfl rfl rfl H (fun H=>?_) (fun H=>?_)
  ·refine ag 6 tk rfl (ac ?_)
   refine aT _ () H Gh.d
  refine ag 6 tk rfl (ac ?_)
  refine aT _ () H Gh.d
 refine aF rfl H (fun H=>?_) (fun H=>?_)
 ·refine ao 1 tk rfl ?_
  exact aY tk H rfl
 refine ap (ab (ao 3 tk rfl ?_))
 refine aF rfl H (fun H=>?_) (fun H=>?_)
 ·refine ab (ab (bm tk mok ⟨false,false,[]⟩ [0,1,2,3,4,5,6,7,8,9,10,11,12] rfl (by decide +kernel) rfl (aN 3 rfl ?_)))
  obtain ⟨x76,k76,H⟩ := bs H
  refine bE k76.1 (aP (fun _=>rfl) k76.2) ?_
  refine aN 5 rfl ?_
  obtain ⟨x82,k82,H⟩ := bs H
  refine bE k82.1 (aP (fun _=>rfl) k82.2) ?_
  refine aN 3 rfl (be ?_)
  refine aF rfl H (fun H=>?_) (fun H=>?_)
  ·refine ao 1 tk rfl ?_
   exact aY tk H rfl
  refine ap (ao 1 tk rfl ?_)
  exact aY tk H rfl
 refine ap (ab (ab (bm tk mok ⟨false,false,[]⟩ [0,1,2,3,4,5,6,7,8,9] rfl (by decide +kernel) rfl (aN 6 rfl ?_))))
 obtain ⟨x92,k92,H⟩ := bs H
 refine bE k92.1 (aP (fun _=>rfl) k92.2) ?_
 refine aN 3 rfl (be ?_)
 refine aF rfl H (fun H=>?_) (fun H=>?_)
 ·refine ao 1 tk rfl ?_
  exact aY tk H rfl
 refine ap (ab (aa (ag 2 tk rfl ?_)))
 obtain ⟨x98,h98,H⟩ := cX H
 have s98 := pY c.value
 rw [h98] at s98
 refine ak Tryz.call108 (jn.r) s98 ?_
 refine ah tk rfl (ac ?_)
 exact aY tk H rfl
def eY (c : LChecker) (q : LQuery) (inA : List LCol) : Option ((List LCol) × Int) :=
 af (aH (σ := List LCol) (ρ := ((List LCol) × Int)) (fun (j1 : Nat) (x1 : LExpr) (s1 : List LCol) =>
  bv (cK inA c.vars x1) fun x31 =>
  af (aJ q.names (j1 : Int)) fun (x39 : List UInt8) =>
  bv (dD x39) fun x41 =>
  cond (!x41)
   (some (.ret ([],3)))
   (cond (x31.2.2 != (0 : Int))
    (some (.ret ([],x31.2.2)))
    (cond (x31.1 == (0 : Int))
     (some (.ret ([],7)))
     (af (aJ q.names (j1 : Int)) fun (x54 : List UInt8) =>
     af (dg 32 s1 ([(LCol.mk x54 x31.1 x31.2.1)] : List LCol)) fun (x60 : List LCol) =>
     some (.next x60))))) 0 q.exprs []) fun fl1=>fl1.thenR fun (s1 : List LCol) =>
 af (aH (σ := List LCol) (ρ := ((List LCol) × Int)) (fun (_ : Nat) (x2 : LAggregateCall) (s2 : List LCol) =>
  af (gH c inA x2) fun x73 =>
  cond (x73.2 != (0 : Int))
   (some (.ret ([],x73.2)))
   (af (dg 32 s2 ([(LCol.mk x2.name x73.1 (!(x2.function == ([99,111,117,110,116] : List UInt8))))] : List LCol)) fun (x88 : List LCol) =>
   some (.next x88))) 0 q.aggregates s1) fun fl2=>fl2.thenR fun (s2 : List LCol) =>
 some (s2,0)
theorem nA (c : LChecker) (q : LQuery) (inA : List LCol) (r : (List LCol) × Int) (H : eY c q inA = some r) :
  aK Tryz.prog 233 [(.agg (eF c)),(.agg (aI q)),(.list 68 (inA.map ay))] (.tup [(.list 68 (r.1.map ay)),(al r.2)]) := by
 unfold eY at H
 refine PH.au Tryz.func233 Tryz.ntmps233 ?_
 refine ab (aa (aE ?_))
 refine aE ?_
 refine ag 2 tk rfl (ac (ao 1 tk rfl (ab (ab (aa (ag 2 tk rfl (aA tk (zl _) ?_)))))))
 refine ah tk rfl (ac (iR tk 8 60 (e := 68) rfl rfl ?_))
 refine eM (γ := OwnRef) tk 21 20 19 (fun s1 g1=>upd (upd (upd (upd (fun _=>.any) 8 (.own 60 g1 (s1.map ay).length)) 4 (.ptr (aI q))) 3 (.ptr (eF c))) 2 (.list 68 (inA.map ay))) nB (fun s1 g1=>upd (fun _=>none) 60 (some ⟨g1,68,(s1.map ay),true⟩)) (⟨none,0⟩) H (fun fl1 Hp1 j1 s1 g1 hz1 hl1 x1 fb1 hx1 H hg1=>?_) (fun s1 g1 H=>?_)
 ·refine ab (aw (ab (aa (ah tk rfl (aU tk (zn j1) (bn eS hx1) ?_)))))
  refine ah tk rfl ?_
  refine bg tk fun b10=>?_
  refine ah tk rfl (aq tk ?_)
  refine ac (ab (aa (ag 3 tk rfl (aD tk ?_))))
  obtain ⟨x31,h31,H⟩ := cX H
  have s31 := nQ inA c.vars x1
  rw [h31] at s31
  refine ak Tryz.call132 (jn.r) s31 ?_
  refine ag 7 tk rfl (ac (ab (aw (ab (aa (ag 3 tk rfl ?_))))))
  obtain ⟨x39,k39,H⟩ := bs H
  refine aU tk k39.1 (aP (fun _=>rfl) k39.2) ?_
  refine ah tk rfl ?_
  obtain ⟨x41,h41,H⟩ := cX H
  have s41 := mU x39
  rw [h41] at s41
  refine ak Tryz.call127 (jn.r) s41 ?_
  refine ag 2 tk rfl (ac ?_)
  refine aF rfl H (fun H=>?_) (fun H=>?_)
  ·refine ao 2 tk rfl ?_
   obtain rfl := az H
   have e1 : fl1 = .ret _ := hg1
   subst e1
   obtain rfl := aS Hp1
   refine ba tk rfl (ps := [(.val (.slice none 0 0)),(al 3)]) ⟨_,_,rfl,rfl,_,_,rfl,rfl,rfl⟩ (PLe.of2 (oB.tup (iZ.cons (oB.nil tk rfl) (iZ.cons (oB.of_eq rfl) iZ.nil))))
  refine ao 3 tk rfl ?_
  refine aF rfl H (fun H=>?_) (fun H=>?_)
  ·refine ao 3 tk rfl ?_
   obtain rfl := az H
   have e1 : fl1 = .ret _ := hg1
   subst e1
   obtain rfl := aS Hp1
   refine ba tk rfl (ps := [(.val (.slice none 0 0)),(al x31.2.2)]) ⟨_,_,rfl,rfl,_,_,rfl,rfl,rfl⟩ (PLe.of2 (oB.tup (iZ.cons (oB.nil tk rfl) (iZ.cons (oB.of_eq rfl) iZ.nil))))
  refine ao 3 tk rfl ?_
  refine aF rfl H (fun H=>?_) (fun H=>?_)
  ·refine ao 2 tk rfl ?_
   obtain rfl := az H
   have e1 : fl1 = .ret _ := hg1
   subst e1
   obtain rfl := aS Hp1
   refine ba tk rfl (ps := [(.val (.slice none 0 0)),(al 7)]) ⟨_,_,rfl,rfl,_,_,rfl,rfl,rfl⟩ (PLe.of2 (oB.tup (iZ.cons (oB.nil tk rfl) (iZ.cons (oB.of_eq rfl) iZ.nil))))
  refine ap (aG (aa (ag 4 tk rfl ?_)))
  obtain ⟨x54,k54,H⟩ := bs H
  refine aU tk k54.1 (aP (fun _=>rfl) k54.2) ?_
  refine ag 4 tk rfl (cn tk (rows' := List.map ay ([(LCol.mk x54 x31.1 x31.2.1)] : List LCol)) (gD.refl _) ?_)
  obtain ⟨x60,h60,H⟩ := av H
  have k60 := cu h60
  refine cp (rows2' := List.map ay ([(LCol.mk x54 x31.1 x31.2.1)] : List LCol)) (rows' := List.map ay x60) tk rfl rfl rfl rfl rfl rfl rfl rfl rfl rfl rfl rfl rfl (gD.refl _) (dT k60.1) (dU k60.2.1) (dS k60.2.2) fun g60=>?_
  refine ah tk rfl (ac (aG (bc 2 tk rfl ?_)))
  exact bl g60 H hl1 hg1
 refine ab (ab (aa (ag 2 tk rfl (aA tk (zl _) ?_))))
 refine ah tk rfl (ac ?_)
 refine eM (γ := OwnRef) tk 65 64 63 (fun s2 g2=>upd (upd (upd (fun _=>.any) 8 (.own 60 g2 (s2.map ay).length)) 3 (.ptr (eF c))) 2 (.list 68 (inA.map ay))) nB (fun s2 g2=>upd (fun _=>none) 60 (some ⟨g2,68,(s2.map ay),true⟩)) g1 H (fun fl2 Hp2 j2 s2 g2 hz2 hl2 x2 fb2 hx2 H hg2=>?_) (fun s2 g2 H=>?_)
 ·refine ab (aw (ab (aa ?_)))
  refine aU tk (zn j2) (bn (fun _=>rfl) hx2) ?_
  refine ah tk rfl ?_
  refine bg tk fun b15=>?_
  refine aq tk ?_
  refine ac (ab (aa (ag 2 tk rfl (aD tk ?_))))
  obtain ⟨x73,h73,H⟩ := av H
  have s73 := sg c inA x2 _ h73
  refine ak Tryz.call267 (jn.r) s73 ?_
  refine ag 5 tk rfl (ac (ab (ao 2 tk rfl ?_)))
  refine aF rfl H (fun H=>?_) (fun H=>?_)
  ·refine ao 3 tk rfl ?_
   obtain rfl := az H
   have e2 : fl2 = .ret _ := hg2
   subst e2
   obtain rfl := aS Hp2
   refine ba tk rfl (ps := [(.val (.slice none 0 0)),(al x73.2)]) ⟨_,_,rfl,rfl,_,_,rfl,rfl,rfl⟩ (PLe.of2 (oB.tup (iZ.cons (oB.nil tk rfl) (iZ.cons (oB.of_eq rfl) iZ.nil))))
  refine ap (aa (ag 2 tk rfl (aD tk ?_)))
  refine ag 2 tk rfl (aD tk ?_)
  refine ag 2 tk rfl ?_
  refine cn tk (rows' := List.map ay ([(LCol.mk x2.name x73.1 (!(x2.function == ([99,111,117,110,116] : List UInt8))))] : List LCol)) (gD.refl _) ?_
  obtain ⟨x88,h88,H⟩ := av H
  have k88 := cu h88
  refine cp (rows2' := List.map ay ([(LCol.mk x2.name x73.1 (!(x2.function == ([99,111,117,110,116] : List UInt8))))] : List LCol)) (rows' := List.map ay x88) tk rfl rfl rfl rfl rfl rfl rfl rfl rfl rfl rfl rfl rfl (gD.refl _) (dT k88.1) (dU k88.2.1) (dS k88.2.2) fun g88=>?_
  refine ah tk rfl (ac (aG (bc 2 tk rfl ?_)))
  exact bl g88 H hl2 hg2
 refine ao 3 tk rfl (dP 6 rfl rfl rfl ?_)
 exact aY tk H rfl
def eP (sA : LSchema) (inst : List LRelation) : Option (Int) :=
 cond ((inst.length : Int) != (sA.tables.length : Int))
  (some 3)
  (af (aH (σ := Unit) (ρ := (Int)) (fun (j1 : Nat) (x1 : LRelation) (_ : Unit) =>
   af (aJ sA.tables (j1 : Int)) fun (x28 : LTable) =>
   cond (!(x1.table == x28.name))
    (some (.ret 3))
    (cond (decide ((x1.rows.length : Int) > (24 : Int)))
     (some (.ret 2))
     (af (aH (σ := Unit) (ρ := (Int)) (fun (j3 : Nat) (x3 : Rq) (_ : Unit) =>
      af (eH x28 x3) fun x49 =>
      cond (x49 != (0 : Int))
       (some (.ret x49))
       (cond ((j3 : Int) == (0 : Int))
        (some (.next ()))
        (af (aJ x1.rows (IntKind.i64.wrap ((j3 : Int) - (1 : Int)))) fun (x60 : Rq) =>
        af (dI x28 x60) fun x62 =>
        af (dI x28 x3) fun x65 =>
        af (ep x62 x65) fun x66 =>
        cond (x66 == (0 : Int))
         (some (.ret 9))
         (cond (decide (x66 > (0 : Int)))
          (some (.ret 6))
          (some (.next ())))))) 0 x1.rows ()) fun fl3=>fl3.thenF fun (_ : Unit) =>
     some (.next ())))) 0 inst ()) fun fl1=>fl1.thenR fun (_ : Unit) =>
  some 0)
theorem lg (sA : LSchema) (inst : List LRelation) (r : Int) (H : eP sA inst = some r) :
  aK Tryz.prog 45 [(.agg (bR sA)),(.list 77 (inst.map bp))] (al r) := by
 unfold eP at H
 refine PH.au Tryz.func45 Tryz.ntmps45 ?_
 refine ab (aa (aE ?_))
 refine ah tk rfl (ac (ab (ab (aa (ah tk rfl (aA tk (zl _) ?_))))))
 refine ag 2 tk rfl (aA tk (zl _) ?_)
 refine ah tk rfl (ac ?_)
 refine aF rfl H (fun H=>?_) (fun H=>?_)
 ·refine ao 1 tk rfl ?_
  exact aY tk H rfl
 refine ap (ab (ab (aa (ah tk rfl (aA tk (zl _) ?_)))))
 refine ah tk rfl (ac ?_)
 refine eM tk 20 19 18 (fun s1 g1=>upd (fun _=>.any) 2 (.ptr (bR sA))) nB nO () H (fun fl1 Hp1 j1 s1 g1 hz1 hl1 x1 fb1 hx1 H hg1=>?_) (fun s1 g1 H=>?_)
 ·refine ab (aw (ab (aa (ah tk rfl ?_))))
  refine aU tk (zn j1) (bn (fun _=>rfl) hx1) ?_
  refine ah tk rfl ?_
  refine bg tk fun b6=>?_
  refine ah tk rfl (aq tk ?_)
  refine ac (ab (aa (ag 3 tk rfl ?_)))
  obtain ⟨x28,k28,H⟩ := bs H
  refine aU tk k28.1 (aP (fun _=>rfl) k28.2) ?_
  refine ah tk rfl ?_
  refine bg tk fun b7=>?_
  refine aq tk ?_
  refine ac (ab (ab (aa (ah tk rfl (aD tk ?_)))))
  refine ah tk rfl (aD tk ?_)
  refine ah tk rfl (ac ?_)
  refine aF rfl H (fun H=>?_) (fun H=>?_)
  ·refine ao 1 tk rfl ?_
   obtain rfl := az H
   have e1 : fl1 = .ret _ := hg1
   subst e1
   obtain rfl := aS Hp1
   refine ba tk rfl (ps := [(al 3)]) ⟨_,_,rfl,rfl,rfl⟩ (PLe.q rfl)
  refine ap (ab (ab (aa (ah tk rfl (aD tk ?_)))))
  refine aA tk (zl _) ?_
  refine ah tk rfl (ac ?_)
  refine aF rfl H (fun H=>?_) (fun H=>?_)
  ·refine ao 1 tk rfl ?_
   obtain rfl := az H
   have e1 : fl1 = .ret _ := hg1
   subst e1
   obtain rfl := aS Hp1
   refine ba tk rfl (ps := [(al 2)]) ⟨_,_,rfl,rfl,rfl⟩ (PLe.q rfl)
  refine ap (ab (aa (ah tk rfl (aD tk ?_))))
  refine aA tk (zl _) ?_
  refine ah tk rfl (ac ?_)
  obtain ⟨fl3,H3,Hp3⟩ := av H
  refine iq tk 40 rfl rfl (fun hz3 _=>?_)
  rw [zl] at hz3
  refine fY (τ := Unit) (γ := Unit) (fun s3 g3=>⟨75,upd (upd (upd (upd (fun _=>.any) 20 (al (j1 : Int))) 19 (al (inst.length : Int))) 18 (.list 77 (inst.map bp))) 2 (.ptr (bR sA)),fun _=>none,fun _=>none⟩) (fun t=>fl3 = .next t) ?_ (fun s3 g3 hn3=>?_)
  ·refine aw ?_
   refine jC (fun j3 s3 g3=>⟨75,upd (upd (upd (upd (upd (upd (upd (upd (upd (fun _=>.any) 42 (al (j3 : Int))) 41 (al (x1.rows.length : Int))) 40 (.list 75 (x1.rows.map (am 73 ae)))) 20 (al (j1 : Int))) 19 (al (inst.length : Int))) 18 (.list 77 (inst.map bp))) 7 (.box 7 b7 0)) 6 (.box 6 b6 0)) 2 (.ptr (bR sA)),upd (upd (fun _=>none) 7 (some ⟨b7,(bA x28)⟩)) 6 (some ⟨b6,(bp x1)⟩),fun _=>none⟩) () H3 Gh.d (fun j3 s3 g3 hj3 hr3=>?_)
   refine ao 1 tk rfl (ab ?_)
   refine br rfl (fun h=>?_) (fun h=>?_)
   ·have hl3 := qH h
    obtain ⟨x3,fb3,hx3,H,hg3⟩ := rMc hl3 hr3
    refine ap (ab (aw (ab (aa (ah tk rfl ?_)))))
    refine aU tk (zn j3) (bn (fun _=>rfl) hx3) ?_
    refine ag 3 tk rfl (ac (ab (ab (aa (aD tk ?_)))))
    refine ah tk rfl ?_
    obtain ⟨x49,h49,H⟩ := av H
    have s49 := qB x28 x3 _ h49
    refine ak Tryz.call87 (jn.r) s49 ?_
    refine ah tk rfl (ac (ao 2 tk rfl ?_))
    refine aF rfl H (fun H=>?_) (fun H=>?_)
    ·refine ao 2 tk rfl ?_
     obtain rfl := az H
     have e3 : fl3 = .ret _ := hg3
     subst e3
     have q3 := sK Hp3
     subst q3
     have e1 : fl1 = .ret _ := hg1
     subst e1
     obtain rfl := aS Hp1
     refine ba tk rfl (ps := [(al x49)]) ⟨_,_,rfl,rfl,rfl⟩ (PLe.q rfl)
    refine ap (ab (ao 2 tk rfl ?_))
    refine aF rfl H (fun H=>?_) (fun H=>?_)
    ·refine bq rfl (bc 2 tk rfl ?_)
     exact bl () H hl3 hg3
    refine ap (ab (bm tk mok ⟨true,false,[61]⟩ [0,1,2,3,4,5,6,8,9,7,10,11,12] rfl (by decide +kernel) rfl (bO ?_)))
    refine bV rfl (bO ?_)
    refine aN 2 rfl ?_
    obtain ⟨x60,k60,H⟩ := bs H
    refine bE k60.1 (aP (fun _=>rfl) k60.2) ?_
    refine bV rfl (bO ?_)
    refine bV rfl ?_
    obtain ⟨x62,h62,H⟩ := av H
    have s62 := qQ x28 x60 _ h62
    refine aV Tryz.call89 (jn.r) s62 ?_
    obtain ⟨x65,h65,H⟩ := av H
    have s65 := qQ x28 x3 _ h65
    refine aV Tryz.call89 (jn.r) s65 ?_
    obtain ⟨x66,h66,H⟩ := av H
    have s66 := sj x62 x65 _ h66
    refine aV Tryz.call88 (jn.r) s66 ?_
    refine bV rfl (be (aw (ao 3 tk rfl ?_)))
    refine aF rfl H (fun H=>?_) (fun H=>?_)
    ·refine ao 1 tk rfl ?_
     obtain rfl := az H
     have e3 : fl3 = .ret _ := hg3
     subst e3
     have q3 := sK Hp3
     subst q3
     have e1 : fl1 = .ret _ := hg1
     subst e1
     obtain rfl := aS Hp1
     refine ba tk rfl (ps := [(al 9)]) ⟨_,_,rfl,rfl,rfl⟩ (PLe.q rfl)
    refine ao 3 tk rfl ?_
    refine aF rfl H (fun H=>?_) (fun H=>?_)
    ·refine ao 1 tk rfl ?_
     obtain rfl := az H
     have e3 : fl3 = .ret _ := hg3
     subst e3
     have q3 := sK Hp3
     subst q3
     have e1 : fl1 = .ret _ := hg1
     subst e1
     obtain rfl := aS Hp1
     refine ba tk rfl (ps := [(al 6)]) ⟨_,_,rfl,rfl,rfl⟩ (PLe.q rfl)
    refine ap (aG (aG (bc 2 tk rfl ?_)))
    exact bl () H hl3 hg3
   have hn3 := rMd (qJ h) hr3
   refine bq rfl ?_
   refine aT s3 g3 hn3 Gh.d
  have H := thenF_next hn3 Hp3
  refine aG (bc 2 tk rfl ?_)
  exact bl () H hl1 hg1
 refine ao 1 tk rfl ?_
 exact aY tk H rfl
def iV (x : Rq) (c0 : LRun) (c1 : List LCol) (c2 : LQuery) : Option (Bool) :=
 af (aJ c2.exprs 0) fun (x12 : LExpr) =>
 bv (bf c0 c1 x) fun x9 =>
 bv (cg x9 x12) fun x14 =>
 bv (lG x14) fun x15 =>
 some (!x15)
theorem sM (x : Rq) (c0 : LRun) (c1 : List LCol) (c2 : LQuery) (r : Bool) (H : iV x c0 c1 c2 = some r) :
  aK Tryz.prog 157 [(.list 73 (x.map ae)),(.ptr (eh c0)),(.ptr [(.list 68 (c1.map ay))]),(.ptr (aI c2))] (aC r) := by
 unfold iV at H
 refine PH.au Tryz.func157 Tryz.ntmps157 ?_
 refine ao 1 tk rfl (ab (bm tk mok ⟨false,false,[]⟩ [0,1,2,4,5,6,7,3,8,9,10,11] rfl (by decide +kernel) rfl (aN 5 rfl ?_)))
 obtain ⟨x12,k12,H⟩ := bs H
 refine bE k12.1 (aP eS k12.2) ?_
 refine bV rfl ?_
 obtain ⟨x9,h9,H⟩ := cX H
 have s9 := lj c0 c1 x
 rw [h9] at s9
 refine aV Tryz.call159 (jn.r) s9 ?_
 obtain ⟨x14,h14,H⟩ := cX H
 have s14 := nV x9 x12
 rw [h14] at s14
 refine aV Tryz.call158 (jn.r) s14 ?_
 obtain ⟨x15,h15,H⟩ := cX H
 have s15 := isTS x14
 rw [h15] at s15
 refine aV Tryz.call135 (jn.r) s15 ?_
 refine aN 2 rfl (be ?_)
 exact aY tk H rfl
def cI (rA : LRun) (cols : List LCol) (x : Rq) (l : List LExpr) : Option (Rq) :=
 af (aH (σ := Rq) (ρ := Empty) (fun (_ : Nat) (x1 : LExpr) (s1 : Rq) =>
  bv (bf rA cols x) fun x22 =>
  bv (cg x22 x1) fun x24 =>
  af (dg 32 s1 ([x24] : Rq)) fun (x26 : Rq) =>
  some (.next x26)) 0 l []) fun fl1=>fl1.thenP fun (s1 : Rq) =>
 some s1
theorem kv (rA : LRun) (cols : List LCol) (x : Rq) (l : List LExpr) (r : Rq) (H : cI rA cols x l = some r) :
  aK Tryz.prog 160 [(.agg (eh rA)),(.list 68 (cols.map ay)),(.list 73 (x.map ae)),(.list 91 (l.map ez))] (.list 73 (r.map ae)) := by
 unfold cI at H
 refine PH.au Tryz.func160 Tryz.ntmps160 ?_
 refine ab (aa (aE ?_))
 refine ah tk rfl (ac (ao 1 tk rfl (ab (ab (aa (ah tk rfl (aA tk (zl _) ?_)))))))
 refine ah tk rfl (ac (iR tk 9 26 (e := 73) rfl rfl ?_))
 refine hZ (γ := OwnRef) tk 14 13 12 (fun s1 g1=>upd (upd (upd (upd (fun _=>.any) 9 (.own 26 g1 (s1.map ae).length)) 4 (.ptr (eh rA))) 2 (.list 73 (x.map ae))) 1 (.list 68 (cols.map ay))) nB (fun s1 g1=>upd (fun _=>none) 26 (some ⟨g1,73,(s1.map ae),true⟩)) (⟨none,0⟩) H (fun fl1 Hp1 j1 s1 g1 hz1 hl1 x1 fb1 hx1 H hg1=>?_) (fun s1 g1 H=>?_)
 ·refine ab (aw (ab (aa (aU tk (zn j1) (bn eS hx1) ?_))))
  refine ah tk rfl ?_
  refine bg tk fun b11=>?_
  refine aq tk ?_
  refine ac (bm tk mok ⟨true,false,[19]⟩ [0,1,2,3,5,4,6,7,8,9] rfl (by decide +kernel) rfl (aN 4 rfl (bO ?_)))
  obtain ⟨x22,h22,H⟩ := cX H
  have s22 := lj rA cols x
  rw [h22] at s22
  refine aV Tryz.call159 (jn.r) s22 ?_
  obtain ⟨x24,h24,H⟩ := cX H
  have s24 := nV x22 x1
  rw [h24] at s24
  refine aV Tryz.call158 (jn.r) s24 ?_
  refine bV rfl ?_
  obtain ⟨x26,h26,H⟩ := av H
  have k26 := cu h26
  refine lN (rows2' := List.map ae ([x24] : Rq)) (rows' := List.map ae x26) tk rfl rfl rfl rfl rfl rfl rfl rfl rfl rfl rfl rfl rfl rfl (gD.refl _) (dT k26.1) (dU k26.2.1) (dS k26.2.2) fun g26=>?_
  refine bV rfl (be (aG (bc 2 tk rfl ?_)))
  exact bl g26 H hl1 hg1
 refine ao 2 tk rfl (dP 8 rfl rfl rfl ?_)
 exact aY tk H rfl
def kd (rA : LRun) (a : LAggregateCall) (cols : List LCol) (l : Rz) : Option (LVal) :=
 cond ((a.args.length : Int) == (0 : Int))
  (bv (gu (l.length : Int)) fun x19 =>
  some x19)
  (af (aH (σ := Rq) (ρ := Empty) (fun (_ : Nat) (x1 : Rq) (s1 : Rq) =>
   af (aJ a.args 0) fun (x32 : LExpr) =>
   bv (bf rA cols x1) fun x29 =>
   bv (cg x29 x32) fun x34 =>
   cond (x34.kind != (0 : Int))
    (af (dg 32 s1 ([x34] : Rq)) fun (x41 : Rq) =>
    some (.next x41))
    (some (.next s1))) 0 l []) fun fl1=>fl1.thenP fun (s1 : Rq) =>
  af (gc a.function s1) fun x46 =>
  some x46)
theorem uB (rA : LRun) (a : LAggregateCall) (cols : List LCol) (l : Rz) (r : LVal) (H : kd rA a cols l = some r) :
  aK Tryz.prog 225 [(.agg (eh rA)),(.agg (li a)),(.list 68 (cols.map ay)),(.list 75 (l.map (am 73 ae)))] (.agg (ae r)) := by
 unfold kd at H
 refine PH.au Tryz.func225 Tryz.ntmps225 ?_
 refine ab (aa (aE ?_))
 refine aE ?_
 refine bg tk fun b8=>?_
 refine ac (ab (ab (aa (ag 2 tk rfl (aA tk (zl _) ?_)))))
 refine ah tk rfl (ac ?_)
 refine aF rfl H (fun H=>?_) (fun H=>?_)
 ·refine ab (aa (ah tk rfl (aA tk (zl _) ?_)))
  obtain ⟨x19,h19,H⟩ := cX H
  have s19 := rL (l.length : Int)
  rw [h19] at s19
  refine ak Tryz.call257 (jn.r) s19 ?_
  refine aq tk ?_
  refine ac ?_
  exact uJ tk H rfl rfl rfl rfl rfl
 refine ap (ao 1 tk rfl (ab (ab (aa (ah tk rfl (aA tk (zl _) ?_))))))
 refine ah tk rfl (ac (iR tk 9 41 (e := 73) rfl rfl ?_))
 refine hZ (γ := OwnRef) tk 22 21 20 (fun s1 g1=>upd (upd (upd (upd (upd (fun _=>.any) 9 (.own 41 g1 (s1.map ae).length)) 8 (.box 8 b8 0)) 5 (.ptr (li a))) 4 (.ptr (eh rA))) 2 (.list 68 (cols.map ay))) (fun s1 g1=>upd (fun _=>none) 8 (some ⟨b8,[(al 0),(al 0),(.str [])]⟩)) (fun s1 g1=>upd (fun _=>none) 41 (some ⟨g1,73,(s1.map ae),true⟩)) (⟨none,0⟩) H (fun fl1 Hp1 j1 s1 g1 hz1 hl1 x1 fb1 hx1 H hg1=>?_) (fun s1 g1 H=>?_)
 ·refine ab (aw (ab (aa ?_)))
  refine aU tk (zn j1) (bn (fun _=>rfl) hx1) ?_
  refine ag 2 tk rfl (ac (ab (bm tk mok ⟨false,false,[]⟩ [0,1,2,4,5,6,7,3,8,9,10] rfl (by decide +kernel) rfl (aN 5 rfl ?_))))
  obtain ⟨x32,k32,H⟩ := bs H
  refine bE k32.1 (aP eS k32.2) ?_
  refine bV rfl ?_
  obtain ⟨x29,h29,H⟩ := cX H
  have s29 := lj rA cols x1
  rw [h29] at s29
  refine aV Tryz.call159 (jn.r) s29 ?_
  obtain ⟨x34,h34,H⟩ := cX H
  have s34 := nV x29 x32
  rw [h34] at s34
  refine aV Tryz.call158 (jn.r) s34 ?_
  refine pC rfl rfl rfl rfl rfl rfl rfl rfl fun b12=>?_
  refine eD ?_
  refine be (ab (aa (ah tk rfl (aD tk ?_))))
  refine ah tk rfl (ac ?_)
  refine aF rfl H (fun H=>?_) (fun H=>?_)
  ·refine aa (ah tk rfl (aD tk ?_))
   refine cn tk (rows' := List.map ae ([x34] : Rq)) (gD.refl _) ?_
   obtain ⟨x41,h41,H⟩ := av H
   have k41 := cu h41
   refine cp (rows2' := List.map ae ([x34] : Rq)) (rows' := List.map ae x41) tk rfl rfl rfl rfl rfl rfl rfl rfl rfl rfl rfl rfl rfl (gD.refl _) (dT k41.1) (dU k41.2.1) (dS k41.2.2) fun g41=>?_
   refine ah tk rfl (ac (aG (bc 2 tk rfl ?_)))
   exact bl g41 H hl1 hg1
  refine ap (aG (bc 2 tk rfl ?_))
  exact bl g1 H hl1 hg1
 refine ab (dP 9 rfl rfl rfl (aa (ag 3 tk rfl ?_)))
 obtain ⟨x46,h46,H⟩ := av H
 have s46 := pW a.function s1 _ h46
 refine ak Tryz.call264 (jn.r) s46 ?_
 refine aq tk ?_
 refine ac ?_
 exact uJ tk H rfl rfl rfl rfl rfl
def cS (x : Rz) (cmp : Rq → Rq → Option (Int)) : Option (Rz) :=
 af (eC x (x.length : Int) cmp) fun x8 =>
 af (fo (x8.length = x.length) ()) fun (_ : Unit) =>
 some x8
theorem kP (g_x : OwnRef) {g_cmp : FuncId} {caps_cmp : List PV} (x : Rz) (cmp : Rq → Rq → Option (Int)) (hg_cmp : ∀ (vs : Array Value) (w : World),(callFunc g_cmp vs).run Tryz.prog w = .ok (.enter g_cmp vs) w) (hp_cmp : ∀ a0 a1 r,cmp a0 a1 = some r → aK Tryz.prog g_cmp ((.list 73 (a0.map ae)) :: (.list 73 (a1.map ae)) :: caps_cmp) (al r)) (r : Rz) (H : cS x cmp = some r) :
  PH Tryz.prog 226 [(.own 0 g_x (x.map (am 73 ae)).length),(.fn g_cmp caps_cmp)] ⟨fun _=>none,upd (fun _=>none) 0 (some ⟨g_x,75,(x.map (am 73 ae)),true⟩)⟩ (fun u H=>u = (.tup []) ∧ H = ⟨fun _=>none,upd (fun _=>none) 0 (some ⟨g_x,75,(r.map (am 73 ae)),true⟩)⟩) := by
 unfold cS at H
 refine PH.au Tryz.func226 Tryz.ntmps226 ?_
 refine aa (ag 2 tk rfl (jf tk (zl _) ?_))
 refine ah tk rfl ?_
 obtain ⟨x8,h8,H⟩ := av H
 have s8 := ng g_x x (x.length : Int) cmp hg_cmp hp_cmp _ h8
 obtain ⟨_,q8_0,H⟩ := av H
 have l8_0 := (dJ q8_0).1
 have z8_0 : (List.map (am 73 ae) x).length = (List.map (am 73 ae) x8).length := by simpa using (l8_0).symm
 refine dN (g := 265) rfl rfl rfl Tryz.call265 [] [(0,0)] rfl rfl rfl rfl (jn.of2 (iZ.cons (oB.own rfl) (iZ.cons (oB.of_eq rfl) (iZ.cons (oB.of_eq rfl) iZ.nil)))) (by rw [cW,ci,cV]; rfl) s8 ?_
 rintro u8 H8h ⟨rfl,rfl⟩
 refine ⟨_,rfl,?_⟩
 refine dc (st' := ⟨_,_,fun _=>none,upd (fun _=>none) 0 (some ⟨g_x,75,(x8.map (am 73 ae)),true⟩)⟩) (Gh.le (cy _ _) aM (aZ aL)) ?_
 refine ac ?_
 obtain rfl := az H
 refine fI (st' := ⟨9,fun _=>.any,fun _=>none,upd (fun _=>none) 0 (some ⟨g_x,75,(x8.map (am 73 ae)),true⟩)⟩) (Gh.le aW aM (aZ aL)) ?_
 refine mH rfl (PLe.q rfl) ⟨rfl,rfl⟩
def jl (sA : LSchema) : Option (Int) :=
 bv (
  cond (decide ((sA.tables.length : Int) > (6 : Int)))
   (true)
   (cond (decide ((sA.foreignKeys.length : Int) > (8 : Int)))
    (true)
    ((decide ((sA.constraints.length : Int) > (8 : Int)))))) fun (t1 : Bool) =>
 cond t1
  (some 2)
  (af (aH (σ := Unit) (ρ := (Int)) (fun (j2 : Nat) (x2 : LTable) (_ : Unit) =>
   af (fL x2) fun x37 =>
   cond (x37 != (0 : Int))
    (some (.ret x37))
    (cond (decide ((j2 : Int) > (0 : Int)))
     (af (aJ sA.tables (IntKind.i64.wrap ((j2 : Int) - (1 : Int)))) fun (x50 : LTable) =>
     cond (Op.bytesLess x2.name x50.name || x2.name == x50.name)
      (some (.ret 6))
      (some (.next ())))
     (some (.next ())))) 0 sA.tables ()) fun fl2=>fl2.thenR fun (_ : Unit) =>
  af (aH (σ := Unit) (ρ := (Int)) (fun (j3 : Nat) (x3 : LForeignKey) (_ : Unit) =>
   af (fj sA x3) fun x66 =>
   cond (x66 != (0 : Int))
    (some (.ret x66))
    (af (nu sA.foreignKeys 0 (j3 : Int)) fun (x73 : List LForeignKey) =>
    af (bX x73 (fun a0=>gM a0 x3)) fun x75 =>
    cond x75
     (some (.ret 5))
     (some (.next ())))) 0 sA.foreignKeys ()) fun fl3=>fl3.thenR fun (_ : Unit) =>
  af (aH (σ := Unit) (ρ := (Int)) (fun (j4 : Nat) (x4 : LConstraint) (_ : Unit) =>
   af (fm sA x4) fun x87 =>
   cond (x87 != (0 : Int))
    (some (.ret x87))
    (af (nu sA.constraints 0 (j4 : Int)) fun (x94 : List LConstraint) =>
    af (cj x94 x4) fun x96 =>
    cond x96
     (some (.ret 5))
     (some (.next ())))) 0 sA.constraints ()) fun fl4=>fl4.thenR fun (_ : Unit) =>
  some 0)
theorem tT (sA : LSchema) (r : Int) (H : jl sA = some r) :
  aK Tryz.prog 24 [(.agg (bR sA))] (al r) := by
 unfold jl at H
 refine PH.au Tryz.func24 Tryz.ntmps24 ?_
 refine ab (aa (aE ?_))
 refine ah tk rfl (ac (ab (ab ?_)))
 refine gp (γ := Unit) (fun t1 g1=>⟨98,upd (upd (fun _=>.any) 27 (aC t1)) 1 (.ptr (bR sA)),fun _=>none,fun _=>none⟩) H (fun _ H=>?_) (fun t1 g1 H=>?_)
 ·refine aa (ag 2 tk rfl (aA tk (zl _) ?_))
  refine ag 2 tk rfl ?_
  refine bh rfl rfl rfl H (fun H=>?_) (fun H=>?_)
  ·refine ag 11 tk rfl (ac ?_)
   refine aT _ () H Gh.d
  refine ag 2 tk rfl (aA tk (zl _) ?_)
  refine ag 3 tk rfl ?_
  refine bh rfl rfl rfl H (fun H=>?_) (fun H=>?_)
  ·refine ag 5 tk rfl (ac ?_)
   refine aT _ () H Gh.d
  refine ag 2 tk rfl (aA tk (zl _) ?_)
  refine ag 2 tk rfl (ac ?_)
  refine aT _ () H Gh.d
 refine aF rfl H (fun H=>?_) (fun H=>?_)
 ·refine ao 1 tk rfl ?_
  exact aY tk H rfl
 refine ap (ab (ab (aa (ag 2 tk rfl (aA tk (zl _) ?_)))))
 refine ah tk rfl (ac ?_)
 refine eM tk 31 30 29 (fun s2 g2=>upd (fun _=>.any) 1 (.ptr (bR sA))) nB nO () H (fun fl2 Hp2 j2 s2 g2 hz2 hl2 x2 fb2 hx2 H hg2=>?_) (fun s2 g2 H=>?_)
 ·refine ab (aw (ab (aa (ah tk rfl ?_))))
  refine aU tk (zn j2) (bn (fun _=>rfl) hx2) ?_
  refine ah tk rfl ?_
  refine bg tk fun b4=>?_
  refine ah tk rfl (aq tk ?_)
  refine ac (ab (ab (aa (aD tk ?_))))
  obtain ⟨x37,h37,H⟩ := av H
  have s37 := qz x2 _ h37
  refine ak Tryz.call63 (jn.r) s37 ?_
  refine ah tk rfl (ac (ao 2 tk rfl ?_))
  refine aF rfl H (fun H=>?_) (fun H=>?_)
  ·refine ao 2 tk rfl ?_
   obtain rfl := az H
   have e2 : fl2 = .ret _ := hg2
   subst e2
   obtain rfl := aS Hp2
   refine ba tk rfl (ps := [(al x37)]) ⟨_,_,rfl,rfl,rfl⟩ (PLe.q rfl)
  refine ap (ab (bm tk mok ⟨true,false,[47,52]⟩ [0,1,2,3,4,5,6,7,8,9,10,11,12,13] rfl (by decide +kernel) rfl (aN 3 rfl ?_)))
  refine jK H (fun H=>?_) (fun H=>?_)
  ·refine bV rfl (bO ?_)
   refine aN 4 rfl ?_
   obtain ⟨x50,k50,H⟩ := bs H
   refine bE k50.1 (aP (fun _=>rfl) k50.2) ?_
   refine aN 4 rfl (be ?_)
   refine aF rfl H (fun H=>?_) (fun H=>?_)
   ·refine ao 1 tk rfl ?_
    obtain rfl := az H
    have e2 : fl2 = .ret _ := hg2
    subst e2
    obtain rfl := aS Hp2
    refine ba tk rfl (ps := [(al 6)]) ⟨_,_,rfl,rfl,rfl⟩ (PLe.q rfl)
   refine ap (aG (bc 2 tk rfl ?_))
   exact bl () H hl2 hg2
  refine aN 11 rfl (be (bC rfl (ap (aG (bc 2 tk rfl ?_)))))
  exact bl () H hl2 hg2
 refine ab (ab (aa (ag 2 tk rfl (aA tk (zl _) ?_))))
 refine ah tk rfl (ac ?_)
 refine eM tk 59 58 57 (fun s3 g3=>upd (fun _=>.any) 1 (.ptr (bR sA))) nB nO () H (fun fl3 Hp3 j3 s3 g3 hz3 hl3 x3 fb3 hx3 H hg3=>?_) (fun s3 g3 H=>?_)
 ·refine ab (aw (ab (aa (ah tk rfl ?_))))
  refine aU tk (zn j3) (bn (fun _=>rfl) hx3) ?_
  refine ah tk rfl ?_
  refine bg tk fun b7=>?_
  refine ah tk rfl (aq tk ?_)
  refine ac (ab (ab (aa (ah tk rfl (aD tk ?_)))))
  obtain ⟨x66,h66,H⟩ := av H
  have s66 := oj sA x3 _ h66
  refine ak Tryz.call64 (jn.r) s66 ?_
  refine ah tk rfl (ac (ao 2 tk rfl ?_))
  refine aF rfl H (fun H=>?_) (fun H=>?_)
  ·refine ao 2 tk rfl ?_
   obtain rfl := az H
   have e3 : fl3 = .ret _ := hg3
   subst e3
   obtain rfl := aS Hp3
   refine ba tk rfl (ps := [(al x66)]) ⟨_,_,rfl,rfl,rfl⟩ (PLe.q rfl)
  refine ap (ab (aa (ag 3 tk rfl ?_)))
  obtain ⟨x73,h73,H⟩ := av H
  have k73 := oq h73
  refine uK tk rfl rfl rfl rfl rfl (zl _) rfl rfl k73.1 (pM k73.2) rfl (dc (Gh.freezeB 7 rfl rfl rfl rfl) (ah tk rfl ?_))
  obtain ⟨x75,h75,H⟩ := av H
  have s75 := jc x73 (fun a0=>gM a0 x3) Tryz.call66 (fun a0 r h=>rZ a0 x3 r h) _ h75
  refine ak Tryz.call65 (jn.r) s75 ?_
  refine ac ?_
  refine aF rfl H (fun H=>?_) (fun H=>?_)
  ·refine ao 1 tk rfl ?_
   obtain rfl := az H
   have e3 : fl3 = .ret _ := hg3
   subst e3
   obtain rfl := aS Hp3
   refine ba tk rfl (ps := [(al 5)]) ⟨_,_,rfl,rfl,rfl⟩ (PLe.q rfl)
  refine ap (aG (bc 2 tk rfl ?_))
  exact bl () H hl3 hg3
 refine ab (ab (aa (ag 2 tk rfl (aA tk (zl _) ?_))))
 refine ah tk rfl (ac ?_)
 refine eM tk 80 79 78 (fun s4 g4=>upd (fun _=>.any) 1 (.ptr (bR sA))) nB nO () H (fun fl4 Hp4 j4 s4 g4 hz4 hl4 x4 fb4 hx4 H hg4=>?_) (fun s4 g4 H=>?_)
 ·refine ab (aw (ab (aa (ah tk rfl ?_))))
  refine aU tk (zn j4) (bn (fun _=>rfl) hx4) ?_
  refine ah tk rfl ?_
  refine bg tk fun b10=>?_
  refine ah tk rfl (aq tk ?_)
  refine ac (ab (ab (aa (ah tk rfl (aD tk ?_)))))
  obtain ⟨x87,h87,H⟩ := av H
  have s87 := om sA x4 _ h87
  refine ak Tryz.call68 (jn.r) s87 ?_
  refine ah tk rfl (ac (ao 2 tk rfl ?_))
  refine aF rfl H (fun H=>?_) (fun H=>?_)
  ·refine ao 2 tk rfl ?_
   obtain rfl := az H
   have e4 : fl4 = .ret _ := hg4
   subst e4
   obtain rfl := aS Hp4
   refine ba tk rfl (ps := [(al x87)]) ⟨_,_,rfl,rfl,rfl⟩ (PLe.q rfl)
  refine ap (ab (bm tk mok ⟨true,false,[92]⟩ [0,1,2,3,4,5] rfl (by decide +kernel) rfl (aN 3 rfl ?_)))
  obtain ⟨x94,h94,H⟩ := av H
  have k94 := oq h94
  refine uX rfl rfl rfl rfl rfl rfl (zl _) rfl rfl k94.1 (pM k94.2) rfl (bO ?_)
  obtain ⟨x96,h96,H⟩ := av H
  have s96 := jI x94 x4 _ h96
  refine aV Tryz.call69 (jn.r) s96 ?_
  refine be ?_
  refine aF rfl H (fun H=>?_) (fun H=>?_)
  ·refine ao 1 tk rfl ?_
   obtain rfl := az H
   have e4 : fl4 = .ret _ := hg4
   subst e4
   obtain rfl := aS Hp4
   refine ba tk rfl (ps := [(al 5)]) ⟨_,_,rfl,rfl,rfl⟩ (PLe.q rfl)
  refine ap (aG (bc 2 tk rfl ?_))
  exact bl () H hl4 hg4
 refine ao 1 tk rfl ?_
 exact aY tk H rfl
def iE (c : LChecker) (q : LQuery) (inA : List (List LCol)) : Option ((List LCol) × Int) :=
 cond (q.kind == (1 : Int))
  (af (cU c.s.tables (fun a0=>some (eZ a0 q))) fun x25 =>
  cond (decide (x25 < (0 : Int)))
   (some ([],4))
   (af (aJ c.s.tables x25) fun (x32 : LTable) =>
   some (x32.columns,0)))
  (cond (q.kind == (2 : Int))
   (af (aJ inA 0) fun (x39 : List LCol) =>
   af (aJ inA 0) fun (x43 : List LCol) =>
   af (aJ q.exprs 0) fun (x47 : LExpr) =>
   bv (cL c x43 x47) fun x49 =>
   some (x39,x49))
   (bv (
    cond (q.kind == (4 : Int))
     ((q.kind == (4 : Int)))
     ((q.kind == (5 : Int)))) fun (t1 : Bool) =>
   cond t1
    (af (aJ inA 0) fun (x54 : List LCol) =>
    af (aJ inA 1) fun (x58 : List LCol) =>
    af (aH (σ := List LCol) (ρ := Empty) (fun (_ : Nat) (x2 : LCol) (s2 : List LCol) =>
     cond x2.nullable
      (af (dg 32 s2 ([(LCol.mk x2.name x2.kind true)] : List LCol)) fun (x76 : List LCol) =>
      some (.next x76))
      (af (dg 32 s2 ([(LCol.mk x2.name x2.kind (q.kind == (5 : Int)))] : List LCol)) fun (x76 : List LCol) =>
      some (.next x76))) 0 x58 x54) fun fl2=>fl2.thenP fun (s2 : List LCol) =>
    af (aJ q.exprs 0) fun (x83 : LExpr) =>
    bv (cL c s2 x83) fun x85 =>
    some (s2,x85))
    (bv (
     cond (q.kind == (6 : Int))
      ((q.kind == (6 : Int)))
      ((q.kind == (7 : Int)))) fun (t3 : Bool) =>
    cond t3
     (af (aJ inA 0) fun (x92 : List LCol) =>
     af (aJ inA 1) fun (x95 : List LCol) =>
     af (iQ q.kind x92 x95) fun x97 =>
     some (x97.1,x97.2))
     (bv (
      cond (q.kind == (3 : Int))
       ((q.kind == (3 : Int)))
       ((q.kind == (8 : Int)))) fun (t4 : Bool) =>
     cond t4
      (af (aJ inA 0) fun (x106 : List LCol) =>
      af (eY c q x106) fun x108 =>
      some (x108.1,x108.2))
      (cond (q.kind == (9 : Int))
       (af (aH (σ := Unit) (ρ := ((List LCol) × Int)) (fun (_ : Nat) (x5 : LExpr) (_ : Unit) =>
        af (aJ inA 0) fun (x122 : List LCol) =>
        bv (cK x122 c.vars x5) fun x127 =>
        cond (x127.2.2 != (0 : Int))
         (some (.ret ([],x127.2.2)))
         (some (.next ()))) 0 q.exprs ()) fun fl5=>fl5.thenR fun (_ : Unit) =>
       af (aJ inA 0) fun (x136 : List LCol) =>
       some (x136,0))
       (af (aJ inA 0) fun (x136 : List LCol) =>
       some (x136,0)))))))
theorem sf (c : LChecker) (q : LQuery) (inA : List (List LCol)) (r : (List LCol) × Int) (H : iE c q inA = some r) :
  aK Tryz.prog 169 [(.agg (eF c)),(.agg (aI q)),(.list 60 (inA.map (am 68 ay)))] (.tup [(.list 68 (r.1.map ay)),(al r.2)]) := by
 unfold iE at H
 refine PH.au Tryz.func169 Tryz.ntmps169 ?_
 refine ab (aa (aE ?_))
 refine aE ?_
 refine ag 2 tk rfl (ac (ab (ao 2 tk rfl (aw (ao 2 tk rfl ?_)))))
 refine aF rfl H (fun H=>?_) (fun H=>?_)
 ·refine ab (aa (ag 4 tk rfl ?_))
  obtain ⟨x25,h25,H⟩ := av H
  have s25 := iw c.s.tables (fun a0=>some (eZ a0 q)) Tryz.call230 (fun a0 r h=>(az h) ▸ qI a0 q) _ h25
  refine ak Tryz.call165 (jn.r) s25 ?_
  refine ah tk rfl (ac (ab (ao 2 tk rfl ?_)))
  refine aF rfl H (fun H=>?_) (fun H=>?_)
  ·refine ao 2 tk rfl ?_
   obtain rfl := az H
   refine ba tk rfl (ps := [(.val (.slice none 0 0)),(al 4)]) ⟨_,_,rfl,rfl,_,_,rfl,rfl,rfl⟩ (PLe.of2 (oB.tup (iZ.cons (oB.nil tk rfl) (iZ.cons (oB.of_eq rfl) iZ.nil))))
  refine ap (ab (aa (ag 4 tk rfl ?_)))
  obtain ⟨x32,k32,H⟩ := bs H
  refine aU tk k32.1 (aP (fun _=>rfl) k32.2) ?_
  refine ag 2 tk rfl ?_
  have s35 := ol (m := 35) x32.columns
  refine ak Tryz.call195 (jn.r) (PFun.ju s35) ?_
  refine ag 2 tk rfl (ac ?_)
  exact aY tk H rfl
 refine ao 2 tk rfl ?_
 refine aF rfl H (fun H=>?_) (fun H=>?_)
 ·refine ab (bm tk mok ⟨false,false,[]⟩ [0,1,2,3,4,5,6,7,8,9,10,11,12,13] rfl (by decide +kernel) rfl (bV rfl ?_))
  obtain ⟨x39,k39,H⟩ := bs H
  refine bE k39.1 (aP (fun _=>rfl) k39.2) ?_
  refine aN 3 rfl ?_
  obtain ⟨x43,k43,H⟩ := bs H
  refine bE k43.1 (aP (fun _=>rfl) k43.2) ?_
  refine aN 3 rfl ?_
  obtain ⟨x47,k47,H⟩ := bs H
  refine bE k47.1 (aP eS k47.2) ?_
  refine bV rfl ?_
  obtain ⟨x49,h49,H⟩ := cX H
  have s49 := ll c x43 x47
  rw [h49] at s49
  refine aV Tryz.call231 (jn.r) s49 ?_
  refine aN 2 rfl (be ?_)
  exact aY tk H rfl
 refine ab (ao 2 tk rfl ?_)
 refine gp (γ := Unit) (fun t1 g1=>⟨138,upd (upd (upd (upd (upd (fun _=>.any) 50 (aC t1)) 18 (al q.kind)) 4 (.ptr (aI q))) 3 (.ptr (eF c))) 2 (.list 60 (inA.map (am 68 ay))),fun _=>none,fun _=>none⟩) H (fun _ H=>?_) (fun t1 g1 H=>?_)
 ·refine aF rfl H (fun H=>?_) (fun H=>?_)
  ·refine ap ?_
   refine aT _ () H Gh.d
  refine bc 2 tk rfl ?_
  refine aT _ () H Gh.d
 refine aF rfl H (fun H=>?_) (fun H=>?_)
 ·refine ab (aa (ah tk rfl ?_))
  obtain ⟨x54,k54,H⟩ := bs H
  refine aU tk k54.1 (aP (fun _=>rfl) k54.2) ?_
  refine ah tk rfl ?_
  have s56 := ol (m := 56) x54
  refine kF Tryz.call195 (jn.r) s56 (fun g56=>?_)
  refine ah tk rfl (ac (ab (ab (aa (ah tk rfl ?_)))))
  obtain ⟨x58,k58,H⟩ := bs H
  refine aU tk k58.1 (aP (fun _=>rfl) k58.2) ?_
  refine ah tk rfl (aA tk (zl _) ?_)
  refine ah tk rfl (ac ?_)
  refine hZ (γ := OwnRef) tk 61 60 59 (fun s2 g2=>upd (upd (upd (fun _=>.any) 9 (.own 56 g2 (s2.map ay).length)) 4 (.ptr (aI q))) 3 (.ptr (eF c))) nB (fun s2 g2=>upd (fun _=>none) 56 (some ⟨g2,68,(s2.map ay),true⟩)) g56 H (fun fl2 Hp2 j2 s2 g2 hz2 hl2 x2 fb2 hx2 H hg2=>?_) (fun s2 g2 H=>?_)
  ·refine ab (aw (ab (aa ?_)))
   refine aU tk (zn j2) (bn (fun _=>rfl) hx2) ?_
   refine ah tk rfl ?_
   refine bg tk fun b11=>?_
   refine aq tk ?_
   refine ac (ab (aa (ah tk rfl (aD tk ?_))))
   refine ah tk rfl ?_
   refine bh rfl rfl rfl H (fun H=>?_) (fun H=>?_)
   ·refine ag 5 tk rfl (aq tk ?_)
    refine ac (aa (ah tk rfl (aD tk ?_)))
    refine cn tk (rows' := List.map ay ([(LCol.mk x2.name x2.kind true)] : List LCol)) (gD.refl _) ?_
    obtain ⟨x76,h76,H⟩ := av H
    have k76 := cu h76
    refine cp (rows2' := List.map ay ([(LCol.mk x2.name x2.kind true)] : List LCol)) (rows' := List.map ay x76) tk rfl rfl rfl rfl rfl rfl rfl rfl rfl rfl rfl rfl rfl (gD.refl _) (dT k76.1) (dU k76.2.1) (dS k76.2.2) fun g76=>?_
    refine ah tk rfl (ac (aG (bc 2 tk rfl ?_)))
    exact bl g76 H hl2 hg2
   refine ag 5 tk rfl (aq tk ?_)
   refine ac (aa (ah tk rfl (aD tk ?_)))
   refine cn tk (rows' := List.map ay ([(LCol.mk x2.name x2.kind (q.kind == (5 : Int)))] : List LCol)) (gD.refl _) ?_
   obtain ⟨x76,h76,H⟩ := av H
   have k76 := cu h76
   refine cp (rows2' := List.map ay ([(LCol.mk x2.name x2.kind (q.kind == (5 : Int)))] : List LCol)) (rows' := List.map ay x76) tk rfl rfl rfl rfl rfl rfl rfl rfl rfl rfl rfl rfl rfl (gD.refl _) (dT k76.1) (dU k76.2.1) (dS k76.2.2) fun g76=>?_
   refine ah tk rfl (ac (aG (bc 2 tk rfl ?_)))
   exact bl g76 H hl2 hg2
  refine ab (dP 9 rfl rfl rfl (bm tk mok ⟨false,false,[]⟩ [0,1,2,3,4,5,6,7,8,9] rfl (by decide +kernel) rfl (aN 5 rfl ?_)))
  obtain ⟨x83,k83,H⟩ := bs H
  refine bE k83.1 (aP eS k83.2) ?_
  refine bV rfl ?_
  obtain ⟨x85,h85,H⟩ := cX H
  have s85 := ll c s2 x83
  rw [h85] at s85
  refine aV Tryz.call231 (jn.r) s85 ?_
  refine aN 2 rfl (be ?_)
  exact aY tk H rfl
 refine ab (ao 2 tk rfl ?_)
 refine gp (γ := Unit) (fun t3 g3=>⟨138,upd (upd (upd (upd (upd (fun _=>.any) 86 (aC t3)) 18 (al q.kind)) 4 (.ptr (aI q))) 3 (.ptr (eF c))) 2 (.list 60 (inA.map (am 68 ay))),fun _=>none,fun _=>none⟩) H (fun _ H=>?_) (fun t3 g3 H=>?_)
 ·refine aF rfl H (fun H=>?_) (fun H=>?_)
  ·refine ap ?_
   refine aT _ () H Gh.d
  refine bc 2 tk rfl ?_
  refine aT _ () H Gh.d
 refine aF rfl H (fun H=>?_) (fun H=>?_)
 ·refine ab (bm tk mok ⟨false,false,[]⟩ [0,1,2,3,4,5,6,7,8,9,10,11,12] rfl (by decide +kernel) rfl (aN 3 rfl ?_))
  obtain ⟨x92,k92,H⟩ := bs H
  refine bE k92.1 (aP (fun _=>rfl) k92.2) ?_
  refine aN 2 rfl ?_
  obtain ⟨x95,k95,H⟩ := bs H
  refine bE k95.1 (aP (fun _=>rfl) k95.2) ?_
  refine bV rfl ?_
  obtain ⟨x97,h97,H⟩ := av H
  have s97 := sY q.kind x92 x95 _ h97
  refine aV Tryz.call232 (jn.r) s97 ?_
  refine aN 4 rfl (be ?_)
  exact aY tk H rfl
 refine ab (ao 2 tk rfl ?_)
 refine gp (γ := Unit) (fun t4 g4=>⟨138,upd (upd (upd (upd (upd (fun _=>.any) 100 (aC t4)) 18 (al q.kind)) 4 (.ptr (aI q))) 3 (.ptr (eF c))) 2 (.list 60 (inA.map (am 68 ay))),fun _=>none,fun _=>none⟩) H (fun _ H=>?_) (fun t4 g4 H=>?_)
 ·refine aF rfl H (fun H=>?_) (fun H=>?_)
  ·refine ap ?_
   refine aT _ () H Gh.d
  refine bc 2 tk rfl ?_
  refine aT _ () H Gh.d
 refine aF rfl H (fun H=>?_) (fun H=>?_)
 ·refine ab (bm tk mok ⟨false,false,[]⟩ [0,1,2,3,4,5,6,7,8,9] rfl (by decide +kernel) rfl (aN 3 rfl ?_))
  obtain ⟨x106,k106,H⟩ := bs H
  refine bE k106.1 (aP (fun _=>rfl) k106.2) ?_
  refine bV rfl ?_
  obtain ⟨x108,h108,H⟩ := av H
  have s108 := nA c q x106 _ h108
  refine aV Tryz.call233 (jn.r) s108 ?_
  refine aN 4 rfl (be ?_)
  exact aY tk H rfl
 refine ao 2 tk rfl ?_
 refine aF rfl H (fun H=>?_) (fun H=>?_)
 ·refine ab (aa (ag 2 tk rfl (aA tk (zl _) ?_)))
  refine ah tk rfl (ac ?_)
  refine eM tk 116 115 114 (fun s5 g5=>upd (upd (fun _=>.any) 3 (.ptr (eF c))) 2 (.list 60 (inA.map (am 68 ay)))) nB nO () H (fun fl5 Hp5 j5 s5 g5 hz5 hl5 x5 fb5 hx5 H hg5=>?_) (fun s5 g5 H=>?_)
  ·refine ab (aw (ab (aa (aU tk (zn j5) (bn eS hx5) ?_))))
   refine ah tk rfl ?_
   refine bg tk fun b13=>?_
   refine aq tk ?_
   refine ac (ab (bm tk mok ⟨true,false,[123,125]⟩ [0,1,2,3,4,5,6,7,8,9,10,11,12,13] rfl (by decide +kernel) rfl (bV rfl ?_)))
   obtain ⟨x122,k122,H⟩ := bs H
   refine bE k122.1 (aP (fun _=>rfl) k122.2) ?_
   refine aN 3 rfl (bO ?_)
   obtain ⟨x127,h127,H⟩ := cX H
   have s127 := nQ x122 c.vars x5
   rw [h127] at s127
   refine aV Tryz.call132 (jn.r) s127 ?_
   refine aN 7 rfl (be (ao 2 tk rfl ?_))
   refine aF rfl H (fun H=>?_) (fun H=>?_)
   ·refine ao 3 tk rfl ?_
    obtain rfl := az H
    have e5 : fl5 = .ret _ := hg5
    subst e5
    obtain rfl := aS Hp5
    refine ba tk rfl (ps := [(.val (.slice none 0 0)),(al x127.2.2)]) ⟨_,_,rfl,rfl,_,_,rfl,rfl,rfl⟩ (PLe.of2 (oB.tup (iZ.cons (oB.nil tk rfl) (iZ.cons (oB.of_eq rfl) iZ.nil))))
   refine ap (aG (bc 2 tk rfl ?_))
   exact bl () H hl5 hg5
  refine aG (ab (aa (ah tk rfl ?_)))
  obtain ⟨x136,k136,H⟩ := bs H
  refine aU tk k136.1 (aP (fun _=>rfl) k136.2) ?_
  refine ag 3 tk rfl (ac ?_)
  exact aY tk H rfl
 refine ap (aG (ab (aa (ah tk rfl ?_))))
 obtain ⟨x136,k136,H⟩ := bs H
 refine aU tk k136.1 (aP (fun _=>rfl) k136.2) ?_
 refine ag 3 tk rfl (ac ?_)
 exact aY tk H rfl
def jj (rA : LRun) (q : LQuery) (cols : List LCol) (inA : Rz) : Option (Rz) :=
 bv (
  cond ((q.exprs.length : Int) == (0 : Int))
   (([[]],[[]]))
   (([],[]))) fun (t1 : Rz × List Rz) =>
 af (aH (σ := Rz × List Rz) (ρ := Empty) (fun (_ : Nat) (x2 : Rq) (s2 : Rz × List Rz) =>
  af (cI rA cols x2 q.exprs) fun x38 =>
  af (bL s2.1 (fun a0=>gL a0 x38)) fun x41 =>
  af (fo (x41.2.length = s2.1.length) ()) fun (_ : Unit) =>
  af (
   cond (decide (x41.1 < (0 : Int)))
    (af (dg 24 x41.2 ([x38] : Rz)) fun (x49 : Rz) =>
    af (dg 24 s2.2 ([[]] : List Rz)) fun (x52 : List Rz) =>
    some (x49,x52,(x41.2.length : Int)))
    (some (x41.2,s2.2,x41.1))) fun (t7 : Rz × List Rz × Int) =>
  af (aJ t7.2.1 t7.2.2) fun (x57 : Rz) =>
  af (dg 24 x57 ([x2] : Rz)) fun (x61 : Rz) =>
  af (aJ t7.2.1 t7.2.2) fun (_ : Rz) =>
  bv (t7.2.1.set t7.2.2.toNat x61) fun (y8 : List Rz) =>
  some (.next (t7.1,y8))) 0 inA (t1.1,t1.2)) fun fl2=>fl2.thenP fun (s2 : Rz × List Rz) =>
 af (fo (s2.2.length * 24 ≤ 2 ^ 47) ()) fun (_ : Unit) =>
 af (nZ (s2.1.length : Int)) fun (n10 : Nat) =>
 af (aH (σ := Rz) (ρ := Empty) (fun (j10 : Nat) (_ : Nat) (s10 : Rz) =>
  af (aJ s2.1 (j10 : Int)) fun (x69 : Rq) =>
  af (aH (σ := Rq) (ρ := Empty) (fun (_ : Nat) (x13 : LAggregateCall) (s13 : Rq) =>
   af (aJ s2.2 (j10 : Int)) fun (x86 : Rz) =>
   af (kd rA x13 cols x86) fun x88 =>
   af (dg 32 s13 ([x88] : Rq)) fun (x90 : Rq) =>
   some (.next x90)) 0 q.aggregates x69) fun fl13=>fl13.thenP fun (s13 : Rq) =>
  af (dg 24 s10 ([s13] : Rz)) fun (x95 : Rz) =>
  some (.next x95)) 0 (List.range n10) []) fun fl10=>fl10.thenP fun (s10 : Rz) =>
 some s10
theorem tM (rA : LRun) (q : LQuery) (cols : List LCol) (inA : Rz) (r : Rz) (H : jj rA q cols inA = some r) :
  aK Tryz.prog 161 [(.agg (eh rA)),(.agg (aI q)),(.list 68 (cols.map ay)),(.list 75 (inA.map (am 73 ae)))] (.list 75 (r.map (am 73 ae))) := by
 unfold jj at H
 refine PH.au Tryz.func161 Tryz.ntmps161 ?_
 refine ab (aa (aE ?_))
 refine aE ?_
 refine ah tk rfl (ac (ao 1 tk rfl (ao 1 tk rfl (ab (ab (aa (ag 2 tk rfl (aA tk (zl _) ?_))))))))
 refine ah tk rfl (ac ?_)
 refine gp (γ := OwnRef × (Nat × Nat × (Nat → OwnRef))) (fun t1 g1=>⟨98,upd (upd (upd (upd (upd (upd (fun _=>.any) 10 (.val (jq g1.2.1 t1.2.length g1.2.2.1))) 9 (.own 25 g1.1 (t1.1.map (am 73 ae)).length)) 5 (.ptr (aI q))) 4 (.ptr (eh rA))) 3 (.list 75 (inA.map (am 73 ae)))) 2 (.list 68 (cols.map ay)),upd (fun _=>none) 990 (jb g1.2.1 g1.2.2.2 (List.map (List.map (am 73 ae)) t1.2) g1.2.2.1),fg 75 g1.2.2.2 (List.map (List.map (am 73 ae)) t1.2) (upd (fun _=>none) 25 (some ⟨g1.1,75,(t1.1.map (am 73 ae)),true⟩))⟩) H (fun _ H=>?_) (fun t1 g1 H=>?_)
 ·refine aF rfl H (fun H=>?_) (fun H=>?_)
  ·refine aa ?_
   refine po (rows' := List.map (am 73 ae) ([[]] : Rz)) tk rfl rfl rfl rfl rfl rfl rfl rfl rfl (iZ.cons (oB.nil tk rfl) iZ.nil) fun g25=>?_
   refine vk 990 75 tk rfl rfl rfl rfl rfl rfl rfl rfl fun bf26 cf26=>?_
   refine ag 2 tk rfl (ac ?_)
   refine aT _ (g25,(bf26,cf26,(fun _=>⟨none,0⟩))) H (Gh.le (ax (ax (ax (ax (ax (ax aW)))))) (kZ rfl aM) (ky (fun i rs h=>by first | exact eJ h | (simp only [mB,gZ,iy,Nat.reduceLT]; exact eJ h)) (aZ aL)))
  refine ap (iR tk 9 25 (e := 75) rfl rfl ?_)
  refine aT _ (⟨none,0⟩,(0,0,fun _=>⟨none,0⟩)) H (Gh.le (ax (ax (ax (ax (ax (ax aW)))))) (vc aM) (vd (aZ aL)))
 refine ab (ab (aa (ah tk rfl (aA tk (zl _) ?_))))
 refine ah tk rfl (ac ?_)
 obtain ⟨fl2,H2,Hp2⟩ := av H
 refine iq tk 27 rfl rfl (fun hz2 _=>?_)
 rw [zl] at hz2
 refine fY (τ := Rz × List Rz) (γ := OwnRef × (Nat × Nat × (Nat → OwnRef))) (fun s2 g2=>⟨98,upd (upd (upd (upd (upd (fun _=>.any) 10 (.val (jq g2.2.1 s2.2.length g2.2.2.1))) 9 (.own 25 g2.1 (s2.1.map (am 73 ae)).length)) 5 (.ptr (aI q))) 4 (.ptr (eh rA))) 2 (.list 68 (cols.map ay)),upd (fun _=>none) 990 (jb g2.2.1 g2.2.2.2 (List.map (List.map (am 73 ae)) s2.2) g2.2.2.1),fg 75 g2.2.2.2 (List.map (List.map (am 73 ae)) s2.2) (upd (fun _=>none) 25 (some ⟨g2.1,75,(s2.1.map (am 73 ae)),true⟩))⟩) (fun t=>fl2 = .next t) ?_ (fun s2 g2 hn2=>?_)
 ·refine aw ?_
  refine jC (fun j2 s2 g2=>⟨98,upd (upd (upd (upd (upd (upd (upd (upd (fun _=>.any) 29 (al (j2 : Int))) 28 (al (inA.length : Int))) 27 (.list 75 (inA.map (am 73 ae)))) 10 (.val (jq g2.2.1 s2.2.length g2.2.2.1))) 9 (.own 25 g2.1 (s2.1.map (am 73 ae)).length)) 5 (.ptr (aI q))) 4 (.ptr (eh rA))) 2 (.list 68 (cols.map ay)),upd (fun _=>none) 990 (jb g2.2.1 g2.2.2.2 (List.map (List.map (am 73 ae)) s2.2) g2.2.2.1),fg 75 g2.2.2.2 (List.map (List.map (am 73 ae)) s2.2) (upd (fun _=>none) 25 (some ⟨g2.1,75,(s2.1.map (am 73 ae)),true⟩))⟩) (g1.1,(g1.2.1,g1.2.2.1,g1.2.2.2)) H2 (Gh.le (ax (ax (ax (ax (ax (ax (ax (ax aW)))))))) (kZ rfl aM) (ky (fun i rs h=>by first | exact eJ h | (simp only [mB,gZ,iy,Nat.reduceLT]; exact eJ h)) (aZ aL))) (fun j2 s2 g2 hj2 hr2=>?_)
  refine ao 1 tk rfl (ab ?_)
  refine br rfl (fun h=>?_) (fun h=>?_)
  ·have hl2 := qH h
   obtain ⟨x2,fb2,hx2,H,hg2⟩ := rMc hl2 hr2
   refine ap (ab (aw (ab (aa ?_))))
   refine aU tk (zn j2) (bn (fun _=>rfl) hx2) ?_
   refine ag 2 tk rfl (ac (ab (aa (ag 5 tk rfl ?_))))
   obtain ⟨x38,h38,H⟩ := av H
   have s38 := kv rA cols x2 q.exprs _ h38
   refine ak Tryz.call160 (jn.r) s38 ?_
   refine bg tk fun b13=>?_
   refine aq tk ?_
   refine ac (ab (aa (ah tk rfl (dc (Gh.freezeB 13 rfl rfl rfl rfl) (ah tk rfl ?_)))))
   obtain ⟨x41,h41,H⟩ := av H
   have s41 := fW g2.1 s2.1 (fun a0=>gL a0 x38) Tryz.call224 (fun a0 r h=>sd a0 x38 r h) _ h41
   obtain ⟨_,q41_0,H⟩ := av H
   have l41_0 := (dJ q41_0).1
   have z41_0 : (List.map (am 73 ae) s2.1).length = (List.map (am 73 ae) x41.2).length := by simpa using (l41_0).symm
   refine dN (g := 219) rfl rfl rfl Tryz.call219 [] [(25,0)] rfl rfl rfl rfl (jn.of2 (iZ.cons (oB.own rfl) (iZ.cons (oB.of_eq rfl) iZ.nil))) (by rw [cW,ci,cV]; rfl) s41 ?_
   rintro u41 H41h ⟨rfl,rfl⟩
   refine ⟨_,rfl,?_⟩
   refine dc (st' := ⟨_,_,upd (fun _=>none) 990 (jb g2.2.1 g2.2.2.2 (List.map (List.map (am 73 ae)) s2.2) g2.2.2.1),fg 75 g2.2.2.2 (List.map (List.map (am 73 ae)) s2.2) (upd (fun _=>none) 25 (some ⟨g2.1,75,(x41.2.map (am 73 ae)),true⟩))⟩) (Gh.le (cy _ _) (kZ rfl aM) (ky (fun i rs h=>by first | exact eJ h | (simp only [gZ,iy,Nat.reduceLT]; exact eJ h)) (aZ aL))) ?_
   refine ah tk rfl (ac (ab (ao 2 tk rfl ?_)))
   refine eO (γ := OwnRef × (Nat × Nat × (Nat → OwnRef))) (fun t7 g7=>⟨98,upd (upd (upd (upd (upd (upd (upd (upd (upd (upd (fun _=>.any) 29 (al (j2 : Int))) 28 (al (inA.length : Int))) 27 (.list 75 (inA.map (am 73 ae)))) 14 (al t7.2.2)) 12 (.list 73 (x2.map ae))) 10 (.val (jq g7.2.1 t7.2.1.length g7.2.2.1))) 9 (.own 25 g7.1 (t7.1.map (am 73 ae)).length)) 5 (.ptr (aI q))) 4 (.ptr (eh rA))) 2 (.list 68 (cols.map ay)),upd (fun _=>none) 990 (jb g7.2.1 g7.2.2.2 (List.map (List.map (am 73 ae)) t7.2.1) g7.2.2.1),fg 75 g7.2.2.2 (List.map (List.map (am 73 ae)) t7.2.1) (upd (fun _=>none) 25 (some ⟨g7.1,75,(t7.1.map (am 73 ae)),true⟩))⟩) H (fun _ H=>?_) (fun t7 g7 H=>?_)
   ·refine aF rfl H (fun H=>?_) (fun H=>?_)
    ·refine ab (aa (ah tk rfl (jf tk (z41_0.trans (zl _)) ?_)))
     refine ah tk rfl (ac (aa (ag 2 tk rfl (cn tk (rows' := List.map (am 73 ae) ([x38] : Rz)) (gD.refl _) ?_))))
     obtain ⟨x49,h49,H⟩ := av H
     have k49 := cu h49
     refine cp (rows2' := List.map (am 73 ae) ([x38] : Rz)) (rows' := List.map (am 73 ae) x49) tk rfl rfl rfl rfl rfl rfl rfl rfl rfl rfl rfl z41_0 rfl (gD.refl _) (dT k49.1) (dU k49.2.1) (dS k49.2.2) fun g49=>?_
     refine ah tk rfl (sx tk rfl rfl rfl rfl rfl rfl ?_)
     obtain ⟨x52,h52,H⟩ := av H
     have k52 := cu h52
     refine dc (st' := ⟨_,_,upd (fun _=>none) 990 (jb g2.2.1 g2.2.2.2 (List.map (List.map (am 73 ae)) s2.2) g2.2.2.1),fg 75 g2.2.2.2 (List.map (List.map (am 73 ae)) s2.2) (upd (fun _=>none) 25 (some ⟨g49,75,(x49.map (am 73 ae)),true⟩))⟩) (Gh.le (cy _ _) (kZ rfl aM) (ky (fun i rs h=>by first | exact eJ h | (simp only [mB,Nat.reduceLT]; exact eJ h)) (aZ aL))) ?_
     refine vl 990 75 tk rfl rfl rfl rfl rfl rfl rfl rfl rfl rfl rfl (zl _).symm rfl rfl (by rw [zl]; exact k52.1) (by rw [zl]; exact k52.2.1) fun bf52 cf52=>?_
     have hz52 : List.map (List.map (am 73 ae)) x52 = List.map (List.map (am 73 ae)) s2.2 ++ [[]] := by rw [k52.2.2,List.map_append]; rfl
     refine dc (st' := ⟨_,_,upd (fun _=>none) 990 (jb bf52 (upd g2.2.2.2 s2.2.length ⟨none,0⟩) (List.map (List.map (am 73 ae)) x52) cf52),fg 75 (upd g2.2.2.2 s2.2.length ⟨none,0⟩) (List.map (List.map (am 73 ae)) x52) (upd (fun _=>none) 25 (some ⟨g49,75,(x49.map (am 73 ae)),true⟩))⟩) (Gh.le (cy _ _) (kZ (by rw [hz52]; rfl) aM) (ky (fun i rs h=>by rw [hz52] at h; exact eJ h) (aZ aL))) ?_
     refine lP 52 (q := (.val (jq bf52 x52.length cf52))) rfl (PLe.q (by rw [k52.2.2,List.length_append]; rfl)) ?_
     refine ag 2 tk rfl (ac ?_)
     refine aT _ (g49,(bf52,cf52,(upd g2.2.2.2 s2.2.length ⟨none,0⟩))) (az H) (Gh.le (ax (ax (ax (ax (ax (ax (ax (ax (ax (ax aW)))))))))) (kZ rfl aM) (ky (fun i rs h=>by first | exact eJ h | (simp only [mB,gZ,iy,Nat.reduceLT]; exact eJ h)) (aZ aL)))
    refine ap ?_
    refine aT _ (g2.1,(g2.2.1,g2.2.2.1,g2.2.2.2)) (az H) (Gh.le (ax (ax (ax (bJ (PLe.of2 (oB.of_eq (congrArg (PV.own 25 g2.1) z41_0))) (ax (ax (ax (ax (ax (ax aW)))))))))) (kZ rfl aM) (ky (fun i rs h=>by first | exact eJ h | (simp only [mB,gZ,iy,Nat.reduceLT]; exact eJ h)) (aZ aL)))
   refine aa (ag 4 tk rfl ?_)
   obtain ⟨x57,k57,H⟩ := bs H
   have wk57 : (List.map (List.map (am 73 ae)) t7.2.1)[t7.2.2.toNat]? = some (List.map (am 73 ae) x57) := by rw [List.getElem?_map,k57.2]; rfl
   refine uL 990 tk rfl rfl rfl rfl rfl rfl rfl rfl ⟨k57.1,(zg.1 k57.2).1⟩ rfl ?_
   refine vt (hok := qV _ _ _) tk rfl rfl rfl rfl rfl (sO wk57) (famCells_get wk57) rfl (ah tk rfl (cn tk (rows' := List.map (am 73 ae) ([x2] : Rz)) (gD.refl _) ?_))
   obtain ⟨x61,h61,H⟩ := av H
   have k61 := cu h61
   refine cp (rows2' := List.map (am 73 ae) ([x2] : Rz)) (rows' := List.map (am 73 ae) x61) tk rfl rfl rfl rfl rfl rfl rfl rfl rfl rfl (eJ wk57) rfl rfl (gD.refl _) (dT k61.1) (dU k61.2.1) (dS k61.2.2) fun g61=>?_
   obtain ⟨x62,k62,H⟩ := bs H
   have wk62 : (List.map (List.map (am 73 ae)) t7.2.1)[t7.2.2.toNat]? = some (List.map (am 73 ae) x62) := by rw [List.getElem?_map,k62.2]; rfl
   refine uL 990 tk rfl rfl rfl rfl rfl rfl rfl rfl ⟨k62.1,(zg.1 k62.2).1⟩ rfl ?_
   obtain ⟨y8,hy8,H⟩ := cX H
   have hzy8 : List.map (List.map (am 73 ae)) y8 = (List.map (List.map (am 73 ae)) t7.2.1).set t7.2.2.toNat (List.map (am 73 ae) x61) := by rw [← hy8,List.map_set]
   have hly8 : y8.length = t7.2.1.length := by rw [← hy8,List.length_set]
   refine vh (hok := qV _ _ _) tk rfl rfl rfl rfl rfl rfl (sO wk62) rfl rfl (by rw [pD]; exact Nat.lt_of_lt_of_le (zg.1 wk62).1 (kh _ _)) (famCells_set wk62 _) ?_
   refine dc (st' := ⟨_,_,upd (fun _=>none) 990 (jb g7.2.1 (upd g7.2.2.2 t7.2.2.toNat g61) (List.map (List.map (am 73 ae)) y8) g7.2.2.1),fg 75 (upd g7.2.2.2 t7.2.2.toNat g61) (List.map (List.map (am 73 ae)) y8) (upd (fun _=>none) 25 (some ⟨g7.1,75,(t7.1.map (am 73 ae)),true⟩))⟩) (Gh.le (cy _ _) (kZ (famB_put wk62 hzy8) aM) (ky (famO_put wk62 hzy8) (vx (by rw [fJ _ _ (by unfold bD; omega)]; rfl) aL))) ?_
   refine lP 10 (q := (.val (jq g7.2.1 y8.length g7.2.2.1))) rfl (PLe.q (by rw [hly8]; rfl)) ?_
   refine lP 53 (q := (.val (jq g7.2.1 y8.length g7.2.2.1))) rfl (PLe.q (by rw [hly8]; rfl)) ?_
   refine lP 55 (q := (.val (jq g7.2.1 y8.length g7.2.2.1))) rfl (PLe.q (by rw [hly8]; rfl)) ?_
   refine ac (aG (bc 2 tk rfl ?_))
   exact bl (g7.1,(g7.2.1,g7.2.2.1,(upd g7.2.2.2 t7.2.2.toNat g61))) H hl2 hg2 (Gh.le (ax (ax (ax (ax (ax (ax (ax (bJ (PLe.q (fO (by omega))) aW)))))))) (kZ rfl aM) (ky (fun i rs h=>by first | exact eJ h | (simp only [mB,gZ,iy,Nat.reduceLT]; exact eJ h)) (aZ aL)))
  have hn2 := rMd (qJ h) hr2
  refine bq rfl ?_
  refine aT s2 g2 hn2 (Gh.le (ax (ax (ax (ax (ax aW))))) (kZ rfl aM) (ky (fun i rs h=>by first | exact eJ h | (simp only [mB,gZ,iy,Nat.reduceLT]; exact eJ h)) (aZ aL)))
 have H := dG hn2 Hp2
 refine ao 1 tk rfl (ab (ab (aa (ah tk rfl (jf tk (zl _) ?_)))))
 refine ah tk rfl (ac ?_)
 obtain ⟨_,hf9,H⟩ := av H
 have kf9 := (dJ hf9).1
 refine uT 10 990 tk (e := 75) (e' := 61) (rows := List.map (am 75 (am 73 ae)) s2.2) rfl rfl rfl (zl _).symm rfl (by rw [zl]; exact kf9) (by rw [zl]; unfold maxLen; omega) (by rw [List.map_map]; rfl) ?_
 obtain ⟨n10,hs10,H⟩ := av H
 have hz10 := nP hs10
 obtain ⟨fl10,H10,Hp10⟩ := av H
 refine fY (τ := Rz) (γ := OwnRef) (fun s10 g10=>⟨98,upd (fun _=>.any) 15 (.own 95 g10 (s10.map (am 73 ae)).length),fun _=>none,upd (fun _=>none) 95 (some ⟨g10,75,(s10.map (am 73 ae)),true⟩)⟩) (fun t=>fl10 = .next t) ?_ (fun s10 g10 hn10=>?_)
 ·refine aw (iR tk 15 95 (e := 75) rfl rfl ?_)
  refine jC (fun j10 s10 g10=>⟨98,upd (upd (upd (upd (upd (upd (upd (upd (fun _=>.any) 66 (al (j10 : Int))) 65 (al (s2.1.length : Int))) 64 (.own 25 g2.1 (s2.1.map (am 73 ae)).length)) 15 (.own 95 g10 (s10.map (am 73 ae)).length)) 10 (.list 61 (s2.2.map (am 75 (am 73 ae))))) 5 (.ptr (aI q))) 4 (.ptr (eh rA))) 2 (.list 68 (cols.map ay)),fun _=>none,upd (upd (fun _=>none) 95 (some ⟨g10,75,(s10.map (am 73 ae)),true⟩)) 25 (some ⟨g2.1,75,(s2.1.map (am 73 ae)),true⟩)⟩) (⟨none,0⟩) H10 Gh.d (fun j10 s10 g10 hj10 hr10=>?_)
  refine ao 1 tk rfl (ab ?_)
  refine br rfl (fun h=>?_) (fun h=>?_)
  ·have hl10 := natLt hz10 h
   obtain ⟨x10,fb10,hx10,H,hg10⟩ := rMc hl10 hr10
   obtain rfl := natX hx10
   refine ap (ab (aw (ab (aa (ah tk rfl ?_)))))
   obtain ⟨x69,k69,H⟩ := bs H
   refine lc (tag := 25) rfl (fun ho25=>?_)
   refine kp tk ⟨k69.1,(dR k69.2)⟩ (dZ ho25 k69.2) ?_
   refine pP tk rfl rfl rfl rfl rfl rfl rfl (aP (fun _=>rfl) k69.2) rfl rfl ?_
   refine ag 2 tk rfl (ac (ab (aa (ah tk rfl ?_))))
   have s72 := clone_101 (m := 72) x69
   refine kF Tryz.call101 (jn.r) s72 (fun g72=>?_)
   refine ah tk rfl (ac (ab (ab (aa (ag 2 tk rfl (aA tk (zl _) ?_))))))
   refine ah tk rfl (ac ?_)
   refine hZ (γ := OwnRef) tk 76 75 74 (fun s13 g13=>upd (upd (upd (upd (upd (upd (upd (upd (upd (upd (fun _=>.any) 66 (al (j10 : Int))) 65 (al (s2.1.length : Int))) 64 (.own 25 g2.1 (s2.1.map (am 73 ae)).length)) 18 (.own 72 g13 (s13.map ae).length)) 16 (al (j10 : Int))) 15 (.own 95 g10 (s10.map (am 73 ae)).length)) 10 (.list 61 (s2.2.map (am 75 (am 73 ae))))) 5 (.ptr (aI q))) 4 (.ptr (eh rA))) 2 (.list 68 (cols.map ay))) nB (fun s13 g13=>upd (upd (upd (fun _=>none) 95 (some ⟨g10,75,(s10.map (am 73 ae)),true⟩)) 72 (some ⟨g13,73,(s13.map ae),true⟩)) 25 (some ⟨g2.1,75,(s2.1.map (am 73 ae)),true⟩)) g72 H (fun fl13 Hp13 j13 s13 g13 hz13 hl13 x13 fb13 hx13 H hg13=>?_) (fun s13 g13 H=>?_)
   ·refine ab (aw (ab (aa ?_)))
    refine aU tk (zn j13) (bn (fun _=>rfl) hx13) ?_
    refine ah tk rfl ?_
    refine bg tk fun b20=>?_
    refine aq tk ?_
    refine ac ?_
    refine jX (tag := 25) rfl (fun ho25=>?_)
    refine jX (tag := 72) rfl (fun ho72=>?_)
    refine jX (tag := 95) rfl (fun ho95=>?_)
    refine bm tk mok ⟨true,false,[81,87]⟩ [0,1,2,3,4,5,6,7,8,9,10,11] rfl (by decide +kernel) rfl (aN 2 rfl (bO ?_))
    refine aN 3 rfl ?_
    obtain ⟨x86,k86,H⟩ := bs H
    refine bE k86.1 (aP (fun _=>rfl) k86.2) ?_
    refine bV rfl ?_
    obtain ⟨x88,h88,H⟩ := av H
    have s88 := uB rA x13 cols x86 _ h88
    refine aV Tryz.call225 (jn.r) s88 ?_
    refine bV rfl ?_
    obtain ⟨x90,h90,H⟩ := av H
    have k90 := cu h90
    refine lN (rows2' := List.map ae ([x88] : Rq)) (rows' := List.map ae x90) tk rfl rfl rfl rfl rfl rfl rfl rfl rfl rfl rfl rfl rfl rfl (gD.refl _) (dT k90.1) (dU k90.2.1) (dS k90.2.2) fun g90=>?_
    refine bV rfl (be (aG (bc 2 tk rfl ?_)))
    exact bl g90 H hl13 hg13
   refine dP 18 rfl rfl rfl (aa (ag 2 tk rfl (cn tk (rows' := List.map (am 73 ae) ([s13] : Rz)) (gD.refl _) ?_)))
   obtain ⟨x95,h95,H⟩ := av H
   have k95 := cu h95
   refine cp (rows2' := List.map (am 73 ae) ([s13] : Rz)) (rows' := List.map (am 73 ae) x95) tk rfl rfl rfl rfl rfl rfl rfl rfl rfl rfl rfl rfl rfl (gD.refl _) (dT k95.1) (dU k95.2.1) (dS k95.2.2) fun g95=>?_
   refine ah tk rfl (ac (aG (bc 2 tk rfl ?_)))
   exact bl g95 H hl10 hg10 (Gh.le (ax (ax (ax (ax (ax (ax (ax (bJ (PLe.q (pe hz10 hl10)) aW)))))))) aM (aZ (aZ aL)))
  have hn10 := rMd (natGe hz10 h) hr10
  refine bq rfl ?_
  refine aT s10 g10 hn10 Gh.d
 have H := dG hn10 Hp10
 refine ao 2 tk rfl (dP 8 rfl rfl rfl ?_)
 exact aY tk H rfl
def ec (a : Rq) (b : Rq) (c0 : LRun) (c1 : List LCol) (c2 : LQuery) : Option (Int) :=
 af (cI c0 c1 a c2.exprs) fun x13 =>
 af (cI c0 c1 b c2.exprs) fun x19 =>
 af (iG x13 x19 c2.descending) fun x22 =>
 some x22
theorem su (a : Rq) (b : Rq) (c0 : LRun) (c1 : List LCol) (c2 : LQuery) (r : Int) (H : ec a b c0 c1 c2 = some r) :
  aK Tryz.prog 227 [(.list 73 (a.map ae)),(.list 73 (b.map ae)),(.ptr (eh c0)),(.ptr [(.list 68 (c1.map ay))]),(.ptr (aI c2))] (al r) := by
 unfold ec at H
 refine PH.au Tryz.func227 Tryz.ntmps227 ?_
 refine ao 1 tk rfl (ab (bm tk mok ⟨false,false,[]⟩ [0,1,2,3,4,6,7,8,9,10,12,13,5,11,14,15] rfl (by decide +kernel) rfl (aN 12 rfl ?_)))
 obtain ⟨x13,h13,H⟩ := av H
 have s13 := kv c0 c1 a c2.exprs _ h13
 refine aV Tryz.call160 (jn.r) s13 ?_
 obtain ⟨x19,h19,H⟩ := av H
 have s19 := kv c0 c1 b c2.exprs _ h19
 refine aV Tryz.call160 (jn.r) s19 ?_
 obtain ⟨x22,h22,H⟩ := av H
 have s22 := sh x13 x19 c2.descending _ h22
 refine aV Tryz.call228 (jn.r) s22 ?_
 refine bV rfl (be ?_)
 exact aY tk H rfl
def fv (rec112 : LChecker → LQuery → Option ((List LCol) × Int)) (c : LChecker) (q : LQuery) : Option ((List LCol) × Int) :=
 af (kV q) fun x16 =>
 cond (!x16)
  (some ([],3))
  (af (aH (σ := List (List LCol)) (ρ := ((List LCol) × Int)) (fun (_ : Nat) (x1 : LQuery) (s1 : List (List LCol)) =>
   af (rec112 c x1) fun x28 =>
   cond (x28.2 != (0 : Int))
    (some (.ret ([],x28.2)))
    (af (dg 24 s1 ([x28.1] : List (List LCol))) fun (x37 : List (List LCol)) =>
    some (.next x37))) 0 q.inputs []) fun fl1=>fl1.thenR fun (s1 : List (List LCol)) =>
  af (iE c q s1) fun x43 =>
  cond (x43.2 != (0 : Int))
   (some ([],x43.2))
   (cond (decide ((x43.1.length : Int) > (20 : Int)))
    (some ([],2))
    (af (aH (σ := Unit) (ρ := ((List LCol) × Int)) (fun (j2 : Nat) (x2 : LCol) (_ : Unit) =>
     af (nu x43.1 0 (j2 : Int)) fun (x61 : List LCol) =>
     af (cd x61 (fun a0=>some (cq a0 x2))) fun x63 =>
     cond x63
      (some (.ret ([],23)))
      (some (.next ()))) 0 x43.1 ()) fun fl2=>fl2.thenR fun (_ : Unit) =>
    some (x43.1,0))))
theorem pK (rec112 : LChecker → LQuery → Option ((List LCol) × Int)) (hrec112 : ∀ a0 a1 r,rec112 a0 a1 = some r → aK Tryz.prog 112 [(.agg (eF a0)),(.agg (aI a1))] (.tup [(.list 68 (r.1.map ay)),(al r.2)])) (c : LChecker) (q : LQuery) (r : (List LCol) × Int) (H : fv rec112 c q = some r) :
  aK Tryz.prog 112 [(.agg (eF c)),(.agg (aI q))] (.tup [(.list 68 (r.1.map ay)),(al r.2)]) := by
 unfold fv at H
 refine PH.au Tryz.func112 Tryz.ntmps112 ?_
 refine ab (aa (aE ?_))
 refine aE ?_
 refine ag 2 tk rfl (ac (ab (ab (aa (ah tk rfl ?_)))))
 obtain ⟨x16,h16,H⟩ := av H
 have s16 := W_query_shape q _ h16
 refine ak Tryz.call168 (jn.r) s16 ?_
 refine ah tk rfl (ac ?_)
 refine aF rfl H (fun H=>?_) (fun H=>?_)
 ·refine ao 2 tk rfl ?_
  obtain rfl := az H
  refine ba tk rfl (ps := [(.val (.slice none 0 0)),(al 3)]) ⟨_,_,rfl,rfl,_,_,rfl,rfl,rfl⟩ (PLe.of2 (oB.tup (iZ.cons (oB.nil tk rfl) (iZ.cons (oB.of_eq rfl) iZ.nil))))
 refine ap (ao 1 tk rfl (ab (ab (aa (ag 2 tk rfl (aA tk (zl _) ?_))))))
 refine ah tk rfl (ac (iR tk 6 37 (e := 60) rfl rfl ?_))
 refine eM (γ := OwnRef) tk 21 20 19 (fun s1 g1=>upd (upd (upd (fun _=>.any) 6 (.own 37 g1 (s1.map (am 68 ay)).length)) 3 (.ptr (aI q))) 2 (.ptr (eF c))) nB (fun s1 g1=>upd (fun _=>none) 37 (some ⟨g1,60,(s1.map (am 68 ay)),true⟩)) (⟨none,0⟩) H (fun fl1 Hp1 j1 s1 g1 hz1 hl1 x1 fb1 hx1 H hg1=>?_) (fun s1 g1 H=>?_)
 ·refine ab (aw (ab (aa (aU tk (zn j1) (bn ce hx1) ?_))))
  refine ah tk rfl ?_
  refine bg tk fun b8=>?_
  refine aq tk ?_
  refine ac (ab (aa (ah tk rfl (aD tk ?_))))
  obtain ⟨x28,h28,H⟩ := av H
  have s28 := hrec112 c x1 _ h28
  refine ak Tryz.call112 (jn.r) s28 ?_
  refine ag 5 tk rfl (ac (ab (ao 2 tk rfl ?_)))
  refine aF rfl H (fun H=>?_) (fun H=>?_)
  ·refine ao 3 tk rfl ?_
   obtain rfl := az H
   have e1 : fl1 = .ret _ := hg1
   subst e1
   obtain rfl := aS Hp1
   refine ba tk rfl (ps := [(.val (.slice none 0 0)),(al x28.2)]) ⟨_,_,rfl,rfl,_,_,rfl,rfl,rfl⟩ (PLe.of2 (oB.tup (iZ.cons (oB.nil tk rfl) (iZ.cons (oB.of_eq rfl) iZ.nil))))
  refine ap (aa (ag 2 tk rfl (cn tk (rows' := List.map (am 68 ay) ([x28.1] : List (List LCol))) (gD.refl _) ?_)))
  obtain ⟨x37,h37,H⟩ := av H
  have k37 := cu h37
  refine cp (rows2' := List.map (am 68 ay) ([x28.1] : List (List LCol))) (rows' := List.map (am 68 ay) x37) tk rfl rfl rfl rfl rfl rfl rfl rfl rfl rfl rfl rfl rfl (gD.refl _) (dT k37.1) (dU k37.2.1) (dS k37.2.2) fun g37=>?_
  refine ah tk rfl (ac (aG (bc 2 tk rfl ?_)))
  exact bl g37 H hl1 hg1
 refine ab (dP 6 rfl rfl rfl (aa (ag 3 tk rfl ?_)))
 obtain ⟨x43,h43,H⟩ := av H
 have s43 := sf c q s1 _ h43
 refine ak Tryz.call169 (jn.r) s43 ?_
 refine ag 5 tk rfl (ac (ab (ao 2 tk rfl ?_)))
 refine aF rfl H (fun H=>?_) (fun H=>?_)
 ·refine ao 3 tk rfl ?_
  obtain rfl := az H
  refine ba tk rfl (ps := [(.val (.slice none 0 0)),(al x43.2)]) ⟨_,_,rfl,rfl,_,_,rfl,rfl,rfl⟩ (PLe.of2 (oB.tup (iZ.cons (oB.nil tk rfl) (iZ.cons (oB.of_eq rfl) iZ.nil))))
 refine ap (ab (ab (aa (ah tk rfl (aA tk (zl _) ?_)))))
 refine ah tk rfl (ac ?_)
 refine aF rfl H (fun H=>?_) (fun H=>?_)
 ·refine ao 2 tk rfl ?_
  obtain rfl := az H
  refine ba tk rfl (ps := [(.val (.slice none 0 0)),(al 2)]) ⟨_,_,rfl,rfl,_,_,rfl,rfl,rfl⟩ (PLe.of2 (oB.tup (iZ.cons (oB.nil tk rfl) (iZ.cons (oB.of_eq rfl) iZ.nil))))
 refine ap (ab (ab (aa (ah tk rfl (aA tk (zl _) ?_)))))
 refine ah tk rfl (ac ?_)
 refine eM tk 54 53 52 (fun s2 g2=>upd (fun _=>.any) 11 (.list 68 (x43.1.map ay))) nB nO () H (fun fl2 Hp2 j2 s2 g2 hz2 hl2 x2 fb2 hx2 H hg2=>?_) (fun s2 g2 H=>?_)
 ·refine ab (aw (ab (aa (ah tk rfl ?_))))
  refine aU tk (zn j2) (bn (fun _=>rfl) hx2) ?_
  refine ah tk rfl ?_
  refine bg tk fun b14=>?_
  refine ah tk rfl (aq tk ?_)
  refine ac (ab (aa (ag 2 tk rfl ?_)))
  obtain ⟨x61,h61,H⟩ := av H
  have k61 := oq h61
  refine uK tk rfl rfl rfl rfl rfl (zl _) rfl rfl k61.1 (pM k61.2) rfl (dc (Gh.freezeB 14 rfl rfl rfl rfl) (ah tk rfl ?_))
  obtain ⟨x63,h63,H⟩ := av H
  have s63 := kn x61 (fun a0=>some (cq a0 x2)) Tryz.call171 (fun a0 r h=>(az h) ▸ oM a0 x2) _ h63
  refine ak Tryz.call170 (jn.r) s63 ?_
  refine ac ?_
  refine aF rfl H (fun H=>?_) (fun H=>?_)
  ·refine ao 2 tk rfl ?_
   obtain rfl := az H
   have e2 : fl2 = .ret _ := hg2
   subst e2
   obtain rfl := aS Hp2
   refine ba tk rfl (ps := [(.val (.slice none 0 0)),(al 23)]) ⟨_,_,rfl,rfl,_,_,rfl,rfl,rfl⟩ (PLe.of2 (oB.tup (iZ.cons (oB.nil tk rfl) (iZ.cons (oB.of_eq rfl) iZ.nil))))
  refine ap (aG (bc 2 tk rfl ?_))
  exact bl () H hl2 hg2
 refine ao 3 tk rfl ?_
 exact aY tk H rfl
def fu : Nat → LChecker → LQuery → Option ((List LCol) × Int)
 | 0,_,_=>none
 | n + 1,v0,v1=>fv (fun b0 b1=>fu n b0 b1) v0 v1
theorem pw  (n : Nat) : (∀ a0 a1 r,fu n a0 a1 = some r → aK Tryz.prog 112 [(.agg (eF a0)),(.agg (aI a1))] (.tup [(.list 68 (r.1.map ay)),(al r.2)])) := by
 induction n with
 | zero=>exact (by intros; rename_i h; exact absurd (show (none : Option _) = some _ from h) (by simp))
 | succ n ih =>
  exact (fun v0 v1 r h=>pK (fun b0 b1=>fu n b0 b1) ih v0 v1  r h)
def ft (c : LChecker) (q : LQuery) : Option ((List LCol) × Int) := ir fun n=>fu n c q
theorem lQ (c : LChecker) (q : LQuery) (r : (List LCol) × Int) (H : ft c q = some r) :
  aK Tryz.prog 112 [(.agg (eF c)),(.agg (aI q))] (.tup [(.list 68 (r.1.map ay)),(al r.2)]) := by
 obtain ⟨n,h⟩ := iW H
 exact (pw  n) c q r h
def fF (rA : LRun) (q : LQuery) (cols : List LCol) (inA : Rz) : Option (Rz) :=
 af (cS inA (fun a0 a1=>ec a0 a1 rA cols q)) fun x14 =>
 af (fo (x14.length = inA.length) ()) fun (_ : Unit) =>
 some x14
theorem ur (rA : LRun) (q : LQuery) (cols : List LCol) (inA : Rz) (r : Rz) (H : fF rA q cols inA = some r) :
  aK Tryz.prog 162 [(.agg (eh rA)),(.agg (aI q)),(.list 68 (cols.map ay)),(.list 75 (inA.map (am 73 ae)))] (.list 75 (r.map (am 73 ae))) := by
 unfold fF at H
 refine PH.au Tryz.func162 Tryz.ntmps162 ?_
 refine ab (aa (aE ?_))
 refine aE ?_
 refine aE ?_
 refine ah tk rfl (ac (ab (aa (ah tk rfl ?_))))
 have s11 := qe (m := 11) inA
 refine kF Tryz.call153 (jn.r) s11 (fun g11=>?_)
 refine ah tk rfl (ac (ab (aa (ag 2 tk rfl ?_))))
 obtain ⟨x14,h14,H⟩ := av H
 have s14 := kP g11 inA (fun a0 a1=>ec a0 a1 rA cols q) Tryz.call227 (fun a0 a1 r h=>su a0 a1 rA cols q r h) _ h14
 obtain ⟨_,q14_0,H⟩ := av H
 have l14_0 := (dJ q14_0).1
 have z14_0 : (List.map (am 73 ae) inA).length = (List.map (am 73 ae) x14).length := by simpa using (l14_0).symm
 refine dN (g := 226) rfl rfl rfl Tryz.call226 [] [(11,0)] rfl rfl rfl rfl (jn.of2 (iZ.cons (oB.own rfl) (iZ.cons (oB.of_eq rfl) iZ.nil))) (by rw [cW,ci,cV]; rfl) s14 ?_
 rintro u14 H14h ⟨rfl,rfl⟩
 refine ⟨_,rfl,?_⟩
 refine dc (st' := ⟨_,_,fun _=>none,upd (fun _=>none) 11 (some ⟨g11,75,(x14.map (am 73 ae)),true⟩)⟩) (Gh.le (cy _ _) aM (aZ aL)) ?_
 refine ac (ao 2 tk rfl (dP 8 rfl rfl z14_0 ?_))
 exact aY tk H rfl
def fP (sA : LSchema) (vars : List LCol) (q : LQuery) : Option ((List LCol) × Int) :=
 af (
  af (jR q) fun x12 =>
  cond (decide ((x12.length : Int) > (24 : Int)))
   (some true)
   (af (kW q) fun x17 =>
   cond (decide (x17 > (12 : Int)))
    (some true)
    (af (gF q) fun x22 =>
    some (decide (x22 > (20000 : Int)))))) fun (t1 : Bool) =>
 cond t1
  (some ([],2))
  (af (dY q) fun x27 =>
  cond (x27.2 != (0 : Int))
   (some ([],x27.2))
   (af (ft (LChecker.mk sA vars) q) fun x38 =>
   some (x38.1,x38.2)))
theorem lh (sA : LSchema) (vars : List LCol) (q : LQuery) (r : (List LCol) × Int) (H : fP sA vars q = some r) :
  aK Tryz.prog 70 [(.agg (bR sA)),(.list 68 (vars.map ay)),(.agg (aI q))] (.tup [(.list 68 (r.1.map ay)),(al r.2)]) := by
 unfold fP at H
 refine PH.au Tryz.func70 Tryz.ntmps70 ?_
 refine ab (aa (aE ?_))
 refine aE ?_
 refine ag 2 tk rfl (ac (ab (ab ?_)))
 refine eO (γ := Unit) (fun t1 g1=>⟨41,upd (upd (upd (upd (fun _=>.any) 24 (aC t1)) 5 (.ptr (aI q))) 3 (.ptr (bR sA))) 1 (.list 68 (vars.map ay)),fun _=>none,fun _=>none⟩) H (fun _ H=>?_) (fun t1 g1 H=>?_)
 ·refine aa (ah tk rfl ?_)
  obtain ⟨x12,h12,H⟩ := av H
  have s12 := rT (m := 12) q _ h12
  refine ak Tryz.call43 (jn.r) (PFun.ju s12) ?_
  refine aA tk (zl _) ?_
  refine ag 2 tk rfl ?_
  refine bh rfl rfl rfl H (fun H=>?_) (fun H=>?_)
  ·refine ag 9 tk rfl (ac ?_)
   refine aT _ () (az H) Gh.d
  refine ah tk rfl ?_
  obtain ⟨x17,h17,H⟩ := av H
  have s17 := W_query_depth q _ h17
  refine ak Tryz.call110 (jn.r) s17 ?_
  refine ag 3 tk rfl ?_
  refine bh rfl rfl rfl H (fun H=>?_) (fun H=>?_)
  ·refine ag 4 tk rfl (ac ?_)
   refine aT _ () (az H) Gh.d
  refine ah tk rfl ?_
  obtain ⟨x22,h22,H⟩ := av H
  have s22 := od q _ h22
  refine ak Tryz.call111 (jn.r) s22 ?_
  refine ag 2 tk rfl (ac ?_)
  refine aT _ () (az H) Gh.d
 refine aF rfl H (fun H=>?_) (fun H=>?_)
 ·refine ao 2 tk rfl ?_
  obtain rfl := az H
  refine ba tk rfl (ps := [(.val (.slice none 0 0)),(al 2)]) ⟨_,_,rfl,rfl,_,_,rfl,rfl,rfl⟩ (PLe.of2 (oB.tup (iZ.cons (oB.nil tk rfl) (iZ.cons (oB.of_eq rfl) iZ.nil))))
 refine ap (ab (ab (aa (ah tk rfl ?_))))
 obtain ⟨x27,h27,H⟩ := av H
 have s27 := iP q _ h27
 refine ak Tryz.call12 (jn.r) s27 ?_
 refine ag 5 tk rfl (ac (ao 2 tk rfl ?_))
 refine aF rfl H (fun H=>?_) (fun H=>?_)
 ·refine ao 3 tk rfl ?_
  obtain rfl := az H
  refine ba tk rfl (ps := [(.val (.slice none 0 0)),(al x27.2)]) ⟨_,_,rfl,rfl,_,_,rfl,rfl,rfl⟩ (PLe.of2 (oB.tup (iZ.cons (oB.nil tk rfl) (iZ.cons (oB.of_eq rfl) iZ.nil))))
 refine ap (ab (aa (ag 3 tk rfl ?_)))
 refine bg tk fun b10=>?_
 refine aq tk ?_
 refine ac (ab (aa (aD tk ?_)))
 refine ah tk rfl ?_
 obtain ⟨x38,h38,H⟩ := av H
 have s38 := lQ (LChecker.mk sA vars) q _ h38
 refine ak Tryz.call112 (jn.r) s38 ?_
 refine ag 4 tk rfl (ac ?_)
 exact aY tk H rfl
def gU (rA : LRun) (q : LQuery) : Option ((List LCol)) :=
 af (ft (LChecker.mk rA.s rA.vars) q) fun x14 =>
 some x14.1
theorem mj (rA : LRun) (q : LQuery) (r : (List LCol)) (H : gU rA q = some r) :
  aK Tryz.prog 155 [(.agg (eh rA)),(.agg (aI q))] (.list 68 (r.map ay)) := by
 unfold gU at H
 refine PH.au Tryz.func155 Tryz.ntmps155 ?_
 refine ab (aa (aE ?_))
 refine aE ?_
 refine ah tk rfl (ac (ab (aa (ag 6 tk rfl ?_))))
 obtain ⟨x14,h14,H⟩ := av H
 have s14 := lQ (LChecker.mk rA.s rA.vars) q _ h14
 refine ak Tryz.call112 (jn.r) s14 ?_
 refine ag 5 tk rfl (ac (ao 2 tk rfl ?_))
 exact aY tk H rfl
def mg (sA : LSchema) (q : LQuery) : Option ((List LCol) × Int) :=
 af (fP sA ([] : List LCol) q) fun x8 =>
 some (x8.1,x8.2)
theorem W_query_Check (sA : LSchema) (q : LQuery) (r : (List LCol) × Int) (H : mg sA q = some r) :
  aK Tryz.prog 25 [(.agg (bR sA)),(.agg (aI q))] (.tup [(.list 68 (r.1.map ay)),(al r.2)]) := by
 unfold mg at H
 refine PH.au Tryz.func25 Tryz.ntmps25 ?_
 refine ab (aa (aE ?_))
 refine aE ?_
 refine ag 2 tk rfl (ac (ab (aa (ag 2 tk rfl ?_))))
 obtain ⟨x8,h8,H⟩ := av H
 have s8 := lh sA ([] : List LCol) q _ h8
 refine ak Tryz.call70 (jn.of2 (iZ.cons (oB.of_eq rfl) (iZ.cons (oB.nil tk rfl) (iZ.cons (oB.of_eq rfl) iZ.nil)))) s8 ?_
 refine ag 4 tk rfl (ac ?_)
 exact aY tk H rfl
def cT (_rec49 : LProcedureChecker → (List LCol) → (List LProcedureStatement) → Option ((List LCol) × Int)) (rec91 : LProcedureChecker → (List LCol) → LProcedureStatement → Option ((List LCol) × Int)) (c : LProcedureChecker) (vars : List LCol) (l : List LProcedureStatement) : Option ((List LCol) × Int) :=
 af (aH (σ := List LCol) (ρ := ((List LCol) × Int)) (fun (_ : Nat) (x1 : LProcedureStatement) (s1 : List LCol) =>
  af (jk x1) fun x18 =>
  cond (!x18)
   (some (.ret ([],3)))
   (af (rec91 c s1 x1) fun x24 =>
   cond (x24.2 != (0 : Int))
    (some (.ret ([],x24.2)))
    (some (.next x24.1)))) 0 l vars) fun fl1=>fl1.thenR fun (s1 : List LCol) =>
 some (s1,0)
theorem oY (rec49 : LProcedureChecker → (List LCol) → (List LProcedureStatement) → Option ((List LCol) × Int)) (rec91 : LProcedureChecker → (List LCol) → LProcedureStatement → Option ((List LCol) × Int)) (_hrec49 : ∀ a0 a1 a2 r,rec49 a0 a1 a2 = some r → aK Tryz.prog 49 [(.agg (co a0)),(.list 68 (a1.map ay)),(.list 51 (a2.map aO))] (.tup [(.list 68 (r.1.map ay)),(al r.2)])) (hrec91 : ∀ a0 a1 a2 r,rec91 a0 a1 a2 = some r → aK Tryz.prog 91 [(.agg (co a0)),(.list 68 (a1.map ay)),(.agg (aR a2))] (.tup [(.list 68 (r.1.map ay)),(al r.2)])) (c : LProcedureChecker) (vars : List LCol) (l : List LProcedureStatement) (r : (List LCol) × Int) (H : cT rec49 rec91 c vars l = some r) :
  aK Tryz.prog 49 [(.agg (co c)),(.list 68 (vars.map ay)),(.list 51 (l.map aO))] (.tup [(.list 68 (r.1.map ay)),(al r.2)]) := by
 unfold cT at H
 refine PH.au Tryz.func49 Tryz.ntmps49 ?_
 refine ab (aa (aE ?_))
 refine ag 2 tk rfl (ac (ab (ab (aa (ah tk rfl (aA tk (zl _) ?_))))))
 refine ah tk rfl (ac ?_)
 refine eM tk 13 12 11 (fun s1 g1=>upd (upd (fun _=>.any) 3 (.ptr (co c))) 1 (.list 68 (s1.map ay))) nB nO () H (fun fl1 Hp1 j1 s1 g1 hz1 hl1 x1 fb1 hx1 H hg1=>?_) (fun s1 g1 H=>?_)
 ·refine ab (aw (ab (aa (aU tk (zn j1) (bn fe hx1) ?_))))
  refine ah tk rfl ?_
  refine bg tk fun b9=>?_
  refine aq tk ?_
  refine ac (ab (ab (aa (aD tk ?_))))
  obtain ⟨x18,h18,H⟩ := av H
  have s18 := tU x1 _ h18
  refine ak Tryz.call90 (jn.r) s18 ?_
  refine ah tk rfl (ac ?_)
  refine aF rfl H (fun H=>?_) (fun H=>?_)
  ·refine ao 2 tk rfl ?_
   obtain rfl := az H
   have e1 : fl1 = .ret _ := hg1
   subst e1
   obtain rfl := aS Hp1
   refine ba tk rfl (ps := [(.val (.slice none 0 0)),(al 3)]) ⟨_,_,rfl,rfl,_,_,rfl,rfl,rfl⟩ (PLe.of2 (oB.tup (iZ.cons (oB.nil tk rfl) (iZ.cons (oB.of_eq rfl) iZ.nil))))
  refine ap (ao 1 tk rfl (ab (aa (ag 2 tk rfl (aD tk ?_)))))
  obtain ⟨x24,h24,H⟩ := av H
  have s24 := hrec91 c s1 x1 _ h24
  refine ak Tryz.call91 (jn.r) s24 ?_
  refine ag 5 tk rfl (ac (ao 2 tk rfl ?_))
  refine aF rfl H (fun H=>?_) (fun H=>?_)
  ·refine ao 3 tk rfl ?_
   obtain rfl := az H
   have e1 : fl1 = .ret _ := hg1
   subst e1
   obtain rfl := aS Hp1
   refine ba tk rfl (ps := [(.val (.slice none 0 0)),(al x24.2)]) ⟨_,_,rfl,rfl,_,_,rfl,rfl,rfl⟩ (PLe.of2 (oB.tup (iZ.cons (oB.nil tk rfl) (iZ.cons (oB.of_eq rfl) iZ.nil))))
  refine ap (aG (bc 2 tk rfl ?_))
  exact bl () H hl1 hg1
 refine ao 3 tk rfl ?_
 exact aY tk H rfl
def cw (rec49 : LProcedureChecker → (List LCol) → (List LProcedureStatement) → Option ((List LCol) × Int)) (_rec91 : LProcedureChecker → (List LCol) → LProcedureStatement → Option ((List LCol) × Int)) (c : LProcedureChecker) (vars : List LCol) (sA : LProcedureStatement) : Option ((List LCol) × Int) :=
 cond (sA.kind == (1 : Int))
  (none)
  (cond (sA.kind == (2 : Int))
   (none)
   (bv (
    cond (sA.kind == (3 : Int))
     ((sA.kind == (3 : Int)))
     ((sA.kind == (7 : Int)))) fun (t1 : Bool) =>
   cond t1
    (af (aJ sA.query 0) fun (x98 : LQuery) =>
    af (fP c.s vars x98) fun x100 =>
    cond (x100.2 != (0 : Int))
     (some ([],x100.2))
     (af (aJ sA.query 0) fun (x109 : LQuery) =>
     af (fQ c x109) fun x111 =>
     cond (x111 != (0 : Int))
      (some ([],x111))
      (af (aH (σ := List LCol) (ρ := Empty) (fun (_ : Nat) (x2 : LCol) (s2 : List LCol) =>
       af (ja s2 x2) fun x124 =>
       some (.next x124)) 0 x100.1 vars) fun fl2=>fl2.thenP fun (s2 : List LCol) =>
      af (rec49 c s2 sA.body) fun x131 =>
      some (vars,x131.2))))
    (none)))
theorem oO (rec49 : LProcedureChecker → (List LCol) → (List LProcedureStatement) → Option ((List LCol) × Int)) (rec91 : LProcedureChecker → (List LCol) → LProcedureStatement → Option ((List LCol) × Int)) (hrec49 : ∀ a0 a1 a2 r,rec49 a0 a1 a2 = some r → aK Tryz.prog 49 [(.agg (co a0)),(.list 68 (a1.map ay)),(.list 51 (a2.map aO))] (.tup [(.list 68 (r.1.map ay)),(al r.2)])) (_hrec91 : ∀ a0 a1 a2 r,rec91 a0 a1 a2 = some r → aK Tryz.prog 91 [(.agg (co a0)),(.list 68 (a1.map ay)),(.agg (aR a2))] (.tup [(.list 68 (r.1.map ay)),(al r.2)])) (c : LProcedureChecker) (vars : List LCol) (sA : LProcedureStatement) (r : (List LCol) × Int) (H : cw rec49 rec91 c vars sA = some r) :
  aK Tryz.prog 91 [(.agg (co c)),(.list 68 (vars.map ay)),(.agg (aR sA))] (.tup [(.list 68 (r.1.map ay)),(al r.2)]) := by
 unfold cw at H
 refine PH.au Tryz.func91 Tryz.ntmps91 ?_
 refine ab (aa (aE ?_))
 refine aE ?_
 refine ag 2 tk rfl (ac (ab (ao 2 tk rfl (aw (ao 2 tk rfl ?_)))))
 refine aF rfl H (fun H=>?_) (fun H=>?_)
 ·cases H
 refine ao 2 tk rfl ?_
 refine aF rfl H (fun H=>?_) (fun H=>?_)
 ·cases H
 refine ab (ao 2 tk rfl ?_)
 refine gp (γ := Unit) (fun t1 g1=>⟨146,upd (upd (upd (upd (upd (fun _=>.any) 89 (aC t1)) 23 (al sA.kind)) 5 (.ptr (aR sA))) 3 (.ptr (co c))) 1 (.list 68 (vars.map ay)),fun _=>none,fun _=>none⟩) H (fun _ H=>?_) (fun t1 g1 H=>?_)
 ·refine aF rfl H (fun H=>?_) (fun H=>?_)
  ·refine ap ?_
   refine aT _ () H Gh.d
  refine bc 2 tk rfl ?_
  refine aT _ () H Gh.d
 refine aF rfl H (fun H=>?_) (fun H=>?_)
 ·refine ab (bm tk mok ⟨false,false,[]⟩ [0,1,2,3,4,5,6,7,8,9,10,11,12] rfl (by decide +kernel) rfl (aN 5 rfl ?_))
  obtain ⟨x98,k98,H⟩ := bs H
  refine bE k98.1 (aP ce k98.2) ?_
  refine bV rfl ?_
  obtain ⟨x100,h100,H⟩ := av H
  have s100 := lh c.s vars x98 _ h100
  refine aV Tryz.call70 (jn.r) s100 ?_
  refine aN 5 rfl (be (ab (ao 2 tk rfl ?_)))
  refine aF rfl H (fun H=>?_) (fun H=>?_)
  ·refine ao 3 tk rfl ?_
   obtain rfl := az H
   refine ba tk rfl (ps := [(.val (.slice none 0 0)),(al x100.2)]) ⟨_,_,rfl,rfl,_,_,rfl,rfl,rfl⟩ (PLe.of2 (oB.tup (iZ.cons (oB.nil tk rfl) (iZ.cons (oB.of_eq rfl) iZ.nil))))
  refine ap (ab (ab (bm tk mok ⟨false,false,[]⟩ [0,1,2,3,4,5,6] rfl (by decide +kernel) rfl (aN 3 rfl ?_))))
  obtain ⟨x109,k109,H⟩ := bs H
  refine bE k109.1 (aP ce k109.2) ?_
  refine bV rfl ?_
  obtain ⟨x111,h111,H⟩ := av H
  have s111 := oR c x109 _ h111
  refine aV Tryz.call130 (jn.r) s111 ?_
  refine bV rfl (be (ao 2 tk rfl ?_))
  refine aF rfl H (fun H=>?_) (fun H=>?_)
  ·refine ao 3 tk rfl ?_
   obtain rfl := az H
   refine ba tk rfl (ps := [(.val (.slice none 0 0)),(al x111)]) ⟨_,_,rfl,rfl,_,_,rfl,rfl,rfl⟩ (PLe.of2 (oB.tup (iZ.cons (oB.nil tk rfl) (iZ.cons (oB.of_eq rfl) iZ.nil))))
  refine ap (ao 2 tk rfl (ab (ab (aa (ah tk rfl (aA tk (zl _) ?_))))))
  refine ah tk rfl (ac ?_)
  refine hZ tk 118 117 116 (fun s2 g2=>upd (upd (upd (upd (fun _=>.any) 19 (.list 68 (s2.map ay))) 5 (.ptr (aR sA))) 3 (.ptr (co c))) 1 (.list 68 (vars.map ay))) nB nO () H (fun fl2 Hp2 j2 s2 g2 hz2 hl2 x2 fb2 hx2 H hg2=>?_) (fun s2 g2 H=>?_)
  ·refine ab (aw (ab (aa ?_)))
   refine aU tk (zn j2) (bn (fun _=>rfl) hx2) ?_
   refine ah tk rfl ?_
   refine bg tk fun b21=>?_
   refine aq tk ?_
   refine ac (aa (ah tk rfl (aD tk ?_)))
   obtain ⟨x124,h124,H⟩ := av H
   have s124 := uA s2 x2 _ h124
   refine ak Tryz.call128 (jn.r) s124 ?_
   refine ah tk rfl (ac (aG (bc 2 tk rfl ?_)))
   exact bl () H hl2 hg2
  refine ab (aa (ag 4 tk rfl ?_))
  obtain ⟨x131,h131,H⟩ := av H
  have s131 := hrec49 c s2 sA.body _ h131
  refine ak Tryz.call49 (jn.r) s131 ?_
  refine ag 4 tk rfl (ac (ao 4 tk rfl ?_))
  exact aY tk H rfl
 cases H
mutual
def bY : Nat → LProcedureChecker → (List LCol) → (List LProcedureStatement) → Option ((List LCol) × Int)
 | 0,_,_,_=>none
 | n + 1,v0,v1,v2=>cT (fun b0 b1 b2=>bY n b0 b1 b2) (fun b0 b1 b2=>ck n b0 b1 b2) v0 v1 v2
def ck : Nat → LProcedureChecker → (List LCol) → LProcedureStatement → Option ((List LCol) × Int)
 | 0,_,_,_=>none
 | n + 1,v0,v1,v2=>cw (fun b0 b1 b2=>bY n b0 b1 b2) (fun b0 b1 b2=>ck n b0 b1 b2) v0 v1 v2
end
theorem oJ  (n : Nat) : (∀ a0 a1 a2 r,bY n a0 a1 a2 = some r → aK Tryz.prog 49 [(.agg (co a0)),(.list 68 (a1.map ay)),(.list 51 (a2.map aO))] (.tup [(.list 68 (r.1.map ay)),(al r.2)])) ∧ (∀ a0 a1 a2 r,ck n a0 a1 a2 = some r → aK Tryz.prog 91 [(.agg (co a0)),(.list 68 (a1.map ay)),(.agg (aR a2))] (.tup [(.list 68 (r.1.map ay)),(al r.2)])) := by
 induction n with
 | zero=>exact ⟨(by intros; rename_i h; exact absurd (show (none : Option _) = some _ from h) (by simp)),(by intros; rename_i h; exact absurd (show (none : Option _) = some _ from h) (by simp))⟩
 | succ n ih =>
  exact ⟨(fun v0 v1 v2 r h=>oY (fun b0 b1 b2=>bY n b0 b1 b2) (fun b0 b1 b2=>ck n b0 b1 b2) ih.1 ih.2 v0 v1 v2  r h),(fun v0 v1 v2 r h=>oO (fun b0 b1 b2=>bY n b0 b1 b2) (fun b0 b1 b2=>ck n b0 b1 b2) ih.1 ih.2 v0 v1 v2  r h)⟩
def bB (c : LProcedureChecker) (vars : List LCol) (l : List LProcedureStatement) : Option ((List LCol) × Int) := ir fun n=>bY n c vars l
theorem px (c : LProcedureChecker) (vars : List LCol) (l : List LProcedureStatement) (r : (List LCol) × Int) (H : bB c vars l = some r) :
  aK Tryz.prog 49 [(.agg (co c)),(.list 68 (vars.map ay)),(.list 51 (l.map aO))] (.tup [(.list 68 (r.1.map ay)),(al r.2)]) := by
 obtain ⟨n,h⟩ := iW H
 exact (oJ  n).1 c vars l r h
def bQ (c : LProcedureChecker) (vars : List LCol) (sA : LProcedureStatement) : Option ((List LCol) × Int) := ir fun n=>ck n c vars sA
def kJ (rec100 : LRun → LQuery → Option (Rz)) (rec152 : LRun → LQuery → Option (Rz)) (rA : LRun) (q : LQuery) : Option (Rz) :=
 cond (q.kind == (1 : Int))
  (af (aH (σ := Unit) (ρ := (Rz)) (fun (_ : Nat) (x1 : LRelation) (_ : Unit) =>
   cond (x1.table == q.table)
    (some (.ret x1.rows))
    (some (.next ()))) 0 rA.st ()) fun fl1=>fl1.thenR fun (_ : Unit) =>
  some [])
  (bv (
   cond (q.kind == (4 : Int))
    ((q.kind == (4 : Int)))
    ((q.kind == (5 : Int)))) fun (t2 : Bool) =>
  cond t2
   (af (rec152 rA q) fun x37 =>
   some x37)
   (cond (q.kind == (6 : Int))
    (af (aJ q.inputs 0) fun (x43 : LQuery) =>
    af (aJ q.inputs 1) fun (x50 : LQuery) =>
    af (rec100 rA x43) fun x45 =>
    af (rec100 rA x50) fun x52 =>
    af (dg 24 x45 x52) fun (x53 : Rz) =>
    some x53)
    (cond (q.kind == (7 : Int))
     (af (aJ q.inputs 0) fun (x59 : LQuery) =>
     af (aJ q.inputs 1) fun (x65 : LQuery) =>
     af (rec100 rA x59) fun x61 =>
     af (rec100 rA x65) fun x67 =>
     af (lC x61 x67) fun x68 =>
     some x68)
     (af (aJ q.inputs 0) fun (x72 : LQuery) =>
     af (rec100 rA x72) fun x74 =>
     af (aJ q.inputs 0) fun (x78 : LQuery) =>
     af (gU rA x78) fun x80 =>
     cond (q.kind == (2 : Int))
      (af (dA x74 (fun a0=>iV a0 rA x80 q)) fun x88 =>
      some x88)
      (cond (q.kind == (3 : Int))
       (af (aH (σ := Rz) (ρ := Empty) (fun (_ : Nat) (x3 : Rq) (s3 : Rz) =>
        af (cI rA x80 x3 q.exprs) fun x103 =>
        af (dg 24 s3 ([x103] : Rz)) fun (x105 : Rz) =>
        some (.next x105)) 0 x74 []) fun fl3=>fl3.thenP fun (s3 : Rz) =>
       some s3)
       (cond (q.kind == (8 : Int))
        (af (jj rA q x80 x74) fun x114 =>
        some x114)
        (cond (q.kind == (9 : Int))
         (af (fF rA q x80 x74) fun x121 =>
         some x121)
         (af (nu x74 (if (x74.length : Int) < q.offset then (x74.length : Int) else q.offset) (IntKind.i64.wrap ((if (x74.length : Int) < q.offset then (x74.length : Int) else q.offset) + (if (IntKind.i64.wrap ((x74.length : Int) - (if (x74.length : Int) < q.offset then (x74.length : Int) else q.offset))) < q.count then (IntKind.i64.wrap ((x74.length : Int) - (if (x74.length : Int) < q.offset then (x74.length : Int) else q.offset))) else q.count)))) fun (x138 : Rz) =>
         some x138))))))))
theorem tV (rec100 : LRun → LQuery → Option (Rz)) (rec152 : LRun → LQuery → Option (Rz)) (hrec100 : ∀ a0 a1 r,rec100 a0 a1 = some r → aK Tryz.prog 100 [(.agg (eh a0)),(.agg (aI a1))] (.list 75 (r.map (am 73 ae)))) (hrec152 : ∀ a0 a1 r,rec152 a0 a1 = some r → aK Tryz.prog 152 [(.agg (eh a0)),(.agg (aI a1))] (.list 75 (r.map (am 73 ae)))) (rA : LRun) (q : LQuery) (r : Rz) (H : kJ rec100 rec152 rA q = some r) :
  aK Tryz.prog 100 [(.agg (eh rA)),(.agg (aI q))] (.list 75 (r.map (am 73 ae))) := by
 unfold kJ at H
 refine PH.au Tryz.func100 Tryz.ntmps100 ?_
 refine ab (aa (aE ?_))
 refine aE ?_
 refine ah tk rfl (ac (ab (ao 2 tk rfl (aw (ao 2 tk rfl ?_)))))
 refine aF rfl H (fun H=>?_) (fun H=>?_)
 ·refine ab (ab (aa (ag 2 tk rfl (aA tk (zl _) ?_))))
  refine ah tk rfl (ac ?_)
  refine eM tk 20 19 18 (fun s1 g1=>upd (fun _=>.any) 3 (.ptr (aI q))) nB nO () H (fun fl1 Hp1 j1 s1 g1 hz1 hl1 x1 fb1 hx1 H hg1=>?_) (fun s1 g1 H=>?_)
  ·refine ab (aw (ab (aa ?_)))
   refine aU tk (zn j1) (bn (fun _=>rfl) hx1) ?_
   refine ah tk rfl ?_
   refine bg tk fun b6=>?_
   refine aq tk ?_
   refine ac (ab (aa (ah tk rfl (aD tk ?_))))
   refine ag 3 tk rfl (ac ?_)
   refine aF rfl H (fun H=>?_) (fun H=>?_)
   ·refine ab (aa (ah tk rfl (aD tk ?_)))
    refine ah tk rfl (ac ?_)
    obtain rfl := az H
    have e1 : fl1 = .ret _ := hg1
    subst e1
    obtain rfl := aS Hp1
    refine ba tk rfl (ps := [(.list 75 (x1.rows.map (am 73 ae)))]) ⟨_,_,rfl,rfl,rfl⟩ (PLe.q rfl)
   refine ap (aG (bc 2 tk rfl ?_))
   exact bl () H hl1 hg1
  refine ao 1 tk rfl ?_
  obtain rfl := az H
  refine ba tk rfl (ps := [(.val (.slice none 0 0))]) ⟨_,_,rfl,rfl,rfl⟩ (PLe.of2 (oB.nil tk rfl))
 refine ab (ao 2 tk rfl ?_)
 refine gp (γ := Unit) (fun t2 g2=>⟨139,upd (upd (upd (upd (fun _=>.any) 32 (aC t2)) 14 (al q.kind)) 3 (.ptr (aI q))) 2 (.ptr (eh rA)),fun _=>none,fun _=>none⟩) H (fun _ H=>?_) (fun t2 g2 H=>?_)
 ·refine aF rfl H (fun H=>?_) (fun H=>?_)
  ·refine ap ?_
   refine aT _ () H Gh.d
  refine bc 2 tk rfl ?_
  refine aT _ () H Gh.d
 refine aF rfl H (fun H=>?_) (fun H=>?_)
 ·refine ab (aa (ag 2 tk rfl ?_))
  obtain ⟨x37,h37,H⟩ := av H
  have s37 := hrec152 rA q _ h37
  refine ak Tryz.call152 (jn.r) s37 ?_
  refine ah tk rfl (ac ?_)
  exact aY tk H rfl
 refine ao 2 tk rfl ?_
 refine aF rfl H (fun H=>?_) (fun H=>?_)
 ·refine ab (bm tk mok ⟨false,false,[]⟩ [0,1,2,3,4,7,8,9,10,11,5,6,12,13,14] rfl (by decide +kernel) rfl (aN 3 rfl ?_))
  obtain ⟨x43,k43,H⟩ := bs H
  refine bE k43.1 (aP ce k43.2) ?_
  refine aN 4 rfl ?_
  obtain ⟨x50,k50,H⟩ := bs H
  refine bE k50.1 (aP ce k50.2) ?_
  refine bV rfl ?_
  obtain ⟨x45,h45,H⟩ := av H
  have s45 := hrec100 rA x43 _ h45
  refine aV Tryz.call100 (jn.r) s45 ?_
  have s46 := qe (m := 46) x45
  refine uN (g := 153) rfl rfl rfl rfl Tryz.call153 (jn.r) rfl rfl s46 (fun g46=>?_)
  obtain ⟨x52,h52,H⟩ := av H
  have s52 := hrec100 rA x50 _ h52
  refine aV Tryz.call100 (jn.r) s52 ?_
  obtain ⟨x53,h53,H⟩ := av H
  have k53 := cu h53
  refine lN (rows2' := List.map (am 73 ae) x52) (rows' := List.map (am 73 ae) x53) tk rfl rfl rfl rfl rfl rfl rfl rfl rfl rfl rfl rfl rfl rfl (gD.refl _) (dT k53.1) (dU k53.2.1) (dS k53.2.2) fun g53=>?_
  refine bV rfl (be (dP 4 rfl rfl rfl ?_))
  exact aY tk H rfl
 refine ao 2 tk rfl ?_
 refine aF rfl H (fun H=>?_) (fun H=>?_)
 ·refine ab (bm tk mok ⟨false,false,[]⟩ [0,1,2,3,4,6,7,8,9,10,5,11,12,13] rfl (by decide +kernel) rfl (aN 3 rfl ?_))
  obtain ⟨x59,k59,H⟩ := bs H
  refine bE k59.1 (aP ce k59.2) ?_
  refine aN 4 rfl ?_
  obtain ⟨x65,k65,H⟩ := bs H
  refine bE k65.1 (aP ce k65.2) ?_
  refine bV rfl ?_
  obtain ⟨x61,h61,H⟩ := av H
  have s61 := hrec100 rA x59 _ h61
  refine aV Tryz.call100 (jn.r) s61 ?_
  obtain ⟨x67,h67,H⟩ := av H
  have s67 := hrec100 rA x65 _ h67
  refine aV Tryz.call100 (jn.r) s67 ?_
  obtain ⟨x68,h68,H⟩ := av H
  have s68 := W_query_less x61 x67 _ h68
  refine aV Tryz.call154 (jn.r) s68 ?_
  refine bV rfl (be ?_)
  exact aY tk H rfl
 refine ap (aG (ab (bm tk mok ⟨false,false,[]⟩ [0,1,2,3,4,5,6] rfl (by decide +kernel) rfl (aN 3 rfl ?_))))
 obtain ⟨x72,k72,H⟩ := bs H
 refine bE k72.1 (aP ce k72.2) ?_
 refine bV rfl ?_
 obtain ⟨x74,h74,H⟩ := av H
 have s74 := hrec100 rA x72 _ h74
 refine aV Tryz.call100 (jn.r) s74 ?_
 refine bV rfl (be (ab (bm tk mok ⟨false,false,[]⟩ [0,1,2,3,4,5,6,7] rfl (by decide +kernel) rfl (aN 3 rfl ?_))))
 obtain ⟨x78,k78,H⟩ := bs H
 refine bE k78.1 (aP ce k78.2) ?_
 refine bV rfl ?_
 obtain ⟨x80,h80,H⟩ := av H
 have s80 := mj rA x78 _ h80
 refine aV Tryz.call155 (jn.r) s80 ?_
 refine pC rfl rfl rfl rfl rfl rfl rfl rfl fun b8=>?_
 refine eD ?_
 refine be (ab (ao 2 tk rfl (aw (ao 2 tk rfl ?_))))
 refine aF rfl H (fun H=>?_) (fun H=>?_)
 ·refine ab (aa (ah tk rfl ?_))
  have s86 := qe (m := 86) x74
  refine kF Tryz.call153 (jn.r) s86 (fun g86=>?_)
  refine dc (Gh.freezeB 8 rfl rfl rfl rfl) (ah tk rfl ?_)
  obtain ⟨x88,h88,H⟩ := av H
  have s88 := lp g86 x74 (fun a0=>iV a0 rA x80 q) Tryz.call157 (fun a0 r h=>sM a0 rA x80 q r h) _ h88
  refine dN (g := 156) rfl rfl rfl Tryz.call156 [] [(86,0)] rfl rfl rfl rfl (jn.of2 (iZ.cons (oB.own rfl) (iZ.cons (oB.of_eq rfl) iZ.nil))) (by rw [cW,ci,cV]; rfl) s88 ?_
  rintro u88 H88h ⟨rfl,rfl⟩
  refine ⟨_,rfl,?_⟩
  refine dc (st' := ⟨_,_,fun _=>none,upd (fun _=>none) 86 (some ⟨g86,75,(x88.map (am 73 ae)),true⟩)⟩) (Gh.le (cy _ _) aM (aZ aL)) ?_
  refine lP 88 (q := (.own 86 g86 (x88.map (am 73 ae)).length)) rfl (PLe.of2 (oB.own rfl)) (ah tk rfl (ac (dP 4 rfl rfl rfl ?_)))
  exact aY tk H rfl
 refine ao 2 tk rfl ?_
 refine aF rfl H (fun H=>?_) (fun H=>?_)
 ·refine ao 1 tk rfl (ab (ab (aa (ah tk rfl (aA tk (zl _) ?_)))))
  refine ah tk rfl (ac ?_)
  obtain ⟨fl3,H3,Hp3⟩ := av H
  refine iq tk 91 rfl rfl (fun hz3 _=>?_)
  rw [zl] at hz3
  refine fY (τ := Rz) (γ := OwnRef) (fun s3 g3=>⟨139,upd (upd (upd (fun _=>.any) 9 (.own 105 g3 (s3.map (am 73 ae)).length)) 3 (.ptr (aI q))) 2 (.ptr (eh rA)),fun _=>none,upd (fun _=>none) 105 (some ⟨g3,75,(s3.map (am 73 ae)),true⟩)⟩) (fun t=>fl3 = .next t) ?_ (fun s3 g3 hn3=>?_)
  ·refine aw (iR tk 9 105 (e := 75) rfl rfl ?_)
   refine jC (fun j3 s3 g3=>⟨139,upd (upd (upd (upd (upd (upd (upd (fun _=>.any) 93 (al (j3 : Int))) 92 (al (x74.length : Int))) 91 (.list 75 (x74.map (am 73 ae)))) 9 (.own 105 g3 (s3.map (am 73 ae)).length)) 8 (.box 8 b8 0)) 3 (.ptr (aI q))) 2 (.ptr (eh rA)),upd (fun _=>none) 8 (some ⟨b8,[(.list 68 (x80.map ay))]⟩),upd (fun _=>none) 105 (some ⟨g3,75,(s3.map (am 73 ae)),true⟩)⟩) (⟨none,0⟩) H3 Gh.d (fun j3 s3 g3 hj3 hr3=>?_)
   refine ao 1 tk rfl (ab ?_)
   refine br rfl (fun h=>?_) (fun h=>?_)
   ·have hl3 := qH h
    obtain ⟨x3,fb3,hx3,H,hg3⟩ := rMc hl3 hr3
    refine ap (ab (aw (ab (aa ?_))))
    refine aU tk (zn j3) (bn (fun _=>rfl) hx3) ?_
    refine ag 2 tk rfl (ac (aa (ag 2 tk rfl (aD tk ?_))))
    refine ag 3 tk rfl ?_
    obtain ⟨x103,h103,H⟩ := av H
    have s103 := kv rA x80 x3 q.exprs _ h103
    refine ak Tryz.call160 (jn.r) s103 ?_
    refine cn tk (rows' := List.map (am 73 ae) ([x103] : Rz)) (gD.refl _) ?_
    obtain ⟨x105,h105,H⟩ := av H
    have k105 := cu h105
    refine cp (rows2' := List.map (am 73 ae) ([x103] : Rz)) (rows' := List.map (am 73 ae) x105) tk rfl rfl rfl rfl rfl rfl rfl rfl rfl rfl rfl rfl rfl (gD.refl _) (dT k105.1) (dU k105.2.1) (dS k105.2.2) fun g105=>?_
    refine ah tk rfl (ac (aG (bc 2 tk rfl ?_)))
    exact bl g105 H hl3 hg3
   have hn3 := rMd (qJ h) hr3
   refine bq rfl ?_
   refine aT s3 g3 hn3 Gh.d
  have H := dG hn3 Hp3
  refine ao 2 tk rfl (dP 4 rfl rfl rfl ?_)
  exact aY tk H rfl
 refine ao 2 tk rfl ?_
 refine aF rfl H (fun H=>?_) (fun H=>?_)
 ·refine ab (aa (ag 2 tk rfl (aD tk ?_)))
  refine ah tk rfl ?_
  obtain ⟨x114,h114,H⟩ := av H
  have s114 := tM rA q x80 x74 _ h114
  refine ak Tryz.call161 (jn.r) s114 ?_
  refine ah tk rfl (ac ?_)
  exact aY tk H rfl
 refine ao 2 tk rfl ?_
 refine aF rfl H (fun H=>?_) (fun H=>?_)
 ·refine ab (aa (ag 2 tk rfl (aD tk ?_)))
  refine ah tk rfl ?_
  obtain ⟨x121,h121,H⟩ := av H
  have s121 := ur rA q x80 x74 _ h121
  refine ak Tryz.call162 (jn.r) s121 ?_
  refine ah tk rfl (ac ?_)
  exact aY tk H rfl
 refine ap (aG (ab (aa (ag 3 tk rfl (aA tk (zl _) ?_)))))
 refine ag 2 tk rfl (ac (ab (aa (ag 6 tk rfl (aA tk (zl _) ?_)))))
 refine ag 4 tk rfl ?_
 obtain ⟨x138,h138,H⟩ := av H
 have k138 := oq h138
 refine uK tk rfl rfl rfl rfl rfl (zl _) rfl rfl k138.1 (pM k138.2) rfl (ah tk rfl (ac ?_))
 exact aY tk H rfl
def jG (rec100 : LRun → LQuery → Option (Rz)) (_rec152 : LRun → LQuery → Option (Rz)) (rA : LRun) (q : LQuery) : Option (Rz) :=
 af (aJ q.inputs 0) fun (x19 : LQuery) =>
 af (aJ q.inputs 1) fun (x25 : LQuery) =>
 af (rec100 rA x19) fun x21 =>
 af (rec100 rA x25) fun x27 =>
 af (aJ q.inputs 1) fun (x31 : LQuery) =>
 af (gU rA x31) fun x33 =>
 af (aJ q.inputs 0) fun (x37 : LQuery) =>
 af (gU rA x37) fun x39 =>
 af (dg 32 x39 x33) fun (x42 : List LCol) =>
 af (aH (σ := List LCol × Rz) (ρ := Empty) (fun (_ : Nat) (x1 : Rq) (s1 : List LCol × Rz) =>
  af (aH (σ := Rz × Bool) (ρ := Empty) (fun (_ : Nat) (x6 : Rq) (s6 : Rz × Bool) =>
   af (bT ([x1,x6] : Rz)) fun x58 =>
   af (aJ q.exprs 0) fun (x65 : LExpr) =>
   bv (bf rA s1.1 x58) fun x62 =>
   bv (cg x62 x65) fun x67 =>
   bv (lG x67) fun x68 =>
   cond x68
    (af (dg 24 s6.1 ([x58] : Rz)) fun (x72 : Rz) =>
    some (.next (x72,true)))
    (some (.next (s6.1,s6.2)))) 0 x27 (s1.2,false)) fun fl6=>fl6.thenP fun (s6 : Rz × Bool) =>
  bv (
   cond (!s6.2)
    ((q.kind == (5 : Int)))
    (false)) fun (t7 : Bool) =>
  cond t7
   (af (qp 32 (x33.length : Int)) fun (_ : Unit) =>
   af (bT ([x1,(List.replicate (x33.length : Int).toNat (LVal.mk 0 0 []))] : Rz)) fun x87 =>
   af (dg 24 s6.1 ([x87] : Rz)) fun (x89 : Rz) =>
   some (.next (s1.1,x89)))
   (some (.next (s1.1,s6.1)))) 0 x21 (x42,[])) fun fl1=>fl1.thenP fun (s1 : List LCol × Rz) =>
 some s1.2
theorem tK (rec100 : LRun → LQuery → Option (Rz)) (rec152 : LRun → LQuery → Option (Rz)) (hrec100 : ∀ a0 a1 r,rec100 a0 a1 = some r → aK Tryz.prog 100 [(.agg (eh a0)),(.agg (aI a1))] (.list 75 (r.map (am 73 ae)))) (_hrec152 : ∀ a0 a1 r,rec152 a0 a1 = some r → aK Tryz.prog 152 [(.agg (eh a0)),(.agg (aI a1))] (.list 75 (r.map (am 73 ae)))) (rA : LRun) (q : LQuery) (r : Rz) (H : jG rec100 rec152 rA q = some r) :
  aK Tryz.prog 152 [(.agg (eh rA)),(.agg (aI q))] (.list 75 (r.map (am 73 ae))) := by
 unfold jG at H
 refine PH.au Tryz.func152 Tryz.ntmps152 ?_
 refine ab (aa (aE ?_))
 refine aE ?_
 refine ah tk rfl (ac (ab (bm tk mok ⟨false,false,[]⟩ [0,1,2,3,4,6,7,8,9,10,5,11,12,13] rfl (by decide +kernel) rfl (aN 3 rfl ?_))))
 obtain ⟨x19,k19,H⟩ := bs H
 refine bE k19.1 (aP ce k19.2) ?_
 refine aN 4 rfl ?_
 obtain ⟨x25,k25,H⟩ := bs H
 refine bE k25.1 (aP ce k25.2) ?_
 refine bV rfl ?_
 obtain ⟨x21,h21,H⟩ := av H
 have s21 := hrec100 rA x19 _ h21
 refine aV Tryz.call100 (jn.r) s21 ?_
 obtain ⟨x27,h27,H⟩ := av H
 have s27 := hrec100 rA x25 _ h27
 refine aV Tryz.call100 (jn.r) s27 ?_
 refine aN 2 rfl (be (ab (bm tk mok ⟨false,false,[]⟩ [0,1,2,3,4,5,6] rfl (by decide +kernel) rfl (aN 3 rfl ?_))))
 obtain ⟨x31,k31,H⟩ := bs H
 refine bE k31.1 (aP ce k31.2) ?_
 refine bV rfl ?_
 obtain ⟨x33,h33,H⟩ := av H
 have s33 := mj rA x31 _ h33
 refine aV Tryz.call155 (jn.r) s33 ?_
 refine bV rfl (be (ab (bm tk mok ⟨false,false,[]⟩ [0,1,2,3,4,7,5,6,8,9] rfl (by decide +kernel) rfl (aN 3 rfl ?_))))
 obtain ⟨x37,k37,H⟩ := bs H
 refine bE k37.1 (aP ce k37.2) ?_
 refine aN 2 rfl ?_
 obtain ⟨x39,h39,H⟩ := av H
 have s39 := mj rA x37 _ h39
 refine aV Tryz.call155 (jn.r) s39 ?_
 have s40 := ol (m := 40) x39
 refine uN (g := 195) rfl rfl rfl rfl Tryz.call195 (jn.r) rfl rfl s40 (fun g40=>?_)
 obtain ⟨x42,h42,H⟩ := av H
 have k42 := cu h42
 refine lN (rows2' := List.map ay x33) (rows' := List.map ay x42) tk rfl rfl rfl rfl rfl rfl rfl rfl rfl rfl rfl rfl rfl rfl (gD.refl _) (dT k42.1) (dU k42.2.1) (dS k42.2.2) fun g42=>?_
 refine bV rfl (be (ao 1 tk rfl (ab (ab (aa (ah tk rfl (aA tk (zl _) ?_)))))))
 refine ah tk rfl (ac (dP 8 rfl rfl rfl (iR tk 9 72 (e := 75) rfl rfl ?_)))
 refine uR (γ := OwnRef) tk 43 rfl rfl (fun s1 g1=>upd (upd (upd (upd (upd (fun _=>.any) 9 (.own 72 g1 (s1.2.map (am 73 ae)).length)) 7 (.list 68 (x33.map ay))) 6 (.list 75 (x27.map (am 73 ae)))) 3 (.ptr (aI q))) 2 (.ptr (eh rA))) nB (fun s1 g1=>upd (fun _=>none) 72 (some ⟨g1,75,(s1.2.map (am 73 ae)),true⟩)) (fun e j1 s1 g1=>upd (upd (upd (upd e 45 (al (j1 : Int))) 44 (al (x21.length : Int))) 43 (.list 75 (x21.map (am 73 ae)))) 8 (.list 68 (s1.1.map ay))) (⟨none,0⟩) H rfl Gh.d (fun _ _ _=>rfl) (fun _ _ _=>rfl) (fun _ _ _=>Gh.d) (fun fl1 Hp1 j1 s1 g1 hz1 hl1 x1 fb1 hx1 H hg1=>?_) (fun s1 g1 H=>?_)
 ·refine ab (aw (ab (aa ?_)))
  refine aU tk (zn j1) (bn (fun _=>rfl) hx1) ?_
  refine ag 2 tk rfl (ac (ao 1 tk rfl (ab (ab (aa (ah tk rfl (aA tk (zl _) ?_)))))))
  refine ah tk rfl (ac ?_)
  refine hZ (γ := OwnRef) tk 51 50 49 (fun s6 g6=>upd (upd (upd (upd (upd (upd (upd (upd (upd (upd (upd (fun _=>.any) 45 (al (j1 : Int))) 44 (al (x21.length : Int))) 43 (.list 75 (x21.map (am 73 ae)))) 12 (aC s6.2)) 11 (.list 73 (x1.map ae))) 9 (.own 72 g6 (s6.1.map (am 73 ae)).length)) 8 (.list 68 (s1.1.map ay))) 7 (.list 68 (x33.map ay))) 6 (.list 75 (x27.map (am 73 ae)))) 3 (.ptr (aI q))) 2 (.ptr (eh rA))) nB (fun s6 g6=>upd (fun _=>none) 72 (some ⟨g6,75,(s6.1.map (am 73 ae)),true⟩)) g1 H (fun fl6 Hp6 j6 s6 g6 hz6 hl6 x6 fb6 hx6 H hg6=>?_) (fun s6 g6 H=>?_)
  ·refine ab (aw (ab (aa ?_)))
   refine aU tk (zn j6) (bn (fun _=>rfl) hx6) ?_
   refine ag 2 tk rfl (ac (ab (aa (ag 2 tk rfl (cn tk (rows' := List.map (am 73 ae) ([x1,x6] : Rz)) (gD.refl _) ?_)))))
   obtain ⟨x58,h58,H⟩ := av H
   have s58 := js (m := 58) ([x1,x6] : Rz) _ h58
   refine ak Tryz.call218 (jn.r) (PFun.ju s58) ?_
   refine ah tk rfl (ac (ab (bm tk mok ⟨false,false,[]⟩ [0,1,2,4,5,6,7,3,8,9] rfl (by decide +kernel) rfl (aN 5 rfl ?_))))
   obtain ⟨x65,k65,H⟩ := bs H
   refine bE k65.1 (aP eS k65.2) ?_
   refine bV rfl ?_
   obtain ⟨x62,h62,H⟩ := cX H
   have s62 := lj rA s1.1 x58
   rw [h62] at s62
   refine aV Tryz.call159 (jn.r) s62 ?_
   obtain ⟨x67,h67,H⟩ := cX H
   have s67 := nV x62 x65
   rw [h67] at s67
   refine aV Tryz.call158 (jn.r) s67 ?_
   obtain ⟨x68,h68,H⟩ := cX H
   have s68 := isTS x67
   rw [h68] at s68
   refine aV Tryz.call135 (jn.r) s68 ?_
   refine be ?_
   refine aF rfl H (fun H=>?_) (fun H=>?_)
   ·refine ab (aa (ag 2 tk rfl (cn tk (rows' := List.map (am 73 ae) ([x58] : Rz)) (gD.refl _) ?_)))
    obtain ⟨x72,h72,H⟩ := av H
    have k72 := cu h72
    refine cp (rows2' := List.map (am 73 ae) ([x58] : Rz)) (rows' := List.map (am 73 ae) x72) tk rfl rfl rfl rfl rfl rfl rfl rfl rfl rfl rfl rfl rfl (gD.refl _) (dT k72.1) (dU k72.2.1) (dS k72.2.2) fun g72=>?_
    refine ah tk rfl (ac (bc 1 tk rfl (aG (bc 2 tk rfl ?_))))
    exact bl g72 H hl6 hg6
   refine ap (aG (bc 2 tk rfl ?_))
   exact bl g6 H hl6 hg6
  refine ab ?_
  refine gp (γ := Unit) (fun t7 g7=>⟨92,upd (upd (upd (upd (upd (upd (upd (upd (upd (upd (upd (fun _=>.any) 80 (aC t7)) 45 (al (j1 : Int))) 44 (al (x21.length : Int))) 43 (.list 75 (x21.map (am 73 ae)))) 11 (.list 73 (x1.map ae))) 9 (.own 72 g6 (s6.1.map (am 73 ae)).length)) 8 (.list 68 (s1.1.map ay))) 7 (.list 68 (x33.map ay))) 6 (.list 75 (x27.map (am 73 ae)))) 3 (.ptr (aI q))) 2 (.ptr (eh rA)),fun _=>none,upd (fun _=>none) 72 (some ⟨g6,75,(s6.1.map (am 73 ae)),true⟩)⟩) H (fun _ H=>?_) (fun t7 g7 H=>?_)
  ·refine aa (ag 3 tk rfl ?_)
   refine bh rfl rfl rfl H (fun H=>?_) (fun H=>?_)
   ·refine ag 4 tk rfl (ac ?_)
    refine aT _ () H Gh.d
   refine ag 4 tk rfl (ac ?_)
   refine aT _ () H Gh.d
  refine aF rfl H (fun H=>?_) (fun H=>?_)
  ·refine aa (ag 3 tk rfl (aA tk (zl _) ?_))
   obtain ⟨_,h85,H⟩ := av H
   have k85 := growI_some h85
   refine vv (rows := List.map ae (List.replicate (x33.length : Int).toNat (LVal.mk 0 0 []))) tk rfl rfl rfl rfl rfl rfl rfl rfl rfl rfl k85.1 k85.2.1 k85.2.2 (by rw [List.map_replicate]; rfl) fun g85=>?_
   refine dc (Gh.freezeO 85 rfl rfl rfl) (cn tk (rows' := List.map (am 73 ae) ([x1,(List.replicate (x33.length : Int).toNat (LVal.mk 0 0 []))] : Rz)) (gD.refl _) ?_)
   obtain ⟨x87,h87,H⟩ := av H
   have s87 := js (m := 87) ([x1,(List.replicate (x33.length : Int).toNat (LVal.mk 0 0 []))] : Rz) _ h87
   refine ak Tryz.call218 (jn.r) (PFun.ju s87) ?_
   refine cn tk (rows' := List.map (am 73 ae) ([x87] : Rz)) (gD.refl _) ?_
   obtain ⟨x89,h89,H⟩ := av H
   have k89 := cu h89
   refine cp (rows2' := List.map (am 73 ae) ([x87] : Rz)) (rows' := List.map (am 73 ae) x89) tk rfl rfl rfl rfl rfl rfl rfl rfl rfl rfl rfl rfl rfl (gD.refl _) (dT k89.1) (dU k89.2.1) (dS k89.2.2) fun g89=>?_
   refine ah tk rfl (ac (aG (bc 2 tk rfl ?_)))
   exact bl g89 H hl1 hg1
  refine ap (aG (bc 2 tk rfl ?_))
  exact bl g6 H hl1 hg1
 refine ao 2 tk rfl (dP 4 rfl rfl rfl ?_)
 exact aY tk H rfl
mutual
def fH : Nat → LRun → LQuery → Option (Rz)
 | 0,_,_=>none
 | n + 1,v0,v1=>kJ (fun b0 b1=>fH n b0 b1) (fun b0 b1=>gT n b0 b1) v0 v1
def gT : Nat → LRun → LQuery → Option (Rz)
 | 0,_,_=>none
 | n + 1,v0,v1=>jG (fun b0 b1=>fH n b0 b1) (fun b0 b1=>gT n b0 b1) v0 v1
end
theorem tR  (n : Nat) : (∀ a0 a1 r,fH n a0 a1 = some r → aK Tryz.prog 100 [(.agg (eh a0)),(.agg (aI a1))] (.list 75 (r.map (am 73 ae)))) ∧ (∀ a0 a1 r,gT n a0 a1 = some r → aK Tryz.prog 152 [(.agg (eh a0)),(.agg (aI a1))] (.list 75 (r.map (am 73 ae)))) := by
 induction n with
 | zero=>exact ⟨(by intros; rename_i h; exact absurd (show (none : Option _) = some _ from h) (by simp)),(by intros; rename_i h; exact absurd (show (none : Option _) = some _ from h) (by simp))⟩
 | succ n ih =>
  exact ⟨(fun v0 v1 r h=>tV (fun b0 b1=>fH n b0 b1) (fun b0 b1=>gT n b0 b1) ih.1 ih.2 v0 v1  r h),(fun v0 v1 r h=>tK (fun b0 b1=>fH n b0 b1) (fun b0 b1=>gT n b0 b1) ih.1 ih.2 v0 v1  r h)⟩
def mr (rA : LRun) (q : LQuery) : Option (Rz) := ir fun n=>fH n rA q
theorem uo (rA : LRun) (q : LQuery) (r : Rz) (H : mr rA q = some r) :
  aK Tryz.prog 100 [(.agg (eh rA)),(.agg (aI q))] (.list 75 (r.map (am 73 ae))) := by
 obtain ⟨n,h⟩ := iW H
 exact (tR  n).1 rA q r h
end
end Go.Proofs.YtppmcepdcpmpcaaGreatDoor
