/- cardinalityBoundsHoldUpto_holds, part 5: the layer, the plain functions and what they compute; conditions as in the statement. -/
import Derived.Test.YteceobbkljmbmaaGreatDoorCad
set_option maxHeartbeats 4000000
namespace Go.Proofs.YteceobbkljmbmaaGreatDoor
noncomputable section
open Go Go.Ab
attribute [local irreducible] V Ao Do Gh Eff PH IntKind.wrap
set_option maxRecDepth 4000
def cC (rec233 : Rz → Int → Int → Int → Option (Rz)) (data : Rz) (a : Int) (m : Int) (b : Int) (cmp : Rq → Rq → Option (Int)) : Option (Rz) :=
 cond ((IntKind.i64.wrap (m - a)) == (1 : Int))
  (af (fh (σ := Rz × Int × Int) (ρ := Empty) (fun (s1 : Rz × Int × Int) =>
   cond (decide (s1.2.1 < s1.2.2))
    (af (aF s1.1 (IntKind.i64.wrap (Int.fdiv (IntKind.u64.wrap (IntKind.i64.wrap (s1.2.1 + s1.2.2))) (2 ^ 1)))) fun (x43 : Rq) =>
    af (aF s1.1 a) fun (x47 : Rq) =>
    af (cmp x43 x47) fun x49 =>
    cond (decide (x49 < (0 : Int)))
     (some (.next (s1.1,(IntKind.i64.wrap ((IntKind.i64.wrap (Int.fdiv (IntKind.u64.wrap (IntKind.i64.wrap (s1.2.1 + s1.2.2))) (2 ^ 1))) + (1 : Int))),s1.2.2)))
     (some (.next (s1.1,s1.2.1,(IntKind.i64.wrap (Int.fdiv (IntKind.u64.wrap (IntKind.i64.wrap (s1.2.1 + s1.2.2))) (2 ^ 1)))))))
    (some (.brk (s1.1,s1.2.1,s1.2.2)))) (data,m,b)) fun fl1=>fl1.thenP fun (s1 : Rz × Int × Int) =>
  af (fh (σ := Rz × Int) (ρ := Empty) (fun (s2 : Rz × Int) =>
   cond (decide (s2.2 < (IntKind.i64.wrap (s1.2.1 - (1 : Int)))))
    (af (aF s2.1 (IntKind.i64.wrap (s2.2 + (1 : Int)))) fun (x69 : Rq) =>
    af (aF s2.1 s2.2) fun (x73 : Rq) =>
    af (aF s2.1 s2.2) fun (_ : Rq) =>
    bC (s2.1.set s2.2.toNat x69) fun (y7 : Rz) =>
    af (aF y7 (IntKind.i64.wrap (s2.2 + (1 : Int)))) fun (_ : Rq) =>
    bC (y7.set ((IntKind.i64.wrap (s2.2 + (1 : Int))).toNat) x73) fun (y8 : Rz) =>
    some (.next (y8,(IntKind.i64.wrap (s2.2 + (1 : Int))))))
    (some (.brk (s2.1,s2.2)))) (s1.1,a)) fun fl2=>fl2.thenP fun (s2 : Rz × Int) =>
  some s2.1)
  (cond ((IntKind.i64.wrap (b - m)) == (1 : Int))
   (af (fh (σ := Rz × Int × Int) (ρ := Empty) (fun (s9 : Rz × Int × Int) =>
    cond (decide (s9.2.1 < s9.2.2))
     (af (aF s9.1 m) fun (x95 : Rq) =>
     af (aF s9.1 (IntKind.i64.wrap (Int.fdiv (IntKind.u64.wrap (IntKind.i64.wrap (s9.2.1 + s9.2.2))) (2 ^ 1)))) fun (x99 : Rq) =>
     af (cmp x95 x99) fun x101 =>
     cond (!(decide (x101 < (0 : Int))))
      (some (.next (s9.1,(IntKind.i64.wrap ((IntKind.i64.wrap (Int.fdiv (IntKind.u64.wrap (IntKind.i64.wrap (s9.2.1 + s9.2.2))) (2 ^ 1))) + (1 : Int))),s9.2.2)))
      (some (.next (s9.1,s9.2.1,(IntKind.i64.wrap (Int.fdiv (IntKind.u64.wrap (IntKind.i64.wrap (s9.2.1 + s9.2.2))) (2 ^ 1)))))))
     (some (.brk (s9.1,s9.2.1,s9.2.2)))) (data,a,m)) fun fl9=>fl9.thenP fun (s9 : Rz × Int × Int) =>
   af (fh (σ := Rz × Int) (ρ := Empty) (fun (s10 : Rz × Int) =>
    cond (decide (s10.2 > s9.2.1))
     (af (aF s10.1 (IntKind.i64.wrap (s10.2 - (1 : Int)))) fun (x121 : Rq) =>
     af (aF s10.1 s10.2) fun (x125 : Rq) =>
     af (aF s10.1 s10.2) fun (_ : Rq) =>
     bC (s10.1.set s10.2.toNat x121) fun (y15 : Rz) =>
     af (aF y15 (IntKind.i64.wrap (s10.2 - (1 : Int)))) fun (_ : Rq) =>
     bC (y15.set ((IntKind.i64.wrap (s10.2 - (1 : Int))).toNat) x125) fun (y16 : Rz) =>
     some (.next (y16,(IntKind.i64.wrap (s10.2 - (1 : Int))))))
     (some (.brk (s10.1,s10.2)))) (s9.1,m)) fun fl10=>fl10.thenP fun (s10 : Rz × Int) =>
   some s10.1)
   (bC (
    cond (decide (m > (IntKind.i64.wrap (Int.fdiv (IntKind.u64.wrap (IntKind.i64.wrap (a + b))) (2 ^ 1)))))
     ((data,(IntKind.i64.wrap ((IntKind.i64.wrap ((IntKind.i64.wrap (Int.fdiv (IntKind.u64.wrap (IntKind.i64.wrap (a + b))) (2 ^ 1))) + m)) - b)),(IntKind.i64.wrap (Int.fdiv (IntKind.u64.wrap (IntKind.i64.wrap (a + b))) (2 ^ 1)))))
     ((data,a,m))) fun (t17 : Rz × Int × Int) =>
   af (fh (σ := Rz × Int × Int) (ρ := Empty) (fun (s18 : Rz × Int × Int) =>
    cond (decide (s18.2.1 < s18.2.2))
     (af (aF s18.1 (IntKind.i64.wrap ((IntKind.i64.wrap ((IntKind.i64.wrap ((IntKind.i64.wrap (Int.fdiv (IntKind.u64.wrap (IntKind.i64.wrap (a + b))) (2 ^ 1))) + m)) - (1 : Int))) - (IntKind.i64.wrap (Int.fdiv (IntKind.u64.wrap (IntKind.i64.wrap (s18.2.1 + s18.2.2))) (2 ^ 1)))))) fun (x163 : Rq) =>
     af (aF s18.1 (IntKind.i64.wrap (Int.fdiv (IntKind.u64.wrap (IntKind.i64.wrap (s18.2.1 + s18.2.2))) (2 ^ 1)))) fun (x167 : Rq) =>
     af (cmp x163 x167) fun x169 =>
     cond (!(decide (x169 < (0 : Int))))
      (some (.next (s18.1,(IntKind.i64.wrap ((IntKind.i64.wrap (Int.fdiv (IntKind.u64.wrap (IntKind.i64.wrap (s18.2.1 + s18.2.2))) (2 ^ 1))) + (1 : Int))),s18.2.2)))
      (some (.next (s18.1,s18.2.1,(IntKind.i64.wrap (Int.fdiv (IntKind.u64.wrap (IntKind.i64.wrap (s18.2.1 + s18.2.2))) (2 ^ 1)))))))
     (some (.brk (s18.1,s18.2.1,s18.2.2)))) (t17.1,t17.2.1,t17.2.2)) fun fl18=>fl18.thenP fun (s18 : Rz × Int × Int) =>
   bC (
    cond (decide (s18.2.1 < m))
     ((s18.1,(decide (m < (IntKind.i64.wrap ((IntKind.i64.wrap ((IntKind.i64.wrap (Int.fdiv (IntKind.u64.wrap (IntKind.i64.wrap (a + b))) (2 ^ 1))) + m)) - s18.2.1))))))
     ((s18.1,false))) fun (t19 : Rz × Bool) =>
   af (
    cond t19.2
     (af (dA t19.1 s18.2.1 m (IntKind.i64.wrap ((IntKind.i64.wrap ((IntKind.i64.wrap (Int.fdiv (IntKind.u64.wrap (IntKind.i64.wrap (a + b))) (2 ^ 1))) + m)) - s18.2.1)) cmp) fun x191 =>
     af (fm (x191.length = t19.1.length) ()) fun (_ : Unit) =>
     some x191)
     (some t19.1)) fun (t20 : Rz) =>
   bC (
    cond (decide (a < s18.2.1))
     ((t20,(decide (s18.2.1 < (IntKind.i64.wrap (Int.fdiv (IntKind.u64.wrap (IntKind.i64.wrap (a + b))) (2 ^ 1)))))))
     ((t20,false))) fun (t21 : Rz × Bool) =>
   af (
    cond t21.2
     (af (rec233 t21.1 a s18.2.1 (IntKind.i64.wrap (Int.fdiv (IntKind.u64.wrap (IntKind.i64.wrap (a + b))) (2 ^ 1)))) fun x205 =>
     af (fm (x205.length = t21.1.length) ()) fun (_ : Unit) =>
     some x205)
     (some t21.1)) fun (t22 : Rz) =>
   cond (decide ((IntKind.i64.wrap (Int.fdiv (IntKind.u64.wrap (IntKind.i64.wrap (a + b))) (2 ^ 1))) < (IntKind.i64.wrap ((IntKind.i64.wrap ((IntKind.i64.wrap (Int.fdiv (IntKind.u64.wrap (IntKind.i64.wrap (a + b))) (2 ^ 1))) + m)) - s18.2.1))))
    (cond (decide ((IntKind.i64.wrap ((IntKind.i64.wrap ((IntKind.i64.wrap (Int.fdiv (IntKind.u64.wrap (IntKind.i64.wrap (a + b))) (2 ^ 1))) + m)) - s18.2.1)) < b))
     (af (rec233 t22 (IntKind.i64.wrap (Int.fdiv (IntKind.u64.wrap (IntKind.i64.wrap (a + b))) (2 ^ 1))) (IntKind.i64.wrap ((IntKind.i64.wrap ((IntKind.i64.wrap (Int.fdiv (IntKind.u64.wrap (IntKind.i64.wrap (a + b))) (2 ^ 1))) + m)) - s18.2.1)) b) fun x219 =>
     af (fm (x219.length = t22.length) ()) fun (_ : Unit) =>
     some x219)
     (some t22))
    (some t22)))
theorem lR (g_data : OwnRef) {g_cmp : FuncId} {caps_cmp : List PV} (rec233 : Rz → Int → Int → Int → Option (Rz)) (hrec233 : ∀ g0 a0 a1 a2 a3 r,rec233 a0 a1 a2 a3 = some r → PH Tryz.prog 233 [(.own 0 g0 (a0.map (aq 75 ae)).length),(ap a1),(ap a2),(ap a3),(.fn g_cmp caps_cmp)] ⟨fun _=>none,upd (fun _=>none) 0 (some ⟨g0,77,(a0.map (aq 75 ae)),true⟩)⟩ (fun u H=>u = (.tup []) ∧ H = ⟨fun _=>none,upd (fun _=>none) 0 (some ⟨g0,77,(r.map (aq 75 ae)),true⟩)⟩)) (data : Rz) (a : Int) (m : Int) (b : Int) (cmp : Rq → Rq → Option (Int)) (hg_cmp : ∀ (vs : Array Value) (w : World),(callFunc g_cmp vs).run Tryz.prog w = .ok (.enter g_cmp vs) w) (hp_cmp : ∀ a0 a1 r,cmp a0 a1 = some r → aP Tryz.prog g_cmp ((.list 75 (a0.map ae)) :: (.list 75 (a1.map ae)) :: caps_cmp) (ap r)) (r : Rz) (H : cC rec233 data a m b cmp = some r) :
  PH Tryz.prog 233 [(.own 0 g_data (data.map (aq 75 ae)).length),(ap a),(ap m),(ap b),(.fn g_cmp caps_cmp)] ⟨fun _=>none,upd (fun _=>none) 0 (some ⟨g_data,77,(data.map (aq 75 ae)),true⟩)⟩ (fun u H=>u = (.tup []) ∧ H = ⟨fun _=>none,upd (fun _=>none) 0 (some ⟨g_data,77,(r.map (aq 75 ae)),true⟩)⟩) := by
 unfold cC at H
 refine PH.ay Tryz.func233 Tryz.ntmps233 ?_
 refine ab (aw 4 tk rfl ?_)
 refine aM rfl H (fun H=>?_) (fun H=>?_)
 ·refine aw 2 tk rfl (aw 2 tk rfl (ab ?_))
  obtain ⟨fl1,H1,Hp1⟩ := az H
  refine eZ (τ := Rz × Int × Int) (γ := Unit) (fun s1 g1=>⟨220,upd (upd (upd (fun _=>.any) 10 (ap s1.2.1)) 1 (ap a)) 0 (.own 0 g_data (s1.1.map (aq 75 ae)).length),fun _=>none,upd (fun _=>none) 0 (some ⟨g_data,77,(s1.1.map (aq 75 ae)),true⟩)⟩) (fun t=>fl1 = .next t) ?_ (fun s1 g1 hn1=>?_)
  ·refine ax ?_
   refine gC (fun s1 g1=>⟨220,upd (upd (upd (upd (upd (fun _=>.any) 11 (ap s1.2.2)) 10 (ap s1.2.1)) 4 (.fn g_cmp caps_cmp)) 1 (ap a)) 0 (.own 0 g_data (s1.1.map (aq 75 ae)).length),fun _=>none,upd (fun _=>none) 0 (some ⟨g_data,77,(s1.1.map (aq 75 ae)),true⟩)⟩) () H1 Gh.d (fun m1 s1 g1 hr1=>?_)
   obtain ⟨fb1,H,hg1⟩ := ff hr1
   refine ab (aw 3 tk rfl ?_)
   refine aM rfl H (fun H=>?_) (fun H=>?_)
   ·refine av (ax (ab (aa (ag 4 tk rfl (uA (m := 1) rfl rfl rfl rfl (by decide) rfl rfl (ag 2 tk rfl (ac (ab ?_))))))))
    refine jP (tag := 0) rfl (fun ho0=>?_)
    refine bp tk mok ⟨false,true,[]⟩ [0,1,2,3,4,5,6,7,8,9,10] rfl (by decide +kernel) rfl (aQ 3 rfl ?_)
    obtain ⟨x43,k43,H⟩ := be H
    refine dh tk ⟨k43.1,(ee k43.2)⟩ (eo ho0 k43.2) ?_
    refine eP tk (aG (fun _=>rfl) k43.2) ?_
    refine aQ 2 rfl ?_
    obtain ⟨x47,k47,H⟩ := be H
    refine dh tk ⟨k47.1,(ee k47.2)⟩ (eo ho0 k47.2) ?_
    refine eP tk (aG (fun _=>rfl) k47.2) ?_
    obtain ⟨x49,h49,H⟩ := az H
    refine aY hg_cmp (jp.r) (hp_cmp _ _ _ h49) ?_
    refine bK rfl (bg ?_)
    refine aM rfl H (fun H=>?_) (fun H=>?_)
    ·refine bf 3 tk rfl (aL ?_)
     obtain rfl := aE H
     refine eg (s1.1,(IntKind.i64.wrap ((IntKind.i64.wrap (Int.fdiv (IntKind.u64.wrap (IntKind.i64.wrap (s1.2.1 + s1.2.2))) (2 ^ 1))) + (1 : Int))),s1.2.2) () hg1 Gh.d
    refine bf 2 tk rfl (aL ?_)
    obtain rfl := aE H
    refine eg (s1.1,s1.2.1,(IntKind.i64.wrap (Int.fdiv (IntKind.u64.wrap (IntKind.i64.wrap (s1.2.1 + s1.2.2))) (2 ^ 1)))) () hg1 Gh.d
   refine br rfl ?_
   obtain rfl := aE H
   refine bd (s1.1,s1.2.1,s1.2.2) () hg1 Gh.d
  have H := dw hn1 Hp1
  refine ab (aw 2 tk rfl ?_)
  obtain ⟨fl2,H2,Hp2⟩ := az H
  refine eZ (τ := Rz × Int) (γ := Unit) (fun s2 g2=>⟨220,upd (fun _=>.any) 0 (.own 0 g_data (s2.1.map (aq 75 ae)).length),fun _=>none,upd (fun _=>none) 0 (some ⟨g_data,77,(s2.1.map (aq 75 ae)),true⟩)⟩) (fun t=>fl2 = .next t) ?_ (fun s2 g2 hn2=>?_)
  ·refine ax ?_
   refine gC (fun s2 g2=>⟨220,upd (upd (upd (fun _=>.any) 13 (ap s2.2)) 10 (ap s1.2.1)) 0 (.own 0 g_data (s2.1.map (aq 75 ae)).length),fun _=>none,upd (fun _=>none) 0 (some ⟨g_data,77,(s2.1.map (aq 75 ae)),true⟩)⟩) () H2 Gh.d (fun m2 s2 g2 hr2=>?_)
   obtain ⟨fb2,H,hg2⟩ := ff hr2
   refine ab (aw 4 tk rfl ?_)
   refine aM rfl H (fun H=>?_) (fun H=>?_)
   ·refine av (ab (ax ?_))
    refine jP (tag := 0) rfl (fun ho0=>?_)
    refine bp tk mok ⟨false,true,[]⟩ [0,1,2,3,4,5,6,7,8,9,10,11,12,13,14,15,16,17] rfl (by decide +kernel) rfl (aQ 8 rfl ?_)
    obtain ⟨x69,k69,H⟩ := be H
    refine dh tk ⟨k69.1,(ee k69.2)⟩ (eo ho0 k69.2) ?_
    refine eP tk (aG (fun _=>rfl) k69.2) ?_
    refine aQ 2 rfl ?_
    obtain ⟨x73,k73,H⟩ := be H
    refine dh tk ⟨k73.1,(ee k73.2)⟩ (eo ho0 k73.2) ?_
    refine eP tk (aG (fun _=>rfl) k73.2) ?_
    obtain ⟨x75,k75,H⟩ := be H
    refine dh tk ⟨k75.1,(ee k75.2)⟩ (eo ho0 k75.2) ?_
    obtain ⟨y7,hy7,H⟩ := cO H
    refine jc tk rfl rfl rfl rfl rfl rfl rfl rfl rfl (by rw [zl]; exact (zg.1 k75.2).1) (PLe.refl _ _) rfl rfl rfl rfl (by decide) (fY (fun _=>rfl) k75.2 rfl hy7) ?_
    obtain ⟨x76,k76,H⟩ := be H
    refine dh tk ⟨k76.1,(tv (fv (f := (aq 75 ae)) hy7) k76.2)⟩ (sW ho0 (fv (f := (aq 75 ae)) hy7) k76.2) ?_
    obtain ⟨y8,hy8,H⟩ := cO H
    refine jc tk rfl rfl rfl rfl rfl rfl rfl rfl rfl (by rw [zl]; exact (zg.1 k76.2).1) (PLe.refl _ _) rfl rfl rfl rfl (by decide) (fY (fun _=>rfl) k76.2 rfl hy8) ?_
    refine bg (aL (bf 3 tk rfl ?_))
    obtain rfl := aE H
    refine eg (y8,(IntKind.i64.wrap (s2.2 + (1 : Int)))) () hg2 (Gh.le (bO (PLe.of2 (PLe2.of_eq (congrArg (PV.own 0 g_data) ((fv (f := (aq 75 ae)) hy7).trans (fv (f := (aq 75 ae)) hy8))))) (aB (aB bt))) aT (bI aS))
   refine br rfl ?_
   obtain rfl := aE H
   refine bd (s2.1,s2.2) () hg2 Gh.d
  have H := dw hn2 Hp2
  obtain rfl := aE H
  refine iy (st' := ⟨220,fun _=>.any,fun _=>none,upd (fun _=>none) 0 (some ⟨g_data,77,(s2.1.map (aq 75 ae)),true⟩)⟩) (Gh.le bt aT (bI aS)) ?_
  refine om tk rfl (ps := []) rfl (PLe.q rfl) ⟨rfl,rfl⟩
 refine av (ab (aw 4 tk rfl ?_))
 refine aM rfl H (fun H=>?_) (fun H=>?_)
 ·refine aw 2 tk rfl (aw 2 tk rfl (ab ?_))
  obtain ⟨fl9,H9,Hp9⟩ := az H
  refine eZ (τ := Rz × Int × Int) (γ := Unit) (fun s9 g9=>⟨220,upd (upd (upd (fun _=>.any) 14 (ap s9.2.1)) 2 (ap m)) 0 (.own 0 g_data (s9.1.map (aq 75 ae)).length),fun _=>none,upd (fun _=>none) 0 (some ⟨g_data,77,(s9.1.map (aq 75 ae)),true⟩)⟩) (fun t=>fl9 = .next t) ?_ (fun s9 g9 hn9=>?_)
  ·refine ax ?_
   refine gC (fun s9 g9=>⟨220,upd (upd (upd (upd (upd (fun _=>.any) 15 (ap s9.2.2)) 14 (ap s9.2.1)) 4 (.fn g_cmp caps_cmp)) 2 (ap m)) 0 (.own 0 g_data (s9.1.map (aq 75 ae)).length),fun _=>none,upd (fun _=>none) 0 (some ⟨g_data,77,(s9.1.map (aq 75 ae)),true⟩)⟩) () H9 Gh.d (fun m9 s9 g9 hr9=>?_)
   obtain ⟨fb9,H,hg9⟩ := ff hr9
   refine ab (aw 3 tk rfl ?_)
   refine aM rfl H (fun H=>?_) (fun H=>?_)
   ·refine av (ax (ab (aa (ag 4 tk rfl (uA (m := 1) rfl rfl rfl rfl (by decide) rfl rfl (ag 2 tk rfl (ac (ab ?_))))))))
    refine jP (tag := 0) rfl (fun ho0=>?_)
    refine bp tk mok ⟨false,true,[]⟩ [0,1,2,3,4,5,6,7,8,9,10,11] rfl (by decide +kernel) rfl (aQ 3 rfl ?_)
    obtain ⟨x95,k95,H⟩ := be H
    refine dh tk ⟨k95.1,(ee k95.2)⟩ (eo ho0 k95.2) ?_
    refine eP tk (aG (fun _=>rfl) k95.2) ?_
    refine aQ 2 rfl ?_
    obtain ⟨x99,k99,H⟩ := be H
    refine dh tk ⟨k99.1,(ee k99.2)⟩ (eo ho0 k99.2) ?_
    refine eP tk (aG (fun _=>rfl) k99.2) ?_
    obtain ⟨x101,h101,H⟩ := az H
    refine aY hg_cmp (jp.r) (hp_cmp _ _ _ h101) ?_
    refine aQ 2 rfl (bg ?_)
    refine aM rfl H (fun H=>?_) (fun H=>?_)
    ·refine bf 3 tk rfl (aL ?_)
     obtain rfl := aE H
     refine eg (s9.1,(IntKind.i64.wrap ((IntKind.i64.wrap (Int.fdiv (IntKind.u64.wrap (IntKind.i64.wrap (s9.2.1 + s9.2.2))) (2 ^ 1))) + (1 : Int))),s9.2.2) () hg9 Gh.d
    refine bf 2 tk rfl (aL ?_)
    obtain rfl := aE H
    refine eg (s9.1,s9.2.1,(IntKind.i64.wrap (Int.fdiv (IntKind.u64.wrap (IntKind.i64.wrap (s9.2.1 + s9.2.2))) (2 ^ 1)))) () hg9 Gh.d
   refine br rfl ?_
   obtain rfl := aE H
   refine bd (s9.1,s9.2.1,s9.2.2) () hg9 Gh.d
  have H := dw hn9 Hp9
  refine ab (aw 2 tk rfl ?_)
  obtain ⟨fl10,H10,Hp10⟩ := az H
  refine eZ (τ := Rz × Int) (γ := Unit) (fun s10 g10=>⟨220,upd (fun _=>.any) 0 (.own 0 g_data (s10.1.map (aq 75 ae)).length),fun _=>none,upd (fun _=>none) 0 (some ⟨g_data,77,(s10.1.map (aq 75 ae)),true⟩)⟩) (fun t=>fl10 = .next t) ?_ (fun s10 g10 hn10=>?_)
  ·refine ax ?_
   refine gC (fun s10 g10=>⟨220,upd (upd (upd (fun _=>.any) 17 (ap s10.2)) 14 (ap s9.2.1)) 0 (.own 0 g_data (s10.1.map (aq 75 ae)).length),fun _=>none,upd (fun _=>none) 0 (some ⟨g_data,77,(s10.1.map (aq 75 ae)),true⟩)⟩) () H10 Gh.d (fun m10 s10 g10 hr10=>?_)
   obtain ⟨fb10,H,hg10⟩ := ff hr10
   refine ab (aw 3 tk rfl ?_)
   refine aM rfl H (fun H=>?_) (fun H=>?_)
   ·refine av (ab (ax ?_))
    refine jP (tag := 0) rfl (fun ho0=>?_)
    refine bp tk mok ⟨false,true,[]⟩ [0,1,2,3,4,5,6,7,8,9,10,11,12,13,14,15,16,17] rfl (by decide +kernel) rfl (aQ 8 rfl ?_)
    obtain ⟨x121,k121,H⟩ := be H
    refine dh tk ⟨k121.1,(ee k121.2)⟩ (eo ho0 k121.2) ?_
    refine eP tk (aG (fun _=>rfl) k121.2) ?_
    refine aQ 2 rfl ?_
    obtain ⟨x125,k125,H⟩ := be H
    refine dh tk ⟨k125.1,(ee k125.2)⟩ (eo ho0 k125.2) ?_
    refine eP tk (aG (fun _=>rfl) k125.2) ?_
    obtain ⟨x127,k127,H⟩ := be H
    refine dh tk ⟨k127.1,(ee k127.2)⟩ (eo ho0 k127.2) ?_
    obtain ⟨y15,hy15,H⟩ := cO H
    refine jc tk rfl rfl rfl rfl rfl rfl rfl rfl rfl (by rw [zl]; exact (zg.1 k127.2).1) (PLe.refl _ _) rfl rfl rfl rfl (by decide) (fY (fun _=>rfl) k127.2 rfl hy15) ?_
    obtain ⟨x128,k128,H⟩ := be H
    refine dh tk ⟨k128.1,(tv (fv (f := (aq 75 ae)) hy15) k128.2)⟩ (sW ho0 (fv (f := (aq 75 ae)) hy15) k128.2) ?_
    obtain ⟨y16,hy16,H⟩ := cO H
    refine jc tk rfl rfl rfl rfl rfl rfl rfl rfl rfl (by rw [zl]; exact (zg.1 k128.2).1) (PLe.refl _ _) rfl rfl rfl rfl (by decide) (fY (fun _=>rfl) k128.2 rfl hy16) ?_
    refine bg (aL (bf 3 tk rfl ?_))
    obtain rfl := aE H
    refine eg (y16,(IntKind.i64.wrap (s10.2 - (1 : Int)))) () hg10 (Gh.le (bO (PLe.of2 (PLe2.of_eq (congrArg (PV.own 0 g_data) ((fv (f := (aq 75 ae)) hy15).trans (fv (f := (aq 75 ae)) hy16))))) (aB (aB bt))) aT (bI aS))
   refine br rfl ?_
   obtain rfl := aE H
   refine bd (s10.1,s10.2) () hg10 Gh.d
  have H := dw hn10 Hp10
  obtain rfl := aE H
  refine iy (st' := ⟨220,fun _=>.any,fun _=>none,upd (fun _=>none) 0 (some ⟨g_data,77,(s10.1.map (aq 75 ae)),true⟩)⟩) (Gh.le bt aT (bI aS)) ?_
  refine om tk rfl (ps := []) rfl (PLe.q rfl) ⟨rfl,rfl⟩
 refine av (ab (aa (ag 4 tk rfl (uA (m := 1) rfl rfl rfl rfl (by decide) rfl rfl (ag 2 tk rfl (ac (aw 4 tk rfl (aw 2 tk rfl (ab (aw 3 tk rfl ?_))))))))))
 refine gg (γ := Unit) (fun t17 g17=>⟨220,upd (upd (upd (upd (upd (upd (upd (upd (upd (fun _=>.any) 21 (ap t17.2.2)) 20 (ap t17.2.1)) 19 (ap (IntKind.i64.wrap ((IntKind.i64.wrap (Int.fdiv (IntKind.u64.wrap (IntKind.i64.wrap (a + b))) (2 ^ 1))) + m)))) 18 (ap (IntKind.i64.wrap (Int.fdiv (IntKind.u64.wrap (IntKind.i64.wrap (a + b))) (2 ^ 1))))) 4 (.fn g_cmp caps_cmp)) 3 (ap b)) 2 (ap m)) 1 (ap a)) 0 (.own 0 g_data (t17.1.map (aq 75 ae)).length),fun _=>none,upd (fun _=>none) 0 (some ⟨g_data,77,(t17.1.map (aq 75 ae)),true⟩)⟩) H (fun _ H=>?_) (fun t17 g17 H=>?_)
 ·refine aM rfl H (fun H=>?_) (fun H=>?_)
  ·refine aw 4 tk rfl (bf 2 tk rfl ?_)
   refine bd _ () H Gh.d
  refine aw 2 tk rfl (bf 2 tk rfl ?_)
  refine bd _ () H Gh.d
 refine aw 3 tk rfl (ab ?_)
 obtain ⟨fl18,H18,Hp18⟩ := az H
 refine eZ (τ := Rz × Int × Int) (γ := Unit) (fun s18 g18=>⟨220,upd (upd (upd (upd (upd (upd (upd (upd (fun _=>.any) 20 (ap s18.2.1)) 19 (ap (IntKind.i64.wrap ((IntKind.i64.wrap (Int.fdiv (IntKind.u64.wrap (IntKind.i64.wrap (a + b))) (2 ^ 1))) + m)))) 18 (ap (IntKind.i64.wrap (Int.fdiv (IntKind.u64.wrap (IntKind.i64.wrap (a + b))) (2 ^ 1))))) 4 (.fn g_cmp caps_cmp)) 3 (ap b)) 2 (ap m)) 1 (ap a)) 0 (.own 0 g_data (s18.1.map (aq 75 ae)).length),fun _=>none,upd (fun _=>none) 0 (some ⟨g_data,77,(s18.1.map (aq 75 ae)),true⟩)⟩) (fun t=>fl18 = .next t) ?_ (fun s18 g18 hn18=>?_)
 ·refine ax ?_
  refine gC (fun s18 g18=>⟨220,upd (upd (upd (upd (upd (upd (upd (upd (upd (upd (fun _=>.any) 22 (ap (IntKind.i64.wrap ((IntKind.i64.wrap ((IntKind.i64.wrap (Int.fdiv (IntKind.u64.wrap (IntKind.i64.wrap (a + b))) (2 ^ 1))) + m)) - (1 : Int))))) 21 (ap s18.2.2)) 20 (ap s18.2.1)) 19 (ap (IntKind.i64.wrap ((IntKind.i64.wrap (Int.fdiv (IntKind.u64.wrap (IntKind.i64.wrap (a + b))) (2 ^ 1))) + m)))) 18 (ap (IntKind.i64.wrap (Int.fdiv (IntKind.u64.wrap (IntKind.i64.wrap (a + b))) (2 ^ 1))))) 4 (.fn g_cmp caps_cmp)) 3 (ap b)) 2 (ap m)) 1 (ap a)) 0 (.own 0 g_data (s18.1.map (aq 75 ae)).length),fun _=>none,upd (fun _=>none) 0 (some ⟨g_data,77,(s18.1.map (aq 75 ae)),true⟩)⟩) () H18 Gh.d (fun m18 s18 g18 hr18=>?_)
  obtain ⟨fb18,H,hg18⟩ := ff hr18
  refine ab (aw 3 tk rfl ?_)
  refine aM rfl H (fun H=>?_) (fun H=>?_)
  ·refine av (ax (ab (aa (ag 4 tk rfl (uA (m := 1) rfl rfl rfl rfl (by decide) rfl rfl (ag 2 tk rfl (ac (ab ?_))))))))
   refine jP (tag := 0) rfl (fun ho0=>?_)
   refine bp tk mok ⟨false,true,[]⟩ [0,1,2,3,4,5,6,7,8,9,10,11,12,13] rfl (by decide +kernel) rfl (aQ 5 rfl ?_)
   obtain ⟨x163,k163,H⟩ := be H
   refine dh tk ⟨k163.1,(ee k163.2)⟩ (eo ho0 k163.2) ?_
   refine eP tk (aG (fun _=>rfl) k163.2) ?_
   refine aQ 2 rfl ?_
   obtain ⟨x167,k167,H⟩ := be H
   refine dh tk ⟨k167.1,(ee k167.2)⟩ (eo ho0 k167.2) ?_
   refine eP tk (aG (fun _=>rfl) k167.2) ?_
   obtain ⟨x169,h169,H⟩ := az H
   refine aY hg_cmp (jp.r) (hp_cmp _ _ _ h169) ?_
   refine aQ 2 rfl (bg ?_)
   refine aM rfl H (fun H=>?_) (fun H=>?_)
   ·refine bf 3 tk rfl (aL ?_)
    obtain rfl := aE H
    refine eg (s18.1,(IntKind.i64.wrap ((IntKind.i64.wrap (Int.fdiv (IntKind.u64.wrap (IntKind.i64.wrap (s18.2.1 + s18.2.2))) (2 ^ 1))) + (1 : Int))),s18.2.2) () hg18 Gh.d
   refine bf 2 tk rfl (aL ?_)
   obtain rfl := aE H
   refine eg (s18.1,s18.2.1,(IntKind.i64.wrap (Int.fdiv (IntKind.u64.wrap (IntKind.i64.wrap (s18.2.1 + s18.2.2))) (2 ^ 1)))) () hg18 Gh.d
  refine br rfl ?_
  obtain rfl := aE H
  refine bd (s18.1,s18.2.1,s18.2.2) () hg18 Gh.d
 have H := dw hn18 Hp18
 refine aw 4 tk rfl (ab (ab ?_))
 refine gg (γ := Unit) (fun t19 g19=>⟨220,upd (upd (upd (upd (upd (upd (upd (upd (upd (fun _=>.any) 185 (aN t19.2)) 24 (ap (IntKind.i64.wrap ((IntKind.i64.wrap ((IntKind.i64.wrap (Int.fdiv (IntKind.u64.wrap (IntKind.i64.wrap (a + b))) (2 ^ 1))) + m)) - s18.2.1)))) 20 (ap s18.2.1)) 18 (ap (IntKind.i64.wrap (Int.fdiv (IntKind.u64.wrap (IntKind.i64.wrap (a + b))) (2 ^ 1))))) 4 (.fn g_cmp caps_cmp)) 3 (ap b)) 2 (ap m)) 1 (ap a)) 0 (.own 0 g_data (t19.1.map (aq 75 ae)).length),fun _=>none,upd (fun _=>none) 0 (some ⟨g_data,77,(t19.1.map (aq 75 ae)),true⟩)⟩) H (fun _ H=>?_) (fun t19 g19 H=>?_)
 ·refine aa (ag 4 tk rfl ?_)
  refine bq rfl rfl rfl H (fun H=>?_) (fun H=>?_)
  ·refine ag 4 tk rfl (ac ?_)
   refine bd _ () H Gh.d
  refine ag 4 tk rfl (ac ?_)
  refine bd _ () H Gh.d
 refine gM (γ := Unit) (fun t20 g20=>⟨220,upd (upd (upd (upd (upd (upd (upd (fun _=>.any) 24 (ap (IntKind.i64.wrap ((IntKind.i64.wrap ((IntKind.i64.wrap (Int.fdiv (IntKind.u64.wrap (IntKind.i64.wrap (a + b))) (2 ^ 1))) + m)) - s18.2.1)))) 20 (ap s18.2.1)) 18 (ap (IntKind.i64.wrap (Int.fdiv (IntKind.u64.wrap (IntKind.i64.wrap (a + b))) (2 ^ 1))))) 4 (.fn g_cmp caps_cmp)) 3 (ap b)) 1 (ap a)) 0 (.own 0 g_data (t20.map (aq 75 ae)).length),fun _=>none,upd (fun _=>none) 0 (some ⟨g_data,77,(t20.map (aq 75 ae)),true⟩)⟩) H (fun _ H=>?_) (fun t20 g20 H=>?_)
 ·refine aM rfl H (fun H=>?_) (fun H=>?_)
  ·refine aa (ag 5 tk rfl ?_)
   obtain ⟨x191,h191,H⟩ := az H
   have s191 := mY g_data t19.1 s18.2.1 m (IntKind.i64.wrap ((IntKind.i64.wrap ((IntKind.i64.wrap (Int.fdiv (IntKind.u64.wrap (IntKind.i64.wrap (a + b))) (2 ^ 1))) + m)) - s18.2.1)) cmp hg_cmp hp_cmp _ h191
   obtain ⟨_,q191_0,H⟩ := az H
   have l191_0 := (dH q191_0).1
   have z191_0 : (List.map (aq 75 ae) t19.1).length = (List.map (aq 75 ae) x191).length := by simpa using (l191_0).symm
   refine eK (g := 245) rfl rfl rfl Tryz.call245 [] [(0,0)] rfl rfl rfl rfl (jp.of2 (iJ.cons (PLe2.own rfl) (iJ.cons (PLe2.of_eq rfl) (iJ.cons (PLe2.of_eq rfl) (iJ.cons (PLe2.of_eq rfl) (iJ.cons (PLe2.of_eq rfl) iJ.nil)))))) (by rw [dX,dv,dY]; rfl) s191 ?_
   rintro u191 H191h ⟨rfl,rfl⟩
   refine ⟨_,rfl,?_⟩
   refine ef (st' := ⟨_,_,fun _=>none,upd (fun _=>none) 0 (some ⟨g_data,77,(x191.map (aq 75 ae)),true⟩)⟩) (Gh.le (dp _ _) aT (bI aS)) ?_
   refine ac ?_
   refine bd _ () (aE H) (Gh.le (bO (PLe.of2 (PLe2.of_eq (congrArg (PV.own 0 g_data) z191_0))) (aB (aB (aB (aB (aB (aB bt))))))) aT (bI aS))
  refine av ?_
  refine bd _ () (aE H) Gh.d
 refine ab (ab ?_)
 refine gg (γ := Unit) (fun t21 g21=>⟨220,upd (upd (upd (upd (upd (upd (upd (upd (fun _=>.any) 199 (aN t21.2)) 24 (ap (IntKind.i64.wrap ((IntKind.i64.wrap ((IntKind.i64.wrap (Int.fdiv (IntKind.u64.wrap (IntKind.i64.wrap (a + b))) (2 ^ 1))) + m)) - s18.2.1)))) 20 (ap s18.2.1)) 18 (ap (IntKind.i64.wrap (Int.fdiv (IntKind.u64.wrap (IntKind.i64.wrap (a + b))) (2 ^ 1))))) 4 (.fn g_cmp caps_cmp)) 3 (ap b)) 1 (ap a)) 0 (.own 0 g_data (t21.1.map (aq 75 ae)).length),fun _=>none,upd (fun _=>none) 0 (some ⟨g_data,77,(t21.1.map (aq 75 ae)),true⟩)⟩) H (fun _ H=>?_) (fun t21 g21 H=>?_)
 ·refine aa (ag 4 tk rfl ?_)
  refine bq rfl rfl rfl H (fun H=>?_) (fun H=>?_)
  ·refine ag 4 tk rfl (ac ?_)
   refine bd _ () H Gh.d
  refine ag 4 tk rfl (ac ?_)
  refine bd _ () H Gh.d
 refine gM (γ := Unit) (fun t22 g22=>⟨220,upd (upd (upd (upd (upd (fun _=>.any) 24 (ap (IntKind.i64.wrap ((IntKind.i64.wrap ((IntKind.i64.wrap (Int.fdiv (IntKind.u64.wrap (IntKind.i64.wrap (a + b))) (2 ^ 1))) + m)) - s18.2.1)))) 18 (ap (IntKind.i64.wrap (Int.fdiv (IntKind.u64.wrap (IntKind.i64.wrap (a + b))) (2 ^ 1))))) 4 (.fn g_cmp caps_cmp)) 3 (ap b)) 0 (.own 0 g_data (t22.map (aq 75 ae)).length),fun _=>none,upd (fun _=>none) 0 (some ⟨g_data,77,(t22.map (aq 75 ae)),true⟩)⟩) H (fun _ H=>?_) (fun t22 g22 H=>?_)
 ·refine aM rfl H (fun H=>?_) (fun H=>?_)
  ·refine aa (ag 5 tk rfl ?_)
   obtain ⟨x205,h205,H⟩ := az H
   have s205 := hrec233 g_data t21.1 a s18.2.1 (IntKind.i64.wrap (Int.fdiv (IntKind.u64.wrap (IntKind.i64.wrap (a + b))) (2 ^ 1))) _ h205
   obtain ⟨_,q205_0,H⟩ := az H
   have l205_0 := (dH q205_0).1
   have z205_0 : (List.map (aq 75 ae) t21.1).length = (List.map (aq 75 ae) x205).length := by simpa using (l205_0).symm
   refine eK (g := 233) rfl rfl rfl Tryz.call233 [] [(0,0)] rfl rfl rfl rfl (jp.of2 (iJ.cons (PLe2.own rfl) (iJ.cons (PLe2.of_eq rfl) (iJ.cons (PLe2.of_eq rfl) (iJ.cons (PLe2.of_eq rfl) (iJ.cons (PLe2.of_eq rfl) iJ.nil)))))) (by rw [dX,dv,dY]; rfl) s205 ?_
   rintro u205 H205h ⟨rfl,rfl⟩
   refine ⟨_,rfl,?_⟩
   refine ef (st' := ⟨_,_,fun _=>none,upd (fun _=>none) 0 (some ⟨g_data,77,(x205.map (aq 75 ae)),true⟩)⟩) (Gh.le (dp _ _) aT (bI aS)) ?_
   refine ac ?_
   refine bd _ () (aE H) (Gh.le (bO (PLe.of2 (PLe2.of_eq (congrArg (PV.own 0 g_data) z205_0))) (aB (aB (aB (aB bt))))) aT (bI aS))
  refine av ?_
  refine bd _ () (aE H) Gh.d
 refine ab (aa (ag 4 tk rfl ?_))
 refine bq rfl rfl rfl H (fun H=>?_) (fun H=>?_)
 ·refine ag 4 tk rfl (ac ?_)
  refine aM rfl H (fun H=>?_) (fun H=>?_)
  ·refine aa (ag 5 tk rfl ?_)
   obtain ⟨x219,h219,H⟩ := az H
   have s219 := hrec233 g_data t22 (IntKind.i64.wrap (Int.fdiv (IntKind.u64.wrap (IntKind.i64.wrap (a + b))) (2 ^ 1))) (IntKind.i64.wrap ((IntKind.i64.wrap ((IntKind.i64.wrap (Int.fdiv (IntKind.u64.wrap (IntKind.i64.wrap (a + b))) (2 ^ 1))) + m)) - s18.2.1)) b _ h219
   obtain ⟨_,q219_0,H⟩ := az H
   have l219_0 := (dH q219_0).1
   have z219_0 : (List.map (aq 75 ae) t22).length = (List.map (aq 75 ae) x219).length := by simpa using (l219_0).symm
   refine eK (g := 233) rfl rfl rfl Tryz.call233 [] [(0,0)] rfl rfl rfl rfl (jp.of2 (iJ.cons (PLe2.own rfl) (iJ.cons (PLe2.of_eq rfl) (iJ.cons (PLe2.of_eq rfl) (iJ.cons (PLe2.of_eq rfl) (iJ.cons (PLe2.of_eq rfl) iJ.nil)))))) (by rw [dX,dv,dY]; rfl) s219 ?_
   rintro u219 H219h ⟨rfl,rfl⟩
   refine ⟨_,rfl,?_⟩
   refine ef (st' := ⟨_,_,fun _=>none,upd (fun _=>none) 0 (some ⟨g_data,77,(x219.map (aq 75 ae)),true⟩)⟩) (Gh.le (dp _ _) aT (bI aS)) ?_
   refine ac ?_
   obtain rfl := aE H
   refine iy (st' := ⟨220,fun _=>.any,fun _=>none,upd (fun _=>none) 0 (some ⟨g_data,77,(x219.map (aq 75 ae)),true⟩)⟩) (Gh.le bt aT (bI aS)) ?_
   refine mL rfl (PLe.q rfl) ⟨rfl,rfl⟩
  refine av ?_
  obtain rfl := aE H
  refine iy (st' := ⟨220,fun _=>.any,fun _=>none,upd (fun _=>none) 0 (some ⟨g_data,77,(t22.map (aq 75 ae)),true⟩)⟩) (Gh.le bt aT (bI aS)) ?_
  refine mL rfl (PLe.q rfl) ⟨rfl,rfl⟩
 refine ag 4 tk rfl (ac (bD rfl (av ?_)))
 obtain rfl := aE H
 refine iy (st' := ⟨220,fun _=>.any,fun _=>none,upd (fun _=>none) 0 (some ⟨g_data,77,(t22.map (aq 75 ae)),true⟩)⟩) (Gh.le bt aT (bI aS)) ?_
 refine mL rfl (PLe.q rfl) ⟨rfl,rfl⟩
def bB : Nat → Rz → Int → Int → Int → (Rq → Rq → Option (Int)) → Option (Rz)
 | 0,_,_,_,_,_=>none
 | n + 1,v0,v1,v2,v3,v4=>cC (fun b0 b1 b2 b3=>bB n b0 b1 b2 b3 v4) v0 v1 v2 v3 v4
theorem lI {g_cmp : FuncId} {caps_cmp : List PV} (cmp : Rq → Rq → Option (Int)) (hg_cmp : ∀ (vs : Array Value) (w : World),(callFunc g_cmp vs).run Tryz.prog w = .ok (.enter g_cmp vs) w) (hp_cmp : ∀ a0 a1 r,cmp a0 a1 = some r → aP Tryz.prog g_cmp ((.list 75 (a0.map ae)) :: (.list 75 (a1.map ae)) :: caps_cmp) (ap r)) (n : Nat) : (∀ g0 a0 a1 a2 a3 r,bB n a0 a1 a2 a3 cmp = some r → PH Tryz.prog 233 [(.own 0 g0 (a0.map (aq 75 ae)).length),(ap a1),(ap a2),(ap a3),(.fn g_cmp caps_cmp)] ⟨fun _=>none,upd (fun _=>none) 0 (some ⟨g0,77,(a0.map (aq 75 ae)),true⟩)⟩ (fun u H=>u = (.tup []) ∧ H = ⟨fun _=>none,upd (fun _=>none) 0 (some ⟨g0,77,(r.map (aq 75 ae)),true⟩)⟩)) := by
 induction n with
 | zero=>exact (by intros; rename_i h; exact absurd (show (none : Option _) = some _ from h) (by simp))
 | succ n ih =>
  exact (fun g0 v0 v1 v2 v3 r h=>lR g0 (fun b0 b1 b2 b3=>bB n b0 b1 b2 b3 cmp) ih v0 v1 v2 v3 cmp hg_cmp hp_cmp r h)
def fg (data : Rz) (a : Int) (m : Int) (b : Int) (cmp : Rq → Rq → Option (Int)) : Option (Rz) := iF fun n=>bB n data a m b cmp
theorem js (g_data : OwnRef) {g_cmp : FuncId} {caps_cmp : List PV} (data : Rz) (a : Int) (m : Int) (b : Int) (cmp : Rq → Rq → Option (Int)) (hg_cmp : ∀ (vs : Array Value) (w : World),(callFunc g_cmp vs).run Tryz.prog w = .ok (.enter g_cmp vs) w) (hp_cmp : ∀ a0 a1 r,cmp a0 a1 = some r → aP Tryz.prog g_cmp ((.list 75 (a0.map ae)) :: (.list 75 (a1.map ae)) :: caps_cmp) (ap r)) (r : Rz) (H : fg data a m b cmp = some r) :
  PH Tryz.prog 233 [(.own 0 g_data (data.map (aq 75 ae)).length),(ap a),(ap m),(ap b),(.fn g_cmp caps_cmp)] ⟨fun _=>none,upd (fun _=>none) 0 (some ⟨g_data,77,(data.map (aq 75 ae)),true⟩)⟩ (fun u H=>u = (.tup []) ∧ H = ⟨fun _=>none,upd (fun _=>none) 0 (some ⟨g_data,77,(r.map (aq 75 ae)),true⟩)⟩) := by
 obtain ⟨n,h⟩ := iC H
 exact (lI cmp hg_cmp hp_cmp n) g_data data a m b r h
def jv (rec128 : LExpr → Option ((List LExpr))) (e : LExpr) : Option ((List LExpr)) :=
 bC (
  cond (e.kind == (5 : Int))
   (cond (e.name == ([97,110,100] : List UInt8))
    (((e.args.length : Int) == (2 : Int)))
    (false))
   (false)) fun (t1 : Bool) =>
 cond t1
  (af (aF e.args 0) fun (x19 : LExpr) =>
  af (aF e.args 1) fun (x24 : LExpr) =>
  af (rec128 x19) fun x21 =>
  af (rec128 x24) fun x26 =>
  af (dg 88 x21 x26) fun (x27 : List LExpr) =>
  some x27)
  (af (mW e) fun x29 =>
  some [x29])
theorem tA {m : Nat} (rec128 : LExpr → Option ((List LExpr))) (hrec128 : ∀ m a0 r,rec128 a0 = some r → io Tryz.prog 128 [(.agg (cu a0))] (kW m 92 (r.map bE))) (e : LExpr) (r : (List LExpr)) (H : jv rec128 e = some r) :
  io Tryz.prog 128 [(.agg (cu e))] (kW m 92 (r.map bE)) := by
 unfold jv at H
 refine PH.ay Tryz.func128 Tryz.ntmps128 ?_
 refine ab (aa (aI ?_))
 refine ak tk rfl (ac (ab (ab ?_)))
 refine gg (γ := Unit) (fun t1 g1=>⟨31,upd (upd (fun _=>.any) 16 (aN t1)) 1 (.ptr (cu e)),fun _=>none,fun _=>none⟩) H (fun _ H=>?_) (fun t1 g1 H=>?_)
 ·refine aa (ag 4 tk rfl ?_)
  refine bq rfl rfl rfl H (fun H=>?_) (fun H=>?_)
  ·refine ag 5 tk rfl ?_
   refine bq rfl rfl rfl H (fun H=>?_) (fun H=>?_)
   ·refine ag 2 tk rfl (aC tk (zl _) ?_)
    refine ag 2 tk rfl (ac ?_)
    refine bd _ () H Gh.d
   refine ag 5 tk rfl (ac ?_)
   refine bd _ () H Gh.d
  refine ag 10 tk rfl (ac ?_)
  refine bd _ () H Gh.d
 refine aM rfl H (fun H=>?_) (fun H=>?_)
 ·refine ab (bp tk mok ⟨false,false,[]⟩ [0,1,2,3,5,6,7,8,4,9,10,11] rfl (by decide +kernel) rfl (aQ 2 rfl ?_))
  obtain ⟨x19,k19,H⟩ := be H
  refine bc k19.1 (aG bR k19.2) ?_
  refine aQ 3 rfl ?_
  obtain ⟨x24,k24,H⟩ := be H
  refine bc k24.1 (aG bR k24.2) ?_
  refine bK rfl ?_
  obtain ⟨x21,h21,H⟩ := az H
  have s21 := hrec128 21 x19 _ h21
  refine uq (g := 128) rfl rfl rfl rfl Tryz.call128 (jp.r) rfl rfl s21 (fun g21=>?_)
  obtain ⟨x26,h26,H⟩ := az H
  have s26 := hrec128 26 x24 _ h26
  refine aY Tryz.call128 (jp.r) (PFun.iB s26) ?_
  obtain ⟨x27,h27,H⟩ := az H
  have k27 := cx h27
  refine kA (rows2' := List.map bE x26) (rows' := List.map bE x27) tk rfl rfl rfl rfl rfl rfl rfl rfl rfl rfl rfl rfl rfl rfl (it.refl _) (dK k27.1) (dJ k27.2.1) (dM k27.2.2) fun g27=>?_
  refine bK rfl (bg ?_)
  obtain rfl := aE H
  refine jD tk rfl
 refine av (ab (aa (ak tk rfl ?_)))
 obtain ⟨x29,h29,H⟩ := az H
 have s29 := W_expr_Clone e _ h29
 refine ao Tryz.call177 (jp.r) s29 ?_
 refine pn (rows' := List.map bE ([x29] : List LExpr)) tk rfl rfl rfl rfl rfl rfl rfl (congrArg (List.map List.length) (qN bR ([x29] : List LExpr))).symm rfl (iJ.trans (b := (List.map cu ([x29] : List LExpr)).flatten) (iJ.refl _) (iJ.of_eq (congrArg List.flatten (qN bR ([x29] : List LExpr))))) fun g30=>?_
 refine ak tk rfl (ac ?_)
 obtain rfl := aE H
 refine jD tk rfl
def gF : Nat → LExpr → Option ((List LExpr))
 | 0,_=>none
 | n + 1,v0=>jv (fun b0=>gF n b0) v0
theorem tC  (n : Nat) : (∀ m a0 r,gF n a0 = some r → io Tryz.prog 128 [(.agg (cu a0))] (kW m 92 (r.map bE))) := by
 induction n with
 | zero=>exact (by intros; rename_i h; exact absurd (show (none : Option _) = some _ from h) (by simp))
 | succ n ih =>
  exact (fun m v0 r h=>tA (m := m) (fun b0=>gF n b0) ih v0  r h)
def mi (e : LExpr) : Option ((List LExpr)) := iF fun n=>gF n e
theorem ur {m : Nat} (e : LExpr) (r : (List LExpr)) (H : mi e = some r) :
  io Tryz.prog 128 [(.agg (cu e))] (kW m 92 (r.map bE)) := by
 obtain ⟨n,h⟩ := iC H
 exact (tC  n) m e r h
def hC (a : LVal) (op : List UInt8) (b : LVal) : Bool × Int :=
 bC (
  cond (!(op == ([61] : List UInt8)))
   (cond (!(op == ([60] : List UInt8)))
    ((!(op == ([60,61] : List UInt8))))
    (false))
   (false)) fun (t1 : Bool) =>
 cond t1
  ((false,3))
  (bC (
   cond (a.kind == (0 : Int))
    (true)
    ((b.kind == (0 : Int)))) fun (t2 : Bool) =>
  cond t2
   ((true,0))
   (bC (dN a b) fun x29 =>
   cond (x29 == (0 : Int))
    (cond (!(op == ([60] : List UInt8)))
     ((true,0))
     (cond (decide (x29 < (0 : Int)))
      (((!(op == ([61] : List UInt8))),0))
      ((false,0))))
    (cond (decide (x29 < (0 : Int)))
     (((!(op == ([61] : List UInt8))),0))
     ((false,0)))))
theorem tI (a : LVal) (op : List UInt8) (b : LVal) :
  aP Tryz.prog 84 [(.agg (ae a)),(.str op),(.agg (ae b))] (.tup [(aN ((hC a op b).1)),(ap ((hC a op b).2))]) := by
 obtain ⟨r,H⟩ : ∃ r,hC a op b = r := ⟨_,rfl⟩
 rw [H]
 unfold hC at H
 refine PH.ay Tryz.func84 Tryz.ntmps84 ?_
 refine ab (aa (aI ?_))
 refine aI ?_
 refine ag 2 tk rfl (ac (ab (ab ?_)))
 refine gg (γ := Unit) (fun t1 g1=>⟨44,upd (upd (upd (upd (fun _=>.any) 18 (aN t1)) 5 (.ptr (ae b))) 3 (.ptr (ae a))) 1 (.str op),fun _=>none,fun _=>none⟩) H (fun _ H=>?_) (fun t1 g1 H=>?_)
 ·refine aa (ag 3 tk rfl ?_)
  refine bq rfl rfl rfl H (fun H=>?_) (fun H=>?_)
  ·refine ag 4 tk rfl ?_
   refine bq rfl rfl rfl H (fun H=>?_) (fun H=>?_)
   ·refine ag 3 tk rfl (ac ?_)
    refine bd _ () H Gh.d
   refine ag 3 tk rfl (ac ?_)
   refine bd _ () H Gh.d
  refine ag 7 tk rfl (ac ?_)
  refine bd _ () H Gh.d
 refine aM rfl H (fun H=>?_) (fun H=>?_)
 ·refine aw 2 tk rfl ?_
  exact eC tk H rfl
 refine av (ab (ab ?_))
 refine gg (γ := Unit) (fun t2 g2=>⟨44,upd (upd (upd (upd (fun _=>.any) 26 (aN t2)) 5 (.ptr (ae b))) 3 (.ptr (ae a))) 1 (.str op),fun _=>none,fun _=>none⟩) H (fun _ H=>?_) (fun t2 g2 H=>?_)
 ·refine aa (ag 4 tk rfl ?_)
  refine bq rfl rfl rfl H (fun H=>?_) (fun H=>?_)
  ·refine ag 4 tk rfl (ac ?_)
   refine bd _ () H Gh.d
  refine ag 4 tk rfl (ac ?_)
  refine bd _ () H Gh.d
 refine aM rfl H (fun H=>?_) (fun H=>?_)
 ·refine aw 2 tk rfl ?_
  exact eC tk H rfl
 refine av (ab (aa (ag 2 tk rfl ?_)))
 obtain ⟨x29,h29,H⟩ := cO H
 have s29 := qi a b
 rw [h29] at s29
 refine ao Tryz.call76 (jp.r) s29 ?_
 refine ak tk rfl (ac (ab (aa (ag 3 tk rfl ?_))))
 refine bq rfl rfl rfl H (fun H=>?_) (fun H=>?_)
 ·refine ag 4 tk rfl ?_
  refine bq rfl rfl rfl H (fun H=>?_) (fun H=>?_)
  ·refine ag 9 tk rfl (ac ?_)
   exact eC tk H rfl
  refine ag 3 tk rfl ?_
  refine bq rfl rfl rfl H (fun H=>?_) (fun H=>?_)
  ·refine ag 6 tk rfl (ac ?_)
   exact eC tk H rfl
  refine ag 6 tk rfl (ac ?_)
  exact eC tk H rfl
 refine ag 7 tk rfl ?_
 refine bq rfl rfl rfl H (fun H=>?_) (fun H=>?_)
 ·refine ag 6 tk rfl (ac ?_)
  exact eC tk H rfl
 refine ag 6 tk rfl (ac ?_)
 exact eC tk H rfl
def kO (q : LQuery) : Option (Bool) :=
 af (
  cond (decide (q.kind < (1 : Int)))
   (some true)
   (cond (decide (q.kind > (10 : Int)))
    (some true)
    (af (aF ([(-1),0,1,1,2,2,2,2,1,1,1] : List Int) q.kind) fun (x21 : Int) =>
    some ((q.inputs.length : Int) != x21)))) fun (t1 : Bool) =>
 cond t1
  (some false)
  (af (
   af (dy ([1] : List Int) q) fun x29 =>
   cond (!x29)
    (some (!(q.table == ([] : List UInt8))))
    (some false)) fun (t2 : Bool) =>
  af (
   cond t2
    (some t2)
    (af (
     af (dy ([3,8] : List Int) q) fun x38 =>
     cond (!x38)
      (some (decide ((q.names.length : Int) > (0 : Int))))
      (some false)) fun (t7 : Bool) =>
    cond t7
     (some t7)
     (af (
      af (dy ([8] : List Int) q) fun x48 =>
      cond (!x48)
       (some (decide ((q.aggregates.length : Int) > (0 : Int))))
       (some false)) fun (t8 : Bool) =>
     cond t8
      (some t8)
      (af (
       af (dy ([9] : List Int) q) fun x58 =>
       cond (!x58)
        (some (decide ((q.descending.length : Int) > (0 : Int))))
        (some false)) fun (t9 : Bool) =>
      cond t9
       (some t9)
       (af (dy ([10] : List Int) q) fun x68 =>
       cond (!x68)
        (cond (q.count != (0 : Int))
         (some true)
         (some (q.offset != (0 : Int))))
        (some false)))))) fun (t6 : Bool) =>
  cond t6
   (some false)
   (af (dy ([2,4,5] : List Int) q) fun x83 =>
   cond x83
    (some ((q.exprs.length : Int) == (1 : Int)))
    (af (dy ([3,8] : List Int) q) fun x91 =>
    cond x91
     (cond ((q.exprs.length : Int) == (q.names.length : Int))
      (some (decide ((IntKind.i64.wrap ((q.exprs.length : Int) + (q.aggregates.length : Int))) > (0 : Int))))
      (some false))
     (af (dy ([9] : List Int) q) fun x112 =>
     cond x112
      (cond ((q.exprs.length : Int) == (q.descending.length : Int))
       (some (decide ((q.exprs.length : Int) > (0 : Int))))
       (some false))
      (af (dy ([10] : List Int) q) fun x129 =>
      cond x129
       (cond ((q.exprs.length : Int) == (0 : Int))
        (cond (decide (q.count ≥ (0 : Int)))
         (some (decide (q.offset ≥ (0 : Int))))
         (some false))
        (some false))
       (some ((q.exprs.length : Int) == (0 : Int))))))))
theorem W_query_shape (q : LQuery) (r : Bool) (H : kO q = some r) :
  aP Tryz.prog 160 [(.agg (aH q))] (aN r) := by
 unfold kO at H
 refine PH.ay Tryz.func160 Tryz.ntmps160 ?_
 refine ab (aa (aI ?_))
 refine ak tk rfl (ac (ab (aa (uY (e := 3) (rows := [[(ap (-1))],[(ap 0)],[(ap 1)],[(ap 1)],[(ap 2)],[(ap 2)],[(ap 2)],[(ap 2)],[(ap 1)],[(ap 1)],[(ap 1)]]) tk rfl rfl rfl rfl (rows' := List.map bT ([(-1),0,1,1,2,2,2,2,1,1,1] : List Int)) (by kernel_rfl) (it.refl _) rfl rfl (ak tk rfl (ac (ab (ab ?_))))))))
 refine gM (γ := Unit) (fun t1 g1=>⟨148,upd (upd (fun _=>.any) 24 (aN t1)) 1 (.ptr (aH q)),fun _=>none,fun _=>none⟩) H (fun _ H=>?_) (fun t1 g1 H=>?_)
 ·refine bp tk mok ⟨false,false,[]⟩ [0,1,2,3,4,5,6,7,8,9,10,11,12,13,14,15,16,17,18] rfl (by decide +kernel) rfl (aQ 4 rfl ?_)
  refine lM H (fun H=>?_) (fun H=>?_)
  ·refine aQ 15 rfl (bg ?_)
   refine bd _ () (aE H) Gh.d
  refine aQ 5 rfl ?_
  refine lM H (fun H=>?_) (fun H=>?_)
  ·refine aQ 10 rfl (bg ?_)
   refine bd _ () (aE H) Gh.d
  refine aQ 2 rfl (uF rfl rfl rfl rfl rfl rfl (zl _) rfl (aQ 3 rfl ?_))
  obtain ⟨x21,k21,H⟩ := be H
  refine bc k21.1 (aG (fun _=>rfl) k21.2) ?_
  refine aQ 3 rfl (bg ?_)
  refine bd _ () (aE H) Gh.d
 refine aM rfl H (fun H=>?_) (fun H=>?_)
 ·refine aw 1 tk rfl ?_
  exact bn tk H rfl
 refine av (aw 2 tk rfl (ab (ax (ab (ab ?_)))))
 refine gM (γ := Unit) (fun t2 g2=>⟨148,upd (upd (upd (fun _=>.any) 26 (aN t2)) 4 (.fn 193 [(.ptr (aH q))])) 1 (.ptr (aH q)),fun _=>none,fun _=>none⟩) H (fun _ H=>?_) (fun t2 g2 H=>?_)
 ·refine aa (ak tk rfl (db tk (rows' := List.map bT ([1] : List Int)) (it.refl _) ?_))
  obtain ⟨x29,h29,H⟩ := az H
  have s29 := fH ([1] : List Int) q _ h29
  refine ao Tryz.call193 (jp.r) s29 ?_
  refine ag 2 tk rfl ?_
  refine bq rfl rfl rfl H (fun H=>?_) (fun H=>?_)
  ·refine ag 5 tk rfl (ac ?_)
   refine bd _ () (aE H) Gh.d
  refine ag 5 tk rfl (ac ?_)
  refine bd _ () (aE H) Gh.d
 refine gM (γ := Unit) (fun t6 g6=>⟨148,upd (upd (upd (fun _=>.any) 26 (aN t6)) 4 (.fn 193 [(.ptr (aH q))])) 1 (.ptr (aH q)),fun _=>none,fun _=>none⟩) H (fun _ H=>?_) (fun t6 g6 H=>?_)
 ·refine aM rfl H (fun H=>?_) (fun H=>?_)
  ·refine av ?_
   refine bd _ () (aE H) Gh.d
  refine ab ?_
  refine gM (γ := Unit) (fun t7 g7=>⟨148,upd (upd (upd (fun _=>.any) 26 (aN t7)) 4 (.fn 193 [(.ptr (aH q))])) 1 (.ptr (aH q)),fun _=>none,fun _=>none⟩) H (fun _ H=>?_) (fun t7 g7 H=>?_)
  ·refine aa (ak tk rfl (db tk (rows' := List.map bT ([3,8] : List Int)) (it.refl _) ?_))
   obtain ⟨x38,h38,H⟩ := az H
   have s38 := fH ([3,8] : List Int) q _ h38
   refine ao Tryz.call193 (jp.r) s38 ?_
   refine ag 2 tk rfl ?_
   refine bq rfl rfl rfl H (fun H=>?_) (fun H=>?_)
   ·refine ag 2 tk rfl (aC tk (zl _) ?_)
    refine ag 3 tk rfl (ac ?_)
    refine bd _ () (aE H) Gh.d
   refine ag 6 tk rfl (ac ?_)
   refine bd _ () (aE H) Gh.d
  refine aM rfl H (fun H=>?_) (fun H=>?_)
  ·refine av ?_
   refine bd _ () (aE H) Gh.d
  refine ab ?_
  refine gM (γ := Unit) (fun t8 g8=>⟨148,upd (upd (upd (fun _=>.any) 26 (aN t8)) 4 (.fn 193 [(.ptr (aH q))])) 1 (.ptr (aH q)),fun _=>none,fun _=>none⟩) H (fun _ H=>?_) (fun t8 g8 H=>?_)
  ·refine aa (ak tk rfl (db tk (rows' := List.map bT ([8] : List Int)) (it.refl _) ?_))
   obtain ⟨x48,h48,H⟩ := az H
   have s48 := fH ([8] : List Int) q _ h48
   refine ao Tryz.call193 (jp.r) s48 ?_
   refine ag 2 tk rfl ?_
   refine bq rfl rfl rfl H (fun H=>?_) (fun H=>?_)
   ·refine ag 2 tk rfl (aC tk (zl _) ?_)
    refine ag 3 tk rfl (ac ?_)
    refine bd _ () (aE H) Gh.d
   refine ag 6 tk rfl (ac ?_)
   refine bd _ () (aE H) Gh.d
  refine aM rfl H (fun H=>?_) (fun H=>?_)
  ·refine av ?_
   refine bd _ () (aE H) Gh.d
  refine ab ?_
  refine gM (γ := Unit) (fun t9 g9=>⟨148,upd (upd (upd (fun _=>.any) 26 (aN t9)) 4 (.fn 193 [(.ptr (aH q))])) 1 (.ptr (aH q)),fun _=>none,fun _=>none⟩) H (fun _ H=>?_) (fun t9 g9 H=>?_)
  ·refine aa (ak tk rfl (db tk (rows' := List.map bT ([9] : List Int)) (it.refl _) ?_))
   obtain ⟨x58,h58,H⟩ := az H
   have s58 := fH ([9] : List Int) q _ h58
   refine ao Tryz.call193 (jp.r) s58 ?_
   refine ag 2 tk rfl ?_
   refine bq rfl rfl rfl H (fun H=>?_) (fun H=>?_)
   ·refine ag 2 tk rfl (aC tk (zl _) ?_)
    refine ag 3 tk rfl (ac ?_)
    refine bd _ () (aE H) Gh.d
   refine ag 6 tk rfl (ac ?_)
   refine bd _ () (aE H) Gh.d
  refine aM rfl H (fun H=>?_) (fun H=>?_)
  ·refine av ?_
   refine bd _ () (aE H) Gh.d
  refine aa (ak tk rfl (db tk (rows' := List.map bT ([10] : List Int)) (it.refl _) ?_))
  obtain ⟨x68,h68,H⟩ := az H
  have s68 := fH ([10] : List Int) q _ h68
  refine ao Tryz.call193 (jp.r) s68 ?_
  refine ag 2 tk rfl ?_
  refine bq rfl rfl rfl H (fun H=>?_) (fun H=>?_)
  ·refine ag 4 tk rfl ?_
   refine bq rfl rfl rfl H (fun H=>?_) (fun H=>?_)
   ·refine ag 6 tk rfl (ac ?_)
    refine bd _ () (aE H) Gh.d
   refine ag 6 tk rfl (ac ?_)
   refine bd _ () (aE H) Gh.d
  refine ag 10 tk rfl (ac ?_)
  refine bd _ () (aE H) Gh.d
 refine aM rfl H (fun H=>?_) (fun H=>?_)
 ·refine aw 1 tk rfl ?_
  exact bn tk H rfl
 refine ab (aa (ak tk rfl (db tk (rows' := List.map bT ([2,4,5] : List Int)) (it.refl _) ?_)))
 obtain ⟨x83,h83,H⟩ := az H
 have s83 := fH ([2,4,5] : List Int) q _ h83
 refine ao Tryz.call193 (jp.r) s83 ?_
 refine ak tk rfl (ac ?_)
 refine aM rfl H (fun H=>?_) (fun H=>?_)
 ·refine ab (aa (ag 2 tk rfl (aC tk (zl _) ?_)))
  refine ag 2 tk rfl (ac ?_)
  exact bn tk H rfl
 refine ab (aa (ak tk rfl (db tk (rows' := List.map bT ([3,8] : List Int)) (it.refl _) ?_)))
 obtain ⟨x91,h91,H⟩ := az H
 have s91 := fH ([3,8] : List Int) q _ h91
 refine ao Tryz.call193 (jp.r) s91 ?_
 refine ak tk rfl (ac ?_)
 refine aM rfl H (fun H=>?_) (fun H=>?_)
 ·refine ab (aa (ag 2 tk rfl (aC tk (zl _) ?_)))
  refine ag 2 tk rfl (aC tk (zl _) ?_)
  refine ag 2 tk rfl ?_
  refine bq rfl rfl rfl H (fun H=>?_) (fun H=>?_)
  ·refine ag 2 tk rfl (aC tk (zl _) ?_)
   refine ag 2 tk rfl (aC tk (zl _) ?_)
   refine ag 4 tk rfl (ac ?_)
   exact bn tk H rfl
  refine ag 10 tk rfl (ac ?_)
  exact bn tk H rfl
 refine ab (aa (ak tk rfl (db tk (rows' := List.map bT ([9] : List Int)) (it.refl _) ?_)))
 obtain ⟨x112,h112,H⟩ := az H
 have s112 := fH ([9] : List Int) q _ h112
 refine ao Tryz.call193 (jp.r) s112 ?_
 refine ak tk rfl (ac ?_)
 refine aM rfl H (fun H=>?_) (fun H=>?_)
 ·refine ab (aa (ag 2 tk rfl (aC tk (zl _) ?_)))
  refine ag 2 tk rfl (aC tk (zl _) ?_)
  refine ag 2 tk rfl ?_
  refine bq rfl rfl rfl H (fun H=>?_) (fun H=>?_)
  ·refine ag 2 tk rfl (aC tk (zl _) ?_)
   refine ag 3 tk rfl (ac ?_)
   exact bn tk H rfl
  refine ag 6 tk rfl (ac ?_)
  exact bn tk H rfl
 refine ab (aa (ak tk rfl (db tk (rows' := List.map bT ([10] : List Int)) (it.refl _) ?_)))
 obtain ⟨x129,h129,H⟩ := az H
 have s129 := fH ([10] : List Int) q _ h129
 refine ao Tryz.call193 (jp.r) s129 ?_
 refine ak tk rfl (ac ?_)
 refine aM rfl H (fun H=>?_) (fun H=>?_)
 ·refine ab (aa (ag 2 tk rfl (aC tk (zl _) ?_)))
  refine ag 2 tk rfl ?_
  refine bq rfl rfl rfl H (fun H=>?_) (fun H=>?_)
  ·refine ag 5 tk rfl ?_
   refine bq rfl rfl rfl H (fun H=>?_) (fun H=>?_)
   ·refine ag 5 tk rfl (ac ?_)
    exact bn tk H rfl
   refine ag 5 tk rfl (ac ?_)
   exact bn tk H rfl
  refine ag 10 tk rfl (ac ?_)
  exact bn tk H rfl
 refine av (aL (ab (aa (ag 2 tk rfl (aC tk (zl _) ?_)))))
 refine ag 2 tk rfl (ac ?_)
 exact bn tk H rfl
def dG (c : LChecker) (l : List LCol) (e : LExpr) : Int :=
 bC (cV l c.vars e) fun x15 =>
 cond (x15.2.2 == (0 : Int))
  (cond (x15.1 != (2 : Int))
   (cond (x15.1 != (0 : Int))
    (7)
    (x15.2.2))
   (x15.2.2))
  (x15.2.2)
theorem ld (c : LChecker) (l : List LCol) (e : LExpr) :
  aP Tryz.prog 195 [(.agg (ek c)),(.list 70 (l.map aR)),(.agg (cu e))] (ap (dG c l e)) := by
 obtain ⟨r,H⟩ : ∃ r,dG c l e = r := ⟨_,rfl⟩
 rw [H]
 unfold dG at H
 refine PH.ay Tryz.func195 Tryz.ntmps195 ?_
 refine ab (aa (aI ?_))
 refine aI ?_
 refine ak tk rfl (ac (ab (aa (ag 4 tk rfl ?_))))
 obtain ⟨x15,h15,H⟩ := cO H
 have s15 := nS l c.vars e
 rw [h15] at s15
 refine ao Tryz.call86 (jp.r) s15 ?_
 refine ag 7 tk rfl (ac (ab (ab (aa (ag 3 tk rfl ?_)))))
 refine bq rfl rfl rfl H (fun H=>?_) (fun H=>?_)
 ·refine ag 4 tk rfl ?_
  refine bq rfl rfl rfl H (fun H=>?_) (fun H=>?_)
  ·refine ag 3 tk rfl (ac ?_)
   refine aM rfl H (fun H=>?_) (fun H=>?_)
   ·refine aw 1 tk rfl ?_
    exact eC tk H rfl
   refine av (aw 2 tk rfl ?_)
   exact eC tk H rfl
  refine ag 3 tk rfl (ac (bD rfl (av (aw 2 tk rfl ?_))))
  exact eC tk H rfl
 refine ag 7 tk rfl (ac (bD rfl (av (aw 2 tk rfl ?_))))
 exact eC tk H rfl
def gr (c : LChecker) (inA : List LCol) (a : LAggregateCall) : Option (Int × Int) :=
 af (
  bC (dz a.name) fun x13 =>
  cond (!x13)
   (some true)
   (af (dP ([[99,111,117,110,116],[115,117,109],[109,105,110],[109,97,120]] : List (List UInt8)) a.function) fun x19 =>
   cond (!x19)
    (some true)
    (cond (decide ((a.args.length : Int) > (1 : Int)))
     (some true)
     (cond (decide ((a.args.length : Int) < (1 : Int)))
      (some (!(a.function == ([99,111,117,110,116] : List UInt8))))
      (some false))))) fun (t1 : Bool) =>
 cond t1
  (some (0,3))
  (cond ((a.args.length : Int) == (0 : Int))
   (some (1,0))
   (af (aF a.args 0) fun (x49 : LExpr) =>
   bC (cV inA c.vars x49) fun x51 =>
   cond (x51.2.2 != (0 : Int))
    (some (0,x51.2.2))
    (bC (
     cond (x51.1 == (0 : Int))
      (true)
      (cond (a.function == ([115,117,109] : List UInt8))
       ((x51.1 != (1 : Int)))
       (false))) fun (t2 : Bool) =>
    cond t2
     (some (0,7))
     (cond (a.function == ([99,111,117,110,116] : List UInt8))
      (some (1,0))
      (some (x51.1,0))))))
theorem sh (c : LChecker) (inA : List LCol) (a : LAggregateCall) (r : Int × Int) (H : gr c inA a = some r) :
  aP Tryz.prog 226 [(.agg (ek c)),(.list 70 (inA.map aR)),(.agg (lg a))] (.tup [(ap r.1),(ap r.2)]) := by
 unfold gr at H
 refine PH.ay Tryz.func226 Tryz.ntmps226 ?_
 refine ab (aa (aI ?_))
 refine aI ?_
 refine ag 2 tk rfl (ac (ab (ab ?_)))
 refine gM (γ := Unit) (fun t1 g1=>⟨76,upd (upd (upd (upd (fun _=>.any) 38 (aN t1)) 5 (.ptr (lg a))) 3 (.ptr (ek c))) 1 (.list 70 (inA.map aR)),fun _=>none,fun _=>none⟩) H (fun _ H=>?_) (fun t1 g1 H=>?_)
 ·refine aa (ag 2 tk rfl ?_)
  obtain ⟨x13,h13,H⟩ := cO H
  have s13 := mV a.name
  rw [h13] at s13
  refine ao Tryz.call95 (jp.r) s13 ?_
  refine ag 2 tk rfl ?_
  refine bq rfl rfl rfl H (fun H=>?_) (fun H=>?_)
  ·refine ag 23 tk rfl (ac ?_)
   refine bd _ () (aE H) Gh.d
  refine db tk (rows' := List.map kC ([[99,111,117,110,116],[115,117,109],[109,105,110],[109,97,120]] : List (List UInt8))) (it.refl _) ?_
  refine ag 2 tk rfl ?_
  obtain ⟨x19,h19,H⟩ := az H
  have s19 := md ([[99,111,117,110,116],[115,117,109],[109,105,110],[109,97,120]] : List (List UInt8)) a.function _ h19
  refine ao Tryz.call147 (jp.r) s19 ?_
  refine ag 3 tk rfl ?_
  refine bq rfl rfl rfl H (fun H=>?_) (fun H=>?_)
  ·refine ag 16 tk rfl (ac ?_)
   refine bd _ () (aE H) Gh.d
  refine ag 2 tk rfl (aC tk (zl _) ?_)
  refine ag 3 tk rfl ?_
  refine bq rfl rfl rfl H (fun H=>?_) (fun H=>?_)
  ·refine ag 10 tk rfl (ac ?_)
   refine bd _ () (aE H) Gh.d
  refine ag 2 tk rfl (aC tk (zl _) ?_)
  refine ag 2 tk rfl ?_
  refine bq rfl rfl rfl H (fun H=>?_) (fun H=>?_)
  ·refine ag 5 tk rfl (ac ?_)
   refine bd _ () (aE H) Gh.d
  refine ag 5 tk rfl (ac ?_)
  refine bd _ () (aE H) Gh.d
 refine aM rfl H (fun H=>?_) (fun H=>?_)
 ·refine aw 2 tk rfl ?_
  exact bn tk H rfl
 refine av (ab (ab (aa (ag 2 tk rfl (aC tk (zl _) ?_)))))
 refine ak tk rfl (ac ?_)
 refine aM rfl H (fun H=>?_) (fun H=>?_)
 ·refine aw 2 tk rfl ?_
  exact bn tk H rfl
 refine av (ab (bp tk mok ⟨false,false,[]⟩ [0,1,2,3,4,5,6,7,8,9,10,11,12,13,14] rfl (by decide +kernel) rfl (aQ 5 rfl ?_)))
 obtain ⟨x49,k49,H⟩ := be H
 refine bc k49.1 (aG bR k49.2) ?_
 refine bK rfl ?_
 obtain ⟨x51,h51,H⟩ := cO H
 have s51 := nS inA c.vars x49
 rw [h51] at s51
 refine aY Tryz.call86 (jp.r) s51 ?_
 refine aQ 7 rfl (bg (ab (ax (aw 3 tk rfl ?_))))
 refine aM rfl H (fun H=>?_) (fun H=>?_)
 ·refine aw 3 tk rfl ?_
  exact bn tk H rfl
 refine ab ?_
 refine gg (γ := Unit) (fun t2 g2=>⟨76,upd (upd (upd (fun _=>.any) 59 (aN t2)) 8 (ap x51.1)) 5 (.ptr (lg a)),fun _=>none,fun _=>none⟩) H (fun _ H=>?_) (fun t2 g2 H=>?_)
 ·refine aa (ag 3 tk rfl ?_)
  refine bq rfl rfl rfl H (fun H=>?_) (fun H=>?_)
  ·refine ag 9 tk rfl (ac ?_)
   refine bd _ () H Gh.d
  refine ag 4 tk rfl ?_
  refine bq rfl rfl rfl H (fun H=>?_) (fun H=>?_)
  ·refine ag 5 tk rfl (ac ?_)
   refine bd _ () H Gh.d
  refine ag 5 tk rfl (ac ?_)
  refine bd _ () H Gh.d
 refine aM rfl H (fun H=>?_) (fun H=>?_)
 ·refine aw 2 tk rfl ?_
  exact bn tk H rfl
 refine aw 4 tk rfl ?_
 refine aM rfl H (fun H=>?_) (fun H=>?_)
 ·refine aw 2 tk rfl ?_
  exact bn tk H rfl
 refine av (aL (aw 3 tk rfl ?_))
 exact bn tk H rfl
def cS (a : Rq) (b : Rq) : Option (Int) :=
 af (pD (if (b.length : Int) < (a.length : Int) then (b.length : Int) else (a.length : Int))) fun (n1 : Nat) =>
 af (aK (σ := Unit) (ρ := (Int)) (fun (j1 : Nat) (_ : Nat) (_ : Unit) =>
  af (aF a (j1 : Int)) fun (x17 : LVal) =>
  af (aF b (j1 : Int)) fun (x21 : LVal) =>
  bC (dN x17 x21) fun x23 =>
  cond (x23 != (0 : Int))
   (some (.ret x23))
   (some (.next ()))) 0 (List.range n1) ()) fun fl1=>fl1.thenR fun (_ : Unit) =>
 bC (ck (a.length : Int) (b.length : Int)) fun x32 =>
 some x32
theorem rY (a : Rq) (b : Rq) (r : Int) (H : cS a b = some r) :
  aP Tryz.prog 50 [(.list 75 (a.map ae)),(.list 75 (b.map ae))] (ap r) := by
 unfold cS at H
 refine PH.ay Tryz.func50 Tryz.ntmps50 ?_
 refine aw 1 tk rfl (ab (ab (aa (ak tk rfl (aC tk (zl _) ?_)))))
 refine ak tk rfl (aC tk (zl _) ?_)
 refine ag 2 tk rfl (ac ?_)
 obtain ⟨n1,hs1,H⟩ := az H
 have hz1 := qC hs1
 obtain ⟨fl1,H1,Hp1⟩ := az H
 refine eZ (τ := Unit) (γ := Unit) (fun s1 g1=>⟨33,upd (upd (fun _=>.any) 1 (.list 75 (b.map ae))) 0 (.list 75 (a.map ae)),fun _=>none,fun _=>none⟩) (fun t=>fl1 = .next t) ?_ (fun s1 g1 hn1=>?_)
 ·refine ax ?_
  refine ix (fun j1 s1 g1=>⟨33,upd (upd (upd (upd (fun _=>.any) 12 (ap (j1 : Int))) 11 (ap (if (b.length : Int) < (a.length : Int) then (b.length : Int) else (a.length : Int)))) 1 (.list 75 (b.map ae))) 0 (.list 75 (a.map ae)),fun _=>none,fun _=>none⟩) () H1 Gh.d (fun j1 s1 g1 hj1 hr1=>?_)
  refine aw 1 tk rfl (ab ?_)
  refine bA rfl (fun h=>?_) (fun h=>?_)
  ·have hl1 := natLt hz1 h
   obtain ⟨x1,fb1,hx1,H,hg1⟩ := rMc hl1 hr1
   obtain rfl := natX hx1
   refine av (ab (ax (aw 2 tk rfl (ab (bp tk mok ⟨false,false,[]⟩ [0,1,2,3,4,5,6,7,8,9] rfl (by decide +kernel) rfl (aQ 2 rfl ?_))))))
   obtain ⟨x17,k17,H⟩ := be H
   refine bc k17.1 (aG (fun _=>rfl) k17.2) ?_
   refine aQ 3 rfl ?_
   obtain ⟨x21,k21,H⟩ := be H
   refine bc k21.1 (aG (fun _=>rfl) k21.2) ?_
   refine bK rfl ?_
   obtain ⟨x23,h23,H⟩ := cO H
   have s23 := qi x17 x21
   rw [h23] at s23
   refine aY Tryz.call76 (jp.r) s23 ?_
   refine bK rfl (bg (aw 2 tk rfl ?_))
   refine aM rfl H (fun H=>?_) (fun H=>?_)
   ·refine aw 2 tk rfl ?_
    obtain rfl := aE H
    have e1 : fl1 = .ret _ := hg1
    subst e1
    obtain rfl := aZ Hp1
    refine bj tk rfl (ps := [(ap x23)]) ⟨_,_,rfl,rfl,rfl⟩ (PLe.q rfl)
   refine av (aL (bf 2 tk rfl ?_))
   exact bu () H hl1 hg1 (Gh.le (aB (aB (aB (bO (PLe.q (rf hz1 hl1)) bt)))) aT aS)
  have hn1 := rMd (natGe hz1 h) hr1
  refine br rfl ?_
  refine bd s1 g1 hn1 Gh.d
 have H := oQ hn1 Hp1
 refine ab (aa (ak tk rfl (aC tk (zl _) ?_)))
 refine ak tk rfl (aC tk (zl _) ?_)
 obtain ⟨x32,h32,H⟩ := cO H
 have s32 := kX (a.length : Int) (b.length : Int)
 rw [h32] at s32
 refine ao Tryz.call77 (jp.r) s32 ?_
 refine ak tk rfl (ac ?_)
 exact bn tk H rfl
def ep (data : Rz) (n : Int) (cmp : Rq → Rq → Option (Int)) : Option (Rz) :=
 af (fh (σ := Rz × Int × Int) (ρ := Empty) (fun (s1 : Rz × Int × Int) =>
  cond (decide (s1.2.2 ≤ n))
   (af (cA s1.1 s1.2.1 s1.2.2 cmp) fun x18 =>
   af (fm (x18.length = s1.1.length) ()) fun (_ : Unit) =>
   some (.next (x18,s1.2.2,(IntKind.i64.wrap (s1.2.2 + (20 : Int))))))
   (some (.brk (s1.1,s1.2.1,s1.2.2)))) (data,0,20)) fun fl1=>fl1.thenP fun (s1 : Rz × Int × Int) =>
 af (cA s1.1 s1.2.1 n cmp) fun x27 =>
 af (fm (x27.length = s1.1.length) ()) fun (_ : Unit) =>
 af (fh (σ := Rz × Int) (ρ := Empty) (fun (s2 : Rz × Int) =>
  cond (decide (s2.2 < n))
   (af (fh (σ := Rz × Int × Int) (ρ := Empty) (fun (s5 : Rz × Int × Int) =>
    cond (decide (s5.2.2 ≤ n))
     (af (fg s5.1 s5.2.1 (IntKind.i64.wrap (s5.2.1 + s2.2)) s5.2.2 cmp) fun x43 =>
     af (fm (x43.length = s5.1.length) ()) fun (_ : Unit) =>
     some (.next (x43,s5.2.2,(IntKind.i64.wrap (s5.2.2 + (IntKind.i64.wrap ((2 : Int) * s2.2)))))))
     (some (.brk (s5.1,s5.2.1,s5.2.2)))) (s2.1,0,(IntKind.i64.wrap ((2 : Int) * s2.2)))) fun fl5=>fl5.thenP fun (s5 : Rz × Int × Int) =>
   cond (decide ((IntKind.i64.wrap (s5.2.1 + s2.2)) < n))
    (af (fg s5.1 s5.2.1 (IntKind.i64.wrap (s5.2.1 + s2.2)) n cmp) fun x60 =>
    af (fm (x60.length = s5.1.length) ()) fun (_ : Unit) =>
    some (.next (x60,(IntKind.i64.wrap (s2.2 * (2 : Int))))))
    (some (.next (s5.1,(IntKind.i64.wrap (s2.2 * (2 : Int)))))))
   (some (.brk (s2.1,s2.2)))) (x27,20)) fun fl2=>fl2.thenP fun (s2 : Rz × Int) =>
 some s2.1
theorem mP (g_data : OwnRef) {g_cmp : FuncId} {caps_cmp : List PV} (data : Rz) (n : Int) (cmp : Rq → Rq → Option (Int)) (hg_cmp : ∀ (vs : Array Value) (w : World),(callFunc g_cmp vs).run Tryz.prog w = .ok (.enter g_cmp vs) w) (hp_cmp : ∀ a0 a1 r,cmp a0 a1 = some r → aP Tryz.prog g_cmp ((.list 75 (a0.map ae)) :: (.list 75 (a1.map ae)) :: caps_cmp) (ap r)) (r : Rz) (H : ep data n cmp = some r) :
  PH Tryz.prog 205 [(.own 0 g_data (data.map (aq 75 ae)).length),(ap n),(.fn g_cmp caps_cmp)] ⟨fun _=>none,upd (fun _=>none) 0 (some ⟨g_data,77,(data.map (aq 75 ae)),true⟩)⟩ (fun u H=>u = (.tup []) ∧ H = ⟨fun _=>none,upd (fun _=>none) 0 (some ⟨g_data,77,(r.map (aq 75 ae)),true⟩)⟩) := by
 unfold ep at H
 refine PH.ay Tryz.func205 Tryz.ntmps205 ?_
 refine aw 1 tk rfl (aw 3 tk rfl (ab ?_))
 obtain ⟨fl1,H1,Hp1⟩ := az H
 refine eZ (τ := Rz × Int × Int) (γ := Unit) (fun s1 g1=>⟨63,upd (upd (upd (upd (upd (fun _=>.any) 7 (ap s1.2.1)) 6 (ap 20)) 2 (.fn g_cmp caps_cmp)) 1 (ap n)) 0 (.own 0 g_data (s1.1.map (aq 75 ae)).length),fun _=>none,upd (fun _=>none) 0 (some ⟨g_data,77,(s1.1.map (aq 75 ae)),true⟩)⟩) (fun t=>fl1 = .next t) ?_ (fun s1 g1 hn1=>?_)
 ·refine ax ?_
  refine gC (fun s1 g1=>⟨63,upd (upd (upd (upd (upd (upd (fun _=>.any) 8 (ap s1.2.2)) 7 (ap s1.2.1)) 6 (ap 20)) 2 (.fn g_cmp caps_cmp)) 1 (ap n)) 0 (.own 0 g_data (s1.1.map (aq 75 ae)).length),fun _=>none,upd (fun _=>none) 0 (some ⟨g_data,77,(s1.1.map (aq 75 ae)),true⟩)⟩) () H1 Gh.d (fun m1 s1 g1 hr1=>?_)
  obtain ⟨fb1,H,hg1⟩ := ff hr1
  refine ab (aw 3 tk rfl ?_)
  refine aM rfl H (fun H=>?_) (fun H=>?_)
  ·refine av (ax (ab (aa (ag 4 tk rfl ?_))))
   obtain ⟨x18,h18,H⟩ := az H
   have s18 := iz g_data s1.1 s1.2.1 s1.2.2 cmp hg_cmp hp_cmp _ h18
   obtain ⟨_,q18_0,H⟩ := az H
   have l18_0 := (dH q18_0).1
   have z18_0 : (List.map (aq 75 ae) s1.1).length = (List.map (aq 75 ae) x18).length := by simpa using (l18_0).symm
   refine eK (g := 232) rfl rfl rfl Tryz.call232 [] [(0,0)] rfl rfl rfl rfl (jp.of2 (iJ.cons (PLe2.own rfl) (iJ.cons (PLe2.of_eq rfl) (iJ.cons (PLe2.of_eq rfl) (iJ.cons (PLe2.of_eq rfl) iJ.nil))))) (by rw [dX,dv,dY]; rfl) s18 ?_
   rintro u18 H18h ⟨rfl,rfl⟩
   refine ⟨_,rfl,?_⟩
   refine ef (st' := ⟨_,_,fun _=>none,upd (fun _=>none) 0 (some ⟨g_data,77,(x18.map (aq 75 ae)),true⟩)⟩) (Gh.le (dp _ _) aT (bI aS)) ?_
   refine ac (aw 2 tk rfl (bf 4 tk rfl (aL ?_)))
   obtain rfl := aE H
   refine eg (x18,s1.2.2,(IntKind.i64.wrap (s1.2.2 + (20 : Int)))) () hg1 (Gh.le (bO (PLe.of2 (PLe2.of_eq (congrArg (PV.own 0 g_data) z18_0))) (aB (aB (aB (aB (aB bt)))))) aT (bI aS))
  refine br rfl ?_
  obtain rfl := aE H
  refine bd (s1.1,s1.2.1,s1.2.2) () hg1 Gh.d
 have H := dw hn1 Hp1
 refine ab (aa (ag 4 tk rfl ?_))
 obtain ⟨x27,h27,H⟩ := az H
 have s27 := iz g_data s1.1 s1.2.1 n cmp hg_cmp hp_cmp _ h27
 obtain ⟨_,q27_0,H⟩ := az H
 have l27_0 := (dH q27_0).1
 have z27_0 : (List.map (aq 75 ae) s1.1).length = (List.map (aq 75 ae) x27).length := by simpa using (l27_0).symm
 refine eK (g := 232) rfl rfl rfl Tryz.call232 [] [(0,0)] rfl rfl rfl rfl (jp.of2 (iJ.cons (PLe2.own rfl) (iJ.cons (PLe2.of_eq rfl) (iJ.cons (PLe2.of_eq rfl) (iJ.cons (PLe2.of_eq rfl) iJ.nil))))) (by rw [dX,dv,dY]; rfl) s27 ?_
 rintro u27 H27h ⟨rfl,rfl⟩
 refine ⟨_,rfl,?_⟩
 refine ef (st' := ⟨_,_,fun _=>none,upd (fun _=>none) 0 (some ⟨g_data,77,(x27.map (aq 75 ae)),true⟩)⟩) (Gh.le (dp _ _) aT (bI aS)) ?_
 refine ac ?_
 obtain ⟨fl2,H2,Hp2⟩ := az H
 refine eZ (τ := Rz × Int) (γ := Unit) (fun s2 g2=>⟨63,upd (fun _=>.any) 0 (.own 0 g_data (s2.1.map (aq 75 ae)).length),fun _=>none,upd (fun _=>none) 0 (some ⟨g_data,77,(s2.1.map (aq 75 ae)),true⟩)⟩) (fun t=>fl2 = .next t) ?_ (fun s2 g2 hn2=>?_)
 ·refine ax ?_
  refine gC (fun s2 g2=>⟨63,upd (upd (upd (upd (fun _=>.any) 6 (ap s2.2)) 2 (.fn g_cmp caps_cmp)) 1 (ap n)) 0 (.own 0 g_data (s2.1.map (aq 75 ae)).length),fun _=>none,upd (fun _=>none) 0 (some ⟨g_data,77,(s2.1.map (aq 75 ae)),true⟩)⟩) () H2 (Gh.le (bO (PLe.of2 (PLe2.of_eq (congrArg (PV.own 0 g_data) z27_0))) (aB (aB (aB bt)))) aT (bI aS)) (fun m2 s2 g2 hr2=>?_)
  obtain ⟨fb2,H,hg2⟩ := ff hr2
  refine ab (aw 3 tk rfl ?_)
  refine aM rfl H (fun H=>?_) (fun H=>?_)
  ·refine av (ax (aw 4 tk rfl (ab ?_)))
   obtain ⟨fl5,H5,Hp5⟩ := az H
   refine eZ (τ := Rz × Int × Int) (γ := Unit) (fun s5 g5=>⟨63,upd (upd (upd (upd (upd (fun _=>.any) 7 (ap s5.2.1)) 6 (ap s2.2)) 2 (.fn g_cmp caps_cmp)) 1 (ap n)) 0 (.own 0 g_data (s5.1.map (aq 75 ae)).length),fun _=>none,upd (fun _=>none) 0 (some ⟨g_data,77,(s5.1.map (aq 75 ae)),true⟩)⟩) (fun t=>fl5 = .next t) ?_ (fun s5 g5 hn5=>?_)
   ·refine ax ?_
    refine gC (fun s5 g5=>⟨63,upd (upd (upd (upd (upd (upd (fun _=>.any) 8 (ap s5.2.2)) 7 (ap s5.2.1)) 6 (ap s2.2)) 2 (.fn g_cmp caps_cmp)) 1 (ap n)) 0 (.own 0 g_data (s5.1.map (aq 75 ae)).length),fun _=>none,upd (fun _=>none) 0 (some ⟨g_data,77,(s5.1.map (aq 75 ae)),true⟩)⟩) () H5 Gh.d (fun m5 s5 g5 hr5=>?_)
    obtain ⟨fb5,H,hg5⟩ := ff hr5
    refine ab (aw 3 tk rfl ?_)
    refine aM rfl H (fun H=>?_) (fun H=>?_)
    ·refine av (ax (ab (aa (ag 7 tk rfl ?_))))
     obtain ⟨x43,h43,H⟩ := az H
     have s43 := js g_data s5.1 s5.2.1 (IntKind.i64.wrap (s5.2.1 + s2.2)) s5.2.2 cmp hg_cmp hp_cmp _ h43
     obtain ⟨_,q43_0,H⟩ := az H
     have l43_0 := (dH q43_0).1
     have z43_0 : (List.map (aq 75 ae) s5.1).length = (List.map (aq 75 ae) x43).length := by simpa using (l43_0).symm
     refine eK (g := 233) rfl rfl rfl Tryz.call233 [] [(0,0)] rfl rfl rfl rfl (jp.of2 (iJ.cons (PLe2.own rfl) (iJ.cons (PLe2.of_eq rfl) (iJ.cons (PLe2.of_eq rfl) (iJ.cons (PLe2.of_eq rfl) (iJ.cons (PLe2.of_eq rfl) iJ.nil)))))) (by rw [dX,dv,dY]; rfl) s43 ?_
     rintro u43 H43h ⟨rfl,rfl⟩
     refine ⟨_,rfl,?_⟩
     refine ef (st' := ⟨_,_,fun _=>none,upd (fun _=>none) 0 (some ⟨g_data,77,(x43.map (aq 75 ae)),true⟩)⟩) (Gh.le (dp _ _) aT (bI aS)) ?_
     refine ac (aw 2 tk rfl (bf 5 tk rfl (aL ?_)))
     obtain rfl := aE H
     refine eg (x43,s5.2.2,(IntKind.i64.wrap (s5.2.2 + (IntKind.i64.wrap ((2 : Int) * s2.2))))) () hg5 (Gh.le (bO (PLe.of2 (PLe2.of_eq (congrArg (PV.own 0 g_data) z43_0))) (aB (aB (aB (aB (aB bt)))))) aT (bI aS))
    refine br rfl ?_
    obtain rfl := aE H
    refine bd (s5.1,s5.2.1,s5.2.2) () hg5 Gh.d
   have H := dw hn5 Hp5
   refine ab (aw 4 tk rfl (aw 3 tk rfl ?_))
   refine aM rfl H (fun H=>?_) (fun H=>?_)
   ·refine aa (ag 5 tk rfl ?_)
    obtain ⟨x60,h60,H⟩ := az H
    have s60 := js g_data s5.1 s5.2.1 (IntKind.i64.wrap (s5.2.1 + s2.2)) n cmp hg_cmp hp_cmp _ h60
    obtain ⟨_,q60_0,H⟩ := az H
    have l60_0 := (dH q60_0).1
    have z60_0 : (List.map (aq 75 ae) s5.1).length = (List.map (aq 75 ae) x60).length := by simpa using (l60_0).symm
    refine eK (g := 233) rfl rfl rfl Tryz.call233 [] [(0,0)] rfl rfl rfl rfl (jp.of2 (iJ.cons (PLe2.own rfl) (iJ.cons (PLe2.of_eq rfl) (iJ.cons (PLe2.of_eq rfl) (iJ.cons (PLe2.of_eq rfl) (iJ.cons (PLe2.of_eq rfl) iJ.nil)))))) (by rw [dX,dv,dY]; rfl) s60 ?_
    rintro u60 H60h ⟨rfl,rfl⟩
    refine ⟨_,rfl,?_⟩
    refine ef (st' := ⟨_,_,fun _=>none,upd (fun _=>none) 0 (some ⟨g_data,77,(x60.map (aq 75 ae)),true⟩)⟩) (Gh.le (dp _ _) aT (bI aS)) ?_
    refine ac (bf 3 tk rfl (aL ?_))
    obtain rfl := aE H
    refine eg (x60,(IntKind.i64.wrap (s2.2 * (2 : Int)))) () hg2 (Gh.le (bO (PLe.of2 (PLe2.of_eq (congrArg (PV.own 0 g_data) z60_0))) (aB (aB (aB bt)))) aT (bI aS))
   refine av (bf 3 tk rfl (aL ?_))
   obtain rfl := aE H
   refine eg (s5.1,(IntKind.i64.wrap (s2.2 * (2 : Int)))) () hg2 Gh.d
  refine br rfl ?_
  obtain rfl := aE H
  refine bd (s2.1,s2.2) () hg2 Gh.d
 have H := dw hn2 Hp2
 obtain rfl := aE H
 refine iy (st' := ⟨63,fun _=>.any,fun _=>none,upd (fun _=>none) 0 (some ⟨g_data,77,(s2.1.map (aq 75 ae)),true⟩)⟩) (Gh.le bt aT (bI aS)) ?_
 refine mL rfl (PLe.q rfl) ⟨rfl,rfl⟩
def eI (t : LTable) (name : List UInt8) (condA : LExpr) : Option (Bool) :=
 af (mi condA) fun x16 =>
 af (aK (σ := Unit) (ρ := (Bool)) (fun (_ : Nat) (x1 : LExpr) (_ : Unit) =>
  bC (
   cond (x1.kind != (5 : Int))
    (true)
    (cond (!(x1.name == ([61] : List UInt8)))
     (true)
     (((x1.args.length : Int) != (2 : Int))))) fun (t4 : Bool) =>
  cond t4
   (some (.next ()))
   (af (aK (σ := Unit) (ρ := (Bool)) (fun (j5 : Nat) (x5 : LExpr) (_ : Unit) =>
    cond (x5.kind == (2 : Int))
     (cond (x5.name == name)
      (af (aF x1.args (IntKind.i64.wrap ((1 : Int) - (j5 : Int)))) fun (x62 : LExpr) =>
      af (fp x62 t) fun x64 =>
      cond x64
       (some (.ret true))
       (some (.next ())))
      (some (.next ())))
     (some (.next ()))) 0 x1.args ()) fun fl5=>fl5.thenF fun (_ : Unit) =>
   some (.next ()))) 0 x16 ()) fun fl1=>fl1.thenR fun (_ : Unit) =>
 some false
theorem pB (t : LTable) (name : List UInt8) (condA : LExpr) (r : Bool) (H : eI t name condA = some r) :
  aP Tryz.prog 78 [(.agg (cd t)),(.str name),(.agg (cu condA))] (aN r) := by
 unfold eI at H
 refine PH.ay Tryz.func78 Tryz.ntmps78 ?_
 refine ab (aa (aI ?_))
 refine aI ?_
 refine ak tk rfl (ac (ab (aa (ak tk rfl ?_))))
 refine aX tk fun b7=>?_
 refine au tk ?_
 refine ac (ab (aa (ef (Gh.freezeB 7 rfl rfl rfl rfl) (ag 2 tk rfl (ac (ab (ab (aa (ak tk rfl ?_)))))))))
 obtain ⟨x16,h16,H⟩ := az H
 have s16 := ur (m := 16) condA _ h16
 refine ao Tryz.call128 (jp.r) (PFun.iB s16) ?_
 refine aC tk (zl _) ?_
 refine ak tk rfl (ac ?_)
 refine ft tk 18 17 16 (fun s1 g1=>upd (upd (fun _=>.any) 8 (.fn 127 [(.ptr [(.fn 126 [(.ptr (cd t))])])])) 1 (.str name)) nB nO () H (fun fl1 Hp1 j1 s1 g1 hz1 hl1 x1 fb1 hx1 H hg1=>?_) (fun s1 g1 H=>?_)
 ·refine ab (ax (ab (aa (aV tk (zn j1) (bw bR hx1) ?_))))
  refine ak tk rfl ?_
  refine aX tk fun b10=>?_
  refine au tk ?_
  refine ac (ab (ab ?_))
  refine gg (γ := Unit) (fun t4 g4=>⟨68,upd (upd (upd (upd (upd (upd (upd (fun _=>.any) 35 (aN t4)) 18 (ap (j1 : Int))) 17 (ap (x16.length : Int))) 16 (.list 92 (x16.map bE))) 10 (.box 10 b10 0)) 8 (.fn 127 [(.ptr [(.fn 126 [(.ptr (cd t))])])])) 1 (.str name),upd (fun _=>none) 10 (some ⟨b10,(cu x1)⟩),fun _=>none⟩) H (fun _ H=>?_) (fun t4 g4 H=>?_)
  ·refine aa (ak tk rfl (aA tk ?_))
   refine ag 2 tk rfl ?_
   refine bq rfl rfl rfl H (fun H=>?_) (fun H=>?_)
   ·refine ag 10 tk rfl (ac ?_)
    refine bd _ () H Gh.d
   refine ak tk rfl (aA tk ?_)
   refine ag 3 tk rfl ?_
   refine bq rfl rfl rfl H (fun H=>?_) (fun H=>?_)
   ·refine ag 5 tk rfl (ac ?_)
    refine bd _ () H Gh.d
   refine ak tk rfl (aA tk ?_)
   refine aC tk (zl _) ?_
   refine ag 2 tk rfl (ac ?_)
   refine bd _ () H Gh.d
  refine aM rfl H (fun H=>?_) (fun H=>?_)
  ·refine br rfl (bf 2 tk rfl ?_)
   exact bu () H hl1 hg1
  refine av (ab (aa (ak tk rfl (aA tk ?_))))
  refine aC tk (zl _) ?_
  refine ak tk rfl (ac ?_)
  obtain ⟨fl5,H5,Hp5⟩ := az H
  refine gz tk 37 rfl rfl (fun hz5 _=>?_)
  rw [zl] at hz5
  refine eZ (τ := Unit) (γ := Unit) (fun s5 g5=>⟨68,upd (upd (upd (upd (upd (fun _=>.any) 18 (ap (j1 : Int))) 17 (ap (x16.length : Int))) 16 (.list 92 (x16.map bE))) 8 (.fn 127 [(.ptr [(.fn 126 [(.ptr (cd t))])])])) 1 (.str name),fun _=>none,fun _=>none⟩) (fun t=>fl5 = .next t) ?_ (fun s5 g5 hn5=>?_)
  ·refine ax ?_
   refine ix (fun j5 s5 g5=>⟨68,upd (upd (upd (upd (upd (upd (upd (upd (upd (fun _=>.any) 39 (ap (j5 : Int))) 38 (ap (x1.args.length : Int))) 37 (.list 92 (x1.args.map bE))) 18 (ap (j1 : Int))) 17 (ap (x16.length : Int))) 16 (.list 92 (x16.map bE))) 10 (.box 10 b10 0)) 8 (.fn 127 [(.ptr [(.fn 126 [(.ptr (cd t))])])])) 1 (.str name),upd (fun _=>none) 10 (some ⟨b10,(cu x1)⟩),fun _=>none⟩) () H5 Gh.d (fun j5 s5 g5 hj5 hr5=>?_)
   refine aw 1 tk rfl (ab ?_)
   refine bA rfl (fun h=>?_) (fun h=>?_)
   ·have hl5 := mG h
    obtain ⟨x5,fb5,hx5,H,hg5⟩ := rMc hl5 hr5
    refine av (ab (ax (aw 2 tk rfl (ab (aa (ak tk rfl (aA tk ?_)))))))
    refine ak tk rfl (aV tk (zn j5) (bw bR hx5) ?_)
    refine ak tk rfl ?_
    refine aX tk fun b12=>?_
    refine au tk ?_
    refine ac (ab (aa (ak tk rfl (aA tk ?_))))
    refine ag 2 tk rfl ?_
    refine bq rfl rfl rfl H (fun H=>?_) (fun H=>?_)
    ·refine ak tk rfl (aA tk ?_)
     refine ag 4 tk rfl ?_
     refine bq rfl rfl rfl H (fun H=>?_) (fun H=>?_)
     ·refine ag 2 tk rfl (aA tk ?_)
      refine ag 2 tk rfl ?_
      obtain ⟨x62,k62,H⟩ := be H
      refine aV tk k62.1 (aG bR k62.2) ?_
      refine ak tk rfl ?_
      obtain ⟨x64,h64,H⟩ := az H
      have s64 := oH x62 t _ h64
      refine ao Tryz.call127 (jp.r) s64 ?_
      refine ak tk rfl (ac ?_)
      refine aM rfl H (fun H=>?_) (fun H=>?_)
      ·refine aw 1 tk rfl ?_
       obtain rfl := aE H
       have e5 : fl5 = .ret _ := hg5
       subst e5
       have q5 := lk Hp5
       subst q5
       have e1 : fl1 = .ret _ := hg1
       subst e1
       obtain rfl := aZ Hp1
       refine bj tk rfl (ps := [(aN true)]) ⟨_,_,rfl,rfl,rfl⟩ (PLe.q rfl)
      refine av (aL (bf 2 tk rfl ?_))
      exact bu () H hl5 hg5
     refine ag 9 tk rfl (ac (bD rfl (av (aL (bf 2 tk rfl ?_)))))
     exact bu () H hl5 hg5
    refine ag 15 tk rfl (ac (bD rfl (av (aL (bf 2 tk rfl ?_)))))
    exact bu () H hl5 hg5
   have hn5 := rMd (nf h) hr5
   refine br rfl ?_
   refine bd s5 g5 hn5 Gh.d
  have H := rn hn5 Hp5
  refine aL (bf 2 tk rfl ?_)
  exact bu () H hl1 hg1
 refine aw 1 tk rfl ?_
 exact bn tk H rfl
def eS (sA : LSchema) (c : LConstraint) : Option (Int) :=
 af (fL sA c.table) fun x14 =>
 cond (!x14.2)
  (some 4)
  (af (aF sA.tables x14.1) fun (x22 : LTable) =>
  bC (hC (LVal.mk 0 0 []) c.op (LVal.mk 0 0 [])) fun x30 =>
  bC (
   cond (decide (c.left < (0 : Int)))
    (true)
    (cond (decide (c.left ≥ (x22.columns.length : Int)))
     (true)
     (cond (x30.2 != (0 : Int))
      (true)
      (cond (decide (c.right < (-1)))
       (true)
       (cond (decide (c.right ≥ (x22.columns.length : Int)))
        (true)
        (cond (decide (c.right ≥ (0 : Int)))
         ((!(c.value.kind == (0 : Int) && (c.value.int == (0 : Int) && (c.value.text == ([] : List UInt8) && true)))))
         (false))))))) fun (t1 : Bool) =>
  cond t1
   (some 3)
   (cond (decide (c.right ≥ (0 : Int)))
    (af (aF x22.columns c.left) fun (x76 : LCol) =>
    af (aF x22.columns c.right) fun (x82 : LCol) =>
    cond (x76.kind != x82.kind)
     (some 7)
     (some 0))
    (af (aF x22.columns c.left) fun (x92 : LCol) =>
    cond (c.value.kind != x92.kind)
     (some 7)
     (bC (dB c.value) fun x98 =>
     some x98))))
theorem nY (sA : LSchema) (c : LConstraint) (r : Int) (H : eS sA c = some r) :
  aP Tryz.prog 59 [(.agg (bM sA)),(.agg (lf c))] (ap r) := by
 unfold eS at H
 refine PH.ay Tryz.func59 Tryz.ntmps59 ?_
 refine ab (aa (aI ?_))
 refine aI ?_
 refine ak tk rfl (ac (ab (aa (ag 3 tk rfl ?_))))
 obtain ⟨x14,h14,H⟩ := az H
 have s14 := ls sA c.table _ h14
 refine ao Tryz.call81 (jp.r) s14 ?_
 refine ag 5 tk rfl (ac (ab (aw 2 tk rfl ?_)))
 refine aM rfl H (fun H=>?_) (fun H=>?_)
 ·refine aw 1 tk rfl ?_
  exact bn tk H rfl
 refine av (ab (aa (ag 3 tk rfl ?_)))
 obtain ⟨x22,k22,H⟩ := be H
 refine aV tk k22.1 (aG (fun _=>rfl) k22.2) ?_
 refine ag 3 tk rfl (ac (ab (aa (ag 4 tk rfl ?_))))
 obtain ⟨x30,h30,H⟩ := cO H
 have s30 := tI (LVal.mk 0 0 []) c.op (LVal.mk 0 0 [])
 rw [h30] at s30
 refine ao Tryz.call84 (jp.r) s30 ?_
 refine ag 5 tk rfl (ac (ab (ab ?_)))
 refine gg (γ := Unit) (fun t1 g1=>⟨99,upd (upd (upd (fun _=>.any) 69 (aN t1)) 7 (.list 70 (x22.columns.map aR))) 3 (.ptr (lf c)),fun _=>none,fun _=>none⟩) H (fun _ H=>?_) (fun t1 g1 H=>?_)
 ·refine aa (ag 4 tk rfl ?_)
  refine bq rfl rfl rfl H (fun H=>?_) (fun H=>?_)
  ·refine ag 33 tk rfl (ac ?_)
   refine bd _ () H Gh.d
  refine ag 3 tk rfl (aC tk (zl _) ?_)
  refine ag 3 tk rfl ?_
  refine bq rfl rfl rfl H (fun H=>?_) (fun H=>?_)
  ·refine ag 26 tk rfl (ac ?_)
   refine bd _ () H Gh.d
  refine ag 4 tk rfl ?_
  refine bq rfl rfl rfl H (fun H=>?_) (fun H=>?_)
  ·refine ag 22 tk rfl (ac ?_)
   refine bd _ () H Gh.d
  refine ag 5 tk rfl ?_
  refine bq rfl rfl rfl H (fun H=>?_) (fun H=>?_)
  ·refine ag 17 tk rfl (ac ?_)
   refine bd _ () H Gh.d
  refine ag 3 tk rfl (aC tk (zl _) ?_)
  refine ag 3 tk rfl ?_
  refine bq rfl rfl rfl H (fun H=>?_) (fun H=>?_)
  ·refine ag 10 tk rfl (ac ?_)
   refine bd _ () H Gh.d
  refine ag 4 tk rfl ?_
  refine bq rfl rfl rfl H (fun H=>?_) (fun H=>?_)
  ·refine ag 6 tk rfl (ac ?_)
   refine bd _ () H Gh.d
  refine ag 6 tk rfl (ac ?_)
  refine bd _ () H Gh.d
 refine aM rfl H (fun H=>?_) (fun H=>?_)
 ·refine aw 1 tk rfl ?_
  exact bn tk H rfl
 refine av (ab (aw 3 tk rfl ?_))
 refine aM rfl H (fun H=>?_) (fun H=>?_)
 ·refine ab (ab (bp tk mok ⟨false,false,[]⟩ [0,1,2,3,4,5,6,7,8,9,10,11,12] rfl (by decide +kernel) rfl (aQ 3 rfl ?_)))
  obtain ⟨x76,k76,H⟩ := be H
  refine bc k76.1 (aG (fun _=>rfl) k76.2) ?_
  refine aQ 5 rfl ?_
  obtain ⟨x82,k82,H⟩ := be H
  refine bc k82.1 (aG (fun _=>rfl) k82.2) ?_
  refine aQ 3 rfl (bg ?_)
  refine aM rfl H (fun H=>?_) (fun H=>?_)
  ·refine aw 1 tk rfl ?_
   exact bn tk H rfl
  refine av (aw 1 tk rfl ?_)
  exact bn tk H rfl
 refine av (ab (ab (bp tk mok ⟨false,false,[]⟩ [0,1,2,3,4,5,6,7,8,9] rfl (by decide +kernel) rfl (aQ 6 rfl ?_))))
 obtain ⟨x92,k92,H⟩ := be H
 refine bc k92.1 (aG (fun _=>rfl) k92.2) ?_
 refine aQ 3 rfl (bg ?_)
 refine aM rfl H (fun H=>?_) (fun H=>?_)
 ·refine aw 1 tk rfl ?_
  exact bn tk H rfl
 refine av (ab (aa (ag 2 tk rfl ?_)))
 obtain ⟨x98,h98,H⟩ := cO H
 have s98 := pR c.value
 rw [h98] at s98
 refine ao Tryz.call75 (jp.r) s98 ?_
 refine ak tk rfl (ac ?_)
 exact bn tk H rfl
def eM (c : LChecker) (q : LQuery) (inA : List LCol) : Option ((List LCol) × Int) :=
 af (aK (σ := List LCol) (ρ := ((List LCol) × Int)) (fun (j1 : Nat) (x1 : LExpr) (s1 : List LCol) =>
  bC (cV inA c.vars x1) fun x31 =>
  af (aF q.names (j1 : Int)) fun (x39 : List UInt8) =>
  bC (dz x39) fun x41 =>
  cond (!x41)
   (some (.ret ([],3)))
   (cond (x31.2.2 != (0 : Int))
    (some (.ret ([],x31.2.2)))
    (cond (x31.1 == (0 : Int))
     (some (.ret ([],7)))
     (af (aF q.names (j1 : Int)) fun (x54 : List UInt8) =>
     af (dg 32 s1 ([(LCol.mk x54 x31.1 x31.2.1)] : List LCol)) fun (x60 : List LCol) =>
     some (.next x60))))) 0 q.exprs []) fun fl1=>fl1.thenR fun (s1 : List LCol) =>
 af (aK (σ := List LCol) (ρ := ((List LCol) × Int)) (fun (_ : Nat) (x2 : LAggregateCall) (s2 : List LCol) =>
  af (gr c inA x2) fun x73 =>
  cond (x73.2 != (0 : Int))
   (some (.ret ([],x73.2)))
   (af (dg 32 s2 ([(LCol.mk x2.name x73.1 (!(x2.function == ([99,111,117,110,116] : List UInt8))))] : List LCol)) fun (x88 : List LCol) =>
   some (.next x88))) 0 q.aggregates s1) fun fl2=>fl2.thenR fun (s2 : List LCol) =>
 some (s2,0)
theorem nw (c : LChecker) (q : LQuery) (inA : List LCol) (r : (List LCol) × Int) (H : eM c q inA = some r) :
  aP Tryz.prog 197 [(.agg (ek c)),(.agg (aH q)),(.list 70 (inA.map aR))] (.tup [(.list 70 (r.1.map aR)),(ap r.2)]) := by
 unfold eM at H
 refine PH.ay Tryz.func197 Tryz.ntmps197 ?_
 refine ab (aa (aI ?_))
 refine aI ?_
 refine ag 2 tk rfl (ac (aw 1 tk rfl (ab (ab (aa (ag 2 tk rfl (aC tk (zl _) ?_)))))))
 refine ak tk rfl (ac (iI tk 8 60 (e := 70) rfl rfl ?_))
 refine ft (γ := OwnRef) tk 21 20 19 (fun s1 g1=>upd (upd (upd (upd (fun _=>.any) 8 (.own 60 g1 (s1.map aR).length)) 4 (.ptr (aH q))) 3 (.ptr (ek c))) 2 (.list 70 (inA.map aR))) nB (fun s1 g1=>upd (fun _=>none) 60 (some ⟨g1,70,(s1.map aR),true⟩)) (⟨none,0⟩) H (fun fl1 Hp1 j1 s1 g1 hz1 hl1 x1 fb1 hx1 H hg1=>?_) (fun s1 g1 H=>?_)
 ·refine ab (ax (ab (aa (ak tk rfl (aV tk (zn j1) (bw bR hx1) ?_)))))
  refine ak tk rfl ?_
  refine aX tk fun b10=>?_
  refine ak tk rfl (au tk ?_)
  refine ac (ab (aa (ag 3 tk rfl (aA tk ?_))))
  obtain ⟨x31,h31,H⟩ := cO H
  have s31 := nS inA c.vars x1
  rw [h31] at s31
  refine ao Tryz.call86 (jp.r) s31 ?_
  refine ag 7 tk rfl (ac (ab (ax (ab (aa (ag 3 tk rfl ?_))))))
  obtain ⟨x39,k39,H⟩ := be H
  refine aV tk k39.1 (aG (fun _=>rfl) k39.2) ?_
  refine ak tk rfl ?_
  obtain ⟨x41,h41,H⟩ := cO H
  have s41 := mV x39
  rw [h41] at s41
  refine ao Tryz.call95 (jp.r) s41 ?_
  refine ag 2 tk rfl (ac ?_)
  refine aM rfl H (fun H=>?_) (fun H=>?_)
  ·refine aw 2 tk rfl ?_
   obtain rfl := aE H
   have e1 : fl1 = .ret _ := hg1
   subst e1
   obtain rfl := aZ Hp1
   refine bj tk rfl (ps := [(.val (.slice none 0 0)),(ap 3)]) ⟨_,_,rfl,rfl,_,_,rfl,rfl,rfl⟩ (PLe.of2 (PLe2.tup (iJ.cons (PLe2.nil tk rfl) (iJ.cons (PLe2.of_eq rfl) iJ.nil))))
  refine aw 3 tk rfl ?_
  refine aM rfl H (fun H=>?_) (fun H=>?_)
  ·refine aw 3 tk rfl ?_
   obtain rfl := aE H
   have e1 : fl1 = .ret _ := hg1
   subst e1
   obtain rfl := aZ Hp1
   refine bj tk rfl (ps := [(.val (.slice none 0 0)),(ap x31.2.2)]) ⟨_,_,rfl,rfl,_,_,rfl,rfl,rfl⟩ (PLe.of2 (PLe2.tup (iJ.cons (PLe2.nil tk rfl) (iJ.cons (PLe2.of_eq rfl) iJ.nil))))
  refine aw 3 tk rfl ?_
  refine aM rfl H (fun H=>?_) (fun H=>?_)
  ·refine aw 2 tk rfl ?_
   obtain rfl := aE H
   have e1 : fl1 = .ret _ := hg1
   subst e1
   obtain rfl := aZ Hp1
   refine bj tk rfl (ps := [(.val (.slice none 0 0)),(ap 7)]) ⟨_,_,rfl,rfl,_,_,rfl,rfl,rfl⟩ (PLe.of2 (PLe2.tup (iJ.cons (PLe2.nil tk rfl) (iJ.cons (PLe2.of_eq rfl) iJ.nil))))
  refine av (aL (aa (ag 4 tk rfl ?_)))
  obtain ⟨x54,k54,H⟩ := be H
  refine aV tk k54.1 (aG (fun _=>rfl) k54.2) ?_
  refine ag 4 tk rfl (db tk (rows' := List.map aR ([(LCol.mk x54 x31.1 x31.2.1)] : List LCol)) (it.refl _) ?_)
  obtain ⟨x60,h60,H⟩ := az H
  have k60 := cx h60
  refine cF (rows2' := List.map aR ([(LCol.mk x54 x31.1 x31.2.1)] : List LCol)) (rows' := List.map aR x60) tk rfl rfl rfl rfl rfl rfl rfl rfl rfl rfl rfl rfl rfl (it.refl _) (dK k60.1) (dJ k60.2.1) (dM k60.2.2) fun g60=>?_
  refine ak tk rfl (ac (aL (bf 2 tk rfl ?_)))
  exact bu g60 H hl1 hg1
 refine ab (ab (aa (ag 2 tk rfl (aC tk (zl _) ?_))))
 refine ak tk rfl (ac ?_)
 refine ft (γ := OwnRef) tk 65 64 63 (fun s2 g2=>upd (upd (upd (fun _=>.any) 8 (.own 60 g2 (s2.map aR).length)) 3 (.ptr (ek c))) 2 (.list 70 (inA.map aR))) nB (fun s2 g2=>upd (fun _=>none) 60 (some ⟨g2,70,(s2.map aR),true⟩)) g1 H (fun fl2 Hp2 j2 s2 g2 hz2 hl2 x2 fb2 hx2 H hg2=>?_) (fun s2 g2 H=>?_)
 ·refine ab (ax (ab (aa ?_)))
  refine aV tk (zn j2) (bw (fun _=>rfl) hx2) ?_
  refine ak tk rfl ?_
  refine aX tk fun b15=>?_
  refine au tk ?_
  refine ac (ab (aa (ag 2 tk rfl (aA tk ?_))))
  obtain ⟨x73,h73,H⟩ := az H
  have s73 := sh c inA x2 _ h73
  refine ao Tryz.call226 (jp.r) s73 ?_
  refine ag 5 tk rfl (ac (ab (aw 2 tk rfl ?_)))
  refine aM rfl H (fun H=>?_) (fun H=>?_)
  ·refine aw 3 tk rfl ?_
   obtain rfl := aE H
   have e2 : fl2 = .ret _ := hg2
   subst e2
   obtain rfl := aZ Hp2
   refine bj tk rfl (ps := [(.val (.slice none 0 0)),(ap x73.2)]) ⟨_,_,rfl,rfl,_,_,rfl,rfl,rfl⟩ (PLe.of2 (PLe2.tup (iJ.cons (PLe2.nil tk rfl) (iJ.cons (PLe2.of_eq rfl) iJ.nil))))
  refine av (aa (ag 2 tk rfl (aA tk ?_)))
  refine ag 2 tk rfl (aA tk ?_)
  refine ag 2 tk rfl ?_
  refine db tk (rows' := List.map aR ([(LCol.mk x2.name x73.1 (!(x2.function == ([99,111,117,110,116] : List UInt8))))] : List LCol)) (it.refl _) ?_
  obtain ⟨x88,h88,H⟩ := az H
  have k88 := cx h88
  refine cF (rows2' := List.map aR ([(LCol.mk x2.name x73.1 (!(x2.function == ([99,111,117,110,116] : List UInt8))))] : List LCol)) (rows' := List.map aR x88) tk rfl rfl rfl rfl rfl rfl rfl rfl rfl rfl rfl rfl rfl (it.refl _) (dK k88.1) (dJ k88.2.1) (dM k88.2.2) fun g88=>?_
  refine ak tk rfl (ac (aL (bf 2 tk rfl ?_)))
  exact bu g88 H hl2 hg2
 refine aw 3 tk rfl (cw 6 rfl rfl rfl ?_)
 exact bn tk H rfl
def fE (sA : LSchema) (inst : List LRelation) : Option (Int) :=
 cond ((inst.length : Int) != (sA.tables.length : Int))
  (some 3)
  (af (aK (σ := Unit) (ρ := (Int)) (fun (j1 : Nat) (x1 : LRelation) (_ : Unit) =>
   af (aF sA.tables (j1 : Int)) fun (x28 : LTable) =>
   cond (!(x1.table == x28.name))
    (some (.ret 3))
    (cond (decide ((x1.rows.length : Int) > (24 : Int)))
     (some (.ret 2))
     (af (aK (σ := Unit) (ρ := (Int)) (fun (j3 : Nat) (x3 : Rq) (_ : Unit) =>
      af (eA x28 x3) fun x49 =>
      cond (x49 != (0 : Int))
       (some (.ret x49))
       (cond ((j3 : Int) == (0 : Int))
        (some (.next ()))
        (af (aF x1.rows (IntKind.i64.wrap ((j3 : Int) - (1 : Int)))) fun (x60 : Rq) =>
        af (cN x28 x60) fun x62 =>
        af (cN x28 x3) fun x65 =>
        af (cS x62 x65) fun x66 =>
        cond (x66 == (0 : Int))
         (some (.ret 9))
         (cond (decide (x66 > (0 : Int)))
          (some (.ret 6))
          (some (.next ())))))) 0 x1.rows ()) fun fl3=>fl3.thenF fun (_ : Unit) =>
     some (.next ())))) 0 inst ()) fun fl1=>fl1.thenR fun (_ : Unit) =>
  some 0)
theorem nk (sA : LSchema) (inst : List LRelation) (r : Int) (H : fE sA inst = some r) :
  aP Tryz.prog 23 [(.agg (bM sA)),(.list 79 (inst.map cZ))] (ap r) := by
 unfold fE at H
 refine PH.ay Tryz.func23 Tryz.ntmps23 ?_
 refine ab (aa (aI ?_))
 refine ak tk rfl (ac (ab (ab (aa (ak tk rfl (aC tk (zl _) ?_))))))
 refine ag 2 tk rfl (aC tk (zl _) ?_)
 refine ak tk rfl (ac ?_)
 refine aM rfl H (fun H=>?_) (fun H=>?_)
 ·refine aw 1 tk rfl ?_
  exact bn tk H rfl
 refine av (ab (ab (aa (ak tk rfl (aC tk (zl _) ?_)))))
 refine ak tk rfl (ac ?_)
 refine ft tk 20 19 18 (fun s1 g1=>upd (fun _=>.any) 2 (.ptr (bM sA))) nB nO () H (fun fl1 Hp1 j1 s1 g1 hz1 hl1 x1 fb1 hx1 H hg1=>?_) (fun s1 g1 H=>?_)
 ·refine ab (ax (ab (aa (ak tk rfl ?_))))
  refine aV tk (zn j1) (bw (fun _=>rfl) hx1) ?_
  refine ak tk rfl ?_
  refine aX tk fun b6=>?_
  refine ak tk rfl (au tk ?_)
  refine ac (ab (aa (ag 3 tk rfl ?_)))
  obtain ⟨x28,k28,H⟩ := be H
  refine aV tk k28.1 (aG (fun _=>rfl) k28.2) ?_
  refine ak tk rfl ?_
  refine aX tk fun b7=>?_
  refine au tk ?_
  refine ac (ab (ab (aa (ak tk rfl (aA tk ?_)))))
  refine ak tk rfl (aA tk ?_)
  refine ak tk rfl (ac ?_)
  refine aM rfl H (fun H=>?_) (fun H=>?_)
  ·refine aw 1 tk rfl ?_
   obtain rfl := aE H
   have e1 : fl1 = .ret _ := hg1
   subst e1
   obtain rfl := aZ Hp1
   refine bj tk rfl (ps := [(ap 3)]) ⟨_,_,rfl,rfl,rfl⟩ (PLe.q rfl)
  refine av (ab (ab (aa (ak tk rfl (aA tk ?_)))))
  refine aC tk (zl _) ?_
  refine ak tk rfl (ac ?_)
  refine aM rfl H (fun H=>?_) (fun H=>?_)
  ·refine aw 1 tk rfl ?_
   obtain rfl := aE H
   have e1 : fl1 = .ret _ := hg1
   subst e1
   obtain rfl := aZ Hp1
   refine bj tk rfl (ps := [(ap 2)]) ⟨_,_,rfl,rfl,rfl⟩ (PLe.q rfl)
  refine av (ab (aa (ak tk rfl (aA tk ?_))))
  refine aC tk (zl _) ?_
  refine ak tk rfl (ac ?_)
  obtain ⟨fl3,H3,Hp3⟩ := az H
  refine gz tk 40 rfl rfl (fun hz3 _=>?_)
  rw [zl] at hz3
  refine eZ (τ := Unit) (γ := Unit) (fun s3 g3=>⟨75,upd (upd (upd (upd (fun _=>.any) 20 (ap (j1 : Int))) 19 (ap (inst.length : Int))) 18 (.list 79 (inst.map cZ))) 2 (.ptr (bM sA)),fun _=>none,fun _=>none⟩) (fun t=>fl3 = .next t) ?_ (fun s3 g3 hn3=>?_)
  ·refine ax ?_
   refine ix (fun j3 s3 g3=>⟨75,upd (upd (upd (upd (upd (upd (upd (upd (upd (fun _=>.any) 42 (ap (j3 : Int))) 41 (ap (x1.rows.length : Int))) 40 (.list 77 (x1.rows.map (aq 75 ae)))) 20 (ap (j1 : Int))) 19 (ap (inst.length : Int))) 18 (.list 79 (inst.map cZ))) 7 (.box 7 b7 0)) 6 (.box 6 b6 0)) 2 (.ptr (bM sA)),upd (upd (fun _=>none) 7 (some ⟨b7,(cd x28)⟩)) 6 (some ⟨b6,(cZ x1)⟩),fun _=>none⟩) () H3 Gh.d (fun j3 s3 g3 hj3 hr3=>?_)
   refine aw 1 tk rfl (ab ?_)
   refine bA rfl (fun h=>?_) (fun h=>?_)
   ·have hl3 := mG h
    obtain ⟨x3,fb3,hx3,H,hg3⟩ := rMc hl3 hr3
    refine av (ab (ax (ab (aa (ak tk rfl ?_)))))
    refine aV tk (zn j3) (bw (fun _=>rfl) hx3) ?_
    refine ag 3 tk rfl (ac (ab (ab (aa (aA tk ?_)))))
    refine ak tk rfl ?_
    obtain ⟨x49,h49,H⟩ := az H
    have s49 := qB x28 x3 _ h49
    refine ao Tryz.call49 (jp.r) s49 ?_
    refine ak tk rfl (ac (aw 2 tk rfl ?_))
    refine aM rfl H (fun H=>?_) (fun H=>?_)
    ·refine aw 2 tk rfl ?_
     obtain rfl := aE H
     have e3 : fl3 = .ret _ := hg3
     subst e3
     have q3 := lk Hp3
     subst q3
     have e1 : fl1 = .ret _ := hg1
     subst e1
     obtain rfl := aZ Hp1
     refine bj tk rfl (ps := [(ap x49)]) ⟨_,_,rfl,rfl,rfl⟩ (PLe.q rfl)
    refine av (ab (aw 2 tk rfl ?_))
    refine aM rfl H (fun H=>?_) (fun H=>?_)
    ·refine br rfl (bf 2 tk rfl ?_)
     exact bu () H hl3 hg3
    refine av (ab (bp tk mok ⟨true,false,[61]⟩ [0,1,2,3,4,5,6,8,9,7,10,11,12] rfl (by decide +kernel) rfl (ci ?_)))
    refine bK rfl (ci ?_)
    refine aQ 2 rfl ?_
    obtain ⟨x60,k60,H⟩ := be H
    refine bc k60.1 (aG (fun _=>rfl) k60.2) ?_
    refine bK rfl (ci ?_)
    refine bK rfl ?_
    obtain ⟨x62,h62,H⟩ := az H
    have s62 := qH x28 x60 _ h62
    refine aY Tryz.call51 (jp.r) s62 ?_
    obtain ⟨x65,h65,H⟩ := az H
    have s65 := qH x28 x3 _ h65
    refine aY Tryz.call51 (jp.r) s65 ?_
    obtain ⟨x66,h66,H⟩ := az H
    have s66 := rY x62 x65 _ h66
    refine aY Tryz.call50 (jp.r) s66 ?_
    refine bK rfl (bg (ax (aw 3 tk rfl ?_)))
    refine aM rfl H (fun H=>?_) (fun H=>?_)
    ·refine aw 1 tk rfl ?_
     obtain rfl := aE H
     have e3 : fl3 = .ret _ := hg3
     subst e3
     have q3 := lk Hp3
     subst q3
     have e1 : fl1 = .ret _ := hg1
     subst e1
     obtain rfl := aZ Hp1
     refine bj tk rfl (ps := [(ap 9)]) ⟨_,_,rfl,rfl,rfl⟩ (PLe.q rfl)
    refine aw 3 tk rfl ?_
    refine aM rfl H (fun H=>?_) (fun H=>?_)
    ·refine aw 1 tk rfl ?_
     obtain rfl := aE H
     have e3 : fl3 = .ret _ := hg3
     subst e3
     have q3 := lk Hp3
     subst q3
     have e1 : fl1 = .ret _ := hg1
     subst e1
     obtain rfl := aZ Hp1
     refine bj tk rfl (ps := [(ap 6)]) ⟨_,_,rfl,rfl,rfl⟩ (PLe.q rfl)
    refine av (aL (aL (bf 2 tk rfl ?_)))
    exact bu () H hl3 hg3
   have hn3 := rMd (nf h) hr3
   refine br rfl ?_
   refine bd s3 g3 hn3 Gh.d
  have H := rn hn3 Hp3
  refine aL (bf 2 tk rfl ?_)
  exact bu () H hl1 hg1
 refine aw 1 tk rfl ?_
 exact bn tk H rfl
def iE (x : Rq) (c0 : LRun) (c1 : List LCol) (c2 : LQuery) : Option (Bool) :=
 af (aF c2.exprs 0) fun (x12 : LExpr) =>
 bC (aW c0 c1 x) fun x9 =>
 bC (bP x9 x12) fun x14 =>
 bC (dD x14) fun x15 =>
 some (!x15)
theorem so (x : Rq) (c0 : LRun) (c1 : List LCol) (c2 : LQuery) (r : Bool) (H : iE x c0 c1 c2 = some r) :
  aP Tryz.prog 119 [(.list 75 (x.map ae)),(.ptr (dS c0)),(.ptr [(.list 70 (c1.map aR))]),(.ptr (aH c2))] (aN r) := by
 unfold iE at H
 refine PH.ay Tryz.func119 Tryz.ntmps119 ?_
 refine aw 1 tk rfl (ab (bp tk mok ⟨false,false,[]⟩ [0,1,2,4,5,6,7,3,8,9,10,11] rfl (by decide +kernel) rfl (aQ 5 rfl ?_)))
 obtain ⟨x12,k12,H⟩ := be H
 refine bc k12.1 (aG bR k12.2) ?_
 refine bK rfl ?_
 obtain ⟨x9,h9,H⟩ := cO H
 have s9 := kZ c0 c1 x
 rw [h9] at s9
 refine aY Tryz.call121 (jp.r) s9 ?_
 obtain ⟨x14,h14,H⟩ := cO H
 have s14 := nZ x9 x12
 rw [h14] at s14
 refine aY Tryz.call120 (jp.r) s14 ?_
 obtain ⟨x15,h15,H⟩ := cO H
 have s15 := isTS x14
 rw [h15] at s15
 refine aY Tryz.call52 (jp.r) s15 ?_
 refine aQ 2 rfl (bg ?_)
 exact bn tk H rfl
def dC (rA : LRun) (cols : List LCol) (x : Rq) (l : List LExpr) : Option (Rq) :=
 af (aK (σ := Rq) (ρ := Empty) (fun (_ : Nat) (x1 : LExpr) (s1 : Rq) =>
  bC (aW rA cols x) fun x22 =>
  bC (bP x22 x1) fun x24 =>
  af (dg 32 s1 ([x24] : Rq)) fun (x26 : Rq) =>
  some (.next x26)) 0 l []) fun fl1=>fl1.thenP fun (s1 : Rq) =>
 some s1
theorem kd (rA : LRun) (cols : List LCol) (x : Rq) (l : List LExpr) (r : Rq) (H : dC rA cols x l = some r) :
  aP Tryz.prog 122 [(.agg (dS rA)),(.list 70 (cols.map aR)),(.list 75 (x.map ae)),(.list 92 (l.map bE))] (.list 75 (r.map ae)) := by
 unfold dC at H
 refine PH.ay Tryz.func122 Tryz.ntmps122 ?_
 refine ab (aa (aI ?_))
 refine ak tk rfl (ac (aw 1 tk rfl (ab (ab (aa (ak tk rfl (aC tk (zl _) ?_)))))))
 refine ak tk rfl (ac (iI tk 9 26 (e := 75) rfl rfl ?_))
 refine gP (γ := OwnRef) tk 14 13 12 (fun s1 g1=>upd (upd (upd (upd (fun _=>.any) 9 (.own 26 g1 (s1.map ae).length)) 4 (.ptr (dS rA))) 2 (.list 75 (x.map ae))) 1 (.list 70 (cols.map aR))) nB (fun s1 g1=>upd (fun _=>none) 26 (some ⟨g1,75,(s1.map ae),true⟩)) (⟨none,0⟩) H (fun fl1 Hp1 j1 s1 g1 hz1 hl1 x1 fb1 hx1 H hg1=>?_) (fun s1 g1 H=>?_)
 ·refine ab (ax (ab (aa (aV tk (zn j1) (bw bR hx1) ?_))))
  refine ak tk rfl ?_
  refine aX tk fun b11=>?_
  refine au tk ?_
  refine ac (bp tk mok ⟨true,false,[19]⟩ [0,1,2,3,5,4,6,7,8,9] rfl (by decide +kernel) rfl (aQ 4 rfl (ci ?_)))
  obtain ⟨x22,h22,H⟩ := cO H
  have s22 := kZ rA cols x
  rw [h22] at s22
  refine aY Tryz.call121 (jp.r) s22 ?_
  obtain ⟨x24,h24,H⟩ := cO H
  have s24 := nZ x22 x1
  rw [h24] at s24
  refine aY Tryz.call120 (jp.r) s24 ?_
  refine bK rfl ?_
  obtain ⟨x26,h26,H⟩ := az H
  have k26 := cx h26
  refine kA (rows2' := List.map ae ([x24] : Rq)) (rows' := List.map ae x26) tk rfl rfl rfl rfl rfl rfl rfl rfl rfl rfl rfl rfl rfl rfl (it.refl _) (dK k26.1) (dJ k26.2.1) (dM k26.2.2) fun g26=>?_
  refine bK rfl (bg (aL (bf 2 tk rfl ?_)))
  exact bu g26 H hl1 hg1
 refine aw 2 tk rfl (cw 8 rfl rfl rfl ?_)
 exact bn tk H rfl
def jO (rA : LRun) (a : LAggregateCall) (cols : List LCol) (l : Rz) : Option (LVal) :=
 cond ((a.args.length : Int) == (0 : Int))
  (bC (fZ (l.length : Int)) fun x19 =>
  some x19)
  (af (aK (σ := Rq) (ρ := Empty) (fun (_ : Nat) (x1 : Rq) (s1 : Rq) =>
   af (aF a.args 0) fun (x32 : LExpr) =>
   bC (aW rA cols x1) fun x29 =>
   bC (bP x29 x32) fun x34 =>
   cond (x34.kind != (0 : Int))
    (af (dg 32 s1 ([x34] : Rq)) fun (x41 : Rq) =>
    some (.next x41))
    (some (.next s1))) 0 l []) fun fl1=>fl1.thenP fun (s1 : Rq) =>
  af (fO a.function s1) fun x46 =>
  some x46)
theorem uC (rA : LRun) (a : LAggregateCall) (cols : List LCol) (l : Rz) (r : LVal) (H : jO rA a cols l = some r) :
  aP Tryz.prog 172 [(.agg (dS rA)),(.agg (lg a)),(.list 70 (cols.map aR)),(.list 77 (l.map (aq 75 ae)))] (.agg (ae r)) := by
 unfold jO at H
 refine PH.ay Tryz.func172 Tryz.ntmps172 ?_
 refine ab (aa (aI ?_))
 refine aI ?_
 refine aX tk fun b8=>?_
 refine ac (ab (ab (aa (ag 2 tk rfl (aC tk (zl _) ?_)))))
 refine ak tk rfl (ac ?_)
 refine aM rfl H (fun H=>?_) (fun H=>?_)
 ·refine ab (aa (ak tk rfl (aC tk (zl _) ?_)))
  obtain ⟨x19,h19,H⟩ := cO H
  have s19 := rK (l.length : Int)
  rw [h19] at s19
  refine ao Tryz.call192 (jp.r) s19 ?_
  refine au tk ?_
  refine ac ?_
  exact iM tk H rfl rfl rfl rfl rfl
 refine av (aw 1 tk rfl (ab (ab (aa (ak tk rfl (aC tk (zl _) ?_))))))
 refine ak tk rfl (ac (iI tk 9 41 (e := 75) rfl rfl ?_))
 refine gP (γ := OwnRef) tk 22 21 20 (fun s1 g1=>upd (upd (upd (upd (upd (fun _=>.any) 9 (.own 41 g1 (s1.map ae).length)) 8 (.box 8 b8 0)) 5 (.ptr (lg a))) 4 (.ptr (dS rA))) 2 (.list 70 (cols.map aR))) (fun s1 g1=>upd (fun _=>none) 8 (some ⟨b8,[(ap 0),(ap 0),(.str [])]⟩)) (fun s1 g1=>upd (fun _=>none) 41 (some ⟨g1,75,(s1.map ae),true⟩)) (⟨none,0⟩) H (fun fl1 Hp1 j1 s1 g1 hz1 hl1 x1 fb1 hx1 H hg1=>?_) (fun s1 g1 H=>?_)
 ·refine ab (ax (ab (aa ?_)))
  refine aV tk (zn j1) (bw (fun _=>rfl) hx1) ?_
  refine ag 2 tk rfl (ac (ab (bp tk mok ⟨false,false,[]⟩ [0,1,2,4,5,6,7,3,8,9,10] rfl (by decide +kernel) rfl (aQ 5 rfl ?_))))
  obtain ⟨x32,k32,H⟩ := be H
  refine bc k32.1 (aG bR k32.2) ?_
  refine bK rfl ?_
  obtain ⟨x29,h29,H⟩ := cO H
  have s29 := kZ rA cols x1
  rw [h29] at s29
  refine aY Tryz.call121 (jp.r) s29 ?_
  obtain ⟨x34,h34,H⟩ := cO H
  have s34 := nZ x29 x32
  rw [h34] at s34
  refine aY Tryz.call120 (jp.r) s34 ?_
  refine nI rfl rfl rfl rfl rfl rfl rfl rfl fun b12=>?_
  refine ce ?_
  refine bg (ab (aa (ak tk rfl (aA tk ?_))))
  refine ak tk rfl (ac ?_)
  refine aM rfl H (fun H=>?_) (fun H=>?_)
  ·refine aa (ak tk rfl (aA tk ?_))
   refine db tk (rows' := List.map ae ([x34] : Rq)) (it.refl _) ?_
   obtain ⟨x41,h41,H⟩ := az H
   have k41 := cx h41
   refine cF (rows2' := List.map ae ([x34] : Rq)) (rows' := List.map ae x41) tk rfl rfl rfl rfl rfl rfl rfl rfl rfl rfl rfl rfl rfl (it.refl _) (dK k41.1) (dJ k41.2.1) (dM k41.2.2) fun g41=>?_
   refine ak tk rfl (ac (aL (bf 2 tk rfl ?_)))
   exact bu g41 H hl1 hg1
  refine av (aL (bf 2 tk rfl ?_))
  exact bu g1 H hl1 hg1
 refine ab (cw 9 rfl rfl rfl (aa (ag 3 tk rfl ?_)))
 obtain ⟨x46,h46,H⟩ := az H
 have s46 := pF a.function s1 _ h46
 refine ao Tryz.call204 (jp.r) s46 ?_
 refine au tk ?_
 refine ac ?_
 exact iM tk H rfl rfl rfl rfl rfl
def cM (x : Rz) (cmp : Rq → Rq → Option (Int)) : Option (Rz) :=
 af (ep x (x.length : Int) cmp) fun x8 =>
 af (fm (x8.length = x.length) ()) fun (_ : Unit) =>
 some x8
theorem kF (g_x : OwnRef) {g_cmp : FuncId} {caps_cmp : List PV} (x : Rz) (cmp : Rq → Rq → Option (Int)) (hg_cmp : ∀ (vs : Array Value) (w : World),(callFunc g_cmp vs).run Tryz.prog w = .ok (.enter g_cmp vs) w) (hp_cmp : ∀ a0 a1 r,cmp a0 a1 = some r → aP Tryz.prog g_cmp ((.list 75 (a0.map ae)) :: (.list 75 (a1.map ae)) :: caps_cmp) (ap r)) (r : Rz) (H : cM x cmp = some r) :
  PH Tryz.prog 173 [(.own 0 g_x (x.map (aq 75 ae)).length),(.fn g_cmp caps_cmp)] ⟨fun _=>none,upd (fun _=>none) 0 (some ⟨g_x,77,(x.map (aq 75 ae)),true⟩)⟩ (fun u H=>u = (.tup []) ∧ H = ⟨fun _=>none,upd (fun _=>none) 0 (some ⟨g_x,77,(r.map (aq 75 ae)),true⟩)⟩) := by
 unfold cM at H
 refine PH.ay Tryz.func173 Tryz.ntmps173 ?_
 refine aa (ag 2 tk rfl (kH tk (zl _) ?_))
 refine ak tk rfl ?_
 obtain ⟨x8,h8,H⟩ := az H
 have s8 := mP g_x x (x.length : Int) cmp hg_cmp hp_cmp _ h8
 obtain ⟨_,q8_0,H⟩ := az H
 have l8_0 := (dH q8_0).1
 have z8_0 : (List.map (aq 75 ae) x).length = (List.map (aq 75 ae) x8).length := by simpa using (l8_0).symm
 refine eK (g := 205) rfl rfl rfl Tryz.call205 [] [(0,0)] rfl rfl rfl rfl (jp.of2 (iJ.cons (PLe2.own rfl) (iJ.cons (PLe2.of_eq rfl) (iJ.cons (PLe2.of_eq rfl) iJ.nil)))) (by rw [dX,dv,dY]; rfl) s8 ?_
 rintro u8 H8h ⟨rfl,rfl⟩
 refine ⟨_,rfl,?_⟩
 refine ef (st' := ⟨_,_,fun _=>none,upd (fun _=>none) 0 (some ⟨g_x,77,(x8.map (aq 75 ae)),true⟩)⟩) (Gh.le (dp _ _) aT (bI aS)) ?_
 refine ac ?_
 obtain rfl := aE H
 refine iy (st' := ⟨9,fun _=>.any,fun _=>none,upd (fun _=>none) 0 (some ⟨g_x,77,(x8.map (aq 75 ae)),true⟩)⟩) (Gh.le bt aT (bI aS)) ?_
 refine mL rfl (PLe.q rfl) ⟨rfl,rfl⟩
def fF (sA : LSchema) (q : LQuery) (condA : LExpr) : Option (Bool) :=
 af (fh (σ := LQuery) (ρ := Empty) (fun (s1 : LQuery) =>
  cond (s1.kind == (2 : Int))
   (cond ((s1.inputs.length : Int) == (1 : Int))
    (af (aF s1.inputs 0) fun (x22 : LQuery) =>
    some (.next x22))
    (some (.brk s1)))
   (some (.brk s1))) q) fun fl1=>fl1.thenP fun (s1 : LQuery) =>
 cond (s1.kind != (1 : Int))
  (some false)
  (af (aK (σ := Unit) (ρ := (Bool)) (fun (_ : Nat) (x2 : LTable) (_ : Unit) =>
   cond (!(x2.name == s1.table))
    (some (.next ()))
    (af (aK (σ := Unit) (ρ := (Bool)) (fun (_ : Nat) (x4 : Int) (_ : Unit) =>
     cond (decide (x4 < (0 : Int)))
      (some (.ret false))
      (cond (decide (x4 ≥ (x2.columns.length : Int)))
       (some (.ret false))
       (af (aF x2.columns x4) fun (x60 : LCol) =>
       af (eI x2 x60.name condA) fun x64 =>
       cond (!x64)
        (some (.ret false))
        (some (.next ()))))) 0 x2.primaryKey ()) fun fl4=>fl4.thenF fun (_ : Unit) =>
    some (.ret true))) 0 sA.tables ()) fun fl2=>fl2.thenR fun (_ : Unit) =>
  some false)
theorem kV (sA : LSchema) (q : LQuery) (condA : LExpr) (r : Bool) (H : fF sA q condA = some r) :
  aP Tryz.prog 53 [(.agg (bM sA)),(.agg (aH q)),(.agg (cu condA))] (aN r) := by
 unfold fF at H
 refine PH.ay Tryz.func53 Tryz.ntmps53 ?_
 refine ab (aa (aI ?_))
 refine Ao.box (d := 4) rfl rfl rfl rfl rfl fun b4=>?_
 refine aI ?_
 refine ak tk rfl (ac (ab ?_))
 obtain ⟨fl1,H1,Hp1⟩ := az H
 refine eZ (τ := LQuery) (γ := Unit) (fun s1 g1=>⟨69,upd (upd (upd (fun _=>.any) 5 (.ptr (cu condA))) 4 (.box 4 b4 0)) 3 (.ptr (bM sA)),upd (fun _=>none) 4 (some ⟨b4,(aH s1)⟩),fun _=>none⟩) (fun t=>fl1 = .next t) ?_ (fun s1 g1 hn1=>?_)
 ·refine ax ?_
  refine gC (fun s1 g1=>⟨69,upd (upd (upd (fun _=>.any) 5 (.ptr (cu condA))) 4 (.box 4 b4 0)) 3 (.ptr (bM sA)),upd (fun _=>none) 4 (some ⟨b4,(aH s1)⟩),fun _=>none⟩) () H1 Gh.d (fun m1 s1 g1 hr1=>?_)
  obtain ⟨fb1,H,hg1⟩ := ff hr1
  refine ab (ab (aa (ak tk rfl (aA tk ?_))))
  refine ag 2 tk rfl ?_
  refine bq rfl rfl rfl H (fun H=>?_) (fun H=>?_)
  ·refine ak tk rfl (aA tk ?_)
   refine aC tk (zl _) ?_
   refine ag 2 tk rfl (ac ?_)
   refine aM rfl H (fun H=>?_) (fun H=>?_)
   ·refine av (ax (aa (ak tk rfl (aA tk ?_))))
    obtain ⟨x22,k22,H⟩ := be H
    refine aV tk k22.1 (aG bN k22.2) ?_
    refine ak tk rfl (au tk ?_)
    refine ac (aL ?_)
    obtain rfl := aE H
    refine eg x22 () hg1 Gh.d
   refine br rfl ?_
   obtain rfl := aE H
   refine bd s1 () hg1 Gh.d
  refine ag 5 tk rfl (ac (bD rfl (br rfl ?_)))
  obtain rfl := aE H
  refine bd s1 () hg1 Gh.d
 have H := dw hn1 Hp1
 refine ab (ab (aa (ak tk rfl (aA tk ?_))))
 refine ak tk rfl (ac ?_)
 refine aM rfl H (fun H=>?_) (fun H=>?_)
 ·refine aw 1 tk rfl ?_
  exact bn tk H rfl
 refine av (ab (ab (aa (ag 2 tk rfl (aC tk (zl _) ?_)))))
 refine ak tk rfl (ac ?_)
 obtain ⟨fl2,H2,Hp2⟩ := az H
 refine gz tk 28 rfl rfl (fun hz2 _=>?_)
 rw [zl] at hz2
 refine eZ (τ := Unit) (γ := Unit) (fun s2 g2=>⟨69,upd (fun _=>.any) 5 (.ptr (cu condA)),fun _=>none,fun _=>none⟩) (fun t=>fl2 = .next t) ?_ (fun s2 g2 hn2=>?_)
 ·refine ax ?_
  refine ix (fun j2 s2 g2=>⟨69,upd (upd (upd (upd (upd (fun _=>.any) 30 (ap (j2 : Int))) 29 (ap (sA.tables.length : Int))) 28 (.list 73 (sA.tables.map cd))) 5 (.ptr (cu condA))) 4 (.box 4 b4 0),upd (fun _=>none) 4 (some ⟨b4,(aH s1)⟩),fun _=>none⟩) () H2 Gh.d (fun j2 s2 g2 hj2 hr2=>?_)
  refine aw 1 tk rfl (ab ?_)
  refine bA rfl (fun h=>?_) (fun h=>?_)
  ·have hl2 := mG h
   obtain ⟨x2,fb2,hx2,H,hg2⟩ := rMc hl2 hr2
   refine av (ab (ax (ab (aa ?_))))
   refine aV tk (zn j2) (bw (fun _=>rfl) hx2) ?_
   refine ak tk rfl ?_
   refine aX tk fun b8=>?_
   refine au tk ?_
   refine ac (ab (ab (aa (ak tk rfl (aA tk ?_)))))
   refine ak tk rfl (aA tk ?_)
   refine ak tk rfl (ac ?_)
   refine aM rfl H (fun H=>?_) (fun H=>?_)
   ·refine br rfl (bf 2 tk rfl ?_)
    exact bu () H hl2 hg2
   refine av (ab (ab (aa (ak tk rfl (aA tk ?_)))))
   refine aC tk (zl _) ?_
   refine ak tk rfl (ac ?_)
   obtain ⟨fl4,H4,Hp4⟩ := az H
   refine gz tk 40 rfl rfl (fun hz4 _=>?_)
   rw [zl] at hz4
   refine eZ (τ := Unit) (γ := Unit) (fun s4 g4=>⟨69,upd (fun _=>.any) 5 (.ptr (cu condA)),fun _=>none,fun _=>none⟩) (fun t=>fl4 = .next t) ?_ (fun s4 g4 hn4=>?_)
   ·refine ax ?_
    refine ix (fun j4 s4 g4=>⟨69,upd (upd (upd (upd (upd (fun _=>.any) 42 (ap (j4 : Int))) 41 (ap (x2.primaryKey.length : Int))) 40 (.list 3 (x2.primaryKey.map bT))) 8 (.box 8 b8 0)) 5 (.ptr (cu condA)),upd (fun _=>none) 8 (some ⟨b8,(cd x2)⟩),fun _=>none⟩) () H4 Gh.d (fun j4 s4 g4 hj4 hr4=>?_)
    refine aw 1 tk rfl (ab ?_)
    refine bA rfl (fun h=>?_) (fun h=>?_)
    ·have hl4 := mG h
     obtain ⟨x4,fb4,hx4,H,hg4⟩ := rMc hl4 hr4
     refine av (ab (ax (ab (aa ?_))))
     refine aV tk (zn j4) (bw (fun _=>rfl) hx4) ?_
     refine ag 2 tk rfl (ac (ab (bp tk mok ⟨true,false,[62,63]⟩ [0,1,2,3,4,5,6,7,8,9,10,11,12,13,14,15,16,17,18,19,20] rfl (by decide +kernel) rfl (aQ 3 rfl ?_))))
     refine lM H (fun H=>?_) (fun H=>?_)
     ·refine aQ 18 rfl (bg (bW rfl (aw 1 tk rfl ?_)))
      obtain rfl := aE H
      have e4 : fl4 = .ret _ := hg4
      subst e4
      have q4 := lk Hp4
      subst q4
      have e2 : fl2 = .ret _ := hg2
      subst e2
      obtain rfl := aZ Hp2
      refine bj tk rfl (ps := [(aN false)]) ⟨_,_,rfl,rfl,rfl⟩ (PLe.q rfl)
     refine aQ 2 rfl (ci ?_)
     refine uF rfl rfl rfl rfl rfl rfl (zl _) rfl (aQ 3 rfl ?_)
     refine lM H (fun H=>?_) (fun H=>?_)
     ·refine aQ 11 rfl (bg (bW rfl (aw 1 tk rfl ?_)))
      obtain rfl := aE H
      have e4 : fl4 = .ret _ := hg4
      subst e4
      have q4 := lk Hp4
      subst q4
      have e2 : fl2 = .ret _ := hg2
      subst e2
      obtain rfl := aZ Hp2
      refine bj tk rfl (ps := [(aN false)]) ⟨_,_,rfl,rfl,rfl⟩ (PLe.q rfl)
     refine ci ?_
     refine bK rfl (ci ?_)
     refine bK rfl ?_
     obtain ⟨x60,k60,H⟩ := be H
     refine bc k60.1 (aG (fun _=>rfl) k60.2) ?_
     refine aQ 3 rfl ?_
     obtain ⟨x64,h64,H⟩ := az H
     have s64 := pB x2 x60.name condA _ h64
     refine aY Tryz.call78 (jp.r) s64 ?_
     refine aQ 2 rfl (bg ?_)
     refine aM rfl H (fun H=>?_) (fun H=>?_)
     ·refine aw 1 tk rfl ?_
      obtain rfl := aE H
      have e4 : fl4 = .ret _ := hg4
      subst e4
      have q4 := lk Hp4
      subst q4
      have e2 : fl2 = .ret _ := hg2
      subst e2
      obtain rfl := aZ Hp2
      refine bj tk rfl (ps := [(aN false)]) ⟨_,_,rfl,rfl,rfl⟩ (PLe.q rfl)
     refine av (aL (bf 2 tk rfl ?_))
     exact bu () H hl4 hg4
    have hn4 := rMd (nf h) hr4
    refine br rfl ?_
    refine bd s4 g4 hn4 Gh.d
   have H := rn hn4 Hp4
   refine aw 1 tk rfl ?_
   obtain rfl := aE H
   have e2 : fl2 = .ret _ := hg2
   subst e2
   obtain rfl := aZ Hp2
   refine bj tk rfl (ps := [(aN true)]) ⟨_,_,rfl,rfl,rfl⟩ (PLe.q rfl)
  have hn2 := rMd (nf h) hr2
  refine br rfl ?_
  refine bd s2 g2 hn2 Gh.d
 have H := oQ hn2 Hp2
 refine aw 1 tk rfl ?_
 exact bn tk H rfl
def iV (sA : LSchema) : Option (Int) :=
 bC (
  cond (decide ((sA.tables.length : Int) > (6 : Int)))
   (true)
   (cond (decide ((sA.foreignKeys.length : Int) > (8 : Int)))
    (true)
    ((decide ((sA.constraints.length : Int) > (8 : Int)))))) fun (t1 : Bool) =>
 cond t1
  (some 2)
  (af (aK (σ := Unit) (ρ := (Int)) (fun (j2 : Nat) (x2 : LTable) (_ : Unit) =>
   af (fB x2) fun x37 =>
   cond (x37 != (0 : Int))
    (some (.ret x37))
    (cond (decide ((j2 : Int) > (0 : Int)))
     (af (aF sA.tables (IntKind.i64.wrap ((j2 : Int) - (1 : Int)))) fun (x50 : LTable) =>
     cond (Op.bytesLess x2.name x50.name || x2.name == x50.name)
      (some (.ret 6))
      (some (.next ())))
     (some (.next ())))) 0 sA.tables ()) fun fl2=>fl2.thenR fun (_ : Unit) =>
  af (aK (σ := Unit) (ρ := (Int)) (fun (j3 : Nat) (x3 : LForeignKey) (_ : Unit) =>
   af (eU sA x3) fun x66 =>
   cond (x66 != (0 : Int))
    (some (.ret x66))
    (af (oF sA.foreignKeys 0 (j3 : Int)) fun (x73 : List LForeignKey) =>
    af (bY x73 (fun a0=>gn a0 x3)) fun x75 =>
    cond x75
     (some (.ret 5))
     (some (.next ())))) 0 sA.foreignKeys ()) fun fl3=>fl3.thenR fun (_ : Unit) =>
  af (aK (σ := Unit) (ρ := (Int)) (fun (j4 : Nat) (x4 : LConstraint) (_ : Unit) =>
   af (eS sA x4) fun x87 =>
   cond (x87 != (0 : Int))
    (some (.ret x87))
    (af (oF sA.constraints 0 (j4 : Int)) fun (x94 : List LConstraint) =>
    af (cg x94 x4) fun x96 =>
    cond x96
     (some (.ret 5))
     (some (.next ())))) 0 sA.constraints ()) fun fl4=>fl4.thenR fun (_ : Unit) =>
  some 0)
theorem tE (sA : LSchema) (r : Int) (H : iV sA = some r) :
  aP Tryz.prog 29 [(.agg (bM sA))] (ap r) := by
 unfold iV at H
 refine PH.ay Tryz.func29 Tryz.ntmps29 ?_
 refine ab (aa (aI ?_))
 refine ak tk rfl (ac (ab (ab ?_)))
 refine gg (γ := Unit) (fun t1 g1=>⟨98,upd (upd (fun _=>.any) 27 (aN t1)) 1 (.ptr (bM sA)),fun _=>none,fun _=>none⟩) H (fun _ H=>?_) (fun t1 g1 H=>?_)
 ·refine aa (ag 2 tk rfl (aC tk (zl _) ?_))
  refine ag 2 tk rfl ?_
  refine bq rfl rfl rfl H (fun H=>?_) (fun H=>?_)
  ·refine ag 11 tk rfl (ac ?_)
   refine bd _ () H Gh.d
  refine ag 2 tk rfl (aC tk (zl _) ?_)
  refine ag 3 tk rfl ?_
  refine bq rfl rfl rfl H (fun H=>?_) (fun H=>?_)
  ·refine ag 5 tk rfl (ac ?_)
   refine bd _ () H Gh.d
  refine ag 2 tk rfl (aC tk (zl _) ?_)
  refine ag 2 tk rfl (ac ?_)
  refine bd _ () H Gh.d
 refine aM rfl H (fun H=>?_) (fun H=>?_)
 ·refine aw 1 tk rfl ?_
  exact bn tk H rfl
 refine av (ab (ab (aa (ag 2 tk rfl (aC tk (zl _) ?_)))))
 refine ak tk rfl (ac ?_)
 refine ft tk 31 30 29 (fun s2 g2=>upd (fun _=>.any) 1 (.ptr (bM sA))) nB nO () H (fun fl2 Hp2 j2 s2 g2 hz2 hl2 x2 fb2 hx2 H hg2=>?_) (fun s2 g2 H=>?_)
 ·refine ab (ax (ab (aa (ak tk rfl ?_))))
  refine aV tk (zn j2) (bw (fun _=>rfl) hx2) ?_
  refine ak tk rfl ?_
  refine aX tk fun b4=>?_
  refine ak tk rfl (au tk ?_)
  refine ac (ab (ab (aa (aA tk ?_))))
  obtain ⟨x37,h37,H⟩ := az H
  have s37 := qy x2 _ h37
  refine ao Tryz.call54 (jp.r) s37 ?_
  refine ak tk rfl (ac (aw 2 tk rfl ?_))
  refine aM rfl H (fun H=>?_) (fun H=>?_)
  ·refine aw 2 tk rfl ?_
   obtain rfl := aE H
   have e2 : fl2 = .ret _ := hg2
   subst e2
   obtain rfl := aZ Hp2
   refine bj tk rfl (ps := [(ap x37)]) ⟨_,_,rfl,rfl,rfl⟩ (PLe.q rfl)
  refine av (ab (bp tk mok ⟨true,false,[47,52]⟩ [0,1,2,3,4,5,6,7,8,9,10,11,12,13] rfl (by decide +kernel) rfl (aQ 3 rfl ?_)))
  refine lM H (fun H=>?_) (fun H=>?_)
  ·refine bK rfl (ci ?_)
   refine aQ 4 rfl ?_
   obtain ⟨x50,k50,H⟩ := be H
   refine bc k50.1 (aG (fun _=>rfl) k50.2) ?_
   refine aQ 4 rfl (bg ?_)
   refine aM rfl H (fun H=>?_) (fun H=>?_)
   ·refine aw 1 tk rfl ?_
    obtain rfl := aE H
    have e2 : fl2 = .ret _ := hg2
    subst e2
    obtain rfl := aZ Hp2
    refine bj tk rfl (ps := [(ap 6)]) ⟨_,_,rfl,rfl,rfl⟩ (PLe.q rfl)
   refine av (aL (bf 2 tk rfl ?_))
   exact bu () H hl2 hg2
  refine aQ 11 rfl (bg (bD rfl (av (aL (bf 2 tk rfl ?_)))))
  exact bu () H hl2 hg2
 refine ab (ab (aa (ag 2 tk rfl (aC tk (zl _) ?_))))
 refine ak tk rfl (ac ?_)
 refine ft tk 59 58 57 (fun s3 g3=>upd (fun _=>.any) 1 (.ptr (bM sA))) nB nO () H (fun fl3 Hp3 j3 s3 g3 hz3 hl3 x3 fb3 hx3 H hg3=>?_) (fun s3 g3 H=>?_)
 ·refine ab (ax (ab (aa (ak tk rfl ?_))))
  refine aV tk (zn j3) (bw (fun _=>rfl) hx3) ?_
  refine ak tk rfl ?_
  refine aX tk fun b7=>?_
  refine ak tk rfl (au tk ?_)
  refine ac (ab (ab (aa (ak tk rfl (aA tk ?_)))))
  obtain ⟨x66,h66,H⟩ := az H
  have s66 := og sA x3 _ h66
  refine ao Tryz.call55 (jp.r) s66 ?_
  refine ak tk rfl (ac (aw 2 tk rfl ?_))
  refine aM rfl H (fun H=>?_) (fun H=>?_)
  ·refine aw 2 tk rfl ?_
   obtain rfl := aE H
   have e3 : fl3 = .ret _ := hg3
   subst e3
   obtain rfl := aZ Hp3
   refine bj tk rfl (ps := [(ap x66)]) ⟨_,_,rfl,rfl,rfl⟩ (PLe.q rfl)
  refine av (ab (aa (ag 3 tk rfl ?_)))
  obtain ⟨x73,h73,H⟩ := az H
  have k73 := qr h73
  refine uH tk rfl rfl rfl rfl rfl (zl _) rfl rfl k73.1 (rI k73.2) rfl (ef (Gh.freezeB 7 rfl rfl rfl rfl) (ak tk rfl ?_))
  obtain ⟨x75,h75,H⟩ := az H
  have s75 := iP x73 (fun a0=>gn a0 x3) Tryz.call57 (fun a0 r h=>se a0 x3 r h) _ h75
  refine ao Tryz.call56 (jp.r) s75 ?_
  refine ac ?_
  refine aM rfl H (fun H=>?_) (fun H=>?_)
  ·refine aw 1 tk rfl ?_
   obtain rfl := aE H
   have e3 : fl3 = .ret _ := hg3
   subst e3
   obtain rfl := aZ Hp3
   refine bj tk rfl (ps := [(ap 5)]) ⟨_,_,rfl,rfl,rfl⟩ (PLe.q rfl)
  refine av (aL (bf 2 tk rfl ?_))
  exact bu () H hl3 hg3
 refine ab (ab (aa (ag 2 tk rfl (aC tk (zl _) ?_))))
 refine ak tk rfl (ac ?_)
 refine ft tk 80 79 78 (fun s4 g4=>upd (fun _=>.any) 1 (.ptr (bM sA))) nB nO () H (fun fl4 Hp4 j4 s4 g4 hz4 hl4 x4 fb4 hx4 H hg4=>?_) (fun s4 g4 H=>?_)
 ·refine ab (ax (ab (aa (ak tk rfl ?_))))
  refine aV tk (zn j4) (bw (fun _=>rfl) hx4) ?_
  refine ak tk rfl ?_
  refine aX tk fun b10=>?_
  refine ak tk rfl (au tk ?_)
  refine ac (ab (ab (aa (ak tk rfl (aA tk ?_)))))
  obtain ⟨x87,h87,H⟩ := az H
  have s87 := nY sA x4 _ h87
  refine ao Tryz.call59 (jp.r) s87 ?_
  refine ak tk rfl (ac (aw 2 tk rfl ?_))
  refine aM rfl H (fun H=>?_) (fun H=>?_)
  ·refine aw 2 tk rfl ?_
   obtain rfl := aE H
   have e4 : fl4 = .ret _ := hg4
   subst e4
   obtain rfl := aZ Hp4
   refine bj tk rfl (ps := [(ap x87)]) ⟨_,_,rfl,rfl,rfl⟩ (PLe.q rfl)
  refine av (ab (bp tk mok ⟨true,false,[92]⟩ [0,1,2,3,4,5] rfl (by decide +kernel) rfl (aQ 3 rfl ?_)))
  obtain ⟨x94,h94,H⟩ := az H
  have k94 := qr h94
  refine Do.subL rfl rfl rfl rfl rfl rfl (zl _) rfl rfl k94.1 (rI k94.2) rfl (ci ?_)
  obtain ⟨x96,h96,H⟩ := az H
  have s96 := jx x94 x4 _ h96
  refine aY Tryz.call60 (jp.r) s96 ?_
  refine bg ?_
  refine aM rfl H (fun H=>?_) (fun H=>?_)
  ·refine aw 1 tk rfl ?_
   obtain rfl := aE H
   have e4 : fl4 = .ret _ := hg4
   subst e4
   obtain rfl := aZ Hp4
   refine bj tk rfl (ps := [(ap 5)]) ⟨_,_,rfl,rfl,rfl⟩ (PLe.q rfl)
  refine av (aL (bf 2 tk rfl ?_))
  exact bu () H hl4 hg4
 refine aw 1 tk rfl ?_
 exact bn tk H rfl
def ir (c : LChecker) (q : LQuery) (inA : List (List LCol)) : Option ((List LCol) × Int) :=
 cond (q.kind == (1 : Int))
  (af (cQ c.s.tables (fun a0=>some (eH a0 q))) fun x25 =>
  cond (decide (x25 < (0 : Int)))
   (some ([],4))
   (af (aF c.s.tables x25) fun (x32 : LTable) =>
   some (x32.columns,0)))
  (cond (q.kind == (2 : Int))
   (af (aF inA 0) fun (x39 : List LCol) =>
   af (aF inA 0) fun (x43 : List LCol) =>
   af (aF q.exprs 0) fun (x47 : LExpr) =>
   bC (dG c x43 x47) fun x49 =>
   some (x39,x49))
   (bC (
    cond (q.kind == (4 : Int))
     ((q.kind == (4 : Int)))
     ((q.kind == (5 : Int)))) fun (t1 : Bool) =>
   cond t1
    (af (aF inA 0) fun (x54 : List LCol) =>
    af (aF inA 1) fun (x58 : List LCol) =>
    af (aK (σ := List LCol) (ρ := Empty) (fun (_ : Nat) (x2 : LCol) (s2 : List LCol) =>
     cond x2.nullable
      (af (dg 32 s2 ([(LCol.mk x2.name x2.kind true)] : List LCol)) fun (x76 : List LCol) =>
      some (.next x76))
      (af (dg 32 s2 ([(LCol.mk x2.name x2.kind (q.kind == (5 : Int)))] : List LCol)) fun (x76 : List LCol) =>
      some (.next x76))) 0 x58 x54) fun fl2=>fl2.thenP fun (s2 : List LCol) =>
    af (aF q.exprs 0) fun (x83 : LExpr) =>
    bC (dG c s2 x83) fun x85 =>
    some (s2,x85))
    (bC (
     cond (q.kind == (6 : Int))
      ((q.kind == (6 : Int)))
      ((q.kind == (7 : Int)))) fun (t3 : Bool) =>
    cond t3
     (af (aF inA 0) fun (x92 : List LCol) =>
     af (aF inA 1) fun (x95 : List LCol) =>
     af (iH q.kind x92 x95) fun x97 =>
     some (x97.1,x97.2))
     (bC (
      cond (q.kind == (3 : Int))
       ((q.kind == (3 : Int)))
       ((q.kind == (8 : Int)))) fun (t4 : Bool) =>
     cond t4
      (af (aF inA 0) fun (x106 : List LCol) =>
      af (eM c q x106) fun x108 =>
      some (x108.1,x108.2))
      (cond (q.kind == (9 : Int))
       (af (aK (σ := Unit) (ρ := ((List LCol) × Int)) (fun (_ : Nat) (x5 : LExpr) (_ : Unit) =>
        af (aF inA 0) fun (x122 : List LCol) =>
        bC (cV x122 c.vars x5) fun x127 =>
        cond (x127.2.2 != (0 : Int))
         (some (.ret ([],x127.2.2)))
         (some (.next ()))) 0 q.exprs ()) fun fl5=>fl5.thenR fun (_ : Unit) =>
       af (aF inA 0) fun (x136 : List LCol) =>
       some (x136,0))
       (af (aF inA 0) fun (x136 : List LCol) =>
       some (x136,0)))))))
theorem sc (c : LChecker) (q : LQuery) (inA : List (List LCol)) (r : (List LCol) × Int) (H : ir c q inA = some r) :
  aP Tryz.prog 161 [(.agg (ek c)),(.agg (aH q)),(.list 39 (inA.map (aq 70 aR)))] (.tup [(.list 70 (r.1.map aR)),(ap r.2)]) := by
 unfold ir at H
 refine PH.ay Tryz.func161 Tryz.ntmps161 ?_
 refine ab (aa (aI ?_))
 refine aI ?_
 refine ag 2 tk rfl (ac (ab (aw 2 tk rfl (ax (aw 2 tk rfl ?_)))))
 refine aM rfl H (fun H=>?_) (fun H=>?_)
 ·refine ab (aa (ag 4 tk rfl ?_))
  obtain ⟨x25,h25,H⟩ := az H
  have s25 := hX c.s.tables (fun a0=>some (eH a0 q)) Tryz.call194 (fun a0 r h=>(aE h) ▸ qT a0 q) _ h25
  refine ao Tryz.call131 (jp.r) s25 ?_
  refine ak tk rfl (ac (ab (aw 2 tk rfl ?_)))
  refine aM rfl H (fun H=>?_) (fun H=>?_)
  ·refine aw 2 tk rfl ?_
   obtain rfl := aE H
   refine bj tk rfl (ps := [(.val (.slice none 0 0)),(ap 4)]) ⟨_,_,rfl,rfl,_,_,rfl,rfl,rfl⟩ (PLe.of2 (PLe2.tup (iJ.cons (PLe2.nil tk rfl) (iJ.cons (PLe2.of_eq rfl) iJ.nil))))
  refine av (ab (aa (ag 4 tk rfl ?_)))
  obtain ⟨x32,k32,H⟩ := be H
  refine aV tk k32.1 (aG (fun _=>rfl) k32.2) ?_
  refine ag 2 tk rfl ?_
  have s35 := ql (m := 35) x32.columns
  refine ao Tryz.call136 (jp.r) (PFun.iB s35) ?_
  refine ag 2 tk rfl (ac ?_)
  exact bn tk H rfl
 refine aw 2 tk rfl ?_
 refine aM rfl H (fun H=>?_) (fun H=>?_)
 ·refine ab (bp tk mok ⟨false,false,[]⟩ [0,1,2,3,4,5,6,7,8,9,10,11,12,13] rfl (by decide +kernel) rfl (bK rfl ?_))
  obtain ⟨x39,k39,H⟩ := be H
  refine bc k39.1 (aG (fun _=>rfl) k39.2) ?_
  refine aQ 3 rfl ?_
  obtain ⟨x43,k43,H⟩ := be H
  refine bc k43.1 (aG (fun _=>rfl) k43.2) ?_
  refine aQ 3 rfl ?_
  obtain ⟨x47,k47,H⟩ := be H
  refine bc k47.1 (aG bR k47.2) ?_
  refine bK rfl ?_
  obtain ⟨x49,h49,H⟩ := cO H
  have s49 := ld c x43 x47
  rw [h49] at s49
  refine aY Tryz.call195 (jp.r) s49 ?_
  refine aQ 2 rfl (bg ?_)
  exact bn tk H rfl
 refine ab (aw 2 tk rfl ?_)
 refine gg (γ := Unit) (fun t1 g1=>⟨138,upd (upd (upd (upd (upd (fun _=>.any) 50 (aN t1)) 18 (ap q.kind)) 4 (.ptr (aH q))) 3 (.ptr (ek c))) 2 (.list 39 (inA.map (aq 70 aR))),fun _=>none,fun _=>none⟩) H (fun _ H=>?_) (fun t1 g1 H=>?_)
 ·refine aM rfl H (fun H=>?_) (fun H=>?_)
  ·refine av ?_
   refine bd _ () H Gh.d
  refine bf 2 tk rfl ?_
  refine bd _ () H Gh.d
 refine aM rfl H (fun H=>?_) (fun H=>?_)
 ·refine ab (aa (ak tk rfl ?_))
  obtain ⟨x54,k54,H⟩ := be H
  refine aV tk k54.1 (aG (fun _=>rfl) k54.2) ?_
  refine ak tk rfl ?_
  have s56 := ql (m := 56) x54
  refine mm (g := 136) rfl rfl rfl Tryz.call136 (jp.r) rfl rfl s56 (fun g56=>?_)
  refine ak tk rfl (ac (ab (ab (aa (ak tk rfl ?_)))))
  obtain ⟨x58,k58,H⟩ := be H
  refine aV tk k58.1 (aG (fun _=>rfl) k58.2) ?_
  refine ak tk rfl (aC tk (zl _) ?_)
  refine ak tk rfl (ac ?_)
  refine gP (γ := OwnRef) tk 61 60 59 (fun s2 g2=>upd (upd (upd (fun _=>.any) 9 (.own 56 g2 (s2.map aR).length)) 4 (.ptr (aH q))) 3 (.ptr (ek c))) nB (fun s2 g2=>upd (fun _=>none) 56 (some ⟨g2,70,(s2.map aR),true⟩)) g56 H (fun fl2 Hp2 j2 s2 g2 hz2 hl2 x2 fb2 hx2 H hg2=>?_) (fun s2 g2 H=>?_)
  ·refine ab (ax (ab (aa ?_)))
   refine aV tk (zn j2) (bw (fun _=>rfl) hx2) ?_
   refine ak tk rfl ?_
   refine aX tk fun b11=>?_
   refine au tk ?_
   refine ac (ab (aa (ak tk rfl (aA tk ?_))))
   refine ak tk rfl ?_
   refine bq rfl rfl rfl H (fun H=>?_) (fun H=>?_)
   ·refine ag 5 tk rfl (au tk ?_)
    refine ac (aa (ak tk rfl (aA tk ?_)))
    refine db tk (rows' := List.map aR ([(LCol.mk x2.name x2.kind true)] : List LCol)) (it.refl _) ?_
    obtain ⟨x76,h76,H⟩ := az H
    have k76 := cx h76
    refine cF (rows2' := List.map aR ([(LCol.mk x2.name x2.kind true)] : List LCol)) (rows' := List.map aR x76) tk rfl rfl rfl rfl rfl rfl rfl rfl rfl rfl rfl rfl rfl (it.refl _) (dK k76.1) (dJ k76.2.1) (dM k76.2.2) fun g76=>?_
    refine ak tk rfl (ac (aL (bf 2 tk rfl ?_)))
    exact bu g76 H hl2 hg2
   refine ag 5 tk rfl (au tk ?_)
   refine ac (aa (ak tk rfl (aA tk ?_)))
   refine db tk (rows' := List.map aR ([(LCol.mk x2.name x2.kind (q.kind == (5 : Int)))] : List LCol)) (it.refl _) ?_
   obtain ⟨x76,h76,H⟩ := az H
   have k76 := cx h76
   refine cF (rows2' := List.map aR ([(LCol.mk x2.name x2.kind (q.kind == (5 : Int)))] : List LCol)) (rows' := List.map aR x76) tk rfl rfl rfl rfl rfl rfl rfl rfl rfl rfl rfl rfl rfl (it.refl _) (dK k76.1) (dJ k76.2.1) (dM k76.2.2) fun g76=>?_
   refine ak tk rfl (ac (aL (bf 2 tk rfl ?_)))
   exact bu g76 H hl2 hg2
  refine ab (cw 9 rfl rfl rfl (bp tk mok ⟨false,false,[]⟩ [0,1,2,3,4,5,6,7,8,9] rfl (by decide +kernel) rfl (aQ 5 rfl ?_)))
  obtain ⟨x83,k83,H⟩ := be H
  refine bc k83.1 (aG bR k83.2) ?_
  refine bK rfl ?_
  obtain ⟨x85,h85,H⟩ := cO H
  have s85 := ld c s2 x83
  rw [h85] at s85
  refine aY Tryz.call195 (jp.r) s85 ?_
  refine aQ 2 rfl (bg ?_)
  exact bn tk H rfl
 refine ab (aw 2 tk rfl ?_)
 refine gg (γ := Unit) (fun t3 g3=>⟨138,upd (upd (upd (upd (upd (fun _=>.any) 86 (aN t3)) 18 (ap q.kind)) 4 (.ptr (aH q))) 3 (.ptr (ek c))) 2 (.list 39 (inA.map (aq 70 aR))),fun _=>none,fun _=>none⟩) H (fun _ H=>?_) (fun t3 g3 H=>?_)
 ·refine aM rfl H (fun H=>?_) (fun H=>?_)
  ·refine av ?_
   refine bd _ () H Gh.d
  refine bf 2 tk rfl ?_
  refine bd _ () H Gh.d
 refine aM rfl H (fun H=>?_) (fun H=>?_)
 ·refine ab (bp tk mok ⟨false,false,[]⟩ [0,1,2,3,4,5,6,7,8,9,10,11,12] rfl (by decide +kernel) rfl (aQ 3 rfl ?_))
  obtain ⟨x92,k92,H⟩ := be H
  refine bc k92.1 (aG (fun _=>rfl) k92.2) ?_
  refine aQ 2 rfl ?_
  obtain ⟨x95,k95,H⟩ := be H
  refine bc k95.1 (aG (fun _=>rfl) k95.2) ?_
  refine bK rfl ?_
  obtain ⟨x97,h97,H⟩ := az H
  have s97 := sj q.kind x92 x95 _ h97
  refine aY Tryz.call196 (jp.r) s97 ?_
  refine aQ 4 rfl (bg ?_)
  exact bn tk H rfl
 refine ab (aw 2 tk rfl ?_)
 refine gg (γ := Unit) (fun t4 g4=>⟨138,upd (upd (upd (upd (upd (fun _=>.any) 100 (aN t4)) 18 (ap q.kind)) 4 (.ptr (aH q))) 3 (.ptr (ek c))) 2 (.list 39 (inA.map (aq 70 aR))),fun _=>none,fun _=>none⟩) H (fun _ H=>?_) (fun t4 g4 H=>?_)
 ·refine aM rfl H (fun H=>?_) (fun H=>?_)
  ·refine av ?_
   refine bd _ () H Gh.d
  refine bf 2 tk rfl ?_
  refine bd _ () H Gh.d
 refine aM rfl H (fun H=>?_) (fun H=>?_)
 ·refine ab (bp tk mok ⟨false,false,[]⟩ [0,1,2,3,4,5,6,7,8,9] rfl (by decide +kernel) rfl (aQ 3 rfl ?_))
  obtain ⟨x106,k106,H⟩ := be H
  refine bc k106.1 (aG (fun _=>rfl) k106.2) ?_
  refine bK rfl ?_
  obtain ⟨x108,h108,H⟩ := az H
  have s108 := nw c q x106 _ h108
  refine aY Tryz.call197 (jp.r) s108 ?_
  refine aQ 4 rfl (bg ?_)
  exact bn tk H rfl
 refine aw 2 tk rfl ?_
 refine aM rfl H (fun H=>?_) (fun H=>?_)
 ·refine ab (aa (ag 2 tk rfl (aC tk (zl _) ?_)))
  refine ak tk rfl (ac ?_)
  refine ft tk 116 115 114 (fun s5 g5=>upd (upd (fun _=>.any) 3 (.ptr (ek c))) 2 (.list 39 (inA.map (aq 70 aR)))) nB nO () H (fun fl5 Hp5 j5 s5 g5 hz5 hl5 x5 fb5 hx5 H hg5=>?_) (fun s5 g5 H=>?_)
  ·refine ab (ax (ab (aa (aV tk (zn j5) (bw bR hx5) ?_))))
   refine ak tk rfl ?_
   refine aX tk fun b13=>?_
   refine au tk ?_
   refine ac (ab (bp tk mok ⟨true,false,[123,125]⟩ [0,1,2,3,4,5,6,7,8,9,10,11,12,13] rfl (by decide +kernel) rfl (bK rfl ?_)))
   obtain ⟨x122,k122,H⟩ := be H
   refine bc k122.1 (aG (fun _=>rfl) k122.2) ?_
   refine aQ 3 rfl (ci ?_)
   obtain ⟨x127,h127,H⟩ := cO H
   have s127 := nS x122 c.vars x5
   rw [h127] at s127
   refine aY Tryz.call86 (jp.r) s127 ?_
   refine aQ 7 rfl (bg (aw 2 tk rfl ?_))
   refine aM rfl H (fun H=>?_) (fun H=>?_)
   ·refine aw 3 tk rfl ?_
    obtain rfl := aE H
    have e5 : fl5 = .ret _ := hg5
    subst e5
    obtain rfl := aZ Hp5
    refine bj tk rfl (ps := [(.val (.slice none 0 0)),(ap x127.2.2)]) ⟨_,_,rfl,rfl,_,_,rfl,rfl,rfl⟩ (PLe.of2 (PLe2.tup (iJ.cons (PLe2.nil tk rfl) (iJ.cons (PLe2.of_eq rfl) iJ.nil))))
   refine av (aL (bf 2 tk rfl ?_))
   exact bu () H hl5 hg5
  refine aL (ab (aa (ak tk rfl ?_)))
  obtain ⟨x136,k136,H⟩ := be H
  refine aV tk k136.1 (aG (fun _=>rfl) k136.2) ?_
  refine ag 3 tk rfl (ac ?_)
  exact bn tk H rfl
 refine av (aL (ab (aa (ak tk rfl ?_))))
 obtain ⟨x136,k136,H⟩ := be H
 refine aV tk k136.1 (aG (fun _=>rfl) k136.2) ?_
 refine ag 3 tk rfl (ac ?_)
 exact bn tk H rfl
def iU (rA : LRun) (q : LQuery) (cols : List LCol) (inA : Rz) : Option (Rz) :=
 bC (
  cond ((q.exprs.length : Int) == (0 : Int))
   (([[]],[[]]))
   (([],[]))) fun (t1 : Rz × List Rz) =>
 af (aK (σ := Rz × List Rz) (ρ := Empty) (fun (_ : Nat) (x2 : Rq) (s2 : Rz × List Rz) =>
  af (dC rA cols x2 q.exprs) fun x38 =>
  af (bL s2.1 (fun a0=>gq a0 x38)) fun x41 =>
  af (fm (x41.2.length = s2.1.length) ()) fun (_ : Unit) =>
  af (
   cond (decide (x41.1 < (0 : Int)))
    (af (dg 24 x41.2 ([x38] : Rz)) fun (x49 : Rz) =>
    af (dg 24 s2.2 ([[]] : List Rz)) fun (x52 : List Rz) =>
    some (x49,x52,(x41.2.length : Int)))
    (some (x41.2,s2.2,x41.1))) fun (t7 : Rz × List Rz × Int) =>
  af (aF t7.2.1 t7.2.2) fun (x57 : Rz) =>
  af (dg 24 x57 ([x2] : Rz)) fun (x61 : Rz) =>
  af (aF t7.2.1 t7.2.2) fun (_ : Rz) =>
  bC (t7.2.1.set t7.2.2.toNat x61) fun (y8 : List Rz) =>
  some (.next (t7.1,y8))) 0 inA (t1.1,t1.2)) fun fl2=>fl2.thenP fun (s2 : Rz × List Rz) =>
 af (fm (s2.2.length * 24 ≤ 2 ^ 47) ()) fun (_ : Unit) =>
 af (pD (s2.1.length : Int)) fun (n10 : Nat) =>
 af (aK (σ := Rz) (ρ := Empty) (fun (j10 : Nat) (_ : Nat) (s10 : Rz) =>
  af (aF s2.1 (j10 : Int)) fun (x69 : Rq) =>
  af (aK (σ := Rq) (ρ := Empty) (fun (_ : Nat) (x13 : LAggregateCall) (s13 : Rq) =>
   af (aF s2.2 (j10 : Int)) fun (x86 : Rz) =>
   af (jO rA x13 cols x86) fun x88 =>
   af (dg 32 s13 ([x88] : Rq)) fun (x90 : Rq) =>
   some (.next x90)) 0 q.aggregates x69) fun fl13=>fl13.thenP fun (s13 : Rq) =>
  af (dg 24 s10 ([s13] : Rz)) fun (x95 : Rz) =>
  some (.next x95)) 0 (List.range n10) []) fun fl10=>fl10.thenP fun (s10 : Rz) =>
 some s10
theorem tw (rA : LRun) (q : LQuery) (cols : List LCol) (inA : Rz) (r : Rz) (H : iU rA q cols inA = some r) :
  aP Tryz.prog 123 [(.agg (dS rA)),(.agg (aH q)),(.list 70 (cols.map aR)),(.list 77 (inA.map (aq 75 ae)))] (.list 77 (r.map (aq 75 ae))) := by
 unfold iU at H
 refine PH.ay Tryz.func123 Tryz.ntmps123 ?_
 refine ab (aa (aI ?_))
 refine aI ?_
 refine ak tk rfl (ac (aw 1 tk rfl (aw 1 tk rfl (ab (ab (aa (ag 2 tk rfl (aC tk (zl _) ?_))))))))
 refine ak tk rfl (ac ?_)
 refine gg (γ := OwnRef × (Nat × Nat × (Nat → OwnRef))) (fun t1 g1=>⟨98,upd (upd (upd (upd (upd (upd (fun _=>.any) 10 (.val (iY g1.2.1 t1.2.length g1.2.2.1))) 9 (.own 25 g1.1 (t1.1.map (aq 75 ae)).length)) 5 (.ptr (aH q))) 4 (.ptr (dS rA))) 3 (.list 77 (inA.map (aq 75 ae)))) 2 (.list 70 (cols.map aR)),upd (fun _=>none) 990 (iR g1.2.1 g1.2.2.2 (List.map (List.map (aq 75 ae)) t1.2) g1.2.2.1),eJ 77 g1.2.2.2 (List.map (List.map (aq 75 ae)) t1.2) (upd (fun _=>none) 25 (some ⟨g1.1,77,(t1.1.map (aq 75 ae)),true⟩))⟩) H (fun _ H=>?_) (fun t1 g1 H=>?_)
 ·refine aM rfl H (fun H=>?_) (fun H=>?_)
  ·refine aa ?_
   refine pn (rows' := List.map (aq 75 ae) ([[]] : Rz)) tk rfl rfl rfl rfl rfl rfl rfl rfl rfl (iJ.cons (PLe2.nil tk rfl) iJ.nil) fun g25=>?_
   refine ve 990 77 tk rfl rfl rfl rfl rfl rfl rfl rfl fun bf26 cf26=>?_
   refine ag 2 tk rfl (ac ?_)
   refine bd _ (g25,(bf26,cf26,(fun _=>⟨none,0⟩))) H (Gh.le (aB (aB (aB (aB (aB (aB bt)))))) (kT rfl aT) (km (fun i rs h=>by first | exact ez h | (simp only [mr,gJ,hZ,Nat.reduceLT]; exact ez h)) (bI aS)))
  refine av (iI tk 9 25 (e := 77) rfl rfl ?_)
  refine bd _ (⟨none,0⟩,(0,0,fun _=>⟨none,0⟩)) H (Gh.le (aB (aB (aB (aB (aB (aB bt)))))) (uV aT) (uW (bI aS)))
 refine ab (ab (aa (ak tk rfl (aC tk (zl _) ?_))))
 refine ak tk rfl (ac ?_)
 obtain ⟨fl2,H2,Hp2⟩ := az H
 refine gz tk 27 rfl rfl (fun hz2 _=>?_)
 rw [zl] at hz2
 refine eZ (τ := Rz × List Rz) (γ := OwnRef × (Nat × Nat × (Nat → OwnRef))) (fun s2 g2=>⟨98,upd (upd (upd (upd (upd (fun _=>.any) 10 (.val (iY g2.2.1 s2.2.length g2.2.2.1))) 9 (.own 25 g2.1 (s2.1.map (aq 75 ae)).length)) 5 (.ptr (aH q))) 4 (.ptr (dS rA))) 2 (.list 70 (cols.map aR)),upd (fun _=>none) 990 (iR g2.2.1 g2.2.2.2 (List.map (List.map (aq 75 ae)) s2.2) g2.2.2.1),eJ 77 g2.2.2.2 (List.map (List.map (aq 75 ae)) s2.2) (upd (fun _=>none) 25 (some ⟨g2.1,77,(s2.1.map (aq 75 ae)),true⟩))⟩) (fun t=>fl2 = .next t) ?_ (fun s2 g2 hn2=>?_)
 ·refine ax ?_
  refine ix (fun j2 s2 g2=>⟨98,upd (upd (upd (upd (upd (upd (upd (upd (fun _=>.any) 29 (ap (j2 : Int))) 28 (ap (inA.length : Int))) 27 (.list 77 (inA.map (aq 75 ae)))) 10 (.val (iY g2.2.1 s2.2.length g2.2.2.1))) 9 (.own 25 g2.1 (s2.1.map (aq 75 ae)).length)) 5 (.ptr (aH q))) 4 (.ptr (dS rA))) 2 (.list 70 (cols.map aR)),upd (fun _=>none) 990 (iR g2.2.1 g2.2.2.2 (List.map (List.map (aq 75 ae)) s2.2) g2.2.2.1),eJ 77 g2.2.2.2 (List.map (List.map (aq 75 ae)) s2.2) (upd (fun _=>none) 25 (some ⟨g2.1,77,(s2.1.map (aq 75 ae)),true⟩))⟩) (g1.1,(g1.2.1,g1.2.2.1,g1.2.2.2)) H2 (Gh.le (aB (aB (aB (aB (aB (aB (aB (aB bt)))))))) (kT rfl aT) (km (fun i rs h=>by first | exact ez h | (simp only [mr,gJ,hZ,Nat.reduceLT]; exact ez h)) (bI aS))) (fun j2 s2 g2 hj2 hr2=>?_)
  refine aw 1 tk rfl (ab ?_)
  refine bA rfl (fun h=>?_) (fun h=>?_)
  ·have hl2 := mG h
   obtain ⟨x2,fb2,hx2,H,hg2⟩ := rMc hl2 hr2
   refine av (ab (ax (ab (aa ?_))))
   refine aV tk (zn j2) (bw (fun _=>rfl) hx2) ?_
   refine ag 2 tk rfl (ac (ab (aa (ag 5 tk rfl ?_))))
   obtain ⟨x38,h38,H⟩ := az H
   have s38 := kd rA cols x2 q.exprs _ h38
   refine ao Tryz.call122 (jp.r) s38 ?_
   refine aX tk fun b13=>?_
   refine au tk ?_
   refine ac (ab (aa (ak tk rfl (ef (Gh.freezeB 13 rfl rfl rfl rfl) (ak tk rfl ?_)))))
   obtain ⟨x41,h41,H⟩ := az H
   have s41 := fJ g2.1 s2.1 (fun a0=>gq a0 x38) Tryz.call171 (fun a0 r h=>sg a0 x38 r h) _ h41
   obtain ⟨_,q41_0,H⟩ := az H
   have l41_0 := (dH q41_0).1
   have z41_0 : (List.map (aq 75 ae) s2.1).length = (List.map (aq 75 ae) x41.2).length := by simpa using (l41_0).symm
   refine eK (g := 165) rfl rfl rfl Tryz.call165 [] [(25,0)] rfl rfl rfl rfl (jp.of2 (iJ.cons (PLe2.own rfl) (iJ.cons (PLe2.of_eq rfl) iJ.nil))) (by rw [dX,dv,dY]; rfl) s41 ?_
   rintro u41 H41h ⟨rfl,rfl⟩
   refine ⟨_,rfl,?_⟩
   refine ef (st' := ⟨_,_,upd (fun _=>none) 990 (iR g2.2.1 g2.2.2.2 (List.map (List.map (aq 75 ae)) s2.2) g2.2.2.1),eJ 77 g2.2.2.2 (List.map (List.map (aq 75 ae)) s2.2) (upd (fun _=>none) 25 (some ⟨g2.1,77,(x41.2.map (aq 75 ae)),true⟩))⟩) (Gh.le (dp _ _) (kT rfl aT) (km (fun i rs h=>by first | exact ez h | (simp only [gJ,hZ,Nat.reduceLT]; exact ez h)) (bI aS))) ?_
   refine ak tk rfl (ac (ab (aw 2 tk rfl ?_)))
   refine gM (γ := OwnRef × (Nat × Nat × (Nat → OwnRef))) (fun t7 g7=>⟨98,upd (upd (upd (upd (upd (upd (upd (upd (upd (upd (fun _=>.any) 29 (ap (j2 : Int))) 28 (ap (inA.length : Int))) 27 (.list 77 (inA.map (aq 75 ae)))) 14 (ap t7.2.2)) 12 (.list 75 (x2.map ae))) 10 (.val (iY g7.2.1 t7.2.1.length g7.2.2.1))) 9 (.own 25 g7.1 (t7.1.map (aq 75 ae)).length)) 5 (.ptr (aH q))) 4 (.ptr (dS rA))) 2 (.list 70 (cols.map aR)),upd (fun _=>none) 990 (iR g7.2.1 g7.2.2.2 (List.map (List.map (aq 75 ae)) t7.2.1) g7.2.2.1),eJ 77 g7.2.2.2 (List.map (List.map (aq 75 ae)) t7.2.1) (upd (fun _=>none) 25 (some ⟨g7.1,77,(t7.1.map (aq 75 ae)),true⟩))⟩) H (fun _ H=>?_) (fun t7 g7 H=>?_)
   ·refine aM rfl H (fun H=>?_) (fun H=>?_)
    ·refine ab (aa (ak tk rfl (kH tk (z41_0.trans (zl _)) ?_)))
     refine ak tk rfl (ac (aa (ag 2 tk rfl (db tk (rows' := List.map (aq 75 ae) ([x38] : Rz)) (it.refl _) ?_))))
     obtain ⟨x49,h49,H⟩ := az H
     have k49 := cx h49
     refine cF (rows2' := List.map (aq 75 ae) ([x38] : Rz)) (rows' := List.map (aq 75 ae) x49) tk rfl rfl rfl rfl rfl rfl rfl rfl rfl rfl rfl z41_0 rfl (it.refl _) (dK k49.1) (dJ k49.2.1) (dM k49.2.2) fun g49=>?_
     refine ak tk rfl (sv tk rfl rfl rfl rfl rfl rfl ?_)
     obtain ⟨x52,h52,H⟩ := az H
     have k52 := cx h52
     refine ef (st' := ⟨_,_,upd (fun _=>none) 990 (iR g2.2.1 g2.2.2.2 (List.map (List.map (aq 75 ae)) s2.2) g2.2.2.1),eJ 77 g2.2.2.2 (List.map (List.map (aq 75 ae)) s2.2) (upd (fun _=>none) 25 (some ⟨g49,77,(x49.map (aq 75 ae)),true⟩))⟩) (Gh.le (dp _ _) (kT rfl aT) (km (fun i rs h=>by first | exact ez h | (simp only [mr,Nat.reduceLT]; exact ez h)) (bI aS))) ?_
     refine vg 990 77 tk rfl rfl rfl rfl rfl rfl rfl rfl rfl rfl rfl (zl _).symm rfl rfl (by rw [zl]; exact k52.1) (by rw [zl]; exact k52.2.1) fun bf52 cf52=>?_
     have hz52 : List.map (List.map (aq 75 ae)) x52 = List.map (List.map (aq 75 ae)) s2.2 ++ [[]] := by rw [k52.2.2,List.map_append]; rfl
     refine ef (st' := ⟨_,_,upd (fun _=>none) 990 (iR bf52 (upd g2.2.2.2 s2.2.length ⟨none,0⟩) (List.map (List.map (aq 75 ae)) x52) cf52),eJ 77 (upd g2.2.2.2 s2.2.length ⟨none,0⟩) (List.map (List.map (aq 75 ae)) x52) (upd (fun _=>none) 25 (some ⟨g49,77,(x49.map (aq 75 ae)),true⟩))⟩) (Gh.le (dp _ _) (kT (by rw [hz52]; rfl) aT) (km (fun i rs h=>by rw [hz52] at h; exact ez h) (bI aS))) ?_
     refine mu 52 (q := (.val (iY bf52 x52.length cf52))) rfl (PLe.q (by rw [k52.2.2,List.length_append]; rfl)) ?_
     refine ag 2 tk rfl (ac ?_)
     refine bd _ (g49,(bf52,cf52,(upd g2.2.2.2 s2.2.length ⟨none,0⟩))) (aE H) (Gh.le (aB (aB (aB (aB (aB (aB (aB (aB (aB (aB bt)))))))))) (kT rfl aT) (km (fun i rs h=>by first | exact ez h | (simp only [mr,gJ,hZ,Nat.reduceLT]; exact ez h)) (bI aS)))
    refine av ?_
    refine bd _ (g2.1,(g2.2.1,g2.2.2.1,g2.2.2.2)) (aE H) (Gh.le (aB (aB (aB (bO (PLe.of2 (PLe2.of_eq (congrArg (PV.own 25 g2.1) z41_0))) (aB (aB (aB (aB (aB (aB bt)))))))))) (kT rfl aT) (km (fun i rs h=>by first | exact ez h | (simp only [mr,gJ,hZ,Nat.reduceLT]; exact ez h)) (bI aS)))
   refine aa (ag 4 tk rfl ?_)
   obtain ⟨x57,k57,H⟩ := be H
   have wk57 : (List.map (List.map (aq 75 ae)) t7.2.1)[t7.2.2.toNat]? = some (List.map (aq 75 ae) x57) := by rw [List.getElem?_map,k57.2]; rfl
   refine uK 990 tk rfl rfl rfl rfl rfl rfl rfl rfl ⟨k57.1,(zg.1 k57.2).1⟩ rfl ?_
   refine vm tk rfl rfl rfl rfl rfl (sT wk57) (famCells_get wk57) rfl (ak tk rfl (db tk (rows' := List.map (aq 75 ae) ([x2] : Rz)) (it.refl _) ?_))
   obtain ⟨x61,h61,H⟩ := az H
   have k61 := cx h61
   refine cF (rows2' := List.map (aq 75 ae) ([x2] : Rz)) (rows' := List.map (aq 75 ae) x61) tk rfl rfl rfl rfl rfl rfl rfl rfl rfl rfl (ez wk57) rfl rfl (it.refl _) (dK k61.1) (dJ k61.2.1) (dM k61.2.2) fun g61=>?_
   obtain ⟨x62,k62,H⟩ := be H
   have wk62 : (List.map (List.map (aq 75 ae)) t7.2.1)[t7.2.2.toNat]? = some (List.map (aq 75 ae) x62) := by rw [List.getElem?_map,k62.2]; rfl
   refine uK 990 tk rfl rfl rfl rfl rfl rfl rfl rfl ⟨k62.1,(zg.1 k62.2).1⟩ rfl ?_
   obtain ⟨y8,hy8,H⟩ := cO H
   have hzy8 : List.map (List.map (aq 75 ae)) y8 = (List.map (List.map (aq 75 ae)) t7.2.1).set t7.2.2.toNat (List.map (aq 75 ae) x61) := by rw [← hy8,List.map_set]
   have hly8 : y8.length = t7.2.1.length := by rw [← hy8,List.length_set]
   refine uX tk rfl rfl rfl rfl rfl rfl (sT wk62) rfl rfl (by rw [pW]; exact Nat.lt_of_lt_of_le (zg.1 wk62).1 (jM _ _)) (famCells_set wk62 _) ?_
   refine ef (st' := ⟨_,_,upd (fun _=>none) 990 (iR g7.2.1 (upd g7.2.2.2 t7.2.2.toNat g61) (List.map (List.map (aq 75 ae)) y8) g7.2.2.1),eJ 77 (upd g7.2.2.2 t7.2.2.toNat g61) (List.map (List.map (aq 75 ae)) y8) (upd (fun _=>none) 25 (some ⟨g7.1,77,(t7.1.map (aq 75 ae)),true⟩))⟩) (Gh.le (dp _ _) (kT (famB_put wk62 hzy8) aT) (km (famO_put wk62 hzy8) (vo (by rw [fG _ _ (by unfold bH; omega)]; rfl) aS))) ?_
   refine mu 10 (q := (.val (iY g7.2.1 y8.length g7.2.2.1))) rfl (PLe.q (by rw [hly8]; rfl)) ?_
   refine mu 53 (q := (.val (iY g7.2.1 y8.length g7.2.2.1))) rfl (PLe.q (by rw [hly8]; rfl)) ?_
   refine mu 55 (q := (.val (iY g7.2.1 y8.length g7.2.2.1))) rfl (PLe.q (by rw [hly8]; rfl)) ?_
   refine ac (aL (bf 2 tk rfl ?_))
   exact bu (g7.1,(g7.2.1,g7.2.2.1,(upd g7.2.2.2 t7.2.2.toNat g61))) H hl2 hg2 (Gh.le (aB (aB (aB (aB (aB (aB (aB (bO (PLe.q (fD (by omega))) bt)))))))) (kT rfl aT) (km (fun i rs h=>by first | exact ez h | (simp only [mr,gJ,hZ,Nat.reduceLT]; exact ez h)) (bI aS)))
  have hn2 := rMd (nf h) hr2
  refine br rfl ?_
  refine bd s2 g2 hn2 (Gh.le (aB (aB (aB (aB (aB bt))))) (kT rfl aT) (km (fun i rs h=>by first | exact ez h | (simp only [mr,gJ,hZ,Nat.reduceLT]; exact ez h)) (bI aS)))
 have H := dw hn2 Hp2
 refine aw 1 tk rfl (ab (ab (aa (ak tk rfl (kH tk (zl _) ?_)))))
 refine ak tk rfl (ac ?_)
 obtain ⟨_,hf9,H⟩ := az H
 have kf9 := (dH hf9).1
 refine uQ 10 990 tk (e := 77) (e' := 40) (rows := List.map (aq 77 (aq 75 ae)) s2.2) rfl rfl rfl (zl _).symm rfl (by rw [zl]; exact kf9) (by rw [zl]; unfold maxLen; omega) (by rw [List.map_map]; rfl) ?_
 obtain ⟨n10,hs10,H⟩ := az H
 have hz10 := qC hs10
 obtain ⟨fl10,H10,Hp10⟩ := az H
 refine eZ (τ := Rz) (γ := OwnRef) (fun s10 g10=>⟨98,upd (fun _=>.any) 15 (.own 95 g10 (s10.map (aq 75 ae)).length),fun _=>none,upd (fun _=>none) 95 (some ⟨g10,77,(s10.map (aq 75 ae)),true⟩)⟩) (fun t=>fl10 = .next t) ?_ (fun s10 g10 hn10=>?_)
 ·refine ax (iI tk 15 95 (e := 77) rfl rfl ?_)
  refine ix (fun j10 s10 g10=>⟨98,upd (upd (upd (upd (upd (upd (upd (upd (fun _=>.any) 66 (ap (j10 : Int))) 65 (ap (s2.1.length : Int))) 64 (.own 25 g2.1 (s2.1.map (aq 75 ae)).length)) 15 (.own 95 g10 (s10.map (aq 75 ae)).length)) 10 (.list 40 (s2.2.map (aq 77 (aq 75 ae))))) 5 (.ptr (aH q))) 4 (.ptr (dS rA))) 2 (.list 70 (cols.map aR)),fun _=>none,upd (upd (fun _=>none) 95 (some ⟨g10,77,(s10.map (aq 75 ae)),true⟩)) 25 (some ⟨g2.1,77,(s2.1.map (aq 75 ae)),true⟩)⟩) (⟨none,0⟩) H10 Gh.d (fun j10 s10 g10 hj10 hr10=>?_)
  refine aw 1 tk rfl (ab ?_)
  refine bA rfl (fun h=>?_) (fun h=>?_)
  ·have hl10 := natLt hz10 h
   obtain ⟨x10,fb10,hx10,H,hg10⟩ := rMc hl10 hr10
   obtain rfl := natX hx10
   refine av (ab (ax (ab (aa (ak tk rfl ?_)))))
   obtain ⟨x69,k69,H⟩ := be H
   refine nr (tag := 25) rfl (fun ho25=>?_)
   refine nE tk rfl rfl rfl rfl rfl rfl rfl ⟨k69.1,(ee k69.2)⟩ (eo ho25 k69.2) rfl ?_
   refine uo tk rfl rfl rfl rfl rfl rfl rfl (aG (fun _=>rfl) k69.2) rfl rfl ?_
   refine ag 2 tk rfl (ac (ab (aa (ak tk rfl ?_))))
   have s72 := clone_73 (m := 72) x69
   refine mm (g := 73) rfl rfl rfl Tryz.call73 (jp.r) rfl rfl s72 (fun g72=>?_)
   refine ak tk rfl (ac (ab (ab (aa (ag 2 tk rfl (aC tk (zl _) ?_))))))
   refine ak tk rfl (ac ?_)
   refine gP (γ := OwnRef) tk 76 75 74 (fun s13 g13=>upd (upd (upd (upd (upd (upd (upd (upd (upd (upd (fun _=>.any) 66 (ap (j10 : Int))) 65 (ap (s2.1.length : Int))) 64 (.own 25 g2.1 (s2.1.map (aq 75 ae)).length)) 18 (.own 72 g13 (s13.map ae).length)) 16 (ap (j10 : Int))) 15 (.own 95 g10 (s10.map (aq 75 ae)).length)) 10 (.list 40 (s2.2.map (aq 77 (aq 75 ae))))) 5 (.ptr (aH q))) 4 (.ptr (dS rA))) 2 (.list 70 (cols.map aR))) nB (fun s13 g13=>upd (upd (upd (fun _=>none) 95 (some ⟨g10,77,(s10.map (aq 75 ae)),true⟩)) 72 (some ⟨g13,75,(s13.map ae),true⟩)) 25 (some ⟨g2.1,77,(s2.1.map (aq 75 ae)),true⟩)) g72 H (fun fl13 Hp13 j13 s13 g13 hz13 hl13 x13 fb13 hx13 H hg13=>?_) (fun s13 g13 H=>?_)
   ·refine ab (ax (ab (aa ?_)))
    refine aV tk (zn j13) (bw (fun _=>rfl) hx13) ?_
    refine ak tk rfl ?_
    refine aX tk fun b20=>?_
    refine au tk ?_
    refine ac ?_
    refine jP (tag := 25) rfl (fun ho25=>?_)
    refine jP (tag := 72) rfl (fun ho72=>?_)
    refine jP (tag := 95) rfl (fun ho95=>?_)
    refine bp tk mok ⟨true,false,[81,87]⟩ [0,1,2,3,4,5,6,7,8,9,10,11] rfl (by decide +kernel) rfl (aQ 2 rfl (ci ?_))
    refine aQ 3 rfl ?_
    obtain ⟨x86,k86,H⟩ := be H
    refine bc k86.1 (aG (fun _=>rfl) k86.2) ?_
    refine bK rfl ?_
    obtain ⟨x88,h88,H⟩ := az H
    have s88 := uC rA x13 cols x86 _ h88
    refine aY Tryz.call172 (jp.r) s88 ?_
    refine bK rfl ?_
    obtain ⟨x90,h90,H⟩ := az H
    have k90 := cx h90
    refine kA (rows2' := List.map ae ([x88] : Rq)) (rows' := List.map ae x90) tk rfl rfl rfl rfl rfl rfl rfl rfl rfl rfl rfl rfl rfl rfl (it.refl _) (dK k90.1) (dJ k90.2.1) (dM k90.2.2) fun g90=>?_
    refine bK rfl (bg (aL (bf 2 tk rfl ?_)))
    exact bu g90 H hl13 hg13
   refine cw 18 rfl rfl rfl (aa (ag 2 tk rfl (db tk (rows' := List.map (aq 75 ae) ([s13] : Rz)) (it.refl _) ?_)))
   obtain ⟨x95,h95,H⟩ := az H
   have k95 := cx h95
   refine cF (rows2' := List.map (aq 75 ae) ([s13] : Rz)) (rows' := List.map (aq 75 ae) x95) tk rfl rfl rfl rfl rfl rfl rfl rfl rfl rfl rfl rfl rfl (it.refl _) (dK k95.1) (dJ k95.2.1) (dM k95.2.2) fun g95=>?_
   refine ak tk rfl (ac (aL (bf 2 tk rfl ?_)))
   exact bu g95 H hl10 hg10 (Gh.le (aB (aB (aB (aB (aB (aB (aB (bO (PLe.q (rf hz10 hl10)) bt)))))))) aT (bI (bI aS)))
  have hn10 := rMd (natGe hz10 h) hr10
  refine br rfl ?_
  refine bd s10 g10 hn10 Gh.d
 have H := dw hn10 Hp10
 refine aw 2 tk rfl (cw 8 rfl rfl rfl ?_)
 exact bn tk H rfl
def fU (a : Rq) (b : Rq) (c0 : LRun) (c1 : List LCol) (c2 : LQuery) : Option (Int) :=
 af (dC c0 c1 a c2.exprs) fun x13 =>
 af (dC c0 c1 b c2.exprs) fun x19 =>
 af (ik x13 x19 c2.descending) fun x22 =>
 some x22
theorem sM (a : Rq) (b : Rq) (c0 : LRun) (c1 : List LCol) (c2 : LQuery) (r : Int) (H : fU a b c0 c1 c2 = some r) :
  aP Tryz.prog 174 [(.list 75 (a.map ae)),(.list 75 (b.map ae)),(.ptr (dS c0)),(.ptr [(.list 70 (c1.map aR))]),(.ptr (aH c2))] (ap r) := by
 unfold fU at H
 refine PH.ay Tryz.func174 Tryz.ntmps174 ?_
 refine aw 1 tk rfl (ab (bp tk mok ⟨false,false,[]⟩ [0,1,2,3,4,6,7,8,9,10,12,13,5,11,14,15] rfl (by decide +kernel) rfl (aQ 12 rfl ?_)))
 obtain ⟨x13,h13,H⟩ := az H
 have s13 := kd c0 c1 a c2.exprs _ h13
 refine aY Tryz.call122 (jp.r) s13 ?_
 obtain ⟨x19,h19,H⟩ := az H
 have s19 := kd c0 c1 b c2.exprs _ h19
 refine aY Tryz.call122 (jp.r) s19 ?_
 obtain ⟨x22,h22,H⟩ := az H
 have s22 := rZ x13 x19 c2.descending _ h22
 refine aY Tryz.call175 (jp.r) s22 ?_
 refine bK rfl (bg ?_)
 exact bn tk H rfl
def gK (sA : LSchema) (q : LQuery) (inA : List LCardinalityBounds) : Option (LCardinalityBounds) :=
 af (aF inA 0) fun (x10 : LCardinalityBounds) =>
 af (aF inA 1) fun (x14 : LCardinalityBounds) =>
 af (aF q.exprs 0) fun (x21 : LExpr) =>
 cond (x21.kind == (1 : Int))
  (bC (dD x21.value) fun x28 =>
  cond x28
   (af (aF inA 0) fun (x30 : LCardinalityBounds) =>
   af (aF inA 1) fun (x34 : LCardinalityBounds) =>
   some (LCardinalityBounds.mk (IntKind.i64.wrap (x30.low * x34.low)) (IntKind.i64.wrap (x10.high * x14.high))))
   (some (LCardinalityBounds.mk 0 0)))
  (af (aF q.inputs 1) fun (x45 : LQuery) =>
  af (aF q.exprs 0) fun (x49 : LExpr) =>
  af (fF sA x45 x49) fun x51 =>
  af (
   cond x51
    (af (aF inA 0) fun (x55 : LCardinalityBounds) =>
    some (if x55.high < (IntKind.i64.wrap (x10.high * x14.high)) then x55.high else (IntKind.i64.wrap (x10.high * x14.high))))
    (some (IntKind.i64.wrap (x10.high * x14.high)))) fun (t1 : Int) =>
  af (aF q.inputs 0) fun (x63 : LQuery) =>
  af (aF q.exprs 0) fun (x67 : LExpr) =>
  af (fF sA x63 x67) fun x69 =>
  cond x69
   (af (aF inA 1) fun (x73 : LCardinalityBounds) =>
   some (LCardinalityBounds.mk 0 (if x73.high < t1 then x73.high else t1)))
   (some (LCardinalityBounds.mk 0 t1)))
theorem oq (sA : LSchema) (q : LQuery) (inA : List LCardinalityBounds) (r : LCardinalityBounds) (H : gK sA q inA = some r) :
  aP Tryz.prog 26 [(.agg (bM sA)),(.agg (aH q)),(.list 46 (inA.map bS))] (.agg (bS r)) := by
 unfold gK at H
 refine PH.ay Tryz.func26 Tryz.ntmps26 ?_
 refine ab (aa (aI ?_))
 refine aI ?_
 refine aX tk fun b6=>?_
 refine ac (ab (bp tk mok ⟨false,false,[]⟩ [0,1,2,3,4,5,6,7,8,9,10,11] rfl (by decide +kernel) rfl (bK rfl ?_)))
 obtain ⟨x10,k10,H⟩ := be H
 refine bc k10.1 (aG (fun _=>rfl) k10.2) ?_
 refine aQ 3 rfl ?_
 obtain ⟨x14,k14,H⟩ := be H
 refine bc k14.1 (aG (fun _=>rfl) k14.2) ?_
 refine aQ 4 rfl ?_
 refine nI rfl rfl rfl rfl rfl rfl rfl rfl fun b7=>?_
 refine ce ?_
 refine bg (ab (ab (aa (ag 2 tk rfl ?_))))
 obtain ⟨x21,k21,H⟩ := be H
 refine aV tk k21.1 (aG bR k21.2) ?_
 refine ak tk rfl ?_
 refine aX tk fun b8=>?_
 refine au tk ?_
 refine ac (ab (aa (ak tk rfl (aA tk ?_))))
 refine ak tk rfl (ac ?_)
 refine aM rfl H (fun H=>?_) (fun H=>?_)
 ·refine ab (ab (aa (ak tk rfl (aA tk ?_))))
  obtain ⟨x28,h28,H⟩ := cO H
  have s28 := isTS x21.value
  rw [h28] at s28
  refine ao Tryz.call52 (jp.r) s28 ?_
  refine ac ?_
  refine aM rfl H (fun H=>?_) (fun H=>?_)
  ·refine ab (bp tk mok ⟨true,false,[32,36]⟩ [0,1,2,3,4,5,6,7,8,9,10,11,12] rfl (by decide +kernel) rfl (bK rfl ?_))
   obtain ⟨x30,k30,H⟩ := be H
   refine bc k30.1 (aG (fun _=>rfl) k30.2) ?_
   refine aQ 3 rfl ?_
   obtain ⟨x34,k34,H⟩ := be H
   refine bc k34.1 (aG (fun _=>rfl) k34.2) ?_
   refine aQ 4 rfl (ci ?_)
   refine bK rfl (ce ?_)
   refine bg ?_
   exact iM tk H rfl rfl rfl rfl rfl
  refine av (ab (aa (ak tk rfl (au tk ?_))))
  refine ac ?_
  exact iM tk H rfl rfl rfl rfl rfl
 refine av (ab (ab (bp tk mok ⟨false,false,[]⟩ [0,1,2,3,4,5,6,7,8,9] rfl (by decide +kernel) rfl (aQ 3 rfl ?_))))
 obtain ⟨x45,k45,H⟩ := be H
 refine bc k45.1 (aG bN k45.2) ?_
 refine aQ 3 rfl ?_
 obtain ⟨x49,k49,H⟩ := be H
 refine bc k49.1 (aG bR k49.2) ?_
 refine bK rfl ?_
 obtain ⟨x51,h51,H⟩ := az H
 have s51 := kV sA x45 x49 _ h51
 refine aY Tryz.call53 (jp.r) s51 ?_
 refine bg ?_
 refine gM (γ := Unit) (fun t1 g1=>⟨79,upd (upd (upd (upd (upd (fun _=>.any) 7 (.box 7 b7 0)) 6 (.box 6 b6 0)) 4 (.ptr (aH q))) 3 (.ptr (bM sA))) 2 (.list 46 (inA.map bS)),upd (upd (fun _=>none) 7 (some ⟨b7,[(ap 0),(ap t1)]⟩)) 6 (some ⟨b6,[(ap 0),(ap 0)]⟩),fun _=>none⟩) H (fun _ H=>?_) (fun t1 g1 H=>?_)
 ·refine aM rfl H (fun H=>?_) (fun H=>?_)
  ·refine bp tk mok ⟨true,false,[57]⟩ [0,1,2,3,4,5,6,7,8] rfl (by decide +kernel) rfl (bK rfl (ci ?_))
   refine bK rfl ?_
   obtain ⟨x55,k55,H⟩ := be H
   refine bc k55.1 (aG (fun _=>rfl) k55.2) ?_
   refine aQ 4 rfl (ce ?_)
   refine bg ?_
   refine bd _ () (aE H) Gh.d
  refine av ?_
  refine bd _ () (aE H) Gh.d
 refine ab (ab (bp tk mok ⟨false,false,[]⟩ [0,1,2,3,4,5,6,7,8,9] rfl (by decide +kernel) rfl (aQ 3 rfl ?_)))
 obtain ⟨x63,k63,H⟩ := be H
 refine bc k63.1 (aG bN k63.2) ?_
 refine aQ 3 rfl ?_
 obtain ⟨x67,k67,H⟩ := be H
 refine bc k67.1 (aG bR k67.2) ?_
 refine bK rfl ?_
 obtain ⟨x69,h69,H⟩ := az H
 have s69 := kV sA x63 x67 _ h69
 refine aY Tryz.call53 (jp.r) s69 ?_
 refine bg ?_
 refine aM rfl H (fun H=>?_) (fun H=>?_)
 ·refine bp tk mok ⟨true,false,[75]⟩ [0,1,2,3,4,5,6,7,8] rfl (by decide +kernel) rfl (bK rfl (ci ?_))
  refine bK rfl ?_
  obtain ⟨x73,k73,H⟩ := be H
  refine bc k73.1 (aG (fun _=>rfl) k73.2) ?_
  refine aQ 4 rfl (ce ?_)
  refine bg (ab (aa (aA tk ?_)))
  refine au tk ?_
  refine ac ?_
  exact iM tk H rfl rfl rfl rfl rfl
 refine av (ab (aa (aA tk ?_)))
 refine au tk ?_
 refine ac ?_
 exact iM tk H rfl rfl rfl rfl rfl
def iG (sA : LSchema) (q : LQuery) (inA : List LCardinalityBounds) (_jA : LCardinalityBounds) : Option (Int) :=
 af (aF q.inputs 1) fun (x12 : LQuery) =>
 af (aF q.exprs 0) fun (x16 : LExpr) =>
 af (fF sA x12 x16) fun x18 =>
 cond x18
  (af (aF inA 0) fun (x20 : LCardinalityBounds) =>
  some x20.high)
  (af (aF inA 0) fun (x24 : LCardinalityBounds) =>
  af (aF inA 1) fun (x28 : LCardinalityBounds) =>
  some (IntKind.i64.wrap (x24.high * (if x28.high > (1 : Int) then x28.high else (1 : Int)))))
theorem sG (sA : LSchema) (q : LQuery) (inA : List LCardinalityBounds) (jA : LCardinalityBounds) (r : Int) (H : iG sA q inA jA = some r) :
  aP Tryz.prog 27 [(.agg (bM sA)),(.agg (aH q)),(.list 46 (inA.map bS)),(.agg (bS jA))] (ap r) := by
 unfold iG at H
 refine PH.ay Tryz.func27 Tryz.ntmps27 ?_
 refine ab (aa (aI ?_))
 refine aI ?_
 refine aI ?_
 refine ak tk rfl (ac (ab (ab (bp tk mok ⟨false,false,[]⟩ [0,1,2,3,4,5,6,7,8,9] rfl (by decide +kernel) rfl (aQ 3 rfl ?_)))))
 obtain ⟨x12,k12,H⟩ := be H
 refine bc k12.1 (aG bN k12.2) ?_
 refine aQ 3 rfl ?_
 obtain ⟨x16,k16,H⟩ := be H
 refine bc k16.1 (aG bR k16.2) ?_
 refine bK rfl ?_
 obtain ⟨x18,h18,H⟩ := az H
 have s18 := kV sA x12 x16 _ h18
 refine aY Tryz.call53 (jp.r) s18 ?_
 refine bg ?_
 refine aM rfl H (fun H=>?_) (fun H=>?_)
 ·refine ab (aa (ak tk rfl ?_))
  obtain ⟨x20,k20,H⟩ := be H
  refine aV tk k20.1 (aG (fun _=>rfl) k20.2) ?_
  refine ag 3 tk rfl (ac ?_)
  exact bn tk H rfl
 refine av (ab (bp tk mok ⟨false,false,[]⟩ [0,1,2,3,4,5,6,7,8,9,10] rfl (by decide +kernel) rfl (bK rfl ?_)))
 obtain ⟨x24,k24,H⟩ := be H
 refine bc k24.1 (aG (fun _=>rfl) k24.2) ?_
 refine aQ 3 rfl ?_
 obtain ⟨x28,k28,H⟩ := be H
 refine bc k28.1 (aG (fun _=>rfl) k28.2) ?_
 refine aQ 5 rfl (bg ?_)
 exact bn tk H rfl
def eV (rec113 : LChecker → LQuery → Option ((List LCol) × Int)) (c : LChecker) (q : LQuery) : Option ((List LCol) × Int) :=
 af (kO q) fun x16 =>
 cond (!x16)
  (some ([],3))
  (af (aK (σ := List (List LCol)) (ρ := ((List LCol) × Int)) (fun (_ : Nat) (x1 : LQuery) (s1 : List (List LCol)) =>
   af (rec113 c x1) fun x28 =>
   cond (x28.2 != (0 : Int))
    (some (.ret ([],x28.2)))
    (af (dg 24 s1 ([x28.1] : List (List LCol))) fun (x37 : List (List LCol)) =>
    some (.next x37))) 0 q.inputs []) fun fl1=>fl1.thenR fun (s1 : List (List LCol)) =>
  af (ir c q s1) fun x43 =>
  cond (x43.2 != (0 : Int))
   (some ([],x43.2))
   (cond (decide ((x43.1.length : Int) > (20 : Int)))
    (some ([],2))
    (af (aK (σ := Unit) (ρ := ((List LCol) × Int)) (fun (j2 : Nat) (x2 : LCol) (_ : Unit) =>
     af (oF x43.1 0 (j2 : Int)) fun (x61 : List LCol) =>
     af (bZ x61 (fun a0=>some (cp a0 x2))) fun x63 =>
     cond x63
      (some (.ret ([],23)))
      (some (.next ()))) 0 x43.1 ()) fun fl2=>fl2.thenR fun (_ : Unit) =>
    some (x43.1,0))))
theorem pS (rec113 : LChecker → LQuery → Option ((List LCol) × Int)) (hrec113 : ∀ a0 a1 r,rec113 a0 a1 = some r → aP Tryz.prog 113 [(.agg (ek a0)),(.agg (aH a1))] (.tup [(.list 70 (r.1.map aR)),(ap r.2)])) (c : LChecker) (q : LQuery) (r : (List LCol) × Int) (H : eV rec113 c q = some r) :
  aP Tryz.prog 113 [(.agg (ek c)),(.agg (aH q))] (.tup [(.list 70 (r.1.map aR)),(ap r.2)]) := by
 unfold eV at H
 refine PH.ay Tryz.func113 Tryz.ntmps113 ?_
 refine ab (aa (aI ?_))
 refine aI ?_
 refine ag 2 tk rfl (ac (ab (ab (aa (ak tk rfl ?_)))))
 obtain ⟨x16,h16,H⟩ := az H
 have s16 := W_query_shape q _ h16
 refine ao Tryz.call160 (jp.r) s16 ?_
 refine ak tk rfl (ac ?_)
 refine aM rfl H (fun H=>?_) (fun H=>?_)
 ·refine aw 2 tk rfl ?_
  obtain rfl := aE H
  refine bj tk rfl (ps := [(.val (.slice none 0 0)),(ap 3)]) ⟨_,_,rfl,rfl,_,_,rfl,rfl,rfl⟩ (PLe.of2 (PLe2.tup (iJ.cons (PLe2.nil tk rfl) (iJ.cons (PLe2.of_eq rfl) iJ.nil))))
 refine av (aw 1 tk rfl (ab (ab (aa (ag 2 tk rfl (aC tk (zl _) ?_))))))
 refine ak tk rfl (ac (iI tk 6 37 (e := 39) rfl rfl ?_))
 refine ft (γ := OwnRef) tk 21 20 19 (fun s1 g1=>upd (upd (upd (fun _=>.any) 6 (.own 37 g1 (s1.map (aq 70 aR)).length)) 3 (.ptr (aH q))) 2 (.ptr (ek c))) nB (fun s1 g1=>upd (fun _=>none) 37 (some ⟨g1,39,(s1.map (aq 70 aR)),true⟩)) (⟨none,0⟩) H (fun fl1 Hp1 j1 s1 g1 hz1 hl1 x1 fb1 hx1 H hg1=>?_) (fun s1 g1 H=>?_)
 ·refine ab (ax (ab (aa (aV tk (zn j1) (bw bN hx1) ?_))))
  refine ak tk rfl ?_
  refine aX tk fun b8=>?_
  refine au tk ?_
  refine ac (ab (aa (ak tk rfl (aA tk ?_))))
  obtain ⟨x28,h28,H⟩ := az H
  have s28 := hrec113 c x1 _ h28
  refine ao Tryz.call113 (jp.r) s28 ?_
  refine ag 5 tk rfl (ac (ab (aw 2 tk rfl ?_)))
  refine aM rfl H (fun H=>?_) (fun H=>?_)
  ·refine aw 3 tk rfl ?_
   obtain rfl := aE H
   have e1 : fl1 = .ret _ := hg1
   subst e1
   obtain rfl := aZ Hp1
   refine bj tk rfl (ps := [(.val (.slice none 0 0)),(ap x28.2)]) ⟨_,_,rfl,rfl,_,_,rfl,rfl,rfl⟩ (PLe.of2 (PLe2.tup (iJ.cons (PLe2.nil tk rfl) (iJ.cons (PLe2.of_eq rfl) iJ.nil))))
  refine av (aa (ag 2 tk rfl (db tk (rows' := List.map (aq 70 aR) ([x28.1] : List (List LCol))) (it.refl _) ?_)))
  obtain ⟨x37,h37,H⟩ := az H
  have k37 := cx h37
  refine cF (rows2' := List.map (aq 70 aR) ([x28.1] : List (List LCol))) (rows' := List.map (aq 70 aR) x37) tk rfl rfl rfl rfl rfl rfl rfl rfl rfl rfl rfl rfl rfl (it.refl _) (dK k37.1) (dJ k37.2.1) (dM k37.2.2) fun g37=>?_
  refine ak tk rfl (ac (aL (bf 2 tk rfl ?_)))
  exact bu g37 H hl1 hg1
 refine ab (cw 6 rfl rfl rfl (aa (ag 3 tk rfl ?_)))
 obtain ⟨x43,h43,H⟩ := az H
 have s43 := sc c q s1 _ h43
 refine ao Tryz.call161 (jp.r) s43 ?_
 refine ag 5 tk rfl (ac (ab (aw 2 tk rfl ?_)))
 refine aM rfl H (fun H=>?_) (fun H=>?_)
 ·refine aw 3 tk rfl ?_
  obtain rfl := aE H
  refine bj tk rfl (ps := [(.val (.slice none 0 0)),(ap x43.2)]) ⟨_,_,rfl,rfl,_,_,rfl,rfl,rfl⟩ (PLe.of2 (PLe2.tup (iJ.cons (PLe2.nil tk rfl) (iJ.cons (PLe2.of_eq rfl) iJ.nil))))
 refine av (ab (ab (aa (ak tk rfl (aC tk (zl _) ?_)))))
 refine ak tk rfl (ac ?_)
 refine aM rfl H (fun H=>?_) (fun H=>?_)
 ·refine aw 2 tk rfl ?_
  obtain rfl := aE H
  refine bj tk rfl (ps := [(.val (.slice none 0 0)),(ap 2)]) ⟨_,_,rfl,rfl,_,_,rfl,rfl,rfl⟩ (PLe.of2 (PLe2.tup (iJ.cons (PLe2.nil tk rfl) (iJ.cons (PLe2.of_eq rfl) iJ.nil))))
 refine av (ab (ab (aa (ak tk rfl (aC tk (zl _) ?_)))))
 refine ak tk rfl (ac ?_)
 refine ft tk 54 53 52 (fun s2 g2=>upd (fun _=>.any) 11 (.list 70 (x43.1.map aR))) nB nO () H (fun fl2 Hp2 j2 s2 g2 hz2 hl2 x2 fb2 hx2 H hg2=>?_) (fun s2 g2 H=>?_)
 ·refine ab (ax (ab (aa (ak tk rfl ?_))))
  refine aV tk (zn j2) (bw (fun _=>rfl) hx2) ?_
  refine ak tk rfl ?_
  refine aX tk fun b14=>?_
  refine ak tk rfl (au tk ?_)
  refine ac (ab (aa (ag 2 tk rfl ?_)))
  obtain ⟨x61,h61,H⟩ := az H
  have k61 := qr h61
  refine uH tk rfl rfl rfl rfl rfl (zl _) rfl rfl k61.1 (rI k61.2) rfl (ef (Gh.freezeB 14 rfl rfl rfl rfl) (ak tk rfl ?_))
  obtain ⟨x63,h63,H⟩ := az H
  have s63 := jS x61 (fun a0=>some (cp a0 x2)) Tryz.call163 (fun a0 r h=>(aE h) ▸ pi a0 x2) _ h63
  refine ao Tryz.call162 (jp.r) s63 ?_
  refine ac ?_
  refine aM rfl H (fun H=>?_) (fun H=>?_)
  ·refine aw 2 tk rfl ?_
   obtain rfl := aE H
   have e2 : fl2 = .ret _ := hg2
   subst e2
   obtain rfl := aZ Hp2
   refine bj tk rfl (ps := [(.val (.slice none 0 0)),(ap 23)]) ⟨_,_,rfl,rfl,_,_,rfl,rfl,rfl⟩ (PLe.of2 (PLe2.tup (iJ.cons (PLe2.nil tk rfl) (iJ.cons (PLe2.of_eq rfl) iJ.nil))))
  refine av (aL (bf 2 tk rfl ?_))
  exact bu () H hl2 hg2
 refine aw 3 tk rfl ?_
 exact bn tk H rfl
def eY : Nat → LChecker → LQuery → Option ((List LCol) × Int)
 | 0,_,_=>none
 | n + 1,v0,v1=>eV (fun b0 b1=>eY n b0 b1) v0 v1
theorem pQ  (n : Nat) : (∀ a0 a1 r,eY n a0 a1 = some r → aP Tryz.prog 113 [(.agg (ek a0)),(.agg (aH a1))] (.tup [(.list 70 (r.1.map aR)),(ap r.2)])) := by
 induction n with
 | zero=>exact (by intros; rename_i h; exact absurd (show (none : Option _) = some _ from h) (by simp))
 | succ n ih =>
  exact (fun v0 v1 r h=>pS (fun b0 b1=>eY n b0 b1) ih v0 v1  r h)
def eW (c : LChecker) (q : LQuery) : Option ((List LCol) × Int) := iF fun n=>eY n c q
theorem lG (c : LChecker) (q : LQuery) (r : (List LCol) × Int) (H : eW c q = some r) :
  aP Tryz.prog 113 [(.agg (ek c)),(.agg (aH q))] (.tup [(.list 70 (r.1.map aR)),(ap r.2)]) := by
 obtain ⟨n,h⟩ := iC H
 exact (pQ  n) c q r h
def fQ (rA : LRun) (q : LQuery) (cols : List LCol) (inA : Rz) : Option (Rz) :=
 af (cM inA (fun a0 a1=>fU a0 a1 rA cols q)) fun x14 =>
 af (fm (x14.length = inA.length) ()) fun (_ : Unit) =>
 some x14
theorem us (rA : LRun) (q : LQuery) (cols : List LCol) (inA : Rz) (r : Rz) (H : fQ rA q cols inA = some r) :
  aP Tryz.prog 124 [(.agg (dS rA)),(.agg (aH q)),(.list 70 (cols.map aR)),(.list 77 (inA.map (aq 75 ae)))] (.list 77 (r.map (aq 75 ae))) := by
 unfold fQ at H
 refine PH.ay Tryz.func124 Tryz.ntmps124 ?_
 refine ab (aa (aI ?_))
 refine aI ?_
 refine aI ?_
 refine ak tk rfl (ac (ab (aa (ak tk rfl ?_))))
 have s11 := qm (m := 11) inA
 refine mm (g := 115) rfl rfl rfl Tryz.call115 (jp.r) rfl rfl s11 (fun g11=>?_)
 refine ak tk rfl (ac (ab (aa (ag 2 tk rfl ?_))))
 obtain ⟨x14,h14,H⟩ := az H
 have s14 := kF g11 inA (fun a0 a1=>fU a0 a1 rA cols q) Tryz.call174 (fun a0 a1 r h=>sM a0 a1 rA cols q r h) _ h14
 obtain ⟨_,q14_0,H⟩ := az H
 have l14_0 := (dH q14_0).1
 have z14_0 : (List.map (aq 75 ae) inA).length = (List.map (aq 75 ae) x14).length := by simpa using (l14_0).symm
 refine eK (g := 173) rfl rfl rfl Tryz.call173 [] [(11,0)] rfl rfl rfl rfl (jp.of2 (iJ.cons (PLe2.own rfl) (iJ.cons (PLe2.of_eq rfl) iJ.nil))) (by rw [dX,dv,dY]; rfl) s14 ?_
 rintro u14 H14h ⟨rfl,rfl⟩
 refine ⟨_,rfl,?_⟩
 refine ef (st' := ⟨_,_,fun _=>none,upd (fun _=>none) 11 (some ⟨g11,77,(x14.map (aq 75 ae)),true⟩)⟩) (Gh.le (dp _ _) aT (bI aS)) ?_
 refine ac (aw 2 tk rfl (cw 8 rfl rfl z14_0 ?_))
 exact bn tk H rfl
def dI (rec9 : LSchema → (List LCardinalityTableSize) → LQuery → Option (LCardinalityBounds)) (sA : LSchema) (sizes : List LCardinalityTableSize) (q : LQuery) : Option (LCardinalityBounds) :=
 af (aK (σ := List LCardinalityBounds) (ρ := Empty) (fun (_ : Nat) (x1 : LQuery) (s1 : List LCardinalityBounds) =>
  af (rec9 sA sizes x1) fun x24 =>
  af (dg 16 s1 ([x24] : List LCardinalityBounds)) fun (x26 : List LCardinalityBounds) =>
  some (.next x26)) 0 q.inputs []) fun fl1=>fl1.thenP fun (s1 : List LCardinalityBounds) =>
 cond (q.kind == (1 : Int))
  (af (aK (σ := Unit) (ρ := (LCardinalityBounds)) (fun (_ : Nat) (x2 : LCardinalityTableSize) (_ : Unit) =>
   cond (x2.table == q.table)
    (some (.ret (LCardinalityBounds.mk x2.rows x2.rows)))
    (some (.next ()))) 0 sizes ()) fun fl2=>fl2.thenR fun (_ : Unit) =>
  some (LCardinalityBounds.mk 0 0))
  (cond (q.kind == (2 : Int))
   (af (aF s1 0) fun (x52 : LCardinalityBounds) =>
   af (aF q.exprs 0) fun (x56 : LExpr) =>
   bC (iq x52 x56) fun x58 =>
   some x58)
   (cond (q.kind == (4 : Int))
    (af (gK sA q s1) fun x64 =>
    some x64)
    (cond (q.kind == (5 : Int))
     (af (gK sA q s1) fun x70 =>
     af (aF s1 0) fun (x72 : LCardinalityBounds) =>
     af (aF s1 0) fun (x79 : LCardinalityBounds) =>
     af (iG sA q s1 x70) fun x86 =>
     some (LCardinalityBounds.mk (if x70.low > x72.low then x70.low else x72.low) (if x86 > x79.high then x86 else x79.high)))
     (cond (q.kind == (6 : Int))
      (af (aF s1 0) fun (x92 : LCardinalityBounds) =>
      af (aF s1 1) fun (x96 : LCardinalityBounds) =>
      af (aF s1 0) fun (x101 : LCardinalityBounds) =>
      af (aF s1 1) fun (x105 : LCardinalityBounds) =>
      some (LCardinalityBounds.mk (IntKind.i64.wrap (x92.low + x96.low)) (IntKind.i64.wrap (x101.high + x105.high))))
      (cond (q.kind == (7 : Int))
       (af (aF s1 0) fun (x113 : LCardinalityBounds) =>
       af (aF s1 1) fun (x117 : LCardinalityBounds) =>
       af (aF s1 0) fun (x123 : LCardinalityBounds) =>
       some (LCardinalityBounds.mk (if (IntKind.i64.wrap (x113.low - x117.high)) > (0 : Int) then (IntKind.i64.wrap (x113.low - x117.high)) else (0 : Int)) x123.high))
       (cond (q.kind == (8 : Int))
        (cond ((q.exprs.length : Int) == (0 : Int))
         (some (LCardinalityBounds.mk 1 1))
         (af (aF s1 0) fun (x135 : LCardinalityBounds) =>
         af (aF s1 0) fun (x140 : LCardinalityBounds) =>
         some (LCardinalityBounds.mk (if x135.low < (1 : Int) then x135.low else (1 : Int)) x140.high)))
        (cond (q.kind == (10 : Int))
         (af (aF s1 0) fun (x149 : LCardinalityBounds) =>
         af (aF s1 0) fun (x160 : LCardinalityBounds) =>
         some (LCardinalityBounds.mk (if (if (IntKind.i64.wrap (x149.low - q.offset)) > (0 : Int) then (IntKind.i64.wrap (x149.low - q.offset)) else (0 : Int)) < q.count then (if (IntKind.i64.wrap (x149.low - q.offset)) > (0 : Int) then (IntKind.i64.wrap (x149.low - q.offset)) else (0 : Int)) else q.count) (if (if (IntKind.i64.wrap (x160.high - q.offset)) > (0 : Int) then (IntKind.i64.wrap (x160.high - q.offset)) else (0 : Int)) < q.count then (if (IntKind.i64.wrap (x160.high - q.offset)) > (0 : Int) then (IntKind.i64.wrap (x160.high - q.offset)) else (0 : Int)) else q.count)))
         (cond (q.kind == (3 : Int))
          (cond (q.kind == (3 : Int))
           (af (aF s1 0) fun (x173 : LCardinalityBounds) =>
           some x173)
           (some (LCardinalityBounds.mk 0 0)))
          (cond (q.kind == (9 : Int))
           (af (aF s1 0) fun (x173 : LCardinalityBounds) =>
           some x173)
           (some (LCardinalityBounds.mk 0 0)))))))))))
theorem qa (rec9 : LSchema → (List LCardinalityTableSize) → LQuery → Option (LCardinalityBounds)) (hrec9 : ∀ a0 a1 a2 r,rec9 a0 a1 a2 = some r → aP Tryz.prog 9 [(.agg (bM a0)),(.list 89 (a1.map co)),(.agg (aH a2))] (.agg (bS r))) (sA : LSchema) (sizes : List LCardinalityTableSize) (q : LQuery) (r : LCardinalityBounds) (H : dI rec9 sA sizes q = some r) :
  aP Tryz.prog 9 [(.agg (bM sA)),(.list 89 (sizes.map co)),(.agg (aH q))] (.agg (bS r)) := by
 unfold dI at H
 refine PH.ay Tryz.func9 Tryz.ntmps9 ?_
 refine ab (aa (aI ?_))
 refine aI ?_
 refine aX tk fun b6=>?_
 refine ac (aw 1 tk rfl (ab (ab (aa (ag 2 tk rfl (aC tk (zl _) ?_))))))
 refine ak tk rfl (ac (iI tk 7 26 (e := 46) rfl rfl ?_))
 refine gP (γ := OwnRef) tk 16 15 14 (fun s1 g1=>upd (upd (upd (upd (upd (fun _=>.any) 7 (.own 26 g1 (s1.map bS).length)) 6 (.box 6 b6 0)) 5 (.ptr (aH q))) 3 (.ptr (bM sA))) 1 (.list 89 (sizes.map co))) (fun s1 g1=>upd (fun _=>none) 6 (some ⟨b6,[(ap 0),(ap 0)]⟩)) (fun s1 g1=>upd (fun _=>none) 26 (some ⟨g1,46,(s1.map bS),true⟩)) (⟨none,0⟩) H (fun fl1 Hp1 j1 s1 g1 hz1 hl1 x1 fb1 hx1 H hg1=>?_) (fun s1 g1 H=>?_)
 ·refine ab (ax (ab (aa (aV tk (zn j1) (bw bN hx1) ?_))))
  refine ak tk rfl ?_
  refine aX tk fun b9=>?_
  refine au tk ?_
  refine ac (aa (ag 3 tk rfl (aA tk ?_)))
  obtain ⟨x24,h24,H⟩ := az H
  have s24 := hrec9 sA sizes x1 _ h24
  refine ao Tryz.call9 (jp.r) s24 ?_
  refine db tk (rows' := List.map bS ([x24] : List LCardinalityBounds)) (it.refl _) ?_
  obtain ⟨x26,h26,H⟩ := az H
  have k26 := cx h26
  refine cF (rows2' := List.map bS ([x24] : List LCardinalityBounds)) (rows' := List.map bS x26) tk rfl rfl rfl rfl rfl rfl rfl rfl rfl rfl rfl rfl rfl (it.refl _) (dK k26.1) (dJ k26.2.1) (dM k26.2.2) fun g26=>?_
  refine ak tk rfl (ac (aL (bf 2 tk rfl ?_)))
  exact bu g26 H hl1 hg1
 refine ab (aw 2 tk rfl (ax (aw 2 tk rfl ?_)))
 refine aM rfl H (fun H=>?_) (fun H=>?_)
 ·refine ab (aa (ak tk rfl (aC tk (zl _) ?_)))
  refine ak tk rfl (ac ?_)
  refine ft tk 34 33 32 (fun s2 g2=>upd (upd (fun _=>.any) 6 (.box 6 b6 0)) 5 (.ptr (aH q))) (fun s2 g2=>upd (fun _=>none) 6 (some ⟨b6,[(ap 0),(ap 0)]⟩)) nO () H (fun fl2 Hp2 j2 s2 g2 hz2 hl2 x2 fb2 hx2 H hg2=>?_) (fun s2 g2 H=>?_)
  ·refine ab (ax (ab (aa ?_)))
   refine aV tk (zn j2) (bw (fun _=>rfl) hx2) ?_
   refine ak tk rfl ?_
   refine aX tk fun b11=>?_
   refine au tk ?_
   refine ac (ab (aa (ak tk rfl (aA tk ?_))))
   refine ag 3 tk rfl (ac ?_)
   refine aM rfl H (fun H=>?_) (fun H=>?_)
   ·refine ab (aa (ak tk rfl (aA tk ?_)))
    refine ak tk rfl (aA tk ?_)
    refine ak tk rfl (au tk ?_)
    refine ac ?_
    obtain rfl := aE H
    have e2 : fl2 = .ret _ := hg2
    subst e2
    obtain rfl := aZ Hp2
    refine bj tk rfl (ps := [(.agg [(ap x2.rows),(ap x2.rows)])]) ⟨_,_,rfl,⟨_,_,_,_,_,rfl,rfl,rfl,rfl⟩,rfl⟩ (PLe.q rfl)
   refine av (aL (bf 2 tk rfl ?_))
   exact bu () H hl2 hg2
  refine aL (ab (aa (ak tk rfl (au tk ?_))))
  refine ac ?_
  exact iM tk H rfl rfl rfl rfl rfl
 refine aw 2 tk rfl ?_
 refine aM rfl H (fun H=>?_) (fun H=>?_)
 ·refine ab (cw 7 rfl rfl rfl (bp tk mok ⟨false,false,[]⟩ [0,1,2,3,4,5,6,7,8] rfl (by decide +kernel) rfl (bK rfl ?_)))
  obtain ⟨x52,k52,H⟩ := be H
  refine bc k52.1 (aG (fun _=>rfl) k52.2) ?_
  refine aQ 3 rfl ?_
  obtain ⟨x56,k56,H⟩ := be H
  refine bc k56.1 (aG bR k56.2) ?_
  refine bK rfl ?_
  obtain ⟨x58,h58,H⟩ := cO H
  have s58 := sd x52 x56
  rw [h58] at s58
  refine aY Tryz.call25 (jp.r) s58 ?_
  refine ce ?_
  refine bg ?_
  exact iM tk H rfl rfl rfl rfl rfl
 refine aw 2 tk rfl ?_
 refine aM rfl H (fun H=>?_) (fun H=>?_)
 ·refine ab (cw 7 rfl rfl rfl (aa (ag 3 tk rfl ?_)))
  obtain ⟨x64,h64,H⟩ := az H
  have s64 := oq sA q s1 _ h64
  refine ao Tryz.call26 (jp.r) s64 ?_
  refine au tk ?_
  refine ac ?_
  exact iM tk H rfl rfl rfl rfl rfl
 refine aw 2 tk rfl ?_
 refine aM rfl H (fun H=>?_) (fun H=>?_)
 ·refine ab (cw 7 rfl rfl rfl (aa (ag 3 tk rfl ?_)))
  obtain ⟨x70,h70,H⟩ := az H
  have s70 := oq sA q s1 _ h70
  refine ao Tryz.call26 (jp.r) s70 ?_
  refine aX tk fun b12=>?_
  refine au tk ?_
  refine ac (ab (sD 12 rfl rfl rfl rfl (bp tk mok ⟨false,false,[]⟩ [0,1,2,3,4,5,6,7,8,9,10,11,12,13,14,15,16,17,18] rfl (by decide +kernel) rfl (bK rfl ?_))))
  obtain ⟨x72,k72,H⟩ := be H
  refine bc k72.1 (aG (fun _=>rfl) k72.2) ?_
  refine aQ 6 rfl ?_
  obtain ⟨x79,k79,H⟩ := be H
  refine bc k79.1 (aG (fun _=>rfl) k79.2) ?_
  refine aQ 6 rfl ?_
  obtain ⟨x86,h86,H⟩ := az H
  have s86 := sG sA q s1 x70 _ h86
  refine aY Tryz.call27 (jp.r) s86 ?_
  refine aQ 2 rfl (ce ?_)
  refine bg ?_
  exact iM tk H rfl rfl rfl rfl rfl
 refine aw 2 tk rfl ?_
 refine aM rfl H (fun H=>?_) (fun H=>?_)
 ·refine ab (cw 7 rfl rfl rfl (bp tk mok ⟨false,false,[]⟩ [0,1,2,3,4,5,6,7,8,9,10,11,12,13,14,15,16,17,18,19] rfl (by decide +kernel) rfl (bK rfl ?_)))
  obtain ⟨x92,k92,H⟩ := be H
  refine bc k92.1 (aG (fun _=>rfl) k92.2) ?_
  refine aQ 3 rfl ?_
  obtain ⟨x96,k96,H⟩ := be H
  refine bc k96.1 (aG (fun _=>rfl) k96.2) ?_
  refine aQ 4 rfl ?_
  obtain ⟨x101,k101,H⟩ := be H
  refine bc k101.1 (aG (fun _=>rfl) k101.2) ?_
  refine aQ 3 rfl ?_
  obtain ⟨x105,k105,H⟩ := be H
  refine bc k105.1 (aG (fun _=>rfl) k105.2) ?_
  refine aQ 4 rfl (ce ?_)
  refine bg ?_
  exact iM tk H rfl rfl rfl rfl rfl
 refine aw 2 tk rfl ?_
 refine aM rfl H (fun H=>?_) (fun H=>?_)
 ·refine ab (cw 7 rfl rfl rfl (bp tk mok ⟨false,false,[]⟩ [0,1,2,3,4,5,6,7,8,9,10,11,12,13,14,15] rfl (by decide +kernel) rfl (bK rfl ?_)))
  obtain ⟨x113,k113,H⟩ := be H
  refine bc k113.1 (aG (fun _=>rfl) k113.2) ?_
  refine aQ 3 rfl ?_
  obtain ⟨x117,k117,H⟩ := be H
  refine bc k117.1 (aG (fun _=>rfl) k117.2) ?_
  refine aQ 5 rfl ?_
  obtain ⟨x123,k123,H⟩ := be H
  refine bc k123.1 (aG (fun _=>rfl) k123.2) ?_
  refine aQ 3 rfl (ce ?_)
  refine bg ?_
  exact iM tk H rfl rfl rfl rfl rfl
 refine aw 2 tk rfl ?_
 refine aM rfl H (fun H=>?_) (fun H=>?_)
 ·refine ab (ab (aa (ag 2 tk rfl (aC tk (zl _) ?_))))
  refine ak tk rfl (ac ?_)
  refine aM rfl H (fun H=>?_) (fun H=>?_)
  ·refine ab (aa (ak tk rfl (au tk ?_)))
   refine ac ?_
   exact iM tk H rfl rfl rfl rfl rfl
  refine av (ab (cw 7 rfl rfl rfl (bp tk mok ⟨false,false,[]⟩ [0,1,2,3,4,5,6,7,8,9,10] rfl (by decide +kernel) rfl (bK rfl ?_))))
  obtain ⟨x135,k135,H⟩ := be H
  refine bc k135.1 (aG (fun _=>rfl) k135.2) ?_
  refine aQ 4 rfl ?_
  obtain ⟨x140,k140,H⟩ := be H
  refine bc k140.1 (aG (fun _=>rfl) k140.2) ?_
  refine aQ 3 rfl (ce ?_)
  refine bg ?_
  exact iM tk H rfl rfl rfl rfl rfl
 refine aw 2 tk rfl ?_
 refine aM rfl H (fun H=>?_) (fun H=>?_)
 ·refine ab (cw 7 rfl rfl rfl (bp tk mok ⟨false,false,[]⟩ [0,1,2,3,4,5,6,7,8,9,10,11,12,13,14,15,16,17,18,19,20,21,22,23] rfl (by decide +kernel) rfl (aQ 3 rfl ?_)))
  obtain ⟨x149,k149,H⟩ := be H
  refine bc k149.1 (aG (fun _=>rfl) k149.2) ?_
  refine aQ 10 rfl ?_
  obtain ⟨x160,k160,H⟩ := be H
  refine bc k160.1 (aG (fun _=>rfl) k160.2) ?_
  refine aQ 8 rfl (ce ?_)
  refine bg ?_
  exact iM tk H rfl rfl rfl rfl rfl
 refine ab (aw 2 tk rfl ?_)
 refine aM rfl H (fun H=>?_) (fun H=>?_)
 ·refine av ?_
  refine aM rfl H (fun H=>?_) (fun H=>?_)
  ·refine ab (cw 7 rfl rfl rfl (aa (ak tk rfl ?_)))
   obtain ⟨x173,k173,H⟩ := be H
   refine aV tk k173.1 (aG (fun _=>rfl) k173.2) ?_
   refine ak tk rfl (au tk ?_)
   refine ac ?_
   exact iM tk H rfl rfl rfl rfl rfl
  refine av (aL (ab (aa (ak tk rfl (au tk ?_)))))
  refine ac ?_
  exact iM tk H rfl rfl rfl rfl rfl
 refine bf 2 tk rfl ?_
 refine aM rfl H (fun H=>?_) (fun H=>?_)
 ·refine ab (cw 7 rfl rfl rfl (aa (ak tk rfl ?_)))
  obtain ⟨x173,k173,H⟩ := be H
  refine aV tk k173.1 (aG (fun _=>rfl) k173.2) ?_
  refine ak tk rfl (au tk ?_)
  refine ac ?_
  exact iM tk H rfl rfl rfl rfl rfl
 refine av (aL (ab (aa (ak tk rfl (au tk ?_)))))
 refine ac ?_
 exact iM tk H rfl rfl rfl rfl rfl
def gw : Nat → LSchema → (List LCardinalityTableSize) → LQuery → Option (LCardinalityBounds)
 | 0,_,_,_=>none
 | n + 1,v0,v1,v2=>dI (fun b0 b1 b2=>gw n b0 b1 b2) v0 v1 v2
theorem pZ  (n : Nat) : (∀ a0 a1 a2 r,gw n a0 a1 a2 = some r → aP Tryz.prog 9 [(.agg (bM a0)),(.list 89 (a1.map co)),(.agg (aH a2))] (.agg (bS r))) := by
 induction n with
 | zero=>exact (by intros; rename_i h; exact absurd (show (none : Option _) = some _ from h) (by simp))
 | succ n ih =>
  exact (fun v0 v1 v2 r h=>qa (fun b0 b1 b2=>gw n b0 b1 b2) ih v0 v1 v2  r h)
def cj (sA : LSchema) (sizes : List LCardinalityTableSize) (q : LQuery) : Option (LCardinalityBounds) := iF fun n=>gw n sA sizes q
theorem qE (sA : LSchema) (sizes : List LCardinalityTableSize) (q : LQuery) (r : LCardinalityBounds) (H : cj sA sizes q = some r) :
  aP Tryz.prog 9 [(.agg (bM sA)),(.list 89 (sizes.map co)),(.agg (aH q))] (.agg (bS r)) := by
 obtain ⟨n,h⟩ := iC H
 exact (pZ  n) sA sizes q r h
def gp (sA : LSchema) (vars : List LCol) (q : LQuery) : Option ((List LCol) × Int) :=
 af (
  af (jI q) fun x12 =>
  cond (decide ((x12.length : Int) > (24 : Int)))
   (some true)
   (af (kP q) fun x17 =>
   cond (decide (x17 > (12 : Int)))
    (some true)
    (af (gk q) fun x22 =>
    some (decide (x22 > (20000 : Int)))))) fun (t1 : Bool) =>
 cond t1
  (some ([],2))
  (af (fA q) fun x27 =>
  cond (x27.2 != (0 : Int))
   (some ([],x27.2))
   (af (eW (LChecker.mk sA vars) q) fun x38 =>
   some (x38.1,x38.2)))
theorem nn (sA : LSchema) (vars : List LCol) (q : LQuery) (r : (List LCol) × Int) (H : gp sA vars q = some r) :
  aP Tryz.prog 71 [(.agg (bM sA)),(.list 70 (vars.map aR)),(.agg (aH q))] (.tup [(.list 70 (r.1.map aR)),(ap r.2)]) := by
 unfold gp at H
 refine PH.ay Tryz.func71 Tryz.ntmps71 ?_
 refine ab (aa (aI ?_))
 refine aI ?_
 refine ag 2 tk rfl (ac (ab (ab ?_)))
 refine gM (γ := Unit) (fun t1 g1=>⟨41,upd (upd (upd (upd (fun _=>.any) 24 (aN t1)) 5 (.ptr (aH q))) 3 (.ptr (bM sA))) 1 (.list 70 (vars.map aR)),fun _=>none,fun _=>none⟩) H (fun _ H=>?_) (fun t1 g1 H=>?_)
 ·refine aa (ak tk rfl ?_)
  obtain ⟨x12,h12,H⟩ := az H
  have s12 := rM (m := 12) q _ h12
  refine ao Tryz.call34 (jp.r) (PFun.iB s12) ?_
  refine aC tk (zl _) ?_
  refine ag 2 tk rfl ?_
  refine bq rfl rfl rfl H (fun H=>?_) (fun H=>?_)
  ·refine ag 9 tk rfl (ac ?_)
   refine bd _ () (aE H) Gh.d
  refine ak tk rfl ?_
  obtain ⟨x17,h17,H⟩ := az H
  have s17 := W_query_depth q _ h17
  refine ao Tryz.call111 (jp.r) s17 ?_
  refine ag 3 tk rfl ?_
  refine bq rfl rfl rfl H (fun H=>?_) (fun H=>?_)
  ·refine ag 4 tk rfl (ac ?_)
   refine bd _ () (aE H) Gh.d
  refine ak tk rfl ?_
  obtain ⟨x22,h22,H⟩ := az H
  have s22 := ot q _ h22
  refine ao Tryz.call112 (jp.r) s22 ?_
  refine ag 2 tk rfl (ac ?_)
  refine bd _ () (aE H) Gh.d
 refine aM rfl H (fun H=>?_) (fun H=>?_)
 ·refine aw 2 tk rfl ?_
  obtain rfl := aE H
  refine bj tk rfl (ps := [(.val (.slice none 0 0)),(ap 2)]) ⟨_,_,rfl,rfl,_,_,rfl,rfl,rfl⟩ (PLe.of2 (PLe2.tup (iJ.cons (PLe2.nil tk rfl) (iJ.cons (PLe2.of_eq rfl) iJ.nil))))
 refine av (ab (ab (aa (ak tk rfl ?_))))
 obtain ⟨x27,h27,H⟩ := az H
 have s27 := lO q _ h27
 refine ao Tryz.call14 (jp.r) s27 ?_
 refine ag 5 tk rfl (ac (aw 2 tk rfl ?_))
 refine aM rfl H (fun H=>?_) (fun H=>?_)
 ·refine aw 3 tk rfl ?_
  obtain rfl := aE H
  refine bj tk rfl (ps := [(.val (.slice none 0 0)),(ap x27.2)]) ⟨_,_,rfl,rfl,_,_,rfl,rfl,rfl⟩ (PLe.of2 (PLe2.tup (iJ.cons (PLe2.nil tk rfl) (iJ.cons (PLe2.of_eq rfl) iJ.nil))))
 refine av (ab (aa (ag 3 tk rfl ?_)))
 refine aX tk fun b10=>?_
 refine au tk ?_
 refine ac (ab (aa (aA tk ?_)))
 refine ak tk rfl ?_
 obtain ⟨x38,h38,H⟩ := az H
 have s38 := lG (LChecker.mk sA vars) q _ h38
 refine ao Tryz.call113 (jp.r) s38 ?_
 refine ag 4 tk rfl (ac ?_)
 exact bn tk H rfl
def gG (rA : LRun) (q : LQuery) : Option ((List LCol)) :=
 af (eW (LChecker.mk rA.s rA.vars) q) fun x14 =>
 some x14.1
theorem ml (rA : LRun) (q : LQuery) (r : (List LCol)) (H : gG rA q = some r) :
  aP Tryz.prog 117 [(.agg (dS rA)),(.agg (aH q))] (.list 70 (r.map aR)) := by
 unfold gG at H
 refine PH.ay Tryz.func117 Tryz.ntmps117 ?_
 refine ab (aa (aI ?_))
 refine aI ?_
 refine ak tk rfl (ac (ab (aa (ag 6 tk rfl ?_))))
 obtain ⟨x14,h14,H⟩ := az H
 have s14 := lG (LChecker.mk rA.s rA.vars) q _ h14
 refine ao Tryz.call113 (jp.r) s14 ?_
 refine ag 5 tk rfl (ac (aw 2 tk rfl ?_))
 exact bn tk H rfl
def lW (sA : LSchema) (q : LQuery) : Option ((List LCol) × Int) :=
 af (gp sA ([] : List LCol) q) fun x8 =>
 some (x8.1,x8.2)
theorem W_query_Check (sA : LSchema) (q : LQuery) (r : (List LCol) × Int) (H : lW sA q = some r) :
  aP Tryz.prog 48 [(.agg (bM sA)),(.agg (aH q))] (.tup [(.list 70 (r.1.map aR)),(ap r.2)]) := by
 unfold lW at H
 refine PH.ay Tryz.func48 Tryz.ntmps48 ?_
 refine ab (aa (aI ?_))
 refine aI ?_
 refine ag 2 tk rfl (ac (ab (aa (ag 2 tk rfl ?_))))
 obtain ⟨x8,h8,H⟩ := az H
 have s8 := nn sA ([] : List LCol) q _ h8
 refine ao Tryz.call71 (jp.of2 (iJ.cons (PLe2.of_eq rfl) (iJ.cons (PLe2.nil tk rfl) (iJ.cons (PLe2.of_eq rfl) iJ.nil)))) s8 ?_
 refine ag 4 tk rfl (ac ?_)
 exact bn tk H rfl
def ky (rec72 : LRun → LQuery → Option (Rz)) (rec114 : LRun → LQuery → Option (Rz)) (rA : LRun) (q : LQuery) : Option (Rz) :=
 cond (q.kind == (1 : Int))
  (af (aK (σ := Unit) (ρ := (Rz)) (fun (_ : Nat) (x1 : LRelation) (_ : Unit) =>
   cond (x1.table == q.table)
    (some (.ret x1.rows))
    (some (.next ()))) 0 rA.st ()) fun fl1=>fl1.thenR fun (_ : Unit) =>
  some [])
  (bC (
   cond (q.kind == (4 : Int))
    ((q.kind == (4 : Int)))
    ((q.kind == (5 : Int)))) fun (t2 : Bool) =>
  cond t2
   (af (rec114 rA q) fun x37 =>
   some x37)
   (cond (q.kind == (6 : Int))
    (af (aF q.inputs 0) fun (x43 : LQuery) =>
    af (aF q.inputs 1) fun (x50 : LQuery) =>
    af (rec72 rA x43) fun x45 =>
    af (rec72 rA x50) fun x52 =>
    af (dg 24 x45 x52) fun (x53 : Rz) =>
    some x53)
    (cond (q.kind == (7 : Int))
     (af (aF q.inputs 0) fun (x59 : LQuery) =>
     af (aF q.inputs 1) fun (x65 : LQuery) =>
     af (rec72 rA x59) fun x61 =>
     af (rec72 rA x65) fun x67 =>
     af (lu x61 x67) fun x68 =>
     some x68)
     (af (aF q.inputs 0) fun (x72 : LQuery) =>
     af (rec72 rA x72) fun x74 =>
     af (aF q.inputs 0) fun (x78 : LQuery) =>
     af (gG rA x78) fun x80 =>
     cond (q.kind == (2 : Int))
      (af (dq x74 (fun a0=>iE a0 rA x80 q)) fun x88 =>
      some x88)
      (cond (q.kind == (3 : Int))
       (af (aK (σ := Rz) (ρ := Empty) (fun (_ : Nat) (x3 : Rq) (s3 : Rz) =>
        af (dC rA x80 x3 q.exprs) fun x103 =>
        af (dg 24 s3 ([x103] : Rz)) fun (x105 : Rz) =>
        some (.next x105)) 0 x74 []) fun fl3=>fl3.thenP fun (s3 : Rz) =>
       some s3)
       (cond (q.kind == (8 : Int))
        (af (iU rA q x80 x74) fun x114 =>
        some x114)
        (cond (q.kind == (9 : Int))
         (af (fQ rA q x80 x74) fun x121 =>
         some x121)
         (af (oF x74 (if (x74.length : Int) < q.offset then (x74.length : Int) else q.offset) (IntKind.i64.wrap ((if (x74.length : Int) < q.offset then (x74.length : Int) else q.offset) + (if (IntKind.i64.wrap ((x74.length : Int) - (if (x74.length : Int) < q.offset then (x74.length : Int) else q.offset))) < q.count then (IntKind.i64.wrap ((x74.length : Int) - (if (x74.length : Int) < q.offset then (x74.length : Int) else q.offset))) else q.count)))) fun (x138 : Rz) =>
         some x138))))))))
theorem tD (rec72 : LRun → LQuery → Option (Rz)) (rec114 : LRun → LQuery → Option (Rz)) (hrec72 : ∀ a0 a1 r,rec72 a0 a1 = some r → aP Tryz.prog 72 [(.agg (dS a0)),(.agg (aH a1))] (.list 77 (r.map (aq 75 ae)))) (hrec114 : ∀ a0 a1 r,rec114 a0 a1 = some r → aP Tryz.prog 114 [(.agg (dS a0)),(.agg (aH a1))] (.list 77 (r.map (aq 75 ae)))) (rA : LRun) (q : LQuery) (r : Rz) (H : ky rec72 rec114 rA q = some r) :
  aP Tryz.prog 72 [(.agg (dS rA)),(.agg (aH q))] (.list 77 (r.map (aq 75 ae))) := by
 unfold ky at H
 refine PH.ay Tryz.func72 Tryz.ntmps72 ?_
 refine ab (aa (aI ?_))
 refine aI ?_
 refine ak tk rfl (ac (ab (aw 2 tk rfl (ax (aw 2 tk rfl ?_)))))
 refine aM rfl H (fun H=>?_) (fun H=>?_)
 ·refine ab (ab (aa (ag 2 tk rfl (aC tk (zl _) ?_))))
  refine ak tk rfl (ac ?_)
  refine ft tk 20 19 18 (fun s1 g1=>upd (fun _=>.any) 3 (.ptr (aH q))) nB nO () H (fun fl1 Hp1 j1 s1 g1 hz1 hl1 x1 fb1 hx1 H hg1=>?_) (fun s1 g1 H=>?_)
  ·refine ab (ax (ab (aa ?_)))
   refine aV tk (zn j1) (bw (fun _=>rfl) hx1) ?_
   refine ak tk rfl ?_
   refine aX tk fun b6=>?_
   refine au tk ?_
   refine ac (ab (aa (ak tk rfl (aA tk ?_))))
   refine ag 3 tk rfl (ac ?_)
   refine aM rfl H (fun H=>?_) (fun H=>?_)
   ·refine ab (aa (ak tk rfl (aA tk ?_)))
    refine ak tk rfl (ac ?_)
    obtain rfl := aE H
    have e1 : fl1 = .ret _ := hg1
    subst e1
    obtain rfl := aZ Hp1
    refine bj tk rfl (ps := [(.list 77 (x1.rows.map (aq 75 ae)))]) ⟨_,_,rfl,rfl,rfl⟩ (PLe.q rfl)
   refine av (aL (bf 2 tk rfl ?_))
   exact bu () H hl1 hg1
  refine aw 1 tk rfl ?_
  obtain rfl := aE H
  refine bj tk rfl (ps := [(.val (.slice none 0 0))]) ⟨_,_,rfl,rfl,rfl⟩ (PLe.of2 (PLe2.nil tk rfl))
 refine ab (aw 2 tk rfl ?_)
 refine gg (γ := Unit) (fun t2 g2=>⟨139,upd (upd (upd (upd (fun _=>.any) 32 (aN t2)) 14 (ap q.kind)) 3 (.ptr (aH q))) 2 (.ptr (dS rA)),fun _=>none,fun _=>none⟩) H (fun _ H=>?_) (fun t2 g2 H=>?_)
 ·refine aM rfl H (fun H=>?_) (fun H=>?_)
  ·refine av ?_
   refine bd _ () H Gh.d
  refine bf 2 tk rfl ?_
  refine bd _ () H Gh.d
 refine aM rfl H (fun H=>?_) (fun H=>?_)
 ·refine ab (aa (ag 2 tk rfl ?_))
  obtain ⟨x37,h37,H⟩ := az H
  have s37 := hrec114 rA q _ h37
  refine ao Tryz.call114 (jp.r) s37 ?_
  refine ak tk rfl (ac ?_)
  exact bn tk H rfl
 refine aw 2 tk rfl ?_
 refine aM rfl H (fun H=>?_) (fun H=>?_)
 ·refine ab (bp tk mok ⟨false,false,[]⟩ [0,1,2,3,4,7,8,9,10,11,5,6,12,13,14] rfl (by decide +kernel) rfl (aQ 3 rfl ?_))
  obtain ⟨x43,k43,H⟩ := be H
  refine bc k43.1 (aG bN k43.2) ?_
  refine aQ 4 rfl ?_
  obtain ⟨x50,k50,H⟩ := be H
  refine bc k50.1 (aG bN k50.2) ?_
  refine bK rfl ?_
  obtain ⟨x45,h45,H⟩ := az H
  have s45 := hrec72 rA x43 _ h45
  refine aY Tryz.call72 (jp.r) s45 ?_
  have s46 := qm (m := 46) x45
  refine uq (g := 115) rfl rfl rfl rfl Tryz.call115 (jp.r) rfl rfl s46 (fun g46=>?_)
  obtain ⟨x52,h52,H⟩ := az H
  have s52 := hrec72 rA x50 _ h52
  refine aY Tryz.call72 (jp.r) s52 ?_
  obtain ⟨x53,h53,H⟩ := az H
  have k53 := cx h53
  refine kA (rows2' := List.map (aq 75 ae) x52) (rows' := List.map (aq 75 ae) x53) tk rfl rfl rfl rfl rfl rfl rfl rfl rfl rfl rfl rfl rfl rfl (it.refl _) (dK k53.1) (dJ k53.2.1) (dM k53.2.2) fun g53=>?_
  refine bK rfl (bg (cw 4 rfl rfl rfl ?_))
  exact bn tk H rfl
 refine aw 2 tk rfl ?_
 refine aM rfl H (fun H=>?_) (fun H=>?_)
 ·refine ab (bp tk mok ⟨false,false,[]⟩ [0,1,2,3,4,6,7,8,9,10,5,11,12,13] rfl (by decide +kernel) rfl (aQ 3 rfl ?_))
  obtain ⟨x59,k59,H⟩ := be H
  refine bc k59.1 (aG bN k59.2) ?_
  refine aQ 4 rfl ?_
  obtain ⟨x65,k65,H⟩ := be H
  refine bc k65.1 (aG bN k65.2) ?_
  refine bK rfl ?_
  obtain ⟨x61,h61,H⟩ := az H
  have s61 := hrec72 rA x59 _ h61
  refine aY Tryz.call72 (jp.r) s61 ?_
  obtain ⟨x67,h67,H⟩ := az H
  have s67 := hrec72 rA x65 _ h67
  refine aY Tryz.call72 (jp.r) s67 ?_
  obtain ⟨x68,h68,H⟩ := az H
  have s68 := W_query_less x61 x67 _ h68
  refine aY Tryz.call116 (jp.r) s68 ?_
  refine bK rfl (bg ?_)
  exact bn tk H rfl
 refine av (aL (ab (bp tk mok ⟨false,false,[]⟩ [0,1,2,3,4,5,6] rfl (by decide +kernel) rfl (aQ 3 rfl ?_))))
 obtain ⟨x72,k72,H⟩ := be H
 refine bc k72.1 (aG bN k72.2) ?_
 refine bK rfl ?_
 obtain ⟨x74,h74,H⟩ := az H
 have s74 := hrec72 rA x72 _ h74
 refine aY Tryz.call72 (jp.r) s74 ?_
 refine bK rfl (bg (ab (bp tk mok ⟨false,false,[]⟩ [0,1,2,3,4,5,6,7] rfl (by decide +kernel) rfl (aQ 3 rfl ?_))))
 obtain ⟨x78,k78,H⟩ := be H
 refine bc k78.1 (aG bN k78.2) ?_
 refine bK rfl ?_
 obtain ⟨x80,h80,H⟩ := az H
 have s80 := ml rA x78 _ h80
 refine aY Tryz.call117 (jp.r) s80 ?_
 refine nI rfl rfl rfl rfl rfl rfl rfl rfl fun b8=>?_
 refine ce ?_
 refine bg (ab (aw 2 tk rfl (ax (aw 2 tk rfl ?_))))
 refine aM rfl H (fun H=>?_) (fun H=>?_)
 ·refine ab (aa (ak tk rfl ?_))
  have s86 := qm (m := 86) x74
  refine mm (g := 115) rfl rfl rfl Tryz.call115 (jp.r) rfl rfl s86 (fun g86=>?_)
  refine ef (Gh.freezeB 8 rfl rfl rfl rfl) (ak tk rfl ?_)
  obtain ⟨x88,h88,H⟩ := az H
  have s88 := lm g86 x74 (fun a0=>iE a0 rA x80 q) Tryz.call119 (fun a0 r h=>so a0 rA x80 q r h) _ h88
  refine eK (g := 118) rfl rfl rfl Tryz.call118 [] [(86,0)] rfl rfl rfl rfl (jp.of2 (iJ.cons (PLe2.own rfl) (iJ.cons (PLe2.of_eq rfl) iJ.nil))) (by rw [dX,dv,dY]; rfl) s88 ?_
  rintro u88 H88h ⟨rfl,rfl⟩
  refine ⟨_,rfl,?_⟩
  refine ef (st' := ⟨_,_,fun _=>none,upd (fun _=>none) 86 (some ⟨g86,77,(x88.map (aq 75 ae)),true⟩)⟩) (Gh.le (dp _ _) aT (bI aS)) ?_
  refine mu 88 (q := (.own 86 g86 (x88.map (aq 75 ae)).length)) rfl (PLe.of2 (PLe2.own rfl)) (ak tk rfl (ac (cw 4 rfl rfl rfl ?_)))
  exact bn tk H rfl
 refine aw 2 tk rfl ?_
 refine aM rfl H (fun H=>?_) (fun H=>?_)
 ·refine aw 1 tk rfl (ab (ab (aa (ak tk rfl (aC tk (zl _) ?_)))))
  refine ak tk rfl (ac ?_)
  obtain ⟨fl3,H3,Hp3⟩ := az H
  refine gz tk 91 rfl rfl (fun hz3 _=>?_)
  rw [zl] at hz3
  refine eZ (τ := Rz) (γ := OwnRef) (fun s3 g3=>⟨139,upd (upd (upd (fun _=>.any) 9 (.own 105 g3 (s3.map (aq 75 ae)).length)) 3 (.ptr (aH q))) 2 (.ptr (dS rA)),fun _=>none,upd (fun _=>none) 105 (some ⟨g3,77,(s3.map (aq 75 ae)),true⟩)⟩) (fun t=>fl3 = .next t) ?_ (fun s3 g3 hn3=>?_)
  ·refine ax (iI tk 9 105 (e := 77) rfl rfl ?_)
   refine ix (fun j3 s3 g3=>⟨139,upd (upd (upd (upd (upd (upd (upd (fun _=>.any) 93 (ap (j3 : Int))) 92 (ap (x74.length : Int))) 91 (.list 77 (x74.map (aq 75 ae)))) 9 (.own 105 g3 (s3.map (aq 75 ae)).length)) 8 (.box 8 b8 0)) 3 (.ptr (aH q))) 2 (.ptr (dS rA)),upd (fun _=>none) 8 (some ⟨b8,[(.list 70 (x80.map aR))]⟩),upd (fun _=>none) 105 (some ⟨g3,77,(s3.map (aq 75 ae)),true⟩)⟩) (⟨none,0⟩) H3 Gh.d (fun j3 s3 g3 hj3 hr3=>?_)
   refine aw 1 tk rfl (ab ?_)
   refine bA rfl (fun h=>?_) (fun h=>?_)
   ·have hl3 := mG h
    obtain ⟨x3,fb3,hx3,H,hg3⟩ := rMc hl3 hr3
    refine av (ab (ax (ab (aa ?_))))
    refine aV tk (zn j3) (bw (fun _=>rfl) hx3) ?_
    refine ag 2 tk rfl (ac (aa (ag 2 tk rfl (aA tk ?_))))
    refine ag 3 tk rfl ?_
    obtain ⟨x103,h103,H⟩ := az H
    have s103 := kd rA x80 x3 q.exprs _ h103
    refine ao Tryz.call122 (jp.r) s103 ?_
    refine db tk (rows' := List.map (aq 75 ae) ([x103] : Rz)) (it.refl _) ?_
    obtain ⟨x105,h105,H⟩ := az H
    have k105 := cx h105
    refine cF (rows2' := List.map (aq 75 ae) ([x103] : Rz)) (rows' := List.map (aq 75 ae) x105) tk rfl rfl rfl rfl rfl rfl rfl rfl rfl rfl rfl rfl rfl (it.refl _) (dK k105.1) (dJ k105.2.1) (dM k105.2.2) fun g105=>?_
    refine ak tk rfl (ac (aL (bf 2 tk rfl ?_)))
    exact bu g105 H hl3 hg3
   have hn3 := rMd (nf h) hr3
   refine br rfl ?_
   refine bd s3 g3 hn3 Gh.d
  have H := dw hn3 Hp3
  refine aw 2 tk rfl (cw 4 rfl rfl rfl ?_)
  exact bn tk H rfl
 refine aw 2 tk rfl ?_
 refine aM rfl H (fun H=>?_) (fun H=>?_)
 ·refine ab (aa (ag 2 tk rfl (aA tk ?_)))
  refine ak tk rfl ?_
  obtain ⟨x114,h114,H⟩ := az H
  have s114 := tw rA q x80 x74 _ h114
  refine ao Tryz.call123 (jp.r) s114 ?_
  refine ak tk rfl (ac ?_)
  exact bn tk H rfl
 refine aw 2 tk rfl ?_
 refine aM rfl H (fun H=>?_) (fun H=>?_)
 ·refine ab (aa (ag 2 tk rfl (aA tk ?_)))
  refine ak tk rfl ?_
  obtain ⟨x121,h121,H⟩ := az H
  have s121 := us rA q x80 x74 _ h121
  refine ao Tryz.call124 (jp.r) s121 ?_
  refine ak tk rfl (ac ?_)
  exact bn tk H rfl
 refine av (aL (ab (aa (ag 3 tk rfl (aC tk (zl _) ?_)))))
 refine ag 2 tk rfl (ac (ab (aa (ag 6 tk rfl (aC tk (zl _) ?_)))))
 refine ag 4 tk rfl ?_
 obtain ⟨x138,h138,H⟩ := az H
 have k138 := qr h138
 refine uH tk rfl rfl rfl rfl rfl (zl _) rfl rfl k138.1 (rI k138.2) rfl (ak tk rfl (ac ?_))
 exact bn tk H rfl
def jq (rec72 : LRun → LQuery → Option (Rz)) (_rec114 : LRun → LQuery → Option (Rz)) (rA : LRun) (q : LQuery) : Option (Rz) :=
 af (aF q.inputs 0) fun (x19 : LQuery) =>
 af (aF q.inputs 1) fun (x25 : LQuery) =>
 af (rec72 rA x19) fun x21 =>
 af (rec72 rA x25) fun x27 =>
 af (aF q.inputs 1) fun (x31 : LQuery) =>
 af (gG rA x31) fun x33 =>
 af (aF q.inputs 0) fun (x37 : LQuery) =>
 af (gG rA x37) fun x39 =>
 af (dg 32 x39 x33) fun (x42 : List LCol) =>
 af (aK (σ := List LCol × Rz) (ρ := Empty) (fun (_ : Nat) (x1 : Rq) (s1 : List LCol × Rz) =>
  af (aK (σ := Rz × Bool) (ρ := Empty) (fun (_ : Nat) (x6 : Rq) (s6 : Rz × Bool) =>
   af (bU ([x1,x6] : Rz)) fun x58 =>
   af (aF q.exprs 0) fun (x65 : LExpr) =>
   bC (aW rA s1.1 x58) fun x62 =>
   bC (bP x62 x65) fun x67 =>
   bC (dD x67) fun x68 =>
   cond x68
    (af (dg 24 s6.1 ([x58] : Rz)) fun (x72 : Rz) =>
    some (.next (x72,true)))
    (some (.next (s6.1,s6.2)))) 0 x27 (s1.2,false)) fun fl6=>fl6.thenP fun (s6 : Rz × Bool) =>
  bC (
   cond (!s6.2)
    ((q.kind == (5 : Int)))
    (false)) fun (t7 : Bool) =>
  cond t7
   (af (qc 32 (x33.length : Int)) fun (_ : Unit) =>
   af (bU ([x1,(List.replicate (x33.length : Int).toNat (LVal.mk 0 0 []))] : Rz)) fun x87 =>
   af (dg 24 s6.1 ([x87] : Rz)) fun (x89 : Rz) =>
   some (.next (s1.1,x89)))
   (some (.next (s1.1,s6.1)))) 0 x21 (x42,[])) fun fl1=>fl1.thenP fun (s1 : List LCol × Rz) =>
 some s1.2
theorem tB (rec72 : LRun → LQuery → Option (Rz)) (rec114 : LRun → LQuery → Option (Rz)) (hrec72 : ∀ a0 a1 r,rec72 a0 a1 = some r → aP Tryz.prog 72 [(.agg (dS a0)),(.agg (aH a1))] (.list 77 (r.map (aq 75 ae)))) (_hrec114 : ∀ a0 a1 r,rec114 a0 a1 = some r → aP Tryz.prog 114 [(.agg (dS a0)),(.agg (aH a1))] (.list 77 (r.map (aq 75 ae)))) (rA : LRun) (q : LQuery) (r : Rz) (H : jq rec72 rec114 rA q = some r) :
  aP Tryz.prog 114 [(.agg (dS rA)),(.agg (aH q))] (.list 77 (r.map (aq 75 ae))) := by
 unfold jq at H
 refine PH.ay Tryz.func114 Tryz.ntmps114 ?_
 refine ab (aa (aI ?_))
 refine aI ?_
 refine ak tk rfl (ac (ab (bp tk mok ⟨false,false,[]⟩ [0,1,2,3,4,6,7,8,9,10,5,11,12,13] rfl (by decide +kernel) rfl (aQ 3 rfl ?_))))
 obtain ⟨x19,k19,H⟩ := be H
 refine bc k19.1 (aG bN k19.2) ?_
 refine aQ 4 rfl ?_
 obtain ⟨x25,k25,H⟩ := be H
 refine bc k25.1 (aG bN k25.2) ?_
 refine bK rfl ?_
 obtain ⟨x21,h21,H⟩ := az H
 have s21 := hrec72 rA x19 _ h21
 refine aY Tryz.call72 (jp.r) s21 ?_
 obtain ⟨x27,h27,H⟩ := az H
 have s27 := hrec72 rA x25 _ h27
 refine aY Tryz.call72 (jp.r) s27 ?_
 refine aQ 2 rfl (bg (ab (bp tk mok ⟨false,false,[]⟩ [0,1,2,3,4,5,6] rfl (by decide +kernel) rfl (aQ 3 rfl ?_))))
 obtain ⟨x31,k31,H⟩ := be H
 refine bc k31.1 (aG bN k31.2) ?_
 refine bK rfl ?_
 obtain ⟨x33,h33,H⟩ := az H
 have s33 := ml rA x31 _ h33
 refine aY Tryz.call117 (jp.r) s33 ?_
 refine bK rfl (bg (ab (bp tk mok ⟨false,false,[]⟩ [0,1,2,3,4,7,5,6,8,9] rfl (by decide +kernel) rfl (aQ 3 rfl ?_))))
 obtain ⟨x37,k37,H⟩ := be H
 refine bc k37.1 (aG bN k37.2) ?_
 refine aQ 2 rfl ?_
 obtain ⟨x39,h39,H⟩ := az H
 have s39 := ml rA x37 _ h39
 refine aY Tryz.call117 (jp.r) s39 ?_
 have s40 := ql (m := 40) x39
 refine uq (g := 136) rfl rfl rfl rfl Tryz.call136 (jp.r) rfl rfl s40 (fun g40=>?_)
 obtain ⟨x42,h42,H⟩ := az H
 have k42 := cx h42
 refine kA (rows2' := List.map aR x33) (rows' := List.map aR x42) tk rfl rfl rfl rfl rfl rfl rfl rfl rfl rfl rfl rfl rfl rfl (it.refl _) (dK k42.1) (dJ k42.2.1) (dM k42.2.2) fun g42=>?_
 refine bK rfl (bg (aw 1 tk rfl (ab (ab (aa (ak tk rfl (aC tk (zl _) ?_)))))))
 refine ak tk rfl (ac (cw 8 rfl rfl rfl (iI tk 9 72 (e := 77) rfl rfl ?_)))
 refine uO (γ := OwnRef) tk 43 rfl rfl (fun s1 g1=>upd (upd (upd (upd (upd (fun _=>.any) 9 (.own 72 g1 (s1.2.map (aq 75 ae)).length)) 7 (.list 70 (x33.map aR))) 6 (.list 77 (x27.map (aq 75 ae)))) 3 (.ptr (aH q))) 2 (.ptr (dS rA))) nB (fun s1 g1=>upd (fun _=>none) 72 (some ⟨g1,77,(s1.2.map (aq 75 ae)),true⟩)) (fun e j1 s1 g1=>upd (upd (upd (upd e 45 (ap (j1 : Int))) 44 (ap (x21.length : Int))) 43 (.list 77 (x21.map (aq 75 ae)))) 8 (.list 70 (s1.1.map aR))) (⟨none,0⟩) H rfl Gh.d (fun _ _ _=>rfl) (fun _ _ _=>rfl) (fun _ _ _=>Gh.d) (fun fl1 Hp1 j1 s1 g1 hz1 hl1 x1 fb1 hx1 H hg1=>?_) (fun s1 g1 H=>?_)
 ·refine ab (ax (ab (aa ?_)))
  refine aV tk (zn j1) (bw (fun _=>rfl) hx1) ?_
  refine ag 2 tk rfl (ac (aw 1 tk rfl (ab (ab (aa (ak tk rfl (aC tk (zl _) ?_)))))))
  refine ak tk rfl (ac ?_)
  refine gP (γ := OwnRef) tk 51 50 49 (fun s6 g6=>upd (upd (upd (upd (upd (upd (upd (upd (upd (upd (upd (fun _=>.any) 45 (ap (j1 : Int))) 44 (ap (x21.length : Int))) 43 (.list 77 (x21.map (aq 75 ae)))) 12 (aN s6.2)) 11 (.list 75 (x1.map ae))) 9 (.own 72 g6 (s6.1.map (aq 75 ae)).length)) 8 (.list 70 (s1.1.map aR))) 7 (.list 70 (x33.map aR))) 6 (.list 77 (x27.map (aq 75 ae)))) 3 (.ptr (aH q))) 2 (.ptr (dS rA))) nB (fun s6 g6=>upd (fun _=>none) 72 (some ⟨g6,77,(s6.1.map (aq 75 ae)),true⟩)) g1 H (fun fl6 Hp6 j6 s6 g6 hz6 hl6 x6 fb6 hx6 H hg6=>?_) (fun s6 g6 H=>?_)
  ·refine ab (ax (ab (aa ?_)))
   refine aV tk (zn j6) (bw (fun _=>rfl) hx6) ?_
   refine ag 2 tk rfl (ac (ab (aa (ag 2 tk rfl (db tk (rows' := List.map (aq 75 ae) ([x1,x6] : Rz)) (it.refl _) ?_)))))
   obtain ⟨x58,h58,H⟩ := az H
   have s58 := je (m := 58) ([x1,x6] : Rz) _ h58
   refine ao Tryz.call164 (jp.r) (PFun.iB s58) ?_
   refine ak tk rfl (ac (ab (bp tk mok ⟨false,false,[]⟩ [0,1,2,4,5,6,7,3,8,9] rfl (by decide +kernel) rfl (aQ 5 rfl ?_))))
   obtain ⟨x65,k65,H⟩ := be H
   refine bc k65.1 (aG bR k65.2) ?_
   refine bK rfl ?_
   obtain ⟨x62,h62,H⟩ := cO H
   have s62 := kZ rA s1.1 x58
   rw [h62] at s62
   refine aY Tryz.call121 (jp.r) s62 ?_
   obtain ⟨x67,h67,H⟩ := cO H
   have s67 := nZ x62 x65
   rw [h67] at s67
   refine aY Tryz.call120 (jp.r) s67 ?_
   obtain ⟨x68,h68,H⟩ := cO H
   have s68 := isTS x67
   rw [h68] at s68
   refine aY Tryz.call52 (jp.r) s68 ?_
   refine bg ?_
   refine aM rfl H (fun H=>?_) (fun H=>?_)
   ·refine ab (aa (ag 2 tk rfl (db tk (rows' := List.map (aq 75 ae) ([x58] : Rz)) (it.refl _) ?_)))
    obtain ⟨x72,h72,H⟩ := az H
    have k72 := cx h72
    refine cF (rows2' := List.map (aq 75 ae) ([x58] : Rz)) (rows' := List.map (aq 75 ae) x72) tk rfl rfl rfl rfl rfl rfl rfl rfl rfl rfl rfl rfl rfl (it.refl _) (dK k72.1) (dJ k72.2.1) (dM k72.2.2) fun g72=>?_
    refine ak tk rfl (ac (bf 1 tk rfl (aL (bf 2 tk rfl ?_))))
    exact bu g72 H hl6 hg6
   refine av (aL (bf 2 tk rfl ?_))
   exact bu g6 H hl6 hg6
  refine ab ?_
  refine gg (γ := Unit) (fun t7 g7=>⟨92,upd (upd (upd (upd (upd (upd (upd (upd (upd (upd (upd (fun _=>.any) 80 (aN t7)) 45 (ap (j1 : Int))) 44 (ap (x21.length : Int))) 43 (.list 77 (x21.map (aq 75 ae)))) 11 (.list 75 (x1.map ae))) 9 (.own 72 g6 (s6.1.map (aq 75 ae)).length)) 8 (.list 70 (s1.1.map aR))) 7 (.list 70 (x33.map aR))) 6 (.list 77 (x27.map (aq 75 ae)))) 3 (.ptr (aH q))) 2 (.ptr (dS rA)),fun _=>none,upd (fun _=>none) 72 (some ⟨g6,77,(s6.1.map (aq 75 ae)),true⟩)⟩) H (fun _ H=>?_) (fun t7 g7 H=>?_)
  ·refine aa (ag 3 tk rfl ?_)
   refine bq rfl rfl rfl H (fun H=>?_) (fun H=>?_)
   ·refine ag 4 tk rfl (ac ?_)
    refine bd _ () H Gh.d
   refine ag 4 tk rfl (ac ?_)
   refine bd _ () H Gh.d
  refine aM rfl H (fun H=>?_) (fun H=>?_)
  ·refine aa (ag 3 tk rfl (aC tk (zl _) ?_))
   obtain ⟨_,h85,H⟩ := az H
   have k85 := growI_some h85
   refine vh (rows := List.map ae (List.replicate (x33.length : Int).toNat (LVal.mk 0 0 []))) tk rfl rfl rfl rfl rfl rfl rfl rfl rfl rfl k85.1 k85.2.1 k85.2.2 (by rw [List.map_replicate]; rfl) fun g85=>?_
   refine ef (Gh.freezeO 85 rfl rfl rfl) (db tk (rows' := List.map (aq 75 ae) ([x1,(List.replicate (x33.length : Int).toNat (LVal.mk 0 0 []))] : Rz)) (it.refl _) ?_)
   obtain ⟨x87,h87,H⟩ := az H
   have s87 := je (m := 87) ([x1,(List.replicate (x33.length : Int).toNat (LVal.mk 0 0 []))] : Rz) _ h87
   refine ao Tryz.call164 (jp.r) (PFun.iB s87) ?_
   refine db tk (rows' := List.map (aq 75 ae) ([x87] : Rz)) (it.refl _) ?_
   obtain ⟨x89,h89,H⟩ := az H
   have k89 := cx h89
   refine cF (rows2' := List.map (aq 75 ae) ([x87] : Rz)) (rows' := List.map (aq 75 ae) x89) tk rfl rfl rfl rfl rfl rfl rfl rfl rfl rfl rfl rfl rfl (it.refl _) (dK k89.1) (dJ k89.2.1) (dM k89.2.2) fun g89=>?_
   refine ak tk rfl (ac (aL (bf 2 tk rfl ?_)))
   exact bu g89 H hl1 hg1
  refine av (aL (bf 2 tk rfl ?_))
  exact bu g6 H hl1 hg1
 refine aw 2 tk rfl (cw 4 rfl rfl rfl ?_)
 exact bn tk H rfl
mutual
def fe : Nat → LRun → LQuery → Option (Rz)
 | 0,_,_=>none
 | n + 1,v0,v1=>ky (fun b0 b1=>fe n b0 b1) (fun b0 b1=>gD n b0 b1) v0 v1
def gD : Nat → LRun → LQuery → Option (Rz)
 | 0,_,_=>none
 | n + 1,v0,v1=>jq (fun b0 b1=>fe n b0 b1) (fun b0 b1=>gD n b0 b1) v0 v1
end
theorem tJ  (n : Nat) : (∀ a0 a1 r,fe n a0 a1 = some r → aP Tryz.prog 72 [(.agg (dS a0)),(.agg (aH a1))] (.list 77 (r.map (aq 75 ae)))) ∧ (∀ a0 a1 r,gD n a0 a1 = some r → aP Tryz.prog 114 [(.agg (dS a0)),(.agg (aH a1))] (.list 77 (r.map (aq 75 ae)))) := by
 induction n with
 | zero=>exact ⟨(by intros; rename_i h; exact absurd (show (none : Option _) = some _ from h) (by simp)),(by intros; rename_i h; exact absurd (show (none : Option _) = some _ from h) (by simp))⟩
 | succ n ih =>
  exact ⟨(fun v0 v1 r h=>tD (fun b0 b1=>fe n b0 b1) (fun b0 b1=>gD n b0 b1) ih.1 ih.2 v0 v1  r h),(fun v0 v1 r h=>tB (fun b0 b1=>fe n b0 b1) (fun b0 b1=>gD n b0 b1) ih.1 ih.2 v0 v1  r h)⟩
def mn (rA : LRun) (q : LQuery) : Option (Rz) := iF fun n=>fe n rA q
theorem uu (rA : LRun) (q : LQuery) (r : Rz) (H : mn rA q = some r) :
  aP Tryz.prog 72 [(.agg (dS rA)),(.agg (aH q))] (.list 77 (r.map (aq 75 ae))) := by
 obtain ⟨n,h⟩ := iC H
 exact (tJ  n).1 rA q r h
def ke (sA : LSchema) (q : LQuery) : Option (Bool) :=
 af (
  af (me q 400) fun x8 =>
  cond (decide (x8 < (0 : Int)))
   (some true)
   (af (iV sA) fun x12 =>
   some (x12 != (0 : Int)))) fun (t1 : Bool) =>
 cond t1
  (some false)
  (af (lW sA q) fun x18 =>
  some (x18.2 == (0 : Int)))
theorem tz (sA : LSchema) (q : LQuery) (r : Bool) (H : ke sA q = some r) :
  aP Tryz.prog 22 [(.agg (bM sA)),(.agg (aH q))] (aN r) := by
 unfold ke at H
 refine PH.ay Tryz.func22 Tryz.ntmps22 ?_
 refine ab (aa (aI ?_))
 refine aI ?_
 refine ak tk rfl (ac (ab (ab ?_)))
 refine gM (γ := Unit) (fun t1 g1=>⟨23,upd (upd (upd (fun _=>.any) 14 (aN t1)) 3 (.ptr (aH q))) 2 (.ptr (bM sA)),fun _=>none,fun _=>none⟩) H (fun _ H=>?_) (fun t1 g1 H=>?_)
 ·refine aa (ak tk rfl ?_)
  obtain ⟨x8,h8,H⟩ := az H
  have s8 := un q 400 _ h8
  refine ao Tryz.call47 (jp.r) s8 ?_
  refine ag 2 tk rfl ?_
  refine bq rfl rfl rfl H (fun H=>?_) (fun H=>?_)
  ·refine ag 4 tk rfl (ac ?_)
   refine bd _ () (aE H) Gh.d
  refine ak tk rfl ?_
  obtain ⟨x12,h12,H⟩ := az H
  have s12 := tE sA _ h12
  refine ao Tryz.call29 (jp.r) s12 ?_
  refine ag 2 tk rfl (ac ?_)
  refine bd _ () (aE H) Gh.d
 refine aM rfl H (fun H=>?_) (fun H=>?_)
 ·refine aw 1 tk rfl ?_
  exact bn tk H rfl
 refine av (ab (aa (ag 2 tk rfl ?_)))
 obtain ⟨x18,h18,H⟩ := az H
 have s18 := W_query_Check sA q _ h18
 refine ao Tryz.call48 (jp.r) s18 ?_
 refine ag 5 tk rfl (ac (aw 3 tk rfl ?_))
 exact bn tk H rfl
def iA (sA : LSchema) (st : List LRelation) (q : LQuery) (args : Rq) (vars : List LCol) (vals : Rq) : Option (LResult × Int) :=
 af (gp sA vars q) fun x28 =>
 cond (x28.2 != (0 : Int))
  (some ((LResult.mk [] []),x28.2))
  (af (fw q args) fun x37 =>
  cond (x37 != (0 : Int))
   (some ((LResult.mk [] []),x37))
   (af (fE sA st) fun x44 =>
   cond (x44 != (0 : Int))
    (some ((LResult.mk [] []),x44))
    (af (aK (σ := List (List UInt8)) (ρ := Empty) (fun (_ : Nat) (x1 : LCol) (s1 : List (List UInt8)) =>
     af (dg 16 s1 ([x1.name] : List (List UInt8))) fun (x66 : List (List UInt8)) =>
     some (.next x66)) 0 vars []) fun fl1=>fl1.thenP fun (s1 : List (List UInt8)) =>
    af (mn (LRun.mk sA st args vars s1 vals) q) fun x73 =>
    af (aK (σ := Rz) (ρ := Empty) (fun (_ : Nat) (x2 : Rq) (s2 : Rz) =>
     af (dg 24 s2 ([x2] : Rz)) fun (x84 : Rz) =>
     some (.next x84)) 0 x73 []) fun fl2=>fl2.thenP fun (s2 : Rz) =>
    some ((LResult.mk x28.1 s2),0))))
theorem qA (sA : LSchema) (st : List LRelation) (q : LQuery) (args : Rq) (vars : List LCol) (vals : Rq) (r : LResult × Int) (H : iA sA st q args vars vals = some r) :
  aP Tryz.prog 46 [(.agg (bM sA)),(.list 79 (st.map cZ)),(.agg (aH q)),(.list 75 (args.map ae)),(.list 70 (vars.map aR)),(.list 75 (vals.map ae))] (.tup [(.agg (nX r.1)),(ap r.2)]) := by
 unfold iA at H
 refine PH.ay Tryz.func46 Tryz.ntmps46 ?_
 refine ab (aa (aI ?_))
 refine aI ?_
 refine aX tk fun b12=>?_
 refine ak tk rfl (ac (ab (aa (ag 3 tk rfl ?_))))
 obtain ⟨x28,h28,H⟩ := az H
 have s28 := nn sA vars q _ h28
 refine ao Tryz.call71 (jp.r) s28 ?_
 refine ag 5 tk rfl (ac (ab (aw 2 tk rfl ?_)))
 refine aM rfl H (fun H=>?_) (fun H=>?_)
 ·refine ab (aa (ag 2 tk rfl (au tk ?_)))
  refine ak tk rfl (ac ?_)
  obtain rfl := aE H
  refine bj tk rfl (ps := [(.agg [(.val (.slice none 0 0)),(.val (.slice none 0 0))]),(ap x28.2)]) ⟨_,_,rfl,⟨_,_,_,_,_,rfl,rfl,rfl,rfl⟩,_,_,rfl,rfl,rfl⟩ (PLe.of2 (PLe2.tup (iJ.cons (PLe2.agg (iJ.cons (PLe2.nil tk rfl) (iJ.cons (PLe2.nil tk rfl) iJ.nil))) (iJ.cons (PLe2.of_eq rfl) iJ.nil))))
 refine av (ab (ab (aa (ag 2 tk rfl ?_))))
 obtain ⟨x37,h37,H⟩ := az H
 have s37 := lS q args _ h37
 refine ao Tryz.call24 (jp.r) s37 ?_
 refine ak tk rfl (ac (aw 2 tk rfl ?_))
 refine aM rfl H (fun H=>?_) (fun H=>?_)
 ·refine ab (aa (ag 2 tk rfl (au tk ?_)))
  refine ak tk rfl (ac ?_)
  obtain rfl := aE H
  refine bj tk rfl (ps := [(.agg [(.val (.slice none 0 0)),(.val (.slice none 0 0))]),(ap x37)]) ⟨_,_,rfl,⟨_,_,_,_,_,rfl,rfl,rfl,rfl⟩,_,_,rfl,rfl,rfl⟩ (PLe.of2 (PLe2.tup (iJ.cons (PLe2.agg (iJ.cons (PLe2.nil tk rfl) (iJ.cons (PLe2.nil tk rfl) iJ.nil))) (iJ.cons (PLe2.of_eq rfl) iJ.nil))))
 refine av (ab (ab (aa (ag 2 tk rfl ?_))))
 obtain ⟨x44,h44,H⟩ := az H
 have s44 := nk sA st _ h44
 refine ao Tryz.call23 (jp.r) s44 ?_
 refine ak tk rfl (ac (aw 2 tk rfl ?_))
 refine aM rfl H (fun H=>?_) (fun H=>?_)
 ·refine ab (aa (ag 2 tk rfl (au tk ?_)))
  refine ak tk rfl (ac ?_)
  obtain rfl := aE H
  refine bj tk rfl (ps := [(.agg [(.val (.slice none 0 0)),(.val (.slice none 0 0))]),(ap x44)]) ⟨_,_,rfl,⟨_,_,_,_,_,rfl,rfl,rfl,rfl⟩,_,_,rfl,rfl,rfl⟩ (PLe.of2 (PLe2.tup (iJ.cons (PLe2.agg (iJ.cons (PLe2.nil tk rfl) (iJ.cons (PLe2.nil tk rfl) iJ.nil))) (iJ.cons (PLe2.of_eq rfl) iJ.nil))))
 refine av (ab (aa (ag 6 tk rfl ?_)))
 refine aX tk fun b18=>?_
 refine au tk ?_
 refine ac (ab (ab (aa (ak tk rfl (aC tk (zl _) ?_)))))
 refine ak tk rfl (ac (qO tk 18 6 66 (e := 9) rfl rfl rfl rfl ?_))
 refine gP (γ := OwnRef) tk 57 56 55 (fun s1 g1=>upd (upd (upd (upd (fun _=>.any) 18 (.box 18 b18 0)) 14 (.list 70 (x28.1.map aR))) 12 (.box 12 b12 0)) 8 (.ptr (aH q))) (fun s1 g1=>upd (upd (fun _=>none) 18 (some ⟨b18,[(.list 73 (sA.tables.map cd)),(.list 131 (sA.foreignKeys.map jL)),(.list 137 (sA.constraints.map lf)),(.list 79 (st.map cZ)),(.list 75 (args.map ae)),(.list 70 (vars.map aR)),(.own 66 g1 (s1.map kC).length),(.list 75 (vals.map ae))]⟩)) 12 (some ⟨b12,[(.val (.slice none 0 0)),(.val (.slice none 0 0))]⟩)) (fun s1 g1=>upd (fun _=>none) 66 (some ⟨g1,9,(s1.map kC),true⟩)) (⟨none,0⟩) H (fun fl1 Hp1 j1 s1 g1 hz1 hl1 x1 fb1 hx1 H hg1=>?_) (fun s1 g1 H=>?_)
 ·refine ab (ax (ab (aa ?_)))
  refine aV tk (zn j1) (bw (fun _=>rfl) hx1) ?_
  refine ak tk rfl ?_
  refine aX tk fun b20=>?_
  refine au tk ?_
  refine ac (aa (ak tk rfl (aA tk ?_)))
  refine ak tk rfl (aA tk ?_)
  refine db tk (rows' := List.map kC ([x1.name] : List (List UInt8))) (it.refl _) ?_
  obtain ⟨x66,h66,H⟩ := az H
  have k66 := cx h66
  refine cF (rows2' := List.map kC ([x1.name] : List (List UInt8))) (rows' := List.map kC x66) tk rfl rfl rfl rfl rfl rfl rfl rfl rfl rfl rfl rfl rfl (it.refl _) (dK k66.1) (dJ k66.2.1) (dM k66.2.2) fun g66=>?_
  refine ak tk rfl (au tk ?_)
  refine ac (aL (bf 2 tk rfl ?_))
  exact bu g66 H hl1 hg1
 refine ab (aa (ag 2 tk rfl ?_))
 refine aX tk fun b21=>?_
 refine au tk ?_
 refine ac (ab (ab (oX 18 6 rfl rfl rfl rfl rfl (aa (aA tk ?_)))))
 refine ak tk rfl ?_
 obtain ⟨x73,h73,H⟩ := az H
 have s73 := uu (LRun.mk sA st args vars s1 vals) q _ h73
 refine ao Tryz.call72 (jp.r) s73 ?_
 refine aC tk (zl _) ?_
 refine ak tk rfl (ac (qO tk 21 1 84 (e := 77) rfl rfl rfl rfl ?_))
 refine gP (γ := OwnRef) tk 75 74 73 (fun s2 g2=>upd (upd (fun _=>.any) 21 (.box 21 b21 0)) 12 (.box 12 b12 0)) (fun s2 g2=>upd (upd (fun _=>none) 21 (some ⟨b21,[(.list 70 (x28.1.map aR)),(.own 84 g2 (s2.map (aq 75 ae)).length)]⟩)) 12 (some ⟨b12,[(.val (.slice none 0 0)),(.val (.slice none 0 0))]⟩)) (fun s2 g2=>upd (fun _=>none) 84 (some ⟨g2,77,(s2.map (aq 75 ae)),true⟩)) (⟨none,0⟩) H (fun fl2 Hp2 j2 s2 g2 hz2 hl2 x2 fb2 hx2 H hg2=>?_) (fun s2 g2 H=>?_)
 ·refine ab (ax (ab (aa ?_)))
  refine aV tk (zn j2) (bw (fun _=>rfl) hx2) ?_
  refine ag 2 tk rfl (ac (bp tk mok ⟨true,false,[]⟩ [0,1,2,3,4,5,6,7] rfl (by decide +kernel) rfl (bK rfl (ci ?_))))
  refine bK rfl ?_
  have s82 := clone_73 (m := 82) x2
  refine aY Tryz.call73 (jp.r) (PFun.iB s82) ?_
  refine bK rfl ?_
  obtain ⟨x84,h84,H⟩ := az H
  have k84 := cx h84
  refine kA (rows2' := List.map (aq 75 ae) ([x2] : Rz)) (rows' := List.map (aq 75 ae) x84) tk rfl rfl rfl rfl rfl rfl rfl rfl rfl rfl rfl rfl rfl rfl (it.refl _) (dK k84.1) (dJ k84.2.1) (dM k84.2.2) fun g84=>?_
  refine bK rfl (ce ?_)
  refine bg (aL (bf 2 tk rfl ?_))
  exact bu g84 H hl2 hg2
 refine ab (aa (aA tk ?_))
 refine au tk ?_
 refine ak tk rfl (ac ?_)
 obtain rfl := aE H
 refine oX 12 1 rfl rfl rfl rfl rfl ?_
 refine bj tk rfl (ps := [(.agg [(.list 70 (x28.1.map aR)),(.list 77 (s2.map (aq 75 ae)))]),(ap 0)]) ⟨_,_,rfl,⟨_,_,_,_,_,rfl,rfl,rfl,rfl⟩,_,_,rfl,rfl,rfl⟩ (PLe.q rfl)
def jm (sA : LSchema) (st : List LRelation) (q : LQuery) (args : Rq) : Option (Bool) :=
 af (ke sA q) fun x11 =>
 cond x11
  (cond (decide ((args.length : Int) ≤ (20 : Int)))
   (af (fE sA st) fun x20 =>
   cond (x20 == (0 : Int))
    (af (fw q args) fun x26 =>
    some (x26 == (0 : Int)))
    (some false))
   (some false))
  (some false)
theorem uk (sA : LSchema) (st : List LRelation) (q : LQuery) (args : Rq) (r : Bool) (H : jm sA st q args = some r) :
  aP Tryz.prog 7 [(.agg (bM sA)),(.list 79 (st.map cZ)),(.agg (aH q)),(.list 75 (args.map ae))] (aN r) := by
 unfold jm at H
 refine PH.ay Tryz.func7 Tryz.ntmps7 ?_
 refine ab (aa (aI ?_))
 refine aI ?_
 refine ak tk rfl (ac (ab (aa (ag 2 tk rfl ?_))))
 obtain ⟨x11,h11,H⟩ := az H
 have s11 := tz sA q _ h11
 refine ao Tryz.call22 (jp.r) s11 ?_
 refine ak tk rfl ?_
 refine bq rfl rfl rfl H (fun H=>?_) (fun H=>?_)
 ·refine ak tk rfl (aC tk (zl _) ?_)
  refine ag 3 tk rfl ?_
  refine bq rfl rfl rfl H (fun H=>?_) (fun H=>?_)
  ·refine ag 2 tk rfl ?_
   obtain ⟨x20,h20,H⟩ := az H
   have s20 := nk sA st _ h20
   refine ao Tryz.call23 (jp.r) s20 ?_
   refine ag 3 tk rfl ?_
   refine bq rfl rfl rfl H (fun H=>?_) (fun H=>?_)
   ·refine ag 2 tk rfl ?_
    obtain ⟨x26,h26,H⟩ := az H
    have s26 := lS q args _ h26
    refine ao Tryz.call24 (jp.r) s26 ?_
    refine ag 3 tk rfl (ac ?_)
    exact bn tk H rfl
   refine ag 6 tk rfl (ac ?_)
   exact bn tk H rfl
  refine ag 12 tk rfl (ac ?_)
  exact bn tk H rfl
 refine ag 17 tk rfl (ac ?_)
 exact bn tk H rfl
def kI (sA : LSchema) (st : List LRelation) (q : LQuery) (args : Rq) : Option (LResult × Int) :=
 af (iA sA st q args ([] : List LCol) ([] : Rq)) fun x14 =>
 some (x14.1,x14.2)
theorem um (sA : LSchema) (st : List LRelation) (q : LQuery) (args : Rq) (r : LResult × Int) (H : kI sA st q args = some r) :
  aP Tryz.prog 21 [(.agg (bM sA)),(.list 79 (st.map cZ)),(.agg (aH q)),(.list 75 (args.map ae))] (.tup [(.agg (nX r.1)),(ap r.2)]) := by
 unfold kI at H
 refine PH.ay Tryz.func21 Tryz.ntmps21 ?_
 refine ab (aa (aI ?_))
 refine aI ?_
 refine aX tk fun b8=>?_
 refine ak tk rfl (ac (ab (aa (ag 4 tk rfl ?_))))
 obtain ⟨x14,h14,H⟩ := az H
 have s14 := qA sA st q args ([] : List LCol) ([] : Rq) _ h14
 refine ao Tryz.call46 (jp.of2 (iJ.cons (PLe2.of_eq rfl) (iJ.cons (PLe2.of_eq rfl) (iJ.cons (PLe2.of_eq rfl) (iJ.cons (PLe2.of_eq rfl) (iJ.cons (PLe2.nil tk rfl) (iJ.cons (PLe2.nil tk rfl) iJ.nil))))))) s14 ?_
 refine ag 2 tk rfl (au tk ?_)
 refine ak tk rfl (ac ?_)
 obtain rfl := aE H
 refine bj tk rfl (ps := [(.agg (nX x14.1)),(ap x14.2)]) ⟨_,_,rfl,⟨_,_,_,_,_,rfl,rfl,rfl,rfl⟩,_,_,rfl,rfl,rfl⟩ (PLe.q rfl)
def gR (sA : LSchema) (st : List LRelation) (q : LQuery) (args : Rq) : Option (LResult × Bool) :=
 af (kI sA st q args) fun x17 =>
 some (x17.1,(x17.2 == (0 : Int)))
theorem rB (sA : LSchema) (st : List LRelation) (q : LQuery) (args : Rq) (r : LResult × Bool) (H : gR sA st q args = some r) :
  aP Tryz.prog 8 [(.agg (bM sA)),(.list 79 (st.map cZ)),(.agg (aH q)),(.list 75 (args.map ae))] (.tup [(.agg (nX r.1)),(aN r.2)]) := by
 unfold gR at H
 refine PH.ay Tryz.func8 Tryz.ntmps8 ?_
 refine ab (aa (aI ?_))
 refine aI ?_
 refine aX tk fun b8=>?_
 refine ak tk rfl (ac (ab (aa (ag 4 tk rfl ?_))))
 obtain ⟨x17,h17,H⟩ := az H
 have s17 := um sA st q args _ h17
 refine ao Tryz.call21 (jp.r) s17 ?_
 refine ag 3 tk rfl ?_
 refine aX tk fun b10=>?_
 refine au tk ?_
 refine ak tk rfl (ac (ab (aa (aA tk ?_))))
 refine ag 2 tk rfl (au tk ?_)
 refine ak tk rfl (ac ?_)
 obtain rfl := aE H
 refine bj tk rfl (ps := [(.agg (nX x17.1)),(aN (x17.2 == (0 : Int)))]) ⟨_,_,rfl,⟨_,_,_,_,_,rfl,rfl,rfl,rfl⟩,_,_,rfl,rfl,rfl⟩ (PLe.q rfl)
def eN (sA : LSchema) (st : List LRelation) (q : LQuery) (args : Rq) : Option (Bool) :=
 bC (sampleV) fun x12 =>
 cond (!x12)
  (some false)
  (af (jm sA st q args) fun x18 =>
  cond (!x18)
   (some true)
   (af (gR sA st q args) fun x25 =>
   af (fP st) fun x30 =>
   af (cj sA x30 q) fun x32 =>
   cond x25.2
    (cond (decide (x32.low ≤ (x25.1.rows.length : Int)))
     (some (decide ((x25.1.rows.length : Int) ≤ x32.high)))
     (some false))
    (some false)))
theorem lQ (sA : LSchema) (st : List LRelation) (q : LQuery) (args : Rq) (r : Bool) (H : eN sA st q args = some r) :
  aP Tryz.prog 3 [(.agg (bM sA)),(.list 79 (st.map cZ)),(.agg (aH q)),(.list 75 (args.map ae))] (aN r) := by
 unfold eN at H
 refine PH.ay Tryz.func3 Tryz.ntmps3 ?_
 refine ab (aa (aI ?_))
 refine aI ?_
 refine ak tk rfl (ac (ab (ab (aa ?_))))
 obtain ⟨x12,h12,H⟩ := cO H
 have s12 := sampleV_spec
 rw [h12] at s12
 refine ao Tryz.call6 (jp.r) s12 ?_
 refine ak tk rfl (ac ?_)
 refine aM rfl H (fun H=>?_) (fun H=>?_)
 ·refine aw 1 tk rfl ?_
  exact bn tk H rfl
 refine av (ab (ab (aa (ag 4 tk rfl ?_))))
 obtain ⟨x18,h18,H⟩ := az H
 have s18 := uk sA st q args _ h18
 refine ao Tryz.call7 (jp.r) s18 ?_
 refine ak tk rfl (ac ?_)
 refine aM rfl H (fun H=>?_) (fun H=>?_)
 ·refine aw 1 tk rfl ?_
  exact bn tk H rfl
 refine av (ab (aa (ag 4 tk rfl ?_)))
 obtain ⟨x25,h25,H⟩ := az H
 have s25 := rB sA st q args _ h25
 refine ao Tryz.call8 (jp.r) s25 ?_
 refine ag 3 tk rfl ?_
 refine aX tk fun b9=>?_
 refine au tk ?_
 refine ak tk rfl (ac (ab (bp tk mok ⟨false,false,[]⟩ [0,1,3,2,4,5,6] rfl (by decide +kernel) rfl (aQ 3 rfl ?_))))
 obtain ⟨x30,h30,H⟩ := az H
 have s30 := pJ st _ h30
 refine aY Tryz.call10 (jp.r) s30 ?_
 obtain ⟨x32,h32,H⟩ := az H
 have s32 := qE sA x30 q _ h32
 refine aY Tryz.call9 (jp.r) s32 ?_
 refine nI rfl rfl rfl rfl rfl rfl rfl rfl fun b11=>?_
 refine ce ?_
 refine bg (ab (aa (ag 2 tk rfl ?_)))
 refine bq rfl rfl rfl H (fun H=>?_) (fun H=>?_)
 ·refine ak tk rfl (aA tk ?_)
  refine ak tk rfl (aA tk ?_)
  refine aC tk (zl _) ?_
  refine ag 3 tk rfl ?_
  refine bq rfl rfl rfl H (fun H=>?_) (fun H=>?_)
  ·refine ak tk rfl (aA tk ?_)
   refine aC tk (zl _) ?_
   refine ak tk rfl (aA tk ?_)
   refine ag 3 tk rfl (ac ?_)
   exact bn tk H rfl
  refine ag 8 tk rfl (ac ?_)
  exact bn tk H rfl
 refine ag 16 tk rfl (ac ?_)
 exact bn tk H rfl
end
end Go.Proofs.YteceobbkljmbmaaGreatDoor

namespace Go.Proofs.YteceobbkljmbmaaGreatDoor
noncomputable section
open Go Go.Ab
theorem LQuery.inputs_lt {q x : LQuery} (h : x ∈ q.inputs) : SizeOf.sizeOf x < SizeOf.sizeOf q := by
 cases q
 simp only [LQuery.inputs] at h
 have := List.sizeOf_lt_of_mem h
 simp only [LQuery.mk.sizeOf_spec]
 omega
theorem LQuery.ind {p : LQuery → Prop} (h : ∀ q : LQuery,(∀ x ∈ q.inputs,p x) → p q) : ∀ q,p q := by
 intro q
 generalize hn : SizeOf.sizeOf q = n
 induction n using Nat.strongRecOn generalizing q with
 | _ n ih=>exact h q fun x hx=>ih _ (hn ▸ LQuery.inputs_lt hx) x rfl
theorem ev_all {α : Type} {p : α → Nat → Prop} : ∀ (xs : List α),(∀ x ∈ xs,∃ N,∀ n,N ≤ n → p x n) → ∃ N,∀ n,N ≤ n → ∀ x ∈ xs,p x n
 | [],_=>⟨0,fun _ _ x hx=>by simp at hx⟩
 | y :: xs,h=>by
  obtain ⟨N,hN⟩ := h y (by simp)
  obtain ⟨N',hN'⟩ := ev_all xs fun x hx=>h x (by simp [hx])
  refine ⟨N + N',fun n hn x hx=>?_⟩
  rcases List.mem_cons.1 hx with rfl | hx
  ·exact hN n (by omega)
  ·exact hN' n (by omega) x hx
theorem kv {α σ ρ : Type} {step step' : Nat → α → σ → Option (Flow σ ρ)} : ∀ (xs : List α) (j : Nat) (s : σ),(∀ k x s,xs[k]? = some x → step (j + k) x s = step' (j + k) x s) → aK step j xs s = aK step' j xs s
 | [],_,_,_=>rfl
 | x :: xs,j,s,h=>by
  have h0 := h 0 x s rfl
  rw [Nat.add_zero] at h0
  rw [aK,aK,h0]
  split
  ·rfl
  ·exact kv xs (j + 1) _ fun k y t hk=>by
    have := h (k + 1) y t (by simpa using hk)
    rwa [show j + (k + 1) = j + 1 + k from by omega] at this
  ·rfl
  ·rfl
theorem eX {α : Type} {xs : List α} {k : Nat} {x : α} (h : xs[k]? = some x) : x ∈ xs := List.mem_of_getElem? h
theorem nj {γ β : Type} {F : Nat → γ → LQuery → Option β} {O : (γ → LQuery → Option β) → γ → LQuery → Option β} (hF : ∀ n,F (n + 1) = O (F n)) (c : γ) (q : LQuery)
  (hc : ∀ r r' : γ → LQuery → Option β,(∀ x ∈ q.inputs,r c x = r' c x) → O r c q = O r' c q) (hx : ∀ x ∈ q.inputs,∃ v,iF (fun n=>F n c x) = some v) {r : β} (h : O (fun c q=>iF fun n=>F n c q) c q = some r) :
  iF (fun n=>F n c q) = some r := by
 obtain ⟨N,hN⟩ := ev_all (p := fun x n=>F n c x = iF fun n=>F n c x) q.inputs (fun x hm=>by
  obtain ⟨v,hv⟩ := hx x hm
  obtain ⟨N,hN⟩ := limN_ev hv
  exact ⟨N,fun n hn=>by rw [hN n hn,hv]⟩)
 refine nH (N + 1) fun m hm=>?_
 obtain ⟨m,rfl⟩ : ∃ k,m = k + 1 := ⟨m - 1,by omega⟩
 rw [hF,hc _ (fun c q=>iF fun n=>F n c q) (hN m (by omega)),h]
def cB (q : LQuery) : List LQuery := q :: (q.inputs.attach.map fun x=>cB x.1).flatten
termination_by SizeOf.sizeOf q
decreasing_by exact LQuery.inputs_lt x.2
theorem jf (q : LQuery) : cB q = q :: (q.inputs.map cB).flatten := by
 rw [cB,List.attach_map_val (f := cB)]
theorem flat_le {α β : Type} {f : α → List β} {xs : List α} {x : α} (h : x ∈ xs) : (f x).length ≤ ((xs.map f).flatten).length := by
 induction xs with
 | nil=>simp at h
 | cons y xs ih =>
  simp only [List.map_cons,List.flatten_cons,List.length_append]
  rcases List.mem_cons.1 h with rfl | h
  ·omega
  ·have := ih h; omega
theorem mS {q x : LQuery} (h : x ∈ q.inputs) : (cB x).length + 1 ≤ (cB q).length := by
 rw [jf q]
 have := flat_le (f := cB) h
 simp only [List.length_cons]
 omega
theorem bV {α : Type} {bytes : Nat} {xs ys : List α} (hb : bytes ≤ 200) (h : xs.length + ys.length ≤ 10000000) : dg bytes xs ys = some (xs ++ ys) := by
 refine appI_ok ?_ (by unfold maxLen; omega)
 have : (xs.length + ys.length) * bytes ≤ 10000000 * 200 := Nat.mul_le_mul h hb
 omega
theorem take_flat {α β : Type} {f : α → List β} {xs : List α} {k : Nat} : (((xs.take k).map f).flatten).length ≤ ((xs.map f).flatten).length := by
 induction xs generalizing k with
 | nil=>simp
 | cons y xs ih =>
  cases k with
  | zero=>simp
  | succ k=>simp only [List.take_succ_cons,List.map_cons,List.flatten_cons,List.length_append]; have := ih (k := k); omega
theorem nodes_ok : ∀ q : LQuery,(cB q).length ≤ 10000000 → jI q = some (cB q) := by
 refine LQuery.ind fun q ih hb=>?_
 refine nj (γ := Unit) (F := fun n _ q=>jJ n q) (O := fun r _ q=>jC (fun x=>r () x) q) (fun n=>rfl) () q ?_ (fun x hx=>⟨_,ih x hx (by have := mS hx; omega)⟩) ?_
 ·intro r r' h
  simp only [jC]
  congr 1
  exact kv q.inputs 0 _ fun k x s hk=>by rw [h x (eX hk)]
 ·have hr := rMa (step := fun (_ : Nat) (x1 : LQuery) (s1 : List LQuery)=>af (jI x1) fun x17=>af (dg 160 s1 x17) fun (x18 : List LQuery)=>some (Flow.next (ρ := Empty) x18)) (xs := q.inputs) (s := [q])
   (fun k=>q :: ((q.inputs.take k).map cB).flatten) (by simp) (fun k x hk=>by
    have hx := eX hk
    rw [ih x hx (by have := mS hx; omega),bPs,bV (by decide),bPs]
    ·rw [List.take_add_one,hk]; simp
    ·have h1 : (((q.inputs.take (k + 1)).map cB).flatten).length ≤ ((q.inputs.map cB).flatten).length := take_flat
     rw [List.take_add_one,hk] at h1
     rw [jf] at hb
     simp at h1 hb ⊢
     omega)
  simp only [jC]
  have e : ∀ x,(iF fun n=>jJ n x) = jI x := fun _=>rfl
  simp only [e]
  rw [hr,bPs,bX,List.take_length,jf]
def cP (a b : Int) : Int := if b > a then b else a
theorem qI {a b c : Int} (h : a ≤ c) (h' : b ≤ c) : cP a b ≤ c := by unfold cP; split <;> assumption
theorem iD (a b : Int) : a ≤ cP a b := by unfold cP; split <;> omega
theorem lJ (a b : Int) : b ≤ cP a b := by unfold cP; split <;> omega
def jn (q : LQuery) : Int := (q.inputs.attach.map fun x=>jn x.1).foldl cP 0 + 1
termination_by SizeOf.sizeOf q
decreasing_by exact LQuery.inputs_lt x.2
theorem sF (q : LQuery) : jn q = (q.inputs.map jn).foldl cP 0 + 1 := by
 rw [jn,List.attach_map_val (f := jn)]
theorem rO : ∀ {l : List Int} {a c : Int},a ≤ c → (∀ x ∈ l,x ≤ c) → l.foldl cP a ≤ c
 | [],_,_,h,_=>h
 | x :: l,a,c,h,hl=>rO (l := l) (qI h (hl x (by simp))) fun y hy=>hl y (by simp [hy])
theorem rN : ∀ {l : List Int} {a : Int},a ≤ l.foldl cP a ∧ ∀ x ∈ l,x ≤ l.foldl cP a
 | [],a=>⟨Int.le_refl a,by simp⟩
 | x :: l,a=>by
  obtain ⟨h1,h2⟩ := rN (l := l) (a := cP a x)
  simp only [List.foldl_cons]
  refine ⟨Int.le_trans (iD a x) h1,fun y hy=>?_⟩
  rcases List.mem_cons.1 hy with rfl | hy
  ·exact Int.le_trans (lJ a y) h1
  ·exact h2 y hy
theorem depthQ_nodes : ∀ q : LQuery,1 ≤ jn q ∧ jn q ≤ (cB q).length := by
 refine LQuery.ind fun q ih=>?_
 rw [sF,jf]
 have h1 : (q.inputs.map jn).foldl cP 0 ≤ (((q.inputs.map cB).flatten).length : Nat) := rO (by omega) fun x hx=>by
  obtain ⟨y,hy,rfl⟩ := List.mem_map.1 hx
  have := (ih y hy).2
  have := flat_le (f := cB) hy
  omega
 have h2 := (rN (l := q.inputs.map jn) (a := 0)).1
 simp only [List.length_cons]
 omega
theorem depth_ok : ∀ q : LQuery,(cB q).length ≤ 10000000 → kP q = some (jn q) := by
 refine LQuery.ind fun q ih hb=>?_
 refine nj (γ := Unit) (F := fun n _ q=>jF n q) (O := fun r _ q=>jG (fun x=>r () x) q) (fun n=>rfl) () q ?_ (fun x hx=>⟨_,ih x hx (by have := mS hx; omega)⟩) ?_
 ·intro r r' h
  simp only [jG]
  congr 1
  exact kv q.inputs 0 _ fun k x s hk=>by rw [h x (eX hk)]
 ·have hr := rMa (step := fun (_ : Nat) (x1 : LQuery) (s1 : Int)=>af (kP x1) fun x15=>some (Flow.next (ρ := Empty) (if x15 > s1 then x15 else s1))) (xs := q.inputs) (s := 0)
   (fun k=>((q.inputs.take k).map jn).foldl cP 0) (by simp) (fun k x hk=>by
    have hx := eX hk
    rw [ih x hx (by have := mS hx; omega),bPs,List.take_add_one,hk]
    simp [cP])
  simp only [jG]
  have e : ∀ x,(iF fun n=>jF n x) = kP x := fun _=>rfl
  simp only [e]
  rw [hr,bPs,bX,List.take_length,sF]
  have h := depthQ_nodes q
  rw [sF] at h
  rw [bs (by omega) (by omega)]
def nu (n : Int) : Int := if 20001 < n then 20001 else n
def iO (kind : Int) (s : Int × Int) (j : Nat) (x : Int × Int) : Int × Int :=
 (nu (if j = 0 then x.1 else if kind = 6 then s.1 + x.1 else if kind = 4 ∨ kind = 5 then s.1 * cP 1 x.1 else s.1),cP s.2 x.2)
def ew (kind : Int) : Nat → List (Int × Int) → Int × Int → Int × Int
 | _,[],s=>s
 | j,x :: l,s=>ew kind (j + 1) l (iO kind s j x)
def bv (q : LQuery) : Int × Int :=
 let s := ew q.kind 0 (q.inputs.attach.map fun x=>bv x.1) (0,0)
 if q.kind = 1 then (24,cP s.2 24) else (s.1,cP s.2 s.1)
termination_by SizeOf.sizeOf q
decreasing_by exact LQuery.inputs_lt x.2
theorem np (q : LQuery) : bv q = if q.kind = 1 then (24,cP (ew q.kind 0 (q.inputs.map bv) (0,0)).2 24) else ((ew q.kind 0 (q.inputs.map bv) (0,0)).1,cP (ew q.kind 0 (q.inputs.map bv) (0,0)).2 (ew q.kind 0 (q.inputs.map bv) (0,0)).1) := by
 rw [bv,List.attach_map_val (f := bv)]
def nV (s : Int × Int) : Prop := 0 ≤ s.1 ∧ s.1 ≤ 20001 ∧ 0 ≤ s.2 ∧ s.2 ≤ 20001
theorem capI_b {n : Int} (h : 0 ≤ n) : 0 ≤ nu n ∧ nu n ≤ 20001 := by unfold nu; split <;> omega
theorem mostStep_r {kind : Int} {s x : Int × Int} {j : Nat} (hs : nV s) (hx : nV x) : nV (iO kind s j x) := by
 obtain ⟨a1,a2,a3,a4⟩ := hs
 obtain ⟨b1,b2,b3,b4⟩ := hx
 unfold iO
 have h1 : 0 ≤ (if j = 0 then x.1 else if kind = 6 then s.1 + x.1 else if kind = 4 ∨ kind = 5 then s.1 * cP 1 x.1 else s.1) := by
  split
  ·exact b1
  ·split
   ·omega
   ·split
    ·exact Int.mul_nonneg a1 (Int.le_trans (by decide) (iD 1 x.1))
    ·exact a1
 exact ⟨(capI_b h1).1,(capI_b h1).2,Int.le_trans a3 (iD _ _),qI a4 b4⟩
theorem rc {kind : Int} : ∀ {l : List (Int × Int)} {j : Nat} {s : Int × Int},nV s → (∀ x ∈ l,nV x) → nV (ew kind j l s)
 | [],_,_,h,_=>h
 | x :: l,j,s,h,hl=>rc (l := l) (mostStep_r h (hl x (by simp))) fun y hy=>hl y (by simp [hy])
theorem mostQ_r : ∀ q : LQuery,nV (bv q) := by
 refine LQuery.ind fun q ih=>?_
 rw [np]
 have h : nV (ew q.kind 0 (q.inputs.map bv) (0,0)) := rc ⟨by decide,by decide,by decide,by decide⟩ fun x hx=>by
  obtain ⟨y,hy,rfl⟩ := List.mem_map.1 hx
  exact ih y hy
 obtain ⟨a1,a2,a3,a4⟩ := h
 split
 ·exact ⟨show (0 : Int) ≤ 24 by decide,show (24 : Int) ≤ 20001 by decide,Int.le_trans a3 (iD _ _),qI a4 (by decide)⟩
 ·exact ⟨a1,a2,Int.le_trans a3 (iD _ _),qI a4 a2⟩
theorem sO (kind : Int) : ∀ (l : List (Int × Int)) (j : Nat) (s x : Int × Int),ew kind j (l ++ [x]) s = iO kind (ew kind j l s) (j + l.length) x
 | [],j,s,x=>by simp [ew]
 | y :: l,j,s,x=>by
  rw [List.cons_append,ew,sO kind l (j + 1),ew]
  congr 1
  simp
  omega
theorem mostStep_run {kind : Int} {s x : Int × Int} {j : Nat} (hs : nV s) (hx : nV x) :
  (cond ((j : Int) == (0 : Int))
   (some (Flow.next (ρ := Empty) ((if (20001 : Int) < x.1 then (20001 : Int) else x.1),(if x.2 > s.2 then x.2 else s.2))))
   (cond (kind == (6 : Int))
    (some (.next ((if (20001 : Int) < (IntKind.i64.wrap (s.1 + x.1)) then (20001 : Int) else (IntKind.i64.wrap (s.1 + x.1))),(if x.2 > s.2 then x.2 else s.2))))
    (bC (
     cond (kind == (4 : Int))
      (true)
      ((kind == (5 : Int)))) fun (t4 : Bool) =>
    cond t4
     (some (.next ((if (20001 : Int) < (IntKind.i64.wrap (s.1 * (if x.1 > (1 : Int) then x.1 else (1 : Int)))) then (20001 : Int) else (IntKind.i64.wrap (s.1 * (if x.1 > (1 : Int) then x.1 else (1 : Int))))),(if x.2 > s.2 then x.2 else s.2))))
     (some (.next ((if (20001 : Int) < s.1 then (20001 : Int) else s.1),(if x.2 > s.2 then x.2 else s.2))))))) = some (.next (iO kind s j x)) := by
 obtain ⟨a1,a2,a3,a4⟩ := hs
 obtain ⟨b1,b2,b3,b4⟩ := hx
 have hm : 1 ≤ cP 1 x.1 ∧ cP 1 x.1 ≤ 20001 := ⟨iD _ _,qI (by decide) b2⟩
 have hp : 0 ≤ s.1 * cP 1 x.1 ∧ s.1 * cP 1 x.1 ≤ 20001 * 20001 := ⟨Int.mul_nonneg a1 (by omega),Int.mul_le_mul a2 hm.2 (by omega) (by decide)⟩
 have hw1 : IntKind.i64.wrap (s.1 + x.1) = s.1 + x.1 := bs (by omega) (by omega)
 have hw2 : IntKind.i64.wrap (s.1 * (if x.1 > (1 : Int) then x.1 else (1 : Int))) = s.1 * cP 1 x.1 := bs (by show _ ≤ s.1 * cP 1 x.1; omega) (by show s.1 * cP 1 x.1 ≤ _; omega)
 rw [hw1,hw2]
 unfold iO nu cP bC
 by_cases h0 : j = 0
 ·subst h0; simp
 ·have : ((j : Int) == (0 : Int)) = false := by simp; omega
  rw [this]
  by_cases h6 : kind = 6
  ·subst h6; simp [h0]
  ·by_cases h4 : kind = 4
   ·subst h4; simp [h0]
   ·by_cases h5 : kind = 5
    ·subst h5; simp [h0]
    ·have e6 : (kind == (6 : Int)) = false := by simpa using h6
     have e4 : (kind == (4 : Int)) = false := by simpa using h4
     have e5 : (kind == (5 : Int)) = false := by simpa using h5
     simp [h0,h6,h4,h5,e6,e4,e5]
theorem most_ok : ∀ q : LQuery,mA q = some (bv q) := by
 refine LQuery.ind fun q ih=>?_
 refine nj (γ := Unit) (F := fun n _ q=>kl n q) (O := fun r _ q=>kr (fun x=>r () x) q) (fun n=>rfl) () q ?_ (fun x hx=>⟨_,ih x hx⟩) ?_
 ·intro r r' h
  simp only [kr]
  congr 1
  exact kv q.inputs 0 _ fun k x s hk=>by rw [h x (eX hk)]
 ·simp only [kr]
  have e : ∀ x,(iF fun n=>kl n x) = mA x := fun _=>rfl
  simp only [e]
  rw [rMa (xs := q.inputs) (s := (0,0)) (fun k=>ew q.kind 0 ((q.inputs.take k).map bv) (0,0)) (by simp [ew]) (fun k x hk=>by
    have hx := eX hk
    rw [ih x hx,bPs,mostStep_run (rc ⟨by decide,by decide,by decide,by decide⟩ fun y hy=>by
     obtain ⟨z,_,rfl⟩ := List.mem_map.1 hy
     exact mostQ_r z) (mostQ_r x),List.take_add_one,hk]
    have hk' := (zg.1 hk).1
    simp only [Option.toList_some,List.map_append,List.map_cons,List.map_nil]
    rw [sO]
    congr 3
    simp
    omega)]
  rw [bPs,bX,List.take_length,np]
  by_cases h1 : q.kind = 1
  ·simp [h1,cP]
  ·have : (q.kind == (1 : Int)) = false := by simpa using h1
   simp [h1,this,cP]
def pO : List (Int → Int) → Int → Int
 | [],s=>s
 | f :: l,s=>if s < 0 then -1 else pO l (f (IntKind.i64.wrap (s - 1)))
def sizeHere (q : LQuery) (m : Int) : Int :=
 q.aggregates.foldl (fun s a=>a.args.foldl (fun s e=>jw e (IntKind.i64.wrap (s - 1))) s) (q.exprs.foldl (fun s e=>jw e (IntKind.i64.wrap (s - 1))) m)
def mZ (q : LQuery) : Int → Int := fun m=>pO (q.inputs.attach.map fun x=>mZ x.1) (sizeHere q m)
termination_by SizeOf.sizeOf q
decreasing_by exact LQuery.inputs_lt x.2
theorem sizeQ_eq (q : LQuery) (m : Int) : mZ q m = pO (q.inputs.map mZ) (sizeHere q m) := by
 rw [mZ,List.attach_map_val (f := mZ)]
theorem sk {f : LQuery → Int → Option Int} : ∀ (l : List LQuery) (j : Nat) (s : Int),(∀ x ∈ l,∀ m,f x m = some (mZ x m)) →
  af (aK (σ := Int) (ρ := Int) (fun (_ : Nat) (x6 : LQuery) (s6 : Int)=>cond (decide (s6 < (0 : Int))) (some (.ret (-1))) (af (f x6 (IntKind.i64.wrap (s6 - (1 : Int)))) fun x57=>some (.next x57))) j l s) (fun fl6=>fl6.thenR fun (s6 : Int)=>some s6) = some (pO (l.map mZ) s)
 | [],j,s,_=>rfl
 | x :: l,j,s,h=>by
  rw [aK,List.map_cons,pO]
  by_cases hs : s < 0
  ·simp [hs]
  ·simp only [hs,decide_false,zd,if_false]
   rw [h x (by simp),bPs]
   exact sk l (j + 1) _ fun y hy=>h y (by simp [hy])
theorem size_ok : ∀ (q : LQuery) (m : Int),me q m = some (mZ q m) := by
 have key : ∀ q : LQuery,∃ N,∀ n,N ≤ n → ∀ m,gB n q m = some (mZ q m) := by
  refine LQuery.ind fun q ih=>?_
  obtain ⟨N,hN⟩ := ev_all (p := fun x n=>∀ m,gB n x m = some (mZ x m)) q.inputs ih
  refine ⟨N + 1,fun n hn m=>?_⟩
  obtain ⟨n,rfl⟩ : ∃ k,n = k + 1 := ⟨n - 1,by omega⟩
  rw [gB]
  simp only [kE,bF]
  rw [nQ (xs := q.exprs) (fun s e=>jw e (IntKind.i64.wrap (s - 1))) (fun _ _ _=>rfl),bPs,bX]
  rw [nQ (xs := q.aggregates) (fun s a=>a.args.foldl (fun s e=>jw e (IntKind.i64.wrap (s - 1))) s) (fun k a _=>by
   rw [nQ (xs := a.args) (fun s e=>jw e (IntKind.i64.wrap (s - 1))) (fun _ _ _=>rfl),bPs,bX]),bPs,bX]
  rw [sk q.inputs 0 _ (hN n (by omega)),sizeQ_eq]
  rfl
 intro q m
 obtain ⟨N,hN⟩ := key q
 exact nH N fun n hn=>hN n hn m
theorem LExpr.args_lt {e x : LExpr} (h : x ∈ e.args) : SizeOf.sizeOf x < SizeOf.sizeOf e := by
 cases e
 simp only [LExpr.args] at h
 have := List.sizeOf_lt_of_mem h
 simp only [LExpr.mk.sizeOf_spec]
 omega
theorem LExpr.ind {p : LExpr → Prop} (h : ∀ e : LExpr,(∀ x ∈ e.args,p x) → p e) : ∀ e,p e := by
 intro e
 generalize hn : SizeOf.sizeOf e = n
 induction n using Nat.strongRecOn generalizing e with
 | _ n ih=>exact h e fun x hx=>ih _ (hn ▸ LExpr.args_lt hx) x rfl
def ja (e : LExpr) : List (Nat × Int) := if e.kind = 3 ∧ 0 ≤ e.index ∧ e.index < 8 then [(e.index.toNat,e.value.kind)] else []
def cK (e : LExpr) : List (Nat × Int) := ja e ++ (e.args.attach.map fun x=>cK x.1).flatten
termination_by SizeOf.sizeOf e
decreasing_by exact LExpr.args_lt x.2
theorem nc (e : LExpr) : cK e = ja e ++ (e.args.map cK).flatten := by
 rw [cK,List.attach_map_val (f := cK)]
abbrev PSt := List Int × Bool × List Bool
def iK (out : List Int) (i : Nat) : List Int := out ++ List.replicate (i + 1 - out.length) 0
def eO (s : PSt) (p : Nat × Int) : PSt :=
 ((iK s.1 p.1).set p.1 p.2,s.2.1 || (s.2.2.getD p.1 false && (iK s.1 p.1).getD p.1 0 != p.2),s.2.2.set p.1 true)
def POk (s : PSt) : Prop := s.1.length ≤ 8 ∧ s.2.2.length = 8
theorem oA (out : List Int) (i : Nat) : (iK out i).length = max out.length (i + 1) := by simp [iK]; omega
theorem pstep_ok {s : PSt} {p : Nat × Int} (h : POk s) (hp : p.1 < 8) : POk (eO s p) := by
 refine ⟨?_,by simp [eO,h.2]⟩
 show ((iK s.1 p.1).set p.1 p.2).length ≤ 8
 rw [List.length_set,oA]
 have := h.1
 omega
theorem mK : ∀ e : LExpr,∀ p ∈ cK e,p.1 < 8 := by
 refine LExpr.ind fun e ih p hp=>?_
 rw [nc,List.mem_append] at hp
 rcases hp with hp | hp
 ·unfold ja at hp
  split at hp
  ·rename_i h; simp at hp; subst hp; simp; omega
  ·simp at hp
 ·obtain ⟨l,hl,hp⟩ := List.mem_flatten.1 hp
  obtain ⟨x,hx,rfl⟩ := List.mem_map.1 hl
  exact ih x hx p hp
theorem mc : ∀ {l : List (Nat × Int)} {s : PSt},POk s → (∀ p ∈ l,p.1 < 8) → POk (l.foldl eO s)
 | [],_,h,_=>h
 | p :: l,s,h,hl=>mc (l := l) (pstep_ok h (hl p (by simp))) fun q hq=>hl q (by simp [hq])
theorem pad_while (i : Nat) (hi : i < 8) : ∀ (n : Nat) (out : List Int),i + 1 - out.length = n → out.length ≤ 8 →
  fh (σ := List Int) (ρ := Empty) (fun (s7 : List Int)=>cond (decide ((s7.length : Int) ≤ (i : Int))) (af (dg 8 s7 ([0] : List Int)) fun (x28 : List Int)=>some (.next x28)) (some (.brk s7))) out = some (.next (iK out i))
 | 0,out,hn,ho=>by
  refine jd (fl := .brk out) ?_ ?_
  ·have : ¬ ((out.length : Int) ≤ (i : Int)) := by omega
   simp [this]
  ·simp [iK,hn]
 | n + 1,out,hn,ho=>by
  refine jd (fl := .next (out ++ [0])) ?_ ?_
  ·have : (out.length : Int) ≤ (i : Int) := by omega
   simp only [this,decide_true,zc]
   rw [bV (by decide) (by simp; omega)]
   rfl
  ·have := pad_while i hi n (out ++ [0]) (by simp; omega) (by simp; omega)
   simp only
   rw [this]
   simp only [iK,List.length_append,List.length_singleton,List.append_assoc,hn]
   rw [show i + 1 - (out.length + 1) = n from by omega,show (List.replicate (n + 1) (0 : Int)) = [0] ++ List.replicate n 0 from rfl]
theorem arrI_at {xs : List Bool} {i : Nat} (h : xs.length = 8) (hi : i < 8) : arrI 8 xs (i : Int) = some (xs.getD i false) := by
 have : xs[i]? = some (xs.getD i false) := by rw [List.getD_eq_getElem?_getD,ze (by omega)]; rfl
 exact arrI_eq (by omega) (by simpa using this)
theorem getI_at {xs : List Int} {i : Nat} (h : i < xs.length) : aF xs (i : Int) = some (xs.getD i 0) := by
 have : xs[i]? = some (xs.getD i 0) := by rw [List.getD_eq_getElem?_getD,ze h]; rfl
 exact mj this
theorem look_ok : ∀ e : LExpr,∃ N,∀ n,N ≤ n → ∀ s : PSt,POk s → dl n e s.1 s.2.1 s.2.2 = some ((cK e).foldl eO s) := by
 refine LExpr.ind fun e ih=>?_
 obtain ⟨N,hN⟩ := ev_all (p := fun x n=>∀ s : PSt,POk s → dl n x s.1 s.2.1 s.2.2 = some ((cK x).foldl eO s)) e.args ih
 refine ⟨N + 1,fun n hn s hs=>?_⟩
 obtain ⟨n,rfl⟩ : ∃ k,n = k + 1 := ⟨n - 1,by omega⟩
 rw [dl]
 simp only [gW]
 have h1 : POk ((ja e).foldl eO s) := mc hs fun p hp=>mK e p (by rw [nc]; simp [hp])
 have hloop : ∀ s : PSt,POk s → af (aK (σ := List Int × Bool × List Bool) (ρ := Empty) (fun (_ : Nat) (x11 : LExpr) (s11 : List Int × Bool × List Bool) =>
   af (dl n x11 s11.1 s11.2.1 s11.2.2) fun x66=>some (.next (x66.1,x66.2.1,x66.2.2))) 0 e.args (s.1,s.2.1,s.2.2)) (fun fl11=>fl11.thenP fun (s11 : List Int × Bool × List Bool)=>some (s11.1,s11.2.1,s11.2.2)) =
   some (((e.args.map cK).flatten).foldl eO s) := by
  intro s hs
  rw [rMa (xs := e.args) (s := (s.1,s.2.1,s.2.2)) (fun k=>(((e.args.take k).map cK).flatten).foldl eO s) rfl (fun k x hk=>by
   have hx := eX hk
   have hok : POk ((((e.args.take k).map cK).flatten).foldl eO s) := mc hs fun p hp=>by
    obtain ⟨l,hl,hp⟩ := List.mem_flatten.1 hp
    obtain ⟨y,hy,rfl⟩ := List.mem_map.1 hl
    exact mK y p hp
   rw [hN n (by omega) x hx _ hok,bPs,List.take_add_one,hk]
   simp)]
  rw [bPs,bX,List.take_length]
 have key : (af (cond (bC (cond (e.kind == (3 : Int)) (cond (decide (e.index ≥ (0 : Int))) ((decide (e.index < (8 : Int)))) (false)) (false)) fun (t1 : Bool)=>t1)
   (af (fh (σ := List Int) (ρ := Empty) (fun (s7 : List Int)=>cond (decide ((s7.length : Int) ≤ e.index)) (af (dg 8 s7 ([0] : List Int)) fun (x28 : List Int)=>some (.next x28)) (some (.brk s7))) s.1) fun fl7=>fl7.thenP fun (s7 : List Int) =>
   af (cond s.2.1 (some true) (af (arrI 8 s.2.2 e.index) fun (x33 : Bool)=>cond x33 (af (aF s7 e.index) fun (x39 : Int)=>some (x39 != e.value.kind)) (some false))) fun (t8 : Bool) =>
   af (aF s7 e.index) fun (_ : Int)=>bC (s7.set e.index.toNat e.value.kind) fun (y9 : List Int)=>af (arrI 8 s.2.2 e.index) fun (_ : Bool)=>bC (s.2.2.set e.index.toNat true) fun (y10 : List Bool)=>some (y9,t8,y10))
   (some (s.1,s.2.1,s.2.2))) fun t=>some t) = some ((ja e).foldl eO s) := by
  unfold bC
  by_cases hc : e.kind = 3 ∧ 0 ≤ e.index ∧ e.index < 8
  ·obtain ⟨hk,h0,h8⟩ := hc
   obtain ⟨i,hi⟩ : ∃ i : Nat,e.index = i := ⟨e.index.toNat,by omega⟩
   have hi8 : i < 8 := by omega
   have e0 : (e.kind == (3 : Int)) = true := by simpa using hk
   have e1 : decide (e.index ≥ (0 : Int)) = true := zt h0
   have e2 : decide (e.index < (8 : Int)) = true := zt h8
   rw [e0,e1,e2]
   simp only [zc]
   rw [hi,pad_while i hi8 _ s.1 rfl hs.1]
   simp only [bPs,bX]
   have hl : i < (iK s.1 i).length := by rw [oA]; omega
   rw [arrI_at hs.2 hi8,getI_at hl]
   simp only [bPs,Int.toNat_natCast]
   have hh : ja e = [(i,e.value.kind)] := by unfold ja; rw [zp ⟨hk,h0,h8⟩,hi,Int.toNat_natCast]
   rw [hh]
   simp only [List.foldl_cons,List.foldl_nil,eO]
   cases hb : s.2.1 <;> cases hc : s.2.2.getD i false <;> simp
  ·have hh : ja e = [] := by unfold ja; rw [zy hc]
   rw [hh]
   have e0 : (cond (e.kind == (3 : Int)) (cond (decide (e.index ≥ (0 : Int))) ((decide (e.index < (8 : Int)))) (false)) (false)) = false := by
    by_cases a : e.kind = 3
    ·by_cases b : 0 ≤ e.index
     ·have : ¬ e.index < 8 := fun h=>hc ⟨a,b,h⟩
      simp [this]
     ·have : ¬ e.index ≥ 0 := b
      simp [this]
    ·have : (e.kind == (3 : Int)) = false := by simpa using a
     simp [this]
   rw [e0]
   rfl
 simp only [bF] at key ⊢
 rw [nc,List.foldl_append,← hloop _ h1]
 generalize hg : (cond _ _ _ : Option PSt) = o at key
 cases o with
 | none=>cases key
 | some t =>
  simp only [bPs,zo] at key
  subst key
  rfl
theorem look_eq (e : LExpr) {s : PSt} (h : POk s) : fV e s.1 s.2.1 s.2.2 = some ((cK e).foldl eO s) := by
 obtain ⟨N,hN⟩ := look_ok e
 exact nH N fun n hn=>hN n hn s h
def ji (x : LQuery) : List (Nat × Int) := (x.exprs.map cK).flatten ++ (x.aggregates.map fun a=>(a.args.map cK).flatten).flatten
def iL (q : LQuery) : List (Nat × Int) := ((cB q).map ji).flatten
theorem oN {x : LQuery} : ∀ p ∈ ji x,p.1 < 8 := by
 intro p hp
 rcases List.mem_append.1 hp with hp | hp
 ·obtain ⟨l,hl,hp⟩ := List.mem_flatten.1 hp
  obtain ⟨e,_,rfl⟩ := List.mem_map.1 hl
  exact mK e p hp
 ·obtain ⟨l,hl,hp⟩ := List.mem_flatten.1 hp
  obtain ⟨a,_,rfl⟩ := List.mem_map.1 hl
  obtain ⟨l,hl,hp⟩ := List.mem_flatten.1 hp
  obtain ⟨e,_,rfl⟩ := List.mem_map.1 hl
  exact mK e p hp
theorem paramsQ_lt {q : LQuery} : ∀ p ∈ iL q,p.1 < 8 := by
 intro p hp
 obtain ⟨l,hl,hp⟩ := List.mem_flatten.1 hp
 obtain ⟨x,_,rfl⟩ := List.mem_map.1 hl
 exact oN p hp
theorem lookAll {l : List LExpr} {s : PSt} (h : POk s) : aK (σ := PSt) (ρ := Empty) (fun (_ : Nat) (x12 : LExpr) (s12 : PSt) =>
   af (fV x12 s12.1 s12.2.1 s12.2.2) fun x33=>some (.next (x33.1,x33.2.1,x33.2.2))) 0 l (s.1,s.2.1,s.2.2) = some (.next (((l.map cK).flatten).foldl eO s)) := by
 rw [rMa (xs := l) (s := (s.1,s.2.1,s.2.2)) (fun k=>(((l.take k).map cK).flatten).foldl eO s) rfl (fun k x hk=>by
  have hok : POk ((((l.take k).map cK).flatten).foldl eO s) := mc h fun p hp=>by
   obtain ⟨m,hm,hp⟩ := List.mem_flatten.1 hp
   obtain ⟨y,hy,rfl⟩ := List.mem_map.1 hm
   exact mK y p hp
  rw [look_eq x hok,bPs,List.take_add_one,hk]
  simp),List.take_length]
def ec (q : LQuery) : PSt := (iL q).foldl eO ([],false,List.replicate 8 false)
theorem kinds_ok {q : LQuery} (hb : (cB q).length ≤ 10000000) : fA q = some (cond (ec q).2.1 ([],13) ((ec q).1,0)) := by
 unfold fA
 rw [nodes_ok q hb,bPs]
 rw [rMa (xs := cB q) (s := ([],false,List.replicate 8 false)) (fun k=>((((cB q).take k).map ji).flatten).foldl eO ([],false,List.replicate 8 false)) rfl (fun k x hk=>by
  have hok : POk (((((cB q).take k).map ji).flatten).foldl eO ([],false,List.replicate 8 false)) := mc ⟨by simp,by simp⟩ fun p hp=>by
   obtain ⟨m,hm,hp⟩ := List.mem_flatten.1 hp
   obtain ⟨y,hy,rfl⟩ := List.mem_map.1 hm
   exact oN p hp
  rw [lookAll hok,bPs,bX]
  rw [show ((((cB q).take (k + 1)).map ji).flatten).foldl eO ([],false,List.replicate 8 false) = (ji x).foldl eO (((((cB q).take k).map ji).flatten).foldl eO ([],false,List.replicate 8 false)) from by
   rw [List.take_add_one,hk]
   simp only [Option.toList_some,List.map_append,List.map_cons,List.map_nil,List.flatten_append,List.flatten_cons,List.flatten_nil,List.append_nil,List.foldl_append]]
  generalize (((((cB q).take k).map ji).flatten).foldl eO ([],false,List.replicate 8 false)) = s at hok ⊢
  have hok2 : POk (((x.exprs.map cK).flatten).foldl eO s) := mc hok fun p hp=>oN (x := x) p (by unfold ji; simp only [List.mem_append]; exact .inl hp)
  rw [rMa (xs := x.aggregates) (s := ((((x.exprs.map cK).flatten).foldl eO s).1,(((x.exprs.map cK).flatten).foldl eO s).2.1,(((x.exprs.map cK).flatten).foldl eO s).2.2))
   (fun k=>((((x.aggregates.take k).map fun a=>(a.args.map cK).flatten).flatten).foldl eO (((x.exprs.map cK).flatten).foldl eO s))) rfl (fun k a ha=>by
    have hok3 : POk ((((x.aggregates.take k).map fun a=>(a.args.map cK).flatten).flatten).foldl eO (((x.exprs.map cK).flatten).foldl eO s)) := mc hok2 fun p hp=>oN (x := x) p (by
     unfold ji
     simp only [List.mem_append]
     obtain ⟨m,hm,hp⟩ := List.mem_flatten.1 hp
     obtain ⟨y,hy,rfl⟩ := List.mem_map.1 hm
     exact .inr (List.mem_flatten.2 ⟨_,List.mem_map.2 ⟨y,List.mem_of_mem_take hy,rfl⟩,hp⟩))
    rw [lookAll hok3,bPs,bX,List.take_add_one,ha]
    simp)]
  rw [bPs,bX,List.take_length]
  unfold ji
  rw [List.foldl_append])]
 rw [bPs,bX,List.take_length]
 show (cond (ec q).2.1 (some ([],13)) (some ((ec q).1,0))) = _
 cases (ec q).2.1 <;> rfl
def pp (l : List (Nat × Int)) : Prop := ∀ i k k',(i,k) ∈ l → (i,k') ∈ l → k = k'
structure PInv (l : List (Nat × Int)) (s : PSt) : Prop where
 ok : POk s
 seen : ∀ i,i < 8 → (s.2.2.getD i false = true ↔ ∃ k,(i,k) ∈ l)
 len : ∀ i k,(i,k) ∈ l → i < s.1.length
 last : s.1.length = 0 ∨ ∃ k,(s.1.length - 1,k) ∈ l
 zero : ∀ i,(∀ k,(i,k) ∉ l) → s.1.getD i 0 = 0
 good : s.2.1 = false → ∀ i k,(i,k) ∈ l → s.1.getD i 0 = k
 bad : pp l → s.2.1 = false
theorem qg (out : List Int) (i j : Nat) : (iK out i).getD j 0 = out.getD j 0 := by
 simp only [iK,List.getD_eq_getElem?_getD]
 by_cases h : j < out.length
 ·rw [List.getElem?_append_left h]
 ·rw [List.getElem?_append_right (by omega),List.getElem?_eq_none (l := out) (by omega),List.getElem?_replicate]
  split <;> rfl
theorem PInv.init : PInv [] ([],false,List.replicate 8 false) :=
 ⟨⟨by simp,by simp⟩,fun i hi=>by
  have : (List.replicate 8 false).getD i false = false := by rw [List.getD_eq_getElem?_getD,List.getElem?_replicate]; split <;> rfl
  exact ⟨fun h=>(by rw [show (([],false,List.replicate 8 false) : PSt).2.2 = List.replicate 8 false from rfl,this] at h; cases h),fun ⟨k,hk⟩=>(by simp at hk)⟩,fun i k h=>by simp at h,.inl rfl,fun i _=>by simp,fun _ i k h=>by simp at h,fun _=>rfl⟩
theorem PInv.step {l : List (Nat × Int)} {s : PSt} (h : PInv l s) {p : Nat × Int} (hp : p.1 < 8) : PInv (l ++ [p]) (eO s p) := by
 obtain ⟨i,k⟩ := p
 simp only at hp
 have hset : ∀ (xs : List Int) (j : Nat) (v : Int),i < xs.length → (xs.set i v).getD j 0 = if j = i then v else xs.getD j 0 := by
  intro xs j v hl
  rw [List.getD_eq_getElem?_getD,List.getD_eq_getElem?_getD,List.getElem?_set]
  by_cases hji : i = j
  ·subst hji; simp [hl]
  ·have : j ≠ i := fun h=>hji h.symm
   simp [hji,this]
 have hl1 : i < (iK s.1 i).length := by rw [oA]; omega
 refine ⟨pstep_ok h.ok hp,fun j hj=>?_,fun j k' hm=>?_,?_,fun j hno=>?_,fun hb j k' hm=>?_,fun hk=>?_⟩
 ·show (s.2.2.set i true).getD j false = true ↔ _
  rw [List.getD_eq_getElem?_getD,List.getElem?_set]
  by_cases hji : i = j
  ·subst hji
   have : i < s.2.2.length := by rw [h.ok.2]; exact hp
   simp [this]
  ·have h1 := h.seen j hj
   rw [List.getD_eq_getElem?_getD] at h1
   have hji' : j ≠ i := fun h=>hji h.symm
   simp only [hji,if_false,h1,List.mem_append,List.mem_singleton,Prod.mk.injEq,hji',false_and,or_false]
 ·show j < ((iK s.1 i).set i k).length
  rw [List.length_set,oA]
  rcases List.mem_append.1 hm with hm | hm
  ·have := h.len j k' hm; omega
  ·simp at hm; omega
 ·show ((iK s.1 i).set i k).length = 0 ∨ ∃ k',(((iK s.1 i).set i k).length - 1,k') ∈ l ++ [(i,k)]
  rw [List.length_set,oA]
  by_cases hle : s.1.length ≤ i + 1
  ·right
   exact ⟨k,by rw [show max s.1.length (i + 1) - 1 = i from by omega]; simp⟩
  ·rcases h.last with h0 | ⟨k',hk'⟩
   ·omega
   ·right
    exact ⟨k',by rw [show max s.1.length (i + 1) - 1 = s.1.length - 1 from by omega]; simp [hk']⟩
 ·show ((iK s.1 i).set i k).getD j 0 = 0
  have hji : j ≠ i := fun e=>hno k (by simp [e])
  rw [hset _ _ _ hl1,zy hji,qg]
  exact h.zero j fun k' hm=>hno k' (by simp [hm])
 ·have hb' : s.2.1 = false ∧ (s.2.2.getD i false && (iK s.1 i).getD i 0 != k) = false := by
   have : (s.2.1 || (s.2.2.getD i false && (iK s.1 i).getD i 0 != k)) = false := hb
   simpa using this
  show ((iK s.1 i).set i k).getD j 0 = k'
  rw [hset _ _ _ hl1]
  have hold := h.good hb'.1
  rcases List.mem_append.1 hm with hm1 | hm
  ·by_cases hji : j = i
   ·subst hji
    rw [zp rfl]
    have hs := (h.seen j hp).2 ⟨k',hm1⟩
    have := hb'.2
    rw [hs,qg,hold j k' hm1] at this
    simp at this
    exact this.symm
   ·rw [zy hji,qg]
    exact hold j k' hm1
  ·simp at hm
   rw [zp hm.1,hm.2]
 ·have h1 := h.bad fun i k k' a b=>hk i k k' (by simp [a]) (by simp [b])
  show (s.2.1 || (s.2.2.getD i false && (iK s.1 i).getD i 0 != k)) = false
  rw [h1,Bool.false_or,qg]
  cases hs : s.2.2.getD i false with
  | false=>rfl
  | true =>
   obtain ⟨k',hk'⟩ := (h.seen i hp).1 hs
   rw [h.good h1 i k' hk',hk i k' k (by simp [hk']) (by simp)]
   simp
theorem PInv.fold : ∀ {r l : List (Nat × Int)} {s : PSt},PInv l s → (∀ p ∈ r,p.1 < 8) → PInv (l ++ r) (r.foldl eO s)
 | [],l,s,h,_=>by simpa using h
 | p :: r,l,s,h,hr=>by
  have := PInv.fold (r := r) (h.step (hr p (by simp))) fun q hq=>hr q (by simp [hq])
  simpa using this
theorem kinds_inv (q : LQuery) : PInv (iL q) (ec q) := by
 have := PInv.fold (r := iL q) PInv.init paramsQ_lt
 rw [List.nil_append] at this
 exact this
theorem kinds_bad {q : LQuery} : (ec q).2.1 = false ↔ pp (iL q) := by
 have h := kinds_inv q
 refine ⟨fun hb i k k' a b=>?_,h.bad⟩
 rw [← h.good hb i k a,← h.good hb i k' b]
structure ArgsOk (l : List (Nat × Int)) (args : Rq) : Prop where
 kinds : pp l
 args : ∀ i k,(i,k) ∈ l → i < args.length ∧ (∀ j x,j ≤ i → args[j]? = some x → eR x = true) ∧ (∀ x,args[i]? = some x → k = 0 ∨ x.kind = k ∨ x.kind = 0)
theorem args_ok {q : LQuery} (hb : (cB q).length ≤ 10000000) (args : Rq) : ∃ e,fw q args = some e ∧ (e = 0 ↔ ArgsOk (iL q) args) := by
 unfold fw
 rw [kinds_ok hb,bPs]
 have h := kinds_inv q
 cases hbad : (ec q).2.1 with
 | true =>
  refine ⟨13,by simp,?_⟩
  have : ¬ pp (iL q) := fun hk=>by rw [kinds_bad.2 hk] at hbad; cases hbad
  exact ⟨fun h=>by omega,fun h=>absurd h.kinds this⟩
 | false =>
  simp only [zd]
  have hk := kinds_bad.1 hbad
  by_cases hl : args.length < (ec q).1.length
  ·refine ⟨1,by simp [hl],fun h=>by omega,fun ha=>?_⟩
   rcases h.last with h0 | ⟨k,hm⟩
   ·omega
   ·have := (ha.args _ _ hm).1; omega
  ·have hge : (ec q).1.length ≤ args.length := by omega
   have hstep : ∀ k x,(ec q).1[k]? = some x → ∃ y,args[k]? = some y := fun k x hx=>by
    have := (zg.1 hx).1
    exact ⟨args[k],ze (by omega)⟩
   let okAt : Nat → Int → Prop := fun k x=>∀ y,args[k]? = some y → eR y = true ∧ (x = 0 ∨ y.kind = x ∨ y.kind = 0)
   obtain ⟨fl,hfl,hres⟩ := eD (step := fun (j1 : Nat) (x1 : Int) (_ : Unit)=>af (aF args (j1 : Int)) fun (x31 : LVal)=>bC (eR x31) fun x33=>cond (!x33) (some (Flow.ret (σ := Unit) (7 : Int)))
     (cond (x1 != (0 : Int)) (af (aF args (j1 : Int)) fun (x41 : LVal)=>cond (x41.kind != x1) (af (aF args (j1 : Int)) fun (x50 : LVal)=>cond (x50.kind != (0 : Int)) (some (.ret 7)) (some (.next ()))) (some (.next ()))) (some (.next ()))))
    (fun j _=>∀ k x,k < j → (ec q).1[k]? = some x → okAt k x) (fun r=>r = 7 ∧ ∃ k x,(ec q).1[k]? = some x ∧ ¬ okAt k x) (ec q).1 0 () (fun k x hk=>by omega) (fun k x s hk hI=>by
     obtain ⟨y,hy⟩ := hstep k x hk
     simp only [Nat.zero_add] at hI ⊢
     rw [mj hy]
     simp only [bPs,bF]
     have next : okAt k x → ∀ k' x',k' < k + 1 → (ec q).1[k']? = some x' → okAt k' x' := fun ho k' x' hk' hx'=>by
      by_cases he : k' = k
      ·subst he; rw [hk] at hx'; cases hx'; exact ho
      ·exact hI k' x' (by omega) hx'
     cases hv : eR y with
     | false=>exact ⟨_,rfl,rfl,k,x,hk,fun ho=>by have := (ho y hy).1; rw [hv] at this; cases this⟩
     | true =>
      simp only [Bool.not_true,zd]
      by_cases hx0 : x = 0
      ·refine ⟨.next (),by simp [hx0],next fun z hz=>?_⟩
       rw [hy] at hz; cases hz; exact ⟨hv,.inl hx0⟩
      ·have e0 : (x != (0 : Int)) = true := by simpa using hx0
       rw [e0,zc]
       by_cases hyx : y.kind = x
       ·refine ⟨.next (),by simp [hyx],next fun z hz=>?_⟩
        rw [hy] at hz; cases hz; exact ⟨hv,.inr (.inl hyx)⟩
       ·have e1 : (y.kind != x) = true := by simpa using hyx
        rw [e1,zc]
        by_cases hy0 : y.kind = 0
        ·refine ⟨.next (),by simp [hy0],next fun z hz=>?_⟩
         rw [hy] at hz; cases hz; exact ⟨hv,.inr (.inr hy0)⟩
        ·have e2 : (y.kind != (0 : Int)) = true := by simpa using hy0
         refine ⟨.ret 7,by simp [e2],rfl,k,x,hk,fun ho=>?_⟩
         rcases (ho y hy).2 with a | a | a
         ·exact hx0 a
         ·exact hyx a
         ·exact hy0 a)
   have e0 : decide ((args.length : Int) < ((ec q).1.length : Int)) = false := zf (by omega)
   simp only [bne_self_eq_false,zd,e0]
   rw [hfl,bPs]
   have hget : ∀ k,k < (ec q).1.length → (ec q).1[k]? = some ((ec q).1.getD k 0) := fun k hk=>by
    rw [List.getD_eq_getElem?_getD,ze hk]; rfl
   cases fl with
   | brk s=>exact absurd hres (by simp)
   | next s =>
    refine ⟨0,rfl,fun _=>⟨hk,fun i k hm=>?_⟩,fun _=>rfl⟩
    have hi := h.len i k hm
    simp only [Nat.zero_add] at hres
    refine ⟨by omega,fun j x hj hx=>?_,fun x hx=>?_⟩
    ·exact ((hres j _ (by omega) (hget j (by omega))) x hx).1
    ·have := ((hres i _ (by omega) (hget i (by omega))) x hx).2
     rwa [h.good hbad i k hm] at this
   | ret r =>
    obtain ⟨rfl,k,x,hx,hno⟩ := hres
    refine ⟨7,rfl,fun h=>by omega,fun ha=>absurd ?_ hno⟩
    intro y hy
    have hkl := (zg.1 hx).1
    rcases h.last with h0 | ⟨k',hm⟩
    ·omega
    ·have hv := (ha.args _ _ hm).2.1 k y (by omega) hy
     refine ⟨hv,?_⟩
     by_cases hex : ∃ k2,(k,k2) ∈ iL q
     ·obtain ⟨k2,hm2⟩ := hex
      have hg := h.good hbad k k2 hm2
      have hxx : x = k2 := by
       rw [hget k hkl] at hx
       rw [← hg]
       exact (Option.some.inj hx).symm
      rw [hxx]
      exact (ha.args k k2 hm2).2.2 y hy
     ·left
      have := h.zero k fun k2 hm2=>hex ⟨k2,hm2⟩
      rw [hget k hkl] at hx
      rw [← this]
      exact (Option.some.inj hx).symm
end
end Go.Proofs.YteceobbkljmbmaaGreatDoor
