/- queryGroupsPartitionRowsUpto_holds, part 4: the layer, the plain functions and what they compute; conditions as in the statement. -/
import Derived.Test.YtgaggbdcedpapaaGreatGsc
namespace Go.Proofs.YtgaggbdcedpapaaGreat
noncomputable section
open Go Go.Ab
attribute [local irreducible] V Ao Do Gh Eff PH IntKind.wrap
set_option maxRecDepth 4000
def fB (a : List LVal) (b : List LVal) (downs : List Bool) : Option (Int) :=
 af (aE (σ := Unit) (ρ := (Int)) (fun (j1 : Nat) (x1 : LVal) (_ : Unit) =>
  af (
   cond (decide ((j1 : Int) ≥ (b.length : Int)))
    (some true)
    (af (aC b (j1 : Int)) fun (x25 : LVal) =>
    some (x1.kind == x25.kind && (x1.int == x25.int && (x1.text == x25.text && true))))) fun (t3 : Bool) =>
  cond t3
   (some (.next ()))
   (af (aC b (j1 : Int)) fun (x35 : LVal) =>
   ba (jq x1 x35) fun x37 =>
   cond (decide ((j1 : Int) < (downs.length : Int)))
    (af (aC downs (j1 : Int)) fun (x45 : Bool) =>
    cond x45
     (cond (!x37)
      (some (.ret (-1)))
      (some (.ret 1)))
     (cond x37
      (some (.ret (-1)))
      (some (.ret 1))))
    (cond x37
     (some (.ret (-1)))
     (some (.ret 1))))) 0 a ()) fun fl1=>fl1.thenR fun (_ : Unit) =>
 some 0
set_option maxHeartbeats 4000000 in
theorem nz (a : List LVal) (b : List LVal) (downs : List Bool) (r : Int) (H : fB a b downs = some r) :
  aG Tryz.prog 72 [(.list 53 (a.map ae)),(.list 53 (b.map ae)),(.list 4 (downs.map bB))] (ac r) := by
 unfold fB at H
 refine PH.intro Tryz.func72 rfl Tryz.ntmps72 rfl ?_
 refine V.seq (V.ab (Ao.q tk rfl (Ao.nil (V.seq (V.seq (V.ab (Ao.q tk rfl (Ao.ay tk rfl rfl rfl rfl rfl (List.length_map _) rfl (Ao.q tk rfl (Ao.nil ?_))))))))))
 obtain ⟨fl1,H1,Hp1⟩ := aj H
 refine V.aZ tk 0 rfl rfl (fun hz1 _=>?_)
 rw [List.length_map] at hz1
 refine V.cut (τ := Unit) (γ := Unit) (fun s1 g1=>⟨52,fun _=>.any,fun _=>none,fun _=>none⟩) (fun t=>fl1 = .next t) ?_ (fun s1 g1 hn1=>?_)
 ·refine V.ap ?_
  refine V.aP (fun j1 s1 g1=>⟨52,upd (upd (upd (upd (upd (fun _=>.any) 11 (ac (j1 : Int))) 10 (ac (a.length : Int))) 2 (.list 4 (downs.map bB))) 1 (.list 53 (b.map ae))) 0 (.list 53 (a.map ae)),fun _=>none,fun _=>none⟩) () H1 (Gh.le (SLe.aa (PLe.q rfl) (SLe.aa (PLe.q rfl) (SLe.aa (PLe.q rfl) (SLe.aa (PLe.q rfl) (SLe.aa (PLe.q rfl) SLe.nil))))) BLe.nil OLe.nil) (fun j1 s1 g1 hj1 hr1=>?_)
  refine V.seq (V.ab (Ao.q tk rfl (Ao.nil (V.seq ?_))))
  refine V.ak rfl (fun h=>?_) (fun h=>?_)
  ·have hl1 := bn h
   obtain ⟨x1,fb1,hx1,H,hg1⟩ := rMc hl1 hr1
   refine V.al (V.seq (V.ap (V.seq (V.ab (Ao.q tk rfl (Ao.q tk rfl (Ao.nil (V.seq (V.seq ?_)))))))))
   obtain ⟨fl3,H3,Hp3⟩ := aj H
   refine V.cut (τ := Bool) (γ := Unit) (fun t3 g3=>⟨52,upd (upd (upd (upd (upd (upd (upd (fun _=>.any) 28 (au t3)) 11 (ac (j1 : Int))) 10 (ac (a.length : Int))) 7 (ac (j1 : Int))) 2 (.list 4 (downs.map bB))) 1 (.list 53 (b.map ae))) 0 (.list 53 (a.map ae)),fun _=>none,fun _=>none⟩) (fun t=>t = fl3) ?_ (fun t3 g3 hn3=>?_)
   ·have H := H3
    refine V.bc tk mok ⟨false,false,[]⟩ [0,1,2,3,4,5,6,7,8,9,10,11,12,13,14] rfl (by decide +kernel) rfl (Do.q rfl (Do.q rfl (Do.lenL rfl rfl rfl rfl rfl rfl (List.length_map _) rfl (Do.q rfl (Do.q rfl ?_)))))
    refine Do.fh rfl rfl rfl rfl (fun h=>?_) (fun h=>?_)
    ·have H := condT h H
     refine Do.q rfl (Do.q rfl (Do.q rfl (Do.q rfl (Do.q rfl (Do.q rfl (Do.q rfl (Do.q rfl (Do.q rfl (Do.q rfl (Do.nil ?_))))))))))
     obtain rfl := ai H
     refine V.at true () rfl (Gh.le (SLe.aa (PLe.q rfl) (SLe.aa (PLe.q rfl) (SLe.aa (PLe.q rfl) (SLe.aa (PLe.q rfl) (SLe.aa (PLe.q rfl) (SLe.aa (PLe.q rfl) (SLe.aa (PLe.q rfl) SLe.nil))))))) BLe.nil OLe.nil)
    ·have H := condF h H
     refine Do.q rfl (Do.q rfl ?_)
     refine Do.idx rfl rfl rfl rfl rfl rfl rfl (Int.natCast_nonneg j1) (aY (fun _=>rfl) hx1) rfl ?_
     refine Do.q rfl (Do.q rfl (Do.q rfl ?_))
     obtain ⟨x25,h25,H⟩ := aj H
     have k25 := gIs h25
     refine Do.idx rfl rfl rfl rfl rfl rfl rfl k25.1 (aH (fun _=>rfl) k25.2) rfl ?_
     refine Do.q rfl (Do.q rfl (Do.q rfl (Do.nil ?_)))
     obtain rfl := ai H
     refine V.at (x1.kind == x25.kind && (x1.int == x25.int && (x1.text == x25.text && true))) () rfl (Gh.le (SLe.aa (PLe.q rfl) (SLe.aa (PLe.q rfl) (SLe.aa (PLe.q rfl) (SLe.aa (PLe.q rfl) (SLe.aa (PLe.q rfl) (SLe.aa (PLe.q rfl) (SLe.aa (PLe.q rfl) SLe.nil))))))) BLe.nil OLe.nil)
   ·subst hn3
    have H := Hp3
    refine V.ak rfl (fun h=>?_) (fun h=>?_)
    ·have H := condT h H
     refine V.aB rfl (V.ab (Ao.q tk rfl (Ao.q tk rfl (Ao.nil ?_))))
     obtain rfl := ai H
     refine V.ax () () ⟨hl1,hg1⟩ (Gh.le (SLe.aa (PLe.q rfl) (SLe.aa (PLe.q rfl) (SLe.aa (PLe.q rfl) (SLe.aa (PLe.q rfl) (SLe.aa (PLe.q (az (by omega))) SLe.nil))))) BLe.nil OLe.nil)
    ·have H := condF h H
     refine V.al (V.seq (V.bc tk mok ⟨false,false,[]⟩ [0,1,2,3,4,5,6,7,8,9] rfl (by decide +kernel) rfl (Do.q rfl (Do.q rfl ?_))))
     refine Do.idx rfl rfl rfl rfl rfl rfl rfl (Int.natCast_nonneg j1) (aY (fun _=>rfl) hx1) rfl ?_
     refine Do.q rfl (Do.q rfl (Do.q rfl ?_))
     obtain ⟨x35,h35,H⟩ := aj H
     have k35 := gIs h35
     refine Do.idx rfl rfl rfl rfl rfl rfl rfl k35.1 (aH (fun _=>rfl) k35.2) rfl ?_
     refine Do.q rfl ?_
     obtain ⟨x37,h37,H⟩ := bA H
     have s37 := jP x1 x35
     rw [h37] at s37
     refine Do.aR (g := 45) rfl rfl rfl rfl Tryz.call45 (il.r) s37 rfl (Do.q rfl (Do.nil (V.seq (V.seq (V.ab (Ao.q tk rfl (Ao.q tk rfl (Ao.ay tk rfl rfl rfl rfl rfl (List.length_map _) rfl (Ao.q tk rfl (Ao.q tk rfl ?_))))))))))
     refine Ao.aA rfl rfl rfl (fun h=>?_) (fun h=>?_)
     ·have H := condT h H
      refine Ao.q tk rfl (Ao.q tk rfl ?_)
      obtain ⟨x45,h45,H⟩ := aj H
      have k45 := gIs h45
      refine Ao.idx tk rfl rfl rfl rfl rfl rfl k45.1 (aH (fun _=>rfl) k45.2) rfl ?_
      refine Ao.q tk rfl (Ao.q tk rfl (Ao.nil ?_))
      refine V.ak rfl (fun h=>?_) (fun h=>?_)
      ·have H := condT h H
       refine V.ab (Ao.q tk rfl (Ao.q tk rfl (Ao.q tk rfl (Ao.nil (V.seq (V.seq (V.ab (Ao.q tk rfl (Ao.nil ?_)))))))))
       refine V.ak rfl (fun h=>?_) (fun h=>?_)
       ·have H := condT h H
        refine V.seq (V.ab (Ao.q tk rfl (Ao.nil ?_)))
        obtain rfl := ai H
        have e1 : fl1 = .ret _ := hg1
        subst e1
        obtain rfl := aL Hp1
        refine V.aq tk rfl (ps := [(ac (-1))]) ⟨_,_,rfl,rfl,rfl⟩ (PLe.q rfl)
       ·have H := condF h H
        refine V.al (V.seq (V.ab (Ao.q tk rfl (Ao.nil ?_))))
        obtain rfl := ai H
        have e1 : fl1 = .ret _ := hg1
        subst e1
        obtain rfl := aL Hp1
        refine V.aq tk rfl (ps := [(ac 1)]) ⟨_,_,rfl,rfl,rfl⟩ (PLe.q rfl)
      ·have H := condF h H
       refine V.al (V.seq (V.seq (V.ab (Ao.q tk rfl (Ao.nil ?_)))))
       refine V.ak rfl (fun h=>?_) (fun h=>?_)
       ·have H := condT h H
        refine V.seq (V.ab (Ao.q tk rfl (Ao.nil ?_)))
        obtain rfl := ai H
        have e1 : fl1 = .ret _ := hg1
        subst e1
        obtain rfl := aL Hp1
        refine V.aq tk rfl (ps := [(ac (-1))]) ⟨_,_,rfl,rfl,rfl⟩ (PLe.q rfl)
       ·have H := condF h H
        refine V.al (V.seq (V.ab (Ao.q tk rfl (Ao.nil ?_))))
        obtain rfl := ai H
        have e1 : fl1 = .ret _ := hg1
        subst e1
        obtain rfl := aL Hp1
        refine V.aq tk rfl (ps := [(ac 1)]) ⟨_,_,rfl,rfl,rfl⟩ (PLe.q rfl)
     ·have H := condF h H
      refine Ao.q tk rfl (Ao.q tk rfl (Ao.q tk rfl (Ao.q tk rfl (Ao.q tk rfl (Ao.nil (V.be rfl (V.al (V.seq (V.seq (V.ab (Ao.q tk rfl (Ao.nil ?_))))))))))))
      refine V.ak rfl (fun h=>?_) (fun h=>?_)
      ·have H := condT h H
       refine V.seq (V.ab (Ao.q tk rfl (Ao.nil ?_)))
       obtain rfl := ai H
       have e1 : fl1 = .ret _ := hg1
       subst e1
       obtain rfl := aL Hp1
       refine V.aq tk rfl (ps := [(ac (-1))]) ⟨_,_,rfl,rfl,rfl⟩ (PLe.q rfl)
      ·have H := condF h H
       refine V.al (V.seq (V.ab (Ao.q tk rfl (Ao.nil ?_))))
       obtain rfl := ai H
       have e1 : fl1 = .ret _ := hg1
       subst e1
       obtain rfl := aL Hp1
       refine V.aq tk rfl (ps := [(ac 1)]) ⟨_,_,rfl,rfl,rfl⟩ (PLe.q rfl)
  ·have hn1 := rMd (bm h) hr1
   refine V.aB rfl ?_
   refine V.at s1 g1 hn1 (Gh.le SLe.nil BLe.nil OLe.nil)
 ·have H := br hn1 Hp1
  refine V.seq (V.ab (Ao.q tk rfl (Ao.nil ?_)))
  obtain rfl := ai H
  refine V.aq tk rfl (ps := [(ac 0)]) ⟨_,_,rfl,rfl,rfl⟩ (PLe.q rfl)
def bM (data : List (List LVal)) (a : Int) (b : Int) (cmp : (List LVal) → (List LVal) → Option (Int)) : Option ((List (List LVal))) :=
 af (ef (σ := List (List LVal) × Int) (ρ := Empty) (fun (s1 : List (List LVal) × Int) =>
  cond (decide (s1.2 < b))
   (af (ef (σ := List (List LVal) × Int) (ρ := Empty) (fun (s22 : List (List LVal) × Int) =>
    af (
     cond (decide (s22.2 > a))
      (af (aC s22.1 s22.2) fun (x25 : List LVal) =>
      af (aC s22.1 (IntKind.i64.wrap (s22.2 - (1 : Int)))) fun (x30 : List LVal) =>
      af (cmp x25 x30) fun x32 =>
      some (s22.1,(decide (x32 < (0 : Int)))))
      (some (s22.1,false))) fun (t29 : List (List LVal) × Bool) =>
    cond t29.2
     (af (aC t29.1 (IntKind.i64.wrap (s22.2 - (1 : Int)))) fun (x45 : List LVal) =>
     af (aC t29.1 s22.2) fun (x49 : List LVal) =>
     af (aC t29.1 s22.2) fun (_ : List LVal) =>
     ba (t29.1.set s22.2.toNat x45) fun (y30 : List (List LVal)) =>
     af (aC y30 (IntKind.i64.wrap (s22.2 - (1 : Int)))) fun (_ : List LVal) =>
     ba (y30.set ((IntKind.i64.wrap (s22.2 - (1 : Int))).toNat) x49) fun (y31 : List (List LVal)) =>
     some (.next (y31,(IntKind.i64.wrap (s22.2 - (1 : Int))))))
     (some (.brk (t29.1,s22.2)))) (s1.1,s1.2)) fun fl22=>fl22.thenP fun (s22 : List (List LVal) × Int) =>
   some (.next (s22.1,(IntKind.i64.wrap (s1.2 + (1 : Int))))))
   (some (.brk (s1.1,s1.2)))) (data,(IntKind.i64.wrap (a + (1 : Int))))) fun fl1=>fl1.thenP fun (s1 : List (List LVal) × Int) =>
 some s1.1
set_option maxHeartbeats 4000000 in
theorem fI (g_data : OwnRef) {g_cmp : FuncId} {caps_cmp : List PV} (data : List (List LVal)) (a : Int) (b : Int) (cmp : (List LVal) → (List LVal) → Option (Int)) (hg_cmp : ∀ (vs : Array Value) (w : World),(callFunc g_cmp vs).run Tryz.prog w = .ok (.enter g_cmp vs) w) (hp_cmp : ∀ a0 a1 r,cmp a0 a1 = some r → aG Tryz.prog g_cmp ((.list 53 (a0.map ae)) :: (.list 53 (a1.map ae)) :: caps_cmp) (ac r)) (r : (List (List LVal))) (H : bM data a b cmp = some r) :
  PH Tryz.prog 114 [(.own 0 g_data (data.map (ag 53 ae)).length),(ac a),(ac b),(.fn g_cmp caps_cmp)] ⟨fun _=>none,upd (fun _=>none) 0 (some ⟨g_data,51,(data.map (ag 53 ae)),true⟩)⟩ (fun u H=>u = (.tup []) ∧ H = ⟨fun _=>none,upd (fun _=>none) 0 (some ⟨g_data,51,(r.map (ag 53 ae)),true⟩)⟩) := by
 unfold bM at H
 refine PH.intro Tryz.func114 rfl Tryz.ntmps114 rfl ?_
 refine V.seq (V.ab (Ao.q tk rfl (Ao.q tk rfl (Ao.q tk rfl (Ao.nil ?_)))))
 obtain ⟨fl1,H1,Hp1⟩ := aj H
 refine V.cut (τ := List (List LVal) × Int) (γ := Unit) (fun s1 g1=>⟨53,upd (fun _=>.any) 0 (.own 0 g_data (s1.1.map (ag 53 ae)).length),fun _=>none,upd (fun _=>none) 0 (some ⟨g_data,51,(s1.1.map (ag 53 ae)),true⟩)⟩) (fun t=>fl1 = .next t) ?_ (fun s1 g1 hn1=>?_)
 ·refine V.ap ?_
  refine V.fe (fun s1 g1=>⟨53,upd (upd (upd (upd (upd (fun _=>.any) 8 (ac s1.2)) 3 (.fn g_cmp caps_cmp)) 2 (ac b)) 1 (ac a)) 0 (.own 0 g_data (s1.1.map (ag 53 ae)).length),fun _=>none,upd (fun _=>none) 0 (some ⟨g_data,51,(s1.1.map (ag 53 ae)),true⟩)⟩) () H1 (Gh.le (SLe.aa (PLe.q rfl) (SLe.aa (PLe.q rfl) (SLe.aa (PLe.q rfl) (SLe.aa (PLe.q rfl) (SLe.aa (PLe.q rfl) SLe.nil))))) BLe.nil (OLe.am rfl OLe.nil)) (fun m1 s1 g1 hr1=>?_)
  obtain ⟨fb1,H,hg1⟩ := dV hr1
  refine V.seq (V.seq (V.ab (Ao.q tk rfl (Ao.q tk rfl (Ao.q tk rfl (Ao.nil ?_))))))
  refine V.ak rfl (fun h=>?_) (fun h=>?_)
  ·have H := condT h H
   refine V.al (V.seq (V.ap (V.seq (V.ab (Ao.q tk rfl (Ao.q tk rfl (Ao.nil ?_)))))))
   obtain ⟨fl22,H22,Hp22⟩ := aj H
   refine V.cut (τ := List (List LVal) × Int) (γ := Unit) (fun s22 g22=>⟨53,upd (upd (upd (upd (upd (fun _=>.any) 8 (ac s1.2)) 3 (.fn g_cmp caps_cmp)) 2 (ac b)) 1 (ac a)) 0 (.own 0 g_data (s22.1.map (ag 53 ae)).length),fun _=>none,upd (fun _=>none) 0 (some ⟨g_data,51,(s22.1.map (ag 53 ae)),true⟩)⟩) (fun t=>fl22 = .next t) ?_ (fun s22 g22 hn22=>?_)
   ·refine V.ap ?_
    refine V.fe (fun s22 g22=>⟨53,upd (upd (upd (upd (upd (upd (fun _=>.any) 9 (ac s22.2)) 8 (ac s1.2)) 3 (.fn g_cmp caps_cmp)) 2 (ac b)) 1 (ac a)) 0 (.own 0 g_data (s22.1.map (ag 53 ae)).length),fun _=>none,upd (fun _=>none) 0 (some ⟨g_data,51,(s22.1.map (ag 53 ae)),true⟩)⟩) () H22 (Gh.le (SLe.aa (PLe.q rfl) (SLe.aa (PLe.q rfl) (SLe.aa (PLe.q rfl) (SLe.aa (PLe.q rfl) (SLe.aa (PLe.q rfl) (SLe.aa (PLe.q rfl) SLe.nil)))))) BLe.nil (OLe.am rfl OLe.nil)) (fun m22 s22 g22 hr22=>?_)
    obtain ⟨fb22,H,hg22⟩ := dV hr22
    refine V.seq (V.seq ?_)
    obtain ⟨fl29,H29,Hp29⟩ := aj H
    refine V.cut (τ := List (List LVal) × Bool) (γ := Unit) (fun t29 g29=>⟨53,upd (upd (upd (upd (upd (upd (upd (fun _=>.any) 34 (au t29.2)) 9 (ac s22.2)) 8 (ac s1.2)) 3 (.fn g_cmp caps_cmp)) 2 (ac b)) 1 (ac a)) 0 (.own 0 g_data (t29.1.map (ag 53 ae)).length),fun _=>none,upd (fun _=>none) 0 (some ⟨g_data,51,(t29.1.map (ag 53 ae)),true⟩)⟩) (fun t=>t = fl29) ?_ (fun t29 g29 hn29=>?_)
    ·have H := H29
     refine V.gR (tag := 0) rfl (fun ho0=>?_)
     refine V.bc tk mok ⟨false,true,[]⟩ [0,1,2,3,4,5,6,7,8,9,10,11,12,13,14,15,16] rfl (by decide +kernel) rfl (Do.q rfl (Do.q rfl (Do.q rfl (Do.q rfl ?_))))
     refine Do.fh rfl rfl rfl rfl (fun h=>?_) (fun h=>?_)
     ·have H := condT h H
      refine Do.q rfl (Do.q rfl (Do.q rfl ?_))
      obtain ⟨x25,h25,H⟩ := aj H
      have k25 := gIs h25
      refine Do.cP tk rfl rfl rfl rfl rfl rfl rfl rfl ⟨k25.1,(cS k25.2)⟩ (cY ho0 k25.2) rfl ?_
      refine Do.ee tk rfl rfl rfl rfl rfl rfl rfl rfl rfl (aH (fun _=>rfl) k25.2) rfl rfl ?_
      refine Do.q rfl (Do.q rfl (Do.q rfl ?_))
      obtain ⟨x30,h30,H⟩ := aj H
      have k30 := gIs h30
      refine Do.cP tk rfl rfl rfl rfl rfl rfl rfl rfl ⟨k30.1,(cS k30.2)⟩ (cY ho0 k30.2) rfl ?_
      refine Do.ee tk rfl rfl rfl rfl rfl rfl rfl rfl rfl (aH (fun _=>rfl) k30.2) rfl rfl ?_
      obtain ⟨x32,h32,H⟩ := aj H
      refine Do.aR rfl rfl rfl rfl hg_cmp (il.r) (hp_cmp _ _ _ h32) rfl (Do.q rfl (Do.q rfl (Do.nil ?_)))
      obtain rfl := ai H
      refine V.at (s22.1,(decide (x32 < (0 : Int)))) () rfl (Gh.le (SLe.aa (PLe.q rfl) (SLe.aa (PLe.q rfl) (SLe.aa (PLe.q rfl) (SLe.aa (PLe.q rfl) (SLe.aa (PLe.q rfl) (SLe.aa (PLe.q rfl) (SLe.aa (PLe.q rfl) SLe.nil))))))) BLe.nil (OLe.am rfl OLe.nil))
     ·have H := condF h H
      refine Do.q rfl (Do.q rfl (Do.q rfl (Do.q rfl (Do.q rfl (Do.q rfl (Do.q rfl (Do.q rfl (Do.q rfl (Do.q rfl (Do.q rfl (Do.q rfl (Do.q rfl (Do.nil ?_)))))))))))))
      obtain rfl := ai H
      refine V.at (s22.1,false) () rfl (Gh.le (SLe.aa (PLe.q rfl) (SLe.aa (PLe.q rfl) (SLe.aa (PLe.q rfl) (SLe.aa (PLe.q rfl) (SLe.aa (PLe.q rfl) (SLe.aa (PLe.q rfl) (SLe.aa (PLe.q rfl) SLe.nil))))))) BLe.nil (OLe.am rfl OLe.nil))
    ·subst hn29
     have H := Hp29
     refine V.ak rfl (fun h=>?_) (fun h=>?_)
     ·have H := condT h H
      refine V.al (V.seq (V.ap ?_))
      refine V.gR (tag := 0) rfl (fun ho0=>?_)
      refine V.bc tk mok ⟨false,true,[]⟩ [0,1,2,3,4,5,6,7,8,9,10,11,12,13,14,15,16,17] rfl (by decide +kernel) rfl (Do.q rfl (Do.q rfl (Do.q rfl (Do.q rfl (Do.q rfl (Do.q rfl (Do.q rfl (Do.q rfl ?_))))))))
      obtain ⟨x45,h45,H⟩ := aj H
      have k45 := gIs h45
      refine Do.cP tk rfl rfl rfl rfl rfl rfl rfl rfl ⟨k45.1,(cS k45.2)⟩ (cY ho0 k45.2) rfl ?_
      refine Do.ee tk rfl rfl rfl rfl rfl rfl rfl rfl rfl (aH (fun _=>rfl) k45.2) rfl rfl ?_
      refine Do.q rfl (Do.q rfl ?_)
      obtain ⟨x49,h49,H⟩ := aj H
      have k49 := gIs h49
      refine Do.cP tk rfl rfl rfl rfl rfl rfl rfl rfl ⟨k49.1,(cS k49.2)⟩ (cY ho0 k49.2) rfl ?_
      refine Do.ee tk rfl rfl rfl rfl rfl rfl rfl rfl rfl (aH (fun _=>rfl) k49.2) rfl rfl ?_
      obtain ⟨x51,h51,H⟩ := aj H
      have k51 := gIs h51
      refine Do.cP tk rfl rfl rfl rfl rfl rfl rfl rfl ⟨k51.1,(cS k51.2)⟩ (cY ho0 k51.2) rfl ?_
      obtain ⟨y30,hy30,H⟩ := bA H
      refine Do.gT tk rfl rfl rfl rfl rfl rfl rfl rfl rfl (by rw [List.length_map]; exact (List.getElem?_eq_some_iff.1 k51.2).1) (PLe.refl _ _) rfl rfl rfl rfl (by decide) (eu (fun _=>rfl) k51.2 rfl hy30) ?_
      obtain ⟨x52,h52,H⟩ := aj H
      have k52 := gIs h52
      refine Do.cP tk rfl rfl rfl rfl rfl rfl rfl rfl ⟨k52.1,(og (dR (f := (ag 53 ae)) hy30) k52.2)⟩ (ol ho0 (dR (f := (ag 53 ae)) hy30) k52.2) rfl ?_
      obtain ⟨y31,hy31,H⟩ := bA H
      refine Do.gT tk rfl rfl rfl rfl rfl rfl rfl rfl rfl (by rw [List.length_map]; exact (List.getElem?_eq_some_iff.1 k52.2).1) (PLe.refl _ _) rfl rfl rfl rfl (by decide) (eu (fun _=>rfl) k52.2 rfl hy31) ?_
      refine Do.nil (V.blk (V.ab (Ao.q tk rfl (Ao.q tk rfl (Ao.q tk rfl (Ao.nil ?_))))))
      obtain rfl := ai H
      refine V.ax (y31,(IntKind.i64.wrap (s22.2 - (1 : Int)))) () hg22 (Gh.le (SLe.aa (PLe.of2 (kW.of_eq (congrArg (PV.own 0 g_data) ((dR (f := (ag 53 ae)) hy30).trans (dR (f := (ag 53 ae)) hy31))))) (SLe.aa (PLe.q rfl) (SLe.aa (PLe.q rfl) (SLe.aa (PLe.q rfl) (SLe.aa (PLe.q rfl) (SLe.aa (PLe.q rfl) SLe.nil)))))) BLe.nil (OLe.am rfl OLe.nil))
     ·have H := condF h H
      refine V.aB rfl ?_
      obtain rfl := ai H
      refine V.at (t29.1,s22.2) () hg22 (Gh.le (SLe.aa (PLe.q rfl) (SLe.aa (PLe.q rfl) (SLe.aa (PLe.q rfl) (SLe.aa (PLe.q rfl) (SLe.aa (PLe.q rfl) SLe.nil))))) BLe.nil (OLe.am rfl OLe.nil))
   ·have H := aW hn22 Hp22
    refine V.blk (V.ab (Ao.q tk rfl (Ao.q tk rfl (Ao.q tk rfl (Ao.nil ?_)))))
    obtain rfl := ai H
    refine V.ax (s22.1,(IntKind.i64.wrap (s1.2 + (1 : Int)))) () hg1 (Gh.le (SLe.aa (PLe.q rfl) (SLe.aa (PLe.q rfl) (SLe.aa (PLe.q rfl) (SLe.aa (PLe.q rfl) (SLe.aa (PLe.q rfl) SLe.nil))))) BLe.nil (OLe.am rfl OLe.nil))
  ·have H := condF h H
   refine V.aB rfl ?_
   obtain rfl := ai H
   refine V.at (s1.1,s1.2) () hg1 (Gh.le (SLe.aa (PLe.q rfl) SLe.nil) BLe.nil (OLe.am rfl OLe.nil))
 ·have H := aW hn1 Hp1
  obtain rfl := ai H
  refine V.gh (st' := ⟨53,fun _=>.any,fun _=>none,upd (fun _=>none) 0 (some ⟨g_data,51,(s1.1.map (ag 53 ae)),true⟩)⟩) (Gh.le SLe.nil BLe.nil (OLe.am rfl OLe.nil)) ?_
  refine V.endH rfl (PLe.q rfl) ⟨rfl,rfl⟩
def bK (data : List (List LVal)) (a : Int) (b : Int) (n : Int) (_cmp : (List LVal) → (List LVal) → Option (Int)) : Option ((List (List LVal))) :=
 af (ef (σ := List (List LVal) × Int) (ρ := Empty) (fun (s1 : List (List LVal) × Int) =>
  cond (decide (s1.2 < n))
   (af (aC s1.1 (IntKind.i64.wrap (b + s1.2))) fun (x28 : List LVal) =>
   af (aC s1.1 (IntKind.i64.wrap (a + s1.2))) fun (x34 : List LVal) =>
   af (aC s1.1 (IntKind.i64.wrap (a + s1.2))) fun (_ : List LVal) =>
   ba (s1.1.set ((IntKind.i64.wrap (a + s1.2)).toNat) x28) fun (y6 : List (List LVal)) =>
   af (aC y6 (IntKind.i64.wrap (b + s1.2))) fun (_ : List LVal) =>
   ba (y6.set ((IntKind.i64.wrap (b + s1.2)).toNat) x34) fun (y7 : List (List LVal)) =>
   some (.next (y7,(IntKind.i64.wrap (s1.2 + (1 : Int))))))
   (some (.brk (s1.1,s1.2)))) (data,0)) fun fl1=>fl1.thenP fun (s1 : List (List LVal) × Int) =>
 some s1.1
set_option maxHeartbeats 4000000 in
theorem eL (g_data : OwnRef) {g_cmp : FuncId} {caps_cmp : List PV} (data : List (List LVal)) (a : Int) (b : Int) (n : Int) (cmp : (List LVal) → (List LVal) → Option (Int)) (_hg_cmp : ∀ (vs : Array Value) (w : World),(callFunc g_cmp vs).run Tryz.prog w = .ok (.enter g_cmp vs) w) (_hp_cmp : ∀ a0 a1 r,cmp a0 a1 = some r → aG Tryz.prog g_cmp ((.list 53 (a0.map ae)) :: (.list 53 (a1.map ae)) :: caps_cmp) (ac r)) (r : (List (List LVal))) (H : bK data a b n cmp = some r) :
  PH Tryz.prog 213 [(.own 0 g_data (data.map (ag 53 ae)).length),(ac a),(ac b),(ac n),(.fn g_cmp caps_cmp)] ⟨fun _=>none,upd (fun _=>none) 0 (some ⟨g_data,51,(data.map (ag 53 ae)),true⟩)⟩ (fun u H=>u = (.tup []) ∧ H = ⟨fun _=>none,upd (fun _=>none) 0 (some ⟨g_data,51,(r.map (ag 53 ae)),true⟩)⟩) := by
 unfold bK at H
 refine PH.intro Tryz.func213 rfl Tryz.ntmps213 rfl ?_
 refine V.seq (V.ab (Ao.q tk rfl (Ao.nil ?_)))
 obtain ⟨fl1,H1,Hp1⟩ := aj H
 refine V.cut (τ := List (List LVal) × Int) (γ := Unit) (fun s1 g1=>⟨38,upd (fun _=>.any) 0 (.own 0 g_data (s1.1.map (ag 53 ae)).length),fun _=>none,upd (fun _=>none) 0 (some ⟨g_data,51,(s1.1.map (ag 53 ae)),true⟩)⟩) (fun t=>fl1 = .next t) ?_ (fun s1 g1 hn1=>?_)
 ·refine V.ap ?_
  refine V.fe (fun s1 g1=>⟨38,upd (upd (upd (upd (upd (fun _=>.any) 10 (ac s1.2)) 3 (ac n)) 2 (ac b)) 1 (ac a)) 0 (.own 0 g_data (s1.1.map (ag 53 ae)).length),fun _=>none,upd (fun _=>none) 0 (some ⟨g_data,51,(s1.1.map (ag 53 ae)),true⟩)⟩) () H1 (Gh.le (SLe.aa (PLe.q rfl) (SLe.aa (PLe.q rfl) (SLe.aa (PLe.q rfl) (SLe.aa (PLe.q rfl) (SLe.aa (PLe.q rfl) SLe.nil))))) BLe.nil (OLe.am rfl OLe.nil)) (fun m1 s1 g1 hr1=>?_)
  obtain ⟨fb1,H,hg1⟩ := dV hr1
  refine V.seq (V.seq (V.ab (Ao.q tk rfl (Ao.q tk rfl (Ao.q tk rfl (Ao.nil ?_))))))
  refine V.ak rfl (fun h=>?_) (fun h=>?_)
  ·have H := condT h H
   refine V.al (V.seq (V.ap ?_))
   refine V.gR (tag := 0) rfl (fun ho0=>?_)
   refine V.bc tk mok ⟨false,true,[]⟩ [0,1,2,3,4,5,6,7,8,9,10,11,12,13,14,15,16,17,18,19,20,21,22,23] rfl (by decide +kernel) rfl (Do.q rfl (Do.q rfl (Do.q rfl (Do.q rfl (Do.q rfl (Do.q rfl (Do.q rfl (Do.q rfl (Do.q rfl (Do.q rfl (Do.q rfl (Do.q rfl ?_))))))))))))
   obtain ⟨x28,h28,H⟩ := aj H
   have k28 := gIs h28
   refine Do.cP tk rfl rfl rfl rfl rfl rfl rfl rfl ⟨k28.1,(cS k28.2)⟩ (cY ho0 k28.2) rfl ?_
   refine Do.ee tk rfl rfl rfl rfl rfl rfl rfl rfl rfl (aH (fun _=>rfl) k28.2) rfl rfl ?_
   refine Do.q rfl (Do.q rfl (Do.q rfl (Do.q rfl ?_)))
   obtain ⟨x34,h34,H⟩ := aj H
   have k34 := gIs h34
   refine Do.cP tk rfl rfl rfl rfl rfl rfl rfl rfl ⟨k34.1,(cS k34.2)⟩ (cY ho0 k34.2) rfl ?_
   refine Do.ee tk rfl rfl rfl rfl rfl rfl rfl rfl rfl (aH (fun _=>rfl) k34.2) rfl rfl ?_
   obtain ⟨x36,h36,H⟩ := aj H
   have k36 := gIs h36
   refine Do.cP tk rfl rfl rfl rfl rfl rfl rfl rfl ⟨k36.1,(cS k36.2)⟩ (cY ho0 k36.2) rfl ?_
   obtain ⟨y6,hy6,H⟩ := bA H
   refine Do.gT tk rfl rfl rfl rfl rfl rfl rfl rfl rfl (by rw [List.length_map]; exact (List.getElem?_eq_some_iff.1 k36.2).1) (PLe.refl _ _) rfl rfl rfl rfl (by decide) (eu (fun _=>rfl) k36.2 rfl hy6) ?_
   obtain ⟨x37,h37,H⟩ := aj H
   have k37 := gIs h37
   refine Do.cP tk rfl rfl rfl rfl rfl rfl rfl rfl ⟨k37.1,(og (dR (f := (ag 53 ae)) hy6) k37.2)⟩ (ol ho0 (dR (f := (ag 53 ae)) hy6) k37.2) rfl ?_
   obtain ⟨y7,hy7,H⟩ := bA H
   refine Do.gT tk rfl rfl rfl rfl rfl rfl rfl rfl rfl (by rw [List.length_map]; exact (List.getElem?_eq_some_iff.1 k37.2).1) (PLe.refl _ _) rfl rfl rfl rfl (by decide) (eu (fun _=>rfl) k37.2 rfl hy7) ?_
   refine Do.nil (V.blk (V.ab (Ao.q tk rfl (Ao.q tk rfl (Ao.q tk rfl (Ao.nil ?_))))))
   obtain rfl := ai H
   refine V.ax (y7,(IntKind.i64.wrap (s1.2 + (1 : Int)))) () hg1 (Gh.le (SLe.aa (PLe.of2 (kW.of_eq (congrArg (PV.own 0 g_data) ((dR (f := (ag 53 ae)) hy6).trans (dR (f := (ag 53 ae)) hy7))))) (SLe.aa (PLe.q rfl) (SLe.aa (PLe.q rfl) (SLe.aa (PLe.q rfl) (SLe.aa (PLe.q rfl) SLe.nil))))) BLe.nil (OLe.am rfl OLe.nil))
  ·have H := condF h H
   refine V.aB rfl ?_
   obtain rfl := ai H
   refine V.at (s1.1,s1.2) () hg1 (Gh.le (SLe.aa (PLe.q rfl) SLe.nil) BLe.nil (OLe.am rfl OLe.nil))
 ·have H := aW hn1 Hp1
  obtain rfl := ai H
  refine V.gh (st' := ⟨38,fun _=>.any,fun _=>none,upd (fun _=>none) 0 (some ⟨g_data,51,(s1.1.map (ag 53 ae)),true⟩)⟩) (Gh.le SLe.nil BLe.nil (OLe.am rfl OLe.nil)) ?_
  refine V.endH rfl (PLe.q rfl) ⟨rfl,rfl⟩
end
end Go.Proofs.YtgaggbdcedpapaaGreat

namespace Go.Proofs.YtgaggbdcedpapaaGreat
noncomputable section
open Go Go.Ab
attribute [local irreducible] V Ao Do Gh Eff PH IntKind.wrap
set_option maxRecDepth 4000
def ir (rec82 : LQuery → Int → Option (Int)) (q : LQuery) (most : Int) : Option (Int) :=
 af (aE (σ := Int) (ρ := Empty) (fun (_ : Nat) (x1 : LExpr) (s1 : Int) =>
  ba (gE x1 (IntKind.i64.wrap (s1 - (1 : Int)))) fun x23 =>
  some (.next x23)) 0 q.exprs most) fun fl1=>fl1.thenP fun (s1 : Int) =>
 af (aE (σ := Int) (ρ := Empty) (fun (_ : Nat) (x2 : LAggregateCall) (s2 : Int) =>
  af (aE (σ := Int) (ρ := Empty) (fun (_ : Nat) (x5 : LExpr) (s5 : Int) =>
   ba (gE x5 (IntKind.i64.wrap (s5 - (1 : Int)))) fun x42 =>
   some (.next x42)) 0 x2.args s2) fun fl5=>fl5.thenP fun (s5 : Int) =>
  some (.next s5)) 0 q.aggregates s1) fun fl2=>fl2.thenP fun (s2 : Int) =>
 af (aE (σ := Int) (ρ := (Int)) (fun (_ : Nat) (x6 : LQuery) (s6 : Int) =>
  cond (decide (s6 < (0 : Int)))
   (some (.ret (-1)))
   (af (rec82 x6 (IntKind.i64.wrap (s6 - (1 : Int)))) fun x57 =>
   some (.next x57))) 0 q.inputs s2) fun fl6=>fl6.thenR fun (s6 : Int) =>
 some s6
set_option maxHeartbeats 4000000 in
theorem oA (rec82 : LQuery → Int → Option (Int)) (hrec82 : ∀ a0 a1 r,rec82 a0 a1 = some r → aG Tryz.prog 82 [(.agg (aQ a0)),(ac a1)] (ac r)) (q : LQuery) (most : Int) (r : Int) (H : ir rec82 q most = some r) :
  aG Tryz.prog 82 [(.agg (aQ q)),(ac most)] (ac r) := by
 unfold ir at H
 refine PH.intro Tryz.func82 rfl Tryz.ntmps82 rfl ?_
 refine V.seq (V.ab (Ao.aF rfl rfl rfl rfl rfl rfl (Ao.q tk rfl (Ao.nil (V.seq (V.seq (V.ab (Ao.q tk rfl (Ao.q tk rfl (Ao.ay tk rfl rfl rfl rfl rfl (List.length_map _) rfl (Ao.q tk rfl (Ao.nil ?_))))))))))))
 obtain ⟨fl1,H1,Hp1⟩ := aj H
 refine V.aZ tk 14 rfl rfl (fun hz1 _=>?_)
 rw [List.length_map] at hz1
 refine V.cut (τ := Int) (γ := Unit) (fun s1 g1=>⟨60,upd (upd (fun _=>.any) 2 (.ptr [(ac q.kind),(.str q.table),(.list 9 (q.names.map bo)),(.list 56 (q.exprs.map aI)),(.list 66 (q.aggregates.map bl)),(.list 4 (q.descending.map bB)),(ac q.count),(ac q.offset),(.list 35 (q.inputs.map aD))])) 1 (ac s1),fun _=>none,fun _=>none⟩) (fun t=>fl1 = .next t) ?_ (fun s1 g1 hn1=>?_)
 ·refine V.ap ?_
  refine V.aP (fun j1 s1 g1=>⟨60,upd (upd (upd (upd (upd (fun _=>.any) 16 (ac (j1 : Int))) 15 (ac (q.exprs.length : Int))) 14 (.list 56 (q.exprs.map aI))) 2 (.ptr [(ac q.kind),(.str q.table),(.list 9 (q.names.map bo)),(.list 56 (q.exprs.map aI)),(.list 66 (q.aggregates.map bl)),(.list 4 (q.descending.map bB)),(ac q.count),(ac q.offset),(.list 35 (q.inputs.map aD))])) 1 (ac s1),fun _=>none,fun _=>none⟩) () H1 (Gh.le (SLe.aa (PLe.q rfl) (SLe.aa (PLe.q rfl) (SLe.aa (PLe.q rfl) (SLe.aa (PLe.q rfl) (SLe.aa (PLe.q rfl) SLe.nil))))) BLe.nil OLe.nil) (fun j1 s1 g1 hj1 hr1=>?_)
  refine V.seq (V.ab (Ao.q tk rfl (Ao.nil (V.seq ?_))))
  refine V.ak rfl (fun h=>?_) (fun h=>?_)
  ·have hl1 := bn h
   obtain ⟨x1,fb1,hx1,H,hg1⟩ := rMc hl1 hr1
   refine V.al (V.seq (V.ap (V.seq (V.ab (Ao.idx tk rfl rfl rfl rfl rfl rfl (Int.natCast_nonneg j1) (aY cW hx1) rfl (Ao.q tk rfl ?_))))))
   refine Ao.aJ tk rfl rfl rfl rfl rfl rfl fun b6=>?_
   refine Ao.sB tk rfl rfl rfl rfl rfl rfl rfl rfl rfl rfl rfl (Ao.nil (V.ab (Ao.lB tk rfl rfl rfl rfl rfl rfl rfl (Ao.q tk rfl (Ao.q tk rfl ?_)))))
   obtain ⟨x23,h23,H⟩ := bA H
   have s23 := nh x1 (IntKind.i64.wrap (s1 - (1 : Int)))
   rw [h23] at s23
   refine Ao.ah (g := 38) rfl rfl rfl Tryz.call38 (il.r) s23 rfl (Ao.q tk rfl (Ao.nil (V.blk (V.ab (Ao.q tk rfl (Ao.q tk rfl (Ao.nil ?_)))))))
   obtain rfl := ai H
   refine V.ax x23 () ⟨hl1,hg1⟩ (Gh.le (SLe.aa (PLe.q rfl) (SLe.aa (PLe.q rfl) (SLe.aa (PLe.q rfl) (SLe.aa (PLe.q rfl) (SLe.aa (PLe.q (az (by omega))) SLe.nil))))) BLe.nil OLe.nil)
  ·have hn1 := rMd (bm h) hr1
   refine V.aB rfl ?_
   refine V.at s1 g1 hn1 (Gh.le (SLe.aa (PLe.q rfl) (SLe.aa (PLe.q rfl) SLe.nil)) BLe.nil OLe.nil)
 ·have H := aW hn1 Hp1
  refine V.seq (V.seq (V.ab (Ao.q tk rfl (Ao.q tk rfl (Ao.ay tk rfl rfl rfl rfl rfl (List.length_map _) rfl (Ao.q tk rfl (Ao.nil ?_)))))))
  obtain ⟨fl2,H2,Hp2⟩ := aj H
  refine V.aZ tk 26 rfl rfl (fun hz2 _=>?_)
  rw [List.length_map] at hz2
  refine V.cut (τ := Int) (γ := Unit) (fun s2 g2=>⟨60,upd (upd (fun _=>.any) 2 (.ptr [(ac q.kind),(.str q.table),(.list 9 (q.names.map bo)),(.list 56 (q.exprs.map aI)),(.list 66 (q.aggregates.map bl)),(.list 4 (q.descending.map bB)),(ac q.count),(ac q.offset),(.list 35 (q.inputs.map aD))])) 1 (ac s2),fun _=>none,fun _=>none⟩) (fun t=>fl2 = .next t) ?_ (fun s2 g2 hn2=>?_)
  ·refine V.ap ?_
   refine V.aP (fun j2 s2 g2=>⟨60,upd (upd (upd (upd (upd (fun _=>.any) 28 (ac (j2 : Int))) 27 (ac (q.aggregates.length : Int))) 26 (.list 66 (q.aggregates.map bl))) 2 (.ptr [(ac q.kind),(.str q.table),(.list 9 (q.names.map bo)),(.list 56 (q.exprs.map aI)),(.list 66 (q.aggregates.map bl)),(.list 4 (q.descending.map bB)),(ac q.count),(ac q.offset),(.list 35 (q.inputs.map aD))])) 1 (ac s2),fun _=>none,fun _=>none⟩) () H2 (Gh.le (SLe.aa (PLe.q rfl) (SLe.aa (PLe.q rfl) (SLe.aa (PLe.q rfl) (SLe.aa (PLe.q rfl) (SLe.aa (PLe.q rfl) SLe.nil))))) BLe.nil OLe.nil) (fun j2 s2 g2 hj2 hr2=>?_)
   refine V.seq (V.ab (Ao.q tk rfl (Ao.nil (V.seq ?_))))
   refine V.ak rfl (fun h=>?_) (fun h=>?_)
   ·have hl2 := bn h
    obtain ⟨x2,fb2,hx2,H,hg2⟩ := rMc hl2 hr2
    refine V.al (V.seq (V.ap (V.seq (V.ab ?_))))
    refine Ao.idx tk rfl rfl rfl rfl rfl rfl (Int.natCast_nonneg j2) (aY (fun _=>rfl) hx2) rfl ?_
    refine Ao.q tk rfl ?_
    refine Ao.aJ tk rfl rfl rfl rfl rfl rfl fun b8=>?_
    refine Ao.sB tk rfl rfl rfl rfl rfl rfl rfl rfl rfl rfl rfl (Ao.nil (V.seq (V.ab (Ao.q tk rfl (Ao.lB tk rfl rfl rfl rfl rfl rfl rfl (Ao.ay tk rfl rfl rfl rfl rfl (List.length_map _) rfl (Ao.q tk rfl (Ao.nil ?_))))))))
    obtain ⟨fl5,H5,Hp5⟩ := aj H
    refine V.aZ tk 33 rfl rfl (fun hz5 _=>?_)
    rw [List.length_map] at hz5
    refine V.cut (τ := Int) (γ := Unit) (fun s5 g5=>⟨60,upd (upd (upd (upd (upd (fun _=>.any) 28 (ac (j2 : Int))) 27 (ac (q.aggregates.length : Int))) 26 (.list 66 (q.aggregates.map bl))) 2 (.ptr [(ac q.kind),(.str q.table),(.list 9 (q.names.map bo)),(.list 56 (q.exprs.map aI)),(.list 66 (q.aggregates.map bl)),(.list 4 (q.descending.map bB)),(ac q.count),(ac q.offset),(.list 35 (q.inputs.map aD))])) 1 (ac s5),fun _=>none,fun _=>none⟩) (fun t=>fl5 = .next t) ?_ (fun s5 g5 hn5=>?_)
    ·refine V.ap ?_
     refine V.aP (fun j5 s5 g5=>⟨60,upd (upd (upd (upd (upd (upd (upd (upd (fun _=>.any) 35 (ac (j5 : Int))) 34 (ac (x2.args.length : Int))) 33 (.list 56 (x2.args.map aI))) 28 (ac (j2 : Int))) 27 (ac (q.aggregates.length : Int))) 26 (.list 66 (q.aggregates.map bl))) 2 (.ptr [(ac q.kind),(.str q.table),(.list 9 (q.names.map bo)),(.list 56 (q.exprs.map aI)),(.list 66 (q.aggregates.map bl)),(.list 4 (q.descending.map bB)),(ac q.count),(ac q.offset),(.list 35 (q.inputs.map aD))])) 1 (ac s5),fun _=>none,fun _=>none⟩) () H5 (Gh.le (SLe.aa (PLe.q rfl) (SLe.aa (PLe.q rfl) (SLe.aa (PLe.q rfl) (SLe.aa (PLe.q rfl) (SLe.aa (PLe.q rfl) (SLe.aa (PLe.q rfl) (SLe.aa (PLe.q rfl) (SLe.aa (PLe.q rfl) SLe.nil)))))))) BLe.nil OLe.nil) (fun j5 s5 g5 hj5 hr5=>?_)
     refine V.seq (V.ab (Ao.q tk rfl (Ao.nil (V.seq ?_))))
     refine V.ak rfl (fun h=>?_) (fun h=>?_)
     ·have hl5 := bn h
      obtain ⟨x5,fb5,hx5,H,hg5⟩ := rMc hl5 hr5
      refine V.al (V.seq (V.ap (V.seq (V.ab (Ao.idx tk rfl rfl rfl rfl rfl rfl (Int.natCast_nonneg j5) (aY cW hx5) rfl (Ao.q tk rfl ?_))))))
      refine Ao.aJ tk rfl rfl rfl rfl rfl rfl fun b10=>?_
      refine Ao.sB tk rfl rfl rfl rfl rfl rfl rfl rfl rfl rfl rfl (Ao.nil (V.ab (Ao.lB tk rfl rfl rfl rfl rfl rfl rfl (Ao.q tk rfl (Ao.q tk rfl ?_)))))
      obtain ⟨x42,h42,H⟩ := bA H
      have s42 := nh x5 (IntKind.i64.wrap (s5 - (1 : Int)))
      rw [h42] at s42
      refine Ao.ah (g := 38) rfl rfl rfl Tryz.call38 (il.r) s42 rfl (Ao.q tk rfl (Ao.nil (V.blk (V.ab (Ao.q tk rfl (Ao.q tk rfl (Ao.nil ?_)))))))
      obtain rfl := ai H
      refine V.ax x42 () ⟨hl5,hg5⟩ (Gh.le (SLe.aa (PLe.q rfl) (SLe.aa (PLe.q rfl) (SLe.aa (PLe.q rfl) (SLe.aa (PLe.q rfl) (SLe.aa (PLe.q rfl) (SLe.aa (PLe.q rfl) (SLe.aa (PLe.q rfl) (SLe.aa (PLe.q (az (by omega))) SLe.nil)))))))) BLe.nil OLe.nil)
     ·have hn5 := rMd (bm h) hr5
      refine V.aB rfl ?_
      refine V.at s5 g5 hn5 (Gh.le (SLe.aa (PLe.q rfl) (SLe.aa (PLe.q rfl) (SLe.aa (PLe.q rfl) (SLe.aa (PLe.q rfl) (SLe.aa (PLe.q rfl) SLe.nil))))) BLe.nil OLe.nil)
    ·have H := aW hn5 Hp5
     refine V.blk (V.ab (Ao.q tk rfl (Ao.q tk rfl (Ao.nil ?_))))
     obtain rfl := ai H
     refine V.ax s5 () ⟨hl2,hg2⟩ (Gh.le (SLe.aa (PLe.q rfl) (SLe.aa (PLe.q rfl) (SLe.aa (PLe.q rfl) (SLe.aa (PLe.q rfl) (SLe.aa (PLe.q (az (by omega))) SLe.nil))))) BLe.nil OLe.nil)
   ·have hn2 := rMd (bm h) hr2
    refine V.aB rfl ?_
    refine V.at s2 g2 hn2 (Gh.le (SLe.aa (PLe.q rfl) (SLe.aa (PLe.q rfl) SLe.nil)) BLe.nil OLe.nil)
  ·have H := aW hn2 Hp2
   refine V.seq (V.seq (V.ab (Ao.q tk rfl (Ao.q tk rfl (Ao.ay tk rfl rfl rfl rfl rfl (List.length_map _) rfl (Ao.q tk rfl (Ao.nil ?_)))))))
   obtain ⟨fl6,H6,Hp6⟩ := aj H
   refine V.aZ tk 46 rfl rfl (fun hz6 _=>?_)
   rw [List.length_map] at hz6
   refine V.cut (τ := Int) (γ := Unit) (fun s6 g6=>⟨60,upd (fun _=>.any) 1 (ac s6),fun _=>none,fun _=>none⟩) (fun t=>fl6 = .next t) ?_ (fun s6 g6 hn6=>?_)
   ·refine V.ap ?_
    refine V.aP (fun j6 s6 g6=>⟨60,upd (upd (upd (upd (fun _=>.any) 48 (ac (j6 : Int))) 47 (ac (q.inputs.length : Int))) 46 (.list 35 (q.inputs.map aD))) 1 (ac s6),fun _=>none,fun _=>none⟩) () H6 (Gh.le (SLe.aa (PLe.q rfl) (SLe.aa (PLe.q rfl) (SLe.aa (PLe.q rfl) (SLe.aa (PLe.q rfl) SLe.nil)))) BLe.nil OLe.nil) (fun j6 s6 g6 hj6 hr6=>?_)
    refine V.seq (V.ab (Ao.q tk rfl (Ao.nil (V.seq ?_))))
    refine V.ak rfl (fun h=>?_) (fun h=>?_)
    ·have hl6 := bn h
     obtain ⟨x6,fb6,hx6,H,hg6⟩ := rMc hl6 hr6
     refine V.al (V.seq (V.ap (V.seq (V.ab (Ao.idx tk rfl rfl rfl rfl rfl rfl (Int.natCast_nonneg j6) (aY bE hx6) rfl (Ao.q tk rfl ?_))))))
     refine Ao.aJ tk rfl rfl rfl rfl rfl rfl fun b12=>?_
     refine Ao.sB tk rfl rfl rfl rfl rfl rfl rfl rfl rfl rfl rfl (Ao.nil (V.seq (V.seq (V.ab (Ao.q tk rfl (Ao.q tk rfl (Ao.nil ?_)))))))
     refine V.ak rfl (fun h=>?_) (fun h=>?_)
     ·have H := condT h H
      refine V.seq (V.ab (Ao.q tk rfl (Ao.nil ?_)))
      obtain rfl := ai H
      have e6 : fl6 = .ret _ := hg6
      subst e6
      obtain rfl := aL Hp6
      refine V.aq tk rfl (ps := [(ac (-1))]) ⟨_,_,rfl,rfl,rfl⟩ (PLe.q rfl)
     ·have H := condF h H
      refine V.al (V.ab (Ao.lB tk rfl rfl rfl rfl rfl rfl rfl (Ao.q tk rfl (Ao.q tk rfl ?_))))
      obtain ⟨x57,h57,H⟩ := aj H
      have s57 := hrec82 x6 (IntKind.i64.wrap (s6 - (1 : Int))) _ h57
      refine Ao.ah (g := 82) rfl rfl rfl Tryz.call82 (il.r) s57 rfl (Ao.q tk rfl (Ao.nil (V.blk (V.ab (Ao.q tk rfl (Ao.q tk rfl (Ao.nil ?_)))))))
      obtain rfl := ai H
      refine V.ax x57 () ⟨hl6,hg6⟩ (Gh.le (SLe.aa (PLe.q rfl) (SLe.aa (PLe.q rfl) (SLe.aa (PLe.q rfl) (SLe.aa (PLe.q (az (by omega))) SLe.nil)))) BLe.nil OLe.nil)
    ·have hn6 := rMd (bm h) hr6
     refine V.aB rfl ?_
     refine V.at s6 g6 hn6 (Gh.le (SLe.aa (PLe.q rfl) SLe.nil) BLe.nil OLe.nil)
   ·have H := br hn6 Hp6
    refine V.seq (V.ab (Ao.q tk rfl (Ao.q tk rfl (Ao.nil ?_))))
    obtain rfl := ai H
    refine V.aq tk rfl (ps := [(ac s6)]) ⟨_,_,rfl,rfl,rfl⟩ (PLe.q rfl)
def eR : Nat → LQuery → Int → Option (Int)
 | 0,_,_=>none
 | n + 1,v0,v1=>ir (fun b0 b1=>eR n b0 b1) v0 v1
theorem ot  (n : Nat) : (∀ a0 a1 r,eR n a0 a1 = some r → aG Tryz.prog 82 [(.agg (aQ a0)),(ac a1)] (ac r)) := by
 induction n with
 | zero=>exact (by intros; rename_i h; exact absurd (show (none : Option _) = some _ from h) (by simp))
 | succ n ih =>
  exact (fun v0 v1 r h=>oA (fun b0 b1=>eR n b0 b1) ih v0 v1  r h)
def jB (q : LQuery) (most : Int) : Option (Int) := gG fun n=>eR n q most
theorem oW (q : LQuery) (most : Int) (r : Int) (H : jB q most = some r) :
  aG Tryz.prog 82 [(.agg (aQ q)),(ac most)] (ac r) := by
 obtain ⟨n,h⟩ := im H
 exact (ot  n) q most r h
def ed (sA : List UInt8) : Option (Bool) :=
 af (
  cond (decide ((sA.length : Int) < (1 : Int)))
   (some true)
   (cond (decide ((sA.length : Int) > (12 : Int)))
    (some true)
    (af (aC sA 0) fun (x15 : UInt8) =>
    cond (decide ((x15.toNat : Int) ≥ (48 : Int)))
     (af (aC sA 0) fun (x19 : UInt8) =>
     some (decide ((x19.toNat : Int) ≤ (57 : Int))))
     (some false)))) fun (t1 : Bool) =>
 cond t1
  (some false)
  (af (dL (sA.length ≤ 2 ^ 47) ()) fun (_ : Unit) =>
  af (aE (σ := Unit) (ρ := (Bool)) (fun (_ : Nat) (x2 : UInt8) (_ : Unit) =>
   cond (decide ((x2.toNat : Int) < (97 : Int)))
    (cond (decide ((x2.toNat : Int) < (48 : Int)))
     (some (.ret false))
     (cond (decide ((x2.toNat : Int) > (57 : Int)))
      (some (.ret false))
      (some (.next ()))))
    (cond (decide ((x2.toNat : Int) > (122 : Int)))
     (cond (decide ((x2.toNat : Int) < (48 : Int)))
      (some (.ret false))
      (cond (decide ((x2.toNat : Int) > (57 : Int)))
       (some (.ret false))
       (some (.next ()))))
     (some (.next ())))) 0 sA ()) fun fl2=>fl2.thenR fun (_ : Unit) =>
  some true)
set_option maxHeartbeats 4000000 in
theorem kS (sA : List UInt8) (r : Bool) (H : ed sA = some r) :
  aG Tryz.prog 143 [(.str sA)] (au r) := by
 unfold ed at H
 refine PH.intro Tryz.func143 rfl Tryz.ntmps143 rfl ?_
 refine V.seq (V.ab (Ao.q tk rfl (Ao.nil (V.seq (V.seq ?_)))))
 obtain ⟨fl1,H1,Hp1⟩ := aj H
 refine V.cut (τ := Bool) (γ := Unit) (fun t1 g1=>⟨45,upd (upd (fun _=>.any) 22 (au t1)) 0 (.str sA),fun _=>none,fun _=>none⟩) (fun t=>t = fl1) ?_ (fun t1 g1 hn1=>?_)
 ·have H := H1
  refine V.ab (Ao.q tk rfl (Ao.q tk rfl (Ao.q tk rfl (Ao.q tk rfl ?_))))
  refine Ao.aA rfl rfl rfl (fun h=>?_) (fun h=>?_)
  ·have H := condT h H
   refine Ao.q tk rfl (Ao.q tk rfl (Ao.q tk rfl (Ao.q tk rfl (Ao.q tk rfl (Ao.q tk rfl (Ao.q tk rfl (Ao.q tk rfl (Ao.q tk rfl (Ao.q tk rfl (Ao.q tk rfl (Ao.q tk rfl (Ao.q tk rfl (Ao.q tk rfl (Ao.nil ?_))))))))))))))
   obtain rfl := ai H
   refine V.at true () rfl (Gh.le (SLe.aa (PLe.q rfl) (SLe.aa (PLe.q rfl) SLe.nil)) BLe.nil OLe.nil)
  ·have H := condF h H
   refine Ao.q tk rfl (Ao.q tk rfl (Ao.q tk rfl (Ao.q tk rfl (Ao.q tk rfl ?_))))
   refine Ao.aA rfl rfl rfl (fun h=>?_) (fun h=>?_)
   ·have H := condT h H
    refine Ao.q tk rfl (Ao.q tk rfl (Ao.q tk rfl (Ao.q tk rfl (Ao.q tk rfl (Ao.q tk rfl (Ao.q tk rfl (Ao.q tk rfl (Ao.q tk rfl (Ao.nil ?_)))))))))
    obtain rfl := ai H
    refine V.at true () rfl (Gh.le (SLe.aa (PLe.q rfl) (SLe.aa (PLe.q rfl) SLe.nil)) BLe.nil OLe.nil)
   ·have H := condF h H
    refine Ao.q tk rfl ?_
    obtain ⟨x15,h15,H⟩ := aj H
    have k15 := gIs h15
    refine Ao.idxS tk rfl rfl rfl rfl rfl rfl k15.1 k15.2 rfl (Ao.q tk rfl (Ao.q tk rfl ?_))
    refine Ao.aA rfl rfl rfl (fun h=>?_) (fun h=>?_)
    ·have H := condT h H
     refine Ao.q tk rfl ?_
     obtain ⟨x19,h19,H⟩ := aj H
     have k19 := gIs h19
     refine Ao.idxS tk rfl rfl rfl rfl rfl rfl k19.1 k19.2 rfl (Ao.q tk rfl (Ao.q tk rfl (Ao.q tk rfl (Ao.nil ?_))))
     obtain rfl := ai H
     refine V.at (decide ((x19.toNat : Int) ≤ (57 : Int))) () rfl (Gh.le (SLe.aa (PLe.q rfl) (SLe.aa (PLe.q rfl) SLe.nil)) BLe.nil OLe.nil)
    ·have H := condF h H
     refine Ao.q tk rfl (Ao.q tk rfl (Ao.q tk rfl (Ao.q tk rfl (Ao.q tk rfl (Ao.nil ?_)))))
     obtain rfl := ai H
     refine V.at false () rfl (Gh.le (SLe.aa (PLe.q rfl) (SLe.aa (PLe.q rfl) SLe.nil)) BLe.nil OLe.nil)
 ·subst hn1
  have H := Hp1
  refine V.ak rfl (fun h=>?_) (fun h=>?_)
  ·have H := condT h H
   refine V.seq (V.ab (Ao.q tk rfl (Ao.nil ?_)))
   obtain rfl := ai H
   refine V.aq tk rfl (ps := [(au false)]) ⟨_,_,rfl,rfl,rfl⟩ (PLe.q rfl)
  ·have H := condF h H
   refine V.al (V.seq (V.seq (V.ab (Ao.q tk rfl ?_))))
   obtain ⟨_,h24,H⟩ := aj H
   refine Ao.s2b (xs := sA) tk rfl rfl rfl rfl rfl rfl rfl rfl rfl rfl rfl (cF h24).1 rfl (Ao.ay tk rfl rfl rfl rfl rfl (List.length_map _) rfl (Ao.q tk rfl (Ao.nil ?_)))
   obtain ⟨fl2,H2,Hp2⟩ := aj H
   refine V.aZ tk 24 rfl rfl (fun hz2 _=>?_)
   rw [List.length_map] at hz2
   refine V.cut (τ := Unit) (γ := Unit) (fun s2 g2=>⟨45,fun _=>.any,fun _=>none,fun _=>none⟩) (fun t=>fl2 = .next t) ?_ (fun s2 g2 hn2=>?_)
   ·refine V.ap ?_
    refine V.aP (fun j2 s2 g2=>⟨45,upd (upd (upd (fun _=>.any) 26 (ac (j2 : Int))) 25 (ac (sA.length : Int))) 24 (.list 5 (sA.map rU8)),fun _=>none,fun _=>none⟩) () H2 (Gh.le (SLe.aa (PLe.q rfl) (SLe.aa (PLe.q rfl) (SLe.aa (PLe.q rfl) SLe.nil))) BLe.nil OLe.nil) (fun j2 s2 g2 hj2 hr2=>?_)
    refine V.seq (V.ab (Ao.q tk rfl (Ao.nil (V.seq ?_))))
    refine V.ak rfl (fun h=>?_) (fun h=>?_)
    ·have hl2 := bn h
     obtain ⟨x2,fb2,hx2,H,hg2⟩ := rMc hl2 hr2
     refine V.al (V.seq (V.ap (V.seq (V.ab ?_))))
     refine Ao.idx tk rfl rfl rfl rfl rfl rfl (Int.natCast_nonneg j2) (aY (fun _=>rfl) hx2) rfl ?_
     refine Ao.q tk rfl (Ao.q tk rfl (Ao.nil (V.seq (V.ab (Ao.q tk rfl (Ao.q tk rfl (Ao.q tk rfl ?_)))))))
     refine Ao.aA rfl rfl rfl (fun h=>?_) (fun h=>?_)
     ·have H := condT h H
      refine Ao.q tk rfl (Ao.q tk rfl (Ao.q tk rfl (Ao.q tk rfl (Ao.q tk rfl (Ao.q tk rfl (Ao.q tk rfl ?_))))))
      refine Ao.aA rfl rfl rfl (fun h=>?_) (fun h=>?_)
      ·have H := condT h H
       refine Ao.q tk rfl (Ao.q tk rfl (Ao.q tk rfl (Ao.q tk rfl (Ao.nil (V.bu rfl (V.seq (V.ab (Ao.q tk rfl (Ao.nil ?_)))))))))
       obtain rfl := ai H
       have e2 : fl2 = .ret _ := hg2
       subst e2
       obtain rfl := aL Hp2
       refine V.aq tk rfl (ps := [(au false)]) ⟨_,_,rfl,rfl,rfl⟩ (PLe.q rfl)
      ·have H := condF h H
       refine Ao.q tk rfl (Ao.q tk rfl (Ao.q tk rfl (Ao.q tk rfl (Ao.nil ?_))))
       refine V.ak rfl (fun h=>?_) (fun h=>?_)
       ·have H := condT h H
        refine V.seq (V.ab (Ao.q tk rfl (Ao.nil ?_)))
        obtain rfl := ai H
        have e2 : fl2 = .ret _ := hg2
        subst e2
        obtain rfl := aL Hp2
        refine V.aq tk rfl (ps := [(au false)]) ⟨_,_,rfl,rfl,rfl⟩ (PLe.q rfl)
       ·have H := condF h H
        refine V.al (V.blk (V.ab (Ao.q tk rfl (Ao.q tk rfl (Ao.nil ?_)))))
        obtain rfl := ai H
        refine V.ax () () ⟨hl2,hg2⟩ (Gh.le (SLe.aa (PLe.q rfl) (SLe.aa (PLe.q rfl) (SLe.aa (PLe.q (az (by omega))) SLe.nil))) BLe.nil OLe.nil)
     ·have H := condF h H
      refine Ao.q tk rfl (Ao.q tk rfl (Ao.q tk rfl (Ao.q tk rfl ?_)))
      refine Ao.aA rfl rfl rfl (fun h=>?_) (fun h=>?_)
      ·have H := condT h H
       refine Ao.q tk rfl (Ao.q tk rfl (Ao.q tk rfl ?_))
       refine Ao.aA rfl rfl rfl (fun h=>?_) (fun h=>?_)
       ·have H := condT h H
        refine Ao.q tk rfl (Ao.q tk rfl (Ao.q tk rfl (Ao.q tk rfl (Ao.nil (V.bu rfl (V.seq (V.ab (Ao.q tk rfl (Ao.nil ?_)))))))))
        obtain rfl := ai H
        have e2 : fl2 = .ret _ := hg2
        subst e2
        obtain rfl := aL Hp2
        refine V.aq tk rfl (ps := [(au false)]) ⟨_,_,rfl,rfl,rfl⟩ (PLe.q rfl)
       ·have H := condF h H
        refine Ao.q tk rfl (Ao.q tk rfl (Ao.q tk rfl (Ao.q tk rfl (Ao.nil ?_))))
        refine V.ak rfl (fun h=>?_) (fun h=>?_)
        ·have H := condT h H
         refine V.seq (V.ab (Ao.q tk rfl (Ao.nil ?_)))
         obtain rfl := ai H
         have e2 : fl2 = .ret _ := hg2
         subst e2
         obtain rfl := aL Hp2
         refine V.aq tk rfl (ps := [(au false)]) ⟨_,_,rfl,rfl,rfl⟩ (PLe.q rfl)
        ·have H := condF h H
         refine V.al (V.blk (V.ab (Ao.q tk rfl (Ao.q tk rfl (Ao.nil ?_)))))
         obtain rfl := ai H
         refine V.ax () () ⟨hl2,hg2⟩ (Gh.le (SLe.aa (PLe.q rfl) (SLe.aa (PLe.q rfl) (SLe.aa (PLe.q (az (by omega))) SLe.nil))) BLe.nil OLe.nil)
      ·have H := condF h H
       refine Ao.q tk rfl (Ao.q tk rfl (Ao.q tk rfl (Ao.q tk rfl (Ao.q tk rfl (Ao.q tk rfl (Ao.q tk rfl (Ao.nil (V.be rfl (V.al (V.blk (V.ab (Ao.q tk rfl (Ao.q tk rfl (Ao.nil ?_))))))))))))))
       obtain rfl := ai H
       refine V.ax () () ⟨hl2,hg2⟩ (Gh.le (SLe.aa (PLe.q rfl) (SLe.aa (PLe.q rfl) (SLe.aa (PLe.q (az (by omega))) SLe.nil))) BLe.nil OLe.nil)
    ·have hn2 := rMd (bm h) hr2
     refine V.aB rfl ?_
     refine V.at s2 g2 hn2 (Gh.le SLe.nil BLe.nil OLe.nil)
   ·have H := br hn2 Hp2
    refine V.seq (V.ab (Ao.q tk rfl (Ao.nil ?_)))
    obtain rfl := ai H
    refine V.aq tk rfl (ps := [(au true)]) ⟨_,_,rfl,rfl,rfl⟩ (PLe.q rfl)
def cM (c : LCol) (c0 : List UInt8) : Bool :=
 (c.name == c0)
set_option maxHeartbeats 4000000 in
theorem mz (c : LCol) (c0 : List UInt8) :
  aG Tryz.prog 176 [(.agg (av c)),(.ptr [(.str c0)])] (au (cM c c0)) := by
 obtain ⟨r,H⟩ : ∃ r,cM c c0 = r := ⟨_,rfl⟩
 rw [H]
 unfold cM at H
 refine PH.intro Tryz.func176 rfl Tryz.ntmps176 rfl ?_
 refine V.seq (V.ab (Ao.aF rfl rfl rfl rfl rfl rfl (Ao.q tk rfl (Ao.nil (V.seq (V.ab (Ao.q tk rfl (Ao.q tk rfl (Ao.q tk rfl (Ao.q tk rfl (Ao.q tk rfl (Ao.nil ?_))))))))))))
 subst H
 refine V.aq tk rfl (ps := [(au (c.name == c0))]) ⟨_,_,rfl,rfl,rfl⟩ (PLe.q rfl)
def cn (t : LTable) (c0 : List UInt8) : Bool :=
 (t.name == c0)
set_option maxHeartbeats 4000000 in
theorem mV (t : LTable) (c0 : List UInt8) :
  aG Tryz.prog 177 [(.agg (aO t)),(.ptr [(.str c0)])] (au (cn t c0)) := by
 obtain ⟨r,H⟩ : ∃ r,cn t c0 = r := ⟨_,rfl⟩
 rw [H]
 unfold cn at H
 refine PH.intro Tryz.func177 rfl Tryz.ntmps177 rfl ?_
 refine V.seq (V.ab (Ao.aF rfl rfl rfl rfl rfl rfl (Ao.q tk rfl (Ao.nil (V.seq (V.ab (Ao.q tk rfl (Ao.q tk rfl (Ao.q tk rfl (Ao.q tk rfl (Ao.q tk rfl (Ao.nil ?_))))))))))))
 subst H
 refine V.aq tk rfl (ps := [(au (t.name == c0))]) ⟨_,_,rfl,rfl,rfl⟩ (PLe.q rfl)
def ez (s1A : List Int) (s2A : List Int) : Option (Bool) :=
 cond ((s1A.length : Int) != (s2A.length : Int))
  (some false)
  (af (aE (σ := Unit) (ρ := (Bool)) (fun (j1 : Nat) (x1 : Int) (_ : Unit) =>
   af (aC s2A (j1 : Int)) fun (x22 : Int) =>
   cond (x1 != x22)
    (some (.ret false))
    (some (.next ()))) 0 s1A ()) fun fl1=>fl1.thenR fun (_ : Unit) =>
  some true)
set_option maxHeartbeats 4000000 in
theorem lZ (s1A : List Int) (s2A : List Int) (r : Bool) (H : ez s1A s2A = some r) :
  aG Tryz.prog 147 [(.list 3 (s1A.map aV)),(.list 3 (s2A.map aV))] (au r) := by
 unfold ez at H
 refine PH.intro Tryz.func147 rfl Tryz.ntmps147 rfl ?_
 refine V.seq (V.ab (Ao.q tk rfl (Ao.nil (V.seq (V.seq (V.ab (Ao.q tk rfl (Ao.ay tk rfl rfl rfl rfl rfl (List.length_map _) rfl (Ao.q tk rfl (Ao.ay tk rfl rfl rfl rfl rfl (List.length_map _) rfl (Ao.q tk rfl (Ao.nil ?_))))))))))))
 refine V.ak rfl (fun h=>?_) (fun h=>?_)
 ·have H := condT h H
  refine V.seq (V.ab (Ao.q tk rfl (Ao.nil ?_)))
  obtain rfl := ai H
  refine V.aq tk rfl (ps := [(au false)]) ⟨_,_,rfl,rfl,rfl⟩ (PLe.q rfl)
 ·have H := condF h H
  refine V.al (V.seq (V.seq (V.ab (Ao.q tk rfl (Ao.ay tk rfl rfl rfl rfl rfl (List.length_map _) rfl (Ao.q tk rfl (Ao.nil ?_)))))))
  obtain ⟨fl1,H1,Hp1⟩ := aj H
  refine V.aZ tk 0 rfl rfl (fun hz1 _=>?_)
  rw [List.length_map] at hz1
  refine V.cut (τ := Unit) (γ := Unit) (fun s1 g1=>⟨26,fun _=>.any,fun _=>none,fun _=>none⟩) (fun t=>fl1 = .next t) ?_ (fun s1 g1 hn1=>?_)
  ·refine V.ap ?_
   refine V.aP (fun j1 s1 g1=>⟨26,upd (upd (upd (upd (fun _=>.any) 13 (ac (j1 : Int))) 12 (ac (s1A.length : Int))) 1 (.list 3 (s2A.map aV))) 0 (.list 3 (s1A.map aV)),fun _=>none,fun _=>none⟩) () H1 (Gh.le (SLe.aa (PLe.q rfl) (SLe.aa (PLe.q rfl) (SLe.aa (PLe.q rfl) (SLe.aa (PLe.q rfl) SLe.nil)))) BLe.nil OLe.nil) (fun j1 s1 g1 hj1 hr1=>?_)
   refine V.seq (V.ab (Ao.q tk rfl (Ao.nil (V.seq ?_))))
   refine V.ak rfl (fun h=>?_) (fun h=>?_)
   ·have hl1 := bn h
    obtain ⟨x1,fb1,hx1,H,hg1⟩ := rMc hl1 hr1
    refine V.al (V.seq (V.ap (V.seq (V.ab (Ao.q tk rfl (Ao.q tk rfl (Ao.nil (V.seq (V.bc tk mok ⟨false,false,[]⟩ [0,1,2,3,4,5,6,7,8] rfl (by decide +kernel) rfl (Do.q rfl (Do.q rfl ?_)))))))))))
    refine Do.idx rfl rfl rfl rfl rfl rfl rfl (Int.natCast_nonneg j1) (aY (fun _=>rfl) hx1) rfl ?_
    refine Do.q rfl (Do.q rfl (Do.q rfl ?_))
    obtain ⟨x22,h22,H⟩ := aj H
    have k22 := gIs h22
    refine Do.idx rfl rfl rfl rfl rfl rfl rfl k22.1 (aH (fun _=>rfl) k22.2) rfl ?_
    refine Do.q rfl (Do.q rfl (Do.nil ?_))
    refine V.ak rfl (fun h=>?_) (fun h=>?_)
    ·have H := condT h H
     refine V.seq (V.ab (Ao.q tk rfl (Ao.nil ?_)))
     obtain rfl := ai H
     have e1 : fl1 = .ret _ := hg1
     subst e1
     obtain rfl := aL Hp1
     refine V.aq tk rfl (ps := [(au false)]) ⟨_,_,rfl,rfl,rfl⟩ (PLe.q rfl)
    ·have H := condF h H
     refine V.al (V.blk (V.ab (Ao.q tk rfl (Ao.q tk rfl (Ao.nil ?_)))))
     obtain rfl := ai H
     refine V.ax () () ⟨hl1,hg1⟩ (Gh.le (SLe.aa (PLe.q rfl) (SLe.aa (PLe.q rfl) (SLe.aa (PLe.q rfl) (SLe.aa (PLe.q (az (by omega))) SLe.nil)))) BLe.nil OLe.nil)
   ·have hn1 := rMd (bm h) hr1
    refine V.aB rfl ?_
    refine V.at s1 g1 hn1 (Gh.le SLe.nil BLe.nil OLe.nil)
  ·have H := br hn1 Hp1
   refine V.seq (V.ab (Ao.q tk rfl (Ao.nil ?_)))
   obtain rfl := ai H
   refine V.aq tk rfl (ps := [(au true)]) ⟨_,_,rfl,rfl,rfl⟩ (PLe.q rfl)
def bS (sA : List LForeignKey) (f : LForeignKey → Option (Bool)) : Option (Int) :=
 af (aE (σ := Unit) (ρ := (Int)) (fun (j1 : Nat) (x1 : LForeignKey) (_ : Unit) =>
  af (f x1) fun x16 =>
  cond x16
   (some (.ret (j1 : Int)))
   (some (.next ()))) 0 sA ()) fun fl1=>fl1.thenR fun (_ : Unit) =>
 some (-1)
set_option maxHeartbeats 4000000 in
theorem gn {g_f : FuncId} {caps_f : List PV} (sA : List LForeignKey) (f : LForeignKey → Option (Bool)) (hg_f : ∀ (vs : Array Value) (w : World),(callFunc g_f vs).run Tryz.prog w = .ok (.enter g_f vs) w) (hp_f : ∀ a0 r,f a0 = some r → aG Tryz.prog g_f ((.agg (bC a0)) :: caps_f) (au r)) (r : Int) (H : bS sA f = some r) :
  aG Tryz.prog 146 [(.list 142 (sA.map bC)),(.fn g_f caps_f)] (ac r) := by
 unfold bS at H
 refine PH.intro Tryz.func146 rfl Tryz.ntmps146 rfl ?_
 refine V.seq (V.ab (Ao.q tk rfl (Ao.nil (V.seq (V.seq (V.ab (Ao.q tk rfl (Ao.ay tk rfl rfl rfl rfl rfl (List.length_map _) rfl (Ao.q tk rfl (Ao.nil ?_))))))))))
 obtain ⟨fl1,H1,Hp1⟩ := aj H
 refine V.aZ tk 0 rfl rfl (fun hz1 _=>?_)
 rw [List.length_map] at hz1
 refine V.cut (τ := Unit) (γ := Unit) (fun s1 g1=>⟨19,fun _=>.any,fun _=>none,fun _=>none⟩) (fun t=>fl1 = .next t) ?_ (fun s1 g1 hn1=>?_)
 ·refine V.ap ?_
  refine V.aP (fun j1 s1 g1=>⟨19,upd (upd (upd (upd (fun _=>.any) 8 (ac (j1 : Int))) 7 (ac (sA.length : Int))) 1 (.fn g_f caps_f)) 0 (.list 142 (sA.map bC)),fun _=>none,fun _=>none⟩) () H1 (Gh.le (SLe.aa (PLe.q rfl) (SLe.aa (PLe.q rfl) (SLe.aa (PLe.q rfl) (SLe.aa (PLe.q rfl) SLe.nil)))) BLe.nil OLe.nil) (fun j1 s1 g1 hj1 hr1=>?_)
  refine V.seq (V.ab (Ao.q tk rfl (Ao.nil (V.seq ?_))))
  refine V.ak rfl (fun h=>?_) (fun h=>?_)
  ·have hl1 := bn h
   obtain ⟨x1,fb1,hx1,H,hg1⟩ := rMc hl1 hr1
   refine V.al (V.seq (V.ap (V.seq (V.ab (Ao.q tk rfl (Ao.q tk rfl (Ao.nil (V.seq (V.ab (Ao.q tk rfl (Ao.q tk rfl (Ao.q tk rfl ?_))))))))))))
   refine Ao.idx tk rfl rfl rfl rfl rfl rfl (Int.natCast_nonneg j1) (aY (fun _=>rfl) hx1) rfl ?_
   refine Ao.q tk rfl ?_
   obtain ⟨x16,h16,H⟩ := aj H
   refine Ao.ah rfl rfl rfl hg_f (il.r) (hp_f _ _ h16) rfl (Ao.nil ?_)
   refine V.ak rfl (fun h=>?_) (fun h=>?_)
   ·have H := condT h H
    refine V.seq (V.ab (Ao.q tk rfl (Ao.q tk rfl (Ao.nil ?_))))
    obtain rfl := ai H
    have e1 : fl1 = .ret _ := hg1
    subst e1
    obtain rfl := aL Hp1
    refine V.aq tk rfl (ps := [(ac (j1 : Int))]) ⟨_,_,rfl,rfl,rfl⟩ (PLe.q rfl)
   ·have H := condF h H
    refine V.al (V.blk (V.ab (Ao.q tk rfl (Ao.q tk rfl (Ao.nil ?_)))))
    obtain rfl := ai H
    refine V.ax () () ⟨hl1,hg1⟩ (Gh.le (SLe.aa (PLe.q rfl) (SLe.aa (PLe.q rfl) (SLe.aa (PLe.q rfl) (SLe.aa (PLe.q (az (by omega))) SLe.nil)))) BLe.nil OLe.nil)
  ·have hn1 := rMd (bm h) hr1
   refine V.aB rfl ?_
   refine V.at s1 g1 hn1 (Gh.le SLe.nil BLe.nil OLe.nil)
 ·have H := br hn1 Hp1
  refine V.seq (V.ab (Ao.q tk rfl (Ao.nil ?_)))
  obtain rfl := ai H
  refine V.aq tk rfl (ps := [(ac (-1))]) ⟨_,_,rfl,rfl,rfl⟩ (PLe.q rfl)
def cg (sA : List LConstraint) (v : LConstraint) : Option (Int) :=
 af (aE (σ := Unit) (ρ := (Int)) (fun (j1 : Nat) (x1 : LConstraint) (_ : Unit) =>
  cond (v.table == x1.table && (v.left == x1.left && (v.op == x1.op && (v.right == x1.right && ((v.value.kind == x1.value.kind && (v.value.int == x1.value.int && (v.value.text == x1.value.text && true))) && true)))))
   (some (.ret (j1 : Int)))
   (some (.next ()))) 0 sA ()) fun fl1=>fl1.thenR fun (_ : Unit) =>
 some (-1)
set_option maxHeartbeats 4000000 in
theorem gS (sA : List LConstraint) (v : LConstraint) (r : Int) (H : cg sA v = some r) :
  aG Tryz.prog 149 [(.list 148 (sA.map bH)),(.agg (bH v))] (ac r) := by
 unfold cg at H
 refine PH.intro Tryz.func149 rfl Tryz.ntmps149 rfl ?_
 refine V.seq (V.ab (Ao.aF rfl rfl rfl rfl rfl rfl (Ao.q tk rfl (Ao.nil (V.seq (V.seq (V.ab (Ao.q tk rfl (Ao.ay tk rfl rfl rfl rfl rfl (List.length_map _) rfl (Ao.q tk rfl (Ao.nil ?_)))))))))))
 obtain ⟨fl1,H1,Hp1⟩ := aj H
 refine V.aZ tk 0 rfl rfl (fun hz1 _=>?_)
 rw [List.length_map] at hz1
 refine V.cut (τ := Unit) (γ := Unit) (fun s1 g1=>⟨19,fun _=>.any,fun _=>none,fun _=>none⟩) (fun t=>fl1 = .next t) ?_ (fun s1 g1 hn1=>?_)
 ·refine V.ap ?_
  refine V.aP (fun j1 s1 g1=>⟨19,upd (upd (upd (upd (fun _=>.any) 8 (ac (j1 : Int))) 7 (ac (sA.length : Int))) 3 (.ptr [(.str v.table),(ac v.left),(.str v.op),(ac v.right),(ac v.value.kind),(ac v.value.int),(.str v.value.text)])) 0 (.list 148 (sA.map bH)),fun _=>none,fun _=>none⟩) () H1 (Gh.le (SLe.aa (PLe.q rfl) (SLe.aa (PLe.q rfl) (SLe.aa (PLe.q rfl) (SLe.aa (PLe.q rfl) SLe.nil)))) BLe.nil OLe.nil) (fun j1 s1 g1 hj1 hr1=>?_)
  refine V.seq (V.ab (Ao.q tk rfl (Ao.nil (V.seq ?_))))
  refine V.ak rfl (fun h=>?_) (fun h=>?_)
  ·have hl1 := bn h
   obtain ⟨x1,fb1,hx1,H,hg1⟩ := rMc hl1 hr1
   refine V.al (V.seq (V.ap (V.seq (V.ab (Ao.q tk rfl (Ao.q tk rfl (Ao.nil (V.seq (V.bc tk mok ⟨false,false,[]⟩ [0,1,2,3,4,5] rfl (by decide +kernel) rfl (Do.q rfl (Do.q rfl (Do.q rfl ?_))))))))))))
   refine Do.idx rfl rfl rfl rfl rfl rfl rfl (Int.natCast_nonneg j1) (aY (fun _=>rfl) hx1) rfl ?_
   refine Do.q rfl (Do.eqNest (b := (v.table == x1.table && (v.left == x1.left && (v.op == x1.op && (v.right == x1.right && ((v.value.kind == x1.value.kind && (v.value.int == x1.value.int && (v.value.text == x1.value.text && true))) && true)))))) tk rfl rfl rfl rfl rfl Tryz.stoodInHeld148 Tryz.eqGuardType148 (eqf := [(9,0),(3,1),(9,2),(3,3),(53,4)]) (by simp [dc,Program.fieldsOf,Tryz.underlying148]) (by kernel_rfl) rfl rfl (Do.nil ?_))
   refine V.ak rfl (fun h=>?_) (fun h=>?_)
   ·have H := condT h H
    refine V.seq (V.ab (Ao.q tk rfl (Ao.q tk rfl (Ao.nil ?_))))
    obtain rfl := ai H
    have e1 : fl1 = .ret _ := hg1
    subst e1
    obtain rfl := aL Hp1
    refine V.aq tk rfl (ps := [(ac (j1 : Int))]) ⟨_,_,rfl,rfl,rfl⟩ (PLe.q rfl)
   ·have H := condF h H
    refine V.al (V.blk (V.ab (Ao.q tk rfl (Ao.q tk rfl (Ao.nil ?_)))))
    obtain rfl := ai H
    refine V.ax () () ⟨hl1,hg1⟩ (Gh.le (SLe.aa (PLe.q rfl) (SLe.aa (PLe.q rfl) (SLe.aa (PLe.q rfl) (SLe.aa (PLe.q (az (by omega))) SLe.nil)))) BLe.nil OLe.nil)
  ·have hn1 := rMd (bm h) hr1
   refine V.aB rfl ?_
   refine V.at s1 g1 hn1 (Gh.le SLe.nil BLe.nil OLe.nil)
 ·have H := br hn1 Hp1
  refine V.seq (V.ab (Ao.q tk rfl (Ao.nil ?_)))
  obtain rfl := ai H
  refine V.aq tk rfl (ps := [(ac (-1))]) ⟨_,_,rfl,rfl,rfl⟩ (PLe.q rfl)
end
end Go.Proofs.YtgaggbdcedpapaaGreat

namespace Go.Proofs.YtgaggbdcedpapaaGreat
noncomputable section
open Go Go.Ab
attribute [local irreducible] V Ao Do Gh Eff PH IntKind.wrap
set_option maxRecDepth 4000
def cd (y : List LVal) (c0 : List LVal) : Option (Bool) :=
 cond (decide ((y.length : Int) > (0 : Int)))
  (af (aC y 0) fun (x9 : LVal) =>
  af (aC c0 0) fun (x12 : LVal) =>
  some (x9.kind == x12.kind && (x9.int == x12.int && (x9.text == x12.text && true))))
  (some false)
set_option maxHeartbeats 4000000 in
theorem iE (y : List LVal) (c0 : List LVal) (r : Bool) (H : cd y c0 = some r) :
  aG Tryz.prog 30 [(.list 53 (y.map ae)),(.ptr [(.list 53 (c0.map ae))])] (au r) := by
 unfold cd at H
 refine PH.intro Tryz.func30 rfl Tryz.ntmps30 rfl ?_
 refine V.seq (V.ab (Ao.q tk rfl (Ao.nil (V.seq (V.bc tk mok ⟨false,false,[]⟩ [0,1,2,3,4,5,6,7,8,9,10,11,12] rfl (by decide +kernel) rfl (Do.q rfl (Do.lenL rfl rfl rfl rfl rfl rfl (List.length_map _) rfl (Do.q rfl (Do.q rfl ?_)))))))))
 refine Do.fh rfl rfl rfl rfl (fun h=>?_) (fun h=>?_)
 ·have H := condT h H
  refine Do.q rfl ?_
  obtain ⟨x9,h9,H⟩ := aj H
  have k9 := gIs h9
  refine Do.idx rfl rfl rfl rfl rfl rfl rfl k9.1 (aH (fun _=>rfl) k9.2) rfl ?_
  refine Do.q rfl (Do.q rfl ?_)
  obtain ⟨x12,h12,H⟩ := aj H
  have k12 := gIs h12
  refine Do.idx rfl rfl rfl rfl rfl rfl rfl k12.1 (aH (fun _=>rfl) k12.2) rfl ?_
  refine Do.q rfl (Do.q rfl (Do.q rfl (Do.q rfl (Do.nil ?_))))
  obtain rfl := ai H
  refine V.aq tk rfl (ps := [(au (x9.kind == x12.kind && (x9.int == x12.int && (x9.text == x12.text && true))))]) ⟨_,_,rfl,rfl,rfl⟩ (PLe.q rfl)
 ·have H := condF h H
  refine Do.q rfl (Do.q rfl (Do.q rfl (Do.q rfl (Do.q rfl (Do.q rfl (Do.q rfl (Do.q rfl (Do.q rfl (Do.nil ?_)))))))))
  obtain rfl := ai H
  refine V.aq tk rfl (ps := [(au false)]) ⟨_,_,rfl,rfl,rfl⟩ (PLe.q rfl)
end
end Go.Proofs.YtgaggbdcedpapaaGreat

namespace Go.Proofs.YtgaggbdcedpapaaGreat
noncomputable section
open Go Go.Ab
attribute [local irreducible] V Ao Do Gh Eff PH IntKind.wrap
set_option maxRecDepth 4000
def eD (q : LQuery) : Option (Int) :=
 af (jG q) fun x7 =>
 some x7.2
set_option maxHeartbeats 4000000 in
theorem kJ (q : LQuery) (r : Int) (H : eD q = some r) :
  aG Tryz.prog 89 [(.agg (aQ q))] (ac r) := by
 unfold eD at H
 refine PH.intro Tryz.func89 rfl Tryz.ntmps89 rfl ?_
 refine V.seq (V.ab (Ao.aF rfl rfl rfl rfl rfl rfl (Ao.q tk rfl (Ao.nil (V.seq (V.ab (Ao.q tk rfl ?_)))))))
 obtain ⟨x7,h7,H⟩ := aj H
 have s7 := W_query_most q _ h7
 refine Ao.ah (g := 109) rfl rfl rfl Tryz.call109 (il.r) s7 rfl (Ao.q tk rfl (Ao.q tk rfl (Ao.q tk rfl (Ao.q tk rfl (Ao.q tk rfl (Ao.nil (V.seq (V.ab (Ao.q tk rfl (Ao.q tk rfl (Ao.nil ?_)))))))))))
 obtain rfl := ai H
 refine V.aq tk rfl (ps := [(ac x7.2)]) ⟨_,_,rfl,rfl,rfl⟩ (PLe.q rfl)
def dQ (q : LQuery) : Option ((List Int) × Int) :=
 af (gP q) fun x18 =>
 af (aE (σ := List Int × Bool × List Bool) (ρ := Empty) (fun (_ : Nat) (x1 : LQuery) (s1 : List Int × Bool × List Bool) =>
  af (aE (σ := List Int × Bool × List Bool) (ρ := Empty) (fun (_ : Nat) (x12 : LExpr) (s12 : List Int × Bool × List Bool) =>
   af (ek x12 s12.1 s12.2.1 s12.2.2) fun x33 =>
   some (.next (x33.1,x33.2.1,x33.2.2))) 0 x1.exprs (s1.1,s1.2.1,s1.2.2)) fun fl12=>fl12.thenP fun (s12 : List Int × Bool × List Bool) =>
  af (aE (σ := List Int × Bool × List Bool) (ρ := Empty) (fun (_ : Nat) (x13 : LAggregateCall) (s13 : List Int × Bool × List Bool) =>
   af (aE (σ := List Int × Bool × List Bool) (ρ := Empty) (fun (_ : Nat) (x16 : LExpr) (s16 : List Int × Bool × List Bool) =>
    af (ek x16 s16.1 s16.2.1 s16.2.2) fun x51 =>
    some (.next (x51.1,x51.2.1,x51.2.2))) 0 x13.args (s13.1,s13.2.1,s13.2.2)) fun fl16=>fl16.thenP fun (s16 : List Int × Bool × List Bool) =>
   some (.next (s16.1,s16.2.1,s16.2.2))) 0 x1.aggregates (s12.1,s12.2.1,s12.2.2)) fun fl13=>fl13.thenP fun (s13 : List Int × Bool × List Bool) =>
  some (.next (s13.1,s13.2.1,s13.2.2))) 0 x18 ([],false,(List.replicate 8 false))) fun fl1=>fl1.thenP fun (s1 : List Int × Bool × List Bool) =>
 cond s1.2.1
  (some ([],13))
  (some (s1.1,0))
set_option maxHeartbeats 4000000 in
theorem je (q : LQuery) (r : (List Int) × Int) (H : dQ q = some r) :
  aG Tryz.prog 87 [(.agg (aQ q))] (.tup [(.list 3 (r.1.map aV)),(ac r.2)]) := by
 unfold dQ at H
 refine PH.intro Tryz.func87 rfl Tryz.ntmps87 rfl ?_
 refine V.seq (V.ab (Ao.aF rfl rfl rfl rfl rfl rfl (Ao.q tk rfl (Ao.q tk rfl (Ao.nil (V.seq (V.ab ?_)))))))
 refine Ao.aJ tk rfl rfl rfl rfl rfl rfl fun b4=>?_
 refine Ao.nil (V.seq (V.ab ?_))
 refine Ao.aJ tk rfl rfl rfl rfl rfl rfl fun b5=>?_
 refine Ao.nil (V.seq (V.ab ?_))
 refine Ao.aJ tk rfl rfl rfl rfl rfl rfl fun b6=>?_
 refine Ao.sB tk rfl rfl rfl rfl rfl rfl rfl rfl rfl rfl rfl (Ao.nil (V.seq (V.ab ?_)))
 refine Ao.aJ tk rfl rfl rfl rfl rfl rfl fun b7=>?_
 refine Ao.nil (V.seq (V.ab (Ao.q tk rfl (Ao.sB tk rfl rfl rfl rfl rfl rfl rfl rfl rfl rfl rfl (Ao.nil (V.seq (V.seq (V.ab (Ao.q tk rfl ?_)))))))))
 obtain ⟨x18,h18,H⟩ := aj H
 have s18 := nu (m := 18) q _ h18
 refine Ao.ah (g := 76) rfl rfl rfl Tryz.call76 (il.r) (PFun.hP s18) rfl (Ao.ay tk rfl rfl rfl rfl rfl (List.length_map _) rfl (Ao.q tk rfl (Ao.nil ?_)))
 obtain ⟨fl1,H1,Hp1⟩ := aj H
 refine V.aZ tk 18 rfl rfl (fun hz1 _=>?_)
 rw [List.length_map] at hz1
 refine V.cut (τ := List Int × Bool × List Bool) (γ := OwnRef) (fun s1 g1=>⟨57,upd (upd (fun _=>.any) 6 (.box 6 b6 0)) 4 (.box 4 b4 0),upd (upd (fun _=>none) 6 (some ⟨b6,[(au s1.2.1)]⟩)) 4 (some ⟨b4,[(.own 1204 g1 (s1.1.map aV).length)]⟩),upd (fun _=>none) 1204 (some ⟨g1,3,(s1.1.map aV),true⟩)⟩) (fun t=>fl1 = .next t) ?_ (fun s1 g1 hn1=>?_)
 ·refine V.ap (V.nilOB tk 4 0 1204 (e := 3) rfl rfl rfl rfl ?_)
  refine V.aP (fun j1 s1 g1=>⟨57,upd (upd (upd (upd (upd (upd (fun _=>.any) 20 (ac (j1 : Int))) 19 (ac (x18.length : Int))) 18 (.list 35 (x18.map aD))) 7 (.box 7 b7 0)) 6 (.box 6 b6 0)) 4 (.box 4 b4 0),upd (upd (upd (upd (fun _=>none) 7 (some ⟨b7,[(.fn 108 [(.box 4 b4 0),(.box 6 b6 0),(.box 5 b5 0),(.box 7 b7 0)])]⟩)) 6 (some ⟨b6,[(au s1.2.1)]⟩)) 5 (some ⟨b5,(List.map au s1.2.2)⟩)) 4 (some ⟨b4,[(.own 1204 g1 (s1.1.map aV).length)]⟩),upd (fun _=>none) 1204 (some ⟨g1,3,(s1.1.map aV),true⟩)⟩) (⟨none,0⟩) H1 (Gh.le (SLe.aa (PLe.q rfl) (SLe.aa (PLe.q rfl) (SLe.aa (PLe.q rfl) (SLe.aa (PLe.q rfl) (SLe.aa (PLe.q rfl) (SLe.aa (PLe.q rfl) SLe.nil)))))) (BLe.ao rfl (il.r) (BLe.ao rfl (il.r) (BLe.ao rfl (il.r) (BLe.ao rfl (il.r) BLe.nil)))) (OLe.am rfl OLe.nil)) (fun j1 s1 g1 hj1 hr1=>?_)
  refine V.seq (V.ab (Ao.q tk rfl (Ao.nil (V.seq ?_))))
  refine V.ak rfl (fun h=>?_) (fun h=>?_)
  ·have hl1 := bn h
   obtain ⟨x1,fb1,hx1,H,hg1⟩ := rMc hl1 hr1
   refine V.al (V.seq (V.ap (V.seq (V.ab (Ao.idx tk rfl rfl rfl rfl rfl rfl (Int.natCast_nonneg j1) (aY bE hx1) rfl (Ao.q tk rfl ?_))))))
   refine Ao.aJ tk rfl rfl rfl rfl rfl rfl fun b9=>?_
   refine Ao.sB tk rfl rfl rfl rfl rfl rfl rfl rfl rfl rfl rfl (Ao.nil (V.seq (V.seq (V.ab (Ao.q tk rfl (Ao.lB tk rfl rfl rfl rfl rfl rfl rfl (Ao.ay tk rfl rfl rfl rfl rfl (List.length_map _) rfl (Ao.q tk rfl (Ao.nil ?_)))))))))
   obtain ⟨fl12,H12,Hp12⟩ := aj H
   refine V.aZ tk 25 rfl rfl (fun hz12 _=>?_)
   rw [List.length_map] at hz12
   refine V.cut (τ := List Int × Bool × List Bool) (γ := OwnRef) (fun s12 g12=>⟨57,upd (upd (upd (upd (upd (upd (upd (fun _=>.any) 20 (ac (j1 : Int))) 19 (ac (x18.length : Int))) 18 (.list 35 (x18.map aD))) 9 (.box 9 b9 0)) 7 (.box 7 b7 0)) 6 (.box 6 b6 0)) 4 (.box 4 b4 0),upd (upd (upd (upd (upd (fun _=>none) 9 (some ⟨b9,[(ac x1.kind),(.str x1.table),(.list 9 (x1.names.map bo)),(.list 56 (x1.exprs.map aI)),(.list 66 (x1.aggregates.map bl)),(.list 4 (x1.descending.map bB)),(ac x1.count),(ac x1.offset),(.list 35 (x1.inputs.map aD))]⟩)) 7 (some ⟨b7,[(.fn 108 [(.box 4 b4 0),(.box 6 b6 0),(.box 5 b5 0),(.box 7 b7 0)])]⟩)) 6 (some ⟨b6,[(au s12.2.1)]⟩)) 5 (some ⟨b5,(List.map au s12.2.2)⟩)) 4 (some ⟨b4,[(.own 1204 g12 (s12.1.map aV).length)]⟩),upd (fun _=>none) 1204 (some ⟨g12,3,(s12.1.map aV),true⟩)⟩) (fun t=>fl12 = .next t) ?_ (fun s12 g12 hn12=>?_)
   ·refine V.ap ?_
    refine V.aP (fun j12 s12 g12=>⟨57,upd (upd (upd (upd (upd (upd (upd (upd (upd (upd (fun _=>.any) 27 (ac (j12 : Int))) 26 (ac (x1.exprs.length : Int))) 25 (.list 56 (x1.exprs.map aI))) 20 (ac (j1 : Int))) 19 (ac (x18.length : Int))) 18 (.list 35 (x18.map aD))) 9 (.box 9 b9 0)) 7 (.box 7 b7 0)) 6 (.box 6 b6 0)) 4 (.box 4 b4 0),upd (upd (upd (upd (upd (fun _=>none) 9 (some ⟨b9,[(ac x1.kind),(.str x1.table),(.list 9 (x1.names.map bo)),(.list 56 (x1.exprs.map aI)),(.list 66 (x1.aggregates.map bl)),(.list 4 (x1.descending.map bB)),(ac x1.count),(ac x1.offset),(.list 35 (x1.inputs.map aD))]⟩)) 7 (some ⟨b7,[(.fn 108 [(.box 4 b4 0),(.box 6 b6 0),(.box 5 b5 0),(.box 7 b7 0)])]⟩)) 6 (some ⟨b6,[(au s12.2.1)]⟩)) 5 (some ⟨b5,(List.map au s12.2.2)⟩)) 4 (some ⟨b4,[(.own 1204 g12 (s12.1.map aV).length)]⟩),upd (fun _=>none) 1204 (some ⟨g12,3,(s12.1.map aV),true⟩)⟩) g1 H12 (Gh.le (SLe.aa (PLe.q rfl) (SLe.aa (PLe.q rfl) (SLe.aa (PLe.q rfl) (SLe.aa (PLe.q rfl) (SLe.aa (PLe.q rfl) (SLe.aa (PLe.q rfl) (SLe.aa (PLe.q rfl) (SLe.aa (PLe.q rfl) (SLe.aa (PLe.q rfl) (SLe.aa (PLe.q rfl) SLe.nil)))))))))) (BLe.ao rfl (il.r) (BLe.ao rfl (il.r) (BLe.ao rfl (il.r) (BLe.ao rfl (il.r) (BLe.ao rfl (il.r) BLe.nil))))) (OLe.am rfl OLe.nil)) (fun j12 s12 g12 hj12 hr12=>?_)
    refine V.seq (V.ab (Ao.q tk rfl (Ao.nil (V.seq ?_))))
    refine V.ak rfl (fun h=>?_) (fun h=>?_)
    ·have hl12 := bn h
     obtain ⟨x12,fb12,hx12,H,hg12⟩ := rMc hl12 hr12
     refine V.al (V.seq (V.ap (V.seq (V.ab (Ao.idx tk rfl rfl rfl rfl rfl rfl (Int.natCast_nonneg j12) (aY cW hx12) rfl (Ao.q tk rfl ?_))))))
     refine Ao.aJ tk rfl rfl rfl rfl rfl rfl fun b11=>?_
     refine Ao.sB tk rfl rfl rfl rfl rfl rfl rfl rfl rfl rfl rfl (Ao.nil (V.ab (Ao.lB tk rfl rfl rfl rfl rfl rfl rfl (Ao.lB tk rfl rfl rfl rfl rfl rfl rfl ?_))))
     obtain ⟨x33,h33,H⟩ := aj H
     have s33 := iP b4 g12 b6 b5 b7 x12 s12.1 s12.2.1 s12.2.2 _ h33
     refine Ao.gh (st' := ⟨_,_,upd (upd (upd (upd (upd (upd (fun _=>none) 11 (some ⟨b11,[(ac x12.kind),(.str x12.name),(ac x12.index),(ac x12.value.kind),(ac x12.value.int),(.str x12.value.text),(.list 56 (x12.args.map aI))]⟩)) 9 (some ⟨b9,[(ac x1.kind),(.str x1.table),(.list 9 (x1.names.map bo)),(.list 56 (x1.exprs.map aI)),(.list 66 (x1.aggregates.map bl)),(.list 4 (x1.descending.map bB)),(ac x1.count),(ac x1.offset),(.list 35 (x1.inputs.map aD))]⟩)) 7 (some ⟨b7,[(.fn 108 [(.box 1000 b4 0),(.box 1001 b6 0),(.box 1002 b5 0),(.box 1003 b7 0)])]⟩)) 6 (some ⟨b6,[(au s12.2.1)]⟩)) 5 (some ⟨b5,(List.map au s12.2.2)⟩)) 4 (some ⟨b4,[(.own 1100 g12 (s12.1.map aV).length)]⟩),upd (fun _=>none) 1204 (some ⟨g12,3,(s12.1.map aV),true⟩)⟩) (Gh.le (SLe.cq _ _) (BLe.ao rfl (il.of2 (fQ.cons (kW.own rfl) fQ.nil)) (BLe.ao rfl (il.r) (BLe.ao rfl (il.r) (BLe.ao rfl (il.of2 (fQ.cons (kW.fn (fQ.cons kW.boxT (fQ.cons kW.boxT (fQ.cons kW.boxT (fQ.cons kW.boxT fQ.nil))))) fQ.nil)) (BLe.ao rfl (il.r) (BLe.ao rfl (il.r) BLe.nil)))))) (OLe.am rfl OLe.nil)) ?_
     refine Ao.dr (g := 108) rfl rfl rfl Tryz.call108 [(4,1000),(6,1001),(5,1002),(7,1003)] [(1204,1100)] rfl rfl rfl rfl (il.of2 (fQ.cons (kW.of_eq rfl) (fQ.cons kW.boxT (fQ.cons kW.boxT (fQ.cons kW.boxT (fQ.cons kW.boxT fQ.nil)))))) (by rw [eO,eO,eO,eO,cN,cx,cO]; rfl) s33 ?_
     rintro u33 H33h ⟨gz33_0,rfl,rfl⟩
     refine ⟨_,rfl,?_⟩
     refine Ao.gh (st' := ⟨_,_,upd (upd (upd (upd (upd (upd (fun _=>none) 11 (some ⟨b11,[(ac x12.kind),(.str x12.name),(ac x12.index),(ac x12.value.kind),(ac x12.value.int),(.str x12.value.text),(.list 56 (x12.args.map aI))]⟩)) 9 (some ⟨b9,[(ac x1.kind),(.str x1.table),(.list 9 (x1.names.map bo)),(.list 56 (x1.exprs.map aI)),(.list 66 (x1.aggregates.map bl)),(.list 4 (x1.descending.map bB)),(ac x1.count),(ac x1.offset),(.list 35 (x1.inputs.map aD))]⟩)) 7 (some ⟨b7,[(.fn 108 [(.box 4 b4 0),(.box 6 b6 0),(.box 5 b5 0),(.box 7 b7 0)])]⟩)) 6 (some ⟨b6,[(au x33.2.1)]⟩)) 5 (some ⟨b5,(List.map au x33.2.2)⟩)) 4 (some ⟨b4,[(.own 1204 gz33_0 (x33.1.map aV).length)]⟩),upd (fun _=>none) 1204 (some ⟨gz33_0,3,(x33.1.map aV),true⟩)⟩) (Gh.le (SLe.cq _ _) (BLe.ao rfl (il.of2 (fQ.cons (kW.own rfl) fQ.nil)) (BLe.ao rfl (il.r) (BLe.ao rfl (il.r) (BLe.ao rfl (il.of2 (fQ.cons (kW.fn (fQ.cons kW.boxT (fQ.cons kW.boxT (fQ.cons kW.boxT (fQ.cons kW.boxT fQ.nil))))) fQ.nil)) (BLe.ao rfl (il.r) (BLe.ao rfl (il.r) BLe.nil)))))) (OLe.am rfl OLe.nil)) ?_
     refine Ao.nil (V.blk (V.ab (Ao.q tk rfl (Ao.q tk rfl (Ao.nil ?_)))))
     obtain rfl := ai H
     refine V.ax (x33.1,x33.2.1,x33.2.2) gz33_0 ⟨hl12,hg12⟩ (Gh.le (SLe.aa (PLe.q rfl) (SLe.aa (PLe.q rfl) (SLe.aa (PLe.q rfl) (SLe.aa (PLe.q rfl) (SLe.aa (PLe.q rfl) (SLe.aa (PLe.q rfl) (SLe.aa (PLe.q rfl) (SLe.aa (PLe.q rfl) (SLe.aa (PLe.q rfl) (SLe.aa (PLe.q (az (by omega))) SLe.nil)))))))))) (BLe.ao rfl (il.r) (BLe.ao rfl (il.r) (BLe.ao rfl (il.r) (BLe.ao rfl (il.r) (BLe.ao rfl (il.r) BLe.nil))))) (OLe.am rfl OLe.nil))
    ·have hn12 := rMd (bm h) hr12
     refine V.aB rfl ?_
     refine V.at s12 g12 hn12 (Gh.le (SLe.aa (PLe.q rfl) (SLe.aa (PLe.q rfl) (SLe.aa (PLe.q rfl) (SLe.aa (PLe.q rfl) (SLe.aa (PLe.q rfl) (SLe.aa (PLe.q rfl) (SLe.aa (PLe.q rfl) SLe.nil))))))) (BLe.ao rfl (il.r) (BLe.ao rfl (il.r) (BLe.ao rfl (il.r) (BLe.ao rfl (il.r) (BLe.ao rfl (il.r) BLe.nil))))) (OLe.am rfl OLe.nil))
   ·have H := aW hn12 Hp12
    refine V.seq (V.ab (Ao.q tk rfl (Ao.lB tk rfl rfl rfl rfl rfl rfl rfl (Ao.ay tk rfl rfl rfl rfl rfl (List.length_map _) rfl (Ao.q tk rfl (Ao.nil ?_))))))
    obtain ⟨fl13,H13,Hp13⟩ := aj H
    refine V.aZ tk 36 rfl rfl (fun hz13 _=>?_)
    rw [List.length_map] at hz13
    refine V.cut (τ := List Int × Bool × List Bool) (γ := OwnRef) (fun s13 g13=>⟨57,upd (upd (upd (upd (upd (upd (fun _=>.any) 20 (ac (j1 : Int))) 19 (ac (x18.length : Int))) 18 (.list 35 (x18.map aD))) 7 (.box 7 b7 0)) 6 (.box 6 b6 0)) 4 (.box 4 b4 0),upd (upd (upd (upd (fun _=>none) 7 (some ⟨b7,[(.fn 108 [(.box 4 b4 0),(.box 6 b6 0),(.box 5 b5 0),(.box 7 b7 0)])]⟩)) 6 (some ⟨b6,[(au s13.2.1)]⟩)) 5 (some ⟨b5,(List.map au s13.2.2)⟩)) 4 (some ⟨b4,[(.own 1204 g13 (s13.1.map aV).length)]⟩),upd (fun _=>none) 1204 (some ⟨g13,3,(s13.1.map aV),true⟩)⟩) (fun t=>fl13 = .next t) ?_ (fun s13 g13 hn13=>?_)
    ·refine V.ap ?_
     refine V.aP (fun j13 s13 g13=>⟨57,upd (upd (upd (upd (upd (upd (upd (upd (upd (fun _=>.any) 38 (ac (j13 : Int))) 37 (ac (x1.aggregates.length : Int))) 36 (.list 66 (x1.aggregates.map bl))) 20 (ac (j1 : Int))) 19 (ac (x18.length : Int))) 18 (.list 35 (x18.map aD))) 7 (.box 7 b7 0)) 6 (.box 6 b6 0)) 4 (.box 4 b4 0),upd (upd (upd (upd (fun _=>none) 7 (some ⟨b7,[(.fn 108 [(.box 4 b4 0),(.box 6 b6 0),(.box 5 b5 0),(.box 7 b7 0)])]⟩)) 6 (some ⟨b6,[(au s13.2.1)]⟩)) 5 (some ⟨b5,(List.map au s13.2.2)⟩)) 4 (some ⟨b4,[(.own 1204 g13 (s13.1.map aV).length)]⟩),upd (fun _=>none) 1204 (some ⟨g13,3,(s13.1.map aV),true⟩)⟩) g12 H13 (Gh.le (SLe.aa (PLe.q rfl) (SLe.aa (PLe.q rfl) (SLe.aa (PLe.q rfl) (SLe.aa (PLe.q rfl) (SLe.aa (PLe.q rfl) (SLe.aa (PLe.q rfl) (SLe.aa (PLe.q rfl) (SLe.aa (PLe.q rfl) (SLe.aa (PLe.q rfl) SLe.nil))))))))) (BLe.ao rfl (il.r) (BLe.ao rfl (il.r) (BLe.ao rfl (il.r) (BLe.ao rfl (il.r) BLe.nil)))) (OLe.am rfl OLe.nil)) (fun j13 s13 g13 hj13 hr13=>?_)
     refine V.seq (V.ab (Ao.q tk rfl (Ao.nil (V.seq ?_))))
     refine V.ak rfl (fun h=>?_) (fun h=>?_)
     ·have hl13 := bn h
      obtain ⟨x13,fb13,hx13,H,hg13⟩ := rMc hl13 hr13
      refine V.al (V.seq (V.ap (V.seq (V.ab ?_))))
      refine Ao.idx tk rfl rfl rfl rfl rfl rfl (Int.natCast_nonneg j13) (aY (fun _=>rfl) hx13) rfl ?_
      refine Ao.q tk rfl ?_
      refine Ao.aJ tk rfl rfl rfl rfl rfl rfl fun b13=>?_
      refine Ao.sB tk rfl rfl rfl rfl rfl rfl rfl rfl rfl rfl rfl (Ao.nil (V.seq (V.ab (Ao.q tk rfl (Ao.lB tk rfl rfl rfl rfl rfl rfl rfl (Ao.ay tk rfl rfl rfl rfl rfl (List.length_map _) rfl (Ao.q tk rfl (Ao.nil ?_))))))))
      obtain ⟨fl16,H16,Hp16⟩ := aj H
      refine V.aZ tk 43 rfl rfl (fun hz16 _=>?_)
      rw [List.length_map] at hz16
      refine V.cut (τ := List Int × Bool × List Bool) (γ := OwnRef) (fun s16 g16=>⟨57,upd (upd (upd (upd (upd (upd (upd (upd (upd (fun _=>.any) 38 (ac (j13 : Int))) 37 (ac (x1.aggregates.length : Int))) 36 (.list 66 (x1.aggregates.map bl))) 20 (ac (j1 : Int))) 19 (ac (x18.length : Int))) 18 (.list 35 (x18.map aD))) 7 (.box 7 b7 0)) 6 (.box 6 b6 0)) 4 (.box 4 b4 0),upd (upd (upd (upd (fun _=>none) 7 (some ⟨b7,[(.fn 108 [(.box 4 b4 0),(.box 6 b6 0),(.box 5 b5 0),(.box 7 b7 0)])]⟩)) 6 (some ⟨b6,[(au s16.2.1)]⟩)) 5 (some ⟨b5,(List.map au s16.2.2)⟩)) 4 (some ⟨b4,[(.own 1204 g16 (s16.1.map aV).length)]⟩),upd (fun _=>none) 1204 (some ⟨g16,3,(s16.1.map aV),true⟩)⟩) (fun t=>fl16 = .next t) ?_ (fun s16 g16 hn16=>?_)
      ·refine V.ap ?_
       refine V.aP (fun j16 s16 g16=>⟨57,upd (upd (upd (upd (upd (upd (upd (upd (upd (upd (upd (upd (fun _=>.any) 45 (ac (j16 : Int))) 44 (ac (x13.args.length : Int))) 43 (.list 56 (x13.args.map aI))) 38 (ac (j13 : Int))) 37 (ac (x1.aggregates.length : Int))) 36 (.list 66 (x1.aggregates.map bl))) 20 (ac (j1 : Int))) 19 (ac (x18.length : Int))) 18 (.list 35 (x18.map aD))) 7 (.box 7 b7 0)) 6 (.box 6 b6 0)) 4 (.box 4 b4 0),upd (upd (upd (upd (fun _=>none) 7 (some ⟨b7,[(.fn 108 [(.box 4 b4 0),(.box 6 b6 0),(.box 5 b5 0),(.box 7 b7 0)])]⟩)) 6 (some ⟨b6,[(au s16.2.1)]⟩)) 5 (some ⟨b5,(List.map au s16.2.2)⟩)) 4 (some ⟨b4,[(.own 1204 g16 (s16.1.map aV).length)]⟩),upd (fun _=>none) 1204 (some ⟨g16,3,(s16.1.map aV),true⟩)⟩) g13 H16 (Gh.le (SLe.aa (PLe.q rfl) (SLe.aa (PLe.q rfl) (SLe.aa (PLe.q rfl) (SLe.aa (PLe.q rfl) (SLe.aa (PLe.q rfl) (SLe.aa (PLe.q rfl) (SLe.aa (PLe.q rfl) (SLe.aa (PLe.q rfl) (SLe.aa (PLe.q rfl) (SLe.aa (PLe.q rfl) (SLe.aa (PLe.q rfl) (SLe.aa (PLe.q rfl) SLe.nil)))))))))))) (BLe.ao rfl (il.r) (BLe.ao rfl (il.r) (BLe.ao rfl (il.r) (BLe.ao rfl (il.r) BLe.nil)))) (OLe.am rfl OLe.nil)) (fun j16 s16 g16 hj16 hr16=>?_)
       refine V.seq (V.ab (Ao.q tk rfl (Ao.nil (V.seq ?_))))
       refine V.ak rfl (fun h=>?_) (fun h=>?_)
       ·have hl16 := bn h
        obtain ⟨x16,fb16,hx16,H,hg16⟩ := rMc hl16 hr16
        refine V.al (V.seq (V.ap (V.seq (V.ab (Ao.idx tk rfl rfl rfl rfl rfl rfl (Int.natCast_nonneg j16) (aY cW hx16) rfl (Ao.q tk rfl ?_))))))
        refine Ao.aJ tk rfl rfl rfl rfl rfl rfl fun b15=>?_
        refine Ao.sB tk rfl rfl rfl rfl rfl rfl rfl rfl rfl rfl rfl (Ao.nil (V.ab (Ao.lB tk rfl rfl rfl rfl rfl rfl rfl (Ao.lB tk rfl rfl rfl rfl rfl rfl rfl ?_))))
        obtain ⟨x51,h51,H⟩ := aj H
        have s51 := iP b4 g16 b6 b5 b7 x16 s16.1 s16.2.1 s16.2.2 _ h51
        refine Ao.gh (st' := ⟨_,_,upd (upd (upd (upd (upd (fun _=>none) 15 (some ⟨b15,[(ac x16.kind),(.str x16.name),(ac x16.index),(ac x16.value.kind),(ac x16.value.int),(.str x16.value.text),(.list 56 (x16.args.map aI))]⟩)) 7 (some ⟨b7,[(.fn 108 [(.box 1000 b4 0),(.box 1001 b6 0),(.box 1002 b5 0),(.box 1003 b7 0)])]⟩)) 6 (some ⟨b6,[(au s16.2.1)]⟩)) 5 (some ⟨b5,(List.map au s16.2.2)⟩)) 4 (some ⟨b4,[(.own 1100 g16 (s16.1.map aV).length)]⟩),upd (fun _=>none) 1204 (some ⟨g16,3,(s16.1.map aV),true⟩)⟩) (Gh.le (SLe.cq _ _) (BLe.ao rfl (il.of2 (fQ.cons (kW.own rfl) fQ.nil)) (BLe.ao rfl (il.r) (BLe.ao rfl (il.r) (BLe.ao rfl (il.of2 (fQ.cons (kW.fn (fQ.cons kW.boxT (fQ.cons kW.boxT (fQ.cons kW.boxT (fQ.cons kW.boxT fQ.nil))))) fQ.nil)) (BLe.ao rfl (il.r) BLe.nil))))) (OLe.am rfl OLe.nil)) ?_
        refine Ao.dr (g := 108) rfl rfl rfl Tryz.call108 [(4,1000),(6,1001),(5,1002),(7,1003)] [(1204,1100)] rfl rfl rfl rfl (il.of2 (fQ.cons (kW.of_eq rfl) (fQ.cons kW.boxT (fQ.cons kW.boxT (fQ.cons kW.boxT (fQ.cons kW.boxT fQ.nil)))))) (by rw [eO,eO,eO,eO,cN,cx,cO]; rfl) s51 ?_
        rintro u51 H51h ⟨gz51_0,rfl,rfl⟩
        refine ⟨_,rfl,?_⟩
        refine Ao.gh (st' := ⟨_,_,upd (upd (upd (upd (upd (fun _=>none) 15 (some ⟨b15,[(ac x16.kind),(.str x16.name),(ac x16.index),(ac x16.value.kind),(ac x16.value.int),(.str x16.value.text),(.list 56 (x16.args.map aI))]⟩)) 7 (some ⟨b7,[(.fn 108 [(.box 4 b4 0),(.box 6 b6 0),(.box 5 b5 0),(.box 7 b7 0)])]⟩)) 6 (some ⟨b6,[(au x51.2.1)]⟩)) 5 (some ⟨b5,(List.map au x51.2.2)⟩)) 4 (some ⟨b4,[(.own 1204 gz51_0 (x51.1.map aV).length)]⟩),upd (fun _=>none) 1204 (some ⟨gz51_0,3,(x51.1.map aV),true⟩)⟩) (Gh.le (SLe.cq _ _) (BLe.ao rfl (il.of2 (fQ.cons (kW.own rfl) fQ.nil)) (BLe.ao rfl (il.r) (BLe.ao rfl (il.r) (BLe.ao rfl (il.of2 (fQ.cons (kW.fn (fQ.cons kW.boxT (fQ.cons kW.boxT (fQ.cons kW.boxT (fQ.cons kW.boxT fQ.nil))))) fQ.nil)) (BLe.ao rfl (il.r) BLe.nil))))) (OLe.am rfl OLe.nil)) ?_
        refine Ao.nil (V.blk (V.ab (Ao.q tk rfl (Ao.q tk rfl (Ao.nil ?_)))))
        obtain rfl := ai H
        refine V.ax (x51.1,x51.2.1,x51.2.2) gz51_0 ⟨hl16,hg16⟩ (Gh.le (SLe.aa (PLe.q rfl) (SLe.aa (PLe.q rfl) (SLe.aa (PLe.q rfl) (SLe.aa (PLe.q rfl) (SLe.aa (PLe.q rfl) (SLe.aa (PLe.q rfl) (SLe.aa (PLe.q rfl) (SLe.aa (PLe.q rfl) (SLe.aa (PLe.q rfl) (SLe.aa (PLe.q rfl) (SLe.aa (PLe.q rfl) (SLe.aa (PLe.q (az (by omega))) SLe.nil)))))))))))) (BLe.ao rfl (il.r) (BLe.ao rfl (il.r) (BLe.ao rfl (il.r) (BLe.ao rfl (il.r) BLe.nil)))) (OLe.am rfl OLe.nil))
       ·have hn16 := rMd (bm h) hr16
        refine V.aB rfl ?_
        refine V.at s16 g16 hn16 (Gh.le (SLe.aa (PLe.q rfl) (SLe.aa (PLe.q rfl) (SLe.aa (PLe.q rfl) (SLe.aa (PLe.q rfl) (SLe.aa (PLe.q rfl) (SLe.aa (PLe.q rfl) (SLe.aa (PLe.q rfl) (SLe.aa (PLe.q rfl) (SLe.aa (PLe.q rfl) SLe.nil))))))))) (BLe.ao rfl (il.r) (BLe.ao rfl (il.r) (BLe.ao rfl (il.r) (BLe.ao rfl (il.r) BLe.nil)))) (OLe.am rfl OLe.nil))
      ·have H := aW hn16 Hp16
       refine V.blk (V.ab (Ao.q tk rfl (Ao.q tk rfl (Ao.nil ?_))))
       obtain rfl := ai H
       refine V.ax (s16.1,s16.2.1,s16.2.2) g16 ⟨hl13,hg13⟩ (Gh.le (SLe.aa (PLe.q rfl) (SLe.aa (PLe.q rfl) (SLe.aa (PLe.q rfl) (SLe.aa (PLe.q rfl) (SLe.aa (PLe.q rfl) (SLe.aa (PLe.q rfl) (SLe.aa (PLe.q rfl) (SLe.aa (PLe.q rfl) (SLe.aa (PLe.q (az (by omega))) SLe.nil))))))))) (BLe.ao rfl (il.r) (BLe.ao rfl (il.r) (BLe.ao rfl (il.r) (BLe.ao rfl (il.r) BLe.nil)))) (OLe.am rfl OLe.nil))
     ·have hn13 := rMd (bm h) hr13
      refine V.aB rfl ?_
      refine V.at s13 g13 hn13 (Gh.le (SLe.aa (PLe.q rfl) (SLe.aa (PLe.q rfl) (SLe.aa (PLe.q rfl) (SLe.aa (PLe.q rfl) (SLe.aa (PLe.q rfl) (SLe.aa (PLe.q rfl) SLe.nil)))))) (BLe.ao rfl (il.r) (BLe.ao rfl (il.r) (BLe.ao rfl (il.r) (BLe.ao rfl (il.r) BLe.nil)))) (OLe.am rfl OLe.nil))
    ·have H := aW hn13 Hp13
     refine V.blk (V.ab (Ao.q tk rfl (Ao.q tk rfl (Ao.nil ?_))))
     obtain rfl := ai H
     refine V.ax (s13.1,s13.2.1,s13.2.2) g13 ⟨hl1,hg1⟩ (Gh.le (SLe.aa (PLe.q rfl) (SLe.aa (PLe.q rfl) (SLe.aa (PLe.q rfl) (SLe.aa (PLe.q rfl) (SLe.aa (PLe.q rfl) (SLe.aa (PLe.q (az (by omega))) SLe.nil)))))) (BLe.ao rfl (il.r) (BLe.ao rfl (il.r) (BLe.ao rfl (il.r) (BLe.ao rfl (il.r) BLe.nil)))) (OLe.am rfl OLe.nil))
  ·have hn1 := rMd (bm h) hr1
   refine V.aB rfl ?_
   refine V.at s1 g1 hn1 (Gh.le (SLe.aa (PLe.q rfl) (SLe.aa (PLe.q rfl) SLe.nil)) (BLe.ao rfl (il.r) (BLe.ao rfl (il.r) BLe.nil)) (OLe.am rfl OLe.nil))
 ·have H := aW hn1 Hp1
  refine V.seq (V.seq (V.ab (Ao.lB tk rfl rfl rfl rfl rfl rfl rfl (Ao.nil ?_))))
  refine V.ak rfl (fun h=>?_) (fun h=>?_)
  ·have H := condT h H
   refine V.seq (V.ab (Ao.q tk rfl (Ao.q tk rfl (Ao.nil ?_))))
   obtain rfl := ai H
   refine V.aq tk rfl (ps := [(.val (.slice none 0 0)),(ac 13)]) ⟨_,_,rfl,rfl,_,_,rfl,rfl,rfl⟩ (PLe.of2 (kW.tup (fQ.cons (kW.nil tk rfl) (fQ.cons (kW.of_eq rfl) fQ.nil))))
  ·have H := condF h H
   refine V.al (V.seq (V.ab (Ao.lB tk rfl rfl rfl rfl rfl rfl rfl (Ao.q tk rfl (Ao.q tk rfl (Ao.nil ?_))))))
   obtain rfl := ai H
   refine V.dm 2 rfl rfl rfl ?_
   refine V.aq tk rfl (ps := [(.list 3 (s1.1.map aV)),(ac 0)]) ⟨_,_,rfl,rfl,_,_,rfl,rfl,rfl⟩ (PLe.q rfl)
def dK (sA : List Int) (v : Int) : Option (Bool) :=
 af (fA sA v) fun x7 =>
 some (decide (x7 ≥ (0 : Int)))
set_option maxHeartbeats 4000000 in
theorem kT (sA : List Int) (v : Int) (r : Bool) (H : dK sA v = some r) :
  aG Tryz.prog 152 [(.list 3 (sA.map aV)),(ac v)] (au r) := by
 unfold dK at H
 refine PH.intro Tryz.func152 rfl Tryz.ntmps152 rfl ?_
 refine V.seq (V.ab (Ao.q tk rfl (Ao.nil (V.seq (V.ab (Ao.q tk rfl (Ao.q tk rfl ?_)))))))
 obtain ⟨x7,h7,H⟩ := aj H
 have s7 := lY sA v _ h7
 refine Ao.ah (g := 179) rfl rfl rfl Tryz.call179 (il.r) s7 rfl (Ao.q tk rfl (Ao.q tk rfl (Ao.nil ?_)))
 obtain rfl := ai H
 refine V.aq tk rfl (ps := [(au (decide (x7 ≥ (0 : Int))))]) ⟨_,_,rfl,rfl,rfl⟩ (PLe.q rfl)
def fO (kind : Int) (a : List LCol) (b : List LCol) : Option ((List LCol) × Int) :=
 cond ((a.length : Int) != (b.length : Int))
  (some ([],7))
  (af (aE (σ := List LCol) (ρ := ((List LCol) × Int)) (fun (j1 : Nat) (x1 : LCol) (s1 : List LCol) =>
   af (aC b (j1 : Int)) fun (x29 : LCol) =>
   cond (x1.kind != x29.kind)
    (some (.ret ([],7)))
    (cond x1.nullable
     (af (aC s1 (j1 : Int)) fun (x51 : LCol) =>
     ba (s1.set ((j1 : Int).toNat) (LCol.mk x51.name x51.kind true)) fun (y8 : List LCol) =>
     some (.next y8))
     (cond (kind == (6 : Int))
      (af (aC b (j1 : Int)) fun (x46 : LCol) =>
      af (aC s1 (j1 : Int)) fun (x51 : LCol) =>
      ba (s1.set ((j1 : Int).toNat) (LCol.mk x51.name x51.kind x46.nullable)) fun (y9 : List LCol) =>
      some (.next y9))
      (af (aC s1 (j1 : Int)) fun (x51 : LCol) =>
      ba (s1.set ((j1 : Int).toNat) (LCol.mk x51.name x51.kind false)) fun (y10 : List LCol) =>
      some (.next y10))))) 0 a a) fun fl1=>fl1.thenR fun (s1 : List LCol) =>
  some (s1,0))
set_option maxHeartbeats 4000000 in
theorem nN (kind : Int) (a : List LCol) (b : List LCol) (r : (List LCol) × Int) (H : fO kind a b = some r) :
  aG Tryz.prog 157 [(ac kind),(.list 50 (a.map av)),(.list 50 (b.map av))] (.tup [(.list 50 (r.1.map av)),(ac r.2)]) := by
 unfold fO at H
 refine PH.intro Tryz.func157 rfl Tryz.ntmps157 rfl ?_
 refine V.seq (V.ab (Ao.q tk rfl (Ao.q tk rfl (Ao.nil (V.seq (V.seq (V.ab (Ao.q tk rfl (Ao.ay tk rfl rfl rfl rfl rfl (List.length_map _) rfl (Ao.q tk rfl (Ao.ay tk rfl rfl rfl rfl rfl (List.length_map _) rfl (Ao.q tk rfl (Ao.nil ?_)))))))))))))
 refine V.ak rfl (fun h=>?_) (fun h=>?_)
 ·have H := condT h H
  refine V.seq (V.ab (Ao.q tk rfl (Ao.q tk rfl (Ao.nil ?_))))
  obtain rfl := ai H
  refine V.aq tk rfl (ps := [(.val (.slice none 0 0)),(ac 7)]) ⟨_,_,rfl,rfl,_,_,rfl,rfl,rfl⟩ (PLe.of2 (kW.tup (fQ.cons (kW.nil tk rfl) (fQ.cons (kW.of_eq rfl) fQ.nil))))
 ·have H := condF h H
  refine V.al (V.seq (V.ab (Ao.q tk rfl ?_)))
  have s16 := mi (m := 16) a
  refine Ao.callO (g := 155) rfl rfl rfl Tryz.call155 (il.r) rfl rfl s16 (fun g16=>?_)
  refine Ao.q tk rfl (Ao.nil (V.seq (V.seq (V.ab (Ao.q tk rfl (Ao.ay tk rfl rfl rfl rfl rfl (List.length_map _) rfl (Ao.q tk rfl (Ao.nil ?_))))))))
  obtain ⟨fl1,H1,Hp1⟩ := aj H
  refine V.aZ tk 1 rfl rfl (fun hz1 _=>?_)
  rw [List.length_map] at hz1
  refine V.cut (τ := List LCol) (γ := OwnRef) (fun s1 g1=>⟨55,upd (fun _=>.any) 8 (.own 16 g1 (s1.map av).length),fun _=>none,upd (fun _=>none) 16 (some ⟨g1,50,(s1.map av),true⟩)⟩) (fun t=>fl1 = .next t) ?_ (fun s1 g1 hn1=>?_)
  ·refine V.ap ?_
   refine V.aP (fun j1 s1 g1=>⟨55,upd (upd (upd (upd (upd (upd (fun _=>.any) 19 (ac (j1 : Int))) 18 (ac (a.length : Int))) 8 (.own 16 g1 (s1.map av).length)) 2 (.list 50 (b.map av))) 1 (.list 50 (a.map av))) 0 (ac kind),fun _=>none,upd (fun _=>none) 16 (some ⟨g1,50,(s1.map av),true⟩)⟩) g16 H1 (Gh.le (SLe.aa (PLe.q rfl) (SLe.aa (PLe.q rfl) (SLe.aa (PLe.q rfl) (SLe.aa (PLe.q rfl) (SLe.aa (PLe.q rfl) (SLe.aa (PLe.q rfl) SLe.nil)))))) BLe.nil (OLe.am rfl OLe.nil)) (fun j1 s1 g1 hj1 hr1=>?_)
   refine V.seq (V.ab (Ao.q tk rfl (Ao.nil (V.seq ?_))))
   refine V.ak rfl (fun h=>?_) (fun h=>?_)
   ·have hl1 := bn h
    obtain ⟨x1,fb1,hx1,H,hg1⟩ := rMc hl1 hr1
    refine V.al (V.seq (V.ap (V.seq (V.ab (Ao.q tk rfl (Ao.q tk rfl (Ao.nil (V.seq (V.seq ?_)))))))))
    refine V.gR (tag := 16) rfl (fun ho16=>?_)
    refine V.bc tk mok ⟨false,false,[]⟩ [0,1,2,3,4,5,6,7,8,9,10] rfl (by decide +kernel) rfl (Do.q rfl (Do.q rfl ?_))
    refine Do.idx rfl rfl rfl rfl rfl rfl rfl (Int.natCast_nonneg j1) (aY (fun _=>rfl) hx1) rfl ?_
    refine Do.q rfl (Do.q rfl (Do.q rfl (Do.q rfl ?_)))
    obtain ⟨x29,h29,H⟩ := aj H
    have k29 := gIs h29
    refine Do.idx rfl rfl rfl rfl rfl rfl rfl k29.1 (aH (fun _=>rfl) k29.2) rfl ?_
    refine Do.q rfl (Do.q rfl (Do.q rfl (Do.nil ?_)))
    refine V.ak rfl (fun h=>?_) (fun h=>?_)
    ·have H := condT h H
     refine V.seq (V.ab (Ao.q tk rfl (Ao.q tk rfl (Ao.nil ?_))))
     obtain rfl := ai H
     have e1 : fl1 = .ret _ := hg1
     subst e1
     obtain rfl := aL Hp1
     refine V.aq tk rfl (ps := [(.val (.slice none 0 0)),(ac 7)]) ⟨_,_,rfl,rfl,_,_,rfl,rfl,rfl⟩ (PLe.of2 (kW.tup (fQ.cons (kW.nil tk rfl) (fQ.cons (kW.of_eq rfl) fQ.nil))))
    ·have H := condF h H
     refine V.al (V.ab (Ao.q tk rfl (Ao.q tk rfl (Ao.q tk rfl (Ao.q tk rfl ?_)))))
     refine Ao.idx tk rfl rfl rfl rfl rfl rfl (Int.natCast_nonneg j1) (aY (fun _=>rfl) hx1) rfl ?_
     refine Ao.q tk rfl (Ao.q tk rfl (Ao.q tk rfl ?_))
     refine Ao.aA rfl rfl rfl (fun h=>?_) (fun h=>?_)
     ·have H := condT h H
      refine Ao.q tk rfl (Ao.q tk rfl (Ao.q tk rfl (Ao.q tk rfl (Ao.q tk rfl (Ao.q tk rfl (Ao.q tk rfl (Ao.q tk rfl (Ao.q tk rfl (Ao.q tk rfl ?_)))))))))
      obtain ⟨x51,h51,H⟩ := aj H
      have k51 := gIs h51
      refine Ao.ownF (tag := 16) rfl (fun ho16=>?_)
      refine Ao.idxO tk rfl rfl rfl rfl rfl rfl rfl ⟨k51.1,(cS k51.2)⟩ (cY ho16 k51.2) rfl (Ao.q tk rfl ?_)
      obtain ⟨y8,hy8,H⟩ := bA H
      refine Ao.storeO tk rfl rfl rfl rfl rfl rfl rfl rfl (by rw [List.length_map]; exact (List.getElem?_eq_some_iff.1 k51.2).1) (PLe.refl _ _) rfl rfl rfl rfl (by decide) (eu (fun _=>rfl) k51.2 rfl hy8) ?_
      refine Ao.nil (V.blk (V.ab (Ao.q tk rfl (Ao.q tk rfl (Ao.nil ?_)))))
      obtain rfl := ai H
      refine V.ax y8 g1 ⟨hl1,hg1⟩ (Gh.le (SLe.aa (PLe.q rfl) (SLe.aa (PLe.q rfl) (SLe.aa (PLe.q rfl) (SLe.aa (PLe.of2 (kW.of_eq (congrArg (PV.own 16 g1) (dR (f := av) hy8)))) (SLe.aa (PLe.q rfl) (SLe.aa (PLe.q (az (by omega))) SLe.nil)))))) BLe.nil (OLe.am rfl OLe.nil))
     ·have H := condF h H
      refine Ao.q tk rfl (Ao.q tk rfl (Ao.q tk rfl ?_))
      refine Ao.aA rfl rfl rfl (fun h=>?_) (fun h=>?_)
      ·have H := condT h H
       refine Ao.q tk rfl (Ao.q tk rfl ?_)
       obtain ⟨x46,h46,H⟩ := aj H
       have k46 := gIs h46
       refine Ao.idx tk rfl rfl rfl rfl rfl rfl k46.1 (aH (fun _=>rfl) k46.2) rfl ?_
       refine Ao.q tk rfl (Ao.q tk rfl (Ao.q tk rfl (Ao.q tk rfl ?_)))
       obtain ⟨x51,h51,H⟩ := aj H
       have k51 := gIs h51
       refine Ao.ownF (tag := 16) rfl (fun ho16=>?_)
       refine Ao.idxO tk rfl rfl rfl rfl rfl rfl rfl ⟨k51.1,(cS k51.2)⟩ (cY ho16 k51.2) rfl (Ao.q tk rfl ?_)
       obtain ⟨y9,hy9,H⟩ := bA H
       refine Ao.storeO tk rfl rfl rfl rfl rfl rfl rfl rfl (by rw [List.length_map]; exact (List.getElem?_eq_some_iff.1 k51.2).1) (PLe.refl _ _) rfl rfl rfl rfl (by decide) (eu (fun _=>rfl) k51.2 rfl hy9) ?_
       refine Ao.nil (V.blk (V.ab (Ao.q tk rfl (Ao.q tk rfl (Ao.nil ?_)))))
       obtain rfl := ai H
       refine V.ax y9 g1 ⟨hl1,hg1⟩ (Gh.le (SLe.aa (PLe.q rfl) (SLe.aa (PLe.q rfl) (SLe.aa (PLe.q rfl) (SLe.aa (PLe.of2 (kW.of_eq (congrArg (PV.own 16 g1) (dR (f := av) hy9)))) (SLe.aa (PLe.q rfl) (SLe.aa (PLe.q (az (by omega))) SLe.nil)))))) BLe.nil (OLe.am rfl OLe.nil))
      ·have H := condF h H
       refine Ao.q tk rfl (Ao.q tk rfl (Ao.q tk rfl (Ao.q tk rfl (Ao.q tk rfl (Ao.q tk rfl (Ao.q tk rfl ?_))))))
       obtain ⟨x51,h51,H⟩ := aj H
       have k51 := gIs h51
       refine Ao.ownF (tag := 16) rfl (fun ho16=>?_)
       refine Ao.idxO tk rfl rfl rfl rfl rfl rfl rfl ⟨k51.1,(cS k51.2)⟩ (cY ho16 k51.2) rfl (Ao.q tk rfl ?_)
       obtain ⟨y10,hy10,H⟩ := bA H
       refine Ao.storeO tk rfl rfl rfl rfl rfl rfl rfl rfl (by rw [List.length_map]; exact (List.getElem?_eq_some_iff.1 k51.2).1) (PLe.refl _ _) rfl rfl rfl rfl (by decide) (eu (fun _=>rfl) k51.2 rfl hy10) ?_
       refine Ao.nil (V.blk (V.ab (Ao.q tk rfl (Ao.q tk rfl (Ao.nil ?_)))))
       obtain rfl := ai H
       refine V.ax y10 g1 ⟨hl1,hg1⟩ (Gh.le (SLe.aa (PLe.q rfl) (SLe.aa (PLe.q rfl) (SLe.aa (PLe.q rfl) (SLe.aa (PLe.of2 (kW.of_eq (congrArg (PV.own 16 g1) (dR (f := av) hy10)))) (SLe.aa (PLe.q rfl) (SLe.aa (PLe.q (az (by omega))) SLe.nil)))))) BLe.nil (OLe.am rfl OLe.nil))
   ·have hn1 := rMd (bm h) hr1
    refine V.aB rfl ?_
    refine V.at s1 g1 hn1 (Gh.le (SLe.aa (PLe.q rfl) SLe.nil) BLe.nil (OLe.am rfl OLe.nil))
  ·have H := br hn1 Hp1
   refine V.seq (V.ab (Ao.q tk rfl (Ao.q tk rfl (Ao.q tk rfl (Ao.nil ?_)))))
   obtain rfl := ai H
   refine V.dm 6 rfl rfl rfl ?_
   refine V.aq tk rfl (ps := [(.list 50 (s1.map av)),(ac 0)]) ⟨_,_,rfl,rfl,_,_,rfl,rfl,rfl⟩ (PLe.q rfl)
end
end Go.Proofs.YtgaggbdcedpapaaGreat

namespace Go.Proofs.YtgaggbdcedpapaaGreat
noncomputable section
open Go Go.Ab
attribute [local irreducible] V Ao Do Gh Eff PH IntKind.wrap
set_option maxRecDepth 4000
def cH (sA : List (List UInt8)) (v : List UInt8) : Option (Bool) :=
 af (ec sA v) fun x7 =>
 some (decide (x7 ≥ (0 : Int)))
set_option maxHeartbeats 4000000 in
theorem js (sA : List (List UInt8)) (v : List UInt8) (r : Bool) (H : cH sA v = some r) :
  aG Tryz.prog 48 [(.list 9 (sA.map bo)),(.str v)] (au r) := by
 unfold cH at H
 refine PH.intro Tryz.func48 rfl Tryz.ntmps48 rfl ?_
 refine V.seq (V.ab (Ao.q tk rfl (Ao.nil (V.seq (V.ab (Ao.q tk rfl (Ao.q tk rfl ?_)))))))
 obtain ⟨x7,h7,H⟩ := aj H
 have s7 := ke sA v _ h7
 refine Ao.ah (g := 79) rfl rfl rfl Tryz.call79 (il.r) s7 rfl (Ao.q tk rfl (Ao.q tk rfl (Ao.nil ?_)))
 obtain rfl := ai H
 refine V.aq tk rfl (ps := [(au (decide (x7 ≥ (0 : Int))))]) ⟨_,_,rfl,rfl,rfl⟩ (PLe.q rfl)
def bw (sA : List LCol) (f : LCol → Option (Bool)) : Option (Bool) :=
 af (bQ sA f) fun x7 =>
 some (decide (x7 ≥ (0 : Int)))
set_option maxHeartbeats 4000000 in
theorem hM {g_f : FuncId} {caps_f : List PV} (sA : List LCol) (f : LCol → Option (Bool)) (hg_f : ∀ (vs : Array Value) (w : World),(callFunc g_f vs).run Tryz.prog w = .ok (.enter g_f vs) w) (hp_f : ∀ a0 r,f a0 = some r → aG Tryz.prog g_f ((.agg (av a0)) :: caps_f) (au r)) (r : Bool) (H : bw sA f = some r) :
  aG Tryz.prog 112 [(.list 50 (sA.map av)),(.fn g_f caps_f)] (au r) := by
 unfold bw at H
 refine PH.intro Tryz.func112 rfl Tryz.ntmps112 rfl ?_
 refine V.seq (V.ab (Ao.q tk rfl (Ao.nil (V.seq (V.ab (Ao.q tk rfl (Ao.q tk rfl ?_)))))))
 obtain ⟨x7,h7,H⟩ := aj H
 have s7 := eZ sA f hg_f hp_f _ h7
 refine Ao.ah (g := 43) rfl rfl rfl Tryz.call43 (il.r) s7 rfl (Ao.q tk rfl (Ao.q tk rfl (Ao.nil ?_)))
 obtain rfl := ai H
 refine V.aq tk rfl (ps := [(au (decide (x7 ≥ (0 : Int))))]) ⟨_,_,rfl,rfl,rfl⟩ (PLe.q rfl)
def dh (t : LTable) (row : List LVal) : Option (Int) :=
 cond ((row.length : Int) != (t.columns.length : Int))
  (some 3)
  (af (aE (σ := Unit) (ρ := (Int)) (fun (j1 : Nat) (x1 : LVal) (_ : Unit) =>
   ba (cB x1) fun x22 =>
   cond (x22 != (0 : Int))
    (some (.ret x22))
    (af (
     cond (x1.kind == (0 : Int))
      (af (aC t.columns (j1 : Int)) fun (x33 : LCol) =>
      some (!x33.nullable))
      (some false)) fun (t3 : Bool) =>
    cond t3
     (some (.ret 8))
     (cond (x1.kind != (0 : Int))
      (af (aC t.columns (j1 : Int)) fun (x47 : LCol) =>
      cond (x1.kind != x47.kind)
       (some (.ret 7))
       (some (.next ())))
      (some (.next ()))))) 0 row ()) fun fl1=>fl1.thenR fun (_ : Unit) =>
  some 0)
set_option maxHeartbeats 4000000 in
theorem ms (t : LTable) (row : List LVal) (r : Int) (H : dh t row = some r) :
  aG Tryz.prog 84 [(.agg (aO t)),(.list 53 (row.map ae))] (ac r) := by
 unfold dh at H
 refine PH.intro Tryz.func84 rfl Tryz.ntmps84 rfl ?_
 refine V.seq (V.ab (Ao.aF rfl rfl rfl rfl rfl rfl (Ao.q tk rfl (Ao.nil (V.seq (V.seq (V.ab (Ao.q tk rfl (Ao.ay tk rfl rfl rfl rfl rfl (List.length_map _) rfl (Ao.q tk rfl (Ao.q tk rfl (Ao.ay tk rfl rfl rfl rfl rfl (List.length_map _) rfl (Ao.q tk rfl (Ao.nil ?_))))))))))))))
 refine V.ak rfl (fun h=>?_) (fun h=>?_)
 ·have H := condT h H
  refine V.seq (V.ab (Ao.q tk rfl (Ao.nil ?_)))
  obtain rfl := ai H
  refine V.aq tk rfl (ps := [(ac 3)]) ⟨_,_,rfl,rfl,rfl⟩ (PLe.q rfl)
 ·have H := condF h H
  refine V.al (V.seq (V.seq (V.ab (Ao.q tk rfl (Ao.ay tk rfl rfl rfl rfl rfl (List.length_map _) rfl (Ao.q tk rfl (Ao.nil ?_)))))))
  obtain ⟨fl1,H1,Hp1⟩ := aj H
  refine V.aZ tk 14 rfl rfl (fun hz1 _=>?_)
  rw [List.length_map] at hz1
  refine V.cut (τ := Unit) (γ := Unit) (fun s1 g1=>⟨53,fun _=>.any,fun _=>none,fun _=>none⟩) (fun t=>fl1 = .next t) ?_ (fun s1 g1 hn1=>?_)
  ·refine V.ap ?_
   refine V.aP (fun j1 s1 g1=>⟨53,upd (upd (upd (upd (fun _=>.any) 16 (ac (j1 : Int))) 15 (ac (row.length : Int))) 14 (.list 53 (row.map ae))) 2 (.ptr [(.str t.name),(.list 50 (t.columns.map av)),(.list 3 (t.primaryKey.map aV))]),fun _=>none,fun _=>none⟩) () H1 (Gh.le (SLe.aa (PLe.q rfl) (SLe.aa (PLe.q rfl) (SLe.aa (PLe.q rfl) (SLe.aa (PLe.q rfl) SLe.nil)))) BLe.nil OLe.nil) (fun j1 s1 g1 hj1 hr1=>?_)
   refine V.seq (V.ab (Ao.q tk rfl (Ao.nil (V.seq ?_))))
   refine V.ak rfl (fun h=>?_) (fun h=>?_)
   ·have hl1 := bn h
    obtain ⟨x1,fb1,hx1,H,hg1⟩ := rMc hl1 hr1
    refine V.al (V.seq (V.ap (V.seq (V.ab (Ao.q tk rfl ?_)))))
    refine Ao.idx tk rfl rfl rfl rfl rfl rfl (Int.natCast_nonneg j1) (aY (fun _=>rfl) hx1) rfl ?_
    refine Ao.q tk rfl ?_
    refine Ao.aJ tk rfl rfl rfl rfl rfl rfl fun b6=>?_
    refine Ao.q tk rfl (Ao.sB tk rfl rfl rfl rfl rfl rfl rfl rfl rfl rfl rfl (Ao.nil (V.seq (V.seq (V.ab (Ao.lB tk rfl rfl rfl rfl rfl rfl rfl ?_))))))
    obtain ⟨x22,h22,H⟩ := bA H
    have s22 := lK x1
    rw [h22] at s22
    refine Ao.ah (g := 105) rfl rfl rfl Tryz.call105 (il.r) s22 rfl (Ao.q tk rfl (Ao.nil (V.seq (V.ab (Ao.q tk rfl (Ao.q tk rfl (Ao.nil ?_)))))))
    refine V.ak rfl (fun h=>?_) (fun h=>?_)
    ·have H := condT h H
     refine V.seq (V.ab (Ao.q tk rfl (Ao.q tk rfl (Ao.nil ?_))))
     obtain rfl := ai H
     have e1 : fl1 = .ret _ := hg1
     subst e1
     obtain rfl := aL Hp1
     refine V.aq tk rfl (ps := [(ac x22)]) ⟨_,_,rfl,rfl,rfl⟩ (PLe.q rfl)
    ·have H := condF h H
     refine V.al (V.seq (V.seq ?_))
     obtain ⟨fl3,H3,Hp3⟩ := aj H
     refine V.cut (τ := Bool) (γ := Unit) (fun t3 g3=>⟨53,upd (upd (upd (upd (upd (upd (upd (fun _=>.any) 37 (au t3)) 16 (ac (j1 : Int))) 15 (ac (row.length : Int))) 14 (.list 53 (row.map ae))) 6 (.box 6 b6 0)) 5 (ac (j1 : Int))) 2 (.ptr [(.str t.name),(.list 50 (t.columns.map av)),(.list 3 (t.primaryKey.map aV))]),upd (fun _=>none) 6 (some ⟨b6,[(ac x1.kind),(ac x1.int),(.str x1.text)]⟩),fun _=>none⟩) (fun t=>t = fl3) ?_ (fun t3 g3 hn3=>?_)
     ·have H := H3
      refine V.ab (Ao.q tk rfl (Ao.lB tk rfl rfl rfl rfl rfl rfl rfl (Ao.q tk rfl (Ao.q tk rfl ?_))))
      refine Ao.aA rfl rfl rfl (fun h=>?_) (fun h=>?_)
      ·have H := condT h H
       refine Ao.q tk rfl (Ao.q tk rfl (Ao.q tk rfl ?_))
       obtain ⟨x33,h33,H⟩ := aj H
       have k33 := gIs h33
       refine Ao.idx tk rfl rfl rfl rfl rfl rfl k33.1 (aH (fun _=>rfl) k33.2) rfl ?_
       refine Ao.q tk rfl (Ao.q tk rfl (Ao.q tk rfl (Ao.q tk rfl (Ao.nil ?_))))
       obtain rfl := ai H
       refine V.at (!x33.nullable) () rfl (Gh.le (SLe.aa (PLe.q rfl) (SLe.aa (PLe.q rfl) (SLe.aa (PLe.q rfl) (SLe.aa (PLe.q rfl) (SLe.aa (PLe.q rfl) (SLe.aa (PLe.q rfl) (SLe.aa (PLe.q rfl) SLe.nil))))))) (BLe.ao rfl (il.r) BLe.nil) OLe.nil)
      ·have H := condF h H
       refine Ao.q tk rfl (Ao.q tk rfl (Ao.q tk rfl (Ao.q tk rfl (Ao.q tk rfl (Ao.q tk rfl (Ao.q tk rfl (Ao.q tk rfl (Ao.nil ?_))))))))
       obtain rfl := ai H
       refine V.at false () rfl (Gh.le (SLe.aa (PLe.q rfl) (SLe.aa (PLe.q rfl) (SLe.aa (PLe.q rfl) (SLe.aa (PLe.q rfl) (SLe.aa (PLe.q rfl) (SLe.aa (PLe.q rfl) (SLe.aa (PLe.q rfl) SLe.nil))))))) (BLe.ao rfl (il.r) BLe.nil) OLe.nil)
     ·subst hn3
      have H := Hp3
      refine V.ak rfl (fun h=>?_) (fun h=>?_)
      ·have H := condT h H
       refine V.seq (V.ab (Ao.q tk rfl (Ao.nil ?_)))
       obtain rfl := ai H
       have e1 : fl1 = .ret _ := hg1
       subst e1
       obtain rfl := aL Hp1
       refine V.aq tk rfl (ps := [(ac 8)]) ⟨_,_,rfl,rfl,rfl⟩ (PLe.q rfl)
      ·have H := condF h H
       refine V.al (V.seq (V.bc tk mok ⟨true,false,[45,49]⟩ [0,1,2,3,4,5,6,7,8,9,10,11,12,13] rfl (by decide +kernel) rfl (Do.q rfl (Do.lB rfl rfl rfl rfl rfl rfl rfl rfl rfl (Do.q rfl (Do.q rfl ?_))))))
       refine Do.fh rfl rfl rfl rfl (fun h=>?_) (fun h=>?_)
       ·have H := condT h H
        refine Do.q rfl (Do.lB rfl rfl rfl rfl rfl rfl rfl rfl rfl (Do.q rfl (Do.q rfl (Do.q rfl ?_))))
        obtain ⟨x47,h47,H⟩ := aj H
        have k47 := gIs h47
        refine Do.idx rfl rfl rfl rfl rfl rfl rfl k47.1 (aH (fun _=>rfl) k47.2) rfl ?_
        refine Do.q rfl (Do.q rfl (Do.q rfl (Do.q rfl (Do.nil ?_))))
        refine V.ak rfl (fun h=>?_) (fun h=>?_)
        ·have H := condT h H
         refine V.seq (V.ab (Ao.q tk rfl (Ao.nil ?_)))
         obtain rfl := ai H
         have e1 : fl1 = .ret _ := hg1
         subst e1
         obtain rfl := aL Hp1
         refine V.aq tk rfl (ps := [(ac 7)]) ⟨_,_,rfl,rfl,rfl⟩ (PLe.q rfl)
        ·have H := condF h H
         refine V.al (V.blk (V.ab (Ao.q tk rfl (Ao.q tk rfl (Ao.nil ?_)))))
         obtain rfl := ai H
         refine V.ax () () ⟨hl1,hg1⟩ (Gh.le (SLe.aa (PLe.q rfl) (SLe.aa (PLe.q rfl) (SLe.aa (PLe.q rfl) (SLe.aa (PLe.q (az (by omega))) SLe.nil)))) BLe.nil OLe.nil)
       ·have H := condF h H
        refine Do.q rfl (Do.q rfl (Do.q rfl (Do.q rfl (Do.q rfl (Do.q rfl (Do.q rfl (Do.q rfl (Do.q rfl (Do.q rfl (Do.nil (V.be rfl (V.al (V.blk (V.ab ?_))))))))))))))
        refine Ao.q tk rfl (Ao.q tk rfl (Ao.nil ?_))
        obtain rfl := ai H
        refine V.ax () () ⟨hl1,hg1⟩ (Gh.le (SLe.aa (PLe.q rfl) (SLe.aa (PLe.q rfl) (SLe.aa (PLe.q rfl) (SLe.aa (PLe.q (az (by omega))) SLe.nil)))) BLe.nil OLe.nil)
   ·have hn1 := rMd (bm h) hr1
    refine V.aB rfl ?_
    refine V.at s1 g1 hn1 (Gh.le SLe.nil BLe.nil OLe.nil)
  ·have H := br hn1 Hp1
   refine V.seq (V.ab (Ao.q tk rfl (Ao.nil ?_)))
   obtain rfl := ai H
   refine V.aq tk rfl (ps := [(ac 0)]) ⟨_,_,rfl,rfl,rfl⟩ (PLe.q rfl)
def ie (a : List UInt8) (b : List UInt8) : Int :=
 ba (dG a b) fun x7 =>
 x7
set_option maxHeartbeats 4000000 in
theorem oz (a : List UInt8) (b : List UInt8) :
  aG Tryz.prog 150 [(.str a),(.str b)] (ac (ie a b)) := by
 obtain ⟨r,H⟩ : ∃ r,ie a b = r := ⟨_,rfl⟩
 rw [H]
 unfold ie at H
 refine PH.intro Tryz.func150 rfl Tryz.ntmps150 rfl ?_
 refine V.seq (V.ab (Ao.q tk rfl (Ao.nil (V.seq (V.ab (Ao.q tk rfl (Ao.q tk rfl ?_)))))))
 obtain ⟨x7,h7,H⟩ := bA H
 have s7 := jw a b
 rw [h7] at s7
 refine Ao.ah (g := 178) rfl rfl rfl Tryz.call178 (il.r) s7 rfl (Ao.q tk rfl (Ao.nil ?_))
 subst H
 refine V.aq tk rfl (ps := [(ac x7)]) ⟨_,_,rfl,rfl,rfl⟩ (PLe.q rfl)
def bq (slices : List (List LVal)) : Option ((List LVal)) :=
 af (aE (σ := Int) (ρ := Empty) (fun (_ : Nat) (x1 : List LVal) (s1 : Int) =>
  cond (decide ((IntKind.i64.wrap (s1 + (x1.length : Int))) < (0 : Int)))
   (none)
   (some (.next (IntKind.i64.wrap (s1 + (x1.length : Int)))))) 0 slices 0) fun fl1=>fl1.thenP fun (s1 : Int) =>
 af (me 32 s1) fun (_ : Unit) =>
 af (aE (σ := List LVal) (ρ := Empty) (fun (_ : Nat) (x2 : List LVal) (s2 : List LVal) =>
  af (cI 32 s2 x2) fun (x33 : List LVal) =>
  some (.next x33)) 0 slices []) fun fl2=>fl2.thenP fun (s2 : List LVal) =>
 some s2
set_option maxHeartbeats 4000000 in
theorem gj {m : Nat} (slices : List (List LVal)) (r : (List LVal)) (H : bq slices = some r) :
  hC Tryz.prog 168 [(.list 51 (slices.map (ag 53 ae)))] (km m 53 (r.map ae)) := by
 unfold bq at H
 refine PH.intro Tryz.func168 rfl Tryz.ntmps168 rfl ?_
 refine V.seq (V.ab (Ao.q tk rfl (Ao.nil (V.seq (V.ab (Ao.q tk rfl (Ao.nil (V.seq (V.seq (V.ab (Ao.q tk rfl (Ao.ay tk rfl rfl rfl rfl rfl (List.length_map _) rfl (Ao.q tk rfl (Ao.nil ?_))))))))))))))
 obtain ⟨fl1,H1,Hp1⟩ := aj H
 refine V.aZ tk 9 rfl rfl (fun hz1 _=>?_)
 rw [List.length_map] at hz1
 refine V.cut (τ := Int) (γ := Unit) (fun s1 g1=>⟨36,upd (upd (fun _=>.any) 3 (ac s1)) 0 (.list 51 (slices.map (ag 53 ae))),fun _=>none,fun _=>none⟩) (fun t=>fl1 = .next t) ?_ (fun s1 g1 hn1=>?_)
 ·refine V.ap ?_
  refine V.aP (fun j1 s1 g1=>⟨36,upd (upd (upd (upd (upd (fun _=>.any) 11 (ac (j1 : Int))) 10 (ac (slices.length : Int))) 9 (.list 51 (slices.map (ag 53 ae)))) 3 (ac s1)) 0 (.list 51 (slices.map (ag 53 ae))),fun _=>none,fun _=>none⟩) () H1 (Gh.le (SLe.aa (PLe.q rfl) (SLe.aa (PLe.q rfl) (SLe.aa (PLe.q rfl) (SLe.aa (PLe.q rfl) (SLe.aa (PLe.q rfl) SLe.nil))))) BLe.nil OLe.nil) (fun j1 s1 g1 hj1 hr1=>?_)
  refine V.seq (V.ab (Ao.q tk rfl (Ao.nil (V.seq ?_))))
  refine V.ak rfl (fun h=>?_) (fun h=>?_)
  ·have hl1 := bn h
   obtain ⟨x1,fb1,hx1,H,hg1⟩ := rMc hl1 hr1
   refine V.al (V.seq (V.ap (V.seq (V.ab ?_))))
   refine Ao.idx tk rfl rfl rfl rfl rfl rfl (Int.natCast_nonneg j1) (aY (fun _=>rfl) hx1) rfl ?_
   refine Ao.q tk rfl (Ao.q tk rfl (Ao.nil (V.seq (V.ab (Ao.q tk rfl (Ao.q tk rfl (Ao.ay tk rfl rfl rfl rfl rfl (List.length_map _) rfl (Ao.q tk rfl (Ao.q tk rfl (Ao.nil (V.seq (V.ab (Ao.q tk rfl (Ao.q tk rfl ?_))))))))))))))
   refine Ao.nil ?_
   refine V.ak rfl (fun h=>?_) (fun h=>?_)
   ·have H := condT h H
    cases H
   ·have H := condF h H
    refine V.al (V.blk (V.ab (Ao.q tk rfl (Ao.q tk rfl (Ao.nil ?_)))))
    obtain rfl := ai H
    refine V.ax (IntKind.i64.wrap (s1 + (x1.length : Int))) () ⟨hl1,hg1⟩ (Gh.le (SLe.aa (PLe.q rfl) (SLe.aa (PLe.q rfl) (SLe.aa (PLe.q rfl) (SLe.aa (PLe.q rfl) (SLe.aa (PLe.q (az (by omega))) SLe.nil))))) BLe.nil OLe.nil)
  ·have hn1 := rMd (bm h) hr1
   refine V.aB rfl ?_
   refine V.at s1 g1 hn1 (Gh.le (SLe.aa (PLe.q rfl) (SLe.aa (PLe.q rfl) SLe.nil)) BLe.nil OLe.nil)
 ·have H := aW hn1 Hp1
  refine V.seq (V.ab (Ao.q tk rfl ?_))
  obtain ⟨_,h24,H⟩ := aj H
  have s24 := grow_186 (m := 24) s1 h24
  refine Ao.callO (g := 186) rfl rfl rfl Tryz.call186 (il.r) rfl rfl s24 (fun g24=>?_)
  refine Ao.q tk rfl (Ao.nil (V.seq (V.seq (V.ab (Ao.q tk rfl (Ao.ay tk rfl rfl rfl rfl rfl (List.length_map _) rfl (Ao.q tk rfl (Ao.nil ?_))))))))
  obtain ⟨fl2,H2,Hp2⟩ := aj H
  refine V.aZ tk 25 rfl rfl (fun hz2 _=>?_)
  rw [List.length_map] at hz2
  refine V.cut (τ := List LVal) (γ := OwnRef) (fun s2 g2=>⟨36,upd (fun _=>.any) 6 (.own 24 g2 (s2.map ae).length),fun _=>none,upd (fun _=>none) 24 (some ⟨g2,53,(s2.map ae),true⟩)⟩) (fun t=>fl2 = .next t) ?_ (fun s2 g2 hn2=>?_)
  ·refine V.ap ?_
   refine V.aP (fun j2 s2 g2=>⟨36,upd (upd (upd (upd (fun _=>.any) 27 (ac (j2 : Int))) 26 (ac (slices.length : Int))) 25 (.list 51 (slices.map (ag 53 ae)))) 6 (.own 24 g2 (s2.map ae).length),fun _=>none,upd (fun _=>none) 24 (some ⟨g2,53,(s2.map ae),true⟩)⟩) g24 H2 (Gh.le (SLe.aa (PLe.q rfl) (SLe.aa (PLe.q rfl) (SLe.aa (PLe.q rfl) (SLe.aa (PLe.q rfl) SLe.nil)))) BLe.nil (OLe.am rfl OLe.nil)) (fun j2 s2 g2 hj2 hr2=>?_)
   refine V.seq (V.ab (Ao.q tk rfl (Ao.nil (V.seq ?_))))
   refine V.ak rfl (fun h=>?_) (fun h=>?_)
   ·have hl2 := bn h
    obtain ⟨x2,fb2,hx2,H,hg2⟩ := rMc hl2 hr2
    refine V.al (V.seq (V.ap (V.seq (V.ab ?_))))
    refine Ao.idx tk rfl rfl rfl rfl rfl rfl (Int.natCast_nonneg j2) (aY (fun _=>rfl) hx2) rfl ?_
    refine Ao.q tk rfl (Ao.q tk rfl (Ao.nil (V.ab (Ao.q tk rfl (Ao.q tk rfl ?_)))))
    obtain ⟨x33,h33,H⟩ := aj H
    have k33 := cf h33
    refine Ao.co (rows2' := List.map ae x2) (rows' := List.map ae x33) tk rfl rfl rfl rfl rfl rfl rfl rfl rfl rfl rfl rfl rfl (fj.refl _) (dp k33.1) (dv k33.2.1) (du k33.2.2) fun g33=>?_
    refine Ao.q tk rfl (Ao.nil (V.blk (V.ab (Ao.q tk rfl (Ao.q tk rfl (Ao.nil ?_))))))
    obtain rfl := ai H
    refine V.ax x33 g33 ⟨hl2,hg2⟩ (Gh.le (SLe.aa (PLe.q rfl) (SLe.aa (PLe.q rfl) (SLe.aa (PLe.q rfl) (SLe.aa (PLe.q (az (by omega))) SLe.nil)))) BLe.nil (OLe.am rfl OLe.nil))
   ·have hn2 := rMd (bm h) hr2
    refine V.aB rfl ?_
    refine V.at s2 g2 hn2 (Gh.le (SLe.aa (PLe.q rfl) SLe.nil) BLe.nil (OLe.am rfl OLe.nil))
  ·have H := aW hn2 Hp2
   refine V.seq (V.ab (Ao.q tk rfl (Ao.q tk rfl (Ao.nil ?_))))
   obtain rfl := ai H
   refine V.retO tk rfl rfl rfl rfl rfl
def gq (y : List LVal) (c0 : List LVal) : Option (Bool) :=
 af (cj c0 y) fun x6 =>
 some x6
set_option maxHeartbeats 4000000 in
theorem W_query_less_1 (y : List LVal) (c0 : List LVal) (r : Bool) (H : gq y c0 = some r) :
  aG Tryz.prog 169 [(.list 53 (y.map ae)),(.ptr [(.list 53 (c0.map ae))])] (au r) := by
 unfold gq at H
 refine PH.intro Tryz.func169 rfl Tryz.ntmps169 rfl ?_
 refine V.seq (V.ab (Ao.q tk rfl (Ao.nil (V.seq (V.ab (Ao.q tk rfl (Ao.q tk rfl ?_)))))))
 obtain ⟨x6,h6,H⟩ := aj H
 have s6 := gv c0 y _ h6
 refine Ao.ah (g := 24) rfl rfl rfl Tryz.call24 (il.r) s6 rfl (Ao.q tk rfl (Ao.nil ?_))
 obtain rfl := ai H
 refine V.aq tk rfl (ps := [(au x6)]) ⟨_,_,rfl,rfl,rfl⟩ (PLe.q rfl)
end
end Go.Proofs.YtgaggbdcedpapaaGreat

namespace Go.Proofs.YtgaggbdcedpapaaGreat
noncomputable section
open Go Go.Ab
attribute [local irreducible] V Ao Do Gh Eff PH IntKind.wrap
set_option maxRecDepth 4000
def cv (sA : List (List LVal)) (del : (List LVal) → Option (Bool)) : Option (List (List LVal)) :=
 af (bi sA del) fun x10 =>
 af (dL (x10.2.length = sA.length) ()) fun (_ : Unit) =>
 cond (x10.1 == (-1))
  (some x10.2)
  (af (ef (σ := List (List LVal) × Int × Int) (ρ := Empty) (fun (s1 : List (List LVal) × Int × Int) =>
   cond (decide (s1.2.2 < (s1.1.length : Int)))
    (af (aC s1.1 s1.2.2) fun (x24 : List LVal) =>
    af (del x24) fun x28 =>
    cond (!x28)
     (af (aC s1.1 s1.2.1) fun (_ : List LVal) =>
     ba (s1.1.set s1.2.1.toNat x24) fun (y4 : List (List LVal)) =>
     some (.next (y4,(IntKind.i64.wrap (s1.2.1 + (1 : Int))),(IntKind.i64.wrap (s1.2.2 + (1 : Int))))))
     (some (.next (s1.1,s1.2.1,(IntKind.i64.wrap (s1.2.2 + (1 : Int)))))))
    (some (.brk (s1.1,s1.2.1,s1.2.2)))) (x10.2,x10.1,(IntKind.i64.wrap (x10.1 + (1 : Int))))) fun fl1=>fl1.thenP fun (s1 : List (List LVal) × Int × Int) =>
  af (cutI s1.1 s1.2.1) fun (y5 : List (List LVal)) =>
  af (cutI y5 s1.2.1) fun (y6 : List (List LVal)) =>
  some y6)
set_option maxHeartbeats 4000000 in
theorem iU (g_sA : OwnRef) {g_del : FuncId} {caps_del : List PV} (sA : List (List LVal)) (del : (List LVal) → Option (Bool)) (hg_del : ∀ (vs : Array Value) (w : World),(callFunc g_del vs).run Tryz.prog w = .ok (.enter g_del vs) w) (hp_del : ∀ a0 r,del a0 = some r → aG Tryz.prog g_del ((.list 53 (a0.map ae)) :: caps_del) (au r)) (r : List (List LVal)) (H : cv sA del = some r) :
  PH Tryz.prog 135 [(.own 0 g_sA (sA.map (ag 53 ae)).length),(.fn g_del caps_del)] ⟨fun _=>none,upd (fun _=>none) 0 (some ⟨g_sA,51,(sA.map (ag 53 ae)),true⟩)⟩ (fun u H=>u = .own 0 g_sA (r.map (ag 53 ae)).length ∧ H = ⟨fun _=>none,upd (fun _=>none) 0 (some ⟨g_sA,51,(r.map (ag 53 ae)),true⟩)⟩) := by
 unfold cv at H
 refine PH.intro Tryz.func135 rfl Tryz.ntmps135 rfl ?_
 refine V.seq (V.ab (Ao.q tk rfl (Ao.nil (V.seq (V.ab (Ao.q tk rfl (Ao.q tk rfl ?_)))))))
 obtain ⟨x10,h10,H⟩ := aj H
 have s10 := dY g_sA sA del hg_del hp_del _ h10
 obtain ⟨_,q10_0,H⟩ := aj H
 have l10_0 := (cF q10_0).1
 have z10_0 : (List.map (ag 53 ae) sA).length = (List.map (ag 53 ae) x10.2).length := by simpa using (l10_0).symm
 refine Ao.dr (g := 22) rfl rfl rfl Tryz.call22 [] [(0,0)] rfl rfl rfl rfl (il.of2 (fQ.cons (kW.own rfl) (fQ.cons (kW.of_eq rfl) fQ.nil))) (by rw [cN,cx,cO]; rfl) s10 ?_
 rintro u10 H10h ⟨rfl,rfl⟩
 refine ⟨_,rfl,?_⟩
 refine Ao.gh (st' := ⟨_,_,fun _=>none,upd (fun _=>none) 0 (some ⟨g_sA,51,(x10.2.map (ag 53 ae)),true⟩)⟩) (Gh.le (SLe.cq _ _) BLe.nil (OLe.am rfl OLe.nil)) ?_
 refine Ao.q tk rfl (Ao.nil (V.seq (V.seq (V.ab (Ao.q tk rfl (Ao.q tk rfl (Ao.nil ?_)))))))
 refine V.ak rfl (fun h=>?_) (fun h=>?_)
 ·have H := condT h H
  refine V.seq (V.ab (Ao.q tk rfl (Ao.q tk rfl (Ao.nil ?_))))
  obtain rfl := ai H
  refine V.gh (st' := ⟨42,upd (fun _=>.any) 4 (.own 0 g_sA (sA.map (ag 53 ae)).length),fun _=>none,upd (fun _=>none) 0 (some ⟨g_sA,51,(x10.2.map (ag 53 ae)),true⟩)⟩) (Gh.le (SLe.aa (PLe.q rfl) SLe.nil) BLe.nil (OLe.am rfl OLe.nil)) ?_
  refine V.retH tk rfl (ps := [(.own 0 g_sA (sA.map (ag 53 ae)).length)]) ⟨_,_,rfl,rfl,rfl⟩ (PLe.of2 (kW.own z10_0)) ⟨rfl,rfl⟩
 ·have H := condF h H
  refine V.al (V.seq (V.seq (V.ab (Ao.q tk rfl (Ao.q tk rfl (Ao.q tk rfl (Ao.nil ?_)))))))
  obtain ⟨fl1,H1,Hp1⟩ := aj H
  refine V.cut (τ := List (List LVal) × Int × Int) (γ := Unit) (fun s1 g1=>⟨42,upd (upd (fun _=>.any) 5 (ac s1.2.1)) 0 (.own 0 g_sA (s1.1.map (ag 53 ae)).length),fun _=>none,upd (fun _=>none) 0 (some ⟨g_sA,51,(s1.1.map (ag 53 ae)),true⟩)⟩) (fun t=>fl1 = .next t) ?_ (fun s1 g1 hn1=>?_)
  ·refine V.ap ?_
   refine V.fe (fun s1 g1=>⟨42,upd (upd (upd (upd (fun _=>.any) 6 (ac s1.2.2)) 5 (ac s1.2.1)) 1 (.fn g_del caps_del)) 0 (.own 0 g_sA (s1.1.map (ag 53 ae)).length),fun _=>none,upd (fun _=>none) 0 (some ⟨g_sA,51,(s1.1.map (ag 53 ae)),true⟩)⟩) () H1 (Gh.le (SLe.aa (PLe.of2 (kW.of_eq (congrArg (PV.own 0 g_sA) z10_0))) (SLe.aa (PLe.q rfl) (SLe.aa (PLe.q rfl) (SLe.aa (PLe.q rfl) SLe.nil)))) BLe.nil (OLe.am rfl OLe.nil)) (fun m1 s1 g1 hr1=>?_)
   obtain ⟨fb1,H,hg1⟩ := dV hr1
   refine V.seq (V.seq (V.ab (Ao.q tk rfl (Ao.q tk rfl (Ao.lenO tk rfl rfl rfl rfl rfl (List.length_map _) rfl (Ao.q tk rfl (Ao.nil ?_)))))))
   refine V.ak rfl (fun h=>?_) (fun h=>?_)
   ·have H := condT h H
    refine V.al (V.seq (V.ap (V.seq (V.ab (Ao.q tk rfl (Ao.q tk rfl ?_))))))
    obtain ⟨x24,h24,H⟩ := aj H
    have k24 := gIs h24
    refine Ao.ownF (tag := 0) rfl (fun ho0=>?_)
    refine Ao.idxO tk rfl rfl rfl rfl rfl rfl rfl ⟨k24.1,(cS k24.2)⟩ (cY ho0 k24.2) rfl ?_
    refine Ao.loadO tk rfl rfl rfl rfl rfl rfl rfl (aH (fun _=>rfl) k24.2) rfl rfl ?_
    refine Ao.q tk rfl (Ao.nil (V.seq (V.ab (Ao.q tk rfl (Ao.q tk rfl ?_)))))
    obtain ⟨x28,h28,H⟩ := aj H
    refine Ao.ah rfl rfl rfl hg_del (il.r) (hp_del _ _ h28) rfl (Ao.q tk rfl (Ao.nil ?_))
    refine V.ak rfl (fun h=>?_) (fun h=>?_)
    ·have H := condT h H
     refine V.seq (V.ab (Ao.q tk rfl (Ao.q tk rfl (Ao.q tk rfl ?_))))
     obtain ⟨x33,h33,H⟩ := aj H
     have k33 := gIs h33
     refine Ao.ownF (tag := 0) rfl (fun ho0=>?_)
     refine Ao.idxO tk rfl rfl rfl rfl rfl rfl rfl ⟨k33.1,(cS k33.2)⟩ (cY ho0 k33.2) rfl ?_
     obtain ⟨y4,hy4,H⟩ := bA H
     refine Ao.storeO tk rfl rfl rfl rfl rfl rfl rfl rfl (by rw [List.length_map]; exact (List.getElem?_eq_some_iff.1 k33.2).1) (PLe.refl _ _) rfl rfl rfl rfl (by decide) (eu (fun _=>rfl) k33.2 rfl hy4) ?_
     refine Ao.nil (V.ab (Ao.q tk rfl (Ao.q tk rfl (Ao.q tk rfl (Ao.nil (V.blk (V.ab (Ao.q tk rfl (Ao.q tk rfl (Ao.q tk rfl (Ao.nil ?_)))))))))))
     obtain rfl := ai H
     refine V.ax (y4,(IntKind.i64.wrap (s1.2.1 + (1 : Int))),(IntKind.i64.wrap (s1.2.2 + (1 : Int)))) () hg1 (Gh.le (SLe.aa (PLe.of2 (kW.of_eq (congrArg (PV.own 0 g_sA) (dR (f := (ag 53 ae)) hy4)))) (SLe.aa (PLe.q rfl) (SLe.aa (PLe.q rfl) (SLe.aa (PLe.q rfl) SLe.nil)))) BLe.nil (OLe.am rfl OLe.nil))
    ·have H := condF h H
     refine V.al (V.blk (V.ab (Ao.q tk rfl (Ao.q tk rfl (Ao.q tk rfl (Ao.nil ?_))))))
     obtain rfl := ai H
     refine V.ax (s1.1,s1.2.1,(IntKind.i64.wrap (s1.2.2 + (1 : Int)))) () hg1 (Gh.le (SLe.aa (PLe.q rfl) (SLe.aa (PLe.q rfl) (SLe.aa (PLe.q rfl) (SLe.aa (PLe.q rfl) SLe.nil)))) BLe.nil (OLe.am rfl OLe.nil))
   ·have H := condF h H
    refine V.aB rfl ?_
    obtain rfl := ai H
    refine V.at (s1.1,s1.2.1,s1.2.2) () hg1 (Gh.le (SLe.aa (PLe.q rfl) (SLe.aa (PLe.q rfl) SLe.nil)) BLe.nil (OLe.am rfl OLe.nil))
  ·have H := aW hn1 Hp1
   refine V.seq (V.ab (Ao.q tk rfl (Ao.q tk rfl ?_)))
   obtain ⟨y5,hy5,H⟩ := aj H
   have ky5 := cutI_some hy5
   refine Ao.ownC (tag := 0) rfl (fun hcy5=>?_)
   have hny5 : (s1.1.map (ag 53 ae)).length = (List.map (ag 53 ae) s1.1).length := rfl
   have hmy5 := ky5.2.1
   rw [← List.length_map (f := (ag 53 ae)),← hny5] at hmy5
   rw [← hny5] at hcy5
   refine Ao.subV (l := s1.2.1.toNat) (h := (s1.1.map (ag 53 ae)).length) (m := g_sA.cap) tk rfl rfl rfl rfl rfl rfl ⟨_,_,rfl,(Int.toNat_of_nonneg ky5.1).symm⟩ rfl rfl (by decide) hmy5 hcy5 (Nat.le_refl _) rfl (Ao.gh (Gh.cutO (tag := 0) (rows' := List.map (ag 53 ae) y5) rfl s1.2.1.toNat (by rw [← List.map_take,ky5.2.2])) ?_)
   refine Ao.clearB (tag := 0) (rows := List.map (ag 53 ae) y5) tk rfl rfl rfl rfl rfl rfl rfl rfl rfl (p := s1.2.1.toNat) (q := (s1.1.map (ag 53 ae)).length) (m := g_sA.cap) (by rw [List.length_map,ky5.2.2,List.length_take]; exact Nat.min_le_left _ _) hmy5 hcy5 (Nat.le_refl _) rfl ?_
   refine Ao.nil (V.seq (V.ab (Ao.q tk rfl (Ao.q tk rfl ?_))))
   obtain ⟨y6,hy6,H⟩ := aj H
   have ky6 := cutI_some hy6
   refine Ao.cutP (rows' := List.map (ag 53 ae) y6) tk rfl rfl rfl rfl rfl rfl rfl rfl ⟨ky6.1,by rw [List.length_map]; exact ky6.2.1⟩ (by rw [← List.map_take,ky6.2.2]) rfl rfl ?_
   refine Ao.q tk rfl (Ao.nil ?_)
   obtain rfl := ai H
   refine V.gh (st' := ⟨42,upd (fun _=>.any) 4 (.own 0 g_sA (y6.map (ag 53 ae)).length),fun _=>none,upd (fun _=>none) 0 (some ⟨g_sA,51,(y6.map (ag 53 ae)),true⟩)⟩) (Gh.le (SLe.aa (PLe.q rfl) SLe.nil) BLe.nil (OLe.am rfl OLe.nil)) ?_
   refine V.retH tk rfl (ps := [(.own 0 g_sA (y6.map (ag 53 ae)).length)]) ⟨_,_,rfl,rfl,rfl⟩ (PLe.of2 (kW.own rfl)) ⟨rfl,rfl⟩
def eH (y : List LVal) (c0 : List LVal) : Option (Bool) :=
 af (cj c0 y) fun x6 =>
 some x6
set_option maxHeartbeats 4000000 in
theorem nF (y : List LVal) (c0 : List LVal) (r : Bool) (H : eH y c0 = some r) :
  aG Tryz.prog 172 [(.list 53 (y.map ae)),(.ptr [(.list 53 (c0.map ae))])] (au r) := by
 unfold eH at H
 refine PH.intro Tryz.func172 rfl Tryz.ntmps172 rfl ?_
 refine V.seq (V.ab (Ao.q tk rfl (Ao.nil (V.seq (V.ab (Ao.q tk rfl (Ao.q tk rfl ?_)))))))
 obtain ⟨x6,h6,H⟩ := aj H
 have s6 := gv c0 y _ h6
 refine Ao.ah (g := 24) rfl rfl rfl Tryz.call24 (il.r) s6 rfl (Ao.q tk rfl (Ao.nil ?_))
 obtain rfl := ai H
 refine V.aq tk rfl (ps := [(au x6)]) ⟨_,_,rfl,rfl,rfl⟩ (PLe.q rfl)
def er (op : List UInt8) (l : List LVal) : Option (LVal) :=
 cond (op == ([99,111,117,110,116] : List UInt8))
  (ba (bU (l.length : Int)) fun x13 =>
  some x13)
  (cond ((l.length : Int) == (0 : Int))
   (some (LVal.mk 0 0 []))
   (af (aC l 0) fun (x19 : LVal) =>
   af (aE (σ := Int × LVal) (ρ := Empty) (fun (_ : Nat) (x1 : LVal) (s1 : Int × LVal) =>
    cond (op == ([109,105,110] : List UInt8))
     (ba (jq x1 s1.2) fun x36 =>
     cond x36
      (some (.next ((IntKind.i64.wrap (s1.1 + x1.int)),x1)))
      (cond (op == ([109,97,120] : List UInt8))
       (ba (jq s1.2 x1) fun x44 =>
       cond x44
        (some (.next ((IntKind.i64.wrap (s1.1 + x1.int)),x1)))
        (some (.next ((IntKind.i64.wrap (s1.1 + x1.int)),s1.2))))
       (some (.next ((IntKind.i64.wrap (s1.1 + x1.int)),s1.2)))))
     (cond (op == ([109,97,120] : List UInt8))
      (ba (jq s1.2 x1) fun x44 =>
      cond x44
       (some (.next ((IntKind.i64.wrap (s1.1 + x1.int)),x1)))
       (some (.next ((IntKind.i64.wrap (s1.1 + x1.int)),s1.2))))
      (some (.next ((IntKind.i64.wrap (s1.1 + x1.int)),s1.2))))) 0 l (0,x19)) fun fl1=>fl1.thenP fun (s1 : Int × LVal) =>
   cond (op == ([115,117,109] : List UInt8))
    (ba (bU s1.1) fun x52 =>
    some x52)
    (some s1.2)))
set_option maxHeartbeats 4000000 in
theorem lV (op : List UInt8) (l : List LVal) (r : LVal) (H : er op l = some r) :
  aG Tryz.prog 193 [(.str op),(.list 53 (l.map ae))] (.agg (ae r)) := by
 unfold er at H
 refine PH.intro Tryz.func193 rfl Tryz.ntmps193 rfl ?_
 refine V.seq (V.ab ?_)
 refine Ao.aJ tk rfl rfl rfl rfl rfl rfl fun b4=>?_
 refine Ao.nil (V.seq (V.seq (V.ab (Ao.q tk rfl (Ao.q tk rfl (Ao.nil ?_))))))
 refine V.ak rfl (fun h=>?_) (fun h=>?_)
 ·have H := condT h H
  refine V.seq (V.ab (Ao.q tk rfl (Ao.ay tk rfl rfl rfl rfl rfl (List.length_map _) rfl ?_)))
  obtain ⟨x13,h13,H⟩ := bA H
  have s13 := mS (l.length : Int)
  rw [h13] at s13
  refine Ao.ah (g := 192) rfl rfl rfl Tryz.call192 (il.r) s13 rfl (Ao.sB tk rfl rfl rfl rfl rfl rfl rfl rfl rfl rfl rfl (Ao.nil ?_))
  obtain rfl := ai H
  refine V.aq tk rfl (ps := [(.agg [(ac x13.kind),(ac x13.int),(.str x13.text)])]) ⟨_,_,rfl,⟨_,_,_,_,_,rfl,rfl,rfl,rfl⟩,rfl⟩ (PLe.q rfl)
 ·have H := condF h H
  refine V.al (V.seq (V.seq (V.ab (Ao.q tk rfl (Ao.ay tk rfl rfl rfl rfl rfl (List.length_map _) rfl (Ao.q tk rfl (Ao.nil ?_)))))))
  refine V.ak rfl (fun h=>?_) (fun h=>?_)
  ·have H := condT h H
   refine V.seq (V.ab (Ao.q tk rfl (Ao.sB tk rfl rfl rfl rfl rfl rfl rfl rfl rfl rfl rfl (Ao.nil ?_))))
   obtain rfl := ai H
   refine V.aq tk rfl (ps := [(.agg [(ac 0),(ac 0),(.str [])])]) ⟨_,_,rfl,⟨_,_,_,_,_,rfl,rfl,rfl,rfl⟩,rfl⟩ (PLe.q rfl)
  ·have H := condF h H
   refine V.al (V.seq (V.ab (Ao.q tk rfl ?_)))
   obtain ⟨x19,h19,H⟩ := aj H
   have k19 := gIs h19
   refine Ao.idx tk rfl rfl rfl rfl rfl rfl k19.1 (aH (fun _=>rfl) k19.2) rfl ?_
   refine Ao.q tk rfl ?_
   refine Ao.aJ tk rfl rfl rfl rfl rfl rfl fun b5=>?_
   refine Ao.sB tk rfl rfl rfl rfl rfl rfl rfl rfl rfl rfl rfl (Ao.nil (V.seq (V.ab (Ao.q tk rfl (Ao.nil (V.seq (V.seq (V.ab (Ao.q tk rfl (Ao.ay tk rfl rfl rfl rfl rfl (List.length_map _) rfl (Ao.q tk rfl (Ao.nil ?_))))))))))))
   obtain ⟨fl1,H1,Hp1⟩ := aj H
   refine V.aZ tk 21 rfl rfl (fun hz1 _=>?_)
   rw [List.length_map] at hz1
   refine V.cut (τ := Int × LVal) (γ := Unit) (fun s1 g1=>⟨54,upd (upd (upd (upd (fun _=>.any) 6 (ac s1.1)) 5 (.box 5 b5 0)) 4 (.box 4 b4 0)) 0 (.str op),upd (upd (fun _=>none) 5 (some ⟨b5,[(ac s1.2.kind),(ac s1.2.int),(.str s1.2.text)]⟩)) 4 (some ⟨b4,[(ac 0),(ac 0),(.str [])]⟩),fun _=>none⟩) (fun t=>fl1 = .next t) ?_ (fun s1 g1 hn1=>?_)
   ·refine V.ap ?_
    refine V.aP (fun j1 s1 g1=>⟨54,upd (upd (upd (upd (upd (upd (upd (fun _=>.any) 23 (ac (j1 : Int))) 22 (ac (l.length : Int))) 21 (.list 53 (l.map ae))) 6 (ac s1.1)) 5 (.box 5 b5 0)) 4 (.box 4 b4 0)) 0 (.str op),upd (upd (fun _=>none) 5 (some ⟨b5,[(ac s1.2.kind),(ac s1.2.int),(.str s1.2.text)]⟩)) 4 (some ⟨b4,[(ac 0),(ac 0),(.str [])]⟩),fun _=>none⟩) () H1 (Gh.le (SLe.aa (PLe.q rfl) (SLe.aa (PLe.q rfl) (SLe.aa (PLe.q rfl) (SLe.aa (PLe.q rfl) (SLe.aa (PLe.q rfl) (SLe.aa (PLe.q rfl) (SLe.aa (PLe.q rfl) SLe.nil))))))) (BLe.ao rfl (il.r) (BLe.ao rfl (il.r) BLe.nil)) OLe.nil) (fun j1 s1 g1 hj1 hr1=>?_)
    refine V.seq (V.ab (Ao.q tk rfl (Ao.nil (V.seq ?_))))
    refine V.ak rfl (fun h=>?_) (fun h=>?_)
    ·have hl1 := bn h
     obtain ⟨x1,fb1,hx1,H,hg1⟩ := rMc hl1 hr1
     refine V.al (V.seq (V.ap (V.seq (V.ab ?_))))
     refine Ao.idx tk rfl rfl rfl rfl rfl rfl (Int.natCast_nonneg j1) (aY (fun _=>rfl) hx1) rfl ?_
     refine Ao.q tk rfl ?_
     refine Ao.aJ tk rfl rfl rfl rfl rfl rfl fun b8=>?_
     refine Ao.sB tk rfl rfl rfl rfl rfl rfl rfl rfl rfl rfl rfl (Ao.nil (V.seq (V.ab (Ao.q tk rfl (Ao.q tk rfl (Ao.lB tk rfl rfl rfl rfl rfl rfl rfl (Ao.q tk rfl (Ao.q tk rfl (Ao.nil (V.seq (V.ab (Ao.q tk rfl (Ao.q tk rfl (Ao.q tk rfl ?_))))))))))))))
     refine Ao.aA rfl rfl rfl (fun h=>?_) (fun h=>?_)
     ·have H := condT h H
      refine Ao.lB tk rfl rfl rfl rfl rfl rfl rfl (Ao.lB tk rfl rfl rfl rfl rfl rfl rfl ?_)
      obtain ⟨x36,h36,H⟩ := bA H
      have s36 := jP x1 s1.2
      rw [h36] at s36
      refine Ao.ah (g := 45) rfl rfl rfl Tryz.call45 (il.r) s36 rfl (Ao.q tk rfl (Ao.q tk rfl ?_))
      refine Ao.aA rfl rfl rfl (fun h=>?_) (fun h=>?_)
      ·have H := condT h H
       refine Ao.q tk rfl (Ao.q tk rfl (Ao.q tk rfl (Ao.q tk rfl (Ao.q tk rfl (Ao.q tk rfl (Ao.q tk rfl (Ao.q tk rfl (Ao.nil (V.bu rfl (V.ab (Ao.lB tk rfl rfl rfl rfl rfl rfl rfl (Ao.sB tk rfl rfl rfl rfl rfl rfl rfl rfl rfl rfl rfl (Ao.nil (V.blk ?_))))))))))))))
       refine V.ab (Ao.q tk rfl (Ao.q tk rfl (Ao.nil ?_)))
       obtain rfl := ai H
       refine V.ax ((IntKind.i64.wrap (s1.1 + x1.int)),x1) () ⟨hl1,hg1⟩ (Gh.le (SLe.aa (PLe.q rfl) (SLe.aa (PLe.q rfl) (SLe.aa (PLe.q rfl) (SLe.aa (PLe.q rfl) (SLe.aa (PLe.q rfl) (SLe.aa (PLe.q rfl) (SLe.aa (PLe.q (az (by omega))) SLe.nil))))))) (BLe.ao rfl (il.r) (BLe.ao rfl (il.r) BLe.nil)) OLe.nil)
      ·have H := condF h H
       refine Ao.q tk rfl (Ao.q tk rfl (Ao.q tk rfl ?_))
       refine Ao.aA rfl rfl rfl (fun h=>?_) (fun h=>?_)
       ·have H := condT h H
        refine Ao.lB tk rfl rfl rfl rfl rfl rfl rfl (Ao.lB tk rfl rfl rfl rfl rfl rfl rfl ?_)
        obtain ⟨x44,h44,H⟩ := bA H
        have s44 := jP s1.2 x1
        rw [h44] at s44
        refine Ao.ah (g := 45) rfl rfl rfl Tryz.call45 (il.r) s44 rfl (Ao.q tk rfl (Ao.q tk rfl (Ao.nil ?_)))
        refine V.ak rfl (fun h=>?_) (fun h=>?_)
        ·have H := condT h H
         refine V.ab (Ao.lB tk rfl rfl rfl rfl rfl rfl rfl (Ao.sB tk rfl rfl rfl rfl rfl rfl rfl rfl rfl rfl rfl (Ao.nil (V.blk (V.ab (Ao.q tk rfl (Ao.q tk rfl (Ao.nil ?_))))))))
         obtain rfl := ai H
         refine V.ax ((IntKind.i64.wrap (s1.1 + x1.int)),x1) () ⟨hl1,hg1⟩ (Gh.le (SLe.aa (PLe.q rfl) (SLe.aa (PLe.q rfl) (SLe.aa (PLe.q rfl) (SLe.aa (PLe.q rfl) (SLe.aa (PLe.q rfl) (SLe.aa (PLe.q rfl) (SLe.aa (PLe.q (az (by omega))) SLe.nil))))))) (BLe.ao rfl (il.r) (BLe.ao rfl (il.r) BLe.nil)) OLe.nil)
        ·have H := condF h H
         refine V.al (V.blk (V.ab (Ao.q tk rfl (Ao.q tk rfl (Ao.nil ?_)))))
         obtain rfl := ai H
         refine V.ax ((IntKind.i64.wrap (s1.1 + x1.int)),s1.2) () ⟨hl1,hg1⟩ (Gh.le (SLe.aa (PLe.q rfl) (SLe.aa (PLe.q rfl) (SLe.aa (PLe.q rfl) (SLe.aa (PLe.q rfl) (SLe.aa (PLe.q rfl) (SLe.aa (PLe.q rfl) (SLe.aa (PLe.q (az (by omega))) SLe.nil))))))) (BLe.ao rfl (il.r) (BLe.ao rfl (il.r) BLe.nil)) OLe.nil)
       ·have H := condF h H
        refine Ao.q tk rfl (Ao.q tk rfl (Ao.q tk rfl (Ao.q tk rfl (Ao.q tk rfl (Ao.nil (V.be rfl (V.al (V.blk (V.ab (Ao.q tk rfl (Ao.q tk rfl (Ao.nil ?_))))))))))))
        obtain rfl := ai H
        refine V.ax ((IntKind.i64.wrap (s1.1 + x1.int)),s1.2) () ⟨hl1,hg1⟩ (Gh.le (SLe.aa (PLe.q rfl) (SLe.aa (PLe.q rfl) (SLe.aa (PLe.q rfl) (SLe.aa (PLe.q rfl) (SLe.aa (PLe.q rfl) (SLe.aa (PLe.q rfl) (SLe.aa (PLe.q (az (by omega))) SLe.nil))))))) (BLe.ao rfl (il.r) (BLe.ao rfl (il.r) BLe.nil)) OLe.nil)
     ·have H := condF h H
      refine Ao.q tk rfl (Ao.q tk rfl (Ao.q tk rfl (Ao.q tk rfl (Ao.q tk rfl (Ao.q tk rfl (Ao.q tk rfl (Ao.q tk rfl ?_)))))))
      refine Ao.aA rfl rfl rfl (fun h=>?_) (fun h=>?_)
      ·have H := condT h H
       refine Ao.lB tk rfl rfl rfl rfl rfl rfl rfl (Ao.lB tk rfl rfl rfl rfl rfl rfl rfl ?_)
       obtain ⟨x44,h44,H⟩ := bA H
       have s44 := jP s1.2 x1
       rw [h44] at s44
       refine Ao.ah (g := 45) rfl rfl rfl Tryz.call45 (il.r) s44 rfl (Ao.q tk rfl (Ao.q tk rfl (Ao.nil ?_)))
       refine V.ak rfl (fun h=>?_) (fun h=>?_)
       ·have H := condT h H
        refine V.ab (Ao.lB tk rfl rfl rfl rfl rfl rfl rfl (Ao.sB tk rfl rfl rfl rfl rfl rfl rfl rfl rfl rfl rfl (Ao.nil (V.blk (V.ab (Ao.q tk rfl (Ao.q tk rfl (Ao.nil ?_))))))))
        obtain rfl := ai H
        refine V.ax ((IntKind.i64.wrap (s1.1 + x1.int)),x1) () ⟨hl1,hg1⟩ (Gh.le (SLe.aa (PLe.q rfl) (SLe.aa (PLe.q rfl) (SLe.aa (PLe.q rfl) (SLe.aa (PLe.q rfl) (SLe.aa (PLe.q rfl) (SLe.aa (PLe.q rfl) (SLe.aa (PLe.q (az (by omega))) SLe.nil))))))) (BLe.ao rfl (il.r) (BLe.ao rfl (il.r) BLe.nil)) OLe.nil)
       ·have H := condF h H
        refine V.al (V.blk (V.ab (Ao.q tk rfl (Ao.q tk rfl (Ao.nil ?_)))))
        obtain rfl := ai H
        refine V.ax ((IntKind.i64.wrap (s1.1 + x1.int)),s1.2) () ⟨hl1,hg1⟩ (Gh.le (SLe.aa (PLe.q rfl) (SLe.aa (PLe.q rfl) (SLe.aa (PLe.q rfl) (SLe.aa (PLe.q rfl) (SLe.aa (PLe.q rfl) (SLe.aa (PLe.q rfl) (SLe.aa (PLe.q (az (by omega))) SLe.nil))))))) (BLe.ao rfl (il.r) (BLe.ao rfl (il.r) BLe.nil)) OLe.nil)
      ·have H := condF h H
       refine Ao.q tk rfl (Ao.q tk rfl (Ao.q tk rfl (Ao.q tk rfl (Ao.q tk rfl (Ao.nil (V.be rfl (V.al (V.blk (V.ab (Ao.q tk rfl (Ao.q tk rfl (Ao.nil ?_))))))))))))
       obtain rfl := ai H
       refine V.ax ((IntKind.i64.wrap (s1.1 + x1.int)),s1.2) () ⟨hl1,hg1⟩ (Gh.le (SLe.aa (PLe.q rfl) (SLe.aa (PLe.q rfl) (SLe.aa (PLe.q rfl) (SLe.aa (PLe.q rfl) (SLe.aa (PLe.q rfl) (SLe.aa (PLe.q rfl) (SLe.aa (PLe.q (az (by omega))) SLe.nil))))))) (BLe.ao rfl (il.r) (BLe.ao rfl (il.r) BLe.nil)) OLe.nil)
    ·have hn1 := rMd (bm h) hr1
     refine V.aB rfl ?_
     refine V.at s1 g1 hn1 (Gh.le (SLe.aa (PLe.q rfl) (SLe.aa (PLe.q rfl) (SLe.aa (PLe.q rfl) (SLe.aa (PLe.q rfl) SLe.nil)))) (BLe.ao rfl (il.r) (BLe.ao rfl (il.r) BLe.nil)) OLe.nil)
   ·have H := aW hn1 Hp1
    refine V.seq (V.seq (V.ab (Ao.q tk rfl (Ao.q tk rfl (Ao.nil ?_)))))
    refine V.ak rfl (fun h=>?_) (fun h=>?_)
    ·have H := condT h H
     refine V.seq (V.ab (Ao.q tk rfl ?_))
     obtain ⟨x52,h52,H⟩ := bA H
     have s52 := mS s1.1
     rw [h52] at s52
     refine Ao.ah (g := 192) rfl rfl rfl Tryz.call192 (il.r) s52 rfl (Ao.sB tk rfl rfl rfl rfl rfl rfl rfl rfl rfl rfl rfl (Ao.nil ?_))
     obtain rfl := ai H
     refine V.aq tk rfl (ps := [(.agg [(ac x52.kind),(ac x52.int),(.str x52.text)])]) ⟨_,_,rfl,⟨_,_,_,_,_,rfl,rfl,rfl,rfl⟩,rfl⟩ (PLe.q rfl)
    ·have H := condF h H
     refine V.al (V.seq (V.ab (Ao.lB tk rfl rfl rfl rfl rfl rfl rfl (Ao.sB tk rfl rfl rfl rfl rfl rfl rfl rfl rfl rfl rfl (Ao.nil ?_)))))
     obtain rfl := ai H
     refine V.aq tk rfl (ps := [(.agg [(ac s1.2.kind),(ac s1.2.int),(.str s1.2.text)])]) ⟨_,_,rfl,⟨_,_,_,_,_,rfl,rfl,rfl,rfl⟩,rfl⟩ (PLe.q rfl)
def cz (data : List (List LVal)) (a : Int) (m : Int) (b : Int) (cmp : (List LVal) → (List LVal) → Option (Int)) : Option ((List (List LVal))) :=
 af (ef (σ := List (List LVal) × Int × Int) (ρ := Empty) (fun (s1 : List (List LVal) × Int × Int) =>
  cond (s1.2.1 != s1.2.2)
   (cond (decide (s1.2.1 > s1.2.2))
    (af (bK s1.1 (IntKind.i64.wrap (m - s1.2.1)) m s1.2.2 cmp) fun x31 =>
    af (dL (x31.length = s1.1.length) ()) fun (_ : Unit) =>
    some (.next (x31,(IntKind.i64.wrap (s1.2.1 - s1.2.2)),s1.2.2)))
    (af (bK s1.1 (IntKind.i64.wrap (m - s1.2.1)) (IntKind.i64.wrap ((IntKind.i64.wrap (m + s1.2.2)) - s1.2.1)) s1.2.1 cmp) fun x46 =>
    af (dL (x46.length = s1.1.length) ()) fun (_ : Unit) =>
    some (.next (x46,s1.2.1,(IntKind.i64.wrap (s1.2.2 - s1.2.1))))))
   (some (.brk (s1.1,s1.2.1,s1.2.2)))) (data,(IntKind.i64.wrap (m - a)),(IntKind.i64.wrap (b - m)))) fun fl1=>fl1.thenP fun (s1 : List (List LVal) × Int × Int) =>
 af (bK s1.1 (IntKind.i64.wrap (m - s1.2.1)) m s1.2.1 cmp) fun x57 =>
 af (dL (x57.length = s1.1.length) ()) fun (_ : Unit) =>
 some x57
set_option maxHeartbeats 4000000 in
theorem jR (g_data : OwnRef) {g_cmp : FuncId} {caps_cmp : List PV} (data : List (List LVal)) (a : Int) (m : Int) (b : Int) (cmp : (List LVal) → (List LVal) → Option (Int)) (hg_cmp : ∀ (vs : Array Value) (w : World),(callFunc g_cmp vs).run Tryz.prog w = .ok (.enter g_cmp vs) w) (hp_cmp : ∀ a0 a1 r,cmp a0 a1 = some r → aG Tryz.prog g_cmp ((.list 53 (a0.map ae)) :: (.list 53 (a1.map ae)) :: caps_cmp) (ac r)) (r : (List (List LVal))) (H : cz data a m b cmp = some r) :
  PH Tryz.prog 211 [(.own 0 g_data (data.map (ag 53 ae)).length),(ac a),(ac m),(ac b),(.fn g_cmp caps_cmp)] ⟨fun _=>none,upd (fun _=>none) 0 (some ⟨g_data,51,(data.map (ag 53 ae)),true⟩)⟩ (fun u H=>u = (.tup []) ∧ H = ⟨fun _=>none,upd (fun _=>none) 0 (some ⟨g_data,51,(r.map (ag 53 ae)),true⟩)⟩) := by
 unfold cz at H
 refine PH.intro Tryz.func211 rfl Tryz.ntmps211 rfl ?_
 refine V.seq (V.ab (Ao.q tk rfl (Ao.q tk rfl (Ao.q tk rfl (Ao.q tk rfl (Ao.nil (V.seq (V.ab (Ao.q tk rfl (Ao.q tk rfl (Ao.q tk rfl (Ao.q tk rfl (Ao.nil (V.seq ?_))))))))))))))
 obtain ⟨fl1,H1,Hp1⟩ := aj H
 refine V.cut (τ := List (List LVal) × Int × Int) (γ := Unit) (fun s1 g1=>⟨58,upd (upd (upd (upd (fun _=>.any) 10 (ac s1.2.1)) 4 (.fn g_cmp caps_cmp)) 2 (ac m)) 0 (.own 0 g_data (s1.1.map (ag 53 ae)).length),fun _=>none,upd (fun _=>none) 0 (some ⟨g_data,51,(s1.1.map (ag 53 ae)),true⟩)⟩) (fun t=>fl1 = .next t) ?_ (fun s1 g1 hn1=>?_)
 ·refine V.ap ?_
  refine V.fe (fun s1 g1=>⟨58,upd (upd (upd (upd (upd (fun _=>.any) 11 (ac s1.2.2)) 10 (ac s1.2.1)) 4 (.fn g_cmp caps_cmp)) 2 (ac m)) 0 (.own 0 g_data (s1.1.map (ag 53 ae)).length),fun _=>none,upd (fun _=>none) 0 (some ⟨g_data,51,(s1.1.map (ag 53 ae)),true⟩)⟩) () H1 (Gh.le (SLe.aa (PLe.q rfl) (SLe.aa (PLe.q rfl) (SLe.aa (PLe.q rfl) (SLe.aa (PLe.q rfl) (SLe.aa (PLe.q rfl) SLe.nil))))) BLe.nil (OLe.am rfl OLe.nil)) (fun m1 s1 g1 hr1=>?_)
  obtain ⟨fb1,H,hg1⟩ := dV hr1
  refine V.seq (V.seq (V.ab (Ao.q tk rfl (Ao.q tk rfl (Ao.q tk rfl (Ao.nil ?_))))))
  refine V.ak rfl (fun h=>?_) (fun h=>?_)
  ·have H := condT h H
   refine V.al (V.ap (V.seq (V.ab (Ao.q tk rfl (Ao.q tk rfl (Ao.q tk rfl (Ao.nil ?_)))))))
   refine V.ak rfl (fun h=>?_) (fun h=>?_)
   ·have H := condT h H
    refine V.seq (V.ab (Ao.q tk rfl (Ao.q tk rfl (Ao.q tk rfl (Ao.q tk rfl (Ao.q tk rfl (Ao.q tk rfl (Ao.q tk rfl ?_))))))))
    obtain ⟨x31,h31,H⟩ := aj H
    have s31 := eL g_data s1.1 (IntKind.i64.wrap (m - s1.2.1)) m s1.2.2 cmp hg_cmp hp_cmp _ h31
    obtain ⟨_,q31_0,H⟩ := aj H
    have l31_0 := (cF q31_0).1
    have z31_0 : (List.map (ag 53 ae) s1.1).length = (List.map (ag 53 ae) x31).length := by simpa using (l31_0).symm
    refine Ao.dr (g := 213) rfl rfl rfl Tryz.call213 [] [(0,0)] rfl rfl rfl rfl (il.of2 (fQ.cons (kW.own rfl) (fQ.cons (kW.of_eq rfl) (fQ.cons (kW.of_eq rfl) (fQ.cons (kW.of_eq rfl) (fQ.cons (kW.of_eq rfl) fQ.nil)))))) (by rw [cN,cx,cO]; rfl) s31 ?_
    rintro u31 H31h ⟨rfl,rfl⟩
    refine ⟨_,rfl,?_⟩
    refine Ao.gh (st' := ⟨_,_,fun _=>none,upd (fun _=>none) 0 (some ⟨g_data,51,(x31.map (ag 53 ae)),true⟩)⟩) (Gh.le (SLe.cq _ _) BLe.nil (OLe.am rfl OLe.nil)) ?_
    refine Ao.nil (V.ab (Ao.q tk rfl (Ao.q tk rfl (Ao.q tk rfl (Ao.q tk rfl (Ao.nil (V.blk ?_)))))))
    obtain rfl := ai H
    refine V.ax (x31,(IntKind.i64.wrap (s1.2.1 - s1.2.2)),s1.2.2) () hg1 (Gh.le (SLe.aa (PLe.of2 (kW.of_eq (congrArg (PV.own 0 g_data) z31_0))) (SLe.aa (PLe.q rfl) (SLe.aa (PLe.q rfl) (SLe.aa (PLe.q rfl) (SLe.aa (PLe.q rfl) SLe.nil))))) BLe.nil (OLe.am rfl OLe.nil))
   ·have H := condF h H
    refine V.seq (V.ab (Ao.q tk rfl (Ao.q tk rfl (Ao.q tk rfl (Ao.q tk rfl (Ao.q tk rfl (Ao.q tk rfl (Ao.q tk rfl (Ao.q tk rfl (Ao.q tk rfl (Ao.q tk rfl (Ao.q tk rfl ?_))))))))))))
    obtain ⟨x46,h46,H⟩ := aj H
    have s46 := eL g_data s1.1 (IntKind.i64.wrap (m - s1.2.1)) (IntKind.i64.wrap ((IntKind.i64.wrap (m + s1.2.2)) - s1.2.1)) s1.2.1 cmp hg_cmp hp_cmp _ h46
    obtain ⟨_,q46_0,H⟩ := aj H
    have l46_0 := (cF q46_0).1
    have z46_0 : (List.map (ag 53 ae) s1.1).length = (List.map (ag 53 ae) x46).length := by simpa using (l46_0).symm
    refine Ao.dr (g := 213) rfl rfl rfl Tryz.call213 [] [(0,0)] rfl rfl rfl rfl (il.of2 (fQ.cons (kW.own rfl) (fQ.cons (kW.of_eq rfl) (fQ.cons (kW.of_eq rfl) (fQ.cons (kW.of_eq rfl) (fQ.cons (kW.of_eq rfl) fQ.nil)))))) (by rw [cN,cx,cO]; rfl) s46 ?_
    rintro u46 H46h ⟨rfl,rfl⟩
    refine ⟨_,rfl,?_⟩
    refine Ao.gh (st' := ⟨_,_,fun _=>none,upd (fun _=>none) 0 (some ⟨g_data,51,(x46.map (ag 53 ae)),true⟩)⟩) (Gh.le (SLe.cq _ _) BLe.nil (OLe.am rfl OLe.nil)) ?_
    refine Ao.nil (V.ab (Ao.q tk rfl (Ao.q tk rfl (Ao.q tk rfl (Ao.q tk rfl (Ao.nil (V.blk ?_)))))))
    obtain rfl := ai H
    refine V.ax (x46,s1.2.1,(IntKind.i64.wrap (s1.2.2 - s1.2.1))) () hg1 (Gh.le (SLe.aa (PLe.of2 (kW.of_eq (congrArg (PV.own 0 g_data) z46_0))) (SLe.aa (PLe.q rfl) (SLe.aa (PLe.q rfl) (SLe.aa (PLe.q rfl) (SLe.aa (PLe.q rfl) SLe.nil))))) BLe.nil (OLe.am rfl OLe.nil))
  ·have H := condF h H
   refine V.aB rfl ?_
   obtain rfl := ai H
   refine V.at (s1.1,s1.2.1,s1.2.2) () hg1 (Gh.le (SLe.aa (PLe.q rfl) (SLe.aa (PLe.q rfl) (SLe.aa (PLe.q rfl) (SLe.aa (PLe.q rfl) SLe.nil)))) BLe.nil (OLe.am rfl OLe.nil))
 ·have H := aW hn1 Hp1
  refine V.ab (Ao.q tk rfl (Ao.q tk rfl (Ao.q tk rfl (Ao.q tk rfl (Ao.q tk rfl (Ao.q tk rfl (Ao.q tk rfl ?_)))))))
  obtain ⟨x57,h57,H⟩ := aj H
  have s57 := eL g_data s1.1 (IntKind.i64.wrap (m - s1.2.1)) m s1.2.1 cmp hg_cmp hp_cmp _ h57
  obtain ⟨_,q57_0,H⟩ := aj H
  have l57_0 := (cF q57_0).1
  have z57_0 : (List.map (ag 53 ae) s1.1).length = (List.map (ag 53 ae) x57).length := by simpa using (l57_0).symm
  refine Ao.dr (g := 213) rfl rfl rfl Tryz.call213 [] [(0,0)] rfl rfl rfl rfl (il.of2 (fQ.cons (kW.own rfl) (fQ.cons (kW.of_eq rfl) (fQ.cons (kW.of_eq rfl) (fQ.cons (kW.of_eq rfl) (fQ.cons (kW.of_eq rfl) fQ.nil)))))) (by rw [cN,cx,cO]; rfl) s57 ?_
  rintro u57 H57h ⟨rfl,rfl⟩
  refine ⟨_,rfl,?_⟩
  refine Ao.gh (st' := ⟨_,_,fun _=>none,upd (fun _=>none) 0 (some ⟨g_data,51,(x57.map (ag 53 ae)),true⟩)⟩) (Gh.le (SLe.cq _ _) BLe.nil (OLe.am rfl OLe.nil)) ?_
  refine Ao.nil ?_
  obtain rfl := ai H
  refine V.gh (st' := ⟨58,fun _=>.any,fun _=>none,upd (fun _=>none) 0 (some ⟨g_data,51,(x57.map (ag 53 ae)),true⟩)⟩) (Gh.le SLe.nil BLe.nil (OLe.am rfl OLe.nil)) ?_
  refine V.endH rfl (PLe.q rfl) ⟨rfl,rfl⟩
def eG (t : LTable) (name : List UInt8) : Option (Int × Bool) :=
 af (bQ t.columns (fun a0=>some (cM a0 name))) fun x10 =>
 some ((if (0 : Int) > x10 then (0 : Int) else x10),(decide (x10 ≥ (0 : Int))))
set_option maxHeartbeats 4000000 in
theorem nC (t : LTable) (name : List UInt8) (r : Int × Bool) (H : eG t name = some r) :
  aG Tryz.prog 144 [(.agg (aO t)),(.str name)] (.tup [(ac r.1),(au r.2)]) := by
 unfold eG at H
 refine PH.intro Tryz.func144 rfl Tryz.ntmps144 rfl ?_
 refine V.seq (V.ab (Ao.aF rfl rfl rfl rfl rfl rfl (Ao.aF rfl rfl rfl rfl rfl rfl (Ao.q tk rfl (Ao.q tk rfl (Ao.nil (V.seq (V.ab (Ao.q tk rfl (Ao.q tk rfl (Ao.q tk rfl ?_)))))))))))
 obtain ⟨x10,h10,H⟩ := aj H
 have s10 := eZ t.columns (fun a0=>some (cM a0 name)) Tryz.call176 (fun a0 r h=>(ai h) ▸ mz a0 name) _ h10
 refine Ao.ah (g := 43) rfl rfl rfl Tryz.call43 (il.r) s10 rfl (Ao.q tk rfl (Ao.nil (V.seq (V.ab (Ao.q tk rfl (Ao.q tk rfl (Ao.q tk rfl (Ao.q tk rfl (Ao.q tk rfl (Ao.q tk rfl (Ao.nil ?_)))))))))))
 obtain rfl := ai H
 refine V.aq tk rfl (ps := [(ac (if (0 : Int) > x10 then (0 : Int) else x10)),(au (decide (x10 ≥ (0 : Int))))]) ⟨_,_,rfl,rfl,_,_,rfl,rfl,rfl⟩ (PLe.q rfl)
def eo (sA : LSchema) (name : List UInt8) : Option (Int × Bool) :=
 af (bW sA.tables (fun a0=>some (cn a0 name))) fun x10 =>
 some ((if (0 : Int) > x10 then (0 : Int) else x10),(decide (x10 ≥ (0 : Int))))
set_option maxHeartbeats 4000000 in
theorem iI (sA : LSchema) (name : List UInt8) (r : Int × Bool) (H : eo sA name = some r) :
  aG Tryz.prog 145 [(.agg (db sA)),(.str name)] (.tup [(ac r.1),(au r.2)]) := by
 unfold eo at H
 refine PH.intro Tryz.func145 rfl Tryz.ntmps145 rfl ?_
 refine V.seq (V.ab (Ao.aF rfl rfl rfl rfl rfl rfl (Ao.aF rfl rfl rfl rfl rfl rfl (Ao.q tk rfl (Ao.q tk rfl (Ao.nil (V.seq (V.ab (Ao.q tk rfl (Ao.q tk rfl (Ao.q tk rfl ?_)))))))))))
 obtain ⟨x10,h10,H⟩ := aj H
 have s10 := fv sA.tables (fun a0=>some (cn a0 name)) Tryz.call177 (fun a0 r h=>(ai h) ▸ mV a0 name) _ h10
 refine Ao.ah (g := 153) rfl rfl rfl Tryz.call153 (il.r) s10 rfl (Ao.q tk rfl (Ao.nil (V.seq (V.ab (Ao.q tk rfl (Ao.q tk rfl (Ao.q tk rfl (Ao.q tk rfl (Ao.q tk rfl (Ao.q tk rfl (Ao.nil ?_)))))))))))
 obtain rfl := ai H
 refine V.aq tk rfl (ps := [(ac (if (0 : Int) > x10 then (0 : Int) else x10)),(au (decide (x10 ≥ (0 : Int))))]) ⟨_,_,rfl,rfl,_,_,rfl,rfl,rfl⟩ (PLe.q rfl)
def eY (a : LForeignKey) (b : LForeignKey) : Option (Bool) :=
 cond (a.table == b.table)
  (af (ez a.columns b.columns) fun x15 =>
  cond x15
   (some (a.refTable == b.refTable))
   (some false))
  (some false)
set_option maxHeartbeats 4000000 in
theorem ll (a : LForeignKey) (b : LForeignKey) (r : Bool) (H : eY a b = some r) :
  aG Tryz.prog 102 [(.agg (bC a)),(.agg (bC b))] (au r) := by
 unfold eY at H
 refine PH.intro Tryz.func102 rfl Tryz.ntmps102 rfl ?_
 refine V.seq (V.ab (Ao.aF rfl rfl rfl rfl rfl rfl (Ao.aF rfl rfl rfl rfl rfl rfl (Ao.q tk rfl (Ao.nil (V.seq (V.ab (Ao.q tk rfl (Ao.q tk rfl (Ao.q tk rfl (Ao.q tk rfl (Ao.q tk rfl (Ao.q tk rfl ?_)))))))))))))
 refine Ao.aA rfl rfl rfl (fun h=>?_) (fun h=>?_)
 ·have H := condT h H
  refine Ao.q tk rfl (Ao.q tk rfl (Ao.q tk rfl (Ao.q tk rfl ?_)))
  obtain ⟨x15,h15,H⟩ := aj H
  have s15 := lZ a.columns b.columns _ h15
  refine Ao.ah (g := 147) rfl rfl rfl Tryz.call147 (il.r) s15 rfl (Ao.q tk rfl (Ao.q tk rfl ?_))
  refine Ao.aA rfl rfl rfl (fun h=>?_) (fun h=>?_)
  ·have H := condT h H
   refine Ao.q tk rfl (Ao.q tk rfl (Ao.q tk rfl (Ao.q tk rfl (Ao.q tk rfl (Ao.q tk rfl (Ao.q tk rfl (Ao.nil ?_)))))))
   obtain rfl := ai H
   refine V.aq tk rfl (ps := [(au (a.refTable == b.refTable))]) ⟨_,_,rfl,rfl,rfl⟩ (PLe.q rfl)
  ·have H := condF h H
   refine Ao.q tk rfl (Ao.q tk rfl (Ao.q tk rfl (Ao.q tk rfl (Ao.q tk rfl (Ao.q tk rfl (Ao.q tk rfl (Ao.nil ?_)))))))
   obtain rfl := ai H
   refine V.aq tk rfl (ps := [(au false)]) ⟨_,_,rfl,rfl,rfl⟩ (PLe.q rfl)
 ·have H := condF h H
  refine Ao.q tk rfl (Ao.q tk rfl (Ao.q tk rfl (Ao.q tk rfl (Ao.q tk rfl (Ao.q tk rfl (Ao.q tk rfl (Ao.q tk rfl (Ao.q tk rfl (Ao.q tk rfl (Ao.q tk rfl (Ao.q tk rfl (Ao.q tk rfl (Ao.q tk rfl (Ao.nil ?_))))))))))))))
  obtain rfl := ai H
  refine V.aq tk rfl (ps := [(au false)]) ⟨_,_,rfl,rfl,rfl⟩ (PLe.q rfl)
def bv (sA : List LForeignKey) (f : LForeignKey → Option (Bool)) : Option (Bool) :=
 af (bS sA f) fun x7 =>
 some (decide (x7 ≥ (0 : Int)))
set_option maxHeartbeats 4000000 in
theorem fW {g_f : FuncId} {caps_f : List PV} (sA : List LForeignKey) (f : LForeignKey → Option (Bool)) (hg_f : ∀ (vs : Array Value) (w : World),(callFunc g_f vs).run Tryz.prog w = .ok (.enter g_f vs) w) (hp_f : ∀ a0 r,f a0 = some r → aG Tryz.prog g_f ((.agg (bC a0)) :: caps_f) (au r)) (r : Bool) (H : bv sA f = some r) :
  aG Tryz.prog 100 [(.list 142 (sA.map bC)),(.fn g_f caps_f)] (au r) := by
 unfold bv at H
 refine PH.intro Tryz.func100 rfl Tryz.ntmps100 rfl ?_
 refine V.seq (V.ab (Ao.q tk rfl (Ao.nil (V.seq (V.ab (Ao.q tk rfl (Ao.q tk rfl ?_)))))))
 obtain ⟨x7,h7,H⟩ := aj H
 have s7 := gn sA f hg_f hp_f _ h7
 refine Ao.ah (g := 146) rfl rfl rfl Tryz.call146 (il.r) s7 rfl (Ao.q tk rfl (Ao.q tk rfl (Ao.nil ?_)))
 obtain rfl := ai H
 refine V.aq tk rfl (ps := [(au (decide (x7 ≥ (0 : Int))))]) ⟨_,_,rfl,rfl,rfl⟩ (PLe.q rfl)
def bD (sA : List LConstraint) (v : LConstraint) : Option (Bool) :=
 af (cg sA v) fun x7 =>
 some (decide (x7 ≥ (0 : Int)))
set_option maxHeartbeats 4000000 in
theorem gu (sA : List LConstraint) (v : LConstraint) (r : Bool) (H : bD sA v = some r) :
  aG Tryz.prog 104 [(.list 148 (sA.map bH)),(.agg (bH v))] (au r) := by
 unfold bD at H
 refine PH.intro Tryz.func104 rfl Tryz.ntmps104 rfl ?_
 refine V.seq (V.ab (Ao.aF rfl rfl rfl rfl rfl rfl (Ao.q tk rfl (Ao.nil (V.seq (V.ab (Ao.q tk rfl (Ao.q tk rfl ?_))))))))
 obtain ⟨x7,h7,H⟩ := aj H
 have s7 := gS sA v _ h7
 refine Ao.ah (g := 149) rfl rfl rfl Tryz.call149 (il.r) s7 rfl (Ao.q tk rfl (Ao.q tk rfl (Ao.nil ?_)))
 obtain rfl := ai H
 refine V.aq tk rfl (ps := [(au (decide (x7 ≥ (0 : Int))))]) ⟨_,_,rfl,rfl,rfl⟩ (PLe.q rfl)
end
end Go.Proofs.YtgaggbdcedpapaaGreat

namespace Go.Proofs.YtgaggbdcedpapaaGreat
noncomputable section
open Go Go.Ab
attribute [local irreducible] V Ao Do Gh Eff PH IntKind.wrap
set_option maxRecDepth 4000
def ce (sA : List (List LVal)) (f : (List LVal) → Option (Bool)) : Option (Bool) :=
 af (dl sA f) fun x7 =>
 some (decide (x7 ≥ (0 : Int)))
set_option maxHeartbeats 4000000 in
theorem iD {g_f : FuncId} {caps_f : List PV} (sA : List (List LVal)) (f : (List LVal) → Option (Bool)) (hg_f : ∀ (vs : Array Value) (w : World),(callFunc g_f vs).run Tryz.prog w = .ok (.enter g_f vs) w) (hp_f : ∀ a0 r,f a0 = some r → aG Tryz.prog g_f ((.list 53 (a0.map ae)) :: caps_f) (au r)) (r : Bool) (H : ce sA f = some r) :
  aG Tryz.prog 26 [(.list 51 (sA.map (ag 53 ae))),(.fn g_f caps_f)] (au r) := by
 unfold ce at H
 refine PH.intro Tryz.func26 rfl Tryz.ntmps26 rfl ?_
 refine V.seq (V.ab (Ao.q tk rfl (Ao.nil (V.seq (V.ab (Ao.q tk rfl (Ao.q tk rfl ?_)))))))
 obtain ⟨x7,h7,H⟩ := aj H
 have s7 := iV sA f hg_f hp_f _ h7
 refine Ao.ah (g := 22) rfl rfl rfl Tryz.call22 (il.r) s7 rfl (Ao.q tk rfl (Ao.q tk rfl (Ao.nil ?_)))
 obtain rfl := ai H
 refine V.aq tk rfl (ps := [(au (decide (x7 ≥ (0 : Int))))]) ⟨_,_,rfl,rfl,rfl⟩ (PLe.q rfl)
end
end Go.Proofs.YtgaggbdcedpapaaGreat

namespace Go.Proofs.YtgaggbdcedpapaaGreat
noncomputable section
open Go Go.Ab
attribute [local irreducible] V Ao Do Gh Eff PH IntKind.wrap
set_option maxRecDepth 4000
def cA (kinds : List Int) (c0 : LQuery) : Option (Bool) :=
 af (dK kinds c0.kind) fun x7 =>
 some x7
set_option maxHeartbeats 4000000 in
theorem dW (kinds : List Int) (c0 : LQuery) (r : Bool) (H : cA kinds c0 = some r) :
  aG Tryz.prog 151 [(.list 3 (kinds.map aV)),(.ptr (aQ c0))] (au r) := by
 unfold cA at H
 refine PH.intro Tryz.func151 rfl Tryz.ntmps151 rfl ?_
 refine V.seq (V.ab (Ao.q tk rfl (Ao.nil (V.seq (V.ab (Ao.q tk rfl (Ao.q tk rfl (Ao.q tk rfl ?_))))))))
 obtain ⟨x7,h7,H⟩ := aj H
 have s7 := kT kinds c0.kind _ h7
 refine Ao.ah (g := 152) rfl rfl rfl Tryz.call152 (il.r) s7 rfl (Ao.q tk rfl (Ao.nil ?_))
 obtain rfl := ai H
 refine V.aq tk rfl (ps := [(au x7)]) ⟨_,_,rfl,rfl,rfl⟩ (PLe.q rfl)
def dN (q : LQuery) (args : List LVal) : Option (Int) :=
 af (dQ q) fun x11 =>
 cond (x11.2 != (0 : Int))
  (some x11.2)
  (cond (decide ((args.length : Int) < (x11.1.length : Int)))
   (some 1)
   (af (aE (σ := Unit) (ρ := (Int)) (fun (j1 : Nat) (x1 : Int) (_ : Unit) =>
    af (aC args (j1 : Int)) fun (x31 : LVal) =>
    ba (dA x31) fun x33 =>
    cond (!x33)
     (some (.ret 7))
     (cond (x1 != (0 : Int))
      (af (aC args (j1 : Int)) fun (x41 : LVal) =>
      cond (x41.kind != x1)
       (af (aC args (j1 : Int)) fun (x50 : LVal) =>
       cond (x50.kind != (0 : Int))
        (some (.ret 7))
        (some (.next ())))
       (some (.next ())))
      (some (.next ())))) 0 x11.1 ()) fun fl1=>fl1.thenR fun (_ : Unit) =>
   some 0))
set_option maxHeartbeats 4000000 in
theorem jm (q : LQuery) (args : List LVal) (r : Int) (H : dN q args = some r) :
  aG Tryz.prog 53 [(.agg (aQ q)),(.list 53 (args.map ae))] (ac r) := by
 unfold dN at H
 refine PH.intro Tryz.func53 rfl Tryz.ntmps53 rfl ?_
 refine V.seq (V.ab (Ao.aF rfl rfl rfl rfl rfl rfl (Ao.q tk rfl (Ao.nil (V.seq (V.ab (Ao.q tk rfl ?_)))))))
 obtain ⟨x11,h11,H⟩ := aj H
 have s11 := je q _ h11
 refine Ao.ah (g := 87) rfl rfl rfl Tryz.call87 (il.r) s11 rfl (Ao.q tk rfl (Ao.q tk rfl (Ao.q tk rfl (Ao.q tk rfl (Ao.q tk rfl (Ao.nil (V.seq (V.seq (V.ab (Ao.q tk rfl (Ao.q tk rfl (Ao.nil ?_))))))))))))
 refine V.ak rfl (fun h=>?_) (fun h=>?_)
 ·have H := condT h H
  refine V.seq (V.ab (Ao.q tk rfl (Ao.q tk rfl (Ao.nil ?_))))
  obtain rfl := ai H
  refine V.aq tk rfl (ps := [(ac x11.2)]) ⟨_,_,rfl,rfl,rfl⟩ (PLe.q rfl)
 ·have H := condF h H
  refine V.al (V.seq (V.seq (V.ab (Ao.q tk rfl (Ao.ay tk rfl rfl rfl rfl rfl (List.length_map _) rfl (Ao.q tk rfl (Ao.ay tk rfl rfl rfl rfl rfl (List.length_map _) rfl (Ao.q tk rfl (Ao.nil ?_)))))))))
  refine V.ak rfl (fun h=>?_) (fun h=>?_)
  ·have H := condT h H
   refine V.seq (V.ab (Ao.q tk rfl (Ao.nil ?_)))
   obtain rfl := ai H
   refine V.aq tk rfl (ps := [(ac 1)]) ⟨_,_,rfl,rfl,rfl⟩ (PLe.q rfl)
  ·have H := condF h H
   refine V.al (V.seq (V.seq (V.ab (Ao.q tk rfl (Ao.ay tk rfl rfl rfl rfl rfl (List.length_map _) rfl (Ao.q tk rfl (Ao.nil ?_)))))))
   obtain ⟨fl1,H1,Hp1⟩ := aj H
   refine V.aZ tk 22 rfl rfl (fun hz1 _=>?_)
   rw [List.length_map] at hz1
   refine V.cut (τ := Unit) (γ := Unit) (fun s1 g1=>⟨57,fun _=>.any,fun _=>none,fun _=>none⟩) (fun t=>fl1 = .next t) ?_ (fun s1 g1 hn1=>?_)
   ·refine V.ap ?_
    refine V.aP (fun j1 s1 g1=>⟨57,upd (upd (upd (upd (fun _=>.any) 24 (ac (j1 : Int))) 23 (ac (x11.1.length : Int))) 22 (.list 3 (x11.1.map aV))) 1 (.list 53 (args.map ae)),fun _=>none,fun _=>none⟩) () H1 (Gh.le (SLe.aa (PLe.q rfl) (SLe.aa (PLe.q rfl) (SLe.aa (PLe.q rfl) (SLe.aa (PLe.q rfl) SLe.nil)))) BLe.nil OLe.nil) (fun j1 s1 g1 hj1 hr1=>?_)
    refine V.seq (V.ab (Ao.q tk rfl (Ao.nil (V.seq ?_))))
    refine V.ak rfl (fun h=>?_) (fun h=>?_)
    ·have hl1 := bn h
     obtain ⟨x1,fb1,hx1,H,hg1⟩ := rMc hl1 hr1
     refine V.al (V.seq (V.ap (V.seq (V.ab (Ao.q tk rfl ?_)))))
     refine Ao.idx tk rfl rfl rfl rfl rfl rfl (Int.natCast_nonneg j1) (aY (fun _=>rfl) hx1) rfl ?_
     refine Ao.q tk rfl (Ao.q tk rfl (Ao.q tk rfl (Ao.nil (V.seq (V.ab (Ao.q tk rfl (Ao.q tk rfl ?_)))))))
     obtain ⟨x31,h31,H⟩ := aj H
     have k31 := gIs h31
     refine Ao.idx tk rfl rfl rfl rfl rfl rfl k31.1 (aH (fun _=>rfl) k31.2) rfl ?_
     refine Ao.q tk rfl ?_
     obtain ⟨x33,h33,H⟩ := bA H
     have s33 := oQ x31
     rw [h33] at s33
     refine Ao.ah (g := 20) rfl rfl rfl Tryz.call20 (il.r) s33 rfl (Ao.q tk rfl (Ao.q tk rfl ?_))
     refine Ao.aA rfl rfl rfl (fun h=>?_) (fun h=>?_)
     ·have H := condT h H
      refine Ao.q tk rfl (Ao.q tk rfl (Ao.q tk rfl (Ao.q tk rfl (Ao.q tk rfl (Ao.q tk rfl (Ao.q tk rfl (Ao.q tk rfl (Ao.q tk rfl (Ao.q tk rfl (Ao.q tk rfl (Ao.q tk rfl (Ao.q tk rfl (Ao.q tk rfl (Ao.q tk rfl (Ao.q tk rfl (Ao.q tk rfl (Ao.q tk rfl (Ao.q tk rfl (Ao.q tk rfl ?_)))))))))))))))))))
      refine Ao.nil (V.bu rfl (V.seq (V.ab (Ao.q tk rfl (Ao.nil ?_)))))
      obtain rfl := ai H
      have e1 : fl1 = .ret _ := hg1
      subst e1
      obtain rfl := aL Hp1
      refine V.aq tk rfl (ps := [(ac 7)]) ⟨_,_,rfl,rfl,rfl⟩ (PLe.q rfl)
     ·have H := condF h H
      refine Ao.q tk rfl (Ao.q tk rfl (Ao.q tk rfl ?_))
      refine Ao.aA rfl rfl rfl (fun h=>?_) (fun h=>?_)
      ·have H := condT h H
       refine Ao.q tk rfl (Ao.q tk rfl ?_)
       obtain ⟨x41,h41,H⟩ := aj H
       have k41 := gIs h41
       refine Ao.idx tk rfl rfl rfl rfl rfl rfl k41.1 (aH (fun _=>rfl) k41.2) rfl ?_
       refine Ao.q tk rfl (Ao.q tk rfl (Ao.q tk rfl (Ao.q tk rfl (Ao.q tk rfl (Ao.q tk rfl ?_)))))
       refine Ao.aA rfl rfl rfl (fun h=>?_) (fun h=>?_)
       ·have H := condT h H
        refine Ao.q tk rfl (Ao.q tk rfl ?_)
        obtain ⟨x50,h50,H⟩ := aj H
        have k50 := gIs h50
        refine Ao.idx tk rfl rfl rfl rfl rfl rfl k50.1 (aH (fun _=>rfl) k50.2) rfl ?_
        refine Ao.q tk rfl (Ao.q tk rfl (Ao.q tk rfl (Ao.q tk rfl (Ao.q tk rfl (Ao.nil ?_)))))
        refine V.ak rfl (fun h=>?_) (fun h=>?_)
        ·have H := condT h H
         refine V.seq (V.ab (Ao.q tk rfl (Ao.nil ?_)))
         obtain rfl := ai H
         have e1 : fl1 = .ret _ := hg1
         subst e1
         obtain rfl := aL Hp1
         refine V.aq tk rfl (ps := [(ac 7)]) ⟨_,_,rfl,rfl,rfl⟩ (PLe.q rfl)
        ·have H := condF h H
         refine V.al (V.blk (V.ab (Ao.q tk rfl (Ao.q tk rfl (Ao.nil ?_)))))
         obtain rfl := ai H
         refine V.ax () () ⟨hl1,hg1⟩ (Gh.le (SLe.aa (PLe.q rfl) (SLe.aa (PLe.q rfl) (SLe.aa (PLe.q rfl) (SLe.aa (PLe.q (az (by omega))) SLe.nil)))) BLe.nil OLe.nil)
       ·have H := condF h H
        refine Ao.q tk rfl (Ao.q tk rfl (Ao.q tk rfl (Ao.q tk rfl (Ao.q tk rfl (Ao.q tk rfl (Ao.q tk rfl (Ao.q tk rfl (Ao.nil (V.be rfl (V.al (V.blk (V.ab (Ao.q tk rfl (Ao.q tk rfl ?_))))))))))))))
        refine Ao.nil ?_
        obtain rfl := ai H
        refine V.ax () () ⟨hl1,hg1⟩ (Gh.le (SLe.aa (PLe.q rfl) (SLe.aa (PLe.q rfl) (SLe.aa (PLe.q rfl) (SLe.aa (PLe.q (az (by omega))) SLe.nil)))) BLe.nil OLe.nil)
      ·have H := condF h H
       refine Ao.q tk rfl (Ao.q tk rfl (Ao.q tk rfl (Ao.q tk rfl (Ao.q tk rfl (Ao.q tk rfl (Ao.q tk rfl (Ao.q tk rfl (Ao.q tk rfl (Ao.q tk rfl (Ao.q tk rfl (Ao.q tk rfl (Ao.q tk rfl (Ao.q tk rfl (Ao.q tk rfl (Ao.q tk rfl (Ao.q tk rfl ?_))))))))))))))))
       refine Ao.nil (V.be rfl (V.al (V.blk (V.ab (Ao.q tk rfl (Ao.q tk rfl (Ao.nil ?_)))))))
       obtain rfl := ai H
       refine V.ax () () ⟨hl1,hg1⟩ (Gh.le (SLe.aa (PLe.q rfl) (SLe.aa (PLe.q rfl) (SLe.aa (PLe.q rfl) (SLe.aa (PLe.q (az (by omega))) SLe.nil)))) BLe.nil OLe.nil)
    ·have hn1 := rMd (bm h) hr1
     refine V.aB rfl ?_
     refine V.at s1 g1 hn1 (Gh.le SLe.nil BLe.nil OLe.nil)
   ·have H := br hn1 Hp1
    refine V.seq (V.ab (Ao.q tk rfl (Ao.nil ?_)))
    obtain rfl := ai H
    refine V.aq tk rfl (ps := [(ac 0)]) ⟨_,_,rfl,rfl,rfl⟩ (PLe.q rfl)
def gX (a : LVal) (b : LVal) : Int :=
 ba (eK a.kind b.kind) fun x11 =>
 cond (x11 != (0 : Int))
  (x11)
  (ba (eK a.int b.int) fun x19 =>
  cond (x19 != (0 : Int))
   (x19)
   (ba (ie a.text b.text) fun x27 =>
   x27))
set_option maxHeartbeats 4000000 in
theorem md (a : LVal) (b : LVal) :
  aG Tryz.prog 106 [(.agg (ae a)),(.agg (ae b))] (ac (gX a b)) := by
 obtain ⟨r,H⟩ : ∃ r,gX a b = r := ⟨_,rfl⟩
 rw [H]
 unfold gX at H
 refine PH.intro Tryz.func106 rfl Tryz.ntmps106 rfl ?_
 refine V.seq (V.ab (Ao.aF rfl rfl rfl rfl rfl rfl (Ao.aF rfl rfl rfl rfl rfl rfl (Ao.q tk rfl (Ao.nil (V.seq (V.seq (V.ab (Ao.q tk rfl (Ao.q tk rfl (Ao.q tk rfl (Ao.q tk rfl ?_))))))))))))
 obtain ⟨x11,h11,H⟩ := bA H
 have s11 := iC a.kind b.kind
 rw [h11] at s11
 refine Ao.ah (g := 107) rfl rfl rfl Tryz.call107 (il.r) s11 rfl (Ao.q tk rfl (Ao.nil (V.seq (V.ab (Ao.q tk rfl (Ao.q tk rfl (Ao.nil ?_)))))))
 refine V.ak rfl (fun h=>?_) (fun h=>?_)
 ·have H := condT h H
  refine V.seq (V.ab (Ao.q tk rfl (Ao.q tk rfl (Ao.nil ?_))))
  subst H
  refine V.aq tk rfl (ps := [(ac x11)]) ⟨_,_,rfl,rfl,rfl⟩ (PLe.q rfl)
 ·have H := condF h H
  refine V.al (V.seq (V.seq (V.ab (Ao.q tk rfl (Ao.q tk rfl (Ao.q tk rfl (Ao.q tk rfl ?_)))))))
  obtain ⟨x19,h19,H⟩ := bA H
  have s19 := iC a.int b.int
  rw [h19] at s19
  refine Ao.ah (g := 107) rfl rfl rfl Tryz.call107 (il.r) s19 rfl (Ao.q tk rfl (Ao.nil (V.seq (V.ab (Ao.q tk rfl (Ao.q tk rfl (Ao.nil ?_)))))))
  refine V.ak rfl (fun h=>?_) (fun h=>?_)
  ·have H := condT h H
   refine V.seq (V.ab (Ao.q tk rfl (Ao.q tk rfl (Ao.nil ?_))))
   subst H
   refine V.aq tk rfl (ps := [(ac x19)]) ⟨_,_,rfl,rfl,rfl⟩ (PLe.q rfl)
  ·have H := condF h H
   refine V.al (V.seq (V.ab (Ao.q tk rfl (Ao.q tk rfl (Ao.q tk rfl (Ao.q tk rfl ?_))))))
   obtain ⟨x27,h27,H⟩ := bA H
   have s27 := oz a.text b.text
   rw [h27] at s27
   refine Ao.ah (g := 150) rfl rfl rfl Tryz.call150 (il.r) s27 rfl (Ao.q tk rfl (Ao.nil ?_))
   subst H
   refine V.aq tk rfl (ps := [(ac x27)]) ⟨_,_,rfl,rfl,rfl⟩ (PLe.q rfl)
def iQ (a : List (List LVal)) (b : List (List LVal)) : Option ((List (List LVal))) :=
 af (aE (σ := List (List LVal) × List (List LVal)) (ρ := Empty) (fun (_ : Nat) (x1 : List LVal) (s1 : List (List LVal) × List (List LVal)) =>
  af (bi s1.1 (fun a0=>gq a0 x1)) fun x20 =>
  af (dL (x20.2.length = s1.1.length) ()) fun (_ : Unit) =>
  cond (decide (x20.1 ≥ (0 : Int)))
   (af (delI x20.2 x20.1 (IntKind.i64.wrap (x20.1 + (1 : Int)))) fun x27 =>
   some (.next (x27,s1.2)))
   (af (cI 24 s1.2 ([x1] : List (List LVal))) fun (x31 : List (List LVal)) =>
   some (.next (x20.2,x31)))) 0 a (b,[])) fun fl1=>fl1.thenP fun (s1 : List (List LVal) × List (List LVal)) =>
 some s1.2
set_option maxHeartbeats 4000000 in
theorem W_query_less (a : List (List LVal)) (b : List (List LVal)) (r : (List (List LVal))) (H : iQ a b = some r) :
  aG Tryz.prog 133 [(.list 51 (a.map (ag 53 ae))),(.list 51 (b.map (ag 53 ae)))] (.list 51 (r.map (ag 53 ae))) := by
 unfold iQ at H
 refine PH.intro Tryz.func133 rfl Tryz.ntmps133 rfl ?_
 refine V.seq (V.ab (Ao.q tk rfl (Ao.nil (V.seq (V.ab (Ao.q tk rfl ?_))))))
 have s11 := nm (m := 11) b
 refine Ao.callO (g := 21) rfl rfl rfl Tryz.call21 (il.r) rfl rfl s11 (fun g11=>?_)
 refine Ao.q tk rfl (Ao.nil (V.seq (V.ab (Ao.q tk rfl (Ao.nil (V.seq (V.seq (V.ab (Ao.q tk rfl (Ao.ay tk rfl rfl rfl rfl rfl (List.length_map _) rfl (Ao.q tk rfl (Ao.nil ?_))))))))))))
 obtain ⟨fl1,H1,Hp1⟩ := aj H
 refine V.aZ tk 12 rfl rfl (fun hz1 _=>?_)
 rw [List.length_map] at hz1
 refine V.cut (τ := List (List LVal) × List (List LVal)) (γ := OwnRef × OwnRef) (fun s1 g1=>⟨34,upd (fun _=>.any) 6 (.own 31 g1.2 (s1.2.map (ag 53 ae)).length),fun _=>none,upd (fun _=>none) 31 (some ⟨g1.2,51,(s1.2.map (ag 53 ae)),true⟩)⟩) (fun t=>fl1 = .next t) ?_ (fun s1 g1 hn1=>?_)
 ·refine V.ap (V.gr tk 6 31 (e := 51) rfl rfl ?_)
  refine V.aP (fun j1 s1 g1=>⟨34,upd (upd (upd (upd (upd (fun _=>.any) 14 (ac (j1 : Int))) 13 (ac (a.length : Int))) 12 (.list 51 (a.map (ag 53 ae)))) 6 (.own 31 g1.2 (s1.2.map (ag 53 ae)).length)) 5 (.own 11 g1.1 (s1.1.map (ag 53 ae)).length),fun _=>none,upd (upd (fun _=>none) 31 (some ⟨g1.2,51,(s1.2.map (ag 53 ae)),true⟩)) 11 (some ⟨g1.1,51,(s1.1.map (ag 53 ae)),true⟩)⟩) (g11,⟨none,0⟩) H1 (Gh.le (SLe.aa (PLe.q rfl) (SLe.aa (PLe.q rfl) (SLe.aa (PLe.q rfl) (SLe.aa (PLe.q rfl) (SLe.aa (PLe.q rfl) SLe.nil))))) BLe.nil (OLe.am rfl (OLe.am rfl OLe.nil))) (fun j1 s1 g1 hj1 hr1=>?_)
  refine V.seq (V.ab (Ao.q tk rfl (Ao.nil (V.seq ?_))))
  refine V.ak rfl (fun h=>?_) (fun h=>?_)
  ·have hl1 := bn h
   obtain ⟨x1,fb1,hx1,H,hg1⟩ := rMc hl1 hr1
   refine V.al (V.seq (V.ap (V.seq (V.ab ?_))))
   refine Ao.idx tk rfl rfl rfl rfl rfl rfl (Int.natCast_nonneg j1) (aY (fun _=>rfl) hx1) rfl ?_
   refine Ao.q tk rfl ?_
   refine Ao.aJ tk rfl rfl rfl rfl rfl rfl fun b8=>?_
   refine Ao.sB tk rfl rfl rfl rfl rfl rfl rfl rfl rfl rfl rfl (Ao.nil (V.seq (V.seq (V.ab (Ao.q tk rfl (Ao.gh (Gh.freezeB 8 rfl rfl rfl rfl) (Ao.q tk rfl ?_)))))))
   obtain ⟨x20,h20,H⟩ := aj H
   have s20 := dY g1.1 s1.1 (fun a0=>gq a0 x1) Tryz.call169 (fun a0 r h=>W_query_less_1 a0 x1 r h) _ h20
   obtain ⟨_,q20_0,H⟩ := aj H
   have l20_0 := (cF q20_0).1
   have z20_0 : (List.map (ag 53 ae) s1.1).length = (List.map (ag 53 ae) x20.2).length := by simpa using (l20_0).symm
   refine Ao.dr (g := 22) rfl rfl rfl Tryz.call22 [] [(11,0)] rfl rfl rfl rfl (il.of2 (fQ.cons (kW.own rfl) (fQ.cons (kW.of_eq rfl) fQ.nil))) (by rw [cN,cx,cO]; rfl) s20 ?_
   rintro u20 H20h ⟨rfl,rfl⟩
   refine ⟨_,rfl,?_⟩
   refine Ao.gh (st' := ⟨_,_,fun _=>none,upd (upd (fun _=>none) 31 (some ⟨g1.2,51,(s1.2.map (ag 53 ae)),true⟩)) 11 (some ⟨g1.1,51,(x20.2.map (ag 53 ae)),true⟩)⟩) (Gh.le (SLe.cq _ _) BLe.nil (OLe.am rfl (OLe.am rfl OLe.nil))) ?_
   refine Ao.q tk rfl (Ao.nil (V.seq (V.ab (Ao.q tk rfl (Ao.q tk rfl (Ao.nil ?_))))))
   refine V.ak rfl (fun h=>?_) (fun h=>?_)
   ·have H := condT h H
    refine V.seq (V.ab (Ao.q tk rfl (Ao.q tk rfl (Ao.q tk rfl (Ao.q tk rfl ?_)))))
    obtain ⟨x27,h27,H⟩ := aj H
    have s27 := W_delete_25 g1.1 x20.2 x20.1 (IntKind.i64.wrap (x20.1 + (1 : Int))) _ h27
    refine Ao.dr (g := 25) rfl rfl rfl Tryz.call25 [] [(11,0)] rfl rfl rfl rfl (il.of2 (fQ.cons (kW.own z20_0) (fQ.cons (kW.of_eq rfl) (fQ.cons (kW.of_eq rfl) fQ.nil)))) (by rw [cN,cx,cO]; rfl) s27 ?_
    rintro u27 H27h ⟨rfl,rfl⟩
    refine ⟨_,rfl,?_⟩
    refine Ao.gh (st' := ⟨_,_,fun _=>none,upd (upd (fun _=>none) 31 (some ⟨g1.2,51,(s1.2.map (ag 53 ae)),true⟩)) 11 (some ⟨g1.1,51,(x27.map (ag 53 ae)),true⟩)⟩) (Gh.le (SLe.cq _ _) BLe.nil (OLe.am rfl (OLe.am rfl OLe.nil))) ?_
    refine Ao.cast 27 (q := (.own 11 g1.1 (x27.map (ag 53 ae)).length)) rfl (PLe.of2 (kW.own rfl)) (Ao.q tk rfl (Ao.nil (V.aB rfl (V.ab (Ao.q tk rfl (Ao.q tk rfl (Ao.nil ?_)))))))
    obtain rfl := ai H
    refine V.ax (x27,s1.2) (g1.1,g1.2) ⟨hl1,hg1⟩ (Gh.le (SLe.aa (PLe.q rfl) (SLe.aa (PLe.q rfl) (SLe.aa (PLe.q rfl) (SLe.aa (PLe.q rfl) (SLe.aa (PLe.q (az (by omega))) SLe.nil))))) BLe.nil (OLe.am rfl (OLe.am rfl OLe.nil)))
   ·have H := condF h H
    refine V.al (V.ab (Ao.q tk rfl (Ao.q tk rfl (Ao.bsC tk rfl rfl rfl rfl (rows' := List.map (ag 53 ae) ([x1] : List (List LVal))) rfl (fj.refl _) rfl rfl ?_))))
    obtain ⟨x31,h31,H⟩ := aj H
    have k31 := cf h31
    refine Ao.co (rows2' := List.map (ag 53 ae) ([x1] : List (List LVal))) (rows' := List.map (ag 53 ae) x31) tk rfl rfl rfl rfl rfl rfl rfl rfl rfl rfl rfl rfl rfl (fj.refl _) (dp k31.1) (dv k31.2.1) (du k31.2.2) fun g31=>?_
    refine Ao.q tk rfl (Ao.nil (V.blk (V.ab (Ao.q tk rfl (Ao.q tk rfl (Ao.nil ?_))))))
    obtain rfl := ai H
    refine V.ax (x20.2,x31) (g1.1,g31) ⟨hl1,hg1⟩ (Gh.le (SLe.aa (PLe.of2 (kW.of_eq (congrArg (PV.own 11 g1.1) z20_0))) (SLe.aa (PLe.q rfl) (SLe.aa (PLe.q rfl) (SLe.aa (PLe.q rfl) (SLe.aa (PLe.q (az (by omega))) SLe.nil))))) BLe.nil (OLe.am rfl (OLe.am rfl OLe.nil)))
  ·have hn1 := rMd (bm h) hr1
   refine V.aB rfl ?_
   refine V.at s1 g1 hn1 (Gh.le (SLe.aa (PLe.q rfl) SLe.nil) BLe.nil (OLe.am rfl OLe.nil))
 ·have H := aW hn1 Hp1
  refine V.seq (V.ab (Ao.q tk rfl (Ao.q tk rfl (Ao.nil ?_))))
  obtain rfl := ai H
  refine V.dm 4 rfl rfl rfl ?_
  refine V.aq tk rfl (ps := [(.list 51 (s1.2.map (ag 53 ae)))]) ⟨_,_,rfl,rfl,rfl⟩ (PLe.q rfl)
end
end Go.Proofs.YtgaggbdcedpapaaGreat

namespace Go.Proofs.YtgaggbdcedpapaaGreat
noncomputable section
open Go Go.Ab
attribute [local irreducible] V Ao Do Gh Eff PH IntKind.wrap
set_option maxRecDepth 4000
def bN (rec204 : (List (List LVal)) → Int → Int → Int → Option ((List (List LVal)))) (data : List (List LVal)) (a : Int) (m : Int) (b : Int) (cmp : (List LVal) → (List LVal) → Option (Int)) : Option ((List (List LVal))) :=
 cond ((IntKind.i64.wrap (m - a)) == (1 : Int))
  (af (ef (σ := List (List LVal) × Int × Int) (ρ := Empty) (fun (s1 : List (List LVal) × Int × Int) =>
   cond (decide (s1.2.1 < s1.2.2))
    (af (aC s1.1 (IntKind.i64.wrap (Int.fdiv (IntKind.u64.wrap (IntKind.i64.wrap (s1.2.1 + s1.2.2))) (2 ^ 1)))) fun (x43 : List LVal) =>
    af (aC s1.1 a) fun (x47 : List LVal) =>
    af (cmp x43 x47) fun x49 =>
    cond (decide (x49 < (0 : Int)))
     (some (.next (s1.1,(IntKind.i64.wrap ((IntKind.i64.wrap (Int.fdiv (IntKind.u64.wrap (IntKind.i64.wrap (s1.2.1 + s1.2.2))) (2 ^ 1))) + (1 : Int))),s1.2.2)))
     (some (.next (s1.1,s1.2.1,(IntKind.i64.wrap (Int.fdiv (IntKind.u64.wrap (IntKind.i64.wrap (s1.2.1 + s1.2.2))) (2 ^ 1)))))))
    (some (.brk (s1.1,s1.2.1,s1.2.2)))) (data,m,b)) fun fl1=>fl1.thenP fun (s1 : List (List LVal) × Int × Int) =>
  af (ef (σ := List (List LVal) × Int) (ρ := Empty) (fun (s2 : List (List LVal) × Int) =>
   cond (decide (s2.2 < (IntKind.i64.wrap (s1.2.1 - (1 : Int)))))
    (af (aC s2.1 (IntKind.i64.wrap (s2.2 + (1 : Int)))) fun (x69 : List LVal) =>
    af (aC s2.1 s2.2) fun (x73 : List LVal) =>
    af (aC s2.1 s2.2) fun (_ : List LVal) =>
    ba (s2.1.set s2.2.toNat x69) fun (y7 : List (List LVal)) =>
    af (aC y7 (IntKind.i64.wrap (s2.2 + (1 : Int)))) fun (_ : List LVal) =>
    ba (y7.set ((IntKind.i64.wrap (s2.2 + (1 : Int))).toNat) x73) fun (y8 : List (List LVal)) =>
    some (.next (y8,(IntKind.i64.wrap (s2.2 + (1 : Int))))))
    (some (.brk (s2.1,s2.2)))) (s1.1,a)) fun fl2=>fl2.thenP fun (s2 : List (List LVal) × Int) =>
  some s2.1)
  (cond ((IntKind.i64.wrap (b - m)) == (1 : Int))
   (af (ef (σ := List (List LVal) × Int × Int) (ρ := Empty) (fun (s9 : List (List LVal) × Int × Int) =>
    cond (decide (s9.2.1 < s9.2.2))
     (af (aC s9.1 m) fun (x95 : List LVal) =>
     af (aC s9.1 (IntKind.i64.wrap (Int.fdiv (IntKind.u64.wrap (IntKind.i64.wrap (s9.2.1 + s9.2.2))) (2 ^ 1)))) fun (x99 : List LVal) =>
     af (cmp x95 x99) fun x101 =>
     cond (!(decide (x101 < (0 : Int))))
      (some (.next (s9.1,(IntKind.i64.wrap ((IntKind.i64.wrap (Int.fdiv (IntKind.u64.wrap (IntKind.i64.wrap (s9.2.1 + s9.2.2))) (2 ^ 1))) + (1 : Int))),s9.2.2)))
      (some (.next (s9.1,s9.2.1,(IntKind.i64.wrap (Int.fdiv (IntKind.u64.wrap (IntKind.i64.wrap (s9.2.1 + s9.2.2))) (2 ^ 1)))))))
     (some (.brk (s9.1,s9.2.1,s9.2.2)))) (data,a,m)) fun fl9=>fl9.thenP fun (s9 : List (List LVal) × Int × Int) =>
   af (ef (σ := List (List LVal) × Int) (ρ := Empty) (fun (s10 : List (List LVal) × Int) =>
    cond (decide (s10.2 > s9.2.1))
     (af (aC s10.1 (IntKind.i64.wrap (s10.2 - (1 : Int)))) fun (x121 : List LVal) =>
     af (aC s10.1 s10.2) fun (x125 : List LVal) =>
     af (aC s10.1 s10.2) fun (_ : List LVal) =>
     ba (s10.1.set s10.2.toNat x121) fun (y15 : List (List LVal)) =>
     af (aC y15 (IntKind.i64.wrap (s10.2 - (1 : Int)))) fun (_ : List LVal) =>
     ba (y15.set ((IntKind.i64.wrap (s10.2 - (1 : Int))).toNat) x125) fun (y16 : List (List LVal)) =>
     some (.next (y16,(IntKind.i64.wrap (s10.2 - (1 : Int))))))
     (some (.brk (s10.1,s10.2)))) (s9.1,m)) fun fl10=>fl10.thenP fun (s10 : List (List LVal) × Int) =>
   some s10.1)
   (ba (
    cond (decide (m > (IntKind.i64.wrap (Int.fdiv (IntKind.u64.wrap (IntKind.i64.wrap (a + b))) (2 ^ 1)))))
     ((data,(IntKind.i64.wrap ((IntKind.i64.wrap ((IntKind.i64.wrap (Int.fdiv (IntKind.u64.wrap (IntKind.i64.wrap (a + b))) (2 ^ 1))) + m)) - b)),(IntKind.i64.wrap (Int.fdiv (IntKind.u64.wrap (IntKind.i64.wrap (a + b))) (2 ^ 1)))))
     ((data,a,m))) fun (t17 : List (List LVal) × Int × Int) =>
   af (ef (σ := List (List LVal) × Int × Int) (ρ := Empty) (fun (s18 : List (List LVal) × Int × Int) =>
    cond (decide (s18.2.1 < s18.2.2))
     (af (aC s18.1 (IntKind.i64.wrap ((IntKind.i64.wrap ((IntKind.i64.wrap ((IntKind.i64.wrap (Int.fdiv (IntKind.u64.wrap (IntKind.i64.wrap (a + b))) (2 ^ 1))) + m)) - (1 : Int))) - (IntKind.i64.wrap (Int.fdiv (IntKind.u64.wrap (IntKind.i64.wrap (s18.2.1 + s18.2.2))) (2 ^ 1)))))) fun (x163 : List LVal) =>
     af (aC s18.1 (IntKind.i64.wrap (Int.fdiv (IntKind.u64.wrap (IntKind.i64.wrap (s18.2.1 + s18.2.2))) (2 ^ 1)))) fun (x167 : List LVal) =>
     af (cmp x163 x167) fun x169 =>
     cond (!(decide (x169 < (0 : Int))))
      (some (.next (s18.1,(IntKind.i64.wrap ((IntKind.i64.wrap (Int.fdiv (IntKind.u64.wrap (IntKind.i64.wrap (s18.2.1 + s18.2.2))) (2 ^ 1))) + (1 : Int))),s18.2.2)))
      (some (.next (s18.1,s18.2.1,(IntKind.i64.wrap (Int.fdiv (IntKind.u64.wrap (IntKind.i64.wrap (s18.2.1 + s18.2.2))) (2 ^ 1)))))))
     (some (.brk (s18.1,s18.2.1,s18.2.2)))) (t17.1,t17.2.1,t17.2.2)) fun fl18=>fl18.thenP fun (s18 : List (List LVal) × Int × Int) =>
   ba (
    cond (decide (s18.2.1 < m))
     ((s18.1,(decide (m < (IntKind.i64.wrap ((IntKind.i64.wrap ((IntKind.i64.wrap (Int.fdiv (IntKind.u64.wrap (IntKind.i64.wrap (a + b))) (2 ^ 1))) + m)) - s18.2.1))))))
     ((s18.1,false))) fun (t19 : List (List LVal) × Bool) =>
   af (
    cond t19.2
     (af (cz t19.1 s18.2.1 m (IntKind.i64.wrap ((IntKind.i64.wrap ((IntKind.i64.wrap (Int.fdiv (IntKind.u64.wrap (IntKind.i64.wrap (a + b))) (2 ^ 1))) + m)) - s18.2.1)) cmp) fun x191 =>
     af (dL (x191.length = t19.1.length) ()) fun (_ : Unit) =>
     some x191)
     (some t19.1)) fun (t20 : List (List LVal)) =>
   ba (
    cond (decide (a < s18.2.1))
     ((t20,(decide (s18.2.1 < (IntKind.i64.wrap (Int.fdiv (IntKind.u64.wrap (IntKind.i64.wrap (a + b))) (2 ^ 1)))))))
     ((t20,false))) fun (t21 : List (List LVal) × Bool) =>
   af (
    cond t21.2
     (af (rec204 t21.1 a s18.2.1 (IntKind.i64.wrap (Int.fdiv (IntKind.u64.wrap (IntKind.i64.wrap (a + b))) (2 ^ 1)))) fun x205 =>
     af (dL (x205.length = t21.1.length) ()) fun (_ : Unit) =>
     some x205)
     (some t21.1)) fun (t22 : List (List LVal)) =>
   cond (decide ((IntKind.i64.wrap (Int.fdiv (IntKind.u64.wrap (IntKind.i64.wrap (a + b))) (2 ^ 1))) < (IntKind.i64.wrap ((IntKind.i64.wrap ((IntKind.i64.wrap (Int.fdiv (IntKind.u64.wrap (IntKind.i64.wrap (a + b))) (2 ^ 1))) + m)) - s18.2.1))))
    (cond (decide ((IntKind.i64.wrap ((IntKind.i64.wrap ((IntKind.i64.wrap (Int.fdiv (IntKind.u64.wrap (IntKind.i64.wrap (a + b))) (2 ^ 1))) + m)) - s18.2.1)) < b))
     (af (rec204 t22 (IntKind.i64.wrap (Int.fdiv (IntKind.u64.wrap (IntKind.i64.wrap (a + b))) (2 ^ 1))) (IntKind.i64.wrap ((IntKind.i64.wrap ((IntKind.i64.wrap (Int.fdiv (IntKind.u64.wrap (IntKind.i64.wrap (a + b))) (2 ^ 1))) + m)) - s18.2.1)) b) fun x219 =>
     af (dL (x219.length = t22.length) ()) fun (_ : Unit) =>
     some x219)
     (some t22))
    (some t22)))
set_option maxHeartbeats 4000000 in
theorem jf (g_data : OwnRef) {g_cmp : FuncId} {caps_cmp : List PV} (rec204 : (List (List LVal)) → Int → Int → Int → Option ((List (List LVal)))) (hrec204 : ∀ g0 a0 a1 a2 a3 r,rec204 a0 a1 a2 a3 = some r → PH Tryz.prog 204 [(.own 0 g0 (a0.map (ag 53 ae)).length),(ac a1),(ac a2),(ac a3),(.fn g_cmp caps_cmp)] ⟨fun _=>none,upd (fun _=>none) 0 (some ⟨g0,51,(a0.map (ag 53 ae)),true⟩)⟩ (fun u H=>u = (.tup []) ∧ H = ⟨fun _=>none,upd (fun _=>none) 0 (some ⟨g0,51,(r.map (ag 53 ae)),true⟩)⟩)) (data : List (List LVal)) (a : Int) (m : Int) (b : Int) (cmp : (List LVal) → (List LVal) → Option (Int)) (hg_cmp : ∀ (vs : Array Value) (w : World),(callFunc g_cmp vs).run Tryz.prog w = .ok (.enter g_cmp vs) w) (hp_cmp : ∀ a0 a1 r,cmp a0 a1 = some r → aG Tryz.prog g_cmp ((.list 53 (a0.map ae)) :: (.list 53 (a1.map ae)) :: caps_cmp) (ac r)) (r : (List (List LVal))) (H : bN rec204 data a m b cmp = some r) :
  PH Tryz.prog 204 [(.own 0 g_data (data.map (ag 53 ae)).length),(ac a),(ac m),(ac b),(.fn g_cmp caps_cmp)] ⟨fun _=>none,upd (fun _=>none) 0 (some ⟨g_data,51,(data.map (ag 53 ae)),true⟩)⟩ (fun u H=>u = (.tup []) ∧ H = ⟨fun _=>none,upd (fun _=>none) 0 (some ⟨g_data,51,(r.map (ag 53 ae)),true⟩)⟩) := by
 unfold bN at H
 refine PH.intro Tryz.func204 rfl Tryz.ntmps204 rfl ?_
 refine V.seq (V.seq (V.ab (Ao.q tk rfl (Ao.q tk rfl (Ao.q tk rfl (Ao.q tk rfl (Ao.nil ?_)))))))
 refine V.ak rfl (fun h=>?_) (fun h=>?_)
 ·have H := condT h H
  refine V.seq (V.ab (Ao.q tk rfl (Ao.q tk rfl (Ao.nil (V.seq (V.ab (Ao.q tk rfl (Ao.q tk rfl (Ao.nil (V.seq ?_))))))))))
  obtain ⟨fl1,H1,Hp1⟩ := aj H
  refine V.cut (τ := List (List LVal) × Int × Int) (γ := Unit) (fun s1 g1=>⟨220,upd (upd (upd (fun _=>.any) 10 (ac s1.2.1)) 1 (ac a)) 0 (.own 0 g_data (s1.1.map (ag 53 ae)).length),fun _=>none,upd (fun _=>none) 0 (some ⟨g_data,51,(s1.1.map (ag 53 ae)),true⟩)⟩) (fun t=>fl1 = .next t) ?_ (fun s1 g1 hn1=>?_)
  ·refine V.ap ?_
   refine V.fe (fun s1 g1=>⟨220,upd (upd (upd (upd (upd (fun _=>.any) 11 (ac s1.2.2)) 10 (ac s1.2.1)) 4 (.fn g_cmp caps_cmp)) 1 (ac a)) 0 (.own 0 g_data (s1.1.map (ag 53 ae)).length),fun _=>none,upd (fun _=>none) 0 (some ⟨g_data,51,(s1.1.map (ag 53 ae)),true⟩)⟩) () H1 (Gh.le (SLe.aa (PLe.q rfl) (SLe.aa (PLe.q rfl) (SLe.aa (PLe.q rfl) (SLe.aa (PLe.q rfl) (SLe.aa (PLe.q rfl) SLe.nil))))) BLe.nil (OLe.am rfl OLe.nil)) (fun m1 s1 g1 hr1=>?_)
   obtain ⟨fb1,H,hg1⟩ := dV hr1
   refine V.seq (V.seq (V.ab (Ao.q tk rfl (Ao.q tk rfl (Ao.q tk rfl (Ao.nil ?_))))))
   refine V.ak rfl (fun h=>?_) (fun h=>?_)
   ·have H := condT h H
    refine V.al (V.ap (V.seq (V.ab (Ao.q tk rfl (Ao.q tk rfl (Ao.q tk rfl (Ao.q tk rfl (Ao.shr (m := 1) rfl rfl rfl rfl (by decide) rfl rfl (Ao.q tk rfl (Ao.q tk rfl (Ao.nil (V.seq ?_))))))))))))
    refine V.gR (tag := 0) rfl (fun ho0=>?_)
    refine V.bc tk mok ⟨false,true,[]⟩ [0,1,2,3,4,5,6,7,8,9,10] rfl (by decide +kernel) rfl (Do.q rfl (Do.q rfl (Do.q rfl ?_)))
    obtain ⟨x43,h43,H⟩ := aj H
    have k43 := gIs h43
    refine Do.cP tk rfl rfl rfl rfl rfl rfl rfl rfl ⟨k43.1,(cS k43.2)⟩ (cY ho0 k43.2) rfl ?_
    refine Do.ee tk rfl rfl rfl rfl rfl rfl rfl rfl rfl (aH (fun _=>rfl) k43.2) rfl rfl ?_
    refine Do.q rfl (Do.q rfl ?_)
    obtain ⟨x47,h47,H⟩ := aj H
    have k47 := gIs h47
    refine Do.cP tk rfl rfl rfl rfl rfl rfl rfl rfl ⟨k47.1,(cS k47.2)⟩ (cY ho0 k47.2) rfl ?_
    refine Do.ee tk rfl rfl rfl rfl rfl rfl rfl rfl rfl (aH (fun _=>rfl) k47.2) rfl rfl ?_
    obtain ⟨x49,h49,H⟩ := aj H
    refine Do.aR rfl rfl rfl rfl hg_cmp (il.r) (hp_cmp _ _ _ h49) rfl (Do.q rfl (Do.nil ?_))
    refine V.ak rfl (fun h=>?_) (fun h=>?_)
    ·have H := condT h H
     refine V.ab (Ao.q tk rfl (Ao.q tk rfl (Ao.q tk rfl (Ao.nil (V.blk ?_)))))
     obtain rfl := ai H
     refine V.ax (s1.1,(IntKind.i64.wrap ((IntKind.i64.wrap (Int.fdiv (IntKind.u64.wrap (IntKind.i64.wrap (s1.2.1 + s1.2.2))) (2 ^ 1))) + (1 : Int))),s1.2.2) () hg1 (Gh.le (SLe.aa (PLe.q rfl) (SLe.aa (PLe.q rfl) (SLe.aa (PLe.q rfl) (SLe.aa (PLe.q rfl) (SLe.aa (PLe.q rfl) SLe.nil))))) BLe.nil (OLe.am rfl OLe.nil))
    ·have H := condF h H
     refine V.ab (Ao.q tk rfl (Ao.q tk rfl (Ao.nil (V.blk ?_))))
     obtain rfl := ai H
     refine V.ax (s1.1,s1.2.1,(IntKind.i64.wrap (Int.fdiv (IntKind.u64.wrap (IntKind.i64.wrap (s1.2.1 + s1.2.2))) (2 ^ 1)))) () hg1 (Gh.le (SLe.aa (PLe.q rfl) (SLe.aa (PLe.q rfl) (SLe.aa (PLe.q rfl) (SLe.aa (PLe.q rfl) (SLe.aa (PLe.q rfl) SLe.nil))))) BLe.nil (OLe.am rfl OLe.nil))
   ·have H := condF h H
    refine V.aB rfl ?_
    obtain rfl := ai H
    refine V.at (s1.1,s1.2.1,s1.2.2) () hg1 (Gh.le (SLe.aa (PLe.q rfl) (SLe.aa (PLe.q rfl) (SLe.aa (PLe.q rfl) SLe.nil))) BLe.nil (OLe.am rfl OLe.nil))
  ·have H := aW hn1 Hp1
   refine V.seq (V.seq (V.ab (Ao.q tk rfl (Ao.q tk rfl (Ao.nil ?_)))))
   obtain ⟨fl2,H2,Hp2⟩ := aj H
   refine V.cut (τ := List (List LVal) × Int) (γ := Unit) (fun s2 g2=>⟨220,upd (fun _=>.any) 0 (.own 0 g_data (s2.1.map (ag 53 ae)).length),fun _=>none,upd (fun _=>none) 0 (some ⟨g_data,51,(s2.1.map (ag 53 ae)),true⟩)⟩) (fun t=>fl2 = .next t) ?_ (fun s2 g2 hn2=>?_)
   ·refine V.ap ?_
    refine V.fe (fun s2 g2=>⟨220,upd (upd (upd (fun _=>.any) 13 (ac s2.2)) 10 (ac s1.2.1)) 0 (.own 0 g_data (s2.1.map (ag 53 ae)).length),fun _=>none,upd (fun _=>none) 0 (some ⟨g_data,51,(s2.1.map (ag 53 ae)),true⟩)⟩) () H2 (Gh.le (SLe.aa (PLe.q rfl) (SLe.aa (PLe.q rfl) (SLe.aa (PLe.q rfl) SLe.nil))) BLe.nil (OLe.am rfl OLe.nil)) (fun m2 s2 g2 hr2=>?_)
    obtain ⟨fb2,H,hg2⟩ := dV hr2
    refine V.seq (V.seq (V.ab (Ao.q tk rfl (Ao.q tk rfl (Ao.q tk rfl (Ao.q tk rfl (Ao.nil ?_)))))))
    refine V.ak rfl (fun h=>?_) (fun h=>?_)
    ·have H := condT h H
     refine V.al (V.seq (V.ap ?_))
     refine V.gR (tag := 0) rfl (fun ho0=>?_)
     refine V.bc tk mok ⟨false,true,[]⟩ [0,1,2,3,4,5,6,7,8,9,10,11,12,13,14,15,16,17] rfl (by decide +kernel) rfl (Do.q rfl (Do.q rfl (Do.q rfl (Do.q rfl (Do.q rfl (Do.q rfl (Do.q rfl (Do.q rfl ?_))))))))
     obtain ⟨x69,h69,H⟩ := aj H
     have k69 := gIs h69
     refine Do.cP tk rfl rfl rfl rfl rfl rfl rfl rfl ⟨k69.1,(cS k69.2)⟩ (cY ho0 k69.2) rfl ?_
     refine Do.ee tk rfl rfl rfl rfl rfl rfl rfl rfl rfl (aH (fun _=>rfl) k69.2) rfl rfl ?_
     refine Do.q rfl (Do.q rfl ?_)
     obtain ⟨x73,h73,H⟩ := aj H
     have k73 := gIs h73
     refine Do.cP tk rfl rfl rfl rfl rfl rfl rfl rfl ⟨k73.1,(cS k73.2)⟩ (cY ho0 k73.2) rfl ?_
     refine Do.ee tk rfl rfl rfl rfl rfl rfl rfl rfl rfl (aH (fun _=>rfl) k73.2) rfl rfl ?_
     obtain ⟨x75,h75,H⟩ := aj H
     have k75 := gIs h75
     refine Do.cP tk rfl rfl rfl rfl rfl rfl rfl rfl ⟨k75.1,(cS k75.2)⟩ (cY ho0 k75.2) rfl ?_
     obtain ⟨y7,hy7,H⟩ := bA H
     refine Do.gT tk rfl rfl rfl rfl rfl rfl rfl rfl rfl (by rw [List.length_map]; exact (List.getElem?_eq_some_iff.1 k75.2).1) (PLe.refl _ _) rfl rfl rfl rfl (by decide) (eu (fun _=>rfl) k75.2 rfl hy7) ?_
     obtain ⟨x76,h76,H⟩ := aj H
     have k76 := gIs h76
     refine Do.cP tk rfl rfl rfl rfl rfl rfl rfl rfl ⟨k76.1,(og (dR (f := (ag 53 ae)) hy7) k76.2)⟩ (ol ho0 (dR (f := (ag 53 ae)) hy7) k76.2) rfl ?_
     obtain ⟨y8,hy8,H⟩ := bA H
     refine Do.gT tk rfl rfl rfl rfl rfl rfl rfl rfl rfl (by rw [List.length_map]; exact (List.getElem?_eq_some_iff.1 k76.2).1) (PLe.refl _ _) rfl rfl rfl rfl (by decide) (eu (fun _=>rfl) k76.2 rfl hy8) ?_
     refine Do.nil (V.blk (V.ab (Ao.q tk rfl (Ao.q tk rfl (Ao.q tk rfl (Ao.nil ?_))))))
     obtain rfl := ai H
     refine V.ax (y8,(IntKind.i64.wrap (s2.2 + (1 : Int)))) () hg2 (Gh.le (SLe.aa (PLe.of2 (kW.of_eq (congrArg (PV.own 0 g_data) ((dR (f := (ag 53 ae)) hy7).trans (dR (f := (ag 53 ae)) hy8))))) (SLe.aa (PLe.q rfl) (SLe.aa (PLe.q rfl) SLe.nil))) BLe.nil (OLe.am rfl OLe.nil))
    ·have H := condF h H
     refine V.aB rfl ?_
     obtain rfl := ai H
     refine V.at (s2.1,s2.2) () hg2 (Gh.le (SLe.aa (PLe.q rfl) SLe.nil) BLe.nil (OLe.am rfl OLe.nil))
   ·have H := aW hn2 Hp2
    obtain rfl := ai H
    refine V.gh (st' := ⟨220,fun _=>.any,fun _=>none,upd (fun _=>none) 0 (some ⟨g_data,51,(s2.1.map (ag 53 ae)),true⟩)⟩) (Gh.le SLe.nil BLe.nil (OLe.am rfl OLe.nil)) ?_
    refine V.retH tk rfl (ps := []) rfl (PLe.q rfl) ⟨rfl,rfl⟩
 ·have H := condF h H
  refine V.al (V.seq (V.seq (V.ab (Ao.q tk rfl (Ao.q tk rfl (Ao.q tk rfl (Ao.q tk rfl (Ao.nil ?_))))))))
  refine V.ak rfl (fun h=>?_) (fun h=>?_)
  ·have H := condT h H
   refine V.seq (V.ab (Ao.q tk rfl (Ao.q tk rfl (Ao.nil (V.seq (V.ab (Ao.q tk rfl (Ao.q tk rfl (Ao.nil (V.seq ?_))))))))))
   obtain ⟨fl9,H9,Hp9⟩ := aj H
   refine V.cut (τ := List (List LVal) × Int × Int) (γ := Unit) (fun s9 g9=>⟨220,upd (upd (upd (fun _=>.any) 14 (ac s9.2.1)) 2 (ac m)) 0 (.own 0 g_data (s9.1.map (ag 53 ae)).length),fun _=>none,upd (fun _=>none) 0 (some ⟨g_data,51,(s9.1.map (ag 53 ae)),true⟩)⟩) (fun t=>fl9 = .next t) ?_ (fun s9 g9 hn9=>?_)
   ·refine V.ap ?_
    refine V.fe (fun s9 g9=>⟨220,upd (upd (upd (upd (upd (fun _=>.any) 15 (ac s9.2.2)) 14 (ac s9.2.1)) 4 (.fn g_cmp caps_cmp)) 2 (ac m)) 0 (.own 0 g_data (s9.1.map (ag 53 ae)).length),fun _=>none,upd (fun _=>none) 0 (some ⟨g_data,51,(s9.1.map (ag 53 ae)),true⟩)⟩) () H9 (Gh.le (SLe.aa (PLe.q rfl) (SLe.aa (PLe.q rfl) (SLe.aa (PLe.q rfl) (SLe.aa (PLe.q rfl) (SLe.aa (PLe.q rfl) SLe.nil))))) BLe.nil (OLe.am rfl OLe.nil)) (fun m9 s9 g9 hr9=>?_)
    obtain ⟨fb9,H,hg9⟩ := dV hr9
    refine V.seq (V.seq (V.ab (Ao.q tk rfl (Ao.q tk rfl (Ao.q tk rfl (Ao.nil ?_))))))
    refine V.ak rfl (fun h=>?_) (fun h=>?_)
    ·have H := condT h H
     refine V.al (V.ap (V.seq (V.ab (Ao.q tk rfl (Ao.q tk rfl (Ao.q tk rfl (Ao.q tk rfl (Ao.shr (m := 1) rfl rfl rfl rfl (by decide) rfl rfl (Ao.q tk rfl (Ao.q tk rfl (Ao.nil (V.seq ?_))))))))))))
     refine V.gR (tag := 0) rfl (fun ho0=>?_)
     refine V.bc tk mok ⟨false,true,[]⟩ [0,1,2,3,4,5,6,7,8,9,10,11] rfl (by decide +kernel) rfl (Do.q rfl (Do.q rfl (Do.q rfl ?_)))
     obtain ⟨x95,h95,H⟩ := aj H
     have k95 := gIs h95
     refine Do.cP tk rfl rfl rfl rfl rfl rfl rfl rfl ⟨k95.1,(cS k95.2)⟩ (cY ho0 k95.2) rfl ?_
     refine Do.ee tk rfl rfl rfl rfl rfl rfl rfl rfl rfl (aH (fun _=>rfl) k95.2) rfl rfl ?_
     refine Do.q rfl (Do.q rfl ?_)
     obtain ⟨x99,h99,H⟩ := aj H
     have k99 := gIs h99
     refine Do.cP tk rfl rfl rfl rfl rfl rfl rfl rfl ⟨k99.1,(cS k99.2)⟩ (cY ho0 k99.2) rfl ?_
     refine Do.ee tk rfl rfl rfl rfl rfl rfl rfl rfl rfl (aH (fun _=>rfl) k99.2) rfl rfl ?_
     obtain ⟨x101,h101,H⟩ := aj H
     refine Do.aR rfl rfl rfl rfl hg_cmp (il.r) (hp_cmp _ _ _ h101) rfl (Do.q rfl (Do.q rfl (Do.nil ?_)))
     refine V.ak rfl (fun h=>?_) (fun h=>?_)
     ·have H := condT h H
      refine V.ab (Ao.q tk rfl (Ao.q tk rfl (Ao.q tk rfl (Ao.nil (V.blk ?_)))))
      obtain rfl := ai H
      refine V.ax (s9.1,(IntKind.i64.wrap ((IntKind.i64.wrap (Int.fdiv (IntKind.u64.wrap (IntKind.i64.wrap (s9.2.1 + s9.2.2))) (2 ^ 1))) + (1 : Int))),s9.2.2) () hg9 (Gh.le (SLe.aa (PLe.q rfl) (SLe.aa (PLe.q rfl) (SLe.aa (PLe.q rfl) (SLe.aa (PLe.q rfl) (SLe.aa (PLe.q rfl) SLe.nil))))) BLe.nil (OLe.am rfl OLe.nil))
     ·have H := condF h H
      refine V.ab (Ao.q tk rfl (Ao.q tk rfl (Ao.nil (V.blk ?_))))
      obtain rfl := ai H
      refine V.ax (s9.1,s9.2.1,(IntKind.i64.wrap (Int.fdiv (IntKind.u64.wrap (IntKind.i64.wrap (s9.2.1 + s9.2.2))) (2 ^ 1)))) () hg9 (Gh.le (SLe.aa (PLe.q rfl) (SLe.aa (PLe.q rfl) (SLe.aa (PLe.q rfl) (SLe.aa (PLe.q rfl) (SLe.aa (PLe.q rfl) SLe.nil))))) BLe.nil (OLe.am rfl OLe.nil))
    ·have H := condF h H
     refine V.aB rfl ?_
     obtain rfl := ai H
     refine V.at (s9.1,s9.2.1,s9.2.2) () hg9 (Gh.le (SLe.aa (PLe.q rfl) (SLe.aa (PLe.q rfl) (SLe.aa (PLe.q rfl) SLe.nil))) BLe.nil (OLe.am rfl OLe.nil))
   ·have H := aW hn9 Hp9
    refine V.seq (V.seq (V.ab (Ao.q tk rfl (Ao.q tk rfl (Ao.nil ?_)))))
    obtain ⟨fl10,H10,Hp10⟩ := aj H
    refine V.cut (τ := List (List LVal) × Int) (γ := Unit) (fun s10 g10=>⟨220,upd (fun _=>.any) 0 (.own 0 g_data (s10.1.map (ag 53 ae)).length),fun _=>none,upd (fun _=>none) 0 (some ⟨g_data,51,(s10.1.map (ag 53 ae)),true⟩)⟩) (fun t=>fl10 = .next t) ?_ (fun s10 g10 hn10=>?_)
    ·refine V.ap ?_
     refine V.fe (fun s10 g10=>⟨220,upd (upd (upd (fun _=>.any) 17 (ac s10.2)) 14 (ac s9.2.1)) 0 (.own 0 g_data (s10.1.map (ag 53 ae)).length),fun _=>none,upd (fun _=>none) 0 (some ⟨g_data,51,(s10.1.map (ag 53 ae)),true⟩)⟩) () H10 (Gh.le (SLe.aa (PLe.q rfl) (SLe.aa (PLe.q rfl) (SLe.aa (PLe.q rfl) SLe.nil))) BLe.nil (OLe.am rfl OLe.nil)) (fun m10 s10 g10 hr10=>?_)
     obtain ⟨fb10,H,hg10⟩ := dV hr10
     refine V.seq (V.seq (V.ab (Ao.q tk rfl (Ao.q tk rfl (Ao.q tk rfl (Ao.nil ?_))))))
     refine V.ak rfl (fun h=>?_) (fun h=>?_)
     ·have H := condT h H
      refine V.al (V.seq (V.ap ?_))
      refine V.gR (tag := 0) rfl (fun ho0=>?_)
      refine V.bc tk mok ⟨false,true,[]⟩ [0,1,2,3,4,5,6,7,8,9,10,11,12,13,14,15,16,17] rfl (by decide +kernel) rfl (Do.q rfl (Do.q rfl (Do.q rfl (Do.q rfl (Do.q rfl (Do.q rfl (Do.q rfl (Do.q rfl ?_))))))))
      obtain ⟨x121,h121,H⟩ := aj H
      have k121 := gIs h121
      refine Do.cP tk rfl rfl rfl rfl rfl rfl rfl rfl ⟨k121.1,(cS k121.2)⟩ (cY ho0 k121.2) rfl ?_
      refine Do.ee tk rfl rfl rfl rfl rfl rfl rfl rfl rfl (aH (fun _=>rfl) k121.2) rfl rfl ?_
      refine Do.q rfl (Do.q rfl ?_)
      obtain ⟨x125,h125,H⟩ := aj H
      have k125 := gIs h125
      refine Do.cP tk rfl rfl rfl rfl rfl rfl rfl rfl ⟨k125.1,(cS k125.2)⟩ (cY ho0 k125.2) rfl ?_
      refine Do.ee tk rfl rfl rfl rfl rfl rfl rfl rfl rfl (aH (fun _=>rfl) k125.2) rfl rfl ?_
      obtain ⟨x127,h127,H⟩ := aj H
      have k127 := gIs h127
      refine Do.cP tk rfl rfl rfl rfl rfl rfl rfl rfl ⟨k127.1,(cS k127.2)⟩ (cY ho0 k127.2) rfl ?_
      obtain ⟨y15,hy15,H⟩ := bA H
      refine Do.gT tk rfl rfl rfl rfl rfl rfl rfl rfl rfl (by rw [List.length_map]; exact (List.getElem?_eq_some_iff.1 k127.2).1) (PLe.refl _ _) rfl rfl rfl rfl (by decide) (eu (fun _=>rfl) k127.2 rfl hy15) ?_
      obtain ⟨x128,h128,H⟩ := aj H
      have k128 := gIs h128
      refine Do.cP tk rfl rfl rfl rfl rfl rfl rfl rfl ⟨k128.1,(og (dR (f := (ag 53 ae)) hy15) k128.2)⟩ (ol ho0 (dR (f := (ag 53 ae)) hy15) k128.2) rfl ?_
      obtain ⟨y16,hy16,H⟩ := bA H
      refine Do.gT tk rfl rfl rfl rfl rfl rfl rfl rfl rfl (by rw [List.length_map]; exact (List.getElem?_eq_some_iff.1 k128.2).1) (PLe.refl _ _) rfl rfl rfl rfl (by decide) (eu (fun _=>rfl) k128.2 rfl hy16) ?_
      refine Do.nil (V.blk (V.ab (Ao.q tk rfl (Ao.q tk rfl (Ao.q tk rfl (Ao.nil ?_))))))
      obtain rfl := ai H
      refine V.ax (y16,(IntKind.i64.wrap (s10.2 - (1 : Int)))) () hg10 (Gh.le (SLe.aa (PLe.of2 (kW.of_eq (congrArg (PV.own 0 g_data) ((dR (f := (ag 53 ae)) hy15).trans (dR (f := (ag 53 ae)) hy16))))) (SLe.aa (PLe.q rfl) (SLe.aa (PLe.q rfl) SLe.nil))) BLe.nil (OLe.am rfl OLe.nil))
     ·have H := condF h H
      refine V.aB rfl ?_
      obtain rfl := ai H
      refine V.at (s10.1,s10.2) () hg10 (Gh.le (SLe.aa (PLe.q rfl) SLe.nil) BLe.nil (OLe.am rfl OLe.nil))
    ·have H := aW hn10 Hp10
     obtain rfl := ai H
     refine V.gh (st' := ⟨220,fun _=>.any,fun _=>none,upd (fun _=>none) 0 (some ⟨g_data,51,(s10.1.map (ag 53 ae)),true⟩)⟩) (Gh.le SLe.nil BLe.nil (OLe.am rfl OLe.nil)) ?_
     refine V.retH tk rfl (ps := []) rfl (PLe.q rfl) ⟨rfl,rfl⟩
  ·have H := condF h H
   refine V.al (V.seq (V.ab (Ao.q tk rfl (Ao.q tk rfl (Ao.q tk rfl (Ao.q tk rfl (Ao.shr (m := 1) rfl rfl rfl rfl (by decide) rfl rfl (Ao.q tk rfl (Ao.q tk rfl (Ao.nil (V.seq (V.ab (Ao.q tk rfl (Ao.q tk rfl (Ao.q tk rfl (Ao.q tk rfl ?_))))))))))))))))
   refine Ao.nil (V.seq (V.ab (Ao.q tk rfl (Ao.q tk rfl (Ao.nil (V.seq (V.seq (V.ab (Ao.q tk rfl (Ao.q tk rfl (Ao.q tk rfl (Ao.nil ?_))))))))))))
   obtain ⟨fl17,H17,Hp17⟩ := bA H
   refine V.cut (τ := List (List LVal) × Int × Int) (γ := Unit) (fun t17 g17=>⟨220,upd (upd (upd (upd (upd (upd (upd (upd (upd (fun _=>.any) 21 (ac t17.2.2)) 20 (ac t17.2.1)) 19 (ac (IntKind.i64.wrap ((IntKind.i64.wrap (Int.fdiv (IntKind.u64.wrap (IntKind.i64.wrap (a + b))) (2 ^ 1))) + m)))) 18 (ac (IntKind.i64.wrap (Int.fdiv (IntKind.u64.wrap (IntKind.i64.wrap (a + b))) (2 ^ 1))))) 4 (.fn g_cmp caps_cmp)) 3 (ac b)) 2 (ac m)) 1 (ac a)) 0 (.own 0 g_data (t17.1.map (ag 53 ae)).length),fun _=>none,upd (fun _=>none) 0 (some ⟨g_data,51,(t17.1.map (ag 53 ae)),true⟩)⟩) (fun t=>t = fl17) ?_ (fun t17 g17 hn17=>?_)
   ·have H := H17
    refine V.ak rfl (fun h=>?_) (fun h=>?_)
    ·have H := condT h H
     refine V.seq (V.ab (Ao.q tk rfl (Ao.q tk rfl (Ao.q tk rfl (Ao.q tk rfl (Ao.nil (V.ab (Ao.q tk rfl (Ao.q tk rfl (Ao.nil ?_))))))))))
     subst H
     refine V.at (data,(IntKind.i64.wrap ((IntKind.i64.wrap ((IntKind.i64.wrap (Int.fdiv (IntKind.u64.wrap (IntKind.i64.wrap (a + b))) (2 ^ 1))) + m)) - b)),(IntKind.i64.wrap (Int.fdiv (IntKind.u64.wrap (IntKind.i64.wrap (a + b))) (2 ^ 1)))) () rfl (Gh.le (SLe.aa (PLe.q rfl) (SLe.aa (PLe.q rfl) (SLe.aa (PLe.q rfl) (SLe.aa (PLe.q rfl) (SLe.aa (PLe.q rfl) (SLe.aa (PLe.q rfl) (SLe.aa (PLe.q rfl) (SLe.aa (PLe.q rfl) (SLe.aa (PLe.q rfl) SLe.nil))))))))) BLe.nil (OLe.am rfl OLe.nil))
    ·have H := condF h H
     refine V.seq (V.ab (Ao.q tk rfl (Ao.q tk rfl (Ao.nil (V.ab (Ao.q tk rfl (Ao.q tk rfl (Ao.nil ?_))))))))
     subst H
     refine V.at (data,a,m) () rfl (Gh.le (SLe.aa (PLe.q rfl) (SLe.aa (PLe.q rfl) (SLe.aa (PLe.q rfl) (SLe.aa (PLe.q rfl) (SLe.aa (PLe.q rfl) (SLe.aa (PLe.q rfl) (SLe.aa (PLe.q rfl) (SLe.aa (PLe.q rfl) (SLe.aa (PLe.q rfl) SLe.nil))))))))) BLe.nil (OLe.am rfl OLe.nil))
   ·subst hn17
    have H := Hp17
    refine V.seq (V.ab (Ao.q tk rfl (Ao.q tk rfl (Ao.q tk rfl (Ao.nil (V.seq ?_))))))
    obtain ⟨fl18,H18,Hp18⟩ := aj H
    refine V.cut (τ := List (List LVal) × Int × Int) (γ := Unit) (fun s18 g18=>⟨220,upd (upd (upd (upd (upd (upd (upd (upd (fun _=>.any) 20 (ac s18.2.1)) 19 (ac (IntKind.i64.wrap ((IntKind.i64.wrap (Int.fdiv (IntKind.u64.wrap (IntKind.i64.wrap (a + b))) (2 ^ 1))) + m)))) 18 (ac (IntKind.i64.wrap (Int.fdiv (IntKind.u64.wrap (IntKind.i64.wrap (a + b))) (2 ^ 1))))) 4 (.fn g_cmp caps_cmp)) 3 (ac b)) 2 (ac m)) 1 (ac a)) 0 (.own 0 g_data (s18.1.map (ag 53 ae)).length),fun _=>none,upd (fun _=>none) 0 (some ⟨g_data,51,(s18.1.map (ag 53 ae)),true⟩)⟩) (fun t=>fl18 = .next t) ?_ (fun s18 g18 hn18=>?_)
    ·refine V.ap ?_
     refine V.fe (fun s18 g18=>⟨220,upd (upd (upd (upd (upd (upd (upd (upd (upd (upd (fun _=>.any) 22 (ac (IntKind.i64.wrap ((IntKind.i64.wrap ((IntKind.i64.wrap (Int.fdiv (IntKind.u64.wrap (IntKind.i64.wrap (a + b))) (2 ^ 1))) + m)) - (1 : Int))))) 21 (ac s18.2.2)) 20 (ac s18.2.1)) 19 (ac (IntKind.i64.wrap ((IntKind.i64.wrap (Int.fdiv (IntKind.u64.wrap (IntKind.i64.wrap (a + b))) (2 ^ 1))) + m)))) 18 (ac (IntKind.i64.wrap (Int.fdiv (IntKind.u64.wrap (IntKind.i64.wrap (a + b))) (2 ^ 1))))) 4 (.fn g_cmp caps_cmp)) 3 (ac b)) 2 (ac m)) 1 (ac a)) 0 (.own 0 g_data (s18.1.map (ag 53 ae)).length),fun _=>none,upd (fun _=>none) 0 (some ⟨g_data,51,(s18.1.map (ag 53 ae)),true⟩)⟩) () H18 (Gh.le (SLe.aa (PLe.q rfl) (SLe.aa (PLe.q rfl) (SLe.aa (PLe.q rfl) (SLe.aa (PLe.q rfl) (SLe.aa (PLe.q rfl) (SLe.aa (PLe.q rfl) (SLe.aa (PLe.q rfl) (SLe.aa (PLe.q rfl) (SLe.aa (PLe.q rfl) (SLe.aa (PLe.q rfl) SLe.nil)))))))))) BLe.nil (OLe.am rfl OLe.nil)) (fun m18 s18 g18 hr18=>?_)
     obtain ⟨fb18,H,hg18⟩ := dV hr18
     refine V.seq (V.seq (V.ab (Ao.q tk rfl (Ao.q tk rfl (Ao.q tk rfl (Ao.nil ?_))))))
     refine V.ak rfl (fun h=>?_) (fun h=>?_)
     ·have H := condT h H
      refine V.al (V.ap (V.seq (V.ab (Ao.q tk rfl (Ao.q tk rfl (Ao.q tk rfl (Ao.q tk rfl (Ao.shr (m := 1) rfl rfl rfl rfl (by decide) rfl rfl (Ao.q tk rfl (Ao.q tk rfl (Ao.nil (V.seq ?_))))))))))))
      refine V.gR (tag := 0) rfl (fun ho0=>?_)
      refine V.bc tk mok ⟨false,true,[]⟩ [0,1,2,3,4,5,6,7,8,9,10,11,12,13] rfl (by decide +kernel) rfl (Do.q rfl (Do.q rfl (Do.q rfl (Do.q rfl (Do.q rfl ?_)))))
      obtain ⟨x163,h163,H⟩ := aj H
      have k163 := gIs h163
      refine Do.cP tk rfl rfl rfl rfl rfl rfl rfl rfl ⟨k163.1,(cS k163.2)⟩ (cY ho0 k163.2) rfl ?_
      refine Do.ee tk rfl rfl rfl rfl rfl rfl rfl rfl rfl (aH (fun _=>rfl) k163.2) rfl rfl ?_
      refine Do.q rfl (Do.q rfl ?_)
      obtain ⟨x167,h167,H⟩ := aj H
      have k167 := gIs h167
      refine Do.cP tk rfl rfl rfl rfl rfl rfl rfl rfl ⟨k167.1,(cS k167.2)⟩ (cY ho0 k167.2) rfl ?_
      refine Do.ee tk rfl rfl rfl rfl rfl rfl rfl rfl rfl (aH (fun _=>rfl) k167.2) rfl rfl ?_
      obtain ⟨x169,h169,H⟩ := aj H
      refine Do.aR rfl rfl rfl rfl hg_cmp (il.r) (hp_cmp _ _ _ h169) rfl (Do.q rfl (Do.q rfl (Do.nil ?_)))
      refine V.ak rfl (fun h=>?_) (fun h=>?_)
      ·have H := condT h H
       refine V.ab (Ao.q tk rfl (Ao.q tk rfl (Ao.q tk rfl (Ao.nil (V.blk ?_)))))
       obtain rfl := ai H
       refine V.ax (s18.1,(IntKind.i64.wrap ((IntKind.i64.wrap (Int.fdiv (IntKind.u64.wrap (IntKind.i64.wrap (s18.2.1 + s18.2.2))) (2 ^ 1))) + (1 : Int))),s18.2.2) () hg18 (Gh.le (SLe.aa (PLe.q rfl) (SLe.aa (PLe.q rfl) (SLe.aa (PLe.q rfl) (SLe.aa (PLe.q rfl) (SLe.aa (PLe.q rfl) (SLe.aa (PLe.q rfl) (SLe.aa (PLe.q rfl) (SLe.aa (PLe.q rfl) (SLe.aa (PLe.q rfl) (SLe.aa (PLe.q rfl) SLe.nil)))))))))) BLe.nil (OLe.am rfl OLe.nil))
      ·have H := condF h H
       refine V.ab (Ao.q tk rfl (Ao.q tk rfl (Ao.nil (V.blk ?_))))
       obtain rfl := ai H
       refine V.ax (s18.1,s18.2.1,(IntKind.i64.wrap (Int.fdiv (IntKind.u64.wrap (IntKind.i64.wrap (s18.2.1 + s18.2.2))) (2 ^ 1)))) () hg18 (Gh.le (SLe.aa (PLe.q rfl) (SLe.aa (PLe.q rfl) (SLe.aa (PLe.q rfl) (SLe.aa (PLe.q rfl) (SLe.aa (PLe.q rfl) (SLe.aa (PLe.q rfl) (SLe.aa (PLe.q rfl) (SLe.aa (PLe.q rfl) (SLe.aa (PLe.q rfl) (SLe.aa (PLe.q rfl) SLe.nil)))))))))) BLe.nil (OLe.am rfl OLe.nil))
     ·have H := condF h H
      refine V.aB rfl ?_
      obtain rfl := ai H
      refine V.at (s18.1,s18.2.1,s18.2.2) () hg18 (Gh.le (SLe.aa (PLe.q rfl) (SLe.aa (PLe.q rfl) (SLe.aa (PLe.q rfl) (SLe.aa (PLe.q rfl) (SLe.aa (PLe.q rfl) (SLe.aa (PLe.q rfl) (SLe.aa (PLe.q rfl) (SLe.aa (PLe.q rfl) SLe.nil)))))))) BLe.nil (OLe.am rfl OLe.nil))
    ·have H := aW hn18 Hp18
     refine V.seq (V.ab (Ao.q tk rfl (Ao.q tk rfl (Ao.q tk rfl (Ao.q tk rfl (Ao.nil (V.seq (V.seq ?_))))))))
     obtain ⟨fl19,H19,Hp19⟩ := bA H
     refine V.cut (τ := List (List LVal) × Bool) (γ := Unit) (fun t19 g19=>⟨220,upd (upd (upd (upd (upd (upd (upd (upd (upd (fun _=>.any) 185 (au t19.2)) 24 (ac (IntKind.i64.wrap ((IntKind.i64.wrap ((IntKind.i64.wrap (Int.fdiv (IntKind.u64.wrap (IntKind.i64.wrap (a + b))) (2 ^ 1))) + m)) - s18.2.1)))) 20 (ac s18.2.1)) 18 (ac (IntKind.i64.wrap (Int.fdiv (IntKind.u64.wrap (IntKind.i64.wrap (a + b))) (2 ^ 1))))) 4 (.fn g_cmp caps_cmp)) 3 (ac b)) 2 (ac m)) 1 (ac a)) 0 (.own 0 g_data (t19.1.map (ag 53 ae)).length),fun _=>none,upd (fun _=>none) 0 (some ⟨g_data,51,(t19.1.map (ag 53 ae)),true⟩)⟩) (fun t=>t = fl19) ?_ (fun t19 g19 hn19=>?_)
     ·have H := H19
      refine V.ab (Ao.q tk rfl (Ao.q tk rfl (Ao.q tk rfl (Ao.q tk rfl ?_))))
      refine Ao.aA rfl rfl rfl (fun h=>?_) (fun h=>?_)
      ·have H := condT h H
       refine Ao.q tk rfl (Ao.q tk rfl (Ao.q tk rfl (Ao.q tk rfl (Ao.nil ?_))))
       subst H
       refine V.at (s18.1,(decide (m < (IntKind.i64.wrap ((IntKind.i64.wrap ((IntKind.i64.wrap (Int.fdiv (IntKind.u64.wrap (IntKind.i64.wrap (a + b))) (2 ^ 1))) + m)) - s18.2.1))))) () rfl (Gh.le (SLe.aa (PLe.q rfl) (SLe.aa (PLe.q rfl) (SLe.aa (PLe.q rfl) (SLe.aa (PLe.q rfl) (SLe.aa (PLe.q rfl) (SLe.aa (PLe.q rfl) (SLe.aa (PLe.q rfl) (SLe.aa (PLe.q rfl) (SLe.aa (PLe.q rfl) SLe.nil))))))))) BLe.nil (OLe.am rfl OLe.nil))
      ·have H := condF h H
       refine Ao.q tk rfl (Ao.q tk rfl (Ao.q tk rfl (Ao.q tk rfl (Ao.nil ?_))))
       subst H
       refine V.at (s18.1,false) () rfl (Gh.le (SLe.aa (PLe.q rfl) (SLe.aa (PLe.q rfl) (SLe.aa (PLe.q rfl) (SLe.aa (PLe.q rfl) (SLe.aa (PLe.q rfl) (SLe.aa (PLe.q rfl) (SLe.aa (PLe.q rfl) (SLe.aa (PLe.q rfl) (SLe.aa (PLe.q rfl) SLe.nil))))))))) BLe.nil (OLe.am rfl OLe.nil))
     ·subst hn19
      have H := Hp19
      obtain ⟨fl20,H20,Hp20⟩ := aj H
      refine V.cut (τ := List (List LVal)) (γ := Unit) (fun t20 g20=>⟨220,upd (upd (upd (upd (upd (upd (upd (fun _=>.any) 24 (ac (IntKind.i64.wrap ((IntKind.i64.wrap ((IntKind.i64.wrap (Int.fdiv (IntKind.u64.wrap (IntKind.i64.wrap (a + b))) (2 ^ 1))) + m)) - s18.2.1)))) 20 (ac s18.2.1)) 18 (ac (IntKind.i64.wrap (Int.fdiv (IntKind.u64.wrap (IntKind.i64.wrap (a + b))) (2 ^ 1))))) 4 (.fn g_cmp caps_cmp)) 3 (ac b)) 1 (ac a)) 0 (.own 0 g_data (t20.map (ag 53 ae)).length),fun _=>none,upd (fun _=>none) 0 (some ⟨g_data,51,(t20.map (ag 53 ae)),true⟩)⟩) (fun t=>t = fl20) ?_ (fun t20 g20 hn20=>?_)
      ·have H := H20
       refine V.ak rfl (fun h=>?_) (fun h=>?_)
       ·have H := condT h H
        refine V.ab (Ao.q tk rfl (Ao.q tk rfl (Ao.q tk rfl (Ao.q tk rfl (Ao.q tk rfl ?_)))))
        obtain ⟨x191,h191,H⟩ := aj H
        have s191 := jR g_data t19.1 s18.2.1 m (IntKind.i64.wrap ((IntKind.i64.wrap ((IntKind.i64.wrap (Int.fdiv (IntKind.u64.wrap (IntKind.i64.wrap (a + b))) (2 ^ 1))) + m)) - s18.2.1)) cmp hg_cmp hp_cmp _ h191
        obtain ⟨_,q191_0,H⟩ := aj H
        have l191_0 := (cF q191_0).1
        have z191_0 : (List.map (ag 53 ae) t19.1).length = (List.map (ag 53 ae) x191).length := by simpa using (l191_0).symm
        refine Ao.dr (g := 211) rfl rfl rfl Tryz.call211 [] [(0,0)] rfl rfl rfl rfl (il.of2 (fQ.cons (kW.own rfl) (fQ.cons (kW.of_eq rfl) (fQ.cons (kW.of_eq rfl) (fQ.cons (kW.of_eq rfl) (fQ.cons (kW.of_eq rfl) fQ.nil)))))) (by rw [cN,cx,cO]; rfl) s191 ?_
        rintro u191 H191h ⟨rfl,rfl⟩
        refine ⟨_,rfl,?_⟩
        refine Ao.gh (st' := ⟨_,_,fun _=>none,upd (fun _=>none) 0 (some ⟨g_data,51,(x191.map (ag 53 ae)),true⟩)⟩) (Gh.le (SLe.cq _ _) BLe.nil (OLe.am rfl OLe.nil)) ?_
        refine Ao.nil ?_
        obtain rfl := ai H
        refine V.at x191 () rfl (Gh.le (SLe.aa (PLe.of2 (kW.of_eq (congrArg (PV.own 0 g_data) z191_0))) (SLe.aa (PLe.q rfl) (SLe.aa (PLe.q rfl) (SLe.aa (PLe.q rfl) (SLe.aa (PLe.q rfl) (SLe.aa (PLe.q rfl) (SLe.aa (PLe.q rfl) SLe.nil))))))) BLe.nil (OLe.am rfl OLe.nil))
       ·have H := condF h H
        refine V.al ?_
        obtain rfl := ai H
        refine V.at t19.1 () rfl (Gh.le (SLe.aa (PLe.q rfl) (SLe.aa (PLe.q rfl) (SLe.aa (PLe.q rfl) (SLe.aa (PLe.q rfl) (SLe.aa (PLe.q rfl) (SLe.aa (PLe.q rfl) (SLe.aa (PLe.q rfl) SLe.nil))))))) BLe.nil (OLe.am rfl OLe.nil))
      ·subst hn20
       have H := Hp20
       refine V.seq (V.seq ?_)
       obtain ⟨fl21,H21,Hp21⟩ := bA H
       refine V.cut (τ := List (List LVal) × Bool) (γ := Unit) (fun t21 g21=>⟨220,upd (upd (upd (upd (upd (upd (upd (upd (fun _=>.any) 199 (au t21.2)) 24 (ac (IntKind.i64.wrap ((IntKind.i64.wrap ((IntKind.i64.wrap (Int.fdiv (IntKind.u64.wrap (IntKind.i64.wrap (a + b))) (2 ^ 1))) + m)) - s18.2.1)))) 20 (ac s18.2.1)) 18 (ac (IntKind.i64.wrap (Int.fdiv (IntKind.u64.wrap (IntKind.i64.wrap (a + b))) (2 ^ 1))))) 4 (.fn g_cmp caps_cmp)) 3 (ac b)) 1 (ac a)) 0 (.own 0 g_data (t21.1.map (ag 53 ae)).length),fun _=>none,upd (fun _=>none) 0 (some ⟨g_data,51,(t21.1.map (ag 53 ae)),true⟩)⟩) (fun t=>t = fl21) ?_ (fun t21 g21 hn21=>?_)
       ·have H := H21
        refine V.ab (Ao.q tk rfl (Ao.q tk rfl (Ao.q tk rfl (Ao.q tk rfl ?_))))
        refine Ao.aA rfl rfl rfl (fun h=>?_) (fun h=>?_)
        ·have H := condT h H
         refine Ao.q tk rfl (Ao.q tk rfl (Ao.q tk rfl (Ao.q tk rfl (Ao.nil ?_))))
         subst H
         refine V.at (t20,(decide (s18.2.1 < (IntKind.i64.wrap (Int.fdiv (IntKind.u64.wrap (IntKind.i64.wrap (a + b))) (2 ^ 1)))))) () rfl (Gh.le (SLe.aa (PLe.q rfl) (SLe.aa (PLe.q rfl) (SLe.aa (PLe.q rfl) (SLe.aa (PLe.q rfl) (SLe.aa (PLe.q rfl) (SLe.aa (PLe.q rfl) (SLe.aa (PLe.q rfl) (SLe.aa (PLe.q rfl) SLe.nil)))))))) BLe.nil (OLe.am rfl OLe.nil))
        ·have H := condF h H
         refine Ao.q tk rfl (Ao.q tk rfl (Ao.q tk rfl (Ao.q tk rfl (Ao.nil ?_))))
         subst H
         refine V.at (t20,false) () rfl (Gh.le (SLe.aa (PLe.q rfl) (SLe.aa (PLe.q rfl) (SLe.aa (PLe.q rfl) (SLe.aa (PLe.q rfl) (SLe.aa (PLe.q rfl) (SLe.aa (PLe.q rfl) (SLe.aa (PLe.q rfl) (SLe.aa (PLe.q rfl) SLe.nil)))))))) BLe.nil (OLe.am rfl OLe.nil))
       ·subst hn21
        have H := Hp21
        obtain ⟨fl22,H22,Hp22⟩ := aj H
        refine V.cut (τ := List (List LVal)) (γ := Unit) (fun t22 g22=>⟨220,upd (upd (upd (upd (upd (fun _=>.any) 24 (ac (IntKind.i64.wrap ((IntKind.i64.wrap ((IntKind.i64.wrap (Int.fdiv (IntKind.u64.wrap (IntKind.i64.wrap (a + b))) (2 ^ 1))) + m)) - s18.2.1)))) 18 (ac (IntKind.i64.wrap (Int.fdiv (IntKind.u64.wrap (IntKind.i64.wrap (a + b))) (2 ^ 1))))) 4 (.fn g_cmp caps_cmp)) 3 (ac b)) 0 (.own 0 g_data (t22.map (ag 53 ae)).length),fun _=>none,upd (fun _=>none) 0 (some ⟨g_data,51,(t22.map (ag 53 ae)),true⟩)⟩) (fun t=>t = fl22) ?_ (fun t22 g22 hn22=>?_)
        ·have H := H22
         refine V.ak rfl (fun h=>?_) (fun h=>?_)
         ·have H := condT h H
          refine V.ab (Ao.q tk rfl (Ao.q tk rfl (Ao.q tk rfl (Ao.q tk rfl (Ao.q tk rfl ?_)))))
          obtain ⟨x205,h205,H⟩ := aj H
          have s205 := hrec204 g_data t21.1 a s18.2.1 (IntKind.i64.wrap (Int.fdiv (IntKind.u64.wrap (IntKind.i64.wrap (a + b))) (2 ^ 1))) _ h205
          obtain ⟨_,q205_0,H⟩ := aj H
          have l205_0 := (cF q205_0).1
          have z205_0 : (List.map (ag 53 ae) t21.1).length = (List.map (ag 53 ae) x205).length := by simpa using (l205_0).symm
          refine Ao.dr (g := 204) rfl rfl rfl Tryz.call204 [] [(0,0)] rfl rfl rfl rfl (il.of2 (fQ.cons (kW.own rfl) (fQ.cons (kW.of_eq rfl) (fQ.cons (kW.of_eq rfl) (fQ.cons (kW.of_eq rfl) (fQ.cons (kW.of_eq rfl) fQ.nil)))))) (by rw [cN,cx,cO]; rfl) s205 ?_
          rintro u205 H205h ⟨rfl,rfl⟩
          refine ⟨_,rfl,?_⟩
          refine Ao.gh (st' := ⟨_,_,fun _=>none,upd (fun _=>none) 0 (some ⟨g_data,51,(x205.map (ag 53 ae)),true⟩)⟩) (Gh.le (SLe.cq _ _) BLe.nil (OLe.am rfl OLe.nil)) ?_
          refine Ao.nil ?_
          obtain rfl := ai H
          refine V.at x205 () rfl (Gh.le (SLe.aa (PLe.of2 (kW.of_eq (congrArg (PV.own 0 g_data) z205_0))) (SLe.aa (PLe.q rfl) (SLe.aa (PLe.q rfl) (SLe.aa (PLe.q rfl) (SLe.aa (PLe.q rfl) SLe.nil))))) BLe.nil (OLe.am rfl OLe.nil))
         ·have H := condF h H
          refine V.al ?_
          obtain rfl := ai H
          refine V.at t21.1 () rfl (Gh.le (SLe.aa (PLe.q rfl) (SLe.aa (PLe.q rfl) (SLe.aa (PLe.q rfl) (SLe.aa (PLe.q rfl) (SLe.aa (PLe.q rfl) SLe.nil))))) BLe.nil (OLe.am rfl OLe.nil))
        ·subst hn22
         have H := Hp22
         refine V.seq (V.ab (Ao.q tk rfl (Ao.q tk rfl (Ao.q tk rfl (Ao.q tk rfl ?_)))))
         refine Ao.aA rfl rfl rfl (fun h=>?_) (fun h=>?_)
         ·have H := condT h H
          refine Ao.q tk rfl (Ao.q tk rfl (Ao.q tk rfl (Ao.q tk rfl (Ao.nil ?_))))
          refine V.ak rfl (fun h=>?_) (fun h=>?_)
          ·have H := condT h H
           refine V.ab (Ao.q tk rfl (Ao.q tk rfl (Ao.q tk rfl (Ao.q tk rfl (Ao.q tk rfl ?_)))))
           obtain ⟨x219,h219,H⟩ := aj H
           have s219 := hrec204 g_data t22 (IntKind.i64.wrap (Int.fdiv (IntKind.u64.wrap (IntKind.i64.wrap (a + b))) (2 ^ 1))) (IntKind.i64.wrap ((IntKind.i64.wrap ((IntKind.i64.wrap (Int.fdiv (IntKind.u64.wrap (IntKind.i64.wrap (a + b))) (2 ^ 1))) + m)) - s18.2.1)) b _ h219
           obtain ⟨_,q219_0,H⟩ := aj H
           have l219_0 := (cF q219_0).1
           have z219_0 : (List.map (ag 53 ae) t22).length = (List.map (ag 53 ae) x219).length := by simpa using (l219_0).symm
           refine Ao.dr (g := 204) rfl rfl rfl Tryz.call204 [] [(0,0)] rfl rfl rfl rfl (il.of2 (fQ.cons (kW.own rfl) (fQ.cons (kW.of_eq rfl) (fQ.cons (kW.of_eq rfl) (fQ.cons (kW.of_eq rfl) (fQ.cons (kW.of_eq rfl) fQ.nil)))))) (by rw [cN,cx,cO]; rfl) s219 ?_
           rintro u219 H219h ⟨rfl,rfl⟩
           refine ⟨_,rfl,?_⟩
           refine Ao.gh (st' := ⟨_,_,fun _=>none,upd (fun _=>none) 0 (some ⟨g_data,51,(x219.map (ag 53 ae)),true⟩)⟩) (Gh.le (SLe.cq _ _) BLe.nil (OLe.am rfl OLe.nil)) ?_
           refine Ao.nil ?_
           obtain rfl := ai H
           refine V.gh (st' := ⟨220,fun _=>.any,fun _=>none,upd (fun _=>none) 0 (some ⟨g_data,51,(x219.map (ag 53 ae)),true⟩)⟩) (Gh.le SLe.nil BLe.nil (OLe.am rfl OLe.nil)) ?_
           refine V.endH rfl (PLe.q rfl) ⟨rfl,rfl⟩
          ·have H := condF h H
           refine V.al ?_
           obtain rfl := ai H
           refine V.gh (st' := ⟨220,fun _=>.any,fun _=>none,upd (fun _=>none) 0 (some ⟨g_data,51,(t22.map (ag 53 ae)),true⟩)⟩) (Gh.le SLe.nil BLe.nil (OLe.am rfl OLe.nil)) ?_
           refine V.endH rfl (PLe.q rfl) ⟨rfl,rfl⟩
         ·have H := condF h H
          refine Ao.q tk rfl (Ao.q tk rfl (Ao.q tk rfl (Ao.q tk rfl (Ao.nil (V.be rfl (V.al ?_))))))
          obtain rfl := ai H
          refine V.gh (st' := ⟨220,fun _=>.any,fun _=>none,upd (fun _=>none) 0 (some ⟨g_data,51,(t22.map (ag 53 ae)),true⟩)⟩) (Gh.le SLe.nil BLe.nil (OLe.am rfl OLe.nil)) ?_
          refine V.endH rfl (PLe.q rfl) ⟨rfl,rfl⟩
def aU : Nat → (List (List LVal)) → Int → Int → Int → ((List LVal) → (List LVal) → Option (Int)) → Option ((List (List LVal)))
 | 0,_,_,_,_,_=>none
 | n + 1,v0,v1,v2,v3,v4=>bN (fun b0 b1 b2 b3=>aU n b0 b1 b2 b3 v4) v0 v1 v2 v3 v4
theorem jh {g_cmp : FuncId} {caps_cmp : List PV} (cmp : (List LVal) → (List LVal) → Option (Int)) (hg_cmp : ∀ (vs : Array Value) (w : World),(callFunc g_cmp vs).run Tryz.prog w = .ok (.enter g_cmp vs) w) (hp_cmp : ∀ a0 a1 r,cmp a0 a1 = some r → aG Tryz.prog g_cmp ((.list 53 (a0.map ae)) :: (.list 53 (a1.map ae)) :: caps_cmp) (ac r)) (n : Nat) : (∀ g0 a0 a1 a2 a3 r,aU n a0 a1 a2 a3 cmp = some r → PH Tryz.prog 204 [(.own 0 g0 (a0.map (ag 53 ae)).length),(ac a1),(ac a2),(ac a3),(.fn g_cmp caps_cmp)] ⟨fun _=>none,upd (fun _=>none) 0 (some ⟨g0,51,(a0.map (ag 53 ae)),true⟩)⟩ (fun u H=>u = (.tup []) ∧ H = ⟨fun _=>none,upd (fun _=>none) 0 (some ⟨g0,51,(r.map (ag 53 ae)),true⟩)⟩)) := by
 induction n with
 | zero=>exact (by intros; rename_i h; exact absurd (show (none : Option _) = some _ from h) (by simp))
 | succ n ih =>
  exact (fun g0 v0 v1 v2 v3 r h=>jf g0 (fun b0 b1 b2 b3=>aU n b0 b1 b2 b3 cmp) ih v0 v1 v2 v3 cmp hg_cmp hp_cmp r h)
def dJ (data : List (List LVal)) (a : Int) (m : Int) (b : Int) (cmp : (List LVal) → (List LVal) → Option (Int)) : Option ((List (List LVal))) := gG fun n=>aU n data a m b cmp
theorem gz (g_data : OwnRef) {g_cmp : FuncId} {caps_cmp : List PV} (data : List (List LVal)) (a : Int) (m : Int) (b : Int) (cmp : (List LVal) → (List LVal) → Option (Int)) (hg_cmp : ∀ (vs : Array Value) (w : World),(callFunc g_cmp vs).run Tryz.prog w = .ok (.enter g_cmp vs) w) (hp_cmp : ∀ a0 a1 r,cmp a0 a1 = some r → aG Tryz.prog g_cmp ((.list 53 (a0.map ae)) :: (.list 53 (a1.map ae)) :: caps_cmp) (ac r)) (r : (List (List LVal))) (H : dJ data a m b cmp = some r) :
  PH Tryz.prog 204 [(.own 0 g_data (data.map (ag 53 ae)).length),(ac a),(ac m),(ac b),(.fn g_cmp caps_cmp)] ⟨fun _=>none,upd (fun _=>none) 0 (some ⟨g_data,51,(data.map (ag 53 ae)),true⟩)⟩ (fun u H=>u = (.tup []) ∧ H = ⟨fun _=>none,upd (fun _=>none) 0 (some ⟨g_data,51,(r.map (ag 53 ae)),true⟩)⟩) := by
 obtain ⟨n,h⟩ := im H
 exact (jh cmp hg_cmp hp_cmp n) g_data data a m b r h
end
end Go.Proofs.YtgaggbdcedpapaaGreat

namespace Go.Proofs.YtgaggbdcedpapaaGreat
noncomputable section
open Go Go.Ab
attribute [local irreducible] V Ao Do Gh Eff PH IntKind.wrap
set_option maxRecDepth 4000
def dP (t : LTable) : Option (Int) :=
 af (ed t.name) fun x11 =>
 cond (!x11)
  (some 23)
  (cond ((t.columns.length : Int) == (0 : Int))
   (some 3)
   (cond (decide ((t.columns.length : Int) > (6 : Int)))
    (some 2)
    (af (aE (σ := Unit) (ρ := (Int)) (fun (j1 : Nat) (x1 : LCol) (_ : Unit) =>
     af (ed x1.name) fun x31 =>
     cond (!x31)
      (some (.ret 23))
      (af (eG t x1.name) fun x37 =>
      cond (decide (x37.1 < (j1 : Int)))
       (some (.ret 5))
       (cond (decide (x1.kind < (1 : Int)))
        (some (.ret 7))
        (cond (decide (x1.kind > (3 : Int)))
         (some (.ret 7))
         (some (.next ())))))) 0 t.columns ()) fun fl1=>fl1.thenR fun (_ : Unit) =>
    af (aE (σ := Unit) (ρ := (Int)) (fun (j2 : Nat) (x2 : Int) (_ : Unit) =>
     cond (decide (x2 < (0 : Int)))
      (some (.ret 9))
      (cond (decide (x2 ≥ (t.columns.length : Int)))
       (some (.ret 9))
       (af (aC t.columns x2) fun (x73 : LCol) =>
       cond x73.nullable
        (some (.ret 9))
        (cond (decide ((j2 : Int) > (0 : Int)))
         (af (aC t.primaryKey (IntKind.i64.wrap ((j2 : Int) - (1 : Int)))) fun (x86 : Int) =>
         cond (decide (x2 ≤ x86))
          (some (.ret 9))
          (some (.next ())))
         (some (.next ())))))) 0 t.primaryKey ()) fun fl2=>fl2.thenR fun (_ : Unit) =>
    cond ((t.primaryKey.length : Int) == (0 : Int))
     (some 9)
     (some 0))))
set_option maxHeartbeats 4000000 in
theorem mt (t : LTable) (r : Int) (H : dP t = some r) :
  aG Tryz.prog 98 [(.agg (aO t))] (ac r) := by
 unfold dP at H
 refine PH.intro Tryz.func98 rfl Tryz.ntmps98 rfl ?_
 refine V.seq (V.ab (Ao.aF rfl rfl rfl rfl rfl rfl (Ao.q tk rfl (Ao.nil (V.seq (V.seq (V.ab (Ao.q tk rfl (Ao.q tk rfl ?_)))))))))
 obtain ⟨x11,h11,H⟩ := aj H
 have s11 := kS t.name _ h11
 refine Ao.ah (g := 143) rfl rfl rfl Tryz.call143 (il.r) s11 rfl (Ao.q tk rfl (Ao.nil ?_))
 refine V.ak rfl (fun h=>?_) (fun h=>?_)
 ·have H := condT h H
  refine V.seq (V.ab (Ao.q tk rfl (Ao.nil ?_)))
  obtain rfl := ai H
  refine V.aq tk rfl (ps := [(ac 23)]) ⟨_,_,rfl,rfl,rfl⟩ (PLe.q rfl)
 ·have H := condF h H
  refine V.al (V.seq (V.seq (V.ab (Ao.q tk rfl (Ao.q tk rfl (Ao.ay tk rfl rfl rfl rfl rfl (List.length_map _) rfl (Ao.q tk rfl (Ao.nil ?_))))))))
  refine V.ak rfl (fun h=>?_) (fun h=>?_)
  ·have H := condT h H
   refine V.seq (V.ab (Ao.q tk rfl (Ao.nil ?_)))
   obtain rfl := ai H
   refine V.aq tk rfl (ps := [(ac 3)]) ⟨_,_,rfl,rfl,rfl⟩ (PLe.q rfl)
  ·have H := condF h H
   refine V.al (V.seq (V.seq (V.ab (Ao.q tk rfl (Ao.q tk rfl (Ao.ay tk rfl rfl rfl rfl rfl (List.length_map _) rfl (Ao.q tk rfl (Ao.nil ?_))))))))
   refine V.ak rfl (fun h=>?_) (fun h=>?_)
   ·have H := condT h H
    refine V.seq (V.ab (Ao.q tk rfl (Ao.nil ?_)))
    obtain rfl := ai H
    refine V.aq tk rfl (ps := [(ac 2)]) ⟨_,_,rfl,rfl,rfl⟩ (PLe.q rfl)
   ·have H := condF h H
    refine V.al (V.seq (V.seq (V.ab (Ao.q tk rfl (Ao.q tk rfl (Ao.ay tk rfl rfl rfl rfl rfl (List.length_map _) rfl (Ao.q tk rfl (Ao.nil ?_))))))))
    obtain ⟨fl1,H1,Hp1⟩ := aj H
    refine V.aZ tk 22 rfl rfl (fun hz1 _=>?_)
    rw [List.length_map] at hz1
    refine V.cut (τ := Unit) (γ := Unit) (fun s1 g1=>⟨96,upd (fun _=>.any) 1 (.ptr [(.str t.name),(.list 50 (t.columns.map av)),(.list 3 (t.primaryKey.map aV))]),fun _=>none,fun _=>none⟩) (fun t=>fl1 = .next t) ?_ (fun s1 g1 hn1=>?_)
    ·refine V.ap ?_
     refine V.aP (fun j1 s1 g1=>⟨96,upd (upd (upd (upd (fun _=>.any) 24 (ac (j1 : Int))) 23 (ac (t.columns.length : Int))) 22 (.list 50 (t.columns.map av))) 1 (.ptr [(.str t.name),(.list 50 (t.columns.map av)),(.list 3 (t.primaryKey.map aV))]),fun _=>none,fun _=>none⟩) () H1 (Gh.le (SLe.aa (PLe.q rfl) (SLe.aa (PLe.q rfl) (SLe.aa (PLe.q rfl) (SLe.aa (PLe.q rfl) SLe.nil)))) BLe.nil OLe.nil) (fun j1 s1 g1 hj1 hr1=>?_)
     refine V.seq (V.ab (Ao.q tk rfl (Ao.nil (V.seq ?_))))
     refine V.ak rfl (fun h=>?_) (fun h=>?_)
     ·have hl1 := bn h
      obtain ⟨x1,fb1,hx1,H,hg1⟩ := rMc hl1 hr1
      refine V.al (V.seq (V.ap (V.seq (V.ab (Ao.q tk rfl ?_)))))
      refine Ao.idx tk rfl rfl rfl rfl rfl rfl (Int.natCast_nonneg j1) (aY (fun _=>rfl) hx1) rfl ?_
      refine Ao.q tk rfl ?_
      refine Ao.aJ tk rfl rfl rfl rfl rfl rfl fun b4=>?_
      refine Ao.q tk rfl (Ao.sB tk rfl rfl rfl rfl rfl rfl rfl rfl rfl rfl rfl (Ao.nil (V.seq (V.seq (V.ab (Ao.q tk rfl (Ao.lB tk rfl rfl rfl rfl rfl rfl rfl ?_)))))))
      obtain ⟨x31,h31,H⟩ := aj H
      have s31 := kS x1.name _ h31
      refine Ao.ah (g := 143) rfl rfl rfl Tryz.call143 (il.r) s31 rfl (Ao.q tk rfl (Ao.nil ?_))
      refine V.ak rfl (fun h=>?_) (fun h=>?_)
      ·have H := condT h H
       refine V.seq (V.ab (Ao.q tk rfl (Ao.nil ?_)))
       obtain rfl := ai H
       have e1 : fl1 = .ret _ := hg1
       subst e1
       obtain rfl := aL Hp1
       refine V.aq tk rfl (ps := [(ac 23)]) ⟨_,_,rfl,rfl,rfl⟩ (PLe.q rfl)
      ·have H := condF h H
       refine V.al (V.seq (V.seq (V.ab (Ao.q tk rfl (Ao.q tk rfl (Ao.lB tk rfl rfl rfl rfl rfl rfl rfl ?_))))))
       obtain ⟨x37,h37,H⟩ := aj H
       have s37 := nC t x1.name _ h37
       refine Ao.ah (g := 144) rfl rfl rfl Tryz.call144 (il.r) s37 rfl (Ao.q tk rfl (Ao.q tk rfl (Ao.q tk rfl (Ao.q tk rfl (Ao.q tk rfl (Ao.nil (V.seq (V.ab (Ao.q tk rfl (Ao.q tk rfl (Ao.q tk rfl (Ao.nil ?_))))))))))))
       refine V.ak rfl (fun h=>?_) (fun h=>?_)
       ·have H := condT h H
        refine V.seq (V.ab (Ao.q tk rfl (Ao.nil ?_)))
        obtain rfl := ai H
        have e1 : fl1 = .ret _ := hg1
        subst e1
        obtain rfl := aL Hp1
        refine V.aq tk rfl (ps := [(ac 5)]) ⟨_,_,rfl,rfl,rfl⟩ (PLe.q rfl)
       ·have H := condF h H
        refine V.al (V.seq (V.ab (Ao.q tk rfl (Ao.lB tk rfl rfl rfl rfl rfl rfl rfl (Ao.q tk rfl (Ao.q tk rfl ?_))))))
        refine Ao.aA rfl rfl rfl (fun h=>?_) (fun h=>?_)
        ·have H := condT h H
         refine Ao.q tk rfl (Ao.q tk rfl (Ao.q tk rfl (Ao.q tk rfl (Ao.nil (V.bu rfl (V.seq (V.ab (Ao.q tk rfl (Ao.nil ?_)))))))))
         obtain rfl := ai H
         have e1 : fl1 = .ret _ := hg1
         subst e1
         obtain rfl := aL Hp1
         refine V.aq tk rfl (ps := [(ac 7)]) ⟨_,_,rfl,rfl,rfl⟩ (PLe.q rfl)
        ·have H := condF h H
         refine Ao.q tk rfl (Ao.lB tk rfl rfl rfl rfl rfl rfl rfl (Ao.q tk rfl (Ao.q tk rfl (Ao.nil ?_))))
         refine V.ak rfl (fun h=>?_) (fun h=>?_)
         ·have H := condT h H
          refine V.seq (V.ab (Ao.q tk rfl (Ao.nil ?_)))
          obtain rfl := ai H
          have e1 : fl1 = .ret _ := hg1
          subst e1
          obtain rfl := aL Hp1
          refine V.aq tk rfl (ps := [(ac 7)]) ⟨_,_,rfl,rfl,rfl⟩ (PLe.q rfl)
         ·have H := condF h H
          refine V.al (V.blk (V.ab (Ao.q tk rfl (Ao.q tk rfl (Ao.nil ?_)))))
          obtain rfl := ai H
          refine V.ax () () ⟨hl1,hg1⟩ (Gh.le (SLe.aa (PLe.q rfl) (SLe.aa (PLe.q rfl) (SLe.aa (PLe.q rfl) (SLe.aa (PLe.q (az (by omega))) SLe.nil)))) BLe.nil OLe.nil)
     ·have hn1 := rMd (bm h) hr1
      refine V.aB rfl ?_
      refine V.at s1 g1 hn1 (Gh.le (SLe.aa (PLe.q rfl) SLe.nil) BLe.nil OLe.nil)
    ·have H := br hn1 Hp1
     refine V.seq (V.seq (V.ab (Ao.q tk rfl (Ao.q tk rfl (Ao.ay tk rfl rfl rfl rfl rfl (List.length_map _) rfl (Ao.q tk rfl (Ao.nil ?_)))))))
     obtain ⟨fl2,H2,Hp2⟩ := aj H
     refine V.aZ tk 53 rfl rfl (fun hz2 _=>?_)
     rw [List.length_map] at hz2
     refine V.cut (τ := Unit) (γ := Unit) (fun s2 g2=>⟨96,upd (fun _=>.any) 1 (.ptr [(.str t.name),(.list 50 (t.columns.map av)),(.list 3 (t.primaryKey.map aV))]),fun _=>none,fun _=>none⟩) (fun t=>fl2 = .next t) ?_ (fun s2 g2 hn2=>?_)
     ·refine V.ap ?_
      refine V.aP (fun j2 s2 g2=>⟨96,upd (upd (upd (upd (fun _=>.any) 55 (ac (j2 : Int))) 54 (ac (t.primaryKey.length : Int))) 53 (.list 3 (t.primaryKey.map aV))) 1 (.ptr [(.str t.name),(.list 50 (t.columns.map av)),(.list 3 (t.primaryKey.map aV))]),fun _=>none,fun _=>none⟩) () H2 (Gh.le (SLe.aa (PLe.q rfl) (SLe.aa (PLe.q rfl) (SLe.aa (PLe.q rfl) (SLe.aa (PLe.q rfl) SLe.nil)))) BLe.nil OLe.nil) (fun j2 s2 g2 hj2 hr2=>?_)
      refine V.seq (V.ab (Ao.q tk rfl (Ao.nil (V.seq ?_))))
      refine V.ak rfl (fun h=>?_) (fun h=>?_)
      ·have hl2 := bn h
       obtain ⟨x2,fb2,hx2,H,hg2⟩ := rMc hl2 hr2
       refine V.al (V.seq (V.ap (V.seq (V.ab (Ao.q tk rfl ?_)))))
       refine Ao.idx tk rfl rfl rfl rfl rfl rfl (Int.natCast_nonneg j2) (aY (fun _=>rfl) hx2) rfl ?_
       refine Ao.q tk rfl (Ao.q tk rfl (Ao.q tk rfl (Ao.nil (V.seq (V.ab (Ao.q tk rfl (Ao.q tk rfl (Ao.q tk rfl ?_))))))))
       refine Ao.aA rfl rfl rfl (fun h=>?_) (fun h=>?_)
       ·have H := condT h H
        refine Ao.q tk rfl (Ao.q tk rfl (Ao.q tk rfl (Ao.q tk rfl (Ao.q tk rfl (Ao.q tk rfl (Ao.q tk rfl (Ao.q tk rfl (Ao.q tk rfl (Ao.q tk rfl (Ao.q tk rfl (Ao.q tk rfl (Ao.q tk rfl (Ao.q tk rfl (Ao.q tk rfl (Ao.q tk rfl (Ao.q tk rfl (Ao.q tk rfl (Ao.q tk rfl (Ao.q tk rfl (Ao.q tk rfl (Ao.q tk rfl (Ao.q tk rfl (Ao.q tk rfl (Ao.q tk rfl (Ao.q tk rfl (Ao.q tk rfl (Ao.q tk rfl ?_)))))))))))))))))))))))))))
        refine Ao.nil (V.bu rfl (V.seq (V.ab (Ao.q tk rfl (Ao.nil ?_)))))
        obtain rfl := ai H
        have e2 : fl2 = .ret _ := hg2
        subst e2
        obtain rfl := aL Hp2
        refine V.aq tk rfl (ps := [(ac 9)]) ⟨_,_,rfl,rfl,rfl⟩ (PLe.q rfl)
       ·have H := condF h H
        refine Ao.q tk rfl (Ao.q tk rfl (Ao.q tk rfl (Ao.ay tk rfl rfl rfl rfl rfl (List.length_map _) rfl (Ao.q tk rfl (Ao.q tk rfl (Ao.q tk rfl ?_))))))
        refine Ao.aA rfl rfl rfl (fun h=>?_) (fun h=>?_)
        ·have H := condT h H
         refine Ao.q tk rfl (Ao.q tk rfl (Ao.q tk rfl (Ao.q tk rfl (Ao.q tk rfl (Ao.q tk rfl (Ao.q tk rfl (Ao.q tk rfl (Ao.q tk rfl (Ao.q tk rfl (Ao.q tk rfl (Ao.q tk rfl (Ao.q tk rfl (Ao.q tk rfl (Ao.q tk rfl (Ao.q tk rfl (Ao.q tk rfl (Ao.q tk rfl (Ao.q tk rfl (Ao.q tk rfl (Ao.q tk rfl ?_))))))))))))))))))))
         refine Ao.nil (V.bu rfl (V.seq (V.ab (Ao.q tk rfl (Ao.nil ?_)))))
         obtain rfl := ai H
         have e2 : fl2 = .ret _ := hg2
         subst e2
         obtain rfl := aL Hp2
         refine V.aq tk rfl (ps := [(ac 9)]) ⟨_,_,rfl,rfl,rfl⟩ (PLe.q rfl)
        ·have H := condF h H
         refine Ao.q tk rfl (Ao.q tk rfl (Ao.q tk rfl ?_))
         obtain ⟨x73,h73,H⟩ := aj H
         have k73 := gIs h73
         refine Ao.idx tk rfl rfl rfl rfl rfl rfl k73.1 (aH (fun _=>rfl) k73.2) rfl ?_
         refine Ao.q tk rfl (Ao.q tk rfl (Ao.q tk rfl (Ao.q tk rfl ?_)))
         refine Ao.aA rfl rfl rfl (fun h=>?_) (fun h=>?_)
         ·have H := condT h H
          refine Ao.q tk rfl (Ao.q tk rfl (Ao.q tk rfl (Ao.q tk rfl (Ao.q tk rfl (Ao.q tk rfl (Ao.q tk rfl (Ao.q tk rfl (Ao.q tk rfl (Ao.q tk rfl (Ao.q tk rfl (Ao.q tk rfl (Ao.q tk rfl (Ao.nil (V.bu rfl ?_))))))))))))))
          refine V.seq (V.ab (Ao.q tk rfl (Ao.nil ?_)))
          obtain rfl := ai H
          have e2 : fl2 = .ret _ := hg2
          subst e2
          obtain rfl := aL Hp2
          refine V.aq tk rfl (ps := [(ac 9)]) ⟨_,_,rfl,rfl,rfl⟩ (PLe.q rfl)
         ·have H := condF h H
          refine Ao.q tk rfl (Ao.q tk rfl (Ao.q tk rfl ?_))
          refine Ao.aA rfl rfl rfl (fun h=>?_) (fun h=>?_)
          ·have H := condT h H
           refine Ao.q tk rfl (Ao.q tk rfl (Ao.q tk rfl (Ao.q tk rfl (Ao.q tk rfl ?_))))
           obtain ⟨x86,h86,H⟩ := aj H
           have k86 := gIs h86
           refine Ao.idx tk rfl rfl rfl rfl rfl rfl k86.1 (aH (fun _=>rfl) k86.2) rfl ?_
           refine Ao.q tk rfl (Ao.q tk rfl (Ao.q tk rfl (Ao.q tk rfl (Ao.nil ?_))))
           refine V.ak rfl (fun h=>?_) (fun h=>?_)
           ·have H := condT h H
            refine V.seq (V.ab (Ao.q tk rfl (Ao.nil ?_)))
            obtain rfl := ai H
            have e2 : fl2 = .ret _ := hg2
            subst e2
            obtain rfl := aL Hp2
            refine V.aq tk rfl (ps := [(ac 9)]) ⟨_,_,rfl,rfl,rfl⟩ (PLe.q rfl)
           ·have H := condF h H
            refine V.al (V.blk (V.ab (Ao.q tk rfl (Ao.q tk rfl (Ao.nil ?_)))))
            obtain rfl := ai H
            refine V.ax () () ⟨hl2,hg2⟩ (Gh.le (SLe.aa (PLe.q rfl) (SLe.aa (PLe.q rfl) (SLe.aa (PLe.q rfl) (SLe.aa (PLe.q (az (by omega))) SLe.nil)))) BLe.nil OLe.nil)
          ·have H := condF h H
           refine Ao.q tk rfl (Ao.q tk rfl (Ao.q tk rfl (Ao.q tk rfl (Ao.q tk rfl (Ao.q tk rfl (Ao.q tk rfl (Ao.q tk rfl (Ao.q tk rfl (Ao.q tk rfl (Ao.nil (V.be rfl (V.al (V.blk (V.ab ?_))))))))))))))
           refine Ao.q tk rfl (Ao.q tk rfl (Ao.nil ?_))
           obtain rfl := ai H
           refine V.ax () () ⟨hl2,hg2⟩ (Gh.le (SLe.aa (PLe.q rfl) (SLe.aa (PLe.q rfl) (SLe.aa (PLe.q rfl) (SLe.aa (PLe.q (az (by omega))) SLe.nil)))) BLe.nil OLe.nil)
      ·have hn2 := rMd (bm h) hr2
       refine V.aB rfl ?_
       refine V.at s2 g2 hn2 (Gh.le (SLe.aa (PLe.q rfl) SLe.nil) BLe.nil OLe.nil)
     ·have H := br hn2 Hp2
      refine V.seq (V.seq (V.ab (Ao.q tk rfl (Ao.q tk rfl (Ao.ay tk rfl rfl rfl rfl rfl (List.length_map _) rfl (Ao.q tk rfl (Ao.nil ?_)))))))
      refine V.ak rfl (fun h=>?_) (fun h=>?_)
      ·have H := condT h H
       refine V.seq (V.ab (Ao.q tk rfl (Ao.nil ?_)))
       obtain rfl := ai H
       refine V.aq tk rfl (ps := [(ac 9)]) ⟨_,_,rfl,rfl,rfl⟩ (PLe.q rfl)
      ·have H := condF h H
       refine V.al (V.seq (V.ab (Ao.q tk rfl (Ao.nil ?_))))
       obtain rfl := ai H
       refine V.aq tk rfl (ps := [(ac 0)]) ⟨_,_,rfl,rfl,rfl⟩ (PLe.q rfl)
def dB (sA : LSchema) (fk : LForeignKey) : Option (Int) :=
 af (eo sA fk.table) fun x17 =>
 af (eo sA fk.refTable) fun x24 =>
 ba (
  cond (!x17.2)
   (true)
   ((!x24.2))) fun (t1 : Bool) =>
 cond t1
  (some 4)
  (af (aC sA.tables x17.1) fun (x36 : LTable) =>
  af (aC sA.tables x24.1) fun (x41 : LTable) =>
  cond ((fk.columns.length : Int) != (x41.primaryKey.length : Int))
   (some 3)
   (af (aE (σ := Unit) (ρ := (Int)) (fun (j2 : Nat) (x2 : Int) (_ : Unit) =>
    ba (
     cond (decide (x2 < (0 : Int)))
      (true)
      ((decide (x2 ≥ (x36.columns.length : Int))))) fun (t4 : Bool) =>
    cond t4
     (some (.ret 3))
     (af (aC x36.columns x2) fun (x70 : LCol) =>
     af (aC x41.primaryKey (j2 : Int)) fun (x78 : Int) =>
     af (aC x41.columns x78) fun (x80 : LCol) =>
     cond (x70.kind != x80.kind)
      (some (.ret 7))
      (some (.next ())))) 0 fk.columns ()) fun fl2=>fl2.thenR fun (_ : Unit) =>
   some 0))
set_option maxHeartbeats 4000000 in
theorem kR (sA : LSchema) (fk : LForeignKey) (r : Int) (H : dB sA fk = some r) :
  aG Tryz.prog 99 [(.agg (db sA)),(.agg (bC fk))] (ac r) := by
 unfold dB at H
 refine PH.intro Tryz.func99 rfl Tryz.ntmps99 rfl ?_
 refine V.seq (V.ab (Ao.aF rfl rfl rfl rfl rfl rfl (Ao.aF rfl rfl rfl rfl rfl rfl (Ao.q tk rfl (Ao.nil (V.seq (V.ab (Ao.q tk rfl (Ao.q tk rfl (Ao.q tk rfl ?_))))))))))
 obtain ⟨x17,h17,H⟩ := aj H
 have s17 := iI sA fk.table _ h17
 refine Ao.ah (g := 145) rfl rfl rfl Tryz.call145 (il.r) s17 rfl (Ao.q tk rfl (Ao.q tk rfl (Ao.q tk rfl (Ao.q tk rfl (Ao.q tk rfl (Ao.nil (V.seq (V.ab (Ao.q tk rfl (Ao.q tk rfl (Ao.q tk rfl ?_)))))))))))
 obtain ⟨x24,h24,H⟩ := aj H
 have s24 := iI sA fk.refTable _ h24
 refine Ao.ah (g := 145) rfl rfl rfl Tryz.call145 (il.r) s24 rfl (Ao.q tk rfl (Ao.q tk rfl (Ao.q tk rfl (Ao.q tk rfl (Ao.q tk rfl (Ao.nil (V.seq (V.seq ?_))))))))
 obtain ⟨fl1,H1,Hp1⟩ := bA H
 refine V.cut (τ := Bool) (γ := Unit) (fun t1 g1=>⟨85,upd (upd (upd (upd (upd (fun _=>.any) 32 (au t1)) 7 (ac x24.1)) 5 (ac x17.1)) 3 (.ptr [(.str fk.table),(.list 3 (fk.columns.map aV)),(.str fk.refTable)])) 2 (.ptr [(.list 91 (sA.tables.map aO)),(.list 142 (sA.foreignKeys.map bC)),(.list 148 (sA.constraints.map bH))]),fun _=>none,fun _=>none⟩) (fun t=>t = fl1) ?_ (fun t1 g1 hn1=>?_)
 ·have H := H1
  refine V.ab (Ao.q tk rfl (Ao.q tk rfl (Ao.q tk rfl ?_)))
  refine Ao.aA rfl rfl rfl (fun h=>?_) (fun h=>?_)
  ·have H := condT h H
   refine Ao.q tk rfl (Ao.q tk rfl (Ao.q tk rfl (Ao.nil ?_)))
   subst H
   refine V.at true () rfl (Gh.le (SLe.aa (PLe.q rfl) (SLe.aa (PLe.q rfl) (SLe.aa (PLe.q rfl) (SLe.aa (PLe.q rfl) (SLe.aa (PLe.q rfl) SLe.nil))))) BLe.nil OLe.nil)
  ·have H := condF h H
   refine Ao.q tk rfl (Ao.q tk rfl (Ao.q tk rfl (Ao.nil ?_)))
   subst H
   refine V.at (!x24.2) () rfl (Gh.le (SLe.aa (PLe.q rfl) (SLe.aa (PLe.q rfl) (SLe.aa (PLe.q rfl) (SLe.aa (PLe.q rfl) (SLe.aa (PLe.q rfl) SLe.nil))))) BLe.nil OLe.nil)
 ·subst hn1
  have H := Hp1
  refine V.ak rfl (fun h=>?_) (fun h=>?_)
  ·have H := condT h H
   refine V.seq (V.ab (Ao.q tk rfl (Ao.nil ?_)))
   obtain rfl := ai H
   refine V.aq tk rfl (ps := [(ac 4)]) ⟨_,_,rfl,rfl,rfl⟩ (PLe.q rfl)
  ·have H := condF h H
   refine V.al (V.seq (V.bc tk mok ⟨false,false,[]⟩ [0,1,2,3,4,5,6,7,8,9,10,11,12,13] rfl (by decide +kernel) rfl (Do.q rfl (Do.q rfl (Do.q rfl ?_)))))
   obtain ⟨x36,h36,H⟩ := aj H
   have k36 := gIs h36
   refine Do.idx rfl rfl rfl rfl rfl rfl rfl k36.1 (aH (fun _=>rfl) k36.2) rfl ?_
   refine Do.q rfl (Do.q rfl (Do.q rfl (Do.q rfl ?_)))
   obtain ⟨x41,h41,H⟩ := aj H
   have k41 := gIs h41
   refine Do.idx rfl rfl rfl rfl rfl rfl rfl k41.1 (aH (fun _=>rfl) k41.2) rfl ?_
   refine Do.q rfl ?_
   refine Do.alloc rfl rfl rfl rfl rfl rfl rfl rfl fun b9=>?_
   refine Do.alloc rfl rfl rfl rfl rfl rfl rfl rfl fun b10=>?_
   refine Do.sB rfl rfl rfl rfl rfl rfl rfl rfl rfl rfl rfl rfl (Do.sB rfl rfl rfl rfl rfl rfl rfl rfl rfl rfl rfl rfl (Do.nil (V.seq (V.seq (V.ab (Ao.q tk rfl (Ao.q tk rfl (Ao.ay tk rfl rfl rfl rfl rfl (List.length_map _) rfl (Ao.q tk rfl (Ao.lB tk rfl rfl rfl rfl rfl rfl rfl (Ao.ay tk rfl rfl rfl rfl rfl (List.length_map _) rfl (Ao.q tk rfl (Ao.nil ?_)))))))))))))
   refine V.ak rfl (fun h=>?_) (fun h=>?_)
   ·have H := condT h H
    refine V.seq (V.ab (Ao.q tk rfl (Ao.nil ?_)))
    obtain rfl := ai H
    refine V.aq tk rfl (ps := [(ac 3)]) ⟨_,_,rfl,rfl,rfl⟩ (PLe.q rfl)
   ·have H := condF h H
    refine V.al (V.seq (V.seq (V.ab (Ao.q tk rfl (Ao.q tk rfl (Ao.ay tk rfl rfl rfl rfl rfl (List.length_map _) rfl (Ao.q tk rfl (Ao.nil ?_))))))))
    obtain ⟨fl2,H2,Hp2⟩ := aj H
    refine V.aZ tk 51 rfl rfl (fun hz2 _=>?_)
    rw [List.length_map] at hz2
    refine V.cut (τ := Unit) (γ := Unit) (fun s2 g2=>⟨85,fun _=>.any,fun _=>none,fun _=>none⟩) (fun t=>fl2 = .next t) ?_ (fun s2 g2 hn2=>?_)
    ·refine V.ap ?_
     refine V.aP (fun j2 s2 g2=>⟨85,upd (upd (upd (upd (upd (fun _=>.any) 53 (ac (j2 : Int))) 52 (ac (fk.columns.length : Int))) 51 (.list 3 (fk.columns.map aV))) 10 (.box 10 b10 0)) 9 (.box 9 b9 0),upd (upd (fun _=>none) 10 (some ⟨b10,[(.str x41.name),(.list 50 (x41.columns.map av)),(.list 3 (x41.primaryKey.map aV))]⟩)) 9 (some ⟨b9,[(.str x36.name),(.list 50 (x36.columns.map av)),(.list 3 (x36.primaryKey.map aV))]⟩),fun _=>none⟩) () H2 (Gh.le (SLe.aa (PLe.q rfl) (SLe.aa (PLe.q rfl) (SLe.aa (PLe.q rfl) (SLe.aa (PLe.q rfl) (SLe.aa (PLe.q rfl) SLe.nil))))) (BLe.ao rfl (il.r) (BLe.ao rfl (il.r) BLe.nil)) OLe.nil) (fun j2 s2 g2 hj2 hr2=>?_)
     refine V.seq (V.ab (Ao.q tk rfl (Ao.nil (V.seq ?_))))
     refine V.ak rfl (fun h=>?_) (fun h=>?_)
     ·have hl2 := bn h
      obtain ⟨x2,fb2,hx2,H,hg2⟩ := rMc hl2 hr2
      refine V.al (V.seq (V.ap (V.seq (V.ab (Ao.q tk rfl ?_)))))
      refine Ao.idx tk rfl rfl rfl rfl rfl rfl (Int.natCast_nonneg j2) (aY (fun _=>rfl) hx2) rfl ?_
      refine Ao.q tk rfl (Ao.q tk rfl (Ao.q tk rfl (Ao.nil (V.seq (V.seq ?_)))))
      obtain ⟨fl4,H4,Hp4⟩ := bA H
      refine V.cut (τ := Bool) (γ := Unit) (fun t4 g4=>⟨85,upd (upd (upd (upd (upd (upd (upd (upd (fun _=>.any) 66 (au t4)) 53 (ac (j2 : Int))) 52 (ac (fk.columns.length : Int))) 51 (.list 3 (fk.columns.map aV))) 12 (ac x2)) 11 (ac (j2 : Int))) 10 (.box 10 b10 0)) 9 (.box 9 b9 0),upd (upd (fun _=>none) 10 (some ⟨b10,[(.str x41.name),(.list 50 (x41.columns.map av)),(.list 3 (x41.primaryKey.map aV))]⟩)) 9 (some ⟨b9,[(.str x36.name),(.list 50 (x36.columns.map av)),(.list 3 (x36.primaryKey.map aV))]⟩),fun _=>none⟩) (fun t=>t = fl4) ?_ (fun t4 g4 hn4=>?_)
      ·have H := H4
       refine V.ab (Ao.q tk rfl (Ao.q tk rfl (Ao.q tk rfl ?_)))
       refine Ao.aA rfl rfl rfl (fun h=>?_) (fun h=>?_)
       ·have H := condT h H
        refine Ao.q tk rfl (Ao.q tk rfl (Ao.q tk rfl (Ao.q tk rfl (Ao.q tk rfl (Ao.q tk rfl (Ao.nil ?_))))))
        subst H
        refine V.at true () rfl (Gh.le (SLe.aa (PLe.q rfl) (SLe.aa (PLe.q rfl) (SLe.aa (PLe.q rfl) (SLe.aa (PLe.q rfl) (SLe.aa (PLe.q rfl) (SLe.aa (PLe.q rfl) (SLe.aa (PLe.q rfl) (SLe.aa (PLe.q rfl) SLe.nil)))))))) (BLe.ao rfl (il.r) (BLe.ao rfl (il.r) BLe.nil)) OLe.nil)
       ·have H := condF h H
        refine Ao.q tk rfl (Ao.q tk rfl (Ao.lB tk rfl rfl rfl rfl rfl rfl rfl (Ao.ay tk rfl rfl rfl rfl rfl (List.length_map _) rfl (Ao.q tk rfl (Ao.q tk rfl (Ao.nil ?_))))))
        subst H
        refine V.at (decide (x2 ≥ (x36.columns.length : Int))) () rfl (Gh.le (SLe.aa (PLe.q rfl) (SLe.aa (PLe.q rfl) (SLe.aa (PLe.q rfl) (SLe.aa (PLe.q rfl) (SLe.aa (PLe.q rfl) (SLe.aa (PLe.q rfl) (SLe.aa (PLe.q rfl) (SLe.aa (PLe.q rfl) SLe.nil)))))))) (BLe.ao rfl (il.r) (BLe.ao rfl (il.r) BLe.nil)) OLe.nil)
      ·subst hn4
       have H := Hp4
       refine V.ak rfl (fun h=>?_) (fun h=>?_)
       ·have H := condT h H
        refine V.seq (V.ab (Ao.q tk rfl (Ao.nil ?_)))
        obtain rfl := ai H
        have e2 : fl2 = .ret _ := hg2
        subst e2
        obtain rfl := aL Hp2
        refine V.aq tk rfl (ps := [(ac 3)]) ⟨_,_,rfl,rfl,rfl⟩ (PLe.q rfl)
       ·have H := condF h H
        refine V.al (V.seq (V.bc tk mok ⟨true,false,[72,79,82]⟩ [0,1,2,3,4,5,6,7,8,9,10,11,12,13,14,15,16] rfl (by decide +kernel) rfl (Do.q rfl (Do.lB rfl rfl rfl rfl rfl rfl rfl rfl rfl (Do.q rfl ?_)))))
        obtain ⟨x70,h70,H⟩ := aj H
        have k70 := gIs h70
        refine Do.idx rfl rfl rfl rfl rfl rfl rfl k70.1 (aH (fun _=>rfl) k70.2) rfl ?_
        refine Do.q rfl (Do.q rfl (Do.q rfl (Do.lB rfl rfl rfl rfl rfl rfl rfl rfl rfl (Do.q rfl (Do.lB rfl rfl rfl rfl rfl rfl rfl rfl rfl (Do.q rfl ?_))))))
        obtain ⟨x78,h78,H⟩ := aj H
        have k78 := gIs h78
        refine Do.idx rfl rfl rfl rfl rfl rfl rfl k78.1 (aH (fun _=>rfl) k78.2) rfl ?_
        refine Do.q rfl ?_
        obtain ⟨x80,h80,H⟩ := aj H
        have k80 := gIs h80
        refine Do.idx rfl rfl rfl rfl rfl rfl rfl k80.1 (aH (fun _=>rfl) k80.2) rfl ?_
        refine Do.q rfl (Do.q rfl (Do.q rfl (Do.nil ?_)))
        refine V.ak rfl (fun h=>?_) (fun h=>?_)
        ·have H := condT h H
         refine V.seq (V.ab (Ao.q tk rfl (Ao.nil ?_)))
         obtain rfl := ai H
         have e2 : fl2 = .ret _ := hg2
         subst e2
         obtain rfl := aL Hp2
         refine V.aq tk rfl (ps := [(ac 7)]) ⟨_,_,rfl,rfl,rfl⟩ (PLe.q rfl)
        ·have H := condF h H
         refine V.al (V.blk (V.ab (Ao.q tk rfl (Ao.q tk rfl (Ao.nil ?_)))))
         obtain rfl := ai H
         refine V.ax () () ⟨hl2,hg2⟩ (Gh.le (SLe.aa (PLe.q rfl) (SLe.aa (PLe.q rfl) (SLe.aa (PLe.q rfl) (SLe.aa (PLe.q rfl) (SLe.aa (PLe.q (az (by omega))) SLe.nil))))) (BLe.ao rfl (il.r) (BLe.ao rfl (il.r) BLe.nil)) OLe.nil)
     ·have hn2 := rMd (bm h) hr2
      refine V.aB rfl ?_
      refine V.at s2 g2 hn2 (Gh.le SLe.nil BLe.nil OLe.nil)
    ·have H := br hn2 Hp2
     refine V.seq (V.ab (Ao.q tk rfl (Ao.nil ?_)))
     obtain rfl := ai H
     refine V.aq tk rfl (ps := [(ac 0)]) ⟨_,_,rfl,rfl,rfl⟩ (PLe.q rfl)
def eJ (other : LForeignKey) (c0 : LForeignKey) : Option (Bool) :=
 af (eY other c0) fun x6 =>
 some x6
set_option maxHeartbeats 4000000 in
theorem nE (other : LForeignKey) (c0 : LForeignKey) (r : Bool) (H : eJ other c0 = some r) :
  aG Tryz.prog 101 [(.agg (bC other)),(.ptr (bC c0))] (au r) := by
 unfold eJ at H
 refine PH.intro Tryz.func101 rfl Tryz.ntmps101 rfl ?_
 refine V.seq (V.ab (Ao.aF rfl rfl rfl rfl rfl rfl (Ao.q tk rfl (Ao.nil (V.seq (V.ab (Ao.q tk rfl (Ao.q tk rfl ?_))))))))
 obtain ⟨x6,h6,H⟩ := aj H
 have s6 := ll other c0 _ h6
 refine Ao.ah (g := 102) rfl rfl rfl Tryz.call102 (il.r) s6 rfl (Ao.q tk rfl (Ao.nil ?_))
 obtain rfl := ai H
 refine V.aq tk rfl (ps := [(au x6)]) ⟨_,_,rfl,rfl,rfl⟩ (PLe.q rfl)
end
end Go.Proofs.YtgaggbdcedpapaaGreat
