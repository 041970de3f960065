/- sortMemoryIsIrrelevant_holds, part 3: the layer, the plain functions and what they compute; conditions as in the statement. -/
import Derived.Test.YtnnieenoapkefaaGreatDoorSmb
set_option maxHeartbeats 4000000
namespace Go.Proofs.YtnnieenoapkefaaGreatDoor
noncomputable section
open Go Go.Ab
attribute [local irreducible] V Ao Do Gh Eff PH IntKind.wrap
set_option maxRecDepth 4000
def aT (rec59 : Rz → Int → Int → Int → Option (Rz)) (data : Rz) (a : Int) (m : Int) (b : Int) (cmp : Rq → Rq → Option (Int)) : Option (Rz) :=
 cond ((IntKind.i64.wrap (m - a)) == (1 : Int))
  (ac (co (σ := Rz × Int × Int) (ρ := Empty) (fun (s1 : Rz × Int × Int) =>
   cond (decide (s1.2.1 < s1.2.2))
    (ac (aL s1.1 (IntKind.i64.wrap (Int.fdiv (IntKind.u64.wrap (IntKind.i64.wrap (s1.2.1 + s1.2.2))) (2 ^ 1)))) fun (x43 : Rq) =>
    ac (aL s1.1 a) fun (x47 : Rq) =>
    ac (cmp x43 x47) fun x49 =>
    cond (decide (x49 < (0 : Int)))
     (some (.next (s1.1,(IntKind.i64.wrap ((IntKind.i64.wrap (Int.fdiv (IntKind.u64.wrap (IntKind.i64.wrap (s1.2.1 + s1.2.2))) (2 ^ 1))) + (1 : Int))),s1.2.2)))
     (some (.next (s1.1,s1.2.1,(IntKind.i64.wrap (Int.fdiv (IntKind.u64.wrap (IntKind.i64.wrap (s1.2.1 + s1.2.2))) (2 ^ 1)))))))
    (some (.brk (s1.1,s1.2.1,s1.2.2)))) (data,m,b)) fun fl1=>fl1.thenP fun (s1 : Rz × Int × Int) =>
  ac (co (σ := Rz × Int) (ρ := Empty) (fun (s2 : Rz × Int) =>
   cond (decide (s2.2 < (IntKind.i64.wrap (s1.2.1 - (1 : Int)))))
    (ac (aL s2.1 (IntKind.i64.wrap (s2.2 + (1 : Int)))) fun (x69 : Rq) =>
    ac (aL s2.1 s2.2) fun (x73 : Rq) =>
    ac (aL s2.1 s2.2) fun (_ : Rq) =>
    cp (s2.1.set s2.2.toNat x69) fun (y7 : Rz) =>
    ac (aL y7 (IntKind.i64.wrap (s2.2 + (1 : Int)))) fun (_ : Rq) =>
    cp (y7.set ((IntKind.i64.wrap (s2.2 + (1 : Int))).toNat) x73) fun (y8 : Rz) =>
    some (.next (y8,(IntKind.i64.wrap (s2.2 + (1 : Int))))))
    (some (.brk (s2.1,s2.2)))) (s1.1,a)) fun fl2=>fl2.thenP fun (s2 : Rz × Int) =>
  some s2.1)
  (cond ((IntKind.i64.wrap (b - m)) == (1 : Int))
   (ac (co (σ := Rz × Int × Int) (ρ := Empty) (fun (s9 : Rz × Int × Int) =>
    cond (decide (s9.2.1 < s9.2.2))
     (ac (aL s9.1 m) fun (x95 : Rq) =>
     ac (aL s9.1 (IntKind.i64.wrap (Int.fdiv (IntKind.u64.wrap (IntKind.i64.wrap (s9.2.1 + s9.2.2))) (2 ^ 1)))) fun (x99 : Rq) =>
     ac (cmp x95 x99) fun x101 =>
     cond (!(decide (x101 < (0 : Int))))
      (some (.next (s9.1,(IntKind.i64.wrap ((IntKind.i64.wrap (Int.fdiv (IntKind.u64.wrap (IntKind.i64.wrap (s9.2.1 + s9.2.2))) (2 ^ 1))) + (1 : Int))),s9.2.2)))
      (some (.next (s9.1,s9.2.1,(IntKind.i64.wrap (Int.fdiv (IntKind.u64.wrap (IntKind.i64.wrap (s9.2.1 + s9.2.2))) (2 ^ 1)))))))
     (some (.brk (s9.1,s9.2.1,s9.2.2)))) (data,a,m)) fun fl9=>fl9.thenP fun (s9 : Rz × Int × Int) =>
   ac (co (σ := Rz × Int) (ρ := Empty) (fun (s10 : Rz × Int) =>
    cond (decide (s10.2 > s9.2.1))
     (ac (aL s10.1 (IntKind.i64.wrap (s10.2 - (1 : Int)))) fun (x121 : Rq) =>
     ac (aL s10.1 s10.2) fun (x125 : Rq) =>
     ac (aL s10.1 s10.2) fun (_ : Rq) =>
     cp (s10.1.set s10.2.toNat x121) fun (y15 : Rz) =>
     ac (aL y15 (IntKind.i64.wrap (s10.2 - (1 : Int)))) fun (_ : Rq) =>
     cp (y15.set ((IntKind.i64.wrap (s10.2 - (1 : Int))).toNat) x125) fun (y16 : Rz) =>
     some (.next (y16,(IntKind.i64.wrap (s10.2 - (1 : Int))))))
     (some (.brk (s10.1,s10.2)))) (s9.1,m)) fun fl10=>fl10.thenP fun (s10 : Rz × Int) =>
   some s10.1)
   (cp (
    cond (decide (m > (IntKind.i64.wrap (Int.fdiv (IntKind.u64.wrap (IntKind.i64.wrap (a + b))) (2 ^ 1)))))
     ((data,(IntKind.i64.wrap ((IntKind.i64.wrap ((IntKind.i64.wrap (Int.fdiv (IntKind.u64.wrap (IntKind.i64.wrap (a + b))) (2 ^ 1))) + m)) - b)),(IntKind.i64.wrap (Int.fdiv (IntKind.u64.wrap (IntKind.i64.wrap (a + b))) (2 ^ 1)))))
     ((data,a,m))) fun (t17 : Rz × Int × Int) =>
   ac (co (σ := Rz × Int × Int) (ρ := Empty) (fun (s18 : Rz × Int × Int) =>
    cond (decide (s18.2.1 < s18.2.2))
     (ac (aL s18.1 (IntKind.i64.wrap ((IntKind.i64.wrap ((IntKind.i64.wrap ((IntKind.i64.wrap (Int.fdiv (IntKind.u64.wrap (IntKind.i64.wrap (a + b))) (2 ^ 1))) + m)) - (1 : Int))) - (IntKind.i64.wrap (Int.fdiv (IntKind.u64.wrap (IntKind.i64.wrap (s18.2.1 + s18.2.2))) (2 ^ 1)))))) fun (x163 : Rq) =>
     ac (aL s18.1 (IntKind.i64.wrap (Int.fdiv (IntKind.u64.wrap (IntKind.i64.wrap (s18.2.1 + s18.2.2))) (2 ^ 1)))) fun (x167 : Rq) =>
     ac (cmp x163 x167) fun x169 =>
     cond (!(decide (x169 < (0 : Int))))
      (some (.next (s18.1,(IntKind.i64.wrap ((IntKind.i64.wrap (Int.fdiv (IntKind.u64.wrap (IntKind.i64.wrap (s18.2.1 + s18.2.2))) (2 ^ 1))) + (1 : Int))),s18.2.2)))
      (some (.next (s18.1,s18.2.1,(IntKind.i64.wrap (Int.fdiv (IntKind.u64.wrap (IntKind.i64.wrap (s18.2.1 + s18.2.2))) (2 ^ 1)))))))
     (some (.brk (s18.1,s18.2.1,s18.2.2)))) (t17.1,t17.2.1,t17.2.2)) fun fl18=>fl18.thenP fun (s18 : Rz × Int × Int) =>
   cp (
    cond (decide (s18.2.1 < m))
     ((s18.1,(decide (m < (IntKind.i64.wrap ((IntKind.i64.wrap ((IntKind.i64.wrap (Int.fdiv (IntKind.u64.wrap (IntKind.i64.wrap (a + b))) (2 ^ 1))) + m)) - s18.2.1))))))
     ((s18.1,false))) fun (t19 : Rz × Bool) =>
   ac (
    cond t19.2
     (ac (aZ t19.1 s18.2.1 m (IntKind.i64.wrap ((IntKind.i64.wrap ((IntKind.i64.wrap (Int.fdiv (IntKind.u64.wrap (IntKind.i64.wrap (a + b))) (2 ^ 1))) + m)) - s18.2.1)) cmp) fun x191 =>
     ac (cG (x191.length = t19.1.length) ()) fun (_ : Unit) =>
     some x191)
     (some t19.1)) fun (t20 : Rz) =>
   cp (
    cond (decide (a < s18.2.1))
     ((t20,(decide (s18.2.1 < (IntKind.i64.wrap (Int.fdiv (IntKind.u64.wrap (IntKind.i64.wrap (a + b))) (2 ^ 1)))))))
     ((t20,false))) fun (t21 : Rz × Bool) =>
   ac (
    cond t21.2
     (ac (rec59 t21.1 a s18.2.1 (IntKind.i64.wrap (Int.fdiv (IntKind.u64.wrap (IntKind.i64.wrap (a + b))) (2 ^ 1)))) fun x205 =>
     ac (cG (x205.length = t21.1.length) ()) fun (_ : Unit) =>
     some x205)
     (some t21.1)) fun (t22 : Rz) =>
   cond (decide ((IntKind.i64.wrap (Int.fdiv (IntKind.u64.wrap (IntKind.i64.wrap (a + b))) (2 ^ 1))) < (IntKind.i64.wrap ((IntKind.i64.wrap ((IntKind.i64.wrap (Int.fdiv (IntKind.u64.wrap (IntKind.i64.wrap (a + b))) (2 ^ 1))) + m)) - s18.2.1))))
    (cond (decide ((IntKind.i64.wrap ((IntKind.i64.wrap ((IntKind.i64.wrap (Int.fdiv (IntKind.u64.wrap (IntKind.i64.wrap (a + b))) (2 ^ 1))) + m)) - s18.2.1)) < b))
     (ac (rec59 t22 (IntKind.i64.wrap (Int.fdiv (IntKind.u64.wrap (IntKind.i64.wrap (a + b))) (2 ^ 1))) (IntKind.i64.wrap ((IntKind.i64.wrap ((IntKind.i64.wrap (Int.fdiv (IntKind.u64.wrap (IntKind.i64.wrap (a + b))) (2 ^ 1))) + m)) - s18.2.1)) b) fun x219 =>
     ac (cG (x219.length = t22.length) ()) fun (_ : Unit) =>
     some x219)
     (some t22))
    (some t22)))
theorem eK (g_data : OwnRef) {g_cmp : FuncId} {caps_cmp : List PV} (rec59 : Rz → Int → Int → Int → Option (Rz)) (hrec59 : ∀ g0 a0 a1 a2 a3 r,rec59 a0 a1 a2 a3 = some r → PH Tryz.prog 59 [(.own 0 g0 (a0.map (ae 48 ab)).length),(ag a1),(ag a2),(ag a3),(.fn g_cmp caps_cmp)] ⟨fun _=>none,upd (fun _=>none) 0 (some ⟨g0,51,(a0.map (ae 48 ab)),true⟩)⟩ (fun u H=>u = (.tup []) ∧ H = ⟨fun _=>none,upd (fun _=>none) 0 (some ⟨g0,51,(r.map (ae 48 ab)),true⟩)⟩)) (data : Rz) (a : Int) (m : Int) (b : Int) (cmp : Rq → Rq → Option (Int)) (hg_cmp : ∀ (vs : Array Value) (w : World),(callFunc g_cmp vs).run Tryz.prog w = .ok (.enter g_cmp vs) w) (hp_cmp : ∀ a0 a1 r,cmp a0 a1 = some r → bJ Tryz.prog g_cmp ((.list 48 (a0.map ab)) :: (.list 48 (a1.map ab)) :: caps_cmp) (ag r)) (r : Rz) (H : aT rec59 data a m b cmp = some r) :
  PH Tryz.prog 59 [(.own 0 g_data (data.map (ae 48 ab)).length),(ag a),(ag m),(ag b),(.fn g_cmp caps_cmp)] ⟨fun _=>none,upd (fun _=>none) 0 (some ⟨g_data,51,(data.map (ae 48 ab)),true⟩)⟩ (fun u H=>u = (.tup []) ∧ H = ⟨fun _=>none,upd (fun _=>none) 0 (some ⟨g_data,51,(r.map (ae 48 ab)),true⟩)⟩) := by
 unfold aT at H
 refine PH.aD Tryz.func59 Tryz.ntmps59 ?_
 refine af (au 4 tk rfl ?_)
 refine bm rfl H (fun H=>?_) (fun H=>?_)
 ·refine au 2 tk rfl (au 2 tk rfl (af ?_))
  obtain ⟨fl1,H1,Hp1⟩ := ar H
  refine dv (τ := Rz × Int × Int) (γ := Unit) (fun s1 g1=>⟨220,upd (upd (upd (fun _=>.any) 10 (ag s1.2.1)) 1 (ag a)) 0 (.own 0 g_data (s1.1.map (ae 48 ab)).length),fun _=>none,upd (fun _=>none) 0 (some ⟨g_data,51,(s1.1.map (ae 48 ab)),true⟩)⟩) (fun t=>fl1 = .next t) ?_ (fun s1 g1 hn1=>?_)
  ·refine aF ?_
   refine cu (fun s1 g1=>⟨220,upd (upd (upd (upd (upd (fun _=>.any) 11 (ag s1.2.2)) 10 (ag s1.2.1)) 4 (.fn g_cmp caps_cmp)) 1 (ag a)) 0 (.own 0 g_data (s1.1.map (ae 48 ab)).length),fun _=>none,upd (fun _=>none) 0 (some ⟨g_data,51,(s1.1.map (ae 48 ab)),true⟩)⟩) () H1 Gh.d (fun m1 s1 g1 hr1=>?_)
   obtain ⟨fb1,H,hg1⟩ := bN hr1
   refine af (au 3 tk rfl ?_)
   refine bm rfl H (fun H=>?_) (fun H=>?_)
   ·refine aH (aF (af (ah (am 4 tk rfl (kt (m := 1) rfl rfl rfl rfl (by decide) rfl rfl (am 2 tk rfl (al (af ?_))))))))
    refine eh (tag := 0) rfl (fun ho0=>?_)
    refine cA tk mok ⟨false,true,[]⟩ [0,1,2,3,4,5,6,7,8,9,10] rfl (by decide +kernel) rfl (aG 3 rfl ?_)
    obtain ⟨x43,k43,H⟩ := bR H
    refine aY tk ⟨k43.1,(bF k43.2)⟩ (bL ho0 k43.2) ?_
    refine bt tk rfl rfl rfl rfl rfl rfl rfl rfl rfl (bg (fun _=>rfl) k43.2) rfl rfl ?_
    refine aG 2 rfl ?_
    obtain ⟨x47,k47,H⟩ := bR H
    refine aY tk ⟨k47.1,(bF k47.2)⟩ (bL ho0 k47.2) ?_
    refine bt tk rfl rfl rfl rfl rfl rfl rfl rfl rfl (bg (fun _=>rfl) k47.2) rfl rfl ?_
    obtain ⟨x49,h49,H⟩ := ar H
    refine cQ hg_cmp (de.r) (hp_cmp _ _ _ h49) ?_
    refine db rfl (bM ?_)
    refine bm rfl H (fun H=>?_) (fun H=>?_)
    ·refine bW 3 tk rfl (bA ?_)
     obtain rfl := ax H
     refine bs (s1.1,(IntKind.i64.wrap ((IntKind.i64.wrap (Int.fdiv (IntKind.u64.wrap (IntKind.i64.wrap (s1.2.1 + s1.2.2))) (2 ^ 1))) + (1 : Int))),s1.2.2) () hg1 Gh.d
    refine bW 2 tk rfl (bA ?_)
    obtain rfl := ax H
    refine bs (s1.1,s1.2.1,(IntKind.i64.wrap (Int.fdiv (IntKind.u64.wrap (IntKind.i64.wrap (s1.2.1 + s1.2.2))) (2 ^ 1)))) () hg1 Gh.d
   refine cB rfl ?_
   obtain rfl := ax H
   refine bD (s1.1,s1.2.1,s1.2.2) () hg1 Gh.d
  have H := bB hn1 Hp1
  refine af (au 2 tk rfl ?_)
  obtain ⟨fl2,H2,Hp2⟩ := ar H
  refine dv (τ := Rz × Int) (γ := Unit) (fun s2 g2=>⟨220,upd (fun _=>.any) 0 (.own 0 g_data (s2.1.map (ae 48 ab)).length),fun _=>none,upd (fun _=>none) 0 (some ⟨g_data,51,(s2.1.map (ae 48 ab)),true⟩)⟩) (fun t=>fl2 = .next t) ?_ (fun s2 g2 hn2=>?_)
  ·refine aF ?_
   refine cu (fun s2 g2=>⟨220,upd (upd (upd (fun _=>.any) 13 (ag s2.2)) 10 (ag s1.2.1)) 0 (.own 0 g_data (s2.1.map (ae 48 ab)).length),fun _=>none,upd (fun _=>none) 0 (some ⟨g_data,51,(s2.1.map (ae 48 ab)),true⟩)⟩) () H2 Gh.d (fun m2 s2 g2 hr2=>?_)
   obtain ⟨fb2,H,hg2⟩ := bN hr2
   refine af (au 4 tk rfl ?_)
   refine bm rfl H (fun H=>?_) (fun H=>?_)
   ·refine aH (af (aF ?_))
    refine eh (tag := 0) rfl (fun ho0=>?_)
    refine cA tk mok ⟨false,true,[]⟩ [0,1,2,3,4,5,6,7,8,9,10,11,12,13,14,15,16,17] rfl (by decide +kernel) rfl (aG 8 rfl ?_)
    obtain ⟨x69,k69,H⟩ := bR H
    refine aY tk ⟨k69.1,(bF k69.2)⟩ (bL ho0 k69.2) ?_
    refine bt tk rfl rfl rfl rfl rfl rfl rfl rfl rfl (bg (fun _=>rfl) k69.2) rfl rfl ?_
    refine aG 2 rfl ?_
    obtain ⟨x73,k73,H⟩ := bR H
    refine aY tk ⟨k73.1,(bF k73.2)⟩ (bL ho0 k73.2) ?_
    refine bt tk rfl rfl rfl rfl rfl rfl rfl rfl rfl (bg (fun _=>rfl) k73.2) rfl rfl ?_
    obtain ⟨x75,k75,H⟩ := bR H
    refine aY tk ⟨k75.1,(bF k75.2)⟩ (bL ho0 k75.2) ?_
    obtain ⟨y7,hy7,H⟩ := et H
    refine dg tk rfl rfl rfl rfl rfl rfl rfl rfl rfl (by rw [zl]; exact (zg.1 k75.2).1) (PLe.refl _ _) rfl rfl rfl rfl (by decide) (da (fun _=>rfl) k75.2 rfl hy7) ?_
    obtain ⟨x76,k76,H⟩ := bR H
    refine aY tk ⟨k76.1,(il (cn (f := (ae 48 ab)) hy7) k76.2)⟩ (ic ho0 (cn (f := (ae 48 ab)) hy7) k76.2) ?_
    obtain ⟨y8,hy8,H⟩ := et H
    refine dg tk rfl rfl rfl rfl rfl rfl rfl rfl rfl (by rw [zl]; exact (zg.1 k76.2).1) (PLe.refl _ _) rfl rfl rfl rfl (by decide) (da (fun _=>rfl) k76.2 rfl hy8) ?_
    refine bM (bA (bW 3 tk rfl ?_))
    obtain rfl := ax H
    refine bs (y8,(IntKind.i64.wrap (s2.2 + (1 : Int)))) () hg2 (Gh.le (cf (PLe.of2 (PLe2.of_eq (congrArg (PV.own 0 g_data) ((cn (f := (ae 48 ab)) hy7).trans (cn (f := (ae 48 ab)) hy8))))) (aA (aA aQ))) ap (aC aq))
   refine cB rfl ?_
   obtain rfl := ax H
   refine bD (s2.1,s2.2) () hg2 Gh.d
  have H := bB hn2 Hp2
  obtain rfl := ax H
  refine cq (st' := ⟨220,fun _=>.any,fun _=>none,upd (fun _=>none) 0 (some ⟨g_data,51,(s2.1.map (ae 48 ab)),true⟩)⟩) (Gh.le aQ ap (aC aq)) ?_
  refine fp tk rfl (ps := []) rfl (PLe.q rfl) ⟨rfl,rfl⟩
 refine aH (af (au 4 tk rfl ?_))
 refine bm rfl H (fun H=>?_) (fun H=>?_)
 ·refine au 2 tk rfl (au 2 tk rfl (af ?_))
  obtain ⟨fl9,H9,Hp9⟩ := ar H
  refine dv (τ := Rz × Int × Int) (γ := Unit) (fun s9 g9=>⟨220,upd (upd (upd (fun _=>.any) 14 (ag s9.2.1)) 2 (ag m)) 0 (.own 0 g_data (s9.1.map (ae 48 ab)).length),fun _=>none,upd (fun _=>none) 0 (some ⟨g_data,51,(s9.1.map (ae 48 ab)),true⟩)⟩) (fun t=>fl9 = .next t) ?_ (fun s9 g9 hn9=>?_)
  ·refine aF ?_
   refine cu (fun s9 g9=>⟨220,upd (upd (upd (upd (upd (fun _=>.any) 15 (ag s9.2.2)) 14 (ag s9.2.1)) 4 (.fn g_cmp caps_cmp)) 2 (ag m)) 0 (.own 0 g_data (s9.1.map (ae 48 ab)).length),fun _=>none,upd (fun _=>none) 0 (some ⟨g_data,51,(s9.1.map (ae 48 ab)),true⟩)⟩) () H9 Gh.d (fun m9 s9 g9 hr9=>?_)
   obtain ⟨fb9,H,hg9⟩ := bN hr9
   refine af (au 3 tk rfl ?_)
   refine bm rfl H (fun H=>?_) (fun H=>?_)
   ·refine aH (aF (af (ah (am 4 tk rfl (kt (m := 1) rfl rfl rfl rfl (by decide) rfl rfl (am 2 tk rfl (al (af ?_))))))))
    refine eh (tag := 0) rfl (fun ho0=>?_)
    refine cA tk mok ⟨false,true,[]⟩ [0,1,2,3,4,5,6,7,8,9,10,11] rfl (by decide +kernel) rfl (aG 3 rfl ?_)
    obtain ⟨x95,k95,H⟩ := bR H
    refine aY tk ⟨k95.1,(bF k95.2)⟩ (bL ho0 k95.2) ?_
    refine bt tk rfl rfl rfl rfl rfl rfl rfl rfl rfl (bg (fun _=>rfl) k95.2) rfl rfl ?_
    refine aG 2 rfl ?_
    obtain ⟨x99,k99,H⟩ := bR H
    refine aY tk ⟨k99.1,(bF k99.2)⟩ (bL ho0 k99.2) ?_
    refine bt tk rfl rfl rfl rfl rfl rfl rfl rfl rfl (bg (fun _=>rfl) k99.2) rfl rfl ?_
    obtain ⟨x101,h101,H⟩ := ar H
    refine cQ hg_cmp (de.r) (hp_cmp _ _ _ h101) ?_
    refine aG 2 rfl (bM ?_)
    refine bm rfl H (fun H=>?_) (fun H=>?_)
    ·refine bW 3 tk rfl (bA ?_)
     obtain rfl := ax H
     refine bs (s9.1,(IntKind.i64.wrap ((IntKind.i64.wrap (Int.fdiv (IntKind.u64.wrap (IntKind.i64.wrap (s9.2.1 + s9.2.2))) (2 ^ 1))) + (1 : Int))),s9.2.2) () hg9 Gh.d
    refine bW 2 tk rfl (bA ?_)
    obtain rfl := ax H
    refine bs (s9.1,s9.2.1,(IntKind.i64.wrap (Int.fdiv (IntKind.u64.wrap (IntKind.i64.wrap (s9.2.1 + s9.2.2))) (2 ^ 1)))) () hg9 Gh.d
   refine cB rfl ?_
   obtain rfl := ax H
   refine bD (s9.1,s9.2.1,s9.2.2) () hg9 Gh.d
  have H := bB hn9 Hp9
  refine af (au 2 tk rfl ?_)
  obtain ⟨fl10,H10,Hp10⟩ := ar H
  refine dv (τ := Rz × Int) (γ := Unit) (fun s10 g10=>⟨220,upd (fun _=>.any) 0 (.own 0 g_data (s10.1.map (ae 48 ab)).length),fun _=>none,upd (fun _=>none) 0 (some ⟨g_data,51,(s10.1.map (ae 48 ab)),true⟩)⟩) (fun t=>fl10 = .next t) ?_ (fun s10 g10 hn10=>?_)
  ·refine aF ?_
   refine cu (fun s10 g10=>⟨220,upd (upd (upd (fun _=>.any) 17 (ag s10.2)) 14 (ag s9.2.1)) 0 (.own 0 g_data (s10.1.map (ae 48 ab)).length),fun _=>none,upd (fun _=>none) 0 (some ⟨g_data,51,(s10.1.map (ae 48 ab)),true⟩)⟩) () H10 Gh.d (fun m10 s10 g10 hr10=>?_)
   obtain ⟨fb10,H,hg10⟩ := bN hr10
   refine af (au 3 tk rfl ?_)
   refine bm rfl H (fun H=>?_) (fun H=>?_)
   ·refine aH (af (aF ?_))
    refine eh (tag := 0) rfl (fun ho0=>?_)
    refine cA tk mok ⟨false,true,[]⟩ [0,1,2,3,4,5,6,7,8,9,10,11,12,13,14,15,16,17] rfl (by decide +kernel) rfl (aG 8 rfl ?_)
    obtain ⟨x121,k121,H⟩ := bR H
    refine aY tk ⟨k121.1,(bF k121.2)⟩ (bL ho0 k121.2) ?_
    refine bt tk rfl rfl rfl rfl rfl rfl rfl rfl rfl (bg (fun _=>rfl) k121.2) rfl rfl ?_
    refine aG 2 rfl ?_
    obtain ⟨x125,k125,H⟩ := bR H
    refine aY tk ⟨k125.1,(bF k125.2)⟩ (bL ho0 k125.2) ?_
    refine bt tk rfl rfl rfl rfl rfl rfl rfl rfl rfl (bg (fun _=>rfl) k125.2) rfl rfl ?_
    obtain ⟨x127,k127,H⟩ := bR H
    refine aY tk ⟨k127.1,(bF k127.2)⟩ (bL ho0 k127.2) ?_
    obtain ⟨y15,hy15,H⟩ := et H
    refine dg tk rfl rfl rfl rfl rfl rfl rfl rfl rfl (by rw [zl]; exact (zg.1 k127.2).1) (PLe.refl _ _) rfl rfl rfl rfl (by decide) (da (fun _=>rfl) k127.2 rfl hy15) ?_
    obtain ⟨x128,k128,H⟩ := bR H
    refine aY tk ⟨k128.1,(il (cn (f := (ae 48 ab)) hy15) k128.2)⟩ (ic ho0 (cn (f := (ae 48 ab)) hy15) k128.2) ?_
    obtain ⟨y16,hy16,H⟩ := et H
    refine dg tk rfl rfl rfl rfl rfl rfl rfl rfl rfl (by rw [zl]; exact (zg.1 k128.2).1) (PLe.refl _ _) rfl rfl rfl rfl (by decide) (da (fun _=>rfl) k128.2 rfl hy16) ?_
    refine bM (bA (bW 3 tk rfl ?_))
    obtain rfl := ax H
    refine bs (y16,(IntKind.i64.wrap (s10.2 - (1 : Int)))) () hg10 (Gh.le (cf (PLe.of2 (PLe2.of_eq (congrArg (PV.own 0 g_data) ((cn (f := (ae 48 ab)) hy15).trans (cn (f := (ae 48 ab)) hy16))))) (aA (aA aQ))) ap (aC aq))
   refine cB rfl ?_
   obtain rfl := ax H
   refine bD (s10.1,s10.2) () hg10 Gh.d
  have H := bB hn10 Hp10
  obtain rfl := ax H
  refine cq (st' := ⟨220,fun _=>.any,fun _=>none,upd (fun _=>none) 0 (some ⟨g_data,51,(s10.1.map (ae 48 ab)),true⟩)⟩) (Gh.le aQ ap (aC aq)) ?_
  refine fp tk rfl (ps := []) rfl (PLe.q rfl) ⟨rfl,rfl⟩
 refine aH (af (ah (am 4 tk rfl (kt (m := 1) rfl rfl rfl rfl (by decide) rfl rfl (am 2 tk rfl (al (au 4 tk rfl (au 2 tk rfl (af (au 3 tk rfl ?_))))))))))
 refine fT (γ := Unit) (fun t17 g17=>⟨220,upd (upd (upd (upd (upd (upd (upd (upd (upd (fun _=>.any) 21 (ag t17.2.2)) 20 (ag t17.2.1)) 19 (ag (IntKind.i64.wrap ((IntKind.i64.wrap (Int.fdiv (IntKind.u64.wrap (IntKind.i64.wrap (a + b))) (2 ^ 1))) + m)))) 18 (ag (IntKind.i64.wrap (Int.fdiv (IntKind.u64.wrap (IntKind.i64.wrap (a + b))) (2 ^ 1))))) 4 (.fn g_cmp caps_cmp)) 3 (ag b)) 2 (ag m)) 1 (ag a)) 0 (.own 0 g_data (t17.1.map (ae 48 ab)).length),fun _=>none,upd (fun _=>none) 0 (some ⟨g_data,51,(t17.1.map (ae 48 ab)),true⟩)⟩) H (fun _ H=>?_) (fun t17 g17 H=>?_)
 ·refine bm rfl H (fun H=>?_) (fun H=>?_)
  ·refine au 4 tk rfl (bW 2 tk rfl ?_)
   refine bD _ () H Gh.d
  refine au 2 tk rfl (bW 2 tk rfl ?_)
  refine bD _ () H Gh.d
 refine au 3 tk rfl (af ?_)
 obtain ⟨fl18,H18,Hp18⟩ := ar H
 refine dv (τ := Rz × Int × Int) (γ := Unit) (fun s18 g18=>⟨220,upd (upd (upd (upd (upd (upd (upd (upd (fun _=>.any) 20 (ag s18.2.1)) 19 (ag (IntKind.i64.wrap ((IntKind.i64.wrap (Int.fdiv (IntKind.u64.wrap (IntKind.i64.wrap (a + b))) (2 ^ 1))) + m)))) 18 (ag (IntKind.i64.wrap (Int.fdiv (IntKind.u64.wrap (IntKind.i64.wrap (a + b))) (2 ^ 1))))) 4 (.fn g_cmp caps_cmp)) 3 (ag b)) 2 (ag m)) 1 (ag a)) 0 (.own 0 g_data (s18.1.map (ae 48 ab)).length),fun _=>none,upd (fun _=>none) 0 (some ⟨g_data,51,(s18.1.map (ae 48 ab)),true⟩)⟩) (fun t=>fl18 = .next t) ?_ (fun s18 g18 hn18=>?_)
 ·refine aF ?_
  refine cu (fun s18 g18=>⟨220,upd (upd (upd (upd (upd (upd (upd (upd (upd (upd (fun _=>.any) 22 (ag (IntKind.i64.wrap ((IntKind.i64.wrap ((IntKind.i64.wrap (Int.fdiv (IntKind.u64.wrap (IntKind.i64.wrap (a + b))) (2 ^ 1))) + m)) - (1 : Int))))) 21 (ag s18.2.2)) 20 (ag s18.2.1)) 19 (ag (IntKind.i64.wrap ((IntKind.i64.wrap (Int.fdiv (IntKind.u64.wrap (IntKind.i64.wrap (a + b))) (2 ^ 1))) + m)))) 18 (ag (IntKind.i64.wrap (Int.fdiv (IntKind.u64.wrap (IntKind.i64.wrap (a + b))) (2 ^ 1))))) 4 (.fn g_cmp caps_cmp)) 3 (ag b)) 2 (ag m)) 1 (ag a)) 0 (.own 0 g_data (s18.1.map (ae 48 ab)).length),fun _=>none,upd (fun _=>none) 0 (some ⟨g_data,51,(s18.1.map (ae 48 ab)),true⟩)⟩) () H18 Gh.d (fun m18 s18 g18 hr18=>?_)
  obtain ⟨fb18,H,hg18⟩ := bN hr18
  refine af (au 3 tk rfl ?_)
  refine bm rfl H (fun H=>?_) (fun H=>?_)
  ·refine aH (aF (af (ah (am 4 tk rfl (kt (m := 1) rfl rfl rfl rfl (by decide) rfl rfl (am 2 tk rfl (al (af ?_))))))))
   refine eh (tag := 0) rfl (fun ho0=>?_)
   refine cA tk mok ⟨false,true,[]⟩ [0,1,2,3,4,5,6,7,8,9,10,11,12,13] rfl (by decide +kernel) rfl (aG 5 rfl ?_)
   obtain ⟨x163,k163,H⟩ := bR H
   refine aY tk ⟨k163.1,(bF k163.2)⟩ (bL ho0 k163.2) ?_
   refine bt tk rfl rfl rfl rfl rfl rfl rfl rfl rfl (bg (fun _=>rfl) k163.2) rfl rfl ?_
   refine aG 2 rfl ?_
   obtain ⟨x167,k167,H⟩ := bR H
   refine aY tk ⟨k167.1,(bF k167.2)⟩ (bL ho0 k167.2) ?_
   refine bt tk rfl rfl rfl rfl rfl rfl rfl rfl rfl (bg (fun _=>rfl) k167.2) rfl rfl ?_
   obtain ⟨x169,h169,H⟩ := ar H
   refine cQ hg_cmp (de.r) (hp_cmp _ _ _ h169) ?_
   refine aG 2 rfl (bM ?_)
   refine bm rfl H (fun H=>?_) (fun H=>?_)
   ·refine bW 3 tk rfl (bA ?_)
    obtain rfl := ax H
    refine bs (s18.1,(IntKind.i64.wrap ((IntKind.i64.wrap (Int.fdiv (IntKind.u64.wrap (IntKind.i64.wrap (s18.2.1 + s18.2.2))) (2 ^ 1))) + (1 : Int))),s18.2.2) () hg18 Gh.d
   refine bW 2 tk rfl (bA ?_)
   obtain rfl := ax H
   refine bs (s18.1,s18.2.1,(IntKind.i64.wrap (Int.fdiv (IntKind.u64.wrap (IntKind.i64.wrap (s18.2.1 + s18.2.2))) (2 ^ 1)))) () hg18 Gh.d
  refine cB rfl ?_
  obtain rfl := ax H
  refine bD (s18.1,s18.2.1,s18.2.2) () hg18 Gh.d
 have H := bB hn18 Hp18
 refine au 4 tk rfl (af (af ?_))
 refine fT (γ := Unit) (fun t19 g19=>⟨220,upd (upd (upd (upd (upd (upd (upd (upd (upd (fun _=>.any) 185 (bw t19.2)) 24 (ag (IntKind.i64.wrap ((IntKind.i64.wrap ((IntKind.i64.wrap (Int.fdiv (IntKind.u64.wrap (IntKind.i64.wrap (a + b))) (2 ^ 1))) + m)) - s18.2.1)))) 20 (ag s18.2.1)) 18 (ag (IntKind.i64.wrap (Int.fdiv (IntKind.u64.wrap (IntKind.i64.wrap (a + b))) (2 ^ 1))))) 4 (.fn g_cmp caps_cmp)) 3 (ag b)) 2 (ag m)) 1 (ag a)) 0 (.own 0 g_data (t19.1.map (ae 48 ab)).length),fun _=>none,upd (fun _=>none) 0 (some ⟨g_data,51,(t19.1.map (ae 48 ab)),true⟩)⟩) H (fun _ H=>?_) (fun t19 g19 H=>?_)
 ·refine ah (am 4 tk rfl ?_)
  refine ee rfl rfl rfl H (fun H=>?_) (fun H=>?_)
  ·refine am 4 tk rfl (al ?_)
   refine bD _ () H Gh.d
  refine am 4 tk rfl (al ?_)
  refine bD _ () H Gh.d
 refine jm (γ := Unit) (fun t20 g20=>⟨220,upd (upd (upd (upd (upd (upd (upd (fun _=>.any) 24 (ag (IntKind.i64.wrap ((IntKind.i64.wrap ((IntKind.i64.wrap (Int.fdiv (IntKind.u64.wrap (IntKind.i64.wrap (a + b))) (2 ^ 1))) + m)) - s18.2.1)))) 20 (ag s18.2.1)) 18 (ag (IntKind.i64.wrap (Int.fdiv (IntKind.u64.wrap (IntKind.i64.wrap (a + b))) (2 ^ 1))))) 4 (.fn g_cmp caps_cmp)) 3 (ag b)) 1 (ag a)) 0 (.own 0 g_data (t20.map (ae 48 ab)).length),fun _=>none,upd (fun _=>none) 0 (some ⟨g_data,51,(t20.map (ae 48 ab)),true⟩)⟩) H (fun _ H=>?_) (fun t20 g20 H=>?_)
 ·refine bm rfl H (fun H=>?_) (fun H=>?_)
  ·refine ah (am 5 tk rfl ?_)
   obtain ⟨x191,h191,H⟩ := ar H
   have s191 := fu g_data t19.1 s18.2.1 m (IntKind.i64.wrap ((IntKind.i64.wrap ((IntKind.i64.wrap (Int.fdiv (IntKind.u64.wrap (IntKind.i64.wrap (a + b))) (2 ^ 1))) + m)) - s18.2.1)) cmp hg_cmp hp_cmp _ h191
   obtain ⟨_,q191_0,H⟩ := ar H
   have l191_0 := (bS q191_0).1
   have z191_0 : (List.map (ae 48 ab) t19.1).length = (List.map (ae 48 ab) x191).length := by simpa using (l191_0).symm
   refine ce (g := 92) rfl rfl rfl Tryz.call92 [] [(0,0)] rfl rfl rfl rfl (de.of2 (eZ.cons (PLe2.own rfl) (eZ.cons (PLe2.of_eq rfl) (eZ.cons (PLe2.of_eq rfl) (eZ.cons (PLe2.of_eq rfl) (eZ.cons (PLe2.of_eq rfl) eZ.nil)))))) (by rw [aW,aM,aV]; rfl) s191 ?_
   rintro u191 H191h ⟨rfl,rfl⟩
   refine ⟨_,rfl,?_⟩
   refine bQ (st' := ⟨_,_,fun _=>none,upd (fun _=>none) 0 (some ⟨g_data,51,(x191.map (ae 48 ab)),true⟩)⟩) (Gh.le (aU _ _) ap (aC aq)) ?_
   refine al ?_
   refine bD _ () (ax H) (Gh.le (cf (PLe.of2 (PLe2.of_eq (congrArg (PV.own 0 g_data) z191_0))) (aA (aA (aA (aA (aA (aA aQ))))))) ap (aC aq))
  refine aH ?_
  refine bD _ () (ax H) Gh.d
 refine af (af ?_)
 refine fT (γ := Unit) (fun t21 g21=>⟨220,upd (upd (upd (upd (upd (upd (upd (upd (fun _=>.any) 199 (bw t21.2)) 24 (ag (IntKind.i64.wrap ((IntKind.i64.wrap ((IntKind.i64.wrap (Int.fdiv (IntKind.u64.wrap (IntKind.i64.wrap (a + b))) (2 ^ 1))) + m)) - s18.2.1)))) 20 (ag s18.2.1)) 18 (ag (IntKind.i64.wrap (Int.fdiv (IntKind.u64.wrap (IntKind.i64.wrap (a + b))) (2 ^ 1))))) 4 (.fn g_cmp caps_cmp)) 3 (ag b)) 1 (ag a)) 0 (.own 0 g_data (t21.1.map (ae 48 ab)).length),fun _=>none,upd (fun _=>none) 0 (some ⟨g_data,51,(t21.1.map (ae 48 ab)),true⟩)⟩) H (fun _ H=>?_) (fun t21 g21 H=>?_)
 ·refine ah (am 4 tk rfl ?_)
  refine ee rfl rfl rfl H (fun H=>?_) (fun H=>?_)
  ·refine am 4 tk rfl (al ?_)
   refine bD _ () H Gh.d
  refine am 4 tk rfl (al ?_)
  refine bD _ () H Gh.d
 refine jm (γ := Unit) (fun t22 g22=>⟨220,upd (upd (upd (upd (upd (fun _=>.any) 24 (ag (IntKind.i64.wrap ((IntKind.i64.wrap ((IntKind.i64.wrap (Int.fdiv (IntKind.u64.wrap (IntKind.i64.wrap (a + b))) (2 ^ 1))) + m)) - s18.2.1)))) 18 (ag (IntKind.i64.wrap (Int.fdiv (IntKind.u64.wrap (IntKind.i64.wrap (a + b))) (2 ^ 1))))) 4 (.fn g_cmp caps_cmp)) 3 (ag b)) 0 (.own 0 g_data (t22.map (ae 48 ab)).length),fun _=>none,upd (fun _=>none) 0 (some ⟨g_data,51,(t22.map (ae 48 ab)),true⟩)⟩) H (fun _ H=>?_) (fun t22 g22 H=>?_)
 ·refine bm rfl H (fun H=>?_) (fun H=>?_)
  ·refine ah (am 5 tk rfl ?_)
   obtain ⟨x205,h205,H⟩ := ar H
   have s205 := hrec59 g_data t21.1 a s18.2.1 (IntKind.i64.wrap (Int.fdiv (IntKind.u64.wrap (IntKind.i64.wrap (a + b))) (2 ^ 1))) _ h205
   obtain ⟨_,q205_0,H⟩ := ar H
   have l205_0 := (bS q205_0).1
   have z205_0 : (List.map (ae 48 ab) t21.1).length = (List.map (ae 48 ab) x205).length := by simpa using (l205_0).symm
   refine ce (g := 59) rfl rfl rfl Tryz.call59 [] [(0,0)] rfl rfl rfl rfl (de.of2 (eZ.cons (PLe2.own rfl) (eZ.cons (PLe2.of_eq rfl) (eZ.cons (PLe2.of_eq rfl) (eZ.cons (PLe2.of_eq rfl) (eZ.cons (PLe2.of_eq rfl) eZ.nil)))))) (by rw [aW,aM,aV]; rfl) s205 ?_
   rintro u205 H205h ⟨rfl,rfl⟩
   refine ⟨_,rfl,?_⟩
   refine bQ (st' := ⟨_,_,fun _=>none,upd (fun _=>none) 0 (some ⟨g_data,51,(x205.map (ae 48 ab)),true⟩)⟩) (Gh.le (aU _ _) ap (aC aq)) ?_
   refine al ?_
   refine bD _ () (ax H) (Gh.le (cf (PLe.of2 (PLe2.of_eq (congrArg (PV.own 0 g_data) z205_0))) (aA (aA (aA (aA aQ))))) ap (aC aq))
  refine aH ?_
  refine bD _ () (ax H) Gh.d
 refine af (ah (am 4 tk rfl ?_))
 refine ee rfl rfl rfl H (fun H=>?_) (fun H=>?_)
 ·refine am 4 tk rfl (al ?_)
  refine bm rfl H (fun H=>?_) (fun H=>?_)
  ·refine ah (am 5 tk rfl ?_)
   obtain ⟨x219,h219,H⟩ := ar H
   have s219 := hrec59 g_data t22 (IntKind.i64.wrap (Int.fdiv (IntKind.u64.wrap (IntKind.i64.wrap (a + b))) (2 ^ 1))) (IntKind.i64.wrap ((IntKind.i64.wrap ((IntKind.i64.wrap (Int.fdiv (IntKind.u64.wrap (IntKind.i64.wrap (a + b))) (2 ^ 1))) + m)) - s18.2.1)) b _ h219
   obtain ⟨_,q219_0,H⟩ := ar H
   have l219_0 := (bS q219_0).1
   have z219_0 : (List.map (ae 48 ab) t22).length = (List.map (ae 48 ab) x219).length := by simpa using (l219_0).symm
   refine ce (g := 59) rfl rfl rfl Tryz.call59 [] [(0,0)] rfl rfl rfl rfl (de.of2 (eZ.cons (PLe2.own rfl) (eZ.cons (PLe2.of_eq rfl) (eZ.cons (PLe2.of_eq rfl) (eZ.cons (PLe2.of_eq rfl) (eZ.cons (PLe2.of_eq rfl) eZ.nil)))))) (by rw [aW,aM,aV]; rfl) s219 ?_
   rintro u219 H219h ⟨rfl,rfl⟩
   refine ⟨_,rfl,?_⟩
   refine bQ (st' := ⟨_,_,fun _=>none,upd (fun _=>none) 0 (some ⟨g_data,51,(x219.map (ae 48 ab)),true⟩)⟩) (Gh.le (aU _ _) ap (aC aq)) ?_
   refine al ?_
   obtain rfl := ax H
   refine cq (st' := ⟨220,fun _=>.any,fun _=>none,upd (fun _=>none) 0 (some ⟨g_data,51,(x219.map (ae 48 ab)),true⟩)⟩) (Gh.le aQ ap (aC aq)) ?_
   refine dU rfl (PLe.q rfl) ⟨rfl,rfl⟩
  refine aH ?_
  obtain rfl := ax H
  refine cq (st' := ⟨220,fun _=>.any,fun _=>none,upd (fun _=>none) 0 (some ⟨g_data,51,(t22.map (ae 48 ab)),true⟩)⟩) (Gh.le aQ ap (aC aq)) ?_
  refine dU rfl (PLe.q rfl) ⟨rfl,rfl⟩
 refine am 4 tk rfl (al (jL rfl (aH ?_)))
 obtain rfl := ax H
 refine cq (st' := ⟨220,fun _=>.any,fun _=>none,upd (fun _=>none) 0 (some ⟨g_data,51,(t22.map (ae 48 ab)),true⟩)⟩) (Gh.le aQ ap (aC aq)) ?_
 refine dU rfl (PLe.q rfl) ⟨rfl,rfl⟩
def ao : Nat → Rz → Int → Int → Int → (Rq → Rq → Option (Int)) → Option (Rz)
 | 0,_,_,_,_,_=>none
 | n + 1,v0,v1,v2,v3,v4=>aT (fun b0 b1 b2 b3=>ao n b0 b1 b2 b3 v4) v0 v1 v2 v3 v4
theorem eO {g_cmp : FuncId} {caps_cmp : List PV} (cmp : Rq → Rq → Option (Int)) (hg_cmp : ∀ (vs : Array Value) (w : World),(callFunc g_cmp vs).run Tryz.prog w = .ok (.enter g_cmp vs) w) (hp_cmp : ∀ a0 a1 r,cmp a0 a1 = some r → bJ Tryz.prog g_cmp ((.list 48 (a0.map ab)) :: (.list 48 (a1.map ab)) :: caps_cmp) (ag r)) (n : Nat) : (∀ g0 a0 a1 a2 a3 r,ao n a0 a1 a2 a3 cmp = some r → PH Tryz.prog 59 [(.own 0 g0 (a0.map (ae 48 ab)).length),(ag a1),(ag a2),(ag a3),(.fn g_cmp caps_cmp)] ⟨fun _=>none,upd (fun _=>none) 0 (some ⟨g0,51,(a0.map (ae 48 ab)),true⟩)⟩ (fun u H=>u = (.tup []) ∧ H = ⟨fun _=>none,upd (fun _=>none) 0 (some ⟨g0,51,(r.map (ae 48 ab)),true⟩)⟩)) := by
 induction n with
 | zero=>exact (by intros; rename_i h; exact absurd (show (none : Option _) = some _ from h) (by simp))
 | succ n ih =>
  exact (fun g0 v0 v1 v2 v3 r h=>eK g0 (fun b0 b1 b2 b3=>ao n b0 b1 b2 b3 cmp) ih v0 v1 v2 v3 cmp hg_cmp hp_cmp r h)
def bY (data : Rz) (a : Int) (m : Int) (b : Int) (cmp : Rq → Rq → Option (Int)) : Option (Rz) := limN fun n=>ao n data a m b cmp
theorem dD (g_data : OwnRef) {g_cmp : FuncId} {caps_cmp : List PV} (data : Rz) (a : Int) (m : Int) (b : Int) (cmp : Rq → Rq → Option (Int)) (hg_cmp : ∀ (vs : Array Value) (w : World),(callFunc g_cmp vs).run Tryz.prog w = .ok (.enter g_cmp vs) w) (hp_cmp : ∀ a0 a1 r,cmp a0 a1 = some r → bJ Tryz.prog g_cmp ((.list 48 (a0.map ab)) :: (.list 48 (a1.map ab)) :: caps_cmp) (ag r)) (r : Rz) (H : bY data a m b cmp = some r) :
  PH Tryz.prog 59 [(.own 0 g_data (data.map (ae 48 ab)).length),(ag a),(ag m),(ag b),(.fn g_cmp caps_cmp)] ⟨fun _=>none,upd (fun _=>none) 0 (some ⟨g_data,51,(data.map (ae 48 ab)),true⟩)⟩ (fun u H=>u = (.tup []) ∧ H = ⟨fun _=>none,upd (fun _=>none) 0 (some ⟨g_data,51,(r.map (ae 48 ab)),true⟩)⟩) := by
 obtain ⟨n,h⟩ := limN_some H
 exact (eO cmp hg_cmp hp_cmp n) g_data data a m b r h
def cv (a : Rq) (b : Rq) (byA : LExtsortOrdering) : Option (Int) :=
 ac (dL a byA) fun x9 =>
 ac (dL b byA) fun x12 =>
 ac (cU x9 x12 byA.descending) fun x15 =>
 some x15
theorem gU (a : Rq) (b : Rq) (byA : LExtsortOrdering) (r : Int) (H : cv a b byA = some r) :
  bJ Tryz.prog 27 [(.list 48 (a.map ab)),(.list 48 (b.map ab)),(.agg (aN byA))] (ag r) := by
 unfold cv at H
 refine PH.aD Tryz.func27 Tryz.ntmps27 ?_
 refine af (ah (cD ?_))
 refine ay tk rfl (al (af (cA tk mok ⟨false,false,[]⟩ [0,1,3,4,6,7,2,5,8,9] rfl (by decide +kernel) rfl (aG 6 rfl ?_))))
 obtain ⟨x9,h9,H⟩ := ar H
 have s9 := iZ a byA _ h9
 refine cQ Tryz.call44 (de.r) s9 ?_
 obtain ⟨x12,h12,H⟩ := ar H
 have s12 := iZ b byA _ h12
 refine cQ Tryz.call44 (de.r) s12 ?_
 obtain ⟨x15,h15,H⟩ := ar H
 have s15 := jb x9 x12 byA.descending _ h15
 refine cQ Tryz.call43 (de.r) s15 ?_
 refine db rfl (bM ?_)
 exact cI tk H rfl
def cM (a : Rz) (b : Rz) : Option (Bool) :=
 ac (bf a b (fun a0 a1=>ca a0 a1)) fun x7 =>
 some x7
theorem iR (a : Rz) (b : Rz) (r : Bool) (H : cM a b = some r) :
  bJ Tryz.prog 7 [(.list 51 (a.map (ae 48 ab))),(.list 51 (b.map (ae 48 ab)))] (bw r) := by
 unfold cM at H
 refine PH.aD Tryz.func7 Tryz.ntmps7 ?_
 refine au 1 tk rfl (af (ah (am 2 tk rfl ?_)))
 obtain ⟨x7,h7,H⟩ := ar H
 have s7 := dq a b (fun a0 a1=>ca a0 a1) Tryz.call17 (fun a0 a1 r h=>ib a0 a1 r h) _ h7
 refine bT Tryz.call16 (de.r) s7 ?_
 refine ay tk rfl (al ?_)
 exact cI tk H rfl
def bZ (x : Rq) (c1 : Rz) (c2 : Rz) : Option (Bool) :=
 ac (cb c1 x) fun x9 =>
 ac (cb c2 x) fun x13 =>
 some (x9 != x13)
theorem ia (x : Rq) (c1 : Rz) (c2 : Rz) (r : Bool) (H : bZ x c1 c2 = some r) :
  bJ Tryz.prog 21 [(.list 48 (x.map ab)),(.ptr [.fn 19 []]),(.ptr [(.list 51 (c1.map (ae 48 ab)))]),(.ptr [(.list 51 (c2.map (ae 48 ab)))])] (bw r) := by
 unfold bZ at H
 refine PH.aD Tryz.func21 Tryz.ntmps21 ?_
 refine au 1 tk rfl (af (cA tk mok ⟨false,false,[]⟩ [0,1,2,4,5,6,3,7,8,9] rfl (by decide +kernel) rfl (aG 6 rfl ?_)))
 obtain ⟨x9,h9,H⟩ := ar H
 have s9 := eJ c1 x _ h9
 refine cQ Tryz.call19 (de.r) s9 ?_
 obtain ⟨x13,h13,H⟩ := ar H
 have s13 := eJ c2 x _ h13
 refine cQ Tryz.call19 (de.r) s13 ?_
 refine aG 2 rfl (bM ?_)
 exact cI tk H rfl
def bj (data : Rz) (n : Int) (cmp : Rq → Rq → Option (Int)) : Option (Rz) :=
 ac (co (σ := Rz × Int × Int) (ρ := Empty) (fun (s1 : Rz × Int × Int) =>
  cond (decide (s1.2.2 ≤ n))
   (ac (aI s1.1 s1.2.1 s1.2.2 cmp) fun x18 =>
   ac (cG (x18.length = s1.1.length) ()) fun (_ : Unit) =>
   some (.next (x18,s1.2.2,(IntKind.i64.wrap (s1.2.2 + (20 : Int))))))
   (some (.brk (s1.1,s1.2.1,s1.2.2)))) (data,0,20)) fun fl1=>fl1.thenP fun (s1 : Rz × Int × Int) =>
 ac (aI s1.1 s1.2.1 n cmp) fun x27 =>
 ac (cG (x27.length = s1.1.length) ()) fun (_ : Unit) =>
 ac (co (σ := Rz × Int) (ρ := Empty) (fun (s2 : Rz × Int) =>
  cond (decide (s2.2 < n))
   (ac (co (σ := Rz × Int × Int) (ρ := Empty) (fun (s5 : Rz × Int × Int) =>
    cond (decide (s5.2.2 ≤ n))
     (ac (bY s5.1 s5.2.1 (IntKind.i64.wrap (s5.2.1 + s2.2)) s5.2.2 cmp) fun x43 =>
     ac (cG (x43.length = s5.1.length) ()) fun (_ : Unit) =>
     some (.next (x43,s5.2.2,(IntKind.i64.wrap (s5.2.2 + (IntKind.i64.wrap ((2 : Int) * s2.2)))))))
     (some (.brk (s5.1,s5.2.1,s5.2.2)))) (s2.1,0,(IntKind.i64.wrap ((2 : Int) * s2.2)))) fun fl5=>fl5.thenP fun (s5 : Rz × Int × Int) =>
   cond (decide ((IntKind.i64.wrap (s5.2.1 + s2.2)) < n))
    (ac (bY s5.1 s5.2.1 (IntKind.i64.wrap (s5.2.1 + s2.2)) n cmp) fun x60 =>
    ac (cG (x60.length = s5.1.length) ()) fun (_ : Unit) =>
    some (.next (x60,(IntKind.i64.wrap (s2.2 * (2 : Int))))))
    (some (.next (s5.1,(IntKind.i64.wrap (s2.2 * (2 : Int)))))))
   (some (.brk (s2.1,s2.2)))) (x27,20)) fun fl2=>fl2.thenP fun (s2 : Rz × Int) =>
 some s2.1
theorem fB (g_data : OwnRef) {g_cmp : FuncId} {caps_cmp : List PV} (data : Rz) (n : Int) (cmp : Rq → Rq → Option (Int)) (hg_cmp : ∀ (vs : Array Value) (w : World),(callFunc g_cmp vs).run Tryz.prog w = .ok (.enter g_cmp vs) w) (hp_cmp : ∀ a0 a1 r,cmp a0 a1 = some r → bJ Tryz.prog g_cmp ((.list 48 (a0.map ab)) :: (.list 48 (a1.map ab)) :: caps_cmp) (ag r)) (r : Rz) (H : bj data n cmp = some r) :
  PH Tryz.prog 42 [(.own 0 g_data (data.map (ae 48 ab)).length),(ag n),(.fn g_cmp caps_cmp)] ⟨fun _=>none,upd (fun _=>none) 0 (some ⟨g_data,51,(data.map (ae 48 ab)),true⟩)⟩ (fun u H=>u = (.tup []) ∧ H = ⟨fun _=>none,upd (fun _=>none) 0 (some ⟨g_data,51,(r.map (ae 48 ab)),true⟩)⟩) := by
 unfold bj at H
 refine PH.aD Tryz.func42 Tryz.ntmps42 ?_
 refine au 1 tk rfl (au 3 tk rfl (af ?_))
 obtain ⟨fl1,H1,Hp1⟩ := ar H
 refine dv (τ := Rz × Int × Int) (γ := Unit) (fun s1 g1=>⟨63,upd (upd (upd (upd (upd (fun _=>.any) 7 (ag s1.2.1)) 6 (ag 20)) 2 (.fn g_cmp caps_cmp)) 1 (ag n)) 0 (.own 0 g_data (s1.1.map (ae 48 ab)).length),fun _=>none,upd (fun _=>none) 0 (some ⟨g_data,51,(s1.1.map (ae 48 ab)),true⟩)⟩) (fun t=>fl1 = .next t) ?_ (fun s1 g1 hn1=>?_)
 ·refine aF ?_
  refine cu (fun s1 g1=>⟨63,upd (upd (upd (upd (upd (upd (fun _=>.any) 8 (ag s1.2.2)) 7 (ag s1.2.1)) 6 (ag 20)) 2 (.fn g_cmp caps_cmp)) 1 (ag n)) 0 (.own 0 g_data (s1.1.map (ae 48 ab)).length),fun _=>none,upd (fun _=>none) 0 (some ⟨g_data,51,(s1.1.map (ae 48 ab)),true⟩)⟩) () H1 Gh.d (fun m1 s1 g1 hr1=>?_)
  obtain ⟨fb1,H,hg1⟩ := bN hr1
  refine af (au 3 tk rfl ?_)
  refine bm rfl H (fun H=>?_) (fun H=>?_)
  ·refine aH (aF (af (ah (am 4 tk rfl ?_))))
   obtain ⟨x18,h18,H⟩ := ar H
   have s18 := cX g_data s1.1 s1.2.1 s1.2.2 cmp hg_cmp hp_cmp _ h18
   obtain ⟨_,q18_0,H⟩ := ar H
   have l18_0 := (bS q18_0).1
   have z18_0 : (List.map (ae 48 ab) s1.1).length = (List.map (ae 48 ab) x18).length := by simpa using (l18_0).symm
   refine ce (g := 58) rfl rfl rfl Tryz.call58 [] [(0,0)] rfl rfl rfl rfl (de.of2 (eZ.cons (PLe2.own rfl) (eZ.cons (PLe2.of_eq rfl) (eZ.cons (PLe2.of_eq rfl) (eZ.cons (PLe2.of_eq rfl) eZ.nil))))) (by rw [aW,aM,aV]; rfl) s18 ?_
   rintro u18 H18h ⟨rfl,rfl⟩
   refine ⟨_,rfl,?_⟩
   refine bQ (st' := ⟨_,_,fun _=>none,upd (fun _=>none) 0 (some ⟨g_data,51,(x18.map (ae 48 ab)),true⟩)⟩) (Gh.le (aU _ _) ap (aC aq)) ?_
   refine al (au 2 tk rfl (bW 4 tk rfl (bA ?_)))
   obtain rfl := ax H
   refine bs (x18,s1.2.2,(IntKind.i64.wrap (s1.2.2 + (20 : Int)))) () hg1 (Gh.le (cf (PLe.of2 (PLe2.of_eq (congrArg (PV.own 0 g_data) z18_0))) (aA (aA (aA (aA (aA aQ)))))) ap (aC aq))
  refine cB rfl ?_
  obtain rfl := ax H
  refine bD (s1.1,s1.2.1,s1.2.2) () hg1 Gh.d
 have H := bB hn1 Hp1
 refine af (ah (am 4 tk rfl ?_))
 obtain ⟨x27,h27,H⟩ := ar H
 have s27 := cX g_data s1.1 s1.2.1 n cmp hg_cmp hp_cmp _ h27
 obtain ⟨_,q27_0,H⟩ := ar H
 have l27_0 := (bS q27_0).1
 have z27_0 : (List.map (ae 48 ab) s1.1).length = (List.map (ae 48 ab) x27).length := by simpa using (l27_0).symm
 refine ce (g := 58) rfl rfl rfl Tryz.call58 [] [(0,0)] rfl rfl rfl rfl (de.of2 (eZ.cons (PLe2.own rfl) (eZ.cons (PLe2.of_eq rfl) (eZ.cons (PLe2.of_eq rfl) (eZ.cons (PLe2.of_eq rfl) eZ.nil))))) (by rw [aW,aM,aV]; rfl) s27 ?_
 rintro u27 H27h ⟨rfl,rfl⟩
 refine ⟨_,rfl,?_⟩
 refine bQ (st' := ⟨_,_,fun _=>none,upd (fun _=>none) 0 (some ⟨g_data,51,(x27.map (ae 48 ab)),true⟩)⟩) (Gh.le (aU _ _) ap (aC aq)) ?_
 refine al ?_
 obtain ⟨fl2,H2,Hp2⟩ := ar H
 refine dv (τ := Rz × Int) (γ := Unit) (fun s2 g2=>⟨63,upd (fun _=>.any) 0 (.own 0 g_data (s2.1.map (ae 48 ab)).length),fun _=>none,upd (fun _=>none) 0 (some ⟨g_data,51,(s2.1.map (ae 48 ab)),true⟩)⟩) (fun t=>fl2 = .next t) ?_ (fun s2 g2 hn2=>?_)
 ·refine aF ?_
  refine cu (fun s2 g2=>⟨63,upd (upd (upd (upd (fun _=>.any) 6 (ag s2.2)) 2 (.fn g_cmp caps_cmp)) 1 (ag n)) 0 (.own 0 g_data (s2.1.map (ae 48 ab)).length),fun _=>none,upd (fun _=>none) 0 (some ⟨g_data,51,(s2.1.map (ae 48 ab)),true⟩)⟩) () H2 (Gh.le (cf (PLe.of2 (PLe2.of_eq (congrArg (PV.own 0 g_data) z27_0))) (aA (aA (aA aQ)))) ap (aC aq)) (fun m2 s2 g2 hr2=>?_)
  obtain ⟨fb2,H,hg2⟩ := bN hr2
  refine af (au 3 tk rfl ?_)
  refine bm rfl H (fun H=>?_) (fun H=>?_)
  ·refine aH (aF (au 4 tk rfl (af ?_)))
   obtain ⟨fl5,H5,Hp5⟩ := ar H
   refine dv (τ := Rz × Int × Int) (γ := Unit) (fun s5 g5=>⟨63,upd (upd (upd (upd (upd (fun _=>.any) 7 (ag s5.2.1)) 6 (ag s2.2)) 2 (.fn g_cmp caps_cmp)) 1 (ag n)) 0 (.own 0 g_data (s5.1.map (ae 48 ab)).length),fun _=>none,upd (fun _=>none) 0 (some ⟨g_data,51,(s5.1.map (ae 48 ab)),true⟩)⟩) (fun t=>fl5 = .next t) ?_ (fun s5 g5 hn5=>?_)
   ·refine aF ?_
    refine cu (fun s5 g5=>⟨63,upd (upd (upd (upd (upd (upd (fun _=>.any) 8 (ag s5.2.2)) 7 (ag s5.2.1)) 6 (ag s2.2)) 2 (.fn g_cmp caps_cmp)) 1 (ag n)) 0 (.own 0 g_data (s5.1.map (ae 48 ab)).length),fun _=>none,upd (fun _=>none) 0 (some ⟨g_data,51,(s5.1.map (ae 48 ab)),true⟩)⟩) () H5 Gh.d (fun m5 s5 g5 hr5=>?_)
    obtain ⟨fb5,H,hg5⟩ := bN hr5
    refine af (au 3 tk rfl ?_)
    refine bm rfl H (fun H=>?_) (fun H=>?_)
    ·refine aH (aF (af (ah (am 7 tk rfl ?_))))
     obtain ⟨x43,h43,H⟩ := ar H
     have s43 := dD g_data s5.1 s5.2.1 (IntKind.i64.wrap (s5.2.1 + s2.2)) s5.2.2 cmp hg_cmp hp_cmp _ h43
     obtain ⟨_,q43_0,H⟩ := ar H
     have l43_0 := (bS q43_0).1
     have z43_0 : (List.map (ae 48 ab) s5.1).length = (List.map (ae 48 ab) x43).length := by simpa using (l43_0).symm
     refine ce (g := 59) rfl rfl rfl Tryz.call59 [] [(0,0)] rfl rfl rfl rfl (de.of2 (eZ.cons (PLe2.own rfl) (eZ.cons (PLe2.of_eq rfl) (eZ.cons (PLe2.of_eq rfl) (eZ.cons (PLe2.of_eq rfl) (eZ.cons (PLe2.of_eq rfl) eZ.nil)))))) (by rw [aW,aM,aV]; rfl) s43 ?_
     rintro u43 H43h ⟨rfl,rfl⟩
     refine ⟨_,rfl,?_⟩
     refine bQ (st' := ⟨_,_,fun _=>none,upd (fun _=>none) 0 (some ⟨g_data,51,(x43.map (ae 48 ab)),true⟩)⟩) (Gh.le (aU _ _) ap (aC aq)) ?_
     refine al (au 2 tk rfl (bW 5 tk rfl (bA ?_)))
     obtain rfl := ax H
     refine bs (x43,s5.2.2,(IntKind.i64.wrap (s5.2.2 + (IntKind.i64.wrap ((2 : Int) * s2.2))))) () hg5 (Gh.le (cf (PLe.of2 (PLe2.of_eq (congrArg (PV.own 0 g_data) z43_0))) (aA (aA (aA (aA (aA aQ)))))) ap (aC aq))
    refine cB rfl ?_
    obtain rfl := ax H
    refine bD (s5.1,s5.2.1,s5.2.2) () hg5 Gh.d
   have H := bB hn5 Hp5
   refine af (au 4 tk rfl (au 3 tk rfl ?_))
   refine bm rfl H (fun H=>?_) (fun H=>?_)
   ·refine ah (am 5 tk rfl ?_)
    obtain ⟨x60,h60,H⟩ := ar H
    have s60 := dD g_data s5.1 s5.2.1 (IntKind.i64.wrap (s5.2.1 + s2.2)) n cmp hg_cmp hp_cmp _ h60
    obtain ⟨_,q60_0,H⟩ := ar H
    have l60_0 := (bS q60_0).1
    have z60_0 : (List.map (ae 48 ab) s5.1).length = (List.map (ae 48 ab) x60).length := by simpa using (l60_0).symm
    refine ce (g := 59) rfl rfl rfl Tryz.call59 [] [(0,0)] rfl rfl rfl rfl (de.of2 (eZ.cons (PLe2.own rfl) (eZ.cons (PLe2.of_eq rfl) (eZ.cons (PLe2.of_eq rfl) (eZ.cons (PLe2.of_eq rfl) (eZ.cons (PLe2.of_eq rfl) eZ.nil)))))) (by rw [aW,aM,aV]; rfl) s60 ?_
    rintro u60 H60h ⟨rfl,rfl⟩
    refine ⟨_,rfl,?_⟩
    refine bQ (st' := ⟨_,_,fun _=>none,upd (fun _=>none) 0 (some ⟨g_data,51,(x60.map (ae 48 ab)),true⟩)⟩) (Gh.le (aU _ _) ap (aC aq)) ?_
    refine al (bW 3 tk rfl (bA ?_))
    obtain rfl := ax H
    refine bs (x60,(IntKind.i64.wrap (s2.2 * (2 : Int)))) () hg2 (Gh.le (cf (PLe.of2 (PLe2.of_eq (congrArg (PV.own 0 g_data) z60_0))) (aA (aA (aA aQ)))) ap (aC aq))
   refine aH (bW 3 tk rfl (bA ?_))
   obtain rfl := ax H
   refine bs (s5.1,(IntKind.i64.wrap (s2.2 * (2 : Int)))) () hg2 Gh.d
  refine cB rfl ?_
  obtain rfl := ax H
  refine bD (s2.1,s2.2) () hg2 Gh.d
 have H := bB hn2 Hp2
 obtain rfl := ax H
 refine cq (st' := ⟨63,fun _=>.any,fun _=>none,upd (fun _=>none) 0 (some ⟨g_data,51,(s2.1.map (ae 48 ab)),true⟩)⟩) (Gh.le aQ ap (aC aq)) ?_
 refine dU rfl (PLe.q rfl) ⟨rfl,rfl⟩
def bV (a : Rq) (b : Rq) (c0 : LExtsortOrdering) : Option (Int) :=
 ac (cv a b c0) fun x9 =>
 some x9
theorem gM (a : Rq) (b : Rq) (c0 : LExtsortOrdering) (r : Int) (H : bV a b c0 = some r) :
  bJ Tryz.prog 26 [(.list 48 (a.map ab)),(.list 48 (b.map ab)),(.ptr (aN c0))] (ag r) := by
 unfold bV at H
 refine PH.aD Tryz.func26 Tryz.ntmps26 ?_
 refine au 1 tk rfl (af (ah (am 3 tk rfl ?_)))
 obtain ⟨x9,h9,H⟩ := ar H
 have s9 := gU a b c0 _ h9
 refine bT Tryz.call27 (de.r) s9 ?_
 refine ay tk rfl (al ?_)
 exact cI tk H rfl
def bi (hA : LExtsortHeads) (i : Int) (jA : Int) : Option (Bool × LExtsortHeads) :=
 ac (aL hA.l i) fun (x13 : LExtsortHead) =>
 ac (aL hA.l jA) fun (x21 : LExtsortHead) =>
 ac (cv x13.row x21.row hA.byF) fun x28 =>
 cond (decide (x28 < (0 : Int)))
  (some (true,hA))
  (cond (x28 == (0 : Int))
   (ac (aL hA.l i) fun (x40 : LExtsortHead) =>
   ac (aL hA.l jA) fun (x48 : LExtsortHead) =>
   some ((decide (x40.runF < x48.runF)),hA))
   (some (false,hA)))
theorem ed (b_hA : Nat) (g_hA_2 : OwnRef) (hA : LExtsortHeads) (i : Int) (jA : Int) (r : Bool × LExtsortHeads) (H : bi hA i jA = some r) :
  PH Tryz.prog 219 [(.box 1500 b_hA 0),(ag i),(ag jA)] ⟨upd (fun _=>none) 1500 (some ⟨b_hA,[(.list 3 (hA.byF.columns.map ba)),(.list 4 (hA.byF.descending.map aE)),(.own 1602 g_hA_2 (hA.l.map aa).length)]⟩),upd (fun _=>none) 1602 (some ⟨g_hA_2,99,(hA.l.map aa),true⟩)⟩ (fun u H=>∃ gz0_2,u = (bw r.1) ∧ H = ⟨upd (fun _=>none) 1500 (some ⟨b_hA,[(.list 3 (r.2.byF.columns.map ba)),(.list 4 (r.2.byF.descending.map aE)),(.own 1602 gz0_2 (r.2.l.map aa).length)]⟩),upd (fun _=>none) 1602 (some ⟨gz0_2,99,(r.2.l.map aa),true⟩)⟩) := by
 unfold bi at H
 refine PH.aD Tryz.func219 Tryz.ntmps219 ?_
 refine au 1 tk rfl (af ?_)
 refine eh (tag := 1602) rfl (fun ho1602=>?_)
 refine cA tk mok ⟨true,true,[]⟩ [0,1,2,3,4,5,6,7,8,9,10,11,12,13,14,15,16,17,18,19,20,21] rfl (by decide +kernel) rfl (aG 3 rfl (bk ?_))
 refine db rfl ?_
 obtain ⟨x13,k13,H⟩ := bR H
 refine aY tk ⟨k13.1,(bF k13.2)⟩ (bL ho1602 k13.2) ?_
 refine db rfl ?_
 refine bt tk rfl rfl rfl rfl rfl rfl rfl rfl rfl (bg (fun _=>rfl) k13.2) rfl rfl ?_
 refine aG 3 rfl (bk ?_)
 refine db rfl ?_
 obtain ⟨x21,k21,H⟩ := bR H
 refine aY tk ⟨k21.1,(bF k21.2)⟩ (bL ho1602 k21.2) ?_
 refine db rfl ?_
 refine bt tk rfl rfl rfl rfl rfl rfl rfl rfl rfl (bg (fun _=>rfl) k21.2) rfl rfl ?_
 refine aG 3 rfl (bk ?_)
 obtain ⟨x28,h28,H⟩ := ar H
 have s28 := gU x13.row x21.row hA.byF _ h28
 refine cQ Tryz.call27 (de.r) s28 ?_
 refine db rfl (bM (af ?_))
 refine eh (tag := 1602) rfl (fun ho1602=>?_)
 refine cA tk mok ⟨true,true,[]⟩ [0,1,2,3,4,5,6,7,8,9,10,11,12,13,14,15,16,17,18,19,20,21,22,23,24,25] rfl (by decide +kernel) rfl (aG 3 rfl ?_)
 refine kw rfl rfl rfl rfl H (fun H=>?_) (fun H=>?_)
 ·refine aG 23 rfl (bM ?_)
  obtain rfl := ax H
  refine cq (st' := ⟨54,upd (fun _=>.any) 6 (bw true),upd (fun _=>none) 1500 (some ⟨b_hA,[(.list 3 (hA.byF.columns.map ba)),(.list 4 (hA.byF.descending.map aE)),(.own 1602 g_hA_2 (hA.l.map aa).length)]⟩),upd (fun _=>none) 1602 (some ⟨g_hA_2,99,(hA.l.map aa),true⟩)⟩) (Gh.le (aA aQ) (aP rfl (de.r) ap) (aC aq)) ?_
  refine fp tk rfl (ps := [(bw true)]) ⟨_,_,rfl,rfl,rfl⟩ (PLe.q rfl) ⟨_,rfl,rfl⟩
 refine aG 3 rfl ?_
 refine kw rfl rfl rfl rfl H (fun H=>?_) (fun H=>?_)
 ·refine aG 3 rfl (bk ?_)
  refine db rfl ?_
  obtain ⟨x40,k40,H⟩ := bR H
  refine aY tk ⟨k40.1,(bF k40.2)⟩ (bL ho1602 k40.2) ?_
  refine db rfl ?_
  refine bt tk rfl rfl rfl rfl rfl rfl rfl rfl rfl (bg (fun _=>rfl) k40.2) rfl rfl ?_
  refine aG 3 rfl (bk ?_)
  refine db rfl ?_
  obtain ⟨x48,k48,H⟩ := bR H
  refine aY tk ⟨k48.1,(bF k48.2)⟩ (bL ho1602 k48.2) ?_
  refine db rfl ?_
  refine bt tk rfl rfl rfl rfl rfl rfl rfl rfl rfl (bg (fun _=>rfl) k48.2) rfl rfl ?_
  refine aG 4 rfl (bM ?_)
  obtain rfl := ax H
  refine cq (st' := ⟨54,upd (fun _=>.any) 6 (bw (decide (x40.runF < x48.runF))),upd (fun _=>none) 1500 (some ⟨b_hA,[(.list 3 (hA.byF.columns.map ba)),(.list 4 (hA.byF.descending.map aE)),(.own 1602 g_hA_2 (hA.l.map aa).length)]⟩),upd (fun _=>none) 1602 (some ⟨g_hA_2,99,(hA.l.map aa),true⟩)⟩) (Gh.le (aA aQ) (aP rfl (de.r) ap) (aC aq)) ?_
  refine fp tk rfl (ps := [(bw (decide (x40.runF < x48.runF)))]) ⟨_,_,rfl,rfl,rfl⟩ (PLe.q rfl) ⟨_,rfl,rfl⟩
 refine aG 20 rfl (bM ?_)
 obtain rfl := ax H
 refine cq (st' := ⟨54,upd (fun _=>.any) 6 (bw false),upd (fun _=>none) 1500 (some ⟨b_hA,[(.list 3 (hA.byF.columns.map ba)),(.list 4 (hA.byF.descending.map aE)),(.own 1602 g_hA_2 (hA.l.map aa).length)]⟩),upd (fun _=>none) 1602 (some ⟨g_hA_2,99,(hA.l.map aa),true⟩)⟩) (Gh.le (aA aQ) (aP rfl (de.r) ap) (aC aq)) ?_
 refine fp tk rfl (ps := [(bw false)]) ⟨_,_,rfl,rfl,rfl⟩ (PLe.q rfl) ⟨_,rfl,rfl⟩
def cN (a : Rz) (b : Rz) : Option (Bool) :=
 cond ((a.length : Int) == (b.length : Int))
  (ac (aO a (fun a0=>bZ a0 a b)) fun x14 =>
  some (!x14))
  (some false)
theorem iL (a : Rz) (b : Rz) (r : Bool) (H : cN a b = some r) :
  bJ Tryz.prog 8 [(.list 51 (a.map (ae 48 ab))),(.list 51 (b.map (ae 48 ab)))] (bw r) := by
 unfold cN at H
 refine PH.aD Tryz.func8 Tryz.ntmps8 ?_
 refine af (ah (cD ?_))
 refine cD ?_
 refine ay tk rfl (al (af (ah ?_)))
 refine gG tk rfl rfl rfl rfl rfl rfl fun b5=>?_
 refine kx tk rfl rfl rfl rfl rfl rfl rfl rfl rfl rfl rfl (al (af (kv 5 rfl rfl rfl rfl (ah (ay tk rfl (bh tk (zl _) ?_))))))
 refine ay tk rfl (bh tk (zl _) ?_)
 refine am 2 tk rfl ?_
 refine ee rfl rfl rfl H (fun H=>?_) (fun H=>?_)
 ·refine am 2 tk rfl ?_
  obtain ⟨x14,h14,H⟩ := ar H
  have s14 := cT a (fun a0=>bZ a0 a b) Tryz.call21 (fun a0 r h=>ia a0 a b r h) _ h14
  refine bT Tryz.call20 (de.r) s14 ?_
  refine am 3 tk rfl (al ?_)
  exact cI tk H rfl
 refine am 6 tk rfl (al ?_)
 exact cI tk H rfl
def aw (x : Rz) (cmp : Rq → Rq → Option (Int)) : Option (Rz) :=
 ac (bj x (x.length : Int) cmp) fun x8 =>
 ac (cG (x8.length = x.length) ()) fun (_ : Unit) =>
 some x8
theorem ef (g_x : OwnRef) {g_cmp : FuncId} {caps_cmp : List PV} (x : Rz) (cmp : Rq → Rq → Option (Int)) (hg_cmp : ∀ (vs : Array Value) (w : World),(callFunc g_cmp vs).run Tryz.prog w = .ok (.enter g_cmp vs) w) (hp_cmp : ∀ a0 a1 r,cmp a0 a1 = some r → bJ Tryz.prog g_cmp ((.list 48 (a0.map ab)) :: (.list 48 (a1.map ab)) :: caps_cmp) (ag r)) (r : Rz) (H : aw x cmp = some r) :
  PH Tryz.prog 25 [(.own 0 g_x (x.map (ae 48 ab)).length),(.fn g_cmp caps_cmp)] ⟨fun _=>none,upd (fun _=>none) 0 (some ⟨g_x,51,(x.map (ae 48 ab)),true⟩)⟩ (fun u H=>u = (.tup []) ∧ H = ⟨fun _=>none,upd (fun _=>none) 0 (some ⟨g_x,51,(r.map (ae 48 ab)),true⟩)⟩) := by
 unfold aw at H
 refine PH.aD Tryz.func25 Tryz.ntmps25 ?_
 refine ah (am 2 tk rfl (kM tk rfl rfl rfl rfl rfl (zl _) rfl (ay tk rfl ?_)))
 obtain ⟨x8,h8,H⟩ := ar H
 have s8 := fB g_x x (x.length : Int) cmp hg_cmp hp_cmp _ h8
 obtain ⟨_,q8_0,H⟩ := ar H
 have l8_0 := (bS q8_0).1
 have z8_0 : (List.map (ae 48 ab) x).length = (List.map (ae 48 ab) x8).length := by simpa using (l8_0).symm
 refine ce (g := 42) rfl rfl rfl Tryz.call42 [] [(0,0)] rfl rfl rfl rfl (de.of2 (eZ.cons (PLe2.own rfl) (eZ.cons (PLe2.of_eq rfl) (eZ.cons (PLe2.of_eq rfl) eZ.nil)))) (by rw [aW,aM,aV]; rfl) s8 ?_
 rintro u8 H8h ⟨rfl,rfl⟩
 refine ⟨_,rfl,?_⟩
 refine bQ (st' := ⟨_,_,fun _=>none,upd (fun _=>none) 0 (some ⟨g_x,51,(x8.map (ae 48 ab)),true⟩)⟩) (Gh.le (aU _ _) ap (aC aq)) ?_
 refine al ?_
 obtain rfl := ax H
 refine cq (st' := ⟨9,fun _=>.any,fun _=>none,upd (fun _=>none) 0 (some ⟨g_x,51,(x8.map (ae 48 ab)),true⟩)⟩) (Gh.le aQ ap (aC aq)) ?_
 refine dU rfl (PLe.q rfl) ⟨rfl,rfl⟩
def ck (hA : LExtsortHeads) (i0 : Int) (n : Int) : Option (Bool × LExtsortHeads) :=
 ac (co (σ := Int × LExtsortHeads) (ρ := Empty) (fun (s1 : Int × LExtsortHeads) =>
  cp (
   cond (decide ((IntKind.i64.wrap ((IntKind.i64.wrap ((2 : Int) * s1.1)) + (1 : Int))) ≥ n))
    (true)
    ((decide ((IntKind.i64.wrap ((IntKind.i64.wrap ((2 : Int) * s1.1)) + (1 : Int))) < (0 : Int))))) fun (t8 : Bool) =>
  cond t8
   (some (.brk (s1.1,s1.2)))
   (ac (
    cond (decide ((IntKind.i64.wrap ((IntKind.i64.wrap ((IntKind.i64.wrap ((2 : Int) * s1.1)) + (1 : Int))) + (1 : Int))) < n))
     (ac (bi s1.2 (IntKind.i64.wrap ((IntKind.i64.wrap ((IntKind.i64.wrap ((2 : Int) * s1.1)) + (1 : Int))) + (1 : Int))) (IntKind.i64.wrap ((IntKind.i64.wrap ((2 : Int) * s1.1)) + (1 : Int)))) fun x32 =>
     some (x32.1,x32.2))
     (some (false,s1.2))) fun (t9 : Bool × LExtsortHeads) =>
   cp (
    cond t9.1
     ((IntKind.i64.wrap ((IntKind.i64.wrap ((IntKind.i64.wrap ((2 : Int) * s1.1)) + (1 : Int))) + (1 : Int))))
     ((IntKind.i64.wrap ((IntKind.i64.wrap ((2 : Int) * s1.1)) + (1 : Int))))) fun (t10 : Int) =>
   ac (bi t9.2 t10 s1.1) fun x38 =>
   cond (!x38.1)
    (some (.brk (s1.1,x38.2)))
    (ac (bq x38.2 s1.1 t10) fun x43 =>
    some (.next (t10,x43))))) (i0,hA)) fun fl1=>fl1.thenP fun (s1 : Int × LExtsortHeads) =>
 some ((decide (s1.1 > i0)),s1.2)
theorem fe (b_hA : Nat) (g_hA_2 : OwnRef) (hA : LExtsortHeads) (i0 : Int) (n : Int) (r : Bool × LExtsortHeads) (H : ck hA i0 n = some r) :
  PH Tryz.prog 56 [(.ifc 94 (.box 1500 b_hA 0)),(ag i0),(ag n)] ⟨upd (fun _=>none) 1500 (some ⟨b_hA,[(.list 3 (hA.byF.columns.map ba)),(.list 4 (hA.byF.descending.map aE)),(.own 1602 g_hA_2 (hA.l.map aa).length)]⟩),upd (fun _=>none) 1602 (some ⟨g_hA_2,99,(hA.l.map aa),true⟩)⟩ (fun u H=>∃ gz0_2,u = (bw r.1) ∧ H = ⟨upd (fun _=>none) 1500 (some ⟨b_hA,[(.list 3 (r.2.byF.columns.map ba)),(.list 4 (r.2.byF.descending.map aE)),(.own 1602 gz0_2 (r.2.l.map aa).length)]⟩),upd (fun _=>none) 1602 (some ⟨gz0_2,99,(r.2.l.map aa),true⟩)⟩) := by
 unfold ck at H
 refine PH.aD Tryz.func56 Tryz.ntmps56 ?_
 refine au 1 tk rfl (au 2 tk rfl (af ?_))
 obtain ⟨fl1,H1,Hp1⟩ := ar H
 refine dv (τ := Int × LExtsortHeads) (γ := OwnRef) (fun s1 g1=>⟨48,upd (upd (upd (fun _=>.any) 7 (ag s1.1)) 1 (ag i0)) 0 (.ifc 94 (.box 1500 b_hA 0)),upd (fun _=>none) 1500 (some ⟨b_hA,[(.list 3 (s1.2.byF.columns.map ba)),(.list 4 (s1.2.byF.descending.map aE)),(.own 1602 g1 (s1.2.l.map aa).length)]⟩),upd (fun _=>none) 1602 (some ⟨g1,99,(s1.2.l.map aa),true⟩)⟩) (fun t=>fl1 = .next t) ?_ (fun s1 g1 hn1=>?_)
 ·refine aF ?_
  refine cu (fun s1 g1=>⟨48,upd (upd (upd (upd (fun _=>.any) 7 (ag s1.1)) 2 (ag n)) 1 (ag i0)) 0 (.ifc 94 (.box 1500 b_hA 0)),upd (fun _=>none) 1500 (some ⟨b_hA,[(.list 3 (s1.2.byF.columns.map ba)),(.list 4 (s1.2.byF.descending.map aE)),(.own 1602 g1 (s1.2.l.map aa).length)]⟩),upd (fun _=>none) 1602 (some ⟨g1,99,(s1.2.l.map aa),true⟩)⟩) g_hA_2 H1 Gh.d (fun m1 s1 g1 hr1=>?_)
  obtain ⟨fb1,H,hg1⟩ := bN hr1
  refine aF (au 4 tk rfl (af (af ?_)))
  refine fT (γ := Unit) (fun t8 g8=>⟨48,upd (upd (upd (upd (upd (upd (fun _=>.any) 21 (bw t8)) 8 (ag (IntKind.i64.wrap ((IntKind.i64.wrap ((2 : Int) * s1.1)) + (1 : Int))))) 7 (ag s1.1)) 2 (ag n)) 1 (ag i0)) 0 (.ifc 94 (.box 1500 b_hA 0)),upd (fun _=>none) 1500 (some ⟨b_hA,[(.list 3 (s1.2.byF.columns.map ba)),(.list 4 (s1.2.byF.descending.map aE)),(.own 1602 g1 (s1.2.l.map aa).length)]⟩),upd (fun _=>none) 1602 (some ⟨g1,99,(s1.2.l.map aa),true⟩)⟩) H (fun _ H=>?_) (fun t8 g8 H=>?_)
  ·refine ah (am 4 tk rfl ?_)
   refine ee rfl rfl rfl H (fun H=>?_) (fun H=>?_)
   ·refine am 3 tk rfl (al ?_)
    refine bD _ () H Gh.d
   refine am 3 tk rfl (al ?_)
   refine bD _ () H Gh.d
  refine bm rfl H (fun H=>?_) (fun H=>?_)
  ·refine cB rfl ?_
   obtain rfl := ax H
   refine bD (s1.1,s1.2) g1 hg1 Gh.d
  refine aH (au 2 tk rfl (af (au 3 tk rfl (af ?_))))
  refine jm (γ := OwnRef) (fun t9 g9=>⟨48,upd (upd (upd (upd (upd (upd (upd (fun _=>.any) 33 (bw t9.1)) 10 (ag (IntKind.i64.wrap ((IntKind.i64.wrap ((IntKind.i64.wrap ((2 : Int) * s1.1)) + (1 : Int))) + (1 : Int))))) 9 (ag (IntKind.i64.wrap ((IntKind.i64.wrap ((2 : Int) * s1.1)) + (1 : Int))))) 7 (ag s1.1)) 2 (ag n)) 1 (ag i0)) 0 (.ifc 94 (.box 1500 b_hA 0)),upd (fun _=>none) 1500 (some ⟨b_hA,[(.list 3 (t9.2.byF.columns.map ba)),(.list 4 (t9.2.byF.descending.map aE)),(.own 1602 g9 (t9.2.l.map aa).length)]⟩),upd (fun _=>none) 1602 (some ⟨g9,99,(t9.2.l.map aa),true⟩)⟩) H (fun _ H=>?_) (fun t9 g9 H=>?_)
  ·refine ah (am 4 tk rfl ?_)
   refine ee rfl rfl rfl H (fun H=>?_) (fun H=>?_)
   ·refine am 3 tk rfl ?_
    obtain ⟨x32,h32,H⟩ := ar H
    have s32 := ed b_hA g1 s1.2 (IntKind.i64.wrap ((IntKind.i64.wrap ((IntKind.i64.wrap ((2 : Int) * s1.1)) + (1 : Int))) + (1 : Int))) (IntKind.i64.wrap ((IntKind.i64.wrap ((2 : Int) * s1.1)) + (1 : Int))) _ h32
    refine dT (g := 219) rfl rfl rfl meth219 [(1500,1500)] [(1602,1602)] rfl rfl rfl rfl (de.of2 (eZ.cons PLe2.boxT (eZ.cons (PLe2.of_eq rfl) (eZ.cons (PLe2.of_eq rfl) eZ.nil)))) (by rw [bv,aW,aM,aV]; rfl) s32 ?_
    rintro u32 H32h ⟨gz32_1602,rfl,rfl⟩
    refine ⟨_,rfl,?_⟩
    refine bQ (st' := ⟨_,_,upd (fun _=>none) 1500 (some ⟨b_hA,[(.list 3 (x32.2.byF.columns.map ba)),(.list 4 (x32.2.byF.descending.map aE)),(.own 1602 gz32_1602 (x32.2.l.map aa).length)]⟩),upd (fun _=>none) 1602 (some ⟨gz32_1602,99,(x32.2.l.map aa),true⟩)⟩) (Gh.le (aU _ _) (aP rfl (de.r) ap) (aC aq)) ?_
    refine ay tk rfl (al ?_)
    refine bD _ gz32_1602 (ax H) Gh.d
   refine am 5 tk rfl (al ?_)
   refine bD _ g1 (ax H) Gh.d
  refine fT (γ := Unit) (fun t10 g10=>⟨48,upd (upd (upd (upd (upd (fun _=>.any) 9 (ag t10)) 7 (ag s1.1)) 2 (ag n)) 1 (ag i0)) 0 (.ifc 94 (.box 1500 b_hA 0)),upd (fun _=>none) 1500 (some ⟨b_hA,[(.list 3 (t9.2.byF.columns.map ba)),(.list 4 (t9.2.byF.descending.map aE)),(.own 1602 g9 (t9.2.l.map aa).length)]⟩),upd (fun _=>none) 1602 (some ⟨g9,99,(t9.2.l.map aa),true⟩)⟩) H (fun _ H=>?_) (fun t10 g10 H=>?_)
  ·refine bm rfl H (fun H=>?_) (fun H=>?_)
   ·refine bW 2 tk rfl ?_
    refine bD _ () H Gh.d
   refine aH ?_
   refine bD _ () H Gh.d
  refine af (af (ah (am 3 tk rfl ?_)))
  obtain ⟨x38,h38,H⟩ := ar H
  have s38 := ed b_hA g9 t9.2 t10 s1.1 _ h38
  refine dT (g := 219) rfl rfl rfl meth219 [(1500,1500)] [(1602,1602)] rfl rfl rfl rfl (de.of2 (eZ.cons PLe2.boxT (eZ.cons (PLe2.of_eq rfl) (eZ.cons (PLe2.of_eq rfl) eZ.nil)))) (by rw [bv,aW,aM,aV]; rfl) s38 ?_
  rintro u38 H38h ⟨gz38_1602,rfl,rfl⟩
  refine ⟨_,rfl,?_⟩
  refine bQ (st' := ⟨_,_,upd (fun _=>none) 1500 (some ⟨b_hA,[(.list 3 (x38.2.byF.columns.map ba)),(.list 4 (x38.2.byF.descending.map aE)),(.own 1602 gz38_1602 (x38.2.l.map aa).length)]⟩),upd (fun _=>none) 1602 (some ⟨gz38_1602,99,(x38.2.l.map aa),true⟩)⟩) (Gh.le (aU _ _) (aP rfl (de.r) ap) (aC aq)) ?_
  refine ay tk rfl (al ?_)
  refine bm rfl H (fun H=>?_) (fun H=>?_)
  ·refine cB rfl ?_
   obtain rfl := ax H
   refine bD (s1.1,x38.2) gz38_1602 hg1 Gh.d
  refine aH (af (ah (am 3 tk rfl ?_)))
  obtain ⟨x43,h43,H⟩ := ar H
  have s43 := dX b_hA gz38_1602 x38.2 s1.1 t10 _ h43
  refine dT (g := 222) rfl rfl rfl meth222 [(1500,1500)] [(1602,1602)] rfl rfl rfl rfl (de.of2 (eZ.cons PLe2.boxT (eZ.cons (PLe2.of_eq rfl) (eZ.cons (PLe2.of_eq rfl) eZ.nil)))) (by rw [bv,aW,aM,aV]; rfl) s43 ?_
  rintro u43 H43h ⟨gz43_1602,rfl,rfl⟩
  refine ⟨_,rfl,?_⟩
  refine bQ (st' := ⟨_,_,upd (fun _=>none) 1500 (some ⟨b_hA,[(.list 3 (x43.byF.columns.map ba)),(.list 4 (x43.byF.descending.map aE)),(.own 1602 gz43_1602 (x43.l.map aa).length)]⟩),upd (fun _=>none) 1602 (some ⟨gz43_1602,99,(x43.l.map aa),true⟩)⟩) (Gh.le (aU _ _) (aP rfl (de.r) ap) (aC aq)) ?_
  refine al (bW 2 tk rfl (bA ?_))
  obtain rfl := ax H
  refine bs (t10,x43) gz43_1602 hg1 Gh.d
 have H := bB hn1 Hp1
 refine au 4 tk rfl ?_
 obtain rfl := ax H
 refine cq (st' := ⟨48,upd (fun _=>.any) 6 (bw (decide (s1.1 > i0))),upd (fun _=>none) 1500 (some ⟨b_hA,[(.list 3 (s1.2.byF.columns.map ba)),(.list 4 (s1.2.byF.descending.map aE)),(.own 1602 g1 (s1.2.l.map aa).length)]⟩),upd (fun _=>none) 1602 (some ⟨g1,99,(s1.2.l.map aa),true⟩)⟩) (Gh.le (aA aQ) (aP rfl (de.r) ap) (aC aq)) ?_
 refine fp tk rfl (ps := [(bw (decide (s1.1 > i0)))]) ⟨_,_,rfl,rfl,rfl⟩ (PLe.q rfl) ⟨_,rfl,rfl⟩
def cS (hA : LExtsortHeads) (jA : Int) : Option (LExtsortHeads) :=
 ac (co (σ := Int × LExtsortHeads) (ρ := Empty) (fun (s1 : Int × LExtsortHeads) =>
  cond ((IntKind.i64.wrap (Int.tdiv (IntKind.i64.wrap (s1.1 - (1 : Int))) (2 : Int))) == s1.1)
   (some (.brk (s1.1,s1.2)))
   (ac (bi s1.2 s1.1 (IntKind.i64.wrap (Int.tdiv (IntKind.i64.wrap (s1.1 - (1 : Int))) (2 : Int)))) fun x15 =>
   cond (!x15.1)
    (some (.brk (s1.1,x15.2)))
    (ac (bq x15.2 (IntKind.i64.wrap (Int.tdiv (IntKind.i64.wrap (s1.1 - (1 : Int))) (2 : Int))) s1.1) fun x21 =>
    some (.next ((IntKind.i64.wrap (Int.tdiv (IntKind.i64.wrap (s1.1 - (1 : Int))) (2 : Int))),x21))))) (jA,hA)) fun fl1=>fl1.thenP fun (s1 : Int × LExtsortHeads) =>
 some s1.2
theorem jc (b_hA : Nat) (g_hA_2 : OwnRef) (hA : LExtsortHeads) (jA : Int) (r : LExtsortHeads) (H : cS hA jA = some r) :
  PH Tryz.prog 57 [(.ifc 94 (.box 1500 b_hA 0)),(ag jA)] ⟨upd (fun _=>none) 1500 (some ⟨b_hA,[(.list 3 (hA.byF.columns.map ba)),(.list 4 (hA.byF.descending.map aE)),(.own 1602 g_hA_2 (hA.l.map aa).length)]⟩),upd (fun _=>none) 1602 (some ⟨g_hA_2,99,(hA.l.map aa),true⟩)⟩ (fun u H=>∃ gz0_2,u = (.tup []) ∧ H = ⟨upd (fun _=>none) 1500 (some ⟨b_hA,[(.list 3 (r.byF.columns.map ba)),(.list 4 (r.byF.descending.map aE)),(.own 1602 gz0_2 (r.l.map aa).length)]⟩),upd (fun _=>none) 1602 (some ⟨gz0_2,99,(r.l.map aa),true⟩)⟩) := by
 unfold cS at H
 refine PH.aD Tryz.func57 Tryz.ntmps57 ?_
 obtain ⟨fl1,H1,Hp1⟩ := ar H
 refine dv (τ := Int × LExtsortHeads) (γ := OwnRef) (fun s1 g1=>⟨23,upd (fun _=>.any) 0 (.ifc 94 (.box 1500 b_hA 0)),upd (fun _=>none) 1500 (some ⟨b_hA,[(.list 3 (s1.2.byF.columns.map ba)),(.list 4 (s1.2.byF.descending.map aE)),(.own 1602 g1 (s1.2.l.map aa).length)]⟩),upd (fun _=>none) 1602 (some ⟨g1,99,(s1.2.l.map aa),true⟩)⟩) (fun t=>fl1 = .next t) ?_ (fun s1 g1 hn1=>?_)
 ·refine aF ?_
  refine cu (fun s1 g1=>⟨23,upd (upd (fun _=>.any) 1 (ag s1.1)) 0 (.ifc 94 (.box 1500 b_hA 0)),upd (fun _=>none) 1500 (some ⟨b_hA,[(.list 3 (s1.2.byF.columns.map ba)),(.list 4 (s1.2.byF.descending.map aE)),(.own 1602 g1 (s1.2.l.map aa).length)]⟩),upd (fun _=>none) 1602 (some ⟨g1,99,(s1.2.l.map aa),true⟩)⟩) g_hA_2 H1 Gh.d (fun m1 s1 g1 hr1=>?_)
  obtain ⟨fb1,H,hg1⟩ := bN hr1
  refine aF (au 4 tk rfl (af (af (ah (am 4 tk rfl ?_)))))
  refine ee rfl rfl rfl H (fun H=>?_) (fun H=>?_)
  ·refine am 6 tk rfl (al (kK rfl (cB rfl ?_)))
   obtain rfl := ax H
   refine bD (s1.1,s1.2) g1 hg1 Gh.d
  refine am 3 tk rfl ?_
  obtain ⟨x15,h15,H⟩ := ar H
  have s15 := ed b_hA g1 s1.2 s1.1 (IntKind.i64.wrap (Int.tdiv (IntKind.i64.wrap (s1.1 - (1 : Int))) (2 : Int))) _ h15
  refine dT (g := 219) rfl rfl rfl meth219 [(1500,1500)] [(1602,1602)] rfl rfl rfl rfl (de.of2 (eZ.cons PLe2.boxT (eZ.cons (PLe2.of_eq rfl) (eZ.cons (PLe2.of_eq rfl) eZ.nil)))) (by rw [bv,aW,aM,aV]; rfl) s15 ?_
  rintro u15 H15h ⟨gz15_1602,rfl,rfl⟩
  refine ⟨_,rfl,?_⟩
  refine bQ (st' := ⟨_,_,upd (fun _=>none) 1500 (some ⟨b_hA,[(.list 3 (x15.2.byF.columns.map ba)),(.list 4 (x15.2.byF.descending.map aE)),(.own 1602 gz15_1602 (x15.2.l.map aa).length)]⟩),upd (fun _=>none) 1602 (some ⟨gz15_1602,99,(x15.2.l.map aa),true⟩)⟩) (Gh.le (aU _ _) (aP rfl (de.r) ap) (aC aq)) ?_
  refine am 2 tk rfl (al ?_)
  refine bm rfl H (fun H=>?_) (fun H=>?_)
  ·refine cB rfl ?_
   obtain rfl := ax H
   refine bD (s1.1,x15.2) gz15_1602 hg1 Gh.d
  refine aH (af (ah (am 3 tk rfl ?_)))
  obtain ⟨x21,h21,H⟩ := ar H
  have s21 := dX b_hA gz15_1602 x15.2 (IntKind.i64.wrap (Int.tdiv (IntKind.i64.wrap (s1.1 - (1 : Int))) (2 : Int))) s1.1 _ h21
  refine dT (g := 222) rfl rfl rfl meth222 [(1500,1500)] [(1602,1602)] rfl rfl rfl rfl (de.of2 (eZ.cons PLe2.boxT (eZ.cons (PLe2.of_eq rfl) (eZ.cons (PLe2.of_eq rfl) eZ.nil)))) (by rw [bv,aW,aM,aV]; rfl) s21 ?_
  rintro u21 H21h ⟨gz21_1602,rfl,rfl⟩
  refine ⟨_,rfl,?_⟩
  refine bQ (st' := ⟨_,_,upd (fun _=>none) 1500 (some ⟨b_hA,[(.list 3 (x21.byF.columns.map ba)),(.list 4 (x21.byF.descending.map aE)),(.own 1602 gz21_1602 (x21.l.map aa).length)]⟩),upd (fun _=>none) 1602 (some ⟨gz21_1602,99,(x21.l.map aa),true⟩)⟩) (Gh.le (aU _ _) (aP rfl (de.r) ap) (aC aq)) ?_
  refine al (bW 2 tk rfl (bA ?_))
  obtain rfl := ax H
  refine bs ((IntKind.i64.wrap (Int.tdiv (IntKind.i64.wrap (s1.1 - (1 : Int))) (2 : Int))),x21) gz21_1602 hg1 Gh.d
 have H := bB hn1 Hp1
 obtain rfl := ax H
 refine cq (st' := ⟨23,fun _=>.any,upd (fun _=>none) 1500 (some ⟨b_hA,[(.list 3 (s1.2.byF.columns.map ba)),(.list 4 (s1.2.byF.descending.map aE)),(.own 1602 g1 (s1.2.l.map aa).length)]⟩),upd (fun _=>none) 1602 (some ⟨g1,99,(s1.2.l.map aa),true⟩)⟩) (Gh.le aQ (aP rfl (de.r) ap) (aC aq)) ?_
 refine dU rfl (PLe.q rfl) ⟨_,rfl,rfl⟩
def cE (hA : LExtsortHeads) : Option (LExtsortHeads) :=
 cp (az hA) fun x5 =>
 ac (co (σ := Int × LExtsortHeads) (ρ := Empty) (fun (s1 : Int × LExtsortHeads) =>
  cond (decide (s1.1 ≥ (0 : Int)))
   (ac (ck s1.2 s1.1 x5.1) fun x16 =>
   some (.next ((IntKind.i64.wrap (s1.1 - (1 : Int))),x16.2)))
   (some (.brk (s1.1,s1.2)))) ((IntKind.i64.wrap ((IntKind.i64.wrap (Int.tdiv x5.1 (2 : Int))) - (1 : Int))),x5.2)) fun fl1=>fl1.thenP fun (s1 : Int × LExtsortHeads) =>
 some s1.2
theorem ik (b_hA : Nat) (g_hA_2 : OwnRef) (hA : LExtsortHeads) (r : LExtsortHeads) (H : cE hA = some r) :
  PH Tryz.prog 35 [(.ifc 94 (.box 1500 b_hA 0))] ⟨upd (fun _=>none) 1500 (some ⟨b_hA,[(.list 3 (hA.byF.columns.map ba)),(.list 4 (hA.byF.descending.map aE)),(.own 1602 g_hA_2 (hA.l.map aa).length)]⟩),upd (fun _=>none) 1602 (some ⟨g_hA_2,99,(hA.l.map aa),true⟩)⟩ (fun u H=>∃ gz0_2,u = (.tup []) ∧ H = ⟨upd (fun _=>none) 1500 (some ⟨b_hA,[(.list 3 (r.byF.columns.map ba)),(.list 4 (r.byF.descending.map aE)),(.own 1602 gz0_2 (r.l.map aa).length)]⟩),upd (fun _=>none) 1602 (some ⟨gz0_2,99,(r.l.map aa),true⟩)⟩) := by
 unfold cE at H
 refine PH.aD Tryz.func35 Tryz.ntmps35 ?_
 refine af (ah (ay tk rfl ?_))
 obtain ⟨x5,h5,H⟩ := et H
 have s5 := dH b_hA g_hA_2 hA
 rw [h5] at s5
 refine dT (g := 36) rfl rfl rfl meth36 [(1500,1500)] [(1602,1602)] rfl rfl rfl rfl (de.of2 (eZ.cons PLe2.boxT eZ.nil)) (by rw [bv,aW,aM,aV]; rfl) s5 ?_
 rintro u5 H5h ⟨gz5_1602,rfl,rfl⟩
 refine ⟨_,rfl,?_⟩
 refine bQ (st' := ⟨_,_,upd (fun _=>none) 1500 (some ⟨b_hA,[(.list 3 (x5.2.byF.columns.map ba)),(.list 4 (x5.2.byF.descending.map aE)),(.own 1602 gz5_1602 (x5.2.l.map aa).length)]⟩),upd (fun _=>none) 1602 (some ⟨gz5_1602,99,(x5.2.l.map aa),true⟩)⟩) (Gh.le (aU _ _) (aP rfl (de.r) ap) (aC aq)) ?_
 refine ay tk rfl (al (au 4 tk rfl ?_))
 obtain ⟨fl1,H1,Hp1⟩ := ar H
 refine dv (τ := Int × LExtsortHeads) (γ := OwnRef) (fun s1 g1=>⟨17,upd (fun _=>.any) 0 (.ifc 94 (.box 1500 b_hA 0)),upd (fun _=>none) 1500 (some ⟨b_hA,[(.list 3 (s1.2.byF.columns.map ba)),(.list 4 (s1.2.byF.descending.map aE)),(.own 1602 g1 (s1.2.l.map aa).length)]⟩),upd (fun _=>none) 1602 (some ⟨g1,99,(s1.2.l.map aa),true⟩)⟩) (fun t=>fl1 = .next t) ?_ (fun s1 g1 hn1=>?_)
 ·refine aF ?_
  refine cu (fun s1 g1=>⟨17,upd (upd (upd (fun _=>.any) 3 (ag s1.1)) 2 (ag x5.1)) 0 (.ifc 94 (.box 1500 b_hA 0)),upd (fun _=>none) 1500 (some ⟨b_hA,[(.list 3 (s1.2.byF.columns.map ba)),(.list 4 (s1.2.byF.descending.map aE)),(.own 1602 g1 (s1.2.l.map aa).length)]⟩),upd (fun _=>none) 1602 (some ⟨g1,99,(s1.2.l.map aa),true⟩)⟩) gz5_1602 H1 Gh.d (fun m1 s1 g1 hr1=>?_)
  obtain ⟨fb1,H,hg1⟩ := bN hr1
  refine af (au 2 tk rfl ?_)
  refine bm rfl H (fun H=>?_) (fun H=>?_)
  ·refine aH (af (aF (ah (am 3 tk rfl ?_))))
   obtain ⟨x16,h16,H⟩ := ar H
   have s16 := fe b_hA g1 s1.2 s1.1 x5.1 _ h16
   refine ce (g := 56) rfl rfl rfl Tryz.call56 [(1500,1500)] [(1602,1602)] rfl rfl rfl rfl (de.of2 (eZ.cons (PLe2.ifc PLe2.boxT) (eZ.cons (PLe2.of_eq rfl) (eZ.cons (PLe2.of_eq rfl) eZ.nil)))) (by rw [bv,aW,aM,aV]; rfl) s16 ?_
   rintro u16 H16h ⟨gz16_1602,rfl,rfl⟩
   refine ⟨_,rfl,?_⟩
   refine bQ (st' := ⟨_,_,upd (fun _=>none) 1500 (some ⟨b_hA,[(.list 3 (x16.2.byF.columns.map ba)),(.list 4 (x16.2.byF.descending.map aE)),(.own 1602 gz16_1602 (x16.2.l.map aa).length)]⟩),upd (fun _=>none) 1602 (some ⟨gz16_1602,99,(x16.2.l.map aa),true⟩)⟩) (Gh.le (aU _ _) (aP rfl (de.r) ap) (aC aq)) ?_
   refine al (bA (bW 3 tk rfl ?_))
   obtain rfl := ax H
   refine bs ((IntKind.i64.wrap (s1.1 - (1 : Int))),x16.2) gz16_1602 hg1 Gh.d
  refine cB rfl ?_
  obtain rfl := ax H
  refine bD (s1.1,s1.2) g1 hg1 Gh.d
 have H := bB hn1 Hp1
 obtain rfl := ax H
 refine cq (st' := ⟨17,fun _=>.any,upd (fun _=>none) 1500 (some ⟨b_hA,[(.list 3 (s1.2.byF.columns.map ba)),(.list 4 (s1.2.byF.descending.map aE)),(.own 1602 g1 (s1.2.l.map aa).length)]⟩),upd (fun _=>none) 1602 (some ⟨g1,99,(s1.2.l.map aa),true⟩)⟩) (Gh.le aQ (aP rfl (de.r) ap) (aC aq)) ?_
 refine dU rfl (PLe.q rfl) ⟨_,rfl,rfl⟩
def bX (hA : LExtsortHeads) : Option (LExtsortHead × LExtsortHeads) :=
 cp (az hA) fun x5 =>
 ac (bq x5.2 0 (IntKind.i64.wrap (x5.1 - (1 : Int)))) fun x9 =>
 ac (ck x9 0 (IntKind.i64.wrap (x5.1 - (1 : Int)))) fun x12 =>
 ac (dI x12.2) fun x14 =>
 some (x14.1,x14.2)
theorem iI (b_hA : Nat) (g_hA_2 : OwnRef) (hA : LExtsortHeads) (r : LExtsortHead × LExtsortHeads) (H : bX hA = some r) :
  PH Tryz.prog 37 [(.ifc 94 (.box 1500 b_hA 0))] ⟨upd (fun _=>none) 1500 (some ⟨b_hA,[(.list 3 (hA.byF.columns.map ba)),(.list 4 (hA.byF.descending.map aE)),(.own 1602 g_hA_2 (hA.l.map aa).length)]⟩),upd (fun _=>none) 1602 (some ⟨g_hA_2,99,(hA.l.map aa),true⟩)⟩ (fun u H=>∃ gz0_2,u = (.ifc 99 (.agg (aa r.1))) ∧ H = ⟨upd (fun _=>none) 1500 (some ⟨b_hA,[(.list 3 (r.2.byF.columns.map ba)),(.list 4 (r.2.byF.descending.map aE)),(.own 1602 gz0_2 (r.2.l.map aa).length)]⟩),upd (fun _=>none) 1602 (some ⟨gz0_2,99,(r.2.l.map aa),true⟩)⟩) := by
 unfold bX at H
 refine PH.aD Tryz.func37 Tryz.ntmps37 ?_
 refine au 1 tk rfl (af (ah (ay tk rfl ?_)))
 obtain ⟨x5,h5,H⟩ := et H
 have s5 := dH b_hA g_hA_2 hA
 rw [h5] at s5
 refine dT (g := 36) rfl rfl rfl meth36 [(1500,1500)] [(1602,1602)] rfl rfl rfl rfl (de.of2 (eZ.cons PLe2.boxT eZ.nil)) (by rw [bv,aW,aM,aV]; rfl) s5 ?_
 rintro u5 H5h ⟨gz5_1602,rfl,rfl⟩
 refine ⟨_,rfl,?_⟩
 refine bQ (st' := ⟨_,_,upd (fun _=>none) 1500 (some ⟨b_hA,[(.list 3 (x5.2.byF.columns.map ba)),(.list 4 (x5.2.byF.descending.map aE)),(.own 1602 gz5_1602 (x5.2.l.map aa).length)]⟩),upd (fun _=>none) 1602 (some ⟨gz5_1602,99,(x5.2.l.map aa),true⟩)⟩) (Gh.le (aU _ _) (aP rfl (de.r) ap) (aC aq)) ?_
 refine am 2 tk rfl (al (af (ah (am 2 tk rfl ?_))))
 obtain ⟨x9,h9,H⟩ := ar H
 have s9 := dX b_hA gz5_1602 x5.2 0 (IntKind.i64.wrap (x5.1 - (1 : Int))) _ h9
 refine dT (g := 222) rfl rfl rfl meth222 [(1500,1500)] [(1602,1602)] rfl rfl rfl rfl (de.of2 (eZ.cons PLe2.boxT (eZ.cons (PLe2.of_eq rfl) (eZ.cons (PLe2.of_eq rfl) eZ.nil)))) (by rw [bv,aW,aM,aV]; rfl) s9 ?_
 rintro u9 H9h ⟨gz9_1602,rfl,rfl⟩
 refine ⟨_,rfl,?_⟩
 refine bQ (st' := ⟨_,_,upd (fun _=>none) 1500 (some ⟨b_hA,[(.list 3 (x9.byF.columns.map ba)),(.list 4 (x9.byF.descending.map aE)),(.own 1602 gz9_1602 (x9.l.map aa).length)]⟩),upd (fun _=>none) 1602 (some ⟨gz9_1602,99,(x9.l.map aa),true⟩)⟩) (Gh.le (aU _ _) (aP rfl (de.r) ap) (aC aq)) ?_
 refine al (af (ah (am 2 tk rfl ?_)))
 obtain ⟨x12,h12,H⟩ := ar H
 have s12 := fe b_hA gz9_1602 x9 0 (IntKind.i64.wrap (x5.1 - (1 : Int))) _ h12
 refine ce (g := 56) rfl rfl rfl Tryz.call56 [(1500,1500)] [(1602,1602)] rfl rfl rfl rfl (de.of2 (eZ.cons (PLe2.ifc PLe2.boxT) (eZ.cons (PLe2.of_eq rfl) (eZ.cons (PLe2.of_eq rfl) eZ.nil)))) (by rw [bv,aW,aM,aV]; rfl) s12 ?_
 rintro u12 H12h ⟨gz12_1602,rfl,rfl⟩
 refine ⟨_,rfl,?_⟩
 refine bQ (st' := ⟨_,_,upd (fun _=>none) 1500 (some ⟨b_hA,[(.list 3 (x12.2.byF.columns.map ba)),(.list 4 (x12.2.byF.descending.map aE)),(.own 1602 gz12_1602 (x12.2.l.map aa).length)]⟩),upd (fun _=>none) 1602 (some ⟨gz12_1602,99,(x12.2.l.map aa),true⟩)⟩) (Gh.le (aU _ _) (aP rfl (de.r) ap) (aC aq)) ?_
 refine al (af (ah (ay tk rfl ?_)))
 obtain ⟨x14,h14,H⟩ := ar H
 have s14 := jd b_hA gz12_1602 x12.2 _ h14
 refine dT (g := 220) rfl rfl rfl meth220 [(1500,1500)] [(1602,1602)] rfl rfl rfl rfl (de.of2 (eZ.cons PLe2.boxT eZ.nil)) (by rw [bv,aW,aM,aV]; rfl) s14 ?_
 rintro u14 H14h ⟨gz14_1602,rfl,rfl⟩
 refine ⟨_,rfl,?_⟩
 refine bQ (st' := ⟨_,_,upd (fun _=>none) 1500 (some ⟨b_hA,[(.list 3 (x14.2.byF.columns.map ba)),(.list 4 (x14.2.byF.descending.map aE)),(.own 1602 gz14_1602 (x14.2.l.map aa).length)]⟩),upd (fun _=>none) 1602 (some ⟨gz14_1602,99,(x14.2.l.map aa),true⟩)⟩) (Gh.le (aU _ _) (aP rfl (de.r) ap) (aC aq)) ?_
 refine ay tk rfl (al ?_)
 obtain rfl := ax H
 refine cq (st' := ⟨15,upd (fun _=>.any) 2 (.ifc 99 (.agg (aa x14.1))),upd (fun _=>none) 1500 (some ⟨b_hA,[(.list 3 (x14.2.byF.columns.map ba)),(.list 4 (x14.2.byF.descending.map aE)),(.own 1602 gz14_1602 (x14.2.l.map aa).length)]⟩),upd (fun _=>none) 1602 (some ⟨gz14_1602,99,(x14.2.l.map aa),true⟩)⟩) (Gh.le (aA aQ) (aP rfl (de.r) ap) (aC aq)) ?_
 refine fp tk rfl (ps := [(.ifc 99 (.agg (aa x14.1)))]) ⟨_,_,rfl,rfl,rfl⟩ (PLe.q rfl) ⟨_,rfl,rfl⟩
def cj (hA : LExtsortHeads) (x : LExtsortHead) : Option (LExtsortHeads) :=
 ac (du hA x) fun x6 =>
 cp (az x6) fun x9 =>
 ac (cS x9.2 (IntKind.i64.wrap (x9.1 - (1 : Int)))) fun x11 =>
 some x11
theorem it (b_hA : Nat) (g_hA_2 : OwnRef) (hA : LExtsortHeads) (x : LExtsortHead) (r : LExtsortHeads) (H : cj hA x = some r) :
  PH Tryz.prog 38 [(.ifc 94 (.box 1500 b_hA 0)),(.ifc 99 (.agg (aa x)))] ⟨upd (fun _=>none) 1500 (some ⟨b_hA,[(.list 3 (hA.byF.columns.map ba)),(.list 4 (hA.byF.descending.map aE)),(.own 1602 g_hA_2 (hA.l.map aa).length)]⟩),upd (fun _=>none) 1602 (some ⟨g_hA_2,99,(hA.l.map aa),true⟩)⟩ (fun u H=>∃ gz0_2,u = (.tup []) ∧ H = ⟨upd (fun _=>none) 1500 (some ⟨b_hA,[(.list 3 (r.byF.columns.map ba)),(.list 4 (r.byF.descending.map aE)),(.own 1602 gz0_2 (r.l.map aa).length)]⟩),upd (fun _=>none) 1602 (some ⟨gz0_2,99,(r.l.map aa),true⟩)⟩) := by
 unfold cj at H
 refine PH.aD Tryz.func38 Tryz.ntmps38 ?_
 refine af (ah (am 2 tk rfl ?_))
 obtain ⟨x6,h6,H⟩ := ar H
 have s6 := iJ b_hA g_hA_2 hA x _ h6
 refine dT (g := 221) rfl rfl rfl meth221 [(1500,1500)] [(1602,1602)] rfl rfl rfl rfl (de.of2 (eZ.cons PLe2.boxT (eZ.cons (PLe2.of_eq rfl) eZ.nil))) (by rw [bv,aW,aM,aV]; rfl) s6 ?_
 rintro u6 H6h ⟨gz6_1602,rfl,rfl⟩
 refine ⟨_,rfl,?_⟩
 refine bQ (st' := ⟨_,_,upd (fun _=>none) 1500 (some ⟨b_hA,[(.list 3 (x6.byF.columns.map ba)),(.list 4 (x6.byF.descending.map aE)),(.own 1602 gz6_1602 (x6.l.map aa).length)]⟩),upd (fun _=>none) 1602 (some ⟨gz6_1602,99,(x6.l.map aa),true⟩)⟩) (Gh.le (aU _ _) (aP rfl (de.r) ap) (aC aq)) ?_
 refine al (ah (am 2 tk rfl ?_))
 obtain ⟨x9,h9,H⟩ := et H
 have s9 := dH b_hA gz6_1602 x6
 rw [h9] at s9
 refine dT (g := 36) rfl rfl rfl meth36 [(1500,1500)] [(1602,1602)] rfl rfl rfl rfl (de.of2 (eZ.cons PLe2.boxT eZ.nil)) (by rw [bv,aW,aM,aV]; rfl) s9 ?_
 rintro u9 H9h ⟨gz9_1602,rfl,rfl⟩
 refine ⟨_,rfl,?_⟩
 refine bQ (st' := ⟨_,_,upd (fun _=>none) 1500 (some ⟨b_hA,[(.list 3 (x9.2.byF.columns.map ba)),(.list 4 (x9.2.byF.descending.map aE)),(.own 1602 gz9_1602 (x9.2.l.map aa).length)]⟩),upd (fun _=>none) 1602 (some ⟨gz9_1602,99,(x9.2.l.map aa),true⟩)⟩) (Gh.le (aU _ _) (aP rfl (de.r) ap) (aC aq)) ?_
 refine ay tk rfl ?_
 obtain ⟨x11,h11,H⟩ := ar H
 have s11 := jc b_hA gz9_1602 x9.2 (IntKind.i64.wrap (x9.1 - (1 : Int))) _ h11
 refine ce (g := 57) rfl rfl rfl Tryz.call57 [(1500,1500)] [(1602,1602)] rfl rfl rfl rfl (de.of2 (eZ.cons (PLe2.ifc PLe2.boxT) (eZ.cons (PLe2.of_eq rfl) eZ.nil))) (by rw [bv,aW,aM,aV]; rfl) s11 ?_
 rintro u11 H11h ⟨gz11_1602,rfl,rfl⟩
 refine ⟨_,rfl,?_⟩
 refine bQ (st' := ⟨_,_,upd (fun _=>none) 1500 (some ⟨b_hA,[(.list 3 (x11.byF.columns.map ba)),(.list 4 (x11.byF.descending.map aE)),(.own 1602 gz11_1602 (x11.l.map aa).length)]⟩),upd (fun _=>none) 1602 (some ⟨gz11_1602,99,(x11.l.map aa),true⟩)⟩) (Gh.le (aU _ _) (aP rfl (de.r) ap) (aC aq)) ?_
 refine al ?_
 obtain rfl := ax H
 refine cq (st' := ⟨12,fun _=>.any,upd (fun _=>none) 1500 (some ⟨b_hA,[(.list 3 (x11.byF.columns.map ba)),(.list 4 (x11.byF.descending.map aE)),(.own 1602 gz11_1602 (x11.l.map aa).length)]⟩),upd (fun _=>none) 1602 (some ⟨gz11_1602,99,(x11.l.map aa),true⟩)⟩) (Gh.le aQ (aP rfl (de.r) ap) (aC aq)) ?_
 refine dU rfl (PLe.q rfl) ⟨_,rfl,rfl⟩
def cw (l : List Rz) (byA : LExtsortOrdering) : Option (Rz) :=
 ac (aX (σ := List LExtsortHead) (ρ := Empty) (fun (j1 : Nat) (x1 : Rz) (s1 : List LExtsortHead) =>
  cond (decide ((x1.length : Int) > (0 : Int)))
   (ac (aL x1 0) fun (x29 : Rq) =>
   ac (subI x1 1 (x1.length : Int)) fun (x33 : Rz) =>
   ac (eF 56 s1 ([(LExtsortHead.mk x29 (j1 : Int) x33)] : List LExtsortHead)) fun (x36 : List LExtsortHead) =>
   some (.next x36))
   (some (.next s1))) 0 l []) fun fl1=>fl1.thenP fun (s1 : List LExtsortHead) =>
 ac (cE (LExtsortHeads.mk byA s1)) fun x42 =>
 ac (co (σ := Rz × List Int × List Bool × List LExtsortHead) (ρ := Empty) (fun (s2 : Rz × List Int × List Bool × List LExtsortHead) =>
  cp (az (LExtsortHeads.mk (LExtsortOrdering.mk s2.2.1 s2.2.2.1) s2.2.2.2)) fun x44 =>
  cond (decide (x44.1 > (0 : Int)))
   (ac (bX x44.2) fun x48 =>
   ac (eF 24 s2.1 ([x48.1.row] : Rz)) fun (x54 : Rz) =>
   cond (decide ((x48.1.rest.length : Int) > (0 : Int)))
    (ac (aL x48.1.rest 0) fun (x63 : Rq) =>
    ac (subI x48.1.rest 1 (x48.1.rest.length : Int)) fun (x69 : Rz) =>
    ac (cj x48.2 (LExtsortHead.mk x63 x48.1.runF x69)) fun x72 =>
    some (.next (x54,x72.byF.columns,x72.byF.descending,x72.l)))
    (some (.next (x54,x48.2.byF.columns,x48.2.byF.descending,x48.2.l))))
   (some (.brk (s2.1,x44.2.byF.columns,x44.2.byF.descending,x44.2.l)))) ([],x42.byF.columns,x42.byF.descending,x42.l)) fun fl2=>fl2.thenP fun (s2 : Rz × List Int × List Bool × List LExtsortHead) =>
 some s2.1
theorem kh (l : List Rz) (byA : LExtsortOrdering) (r : Rz) (H : cw l byA = some r) :
  bJ Tryz.prog 14 [(.list 22 (l.map (ae 51 (ae 48 ab)))),(.agg (aN byA))] (.list 51 (r.map (ae 48 ab))) := by
 unfold cw at H
 refine PH.aD Tryz.func14 Tryz.ntmps14 ?_
 refine af (ah (cD ?_))
 refine ay tk rfl (al (af (ah (am 2 tk rfl ?_))))
 refine Ao.box (d := 12) rfl rfl rfl rfl rfl fun b12=>?_
 refine bQ (Gh.nilOB tk 12 2 1602 (e := 99) rfl rfl rfl rfl) (ay tk rfl (al (af (af (ah (ay tk rfl (bh tk (zl _) ?_)))))))
 refine ay tk rfl (al ?_)
 refine ke (γ := OwnRef) tk 15 14 13 (fun s1 g1=>upd (fun _=>.any) 5 (.box 12 b12 0)) (fun s1 g1=>upd (fun _=>none) 12 (some ⟨b12,[(.list 3 (byA.columns.map ba)),(.list 4 (byA.descending.map aE)),(.own 1602 g1 (s1.map aa).length)]⟩)) (fun s1 g1=>upd (fun _=>none) 1602 (some ⟨g1,99,(s1.map aa),true⟩)) (⟨none,0⟩) H (fun fl1 Hp1 j1 s1 g1 hz1 hl1 x1 fb1 hx1 H hg1=>?_) (fun s1 g1 H=>?_)
 ·refine af (aF (af (ah (ay tk rfl ?_))))
  refine dQ tk (zn j1) (dV (fun _=>rfl) hx1) ?_
  refine am 3 tk rfl (al (af (ah (ay tk rfl (bh tk (zl _) ?_)))))
  refine ay tk rfl (al ?_)
  refine bm rfl H (fun H=>?_) (fun H=>?_)
  ·refine cA tk mok ⟨true,false,[30]⟩ [0,1,2,3,4,5,6,7,8,9,10,11,12,13,14,15,16] rfl (by decide +kernel) rfl (aG 4 rfl (bk ?_))
   refine db rfl ?_
   obtain ⟨x29,k29,H⟩ := bR H
   refine eY k29.1 (bg (fun _=>rfl) k29.2) ?_
   refine aG 3 rfl ?_
   obtain ⟨x33,h33,H⟩ := ar H
   have k33 := subI_some h33
   refine jF rfl rfl rfl rfl rfl rfl (zl _) rfl rfl k33.1 (rowsSubE k33.2) rfl (aG 2 rfl ?_)
   obtain ⟨x36,h36,H⟩ := ar H
   have k36 := er h36
   refine iS (rows2' := List.map aa ([(LExtsortHead.mk x29 (j1 : Int) x33)] : List LExtsortHead)) (rows' := List.map aa x36) tk rfl rfl rfl rfl rfl rfl rfl rfl rfl rfl rfl rfl rfl rfl (eW.refl _) (fH k36.1) (fM k36.2.1) (fK k36.2.2) fun g36=>?_
   refine aG 2 rfl (kl rfl rfl rfl rfl rfl rfl rfl rfl rfl rfl rfl rfl (bM (bA (bW 2 tk rfl ?_))))
   exact eQ g36 H hl1 hg1
  refine aH (bA (bW 2 tk rfl ?_))
  exact eQ g1 H hl1 hg1
 refine af (ah (ay tk rfl (kB tk rfl rfl rfl rfl rfl ?_)))
 obtain ⟨x42,h42,H⟩ := ar H
 have s42 := ik b12 g1 (LExtsortHeads.mk byA s1) _ h42
 refine ce (g := 35) rfl rfl rfl Tryz.call35 [(12,1500)] [(1602,1602)] rfl rfl rfl rfl (de.of2 (eZ.cons (PLe2.ifc PLe2.boxT) eZ.nil)) (by rw [bv,aW,aM,aV]; rfl) s42 ?_
 rintro u42 H42h ⟨gz42_1602,rfl,rfl⟩
 refine ⟨_,rfl,?_⟩
 refine bQ (st' := ⟨_,_,upd (fun _=>none) 12 (some ⟨b12,[(.list 3 (x42.byF.columns.map ba)),(.list 4 (x42.byF.descending.map aE)),(.own 1602 gz42_1602 (x42.l.map aa).length)]⟩),upd (fun _=>none) 1602 (some ⟨gz42_1602,99,(x42.l.map aa),true⟩)⟩) (Gh.le (aU _ _) (aP rfl (de.r) ap) (aC aq)) ?_
 refine al (au 1 tk rfl (af ?_))
 obtain ⟨fl2,H2,Hp2⟩ := ar H
 refine dv (τ := Rz × List Int × List Bool × List LExtsortHead) (γ := OwnRef × OwnRef) (fun s2 g2=>⟨74,upd (fun _=>.any) 8 (.own 54 g2.1 (s2.1.map (ae 48 ab)).length),fun _=>none,upd (fun _=>none) 54 (some ⟨g2.1,51,(s2.1.map (ae 48 ab)),true⟩)⟩) (fun t=>fl2 = .next t) ?_ (fun s2 g2 hn2=>?_)
 ·refine aF (js tk 8 54 (e := 51) rfl rfl ?_)
  refine cu (fun s2 g2=>⟨74,upd (upd (fun _=>.any) 8 (.own 54 g2.1 (s2.1.map (ae 48 ab)).length)) 5 (.box 12 b12 0),upd (fun _=>none) 12 (some ⟨b12,[(.list 3 (s2.2.1.map ba)),(.list 4 (s2.2.2.1.map aE)),(.own 1602 g2.2 (s2.2.2.2.map aa).length)]⟩),upd (upd (fun _=>none) 1602 (some ⟨g2.2,99,(s2.2.2.2.map aa),true⟩)) 54 (some ⟨g2.1,51,(s2.1.map (ae 48 ab)),true⟩)⟩) (⟨none,0⟩,gz42_1602) H2 Gh.d (fun m2 s2 g2 hr2=>?_)
  obtain ⟨fb2,H,hg2⟩ := bN hr2
  refine af (af (ah (ay tk rfl ?_)))
  obtain ⟨x44,h44,H⟩ := et H
  have s44 := dH b12 g2.2 (LExtsortHeads.mk (LExtsortOrdering.mk s2.2.1 s2.2.2.1) s2.2.2.2)
  rw [h44] at s44
  refine ce (g := 36) rfl rfl rfl Tryz.call36 [(12,1500)] [(1602,1602)] rfl rfl rfl rfl (de.of2 (eZ.cons PLe2.boxT eZ.nil)) (by rw [bv,aW,aM,aV]; rfl) s44 ?_
  rintro u44 H44h ⟨gz44_1602,rfl,rfl⟩
  refine ⟨_,rfl,?_⟩
  refine bQ (st' := ⟨_,_,upd (fun _=>none) 12 (some ⟨b12,[(.list 3 (x44.2.byF.columns.map ba)),(.list 4 (x44.2.byF.descending.map aE)),(.own 1602 gz44_1602 (x44.2.l.map aa).length)]⟩),upd (upd (fun _=>none) 54 (some ⟨g2.1,51,(s2.1.map (ae 48 ab)),true⟩)) 1602 (some ⟨gz44_1602,99,(x44.2.l.map aa),true⟩)⟩) (Gh.le (aU _ _) (aP rfl (de.r) ap) (aC (aC aq))) ?_
  refine ay tk rfl (al ?_)
  refine bm rfl H (fun H=>?_) (fun H=>?_)
  ·refine aH (aF (af (ah (ay tk rfl (kB tk rfl rfl rfl rfl rfl ?_)))))
   obtain ⟨x48,h48,H⟩ := ar H
   have s48 := iI b12 gz44_1602 x44.2 _ h48
   refine ce (g := 37) rfl rfl rfl Tryz.call37 [(12,1500)] [(1602,1602)] rfl rfl rfl rfl (de.of2 (eZ.cons (PLe2.ifc PLe2.boxT) eZ.nil)) (by rw [bv,aW,aM,aV]; rfl) s48 ?_
   rintro u48 H48h ⟨gz48_1602,rfl,rfl⟩
   refine ⟨_,rfl,?_⟩
   refine bQ (st' := ⟨_,_,upd (fun _=>none) 12 (some ⟨b12,[(.list 3 (x48.2.byF.columns.map ba)),(.list 4 (x48.2.byF.descending.map aE)),(.own 1602 gz48_1602 (x48.2.l.map aa).length)]⟩),upd (upd (fun _=>none) 54 (some ⟨g2.1,51,(s2.1.map (ae 48 ab)),true⟩)) 1602 (some ⟨gz48_1602,99,(x48.2.l.map aa),true⟩)⟩) (Gh.le (aU _ _) (aP rfl (de.r) ap) (aC (aC aq))) ?_
   refine Ao.asI tk rfl rfl rfl rfl rfl rfl ?_
   refine gG tk rfl rfl rfl rfl rfl rfl fun b9=>?_
   refine kx tk rfl rfl rfl rfl rfl rfl rfl rfl rfl rfl rfl (al (af (ah (am 2 tk rfl (iN tk rfl rfl rfl rfl rfl rfl rfl (ka tk rfl rfl rfl rfl (rows' := List.map (ae 48 ab) ([x48.1.row] : Rz)) rfl (eW.refl _) rfl rfl ?_))))))
   obtain ⟨x54,h54,H⟩ := ar H
   have k54 := er h54
   refine eC (rows2' := List.map (ae 48 ab) ([x48.1.row] : Rz)) (rows' := List.map (ae 48 ab) x54) tk rfl rfl rfl rfl rfl rfl rfl rfl rfl rfl rfl rfl rfl (eW.refl _) (fH k54.1) (fM k54.2.1) (fK k54.2.2) fun g54=>?_
   refine ay tk rfl (al (af (ah (ay tk rfl (iN tk rfl rfl rfl rfl rfl rfl rfl (bh tk (zl _) ?_))))))
   refine ay tk rfl (al ?_)
   refine bm rfl H (fun H=>?_) (fun H=>?_)
   ·refine cA tk mok ⟨true,false,[64,999997]⟩ [0,1,2,3,4,5,6,7,8,9,10,11,12,13] rfl (by decide +kernel) rfl (db rfl (kP tk rfl rfl rfl rfl rfl rfl (db rfl (bk ?_))))
    obtain ⟨x63,k63,H⟩ := bR H
    refine eY k63.1 (bg (fun _=>rfl) k63.2) ?_
    refine aG 2 rfl (bk ?_)
    refine db rfl (bk ?_)
    obtain ⟨x69,h69,H⟩ := ar H
    have k69 := subI_some h69
    refine jF rfl rfl rfl rfl rfl rfl (zl _) rfl rfl k69.1 (rowsSubE k69.2) rfl (db rfl (kP tk rfl rfl rfl rfl rfl rfl ?_))
    obtain ⟨x72,h72,H⟩ := ar H
    have s72 := it b12 gz48_1602 x48.2 (LExtsortHead.mk x63 x48.1.runF x69) _ h72
    refine kO (g := 38) rfl rfl rfl rfl Tryz.call38 rfl rfl [(12,1500)] [(1602,1602)] rfl rfl rfl rfl (de.of2 (eZ.cons (PLe2.ifc PLe2.boxT) (eZ.cons (PLe2.of_eq rfl) eZ.nil))) (by rw [bv,aW,aM,aV]; rfl) s72 ?_
    rintro u72 H72h ⟨gz72_1602,rfl,rfl⟩
    refine ⟨_,rfl,?_⟩
    refine bM ?_
    refine cq (st' := ⟨_,_,upd (upd (fun _=>none) 12 (some ⟨b12,[(.list 3 (x72.byF.columns.map ba)),(.list 4 (x72.byF.descending.map aE)),(.own 1602 gz72_1602 (x72.l.map aa).length)]⟩)) 9 (some ⟨b9,(aa x48.1)⟩),upd (upd (fun _=>none) 54 (some ⟨g54,51,(x54.map (ae 48 ab)),true⟩)) 1602 (some ⟨gz72_1602,99,(x72.l.map aa),true⟩)⟩) (Gh.le (aU _ _) (aP rfl (de.r) (aP rfl (de.r) ap)) (aC (aC aq))) ?_
    refine bA ?_
    obtain rfl := ax H
    refine bs (x54,x72.byF.columns,x72.byF.descending,x72.l) (g54,gz72_1602) hg2 Gh.d
   refine aH (bA ?_)
   obtain rfl := ax H
   refine bs (x54,x48.2.byF.columns,x48.2.byF.descending,x48.2.l) (g54,gz48_1602) hg2 Gh.d
  refine cB rfl ?_
  obtain rfl := ax H
  refine bD (s2.1,x44.2.byF.columns,x44.2.byF.descending,x44.2.l) (g2.1,gz44_1602) hg2 Gh.d
 have H := bB hn2 Hp2
 refine au 2 tk rfl (fS 4 rfl rfl rfl ?_)
 exact cI tk H rfl
def eg {α : Type} (m : Nat) : Nat → List α → List (List α)
 | 0,_=>[]
 | _ + 1,[]=>[]
 | f + 1,x :: l=>(x :: l).take m :: eg m f ((x :: l).drop m)
def aK {α : Type} (m : Nat) (l : List α) : List (List α) := eg m l.length l
theorem chunkL_get {α : Type} {m : Nat} (hm : 1 ≤ m) : ∀ (f : Nat) (l : List α) (j : Nat),l.length ≤ f → (eg m f l)[j]? = if j * m < l.length then some ((l.drop (j * m)).take m) else none
 | 0,l,j,h=>by
  have : l = [] := List.eq_nil_of_length_eq_zero (by omega)
  subst this
  simp [eg]
 | f + 1,[],j,_=>by simp [eg]
 | f + 1,x :: l,0,_=>by simp [eg]
 | f + 1,x :: l,j + 1,h=>by
  have hl : ((x :: l).drop m).length ≤ f := by rw [List.length_drop]; simp at h ⊢; omega
  rw [eg,List.getElem?_cons_succ,chunkL_get hm f _ j hl,List.length_drop,List.drop_drop,Nat.succ_mul,Nat.add_comm m (j * m)]
  by_cases hc : j * m < (x :: l).length - m
  ·rw [zp hc,zp (by omega)]
  ·rw [zy hc,zy (by omega)]
theorem dY {α : Type} {m : Nat} (hm : 1 ≤ m) (l : List α) (j : Nat) : (aK m l)[j]? = if j * m < l.length then some ((l.drop (j * m)).take m) else none := chunkL_get hm _ l j (Nat.le_refl _)
theorem iT {α : Type} {m : Nat} (hm : 1 ≤ m) {l : List α} {j : Nat} (h1 : ∀ k,k < j → k * m < l.length) (h2 : l.length ≤ j * m) : (aK m l).length = j := by
 have a := dY hm l j
 rw [zy (by omega)] at a
 have a := List.getElem?_eq_none_iff.1 a
 rcases Nat.eq_zero_or_pos j with h0 | h0
 ·omega
 ·have b := dY hm l (j - 1)
  rw [zp (h1 (j - 1) (by omega))] at b
  have := (zg.1 b).1
  omega
theorem chunkL_map {α β : Type} (g : α → β) (m : Nat) : ∀ (f : Nat) (l : List α),eg m f (l.map g) = (eg m f l).map (List.map g)
 | 0,_=>rfl
 | _ + 1,[]=>rfl
 | f + 1,x :: l=>by
  show (g x :: l.map g).take m :: eg m f ((g x :: l.map g).drop m) = _
  rw [show g x :: l.map g = (x :: l).map g from rfl,← List.map_drop,← List.map_take,chunkL_map g m f]
  rfl
theorem dM {α β : Type} (g : α → β) (m : Nat) (l : List α) : aK m (l.map g) = (aK m l).map (List.map g) := by
 unfold aK
 rw [zl]
 exact chunkL_map g m _ l
theorem chunk_seq (rows : List (List PV)) (m : Nat) (h1 : 1 ≤ m) (h2 : m ≤ 1000000) (hl : rows.length ≤ 1000000) : SeqP Tryz.prog 41 [.ptr [.list 51 rows],.ptr [ag (m : Int)]] ((aK m rows).map (PV.list 51)) := by
 refine SeqP.of Tryz.func41 rfl rfl Tryz.ntmps41 rfl fun l J hJ hR=>?_
 refine VI.seq (VI.region hJ rfl (ay tk rfl ?_))
 refine al ⟨rfl,⟨rfl,rfl⟩,?_⟩
 refine VI.block ?_
 refine VI.weak (s' := upd (upd (upd (upd (fun _=>.any) 4 (ag ((0 * m : Nat) : Int))) 2 (.ptr [ag (m : Int)])) 1 (.ptr [.list 51 rows])) 0 (.val (.func (.yield l) #[] #[]))) (aA (aA (aA (cf (PLe.q (by simp [upd,ag])) aQ)))) ?_
 refine VI.loop (fun mm j s=>mm = rows.length + m - j * m ∧ (∀ k,k < j → k * m < rows.length) ∧ s = upd (upd (upd (upd (fun _=>.any) 4 (ag ((j * m : Nat) : Int))) 2 (.ptr [ag (m : Int)])) 1 (.ptr [.list 51 rows])) 0 (.val (.func (.yield l) #[] #[]))) (m := rows.length + m - 0 * m) ⟨rfl,fun k hk=>absurd hk (Nat.not_lt_zero k),rfl⟩ ?_
 rintro mm j s ⟨rfl,hall,rfl⟩
 refine VI.seq (VI.seq (VI.region hJ rfl (am 2 tk rfl (bh tk rfl ?_))))
 refine ay tk rfl ?_
 refine al ⟨rfl,⟨rfl,rfl⟩,?_⟩
 refine VI.cond (b := decide (((j * m : Nat) : Int) < (rows.length : Int))) rfl ?_
 by_cases hlt : j * m < rows.length
 ·rw [zt (by omega),zp rfl]
  refine VI.skip (VI.seq (VI.block (VI.seq (VI.draw hJ tk mok ⟨false,false,[]⟩ [0,1,2,3,4,5,6] rfl (by decide +kernel) rfl (aG 3 rfl (jF rfl rfl rfl rfl rfl rfl rfl rfl rfl ⟨by omega,by omega,by omega⟩ (rows' := rows.drop (j * m)) (by rw [Int.toNat_natCast,Int.toNat_natCast,List.take_length]) rfl (ku rfl rfl rfl rfl rfl rfl List.length_drop rfl (aG 2 rfl ?_))))))))
  refine bM ⟨rfl,⟨rfl,rfl⟩,?_⟩
  have hget := dY h1 rows j
  rw [zp hlt] at hget
  refine VI.seq ?_
  refine VI.yield hJ hR _ _ _ (show _ = [_,_,_,_,_,_,_,_,_,_] ++ _ :: [_] from rfl) rfl rfl rfl (x := .list 51 ((rows.drop (j * m)).take m)) (by rw [List.getElem?_map,hget]; rfl) ?_
  have hE : (if ((rows.length - j * m : Nat) : Int) < (m : Int) then ((rows.length - j * m : Nat) : Int) else (m : Int)) = ((min (rows.length - j * m) m : Nat) : Int) := by
   split <;> omega
  rw [hE]
  have hw : IntKind.i64.wrap (((j * m : Nat) : Int) + ((min (rows.length - j * m) m : Nat) : Int)) = ((j * m + min (rows.length - j * m) m : Nat) : Int) := by
   rw [aB (by omega) (by omega)]
   omega
  refine am 9 tk rfl ?_
  refine kF tk rfl rfl rfl rfl rfl rfl rfl rfl (by rw [hw]; omega) (rows' := (rows.drop (j * m)).take m) (by
   rw [hw,Int.toNat_natCast,Int.toNat_natCast,List.drop_take,Nat.add_sub_cancel_left]
   rcases Nat.le_total (rows.length - j * m) m with h | h
   ·rw [Nat.min_eq_left h,List.take_of_length_le (by rw [List.length_drop]; omega),List.take_of_length_le (by rw [List.length_drop]; omega)]
   ·rw [Nat.min_eq_right h]) rfl ?_
  refine al ⟨rfl,⟨rfl,rfl⟩,rfl,rfl,rfl,_,rfl,?_⟩
  refine ay tk rfl ?_
  refine al ⟨rfl,⟨rfl,rfl⟩,?_⟩
  refine VI.cond (b := false) rfl ?_
  rw [zy (by simp)]
  refine VI.skip (VI.region hJ rfl (am 4 tk rfl ?_))
  refine al ⟨rfl,⟨rfl,rfl⟩,?_⟩
  intro M a w hs hj
  have hw2 : IntKind.i64.wrap (((j * m : Nat) : Int) + (m : Int)) = (((j + 1) * m : Nat) : Int) := by
   rw [aB (by omega) (by omega),Nat.succ_mul]
   omega
  have hs' : cY Tryz.prog [] M 31 (upd (upd (upd (upd (fun _=>.any) 4 (ag (((j + 1) * m : Nat) : Int))) 2 (.ptr [ag (m : Int)])) 1 (.ptr [.list 51 rows])) 0 (.val (.func (.yield l) #[] #[]))) a :=
   hs.weak (aA (aA (aA (cf (PLe.q (by rw [← hw2]; rfl)) aQ))))
  exact ⟨rows.length + m - (j + 1) * m,by rw [Nat.succ_mul]; omega,j + 1,_,M,⟨rfl,fun k hk=>by
   rcases Nat.lt_succ_iff_lt_or_eq.1 hk with h | rfl
   ·exact hall k h
   ·exact hlt,rfl⟩,hs',hj⟩
 ·rw [zf (by omega),zy (by simp)]
  refine VI.exit ?_
  intro M a w hs hj
  simp only [Exit.then,Exit.inBlock,↓reduceIte]
  refine ⟨by simp,hs.2.1,M,?_⟩
  rw [zl,iT h1 hall (by omega)]
  exact hj
theorem W_chunk (l : List (List PV)) (m : Int) (h1 : 1 ≤ m) : bJ Tryz.prog 23 [.list 51 l,ag m] (.fn 41 [.ptr [.list 51 l],.ptr [ag m]]) := by
 refine PH.aD Tryz.func23 Tryz.ntmps23 ?_
 refine af (ah (cD ?_))
 refine cD ?_
 refine ay tk rfl (al (af (au 2 tk rfl ?_)))
 refine jL (by show PV.val (.bool (decide (m < 1))) = _; rw [zf (by omega)]) ?_
 refine aH (au 2 tk rfl ?_)
 exact dr tk rfl (ps := [.fn 41 [.ptr [.list 51 l],.ptr [ag m]]]) ⟨_,_,rfl,rfl,rfl⟩ (PLe.q rfl)
theorem validate_ok {l : Rz} {byA : LExtsortOrdering} {memory : Int} (h : bI l byA memory = some 0) : l.length ≤ 600 ∧ 2 ≤ memory ∧ memory ≤ 64 := by
 unfold bI at h
 by_cases h1 : (l.length : Int) > 600
 ·rw [zt h1] at h; cases h
 rw [zf h1,zd,bU] at h
 by_cases h2 : memory < 2
 ·rw [zt h2] at h; cases h
 rw [zf h2,zd] at h
 by_cases h3 : memory > 64
 ·rw [zt h3] at h; cases h
 omega
def jB (byA : LExtsortOrdering) : Nat → Rz → List Rz → Option (Flow (List Rz) Empty) := fun _ part s =>
 ac (aw part (fun a0 a1=>bV a0 a1 byA)) fun run =>
 ac (cG (run.length = part.length) ()) fun (_ : Unit) =>
 ac (eF 24 s [run]) fun s'=>some (.next s')
def ci (l : Rz) (byA : LExtsortOrdering) (memory : Int) : Option (List Rz × Int) :=
 ac (bI l byA memory) fun x15 =>
 cond (x15 != (0 : Int))
  (some ([],x15))
  (ac (aX (jB byA) 0 (aK memory.toNat l) []) fun fl=>fl.thenP fun (s : List Rz)=>some (s,0))
abbrev dW : Rz → List PV := ae 51 (ae 48 ab)
theorem iA (l : Rz) (byA : LExtsortOrdering) (memory : Int) (r : (List Rz) × Int) (H : ci l byA memory = some r) :
  bJ Tryz.prog 9 [(.list 51 (l.map (ae 48 ab))),(.agg (aN byA)),(ag memory)] (.tup [(.list 22 (r.1.map dW)),(ag r.2)]) := by
 unfold ci at H
 refine PH.aD Tryz.func9 Tryz.ntmps9 ?_
 refine af (ah (cD ?_))
 refine am 2 tk rfl (al (af (af (ah (am 3 tk rfl ?_)))))
 obtain ⟨x15,h15,H⟩ := ar H
 have s15 := jp l byA memory _ h15
 refine bT Tryz.call22 (de.r) s15 ?_
 refine ay tk rfl (al (au 2 tk rfl ?_))
 refine jo (b := x15 != (0 : Int)) rfl (fun hb=>?_) (fun hb=>?_)
 ·rw [hb] at H
  refine au 3 tk rfl ?_
  obtain rfl := ax H
  refine dr tk rfl (ps := [(.val (.slice none 0 0)),(ag x15)]) ⟨_,_,rfl,rfl,_,_,rfl,rfl,rfl⟩ (PLe.of2 (PLe2.tup (eZ.cons (PLe2.nil tk rfl) (eZ.cons (PLe2.of_eq rfl) eZ.nil))))
 rw [hb] at H
 have e0 : x15 = 0 := by simpa using hb
 subst e0
 obtain ⟨hl,hm1,hm2⟩ := validate_ok h15
 obtain ⟨m,rfl⟩ : ∃ m : Nat,memory = (m : Int) := ⟨memory.toNat,by omega⟩
 rw [Int.toNat_natCast] at H
 obtain ⟨fl,hfl,H⟩ := ar (show ac _ _ = some r from H)
 refine aH (af (ah ?_))
 refine gG tk rfl rfl rfl rfl rfl rfl fun b9=>?_
 refine al (af (af (ah (am 2 tk rfl (jY (g := 23) rfl rfl rfl Tryz.call23 (de.r) (W_chunk _ _ (by omega)) rfl (al (aF (kJ tk 9 0 1209 (e := 22) rfl rfl rfl rfl ?_))))))))
 refine cq (st' := ⟨33,_,upd (fun _=>none) 9 (some ⟨b9,[.own 1209 ⟨none,0⟩ 0]⟩),upd (fun _=>none) 1209 (some ⟨⟨none,0⟩,22,[],true⟩)⟩) (Gh.le (aU _ _) (aP rfl (de.r) ap) (aC aq)) ?_
 refine kd rfl Tryz.call41 rfl (chunk_seq (l.map (ae 48 ab)) m (by omega) (by omega) (by rw [zl]; omega))
  (fun j bx ob=>∃ (s : List Rz) (g : OwnRef),aX (jB byA) j ((aK m l).drop j) s = some fl ∧ bx = upd (fun _=>none) 9 (some ⟨b9,[.own 1209 g (s.map dW).length]⟩) ∧ ob = upd (fun _=>none) 1209 (some ⟨g,22,s.map dW,true⟩))
  ⟨[],⟨none,0⟩,hfl,rfl,rfl⟩ ?_ ?_
 ·rintro lo j x bx ob hx ⟨s,g,hrun,rfl,rfl⟩
  rw [dM,List.map_map,List.getElem?_map] at hx
  obtain ⟨part,hpart,rfl⟩ := Option.map_eq_some_iff.1 hx
  have hlt := (zg.1 hpart).1
  obtain ⟨part',fb,hpart',hstep,hgo⟩ := rMc hlt hrun
  rw [hpart] at hpart'
  cases hpart'
  unfold jB at hstep
  obtain ⟨run,h27,hstep⟩ := ar hstep
  obtain ⟨_,q27,hstep⟩ := ar hstep
  have l27 := (bS q27).1
  have z27 : (List.map (ae 48 ab) part).length = (List.map (ae 48 ab) run).length := by simpa using l27.symm
  obtain ⟨s',h31,hstep⟩ := ar hstep
  have k31 := er h31
  refine VR.region rfl (ay tk rfl (al (VR.block (VR.seq (VR.region rfl (ay tk rfl ?_))))))
  have s24 := clone_24 (m := 24) part
  refine kY (g := 24) rfl rfl rfl Tryz.call24 (de.r) rfl rfl s24 (fun g24=>?_)
  refine ay tk rfl (al (VR.seq (VR.region rfl (am 2 tk rfl ?_))))
  have s27 := ef g24 part (fun a0 a1=>bV a0 a1 byA) Tryz.call26 (fun a0 a1 r h=>gM a0 a1 byA r h) _ h27
  refine ce (g := 25) rfl rfl rfl Tryz.call25 [] [(24,0)] rfl rfl rfl rfl (de.of2 (eZ.cons (PLe2.own rfl) (eZ.cons (PLe2.of_eq rfl) eZ.nil))) (by rw [aW,aM,aV]; rfl) s27 ?_
  rintro u27 H27h ⟨rfl,rfl⟩
  refine ⟨_,rfl,?_⟩
  refine bQ (st' := ⟨_,_,upd (fun _=>none) 9 (some ⟨b9,[.own 1209 g (s.map dW).length]⟩),upd (upd (fun _=>none) 24 (some ⟨g24,51,(run.map (ae 48 ab)),true⟩)) 1209 (some ⟨g,22,s.map dW,true⟩)⟩) (Gh.le (aU _ _) (aP rfl (de.r) ap) (aC (aC aq))) ?_
  refine al (VR.gh (Gh.freezeO 11 rfl rfl z27) (VR.region rfl (iN tk rfl rfl rfl rfl rfl rfl rfl (ay tk rfl (ka tk rfl rfl rfl rfl (rows' := List.map dW ([run] : List Rz)) rfl (eW.refl _) rfl rfl ?_)))))
  refine eC (rows2' := List.map dW ([run] : List Rz)) (rows' := List.map dW s') tk rfl rfl rfl rfl rfl rfl rfl rfl rfl rfl rfl rfl rfl (eW.refl _) (fH k31.1) (fM k31.2.1) (fK k31.2.2) fun g31=>?_
  refine kx tk rfl rfl rfl rfl rfl rfl rfl rfl rfl rfl rfl ?_
  cases hstep
  refine bQ (st' := ⟨33,_,upd (fun _=>none) 9 (some ⟨b9,[.own 1209 g31 (s'.map dW).length]⟩),upd (fun _=>none) 1209 (some ⟨g31,22,s'.map dW,true⟩)⟩) (Gh.le (aU _ _) (aP rfl (de.r) ap) (aC aq)) ?_
  refine al ⟨s',g31,hgo,rfl,rfl⟩
 ·rintro bx ob ⟨s,g,hrun,rfl,rfl⟩
  rw [zl,dM,zl] at hrun
  have hfn := rMd (Nat.le_refl _) hrun
  have H := bB hfn H
  refine bA (af (ah (iN tk rfl rfl rfl rfl rfl rfl rfl (am 2 tk rfl (al (fS 6 rfl rfl rfl ?_))))))
  exact cI tk H rfl
end
end Go.Proofs.YtnnieenoapkefaaGreatDoor

namespace Go.Proofs.YtnnieenoapkefaaGreatDoor
noncomputable section
open Go Go.Ab
def Tot {α : Type} (o : Option α) : Prop := ∃ v,o = some v
theorem bneT {a b : Int} (h : a ≠ b) : (a != b) = true := by simpa using h
theorem bneF {a b : Int} (h : a = b) : (a != b) = false := by simp [h]
theorem beqF {a b : Int} (h : a ≠ b) : (a == b) = false := by simpa using h
theorem beqT {a b : Int} (h : a = b) : (a == b) = true := by simp [h]
theorem ip {α : Type} {xs : List α} {k : Nat} (h : k < xs.length) : aL xs (k : Int) = some xs[k] := getI_nat (ze h)
theorem whileM_by {σ ρ : Type} {step : σ → Option (Flow σ ρ)} (I : σ → Prop) (μ : σ → Nat) (Q : σ → Prop) (R : ρ → Prop) (hs : ∀ s,I s → ∃ fl,step s = some fl ∧ (match fl with | .next s'=>I s' ∧ μ s' < μ s | .brk s'=>Q s' | .ret r=>R r)) :
  ∀ s,I s → ∃ fl,co step s = some fl ∧ (match fl with | .next s'=>Q s' | .brk _=>False | .ret r=>R r) := by
 intro s
 generalize hn : μ s = n
 induction n using Nat.strongRecOn generalizing s with
 | _ n ih =>
  intro hI
  obtain ⟨fl,h1,h2⟩ := hs s hI
  cases fl with
  | next s' =>
   obtain ⟨fl,h3,h4⟩ := ih (μ s') (hn ▸ h2.2) s' rfl h2.1
   exact ⟨fl,gX h1 h3,h4⟩
  | brk s'=>exact ⟨.next s',gX h1 rfl,h2⟩
  | ret r=>exact ⟨.ret r,gX h1 rfl,h2⟩
theorem bc {σ β : Type} {step : σ → Option (Flow σ Empty)} {k : σ → Option β} {R : β → Prop} {s : σ} (I : σ → Prop) (μ : σ → Nat) (Q : σ → Prop) (h0 : I s)
  (hs : ∀ s,I s → ∃ fl,step s = some fl ∧ (match fl with | .next s'=>I s' ∧ μ s' < μ s | .brk s'=>Q s' | .ret _=>False)) (hk : ∀ s',Q s' → ∃ r,k s' = some r ∧ R r) :
  ∃ r,ac (co step s) (fun fl=>fl.thenP k) = some r ∧ R r := by
 obtain ⟨fl,h1,h2⟩ := whileM_by (step := step) I μ Q (fun _=>False) (fun s hI=>by
  obtain ⟨fl,h1,h2⟩ := hs s hI
  refine ⟨fl,h1,?_⟩
  cases fl with
  | next s'=>exact h2
  | brk s'=>exact h2
  | ret r=>exact r.elim) s h0
 cases fl with
 | next s'=>rw [h1]; exact hk s' h2
 | brk s'=>exact absurd h2 (by simp)
 | ret r=>exact r.elim
theorem mid_eq {n : Int} (h0 : 0 ≤ n) (h1 : n ≤ 4611686018427387904) : IntKind.i64.wrap (Int.fdiv (IntKind.u64.wrap (IntKind.i64.wrap n)) (2 ^ 1)) = n / 2 := by
 have h3 : IntKind.i64.wrap n = n := aB (by omega) (by omega)
 have h2 : IntKind.u64.wrap n = n := by
  simp only [IntKind.wrap,IntKind.bits,IntKind.signed]
  simp
  omega
 rw [h3,h2,show (2 : Int) ^ 1 = 2 from rfl,Int.fdiv_eq_ediv_of_nonneg _ (by decide)]
 exact aB (by omega) (by omega)
section
variable {α : Type}
theorem swap_perm {l : List α} {i j : Nat} {x y : α} (hi : l[i]? = some x) (hj : l[j]? = some y) : ((l.set i y).set j x).Perm l := by
 have hil := (zg.1 hi).1
 have hjl := (zg.1 hj).1
 have hx := (zg.1 hi).2
 have hy := (zg.1 hj).2
 rw [← hx,← hy]
 exact List.set_set_perm hil hjl
end
section
abbrev Rows := Rz
abbrev Cmp := Rq → Rq → Option Int
structure SrtOk (cmp : Cmp) (d0 d : Rows) : Prop where
 perm : d.Perm d0
 small : d0.length ≤ 1000000
 tot : ∀ x ∈ d0,∀ y ∈ d0,Tot (cmp x y)
variable {cmp : Cmp} {d0 : Rows}
theorem SrtOk.len {d : Rows} (h : SrtOk cmp d0 d) : d.length = d0.length := h.perm.length_eq
theorem SrtOk.cm {d : Rows} (h : SrtOk cmp d0 d) {x y : Rq} (hx : x ∈ d) (hy : y ∈ d) : Tot (cmp x y) := h.tot x (h.perm.mem_iff.1 hx) y (h.perm.mem_iff.1 hy)
theorem SrtOk.swap {d : Rows} (h : SrtOk cmp d0 d) {i j : Nat} {x y : Rq} (hi : d[i]? = some x) (hj : d[j]? = some y) : SrtOk cmp d0 ((d.set i y).set j x) := ⟨(swap_perm hi hj).trans h.perm,h.small,h.tot⟩
theorem SrtOk.get {d : Rows} (h : SrtOk cmp d0 d) {i : Int} (h0 : 0 ≤ i) (h1 : i < d0.length) : ∃ x,aL d i = some x ∧ d[i.toNat]? = some x ∧ x ∈ d := by
 have hl := h.len
 have : i.toNat < d.length := by omega
 exact ⟨d[i.toNat],jC h0 (ze this),ze this,List.getElem_mem _⟩
theorem getI_set {α : Type} {l : List α} {i j : Int} {x y : α} (h0 : 0 ≤ j) (hj : l[j.toNat]? = some y) : ∃ z,aL (l.set i.toNat x) j = some z := by
 have hl := (zg.1 hj).1
 exact ⟨_,jC h0 (ze (by simpa using hl))⟩
theorem jz {β : Type} {d : Rows} (h : SrtOk cmp d0 d) {i j : Int} (hi0 : 0 ≤ i) (hi1 : i < d0.length) (hj0 : 0 ≤ j) (hj1 : j < d0.length) : ∃ d',SrtOk cmp d0 d' ∧ ∀ k : Rows → Option β,
  (ac (aL d j) fun (x28 : Rq)=>ac (aL d i) fun (x34 : Rq)=>ac (aL d i) fun (_ : Rq)=>cp (d.set i.toNat x28) fun (y6 : Rows)=>ac (aL y6 j) fun (_ : Rq)=>cp (y6.set j.toNat x34) fun (y7 : Rows)=>k y7) = k d' := by
 obtain ⟨y,hy,hy',_⟩ := h.get hj0 hj1
 obtain ⟨x,hx,hx',_⟩ := h.get hi0 hi1
 obtain ⟨z,hz⟩ := getI_set (i := i) (x := y) hj0 hy'
 refine ⟨_,h.swap hx' hy',fun k=>?_⟩
 rw [hy,hx]
 simp only [bPs,bU]
 rw [hz,bPs]
theorem jj {d : Rows} (h : SrtOk cmp d0 d) {a b : Int} (ha : 0 ≤ a ∧ a ≤ d0.length) (hb : b ≤ d0.length) : ∃ d',aI d a b cmp = some d' ∧ SrtOk cmp d0 d' := by
 have hs := h.small
 unfold aI
 rw [aB (by omega) (by omega)]
 refine bc (fun s=>SrtOk cmp d0 s.1 ∧ a < s.2) (fun s=>(b - s.2).toNat) (fun s=>SrtOk cmp d0 s.1) ⟨h,by show a < a + 1; omega⟩ (fun s hI=>?_) (fun s hq=>⟨_,rfl,hq⟩)
 obtain ⟨h1,h2⟩ := hI
 by_cases hlt : s.2 < b
 ·rw [zt hlt,zc]
  refine bc (fun t=>SrtOk cmp d0 t.1 ∧ a ≤ t.2 ∧ t.2 < b) (fun t=>(t.2 - a).toNat) (fun t=>SrtOk cmp d0 t.1) ⟨h1,by show a ≤ s.2; omega,hlt⟩ (fun t hI=>?_) (fun t hq=>⟨_,rfl,?_⟩)
  ·obtain ⟨g1,g2,g3⟩ := hI
   by_cases hgt : t.2 > a
   ·rw [zt hgt,zc,aB (by omega) (by omega)]
    obtain ⟨x,hx,hx',hxm⟩ := g1.get (i := t.2) (by omega) (by omega)
    obtain ⟨y,hy,hy',hym⟩ := g1.get (i := t.2 - 1) (by omega) (by omega)
    obtain ⟨c,hc⟩ := g1.cm hxm hym
    obtain ⟨d',hd',hsw⟩ := jz (β := Flow (Rows × Int) Empty) g1 (i := t.2) (j := t.2 - 1) (by omega) (by omega) (by omega) (by omega)
    rw [hx,bPs,hy,bPs,hc,bPs,bPs]
    by_cases hneg : c < 0
    ·rw [zt hneg]
     have := hsw (fun y31=>some (.next (y31,t.2 - 1)))
     rw [hx,hy] at this
     refine ⟨.next (d',t.2 - 1),?_,⟨hd',by show a ≤ t.2 - 1; omega,by show t.2 - 1 < b; omega⟩,by show (t.2 - 1 - a).toNat < (t.2 - a).toNat; omega⟩
     rw [zc]
     simp only
     rw [hy,hx]
     exact this
    ·rw [zf hneg]
     exact ⟨_,rfl,g1⟩
   ·rw [zf hgt]
    exact ⟨_,rfl,g1⟩
  ·show (SrtOk cmp d0 t.1 ∧ a < IntKind.i64.wrap (s.2 + 1)) ∧ (b - IntKind.i64.wrap (s.2 + 1)).toNat < (b - s.2).toNat
   rw [aB (by omega) (by omega)]
   exact ⟨⟨hq,by omega⟩,by omega⟩
 ·rw [zf hlt]
  exact ⟨_,rfl,h1⟩
theorem gJ {d : Rows} (h : SrtOk cmp d0 d) {a b n : Int} (ha : 0 ≤ a) (hb : 0 ≤ b) (hn : n ≤ d0.length) (ha' : a + n ≤ d0.length) (hb' : b + n ≤ d0.length) : ∃ d',aJ d a b n cmp = some d' ∧ SrtOk cmp d0 d' := by
 have hs := h.small
 unfold aJ
 refine bc (fun s=>SrtOk cmp d0 s.1 ∧ 0 ≤ s.2) (fun s=>(n - s.2).toNat) (fun s=>SrtOk cmp d0 s.1) ⟨h,by show (0 : Int) ≤ 0; omega⟩ (fun s hI=>?_) (fun s hq=>⟨_,rfl,hq⟩)
 obtain ⟨h1,h2⟩ := hI
 by_cases hlt : s.2 < n
 ·rw [zt hlt,zc,aB (n := b + s.2) (by omega) (by omega),aB (n := a + s.2) (by omega) (by omega),aB (n := s.2 + 1) (by omega) (by omega)]
  obtain ⟨d',hd',hsw⟩ := jz (β := Flow (Rows × Int) Empty) h1 (i := a + s.2) (j := b + s.2) (by omega) (by omega) (by omega) (by omega)
  exact ⟨_,hsw _,⟨hd',by show 0 ≤ s.2 + 1; omega⟩,by show (n - (s.2 + 1)).toNat < (n - s.2).toNat; omega⟩
 ·rw [zf hlt]
  exact ⟨_,rfl,h1⟩
theorem rotate_ok {d : Rows} (h : SrtOk cmp d0 d) {a m b : Int} (ha : 0 ≤ a) (hm : a < m) (hb : m < b) (hb' : b ≤ d0.length) : ∃ d',aZ d a m b cmp = some d' ∧ SrtOk cmp d0 d' := by
 have hs := h.small
 unfold aZ
 rw [aB (n := m - a) (by omega) (by omega),aB (n := b - m) (by omega) (by omega)]
 refine bc (fun s=>SrtOk cmp d0 s.1 ∧ 0 < s.2.1 ∧ 0 < s.2.2 ∧ s.2.1 ≤ m - a ∧ s.2.2 ≤ b - m) (fun s=>(s.2.1 + s.2.2).toNat) (fun s=>SrtOk cmp d0 s.1 ∧ 0 < s.2.1 ∧ s.2.1 ≤ m - a ∧ s.2.1 ≤ b - m) ⟨h,by show 0 < m - a; omega,by show 0 < b - m; omega,Int.le_refl _,Int.le_refl _⟩ (fun s hI=>?_) (fun s hq=>?_)
 ·obtain ⟨h1,h2,h3,h4,h5⟩ := hI
  by_cases hne : s.2.1 = s.2.2
  ·rw [bneF hne]
   exact ⟨_,rfl,h1,h2,h4,by show s.2.1 ≤ b - m; omega⟩
  ·rw [bneT hne,zc,aB (n := m - s.2.1) (by omega) (by omega)]
   by_cases hgt : s.2.1 > s.2.2
   ·rw [zt hgt,zc]
    obtain ⟨d',e,hd'⟩ := gJ h1 (a := m - s.2.1) (b := m) (n := s.2.2) (by omega) (by omega) (by omega) (by omega) (by omega)
    rw [e,bPs,bd (by rw [hd'.len,h1.len]),bPs,aB (by omega) (by omega)]
    exact ⟨_,rfl,⟨hd',by show 0 < s.2.1 - s.2.2; omega,h3,by show s.2.1 - s.2.2 ≤ m - a; omega,h5⟩,by show (s.2.1 - s.2.2 + s.2.2).toNat < (s.2.1 + s.2.2).toNat; omega⟩
   ·rw [zf hgt,zd,aB (n := m + s.2.2) (by omega) (by omega),aB (n := m + s.2.2 - s.2.1) (by omega) (by omega)]
    obtain ⟨d',e,hd'⟩ := gJ h1 (a := m - s.2.1) (b := m + s.2.2 - s.2.1) (n := s.2.1) (by omega) (by omega) (by omega) (by omega) (by omega)
    rw [e,bPs,bd (by rw [hd'.len,h1.len]),bPs,aB (by omega) (by omega)]
    exact ⟨_,rfl,⟨hd',h2,by show 0 < s.2.2 - s.2.1; omega,h4,by show s.2.2 - s.2.1 ≤ b - m; omega⟩,by show (s.2.1 + (s.2.2 - s.2.1)).toNat < (s.2.1 + s.2.2).toNat; omega⟩
 ·obtain ⟨h1,h2,h3,h4⟩ := hq
  rw [aB (n := m - s.2.1) (by omega) (by omega)]
  obtain ⟨d',e,hd'⟩ := gJ h1 (a := m - s.2.1) (b := m) (n := s.2.1) (by omega) (by omega) (by omega) (by omega) (by omega)
  rw [e,bPs,bd (by rw [hd'.len,h1.len]),bPs]
  exact ⟨_,rfl,hd'⟩
def LeO {β : Type} (o o' : Option β) : Prop := ∀ r,o = some r → o' = some r
theorem LeO.refl {β : Type} (o : Option β) : LeO o o := fun _ h=>h
theorem LeO.bind {β γ : Type} {o o' : Option β} {k k' : β → Option γ} (h : LeO o o') (hk : ∀ v,LeO (k v) (k' v)) : LeO (ac o k) (ac o' k') := by
 intro r hr
 cases o with
 | none=>cases hr
 | some v=>rw [h v rfl]; exact hk v r hr
theorem LeO.cond {β : Type} {b : Bool} {x x' y y' : Option β} (hx : LeO x x') (hy : LeO y y') : LeO (cond b x y) (cond b x' y') := by
 cases b
 ·exact hy
 ·exact hx
theorem LeO.thenP {σ β : Type} {fl : Flow σ Empty} {k k' : σ → Option β} (hk : ∀ s,LeO (k s) (k' s)) : LeO (fl.thenP k) (fl.thenP k') := by
 cases fl with
 | next s=>exact hk s
 | brk s=>exact hk s
 | ret r=>exact r.elim
theorem symMerge_mono {r r' : Rows → Int → Int → Int → Option Rows} (h : ∀ d a m b,LeO (r d a m b) (r' d a m b)) (d : Rows) (a m b : Int) : LeO (aT r d a m b cmp) (aT r' d a m b cmp) := by
 unfold aT
 simp only [bU]
 refine LeO.cond (LeO.refl _) (LeO.cond (LeO.refl _) (LeO.bind (LeO.refl _) fun fl=>LeO.thenP fun s=>LeO.bind (LeO.refl _) fun t=>LeO.bind (LeO.cond (LeO.bind (h _ _ _ _) fun _=>LeO.refl _) (LeO.refl _)) fun u=>LeO.cond (LeO.cond (LeO.bind (h _ _ _ _) fun _=>LeO.refl _) (LeO.refl _)) (LeO.refl _)))
theorem iV : ∀ (n : Nat) (d : Rows) (a m b : Int),LeO (ao n d a m b cmp) (ao (n + 1) d a m b cmp)
 | 0,d,a,m,b=>fun r h=>by simp [ao] at h
 | n + 1,d,a,m,b=>by
  rw [ao,ao]
  exact symMerge_mono (fun d a m b=>iV n d a m b) d a m b
theorem fo {n : Nat} {d : Rows} {a m b : Int} {r : Rows} (h : ao n d a m b cmp = some r) : bY d a m b cmp = some r := by
 refine limN_eq n fun k hk=>?_
 obtain ⟨j,rfl⟩ : ∃ j,k = n + j := ⟨k - n,by omega⟩
 clear hk
 induction j with
 | zero=>exact h
 | succ j ih=>exact iV (n + j) d a m b r ih
theorem fQ : ∀ (n : Nat) {d : Rows} (_ : SrtOk cmp d0 d) {a m b : Int},0 ≤ a → a < m → m < b → b ≤ d0.length → (b - a).toNat < n → ∃ d',ao n d a m b cmp = some d' ∧ SrtOk cmp d0 d'
 | 0,_,_,_,_,_,_,_,_,_,hn=>by omega
 | n + 1,d,h,a,m,b,ha,hm,hb,hb',hn=>by
  have hs := h.small
  rw [ao]
  unfold aT
  rw [aB (n := m - a) (by omega) (by omega),aB (n := b - m) (by omega) (by omega)]
  by_cases h1 : m - a = 1
  ·rw [beqT h1,zc]
   refine bc (fun s=>SrtOk cmp d0 s.1 ∧ m ≤ s.2.1 ∧ s.2.1 ≤ s.2.2 ∧ s.2.2 ≤ b) (fun s=>(s.2.2 - s.2.1).toNat) (fun s=>SrtOk cmp d0 s.1 ∧ m ≤ s.2.1 ∧ s.2.1 ≤ b) ⟨h,Int.le_refl _,by show m ≤ b; omega,Int.le_refl _⟩ (fun s hI=>?_) (fun s hq=>?_)
   ·obtain ⟨g1,g2,g3,g4⟩ := hI
    by_cases hlt : s.2.1 < s.2.2
    ·rw [zt hlt,zc,mid_eq (n := s.2.1 + s.2.2) (by omega) (by omega)]
     obtain ⟨x,hx,_,hxm⟩ := g1.get (i := (s.2.1 + s.2.2) / 2) (by omega) (by omega)
     obtain ⟨y,hy,_,hym⟩ := g1.get (i := a) (by omega) (by omega)
     obtain ⟨c,hc⟩ := g1.cm hxm hym
     rw [hx,bPs,hy,bPs,hc,bPs]
     by_cases hneg : c < 0
     ·rw [zt hneg,zc,aB (by omega) (by omega)]
      exact ⟨_,rfl,⟨g1,by show m ≤ (s.2.1 + s.2.2) / 2 + 1; omega,by show (s.2.1 + s.2.2) / 2 + 1 ≤ s.2.2; omega,g4⟩,by show (s.2.2 - ((s.2.1 + s.2.2) / 2 + 1)).toNat < (s.2.2 - s.2.1).toNat; omega⟩
     ·rw [zf hneg,zd]
      exact ⟨_,rfl,⟨g1,g2,by show s.2.1 ≤ (s.2.1 + s.2.2) / 2; omega,by show (s.2.1 + s.2.2) / 2 ≤ b; omega⟩,by show ((s.2.1 + s.2.2) / 2 - s.2.1).toNat < (s.2.2 - s.2.1).toNat; omega⟩
    ·rw [zf hlt]
     exact ⟨_,rfl,g1,g2,by show s.2.1 ≤ b; omega⟩
   ·obtain ⟨g1,g2,g3⟩ := hq
    rw [aB (n := s.2.1 - 1) (by omega) (by omega)]
    refine bc (fun t=>SrtOk cmp d0 t.1 ∧ a ≤ t.2) (fun t=>(s.2.1 - t.2).toNat) (fun t=>SrtOk cmp d0 t.1) ⟨g1,Int.le_refl _⟩ (fun t hI=>?_) (fun t hq=>⟨_,rfl,hq⟩)
    obtain ⟨k1,k2⟩ := hI
    by_cases hlt : t.2 < s.2.1 - 1
    ·rw [zt hlt,zc,aB (n := t.2 + 1) (by omega) (by omega)]
     obtain ⟨d',hd',hsw⟩ := jz (β := Flow (Rows × Int) Empty) k1 (i := t.2) (j := t.2 + 1) (by omega) (by omega) (by omega) (by omega)
     exact ⟨_,hsw _,⟨hd',by show a ≤ t.2 + 1; omega⟩,by show (s.2.1 - (t.2 + 1)).toNat < (s.2.1 - t.2).toNat; omega⟩
    ·rw [zf hlt]
     exact ⟨_,rfl,k1⟩
  ·rw [beqF h1,zd]
   by_cases h2 : b - m = 1
   ·rw [beqT h2,zc]
    refine bc (fun s=>SrtOk cmp d0 s.1 ∧ a ≤ s.2.1 ∧ s.2.1 ≤ s.2.2 ∧ s.2.2 ≤ m) (fun s=>(s.2.2 - s.2.1).toNat) (fun s=>SrtOk cmp d0 s.1 ∧ a ≤ s.2.1 ∧ s.2.1 ≤ m) ⟨h,Int.le_refl _,by show a ≤ m; omega,Int.le_refl _⟩ (fun s hI=>?_) (fun s hq=>?_)
    ·obtain ⟨g1,g2,g3,g4⟩ := hI
     by_cases hlt : s.2.1 < s.2.2
     ·rw [zt hlt,zc,mid_eq (n := s.2.1 + s.2.2) (by omega) (by omega)]
      obtain ⟨x,hx,_,hxm⟩ := g1.get (i := m) (by omega) (by omega)
      obtain ⟨y,hy,_,hym⟩ := g1.get (i := (s.2.1 + s.2.2) / 2) (by omega) (by omega)
      obtain ⟨c,hc⟩ := g1.cm hxm hym
      rw [hx,bPs,hy,bPs,hc,bPs]
      by_cases hneg : c < 0
      ·rw [zt hneg]
       exact ⟨_,rfl,⟨g1,g2,by show s.2.1 ≤ (s.2.1 + s.2.2) / 2; omega,by show (s.2.1 + s.2.2) / 2 ≤ m; omega⟩,by show ((s.2.1 + s.2.2) / 2 - s.2.1).toNat < (s.2.2 - s.2.1).toNat; omega⟩
      ·rw [zf hneg,Bool.not_false,zc,aB (by omega) (by omega)]
       exact ⟨_,rfl,⟨g1,by show a ≤ (s.2.1 + s.2.2) / 2 + 1; omega,by show (s.2.1 + s.2.2) / 2 + 1 ≤ s.2.2; omega,g4⟩,by show (s.2.2 - ((s.2.1 + s.2.2) / 2 + 1)).toNat < (s.2.2 - s.2.1).toNat; omega⟩
     ·rw [zf hlt]
      exact ⟨_,rfl,g1,g2,by show s.2.1 ≤ m; omega⟩
    ·obtain ⟨g1,g2,g3⟩ := hq
     refine bc (fun t=>SrtOk cmp d0 t.1 ∧ a ≤ t.2 ∧ t.2 ≤ m) (fun t=>(t.2 - a).toNat) (fun t=>SrtOk cmp d0 t.1) ⟨g1,by show a ≤ m; omega,Int.le_refl _⟩ (fun t hI=>?_) (fun t hq=>⟨_,rfl,hq⟩)
     obtain ⟨k1,k2,k3⟩ := hI
     by_cases hlt : t.2 > s.2.1
     ·rw [zt hlt,zc,aB (n := t.2 - 1) (by omega) (by omega)]
      obtain ⟨d',hd',hsw⟩ := jz (β := Flow (Rows × Int) Empty) k1 (i := t.2) (j := t.2 - 1) (by omega) (by omega) (by omega) (by omega)
      exact ⟨_,hsw _,⟨hd',by show a ≤ t.2 - 1; omega,by show t.2 - 1 ≤ m; omega⟩,by show (t.2 - 1 - a).toNat < (t.2 - a).toNat; omega⟩
     ·rw [zf hlt]
      exact ⟨_,rfl,k1⟩
   ·rw [beqF h2,zd]
    simp only [bU]
    rw [mid_eq (n := a + b) (by omega) (by omega)]
    generalize hmid : (a + b) / 2 = mid
    have b1 : 2 * mid ≤ a + b ∧ a + b ≤ 2 * mid + 1 := by omega
    rw [aB (n := mid + m) (by omega) (by omega),aB (n := mid + m - b) (by omega) (by omega),aB (n := mid + m - 1) (by omega) (by omega)]
    obtain ⟨lo,hi,e1,l1,l2,l3,l4,l5,l6⟩ : ∃ lo hi : Int,(cond (decide (m > mid)) ((d,mid + m - b,mid)) ((d,a,m)) : Rows × Int × Int) = (d,lo,hi) ∧ a ≤ lo ∧ lo ≤ hi ∧ hi ≤ m ∧ mid + m - lo ≤ b ∧ m ≤ mid + m - hi ∧ hi ≤ mid := by
     by_cases hgt : m > mid
     ·exact ⟨mid + m - b,mid,by rw [zt hgt]; rfl,by omega,by omega,by omega,by omega,by omega,by omega⟩
     ·exact ⟨a,m,by rw [zf hgt]; rfl,by omega,by omega,by omega,by omega,by omega,by omega⟩
    rw [e1]
    refine bc (fun s=>SrtOk cmp d0 s.1 ∧ lo ≤ s.2.1 ∧ s.2.1 ≤ s.2.2 ∧ s.2.2 ≤ hi) (fun s=>(s.2.2 - s.2.1).toNat) (fun s=>SrtOk cmp d0 s.1 ∧ lo ≤ s.2.1 ∧ s.2.1 ≤ hi) ⟨h,Int.le_refl _,l2,Int.le_refl _⟩ (fun s hI=>?_) (fun s hq=>?_)
    ·obtain ⟨g1,g2,g3,g4⟩ := hI
     by_cases hlt : s.2.1 < s.2.2
     ·rw [zt hlt,zc,mid_eq (n := s.2.1 + s.2.2) (by omega) (by omega)]
      generalize hc : (s.2.1 + s.2.2) / 2 = c
      have c1 : s.2.1 ≤ c ∧ c < s.2.2 := by omega
      rw [aB (n := mid + m - 1 - c) (by omega) (by omega)]
      obtain ⟨x,hx,_,hxm⟩ := g1.get (i := mid + m - 1 - c) (by omega) (by omega)
      obtain ⟨y,hy,_,hym⟩ := g1.get (i := c) (by omega) (by omega)
      obtain ⟨v,hv⟩ := g1.cm hxm hym
      rw [hx,bPs,hy,bPs,hv,bPs]
      by_cases hneg : v < 0
      ·rw [zt hneg]
       exact ⟨_,rfl,⟨g1,g2,by show s.2.1 ≤ c; omega,by show c ≤ hi; omega⟩,by show (c - s.2.1).toNat < (s.2.2 - s.2.1).toNat; omega⟩
      ·rw [zf hneg,Bool.not_false,zc,aB (by omega) (by omega)]
       exact ⟨_,rfl,⟨g1,by show lo ≤ c + 1; omega,by show c + 1 ≤ s.2.2; omega,g4⟩,by show (s.2.2 - (c + 1)).toNat < (s.2.2 - s.2.1).toNat; omega⟩
     ·rw [zf hlt]
      exact ⟨_,rfl,g1,g2,by show s.2.1 ≤ hi; omega⟩
    ·obtain ⟨g1,g2,g3⟩ := hq
     rw [aB (n := mid + m - s.2.1) (by omega) (by omega)]
     -- the rotation
     obtain ⟨t,ht,hto⟩ : ∃ t,(ac (cond ((cond (decide (s.2.1 < m)) ((s.1,decide (m < mid + m - s.2.1))) ((s.1,false)) : Rows × Bool)).2
       (ac (aZ ((cond (decide (s.2.1 < m)) ((s.1,decide (m < mid + m - s.2.1))) ((s.1,false)) : Rows × Bool)).1 s.2.1 m (mid + m - s.2.1) cmp) fun x191=>ac (cG (x191.length = ((cond (decide (s.2.1 < m)) ((s.1,decide (m < mid + m - s.2.1))) ((s.1,false)) : Rows × Bool)).1.length) ()) fun (_ : Unit)=>some x191)
       (some ((cond (decide (s.2.1 < m)) ((s.1,decide (m < mid + m - s.2.1))) ((s.1,false)) : Rows × Bool)).1)) some) = some t ∧ SrtOk cmp d0 t := by
      by_cases c1 : s.2.1 < m
      ·by_cases c2 : m < mid + m - s.2.1
       ·rw [zt c1,zt c2]
        simp only [zc]
        obtain ⟨d',e,hd'⟩ := rotate_ok g1 (a := s.2.1) (m := m) (b := mid + m - s.2.1) (by omega) c1 c2 (by omega)
        rw [e,bPs,bd (by rw [hd'.len,g1.len])]
        exact ⟨_,rfl,hd'⟩
       ·rw [zt c1,zf c2]
        exact ⟨_,rfl,g1⟩
      ·rw [zf c1]
       exact ⟨_,rfl,g1⟩
     have ht' := ht
     generalize hcc : (cond ((cond (decide (s.2.1 < m)) ((s.1,decide (m < mid + m - s.2.1))) ((s.1,false)) : Rows × Bool)).2 _ _ : Option Rows) = o at ht ⊢
     cases o with
     | none=>cases ht
     | some t0 =>
      simp only [bPs,zo] at ht
      subst ht
      rw [bPs]
      clear hcc ht'
      obtain ⟨u,hu,huo⟩ : ∃ u,(ac (cond ((cond (decide (a < s.2.1)) ((t0,decide (s.2.1 < mid))) ((t0,false)) : Rows × Bool)).2
        (ac (ao n ((cond (decide (a < s.2.1)) ((t0,decide (s.2.1 < mid))) ((t0,false)) : Rows × Bool)).1 a s.2.1 mid cmp) fun x205=>ac (cG (x205.length = ((cond (decide (a < s.2.1)) ((t0,decide (s.2.1 < mid))) ((t0,false)) : Rows × Bool)).1.length) ()) fun (_ : Unit)=>some x205)
        (some ((cond (decide (a < s.2.1)) ((t0,decide (s.2.1 < mid))) ((t0,false)) : Rows × Bool)).1)) some) = some u ∧ SrtOk cmp d0 u := by
       by_cases c1 : a < s.2.1
       ·by_cases c2 : s.2.1 < mid
        ·rw [zt c1,zt c2]
         simp only [zc]
         obtain ⟨d',e,hd'⟩ := fQ n hto (a := a) (m := s.2.1) (b := mid) ha c1 c2 (by omega) (by omega)
         rw [e,bPs,bd (by rw [hd'.len,hto.len])]
         exact ⟨_,rfl,hd'⟩
        ·rw [zt c1,zf c2]
         exact ⟨_,rfl,hto⟩
       ·rw [zf c1]
        exact ⟨_,rfl,hto⟩
      generalize hcc : (cond ((cond (decide (a < s.2.1)) ((t0,decide (s.2.1 < mid))) ((t0,false)) : Rows × Bool)).2 _ _ : Option Rows) = o at hu ⊢
      cases o with
      | none=>cases hu
      | some u0 =>
       simp only [bPs,zo] at hu
       subst hu
       rw [bPs]
       by_cases c1 : mid < mid + m - s.2.1
       ·rw [zt c1,zc]
        by_cases c2 : mid + m - s.2.1 < b
        ·rw [zt c2,zc]
         obtain ⟨d',e,hd'⟩ := fQ n huo (a := mid) (m := mid + m - s.2.1) (b := b) (by omega) c1 c2 hb' (by omega)
         rw [e,bPs,bd (by rw [hd'.len,huo.len])]
         exact ⟨_,rfl,hd'⟩
        ·rw [zf c2]
         exact ⟨_,rfl,huo⟩
       ·rw [zf c1]
        exact ⟨_,rfl,huo⟩
theorem stable_ok {d : Rows} (h : SrtOk cmp d0 d) : ∃ d',bj d (d0.length : Int) cmp = some d' ∧ SrtOk cmp d0 d' := by
 have hs := h.small
 unfold bj
 refine bc (fun s=>SrtOk cmp d0 s.1 ∧ 0 ≤ s.2.1 ∧ s.2.1 ≤ s.2.2 ∧ s.2.2 ≤ s.2.1 + 20 ∧ s.2.1 ≤ d0.length) (fun s=>(d0.length + 20 - s.2.2).toNat) (fun s=>SrtOk cmp d0 s.1 ∧ 0 ≤ s.2.1 ∧ s.2.1 ≤ d0.length) ⟨h,by show (0 : Int) ≤ 0; omega,by show (0 : Int) ≤ 20; omega,by show (20 : Int) ≤ 0 + 20; omega,by show (0 : Int) ≤ d0.length; omega⟩ (fun s hI=>?_) (fun s hq=>?_)
 ·obtain ⟨g1,g2,g3,g4,g5⟩ := hI
  by_cases hle : s.2.2 ≤ (d0.length : Int)
  ·rw [zt hle,zc]
   obtain ⟨d',e,hd'⟩ := jj g1 (a := s.2.1) (b := s.2.2) ⟨g2,by omega⟩ hle
   rw [e,bPs,bd (by rw [hd'.len,g1.len]),bPs,aB (by omega) (by omega)]
   exact ⟨_,rfl,⟨hd',by show 0 ≤ s.2.2; omega,by show s.2.2 ≤ s.2.2 + 20; omega,by show s.2.2 + 20 ≤ s.2.2 + 20; omega,hle⟩,by show ((d0.length : Int) + 20 - (s.2.2 + 20)).toNat < ((d0.length : Int) + 20 - s.2.2).toNat; omega⟩
  ·rw [zf hle]
   exact ⟨_,rfl,g1,g2,g5⟩
 ·obtain ⟨g1,g2,g3⟩ := hq
  obtain ⟨d',e,hd'⟩ := jj g1 (a := s.2.1) (b := (d0.length : Int)) ⟨g2,by omega⟩ (Int.le_refl _)
  rw [e,bPs,bd (by rw [hd'.len,g1.len]),bPs]
  clear e g1 g2 g3 s h
  refine bc (fun s=>SrtOk cmp d0 s.1 ∧ 20 ≤ s.2) (fun s=>(d0.length - s.2).toNat) (fun s=>SrtOk cmp d0 s.1) ⟨hd',by show (20 : Int) ≤ 20; omega⟩ (fun s hI=>?_) (fun s hq=>⟨_,rfl,hq⟩)
  obtain ⟨g1,g2⟩ := hI
  by_cases hlt : s.2 < (d0.length : Int)
  ·rw [zt hlt,zc,aB (n := 2 * s.2) (by omega) (by omega)]
   refine bc (fun t=>SrtOk cmp d0 t.1 ∧ 0 ≤ t.2.1 ∧ t.2.2 = t.2.1 + 2 * s.2 ∧ t.2.1 ≤ d0.length) (fun t=>(d0.length + 2 * s.2 - t.2.2).toNat) (fun t=>SrtOk cmp d0 t.1 ∧ 0 ≤ t.2.1 ∧ t.2.1 ≤ d0.length) ⟨g1,by show (0 : Int) ≤ 0; omega,by show 2 * s.2 = 0 + 2 * s.2; omega,by show (0 : Int) ≤ d0.length; omega⟩ (fun t hI=>?_) (fun t hq=>?_)
   ·obtain ⟨k1,k2,k3,k4⟩ := hI
    by_cases hle : t.2.2 ≤ (d0.length : Int)
    ·rw [zt hle,zc,aB (n := t.2.1 + s.2) (by omega) (by omega)]
     obtain ⟨d'',e,hd''⟩ := fQ ((t.2.2 - t.2.1).toNat + 1) k1 (a := t.2.1) (m := t.2.1 + s.2) (b := t.2.2) k2 (by omega) (by omega) hle (by omega)
     rw [fo e,bPs,bd (by rw [hd''.len,k1.len]),bPs,aB (by omega) (by omega)]
     exact ⟨_,rfl,⟨hd'',by show 0 ≤ t.2.2; omega,by show t.2.2 + 2 * s.2 = t.2.2 + 2 * s.2; omega,hle⟩,by show ((d0.length : Int) + 2 * s.2 - (t.2.2 + 2 * s.2)).toNat < ((d0.length : Int) + 2 * s.2 - t.2.2).toNat; omega⟩
    ·rw [zf hle]
     exact ⟨_,rfl,k1,k2,k4⟩
   ·obtain ⟨k1,k2,k3⟩ := hq
    rw [aB (n := t.2.1 + s.2) (by omega) (by omega),aB (n := s.2 * 2) (by omega) (by omega)]
    by_cases hm : t.2.1 + s.2 < (d0.length : Int)
    ·rw [zt hm,zc]
     obtain ⟨d'',e,hd''⟩ := fQ ((d0.length - t.2.1).toNat + 1) k1 (a := t.2.1) (m := t.2.1 + s.2) (b := (d0.length : Int)) k2 (by omega) (by omega) (Int.le_refl _) (by omega)
     rw [fo e,bPs,bd (by rw [hd''.len,k1.len]),bPs]
     exact ⟨_,rfl,⟨hd'',by show 20 ≤ s.2 * 2; omega⟩,by show ((d0.length : Int) - s.2 * 2).toNat < ((d0.length : Int) - s.2).toNat; omega⟩
    ·rw [zf hm,zd]
     exact ⟨_,rfl,⟨k1,by show 20 ≤ s.2 * 2; omega⟩,by show ((d0.length : Int) - s.2 * 2).toNat < ((d0.length : Int) - s.2).toNat; omega⟩
  ·rw [zf hlt]
   exact ⟨_,rfl,g1⟩
theorem sortStable_ok {d : Rows} (hs : d.length ≤ 1000000) (ht : ∀ x ∈ d,∀ y ∈ d,Tot (cmp x y)) : ∃ d',aw d cmp = some d' ∧ d'.Perm d := by
 unfold aw
 obtain ⟨d',e,hd'⟩ := stable_ok (cmp := cmp) (d0 := d) (d := d) ⟨List.Perm.refl _,hs,ht⟩
 rw [e,bPs,bd hd'.len,bPs]
 exact ⟨d',rfl,hd'.perm⟩
end
end
end Go.Proofs.YtnnieenoapkefaaGreatDoor

namespace Go.Proofs.YtnnieenoapkefaaGreatDoor
noncomputable section
open Go Go.Ab
open Go.Sort (swp insInner insOuter insertionSort size_swp SWO PermIn SortedIn permIn_refl permIn_trans permIn_mono permIn_all swp_permIn swp_get)
section
variable {α : Type} [Inhabited α] {v : α → Rq} {lt : α → α → Bool} {cmp : Cmp}
def rp (v : α → Rq) (A : Array α) : Rows := A.toList.map v
structure CmpIs (v : α → Rq) (lt : α → α → Bool) (cmp : Cmp) : Prop where
 is : ∀ x y,∃ c,cmp (v x) (v y) = some c ∧ decide (c < 0) = lt x y
theorem ex_eq {β : Type} {o : Option β} {x : β} (h : ∃ r,o = some r ∧ r = x) : o = some x := by
 obtain ⟨r,h1,rfl⟩ := h
 exact h1
theorem bH {z : Int} {n : Nat} (h : z = n := by omega) (hn : n ≤ 1000000000 := by omega) : IntKind.i64.wrap z = (n : Int) := by rw [h]; exact aB (by omega) (by omega)
omit [Inhabited α] in
theorem ct (A : Array α) : (rp v A).length = A.size := by simp [rp]
theorem ez {A : Array α} {n : Nat} (h : n < A.size) : aL (rp v A) (n : Int) = some (v A[n]!) := by
 rw [ip (by rw [ct]; exact h)]
 simp [rp,getElem!_pos A n h]
omit [Inhabited α] in
theorem rp_set (A : Array α) (n : Nat) (x : α) : (rp v A).set n (v x) = rp v (A.setIfInBounds n x) := by simp [rp]
theorem jD {β : Type} {A : Array α} {i j : Nat} (hi : i < A.size) (hj : j < A.size) (k : Rows → Option β) :
  (ac (aL (rp v A) (j : Int)) fun (x : Rq)=>ac (aL (rp v A) (i : Int)) fun (y : Rq)=>ac (aL (rp v A) (i : Int)) fun (_ : Rq)=>cp ((rp v A).set ((i : Int)).toNat x) fun (z : Rows)=>ac (aL z (j : Int)) fun (_ : Rq)=>cp (z.set ((j : Int)).toNat y) fun (w : Rows)=>k w) = k (rp v (swp A i j)) := by
 rw [ez hj,ez hi]
 simp only [bPs,bU,Int.toNat_natCast]
 rw [rp_set,ez (A := A.setIfInBounds i A[j]!) (by simpa using hj),bPs,rp_set]
 rfl
theorem gm (a : Nat) : ∀ (j : Nat) (D : Array α),(insInner lt a j D).size = D.size
 | 0,D=>rfl
 | j + 1,D=>by
  rw [insInner]
  split
  ·rw [gm a j,size_swp]
  ·rfl
theorem ins_sim (hC : CmpIs v lt cmp) {A : Array α} {a b : Nat} (hs : A.size ≤ 1000000) (ha : a ≤ A.size) (hb : b ≤ A.size) : aI (rp v A) (a : Int) (b : Int) cmp = some (rp v (insertionSort lt A a b)) := by
 unfold aI
 rw [bH (z := (a : Int) + 1) (n := a + 1)]
 refine ex_eq (bc (fun s=>∃ (D : Array α) (i : Nat),s = (rp v D,(i : Int)) ∧ D.size = A.size ∧ a < i ∧ insOuter lt a b i D = insertionSort lt A a b) (fun s=>((b : Int) - s.2).toNat) (fun s=>s.1 = rp v (insertionSort lt A a b)) ⟨A,a + 1,rfl,rfl,by omega,rfl⟩ (fun s hI=>?_) (fun s hq=>⟨_,rfl,hq⟩))
 obtain ⟨D,i,rfl,hD,hai,hO⟩ := hI
 dsimp only
 rw [insOuter] at hO
 by_cases hlt : i < b
 ·rw [zt (show (i : Int) < (b : Int) from by omega),zc]
  rw [zp hlt] at hO
  refine bc (fun t=>∃ (E : Array α) (j : Nat),t = (rp v E,(j : Int)) ∧ E.size = A.size ∧ j < b ∧ a ≤ j ∧ insInner lt a j E = insInner lt a i D) (fun t=>t.2.toNat) (fun t=>t.1 = rp v (insInner lt a i D)) ⟨D,i,rfl,hD,hlt,by omega,rfl⟩ (fun t hI=>?_) (fun t hq=>⟨_,rfl,?_⟩)
  ·obtain ⟨E,j,rfl,hE,hjb,haj,hO2⟩ := hI
   dsimp only
   by_cases hgt : a < j
   ·obtain ⟨k,rfl⟩ : ∃ k,j = k + 1 := ⟨j - 1,by omega⟩
    rw [zt (show ((k + 1 : Nat) : Int) > (a : Int) from by omega),zc,bH (z := ((k + 1 : Nat) : Int) - 1) (n := k)]
    obtain ⟨c,hc,hl⟩ := hC.is E[k + 1]! E[k]!
    rw [insInner] at hO2
    have hsw := jD (v := v) (A := E) (i := k + 1) (j := k) (β := Flow (Rows × Int) Empty) (by omega) (by omega) (fun y=>some (.next (y,(k : Int))))
    rw [ez (by omega),bPs,ez (by omega),bPs,hc,bPs,bPs,hl]
    cases hx : lt E[k + 1]! E[k]! with
    | true =>
     rw [hx] at hO2
     dsimp only
     rw [zc]
     refine ⟨_,hsw,⟨swp E (k + 1) k,k,rfl,by rw [size_swp]; exact hE,by omega,by omega,?_⟩,by show ((k : Int)).toNat < (((k + 1 : Nat) : Int)).toNat; omega⟩
     rw [← hO2,zp (by simp; omega)]
    | false =>
     rw [hx] at hO2
     refine ⟨_,rfl,?_⟩
     show rp v E = rp v _
     rw [← hO2,zy (by simp)]
   ·rw [zf (show ¬ (j : Int) > (a : Int) from by omega),zd]
    refine ⟨_,rfl,?_⟩
    show rp v E = rp v _
    rw [← hO2]
    cases j with
    | zero=>rfl
    | succ k=>rw [insInner,zy (by simp; omega)]
  ·have e := bH (z := (i : Int) + 1) (n := i + 1)
   show (∃ (D : Array α) (j : Nat),(t.1,IntKind.i64.wrap ((i : Int) + 1)) = (rp v D,(j : Int)) ∧ _) ∧ ((b : Int) - IntKind.i64.wrap ((i : Int) + 1)).toNat < ((b : Int) - (i : Int)).toNat
   rw [e]
   exact ⟨⟨insInner lt a i D,i + 1,by rw [hq],by rw [gm]; exact hD,by omega,hO⟩,by omega⟩
 ·rw [zf (show ¬ (i : Int) < (b : Int) from by omega),zd]
  rw [zy hlt] at hO
  exact ⟨_,rfl,by show rp v D = _; rw [hO]⟩
theorem bind_ex {β γ : Type} {o : Option β} {k : β → Option γ} {R : γ → Prop} {P : β → Prop} (h : ∃ t,o = some t ∧ P t) (hk : ∀ t,P t → ∃ r,k t = some r ∧ R r) : ∃ r,ac o k = some r ∧ R r := by
 obtain ⟨t,rfl,ht⟩ := h
 exact hk t ht
variable {ix : α → Nat} {klt : α → α → Bool}
theorem iX (h : ∀ x y,ix y < ix x → klt x y = lt x y) (a : Nat) : ∀ (j : Nat) (D : Array α),j < D.size → (∀ k,a ≤ k → k < j → ix D[k]! < ix D[j]!) → insInner klt a j D = insInner lt a j D
 | 0,D,_,_=>rfl
 | j + 1,D,hj,hk=>by
  rw [insInner,insInner]
  by_cases hc : j + 1 > a
  ·rw [h _ _ (hk j (by omega) (by omega))]
   split
   ·refine iX h a j _ (by rw [size_swp]; omega) fun k h1 h2=>?_
    rw [swp_get D (by omega) (by omega),swp_get D (by omega) (by omega),zy (by omega),zy (by omega),zp rfl]
    exact hk k h1 (by omega)
   ·rfl
  ·rw [zf hc]
   rfl
theorem jX (a : Nat) : ∀ (j : Nat) (D : Array α),j < D.size → (∀ k,j < k → (insInner lt a j D)[k]! = D[k]!) ∧ ∀ p,a ≤ p → p ≤ j → ∃ p',a ≤ p' ∧ p' ≤ j ∧ (insInner lt a j D)[p]! = D[p']!
 | 0,D,_=>⟨fun _ _=>rfl,fun p h1 h2=>⟨p,h1,h2,rfl⟩⟩
 | j + 1,D,hj=>by
  rw [insInner]
  split
  ·rename_i hc
   simp only [Bool.and_eq_true,decide_eq_true_eq] at hc
   obtain ⟨i1,i2⟩ := jX a j (swp D (j + 1) j) (by rw [size_swp]; omega)
   refine ⟨fun k hk=>?_,fun p h1 h2=>?_⟩
   ·rw [i1 k (by omega),swp_get D (by omega) (by omega),zy (by omega),zy (by omega)]
   ·by_cases hp : p = j + 1
    ·subst hp
     exact ⟨j,by omega,by omega,by rw [i1 (j + 1) (by omega),swp_get D (by omega) (by omega),zy (by omega),zp rfl]⟩
    ·obtain ⟨p',h3,h4,h5⟩ := i2 p h1 (by omega)
     rw [h5,swp_get D (by omega) (by omega)]
     by_cases hq : p' = j
     ·exact ⟨j + 1,by omega,by omega,by rw [zp hq]⟩
     ·exact ⟨p',h3,by omega,by rw [zy hq,zy (by omega)]⟩
  ·exact ⟨fun _ _=>rfl,fun p h1 h2=>⟨p,h1,h2,rfl⟩⟩
theorem ja (h : ∀ x y,ix y < ix x → klt x y = lt x y) (a b : Nat) : ∀ (n i : Nat) (D : Array α),b - i ≤ n → a < i → b ≤ D.size → (∀ p q,a ≤ p → p < q → i ≤ q → q < b → ix D[p]! < ix D[q]!) → insOuter klt a b i D = insOuter lt a b i D
 | n,i,D,hn,hi,hb,hk=>by
  by_cases hc : i < b
  ·rw [show insOuter klt a b i D = insOuter klt a b (i + 1) (insInner klt a i D) from by rw [insOuter,zp hc],show insOuter lt a b i D = insOuter lt a b (i + 1) (insInner lt a i D) from by rw [insOuter,zp hc],iX h a i D (by omega) fun k h1 h2=>hk k i h1 h2 (Nat.le_refl _) hc]
   obtain ⟨n,rfl⟩ : ∃ n',n = n' + 1 := ⟨n - 1,by omega⟩
   obtain ⟨i1,i2⟩ := jX (lt := lt) a i D (by omega)
   refine ja h a b n (i + 1) _ (by omega) (by omega) (by rw [gm]; exact hb) fun p q h1 h2 h3 h4=>?_
   rw [i1 q (by omega)]
   by_cases hp : p ≤ i
   ·obtain ⟨p',h5,h6,h7⟩ := i2 p h1 hp
    rw [h7]
    exact hk p' q h5 (by omega) (by omega) h4
   ·rw [i1 p (by omega)]
    exact hk p q h1 h2 (by omega) h4
  ·rw [show insOuter klt a b i D = D from by rw [insOuter,zy hc],show insOuter lt a b i D = D from by rw [insOuter,zy hc]]
theorem im (h : ∀ x y,ix y < ix x → klt x y = lt x y) {a b : Nat} {D : Array α} (hb : b ≤ D.size) (hk : ∀ p q,a ≤ p → p < q → q < b → ix D[p]! < ix D[q]!) : insertionSort klt D a b = insertionSort lt D a b :=
 ja h a b (b - (a + 1)) (a + 1) D (Nat.le_refl _) (Nat.lt_succ_self a) hb fun p q h1 h2 _ h4=>hk p q h1 h2 h4
structure CmpG (v : α → Rq) (ix : α → Nat) (lt : α → α → Bool) (cmp : Cmp) : Prop where
 is : ∀ x y,ix y < ix x → ∃ c,cmp (v x) (v y) = some c ∧ decide (c < 0) = lt x y
end
section
variable {α : Type} [Inhabited α] {v : α → Rq} {lt : α → α → Bool} {cmp : Cmp}
def swR (D : Array α) (a b n k : Nat) : α := if a ≤ k ∧ k < a + n then D[k - a + b]! else if b ≤ k ∧ k < b + n then D[k - b + a]! else D[k]!
def roT (D : Array α) (s m e k : Nat) : α := if s ≤ k ∧ k < s + (e - m) then D[k + (m - s)]! else if s + (e - m) ≤ k ∧ k < e then D[k - (e - m)]! else D[k]!
theorem gk {A : Array α} {lo a b n : Nat} (hs : A.size ≤ 1000000) (hl : lo ≤ a) (hab : a + n ≤ b) (hb : b + n ≤ A.size) : ∃ r,aJ (rp v A) (a : Int) (b : Int) (n : Int) cmp = some r ∧ ∃ A',r = rp v A' ∧ PermIn lo (b + n) A A' ∧ ∀ k,A'[k]! = swR A a b n k := by
 unfold aJ
 refine bc (fun s=>∃ (D : Array α) (i : Nat),s = (rp v D,(i : Int)) ∧ i ≤ n ∧ PermIn lo (b + n) A D ∧ ∀ k,D[k]! = swR A a b i k) (fun s=>((n : Int) - s.2).toNat) (fun s=>∃ D : Array α,s.1 = rp v D ∧ PermIn lo (b + n) A D ∧ ∀ k,D[k]! = swR A a b n k) ⟨A,0,rfl,by omega,permIn_refl _ _ _,fun k=>by unfold swR; rw [zy (by omega),zy (by omega)]⟩ (fun s hI=>?_) (fun s hq=>?_)
 ·obtain ⟨D,i,rfl,hi,hP,hk⟩ := hI
  have hD := hP.1
  dsimp only
  by_cases hlt : i < n
  ·rw [zt (by omega),zc,bH (z := (b : Int) + (i : Int)) (n := b + i),bH (z := (a : Int) + (i : Int)) (n := a + i),bH (z := (i : Int) + 1) (n := i + 1),jD (by omega) (by omega)]
   refine ⟨_,rfl,⟨swp D (a + i) (b + i),i + 1,rfl,by omega,permIn_trans _ _ _ _ _ hP (swp_permIn D lo (b + n) (a + i) (b + i) (by omega) (by omega) (by omega) (by omega) (by omega)),fun k=>?_⟩,by show ((n : Int) - ((i + 1 : Nat) : Int)).toNat < ((n : Int) - (i : Int)).toNat; omega⟩
   rw [swp_get D (by omega) (by omega),hk,hk,hk]
   unfold swR
   by_cases h1 : k = b + i
   ·subst h1
    rw [zp rfl,zy (by omega),zy (by omega),zy (by omega),zp (by omega)]
    congr 1; omega
   ·rw [zy h1]
    by_cases h2 : k = a + i
    ·subst h2
     rw [zp rfl,zy (by omega),zy (by omega),zp (by omega)]
     congr 1; omega
    ·rw [zy h2]
     by_cases h3 : a ≤ k ∧ k < a + i
     ·rw [zp h3,zp (by omega)]
     ·by_cases h4 : b ≤ k ∧ k < b + i
      ·rw [zy h3,zp h4,zy (by omega),zp (by omega)]
      ·rw [zy h3,zy h4,zy (by omega),zy (by omega)]
  ·rw [zf (by omega),zd]
   have : i = n := by omega
   subst this
   exact ⟨_,rfl,D,rfl,hP,hk⟩
 ·obtain ⟨D,h1,h2,h3⟩ := hq
  exact ⟨_,rfl,D,h1,h2,h3⟩
theorem rotate_sim {A : Array α} {s m e : Nat} (hs : A.size ≤ 1000000) (h1 : s < m) (h2 : m < e) (h3 : e ≤ A.size) : ∃ r,aZ (rp v A) (s : Int) (m : Int) (e : Int) cmp = some r ∧ ∃ A',r = rp v A' ∧ PermIn s e A A' ∧ ∀ k,A'[k]! = roT A s m e k := by
 unfold aZ
 rw [bH (z := (m : Int) - (s : Int)) (n := m - s),bH (z := (e : Int) - (m : Int)) (n := e - m)]
 refine bc (fun t=>∃ (D : Array α) (i j : Nat),t = (rp v D,(i : Int),(j : Int)) ∧ 0 < i ∧ 0 < j ∧ s + i ≤ m ∧ m + j ≤ e ∧ PermIn s e A D ∧ ∀ k,roT D (m - i) m (m + j) k = roT A s m e k) (fun t=>(t.2.1 + t.2.2).toNat) (fun t=>∃ (D : Array α) (i : Nat),t.1 = rp v D ∧ t.2.1 = (i : Int) ∧ 0 < i ∧ s + i ≤ m ∧ m + i ≤ e ∧ PermIn s e A D ∧ ∀ k,roT D (m - i) m (m + i) k = roT A s m e k) ⟨A,m - s,e - m,rfl,by omega,by omega,by omega,by omega,permIn_refl _ _ _,fun k=>by rw [show m - (m - s) = s from by omega,show m + (e - m) = e from by omega]⟩ (fun t hI=>?_) (fun t hq=>?_)
 ·obtain ⟨D,i,j,rfl,hi,hj,hsi,hje,hP,hk⟩ := hI
  have hD := hP.1
  dsimp only
  by_cases hne : i = j
  ·subst hne
   rw [bneF rfl,zd]
   exact ⟨_,rfl,D,i,rfl,rfl,hi,hsi,hje,hP,hk⟩
  ·rw [bneT (show ¬ (i : Int) = (j : Int) from by omega),zc,bH (z := (m : Int) - (i : Int)) (n := m - i)]
   by_cases hgt : i > j
   ·rw [zt (by omega),zc]
    obtain ⟨r,e1,D',rfl,hP',hk'⟩ := gk (v := v) (cmp := cmp) (A := D) (lo := m - i) (a := m - i) (b := m) (n := j) (by omega) (by omega) (by omega) (by omega)
    have hD' := hP'.1
    rw [e1,bPs,bd (by rw [ct,ct,hD']),bPs,bH (z := (i : Int) - (j : Int)) (n := i - j)]
    refine ⟨_,rfl,⟨D',i - j,j,rfl,by omega,hj,by omega,hje,permIn_trans _ _ _ _ _ hP (permIn_mono _ _ _ _ _ _ (by omega) (by omega) (by omega) hP'),fun k=>?_⟩,by show (((i - j : Nat) : Int) + (j : Int)).toNat < ((i : Int) + (j : Int)).toNat; omega⟩
    rw [← hk k]
    unfold roT
    rw [hk',hk',hk']
    unfold swR
    by_cases c1 : m - i ≤ k ∧ k < m - i + j
    ·rw [zy (by omega),zy (by omega),zp c1,zp (by omega)]
     congr 1; omega
    ·by_cases c2 : m - i + j ≤ k ∧ k < m - i + j + j
     ·rw [zp (by omega),zy (by omega),zp (by omega),zy (by omega),zp (by omega)]
      congr 1; omega
     ·by_cases c3 : m - i + j + j ≤ k ∧ k < m + j
      ·rw [zy (by omega),zp (by omega),zy (by omega),zy (by omega),zy (by omega),zp (by omega)]
      ·rw [zy (by omega),zy (by omega),zy (by omega),zy (by omega),zy (by omega),zy (by omega)]
   ·rw [zf (by omega),zd,bH (z := (m : Int) + (j : Int)) (n := m + j),bH (z := ((m + j : Nat) : Int) - (i : Int)) (n := m + j - i)]
    obtain ⟨r,e1,D',rfl,hP',hk'⟩ := gk (v := v) (cmp := cmp) (A := D) (lo := m - i) (a := m - i) (b := m + j - i) (n := i) (by omega) (by omega) (by omega) (by omega)
    have hD' := hP'.1
    rw [e1,bPs,bd (by rw [ct,ct,hD']),bPs,bH (z := (j : Int) - (i : Int)) (n := j - i)]
    refine ⟨_,rfl,⟨D',i,j - i,rfl,hi,by omega,hsi,by omega,permIn_trans _ _ _ _ _ hP (permIn_mono _ _ _ _ _ _ (by omega) (by omega) (by omega) hP'),fun k=>?_⟩,by show ((i : Int) + ((j - i : Nat) : Int)).toNat < ((i : Int) + (j : Int)).toNat; omega⟩
    rw [← hk k]
    unfold roT
    rw [hk',hk',hk']
    unfold swR
    by_cases c1 : m - i ≤ k ∧ k < m - i + (j - i)
    ·rw [zp (by omega),zy (by omega),zy (by omega),zp (by omega)]
    ·by_cases c2 : m - i + (j - i) ≤ k ∧ k < m + (j - i)
     ·rw [zy (by omega),zp (by omega),zp (by omega),zp (by omega)]
      congr 1; omega
     ·by_cases c3 : m + (j - i) ≤ k ∧ k < m + j
      ·rw [zy (by omega),zy (by omega),zy (by omega),zp (by omega),zy (by omega),zp (by omega)]
       congr 1; omega
      ·rw [zy (by omega),zy (by omega),zy (by omega),zy (by omega),zy (by omega),zy (by omega)]
 ·obtain ⟨D,i,q1,q2,hi,hsi,hie,hP,hk⟩ := hq
  have hD := hP.1
  rw [q1,q2,bH (z := (m : Int) - (i : Int)) (n := m - i)]
  obtain ⟨r,e1,D',rfl,hP',hk'⟩ := gk (v := v) (cmp := cmp) (A := D) (lo := m - i) (a := m - i) (b := m) (n := i) (by omega) (by omega) (by omega) (by omega)
  have hD' := hP'.1
  rw [e1,bPs,bd (by rw [ct,ct,hD']),bPs]
  refine ⟨_,rfl,D',rfl,permIn_trans _ _ _ _ _ hP (permIn_mono _ _ _ _ _ _ (by omega) (by omega) (by omega) hP'),fun k=>?_⟩
  rw [← hk k,hk']
  unfold roT swR
  by_cases c1 : m - i ≤ k ∧ k < m - i + i
  ·rw [zp c1,zp (by omega)]
   congr 1; omega
  ·by_cases c2 : m ≤ k ∧ k < m + i
   ·rw [zy c1,zp c2,zy (by omega),zp (by omega)]
    congr 1; omega
   ·rw [zy c1,zy c2,zy (by omega),zy (by omega)]
omit [Inhabited α] in
theorem gV (hS : SWO lt) {x y z : α} (h1 : lt y x = false) (h2 : lt z y = false) : lt z x = false := hS.ntrans z y x h2 h1
omit [Inhabited α] in
theorem lt_le (hS : SWO lt) {x y : α} (h : lt x y = true) : lt y x = false := Go.Sort.SWO.asymmA hS h
theorem SortedIn.le (hS : SWO lt) {a b : Nat} {A : Array α} (h : SortedIn lt a b A) {i j : Nat} (hi : a ≤ i) (hij : i ≤ j) (hj : j < b) : lt A[j]! A[i]! = false := by
 rcases Nat.lt_or_ge i j with h1 | h1
 ·exact h i j hi h1 hj
 ·have : i = j := by omega
  subst this
  exact hS.irrefl _
theorem SortedIn.same {a b : Nat} {A B : Array α} (h : SortedIn lt a b A) (he : ∀ k,a ≤ k → k < b → B[k]! = A[k]!) : SortedIn lt a b B := fun i j hi hij hj=>by
 rw [he i hi (by omega),he j (by omega) hj]
 exact h i j hi hij hj
theorem sorted_two {a m b : Nat} {C : Array α} (h1 : SortedIn lt a m C) (h2 : SortedIn lt m b C) (h : ∀ x y,a ≤ x → x < m → m ≤ y → y < b → lt C[y]! C[x]! = false) : SortedIn lt a b C := fun i j hi hij hj=>by
 by_cases hjm : j < m
 ·exact h1 i j hi hij hjm
 ·by_cases him : i < m
  ·exact h i j hi him (by omega) hj
  ·exact h2 i j (by omega) hij hj
theorem up_one (hS : SWO lt) {A D : Array α} {a b i : Nat} (hi : a < i) (hib : i ≤ b) (h : SortedIn lt (a + 1) b A) (h1 : ∀ k,a < k → k < i → lt A[k]! A[a]! = true) (h2 : ∀ k,i ≤ k → k < b → lt A[k]! A[a]! = false)
  (hD : ∀ k,D[k]! = if a ≤ k ∧ k < i - 1 then A[k + 1]! else if k = i - 1 then A[a]! else A[k]!) : SortedIn lt a b D := fun x y hx hxy hy=>by
 rw [hD x,hD y]
 by_cases c1 : y < i - 1
 ·rw [zp ⟨by omega,c1⟩,zp ⟨hx,by omega⟩]
  exact h (x + 1) (y + 1) (by omega) (by omega) (by omega)
 ·rw [zy (by omega : ¬ (a ≤ y ∧ y < i - 1))]
  by_cases c2 : y = i - 1
  ·rw [zp c2,zp ⟨hx,by omega⟩]
   exact lt_le hS (h1 (x + 1) (by omega) (by omega))
  ·rw [zy c2]
   by_cases c3 : x < i - 1
   ·rw [zp ⟨hx,c3⟩]
    exact h (x + 1) y (by omega) (by omega) hy
   ·rw [zy (by omega : ¬ (a ≤ x ∧ x < i - 1))]
    by_cases c4 : x = i - 1
    ·rw [zp c4]
     exact h2 y (by omega) hy
    ·rw [zy c4]
     exact h x y (by omega) hxy hy
theorem down_one (hS : SWO lt) {A D : Array α} {a m i : Nat} (hai : a ≤ i) (him : i ≤ m) (h : SortedIn lt a m A) (h1 : ∀ k,a ≤ k → k < i → lt A[m]! A[k]! = false) (h2 : ∀ k,i ≤ k → k < m → lt A[m]! A[k]! = true)
  (hD : ∀ k,D[k]! = if i < k ∧ k ≤ m then A[k - 1]! else if k = i then A[m]! else A[k]!) : SortedIn lt a (m + 1) D := fun x y hx hxy hy=>by
 rw [hD x,hD y]
 by_cases c1 : i < x
 ·rw [zp ⟨by omega,by omega⟩,zp ⟨by omega,by omega⟩]
  exact h (x - 1) (y - 1) (by omega) (by omega) (by omega)
 ·rw [zy (by omega : ¬ (i < x ∧ x ≤ m))]
  by_cases c2 : x = i
  ·rw [zp c2,zp ⟨by omega,by omega⟩]
   exact lt_le hS (h2 (y - 1) (by omega) (by omega))
  ·rw [zy c2]
   by_cases c3 : i < y
   ·rw [zp ⟨c3,by omega⟩]
    exact SortedIn.le hS h hx (by omega) (by omega)
   ·rw [zy (by omega : ¬ (i < y ∧ y ≤ m))]
    by_cases c4 : y = i
    ·rw [zp c4]
     exact h1 x hx (by omega)
    ·rw [zy c4]
     exact h x y hx hxy (by omega)
theorem turned (hS : SWO lt) {A B : Array α} {a m b mid s lo hi : Nat} (h1 : SortedIn lt a m A) (h2 : SortedIn lt m b A) (ha : a ≤ lo) (hlo : lo ≤ s) (hsh : s ≤ hi) (hhm : hi ≤ m) (hhi : hi ≤ mid) (hb : mid + m - s ≤ b) (hmb : mid ≤ b)
  (hlo' : lo = a ∨ lo + b = mid + m) (hhi' : hi = m ∨ hi = mid)
  (c1 : s = lo ∨ lt A[mid + m - s]! A[s - 1]! = false) (c2 : s = hi ∨ lt A[mid + m - s - 1]! A[s]! = true) (hB : ∀ k,B[k]! = roT A s m (mid + m - s) k) :
  SortedIn lt a s B ∧ SortedIn lt s mid B ∧ SortedIn lt mid (mid + m - s) B ∧ SortedIn lt (mid + m - s) b B ∧ ∀ x y,a ≤ x → x < mid → mid ≤ y → y < b → lt B[y]! B[x]! = false := by
 have e : mid + m - s - m = mid - s := by omega
 have b1 : ∀ k,k < s → B[k]! = A[k]! := fun k hk=>by rw [hB]; unfold roT; rw [zy (by omega),zy (by omega)]
 have b2 : ∀ k,s ≤ k → k < mid → B[k]! = A[k + (m - s)]! := fun k h1 h2=>by rw [hB]; unfold roT; rw [zp (by omega)]
 have b3 : ∀ k,mid ≤ k → k < mid + m - s → B[k]! = A[k - (mid - s)]! := fun k h1 h2=>by rw [hB]; unfold roT; rw [zy (by omega),zp (by omega),e]
 have b4 : ∀ k,mid + m - s ≤ k → B[k]! = A[k]! := fun k hk=>by rw [hB]; unfold roT; rw [zy (by omega),zy (by omega)]
 refine ⟨fun i j hi hij hj=>?_,fun i j hi hij hj=>?_,fun i j hi hij hj=>?_,fun i j hi hij hj=>?_,fun x y hx hxm hy hyb=>?_⟩
 ·rw [b1 i (by omega),b1 j hj]; exact h1 i j hi hij (by omega)
 ·rw [b2 i hi (by omega),b2 j (by omega) hj]; exact h2 _ _ (by omega) (by omega) (by omega)
 ·rw [b3 i hi (by omega),b3 j (by omega) hj]; exact h1 _ _ (by omega) (by omega) (by omega)
 ·rw [b4 i hi,b4 j (by omega)]; exact h2 _ _ (by omega) hij hj
 ·by_cases xs : x < s
  ·rw [b1 x xs]
   by_cases ye : y < mid + m - s
   ·rw [b3 y hy ye]; exact h1 _ _ hx (by omega) (by omega)
   ·rw [b4 y (by omega)]
    rcases c1 with c1 | c1
    ·omega
    ·exact gV hS (gV hS (SortedIn.le hS h1 hx (by omega : x ≤ s - 1) (by omega)) c1) (SortedIn.le hS h2 (by omega) (by omega : mid + m - s ≤ y) hyb)
  ·rw [b2 x (by omega) hxm]
   by_cases ye : y < mid + m - s
   ·rw [b3 y hy ye]
    rcases c2 with c2 | c2
    ·omega
    ·exact gV hS (gV hS (SortedIn.le hS h2 (by omega) (by omega : x + (m - s) ≤ mid + m - s - 1) (by omega)) (lt_le hS c2)) (SortedIn.le hS h1 (by omega) (by omega : s ≤ y - (mid - s)) (by omega))
   ·rw [b4 y (by omega)]
    exact SortedIn.le hS h2 (by omega) (by omega) hyb
end
section
variable {α : Type} [Inhabited α] {v : α → Rq} {lt : α → α → Bool} {cmp : Cmp}
theorem midN {i j : Nat} (h : i + j ≤ 1000000000) : IntKind.i64.wrap (Int.fdiv (IntKind.u64.wrap (IntKind.i64.wrap ((i : Int) + (j : Int)))) (2 ^ 1)) = (((i + j) / 2 : Nat) : Int) := by
 rw [show (i : Int) + (j : Int) = ((i + j : Nat) : Int) from by omega,mid_eq (by omega) (by omega)]
 omega
variable {ix : α → Nat}
theorem turned_ix {A B : Array α} {a m b mid s : Nat} (hT : ∀ p q,a ≤ p → p < m → m ≤ q → q < b → ix A[p]! < ix A[q]!) (hs : s ≤ m) (hsm : s ≤ mid) (hb : mid + m - s ≤ b) (hB : ∀ k,B[k]! = roT A s m (mid + m - s) k) :
  (∀ p q,a ≤ p → p < s → s ≤ q → q < mid → ix B[p]! < ix B[q]!) ∧ ∀ p q,a ≤ s → mid ≤ p → p < mid + m - s → mid + m - s ≤ q → q < b → ix B[p]! < ix B[q]! := by
 have e : mid + m - s - m = mid - s := by omega
 have b1 : ∀ k,k < s → B[k]! = A[k]! := fun k hk=>by rw [hB]; unfold roT; rw [zy (by omega),zy (by omega)]
 have b2 : ∀ k,s ≤ k → k < mid → B[k]! = A[k + (m - s)]! := fun k h1 h2=>by rw [hB]; unfold roT; rw [zp (by omega)]
 have b3 : ∀ k,mid ≤ k → k < mid + m - s → B[k]! = A[k - (mid - s)]! := fun k h1 h2=>by rw [hB]; unfold roT; rw [zy (by omega),zp (by omega),e]
 have b4 : ∀ k,mid + m - s ≤ k → B[k]! = A[k]! := fun k hk=>by rw [hB]; unfold roT; rw [zy (by omega),zy (by omega)]
 refine ⟨fun p q h1 h2 h3 h4=>?_,fun p q h0 h1 h2 h3 h4=>?_⟩
 ·rw [b1 p h2,b2 q h3 h4]
  exact hT _ _ h1 (by omega) (by omega) (by omega)
 ·rw [b3 p h1 h2,b4 q h3]
  exact hT _ _ (by omega) (by omega) (by omega) h4
theorem sym_ok (hC : CmpG v ix lt cmp) (hS : SWO lt) : ∀ (n : Nat) {A : Array α} {a m b : Nat},A.size ≤ 1000000 → a < m → m < b → b ≤ A.size → SortedIn lt a m A → SortedIn lt m b A → (∀ p q,a ≤ p → p < m → m ≤ q → q < b → ix A[p]! < ix A[q]!) → b - a < n →
  ∃ r,ao n (rp v A) (a : Int) (m : Int) (b : Int) cmp = some r ∧ ∃ A',r = rp v A' ∧ PermIn a b A A' ∧ SortedIn lt a b A'
 | 0,_,_,_,_,_,_,_,_,_,_,_,hn=>by omega
 | n + 1,A,a,m,b,hs,ham,hmb,hb,hL,hR,hT,hn=>by
  rw [ao]
  unfold aT
  rw [bH (z := (m : Int) - (a : Int)) (n := m - a),bH (z := (b : Int) - (m : Int)) (n := b - m)]
  by_cases h1 : m - a = 1
  ·rw [beqT (show ((m - a : Nat) : Int) = 1 from by omega),zc]
   have hm : m = a + 1 := by omega
   subst hm
   refine bc (fun s=>∃ i j : Nat,s = (rp v A,(i : Int),(j : Int)) ∧ a + 1 ≤ i ∧ i ≤ j ∧ j ≤ b ∧ (∀ k,a < k → k < i → lt A[k]! A[a]! = true) ∧ (∀ k,j ≤ k → k < b → lt A[k]! A[a]! = false)) (fun s=>(s.2.2 - s.2.1).toNat) (fun s=>∃ i : Nat,s.1 = rp v A ∧ s.2.1 = (i : Int) ∧ a + 1 ≤ i ∧ i ≤ b ∧ (∀ k,a < k → k < i → lt A[k]! A[a]! = true) ∧ (∀ k,i ≤ k → k < b → lt A[k]! A[a]! = false)) ⟨a + 1,b,rfl,Nat.le_refl _,by omega,Nat.le_refl _,fun k h1 h2=>by omega,fun k h1 h2=>by omega⟩ (fun s hI=>?_) (fun s hq=>?_)
   ·obtain ⟨i,j,rfl,hi,hij,hj,hlo,hhi⟩ := hI
    dsimp only
    by_cases hlt : i < j
    ·rw [zt (by omega),zc,midN (by omega)]
     generalize hh : (i + j) / 2 = h
     have hh1 : i ≤ h ∧ h < j := by omega
     clear hh
     obtain ⟨c,hc,hl⟩ := hC.is A[h]! A[a]! (hT a h (Nat.le_refl _) (by omega) (by omega) (by omega))
     rw [ez (by omega),bPs,ez (by omega),bPs,hc,bPs,hl]
     cases hx : lt A[h]! A[a]! with
     | true =>
      rw [zc,bH (z := (h : Int) + 1) (n := h + 1)]
      refine ⟨_,rfl,⟨h + 1,j,rfl,by omega,by omega,hj,fun k h1 h2=>?_,hhi⟩,by show ((j : Int) - ((h + 1 : Nat) : Int)).toNat < ((j : Int) - (i : Int)).toNat; omega⟩
      cases hy : lt A[k]! A[a]! with
      | true=>rfl
      | false=>rw [hS.ntrans _ _ _ (SortedIn.le hS hR (by omega) (by omega : k ≤ h) (by omega)) hy] at hx; cases hx
     | false =>
      rw [zd]
      refine ⟨_,rfl,⟨i,h,rfl,hi,by omega,by omega,hlo,fun k h1 h2=>?_⟩,by show ((h : Int) - (i : Int)).toNat < ((j : Int) - (i : Int)).toNat; omega⟩
      exact hS.ntrans _ _ _ (SortedIn.le hS hR (by omega) h1 h2) hx
    ·rw [zf (by omega),zd]
     have : i = j := by omega
     subst this
     exact ⟨_,rfl,i,rfl,rfl,hi,hj,hlo,hhi⟩
   ·obtain ⟨i,q1,q2,hi,hib,hlo,hhi⟩ := hq
    rw [q1,q2,bH (z := (i : Int) - 1) (n := i - 1)]
    refine bc (fun t=>∃ (D : Array α) (k : Nat),t = (rp v D,(k : Int)) ∧ a ≤ k ∧ k ≤ i - 1 ∧ PermIn a b A D ∧ ∀ x,D[x]! = if a ≤ x ∧ x < k then A[x + 1]! else if x = k then A[a]! else A[x]!) (fun t=>(((i - 1 : Nat) : Int) - t.2).toNat) (fun t=>∃ D : Array α,t.1 = rp v D ∧ PermIn a b A D ∧ ∀ x,D[x]! = if a ≤ x ∧ x < i - 1 then A[x + 1]! else if x = i - 1 then A[a]! else A[x]!) ⟨A,a,rfl,Nat.le_refl _,by omega,permIn_refl _ _ _,fun x=>by
     rw [zy (by omega)]
     split
     ·rename_i e; rw [e]
     ·rfl⟩ (fun t hI=>?_) (fun t hq=>?_)
    ·obtain ⟨D,k,rfl,hak,hk,hP,hx⟩ := hI
     have hD := hP.1
     dsimp only
     by_cases hlt : k < i - 1
     ·rw [zt (by omega),zc,bH (z := (k : Int) + 1) (n := k + 1),jD (by omega) (by omega)]
      refine ⟨_,rfl,⟨swp D k (k + 1),k + 1,rfl,by omega,by omega,permIn_trans _ _ _ _ _ hP (swp_permIn D a b k (k + 1) (by omega) (by omega) (by omega) (by omega) (by omega)),fun x=>?_⟩,by show (((i - 1 : Nat) : Int) - ((k + 1 : Nat) : Int)).toNat < (((i - 1 : Nat) : Int) - (k : Int)).toNat; omega⟩
      rw [swp_get D (by omega) (by omega),hx,hx,hx]
      by_cases c1 : x = k + 1
      ·subst c1
       rw [zp rfl,zy (by omega),zp rfl,zy (by omega),zp rfl]
      ·rw [zy c1]
       by_cases c2 : x = k
       ·subst c2
        rw [zp rfl,zy (by omega),zy (by omega),zp (by omega)]
       ·rw [zy c2]
        by_cases c3 : a ≤ x ∧ x < k
        ·rw [zp c3,zp (by omega)]
        ·rw [zy c3,zy c2,zy (by omega),zy c1]
     ·rw [zf (by omega),zd]
      have : k = i - 1 := by omega
      subst this
      exact ⟨_,rfl,D,rfl,hP,hx⟩
    ·obtain ⟨D,q1,hP,hx⟩ := hq
     exact ⟨_,rfl,D,q1,hP,up_one hS (by omega) hib hR hlo hhi hx⟩
  ·rw [beqF (show ¬ ((m - a : Nat) : Int) = 1 from by omega),zd]
   by_cases h2 : b - m = 1
   ·rw [beqT (show ((b - m : Nat) : Int) = 1 from by omega),zc]
    have hbm : b = m + 1 := by omega
    subst hbm
    refine bc (fun s=>∃ i j : Nat,s = (rp v A,(i : Int),(j : Int)) ∧ a ≤ i ∧ i ≤ j ∧ j ≤ m ∧ (∀ k,a ≤ k → k < i → lt A[m]! A[k]! = false) ∧ (∀ k,j ≤ k → k < m → lt A[m]! A[k]! = true)) (fun s=>(s.2.2 - s.2.1).toNat) (fun s=>∃ i : Nat,s.1 = rp v A ∧ s.2.1 = (i : Int) ∧ a ≤ i ∧ i ≤ m ∧ (∀ k,a ≤ k → k < i → lt A[m]! A[k]! = false) ∧ (∀ k,i ≤ k → k < m → lt A[m]! A[k]! = true)) ⟨a,m,rfl,Nat.le_refl _,by omega,Nat.le_refl _,fun k h1 h2=>by omega,fun k h1 h2=>by omega⟩ (fun s hI=>?_) (fun s hq=>?_)
    ·obtain ⟨i,j,rfl,hi,hij,hj,hlo,hhi⟩ := hI
     dsimp only
     by_cases hlt : i < j
     ·rw [zt (by omega),zc,midN (by omega)]
      generalize hh : (i + j) / 2 = h
      have hh1 : i ≤ h ∧ h < j := by omega
      clear hh
      obtain ⟨c,hc,hl⟩ := hC.is A[m]! A[h]! (hT h m (by omega) (by omega) (by omega) (by omega))
      rw [ez (by omega),bPs,ez (by omega),bPs,hc,bPs,hl]
      cases hx : lt A[m]! A[h]! with
      | true =>
       rw [Bool.not_true,zd]
       refine ⟨_,rfl,⟨i,h,rfl,hi,by omega,by omega,hlo,fun k h1 h2=>?_⟩,by show ((h : Int) - (i : Int)).toNat < ((j : Int) - (i : Int)).toNat; omega⟩
       cases hy : lt A[m]! A[k]! with
       | true=>rfl
       | false=>rw [hS.ntrans _ _ _ hy (SortedIn.le hS hL (by omega) h1 h2)] at hx; cases hx
      | false =>
       rw [Bool.not_false,zc,bH (z := (h : Int) + 1) (n := h + 1)]
       refine ⟨_,rfl,⟨h + 1,j,rfl,by omega,by omega,hj,fun k h1 h2=>?_,hhi⟩,by show ((j : Int) - ((h + 1 : Nat) : Int)).toNat < ((j : Int) - (i : Int)).toNat; omega⟩
       exact hS.ntrans _ _ _ hx (SortedIn.le hS hL h1 (by omega : k ≤ h) (by omega))
     ·rw [zf (by omega),zd]
      have : i = j := by omega
      subst this
      exact ⟨_,rfl,i,rfl,rfl,hi,hj,hlo,hhi⟩
    ·obtain ⟨i,q1,q2,hi,him,hlo,hhi⟩ := hq
     rw [q1,q2]
     refine bc (fun t=>∃ (D : Array α) (k : Nat),t = (rp v D,(k : Int)) ∧ i ≤ k ∧ k ≤ m ∧ PermIn a (m + 1) A D ∧ ∀ x,D[x]! = if k < x ∧ x ≤ m then A[x - 1]! else if x = k then A[m]! else A[x]!) (fun t=>(t.2 - (i : Int)).toNat) (fun t=>∃ D : Array α,t.1 = rp v D ∧ PermIn a (m + 1) A D ∧ ∀ x,D[x]! = if i < x ∧ x ≤ m then A[x - 1]! else if x = i then A[m]! else A[x]!) ⟨A,m,rfl,him,Nat.le_refl _,permIn_refl _ _ _,fun x=>by
      rw [zy (by omega)]
      split
      ·rename_i e; rw [e]
      ·rfl⟩ (fun t hI=>?_) (fun t hq=>?_)
     ·obtain ⟨D,k,rfl,hik,hk,hP,hx⟩ := hI
      have hD := hP.1
      dsimp only
      by_cases hlt : i < k
      ·rw [zt (by omega),zc,bH (z := (k : Int) - 1) (n := k - 1),jD (by omega) (by omega)]
       refine ⟨_,rfl,⟨swp D k (k - 1),k - 1,rfl,by omega,by omega,permIn_trans _ _ _ _ _ hP (swp_permIn D a (m + 1) k (k - 1) (by omega) (by omega) (by omega) (by omega) (by omega)),fun x=>?_⟩,by show (((k - 1 : Nat) : Int) - (i : Int)).toNat < ((k : Int) - (i : Int)).toNat; omega⟩
       rw [swp_get D (by omega) (by omega),hx,hx,hx]
       by_cases c1 : x = k - 1
       ·rw [zp c1,zy (by omega),zp rfl,zy (by omega),zp c1]
       ·rw [zy c1]
        by_cases c2 : x = k
        ·subst c2
         rw [zp rfl,zy (by omega),zy (by omega),zp (by omega)]
        ·rw [zy c2]
         by_cases c3 : k < x ∧ x ≤ m
         ·rw [zp c3,zp (by omega)]
         ·rw [zy c3,zy c2,zy (by omega),zy c1]
      ·rw [zf (by omega),zd]
       have : k = i := by omega
       subst this
       exact ⟨_,rfl,D,rfl,hP,hx⟩
     ·obtain ⟨D,q1,hP,hx⟩ := hq
      exact ⟨_,rfl,D,q1,hP,down_one hS hi him hL hlo hhi hx⟩
   ·rw [beqF (show ¬ ((b - m : Nat) : Int) = 1 from by omega),zd]
    simp only [bU]
    rw [midN (i := a) (j := b) (by omega)]
    generalize hmid : (a + b) / 2 = mid
    have hm2 : a < mid ∧ mid < b ∧ 2 * mid ≤ a + b ∧ a + b ≤ 2 * mid + 1 := by omega
    clear hmid
    rw [bH (z := (mid : Int) + (m : Int)) (n := mid + m),bH (z := ((mid + m : Nat) : Int) - 1) (n := mid + m - 1),aB (n := ((mid + m : Nat) : Int) - (b : Int)) (by omega) (by omega)]
    obtain ⟨lo,hi,e1,l1,l2,l3,l4,l5,l6,l7⟩ : ∃ lo hi : Nat,(cond (decide ((m : Int) > (mid : Int))) ((rp v A,((mid + m : Nat) : Int) - (b : Int),(mid : Int))) ((rp v A,(a : Int),(m : Int))) : Rows × Int × Int) = (rp v A,(lo : Int),(hi : Int)) ∧ a ≤ lo ∧ lo ≤ hi ∧ hi ≤ m ∧ hi ≤ mid ∧ mid + m ≤ lo + b ∧ (lo = a ∨ lo + b = mid + m) ∧ (hi = m ∨ hi = mid) := by
     by_cases hgt : m > mid
     ·exact ⟨mid + m - b,mid,by rw [zt (by omega),zc,show ((mid + m : Nat) : Int) - (b : Int) = ((mid + m - b : Nat) : Int) from by omega],by omega,by omega,by omega,by omega,by omega,by omega,by omega⟩
     ·exact ⟨a,m,by rw [zf (by omega),zd],by omega,by omega,by omega,by omega,by omega,by omega,by omega⟩
    rw [e1]
    clear e1
    refine bc (fun s=>∃ i j : Nat,s = (rp v A,(i : Int),(j : Int)) ∧ lo ≤ i ∧ i ≤ j ∧ j ≤ hi ∧ (i = lo ∨ lt A[mid + m - i]! A[i - 1]! = false) ∧ (j = hi ∨ lt A[mid + m - j - 1]! A[j]! = true)) (fun s=>(s.2.2 - s.2.1).toNat) (fun s=>∃ i : Nat,s.1 = rp v A ∧ s.2.1 = (i : Int) ∧ lo ≤ i ∧ i ≤ hi ∧ (i = lo ∨ lt A[mid + m - i]! A[i - 1]! = false) ∧ (i = hi ∨ lt A[mid + m - i - 1]! A[i]! = true)) ⟨lo,hi,rfl,Nat.le_refl _,l2,Nat.le_refl _,.inl rfl,.inl rfl⟩ (fun s hI=>?_) (fun s hq=>?_)
    ·obtain ⟨i,j,rfl,hi1,hij,hj,hlo,hhi⟩ := hI
     dsimp only
     by_cases hlt : i < j
     ·rw [zt (by omega),zc,midN (by omega)]
      generalize hh : (i + j) / 2 = h
      have hh1 : i ≤ h ∧ h < j := by omega
      clear hh
      rw [bH (z := ((mid + m - 1 : Nat) : Int) - (h : Int)) (n := mid + m - 1 - h)]
      obtain ⟨c,hc,hl⟩ := hC.is A[mid + m - 1 - h]! A[h]! (hT h (mid + m - 1 - h) (by omega) (by omega) (by omega) (by omega))
      rw [ez (by omega),bPs,ez (by omega),bPs,hc,bPs,hl]
      cases hx : lt A[mid + m - 1 - h]! A[h]! with
      | true =>
       rw [Bool.not_true,zd]
       exact ⟨_,rfl,⟨i,h,rfl,hi1,by omega,by omega,hlo,.inr (by rw [show mid + m - h - 1 = mid + m - 1 - h from by omega]; exact hx)⟩,by show ((h : Int) - (i : Int)).toNat < ((j : Int) - (i : Int)).toNat; omega⟩
      | false =>
       rw [Bool.not_false,zc,bH (z := (h : Int) + 1) (n := h + 1)]
       exact ⟨_,rfl,⟨h + 1,j,rfl,by omega,by omega,hj,.inr (by rw [show mid + m - (h + 1) = mid + m - 1 - h from by omega]; exact hx),hhi⟩,by show ((j : Int) - ((h + 1 : Nat) : Int)).toNat < ((j : Int) - (i : Int)).toNat; omega⟩
     ·rw [zf (by omega),zd]
      have : i = j := by omega
      subst this
      exact ⟨_,rfl,i,rfl,rfl,hi1,hj,hlo,hhi⟩
    ·obtain ⟨s,q1,q2,hs1,hs2,c1,c2⟩ := hq
     rw [q1,q2]
     clear q1 q2
     rw [bH (z := ((mid + m : Nat) : Int) - (s : Int)) (n := mid + m - s)]
     -- the rotation
     refine bind_ex (P := fun t=>∃ B,t = rp v B ∧ PermIn a b A B ∧ ∀ k,B[k]! = roT A s m (mid + m - s) k) ?_ (fun t ht=>?_)
     ·have stay : s = m ∨ m = mid + m - s → ∃ B,rp v A = rp v B ∧ PermIn a b A B ∧ ∀ k,B[k]! = roT A s m (mid + m - s) k := fun h=>⟨A,rfl,permIn_refl _ _ _,fun k=>by
       unfold roT
       by_cases d1 : s ≤ k ∧ k < s + (mid + m - s - m)
       ·rw [zp d1,show k + (m - s) = k from by omega]
       ·rw [zy d1]
        by_cases d2 : s + (mid + m - s - m) ≤ k ∧ k < mid + m - s
        ·rw [zp d2,show k - (mid + m - s - m) = k from by omega]
        ·rw [zy d2]⟩
      by_cases d1 : s < m
      ·rw [zt (show (s : Int) < (m : Int) from by omega),zc]
       dsimp only
       by_cases d2 : m < mid + m - s
       ·rw [zt (show (m : Int) < ((mid + m - s : Nat) : Int) from by omega),zc]
        obtain ⟨r,e,B,rfl,hP,hk⟩ := rotate_sim (v := v) (cmp := cmp) (A := A) (s := s) (m := m) (e := mid + m - s) hs d1 d2 (by omega)
        rw [e,bPs,bd (by rw [ct,ct,hP.1])]
        exact ⟨_,rfl,B,rfl,permIn_mono _ _ _ _ _ _ (by omega) (by omega) (by omega) hP,hk⟩
       ·rw [zf (show ¬ (m : Int) < ((mid + m - s : Nat) : Int) from by omega),zd]
        exact ⟨_,rfl,stay (by omega)⟩
      ·rw [zf (show ¬ (s : Int) < (m : Int) from by omega),zd]
       exact ⟨_,rfl,stay (by omega)⟩
     obtain ⟨B,rfl,hPB,hk⟩ := ht
     have hBs := hPB.1
     obtain ⟨t1,t2,t3,t4,t5⟩ := turned hS hL hR l1 hs1 hs2 l3 l4 (by omega) (by omega) l6 l7 c1 c2 hk
     obtain ⟨u1,u2⟩ := turned_ix hT (show s ≤ m by omega) (show s ≤ mid by omega) (show mid + m - s ≤ b by omega) hk
     -- the left part
     refine bind_ex (P := fun t=>∃ C,t = rp v C ∧ PermIn a mid B C ∧ SortedIn lt a mid C) ?_ (fun t ht=>?_)
     ·by_cases d1 : a < s
      ·rw [zt (show (a : Int) < (s : Int) from by omega),zc]
       dsimp only
       by_cases d2 : s < mid
       ·rw [zt (show (s : Int) < (mid : Int) from by omega),zc]
        obtain ⟨r,e,C,rfl,hP,hC'⟩ := sym_ok hC hS n (A := B) (a := a) (m := s) (b := mid) (by omega) d1 d2 (by omega) t1 t2 u1 (by omega)
        rw [e,bPs,bd (by rw [ct,ct,hP.1])]
        exact ⟨_,rfl,C,rfl,hP,hC'⟩
       ·rw [zf (show ¬ (s : Int) < (mid : Int) from by omega),zd]
        have : s = mid := by omega
        exact ⟨_,rfl,B,rfl,permIn_refl _ _ _,by rw [← this]; exact t1⟩
      ·rw [zf (show ¬ (a : Int) < (s : Int) from by omega),zd]
       have : s = a := by omega
       exact ⟨_,rfl,B,rfl,permIn_refl _ _ _,by rw [← this]; exact t2⟩
     obtain ⟨C,rfl,hPC,hCs⟩ := ht
     have hCz := hPC.1
     have sameC : ∀ k,mid ≤ k → C[k]! = B[k]! := fun k hk=>hPC.2.1 k (.inr hk)
     have t3' : SortedIn lt mid (mid + m - s) C := SortedIn.same t3 fun k h1 _=>sameC k h1
     have t4' : SortedIn lt (mid + m - s) b C := SortedIn.same t4 fun k h1 _=>sameC k (by omega)
     have crossC : ∀ x,a ≤ x → x < mid → ∀ y,mid ≤ y → y < b → lt C[y]! C[x]! = false := permIn_all B C a mid (fun z=>∀ y,mid ≤ y → y < b → lt C[y]! z = false) (by omega) hPC (fun x hx hxm y hy hyb=>by rw [sameC y hy]; exact t5 x y hx hxm hy hyb)
     have fin : ∀ E,PermIn mid b C E → SortedIn lt mid b E → PermIn a b A E ∧ SortedIn lt a b E := fun E hPE hEs=>by
      have sameE : ∀ k,k < mid → E[k]! = C[k]! := fun k hk=>hPE.2.1 k (.inl hk)
      refine ⟨permIn_trans _ _ _ _ _ hPB (permIn_trans _ _ _ _ _ (permIn_mono _ _ _ _ _ _ (Nat.le_refl _) (by omega) (by omega) hPC) (permIn_mono _ _ _ _ _ _ (by omega) (Nat.le_refl _) (by omega) hPE)),sorted_two (SortedIn.same hCs fun k _ h2=>sameE k h2) hEs fun x y hx hxm hy hyb=>?_⟩
      rw [sameE x hxm]
      exact permIn_all C E mid b (fun z=>lt z C[x]! = false) (by omega) hPE (fun y hy hyb=>crossC x hx hxm y hy hyb) y hy hyb
     by_cases d1 : mid < mid + m - s
     ·rw [zt (show (mid : Int) < ((mid + m - s : Nat) : Int) from by omega),zc]
      by_cases d2 : mid + m - s < b
      ·rw [zt (show ((mid + m - s : Nat) : Int) < (b : Int) from by omega),zc]
       obtain ⟨r,e,E,rfl,hP,hE⟩ := sym_ok hC hS n (A := C) (a := mid) (m := mid + m - s) (b := b) (by omega) d1 d2 (by omega) t3' t4' (fun p q h1 h2 h3 h4=>by rw [sameC p h1,sameC q (by omega)]; exact u2 p q (by omega) h1 h2 h3 h4) (by omega)
       rw [e,bPs,bd (by rw [ct,ct,hP.1])]
       exact ⟨_,rfl,E,rfl,fin E hP hE⟩
      ·rw [zf (show ¬ ((mid + m - s : Nat) : Int) < (b : Int) from by omega),zd]
       have : mid + m - s = b := by omega
       exact ⟨_,rfl,C,rfl,fin C (permIn_refl _ _ _) (by rw [← this]; exact t3')⟩
     ·rw [zf (show ¬ (mid : Int) < ((mid + m - s : Nat) : Int) from by omega),zd]
      have : mid + m - s = mid := by omega
      exact ⟨_,rfl,C,rfl,fin C (permIn_refl _ _ _) (by rw [this] at t4'; exact t4')⟩
end
theorem blk_eq {c t w x y : Nat} (h1 : c * w ≤ x) (h2 : x < t * w + w) (h3 : t * w ≤ y) (h4 : y < c * w + w) : c = t := by
 rcases Nat.lt_trichotomy c t with h | h | h
 ·have := Nat.mul_le_mul_right w (Nat.succ_le_of_lt h)
  rw [Nat.succ_mul] at this
  omega
 ·exact h
 ·have := Nat.mul_le_mul_right w (Nat.succ_le_of_lt h)
  rw [Nat.succ_mul] at this
  omega
section
variable {α : Type} [Inhabited α] {v : α → Rq} {lt : α → α → Bool} {cmp : Cmp}
variable {ix : α → Nat} {klt : α → α → Bool}
def Bd (ix : α → Nat) (D : Array α) (z : Nat) : Prop := ∀ p q,p < z → z ≤ q → q < D.size → ix D[p]! < ix D[q]!
theorem Bd.perm {D E : Array α} {lo hi z : Nat} (h : Bd ix D z) (hh : hi ≤ D.size) (hP : PermIn lo hi D E) (hz : z ≤ lo ∨ hi ≤ z) : Bd ix E z := fun p q h1 h2 h3=>by
 have hs := hP.1
 rcases hz with hz | hz
 ·rw [hP.2.1 p (.inl (by omega))]
  by_cases hq : lo ≤ q ∧ q < hi
  ·exact permIn_all D E lo hi (fun y=>ix D[p]! < ix y) hh hP (fun y hy hyb=>h p y h1 (by omega) (by omega)) q hq.1 hq.2
  ·rw [hP.2.1 q (by omega)]
   exact h p q h1 h2 (by omega)
 ·rw [hP.2.1 q (.inr (by omega))]
  by_cases hq : lo ≤ p ∧ p < hi
  ·exact permIn_all D E lo hi (fun y=>ix y < ix D[q]!) hh hP (fun y hy hyb=>h y q (by omega) h2 (by omega)) p hq.1 hq.2
  ·rw [hP.2.1 p (by omega)]
   exact h p q h1 h2 (by omega)
def Gr (ix : α → Nat) (lt : α → α → Bool) (w : Nat) (D : Array α) (lo hi : Nat) : Prop := (∀ c i j,lo ≤ c * w → c * w ≤ i → i < j → j < c * w + w → j < hi → lt D[j]! D[i]! = false) ∧ ∀ c,lo ≤ c * w → Bd ix D (c * w)
theorem stable_srt (hK : CmpIs v klt cmp) (hkl : ∀ x y,ix y < ix x → klt x y = lt x y) (hS : SWO lt) {A : Array α} (hs : A.size ≤ 1000000) (hinc : ∀ p q,p < q → q < A.size → ix A[p]! < ix A[q]!) : ∃ r,bj (rp v A) (A.size : Int) cmp = some r ∧ ∃ A',r = rp v A' ∧ PermIn 0 A.size A A' ∧ SortedIn lt 0 A.size A' := by
 have hC : CmpG v ix lt cmp := ⟨fun x y h=>by rw [← hkl x y h]; exact hK.is x y⟩
 unfold bj
 refine bc (fun s=>∃ (D : Array α) (t : Nat),s = (rp v D,((t * 20 : Nat) : Int),((t * 20 + 20 : Nat) : Int)) ∧ t * 20 ≤ A.size ∧ PermIn 0 A.size A D ∧ Gr ix lt 20 D 0 (t * 20) ∧ ∀ p q,t * 20 ≤ p → p < q → q < A.size → ix D[p]! < ix D[q]!) (fun s=>((A.size : Int) + 20 - s.2.2).toNat) (fun s=>∃ (D : Array α) (t : Nat),s.1 = rp v D ∧ s.2.1 = ((t * 20 : Nat) : Int) ∧ t * 20 ≤ A.size ∧ A.size < t * 20 + 20 ∧ PermIn 0 A.size A D ∧ Gr ix lt 20 D 0 (t * 20) ∧ ∀ p q,t * 20 ≤ p → p < q → q < A.size → ix D[p]! < ix D[q]!) ⟨A,0,rfl,by omega,permIn_refl _ _ _,⟨fun c i j h1 h2 h3 h4 h5=>by omega,fun c _ p q h1 h2 h3=>hinc p q (by omega) h3⟩,fun p q _ h1 h2=>hinc p q h1 h2⟩ (fun s hI=>?_) (fun s hq=>?_)
 ·obtain ⟨D,t,rfl,ht,hP,hG,hN⟩ := hI
  have hD := hP.1
  dsimp only
  by_cases hle : t * 20 + 20 ≤ A.size
  ·rw [zt (by omega),zc,ins_sim hK (by omega) (by omega) (by omega),bPs,im hkl (by omega) fun p q h1 h2 h3=>hN p q h1 h2 (by omega)]
   have hi := Go.Sort.insertionSort_holds (lt := lt) hS D (t * 20) (t * 20 + 20) (by omega) (by omega)
   rw [bd (by rw [ct,ct,hi.1.1]),bPs,bH (z := ((t * 20 + 20 : Nat) : Int) + 20) (n := (t + 1) * 20 + 20),show t * 20 + 20 = (t + 1) * 20 from by omega]
   rw [show t * 20 + 20 = (t + 1) * 20 from by omega] at hi
   refine ⟨_,rfl,⟨_,t + 1,rfl,by omega,permIn_trans _ _ _ _ _ hP (permIn_mono _ _ _ _ _ _ (Nat.zero_le _) (by omega) (by omega) hi.1),⟨fun c i j h1 h2 h3 h4 h5=>?_,fun c _=>?_⟩,fun p q h1 h2 h3=>?_⟩,by show ((A.size : Int) + 20 - (((t + 1) * 20 + 20 : Nat) : Int)).toNat < ((A.size : Int) + 20 - (((t + 1) * 20 : Nat) : Int)).toNat; omega⟩
   by_cases hj : j < t * 20
   ·rw [hi.1.2.1 j (.inl hj),hi.1.2.1 i (.inl (by omega))]
    exact hG.1 c i j h1 h2 h3 h4 hj
   ·exact hi.2 i j (by omega) h3 (by omega)
   ·exact (hG.2 c (Nat.zero_le _)).perm (by omega) hi.1 (by omega)
   ·rw [hi.1.2.1 p (.inr (by omega)),hi.1.2.1 q (.inr (by omega))]
    exact hN p q (by omega) h2 h3
  ·rw [zf (by omega),zd]
   exact ⟨_,rfl,D,t,rfl,rfl,ht,by omega,hP,hG,hN⟩
 ·obtain ⟨D,t,q1,q2,ht,hlt,hP,hG,hN⟩ := hq
  have hD := hP.1
  rw [q1,q2,ins_sim hK (by omega) (by omega) (by omega),bPs,im hkl (by omega) fun p q h1 h2 h3=>hN p q h1 h2 (by omega)]
  have hi := Go.Sort.insertionSort_holds (lt := lt) hS D (t * 20) A.size (by omega) (by omega)
  rw [bd (by rw [ct,ct,hi.1.1]),bPs]
  have hP2 : PermIn 0 A.size A (insertionSort lt D (t * 20) A.size) := permIn_trans _ _ _ _ _ hP (permIn_mono _ _ _ _ _ _ (Nat.zero_le _) (by omega) (by omega) hi.1)
  have hG2 : Gr ix lt 20 (insertionSort lt D (t * 20) A.size) 0 A.size := ⟨fun c i j h1 h2 h3 h4 h5=>by
   by_cases hj : j < t * 20
   ·rw [hi.1.2.1 j (.inl hj),hi.1.2.1 i (.inl (by omega))]
    exact hG.1 c i j h1 h2 h3 h4 hj
   ·exact hi.2 i j (by omega) h3 (by omega),fun c _ p q h1 h2 h3=>by
   rcases Nat.lt_or_ge t c with hc | hc
   ·have := hi.1.1
    omega
   ·exact (hG.2 c (Nat.zero_le _)).perm (by omega) hi.1 (by omega) p q h1 h2 h3⟩
  generalize insertionSort lt D (t * 20) A.size = E at hP2 hG2 ⊢
  clear q1 q2 hi hP hG hD hlt ht hN
  refine bc (fun s=>∃ (D : Array α) (w : Nat),s = (rp v D,(w : Int)) ∧ 20 ≤ w ∧ w ≤ 2000000 ∧ PermIn 0 A.size A D ∧ Gr ix lt w D 0 A.size) (fun s=>((A.size : Int) - s.2).toNat) (fun s=>∃ D : Array α,s.1 = rp v D ∧ PermIn 0 A.size A D ∧ SortedIn lt 0 A.size D) ⟨E,20,rfl,by omega,by omega,hP2,hG2⟩ (fun s hI=>?_) (fun s hq=>?_)
  ·obtain ⟨D,w,rfl,hw,hw2,hP,hG⟩ := hI
   dsimp only
   by_cases hlt : w < A.size
   ·rw [zt (by omega),zc,bH (z := 2 * (w : Int)) (n := 2 * w)]
    have e0 : ∀ t : Nat,2 * t * w = t * (2 * w) := fun t=>by rw [Nat.mul_comm 2 t,Nat.mul_assoc]
    have e1 : ∀ t : Nat,(2 * t + 1) * w = t * (2 * w) + w := fun t=>by rw [Nat.succ_mul,e0]
    have low : ∀ {F : Array α} {x y z : Nat} (_ : Gr ix lt w F x y) (t : Nat),x = t * (2 * w) → z ≤ x + w → z ≤ y → SortedIn lt x z F := fun hF t h1 h2 h3 i j hi hij hj=>hF.1 (2 * t) i j (by rw [e0]; omega) (by rw [e0]; omega) hij (by rw [e0]; omega) (by omega)
    have high : ∀ {F : Array α} {x y z : Nat} (_ : Gr ix lt w F x y) (t : Nat),x = t * (2 * w) → z ≤ x + 2 * w → z ≤ y → SortedIn lt (x + w) z F := fun hF t h1 h2 h3 i j hi hij hj=>hF.1 (2 * t + 1) i j (by rw [e1]; omega) (by rw [e1]; omega) hij (by rw [e1]; omega) (by omega)
    refine bc (fun s=>∃ (F : Array α) (t : Nat),s = (rp v F,((t * (2 * w) : Nat) : Int),((t * (2 * w) + 2 * w : Nat) : Int)) ∧ t * (2 * w) ≤ A.size ∧ PermIn 0 A.size A F ∧ Gr ix lt (2 * w) F 0 (t * (2 * w)) ∧ Gr ix lt w F (t * (2 * w)) A.size) (fun s=>((A.size : Int) + 2 * w - s.2.2).toNat) (fun s=>∃ (F : Array α) (t : Nat),s.1 = rp v F ∧ s.2.1 = ((t * (2 * w) : Nat) : Int) ∧ t * (2 * w) ≤ A.size ∧ A.size < t * (2 * w) + 2 * w ∧ PermIn 0 A.size A F ∧ Gr ix lt (2 * w) F 0 (t * (2 * w)) ∧ Gr ix lt w F (t * (2 * w)) A.size) ⟨D,0,by simp,by omega,hP,⟨fun c i j h1 h2 h3 h4 h5=>by omega,fun c _=>by rw [← e0]; exact hG.2 (2 * c) (Nat.zero_le _)⟩,⟨fun c i j h1 h2 h3 h4 h5=>hG.1 c i j (Nat.zero_le _) h2 h3 h4 h5,fun c _=>hG.2 c (Nat.zero_le _)⟩⟩ (fun s hI=>?_) (fun s hq=>?_)
    ·obtain ⟨F,t,rfl,ht,hPF,hF1,hF2⟩ := hI
     have hFz := hPF.1
     dsimp only
     generalize hx : t * (2 * w) = x at ht hF1 hF2 ⊢
     by_cases hle : x + 2 * w ≤ A.size
     ·rw [zt (by omega),zc,bH (z := (x : Int) + (w : Int)) (n := x + w)]
      obtain ⟨r,e,F',rfl,hP',hS'⟩ := sym_ok hC hS (2 * w + 1) (A := F) (a := x) (m := x + w) (b := x + 2 * w) (by omega) (by omega) (by omega) (by omega) (low hF2 t hx.symm (by omega) (by omega)) (high hF2 t hx.symm (by omega) (by omega)) (fun p q g1 g2 g3 g4=>by have hz := hF2.2 (2 * t + 1) (by rw [e1,hx]; omega); rw [e1,hx] at hz; exact hz p q g2 g3 (by omega)) (by omega)
      rw [fo e,bPs,bd (by rw [ct,ct,hP'.1]),bPs,bH (z := ((x + 2 * w : Nat) : Int) + ((2 * w : Nat) : Int)) (n := x + 2 * w + 2 * w)]
      have hx1 : (t + 1) * (2 * w) = x + 2 * w := by rw [Nat.succ_mul,hx]
      refine ⟨_,rfl,⟨F',t + 1,by rw [hx1],by rw [hx1]; omega,permIn_trans _ _ _ _ _ hPF (permIn_mono _ _ _ _ _ _ (Nat.zero_le _) (by omega) (by omega) hP'),?_,?_⟩,by show ((A.size : Int) + 2 * w - ((x + 2 * w + 2 * w : Nat) : Int)).toNat < ((A.size : Int) + 2 * w - ((x + 2 * w : Nat) : Int)).toNat; omega⟩
      ·rw [hx1]
       refine ⟨fun c i j h1 h2 h3 h4 h5=>?_,fun c _=>(hF1.2 c (Nat.zero_le _)).perm (by omega) hP' (by
        rcases Nat.lt_or_ge t c with hc | hc
        ·have := Nat.mul_le_mul_right (2 * w) hc
         rw [Nat.succ_mul] at this
         omega
        ·have := Nat.mul_le_mul_right (2 * w) hc
         omega)⟩
       by_cases hj : j < x
       ·rw [hP'.2.1 j (.inl hj),hP'.2.1 i (.inl (by omega))]
        exact hF1.1 c i j h1 h2 h3 h4 hj
       ·have hct : c = t := blk_eq h2 (by rw [hx]; omega) (by rw [hx]; omega) h4
        subst hct
        rw [hx] at h2
        exact hS' i j h2 h3 h5
      ·rw [hx1]
       refine ⟨fun c i j h1 h2 h3 h4 h5=>?_,fun c hc=>(hF2.2 c (by omega)).perm (by omega) hP' (.inr hc)⟩
       rw [hP'.2.1 j (.inr (by omega)),hP'.2.1 i (.inr (by omega))]
       exact hF2.1 c i j (by omega) h2 h3 h4 h5
     ·rw [zf (by omega),zd]
      exact ⟨_,rfl,F,t,rfl,by rw [hx],by rw [hx]; exact ht,by rw [hx]; omega,hPF,by rw [hx]; exact hF1,by rw [hx]; exact hF2⟩
    ·obtain ⟨F,t,q1,q2,ht,hgt,hPF,hF1,hF2⟩ := hq
     have hFz := hPF.1
     rw [q1,q2]
     clear q1 q2
     generalize hx : t * (2 * w) = x at ht hF1 hF2 hgt ⊢
     rw [bH (z := (x : Int) + (w : Int)) (n := x + w),bH (z := (w : Int) * 2) (n := w * 2)]
     by_cases hm : x + w < A.size
     ·rw [zt (by omega),zc]
      obtain ⟨r,e,F',rfl,hP',hS'⟩ := sym_ok hC hS (A.size + 1) (A := F) (a := x) (m := x + w) (b := A.size) (by omega) (by omega) hm (by omega) (low hF2 t hx.symm (by omega) (by omega)) (high hF2 t hx.symm (by omega) (by omega)) (fun p q g1 g2 g3 g4=>by have hz := hF2.2 (2 * t + 1) (by rw [e1,hx]; omega); rw [e1,hx] at hz; exact hz p q g2 g3 (by omega)) (by omega)
      rw [fo e,bPs,bd (by rw [ct,ct,hP'.1]),bPs]
      refine ⟨_,rfl,⟨F',w * 2,rfl,by omega,by omega,permIn_trans _ _ _ _ _ hPF (permIn_mono _ _ _ _ _ _ (Nat.zero_le _) (by omega) (by omega) hP'),⟨fun c i j h1 h2 h3 h4 h5=>?_,fun c _=>by
       rw [Nat.mul_comm w 2]
       refine (hF1.2 c (Nat.zero_le _)).perm (by omega) hP' ?_
       rcases Nat.lt_or_ge t c with hc | hc
       ·have := Nat.mul_le_mul_right (2 * w) hc
        rw [Nat.succ_mul] at this
        omega
       ·have := Nat.mul_le_mul_right (2 * w) hc
        omega⟩⟩,by show ((A.size : Int) - ((w * 2 : Nat) : Int)).toNat < ((A.size : Int) - (w : Int)).toNat; omega⟩
      rw [Nat.mul_comm w 2] at h2 h4
      by_cases hj : j < x
      ·rw [hP'.2.1 j (.inl hj),hP'.2.1 i (.inl (by omega))]
       exact hF1.1 c i j (Nat.zero_le _) h2 h3 h4 hj
      ·have hct : c = t := blk_eq h2 (by rw [hx]; omega) (by rw [hx]; omega) h4
       subst hct
       rw [hx] at h2
       exact hS' i j h2 h3 h5
     ·rw [zf (by omega),zd]
      refine ⟨_,rfl,⟨F,w * 2,rfl,by omega,by omega,hPF,⟨fun c i j h1 h2 h3 h4 h5=>?_,fun c _=>by rw [Nat.mul_comm w 2]; exact hF1.2 c (Nat.zero_le _)⟩⟩,by show ((A.size : Int) - ((w * 2 : Nat) : Int)).toNat < ((A.size : Int) - (w : Int)).toNat; omega⟩
      rw [Nat.mul_comm w 2] at h2 h4
      by_cases hj : j < x
      ·exact hF1.1 c i j (Nat.zero_le _) h2 h3 h4 hj
      ·have hct : c = t := blk_eq h2 (by rw [hx]; omega) (by rw [hx]; omega) h4
       subst hct
       rw [hx] at h2
       exact low hF2 c hx.symm (show A.size ≤ x + w by omega) (Nat.le_refl _) i j h2 h3 h5
   ·rw [zf (by omega),zd]
    exact ⟨_,rfl,D,rfl,hP,fun i j hi hij hj=>hG.1 0 i j (by omega) (by omega) hij (by omega) hj⟩
  ·obtain ⟨D,q1,h1,h2⟩ := hq
   exact ⟨_,rfl,D,q1,h1,h2⟩
end
end
end Go.Proofs.YtnnieenoapkefaaGreatDoor

namespace Go.Proofs.YtnnieenoapkefaaGreatDoor
noncomputable section
open Go Go.Ab
open Go.Sort (SWO PermIn SortedIn)
def dp (a b : LVal) : Bool :=
 if a.kind ≠ b.kind then decide (a.kind < b.kind) else if a.int ≠ b.int then decide (a.int < b.int) else Op.bytesLess a.text b.text
theorem less_eq (a b : LVal) : em a b = dp a b := by
 unfold em dp
 by_cases h1 : a.kind = b.kind
 ·rw [bneF h1,zd,zy (by simpa using h1)]
  by_cases h2 : a.int = b.int
  ·rw [bneF h2,zd,zy (by simpa using h2)]
  ·rw [bneT h2,zc,zp h2]
 ·rw [bneT h1,zc,zp h1]
theorem val_eq (x y : LVal) : (x.kind == y.kind && (x.int == y.int && (x.text == y.text && true))) = decide (x = y) := by
 obtain ⟨a,b,c⟩ := x
 obtain ⟨a',b',c'⟩ := y
 by_cases h : (⟨a,b,c⟩ : LVal) = ⟨a',b',c'⟩
 ·rw [zt h]; cases h; simp
 ·rw [zf h]
  by_cases h1 : a = a'
  ·by_cases h2 : b = b'
   ·have h3 : c ≠ c' := fun h3=>h (by rw [h1,h2,h3])
    have : (c == c') = false := by simpa using h3
    simp [this]
   ·simp [beqF h2]
  ·simp [beqF h1]
structure STO {α : Type} (lt : α → α → Bool) : Prop where
 irrefl : ∀ x,lt x x = false
 trans : ∀ x y z,lt x y = true → lt y z = true → lt x z = true
 tri : ∀ x y,lt x y = false → lt y x = false → x = y
theorem STO.swo {α : Type} {lt : α → α → Bool} (h : STO lt) : SWO lt where
 irrefl := h.irrefl
 trans := h.trans
 ntrans := fun x y z h1 h2=>by
  cases hxz : lt x z with
  | false=>rfl
  | true =>
   cases hyx : lt y x with
   | true=>rw [h.trans y x z hyx hxz] at h2; cases h2
   | false =>
    have := h.tri x y h1 hyx
    subst this
    rw [hxz] at h2; cases h2
theorem bytes_sto : STO Op.bytesLess where
 irrefl := fun x=>by
  induction x with
  | nil=>rfl
  | cons a x ih=>simp [Op.bytesLess,ih]
 trans := fun x=>by
  induction x with
  | nil =>
   intro y z h1 h2
   cases y with
   | nil=>cases z with
    | nil=>exact h2
    | cons c z=>rfl
   | cons b y=>cases z with
    | nil=>simp [Op.bytesLess] at h2
    | cons c z=>rfl
  | cons a x ih =>
   intro y z h1 h2
   cases y with
   | nil=>simp [Op.bytesLess] at h1
   | cons b y=>cases z with
    | nil=>simp [Op.bytesLess] at h2
    | cons c z =>
     simp only [Op.bytesLess,Bool.or_eq_true,decide_eq_true_eq,Bool.and_eq_true,beq_iff_eq,UInt8.lt_iff_toNat_lt] at h1 h2 ⊢
     rcases h1 with h1 | ⟨e1,h1⟩
     ·rcases h2 with h2 | ⟨e2,h2⟩
      ·exact .inl (by omega)
      ·exact .inl (by rw [← e2]; exact h1)
     ·rcases h2 with h2 | ⟨e2,h2⟩
      ·exact .inl (by rw [e1]; exact h2)
      ·exact .inr ⟨e1.trans e2,ih y z h1 h2⟩
 tri := fun x=>by
  induction x with
  | nil =>
   intro y h1 h2
   cases y with
   | nil=>rfl
   | cons b y=>simp [Op.bytesLess] at h1
  | cons a x ih =>
   intro y h1 h2
   cases y with
   | nil=>simp [Op.bytesLess] at h2
   | cons b y =>
    simp only [Op.bytesLess,Bool.or_eq_false_iff,decide_eq_false_iff_not,Bool.and_eq_false_iff,UInt8.lt_iff_toNat_lt] at h1 h2
    have e : a = b := UInt8.toNat_inj.1 (by omega)
    subst e
    have h3 : Op.bytesLess x y = false := by rcases h1.2 with h | h; simp at h; exact h
    have h4 : Op.bytesLess y x = false := by rcases h2.2 with h | h; simp at h; exact h
    rw [ih y h3 h4]
theorem val_sto : STO dp where
 irrefl := fun x=>by simp [dp,bytes_sto.irrefl]
 trans := fun x y z h1 h2=>by
  unfold dp at h1 h2 ⊢
  by_cases k1 : x.kind = y.kind
  ·rw [zy (by simpa using k1)] at h1
   by_cases k2 : y.kind = z.kind
   ·rw [zy (by simpa using k2)] at h2
    rw [zy (by simpa using k1.trans k2)]
    by_cases i1 : x.int = y.int
    ·rw [zy (by simpa using i1)] at h1
     by_cases i2 : y.int = z.int
     ·rw [zy (by simpa using i2)] at h2
      rw [zy (by simpa using i1.trans i2)]
      exact bytes_sto.trans _ _ _ h1 h2
     ·rw [zp i2] at h2
      have := of_decide_eq_true h2
      rw [zp (by omega)]
      exact zt (by omega)
    ·rw [zp i1] at h1
     have g1 := of_decide_eq_true h1
     by_cases i2 : y.int = z.int
     ·rw [zp (by omega)]
      exact zt (by omega)
     ·rw [zp i2] at h2
      have := of_decide_eq_true h2
      rw [zp (by omega)]
      exact zt (by omega)
   ·rw [zp k2] at h2
    have := of_decide_eq_true h2
    rw [zp (by omega)]
    exact zt (by omega)
  ·rw [zp k1] at h1
   have g1 := of_decide_eq_true h1
   by_cases k2 : y.kind = z.kind
   ·rw [zp (by omega)]
    exact zt (by omega)
   ·rw [zp k2] at h2
    have := of_decide_eq_true h2
    rw [zp (by omega)]
    exact zt (by omega)
 tri := fun x y h1 h2=>by
  obtain ⟨a,b,c⟩ := x
  obtain ⟨a',b',c'⟩ := y
  unfold dp at h1 h2
  simp only at h1 h2
  by_cases k : a = a'
  ·subst k
   rw [zy (by simp)] at h1 h2
   by_cases i : b = b'
   ·subst i
    rw [zy (by simp)] at h1 h2
    rw [bytes_sto.tri _ _ h1 h2]
   ·rw [zp i] at h1
    rw [zp (fun e=>i e.symm)] at h2
    have := of_decide_eq_false h1
    have := of_decide_eq_false h2
    omega
  ·rw [zp k] at h1
   rw [zp (fun e=>k e.symm)] at h2
   have := of_decide_eq_false h1
   have := of_decide_eq_false h2
   omega
def ltK (down : Bool) (a b : LVal) : Bool := cond down (dp b a) (dp a b)
theorem sto_flip {α : Type} {lt : α → α → Bool} (h : STO lt) : STO (fun x y=>lt y x) where
 irrefl := h.irrefl
 trans := fun x y z h1 h2=>h.trans z y x h2 h1
 tri := fun x y h1 h2=>h.tri x y h2 h1
theorem ltK_sto (down : Bool) : STO (ltK down) := by
 cases down
 ·exact val_sto
 ·exact sto_flip val_sto
theorem swo_pull {α β : Type} {lt : β → β → Bool} (h : SWO lt) (f : α → β) : SWO (fun x y=>lt (f x) (f y)) where
 irrefl := fun _=>h.irrefl _
 trans := fun _ _ _=>h.trans _ _ _
 ntrans := fun _ _ _=>h.ntrans _ _ _
def eA : List Bool → Rq → Rq → Int
 | ds,a :: x,b :: y=>if a = b then eA ds.tail x y else if ltK (ds.headD false) a b = true then -1 else 1
 | _,_,_=>0
def ltD (ds : List Bool) (x y : Rq) : Bool := decide (eA ds x y < 0)
theorem ltD_cons (ds : List Bool) (a b : LVal) (x y : Rq) : ltD ds (a :: x) (b :: y) = if a = b then ltD ds.tail x y else ltK (ds.headD false) a b := by
 unfold ltD
 rw [eA]
 by_cases h : a = b
 ·rw [zp h,zp h]
 ·rw [zy h,zy h]
  cases ltK (ds.headD false) a b <;> simp
theorem cmpD_zero : ∀ (ds : List Bool) (x y : Rq),x.length = y.length → (eA ds x y = 0 ↔ x = y)
 | _,[],[],_=>by simp [eA]
 | _,[],b :: y,h=>by simp at h
 | _,a :: x,[],h=>by simp at h
 | ds,a :: x,b :: y,h=>by
  rw [eA]
  by_cases e : a = b
  ·rw [zp e,cmpD_zero ds.tail x y (by simpa using h)]
   subst e
   simp
  ·rw [zy e]
   constructor
   ·intro h; split at h <;> omega
   ·intro h; cases h; exact absurd rfl e
abbrev RowN (n : Nat) := { x : Rq // x.length = n }
theorem hZ : ∀ (ds : List Bool) (x : Rq),ltD ds x x = false
 | ds,[]=>by simp [ltD,eA]
 | ds,a :: x=>by rw [ltD_cons,zp rfl,hZ ds.tail x]
theorem rowD_trans : ∀ (ds : List Bool) (x y z : Rq),x.length = y.length → y.length = z.length → ltD ds x y = true → ltD ds y z = true → ltD ds x z = true
 | ds,[],y,z,_,_,h,_=>by simp [ltD,eA] at h
 | ds,a :: x,[],z,h,_,_,_=>by simp at h
 | ds,a :: x,b :: y,[],_,h,_,_=>by simp at h
 | ds,a :: x,b :: y,c :: z,l1,l2,h1,h2=>by
  rw [ltD_cons] at h1 h2 ⊢
  by_cases e1 : a = b
  ·rw [zp e1] at h1
   by_cases e2 : b = c
   ·rw [zp e2] at h2
    rw [zp (e1.trans e2)]
    exact rowD_trans ds.tail x y z (by simpa using l1) (by simpa using l2) h1 h2
   ·rw [zy e2] at h2
    subst e1
    rw [zy e2]
    exact h2
  ·rw [zy e1] at h1
   by_cases e2 : b = c
   ·subst e2
    rw [zy e1]
    exact h1
   ·rw [zy e2] at h2
    have h3 := (ltK_sto _).trans _ _ _ h1 h2
    rw [zy (fun e=>by subst e; rw [(ltK_sto _).irrefl] at h3; cases h3)]
    exact h3
theorem rowD_tri : ∀ (ds : List Bool) (x y : Rq),x.length = y.length → ltD ds x y = false → ltD ds y x = false → x = y
 | _,[],[],_,_,_=>rfl
 | _,[],b :: y,h,_,_=>by simp at h
 | _,a :: x,[],h,_,_=>by simp at h
 | ds,a :: x,b :: y,l,h1,h2=>by
  rw [ltD_cons] at h1 h2
  by_cases e : a = b
  ·subst e
   rw [zp rfl] at h1 h2
   rw [rowD_tri ds.tail x y (by simpa using l) h1 h2]
  ·rw [zy e] at h1
   rw [zy (fun h=>e h.symm)] at h2
   exact absurd ((ltK_sto _).tri _ _ h1 h2) e
theorem iM (ds : List Bool) (n : Nat) : STO (fun x y : RowN n=>ltD ds x.1 y.1) where
 irrefl := fun x=>hZ ds x.1
 trans := fun x y z h1 h2=>rowD_trans ds x.1 y.1 z.1 (x.2.trans y.2.symm) (y.2.trans z.2.symm) h1 h2
 tri := fun x y h1 h2=>Subtype.ext (rowD_tri ds x.1 y.1 (x.2.trans y.2.symm) h1 h2)
theorem compareD_eq {x y : Rq} (ds : List Bool) (hl : x.length = y.length) : cU x y ds = some (eA ds x y) := by
 unfold cU
 simp only [less_eq]
 obtain ⟨fl,hfl,hr⟩ := eu (step := fun (j1 : Nat) (x1 : LVal) (_ : Unit) =>
  ac (
   cond (decide ((j1 : Int) ≥ (y.length : Int)))
    (some true)
    (ac (aL y (j1 : Int)) fun (x25 : LVal) =>
    some (x1.kind == x25.kind && (x1.int == x25.int && (x1.text == x25.text && true))))) fun (t3 : Bool) =>
  cond t3
   (some (Flow.next ()))
   (ac (aL y (j1 : Int)) fun (x35 : LVal) =>
   cp (dp x1 x35) fun x37 =>
   cond (decide ((j1 : Int) < (ds.length : Int)))
    (ac (aL ds (j1 : Int)) fun (x45 : Bool) =>
    cond x45
     (cond (!x37)
      (some (.ret (-1)))
      (some (.ret 1)))
     (cond x37
      (some (.ret (-1)))
      (some (.ret 1))))
    (cond x37
     (some (.ret (-1)))
     (some (.ret 1)))))
  (fun j _=>eA (ds.drop j) (x.drop j) (y.drop j) = eA ds x y) (fun r=>r = eA ds x y) x 0 () rfl (fun k w s hk hI=>by
   simp only [Nat.zero_add] at hI ⊢
   have hkl := (zg.1 hk).1
   have hky : k < y.length := by omega
   have hw := (zg.1 hk).2
   rw [List.drop_eq_getElem_cons hkl,List.drop_eq_getElem_cons hky,hw,eA] at hI
   rw [zf (show ¬ (k : Int) ≥ (y.length : Int) from by omega),zd,ip hky,bPs,bPs,val_eq]
   by_cases e : w = y[k]
   ·rw [zt e,zc]
    rw [zp e,List.tail_drop] at hI
    exact ⟨_,rfl,hI⟩
   ·rw [zf e,zd,bPs,bU]
    rw [zy e] at hI
    refine ⟨.ret (if ltK ((ds.drop k).headD false) w y[k] = true then -1 else 1),?_,hI⟩
    by_cases hd : k < ds.length
    ·rw [zt (show (k : Int) < (ds.length : Int) from by omega),zc,ip hd,bPs,List.drop_eq_getElem_cons hd,List.headD_cons]
     cases ds[k] with
     | true =>
      cases hx : dp w y[k] with
      | true =>
       have hn : dp y[k] w = false := by
        cases hb : dp y[k] w with
        | false=>rfl
        | true=>have := val_sto.trans _ _ _ hx hb; rw [val_sto.irrefl] at this; cases this
       rw [show ltK true w y[k] = dp y[k] w from rfl,hn]
       rfl
      | false =>
       have hn : dp y[k] w = true := by
        cases hb : dp y[k] w with
        | true=>rfl
        | false=>exact absurd (val_sto.tri _ _ hx hb) e
       rw [show ltK true w y[k] = dp y[k] w from rfl,hn]
       rfl
     | false =>
      rw [show ltK false w y[k] = dp w y[k] from rfl]
      cases dp w y[k] <;> rfl
    ·rw [zf (show ¬ (k : Int) < (ds.length : Int) from by omega),zd,List.drop_eq_nil_of_le (by omega)]
     show _ = some (Flow.ret (if ltK false w y[k] = true then -1 else 1))
     rw [show ltK false w y[k] = dp w y[k] from rfl]
     cases dp w y[k] <;> rfl)
 rw [hfl,bPs]
 cases fl with
 | brk s=>exact absurd hr (by simp)
 | ret r=>rw [iO,hr]
 | next s =>
  simp only [Nat.zero_add,List.drop_length] at hr
  rw [eM,← hr]
  have hy : y.drop x.length = [] := by rw [hl,List.drop_length]
  rw [hy]
  rfl
def iq (byA : LExtsortOrdering) (r : Rq) : Prop := ∀ k ∈ byA.columns,0 ≤ k ∧ k < (r.length : Int)
def ValOk (l : Rows) (byA : LExtsortOrdering) (memory : Int) : Prop :=
 l.length ≤ 600 ∧ 2 ≤ memory ∧ memory ≤ 64 ∧ byA.descending.length ≤ byA.columns.length ∧ ∀ k ∈ byA.columns,0 ≤ k ∧ ∀ r ∈ l,k < (r.length : Int)
theorem iW (l : Rows) (p : Rq → Bool) : aO l (fun a=>some (p a)) = some (l.any p) := by
 unfold aO bK
 obtain ⟨fl,h1,h2⟩ := eu (step := fun (j1 : Nat) (x1 : Rq) (_ : Unit)=>ac (some (p x1)) fun x16=>cond x16 (some (Flow.ret (ρ := Int) (j1 : Int))) (some (.next ())))
  (fun j _=>∀ x ∈ l.take j,p x = false) (fun r=>0 ≤ r ∧ ∃ x ∈ l,p x = true) l 0 () (by simp) (fun j x s hj hI=>by
   simp only [Nat.zero_add] at hI ⊢
   rw [bPs]
   cases hp : p x with
   | true=>exact ⟨_,rfl,zn _,x,List.mem_of_getElem? hj,hp⟩
   | false =>
    refine ⟨_,rfl,fun y hy=>?_⟩
    rw [List.take_add_one,hj] at hy
    rcases List.mem_append.1 hy with hy | hy
    ·exact hI y hy
    ·have : y = x := by simpa using hy
     rw [this,hp])
 rw [h1,bPs]
 cases fl with
 | next s =>
  simp only [Nat.zero_add,List.take_length] at h2
  rw [eM,bPs,show l.any p = false from by rw [List.any_eq_false]; intro x hx; rw [h2 x hx]; simp]
  rfl
 | brk s=>exact absurd h2 (by simp)
 | ret r =>
  rw [iO,bPs,zt h2.1,show l.any p = true from List.any_eq_true.2 h2.2]
theorem hX (l : Rows) (byA : LExtsortOrdering) (memory : Int) : ∃ e,bI l byA memory = some e ∧ (e = 0 ↔ ValOk l byA memory) := by
 unfold bI
 by_cases h1 : (l.length : Int) > 600
 ·exact ⟨2,by rw [zt h1]; rfl,⟨fun h=>absurd h (by decide),fun h=>by have := h.1; omega⟩⟩
 rw [zf h1,zd,bU]
 by_cases h2 : memory < 2
 ·exact ⟨1,by rw [zt h2]; rfl,⟨fun h=>absurd h (by decide),fun h=>by have := h.2.1; omega⟩⟩
 rw [zf h2,zd]
 by_cases h3 : memory > 64
 ·exact ⟨1,by rw [zt h3]; rfl,⟨fun h=>absurd h (by decide),fun h=>by have := h.2.2.1; omega⟩⟩
 rw [zf h3,zd]
 by_cases h4 : (byA.descending.length : Int) > (byA.columns.length : Int)
 ·exact ⟨3,by rw [zt h4]; rfl,⟨fun h=>absurd h (by decide),fun h=>by have := h.2.2.2.1; omega⟩⟩
 rw [zf h4,zd]
 obtain ⟨fl,e1,e2⟩ := eu (step := fun (_ : Nat) (x2 : Int) (_ : Unit) =>
   cond (decide (x2 < (0 : Int))) (some (Flow.ret (ρ := Int) 3)) (ac (aO l (fun a0=>some (bp a0 x2))) fun x37=>cond x37 (some (.ret 3)) (some (.next ()))))
  (fun j _=>∀ k ∈ byA.columns.take j,0 ≤ k ∧ ∀ r ∈ l,k < (r.length : Int)) (fun r=>r = 3 ∧ ∃ k ∈ byA.columns,¬ (0 ≤ k ∧ ∀ r ∈ l,k < (r.length : Int))) byA.columns 0 () (by simp) (fun j x s hj hI=>by
   simp only [Nat.zero_add] at hI ⊢
   have hm := List.mem_of_getElem? hj
   by_cases hx : x < 0
   ·rw [zt hx]
    exact ⟨_,rfl,rfl,x,hm,fun h=>by omega⟩
   rw [zf hx,zd,iW,bPs]
   cases ha : l.any fun a0=>bp a0 x with
   | true =>
    obtain ⟨r,hr,hp⟩ := List.any_eq_true.1 ha
    refine ⟨_,rfl,rfl,x,hm,fun h=>?_⟩
    have h1 := h.2 r hr
    have h2 : x ≥ (r.length : Int) := by simpa [bp] using hp
    omega
   | false =>
    refine ⟨_,rfl,fun k hk=>?_⟩
    rw [List.take_add_one,hj] at hk
    rcases List.mem_append.1 hk with hk | hk
    ·exact hI k hk
    ·have hkx : k = x := by simpa using hk
     subst hkx
     refine ⟨by omega,fun r hr=>?_⟩
     have h2 := List.any_eq_false.1 ha r hr
     have h3 : ¬ k ≥ (r.length : Int) := by simpa [bp] using h2
     omega)
 rw [e1,bPs]
 cases fl with
 | next s =>
  simp only [Nat.zero_add,List.take_length] at e2
  exact ⟨0,rfl,⟨fun _=>⟨by omega,by omega,by omega,by omega,e2⟩,fun _=>rfl⟩⟩
 | brk s=>exact absurd e2 (by simp)
 | ret r =>
  obtain ⟨rfl,k,hk,hn⟩ := e2
  exact ⟨3,rfl,⟨fun h=>absurd h (by decide),fun h=>absurd (h.2.2.2.2 k hk) hn⟩⟩
theorem validate_zero {l : Rows} {byA : LExtsortOrdering} {m : Int} (h : ValOk l byA m) : bI l byA m = some 0 := by
 obtain ⟨e,h1,h2⟩ := hX l byA m
 rw [h1,h2.2 h]
theorem ValOk.keys {l : Rows} {byA : LExtsortOrdering} {m : Int} (h : ValOk l byA m) : ∀ r ∈ l,iq byA r := fun r hr k hk=>⟨(h.2.2.2.2 k hk).1,(h.2.2.2.2 k hk).2 r hr⟩
theorem chunks_mem {α : Type} {m : Nat} (hm : 1 ≤ m) {l part : List α} (h : part ∈ aK m l) : ∃ j,j * m < l.length ∧ part = (l.drop (j * m)).take m := by
 obtain ⟨j,hj⟩ := List.getElem?_of_mem h
 rw [dY hm] at hj
 split at hj
 ·rename_i hlt; exact ⟨j,hlt,(Option.some.inj hj).symm⟩
 ·cases hj
theorem jU {α : Type} {m : Nat} (hm : 1 ≤ m) (l : List α) : (aK m l).length ≤ l.length := by
 rcases Nat.lt_or_ge l.length (aK m l).length with h | h
 ·have := dY hm l l.length
  rw [zy (by have := Nat.mul_le_mul_left l.length hm; omega)] at this
  rw [ze h] at this
  cases this
 ·exact h
theorem equal_refl (x : Rq) : aS x x = some true := by
 unfold aS
 rw [show ((x.length : Int) != (x.length : Int)) = false from by simp,zd,rMa (xs := x) (s := ()) (fun _=>()) rfl (fun k v hk=>by
  rw [getI_nat hk,bPs,show (v.kind == v.kind && (v.int == v.int && (v.text == v.text && true))) = true from by simp]
  rfl),bPs,eM]
theorem sameRows_refl (l : Rows) : cM l l = some true := by
 unfold cM bf
 rw [show ((l.length : Int) != (l.length : Int)) = false from by simp,zd,rMa (xs := l) (s := ()) (fun _=>()) rfl (fun k v hk=>by
  rw [getI_nat hk,bPs]
  show ac (ca v v) _ = _
  unfold ca
  rw [equal_refl,bPs,bPs]
  rfl),bPs,eM,bPs]
def gc (byA : LExtsortOrdering) (r : Rq) : Rq := byA.columns.map fun k=>(r[k.toNat]?).getD (LVal.mk 0 0 [])
theorem gE (byA : LExtsortOrdering) (r : Rq) : (gc byA r).length = byA.columns.length := by simp [gc]
theorem key_eq {byA : LExtsortOrdering} (hc : byA.columns.length ≤ 1000) {r : Rq} (h : iq byA r) : dL r byA = some (gc byA r) := by
 unfold dL
 rw [gq (xs := byA.columns) (fun k=>(r[k.toNat]?).getD (LVal.mk 0 0 [])) (fun j x hx=>by
  have hlt := (zg.1 hx).1
  have hk := h x (List.mem_of_getElem? hx)
  have hlr : x.toNat < r.length := by omega
  rw [jC hk.1 (ze hlr),bPs,fL (by simp; omega) (by unfold maxLen; simp; omega),bPs,ze hlr]
  rfl),bPs,dz]
 rfl
theorem order_eq {byA : LExtsortOrdering} (hc : byA.columns.length ≤ 1000) {x y : Rq} (hx : iq byA x) (hy : iq byA y) : cv x y byA = some (eA byA.descending (gc byA x) (gc byA y)) := by
 unfold cv
 rw [key_eq hc hx,bPs,key_eq hc hy,bPs,compareD_eq _ (by rw [gE,gE]),bPs]
def cmpF (byA : LExtsortOrdering) : Cmp := fun a0 a1=>bV a0 a1 byA
abbrev Tag (byA : LExtsortOrdering) := { p : Rq × Nat // iq byA p.1 }
def tv {byA : LExtsortOrdering} (x : Tag byA) : Rq := x.1.1
def tix {byA : LExtsortOrdering} (x : Tag byA) : Nat := x.1.2
def dw {byA : LExtsortOrdering} (x : Tag byA) : RowN byA.columns.length := ⟨gc byA x.1.1,gE byA _⟩
def klt {byA : LExtsortOrdering} (x y : Tag byA) : Bool := ltD byA.descending (dw x).1 (dw y).1
def lexB {β : Type} [DecidableEq β] (lt : β → β → Bool) (x y : β × Nat) : Bool := if x.1 = y.1 then decide (x.2 < y.2) else lt x.1 y.1
theorem iG {β : Type} [DecidableEq β] {lt : β → β → Bool} (h : STO lt) : STO (lexB lt) where
 irrefl := fun x=>by simp [lexB]
 trans := fun x y z h1 h2=>by
  unfold lexB at h1 h2 ⊢
  by_cases e1 : x.1 = y.1
  ·rw [zp e1] at h1
   by_cases e2 : y.1 = z.1
   ·rw [zp e2] at h2
    rw [zp (e1.trans e2)]
    have := of_decide_eq_true h1
    have := of_decide_eq_true h2
    exact zt (by omega)
   ·rw [zy e2] at h2
    rw [zy (fun e=>e2 (e1.symm.trans e)),e1]
    exact h2
  ·rw [zy e1] at h1
   by_cases e2 : y.1 = z.1
   ·rw [zy (fun e=>e1 (e.trans e2.symm)),← e2]
    exact h1
   ·rw [zy e2] at h2
    have h3 := h.trans _ _ _ h1 h2
    rw [zy (fun e=>by rw [e,h.irrefl] at h3; cases h3)]
    exact h3
 tri := fun x y h1 h2=>by
  unfold lexB at h1 h2
  by_cases e : x.1 = y.1
  ·rw [zp e] at h1
   rw [zp e.symm] at h2
   have := of_decide_eq_false h1
   have := of_decide_eq_false h2
   exact Prod.ext e (by omega)
  ·rw [zy e] at h1
   rw [zy (fun h=>e h.symm)] at h2
   exact absurd (h.tri _ _ h1 h2) e
def tlt {byA : LExtsortOrdering} (x y : Tag byA) : Bool := lexB (fun a b : RowN byA.columns.length=>ltD byA.descending a.1 b.1) (dw x,tix x) (dw y,tix y)
theorem tlt_swo (byA : LExtsortOrdering) : SWO (tlt (byA := byA)) := swo_pull (iG (iM byA.descending byA.columns.length)).swo fun x=>(dw x,tix x)
theorem klt_tlt {byA : LExtsortOrdering} (x y : Tag byA) (h : tix y < tix x) : klt x y = tlt x y := by
 unfold tlt lexB klt
 by_cases e : dw x = dw y
 ·rw [zp e,e,hZ,zf (show ¬ tix x < tix y from by omega)]
 ·rw [zy e]
theorem tlt_conn {byA : LExtsortOrdering} {x y : Tag byA} (h : tix x ≠ tix y) (h1 : tlt y x = false) : tlt x y = true := by
 cases h2 : tlt x y with
 | true=>rfl
 | false =>
  have := (iG (iM byA.descending byA.columns.length)).tri _ _ h2 h1
  exact absurd (congrArg Prod.snd this) h
theorem cmp_is (byA : LExtsortOrdering) (hc : byA.columns.length ≤ 1000) : CmpIs tv (klt (byA := byA)) (cmpF byA) where
 is := fun x y=>⟨eA byA.descending (gc byA x.1.1) (gc byA y.1.1),by
  show ac (cv x.1.1 y.1.1 byA) _ = _
  rw [order_eq hc x.2 y.2,bPs],rfl⟩
def cZ {byA : LExtsortOrdering} (l : List (Tag byA)) : Prop := l.Pairwise fun x y=>tlt x y = true
def Diff {byA : LExtsortOrdering} (l : List (Tag byA)) : Prop := l.Pairwise fun x y=>tix x ≠ tix y
theorem Diff.perm {byA : LExtsortOrdering} {l l' : List (Tag byA)} (h : Diff l) (hp : l'.Perm l) : Diff l' := (hp.pairwise_iff fun h=>Ne.symm h).2 h
theorem srt_tag {byA : LExtsortOrdering} (hc : byA.columns.length ≤ 1000) {T : List (Tag byA)} (hl : T.length ≤ 1000000) (hi : T.Pairwise fun x y=>tix x < tix y) :
  ∃ S,aw (T.map tv) (cmpF byA) = some (S.map tv) ∧ S.Perm T ∧ cZ S := by
 cases T with
 | nil =>
  obtain ⟨d,h1,h2⟩ := sortStable_ok (cmp := cmpF byA) (d := []) (by simp) (fun x hx=>by cases hx)
  have : d = [] := by simpa using h2
  subst this
  exact ⟨[],h1,List.Perm.refl _,List.Pairwise.nil⟩
 | cons t0 T0 =>
  generalize hT : t0 :: T0 = T at hl hi ⊢
  haveI : Inhabited (Tag byA) := ⟨t0⟩
  have mk : rp tv T.toArray = T.map tv := by unfold rp; simp
  obtain ⟨r,e1,A',rfl,hP,hS⟩ := stable_srt (cmp_is byA hc) klt_tlt (tlt_swo byA) (A := T.toArray) (by simpa using hl) (fun p q hpq hq=>by
   have hq' : q < T.length := by simpa using hq
   rw [getElem!_pos T.toArray p (by simp; omega),getElem!_pos T.toArray q hq]
   simp only [List.getElem_toArray]
   exact List.pairwise_iff_getElem.1 hi p q (by omega) hq' hpq)
  have hz := hP.1
  rw [mk] at e1
  have hz' : (rp tv A').length = (T.map tv).length := by rw [ct,hz]; simp
  have hperm : A'.toList.Perm T := by
   have h3 := hP.2.2
   have z1 : T.toArray.extract 0 T.toArray.size = T.toArray := by simp
   have z2 : A'.extract 0 T.toArray.size = A' := by rw [← hz]; simp
   rw [z1,z2] at h3
   exact h3
  refine ⟨A'.toList,?_,hperm,?_⟩
  ·unfold aw
   rw [show ((T.map tv).length : Int) = (T.toArray.size : Int) from by simp,e1,bPs,bd hz',bPs]
   rfl
  ·have hd : Diff A'.toList := Diff.perm (hi.imp fun h=>Nat.ne_of_lt h) hperm
   refine List.pairwise_iff_getElem.2 fun i j h1 h2 hij=>?_
   have hj : j < A'.size := by simpa using h2
   have := hS i j (Nat.zero_le _) hij (by rw [← hz]; exact hj)
   rw [getElem!_pos A' j hj,getElem!_pos A' i (by omega)] at this
   exact tlt_conn (by have := List.pairwise_iff_getElem.1 hd i j h1 h2 hij; simpa using this) (by simpa using this)
end
end Go.Proofs.YtnnieenoapkefaaGreatDoor

namespace Go.Proofs.YtnnieenoapkefaaGreatDoor
noncomputable section
open Go Go.Ab
attribute [local irreducible] V Ao Do Gh Eff PH IntKind.wrap
set_option maxRecDepth 4000
theorem chunk_seq2 (rows : List (List PV)) (m : Nat) (h1 : 1 ≤ m) (h2 : m ≤ 1000000) (hl : rows.length ≤ 1000000) : SeqP Tryz.prog 34 [.ptr [.list 22 rows],.ptr [ag (m : Int)]] ((aK m rows).map (PV.list 22)) := by
 refine SeqP.of Tryz.func34 rfl rfl Tryz.ntmps34 rfl fun l J hJ hR=>?_
 refine VI.seq (VI.region hJ rfl (ay tk rfl ?_))
 refine al ⟨rfl,⟨rfl,rfl⟩,?_⟩
 refine VI.block ?_
 refine VI.weak (s' := upd (upd (upd (upd (fun _=>.any) 4 (ag ((0 * m : Nat) : Int))) 2 (.ptr [ag (m : Int)])) 1 (.ptr [.list 22 rows])) 0 (.val (.func (.yield l) #[] #[]))) (aA (aA (aA (cf (PLe.q (by simp [upd,ag])) aQ)))) ?_
 refine VI.loop (fun mm j s=>mm = rows.length + m - j * m ∧ (∀ k,k < j → k * m < rows.length) ∧ s = upd (upd (upd (upd (fun _=>.any) 4 (ag ((j * m : Nat) : Int))) 2 (.ptr [ag (m : Int)])) 1 (.ptr [.list 22 rows])) 0 (.val (.func (.yield l) #[] #[]))) (m := rows.length + m - 0 * m) ⟨rfl,fun k hk=>absurd hk (Nat.not_lt_zero k),rfl⟩ ?_
 rintro mm j s ⟨rfl,hall,rfl⟩
 refine VI.seq (VI.seq (VI.region hJ rfl (am 2 tk rfl (bh tk rfl ?_))))
 refine ay tk rfl ?_
 refine al ⟨rfl,⟨rfl,rfl⟩,?_⟩
 refine VI.cond (b := decide (((j * m : Nat) : Int) < (rows.length : Int))) rfl ?_
 by_cases hlt : j * m < rows.length
 ·rw [zt (by omega),zp rfl]
  refine VI.skip (VI.seq (VI.block (VI.seq (VI.draw hJ tk mok ⟨false,false,[]⟩ [0,1,2,3,4,5,6] rfl (by decide +kernel) rfl (aG 3 rfl (jF rfl rfl rfl rfl rfl rfl rfl rfl rfl ⟨by omega,by omega,by omega⟩ (rows' := rows.drop (j * m)) (by rw [Int.toNat_natCast,Int.toNat_natCast,List.take_length]) rfl (ku rfl rfl rfl rfl rfl rfl List.length_drop rfl (aG 2 rfl ?_))))))))
  refine bM ⟨rfl,⟨rfl,rfl⟩,?_⟩
  have hget := dY h1 rows j
  rw [zp hlt] at hget
  refine VI.seq ?_
  refine VI.yield hJ hR _ _ _ (show _ = [_,_,_,_,_,_,_,_,_,_] ++ _ :: [_] from rfl) rfl rfl rfl (x := .list 22 ((rows.drop (j * m)).take m)) (by rw [List.getElem?_map,hget]; rfl) ?_
  have hE : (if ((rows.length - j * m : Nat) : Int) < (m : Int) then ((rows.length - j * m : Nat) : Int) else (m : Int)) = ((min (rows.length - j * m) m : Nat) : Int) := by
   split <;> omega
  rw [hE]
  have hw : IntKind.i64.wrap (((j * m : Nat) : Int) + ((min (rows.length - j * m) m : Nat) : Int)) = ((j * m + min (rows.length - j * m) m : Nat) : Int) := by
   rw [aB (by omega) (by omega)]
   omega
  refine am 9 tk rfl ?_
  refine kF tk rfl rfl rfl rfl rfl rfl rfl rfl (by rw [hw]; omega) (rows' := (rows.drop (j * m)).take m) (by
   rw [hw,Int.toNat_natCast,Int.toNat_natCast,List.drop_take,Nat.add_sub_cancel_left]
   rcases Nat.le_total (rows.length - j * m) m with h | h
   ·rw [Nat.min_eq_left h,List.take_of_length_le (by rw [List.length_drop]; omega),List.take_of_length_le (by rw [List.length_drop]; omega)]
   ·rw [Nat.min_eq_right h]) rfl ?_
  refine al ⟨rfl,⟨rfl,rfl⟩,rfl,rfl,rfl,_,rfl,?_⟩
  refine ay tk rfl ?_
  refine al ⟨rfl,⟨rfl,rfl⟩,?_⟩
  refine VI.cond (b := false) rfl ?_
  rw [zy (by simp)]
  refine VI.skip (VI.region hJ rfl (am 4 tk rfl ?_))
  refine al ⟨rfl,⟨rfl,rfl⟩,?_⟩
  intro M a w hs hj
  have hw2 : IntKind.i64.wrap (((j * m : Nat) : Int) + (m : Int)) = (((j + 1) * m : Nat) : Int) := by
   rw [aB (by omega) (by omega),Nat.succ_mul]
   omega
  have hs' : cY Tryz.prog [] M 31 (upd (upd (upd (upd (fun _=>.any) 4 (ag (((j + 1) * m : Nat) : Int))) 2 (.ptr [ag (m : Int)])) 1 (.ptr [.list 22 rows])) 0 (.val (.func (.yield l) #[] #[]))) a :=
   hs.weak (aA (aA (aA (cf (PLe.q (by rw [← hw2]; rfl)) aQ))))
  exact ⟨rows.length + m - (j + 1) * m,by rw [Nat.succ_mul]; omega,j + 1,_,M,⟨rfl,fun k hk=>by
   rcases Nat.lt_succ_iff_lt_or_eq.1 hk with h | rfl
   ·exact hall k h
   ·exact hlt,rfl⟩,hs',hj⟩
 ·rw [zf (by omega),zy (by simp)]
  refine VI.exit ?_
  intro M a w hs hj
  simp only [Exit.then,Exit.inBlock,↓reduceIte]
  refine ⟨by simp,hs.2.1,M,?_⟩
  rw [zl,iT h1 hall (by omega)]
  exact hj
theorem W_chunk2 (l : List (List PV)) (m : Int) (h1 : 1 ≤ m) : bJ Tryz.prog 13 [.list 22 l,ag m] (.fn 34 [.ptr [.list 22 l],.ptr [ag m]]) := by
 refine PH.aD Tryz.func13 Tryz.ntmps13 ?_
 refine af (ah (cD ?_))
 refine cD ?_
 refine ay tk rfl (al (af (au 2 tk rfl ?_)))
 refine jL (by show PV.val (.bool (decide (m < 1))) = _; rw [zf (by omega)]) ?_
 refine aH (au 2 tk rfl ?_)
 exact dr tk rfl (ps := [.fn 34 [.ptr [.list 22 l],.ptr [ag m]]]) ⟨_,_,rfl,rfl,rfl⟩ (PLe.q rfl)
end
end Go.Proofs.YtnnieenoapkefaaGreatDoor

namespace Go.Proofs.YtnnieenoapkefaaGreatDoor
noncomputable section
open Go Go.Ab
theorem VR.post {P : Program} {lo : Nat} {G : PState → Prop} {c : Code} {st : PState} (h : VR P lo (fun st'=>∃ st'',Gh P st' st'' ∧ G st'') c st) : VR P lo G c st := fun C M a w hi=>by
 refine wpIn_mono (h C M a w hi) fun e a' w' he=>?_
 cases e with
 | normal =>
  obtain ⟨st',M',⟨st'',hg,hG⟩,hi'⟩ := he
  obtain ⟨M'',hi''⟩ := hg C M' a' w' hi'
  exact ⟨st'',M'',hG,hi''⟩
 | _=>exact he.elim
attribute [local irreducible] V Ao Do Gh Eff PH IntKind.wrap
set_option maxRecDepth 4000
def gQ (byA : LExtsortOrdering) : Nat → List Rz → List Rz → Option (Flow (List Rz) Empty) := fun _ part s =>
 ac (cw part byA) fun run=>ac (eF 24 s [run]) fun s'=>some (.next s')
def gS (byA : LExtsortOrdering) (m : Nat) : Nat → List Rz → Int → Option (Rz × Int × Int)
 | 0,_,_=>none
 | f + 1,runs,p =>
  cond (decide ((runs.length : Int) > (1 : Int)))
  (ac (cG (runs.length ≤ 1000000) ()) fun _=>ac (aX (gQ byA) 0 (aK m runs) []) fun fl=>fl.thenP fun next=>gS byA m f next (IntKind.i64.wrap (p + (1 : Int))))
  (ac (aX (σ := Rz) (ρ := Empty) (fun (_ : Nat) (x1 : Rz) (s1 : Rz) =>
   ac (aX (σ := Rz) (ρ := Empty) (fun (_ : Nat) (x4 : Rq) (s4 : Rz) =>
    ac (eF 24 s4 ([x4] : Rz)) fun (x61 : Rz) =>
    some (.next x61)) 0 x1 s1) fun fl4=>fl4.thenP fun (s4 : Rz) =>
   some (.next s4)) 0 runs []) fun fl1=>fl1.thenP fun (s1 : Rz) =>
  some (s1,p,0))
def cr (l : Rz) (byA : LExtsortOrdering) (memory : Int) : Option (Rz × Int × Int) :=
 ac (ci l byA memory) fun x23 =>
 cond (x23.2 != (0 : Int))
  (some ([],0,x23.2))
  (ac (cG (2 ≤ memory ∧ memory ≤ 64) ()) fun _=>gS byA memory.toNat (x23.1.length + 1) x23.1 0)
theorem iv (l : Rz) (byA : LExtsortOrdering) (memory : Int) (r : Rz × Int × Int) (H : cr l byA memory = some r) :
  bJ Tryz.prog 6 [(.list 51 (l.map (ae 48 ab))),(.agg (aN byA)),(ag memory)] (.tup [(.list 51 (r.1.map (ae 48 ab))),(ag r.2.1),(ag r.2.2)]) := by
 unfold cr at H
 refine PH.aD Tryz.func6 Tryz.ntmps6 ?_
 refine af (ah (cD ?_))
 refine am 3 tk rfl (al (af (ah (am 3 tk rfl ?_))))
 obtain ⟨x23,h23,H⟩ := ar H
 have s23 := iA l byA memory _ h23
 refine bT Tryz.call9 (de.r) s23 ?_
 refine am 5 tk rfl (al (af (au 2 tk rfl ?_)))
 refine bm rfl H (fun H=>?_) (fun H=>?_)
 ·refine au 4 tk rfl ?_
  obtain rfl := ax H
  refine dr tk rfl (ps := [(.val (.slice none 0 0)),(ag 0),(ag x23.2)]) ⟨_,_,rfl,rfl,_,_,rfl,rfl,_,_,rfl,rfl,rfl⟩ (PLe.of2 (PLe2.tup (eZ.cons (PLe2.nil tk rfl) (eZ.cons (PLe2.of_eq rfl) (eZ.cons (PLe2.of_eq rfl) eZ.nil)))))
 refine aH (au 1 tk rfl (af (aF ?_)))
 obtain ⟨_,qm,H⟩ := ar H
 have km := (bS qm).1
 obtain ⟨m,rfl⟩ : ∃ m : Nat,memory = (m : Int) := ⟨memory.toNat,by omega⟩
 rw [Int.toNat_natCast] at H
 refine cq (st' := ⟨66,upd (upd (upd (upd (fun _=>.any) 11 (ag 0)) 9 (.list 22 (x23.1.map dW))) 4 (.ptr (aN byA))) 2 (ag (m : Int)),fun _=>none,fun _=>none⟩) (Gh.le (aA (aA (aA (aA aQ)))) ap aq) ?_
 refine kQ (fun n st'=>∃ runs p,gS byA m n runs p = some r ∧ st' = ⟨66,upd (upd (upd (upd (fun _=>.any) 11 (ag p)) 9 (.list 22 (runs.map dW))) 4 (.ptr (aN byA))) 2 (ag (m : Int)),fun _=>none,fun _=>none⟩) (n := x23.1.length + 1) ⟨x23.1,0,H,rfl⟩ ?_
 rintro n st ⟨runs,p,H,rfl⟩
 obtain ⟨n,rfl⟩ : ∃ n',n = n' + 1 := by
  cases n with
  | zero=>cases H
  | succ n=>exact ⟨n,rfl⟩
 unfold gS at H
 refine af (af (ah (ay tk rfl (bh tk (zl _) ?_))))
 refine ay tk rfl (al ?_)
 refine bm rfl H (fun H=>?_) (fun H=>?_)
 ·obtain ⟨_,qr,H⟩ := ar H
  have kr := (bS qr).1
  obtain ⟨fl,hfl,H⟩ := ar H
  refine aH (aF (af (ah ?_)))
  refine gG tk rfl rfl rfl rfl rfl rfl fun b12=>?_
  refine al (af (af (ah (am 2 tk rfl (jY (g := 13) rfl rfl rfl Tryz.call13 (de.r) (W_chunk2 _ _ (by omega)) rfl (al (aF (kJ tk 12 0 1212 (e := 22) rfl rfl rfl rfl ?_))))))))
  refine cq (st' := ⟨66,_,upd (fun _=>none) 12 (some ⟨b12,[.own 1212 ⟨none,0⟩ 0]⟩),upd (fun _=>none) 1212 (some ⟨⟨none,0⟩,22,[],true⟩)⟩) (Gh.le (aU _ _) (aP rfl (de.r) ap) (aC aq)) ?_
  refine kd rfl Tryz.call34 rfl (chunk_seq2 (runs.map dW) m (by omega) (by omega) (by rw [zl]; omega))
   (fun j bx ob=>∃ (s : List Rz) (g : OwnRef),aX (gQ byA) j ((aK m runs).drop j) s = some fl ∧ bx = upd (fun _=>none) 12 (some ⟨b12,[.own 1212 g (s.map dW).length]⟩) ∧ ob = upd (fun _=>none) 1212 (some ⟨g,22,s.map dW,true⟩))
   ⟨[],⟨none,0⟩,hfl,rfl,rfl⟩ ?_ ?_
  ·rintro lo j x bx ob hx ⟨s,g,hrun,rfl,rfl⟩
   rw [dM,List.map_map,List.getElem?_map] at hx
   obtain ⟨part,hpart,rfl⟩ := Option.map_eq_some_iff.1 hx
   have hlt := (zg.1 hpart).1
   obtain ⟨part',fb,hpart',hstep,hgo⟩ := rMc hlt hrun
   rw [hpart] at hpart'
   cases hpart'
   unfold gQ at hstep
   obtain ⟨run,h39,hstep⟩ := ar hstep
   obtain ⟨s',h41,hstep⟩ := ar hstep
   have k41 := er h41
   refine VR.region rfl (ay tk rfl (al (VR.block (VR.post (VR.draw tk mok ⟨true,false,[38]⟩ [0,1,2,3,4,5,6] rfl rfl (by decide +kernel) rfl (bk ?_))))))
   refine aG 2 rfl ?_
   have s39 := kh part byA _ h39
   refine cQ Tryz.call14 (de.r) s39 ?_
   refine db rfl ?_
   refine iS (rows2' := List.map dW ([run] : List Rz)) (rows' := List.map dW s') tk rfl rfl rfl rfl rfl rfl rfl rfl rfl rfl rfl rfl rfl rfl (eW.refl _) (fH k41.1) (fM k41.2.1) (fK k41.2.2) fun g41=>?_
   refine kl rfl rfl rfl rfl rfl rfl rfl rfl rfl rfl rfl rfl ?_
   cases hstep
   refine bM ?_
   exact ⟨⟨66,_,upd (fun _=>none) 12 (some ⟨b12,[.own 1212 g41 (s'.map dW).length]⟩),upd (fun _=>none) 1212 (some ⟨g41,22,s'.map dW,true⟩)⟩,Gh.le (aU _ _) (aP rfl (de.r) ap) (aC aq),s',g41,hgo,rfl,rfl⟩
  ·rintro bx ob ⟨s,g,hrun,rfl,rfl⟩
   rw [zl,dM,zl] at hrun
   have hfn := rMd (Nat.le_refl _) hrun
   have H := bB hfn H
   refine bA (af (ah (iN tk rfl rfl rfl rfl rfl rfl rfl (ay tk rfl (al (bW 3 tk rfl (bA (fS 9 rfl rfl rfl ?_))))))))
   refine cq (st' := ⟨66,upd (upd (upd (upd (fun _=>.any) 11 (ag (IntKind.i64.wrap (p + (1 : Int))))) 9 (.list 22 (s.map dW))) 4 (.ptr (aN byA))) 2 (ag (m : Int)),fun _=>none,fun _=>none⟩) (Gh.le (aA (aA (aA (aA aQ)))) ap aq) ?_
   exact kC ⟨n,Nat.lt_succ_self n,s,_,H,rfl⟩
 refine cB rfl (au 1 tk rfl (af (af (ah (ay tk rfl (bh tk (zl _) ?_))))))
 refine ay tk rfl (al (js tk 14 61 (e := 51) rfl rfl ?_))
 refine ke (γ := OwnRef) tk 47 46 45 (fun s1 g1=>upd (upd (fun _=>.any) 14 (.own 61 g1 (s1.map (ae 48 ab)).length)) 11 (ag p)) nB (fun s1 g1=>upd (fun _=>none) 61 (some ⟨g1,51,(s1.map (ae 48 ab)),true⟩)) (⟨none,0⟩) H (fun fl1 Hp1 j1 s1 g1 hz1 hl1 x1 fb1 hx1 H hg1=>?_) (fun s1 g1 H=>?_)
 ·refine af (aF (af (ah ?_)))
  refine dQ tk (zn j1) (dV (fun _=>rfl) hx1) ?_
  refine am 2 tk rfl (al (af (ah (ay tk rfl (bh tk (zl _) ?_)))))
  refine ay tk rfl (al ?_)
  refine ke (γ := OwnRef) tk 53 52 51 (fun s4 g4=>upd (upd (upd (upd (upd (fun _=>.any) 47 (ag (j1 : Int))) 46 (ag (runs.length : Int))) 45 (.list 22 (runs.map (ae 51 (ae 48 ab))))) 14 (.own 61 g4 (s4.map (ae 48 ab)).length)) 11 (ag p)) nB (fun s4 g4=>upd (fun _=>none) 61 (some ⟨g4,51,(s4.map (ae 48 ab)),true⟩)) g1 H (fun fl4 Hp4 j4 s4 g4 hz4 hl4 x4 fb4 hx4 H hg4=>?_) (fun s4 g4 H=>?_)
  ·refine af (aF (af (ah ?_)))
   refine dQ tk (zn j4) (dV (fun _=>rfl) hx4) ?_
   refine am 2 tk rfl (al (ah (am 2 tk rfl ?_)))
   have s59 := clone_15 (m := 59) x4
   refine bT Tryz.call15 (de.r) (bJ.of_own s59) ?_
   refine ka tk rfl rfl rfl rfl (rows' := List.map (ae 48 ab) ([x4] : Rz)) rfl (eW.refl _) rfl rfl ?_
   obtain ⟨x61,h61,H⟩ := ar H
   have k61 := er h61
   refine eC (rows2' := List.map (ae 48 ab) ([x4] : Rz)) (rows' := List.map (ae 48 ab) x61) tk rfl rfl rfl rfl rfl rfl rfl rfl rfl rfl rfl rfl rfl (eW.refl _) (fH k61.1) (fM k61.2.1) (fK k61.2.2) fun g61=>?_
   refine ay tk rfl (al (bA (bW 2 tk rfl ?_)))
   exact eQ g61 H hl4 hg4
  refine bA (bW 2 tk rfl ?_)
  exact eQ g4 H hl1 hg1
 refine au 5 tk rfl (fS 6 rfl rfl rfl ?_)
 exact cI tk H rfl
end
end Go.Proofs.YtnnieenoapkefaaGreatDoor

namespace Go.Proofs.YtnnieenoapkefaaGreatDoor
noncomputable section
open Go Go.Ab
open Go.Sort (SWO PermIn SortedIn swp siftDown heapBuild Ok Over sift build root_max permIn_refl permIn_trans permIn_mono permIn_all swp_permIn swp_get size_swp)
section
variable {byA : LExtsortOrdering}
abbrev br (byA : LExtsortOrdering) := Tag byA × Nat × List (Tag byA)
instance [Inhabited (Tag byA)] : Inhabited (br byA) := ⟨(default,0,[])⟩
def vH (h : br byA) : LExtsortHead := LExtsortHead.mk (tv h.1) (h.2.1 : Int) (h.2.2.map tv)
def hl (a b : br byA) : Bool := lexB (fun a b : RowN byA.columns.length=>ltD byA.descending a.1 b.1) (dw a.1,a.2.1) (dw b.1,b.2.1)
def fl (a b : br byA) : Bool := hl b a
theorem hl_swo : SWO (hl (byA := byA)) := swo_pull (iG (iM byA.descending byA.columns.length)).swo fun h : br byA=>(dw h.1,h.2.1)
theorem fl_swo : SWO (fl (byA := byA)) where
 irrefl := fun x=>hl_swo.irrefl x
 trans := fun x y z h1 h2=>hl_swo.trans z y x h2 h1
 ntrans := fun x y z h1 h2=>hl_swo.ntrans z y x h2 h1
def rpH (A : Array (br byA)) : LExtsortHeads := LExtsortHeads.mk byA (A.toList.map vH)
theorem ff (A : Array (br byA)) : (rpH A).l.length = A.size := by simp [rpH]
variable [Inhabited (Tag byA)]
theorem eE {A : Array (br byA)} {n : Nat} (h : n < A.size) : aL (A.toList.map vH) (n : Int) = some (vH A[n]!) := by
 rw [ip (by simpa using h)]
 simp [getElem!_pos A n h]
theorem less_run (hc : byA.columns.length ≤ 1000) {A : Array (br byA)} {i j : Nat} (hi : i < A.size) (hj : j < A.size) : bi (rpH A) (i : Int) (j : Int) = some (hl A[i]! A[j]!,rpH A) := by
 unfold bi
 show ac (aL (A.toList.map vH) (i : Int)) _ = _
 rw [eE hi,bPs]
 show ac (aL (A.toList.map vH) (j : Int)) _ = _
 rw [eE hj,bPs]
 show ac (cv A[i]!.1.1.1 A[j]!.1.1.1 byA) _ = _
 rw [order_eq hc A[i]!.1.2 A[j]!.1.2,bPs]
 have hz := cmpD_zero byA.descending (gc byA A[i]!.1.1.1) (gc byA A[j]!.1.1.1) (by rw [gE,gE])
 unfold hl lexB ltD
 generalize hcm : eA byA.descending (gc byA A[i]!.1.1.1) (gc byA A[j]!.1.1.1) = c at hz ⊢
 have hcm' : eA byA.descending (dw A[i]!.1).1 (dw A[j]!.1).1 = c := hcm
 by_cases h1 : c < 0
 ·rw [zt h1,zc]
  have hne : dw A[i]!.1 ≠ dw A[j]!.1 := fun e=>by
   have : c = 0 := hz.2 (congrArg Subtype.val e)
   omega
  dsimp only
  rw [zy hne,hcm',zt h1]
 ·rw [zf h1,zd]
  dsimp only
  by_cases h2 : c = 0
  ·rw [beqT h2,zc]
   have he : dw A[i]!.1 = dw A[j]!.1 := Subtype.ext (hz.1 h2)
   show ac (aL (A.toList.map vH) (i : Int)) _ = _
   rw [eE hi,bPs]
   show ac (aL (A.toList.map vH) (j : Int)) _ = _
   rw [eE hj,bPs,zp he]
   show some (decide ((A[i]!.2.1 : Int) < (A[j]!.2.1 : Int)),_) = _
   congr 2
   exact decide_eq_decide.2 (by omega)
  ·rw [beqF h2,zd]
   have hne : dw A[i]!.1 ≠ dw A[j]!.1 := fun e=>h2 (hz.2 (congrArg Subtype.val e))
   rw [zy hne,hcm',zf h1]
theorem swap_run {A : Array (br byA)} {i j : Nat} (hi : i < A.size) (hj : j < A.size) : bq (rpH A) (i : Int) (j : Int) = some (rpH (swp A i j)) := by
 unfold bq
 show ac (aL (A.toList.map vH) (j : Int)) _ = _
 rw [eE hj,bPs]
 show ac (aL (A.toList.map vH) (i : Int)) _ = _
 rw [eE hi,bPs]
 show ac (aL (A.toList.map vH) (i : Int)) _ = _
 rw [eE hi,bPs,bU]
 have hs : ∀ (B : Array (br byA)) (n : Nat) (x : br byA),(B.toList.map vH).set n (vH x) = (B.setIfInBounds n x).toList.map vH := fun B n x=>by simp
 show ac (aL ((A.toList.map vH).set (i : Int).toNat (vH A[j]!)) (j : Int)) _ = _
 rw [Int.toNat_natCast,hs,eE (A := A.setIfInBounds i A[j]!) (by simpa using hj),bPs,bU,Int.toNat_natCast]
 show some (LExtsortHeads.mk byA (((A.toList.map vH).set i (vH A[j]!)).set j (vH A[i]!))) = _
 rw [hs,hs]
 rfl
theorem down_run (hc : byA.columns.length ≤ 1000) {A : Array (br byA)} {i0 n : Nat} (hs : A.size ≤ 1000000) (hn : n ≤ A.size) (hi : i0 ≤ A.size) : ∃ b,ck (rpH A) (i0 : Int) (n : Int) = some (b,rpH (siftDown fl n 0 i0 A)) := by
 unfold ck
 have := bc (step := fun (s1 : Int × LExtsortHeads) =>
  cp (
   cond (decide ((IntKind.i64.wrap ((IntKind.i64.wrap ((2 : Int) * s1.1)) + (1 : Int))) ≥ (n : Int)))
    (true)
    ((decide ((IntKind.i64.wrap ((IntKind.i64.wrap ((2 : Int) * s1.1)) + (1 : Int))) < (0 : Int))))) fun (t8 : Bool) =>
  cond t8
   (some (Flow.brk (ρ := Empty) (s1.1,s1.2)))
   (ac (
    cond (decide ((IntKind.i64.wrap ((IntKind.i64.wrap ((IntKind.i64.wrap ((2 : Int) * s1.1)) + (1 : Int))) + (1 : Int))) < (n : Int)))
     (ac (bi s1.2 (IntKind.i64.wrap ((IntKind.i64.wrap ((IntKind.i64.wrap ((2 : Int) * s1.1)) + (1 : Int))) + (1 : Int))) (IntKind.i64.wrap ((IntKind.i64.wrap ((2 : Int) * s1.1)) + (1 : Int)))) fun x32 =>
     some (x32.1,x32.2))
     (some (false,s1.2))) fun (t9 : Bool × LExtsortHeads) =>
   cp (
    cond t9.1
     ((IntKind.i64.wrap ((IntKind.i64.wrap ((IntKind.i64.wrap ((2 : Int) * s1.1)) + (1 : Int))) + (1 : Int))))
     ((IntKind.i64.wrap ((IntKind.i64.wrap ((2 : Int) * s1.1)) + (1 : Int))))) fun (t10 : Int) =>
   ac (bi t9.2 t10 s1.1) fun x38 =>
   cond (!x38.1)
    (some (.brk (s1.1,x38.2)))
    (ac (bq x38.2 s1.1 t10) fun x43 =>
    some (.next (t10,x43))))) (k := fun (s1 : Int × LExtsortHeads)=>some ((decide (s1.1 > (i0 : Int))),s1.2)) (s := ((i0 : Int),rpH A)) (R := fun r=>r.2 = rpH (siftDown fl n 0 i0 A))
  (fun s=>∃ (D : Array (br byA)) (r : Nat),s = ((r : Int),rpH D) ∧ D.size = A.size ∧ r ≤ 1000000 ∧ siftDown fl n 0 r D = siftDown fl n 0 i0 A) (fun s=>((n : Int) - s.1).toNat) (fun s=>s.2 = rpH (siftDown fl n 0 i0 A)) ⟨A,i0,rfl,rfl,by omega,rfl⟩ (fun s hI=>?_) (fun s hq=>⟨_,rfl,hq⟩)
 ·obtain ⟨⟨b,h⟩,h1,h2⟩ := this
  exact ⟨b,by rw [h1,← h2]⟩
 obtain ⟨D,r,rfl,hD,hr,hO⟩ := hI
 dsimp only
 rw [bH (z := 2 * (r : Int)) (n := 2 * r),bH (z := ((2 * r : Nat) : Int) + 1) (n := 2 * r + 1),bH (z := ((2 * r + 1 : Nat) : Int) + 1) (n := 2 * r + 2)]
 rw [siftDown] at hO
 simp only [Nat.zero_add] at hO
 by_cases hge : 2 * r + 1 ≥ n
 ·rw [zt (show ((2 * r + 1 : Nat) : Int) ≥ (n : Int) from by omega),zc,bU,zc]
  rw [dif_pos hge] at hO
  exact ⟨_,rfl,by show rpH D = _; rw [hO]⟩
 ·rw [zf (show ¬ ((2 * r + 1 : Nat) : Int) ≥ (n : Int) from by omega),zd,bU,zf (show ¬ ((2 * r + 1 : Nat) : Int) < 0 from by omega),zd]
  rw [dif_neg hge] at hO
  obtain ⟨ch,h1,h2,h3,h4⟩ : ∃ ch : Nat,ch < n ∧ r < ch ∧ (∃ t : Bool,(cond (decide (((2 * r + 2 : Nat) : Int) < (n : Int)))
     (ac (bi (rpH D) ((2 * r + 2 : Nat) : Int) ((2 * r + 1 : Nat) : Int)) fun x32=>some (x32.1,x32.2))
     (some (false,rpH D)) : Option (Bool × LExtsortHeads)) = some (t,rpH D) ∧ (cond t ((2 * r + 2 : Nat) : Int) ((2 * r + 1 : Nat) : Int)) = (ch : Int)) ∧
    (if !fl D[r]! D[ch]! then D else siftDown fl n 0 ch (swp D r ch)) = siftDown fl n 0 i0 A := by
   by_cases hc1 : 2 * r + 2 < n
   ·rw [zt (show ((2 * r + 2 : Nat) : Int) < (n : Int) from by omega),zc,less_run hc (by omega) (by omega),bPs]
    cases hx : fl D[2 * r + 1]! D[2 * r + 2]! with
    | true =>
     refine ⟨2 * r + 2,hc1,by omega,⟨true,by rw [show hl D[2 * r + 2]! D[2 * r + 1]! = true from hx],rfl⟩,?_⟩
     rw [zp (by rw [hx]; simp; omega)] at hO
     rw [← hO]
     split
     ·rfl
     ·rfl
    | false =>
     refine ⟨2 * r + 1,by omega,by omega,⟨false,by rw [show hl D[2 * r + 2]! D[2 * r + 1]! = false from hx],rfl⟩,?_⟩
     rw [zy (by rw [hx]; simp)] at hO
     exact hO
   ·rw [zf (show ¬ ((2 * r + 2 : Nat) : Int) < (n : Int) from by omega),zd]
    refine ⟨2 * r + 1,by omega,by omega,⟨false,rfl,rfl⟩,?_⟩
    rw [zy (by simp; omega)] at hO
    exact hO
  obtain ⟨t,h3,h5⟩ := h3
  rw [h3,bPs,bU,h5,less_run hc (by omega) (by omega),bPs]
  dsimp only
  cases hx : fl D[r]! D[ch]! with
  | true =>
   rw [show hl D[ch]! D[r]! = true from hx,Bool.not_true,zd,swap_run (by omega) (by omega),bPs]
   rw [hx] at h4
   exact ⟨_,rfl,⟨swp D r ch,ch,rfl,by rw [size_swp]; exact hD,by omega,h4⟩,by show ((n : Int) - (ch : Int)).toNat < ((n : Int) - (r : Int)).toNat; omega⟩
  | false =>
   rw [show hl D[ch]! D[r]! = false from hx,Bool.not_false,zc]
   rw [hx] at h4
   exact ⟨_,rfl,by show rpH D = _; rw [← h4]; rfl⟩
def fC (A : Array (br byA)) : Prop := ∀ i,i < A.size → Ok fl 0 A.size A i
theorem init_run (hc : byA.columns.length ≤ 1000) {A : Array (br byA)} (hs : A.size ≤ 1000000) : ∃ B,cE (rpH A) = some (rpH B) ∧ PermIn 0 A.size A B ∧ fC B := by
 obtain ⟨b1,b2⟩ := build fl_swo A.size 0 (A.size / 2) A (by omega) (fun i h1 _ k hk hkh=>by omega)
 rw [Nat.zero_add] at b2
 refine ⟨heapBuild fl A.size 0 (A.size / 2) A,?_,b2,fun i hi=>by rw [b2.1] at hi ⊢; exact b1 i hi⟩
 unfold cE
 rw [bU,show az (rpH A) = ((A.size : Int),rpH A) from by unfold az; rw [ff]]
 dsimp only
 have e0 : IntKind.i64.wrap (IntKind.i64.wrap (Int.tdiv (A.size : Int) 2) - 1) = ((A.size / 2 : Nat) : Int) - 1 := by
  rw [show Int.tdiv (A.size : Int) 2 = ((A.size / 2 : Nat) : Int) from by
   rw [Int.tdiv_eq_ediv_of_nonneg (by omega)]
   omega,aB (n := ((A.size / 2 : Nat) : Int)) (by omega) (by omega),aB (by omega) (by omega)]
 rw [e0]
 refine ex_eq (bc (fun s=>∃ (D : Array (br byA)) (k : Nat),s = ((k : Int) - 1,rpH D) ∧ D.size = A.size ∧ k ≤ A.size / 2 ∧ heapBuild fl A.size 0 k D = heapBuild fl A.size 0 (A.size / 2) A) (fun s=>(s.1 + 1).toNat) (fun s=>s.2 = rpH (heapBuild fl A.size 0 (A.size / 2) A)) ⟨A,A.size / 2,rfl,rfl,Nat.le_refl _,rfl⟩ (fun s hI=>?_) (fun s hq=>⟨_,rfl,hq⟩))
 obtain ⟨D,k,rfl,hD,hk,hO⟩ := hI
 dsimp only
 cases k with
 | zero =>
  rw [zf (by omega),zd]
  exact ⟨_,rfl,by show rpH D = _; rw [← hO]; rfl⟩
 | succ k =>
  rw [zt (by omega),zc,show ((k + 1 : Nat) : Int) - 1 = (k : Int) from by omega]
  obtain ⟨b,hb⟩ := down_run hc (A := D) (i0 := k) (n := A.size) (by omega) (by omega) (by omega)
  rw [hb,bPs]
  refine ⟨_,rfl,⟨siftDown fl A.size 0 k D,k,by rw [aB (by omega) (by omega)],?_,by omega,hO⟩,by
   show (IntKind.i64.wrap ((k : Int) - 1) + 1).toNat < ((k : Int) + 1).toNat
   rw [aB (by omega) (by omega)]
   omega⟩
  have hsz : ∀ (hi first : Nat) (n root : Nat) (D : Array (br byA)),hi - root ≤ n → (siftDown fl hi first root D).size = D.size := by
   intro hi first n
   induction n with
   | zero=>intro root D hn; rw [siftDown,dif_pos (by omega)]
   | succ n ih =>
    intro root D hn
    rw [siftDown]
    split
    ·rfl
    ·split
     ·split
      ·rfl
      ·split
       ·rw [ih _ _ (by omega),size_swp]
       ·rfl
     ·split
      ·rfl
      ·rw [ih _ _ (by omega),size_swp]
  rw [hsz _ _ _ _ _ (Nat.le_refl _)]
  exact hD
theorem up_run (hc : byA.columns.length ≤ 1000) {A : Array (br byA)} {j0 : Nat} (hs : A.size ≤ 1000000) (hj : j0 < A.size)
  (U1 : ∀ i k,(k = 2 * i + 1 ∨ k = 2 * i + 2) → k < A.size → k ≠ j0 → fl A[i]! A[k]! = false) (U2 : 0 < j0 → ∀ c,(c = 2 * j0 + 1 ∨ c = 2 * j0 + 2) → c < A.size → fl A[(j0 - 1) / 2]! A[c]! = false) :
  ∃ B,cS (rpH A) (j0 : Int) = some (rpH B) ∧ PermIn 0 A.size A B ∧ fC B := by
 unfold cS
 have := bc (step := fun (s1 : Int × LExtsortHeads) =>
  cond ((IntKind.i64.wrap (Int.tdiv (IntKind.i64.wrap (s1.1 - (1 : Int))) (2 : Int))) == s1.1)
   (some (Flow.brk (ρ := Empty) (s1.1,s1.2)))
   (ac (bi s1.2 s1.1 (IntKind.i64.wrap (Int.tdiv (IntKind.i64.wrap (s1.1 - (1 : Int))) (2 : Int)))) fun x15 =>
   cond (!x15.1)
    (some (.brk (s1.1,x15.2)))
    (ac (bq x15.2 (IntKind.i64.wrap (Int.tdiv (IntKind.i64.wrap (s1.1 - (1 : Int))) (2 : Int))) s1.1) fun x21 =>
    some (.next ((IntKind.i64.wrap (Int.tdiv (IntKind.i64.wrap (s1.1 - (1 : Int))) (2 : Int))),x21))))) (k := fun (s1 : Int × LExtsortHeads)=>some s1.2) (s := ((j0 : Int),rpH A)) (R := fun r=>∃ B,r = rpH B ∧ PermIn 0 A.size A B ∧ fC B)
  (fun s=>∃ (D : Array (br byA)) (j : Nat),s = ((j : Int),rpH D) ∧ PermIn 0 A.size A D ∧ j < A.size ∧ (∀ i k,(k = 2 * i + 1 ∨ k = 2 * i + 2) → k < A.size → k ≠ j → fl D[i]! D[k]! = false) ∧ (0 < j → ∀ c,(c = 2 * j + 1 ∨ c = 2 * j + 2) → c < A.size → fl D[(j - 1) / 2]! D[c]! = false)) (fun s=>s.1.toNat) (fun s=>∃ B,s.2 = rpH B ∧ PermIn 0 A.size A B ∧ fC B)
  ⟨A,j0,rfl,permIn_refl _ _ _,hj,U1,U2⟩ (fun s hI=>?_) (fun s hq=>⟨_,rfl,hq⟩)
 ·obtain ⟨r,h1,B,rfl,h2,h3⟩ := this
  exact ⟨B,h1,h2,h3⟩
 obtain ⟨D,j,rfl,hP,hjn,V1,V2⟩ := hI
 have hD := hP.1
 dsimp only
 by_cases h0 : j = 0
 ·subst h0
  rw [beqT (by decide),zc]
  exact ⟨_,rfl,D,rfl,hP,fun i hi k hk hkh=>by
   rw [Nat.zero_add,Nat.zero_add]
   exact V1 i k hk (by omega) (by omega)⟩
 ·have e : IntKind.i64.wrap (Int.tdiv (IntKind.i64.wrap ((j : Int) - 1)) 2) = (((j - 1) / 2 : Nat) : Int) := by
   rw [aB (n := (j : Int) - 1) (by omega) (by omega),Int.tdiv_eq_ediv_of_nonneg (by omega),aB (by omega) (by omega)]
   omega
  generalize hp : (j - 1) / 2 = p at e V2
  have hpj : p < j ∧ (j = 2 * p + 1 ∨ j = 2 * p + 2) := by omega
  rw [e,beqF (by omega),zd,less_run hc (by omega) (by omega),bPs]
  dsimp only
  cases hx : hl D[j]! D[p]! with
  | false =>
   rw [Bool.not_false,zc]
   exact ⟨_,rfl,D,rfl,hP,fun i hi k hk hkh=>by
    rw [Nat.zero_add,Nat.zero_add]
    by_cases hkj : k = j
    ·subst hkj
     have : i = p := by omega
     subst this
     exact hx
    ·exact V1 i k hk (by omega) hkj⟩
  | true =>
   rw [Bool.not_true,zd,swap_run (by omega) (by omega),bPs]
   have hfx : fl D[p]! D[j]! = true := hx
   have g : ∀ k,(swp D p j)[k]! = if k = j then D[p]! else if k = p then D[j]! else D[k]! := fun k=>swp_get D (by omega) (by omega) k
   refine ⟨_,rfl,⟨swp D p j,p,rfl,permIn_trans _ _ _ _ _ hP (swp_permIn D 0 A.size p j (by omega) (by omega) (by omega) (by omega) (by omega)),by omega,fun i k hk hkn hkp=>?_,fun hp0 c hcc hcn=>?_⟩,by show ((p : Int)).toNat < ((j : Int)).toNat; omega⟩
   ·rw [g i,g k]
    by_cases hip : i = p
    ·subst hip
     rw [zy (by omega),zp rfl]
     by_cases hkj : k = j
     ·rw [zp hkj]
      exact Go.Sort.SWO.asym fl_swo hfx
     ·rw [zy hkj,zy (by omega)]
      have h1 := V1 i k hk hkn hkj
      cases h2 : fl D[j]! D[k]! with
      | false=>rfl
      | true=>rw [fl_swo.trans _ _ _ hfx h2] at h1; cases h1
    ·by_cases hij : i = j
     ·subst hij
      rw [zp rfl,zy (by omega),zy hkp]
      exact V2 (by omega) k hk hkn
     ·rw [zy hij,zy hip,zy (by omega),zy hkp]
      exact V1 i k hk hkn (by omega)
   ·have hq : p = 2 * ((p - 1) / 2) + 1 ∨ p = 2 * ((p - 1) / 2) + 2 := by omega
    have hqp := V1 ((p - 1) / 2) p hq (by omega) (by omega)
    rw [g ((p - 1) / 2),g c,zy (by omega),zy (by omega)]
    by_cases hcj : c = j
    ·rw [zp hcj]
     exact hqp
    ·rw [zy hcj,zy (by omega)]
     exact fl_swo.ntrans _ _ _ hqp (V1 p c hcc hcn hcj)
omit [Inhabited (Tag byA)] in
theorem gY {A B : Array (br byA)} [Inhabited (br byA)] (h : PermIn 0 A.size A B) : B.toList.Perm A.toList := by
 have h3 := h.2.2
 have e1 : A.extract 0 A.size = A := by simp
 have e2 : B.extract 0 A.size = B := by rw [← h.1]; simp
 rw [e1,e2] at h3
 exact h3
theorem pop_run (hc : byA.columns.length ≤ 1000) {A : Array (br byA)} (hs : A.size ≤ 1000000) (h0 : 0 < A.size) (hH : fC A) :
  ∃ C,bX (rpH A) = some (vH A[0]!,rpH C) ∧ (A[0]! :: C.toList).Perm A.toList ∧ fC C ∧ ∀ x ∈ A.toList,hl x A[0]! = false := by
 obtain ⟨n,hn⟩ : ∃ n,A.size = n + 1 := ⟨A.size - 1,by omega⟩
 have g : ∀ k,(swp A 0 n)[k]! = if k = n then A[0]! else if k = 0 then A[n]! else A[k]! := fun k=>swp_get A (by omega) (by omega) k
 obtain ⟨R1,R2⟩ := sift fl_swo n 0 0 n 0 (swp A 0 n) (by omega) (by rw [size_swp]; omega) (Nat.le_refl _)
  (fun i _ h2 h3 kk hkk hkkh=>by
   rw [Nat.zero_add,Nat.zero_add,g i,g kk,zy (by omega),zy h3,zy (by omega),zy (by omega)]
   have := hH i (by omega) kk hkk (by omega)
   simpa using this)
  (fun p _ hp=>by omega)
 rw [Nat.zero_add] at R2
 have hsw : PermIn 0 A.size A (swp A 0 n) := swp_permIn A 0 A.size 0 n (by omega) (by omega) (by omega) (by omega) (by omega)
 obtain ⟨B,hB⟩ : ∃ B,B = siftDown fl n 0 0 (swp A 0 n) := ⟨_,rfl⟩
 rw [← hB] at R1 R2
 have hBs : B.size = n + 1 := by rw [R2.1,size_swp,hn]
 have hBn : B[n]! = A[0]! := by rw [R2.2.1 n (.inr (by omega)),g n,zp rfl]
 have hBp : B.toList.Perm A.toList := gY (permIn_trans _ _ _ _ _ hsw (permIn_mono _ _ _ _ _ _ (Nat.le_refl _) (by omega) (by rw [size_swp]; omega) R2))
 have hl0 : B.toList.take n ++ [A[0]!] = B.toList := by
  have hlt : B.toList.length = n + 1 := by rw [← hBs]; rfl
  have hlen : n < B.toList.length := by omega
  have e : B[n]! = B.toList[n] := by rw [getElem!_pos B n (by omega)]; rfl
  rw [← hBn,e,List.take_append_getElem hlen]
  exact List.take_of_length_le (by omega)
 have hCg : ∀ i,i < n → (B.toList.take n).toArray[i]! = B[i]! := fun i hi=>by
  have h1 : i < (B.toList.take n).toArray.size := by simp; omega
  rw [getElem!_pos _ i h1,getElem!_pos B i (by omega)]
  simp
 have hCs : (B.toList.take n).toArray.size = n := by simp; omega
 refine ⟨(B.toList.take n).toArray,?_,?_,fun i hi k hk hkh=>?_,fun x hx=>?_⟩
 ·unfold bX
  rw [bU,show az (rpH A) = ((A.size : Int),rpH A) from by unfold az; rw [ff]]
  dsimp only
  have e0 : IntKind.i64.wrap ((A.size : Int) - 1) = (n : Int) := by rw [aB (by omega) (by omega)]; omega
  rw [e0,show (0 : Int) = ((0 : Nat) : Int) from rfl,swap_run (by omega) (by omega),bPs]
  obtain ⟨b,hb⟩ := down_run hc (A := swp A 0 n) (i0 := 0) (n := n) (by rw [size_swp]; omega) (by rw [size_swp]; omega) (by omega)
  rw [hb,bPs,← hB]
  dsimp only
  unfold dI
  have e1 : IntKind.i64.wrap (((rpH B).l.length : Int) - 1) = (n : Int) := by rw [ff,aB (by omega) (by omega)]; omega
  rw [e1]
  show ac (ac (aL (B.toList.map vH) (n : Int)) _) _ = _
  rw [eE (by omega),bPs,hBn]
  have hcut : cutI (rpH B).l (n : Int) = some ((B.toList.map vH).take n) := by
   unfold cutI
   rw [zp ⟨by omega,by rw [ff,Int.toNat_natCast]; omega⟩,Int.toNat_natCast]
   rfl
  rw [hcut,bPs,bPs,← List.map_take]
  rfl
 ·refine List.Perm.trans ?_ hBp
  have hp : (A[0]! :: (B.toList.take n)).Perm (B.toList.take n ++ [A[0]!]) := List.perm_append_comm (l₁ := [A[0]!])
  rw [hl0] at hp
  exact hp
 ·rw [hCs] at hi hkh
  rw [Nat.zero_add,Nat.zero_add,hCg i hi,hCg k hkh]
  have := R1 i (Nat.zero_le _) hi k hk hkh
  simpa using this
 ·obtain ⟨i,hi,rfl⟩ := List.getElem_of_mem hx
  have hi' : i < A.size := by simpa using hi
  have := root_max fl_swo (hi := A.size) (F := 0) (d := A) hH i i (Nat.le_refl _) hi'
  rw [Nat.zero_add,Nat.zero_add,getElem!_pos A i hi'] at this
  simpa [fl] using this
theorem push_run (hc : byA.columns.length ≤ 1000) {A : Array (br byA)} (hs : A.size < 1000000) (hH : fC A) (x : br byA) :
  ∃ C,cj (rpH A) (vH x) = some (rpH C) ∧ C.toList.Perm (x :: A.toList) ∧ fC C := by
 have hg : ∀ k,k < A.size → (A.push x)[k]! = A[k]! := fun k hk=>by
  rw [getElem!_pos (A.push x) k (by simp; omega),getElem!_pos A k hk,Array.getElem_push_lt hk]
 have hz : (A.push x).size = A.size + 1 := by simp
 obtain ⟨B,h1,h2,h3⟩ := up_run hc (A := A.push x) (j0 := A.size) (by omega) (by omega)
  (fun i k hk hkn hkj=>by
   rw [hg i (by omega),hg k (by omega)]
   have := hH i (by omega) k hk (by omega)
   simpa using this)
  (fun h0 c hcc hcn=>by omega)
 refine ⟨B,?_,?_,h3⟩
 ·unfold cj du
  rw [fL (by rw [ff]; simp; omega) (by unfold maxLen; rw [ff]; simp; omega),bPs,bPs,bU]
  have e0 : LExtsortHeads.mk (rpH A).byF ((rpH A).l ++ [vH x]) = rpH (A.push x) := by simp [rpH]
  rw [e0,show az (rpH (A.push x)) = (((A.push x).size : Int),rpH (A.push x)) from by unfold az; rw [ff]]
  dsimp only
  rw [hz,aB (n := ((A.size + 1 : Nat) : Int) - 1) (by omega) (by omega),show ((A.size + 1 : Nat) : Int) - 1 = (A.size : Int) from by omega,h1,bPs]
 ·refine (gY h2).trans ?_
  rw [Array.toList_push]
  exact List.perm_append_comm (l₂ := [x])
end
end
end Go.Proofs.YtnnieenoapkefaaGreatDoor

namespace Go.Proofs.YtnnieenoapkefaaGreatDoor
noncomputable section
open Go Go.Ab
open Go.Sort (SWO PermIn SortedIn)
section
variable {byA : LExtsortOrdering}
def dB (h : br byA) : List (Tag byA) := h.1 :: h.2.2
structure HOk (Hs : List (br byA)) : Prop where
 ord : ∀ h ∈ Hs,cZ (dB h)
 ne : Hs.Pairwise fun h h'=>h.2.1 ≠ h'.2.1
 cross : ∀ h ∈ Hs,∀ h' ∈ Hs,h.2.1 < h'.2.1 → ∀ x ∈ dB h,∀ y ∈ dB h',tix x < tix y
theorem HOk.perm {Hs Hs' : List (br byA)} (h : HOk Hs) (hp : Hs'.Perm Hs) : HOk Hs' :=
 ⟨fun x hx=>h.ord x (hp.mem_iff.1 hx),(hp.pairwise_iff fun h=>Ne.symm h).2 h.ne,fun x hx y hy=>h.cross x (hp.mem_iff.1 hx) y (hp.mem_iff.1 hy)⟩
theorem HOk.tail {m : br byA} {Hs : List (br byA)} (h : HOk (m :: Hs)) : HOk Hs :=
 ⟨fun x hx=>h.ord x (List.mem_cons_of_mem _ hx),(List.pairwise_cons.1 h.ne).2,fun x hx y hy=>h.cross x (List.mem_cons_of_mem _ hx) y (List.mem_cons_of_mem _ hy)⟩
theorem HOk.next {x y : Tag byA} {r : Nat} {ys : List (Tag byA)} {Hs : List (br byA)} (h : HOk ((x,r,y :: ys) :: Hs)) : HOk ((y,r,ys) :: Hs) := by
 have sub : ∀ z,z ∈ dB ((y,r,ys) : br byA) → z ∈ dB ((x,r,y :: ys) : br byA) := fun z hz=>List.mem_cons_of_mem _ hz
 refine ⟨fun k hk=>?_,List.pairwise_cons.2 ⟨(List.pairwise_cons.1 h.ne).1,(List.pairwise_cons.1 h.ne).2⟩,fun k hk k' hk' hlt a ha b hb=>?_⟩
 ·rcases List.mem_cons.1 hk with rfl | hk
  ·exact (List.pairwise_cons.1 (h.ord (x,r,y :: ys) (by simp))).2
  ·exact h.ord k (List.mem_cons_of_mem _ hk)
 ·rcases List.mem_cons.1 hk with rfl | hk
  ·rcases List.mem_cons.1 hk' with rfl | hk'
   ·omega
   ·exact h.cross (x,r,y :: ys) (by simp) k' (List.mem_cons_of_mem _ hk') hlt a (sub a ha) b hb
  ·rcases List.mem_cons.1 hk' with rfl | hk'
   ·exact h.cross k (List.mem_cons_of_mem _ hk) (x,r,y :: ys) (by simp) hlt a ha b (sub b hb)
   ·exact h.cross k (List.mem_cons_of_mem _ hk) k' (List.mem_cons_of_mem _ hk') hlt a ha b hb
theorem tlt_trans {x y z : Tag byA} (h1 : tlt x y = true) (h2 : tlt y z = true) : tlt x z = true := (tlt_swo byA).trans x y z h1 h2
theorem HOk.least {m : br byA} {Hs : List (br byA)} (h : HOk (m :: Hs)) (hm : ∀ x ∈ Hs,hl x m = false) : ∀ t ∈ m.2.2 ++ Hs.flatMap dB,tlt m.1 t = true := by
 intro t ht
 rcases List.mem_append.1 ht with ht | ht
 ·exact (List.pairwise_cons.1 (h.ord m (by simp))).1 t ht
 ·obtain ⟨x,hx,hxt⟩ := List.mem_flatMap.1 ht
  have hne := (List.pairwise_cons.1 h.ne).1 x hx
  have h1 := hm x hx
  have h2 : lexB (fun a b : RowN byA.columns.length=>ltD byA.descending a.1 b.1) (dw m.1,m.2.1) (dw x.1,x.2.1) = true := by
   cases h3 : lexB (fun a b : RowN byA.columns.length=>ltD byA.descending a.1 b.1) (dw m.1,m.2.1) (dw x.1,x.2.1) with
   | true=>rfl
   | false=>exact absurd (congrArg Prod.snd ((iG (iM byA.descending byA.columns.length)).tri _ _ h3 h1)) hne
  have h4 : tlt m.1 x.1 = true := by
   unfold tlt
   unfold lexB at h2 ⊢
   by_cases e : dw m.1 = dw x.1
   ·rw [zp e] at h2 ⊢
    exact zt (h.cross m (by simp) x (List.mem_cons_of_mem _ hx) (of_decide_eq_true h2) m.1 (by simp [dB]) x.1 (by simp [dB]))
   ·rw [zy e] at h2 ⊢
    exact h2
  rcases List.mem_cons.1 hxt with rfl | hxt
  ·exact h4
  ·exact tlt_trans h4 ((List.pairwise_cons.1 (h.ord x (List.mem_cons_of_mem _ hx))).1 t hxt)
structure RunsOk (Rs : List (List (Tag byA))) : Prop where
 ord : ∀ r ∈ Rs,cZ r
 cross : ∀ (i j : Nat) (r r' : List (Tag byA)),i < j → Rs[i]? = some r → Rs[j]? = some r' → ∀ x ∈ r,∀ y ∈ r',tix x < tix y
theorem heads_run {Rs : List (List (Tag byA))} (hR : RunsOk Rs) (hs : Rs.length ≤ 1000000) (hl : ∀ r ∈ Rs,r.length ≤ 1000000) : ∃ Hs : List (br byA),aX (σ := List LExtsortHead) (ρ := Empty) (fun (j1 : Nat) (x1 : Rz) (s1 : List LExtsortHead) =>
  cond (decide ((x1.length : Int) > (0 : Int)))
   (ac (aL x1 0) fun (x29 : Rq) =>
   ac (subI x1 1 (x1.length : Int)) fun (x33 : Rz) =>
   ac (eF 56 s1 ([(LExtsortHead.mk x29 (j1 : Int) x33)] : List LExtsortHead)) fun (x36 : List LExtsortHead) =>
   some (.next x36))
   (some (.next s1))) 0 (Rs.map (List.map tv)) [] = some (.next (Hs.map vH)) ∧ HOk Hs ∧ Hs.flatMap dB = Rs.flatten ∧ Hs.length ≤ Rs.length := by
 obtain ⟨fl,e1,e2⟩ := eu (σ := List LExtsortHead) (ρ := Empty) (step := fun (j1 : Nat) (x1 : Rz) (s1 : List LExtsortHead) =>
  cond (decide ((x1.length : Int) > (0 : Int)))
   (ac (aL x1 0) fun (x29 : Rq) =>
   ac (subI x1 1 (x1.length : Int)) fun (x33 : Rz) =>
   ac (eF 56 s1 ([(LExtsortHead.mk x29 (j1 : Int) x33)] : List LExtsortHead)) fun (x36 : List LExtsortHead) =>
   some (.next x36))
   (some (.next s1)))
  (fun j s=>∃ Hs : List (br byA),s = Hs.map vH ∧ HOk Hs ∧ Hs.flatMap dB = (Rs.take j).flatten ∧ Hs.length ≤ j ∧ ∀ h ∈ Hs,∃ r,h.2.1 < j ∧ Rs[h.2.1]? = some r ∧ dB h = r) (fun _=>False) (Rs.map (List.map tv)) 0 []
  ⟨[],rfl,⟨fun _ h=>(by cases h),List.Pairwise.nil,fun _ h=>(by cases h)⟩,by simp,by simp,fun _ h=>(by cases h)⟩ (fun j x s hj hI=>by
   obtain ⟨Hs,rfl,hH,hF,hL,hM⟩ := hI
   simp only [Nat.zero_add] at hF hL hM ⊢
   rw [List.getElem?_map] at hj
   obtain ⟨r,hr,rfl⟩ := Option.map_eq_some_iff.1 hj
   have hjl := (zg.1 hr).1
   have hrm := List.mem_of_getElem? hr
   have hrl := hl r hrm
   have hT : (Rs.take (j + 1)).flatten = (Rs.take j).flatten ++ r := by rw [List.take_add_one,hr]; simp
   cases r with
   | nil =>
    refine ⟨_,rfl,Hs,rfl,hH,by rw [hT,hF]; simp,by omega,fun h hh=>?_⟩
    obtain ⟨r,h1,h2,h3⟩ := hM h hh
    exact ⟨r,by omega,h2,h3⟩
   | cons y ys =>
    rw [zt (show ((List.map tv (y :: ys)).length : Int) > 0 from by simp <;> omega),zc,show aL (List.map tv (y :: ys)) 0 = some (tv y) from rfl,bPs,subI_ok ⟨by omega,by simp <;> omega,Int.le_refl _⟩,bPs,fL (by simp; omega) (by unfold maxLen; simp; omega),bPs]
    refine ⟨_,rfl,Hs ++ [(y,j,ys)],?_,⟨fun h hh=>?_,?_,fun h hh h' hh' hlt a ha b hb=>?_⟩,?_,by simp; omega,fun h hh=>?_⟩
    ·rw [List.map_append]
     congr 1
     show [LExtsortHead.mk _ _ _] = [LExtsortHead.mk _ _ _]
     congr 2
     simp [List.take_of_length_le]
    ·rcases List.mem_append.1 hh with hh | hh
     ·exact hH.ord h hh
     ·have : h = (y,j,ys) := by simpa using hh
      subst this
      exact hR.ord _ hrm
    ·refine List.pairwise_append.2 ⟨hH.ne,by simp,fun a ha b hb=>?_⟩
     have : b = (y,j,ys) := by simpa using hb
     subst this
     obtain ⟨r,h1,_⟩ := hM a ha
     exact Nat.ne_of_lt h1
    ·have hin : ∀ k,k ∈ Hs ++ [(y,j,ys)] → ∃ r,Rs[k.2.1]? = some r ∧ dB k = r := fun k hk=>by
      rcases List.mem_append.1 hk with hk | hk
      ·obtain ⟨r,_,h2,h3⟩ := hM k hk
       exact ⟨r,h2,h3⟩
      ·have : k = (y,j,ys) := by simpa using hk
       subst this
       exact ⟨_,hr,rfl⟩
     obtain ⟨r1,g1,g2⟩ := hin h hh
     obtain ⟨r2,g3,g4⟩ := hin h' hh'
     rw [g2] at ha
     rw [g4] at hb
     exact hR.cross _ _ r1 r2 hlt g1 g3 a ha b hb
    ·rw [List.flatMap_append,hF,hT]
     simp [dB]
    ·rcases List.mem_append.1 hh with hh | hh
     ·obtain ⟨r,h1,h2,h3⟩ := hM h hh
      exact ⟨r,by omega,h2,h3⟩
     ·have : h = (y,j,ys) := by simpa using hh
      subst this
      exact ⟨_,Nat.lt_succ_self j,hr,rfl⟩)
 cases fl with
 | next s =>
  obtain ⟨Hs,rfl,h1,h2,h3,_⟩ := e2
  simp only [Nat.zero_add,zl,List.take_length] at h2 h3
  exact ⟨Hs,e1,h1,h2,h3⟩
 | brk s=>exact absurd e2 (by simp)
 | ret r=>exact r.elim
variable [Inhabited (Tag byA)]
theorem merge_run (hc : byA.columns.length ≤ 1000) {Rs : List (List (Tag byA))} (hR : RunsOk Rs) (hs : Rs.length ≤ 100000) (hl0 : Rs.flatten.length ≤ 100000) :
  ∃ S,cw (Rs.map (List.map tv)) byA = some (S.map tv) ∧ S.Perm Rs.flatten ∧ cZ S := by
 have hlr : ∀ r ∈ Rs,r.length ≤ 1000000 := fun r hr=>by
  have := (List.sublist_flatten_of_mem hr).length_le
  omega
 obtain ⟨Hs,e1,hH,hF,hL⟩ := heads_run hR (by omega) hlr
 unfold cw
 rw [e1,bPs,dz]
 obtain ⟨A,hA,hP,hI⟩ := init_run hc (A := Hs.toArray) (by simp; omega)
 have hin : LExtsortHeads.mk byA (Hs.map vH) = rpH Hs.toArray := rfl
 rw [hin,hA,bPs]
 have hAp : A.toList.Perm Hs := gY hP
 have hAz : A.size = Hs.length := by have := hAp.length_eq; simpa using this
 have := bc (step := fun (s2 : Rz × List Int × List Bool × List LExtsortHead) =>
  cp (az (LExtsortHeads.mk (LExtsortOrdering.mk s2.2.1 s2.2.2.1) s2.2.2.2)) fun x44 =>
  cond (decide (x44.1 > (0 : Int)))
   (ac (bX x44.2) fun x48 =>
   ac (eF 24 s2.1 ([x48.1.row] : Rz)) fun (x54 : Rz) =>
   cond (decide ((x48.1.rest.length : Int) > (0 : Int)))
    (ac (aL x48.1.rest 0) fun (x63 : Rq) =>
    ac (subI x48.1.rest 1 (x48.1.rest.length : Int)) fun (x69 : Rz) =>
    ac (cj x48.2 (LExtsortHead.mk x63 x48.1.runF x69)) fun x72 =>
    some (Flow.next (ρ := Empty) (x54,x72.byF.columns,x72.byF.descending,x72.l)))
    (some (.next (x54,x48.2.byF.columns,x48.2.byF.descending,x48.2.l))))
   (some (.brk (s2.1,x44.2.byF.columns,x44.2.byF.descending,x44.2.l))))
  (k := fun (s2 : Rz × List Int × List Bool × List LExtsortHead)=>some s2.1) (s := ([],(rpH A).byF.columns,(rpH A).byF.descending,(rpH A).l)) (R := fun r=>∃ S : List (Tag byA),r = S.map tv ∧ S.Perm Rs.flatten ∧ cZ S)
  (fun s=>∃ (O : List (Tag byA)) (D : Array (br byA)),s = (O.map tv,byA.columns,byA.descending,D.toList.map vH) ∧ D.size ≤ 100000 ∧ fC D ∧ HOk D.toList ∧ (O ++ D.toList.flatMap dB).Perm Rs.flatten ∧ cZ O ∧ ∀ o ∈ O,∀ x ∈ D.toList.flatMap dB,tlt o x = true)
  (fun s=>Rs.flatten.length - s.1.length) (fun s=>∃ S : List (Tag byA),s.1 = S.map tv ∧ S.Perm Rs.flatten ∧ cZ S)
  ⟨[],A,rfl,by omega,hI,hH.perm hAp,by
   rw [List.nil_append,← hF]
   exact hAp.flatMap_right _,List.Pairwise.nil,fun _ h=>(by cases h)⟩ (fun s hI=>?_) (fun s hq=>⟨_,rfl,hq⟩)
 ·obtain ⟨r,h1,S,rfl,h2,h3⟩ := this
  exact ⟨S,h1,h2,h3⟩
 obtain ⟨O,D,rfl,hDz,hHp,hHO,hPm,hO,hOx⟩ := hI
 dsimp only
 rw [show LExtsortHeads.mk (LExtsortOrdering.mk byA.columns byA.descending) (D.toList.map vH) = rpH D from rfl,bU,show az (rpH D) = ((D.size : Int),rpH D) from by unfold az; rw [ff]]
 dsimp only
 have hlen := hPm.length_eq
 by_cases h0 : D.size = 0
 ·rw [zf (by omega),zd]
  have hD : D.toList = [] := by
   have : D.toList.length = 0 := by simpa using h0
   exact List.eq_nil_of_length_eq_zero this
  rw [hD,List.flatMap_nil,List.append_nil] at hPm
  exact ⟨_,rfl,O,rfl,hPm,hO⟩
 ·rw [zt (by omega),zc]
  obtain ⟨C,p1,p2,p3,p4⟩ := pop_run hc (A := D) (by omega) (by omega) hHp
  generalize D[0]! = m at p1 p2 p4
  obtain ⟨mx,mr,mrest⟩ := m
  have p1' : bX (rpH D) = some (LExtsortHead.mk (tv mx) (mr : Int) (mrest.map tv),rpH C) := p1
  rw [p1',bPs]
  have hHO' := hHO.perm p2
  have hmm := hHO'.least (fun x hx=>p4 x (p2.mem_iff.1 (List.mem_cons_of_mem _ hx)))
  have hfl : (mx :: (mrest ++ C.toList.flatMap dB)).Perm (D.toList.flatMap dB) := p2.flatMap_right dB
  have hCz : C.size + 1 = D.size := by have := p2.length_eq; simpa using this
  have hlen2 := hfl.length_eq
  rw [List.length_append] at hlen
  simp only [List.length_cons] at hlen2
  dsimp only
  rw [fL (by simp; omega) (by unfold maxLen; simp; omega),bPs]
  have hO' : cZ (O ++ [mx]) := List.pairwise_append.2 ⟨hO,by simp,fun a ha b hb=>by
   have : b = mx := by simpa using hb
   subst this
   exact hOx a ha b (hfl.mem_iff.1 (by simp))⟩
  have hPm' : ((O ++ [mx]) ++ (mrest ++ C.toList.flatMap dB)).Perm Rs.flatten := by
   rw [List.append_assoc]
   exact (List.Perm.append_left O hfl).trans hPm
  have hOx' : ∀ o ∈ O ++ [mx],∀ x ∈ mrest ++ C.toList.flatMap dB,tlt o x = true := fun o ho x hx=>by
   rcases List.mem_append.1 ho with ho | ho
   ·exact hOx o ho x (hfl.mem_iff.1 (List.mem_cons_of_mem _ hx))
   ·have : o = mx := by simpa using ho
    subst this
    exact hmm x hx
  have hmu : Rs.flatten.length - (O.map tv ++ [tv mx]).length < Rs.flatten.length - (O.map tv).length := by
   simp only [List.length_append,zl,List.length_singleton]
   omega
  have hmp : O.map tv ++ [tv mx] = (O ++ [mx]).map tv := by simp
  cases mrest with
  | nil =>
   rw [@zf _ _ (show ¬ (((List.map tv ([] : List (Tag byA))).length : Int) > 0) from by simp),zd]
   exact ⟨_,rfl,⟨O ++ [mx],C,by rw [hmp]; rfl,by omega,p3,hHO'.tail,by simpa using hPm',hO',fun o ho x hx=>hOx' o ho x (by simpa using hx)⟩,hmu⟩
  | cons y ys =>
   rw [@zt _ _ (show ((List.map tv (y :: ys)).length : Int) > 0 from by simp <;> omega),zc,show aL (List.map tv (y :: ys)) 0 = some (tv y) from rfl,bPs,subI_ok ⟨by omega,by simp <;> omega,Int.le_refl _⟩,bPs]
   obtain ⟨C',q1,q2,q3⟩ := push_run hc (A := C) (by omega) p3 (y,mr,ys)
   have hx : LExtsortHead.mk (tv y) (mr : Int) (((List.map tv (y :: ys)).take ((List.map tv (y :: ys)).length : Int).toNat).drop (1 : Int).toNat) = vH (y,mr,ys) := by
    show _ = LExtsortHead.mk _ _ _
    congr 1
    simp [List.take_of_length_le]
   rw [hx,q1,bPs]
   have hfl2 : (C'.toList.flatMap dB).Perm ((y :: ys) ++ C.toList.flatMap dB) := q2.flatMap_right dB
   have hC'z : C'.size = C.size + 1 := by have := q2.length_eq; simpa using this
   exact ⟨_,rfl,⟨O ++ [mx],C',by rw [hmp]; rfl,by omega,q3,(hHO'.next).perm q2,(List.Perm.append_left _ hfl2).trans hPm',hO',fun o ho x hx=>hOx' o ho x (hfl2.mem_iff.1 hx)⟩,hmu⟩
end
end
end Go.Proofs.YtnnieenoapkefaaGreatDoor
