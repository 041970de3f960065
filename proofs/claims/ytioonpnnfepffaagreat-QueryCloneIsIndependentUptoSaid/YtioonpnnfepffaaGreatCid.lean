/- queryCloneIsIndependentUpto_holds, part 4: the layer, the plain functions and what they compute; conditions as in the statement. -/
import Derived.Test.YtioonpnnfepffaaGreatCic
set_option maxHeartbeats 4000000
namespace Go.Proofs.YtioonpnnfepffaaGreat
noncomputable section
open Go Go.Ab
attribute [local irreducible] V Ao Do Gh Eff PH IntKind.wrap
set_option maxRecDepth 4000
def ba (s1A : List LExpr) (s2A : List LExpr) (eq : LExpr → LExpr → Option (Bool)) : Option (Bool) :=
 cond ((s1A.length : Int) != (s2A.length : Int))
  (some false)
  (ae (aD (σ := Unit) (ρ := (Bool)) (fun (j1 : Nat) (x1 : LExpr) (_ : Unit) =>
   ae (aK s2A (j1 : Int)) fun (x24 : LExpr) =>
   ae (eq x1 x24) fun x29 =>
   cond (!x29)
    (some (.ret false))
    (some (.next ()))) 0 s1A ()) fun fl1=>fl1.thenR fun (_ : Unit) =>
  some true)
theorem cQ {g_eq : FuncId} {caps_eq : List PV} (s1A : List LExpr) (s2A : List LExpr) (eq : LExpr → LExpr → Option (Bool)) (hg_eq : ∀ (vs : Array Value) (w : World),(callFunc g_eq vs).run Tryz.prog w = .ok (.enter g_eq vs) w) (hp_eq : ∀ a0 a1 r,eq a0 a1 = some r → aL Tryz.prog g_eq ((.agg (cz a0)) :: (.agg (cz a1)) :: caps_eq) (ay r)) (r : Bool) (H : ba s1A s2A eq = some r) :
  aL Tryz.prog 19 [(.list 50 (s1A.map aC)),(.list 50 (s2A.map aC)),(.fn g_eq caps_eq)] (ay r) := by
 unfold ba at H
 refine PH.ax Tryz.func19 Tryz.ntmps19 ?_
 refine am 1 tk rfl (ab (ab (aa (ah tk rfl (az tk (zl _) ?_)))))
 refine ah tk rfl (az tk (zl _) ?_)
 refine ah tk rfl (ac ?_)
 refine aM rfl H (fun H=>?_) (fun H=>?_)
 ·refine am 1 tk rfl ?_
  exact aS tk H rfl
 refine ao (ab (ab (aa (ah tk rfl (az tk (zl _) ?_)))))
 refine ah tk rfl (ac ?_)
 refine ez tk 17 16 15 (fun s1 g1=>upd (upd (fun _=>.any) 2 (.fn g_eq caps_eq)) 1 (.list 50 (s2A.map aC))) nB nO () H (fun fl1 Hp1 j1 s1 g1 hz1 hl1 x1 fb1 hx1 H hg1=>?_) (fun s1 g1 H=>?_)
 ·refine ab (av (ab (aa (ah tk rfl (aU tk (zn j1) (bl bP hx1) ?_)))))
  refine ah tk rfl ?_
  refine aN tk fun b8=>?_
  refine ah tk rfl (ak tk ?_)
  refine ac (ab (aa (ag 2 tk rfl ?_)))
  obtain ⟨x24,k24,H⟩ := bq H
  refine aU tk k24.1 (aO bP k24.2) ?_
  refine ah tk rfl ?_
  refine aN tk fun b9=>?_
  refine ak tk ?_
  refine ac (ab (aa (ah tk rfl (aq tk ?_))))
  refine aq tk ?_
  obtain ⟨x29,h29,H⟩ := au H
  refine aj hg_eq (gK.r) (hp_eq _ _ _ h29) ?_
  refine ah tk rfl (ac ?_)
  refine aM rfl H (fun H=>?_) (fun H=>?_)
  ·refine am 1 tk rfl ?_
   obtain rfl := aA H
   have e1 : fl1 = .ret _ := hg1
   subst e1
   obtain rfl := aY Hp1
   refine bj tk rfl (ps := [(ay false)]) ⟨_,_,rfl,rfl,rfl⟩ (PLe.q rfl)
  refine ao (aG (bc 2 tk rfl ?_))
  exact bg () H hl1 hg1
 refine am 1 tk rfl ?_
 exact aS tk H rfl
def bL (s1A : List LExpr) (s2A : List LExpr) (eq : LExpr → LExpr → Option (Bool)) : Option (Bool) :=
 cond ((s1A.length : Int) != (s2A.length : Int))
  (some false)
  (ae (gj (s1A.length : Int)) fun (n1 : Nat) =>
  ae (aD (σ := Unit) (ρ := (Bool)) (fun (j1 : Nat) (_ : Nat) (_ : Unit) =>
   ae (aK s1A (j1 : Int)) fun (x20 : LExpr) =>
   ae (aK s2A (j1 : Int)) fun (x24 : LExpr) =>
   ae (eq x20 x24) fun x29 =>
   cond (!x29)
    (some (.ret false))
    (some (.next ()))) 0 (List.range n1) ()) fun fl1=>fl1.thenR fun (_ : Unit) =>
  some true)
theorem gI (g_s1A : OwnRef) {g_eq : FuncId} {caps_eq : List PV} (s1A : List LExpr) (s2A : List LExpr) (eq : LExpr → LExpr → Option (Bool)) (hg_eq : ∀ (vs : Array Value) (w : World),(callFunc g_eq vs).run Tryz.prog w = .ok (.enter g_eq vs) w) (hp_eq : ∀ a0 a1 r,eq a0 a1 = some r → aL Tryz.prog g_eq ((.agg (cz a0)) :: (.agg (cz a1)) :: caps_eq) (ay r)) (r : Bool) (H : bL s1A s2A eq = some r) :
  PH Tryz.prog 19 [(.own 3019 g_s1A (s1A.map aC).length),(.list 50 (s2A.map aC)),(.fn g_eq caps_eq)] ⟨fun _=>none,upd (fun _=>none) 3019 (some ⟨g_s1A,50,(List.map aC s1A),true⟩)⟩ (fun u H=>u = (ay r) ∧ H = ⟨fun _=>none,upd (fun _=>none) 3019 (some ⟨g_s1A,50,(List.map aC s1A),true⟩)⟩) := by
 unfold bL at H
 refine PH.ax Tryz.func19 Tryz.ntmps19 ?_
 refine am 1 tk rfl (ab (ab (aa (ah tk rfl (el tk (zl _) ?_)))))
 refine ah tk rfl (az tk (zl _) ?_)
 refine ah tk rfl (ac ?_)
 refine aM rfl H (fun H=>?_) (fun H=>?_)
 ·refine am 1 tk rfl ?_
  obtain rfl := aA H
  refine eh (st' := ⟨32,upd (fun _=>.any) 6 (ay false),fun _=>none,upd (fun _=>none) 3019 (some ⟨g_s1A,50,(s1A.map aC),true⟩)⟩) (Gh.le (ap aT) aI (aP aJ)) ?_
  refine fD tk rfl (ps := [(ay false)]) ⟨_,_,rfl,rfl,rfl⟩ (PLe.q rfl) ⟨rfl,rfl⟩
 refine ao (ab (ab (aa (ah tk rfl (el tk (zl _) ?_)))))
 refine ah tk rfl (ac ?_)
 obtain ⟨n1,hs1,H⟩ := au H
 have hz1 := fm hs1
 obtain ⟨fl1,H1,Hp1⟩ := au H
 refine dM (τ := Unit) (γ := Unit) (fun s1 g1=>⟨32,fun _=>.any,fun _=>none,upd (fun _=>none) 3019 (some ⟨g_s1A,50,(s1A.map aC),true⟩)⟩) (fun t=>fl1 = .next t) ?_ (fun s1 g1 hn1=>?_)
 ·refine av ?_
  refine eF (fun j1 s1 g1=>⟨32,upd (upd (upd (upd (upd (fun _=>.any) 17 (ai (j1 : Int))) 16 (ai (s1A.length : Int))) 15 (.own 3019 g_s1A (s1A.map aC).length)) 2 (.fn g_eq caps_eq)) 1 (.list 50 (s2A.map aC)),fun _=>none,upd (fun _=>none) 3019 (some ⟨g_s1A,50,(s1A.map aC),true⟩)⟩) () H1 Gh.d (fun j1 s1 g1 hj1 hr1=>?_)
  refine am 1 tk rfl (ab ?_)
  refine bh rfl (fun h=>?_) (fun h=>?_)
  ·have hl1 := kT hz1 h
   obtain ⟨x1,fb1,hx1,H,hg1⟩ := rMc hl1 hr1
   obtain rfl := mA hx1
   refine ao (ab (av (ab (aa (ah tk rfl ?_)))))
   obtain ⟨x20,k20,H⟩ := bq H
   refine gA (tag := 3019) rfl (fun ho3019=>?_)
   refine fH tk ⟨k20.1,(cE k20.2)⟩ (cN ho3019 k20.2) ?_
   refine lD tk rfl rfl rfl rfl rfl rfl rfl (aO bP k20.2) rfl rfl ?_
   refine aN tk fun b8=>?_
   refine ah tk rfl (ak tk ?_)
   refine ac (ab (aa (ag 2 tk rfl ?_)))
   obtain ⟨x24,k24,H⟩ := bq H
   refine aU tk k24.1 (aO bP k24.2) ?_
   refine ah tk rfl ?_
   refine aN tk fun b9=>?_
   refine ak tk ?_
   refine ac (ab (aa (ah tk rfl (aq tk ?_))))
   refine aq tk ?_
   obtain ⟨x29,h29,H⟩ := au H
   refine aj hg_eq (gK.r) (hp_eq _ _ _ h29) ?_
   refine ah tk rfl (ac ?_)
   refine aM rfl H (fun H=>?_) (fun H=>?_)
   ·refine am 1 tk rfl ?_
    obtain rfl := aA H
    have e1 : fl1 = .ret _ := hg1
    subst e1
    obtain rfl := aY Hp1
    refine eh (st' := ⟨32,upd (fun _=>.any) 6 (ay false),fun _=>none,upd (fun _=>none) 3019 (some ⟨g_s1A,50,(s1A.map aC),true⟩)⟩) (Gh.le (ap aT) aI (aP aJ)) ?_
    refine fD tk rfl (ps := [(ay false)]) ⟨_,_,rfl,rfl,rfl⟩ (PLe.q rfl) ⟨rfl,rfl⟩
   refine ao (aG (bc 2 tk rfl ?_))
   exact bg () H hl1 hg1 (Gh.le (ap (ap (ap (ap (bs (PLe.q (fR hz1 hl1)) aT))))) aI (aP aJ))
  have hn1 := rMd (kX hz1 h) hr1
  refine bm rfl ?_
  refine be s1 g1 hn1 Gh.d
 have H := lU hn1 Hp1
 refine am 1 tk rfl ?_
 obtain rfl := aA H
 refine eh (st' := ⟨32,upd (fun _=>.any) 6 (ay true),fun _=>none,upd (fun _=>none) 3019 (some ⟨g_s1A,50,(s1A.map aC),true⟩)⟩) (Gh.le (ap aT) aI (aP aJ)) ?_
 refine fD tk rfl (ps := [(ay true)]) ⟨_,_,rfl,rfl,rfl⟩ (PLe.q rfl) ⟨rfl,rfl⟩
def cp (s1A : List (List UInt8)) (s2A : List (List UInt8)) : Option (Bool) :=
 cond ((s1A.length : Int) != (s2A.length : Int))
  (some false)
  (ae (aD (σ := Unit) (ρ := (Bool)) (fun (j1 : Nat) (x1 : List UInt8) (_ : Unit) =>
   ae (aK s2A (j1 : Int)) fun (x22 : List UInt8) =>
   cond (!(x1 == x22))
    (some (.ret false))
    (some (.next ()))) 0 s1A ()) fun fl1=>fl1.thenR fun (_ : Unit) =>
  some true)
theorem jK (s1A : List (List UInt8)) (s2A : List (List UInt8)) (r : Bool) (H : cp s1A s2A = some r) :
  aL Tryz.prog 21 [(.list 9 (s1A.map cj)),(.list 9 (s2A.map cj))] (ay r) := by
 unfold cp at H
 refine PH.ax Tryz.func21 Tryz.ntmps21 ?_
 refine am 1 tk rfl (ab (ab (aa (ah tk rfl (az tk (zl _) ?_)))))
 refine ah tk rfl (az tk (zl _) ?_)
 refine ah tk rfl (ac ?_)
 refine aM rfl H (fun H=>?_) (fun H=>?_)
 ·refine am 1 tk rfl ?_
  exact aS tk H rfl
 refine ao (ab (ab (aa (ah tk rfl (az tk (zl _) ?_)))))
 refine ah tk rfl (ac ?_)
 refine ez tk 13 12 0 (fun s1 g1=>upd (fun _=>.any) 1 (.list 9 (s2A.map cj))) nB nO () H (fun fl1 Hp1 j1 s1 g1 hz1 hl1 x1 fb1 hx1 H hg1=>?_) (fun s1 g1 H=>?_)
 ·refine ab (av (am 2 tk rfl (ab (bo tk mok ⟨false,false,[]⟩ [0,1,2,3,4,5,6,7,8] rfl (by decide +kernel) rfl (aW 2 rfl ?_)))))
  refine bK (zn j1) (bl (fun _=>rfl) hx1) ?_
  refine aW 3 rfl ?_
  obtain ⟨x22,k22,H⟩ := bq H
  refine bK k22.1 (aO (fun _=>rfl) k22.2) ?_
  refine aW 2 rfl (bn ?_)
  refine aM rfl H (fun H=>?_) (fun H=>?_)
  ·refine am 1 tk rfl ?_
   obtain rfl := aA H
   have e1 : fl1 = .ret _ := hg1
   subst e1
   obtain rfl := aY Hp1
   refine bj tk rfl (ps := [(ay false)]) ⟨_,_,rfl,rfl,rfl⟩ (PLe.q rfl)
  refine ao (aG (bc 2 tk rfl ?_))
  exact bg () H hl1 hg1
 refine am 1 tk rfl ?_
 exact aS tk H rfl
def cV (s1A : List Bool) (s2A : List Bool) : Option (Bool) :=
 cond ((s1A.length : Int) != (s2A.length : Int))
  (some false)
  (ae (aD (σ := Unit) (ρ := (Bool)) (fun (j1 : Nat) (x1 : Bool) (_ : Unit) =>
   ae (aK s2A (j1 : Int)) fun (x22 : Bool) =>
   cond (!(x1 == x22))
    (some (.ret false))
    (some (.next ()))) 0 s1A ()) fun fl1=>fl1.thenR fun (_ : Unit) =>
  some true)
theorem kD (s1A : List Bool) (s2A : List Bool) (r : Bool) (H : cV s1A s2A = some r) :
  aL Tryz.prog 22 [(.list 4 (s1A.map cf)),(.list 4 (s2A.map cf))] (ay r) := by
 unfold cV at H
 refine PH.ax Tryz.func22 Tryz.ntmps22 ?_
 refine am 1 tk rfl (ab (ab (aa (ah tk rfl (az tk (zl _) ?_)))))
 refine ah tk rfl (az tk (zl _) ?_)
 refine ah tk rfl (ac ?_)
 refine aM rfl H (fun H=>?_) (fun H=>?_)
 ·refine am 1 tk rfl ?_
  exact aS tk H rfl
 refine ao (ab (ab (aa (ah tk rfl (az tk (zl _) ?_)))))
 refine ah tk rfl (ac ?_)
 refine ez tk 13 12 0 (fun s1 g1=>upd (fun _=>.any) 1 (.list 4 (s2A.map cf))) nB nO () H (fun fl1 Hp1 j1 s1 g1 hz1 hl1 x1 fb1 hx1 H hg1=>?_) (fun s1 g1 H=>?_)
 ·refine ab (av (am 2 tk rfl (ab (bo tk mok ⟨false,false,[]⟩ [0,1,2,3,4,5,6,7,8] rfl (by decide +kernel) rfl (aW 2 rfl ?_)))))
  refine bK (zn j1) (bl (fun _=>rfl) hx1) ?_
  refine aW 3 rfl ?_
  obtain ⟨x22,k22,H⟩ := bq H
  refine bK k22.1 (aO (fun _=>rfl) k22.2) ?_
  refine aW 2 rfl (bn ?_)
  refine aM rfl H (fun H=>?_) (fun H=>?_)
  ·refine am 1 tk rfl ?_
   obtain rfl := aA H
   have e1 : fl1 = .ret _ := hg1
   subst e1
   obtain rfl := aY Hp1
   refine bj tk rfl (ps := [(ay false)]) ⟨_,_,rfl,rfl,rfl⟩ (PLe.q rfl)
  refine ao (aG (bc 2 tk rfl ?_))
  exact bg () H hl1 hg1
 refine am 1 tk rfl ?_
 exact aS tk H rfl
def aF (s1A : List LAggregateCall) (s2A : List LAggregateCall) (eq : LAggregateCall → LAggregateCall → Option (Bool)) : Option (Bool) :=
 cond ((s1A.length : Int) != (s2A.length : Int))
  (some false)
  (ae (aD (σ := Unit) (ρ := (Bool)) (fun (j1 : Nat) (x1 : LAggregateCall) (_ : Unit) =>
   ae (aK s2A (j1 : Int)) fun (x24 : LAggregateCall) =>
   ae (eq x1 x24) fun x29 =>
   cond (!x29)
    (some (.ret false))
    (some (.next ()))) 0 s1A ()) fun fl1=>fl1.thenR fun (_ : Unit) =>
  some true)
theorem cd {g_eq : FuncId} {caps_eq : List PV} (s1A : List LAggregateCall) (s2A : List LAggregateCall) (eq : LAggregateCall → LAggregateCall → Option (Bool)) (hg_eq : ∀ (vs : Array Value) (w : World),(callFunc g_eq vs).run Tryz.prog w = .ok (.enter g_eq vs) w) (hp_eq : ∀ a0 a1 r,eq a0 a1 = some r → aL Tryz.prog g_eq ((.agg (bT a0)) :: (.agg (bT a1)) :: caps_eq) (ay r)) (r : Bool) (H : aF s1A s2A eq = some r) :
  aL Tryz.prog 23 [(.list 70 (s1A.map bT)),(.list 70 (s2A.map bT)),(.fn g_eq caps_eq)] (ay r) := by
 unfold aF at H
 refine PH.ax Tryz.func23 Tryz.ntmps23 ?_
 refine am 1 tk rfl (ab (ab (aa (ah tk rfl (az tk (zl _) ?_)))))
 refine ah tk rfl (az tk (zl _) ?_)
 refine ah tk rfl (ac ?_)
 refine aM rfl H (fun H=>?_) (fun H=>?_)
 ·refine am 1 tk rfl ?_
  exact aS tk H rfl
 refine ao (ab (ab (aa (ah tk rfl (az tk (zl _) ?_)))))
 refine ah tk rfl (ac ?_)
 refine ez tk 17 16 15 (fun s1 g1=>upd (upd (fun _=>.any) 2 (.fn g_eq caps_eq)) 1 (.list 70 (s2A.map bT))) nB nO () H (fun fl1 Hp1 j1 s1 g1 hz1 hl1 x1 fb1 hx1 H hg1=>?_) (fun s1 g1 H=>?_)
 ·refine ab (av (ab (aa (ah tk rfl ?_))))
  refine aU tk (zn j1) (bl (fun _=>rfl) hx1) ?_
  refine ah tk rfl ?_
  refine aN tk fun b8=>?_
  refine ah tk rfl (ak tk ?_)
  refine ac (ab (aa (ag 2 tk rfl ?_)))
  obtain ⟨x24,k24,H⟩ := bq H
  refine aU tk k24.1 (aO (fun _=>rfl) k24.2) ?_
  refine ah tk rfl ?_
  refine aN tk fun b9=>?_
  refine ak tk ?_
  refine ac (ab (aa (ah tk rfl (aq tk ?_))))
  refine aq tk ?_
  obtain ⟨x29,h29,H⟩ := au H
  refine aj hg_eq (gK.r) (hp_eq _ _ _ h29) ?_
  refine ah tk rfl (ac ?_)
  refine aM rfl H (fun H=>?_) (fun H=>?_)
  ·refine am 1 tk rfl ?_
   obtain rfl := aA H
   have e1 : fl1 = .ret _ := hg1
   subst e1
   obtain rfl := aY Hp1
   refine bj tk rfl (ps := [(ay false)]) ⟨_,_,rfl,rfl,rfl⟩ (PLe.q rfl)
  refine ao (aG (bc 2 tk rfl ?_))
  exact bg () H hl1 hg1
 refine am 1 tk rfl ?_
 exact aS tk H rfl
def bE (s1A : List LQuery) (s2A : List LQuery) (eq : LQuery → LQuery → Option (Bool)) : Option (Bool) :=
 cond ((s1A.length : Int) != (s2A.length : Int))
  (some false)
  (ae (aD (σ := Unit) (ρ := (Bool)) (fun (j1 : Nat) (x1 : LQuery) (_ : Unit) =>
   ae (aK s2A (j1 : Int)) fun (x24 : LQuery) =>
   ae (eq x1 x24) fun x29 =>
   cond (!x29)
    (some (.ret false))
    (some (.next ()))) 0 s1A ()) fun fl1=>fl1.thenR fun (_ : Unit) =>
  some true)
theorem fV {g_eq : FuncId} {caps_eq : List PV} (s1A : List LQuery) (s2A : List LQuery) (eq : LQuery → LQuery → Option (Bool)) (hg_eq : ∀ (vs : Array Value) (w : World),(callFunc g_eq vs).run Tryz.prog w = .ok (.enter g_eq vs) w) (hp_eq : ∀ a0 a1 r,eq a0 a1 = some r → aL Tryz.prog g_eq ((.agg (aw a0)) :: (.agg (aw a1)) :: caps_eq) (ay r)) (r : Bool) (H : bE s1A s2A eq = some r) :
  aL Tryz.prog 24 [(.list 35 (s1A.map aE)),(.list 35 (s2A.map aE)),(.fn g_eq caps_eq)] (ay r) := by
 unfold bE at H
 refine PH.ax Tryz.func24 Tryz.ntmps24 ?_
 refine am 1 tk rfl (ab (ab (aa (ah tk rfl (az tk (zl _) ?_)))))
 refine ah tk rfl (az tk (zl _) ?_)
 refine ah tk rfl (ac ?_)
 refine aM rfl H (fun H=>?_) (fun H=>?_)
 ·refine am 1 tk rfl ?_
  exact aS tk H rfl
 refine ao (ab (ab (aa (ah tk rfl (az tk (zl _) ?_)))))
 refine ah tk rfl (ac ?_)
 refine ez tk 17 16 15 (fun s1 g1=>upd (upd (fun _=>.any) 2 (.fn g_eq caps_eq)) 1 (.list 35 (s2A.map aE))) nB nO () H (fun fl1 Hp1 j1 s1 g1 hz1 hl1 x1 fb1 hx1 H hg1=>?_) (fun s1 g1 H=>?_)
 ·refine ab (av (ab (aa (ah tk rfl (aU tk (zn j1) (bl bA hx1) ?_)))))
  refine ah tk rfl ?_
  refine aN tk fun b8=>?_
  refine ah tk rfl (ak tk ?_)
  refine ac (ab (aa (ag 2 tk rfl ?_)))
  obtain ⟨x24,k24,H⟩ := bq H
  refine aU tk k24.1 (aO bA k24.2) ?_
  refine ah tk rfl ?_
  refine aN tk fun b9=>?_
  refine ak tk ?_
  refine ac (ab (aa (ah tk rfl (aq tk ?_))))
  refine aq tk ?_
  obtain ⟨x29,h29,H⟩ := au H
  refine aj hg_eq (gK.r) (hp_eq _ _ _ h29) ?_
  refine ah tk rfl (ac ?_)
  refine aM rfl H (fun H=>?_) (fun H=>?_)
  ·refine am 1 tk rfl ?_
   obtain rfl := aA H
   have e1 : fl1 = .ret _ := hg1
   subst e1
   obtain rfl := aY Hp1
   refine bj tk rfl (ps := [(ay false)]) ⟨_,_,rfl,rfl,rfl⟩ (PLe.q rfl)
  refine ao (aG (bc 2 tk rfl ?_))
  exact bg () H hl1 hg1
 refine am 1 tk rfl ?_
 exact aS tk H rfl
def bC (s1A : List LQuery) (s2A : List LQuery) (eq : LQuery → LQuery → Option (Bool)) : Option (Bool) :=
 cond ((s1A.length : Int) != (s2A.length : Int))
  (some false)
  (ae (gj (s1A.length : Int)) fun (n1 : Nat) =>
  ae (aD (σ := Unit) (ρ := (Bool)) (fun (j1 : Nat) (_ : Nat) (_ : Unit) =>
   ae (aK s1A (j1 : Int)) fun (x20 : LQuery) =>
   ae (aK s2A (j1 : Int)) fun (x24 : LQuery) =>
   ae (eq x20 x24) fun x29 =>
   cond (!x29)
    (some (.ret false))
    (some (.next ()))) 0 (List.range n1) ()) fun fl1=>fl1.thenR fun (_ : Unit) =>
  some true)
theorem fP (g_s1A : OwnRef) {g_eq : FuncId} {caps_eq : List PV} (s1A : List LQuery) (s2A : List LQuery) (eq : LQuery → LQuery → Option (Bool)) (hg_eq : ∀ (vs : Array Value) (w : World),(callFunc g_eq vs).run Tryz.prog w = .ok (.enter g_eq vs) w) (hp_eq : ∀ a0 a1 r,eq a0 a1 = some r → aL Tryz.prog g_eq ((.agg (aw a0)) :: (.agg (aw a1)) :: caps_eq) (ay r)) (r : Bool) (H : bC s1A s2A eq = some r) :
  PH Tryz.prog 24 [(.own 3019 g_s1A (s1A.map aE).length),(.list 35 (s2A.map aE)),(.fn g_eq caps_eq)] ⟨fun _=>none,upd (fun _=>none) 3019 (some ⟨g_s1A,35,(List.map aE s1A),true⟩)⟩ (fun u H=>u = (ay r) ∧ H = ⟨fun _=>none,upd (fun _=>none) 3019 (some ⟨g_s1A,35,(List.map aE s1A),true⟩)⟩) := by
 unfold bC at H
 refine PH.ax Tryz.func24 Tryz.ntmps24 ?_
 refine am 1 tk rfl (ab (ab (aa (ah tk rfl (el tk (zl _) ?_)))))
 refine ah tk rfl (az tk (zl _) ?_)
 refine ah tk rfl (ac ?_)
 refine aM rfl H (fun H=>?_) (fun H=>?_)
 ·refine am 1 tk rfl ?_
  obtain rfl := aA H
  refine eh (st' := ⟨32,upd (fun _=>.any) 6 (ay false),fun _=>none,upd (fun _=>none) 3019 (some ⟨g_s1A,35,(s1A.map aE),true⟩)⟩) (Gh.le (ap aT) aI (aP aJ)) ?_
  refine fD tk rfl (ps := [(ay false)]) ⟨_,_,rfl,rfl,rfl⟩ (PLe.q rfl) ⟨rfl,rfl⟩
 refine ao (ab (ab (aa (ah tk rfl (el tk (zl _) ?_)))))
 refine ah tk rfl (ac ?_)
 obtain ⟨n1,hs1,H⟩ := au H
 have hz1 := fm hs1
 obtain ⟨fl1,H1,Hp1⟩ := au H
 refine dM (τ := Unit) (γ := Unit) (fun s1 g1=>⟨32,fun _=>.any,fun _=>none,upd (fun _=>none) 3019 (some ⟨g_s1A,35,(s1A.map aE),true⟩)⟩) (fun t=>fl1 = .next t) ?_ (fun s1 g1 hn1=>?_)
 ·refine av ?_
  refine eF (fun j1 s1 g1=>⟨32,upd (upd (upd (upd (upd (fun _=>.any) 17 (ai (j1 : Int))) 16 (ai (s1A.length : Int))) 15 (.own 3019 g_s1A (s1A.map aE).length)) 2 (.fn g_eq caps_eq)) 1 (.list 35 (s2A.map aE)),fun _=>none,upd (fun _=>none) 3019 (some ⟨g_s1A,35,(s1A.map aE),true⟩)⟩) () H1 Gh.d (fun j1 s1 g1 hj1 hr1=>?_)
  refine am 1 tk rfl (ab ?_)
  refine bh rfl (fun h=>?_) (fun h=>?_)
  ·have hl1 := kT hz1 h
   obtain ⟨x1,fb1,hx1,H,hg1⟩ := rMc hl1 hr1
   obtain rfl := mA hx1
   refine ao (ab (av (ab (aa (ah tk rfl ?_)))))
   obtain ⟨x20,k20,H⟩ := bq H
   refine gA (tag := 3019) rfl (fun ho3019=>?_)
   refine fH tk ⟨k20.1,(cE k20.2)⟩ (cN ho3019 k20.2) ?_
   refine lD tk rfl rfl rfl rfl rfl rfl rfl (aO bA k20.2) rfl rfl ?_
   refine aN tk fun b8=>?_
   refine ah tk rfl (ak tk ?_)
   refine ac (ab (aa (ag 2 tk rfl ?_)))
   obtain ⟨x24,k24,H⟩ := bq H
   refine aU tk k24.1 (aO bA k24.2) ?_
   refine ah tk rfl ?_
   refine aN tk fun b9=>?_
   refine ak tk ?_
   refine ac (ab (aa (ah tk rfl (aq tk ?_))))
   refine aq tk ?_
   obtain ⟨x29,h29,H⟩ := au H
   refine aj hg_eq (gK.r) (hp_eq _ _ _ h29) ?_
   refine ah tk rfl (ac ?_)
   refine aM rfl H (fun H=>?_) (fun H=>?_)
   ·refine am 1 tk rfl ?_
    obtain rfl := aA H
    have e1 : fl1 = .ret _ := hg1
    subst e1
    obtain rfl := aY Hp1
    refine eh (st' := ⟨32,upd (fun _=>.any) 6 (ay false),fun _=>none,upd (fun _=>none) 3019 (some ⟨g_s1A,35,(s1A.map aE),true⟩)⟩) (Gh.le (ap aT) aI (aP aJ)) ?_
    refine fD tk rfl (ps := [(ay false)]) ⟨_,_,rfl,rfl,rfl⟩ (PLe.q rfl) ⟨rfl,rfl⟩
   refine ao (aG (bc 2 tk rfl ?_))
   exact bg () H hl1 hg1 (Gh.le (ap (ap (ap (ap (bs (PLe.q (fR hz1 hl1)) aT))))) aI (aP aJ))
  have hn1 := rMd (kX hz1 h) hr1
  refine bm rfl ?_
  refine be s1 g1 hn1 Gh.d
 have H := lU hn1 Hp1
 refine am 1 tk rfl ?_
 obtain rfl := aA H
 refine eh (st' := ⟨32,upd (fun _=>.any) 6 (ay true),fun _=>none,upd (fun _=>none) 3019 (some ⟨g_s1A,35,(s1A.map aE),true⟩)⟩) (Gh.le (ap aT) aI (aP aJ)) ?_
 refine fD tk rfl (ps := [(ay true)]) ⟨_,_,rfl,rfl,rfl⟩ (PLe.q rfl) ⟨rfl,rfl⟩
def cq (s1A : Rz) (s2A : Rz) (eq : Rq → Rq → Option (Bool)) : Option (Bool) :=
 cond ((s1A.length : Int) != (s2A.length : Int))
  (some false)
  (ae (aD (σ := Unit) (ρ := (Bool)) (fun (j1 : Nat) (x1 : Rq) (_ : Unit) =>
   ae (aK s2A (j1 : Int)) fun (x24 : Rq) =>
   ae (eq x1 x24) fun x29 =>
   cond (!x29)
    (some (.ret false))
    (some (.next ()))) 0 s1A ()) fun fl1=>fl1.thenR fun (_ : Unit) =>
  some true)
theorem iJ {g_eq : FuncId} {caps_eq : List PV} (s1A : Rz) (s2A : Rz) (eq : Rq → Rq → Option (Bool)) (hg_eq : ∀ (vs : Array Value) (w : World),(callFunc g_eq vs).run Tryz.prog w = .ok (.enter g_eq vs) w) (hp_eq : ∀ a0 a1 r,eq a0 a1 = some r → aL Tryz.prog g_eq ((.list 48 (a0.map af)) :: (.list 48 (a1.map af)) :: caps_eq) (ay r)) (r : Bool) (H : cq s1A s2A eq = some r) :
  aL Tryz.prog 25 [(.list 57 (s1A.map (al 48 af))),(.list 57 (s2A.map (al 48 af))),(.fn g_eq caps_eq)] (ay r) := by
 unfold cq at H
 refine PH.ax Tryz.func25 Tryz.ntmps25 ?_
 refine am 1 tk rfl (ab (ab (aa (ah tk rfl (az tk (zl _) ?_)))))
 refine ah tk rfl (az tk (zl _) ?_)
 refine ah tk rfl (ac ?_)
 refine aM rfl H (fun H=>?_) (fun H=>?_)
 ·refine am 1 tk rfl ?_
  exact aS tk H rfl
 refine ao (ab (ab (aa (ah tk rfl (az tk (zl _) ?_)))))
 refine ah tk rfl (ac ?_)
 refine ez tk 17 16 15 (fun s1 g1=>upd (upd (fun _=>.any) 2 (.fn g_eq caps_eq)) 1 (.list 57 (s2A.map (al 48 af)))) nB nO () H (fun fl1 Hp1 j1 s1 g1 hz1 hl1 x1 fb1 hx1 H hg1=>?_) (fun s1 g1 H=>?_)
 ·refine ab (av (ab (aa (ah tk rfl ?_))))
  refine aU tk (zn j1) (bl (fun _=>rfl) hx1) ?_
  refine ag 3 tk rfl (ac (ab (aa (ag 2 tk rfl ?_))))
  obtain ⟨x24,k24,H⟩ := bq H
  refine aU tk k24.1 (aO (fun _=>rfl) k24.2) ?_
  refine ag 2 tk rfl (ac (ab (aa (ag 3 tk rfl ?_))))
  obtain ⟨x29,h29,H⟩ := au H
  refine aj hg_eq (gK.r) (hp_eq _ _ _ h29) ?_
  refine ah tk rfl (ac ?_)
  refine aM rfl H (fun H=>?_) (fun H=>?_)
  ·refine am 1 tk rfl ?_
   obtain rfl := aA H
   have e1 : fl1 = .ret _ := hg1
   subst e1
   obtain rfl := aY Hp1
   refine bj tk rfl (ps := [(ay false)]) ⟨_,_,rfl,rfl,rfl⟩ (PLe.q rfl)
  refine ao (aG (bc 2 tk rfl ?_))
  exact bg () H hl1 hg1
 refine am 1 tk rfl ?_
 exact aS tk H rfl
def fX (q : LQuery) : Option (Int) :=
 ae (mf q) fun x7 =>
 some x7.2
theorem mS (q : LQuery) (r : Int) (H : fX q = some r) :
  aL Tryz.prog 56 [(.agg (aw q))] (ai r) := by
 unfold fX at H
 refine PH.ax Tryz.func56 Tryz.ntmps56 ?_
 refine ab (aa (aH ?_))
 refine ah tk rfl (ac (ab (aa (ah tk rfl ?_))))
 obtain ⟨x7,h7,H⟩ := au H
 have s7 := W_query_most q _ h7
 refine aj Tryz.call78 (gK.r) s7 ?_
 refine ag 5 tk rfl (ac (am 2 tk rfl ?_))
 exact aS tk H rfl
def fh (q : LQuery) : Option ((List Int) × Int) :=
 ae (js q) fun x18 =>
 ae (aD (σ := List Int × Bool × List Bool) (ρ := Empty) (fun (_ : Nat) (x1 : LQuery) (s1 : List Int × Bool × List Bool) =>
  ae (aD (σ := List Int × Bool × List Bool) (ρ := Empty) (fun (_ : Nat) (x12 : LExpr) (s12 : List Int × Bool × List Bool) =>
   ae (fL x12 s12.1 s12.2.1 s12.2.2) fun x33 =>
   some (.next (x33.1,x33.2.1,x33.2.2))) 0 x1.exprs (s1.1,s1.2.1,s1.2.2)) fun fl12=>fl12.thenP fun (s12 : List Int × Bool × List Bool) =>
  ae (aD (σ := List Int × Bool × List Bool) (ρ := Empty) (fun (_ : Nat) (x13 : LAggregateCall) (s13 : List Int × Bool × List Bool) =>
   ae (aD (σ := List Int × Bool × List Bool) (ρ := Empty) (fun (_ : Nat) (x16 : LExpr) (s16 : List Int × Bool × List Bool) =>
    ae (fL x16 s16.1 s16.2.1 s16.2.2) fun x51 =>
    some (.next (x51.1,x51.2.1,x51.2.2))) 0 x13.args (s13.1,s13.2.1,s13.2.2)) fun fl16=>fl16.thenP fun (s16 : List Int × Bool × List Bool) =>
   some (.next (s16.1,s16.2.1,s16.2.2))) 0 x1.aggregates (s12.1,s12.2.1,s12.2.2)) fun fl13=>fl13.thenP fun (s13 : List Int × Bool × List Bool) =>
  some (.next (s13.1,s13.2.1,s13.2.2))) 0 x18 ([],false,(List.replicate 8 false))) fun fl1=>fl1.thenP fun (s1 : List Int × Bool × List Bool) =>
 cond s1.2.1
  (some ([],13))
  (some (s1.1,0))
theorem lf (q : LQuery) (r : (List Int) × Int) (H : fh q = some r) :
  aL Tryz.prog 35 [(.agg (aw q))] (.tup [(.list 3 (r.1.map bS)),(ai r.2)]) := by
 unfold fh at H
 refine PH.ax Tryz.func35 Tryz.ntmps35 ?_
 refine ab (aa (aH ?_))
 refine ag 2 tk rfl (ac (ab (aa ?_)))
 refine aN tk fun b4=>?_
 refine ac (ab (aa ?_))
 refine aN tk fun b5=>?_
 refine ac (ab (aa ?_))
 refine aN tk fun b6=>?_
 refine ak tk ?_
 refine ac (ab (aa ?_))
 refine aN tk fun b7=>?_
 refine ac (ab (aa (ah tk rfl (ak tk ?_))))
 refine ac (ab (ab (aa (ah tk rfl ?_))))
 obtain ⟨x18,h18,H⟩ := au H
 have s18 := qh (m := 18) q _ h18
 refine aj Tryz.call53 (gK.r) (PFun.jH s18) ?_
 refine az tk (zl _) ?_
 refine ah tk rfl (ac ?_)
 obtain ⟨fl1,H1,Hp1⟩ := au H
 refine gG tk 18 rfl rfl (fun hz1 _=>?_)
 rw [zl] at hz1
 refine dM (τ := List Int × Bool × List Bool) (γ := OwnRef) (fun s1 g1=>⟨57,upd (upd (fun _=>.any) 6 (.box 6 b6 0)) 4 (.box 4 b4 0),upd (upd (fun _=>none) 6 (some ⟨b6,[(ay s1.2.1)]⟩)) 4 (some ⟨b4,[(.own 1204 g1 (s1.1.map bS).length)]⟩),upd (fun _=>none) 1204 (some ⟨g1,3,(s1.1.map bS),true⟩)⟩) (fun t=>fl1 = .next t) ?_ (fun s1 g1 hn1=>?_)
 ·refine av (iC tk 4 0 1204 (e := 3) rfl rfl rfl rfl ?_)
  refine eF (fun j1 s1 g1=>⟨57,upd (upd (upd (upd (upd (upd (fun _=>.any) 20 (ai (j1 : Int))) 19 (ai (x18.length : Int))) 18 (.list 35 (x18.map aE))) 7 (.box 7 b7 0)) 6 (.box 6 b6 0)) 4 (.box 4 b4 0),upd (upd (upd (upd (fun _=>none) 7 (some ⟨b7,[(.fn 52 [(.box 4 b4 0),(.box 6 b6 0),(.box 5 b5 0),(.box 7 b7 0)])]⟩)) 6 (some ⟨b6,[(ay s1.2.1)]⟩)) 5 (some ⟨b5,(List.map ay s1.2.2)⟩)) 4 (some ⟨b4,[(.own 1204 g1 (s1.1.map bS).length)]⟩),upd (fun _=>none) 1204 (some ⟨g1,3,(s1.1.map bS),true⟩)⟩) (⟨none,0⟩) H1 Gh.d (fun j1 s1 g1 hj1 hr1=>?_)
  refine am 1 tk rfl (ab ?_)
  refine bh rfl (fun h=>?_) (fun h=>?_)
  ·have hl1 := pl h
   obtain ⟨x1,fb1,hx1,H,hg1⟩ := rMc hl1 hr1
   refine ao (ab (av (ab (aa (aU tk (zn j1) (bl bA hx1) ?_)))))
   refine ah tk rfl ?_
   refine aN tk fun b9=>?_
   refine ak tk ?_
   refine ac (ab (ab (aa (ah tk rfl (aq tk ?_)))))
   refine az tk (zl _) ?_
   refine ah tk rfl (ac ?_)
   refine fg (γ := OwnRef) tk 27 26 25 (fun s12 g12=>upd (upd (upd (upd (upd (upd (upd (fun _=>.any) 20 (ai (j1 : Int))) 19 (ai (x18.length : Int))) 18 (.list 35 (x18.map aE))) 9 (.box 9 b9 0)) 7 (.box 7 b7 0)) 6 (.box 6 b6 0)) 4 (.box 4 b4 0)) (fun s12 g12=>upd (upd (upd (upd (upd (fun _=>none) 9 (some ⟨b9,(aw x1)⟩)) 7 (some ⟨b7,[(.fn 52 [(.box 4 b4 0),(.box 6 b6 0),(.box 5 b5 0),(.box 7 b7 0)])]⟩)) 6 (some ⟨b6,[(ay s12.2.1)]⟩)) 5 (some ⟨b5,(List.map ay s12.2.2)⟩)) 4 (some ⟨b4,[(.own 1204 g12 (s12.1.map bS).length)]⟩)) (fun s12 g12=>upd (fun _=>none) 1204 (some ⟨g12,3,(s12.1.map bS),true⟩)) g1 H (fun fl12 Hp12 j12 s12 g12 hz12 hl12 x12 fb12 hx12 H hg12=>?_) (fun s12 g12 H=>?_)
   ·refine ab (av (ab (aa (aU tk (zn j12) (bl bP hx12) ?_))))
    refine ah tk rfl ?_
    refine aN tk fun b11=>?_
    refine ak tk ?_
    refine ac (aa (aq tk ?_))
    refine aq tk ?_
    obtain ⟨x33,h33,H⟩ := au H
    have s33 := kH b4 g12 b6 b5 b7 x12 s12.1 s12.2.1 s12.2.2 _ h33
    refine dB (st' := ⟨_,_,upd (upd (upd (upd (upd (upd (fun _=>none) 11 (some ⟨b11,(cz x12)⟩)) 9 (some ⟨b9,(aw x1)⟩)) 7 (some ⟨b7,[(.fn 52 [(.box 1000 b4 0),(.box 1001 b6 0),(.box 1002 b5 0),(.box 1003 b7 0)])]⟩)) 6 (some ⟨b6,[(ay s12.2.1)]⟩)) 5 (some ⟨b5,(List.map ay s12.2.2)⟩)) 4 (some ⟨b4,[(.own 1100 g12 (s12.1.map bS).length)]⟩),upd (fun _=>none) 1204 (some ⟨g12,3,(s12.1.map bS),true⟩)⟩) (Gh.le (cA _ _) (aX rfl (gK.of2 (iz.cons (lA.own rfl) iz.nil)) (aX rfl (gK.r) (aX rfl (gK.r) (aX rfl (gK.of2 (iz.cons (lA.fn (iz.cons lA.boxT (iz.cons lA.boxT (iz.cons lA.boxT (iz.cons lA.boxT iz.nil))))) iz.nil)) (aX rfl (gK.r) (aX rfl (gK.r) aI)))))) (aP aJ)) ?_
    refine dD (g := 52) rfl rfl rfl Tryz.call52 [(4,1000),(6,1001),(5,1002),(7,1003)] [(1204,1100)] rfl rfl rfl rfl (gK.of2 (iz.cons (lA.of_eq rfl) (iz.cons lA.boxT (iz.cons lA.boxT (iz.cons lA.boxT (iz.cons lA.boxT iz.nil)))))) (by rw [gp,gp,gp,gp,cX,cl,cZ]; rfl) s33 ?_
    rintro u33 H33h ⟨gz33_0,rfl,rfl⟩
    refine ⟨_,rfl,?_⟩
    refine dB (st' := ⟨_,_,upd (upd (upd (upd (upd (upd (fun _=>none) 11 (some ⟨b11,(cz x12)⟩)) 9 (some ⟨b9,(aw x1)⟩)) 7 (some ⟨b7,[(.fn 52 [(.box 4 b4 0),(.box 6 b6 0),(.box 5 b5 0),(.box 7 b7 0)])]⟩)) 6 (some ⟨b6,[(ay x33.2.1)]⟩)) 5 (some ⟨b5,(List.map ay x33.2.2)⟩)) 4 (some ⟨b4,[(.own 1204 gz33_0 (x33.1.map bS).length)]⟩),upd (fun _=>none) 1204 (some ⟨gz33_0,3,(x33.1.map bS),true⟩)⟩) (Gh.le (cA _ _) (aX rfl (gK.of2 (iz.cons (lA.own rfl) iz.nil)) (aX rfl (gK.r) (aX rfl (gK.r) (aX rfl (gK.of2 (iz.cons (lA.fn (iz.cons lA.boxT (iz.cons lA.boxT (iz.cons lA.boxT (iz.cons lA.boxT iz.nil))))) iz.nil)) (aX rfl (gK.r) (aX rfl (gK.r) aI)))))) (aP aJ)) ?_
    refine ac (aG (bc 2 tk rfl ?_))
    exact bg gz33_0 H hl12 hg12
   refine ab (aa (ah tk rfl (aq tk ?_)))
   refine az tk (zl _) ?_
   refine ah tk rfl (ac ?_)
   refine fg (γ := OwnRef) tk 38 37 36 (fun s13 g13=>upd (upd (upd (upd (upd (upd (fun _=>.any) 20 (ai (j1 : Int))) 19 (ai (x18.length : Int))) 18 (.list 35 (x18.map aE))) 7 (.box 7 b7 0)) 6 (.box 6 b6 0)) 4 (.box 4 b4 0)) (fun s13 g13=>upd (upd (upd (upd (fun _=>none) 7 (some ⟨b7,[(.fn 52 [(.box 4 b4 0),(.box 6 b6 0),(.box 5 b5 0),(.box 7 b7 0)])]⟩)) 6 (some ⟨b6,[(ay s13.2.1)]⟩)) 5 (some ⟨b5,(List.map ay s13.2.2)⟩)) 4 (some ⟨b4,[(.own 1204 g13 (s13.1.map bS).length)]⟩)) (fun s13 g13=>upd (fun _=>none) 1204 (some ⟨g13,3,(s13.1.map bS),true⟩)) g12 H (fun fl13 Hp13 j13 s13 g13 hz13 hl13 x13 fb13 hx13 H hg13=>?_) (fun s13 g13 H=>?_)
   ·refine ab (av (ab (aa ?_)))
    refine aU tk (zn j13) (bl (fun _=>rfl) hx13) ?_
    refine ah tk rfl ?_
    refine aN tk fun b13=>?_
    refine ak tk ?_
    refine ac (ab (aa (ah tk rfl (aq tk ?_))))
    refine az tk (zl _) ?_
    refine ah tk rfl (ac ?_)
    refine fg (γ := OwnRef) tk 45 44 43 (fun s16 g16=>upd (upd (upd (upd (upd (upd (upd (upd (upd (fun _=>.any) 38 (ai (j13 : Int))) 37 (ai (x1.aggregates.length : Int))) 36 (.list 70 (x1.aggregates.map bT))) 20 (ai (j1 : Int))) 19 (ai (x18.length : Int))) 18 (.list 35 (x18.map aE))) 7 (.box 7 b7 0)) 6 (.box 6 b6 0)) 4 (.box 4 b4 0)) (fun s16 g16=>upd (upd (upd (upd (fun _=>none) 7 (some ⟨b7,[(.fn 52 [(.box 4 b4 0),(.box 6 b6 0),(.box 5 b5 0),(.box 7 b7 0)])]⟩)) 6 (some ⟨b6,[(ay s16.2.1)]⟩)) 5 (some ⟨b5,(List.map ay s16.2.2)⟩)) 4 (some ⟨b4,[(.own 1204 g16 (s16.1.map bS).length)]⟩)) (fun s16 g16=>upd (fun _=>none) 1204 (some ⟨g16,3,(s16.1.map bS),true⟩)) g13 H (fun fl16 Hp16 j16 s16 g16 hz16 hl16 x16 fb16 hx16 H hg16=>?_) (fun s16 g16 H=>?_)
    ·refine ab (av (ab (aa (aU tk (zn j16) (bl bP hx16) ?_))))
     refine ah tk rfl ?_
     refine aN tk fun b15=>?_
     refine ak tk ?_
     refine ac (aa (aq tk ?_))
     refine aq tk ?_
     obtain ⟨x51,h51,H⟩ := au H
     have s51 := kH b4 g16 b6 b5 b7 x16 s16.1 s16.2.1 s16.2.2 _ h51
     refine dB (st' := ⟨_,_,upd (upd (upd (upd (upd (fun _=>none) 15 (some ⟨b15,(cz x16)⟩)) 7 (some ⟨b7,[(.fn 52 [(.box 1000 b4 0),(.box 1001 b6 0),(.box 1002 b5 0),(.box 1003 b7 0)])]⟩)) 6 (some ⟨b6,[(ay s16.2.1)]⟩)) 5 (some ⟨b5,(List.map ay s16.2.2)⟩)) 4 (some ⟨b4,[(.own 1100 g16 (s16.1.map bS).length)]⟩),upd (fun _=>none) 1204 (some ⟨g16,3,(s16.1.map bS),true⟩)⟩) (Gh.le (cA _ _) (aX rfl (gK.of2 (iz.cons (lA.own rfl) iz.nil)) (aX rfl (gK.r) (aX rfl (gK.r) (aX rfl (gK.of2 (iz.cons (lA.fn (iz.cons lA.boxT (iz.cons lA.boxT (iz.cons lA.boxT (iz.cons lA.boxT iz.nil))))) iz.nil)) (aX rfl (gK.r) aI))))) (aP aJ)) ?_
     refine dD (g := 52) rfl rfl rfl Tryz.call52 [(4,1000),(6,1001),(5,1002),(7,1003)] [(1204,1100)] rfl rfl rfl rfl (gK.of2 (iz.cons (lA.of_eq rfl) (iz.cons lA.boxT (iz.cons lA.boxT (iz.cons lA.boxT (iz.cons lA.boxT iz.nil)))))) (by rw [gp,gp,gp,gp,cX,cl,cZ]; rfl) s51 ?_
     rintro u51 H51h ⟨gz51_0,rfl,rfl⟩
     refine ⟨_,rfl,?_⟩
     refine dB (st' := ⟨_,_,upd (upd (upd (upd (upd (fun _=>none) 15 (some ⟨b15,(cz x16)⟩)) 7 (some ⟨b7,[(.fn 52 [(.box 4 b4 0),(.box 6 b6 0),(.box 5 b5 0),(.box 7 b7 0)])]⟩)) 6 (some ⟨b6,[(ay x51.2.1)]⟩)) 5 (some ⟨b5,(List.map ay x51.2.2)⟩)) 4 (some ⟨b4,[(.own 1204 gz51_0 (x51.1.map bS).length)]⟩),upd (fun _=>none) 1204 (some ⟨gz51_0,3,(x51.1.map bS),true⟩)⟩) (Gh.le (cA _ _) (aX rfl (gK.of2 (iz.cons (lA.own rfl) iz.nil)) (aX rfl (gK.r) (aX rfl (gK.r) (aX rfl (gK.of2 (iz.cons (lA.fn (iz.cons lA.boxT (iz.cons lA.boxT (iz.cons lA.boxT (iz.cons lA.boxT iz.nil))))) iz.nil)) (aX rfl (gK.r) aI))))) (aP aJ)) ?_
     refine ac (aG (bc 2 tk rfl ?_))
     exact bg gz51_0 H hl16 hg16
    refine aG (bc 2 tk rfl ?_)
    exact bg g16 H hl13 hg13
   refine aG (bc 2 tk rfl ?_)
   exact bg g13 H hl1 hg1
  have hn1 := rMd (pp h) hr1
  refine bm rfl ?_
  refine be s1 g1 hn1 Gh.d
 have H := ci hn1 Hp1
 refine ab (ab (aa (aq tk ?_)))
 refine ac ?_
 refine aM rfl H (fun H=>?_) (fun H=>?_)
 ·refine am 2 tk rfl ?_
  obtain rfl := aA H
  refine bj tk rfl (ps := [(.val (.slice none 0 0)),(ai 13)]) ⟨_,_,rfl,rfl,_,_,rfl,rfl,rfl⟩ (PLe.of2 (lA.tup (iz.cons (lA.nil tk rfl) (iz.cons (lA.of_eq rfl) iz.nil))))
 refine ao (ab (aa (aq tk ?_)))
 refine ag 2 tk rfl (ac (dZ 2 rfl rfl rfl ?_))
 exact aS tk H rfl
def eZ (sA : List Int) (v : Int) : Option (Bool) :=
 ae (hP sA v) fun x7 =>
 some (decide (x7 ≥ (0 : Int)))
theorem nm (sA : List Int) (v : Int) (r : Bool) (H : eZ sA v = some r) :
  aL Tryz.prog 101 [(.list 3 (sA.map bS)),(ai v)] (ay r) := by
 unfold eZ at H
 refine PH.ax Tryz.func101 Tryz.ntmps101 ?_
 refine am 1 tk rfl (ab (aa (ag 2 tk rfl ?_)))
 obtain ⟨x7,h7,H⟩ := au H
 have s7 := oB sA v _ h7
 refine aj Tryz.call119 (gK.r) s7 ?_
 refine ag 2 tk rfl (ac ?_)
 exact aS tk H rfl
def iq (kind : Int) (a : List LCol) (b : List LCol) : Option ((List LCol) × Int) :=
 cond ((a.length : Int) != (b.length : Int))
  (some ([],7))
  (ae (aD (σ := List LCol) (ρ := ((List LCol) × Int)) (fun (j1 : Nat) (x1 : LCol) (s1 : List LCol) =>
   ae (aK b (j1 : Int)) fun (x29 : LCol) =>
   cond (x1.kind != x29.kind)
    (some (.ret ([],7)))
    (cond x1.nullable
     (ae (aK s1 (j1 : Int)) fun (x51 : LCol) =>
     br (s1.set ((j1 : Int).toNat) (LCol.mk x51.name x51.kind true)) fun (y8 : List LCol) =>
     some (.next y8))
     (cond (kind == (6 : Int))
      (ae (aK b (j1 : Int)) fun (x46 : LCol) =>
      ae (aK s1 (j1 : Int)) fun (x51 : LCol) =>
      br (s1.set ((j1 : Int).toNat) (LCol.mk x51.name x51.kind x46.nullable)) fun (y9 : List LCol) =>
      some (.next y9))
      (ae (aK s1 (j1 : Int)) fun (x51 : LCol) =>
      br (s1.set ((j1 : Int).toNat) (LCol.mk x51.name x51.kind false)) fun (y10 : List LCol) =>
      some (.next y10))))) 0 a a) fun fl1=>fl1.thenR fun (s1 : List LCol) =>
  some (s1,0))
theorem qJ (kind : Int) (a : List LCol) (b : List LCol) (r : (List LCol) × Int) (H : iq kind a b = some r) :
  aL Tryz.prog 104 [(ai kind),(.list 53 (a.map aR)),(.list 53 (b.map aR))] (.tup [(.list 53 (r.1.map aR)),(ai r.2)]) := by
 unfold iq at H
 refine PH.ax Tryz.func104 Tryz.ntmps104 ?_
 refine am 2 tk rfl (ab (ab (aa (ah tk rfl (az tk (zl _) ?_)))))
 refine ah tk rfl (az tk (zl _) ?_)
 refine ah tk rfl (ac ?_)
 refine aM rfl H (fun H=>?_) (fun H=>?_)
 ·refine am 2 tk rfl ?_
  obtain rfl := aA H
  refine bj tk rfl (ps := [(.val (.slice none 0 0)),(ai 7)]) ⟨_,_,rfl,rfl,_,_,rfl,rfl,rfl⟩ (PLe.of2 (lA.tup (iz.cons (lA.nil tk rfl) (iz.cons (lA.of_eq rfl) iz.nil))))
 refine ao (ab (aa (ah tk rfl ?_)))
 have s16 := pS (m := 16) a
 refine lE (g := 83) rfl rfl rfl Tryz.call83 (gK.r) rfl rfl s16 (fun g16=>?_)
 refine ah tk rfl (ac (ab (ab (aa (ah tk rfl (az tk (zl _) ?_))))))
 refine ah tk rfl (ac ?_)
 refine ez (γ := OwnRef) tk 19 18 1 (fun s1 g1=>upd (upd (upd (fun _=>.any) 8 (.own 16 g1 (s1.map aR).length)) 2 (.list 53 (b.map aR))) 0 (ai kind)) nB (fun s1 g1=>upd (fun _=>none) 16 (some ⟨g1,53,(s1.map aR),true⟩)) g16 H (fun fl1 Hp1 j1 s1 g1 hz1 hl1 x1 fb1 hx1 H hg1=>?_) (fun s1 g1 H=>?_)
 ·refine ab (av (am 2 tk rfl (ab (ab ?_))))
  refine jA (tag := 16) rfl (fun ho16=>?_)
  refine bo tk mok ⟨false,false,[]⟩ [0,1,2,3,4,5,6,7,8,9,10] rfl (by decide +kernel) rfl (aW 2 rfl ?_)
  refine bK (zn j1) (bl (fun _=>rfl) hx1) ?_
  refine aW 4 rfl ?_
  obtain ⟨x29,k29,H⟩ := bq H
  refine bK k29.1 (aO (fun _=>rfl) k29.2) ?_
  refine aW 3 rfl (bn ?_)
  refine aM rfl H (fun H=>?_) (fun H=>?_)
  ·refine am 2 tk rfl ?_
   obtain rfl := aA H
   have e1 : fl1 = .ret _ := hg1
   subst e1
   obtain rfl := aY Hp1
   refine bj tk rfl (ps := [(.val (.slice none 0 0)),(ai 7)]) ⟨_,_,rfl,rfl,_,_,rfl,rfl,rfl⟩ (PLe.of2 (lA.tup (iz.cons (lA.nil tk rfl) (iz.cons (lA.of_eq rfl) iz.nil))))
  refine ao (aa (ag 4 tk rfl ?_))
  refine aU tk (zn j1) (bl (fun _=>rfl) hx1) ?_
  refine ag 3 tk rfl ?_
  refine aV rfl rfl rfl H (fun H=>?_) (fun H=>?_)
  ·refine ag 10 tk rfl ?_
   obtain ⟨x51,k51,H⟩ := bq H
   refine gA (tag := 16) rfl (fun ho16=>?_)
   refine fH tk ⟨k51.1,(cE k51.2)⟩ (cN ho16 k51.2) ?_
   refine ah tk rfl ?_
   obtain ⟨y8,hy8,H⟩ := cL H
   refine iu tk rfl rfl rfl rfl rfl rfl rfl rfl (by rw [zl]; exact (zg.1 k51.2).1) (PLe.refl _ _) rfl rfl rfl rfl (by decide) (dC (fun _=>rfl) k51.2 rfl hy8) ?_
   refine ac (aG (bc 2 tk rfl ?_))
   exact bg g1 H hl1 hg1 (Gh.le (ap (ap (bs (PLe.q (ft (by omega))) (ap (ap (bs (PLe.of2 (lA.of_eq (congrArg (PV.own 16 g1) (dz (f := aR) hy8)))) aT)))))) aI (aP aJ))
  refine ag 3 tk rfl ?_
  refine aV rfl rfl rfl H (fun H=>?_) (fun H=>?_)
  ·refine ag 2 tk rfl ?_
   obtain ⟨x46,k46,H⟩ := bq H
   refine aU tk k46.1 (aO (fun _=>rfl) k46.2) ?_
   refine ag 4 tk rfl ?_
   obtain ⟨x51,k51,H⟩ := bq H
   refine gA (tag := 16) rfl (fun ho16=>?_)
   refine fH tk ⟨k51.1,(cE k51.2)⟩ (cN ho16 k51.2) ?_
   refine ah tk rfl ?_
   obtain ⟨y9,hy9,H⟩ := cL H
   refine iu tk rfl rfl rfl rfl rfl rfl rfl rfl (by rw [zl]; exact (zg.1 k51.2).1) (PLe.refl _ _) rfl rfl rfl rfl (by decide) (dC (fun _=>rfl) k51.2 rfl hy9) ?_
   refine ac (aG (bc 2 tk rfl ?_))
   exact bg g1 H hl1 hg1 (Gh.le (ap (ap (bs (PLe.q (ft (by omega))) (ap (ap (bs (PLe.of2 (lA.of_eq (congrArg (PV.own 16 g1) (dz (f := aR) hy9)))) aT)))))) aI (aP aJ))
  refine ag 7 tk rfl ?_
  obtain ⟨x51,k51,H⟩ := bq H
  refine gA (tag := 16) rfl (fun ho16=>?_)
  refine fH tk ⟨k51.1,(cE k51.2)⟩ (cN ho16 k51.2) ?_
  refine ah tk rfl ?_
  obtain ⟨y10,hy10,H⟩ := cL H
  refine iu tk rfl rfl rfl rfl rfl rfl rfl rfl (by rw [zl]; exact (zg.1 k51.2).1) (PLe.refl _ _) rfl rfl rfl rfl (by decide) (dC (fun _=>rfl) k51.2 rfl hy10) ?_
  refine ac (aG (bc 2 tk rfl ?_))
  exact bg g1 H hl1 hg1 (Gh.le (ap (ap (bs (PLe.q (ft (by omega))) (ap (ap (bs (PLe.of2 (lA.of_eq (congrArg (PV.own 16 g1) (dz (f := aR) hy10)))) aT)))))) aI (aP aJ))
 refine am 3 tk rfl (dZ 6 rfl rfl rfl ?_)
 exact aS tk H rfl
def dI (sA : List (List UInt8)) (v : List UInt8) : Option (Bool) :=
 ae (dA sA v) fun x7 =>
 some (decide (x7 ≥ (0 : Int)))
theorem lH (sA : List (List UInt8)) (v : List UInt8) (r : Bool) (H : dI sA v = some r) :
  aL Tryz.prog 132 [(.list 9 (sA.map cj)),(.str v)] (ay r) := by
 unfold dI at H
 refine PH.ax Tryz.func132 Tryz.ntmps132 ?_
 refine am 1 tk rfl (ab (aa (ag 2 tk rfl ?_)))
 obtain ⟨x7,h7,H⟩ := au H
 have s7 := jL sA v _ h7
 refine aj Tryz.call54 (gK.r) s7 ?_
 refine ag 2 tk rfl (ac ?_)
 exact aS tk H rfl
def bZ (sA : List LCol) (f : LCol → Option (Bool)) : Option (Bool) :=
 ae (cD sA f) fun x7 =>
 some (decide (x7 ≥ (0 : Int)))
theorem jI {g_f : FuncId} {caps_f : List PV} (sA : List LCol) (f : LCol → Option (Bool)) (hg_f : ∀ (vs : Array Value) (w : World),(callFunc g_f vs).run Tryz.prog w = .ok (.enter g_f vs) w) (hp_f : ∀ a0 r,f a0 = some r → aL Tryz.prog g_f ((.agg (aR a0)) :: caps_f) (ay r)) (r : Bool) (H : bZ sA f = some r) :
  aL Tryz.prog 81 [(.list 53 (sA.map aR)),(.fn g_f caps_f)] (ay r) := by
 unfold bZ at H
 refine PH.ax Tryz.func81 Tryz.ntmps81 ?_
 refine am 1 tk rfl (ab (aa (ag 2 tk rfl ?_)))
 obtain ⟨x7,h7,H⟩ := au H
 have s7 := gJ sA f hg_f hp_f _ h7
 refine aj Tryz.call88 (gK.r) s7 ?_
 refine ag 2 tk rfl (ac ?_)
 exact aS tk H rfl
def ed (t : LTable) (row : Rq) : Option (Int) :=
 cond ((row.length : Int) != (t.columns.length : Int))
  (some 3)
  (ae (aD (σ := Unit) (ρ := (Int)) (fun (j1 : Nat) (x1 : LVal) (_ : Unit) =>
   br (dv x1) fun x22 =>
   cond (x22 != (0 : Int))
    (some (.ret x22))
    (ae (
     cond (x1.kind == (0 : Int))
      (ae (aK t.columns (j1 : Int)) fun (x33 : LCol) =>
      some (!x33.nullable))
      (some false)) fun (t3 : Bool) =>
    cond t3
     (some (.ret 8))
     (cond (x1.kind != (0 : Int))
      (ae (aK t.columns (j1 : Int)) fun (x47 : LCol) =>
      cond (x1.kind != x47.kind)
       (some (.ret 7))
       (some (.next ())))
      (some (.next ()))))) 0 row ()) fun fl1=>fl1.thenR fun (_ : Unit) =>
  some 0)
theorem oQ (t : LTable) (row : Rq) (r : Int) (H : ed t row = some r) :
  aL Tryz.prog 32 [(.agg (cP t)),(.list 48 (row.map af))] (ai r) := by
 unfold ed at H
 refine PH.ax Tryz.func32 Tryz.ntmps32 ?_
 refine ab (aa (aH ?_))
 refine ah tk rfl (ac (ab (ab (aa (ah tk rfl (az tk (zl _) ?_))))))
 refine ag 2 tk rfl (az tk (zl _) ?_)
 refine ah tk rfl (ac ?_)
 refine aM rfl H (fun H=>?_) (fun H=>?_)
 ·refine am 1 tk rfl ?_
  exact aS tk H rfl
 refine ao (ab (ab (aa (ah tk rfl (az tk (zl _) ?_)))))
 refine ah tk rfl (ac ?_)
 refine ez tk 16 15 14 (fun s1 g1=>upd (fun _=>.any) 2 (.ptr (cP t))) nB nO () H (fun fl1 Hp1 j1 s1 g1 hz1 hl1 x1 fb1 hx1 H hg1=>?_) (fun s1 g1 H=>?_)
 ·refine ab (av (ab (aa (ah tk rfl ?_))))
  refine aU tk (zn j1) (bl (fun _=>rfl) hx1) ?_
  refine ah tk rfl ?_
  refine aN tk fun b6=>?_
  refine ah tk rfl (ak tk ?_)
  refine ac (ab (ab (aa (aq tk ?_))))
  obtain ⟨x22,h22,H⟩ := cL H
  have s22 := od x1
  rw [h22] at s22
  refine aj Tryz.call49 (gK.r) s22 ?_
  refine ah tk rfl (ac (am 2 tk rfl ?_))
  refine aM rfl H (fun H=>?_) (fun H=>?_)
  ·refine am 2 tk rfl ?_
   obtain rfl := aA H
   have e1 : fl1 = .ret _ := hg1
   subst e1
   obtain rfl := aY Hp1
   refine bj tk rfl (ps := [(ai x22)]) ⟨_,_,rfl,rfl,rfl⟩ (PLe.q rfl)
  refine ao (ab (ab ?_))
  refine fS (γ := Unit) (fun t3 g3=>⟨53,upd (upd (upd (upd (upd (upd (upd (fun _=>.any) 37 (ay t3)) 16 (ai (j1 : Int))) 15 (ai (row.length : Int))) 14 (.list 48 (row.map af))) 6 (.box 6 b6 0)) 5 (ai (j1 : Int))) 2 (.ptr (cP t)),upd (fun _=>none) 6 (some ⟨b6,(af x1)⟩),fun _=>none⟩) H (fun _ H=>?_) (fun t3 g3 H=>?_)
  ·refine aa (ah tk rfl (aq tk ?_))
   refine ag 2 tk rfl ?_
   refine aV rfl rfl rfl H (fun H=>?_) (fun H=>?_)
   ·refine ag 3 tk rfl ?_
    obtain ⟨x33,k33,H⟩ := bq H
    refine aU tk k33.1 (aO (fun _=>rfl) k33.2) ?_
    refine ag 4 tk rfl (ac ?_)
    refine be _ () (aA H) Gh.d
   refine ag 8 tk rfl (ac ?_)
   refine be _ () (aA H) Gh.d
  refine aM rfl H (fun H=>?_) (fun H=>?_)
  ·refine am 1 tk rfl ?_
   obtain rfl := aA H
   have e1 : fl1 = .ret _ := hg1
   subst e1
   obtain rfl := aY Hp1
   refine bj tk rfl (ps := [(ai 8)]) ⟨_,_,rfl,rfl,rfl⟩ (PLe.q rfl)
  refine ao (ab (bo tk mok ⟨true,false,[45,49]⟩ [0,1,2,3,4,5,6,7,8,9,10,11,12,13] rfl (by decide +kernel) rfl (bt rfl (bi ?_))))
  refine aW 2 rfl ?_
  refine mR H (fun H=>?_) (fun H=>?_)
  ·refine bt rfl (bi ?_)
   refine aW 3 rfl ?_
   obtain ⟨x47,k47,H⟩ := bq H
   refine bK k47.1 (aO (fun _=>rfl) k47.2) ?_
   refine aW 4 rfl (bn ?_)
   refine aM rfl H (fun H=>?_) (fun H=>?_)
   ·refine am 1 tk rfl ?_
    obtain rfl := aA H
    have e1 : fl1 = .ret _ := hg1
    subst e1
    obtain rfl := aY Hp1
    refine bj tk rfl (ps := [(ai 7)]) ⟨_,_,rfl,rfl,rfl⟩ (PLe.q rfl)
   refine ao (aG (bc 2 tk rfl ?_))
   exact bg () H hl1 hg1
  refine aW 10 rfl (bn (bB rfl (ao (aG (bc 2 tk rfl ?_)))))
  exact bg () H hl1 hg1
 refine am 1 tk rfl ?_
 exact aS tk H rfl
def jP (a : List UInt8) (b : List UInt8) : Int :=
 br (eX a b) fun x7 =>
 x7
theorem rm (a : List UInt8) (b : List UInt8) :
  aL Tryz.prog 77 [(.str a),(.str b)] (ai (jP a b)) := by
 obtain ⟨r,H⟩ : ∃ r,jP a b = r := ⟨_,rfl⟩
 rw [H]
 unfold jP at H
 refine PH.ax Tryz.func77 Tryz.ntmps77 ?_
 refine am 1 tk rfl (ab (aa (ag 2 tk rfl ?_)))
 obtain ⟨x7,h7,H⟩ := cL H
 have s7 := lK a b
 rw [h7] at s7
 refine aj Tryz.call99 (gK.r) s7 ?_
 refine ah tk rfl (ac ?_)
 exact et tk H rfl
def bV (slices : Rz) : Option (Rq) :=
 ae (aD (σ := Int) (ρ := Empty) (fun (_ : Nat) (x1 : Rq) (s1 : Int) =>
  cond (decide ((IntKind.i64.wrap (s1 + (x1.length : Int))) < (0 : Int)))
   (none)
   (some (.next (IntKind.i64.wrap (s1 + (x1.length : Int)))))) 0 slices 0) fun fl1=>fl1.thenP fun (s1 : Int) =>
 ae (oO 32 s1) fun (_ : Unit) =>
 ae (aD (σ := Rq) (ρ := Empty) (fun (_ : Nat) (x2 : Rq) (s2 : Rq) =>
  ae (cy 32 s2 x2) fun (x33 : Rq) =>
  some (.next x33)) 0 slices []) fun fl2=>fl2.thenP fun (s2 : Rq) =>
 some s2
theorem iW {m : Nat} (slices : Rz) (r : Rq) (H : bV slices = some r) :
  ig Tryz.prog 84 [(.list 57 (slices.map (al 48 af)))] (ld m 48 (r.map af)) := by
 unfold bV at H
 refine PH.ax Tryz.func84 Tryz.ntmps84 ?_
 refine am 1 tk rfl (am 1 tk rfl (ab (ab (aa (ah tk rfl (az tk (zl _) ?_))))))
 refine ah tk rfl (ac ?_)
 refine fg tk 11 10 9 (fun s1 g1=>upd (upd (fun _=>.any) 3 (ai s1)) 0 (.list 57 (slices.map (al 48 af)))) nB nO () H (fun fl1 Hp1 j1 s1 g1 hz1 hl1 x1 fb1 hx1 H hg1=>?_) (fun s1 g1 H=>?_)
 ·refine ab (av (ab (aa ?_)))
  refine aU tk (zn j1) (bl (fun _=>rfl) hx1) ?_
  refine ag 2 tk rfl (ac (ab (aa (ag 2 tk rfl (az tk (zl _) ?_)))))
  refine ag 2 tk rfl (ac (am 2 tk rfl ?_))
  refine aM rfl H (fun H=>?_) (fun H=>?_)
  ·cases H
  refine ao (aG (bc 2 tk rfl ?_))
  exact bg () H hl1 hg1
 refine ab (aa (ah tk rfl ?_))
 obtain ⟨_,h24,H⟩ := au H
 have s24 := grow_107 (m := 24) s1 h24
 refine lE (g := 107) rfl rfl rfl Tryz.call107 (gK.r) rfl rfl s24 (fun g24=>?_)
 refine ah tk rfl (ac (ab (ab (aa (ah tk rfl (az tk (zl _) ?_))))))
 refine ah tk rfl (ac ?_)
 refine fg (γ := OwnRef) tk 27 26 25 (fun s2 g2=>upd (fun _=>.any) 6 (.own 24 g2 (s2.map af).length)) nB (fun s2 g2=>upd (fun _=>none) 24 (some ⟨g2,48,(s2.map af),true⟩)) g24 H (fun fl2 Hp2 j2 s2 g2 hz2 hl2 x2 fb2 hx2 H hg2=>?_) (fun s2 g2 H=>?_)
 ·refine ab (av (ab (aa ?_)))
  refine aU tk (zn j2) (bl (fun _=>rfl) hx2) ?_
  refine ag 2 tk rfl (ac (aa (ag 2 tk rfl ?_)))
  obtain ⟨x33,h33,H⟩ := au H
  have k33 := bX h33
  refine cr (rows2' := List.map af x2) (rows' := List.map af x33) tk rfl rfl rfl rfl rfl rfl rfl rfl rfl rfl rfl rfl rfl (gP.refl _) (cK k33.1) (cI k33.2.1) (cF k33.2.2) fun g33=>?_
  refine ah tk rfl (ac (aG (bc 2 tk rfl ?_)))
  exact bg g33 H hl2 hg2
 refine am 2 tk rfl ?_
 obtain rfl := aA H
 refine iA tk rfl
def iZ (y : Rq) (c0 : Rq) : Option (Bool) :=
 ae (cw c0 y) fun x6 =>
 some x6
theorem W_query_less_1 (y : Rq) (c0 : Rq) (r : Bool) (H : iZ y c0 = some r) :
  aL Tryz.prog 86 [(.list 48 (y.map af)),(.ptr [(.list 48 (c0.map af))])] (ay r) := by
 unfold iZ at H
 refine PH.ax Tryz.func86 Tryz.ntmps86 ?_
 refine am 1 tk rfl (ab (aa (ag 2 tk rfl ?_)))
 obtain ⟨x6,h6,H⟩ := au H
 have s6 := gq c0 y _ h6
 refine aj Tryz.call27 (gK.r) s6 ?_
 refine ah tk rfl (ac ?_)
 exact aS tk H rfl
def dh (sA : Rz) (del : Rq → Option (Bool)) : Option Rz :=
 ae (bM sA del) fun x10 =>
 ae (fe (x10.2.length = sA.length) ()) fun (_ : Unit) =>
 cond (x10.1 == (-1))
  (some x10.2)
  (ae (fJ (σ := Rz × Int × Int) (ρ := Empty) (fun (s1 : Rz × Int × Int) =>
   cond (decide (s1.2.2 < (s1.1.length : Int)))
    (ae (aK s1.1 s1.2.2) fun (x24 : Rq) =>
    ae (del x24) fun x28 =>
    cond (!x28)
     (ae (aK s1.1 s1.2.1) fun (_ : Rq) =>
     br (s1.1.set s1.2.1.toNat x24) fun (y4 : Rz) =>
     some (.next (y4,(IntKind.i64.wrap (s1.2.1 + (1 : Int))),(IntKind.i64.wrap (s1.2.2 + (1 : Int))))))
     (some (.next (s1.1,s1.2.1,(IntKind.i64.wrap (s1.2.2 + (1 : Int)))))))
    (some (.brk (s1.1,s1.2.1,s1.2.2)))) (x10.2,x10.1,(IntKind.i64.wrap (x10.1 + (1 : Int))))) fun fl1=>fl1.thenP fun (s1 : Rz × Int × Int) =>
  ae (cutI s1.1 s1.2.1) fun (y5 : Rz) =>
  ae (cutI y5 s1.2.1) fun (y6 : Rz) =>
  some y6)
theorem kM (g_sA : OwnRef) {g_del : FuncId} {caps_del : List PV} (sA : Rz) (del : Rq → Option (Bool)) (hg_del : ∀ (vs : Array Value) (w : World),(callFunc g_del vs).run Tryz.prog w = .ok (.enter g_del vs) w) (hp_del : ∀ a0 r,del a0 = some r → aL Tryz.prog g_del ((.list 48 (a0.map af)) :: caps_del) (ay r)) (r : Rz) (H : dh sA del = some r) :
  PH Tryz.prog 62 [(.own 0 g_sA (sA.map (al 48 af)).length),(.fn g_del caps_del)] ⟨fun _=>none,upd (fun _=>none) 0 (some ⟨g_sA,57,(sA.map (al 48 af)),true⟩)⟩ (fun u H=>u = .own 0 g_sA (r.map (al 48 af)).length ∧ H = ⟨fun _=>none,upd (fun _=>none) 0 (some ⟨g_sA,57,(r.map (al 48 af)),true⟩)⟩) := by
 unfold dh at H
 refine PH.ax Tryz.func62 Tryz.ntmps62 ?_
 refine am 1 tk rfl (ab (aa (ag 2 tk rfl ?_)))
 obtain ⟨x10,h10,H⟩ := au H
 have s10 := fA g_sA sA del hg_del hp_del _ h10
 obtain ⟨_,q10_0,H⟩ := au H
 have l10_0 := (dH q10_0).1
 have z10_0 : (List.map (al 48 af) sA).length = (List.map (al 48 af) x10.2).length := by simpa using (l10_0).symm
 refine dD (g := 85) rfl rfl rfl Tryz.call85 [] [(0,0)] rfl rfl rfl rfl (gK.of2 (iz.cons (lA.own rfl) (iz.cons (lA.of_eq rfl) iz.nil))) (by rw [cX,cl,cZ]; rfl) s10 ?_
 rintro u10 H10h ⟨rfl,rfl⟩
 refine ⟨_,rfl,?_⟩
 refine dB (st' := ⟨_,_,fun _=>none,upd (fun _=>none) 0 (some ⟨g_sA,57,(x10.2.map (al 48 af)),true⟩)⟩) (Gh.le (cA _ _) aI (aP aJ)) ?_
 refine ah tk rfl (ac (ab (am 2 tk rfl ?_)))
 refine aM rfl H (fun H=>?_) (fun H=>?_)
 ·refine am 2 tk rfl ?_
  obtain rfl := aA H
  refine eh (st' := ⟨42,upd (fun _=>.any) 4 (.own 0 g_sA (sA.map (al 48 af)).length),fun _=>none,upd (fun _=>none) 0 (some ⟨g_sA,57,(x10.2.map (al 48 af)),true⟩)⟩) (Gh.le (ap aT) aI (aP aJ)) ?_
  refine fD tk rfl (ps := [(.own 0 g_sA (sA.map (al 48 af)).length)]) ⟨_,_,rfl,rfl,rfl⟩ (PLe.of2 (lA.own z10_0)) ⟨rfl,rfl⟩
 refine ao (ab (am 3 tk rfl ?_))
 obtain ⟨fl1,H1,Hp1⟩ := au H
 refine dM (τ := Rz × Int × Int) (γ := Unit) (fun s1 g1=>⟨42,upd (upd (fun _=>.any) 5 (ai s1.2.1)) 0 (.own 0 g_sA (s1.1.map (al 48 af)).length),fun _=>none,upd (fun _=>none) 0 (some ⟨g_sA,57,(s1.1.map (al 48 af)),true⟩)⟩) (fun t=>fl1 = .next t) ?_ (fun s1 g1 hn1=>?_)
 ·refine av ?_
  refine gN (fun s1 g1=>⟨42,upd (upd (upd (upd (fun _=>.any) 6 (ai s1.2.2)) 5 (ai s1.2.1)) 1 (.fn g_del caps_del)) 0 (.own 0 g_sA (s1.1.map (al 48 af)).length),fun _=>none,upd (fun _=>none) 0 (some ⟨g_sA,57,(s1.1.map (al 48 af)),true⟩)⟩) () H1 (Gh.le (bs (PLe.of2 (lA.of_eq (congrArg (PV.own 0 g_sA) z10_0))) (ap (ap (ap aT)))) aI (aP aJ)) (fun m1 s1 g1 hr1=>?_)
  obtain ⟨fb1,H,hg1⟩ := fv hr1
  refine ab (ab (aa (ag 2 tk rfl (el tk (zl _) ?_))))
  refine ah tk rfl (ac ?_)
  refine aM rfl H (fun H=>?_) (fun H=>?_)
  ·refine ao (ab (av (ab (aa (ag 2 tk rfl ?_)))))
   obtain ⟨x24,k24,H⟩ := bq H
   refine gA (tag := 0) rfl (fun ho0=>?_)
   refine fH tk ⟨k24.1,(cE k24.2)⟩ (cN ho0 k24.2) ?_
   refine lD tk rfl rfl rfl rfl rfl rfl rfl (aO (fun _=>rfl) k24.2) rfl rfl ?_
   refine ah tk rfl (ac (ab (aa (ag 2 tk rfl ?_))))
   obtain ⟨x28,h28,H⟩ := au H
   refine aj hg_del (gK.r) (hp_del _ _ h28) ?_
   refine ah tk rfl (ac ?_)
   refine aM rfl H (fun H=>?_) (fun H=>?_)
   ·refine ab (aa (ag 3 tk rfl ?_))
    obtain ⟨x33,k33,H⟩ := bq H
    refine gA (tag := 0) rfl (fun ho0=>?_)
    refine fH tk ⟨k33.1,(cE k33.2)⟩ (cN ho0 k33.2) ?_
    obtain ⟨y4,hy4,H⟩ := cL H
    refine iu tk rfl rfl rfl rfl rfl rfl rfl rfl (by rw [zl]; exact (zg.1 k33.2).1) (PLe.refl _ _) rfl rfl rfl rfl (by decide) (dC (fun _=>rfl) k33.2 rfl hy4) ?_
    refine ac (bc 3 tk rfl (aG (bc 3 tk rfl ?_)))
    obtain rfl := aA H
    refine eg (y4,(IntKind.i64.wrap (s1.2.1 + (1 : Int))),(IntKind.i64.wrap (s1.2.2 + (1 : Int)))) () hg1 (Gh.le (bs (PLe.of2 (lA.of_eq (congrArg (PV.own 0 g_sA) (dz (f := (al 48 af)) hy4)))) (ap (ap (ap aT)))) aI (aP aJ))
   refine ao (aG (bc 3 tk rfl ?_))
   obtain rfl := aA H
   refine eg (s1.1,s1.2.1,(IntKind.i64.wrap (s1.2.2 + (1 : Int)))) () hg1 Gh.d
  refine bm rfl ?_
  obtain rfl := aA H
  refine be (s1.1,s1.2.1,s1.2.2) () hg1 Gh.d
 have H := ci hn1 Hp1
 refine ab (aa (ag 2 tk rfl ?_))
 obtain ⟨y5,hy5,H⟩ := au H
 have ky5 := cutI_some hy5
 refine Ao.ownC (tag := 0) rfl (fun hcy5=>?_)
 have hny5 : (s1.1.map (al 48 af)).length = (List.map (al 48 af) s1.1).length := rfl
 have hmy5 := ky5.2.1
 rw [← zl (f := (al 48 af)),← hny5] at hmy5
 rw [← hny5] at hcy5
 refine sk (l := s1.2.1.toNat) (h := (s1.1.map (al 48 af)).length) (m := g_sA.cap) tk rfl rfl rfl rfl rfl rfl ⟨_,_,rfl,(Int.toNat_of_nonneg ky5.1).symm⟩ rfl rfl (by decide) hmy5 hcy5 (Nat.le_refl _) rfl (dB (Gh.cutO (tag := 0) (rows' := List.map (al 48 af) y5) rfl s1.2.1.toNat (by rw [← List.map_take,ky5.2.2])) ?_)
 refine sn (tag := 0) (rows := List.map (al 48 af) y5) tk rfl rfl rfl rfl rfl rfl rfl rfl rfl (p := s1.2.1.toNat) (q := (s1.1.map (al 48 af)).length) (m := g_sA.cap) (by rw [zl,ky5.2.2,List.length_take]; exact Nat.min_le_left _ _) hmy5 hcy5 (Nat.le_refl _) rfl ?_
 refine ac (ab (aa (ag 2 tk rfl ?_)))
 obtain ⟨y6,hy6,H⟩ := au H
 have ky6 := cutI_some hy6
 refine Ao.cutP (rows' := List.map (al 48 af) y6) tk rfl rfl rfl rfl rfl rfl rfl rfl ⟨ky6.1,by rw [zl]; exact ky6.2.1⟩ (by rw [← List.map_take,ky6.2.2]) rfl rfl ?_
 refine ah tk rfl (ac ?_)
 obtain rfl := aA H
 refine eh (st' := ⟨42,upd (fun _=>.any) 4 (.own 0 g_sA (y6.map (al 48 af)).length),fun _=>none,upd (fun _=>none) 0 (some ⟨g_sA,57,(y6.map (al 48 af)),true⟩)⟩) (Gh.le (ap aT) aI (aP aJ)) ?_
 refine fD tk rfl (ps := [(.own 0 g_sA (y6.map (al 48 af)).length)]) ⟨_,_,rfl,rfl,rfl⟩ (PLe.of2 (lA.own rfl)) ⟨rfl,rfl⟩
def fZ (y : Rq) (c0 : Rq) : Option (Bool) :=
 ae (cw c0 y) fun x6 =>
 some x6
theorem qt (y : Rq) (c0 : Rq) (r : Bool) (H : fZ y c0 = some r) :
  aL Tryz.prog 91 [(.list 48 (y.map af)),(.ptr [(.list 48 (c0.map af))])] (ay r) := by
 unfold fZ at H
 refine PH.ax Tryz.func91 Tryz.ntmps91 ?_
 refine am 1 tk rfl (ab (aa (ag 2 tk rfl ?_)))
 obtain ⟨x6,h6,H⟩ := au H
 have s6 := gq c0 y _ h6
 refine aj Tryz.call27 (gK.r) s6 ?_
 refine ah tk rfl (ac ?_)
 exact aS tk H rfl
def fG (op : List UInt8) (l : Rq) : Option (LVal) :=
 cond (op == ([99,111,117,110,116] : List UInt8))
  (br (fQ (l.length : Int)) fun x13 =>
  some x13)
  (cond ((l.length : Int) == (0 : Int))
   (some (LVal.mk 0 0 []))
   (ae (aK l 0) fun (x19 : LVal) =>
   ae (aD (σ := Int × LVal) (ρ := Empty) (fun (_ : Nat) (x1 : LVal) (s1 : Int × LVal) =>
    cond (op == ([109,105,110] : List UInt8))
     (br (lx x1 s1.2) fun x36 =>
     cond x36
      (some (.next ((IntKind.i64.wrap (s1.1 + x1.int)),x1)))
      (cond (op == ([109,97,120] : List UInt8))
       (br (lx s1.2 x1) fun x44 =>
       cond x44
        (some (.next ((IntKind.i64.wrap (s1.1 + x1.int)),x1)))
        (some (.next ((IntKind.i64.wrap (s1.1 + x1.int)),s1.2))))
       (some (.next ((IntKind.i64.wrap (s1.1 + x1.int)),s1.2)))))
     (cond (op == ([109,97,120] : List UInt8))
      (br (lx s1.2 x1) fun x44 =>
      cond x44
       (some (.next ((IntKind.i64.wrap (s1.1 + x1.int)),x1)))
       (some (.next ((IntKind.i64.wrap (s1.1 + x1.int)),s1.2))))
      (some (.next ((IntKind.i64.wrap (s1.1 + x1.int)),s1.2))))) 0 l (0,x19)) fun fl1=>fl1.thenP fun (s1 : Int × LVal) =>
   cond (op == ([115,117,109] : List UInt8))
    (br (fQ s1.1) fun x52 =>
    some x52)
    (some s1.2)))
theorem ow (op : List UInt8) (l : Rq) (r : LVal) (H : fG op l = some r) :
  aL Tryz.prog 115 [(.str op),(.list 48 (l.map af))] (.agg (af r)) := by
 unfold fG at H
 refine PH.ax Tryz.func115 Tryz.ntmps115 ?_
 refine ab (aa ?_)
 refine aN tk fun b4=>?_
 refine ac (ab (am 2 tk rfl ?_))
 refine aM rfl H (fun H=>?_) (fun H=>?_)
 ·refine ab (aa (ah tk rfl (az tk (zl _) ?_)))
  obtain ⟨x13,h13,H⟩ := cL H
  have s13 := qe (l.length : Int)
  rw [h13] at s13
  refine aj Tryz.call114 (gK.r) s13 ?_
  refine ak tk ?_
  refine ac ?_
  exact qa tk H rfl rfl rfl rfl rfl
 refine ao (ab (ab (aa (ah tk rfl (az tk (zl _) ?_)))))
 refine ah tk rfl (ac ?_)
 refine aM rfl H (fun H=>?_) (fun H=>?_)
 ·refine ab (aa (ah tk rfl (ak tk ?_)))
  refine ac ?_
  exact qa tk H rfl rfl rfl rfl rfl
 refine ao (ab (aa (ah tk rfl ?_)))
 obtain ⟨x19,k19,H⟩ := bq H
 refine aU tk k19.1 (aO (fun _=>rfl) k19.2) ?_
 refine ah tk rfl ?_
 refine aN tk fun b5=>?_
 refine ak tk ?_
 refine ac (am 1 tk rfl (ab (ab (aa (ah tk rfl (az tk (zl _) ?_))))))
 refine ah tk rfl (ac ?_)
 refine fg tk 23 22 21 (fun s1 g1=>upd (upd (upd (upd (fun _=>.any) 6 (ai s1.1)) 5 (.box 5 b5 0)) 4 (.box 4 b4 0)) 0 (.str op)) (fun s1 g1=>upd (upd (fun _=>none) 5 (some ⟨b5,(af s1.2)⟩)) 4 (some ⟨b4,[(ai 0),(ai 0),(.str [])]⟩)) nO () H (fun fl1 Hp1 j1 s1 g1 hz1 hl1 x1 fb1 hx1 H hg1=>?_) (fun s1 g1 H=>?_)
 ·refine ab (av (ab (aa ?_)))
  refine aU tk (zn j1) (bl (fun _=>rfl) hx1) ?_
  refine ah tk rfl ?_
  refine aN tk fun b8=>?_
  refine ak tk ?_
  refine ac (ab (aa (ag 2 tk rfl (aq tk ?_))))
  refine ag 2 tk rfl (ac (ab (aa (ag 3 tk rfl ?_))))
  refine aV rfl rfl rfl H (fun H=>?_) (fun H=>?_)
  ·refine aq tk ?_
   refine aq tk ?_
   obtain ⟨x36,h36,H⟩ := cL H
   have s36 := lV x1 s1.2
   rw [h36] at s36
   refine aj Tryz.call117 (gK.r) s36 ?_
   refine ag 2 tk rfl ?_
   refine aV rfl rfl rfl H (fun H=>?_) (fun H=>?_)
   ·refine ag 8 tk rfl (ac (bU rfl (aa (aq tk ?_))))
    refine ak tk ?_
    refine ac (aG (bc 2 tk rfl ?_))
    exact bg () H hl1 hg1
   refine ag 3 tk rfl ?_
   refine aV rfl rfl rfl H (fun H=>?_) (fun H=>?_)
   ·refine aq tk ?_
    refine aq tk ?_
    obtain ⟨x44,h44,H⟩ := cL H
    have s44 := lV s1.2 x1
    rw [h44] at s44
    refine aj Tryz.call117 (gK.r) s44 ?_
    refine ag 2 tk rfl (ac ?_)
    refine aM rfl H (fun H=>?_) (fun H=>?_)
    ·refine aa (aq tk ?_)
     refine ak tk ?_
     refine ac (aG (bc 2 tk rfl ?_))
     exact bg () H hl1 hg1
    refine ao (aG (bc 2 tk rfl ?_))
    exact bg () H hl1 hg1
   refine ag 5 tk rfl (ac (bB rfl (ao (aG (bc 2 tk rfl ?_)))))
   exact bg () H hl1 hg1
  refine ag 8 tk rfl ?_
  refine aV rfl rfl rfl H (fun H=>?_) (fun H=>?_)
  ·refine aq tk ?_
   refine aq tk ?_
   obtain ⟨x44,h44,H⟩ := cL H
   have s44 := lV s1.2 x1
   rw [h44] at s44
   refine aj Tryz.call117 (gK.r) s44 ?_
   refine ag 2 tk rfl (ac ?_)
   refine aM rfl H (fun H=>?_) (fun H=>?_)
   ·refine aa (aq tk ?_)
    refine ak tk ?_
    refine ac (aG (bc 2 tk rfl ?_))
    exact bg () H hl1 hg1
   refine ao (aG (bc 2 tk rfl ?_))
   exact bg () H hl1 hg1
  refine ag 5 tk rfl (ac (bB rfl (ao (aG (bc 2 tk rfl ?_)))))
  exact bg () H hl1 hg1
 refine ab (am 2 tk rfl ?_)
 refine aM rfl H (fun H=>?_) (fun H=>?_)
 ·refine ab (aa (ah tk rfl ?_))
  obtain ⟨x52,h52,H⟩ := cL H
  have s52 := qe s1.1
  rw [h52] at s52
  refine aj Tryz.call114 (gK.r) s52 ?_
  refine ak tk ?_
  refine ac ?_
  exact qa tk H rfl rfl rfl rfl rfl
 refine ao (ab (aa (aq tk ?_)))
 refine ak tk ?_
 refine ac ?_
 exact qa tk H rfl rfl rfl rfl rfl
def dt (data : Rz) (a : Int) (m : Int) (b : Int) (cmp : Rq → Rq → Option (Int)) : Option (Rz) :=
 ae (fJ (σ := Rz × Int × Int) (ρ := Empty) (fun (s1 : Rz × Int × Int) =>
  cond (s1.2.1 != s1.2.2)
   (cond (decide (s1.2.1 > s1.2.2))
    (ae (co s1.1 (IntKind.i64.wrap (m - s1.2.1)) m s1.2.2 cmp) fun x31 =>
    ae (fe (x31.length = s1.1.length) ()) fun (_ : Unit) =>
    some (.next (x31,(IntKind.i64.wrap (s1.2.1 - s1.2.2)),s1.2.2)))
    (ae (co s1.1 (IntKind.i64.wrap (m - s1.2.1)) (IntKind.i64.wrap ((IntKind.i64.wrap (m + s1.2.2)) - s1.2.1)) s1.2.1 cmp) fun x46 =>
    ae (fe (x46.length = s1.1.length) ()) fun (_ : Unit) =>
    some (.next (x46,s1.2.1,(IntKind.i64.wrap (s1.2.2 - s1.2.1))))))
   (some (.brk (s1.1,s1.2.1,s1.2.2)))) (data,(IntKind.i64.wrap (m - a)),(IntKind.i64.wrap (b - m)))) fun fl1=>fl1.thenP fun (s1 : Rz × Int × Int) =>
 ae (co s1.1 (IntKind.i64.wrap (m - s1.2.1)) m s1.2.1 cmp) fun x57 =>
 ae (fe (x57.length = s1.1.length) ()) fun (_ : Unit) =>
 some x57
theorem mp (g_data : OwnRef) {g_cmp : FuncId} {caps_cmp : List PV} (data : Rz) (a : Int) (m : Int) (b : Int) (cmp : Rq → Rq → Option (Int)) (hg_cmp : ∀ (vs : Array Value) (w : World),(callFunc g_cmp vs).run Tryz.prog w = .ok (.enter g_cmp vs) w) (hp_cmp : ∀ a0 a1 r,cmp a0 a1 = some r → aL Tryz.prog g_cmp ((.list 48 (a0.map af)) :: (.list 48 (a1.map af)) :: caps_cmp) (ai r)) (r : Rz) (H : dt data a m b cmp = some r) :
  PH Tryz.prog 135 [(.own 0 g_data (data.map (al 48 af)).length),(ai a),(ai m),(ai b),(.fn g_cmp caps_cmp)] ⟨fun _=>none,upd (fun _=>none) 0 (some ⟨g_data,57,(data.map (al 48 af)),true⟩)⟩ (fun u H=>u = (.tup []) ∧ H = ⟨fun _=>none,upd (fun _=>none) 0 (some ⟨g_data,57,(r.map (al 48 af)),true⟩)⟩) := by
 unfold dt at H
 refine PH.ax Tryz.func135 Tryz.ntmps135 ?_
 refine am 4 tk rfl (am 4 tk rfl (ab ?_))
 obtain ⟨fl1,H1,Hp1⟩ := au H
 refine dM (τ := Rz × Int × Int) (γ := Unit) (fun s1 g1=>⟨58,upd (upd (upd (upd (fun _=>.any) 10 (ai s1.2.1)) 4 (.fn g_cmp caps_cmp)) 2 (ai m)) 0 (.own 0 g_data (s1.1.map (al 48 af)).length),fun _=>none,upd (fun _=>none) 0 (some ⟨g_data,57,(s1.1.map (al 48 af)),true⟩)⟩) (fun t=>fl1 = .next t) ?_ (fun s1 g1 hn1=>?_)
 ·refine av ?_
  refine gN (fun s1 g1=>⟨58,upd (upd (upd (upd (upd (fun _=>.any) 11 (ai s1.2.2)) 10 (ai s1.2.1)) 4 (.fn g_cmp caps_cmp)) 2 (ai m)) 0 (.own 0 g_data (s1.1.map (al 48 af)).length),fun _=>none,upd (fun _=>none) 0 (some ⟨g_data,57,(s1.1.map (al 48 af)),true⟩)⟩) () H1 Gh.d (fun m1 s1 g1 hr1=>?_)
  obtain ⟨fb1,H,hg1⟩ := fv hr1
  refine ab (am 3 tk rfl ?_)
  refine aM rfl H (fun H=>?_) (fun H=>?_)
  ·refine ao (av (am 3 tk rfl ?_))
   refine aM rfl H (fun H=>?_) (fun H=>?_)
   ·refine ab (aa (ag 7 tk rfl ?_))
    obtain ⟨x31,h31,H⟩ := au H
    have s31 := gn g_data s1.1 (IntKind.i64.wrap (m - s1.2.1)) m s1.2.2 cmp hg_cmp hp_cmp _ h31
    obtain ⟨_,q31_0,H⟩ := au H
    have l31_0 := (dH q31_0).1
    have z31_0 : (List.map (al 48 af) s1.1).length = (List.map (al 48 af) x31).length := by simpa using (l31_0).symm
    refine dD (g := 142) rfl rfl rfl Tryz.call142 [] [(0,0)] rfl rfl rfl rfl (gK.of2 (iz.cons (lA.own rfl) (iz.cons (lA.of_eq rfl) (iz.cons (lA.of_eq rfl) (iz.cons (lA.of_eq rfl) (iz.cons (lA.of_eq rfl) iz.nil)))))) (by rw [cX,cl,cZ]; rfl) s31 ?_
    rintro u31 H31h ⟨rfl,rfl⟩
    refine ⟨_,rfl,?_⟩
    refine dB (st' := ⟨_,_,fun _=>none,upd (fun _=>none) 0 (some ⟨g_data,57,(x31.map (al 48 af)),true⟩)⟩) (Gh.le (cA _ _) aI (aP aJ)) ?_
    refine ac (bc 4 tk rfl (aG ?_))
    obtain rfl := aA H
    refine eg (x31,(IntKind.i64.wrap (s1.2.1 - s1.2.2)),s1.2.2) () hg1 (Gh.le (bs (PLe.of2 (lA.of_eq (congrArg (PV.own 0 g_data) z31_0))) (ap (ap (ap (ap aT))))) aI (aP aJ))
   refine ab (aa (ag 11 tk rfl ?_))
   obtain ⟨x46,h46,H⟩ := au H
   have s46 := gn g_data s1.1 (IntKind.i64.wrap (m - s1.2.1)) (IntKind.i64.wrap ((IntKind.i64.wrap (m + s1.2.2)) - s1.2.1)) s1.2.1 cmp hg_cmp hp_cmp _ h46
   obtain ⟨_,q46_0,H⟩ := au H
   have l46_0 := (dH q46_0).1
   have z46_0 : (List.map (al 48 af) s1.1).length = (List.map (al 48 af) x46).length := by simpa using (l46_0).symm
   refine dD (g := 142) rfl rfl rfl Tryz.call142 [] [(0,0)] rfl rfl rfl rfl (gK.of2 (iz.cons (lA.own rfl) (iz.cons (lA.of_eq rfl) (iz.cons (lA.of_eq rfl) (iz.cons (lA.of_eq rfl) (iz.cons (lA.of_eq rfl) iz.nil)))))) (by rw [cX,cl,cZ]; rfl) s46 ?_
   rintro u46 H46h ⟨rfl,rfl⟩
   refine ⟨_,rfl,?_⟩
   refine dB (st' := ⟨_,_,fun _=>none,upd (fun _=>none) 0 (some ⟨g_data,57,(x46.map (al 48 af)),true⟩)⟩) (Gh.le (cA _ _) aI (aP aJ)) ?_
   refine ac (bc 4 tk rfl (aG ?_))
   obtain rfl := aA H
   refine eg (x46,s1.2.1,(IntKind.i64.wrap (s1.2.2 - s1.2.1))) () hg1 (Gh.le (bs (PLe.of2 (lA.of_eq (congrArg (PV.own 0 g_data) z46_0))) (ap (ap (ap (ap aT))))) aI (aP aJ))
  refine bm rfl ?_
  obtain rfl := aA H
  refine be (s1.1,s1.2.1,s1.2.2) () hg1 Gh.d
 have H := ci hn1 Hp1
 refine aa (ag 7 tk rfl ?_)
 obtain ⟨x57,h57,H⟩ := au H
 have s57 := gn g_data s1.1 (IntKind.i64.wrap (m - s1.2.1)) m s1.2.1 cmp hg_cmp hp_cmp _ h57
 obtain ⟨_,q57_0,H⟩ := au H
 have l57_0 := (dH q57_0).1
 have z57_0 : (List.map (al 48 af) s1.1).length = (List.map (al 48 af) x57).length := by simpa using (l57_0).symm
 refine dD (g := 142) rfl rfl rfl Tryz.call142 [] [(0,0)] rfl rfl rfl rfl (gK.of2 (iz.cons (lA.own rfl) (iz.cons (lA.of_eq rfl) (iz.cons (lA.of_eq rfl) (iz.cons (lA.of_eq rfl) (iz.cons (lA.of_eq rfl) iz.nil)))))) (by rw [cX,cl,cZ]; rfl) s57 ?_
 rintro u57 H57h ⟨rfl,rfl⟩
 refine ⟨_,rfl,?_⟩
 refine dB (st' := ⟨_,_,fun _=>none,upd (fun _=>none) 0 (some ⟨g_data,57,(x57.map (al 48 af)),true⟩)⟩) (Gh.le (cA _ _) aI (aP aJ)) ?_
 refine ac ?_
 obtain rfl := aA H
 refine eh (st' := ⟨58,fun _=>.any,fun _=>none,upd (fun _=>none) 0 (some ⟨g_data,57,(x57.map (al 48 af)),true⟩)⟩) (Gh.le aT aI (aP aJ)) ?_
 refine mh rfl (PLe.q rfl) ⟨rfl,rfl⟩
def gd (t : LTable) (name : List UInt8) : Option (Int × Bool) :=
 ae (cD t.columns (fun a0=>some (dQ a0 name))) fun x10 =>
 some ((if (0 : Int) > x10 then (0 : Int) else x10),(decide (x10 ≥ (0 : Int))))
theorem qw (t : LTable) (name : List UInt8) (r : Int × Bool) (H : gd t name = some r) :
  aL Tryz.prog 71 [(.agg (cP t)),(.str name)] (.tup [(ai r.1),(ay r.2)]) := by
 unfold gd at H
 refine PH.ax Tryz.func71 Tryz.ntmps71 ?_
 refine ab (aa (aH ?_))
 refine aH ?_
 refine ag 2 tk rfl (ac (ab (aa (ag 3 tk rfl ?_))))
 obtain ⟨x10,h10,H⟩ := au H
 have s10 := gJ t.columns (fun a0=>some (dQ a0 name)) Tryz.call96 (fun a0 r h=>(aA h) ▸ pw a0 name) _ h10
 refine aj Tryz.call88 (gK.r) s10 ?_
 refine ah tk rfl (ac (am 6 tk rfl ?_))
 exact aS tk H rfl
def fF (sA : LSchema) (name : List UInt8) : Option (Int × Bool) :=
 ae (cS sA.tables (fun a0=>some (dc a0 name))) fun x10 =>
 some ((if (0 : Int) > x10 then (0 : Int) else x10),(decide (x10 ≥ (0 : Int))))
theorem kJ (sA : LSchema) (name : List UInt8) (r : Int × Bool) (H : fF sA name = some r) :
  aL Tryz.prog 72 [(.agg (bG sA)),(.str name)] (.tup [(ai r.1),(ay r.2)]) := by
 unfold fF at H
 refine PH.ax Tryz.func72 Tryz.ntmps72 ?_
 refine ab (aa (aH ?_))
 refine aH ?_
 refine ag 2 tk rfl (ac (ab (aa (ag 3 tk rfl ?_))))
 obtain ⟨x10,h10,H⟩ := au H
 have s10 := hD sA.tables (fun a0=>some (dc a0 name)) Tryz.call98 (fun a0 r h=>(aA h) ▸ qb a0 name) _ h10
 refine aj Tryz.call97 (gK.r) s10 ?_
 refine ah tk rfl (ac (am 6 tk rfl ?_))
 exact aS tk H rfl
def gH (a : LForeignKey) (b : LForeignKey) : Option (Bool) :=
 cond (a.table == b.table)
  (ae (fT a.columns b.columns) fun x15 =>
  cond x15
   (some (a.refTable == b.refTable))
   (some false))
  (some false)
theorem nA (a : LForeignKey) (b : LForeignKey) (r : Bool) (H : gH a b = some r) :
  aL Tryz.prog 46 [(.agg (jz a)),(.agg (jz b))] (ay r) := by
 unfold gH at H
 refine PH.ax Tryz.func46 Tryz.ntmps46 ?_
 refine ab (aa (aH ?_))
 refine aH ?_
 refine ah tk rfl (ac (ab (aa (ag 6 tk rfl ?_))))
 refine aV rfl rfl rfl H (fun H=>?_) (fun H=>?_)
 ·refine ag 4 tk rfl ?_
  obtain ⟨x15,h15,H⟩ := au H
  have s15 := oA a.columns b.columns _ h15
  refine aj Tryz.call74 (gK.r) s15 ?_
  refine ag 2 tk rfl ?_
  refine aV rfl rfl rfl H (fun H=>?_) (fun H=>?_)
  ·refine ag 7 tk rfl (ac ?_)
   exact aS tk H rfl
  refine ag 7 tk rfl (ac ?_)
  exact aS tk H rfl
 refine ag 14 tk rfl (ac ?_)
 exact aS tk H rfl
def bY (sA : List LForeignKey) (f : LForeignKey → Option (Bool)) : Option (Bool) :=
 ae (cG sA f) fun x7 =>
 some (decide (x7 ≥ (0 : Int)))
theorem iH {g_f : FuncId} {caps_f : List PV} (sA : List LForeignKey) (f : LForeignKey → Option (Bool)) (hg_f : ∀ (vs : Array Value) (w : World),(callFunc g_f vs).run Tryz.prog w = .ok (.enter g_f vs) w) (hp_f : ∀ a0 r,f a0 = some r → aL Tryz.prog g_f ((.agg (jz a0)) :: caps_f) (ay r)) (r : Bool) (H : bY sA f = some r) :
  aL Tryz.prog 44 [(.list 101 (sA.map jz)),(.fn g_f caps_f)] (ay r) := by
 unfold bY at H
 refine PH.ax Tryz.func44 Tryz.ntmps44 ?_
 refine am 1 tk rfl (ab (aa (ag 2 tk rfl ?_)))
 obtain ⟨x7,h7,H⟩ := au H
 have s7 := jb sA f hg_f hp_f _ h7
 refine aj Tryz.call73 (gK.r) s7 ?_
 refine ag 2 tk rfl (ac ?_)
 exact aS tk H rfl
def ce (sA : List LConstraint) (v : LConstraint) : Option (Bool) :=
 ae (cY sA v) fun x7 =>
 some (decide (x7 ≥ (0 : Int)))
theorem jn (sA : List LConstraint) (v : LConstraint) (r : Bool) (H : ce sA v = some r) :
  aL Tryz.prog 48 [(.list 107 (sA.map kB)),(.agg (kB v))] (ay r) := by
 unfold ce at H
 refine PH.ax Tryz.func48 Tryz.ntmps48 ?_
 refine ab (aa (aH ?_))
 refine ah tk rfl (ac (ab (aa (ag 2 tk rfl ?_))))
 obtain ⟨x7,h7,H⟩ := au H
 have s7 := jC sA v _ h7
 refine aj Tryz.call76 (gK.r) s7 ?_
 refine ag 2 tk rfl (ac ?_)
 exact aS tk H rfl
def lX (_rec16 : LExpr → Option (LExpr)) (rec37 : LExpr → (List (List UInt8)) → (List LExpr) → Option (LExpr)) (e : LExpr) : Option (LExpr) :=
 ae (rec37 e ([] : List (List UInt8)) ([] : List LExpr)) fun x4 =>
 some x4
theorem WO_expr_Clone (rec16 : LExpr → Option (LExpr)) (rec37 : LExpr → (List (List UInt8)) → (List LExpr) → Option (LExpr)) (_hrec16 : ∀ a0 r,rec16 a0 = some r → aL Tryz.prog 16 [(.agg (cz a0))] (.agg (cz r))) (hrec37 : ∀ a0 a1 a2 r,rec37 a0 a1 a2 = some r → aL Tryz.prog 37 [(.agg (cz a0)),(.list 9 (a1.map cj)),(.list 50 (a2.map aC))] (.agg (cz r))) (e : LExpr) (r : LExpr) (H : lX rec16 rec37 e = some r) :
  aL Tryz.prog 16 [(.agg (cz e))] (.agg (cz r)) := by
 unfold lX at H
 refine PH.ax Tryz.func16 Tryz.ntmps16 ?_
 refine ab (aa (aH ?_))
 refine aN tk fun b2=>?_
 refine ac (ab (aa (ah tk rfl ?_)))
 obtain ⟨x4,h4,H⟩ := au H
 have s4 := hrec37 e ([] : List (List UInt8)) ([] : List LExpr) _ h4
 refine aj Tryz.call37 (gK.of2 (iz.cons (lA.of_eq rfl) (iz.cons (lA.nil tk rfl) (iz.cons (lA.nil tk rfl) iz.nil)))) s4 ?_
 refine ak tk ?_
 refine ac ?_
 exact qa tk H rfl rfl rfl rfl rfl
def jO (rec16 : LExpr → Option (LExpr)) (rec37 : LExpr → (List (List UInt8)) → (List LExpr) → Option (LExpr)) (e : LExpr) (names : List (List UInt8)) (l : List LExpr) : Option (LExpr) :=
 ae (
  cond (e.kind == (2 : Int))
   (ae (dA names e.name) fun x17 =>
   cond (decide (x17 ≥ (0 : Int)))
    (cond (decide (x17 < (l.length : Int)))
     (ae (aK l x17) fun (x28 : LExpr) =>
     ae (rec16 x28) fun x30 =>
     some (.ret x30))
     (some (.next ())))
    (some (.next ())))
   (some (.next ()))) fun (fl1 : Flow (Unit) (LExpr))=>fl1.thenR fun _ =>
 ae (aD (σ := List LExpr) (ρ := Empty) (fun (_ : Nat) (x2 : LExpr) (s2 : List LExpr) =>
  ae (rec37 x2 names l) fun x45 =>
  ae (cy 88 s2 ([x45] : List LExpr)) fun (x47 : List LExpr) =>
  some (.next x47)) 0 e.args []) fun fl2=>fl2.thenP fun (s2 : List LExpr) =>
 some (LExpr.mk e.kind e.name e.index e.value s2)
theorem qE (rec16 : LExpr → Option (LExpr)) (rec37 : LExpr → (List (List UInt8)) → (List LExpr) → Option (LExpr)) (hrec16 : ∀ a0 r,rec16 a0 = some r → aL Tryz.prog 16 [(.agg (cz a0))] (.agg (cz r))) (hrec37 : ∀ a0 a1 a2 r,rec37 a0 a1 a2 = some r → aL Tryz.prog 37 [(.agg (cz a0)),(.list 9 (a1.map cj)),(.list 50 (a2.map aC))] (.agg (cz r))) (e : LExpr) (names : List (List UInt8)) (l : List LExpr) (r : LExpr) (H : jO rec16 rec37 e names l = some r) :
  aL Tryz.prog 37 [(.agg (cz e)),(.list 9 (names.map cj)),(.list 50 (l.map aC))] (.agg (cz r)) := by
 unfold jO at H
 refine PH.ax Tryz.func37 Tryz.ntmps37 ?_
 refine ab (aa (aH ?_))
 refine aN tk fun b6=>?_
 refine ac (ab (am 3 tk rfl ?_))
 refine V.cutR (γ := Unit) (fun t1 g1=>⟨51,upd (upd (upd (upd (fun _=>.any) 6 (.box 6 b6 0)) 3 (.ptr (cz e))) 2 (.list 50 (l.map aC))) 1 (.list 9 (names.map cj)),upd (fun _=>none) 6 (some ⟨b6,[(ai 0),(.str []),(ai 0),(ai 0),(ai 0),(.str []),(.val (.slice none 0 0))]⟩),fun _=>none⟩) H (fun _ H Hp1=>?_) (fun t1 g1 H=>?_)
 ·refine aM rfl H (fun H=>?_) (fun H=>?_)
  ·refine ab (aa (ag 3 tk rfl ?_))
   obtain ⟨x17,h17,H⟩ := au H
   have s17 := jL names e.name _ h17
   refine aj Tryz.call54 (gK.r) s17 ?_
   refine ah tk rfl (ac (ab (aa (ag 3 tk rfl ?_))))
   refine aV rfl rfl rfl H (fun H=>?_) (fun H=>?_)
   ·refine ag 2 tk rfl (az tk (zl _) ?_)
    refine ag 2 tk rfl (ac ?_)
    refine aM rfl H (fun H=>?_) (fun H=>?_)
    ·refine ab (aa (ag 2 tk rfl ?_))
     obtain ⟨x28,k28,H⟩ := bq H
     refine aU tk k28.1 (aO bP k28.2) ?_
     refine ah tk rfl ?_
     obtain ⟨x30,h30,H⟩ := au H
     have s30 := hrec16 x28 _ h30
     refine aj Tryz.call16 (gK.r) s30 ?_
     refine ak tk ?_
     refine ac ?_
     obtain rfl := aA H
     obtain rfl := aY Hp1
     refine bj tk rfl (ps := [(.agg (cz x30))]) ⟨_,_,rfl,⟨_,_,_,_,_,rfl,rfl,rfl,rfl⟩,rfl⟩ (PLe.q rfl)
    refine ao ?_
    refine be _ () (aA H).symm Gh.d
   refine ag 5 tk rfl (ac (bB rfl (ao ?_)))
   refine be _ () (aA H).symm Gh.d
  refine ao ?_
  refine be _ () (aA H).symm Gh.d
 refine ab (aa (ah tk rfl ?_))
 refine aN tk fun b8=>?_
 refine ak tk ?_
 refine ac (ab (aa (ah tk rfl (ak tk ?_))))
 refine ac (ab (ab (aa (ag 2 tk rfl (az tk (zl _) ?_)))))
 refine ah tk rfl (ac (iC tk 8 6 47 (e := 50) rfl rfl rfl rfl ?_))
 refine fg (γ := OwnRef) tk 36 35 34 (fun s2 g2=>upd (upd (upd (upd (fun _=>.any) 8 (.box 8 b8 0)) 6 (.box 6 b6 0)) 2 (.list 50 (l.map aC))) 1 (.list 9 (names.map cj))) (fun s2 g2=>upd (upd (fun _=>none) 8 (some ⟨b8,[(ai e.kind),(.str e.name),(ai e.index),(ai e.value.kind),(ai e.value.int),(.str e.value.text),(.own 47 g2 (s2.map aC).length)]⟩)) 6 (some ⟨b6,[(ai 0),(.str []),(ai 0),(ai 0),(ai 0),(.str []),(.val (.slice none 0 0))]⟩)) (fun s2 g2=>upd (fun _=>none) 47 (some ⟨g2,50,(s2.map aC),true⟩)) (⟨none,0⟩) H (fun fl2 Hp2 j2 s2 g2 hz2 hl2 x2 fb2 hx2 H hg2=>?_) (fun s2 g2 H=>?_)
 ·refine ab (av (ab (aa (aU tk (zn j2) (bl bP hx2) ?_))))
  refine ah tk rfl ?_
  refine aN tk fun b10=>?_
  refine ak tk ?_
  refine ac (bo tk mok ⟨true,false,[]⟩ [0,1,2,3,4,5,6,7,8,9] rfl (by decide +kernel) rfl (bt rfl (bi ?_)))
  refine bi ?_
  refine aW 2 rfl ?_
  obtain ⟨x45,h45,H⟩ := au H
  have s45 := hrec37 x2 names l _ h45
  refine aZ Tryz.call37 (gK.r) s45 ?_
  refine bt rfl ?_
  obtain ⟨x47,h47,H⟩ := au H
  have k47 := bX h47
  refine ew (rows2' := List.map aC ([x45] : List LExpr)) (rows' := List.map aC x47) tk rfl rfl rfl rfl rfl rfl rfl rfl rfl rfl rfl rfl rfl rfl (gP.trans (b := List.map cz [x45]) (gP.refl _) (gP.of_eq (kw bP [x45]))) (cK k47.1) (cI k47.2.1) (cF k47.2.2) fun g47=>?_
  refine bt rfl (bR ?_)
  refine bn (aG (bc 2 tk rfl ?_))
  exact bg g47 H hl2 hg2
 refine ab (aa (aq tk ?_))
 refine ak tk ?_
 refine ac (dY 6 6 rfl rfl rfl rfl rfl ?_)
 exact qa tk H rfl rfl rfl rfl rfl
mutual
def jl : Nat → LExpr → Option (LExpr)
 | 0,_=>none
 | n + 1,v0=>lX (fun b0=>jl n b0) (fun b0 b1 b2=>eA n b0 b1 b2) v0
def eA : Nat → LExpr → (List (List UInt8)) → (List LExpr) → Option (LExpr)
 | 0,_,_,_=>none
 | n + 1,v0,v1,v2=>jO (fun b0=>jl n b0) (fun b0 b1 b2=>eA n b0 b1 b2) v0 v1 v2
end
theorem WF_expr_Clone  (n : Nat) : (∀ a0 r,jl n a0 = some r → aL Tryz.prog 16 [(.agg (cz a0))] (.agg (cz r))) ∧ (∀ a0 a1 a2 r,eA n a0 a1 a2 = some r → aL Tryz.prog 37 [(.agg (cz a0)),(.list 9 (a1.map cj)),(.list 50 (a2.map aC))] (.agg (cz r))) := by
 induction n with
 | zero=>exact ⟨(by intros; rename_i h; exact absurd (show (none : Option _) = some _ from h) (by simp)),(by intros; rename_i h; exact absurd (show (none : Option _) = some _ from h) (by simp))⟩
 | succ n ih =>
  exact ⟨(fun v0 r h=>WO_expr_Clone (fun b0=>jl n b0) (fun b0 b1 b2=>eA n b0 b1 b2) ih.1 ih.2 v0  r h),(fun v0 v1 v2 r h=>qE (fun b0=>jl n b0) (fun b0 b1 b2=>eA n b0 b1 b2) ih.1 ih.2 v0 v1 v2  r h)⟩
def iw (e : LExpr) : Option (LExpr) := ik fun n=>jl n e
theorem mj (e : LExpr) (r : LExpr) (H : iw e = some r) :
  aL Tryz.prog 16 [(.agg (cz e))] (.agg (cz r)) := by
 obtain ⟨n,h⟩ := gX H
 exact (WF_expr_Clone  n).1 e r h
def lW (rec20 : LExpr → LExpr → Option (Bool)) (a : LExpr) (b : LExpr) : Option (Bool) :=
 cond (a.kind == b.kind)
  (cond (a.index == b.index)
   (cond (a.name == b.name)
    (cond (a.value.kind == b.value.kind && (a.value.int == b.value.int && (a.value.text == b.value.text && true)))
     (ae (ba a.args b.args (fun a0 a1=>rec20 a0 a1)) fun x36 =>
     some x36)
     (some false))
    (some false))
   (some false))
  (some false)
theorem WO_expr_Equal (rec20 : LExpr → LExpr → Option (Bool)) (hrec20 : ∀ a0 a1 r,rec20 a0 a1 = some r → aL Tryz.prog 20 [(.agg (cz a0)),(.agg (cz a1))] (ay r)) (a : LExpr) (b : LExpr) (r : Bool) (H : lW rec20 a b = some r) :
  aL Tryz.prog 20 [(.agg (cz a)),(.agg (cz b))] (ay r) := by
 unfold lW at H
 refine PH.ax Tryz.func20 Tryz.ntmps20 ?_
 refine ab (aa (aH ?_))
 refine aH ?_
 refine ah tk rfl (ac (ab (aa (ag 6 tk rfl ?_))))
 refine aV rfl rfl rfl H (fun H=>?_) (fun H=>?_)
 ·refine ag 7 tk rfl ?_
  refine aV rfl rfl rfl H (fun H=>?_) (fun H=>?_)
  ·refine ag 7 tk rfl ?_
   refine aV rfl rfl rfl H (fun H=>?_) (fun H=>?_)
   ·refine ag 7 tk rfl ?_
    refine aV rfl rfl rfl H (fun H=>?_) (fun H=>?_)
    ·refine ag 4 tk rfl ?_
     obtain ⟨x36,h36,H⟩ := au H
     have s36 := cQ a.args b.args (fun a0 a1=>rec20 a0 a1) Tryz.call20 (fun a0 a1 r h=>hrec20 a0 a1 r h) _ h36
     refine aj Tryz.call19 (gK.r) s36 ?_
     refine ag 2 tk rfl (ac ?_)
     exact aS tk H rfl
    refine ag 7 tk rfl (ac ?_)
    exact aS tk H rfl
   refine ag 14 tk rfl (ac ?_)
   exact aS tk H rfl
  refine ag 21 tk rfl (ac ?_)
  exact aS tk H rfl
 refine ag 28 tk rfl (ac ?_)
 exact aS tk H rfl
def iv : Nat → LExpr → LExpr → Option (Bool)
 | 0,_,_=>none
 | n + 1,v0,v1=>lW (fun b0 b1=>iv n b0 b1) v0 v1
theorem WF_expr_Equal  (n : Nat) : (∀ a0 a1 r,iv n a0 a1 = some r → aL Tryz.prog 20 [(.agg (cz a0)),(.agg (cz a1))] (ay r)) := by
 induction n with
 | zero=>exact (by intros; rename_i h; exact absurd (show (none : Option _) = some _ from h) (by simp))
 | succ n ih =>
  exact (fun v0 v1 r h=>WO_expr_Equal (fun b0 b1=>iv n b0 b1) ih v0 v1  r h)
def gm (a : LExpr) (b : LExpr) : Option (Bool) := ik fun n=>iv n a b
theorem ox (a : LExpr) (b : LExpr) (r : Bool) (H : gm a b = some r) :
  aL Tryz.prog 20 [(.agg (cz a)),(.agg (cz b))] (ay r) := by
 obtain ⟨n,h⟩ := gX H
 exact (WF_expr_Equal  n) a b r h
def go (x : Rq) (y : Rq) : Option (Bool) :=
 ae (cw x y) fun x7 =>
 some x7
theorem oR (x : Rq) (y : Rq) (r : Bool) (H : go x y = some r) :
  aL Tryz.prog 26 [(.list 48 (x.map af)),(.list 48 (y.map af))] (ay r) := by
 unfold go at H
 refine PH.ax Tryz.func26 Tryz.ntmps26 ?_
 refine am 1 tk rfl (ab (aa (ag 2 tk rfl ?_)))
 obtain ⟨x7,h7,H⟩ := au H
 have s7 := gq x y _ h7
 refine aj Tryz.call27 (gK.r) s7 ?_
 refine ah tk rfl (ac ?_)
 exact aS tk H rfl
def dn (kinds : List Int) (c0 : LQuery) : Option (Bool) :=
 ae (eZ kinds c0.kind) fun x7 =>
 some x7
theorem fy (kinds : List Int) (c0 : LQuery) (r : Bool) (H : dn kinds c0 = some r) :
  aL Tryz.prog 100 [(.list 3 (kinds.map bS)),(.ptr (aw c0))] (ay r) := by
 unfold dn at H
 refine PH.ax Tryz.func100 Tryz.ntmps100 ?_
 refine am 1 tk rfl (ab (aa (ag 3 tk rfl ?_)))
 obtain ⟨x7,h7,H⟩ := au H
 have s7 := nm kinds c0.kind _ h7
 refine aj Tryz.call101 (gK.r) s7 ?_
 refine ah tk rfl (ac ?_)
 exact aS tk H rfl
def fp (q : LQuery) (args : Rq) : Option (Int) :=
 ae (fh q) fun x11 =>
 cond (x11.2 != (0 : Int))
  (some x11.2)
  (cond (decide ((args.length : Int) < (x11.1.length : Int)))
   (some 1)
   (ae (aD (σ := Unit) (ρ := (Int)) (fun (j1 : Nat) (x1 : Int) (_ : Unit) =>
    ae (aK args (j1 : Int)) fun (x31 : LVal) =>
    br (eO x31) fun x33 =>
    cond (!x33)
     (some (.ret 7))
     (cond (x1 != (0 : Int))
      (ae (aK args (j1 : Int)) fun (x41 : LVal) =>
      cond (x41.kind != x1)
       (ae (aK args (j1 : Int)) fun (x50 : LVal) =>
       cond (x50.kind != (0 : Int))
        (some (.ret 7))
        (some (.next ())))
       (some (.next ())))
      (some (.next ())))) 0 x11.1 ()) fun fl1=>fl1.thenR fun (_ : Unit) =>
   some 0))
theorem lp (q : LQuery) (args : Rq) (r : Int) (H : fp q args = some r) :
  aL Tryz.prog 13 [(.agg (aw q)),(.list 48 (args.map af))] (ai r) := by
 unfold fp at H
 refine PH.ax Tryz.func13 Tryz.ntmps13 ?_
 refine ab (aa (aH ?_))
 refine ah tk rfl (ac (ab (aa (ah tk rfl ?_))))
 obtain ⟨x11,h11,H⟩ := au H
 have s11 := lf q _ h11
 refine aj Tryz.call35 (gK.r) s11 ?_
 refine ag 5 tk rfl (ac (ab (am 2 tk rfl ?_)))
 refine aM rfl H (fun H=>?_) (fun H=>?_)
 ·refine am 2 tk rfl ?_
  exact aS tk H rfl
 refine ao (ab (ab (aa (ah tk rfl (az tk (zl _) ?_)))))
 refine ah tk rfl (az tk (zl _) ?_)
 refine ah tk rfl (ac ?_)
 refine aM rfl H (fun H=>?_) (fun H=>?_)
 ·refine am 1 tk rfl ?_
  exact aS tk H rfl
 refine ao (ab (ab (aa (ah tk rfl (az tk (zl _) ?_)))))
 refine ah tk rfl (ac ?_)
 refine ez tk 24 23 22 (fun s1 g1=>upd (fun _=>.any) 1 (.list 48 (args.map af))) nB nO () H (fun fl1 Hp1 j1 s1 g1 hz1 hl1 x1 fb1 hx1 H hg1=>?_) (fun s1 g1 H=>?_)
 ·refine ab (av (ab (aa (ah tk rfl ?_))))
  refine aU tk (zn j1) (bl (fun _=>rfl) hx1) ?_
  refine ag 3 tk rfl (ac (ab (aa (ag 2 tk rfl ?_))))
  obtain ⟨x31,k31,H⟩ := bq H
  refine aU tk k31.1 (aO (fun _=>rfl) k31.2) ?_
  refine ah tk rfl ?_
  obtain ⟨x33,h33,H⟩ := cL H
  have s33 := rH x31
  rw [h33] at s33
  refine aj Tryz.call36 (gK.r) s33 ?_
  refine ag 2 tk rfl ?_
  refine aV rfl rfl rfl H (fun H=>?_) (fun H=>?_)
  ·refine ag 20 tk rfl (ac (bU rfl (am 1 tk rfl ?_)))
   obtain rfl := aA H
   have e1 : fl1 = .ret _ := hg1
   subst e1
   obtain rfl := aY Hp1
   refine bj tk rfl (ps := [(ai 7)]) ⟨_,_,rfl,rfl,rfl⟩ (PLe.q rfl)
  refine ag 3 tk rfl ?_
  refine aV rfl rfl rfl H (fun H=>?_) (fun H=>?_)
  ·refine ag 2 tk rfl ?_
   obtain ⟨x41,k41,H⟩ := bq H
   refine aU tk k41.1 (aO (fun _=>rfl) k41.2) ?_
   refine ag 6 tk rfl ?_
   refine aV rfl rfl rfl H (fun H=>?_) (fun H=>?_)
   ·refine ag 2 tk rfl ?_
    obtain ⟨x50,k50,H⟩ := bq H
    refine aU tk k50.1 (aO (fun _=>rfl) k50.2) ?_
    refine ag 5 tk rfl (ac ?_)
    refine aM rfl H (fun H=>?_) (fun H=>?_)
    ·refine am 1 tk rfl ?_
     obtain rfl := aA H
     have e1 : fl1 = .ret _ := hg1
     subst e1
     obtain rfl := aY Hp1
     refine bj tk rfl (ps := [(ai 7)]) ⟨_,_,rfl,rfl,rfl⟩ (PLe.q rfl)
    refine ao (aG (bc 2 tk rfl ?_))
    exact bg () H hl1 hg1
   refine ag 8 tk rfl (ac (bB rfl (ao (aG (bc 2 tk rfl ?_)))))
   exact bg () H hl1 hg1
  refine ag 17 tk rfl (ac (bB rfl (ao (aG (bc 2 tk rfl ?_)))))
  exact bg () H hl1 hg1
 refine am 1 tk rfl ?_
 exact aS tk H rfl
def jD (a : LVal) (b : LVal) : Int :=
 br (fY a.kind b.kind) fun x11 =>
 cond (x11 != (0 : Int))
  (x11)
  (br (fY a.int b.int) fun x19 =>
  cond (x19 != (0 : Int))
   (x19)
   (br (jP a.text b.text) fun x27 =>
   x27))
theorem oG (a : LVal) (b : LVal) :
  aL Tryz.prog 50 [(.agg (af a)),(.agg (af b))] (ai (jD a b)) := by
 obtain ⟨r,H⟩ : ∃ r,jD a b = r := ⟨_,rfl⟩
 rw [H]
 unfold jD at H
 refine PH.ax Tryz.func50 Tryz.ntmps50 ?_
 refine ab (aa (aH ?_))
 refine aH ?_
 refine ah tk rfl (ac (ab (ab (aa (ag 4 tk rfl ?_)))))
 obtain ⟨x11,h11,H⟩ := cL H
 have s11 := ky a.kind b.kind
 rw [h11] at s11
 refine aj Tryz.call51 (gK.r) s11 ?_
 refine ah tk rfl (ac (am 2 tk rfl ?_))
 refine aM rfl H (fun H=>?_) (fun H=>?_)
 ·refine am 2 tk rfl ?_
  exact et tk H rfl
 refine ao (ab (ab (aa (ag 4 tk rfl ?_))))
 obtain ⟨x19,h19,H⟩ := cL H
 have s19 := ky a.int b.int
 rw [h19] at s19
 refine aj Tryz.call51 (gK.r) s19 ?_
 refine ah tk rfl (ac (am 2 tk rfl ?_))
 refine aM rfl H (fun H=>?_) (fun H=>?_)
 ·refine am 2 tk rfl ?_
  exact et tk H rfl
 refine ao (ab (aa (ag 4 tk rfl ?_)))
 obtain ⟨x27,h27,H⟩ := cL H
 have s27 := rm a.text b.text
 rw [h27] at s27
 refine aj Tryz.call77 (gK.r) s27 ?_
 refine ah tk rfl (ac ?_)
 exact et tk H rfl
def kG (a : Rz) (b : Rz) : Option (Rz) :=
 ae (aD (σ := Rz × Rz) (ρ := Empty) (fun (_ : Nat) (x1 : Rq) (s1 : Rz × Rz) =>
  ae (bM s1.1 (fun a0=>iZ a0 x1)) fun x20 =>
  ae (fe (x20.2.length = s1.1.length) ()) fun (_ : Unit) =>
  cond (decide (x20.1 ≥ (0 : Int)))
   (ae (delI x20.2 x20.1 (IntKind.i64.wrap (x20.1 + (1 : Int)))) fun x27 =>
   some (.next (x27,s1.2)))
   (ae (cy 24 s1.2 ([x1] : Rz)) fun (x31 : Rz) =>
   some (.next (x20.2,x31)))) 0 a (b,[])) fun fl1=>fl1.thenP fun (s1 : Rz × Rz) =>
 some s1.2
theorem W_query_less (a : Rz) (b : Rz) (r : Rz) (H : kG a b = some r) :
  aL Tryz.prog 60 [(.list 57 (a.map (al 48 af))),(.list 57 (b.map (al 48 af)))] (.list 57 (r.map (al 48 af))) := by
 unfold kG at H
 refine PH.ax Tryz.func60 Tryz.ntmps60 ?_
 refine am 1 tk rfl (ab (aa (ah tk rfl ?_)))
 have s11 := pQ (m := 11) b
 refine lE (g := 59) rfl rfl rfl Tryz.call59 (gK.r) rfl rfl s11 (fun g11=>?_)
 refine ah tk rfl (ac (am 1 tk rfl (ab (ab (aa (ah tk rfl (az tk (zl _) ?_)))))))
 refine ah tk rfl (ac ?_)
 obtain ⟨fl1,H1,Hp1⟩ := au H
 refine gG tk 12 rfl rfl (fun hz1 _=>?_)
 rw [zl] at hz1
 refine dM (τ := Rz × Rz) (γ := OwnRef × OwnRef) (fun s1 g1=>⟨34,upd (fun _=>.any) 6 (.own 31 g1.2 (s1.2.map (al 48 af)).length),fun _=>none,upd (fun _=>none) 31 (some ⟨g1.2,57,(s1.2.map (al 48 af)),true⟩)⟩) (fun t=>fl1 = .next t) ?_ (fun s1 g1 hn1=>?_)
 ·refine av (ic tk 6 31 (e := 57) rfl rfl ?_)
  refine eF (fun j1 s1 g1=>⟨34,upd (upd (upd (upd (upd (fun _=>.any) 14 (ai (j1 : Int))) 13 (ai (a.length : Int))) 12 (.list 57 (a.map (al 48 af)))) 6 (.own 31 g1.2 (s1.2.map (al 48 af)).length)) 5 (.own 11 g1.1 (s1.1.map (al 48 af)).length),fun _=>none,upd (upd (fun _=>none) 31 (some ⟨g1.2,57,(s1.2.map (al 48 af)),true⟩)) 11 (some ⟨g1.1,57,(s1.1.map (al 48 af)),true⟩)⟩) (g11,⟨none,0⟩) H1 Gh.d (fun j1 s1 g1 hj1 hr1=>?_)
  refine am 1 tk rfl (ab ?_)
  refine bh rfl (fun h=>?_) (fun h=>?_)
  ·have hl1 := pl h
   obtain ⟨x1,fb1,hx1,H,hg1⟩ := rMc hl1 hr1
   refine ao (ab (av (ab (aa ?_))))
   refine aU tk (zn j1) (bl (fun _=>rfl) hx1) ?_
   refine ah tk rfl ?_
   refine aN tk fun b8=>?_
   refine ak tk ?_
   refine ac (ab (ab (aa (ah tk rfl (dB (Gh.freezeB 8 rfl rfl rfl rfl) (ah tk rfl ?_))))))
   obtain ⟨x20,h20,H⟩ := au H
   have s20 := fA g1.1 s1.1 (fun a0=>iZ a0 x1) Tryz.call86 (fun a0 r h=>W_query_less_1 a0 x1 r h) _ h20
   obtain ⟨_,q20_0,H⟩ := au H
   have l20_0 := (dH q20_0).1
   have z20_0 : (List.map (al 48 af) s1.1).length = (List.map (al 48 af) x20.2).length := by simpa using (l20_0).symm
   refine dD (g := 85) rfl rfl rfl Tryz.call85 [] [(11,0)] rfl rfl rfl rfl (gK.of2 (iz.cons (lA.own rfl) (iz.cons (lA.of_eq rfl) iz.nil))) (by rw [cX,cl,cZ]; rfl) s20 ?_
   rintro u20 H20h ⟨rfl,rfl⟩
   refine ⟨_,rfl,?_⟩
   refine dB (st' := ⟨_,_,fun _=>none,upd (upd (fun _=>none) 31 (some ⟨g1.2,57,(s1.2.map (al 48 af)),true⟩)) 11 (some ⟨g1.1,57,(x20.2.map (al 48 af)),true⟩)⟩) (Gh.le (cA _ _) aI (aP (aP aJ))) ?_
   refine ah tk rfl (ac (am 2 tk rfl ?_))
   refine aM rfl H (fun H=>?_) (fun H=>?_)
   ·refine ab (aa (ag 4 tk rfl ?_))
    obtain ⟨x27,h27,H⟩ := au H
    have s27 := W_delete_87 g1.1 x20.2 x20.1 (IntKind.i64.wrap (x20.1 + (1 : Int))) _ h27
    refine dD (g := 87) rfl rfl rfl Tryz.call87 [] [(11,0)] rfl rfl rfl rfl (gK.of2 (iz.cons (lA.own z20_0) (iz.cons (lA.of_eq rfl) (iz.cons (lA.of_eq rfl) iz.nil)))) (by rw [cX,cl,cZ]; rfl) s27 ?_
    rintro u27 H27h ⟨rfl,rfl⟩
    refine ⟨_,rfl,?_⟩
    refine dB (st' := ⟨_,_,fun _=>none,upd (upd (fun _=>none) 31 (some ⟨g1.2,57,(s1.2.map (al 48 af)),true⟩)) 11 (some ⟨g1.1,57,(x27.map (al 48 af)),true⟩)⟩) (Gh.le (cA _ _) aI (aP (aP aJ))) ?_
    refine lO 27 (q := (.own 11 g1.1 (x27.map (al 48 af)).length)) rfl (PLe.of2 (lA.own rfl)) (ah tk rfl (ac (bm rfl (bc 2 tk rfl ?_))))
    exact bg (g1.1,g1.2) H hl1 hg1
   refine ao (aa (ag 2 tk rfl (cv tk (rows' := List.map (al 48 af) ([x1] : Rz)) (gP.refl _) ?_)))
   obtain ⟨x31,h31,H⟩ := au H
   have k31 := bX h31
   refine cr (rows2' := List.map (al 48 af) ([x1] : Rz)) (rows' := List.map (al 48 af) x31) tk rfl rfl rfl rfl rfl rfl rfl rfl rfl rfl rfl rfl rfl (gP.refl _) (cK k31.1) (cI k31.2.1) (cF k31.2.2) fun g31=>?_
   refine ah tk rfl (ac (aG (bc 2 tk rfl ?_)))
   exact bg (g1.1,g31) H hl1 hg1 (Gh.le (bs (PLe.of2 (lA.of_eq (congrArg (PV.own 11 g1.1) z20_0))) (ap (ap (ap (bs (PLe.q (ft (by omega))) aT))))) aI (aP (aP aJ)))
  have hn1 := rMd (pp h) hr1
  refine bm rfl ?_
  refine be s1 g1 hn1 Gh.d
 have H := ci hn1 Hp1
 refine am 2 tk rfl (dZ 4 rfl rfl rfl ?_)
 exact aS tk H rfl
def cx (rec130 : Rz → Int → Int → Int → Option (Rz)) (data : Rz) (a : Int) (m : Int) (b : Int) (cmp : Rq → Rq → Option (Int)) : Option (Rz) :=
 cond ((IntKind.i64.wrap (m - a)) == (1 : Int))
  (ae (fJ (σ := Rz × Int × Int) (ρ := Empty) (fun (s1 : Rz × Int × Int) =>
   cond (decide (s1.2.1 < s1.2.2))
    (ae (aK s1.1 (IntKind.i64.wrap (Int.fdiv (IntKind.u64.wrap (IntKind.i64.wrap (s1.2.1 + s1.2.2))) (2 ^ 1)))) fun (x43 : Rq) =>
    ae (aK s1.1 a) fun (x47 : Rq) =>
    ae (cmp x43 x47) fun x49 =>
    cond (decide (x49 < (0 : Int)))
     (some (.next (s1.1,(IntKind.i64.wrap ((IntKind.i64.wrap (Int.fdiv (IntKind.u64.wrap (IntKind.i64.wrap (s1.2.1 + s1.2.2))) (2 ^ 1))) + (1 : Int))),s1.2.2)))
     (some (.next (s1.1,s1.2.1,(IntKind.i64.wrap (Int.fdiv (IntKind.u64.wrap (IntKind.i64.wrap (s1.2.1 + s1.2.2))) (2 ^ 1)))))))
    (some (.brk (s1.1,s1.2.1,s1.2.2)))) (data,m,b)) fun fl1=>fl1.thenP fun (s1 : Rz × Int × Int) =>
  ae (fJ (σ := Rz × Int) (ρ := Empty) (fun (s2 : Rz × Int) =>
   cond (decide (s2.2 < (IntKind.i64.wrap (s1.2.1 - (1 : Int)))))
    (ae (aK s2.1 (IntKind.i64.wrap (s2.2 + (1 : Int)))) fun (x69 : Rq) =>
    ae (aK s2.1 s2.2) fun (x73 : Rq) =>
    ae (aK s2.1 s2.2) fun (_ : Rq) =>
    br (s2.1.set s2.2.toNat x69) fun (y7 : Rz) =>
    ae (aK y7 (IntKind.i64.wrap (s2.2 + (1 : Int)))) fun (_ : Rq) =>
    br (y7.set ((IntKind.i64.wrap (s2.2 + (1 : Int))).toNat) x73) fun (y8 : Rz) =>
    some (.next (y8,(IntKind.i64.wrap (s2.2 + (1 : Int))))))
    (some (.brk (s2.1,s2.2)))) (s1.1,a)) fun fl2=>fl2.thenP fun (s2 : Rz × Int) =>
  some s2.1)
  (cond ((IntKind.i64.wrap (b - m)) == (1 : Int))
   (ae (fJ (σ := Rz × Int × Int) (ρ := Empty) (fun (s9 : Rz × Int × Int) =>
    cond (decide (s9.2.1 < s9.2.2))
     (ae (aK s9.1 m) fun (x95 : Rq) =>
     ae (aK s9.1 (IntKind.i64.wrap (Int.fdiv (IntKind.u64.wrap (IntKind.i64.wrap (s9.2.1 + s9.2.2))) (2 ^ 1)))) fun (x99 : Rq) =>
     ae (cmp x95 x99) fun x101 =>
     cond (!(decide (x101 < (0 : Int))))
      (some (.next (s9.1,(IntKind.i64.wrap ((IntKind.i64.wrap (Int.fdiv (IntKind.u64.wrap (IntKind.i64.wrap (s9.2.1 + s9.2.2))) (2 ^ 1))) + (1 : Int))),s9.2.2)))
      (some (.next (s9.1,s9.2.1,(IntKind.i64.wrap (Int.fdiv (IntKind.u64.wrap (IntKind.i64.wrap (s9.2.1 + s9.2.2))) (2 ^ 1)))))))
     (some (.brk (s9.1,s9.2.1,s9.2.2)))) (data,a,m)) fun fl9=>fl9.thenP fun (s9 : Rz × Int × Int) =>
   ae (fJ (σ := Rz × Int) (ρ := Empty) (fun (s10 : Rz × Int) =>
    cond (decide (s10.2 > s9.2.1))
     (ae (aK s10.1 (IntKind.i64.wrap (s10.2 - (1 : Int)))) fun (x121 : Rq) =>
     ae (aK s10.1 s10.2) fun (x125 : Rq) =>
     ae (aK s10.1 s10.2) fun (_ : Rq) =>
     br (s10.1.set s10.2.toNat x121) fun (y15 : Rz) =>
     ae (aK y15 (IntKind.i64.wrap (s10.2 - (1 : Int)))) fun (_ : Rq) =>
     br (y15.set ((IntKind.i64.wrap (s10.2 - (1 : Int))).toNat) x125) fun (y16 : Rz) =>
     some (.next (y16,(IntKind.i64.wrap (s10.2 - (1 : Int))))))
     (some (.brk (s10.1,s10.2)))) (s9.1,m)) fun fl10=>fl10.thenP fun (s10 : Rz × Int) =>
   some s10.1)
   (br (
    cond (decide (m > (IntKind.i64.wrap (Int.fdiv (IntKind.u64.wrap (IntKind.i64.wrap (a + b))) (2 ^ 1)))))
     ((data,(IntKind.i64.wrap ((IntKind.i64.wrap ((IntKind.i64.wrap (Int.fdiv (IntKind.u64.wrap (IntKind.i64.wrap (a + b))) (2 ^ 1))) + m)) - b)),(IntKind.i64.wrap (Int.fdiv (IntKind.u64.wrap (IntKind.i64.wrap (a + b))) (2 ^ 1)))))
     ((data,a,m))) fun (t17 : Rz × Int × Int) =>
   ae (fJ (σ := Rz × Int × Int) (ρ := Empty) (fun (s18 : Rz × Int × Int) =>
    cond (decide (s18.2.1 < s18.2.2))
     (ae (aK s18.1 (IntKind.i64.wrap ((IntKind.i64.wrap ((IntKind.i64.wrap ((IntKind.i64.wrap (Int.fdiv (IntKind.u64.wrap (IntKind.i64.wrap (a + b))) (2 ^ 1))) + m)) - (1 : Int))) - (IntKind.i64.wrap (Int.fdiv (IntKind.u64.wrap (IntKind.i64.wrap (s18.2.1 + s18.2.2))) (2 ^ 1)))))) fun (x163 : Rq) =>
     ae (aK s18.1 (IntKind.i64.wrap (Int.fdiv (IntKind.u64.wrap (IntKind.i64.wrap (s18.2.1 + s18.2.2))) (2 ^ 1)))) fun (x167 : Rq) =>
     ae (cmp x163 x167) fun x169 =>
     cond (!(decide (x169 < (0 : Int))))
      (some (.next (s18.1,(IntKind.i64.wrap ((IntKind.i64.wrap (Int.fdiv (IntKind.u64.wrap (IntKind.i64.wrap (s18.2.1 + s18.2.2))) (2 ^ 1))) + (1 : Int))),s18.2.2)))
      (some (.next (s18.1,s18.2.1,(IntKind.i64.wrap (Int.fdiv (IntKind.u64.wrap (IntKind.i64.wrap (s18.2.1 + s18.2.2))) (2 ^ 1)))))))
     (some (.brk (s18.1,s18.2.1,s18.2.2)))) (t17.1,t17.2.1,t17.2.2)) fun fl18=>fl18.thenP fun (s18 : Rz × Int × Int) =>
   br (
    cond (decide (s18.2.1 < m))
     ((s18.1,(decide (m < (IntKind.i64.wrap ((IntKind.i64.wrap ((IntKind.i64.wrap (Int.fdiv (IntKind.u64.wrap (IntKind.i64.wrap (a + b))) (2 ^ 1))) + m)) - s18.2.1))))))
     ((s18.1,false))) fun (t19 : Rz × Bool) =>
   ae (
    cond t19.2
     (ae (dt t19.1 s18.2.1 m (IntKind.i64.wrap ((IntKind.i64.wrap ((IntKind.i64.wrap (Int.fdiv (IntKind.u64.wrap (IntKind.i64.wrap (a + b))) (2 ^ 1))) + m)) - s18.2.1)) cmp) fun x191 =>
     ae (fe (x191.length = t19.1.length) ()) fun (_ : Unit) =>
     some x191)
     (some t19.1)) fun (t20 : Rz) =>
   br (
    cond (decide (a < s18.2.1))
     ((t20,(decide (s18.2.1 < (IntKind.i64.wrap (Int.fdiv (IntKind.u64.wrap (IntKind.i64.wrap (a + b))) (2 ^ 1)))))))
     ((t20,false))) fun (t21 : Rz × Bool) =>
   ae (
    cond t21.2
     (ae (rec130 t21.1 a s18.2.1 (IntKind.i64.wrap (Int.fdiv (IntKind.u64.wrap (IntKind.i64.wrap (a + b))) (2 ^ 1)))) fun x205 =>
     ae (fe (x205.length = t21.1.length) ()) fun (_ : Unit) =>
     some x205)
     (some t21.1)) fun (t22 : Rz) =>
   cond (decide ((IntKind.i64.wrap (Int.fdiv (IntKind.u64.wrap (IntKind.i64.wrap (a + b))) (2 ^ 1))) < (IntKind.i64.wrap ((IntKind.i64.wrap ((IntKind.i64.wrap (Int.fdiv (IntKind.u64.wrap (IntKind.i64.wrap (a + b))) (2 ^ 1))) + m)) - s18.2.1))))
    (cond (decide ((IntKind.i64.wrap ((IntKind.i64.wrap ((IntKind.i64.wrap (Int.fdiv (IntKind.u64.wrap (IntKind.i64.wrap (a + b))) (2 ^ 1))) + m)) - s18.2.1)) < b))
     (ae (rec130 t22 (IntKind.i64.wrap (Int.fdiv (IntKind.u64.wrap (IntKind.i64.wrap (a + b))) (2 ^ 1))) (IntKind.i64.wrap ((IntKind.i64.wrap ((IntKind.i64.wrap (Int.fdiv (IntKind.u64.wrap (IntKind.i64.wrap (a + b))) (2 ^ 1))) + m)) - s18.2.1)) b) fun x219 =>
     ae (fe (x219.length = t22.length) ()) fun (_ : Unit) =>
     some x219)
     (some t22))
    (some t22)))
theorem ll (g_data : OwnRef) {g_cmp : FuncId} {caps_cmp : List PV} (rec130 : Rz → Int → Int → Int → Option (Rz)) (hrec130 : ∀ g0 a0 a1 a2 a3 r,rec130 a0 a1 a2 a3 = some r → PH Tryz.prog 130 [(.own 0 g0 (a0.map (al 48 af)).length),(ai a1),(ai a2),(ai a3),(.fn g_cmp caps_cmp)] ⟨fun _=>none,upd (fun _=>none) 0 (some ⟨g0,57,(a0.map (al 48 af)),true⟩)⟩ (fun u H=>u = (.tup []) ∧ H = ⟨fun _=>none,upd (fun _=>none) 0 (some ⟨g0,57,(r.map (al 48 af)),true⟩)⟩)) (data : Rz) (a : Int) (m : Int) (b : Int) (cmp : Rq → Rq → Option (Int)) (hg_cmp : ∀ (vs : Array Value) (w : World),(callFunc g_cmp vs).run Tryz.prog w = .ok (.enter g_cmp vs) w) (hp_cmp : ∀ a0 a1 r,cmp a0 a1 = some r → aL Tryz.prog g_cmp ((.list 48 (a0.map af)) :: (.list 48 (a1.map af)) :: caps_cmp) (ai r)) (r : Rz) (H : cx rec130 data a m b cmp = some r) :
  PH Tryz.prog 130 [(.own 0 g_data (data.map (al 48 af)).length),(ai a),(ai m),(ai b),(.fn g_cmp caps_cmp)] ⟨fun _=>none,upd (fun _=>none) 0 (some ⟨g_data,57,(data.map (al 48 af)),true⟩)⟩ (fun u H=>u = (.tup []) ∧ H = ⟨fun _=>none,upd (fun _=>none) 0 (some ⟨g_data,57,(r.map (al 48 af)),true⟩)⟩) := by
 unfold cx at H
 refine PH.ax Tryz.func130 Tryz.ntmps130 ?_
 refine ab (am 4 tk rfl ?_)
 refine aM rfl H (fun H=>?_) (fun H=>?_)
 ·refine am 2 tk rfl (am 2 tk rfl (ab ?_))
  obtain ⟨fl1,H1,Hp1⟩ := au H
  refine dM (τ := Rz × Int × Int) (γ := Unit) (fun s1 g1=>⟨220,upd (upd (upd (fun _=>.any) 10 (ai s1.2.1)) 1 (ai a)) 0 (.own 0 g_data (s1.1.map (al 48 af)).length),fun _=>none,upd (fun _=>none) 0 (some ⟨g_data,57,(s1.1.map (al 48 af)),true⟩)⟩) (fun t=>fl1 = .next t) ?_ (fun s1 g1 hn1=>?_)
  ·refine av ?_
   refine gN (fun s1 g1=>⟨220,upd (upd (upd (upd (upd (fun _=>.any) 11 (ai s1.2.2)) 10 (ai s1.2.1)) 4 (.fn g_cmp caps_cmp)) 1 (ai a)) 0 (.own 0 g_data (s1.1.map (al 48 af)).length),fun _=>none,upd (fun _=>none) 0 (some ⟨g_data,57,(s1.1.map (al 48 af)),true⟩)⟩) () H1 Gh.d (fun m1 s1 g1 hr1=>?_)
   obtain ⟨fb1,H,hg1⟩ := fv hr1
   refine ab (am 3 tk rfl ?_)
   refine aM rfl H (fun H=>?_) (fun H=>?_)
   ·refine ao (av (ab (aa (ag 4 tk rfl (sf (m := 1) rfl rfl rfl rfl (by decide) rfl rfl (ag 2 tk rfl (ac (ab ?_))))))))
    refine jA (tag := 0) rfl (fun ho0=>?_)
    refine bo tk mok ⟨false,true,[]⟩ [0,1,2,3,4,5,6,7,8,9,10] rfl (by decide +kernel) rfl (aW 3 rfl ?_)
    obtain ⟨x43,k43,H⟩ := bq H
    refine dk tk ⟨k43.1,(cE k43.2)⟩ (cN ho0 k43.2) ?_
    refine eK tk (aO (fun _=>rfl) k43.2) ?_
    refine aW 2 rfl ?_
    obtain ⟨x47,k47,H⟩ := bq H
    refine dk tk ⟨k47.1,(cE k47.2)⟩ (cN ho0 k47.2) ?_
    refine eK tk (aO (fun _=>rfl) k47.2) ?_
    obtain ⟨x49,h49,H⟩ := au H
    refine aZ hg_cmp (gK.r) (hp_cmp _ _ _ h49) ?_
    refine bt rfl (bn ?_)
    refine aM rfl H (fun H=>?_) (fun H=>?_)
    ·refine bc 3 tk rfl (aG ?_)
     obtain rfl := aA H
     refine eg (s1.1,(IntKind.i64.wrap ((IntKind.i64.wrap (Int.fdiv (IntKind.u64.wrap (IntKind.i64.wrap (s1.2.1 + s1.2.2))) (2 ^ 1))) + (1 : Int))),s1.2.2) () hg1 Gh.d
    refine bc 2 tk rfl (aG ?_)
    obtain rfl := aA H
    refine eg (s1.1,s1.2.1,(IntKind.i64.wrap (Int.fdiv (IntKind.u64.wrap (IntKind.i64.wrap (s1.2.1 + s1.2.2))) (2 ^ 1)))) () hg1 Gh.d
   refine bm rfl ?_
   obtain rfl := aA H
   refine be (s1.1,s1.2.1,s1.2.2) () hg1 Gh.d
  have H := ci hn1 Hp1
  refine ab (am 2 tk rfl ?_)
  obtain ⟨fl2,H2,Hp2⟩ := au H
  refine dM (τ := Rz × Int) (γ := Unit) (fun s2 g2=>⟨220,upd (fun _=>.any) 0 (.own 0 g_data (s2.1.map (al 48 af)).length),fun _=>none,upd (fun _=>none) 0 (some ⟨g_data,57,(s2.1.map (al 48 af)),true⟩)⟩) (fun t=>fl2 = .next t) ?_ (fun s2 g2 hn2=>?_)
  ·refine av ?_
   refine gN (fun s2 g2=>⟨220,upd (upd (upd (fun _=>.any) 13 (ai s2.2)) 10 (ai s1.2.1)) 0 (.own 0 g_data (s2.1.map (al 48 af)).length),fun _=>none,upd (fun _=>none) 0 (some ⟨g_data,57,(s2.1.map (al 48 af)),true⟩)⟩) () H2 Gh.d (fun m2 s2 g2 hr2=>?_)
   obtain ⟨fb2,H,hg2⟩ := fv hr2
   refine ab (am 4 tk rfl ?_)
   refine aM rfl H (fun H=>?_) (fun H=>?_)
   ·refine ao (ab (av ?_))
    refine jA (tag := 0) rfl (fun ho0=>?_)
    refine bo tk mok ⟨false,true,[]⟩ [0,1,2,3,4,5,6,7,8,9,10,11,12,13,14,15,16,17] rfl (by decide +kernel) rfl (aW 8 rfl ?_)
    obtain ⟨x69,k69,H⟩ := bq H
    refine dk tk ⟨k69.1,(cE k69.2)⟩ (cN ho0 k69.2) ?_
    refine eK tk (aO (fun _=>rfl) k69.2) ?_
    refine aW 2 rfl ?_
    obtain ⟨x73,k73,H⟩ := bq H
    refine dk tk ⟨k73.1,(cE k73.2)⟩ (cN ho0 k73.2) ?_
    refine eK tk (aO (fun _=>rfl) k73.2) ?_
    obtain ⟨x75,k75,H⟩ := bq H
    refine dk tk ⟨k75.1,(cE k75.2)⟩ (cN ho0 k75.2) ?_
    obtain ⟨y7,hy7,H⟩ := cL H
    refine iX tk rfl rfl rfl rfl rfl rfl rfl rfl rfl (by rw [zl]; exact (zg.1 k75.2).1) (PLe.refl _ _) rfl rfl rfl rfl (by decide) (dC (fun _=>rfl) k75.2 rfl hy7) ?_
    obtain ⟨x76,k76,H⟩ := bq H
    refine dk tk ⟨k76.1,(re (dz (f := (al 48 af)) hy7) k76.2)⟩ (qW ho0 (dz (f := (al 48 af)) hy7) k76.2) ?_
    obtain ⟨y8,hy8,H⟩ := cL H
    refine iX tk rfl rfl rfl rfl rfl rfl rfl rfl rfl (by rw [zl]; exact (zg.1 k76.2).1) (PLe.refl _ _) rfl rfl rfl rfl (by decide) (dC (fun _=>rfl) k76.2 rfl hy8) ?_
    refine bn (aG (bc 3 tk rfl ?_))
    obtain rfl := aA H
    refine eg (y8,(IntKind.i64.wrap (s2.2 + (1 : Int)))) () hg2 (Gh.le (bs (PLe.of2 (lA.of_eq (congrArg (PV.own 0 g_data) ((dz (f := (al 48 af)) hy7).trans (dz (f := (al 48 af)) hy8))))) (ap (ap aT))) aI (aP aJ))
   refine bm rfl ?_
   obtain rfl := aA H
   refine be (s2.1,s2.2) () hg2 Gh.d
  have H := ci hn2 Hp2
  obtain rfl := aA H
  refine eh (st' := ⟨220,fun _=>.any,fun _=>none,upd (fun _=>none) 0 (some ⟨g_data,57,(s2.1.map (al 48 af)),true⟩)⟩) (Gh.le aT aI (aP aJ)) ?_
  refine fD tk rfl (ps := []) rfl (PLe.q rfl) ⟨rfl,rfl⟩
 refine ao (ab (am 4 tk rfl ?_))
 refine aM rfl H (fun H=>?_) (fun H=>?_)
 ·refine am 2 tk rfl (am 2 tk rfl (ab ?_))
  obtain ⟨fl9,H9,Hp9⟩ := au H
  refine dM (τ := Rz × Int × Int) (γ := Unit) (fun s9 g9=>⟨220,upd (upd (upd (fun _=>.any) 14 (ai s9.2.1)) 2 (ai m)) 0 (.own 0 g_data (s9.1.map (al 48 af)).length),fun _=>none,upd (fun _=>none) 0 (some ⟨g_data,57,(s9.1.map (al 48 af)),true⟩)⟩) (fun t=>fl9 = .next t) ?_ (fun s9 g9 hn9=>?_)
  ·refine av ?_
   refine gN (fun s9 g9=>⟨220,upd (upd (upd (upd (upd (fun _=>.any) 15 (ai s9.2.2)) 14 (ai s9.2.1)) 4 (.fn g_cmp caps_cmp)) 2 (ai m)) 0 (.own 0 g_data (s9.1.map (al 48 af)).length),fun _=>none,upd (fun _=>none) 0 (some ⟨g_data,57,(s9.1.map (al 48 af)),true⟩)⟩) () H9 Gh.d (fun m9 s9 g9 hr9=>?_)
   obtain ⟨fb9,H,hg9⟩ := fv hr9
   refine ab (am 3 tk rfl ?_)
   refine aM rfl H (fun H=>?_) (fun H=>?_)
   ·refine ao (av (ab (aa (ag 4 tk rfl (sf (m := 1) rfl rfl rfl rfl (by decide) rfl rfl (ag 2 tk rfl (ac (ab ?_))))))))
    refine jA (tag := 0) rfl (fun ho0=>?_)
    refine bo tk mok ⟨false,true,[]⟩ [0,1,2,3,4,5,6,7,8,9,10,11] rfl (by decide +kernel) rfl (aW 3 rfl ?_)
    obtain ⟨x95,k95,H⟩ := bq H
    refine dk tk ⟨k95.1,(cE k95.2)⟩ (cN ho0 k95.2) ?_
    refine eK tk (aO (fun _=>rfl) k95.2) ?_
    refine aW 2 rfl ?_
    obtain ⟨x99,k99,H⟩ := bq H
    refine dk tk ⟨k99.1,(cE k99.2)⟩ (cN ho0 k99.2) ?_
    refine eK tk (aO (fun _=>rfl) k99.2) ?_
    obtain ⟨x101,h101,H⟩ := au H
    refine aZ hg_cmp (gK.r) (hp_cmp _ _ _ h101) ?_
    refine aW 2 rfl (bn ?_)
    refine aM rfl H (fun H=>?_) (fun H=>?_)
    ·refine bc 3 tk rfl (aG ?_)
     obtain rfl := aA H
     refine eg (s9.1,(IntKind.i64.wrap ((IntKind.i64.wrap (Int.fdiv (IntKind.u64.wrap (IntKind.i64.wrap (s9.2.1 + s9.2.2))) (2 ^ 1))) + (1 : Int))),s9.2.2) () hg9 Gh.d
    refine bc 2 tk rfl (aG ?_)
    obtain rfl := aA H
    refine eg (s9.1,s9.2.1,(IntKind.i64.wrap (Int.fdiv (IntKind.u64.wrap (IntKind.i64.wrap (s9.2.1 + s9.2.2))) (2 ^ 1)))) () hg9 Gh.d
   refine bm rfl ?_
   obtain rfl := aA H
   refine be (s9.1,s9.2.1,s9.2.2) () hg9 Gh.d
  have H := ci hn9 Hp9
  refine ab (am 2 tk rfl ?_)
  obtain ⟨fl10,H10,Hp10⟩ := au H
  refine dM (τ := Rz × Int) (γ := Unit) (fun s10 g10=>⟨220,upd (fun _=>.any) 0 (.own 0 g_data (s10.1.map (al 48 af)).length),fun _=>none,upd (fun _=>none) 0 (some ⟨g_data,57,(s10.1.map (al 48 af)),true⟩)⟩) (fun t=>fl10 = .next t) ?_ (fun s10 g10 hn10=>?_)
  ·refine av ?_
   refine gN (fun s10 g10=>⟨220,upd (upd (upd (fun _=>.any) 17 (ai s10.2)) 14 (ai s9.2.1)) 0 (.own 0 g_data (s10.1.map (al 48 af)).length),fun _=>none,upd (fun _=>none) 0 (some ⟨g_data,57,(s10.1.map (al 48 af)),true⟩)⟩) () H10 Gh.d (fun m10 s10 g10 hr10=>?_)
   obtain ⟨fb10,H,hg10⟩ := fv hr10
   refine ab (am 3 tk rfl ?_)
   refine aM rfl H (fun H=>?_) (fun H=>?_)
   ·refine ao (ab (av ?_))
    refine jA (tag := 0) rfl (fun ho0=>?_)
    refine bo tk mok ⟨false,true,[]⟩ [0,1,2,3,4,5,6,7,8,9,10,11,12,13,14,15,16,17] rfl (by decide +kernel) rfl (aW 8 rfl ?_)
    obtain ⟨x121,k121,H⟩ := bq H
    refine dk tk ⟨k121.1,(cE k121.2)⟩ (cN ho0 k121.2) ?_
    refine eK tk (aO (fun _=>rfl) k121.2) ?_
    refine aW 2 rfl ?_
    obtain ⟨x125,k125,H⟩ := bq H
    refine dk tk ⟨k125.1,(cE k125.2)⟩ (cN ho0 k125.2) ?_
    refine eK tk (aO (fun _=>rfl) k125.2) ?_
    obtain ⟨x127,k127,H⟩ := bq H
    refine dk tk ⟨k127.1,(cE k127.2)⟩ (cN ho0 k127.2) ?_
    obtain ⟨y15,hy15,H⟩ := cL H
    refine iX tk rfl rfl rfl rfl rfl rfl rfl rfl rfl (by rw [zl]; exact (zg.1 k127.2).1) (PLe.refl _ _) rfl rfl rfl rfl (by decide) (dC (fun _=>rfl) k127.2 rfl hy15) ?_
    obtain ⟨x128,k128,H⟩ := bq H
    refine dk tk ⟨k128.1,(re (dz (f := (al 48 af)) hy15) k128.2)⟩ (qW ho0 (dz (f := (al 48 af)) hy15) k128.2) ?_
    obtain ⟨y16,hy16,H⟩ := cL H
    refine iX tk rfl rfl rfl rfl rfl rfl rfl rfl rfl (by rw [zl]; exact (zg.1 k128.2).1) (PLe.refl _ _) rfl rfl rfl rfl (by decide) (dC (fun _=>rfl) k128.2 rfl hy16) ?_
    refine bn (aG (bc 3 tk rfl ?_))
    obtain rfl := aA H
    refine eg (y16,(IntKind.i64.wrap (s10.2 - (1 : Int)))) () hg10 (Gh.le (bs (PLe.of2 (lA.of_eq (congrArg (PV.own 0 g_data) ((dz (f := (al 48 af)) hy15).trans (dz (f := (al 48 af)) hy16))))) (ap (ap aT))) aI (aP aJ))
   refine bm rfl ?_
   obtain rfl := aA H
   refine be (s10.1,s10.2) () hg10 Gh.d
  have H := ci hn10 Hp10
  obtain rfl := aA H
  refine eh (st' := ⟨220,fun _=>.any,fun _=>none,upd (fun _=>none) 0 (some ⟨g_data,57,(s10.1.map (al 48 af)),true⟩)⟩) (Gh.le aT aI (aP aJ)) ?_
  refine fD tk rfl (ps := []) rfl (PLe.q rfl) ⟨rfl,rfl⟩
 refine ao (ab (aa (ag 4 tk rfl (sf (m := 1) rfl rfl rfl rfl (by decide) rfl rfl (ag 2 tk rfl (ac (am 4 tk rfl (am 2 tk rfl (ab (am 3 tk rfl ?_))))))))))
 refine gF (γ := Unit) (fun t17 g17=>⟨220,upd (upd (upd (upd (upd (upd (upd (upd (upd (fun _=>.any) 21 (ai t17.2.2)) 20 (ai t17.2.1)) 19 (ai (IntKind.i64.wrap ((IntKind.i64.wrap (Int.fdiv (IntKind.u64.wrap (IntKind.i64.wrap (a + b))) (2 ^ 1))) + m)))) 18 (ai (IntKind.i64.wrap (Int.fdiv (IntKind.u64.wrap (IntKind.i64.wrap (a + b))) (2 ^ 1))))) 4 (.fn g_cmp caps_cmp)) 3 (ai b)) 2 (ai m)) 1 (ai a)) 0 (.own 0 g_data (t17.1.map (al 48 af)).length),fun _=>none,upd (fun _=>none) 0 (some ⟨g_data,57,(t17.1.map (al 48 af)),true⟩)⟩) H (fun _ H=>?_) (fun t17 g17 H=>?_)
 ·refine aM rfl H (fun H=>?_) (fun H=>?_)
  ·refine am 4 tk rfl (bc 2 tk rfl ?_)
   refine be _ () H Gh.d
  refine am 2 tk rfl (bc 2 tk rfl ?_)
  refine be _ () H Gh.d
 refine am 3 tk rfl (ab ?_)
 obtain ⟨fl18,H18,Hp18⟩ := au H
 refine dM (τ := Rz × Int × Int) (γ := Unit) (fun s18 g18=>⟨220,upd (upd (upd (upd (upd (upd (upd (upd (fun _=>.any) 20 (ai s18.2.1)) 19 (ai (IntKind.i64.wrap ((IntKind.i64.wrap (Int.fdiv (IntKind.u64.wrap (IntKind.i64.wrap (a + b))) (2 ^ 1))) + m)))) 18 (ai (IntKind.i64.wrap (Int.fdiv (IntKind.u64.wrap (IntKind.i64.wrap (a + b))) (2 ^ 1))))) 4 (.fn g_cmp caps_cmp)) 3 (ai b)) 2 (ai m)) 1 (ai a)) 0 (.own 0 g_data (s18.1.map (al 48 af)).length),fun _=>none,upd (fun _=>none) 0 (some ⟨g_data,57,(s18.1.map (al 48 af)),true⟩)⟩) (fun t=>fl18 = .next t) ?_ (fun s18 g18 hn18=>?_)
 ·refine av ?_
  refine gN (fun s18 g18=>⟨220,upd (upd (upd (upd (upd (upd (upd (upd (upd (upd (fun _=>.any) 22 (ai (IntKind.i64.wrap ((IntKind.i64.wrap ((IntKind.i64.wrap (Int.fdiv (IntKind.u64.wrap (IntKind.i64.wrap (a + b))) (2 ^ 1))) + m)) - (1 : Int))))) 21 (ai s18.2.2)) 20 (ai s18.2.1)) 19 (ai (IntKind.i64.wrap ((IntKind.i64.wrap (Int.fdiv (IntKind.u64.wrap (IntKind.i64.wrap (a + b))) (2 ^ 1))) + m)))) 18 (ai (IntKind.i64.wrap (Int.fdiv (IntKind.u64.wrap (IntKind.i64.wrap (a + b))) (2 ^ 1))))) 4 (.fn g_cmp caps_cmp)) 3 (ai b)) 2 (ai m)) 1 (ai a)) 0 (.own 0 g_data (s18.1.map (al 48 af)).length),fun _=>none,upd (fun _=>none) 0 (some ⟨g_data,57,(s18.1.map (al 48 af)),true⟩)⟩) () H18 Gh.d (fun m18 s18 g18 hr18=>?_)
  obtain ⟨fb18,H,hg18⟩ := fv hr18
  refine ab (am 3 tk rfl ?_)
  refine aM rfl H (fun H=>?_) (fun H=>?_)
  ·refine ao (av (ab (aa (ag 4 tk rfl (sf (m := 1) rfl rfl rfl rfl (by decide) rfl rfl (ag 2 tk rfl (ac (ab ?_))))))))
   refine jA (tag := 0) rfl (fun ho0=>?_)
   refine bo tk mok ⟨false,true,[]⟩ [0,1,2,3,4,5,6,7,8,9,10,11,12,13] rfl (by decide +kernel) rfl (aW 5 rfl ?_)
   obtain ⟨x163,k163,H⟩ := bq H
   refine dk tk ⟨k163.1,(cE k163.2)⟩ (cN ho0 k163.2) ?_
   refine eK tk (aO (fun _=>rfl) k163.2) ?_
   refine aW 2 rfl ?_
   obtain ⟨x167,k167,H⟩ := bq H
   refine dk tk ⟨k167.1,(cE k167.2)⟩ (cN ho0 k167.2) ?_
   refine eK tk (aO (fun _=>rfl) k167.2) ?_
   obtain ⟨x169,h169,H⟩ := au H
   refine aZ hg_cmp (gK.r) (hp_cmp _ _ _ h169) ?_
   refine aW 2 rfl (bn ?_)
   refine aM rfl H (fun H=>?_) (fun H=>?_)
   ·refine bc 3 tk rfl (aG ?_)
    obtain rfl := aA H
    refine eg (s18.1,(IntKind.i64.wrap ((IntKind.i64.wrap (Int.fdiv (IntKind.u64.wrap (IntKind.i64.wrap (s18.2.1 + s18.2.2))) (2 ^ 1))) + (1 : Int))),s18.2.2) () hg18 Gh.d
   refine bc 2 tk rfl (aG ?_)
   obtain rfl := aA H
   refine eg (s18.1,s18.2.1,(IntKind.i64.wrap (Int.fdiv (IntKind.u64.wrap (IntKind.i64.wrap (s18.2.1 + s18.2.2))) (2 ^ 1)))) () hg18 Gh.d
  refine bm rfl ?_
  obtain rfl := aA H
  refine be (s18.1,s18.2.1,s18.2.2) () hg18 Gh.d
 have H := ci hn18 Hp18
 refine am 4 tk rfl (ab (ab ?_))
 refine gF (γ := Unit) (fun t19 g19=>⟨220,upd (upd (upd (upd (upd (upd (upd (upd (upd (fun _=>.any) 185 (ay t19.2)) 24 (ai (IntKind.i64.wrap ((IntKind.i64.wrap ((IntKind.i64.wrap (Int.fdiv (IntKind.u64.wrap (IntKind.i64.wrap (a + b))) (2 ^ 1))) + m)) - s18.2.1)))) 20 (ai s18.2.1)) 18 (ai (IntKind.i64.wrap (Int.fdiv (IntKind.u64.wrap (IntKind.i64.wrap (a + b))) (2 ^ 1))))) 4 (.fn g_cmp caps_cmp)) 3 (ai b)) 2 (ai m)) 1 (ai a)) 0 (.own 0 g_data (t19.1.map (al 48 af)).length),fun _=>none,upd (fun _=>none) 0 (some ⟨g_data,57,(t19.1.map (al 48 af)),true⟩)⟩) H (fun _ H=>?_) (fun t19 g19 H=>?_)
 ·refine aa (ag 4 tk rfl ?_)
  refine aV rfl rfl rfl H (fun H=>?_) (fun H=>?_)
  ·refine ag 4 tk rfl (ac ?_)
   refine be _ () H Gh.d
  refine ag 4 tk rfl (ac ?_)
  refine be _ () H Gh.d
 refine fS (γ := Unit) (fun t20 g20=>⟨220,upd (upd (upd (upd (upd (upd (upd (fun _=>.any) 24 (ai (IntKind.i64.wrap ((IntKind.i64.wrap ((IntKind.i64.wrap (Int.fdiv (IntKind.u64.wrap (IntKind.i64.wrap (a + b))) (2 ^ 1))) + m)) - s18.2.1)))) 20 (ai s18.2.1)) 18 (ai (IntKind.i64.wrap (Int.fdiv (IntKind.u64.wrap (IntKind.i64.wrap (a + b))) (2 ^ 1))))) 4 (.fn g_cmp caps_cmp)) 3 (ai b)) 1 (ai a)) 0 (.own 0 g_data (t20.map (al 48 af)).length),fun _=>none,upd (fun _=>none) 0 (some ⟨g_data,57,(t20.map (al 48 af)),true⟩)⟩) H (fun _ H=>?_) (fun t20 g20 H=>?_)
 ·refine aM rfl H (fun H=>?_) (fun H=>?_)
  ·refine aa (ag 5 tk rfl ?_)
   obtain ⟨x191,h191,H⟩ := au H
   have s191 := mp g_data t19.1 s18.2.1 m (IntKind.i64.wrap ((IntKind.i64.wrap ((IntKind.i64.wrap (Int.fdiv (IntKind.u64.wrap (IntKind.i64.wrap (a + b))) (2 ^ 1))) + m)) - s18.2.1)) cmp hg_cmp hp_cmp _ h191
   obtain ⟨_,q191_0,H⟩ := au H
   have l191_0 := (dH q191_0).1
   have z191_0 : (List.map (al 48 af) t19.1).length = (List.map (al 48 af) x191).length := by simpa using (l191_0).symm
   refine dD (g := 135) rfl rfl rfl Tryz.call135 [] [(0,0)] rfl rfl rfl rfl (gK.of2 (iz.cons (lA.own rfl) (iz.cons (lA.of_eq rfl) (iz.cons (lA.of_eq rfl) (iz.cons (lA.of_eq rfl) (iz.cons (lA.of_eq rfl) iz.nil)))))) (by rw [cX,cl,cZ]; rfl) s191 ?_
   rintro u191 H191h ⟨rfl,rfl⟩
   refine ⟨_,rfl,?_⟩
   refine dB (st' := ⟨_,_,fun _=>none,upd (fun _=>none) 0 (some ⟨g_data,57,(x191.map (al 48 af)),true⟩)⟩) (Gh.le (cA _ _) aI (aP aJ)) ?_
   refine ac ?_
   refine be _ () (aA H) (Gh.le (bs (PLe.of2 (lA.of_eq (congrArg (PV.own 0 g_data) z191_0))) (ap (ap (ap (ap (ap (ap aT))))))) aI (aP aJ))
  refine ao ?_
  refine be _ () (aA H) Gh.d
 refine ab (ab ?_)
 refine gF (γ := Unit) (fun t21 g21=>⟨220,upd (upd (upd (upd (upd (upd (upd (upd (fun _=>.any) 199 (ay t21.2)) 24 (ai (IntKind.i64.wrap ((IntKind.i64.wrap ((IntKind.i64.wrap (Int.fdiv (IntKind.u64.wrap (IntKind.i64.wrap (a + b))) (2 ^ 1))) + m)) - s18.2.1)))) 20 (ai s18.2.1)) 18 (ai (IntKind.i64.wrap (Int.fdiv (IntKind.u64.wrap (IntKind.i64.wrap (a + b))) (2 ^ 1))))) 4 (.fn g_cmp caps_cmp)) 3 (ai b)) 1 (ai a)) 0 (.own 0 g_data (t21.1.map (al 48 af)).length),fun _=>none,upd (fun _=>none) 0 (some ⟨g_data,57,(t21.1.map (al 48 af)),true⟩)⟩) H (fun _ H=>?_) (fun t21 g21 H=>?_)
 ·refine aa (ag 4 tk rfl ?_)
  refine aV rfl rfl rfl H (fun H=>?_) (fun H=>?_)
  ·refine ag 4 tk rfl (ac ?_)
   refine be _ () H Gh.d
  refine ag 4 tk rfl (ac ?_)
  refine be _ () H Gh.d
 refine fS (γ := Unit) (fun t22 g22=>⟨220,upd (upd (upd (upd (upd (fun _=>.any) 24 (ai (IntKind.i64.wrap ((IntKind.i64.wrap ((IntKind.i64.wrap (Int.fdiv (IntKind.u64.wrap (IntKind.i64.wrap (a + b))) (2 ^ 1))) + m)) - s18.2.1)))) 18 (ai (IntKind.i64.wrap (Int.fdiv (IntKind.u64.wrap (IntKind.i64.wrap (a + b))) (2 ^ 1))))) 4 (.fn g_cmp caps_cmp)) 3 (ai b)) 0 (.own 0 g_data (t22.map (al 48 af)).length),fun _=>none,upd (fun _=>none) 0 (some ⟨g_data,57,(t22.map (al 48 af)),true⟩)⟩) H (fun _ H=>?_) (fun t22 g22 H=>?_)
 ·refine aM rfl H (fun H=>?_) (fun H=>?_)
  ·refine aa (ag 5 tk rfl ?_)
   obtain ⟨x205,h205,H⟩ := au H
   have s205 := hrec130 g_data t21.1 a s18.2.1 (IntKind.i64.wrap (Int.fdiv (IntKind.u64.wrap (IntKind.i64.wrap (a + b))) (2 ^ 1))) _ h205
   obtain ⟨_,q205_0,H⟩ := au H
   have l205_0 := (dH q205_0).1
   have z205_0 : (List.map (al 48 af) t21.1).length = (List.map (al 48 af) x205).length := by simpa using (l205_0).symm
   refine dD (g := 130) rfl rfl rfl Tryz.call130 [] [(0,0)] rfl rfl rfl rfl (gK.of2 (iz.cons (lA.own rfl) (iz.cons (lA.of_eq rfl) (iz.cons (lA.of_eq rfl) (iz.cons (lA.of_eq rfl) (iz.cons (lA.of_eq rfl) iz.nil)))))) (by rw [cX,cl,cZ]; rfl) s205 ?_
   rintro u205 H205h ⟨rfl,rfl⟩
   refine ⟨_,rfl,?_⟩
   refine dB (st' := ⟨_,_,fun _=>none,upd (fun _=>none) 0 (some ⟨g_data,57,(x205.map (al 48 af)),true⟩)⟩) (Gh.le (cA _ _) aI (aP aJ)) ?_
   refine ac ?_
   refine be _ () (aA H) (Gh.le (bs (PLe.of2 (lA.of_eq (congrArg (PV.own 0 g_data) z205_0))) (ap (ap (ap (ap aT))))) aI (aP aJ))
  refine ao ?_
  refine be _ () (aA H) Gh.d
 refine ab (aa (ag 4 tk rfl ?_))
 refine aV rfl rfl rfl H (fun H=>?_) (fun H=>?_)
 ·refine ag 4 tk rfl (ac ?_)
  refine aM rfl H (fun H=>?_) (fun H=>?_)
  ·refine aa (ag 5 tk rfl ?_)
   obtain ⟨x219,h219,H⟩ := au H
   have s219 := hrec130 g_data t22 (IntKind.i64.wrap (Int.fdiv (IntKind.u64.wrap (IntKind.i64.wrap (a + b))) (2 ^ 1))) (IntKind.i64.wrap ((IntKind.i64.wrap ((IntKind.i64.wrap (Int.fdiv (IntKind.u64.wrap (IntKind.i64.wrap (a + b))) (2 ^ 1))) + m)) - s18.2.1)) b _ h219
   obtain ⟨_,q219_0,H⟩ := au H
   have l219_0 := (dH q219_0).1
   have z219_0 : (List.map (al 48 af) t22).length = (List.map (al 48 af) x219).length := by simpa using (l219_0).symm
   refine dD (g := 130) rfl rfl rfl Tryz.call130 [] [(0,0)] rfl rfl rfl rfl (gK.of2 (iz.cons (lA.own rfl) (iz.cons (lA.of_eq rfl) (iz.cons (lA.of_eq rfl) (iz.cons (lA.of_eq rfl) (iz.cons (lA.of_eq rfl) iz.nil)))))) (by rw [cX,cl,cZ]; rfl) s219 ?_
   rintro u219 H219h ⟨rfl,rfl⟩
   refine ⟨_,rfl,?_⟩
   refine dB (st' := ⟨_,_,fun _=>none,upd (fun _=>none) 0 (some ⟨g_data,57,(x219.map (al 48 af)),true⟩)⟩) (Gh.le (cA _ _) aI (aP aJ)) ?_
   refine ac ?_
   obtain rfl := aA H
   refine eh (st' := ⟨220,fun _=>.any,fun _=>none,upd (fun _=>none) 0 (some ⟨g_data,57,(x219.map (al 48 af)),true⟩)⟩) (Gh.le aT aI (aP aJ)) ?_
   refine mh rfl (PLe.q rfl) ⟨rfl,rfl⟩
  refine ao ?_
  obtain rfl := aA H
  refine eh (st' := ⟨220,fun _=>.any,fun _=>none,upd (fun _=>none) 0 (some ⟨g_data,57,(t22.map (al 48 af)),true⟩)⟩) (Gh.le aT aI (aP aJ)) ?_
  refine mh rfl (PLe.q rfl) ⟨rfl,rfl⟩
 refine ag 4 tk rfl (ac (bB rfl (ao ?_)))
 obtain rfl := aA H
 refine eh (st' := ⟨220,fun _=>.any,fun _=>none,upd (fun _=>none) 0 (some ⟨g_data,57,(t22.map (al 48 af)),true⟩)⟩) (Gh.le aT aI (aP aJ)) ?_
 refine mh rfl (PLe.q rfl) ⟨rfl,rfl⟩
def bu : Nat → Rz → Int → Int → Int → (Rq → Rq → Option (Int)) → Option (Rz)
 | 0,_,_,_,_,_=>none
 | n + 1,v0,v1,v2,v3,v4=>cx (fun b0 b1 b2 b3=>bu n b0 b1 b2 b3 v4) v0 v1 v2 v3 v4
theorem lm {g_cmp : FuncId} {caps_cmp : List PV} (cmp : Rq → Rq → Option (Int)) (hg_cmp : ∀ (vs : Array Value) (w : World),(callFunc g_cmp vs).run Tryz.prog w = .ok (.enter g_cmp vs) w) (hp_cmp : ∀ a0 a1 r,cmp a0 a1 = some r → aL Tryz.prog g_cmp ((.list 48 (a0.map af)) :: (.list 48 (a1.map af)) :: caps_cmp) (ai r)) (n : Nat) : (∀ g0 a0 a1 a2 a3 r,bu n a0 a1 a2 a3 cmp = some r → PH Tryz.prog 130 [(.own 0 g0 (a0.map (al 48 af)).length),(ai a1),(ai a2),(ai a3),(.fn g_cmp caps_cmp)] ⟨fun _=>none,upd (fun _=>none) 0 (some ⟨g0,57,(a0.map (al 48 af)),true⟩)⟩ (fun u H=>u = (.tup []) ∧ H = ⟨fun _=>none,upd (fun _=>none) 0 (some ⟨g0,57,(r.map (al 48 af)),true⟩)⟩)) := by
 induction n with
 | zero=>exact (by intros; rename_i h; exact absurd (show (none : Option _) = some _ from h) (by simp))
 | succ n ih =>
  exact (fun g0 v0 v1 v2 v3 r h=>ll g0 (fun b0 b1 b2 b3=>bu n b0 b1 b2 b3 cmp) ih v0 v1 v2 v3 cmp hg_cmp hp_cmp r h)
def eV (data : Rz) (a : Int) (m : Int) (b : Int) (cmp : Rq → Rq → Option (Int)) : Option (Rz) := ik fun n=>bu n data a m b cmp
theorem ji (g_data : OwnRef) {g_cmp : FuncId} {caps_cmp : List PV} (data : Rz) (a : Int) (m : Int) (b : Int) (cmp : Rq → Rq → Option (Int)) (hg_cmp : ∀ (vs : Array Value) (w : World),(callFunc g_cmp vs).run Tryz.prog w = .ok (.enter g_cmp vs) w) (hp_cmp : ∀ a0 a1 r,cmp a0 a1 = some r → aL Tryz.prog g_cmp ((.list 48 (a0.map af)) :: (.list 48 (a1.map af)) :: caps_cmp) (ai r)) (r : Rz) (H : eV data a m b cmp = some r) :
  PH Tryz.prog 130 [(.own 0 g_data (data.map (al 48 af)).length),(ai a),(ai m),(ai b),(.fn g_cmp caps_cmp)] ⟨fun _=>none,upd (fun _=>none) 0 (some ⟨g_data,57,(data.map (al 48 af)),true⟩)⟩ (fun u H=>u = (.tup []) ∧ H = ⟨fun _=>none,upd (fun _=>none) 0 (some ⟨g_data,57,(r.map (al 48 af)),true⟩)⟩) := by
 obtain ⟨n,h⟩ := gX H
 exact (lm cmp hg_cmp hp_cmp n) g_data data a m b r h
def fq (t : LTable) : Option (Int) :=
 ae (fK t.name) fun x11 =>
 cond (!x11)
  (some 23)
  (cond ((t.columns.length : Int) == (0 : Int))
   (some 3)
   (cond (decide ((t.columns.length : Int) > (6 : Int)))
    (some 2)
    (ae (aD (σ := Unit) (ρ := (Int)) (fun (j1 : Nat) (x1 : LCol) (_ : Unit) =>
     ae (fK x1.name) fun x31 =>
     cond (!x31)
      (some (.ret 23))
      (ae (gd t x1.name) fun x37 =>
      cond (decide (x37.1 < (j1 : Int)))
       (some (.ret 5))
       (cond (decide (x1.kind < (1 : Int)))
        (some (.ret 7))
        (cond (decide (x1.kind > (3 : Int)))
         (some (.ret 7))
         (some (.next ())))))) 0 t.columns ()) fun fl1=>fl1.thenR fun (_ : Unit) =>
    ae (aD (σ := Unit) (ρ := (Int)) (fun (j2 : Nat) (x2 : Int) (_ : Unit) =>
     cond (decide (x2 < (0 : Int)))
      (some (.ret 9))
      (cond (decide (x2 ≥ (t.columns.length : Int)))
       (some (.ret 9))
       (ae (aK t.columns x2) fun (x73 : LCol) =>
       cond x73.nullable
        (some (.ret 9))
        (cond (decide ((j2 : Int) > (0 : Int)))
         (ae (aK t.primaryKey (IntKind.i64.wrap ((j2 : Int) - (1 : Int)))) fun (x86 : Int) =>
         cond (decide (x2 ≤ x86))
          (some (.ret 9))
          (some (.next ())))
         (some (.next ())))))) 0 t.primaryKey ()) fun fl2=>fl2.thenR fun (_ : Unit) =>
    cond ((t.primaryKey.length : Int) == (0 : Int))
     (some 9)
     (some 0))))
theorem oS (t : LTable) (r : Int) (H : fq t = some r) :
  aL Tryz.prog 42 [(.agg (cP t))] (ai r) := by
 unfold fq at H
 refine PH.ax Tryz.func42 Tryz.ntmps42 ?_
 refine ab (aa (aH ?_))
 refine ah tk rfl (ac (ab (ab (aa (ag 2 tk rfl ?_)))))
 obtain ⟨x11,h11,H⟩ := au H
 have s11 := mV t.name _ h11
 refine aj Tryz.call70 (gK.r) s11 ?_
 refine ah tk rfl (ac ?_)
 refine aM rfl H (fun H=>?_) (fun H=>?_)
 ·refine am 1 tk rfl ?_
  exact aS tk H rfl
 refine ao (ab (ab (aa (ag 2 tk rfl (az tk (zl _) ?_)))))
 refine ah tk rfl (ac ?_)
 refine aM rfl H (fun H=>?_) (fun H=>?_)
 ·refine am 1 tk rfl ?_
  exact aS tk H rfl
 refine ao (ab (ab (aa (ag 2 tk rfl (az tk (zl _) ?_)))))
 refine ah tk rfl (ac ?_)
 refine aM rfl H (fun H=>?_) (fun H=>?_)
 ·refine am 1 tk rfl ?_
  exact aS tk H rfl
 refine ao (ab (ab (aa (ag 2 tk rfl (az tk (zl _) ?_)))))
 refine ah tk rfl (ac ?_)
 refine ez tk 24 23 22 (fun s1 g1=>upd (fun _=>.any) 1 (.ptr (cP t))) nB nO () H (fun fl1 Hp1 j1 s1 g1 hz1 hl1 x1 fb1 hx1 H hg1=>?_) (fun s1 g1 H=>?_)
 ·refine ab (av (ab (aa (ah tk rfl ?_))))
  refine aU tk (zn j1) (bl (fun _=>rfl) hx1) ?_
  refine ah tk rfl ?_
  refine aN tk fun b4=>?_
  refine ah tk rfl (ak tk ?_)
  refine ac (ab (ab (aa (ah tk rfl (aq tk ?_)))))
  obtain ⟨x31,h31,H⟩ := au H
  have s31 := mV x1.name _ h31
  refine aj Tryz.call70 (gK.r) s31 ?_
  refine ah tk rfl (ac ?_)
  refine aM rfl H (fun H=>?_) (fun H=>?_)
  ·refine am 1 tk rfl ?_
   obtain rfl := aA H
   have e1 : fl1 = .ret _ := hg1
   subst e1
   obtain rfl := aY Hp1
   refine bj tk rfl (ps := [(ai 23)]) ⟨_,_,rfl,rfl,rfl⟩ (PLe.q rfl)
  refine ao (ab (ab (aa (ag 2 tk rfl (aq tk ?_)))))
  obtain ⟨x37,h37,H⟩ := au H
  have s37 := qw t x1.name _ h37
  refine aj Tryz.call71 (gK.r) s37 ?_
  refine ag 5 tk rfl (ac (am 3 tk rfl ?_))
  refine aM rfl H (fun H=>?_) (fun H=>?_)
  ·refine am 1 tk rfl ?_
   obtain rfl := aA H
   have e1 : fl1 = .ret _ := hg1
   subst e1
   obtain rfl := aY Hp1
   refine bj tk rfl (ps := [(ai 5)]) ⟨_,_,rfl,rfl,rfl⟩ (PLe.q rfl)
  refine ao (ab (aa (ah tk rfl (aq tk ?_))))
  refine ag 2 tk rfl ?_
  refine aV rfl rfl rfl H (fun H=>?_) (fun H=>?_)
  ·refine ag 4 tk rfl (ac (bU rfl (am 1 tk rfl ?_)))
   obtain rfl := aA H
   have e1 : fl1 = .ret _ := hg1
   subst e1
   obtain rfl := aY Hp1
   refine bj tk rfl (ps := [(ai 7)]) ⟨_,_,rfl,rfl,rfl⟩ (PLe.q rfl)
  refine ah tk rfl (aq tk ?_)
  refine ag 2 tk rfl (ac ?_)
  refine aM rfl H (fun H=>?_) (fun H=>?_)
  ·refine am 1 tk rfl ?_
   obtain rfl := aA H
   have e1 : fl1 = .ret _ := hg1
   subst e1
   obtain rfl := aY Hp1
   refine bj tk rfl (ps := [(ai 7)]) ⟨_,_,rfl,rfl,rfl⟩ (PLe.q rfl)
  refine ao (aG (bc 2 tk rfl ?_))
  exact bg () H hl1 hg1
 refine ab (ab (aa (ag 2 tk rfl (az tk (zl _) ?_))))
 refine ah tk rfl (ac ?_)
 refine ez tk 55 54 53 (fun s2 g2=>upd (fun _=>.any) 1 (.ptr (cP t))) nB nO () H (fun fl2 Hp2 j2 s2 g2 hz2 hl2 x2 fb2 hx2 H hg2=>?_) (fun s2 g2 H=>?_)
 ·refine ab (av (ab (aa (ah tk rfl ?_))))
  refine aU tk (zn j2) (bl (fun _=>rfl) hx2) ?_
  refine ag 3 tk rfl (ac (ab (aa (ag 3 tk rfl ?_))))
  refine aV rfl rfl rfl H (fun H=>?_) (fun H=>?_)
  ·refine ag 28 tk rfl (ac (bU rfl (am 1 tk rfl ?_)))
   obtain rfl := aA H
   have e2 : fl2 = .ret _ := hg2
   subst e2
   obtain rfl := aY Hp2
   refine bj tk rfl (ps := [(ai 9)]) ⟨_,_,rfl,rfl,rfl⟩ (PLe.q rfl)
  refine ag 3 tk rfl (az tk (zl _) ?_)
  refine ag 3 tk rfl ?_
  refine aV rfl rfl rfl H (fun H=>?_) (fun H=>?_)
  ·refine ag 21 tk rfl (ac (bU rfl (am 1 tk rfl ?_)))
   obtain rfl := aA H
   have e2 : fl2 = .ret _ := hg2
   subst e2
   obtain rfl := aY Hp2
   refine bj tk rfl (ps := [(ai 9)]) ⟨_,_,rfl,rfl,rfl⟩ (PLe.q rfl)
  refine ag 3 tk rfl ?_
  obtain ⟨x73,k73,H⟩ := bq H
  refine aU tk k73.1 (aO (fun _=>rfl) k73.2) ?_
  refine ag 4 tk rfl ?_
  refine aV rfl rfl rfl H (fun H=>?_) (fun H=>?_)
  ·refine ag 13 tk rfl (ac (bU rfl (am 1 tk rfl ?_)))
   obtain rfl := aA H
   have e2 : fl2 = .ret _ := hg2
   subst e2
   obtain rfl := aY Hp2
   refine bj tk rfl (ps := [(ai 9)]) ⟨_,_,rfl,rfl,rfl⟩ (PLe.q rfl)
  refine ag 3 tk rfl ?_
  refine aV rfl rfl rfl H (fun H=>?_) (fun H=>?_)
  ·refine ag 5 tk rfl ?_
   obtain ⟨x86,k86,H⟩ := bq H
   refine aU tk k86.1 (aO (fun _=>rfl) k86.2) ?_
   refine ag 4 tk rfl (ac ?_)
   refine aM rfl H (fun H=>?_) (fun H=>?_)
   ·refine am 1 tk rfl ?_
    obtain rfl := aA H
    have e2 : fl2 = .ret _ := hg2
    subst e2
    obtain rfl := aY Hp2
    refine bj tk rfl (ps := [(ai 9)]) ⟨_,_,rfl,rfl,rfl⟩ (PLe.q rfl)
   refine ao (aG (bc 2 tk rfl ?_))
   exact bg () H hl2 hg2
  refine ag 10 tk rfl (ac (bB rfl (ao (aG (bc 2 tk rfl ?_)))))
  exact bg () H hl2 hg2
 refine ab (ab (aa (ag 2 tk rfl (az tk (zl _) ?_))))
 refine ah tk rfl (ac ?_)
 refine aM rfl H (fun H=>?_) (fun H=>?_)
 ·refine am 1 tk rfl ?_
  exact aS tk H rfl
 refine ao (am 1 tk rfl ?_)
 exact aS tk H rfl
def eJ (sA : LSchema) (fk : LForeignKey) : Option (Int) :=
 ae (fF sA fk.table) fun x17 =>
 ae (fF sA fk.refTable) fun x24 =>
 br (
  cond (!x17.2)
   (true)
   ((!x24.2))) fun (t1 : Bool) =>
 cond t1
  (some 4)
  (ae (aK sA.tables x17.1) fun (x36 : LTable) =>
  ae (aK sA.tables x24.1) fun (x41 : LTable) =>
  cond ((fk.columns.length : Int) != (x41.primaryKey.length : Int))
   (some 3)
   (ae (aD (σ := Unit) (ρ := (Int)) (fun (j2 : Nat) (x2 : Int) (_ : Unit) =>
    br (
     cond (decide (x2 < (0 : Int)))
      (true)
      ((decide (x2 ≥ (x36.columns.length : Int))))) fun (t4 : Bool) =>
    cond t4
     (some (.ret 3))
     (ae (aK x36.columns x2) fun (x70 : LCol) =>
     ae (aK x41.primaryKey (j2 : Int)) fun (x78 : Int) =>
     ae (aK x41.columns x78) fun (x80 : LCol) =>
     cond (x70.kind != x80.kind)
      (some (.ret 7))
      (some (.next ())))) 0 fk.columns ()) fun fl2=>fl2.thenR fun (_ : Unit) =>
   some 0))
theorem mX (sA : LSchema) (fk : LForeignKey) (r : Int) (H : eJ sA fk = some r) :
  aL Tryz.prog 43 [(.agg (bG sA)),(.agg (jz fk))] (ai r) := by
 unfold eJ at H
 refine PH.ax Tryz.func43 Tryz.ntmps43 ?_
 refine ab (aa (aH ?_))
 refine aH ?_
 refine ah tk rfl (ac (ab (aa (ag 3 tk rfl ?_))))
 obtain ⟨x17,h17,H⟩ := au H
 have s17 := kJ sA fk.table _ h17
 refine aj Tryz.call72 (gK.r) s17 ?_
 refine ag 5 tk rfl (ac (ab (aa (ag 3 tk rfl ?_))))
 obtain ⟨x24,h24,H⟩ := au H
 have s24 := kJ sA fk.refTable _ h24
 refine aj Tryz.call72 (gK.r) s24 ?_
 refine ag 5 tk rfl (ac (ab (ab ?_)))
 refine gF (γ := Unit) (fun t1 g1=>⟨85,upd (upd (upd (upd (upd (fun _=>.any) 32 (ay t1)) 7 (ai x24.1)) 5 (ai x17.1)) 3 (.ptr (jz fk))) 2 (.ptr (bG sA)),fun _=>none,fun _=>none⟩) H (fun _ H=>?_) (fun t1 g1 H=>?_)
 ·refine aa (ag 3 tk rfl ?_)
  refine aV rfl rfl rfl H (fun H=>?_) (fun H=>?_)
  ·refine ag 3 tk rfl (ac ?_)
   refine be _ () H Gh.d
  refine ag 3 tk rfl (ac ?_)
  refine be _ () H Gh.d
 refine aM rfl H (fun H=>?_) (fun H=>?_)
 ·refine am 1 tk rfl ?_
  exact aS tk H rfl
 refine ao (ab (bo tk mok ⟨false,false,[]⟩ [0,1,2,3,4,5,6,7,8,9,10,11,12,13] rfl (by decide +kernel) rfl (aW 3 rfl ?_)))
 obtain ⟨x36,k36,H⟩ := bq H
 refine bK k36.1 (aO (fun _=>rfl) k36.2) ?_
 refine aW 4 rfl ?_
 obtain ⟨x41,k41,H⟩ := bq H
 refine bK k41.1 (aO (fun _=>rfl) k41.2) ?_
 refine bt rfl ?_
 refine qd rfl rfl rfl rfl rfl rfl rfl rfl fun b9=>?_
 refine qd rfl rfl rfl rfl rfl rfl rfl rfl fun b10=>?_
 refine bR ?_
 refine bR ?_
 refine bn (ab (ab (aa (ag 2 tk rfl (az tk (zl _) ?_)))))
 refine ah tk rfl (aq tk ?_)
 refine az tk (zl _) ?_
 refine ah tk rfl (ac ?_)
 refine aM rfl H (fun H=>?_) (fun H=>?_)
 ·refine am 1 tk rfl ?_
  exact aS tk H rfl
 refine ao (ab (ab (aa (ag 2 tk rfl (az tk (zl _) ?_)))))
 refine ah tk rfl (ac ?_)
 obtain ⟨fl2,H2,Hp2⟩ := au H
 refine gG tk 51 rfl rfl (fun hz2 _=>?_)
 rw [zl] at hz2
 refine dM (τ := Unit) (γ := Unit) (fun s2 g2=>⟨85,fun _=>.any,fun _=>none,fun _=>none⟩) (fun t=>fl2 = .next t) ?_ (fun s2 g2 hn2=>?_)
 ·refine av ?_
  refine eF (fun j2 s2 g2=>⟨85,upd (upd (upd (upd (upd (fun _=>.any) 53 (ai (j2 : Int))) 52 (ai (fk.columns.length : Int))) 51 (.list 3 (fk.columns.map bS))) 10 (.box 10 b10 0)) 9 (.box 9 b9 0),upd (upd (fun _=>none) 10 (some ⟨b10,(cP x41)⟩)) 9 (some ⟨b9,(cP x36)⟩),fun _=>none⟩) () H2 Gh.d (fun j2 s2 g2 hj2 hr2=>?_)
  refine am 1 tk rfl (ab ?_)
  refine bh rfl (fun h=>?_) (fun h=>?_)
  ·have hl2 := pl h
   obtain ⟨x2,fb2,hx2,H,hg2⟩ := rMc hl2 hr2
   refine ao (ab (av (ab (aa (ah tk rfl ?_)))))
   refine aU tk (zn j2) (bl (fun _=>rfl) hx2) ?_
   refine ag 3 tk rfl (ac (ab (ab ?_)))
   refine gF (γ := Unit) (fun t4 g4=>⟨85,upd (upd (upd (upd (upd (upd (upd (upd (fun _=>.any) 66 (ay t4)) 53 (ai (j2 : Int))) 52 (ai (fk.columns.length : Int))) 51 (.list 3 (fk.columns.map bS))) 12 (ai x2)) 11 (ai (j2 : Int))) 10 (.box 10 b10 0)) 9 (.box 9 b9 0),upd (upd (fun _=>none) 10 (some ⟨b10,(cP x41)⟩)) 9 (some ⟨b9,(cP x36)⟩),fun _=>none⟩) H (fun _ H=>?_) (fun t4 g4 H=>?_)
   ·refine aa (ag 3 tk rfl ?_)
    refine aV rfl rfl rfl H (fun H=>?_) (fun H=>?_)
    ·refine ag 6 tk rfl (ac ?_)
     refine be _ () H Gh.d
    refine ag 2 tk rfl (aq tk ?_)
    refine az tk (zl _) ?_
    refine ag 2 tk rfl (ac ?_)
    refine be _ () H Gh.d
   refine aM rfl H (fun H=>?_) (fun H=>?_)
   ·refine am 1 tk rfl ?_
    obtain rfl := aA H
    have e2 : fl2 = .ret _ := hg2
    subst e2
    obtain rfl := aY Hp2
    refine bj tk rfl (ps := [(ai 3)]) ⟨_,_,rfl,rfl,rfl⟩ (PLe.q rfl)
   refine ao (ab (bo tk mok ⟨true,false,[72,79,82]⟩ [0,1,2,3,4,5,6,7,8,9,10,11,12,13,14,15,16] rfl (by decide +kernel) rfl (bt rfl (bi ?_))))
   refine bt rfl ?_
   obtain ⟨x70,k70,H⟩ := bq H
   refine bK k70.1 (aO (fun _=>rfl) k70.2) ?_
   refine aW 3 rfl (bi ?_)
   refine bt rfl (bi ?_)
   refine bt rfl ?_
   obtain ⟨x78,k78,H⟩ := bq H
   refine bK k78.1 (aO (fun _=>rfl) k78.2) ?_
   refine bt rfl ?_
   obtain ⟨x80,k80,H⟩ := bq H
   refine bK k80.1 (aO (fun _=>rfl) k80.2) ?_
   refine aW 3 rfl (bn ?_)
   refine aM rfl H (fun H=>?_) (fun H=>?_)
   ·refine am 1 tk rfl ?_
    obtain rfl := aA H
    have e2 : fl2 = .ret _ := hg2
    subst e2
    obtain rfl := aY Hp2
    refine bj tk rfl (ps := [(ai 7)]) ⟨_,_,rfl,rfl,rfl⟩ (PLe.q rfl)
   refine ao (aG (bc 2 tk rfl ?_))
   exact bg () H hl2 hg2
  have hn2 := rMd (pp h) hr2
  refine bm rfl ?_
  refine be s2 g2 hn2 Gh.d
 have H := lU hn2 Hp2
 refine am 1 tk rfl ?_
 exact aS tk H rfl
def gc (other : LForeignKey) (c0 : LForeignKey) : Option (Bool) :=
 ae (gH other c0) fun x6 =>
 some x6
theorem qv (other : LForeignKey) (c0 : LForeignKey) (r : Bool) (H : gc other c0 = some r) :
  aL Tryz.prog 45 [(.agg (jz other)),(.ptr (jz c0))] (ay r) := by
 unfold gc at H
 refine PH.ax Tryz.func45 Tryz.ntmps45 ?_
 refine ab (aa (aH ?_))
 refine ah tk rfl (ac (ab (aa (ag 2 tk rfl ?_))))
 obtain ⟨x6,h6,H⟩ := au H
 have s6 := nA other c0 _ h6
 refine aj Tryz.call46 (gK.r) s6 ?_
 refine ah tk rfl (ac ?_)
 exact aS tk H rfl
def hC (l : List LExpr) : Option ((List LExpr)) :=
 ae (aD (σ := List LExpr) (ρ := Empty) (fun (_ : Nat) (x1 : LExpr) (s1 : List LExpr) =>
  ae (iw x1) fun x14 =>
  ae (cy 88 s1 ([x14] : List LExpr)) fun (x16 : List LExpr) =>
  some (.next x16)) 0 l []) fun fl1=>fl1.thenP fun (s1 : List LExpr) =>
 some s1
theorem nj (l : List LExpr) (r : (List LExpr)) (H : hC l = some r) :
  aL Tryz.prog 17 [(.list 50 (l.map aC))] (.list 50 (r.map aC)) := by
 unfold hC at H
 refine PH.ax Tryz.func17 Tryz.ntmps17 ?_
 refine am 1 tk rfl (am 1 tk rfl (ab (ab (aa (ah tk rfl (az tk (zl _) ?_))))))
 refine ah tk rfl (ac (ic tk 3 16 (e := 50) rfl rfl ?_))
 refine fg (γ := OwnRef) tk 8 7 6 (fun s1 g1=>upd (fun _=>.any) 3 (.own 16 g1 (s1.map aC).length)) nB (fun s1 g1=>upd (fun _=>none) 16 (some ⟨g1,50,(s1.map aC),true⟩)) (⟨none,0⟩) H (fun fl1 Hp1 j1 s1 g1 hz1 hl1 x1 fb1 hx1 H hg1=>?_) (fun s1 g1 H=>?_)
 ·refine ab (av (ab (aa (aU tk (zn j1) (bl bP hx1) ?_))))
  refine ah tk rfl ?_
  refine aN tk fun b5=>?_
  refine ak tk ?_
  refine ac (aa (ah tk rfl (aq tk ?_)))
  obtain ⟨x14,h14,H⟩ := au H
  have s14 := mj x1 _ h14
  refine aj Tryz.call16 (gK.r) s14 ?_
  refine cv tk (rows' := List.map aC ([x14] : List LExpr)) (gP.trans (b := List.map cz [x14]) (gP.refl _) (gP.of_eq (kw bP [x14]))) ?_
  obtain ⟨x16,h16,H⟩ := au H
  have k16 := bX h16
  refine cr (rows2' := List.map aC ([x14] : List LExpr)) (rows' := List.map aC x16) tk rfl rfl rfl rfl rfl rfl rfl rfl rfl rfl rfl rfl rfl (gP.refl _) (cK k16.1) (cI k16.2.1) (cF k16.2.2) fun g16=>?_
  refine ah tk rfl (ac (aG (bc 2 tk rfl ?_)))
  exact bg g16 H hl1 hg1
 refine am 2 tk rfl (dZ 2 rfl rfl rfl ?_)
 exact aS tk H rfl
def eG (x : LAggregateCall) (y : LAggregateCall) : Option (Bool) :=
 cond (x.name == y.name)
  (cond (x.function == y.function)
   (ae (ba x.args y.args (fun a0 a1=>gm a0 a1)) fun x22 =>
   some x22)
   (some false))
  (some false)
theorem oF (x : LAggregateCall) (y : LAggregateCall) (r : Bool) (H : eG x y = some r) :
  aL Tryz.prog 18 [(.agg (bT x)),(.agg (bT y))] (ay r) := by
 unfold eG at H
 refine PH.ax Tryz.func18 Tryz.ntmps18 ?_
 refine ab (aa (aH ?_))
 refine aH ?_
 refine ah tk rfl (ac (ab (aa (ag 6 tk rfl ?_))))
 refine aV rfl rfl rfl H (fun H=>?_) (fun H=>?_)
 ·refine ag 7 tk rfl ?_
  refine aV rfl rfl rfl H (fun H=>?_) (fun H=>?_)
  ·refine ag 4 tk rfl ?_
   obtain ⟨x22,h22,H⟩ := au H
   have s22 := cQ x.args y.args (fun a0 a1=>gm a0 a1) Tryz.call20 (fun a0 a1 r h=>ox a0 a1 r h) _ h22
   refine aj Tryz.call19 (gK.r) s22 ?_
   refine ag 2 tk rfl (ac ?_)
   exact aS tk H rfl
  refine ag 7 tk rfl (ac ?_)
  exact aS tk H rfl
 refine ag 14 tk rfl (ac ?_)
 exact aS tk H rfl
def dG (a : Rz) (b : Rz) : Option (Bool) :=
 ae (cq a b (fun a0 a1=>go a0 a1)) fun x7 =>
 some x7
theorem iR (a : Rz) (b : Rz) (r : Bool) (H : dG a b = some r) :
  aL Tryz.prog 9 [(.list 57 (a.map (al 48 af))),(.list 57 (b.map (al 48 af)))] (ay r) := by
 unfold dG at H
 refine PH.ax Tryz.func9 Tryz.ntmps9 ?_
 refine am 1 tk rfl (ab (aa (ag 2 tk rfl ?_)))
 obtain ⟨x7,h7,H⟩ := au H
 have s7 := iJ a b (fun a0 a1=>go a0 a1) Tryz.call26 (fun a0 a1 r h=>oR a0 a1 r h) _ h7
 refine aj Tryz.call25 (gK.r) s7 ?_
 refine ah tk rfl (ac ?_)
 exact aS tk H rfl
def km (q : LQuery) : Option (Bool) :=
 ae (
  cond (decide (q.kind < (1 : Int)))
   (some true)
   (cond (decide (q.kind > (10 : Int)))
    (some true)
    (ae (aK ([(-1),0,1,1,2,2,2,2,1,1,1] : List Int) q.kind) fun (x21 : Int) =>
    some ((q.inputs.length : Int) != x21)))) fun (t1 : Bool) =>
 cond t1
  (some false)
  (ae (
   ae (dn ([1] : List Int) q) fun x29 =>
   cond (!x29)
    (some (!(q.table == ([] : List UInt8))))
    (some false)) fun (t2 : Bool) =>
  ae (
   cond t2
    (some t2)
    (ae (
     ae (dn ([3,8] : List Int) q) fun x38 =>
     cond (!x38)
      (some (decide ((q.names.length : Int) > (0 : Int))))
      (some false)) fun (t7 : Bool) =>
    cond t7
     (some t7)
     (ae (
      ae (dn ([8] : List Int) q) fun x48 =>
      cond (!x48)
       (some (decide ((q.aggregates.length : Int) > (0 : Int))))
       (some false)) fun (t8 : Bool) =>
     cond t8
      (some t8)
      (ae (
       ae (dn ([9] : List Int) q) fun x58 =>
       cond (!x58)
        (some (decide ((q.descending.length : Int) > (0 : Int))))
        (some false)) fun (t9 : Bool) =>
      cond t9
       (some t9)
       (ae (dn ([10] : List Int) q) fun x68 =>
       cond (!x68)
        (cond (q.count != (0 : Int))
         (some true)
         (some (q.offset != (0 : Int))))
        (some false)))))) fun (t6 : Bool) =>
  cond t6
   (some false)
   (ae (dn ([2,4,5] : List Int) q) fun x83 =>
   cond x83
    (some ((q.exprs.length : Int) == (1 : Int)))
    (ae (dn ([3,8] : List Int) q) fun x91 =>
    cond x91
     (cond ((q.exprs.length : Int) == (q.names.length : Int))
      (some (decide ((IntKind.i64.wrap ((q.exprs.length : Int) + (q.aggregates.length : Int))) > (0 : Int))))
      (some false))
     (ae (dn ([9] : List Int) q) fun x112 =>
     cond x112
      (cond ((q.exprs.length : Int) == (q.descending.length : Int))
       (some (decide ((q.exprs.length : Int) > (0 : Int))))
       (some false))
      (ae (dn ([10] : List Int) q) fun x129 =>
      cond x129
       (cond ((q.exprs.length : Int) == (0 : Int))
        (cond (decide (q.count ≥ (0 : Int)))
         (some (decide (q.offset ≥ (0 : Int))))
         (some false))
        (some false))
       (some ((q.exprs.length : Int) == (0 : Int))))))))
theorem W_query_shape (q : LQuery) (r : Bool) (H : km q = some r) :
  aL Tryz.prog 79 [(.agg (aw q))] (ay r) := by
 unfold km at H
 refine PH.ax Tryz.func79 Tryz.ntmps79 ?_
 refine ab (aa (aH ?_))
 refine ah tk rfl (ac (ab (aa (sR (e := 3) (rows := [[(ai (-1))],[(ai 0)],[(ai 1)],[(ai 1)],[(ai 2)],[(ai 2)],[(ai 2)],[(ai 2)],[(ai 1)],[(ai 1)],[(ai 1)]]) tk rfl rfl rfl rfl (rows' := List.map bS ([(-1),0,1,1,2,2,2,2,1,1,1] : List Int)) (by kernel_rfl) (gP.refl _) rfl rfl (ah tk rfl (ac (ab (ab ?_))))))))
 refine fS (γ := Unit) (fun t1 g1=>⟨148,upd (upd (fun _=>.any) 24 (ay t1)) 1 (.ptr (aw q)),fun _=>none,fun _=>none⟩) H (fun _ H=>?_) (fun t1 g1 H=>?_)
 ·refine bo tk mok ⟨false,false,[]⟩ [0,1,2,3,4,5,6,7,8,9,10,11,12,13,14,15,16,17,18] rfl (by decide +kernel) rfl (aW 4 rfl ?_)
  refine mR H (fun H=>?_) (fun H=>?_)
  ·refine aW 15 rfl (bn ?_)
   refine be _ () (aA H) Gh.d
  refine aW 5 rfl ?_
  refine mR H (fun H=>?_) (fun H=>?_)
  ·refine aW 10 rfl (bn ?_)
   refine be _ () (aA H) Gh.d
  refine aW 2 rfl (sD rfl rfl rfl rfl rfl rfl (zl _) rfl (aW 3 rfl ?_))
  obtain ⟨x21,k21,H⟩ := bq H
  refine bK k21.1 (aO (fun _=>rfl) k21.2) ?_
  refine aW 3 rfl (bn ?_)
  refine be _ () (aA H) Gh.d
 refine aM rfl H (fun H=>?_) (fun H=>?_)
 ·refine am 1 tk rfl ?_
  exact aS tk H rfl
 refine ao (am 2 tk rfl (ab (av (ab (ab ?_)))))
 refine fS (γ := Unit) (fun t2 g2=>⟨148,upd (upd (upd (fun _=>.any) 26 (ay t2)) 4 (.fn 100 [(.ptr (aw q))])) 1 (.ptr (aw q)),fun _=>none,fun _=>none⟩) H (fun _ H=>?_) (fun t2 g2 H=>?_)
 ·refine aa (ah tk rfl (cv tk (rows' := List.map bS ([1] : List Int)) (gP.refl _) ?_))
  obtain ⟨x29,h29,H⟩ := au H
  have s29 := fy ([1] : List Int) q _ h29
  refine aj Tryz.call100 (gK.r) s29 ?_
  refine ag 2 tk rfl ?_
  refine aV rfl rfl rfl H (fun H=>?_) (fun H=>?_)
  ·refine ag 5 tk rfl (ac ?_)
   refine be _ () (aA H) Gh.d
  refine ag 5 tk rfl (ac ?_)
  refine be _ () (aA H) Gh.d
 refine fS (γ := Unit) (fun t6 g6=>⟨148,upd (upd (upd (fun _=>.any) 26 (ay t6)) 4 (.fn 100 [(.ptr (aw q))])) 1 (.ptr (aw q)),fun _=>none,fun _=>none⟩) H (fun _ H=>?_) (fun t6 g6 H=>?_)
 ·refine aM rfl H (fun H=>?_) (fun H=>?_)
  ·refine ao ?_
   refine be _ () (aA H) Gh.d
  refine ab ?_
  refine fS (γ := Unit) (fun t7 g7=>⟨148,upd (upd (upd (fun _=>.any) 26 (ay t7)) 4 (.fn 100 [(.ptr (aw q))])) 1 (.ptr (aw q)),fun _=>none,fun _=>none⟩) H (fun _ H=>?_) (fun t7 g7 H=>?_)
  ·refine aa (ah tk rfl (cv tk (rows' := List.map bS ([3,8] : List Int)) (gP.refl _) ?_))
   obtain ⟨x38,h38,H⟩ := au H
   have s38 := fy ([3,8] : List Int) q _ h38
   refine aj Tryz.call100 (gK.r) s38 ?_
   refine ag 2 tk rfl ?_
   refine aV rfl rfl rfl H (fun H=>?_) (fun H=>?_)
   ·refine ag 2 tk rfl (az tk (zl _) ?_)
    refine ag 3 tk rfl (ac ?_)
    refine be _ () (aA H) Gh.d
   refine ag 6 tk rfl (ac ?_)
   refine be _ () (aA H) Gh.d
  refine aM rfl H (fun H=>?_) (fun H=>?_)
  ·refine ao ?_
   refine be _ () (aA H) Gh.d
  refine ab ?_
  refine fS (γ := Unit) (fun t8 g8=>⟨148,upd (upd (upd (fun _=>.any) 26 (ay t8)) 4 (.fn 100 [(.ptr (aw q))])) 1 (.ptr (aw q)),fun _=>none,fun _=>none⟩) H (fun _ H=>?_) (fun t8 g8 H=>?_)
  ·refine aa (ah tk rfl (cv tk (rows' := List.map bS ([8] : List Int)) (gP.refl _) ?_))
   obtain ⟨x48,h48,H⟩ := au H
   have s48 := fy ([8] : List Int) q _ h48
   refine aj Tryz.call100 (gK.r) s48 ?_
   refine ag 2 tk rfl ?_
   refine aV rfl rfl rfl H (fun H=>?_) (fun H=>?_)
   ·refine ag 2 tk rfl (az tk (zl _) ?_)
    refine ag 3 tk rfl (ac ?_)
    refine be _ () (aA H) Gh.d
   refine ag 6 tk rfl (ac ?_)
   refine be _ () (aA H) Gh.d
  refine aM rfl H (fun H=>?_) (fun H=>?_)
  ·refine ao ?_
   refine be _ () (aA H) Gh.d
  refine ab ?_
  refine fS (γ := Unit) (fun t9 g9=>⟨148,upd (upd (upd (fun _=>.any) 26 (ay t9)) 4 (.fn 100 [(.ptr (aw q))])) 1 (.ptr (aw q)),fun _=>none,fun _=>none⟩) H (fun _ H=>?_) (fun t9 g9 H=>?_)
  ·refine aa (ah tk rfl (cv tk (rows' := List.map bS ([9] : List Int)) (gP.refl _) ?_))
   obtain ⟨x58,h58,H⟩ := au H
   have s58 := fy ([9] : List Int) q _ h58
   refine aj Tryz.call100 (gK.r) s58 ?_
   refine ag 2 tk rfl ?_
   refine aV rfl rfl rfl H (fun H=>?_) (fun H=>?_)
   ·refine ag 2 tk rfl (az tk (zl _) ?_)
    refine ag 3 tk rfl (ac ?_)
    refine be _ () (aA H) Gh.d
   refine ag 6 tk rfl (ac ?_)
   refine be _ () (aA H) Gh.d
  refine aM rfl H (fun H=>?_) (fun H=>?_)
  ·refine ao ?_
   refine be _ () (aA H) Gh.d
  refine aa (ah tk rfl (cv tk (rows' := List.map bS ([10] : List Int)) (gP.refl _) ?_))
  obtain ⟨x68,h68,H⟩ := au H
  have s68 := fy ([10] : List Int) q _ h68
  refine aj Tryz.call100 (gK.r) s68 ?_
  refine ag 2 tk rfl ?_
  refine aV rfl rfl rfl H (fun H=>?_) (fun H=>?_)
  ·refine ag 4 tk rfl ?_
   refine aV rfl rfl rfl H (fun H=>?_) (fun H=>?_)
   ·refine ag 6 tk rfl (ac ?_)
    refine be _ () (aA H) Gh.d
   refine ag 6 tk rfl (ac ?_)
   refine be _ () (aA H) Gh.d
  refine ag 10 tk rfl (ac ?_)
  refine be _ () (aA H) Gh.d
 refine aM rfl H (fun H=>?_) (fun H=>?_)
 ·refine am 1 tk rfl ?_
  exact aS tk H rfl
 refine ab (aa (ah tk rfl (cv tk (rows' := List.map bS ([2,4,5] : List Int)) (gP.refl _) ?_)))
 obtain ⟨x83,h83,H⟩ := au H
 have s83 := fy ([2,4,5] : List Int) q _ h83
 refine aj Tryz.call100 (gK.r) s83 ?_
 refine ah tk rfl (ac ?_)
 refine aM rfl H (fun H=>?_) (fun H=>?_)
 ·refine ab (aa (ag 2 tk rfl (az tk (zl _) ?_)))
  refine ag 2 tk rfl (ac ?_)
  exact aS tk H rfl
 refine ab (aa (ah tk rfl (cv tk (rows' := List.map bS ([3,8] : List Int)) (gP.refl _) ?_)))
 obtain ⟨x91,h91,H⟩ := au H
 have s91 := fy ([3,8] : List Int) q _ h91
 refine aj Tryz.call100 (gK.r) s91 ?_
 refine ah tk rfl (ac ?_)
 refine aM rfl H (fun H=>?_) (fun H=>?_)
 ·refine ab (aa (ag 2 tk rfl (az tk (zl _) ?_)))
  refine ag 2 tk rfl (az tk (zl _) ?_)
  refine ag 2 tk rfl ?_
  refine aV rfl rfl rfl H (fun H=>?_) (fun H=>?_)
  ·refine ag 2 tk rfl (az tk (zl _) ?_)
   refine ag 2 tk rfl (az tk (zl _) ?_)
   refine ag 4 tk rfl (ac ?_)
   exact aS tk H rfl
  refine ag 10 tk rfl (ac ?_)
  exact aS tk H rfl
 refine ab (aa (ah tk rfl (cv tk (rows' := List.map bS ([9] : List Int)) (gP.refl _) ?_)))
 obtain ⟨x112,h112,H⟩ := au H
 have s112 := fy ([9] : List Int) q _ h112
 refine aj Tryz.call100 (gK.r) s112 ?_
 refine ah tk rfl (ac ?_)
 refine aM rfl H (fun H=>?_) (fun H=>?_)
 ·refine ab (aa (ag 2 tk rfl (az tk (zl _) ?_)))
  refine ag 2 tk rfl (az tk (zl _) ?_)
  refine ag 2 tk rfl ?_
  refine aV rfl rfl rfl H (fun H=>?_) (fun H=>?_)
  ·refine ag 2 tk rfl (az tk (zl _) ?_)
   refine ag 3 tk rfl (ac ?_)
   exact aS tk H rfl
  refine ag 6 tk rfl (ac ?_)
  exact aS tk H rfl
 refine ab (aa (ah tk rfl (cv tk (rows' := List.map bS ([10] : List Int)) (gP.refl _) ?_)))
 obtain ⟨x129,h129,H⟩ := au H
 have s129 := fy ([10] : List Int) q _ h129
 refine aj Tryz.call100 (gK.r) s129 ?_
 refine ah tk rfl (ac ?_)
 refine aM rfl H (fun H=>?_) (fun H=>?_)
 ·refine ab (aa (ag 2 tk rfl (az tk (zl _) ?_)))
  refine ag 2 tk rfl ?_
  refine aV rfl rfl rfl H (fun H=>?_) (fun H=>?_)
  ·refine ag 5 tk rfl ?_
   refine aV rfl rfl rfl H (fun H=>?_) (fun H=>?_)
   ·refine ag 5 tk rfl (ac ?_)
    exact aS tk H rfl
   refine ag 5 tk rfl (ac ?_)
   exact aS tk H rfl
  refine ag 10 tk rfl (ac ?_)
  exact aS tk H rfl
 refine ao (aG (ab (aa (ag 2 tk rfl (az tk (zl _) ?_)))))
 refine ag 2 tk rfl (ac ?_)
 exact aS tk H rfl
def dF (c : LChecker) (l : List LCol) (e : LExpr) : Int :=
 br (cW l c.vars e) fun x15 =>
 cond (x15.2.2 == (0 : Int))
  (cond (x15.1 != (2 : Int))
   (cond (x15.1 != (0 : Int))
    (7)
    (x15.2.2))
   (x15.2.2))
  (x15.2.2)
theorem kA (c : LChecker) (l : List LCol) (e : LExpr) :
  aL Tryz.prog 103 [(.agg (dW c)),(.list 53 (l.map aR)),(.agg (cz e))] (ai (dF c l e)) := by
 obtain ⟨r,H⟩ : ∃ r,dF c l e = r := ⟨_,rfl⟩
 rw [H]
 unfold dF at H
 refine PH.ax Tryz.func103 Tryz.ntmps103 ?_
 refine ab (aa (aH ?_))
 refine aH ?_
 refine ah tk rfl (ac (ab (aa (ag 4 tk rfl ?_))))
 obtain ⟨x15,h15,H⟩ := cL H
 have s15 := mO l c.vars e
 rw [h15] at s15
 refine aj Tryz.call106 (gK.r) s15 ?_
 refine ag 7 tk rfl (ac (ab (ab (aa (ag 3 tk rfl ?_)))))
 refine aV rfl rfl rfl H (fun H=>?_) (fun H=>?_)
 ·refine ag 4 tk rfl ?_
  refine aV rfl rfl rfl H (fun H=>?_) (fun H=>?_)
  ·refine ag 3 tk rfl (ac ?_)
   refine aM rfl H (fun H=>?_) (fun H=>?_)
   ·refine am 1 tk rfl ?_
    exact et tk H rfl
   refine ao (am 2 tk rfl ?_)
   exact et tk H rfl
  refine ag 3 tk rfl (ac (bB rfl (ao (am 2 tk rfl ?_))))
  exact et tk H rfl
 refine ag 7 tk rfl (ac (bB rfl (ao (am 2 tk rfl ?_))))
 exact et tk H rfl
def gi (c : LChecker) (inA : List LCol) (a : LAggregateCall) : Option (Int × Int) :=
 ae (
  br (dp a.name) fun x13 =>
  cond (!x13)
   (some true)
   (ae (dI ([[99,111,117,110,116],[115,117,109],[109,105,110],[109,97,120]] : List (List UInt8)) a.function) fun x19 =>
   cond (!x19)
    (some true)
    (cond (decide ((a.args.length : Int) > (1 : Int)))
     (some true)
     (cond (decide ((a.args.length : Int) < (1 : Int)))
      (some (!(a.function == ([99,111,117,110,116] : List UInt8))))
      (some false))))) fun (t1 : Bool) =>
 cond t1
  (some (0,3))
  (cond ((a.args.length : Int) == (0 : Int))
   (some (1,0))
   (ae (aK a.args 0) fun (x49 : LExpr) =>
   br (cW inA c.vars x49) fun x51 =>
   cond (x51.2.2 != (0 : Int))
    (some (0,x51.2.2))
    (br (
     cond (x51.1 == (0 : Int))
      (true)
      (cond (a.function == ([115,117,109] : List UInt8))
       ((x51.1 != (1 : Int)))
       (false))) fun (t2 : Bool) =>
    cond t2
     (some (0,7))
     (cond (a.function == ([99,111,117,110,116] : List UInt8))
      (some (1,0))
      (some (x51.1,0))))))
theorem qu (c : LChecker) (inA : List LCol) (a : LAggregateCall) (r : Int × Int) (H : gi c inA a = some r) :
  aL Tryz.prog 121 [(.agg (dW c)),(.list 53 (inA.map aR)),(.agg (bT a))] (.tup [(ai r.1),(ai r.2)]) := by
 unfold gi at H
 refine PH.ax Tryz.func121 Tryz.ntmps121 ?_
 refine ab (aa (aH ?_))
 refine aH ?_
 refine ag 2 tk rfl (ac (ab (ab ?_)))
 refine fS (γ := Unit) (fun t1 g1=>⟨76,upd (upd (upd (upd (fun _=>.any) 38 (ay t1)) 5 (.ptr (bT a))) 3 (.ptr (dW c))) 1 (.list 53 (inA.map aR)),fun _=>none,fun _=>none⟩) H (fun _ H=>?_) (fun t1 g1 H=>?_)
 ·refine aa (ag 2 tk rfl ?_)
  obtain ⟨x13,h13,H⟩ := cL H
  have s13 := mm a.name
  rw [h13] at s13
  refine aj Tryz.call120 (gK.r) s13 ?_
  refine ag 2 tk rfl ?_
  refine aV rfl rfl rfl H (fun H=>?_) (fun H=>?_)
  ·refine ag 23 tk rfl (ac ?_)
   refine be _ () (aA H) Gh.d
  refine cv tk (rows' := List.map cj ([[99,111,117,110,116],[115,117,109],[109,105,110],[109,97,120]] : List (List UInt8))) (gP.refl _) ?_
  refine ag 2 tk rfl ?_
  obtain ⟨x19,h19,H⟩ := au H
  have s19 := lH ([[99,111,117,110,116],[115,117,109],[109,105,110],[109,97,120]] : List (List UInt8)) a.function _ h19
  refine aj Tryz.call132 (gK.r) s19 ?_
  refine ag 3 tk rfl ?_
  refine aV rfl rfl rfl H (fun H=>?_) (fun H=>?_)
  ·refine ag 16 tk rfl (ac ?_)
   refine be _ () (aA H) Gh.d
  refine ag 2 tk rfl (az tk (zl _) ?_)
  refine ag 3 tk rfl ?_
  refine aV rfl rfl rfl H (fun H=>?_) (fun H=>?_)
  ·refine ag 10 tk rfl (ac ?_)
   refine be _ () (aA H) Gh.d
  refine ag 2 tk rfl (az tk (zl _) ?_)
  refine ag 2 tk rfl ?_
  refine aV rfl rfl rfl H (fun H=>?_) (fun H=>?_)
  ·refine ag 5 tk rfl (ac ?_)
   refine be _ () (aA H) Gh.d
  refine ag 5 tk rfl (ac ?_)
  refine be _ () (aA H) Gh.d
 refine aM rfl H (fun H=>?_) (fun H=>?_)
 ·refine am 2 tk rfl ?_
  exact aS tk H rfl
 refine ao (ab (ab (aa (ag 2 tk rfl (az tk (zl _) ?_)))))
 refine ah tk rfl (ac ?_)
 refine aM rfl H (fun H=>?_) (fun H=>?_)
 ·refine am 2 tk rfl ?_
  exact aS tk H rfl
 refine ao (ab (bo tk mok ⟨false,false,[]⟩ [0,1,2,3,4,5,6,7,8,9,10,11,12,13,14] rfl (by decide +kernel) rfl (aW 5 rfl ?_)))
 obtain ⟨x49,k49,H⟩ := bq H
 refine bK k49.1 (aO bP k49.2) ?_
 refine bt rfl ?_
 obtain ⟨x51,h51,H⟩ := cL H
 have s51 := mO inA c.vars x49
 rw [h51] at s51
 refine aZ Tryz.call106 (gK.r) s51 ?_
 refine aW 7 rfl (bn (ab (av (am 3 tk rfl ?_))))
 refine aM rfl H (fun H=>?_) (fun H=>?_)
 ·refine am 3 tk rfl ?_
  exact aS tk H rfl
 refine ab ?_
 refine gF (γ := Unit) (fun t2 g2=>⟨76,upd (upd (upd (fun _=>.any) 59 (ay t2)) 8 (ai x51.1)) 5 (.ptr (bT a)),fun _=>none,fun _=>none⟩) H (fun _ H=>?_) (fun t2 g2 H=>?_)
 ·refine aa (ag 3 tk rfl ?_)
  refine aV rfl rfl rfl H (fun H=>?_) (fun H=>?_)
  ·refine ag 9 tk rfl (ac ?_)
   refine be _ () H Gh.d
  refine ag 4 tk rfl ?_
  refine aV rfl rfl rfl H (fun H=>?_) (fun H=>?_)
  ·refine ag 5 tk rfl (ac ?_)
   refine be _ () H Gh.d
  refine ag 5 tk rfl (ac ?_)
  refine be _ () H Gh.d
 refine aM rfl H (fun H=>?_) (fun H=>?_)
 ·refine am 2 tk rfl ?_
  exact aS tk H rfl
 refine am 4 tk rfl ?_
 refine aM rfl H (fun H=>?_) (fun H=>?_)
 ·refine am 2 tk rfl ?_
  exact aS tk H rfl
 refine ao (aG (am 3 tk rfl ?_))
 exact aS tk H rfl
def dO (a : Rq) (b : Rq) : Option (Int) :=
 ae (gj (if (b.length : Int) < (a.length : Int) then (b.length : Int) else (a.length : Int))) fun (n1 : Nat) =>
 ae (aD (σ := Unit) (ρ := (Int)) (fun (j1 : Nat) (_ : Nat) (_ : Unit) =>
  ae (aK a (j1 : Int)) fun (x17 : LVal) =>
  ae (aK b (j1 : Int)) fun (x21 : LVal) =>
  br (jD x17 x21) fun x23 =>
  cond (x23 != (0 : Int))
   (some (.ret x23))
   (some (.next ()))) 0 (List.range n1) ()) fun fl1=>fl1.thenR fun (_ : Unit) =>
 br (fY (a.length : Int) (b.length : Int)) fun x32 =>
 some x32
theorem qp (a : Rq) (b : Rq) (r : Int) (H : dO a b = some r) :
  aL Tryz.prog 33 [(.list 48 (a.map af)),(.list 48 (b.map af))] (ai r) := by
 unfold dO at H
 refine PH.ax Tryz.func33 Tryz.ntmps33 ?_
 refine am 1 tk rfl (ab (ab (aa (ah tk rfl (az tk (zl _) ?_)))))
 refine ah tk rfl (az tk (zl _) ?_)
 refine ag 2 tk rfl (ac ?_)
 obtain ⟨n1,hs1,H⟩ := au H
 have hz1 := fm hs1
 obtain ⟨fl1,H1,Hp1⟩ := au H
 refine dM (τ := Unit) (γ := Unit) (fun s1 g1=>⟨33,upd (upd (fun _=>.any) 1 (.list 48 (b.map af))) 0 (.list 48 (a.map af)),fun _=>none,fun _=>none⟩) (fun t=>fl1 = .next t) ?_ (fun s1 g1 hn1=>?_)
 ·refine av ?_
  refine eF (fun j1 s1 g1=>⟨33,upd (upd (upd (upd (fun _=>.any) 12 (ai (j1 : Int))) 11 (ai (if (b.length : Int) < (a.length : Int) then (b.length : Int) else (a.length : Int)))) 1 (.list 48 (b.map af))) 0 (.list 48 (a.map af)),fun _=>none,fun _=>none⟩) () H1 Gh.d (fun j1 s1 g1 hj1 hr1=>?_)
  refine am 1 tk rfl (ab ?_)
  refine bh rfl (fun h=>?_) (fun h=>?_)
  ·have hl1 := kT hz1 h
   obtain ⟨x1,fb1,hx1,H,hg1⟩ := rMc hl1 hr1
   obtain rfl := mA hx1
   refine ao (ab (av (am 2 tk rfl (ab (bo tk mok ⟨false,false,[]⟩ [0,1,2,3,4,5,6,7,8,9] rfl (by decide +kernel) rfl (aW 2 rfl ?_))))))
   obtain ⟨x17,k17,H⟩ := bq H
   refine bK k17.1 (aO (fun _=>rfl) k17.2) ?_
   refine aW 3 rfl ?_
   obtain ⟨x21,k21,H⟩ := bq H
   refine bK k21.1 (aO (fun _=>rfl) k21.2) ?_
   refine bt rfl ?_
   obtain ⟨x23,h23,H⟩ := cL H
   have s23 := oG x17 x21
   rw [h23] at s23
   refine aZ Tryz.call50 (gK.r) s23 ?_
   refine bt rfl (bn (am 2 tk rfl ?_))
   refine aM rfl H (fun H=>?_) (fun H=>?_)
   ·refine am 2 tk rfl ?_
    obtain rfl := aA H
    have e1 : fl1 = .ret _ := hg1
    subst e1
    obtain rfl := aY Hp1
    refine bj tk rfl (ps := [(ai x23)]) ⟨_,_,rfl,rfl,rfl⟩ (PLe.q rfl)
   refine ao (aG (bc 2 tk rfl ?_))
   exact bg () H hl1 hg1 (Gh.le (ap (ap (ap (bs (PLe.q (fR hz1 hl1)) aT)))) aI aJ)
  have hn1 := rMd (kX hz1 h) hr1
  refine bm rfl ?_
  refine be s1 g1 hn1 Gh.d
 have H := lU hn1 Hp1
 refine ab (aa (ah tk rfl (az tk (zl _) ?_)))
 refine ah tk rfl (az tk (zl _) ?_)
 obtain ⟨x32,h32,H⟩ := cL H
 have s32 := ky (a.length : Int) (b.length : Int)
 rw [h32] at s32
 refine aj Tryz.call51 (gK.r) s32 ?_
 refine ah tk rfl (ac ?_)
 exact aS tk H rfl
def dX (data : Rz) (n : Int) (cmp : Rq → Rq → Option (Int)) : Option (Rz) :=
 ae (fJ (σ := Rz × Int × Int) (ρ := Empty) (fun (s1 : Rz × Int × Int) =>
  cond (decide (s1.2.2 ≤ n))
   (ae (cu s1.1 s1.2.1 s1.2.2 cmp) fun x18 =>
   ae (fe (x18.length = s1.1.length) ()) fun (_ : Unit) =>
   some (.next (x18,s1.2.2,(IntKind.i64.wrap (s1.2.2 + (20 : Int))))))
   (some (.brk (s1.1,s1.2.1,s1.2.2)))) (data,0,20)) fun fl1=>fl1.thenP fun (s1 : Rz × Int × Int) =>
 ae (cu s1.1 s1.2.1 n cmp) fun x27 =>
 ae (fe (x27.length = s1.1.length) ()) fun (_ : Unit) =>
 ae (fJ (σ := Rz × Int) (ρ := Empty) (fun (s2 : Rz × Int) =>
  cond (decide (s2.2 < n))
   (ae (fJ (σ := Rz × Int × Int) (ρ := Empty) (fun (s5 : Rz × Int × Int) =>
    cond (decide (s5.2.2 ≤ n))
     (ae (eV s5.1 s5.2.1 (IntKind.i64.wrap (s5.2.1 + s2.2)) s5.2.2 cmp) fun x43 =>
     ae (fe (x43.length = s5.1.length) ()) fun (_ : Unit) =>
     some (.next (x43,s5.2.2,(IntKind.i64.wrap (s5.2.2 + (IntKind.i64.wrap ((2 : Int) * s2.2)))))))
     (some (.brk (s5.1,s5.2.1,s5.2.2)))) (s2.1,0,(IntKind.i64.wrap ((2 : Int) * s2.2)))) fun fl5=>fl5.thenP fun (s5 : Rz × Int × Int) =>
   cond (decide ((IntKind.i64.wrap (s5.2.1 + s2.2)) < n))
    (ae (eV s5.1 s5.2.1 (IntKind.i64.wrap (s5.2.1 + s2.2)) n cmp) fun x60 =>
    ae (fe (x60.length = s5.1.length) ()) fun (_ : Unit) =>
    some (.next (x60,(IntKind.i64.wrap (s2.2 * (2 : Int))))))
    (some (.next (s5.1,(IntKind.i64.wrap (s2.2 * (2 : Int)))))))
   (some (.brk (s2.1,s2.2)))) (x27,20)) fun fl2=>fl2.thenP fun (s2 : Rz × Int) =>
 some s2.1
theorem mq (g_data : OwnRef) {g_cmp : FuncId} {caps_cmp : List PV} (data : Rz) (n : Int) (cmp : Rq → Rq → Option (Int)) (hg_cmp : ∀ (vs : Array Value) (w : World),(callFunc g_cmp vs).run Tryz.prog w = .ok (.enter g_cmp vs) w) (hp_cmp : ∀ a0 a1 r,cmp a0 a1 = some r → aL Tryz.prog g_cmp ((.list 48 (a0.map af)) :: (.list 48 (a1.map af)) :: caps_cmp) (ai r)) (r : Rz) (H : dX data n cmp = some r) :
  PH Tryz.prog 116 [(.own 0 g_data (data.map (al 48 af)).length),(ai n),(.fn g_cmp caps_cmp)] ⟨fun _=>none,upd (fun _=>none) 0 (some ⟨g_data,57,(data.map (al 48 af)),true⟩)⟩ (fun u H=>u = (.tup []) ∧ H = ⟨fun _=>none,upd (fun _=>none) 0 (some ⟨g_data,57,(r.map (al 48 af)),true⟩)⟩) := by
 unfold dX at H
 refine PH.ax Tryz.func116 Tryz.ntmps116 ?_
 refine am 1 tk rfl (am 3 tk rfl (ab ?_))
 obtain ⟨fl1,H1,Hp1⟩ := au H
 refine dM (τ := Rz × Int × Int) (γ := Unit) (fun s1 g1=>⟨63,upd (upd (upd (upd (upd (fun _=>.any) 7 (ai s1.2.1)) 6 (ai 20)) 2 (.fn g_cmp caps_cmp)) 1 (ai n)) 0 (.own 0 g_data (s1.1.map (al 48 af)).length),fun _=>none,upd (fun _=>none) 0 (some ⟨g_data,57,(s1.1.map (al 48 af)),true⟩)⟩) (fun t=>fl1 = .next t) ?_ (fun s1 g1 hn1=>?_)
 ·refine av ?_
  refine gN (fun s1 g1=>⟨63,upd (upd (upd (upd (upd (upd (fun _=>.any) 8 (ai s1.2.2)) 7 (ai s1.2.1)) 6 (ai 20)) 2 (.fn g_cmp caps_cmp)) 1 (ai n)) 0 (.own 0 g_data (s1.1.map (al 48 af)).length),fun _=>none,upd (fun _=>none) 0 (some ⟨g_data,57,(s1.1.map (al 48 af)),true⟩)⟩) () H1 Gh.d (fun m1 s1 g1 hr1=>?_)
  obtain ⟨fb1,H,hg1⟩ := fv hr1
  refine ab (am 3 tk rfl ?_)
  refine aM rfl H (fun H=>?_) (fun H=>?_)
  ·refine ao (av (ab (aa (ag 4 tk rfl ?_))))
   obtain ⟨x18,h18,H⟩ := au H
   have s18 := im g_data s1.1 s1.2.1 s1.2.2 cmp hg_cmp hp_cmp _ h18
   obtain ⟨_,q18_0,H⟩ := au H
   have l18_0 := (dH q18_0).1
   have z18_0 : (List.map (al 48 af) s1.1).length = (List.map (al 48 af) x18).length := by simpa using (l18_0).symm
   refine dD (g := 129) rfl rfl rfl Tryz.call129 [] [(0,0)] rfl rfl rfl rfl (gK.of2 (iz.cons (lA.own rfl) (iz.cons (lA.of_eq rfl) (iz.cons (lA.of_eq rfl) (iz.cons (lA.of_eq rfl) iz.nil))))) (by rw [cX,cl,cZ]; rfl) s18 ?_
   rintro u18 H18h ⟨rfl,rfl⟩
   refine ⟨_,rfl,?_⟩
   refine dB (st' := ⟨_,_,fun _=>none,upd (fun _=>none) 0 (some ⟨g_data,57,(x18.map (al 48 af)),true⟩)⟩) (Gh.le (cA _ _) aI (aP aJ)) ?_
   refine ac (am 2 tk rfl (bc 4 tk rfl (aG ?_)))
   obtain rfl := aA H
   refine eg (x18,s1.2.2,(IntKind.i64.wrap (s1.2.2 + (20 : Int)))) () hg1 (Gh.le (bs (PLe.of2 (lA.of_eq (congrArg (PV.own 0 g_data) z18_0))) (ap (ap (ap (ap (ap aT)))))) aI (aP aJ))
  refine bm rfl ?_
  obtain rfl := aA H
  refine be (s1.1,s1.2.1,s1.2.2) () hg1 Gh.d
 have H := ci hn1 Hp1
 refine ab (aa (ag 4 tk rfl ?_))
 obtain ⟨x27,h27,H⟩ := au H
 have s27 := im g_data s1.1 s1.2.1 n cmp hg_cmp hp_cmp _ h27
 obtain ⟨_,q27_0,H⟩ := au H
 have l27_0 := (dH q27_0).1
 have z27_0 : (List.map (al 48 af) s1.1).length = (List.map (al 48 af) x27).length := by simpa using (l27_0).symm
 refine dD (g := 129) rfl rfl rfl Tryz.call129 [] [(0,0)] rfl rfl rfl rfl (gK.of2 (iz.cons (lA.own rfl) (iz.cons (lA.of_eq rfl) (iz.cons (lA.of_eq rfl) (iz.cons (lA.of_eq rfl) iz.nil))))) (by rw [cX,cl,cZ]; rfl) s27 ?_
 rintro u27 H27h ⟨rfl,rfl⟩
 refine ⟨_,rfl,?_⟩
 refine dB (st' := ⟨_,_,fun _=>none,upd (fun _=>none) 0 (some ⟨g_data,57,(x27.map (al 48 af)),true⟩)⟩) (Gh.le (cA _ _) aI (aP aJ)) ?_
 refine ac ?_
 obtain ⟨fl2,H2,Hp2⟩ := au H
 refine dM (τ := Rz × Int) (γ := Unit) (fun s2 g2=>⟨63,upd (fun _=>.any) 0 (.own 0 g_data (s2.1.map (al 48 af)).length),fun _=>none,upd (fun _=>none) 0 (some ⟨g_data,57,(s2.1.map (al 48 af)),true⟩)⟩) (fun t=>fl2 = .next t) ?_ (fun s2 g2 hn2=>?_)
 ·refine av ?_
  refine gN (fun s2 g2=>⟨63,upd (upd (upd (upd (fun _=>.any) 6 (ai s2.2)) 2 (.fn g_cmp caps_cmp)) 1 (ai n)) 0 (.own 0 g_data (s2.1.map (al 48 af)).length),fun _=>none,upd (fun _=>none) 0 (some ⟨g_data,57,(s2.1.map (al 48 af)),true⟩)⟩) () H2 (Gh.le (bs (PLe.of2 (lA.of_eq (congrArg (PV.own 0 g_data) z27_0))) (ap (ap (ap aT)))) aI (aP aJ)) (fun m2 s2 g2 hr2=>?_)
  obtain ⟨fb2,H,hg2⟩ := fv hr2
  refine ab (am 3 tk rfl ?_)
  refine aM rfl H (fun H=>?_) (fun H=>?_)
  ·refine ao (av (am 4 tk rfl (ab ?_)))
   obtain ⟨fl5,H5,Hp5⟩ := au H
   refine dM (τ := Rz × Int × Int) (γ := Unit) (fun s5 g5=>⟨63,upd (upd (upd (upd (upd (fun _=>.any) 7 (ai s5.2.1)) 6 (ai s2.2)) 2 (.fn g_cmp caps_cmp)) 1 (ai n)) 0 (.own 0 g_data (s5.1.map (al 48 af)).length),fun _=>none,upd (fun _=>none) 0 (some ⟨g_data,57,(s5.1.map (al 48 af)),true⟩)⟩) (fun t=>fl5 = .next t) ?_ (fun s5 g5 hn5=>?_)
   ·refine av ?_
    refine gN (fun s5 g5=>⟨63,upd (upd (upd (upd (upd (upd (fun _=>.any) 8 (ai s5.2.2)) 7 (ai s5.2.1)) 6 (ai s2.2)) 2 (.fn g_cmp caps_cmp)) 1 (ai n)) 0 (.own 0 g_data (s5.1.map (al 48 af)).length),fun _=>none,upd (fun _=>none) 0 (some ⟨g_data,57,(s5.1.map (al 48 af)),true⟩)⟩) () H5 Gh.d (fun m5 s5 g5 hr5=>?_)
    obtain ⟨fb5,H,hg5⟩ := fv hr5
    refine ab (am 3 tk rfl ?_)
    refine aM rfl H (fun H=>?_) (fun H=>?_)
    ·refine ao (av (ab (aa (ag 7 tk rfl ?_))))
     obtain ⟨x43,h43,H⟩ := au H
     have s43 := ji g_data s5.1 s5.2.1 (IntKind.i64.wrap (s5.2.1 + s2.2)) s5.2.2 cmp hg_cmp hp_cmp _ h43
     obtain ⟨_,q43_0,H⟩ := au H
     have l43_0 := (dH q43_0).1
     have z43_0 : (List.map (al 48 af) s5.1).length = (List.map (al 48 af) x43).length := by simpa using (l43_0).symm
     refine dD (g := 130) rfl rfl rfl Tryz.call130 [] [(0,0)] rfl rfl rfl rfl (gK.of2 (iz.cons (lA.own rfl) (iz.cons (lA.of_eq rfl) (iz.cons (lA.of_eq rfl) (iz.cons (lA.of_eq rfl) (iz.cons (lA.of_eq rfl) iz.nil)))))) (by rw [cX,cl,cZ]; rfl) s43 ?_
     rintro u43 H43h ⟨rfl,rfl⟩
     refine ⟨_,rfl,?_⟩
     refine dB (st' := ⟨_,_,fun _=>none,upd (fun _=>none) 0 (some ⟨g_data,57,(x43.map (al 48 af)),true⟩)⟩) (Gh.le (cA _ _) aI (aP aJ)) ?_
     refine ac (am 2 tk rfl (bc 5 tk rfl (aG ?_)))
     obtain rfl := aA H
     refine eg (x43,s5.2.2,(IntKind.i64.wrap (s5.2.2 + (IntKind.i64.wrap ((2 : Int) * s2.2))))) () hg5 (Gh.le (bs (PLe.of2 (lA.of_eq (congrArg (PV.own 0 g_data) z43_0))) (ap (ap (ap (ap (ap aT)))))) aI (aP aJ))
    refine bm rfl ?_
    obtain rfl := aA H
    refine be (s5.1,s5.2.1,s5.2.2) () hg5 Gh.d
   have H := ci hn5 Hp5
   refine ab (am 4 tk rfl (am 3 tk rfl ?_))
   refine aM rfl H (fun H=>?_) (fun H=>?_)
   ·refine aa (ag 5 tk rfl ?_)
    obtain ⟨x60,h60,H⟩ := au H
    have s60 := ji g_data s5.1 s5.2.1 (IntKind.i64.wrap (s5.2.1 + s2.2)) n cmp hg_cmp hp_cmp _ h60
    obtain ⟨_,q60_0,H⟩ := au H
    have l60_0 := (dH q60_0).1
    have z60_0 : (List.map (al 48 af) s5.1).length = (List.map (al 48 af) x60).length := by simpa using (l60_0).symm
    refine dD (g := 130) rfl rfl rfl Tryz.call130 [] [(0,0)] rfl rfl rfl rfl (gK.of2 (iz.cons (lA.own rfl) (iz.cons (lA.of_eq rfl) (iz.cons (lA.of_eq rfl) (iz.cons (lA.of_eq rfl) (iz.cons (lA.of_eq rfl) iz.nil)))))) (by rw [cX,cl,cZ]; rfl) s60 ?_
    rintro u60 H60h ⟨rfl,rfl⟩
    refine ⟨_,rfl,?_⟩
    refine dB (st' := ⟨_,_,fun _=>none,upd (fun _=>none) 0 (some ⟨g_data,57,(x60.map (al 48 af)),true⟩)⟩) (Gh.le (cA _ _) aI (aP aJ)) ?_
    refine ac (bc 3 tk rfl (aG ?_))
    obtain rfl := aA H
    refine eg (x60,(IntKind.i64.wrap (s2.2 * (2 : Int)))) () hg2 (Gh.le (bs (PLe.of2 (lA.of_eq (congrArg (PV.own 0 g_data) z60_0))) (ap (ap (ap aT)))) aI (aP aJ))
   refine ao (bc 3 tk rfl (aG ?_))
   obtain rfl := aA H
   refine eg (s5.1,(IntKind.i64.wrap (s2.2 * (2 : Int)))) () hg2 Gh.d
  refine bm rfl ?_
  obtain rfl := aA H
  refine be (s2.1,s2.2) () hg2 Gh.d
 have H := ci hn2 Hp2
 obtain rfl := aA H
 refine eh (st' := ⟨63,fun _=>.any,fun _=>none,upd (fun _=>none) 0 (some ⟨g_data,57,(s2.1.map (al 48 af)),true⟩)⟩) (Gh.le aT aI (aP aJ)) ?_
 refine mh rfl (PLe.q rfl) ⟨rfl,rfl⟩
def gT (a : LVal) (op : List UInt8) (b : LVal) : Bool × Int :=
 br (
  cond (!(op == ([61] : List UInt8)))
   (cond (!(op == ([60] : List UInt8)))
    ((!(op == ([60,61] : List UInt8))))
    (false))
   (false)) fun (t1 : Bool) =>
 cond t1
  ((false,3))
  (br (
   cond (a.kind == (0 : Int))
    (true)
    ((b.kind == (0 : Int)))) fun (t2 : Bool) =>
  cond t2
   ((true,0))
   (br (jD a b) fun x29 =>
   cond (x29 == (0 : Int))
    (cond (!(op == ([60] : List UInt8)))
     ((true,0))
     (cond (decide (x29 < (0 : Int)))
      (((!(op == ([61] : List UInt8))),0))
      ((false,0))))
    (cond (decide (x29 < (0 : Int)))
     (((!(op == ([61] : List UInt8))),0))
     ((false,0)))))
theorem rj (a : LVal) (op : List UInt8) (b : LVal) :
  aL Tryz.prog 75 [(.agg (af a)),(.str op),(.agg (af b))] (.tup [(ay ((gT a op b).1)),(ai ((gT a op b).2))]) := by
 obtain ⟨r,H⟩ : ∃ r,gT a op b = r := ⟨_,rfl⟩
 rw [H]
 unfold gT at H
 refine PH.ax Tryz.func75 Tryz.ntmps75 ?_
 refine ab (aa (aH ?_))
 refine aH ?_
 refine ag 2 tk rfl (ac (ab (ab ?_)))
 refine gF (γ := Unit) (fun t1 g1=>⟨44,upd (upd (upd (upd (fun _=>.any) 18 (ay t1)) 5 (.ptr (af b))) 3 (.ptr (af a))) 1 (.str op),fun _=>none,fun _=>none⟩) H (fun _ H=>?_) (fun t1 g1 H=>?_)
 ·refine aa (ag 3 tk rfl ?_)
  refine aV rfl rfl rfl H (fun H=>?_) (fun H=>?_)
  ·refine ag 4 tk rfl ?_
   refine aV rfl rfl rfl H (fun H=>?_) (fun H=>?_)
   ·refine ag 3 tk rfl (ac ?_)
    refine be _ () H Gh.d
   refine ag 3 tk rfl (ac ?_)
   refine be _ () H Gh.d
  refine ag 7 tk rfl (ac ?_)
  refine be _ () H Gh.d
 refine aM rfl H (fun H=>?_) (fun H=>?_)
 ·refine am 2 tk rfl ?_
  exact et tk H rfl
 refine ao (ab (ab ?_))
 refine gF (γ := Unit) (fun t2 g2=>⟨44,upd (upd (upd (upd (fun _=>.any) 26 (ay t2)) 5 (.ptr (af b))) 3 (.ptr (af a))) 1 (.str op),fun _=>none,fun _=>none⟩) H (fun _ H=>?_) (fun t2 g2 H=>?_)
 ·refine aa (ag 4 tk rfl ?_)
  refine aV rfl rfl rfl H (fun H=>?_) (fun H=>?_)
  ·refine ag 4 tk rfl (ac ?_)
   refine be _ () H Gh.d
  refine ag 4 tk rfl (ac ?_)
  refine be _ () H Gh.d
 refine aM rfl H (fun H=>?_) (fun H=>?_)
 ·refine am 2 tk rfl ?_
  exact et tk H rfl
 refine ao (ab (aa (ag 2 tk rfl ?_)))
 obtain ⟨x29,h29,H⟩ := cL H
 have s29 := oG a b
 rw [h29] at s29
 refine aj Tryz.call50 (gK.r) s29 ?_
 refine ah tk rfl (ac (ab (aa (ag 3 tk rfl ?_))))
 refine aV rfl rfl rfl H (fun H=>?_) (fun H=>?_)
 ·refine ag 4 tk rfl ?_
  refine aV rfl rfl rfl H (fun H=>?_) (fun H=>?_)
  ·refine ag 9 tk rfl (ac ?_)
   exact et tk H rfl
  refine ag 3 tk rfl ?_
  refine aV rfl rfl rfl H (fun H=>?_) (fun H=>?_)
  ·refine ag 6 tk rfl (ac ?_)
   exact et tk H rfl
  refine ag 6 tk rfl (ac ?_)
  exact et tk H rfl
 refine ag 7 tk rfl ?_
 refine aV rfl rfl rfl H (fun H=>?_) (fun H=>?_)
 ·refine ag 6 tk rfl (ac ?_)
  exact et tk H rfl
 refine ag 6 tk rfl (ac ?_)
 exact et tk H rfl
def lr (rec7 : LQuery → Option (LQuery)) (q : LQuery) : Option (LQuery) :=
 ae (aD (σ := List LExpr) (ρ := Empty) (fun (_ : Nat) (x1 : LExpr) (s1 : List LExpr) =>
  ae (iw x1) fun x32 =>
  ae (cy 88 s1 ([x32] : List LExpr)) fun (x34 : List LExpr) =>
  some (.next x34)) 0 q.exprs []) fun fl1=>fl1.thenP fun (s1 : List LExpr) =>
 ae (aD (σ := List LAggregateCall) (ρ := Empty) (fun (_ : Nat) (x2 : LAggregateCall) (s2 : List LAggregateCall) =>
  ae (hC x2.args) fun x52 =>
  ae (cy 56 s2 ([(LAggregateCall.mk x2.name x2.function x52)] : List LAggregateCall)) fun (x55 : List LAggregateCall) =>
  some (.next x55)) 0 q.aggregates []) fun fl2=>fl2.thenP fun (s2 : List LAggregateCall) =>
 ae (aD (σ := List LQuery) (ρ := Empty) (fun (_ : Nat) (x3 : LQuery) (s3 : List LQuery) =>
  ae (rec7 x3) fun x68 =>
  ae (cy 160 s3 ([x68] : List LQuery)) fun (x70 : List LQuery) =>
  some (.next x70)) 0 q.inputs []) fun fl3=>fl3.thenP fun (s3 : List LQuery) =>
 some (LQuery.mk q.kind q.table q.names s1 s2 q.descending q.count q.offset s3)
theorem WO_query_Clone (rec7 : LQuery → Option (LQuery)) (hrec7 : ∀ a0 r,rec7 a0 = some r → aL Tryz.prog 7 [(.agg (aw a0))] (.agg (aw r))) (q : LQuery) (r : LQuery) (H : lr rec7 q = some r) :
  aL Tryz.prog 7 [(.agg (aw q))] (.agg (aw r)) := by
 unfold lr at H
 refine PH.ax Tryz.func7 Tryz.ntmps7 ?_
 refine ab (aa (aH ?_))
 refine aN tk fun b2=>?_
 refine ac (ab (aa (ah tk rfl ?_)))
 refine aN tk fun b3=>?_
 refine ak tk ?_
 refine ac (ab (bo tk mok ⟨false,false,[]⟩ [0,1,3,4,2,6,5,7,8,9] rfl (by decide +kernel) rfl (aW 4 rfl ?_)))
 have s13 := clone_14 (m := 13) q.names
 refine kK (g := 14) rfl rfl rfl rfl Tryz.call14 (gK.r) rfl rfl s13 (fun g13=>?_)
 refine bt rfl ?_
 have s16 := clone_15 (m := 16) q.descending
 refine kK (g := 15) rfl rfl rfl rfl Tryz.call15 (gK.r) rfl rfl s16 (fun g16=>?_)
 refine bR ?_
 refine bt rfl (bR ?_)
 refine bn (ab (aa (ah tk rfl (ak tk ?_))))
 refine ah tk rfl (ak tk ?_)
 refine ah tk rfl (ak tk ?_)
 refine ac (ab (ab (aa (ag 2 tk rfl (az tk (zl _) ?_)))))
 refine ah tk rfl (ac (iC tk 3 3 34 (e := 50) rfl rfl rfl rfl ?_))
 refine fg (γ := OwnRef) tk 25 24 23 (fun s1 g1=>upd (upd (upd (fun _=>.any) 3 (.box 3 b3 0)) 2 (.box 2 b2 0)) 1 (.ptr (aw q))) (fun s1 g1=>upd (upd (fun _=>none) 3 (some ⟨b3,[(ai q.kind),(.str q.table),(.own 13 g13 (q.names.map cj).length),(.own 34 g1 (s1.map aC).length),(.val (.slice none 0 0)),(.own 16 g16 (q.descending.map cf).length),(ai q.count),(ai q.offset),(.val (.slice none 0 0))]⟩)) 2 (some ⟨b2,[(ai 0),(.str []),(.val (.slice none 0 0)),(.val (.slice none 0 0)),(.val (.slice none 0 0)),(.val (.slice none 0 0)),(ai 0),(ai 0),(.val (.slice none 0 0))]⟩)) (fun s1 g1=>upd (upd (upd (fun _=>none) 34 (some ⟨g1,50,(s1.map aC),true⟩)) 16 (some ⟨g16,4,(q.descending.map cf),true⟩)) 13 (some ⟨g13,9,(q.names.map cj),true⟩)) (⟨none,0⟩) H (fun fl1 Hp1 j1 s1 g1 hz1 hl1 x1 fb1 hx1 H hg1=>?_) (fun s1 g1 H=>?_)
 ·refine ab (av (ab (aa (aU tk (zn j1) (bl bP hx1) ?_))))
  refine ah tk rfl ?_
  refine aN tk fun b5=>?_
  refine ak tk ?_
  refine ac (bo tk mok ⟨true,false,[]⟩ [0,1,2,3,4,5,6,7] rfl (by decide +kernel) rfl (bt rfl (bi ?_)))
  refine bi ?_
  obtain ⟨x32,h32,H⟩ := au H
  have s32 := mj x1 _ h32
  refine aZ Tryz.call16 (gK.r) s32 ?_
  refine bt rfl ?_
  obtain ⟨x34,h34,H⟩ := au H
  have k34 := bX h34
  refine ew (rows2' := List.map aC ([x32] : List LExpr)) (rows' := List.map aC x34) tk rfl rfl rfl rfl rfl rfl rfl rfl rfl rfl rfl rfl rfl rfl (gP.trans (b := List.map cz [x32]) (gP.refl _) (gP.of_eq (kw bP [x32]))) (cK k34.1) (cI k34.2.1) (cF k34.2.2) fun g34=>?_
  refine bt rfl (bR ?_)
  refine bn (aG (bc 2 tk rfl ?_))
  exact bg g34 H hl1 hg1
 refine ab (ab (aa (ag 2 tk rfl (az tk (zl _) ?_))))
 refine ah tk rfl (ac (iC tk 3 4 55 (e := 70) rfl rfl rfl rfl ?_))
 refine fg (γ := OwnRef) tk 40 39 38 (fun s2 g2=>upd (upd (upd (fun _=>.any) 3 (.box 3 b3 0)) 2 (.box 2 b2 0)) 1 (.ptr (aw q))) (fun s2 g2=>upd (upd (fun _=>none) 3 (some ⟨b3,[(ai q.kind),(.str q.table),(.own 13 g13 (q.names.map cj).length),(.own 34 g1 (s1.map aC).length),(.own 55 g2 (s2.map bT).length),(.own 16 g16 (q.descending.map cf).length),(ai q.count),(ai q.offset),(.val (.slice none 0 0))]⟩)) 2 (some ⟨b2,[(ai 0),(.str []),(.val (.slice none 0 0)),(.val (.slice none 0 0)),(.val (.slice none 0 0)),(.val (.slice none 0 0)),(ai 0),(ai 0),(.val (.slice none 0 0))]⟩)) (fun s2 g2=>upd (upd (upd (upd (fun _=>none) 55 (some ⟨g2,70,(s2.map bT),true⟩)) 34 (some ⟨g1,50,(s1.map aC),true⟩)) 16 (some ⟨g16,4,(q.descending.map cf),true⟩)) 13 (some ⟨g13,9,(q.names.map cj),true⟩)) (⟨none,0⟩) H (fun fl2 Hp2 j2 s2 g2 hz2 hl2 x2 fb2 hx2 H hg2=>?_) (fun s2 g2 H=>?_)
 ·refine ab (av (ab (aa ?_)))
  refine aU tk (zn j2) (bl (fun _=>rfl) hx2) ?_
  refine ah tk rfl ?_
  refine aN tk fun b7=>?_
  refine ak tk ?_
  refine ac (bo tk mok ⟨true,false,[]⟩ [0,1,2,3,4,5,6,7,8,9,10,11,12,13] rfl (by decide +kernel) rfl (bt rfl (bi ?_)))
  refine bt rfl (bi ?_)
  refine bt rfl (bi ?_)
  refine bt rfl (bi ?_)
  obtain ⟨x52,h52,H⟩ := au H
  have s52 := nj x2.args _ h52
  refine aZ Tryz.call17 (gK.r) s52 ?_
  refine aW 2 rfl ?_
  obtain ⟨x55,h55,H⟩ := au H
  have k55 := bX h55
  refine ew (rows2' := List.map bT ([(LAggregateCall.mk x2.name x2.function x52)] : List LAggregateCall)) (rows' := List.map bT x55) tk rfl rfl rfl rfl rfl rfl rfl rfl rfl rfl rfl rfl rfl rfl (gP.refl _) (cK k55.1) (cI k55.2.1) (cF k55.2.2) fun g55=>?_
  refine bt rfl (bR ?_)
  refine bn (aG (bc 2 tk rfl ?_))
  exact bg g55 H hl2 hg2
 refine ab (ab (aa (ag 2 tk rfl (az tk (zl _) ?_))))
 refine ah tk rfl (ac (iC tk 3 8 70 (e := 35) rfl rfl rfl rfl ?_))
 refine fg (γ := OwnRef) tk 61 60 59 (fun s3 g3=>upd (upd (fun _=>.any) 3 (.box 3 b3 0)) 2 (.box 2 b2 0)) (fun s3 g3=>upd (upd (fun _=>none) 3 (some ⟨b3,[(ai q.kind),(.str q.table),(.own 13 g13 (q.names.map cj).length),(.own 34 g1 (s1.map aC).length),(.own 55 g2 (s2.map bT).length),(.own 16 g16 (q.descending.map cf).length),(ai q.count),(ai q.offset),(.own 70 g3 (s3.map aE).length)]⟩)) 2 (some ⟨b2,[(ai 0),(.str []),(.val (.slice none 0 0)),(.val (.slice none 0 0)),(.val (.slice none 0 0)),(.val (.slice none 0 0)),(ai 0),(ai 0),(.val (.slice none 0 0))]⟩)) (fun s3 g3=>upd (upd (upd (upd (upd (fun _=>none) 70 (some ⟨g3,35,(s3.map aE),true⟩)) 55 (some ⟨g2,70,(s2.map bT),true⟩)) 34 (some ⟨g1,50,(s1.map aC),true⟩)) 16 (some ⟨g16,4,(q.descending.map cf),true⟩)) 13 (some ⟨g13,9,(q.names.map cj),true⟩)) (⟨none,0⟩) H (fun fl3 Hp3 j3 s3 g3 hz3 hl3 x3 fb3 hx3 H hg3=>?_) (fun s3 g3 H=>?_)
 ·refine ab (av (ab (aa (aU tk (zn j3) (bl bA hx3) ?_))))
  refine ah tk rfl ?_
  refine aN tk fun b9=>?_
  refine ak tk ?_
  refine ac (bo tk mok ⟨true,false,[]⟩ [0,1,2,3,4,5,6,7] rfl (by decide +kernel) rfl (bt rfl (bi ?_)))
  refine bi ?_
  obtain ⟨x68,h68,H⟩ := au H
  have s68 := hrec7 x3 _ h68
  refine aZ Tryz.call7 (gK.r) s68 ?_
  refine bt rfl ?_
  obtain ⟨x70,h70,H⟩ := au H
  have k70 := bX h70
  refine ew (rows2' := List.map aE ([x68] : List LQuery)) (rows' := List.map aE x70) tk rfl rfl rfl rfl rfl rfl rfl rfl rfl rfl rfl rfl rfl rfl (gP.trans (b := List.map aw [x68]) (gP.refl _) (gP.of_eq (kw bA [x68]))) (cK k70.1) (cI k70.2.1) (cF k70.2.2) fun g70=>?_
  refine bt rfl (bR ?_)
  refine bn (aG (bc 2 tk rfl ?_))
  exact bg g70 H hl3 hg3
 refine ab (aa (aq tk ?_))
 refine ak tk ?_
 refine ac (dY 2 2 rfl rfl rfl rfl rfl (dY 2 3 rfl rfl rfl rfl rfl (dY 2 4 rfl rfl rfl rfl rfl (dY 2 5 rfl rfl rfl rfl rfl (dY 2 8 rfl rfl rfl rfl rfl ?_)))))
 exact qa tk H rfl rfl rfl rfl rfl
def iD : Nat → LQuery → Option (LQuery)
 | 0,_=>none
 | n + 1,v0=>lr (fun b0=>iD n b0) v0
theorem WF_query_Clone  (n : Nat) : (∀ a0 r,iD n a0 = some r → aL Tryz.prog 7 [(.agg (aw a0))] (.agg (aw r))) := by
 induction n with
 | zero=>exact (by intros; rename_i h; exact absurd (show (none : Option _) = some _ from h) (by simp))
 | succ n ih =>
  exact (fun v0 r h=>WO_query_Clone (fun b0=>iD n b0) ih v0  r h)
def kr (q : LQuery) : Option (LQuery) := ik fun n=>iD n q
theorem qm (q : LQuery) (r : LQuery) (H : kr q = some r) :
  aL Tryz.prog 7 [(.agg (aw q))] (.agg (aw r)) := by
 obtain ⟨n,h⟩ := gX H
 exact (WF_query_Clone  n) q r h
def jy (q : LQuery) : Option (LQuery) :=
 ae (aD (σ := List LExpr) (ρ := Empty) (fun (_ : Nat) (x1 : LExpr) (s1 : List LExpr) =>
  ae (iw x1) fun x32 =>
  ae (cy 88 s1 ([x32] : List LExpr)) fun (x34 : List LExpr) =>
  some (.next x34)) 0 q.exprs []) fun fl1=>fl1.thenP fun (s1 : List LExpr) =>
 ae (aD (σ := List LAggregateCall) (ρ := Empty) (fun (_ : Nat) (x2 : LAggregateCall) (s2 : List LAggregateCall) =>
  ae (hC x2.args) fun x52 =>
  ae (cy 56 s2 ([(LAggregateCall.mk x2.name x2.function x52)] : List LAggregateCall)) fun (x55 : List LAggregateCall) =>
  some (.next x55)) 0 q.aggregates []) fun fl2=>fl2.thenP fun (s2 : List LAggregateCall) =>
 ae (aD (σ := List LQuery) (ρ := Empty) (fun (_ : Nat) (x3 : LQuery) (s3 : List LQuery) =>
  ae (kr x3) fun x68 =>
  ae (cy 160 s3 ([x68] : List LQuery)) fun (x70 : List LQuery) =>
  some (.next x70)) 0 q.inputs []) fun fl3=>fl3.thenP fun (s3 : List LQuery) =>
 some (LQuery.mk q.kind q.table q.names s1 s2 q.descending q.count q.offset s3)
theorem sd (q : LQuery) (r : LQuery) (H : jy q = some r) :
  ig Tryz.prog 7 [(.agg (aw q))] (OwnG2 4003 4008 50 35 (List.map aC r.exprs) (List.map aE r.inputs) (fun gz1 gz2=>(.agg [(ai r.kind),(.str r.table),(.list 9 (r.names.map cj)),(.own 4003 gz1 (r.exprs.map aC).length),(.list 70 (r.aggregates.map bT)),(.list 4 (r.descending.map cf)),(ai r.count),(ai r.offset),(.own 4008 gz2 (r.inputs.map aE).length)]))) := by
 unfold jy at H
 refine PH.ax Tryz.func7 Tryz.ntmps7 ?_
 refine ab (aa (aH ?_))
 refine aN tk fun b2=>?_
 refine ac (ab (aa (ah tk rfl ?_)))
 refine aN tk fun b3=>?_
 refine ak tk ?_
 refine ac (ab (bo tk mok ⟨false,false,[]⟩ [0,1,3,4,2,6,5,7,8,9] rfl (by decide +kernel) rfl (aW 4 rfl ?_)))
 have s13 := clone_14 (m := 13) q.names
 refine kK (g := 14) rfl rfl rfl rfl Tryz.call14 (gK.r) rfl rfl s13 (fun g13=>?_)
 refine bt rfl ?_
 have s16 := clone_15 (m := 16) q.descending
 refine kK (g := 15) rfl rfl rfl rfl Tryz.call15 (gK.r) rfl rfl s16 (fun g16=>?_)
 refine bR ?_
 refine bt rfl (bR ?_)
 refine bn (ab (aa (ah tk rfl (ak tk ?_))))
 refine ah tk rfl (ak tk ?_)
 refine ah tk rfl (ak tk ?_)
 refine ac (ab (ab (aa (ag 2 tk rfl (az tk (zl _) ?_)))))
 refine ah tk rfl (ac (iC tk 3 3 34 (e := 50) rfl rfl rfl rfl ?_))
 refine fg (γ := OwnRef) tk 25 24 23 (fun s1 g1=>upd (upd (upd (fun _=>.any) 3 (.box 3 b3 0)) 2 (.box 2 b2 0)) 1 (.ptr (aw q))) (fun s1 g1=>upd (upd (fun _=>none) 3 (some ⟨b3,[(ai q.kind),(.str q.table),(.own 13 g13 (q.names.map cj).length),(.own 34 g1 (s1.map aC).length),(.val (.slice none 0 0)),(.own 16 g16 (q.descending.map cf).length),(ai q.count),(ai q.offset),(.val (.slice none 0 0))]⟩)) 2 (some ⟨b2,[(ai 0),(.str []),(.val (.slice none 0 0)),(.val (.slice none 0 0)),(.val (.slice none 0 0)),(.val (.slice none 0 0)),(ai 0),(ai 0),(.val (.slice none 0 0))]⟩)) (fun s1 g1=>upd (upd (upd (fun _=>none) 34 (some ⟨g1,50,(s1.map aC),true⟩)) 16 (some ⟨g16,4,(q.descending.map cf),true⟩)) 13 (some ⟨g13,9,(q.names.map cj),true⟩)) (⟨none,0⟩) H (fun fl1 Hp1 j1 s1 g1 hz1 hl1 x1 fb1 hx1 H hg1=>?_) (fun s1 g1 H=>?_)
 ·refine ab (av (ab (aa (aU tk (zn j1) (bl bP hx1) ?_))))
  refine ah tk rfl ?_
  refine aN tk fun b5=>?_
  refine ak tk ?_
  refine ac (bo tk mok ⟨true,false,[]⟩ [0,1,2,3,4,5,6,7] rfl (by decide +kernel) rfl (bt rfl (bi ?_)))
  refine bi ?_
  obtain ⟨x32,h32,H⟩ := au H
  have s32 := mj x1 _ h32
  refine aZ Tryz.call16 (gK.r) s32 ?_
  refine bt rfl ?_
  obtain ⟨x34,h34,H⟩ := au H
  have k34 := bX h34
  refine ew (rows2' := List.map aC ([x32] : List LExpr)) (rows' := List.map aC x34) tk rfl rfl rfl rfl rfl rfl rfl rfl rfl rfl rfl rfl rfl rfl (gP.trans (b := List.map cz [x32]) (gP.refl _) (gP.of_eq (kw bP [x32]))) (cK k34.1) (cI k34.2.1) (cF k34.2.2) fun g34=>?_
  refine bt rfl (bR ?_)
  refine bn (aG (bc 2 tk rfl ?_))
  exact bg g34 H hl1 hg1
 refine ab (ab (aa (ag 2 tk rfl (az tk (zl _) ?_))))
 refine ah tk rfl (ac (iC tk 3 4 55 (e := 70) rfl rfl rfl rfl ?_))
 refine fg (γ := OwnRef) tk 40 39 38 (fun s2 g2=>upd (upd (upd (fun _=>.any) 3 (.box 3 b3 0)) 2 (.box 2 b2 0)) 1 (.ptr (aw q))) (fun s2 g2=>upd (upd (fun _=>none) 3 (some ⟨b3,[(ai q.kind),(.str q.table),(.own 13 g13 (q.names.map cj).length),(.own 34 g1 (s1.map aC).length),(.own 55 g2 (s2.map bT).length),(.own 16 g16 (q.descending.map cf).length),(ai q.count),(ai q.offset),(.val (.slice none 0 0))]⟩)) 2 (some ⟨b2,[(ai 0),(.str []),(.val (.slice none 0 0)),(.val (.slice none 0 0)),(.val (.slice none 0 0)),(.val (.slice none 0 0)),(ai 0),(ai 0),(.val (.slice none 0 0))]⟩)) (fun s2 g2=>upd (upd (upd (upd (fun _=>none) 55 (some ⟨g2,70,(s2.map bT),true⟩)) 34 (some ⟨g1,50,(s1.map aC),true⟩)) 16 (some ⟨g16,4,(q.descending.map cf),true⟩)) 13 (some ⟨g13,9,(q.names.map cj),true⟩)) (⟨none,0⟩) H (fun fl2 Hp2 j2 s2 g2 hz2 hl2 x2 fb2 hx2 H hg2=>?_) (fun s2 g2 H=>?_)
 ·refine ab (av (ab (aa ?_)))
  refine aU tk (zn j2) (bl (fun _=>rfl) hx2) ?_
  refine ah tk rfl ?_
  refine aN tk fun b7=>?_
  refine ak tk ?_
  refine ac (bo tk mok ⟨true,false,[]⟩ [0,1,2,3,4,5,6,7,8,9,10,11,12,13] rfl (by decide +kernel) rfl (bt rfl (bi ?_)))
  refine bt rfl (bi ?_)
  refine bt rfl (bi ?_)
  refine bt rfl (bi ?_)
  obtain ⟨x52,h52,H⟩ := au H
  have s52 := nj x2.args _ h52
  refine aZ Tryz.call17 (gK.r) s52 ?_
  refine aW 2 rfl ?_
  obtain ⟨x55,h55,H⟩ := au H
  have k55 := bX h55
  refine ew (rows2' := List.map bT ([(LAggregateCall.mk x2.name x2.function x52)] : List LAggregateCall)) (rows' := List.map bT x55) tk rfl rfl rfl rfl rfl rfl rfl rfl rfl rfl rfl rfl rfl rfl (gP.refl _) (cK k55.1) (cI k55.2.1) (cF k55.2.2) fun g55=>?_
  refine bt rfl (bR ?_)
  refine bn (aG (bc 2 tk rfl ?_))
  exact bg g55 H hl2 hg2
 refine ab (ab (aa (ag 2 tk rfl (az tk (zl _) ?_))))
 refine ah tk rfl (ac (iC tk 3 8 70 (e := 35) rfl rfl rfl rfl ?_))
 refine fg (γ := OwnRef) tk 61 60 59 (fun s3 g3=>upd (upd (fun _=>.any) 3 (.box 3 b3 0)) 2 (.box 2 b2 0)) (fun s3 g3=>upd (upd (fun _=>none) 3 (some ⟨b3,[(ai q.kind),(.str q.table),(.own 13 g13 (q.names.map cj).length),(.own 34 g1 (s1.map aC).length),(.own 55 g2 (s2.map bT).length),(.own 16 g16 (q.descending.map cf).length),(ai q.count),(ai q.offset),(.own 70 g3 (s3.map aE).length)]⟩)) 2 (some ⟨b2,[(ai 0),(.str []),(.val (.slice none 0 0)),(.val (.slice none 0 0)),(.val (.slice none 0 0)),(.val (.slice none 0 0)),(ai 0),(ai 0),(.val (.slice none 0 0))]⟩)) (fun s3 g3=>upd (upd (upd (upd (upd (fun _=>none) 70 (some ⟨g3,35,(s3.map aE),true⟩)) 55 (some ⟨g2,70,(s2.map bT),true⟩)) 34 (some ⟨g1,50,(s1.map aC),true⟩)) 16 (some ⟨g16,4,(q.descending.map cf),true⟩)) 13 (some ⟨g13,9,(q.names.map cj),true⟩)) (⟨none,0⟩) H (fun fl3 Hp3 j3 s3 g3 hz3 hl3 x3 fb3 hx3 H hg3=>?_) (fun s3 g3 H=>?_)
 ·refine ab (av (ab (aa (aU tk (zn j3) (bl bA hx3) ?_))))
  refine ah tk rfl ?_
  refine aN tk fun b9=>?_
  refine ak tk ?_
  refine ac (bo tk mok ⟨true,false,[]⟩ [0,1,2,3,4,5,6,7] rfl (by decide +kernel) rfl (bt rfl (bi ?_)))
  refine bi ?_
  obtain ⟨x68,h68,H⟩ := au H
  have s68 := qm x3 _ h68
  refine aZ Tryz.call7 (gK.r) s68 ?_
  refine bt rfl ?_
  obtain ⟨x70,h70,H⟩ := au H
  have k70 := bX h70
  refine ew (rows2' := List.map aE ([x68] : List LQuery)) (rows' := List.map aE x70) tk rfl rfl rfl rfl rfl rfl rfl rfl rfl rfl rfl rfl rfl rfl (gP.trans (b := List.map aw [x68]) (gP.refl _) (gP.of_eq (kw bA [x68]))) (cK k70.1) (cI k70.2.1) (cF k70.2.2) fun g70=>?_
  refine bt rfl (bR ?_)
  refine bn (aG (bc 2 tk rfl ?_))
  exact bg g70 H hl3 hg3
 refine ab (aa (aq tk ?_))
 refine ak tk ?_
 refine ac ?_
 obtain rfl := aA H
 refine dY 2 2 rfl rfl rfl rfl rfl (dY 2 4 rfl rfl rfl rfl rfl (dY 2 5 rfl rfl rfl rfl rfl ?_))
 refine sU tk rfl (ps := [(.agg [(ai q.kind),(.str q.table),(.list 9 (q.names.map cj)),(.own 34 g1 (s1.map aC).length),(.list 70 (s2.map bT)),(.list 4 (q.descending.map cf)),(ai q.count),(ai q.offset),(.own 70 g3 (s3.map aE).length)])]) (by exact ⟨_,_,rfl,⟨_,_,_,_,_,rfl,rfl,rfl,rfl⟩,rfl⟩) (t1 := 34) (t2 := 70) rfl rfl rfl rfl rfl (PLe.of2 (lA.agg (iz.cons (lA.of_eq rfl) (iz.cons (lA.of_eq rfl) (iz.cons (lA.of_eq rfl) (iz.cons (lA.own rfl) (iz.cons (lA.of_eq rfl) (iz.cons (lA.of_eq rfl) (iz.cons (lA.of_eq rfl) (iz.cons (lA.of_eq rfl) (iz.cons (lA.own rfl) iz.nil)))))))))))
def jF (q : LQuery) : Option (LQuery) :=
 ae (gj (q.exprs.length : Int)) fun (n1 : Nat) =>
 ae (aD (σ := List LExpr) (ρ := Empty) (fun (j1 : Nat) (_ : Nat) (s1 : List LExpr) =>
  ae (aK q.exprs (j1 : Int)) fun (x27 : LExpr) =>
  ae (iw x27) fun x32 =>
  ae (cy 88 s1 ([x32] : List LExpr)) fun (x34 : List LExpr) =>
  some (.next x34)) 0 (List.range n1) []) fun fl1=>fl1.thenP fun (s1 : List LExpr) =>
 ae (aD (σ := List LAggregateCall) (ρ := Empty) (fun (_ : Nat) (x2 : LAggregateCall) (s2 : List LAggregateCall) =>
  ae (hC x2.args) fun x52 =>
  ae (cy 56 s2 ([(LAggregateCall.mk x2.name x2.function x52)] : List LAggregateCall)) fun (x55 : List LAggregateCall) =>
  some (.next x55)) 0 q.aggregates []) fun fl2=>fl2.thenP fun (s2 : List LAggregateCall) =>
 ae (gj (q.inputs.length : Int)) fun (n3 : Nat) =>
 ae (aD (σ := List LQuery) (ρ := Empty) (fun (j3 : Nat) (_ : Nat) (s3 : List LQuery) =>
  ae (aK q.inputs (j3 : Int)) fun (x63 : LQuery) =>
  ae (kr x63) fun x68 =>
  ae (cy 160 s3 ([x68] : List LQuery)) fun (x70 : List LQuery) =>
  some (.next x70)) 0 (List.range n3) []) fun fl3=>fl3.thenP fun (s3 : List LQuery) =>
 some (LQuery.mk q.kind q.table q.names s1 s2 q.descending q.count q.offset s3)
theorem sg (g_q_3 : OwnRef) (g_q_8 : OwnRef) (q : LQuery) (r : LQuery) (H : jF q = some r) :
  PH Tryz.prog 7 [(.agg [(ai q.kind),(.str q.table),(.list 9 (q.names.map cj)),(.own 3003 g_q_3 (q.exprs.map aC).length),(.list 70 (q.aggregates.map bT)),(.list 4 (q.descending.map cf)),(ai q.count),(ai q.offset),(.own 3008 g_q_8 (q.inputs.map aE).length)])] ⟨fun _=>none,upd (upd (fun _=>none) 3008 (some ⟨g_q_8,35,(List.map aE q.inputs),true⟩)) 3003 (some ⟨g_q_3,50,(List.map aC q.exprs),true⟩)⟩ (fun u H=>u = (.agg (aw r)) ∧ H = ⟨fun _=>none,upd (upd (fun _=>none) 3008 (some ⟨g_q_8,35,(List.map aE q.inputs),true⟩)) 3003 (some ⟨g_q_3,50,(List.map aC q.exprs),true⟩)⟩) := by
 unfold jF at H
 refine PH.ax Tryz.func7 Tryz.ntmps7 ?_
 refine ab (aa ?_)
 refine sN (d := 1) rfl rfl rfl rfl rfl fun b1=>?_
 refine aN tk fun b2=>?_
 refine ac (ab (aa (aq tk ?_)))
 refine aN tk fun b3=>?_
 refine ak tk ?_
 refine ac (ab (bo tk mok ⟨true,false,[]⟩ [0,1,3,4,2,6,5,7,8,9] rfl (by decide +kernel) rfl (bt rfl (bi ?_))))
 refine bt rfl (bi ?_)
 have s13 := clone_14 (m := 13) q.names
 refine kK (g := 14) rfl rfl rfl rfl Tryz.call14 (gK.r) rfl rfl s13 (fun g13=>?_)
 refine bt rfl ?_
 have s16 := clone_15 (m := 16) q.descending
 refine kK (g := 15) rfl rfl rfl rfl Tryz.call15 (gK.r) rfl rfl s16 (fun g16=>?_)
 refine bR ?_
 refine bt rfl (bR ?_)
 refine bn (ab (aa (ah tk rfl (ak tk ?_))))
 refine ah tk rfl (ak tk ?_)
 refine ah tk rfl (ak tk ?_)
 refine ac (ab (ab (aa (ah tk rfl (aq tk ?_)))))
 refine el tk (zl _) ?_
 refine ah tk rfl (ac ?_)
 obtain ⟨n1,hs1,H⟩ := au H
 have hz1 := fm hs1
 obtain ⟨fl1,H1,Hp1⟩ := au H
 refine dM (τ := List LExpr) (γ := OwnRef) (fun s1 g1=>⟨74,upd (upd (upd (fun _=>.any) 3 (.box 3 b3 0)) 2 (.box 2 b2 0)) 1 (.box 1 b1 0),upd (upd (upd (fun _=>none) 3 (some ⟨b3,[(ai q.kind),(.str q.table),(.own 13 g13 (q.names.map cj).length),(.own 34 g1 (s1.map aC).length),(.val (.slice none 0 0)),(.own 16 g16 (q.descending.map cf).length),(ai q.count),(ai q.offset),(.val (.slice none 0 0))]⟩)) 2 (some ⟨b2,[(ai 0),(.str []),(.val (.slice none 0 0)),(.val (.slice none 0 0)),(.val (.slice none 0 0)),(.val (.slice none 0 0)),(ai 0),(ai 0),(.val (.slice none 0 0))]⟩)) 1 (some ⟨b1,[(ai q.kind),(.str q.table),(.list 9 (q.names.map cj)),(.own 3003 g_q_3 (q.exprs.map aC).length),(.list 70 (q.aggregates.map bT)),(.list 4 (q.descending.map cf)),(ai q.count),(ai q.offset),(.own 3008 g_q_8 (q.inputs.map aE).length)]⟩),upd (upd (upd (upd (upd (fun _=>none) 3008 (some ⟨g_q_8,35,(q.inputs.map aE),true⟩)) 3003 (some ⟨g_q_3,50,(q.exprs.map aC),true⟩)) 34 (some ⟨g1,50,(s1.map aC),true⟩)) 16 (some ⟨g16,4,(q.descending.map cf),true⟩)) 13 (some ⟨g13,9,(q.names.map cj),true⟩)⟩) (fun t=>fl1 = .next t) ?_ (fun s1 g1 hn1=>?_)
 ·refine av (iC tk 3 3 34 (e := 50) rfl rfl rfl rfl ?_)
  refine eF (fun j1 s1 g1=>⟨74,upd (upd (upd (upd (upd (upd (fun _=>.any) 25 (ai (j1 : Int))) 24 (ai (q.exprs.length : Int))) 23 (.own 3003 g_q_3 (q.exprs.map aC).length)) 3 (.box 3 b3 0)) 2 (.box 2 b2 0)) 1 (.box 1 b1 0),upd (upd (upd (fun _=>none) 3 (some ⟨b3,[(ai q.kind),(.str q.table),(.own 13 g13 (q.names.map cj).length),(.own 34 g1 (s1.map aC).length),(.val (.slice none 0 0)),(.own 16 g16 (q.descending.map cf).length),(ai q.count),(ai q.offset),(.val (.slice none 0 0))]⟩)) 2 (some ⟨b2,[(ai 0),(.str []),(.val (.slice none 0 0)),(.val (.slice none 0 0)),(.val (.slice none 0 0)),(.val (.slice none 0 0)),(ai 0),(ai 0),(.val (.slice none 0 0))]⟩)) 1 (some ⟨b1,[(ai q.kind),(.str q.table),(.list 9 (q.names.map cj)),(.own 3003 g_q_3 (q.exprs.map aC).length),(.list 70 (q.aggregates.map bT)),(.list 4 (q.descending.map cf)),(ai q.count),(ai q.offset),(.own 3008 g_q_8 (q.inputs.map aE).length)]⟩),upd (upd (upd (upd (upd (fun _=>none) 3008 (some ⟨g_q_8,35,(q.inputs.map aE),true⟩)) 3003 (some ⟨g_q_3,50,(q.exprs.map aC),true⟩)) 34 (some ⟨g1,50,(s1.map aC),true⟩)) 16 (some ⟨g16,4,(q.descending.map cf),true⟩)) 13 (some ⟨g13,9,(q.names.map cj),true⟩)⟩) (⟨none,0⟩) H1 Gh.d (fun j1 s1 g1 hj1 hr1=>?_)
  refine am 1 tk rfl (ab ?_)
  refine bh rfl (fun h=>?_) (fun h=>?_)
  ·have hl1 := kT hz1 h
   obtain ⟨x1,fb1,hx1,H,hg1⟩ := rMc hl1 hr1
   obtain rfl := mA hx1
   refine ao (ab (av (ab (aa ?_))))
   obtain ⟨x27,k27,H⟩ := bq H
   refine gA (tag := 3003) rfl (fun ho3003=>?_)
   refine fH tk ⟨k27.1,(cE k27.2)⟩ (cN ho3003 k27.2) ?_
   refine lD tk rfl rfl rfl rfl rfl rfl rfl (aO bP k27.2) rfl rfl ?_
   refine aN tk fun b5=>?_
   refine ak tk ?_
   refine ac (bo tk mok ⟨true,false,[]⟩ [0,1,2,3,4,5,6,7] rfl (by decide +kernel) rfl (bt rfl (bi ?_)))
   refine bi ?_
   obtain ⟨x32,h32,H⟩ := au H
   have s32 := mj x27 _ h32
   refine aZ Tryz.call16 (gK.r) s32 ?_
   refine bt rfl ?_
   obtain ⟨x34,h34,H⟩ := au H
   have k34 := bX h34
   refine ew (rows2' := List.map aC ([x32] : List LExpr)) (rows' := List.map aC x34) tk rfl rfl rfl rfl rfl rfl rfl rfl rfl rfl rfl rfl rfl rfl (gP.trans (b := List.map cz [x32]) (gP.refl _) (gP.of_eq (kw bP [x32]))) (cK k34.1) (cI k34.2.1) (cF k34.2.2) fun g34=>?_
   refine bt rfl (bR ?_)
   refine bn (aG (bc 2 tk rfl ?_))
   exact bg g34 H hl1 hg1 (Gh.le (ap (ap (ap (ap (ap (bs (PLe.q (fR hz1 hl1)) aT)))))) (aX rfl (gK.r) (aX rfl (gK.r) (aX rfl (gK.r) aI))) (aP (aP (aP (aP (aP aJ))))))
  have hn1 := rMd (kX hz1 h) hr1
  refine bm rfl ?_
  refine be s1 g1 hn1 Gh.d
 have H := ci hn1 Hp1
 refine ab (ab (aa (ah tk rfl (aq tk ?_))))
 refine az tk (zl _) ?_
 refine ah tk rfl (ac (iC tk 3 4 55 (e := 70) rfl rfl rfl rfl ?_))
 refine fg (γ := OwnRef) tk 40 39 38 (fun s2 g2=>upd (upd (upd (fun _=>.any) 3 (.box 3 b3 0)) 2 (.box 2 b2 0)) 1 (.box 1 b1 0)) (fun s2 g2=>upd (upd (upd (fun _=>none) 3 (some ⟨b3,[(ai q.kind),(.str q.table),(.own 13 g13 (q.names.map cj).length),(.own 34 g1 (s1.map aC).length),(.own 55 g2 (s2.map bT).length),(.own 16 g16 (q.descending.map cf).length),(ai q.count),(ai q.offset),(.val (.slice none 0 0))]⟩)) 2 (some ⟨b2,[(ai 0),(.str []),(.val (.slice none 0 0)),(.val (.slice none 0 0)),(.val (.slice none 0 0)),(.val (.slice none 0 0)),(ai 0),(ai 0),(.val (.slice none 0 0))]⟩)) 1 (some ⟨b1,[(ai q.kind),(.str q.table),(.list 9 (q.names.map cj)),(.own 3003 g_q_3 (q.exprs.map aC).length),(.list 70 (q.aggregates.map bT)),(.list 4 (q.descending.map cf)),(ai q.count),(ai q.offset),(.own 3008 g_q_8 (q.inputs.map aE).length)]⟩)) (fun s2 g2=>upd (upd (upd (upd (upd (upd (fun _=>none) 55 (some ⟨g2,70,(s2.map bT),true⟩)) 34 (some ⟨g1,50,(s1.map aC),true⟩)) 3008 (some ⟨g_q_8,35,(q.inputs.map aE),true⟩)) 3003 (some ⟨g_q_3,50,(q.exprs.map aC),true⟩)) 16 (some ⟨g16,4,(q.descending.map cf),true⟩)) 13 (some ⟨g13,9,(q.names.map cj),true⟩)) (⟨none,0⟩) H (fun fl2 Hp2 j2 s2 g2 hz2 hl2 x2 fb2 hx2 H hg2=>?_) (fun s2 g2 H=>?_)
 ·refine ab (av (ab (aa ?_)))
  refine aU tk (zn j2) (bl (fun _=>rfl) hx2) ?_
  refine ah tk rfl ?_
  refine aN tk fun b7=>?_
  refine ak tk ?_
  refine ac (bo tk mok ⟨true,false,[]⟩ [0,1,2,3,4,5,6,7,8,9,10,11,12,13] rfl (by decide +kernel) rfl (bt rfl (bi ?_)))
  refine bt rfl (bi ?_)
  refine bt rfl (bi ?_)
  refine bt rfl (bi ?_)
  obtain ⟨x52,h52,H⟩ := au H
  have s52 := nj x2.args _ h52
  refine aZ Tryz.call17 (gK.r) s52 ?_
  refine aW 2 rfl ?_
  obtain ⟨x55,h55,H⟩ := au H
  have k55 := bX h55
  refine ew (rows2' := List.map bT ([(LAggregateCall.mk x2.name x2.function x52)] : List LAggregateCall)) (rows' := List.map bT x55) tk rfl rfl rfl rfl rfl rfl rfl rfl rfl rfl rfl rfl rfl rfl (gP.refl _) (cK k55.1) (cI k55.2.1) (cF k55.2.2) fun g55=>?_
  refine bt rfl (bR ?_)
  refine bn (aG (bc 2 tk rfl ?_))
  exact bg g55 H hl2 hg2
 refine ab (ab (aa (ah tk rfl (aq tk ?_))))
 refine el tk (zl _) ?_
 refine ah tk rfl (ac ?_)
 obtain ⟨n3,hs3,H⟩ := au H
 have hz3 := fm hs3
 obtain ⟨fl3,H3,Hp3⟩ := au H
 refine dM (τ := List LQuery) (γ := OwnRef) (fun s3 g3=>⟨74,upd (upd (fun _=>.any) 3 (.box 3 b3 0)) 2 (.box 2 b2 0),upd (upd (fun _=>none) 3 (some ⟨b3,[(ai q.kind),(.str q.table),(.own 13 g13 (q.names.map cj).length),(.own 34 g1 (s1.map aC).length),(.own 55 g2 (s2.map bT).length),(.own 16 g16 (q.descending.map cf).length),(ai q.count),(ai q.offset),(.own 70 g3 (s3.map aE).length)]⟩)) 2 (some ⟨b2,[(ai 0),(.str []),(.val (.slice none 0 0)),(.val (.slice none 0 0)),(.val (.slice none 0 0)),(.val (.slice none 0 0)),(ai 0),(ai 0),(.val (.slice none 0 0))]⟩),upd (upd (upd (upd (upd (upd (upd (fun _=>none) 3008 (some ⟨g_q_8,35,(q.inputs.map aE),true⟩)) 3003 (some ⟨g_q_3,50,(q.exprs.map aC),true⟩)) 70 (some ⟨g3,35,(s3.map aE),true⟩)) 55 (some ⟨g2,70,(s2.map bT),true⟩)) 34 (some ⟨g1,50,(s1.map aC),true⟩)) 16 (some ⟨g16,4,(q.descending.map cf),true⟩)) 13 (some ⟨g13,9,(q.names.map cj),true⟩)⟩) (fun t=>fl3 = .next t) ?_ (fun s3 g3 hn3=>?_)
 ·refine av (iC tk 3 8 70 (e := 35) rfl rfl rfl rfl ?_)
  refine eF (fun j3 s3 g3=>⟨74,upd (upd (upd (upd (upd (fun _=>.any) 61 (ai (j3 : Int))) 60 (ai (q.inputs.length : Int))) 59 (.own 3008 g_q_8 (q.inputs.map aE).length)) 3 (.box 3 b3 0)) 2 (.box 2 b2 0),upd (upd (fun _=>none) 3 (some ⟨b3,[(ai q.kind),(.str q.table),(.own 13 g13 (q.names.map cj).length),(.own 34 g1 (s1.map aC).length),(.own 55 g2 (s2.map bT).length),(.own 16 g16 (q.descending.map cf).length),(ai q.count),(ai q.offset),(.own 70 g3 (s3.map aE).length)]⟩)) 2 (some ⟨b2,[(ai 0),(.str []),(.val (.slice none 0 0)),(.val (.slice none 0 0)),(.val (.slice none 0 0)),(.val (.slice none 0 0)),(ai 0),(ai 0),(.val (.slice none 0 0))]⟩),upd (upd (upd (upd (upd (upd (upd (fun _=>none) 3008 (some ⟨g_q_8,35,(q.inputs.map aE),true⟩)) 3003 (some ⟨g_q_3,50,(q.exprs.map aC),true⟩)) 70 (some ⟨g3,35,(s3.map aE),true⟩)) 55 (some ⟨g2,70,(s2.map bT),true⟩)) 34 (some ⟨g1,50,(s1.map aC),true⟩)) 16 (some ⟨g16,4,(q.descending.map cf),true⟩)) 13 (some ⟨g13,9,(q.names.map cj),true⟩)⟩) (⟨none,0⟩) H3 Gh.d (fun j3 s3 g3 hj3 hr3=>?_)
  refine am 1 tk rfl (ab ?_)
  refine bh rfl (fun h=>?_) (fun h=>?_)
  ·have hl3 := kT hz3 h
   obtain ⟨x3,fb3,hx3,H,hg3⟩ := rMc hl3 hr3
   obtain rfl := mA hx3
   refine ao (ab (av (ab (aa ?_))))
   obtain ⟨x63,k63,H⟩ := bq H
   refine gA (tag := 3008) rfl (fun ho3008=>?_)
   refine fH tk ⟨k63.1,(cE k63.2)⟩ (cN ho3008 k63.2) ?_
   refine lD tk rfl rfl rfl rfl rfl rfl rfl (aO bA k63.2) rfl rfl ?_
   refine aN tk fun b9=>?_
   refine ak tk ?_
   refine ac (bo tk mok ⟨true,false,[]⟩ [0,1,2,3,4,5,6,7] rfl (by decide +kernel) rfl (bt rfl (bi ?_)))
   refine bi ?_
   obtain ⟨x68,h68,H⟩ := au H
   have s68 := qm x63 _ h68
   refine aZ Tryz.call7 (gK.r) s68 ?_
   refine bt rfl ?_
   obtain ⟨x70,h70,H⟩ := au H
   have k70 := bX h70
   refine ew (rows2' := List.map aE ([x68] : List LQuery)) (rows' := List.map aE x70) tk rfl rfl rfl rfl rfl rfl rfl rfl rfl rfl rfl rfl rfl rfl (gP.trans (b := List.map aw [x68]) (gP.refl _) (gP.of_eq (kw bA [x68]))) (cK k70.1) (cI k70.2.1) (cF k70.2.2) fun g70=>?_
   refine bt rfl (bR ?_)
   refine bn (aG (bc 2 tk rfl ?_))
   exact bg g70 H hl3 hg3 (Gh.le (ap (ap (ap (ap (bs (PLe.q (fR hz3 hl3)) aT))))) (aX rfl (gK.r) (aX rfl (gK.r) aI)) (aP (aP (aP (aP (aP (aP (aP aJ))))))))
  have hn3 := rMd (kX hz3 h) hr3
  refine bm rfl ?_
  refine be s3 g3 hn3 Gh.d
 have H := ci hn3 Hp3
 refine ab (aa (aq tk ?_))
 refine ak tk ?_
 refine ac ?_
 obtain rfl := aA H
 refine dY 2 2 rfl rfl rfl rfl rfl (dY 2 3 rfl rfl rfl rfl rfl (dY 2 4 rfl rfl rfl rfl rfl (dY 2 5 rfl rfl rfl rfl rfl (dY 2 8 rfl rfl rfl rfl rfl ?_))))
 refine eh (st' := ⟨74,upd (fun _=>.any) 2 (.box 2 b2 0),upd (fun _=>none) 2 (some ⟨b2,[(ai q.kind),(.str q.table),(.list 9 (q.names.map cj)),(.list 50 (s1.map aC)),(.list 70 (s2.map bT)),(.list 4 (q.descending.map cf)),(ai q.count),(ai q.offset),(.list 35 (s3.map aE))]⟩),upd (upd (fun _=>none) 3008 (some ⟨g_q_8,35,(q.inputs.map aE),true⟩)) 3003 (some ⟨g_q_3,50,(q.exprs.map aC),true⟩)⟩) (Gh.le (ap aT) (aX rfl (gK.r) aI) (aP (aP aJ))) ?_
 refine sE tk rfl (ps := [(.agg [(ai q.kind),(.str q.table),(.list 9 (q.names.map cj)),(.list 50 (s1.map aC)),(.list 70 (s2.map bT)),(.list 4 (q.descending.map cf)),(ai q.count),(ai q.offset),(.list 35 (s3.map aE))])]) ⟨_,_,rfl,⟨_,_,_,_,_,rfl,rfl,rfl,rfl⟩,rfl⟩ (PLe.q rfl) (HSub.updB rfl) ⟨rfl,rfl⟩
def ly (rec8 : LQuery → LQuery → Option (Bool)) (a : LQuery) (b : LQuery) : Option (Bool) :=
 cond (a.kind == b.kind)
  (cond (a.table == b.table)
   (cond (a.count == b.count)
    (cond (a.offset == b.offset)
     (ae (cp a.names b.names) fun x37 =>
     cond x37
      (ae (cV a.descending b.descending) fun x44 =>
      cond x44
       (ae (ba a.exprs b.exprs (fun a0 a1=>gm a0 a1)) fun x51 =>
       cond x51
        (ae (aF a.aggregates b.aggregates (fun a0 a1=>eG a0 a1)) fun x59 =>
        cond x59
         (ae (bE a.inputs b.inputs (fun a0 a1=>rec8 a0 a1)) fun x66 =>
         some x66)
         (some false))
        (some false))
       (some false))
      (some false))
     (some false))
    (some false))
   (some false))
  (some false)
theorem WO_query_Equal (rec8 : LQuery → LQuery → Option (Bool)) (hrec8 : ∀ a0 a1 r,rec8 a0 a1 = some r → aL Tryz.prog 8 [(.agg (aw a0)),(.agg (aw a1))] (ay r)) (a : LQuery) (b : LQuery) (r : Bool) (H : ly rec8 a b = some r) :
  aL Tryz.prog 8 [(.agg (aw a)),(.agg (aw b))] (ay r) := by
 unfold ly at H
 refine PH.ax Tryz.func8 Tryz.ntmps8 ?_
 refine ab (aa (aH ?_))
 refine aH ?_
 refine ah tk rfl (ac (am 1 tk rfl (ab (aa (ag 6 tk rfl ?_)))))
 refine aV rfl rfl rfl H (fun H=>?_) (fun H=>?_)
 ·refine ag 7 tk rfl ?_
  refine aV rfl rfl rfl H (fun H=>?_) (fun H=>?_)
  ·refine ag 7 tk rfl ?_
   refine aV rfl rfl rfl H (fun H=>?_) (fun H=>?_)
   ·refine ag 7 tk rfl ?_
    refine aV rfl rfl rfl H (fun H=>?_) (fun H=>?_)
    ·refine ag 4 tk rfl ?_
     obtain ⟨x37,h37,H⟩ := au H
     have s37 := jK a.names b.names _ h37
     refine aj Tryz.call21 (gK.r) s37 ?_
     refine ag 2 tk rfl ?_
     refine aV rfl rfl rfl H (fun H=>?_) (fun H=>?_)
     ·refine ag 4 tk rfl ?_
      obtain ⟨x44,h44,H⟩ := au H
      have s44 := kD a.descending b.descending _ h44
      refine aj Tryz.call22 (gK.r) s44 ?_
      refine ag 2 tk rfl ?_
      refine aV rfl rfl rfl H (fun H=>?_) (fun H=>?_)
      ·refine ag 4 tk rfl ?_
       obtain ⟨x51,h51,H⟩ := au H
       have s51 := cQ a.exprs b.exprs (fun a0 a1=>gm a0 a1) Tryz.call20 (fun a0 a1 r h=>ox a0 a1 r h) _ h51
       refine aj Tryz.call19 (gK.r) s51 ?_
       refine ag 2 tk rfl ?_
       refine aV rfl rfl rfl H (fun H=>?_) (fun H=>?_)
       ·refine ag 5 tk rfl ?_
        obtain ⟨x59,h59,H⟩ := au H
        have s59 := cd a.aggregates b.aggregates (fun a0 a1=>eG a0 a1) Tryz.call18 (fun a0 a1 r h=>oF a0 a1 r h) _ h59
        refine aj Tryz.call23 (gK.r) s59 ?_
        refine ag 2 tk rfl ?_
        refine aV rfl rfl rfl H (fun H=>?_) (fun H=>?_)
        ·refine ag 4 tk rfl ?_
         obtain ⟨x66,h66,H⟩ := au H
         have s66 := fV a.inputs b.inputs (fun a0 a1=>rec8 a0 a1) Tryz.call8 (fun a0 a1 r h=>hrec8 a0 a1 r h) _ h66
         refine aj Tryz.call24 (gK.r) s66 ?_
         refine ag 2 tk rfl (ac ?_)
         exact aS tk H rfl
        refine ag 7 tk rfl (ac ?_)
        exact aS tk H rfl
       refine ag 15 tk rfl (ac ?_)
       exact aS tk H rfl
      refine ag 22 tk rfl (ac ?_)
      exact aS tk H rfl
     refine ag 29 tk rfl (ac ?_)
     exact aS tk H rfl
    refine ag 36 tk rfl (ac ?_)
    exact aS tk H rfl
   refine ag 43 tk rfl ?_
   refine ac ?_
   exact aS tk H rfl
  refine ag 50 tk rfl ?_
  refine ac ?_
  exact aS tk H rfl
 refine ag 57 tk rfl ?_
 refine ac ?_
 exact aS tk H rfl
def gW : Nat → LQuery → LQuery → Option (Bool)
 | 0,_,_=>none
 | n + 1,v0,v1=>ly (fun b0 b1=>gW n b0 b1) v0 v1
theorem WF_query_Equal  (n : Nat) : (∀ a0 a1 r,gW n a0 a1 = some r → aL Tryz.prog 8 [(.agg (aw a0)),(.agg (aw a1))] (ay r)) := by
 induction n with
 | zero=>exact (by intros; rename_i h; exact absurd (show (none : Option _) = some _ from h) (by simp))
 | succ n ih =>
  exact (fun v0 v1 r h=>WO_query_Equal (fun b0 b1=>gW n b0 b1) ih v0 v1  r h)
def fN (a : LQuery) (b : LQuery) : Option (Bool) := ik fun n=>gW n a b
theorem kn (a : LQuery) (b : LQuery) (r : Bool) (H : fN a b = some r) :
  aL Tryz.prog 8 [(.agg (aw a)),(.agg (aw b))] (ay r) := by
 obtain ⟨n,h⟩ := gX H
 exact (WF_query_Equal  n) a b r h
def jE (a : LQuery) (b : LQuery) : Option (Bool) :=
 cond (a.kind == b.kind)
  (cond (a.table == b.table)
   (cond (a.count == b.count)
    (cond (a.offset == b.offset)
     (ae (cp a.names b.names) fun x37 =>
     cond x37
      (ae (cV a.descending b.descending) fun x44 =>
      cond x44
       (ae (bL a.exprs b.exprs (fun a0 a1=>gm a0 a1)) fun x51 =>
       cond x51
        (ae (aF a.aggregates b.aggregates (fun a0 a1=>eG a0 a1)) fun x59 =>
        cond x59
         (ae (bC a.inputs b.inputs (fun a0 a1=>fN a0 a1)) fun x66 =>
         some x66)
         (some false))
        (some false))
       (some false))
      (some false))
     (some false))
    (some false))
   (some false))
  (some false)
theorem rW (g_a_3 : OwnRef) (g_a_8 : OwnRef) (a : LQuery) (b : LQuery) (r : Bool) (H : jE a b = some r) :
  PH Tryz.prog 8 [(.agg [(ai a.kind),(.str a.table),(.list 9 (a.names.map cj)),(.own 3003 g_a_3 (a.exprs.map aC).length),(.list 70 (a.aggregates.map bT)),(.list 4 (a.descending.map cf)),(ai a.count),(ai a.offset),(.own 3008 g_a_8 (a.inputs.map aE).length)]),(.agg (aw b))] ⟨fun _=>none,upd (upd (fun _=>none) 3008 (some ⟨g_a_8,35,(List.map aE a.inputs),true⟩)) 3003 (some ⟨g_a_3,50,(List.map aC a.exprs),true⟩)⟩ (fun u H=>u = (ay r) ∧ H = ⟨fun _=>none,upd (upd (fun _=>none) 3008 (some ⟨g_a_8,35,(List.map aE a.inputs),true⟩)) 3003 (some ⟨g_a_3,50,(List.map aC a.exprs),true⟩)⟩) := by
 unfold jE at H
 refine PH.ax Tryz.func8 Tryz.ntmps8 ?_
 refine ab (aa ?_)
 refine sN (d := 2) rfl rfl rfl rfl rfl fun b2=>?_
 refine aH ?_
 refine ah tk rfl (ac (am 1 tk rfl (ab (aa (ah tk rfl (aq tk ?_))))))
 refine ag 4 tk rfl ?_
 refine aV rfl rfl rfl H (fun H=>?_) (fun H=>?_)
 ·refine ah tk rfl (aq tk ?_)
  refine ag 5 tk rfl ?_
  refine aV rfl rfl rfl H (fun H=>?_) (fun H=>?_)
  ·refine ah tk rfl (aq tk ?_)
   refine ag 5 tk rfl ?_
   refine aV rfl rfl rfl H (fun H=>?_) (fun H=>?_)
   ·refine ah tk rfl (aq tk ?_)
    refine ag 5 tk rfl ?_
    refine aV rfl rfl rfl H (fun H=>?_) (fun H=>?_)
    ·refine ah tk rfl (aq tk ?_)
     refine ag 2 tk rfl ?_
     obtain ⟨x37,h37,H⟩ := au H
     have s37 := jK a.names b.names _ h37
     refine aj Tryz.call21 (gK.r) s37 ?_
     refine ag 2 tk rfl ?_
     refine aV rfl rfl rfl H (fun H=>?_) (fun H=>?_)
     ·refine ah tk rfl (aq tk ?_)
      refine ag 2 tk rfl ?_
      obtain ⟨x44,h44,H⟩ := au H
      have s44 := kD a.descending b.descending _ h44
      refine aj Tryz.call22 (gK.r) s44 ?_
      refine ag 2 tk rfl ?_
      refine aV rfl rfl rfl H (fun H=>?_) (fun H=>?_)
      ·refine ah tk rfl (aq tk ?_)
       refine ag 2 tk rfl ?_
       obtain ⟨x51,h51,H⟩ := au H
       have s51 := gI g_a_3 a.exprs b.exprs (fun a0 a1=>gm a0 a1) Tryz.call20 (fun a0 a1 r h=>ox a0 a1 r h) _ h51
       refine dD (g := 19) rfl rfl rfl Tryz.call19 [] [(3003,3019)] rfl rfl rfl rfl (gK.cons (PLe.of2 (lA.own rfl)) <| gK.cons (PLe.refl _ _) <| gK.cons (PLe.refl _ _) <| gK.nil _) (by rw [cX,cl,cZ]; rfl) s51 ?_
       rintro u51 H51h ⟨rfl,rfl⟩
       refine ⟨_,rfl,?_⟩
       refine dB (st' := ⟨_,_,upd (fun _=>none) 2 (some ⟨b2,[(ai a.kind),(.str a.table),(.list 9 (a.names.map cj)),(.own 3003 g_a_3 (a.exprs.map aC).length),(.list 70 (a.aggregates.map bT)),(.list 4 (a.descending.map cf)),(ai a.count),(ai a.offset),(.own 3008 g_a_8 (a.inputs.map aE).length)]⟩),upd (upd (fun _=>none) 3008 (some ⟨g_a_8,35,(a.inputs.map aE),true⟩)) 3003 (some ⟨g_a_3,50,(a.exprs.map aC),true⟩)⟩) (Gh.le (cA _ _) (aX rfl (gK.r) aI) (aP (aP aJ))) ?_
       refine ag 2 tk rfl ?_
       refine aV rfl rfl rfl H (fun H=>?_) (fun H=>?_)
       ·refine ah tk rfl (aq tk ?_)
        refine ag 3 tk rfl ?_
        obtain ⟨x59,h59,H⟩ := au H
        have s59 := cd a.aggregates b.aggregates (fun a0 a1=>eG a0 a1) Tryz.call18 (fun a0 a1 r h=>oF a0 a1 r h) _ h59
        refine aj Tryz.call23 (gK.r) s59 ?_
        refine ag 2 tk rfl ?_
        refine aV rfl rfl rfl H (fun H=>?_) (fun H=>?_)
        ·refine ah tk rfl (aq tk ?_)
         refine ag 2 tk rfl ?_
         obtain ⟨x66,h66,H⟩ := au H
         have s66 := fP g_a_8 a.inputs b.inputs (fun a0 a1=>fN a0 a1) Tryz.call8 (fun a0 a1 r h=>kn a0 a1 r h) _ h66
         refine dD (g := 24) rfl rfl rfl Tryz.call24 [] [(3008,3019)] rfl rfl rfl rfl (gK.cons (PLe.of2 (lA.own rfl)) <| gK.cons (PLe.refl _ _) <| gK.cons (PLe.refl _ _) <| gK.nil _) (by rw [cX,cl,cZ]; rfl) s66 ?_
         rintro u66 H66h ⟨rfl,rfl⟩
         refine ⟨_,rfl,?_⟩
         refine dB (st' := ⟨_,_,upd (fun _=>none) 2 (some ⟨b2,[(ai a.kind),(.str a.table),(.list 9 (a.names.map cj)),(.own 3003 g_a_3 (a.exprs.map aC).length),(.list 70 (a.aggregates.map bT)),(.list 4 (a.descending.map cf)),(ai a.count),(ai a.offset),(.own 3008 g_a_8 (a.inputs.map aE).length)]⟩),upd (upd (fun _=>none) 3008 (some ⟨g_a_8,35,(a.inputs.map aE),true⟩)) 3003 (some ⟨g_a_3,50,(a.exprs.map aC),true⟩)⟩) (Gh.le (cA _ _) (aX rfl (gK.r) aI) (aP (aP aJ))) ?_
         refine ag 2 tk rfl (ac ?_)
         obtain rfl := aA H
         refine eh (st' := ⟨68,upd (fun _=>.any) 4 (ay x66),fun _=>none,upd (upd (fun _=>none) 3008 (some ⟨g_a_8,35,(a.inputs.map aE),true⟩)) 3003 (some ⟨g_a_3,50,(a.exprs.map aC),true⟩)⟩) (Gh.le (ap aT) aI (aP (aP aJ))) ?_
         refine fD tk rfl (ps := [(ay x66)]) ⟨_,_,rfl,rfl,rfl⟩ (PLe.q rfl) ⟨rfl,rfl⟩
        refine ag 7 tk rfl (ac ?_)
        obtain rfl := aA H
        refine eh (st' := ⟨68,upd (fun _=>.any) 4 (ay false),fun _=>none,upd (upd (fun _=>none) 3008 (some ⟨g_a_8,35,(a.inputs.map aE),true⟩)) 3003 (some ⟨g_a_3,50,(a.exprs.map aC),true⟩)⟩) (Gh.le (ap aT) aI (aP (aP aJ))) ?_
        refine fD tk rfl (ps := [(ay false)]) ⟨_,_,rfl,rfl,rfl⟩ (PLe.q rfl) ⟨rfl,rfl⟩
       refine ag 15 tk rfl (ac ?_)
       obtain rfl := aA H
       refine eh (st' := ⟨68,upd (fun _=>.any) 4 (ay false),fun _=>none,upd (upd (fun _=>none) 3008 (some ⟨g_a_8,35,(a.inputs.map aE),true⟩)) 3003 (some ⟨g_a_3,50,(a.exprs.map aC),true⟩)⟩) (Gh.le (ap aT) aI (aP (aP aJ))) ?_
       refine fD tk rfl (ps := [(ay false)]) ⟨_,_,rfl,rfl,rfl⟩ (PLe.q rfl) ⟨rfl,rfl⟩
      refine ag 22 tk rfl (ac ?_)
      obtain rfl := aA H
      refine eh (st' := ⟨68,upd (fun _=>.any) 4 (ay false),fun _=>none,upd (upd (fun _=>none) 3008 (some ⟨g_a_8,35,(a.inputs.map aE),true⟩)) 3003 (some ⟨g_a_3,50,(a.exprs.map aC),true⟩)⟩) (Gh.le (ap aT) aI (aP (aP aJ))) ?_
      refine fD tk rfl (ps := [(ay false)]) ⟨_,_,rfl,rfl,rfl⟩ (PLe.q rfl) ⟨rfl,rfl⟩
     refine ag 29 tk rfl (ac ?_)
     obtain rfl := aA H
     refine eh (st' := ⟨68,upd (fun _=>.any) 4 (ay false),fun _=>none,upd (upd (fun _=>none) 3008 (some ⟨g_a_8,35,(a.inputs.map aE),true⟩)) 3003 (some ⟨g_a_3,50,(a.exprs.map aC),true⟩)⟩) (Gh.le (ap aT) aI (aP (aP aJ))) ?_
     refine fD tk rfl (ps := [(ay false)]) ⟨_,_,rfl,rfl,rfl⟩ (PLe.q rfl) ⟨rfl,rfl⟩
    refine ag 36 tk rfl (ac ?_)
    obtain rfl := aA H
    refine eh (st' := ⟨68,upd (fun _=>.any) 4 (ay false),fun _=>none,upd (upd (fun _=>none) 3008 (some ⟨g_a_8,35,(a.inputs.map aE),true⟩)) 3003 (some ⟨g_a_3,50,(a.exprs.map aC),true⟩)⟩) (Gh.le (ap aT) aI (aP (aP aJ))) ?_
    refine fD tk rfl (ps := [(ay false)]) ⟨_,_,rfl,rfl,rfl⟩ (PLe.q rfl) ⟨rfl,rfl⟩
   refine ag 43 tk rfl ?_
   refine ac ?_
   obtain rfl := aA H
   refine eh (st' := ⟨68,upd (fun _=>.any) 4 (ay false),fun _=>none,upd (upd (fun _=>none) 3008 (some ⟨g_a_8,35,(a.inputs.map aE),true⟩)) 3003 (some ⟨g_a_3,50,(a.exprs.map aC),true⟩)⟩) (Gh.le (ap aT) aI (aP (aP aJ))) ?_
   refine fD tk rfl (ps := [(ay false)]) ⟨_,_,rfl,rfl,rfl⟩ (PLe.q rfl) ⟨rfl,rfl⟩
  refine ag 50 tk rfl ?_
  refine ac ?_
  obtain rfl := aA H
  refine eh (st' := ⟨68,upd (fun _=>.any) 4 (ay false),fun _=>none,upd (upd (fun _=>none) 3008 (some ⟨g_a_8,35,(a.inputs.map aE),true⟩)) 3003 (some ⟨g_a_3,50,(a.exprs.map aC),true⟩)⟩) (Gh.le (ap aT) aI (aP (aP aJ))) ?_
  refine fD tk rfl (ps := [(ay false)]) ⟨_,_,rfl,rfl,rfl⟩ (PLe.q rfl) ⟨rfl,rfl⟩
 refine ag 57 tk rfl ?_
 refine ac ?_
 obtain rfl := aA H
 refine eh (st' := ⟨68,upd (fun _=>.any) 4 (ay false),fun _=>none,upd (upd (fun _=>none) 3008 (some ⟨g_a_8,35,(a.inputs.map aE),true⟩)) 3003 (some ⟨g_a_3,50,(a.exprs.map aC),true⟩)⟩) (Gh.le (ap aT) aI (aP (aP aJ))) ?_
 refine fD tk rfl (ps := [(ay false)]) ⟨_,_,rfl,rfl,rfl⟩ (PLe.q rfl) ⟨rfl,rfl⟩
def eB (c : LChecker) (q : LQuery) (inA : List LCol) : Option ((List LCol) × Int) :=
 ae (aD (σ := List LCol) (ρ := ((List LCol) × Int)) (fun (j1 : Nat) (x1 : LExpr) (s1 : List LCol) =>
  br (cW inA c.vars x1) fun x31 =>
  ae (aK q.names (j1 : Int)) fun (x39 : List UInt8) =>
  br (dp x39) fun x41 =>
  cond (!x41)
   (some (.ret ([],3)))
   (cond (x31.2.2 != (0 : Int))
    (some (.ret ([],x31.2.2)))
    (cond (x31.1 == (0 : Int))
     (some (.ret ([],7)))
     (ae (aK q.names (j1 : Int)) fun (x54 : List UInt8) =>
     ae (cy 32 s1 ([(LCol.mk x54 x31.1 x31.2.1)] : List LCol)) fun (x60 : List LCol) =>
     some (.next x60))))) 0 q.exprs []) fun fl1=>fl1.thenR fun (s1 : List LCol) =>
 ae (aD (σ := List LCol) (ρ := ((List LCol) × Int)) (fun (_ : Nat) (x2 : LAggregateCall) (s2 : List LCol) =>
  ae (gi c inA x2) fun x73 =>
  cond (x73.2 != (0 : Int))
   (some (.ret ([],x73.2)))
   (ae (cy 32 s2 ([(LCol.mk x2.name x73.1 (!(x2.function == ([99,111,117,110,116] : List UInt8))))] : List LCol)) fun (x88 : List LCol) =>
   some (.next x88))) 0 q.aggregates s1) fun fl2=>fl2.thenR fun (s2 : List LCol) =>
 some (s2,0)
theorem mD (c : LChecker) (q : LQuery) (inA : List LCol) (r : (List LCol) × Int) (H : eB c q inA = some r) :
  aL Tryz.prog 105 [(.agg (dW c)),(.agg (aw q)),(.list 53 (inA.map aR))] (.tup [(.list 53 (r.1.map aR)),(ai r.2)]) := by
 unfold eB at H
 refine PH.ax Tryz.func105 Tryz.ntmps105 ?_
 refine ab (aa (aH ?_))
 refine aH ?_
 refine ag 2 tk rfl (ac (am 1 tk rfl (ab (ab (aa (ag 2 tk rfl (az tk (zl _) ?_)))))))
 refine ah tk rfl (ac (ic tk 8 60 (e := 53) rfl rfl ?_))
 refine ez (γ := OwnRef) tk 21 20 19 (fun s1 g1=>upd (upd (upd (upd (fun _=>.any) 8 (.own 60 g1 (s1.map aR).length)) 4 (.ptr (aw q))) 3 (.ptr (dW c))) 2 (.list 53 (inA.map aR))) nB (fun s1 g1=>upd (fun _=>none) 60 (some ⟨g1,53,(s1.map aR),true⟩)) (⟨none,0⟩) H (fun fl1 Hp1 j1 s1 g1 hz1 hl1 x1 fb1 hx1 H hg1=>?_) (fun s1 g1 H=>?_)
 ·refine ab (av (ab (aa (ah tk rfl (aU tk (zn j1) (bl bP hx1) ?_)))))
  refine ah tk rfl ?_
  refine aN tk fun b10=>?_
  refine ah tk rfl (ak tk ?_)
  refine ac (ab (aa (ag 3 tk rfl (aq tk ?_))))
  obtain ⟨x31,h31,H⟩ := cL H
  have s31 := mO inA c.vars x1
  rw [h31] at s31
  refine aj Tryz.call106 (gK.r) s31 ?_
  refine ag 7 tk rfl (ac (ab (av (ab (aa (ag 3 tk rfl ?_))))))
  obtain ⟨x39,k39,H⟩ := bq H
  refine aU tk k39.1 (aO (fun _=>rfl) k39.2) ?_
  refine ah tk rfl ?_
  obtain ⟨x41,h41,H⟩ := cL H
  have s41 := mm x39
  rw [h41] at s41
  refine aj Tryz.call120 (gK.r) s41 ?_
  refine ag 2 tk rfl (ac ?_)
  refine aM rfl H (fun H=>?_) (fun H=>?_)
  ·refine am 2 tk rfl ?_
   obtain rfl := aA H
   have e1 : fl1 = .ret _ := hg1
   subst e1
   obtain rfl := aY Hp1
   refine bj tk rfl (ps := [(.val (.slice none 0 0)),(ai 3)]) ⟨_,_,rfl,rfl,_,_,rfl,rfl,rfl⟩ (PLe.of2 (lA.tup (iz.cons (lA.nil tk rfl) (iz.cons (lA.of_eq rfl) iz.nil))))
  refine am 3 tk rfl ?_
  refine aM rfl H (fun H=>?_) (fun H=>?_)
  ·refine am 3 tk rfl ?_
   obtain rfl := aA H
   have e1 : fl1 = .ret _ := hg1
   subst e1
   obtain rfl := aY Hp1
   refine bj tk rfl (ps := [(.val (.slice none 0 0)),(ai x31.2.2)]) ⟨_,_,rfl,rfl,_,_,rfl,rfl,rfl⟩ (PLe.of2 (lA.tup (iz.cons (lA.nil tk rfl) (iz.cons (lA.of_eq rfl) iz.nil))))
  refine am 3 tk rfl ?_
  refine aM rfl H (fun H=>?_) (fun H=>?_)
  ·refine am 2 tk rfl ?_
   obtain rfl := aA H
   have e1 : fl1 = .ret _ := hg1
   subst e1
   obtain rfl := aY Hp1
   refine bj tk rfl (ps := [(.val (.slice none 0 0)),(ai 7)]) ⟨_,_,rfl,rfl,_,_,rfl,rfl,rfl⟩ (PLe.of2 (lA.tup (iz.cons (lA.nil tk rfl) (iz.cons (lA.of_eq rfl) iz.nil))))
  refine ao (aG (aa (ag 4 tk rfl ?_)))
  obtain ⟨x54,k54,H⟩ := bq H
  refine aU tk k54.1 (aO (fun _=>rfl) k54.2) ?_
  refine ag 4 tk rfl (cv tk (rows' := List.map aR ([(LCol.mk x54 x31.1 x31.2.1)] : List LCol)) (gP.refl _) ?_)
  obtain ⟨x60,h60,H⟩ := au H
  have k60 := bX h60
  refine cr (rows2' := List.map aR ([(LCol.mk x54 x31.1 x31.2.1)] : List LCol)) (rows' := List.map aR x60) tk rfl rfl rfl rfl rfl rfl rfl rfl rfl rfl rfl rfl rfl (gP.refl _) (cK k60.1) (cI k60.2.1) (cF k60.2.2) fun g60=>?_
  refine ah tk rfl (ac (aG (bc 2 tk rfl ?_)))
  exact bg g60 H hl1 hg1
 refine ab (ab (aa (ag 2 tk rfl (az tk (zl _) ?_))))
 refine ah tk rfl (ac ?_)
 refine ez (γ := OwnRef) tk 65 64 63 (fun s2 g2=>upd (upd (upd (fun _=>.any) 8 (.own 60 g2 (s2.map aR).length)) 3 (.ptr (dW c))) 2 (.list 53 (inA.map aR))) nB (fun s2 g2=>upd (fun _=>none) 60 (some ⟨g2,53,(s2.map aR),true⟩)) g1 H (fun fl2 Hp2 j2 s2 g2 hz2 hl2 x2 fb2 hx2 H hg2=>?_) (fun s2 g2 H=>?_)
 ·refine ab (av (ab (aa ?_)))
  refine aU tk (zn j2) (bl (fun _=>rfl) hx2) ?_
  refine ah tk rfl ?_
  refine aN tk fun b15=>?_
  refine ak tk ?_
  refine ac (ab (aa (ag 2 tk rfl (aq tk ?_))))
  obtain ⟨x73,h73,H⟩ := au H
  have s73 := qu c inA x2 _ h73
  refine aj Tryz.call121 (gK.r) s73 ?_
  refine ag 5 tk rfl (ac (ab (am 2 tk rfl ?_)))
  refine aM rfl H (fun H=>?_) (fun H=>?_)
  ·refine am 3 tk rfl ?_
   obtain rfl := aA H
   have e2 : fl2 = .ret _ := hg2
   subst e2
   obtain rfl := aY Hp2
   refine bj tk rfl (ps := [(.val (.slice none 0 0)),(ai x73.2)]) ⟨_,_,rfl,rfl,_,_,rfl,rfl,rfl⟩ (PLe.of2 (lA.tup (iz.cons (lA.nil tk rfl) (iz.cons (lA.of_eq rfl) iz.nil))))
  refine ao (aa (ag 2 tk rfl (aq tk ?_)))
  refine ag 2 tk rfl (aq tk ?_)
  refine ag 2 tk rfl ?_
  refine cv tk (rows' := List.map aR ([(LCol.mk x2.name x73.1 (!(x2.function == ([99,111,117,110,116] : List UInt8))))] : List LCol)) (gP.refl _) ?_
  obtain ⟨x88,h88,H⟩ := au H
  have k88 := bX h88
  refine cr (rows2' := List.map aR ([(LCol.mk x2.name x73.1 (!(x2.function == ([99,111,117,110,116] : List UInt8))))] : List LCol)) (rows' := List.map aR x88) tk rfl rfl rfl rfl rfl rfl rfl rfl rfl rfl rfl rfl rfl (gP.refl _) (cK k88.1) (cI k88.2.1) (cF k88.2.2) fun g88=>?_
  refine ah tk rfl (ac (aG (bc 2 tk rfl ?_)))
  exact bg g88 H hl2 hg2
 refine am 3 tk rfl (dZ 6 rfl rfl rfl ?_)
 exact aS tk H rfl
def fu (sA : LSchema) (inst : List LRelation) : Option (Int) :=
 cond ((inst.length : Int) != (sA.tables.length : Int))
  (some 3)
  (ae (aD (σ := Unit) (ρ := (Int)) (fun (j1 : Nat) (x1 : LRelation) (_ : Unit) =>
   ae (aK sA.tables (j1 : Int)) fun (x28 : LTable) =>
   cond (!(x1.table == x28.name))
    (some (.ret 3))
    (cond (decide ((x1.rows.length : Int) > (24 : Int)))
     (some (.ret 2))
     (ae (aD (σ := Unit) (ρ := (Int)) (fun (j3 : Nat) (x3 : Rq) (_ : Unit) =>
      ae (ed x28 x3) fun x49 =>
      cond (x49 != (0 : Int))
       (some (.ret x49))
       (cond ((j3 : Int) == (0 : Int))
        (some (.next ()))
        (ae (aK x1.rows (IntKind.i64.wrap ((j3 : Int) - (1 : Int)))) fun (x60 : Rq) =>
        ae (dq x28 x60) fun x62 =>
        ae (dq x28 x3) fun x65 =>
        ae (dO x62 x65) fun x66 =>
        cond (x66 == (0 : Int))
         (some (.ret 9))
         (cond (decide (x66 > (0 : Int)))
          (some (.ret 6))
          (some (.next ())))))) 0 x1.rows ()) fun fl3=>fl3.thenF fun (_ : Unit) =>
     some (.next ())))) 0 inst ()) fun fl1=>fl1.thenR fun (_ : Unit) =>
  some 0)
theorem mt (sA : LSchema) (inst : List LRelation) (r : Int) (H : fu sA inst = some r) :
  aL Tryz.prog 12 [(.agg (bG sA)),(.list 59 (inst.map bO))] (ai r) := by
 unfold fu at H
 refine PH.ax Tryz.func12 Tryz.ntmps12 ?_
 refine ab (aa (aH ?_))
 refine ah tk rfl (ac (ab (ab (aa (ah tk rfl (az tk (zl _) ?_))))))
 refine ag 2 tk rfl (az tk (zl _) ?_)
 refine ah tk rfl (ac ?_)
 refine aM rfl H (fun H=>?_) (fun H=>?_)
 ·refine am 1 tk rfl ?_
  exact aS tk H rfl
 refine ao (ab (ab (aa (ah tk rfl (az tk (zl _) ?_)))))
 refine ah tk rfl (ac ?_)
 refine ez tk 20 19 18 (fun s1 g1=>upd (fun _=>.any) 2 (.ptr (bG sA))) nB nO () H (fun fl1 Hp1 j1 s1 g1 hz1 hl1 x1 fb1 hx1 H hg1=>?_) (fun s1 g1 H=>?_)
 ·refine ab (av (ab (aa (ah tk rfl ?_))))
  refine aU tk (zn j1) (bl (fun _=>rfl) hx1) ?_
  refine ah tk rfl ?_
  refine aN tk fun b6=>?_
  refine ah tk rfl (ak tk ?_)
  refine ac (ab (aa (ag 3 tk rfl ?_)))
  obtain ⟨x28,k28,H⟩ := bq H
  refine aU tk k28.1 (aO (fun _=>rfl) k28.2) ?_
  refine ah tk rfl ?_
  refine aN tk fun b7=>?_
  refine ak tk ?_
  refine ac (ab (ab (aa (ah tk rfl (aq tk ?_)))))
  refine ah tk rfl (aq tk ?_)
  refine ah tk rfl (ac ?_)
  refine aM rfl H (fun H=>?_) (fun H=>?_)
  ·refine am 1 tk rfl ?_
   obtain rfl := aA H
   have e1 : fl1 = .ret _ := hg1
   subst e1
   obtain rfl := aY Hp1
   refine bj tk rfl (ps := [(ai 3)]) ⟨_,_,rfl,rfl,rfl⟩ (PLe.q rfl)
  refine ao (ab (ab (aa (ah tk rfl (aq tk ?_)))))
  refine az tk (zl _) ?_
  refine ah tk rfl (ac ?_)
  refine aM rfl H (fun H=>?_) (fun H=>?_)
  ·refine am 1 tk rfl ?_
   obtain rfl := aA H
   have e1 : fl1 = .ret _ := hg1
   subst e1
   obtain rfl := aY Hp1
   refine bj tk rfl (ps := [(ai 2)]) ⟨_,_,rfl,rfl,rfl⟩ (PLe.q rfl)
  refine ao (ab (aa (ah tk rfl (aq tk ?_))))
  refine az tk (zl _) ?_
  refine ah tk rfl (ac ?_)
  obtain ⟨fl3,H3,Hp3⟩ := au H
  refine gG tk 40 rfl rfl (fun hz3 _=>?_)
  rw [zl] at hz3
  refine dM (τ := Unit) (γ := Unit) (fun s3 g3=>⟨75,upd (upd (upd (upd (fun _=>.any) 20 (ai (j1 : Int))) 19 (ai (inst.length : Int))) 18 (.list 59 (inst.map bO))) 2 (.ptr (bG sA)),fun _=>none,fun _=>none⟩) (fun t=>fl3 = .next t) ?_ (fun s3 g3 hn3=>?_)
  ·refine av ?_
   refine eF (fun j3 s3 g3=>⟨75,upd (upd (upd (upd (upd (upd (upd (upd (upd (fun _=>.any) 42 (ai (j3 : Int))) 41 (ai (x1.rows.length : Int))) 40 (.list 57 (x1.rows.map (al 48 af)))) 20 (ai (j1 : Int))) 19 (ai (inst.length : Int))) 18 (.list 59 (inst.map bO))) 7 (.box 7 b7 0)) 6 (.box 6 b6 0)) 2 (.ptr (bG sA)),upd (upd (fun _=>none) 7 (some ⟨b7,(cP x28)⟩)) 6 (some ⟨b6,(bO x1)⟩),fun _=>none⟩) () H3 Gh.d (fun j3 s3 g3 hj3 hr3=>?_)
   refine am 1 tk rfl (ab ?_)
   refine bh rfl (fun h=>?_) (fun h=>?_)
   ·have hl3 := pl h
    obtain ⟨x3,fb3,hx3,H,hg3⟩ := rMc hl3 hr3
    refine ao (ab (av (ab (aa (ah tk rfl ?_)))))
    refine aU tk (zn j3) (bl (fun _=>rfl) hx3) ?_
    refine ag 3 tk rfl (ac (ab (ab (aa (aq tk ?_)))))
    refine ah tk rfl ?_
    obtain ⟨x49,h49,H⟩ := au H
    have s49 := oQ x28 x3 _ h49
    refine aj Tryz.call32 (gK.r) s49 ?_
    refine ah tk rfl (ac (am 2 tk rfl ?_))
    refine aM rfl H (fun H=>?_) (fun H=>?_)
    ·refine am 2 tk rfl ?_
     obtain rfl := aA H
     have e3 : fl3 = .ret _ := hg3
     subst e3
     have q3 := qx Hp3
     subst q3
     have e1 : fl1 = .ret _ := hg1
     subst e1
     obtain rfl := aY Hp1
     refine bj tk rfl (ps := [(ai x49)]) ⟨_,_,rfl,rfl,rfl⟩ (PLe.q rfl)
    refine ao (ab (am 2 tk rfl ?_))
    refine aM rfl H (fun H=>?_) (fun H=>?_)
    ·refine bm rfl (bc 2 tk rfl ?_)
     exact bg () H hl3 hg3
    refine ao (ab (bo tk mok ⟨true,false,[61]⟩ [0,1,2,3,4,5,6,8,9,7,10,11,12] rfl (by decide +kernel) rfl (bi ?_)))
    refine bt rfl (bi ?_)
    refine aW 2 rfl ?_
    obtain ⟨x60,k60,H⟩ := bq H
    refine bK k60.1 (aO (fun _=>rfl) k60.2) ?_
    refine bt rfl (bi ?_)
    refine bt rfl ?_
    obtain ⟨x62,h62,H⟩ := au H
    have s62 := px x28 x60 _ h62
    refine aZ Tryz.call34 (gK.r) s62 ?_
    obtain ⟨x65,h65,H⟩ := au H
    have s65 := px x28 x3 _ h65
    refine aZ Tryz.call34 (gK.r) s65 ?_
    obtain ⟨x66,h66,H⟩ := au H
    have s66 := qp x62 x65 _ h66
    refine aZ Tryz.call33 (gK.r) s66 ?_
    refine bt rfl (bn (av (am 3 tk rfl ?_)))
    refine aM rfl H (fun H=>?_) (fun H=>?_)
    ·refine am 1 tk rfl ?_
     obtain rfl := aA H
     have e3 : fl3 = .ret _ := hg3
     subst e3
     have q3 := qx Hp3
     subst q3
     have e1 : fl1 = .ret _ := hg1
     subst e1
     obtain rfl := aY Hp1
     refine bj tk rfl (ps := [(ai 9)]) ⟨_,_,rfl,rfl,rfl⟩ (PLe.q rfl)
    refine am 3 tk rfl ?_
    refine aM rfl H (fun H=>?_) (fun H=>?_)
    ·refine am 1 tk rfl ?_
     obtain rfl := aA H
     have e3 : fl3 = .ret _ := hg3
     subst e3
     have q3 := qx Hp3
     subst q3
     have e1 : fl1 = .ret _ := hg1
     subst e1
     obtain rfl := aY Hp1
     refine bj tk rfl (ps := [(ai 6)]) ⟨_,_,rfl,rfl,rfl⟩ (PLe.q rfl)
    refine ao (aG (aG (bc 2 tk rfl ?_)))
    exact bg () H hl3 hg3
   have hn3 := rMd (pp h) hr3
   refine bm rfl ?_
   refine be s3 g3 hn3 Gh.d
  have H := thenF_next hn3 Hp3
  refine aG (bc 2 tk rfl ?_)
  exact bg () H hl1 hg1
 refine am 1 tk rfl ?_
 exact aS tk H rfl
def iy (x : Rq) (c0 : LRun) (c1 : List LCol) (c2 : LQuery) : Option (Bool) :=
 ae (aK c2.exprs 0) fun (x12 : LExpr) =>
 br (bw c0 c1 x) fun x9 =>
 br (cM x9 x12) fun x14 =>
 br (kV x14) fun x15 =>
 some (!x15)
theorem qP (x : Rq) (c0 : LRun) (c1 : List LCol) (c2 : LQuery) (r : Bool) (H : iy x c0 c1 c2 = some r) :
  aL Tryz.prog 63 [(.list 48 (x.map af)),(.ptr (dL c0)),(.ptr [(.list 53 (c1.map aR))]),(.ptr (aw c2))] (ay r) := by
 unfold iy at H
 refine PH.ax Tryz.func63 Tryz.ntmps63 ?_
 refine am 1 tk rfl (ab (bo tk mok ⟨false,false,[]⟩ [0,1,2,4,5,6,7,3,8,9,10,11] rfl (by decide +kernel) rfl (aW 5 rfl ?_)))
 obtain ⟨x12,k12,H⟩ := bq H
 refine bK k12.1 (aO bP k12.2) ?_
 refine bt rfl ?_
 obtain ⟨x9,h9,H⟩ := cL H
 have s9 := kC c0 c1 x
 rw [h9] at s9
 refine aZ Tryz.call66 (gK.r) s9 ?_
 obtain ⟨x14,h14,H⟩ := cL H
 have s14 := mY x9 x12
 rw [h14] at s14
 refine aZ Tryz.call65 (gK.r) s14 ?_
 obtain ⟨x15,h15,H⟩ := cL H
 have s15 := isTS x14
 rw [h15] at s15
 refine aZ Tryz.call64 (gK.r) s15 ?_
 refine aW 2 rfl (bn ?_)
 exact aS tk H rfl
def dy (rA : LRun) (cols : List LCol) (x : Rq) (l : List LExpr) : Option (Rq) :=
 ae (aD (σ := Rq) (ρ := Empty) (fun (_ : Nat) (x1 : LExpr) (s1 : Rq) =>
  br (bw rA cols x) fun x22 =>
  br (cM x22 x1) fun x24 =>
  ae (cy 32 s1 ([x24] : Rq)) fun (x26 : Rq) =>
  some (.next x26)) 0 l []) fun fl1=>fl1.thenP fun (s1 : Rq) =>
 some s1
theorem jN (rA : LRun) (cols : List LCol) (x : Rq) (l : List LExpr) (r : Rq) (H : dy rA cols x l = some r) :
  aL Tryz.prog 67 [(.agg (dL rA)),(.list 53 (cols.map aR)),(.list 48 (x.map af)),(.list 50 (l.map aC))] (.list 48 (r.map af)) := by
 unfold dy at H
 refine PH.ax Tryz.func67 Tryz.ntmps67 ?_
 refine ab (aa (aH ?_))
 refine ah tk rfl (ac (am 1 tk rfl (ab (ab (aa (ah tk rfl (az tk (zl _) ?_)))))))
 refine ah tk rfl (ac (ic tk 9 26 (e := 48) rfl rfl ?_))
 refine fg (γ := OwnRef) tk 14 13 12 (fun s1 g1=>upd (upd (upd (upd (fun _=>.any) 9 (.own 26 g1 (s1.map af).length)) 4 (.ptr (dL rA))) 2 (.list 48 (x.map af))) 1 (.list 53 (cols.map aR))) nB (fun s1 g1=>upd (fun _=>none) 26 (some ⟨g1,48,(s1.map af),true⟩)) (⟨none,0⟩) H (fun fl1 Hp1 j1 s1 g1 hz1 hl1 x1 fb1 hx1 H hg1=>?_) (fun s1 g1 H=>?_)
 ·refine ab (av (ab (aa (aU tk (zn j1) (bl bP hx1) ?_))))
  refine ah tk rfl ?_
  refine aN tk fun b11=>?_
  refine ak tk ?_
  refine ac (bo tk mok ⟨true,false,[19]⟩ [0,1,2,3,5,4,6,7,8,9] rfl (by decide +kernel) rfl (aW 4 rfl (bi ?_)))
  obtain ⟨x22,h22,H⟩ := cL H
  have s22 := kC rA cols x
  rw [h22] at s22
  refine aZ Tryz.call66 (gK.r) s22 ?_
  obtain ⟨x24,h24,H⟩ := cL H
  have s24 := mY x22 x1
  rw [h24] at s24
  refine aZ Tryz.call65 (gK.r) s24 ?_
  refine bt rfl ?_
  obtain ⟨x26,h26,H⟩ := au H
  have k26 := bX h26
  refine ew (rows2' := List.map af ([x24] : Rq)) (rows' := List.map af x26) tk rfl rfl rfl rfl rfl rfl rfl rfl rfl rfl rfl rfl rfl rfl (gP.refl _) (cK k26.1) (cI k26.2.1) (cF k26.2.2) fun g26=>?_
  refine bt rfl (bn (aG (bc 2 tk rfl ?_)))
  exact bg g26 H hl1 hg1
 refine am 2 tk rfl (dZ 8 rfl rfl rfl ?_)
 exact aS tk H rfl
def jG (rA : LRun) (a : LAggregateCall) (cols : List LCol) (l : Rz) : Option (LVal) :=
 cond ((a.args.length : Int) == (0 : Int))
  (br (fQ (l.length : Int)) fun x19 =>
  some x19)
  (ae (aD (σ := Rq) (ρ := Empty) (fun (_ : Nat) (x1 : Rq) (s1 : Rq) =>
   ae (aK a.args 0) fun (x32 : LExpr) =>
   br (bw rA cols x1) fun x29 =>
   br (cM x29 x32) fun x34 =>
   cond (x34.kind != (0 : Int))
    (ae (cy 32 s1 ([x34] : Rq)) fun (x41 : Rq) =>
    some (.next x41))
    (some (.next s1))) 0 l []) fun fl1=>fl1.thenP fun (s1 : Rq) =>
  ae (fG a.function s1) fun x46 =>
  some x46)
theorem rX (rA : LRun) (a : LAggregateCall) (cols : List LCol) (l : Rz) (r : LVal) (H : jG rA a cols l = some r) :
  aL Tryz.prog 92 [(.agg (dL rA)),(.agg (bT a)),(.list 53 (cols.map aR)),(.list 57 (l.map (al 48 af)))] (.agg (af r)) := by
 unfold jG at H
 refine PH.ax Tryz.func92 Tryz.ntmps92 ?_
 refine ab (aa (aH ?_))
 refine aH ?_
 refine aN tk fun b8=>?_
 refine ac (ab (ab (aa (ag 2 tk rfl (az tk (zl _) ?_)))))
 refine ah tk rfl (ac ?_)
 refine aM rfl H (fun H=>?_) (fun H=>?_)
 ·refine ab (aa (ah tk rfl (az tk (zl _) ?_)))
  obtain ⟨x19,h19,H⟩ := cL H
  have s19 := qe (l.length : Int)
  rw [h19] at s19
  refine aj Tryz.call114 (gK.r) s19 ?_
  refine ak tk ?_
  refine ac ?_
  exact qa tk H rfl rfl rfl rfl rfl
 refine ao (am 1 tk rfl (ab (ab (aa (ah tk rfl (az tk (zl _) ?_))))))
 refine ah tk rfl (ac (ic tk 9 41 (e := 48) rfl rfl ?_))
 refine fg (γ := OwnRef) tk 22 21 20 (fun s1 g1=>upd (upd (upd (upd (upd (fun _=>.any) 9 (.own 41 g1 (s1.map af).length)) 8 (.box 8 b8 0)) 5 (.ptr (bT a))) 4 (.ptr (dL rA))) 2 (.list 53 (cols.map aR))) (fun s1 g1=>upd (fun _=>none) 8 (some ⟨b8,[(ai 0),(ai 0),(.str [])]⟩)) (fun s1 g1=>upd (fun _=>none) 41 (some ⟨g1,48,(s1.map af),true⟩)) (⟨none,0⟩) H (fun fl1 Hp1 j1 s1 g1 hz1 hl1 x1 fb1 hx1 H hg1=>?_) (fun s1 g1 H=>?_)
 ·refine ab (av (ab (aa ?_)))
  refine aU tk (zn j1) (bl (fun _=>rfl) hx1) ?_
  refine ag 2 tk rfl (ac (ab (bo tk mok ⟨false,false,[]⟩ [0,1,2,4,5,6,7,3,8,9,10] rfl (by decide +kernel) rfl (aW 5 rfl ?_))))
  obtain ⟨x32,k32,H⟩ := bq H
  refine bK k32.1 (aO bP k32.2) ?_
  refine bt rfl ?_
  obtain ⟨x29,h29,H⟩ := cL H
  have s29 := kC rA cols x1
  rw [h29] at s29
  refine aZ Tryz.call66 (gK.r) s29 ?_
  obtain ⟨x34,h34,H⟩ := cL H
  have s34 := mY x29 x32
  rw [h34] at s34
  refine aZ Tryz.call65 (gK.r) s34 ?_
  refine qd rfl rfl rfl rfl rfl rfl rfl rfl fun b12=>?_
  refine bR ?_
  refine bn (ab (aa (ah tk rfl (aq tk ?_))))
  refine ah tk rfl (ac ?_)
  refine aM rfl H (fun H=>?_) (fun H=>?_)
  ·refine aa (ah tk rfl (aq tk ?_))
   refine cv tk (rows' := List.map af ([x34] : Rq)) (gP.refl _) ?_
   obtain ⟨x41,h41,H⟩ := au H
   have k41 := bX h41
   refine cr (rows2' := List.map af ([x34] : Rq)) (rows' := List.map af x41) tk rfl rfl rfl rfl rfl rfl rfl rfl rfl rfl rfl rfl rfl (gP.refl _) (cK k41.1) (cI k41.2.1) (cF k41.2.2) fun g41=>?_
   refine ah tk rfl (ac (aG (bc 2 tk rfl ?_)))
   exact bg g41 H hl1 hg1
  refine ao (aG (bc 2 tk rfl ?_))
  exact bg g1 H hl1 hg1
 refine ab (dZ 9 rfl rfl rfl (aa (ag 3 tk rfl ?_)))
 obtain ⟨x46,h46,H⟩ := au H
 have s46 := ow a.function s1 _ h46
 refine aj Tryz.call115 (gK.r) s46 ?_
 refine ak tk ?_
 refine ac ?_
 exact qa tk H rfl rfl rfl rfl rfl
def cO (x : Rz) (cmp : Rq → Rq → Option (Int)) : Option (Rz) :=
 ae (dX x (x.length : Int) cmp) fun x8 =>
 ae (fe (x8.length = x.length) ()) fun (_ : Unit) =>
 some x8
theorem kh (g_x : OwnRef) {g_cmp : FuncId} {caps_cmp : List PV} (x : Rz) (cmp : Rq → Rq → Option (Int)) (hg_cmp : ∀ (vs : Array Value) (w : World),(callFunc g_cmp vs).run Tryz.prog w = .ok (.enter g_cmp vs) w) (hp_cmp : ∀ a0 a1 r,cmp a0 a1 = some r → aL Tryz.prog g_cmp ((.list 48 (a0.map af)) :: (.list 48 (a1.map af)) :: caps_cmp) (ai r)) (r : Rz) (H : cO x cmp = some r) :
  PH Tryz.prog 93 [(.own 0 g_x (x.map (al 48 af)).length),(.fn g_cmp caps_cmp)] ⟨fun _=>none,upd (fun _=>none) 0 (some ⟨g_x,57,(x.map (al 48 af)),true⟩)⟩ (fun u H=>u = (.tup []) ∧ H = ⟨fun _=>none,upd (fun _=>none) 0 (some ⟨g_x,57,(r.map (al 48 af)),true⟩)⟩) := by
 unfold cO at H
 refine PH.ax Tryz.func93 Tryz.ntmps93 ?_
 refine aa (ag 2 tk rfl (el tk (zl _) ?_))
 refine ah tk rfl ?_
 obtain ⟨x8,h8,H⟩ := au H
 have s8 := mq g_x x (x.length : Int) cmp hg_cmp hp_cmp _ h8
 obtain ⟨_,q8_0,H⟩ := au H
 have l8_0 := (dH q8_0).1
 have z8_0 : (List.map (al 48 af) x).length = (List.map (al 48 af) x8).length := by simpa using (l8_0).symm
 refine dD (g := 116) rfl rfl rfl Tryz.call116 [] [(0,0)] rfl rfl rfl rfl (gK.of2 (iz.cons (lA.own rfl) (iz.cons (lA.of_eq rfl) (iz.cons (lA.of_eq rfl) iz.nil)))) (by rw [cX,cl,cZ]; rfl) s8 ?_
 rintro u8 H8h ⟨rfl,rfl⟩
 refine ⟨_,rfl,?_⟩
 refine dB (st' := ⟨_,_,fun _=>none,upd (fun _=>none) 0 (some ⟨g_x,57,(x8.map (al 48 af)),true⟩)⟩) (Gh.le (cA _ _) aI (aP aJ)) ?_
 refine ac ?_
 obtain rfl := aA H
 refine eh (st' := ⟨9,fun _=>.any,fun _=>none,upd (fun _=>none) 0 (some ⟨g_x,57,(x8.map (al 48 af)),true⟩)⟩) (Gh.le aT aI (aP aJ)) ?_
 refine mh rfl (PLe.q rfl) ⟨rfl,rfl⟩
def eN (sA : LSchema) (c : LConstraint) : Option (Int) :=
 ae (fF sA c.table) fun x14 =>
 cond (!x14.2)
  (some 4)
  (ae (aK sA.tables x14.1) fun (x22 : LTable) =>
  br (gT (LVal.mk 0 0 []) c.op (LVal.mk 0 0 [])) fun x30 =>
  br (
   cond (decide (c.left < (0 : Int)))
    (true)
    (cond (decide (c.left ≥ (x22.columns.length : Int)))
     (true)
     (cond (x30.2 != (0 : Int))
      (true)
      (cond (decide (c.right < (-1)))
       (true)
       (cond (decide (c.right ≥ (x22.columns.length : Int)))
        (true)
        (cond (decide (c.right ≥ (0 : Int)))
         ((!(c.value.kind == (0 : Int) && (c.value.int == (0 : Int) && (c.value.text == ([] : List UInt8) && true)))))
         (false))))))) fun (t1 : Bool) =>
  cond t1
   (some 3)
   (cond (decide (c.right ≥ (0 : Int)))
    (ae (aK x22.columns c.left) fun (x76 : LCol) =>
    ae (aK x22.columns c.right) fun (x82 : LCol) =>
    cond (x76.kind != x82.kind)
     (some 7)
     (some 0))
    (ae (aK x22.columns c.left) fun (x92 : LCol) =>
    cond (c.value.kind != x92.kind)
     (some 7)
     (br (dv c.value) fun x98 =>
     some x98))))
theorem nh (sA : LSchema) (c : LConstraint) (r : Int) (H : eN sA c = some r) :
  aL Tryz.prog 47 [(.agg (bG sA)),(.agg (kB c))] (ai r) := by
 unfold eN at H
 refine PH.ax Tryz.func47 Tryz.ntmps47 ?_
 refine ab (aa (aH ?_))
 refine aH ?_
 refine ah tk rfl (ac (ab (aa (ag 3 tk rfl ?_))))
 obtain ⟨x14,h14,H⟩ := au H
 have s14 := kJ sA c.table _ h14
 refine aj Tryz.call72 (gK.r) s14 ?_
 refine ag 5 tk rfl (ac (ab (am 2 tk rfl ?_)))
 refine aM rfl H (fun H=>?_) (fun H=>?_)
 ·refine am 1 tk rfl ?_
  exact aS tk H rfl
 refine ao (ab (aa (ag 3 tk rfl ?_)))
 obtain ⟨x22,k22,H⟩ := bq H
 refine aU tk k22.1 (aO (fun _=>rfl) k22.2) ?_
 refine ag 3 tk rfl (ac (ab (aa (ag 4 tk rfl ?_))))
 obtain ⟨x30,h30,H⟩ := cL H
 have s30 := rj (LVal.mk 0 0 []) c.op (LVal.mk 0 0 [])
 rw [h30] at s30
 refine aj Tryz.call75 (gK.r) s30 ?_
 refine ag 5 tk rfl (ac (ab (ab ?_)))
 refine gF (γ := Unit) (fun t1 g1=>⟨99,upd (upd (upd (fun _=>.any) 69 (ay t1)) 7 (.list 53 (x22.columns.map aR))) 3 (.ptr (kB c)),fun _=>none,fun _=>none⟩) H (fun _ H=>?_) (fun t1 g1 H=>?_)
 ·refine aa (ag 4 tk rfl ?_)
  refine aV rfl rfl rfl H (fun H=>?_) (fun H=>?_)
  ·refine ag 33 tk rfl (ac ?_)
   refine be _ () H Gh.d
  refine ag 3 tk rfl (az tk (zl _) ?_)
  refine ag 3 tk rfl ?_
  refine aV rfl rfl rfl H (fun H=>?_) (fun H=>?_)
  ·refine ag 26 tk rfl (ac ?_)
   refine be _ () H Gh.d
  refine ag 4 tk rfl ?_
  refine aV rfl rfl rfl H (fun H=>?_) (fun H=>?_)
  ·refine ag 22 tk rfl (ac ?_)
   refine be _ () H Gh.d
  refine ag 5 tk rfl ?_
  refine aV rfl rfl rfl H (fun H=>?_) (fun H=>?_)
  ·refine ag 17 tk rfl (ac ?_)
   refine be _ () H Gh.d
  refine ag 3 tk rfl (az tk (zl _) ?_)
  refine ag 3 tk rfl ?_
  refine aV rfl rfl rfl H (fun H=>?_) (fun H=>?_)
  ·refine ag 10 tk rfl (ac ?_)
   refine be _ () H Gh.d
  refine ag 4 tk rfl ?_
  refine aV rfl rfl rfl H (fun H=>?_) (fun H=>?_)
  ·refine ag 6 tk rfl (ac ?_)
   refine be _ () H Gh.d
  refine ag 6 tk rfl (ac ?_)
  refine be _ () H Gh.d
 refine aM rfl H (fun H=>?_) (fun H=>?_)
 ·refine am 1 tk rfl ?_
  exact aS tk H rfl
 refine ao (ab (am 3 tk rfl ?_))
 refine aM rfl H (fun H=>?_) (fun H=>?_)
 ·refine ab (ab (bo tk mok ⟨false,false,[]⟩ [0,1,2,3,4,5,6,7,8,9,10,11,12] rfl (by decide +kernel) rfl (aW 3 rfl ?_)))
  obtain ⟨x76,k76,H⟩ := bq H
  refine bK k76.1 (aO (fun _=>rfl) k76.2) ?_
  refine aW 5 rfl ?_
  obtain ⟨x82,k82,H⟩ := bq H
  refine bK k82.1 (aO (fun _=>rfl) k82.2) ?_
  refine aW 3 rfl (bn ?_)
  refine aM rfl H (fun H=>?_) (fun H=>?_)
  ·refine am 1 tk rfl ?_
   exact aS tk H rfl
  refine ao (am 1 tk rfl ?_)
  exact aS tk H rfl
 refine ao (ab (ab (bo tk mok ⟨false,false,[]⟩ [0,1,2,3,4,5,6,7,8,9] rfl (by decide +kernel) rfl (aW 6 rfl ?_))))
 obtain ⟨x92,k92,H⟩ := bq H
 refine bK k92.1 (aO (fun _=>rfl) k92.2) ?_
 refine aW 3 rfl (bn ?_)
 refine aM rfl H (fun H=>?_) (fun H=>?_)
 ·refine am 1 tk rfl ?_
  exact aS tk H rfl
 refine ao (ab (aa (ag 2 tk rfl ?_)))
 obtain ⟨x98,h98,H⟩ := cL H
 have s98 := od c.value
 rw [h98] at s98
 refine aj Tryz.call49 (gK.r) s98 ?_
 refine ah tk rfl (ac ?_)
 exact aS tk H rfl
end
end Go.Proofs.YtioonpnnfepffaaGreat
