/- queryParametersAreConstantsUpto_holds, part 4: the layer, the plain functions and what they compute; conditions as in the statement. -/
import Derived.Test.YtlddibnpcmlobaaGreatQpc
set_option maxHeartbeats 4000000
namespace Go.Proofs.YtlddibnpcmlobaaGreat
noncomputable section
open Go Go.Ab
attribute [local irreducible] V Ao Do Gh Eff PH IntKind.wrap
set_option maxRecDepth 4000
def cG (sA : List LCol) (f : LCol → Option (Bool)) : Option (Int) :=
 ah (aM (σ := Unit) (ρ := (Int)) (fun (j1 : Nat) (x1 : LCol) (_ : Unit) =>
  ah (f x1) fun x16 =>
  cond x16
   (some (.ret (j1 : Int)))
   (some (.next ()))) 0 sA ()) fun fl1=>fl1.thenR fun (_ : Unit) =>
 some (-1)
theorem gJ {g_f : FuncId} {caps_f : List PV} (sA : List LCol) (f : LCol → Option (Bool)) (hg_f : ∀ (vs : Array Value) (w : World),(callFunc g_f vs).run Tryz.prog w = .ok (.enter g_f vs) w) (hp_f : ∀ a0 r,f a0 = some r → aT Tryz.prog g_f ((.agg (aW a0)) :: caps_f) (aL r)) (r : Int) (H : cG sA f = some r) :
  aT Tryz.prog 82 [(.list 49 (sA.map aW)),(.fn g_f caps_f)] (al r) := by
 unfold cG at H
 refine PH.ax Tryz.func82 Tryz.ntmps82 ?_
 refine av 1 tk rfl (ab (ab (aa (ak tk rfl (aG tk (zl _) ?_)))))
 refine ak tk rfl (ac ?_)
 refine fC tk 8 7 0 (fun s1 g1=>upd (fun _=>.any) 1 (.fn g_f caps_f)) nB nO () H (fun fl1 Hp1 j1 s1 g1 hz1 hl1 x1 fb1 hx1 H hg1=>?_) (fun s1 g1 H=>?_)
 ·refine ab (ap (av 2 tk rfl (ab (aa (aj 3 tk rfl ?_)))))
  refine bd tk (zn j1) (bD (fun _=>rfl) hx1) ?_
  refine ak tk rfl ?_
  obtain ⟨x16,h16,H⟩ := aE H
  refine ae hg_f (fu.r) (hp_f _ _ h16) ?_
  refine ac ?_
  refine aN rfl H (fun H=>?_) (fun H=>?_)
  ·refine av 2 tk rfl ?_
   obtain rfl := aI H
   have e1 : fl1 = .ret _ := hg1
   subst e1
   obtain rfl := bi Hp1
   refine bw tk rfl (ps := [(al (j1 : Int))]) ⟨_,_,rfl,rfl,rfl⟩ (PLe.q rfl)
  refine ao (aw (bm 2 tk rfl ?_))
  exact bG () H hl1 hg1
 refine av 1 tk rfl ?_
 exact bu tk H rfl
def dA (sA : List (List UInt8)) (v : List UInt8) : Option (Int) :=
 ah (aM (σ := Unit) (ρ := (Int)) (fun (j1 : Nat) (x1 : List UInt8) (_ : Unit) =>
  cond (v == x1)
   (some (.ret (j1 : Int)))
   (some (.next ()))) 0 sA ()) fun fl1=>fl1.thenR fun (_ : Unit) =>
 some (-1)
theorem jC (sA : List (List UInt8)) (v : List UInt8) (r : Int) (H : dA sA v = some r) :
  aT Tryz.prog 48 [(.list 9 (sA.map gn)),(.str v)] (al r) := by
 unfold dA at H
 refine PH.ax Tryz.func48 Tryz.ntmps48 ?_
 refine av 1 tk rfl (ab (ab (aa (ak tk rfl (aG tk (zl _) ?_)))))
 refine ak tk rfl (ac ?_)
 refine fC tk 8 7 0 (fun s1 g1=>upd (fun _=>.any) 1 (.str v)) nB nO () H (fun fl1 Hp1 j1 s1 g1 hz1 hl1 x1 fb1 hx1 H hg1=>?_) (fun s1 g1 H=>?_)
 ·refine ab (ap (av 2 tk rfl (ab (aa (aj 3 tk rfl ?_)))))
  refine bd tk (zn j1) (bD (fun _=>rfl) hx1) ?_
  refine aj 2 tk rfl (ac ?_)
  refine aN rfl H (fun H=>?_) (fun H=>?_)
  ·refine av 2 tk rfl ?_
   obtain rfl := aI H
   have e1 : fl1 = .ret _ := hg1
   subst e1
   obtain rfl := bi Hp1
   refine bw tk rfl (ps := [(al (j1 : Int))]) ⟨_,_,rfl,rfl,rfl⟩ (PLe.q rfl)
  refine ao (aw (bm 2 tk rfl ?_))
  exact bG () H hl1 hg1
 refine av 1 tk rfl ?_
 exact bu tk H rfl
def cj (y : LCol) (c0 : LCol) : Bool :=
 (y.name == c0.name)
theorem nr (y : LCol) (c0 : LCol) :
  aT Tryz.prog 76 [(.agg (aW y)),(.ptr (aW c0))] (aL (cj y c0)) := by
 obtain ⟨r,H⟩ : ∃ r,cj y c0 = r := ⟨_,rfl⟩
 rw [H]
 unfold cj at H
 refine PH.ax Tryz.func76 Tryz.ntmps76 ?_
 refine ab (aa (au ?_))
 refine ak tk rfl (ac (av 6 tk rfl ?_))
 exact el tk H rfl
def dv (v : LVal) : Int :=
 cond (v.kind == (0 : Int))
  (cond (v.int != (0 : Int))
   (3)
   (cond (!(v.text == ([] : List UInt8)))
    (3)
    (0)))
  (bH (
   cond (v.kind == (1 : Int))
    ((v.kind == (1 : Int)))
    ((v.kind == (2 : Int)))) fun (t1 : Bool) =>
  cond t1
   (cond (!(v.text == ([] : List UInt8)))
    (3)
    (cond (v.kind == (2 : Int))
     (cond (v.int != (0 : Int))
      (cond (v.int != (1 : Int))
       (1)
       (cond (decide (v.int < (-1000000000000)))
        (1)
        (cond (decide (v.int > (1000000000000 : Int)))
         (1)
         (0))))
      (cond (decide (v.int < (-1000000000000)))
       (1)
       (cond (decide (v.int > (1000000000000 : Int)))
        (1)
        (0))))
     (cond (decide (v.int < (-1000000000000)))
      (1)
      (cond (decide (v.int > (1000000000000 : Int)))
       (1)
       (0)))))
   (cond (v.kind == (3 : Int))
    (cond (v.int != (0 : Int))
     (3)
     (cond (decide ((v.text.length : Int) > (24 : Int)))
      (2)
      (0)))
    (7)))
theorem nH (v : LVal) :
  aT Tryz.prog 43 [(.agg (af v))] (al (dv v)) := by
 obtain ⟨r,H⟩ : ∃ r,dv v = r := ⟨_,rfl⟩
 rw [H]
 unfold dv at H
 refine PH.ax Tryz.func43 Tryz.ntmps43 ?_
 refine ab (aa (au ?_))
 refine ak tk rfl (ac (ab (av 2 tk rfl (ap (av 2 tk rfl ?_)))))
 refine aN rfl H (fun H=>?_) (fun H=>?_)
 ·refine ab (aa (aj 4 tk rfl ?_))
  refine bF rfl rfl rfl H (fun H=>?_) (fun H=>?_)
  ·refine aj 4 tk rfl (ac (aC rfl (av 1 tk rfl ?_)))
   exact el tk H rfl
  refine aj 4 tk rfl (ac ?_)
  refine aN rfl H (fun H=>?_) (fun H=>?_)
  ·refine av 1 tk rfl ?_
   exact el tk H rfl
  refine ao (aw (av 1 tk rfl ?_))
  exact el tk H rfl
 refine ab (av 2 tk rfl ?_)
 refine gw (γ := Unit) (fun t1 g1=>⟨53,upd (upd (upd (fun _=>.any) 15 (aL t1)) 4 (al v.kind)) 1 (.ptr (af v)),fun _=>none,fun _=>none⟩) H (fun _ H=>?_) (fun t1 g1 H=>?_)
 ·refine aN rfl H (fun H=>?_) (fun H=>?_)
  ·refine ao ?_
   refine bp _ () H Gh.d
  refine bm 2 tk rfl ?_
  refine bp _ () H Gh.d
 refine aN rfl H (fun H=>?_) (fun H=>?_)
 ·refine ab (av 3 tk rfl ?_)
  refine aN rfl H (fun H=>?_) (fun H=>?_)
  ·refine av 1 tk rfl ?_
   exact el tk H rfl
  refine ao (ab (aa (aj 4 tk rfl ?_)))
  refine bF rfl rfl rfl H (fun H=>?_) (fun H=>?_)
  ·refine aj 5 tk rfl ?_
   refine bF rfl rfl rfl H (fun H=>?_) (fun H=>?_)
   ·refine aj 5 tk rfl ?_
    refine bF rfl rfl rfl H (fun H=>?_) (fun H=>?_)
    ·refine aj 9 tk rfl (ac (aC rfl (av 1 tk rfl ?_)))
     exact el tk H rfl
    refine aj 5 tk rfl ?_
    refine bF rfl rfl rfl H (fun H=>?_) (fun H=>?_)
    ·refine aj 4 tk rfl (ac (aC rfl (av 1 tk rfl ?_)))
     exact el tk H rfl
    refine aj 4 tk rfl (ac ?_)
    refine aN rfl H (fun H=>?_) (fun H=>?_)
    ·refine av 1 tk rfl ?_
     exact el tk H rfl
    refine ao (aw (av 1 tk rfl ?_))
    exact el tk H rfl
   refine aj 10 tk rfl ?_
   refine bF rfl rfl rfl H (fun H=>?_) (fun H=>?_)
   ·refine aj 4 tk rfl (ac (aC rfl (av 1 tk rfl ?_)))
    exact el tk H rfl
   refine aj 4 tk rfl (ac ?_)
   refine aN rfl H (fun H=>?_) (fun H=>?_)
   ·refine av 1 tk rfl ?_
    exact el tk H rfl
   refine ao (aw (av 1 tk rfl ?_))
   exact el tk H rfl
  refine aj 15 tk rfl ?_
  refine bF rfl rfl rfl H (fun H=>?_) (fun H=>?_)
  ·refine aj 4 tk rfl (ac (aC rfl (av 1 tk rfl ?_)))
   exact el tk H rfl
  refine aj 4 tk rfl (ac ?_)
  refine aN rfl H (fun H=>?_) (fun H=>?_)
  ·refine av 1 tk rfl ?_
   exact el tk H rfl
  refine ao (aw (av 1 tk rfl ?_))
  exact el tk H rfl
 refine av 2 tk rfl ?_
 refine aN rfl H (fun H=>?_) (fun H=>?_)
 ·refine ab (av 3 tk rfl ?_)
  refine aN rfl H (fun H=>?_) (fun H=>?_)
  ·refine av 1 tk rfl ?_
   exact el tk H rfl
  refine ao (av 4 tk rfl ?_)
  refine aN rfl H (fun H=>?_) (fun H=>?_)
  ·refine av 1 tk rfl ?_
   exact el tk H rfl
  refine ao (aw (av 1 tk rfl ?_))
  exact el tk H rfl
 refine av 1 tk rfl ?_
 exact el tk H rfl
def dp (t : LTable) (row : Rq) : Option (Rq) :=
 ah (aM (σ := Rq) (ρ := Empty) (fun (_ : Nat) (x1 : Int) (s1 : Rq) =>
  bH (
   cond (decide (x1 ≥ (0 : Int)))
    ((decide (x1 < (row.length : Int))))
    (false)) fun (t6 : Bool) =>
  ah (
   cond t6
    (ah (aO row x1) fun (x27 : LVal) =>
    some x27)
    (some (LVal.mk 0 0 []))) fun (t7 : LVal) =>
  ah (dL 32 s1 ([t7] : Rq)) fun (x32 : Rq) =>
  some (.next x32)) 0 t.primaryKey []) fun fl1=>fl1.thenP fun (s1 : Rq) =>
 some s1
theorem pG (t : LTable) (row : Rq) (r : Rq) (H : dp t row = some r) :
  aT Tryz.prog 28 [(.agg (cL t)),(.list 54 (row.map af))] (.list 54 (r.map af)) := by
 unfold dp at H
 refine PH.ax Tryz.func28 Tryz.ntmps28 ?_
 refine ab (aa (au ?_))
 refine ak tk rfl (ac (av 1 tk rfl (ab (ab (aa (aj 2 tk rfl (aG tk (zl _) ?_)))))))
 refine ak tk rfl (ac (hX tk 5 32 (e := 54) rfl rfl ?_))
 refine iv (γ := OwnRef) tk 12 11 10 (fun s1 g1=>upd (upd (fun _=>.any) 5 (.own 32 g1 (s1.map af).length)) 1 (.list 54 (row.map af))) nB (fun s1 g1=>upd (fun _=>none) 32 (some ⟨g1,54,(s1.map af),true⟩)) (⟨none,0⟩) H (fun fl1 Hp1 j1 s1 g1 hz1 hl1 x1 fb1 hx1 H hg1=>?_) (fun s1 g1 H=>?_)
 ·refine ab (ap (ab (aa ?_)))
  refine bd tk (zn j1) (bD (fun _=>rfl) hx1) ?_
  refine aj 2 tk rfl (ac (ab (aa (ak tk rfl ?_))))
  refine aY tk fun b8=>?_
  refine ag tk ?_
  refine ac (ab (ab ?_))
  refine gw (γ := Unit) (fun t6 g6=>⟨35,upd (upd (upd (upd (upd (upd (upd (upd (fun _=>.any) 24 (aL t6)) 12 (al (j1 : Int))) 11 (al (t.primaryKey.length : Int))) 10 (.list 3 (t.primaryKey.map bV))) 8 (.box 8 b8 0)) 7 (al x1)) 5 (.own 32 g1 (s1.map af).length)) 1 (.list 54 (row.map af)),upd (fun _=>none) 8 (some ⟨b8,[(al 0),(al 0),(.str [])]⟩),upd (fun _=>none) 32 (some ⟨g1,54,(s1.map af),true⟩)⟩) H (fun _ H=>?_) (fun t6 g6 H=>?_)
  ·refine aa (aj 3 tk rfl ?_)
   refine bF rfl rfl rfl H (fun H=>?_) (fun H=>?_)
   ·refine aj 2 tk rfl (aG tk (zl _) ?_)
    refine aj 2 tk rfl (ac ?_)
    refine bp _ () H Gh.d
   refine aj 5 tk rfl (ac ?_)
   refine bp _ () H Gh.d
  refine gS (γ := Unit) (fun t7 g7=>⟨35,upd (upd (upd (upd (upd (upd (fun _=>.any) 12 (al (j1 : Int))) 11 (al (t.primaryKey.length : Int))) 10 (.list 3 (t.primaryKey.map bV))) 8 (.box 8 b8 0)) 5 (.own 32 g1 (s1.map af).length)) 1 (.list 54 (row.map af)),upd (fun _=>none) 8 (some ⟨b8,(af t7)⟩),upd (fun _=>none) 32 (some ⟨g1,54,(s1.map af),true⟩)⟩) H (fun _ H=>?_) (fun t7 g7 H=>?_)
  ·refine aN rfl H (fun H=>?_) (fun H=>?_)
   ·refine aa (aj 2 tk rfl ?_)
    obtain ⟨x27,k27,H⟩ := bL H
    refine bd tk k27.1 (aX (fun _=>rfl) k27.2) ?_
    refine ak tk rfl (ag tk ?_)
    refine ac ?_
    refine bp _ () (aI H) Gh.d
   refine ao ?_
   refine bp _ () (aI H) Gh.d
  refine aa (ak tk rfl (ai tk ?_))
  refine cz tk (rows' := List.map af ([t7] : Rq)) (je.refl _) ?_
  obtain ⟨x32,h32,H⟩ := aE H
  have k32 := cV h32
  refine cy (rows2' := List.map af ([t7] : Rq)) (rows' := List.map af x32) tk rfl rfl rfl rfl rfl rfl rfl rfl rfl rfl rfl rfl rfl (je.refl _) (eu k32.1) (er k32.2.1) (eB k32.2.2) fun g32=>?_
  refine ak tk rfl (ac (aw (bm 2 tk rfl ?_)))
  exact bG g32 H hl1 hg1
 refine av 2 tk rfl (eo 4 rfl rfl rfl ?_)
 exact bu tk H rfl
def fY (a : Int) (b : Int) : Int :=
 cond (decide (a < b))
  ((-1))
  (cond (decide (a > b))
   (1)
   (0))
theorem km (a : Int) (b : Int) :
  aT Tryz.prog 45 [(al a),(al b)] (al (fY a b)) := by
 obtain ⟨r,H⟩ : ∃ r,fY a b = r := ⟨_,rfl⟩
 rw [H]
 unfold fY at H
 refine PH.ax Tryz.func45 Tryz.ntmps45 ?_
 refine av 1 tk rfl (ab (ap (av 4 tk rfl ?_)))
 refine aN rfl H (fun H=>?_) (fun H=>?_)
 ·refine av 1 tk rfl ?_
  exact el tk H rfl
 refine av 4 tk rfl ?_
 refine aN rfl H (fun H=>?_) (fun H=>?_)
 ·refine av 1 tk rfl ?_
  exact el tk H rfl
 refine ao (aw (av 1 tk rfl ?_))
 exact el tk H rfl
def eR (a : List UInt8) (b : List UInt8) : Int :=
 (Lib.compareBytes a b)
theorem lu (a : List UInt8) (b : List UInt8) :
  aT Tryz.prog 93 [(.str a),(.str b)] (al (eR a b)) := by
 obtain ⟨r,H⟩ : ∃ r,eR a b = r := ⟨_,rfl⟩
 rw [H]
 unfold eR at H
 refine PH.ax Tryz.func93 Tryz.ntmps93 ?_
 refine av 1 tk rfl (ab (aa (aj 2 tk rfl ?_)))
 refine Ao.cmpS (g := 112) rfl rfl rfl Tryz.func112 (by kernel_rfl) (by kernel_rfl) (by kernel_rfl) (by kernel_rfl) rfl rfl rfl ?_
 refine ak tk rfl (ac ?_)
 exact el tk H rfl
theorem grow_101 {m : Nat} {u : Unit} (n : Int) (h : oD 32 n = some u) : fE Tryz.prog 101 [.val (.slice none 0 0),al n] (kW m 54 []) := by
 have hn := growI_some h
 have hw : IntKind.i64.wrap (n - IntKind.i64.wrap ((0 : Int) - 0)) = n := by
  have e0 : IntKind.i64.wrap ((0 : Int) - 0) = 0 := bJ (by omega) (by omega)
  rw [e0,Int.sub_zero,bJ (by omega) (by unfold maxLen at hn; omega)]
 refine PH.ax Tryz.func101 Tryz.ntmps101 ?_
 refine av 1 tk rfl (ab (av 2 tk rfl ?_))
 refine aQ rfl (fun h=>?_) (fun h=>?_)
 ·exfalso; have := of_decide_eq_true h; omega
 refine ao (ab (ab (aa (aj 2 tk rfl (sS tk rfl rfl rfl rfl rfl rfl (aj 4 tk rfl (lC 14 (q := al n) rfl (PLe.q (congrArg al hw)) (ak tk rfl (ac (av 2 tk rfl ?_))))))))))
 refine aQ rfl (fun h=>?_) (fun h=>?_)
 ·refine aa (aj 2 tk rfl (sS tk rfl rfl rfl rfl rfl rfl (Ao.subN tk rfl rfl rfl rfl rfl rfl rfl rfl (ak tk rfl ?_))))
  refine sG tk rfl rfl rfl rfl rfl rfl rfl rfl rfl rfl rfl rfl rfl rfl rfl (of_decide_eq_true h) hn.2.1 hn.2.2 fun g=>?_
  refine aj 2 tk rfl (Ao.cutO tk rfl rfl rfl rfl rfl rfl rfl rfl rfl ⟨Int.le_refl 0,Nat.zero_le _⟩ rfl rfl rfl (ak tk rfl (ac (av 2 tk rfl ?_))))
  refine iA tk rfl
 ·refine ao (av 2 tk rfl (hX tk 4 904 (e := 54) rfl rfl ?_))
  refine iA tk rfl
def bn (rA : LRun) (cols : List LCol) (row : Rq) : LEnv :=
 (LEnv.mk cols row rA.args rA.names rA.vals)
theorem kp (rA : LRun) (cols : List LCol) (row : Rq) :
  aT Tryz.prog 60 [(.agg (dJ rA)),(.list 49 (cols.map aW)),(.list 54 (row.map af))] (.agg (encEnv (bn rA cols row))) := by
 obtain ⟨r,H⟩ : ∃ r,bn rA cols row = r := ⟨_,rfl⟩
 rw [H]
 unfold bn at H
 refine PH.ax Tryz.func60 Tryz.ntmps60 ?_
 refine ab (aa (au ?_))
 refine aY tk fun b6=>?_
 refine ac (ab (aa (aj 9 tk rfl (ag tk ?_))))
 refine ac ?_
 exact sz tk H rfl rfl rfl rfl rfl
def gX (sA : Rq) (f : LVal → Option (Bool)) : Option (Int) :=
 ah (aM (σ := Unit) (ρ := (Int)) (fun (j1 : Nat) (x1 : LVal) (_ : Unit) =>
  ah (f x1) fun x16 =>
  cond x16
   (some (.ret (j1 : Int)))
   (some (.next ()))) 0 sA ()) fun fl1=>fl1.thenR fun (_ : Unit) =>
 some (-1)
theorem qv {g_f : FuncId} {caps_f : List PV} (sA : Rq) (f : LVal → Option (Bool)) (hg_f : ∀ (vs : Array Value) (w : World),(callFunc g_f vs).run Tryz.prog w = .ok (.enter g_f vs) w) (hp_f : ∀ a0 r,f a0 = some r → aT Tryz.prog g_f ((.agg (af a0)) :: caps_f) (aL r)) (r : Int) (H : gX sA f = some r) :
  aT Tryz.prog 119 [(.list 54 (sA.map af)),(.fn g_f caps_f)] (al r) := by
 unfold gX at H
 refine PH.ax Tryz.func119 Tryz.ntmps119 ?_
 refine av 1 tk rfl (ab (ab (aa (ak tk rfl (aG tk (zl _) ?_)))))
 refine ak tk rfl (ac ?_)
 refine fC tk 8 7 0 (fun s1 g1=>upd (fun _=>.any) 1 (.fn g_f caps_f)) nB nO () H (fun fl1 Hp1 j1 s1 g1 hz1 hl1 x1 fb1 hx1 H hg1=>?_) (fun s1 g1 H=>?_)
 ·refine ab (ap (av 2 tk rfl (ab (aa (aj 3 tk rfl ?_)))))
  refine bd tk (zn j1) (bD (fun _=>rfl) hx1) ?_
  refine ak tk rfl ?_
  obtain ⟨x16,h16,H⟩ := aE H
  refine ae hg_f (fu.r) (hp_f _ _ h16) ?_
  refine ac ?_
  refine aN rfl H (fun H=>?_) (fun H=>?_)
  ·refine av 2 tk rfl ?_
   obtain rfl := aI H
   have e1 : fl1 = .ret _ := hg1
   subst e1
   obtain rfl := bi Hp1
   refine bw tk rfl (ps := [(al (j1 : Int))]) ⟨_,_,rfl,rfl,rfl⟩ (PLe.q rfl)
  refine ao (aw (bm 2 tk rfl ?_))
  exact bG () H hl1 hg1
 refine av 1 tk rfl ?_
 exact bu tk H rfl
def fN (n : Int) : LVal :=
 cond (decide (n < (-1000000000000)))
  ((LVal.mk 0 0 []))
  (cond (decide (n > (1000000000000 : Int)))
   ((LVal.mk 0 0 []))
   ((LVal.mk 1 n [])))
theorem pN (n : Int) :
  aT Tryz.prog 108 [(al n)] (.agg (af (fN n))) := by
 obtain ⟨r,H⟩ : ∃ r,fN n = r := ⟨_,rfl⟩
 rw [H]
 unfold fN at H
 refine PH.ax Tryz.func108 Tryz.ntmps108 ?_
 refine ab (aa ?_)
 refine aY tk fun b2=>?_
 refine ac (ab (ab (aa (aj 3 tk rfl ?_))))
 refine bF rfl rfl rfl H (fun H=>?_) (fun H=>?_)
 ·refine aj 3 tk rfl (ac (aC rfl (ab (aa (ak tk rfl (ag tk ?_))))))
  refine ac ?_
  exact sz tk H rfl rfl rfl rfl rfl
 refine aj 3 tk rfl (ac ?_)
 refine aN rfl H (fun H=>?_) (fun H=>?_)
 ·refine ab (aa (ak tk rfl (ag tk ?_)))
  refine ac ?_
  exact sz tk H rfl rfl rfl rfl rfl
 refine ao (ab (aa (aj 2 tk rfl (ag tk ?_))))
 refine ac ?_
 exact sz tk H rfl rfl rfl rfl rfl
theorem pL {m : Nat} (xs : Rz) : fE Tryz.prog 53 [.list 55 (xs.map (aq 54 af))] (kW m 55 (xs.map (aq 54 af))) := by
 refine PH.ax Tryz.func53 Tryz.ntmps53 ?_
 refine eV tk 0 rfl rfl (fun hz hb=>?_)
 refine av 1 tk rfl (ab (ab (aa (ak tk rfl ?_))))
 refine nK tk rfl rfl rfl rfl rfl rfl rfl (fun b hn=>?_)
 refine ac ?_
 refine aQ rfl (fun h=>?_) (fun h=>?_)
 ·refine av 1 tk rfl (hX tk 2 902 (e := 55) rfl rfl ?_)
  refine iA tk (hn h).symm
 ·refine ao (ab (aa ?_))
  refine mu (rows' := []) tk rfl rfl rfl rfl rfl rfl rfl rfl rfl (iB.refl _) fun g=>?_
  refine ak tk rfl ?_
  refine cy (rows2' := xs.map (aq 54 af)) (rows' := xs.map (aq 54 af)) tk rfl rfl rfl rfl rfl rfl rfl rfl rfl rfl rfl rfl rfl (je.refl _) (by simpa using hb) (by simpa using hz) rfl fun g'=>?_
  refine ak tk rfl (ac ?_)
  refine iA tk rfl
def cB (s1A : Rq) (s2A : Rq) : Option (Bool) :=
 cond ((s1A.length : Int) != (s2A.length : Int))
  (some false)
  (ah (aM (σ := Unit) (ρ := (Bool)) (fun (j1 : Nat) (x1 : LVal) (_ : Unit) =>
   ah (aO s2A (j1 : Int)) fun (x22 : LVal) =>
   cond (!(x1.kind == x22.kind && (x1.int == x22.int && (x1.text == x22.text && true))))
    (some (.ret false))
    (some (.next ()))) 0 s1A ()) fun fl1=>fl1.thenR fun (_ : Unit) =>
  some true)
theorem gp (s1A : Rq) (s2A : Rq) (r : Bool) (H : cB s1A s2A = some r) :
  aT Tryz.prog 21 [(.list 54 (s1A.map af)),(.list 54 (s2A.map af))] (aL r) := by
 unfold cB at H
 refine PH.ax Tryz.func21 Tryz.ntmps21 ?_
 refine av 1 tk rfl (ab (ab (aa (ak tk rfl (aG tk (zl _) ?_)))))
 refine ak tk rfl (aG tk (zl _) ?_)
 refine ak tk rfl (ac ?_)
 refine aN rfl H (fun H=>?_) (fun H=>?_)
 ·refine av 1 tk rfl ?_
  exact bu tk H rfl
 refine ao (ab (ab (aa (ak tk rfl (aG tk (zl _) ?_)))))
 refine ak tk rfl (ac ?_)
 refine fC tk 13 12 0 (fun s1 g1=>upd (fun _=>.any) 1 (.list 54 (s2A.map af))) nB nO () H (fun fl1 Hp1 j1 s1 g1 hz1 hl1 x1 fb1 hx1 H hg1=>?_) (fun s1 g1 H=>?_)
 ·refine ab (ap (av 2 tk rfl (ab (aJ tk mok ⟨false,false,[]⟩ [0,1,2,3,4,5,6,7,8] rfl (by decide +kernel) rfl (bc 2 rfl ?_)))))
  refine bT (zn j1) (bD (fun _=>rfl) hx1) ?_
  refine bc 3 rfl ?_
  obtain ⟨x22,k22,H⟩ := bL H
  refine bT k22.1 (aX (fun _=>rfl) k22.2) ?_
  refine bc 2 rfl (aP ?_)
  refine aN rfl H (fun H=>?_) (fun H=>?_)
  ·refine av 1 tk rfl ?_
   obtain rfl := aI H
   have e1 : fl1 = .ret _ := hg1
   subst e1
   obtain rfl := bi Hp1
   refine bw tk rfl (ps := [(aL false)]) ⟨_,_,rfl,rfl,rfl⟩ (PLe.q rfl)
  refine ao (aw (bm 2 tk rfl ?_))
  exact bG () H hl1 hg1
 refine av 1 tk rfl ?_
 exact bu tk H rfl
def bO (sA : Rz) (f : Rq → Option (Bool)) : Option (Int × Rz) :=
 ah (nS (sA.length : Int)) fun (n1 : Nat) =>
 ah (aM (σ := Rz) (ρ := (Int × Rz)) (fun (j1 : Nat) (_ : Nat) (s1 : Rz) =>
  ah (aO s1 (j1 : Int)) fun (x14 : Rq) =>
  ah (f x14) fun x16 =>
  cond x16
   (some (.ret ((j1 : Int),s1)))
   (some (.next s1))) 0 (List.range n1) sA) fun fl1=>fl1.thenR fun (s1 : Rz) =>
 some ((-1),s1)
theorem fv (g_sA : OwnRef) {g_f : FuncId} {caps_f : List PV} (sA : Rz) (f : Rq → Option (Bool)) (hg_f : ∀ (vs : Array Value) (w : World),(callFunc g_f vs).run Tryz.prog w = .ok (.enter g_f vs) w) (hp_f : ∀ a0 r,f a0 = some r → aT Tryz.prog g_f ((.list 54 (a0.map af)) :: caps_f) (aL r)) (r : Int × Rz) (H : bO sA f = some r) :
  PH Tryz.prog 79 [(.own 0 g_sA (sA.map (aq 54 af)).length),(.fn g_f caps_f)] ⟨fun _=>none,upd (fun _=>none) 0 (some ⟨g_sA,55,(sA.map (aq 54 af)),true⟩)⟩ (fun u H=>u = (al r.1) ∧ H = ⟨fun _=>none,upd (fun _=>none) 0 (some ⟨g_sA,55,(r.2.map (aq 54 af)),true⟩)⟩) := by
 unfold bO at H
 refine PH.ax Tryz.func79 Tryz.ntmps79 ?_
 refine av 1 tk rfl (ab (ab (aa (ak tk rfl (gO tk (zl _) ?_)))))
 refine ak tk rfl (ac ?_)
 obtain ⟨n1,hs1,H⟩ := aE H
 have hz1 := oX hs1
 obtain ⟨fl1,H1,Hp1⟩ := aE H
 refine fA (τ := Rz) (γ := Unit) (fun s1 g1=>⟨19,upd (fun _=>.any) 0 (.own 0 g_sA (s1.map (aq 54 af)).length),fun _=>none,upd (fun _=>none) 0 (some ⟨g_sA,55,(s1.map (aq 54 af)),true⟩)⟩) (fun t=>fl1 = .next t) ?_ (fun s1 g1 hn1=>?_)
 ·refine ap ?_
  refine jz (fun j1 s1 g1=>⟨19,upd (upd (upd (upd (fun _=>.any) 8 (al (j1 : Int))) 7 (al (sA.length : Int))) 1 (.fn g_f caps_f)) 0 (.own 0 g_sA (s1.map (aq 54 af)).length),fun _=>none,upd (fun _=>none) 0 (some ⟨g_sA,55,(s1.map (aq 54 af)),true⟩)⟩) () H1 Gh.d (fun j1 s1 g1 hj1 hr1=>?_)
  refine av 1 tk rfl (ab ?_)
  refine aQ rfl (fun h=>?_) (fun h=>?_)
  ·have hl1 := natLt hz1 h
   obtain ⟨x1,fb1,hx1,H,hg1⟩ := rMc hl1 hr1
   obtain rfl := natX hx1
   refine ao (ab (ap (av 2 tk rfl (ab (aa (aj 3 tk rfl ?_))))))
   obtain ⟨x14,k14,H⟩ := bL H
   refine mj (tag := 0) rfl (fun ho0=>?_)
   refine lp tk ⟨k14.1,(dT k14.2)⟩ (dY ho0 k14.2) ?_
   refine jQ tk (aX (fun _=>rfl) k14.2) ?_
   obtain ⟨x16,h16,H⟩ := aE H
   refine ae hg_f (fu.r) (hp_f _ _ h16) ?_
   refine ac ?_
   refine aN rfl H (fun H=>?_) (fun H=>?_)
   ·refine av 2 tk rfl ?_
    obtain rfl := aI H
    have e1 : fl1 = .ret _ := hg1
    subst e1
    obtain rfl := bi Hp1
    refine ce (st' := ⟨19,upd (fun _=>.any) 4 (al (j1 : Int)),fun _=>none,upd (fun _=>none) 0 (some ⟨g_sA,55,(s1.map (aq 54 af)),true⟩)⟩) (Gh.le (ay br) aV (bI aU)) ?_
    refine mT tk rfl (ps := [(al (j1 : Int))]) ⟨_,_,rfl,rfl,rfl⟩ (PLe.q rfl) ⟨rfl,rfl⟩
   refine ao (aw (bm 2 tk rfl ?_))
   exact bG () H hl1 hg1 (Gh.le (ay (ay (ay (bP (PLe.q (qj hz1 hl1)) br)))) aV (bI aU))
  have hn1 := rMd (natGe hz1 h) hr1
  refine aD rfl ?_
  refine bp s1 g1 hn1 Gh.d
 have H := qi hn1 Hp1
 refine av 1 tk rfl ?_
 obtain rfl := aI H
 refine ce (st' := ⟨19,upd (fun _=>.any) 4 (al (-1)),fun _=>none,upd (fun _=>none) 0 (some ⟨g_sA,55,(s1.map (aq 54 af)),true⟩)⟩) (Gh.le (ay br) aV (bI aU)) ?_
 refine mT tk rfl (ps := [(al (-1))]) ⟨_,_,rfl,rfl,rfl⟩ (PLe.q rfl) ⟨rfl,rfl⟩
theorem W_delete_81 (g_s : OwnRef) (xs : Rz) (i j : Int) (r : Rz) (h : delI xs i j = some r) : PH Tryz.prog 81 [(.own 0 g_s (xs.map (aq 54 af)).length),(al i),(al j)] ⟨fun _=>none,upd (fun _=>none) 0 (some ⟨g_s,55,(xs.map (aq 54 af)),true⟩)⟩ (fun u H=>u = .own 0 g_s (r.map (aq 54 af)).length ∧ H = ⟨fun _=>none,upd (fun _=>none) 0 (some ⟨g_s,55,(r.map (aq 54 af)),true⟩)⟩) := by
 obtain ⟨hi,hij,hj,hr⟩ := delI_some h
 have hjl : j.toNat ≤ (xs.map (aq 54 af)).length := by rw [zl]; exact hj
 have hij' : i.toNat ≤ j.toNat := by omega
 have ei : i = (i.toNat : Int) := by omega
 have ej : j = (j.toNat : Int) := by omega
 refine PH.ax Tryz.func81 Tryz.ntmps81 ?_
 refine V.ownC (tag := 0) rfl (fun hc=>?_)
 refine av 1 tk rfl (ab (aa (aj 4 tk rfl (gO tk (m := (xs.map (aq 54 af)).length) rfl ?_))))
 refine sE (l := i.toNat) (h := j.toNat) (m := (xs.map (aq 54 af)).length) tk rfl rfl rfl rfl rfl rfl ⟨_,_,rfl,ei⟩ ⟨_,_,rfl,ej⟩ ⟨_,_,rfl,rfl⟩ (by decide) hij' hjl hc rfl (ac (ab (av 3 tk rfl ?_)))
 refine aQ rfl (fun h=>?_) (fun h=>?_)
 ·have he : i = j := by simpa using h
  have hx : r = xs := by rw [hr,he,List.take_append_drop]
  subst hx
  refine av 2 tk rfl ?_
  refine ce (st' := ⟨33,upd (fun _=>.any) 6 (.own 0 g_s (r.map (aq 54 af)).length),fun _=>none,upd (fun _=>none) 0 (some ⟨g_s,55,r.map (aq 54 af),true⟩)⟩) (Gh.le (ay br) aV (bI aU)) ?_
  refine mT tk rfl (ps := [.own 0 g_s (r.map (aq 54 af)).length]) ⟨_,_,rfl,rfl,rfl⟩ (PLe.q rfl) ⟨rfl,rfl⟩
 ·refine ao (ab (aa (ak tk rfl (gO tk (m := (xs.map (aq 54 af)).length) rfl ?_))))
  refine ak tk rfl (ac (ab (aJ tk mok ⟨false,false,[]⟩ [0,1,2,3,4,5,6,7] rfl (by decide +kernel) rfl (bc 2 rfl (sT (l := 0) (h := i.toNat) (m := g_s.cap) tk rfl rfl rfl rfl rfl rfl rfl rfl ⟨_,_,rfl,ei⟩ rfl (by decide) (Nat.zero_le _) (by omega) (Nat.le_refl _) rfl (bc 2 rfl (sT (l := j.toNat) (h := (xs.map (aq 54 af)).length) (m := g_s.cap) tk rfl rfl rfl rfl rfl rfl rfl ⟨_,_,rfl,ej⟩ rfl rfl (by decide) hjl hc (Nat.le_refl _) rfl (sP (rows' := r.map (aq 54 af)) (tag := 0) (p := i.toNat) (q := j.toNat) tk rfl rfl rfl rfl rfl rfl rfl hij' hjl rfl rfl (by rw [hr,List.map_append,List.map_take,List.map_drop]) rfl (bo rfl (aP ?_))))))))))
  have hrl : (r.map (aq 54 af)).length ≤ (xs.map (aq 54 af)).length := by rw [hr]; simp; omega
  refine ab (aa (aj 2 tk rfl (gO tk (m := (r.map (aq 54 af)).length) rfl ?_)))
  refine ak tk rfl (sE (l := (r.map (aq 54 af)).length) (h := (xs.map (aq 54 af)).length) (m := g_s.cap) tk rfl rfl rfl rfl rfl rfl ⟨_,_,rfl,rfl⟩ ⟨_,_,rfl,rfl⟩ rfl (by decide) hrl hc (Nat.le_refl _) rfl (sJ (tag := 0) (rows := List.map (aq 54 af) r) tk rfl rfl rfl rfl rfl rfl rfl rfl rfl (p := (r.map (aq 54 af)).length) (q := (xs.map (aq 54 af)).length) (m := g_s.cap) (Nat.le_refl _) hrl hc (Nat.le_refl _) rfl (ac (av 2 tk rfl ?_))))
  refine ce (st' := ⟨33,upd (fun _=>.any) 6 (.own 0 g_s (r.map (aq 54 af)).length),fun _=>none,upd (fun _=>none) 0 (some ⟨g_s,55,r.map (aq 54 af),true⟩)⟩) (Gh.le (ay br) aV (bI aU)) ?_
  refine mT tk rfl (ps := [.own 0 g_s (r.map (aq 54 af)).length]) ⟨_,_,rfl,rfl,rfl⟩ (PLe.q rfl) ⟨rfl,rfl⟩
theorem clone_34 {m : Nat} (xs : Rq) : fE Tryz.prog 34 [.list 54 (xs.map af)] (kW m 54 (xs.map af)) := by
 refine PH.ax Tryz.func34 Tryz.ntmps34 ?_
 refine eV tk 0 rfl rfl (fun hz hb=>?_)
 refine av 1 tk rfl (ab (ab (aa (ak tk rfl ?_))))
 refine nK tk rfl rfl rfl rfl rfl rfl rfl (fun b hn=>?_)
 refine ac ?_
 refine aQ rfl (fun h=>?_) (fun h=>?_)
 ·refine av 1 tk rfl (hX tk 2 902 (e := 54) rfl rfl ?_)
  refine iA tk (hn h).symm
 ·refine ao (ab (aa ?_))
  refine mu (rows' := []) tk rfl rfl rfl rfl rfl rfl rfl rfl rfl (iB.refl _) fun g=>?_
  refine ak tk rfl ?_
  refine cy (rows2' := xs.map af) (rows' := xs.map af) tk rfl rfl rfl rfl rfl rfl rfl rfl rfl rfl rfl rfl rfl (je.refl _) (by simpa using hb) (by simpa using hz) rfl fun g'=>?_
  refine ak tk rfl (ac ?_)
  refine iA tk rfl
def ic (a : Rq) (b : Rq) (downs : List Bool) : Option (Int) :=
 ah (aM (σ := Unit) (ρ := (Int)) (fun (j1 : Nat) (x1 : LVal) (_ : Unit) =>
  ah (
   cond (decide ((j1 : Int) ≥ (b.length : Int)))
    (some true)
    (ah (aO b (j1 : Int)) fun (x25 : LVal) =>
    some (x1.kind == x25.kind && (x1.int == x25.int && (x1.text == x25.text && true))))) fun (t3 : Bool) =>
  cond t3
   (some (.next ()))
   (ah (aO b (j1 : Int)) fun (x35 : LVal) =>
   bH (lh x1 x35) fun x37 =>
   cond (decide ((j1 : Int) < (downs.length : Int)))
    (ah (aO downs (j1 : Int)) fun (x45 : Bool) =>
    cond x45
     (cond (!x37)
      (some (.ret (-1)))
      (some (.ret 1)))
     (cond x37
      (some (.ret (-1)))
      (some (.ret 1))))
    (cond x37
     (some (.ret (-1)))
     (some (.ret 1))))) 0 a ()) fun fl1=>fl1.thenR fun (_ : Unit) =>
 some 0
theorem qC (a : Rq) (b : Rq) (downs : List Bool) (r : Int) (H : ic a b downs = some r) :
  aT Tryz.prog 89 [(.list 54 (a.map af)),(.list 54 (b.map af)),(.list 4 (downs.map gi))] (al r) := by
 unfold ic at H
 refine PH.ax Tryz.func89 Tryz.ntmps89 ?_
 refine av 1 tk rfl (ab (ab (aa (ak tk rfl (aG tk (zl _) ?_)))))
 refine ak tk rfl (ac ?_)
 refine fC tk 11 10 0 (fun s1 g1=>upd (upd (fun _=>.any) 2 (.list 4 (downs.map gi))) 1 (.list 54 (b.map af))) nB nO () H (fun fl1 Hp1 j1 s1 g1 hz1 hl1 x1 fb1 hx1 H hg1=>?_) (fun s1 g1 H=>?_)
 ·refine ab (ap (av 2 tk rfl (ab (ab ?_))))
  refine gS (γ := Unit) (fun t3 g3=>⟨52,upd (upd (upd (upd (upd (upd (upd (fun _=>.any) 28 (aL t3)) 11 (al (j1 : Int))) 10 (al (a.length : Int))) 7 (al (j1 : Int))) 2 (.list 4 (downs.map gi))) 1 (.list 54 (b.map af))) 0 (.list 54 (a.map af)),fun _=>none,fun _=>none⟩) H (fun _ H=>?_) (fun t3 g3 H=>?_)
  ·refine aJ tk mok ⟨false,false,[]⟩ [0,1,2,3,4,5,6,7,8,9,10,11,12,13,14] rfl (by decide +kernel) rfl (bc 2 rfl (sR rfl rfl rfl rfl rfl rfl (zl _) rfl (bc 2 rfl ?_)))
   refine mL H (fun H=>?_) (fun H=>?_)
   ·refine bc 10 rfl (aP ?_)
    refine bp _ () (aI H) Gh.d
   refine bc 2 rfl ?_
   refine bT (zn j1) (bD (fun _=>rfl) hx1) ?_
   refine bc 3 rfl ?_
   obtain ⟨x25,k25,H⟩ := bL H
   refine bT k25.1 (aX (fun _=>rfl) k25.2) ?_
   refine bc 3 rfl (aP ?_)
   refine bp _ () (aI H) Gh.d
  refine aN rfl H (fun H=>?_) (fun H=>?_)
  ·refine aD rfl (bm 2 tk rfl ?_)
   exact bG () H hl1 hg1
  refine ao (ab (aJ tk mok ⟨false,false,[]⟩ [0,1,2,3,4,5,6,7,8,9] rfl (by decide +kernel) rfl (bc 2 rfl ?_)))
  refine bT (zn j1) (bD (fun _=>rfl) hx1) ?_
  refine bc 3 rfl ?_
  obtain ⟨x35,k35,H⟩ := bL H
  refine bT k35.1 (aX (fun _=>rfl) k35.2) ?_
  refine bo rfl ?_
  obtain ⟨x37,h37,H⟩ := db H
  have s37 := kT x1 x35
  rw [h37] at s37
  refine am Tryz.call111 (fu.r) s37 ?_
  refine bo rfl (aP (ab (ab (aa (aj 2 tk rfl (aG tk (zl _) ?_))))))
  refine aj 2 tk rfl ?_
  refine bF rfl rfl rfl H (fun H=>?_) (fun H=>?_)
  ·refine aj 2 tk rfl ?_
   obtain ⟨x45,k45,H⟩ := bL H
   refine bd tk k45.1 (aX (fun _=>rfl) k45.2) ?_
   refine aj 2 tk rfl (ac ?_)
   refine aN rfl H (fun H=>?_) (fun H=>?_)
   ·refine bm 3 tk rfl (ab (av 1 tk rfl ?_))
    refine aN rfl H (fun H=>?_) (fun H=>?_)
    ·refine av 1 tk rfl ?_
     obtain rfl := aI H
     have e1 : fl1 = .ret _ := hg1
     subst e1
     obtain rfl := bi Hp1
     refine bw tk rfl (ps := [(al (-1))]) ⟨_,_,rfl,rfl,rfl⟩ (PLe.q rfl)
    refine ao (av 1 tk rfl ?_)
    obtain rfl := aI H
    have e1 : fl1 = .ret _ := hg1
    subst e1
    obtain rfl := bi Hp1
    refine bw tk rfl (ps := [(al 1)]) ⟨_,_,rfl,rfl,rfl⟩ (PLe.q rfl)
   refine ao (ab (av 1 tk rfl ?_))
   refine aN rfl H (fun H=>?_) (fun H=>?_)
   ·refine av 1 tk rfl ?_
    obtain rfl := aI H
    have e1 : fl1 = .ret _ := hg1
    subst e1
    obtain rfl := bi Hp1
    refine bw tk rfl (ps := [(al (-1))]) ⟨_,_,rfl,rfl,rfl⟩ (PLe.q rfl)
   refine ao (av 1 tk rfl ?_)
   obtain rfl := aI H
   have e1 : fl1 = .ret _ := hg1
   subst e1
   obtain rfl := bi Hp1
   refine bw tk rfl (ps := [(al 1)]) ⟨_,_,rfl,rfl,rfl⟩ (PLe.q rfl)
  refine aj 5 tk rfl (ac (aB rfl (ao (ab (av 1 tk rfl ?_)))))
  refine aN rfl H (fun H=>?_) (fun H=>?_)
  ·refine av 1 tk rfl ?_
   obtain rfl := aI H
   have e1 : fl1 = .ret _ := hg1
   subst e1
   obtain rfl := bi Hp1
   refine bw tk rfl (ps := [(al (-1))]) ⟨_,_,rfl,rfl,rfl⟩ (PLe.q rfl)
  refine ao (av 1 tk rfl ?_)
  obtain rfl := aI H
  have e1 : fl1 = .ret _ := hg1
  subst e1
  obtain rfl := bi Hp1
  refine bw tk rfl (ps := [(al 1)]) ⟨_,_,rfl,rfl,rfl⟩ (PLe.q rfl)
 refine av 1 tk rfl ?_
 exact bu tk H rfl
def cA (data : Rz) (a : Int) (b : Int) (cmp : Rq → Rq → Option (Int)) : Option (Rz) :=
 ah (fD (σ := Rz × Int) (ρ := Empty) (fun (s1 : Rz × Int) =>
  cond (decide (s1.2 < b))
   (ah (fD (σ := Rz × Int) (ρ := Empty) (fun (s22 : Rz × Int) =>
    ah (
     cond (decide (s22.2 > a))
      (ah (aO s22.1 s22.2) fun (x25 : Rq) =>
      ah (aO s22.1 (IntKind.i64.wrap (s22.2 - (1 : Int)))) fun (x30 : Rq) =>
      ah (cmp x25 x30) fun x32 =>
      some (s22.1,(decide (x32 < (0 : Int)))))
      (some (s22.1,false))) fun (t29 : Rz × Bool) =>
    cond t29.2
     (ah (aO t29.1 (IntKind.i64.wrap (s22.2 - (1 : Int)))) fun (x45 : Rq) =>
     ah (aO t29.1 s22.2) fun (x49 : Rq) =>
     ah (aO t29.1 s22.2) fun (_ : Rq) =>
     bH (t29.1.set s22.2.toNat x45) fun (y30 : Rz) =>
     ah (aO y30 (IntKind.i64.wrap (s22.2 - (1 : Int)))) fun (_ : Rq) =>
     bH (y30.set ((IntKind.i64.wrap (s22.2 - (1 : Int))).toNat) x49) fun (y31 : Rz) =>
     some (.next (y31,(IntKind.i64.wrap (s22.2 - (1 : Int))))))
     (some (.brk (t29.1,s22.2)))) (s1.1,s1.2)) fun fl22=>fl22.thenP fun (s22 : Rz × Int) =>
   some (.next (s22.1,(IntKind.i64.wrap (s1.2 + (1 : Int))))))
   (some (.brk (s1.1,s1.2)))) (data,(IntKind.i64.wrap (a + (1 : Int))))) fun fl1=>fl1.thenP fun (s1 : Rz × Int) =>
 some s1.1
theorem ir (g_data : OwnRef) {g_cmp : FuncId} {caps_cmp : List PV} (data : Rz) (a : Int) (b : Int) (cmp : Rq → Rq → Option (Int)) (hg_cmp : ∀ (vs : Array Value) (w : World),(callFunc g_cmp vs).run Tryz.prog w = .ok (.enter g_cmp vs) w) (hp_cmp : ∀ a0 a1 r,cmp a0 a1 = some r → aT Tryz.prog g_cmp ((.list 54 (a0.map af)) :: (.list 54 (a1.map af)) :: caps_cmp) (al r)) (r : Rz) (H : cA data a b cmp = some r) :
  PH Tryz.prog 123 [(.own 0 g_data (data.map (aq 54 af)).length),(al a),(al b),(.fn g_cmp caps_cmp)] ⟨fun _=>none,upd (fun _=>none) 0 (some ⟨g_data,55,(data.map (aq 54 af)),true⟩)⟩ (fun u H=>u = (.tup []) ∧ H = ⟨fun _=>none,upd (fun _=>none) 0 (some ⟨g_data,55,(r.map (aq 54 af)),true⟩)⟩) := by
 unfold cA at H
 refine PH.ax Tryz.func123 Tryz.ntmps123 ?_
 refine av 3 tk rfl ?_
 obtain ⟨fl1,H1,Hp1⟩ := aE H
 refine fA (τ := Rz × Int) (γ := Unit) (fun s1 g1=>⟨53,upd (fun _=>.any) 0 (.own 0 g_data (s1.1.map (aq 54 af)).length),fun _=>none,upd (fun _=>none) 0 (some ⟨g_data,55,(s1.1.map (aq 54 af)),true⟩)⟩) (fun t=>fl1 = .next t) ?_ (fun s1 g1 hn1=>?_)
 ·refine ap ?_
  refine gM (fun s1 g1=>⟨53,upd (upd (upd (upd (upd (fun _=>.any) 8 (al s1.2)) 3 (.fn g_cmp caps_cmp)) 2 (al b)) 1 (al a)) 0 (.own 0 g_data (s1.1.map (aq 54 af)).length),fun _=>none,upd (fun _=>none) 0 (some ⟨g_data,55,(s1.1.map (aq 54 af)),true⟩)⟩) () H1 Gh.d (fun m1 s1 g1 hr1=>?_)
  obtain ⟨fb1,H,hg1⟩ := ft hr1
  refine ab (av 3 tk rfl ?_)
  refine aN rfl H (fun H=>?_) (fun H=>?_)
  ·refine ao (ab (ap (av 2 tk rfl ?_)))
   obtain ⟨fl22,H22,Hp22⟩ := aE H
   refine fA (τ := Rz × Int) (γ := Unit) (fun s22 g22=>⟨53,upd (upd (upd (upd (upd (fun _=>.any) 8 (al s1.2)) 3 (.fn g_cmp caps_cmp)) 2 (al b)) 1 (al a)) 0 (.own 0 g_data (s22.1.map (aq 54 af)).length),fun _=>none,upd (fun _=>none) 0 (some ⟨g_data,55,(s22.1.map (aq 54 af)),true⟩)⟩) (fun t=>fl22 = .next t) ?_ (fun s22 g22 hn22=>?_)
   ·refine ap ?_
    refine gM (fun s22 g22=>⟨53,upd (upd (upd (upd (upd (upd (fun _=>.any) 9 (al s22.2)) 8 (al s1.2)) 3 (.fn g_cmp caps_cmp)) 2 (al b)) 1 (al a)) 0 (.own 0 g_data (s22.1.map (aq 54 af)).length),fun _=>none,upd (fun _=>none) 0 (some ⟨g_data,55,(s22.1.map (aq 54 af)),true⟩)⟩) () H22 Gh.d (fun m22 s22 g22 hr22=>?_)
    obtain ⟨fb22,H,hg22⟩ := ft hr22
    refine ab (ab ?_)
    refine gS (γ := Unit) (fun t29 g29=>⟨53,upd (upd (upd (upd (upd (upd (upd (fun _=>.any) 34 (aL t29.2)) 9 (al s22.2)) 8 (al s1.2)) 3 (.fn g_cmp caps_cmp)) 2 (al b)) 1 (al a)) 0 (.own 0 g_data (t29.1.map (aq 54 af)).length),fun _=>none,upd (fun _=>none) 0 (some ⟨g_data,55,(t29.1.map (aq 54 af)),true⟩)⟩) H (fun _ H=>?_) (fun t29 g29 H=>?_)
    ·refine gL (tag := 0) rfl (fun ho0=>?_)
     refine aJ tk mok ⟨false,true,[]⟩ [0,1,2,3,4,5,6,7,8,9,10,11,12,13,14,15,16] rfl (by decide +kernel) rfl (bc 4 rfl ?_)
     refine mL H (fun H=>?_) (fun H=>?_)
     ·refine bc 3 rfl ?_
      obtain ⟨x25,k25,H⟩ := bL H
      refine de tk ⟨k25.1,(dT k25.2)⟩ (dY ho0 k25.2) ?_
      refine fG tk rfl rfl rfl rfl rfl rfl rfl rfl rfl (aX (fun _=>rfl) k25.2) rfl rfl ?_
      refine bc 3 rfl ?_
      obtain ⟨x30,k30,H⟩ := bL H
      refine de tk ⟨k30.1,(dT k30.2)⟩ (dY ho0 k30.2) ?_
      refine fG tk rfl rfl rfl rfl rfl rfl rfl rfl rfl (aX (fun _=>rfl) k30.2) rfl rfl ?_
      obtain ⟨x32,h32,H⟩ := aE H
      refine am hg_cmp (fu.r) (hp_cmp _ _ _ h32) ?_
      refine bc 2 rfl (aP ?_)
      refine bp _ () (aI H) Gh.d
     refine bc 13 rfl (aP ?_)
     refine bp _ () (aI H) Gh.d
    refine aN rfl H (fun H=>?_) (fun H=>?_)
    ·refine ao (ab (ap ?_))
     refine gL (tag := 0) rfl (fun ho0=>?_)
     refine aJ tk mok ⟨false,true,[]⟩ [0,1,2,3,4,5,6,7,8,9,10,11,12,13,14,15,16,17] rfl (by decide +kernel) rfl (bc 8 rfl ?_)
     obtain ⟨x45,k45,H⟩ := bL H
     refine de tk ⟨k45.1,(dT k45.2)⟩ (dY ho0 k45.2) ?_
     refine fG tk rfl rfl rfl rfl rfl rfl rfl rfl rfl (aX (fun _=>rfl) k45.2) rfl rfl ?_
     refine bc 2 rfl ?_
     obtain ⟨x49,k49,H⟩ := bL H
     refine de tk ⟨k49.1,(dT k49.2)⟩ (dY ho0 k49.2) ?_
     refine fG tk rfl rfl rfl rfl rfl rfl rfl rfl rfl (aX (fun _=>rfl) k49.2) rfl rfl ?_
     obtain ⟨x51,k51,H⟩ := bL H
     refine de tk ⟨k51.1,(dT k51.2)⟩ (dY ho0 k51.2) ?_
     obtain ⟨y30,hy30,H⟩ := db H
     refine iy tk rfl rfl rfl rfl rfl rfl rfl rfl rfl (by rw [zl]; exact (zg.1 k51.2).1) (PLe.refl _ _) rfl rfl rfl rfl (by decide) (fM (fun _=>rfl) k51.2 rfl hy30) ?_
     obtain ⟨x52,k52,H⟩ := bL H
     refine de tk ⟨k52.1,(ri (fh (f := (aq 54 af)) hy30) k52.2)⟩ (rp ho0 (fh (f := (aq 54 af)) hy30) k52.2) ?_
     obtain ⟨y31,hy31,H⟩ := db H
     refine iy tk rfl rfl rfl rfl rfl rfl rfl rfl rfl (by rw [zl]; exact (zg.1 k52.2).1) (PLe.refl _ _) rfl rfl rfl rfl (by decide) (fM (fun _=>rfl) k52.2 rfl hy31) ?_
     refine aP (aw (bm 3 tk rfl ?_))
     obtain rfl := aI H
     refine eg (y31,(IntKind.i64.wrap (s22.2 - (1 : Int)))) () hg22 (Gh.le (bP (PLe.of2 (PLe2.of_eq (congrArg (PV.own 0 g_data) ((fh (f := (aq 54 af)) hy30).trans (fh (f := (aq 54 af)) hy31))))) (ay (ay (ay (ay (ay br)))))) aV (bI aU))
    refine aD rfl ?_
    obtain rfl := aI H
    refine bp (t29.1,s22.2) () hg22 Gh.d
   have H := dC hn22 Hp22
   refine aw (bm 3 tk rfl ?_)
   obtain rfl := aI H
   refine eg (s22.1,(IntKind.i64.wrap (s1.2 + (1 : Int)))) () hg1 Gh.d
  refine aD rfl ?_
  obtain rfl := aI H
  refine bp (s1.1,s1.2) () hg1 Gh.d
 have H := dC hn1 Hp1
 obtain rfl := aI H
 refine ce (st' := ⟨53,fun _=>.any,fun _=>none,upd (fun _=>none) 0 (some ⟨g_data,55,(s1.1.map (aq 54 af)),true⟩)⟩) (Gh.le br aV (bI aU)) ?_
 refine lH rfl (PLe.q rfl) ⟨rfl,rfl⟩
def cv (data : Rz) (a : Int) (b : Int) (n : Int) (cmp : Rq → Rq → Option (Int)) : Option (Rz) :=
 ah (fD (σ := Rz × Int) (ρ := Empty) (fun (s1 : Rz × Int) =>
  cond (decide (s1.2 < n))
   (ah (aO s1.1 (IntKind.i64.wrap (b + s1.2))) fun (x28 : Rq) =>
   ah (aO s1.1 (IntKind.i64.wrap (a + s1.2))) fun (x34 : Rq) =>
   ah (aO s1.1 (IntKind.i64.wrap (a + s1.2))) fun (_ : Rq) =>
   bH (s1.1.set ((IntKind.i64.wrap (a + s1.2)).toNat) x28) fun (y6 : Rz) =>
   ah (aO y6 (IntKind.i64.wrap (b + s1.2))) fun (_ : Rq) =>
   bH (y6.set ((IntKind.i64.wrap (b + s1.2)).toNat) x34) fun (y7 : Rz) =>
   some (.next (y7,(IntKind.i64.wrap (s1.2 + (1 : Int))))))
   (some (.brk (s1.1,s1.2)))) (data,0)) fun fl1=>fl1.thenP fun (s1 : Rz × Int) =>
 some s1.1
theorem gc (g_data : OwnRef) {g_cmp : FuncId} {caps_cmp : List PV} (data : Rz) (a : Int) (b : Int) (n : Int) (cmp : Rq → Rq → Option (Int)) (hg_cmp : ∀ (vs : Array Value) (w : World),(callFunc g_cmp vs).run Tryz.prog w = .ok (.enter g_cmp vs) w) (hp_cmp : ∀ a0 a1 r,cmp a0 a1 = some r → aT Tryz.prog g_cmp ((.list 54 (a0.map af)) :: (.list 54 (a1.map af)) :: caps_cmp) (al r)) (r : Rz) (H : cv data a b n cmp = some r) :
  PH Tryz.prog 136 [(.own 0 g_data (data.map (aq 54 af)).length),(al a),(al b),(al n),(.fn g_cmp caps_cmp)] ⟨fun _=>none,upd (fun _=>none) 0 (some ⟨g_data,55,(data.map (aq 54 af)),true⟩)⟩ (fun u H=>u = (.tup []) ∧ H = ⟨fun _=>none,upd (fun _=>none) 0 (some ⟨g_data,55,(r.map (aq 54 af)),true⟩)⟩) := by
 unfold cv at H
 refine PH.ax Tryz.func136 Tryz.ntmps136 ?_
 refine av 1 tk rfl ?_
 obtain ⟨fl1,H1,Hp1⟩ := aE H
 refine fA (τ := Rz × Int) (γ := Unit) (fun s1 g1=>⟨38,upd (fun _=>.any) 0 (.own 0 g_data (s1.1.map (aq 54 af)).length),fun _=>none,upd (fun _=>none) 0 (some ⟨g_data,55,(s1.1.map (aq 54 af)),true⟩)⟩) (fun t=>fl1 = .next t) ?_ (fun s1 g1 hn1=>?_)
 ·refine ap ?_
  refine gM (fun s1 g1=>⟨38,upd (upd (upd (upd (upd (fun _=>.any) 10 (al s1.2)) 3 (al n)) 2 (al b)) 1 (al a)) 0 (.own 0 g_data (s1.1.map (aq 54 af)).length),fun _=>none,upd (fun _=>none) 0 (some ⟨g_data,55,(s1.1.map (aq 54 af)),true⟩)⟩) () H1 Gh.d (fun m1 s1 g1 hr1=>?_)
  obtain ⟨fb1,H,hg1⟩ := ft hr1
  refine ab (av 3 tk rfl ?_)
  refine aN rfl H (fun H=>?_) (fun H=>?_)
  ·refine ao (ab (ap ?_))
   refine gL (tag := 0) rfl (fun ho0=>?_)
   refine aJ tk mok ⟨false,true,[]⟩ [0,1,2,3,4,5,6,7,8,9,10,11,12,13,14,15,16,17,18,19,20,21,22,23] rfl (by decide +kernel) rfl (bc 12 rfl ?_)
   obtain ⟨x28,k28,H⟩ := bL H
   refine de tk ⟨k28.1,(dT k28.2)⟩ (dY ho0 k28.2) ?_
   refine fG tk rfl rfl rfl rfl rfl rfl rfl rfl rfl (aX (fun _=>rfl) k28.2) rfl rfl ?_
   refine bc 4 rfl ?_
   obtain ⟨x34,k34,H⟩ := bL H
   refine de tk ⟨k34.1,(dT k34.2)⟩ (dY ho0 k34.2) ?_
   refine fG tk rfl rfl rfl rfl rfl rfl rfl rfl rfl (aX (fun _=>rfl) k34.2) rfl rfl ?_
   obtain ⟨x36,k36,H⟩ := bL H
   refine de tk ⟨k36.1,(dT k36.2)⟩ (dY ho0 k36.2) ?_
   obtain ⟨y6,hy6,H⟩ := db H
   refine iy tk rfl rfl rfl rfl rfl rfl rfl rfl rfl (by rw [zl]; exact (zg.1 k36.2).1) (PLe.refl _ _) rfl rfl rfl rfl (by decide) (fM (fun _=>rfl) k36.2 rfl hy6) ?_
   obtain ⟨x37,k37,H⟩ := bL H
   refine de tk ⟨k37.1,(ri (fh (f := (aq 54 af)) hy6) k37.2)⟩ (rp ho0 (fh (f := (aq 54 af)) hy6) k37.2) ?_
   obtain ⟨y7,hy7,H⟩ := db H
   refine iy tk rfl rfl rfl rfl rfl rfl rfl rfl rfl (by rw [zl]; exact (zg.1 k37.2).1) (PLe.refl _ _) rfl rfl rfl rfl (by decide) (fM (fun _=>rfl) k37.2 rfl hy7) ?_
   refine aP (aw (bm 3 tk rfl ?_))
   obtain rfl := aI H
   refine eg (y7,(IntKind.i64.wrap (s1.2 + (1 : Int)))) () hg1 (Gh.le (bP (PLe.of2 (PLe2.of_eq (congrArg (PV.own 0 g_data) ((fh (f := (aq 54 af)) hy6).trans (fh (f := (aq 54 af)) hy7))))) (ay (ay (ay (ay br))))) aV (bI aU))
  refine aD rfl ?_
  obtain rfl := aI H
  refine bp (s1.1,s1.2) () hg1 Gh.d
 have H := dC hn1 Hp1
 obtain rfl := aI H
 refine ce (st' := ⟨38,fun _=>.any,fun _=>none,upd (fun _=>none) 0 (some ⟨g_data,55,(s1.1.map (aq 54 af)),true⟩)⟩) (Gh.le br aV (bI aU)) ?_
 refine lH rfl (PLe.q rfl) ⟨rfl,rfl⟩
def jX (rec23 : LQuery → Int → Option (Int)) (q : LQuery) (most : Int) : Option (Int) :=
 ah (aM (σ := Int) (ρ := Empty) (fun (_ : Nat) (x1 : LExpr) (s1 : Int) =>
  bH (iY x1 (IntKind.i64.wrap (s1 - (1 : Int)))) fun x23 =>
  some (.next x23)) 0 q.exprs most) fun fl1=>fl1.thenP fun (s1 : Int) =>
 ah (aM (σ := Int) (ρ := Empty) (fun (_ : Nat) (x2 : LAggregateCall) (s2 : Int) =>
  ah (aM (σ := Int) (ρ := Empty) (fun (_ : Nat) (x5 : LExpr) (s5 : Int) =>
   bH (iY x5 (IntKind.i64.wrap (s5 - (1 : Int)))) fun x42 =>
   some (.next x42)) 0 x2.args s2) fun fl5=>fl5.thenP fun (s5 : Int) =>
  some (.next s5)) 0 q.aggregates s1) fun fl2=>fl2.thenP fun (s2 : Int) =>
 ah (aM (σ := Int) (ρ := (Int)) (fun (_ : Nat) (x6 : LQuery) (s6 : Int) =>
  cond (decide (s6 < (0 : Int)))
   (some (.ret (-1)))
   (ah (rec23 x6 (IntKind.i64.wrap (s6 - (1 : Int)))) fun x57 =>
   some (.next x57))) 0 q.inputs s2) fun fl6=>fl6.thenR fun (s6 : Int) =>
 some s6
theorem rD (rec23 : LQuery → Int → Option (Int)) (hrec23 : ∀ a0 a1 r,rec23 a0 a1 = some r → aT Tryz.prog 23 [(.agg (aK a0)),(al a1)] (al r)) (q : LQuery) (most : Int) (r : Int) (H : jX rec23 q most = some r) :
  aT Tryz.prog 23 [(.agg (aK q)),(al most)] (al r) := by
 unfold jX at H
 refine PH.ax Tryz.func23 Tryz.ntmps23 ?_
 refine ab (aa (au ?_))
 refine ak tk rfl (ac (ab (ab (aa (aj 2 tk rfl (aG tk (zl _) ?_))))))
 refine ak tk rfl (ac ?_)
 refine iv tk 16 15 14 (fun s1 g1=>upd (upd (fun _=>.any) 2 (.ptr (aK q))) 1 (al s1)) nB nO () H (fun fl1 Hp1 j1 s1 g1 hz1 hl1 x1 fb1 hx1 H hg1=>?_) (fun s1 g1 H=>?_)
 ·refine ab (ap (ab (aa (bd tk (zn j1) (bD dq hx1) ?_))))
  refine ak tk rfl ?_
  refine aY tk fun b6=>?_
  refine ag tk ?_
  refine ac (aa (ai tk ?_))
  refine aj 2 tk rfl ?_
  obtain ⟨x23,h23,H⟩ := db H
  have s23 := qe x1 (IntKind.i64.wrap (s1 - (1 : Int)))
  rw [h23] at s23
  refine ae Tryz.call35 (fu.r) s23 ?_
  refine ak tk rfl (ac (aw (bm 2 tk rfl ?_)))
  exact bG () H hl1 hg1
 refine ab (ab (aa (aj 2 tk rfl (aG tk (zl _) ?_))))
 refine ak tk rfl (ac ?_)
 refine iv tk 28 27 26 (fun s2 g2=>upd (upd (fun _=>.any) 2 (.ptr (aK q))) 1 (al s2)) nB nO () H (fun fl2 Hp2 j2 s2 g2 hz2 hl2 x2 fb2 hx2 H hg2=>?_) (fun s2 g2 H=>?_)
 ·refine ab (ap (ab (aa ?_)))
  refine bd tk (zn j2) (bD (fun _=>rfl) hx2) ?_
  refine ak tk rfl ?_
  refine aY tk fun b8=>?_
  refine ag tk ?_
  refine ac (ab (aa (ak tk rfl (ai tk ?_))))
  refine aG tk (zl _) ?_
  refine ak tk rfl (ac ?_)
  refine iv tk 35 34 33 (fun s5 g5=>upd (upd (upd (upd (upd (fun _=>.any) 28 (al (j2 : Int))) 27 (al (q.aggregates.length : Int))) 26 (.list 68 (q.aggregates.map jE))) 2 (.ptr (aK q))) 1 (al s5)) nB nO () H (fun fl5 Hp5 j5 s5 g5 hz5 hl5 x5 fb5 hx5 H hg5=>?_) (fun s5 g5 H=>?_)
  ·refine ab (ap (ab (aa (bd tk (zn j5) (bD dq hx5) ?_))))
   refine ak tk rfl ?_
   refine aY tk fun b10=>?_
   refine ag tk ?_
   refine ac (aa (ai tk ?_))
   refine aj 2 tk rfl ?_
   obtain ⟨x42,h42,H⟩ := db H
   have s42 := qe x5 (IntKind.i64.wrap (s5 - (1 : Int)))
   rw [h42] at s42
   refine ae Tryz.call35 (fu.r) s42 ?_
   refine ak tk rfl (ac (aw (bm 2 tk rfl ?_)))
   exact bG () H hl5 hg5
  refine aw (bm 2 tk rfl ?_)
  exact bG () H hl2 hg2
 refine ab (ab (aa (aj 2 tk rfl (aG tk (zl _) ?_))))
 refine ak tk rfl (ac ?_)
 refine fC tk 48 47 46 (fun s6 g6=>upd (fun _=>.any) 1 (al s6)) nB nO () H (fun fl6 Hp6 j6 s6 g6 hz6 hl6 x6 fb6 hx6 H hg6=>?_) (fun s6 g6 H=>?_)
 ·refine ab (ap (ab (aa (bd tk (zn j6) (bD ci hx6) ?_))))
  refine ak tk rfl ?_
  refine aY tk fun b12=>?_
  refine ag tk ?_
  refine ac (ab (av 2 tk rfl ?_))
  refine aN rfl H (fun H=>?_) (fun H=>?_)
  ·refine av 1 tk rfl ?_
   obtain rfl := aI H
   have e6 : fl6 = .ret _ := hg6
   subst e6
   obtain rfl := bi Hp6
   refine bw tk rfl (ps := [(al (-1))]) ⟨_,_,rfl,rfl,rfl⟩ (PLe.q rfl)
  refine ao (aa (ai tk ?_))
  refine aj 2 tk rfl ?_
  obtain ⟨x57,h57,H⟩ := aE H
  have s57 := hrec23 x6 (IntKind.i64.wrap (s6 - (1 : Int))) _ h57
  refine ae Tryz.call23 (fu.r) s57 ?_
  refine ak tk rfl (ac (aw (bm 2 tk rfl ?_)))
  exact bG () H hl6 hg6
 refine av 2 tk rfl ?_
 exact bu tk H rfl
def gm : Nat → LQuery → Int → Option (Int)
 | 0,_,_=>none
 | n + 1,v0,v1=>jX (fun b0 b1=>gm n b0 b1) v0 v1
theorem rK  (n : Nat) : (∀ a0 a1 r,gm n a0 a1 = some r → aT Tryz.prog 23 [(.agg (aK a0)),(al a1)] (al r)) := by
 induction n with
 | zero=>exact (by intros; rename_i h; exact absurd (show (none : Option _) = some _ from h) (by simp))
 | succ n ih =>
  exact (fun v0 v1 r h=>rD (fun b0 b1=>gm n b0 b1) ih v0 v1  r h)
def lr (q : LQuery) (most : Int) : Option (Int) := ja fun n=>gm n q most
theorem sj (q : LQuery) (most : Int) (r : Int) (H : lr q most = some r) :
  aT Tryz.prog 23 [(.agg (aK q)),(al most)] (al r) := by
 obtain ⟨n,h⟩ := jR H
 exact (rK  n) q most r h
def fJ (sA : List UInt8) : Option (Bool) :=
 ah (
  cond (decide ((sA.length : Int) < (1 : Int)))
   (some true)
   (cond (decide ((sA.length : Int) > (12 : Int)))
    (some true)
    (ah (aO sA 0) fun (x15 : UInt8) =>
    cond (decide ((x15.toNat : Int) ≥ (48 : Int)))
     (ah (aO sA 0) fun (x19 : UInt8) =>
     some (decide ((x19.toNat : Int) ≤ (57 : Int))))
     (some false)))) fun (t1 : Bool) =>
 cond t1
  (some false)
  (ah (eW (sA.length ≤ 2 ^ 47) ()) fun (_ : Unit) =>
  ah (aM (σ := Unit) (ρ := (Bool)) (fun (_ : Nat) (x2 : UInt8) (_ : Unit) =>
   cond (decide ((x2.toNat : Int) < (97 : Int)))
    (cond (decide ((x2.toNat : Int) < (48 : Int)))
     (some (.ret false))
     (cond (decide ((x2.toNat : Int) > (57 : Int)))
      (some (.ret false))
      (some (.next ()))))
    (cond (decide ((x2.toNat : Int) > (122 : Int)))
     (cond (decide ((x2.toNat : Int) < (48 : Int)))
      (some (.ret false))
      (cond (decide ((x2.toNat : Int) > (57 : Int)))
       (some (.ret false))
       (some (.next ()))))
     (some (.next ())))) 0 sA ()) fun fl2=>fl2.thenR fun (_ : Unit) =>
  some true)
theorem mP (sA : List UInt8) (r : Bool) (H : fJ sA = some r) :
  aT Tryz.prog 64 [(.str sA)] (aL r) := by
 unfold fJ at H
 refine PH.ax Tryz.func64 Tryz.ntmps64 ?_
 refine av 1 tk rfl (ab (ab ?_))
 refine gS (γ := Unit) (fun t1 g1=>⟨45,upd (upd (fun _=>.any) 22 (aL t1)) 0 (.str sA),fun _=>none,fun _=>none⟩) H (fun _ H=>?_) (fun t1 g1 H=>?_)
 ·refine aa (aj 4 tk rfl ?_)
  refine bF rfl rfl rfl H (fun H=>?_) (fun H=>?_)
  ·refine aj 14 tk rfl (ac ?_)
   refine bp _ () (aI H) Gh.d
  refine aj 5 tk rfl ?_
  refine bF rfl rfl rfl H (fun H=>?_) (fun H=>?_)
  ·refine aj 9 tk rfl (ac ?_)
   refine bp _ () (aI H) Gh.d
  refine ak tk rfl ?_
  obtain ⟨x15,k15,H⟩ := bL H
  refine sD tk rfl rfl rfl rfl rfl rfl k15.1 k15.2 rfl (aj 2 tk rfl ?_)
  refine bF rfl rfl rfl H (fun H=>?_) (fun H=>?_)
  ·refine ak tk rfl ?_
   obtain ⟨x19,k19,H⟩ := bL H
   refine sD tk rfl rfl rfl rfl rfl rfl k19.1 k19.2 rfl (aj 3 tk rfl (ac ?_))
   refine bp _ () (aI H) Gh.d
  refine aj 5 tk rfl (ac ?_)
  refine bp _ () (aI H) Gh.d
 refine aN rfl H (fun H=>?_) (fun H=>?_)
 ·refine av 1 tk rfl ?_
  exact bu tk H rfl
 refine ao (ab (ab (aa (ak tk rfl ?_))))
 obtain ⟨_,h24,H⟩ := aE H
 refine Ao.s2b (xs := sA) tk rfl rfl rfl rfl rfl rfl rfl rfl rfl rfl rfl (dE h24).1 rfl (aG tk (zl _) ?_)
 refine ak tk rfl (ac ?_)
 refine fC tk 26 25 24 (fun s2 g2=>fun _=>.any) nB nO () H (fun fl2 Hp2 j2 s2 g2 hz2 hl2 x2 fb2 hx2 H hg2=>?_) (fun s2 g2 H=>?_)
 ·refine ab (ap (ab (aa ?_)))
  refine bd tk (zn j2) (bD (fun _=>rfl) hx2) ?_
  refine aj 2 tk rfl (ac (ab (aa (aj 3 tk rfl ?_))))
  refine bF rfl rfl rfl H (fun H=>?_) (fun H=>?_)
  ·refine aj 7 tk rfl ?_
   refine bF rfl rfl rfl H (fun H=>?_) (fun H=>?_)
   ·refine aj 4 tk rfl (ac (aC rfl (av 1 tk rfl ?_)))
    obtain rfl := aI H
    have e2 : fl2 = .ret _ := hg2
    subst e2
    obtain rfl := bi Hp2
    refine bw tk rfl (ps := [(aL false)]) ⟨_,_,rfl,rfl,rfl⟩ (PLe.q rfl)
   refine aj 4 tk rfl (ac ?_)
   refine aN rfl H (fun H=>?_) (fun H=>?_)
   ·refine av 1 tk rfl ?_
    obtain rfl := aI H
    have e2 : fl2 = .ret _ := hg2
    subst e2
    obtain rfl := bi Hp2
    refine bw tk rfl (ps := [(aL false)]) ⟨_,_,rfl,rfl,rfl⟩ (PLe.q rfl)
   refine ao (aw (bm 2 tk rfl ?_))
   exact bG () H hl2 hg2
  refine aj 4 tk rfl ?_
  refine bF rfl rfl rfl H (fun H=>?_) (fun H=>?_)
  ·refine aj 3 tk rfl ?_
   refine bF rfl rfl rfl H (fun H=>?_) (fun H=>?_)
   ·refine aj 4 tk rfl (ac (aC rfl (av 1 tk rfl ?_)))
    obtain rfl := aI H
    have e2 : fl2 = .ret _ := hg2
    subst e2
    obtain rfl := bi Hp2
    refine bw tk rfl (ps := [(aL false)]) ⟨_,_,rfl,rfl,rfl⟩ (PLe.q rfl)
   refine aj 4 tk rfl (ac ?_)
   refine aN rfl H (fun H=>?_) (fun H=>?_)
   ·refine av 1 tk rfl ?_
    obtain rfl := aI H
    have e2 : fl2 = .ret _ := hg2
    subst e2
    obtain rfl := bi Hp2
    refine bw tk rfl (ps := [(aL false)]) ⟨_,_,rfl,rfl,rfl⟩ (PLe.q rfl)
   refine ao (aw (bm 2 tk rfl ?_))
   exact bG () H hl2 hg2
  refine aj 7 tk rfl (ac (aB rfl (ao (aw (bm 2 tk rfl ?_)))))
  exact bG () H hl2 hg2
 refine av 1 tk rfl ?_
 exact bu tk H rfl
def dR (c : LCol) (c0 : List UInt8) : Bool :=
 (c.name == c0)
theorem pm (c : LCol) (c0 : List UInt8) :
  aT Tryz.prog 90 [(.agg (aW c)),(.ptr [(.str c0)])] (aL (dR c c0)) := by
 obtain ⟨r,H⟩ : ∃ r,dR c c0 = r := ⟨_,rfl⟩
 rw [H]
 unfold dR at H
 refine PH.ax Tryz.func90 Tryz.ntmps90 ?_
 refine ab (aa (au ?_))
 refine ak tk rfl (ac (av 5 tk rfl ?_))
 exact el tk H rfl
def cZ (t : LTable) (c0 : List UInt8) : Bool :=
 (t.name == c0)
theorem pO (t : LTable) (c0 : List UInt8) :
  aT Tryz.prog 92 [(.agg (cL t)),(.ptr [(.str c0)])] (aL (cZ t c0)) := by
 obtain ⟨r,H⟩ : ∃ r,cZ t c0 = r := ⟨_,rfl⟩
 rw [H]
 unfold cZ at H
 refine PH.ax Tryz.func92 Tryz.ntmps92 ?_
 refine ab (aa (au ?_))
 refine ak tk rfl (ac (av 5 tk rfl ?_))
 exact el tk H rfl
def fO (s1A : List Int) (s2A : List Int) : Option (Bool) :=
 cond ((s1A.length : Int) != (s2A.length : Int))
  (some false)
  (ah (aM (σ := Unit) (ρ := (Bool)) (fun (j1 : Nat) (x1 : Int) (_ : Unit) =>
   ah (aO s2A (j1 : Int)) fun (x22 : Int) =>
   cond (x1 != x22)
    (some (.ret false))
    (some (.next ()))) 0 s1A ()) fun fl1=>fl1.thenR fun (_ : Unit) =>
  some true)
theorem oC (s1A : List Int) (s2A : List Int) (r : Bool) (H : fO s1A s2A = some r) :
  aT Tryz.prog 68 [(.list 3 (s1A.map bV)),(.list 3 (s2A.map bV))] (aL r) := by
 unfold fO at H
 refine PH.ax Tryz.func68 Tryz.ntmps68 ?_
 refine av 1 tk rfl (ab (ab (aa (ak tk rfl (aG tk (zl _) ?_)))))
 refine ak tk rfl (aG tk (zl _) ?_)
 refine ak tk rfl (ac ?_)
 refine aN rfl H (fun H=>?_) (fun H=>?_)
 ·refine av 1 tk rfl ?_
  exact bu tk H rfl
 refine ao (ab (ab (aa (ak tk rfl (aG tk (zl _) ?_)))))
 refine ak tk rfl (ac ?_)
 refine fC tk 13 12 0 (fun s1 g1=>upd (fun _=>.any) 1 (.list 3 (s2A.map bV))) nB nO () H (fun fl1 Hp1 j1 s1 g1 hz1 hl1 x1 fb1 hx1 H hg1=>?_) (fun s1 g1 H=>?_)
 ·refine ab (ap (av 2 tk rfl (ab (aJ tk mok ⟨false,false,[]⟩ [0,1,2,3,4,5,6,7,8] rfl (by decide +kernel) rfl (bc 2 rfl ?_)))))
  refine bT (zn j1) (bD (fun _=>rfl) hx1) ?_
  refine bc 3 rfl ?_
  obtain ⟨x22,k22,H⟩ := bL H
  refine bT k22.1 (aX (fun _=>rfl) k22.2) ?_
  refine bc 2 rfl (aP ?_)
  refine aN rfl H (fun H=>?_) (fun H=>?_)
  ·refine av 1 tk rfl ?_
   obtain rfl := aI H
   have e1 : fl1 = .ret _ := hg1
   subst e1
   obtain rfl := bi Hp1
   refine bw tk rfl (ps := [(aL false)]) ⟨_,_,rfl,rfl,rfl⟩ (PLe.q rfl)
  refine ao (aw (bm 2 tk rfl ?_))
  exact bG () H hl1 hg1
 refine av 1 tk rfl ?_
 exact bu tk H rfl
def cJ (sA : List LForeignKey) (f : LForeignKey → Option (Bool)) : Option (Int) :=
 ah (aM (σ := Unit) (ρ := (Int)) (fun (j1 : Nat) (x1 : LForeignKey) (_ : Unit) =>
  ah (f x1) fun x16 =>
  cond x16
   (some (.ret (j1 : Int)))
   (some (.next ()))) 0 sA ()) fun fl1=>fl1.thenR fun (_ : Unit) =>
 some (-1)
theorem iV {g_f : FuncId} {caps_f : List PV} (sA : List LForeignKey) (f : LForeignKey → Option (Bool)) (hg_f : ∀ (vs : Array Value) (w : World),(callFunc g_f vs).run Tryz.prog w = .ok (.enter g_f vs) w) (hp_f : ∀ a0 r,f a0 = some r → aT Tryz.prog g_f ((.agg (ju a0)) :: caps_f) (aL r)) (r : Int) (H : cJ sA f = some r) :
  aT Tryz.prog 67 [(.list 94 (sA.map ju)),(.fn g_f caps_f)] (al r) := by
 unfold cJ at H
 refine PH.ax Tryz.func67 Tryz.ntmps67 ?_
 refine av 1 tk rfl (ab (ab (aa (ak tk rfl (aG tk (zl _) ?_)))))
 refine ak tk rfl (ac ?_)
 refine fC tk 8 7 0 (fun s1 g1=>upd (fun _=>.any) 1 (.fn g_f caps_f)) nB nO () H (fun fl1 Hp1 j1 s1 g1 hz1 hl1 x1 fb1 hx1 H hg1=>?_) (fun s1 g1 H=>?_)
 ·refine ab (ap (av 2 tk rfl (ab (aa (aj 3 tk rfl ?_)))))
  refine bd tk (zn j1) (bD (fun _=>rfl) hx1) ?_
  refine ak tk rfl ?_
  obtain ⟨x16,h16,H⟩ := aE H
  refine ae hg_f (fu.r) (hp_f _ _ h16) ?_
  refine ac ?_
  refine aN rfl H (fun H=>?_) (fun H=>?_)
  ·refine av 2 tk rfl ?_
   obtain rfl := aI H
   have e1 : fl1 = .ret _ := hg1
   subst e1
   obtain rfl := bi Hp1
   refine bw tk rfl (ps := [(al (j1 : Int))]) ⟨_,_,rfl,rfl,rfl⟩ (PLe.q rfl)
  refine ao (aw (bm 2 tk rfl ?_))
  exact bG () H hl1 hg1
 refine av 1 tk rfl ?_
 exact bu tk H rfl
def cW (sA : List LConstraint) (v : LConstraint) : Option (Int) :=
 ah (aM (σ := Unit) (ρ := (Int)) (fun (j1 : Nat) (x1 : LConstraint) (_ : Unit) =>
  cond (v.table == x1.table && (v.left == x1.left && (v.op == x1.op && (v.right == x1.right && ((v.value.kind == x1.value.kind && (v.value.int == x1.value.int && (v.value.text == x1.value.text && true))) && true)))))
   (some (.ret (j1 : Int)))
   (some (.next ()))) 0 sA ()) fun fl1=>fl1.thenR fun (_ : Unit) =>
 some (-1)
theorem jr (sA : List LConstraint) (v : LConstraint) (r : Int) (H : cW sA v = some r) :
  aT Tryz.prog 70 [(.list 100 (sA.map ku)),(.agg (ku v))] (al r) := by
 unfold cW at H
 refine PH.ax Tryz.func70 Tryz.ntmps70 ?_
 refine ab (aa (au ?_))
 refine ak tk rfl (ac (ab (ab (aa (ak tk rfl (aG tk (zl _) ?_))))))
 refine ak tk rfl (ac ?_)
 refine fC tk 8 7 0 (fun s1 g1=>upd (fun _=>.any) 3 (.ptr (ku v))) nB nO () H (fun fl1 Hp1 j1 s1 g1 hz1 hl1 x1 fb1 hx1 H hg1=>?_) (fun s1 g1 H=>?_)
 ·refine ab (ap (av 2 tk rfl (ab (aJ tk mok ⟨false,false,[]⟩ [0,1,2,3,4,5] rfl (by decide +kernel) rfl (bc 3 rfl ?_)))))
  refine bT (zn j1) (bD (fun _=>rfl) hx1) ?_
  refine bo rfl (tm (b := (v.table == x1.table && (v.left == x1.left && (v.op == x1.op && (v.right == x1.right && ((v.value.kind == x1.value.kind && (v.value.int == x1.value.int && (v.value.text == x1.value.text && true))) && true)))))) tk rfl rfl rfl rfl rfl Tryz.stoodInHeld100 Tryz.eqGuardType100 (eqf := [(9,0),(3,1),(9,2),(3,3),(54,4)]) (by simp [eQ,Program.fieldsOf,Tryz.underlying100]) (by kernel_rfl) rfl rfl (aP ?_))
  refine aN rfl H (fun H=>?_) (fun H=>?_)
  ·refine av 2 tk rfl ?_
   obtain rfl := aI H
   have e1 : fl1 = .ret _ := hg1
   subst e1
   obtain rfl := bi Hp1
   refine bw tk rfl (ps := [(al (j1 : Int))]) ⟨_,_,rfl,rfl,rfl⟩ (PLe.q rfl)
  refine ao (aw (bm 2 tk rfl ?_))
  exact bG () H hl1 hg1
 refine av 1 tk rfl ?_
 exact bu tk H rfl
theorem clone_15 {m : Nat} (xs : List (List UInt8)) : fE Tryz.prog 15 [.list 9 (xs.map gn)] (kW m 9 (xs.map gn)) := by
 refine PH.ax Tryz.func15 Tryz.ntmps15 ?_
 refine eV tk 0 rfl rfl (fun hz hb=>?_)
 refine av 1 tk rfl (ab (ab (aa (ak tk rfl ?_))))
 refine nK tk rfl rfl rfl rfl rfl rfl rfl (fun b hn=>?_)
 refine ac ?_
 refine aQ rfl (fun h=>?_) (fun h=>?_)
 ·refine av 1 tk rfl (hX tk 2 902 (e := 9) rfl rfl ?_)
  refine iA tk (hn h).symm
 ·refine ao (ab (aa ?_))
  refine mu (rows' := []) tk rfl rfl rfl rfl rfl rfl rfl rfl rfl (iB.refl _) fun g=>?_
  refine ak tk rfl ?_
  refine cy (rows2' := xs.map gn) (rows' := xs.map gn) tk rfl rfl rfl rfl rfl rfl rfl rfl rfl rfl rfl rfl rfl (je.refl _) (by simpa using hb) (by simpa using hz) rfl fun g'=>?_
  refine ak tk rfl (ac ?_)
  refine iA tk rfl
theorem clone_16 {m : Nat} (xs : List Bool) : fE Tryz.prog 16 [.list 4 (xs.map gi)] (kW m 4 (xs.map gi)) := by
 refine PH.ax Tryz.func16 Tryz.ntmps16 ?_
 refine eV tk 0 rfl rfl (fun hz hb=>?_)
 refine av 1 tk rfl (ab (ab (aa (ak tk rfl ?_))))
 refine nK tk rfl rfl rfl rfl rfl rfl rfl (fun b hn=>?_)
 refine ac ?_
 refine aQ rfl (fun h=>?_) (fun h=>?_)
 ·refine av 1 tk rfl (hX tk 2 902 (e := 4) rfl rfl ?_)
  refine iA tk (hn h).symm
 ·refine ao (ab (aa ?_))
  refine mu (rows' := []) tk rfl rfl rfl rfl rfl rfl rfl rfl rfl (iB.refl _) fun g=>?_
  refine ak tk rfl ?_
  refine cy (rows2' := xs.map gi) (rows' := xs.map gi) tk rfl rfl rfl rfl rfl rfl rfl rfl rfl rfl rfl rfl rfl (je.refl _) (by simpa using hb) (by simpa using hz) rfl fun g'=>?_
  refine ak tk rfl (ac ?_)
  refine iA tk rfl
def cx (s1A : Rz) (s2A : Rz) (eq : Rq → Rq → Option (Bool)) : Option (Bool) :=
 cond ((s1A.length : Int) != (s2A.length : Int))
  (some false)
  (ah (aM (σ := Unit) (ρ := (Bool)) (fun (j1 : Nat) (x1 : Rq) (_ : Unit) =>
   ah (aO s2A (j1 : Int)) fun (x24 : Rq) =>
   ah (eq x1 x24) fun x29 =>
   cond (!x29)
    (some (.ret false))
    (some (.next ()))) 0 s1A ()) fun fl1=>fl1.thenR fun (_ : Unit) =>
  some true)
theorem iG {g_eq : FuncId} {caps_eq : List PV} (s1A : Rz) (s2A : Rz) (eq : Rq → Rq → Option (Bool)) (hg_eq : ∀ (vs : Array Value) (w : World),(callFunc g_eq vs).run Tryz.prog w = .ok (.enter g_eq vs) w) (hp_eq : ∀ a0 a1 r,eq a0 a1 = some r → aT Tryz.prog g_eq ((.list 54 (a0.map af)) :: (.list 54 (a1.map af)) :: caps_eq) (aL r)) (r : Bool) (H : cx s1A s2A eq = some r) :
  aT Tryz.prog 19 [(.list 55 (s1A.map (aq 54 af))),(.list 55 (s2A.map (aq 54 af))),(.fn g_eq caps_eq)] (aL r) := by
 unfold cx at H
 refine PH.ax Tryz.func19 Tryz.ntmps19 ?_
 refine av 1 tk rfl (ab (ab (aa (ak tk rfl (aG tk (zl _) ?_)))))
 refine ak tk rfl (aG tk (zl _) ?_)
 refine ak tk rfl (ac ?_)
 refine aN rfl H (fun H=>?_) (fun H=>?_)
 ·refine av 1 tk rfl ?_
  exact bu tk H rfl
 refine ao (ab (ab (aa (ak tk rfl (aG tk (zl _) ?_)))))
 refine ak tk rfl (ac ?_)
 refine fC tk 17 16 15 (fun s1 g1=>upd (upd (fun _=>.any) 2 (.fn g_eq caps_eq)) 1 (.list 55 (s2A.map (aq 54 af)))) nB nO () H (fun fl1 Hp1 j1 s1 g1 hz1 hl1 x1 fb1 hx1 H hg1=>?_) (fun s1 g1 H=>?_)
 ·refine ab (ap (ab (aa (ak tk rfl ?_))))
  refine bd tk (zn j1) (bD (fun _=>rfl) hx1) ?_
  refine aj 3 tk rfl (ac (ab (aa (aj 2 tk rfl ?_))))
  obtain ⟨x24,k24,H⟩ := bL H
  refine bd tk k24.1 (aX (fun _=>rfl) k24.2) ?_
  refine aj 2 tk rfl (ac (ab (aa (aj 3 tk rfl ?_))))
  obtain ⟨x29,h29,H⟩ := aE H
  refine ae hg_eq (fu.r) (hp_eq _ _ _ h29) ?_
  refine ak tk rfl (ac ?_)
  refine aN rfl H (fun H=>?_) (fun H=>?_)
  ·refine av 1 tk rfl ?_
   obtain rfl := aI H
   have e1 : fl1 = .ret _ := hg1
   subst e1
   obtain rfl := bi Hp1
   refine bw tk rfl (ps := [(aL false)]) ⟨_,_,rfl,rfl,rfl⟩ (PLe.q rfl)
  refine ao (aw (bm 2 tk rfl ?_))
  exact bG () H hl1 hg1
 refine av 1 tk rfl ?_
 exact bu tk H rfl
def fR (q : LQuery) : Option (Int) :=
 ah (lU q) fun x7 =>
 some x7.2
theorem mM (q : LQuery) (r : Int) (H : fR q = some r) :
  aT Tryz.prog 50 [(.agg (aK q))] (al r) := by
 unfold fR at H
 refine PH.ax Tryz.func50 Tryz.ntmps50 ?_
 refine ab (aa (au ?_))
 refine ak tk rfl (ac (ab (aa (ak tk rfl ?_))))
 obtain ⟨x7,h7,H⟩ := aE H
 have s7 := W_query_most q _ h7
 refine ae Tryz.call72 (fu.r) s7 ?_
 refine aj 5 tk rfl (ac (av 2 tk rfl ?_))
 exact bu tk H rfl
def fe (q : LQuery) : Option ((List Int) × Int) :=
 ah (jm q) fun x18 =>
 ah (aM (σ := List Int × Bool × List Bool) (ρ := Empty) (fun (_ : Nat) (x1 : LQuery) (s1 : List Int × Bool × List Bool) =>
  ah (aM (σ := List Int × Bool × List Bool) (ρ := Empty) (fun (_ : Nat) (x12 : LExpr) (s12 : List Int × Bool × List Bool) =>
   ah (fI x12 s12.1 s12.2.1 s12.2.2) fun x33 =>
   some (.next (x33.1,x33.2.1,x33.2.2))) 0 x1.exprs (s1.1,s1.2.1,s1.2.2)) fun fl12=>fl12.thenP fun (s12 : List Int × Bool × List Bool) =>
  ah (aM (σ := List Int × Bool × List Bool) (ρ := Empty) (fun (_ : Nat) (x13 : LAggregateCall) (s13 : List Int × Bool × List Bool) =>
   ah (aM (σ := List Int × Bool × List Bool) (ρ := Empty) (fun (_ : Nat) (x16 : LExpr) (s16 : List Int × Bool × List Bool) =>
    ah (fI x16 s16.1 s16.2.1 s16.2.2) fun x51 =>
    some (.next (x51.1,x51.2.1,x51.2.2))) 0 x13.args (s13.1,s13.2.1,s13.2.2)) fun fl16=>fl16.thenP fun (s16 : List Int × Bool × List Bool) =>
   some (.next (s16.1,s16.2.1,s16.2.2))) 0 x1.aggregates (s12.1,s12.2.1,s12.2.2)) fun fl13=>fl13.thenP fun (s13 : List Int × Bool × List Bool) =>
  some (.next (s13.1,s13.2.1,s13.2.2))) 0 x18 ([],false,(List.replicate 8 false))) fun fl1=>fl1.thenP fun (s1 : List Int × Bool × List Bool) =>
 cond s1.2.1
  (some ([],13))
  (some (s1.1,0))
theorem la (q : LQuery) (r : (List Int) × Int) (H : fe q = some r) :
  aT Tryz.prog 29 [(.agg (aK q))] (.tup [(.list 3 (r.1.map bV)),(al r.2)]) := by
 unfold fe at H
 refine PH.ax Tryz.func29 Tryz.ntmps29 ?_
 refine ab (aa (au ?_))
 refine aj 2 tk rfl (ac (ab (aa ?_)))
 refine aY tk fun b4=>?_
 refine ac (ab (aa ?_))
 refine aY tk fun b5=>?_
 refine ac (ab (aa ?_))
 refine aY tk fun b6=>?_
 refine ag tk ?_
 refine ac (ab (aa ?_))
 refine aY tk fun b7=>?_
 refine ac (ab (aa (ak tk rfl (ag tk ?_))))
 refine ac (ab (ab (aa (ak tk rfl ?_))))
 obtain ⟨x18,h18,H⟩ := aE H
 have s18 := qw (m := 18) q _ h18
 refine ae Tryz.call47 (fu.r) (PFun.jy s18) ?_
 refine aG tk (zl _) ?_
 refine ak tk rfl (ac ?_)
 obtain ⟨fl1,H1,Hp1⟩ := aE H
 refine eV tk 18 rfl rfl (fun hz1 _=>?_)
 rw [zl] at hz1
 refine fA (τ := List Int × Bool × List Bool) (γ := OwnRef) (fun s1 g1=>⟨57,upd (upd (fun _=>.any) 6 (.box 6 b6 0)) 4 (.box 4 b4 0),upd (upd (fun _=>none) 6 (some ⟨b6,[(aL s1.2.1)]⟩)) 4 (some ⟨b4,[(.own 1204 g1 (s1.1.map bV).length)]⟩),upd (fun _=>none) 1204 (some ⟨g1,3,(s1.1.map bV),true⟩)⟩) (fun t=>fl1 = .next t) ?_ (fun s1 g1 hn1=>?_)
 ·refine ap (kK tk 4 0 1204 (e := 3) rfl rfl rfl rfl ?_)
  refine jz (fun j1 s1 g1=>⟨57,upd (upd (upd (upd (upd (upd (fun _=>.any) 20 (al (j1 : Int))) 19 (al (x18.length : Int))) 18 (.list 35 (x18.map cu))) 7 (.box 7 b7 0)) 6 (.box 6 b6 0)) 4 (.box 4 b4 0),upd (upd (upd (upd (fun _=>none) 7 (some ⟨b7,[(.fn 46 [(.box 4 b4 0),(.box 6 b6 0),(.box 5 b5 0),(.box 7 b7 0)])]⟩)) 6 (some ⟨b6,[(aL s1.2.1)]⟩)) 5 (some ⟨b5,(List.map aL s1.2.2)⟩)) 4 (some ⟨b4,[(.own 1204 g1 (s1.1.map bV).length)]⟩),upd (fun _=>none) 1204 (some ⟨g1,3,(s1.1.map bV),true⟩)⟩) (⟨none,0⟩) H1 Gh.d (fun j1 s1 g1 hj1 hr1=>?_)
  refine av 1 tk rfl (ab ?_)
  refine aQ rfl (fun h=>?_) (fun h=>?_)
  ·have hl1 := pI h
   obtain ⟨x1,fb1,hx1,H,hg1⟩ := rMc hl1 hr1
   refine ao (ab (ap (ab (aa (bd tk (zn j1) (bD ci hx1) ?_)))))
   refine ak tk rfl ?_
   refine aY tk fun b9=>?_
   refine ag tk ?_
   refine ac (ab (ab (aa (ak tk rfl (ai tk ?_)))))
   refine aG tk (zl _) ?_
   refine ak tk rfl (ac ?_)
   refine iv (γ := OwnRef) tk 27 26 25 (fun s12 g12=>upd (upd (upd (upd (upd (upd (upd (fun _=>.any) 20 (al (j1 : Int))) 19 (al (x18.length : Int))) 18 (.list 35 (x18.map cu))) 9 (.box 9 b9 0)) 7 (.box 7 b7 0)) 6 (.box 6 b6 0)) 4 (.box 4 b4 0)) (fun s12 g12=>upd (upd (upd (upd (upd (fun _=>none) 9 (some ⟨b9,(aK x1)⟩)) 7 (some ⟨b7,[(.fn 46 [(.box 4 b4 0),(.box 6 b6 0),(.box 5 b5 0),(.box 7 b7 0)])]⟩)) 6 (some ⟨b6,[(aL s12.2.1)]⟩)) 5 (some ⟨b5,(List.map aL s12.2.2)⟩)) 4 (some ⟨b4,[(.own 1204 g12 (s12.1.map bV).length)]⟩)) (fun s12 g12=>upd (fun _=>none) 1204 (some ⟨g12,3,(s12.1.map bV),true⟩)) g1 H (fun fl12 Hp12 j12 s12 g12 hz12 hl12 x12 fb12 hx12 H hg12=>?_) (fun s12 g12 H=>?_)
   ·refine ab (ap (ab (aa (bd tk (zn j12) (bD dq hx12) ?_))))
    refine ak tk rfl ?_
    refine aY tk fun b11=>?_
    refine ag tk ?_
    refine ac (aa (ai tk ?_))
    refine ai tk ?_
    obtain ⟨x33,h33,H⟩ := aE H
    have s33 := kG b4 g12 b6 b5 b7 x12 s12.1 s12.2.1 s12.2.2 _ h33
    refine dM (st' := ⟨_,_,upd (upd (upd (upd (upd (upd (fun _=>none) 11 (some ⟨b11,(im x12)⟩)) 9 (some ⟨b9,(aK x1)⟩)) 7 (some ⟨b7,[(.fn 46 [(.box 1000 b4 0),(.box 1001 b6 0),(.box 1002 b5 0),(.box 1003 b7 0)])]⟩)) 6 (some ⟨b6,[(aL s12.2.1)]⟩)) 5 (some ⟨b5,(List.map aL s12.2.2)⟩)) 4 (some ⟨b4,[(.own 1100 g12 (s12.1.map bV).length)]⟩),upd (fun _=>none) 1204 (some ⟨g12,3,(s12.1.map bV),true⟩)⟩) (Gh.le (dj _ _) (bC rfl (fu.of2 (iB.cons (PLe2.own rfl) iB.nil)) (bC rfl (fu.r) (bC rfl (fu.r) (bC rfl (fu.of2 (iB.cons (PLe2.fn (iB.cons PLe2.boxT (iB.cons PLe2.boxT (iB.cons PLe2.boxT (iB.cons PLe2.boxT iB.nil))))) iB.nil)) (bC rfl (fu.r) (bC rfl (fu.r) aV)))))) (bI aU)) ?_
    refine ew (g := 46) rfl rfl rfl Tryz.call46 [(4,1000),(6,1001),(5,1002),(7,1003)] [(1204,1100)] rfl rfl rfl rfl (fu.of2 (iB.cons (PLe2.of_eq rfl) (iB.cons PLe2.boxT (iB.cons PLe2.boxT (iB.cons PLe2.boxT (iB.cons PLe2.boxT iB.nil)))))) (by rw [gg,gg,gg,gg,dS,dr,dQ]; rfl) s33 ?_
    rintro u33 H33h ⟨gz33_0,rfl,rfl⟩
    refine ⟨_,rfl,?_⟩
    refine dM (st' := ⟨_,_,upd (upd (upd (upd (upd (upd (fun _=>none) 11 (some ⟨b11,(im x12)⟩)) 9 (some ⟨b9,(aK x1)⟩)) 7 (some ⟨b7,[(.fn 46 [(.box 4 b4 0),(.box 6 b6 0),(.box 5 b5 0),(.box 7 b7 0)])]⟩)) 6 (some ⟨b6,[(aL x33.2.1)]⟩)) 5 (some ⟨b5,(List.map aL x33.2.2)⟩)) 4 (some ⟨b4,[(.own 1204 gz33_0 (x33.1.map bV).length)]⟩),upd (fun _=>none) 1204 (some ⟨gz33_0,3,(x33.1.map bV),true⟩)⟩) (Gh.le (dj _ _) (bC rfl (fu.of2 (iB.cons (PLe2.own rfl) iB.nil)) (bC rfl (fu.r) (bC rfl (fu.r) (bC rfl (fu.of2 (iB.cons (PLe2.fn (iB.cons PLe2.boxT (iB.cons PLe2.boxT (iB.cons PLe2.boxT (iB.cons PLe2.boxT iB.nil))))) iB.nil)) (bC rfl (fu.r) (bC rfl (fu.r) aV)))))) (bI aU)) ?_
    refine ac (aw (bm 2 tk rfl ?_))
    exact bG gz33_0 H hl12 hg12
   refine ab (aa (ak tk rfl (ai tk ?_)))
   refine aG tk (zl _) ?_
   refine ak tk rfl (ac ?_)
   refine iv (γ := OwnRef) tk 38 37 36 (fun s13 g13=>upd (upd (upd (upd (upd (upd (fun _=>.any) 20 (al (j1 : Int))) 19 (al (x18.length : Int))) 18 (.list 35 (x18.map cu))) 7 (.box 7 b7 0)) 6 (.box 6 b6 0)) 4 (.box 4 b4 0)) (fun s13 g13=>upd (upd (upd (upd (fun _=>none) 7 (some ⟨b7,[(.fn 46 [(.box 4 b4 0),(.box 6 b6 0),(.box 5 b5 0),(.box 7 b7 0)])]⟩)) 6 (some ⟨b6,[(aL s13.2.1)]⟩)) 5 (some ⟨b5,(List.map aL s13.2.2)⟩)) 4 (some ⟨b4,[(.own 1204 g13 (s13.1.map bV).length)]⟩)) (fun s13 g13=>upd (fun _=>none) 1204 (some ⟨g13,3,(s13.1.map bV),true⟩)) g12 H (fun fl13 Hp13 j13 s13 g13 hz13 hl13 x13 fb13 hx13 H hg13=>?_) (fun s13 g13 H=>?_)
   ·refine ab (ap (ab (aa ?_)))
    refine bd tk (zn j13) (bD (fun _=>rfl) hx13) ?_
    refine ak tk rfl ?_
    refine aY tk fun b13=>?_
    refine ag tk ?_
    refine ac (ab (aa (ak tk rfl (ai tk ?_))))
    refine aG tk (zl _) ?_
    refine ak tk rfl (ac ?_)
    refine iv (γ := OwnRef) tk 45 44 43 (fun s16 g16=>upd (upd (upd (upd (upd (upd (upd (upd (upd (fun _=>.any) 38 (al (j13 : Int))) 37 (al (x1.aggregates.length : Int))) 36 (.list 68 (x1.aggregates.map jE))) 20 (al (j1 : Int))) 19 (al (x18.length : Int))) 18 (.list 35 (x18.map cu))) 7 (.box 7 b7 0)) 6 (.box 6 b6 0)) 4 (.box 4 b4 0)) (fun s16 g16=>upd (upd (upd (upd (fun _=>none) 7 (some ⟨b7,[(.fn 46 [(.box 4 b4 0),(.box 6 b6 0),(.box 5 b5 0),(.box 7 b7 0)])]⟩)) 6 (some ⟨b6,[(aL s16.2.1)]⟩)) 5 (some ⟨b5,(List.map aL s16.2.2)⟩)) 4 (some ⟨b4,[(.own 1204 g16 (s16.1.map bV).length)]⟩)) (fun s16 g16=>upd (fun _=>none) 1204 (some ⟨g16,3,(s16.1.map bV),true⟩)) g13 H (fun fl16 Hp16 j16 s16 g16 hz16 hl16 x16 fb16 hx16 H hg16=>?_) (fun s16 g16 H=>?_)
    ·refine ab (ap (ab (aa (bd tk (zn j16) (bD dq hx16) ?_))))
     refine ak tk rfl ?_
     refine aY tk fun b15=>?_
     refine ag tk ?_
     refine ac (aa (ai tk ?_))
     refine ai tk ?_
     obtain ⟨x51,h51,H⟩ := aE H
     have s51 := kG b4 g16 b6 b5 b7 x16 s16.1 s16.2.1 s16.2.2 _ h51
     refine dM (st' := ⟨_,_,upd (upd (upd (upd (upd (fun _=>none) 15 (some ⟨b15,(im x16)⟩)) 7 (some ⟨b7,[(.fn 46 [(.box 1000 b4 0),(.box 1001 b6 0),(.box 1002 b5 0),(.box 1003 b7 0)])]⟩)) 6 (some ⟨b6,[(aL s16.2.1)]⟩)) 5 (some ⟨b5,(List.map aL s16.2.2)⟩)) 4 (some ⟨b4,[(.own 1100 g16 (s16.1.map bV).length)]⟩),upd (fun _=>none) 1204 (some ⟨g16,3,(s16.1.map bV),true⟩)⟩) (Gh.le (dj _ _) (bC rfl (fu.of2 (iB.cons (PLe2.own rfl) iB.nil)) (bC rfl (fu.r) (bC rfl (fu.r) (bC rfl (fu.of2 (iB.cons (PLe2.fn (iB.cons PLe2.boxT (iB.cons PLe2.boxT (iB.cons PLe2.boxT (iB.cons PLe2.boxT iB.nil))))) iB.nil)) (bC rfl (fu.r) aV))))) (bI aU)) ?_
     refine ew (g := 46) rfl rfl rfl Tryz.call46 [(4,1000),(6,1001),(5,1002),(7,1003)] [(1204,1100)] rfl rfl rfl rfl (fu.of2 (iB.cons (PLe2.of_eq rfl) (iB.cons PLe2.boxT (iB.cons PLe2.boxT (iB.cons PLe2.boxT (iB.cons PLe2.boxT iB.nil)))))) (by rw [gg,gg,gg,gg,dS,dr,dQ]; rfl) s51 ?_
     rintro u51 H51h ⟨gz51_0,rfl,rfl⟩
     refine ⟨_,rfl,?_⟩
     refine dM (st' := ⟨_,_,upd (upd (upd (upd (upd (fun _=>none) 15 (some ⟨b15,(im x16)⟩)) 7 (some ⟨b7,[(.fn 46 [(.box 4 b4 0),(.box 6 b6 0),(.box 5 b5 0),(.box 7 b7 0)])]⟩)) 6 (some ⟨b6,[(aL x51.2.1)]⟩)) 5 (some ⟨b5,(List.map aL x51.2.2)⟩)) 4 (some ⟨b4,[(.own 1204 gz51_0 (x51.1.map bV).length)]⟩),upd (fun _=>none) 1204 (some ⟨gz51_0,3,(x51.1.map bV),true⟩)⟩) (Gh.le (dj _ _) (bC rfl (fu.of2 (iB.cons (PLe2.own rfl) iB.nil)) (bC rfl (fu.r) (bC rfl (fu.r) (bC rfl (fu.of2 (iB.cons (PLe2.fn (iB.cons PLe2.boxT (iB.cons PLe2.boxT (iB.cons PLe2.boxT (iB.cons PLe2.boxT iB.nil))))) iB.nil)) (bC rfl (fu.r) aV))))) (bI aU)) ?_
     refine ac (aw (bm 2 tk rfl ?_))
     exact bG gz51_0 H hl16 hg16
    refine aw (bm 2 tk rfl ?_)
    exact bG g16 H hl13 hg13
   refine aw (bm 2 tk rfl ?_)
   exact bG g13 H hl1 hg1
  have hn1 := rMd (pw h) hr1
  refine aD rfl ?_
  refine bp s1 g1 hn1 Gh.d
 have H := dC hn1 Hp1
 refine ab (ab (aa (ai tk ?_)))
 refine ac ?_
 refine aN rfl H (fun H=>?_) (fun H=>?_)
 ·refine av 2 tk rfl ?_
  obtain rfl := aI H
  refine bw tk rfl (ps := [(.val (.slice none 0 0)),(al 13)]) ⟨_,_,rfl,rfl,_,_,rfl,rfl,rfl⟩ (PLe.of2 (PLe2.tup (iB.cons (PLe2.nil tk rfl) (iB.cons (PLe2.of_eq rfl) iB.nil))))
 refine ao (ab (aa (ai tk ?_)))
 refine aj 2 tk rfl (ac (eo 2 rfl rfl rfl ?_))
 exact bu tk H rfl
def eY (sA : List Int) (v : Int) : Option (Bool) :=
 ah (hO sA v) fun x7 =>
 some (decide (x7 ≥ (0 : Int)))
theorem mZ (sA : List Int) (v : Int) (r : Bool) (H : eY sA v = some r) :
  aT Tryz.prog 95 [(.list 3 (sA.map bV)),(al v)] (aL r) := by
 unfold eY at H
 refine PH.ax Tryz.func95 Tryz.ntmps95 ?_
 refine av 1 tk rfl (ab (aa (aj 2 tk rfl ?_)))
 obtain ⟨x7,h7,H⟩ := aE H
 have s7 := oB sA v _ h7
 refine ae Tryz.call113 (fu.r) s7 ?_
 refine aj 2 tk rfl (ac ?_)
 exact bu tk H rfl
def iw (kind : Int) (a : List LCol) (b : List LCol) : Option ((List LCol) × Int) :=
 cond ((a.length : Int) != (b.length : Int))
  (some ([],7))
  (ah (aM (σ := List LCol) (ρ := ((List LCol) × Int)) (fun (j1 : Nat) (x1 : LCol) (s1 : List LCol) =>
   ah (aO b (j1 : Int)) fun (x29 : LCol) =>
   cond (x1.kind != x29.kind)
    (some (.ret ([],7)))
    (cond x1.nullable
     (ah (aO s1 (j1 : Int)) fun (x51 : LCol) =>
     bH (s1.set ((j1 : Int).toNat) (LCol.mk x51.name x51.kind true)) fun (y8 : List LCol) =>
     some (.next y8))
     (cond (kind == (6 : Int))
      (ah (aO b (j1 : Int)) fun (x46 : LCol) =>
      ah (aO s1 (j1 : Int)) fun (x51 : LCol) =>
      bH (s1.set ((j1 : Int).toNat) (LCol.mk x51.name x51.kind x46.nullable)) fun (y9 : List LCol) =>
      some (.next y9))
      (ah (aO s1 (j1 : Int)) fun (x51 : LCol) =>
      bH (s1.set ((j1 : Int).toNat) (LCol.mk x51.name x51.kind false)) fun (y10 : List LCol) =>
      some (.next y10))))) 0 a a) fun fl1=>fl1.thenR fun (s1 : List LCol) =>
  some (s1,0))
theorem qZ (kind : Int) (a : List LCol) (b : List LCol) (r : (List LCol) × Int) (H : iw kind a b = some r) :
  aT Tryz.prog 98 [(al kind),(.list 49 (a.map aW)),(.list 49 (b.map aW))] (.tup [(.list 49 (r.1.map aW)),(al r.2)]) := by
 unfold iw at H
 refine PH.ax Tryz.func98 Tryz.ntmps98 ?_
 refine av 2 tk rfl (ab (ab (aa (ak tk rfl (aG tk (zl _) ?_)))))
 refine ak tk rfl (aG tk (zl _) ?_)
 refine ak tk rfl (ac ?_)
 refine aN rfl H (fun H=>?_) (fun H=>?_)
 ·refine av 2 tk rfl ?_
  obtain rfl := aI H
  refine bw tk rfl (ps := [(.val (.slice none 0 0)),(al 7)]) ⟨_,_,rfl,rfl,_,_,rfl,rfl,rfl⟩ (PLe.of2 (PLe2.tup (iB.cons (PLe2.nil tk rfl) (iB.cons (PLe2.of_eq rfl) iB.nil))))
 refine ao (ab (aa (ak tk rfl ?_)))
 have s16 := ql (m := 16) a
 refine ln (g := 77) rfl rfl rfl Tryz.call77 (fu.r) rfl rfl s16 (fun g16=>?_)
 refine ak tk rfl (ac (ab (ab (aa (ak tk rfl (aG tk (zl _) ?_))))))
 refine ak tk rfl (ac ?_)
 refine fC (γ := OwnRef) tk 19 18 1 (fun s1 g1=>upd (upd (upd (fun _=>.any) 8 (.own 16 g1 (s1.map aW).length)) 2 (.list 49 (b.map aW))) 0 (al kind)) nB (fun s1 g1=>upd (fun _=>none) 16 (some ⟨g1,49,(s1.map aW),true⟩)) g16 H (fun fl1 Hp1 j1 s1 g1 hz1 hl1 x1 fb1 hx1 H hg1=>?_) (fun s1 g1 H=>?_)
 ·refine ab (ap (av 2 tk rfl (ab (ab ?_))))
  refine gL (tag := 16) rfl (fun ho16=>?_)
  refine aJ tk mok ⟨false,false,[]⟩ [0,1,2,3,4,5,6,7,8,9,10] rfl (by decide +kernel) rfl (bc 2 rfl ?_)
  refine bT (zn j1) (bD (fun _=>rfl) hx1) ?_
  refine bc 4 rfl ?_
  obtain ⟨x29,k29,H⟩ := bL H
  refine bT k29.1 (aX (fun _=>rfl) k29.2) ?_
  refine bc 3 rfl (aP ?_)
  refine aN rfl H (fun H=>?_) (fun H=>?_)
  ·refine av 2 tk rfl ?_
   obtain rfl := aI H
   have e1 : fl1 = .ret _ := hg1
   subst e1
   obtain rfl := bi Hp1
   refine bw tk rfl (ps := [(.val (.slice none 0 0)),(al 7)]) ⟨_,_,rfl,rfl,_,_,rfl,rfl,rfl⟩ (PLe.of2 (PLe2.tup (iB.cons (PLe2.nil tk rfl) (iB.cons (PLe2.of_eq rfl) iB.nil))))
  refine ao (aa (aj 4 tk rfl ?_))
  refine bd tk (zn j1) (bD (fun _=>rfl) hx1) ?_
  refine aj 3 tk rfl ?_
  refine bF rfl rfl rfl H (fun H=>?_) (fun H=>?_)
  ·refine aj 10 tk rfl ?_
   obtain ⟨x51,k51,H⟩ := bL H
   refine mj (tag := 16) rfl (fun ho16=>?_)
   refine lp tk ⟨k51.1,(dT k51.2)⟩ (dY ho16 k51.2) ?_
   refine ak tk rfl ?_
   obtain ⟨y8,hy8,H⟩ := db H
   refine mS tk rfl rfl rfl rfl rfl rfl rfl rfl (by rw [zl]; exact (zg.1 k51.2).1) (PLe.refl _ _) rfl rfl rfl rfl (by decide) (fM (fun _=>rfl) k51.2 rfl hy8) ?_
   refine ac (aw (bm 2 tk rfl ?_))
   exact bG g1 H hl1 hg1 (Gh.le (ay (ay (bP (PLe.q (eF (by omega))) (ay (ay (bP (PLe.of2 (PLe2.of_eq (congrArg (PV.own 16 g1) (fh (f := aW) hy8)))) br)))))) aV (bI aU))
  refine aj 3 tk rfl ?_
  refine bF rfl rfl rfl H (fun H=>?_) (fun H=>?_)
  ·refine aj 2 tk rfl ?_
   obtain ⟨x46,k46,H⟩ := bL H
   refine bd tk k46.1 (aX (fun _=>rfl) k46.2) ?_
   refine aj 4 tk rfl ?_
   obtain ⟨x51,k51,H⟩ := bL H
   refine mj (tag := 16) rfl (fun ho16=>?_)
   refine lp tk ⟨k51.1,(dT k51.2)⟩ (dY ho16 k51.2) ?_
   refine ak tk rfl ?_
   obtain ⟨y9,hy9,H⟩ := db H
   refine mS tk rfl rfl rfl rfl rfl rfl rfl rfl (by rw [zl]; exact (zg.1 k51.2).1) (PLe.refl _ _) rfl rfl rfl rfl (by decide) (fM (fun _=>rfl) k51.2 rfl hy9) ?_
   refine ac (aw (bm 2 tk rfl ?_))
   exact bG g1 H hl1 hg1 (Gh.le (ay (ay (bP (PLe.q (eF (by omega))) (ay (ay (bP (PLe.of2 (PLe2.of_eq (congrArg (PV.own 16 g1) (fh (f := aW) hy9)))) br)))))) aV (bI aU))
  refine aj 7 tk rfl ?_
  obtain ⟨x51,k51,H⟩ := bL H
  refine mj (tag := 16) rfl (fun ho16=>?_)
  refine lp tk ⟨k51.1,(dT k51.2)⟩ (dY ho16 k51.2) ?_
  refine ak tk rfl ?_
  obtain ⟨y10,hy10,H⟩ := db H
  refine mS tk rfl rfl rfl rfl rfl rfl rfl rfl (by rw [zl]; exact (zg.1 k51.2).1) (PLe.refl _ _) rfl rfl rfl rfl (by decide) (fM (fun _=>rfl) k51.2 rfl hy10) ?_
  refine ac (aw (bm 2 tk rfl ?_))
  exact bG g1 H hl1 hg1 (Gh.le (ay (ay (bP (PLe.q (eF (by omega))) (ay (ay (bP (PLe.of2 (PLe2.of_eq (congrArg (PV.own 16 g1) (fh (f := aW) hy10)))) br)))))) aV (bI aU))
 refine av 3 tk rfl (eo 6 rfl rfl rfl ?_)
 exact bu tk H rfl
def dI (sA : List (List UInt8)) (v : List UInt8) : Option (Bool) :=
 ah (dA sA v) fun x7 =>
 some (decide (x7 ≥ (0 : Int)))
theorem ly (sA : List (List UInt8)) (v : List UInt8) (r : Bool) (H : dI sA v = some r) :
  aT Tryz.prog 126 [(.list 9 (sA.map gn)),(.str v)] (aL r) := by
 unfold dI at H
 refine PH.ax Tryz.func126 Tryz.ntmps126 ?_
 refine av 1 tk rfl (ab (aa (aj 2 tk rfl ?_)))
 obtain ⟨x7,h7,H⟩ := aE H
 have s7 := jC sA v _ h7
 refine ae Tryz.call48 (fu.r) s7 ?_
 refine aj 2 tk rfl (ac ?_)
 exact bu tk H rfl
def cd (sA : List LCol) (f : LCol → Option (Bool)) : Option (Bool) :=
 ah (cG sA f) fun x7 =>
 some (decide (x7 ≥ (0 : Int)))
theorem jB {g_f : FuncId} {caps_f : List PV} (sA : List LCol) (f : LCol → Option (Bool)) (hg_f : ∀ (vs : Array Value) (w : World),(callFunc g_f vs).run Tryz.prog w = .ok (.enter g_f vs) w) (hp_f : ∀ a0 r,f a0 = some r → aT Tryz.prog g_f ((.agg (aW a0)) :: caps_f) (aL r)) (r : Bool) (H : cd sA f = some r) :
  aT Tryz.prog 75 [(.list 49 (sA.map aW)),(.fn g_f caps_f)] (aL r) := by
 unfold cd at H
 refine PH.ax Tryz.func75 Tryz.ntmps75 ?_
 refine av 1 tk rfl (ab (aa (aj 2 tk rfl ?_)))
 obtain ⟨x7,h7,H⟩ := aE H
 have s7 := gJ sA f hg_f hp_f _ h7
 refine ae Tryz.call82 (fu.r) s7 ?_
 refine aj 2 tk rfl (ac ?_)
 exact bu tk H rfl
def ef (t : LTable) (row : Rq) : Option (Int) :=
 cond ((row.length : Int) != (t.columns.length : Int))
  (some 3)
  (ah (aM (σ := Unit) (ρ := (Int)) (fun (j1 : Nat) (x1 : LVal) (_ : Unit) =>
   bH (dv x1) fun x22 =>
   cond (x22 != (0 : Int))
    (some (.ret x22))
    (ah (
     cond (x1.kind == (0 : Int))
      (ah (aO t.columns (j1 : Int)) fun (x33 : LCol) =>
      some (!x33.nullable))
      (some false)) fun (t3 : Bool) =>
    cond t3
     (some (.ret 8))
     (cond (x1.kind != (0 : Int))
      (ah (aO t.columns (j1 : Int)) fun (x47 : LCol) =>
      cond (x1.kind != x47.kind)
       (some (.ret 7))
       (some (.next ())))
      (some (.next ()))))) 0 row ()) fun fl1=>fl1.thenR fun (_ : Unit) =>
  some 0)
theorem pg (t : LTable) (row : Rq) (r : Int) (H : ef t row = some r) :
  aT Tryz.prog 26 [(.agg (cL t)),(.list 54 (row.map af))] (al r) := by
 unfold ef at H
 refine PH.ax Tryz.func26 Tryz.ntmps26 ?_
 refine ab (aa (au ?_))
 refine ak tk rfl (ac (ab (ab (aa (ak tk rfl (aG tk (zl _) ?_))))))
 refine aj 2 tk rfl (aG tk (zl _) ?_)
 refine ak tk rfl (ac ?_)
 refine aN rfl H (fun H=>?_) (fun H=>?_)
 ·refine av 1 tk rfl ?_
  exact bu tk H rfl
 refine ao (ab (ab (aa (ak tk rfl (aG tk (zl _) ?_)))))
 refine ak tk rfl (ac ?_)
 refine fC tk 16 15 14 (fun s1 g1=>upd (fun _=>.any) 2 (.ptr (cL t))) nB nO () H (fun fl1 Hp1 j1 s1 g1 hz1 hl1 x1 fb1 hx1 H hg1=>?_) (fun s1 g1 H=>?_)
 ·refine ab (ap (ab (aa (ak tk rfl ?_))))
  refine bd tk (zn j1) (bD (fun _=>rfl) hx1) ?_
  refine ak tk rfl ?_
  refine aY tk fun b6=>?_
  refine ak tk rfl (ag tk ?_)
  refine ac (ab (ab (aa (ai tk ?_))))
  obtain ⟨x22,h22,H⟩ := db H
  have s22 := nH x1
  rw [h22] at s22
  refine ae Tryz.call43 (fu.r) s22 ?_
  refine ak tk rfl (ac (av 2 tk rfl ?_))
  refine aN rfl H (fun H=>?_) (fun H=>?_)
  ·refine av 2 tk rfl ?_
   obtain rfl := aI H
   have e1 : fl1 = .ret _ := hg1
   subst e1
   obtain rfl := bi Hp1
   refine bw tk rfl (ps := [(al x22)]) ⟨_,_,rfl,rfl,rfl⟩ (PLe.q rfl)
  refine ao (ab (ab ?_))
  refine gS (γ := Unit) (fun t3 g3=>⟨53,upd (upd (upd (upd (upd (upd (upd (fun _=>.any) 37 (aL t3)) 16 (al (j1 : Int))) 15 (al (row.length : Int))) 14 (.list 54 (row.map af))) 6 (.box 6 b6 0)) 5 (al (j1 : Int))) 2 (.ptr (cL t)),upd (fun _=>none) 6 (some ⟨b6,(af x1)⟩),fun _=>none⟩) H (fun _ H=>?_) (fun t3 g3 H=>?_)
  ·refine aa (ak tk rfl (ai tk ?_))
   refine aj 2 tk rfl ?_
   refine bF rfl rfl rfl H (fun H=>?_) (fun H=>?_)
   ·refine aj 3 tk rfl ?_
    obtain ⟨x33,k33,H⟩ := bL H
    refine bd tk k33.1 (aX (fun _=>rfl) k33.2) ?_
    refine aj 4 tk rfl (ac ?_)
    refine bp _ () (aI H) Gh.d
   refine aj 8 tk rfl (ac ?_)
   refine bp _ () (aI H) Gh.d
  refine aN rfl H (fun H=>?_) (fun H=>?_)
  ·refine av 1 tk rfl ?_
   obtain rfl := aI H
   have e1 : fl1 = .ret _ := hg1
   subst e1
   obtain rfl := bi Hp1
   refine bw tk rfl (ps := [(al 8)]) ⟨_,_,rfl,rfl,rfl⟩ (PLe.q rfl)
  refine ao (ab (aJ tk mok ⟨true,false,[45,49]⟩ [0,1,2,3,4,5,6,7,8,9,10,11,12,13] rfl (by decide +kernel) rfl (bo rfl (aH ?_))))
  refine bc 2 rfl ?_
  refine mL H (fun H=>?_) (fun H=>?_)
  ·refine bo rfl (aH ?_)
   refine bc 3 rfl ?_
   obtain ⟨x47,k47,H⟩ := bL H
   refine bT k47.1 (aX (fun _=>rfl) k47.2) ?_
   refine bc 4 rfl (aP ?_)
   refine aN rfl H (fun H=>?_) (fun H=>?_)
   ·refine av 1 tk rfl ?_
    obtain rfl := aI H
    have e1 : fl1 = .ret _ := hg1
    subst e1
    obtain rfl := bi Hp1
    refine bw tk rfl (ps := [(al 7)]) ⟨_,_,rfl,rfl,rfl⟩ (PLe.q rfl)
   refine ao (aw (bm 2 tk rfl ?_))
   exact bG () H hl1 hg1
  refine bc 10 rfl (aP (aB rfl (ao (aw (bm 2 tk rfl ?_)))))
  exact bG () H hl1 hg1
 refine av 1 tk rfl ?_
 exact bu tk H rfl
def jH (a : List UInt8) (b : List UInt8) : Int :=
 bH (eR a b) fun x7 =>
 x7
theorem rI (a : List UInt8) (b : List UInt8) :
  aT Tryz.prog 71 [(.str a),(.str b)] (al (jH a b)) := by
 obtain ⟨r,H⟩ : ∃ r,jH a b = r := ⟨_,rfl⟩
 rw [H]
 unfold jH at H
 refine PH.ax Tryz.func71 Tryz.ntmps71 ?_
 refine av 1 tk rfl (ab (aa (aj 2 tk rfl ?_)))
 obtain ⟨x7,h7,H⟩ := db H
 have s7 := lu a b
 rw [h7] at s7
 refine ae Tryz.call93 (fu.r) s7 ?_
 refine ak tk rfl (ac ?_)
 exact el tk H rfl
def bW (slices : Rz) : Option (Rq) :=
 ah (aM (σ := Int) (ρ := Empty) (fun (_ : Nat) (x1 : Rq) (s1 : Int) =>
  cond (decide ((IntKind.i64.wrap (s1 + (x1.length : Int))) < (0 : Int)))
   (none)
   (some (.next (IntKind.i64.wrap (s1 + (x1.length : Int)))))) 0 slices 0) fun fl1=>fl1.thenP fun (s1 : Int) =>
 ah (oD 32 s1) fun (_ : Unit) =>
 ah (aM (σ := Rq) (ρ := Empty) (fun (_ : Nat) (x2 : Rq) (s2 : Rq) =>
  ah (dL 32 s2 x2) fun (x33 : Rq) =>
  some (.next x33)) 0 slices []) fun fl2=>fl2.thenP fun (s2 : Rq) =>
 some s2
theorem iQ {m : Nat} (slices : Rz) (r : Rq) (H : bW slices = some r) :
  fE Tryz.prog 78 [(.list 55 (slices.map (aq 54 af)))] (kW m 54 (r.map af)) := by
 unfold bW at H
 refine PH.ax Tryz.func78 Tryz.ntmps78 ?_
 refine av 1 tk rfl (av 1 tk rfl (ab (ab (aa (ak tk rfl (aG tk (zl _) ?_))))))
 refine ak tk rfl (ac ?_)
 refine iv tk 11 10 9 (fun s1 g1=>upd (upd (fun _=>.any) 3 (al s1)) 0 (.list 55 (slices.map (aq 54 af)))) nB nO () H (fun fl1 Hp1 j1 s1 g1 hz1 hl1 x1 fb1 hx1 H hg1=>?_) (fun s1 g1 H=>?_)
 ·refine ab (ap (ab (aa ?_)))
  refine bd tk (zn j1) (bD (fun _=>rfl) hx1) ?_
  refine aj 2 tk rfl (ac (ab (aa (aj 2 tk rfl (aG tk (zl _) ?_)))))
  refine aj 2 tk rfl (ac (av 2 tk rfl ?_))
  refine aN rfl H (fun H=>?_) (fun H=>?_)
  ·cases H
  refine ao (aw (bm 2 tk rfl ?_))
  exact bG () H hl1 hg1
 refine ab (aa (ak tk rfl ?_))
 obtain ⟨_,h24,H⟩ := aE H
 have s24 := grow_101 (m := 24) s1 h24
 refine ln (g := 101) rfl rfl rfl Tryz.call101 (fu.r) rfl rfl s24 (fun g24=>?_)
 refine ak tk rfl (ac (ab (ab (aa (ak tk rfl (aG tk (zl _) ?_))))))
 refine ak tk rfl (ac ?_)
 refine iv (γ := OwnRef) tk 27 26 25 (fun s2 g2=>upd (fun _=>.any) 6 (.own 24 g2 (s2.map af).length)) nB (fun s2 g2=>upd (fun _=>none) 24 (some ⟨g2,54,(s2.map af),true⟩)) g24 H (fun fl2 Hp2 j2 s2 g2 hz2 hl2 x2 fb2 hx2 H hg2=>?_) (fun s2 g2 H=>?_)
 ·refine ab (ap (ab (aa ?_)))
  refine bd tk (zn j2) (bD (fun _=>rfl) hx2) ?_
  refine aj 2 tk rfl (ac (aa (aj 2 tk rfl ?_)))
  obtain ⟨x33,h33,H⟩ := aE H
  have k33 := cV h33
  refine cy (rows2' := List.map af x2) (rows' := List.map af x33) tk rfl rfl rfl rfl rfl rfl rfl rfl rfl rfl rfl rfl rfl (je.refl _) (eu k33.1) (er k33.2.1) (eB k33.2.2) fun g33=>?_
  refine ak tk rfl (ac (aw (bm 2 tk rfl ?_)))
  exact bG g33 H hl2 hg2
 refine av 2 tk rfl ?_
 obtain rfl := aI H
 refine iA tk rfl
def iT (y : Rq) (c0 : Rq) : Option (Bool) :=
 ah (cB c0 y) fun x6 =>
 some x6
theorem W_query_less_1 (y : Rq) (c0 : Rq) (r : Bool) (H : iT y c0 = some r) :
  aT Tryz.prog 80 [(.list 54 (y.map af)),(.ptr [(.list 54 (c0.map af))])] (aL r) := by
 unfold iT at H
 refine PH.ax Tryz.func80 Tryz.ntmps80 ?_
 refine av 1 tk rfl (ab (aa (aj 2 tk rfl ?_)))
 obtain ⟨x6,h6,H⟩ := aE H
 have s6 := gp c0 y _ h6
 refine ae Tryz.call21 (fu.r) s6 ?_
 refine ak tk rfl (ac ?_)
 exact bu tk H rfl
def dh (sA : Rz) (del : Rq → Option (Bool)) : Option Rz :=
 ah (bO sA del) fun x10 =>
 ah (eW (x10.2.length = sA.length) ()) fun (_ : Unit) =>
 cond (x10.1 == (-1))
  (some x10.2)
  (ah (fD (σ := Rz × Int × Int) (ρ := Empty) (fun (s1 : Rz × Int × Int) =>
   cond (decide (s1.2.2 < (s1.1.length : Int)))
    (ah (aO s1.1 s1.2.2) fun (x24 : Rq) =>
    ah (del x24) fun x28 =>
    cond (!x28)
     (ah (aO s1.1 s1.2.1) fun (_ : Rq) =>
     bH (s1.1.set s1.2.1.toNat x24) fun (y4 : Rz) =>
     some (.next (y4,(IntKind.i64.wrap (s1.2.1 + (1 : Int))),(IntKind.i64.wrap (s1.2.2 + (1 : Int))))))
     (some (.next (s1.1,s1.2.1,(IntKind.i64.wrap (s1.2.2 + (1 : Int)))))))
    (some (.brk (s1.1,s1.2.1,s1.2.2)))) (x10.2,x10.1,(IntKind.i64.wrap (x10.1 + (1 : Int))))) fun fl1=>fl1.thenP fun (s1 : Rz × Int × Int) =>
  ah (cutI s1.1 s1.2.1) fun (y5 : Rz) =>
  ah (cutI y5 s1.2.1) fun (y6 : Rz) =>
  some y6)
theorem kB (g_sA : OwnRef) {g_del : FuncId} {caps_del : List PV} (sA : Rz) (del : Rq → Option (Bool)) (hg_del : ∀ (vs : Array Value) (w : World),(callFunc g_del vs).run Tryz.prog w = .ok (.enter g_del vs) w) (hp_del : ∀ a0 r,del a0 = some r → aT Tryz.prog g_del ((.list 54 (a0.map af)) :: caps_del) (aL r)) (r : Rz) (H : dh sA del = some r) :
  PH Tryz.prog 56 [(.own 0 g_sA (sA.map (aq 54 af)).length),(.fn g_del caps_del)] ⟨fun _=>none,upd (fun _=>none) 0 (some ⟨g_sA,55,(sA.map (aq 54 af)),true⟩)⟩ (fun u H=>u = .own 0 g_sA (r.map (aq 54 af)).length ∧ H = ⟨fun _=>none,upd (fun _=>none) 0 (some ⟨g_sA,55,(r.map (aq 54 af)),true⟩)⟩) := by
 unfold dh at H
 refine PH.ax Tryz.func56 Tryz.ntmps56 ?_
 refine av 1 tk rfl (ab (aa (aj 2 tk rfl ?_)))
 obtain ⟨x10,h10,H⟩ := aE H
 have s10 := fv g_sA sA del hg_del hp_del _ h10
 obtain ⟨_,q10_0,H⟩ := aE H
 have l10_0 := (dE q10_0).1
 have z10_0 : (List.map (aq 54 af) sA).length = (List.map (aq 54 af) x10.2).length := by simpa using (l10_0).symm
 refine ew (g := 79) rfl rfl rfl Tryz.call79 [] [(0,0)] rfl rfl rfl rfl (fu.of2 (iB.cons (PLe2.own rfl) (iB.cons (PLe2.of_eq rfl) iB.nil))) (by rw [dS,dr,dQ]; rfl) s10 ?_
 rintro u10 H10h ⟨rfl,rfl⟩
 refine ⟨_,rfl,?_⟩
 refine dM (st' := ⟨_,_,fun _=>none,upd (fun _=>none) 0 (some ⟨g_sA,55,(x10.2.map (aq 54 af)),true⟩)⟩) (Gh.le (dj _ _) aV (bI aU)) ?_
 refine ak tk rfl (ac (ab (av 2 tk rfl ?_)))
 refine aN rfl H (fun H=>?_) (fun H=>?_)
 ·refine av 2 tk rfl ?_
  obtain rfl := aI H
  refine ce (st' := ⟨42,upd (fun _=>.any) 4 (.own 0 g_sA (sA.map (aq 54 af)).length),fun _=>none,upd (fun _=>none) 0 (some ⟨g_sA,55,(x10.2.map (aq 54 af)),true⟩)⟩) (Gh.le (ay br) aV (bI aU)) ?_
  refine mT tk rfl (ps := [(.own 0 g_sA (sA.map (aq 54 af)).length)]) ⟨_,_,rfl,rfl,rfl⟩ (PLe.of2 (PLe2.own z10_0)) ⟨rfl,rfl⟩
 refine ao (ab (av 3 tk rfl ?_))
 obtain ⟨fl1,H1,Hp1⟩ := aE H
 refine fA (τ := Rz × Int × Int) (γ := Unit) (fun s1 g1=>⟨42,upd (upd (fun _=>.any) 5 (al s1.2.1)) 0 (.own 0 g_sA (s1.1.map (aq 54 af)).length),fun _=>none,upd (fun _=>none) 0 (some ⟨g_sA,55,(s1.1.map (aq 54 af)),true⟩)⟩) (fun t=>fl1 = .next t) ?_ (fun s1 g1 hn1=>?_)
 ·refine ap ?_
  refine gM (fun s1 g1=>⟨42,upd (upd (upd (upd (fun _=>.any) 6 (al s1.2.2)) 5 (al s1.2.1)) 1 (.fn g_del caps_del)) 0 (.own 0 g_sA (s1.1.map (aq 54 af)).length),fun _=>none,upd (fun _=>none) 0 (some ⟨g_sA,55,(s1.1.map (aq 54 af)),true⟩)⟩) () H1 (Gh.le (bP (PLe.of2 (PLe2.of_eq (congrArg (PV.own 0 g_sA) z10_0))) (ay (ay (ay br)))) aV (bI aU)) (fun m1 s1 g1 hr1=>?_)
  obtain ⟨fb1,H,hg1⟩ := ft hr1
  refine ab (ab (aa (aj 2 tk rfl (gO tk (zl _) ?_))))
  refine ak tk rfl (ac ?_)
  refine aN rfl H (fun H=>?_) (fun H=>?_)
  ·refine ao (ab (ap (ab (aa (aj 2 tk rfl ?_)))))
   obtain ⟨x24,k24,H⟩ := bL H
   refine mj (tag := 0) rfl (fun ho0=>?_)
   refine lp tk ⟨k24.1,(dT k24.2)⟩ (dY ho0 k24.2) ?_
   refine jQ tk (aX (fun _=>rfl) k24.2) ?_
   refine ak tk rfl (ac (ab (aa (aj 2 tk rfl ?_))))
   obtain ⟨x28,h28,H⟩ := aE H
   refine ae hg_del (fu.r) (hp_del _ _ h28) ?_
   refine ak tk rfl (ac ?_)
   refine aN rfl H (fun H=>?_) (fun H=>?_)
   ·refine ab (aa (aj 3 tk rfl ?_))
    obtain ⟨x33,k33,H⟩ := bL H
    refine mj (tag := 0) rfl (fun ho0=>?_)
    refine lp tk ⟨k33.1,(dT k33.2)⟩ (dY ho0 k33.2) ?_
    obtain ⟨y4,hy4,H⟩ := db H
    refine mS tk rfl rfl rfl rfl rfl rfl rfl rfl (by rw [zl]; exact (zg.1 k33.2).1) (PLe.refl _ _) rfl rfl rfl rfl (by decide) (fM (fun _=>rfl) k33.2 rfl hy4) ?_
    refine ac (bm 3 tk rfl (aw (bm 3 tk rfl ?_)))
    obtain rfl := aI H
    refine eg (y4,(IntKind.i64.wrap (s1.2.1 + (1 : Int))),(IntKind.i64.wrap (s1.2.2 + (1 : Int)))) () hg1 (Gh.le (bP (PLe.of2 (PLe2.of_eq (congrArg (PV.own 0 g_sA) (fh (f := (aq 54 af)) hy4)))) (ay (ay (ay br)))) aV (bI aU))
   refine ao (aw (bm 3 tk rfl ?_))
   obtain rfl := aI H
   refine eg (s1.1,s1.2.1,(IntKind.i64.wrap (s1.2.2 + (1 : Int)))) () hg1 Gh.d
  refine aD rfl ?_
  obtain rfl := aI H
  refine bp (s1.1,s1.2.1,s1.2.2) () hg1 Gh.d
 have H := dC hn1 Hp1
 refine ab (aa (aj 2 tk rfl ?_))
 obtain ⟨y5,hy5,H⟩ := aE H
 have ky5 := cutI_some hy5
 refine Ao.ownC (tag := 0) rfl (fun hcy5=>?_)
 have hny5 : (s1.1.map (aq 54 af)).length = (List.map (aq 54 af) s1.1).length := rfl
 have hmy5 := ky5.2.1
 rw [← zl (f := (aq 54 af)),← hny5] at hmy5
 rw [← hny5] at hcy5
 refine sE (l := s1.2.1.toNat) (h := (s1.1.map (aq 54 af)).length) (m := g_sA.cap) tk rfl rfl rfl rfl rfl rfl ⟨_,_,rfl,(Int.toNat_of_nonneg ky5.1).symm⟩ rfl rfl (by decide) hmy5 hcy5 (Nat.le_refl _) rfl (dM (Gh.cutO (tag := 0) (rows' := List.map (aq 54 af) y5) rfl s1.2.1.toNat (by rw [← List.map_take,ky5.2.2])) ?_)
 refine sJ (tag := 0) (rows := List.map (aq 54 af) y5) tk rfl rfl rfl rfl rfl rfl rfl rfl rfl (p := s1.2.1.toNat) (q := (s1.1.map (aq 54 af)).length) (m := g_sA.cap) (by rw [zl,ky5.2.2,List.length_take]; exact Nat.min_le_left _ _) hmy5 hcy5 (Nat.le_refl _) rfl ?_
 refine ac (ab (aa (aj 2 tk rfl ?_)))
 obtain ⟨y6,hy6,H⟩ := aE H
 have ky6 := cutI_some hy6
 refine Ao.cutP (rows' := List.map (aq 54 af) y6) tk rfl rfl rfl rfl rfl rfl rfl rfl ⟨ky6.1,by rw [zl]; exact ky6.2.1⟩ (by rw [← List.map_take,ky6.2.2]) rfl rfl ?_
 refine ak tk rfl (ac ?_)
 obtain rfl := aI H
 refine ce (st' := ⟨42,upd (fun _=>.any) 4 (.own 0 g_sA (y6.map (aq 54 af)).length),fun _=>none,upd (fun _=>none) 0 (some ⟨g_sA,55,(y6.map (aq 54 af)),true⟩)⟩) (Gh.le (ay br) aV (bI aU)) ?_
 refine mT tk rfl (ps := [(.own 0 g_sA (y6.map (aq 54 af)).length)]) ⟨_,_,rfl,rfl,rfl⟩ (PLe.of2 (PLe2.own rfl)) ⟨rfl,rfl⟩
def fW (y : Rq) (c0 : Rq) : Option (Bool) :=
 ah (cB c0 y) fun x6 =>
 some x6
theorem qA (y : Rq) (c0 : Rq) (r : Bool) (H : fW y c0 = some r) :
  aT Tryz.prog 85 [(.list 54 (y.map af)),(.ptr [(.list 54 (c0.map af))])] (aL r) := by
 unfold fW at H
 refine PH.ax Tryz.func85 Tryz.ntmps85 ?_
 refine av 1 tk rfl (ab (aa (aj 2 tk rfl ?_)))
 obtain ⟨x6,h6,H⟩ := aE H
 have s6 := gp c0 y _ h6
 refine ae Tryz.call21 (fu.r) s6 ?_
 refine ak tk rfl (ac ?_)
 exact bu tk H rfl
def fF (op : List UInt8) (l : Rq) : Option (LVal) :=
 cond (op == ([99,111,117,110,116] : List UInt8))
  (bH (fN (l.length : Int)) fun x13 =>
  some x13)
  (cond ((l.length : Int) == (0 : Int))
   (some (LVal.mk 0 0 []))
   (ah (aO l 0) fun (x19 : LVal) =>
   ah (aM (σ := Int × LVal) (ρ := Empty) (fun (_ : Nat) (x1 : LVal) (s1 : Int × LVal) =>
    cond (op == ([109,105,110] : List UInt8))
     (bH (lh x1 s1.2) fun x36 =>
     cond x36
      (some (.next ((IntKind.i64.wrap (s1.1 + x1.int)),x1)))
      (cond (op == ([109,97,120] : List UInt8))
       (bH (lh s1.2 x1) fun x44 =>
       cond x44
        (some (.next ((IntKind.i64.wrap (s1.1 + x1.int)),x1)))
        (some (.next ((IntKind.i64.wrap (s1.1 + x1.int)),s1.2))))
       (some (.next ((IntKind.i64.wrap (s1.1 + x1.int)),s1.2)))))
     (cond (op == ([109,97,120] : List UInt8))
      (bH (lh s1.2 x1) fun x44 =>
      cond x44
       (some (.next ((IntKind.i64.wrap (s1.1 + x1.int)),x1)))
       (some (.next ((IntKind.i64.wrap (s1.1 + x1.int)),s1.2))))
      (some (.next ((IntKind.i64.wrap (s1.1 + x1.int)),s1.2))))) 0 l (0,x19)) fun fl1=>fl1.thenP fun (s1 : Int × LVal) =>
   cond (op == ([115,117,109] : List UInt8))
    (bH (fN s1.1) fun x52 =>
    some x52)
    (some s1.2)))
theorem nU (op : List UInt8) (l : Rq) (r : LVal) (H : fF op l = some r) :
  aT Tryz.prog 109 [(.str op),(.list 54 (l.map af))] (.agg (af r)) := by
 unfold fF at H
 refine PH.ax Tryz.func109 Tryz.ntmps109 ?_
 refine ab (aa ?_)
 refine aY tk fun b4=>?_
 refine ac (ab (av 2 tk rfl ?_))
 refine aN rfl H (fun H=>?_) (fun H=>?_)
 ·refine ab (aa (ak tk rfl (aG tk (zl _) ?_)))
  obtain ⟨x13,h13,H⟩ := db H
  have s13 := pN (l.length : Int)
  rw [h13] at s13
  refine ae Tryz.call108 (fu.r) s13 ?_
  refine ag tk ?_
  refine ac ?_
  exact sF tk H rfl rfl rfl rfl rfl
 refine ao (ab (ab (aa (ak tk rfl (aG tk (zl _) ?_)))))
 refine ak tk rfl (ac ?_)
 refine aN rfl H (fun H=>?_) (fun H=>?_)
 ·refine ab (aa (ak tk rfl (ag tk ?_)))
  refine ac ?_
  exact sF tk H rfl rfl rfl rfl rfl
 refine ao (ab (aa (ak tk rfl ?_)))
 obtain ⟨x19,k19,H⟩ := bL H
 refine bd tk k19.1 (aX (fun _=>rfl) k19.2) ?_
 refine ak tk rfl ?_
 refine aY tk fun b5=>?_
 refine ag tk ?_
 refine ac (av 1 tk rfl (ab (ab (aa (ak tk rfl (aG tk (zl _) ?_))))))
 refine ak tk rfl (ac ?_)
 refine iv tk 23 22 21 (fun s1 g1=>upd (upd (upd (upd (fun _=>.any) 6 (al s1.1)) 5 (.box 5 b5 0)) 4 (.box 4 b4 0)) 0 (.str op)) (fun s1 g1=>upd (upd (fun _=>none) 5 (some ⟨b5,(af s1.2)⟩)) 4 (some ⟨b4,[(al 0),(al 0),(.str [])]⟩)) nO () H (fun fl1 Hp1 j1 s1 g1 hz1 hl1 x1 fb1 hx1 H hg1=>?_) (fun s1 g1 H=>?_)
 ·refine ab (ap (ab (aa ?_)))
  refine bd tk (zn j1) (bD (fun _=>rfl) hx1) ?_
  refine ak tk rfl ?_
  refine aY tk fun b8=>?_
  refine ag tk ?_
  refine ac (ab (aa (aj 2 tk rfl (ai tk ?_))))
  refine aj 2 tk rfl (ac (ab (aa (aj 3 tk rfl ?_))))
  refine bF rfl rfl rfl H (fun H=>?_) (fun H=>?_)
  ·refine ai tk ?_
   refine ai tk ?_
   obtain ⟨x36,h36,H⟩ := db H
   have s36 := kT x1 s1.2
   rw [h36] at s36
   refine ae Tryz.call111 (fu.r) s36 ?_
   refine aj 2 tk rfl ?_
   refine bF rfl rfl rfl H (fun H=>?_) (fun H=>?_)
   ·refine aj 8 tk rfl (ac (aC rfl (aa (ai tk ?_))))
    refine ag tk ?_
    refine ac (aw (bm 2 tk rfl ?_))
    exact bG () H hl1 hg1
   refine aj 3 tk rfl ?_
   refine bF rfl rfl rfl H (fun H=>?_) (fun H=>?_)
   ·refine ai tk ?_
    refine ai tk ?_
    obtain ⟨x44,h44,H⟩ := db H
    have s44 := kT s1.2 x1
    rw [h44] at s44
    refine ae Tryz.call111 (fu.r) s44 ?_
    refine aj 2 tk rfl (ac ?_)
    refine aN rfl H (fun H=>?_) (fun H=>?_)
    ·refine aa (ai tk ?_)
     refine ag tk ?_
     refine ac (aw (bm 2 tk rfl ?_))
     exact bG () H hl1 hg1
    refine ao (aw (bm 2 tk rfl ?_))
    exact bG () H hl1 hg1
   refine aj 5 tk rfl (ac (aB rfl (ao (aw (bm 2 tk rfl ?_)))))
   exact bG () H hl1 hg1
  refine aj 8 tk rfl ?_
  refine bF rfl rfl rfl H (fun H=>?_) (fun H=>?_)
  ·refine ai tk ?_
   refine ai tk ?_
   obtain ⟨x44,h44,H⟩ := db H
   have s44 := kT s1.2 x1
   rw [h44] at s44
   refine ae Tryz.call111 (fu.r) s44 ?_
   refine aj 2 tk rfl (ac ?_)
   refine aN rfl H (fun H=>?_) (fun H=>?_)
   ·refine aa (ai tk ?_)
    refine ag tk ?_
    refine ac (aw (bm 2 tk rfl ?_))
    exact bG () H hl1 hg1
   refine ao (aw (bm 2 tk rfl ?_))
   exact bG () H hl1 hg1
  refine aj 5 tk rfl (ac (aB rfl (ao (aw (bm 2 tk rfl ?_)))))
  exact bG () H hl1 hg1
 refine ab (av 2 tk rfl ?_)
 refine aN rfl H (fun H=>?_) (fun H=>?_)
 ·refine ab (aa (ak tk rfl ?_))
  obtain ⟨x52,h52,H⟩ := db H
  have s52 := pN s1.1
  rw [h52] at s52
  refine ae Tryz.call108 (fu.r) s52 ?_
  refine ag tk ?_
  refine ac ?_
  exact sF tk H rfl rfl rfl rfl rfl
 refine ao (ab (aa (ai tk ?_)))
 refine ag tk ?_
 refine ac ?_
 exact sF tk H rfl rfl rfl rfl rfl
def dn (data : Rz) (a : Int) (m : Int) (b : Int) (cmp : Rq → Rq → Option (Int)) : Option (Rz) :=
 ah (fD (σ := Rz × Int × Int) (ρ := Empty) (fun (s1 : Rz × Int × Int) =>
  cond (s1.2.1 != s1.2.2)
   (cond (decide (s1.2.1 > s1.2.2))
    (ah (cv s1.1 (IntKind.i64.wrap (m - s1.2.1)) m s1.2.2 cmp) fun x31 =>
    ah (eW (x31.length = s1.1.length) ()) fun (_ : Unit) =>
    some (.next (x31,(IntKind.i64.wrap (s1.2.1 - s1.2.2)),s1.2.2)))
    (ah (cv s1.1 (IntKind.i64.wrap (m - s1.2.1)) (IntKind.i64.wrap ((IntKind.i64.wrap (m + s1.2.2)) - s1.2.1)) s1.2.1 cmp) fun x46 =>
    ah (eW (x46.length = s1.1.length) ()) fun (_ : Unit) =>
    some (.next (x46,s1.2.1,(IntKind.i64.wrap (s1.2.2 - s1.2.1))))))
   (some (.brk (s1.1,s1.2.1,s1.2.2)))) (data,(IntKind.i64.wrap (m - a)),(IntKind.i64.wrap (b - m)))) fun fl1=>fl1.thenP fun (s1 : Rz × Int × Int) =>
 ah (cv s1.1 (IntKind.i64.wrap (m - s1.2.1)) m s1.2.1 cmp) fun x57 =>
 ah (eW (x57.length = s1.1.length) ()) fun (_ : Unit) =>
 some x57
theorem lM (g_data : OwnRef) {g_cmp : FuncId} {caps_cmp : List PV} (data : Rz) (a : Int) (m : Int) (b : Int) (cmp : Rq → Rq → Option (Int)) (hg_cmp : ∀ (vs : Array Value) (w : World),(callFunc g_cmp vs).run Tryz.prog w = .ok (.enter g_cmp vs) w) (hp_cmp : ∀ a0 a1 r,cmp a0 a1 = some r → aT Tryz.prog g_cmp ((.list 54 (a0.map af)) :: (.list 54 (a1.map af)) :: caps_cmp) (al r)) (r : Rz) (H : dn data a m b cmp = some r) :
  PH Tryz.prog 129 [(.own 0 g_data (data.map (aq 54 af)).length),(al a),(al m),(al b),(.fn g_cmp caps_cmp)] ⟨fun _=>none,upd (fun _=>none) 0 (some ⟨g_data,55,(data.map (aq 54 af)),true⟩)⟩ (fun u H=>u = (.tup []) ∧ H = ⟨fun _=>none,upd (fun _=>none) 0 (some ⟨g_data,55,(r.map (aq 54 af)),true⟩)⟩) := by
 unfold dn at H
 refine PH.ax Tryz.func129 Tryz.ntmps129 ?_
 refine av 4 tk rfl (av 4 tk rfl (ab ?_))
 obtain ⟨fl1,H1,Hp1⟩ := aE H
 refine fA (τ := Rz × Int × Int) (γ := Unit) (fun s1 g1=>⟨58,upd (upd (upd (upd (fun _=>.any) 10 (al s1.2.1)) 4 (.fn g_cmp caps_cmp)) 2 (al m)) 0 (.own 0 g_data (s1.1.map (aq 54 af)).length),fun _=>none,upd (fun _=>none) 0 (some ⟨g_data,55,(s1.1.map (aq 54 af)),true⟩)⟩) (fun t=>fl1 = .next t) ?_ (fun s1 g1 hn1=>?_)
 ·refine ap ?_
  refine gM (fun s1 g1=>⟨58,upd (upd (upd (upd (upd (fun _=>.any) 11 (al s1.2.2)) 10 (al s1.2.1)) 4 (.fn g_cmp caps_cmp)) 2 (al m)) 0 (.own 0 g_data (s1.1.map (aq 54 af)).length),fun _=>none,upd (fun _=>none) 0 (some ⟨g_data,55,(s1.1.map (aq 54 af)),true⟩)⟩) () H1 Gh.d (fun m1 s1 g1 hr1=>?_)
  obtain ⟨fb1,H,hg1⟩ := ft hr1
  refine ab (av 3 tk rfl ?_)
  refine aN rfl H (fun H=>?_) (fun H=>?_)
  ·refine ao (ap (av 3 tk rfl ?_))
   refine aN rfl H (fun H=>?_) (fun H=>?_)
   ·refine ab (aa (aj 7 tk rfl ?_))
    obtain ⟨x31,h31,H⟩ := aE H
    have s31 := gc g_data s1.1 (IntKind.i64.wrap (m - s1.2.1)) m s1.2.2 cmp hg_cmp hp_cmp _ h31
    obtain ⟨_,q31_0,H⟩ := aE H
    have l31_0 := (dE q31_0).1
    have z31_0 : (List.map (aq 54 af) s1.1).length = (List.map (aq 54 af) x31).length := by simpa using (l31_0).symm
    refine ew (g := 136) rfl rfl rfl Tryz.call136 [] [(0,0)] rfl rfl rfl rfl (fu.of2 (iB.cons (PLe2.own rfl) (iB.cons (PLe2.of_eq rfl) (iB.cons (PLe2.of_eq rfl) (iB.cons (PLe2.of_eq rfl) (iB.cons (PLe2.of_eq rfl) iB.nil)))))) (by rw [dS,dr,dQ]; rfl) s31 ?_
    rintro u31 H31h ⟨rfl,rfl⟩
    refine ⟨_,rfl,?_⟩
    refine dM (st' := ⟨_,_,fun _=>none,upd (fun _=>none) 0 (some ⟨g_data,55,(x31.map (aq 54 af)),true⟩)⟩) (Gh.le (dj _ _) aV (bI aU)) ?_
    refine ac (bm 4 tk rfl (aw ?_))
    obtain rfl := aI H
    refine eg (x31,(IntKind.i64.wrap (s1.2.1 - s1.2.2)),s1.2.2) () hg1 (Gh.le (bP (PLe.of2 (PLe2.of_eq (congrArg (PV.own 0 g_data) z31_0))) (ay (ay (ay (ay br))))) aV (bI aU))
   refine ab (aa (aj 11 tk rfl ?_))
   obtain ⟨x46,h46,H⟩ := aE H
   have s46 := gc g_data s1.1 (IntKind.i64.wrap (m - s1.2.1)) (IntKind.i64.wrap ((IntKind.i64.wrap (m + s1.2.2)) - s1.2.1)) s1.2.1 cmp hg_cmp hp_cmp _ h46
   obtain ⟨_,q46_0,H⟩ := aE H
   have l46_0 := (dE q46_0).1
   have z46_0 : (List.map (aq 54 af) s1.1).length = (List.map (aq 54 af) x46).length := by simpa using (l46_0).symm
   refine ew (g := 136) rfl rfl rfl Tryz.call136 [] [(0,0)] rfl rfl rfl rfl (fu.of2 (iB.cons (PLe2.own rfl) (iB.cons (PLe2.of_eq rfl) (iB.cons (PLe2.of_eq rfl) (iB.cons (PLe2.of_eq rfl) (iB.cons (PLe2.of_eq rfl) iB.nil)))))) (by rw [dS,dr,dQ]; rfl) s46 ?_
   rintro u46 H46h ⟨rfl,rfl⟩
   refine ⟨_,rfl,?_⟩
   refine dM (st' := ⟨_,_,fun _=>none,upd (fun _=>none) 0 (some ⟨g_data,55,(x46.map (aq 54 af)),true⟩)⟩) (Gh.le (dj _ _) aV (bI aU)) ?_
   refine ac (bm 4 tk rfl (aw ?_))
   obtain rfl := aI H
   refine eg (x46,s1.2.1,(IntKind.i64.wrap (s1.2.2 - s1.2.1))) () hg1 (Gh.le (bP (PLe.of2 (PLe2.of_eq (congrArg (PV.own 0 g_data) z46_0))) (ay (ay (ay (ay br))))) aV (bI aU))
  refine aD rfl ?_
  obtain rfl := aI H
  refine bp (s1.1,s1.2.1,s1.2.2) () hg1 Gh.d
 have H := dC hn1 Hp1
 refine aa (aj 7 tk rfl ?_)
 obtain ⟨x57,h57,H⟩ := aE H
 have s57 := gc g_data s1.1 (IntKind.i64.wrap (m - s1.2.1)) m s1.2.1 cmp hg_cmp hp_cmp _ h57
 obtain ⟨_,q57_0,H⟩ := aE H
 have l57_0 := (dE q57_0).1
 have z57_0 : (List.map (aq 54 af) s1.1).length = (List.map (aq 54 af) x57).length := by simpa using (l57_0).symm
 refine ew (g := 136) rfl rfl rfl Tryz.call136 [] [(0,0)] rfl rfl rfl rfl (fu.of2 (iB.cons (PLe2.own rfl) (iB.cons (PLe2.of_eq rfl) (iB.cons (PLe2.of_eq rfl) (iB.cons (PLe2.of_eq rfl) (iB.cons (PLe2.of_eq rfl) iB.nil)))))) (by rw [dS,dr,dQ]; rfl) s57 ?_
 rintro u57 H57h ⟨rfl,rfl⟩
 refine ⟨_,rfl,?_⟩
 refine dM (st' := ⟨_,_,fun _=>none,upd (fun _=>none) 0 (some ⟨g_data,55,(x57.map (aq 54 af)),true⟩)⟩) (Gh.le (dj _ _) aV (bI aU)) ?_
 refine ac ?_
 obtain rfl := aI H
 refine ce (st' := ⟨58,fun _=>.any,fun _=>none,upd (fun _=>none) 0 (some ⟨g_data,55,(x57.map (aq 54 af)),true⟩)⟩) (Gh.le br aV (bI aU)) ?_
 refine lH rfl (PLe.q rfl) ⟨rfl,rfl⟩
def fX (t : LTable) (name : List UInt8) : Option (Int × Bool) :=
 ah (cG t.columns (fun a0=>some (dR a0 name))) fun x10 =>
 some ((if (0 : Int) > x10 then (0 : Int) else x10),(decide (x10 ≥ (0 : Int))))
theorem qD (t : LTable) (name : List UInt8) (r : Int × Bool) (H : fX t name = some r) :
  aT Tryz.prog 65 [(.agg (cL t)),(.str name)] (.tup [(al r.1),(aL r.2)]) := by
 unfold fX at H
 refine PH.ax Tryz.func65 Tryz.ntmps65 ?_
 refine ab (aa (au ?_))
 refine au ?_
 refine aj 2 tk rfl (ac (ab (aa (aj 3 tk rfl ?_))))
 obtain ⟨x10,h10,H⟩ := aE H
 have s10 := gJ t.columns (fun a0=>some (dR a0 name)) Tryz.call90 (fun a0 r h=>(aI h) ▸ pm a0 name) _ h10
 refine ae Tryz.call82 (fu.r) s10 ?_
 refine ak tk rfl (ac (av 6 tk rfl ?_))
 exact bu tk H rfl
def fK (sA : LSchema) (name : List UInt8) : Option (Int × Bool) :=
 ah (cO sA.tables (fun a0=>some (cZ a0 name))) fun x10 =>
 some ((if (0 : Int) > x10 then (0 : Int) else x10),(decide (x10 ≥ (0 : Int))))
theorem kI (sA : LSchema) (name : List UInt8) (r : Int × Bool) (H : fK sA name = some r) :
  aT Tryz.prog 66 [(.agg (cp sA)),(.str name)] (.tup [(al r.1),(aL r.2)]) := by
 unfold fK at H
 refine PH.ax Tryz.func66 Tryz.ntmps66 ?_
 refine ab (aa (au ?_))
 refine au ?_
 refine aj 2 tk rfl (ac (ab (aa (aj 3 tk rfl ?_))))
 obtain ⟨x10,h10,H⟩ := aE H
 have s10 := gY sA.tables (fun a0=>some (cZ a0 name)) Tryz.call92 (fun a0 r h=>(aI h) ▸ pO a0 name) _ h10
 refine ae Tryz.call91 (fu.r) s10 ?_
 refine ak tk rfl (ac (av 6 tk rfl ?_))
 exact bu tk H rfl
def gG (a : LForeignKey) (b : LForeignKey) : Option (Bool) :=
 cond (a.table == b.table)
  (ah (fO a.columns b.columns) fun x15 =>
  cond x15
   (some (a.refTable == b.refTable))
   (some false))
  (some false)
theorem np (a : LForeignKey) (b : LForeignKey) (r : Bool) (H : gG a b = some r) :
  aT Tryz.prog 40 [(.agg (ju a)),(.agg (ju b))] (aL r) := by
 unfold gG at H
 refine PH.ax Tryz.func40 Tryz.ntmps40 ?_
 refine ab (aa (au ?_))
 refine au ?_
 refine ak tk rfl (ac (ab (aa (aj 6 tk rfl ?_))))
 refine bF rfl rfl rfl H (fun H=>?_) (fun H=>?_)
 ·refine aj 4 tk rfl ?_
  obtain ⟨x15,h15,H⟩ := aE H
  have s15 := oC a.columns b.columns _ h15
  refine ae Tryz.call68 (fu.r) s15 ?_
  refine aj 2 tk rfl ?_
  refine bF rfl rfl rfl H (fun H=>?_) (fun H=>?_)
  ·refine aj 7 tk rfl (ac ?_)
   exact bu tk H rfl
  refine aj 7 tk rfl (ac ?_)
  exact bu tk H rfl
 refine aj 14 tk rfl (ac ?_)
 exact bu tk H rfl
def bZ (sA : List LForeignKey) (f : LForeignKey → Option (Bool)) : Option (Bool) :=
 ah (cJ sA f) fun x7 =>
 some (decide (x7 ≥ (0 : Int)))
theorem iD {g_f : FuncId} {caps_f : List PV} (sA : List LForeignKey) (f : LForeignKey → Option (Bool)) (hg_f : ∀ (vs : Array Value) (w : World),(callFunc g_f vs).run Tryz.prog w = .ok (.enter g_f vs) w) (hp_f : ∀ a0 r,f a0 = some r → aT Tryz.prog g_f ((.agg (ju a0)) :: caps_f) (aL r)) (r : Bool) (H : bZ sA f = some r) :
  aT Tryz.prog 38 [(.list 94 (sA.map ju)),(.fn g_f caps_f)] (aL r) := by
 unfold bZ at H
 refine PH.ax Tryz.func38 Tryz.ntmps38 ?_
 refine av 1 tk rfl (ab (aa (aj 2 tk rfl ?_)))
 obtain ⟨x7,h7,H⟩ := aE H
 have s7 := iV sA f hg_f hp_f _ h7
 refine ae Tryz.call67 (fu.r) s7 ?_
 refine aj 2 tk rfl (ac ?_)
 exact bu tk H rfl
def cg (sA : List LConstraint) (v : LConstraint) : Option (Bool) :=
 ah (cW sA v) fun x7 =>
 some (decide (x7 ≥ (0 : Int)))
theorem jc (sA : List LConstraint) (v : LConstraint) (r : Bool) (H : cg sA v = some r) :
  aT Tryz.prog 42 [(.list 100 (sA.map ku)),(.agg (ku v))] (aL r) := by
 unfold cg at H
 refine PH.ax Tryz.func42 Tryz.ntmps42 ?_
 refine ab (aa (au ?_))
 refine ak tk rfl (ac (ab (aa (aj 2 tk rfl ?_))))
 obtain ⟨x7,h7,H⟩ := aE H
 have s7 := jr sA v _ h7
 refine ae Tryz.call70 (fu.r) s7 ?_
 refine aj 2 tk rfl (ac ?_)
 exact bu tk H rfl
def gd (x : Rq) (y : Rq) : Option (Bool) :=
 ah (cB x y) fun x7 =>
 some x7
theorem pe (x : Rq) (y : Rq) (r : Bool) (H : gd x y = some r) :
  aT Tryz.prog 20 [(.list 54 (x.map af)),(.list 54 (y.map af))] (aL r) := by
 unfold gd at H
 refine PH.ax Tryz.func20 Tryz.ntmps20 ?_
 refine av 1 tk rfl (ab (aa (aj 2 tk rfl ?_)))
 obtain ⟨x7,h7,H⟩ := aE H
 have s7 := gp x y _ h7
 refine ae Tryz.call21 (fu.r) s7 ?_
 refine ak tk rfl (ac ?_)
 exact bu tk H rfl
def dl (kinds : List Int) (c0 : LQuery) : Option (Bool) :=
 ah (eY kinds c0.kind) fun x7 =>
 some x7
theorem fq (kinds : List Int) (c0 : LQuery) (r : Bool) (H : dl kinds c0 = some r) :
  aT Tryz.prog 94 [(.list 3 (kinds.map bV)),(.ptr (aK c0))] (aL r) := by
 unfold dl at H
 refine PH.ax Tryz.func94 Tryz.ntmps94 ?_
 refine av 1 tk rfl (ab (aa (aj 3 tk rfl ?_)))
 obtain ⟨x7,h7,H⟩ := aE H
 have s7 := mZ kinds c0.kind _ h7
 refine ae Tryz.call95 (fu.r) s7 ?_
 refine ak tk rfl (ac ?_)
 exact bu tk H rfl
def fg (q : LQuery) (args : Rq) : Option (Int) :=
 ah (fe q) fun x11 =>
 cond (x11.2 != (0 : Int))
  (some x11.2)
  (cond (decide ((args.length : Int) < (x11.1.length : Int)))
   (some 1)
   (ah (aM (σ := Unit) (ρ := (Int)) (fun (j1 : Nat) (x1 : Int) (_ : Unit) =>
    ah (aO args (j1 : Int)) fun (x31 : LVal) =>
    bH (dW x31) fun x33 =>
    cond (!x33)
     (some (.ret 7))
     (cond (x1 != (0 : Int))
      (ah (aO args (j1 : Int)) fun (x41 : LVal) =>
      cond (x41.kind != x1)
       (ah (aO args (j1 : Int)) fun (x50 : LVal) =>
       cond (x50.kind != (0 : Int))
        (some (.ret 7))
        (some (.next ())))
       (some (.next ())))
      (some (.next ())))) 0 x11.1 ()) fun fl1=>fl1.thenR fun (_ : Unit) =>
   some 0))
theorem lf (q : LQuery) (args : Rq) (r : Int) (H : fg q args = some r) :
  aT Tryz.prog 13 [(.agg (aK q)),(.list 54 (args.map af))] (al r) := by
 unfold fg at H
 refine PH.ax Tryz.func13 Tryz.ntmps13 ?_
 refine ab (aa (au ?_))
 refine ak tk rfl (ac (ab (aa (ak tk rfl ?_))))
 obtain ⟨x11,h11,H⟩ := aE H
 have s11 := la q _ h11
 refine ae Tryz.call29 (fu.r) s11 ?_
 refine aj 5 tk rfl (ac (ab (av 2 tk rfl ?_)))
 refine aN rfl H (fun H=>?_) (fun H=>?_)
 ·refine av 2 tk rfl ?_
  exact bu tk H rfl
 refine ao (ab (ab (aa (ak tk rfl (aG tk (zl _) ?_)))))
 refine ak tk rfl (aG tk (zl _) ?_)
 refine ak tk rfl (ac ?_)
 refine aN rfl H (fun H=>?_) (fun H=>?_)
 ·refine av 1 tk rfl ?_
  exact bu tk H rfl
 refine ao (ab (ab (aa (ak tk rfl (aG tk (zl _) ?_)))))
 refine ak tk rfl (ac ?_)
 refine fC tk 24 23 22 (fun s1 g1=>upd (fun _=>.any) 1 (.list 54 (args.map af))) nB nO () H (fun fl1 Hp1 j1 s1 g1 hz1 hl1 x1 fb1 hx1 H hg1=>?_) (fun s1 g1 H=>?_)
 ·refine ab (ap (ab (aa (ak tk rfl ?_))))
  refine bd tk (zn j1) (bD (fun _=>rfl) hx1) ?_
  refine aj 3 tk rfl (ac (ab (aa (aj 2 tk rfl ?_))))
  obtain ⟨x31,k31,H⟩ := bL H
  refine bd tk k31.1 (aX (fun _=>rfl) k31.2) ?_
  refine ak tk rfl ?_
  obtain ⟨x33,h33,H⟩ := db H
  have s33 := pi x31
  rw [h33] at s33
  refine ae Tryz.call30 (fu.r) s33 ?_
  refine aj 2 tk rfl ?_
  refine bF rfl rfl rfl H (fun H=>?_) (fun H=>?_)
  ·refine aj 20 tk rfl (ac (aC rfl (av 1 tk rfl ?_)))
   obtain rfl := aI H
   have e1 : fl1 = .ret _ := hg1
   subst e1
   obtain rfl := bi Hp1
   refine bw tk rfl (ps := [(al 7)]) ⟨_,_,rfl,rfl,rfl⟩ (PLe.q rfl)
  refine aj 3 tk rfl ?_
  refine bF rfl rfl rfl H (fun H=>?_) (fun H=>?_)
  ·refine aj 2 tk rfl ?_
   obtain ⟨x41,k41,H⟩ := bL H
   refine bd tk k41.1 (aX (fun _=>rfl) k41.2) ?_
   refine aj 6 tk rfl ?_
   refine bF rfl rfl rfl H (fun H=>?_) (fun H=>?_)
   ·refine aj 2 tk rfl ?_
    obtain ⟨x50,k50,H⟩ := bL H
    refine bd tk k50.1 (aX (fun _=>rfl) k50.2) ?_
    refine aj 5 tk rfl (ac ?_)
    refine aN rfl H (fun H=>?_) (fun H=>?_)
    ·refine av 1 tk rfl ?_
     obtain rfl := aI H
     have e1 : fl1 = .ret _ := hg1
     subst e1
     obtain rfl := bi Hp1
     refine bw tk rfl (ps := [(al 7)]) ⟨_,_,rfl,rfl,rfl⟩ (PLe.q rfl)
    refine ao (aw (bm 2 tk rfl ?_))
    exact bG () H hl1 hg1
   refine aj 8 tk rfl (ac (aB rfl (ao (aw (bm 2 tk rfl ?_)))))
   exact bG () H hl1 hg1
  refine aj 17 tk rfl (ac (aB rfl (ao (aw (bm 2 tk rfl ?_)))))
  exact bG () H hl1 hg1
 refine av 1 tk rfl ?_
 exact bu tk H rfl
def js (a : LVal) (b : LVal) : Int :=
 bH (fY a.kind b.kind) fun x11 =>
 cond (x11 != (0 : Int))
  (x11)
  (bH (fY a.int b.int) fun x19 =>
  cond (x19 != (0 : Int))
   (x19)
   (bH (jH a.text b.text) fun x27 =>
   x27))
theorem oG (a : LVal) (b : LVal) :
  aT Tryz.prog 44 [(.agg (af a)),(.agg (af b))] (al (js a b)) := by
 obtain ⟨r,H⟩ : ∃ r,js a b = r := ⟨_,rfl⟩
 rw [H]
 unfold js at H
 refine PH.ax Tryz.func44 Tryz.ntmps44 ?_
 refine ab (aa (au ?_))
 refine au ?_
 refine ak tk rfl (ac (ab (ab (aa (aj 4 tk rfl ?_)))))
 obtain ⟨x11,h11,H⟩ := db H
 have s11 := km a.kind b.kind
 rw [h11] at s11
 refine ae Tryz.call45 (fu.r) s11 ?_
 refine ak tk rfl (ac (av 2 tk rfl ?_))
 refine aN rfl H (fun H=>?_) (fun H=>?_)
 ·refine av 2 tk rfl ?_
  exact el tk H rfl
 refine ao (ab (ab (aa (aj 4 tk rfl ?_))))
 obtain ⟨x19,h19,H⟩ := db H
 have s19 := km a.int b.int
 rw [h19] at s19
 refine ae Tryz.call45 (fu.r) s19 ?_
 refine ak tk rfl (ac (av 2 tk rfl ?_))
 refine aN rfl H (fun H=>?_) (fun H=>?_)
 ·refine av 2 tk rfl ?_
  exact el tk H rfl
 refine ao (ab (aa (aj 4 tk rfl ?_)))
 obtain ⟨x27,h27,H⟩ := db H
 have s27 := rI a.text b.text
 rw [h27] at s27
 refine ae Tryz.call71 (fu.r) s27 ?_
 refine ak tk rfl (ac ?_)
 exact el tk H rfl
def kC (a : Rz) (b : Rz) : Option (Rz) :=
 ah (aM (σ := Rz × Rz) (ρ := Empty) (fun (_ : Nat) (x1 : Rq) (s1 : Rz × Rz) =>
  ah (bO s1.1 (fun a0=>iT a0 x1)) fun x20 =>
  ah (eW (x20.2.length = s1.1.length) ()) fun (_ : Unit) =>
  cond (decide (x20.1 ≥ (0 : Int)))
   (ah (delI x20.2 x20.1 (IntKind.i64.wrap (x20.1 + (1 : Int)))) fun x27 =>
   some (.next (x27,s1.2)))
   (ah (dL 24 s1.2 ([x1] : Rz)) fun (x31 : Rz) =>
   some (.next (x20.2,x31)))) 0 a (b,[])) fun fl1=>fl1.thenP fun (s1 : Rz × Rz) =>
 some s1.2
theorem W_query_less (a : Rz) (b : Rz) (r : Rz) (H : kC a b = some r) :
  aT Tryz.prog 54 [(.list 55 (a.map (aq 54 af))),(.list 55 (b.map (aq 54 af)))] (.list 55 (r.map (aq 54 af))) := by
 unfold kC at H
 refine PH.ax Tryz.func54 Tryz.ntmps54 ?_
 refine av 1 tk rfl (ab (aa (ak tk rfl ?_)))
 have s11 := pL (m := 11) b
 refine ln (g := 53) rfl rfl rfl Tryz.call53 (fu.r) rfl rfl s11 (fun g11=>?_)
 refine ak tk rfl (ac (av 1 tk rfl (ab (ab (aa (ak tk rfl (aG tk (zl _) ?_)))))))
 refine ak tk rfl (ac ?_)
 obtain ⟨fl1,H1,Hp1⟩ := aE H
 refine eV tk 12 rfl rfl (fun hz1 _=>?_)
 rw [zl] at hz1
 refine fA (τ := Rz × Rz) (γ := OwnRef × OwnRef) (fun s1 g1=>⟨34,upd (fun _=>.any) 6 (.own 31 g1.2 (s1.2.map (aq 54 af)).length),fun _=>none,upd (fun _=>none) 31 (some ⟨g1.2,55,(s1.2.map (aq 54 af)),true⟩)⟩) (fun t=>fl1 = .next t) ?_ (fun s1 g1 hn1=>?_)
 ·refine ap (hX tk 6 31 (e := 55) rfl rfl ?_)
  refine jz (fun j1 s1 g1=>⟨34,upd (upd (upd (upd (upd (fun _=>.any) 14 (al (j1 : Int))) 13 (al (a.length : Int))) 12 (.list 55 (a.map (aq 54 af)))) 6 (.own 31 g1.2 (s1.2.map (aq 54 af)).length)) 5 (.own 11 g1.1 (s1.1.map (aq 54 af)).length),fun _=>none,upd (upd (fun _=>none) 31 (some ⟨g1.2,55,(s1.2.map (aq 54 af)),true⟩)) 11 (some ⟨g1.1,55,(s1.1.map (aq 54 af)),true⟩)⟩) (g11,⟨none,0⟩) H1 Gh.d (fun j1 s1 g1 hj1 hr1=>?_)
  refine av 1 tk rfl (ab ?_)
  refine aQ rfl (fun h=>?_) (fun h=>?_)
  ·have hl1 := pI h
   obtain ⟨x1,fb1,hx1,H,hg1⟩ := rMc hl1 hr1
   refine ao (ab (ap (ab (aa ?_))))
   refine bd tk (zn j1) (bD (fun _=>rfl) hx1) ?_
   refine ak tk rfl ?_
   refine aY tk fun b8=>?_
   refine ag tk ?_
   refine ac (ab (ab (aa (ak tk rfl (dM (Gh.freezeB 8 rfl rfl rfl rfl) (ak tk rfl ?_))))))
   obtain ⟨x20,h20,H⟩ := aE H
   have s20 := fv g1.1 s1.1 (fun a0=>iT a0 x1) Tryz.call80 (fun a0 r h=>W_query_less_1 a0 x1 r h) _ h20
   obtain ⟨_,q20_0,H⟩ := aE H
   have l20_0 := (dE q20_0).1
   have z20_0 : (List.map (aq 54 af) s1.1).length = (List.map (aq 54 af) x20.2).length := by simpa using (l20_0).symm
   refine ew (g := 79) rfl rfl rfl Tryz.call79 [] [(11,0)] rfl rfl rfl rfl (fu.of2 (iB.cons (PLe2.own rfl) (iB.cons (PLe2.of_eq rfl) iB.nil))) (by rw [dS,dr,dQ]; rfl) s20 ?_
   rintro u20 H20h ⟨rfl,rfl⟩
   refine ⟨_,rfl,?_⟩
   refine dM (st' := ⟨_,_,fun _=>none,upd (upd (fun _=>none) 31 (some ⟨g1.2,55,(s1.2.map (aq 54 af)),true⟩)) 11 (some ⟨g1.1,55,(x20.2.map (aq 54 af)),true⟩)⟩) (Gh.le (dj _ _) aV (bI (bI aU))) ?_
   refine ak tk rfl (ac (av 2 tk rfl ?_))
   refine aN rfl H (fun H=>?_) (fun H=>?_)
   ·refine ab (aa (aj 4 tk rfl ?_))
    obtain ⟨x27,h27,H⟩ := aE H
    have s27 := W_delete_81 g1.1 x20.2 x20.1 (IntKind.i64.wrap (x20.1 + (1 : Int))) _ h27
    refine ew (g := 81) rfl rfl rfl Tryz.call81 [] [(11,0)] rfl rfl rfl rfl (fu.of2 (iB.cons (PLe2.own z20_0) (iB.cons (PLe2.of_eq rfl) (iB.cons (PLe2.of_eq rfl) iB.nil)))) (by rw [dS,dr,dQ]; rfl) s27 ?_
    rintro u27 H27h ⟨rfl,rfl⟩
    refine ⟨_,rfl,?_⟩
    refine dM (st' := ⟨_,_,fun _=>none,upd (upd (fun _=>none) 31 (some ⟨g1.2,55,(s1.2.map (aq 54 af)),true⟩)) 11 (some ⟨g1.1,55,(x27.map (aq 54 af)),true⟩)⟩) (Gh.le (dj _ _) aV (bI (bI aU))) ?_
    refine lC 27 (q := (.own 11 g1.1 (x27.map (aq 54 af)).length)) rfl (PLe.of2 (PLe2.own rfl)) (ak tk rfl (ac (aD rfl (bm 2 tk rfl ?_))))
    exact bG (g1.1,g1.2) H hl1 hg1
   refine ao (aa (aj 2 tk rfl (cz tk (rows' := List.map (aq 54 af) ([x1] : Rz)) (je.refl _) ?_)))
   obtain ⟨x31,h31,H⟩ := aE H
   have k31 := cV h31
   refine cy (rows2' := List.map (aq 54 af) ([x1] : Rz)) (rows' := List.map (aq 54 af) x31) tk rfl rfl rfl rfl rfl rfl rfl rfl rfl rfl rfl rfl rfl (je.refl _) (eu k31.1) (er k31.2.1) (eB k31.2.2) fun g31=>?_
   refine ak tk rfl (ac (aw (bm 2 tk rfl ?_)))
   exact bG (g1.1,g31) H hl1 hg1 (Gh.le (bP (PLe.of2 (PLe2.of_eq (congrArg (PV.own 11 g1.1) z20_0))) (ay (ay (ay (bP (PLe.q (eF (by omega))) br))))) aV (bI (bI aU)))
  have hn1 := rMd (pw h) hr1
  refine aD rfl ?_
  refine bp s1 g1 hn1 Gh.d
 have H := dC hn1 Hp1
 refine av 2 tk rfl (eo 4 rfl rfl rfl ?_)
 exact bu tk H rfl
def cC (rec124 : Rz → Int → Int → Int → Option (Rz)) (data : Rz) (a : Int) (m : Int) (b : Int) (cmp : Rq → Rq → Option (Int)) : Option (Rz) :=
 cond ((IntKind.i64.wrap (m - a)) == (1 : Int))
  (ah (fD (σ := Rz × Int × Int) (ρ := Empty) (fun (s1 : Rz × Int × Int) =>
   cond (decide (s1.2.1 < s1.2.2))
    (ah (aO s1.1 (IntKind.i64.wrap (Int.fdiv (IntKind.u64.wrap (IntKind.i64.wrap (s1.2.1 + s1.2.2))) (2 ^ 1)))) fun (x43 : Rq) =>
    ah (aO s1.1 a) fun (x47 : Rq) =>
    ah (cmp x43 x47) fun x49 =>
    cond (decide (x49 < (0 : Int)))
     (some (.next (s1.1,(IntKind.i64.wrap ((IntKind.i64.wrap (Int.fdiv (IntKind.u64.wrap (IntKind.i64.wrap (s1.2.1 + s1.2.2))) (2 ^ 1))) + (1 : Int))),s1.2.2)))
     (some (.next (s1.1,s1.2.1,(IntKind.i64.wrap (Int.fdiv (IntKind.u64.wrap (IntKind.i64.wrap (s1.2.1 + s1.2.2))) (2 ^ 1)))))))
    (some (.brk (s1.1,s1.2.1,s1.2.2)))) (data,m,b)) fun fl1=>fl1.thenP fun (s1 : Rz × Int × Int) =>
  ah (fD (σ := Rz × Int) (ρ := Empty) (fun (s2 : Rz × Int) =>
   cond (decide (s2.2 < (IntKind.i64.wrap (s1.2.1 - (1 : Int)))))
    (ah (aO s2.1 (IntKind.i64.wrap (s2.2 + (1 : Int)))) fun (x69 : Rq) =>
    ah (aO s2.1 s2.2) fun (x73 : Rq) =>
    ah (aO s2.1 s2.2) fun (_ : Rq) =>
    bH (s2.1.set s2.2.toNat x69) fun (y7 : Rz) =>
    ah (aO y7 (IntKind.i64.wrap (s2.2 + (1 : Int)))) fun (_ : Rq) =>
    bH (y7.set ((IntKind.i64.wrap (s2.2 + (1 : Int))).toNat) x73) fun (y8 : Rz) =>
    some (.next (y8,(IntKind.i64.wrap (s2.2 + (1 : Int))))))
    (some (.brk (s2.1,s2.2)))) (s1.1,a)) fun fl2=>fl2.thenP fun (s2 : Rz × Int) =>
  some s2.1)
  (cond ((IntKind.i64.wrap (b - m)) == (1 : Int))
   (ah (fD (σ := Rz × Int × Int) (ρ := Empty) (fun (s9 : Rz × Int × Int) =>
    cond (decide (s9.2.1 < s9.2.2))
     (ah (aO s9.1 m) fun (x95 : Rq) =>
     ah (aO s9.1 (IntKind.i64.wrap (Int.fdiv (IntKind.u64.wrap (IntKind.i64.wrap (s9.2.1 + s9.2.2))) (2 ^ 1)))) fun (x99 : Rq) =>
     ah (cmp x95 x99) fun x101 =>
     cond (!(decide (x101 < (0 : Int))))
      (some (.next (s9.1,(IntKind.i64.wrap ((IntKind.i64.wrap (Int.fdiv (IntKind.u64.wrap (IntKind.i64.wrap (s9.2.1 + s9.2.2))) (2 ^ 1))) + (1 : Int))),s9.2.2)))
      (some (.next (s9.1,s9.2.1,(IntKind.i64.wrap (Int.fdiv (IntKind.u64.wrap (IntKind.i64.wrap (s9.2.1 + s9.2.2))) (2 ^ 1)))))))
     (some (.brk (s9.1,s9.2.1,s9.2.2)))) (data,a,m)) fun fl9=>fl9.thenP fun (s9 : Rz × Int × Int) =>
   ah (fD (σ := Rz × Int) (ρ := Empty) (fun (s10 : Rz × Int) =>
    cond (decide (s10.2 > s9.2.1))
     (ah (aO s10.1 (IntKind.i64.wrap (s10.2 - (1 : Int)))) fun (x121 : Rq) =>
     ah (aO s10.1 s10.2) fun (x125 : Rq) =>
     ah (aO s10.1 s10.2) fun (_ : Rq) =>
     bH (s10.1.set s10.2.toNat x121) fun (y15 : Rz) =>
     ah (aO y15 (IntKind.i64.wrap (s10.2 - (1 : Int)))) fun (_ : Rq) =>
     bH (y15.set ((IntKind.i64.wrap (s10.2 - (1 : Int))).toNat) x125) fun (y16 : Rz) =>
     some (.next (y16,(IntKind.i64.wrap (s10.2 - (1 : Int))))))
     (some (.brk (s10.1,s10.2)))) (s9.1,m)) fun fl10=>fl10.thenP fun (s10 : Rz × Int) =>
   some s10.1)
   (bH (
    cond (decide (m > (IntKind.i64.wrap (Int.fdiv (IntKind.u64.wrap (IntKind.i64.wrap (a + b))) (2 ^ 1)))))
     ((data,(IntKind.i64.wrap ((IntKind.i64.wrap ((IntKind.i64.wrap (Int.fdiv (IntKind.u64.wrap (IntKind.i64.wrap (a + b))) (2 ^ 1))) + m)) - b)),(IntKind.i64.wrap (Int.fdiv (IntKind.u64.wrap (IntKind.i64.wrap (a + b))) (2 ^ 1)))))
     ((data,a,m))) fun (t17 : Rz × Int × Int) =>
   ah (fD (σ := Rz × Int × Int) (ρ := Empty) (fun (s18 : Rz × Int × Int) =>
    cond (decide (s18.2.1 < s18.2.2))
     (ah (aO s18.1 (IntKind.i64.wrap ((IntKind.i64.wrap ((IntKind.i64.wrap ((IntKind.i64.wrap (Int.fdiv (IntKind.u64.wrap (IntKind.i64.wrap (a + b))) (2 ^ 1))) + m)) - (1 : Int))) - (IntKind.i64.wrap (Int.fdiv (IntKind.u64.wrap (IntKind.i64.wrap (s18.2.1 + s18.2.2))) (2 ^ 1)))))) fun (x163 : Rq) =>
     ah (aO s18.1 (IntKind.i64.wrap (Int.fdiv (IntKind.u64.wrap (IntKind.i64.wrap (s18.2.1 + s18.2.2))) (2 ^ 1)))) fun (x167 : Rq) =>
     ah (cmp x163 x167) fun x169 =>
     cond (!(decide (x169 < (0 : Int))))
      (some (.next (s18.1,(IntKind.i64.wrap ((IntKind.i64.wrap (Int.fdiv (IntKind.u64.wrap (IntKind.i64.wrap (s18.2.1 + s18.2.2))) (2 ^ 1))) + (1 : Int))),s18.2.2)))
      (some (.next (s18.1,s18.2.1,(IntKind.i64.wrap (Int.fdiv (IntKind.u64.wrap (IntKind.i64.wrap (s18.2.1 + s18.2.2))) (2 ^ 1)))))))
     (some (.brk (s18.1,s18.2.1,s18.2.2)))) (t17.1,t17.2.1,t17.2.2)) fun fl18=>fl18.thenP fun (s18 : Rz × Int × Int) =>
   bH (
    cond (decide (s18.2.1 < m))
     ((s18.1,(decide (m < (IntKind.i64.wrap ((IntKind.i64.wrap ((IntKind.i64.wrap (Int.fdiv (IntKind.u64.wrap (IntKind.i64.wrap (a + b))) (2 ^ 1))) + m)) - s18.2.1))))))
     ((s18.1,false))) fun (t19 : Rz × Bool) =>
   ah (
    cond t19.2
     (ah (dn t19.1 s18.2.1 m (IntKind.i64.wrap ((IntKind.i64.wrap ((IntKind.i64.wrap (Int.fdiv (IntKind.u64.wrap (IntKind.i64.wrap (a + b))) (2 ^ 1))) + m)) - s18.2.1)) cmp) fun x191 =>
     ah (eW (x191.length = t19.1.length) ()) fun (_ : Unit) =>
     some x191)
     (some t19.1)) fun (t20 : Rz) =>
   bH (
    cond (decide (a < s18.2.1))
     ((t20,(decide (s18.2.1 < (IntKind.i64.wrap (Int.fdiv (IntKind.u64.wrap (IntKind.i64.wrap (a + b))) (2 ^ 1)))))))
     ((t20,false))) fun (t21 : Rz × Bool) =>
   ah (
    cond t21.2
     (ah (rec124 t21.1 a s18.2.1 (IntKind.i64.wrap (Int.fdiv (IntKind.u64.wrap (IntKind.i64.wrap (a + b))) (2 ^ 1)))) fun x205 =>
     ah (eW (x205.length = t21.1.length) ()) fun (_ : Unit) =>
     some x205)
     (some t21.1)) fun (t22 : Rz) =>
   cond (decide ((IntKind.i64.wrap (Int.fdiv (IntKind.u64.wrap (IntKind.i64.wrap (a + b))) (2 ^ 1))) < (IntKind.i64.wrap ((IntKind.i64.wrap ((IntKind.i64.wrap (Int.fdiv (IntKind.u64.wrap (IntKind.i64.wrap (a + b))) (2 ^ 1))) + m)) - s18.2.1))))
    (cond (decide ((IntKind.i64.wrap ((IntKind.i64.wrap ((IntKind.i64.wrap (Int.fdiv (IntKind.u64.wrap (IntKind.i64.wrap (a + b))) (2 ^ 1))) + m)) - s18.2.1)) < b))
     (ah (rec124 t22 (IntKind.i64.wrap (Int.fdiv (IntKind.u64.wrap (IntKind.i64.wrap (a + b))) (2 ^ 1))) (IntKind.i64.wrap ((IntKind.i64.wrap ((IntKind.i64.wrap (Int.fdiv (IntKind.u64.wrap (IntKind.i64.wrap (a + b))) (2 ^ 1))) + m)) - s18.2.1)) b) fun x219 =>
     ah (eW (x219.length = t22.length) ()) fun (_ : Unit) =>
     some x219)
     (some t22))
    (some t22)))
theorem lc (g_data : OwnRef) {g_cmp : FuncId} {caps_cmp : List PV} (rec124 : Rz → Int → Int → Int → Option (Rz)) (hrec124 : ∀ g0 a0 a1 a2 a3 r,rec124 a0 a1 a2 a3 = some r → PH Tryz.prog 124 [(.own 0 g0 (a0.map (aq 54 af)).length),(al a1),(al a2),(al a3),(.fn g_cmp caps_cmp)] ⟨fun _=>none,upd (fun _=>none) 0 (some ⟨g0,55,(a0.map (aq 54 af)),true⟩)⟩ (fun u H=>u = (.tup []) ∧ H = ⟨fun _=>none,upd (fun _=>none) 0 (some ⟨g0,55,(r.map (aq 54 af)),true⟩)⟩)) (data : Rz) (a : Int) (m : Int) (b : Int) (cmp : Rq → Rq → Option (Int)) (hg_cmp : ∀ (vs : Array Value) (w : World),(callFunc g_cmp vs).run Tryz.prog w = .ok (.enter g_cmp vs) w) (hp_cmp : ∀ a0 a1 r,cmp a0 a1 = some r → aT Tryz.prog g_cmp ((.list 54 (a0.map af)) :: (.list 54 (a1.map af)) :: caps_cmp) (al r)) (r : Rz) (H : cC rec124 data a m b cmp = some r) :
  PH Tryz.prog 124 [(.own 0 g_data (data.map (aq 54 af)).length),(al a),(al m),(al b),(.fn g_cmp caps_cmp)] ⟨fun _=>none,upd (fun _=>none) 0 (some ⟨g_data,55,(data.map (aq 54 af)),true⟩)⟩ (fun u H=>u = (.tup []) ∧ H = ⟨fun _=>none,upd (fun _=>none) 0 (some ⟨g_data,55,(r.map (aq 54 af)),true⟩)⟩) := by
 unfold cC at H
 refine PH.ax Tryz.func124 Tryz.ntmps124 ?_
 refine ab (av 4 tk rfl ?_)
 refine aN rfl H (fun H=>?_) (fun H=>?_)
 ·refine av 2 tk rfl (av 2 tk rfl (ab ?_))
  obtain ⟨fl1,H1,Hp1⟩ := aE H
  refine fA (τ := Rz × Int × Int) (γ := Unit) (fun s1 g1=>⟨220,upd (upd (upd (fun _=>.any) 10 (al s1.2.1)) 1 (al a)) 0 (.own 0 g_data (s1.1.map (aq 54 af)).length),fun _=>none,upd (fun _=>none) 0 (some ⟨g_data,55,(s1.1.map (aq 54 af)),true⟩)⟩) (fun t=>fl1 = .next t) ?_ (fun s1 g1 hn1=>?_)
  ·refine ap ?_
   refine gM (fun s1 g1=>⟨220,upd (upd (upd (upd (upd (fun _=>.any) 11 (al s1.2.2)) 10 (al s1.2.1)) 4 (.fn g_cmp caps_cmp)) 1 (al a)) 0 (.own 0 g_data (s1.1.map (aq 54 af)).length),fun _=>none,upd (fun _=>none) 0 (some ⟨g_data,55,(s1.1.map (aq 54 af)),true⟩)⟩) () H1 Gh.d (fun m1 s1 g1 hr1=>?_)
   obtain ⟨fb1,H,hg1⟩ := ft hr1
   refine ab (av 3 tk rfl ?_)
   refine aN rfl H (fun H=>?_) (fun H=>?_)
   ·refine ao (ap (ab (aa (aj 4 tk rfl (sv (m := 1) rfl rfl rfl rfl (by decide) rfl rfl (aj 2 tk rfl (ac (ab ?_))))))))
    refine gL (tag := 0) rfl (fun ho0=>?_)
    refine aJ tk mok ⟨false,true,[]⟩ [0,1,2,3,4,5,6,7,8,9,10] rfl (by decide +kernel) rfl (bc 3 rfl ?_)
    obtain ⟨x43,k43,H⟩ := bL H
    refine de tk ⟨k43.1,(dT k43.2)⟩ (dY ho0 k43.2) ?_
    refine fG tk rfl rfl rfl rfl rfl rfl rfl rfl rfl (aX (fun _=>rfl) k43.2) rfl rfl ?_
    refine bc 2 rfl ?_
    obtain ⟨x47,k47,H⟩ := bL H
    refine de tk ⟨k47.1,(dT k47.2)⟩ (dY ho0 k47.2) ?_
    refine fG tk rfl rfl rfl rfl rfl rfl rfl rfl rfl (aX (fun _=>rfl) k47.2) rfl rfl ?_
    obtain ⟨x49,h49,H⟩ := aE H
    refine am hg_cmp (fu.r) (hp_cmp _ _ _ h49) ?_
    refine bo rfl (aP ?_)
    refine aN rfl H (fun H=>?_) (fun H=>?_)
    ·refine bm 3 tk rfl (aw ?_)
     obtain rfl := aI H
     refine eg (s1.1,(IntKind.i64.wrap ((IntKind.i64.wrap (Int.fdiv (IntKind.u64.wrap (IntKind.i64.wrap (s1.2.1 + s1.2.2))) (2 ^ 1))) + (1 : Int))),s1.2.2) () hg1 Gh.d
    refine bm 2 tk rfl (aw ?_)
    obtain rfl := aI H
    refine eg (s1.1,s1.2.1,(IntKind.i64.wrap (Int.fdiv (IntKind.u64.wrap (IntKind.i64.wrap (s1.2.1 + s1.2.2))) (2 ^ 1)))) () hg1 Gh.d
   refine aD rfl ?_
   obtain rfl := aI H
   refine bp (s1.1,s1.2.1,s1.2.2) () hg1 Gh.d
  have H := dC hn1 Hp1
  refine ab (av 2 tk rfl ?_)
  obtain ⟨fl2,H2,Hp2⟩ := aE H
  refine fA (τ := Rz × Int) (γ := Unit) (fun s2 g2=>⟨220,upd (fun _=>.any) 0 (.own 0 g_data (s2.1.map (aq 54 af)).length),fun _=>none,upd (fun _=>none) 0 (some ⟨g_data,55,(s2.1.map (aq 54 af)),true⟩)⟩) (fun t=>fl2 = .next t) ?_ (fun s2 g2 hn2=>?_)
  ·refine ap ?_
   refine gM (fun s2 g2=>⟨220,upd (upd (upd (fun _=>.any) 13 (al s2.2)) 10 (al s1.2.1)) 0 (.own 0 g_data (s2.1.map (aq 54 af)).length),fun _=>none,upd (fun _=>none) 0 (some ⟨g_data,55,(s2.1.map (aq 54 af)),true⟩)⟩) () H2 Gh.d (fun m2 s2 g2 hr2=>?_)
   obtain ⟨fb2,H,hg2⟩ := ft hr2
   refine ab (av 4 tk rfl ?_)
   refine aN rfl H (fun H=>?_) (fun H=>?_)
   ·refine ao (ab (ap ?_))
    refine gL (tag := 0) rfl (fun ho0=>?_)
    refine aJ tk mok ⟨false,true,[]⟩ [0,1,2,3,4,5,6,7,8,9,10,11,12,13,14,15,16,17] rfl (by decide +kernel) rfl (bc 8 rfl ?_)
    obtain ⟨x69,k69,H⟩ := bL H
    refine de tk ⟨k69.1,(dT k69.2)⟩ (dY ho0 k69.2) ?_
    refine fG tk rfl rfl rfl rfl rfl rfl rfl rfl rfl (aX (fun _=>rfl) k69.2) rfl rfl ?_
    refine bc 2 rfl ?_
    obtain ⟨x73,k73,H⟩ := bL H
    refine de tk ⟨k73.1,(dT k73.2)⟩ (dY ho0 k73.2) ?_
    refine fG tk rfl rfl rfl rfl rfl rfl rfl rfl rfl (aX (fun _=>rfl) k73.2) rfl rfl ?_
    obtain ⟨x75,k75,H⟩ := bL H
    refine de tk ⟨k75.1,(dT k75.2)⟩ (dY ho0 k75.2) ?_
    obtain ⟨y7,hy7,H⟩ := db H
    refine iy tk rfl rfl rfl rfl rfl rfl rfl rfl rfl (by rw [zl]; exact (zg.1 k75.2).1) (PLe.refl _ _) rfl rfl rfl rfl (by decide) (fM (fun _=>rfl) k75.2 rfl hy7) ?_
    obtain ⟨x76,k76,H⟩ := bL H
    refine de tk ⟨k76.1,(ri (fh (f := (aq 54 af)) hy7) k76.2)⟩ (rp ho0 (fh (f := (aq 54 af)) hy7) k76.2) ?_
    obtain ⟨y8,hy8,H⟩ := db H
    refine iy tk rfl rfl rfl rfl rfl rfl rfl rfl rfl (by rw [zl]; exact (zg.1 k76.2).1) (PLe.refl _ _) rfl rfl rfl rfl (by decide) (fM (fun _=>rfl) k76.2 rfl hy8) ?_
    refine aP (aw (bm 3 tk rfl ?_))
    obtain rfl := aI H
    refine eg (y8,(IntKind.i64.wrap (s2.2 + (1 : Int)))) () hg2 (Gh.le (bP (PLe.of2 (PLe2.of_eq (congrArg (PV.own 0 g_data) ((fh (f := (aq 54 af)) hy7).trans (fh (f := (aq 54 af)) hy8))))) (ay (ay br))) aV (bI aU))
   refine aD rfl ?_
   obtain rfl := aI H
   refine bp (s2.1,s2.2) () hg2 Gh.d
  have H := dC hn2 Hp2
  obtain rfl := aI H
  refine ce (st' := ⟨220,fun _=>.any,fun _=>none,upd (fun _=>none) 0 (some ⟨g_data,55,(s2.1.map (aq 54 af)),true⟩)⟩) (Gh.le br aV (bI aU)) ?_
  refine mT tk rfl (ps := []) rfl (PLe.q rfl) ⟨rfl,rfl⟩
 refine ao (ab (av 4 tk rfl ?_))
 refine aN rfl H (fun H=>?_) (fun H=>?_)
 ·refine av 2 tk rfl (av 2 tk rfl (ab ?_))
  obtain ⟨fl9,H9,Hp9⟩ := aE H
  refine fA (τ := Rz × Int × Int) (γ := Unit) (fun s9 g9=>⟨220,upd (upd (upd (fun _=>.any) 14 (al s9.2.1)) 2 (al m)) 0 (.own 0 g_data (s9.1.map (aq 54 af)).length),fun _=>none,upd (fun _=>none) 0 (some ⟨g_data,55,(s9.1.map (aq 54 af)),true⟩)⟩) (fun t=>fl9 = .next t) ?_ (fun s9 g9 hn9=>?_)
  ·refine ap ?_
   refine gM (fun s9 g9=>⟨220,upd (upd (upd (upd (upd (fun _=>.any) 15 (al s9.2.2)) 14 (al s9.2.1)) 4 (.fn g_cmp caps_cmp)) 2 (al m)) 0 (.own 0 g_data (s9.1.map (aq 54 af)).length),fun _=>none,upd (fun _=>none) 0 (some ⟨g_data,55,(s9.1.map (aq 54 af)),true⟩)⟩) () H9 Gh.d (fun m9 s9 g9 hr9=>?_)
   obtain ⟨fb9,H,hg9⟩ := ft hr9
   refine ab (av 3 tk rfl ?_)
   refine aN rfl H (fun H=>?_) (fun H=>?_)
   ·refine ao (ap (ab (aa (aj 4 tk rfl (sv (m := 1) rfl rfl rfl rfl (by decide) rfl rfl (aj 2 tk rfl (ac (ab ?_))))))))
    refine gL (tag := 0) rfl (fun ho0=>?_)
    refine aJ tk mok ⟨false,true,[]⟩ [0,1,2,3,4,5,6,7,8,9,10,11] rfl (by decide +kernel) rfl (bc 3 rfl ?_)
    obtain ⟨x95,k95,H⟩ := bL H
    refine de tk ⟨k95.1,(dT k95.2)⟩ (dY ho0 k95.2) ?_
    refine fG tk rfl rfl rfl rfl rfl rfl rfl rfl rfl (aX (fun _=>rfl) k95.2) rfl rfl ?_
    refine bc 2 rfl ?_
    obtain ⟨x99,k99,H⟩ := bL H
    refine de tk ⟨k99.1,(dT k99.2)⟩ (dY ho0 k99.2) ?_
    refine fG tk rfl rfl rfl rfl rfl rfl rfl rfl rfl (aX (fun _=>rfl) k99.2) rfl rfl ?_
    obtain ⟨x101,h101,H⟩ := aE H
    refine am hg_cmp (fu.r) (hp_cmp _ _ _ h101) ?_
    refine bc 2 rfl (aP ?_)
    refine aN rfl H (fun H=>?_) (fun H=>?_)
    ·refine bm 3 tk rfl (aw ?_)
     obtain rfl := aI H
     refine eg (s9.1,(IntKind.i64.wrap ((IntKind.i64.wrap (Int.fdiv (IntKind.u64.wrap (IntKind.i64.wrap (s9.2.1 + s9.2.2))) (2 ^ 1))) + (1 : Int))),s9.2.2) () hg9 Gh.d
    refine bm 2 tk rfl (aw ?_)
    obtain rfl := aI H
    refine eg (s9.1,s9.2.1,(IntKind.i64.wrap (Int.fdiv (IntKind.u64.wrap (IntKind.i64.wrap (s9.2.1 + s9.2.2))) (2 ^ 1)))) () hg9 Gh.d
   refine aD rfl ?_
   obtain rfl := aI H
   refine bp (s9.1,s9.2.1,s9.2.2) () hg9 Gh.d
  have H := dC hn9 Hp9
  refine ab (av 2 tk rfl ?_)
  obtain ⟨fl10,H10,Hp10⟩ := aE H
  refine fA (τ := Rz × Int) (γ := Unit) (fun s10 g10=>⟨220,upd (fun _=>.any) 0 (.own 0 g_data (s10.1.map (aq 54 af)).length),fun _=>none,upd (fun _=>none) 0 (some ⟨g_data,55,(s10.1.map (aq 54 af)),true⟩)⟩) (fun t=>fl10 = .next t) ?_ (fun s10 g10 hn10=>?_)
  ·refine ap ?_
   refine gM (fun s10 g10=>⟨220,upd (upd (upd (fun _=>.any) 17 (al s10.2)) 14 (al s9.2.1)) 0 (.own 0 g_data (s10.1.map (aq 54 af)).length),fun _=>none,upd (fun _=>none) 0 (some ⟨g_data,55,(s10.1.map (aq 54 af)),true⟩)⟩) () H10 Gh.d (fun m10 s10 g10 hr10=>?_)
   obtain ⟨fb10,H,hg10⟩ := ft hr10
   refine ab (av 3 tk rfl ?_)
   refine aN rfl H (fun H=>?_) (fun H=>?_)
   ·refine ao (ab (ap ?_))
    refine gL (tag := 0) rfl (fun ho0=>?_)
    refine aJ tk mok ⟨false,true,[]⟩ [0,1,2,3,4,5,6,7,8,9,10,11,12,13,14,15,16,17] rfl (by decide +kernel) rfl (bc 8 rfl ?_)
    obtain ⟨x121,k121,H⟩ := bL H
    refine de tk ⟨k121.1,(dT k121.2)⟩ (dY ho0 k121.2) ?_
    refine fG tk rfl rfl rfl rfl rfl rfl rfl rfl rfl (aX (fun _=>rfl) k121.2) rfl rfl ?_
    refine bc 2 rfl ?_
    obtain ⟨x125,k125,H⟩ := bL H
    refine de tk ⟨k125.1,(dT k125.2)⟩ (dY ho0 k125.2) ?_
    refine fG tk rfl rfl rfl rfl rfl rfl rfl rfl rfl (aX (fun _=>rfl) k125.2) rfl rfl ?_
    obtain ⟨x127,k127,H⟩ := bL H
    refine de tk ⟨k127.1,(dT k127.2)⟩ (dY ho0 k127.2) ?_
    obtain ⟨y15,hy15,H⟩ := db H
    refine iy tk rfl rfl rfl rfl rfl rfl rfl rfl rfl (by rw [zl]; exact (zg.1 k127.2).1) (PLe.refl _ _) rfl rfl rfl rfl (by decide) (fM (fun _=>rfl) k127.2 rfl hy15) ?_
    obtain ⟨x128,k128,H⟩ := bL H
    refine de tk ⟨k128.1,(ri (fh (f := (aq 54 af)) hy15) k128.2)⟩ (rp ho0 (fh (f := (aq 54 af)) hy15) k128.2) ?_
    obtain ⟨y16,hy16,H⟩ := db H
    refine iy tk rfl rfl rfl rfl rfl rfl rfl rfl rfl (by rw [zl]; exact (zg.1 k128.2).1) (PLe.refl _ _) rfl rfl rfl rfl (by decide) (fM (fun _=>rfl) k128.2 rfl hy16) ?_
    refine aP (aw (bm 3 tk rfl ?_))
    obtain rfl := aI H
    refine eg (y16,(IntKind.i64.wrap (s10.2 - (1 : Int)))) () hg10 (Gh.le (bP (PLe.of2 (PLe2.of_eq (congrArg (PV.own 0 g_data) ((fh (f := (aq 54 af)) hy15).trans (fh (f := (aq 54 af)) hy16))))) (ay (ay br))) aV (bI aU))
   refine aD rfl ?_
   obtain rfl := aI H
   refine bp (s10.1,s10.2) () hg10 Gh.d
  have H := dC hn10 Hp10
  obtain rfl := aI H
  refine ce (st' := ⟨220,fun _=>.any,fun _=>none,upd (fun _=>none) 0 (some ⟨g_data,55,(s10.1.map (aq 54 af)),true⟩)⟩) (Gh.le br aV (bI aU)) ?_
  refine mT tk rfl (ps := []) rfl (PLe.q rfl) ⟨rfl,rfl⟩
 refine ao (ab (aa (aj 4 tk rfl (sv (m := 1) rfl rfl rfl rfl (by decide) rfl rfl (aj 2 tk rfl (ac (av 4 tk rfl (av 2 tk rfl (ab (av 3 tk rfl ?_))))))))))
 refine gw (γ := Unit) (fun t17 g17=>⟨220,upd (upd (upd (upd (upd (upd (upd (upd (upd (fun _=>.any) 21 (al t17.2.2)) 20 (al t17.2.1)) 19 (al (IntKind.i64.wrap ((IntKind.i64.wrap (Int.fdiv (IntKind.u64.wrap (IntKind.i64.wrap (a + b))) (2 ^ 1))) + m)))) 18 (al (IntKind.i64.wrap (Int.fdiv (IntKind.u64.wrap (IntKind.i64.wrap (a + b))) (2 ^ 1))))) 4 (.fn g_cmp caps_cmp)) 3 (al b)) 2 (al m)) 1 (al a)) 0 (.own 0 g_data (t17.1.map (aq 54 af)).length),fun _=>none,upd (fun _=>none) 0 (some ⟨g_data,55,(t17.1.map (aq 54 af)),true⟩)⟩) H (fun _ H=>?_) (fun t17 g17 H=>?_)
 ·refine aN rfl H (fun H=>?_) (fun H=>?_)
  ·refine av 4 tk rfl (bm 2 tk rfl ?_)
   refine bp _ () H Gh.d
  refine av 2 tk rfl (bm 2 tk rfl ?_)
  refine bp _ () H Gh.d
 refine av 3 tk rfl (ab ?_)
 obtain ⟨fl18,H18,Hp18⟩ := aE H
 refine fA (τ := Rz × Int × Int) (γ := Unit) (fun s18 g18=>⟨220,upd (upd (upd (upd (upd (upd (upd (upd (fun _=>.any) 20 (al s18.2.1)) 19 (al (IntKind.i64.wrap ((IntKind.i64.wrap (Int.fdiv (IntKind.u64.wrap (IntKind.i64.wrap (a + b))) (2 ^ 1))) + m)))) 18 (al (IntKind.i64.wrap (Int.fdiv (IntKind.u64.wrap (IntKind.i64.wrap (a + b))) (2 ^ 1))))) 4 (.fn g_cmp caps_cmp)) 3 (al b)) 2 (al m)) 1 (al a)) 0 (.own 0 g_data (s18.1.map (aq 54 af)).length),fun _=>none,upd (fun _=>none) 0 (some ⟨g_data,55,(s18.1.map (aq 54 af)),true⟩)⟩) (fun t=>fl18 = .next t) ?_ (fun s18 g18 hn18=>?_)
 ·refine ap ?_
  refine gM (fun s18 g18=>⟨220,upd (upd (upd (upd (upd (upd (upd (upd (upd (upd (fun _=>.any) 22 (al (IntKind.i64.wrap ((IntKind.i64.wrap ((IntKind.i64.wrap (Int.fdiv (IntKind.u64.wrap (IntKind.i64.wrap (a + b))) (2 ^ 1))) + m)) - (1 : Int))))) 21 (al s18.2.2)) 20 (al s18.2.1)) 19 (al (IntKind.i64.wrap ((IntKind.i64.wrap (Int.fdiv (IntKind.u64.wrap (IntKind.i64.wrap (a + b))) (2 ^ 1))) + m)))) 18 (al (IntKind.i64.wrap (Int.fdiv (IntKind.u64.wrap (IntKind.i64.wrap (a + b))) (2 ^ 1))))) 4 (.fn g_cmp caps_cmp)) 3 (al b)) 2 (al m)) 1 (al a)) 0 (.own 0 g_data (s18.1.map (aq 54 af)).length),fun _=>none,upd (fun _=>none) 0 (some ⟨g_data,55,(s18.1.map (aq 54 af)),true⟩)⟩) () H18 Gh.d (fun m18 s18 g18 hr18=>?_)
  obtain ⟨fb18,H,hg18⟩ := ft hr18
  refine ab (av 3 tk rfl ?_)
  refine aN rfl H (fun H=>?_) (fun H=>?_)
  ·refine ao (ap (ab (aa (aj 4 tk rfl (sv (m := 1) rfl rfl rfl rfl (by decide) rfl rfl (aj 2 tk rfl (ac (ab ?_))))))))
   refine gL (tag := 0) rfl (fun ho0=>?_)
   refine aJ tk mok ⟨false,true,[]⟩ [0,1,2,3,4,5,6,7,8,9,10,11,12,13] rfl (by decide +kernel) rfl (bc 5 rfl ?_)
   obtain ⟨x163,k163,H⟩ := bL H
   refine de tk ⟨k163.1,(dT k163.2)⟩ (dY ho0 k163.2) ?_
   refine fG tk rfl rfl rfl rfl rfl rfl rfl rfl rfl (aX (fun _=>rfl) k163.2) rfl rfl ?_
   refine bc 2 rfl ?_
   obtain ⟨x167,k167,H⟩ := bL H
   refine de tk ⟨k167.1,(dT k167.2)⟩ (dY ho0 k167.2) ?_
   refine fG tk rfl rfl rfl rfl rfl rfl rfl rfl rfl (aX (fun _=>rfl) k167.2) rfl rfl ?_
   obtain ⟨x169,h169,H⟩ := aE H
   refine am hg_cmp (fu.r) (hp_cmp _ _ _ h169) ?_
   refine bc 2 rfl (aP ?_)
   refine aN rfl H (fun H=>?_) (fun H=>?_)
   ·refine bm 3 tk rfl (aw ?_)
    obtain rfl := aI H
    refine eg (s18.1,(IntKind.i64.wrap ((IntKind.i64.wrap (Int.fdiv (IntKind.u64.wrap (IntKind.i64.wrap (s18.2.1 + s18.2.2))) (2 ^ 1))) + (1 : Int))),s18.2.2) () hg18 Gh.d
   refine bm 2 tk rfl (aw ?_)
   obtain rfl := aI H
   refine eg (s18.1,s18.2.1,(IntKind.i64.wrap (Int.fdiv (IntKind.u64.wrap (IntKind.i64.wrap (s18.2.1 + s18.2.2))) (2 ^ 1)))) () hg18 Gh.d
  refine aD rfl ?_
  obtain rfl := aI H
  refine bp (s18.1,s18.2.1,s18.2.2) () hg18 Gh.d
 have H := dC hn18 Hp18
 refine av 4 tk rfl (ab (ab ?_))
 refine gw (γ := Unit) (fun t19 g19=>⟨220,upd (upd (upd (upd (upd (upd (upd (upd (upd (fun _=>.any) 185 (aL t19.2)) 24 (al (IntKind.i64.wrap ((IntKind.i64.wrap ((IntKind.i64.wrap (Int.fdiv (IntKind.u64.wrap (IntKind.i64.wrap (a + b))) (2 ^ 1))) + m)) - s18.2.1)))) 20 (al s18.2.1)) 18 (al (IntKind.i64.wrap (Int.fdiv (IntKind.u64.wrap (IntKind.i64.wrap (a + b))) (2 ^ 1))))) 4 (.fn g_cmp caps_cmp)) 3 (al b)) 2 (al m)) 1 (al a)) 0 (.own 0 g_data (t19.1.map (aq 54 af)).length),fun _=>none,upd (fun _=>none) 0 (some ⟨g_data,55,(t19.1.map (aq 54 af)),true⟩)⟩) H (fun _ H=>?_) (fun t19 g19 H=>?_)
 ·refine aa (aj 4 tk rfl ?_)
  refine bF rfl rfl rfl H (fun H=>?_) (fun H=>?_)
  ·refine aj 4 tk rfl (ac ?_)
   refine bp _ () H Gh.d
  refine aj 4 tk rfl (ac ?_)
  refine bp _ () H Gh.d
 refine gS (γ := Unit) (fun t20 g20=>⟨220,upd (upd (upd (upd (upd (upd (upd (fun _=>.any) 24 (al (IntKind.i64.wrap ((IntKind.i64.wrap ((IntKind.i64.wrap (Int.fdiv (IntKind.u64.wrap (IntKind.i64.wrap (a + b))) (2 ^ 1))) + m)) - s18.2.1)))) 20 (al s18.2.1)) 18 (al (IntKind.i64.wrap (Int.fdiv (IntKind.u64.wrap (IntKind.i64.wrap (a + b))) (2 ^ 1))))) 4 (.fn g_cmp caps_cmp)) 3 (al b)) 1 (al a)) 0 (.own 0 g_data (t20.map (aq 54 af)).length),fun _=>none,upd (fun _=>none) 0 (some ⟨g_data,55,(t20.map (aq 54 af)),true⟩)⟩) H (fun _ H=>?_) (fun t20 g20 H=>?_)
 ·refine aN rfl H (fun H=>?_) (fun H=>?_)
  ·refine aa (aj 5 tk rfl ?_)
   obtain ⟨x191,h191,H⟩ := aE H
   have s191 := lM g_data t19.1 s18.2.1 m (IntKind.i64.wrap ((IntKind.i64.wrap ((IntKind.i64.wrap (Int.fdiv (IntKind.u64.wrap (IntKind.i64.wrap (a + b))) (2 ^ 1))) + m)) - s18.2.1)) cmp hg_cmp hp_cmp _ h191
   obtain ⟨_,q191_0,H⟩ := aE H
   have l191_0 := (dE q191_0).1
   have z191_0 : (List.map (aq 54 af) t19.1).length = (List.map (aq 54 af) x191).length := by simpa using (l191_0).symm
   refine ew (g := 129) rfl rfl rfl Tryz.call129 [] [(0,0)] rfl rfl rfl rfl (fu.of2 (iB.cons (PLe2.own rfl) (iB.cons (PLe2.of_eq rfl) (iB.cons (PLe2.of_eq rfl) (iB.cons (PLe2.of_eq rfl) (iB.cons (PLe2.of_eq rfl) iB.nil)))))) (by rw [dS,dr,dQ]; rfl) s191 ?_
   rintro u191 H191h ⟨rfl,rfl⟩
   refine ⟨_,rfl,?_⟩
   refine dM (st' := ⟨_,_,fun _=>none,upd (fun _=>none) 0 (some ⟨g_data,55,(x191.map (aq 54 af)),true⟩)⟩) (Gh.le (dj _ _) aV (bI aU)) ?_
   refine ac ?_
   refine bp _ () (aI H) (Gh.le (bP (PLe.of2 (PLe2.of_eq (congrArg (PV.own 0 g_data) z191_0))) (ay (ay (ay (ay (ay (ay br))))))) aV (bI aU))
  refine ao ?_
  refine bp _ () (aI H) Gh.d
 refine ab (ab ?_)
 refine gw (γ := Unit) (fun t21 g21=>⟨220,upd (upd (upd (upd (upd (upd (upd (upd (fun _=>.any) 199 (aL t21.2)) 24 (al (IntKind.i64.wrap ((IntKind.i64.wrap ((IntKind.i64.wrap (Int.fdiv (IntKind.u64.wrap (IntKind.i64.wrap (a + b))) (2 ^ 1))) + m)) - s18.2.1)))) 20 (al s18.2.1)) 18 (al (IntKind.i64.wrap (Int.fdiv (IntKind.u64.wrap (IntKind.i64.wrap (a + b))) (2 ^ 1))))) 4 (.fn g_cmp caps_cmp)) 3 (al b)) 1 (al a)) 0 (.own 0 g_data (t21.1.map (aq 54 af)).length),fun _=>none,upd (fun _=>none) 0 (some ⟨g_data,55,(t21.1.map (aq 54 af)),true⟩)⟩) H (fun _ H=>?_) (fun t21 g21 H=>?_)
 ·refine aa (aj 4 tk rfl ?_)
  refine bF rfl rfl rfl H (fun H=>?_) (fun H=>?_)
  ·refine aj 4 tk rfl (ac ?_)
   refine bp _ () H Gh.d
  refine aj 4 tk rfl (ac ?_)
  refine bp _ () H Gh.d
 refine gS (γ := Unit) (fun t22 g22=>⟨220,upd (upd (upd (upd (upd (fun _=>.any) 24 (al (IntKind.i64.wrap ((IntKind.i64.wrap ((IntKind.i64.wrap (Int.fdiv (IntKind.u64.wrap (IntKind.i64.wrap (a + b))) (2 ^ 1))) + m)) - s18.2.1)))) 18 (al (IntKind.i64.wrap (Int.fdiv (IntKind.u64.wrap (IntKind.i64.wrap (a + b))) (2 ^ 1))))) 4 (.fn g_cmp caps_cmp)) 3 (al b)) 0 (.own 0 g_data (t22.map (aq 54 af)).length),fun _=>none,upd (fun _=>none) 0 (some ⟨g_data,55,(t22.map (aq 54 af)),true⟩)⟩) H (fun _ H=>?_) (fun t22 g22 H=>?_)
 ·refine aN rfl H (fun H=>?_) (fun H=>?_)
  ·refine aa (aj 5 tk rfl ?_)
   obtain ⟨x205,h205,H⟩ := aE H
   have s205 := hrec124 g_data t21.1 a s18.2.1 (IntKind.i64.wrap (Int.fdiv (IntKind.u64.wrap (IntKind.i64.wrap (a + b))) (2 ^ 1))) _ h205
   obtain ⟨_,q205_0,H⟩ := aE H
   have l205_0 := (dE q205_0).1
   have z205_0 : (List.map (aq 54 af) t21.1).length = (List.map (aq 54 af) x205).length := by simpa using (l205_0).symm
   refine ew (g := 124) rfl rfl rfl Tryz.call124 [] [(0,0)] rfl rfl rfl rfl (fu.of2 (iB.cons (PLe2.own rfl) (iB.cons (PLe2.of_eq rfl) (iB.cons (PLe2.of_eq rfl) (iB.cons (PLe2.of_eq rfl) (iB.cons (PLe2.of_eq rfl) iB.nil)))))) (by rw [dS,dr,dQ]; rfl) s205 ?_
   rintro u205 H205h ⟨rfl,rfl⟩
   refine ⟨_,rfl,?_⟩
   refine dM (st' := ⟨_,_,fun _=>none,upd (fun _=>none) 0 (some ⟨g_data,55,(x205.map (aq 54 af)),true⟩)⟩) (Gh.le (dj _ _) aV (bI aU)) ?_
   refine ac ?_
   refine bp _ () (aI H) (Gh.le (bP (PLe.of2 (PLe2.of_eq (congrArg (PV.own 0 g_data) z205_0))) (ay (ay (ay (ay br))))) aV (bI aU))
  refine ao ?_
  refine bp _ () (aI H) Gh.d
 refine ab (aa (aj 4 tk rfl ?_))
 refine bF rfl rfl rfl H (fun H=>?_) (fun H=>?_)
 ·refine aj 4 tk rfl (ac ?_)
  refine aN rfl H (fun H=>?_) (fun H=>?_)
  ·refine aa (aj 5 tk rfl ?_)
   obtain ⟨x219,h219,H⟩ := aE H
   have s219 := hrec124 g_data t22 (IntKind.i64.wrap (Int.fdiv (IntKind.u64.wrap (IntKind.i64.wrap (a + b))) (2 ^ 1))) (IntKind.i64.wrap ((IntKind.i64.wrap ((IntKind.i64.wrap (Int.fdiv (IntKind.u64.wrap (IntKind.i64.wrap (a + b))) (2 ^ 1))) + m)) - s18.2.1)) b _ h219
   obtain ⟨_,q219_0,H⟩ := aE H
   have l219_0 := (dE q219_0).1
   have z219_0 : (List.map (aq 54 af) t22).length = (List.map (aq 54 af) x219).length := by simpa using (l219_0).symm
   refine ew (g := 124) rfl rfl rfl Tryz.call124 [] [(0,0)] rfl rfl rfl rfl (fu.of2 (iB.cons (PLe2.own rfl) (iB.cons (PLe2.of_eq rfl) (iB.cons (PLe2.of_eq rfl) (iB.cons (PLe2.of_eq rfl) (iB.cons (PLe2.of_eq rfl) iB.nil)))))) (by rw [dS,dr,dQ]; rfl) s219 ?_
   rintro u219 H219h ⟨rfl,rfl⟩
   refine ⟨_,rfl,?_⟩
   refine dM (st' := ⟨_,_,fun _=>none,upd (fun _=>none) 0 (some ⟨g_data,55,(x219.map (aq 54 af)),true⟩)⟩) (Gh.le (dj _ _) aV (bI aU)) ?_
   refine ac ?_
   obtain rfl := aI H
   refine ce (st' := ⟨220,fun _=>.any,fun _=>none,upd (fun _=>none) 0 (some ⟨g_data,55,(x219.map (aq 54 af)),true⟩)⟩) (Gh.le br aV (bI aU)) ?_
   refine lH rfl (PLe.q rfl) ⟨rfl,rfl⟩
  refine ao ?_
  obtain rfl := aI H
  refine ce (st' := ⟨220,fun _=>.any,fun _=>none,upd (fun _=>none) 0 (some ⟨g_data,55,(t22.map (aq 54 af)),true⟩)⟩) (Gh.le br aV (bI aU)) ?_
  refine lH rfl (PLe.q rfl) ⟨rfl,rfl⟩
 refine aj 4 tk rfl (ac (aB rfl (ao ?_)))
 obtain rfl := aI H
 refine ce (st' := ⟨220,fun _=>.any,fun _=>none,upd (fun _=>none) 0 (some ⟨g_data,55,(t22.map (aq 54 af)),true⟩)⟩) (Gh.le br aV (bI aU)) ?_
 refine lH rfl (PLe.q rfl) ⟨rfl,rfl⟩
def bB : Nat → Rz → Int → Int → Int → (Rq → Rq → Option (Int)) → Option (Rz)
 | 0,_,_,_,_,_=>none
 | n + 1,v0,v1,v2,v3,v4=>cC (fun b0 b1 b2 b3=>bB n b0 b1 b2 b3 v4) v0 v1 v2 v3 v4
theorem lg {g_cmp : FuncId} {caps_cmp : List PV} (cmp : Rq → Rq → Option (Int)) (hg_cmp : ∀ (vs : Array Value) (w : World),(callFunc g_cmp vs).run Tryz.prog w = .ok (.enter g_cmp vs) w) (hp_cmp : ∀ a0 a1 r,cmp a0 a1 = some r → aT Tryz.prog g_cmp ((.list 54 (a0.map af)) :: (.list 54 (a1.map af)) :: caps_cmp) (al r)) (n : Nat) : (∀ g0 a0 a1 a2 a3 r,bB n a0 a1 a2 a3 cmp = some r → PH Tryz.prog 124 [(.own 0 g0 (a0.map (aq 54 af)).length),(al a1),(al a2),(al a3),(.fn g_cmp caps_cmp)] ⟨fun _=>none,upd (fun _=>none) 0 (some ⟨g0,55,(a0.map (aq 54 af)),true⟩)⟩ (fun u H=>u = (.tup []) ∧ H = ⟨fun _=>none,upd (fun _=>none) 0 (some ⟨g0,55,(r.map (aq 54 af)),true⟩)⟩)) := by
 induction n with
 | zero=>exact (by intros; rename_i h; exact absurd (show (none : Option _) = some _ from h) (by simp))
 | succ n ih =>
  exact (fun g0 v0 v1 v2 v3 r h=>lc g0 (fun b0 b1 b2 b3=>bB n b0 b1 b2 b3 cmp) ih v0 v1 v2 v3 cmp hg_cmp hp_cmp r h)
def eT (data : Rz) (a : Int) (m : Int) (b : Int) (cmp : Rq → Rq → Option (Int)) : Option (Rz) := ja fun n=>bB n data a m b cmp
theorem iZ (g_data : OwnRef) {g_cmp : FuncId} {caps_cmp : List PV} (data : Rz) (a : Int) (m : Int) (b : Int) (cmp : Rq → Rq → Option (Int)) (hg_cmp : ∀ (vs : Array Value) (w : World),(callFunc g_cmp vs).run Tryz.prog w = .ok (.enter g_cmp vs) w) (hp_cmp : ∀ a0 a1 r,cmp a0 a1 = some r → aT Tryz.prog g_cmp ((.list 54 (a0.map af)) :: (.list 54 (a1.map af)) :: caps_cmp) (al r)) (r : Rz) (H : eT data a m b cmp = some r) :
  PH Tryz.prog 124 [(.own 0 g_data (data.map (aq 54 af)).length),(al a),(al m),(al b),(.fn g_cmp caps_cmp)] ⟨fun _=>none,upd (fun _=>none) 0 (some ⟨g_data,55,(data.map (aq 54 af)),true⟩)⟩ (fun u H=>u = (.tup []) ∧ H = ⟨fun _=>none,upd (fun _=>none) 0 (some ⟨g_data,55,(r.map (aq 54 af)),true⟩)⟩) := by
 obtain ⟨n,h⟩ := jR H
 exact (lg cmp hg_cmp hp_cmp n) g_data data a m b r h
def fj (t : LTable) : Option (Int) :=
 ah (fJ t.name) fun x11 =>
 cond (!x11)
  (some 23)
  (cond ((t.columns.length : Int) == (0 : Int))
   (some 3)
   (cond (decide ((t.columns.length : Int) > (6 : Int)))
    (some 2)
    (ah (aM (σ := Unit) (ρ := (Int)) (fun (j1 : Nat) (x1 : LCol) (_ : Unit) =>
     ah (fJ x1.name) fun x31 =>
     cond (!x31)
      (some (.ret 23))
      (ah (fX t x1.name) fun x37 =>
      cond (decide (x37.1 < (j1 : Int)))
       (some (.ret 5))
       (cond (decide (x1.kind < (1 : Int)))
        (some (.ret 7))
        (cond (decide (x1.kind > (3 : Int)))
         (some (.ret 7))
         (some (.next ())))))) 0 t.columns ()) fun fl1=>fl1.thenR fun (_ : Unit) =>
    ah (aM (σ := Unit) (ρ := (Int)) (fun (j2 : Nat) (x2 : Int) (_ : Unit) =>
     cond (decide (x2 < (0 : Int)))
      (some (.ret 9))
      (cond (decide (x2 ≥ (t.columns.length : Int)))
       (some (.ret 9))
       (ah (aO t.columns x2) fun (x73 : LCol) =>
       cond x73.nullable
        (some (.ret 9))
        (cond (decide ((j2 : Int) > (0 : Int)))
         (ah (aO t.primaryKey (IntKind.i64.wrap ((j2 : Int) - (1 : Int)))) fun (x86 : Int) =>
         cond (decide (x2 ≤ x86))
          (some (.ret 9))
          (some (.next ())))
         (some (.next ())))))) 0 t.primaryKey ()) fun fl2=>fl2.thenR fun (_ : Unit) =>
    cond ((t.primaryKey.length : Int) == (0 : Int))
     (some 9)
     (some 0))))
theorem ph (t : LTable) (r : Int) (H : fj t = some r) :
  aT Tryz.prog 36 [(.agg (cL t))] (al r) := by
 unfold fj at H
 refine PH.ax Tryz.func36 Tryz.ntmps36 ?_
 refine ab (aa (au ?_))
 refine ak tk rfl (ac (ab (ab (aa (aj 2 tk rfl ?_)))))
 obtain ⟨x11,h11,H⟩ := aE H
 have s11 := mP t.name _ h11
 refine ae Tryz.call64 (fu.r) s11 ?_
 refine ak tk rfl (ac ?_)
 refine aN rfl H (fun H=>?_) (fun H=>?_)
 ·refine av 1 tk rfl ?_
  exact bu tk H rfl
 refine ao (ab (ab (aa (aj 2 tk rfl (aG tk (zl _) ?_)))))
 refine ak tk rfl (ac ?_)
 refine aN rfl H (fun H=>?_) (fun H=>?_)
 ·refine av 1 tk rfl ?_
  exact bu tk H rfl
 refine ao (ab (ab (aa (aj 2 tk rfl (aG tk (zl _) ?_)))))
 refine ak tk rfl (ac ?_)
 refine aN rfl H (fun H=>?_) (fun H=>?_)
 ·refine av 1 tk rfl ?_
  exact bu tk H rfl
 refine ao (ab (ab (aa (aj 2 tk rfl (aG tk (zl _) ?_)))))
 refine ak tk rfl (ac ?_)
 refine fC tk 24 23 22 (fun s1 g1=>upd (fun _=>.any) 1 (.ptr (cL t))) nB nO () H (fun fl1 Hp1 j1 s1 g1 hz1 hl1 x1 fb1 hx1 H hg1=>?_) (fun s1 g1 H=>?_)
 ·refine ab (ap (ab (aa (ak tk rfl ?_))))
  refine bd tk (zn j1) (bD (fun _=>rfl) hx1) ?_
  refine ak tk rfl ?_
  refine aY tk fun b4=>?_
  refine ak tk rfl (ag tk ?_)
  refine ac (ab (ab (aa (ak tk rfl (ai tk ?_)))))
  obtain ⟨x31,h31,H⟩ := aE H
  have s31 := mP x1.name _ h31
  refine ae Tryz.call64 (fu.r) s31 ?_
  refine ak tk rfl (ac ?_)
  refine aN rfl H (fun H=>?_) (fun H=>?_)
  ·refine av 1 tk rfl ?_
   obtain rfl := aI H
   have e1 : fl1 = .ret _ := hg1
   subst e1
   obtain rfl := bi Hp1
   refine bw tk rfl (ps := [(al 23)]) ⟨_,_,rfl,rfl,rfl⟩ (PLe.q rfl)
  refine ao (ab (ab (aa (aj 2 tk rfl (ai tk ?_)))))
  obtain ⟨x37,h37,H⟩ := aE H
  have s37 := qD t x1.name _ h37
  refine ae Tryz.call65 (fu.r) s37 ?_
  refine aj 5 tk rfl (ac (av 3 tk rfl ?_))
  refine aN rfl H (fun H=>?_) (fun H=>?_)
  ·refine av 1 tk rfl ?_
   obtain rfl := aI H
   have e1 : fl1 = .ret _ := hg1
   subst e1
   obtain rfl := bi Hp1
   refine bw tk rfl (ps := [(al 5)]) ⟨_,_,rfl,rfl,rfl⟩ (PLe.q rfl)
  refine ao (ab (aa (ak tk rfl (ai tk ?_))))
  refine aj 2 tk rfl ?_
  refine bF rfl rfl rfl H (fun H=>?_) (fun H=>?_)
  ·refine aj 4 tk rfl (ac (aC rfl (av 1 tk rfl ?_)))
   obtain rfl := aI H
   have e1 : fl1 = .ret _ := hg1
   subst e1
   obtain rfl := bi Hp1
   refine bw tk rfl (ps := [(al 7)]) ⟨_,_,rfl,rfl,rfl⟩ (PLe.q rfl)
  refine ak tk rfl (ai tk ?_)
  refine aj 2 tk rfl (ac ?_)
  refine aN rfl H (fun H=>?_) (fun H=>?_)
  ·refine av 1 tk rfl ?_
   obtain rfl := aI H
   have e1 : fl1 = .ret _ := hg1
   subst e1
   obtain rfl := bi Hp1
   refine bw tk rfl (ps := [(al 7)]) ⟨_,_,rfl,rfl,rfl⟩ (PLe.q rfl)
  refine ao (aw (bm 2 tk rfl ?_))
  exact bG () H hl1 hg1
 refine ab (ab (aa (aj 2 tk rfl (aG tk (zl _) ?_))))
 refine ak tk rfl (ac ?_)
 refine fC tk 55 54 53 (fun s2 g2=>upd (fun _=>.any) 1 (.ptr (cL t))) nB nO () H (fun fl2 Hp2 j2 s2 g2 hz2 hl2 x2 fb2 hx2 H hg2=>?_) (fun s2 g2 H=>?_)
 ·refine ab (ap (ab (aa (ak tk rfl ?_))))
  refine bd tk (zn j2) (bD (fun _=>rfl) hx2) ?_
  refine aj 3 tk rfl (ac (ab (aa (aj 3 tk rfl ?_))))
  refine bF rfl rfl rfl H (fun H=>?_) (fun H=>?_)
  ·refine aj 28 tk rfl (ac (aC rfl (av 1 tk rfl ?_)))
   obtain rfl := aI H
   have e2 : fl2 = .ret _ := hg2
   subst e2
   obtain rfl := bi Hp2
   refine bw tk rfl (ps := [(al 9)]) ⟨_,_,rfl,rfl,rfl⟩ (PLe.q rfl)
  refine aj 3 tk rfl (aG tk (zl _) ?_)
  refine aj 3 tk rfl ?_
  refine bF rfl rfl rfl H (fun H=>?_) (fun H=>?_)
  ·refine aj 21 tk rfl (ac (aC rfl (av 1 tk rfl ?_)))
   obtain rfl := aI H
   have e2 : fl2 = .ret _ := hg2
   subst e2
   obtain rfl := bi Hp2
   refine bw tk rfl (ps := [(al 9)]) ⟨_,_,rfl,rfl,rfl⟩ (PLe.q rfl)
  refine aj 3 tk rfl ?_
  obtain ⟨x73,k73,H⟩ := bL H
  refine bd tk k73.1 (aX (fun _=>rfl) k73.2) ?_
  refine aj 4 tk rfl ?_
  refine bF rfl rfl rfl H (fun H=>?_) (fun H=>?_)
  ·refine aj 13 tk rfl (ac (aC rfl (av 1 tk rfl ?_)))
   obtain rfl := aI H
   have e2 : fl2 = .ret _ := hg2
   subst e2
   obtain rfl := bi Hp2
   refine bw tk rfl (ps := [(al 9)]) ⟨_,_,rfl,rfl,rfl⟩ (PLe.q rfl)
  refine aj 3 tk rfl ?_
  refine bF rfl rfl rfl H (fun H=>?_) (fun H=>?_)
  ·refine aj 5 tk rfl ?_
   obtain ⟨x86,k86,H⟩ := bL H
   refine bd tk k86.1 (aX (fun _=>rfl) k86.2) ?_
   refine aj 4 tk rfl (ac ?_)
   refine aN rfl H (fun H=>?_) (fun H=>?_)
   ·refine av 1 tk rfl ?_
    obtain rfl := aI H
    have e2 : fl2 = .ret _ := hg2
    subst e2
    obtain rfl := bi Hp2
    refine bw tk rfl (ps := [(al 9)]) ⟨_,_,rfl,rfl,rfl⟩ (PLe.q rfl)
   refine ao (aw (bm 2 tk rfl ?_))
   exact bG () H hl2 hg2
  refine aj 10 tk rfl (ac (aB rfl (ao (aw (bm 2 tk rfl ?_)))))
  exact bG () H hl2 hg2
 refine ab (ab (aa (aj 2 tk rfl (aG tk (zl _) ?_))))
 refine ak tk rfl (ac ?_)
 refine aN rfl H (fun H=>?_) (fun H=>?_)
 ·refine av 1 tk rfl ?_
  exact bu tk H rfl
 refine ao (av 1 tk rfl ?_)
 exact bu tk H rfl
def eE (sA : LSchema) (fk : LForeignKey) : Option (Int) :=
 ah (fK sA fk.table) fun x17 =>
 ah (fK sA fk.refTable) fun x24 =>
 bH (
  cond (!x17.2)
   (true)
   ((!x24.2))) fun (t1 : Bool) =>
 cond t1
  (some 4)
  (ah (aO sA.tables x17.1) fun (x36 : LTable) =>
  ah (aO sA.tables x24.1) fun (x41 : LTable) =>
  cond ((fk.columns.length : Int) != (x41.primaryKey.length : Int))
   (some 3)
   (ah (aM (σ := Unit) (ρ := (Int)) (fun (j2 : Nat) (x2 : Int) (_ : Unit) =>
    bH (
     cond (decide (x2 < (0 : Int)))
      (true)
      ((decide (x2 ≥ (x36.columns.length : Int))))) fun (t4 : Bool) =>
    cond t4
     (some (.ret 3))
     (ah (aO x36.columns x2) fun (x70 : LCol) =>
     ah (aO x41.primaryKey (j2 : Int)) fun (x78 : Int) =>
     ah (aO x41.columns x78) fun (x80 : LCol) =>
     cond (x70.kind != x80.kind)
      (some (.ret 7))
      (some (.next ())))) 0 fk.columns ()) fun fl2=>fl2.thenR fun (_ : Unit) =>
   some 0))
theorem mN (sA : LSchema) (fk : LForeignKey) (r : Int) (H : eE sA fk = some r) :
  aT Tryz.prog 37 [(.agg (cp sA)),(.agg (ju fk))] (al r) := by
 unfold eE at H
 refine PH.ax Tryz.func37 Tryz.ntmps37 ?_
 refine ab (aa (au ?_))
 refine au ?_
 refine ak tk rfl (ac (ab (aa (aj 3 tk rfl ?_))))
 obtain ⟨x17,h17,H⟩ := aE H
 have s17 := kI sA fk.table _ h17
 refine ae Tryz.call66 (fu.r) s17 ?_
 refine aj 5 tk rfl (ac (ab (aa (aj 3 tk rfl ?_))))
 obtain ⟨x24,h24,H⟩ := aE H
 have s24 := kI sA fk.refTable _ h24
 refine ae Tryz.call66 (fu.r) s24 ?_
 refine aj 5 tk rfl (ac (ab (ab ?_)))
 refine gw (γ := Unit) (fun t1 g1=>⟨85,upd (upd (upd (upd (upd (fun _=>.any) 32 (aL t1)) 7 (al x24.1)) 5 (al x17.1)) 3 (.ptr (ju fk))) 2 (.ptr (cp sA)),fun _=>none,fun _=>none⟩) H (fun _ H=>?_) (fun t1 g1 H=>?_)
 ·refine aa (aj 3 tk rfl ?_)
  refine bF rfl rfl rfl H (fun H=>?_) (fun H=>?_)
  ·refine aj 3 tk rfl (ac ?_)
   refine bp _ () H Gh.d
  refine aj 3 tk rfl (ac ?_)
  refine bp _ () H Gh.d
 refine aN rfl H (fun H=>?_) (fun H=>?_)
 ·refine av 1 tk rfl ?_
  exact bu tk H rfl
 refine ao (ab (aJ tk mok ⟨false,false,[]⟩ [0,1,2,3,4,5,6,7,8,9,10,11,12,13] rfl (by decide +kernel) rfl (bc 3 rfl ?_)))
 obtain ⟨x36,k36,H⟩ := bL H
 refine bT k36.1 (aX (fun _=>rfl) k36.2) ?_
 refine bc 4 rfl ?_
 obtain ⟨x41,k41,H⟩ := bL H
 refine bT k41.1 (aX (fun _=>rfl) k41.2) ?_
 refine bo rfl ?_
 refine bg fun b9=>?_
 refine bg fun b10=>?_
 refine bQ rfl rfl rfl rfl rfl rfl rfl rfl rfl rfl rfl rfl (bQ rfl rfl rfl rfl rfl rfl rfl rfl rfl rfl rfl rfl (aP (ab (ab (aa (aj 2 tk rfl (aG tk (zl _) ?_)))))))
 refine ak tk rfl (ai tk ?_)
 refine aG tk (zl _) ?_
 refine ak tk rfl (ac ?_)
 refine aN rfl H (fun H=>?_) (fun H=>?_)
 ·refine av 1 tk rfl ?_
  exact bu tk H rfl
 refine ao (ab (ab (aa (aj 2 tk rfl (aG tk (zl _) ?_)))))
 refine ak tk rfl (ac ?_)
 obtain ⟨fl2,H2,Hp2⟩ := aE H
 refine eV tk 51 rfl rfl (fun hz2 _=>?_)
 rw [zl] at hz2
 refine fA (τ := Unit) (γ := Unit) (fun s2 g2=>⟨85,fun _=>.any,fun _=>none,fun _=>none⟩) (fun t=>fl2 = .next t) ?_ (fun s2 g2 hn2=>?_)
 ·refine ap ?_
  refine jz (fun j2 s2 g2=>⟨85,upd (upd (upd (upd (upd (fun _=>.any) 53 (al (j2 : Int))) 52 (al (fk.columns.length : Int))) 51 (.list 3 (fk.columns.map bV))) 10 (.box 10 b10 0)) 9 (.box 9 b9 0),upd (upd (fun _=>none) 10 (some ⟨b10,(cL x41)⟩)) 9 (some ⟨b9,(cL x36)⟩),fun _=>none⟩) () H2 Gh.d (fun j2 s2 g2 hj2 hr2=>?_)
  refine av 1 tk rfl (ab ?_)
  refine aQ rfl (fun h=>?_) (fun h=>?_)
  ·have hl2 := pI h
   obtain ⟨x2,fb2,hx2,H,hg2⟩ := rMc hl2 hr2
   refine ao (ab (ap (ab (aa (ak tk rfl ?_)))))
   refine bd tk (zn j2) (bD (fun _=>rfl) hx2) ?_
   refine aj 3 tk rfl (ac (ab (ab ?_)))
   refine gw (γ := Unit) (fun t4 g4=>⟨85,upd (upd (upd (upd (upd (upd (upd (upd (fun _=>.any) 66 (aL t4)) 53 (al (j2 : Int))) 52 (al (fk.columns.length : Int))) 51 (.list 3 (fk.columns.map bV))) 12 (al x2)) 11 (al (j2 : Int))) 10 (.box 10 b10 0)) 9 (.box 9 b9 0),upd (upd (fun _=>none) 10 (some ⟨b10,(cL x41)⟩)) 9 (some ⟨b9,(cL x36)⟩),fun _=>none⟩) H (fun _ H=>?_) (fun t4 g4 H=>?_)
   ·refine aa (aj 3 tk rfl ?_)
    refine bF rfl rfl rfl H (fun H=>?_) (fun H=>?_)
    ·refine aj 6 tk rfl (ac ?_)
     refine bp _ () H Gh.d
    refine aj 2 tk rfl (ai tk ?_)
    refine aG tk (zl _) ?_
    refine aj 2 tk rfl (ac ?_)
    refine bp _ () H Gh.d
   refine aN rfl H (fun H=>?_) (fun H=>?_)
   ·refine av 1 tk rfl ?_
    obtain rfl := aI H
    have e2 : fl2 = .ret _ := hg2
    subst e2
    obtain rfl := bi Hp2
    refine bw tk rfl (ps := [(al 3)]) ⟨_,_,rfl,rfl,rfl⟩ (PLe.q rfl)
   refine ao (ab (aJ tk mok ⟨true,false,[72,79,82]⟩ [0,1,2,3,4,5,6,7,8,9,10,11,12,13,14,15,16] rfl (by decide +kernel) rfl (bo rfl (aH ?_))))
   refine bo rfl ?_
   obtain ⟨x70,k70,H⟩ := bL H
   refine bT k70.1 (aX (fun _=>rfl) k70.2) ?_
   refine bc 3 rfl (aH ?_)
   refine bo rfl (aH ?_)
   refine bo rfl ?_
   obtain ⟨x78,k78,H⟩ := bL H
   refine bT k78.1 (aX (fun _=>rfl) k78.2) ?_
   refine bo rfl ?_
   obtain ⟨x80,k80,H⟩ := bL H
   refine bT k80.1 (aX (fun _=>rfl) k80.2) ?_
   refine bc 3 rfl (aP ?_)
   refine aN rfl H (fun H=>?_) (fun H=>?_)
   ·refine av 1 tk rfl ?_
    obtain rfl := aI H
    have e2 : fl2 = .ret _ := hg2
    subst e2
    obtain rfl := bi Hp2
    refine bw tk rfl (ps := [(al 7)]) ⟨_,_,rfl,rfl,rfl⟩ (PLe.q rfl)
   refine ao (aw (bm 2 tk rfl ?_))
   exact bG () H hl2 hg2
  have hn2 := rMd (pw h) hr2
  refine aD rfl ?_
  refine bp s2 g2 hn2 Gh.d
 have H := qi hn2 Hp2
 refine av 1 tk rfl ?_
 exact bu tk H rfl
def fV (other : LForeignKey) (c0 : LForeignKey) : Option (Bool) :=
 ah (gG other c0) fun x6 =>
 some x6
theorem qz (other : LForeignKey) (c0 : LForeignKey) (r : Bool) (H : fV other c0 = some r) :
  aT Tryz.prog 39 [(.agg (ju other)),(.ptr (ju c0))] (aL r) := by
 unfold fV at H
 refine PH.ax Tryz.func39 Tryz.ntmps39 ?_
 refine ab (aa (au ?_))
 refine ak tk rfl (ac (ab (aa (aj 2 tk rfl ?_))))
 obtain ⟨x6,h6,H⟩ := aE H
 have s6 := np other c0 _ h6
 refine ae Tryz.call40 (fu.r) s6 ?_
 refine ak tk rfl (ac ?_)
 exact bu tk H rfl
def gP (a : Rz) (b : Rz) : Option (Bool) :=
 ah (cx a b (fun a0 a1=>gd a0 a1)) fun x7 =>
 some x7
theorem qg (a : Rz) (b : Rz) (r : Bool) (H : gP a b = some r) :
  aT Tryz.prog 9 [(.list 55 (a.map (aq 54 af))),(.list 55 (b.map (aq 54 af)))] (aL r) := by
 unfold gP at H
 refine PH.ax Tryz.func9 Tryz.ntmps9 ?_
 refine av 1 tk rfl (ab (aa (aj 2 tk rfl ?_)))
 obtain ⟨x7,h7,H⟩ := aE H
 have s7 := iG a b (fun a0 a1=>gd a0 a1) Tryz.call20 (fun a0 a1 r h=>pe a0 a1 r h) _ h7
 refine ae Tryz.call19 (fu.r) s7 ?_
 refine ak tk rfl (ac ?_)
 exact bu tk H rfl
def kf (q : LQuery) : Option (Bool) :=
 ah (
  cond (decide (q.kind < (1 : Int)))
   (some true)
   (cond (decide (q.kind > (10 : Int)))
    (some true)
    (ah (aO ([(-1),0,1,1,2,2,2,2,1,1,1] : List Int) q.kind) fun (x21 : Int) =>
    some ((q.inputs.length : Int) != x21)))) fun (t1 : Bool) =>
 cond t1
  (some false)
  (ah (
   ah (dl ([1] : List Int) q) fun x29 =>
   cond (!x29)
    (some (!(q.table == ([] : List UInt8))))
    (some false)) fun (t2 : Bool) =>
  ah (
   cond t2
    (some t2)
    (ah (
     ah (dl ([3,8] : List Int) q) fun x38 =>
     cond (!x38)
      (some (decide ((q.names.length : Int) > (0 : Int))))
      (some false)) fun (t7 : Bool) =>
    cond t7
     (some t7)
     (ah (
      ah (dl ([8] : List Int) q) fun x48 =>
      cond (!x48)
       (some (decide ((q.aggregates.length : Int) > (0 : Int))))
       (some false)) fun (t8 : Bool) =>
     cond t8
      (some t8)
      (ah (
       ah (dl ([9] : List Int) q) fun x58 =>
       cond (!x58)
        (some (decide ((q.descending.length : Int) > (0 : Int))))
        (some false)) fun (t9 : Bool) =>
      cond t9
       (some t9)
       (ah (dl ([10] : List Int) q) fun x68 =>
       cond (!x68)
        (cond (q.count != (0 : Int))
         (some true)
         (some (q.offset != (0 : Int))))
        (some false)))))) fun (t6 : Bool) =>
  cond t6
   (some false)
   (ah (dl ([2,4,5] : List Int) q) fun x83 =>
   cond x83
    (some ((q.exprs.length : Int) == (1 : Int)))
    (ah (dl ([3,8] : List Int) q) fun x91 =>
    cond x91
     (cond ((q.exprs.length : Int) == (q.names.length : Int))
      (some (decide ((IntKind.i64.wrap ((q.exprs.length : Int) + (q.aggregates.length : Int))) > (0 : Int))))
      (some false))
     (ah (dl ([9] : List Int) q) fun x112 =>
     cond x112
      (cond ((q.exprs.length : Int) == (q.descending.length : Int))
       (some (decide ((q.exprs.length : Int) > (0 : Int))))
       (some false))
      (ah (dl ([10] : List Int) q) fun x129 =>
      cond x129
       (cond ((q.exprs.length : Int) == (0 : Int))
        (cond (decide (q.count ≥ (0 : Int)))
         (some (decide (q.offset ≥ (0 : Int))))
         (some false))
        (some false))
       (some ((q.exprs.length : Int) == (0 : Int))))))))
theorem W_query_shape (q : LQuery) (r : Bool) (H : kf q = some r) :
  aT Tryz.prog 73 [(.agg (aK q))] (aL r) := by
 unfold kf at H
 refine PH.ax Tryz.func73 Tryz.ntmps73 ?_
 refine ab (aa (au ?_))
 refine ak tk rfl (ac (ab (aa (ta (e := 3) (rows := [[(al (-1))],[(al 0)],[(al 1)],[(al 1)],[(al 2)],[(al 2)],[(al 2)],[(al 2)],[(al 1)],[(al 1)],[(al 1)]]) tk rfl rfl rfl rfl (rows' := List.map bV ([(-1),0,1,1,2,2,2,2,1,1,1] : List Int)) (by kernel_rfl) (je.refl _) rfl rfl (ak tk rfl (ac (ab (ab ?_))))))))
 refine gS (γ := Unit) (fun t1 g1=>⟨148,upd (upd (fun _=>.any) 24 (aL t1)) 1 (.ptr (aK q)),fun _=>none,fun _=>none⟩) H (fun _ H=>?_) (fun t1 g1 H=>?_)
 ·refine aJ tk mok ⟨false,false,[]⟩ [0,1,2,3,4,5,6,7,8,9,10,11,12,13,14,15,16,17,18] rfl (by decide +kernel) rfl (bc 4 rfl ?_)
  refine mL H (fun H=>?_) (fun H=>?_)
  ·refine bc 15 rfl (aP ?_)
   refine bp _ () (aI H) Gh.d
  refine bc 5 rfl ?_
  refine mL H (fun H=>?_) (fun H=>?_)
  ·refine bc 10 rfl (aP ?_)
   refine bp _ () (aI H) Gh.d
  refine bc 2 rfl (sR rfl rfl rfl rfl rfl rfl (zl _) rfl (bc 3 rfl ?_))
  obtain ⟨x21,k21,H⟩ := bL H
  refine bT k21.1 (aX (fun _=>rfl) k21.2) ?_
  refine bc 3 rfl (aP ?_)
  refine bp _ () (aI H) Gh.d
 refine aN rfl H (fun H=>?_) (fun H=>?_)
 ·refine av 1 tk rfl ?_
  exact bu tk H rfl
 refine ao (av 2 tk rfl (ab (ap (ab (ab ?_)))))
 refine gS (γ := Unit) (fun t2 g2=>⟨148,upd (upd (upd (fun _=>.any) 26 (aL t2)) 4 (.fn 94 [(.ptr (aK q))])) 1 (.ptr (aK q)),fun _=>none,fun _=>none⟩) H (fun _ H=>?_) (fun t2 g2 H=>?_)
 ·refine aa (ak tk rfl (cz tk (rows' := List.map bV ([1] : List Int)) (je.refl _) ?_))
  obtain ⟨x29,h29,H⟩ := aE H
  have s29 := fq ([1] : List Int) q _ h29
  refine ae Tryz.call94 (fu.r) s29 ?_
  refine aj 2 tk rfl ?_
  refine bF rfl rfl rfl H (fun H=>?_) (fun H=>?_)
  ·refine aj 5 tk rfl (ac ?_)
   refine bp _ () (aI H) Gh.d
  refine aj 5 tk rfl (ac ?_)
  refine bp _ () (aI H) Gh.d
 refine gS (γ := Unit) (fun t6 g6=>⟨148,upd (upd (upd (fun _=>.any) 26 (aL t6)) 4 (.fn 94 [(.ptr (aK q))])) 1 (.ptr (aK q)),fun _=>none,fun _=>none⟩) H (fun _ H=>?_) (fun t6 g6 H=>?_)
 ·refine aN rfl H (fun H=>?_) (fun H=>?_)
  ·refine ao ?_
   refine bp _ () (aI H) Gh.d
  refine ab ?_
  refine gS (γ := Unit) (fun t7 g7=>⟨148,upd (upd (upd (fun _=>.any) 26 (aL t7)) 4 (.fn 94 [(.ptr (aK q))])) 1 (.ptr (aK q)),fun _=>none,fun _=>none⟩) H (fun _ H=>?_) (fun t7 g7 H=>?_)
  ·refine aa (ak tk rfl (cz tk (rows' := List.map bV ([3,8] : List Int)) (je.refl _) ?_))
   obtain ⟨x38,h38,H⟩ := aE H
   have s38 := fq ([3,8] : List Int) q _ h38
   refine ae Tryz.call94 (fu.r) s38 ?_
   refine aj 2 tk rfl ?_
   refine bF rfl rfl rfl H (fun H=>?_) (fun H=>?_)
   ·refine aj 2 tk rfl (aG tk (zl _) ?_)
    refine aj 3 tk rfl (ac ?_)
    refine bp _ () (aI H) Gh.d
   refine aj 6 tk rfl (ac ?_)
   refine bp _ () (aI H) Gh.d
  refine aN rfl H (fun H=>?_) (fun H=>?_)
  ·refine ao ?_
   refine bp _ () (aI H) Gh.d
  refine ab ?_
  refine gS (γ := Unit) (fun t8 g8=>⟨148,upd (upd (upd (fun _=>.any) 26 (aL t8)) 4 (.fn 94 [(.ptr (aK q))])) 1 (.ptr (aK q)),fun _=>none,fun _=>none⟩) H (fun _ H=>?_) (fun t8 g8 H=>?_)
  ·refine aa (ak tk rfl (cz tk (rows' := List.map bV ([8] : List Int)) (je.refl _) ?_))
   obtain ⟨x48,h48,H⟩ := aE H
   have s48 := fq ([8] : List Int) q _ h48
   refine ae Tryz.call94 (fu.r) s48 ?_
   refine aj 2 tk rfl ?_
   refine bF rfl rfl rfl H (fun H=>?_) (fun H=>?_)
   ·refine aj 2 tk rfl (aG tk (zl _) ?_)
    refine aj 3 tk rfl (ac ?_)
    refine bp _ () (aI H) Gh.d
   refine aj 6 tk rfl (ac ?_)
   refine bp _ () (aI H) Gh.d
  refine aN rfl H (fun H=>?_) (fun H=>?_)
  ·refine ao ?_
   refine bp _ () (aI H) Gh.d
  refine ab ?_
  refine gS (γ := Unit) (fun t9 g9=>⟨148,upd (upd (upd (fun _=>.any) 26 (aL t9)) 4 (.fn 94 [(.ptr (aK q))])) 1 (.ptr (aK q)),fun _=>none,fun _=>none⟩) H (fun _ H=>?_) (fun t9 g9 H=>?_)
  ·refine aa (ak tk rfl (cz tk (rows' := List.map bV ([9] : List Int)) (je.refl _) ?_))
   obtain ⟨x58,h58,H⟩ := aE H
   have s58 := fq ([9] : List Int) q _ h58
   refine ae Tryz.call94 (fu.r) s58 ?_
   refine aj 2 tk rfl ?_
   refine bF rfl rfl rfl H (fun H=>?_) (fun H=>?_)
   ·refine aj 2 tk rfl (aG tk (zl _) ?_)
    refine aj 3 tk rfl (ac ?_)
    refine bp _ () (aI H) Gh.d
   refine aj 6 tk rfl (ac ?_)
   refine bp _ () (aI H) Gh.d
  refine aN rfl H (fun H=>?_) (fun H=>?_)
  ·refine ao ?_
   refine bp _ () (aI H) Gh.d
  refine aa (ak tk rfl (cz tk (rows' := List.map bV ([10] : List Int)) (je.refl _) ?_))
  obtain ⟨x68,h68,H⟩ := aE H
  have s68 := fq ([10] : List Int) q _ h68
  refine ae Tryz.call94 (fu.r) s68 ?_
  refine aj 2 tk rfl ?_
  refine bF rfl rfl rfl H (fun H=>?_) (fun H=>?_)
  ·refine aj 4 tk rfl ?_
   refine bF rfl rfl rfl H (fun H=>?_) (fun H=>?_)
   ·refine aj 6 tk rfl (ac ?_)
    refine bp _ () (aI H) Gh.d
   refine aj 6 tk rfl (ac ?_)
   refine bp _ () (aI H) Gh.d
  refine aj 10 tk rfl (ac ?_)
  refine bp _ () (aI H) Gh.d
 refine aN rfl H (fun H=>?_) (fun H=>?_)
 ·refine av 1 tk rfl ?_
  exact bu tk H rfl
 refine ab (aa (ak tk rfl (cz tk (rows' := List.map bV ([2,4,5] : List Int)) (je.refl _) ?_)))
 obtain ⟨x83,h83,H⟩ := aE H
 have s83 := fq ([2,4,5] : List Int) q _ h83
 refine ae Tryz.call94 (fu.r) s83 ?_
 refine ak tk rfl (ac ?_)
 refine aN rfl H (fun H=>?_) (fun H=>?_)
 ·refine ab (aa (aj 2 tk rfl (aG tk (zl _) ?_)))
  refine aj 2 tk rfl (ac ?_)
  exact bu tk H rfl
 refine ab (aa (ak tk rfl (cz tk (rows' := List.map bV ([3,8] : List Int)) (je.refl _) ?_)))
 obtain ⟨x91,h91,H⟩ := aE H
 have s91 := fq ([3,8] : List Int) q _ h91
 refine ae Tryz.call94 (fu.r) s91 ?_
 refine ak tk rfl (ac ?_)
 refine aN rfl H (fun H=>?_) (fun H=>?_)
 ·refine ab (aa (aj 2 tk rfl (aG tk (zl _) ?_)))
  refine aj 2 tk rfl (aG tk (zl _) ?_)
  refine aj 2 tk rfl ?_
  refine bF rfl rfl rfl H (fun H=>?_) (fun H=>?_)
  ·refine aj 2 tk rfl (aG tk (zl _) ?_)
   refine aj 2 tk rfl (aG tk (zl _) ?_)
   refine aj 4 tk rfl (ac ?_)
   exact bu tk H rfl
  refine aj 10 tk rfl (ac ?_)
  exact bu tk H rfl
 refine ab (aa (ak tk rfl (cz tk (rows' := List.map bV ([9] : List Int)) (je.refl _) ?_)))
 obtain ⟨x112,h112,H⟩ := aE H
 have s112 := fq ([9] : List Int) q _ h112
 refine ae Tryz.call94 (fu.r) s112 ?_
 refine ak tk rfl (ac ?_)
 refine aN rfl H (fun H=>?_) (fun H=>?_)
 ·refine ab (aa (aj 2 tk rfl (aG tk (zl _) ?_)))
  refine aj 2 tk rfl (aG tk (zl _) ?_)
  refine aj 2 tk rfl ?_
  refine bF rfl rfl rfl H (fun H=>?_) (fun H=>?_)
  ·refine aj 2 tk rfl (aG tk (zl _) ?_)
   refine aj 3 tk rfl (ac ?_)
   exact bu tk H rfl
  refine aj 6 tk rfl (ac ?_)
  exact bu tk H rfl
 refine ab (aa (ak tk rfl (cz tk (rows' := List.map bV ([10] : List Int)) (je.refl _) ?_)))
 obtain ⟨x129,h129,H⟩ := aE H
 have s129 := fq ([10] : List Int) q _ h129
 refine ae Tryz.call94 (fu.r) s129 ?_
 refine ak tk rfl (ac ?_)
 refine aN rfl H (fun H=>?_) (fun H=>?_)
 ·refine ab (aa (aj 2 tk rfl (aG tk (zl _) ?_)))
  refine aj 2 tk rfl ?_
  refine bF rfl rfl rfl H (fun H=>?_) (fun H=>?_)
  ·refine aj 5 tk rfl ?_
   refine bF rfl rfl rfl H (fun H=>?_) (fun H=>?_)
   ·refine aj 5 tk rfl (ac ?_)
    exact bu tk H rfl
   refine aj 5 tk rfl (ac ?_)
   exact bu tk H rfl
  refine aj 10 tk rfl (ac ?_)
  exact bu tk H rfl
 refine ao (aw (ab (aa (aj 2 tk rfl (aG tk (zl _) ?_)))))
 refine aj 2 tk rfl (ac ?_)
 exact bu tk H rfl
def cF (c : LChecker) (l : List LCol) (e : LExpr) : Int :=
 bH (cE l c.vars e) fun x15 =>
 cond (x15.2.2 == (0 : Int))
  (cond (x15.1 != (2 : Int))
   (cond (x15.1 != (0 : Int))
    (7)
    (x15.2.2))
   (x15.2.2))
  (x15.2.2)
theorem kr (c : LChecker) (l : List LCol) (e : LExpr) :
  aT Tryz.prog 97 [(.agg (dX c)),(.list 49 (l.map aW)),(.agg (im e))] (al (cF c l e)) := by
 obtain ⟨r,H⟩ : ∃ r,cF c l e = r := ⟨_,rfl⟩
 rw [H]
 unfold cF at H
 refine PH.ax Tryz.func97 Tryz.ntmps97 ?_
 refine ab (aa (au ?_))
 refine au ?_
 refine ak tk rfl (ac (ab (aa (aj 4 tk rfl ?_))))
 obtain ⟨x15,h15,H⟩ := db H
 have s15 := mG l c.vars e
 rw [h15] at s15
 refine ae Tryz.call100 (fu.r) s15 ?_
 refine aj 7 tk rfl (ac (ab (ab (aa (aj 3 tk rfl ?_)))))
 refine bF rfl rfl rfl H (fun H=>?_) (fun H=>?_)
 ·refine aj 4 tk rfl ?_
  refine bF rfl rfl rfl H (fun H=>?_) (fun H=>?_)
  ·refine aj 3 tk rfl (ac ?_)
   refine aN rfl H (fun H=>?_) (fun H=>?_)
   ·refine av 1 tk rfl ?_
    exact el tk H rfl
   refine ao (av 2 tk rfl ?_)
   exact el tk H rfl
  refine aj 3 tk rfl (ac (aB rfl (ao (av 2 tk rfl ?_))))
  exact el tk H rfl
 refine aj 7 tk rfl (ac (aB rfl (ao (av 2 tk rfl ?_))))
 exact el tk H rfl
def fS (c : LChecker) (inA : List LCol) (a : LAggregateCall) : Option (Int × Int) :=
 ah (
  bH (cY a.name) fun x13 =>
  cond (!x13)
   (some true)
   (ah (dI ([[99,111,117,110,116],[115,117,109],[109,105,110],[109,97,120]] : List (List UInt8)) a.function) fun x19 =>
   cond (!x19)
    (some true)
    (cond (decide ((a.args.length : Int) > (1 : Int)))
     (some true)
     (cond (decide ((a.args.length : Int) < (1 : Int)))
      (some (!(a.function == ([99,111,117,110,116] : List UInt8))))
      (some false))))) fun (t1 : Bool) =>
 cond t1
  (some (0,3))
  (cond ((a.args.length : Int) == (0 : Int))
   (some (1,0))
   (ah (aO a.args 0) fun (x49 : LExpr) =>
   bH (cE inA c.vars x49) fun x51 =>
   cond (x51.2.2 != (0 : Int))
    (some (0,x51.2.2))
    (bH (
     cond (x51.1 == (0 : Int))
      (true)
      (cond (a.function == ([115,117,109] : List UInt8))
       ((x51.1 != (1 : Int)))
       (false))) fun (t2 : Bool) =>
    cond t2
     (some (0,7))
     (cond (a.function == ([99,111,117,110,116] : List UInt8))
      (some (1,0))
      (some (x51.1,0))))))
theorem qy (c : LChecker) (inA : List LCol) (a : LAggregateCall) (r : Int × Int) (H : fS c inA a = some r) :
  aT Tryz.prog 115 [(.agg (dX c)),(.list 49 (inA.map aW)),(.agg (jE a))] (.tup [(al r.1),(al r.2)]) := by
 unfold fS at H
 refine PH.ax Tryz.func115 Tryz.ntmps115 ?_
 refine ab (aa (au ?_))
 refine au ?_
 refine aj 2 tk rfl (ac (ab (ab ?_)))
 refine gS (γ := Unit) (fun t1 g1=>⟨76,upd (upd (upd (upd (fun _=>.any) 38 (aL t1)) 5 (.ptr (jE a))) 3 (.ptr (dX c))) 1 (.list 49 (inA.map aW)),fun _=>none,fun _=>none⟩) H (fun _ H=>?_) (fun t1 g1 H=>?_)
 ·refine aa (aj 2 tk rfl ?_)
  obtain ⟨x13,h13,H⟩ := db H
  have s13 := kq a.name
  rw [h13] at s13
  refine ae Tryz.call114 (fu.r) s13 ?_
  refine aj 2 tk rfl ?_
  refine bF rfl rfl rfl H (fun H=>?_) (fun H=>?_)
  ·refine aj 23 tk rfl (ac ?_)
   refine bp _ () (aI H) Gh.d
  refine cz tk (rows' := List.map gn ([[99,111,117,110,116],[115,117,109],[109,105,110],[109,97,120]] : List (List UInt8))) (je.refl _) ?_
  refine aj 2 tk rfl ?_
  obtain ⟨x19,h19,H⟩ := aE H
  have s19 := ly ([[99,111,117,110,116],[115,117,109],[109,105,110],[109,97,120]] : List (List UInt8)) a.function _ h19
  refine ae Tryz.call126 (fu.r) s19 ?_
  refine aj 3 tk rfl ?_
  refine bF rfl rfl rfl H (fun H=>?_) (fun H=>?_)
  ·refine aj 16 tk rfl (ac ?_)
   refine bp _ () (aI H) Gh.d
  refine aj 2 tk rfl (aG tk (zl _) ?_)
  refine aj 3 tk rfl ?_
  refine bF rfl rfl rfl H (fun H=>?_) (fun H=>?_)
  ·refine aj 10 tk rfl (ac ?_)
   refine bp _ () (aI H) Gh.d
  refine aj 2 tk rfl (aG tk (zl _) ?_)
  refine aj 2 tk rfl ?_
  refine bF rfl rfl rfl H (fun H=>?_) (fun H=>?_)
  ·refine aj 5 tk rfl (ac ?_)
   refine bp _ () (aI H) Gh.d
  refine aj 5 tk rfl (ac ?_)
  refine bp _ () (aI H) Gh.d
 refine aN rfl H (fun H=>?_) (fun H=>?_)
 ·refine av 2 tk rfl ?_
  exact bu tk H rfl
 refine ao (ab (ab (aa (aj 2 tk rfl (aG tk (zl _) ?_)))))
 refine ak tk rfl (ac ?_)
 refine aN rfl H (fun H=>?_) (fun H=>?_)
 ·refine av 2 tk rfl ?_
  exact bu tk H rfl
 refine ao (ab (aJ tk mok ⟨false,false,[]⟩ [0,1,2,3,4,5,6,7,8,9,10,11,12,13,14] rfl (by decide +kernel) rfl (bc 5 rfl ?_)))
 obtain ⟨x49,k49,H⟩ := bL H
 refine bT k49.1 (aX dq k49.2) ?_
 refine bo rfl ?_
 obtain ⟨x51,h51,H⟩ := db H
 have s51 := mG inA c.vars x49
 rw [h51] at s51
 refine am Tryz.call100 (fu.r) s51 ?_
 refine bc 7 rfl (aP (ab (ap (av 3 tk rfl ?_))))
 refine aN rfl H (fun H=>?_) (fun H=>?_)
 ·refine av 3 tk rfl ?_
  exact bu tk H rfl
 refine ab ?_
 refine gw (γ := Unit) (fun t2 g2=>⟨76,upd (upd (upd (fun _=>.any) 59 (aL t2)) 8 (al x51.1)) 5 (.ptr (jE a)),fun _=>none,fun _=>none⟩) H (fun _ H=>?_) (fun t2 g2 H=>?_)
 ·refine aa (aj 3 tk rfl ?_)
  refine bF rfl rfl rfl H (fun H=>?_) (fun H=>?_)
  ·refine aj 9 tk rfl (ac ?_)
   refine bp _ () H Gh.d
  refine aj 4 tk rfl ?_
  refine bF rfl rfl rfl H (fun H=>?_) (fun H=>?_)
  ·refine aj 5 tk rfl (ac ?_)
   refine bp _ () H Gh.d
  refine aj 5 tk rfl (ac ?_)
  refine bp _ () H Gh.d
 refine aN rfl H (fun H=>?_) (fun H=>?_)
 ·refine av 2 tk rfl ?_
  exact bu tk H rfl
 refine av 4 tk rfl ?_
 refine aN rfl H (fun H=>?_) (fun H=>?_)
 ·refine av 2 tk rfl ?_
  exact bu tk H rfl
 refine ao (aw (av 3 tk rfl ?_))
 exact bu tk H rfl
def dN (a : Rq) (b : Rq) : Option (Int) :=
 ah (nS (if (b.length : Int) < (a.length : Int) then (b.length : Int) else (a.length : Int))) fun (n1 : Nat) =>
 ah (aM (σ := Unit) (ρ := (Int)) (fun (j1 : Nat) (_ : Nat) (_ : Unit) =>
  ah (aO a (j1 : Int)) fun (x17 : LVal) =>
  ah (aO b (j1 : Int)) fun (x21 : LVal) =>
  bH (js x17 x21) fun x23 =>
  cond (x23 != (0 : Int))
   (some (.ret x23))
   (some (.next ()))) 0 (List.range n1) ()) fun fl1=>fl1.thenR fun (_ : Unit) =>
 bH (fY (a.length : Int) (b.length : Int)) fun x32 =>
 some x32
theorem qx (a : Rq) (b : Rq) (r : Int) (H : dN a b = some r) :
  aT Tryz.prog 27 [(.list 54 (a.map af)),(.list 54 (b.map af))] (al r) := by
 unfold dN at H
 refine PH.ax Tryz.func27 Tryz.ntmps27 ?_
 refine av 1 tk rfl (ab (ab (aa (ak tk rfl (aG tk (zl _) ?_)))))
 refine ak tk rfl (aG tk (zl _) ?_)
 refine aj 2 tk rfl (ac ?_)
 obtain ⟨n1,hs1,H⟩ := aE H
 have hz1 := oX hs1
 obtain ⟨fl1,H1,Hp1⟩ := aE H
 refine fA (τ := Unit) (γ := Unit) (fun s1 g1=>⟨33,upd (upd (fun _=>.any) 1 (.list 54 (b.map af))) 0 (.list 54 (a.map af)),fun _=>none,fun _=>none⟩) (fun t=>fl1 = .next t) ?_ (fun s1 g1 hn1=>?_)
 ·refine ap ?_
  refine jz (fun j1 s1 g1=>⟨33,upd (upd (upd (upd (fun _=>.any) 12 (al (j1 : Int))) 11 (al (if (b.length : Int) < (a.length : Int) then (b.length : Int) else (a.length : Int)))) 1 (.list 54 (b.map af))) 0 (.list 54 (a.map af)),fun _=>none,fun _=>none⟩) () H1 Gh.d (fun j1 s1 g1 hj1 hr1=>?_)
  refine av 1 tk rfl (ab ?_)
  refine aQ rfl (fun h=>?_) (fun h=>?_)
  ·have hl1 := natLt hz1 h
   obtain ⟨x1,fb1,hx1,H,hg1⟩ := rMc hl1 hr1
   obtain rfl := natX hx1
   refine ao (ab (ap (av 2 tk rfl (ab (aJ tk mok ⟨false,false,[]⟩ [0,1,2,3,4,5,6,7,8,9] rfl (by decide +kernel) rfl (bc 2 rfl ?_))))))
   obtain ⟨x17,k17,H⟩ := bL H
   refine bT k17.1 (aX (fun _=>rfl) k17.2) ?_
   refine bc 3 rfl ?_
   obtain ⟨x21,k21,H⟩ := bL H
   refine bT k21.1 (aX (fun _=>rfl) k21.2) ?_
   refine bo rfl ?_
   obtain ⟨x23,h23,H⟩ := db H
   have s23 := oG x17 x21
   rw [h23] at s23
   refine am Tryz.call44 (fu.r) s23 ?_
   refine bo rfl (aP (av 2 tk rfl ?_))
   refine aN rfl H (fun H=>?_) (fun H=>?_)
   ·refine av 2 tk rfl ?_
    obtain rfl := aI H
    have e1 : fl1 = .ret _ := hg1
    subst e1
    obtain rfl := bi Hp1
    refine bw tk rfl (ps := [(al x23)]) ⟨_,_,rfl,rfl,rfl⟩ (PLe.q rfl)
   refine ao (aw (bm 2 tk rfl ?_))
   exact bG () H hl1 hg1 (Gh.le (ay (ay (ay (bP (PLe.q (qj hz1 hl1)) br)))) aV aU)
  have hn1 := rMd (natGe hz1 h) hr1
  refine aD rfl ?_
  refine bp s1 g1 hn1 Gh.d
 have H := qi hn1 Hp1
 refine ab (aa (ak tk rfl (aG tk (zl _) ?_)))
 refine ak tk rfl (aG tk (zl _) ?_)
 obtain ⟨x32,h32,H⟩ := db H
 have s32 := km (a.length : Int) (b.length : Int)
 rw [h32] at s32
 refine ae Tryz.call45 (fu.r) s32 ?_
 refine ak tk rfl (ac ?_)
 exact bu tk H rfl
def dZ (data : Rz) (n : Int) (cmp : Rq → Rq → Option (Int)) : Option (Rz) :=
 ah (fD (σ := Rz × Int × Int) (ρ := Empty) (fun (s1 : Rz × Int × Int) =>
  cond (decide (s1.2.2 ≤ n))
   (ah (cA s1.1 s1.2.1 s1.2.2 cmp) fun x18 =>
   ah (eW (x18.length = s1.1.length) ()) fun (_ : Unit) =>
   some (.next (x18,s1.2.2,(IntKind.i64.wrap (s1.2.2 + (20 : Int))))))
   (some (.brk (s1.1,s1.2.1,s1.2.2)))) (data,0,20)) fun fl1=>fl1.thenP fun (s1 : Rz × Int × Int) =>
 ah (cA s1.1 s1.2.1 n cmp) fun x27 =>
 ah (eW (x27.length = s1.1.length) ()) fun (_ : Unit) =>
 ah (fD (σ := Rz × Int) (ρ := Empty) (fun (s2 : Rz × Int) =>
  cond (decide (s2.2 < n))
   (ah (fD (σ := Rz × Int × Int) (ρ := Empty) (fun (s5 : Rz × Int × Int) =>
    cond (decide (s5.2.2 ≤ n))
     (ah (eT s5.1 s5.2.1 (IntKind.i64.wrap (s5.2.1 + s2.2)) s5.2.2 cmp) fun x43 =>
     ah (eW (x43.length = s5.1.length) ()) fun (_ : Unit) =>
     some (.next (x43,s5.2.2,(IntKind.i64.wrap (s5.2.2 + (IntKind.i64.wrap ((2 : Int) * s2.2)))))))
     (some (.brk (s5.1,s5.2.1,s5.2.2)))) (s2.1,0,(IntKind.i64.wrap ((2 : Int) * s2.2)))) fun fl5=>fl5.thenP fun (s5 : Rz × Int × Int) =>
   cond (decide ((IntKind.i64.wrap (s5.2.1 + s2.2)) < n))
    (ah (eT s5.1 s5.2.1 (IntKind.i64.wrap (s5.2.1 + s2.2)) n cmp) fun x60 =>
    ah (eW (x60.length = s5.1.length) ()) fun (_ : Unit) =>
    some (.next (x60,(IntKind.i64.wrap (s2.2 * (2 : Int))))))
    (some (.next (s5.1,(IntKind.i64.wrap (s2.2 * (2 : Int)))))))
   (some (.brk (s2.1,s2.2)))) (x27,20)) fun fl2=>fl2.thenP fun (s2 : Rz × Int) =>
 some s2.1
theorem lY (g_data : OwnRef) {g_cmp : FuncId} {caps_cmp : List PV} (data : Rz) (n : Int) (cmp : Rq → Rq → Option (Int)) (hg_cmp : ∀ (vs : Array Value) (w : World),(callFunc g_cmp vs).run Tryz.prog w = .ok (.enter g_cmp vs) w) (hp_cmp : ∀ a0 a1 r,cmp a0 a1 = some r → aT Tryz.prog g_cmp ((.list 54 (a0.map af)) :: (.list 54 (a1.map af)) :: caps_cmp) (al r)) (r : Rz) (H : dZ data n cmp = some r) :
  PH Tryz.prog 110 [(.own 0 g_data (data.map (aq 54 af)).length),(al n),(.fn g_cmp caps_cmp)] ⟨fun _=>none,upd (fun _=>none) 0 (some ⟨g_data,55,(data.map (aq 54 af)),true⟩)⟩ (fun u H=>u = (.tup []) ∧ H = ⟨fun _=>none,upd (fun _=>none) 0 (some ⟨g_data,55,(r.map (aq 54 af)),true⟩)⟩) := by
 unfold dZ at H
 refine PH.ax Tryz.func110 Tryz.ntmps110 ?_
 refine av 1 tk rfl (av 3 tk rfl (ab ?_))
 obtain ⟨fl1,H1,Hp1⟩ := aE H
 refine fA (τ := Rz × Int × Int) (γ := Unit) (fun s1 g1=>⟨63,upd (upd (upd (upd (upd (fun _=>.any) 7 (al s1.2.1)) 6 (al 20)) 2 (.fn g_cmp caps_cmp)) 1 (al n)) 0 (.own 0 g_data (s1.1.map (aq 54 af)).length),fun _=>none,upd (fun _=>none) 0 (some ⟨g_data,55,(s1.1.map (aq 54 af)),true⟩)⟩) (fun t=>fl1 = .next t) ?_ (fun s1 g1 hn1=>?_)
 ·refine ap ?_
  refine gM (fun s1 g1=>⟨63,upd (upd (upd (upd (upd (upd (fun _=>.any) 8 (al s1.2.2)) 7 (al s1.2.1)) 6 (al 20)) 2 (.fn g_cmp caps_cmp)) 1 (al n)) 0 (.own 0 g_data (s1.1.map (aq 54 af)).length),fun _=>none,upd (fun _=>none) 0 (some ⟨g_data,55,(s1.1.map (aq 54 af)),true⟩)⟩) () H1 Gh.d (fun m1 s1 g1 hr1=>?_)
  obtain ⟨fb1,H,hg1⟩ := ft hr1
  refine ab (av 3 tk rfl ?_)
  refine aN rfl H (fun H=>?_) (fun H=>?_)
  ·refine ao (ap (ab (aa (aj 4 tk rfl ?_))))
   obtain ⟨x18,h18,H⟩ := aE H
   have s18 := ir g_data s1.1 s1.2.1 s1.2.2 cmp hg_cmp hp_cmp _ h18
   obtain ⟨_,q18_0,H⟩ := aE H
   have l18_0 := (dE q18_0).1
   have z18_0 : (List.map (aq 54 af) s1.1).length = (List.map (aq 54 af) x18).length := by simpa using (l18_0).symm
   refine ew (g := 123) rfl rfl rfl Tryz.call123 [] [(0,0)] rfl rfl rfl rfl (fu.of2 (iB.cons (PLe2.own rfl) (iB.cons (PLe2.of_eq rfl) (iB.cons (PLe2.of_eq rfl) (iB.cons (PLe2.of_eq rfl) iB.nil))))) (by rw [dS,dr,dQ]; rfl) s18 ?_
   rintro u18 H18h ⟨rfl,rfl⟩
   refine ⟨_,rfl,?_⟩
   refine dM (st' := ⟨_,_,fun _=>none,upd (fun _=>none) 0 (some ⟨g_data,55,(x18.map (aq 54 af)),true⟩)⟩) (Gh.le (dj _ _) aV (bI aU)) ?_
   refine ac (av 2 tk rfl (bm 4 tk rfl (aw ?_)))
   obtain rfl := aI H
   refine eg (x18,s1.2.2,(IntKind.i64.wrap (s1.2.2 + (20 : Int)))) () hg1 (Gh.le (bP (PLe.of2 (PLe2.of_eq (congrArg (PV.own 0 g_data) z18_0))) (ay (ay (ay (ay (ay br)))))) aV (bI aU))
  refine aD rfl ?_
  obtain rfl := aI H
  refine bp (s1.1,s1.2.1,s1.2.2) () hg1 Gh.d
 have H := dC hn1 Hp1
 refine ab (aa (aj 4 tk rfl ?_))
 obtain ⟨x27,h27,H⟩ := aE H
 have s27 := ir g_data s1.1 s1.2.1 n cmp hg_cmp hp_cmp _ h27
 obtain ⟨_,q27_0,H⟩ := aE H
 have l27_0 := (dE q27_0).1
 have z27_0 : (List.map (aq 54 af) s1.1).length = (List.map (aq 54 af) x27).length := by simpa using (l27_0).symm
 refine ew (g := 123) rfl rfl rfl Tryz.call123 [] [(0,0)] rfl rfl rfl rfl (fu.of2 (iB.cons (PLe2.own rfl) (iB.cons (PLe2.of_eq rfl) (iB.cons (PLe2.of_eq rfl) (iB.cons (PLe2.of_eq rfl) iB.nil))))) (by rw [dS,dr,dQ]; rfl) s27 ?_
 rintro u27 H27h ⟨rfl,rfl⟩
 refine ⟨_,rfl,?_⟩
 refine dM (st' := ⟨_,_,fun _=>none,upd (fun _=>none) 0 (some ⟨g_data,55,(x27.map (aq 54 af)),true⟩)⟩) (Gh.le (dj _ _) aV (bI aU)) ?_
 refine ac ?_
 obtain ⟨fl2,H2,Hp2⟩ := aE H
 refine fA (τ := Rz × Int) (γ := Unit) (fun s2 g2=>⟨63,upd (fun _=>.any) 0 (.own 0 g_data (s2.1.map (aq 54 af)).length),fun _=>none,upd (fun _=>none) 0 (some ⟨g_data,55,(s2.1.map (aq 54 af)),true⟩)⟩) (fun t=>fl2 = .next t) ?_ (fun s2 g2 hn2=>?_)
 ·refine ap ?_
  refine gM (fun s2 g2=>⟨63,upd (upd (upd (upd (fun _=>.any) 6 (al s2.2)) 2 (.fn g_cmp caps_cmp)) 1 (al n)) 0 (.own 0 g_data (s2.1.map (aq 54 af)).length),fun _=>none,upd (fun _=>none) 0 (some ⟨g_data,55,(s2.1.map (aq 54 af)),true⟩)⟩) () H2 (Gh.le (bP (PLe.of2 (PLe2.of_eq (congrArg (PV.own 0 g_data) z27_0))) (ay (ay (ay br)))) aV (bI aU)) (fun m2 s2 g2 hr2=>?_)
  obtain ⟨fb2,H,hg2⟩ := ft hr2
  refine ab (av 3 tk rfl ?_)
  refine aN rfl H (fun H=>?_) (fun H=>?_)
  ·refine ao (ap (av 4 tk rfl (ab ?_)))
   obtain ⟨fl5,H5,Hp5⟩ := aE H
   refine fA (τ := Rz × Int × Int) (γ := Unit) (fun s5 g5=>⟨63,upd (upd (upd (upd (upd (fun _=>.any) 7 (al s5.2.1)) 6 (al s2.2)) 2 (.fn g_cmp caps_cmp)) 1 (al n)) 0 (.own 0 g_data (s5.1.map (aq 54 af)).length),fun _=>none,upd (fun _=>none) 0 (some ⟨g_data,55,(s5.1.map (aq 54 af)),true⟩)⟩) (fun t=>fl5 = .next t) ?_ (fun s5 g5 hn5=>?_)
   ·refine ap ?_
    refine gM (fun s5 g5=>⟨63,upd (upd (upd (upd (upd (upd (fun _=>.any) 8 (al s5.2.2)) 7 (al s5.2.1)) 6 (al s2.2)) 2 (.fn g_cmp caps_cmp)) 1 (al n)) 0 (.own 0 g_data (s5.1.map (aq 54 af)).length),fun _=>none,upd (fun _=>none) 0 (some ⟨g_data,55,(s5.1.map (aq 54 af)),true⟩)⟩) () H5 Gh.d (fun m5 s5 g5 hr5=>?_)
    obtain ⟨fb5,H,hg5⟩ := ft hr5
    refine ab (av 3 tk rfl ?_)
    refine aN rfl H (fun H=>?_) (fun H=>?_)
    ·refine ao (ap (ab (aa (aj 7 tk rfl ?_))))
     obtain ⟨x43,h43,H⟩ := aE H
     have s43 := iZ g_data s5.1 s5.2.1 (IntKind.i64.wrap (s5.2.1 + s2.2)) s5.2.2 cmp hg_cmp hp_cmp _ h43
     obtain ⟨_,q43_0,H⟩ := aE H
     have l43_0 := (dE q43_0).1
     have z43_0 : (List.map (aq 54 af) s5.1).length = (List.map (aq 54 af) x43).length := by simpa using (l43_0).symm
     refine ew (g := 124) rfl rfl rfl Tryz.call124 [] [(0,0)] rfl rfl rfl rfl (fu.of2 (iB.cons (PLe2.own rfl) (iB.cons (PLe2.of_eq rfl) (iB.cons (PLe2.of_eq rfl) (iB.cons (PLe2.of_eq rfl) (iB.cons (PLe2.of_eq rfl) iB.nil)))))) (by rw [dS,dr,dQ]; rfl) s43 ?_
     rintro u43 H43h ⟨rfl,rfl⟩
     refine ⟨_,rfl,?_⟩
     refine dM (st' := ⟨_,_,fun _=>none,upd (fun _=>none) 0 (some ⟨g_data,55,(x43.map (aq 54 af)),true⟩)⟩) (Gh.le (dj _ _) aV (bI aU)) ?_
     refine ac (av 2 tk rfl (bm 5 tk rfl (aw ?_)))
     obtain rfl := aI H
     refine eg (x43,s5.2.2,(IntKind.i64.wrap (s5.2.2 + (IntKind.i64.wrap ((2 : Int) * s2.2))))) () hg5 (Gh.le (bP (PLe.of2 (PLe2.of_eq (congrArg (PV.own 0 g_data) z43_0))) (ay (ay (ay (ay (ay br)))))) aV (bI aU))
    refine aD rfl ?_
    obtain rfl := aI H
    refine bp (s5.1,s5.2.1,s5.2.2) () hg5 Gh.d
   have H := dC hn5 Hp5
   refine ab (av 4 tk rfl (av 3 tk rfl ?_))
   refine aN rfl H (fun H=>?_) (fun H=>?_)
   ·refine aa (aj 5 tk rfl ?_)
    obtain ⟨x60,h60,H⟩ := aE H
    have s60 := iZ g_data s5.1 s5.2.1 (IntKind.i64.wrap (s5.2.1 + s2.2)) n cmp hg_cmp hp_cmp _ h60
    obtain ⟨_,q60_0,H⟩ := aE H
    have l60_0 := (dE q60_0).1
    have z60_0 : (List.map (aq 54 af) s5.1).length = (List.map (aq 54 af) x60).length := by simpa using (l60_0).symm
    refine ew (g := 124) rfl rfl rfl Tryz.call124 [] [(0,0)] rfl rfl rfl rfl (fu.of2 (iB.cons (PLe2.own rfl) (iB.cons (PLe2.of_eq rfl) (iB.cons (PLe2.of_eq rfl) (iB.cons (PLe2.of_eq rfl) (iB.cons (PLe2.of_eq rfl) iB.nil)))))) (by rw [dS,dr,dQ]; rfl) s60 ?_
    rintro u60 H60h ⟨rfl,rfl⟩
    refine ⟨_,rfl,?_⟩
    refine dM (st' := ⟨_,_,fun _=>none,upd (fun _=>none) 0 (some ⟨g_data,55,(x60.map (aq 54 af)),true⟩)⟩) (Gh.le (dj _ _) aV (bI aU)) ?_
    refine ac (bm 3 tk rfl (aw ?_))
    obtain rfl := aI H
    refine eg (x60,(IntKind.i64.wrap (s2.2 * (2 : Int)))) () hg2 (Gh.le (bP (PLe.of2 (PLe2.of_eq (congrArg (PV.own 0 g_data) z60_0))) (ay (ay (ay br)))) aV (bI aU))
   refine ao (bm 3 tk rfl (aw ?_))
   obtain rfl := aI H
   refine eg (s5.1,(IntKind.i64.wrap (s2.2 * (2 : Int)))) () hg2 Gh.d
  refine aD rfl ?_
  obtain rfl := aI H
  refine bp (s2.1,s2.2) () hg2 Gh.d
 have H := dC hn2 Hp2
 obtain rfl := aI H
 refine ce (st' := ⟨63,fun _=>.any,fun _=>none,upd (fun _=>none) 0 (some ⟨g_data,55,(s2.1.map (aq 54 af)),true⟩)⟩) (Gh.le br aV (bI aU)) ?_
 refine lH rfl (PLe.q rfl) ⟨rfl,rfl⟩
def gU (a : LVal) (op : List UInt8) (b : LVal) : Bool × Int :=
 bH (
  cond (!(op == ([61] : List UInt8)))
   (cond (!(op == ([60] : List UInt8)))
    ((!(op == ([60,61] : List UInt8))))
    (false))
   (false)) fun (t1 : Bool) =>
 cond t1
  ((false,3))
  (bH (
   cond (a.kind == (0 : Int))
    (true)
    ((b.kind == (0 : Int)))) fun (t2 : Bool) =>
  cond t2
   ((true,0))
   (bH (js a b) fun x29 =>
   cond (x29 == (0 : Int))
    (cond (!(op == ([60] : List UInt8)))
     ((true,0))
     (cond (decide (x29 < (0 : Int)))
      (((!(op == ([61] : List UInt8))),0))
      ((false,0))))
    (cond (decide (x29 < (0 : Int)))
     (((!(op == ([61] : List UInt8))),0))
     ((false,0)))))
theorem ry (a : LVal) (op : List UInt8) (b : LVal) :
  aT Tryz.prog 69 [(.agg (af a)),(.str op),(.agg (af b))] (.tup [(aL ((gU a op b).1)),(al ((gU a op b).2))]) := by
 obtain ⟨r,H⟩ : ∃ r,gU a op b = r := ⟨_,rfl⟩
 rw [H]
 unfold gU at H
 refine PH.ax Tryz.func69 Tryz.ntmps69 ?_
 refine ab (aa (au ?_))
 refine au ?_
 refine aj 2 tk rfl (ac (ab (ab ?_)))
 refine gw (γ := Unit) (fun t1 g1=>⟨44,upd (upd (upd (upd (fun _=>.any) 18 (aL t1)) 5 (.ptr (af b))) 3 (.ptr (af a))) 1 (.str op),fun _=>none,fun _=>none⟩) H (fun _ H=>?_) (fun t1 g1 H=>?_)
 ·refine aa (aj 3 tk rfl ?_)
  refine bF rfl rfl rfl H (fun H=>?_) (fun H=>?_)
  ·refine aj 4 tk rfl ?_
   refine bF rfl rfl rfl H (fun H=>?_) (fun H=>?_)
   ·refine aj 3 tk rfl (ac ?_)
    refine bp _ () H Gh.d
   refine aj 3 tk rfl (ac ?_)
   refine bp _ () H Gh.d
  refine aj 7 tk rfl (ac ?_)
  refine bp _ () H Gh.d
 refine aN rfl H (fun H=>?_) (fun H=>?_)
 ·refine av 2 tk rfl ?_
  exact el tk H rfl
 refine ao (ab (ab ?_))
 refine gw (γ := Unit) (fun t2 g2=>⟨44,upd (upd (upd (upd (fun _=>.any) 26 (aL t2)) 5 (.ptr (af b))) 3 (.ptr (af a))) 1 (.str op),fun _=>none,fun _=>none⟩) H (fun _ H=>?_) (fun t2 g2 H=>?_)
 ·refine aa (aj 4 tk rfl ?_)
  refine bF rfl rfl rfl H (fun H=>?_) (fun H=>?_)
  ·refine aj 4 tk rfl (ac ?_)
   refine bp _ () H Gh.d
  refine aj 4 tk rfl (ac ?_)
  refine bp _ () H Gh.d
 refine aN rfl H (fun H=>?_) (fun H=>?_)
 ·refine av 2 tk rfl ?_
  exact el tk H rfl
 refine ao (ab (aa (aj 2 tk rfl ?_)))
 obtain ⟨x29,h29,H⟩ := db H
 have s29 := oG a b
 rw [h29] at s29
 refine ae Tryz.call44 (fu.r) s29 ?_
 refine ak tk rfl (ac (ab (aa (aj 3 tk rfl ?_))))
 refine bF rfl rfl rfl H (fun H=>?_) (fun H=>?_)
 ·refine aj 4 tk rfl ?_
  refine bF rfl rfl rfl H (fun H=>?_) (fun H=>?_)
  ·refine aj 9 tk rfl (ac ?_)
   exact el tk H rfl
  refine aj 3 tk rfl ?_
  refine bF rfl rfl rfl H (fun H=>?_) (fun H=>?_)
  ·refine aj 6 tk rfl (ac ?_)
   exact el tk H rfl
  refine aj 6 tk rfl (ac ?_)
  exact el tk H rfl
 refine aj 7 tk rfl ?_
 refine bF rfl rfl rfl H (fun H=>?_) (fun H=>?_)
 ·refine aj 6 tk rfl (ac ?_)
  exact el tk H rfl
 refine aj 6 tk rfl (ac ?_)
 exact el tk H rfl
def ez (c : LChecker) (q : LQuery) (inA : List LCol) : Option ((List LCol) × Int) :=
 ah (aM (σ := List LCol) (ρ := ((List LCol) × Int)) (fun (j1 : Nat) (x1 : LExpr) (s1 : List LCol) =>
  bH (cE inA c.vars x1) fun x31 =>
  ah (aO q.names (j1 : Int)) fun (x39 : List UInt8) =>
  bH (cY x39) fun x41 =>
  cond (!x41)
   (some (.ret ([],3)))
   (cond (x31.2.2 != (0 : Int))
    (some (.ret ([],x31.2.2)))
    (cond (x31.1 == (0 : Int))
     (some (.ret ([],7)))
     (ah (aO q.names (j1 : Int)) fun (x54 : List UInt8) =>
     ah (dL 32 s1 ([(LCol.mk x54 x31.1 x31.2.1)] : List LCol)) fun (x60 : List LCol) =>
     some (.next x60))))) 0 q.exprs []) fun fl1=>fl1.thenR fun (s1 : List LCol) =>
 ah (aM (σ := List LCol) (ρ := ((List LCol) × Int)) (fun (_ : Nat) (x2 : LAggregateCall) (s2 : List LCol) =>
  ah (fS c inA x2) fun x73 =>
  cond (x73.2 != (0 : Int))
   (some (.ret ([],x73.2)))
   (ah (dL 32 s2 ([(LCol.mk x2.name x73.1 (!(x2.function == ([99,111,117,110,116] : List UInt8))))] : List LCol)) fun (x88 : List LCol) =>
   some (.next x88))) 0 q.aggregates s1) fun fl2=>fl2.thenR fun (s2 : List LCol) =>
 some (s2,0)
theorem mq (c : LChecker) (q : LQuery) (inA : List LCol) (r : (List LCol) × Int) (H : ez c q inA = some r) :
  aT Tryz.prog 99 [(.agg (dX c)),(.agg (aK q)),(.list 49 (inA.map aW))] (.tup [(.list 49 (r.1.map aW)),(al r.2)]) := by
 unfold ez at H
 refine PH.ax Tryz.func99 Tryz.ntmps99 ?_
 refine ab (aa (au ?_))
 refine au ?_
 refine aj 2 tk rfl (ac (av 1 tk rfl (ab (ab (aa (aj 2 tk rfl (aG tk (zl _) ?_)))))))
 refine ak tk rfl (ac (hX tk 8 60 (e := 49) rfl rfl ?_))
 refine fC (γ := OwnRef) tk 21 20 19 (fun s1 g1=>upd (upd (upd (upd (fun _=>.any) 8 (.own 60 g1 (s1.map aW).length)) 4 (.ptr (aK q))) 3 (.ptr (dX c))) 2 (.list 49 (inA.map aW))) nB (fun s1 g1=>upd (fun _=>none) 60 (some ⟨g1,49,(s1.map aW),true⟩)) (⟨none,0⟩) H (fun fl1 Hp1 j1 s1 g1 hz1 hl1 x1 fb1 hx1 H hg1=>?_) (fun s1 g1 H=>?_)
 ·refine ab (ap (ab (aa (ak tk rfl (bd tk (zn j1) (bD dq hx1) ?_)))))
  refine ak tk rfl ?_
  refine aY tk fun b10=>?_
  refine ak tk rfl (ag tk ?_)
  refine ac (ab (aa (aj 3 tk rfl (ai tk ?_))))
  obtain ⟨x31,h31,H⟩ := db H
  have s31 := mG inA c.vars x1
  rw [h31] at s31
  refine ae Tryz.call100 (fu.r) s31 ?_
  refine aj 7 tk rfl (ac (ab (ap (ab (aa (aj 3 tk rfl ?_))))))
  obtain ⟨x39,k39,H⟩ := bL H
  refine bd tk k39.1 (aX (fun _=>rfl) k39.2) ?_
  refine ak tk rfl ?_
  obtain ⟨x41,h41,H⟩ := db H
  have s41 := kq x39
  rw [h41] at s41
  refine ae Tryz.call114 (fu.r) s41 ?_
  refine aj 2 tk rfl (ac ?_)
  refine aN rfl H (fun H=>?_) (fun H=>?_)
  ·refine av 2 tk rfl ?_
   obtain rfl := aI H
   have e1 : fl1 = .ret _ := hg1
   subst e1
   obtain rfl := bi Hp1
   refine bw tk rfl (ps := [(.val (.slice none 0 0)),(al 3)]) ⟨_,_,rfl,rfl,_,_,rfl,rfl,rfl⟩ (PLe.of2 (PLe2.tup (iB.cons (PLe2.nil tk rfl) (iB.cons (PLe2.of_eq rfl) iB.nil))))
  refine av 3 tk rfl ?_
  refine aN rfl H (fun H=>?_) (fun H=>?_)
  ·refine av 3 tk rfl ?_
   obtain rfl := aI H
   have e1 : fl1 = .ret _ := hg1
   subst e1
   obtain rfl := bi Hp1
   refine bw tk rfl (ps := [(.val (.slice none 0 0)),(al x31.2.2)]) ⟨_,_,rfl,rfl,_,_,rfl,rfl,rfl⟩ (PLe.of2 (PLe2.tup (iB.cons (PLe2.nil tk rfl) (iB.cons (PLe2.of_eq rfl) iB.nil))))
  refine av 3 tk rfl ?_
  refine aN rfl H (fun H=>?_) (fun H=>?_)
  ·refine av 2 tk rfl ?_
   obtain rfl := aI H
   have e1 : fl1 = .ret _ := hg1
   subst e1
   obtain rfl := bi Hp1
   refine bw tk rfl (ps := [(.val (.slice none 0 0)),(al 7)]) ⟨_,_,rfl,rfl,_,_,rfl,rfl,rfl⟩ (PLe.of2 (PLe2.tup (iB.cons (PLe2.nil tk rfl) (iB.cons (PLe2.of_eq rfl) iB.nil))))
  refine ao (aw (aa (aj 4 tk rfl ?_)))
  obtain ⟨x54,k54,H⟩ := bL H
  refine bd tk k54.1 (aX (fun _=>rfl) k54.2) ?_
  refine aj 4 tk rfl (cz tk (rows' := List.map aW ([(LCol.mk x54 x31.1 x31.2.1)] : List LCol)) (je.refl _) ?_)
  obtain ⟨x60,h60,H⟩ := aE H
  have k60 := cV h60
  refine cy (rows2' := List.map aW ([(LCol.mk x54 x31.1 x31.2.1)] : List LCol)) (rows' := List.map aW x60) tk rfl rfl rfl rfl rfl rfl rfl rfl rfl rfl rfl rfl rfl (je.refl _) (eu k60.1) (er k60.2.1) (eB k60.2.2) fun g60=>?_
  refine ak tk rfl (ac (aw (bm 2 tk rfl ?_)))
  exact bG g60 H hl1 hg1
 refine ab (ab (aa (aj 2 tk rfl (aG tk (zl _) ?_))))
 refine ak tk rfl (ac ?_)
 refine fC (γ := OwnRef) tk 65 64 63 (fun s2 g2=>upd (upd (upd (fun _=>.any) 8 (.own 60 g2 (s2.map aW).length)) 3 (.ptr (dX c))) 2 (.list 49 (inA.map aW))) nB (fun s2 g2=>upd (fun _=>none) 60 (some ⟨g2,49,(s2.map aW),true⟩)) g1 H (fun fl2 Hp2 j2 s2 g2 hz2 hl2 x2 fb2 hx2 H hg2=>?_) (fun s2 g2 H=>?_)
 ·refine ab (ap (ab (aa ?_)))
  refine bd tk (zn j2) (bD (fun _=>rfl) hx2) ?_
  refine ak tk rfl ?_
  refine aY tk fun b15=>?_
  refine ag tk ?_
  refine ac (ab (aa (aj 2 tk rfl (ai tk ?_))))
  obtain ⟨x73,h73,H⟩ := aE H
  have s73 := qy c inA x2 _ h73
  refine ae Tryz.call115 (fu.r) s73 ?_
  refine aj 5 tk rfl (ac (ab (av 2 tk rfl ?_)))
  refine aN rfl H (fun H=>?_) (fun H=>?_)
  ·refine av 3 tk rfl ?_
   obtain rfl := aI H
   have e2 : fl2 = .ret _ := hg2
   subst e2
   obtain rfl := bi Hp2
   refine bw tk rfl (ps := [(.val (.slice none 0 0)),(al x73.2)]) ⟨_,_,rfl,rfl,_,_,rfl,rfl,rfl⟩ (PLe.of2 (PLe2.tup (iB.cons (PLe2.nil tk rfl) (iB.cons (PLe2.of_eq rfl) iB.nil))))
  refine ao (aa (aj 2 tk rfl (ai tk ?_)))
  refine aj 2 tk rfl (ai tk ?_)
  refine aj 2 tk rfl ?_
  refine cz tk (rows' := List.map aW ([(LCol.mk x2.name x73.1 (!(x2.function == ([99,111,117,110,116] : List UInt8))))] : List LCol)) (je.refl _) ?_
  obtain ⟨x88,h88,H⟩ := aE H
  have k88 := cV h88
  refine cy (rows2' := List.map aW ([(LCol.mk x2.name x73.1 (!(x2.function == ([99,111,117,110,116] : List UInt8))))] : List LCol)) (rows' := List.map aW x88) tk rfl rfl rfl rfl rfl rfl rfl rfl rfl rfl rfl rfl rfl (je.refl _) (eu k88.1) (er k88.2.1) (eB k88.2.2) fun g88=>?_
  refine ak tk rfl (ac (aw (bm 2 tk rfl ?_)))
  exact bG g88 H hl2 hg2
 refine av 3 tk rfl (eo 6 rfl rfl rfl ?_)
 exact bu tk H rfl
def fp (sA : LSchema) (inst : List LRelation) : Option (Int) :=
 cond ((inst.length : Int) != (sA.tables.length : Int))
  (some 3)
  (ah (aM (σ := Unit) (ρ := (Int)) (fun (j1 : Nat) (x1 : LRelation) (_ : Unit) =>
   ah (aO sA.tables (j1 : Int)) fun (x28 : LTable) =>
   cond (!(x1.table == x28.name))
    (some (.ret 3))
    (cond (decide ((x1.rows.length : Int) > (24 : Int)))
     (some (.ret 2))
     (ah (aM (σ := Unit) (ρ := (Int)) (fun (j3 : Nat) (x3 : Rq) (_ : Unit) =>
      ah (ef x28 x3) fun x49 =>
      cond (x49 != (0 : Int))
       (some (.ret x49))
       (cond ((j3 : Int) == (0 : Int))
        (some (.next ()))
        (ah (aO x1.rows (IntKind.i64.wrap ((j3 : Int) - (1 : Int)))) fun (x60 : Rq) =>
        ah (dp x28 x60) fun x62 =>
        ah (dp x28 x3) fun x65 =>
        ah (dN x62 x65) fun x66 =>
        cond (x66 == (0 : Int))
         (some (.ret 9))
         (cond (decide (x66 > (0 : Int)))
          (some (.ret 6))
          (some (.next ())))))) 0 x1.rows ()) fun fl3=>fl3.thenF fun (_ : Unit) =>
     some (.next ())))) 0 inst ()) fun fl1=>fl1.thenR fun (_ : Unit) =>
  some 0)
theorem mf (sA : LSchema) (inst : List LRelation) (r : Int) (H : fp sA inst = some r) :
  aT Tryz.prog 12 [(.agg (cp sA)),(.list 57 (inst.map dF))] (al r) := by
 unfold fp at H
 refine PH.ax Tryz.func12 Tryz.ntmps12 ?_
 refine ab (aa (au ?_))
 refine ak tk rfl (ac (ab (ab (aa (ak tk rfl (aG tk (zl _) ?_))))))
 refine aj 2 tk rfl (aG tk (zl _) ?_)
 refine ak tk rfl (ac ?_)
 refine aN rfl H (fun H=>?_) (fun H=>?_)
 ·refine av 1 tk rfl ?_
  exact bu tk H rfl
 refine ao (ab (ab (aa (ak tk rfl (aG tk (zl _) ?_)))))
 refine ak tk rfl (ac ?_)
 refine fC tk 20 19 18 (fun s1 g1=>upd (fun _=>.any) 2 (.ptr (cp sA))) nB nO () H (fun fl1 Hp1 j1 s1 g1 hz1 hl1 x1 fb1 hx1 H hg1=>?_) (fun s1 g1 H=>?_)
 ·refine ab (ap (ab (aa (ak tk rfl ?_))))
  refine bd tk (zn j1) (bD (fun _=>rfl) hx1) ?_
  refine ak tk rfl ?_
  refine aY tk fun b6=>?_
  refine ak tk rfl (ag tk ?_)
  refine ac (ab (aa (aj 3 tk rfl ?_)))
  obtain ⟨x28,k28,H⟩ := bL H
  refine bd tk k28.1 (aX (fun _=>rfl) k28.2) ?_
  refine ak tk rfl ?_
  refine aY tk fun b7=>?_
  refine ag tk ?_
  refine ac (ab (ab (aa (ak tk rfl (ai tk ?_)))))
  refine ak tk rfl (ai tk ?_)
  refine ak tk rfl (ac ?_)
  refine aN rfl H (fun H=>?_) (fun H=>?_)
  ·refine av 1 tk rfl ?_
   obtain rfl := aI H
   have e1 : fl1 = .ret _ := hg1
   subst e1
   obtain rfl := bi Hp1
   refine bw tk rfl (ps := [(al 3)]) ⟨_,_,rfl,rfl,rfl⟩ (PLe.q rfl)
  refine ao (ab (ab (aa (ak tk rfl (ai tk ?_)))))
  refine aG tk (zl _) ?_
  refine ak tk rfl (ac ?_)
  refine aN rfl H (fun H=>?_) (fun H=>?_)
  ·refine av 1 tk rfl ?_
   obtain rfl := aI H
   have e1 : fl1 = .ret _ := hg1
   subst e1
   obtain rfl := bi Hp1
   refine bw tk rfl (ps := [(al 2)]) ⟨_,_,rfl,rfl,rfl⟩ (PLe.q rfl)
  refine ao (ab (aa (ak tk rfl (ai tk ?_))))
  refine aG tk (zl _) ?_
  refine ak tk rfl (ac ?_)
  obtain ⟨fl3,H3,Hp3⟩ := aE H
  refine eV tk 40 rfl rfl (fun hz3 _=>?_)
  rw [zl] at hz3
  refine fA (τ := Unit) (γ := Unit) (fun s3 g3=>⟨75,upd (upd (upd (upd (fun _=>.any) 20 (al (j1 : Int))) 19 (al (inst.length : Int))) 18 (.list 57 (inst.map dF))) 2 (.ptr (cp sA)),fun _=>none,fun _=>none⟩) (fun t=>fl3 = .next t) ?_ (fun s3 g3 hn3=>?_)
  ·refine ap ?_
   refine jz (fun j3 s3 g3=>⟨75,upd (upd (upd (upd (upd (upd (upd (upd (upd (fun _=>.any) 42 (al (j3 : Int))) 41 (al (x1.rows.length : Int))) 40 (.list 55 (x1.rows.map (aq 54 af)))) 20 (al (j1 : Int))) 19 (al (inst.length : Int))) 18 (.list 57 (inst.map dF))) 7 (.box 7 b7 0)) 6 (.box 6 b6 0)) 2 (.ptr (cp sA)),upd (upd (fun _=>none) 7 (some ⟨b7,(cL x28)⟩)) 6 (some ⟨b6,(dF x1)⟩),fun _=>none⟩) () H3 Gh.d (fun j3 s3 g3 hj3 hr3=>?_)
   refine av 1 tk rfl (ab ?_)
   refine aQ rfl (fun h=>?_) (fun h=>?_)
   ·have hl3 := pI h
    obtain ⟨x3,fb3,hx3,H,hg3⟩ := rMc hl3 hr3
    refine ao (ab (ap (ab (aa (ak tk rfl ?_)))))
    refine bd tk (zn j3) (bD (fun _=>rfl) hx3) ?_
    refine aj 3 tk rfl (ac (ab (ab (aa (ai tk ?_)))))
    refine ak tk rfl ?_
    obtain ⟨x49,h49,H⟩ := aE H
    have s49 := pg x28 x3 _ h49
    refine ae Tryz.call26 (fu.r) s49 ?_
    refine ak tk rfl (ac (av 2 tk rfl ?_))
    refine aN rfl H (fun H=>?_) (fun H=>?_)
    ·refine av 2 tk rfl ?_
     obtain rfl := aI H
     have e3 : fl3 = .ret _ := hg3
     subst e3
     have q3 := ra Hp3
     subst q3
     have e1 : fl1 = .ret _ := hg1
     subst e1
     obtain rfl := bi Hp1
     refine bw tk rfl (ps := [(al x49)]) ⟨_,_,rfl,rfl,rfl⟩ (PLe.q rfl)
    refine ao (ab (av 2 tk rfl ?_))
    refine aN rfl H (fun H=>?_) (fun H=>?_)
    ·refine aD rfl (bm 2 tk rfl ?_)
     exact bG () H hl3 hg3
    refine ao (ab (aJ tk mok ⟨true,false,[61]⟩ [0,1,2,3,4,5,6,8,9,7,10,11,12] rfl (by decide +kernel) rfl (aH ?_)))
    refine bo rfl (aH ?_)
    refine bc 2 rfl ?_
    obtain ⟨x60,k60,H⟩ := bL H
    refine bT k60.1 (aX (fun _=>rfl) k60.2) ?_
    refine bo rfl (aH ?_)
    refine bo rfl ?_
    obtain ⟨x62,h62,H⟩ := aE H
    have s62 := pG x28 x60 _ h62
    refine am Tryz.call28 (fu.r) s62 ?_
    obtain ⟨x65,h65,H⟩ := aE H
    have s65 := pG x28 x3 _ h65
    refine am Tryz.call28 (fu.r) s65 ?_
    obtain ⟨x66,h66,H⟩ := aE H
    have s66 := qx x62 x65 _ h66
    refine am Tryz.call27 (fu.r) s66 ?_
    refine bo rfl (aP (ap (av 3 tk rfl ?_)))
    refine aN rfl H (fun H=>?_) (fun H=>?_)
    ·refine av 1 tk rfl ?_
     obtain rfl := aI H
     have e3 : fl3 = .ret _ := hg3
     subst e3
     have q3 := ra Hp3
     subst q3
     have e1 : fl1 = .ret _ := hg1
     subst e1
     obtain rfl := bi Hp1
     refine bw tk rfl (ps := [(al 9)]) ⟨_,_,rfl,rfl,rfl⟩ (PLe.q rfl)
    refine av 3 tk rfl ?_
    refine aN rfl H (fun H=>?_) (fun H=>?_)
    ·refine av 1 tk rfl ?_
     obtain rfl := aI H
     have e3 : fl3 = .ret _ := hg3
     subst e3
     have q3 := ra Hp3
     subst q3
     have e1 : fl1 = .ret _ := hg1
     subst e1
     obtain rfl := bi Hp1
     refine bw tk rfl (ps := [(al 6)]) ⟨_,_,rfl,rfl,rfl⟩ (PLe.q rfl)
    refine ao (aw (aw (bm 2 tk rfl ?_)))
    exact bG () H hl3 hg3
   have hn3 := rMd (pw h) hr3
   refine aD rfl ?_
   refine bp s3 g3 hn3 Gh.d
  have H := thenF_next hn3 Hp3
  refine aw (bm 2 tk rfl ?_)
  exact bG () H hl1 hg1
 refine av 1 tk rfl ?_
 exact bu tk H rfl
def iz (x : Rq) (c0 : LRun) (c1 : List LCol) (c2 : LQuery) : Option (Bool) :=
 ah (aO c2.exprs 0) fun (x12 : LExpr) =>
 bH (bn c0 c1 x) fun x9 =>
 bH (bY x9 x12) fun x14 =>
 bH (kS x14) fun x15 =>
 some (!x15)
theorem qP (x : Rq) (c0 : LRun) (c1 : List LCol) (c2 : LQuery) (r : Bool) (H : iz x c0 c1 c2 = some r) :
  aT Tryz.prog 57 [(.list 54 (x.map af)),(.ptr (dJ c0)),(.ptr [(.list 49 (c1.map aW))]),(.ptr (aK c2))] (aL r) := by
 unfold iz at H
 refine PH.ax Tryz.func57 Tryz.ntmps57 ?_
 refine av 1 tk rfl (ab (aJ tk mok ⟨false,false,[]⟩ [0,1,2,4,5,6,7,3,8,9,10,11] rfl (by decide +kernel) rfl (bc 5 rfl ?_)))
 obtain ⟨x12,k12,H⟩ := bL H
 refine bT k12.1 (aX dq k12.2) ?_
 refine bo rfl ?_
 obtain ⟨x9,h9,H⟩ := db H
 have s9 := kp c0 c1 x
 rw [h9] at s9
 refine am Tryz.call60 (fu.r) s9 ?_
 obtain ⟨x14,h14,H⟩ := db H
 have s14 := mH x9 x12
 rw [h14] at s14
 refine am Tryz.call59 (fu.r) s14 ?_
 obtain ⟨x15,h15,H⟩ := db H
 have s15 := da x14
 rw [h15] at s15
 refine am Tryz.call58 (fu.r) s15 ?_
 refine bc 2 rfl (aP ?_)
 exact bu tk H rfl
def dz (rA : LRun) (cols : List LCol) (x : Rq) (l : List LExpr) : Option (Rq) :=
 ah (aM (σ := Rq) (ρ := Empty) (fun (_ : Nat) (x1 : LExpr) (s1 : Rq) =>
  bH (bn rA cols x) fun x22 =>
  bH (bY x22 x1) fun x24 =>
  ah (dL 32 s1 ([x24] : Rq)) fun (x26 : Rq) =>
  some (.next x26)) 0 l []) fun fl1=>fl1.thenP fun (s1 : Rq) =>
 some s1
theorem jI (rA : LRun) (cols : List LCol) (x : Rq) (l : List LExpr) (r : Rq) (H : dz rA cols x l = some r) :
  aT Tryz.prog 61 [(.agg (dJ rA)),(.list 49 (cols.map aW)),(.list 54 (x.map af)),(.list 66 (l.map dB))] (.list 54 (r.map af)) := by
 unfold dz at H
 refine PH.ax Tryz.func61 Tryz.ntmps61 ?_
 refine ab (aa (au ?_))
 refine ak tk rfl (ac (av 1 tk rfl (ab (ab (aa (ak tk rfl (aG tk (zl _) ?_)))))))
 refine ak tk rfl (ac (hX tk 9 26 (e := 54) rfl rfl ?_))
 refine iv (γ := OwnRef) tk 14 13 12 (fun s1 g1=>upd (upd (upd (upd (fun _=>.any) 9 (.own 26 g1 (s1.map af).length)) 4 (.ptr (dJ rA))) 2 (.list 54 (x.map af))) 1 (.list 49 (cols.map aW))) nB (fun s1 g1=>upd (fun _=>none) 26 (some ⟨g1,54,(s1.map af),true⟩)) (⟨none,0⟩) H (fun fl1 Hp1 j1 s1 g1 hz1 hl1 x1 fb1 hx1 H hg1=>?_) (fun s1 g1 H=>?_)
 ·refine ab (ap (ab (aa (bd tk (zn j1) (bD dq hx1) ?_))))
  refine ak tk rfl ?_
  refine aY tk fun b11=>?_
  refine ag tk ?_
  refine ac (aJ tk mok ⟨true,false,[19]⟩ [0,1,2,3,5,4,6,7,8,9] rfl (by decide +kernel) rfl (bc 4 rfl (aH ?_)))
  obtain ⟨x22,h22,H⟩ := db H
  have s22 := kp rA cols x
  rw [h22] at s22
  refine am Tryz.call60 (fu.r) s22 ?_
  obtain ⟨x24,h24,H⟩ := db H
  have s24 := mH x22 x1
  rw [h24] at s24
  refine am Tryz.call59 (fu.r) s24 ?_
  refine bo rfl ?_
  obtain ⟨x26,h26,H⟩ := aE H
  have k26 := cV h26
  refine kR (rows2' := List.map af ([x24] : Rq)) (rows' := List.map af x26) tk rfl rfl rfl rfl rfl rfl rfl rfl rfl rfl rfl rfl rfl rfl (je.refl _) (eu k26.1) (er k26.2.1) (eB k26.2.2) fun g26=>?_
  refine bo rfl (aP (aw (bm 2 tk rfl ?_)))
  exact bG g26 H hl1 hg1
 refine av 2 tk rfl (eo 8 rfl rfl rfl ?_)
 exact bu tk H rfl
def jx (rA : LRun) (a : LAggregateCall) (cols : List LCol) (l : Rz) : Option (LVal) :=
 cond ((a.args.length : Int) == (0 : Int))
  (bH (fN (l.length : Int)) fun x19 =>
  some x19)
  (ah (aM (σ := Rq) (ρ := Empty) (fun (_ : Nat) (x1 : Rq) (s1 : Rq) =>
   ah (aO a.args 0) fun (x32 : LExpr) =>
   bH (bn rA cols x1) fun x29 =>
   bH (bY x29 x32) fun x34 =>
   cond (x34.kind != (0 : Int))
    (ah (dL 32 s1 ([x34] : Rq)) fun (x41 : Rq) =>
    some (.next x41))
    (some (.next s1))) 0 l []) fun fl1=>fl1.thenP fun (s1 : Rq) =>
  ah (fF a.function s1) fun x46 =>
  some x46)
theorem su (rA : LRun) (a : LAggregateCall) (cols : List LCol) (l : Rz) (r : LVal) (H : jx rA a cols l = some r) :
  aT Tryz.prog 86 [(.agg (dJ rA)),(.agg (jE a)),(.list 49 (cols.map aW)),(.list 55 (l.map (aq 54 af)))] (.agg (af r)) := by
 unfold jx at H
 refine PH.ax Tryz.func86 Tryz.ntmps86 ?_
 refine ab (aa (au ?_))
 refine au ?_
 refine aY tk fun b8=>?_
 refine ac (ab (ab (aa (aj 2 tk rfl (aG tk (zl _) ?_)))))
 refine ak tk rfl (ac ?_)
 refine aN rfl H (fun H=>?_) (fun H=>?_)
 ·refine ab (aa (ak tk rfl (aG tk (zl _) ?_)))
  obtain ⟨x19,h19,H⟩ := db H
  have s19 := pN (l.length : Int)
  rw [h19] at s19
  refine ae Tryz.call108 (fu.r) s19 ?_
  refine ag tk ?_
  refine ac ?_
  exact sF tk H rfl rfl rfl rfl rfl
 refine ao (av 1 tk rfl (ab (ab (aa (ak tk rfl (aG tk (zl _) ?_))))))
 refine ak tk rfl (ac (hX tk 9 41 (e := 54) rfl rfl ?_))
 refine iv (γ := OwnRef) tk 22 21 20 (fun s1 g1=>upd (upd (upd (upd (upd (fun _=>.any) 9 (.own 41 g1 (s1.map af).length)) 8 (.box 8 b8 0)) 5 (.ptr (jE a))) 4 (.ptr (dJ rA))) 2 (.list 49 (cols.map aW))) (fun s1 g1=>upd (fun _=>none) 8 (some ⟨b8,[(al 0),(al 0),(.str [])]⟩)) (fun s1 g1=>upd (fun _=>none) 41 (some ⟨g1,54,(s1.map af),true⟩)) (⟨none,0⟩) H (fun fl1 Hp1 j1 s1 g1 hz1 hl1 x1 fb1 hx1 H hg1=>?_) (fun s1 g1 H=>?_)
 ·refine ab (ap (ab (aa ?_)))
  refine bd tk (zn j1) (bD (fun _=>rfl) hx1) ?_
  refine aj 2 tk rfl (ac (ab (aJ tk mok ⟨false,false,[]⟩ [0,1,2,4,5,6,7,3,8,9,10] rfl (by decide +kernel) rfl (bc 5 rfl ?_))))
  obtain ⟨x32,k32,H⟩ := bL H
  refine bT k32.1 (aX dq k32.2) ?_
  refine bo rfl ?_
  obtain ⟨x29,h29,H⟩ := db H
  have s29 := kp rA cols x1
  rw [h29] at s29
  refine am Tryz.call60 (fu.r) s29 ?_
  obtain ⟨x34,h34,H⟩ := db H
  have s34 := mH x29 x32
  rw [h34] at s34
  refine am Tryz.call59 (fu.r) s34 ?_
  refine bg fun b12=>?_
  refine bQ rfl rfl rfl rfl rfl rfl rfl rfl rfl rfl rfl rfl (aP (ab (aa (ak tk rfl (ai tk ?_)))))
  refine ak tk rfl (ac ?_)
  refine aN rfl H (fun H=>?_) (fun H=>?_)
  ·refine aa (ak tk rfl (ai tk ?_))
   refine cz tk (rows' := List.map af ([x34] : Rq)) (je.refl _) ?_
   obtain ⟨x41,h41,H⟩ := aE H
   have k41 := cV h41
   refine cy (rows2' := List.map af ([x34] : Rq)) (rows' := List.map af x41) tk rfl rfl rfl rfl rfl rfl rfl rfl rfl rfl rfl rfl rfl (je.refl _) (eu k41.1) (er k41.2.1) (eB k41.2.2) fun g41=>?_
   refine ak tk rfl (ac (aw (bm 2 tk rfl ?_)))
   exact bG g41 H hl1 hg1
  refine ao (aw (bm 2 tk rfl ?_))
  exact bG g1 H hl1 hg1
 refine ab (eo 9 rfl rfl rfl (aa (aj 3 tk rfl ?_)))
 obtain ⟨x46,h46,H⟩ := aE H
 have s46 := nU a.function s1 _ h46
 refine ae Tryz.call109 (fu.r) s46 ?_
 refine ag tk ?_
 refine ac ?_
 exact sF tk H rfl rfl rfl rfl rfl
def cM (x : Rz) (cmp : Rq → Rq → Option (Int)) : Option (Rz) :=
 ah (dZ x (x.length : Int) cmp) fun x8 =>
 ah (eW (x8.length = x.length) ()) fun (_ : Unit) =>
 some x8
theorem jU (g_x : OwnRef) {g_cmp : FuncId} {caps_cmp : List PV} (x : Rz) (cmp : Rq → Rq → Option (Int)) (hg_cmp : ∀ (vs : Array Value) (w : World),(callFunc g_cmp vs).run Tryz.prog w = .ok (.enter g_cmp vs) w) (hp_cmp : ∀ a0 a1 r,cmp a0 a1 = some r → aT Tryz.prog g_cmp ((.list 54 (a0.map af)) :: (.list 54 (a1.map af)) :: caps_cmp) (al r)) (r : Rz) (H : cM x cmp = some r) :
  PH Tryz.prog 87 [(.own 0 g_x (x.map (aq 54 af)).length),(.fn g_cmp caps_cmp)] ⟨fun _=>none,upd (fun _=>none) 0 (some ⟨g_x,55,(x.map (aq 54 af)),true⟩)⟩ (fun u H=>u = (.tup []) ∧ H = ⟨fun _=>none,upd (fun _=>none) 0 (some ⟨g_x,55,(r.map (aq 54 af)),true⟩)⟩) := by
 unfold cM at H
 refine PH.ax Tryz.func87 Tryz.ntmps87 ?_
 refine aa (aj 2 tk rfl (gO tk (zl _) ?_))
 refine ak tk rfl ?_
 obtain ⟨x8,h8,H⟩ := aE H
 have s8 := lY g_x x (x.length : Int) cmp hg_cmp hp_cmp _ h8
 obtain ⟨_,q8_0,H⟩ := aE H
 have l8_0 := (dE q8_0).1
 have z8_0 : (List.map (aq 54 af) x).length = (List.map (aq 54 af) x8).length := by simpa using (l8_0).symm
 refine ew (g := 110) rfl rfl rfl Tryz.call110 [] [(0,0)] rfl rfl rfl rfl (fu.of2 (iB.cons (PLe2.own rfl) (iB.cons (PLe2.of_eq rfl) (iB.cons (PLe2.of_eq rfl) iB.nil)))) (by rw [dS,dr,dQ]; rfl) s8 ?_
 rintro u8 H8h ⟨rfl,rfl⟩
 refine ⟨_,rfl,?_⟩
 refine dM (st' := ⟨_,_,fun _=>none,upd (fun _=>none) 0 (some ⟨g_x,55,(x8.map (aq 54 af)),true⟩)⟩) (Gh.le (dj _ _) aV (bI aU)) ?_
 refine ac ?_
 obtain rfl := aI H
 refine ce (st' := ⟨9,fun _=>.any,fun _=>none,upd (fun _=>none) 0 (some ⟨g_x,55,(x8.map (aq 54 af)),true⟩)⟩) (Gh.le br aV (bI aU)) ?_
 refine lH rfl (PLe.q rfl) ⟨rfl,rfl⟩
def eD (sA : LSchema) (c : LConstraint) : Option (Int) :=
 ah (fK sA c.table) fun x14 =>
 cond (!x14.2)
  (some 4)
  (ah (aO sA.tables x14.1) fun (x22 : LTable) =>
  bH (gU (LVal.mk 0 0 []) c.op (LVal.mk 0 0 [])) fun x30 =>
  bH (
   cond (decide (c.left < (0 : Int)))
    (true)
    (cond (decide (c.left ≥ (x22.columns.length : Int)))
     (true)
     (cond (x30.2 != (0 : Int))
      (true)
      (cond (decide (c.right < (-1)))
       (true)
       (cond (decide (c.right ≥ (x22.columns.length : Int)))
        (true)
        (cond (decide (c.right ≥ (0 : Int)))
         ((!(c.value.kind == (0 : Int) && (c.value.int == (0 : Int) && (c.value.text == ([] : List UInt8) && true)))))
         (false))))))) fun (t1 : Bool) =>
  cond t1
   (some 3)
   (cond (decide (c.right ≥ (0 : Int)))
    (ah (aO x22.columns c.left) fun (x76 : LCol) =>
    ah (aO x22.columns c.right) fun (x82 : LCol) =>
    cond (x76.kind != x82.kind)
     (some 7)
     (some 0))
    (ah (aO x22.columns c.left) fun (x92 : LCol) =>
    cond (c.value.kind != x92.kind)
     (some 7)
     (bH (dv c.value) fun x98 =>
     some x98))))
theorem mK (sA : LSchema) (c : LConstraint) (r : Int) (H : eD sA c = some r) :
  aT Tryz.prog 41 [(.agg (cp sA)),(.agg (ku c))] (al r) := by
 unfold eD at H
 refine PH.ax Tryz.func41 Tryz.ntmps41 ?_
 refine ab (aa (au ?_))
 refine au ?_
 refine ak tk rfl (ac (ab (aa (aj 3 tk rfl ?_))))
 obtain ⟨x14,h14,H⟩ := aE H
 have s14 := kI sA c.table _ h14
 refine ae Tryz.call66 (fu.r) s14 ?_
 refine aj 5 tk rfl (ac (ab (av 2 tk rfl ?_)))
 refine aN rfl H (fun H=>?_) (fun H=>?_)
 ·refine av 1 tk rfl ?_
  exact bu tk H rfl
 refine ao (ab (aa (aj 3 tk rfl ?_)))
 obtain ⟨x22,k22,H⟩ := bL H
 refine bd tk k22.1 (aX (fun _=>rfl) k22.2) ?_
 refine aj 3 tk rfl (ac (ab (aa (aj 4 tk rfl ?_))))
 obtain ⟨x30,h30,H⟩ := db H
 have s30 := ry (LVal.mk 0 0 []) c.op (LVal.mk 0 0 [])
 rw [h30] at s30
 refine ae Tryz.call69 (fu.r) s30 ?_
 refine aj 5 tk rfl (ac (ab (ab ?_)))
 refine gw (γ := Unit) (fun t1 g1=>⟨99,upd (upd (upd (fun _=>.any) 69 (aL t1)) 7 (.list 49 (x22.columns.map aW))) 3 (.ptr (ku c)),fun _=>none,fun _=>none⟩) H (fun _ H=>?_) (fun t1 g1 H=>?_)
 ·refine aa (aj 4 tk rfl ?_)
  refine bF rfl rfl rfl H (fun H=>?_) (fun H=>?_)
  ·refine aj 33 tk rfl (ac ?_)
   refine bp _ () H Gh.d
  refine aj 3 tk rfl (aG tk (zl _) ?_)
  refine aj 3 tk rfl ?_
  refine bF rfl rfl rfl H (fun H=>?_) (fun H=>?_)
  ·refine aj 26 tk rfl (ac ?_)
   refine bp _ () H Gh.d
  refine aj 4 tk rfl ?_
  refine bF rfl rfl rfl H (fun H=>?_) (fun H=>?_)
  ·refine aj 22 tk rfl (ac ?_)
   refine bp _ () H Gh.d
  refine aj 5 tk rfl ?_
  refine bF rfl rfl rfl H (fun H=>?_) (fun H=>?_)
  ·refine aj 17 tk rfl (ac ?_)
   refine bp _ () H Gh.d
  refine aj 3 tk rfl (aG tk (zl _) ?_)
  refine aj 3 tk rfl ?_
  refine bF rfl rfl rfl H (fun H=>?_) (fun H=>?_)
  ·refine aj 10 tk rfl (ac ?_)
   refine bp _ () H Gh.d
  refine aj 4 tk rfl ?_
  refine bF rfl rfl rfl H (fun H=>?_) (fun H=>?_)
  ·refine aj 6 tk rfl (ac ?_)
   refine bp _ () H Gh.d
  refine aj 6 tk rfl (ac ?_)
  refine bp _ () H Gh.d
 refine aN rfl H (fun H=>?_) (fun H=>?_)
 ·refine av 1 tk rfl ?_
  exact bu tk H rfl
 refine ao (ab (av 3 tk rfl ?_))
 refine aN rfl H (fun H=>?_) (fun H=>?_)
 ·refine ab (ab (aJ tk mok ⟨false,false,[]⟩ [0,1,2,3,4,5,6,7,8,9,10,11,12] rfl (by decide +kernel) rfl (bc 3 rfl ?_)))
  obtain ⟨x76,k76,H⟩ := bL H
  refine bT k76.1 (aX (fun _=>rfl) k76.2) ?_
  refine bc 5 rfl ?_
  obtain ⟨x82,k82,H⟩ := bL H
  refine bT k82.1 (aX (fun _=>rfl) k82.2) ?_
  refine bc 3 rfl (aP ?_)
  refine aN rfl H (fun H=>?_) (fun H=>?_)
  ·refine av 1 tk rfl ?_
   exact bu tk H rfl
  refine ao (av 1 tk rfl ?_)
  exact bu tk H rfl
 refine ao (ab (ab (aJ tk mok ⟨false,false,[]⟩ [0,1,2,3,4,5,6,7,8,9] rfl (by decide +kernel) rfl (bc 6 rfl ?_))))
 obtain ⟨x92,k92,H⟩ := bL H
 refine bT k92.1 (aX (fun _=>rfl) k92.2) ?_
 refine bc 3 rfl (aP ?_)
 refine aN rfl H (fun H=>?_) (fun H=>?_)
 ·refine av 1 tk rfl ?_
  exact bu tk H rfl
 refine ao (ab (aa (aj 2 tk rfl ?_)))
 obtain ⟨x98,h98,H⟩ := db H
 have s98 := nH c.value
 rw [h98] at s98
 refine ae Tryz.call43 (fu.r) s98 ?_
 refine ak tk rfl (ac ?_)
 exact bu tk H rfl
end
end Go.Proofs.YtlddibnpcmlobaaGreat
