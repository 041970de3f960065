/- joinReorderIsNotWorseUpto_holds, part 4: the layer, the plain functions and what they compute; conditions as in the statement. -/
import Derived.Test.YtpgalfinchajnaaGreatDoorRwc
set_option maxHeartbeats 4000000
namespace Go.Proofs.YtpgalfinchajnaaGreatDoor
noncomputable section
open Go Go.Ab
def sampleV : Bool := true
theorem sampleV_spec : aJ Tryz.prog 4 [] (.val (.bool sampleV)) := Go.Cx.sample_spec
end
end Go.Proofs.YtpgalfinchajnaaGreatDoor

namespace Go.Proofs.YtpgalfinchajnaaGreatDoor
noncomputable section
open Go Go.Ab
attribute [local irreducible] V Ao Do Gh Eff PH IntKind.wrap
set_option maxRecDepth 4000
def iJ (rec16 : LQuery → Int → Option (Int)) (q : LQuery) (most : Int) : Option (Int) :=
 af (aC (σ := Int) (ρ := Empty) (fun (_ : Nat) (x1 : LExpr) (s1 : Int) =>
  bL (gw x1 (IntKind.i64.wrap (s1 - (1 : Int)))) fun x23 =>
  some (.next x23)) 0 q.exprs most) fun fl1=>fl1.thenP fun (s1 : Int) =>
 af (aC (σ := Int) (ρ := Empty) (fun (_ : Nat) (x2 : LAggregateCall) (s2 : Int) =>
  af (aC (σ := Int) (ρ := Empty) (fun (_ : Nat) (x5 : LExpr) (s5 : Int) =>
   bL (gw x5 (IntKind.i64.wrap (s5 - (1 : Int)))) fun x42 =>
   some (.next x42)) 0 x2.args s2) fun fl5=>fl5.thenP fun (s5 : Int) =>
  some (.next s5)) 0 q.aggregates s1) fun fl2=>fl2.thenP fun (s2 : Int) =>
 af (aC (σ := Int) (ρ := (Int)) (fun (_ : Nat) (x6 : LQuery) (s6 : Int) =>
  cond (decide (s6 < (0 : Int)))
   (some (.ret (-1)))
   (af (rec16 x6 (IntKind.i64.wrap (s6 - (1 : Int)))) fun x57 =>
   some (.next x57))) 0 q.inputs s2) fun fl6=>fl6.thenR fun (s6 : Int) =>
 some s6
theorem qp (rec16 : LQuery → Int → Option (Int)) (hrec16 : ∀ a0 a1 r,rec16 a0 a1 = some r → aJ Tryz.prog 16 [(.agg (aw a0)),(ah a1)] (ah r)) (q : LQuery) (most : Int) (r : Int) (H : iJ rec16 q most = some r) :
  aJ Tryz.prog 16 [(.agg (aw q)),(ah most)] (ah r) := by
 unfold iJ at H
 refine PH.ap Tryz.func16 Tryz.ntmps16 ?_
 refine ab (aa (aB ?_))
 refine ag tk rfl (ac (ab (ab (aa (ae 2 tk rfl (ax tk (zl _) ?_))))))
 refine ag tk rfl (ac ?_)
 refine ek tk 16 15 14 (fun s1 g1=>upd (upd (fun _=>.any) 2 (.ptr (aw q))) 1 (ah s1)) nB nO () H (fun fl1 Hp1 j1 s1 g1 hz1 hl1 x1 fb1 hx1 H hg1=>?_) (fun s1 g1 H=>?_)
 ·refine ab (az (ab (aa (aN tk (zn j1) (bd bj hx1) ?_))))
  refine ag tk rfl ?_
  refine aM tk fun b6=>?_
  refine am tk ?_
  refine ac (aa (aq tk ?_))
  refine ae 2 tk rfl ?_
  obtain ⟨x23,h23,H⟩ := ef H
  have s23 := oX x1 (IntKind.i64.wrap (s1 - (1 : Int)))
  rw [h23] at s23
  refine ak Tryz.call41 (fG.r) s23 ?_
  refine ag tk rfl (ac (aP (bl 2 tk rfl ?_)))
  exact bi () H hl1 hg1
 refine ab (ab (aa (ae 2 tk rfl (ax tk (zl _) ?_))))
 refine ag tk rfl (ac ?_)
 refine ek tk 28 27 26 (fun s2 g2=>upd (upd (fun _=>.any) 2 (.ptr (aw q))) 1 (ah s2)) nB nO () H (fun fl2 Hp2 j2 s2 g2 hz2 hl2 x2 fb2 hx2 H hg2=>?_) (fun s2 g2 H=>?_)
 ·refine ab (az (ab (aa ?_)))
  refine aN tk (zn j2) (bd (fun _=>rfl) hx2) ?_
  refine ag tk rfl ?_
  refine aM tk fun b8=>?_
  refine am tk ?_
  refine ac (ab (aa (ag tk rfl (aq tk ?_))))
  refine ax tk (zl _) ?_
  refine ag tk rfl (ac ?_)
  refine ek tk 35 34 33 (fun s5 g5=>upd (upd (upd (upd (upd (fun _=>.any) 28 (ah (j2 : Int))) 27 (ah (q.aggregates.length : Int))) 26 (.list 118 (q.aggregates.map eT))) 2 (.ptr (aw q))) 1 (ah s5)) nB nO () H (fun fl5 Hp5 j5 s5 g5 hz5 hl5 x5 fb5 hx5 H hg5=>?_) (fun s5 g5 H=>?_)
  ·refine ab (az (ab (aa (aN tk (zn j5) (bd bj hx5) ?_))))
   refine ag tk rfl ?_
   refine aM tk fun b10=>?_
   refine am tk ?_
   refine ac (aa (aq tk ?_))
   refine ae 2 tk rfl ?_
   obtain ⟨x42,h42,H⟩ := ef H
   have s42 := oX x5 (IntKind.i64.wrap (s5 - (1 : Int)))
   rw [h42] at s42
   refine ak Tryz.call41 (fG.r) s42 ?_
   refine ag tk rfl (ac (aP (bl 2 tk rfl ?_)))
   exact bi () H hl5 hg5
  refine aP (bl 2 tk rfl ?_)
  exact bi () H hl2 hg2
 refine ab (ab (aa (ae 2 tk rfl (ax tk (zl _) ?_))))
 refine ag tk rfl (ac ?_)
 refine dY tk 48 47 46 (fun s6 g6=>upd (fun _=>.any) 1 (ah s6)) nB nO () H (fun fl6 Hp6 j6 s6 g6 hz6 hl6 x6 fb6 hx6 H hg6=>?_) (fun s6 g6 H=>?_)
 ·refine ab (az (ab (aa (aN tk (zn j6) (bd bw hx6) ?_))))
  refine ag tk rfl ?_
  refine aM tk fun b12=>?_
  refine am tk ?_
  refine ac (ab (al 2 tk rfl ?_))
  refine aK rfl H (fun H=>?_) (fun H=>?_)
  ·refine al 1 tk rfl ?_
   obtain rfl := aD H
   have e6 : fl6 = .ret _ := hg6
   subst e6
   obtain rfl := aU Hp6
   refine bc tk rfl (ps := [(ah (-1))]) ⟨_,_,rfl,rfl,rfl⟩ (PLe.q rfl)
  refine ao (aa (aq tk ?_))
  refine ae 2 tk rfl ?_
  obtain ⟨x57,h57,H⟩ := av H
  have s57 := hrec16 x6 (IntKind.i64.wrap (s6 - (1 : Int))) _ h57
  refine ak Tryz.call16 (fG.r) s57 ?_
  refine ag tk rfl (ac (aP (bl 2 tk rfl ?_)))
  exact bi () H hl6 hg6
 refine al 2 tk rfl ?_
 exact aV tk H rfl
def eM : Nat → LQuery → Int → Option (Int)
 | 0,_,_=>none
 | n + 1,v0,v1=>iJ (fun b0 b1=>eM n b0 b1) v0 v1
theorem qm  (n : Nat) : (∀ a0 a1 r,eM n a0 a1 = some r → aJ Tryz.prog 16 [(.agg (aw a0)),(ah a1)] (ah r)) := by
 induction n with
 | zero=>exact (by intros; rename_i h; exact absurd (show (none : Option _) = some _ from h) (by simp))
 | succ n ih =>
  exact (fun v0 v1 r h=>qp (fun b0 b1=>eM n b0 b1) ih v0 v1  r h)
def jV (q : LQuery) (most : Int) : Option (Int) := eH fun n=>eM n q most
theorem qE (q : LQuery) (most : Int) (r : Int) (H : jV q most = some r) :
  aJ Tryz.prog 16 [(.agg (aw q)),(ah most)] (ah r) := by
 obtain ⟨n,h⟩ := dU H
 exact (qm  n) q most r h
def dT (sA : List UInt8) : Option (Bool) :=
 af (
  cond (decide ((sA.length : Int) < (1 : Int)))
   (some true)
   (cond (decide ((sA.length : Int) > (12 : Int)))
    (some true)
    (af (aH sA 0) fun (x15 : UInt8) =>
    cond (decide ((x15.toNat : Int) ≥ (48 : Int)))
     (af (aH sA 0) fun (x19 : UInt8) =>
     some (decide ((x19.toNat : Int) ≤ (57 : Int))))
     (some false)))) fun (t1 : Bool) =>
 cond t1
  (some false)
  (af (kw (sA.length ≤ 2 ^ 47) ()) fun (_ : Unit) =>
  af (aC (σ := Unit) (ρ := (Bool)) (fun (_ : Nat) (x2 : UInt8) (_ : Unit) =>
   cond (decide ((x2.toNat : Int) < (97 : Int)))
    (cond (decide ((x2.toNat : Int) < (48 : Int)))
     (some (.ret false))
     (cond (decide ((x2.toNat : Int) > (57 : Int)))
      (some (.ret false))
      (some (.next ()))))
    (cond (decide ((x2.toNat : Int) > (122 : Int)))
     (cond (decide ((x2.toNat : Int) < (48 : Int)))
      (some (.ret false))
      (cond (decide ((x2.toNat : Int) > (57 : Int)))
       (some (.ret false))
       (some (.next ()))))
     (some (.next ())))) 0 sA ()) fun fl2=>fl2.thenR fun (_ : Unit) =>
  some true)
theorem lO (sA : List UInt8) (r : Bool) (H : dT sA = some r) :
  aJ Tryz.prog 75 [(.str sA)] (ay r) := by
 unfold dT at H
 refine PH.ap Tryz.func75 Tryz.ntmps75 ?_
 refine al 1 tk rfl (ab (ab ?_))
 refine fm (γ := Unit) (fun t1 g1=>⟨45,upd (upd (fun _=>.any) 22 (ay t1)) 0 (.str sA),fun _=>none,fun _=>none⟩) H (fun _ H=>?_) (fun t1 g1 H=>?_)
 ·refine aa (ae 4 tk rfl ?_)
  refine aR rfl rfl rfl H (fun H=>?_) (fun H=>?_)
  ·refine ae 14 tk rfl (ac ?_)
   refine aS _ () (aD H) Gh.d
  refine ae 5 tk rfl ?_
  refine aR rfl rfl rfl H (fun H=>?_) (fun H=>?_)
  ·refine ae 9 tk rfl (ac ?_)
   refine aS _ () (aD H) Gh.d
  refine ag tk rfl ?_
  obtain ⟨x15,k15,H⟩ := bg H
  refine qU tk rfl rfl rfl rfl rfl rfl k15.1 k15.2 rfl (ae 2 tk rfl ?_)
  refine aR rfl rfl rfl H (fun H=>?_) (fun H=>?_)
  ·refine ag tk rfl ?_
   obtain ⟨x19,k19,H⟩ := bg H
   refine qU tk rfl rfl rfl rfl rfl rfl k19.1 k19.2 rfl (ae 3 tk rfl (ac ?_))
   refine aS _ () (aD H) Gh.d
  refine ae 5 tk rfl (ac ?_)
  refine aS _ () (aD H) Gh.d
 refine aK rfl H (fun H=>?_) (fun H=>?_)
 ·refine al 1 tk rfl ?_
  exact aV tk H rfl
 refine ao (ab (ab (aa (ag tk rfl ?_))))
 obtain ⟨_,h24,H⟩ := av H
 refine Ao.s2b (xs := sA) tk rfl rfl rfl rfl rfl rfl rfl rfl rfl rfl rfl (lE h24).1 rfl (ax tk (zl _) ?_)
 refine ag tk rfl (ac ?_)
 refine dY tk 26 25 24 (fun s2 g2=>fun _=>.any) nB nO () H (fun fl2 Hp2 j2 s2 g2 hz2 hl2 x2 fb2 hx2 H hg2=>?_) (fun s2 g2 H=>?_)
 ·refine ab (az (ab (aa ?_)))
  refine aN tk (zn j2) (bd (fun _=>rfl) hx2) ?_
  refine ae 2 tk rfl (ac (ab (aa (ae 3 tk rfl ?_))))
  refine aR rfl rfl rfl H (fun H=>?_) (fun H=>?_)
  ·refine ae 7 tk rfl ?_
   refine aR rfl rfl rfl H (fun H=>?_) (fun H=>?_)
   ·refine ae 4 tk rfl (ac (bU rfl (al 1 tk rfl ?_)))
    obtain rfl := aD H
    have e2 : fl2 = .ret _ := hg2
    subst e2
    obtain rfl := aU Hp2
    refine bc tk rfl (ps := [(ay false)]) ⟨_,_,rfl,rfl,rfl⟩ (PLe.q rfl)
   refine ae 4 tk rfl (ac ?_)
   refine aK rfl H (fun H=>?_) (fun H=>?_)
   ·refine al 1 tk rfl ?_
    obtain rfl := aD H
    have e2 : fl2 = .ret _ := hg2
    subst e2
    obtain rfl := aU Hp2
    refine bc tk rfl (ps := [(ay false)]) ⟨_,_,rfl,rfl,rfl⟩ (PLe.q rfl)
   refine ao (aP (bl 2 tk rfl ?_))
   exact bi () H hl2 hg2
  refine ae 4 tk rfl ?_
  refine aR rfl rfl rfl H (fun H=>?_) (fun H=>?_)
  ·refine ae 3 tk rfl ?_
   refine aR rfl rfl rfl H (fun H=>?_) (fun H=>?_)
   ·refine ae 4 tk rfl (ac (bU rfl (al 1 tk rfl ?_)))
    obtain rfl := aD H
    have e2 : fl2 = .ret _ := hg2
    subst e2
    obtain rfl := aU Hp2
    refine bc tk rfl (ps := [(ay false)]) ⟨_,_,rfl,rfl,rfl⟩ (PLe.q rfl)
   refine ae 4 tk rfl (ac ?_)
   refine aK rfl H (fun H=>?_) (fun H=>?_)
   ·refine al 1 tk rfl ?_
    obtain rfl := aD H
    have e2 : fl2 = .ret _ := hg2
    subst e2
    obtain rfl := aU Hp2
    refine bc tk rfl (ps := [(ay false)]) ⟨_,_,rfl,rfl,rfl⟩ (PLe.q rfl)
   refine ao (aP (bl 2 tk rfl ?_))
   exact bi () H hl2 hg2
  refine ae 7 tk rfl (ac (dl rfl (ao (aP (bl 2 tk rfl ?_)))))
  exact bi () H hl2 hg2
 refine al 1 tk rfl ?_
 exact aV tk H rfl
def cD (c : LCol) (c0 : List UInt8) : Bool :=
 (c.name == c0)
theorem nN (c : LCol) (c0 : List UInt8) :
  aJ Tryz.prog 125 [(.agg (aT c)),(.ptr [(.str c0)])] (ay (cD c c0)) := by
 obtain ⟨r,H⟩ : ∃ r,cD c c0 = r := ⟨_,rfl⟩
 rw [H]
 unfold cD at H
 refine PH.ap Tryz.func125 Tryz.ntmps125 ?_
 refine ab (aa (aB ?_))
 refine ag tk rfl (ac (al 5 tk rfl ?_))
 exact cE tk H rfl
def bW (sA : List LCol) (f : LCol → Option (Bool)) : Option (Int) :=
 af (aC (σ := Unit) (ρ := (Int)) (fun (j1 : Nat) (x1 : LCol) (_ : Unit) =>
  af (f x1) fun x16 =>
  cond x16
   (some (.ret (j1 : Int)))
   (some (.next ()))) 0 sA ()) fun fl1=>fl1.thenR fun (_ : Unit) =>
 some (-1)
theorem eV {g_f : FuncId} {caps_f : List PV} (sA : List LCol) (f : LCol → Option (Bool)) (hg_f : ∀ (vs : Array Value) (w : World),(callFunc g_f vs).run Tryz.prog w = .ok (.enter g_f vs) w) (hp_f : ∀ a0 r,f a0 = some r → aJ Tryz.prog g_f ((.agg (aT a0)) :: caps_f) (ay r)) (r : Int) (H : bW sA f = some r) :
  aJ Tryz.prog 124 [(.list 58 (sA.map aT)),(.fn g_f caps_f)] (ah r) := by
 unfold bW at H
 refine PH.ap Tryz.func124 Tryz.ntmps124 ?_
 refine al 1 tk rfl (ab (ab (aa (ag tk rfl (ax tk (zl _) ?_)))))
 refine ag tk rfl (ac ?_)
 refine dY tk 8 7 0 (fun s1 g1=>upd (fun _=>.any) 1 (.fn g_f caps_f)) nB nO () H (fun fl1 Hp1 j1 s1 g1 hz1 hl1 x1 fb1 hx1 H hg1=>?_) (fun s1 g1 H=>?_)
 ·refine ab (az (al 2 tk rfl (ab (aa (ae 3 tk rfl ?_)))))
  refine aN tk (zn j1) (bd (fun _=>rfl) hx1) ?_
  refine ag tk rfl ?_
  obtain ⟨x16,h16,H⟩ := av H
  refine ak hg_f (fG.r) (hp_f _ _ h16) ?_
  refine ac ?_
  refine aK rfl H (fun H=>?_) (fun H=>?_)
  ·refine al 2 tk rfl ?_
   obtain rfl := aD H
   have e1 : fl1 = .ret _ := hg1
   subst e1
   obtain rfl := aU Hp1
   refine bc tk rfl (ps := [(ah (j1 : Int))]) ⟨_,_,rfl,rfl,rfl⟩ (PLe.q rfl)
  refine ao (aP (bl 2 tk rfl ?_))
  exact bi () H hl1 hg1
 refine al 1 tk rfl ?_
 exact aV tk H rfl
def cp (t : LTable) (c0 : List UInt8) : Bool :=
 (t.name == c0)
theorem oU (t : LTable) (c0 : List UInt8) :
  aJ Tryz.prog 127 [(.agg (bS t)),(.ptr [(.str c0)])] (ay (cp t c0)) := by
 obtain ⟨r,H⟩ : ∃ r,cp t c0 = r := ⟨_,rfl⟩
 rw [H]
 unfold cp at H
 refine PH.ap Tryz.func127 Tryz.ntmps127 ?_
 refine ab (aa (aB ?_))
 refine ag tk rfl (ac (al 5 tk rfl ?_))
 exact cE tk H rfl
def cd (sA : List LTable) (f : LTable → Option (Bool)) : Option (Int) :=
 af (aC (σ := Unit) (ρ := (Int)) (fun (j1 : Nat) (x1 : LTable) (_ : Unit) =>
  af (f x1) fun x16 =>
  cond x16
   (some (.ret (j1 : Int)))
   (some (.next ()))) 0 sA ()) fun fl1=>fl1.thenR fun (_ : Unit) =>
 some (-1)
theorem ft {g_f : FuncId} {caps_f : List PV} (sA : List LTable) (f : LTable → Option (Bool)) (hg_f : ∀ (vs : Array Value) (w : World),(callFunc g_f vs).run Tryz.prog w = .ok (.enter g_f vs) w) (hp_f : ∀ a0 r,f a0 = some r → aJ Tryz.prog g_f ((.agg (bS a0)) :: caps_f) (ay r)) (r : Int) (H : cd sA f = some r) :
  aJ Tryz.prog 126 [(.list 61 (sA.map bS)),(.fn g_f caps_f)] (ah r) := by
 unfold cd at H
 refine PH.ap Tryz.func126 Tryz.ntmps126 ?_
 refine al 1 tk rfl (ab (ab (aa (ag tk rfl (ax tk (zl _) ?_)))))
 refine ag tk rfl (ac ?_)
 refine dY tk 8 7 0 (fun s1 g1=>upd (fun _=>.any) 1 (.fn g_f caps_f)) nB nO () H (fun fl1 Hp1 j1 s1 g1 hz1 hl1 x1 fb1 hx1 H hg1=>?_) (fun s1 g1 H=>?_)
 ·refine ab (az (al 2 tk rfl (ab (aa (ae 3 tk rfl ?_)))))
  refine aN tk (zn j1) (bd (fun _=>rfl) hx1) ?_
  refine ag tk rfl ?_
  obtain ⟨x16,h16,H⟩ := av H
  refine ak hg_f (fG.r) (hp_f _ _ h16) ?_
  refine ac ?_
  refine aK rfl H (fun H=>?_) (fun H=>?_)
  ·refine al 2 tk rfl ?_
   obtain rfl := aD H
   have e1 : fl1 = .ret _ := hg1
   subst e1
   obtain rfl := aU Hp1
   refine bc tk rfl (ps := [(ah (j1 : Int))]) ⟨_,_,rfl,rfl,rfl⟩ (PLe.q rfl)
  refine ao (aP (bl 2 tk rfl ?_))
  exact bi () H hl1 hg1
 refine al 1 tk rfl ?_
 exact aV tk H rfl
def ed (s1A : List Int) (s2A : List Int) : Option (Bool) :=
 cond ((s1A.length : Int) != (s2A.length : Int))
  (some false)
  (af (aC (σ := Unit) (ρ := (Bool)) (fun (j1 : Nat) (x1 : Int) (_ : Unit) =>
   af (aH s2A (j1 : Int)) fun (x22 : Int) =>
   cond (x1 != x22)
    (some (.ret false))
    (some (.next ()))) 0 s1A ()) fun fl1=>fl1.thenR fun (_ : Unit) =>
  some true)
theorem mZ (s1A : List Int) (s2A : List Int) (r : Bool) (H : ed s1A s2A = some r) :
  aJ Tryz.prog 79 [(.list 3 (s1A.map aY)),(.list 3 (s2A.map aY))] (ay r) := by
 unfold ed at H
 refine PH.ap Tryz.func79 Tryz.ntmps79 ?_
 refine al 1 tk rfl (ab (ab (aa (ag tk rfl (ax tk (zl _) ?_)))))
 refine ag tk rfl (ax tk (zl _) ?_)
 refine ag tk rfl (ac ?_)
 refine aK rfl H (fun H=>?_) (fun H=>?_)
 ·refine al 1 tk rfl ?_
  exact aV tk H rfl
 refine ao (ab (ab (aa (ag tk rfl (ax tk (zl _) ?_)))))
 refine ag tk rfl (ac ?_)
 refine dY tk 13 12 0 (fun s1 g1=>upd (fun _=>.any) 1 (.list 3 (s2A.map aY))) nB nO () H (fun fl1 Hp1 j1 s1 g1 hz1 hl1 x1 fb1 hx1 H hg1=>?_) (fun s1 g1 H=>?_)
 ·refine ab (az (al 2 tk rfl (ab (bn tk mok ⟨false,false,[]⟩ [0,1,2,3,4,5,6,7,8] rfl (by decide +kernel) rfl (aL 2 rfl ?_)))))
  refine aZ (zn j1) (bd (fun _=>rfl) hx1) ?_
  refine aL 3 rfl ?_
  obtain ⟨x22,k22,H⟩ := bg H
  refine aZ k22.1 (aF (fun _=>rfl) k22.2) ?_
  refine aL 2 rfl (bf ?_)
  refine aK rfl H (fun H=>?_) (fun H=>?_)
  ·refine al 1 tk rfl ?_
   obtain rfl := aD H
   have e1 : fl1 = .ret _ := hg1
   subst e1
   obtain rfl := aU Hp1
   refine bc tk rfl (ps := [(ay false)]) ⟨_,_,rfl,rfl,rfl⟩ (PLe.q rfl)
  refine ao (aP (bl 2 tk rfl ?_))
  exact bi () H hl1 hg1
 refine al 1 tk rfl ?_
 exact aV tk H rfl
def bX (sA : List LForeignKey) (f : LForeignKey → Option (Bool)) : Option (Int) :=
 af (aC (σ := Unit) (ρ := (Int)) (fun (j1 : Nat) (x1 : LForeignKey) (_ : Unit) =>
  af (f x1) fun x16 =>
  cond x16
   (some (.ret (j1 : Int)))
   (some (.next ()))) 0 sA ()) fun fl1=>fl1.thenR fun (_ : Unit) =>
 some (-1)
theorem gq {g_f : FuncId} {caps_f : List PV} (sA : List LForeignKey) (f : LForeignKey → Option (Bool)) (hg_f : ∀ (vs : Array Value) (w : World),(callFunc g_f vs).run Tryz.prog w = .ok (.enter g_f vs) w) (hp_f : ∀ a0 r,f a0 = some r → aJ Tryz.prog g_f ((.agg (im a0)) :: caps_f) (ay r)) (r : Int) (H : bX sA f = some r) :
  aJ Tryz.prog 78 [(.list 121 (sA.map im)),(.fn g_f caps_f)] (ah r) := by
 unfold bX at H
 refine PH.ap Tryz.func78 Tryz.ntmps78 ?_
 refine al 1 tk rfl (ab (ab (aa (ag tk rfl (ax tk (zl _) ?_)))))
 refine ag tk rfl (ac ?_)
 refine dY tk 8 7 0 (fun s1 g1=>upd (fun _=>.any) 1 (.fn g_f caps_f)) nB nO () H (fun fl1 Hp1 j1 s1 g1 hz1 hl1 x1 fb1 hx1 H hg1=>?_) (fun s1 g1 H=>?_)
 ·refine ab (az (al 2 tk rfl (ab (aa (ae 3 tk rfl ?_)))))
  refine aN tk (zn j1) (bd (fun _=>rfl) hx1) ?_
  refine ag tk rfl ?_
  obtain ⟨x16,h16,H⟩ := av H
  refine ak hg_f (fG.r) (hp_f _ _ h16) ?_
  refine ac ?_
  refine aK rfl H (fun H=>?_) (fun H=>?_)
  ·refine al 2 tk rfl ?_
   obtain rfl := aD H
   have e1 : fl1 = .ret _ := hg1
   subst e1
   obtain rfl := aU Hp1
   refine bc tk rfl (ps := [(ah (j1 : Int))]) ⟨_,_,rfl,rfl,rfl⟩ (PLe.q rfl)
  refine ao (aP (bl 2 tk rfl ?_))
  exact bi () H hl1 hg1
 refine al 1 tk rfl ?_
 exact aV tk H rfl
def fD (a : Int) (b : Int) : Int :=
 cond (decide (a < b))
  ((-1))
  (cond (decide (a > b))
   (1)
   (0))
theorem kT (a : Int) (b : Int) :
  aJ Tryz.prog 149 [(ah a),(ah b)] (ah (fD a b)) := by
 obtain ⟨r,H⟩ : ∃ r,fD a b = r := ⟨_,rfl⟩
 rw [H]
 unfold fD at H
 refine PH.ap Tryz.func149 Tryz.ntmps149 ?_
 refine al 1 tk rfl (ab (az (al 4 tk rfl ?_)))
 refine aK rfl H (fun H=>?_) (fun H=>?_)
 ·refine al 1 tk rfl ?_
  exact cE tk H rfl
 refine al 4 tk rfl ?_
 refine aK rfl H (fun H=>?_) (fun H=>?_)
 ·refine al 1 tk rfl ?_
  exact cE tk H rfl
 refine ao (aP (al 1 tk rfl ?_))
 exact cE tk H rfl
def dB (a : List UInt8) (b : List UInt8) : Int :=
 (Lib.compareBytes a b)
theorem jW (a : List UInt8) (b : List UInt8) :
  aJ Tryz.prog 189 [(.str a),(.str b)] (ah (dB a b)) := by
 obtain ⟨r,H⟩ : ∃ r,dB a b = r := ⟨_,rfl⟩
 rw [H]
 unfold dB at H
 refine PH.ap Tryz.func189 Tryz.ntmps189 ?_
 refine al 1 tk rfl (ab (aa (ae 2 tk rfl ?_)))
 refine Ao.cmpS (g := 209) rfl rfl rfl Tryz.func209 (by kernel_rfl) (by kernel_rfl) (by kernel_rfl) (by kernel_rfl) rfl rfl rfl ?_
 refine ag tk rfl (ac ?_)
 exact cE tk H rfl
def iC (v : LVal) : Int :=
 cond (v.kind == (0 : Int))
  (cond (v.int != (0 : Int))
   (3)
   (cond (!(v.text == ([] : List UInt8)))
    (3)
    (0)))
  (bL (
   cond (v.kind == (1 : Int))
    ((v.kind == (1 : Int)))
    ((v.kind == (2 : Int)))) fun (t1 : Bool) =>
  cond t1
   (cond (!(v.text == ([] : List UInt8)))
    (3)
    (cond (v.kind == (2 : Int))
     (cond (v.int != (0 : Int))
      (cond (v.int != (1 : Int))
       (1)
       (cond (decide (v.int < (-1000000000000)))
        (1)
        (cond (decide (v.int > (1000000000000 : Int)))
         (1)
         (0))))
      (cond (decide (v.int < (-1000000000000)))
       (1)
       (cond (decide (v.int > (1000000000000 : Int)))
        (1)
        (0))))
     (cond (decide (v.int < (-1000000000000)))
      (1)
      (cond (decide (v.int > (1000000000000 : Int)))
       (1)
       (0)))))
   (cond (v.kind == (3 : Int))
    (cond (v.int != (0 : Int))
     (3)
     (cond (decide ((v.text.length : Int) > (24 : Int)))
      (2)
      (0)))
    (7)))
theorem qH (v : LVal) :
  aJ Tryz.prog 81 [(.agg (fO v))] (ah (iC v)) := by
 obtain ⟨r,H⟩ : ∃ r,iC v = r := ⟨_,rfl⟩
 rw [H]
 unfold iC at H
 refine PH.ap Tryz.func81 Tryz.ntmps81 ?_
 refine ab (aa (aB ?_))
 refine ag tk rfl (ac (ab (al 2 tk rfl (az (al 2 tk rfl ?_)))))
 refine aK rfl H (fun H=>?_) (fun H=>?_)
 ·refine ab (aa (ae 4 tk rfl ?_))
  refine aR rfl rfl rfl H (fun H=>?_) (fun H=>?_)
  ·refine ae 4 tk rfl (ac (bU rfl (al 1 tk rfl ?_)))
   exact cE tk H rfl
  refine ae 4 tk rfl (ac ?_)
  refine aK rfl H (fun H=>?_) (fun H=>?_)
  ·refine al 1 tk rfl ?_
   exact cE tk H rfl
  refine ao (aP (al 1 tk rfl ?_))
  exact cE tk H rfl
 refine ab (al 2 tk rfl ?_)
 refine eF (γ := Unit) (fun t1 g1=>⟨53,upd (upd (upd (fun _=>.any) 15 (ay t1)) 4 (ah v.kind)) 1 (.ptr (fO v)),fun _=>none,fun _=>none⟩) H (fun _ H=>?_) (fun t1 g1 H=>?_)
 ·refine aK rfl H (fun H=>?_) (fun H=>?_)
  ·refine ao ?_
   refine aS _ () H Gh.d
  refine bl 2 tk rfl ?_
  refine aS _ () H Gh.d
 refine aK rfl H (fun H=>?_) (fun H=>?_)
 ·refine ab (al 3 tk rfl ?_)
  refine aK rfl H (fun H=>?_) (fun H=>?_)
  ·refine al 1 tk rfl ?_
   exact cE tk H rfl
  refine ao (ab (aa (ae 4 tk rfl ?_)))
  refine aR rfl rfl rfl H (fun H=>?_) (fun H=>?_)
  ·refine ae 5 tk rfl ?_
   refine aR rfl rfl rfl H (fun H=>?_) (fun H=>?_)
   ·refine ae 5 tk rfl ?_
    refine aR rfl rfl rfl H (fun H=>?_) (fun H=>?_)
    ·refine ae 9 tk rfl (ac (bU rfl (al 1 tk rfl ?_)))
     exact cE tk H rfl
    refine ae 5 tk rfl ?_
    refine aR rfl rfl rfl H (fun H=>?_) (fun H=>?_)
    ·refine ae 4 tk rfl (ac (bU rfl (al 1 tk rfl ?_)))
     exact cE tk H rfl
    refine ae 4 tk rfl (ac ?_)
    refine aK rfl H (fun H=>?_) (fun H=>?_)
    ·refine al 1 tk rfl ?_
     exact cE tk H rfl
    refine ao (aP (al 1 tk rfl ?_))
    exact cE tk H rfl
   refine ae 10 tk rfl ?_
   refine aR rfl rfl rfl H (fun H=>?_) (fun H=>?_)
   ·refine ae 4 tk rfl (ac (bU rfl (al 1 tk rfl ?_)))
    exact cE tk H rfl
   refine ae 4 tk rfl (ac ?_)
   refine aK rfl H (fun H=>?_) (fun H=>?_)
   ·refine al 1 tk rfl ?_
    exact cE tk H rfl
   refine ao (aP (al 1 tk rfl ?_))
   exact cE tk H rfl
  refine ae 15 tk rfl ?_
  refine aR rfl rfl rfl H (fun H=>?_) (fun H=>?_)
  ·refine ae 4 tk rfl (ac (bU rfl (al 1 tk rfl ?_)))
   exact cE tk H rfl
  refine ae 4 tk rfl (ac ?_)
  refine aK rfl H (fun H=>?_) (fun H=>?_)
  ·refine al 1 tk rfl ?_
   exact cE tk H rfl
  refine ao (aP (al 1 tk rfl ?_))
  exact cE tk H rfl
 refine al 2 tk rfl ?_
 refine aK rfl H (fun H=>?_) (fun H=>?_)
 ·refine ab (al 3 tk rfl ?_)
  refine aK rfl H (fun H=>?_) (fun H=>?_)
  ·refine al 1 tk rfl ?_
   exact cE tk H rfl
  refine ao (al 4 tk rfl ?_)
  refine aK rfl H (fun H=>?_) (fun H=>?_)
  ·refine al 1 tk rfl ?_
   exact cE tk H rfl
  refine ao (aP (al 1 tk rfl ?_))
  exact cE tk H rfl
 refine al 1 tk rfl ?_
 exact cE tk H rfl
def cg (sA : List LConstraint) (v : LConstraint) : Option (Int) :=
 af (aC (σ := Unit) (ρ := (Int)) (fun (j1 : Nat) (x1 : LConstraint) (_ : Unit) =>
  cond (v.table == x1.table && (v.left == x1.left && (v.op == x1.op && (v.right == x1.right && ((v.value.kind == x1.value.kind && (v.value.int == x1.value.int && (v.value.text == x1.value.text && true))) && true)))))
   (some (.ret (j1 : Int)))
   (some (.next ()))) 0 sA ()) fun fl1=>fl1.thenR fun (_ : Unit) =>
 some (-1)
theorem hP (sA : List LConstraint) (v : LConstraint) (r : Int) (H : cg sA v = some r) :
  aJ Tryz.prog 82 [(.list 127 (sA.map jy)),(.agg (jy v))] (ah r) := by
 unfold cg at H
 refine PH.ap Tryz.func82 Tryz.ntmps82 ?_
 refine ab (aa (aB ?_))
 refine ag tk rfl (ac (ab (ab (aa (ag tk rfl (ax tk (zl _) ?_))))))
 refine ag tk rfl (ac ?_)
 refine dY tk 8 7 0 (fun s1 g1=>upd (fun _=>.any) 3 (.ptr (jy v))) nB nO () H (fun fl1 Hp1 j1 s1 g1 hz1 hl1 x1 fb1 hx1 H hg1=>?_) (fun s1 g1 H=>?_)
 ·refine ab (az (al 2 tk rfl (ab (bn tk mok ⟨false,false,[]⟩ [0,1,2,3,4,5] rfl (by decide +kernel) rfl (aL 3 rfl ?_)))))
  refine aZ (zn j1) (bd (fun _=>rfl) hx1) ?_
  refine bt rfl (rr (b := (v.table == x1.table && (v.left == x1.left && (v.op == x1.op && (v.right == x1.right && ((v.value.kind == x1.value.kind && (v.value.int == x1.value.int && (v.value.text == x1.value.text && true))) && true)))))) tk rfl rfl rfl rfl rfl Tryz.stoodInHeld127 Tryz.eqGuardType127 (eqf := [(9,0),(3,1),(9,2),(3,3),(63,4)]) (by simp [bR,Program.fieldsOf,Tryz.underlying127]) (by kernel_rfl) rfl rfl (bf ?_))
  refine aK rfl H (fun H=>?_) (fun H=>?_)
  ·refine al 2 tk rfl ?_
   obtain rfl := aD H
   have e1 : fl1 = .ret _ := hg1
   subst e1
   obtain rfl := aU Hp1
   refine bc tk rfl (ps := [(ah (j1 : Int))]) ⟨_,_,rfl,rfl,rfl⟩ (PLe.q rfl)
  refine ao (aP (bl 2 tk rfl ?_))
  exact bi () H hl1 hg1
 refine al 1 tk rfl ?_
 exact aV tk H rfl
def gS (rec83 : LQuery → Option ((List LQuery))) (q : LQuery) : Option ((List LQuery)) :=
 af (aC (σ := List LQuery) (ρ := Empty) (fun (_ : Nat) (x1 : LQuery) (s1 : List LQuery) =>
  af (rec83 x1) fun x17 =>
  af (cJ 160 s1 x17) fun (x18 : List LQuery) =>
  some (.next x18)) 0 q.inputs [q]) fun fl1=>fl1.thenP fun (s1 : List LQuery) =>
 some s1
theorem WO_query_Nodes {m : Nat} (rec83 : LQuery → Option ((List LQuery))) (hrec83 : ∀ m a0 r,rec83 a0 = some r → dP Tryz.prog 83 [(.agg (aw a0))] (iY m 34 (r.map bp))) (q : LQuery) (r : (List LQuery)) (H : gS rec83 q = some r) :
  dP Tryz.prog 83 [(.agg (aw q))] (iY m 34 (r.map bp)) := by
 unfold gS at H
 refine PH.ap Tryz.func83 Tryz.ntmps83 ?_
 refine ab (aa (aB ?_))
 refine ag tk rfl (ac (ab (aa (ag tk rfl ?_))))
 refine mA (rows' := List.map bp ([q] : List LQuery)) tk rfl rfl rfl rfl rfl rfl rfl (congrArg (List.map List.length) (fV bw ([q] : List LQuery))).symm rfl (fH.trans (b := (List.map aw ([q] : List LQuery)).flatten) (fH.refl _) (fH.of_eq (congrArg List.flatten (fV bw ([q] : List LQuery))))) fun g7=>?_
 refine ag tk rfl (ac (ab (ab (aa (ae 2 tk rfl (ax tk (zl _) ?_))))))
 refine ag tk rfl (ac ?_)
 refine ek (γ := OwnRef) tk 11 10 9 (fun s1 g1=>upd (fun _=>.any) 3 (.own 7 g1 (s1.map bp).length)) nB (fun s1 g1=>upd (fun _=>none) 7 (some ⟨g1,34,(s1.map bp),true⟩)) g7 H (fun fl1 Hp1 j1 s1 g1 hz1 hl1 x1 fb1 hx1 H hg1=>?_) (fun s1 g1 H=>?_)
 ·refine ab (az (ab (aa (aN tk (zn j1) (bd bw hx1) ?_))))
  refine ag tk rfl ?_
  refine aM tk fun b5=>?_
  refine am tk ?_
  refine ac (aa (ag tk rfl (aq tk ?_)))
  obtain ⟨x17,h17,H⟩ := av H
  have s17 := hrec83 17 x1 _ h17
  refine ak Tryz.call83 (fG.r) (PFun.gn s17) ?_
  obtain ⟨x18,h18,H⟩ := av H
  have k18 := ci h18
  refine cy (rows2' := List.map bp x17) (rows' := List.map bp x18) tk rfl rfl rfl rfl rfl rfl rfl rfl rfl rfl rfl rfl rfl (dS.refl _) (cW k18.1) (cX k18.2.1) (cY k18.2.2) fun g18=>?_
  refine ag tk rfl (ac (aP (bl 2 tk rfl ?_)))
  exact bi g18 H hl1 hg1
 refine al 2 tk rfl ?_
 obtain rfl := aD H
 refine gT tk rfl
def gR : Nat → LQuery → Option ((List LQuery))
 | 0,_=>none
 | n + 1,v0=>gS (fun b0=>gR n b0) v0
theorem WF_query_Nodes  (n : Nat) : (∀ m a0 r,gR n a0 = some r → dP Tryz.prog 83 [(.agg (aw a0))] (iY m 34 (r.map bp))) := by
 induction n with
 | zero=>exact (by intros; rename_i h; exact absurd (show (none : Option _) = some _ from h) (by simp))
 | succ n ih =>
  exact (fun m v0 r h=>WO_query_Nodes (m := m) (fun b0=>gR n b0) ih v0  r h)
def gW (q : LQuery) : Option ((List LQuery)) := eH fun n=>gR n q
theorem ph {m : Nat} (q : LQuery) (r : (List LQuery)) (H : gW q = some r) :
  dP Tryz.prog 83 [(.agg (aw q))] (iY m 34 (r.map bp)) := by
 obtain ⟨n,h⟩ := dU H
 exact (WF_query_Nodes  n) m q r h
def gU (rec84 : LQuery → Option (Int)) (q : LQuery) : Option (Int) :=
 af (aC (σ := Int) (ρ := Empty) (fun (_ : Nat) (x1 : LQuery) (s1 : Int) =>
  af (rec84 x1) fun x15 =>
  some (.next (if x15 > s1 then x15 else s1))) 0 q.inputs 0) fun fl1=>fl1.thenP fun (s1 : Int) =>
 some (IntKind.i64.wrap (s1 + (1 : Int)))
theorem WO_query_depth (rec84 : LQuery → Option (Int)) (hrec84 : ∀ a0 r,rec84 a0 = some r → aJ Tryz.prog 84 [(.agg (aw a0))] (ah r)) (q : LQuery) (r : Int) (H : gU rec84 q = some r) :
  aJ Tryz.prog 84 [(.agg (aw q))] (ah r) := by
 unfold gU at H
 refine PH.ap Tryz.func84 Tryz.ntmps84 ?_
 refine ab (aa (aB ?_))
 refine ag tk rfl (ac (al 1 tk rfl (ab (ab (aa (ae 2 tk rfl (ax tk (zl _) ?_)))))))
 refine ag tk rfl (ac ?_)
 refine ek tk 9 8 7 (fun s1 g1=>upd (fun _=>.any) 3 (ah s1)) nB nO () H (fun fl1 Hp1 j1 s1 g1 hz1 hl1 x1 fb1 hx1 H hg1=>?_) (fun s1 g1 H=>?_)
 ·refine ab (az (ab (aa (aN tk (zn j1) (bd bw hx1) ?_))))
  refine ag tk rfl ?_
  refine aM tk fun b5=>?_
  refine am tk ?_
  refine ac (aa (ag tk rfl (aq tk ?_)))
  obtain ⟨x15,h15,H⟩ := av H
  have s15 := hrec84 x1 _ h15
  refine ak Tryz.call84 (fG.r) s15 ?_
  refine ae 2 tk rfl (ac (aP (bl 2 tk rfl ?_)))
  exact bi () H hl1 hg1
 refine al 3 tk rfl ?_
 exact aV tk H rfl
def gV : Nat → LQuery → Option (Int)
 | 0,_=>none
 | n + 1,v0=>gU (fun b0=>gV n b0) v0
theorem WF_query_depth  (n : Nat) : (∀ a0 r,gV n a0 = some r → aJ Tryz.prog 84 [(.agg (aw a0))] (ah r)) := by
 induction n with
 | zero=>exact (by intros; rename_i h; exact absurd (show (none : Option _) = some _ from h) (by simp))
 | succ n ih =>
  exact (fun v0 r h=>WO_query_depth (fun b0=>gV n b0) ih v0  r h)
def iR (q : LQuery) : Option (Int) := eH fun n=>gV n q
theorem W_query_depth (q : LQuery) (r : Int) (H : iR q = some r) :
  aJ Tryz.prog 84 [(.agg (aw q))] (ah r) := by
 obtain ⟨n,h⟩ := dU H
 exact (WF_query_depth  n) q r h
def ir (rec129 : LQuery → Option (Int × Int)) (q : LQuery) : Option (Int × Int) :=
 af (aC (σ := Int × Int) (ρ := Empty) (fun (j1 : Nat) (x1 : LQuery) (s1 : Int × Int) =>
  af (rec129 x1) fun x20 =>
  cond ((j1 : Int) == (0 : Int))
   (some (.next ((if (20001 : Int) < x20.1 then (20001 : Int) else x20.1),(if x20.2 > s1.2 then x20.2 else s1.2))))
   (cond (q.kind == (6 : Int))
    (some (.next ((if (20001 : Int) < (IntKind.i64.wrap (s1.1 + x20.1)) then (20001 : Int) else (IntKind.i64.wrap (s1.1 + x20.1))),(if x20.2 > s1.2 then x20.2 else s1.2))))
    (bL (
     cond (q.kind == (4 : Int))
      (true)
      ((q.kind == (5 : Int)))) fun (t4 : Bool) =>
    cond t4
     (some (.next ((if (20001 : Int) < (IntKind.i64.wrap (s1.1 * (if x20.1 > (1 : Int) then x20.1 else (1 : Int)))) then (20001 : Int) else (IntKind.i64.wrap (s1.1 * (if x20.1 > (1 : Int) then x20.1 else (1 : Int))))),(if x20.2 > s1.2 then x20.2 else s1.2))))
     (some (.next ((if (20001 : Int) < s1.1 then (20001 : Int) else s1.1),(if x20.2 > s1.2 then x20.2 else s1.2))))))) 0 q.inputs (0,0)) fun fl1=>fl1.thenP fun (s1 : Int × Int) =>
 cond (q.kind == (1 : Int))
  (some (24,(if (24 : Int) > s1.2 then (24 : Int) else s1.2)))
  (some (s1.1,(if s1.1 > s1.2 then s1.1 else s1.2)))
theorem WO_query_most (rec129 : LQuery → Option (Int × Int)) (hrec129 : ∀ a0 r,rec129 a0 = some r → aJ Tryz.prog 129 [(.agg (aw a0))] (.tup [(ah r.1),(ah r.2)])) (q : LQuery) (r : Int × Int) (H : ir rec129 q = some r) :
  aJ Tryz.prog 129 [(.agg (aw q))] (.tup [(ah r.1),(ah r.2)]) := by
 unfold ir at H
 refine PH.ap Tryz.func129 Tryz.ntmps129 ?_
 refine ab (aa (aB ?_))
 refine ae 2 tk rfl (ac (al 2 tk rfl (ab (ab (aa (ae 2 tk rfl (ax tk (zl _) ?_)))))))
 refine ag tk rfl (ac ?_)
 refine ek tk 13 12 11 (fun s1 g1=>upd (upd (upd (fun _=>.any) 5 (ah s1.2)) 4 (ah s1.1)) 1 (.ptr (aw q))) nB nO () H (fun fl1 Hp1 j1 s1 g1 hz1 hl1 x1 fb1 hx1 H hg1=>?_) (fun s1 g1 H=>?_)
 ·refine ab (az (ab (aa (ag tk rfl (aN tk (zn j1) (bd bw hx1) ?_)))))
  refine ag tk rfl ?_
  refine aM tk fun b7=>?_
  refine ag tk rfl (am tk ?_)
  refine ac (ab (aa (aq tk ?_)))
  obtain ⟨x20,h20,H⟩ := av H
  have s20 := hrec129 x1 _ h20
  refine ak Tryz.call129 (fG.r) s20 ?_
  refine ae 5 tk rfl (ac (al 4 tk rfl (ab (az (al 3 tk rfl ?_)))))
  refine aK rfl H (fun H=>?_) (fun H=>?_)
  ·refine bl 2 tk rfl (aP (bl 3 tk rfl (aP (bl 2 tk rfl ?_))))
   exact bi () H hl1 hg1
  refine al 4 tk rfl ?_
  refine aK rfl H (fun H=>?_) (fun H=>?_)
  ·refine bl 4 tk rfl (aP (bl 3 tk rfl (aP (bl 2 tk rfl ?_))))
   exact bi () H hl1 hg1
  refine ab ?_
  refine eF (γ := Unit) (fun t4 g4=>⟨60,upd (upd (upd (upd (upd (upd (upd (upd (fun _=>.any) 37 (ay t4)) 13 (ah (j1 : Int))) 12 (ah (q.inputs.length : Int))) 11 (.list 34 (q.inputs.map bp))) 8 (ah x20.1)) 5 (ah (if x20.2 > s1.2 then x20.2 else s1.2))) 4 (ah s1.1)) 1 (.ptr (aw q)),fun _=>none,fun _=>none⟩) H (fun _ H=>?_) (fun t4 g4 H=>?_)
  ·refine aa (ae 4 tk rfl ?_)
   refine aR rfl rfl rfl H (fun H=>?_) (fun H=>?_)
   ·refine ae 5 tk rfl (ac ?_)
    refine aS _ () H Gh.d
   refine ae 5 tk rfl (ac ?_)
   refine aS _ () H Gh.d
  refine aK rfl H (fun H=>?_) (fun H=>?_)
  ·refine bl 5 tk rfl (aP (bl 3 tk rfl (aP (bl 2 tk rfl ?_))))
   exact bi () H hl1 hg1
  refine ao (aP (bl 3 tk rfl (aP (bl 2 tk rfl ?_))))
  exact bi () H hl1 hg1
 refine ab (al 3 tk rfl ?_)
 refine aK rfl H (fun H=>?_) (fun H=>?_)
 ·refine bl 1 tk rfl (al 6 tk rfl ?_)
  exact aV tk H rfl
 refine ao (al 6 tk rfl ?_)
 exact aV tk H rfl
def iu : Nat → LQuery → Option (Int × Int)
 | 0,_=>none
 | n + 1,v0=>ir (fun b0=>iu n b0) v0
theorem WF_query_most  (n : Nat) : (∀ a0 r,iu n a0 = some r → aJ Tryz.prog 129 [(.agg (aw a0))] (.tup [(ah r.1),(ah r.2)])) := by
 induction n with
 | zero=>exact (by intros; rename_i h; exact absurd (show (none : Option _) = some _ from h) (by simp))
 | succ n ih =>
  exact (fun v0 r h=>WO_query_most (fun b0=>iu n b0) ih v0  r h)
def kA (q : LQuery) : Option (Int × Int) := eH fun n=>iu n q
theorem W_query_most (q : LQuery) (r : Int × Int) (H : kA q = some r) :
  aJ Tryz.prog 129 [(.agg (aw q))] (.tup [(ah r.1),(ah r.2)]) := by
 obtain ⟨n,h⟩ := dU H
 exact (WF_query_most  n) q r h
def fo (rec130 : LExpr → (List Int) → Bool → (List Bool) → Option ((List Int) × Bool × (List Bool))) (e : LExpr) (c0 : List Int) (c1 : Bool) (c2 : List Bool) : Option ((List Int) × Bool × (List Bool)) :=
 bL (
  cond (e.kind == (3 : Int))
   (cond (decide (e.index ≥ (0 : Int)))
    ((decide (e.index < (8 : Int))))
    (false))
   (false)) fun (t1 : Bool) =>
 af (
  cond t1
   (af (gD (σ := List Int) (ρ := Empty) (fun (s7 : List Int) =>
    cond (decide ((s7.length : Int) ≤ e.index))
     (af (cJ 8 s7 ([0] : List Int)) fun (x28 : List Int) =>
     some (.next x28))
     (some (.brk s7))) c0) fun fl7=>fl7.thenP fun (s7 : List Int) =>
   af (
    cond c1
     (some true)
     (af (arrI 8 c2 e.index) fun (x33 : Bool) =>
     cond x33
      (af (aH s7 e.index) fun (x39 : Int) =>
      some (x39 != e.value.kind))
      (some false))) fun (t8 : Bool) =>
   af (aH s7 e.index) fun (_ : Int) =>
   bL (s7.set e.index.toNat e.value.kind) fun (y9 : List Int) =>
   af (arrI 8 c2 e.index) fun (_ : Bool) =>
   bL (c2.set e.index.toNat true) fun (y10 : List Bool) =>
   some (y9,t8,y10))
   (some (c0,c1,c2))) fun (t6 : List Int × Bool × List Bool) =>
 af (aC (σ := List Int × Bool × List Bool) (ρ := Empty) (fun (_ : Nat) (x11 : LExpr) (s11 : List Int × Bool × List Bool) =>
  af (rec130 x11 s11.1 s11.2.1 s11.2.2) fun x66 =>
  some (.next (x66.1,x66.2.1,x66.2.2))) 0 e.args (t6.1,t6.2.1,t6.2.2)) fun fl11=>fl11.thenP fun (s11 : List Int × Bool × List Bool) =>
 some (s11.1,s11.2.1,s11.2.2)
theorem mp (b_c0 : Nat) (g_c0 : OwnRef) (b_c1 : Nat) (b_c2 : Nat) (b_c3 : Nat) (rec130 : LExpr → (List Int) → Bool → (List Bool) → Option ((List Int) × Bool × (List Bool))) (hrec130 : ∀ bq0 gq0 bq1 bq2 bq3 a0 a1 a2 a3 r,rec130 a0 a1 a2 a3 = some r → PH Tryz.prog 130 [(.agg (bE a0)),(.box 1000 bq0 0),(.box 1001 bq1 0),(.box 1002 bq2 0),(.box 1003 bq3 0)] ⟨upd (upd (upd (upd (fun _=>none) 1003 (some ⟨bq3,[(.fn 130 [(.box 1000 bq0 0),(.box 1001 bq1 0),(.box 1002 bq2 0),(.box 1003 bq3 0)])]⟩)) 1002 (some ⟨bq2,(List.map ay a3)⟩)) 1001 (some ⟨bq1,[(ay a2)]⟩)) 1000 (some ⟨bq0,[(.own 1100 gq0 (a1.map aY).length)]⟩),upd (fun _=>none) 1100 (some ⟨gq0,3,(a1.map aY),true⟩)⟩ (fun u H=>∃ gz0,u = (.tup []) ∧ H = ⟨upd (upd (upd (upd (fun _=>none) 1003 (some ⟨bq3,[(.fn 130 [(.box 1000 bq0 0),(.box 1001 bq1 0),(.box 1002 bq2 0),(.box 1003 bq3 0)])]⟩)) 1002 (some ⟨bq2,(List.map ay r.2.2)⟩)) 1001 (some ⟨bq1,[(ay r.2.1)]⟩)) 1000 (some ⟨bq0,[(.own 1100 gz0 (r.1.map aY).length)]⟩),upd (fun _=>none) 1100 (some ⟨gz0,3,(r.1.map aY),true⟩)⟩)) (e : LExpr) (c0 : List Int) (c1 : Bool) (c2 : List Bool) (r : (List Int) × Bool × (List Bool)) (H : fo rec130 e c0 c1 c2 = some r) :
  PH Tryz.prog 130 [(.agg (bE e)),(.box 1000 b_c0 0),(.box 1001 b_c1 0),(.box 1002 b_c2 0),(.box 1003 b_c3 0)] ⟨upd (upd (upd (upd (fun _=>none) 1003 (some ⟨b_c3,[(.fn 130 [(.box 1000 b_c0 0),(.box 1001 b_c1 0),(.box 1002 b_c2 0),(.box 1003 b_c3 0)])]⟩)) 1002 (some ⟨b_c2,(List.map ay c2)⟩)) 1001 (some ⟨b_c1,[(ay c1)]⟩)) 1000 (some ⟨b_c0,[(.own 1100 g_c0 (c0.map aY).length)]⟩),upd (fun _=>none) 1100 (some ⟨g_c0,3,(c0.map aY),true⟩)⟩ (fun u H=>∃ gz0,u = (.tup []) ∧ H = ⟨upd (upd (upd (upd (fun _=>none) 1003 (some ⟨b_c3,[(.fn 130 [(.box 1000 b_c0 0),(.box 1001 b_c1 0),(.box 1002 b_c2 0),(.box 1003 b_c3 0)])]⟩)) 1002 (some ⟨b_c2,(List.map ay r.2.2)⟩)) 1001 (some ⟨b_c1,[(ay r.2.1)]⟩)) 1000 (some ⟨b_c0,[(.own 1100 gz0 (r.1.map aY).length)]⟩),upd (fun _=>none) 1100 (some ⟨gz0,3,(r.1.map aY),true⟩)⟩) := by
 unfold fo at H
 refine PH.ap Tryz.func130 Tryz.ntmps130 ?_
 refine ab (aa (aB ?_))
 refine ac (ab (ab ?_))
 refine eF (γ := Unit) (fun t1 g1=>⟨68,upd (upd (upd (upd (upd (upd (fun _=>.any) 20 (ay t1)) 5 (.ptr (bE e))) 4 (.box 1003 b_c3 0)) 3 (.box 1002 b_c2 0)) 2 (.box 1001 b_c1 0)) 1 (.box 1000 b_c0 0),upd (upd (upd (upd (fun _=>none) 1003 (some ⟨b_c3,[(.fn 130 [(.box 1000 b_c0 0),(.box 1001 b_c1 0),(.box 1002 b_c2 0),(.box 1003 b_c3 0)])]⟩)) 1002 (some ⟨b_c2,(List.map ay c2)⟩)) 1001 (some ⟨b_c1,[(ay c1)]⟩)) 1000 (some ⟨b_c0,[(.own 1100 g_c0 (c0.map aY).length)]⟩),upd (fun _=>none) 1100 (some ⟨g_c0,3,(c0.map aY),true⟩)⟩) H (fun _ H=>?_) (fun t1 g1 H=>?_)
 ·refine aa (ae 4 tk rfl ?_)
  refine aR rfl rfl rfl H (fun H=>?_) (fun H=>?_)
  ·refine ae 5 tk rfl ?_
   refine aR rfl rfl rfl H (fun H=>?_) (fun H=>?_)
   ·refine ae 4 tk rfl (ac ?_)
    refine aS _ () H Gh.d
   refine ae 4 tk rfl (ac ?_)
   refine aS _ () H Gh.d
  refine ae 9 tk rfl (ac ?_)
  refine aS _ () H Gh.d
 refine fm (γ := OwnRef) (fun t6 g6=>⟨68,upd (upd (upd (upd (upd (fun _=>.any) 5 (.ptr (bE e))) 4 (.box 1003 b_c3 0)) 3 (.box 1002 b_c2 0)) 2 (.box 1001 b_c1 0)) 1 (.box 1000 b_c0 0),upd (upd (upd (upd (fun _=>none) 1003 (some ⟨b_c3,[(.fn 130 [(.box 1000 b_c0 0),(.box 1001 b_c1 0),(.box 1002 b_c2 0),(.box 1003 b_c3 0)])]⟩)) 1002 (some ⟨b_c2,(List.map ay t6.2.2)⟩)) 1001 (some ⟨b_c1,[(ay t6.2.1)]⟩)) 1000 (some ⟨b_c0,[(.own 1100 g6 (t6.1.map aY).length)]⟩),upd (fun _=>none) 1100 (some ⟨g6,3,(t6.1.map aY),true⟩)⟩) H (fun _ H=>?_) (fun t6 g6 H=>?_)
 ·refine aK rfl H (fun H=>?_) (fun H=>?_)
  ·refine ab ?_
   obtain ⟨fl7,H7,Hp7⟩ := av H
   refine ik (τ := List Int) (γ := OwnRef) (fun s7 g7=>⟨68,upd (upd (upd (upd (upd (fun _=>.any) 5 (.ptr (bE e))) 4 (.box 1003 b_c3 0)) 3 (.box 1002 b_c2 0)) 2 (.box 1001 b_c1 0)) 1 (.box 1000 b_c0 0),upd (upd (upd (upd (fun _=>none) 1003 (some ⟨b_c3,[(.fn 130 [(.box 1000 b_c0 0),(.box 1001 b_c1 0),(.box 1002 b_c2 0),(.box 1003 b_c3 0)])]⟩)) 1002 (some ⟨b_c2,(List.map ay c2)⟩)) 1001 (some ⟨b_c1,[(ay c1)]⟩)) 1000 (some ⟨b_c0,[(.own 1100 g7 (s7.map aY).length)]⟩),upd (fun _=>none) 1100 (some ⟨g7,3,(s7.map aY),true⟩)⟩) (fun t=>fl7 = .next t) ?_ (fun s7 g7 hn7=>?_)
   ·refine az ?_
    refine mS (fun s7 g7=>⟨68,upd (upd (upd (upd (upd (fun _=>.any) 5 (.ptr (bE e))) 4 (.box 1003 b_c3 0)) 3 (.box 1002 b_c2 0)) 2 (.box 1001 b_c1 0)) 1 (.box 1000 b_c0 0),upd (upd (upd (upd (fun _=>none) 1003 (some ⟨b_c3,[(.fn 130 [(.box 1000 b_c0 0),(.box 1001 b_c1 0),(.box 1002 b_c2 0),(.box 1003 b_c3 0)])]⟩)) 1002 (some ⟨b_c2,(List.map ay c2)⟩)) 1001 (some ⟨b_c1,[(ay c1)]⟩)) 1000 (some ⟨b_c0,[(.own 1100 g7 (s7.map aY).length)]⟩),upd (fun _=>none) 1100 (some ⟨g7,3,(s7.map aY),true⟩)⟩) g_c0 H7 Gh.d (fun m7 s7 g7 hr7=>?_)
    obtain ⟨fb7,H,hg7⟩ := kF hr7
    refine ab (ab (aa (aq tk ?_)))
    refine hZ tk (zl _) ?_
    refine ae 3 tk rfl (ac ?_)
    refine aK rfl H (fun H=>?_) (fun H=>?_)
    ·refine ao (az (aa (aq tk ?_)))
     refine de tk (rows' := List.map aY ([0] : List Int)) (dS.refl _) ?_
     obtain ⟨x28,h28,H⟩ := av H
     have k28 := ci h28
     refine cy (rows2' := List.map aY ([0] : List Int)) (rows' := List.map aY x28) tk rfl rfl rfl rfl rfl rfl rfl rfl rfl rfl rfl rfl rfl (dS.refl _) (cW k28.1) (cX k28.2.1) (cY k28.2.2) fun g28=>?_
     refine am tk ?_
     refine ac (aP ?_)
     obtain rfl := aD H
     refine iH x28 g28 hg7 Gh.d
    refine ca rfl ?_
    obtain rfl := aD H
    refine aS s7 g7 hg7 Gh.d
   have H := fK hn7 Hp7
   refine ab ?_
   refine fm (γ := Unit) (fun t8 g8=>⟨68,upd (upd (upd (upd (upd (fun _=>.any) 5 (.ptr (bE e))) 4 (.box 1003 b_c3 0)) 3 (.box 1002 b_c2 0)) 2 (.box 1001 b_c1 0)) 1 (.box 1000 b_c0 0),upd (upd (upd (upd (fun _=>none) 1003 (some ⟨b_c3,[(.fn 130 [(.box 1000 b_c0 0),(.box 1001 b_c1 0),(.box 1002 b_c2 0),(.box 1003 b_c3 0)])]⟩)) 1002 (some ⟨b_c2,(List.map ay c2)⟩)) 1001 (some ⟨b_c1,[(ay t8)]⟩)) 1000 (some ⟨b_c0,[(.own 1100 g7 (s7.map aY).length)]⟩),upd (fun _=>none) 1100 (some ⟨g7,3,(s7.map aY),true⟩)⟩) H (fun _ H=>?_) (fun t8 g8 H=>?_)
   ·refine nT (tag := 1100) rfl (fun ho1100=>?_)
    refine bn tk mok ⟨true,true,[32,38,43]⟩ [0,1,2,3,4,5,6,7,8,9,10,11,12,13,14,15,16,17,18] rfl (by decide +kernel) rfl (bI ?_)
    refine bt rfl ?_
    refine lJ H (fun H=>?_) (fun H=>?_)
    ·refine aL 16 rfl (bB ?_)
     refine bf ?_
     refine aS _ () (aD H) Gh.d
    refine aL 2 rfl ?_
    obtain ⟨x33,h33,H⟩ := av H
    have k33 := arrI_some h33
    refine rf rfl rfl rfl rfl rfl rfl rfl rfl rfl k33.1 rfl ?_
    refine rF rfl rfl rfl rfl rfl rfl rfl rfl (by rw [List.getElem?_map,k33.2]; rfl) rfl ?_
    refine bt rfl ?_
    refine lJ H (fun H=>?_) (fun H=>?_)
    ·refine bI ?_
     refine aL 2 rfl ?_
     obtain ⟨x39,k39,H⟩ := bg H
     refine iF tk ⟨k39.1,(fe k39.2)⟩ (eY ho1100 k39.2) ?_
     refine lf tk rfl rfl rfl rfl rfl rfl rfl rfl rfl (aF (fun _=>rfl) k39.2) rfl rfl ?_
     refine aL 6 rfl (bB ?_)
     refine bf ?_
     refine aS _ () (aD H) Gh.d
    refine aL 11 rfl (bB ?_)
    refine bf ?_
    refine aS _ () (aD H) Gh.d
   refine nT (tag := 1100) rfl (fun ho1100=>?_)
   refine bn tk mok ⟨true,false,[49,51,54]⟩ [0,1,2,3,4,5,6,7,8,9,10,11] rfl (by decide +kernel) rfl (bI ?_)
   refine aL 7 rfl ?_
   obtain ⟨x55,k55,H⟩ := bg H
   refine iF tk ⟨k55.1,(fe k55.2)⟩ (eY ho1100 k55.2) ?_
   obtain ⟨y9,hy9,H⟩ := ef H
   refine pF tk rfl rfl rfl rfl rfl rfl rfl rfl rfl (by rw [zl]; exact (zg.1 k55.2).1) (PLe.refl _ _) rfl rfl rfl rfl (by decide) (iL (fun _=>rfl) k55.2 rfl hy9) ?_
   obtain ⟨x56,h56,H⟩ := av H
   have k56 := arrI_some h56
   refine rf rfl rfl rfl rfl rfl rfl rfl rfl rfl k56.1 rfl ?_
   obtain ⟨y10,hy10,H⟩ := ef H
   refine rB rfl rfl rfl rfl rfl rfl rfl rfl rfl rfl (by rw [zl]; exact (zg.1 k56.2).1) (splice_map ay _ _ _ (zg.1 k56.2).1 hy10) ?_
   refine bf ?_
   refine aS _ g7 (aD H) (Gh.le (aQ (aQ (aQ (aQ (aQ bY))))) (be rfl (fG.of2 (fH.cons (lT.of_eq (congrArg (PV.own 1100 g7) (lu (f := aY) hy9))) fH.nil)) (be rfl (fG.r) (be rfl (fG.r) (be rfl (fG.r) bu)))) (dp bv))
  refine ao ?_
  refine aS _ g_c0 (aD H) Gh.d
 refine ab (aa (ae 2 tk rfl (ax tk (zl _) ?_)))
 refine ag tk rfl (ac ?_)
 refine ek (γ := OwnRef) tk 60 59 58 (fun s11 g11=>upd (upd (upd (upd (fun _=>.any) 4 (.box 1003 b_c3 0)) 3 (.box 1002 b_c2 0)) 2 (.box 1001 b_c1 0)) 1 (.box 1000 b_c0 0)) (fun s11 g11=>upd (upd (upd (upd (fun _=>none) 1003 (some ⟨b_c3,[(.fn 130 [(.box 1000 b_c0 0),(.box 1001 b_c1 0),(.box 1002 b_c2 0),(.box 1003 b_c3 0)])]⟩)) 1002 (some ⟨b_c2,(List.map ay s11.2.2)⟩)) 1001 (some ⟨b_c1,[(ay s11.2.1)]⟩)) 1000 (some ⟨b_c0,[(.own 1100 g11 (s11.1.map aY).length)]⟩)) (fun s11 g11=>upd (fun _=>none) 1100 (some ⟨g11,3,(s11.1.map aY),true⟩)) g6 H (fun fl11 Hp11 j11 s11 g11 hz11 hl11 x11 fb11 hx11 H hg11=>?_) (fun s11 g11 H=>?_)
 ·refine ab (az (ab (aa (aN tk (zn j11) (bd bj hx11) ?_))))
  refine ag tk rfl ?_
  refine aM tk fun b7=>?_
  refine am tk ?_
  refine ac (aa (aq tk ?_))
  refine aq tk ?_
  obtain ⟨x66,h66,H⟩ := av H
  have s66 := hrec130 b_c0 g11 b_c1 b_c2 b_c3 x11 s11.1 s11.2.1 s11.2.2 _ h66
  refine gL (st' := ⟨_,_,upd (upd (upd (upd (upd (fun _=>none) 1003 (some ⟨b_c3,[(.fn 130 [(.box 1000 b_c0 0),(.box 1001 b_c1 0),(.box 1002 b_c2 0),(.box 1003 b_c3 0)])]⟩)) 1002 (some ⟨b_c2,(List.map ay s11.2.2)⟩)) 1001 (some ⟨b_c1,[(ay s11.2.1)]⟩)) 1000 (some ⟨b_c0,[(.own 1100 g11 (s11.1.map aY).length)]⟩)) 7 (some ⟨b7,(bE x11)⟩),upd (fun _=>none) 1100 (some ⟨g11,3,(s11.1.map aY),true⟩)⟩) (Gh.le (gC _ _) (be rfl (fG.r) (be rfl (fG.of2 (fH.cons (lT.own rfl) fH.nil)) (be rfl (fG.r) (be rfl (fG.r) (be rfl (fG.of2 (fH.cons (lT.fn (fH.cons lT.boxT (fH.cons lT.boxT (fH.cons lT.boxT (fH.cons lT.boxT fH.nil))))) fH.nil)) bu))))) (dp bv)) ?_
  refine jl (g := 130) rfl rfl rfl Tryz.call130 [(1000,1000),(1001,1001),(1002,1002),(1003,1003)] [(1100,1100)] rfl rfl rfl rfl (fG.of2 (fH.cons (lT.of_eq rfl) (fH.cons lT.boxT (fH.cons lT.boxT (fH.cons lT.boxT (fH.cons lT.boxT fH.nil)))))) (by rw [eI,eI,eI,eI,iA,gZ,iB]; rfl) s66 ?_
  rintro u66 H66h ⟨gz66_0,rfl,rfl⟩
  refine ⟨_,rfl,?_⟩
  refine gL (st' := ⟨_,_,upd (upd (upd (upd (upd (fun _=>none) 1003 (some ⟨b_c3,[(.fn 130 [(.box 1000 b_c0 0),(.box 1001 b_c1 0),(.box 1002 b_c2 0),(.box 1003 b_c3 0)])]⟩)) 1002 (some ⟨b_c2,(List.map ay x66.2.2)⟩)) 1001 (some ⟨b_c1,[(ay x66.2.1)]⟩)) 1000 (some ⟨b_c0,[(.own 1100 gz66_0 (x66.1.map aY).length)]⟩)) 7 (some ⟨b7,(bE x11)⟩),upd (fun _=>none) 1100 (some ⟨gz66_0,3,(x66.1.map aY),true⟩)⟩) (Gh.le (gC _ _) (be rfl (fG.r) (be rfl (fG.of2 (fH.cons (lT.own rfl) fH.nil)) (be rfl (fG.r) (be rfl (fG.r) (be rfl (fG.of2 (fH.cons (lT.fn (fH.cons lT.boxT (fH.cons lT.boxT (fH.cons lT.boxT (fH.cons lT.boxT fH.nil))))) fH.nil)) bu))))) (dp bv)) ?_
  refine ac (aP (bl 2 tk rfl ?_))
  exact bi gz66_0 H hl11 hg11
 obtain rfl := aD H
 refine jU (st' := ⟨68,fun _=>.any,upd (upd (upd (upd (fun _=>none) 1003 (some ⟨b_c3,[(.fn 130 [(.box 1000 b_c0 0),(.box 1001 b_c1 0),(.box 1002 b_c2 0),(.box 1003 b_c3 0)])]⟩)) 1002 (some ⟨b_c2,(List.map ay s11.2.2)⟩)) 1001 (some ⟨b_c1,[(ay s11.2.1)]⟩)) 1000 (some ⟨b_c0,[(.own 1100 g11 (s11.1.map aY).length)]⟩),upd (fun _=>none) 1100 (some ⟨g11,3,(s11.1.map aY),true⟩)⟩) (Gh.le bY (be rfl (fG.of2 (fH.cons (lT.own rfl) fH.nil)) (be rfl (fG.r) (be rfl (fG.r) (be rfl (fG.r) bu)))) (dp bv)) ?_
 refine V.endH rfl (PLe.q rfl) ⟨_,rfl,rfl⟩
def ct : Nat → LExpr → (List Int) → Bool → (List Bool) → Option ((List Int) × Bool × (List Bool))
 | 0,_,_,_,_=>none
 | n + 1,v0,v1,v2,v3=>fo (fun b0 b1 b2 b3=>ct n b0 b1 b2 b3) v0 v1 v2 v3
theorem mh  (n : Nat) : (∀ bq0 gq0 bq1 bq2 bq3 a0 a1 a2 a3 r,ct n a0 a1 a2 a3 = some r → PH Tryz.prog 130 [(.agg (bE a0)),(.box 1000 bq0 0),(.box 1001 bq1 0),(.box 1002 bq2 0),(.box 1003 bq3 0)] ⟨upd (upd (upd (upd (fun _=>none) 1003 (some ⟨bq3,[(.fn 130 [(.box 1000 bq0 0),(.box 1001 bq1 0),(.box 1002 bq2 0),(.box 1003 bq3 0)])]⟩)) 1002 (some ⟨bq2,(List.map ay a3)⟩)) 1001 (some ⟨bq1,[(ay a2)]⟩)) 1000 (some ⟨bq0,[(.own 1100 gq0 (a1.map aY).length)]⟩),upd (fun _=>none) 1100 (some ⟨gq0,3,(a1.map aY),true⟩)⟩ (fun u H=>∃ gz0,u = (.tup []) ∧ H = ⟨upd (upd (upd (upd (fun _=>none) 1003 (some ⟨bq3,[(.fn 130 [(.box 1000 bq0 0),(.box 1001 bq1 0),(.box 1002 bq2 0),(.box 1003 bq3 0)])]⟩)) 1002 (some ⟨bq2,(List.map ay r.2.2)⟩)) 1001 (some ⟨bq1,[(ay r.2.1)]⟩)) 1000 (some ⟨bq0,[(.own 1100 gz0 (r.1.map aY).length)]⟩),upd (fun _=>none) 1100 (some ⟨gz0,3,(r.1.map aY),true⟩)⟩)) := by
 induction n with
 | zero=>exact (by intros; rename_i h; exact absurd (show (none : Option _) = some _ from h) (by simp))
 | succ n ih =>
  exact (fun bq0 gq0 bq1 bq2 bq3 v0 v1 v2 v3 r h=>mp bq0 gq0 bq1 bq2 bq3 (fun b0 b1 b2 b3=>ct n b0 b1 b2 b3) ih v0 v1 v2 v3  r h)
def dV (e : LExpr) (c0 : List Int) (c1 : Bool) (c2 : List Bool) : Option ((List Int) × Bool × (List Bool)) := eH fun n=>ct n e c0 c1 c2
theorem jn (b_c0 : Nat) (g_c0 : OwnRef) (b_c1 : Nat) (b_c2 : Nat) (b_c3 : Nat) (e : LExpr) (c0 : List Int) (c1 : Bool) (c2 : List Bool) (r : (List Int) × Bool × (List Bool)) (H : dV e c0 c1 c2 = some r) :
  PH Tryz.prog 130 [(.agg (bE e)),(.box 1000 b_c0 0),(.box 1001 b_c1 0),(.box 1002 b_c2 0),(.box 1003 b_c3 0)] ⟨upd (upd (upd (upd (fun _=>none) 1003 (some ⟨b_c3,[(.fn 130 [(.box 1000 b_c0 0),(.box 1001 b_c1 0),(.box 1002 b_c2 0),(.box 1003 b_c3 0)])]⟩)) 1002 (some ⟨b_c2,(List.map ay c2)⟩)) 1001 (some ⟨b_c1,[(ay c1)]⟩)) 1000 (some ⟨b_c0,[(.own 1100 g_c0 (c0.map aY).length)]⟩),upd (fun _=>none) 1100 (some ⟨g_c0,3,(c0.map aY),true⟩)⟩ (fun u H=>∃ gz0,u = (.tup []) ∧ H = ⟨upd (upd (upd (upd (fun _=>none) 1003 (some ⟨b_c3,[(.fn 130 [(.box 1000 b_c0 0),(.box 1001 b_c1 0),(.box 1002 b_c2 0),(.box 1003 b_c3 0)])]⟩)) 1002 (some ⟨b_c2,(List.map ay r.2.2)⟩)) 1001 (some ⟨b_c1,[(ay r.2.1)]⟩)) 1000 (some ⟨b_c0,[(.own 1100 gz0 (r.1.map aY).length)]⟩),upd (fun _=>none) 1100 (some ⟨gz0,3,(r.1.map aY),true⟩)⟩) := by
 obtain ⟨n,h⟩ := dU H
 exact (mh  n) b_c0 g_c0 b_c1 b_c2 b_c3 e c0 c1 c2 r h
def fC (sA : List Int) (v : Int) : Option (Int) :=
 af (aC (σ := Unit) (ρ := (Int)) (fun (j1 : Nat) (x1 : Int) (_ : Unit) =>
  cond (v == x1)
   (some (.ret (j1 : Int)))
   (some (.next ()))) 0 sA ()) fun fl1=>fl1.thenR fun (_ : Unit) =>
 some (-1)
theorem nc (sA : List Int) (v : Int) (r : Int) (H : fC sA v = some r) :
  aJ Tryz.prog 190 [(.list 3 (sA.map aY)),(ah v)] (ah r) := by
 unfold fC at H
 refine PH.ap Tryz.func190 Tryz.ntmps190 ?_
 refine al 1 tk rfl (ab (ab (aa (ag tk rfl (ax tk (zl _) ?_)))))
 refine ag tk rfl (ac ?_)
 refine dY tk 8 7 0 (fun s1 g1=>upd (fun _=>.any) 1 (ah v)) nB nO () H (fun fl1 Hp1 j1 s1 g1 hz1 hl1 x1 fb1 hx1 H hg1=>?_) (fun s1 g1 H=>?_)
 ·refine ab (az (al 2 tk rfl (ab (aa (ae 3 tk rfl ?_)))))
  refine aN tk (zn j1) (bd (fun _=>rfl) hx1) ?_
  refine ae 2 tk rfl (ac ?_)
  refine aK rfl H (fun H=>?_) (fun H=>?_)
  ·refine al 2 tk rfl ?_
   obtain rfl := aD H
   have e1 : fl1 = .ret _ := hg1
   subst e1
   obtain rfl := aU Hp1
   refine bc tk rfl (ps := [(ah (j1 : Int))]) ⟨_,_,rfl,rfl,rfl⟩ (PLe.q rfl)
  refine ao (aP (bl 2 tk rfl ?_))
  exact bi () H hl1 hg1
 refine al 1 tk rfl ?_
 exact aV tk H rfl
def dg (t : LTable) (c0 : LQuery) : Bool :=
 (t.name == c0.table)
theorem og (t : LTable) (c0 : LQuery) :
  aJ Tryz.prog 165 [(.agg (bS t)),(.ptr (aw c0))] (ay (dg t c0)) := by
 obtain ⟨r,H⟩ : ∃ r,dg t c0 = r := ⟨_,rfl⟩
 rw [H]
 unfold dg at H
 refine PH.ap Tryz.func165 Tryz.ntmps165 ?_
 refine ab (aa (aB ?_))
 refine ag tk rfl (ac (al 6 tk rfl ?_))
 exact cE tk H rfl
theorem pu {m : Nat} (xs : List LCol) : dP Tryz.prog 150 [.list 58 (xs.map aT)] (iY m 58 (xs.map aT)) := by
 refine PH.ap Tryz.func150 Tryz.ntmps150 ?_
 refine gv tk 0 rfl rfl (fun hz hb=>?_)
 refine al 1 tk rfl (ab (ab (aa (ag tk rfl ?_))))
 refine qG tk rfl rfl rfl rfl rfl rfl rfl (fun b hn=>?_)
 refine ac ?_
 refine co rfl (fun h=>?_) (fun h=>?_)
 ·refine al 1 tk rfl (iO tk 2 902 (e := 58) rfl rfl ?_)
  refine gT tk (hn h).symm
 ·refine ao (ab (aa ?_))
  refine mA (rows' := []) tk rfl rfl rfl rfl rfl rfl rfl rfl rfl (fH.refl _) fun g=>?_
  refine ag tk rfl ?_
  refine cy (rows2' := xs.map aT) (rows' := xs.map aT) tk rfl rfl rfl rfl rfl rfl rfl rfl rfl rfl rfl rfl rfl (dS.refl _) (by simpa using hb) (by simpa using hz) rfl fun g'=>?_
  refine ag tk rfl (ac ?_)
  refine gT tk rfl
def cw (sA : List (List UInt8)) (v : List UInt8) : Option (Int) :=
 af (aC (σ := Unit) (ρ := (Int)) (fun (j1 : Nat) (x1 : List UInt8) (_ : Unit) =>
  cond (v == x1)
   (some (.ret (j1 : Int)))
   (some (.next ()))) 0 sA ()) fun fl1=>fl1.thenR fun (_ : Unit) =>
 some (-1)
theorem ii (sA : List (List UInt8)) (v : List UInt8) (r : Int) (H : cw sA v = some r) :
  aJ Tryz.prog 97 [(.list 9 (sA.map bm)),(.str v)] (ah r) := by
 unfold cw at H
 refine PH.ap Tryz.func97 Tryz.ntmps97 ?_
 refine al 1 tk rfl (ab (ab (aa (ag tk rfl (ax tk (zl _) ?_)))))
 refine ag tk rfl (ac ?_)
 refine dY tk 8 7 0 (fun s1 g1=>upd (fun _=>.any) 1 (.str v)) nB nO () H (fun fl1 Hp1 j1 s1 g1 hz1 hl1 x1 fb1 hx1 H hg1=>?_) (fun s1 g1 H=>?_)
 ·refine ab (az (al 2 tk rfl (ab (aa (ae 3 tk rfl ?_)))))
  refine aN tk (zn j1) (bd (fun _=>rfl) hx1) ?_
  refine ae 2 tk rfl (ac ?_)
  refine aK rfl H (fun H=>?_) (fun H=>?_)
  ·refine al 2 tk rfl ?_
   obtain rfl := aD H
   have e1 : fl1 = .ret _ := hg1
   subst e1
   obtain rfl := aU Hp1
   refine bc tk rfl (ps := [(ah (j1 : Int))]) ⟨_,_,rfl,rfl,rfl⟩ (PLe.q rfl)
  refine ao (aP (bl 2 tk rfl ?_))
  exact bi () H hl1 hg1
 refine al 1 tk rfl ?_
 exact aV tk H rfl
def cG (sA : List (List UInt8)) (v : List UInt8) : Option (Int × (List (List UInt8))) :=
 af (nZ (sA.length : Int)) fun (n1 : Nat) =>
 af (aC (σ := List (List UInt8)) (ρ := (Int × (List (List UInt8)))) (fun (j1 : Nat) (_ : Nat) (s1 : List (List UInt8)) =>
  af (aH s1 (j1 : Int)) fun (x14 : List UInt8) =>
  cond (v == x14)
   (some (.ret ((j1 : Int),s1)))
   (some (.next s1))) 0 (List.range n1) sA) fun fl1=>fl1.thenR fun (s1 : List (List UInt8)) =>
 some ((-1),s1)
theorem km (g_sA : OwnRef) (sA : List (List UInt8)) (v : List UInt8) (r : Int × (List (List UInt8))) (H : cG sA v = some r) :
  PH Tryz.prog 97 [(.own 0 g_sA (sA.map bm).length),(.str v)] ⟨fun _=>none,upd (fun _=>none) 0 (some ⟨g_sA,9,(sA.map bm),true⟩)⟩ (fun u H=>u = (ah r.1) ∧ H = ⟨fun _=>none,upd (fun _=>none) 0 (some ⟨g_sA,9,(r.2.map bm),true⟩)⟩) := by
 unfold cG at H
 refine PH.ap Tryz.func97 Tryz.ntmps97 ?_
 refine al 1 tk rfl (ab (ab (aa (ag tk rfl (hZ tk (zl _) ?_)))))
 refine ag tk rfl (ac ?_)
 obtain ⟨n1,hs1,H⟩ := av H
 have hz1 := qx hs1
 obtain ⟨fl1,H1,Hp1⟩ := av H
 refine ik (τ := List (List UInt8)) (γ := Unit) (fun s1 g1=>⟨19,upd (fun _=>.any) 0 (.own 0 g_sA (s1.map bm).length),fun _=>none,upd (fun _=>none) 0 (some ⟨g_sA,9,(s1.map bm),true⟩)⟩) (fun t=>fl1 = .next t) ?_ (fun s1 g1 hn1=>?_)
 ·refine az ?_
  refine jo (fun j1 s1 g1=>⟨19,upd (upd (upd (upd (fun _=>.any) 8 (ah (j1 : Int))) 7 (ah (sA.length : Int))) 1 (.str v)) 0 (.own 0 g_sA (s1.map bm).length),fun _=>none,upd (fun _=>none) 0 (some ⟨g_sA,9,(s1.map bm),true⟩)⟩) () H1 Gh.d (fun j1 s1 g1 hj1 hr1=>?_)
  refine al 1 tk rfl (ab ?_)
  refine co rfl (fun h=>?_) (fun h=>?_)
  ·have hl1 := natLt hz1 h
   obtain ⟨x1,fb1,hx1,H,hg1⟩ := rMc hl1 hr1
   obtain rfl := natX hx1
   refine ao (ab (az (al 2 tk rfl (ab (aa (ae 3 tk rfl ?_))))))
   obtain ⟨x14,k14,H⟩ := bg H
   refine iU (tag := 0) rfl (fun ho0=>?_)
   refine ib tk ⟨k14.1,(fe k14.2)⟩ (eY ho0 k14.2) ?_
   refine lm tk rfl rfl rfl rfl rfl rfl rfl (aF (fun _=>rfl) k14.2) rfl rfl ?_
   refine ag tk rfl (ac ?_)
   refine aK rfl H (fun H=>?_) (fun H=>?_)
   ·refine al 2 tk rfl ?_
    obtain rfl := aD H
    have e1 : fl1 = .ret _ := hg1
    subst e1
    obtain rfl := aU Hp1
    refine jU (st' := ⟨19,upd (fun _=>.any) 4 (ah (j1 : Int)),fun _=>none,upd (fun _=>none) 0 (some ⟨g_sA,9,(s1.map bm),true⟩)⟩) (Gh.le (aQ bY) bu (dp bv)) ?_
    refine oj tk rfl (ps := [(ah (j1 : Int))]) ⟨_,_,rfl,rfl,rfl⟩ (PLe.q rfl) ⟨rfl,rfl⟩
   refine ao (aP (bl 2 tk rfl ?_))
   exact bi () H hl1 hg1 (Gh.le (aQ (aQ (aQ (cm (PLe.q (pint_succN hz1 hl1)) bY)))) bu (dp bv))
  have hn1 := rMd (natGe hz1 h) hr1
  refine ca rfl ?_
  refine aS s1 g1 hn1 Gh.d
 have H := oD hn1 Hp1
 refine al 1 tk rfl ?_
 obtain rfl := aD H
 refine jU (st' := ⟨19,upd (fun _=>.any) 4 (ah (-1)),fun _=>none,upd (fun _=>none) 0 (some ⟨g_sA,9,(s1.map bm),true⟩)⟩) (Gh.le (aQ bY) bu (dp bv)) ?_
 refine oj tk rfl (ps := [(ah (-1))]) ⟨_,_,rfl,rfl,rfl⟩ (PLe.q rfl) ⟨rfl,rfl⟩
def bM (y : LCol) (c0 : LCol) : Bool :=
 (y.name == c0.name)
theorem md (y : LCol) (c0 : LCol) :
  aJ Tryz.prog 134 [(.agg (aT y)),(.ptr (aT c0))] (ay (bM y c0)) := by
 obtain ⟨r,H⟩ : ∃ r,bM y c0 = r := ⟨_,rfl⟩
 rw [H]
 unfold bM at H
 refine PH.ap Tryz.func134 Tryz.ntmps134 ?_
 refine ab (aa (aB ?_))
 refine ag tk rfl (ac (al 6 tk rfl ?_))
 exact cE tk H rfl
def bA (sA : List LCardinalityTableSize) (f : LCardinalityTableSize → Option (Bool)) : Option (Int) :=
 af (aC (σ := Unit) (ρ := (Int)) (fun (j1 : Nat) (x1 : LCardinalityTableSize) (_ : Unit) =>
  af (f x1) fun x16 =>
  cond x16
   (some (.ret (j1 : Int)))
   (some (.next ()))) 0 sA ()) fun fl1=>fl1.thenR fun (_ : Unit) =>
 some (-1)
theorem eR {g_f : FuncId} {caps_f : List PV} (sA : List LCardinalityTableSize) (f : LCardinalityTableSize → Option (Bool)) (hg_f : ∀ (vs : Array Value) (w : World),(callFunc g_f vs).run Tryz.prog w = .ok (.enter g_f vs) w) (hp_f : ∀ a0 r,f a0 = some r → aJ Tryz.prog g_f ((.agg (aX a0)) :: caps_f) (ay r)) (r : Int) (H : bA sA f = some r) :
  aJ Tryz.prog 19 [(.list 40 (sA.map aX)),(.fn g_f caps_f)] (ah r) := by
 unfold bA at H
 refine PH.ap Tryz.func19 Tryz.ntmps19 ?_
 refine al 1 tk rfl (ab (ab (aa (ag tk rfl (ax tk (zl _) ?_)))))
 refine ag tk rfl (ac ?_)
 refine dY tk 8 7 0 (fun s1 g1=>upd (fun _=>.any) 1 (.fn g_f caps_f)) nB nO () H (fun fl1 Hp1 j1 s1 g1 hz1 hl1 x1 fb1 hx1 H hg1=>?_) (fun s1 g1 H=>?_)
 ·refine ab (az (al 2 tk rfl (ab (aa (ae 3 tk rfl ?_)))))
  refine aN tk (zn j1) (bd (fun _=>rfl) hx1) ?_
  refine ag tk rfl ?_
  obtain ⟨x16,h16,H⟩ := av H
  refine ak hg_f (fG.r) (hp_f _ _ h16) ?_
  refine ac ?_
  refine aK rfl H (fun H=>?_) (fun H=>?_)
  ·refine al 2 tk rfl ?_
   obtain rfl := aD H
   have e1 : fl1 = .ret _ := hg1
   subst e1
   obtain rfl := aU Hp1
   refine bc tk rfl (ps := [(ah (j1 : Int))]) ⟨_,_,rfl,rfl,rfl⟩ (PLe.q rfl)
  refine ao (aP (bl 2 tk rfl ?_))
  exact bi () H hl1 hg1
 refine al 1 tk rfl ?_
 exact aV tk H rfl
def bJ (x : LCardinalityTableSize) : Bool :=
 cond (decide (x.rows < (0 : Int)))
  (true)
  ((decide (x.rows > (1000 : Int))))
theorem jx (x : LCardinalityTableSize) :
  aJ Tryz.prog 7 [(.agg (aX x))] (ay (bJ x)) := by
 obtain ⟨r,H⟩ : ∃ r,bJ x = r := ⟨_,rfl⟩
 rw [H]
 unfold bJ at H
 refine PH.ap Tryz.func7 Tryz.ntmps7 ?_
 refine ab (aa (aB ?_))
 refine ag tk rfl (ac (ab (aa (ae 4 tk rfl ?_))))
 refine aR rfl rfl rfl H (fun H=>?_) (fun H=>?_)
 ·refine ae 5 tk rfl (ac ?_)
  exact cE tk H rfl
 refine ae 5 tk rfl (ac ?_)
 exact cE tk H rfl
theorem clone_88 {m : Nat} (xs : List (List UInt8)) : dP Tryz.prog 88 [.list 9 (xs.map bm)] (iY m 9 (xs.map bm)) := by
 refine PH.ap Tryz.func88 Tryz.ntmps88 ?_
 refine gv tk 0 rfl rfl (fun hz hb=>?_)
 refine al 1 tk rfl (ab (ab (aa (ag tk rfl ?_))))
 refine qG tk rfl rfl rfl rfl rfl rfl rfl (fun b hn=>?_)
 refine ac ?_
 refine co rfl (fun h=>?_) (fun h=>?_)
 ·refine al 1 tk rfl (iO tk 2 902 (e := 9) rfl rfl ?_)
  refine gT tk (hn h).symm
 ·refine ao (ab (aa ?_))
  refine mA (rows' := []) tk rfl rfl rfl rfl rfl rfl rfl rfl rfl (fH.refl _) fun g=>?_
  refine ag tk rfl ?_
  refine cy (rows2' := xs.map bm) (rows' := xs.map bm) tk rfl rfl rfl rfl rfl rfl rfl rfl rfl rfl rfl rfl rfl (dS.refl _) (by simpa using hb) (by simpa using hz) rfl fun g'=>?_
  refine ag tk rfl (ac ?_)
  refine gT tk rfl
theorem clone_89 {m : Nat} (xs : List Bool) : dP Tryz.prog 89 [.list 4 (xs.map jb)] (iY m 4 (xs.map jb)) := by
 refine PH.ap Tryz.func89 Tryz.ntmps89 ?_
 refine gv tk 0 rfl rfl (fun hz hb=>?_)
 refine al 1 tk rfl (ab (ab (aa (ag tk rfl ?_))))
 refine qG tk rfl rfl rfl rfl rfl rfl rfl (fun b hn=>?_)
 refine ac ?_
 refine co rfl (fun h=>?_) (fun h=>?_)
 ·refine al 1 tk rfl (iO tk 2 902 (e := 4) rfl rfl ?_)
  refine gT tk (hn h).symm
 ·refine ao (ab (aa ?_))
  refine mA (rows' := []) tk rfl rfl rfl rfl rfl rfl rfl rfl rfl (fH.refl _) fun g=>?_
  refine ag tk rfl ?_
  refine cy (rows2' := xs.map jb) (rows' := xs.map jb) tk rfl rfl rfl rfl rfl rfl rfl rfl rfl rfl rfl rfl rfl (dS.refl _) (by simpa using hb) (by simpa using hz) rfl fun g'=>?_
  refine ag tk rfl (ac ?_)
  refine gT tk rfl
theorem grow_92 {m : Nat} {u : Unit} (n : Int) (h : growI 88 n = some u) : dP Tryz.prog 92 [.val (.slice none 0 0),ah n] (iY m 92 []) := by
 have hn := growI_some h
 have hw : IntKind.i64.wrap (n - IntKind.i64.wrap ((0 : Int) - 0)) = n := by
  have e0 : IntKind.i64.wrap ((0 : Int) - 0) = 0 := bT (by omega) (by omega)
  rw [e0,Int.sub_zero,bT (by omega) (by unfold maxLen at hn; omega)]
 refine PH.ap Tryz.func92 Tryz.ntmps92 ?_
 refine al 1 tk rfl (ab (al 2 tk rfl ?_))
 refine co rfl (fun h=>?_) (fun h=>?_)
 ·exfalso; have := of_decide_eq_true h; omega
 refine ao (ab (ab (aa (ae 2 tk rfl (rg tk rfl rfl rfl rfl rfl rfl (ae 4 tk rfl (nQ 14 (q := ah n) rfl (PLe.q (congrArg ah hw)) (ag tk rfl (ac (al 2 tk rfl ?_))))))))))
 refine co rfl (fun h=>?_) (fun h=>?_)
 ·refine aa (ae 2 tk rfl (rg tk rfl rfl rfl rfl rfl rfl (Ao.subN tk rfl rfl rfl rfl rfl rfl rfl rfl (ag tk rfl ?_))))
  refine qV tk rfl rfl rfl rfl rfl rfl rfl rfl rfl rfl rfl rfl rfl rfl rfl (of_decide_eq_true h) hn.2.1 hn.2.2 fun g=>?_
  refine ae 2 tk rfl (Ao.cutO tk rfl rfl rfl rfl rfl rfl rfl rfl rfl ⟨Int.le_refl 0,Nat.zero_le _⟩ rfl rfl rfl (ag tk rfl (ac (al 2 tk rfl ?_))))
  refine gT tk rfl
 ·refine ao (al 2 tk rfl (iO tk 4 904 (e := 92) rfl rfl ?_))
  refine gT tk rfl
def gP (inA : LCardinalityBounds) (e : LExpr) : LCardinalityBounds :=
 cond (e.kind == (1 : Int))
  (bL (nW e.value) fun x10 =>
  cond x10
   (inA)
   ((LCardinalityBounds.mk 0 0)))
  ((LCardinalityBounds.mk 0 inA.high))
theorem pt (inA : LCardinalityBounds) (e : LExpr) :
  aJ Tryz.prog 53 [(.agg (br inA)),(.agg (bE e))] (.agg (br (gP inA e))) := by
 obtain ⟨r,H⟩ : ∃ r,gP inA e = r := ⟨_,rfl⟩
 rw [H]
 unfold gP at H
 refine PH.ap Tryz.func53 Tryz.ntmps53 ?_
 refine ab (aa (aB ?_))
 refine aB ?_
 refine aM tk fun b4=>?_
 refine ac (ab (al 3 tk rfl ?_))
 refine aK rfl H (fun H=>?_) (fun H=>?_)
 ·refine ab (ab (aa (ae 2 tk rfl ?_)))
  obtain ⟨x10,h10,H⟩ := ef H
  have s10 := isTS e.value
  rw [h10] at s10
  refine ak Tryz.call93 (fG.r) s10 ?_
  refine ac ?_
  refine aK rfl H (fun H=>?_) (fun H=>?_)
  ·refine ab (aa (ag tk rfl (am tk ?_)))
   refine ac ?_
   exact qX tk H rfl rfl rfl rfl rfl
  refine ao (ab (aa (ag tk rfl (am tk ?_))))
  refine ac ?_
  exact qX tk H rfl rfl rfl rfl rfl
 refine ao (ab (aa (ae 3 tk rfl (am tk ?_))))
 refine ac ?_
 exact qX tk H rfl rfl rfl rfl rfl
def dE (sA : List UInt8) (c0 : LTable) : Option (Bool) :=
 af (aC (σ := Unit) (ρ := (Bool)) (fun (_ : Nat) (x1 : LCol) (_ : Unit) =>
  cond (x1.name == sA)
   (some (.ret true))
   (some (.next ()))) 0 c0.columns ()) fun fl1=>fl1.thenR fun (_ : Unit) =>
 some false
theorem lX (sA : List UInt8) (c0 : LTable) (r : Bool) (H : dE sA c0 = some r) :
  aJ Tryz.prog 170 [(.str sA),(.ptr (bS c0))] (ay r) := by
 unfold dE at H
 refine PH.ap Tryz.func170 Tryz.ntmps170 ?_
 refine al 1 tk rfl (ab (ab (aa (ae 2 tk rfl (ax tk (zl _) ?_)))))
 refine ag tk rfl (ac ?_)
 refine dY tk 9 8 7 (fun s1 g1=>upd (fun _=>.any) 0 (.str sA)) nB nO () H (fun fl1 Hp1 j1 s1 g1 hz1 hl1 x1 fb1 hx1 H hg1=>?_) (fun s1 g1 H=>?_)
 ·refine ab (az (ab (aa ?_)))
  refine aN tk (zn j1) (bd (fun _=>rfl) hx1) ?_
  refine ag tk rfl ?_
  refine aM tk fun b5=>?_
  refine am tk ?_
  refine ac (ab (aa (ag tk rfl (aq tk ?_))))
  refine ae 2 tk rfl (ac ?_)
  refine aK rfl H (fun H=>?_) (fun H=>?_)
  ·refine al 1 tk rfl ?_
   obtain rfl := aD H
   have e1 : fl1 = .ret _ := hg1
   subst e1
   obtain rfl := aU Hp1
   refine bc tk rfl (ps := [(ay true)]) ⟨_,_,rfl,rfl,rfl⟩ (PLe.q rfl)
  refine ao (aP (bl 2 tk rfl ?_))
  exact bi () H hl1 hg1
 refine al 1 tk rfl ?_
 exact aV tk H rfl
def dr (sA : List (List UInt8)) (f : (List UInt8) → Option (Bool)) : Option (Int) :=
 af (aC (σ := Unit) (ρ := (Int)) (fun (j1 : Nat) (x1 : List UInt8) (_ : Unit) =>
  af (f x1) fun x16 =>
  cond x16
   (some (.ret (j1 : Int)))
   (some (.next ()))) 0 sA ()) fun fl1=>fl1.thenR fun (_ : Unit) =>
 some (-1)
theorem jF {g_f : FuncId} {caps_f : List PV} (sA : List (List UInt8)) (f : (List UInt8) → Option (Bool)) (hg_f : ∀ (vs : Array Value) (w : World),(callFunc g_f vs).run Tryz.prog w = .ok (.enter g_f vs) w) (hp_f : ∀ a0 r,f a0 = some r → aJ Tryz.prog g_f ((.str a0) :: caps_f) (ay r)) (r : Int) (H : dr sA f = some r) :
  aJ Tryz.prog 95 [(.list 9 (sA.map bm)),(.fn g_f caps_f)] (ah r) := by
 unfold dr at H
 refine PH.ap Tryz.func95 Tryz.ntmps95 ?_
 refine al 1 tk rfl (ab (ab (aa (ag tk rfl (ax tk (zl _) ?_)))))
 refine ag tk rfl (ac ?_)
 refine dY tk 8 7 0 (fun s1 g1=>upd (fun _=>.any) 1 (.fn g_f caps_f)) nB nO () H (fun fl1 Hp1 j1 s1 g1 hz1 hl1 x1 fb1 hx1 H hg1=>?_) (fun s1 g1 H=>?_)
 ·refine ab (az (al 2 tk rfl (ab (aa (ae 3 tk rfl ?_)))))
  refine aN tk (zn j1) (bd (fun _=>rfl) hx1) ?_
  refine ag tk rfl ?_
  obtain ⟨x16,h16,H⟩ := av H
  refine ak hg_f (fG.r) (hp_f _ _ h16) ?_
  refine ac ?_
  refine aK rfl H (fun H=>?_) (fun H=>?_)
  ·refine al 2 tk rfl ?_
   obtain rfl := aD H
   have e1 : fl1 = .ret _ := hg1
   subst e1
   obtain rfl := aU Hp1
   refine bc tk rfl (ps := [(ah (j1 : Int))]) ⟨_,_,rfl,rfl,rfl⟩ (PLe.q rfl)
  refine ao (aP (bl 2 tk rfl ?_))
  exact bi () H hl1 hg1
 refine al 1 tk rfl ?_
 exact aV tk H rfl
def bK (gA : LJoinorderGraph) : Option (Int) :=
 bL (
  cond (decide ((gA.sizes.length : Int) < (1 : Int)))
   (true)
   (cond (decide ((gA.sizes.length : Int) > (8 : Int)))
    (true)
    ((decide ((gA.selectivities.length : Int) > (40 : Int)))))) fun (t1 : Bool) =>
 cond t1
  (some 2)
  (af (aC (σ := Unit) (ρ := (Int)) (fun (_ : Nat) (x2 : Int) (_ : Unit) =>
   cond (decide (x2 < (0 : Int)))
    (some (.ret 1))
    (cond (decide (x2 > (1073741824 : Int)))
     (some (.ret 1))
     (some (.next ())))) 0 gA.sizes ()) fun fl2=>fl2.thenR fun (_ : Unit) =>
  af (aC (σ := Unit) (ρ := (Int)) (fun (_ : Nat) (x3 : LJoinorderSelectivity) (_ : Unit) =>
   cond (decide (x3.a < (0 : Int)))
    (some (.ret 1))
    (cond (decide (x3.a ≥ x3.b))
     (some (.ret 1))
     (cond (decide (x3.b ≥ (gA.sizes.length : Int)))
      (some (.ret 1))
      (cond (decide (x3.divisor < (1 : Int)))
       (some (.ret 1))
       (cond (decide (x3.divisor > (1073741824 : Int)))
        (some (.ret 1))
        (some (.next ()))))))) 0 gA.selectivities ()) fun fl3=>fl3.thenR fun (_ : Unit) =>
  some 0)
theorem iI (gA : LJoinorderGraph) (r : Int) (H : bK gA = some r) :
  aJ Tryz.prog 24 [(.agg (ba gA))] (ah r) := by
 unfold bK at H
 refine PH.ap Tryz.func24 Tryz.ntmps24 ?_
 refine ab (aa (aB ?_))
 refine ag tk rfl (ac (ab (ab ?_)))
 refine eF (γ := Unit) (fun t1 g1=>⟨73,upd (upd (fun _=>.any) 22 (ay t1)) 1 (.ptr (ba gA)),fun _=>none,fun _=>none⟩) H (fun _ H=>?_) (fun t1 g1 H=>?_)
 ·refine aa (ae 2 tk rfl (ax tk (zl _) ?_))
  refine ae 2 tk rfl ?_
  refine aR rfl rfl rfl H (fun H=>?_) (fun H=>?_)
  ·refine ae 11 tk rfl (ac ?_)
   refine aS _ () H Gh.d
  refine ae 2 tk rfl (ax tk (zl _) ?_)
  refine ae 3 tk rfl ?_
  refine aR rfl rfl rfl H (fun H=>?_) (fun H=>?_)
  ·refine ae 5 tk rfl (ac ?_)
   refine aS _ () H Gh.d
  refine ae 2 tk rfl (ax tk (zl _) ?_)
  refine ae 2 tk rfl (ac ?_)
  refine aS _ () H Gh.d
 refine aK rfl H (fun H=>?_) (fun H=>?_)
 ·refine al 1 tk rfl ?_
  exact aV tk H rfl
 refine ao (ab (ab (aa (ae 2 tk rfl (ax tk (zl _) ?_)))))
 refine ag tk rfl (ac ?_)
 refine dY tk 26 25 24 (fun s2 g2=>upd (fun _=>.any) 1 (.ptr (ba gA))) nB nO () H (fun fl2 Hp2 j2 s2 g2 hz2 hl2 x2 fb2 hx2 H hg2=>?_) (fun s2 g2 H=>?_)
 ·refine ab (az (ab (aa ?_)))
  refine aN tk (zn j2) (bd (fun _=>rfl) hx2) ?_
  refine ae 2 tk rfl (ac (ab (aa (ae 3 tk rfl ?_))))
  refine aR rfl rfl rfl H (fun H=>?_) (fun H=>?_)
  ·refine ae 3 tk rfl (ac (bU rfl (al 1 tk rfl ?_)))
   obtain rfl := aD H
   have e2 : fl2 = .ret _ := hg2
   subst e2
   obtain rfl := aU Hp2
   refine bc tk rfl (ps := [(ah 1)]) ⟨_,_,rfl,rfl,rfl⟩ (PLe.q rfl)
  refine ae 3 tk rfl (ac ?_)
  refine aK rfl H (fun H=>?_) (fun H=>?_)
  ·refine al 1 tk rfl ?_
   obtain rfl := aD H
   have e2 : fl2 = .ret _ := hg2
   subst e2
   obtain rfl := aU Hp2
   refine bc tk rfl (ps := [(ah 1)]) ⟨_,_,rfl,rfl,rfl⟩ (PLe.q rfl)
  refine ao (aP (bl 2 tk rfl ?_))
  exact bi () H hl2 hg2
 refine ab (ab (aa (ae 2 tk rfl (ax tk (zl _) ?_))))
 refine ag tk rfl (ac ?_)
 refine dY tk 40 39 38 (fun s3 g3=>upd (fun _=>.any) 1 (.ptr (ba gA))) nB nO () H (fun fl3 Hp3 j3 s3 g3 hz3 hl3 x3 fb3 hx3 H hg3=>?_) (fun s3 g3 H=>?_)
 ·refine ab (az (ab (aa ?_)))
  refine aN tk (zn j3) (bd (fun _=>rfl) hx3) ?_
  refine ag tk rfl ?_
  refine aM tk fun b6=>?_
  refine am tk ?_
  refine ac (ab (aa (ag tk rfl (aq tk ?_))))
  refine ae 2 tk rfl ?_
  refine aR rfl rfl rfl H (fun H=>?_) (fun H=>?_)
  ·refine ae 24 tk rfl (ac (bU rfl (al 1 tk rfl ?_)))
   obtain rfl := aD H
   have e3 : fl3 = .ret _ := hg3
   subst e3
   obtain rfl := aU Hp3
   refine bc tk rfl (ps := [(ah 1)]) ⟨_,_,rfl,rfl,rfl⟩ (PLe.q rfl)
  refine ag tk rfl (aq tk ?_)
  refine ag tk rfl (aq tk ?_)
  refine ae 3 tk rfl ?_
  refine aR rfl rfl rfl H (fun H=>?_) (fun H=>?_)
  ·refine ae 17 tk rfl (ac (bU rfl (al 1 tk rfl ?_)))
   obtain rfl := aD H
   have e3 : fl3 = .ret _ := hg3
   subst e3
   obtain rfl := aU Hp3
   refine bc tk rfl (ps := [(ah 1)]) ⟨_,_,rfl,rfl,rfl⟩ (PLe.q rfl)
  refine ag tk rfl (aq tk ?_)
  refine ae 2 tk rfl (ax tk (zl _) ?_)
  refine ae 3 tk rfl ?_
  refine aR rfl rfl rfl H (fun H=>?_) (fun H=>?_)
  ·refine ae 9 tk rfl (ac (bU rfl (al 1 tk rfl ?_)))
   obtain rfl := aD H
   have e3 : fl3 = .ret _ := hg3
   subst e3
   obtain rfl := aU Hp3
   refine bc tk rfl (ps := [(ah 1)]) ⟨_,_,rfl,rfl,rfl⟩ (PLe.q rfl)
  refine ag tk rfl (aq tk ?_)
  refine ae 3 tk rfl ?_
  refine aR rfl rfl rfl H (fun H=>?_) (fun H=>?_)
  ·refine ae 4 tk rfl (ac (bU rfl (al 1 tk rfl ?_)))
   obtain rfl := aD H
   have e3 : fl3 = .ret _ := hg3
   subst e3
   obtain rfl := aU Hp3
   refine bc tk rfl (ps := [(ah 1)]) ⟨_,_,rfl,rfl,rfl⟩ (PLe.q rfl)
  refine ag tk rfl (aq tk ?_)
  refine ae 2 tk rfl (ac ?_)
  refine aK rfl H (fun H=>?_) (fun H=>?_)
  ·refine al 1 tk rfl ?_
   obtain rfl := aD H
   have e3 : fl3 = .ret _ := hg3
   subst e3
   obtain rfl := aU Hp3
   refine bc tk rfl (ps := [(ah 1)]) ⟨_,_,rfl,rfl,rfl⟩ (PLe.q rfl)
  refine ao (aP (bl 2 tk rfl ?_))
  exact bi () H hl3 hg3
 refine al 1 tk rfl ?_
 exact aV tk H rfl
def dz (x : Int) : Int :=
 (aO .i64 (IntKind.i64.wrap (IntKind.u64.wrap ((IntKind.u64.wrap ((IntKind.u64.wrap ((aO .u64 (IntKind.u64.wrap ((Int.fdiv (IntKind.u64.wrap ((aO .u64 (Int.fdiv (IntKind.u64.wrap ((aO .u64 (Int.fdiv x (2 ^ 1)) (6148914691236517205 : Int)) + (aO .u64 x (6148914691236517205 : Int)))) (2 ^ 2)) (3689348814741910323 : Int)) + (aO .u64 (IntKind.u64.wrap ((aO .u64 (Int.fdiv x (2 ^ 1)) (6148914691236517205 : Int)) + (aO .u64 x (6148914691236517205 : Int)))) (3689348814741910323 : Int)))) (2 ^ 4)) + (IntKind.u64.wrap ((aO .u64 (Int.fdiv (IntKind.u64.wrap ((aO .u64 (Int.fdiv x (2 ^ 1)) (6148914691236517205 : Int)) + (aO .u64 x (6148914691236517205 : Int)))) (2 ^ 2)) (3689348814741910323 : Int)) + (aO .u64 (IntKind.u64.wrap ((aO .u64 (Int.fdiv x (2 ^ 1)) (6148914691236517205 : Int)) + (aO .u64 x (6148914691236517205 : Int)))) (3689348814741910323 : Int)))))) (1085102592571150095 : Int)) + (Int.fdiv (aO .u64 (IntKind.u64.wrap ((Int.fdiv (IntKind.u64.wrap ((aO .u64 (Int.fdiv (IntKind.u64.wrap ((aO .u64 (Int.fdiv x (2 ^ 1)) (6148914691236517205 : Int)) + (aO .u64 x (6148914691236517205 : Int)))) (2 ^ 2)) (3689348814741910323 : Int)) + (aO .u64 (IntKind.u64.wrap ((aO .u64 (Int.fdiv x (2 ^ 1)) (6148914691236517205 : Int)) + (aO .u64 x (6148914691236517205 : Int)))) (3689348814741910323 : Int)))) (2 ^ 4)) + (IntKind.u64.wrap ((aO .u64 (Int.fdiv (IntKind.u64.wrap ((aO .u64 (Int.fdiv x (2 ^ 1)) (6148914691236517205 : Int)) + (aO .u64 x (6148914691236517205 : Int)))) (2 ^ 2)) (3689348814741910323 : Int)) + (aO .u64 (IntKind.u64.wrap ((aO .u64 (Int.fdiv x (2 ^ 1)) (6148914691236517205 : Int)) + (aO .u64 x (6148914691236517205 : Int)))) (3689348814741910323 : Int)))))) (1085102592571150095 : Int)) (2 ^ 8)))) + (Int.fdiv (IntKind.u64.wrap ((aO .u64 (IntKind.u64.wrap ((Int.fdiv (IntKind.u64.wrap ((aO .u64 (Int.fdiv (IntKind.u64.wrap ((aO .u64 (Int.fdiv x (2 ^ 1)) (6148914691236517205 : Int)) + (aO .u64 x (6148914691236517205 : Int)))) (2 ^ 2)) (3689348814741910323 : Int)) + (aO .u64 (IntKind.u64.wrap ((aO .u64 (Int.fdiv x (2 ^ 1)) (6148914691236517205 : Int)) + (aO .u64 x (6148914691236517205 : Int)))) (3689348814741910323 : Int)))) (2 ^ 4)) + (IntKind.u64.wrap ((aO .u64 (Int.fdiv (IntKind.u64.wrap ((aO .u64 (Int.fdiv x (2 ^ 1)) (6148914691236517205 : Int)) + (aO .u64 x (6148914691236517205 : Int)))) (2 ^ 2)) (3689348814741910323 : Int)) + (aO .u64 (IntKind.u64.wrap ((aO .u64 (Int.fdiv x (2 ^ 1)) (6148914691236517205 : Int)) + (aO .u64 x (6148914691236517205 : Int)))) (3689348814741910323 : Int)))))) (1085102592571150095 : Int)) + (Int.fdiv (aO .u64 (IntKind.u64.wrap ((Int.fdiv (IntKind.u64.wrap ((aO .u64 (Int.fdiv (IntKind.u64.wrap ((aO .u64 (Int.fdiv x (2 ^ 1)) (6148914691236517205 : Int)) + (aO .u64 x (6148914691236517205 : Int)))) (2 ^ 2)) (3689348814741910323 : Int)) + (aO .u64 (IntKind.u64.wrap ((aO .u64 (Int.fdiv x (2 ^ 1)) (6148914691236517205 : Int)) + (aO .u64 x (6148914691236517205 : Int)))) (3689348814741910323 : Int)))) (2 ^ 4)) + (IntKind.u64.wrap ((aO .u64 (Int.fdiv (IntKind.u64.wrap ((aO .u64 (Int.fdiv x (2 ^ 1)) (6148914691236517205 : Int)) + (aO .u64 x (6148914691236517205 : Int)))) (2 ^ 2)) (3689348814741910323 : Int)) + (aO .u64 (IntKind.u64.wrap ((aO .u64 (Int.fdiv x (2 ^ 1)) (6148914691236517205 : Int)) + (aO .u64 x (6148914691236517205 : Int)))) (3689348814741910323 : Int)))))) (1085102592571150095 : Int)) (2 ^ 8)))) (2 ^ 16)))) + (Int.fdiv (IntKind.u64.wrap ((IntKind.u64.wrap ((aO .u64 (IntKind.u64.wrap ((Int.fdiv (IntKind.u64.wrap ((aO .u64 (Int.fdiv (IntKind.u64.wrap ((aO .u64 (Int.fdiv x (2 ^ 1)) (6148914691236517205 : Int)) + (aO .u64 x (6148914691236517205 : Int)))) (2 ^ 2)) (3689348814741910323 : Int)) + (aO .u64 (IntKind.u64.wrap ((aO .u64 (Int.fdiv x (2 ^ 1)) (6148914691236517205 : Int)) + (aO .u64 x (6148914691236517205 : Int)))) (3689348814741910323 : Int)))) (2 ^ 4)) + (IntKind.u64.wrap ((aO .u64 (Int.fdiv (IntKind.u64.wrap ((aO .u64 (Int.fdiv x (2 ^ 1)) (6148914691236517205 : Int)) + (aO .u64 x (6148914691236517205 : Int)))) (2 ^ 2)) (3689348814741910323 : Int)) + (aO .u64 (IntKind.u64.wrap ((aO .u64 (Int.fdiv x (2 ^ 1)) (6148914691236517205 : Int)) + (aO .u64 x (6148914691236517205 : Int)))) (3689348814741910323 : Int)))))) (1085102592571150095 : Int)) + (Int.fdiv (aO .u64 (IntKind.u64.wrap ((Int.fdiv (IntKind.u64.wrap ((aO .u64 (Int.fdiv (IntKind.u64.wrap ((aO .u64 (Int.fdiv x (2 ^ 1)) (6148914691236517205 : Int)) + (aO .u64 x (6148914691236517205 : Int)))) (2 ^ 2)) (3689348814741910323 : Int)) + (aO .u64 (IntKind.u64.wrap ((aO .u64 (Int.fdiv x (2 ^ 1)) (6148914691236517205 : Int)) + (aO .u64 x (6148914691236517205 : Int)))) (3689348814741910323 : Int)))) (2 ^ 4)) + (IntKind.u64.wrap ((aO .u64 (Int.fdiv (IntKind.u64.wrap ((aO .u64 (Int.fdiv x (2 ^ 1)) (6148914691236517205 : Int)) + (aO .u64 x (6148914691236517205 : Int)))) (2 ^ 2)) (3689348814741910323 : Int)) + (aO .u64 (IntKind.u64.wrap ((aO .u64 (Int.fdiv x (2 ^ 1)) (6148914691236517205 : Int)) + (aO .u64 x (6148914691236517205 : Int)))) (3689348814741910323 : Int)))))) (1085102592571150095 : Int)) (2 ^ 8)))) + (Int.fdiv (IntKind.u64.wrap ((aO .u64 (IntKind.u64.wrap ((Int.fdiv (IntKind.u64.wrap ((aO .u64 (Int.fdiv (IntKind.u64.wrap ((aO .u64 (Int.fdiv x (2 ^ 1)) (6148914691236517205 : Int)) + (aO .u64 x (6148914691236517205 : Int)))) (2 ^ 2)) (3689348814741910323 : Int)) + (aO .u64 (IntKind.u64.wrap ((aO .u64 (Int.fdiv x (2 ^ 1)) (6148914691236517205 : Int)) + (aO .u64 x (6148914691236517205 : Int)))) (3689348814741910323 : Int)))) (2 ^ 4)) + (IntKind.u64.wrap ((aO .u64 (Int.fdiv (IntKind.u64.wrap ((aO .u64 (Int.fdiv x (2 ^ 1)) (6148914691236517205 : Int)) + (aO .u64 x (6148914691236517205 : Int)))) (2 ^ 2)) (3689348814741910323 : Int)) + (aO .u64 (IntKind.u64.wrap ((aO .u64 (Int.fdiv x (2 ^ 1)) (6148914691236517205 : Int)) + (aO .u64 x (6148914691236517205 : Int)))) (3689348814741910323 : Int)))))) (1085102592571150095 : Int)) + (Int.fdiv (aO .u64 (IntKind.u64.wrap ((Int.fdiv (IntKind.u64.wrap ((aO .u64 (Int.fdiv (IntKind.u64.wrap ((aO .u64 (Int.fdiv x (2 ^ 1)) (6148914691236517205 : Int)) + (aO .u64 x (6148914691236517205 : Int)))) (2 ^ 2)) (3689348814741910323 : Int)) + (aO .u64 (IntKind.u64.wrap ((aO .u64 (Int.fdiv x (2 ^ 1)) (6148914691236517205 : Int)) + (aO .u64 x (6148914691236517205 : Int)))) (3689348814741910323 : Int)))) (2 ^ 4)) + (IntKind.u64.wrap ((aO .u64 (Int.fdiv (IntKind.u64.wrap ((aO .u64 (Int.fdiv x (2 ^ 1)) (6148914691236517205 : Int)) + (aO .u64 x (6148914691236517205 : Int)))) (2 ^ 2)) (3689348814741910323 : Int)) + (aO .u64 (IntKind.u64.wrap ((aO .u64 (Int.fdiv x (2 ^ 1)) (6148914691236517205 : Int)) + (aO .u64 x (6148914691236517205 : Int)))) (3689348814741910323 : Int)))))) (1085102592571150095 : Int)) (2 ^ 8)))) (2 ^ 16)))) (2 ^ 32))))) (127 : Int))
theorem ni (x : Int) :
  aJ Tryz.prog 61 [(.val (.int .u64 x))] (ah (dz x)) := by
 obtain ⟨r,H⟩ : ∃ r,dz x = r := ⟨_,rfl⟩
 rw [H]
 unfold dz at H
 refine PH.ap Tryz.func61 Tryz.ntmps61 ?_
 refine al 1 tk rfl (ab (aa (ag tk rfl (oe (m := 1) rfl rfl rfl rfl (by decide) rfl rfl (gr ?_)))))
 refine ag tk rfl (gr ?_)
 refine ae 2 tk rfl (ac (ab (aa (ag tk rfl (oe (m := 2) rfl rfl rfl rfl (by decide) rfl rfl (gr ?_))))))
 refine ag tk rfl (gr ?_)
 refine ae 2 tk rfl (ac (ab (aa (ag tk rfl (oe (m := 4) rfl rfl rfl rfl (by decide) rfl rfl (ae 2 tk rfl (gr ?_)))))))
 refine ag tk rfl (ac (ab (aa (ae 2 tk rfl (oe (m := 8) rfl rfl rfl rfl (by decide) rfl rfl (ae 2 tk rfl (ac (ab (aa (ae 2 tk rfl (oe (m := 16) rfl rfl rfl rfl (by decide) rfl rfl (ae 2 tk rfl (ac (ab (aa (ae 2 tk rfl (oe (m := 32) rfl rfl rfl rfl (by decide) rfl rfl (ae 2 tk rfl (ac (ab (aa (ae 2 tk rfl (gr ?_)))))))))))))))))))))))
 refine ag tk rfl (ac ?_)
 exact cE tk H rfl
def eJ (gA : LJoinorderGraph) (setA : Int) : Option (Int) :=
 af (aC (σ := Int) (ρ := Empty) (fun (j1 : Nat) (x1 : Int) (s1 : Int) =>
  af (lP .i64 setA (j1 : Int)) fun (x20 : Int) =>
  cond ((aO .i64 x20 (1 : Int)) == (0 : Int))
   (some (.next s1))
   (af (aC (σ := Int) (ρ := Empty) (fun (_ : Nat) (x10 : LJoinorderSelectivity) (s10 : Int) =>
    af (
     cond (x10.b == (j1 : Int))
      (af (lP .i64 setA x10.a) fun (x42 : Int) =>
      some ((aO .i64 x42 (1 : Int)) == (1 : Int)))
      (some false)) fun (t13 : Bool) =>
    cond t13
     (af (quoI (IntKind.i64.wrap ((IntKind.i64.wrap (s10 + x10.divisor)) - (1 : Int))) x10.divisor) fun (x53 : Int) =>
     some (.next x53))
     (some (.next s10))) 0 gA.selectivities (if (IntKind.i64.wrap (s1 * x1)) < (1073741824 : Int) then (IntKind.i64.wrap (s1 * x1)) else (1073741824 : Int))) fun fl10=>fl10.thenP fun (s10 : Int) =>
   some (.next s10))) 0 gA.sizes 1) fun fl1=>fl1.thenP fun (s1 : Int) =>
 some s1
theorem mP (gA : LJoinorderGraph) (setA : Int) (r : Int) (H : eJ gA setA = some r) :
  aJ Tryz.prog 27 [(.agg (ba gA)),(ah setA)] (ah r) := by
 unfold eJ at H
 refine PH.ap Tryz.func27 Tryz.ntmps27 ?_
 refine ab (aa (aB ?_))
 refine ag tk rfl (ac (al 1 tk rfl (ab (ab (aa (ae 2 tk rfl (ax tk (zl _) ?_)))))))
 refine ag tk rfl (ac ?_)
 refine ek tk 13 12 11 (fun s1 g1=>upd (upd (upd (fun _=>.any) 5 (ah s1)) 2 (.ptr (ba gA))) 1 (ah setA)) nB nO () H (fun fl1 Hp1 j1 s1 g1 hz1 hl1 x1 fb1 hx1 H hg1=>?_) (fun s1 g1 H=>?_)
 ·refine ab (az (ab (aa (ag tk rfl ?_))))
  refine aN tk (zn j1) (bd (fun _=>rfl) hx1) ?_
  refine ae 3 tk rfl (ac (ab (ab (aa (ae 2 tk rfl ?_)))))
  obtain ⟨x20,h20,H⟩ := av H
  refine ri rfl rfl rfl rfl h20 rfl (gr ?_)
  refine ag tk rfl (ac ?_)
  refine aK rfl H (fun H=>?_) (fun H=>?_)
  ·refine ca rfl (bl 2 tk rfl ?_)
   exact bi () H hl1 hg1
  refine ao (al 5 tk rfl (ab (aa (ae 2 tk rfl (ax tk (zl _) ?_)))))
  refine ag tk rfl (ac ?_)
  refine ek tk 30 29 28 (fun s10 g10=>upd (upd (upd (upd (upd (upd (upd (fun _=>.any) 13 (ah (j1 : Int))) 12 (ah (gA.sizes.length : Int))) 11 (.list 3 (gA.sizes.map aY))) 6 (ah (j1 : Int))) 5 (ah s10)) 2 (.ptr (ba gA))) 1 (ah setA)) nB nO () H (fun fl10 Hp10 j10 s10 g10 hz10 hl10 x10 fb10 hx10 H hg10=>?_) (fun s10 g10 H=>?_)
  ·refine ab (az (ab (aa ?_)))
   refine aN tk (zn j10) (bd (fun _=>rfl) hx10) ?_
   refine ag tk rfl ?_
   refine aM tk fun b9=>?_
   refine am tk ?_
   refine ac (ab ?_)
   refine fm (γ := Unit) (fun t13 g13=>⟨57,upd (upd (upd (upd (upd (upd (upd (upd (upd (upd (upd (upd (fun _=>.any) 45 (ay t13)) 30 (ah (j10 : Int))) 29 (ah (gA.selectivities.length : Int))) 28 (.list 95 (gA.selectivities.map bG))) 13 (ah (j1 : Int))) 12 (ah (gA.sizes.length : Int))) 11 (.list 3 (gA.sizes.map aY))) 9 (.box 9 b9 0)) 6 (ah (j1 : Int))) 5 (ah s10)) 2 (.ptr (ba gA))) 1 (ah setA),upd (fun _=>none) 9 (some ⟨b9,(bG x10)⟩),fun _=>none⟩) H (fun _ H=>?_) (fun t13 g13 H=>?_)
   ·refine aa (ag tk rfl (aq tk ?_))
    refine ae 3 tk rfl ?_
    refine aR rfl rfl rfl H (fun H=>?_) (fun H=>?_)
    ·refine ae 2 tk rfl (aq tk ?_)
     obtain ⟨x42,h42,H⟩ := av H
     refine ri rfl rfl rfl rfl h42 rfl (gr ?_)
     refine ae 2 tk rfl (ac ?_)
     refine aS _ () (aD H) Gh.d
    refine ae 7 tk rfl (ac ?_)
    refine aS _ () (aD H) Gh.d
   refine aK rfl H (fun H=>?_) (fun H=>?_)
   ·refine aa (ae 2 tk rfl (aq tk ?_))
    refine ae 3 tk rfl (aq tk ?_)
    obtain ⟨x53,h53,H⟩ := av H
    have k53 := quoI_some h53
    refine Ao.quoC tk rfl rfl rfl rfl k53.1 k53.2 rfl (ag tk rfl (ac (aP (bl 2 tk rfl ?_))))
    exact bi () H hl10 hg10
   refine ao (aP (bl 2 tk rfl ?_))
   exact bi () H hl10 hg10
  refine aP (bl 2 tk rfl ?_)
  exact bi () H hl1 hg1
 refine al 2 tk rfl ?_
 exact aV tk H rfl
def hC (rec28 : LJoinorderTree → Option (LJoinorderTree)) (t : LJoinorderTree) : Option (LJoinorderTree) :=
 af (aC (σ := List LJoinorderTree) (ρ := Empty) (fun (_ : Nat) (x1 : LJoinorderTree) (s1 : List LJoinorderTree) =>
  af (rec28 x1) fun x19 =>
  af (cJ 32 s1 ([x19] : List LJoinorderTree)) fun (x21 : List LJoinorderTree) =>
  some (.next x21)) 0 t.children []) fun fl1=>fl1.thenP fun (s1 : List LJoinorderTree) =>
 some (LJoinorderTree.mk t.leaf s1)
theorem qM (rec28 : LJoinorderTree → Option (LJoinorderTree)) (hrec28 : ∀ a0 r,rec28 a0 = some r → aJ Tryz.prog 28 [(.agg (aW a0))] (.agg (aW r))) (t : LJoinorderTree) (r : LJoinorderTree) (H : hC rec28 t = some r) :
  aJ Tryz.prog 28 [(.agg (aW t))] (.agg (aW r)) := by
 unfold hC at H
 refine PH.ap Tryz.func28 Tryz.ntmps28 ?_
 refine ab (aa (aB ?_))
 refine aM tk fun b2=>?_
 refine ac (ab (aa (ae 3 tk rfl ?_)))
 refine aM tk fun b3=>?_
 refine am tk ?_
 refine ac (ab (ab (aa (ae 2 tk rfl (ax tk (zl _) ?_)))))
 refine ag tk rfl (ac (jq tk 3 1 21 (e := 50) rfl rfl rfl rfl ?_))
 refine ek (γ := OwnRef) tk 12 11 10 (fun s1 g1=>upd (upd (fun _=>.any) 3 (.box 3 b3 0)) 2 (.box 2 b2 0)) (fun s1 g1=>upd (upd (fun _=>none) 3 (some ⟨b3,[(ah t.leaf),(.own 21 g1 (s1.map aA).length)]⟩)) 2 (some ⟨b2,[(ah 0),(.val (.slice none 0 0))]⟩)) (fun s1 g1=>upd (fun _=>none) 21 (some ⟨g1,50,(s1.map aA),true⟩)) (⟨none,0⟩) H (fun fl1 Hp1 j1 s1 g1 hz1 hl1 x1 fb1 hx1 H hg1=>?_) (fun s1 g1 H=>?_)
 ·refine ab (az (ab (aa (aN tk (zn j1) (bd bO hx1) ?_))))
  refine ag tk rfl ?_
  refine aM tk fun b5=>?_
  refine am tk ?_
  refine ac (fN 5 ?_)
  refine bn tk mok ⟨true,false,[18]⟩ [0,1,2,3,4,5,6,7] rfl (by decide +kernel) rfl (bt rfl (bI ?_))
  refine bt rfl ?_
  obtain ⟨x19,h19,H⟩ := av H
  have s19 := hrec28 x1 _ h19
  refine bq Tryz.call28 (fG.r) s19 ?_
  refine bt rfl ?_
  obtain ⟨x21,h21,H⟩ := av H
  have k21 := ci h21
  refine fM (rows2' := List.map aA ([x19] : List LJoinorderTree)) (rows' := List.map aA x21) tk rfl rfl rfl rfl rfl rfl rfl rfl rfl rfl rfl rfl rfl rfl (dS.trans (b := List.map aW [x19]) (dS.refl _) (dS.of_eq (fV bO [x19]))) (cW k21.1) (cX k21.2.1) (cY k21.2.2) fun g21=>?_
  refine bt rfl (bB ?_)
  refine bf (aP (bl 2 tk rfl ?_))
  exact bi g21 H hl1 hg1
 refine ab (aa (aq tk ?_))
 refine am tk ?_
 refine ac (fL 2 1 rfl rfl rfl rfl rfl ?_)
 exact gQ tk H rfl rfl rfl rfl rfl
def ff : Nat → LJoinorderTree → Option (LJoinorderTree)
 | 0,_=>none
 | n + 1,v0=>hC (fun b0=>ff n b0) v0
theorem qF  (n : Nat) : (∀ a0 r,ff n a0 = some r → aJ Tryz.prog 28 [(.agg (aW a0))] (.agg (aW r))) := by
 induction n with
 | zero=>exact (by intros; rename_i h; exact absurd (show (none : Option _) = some _ from h) (by simp))
 | succ n ih =>
  exact (fun v0 r h=>qM (fun b0=>ff n b0) ih v0  r h)
def kN (t : LJoinorderTree) : Option (LJoinorderTree) := eH fun n=>ff n t
theorem qP (t : LJoinorderTree) (r : LJoinorderTree) (H : kN t = some r) :
  aJ Tryz.prog 28 [(.agg (aW t))] (.agg (aW r)) := by
 obtain ⟨n,h⟩ := dU H
 exact (qF  n) t r h
theorem W_delete_31 (g_s : OwnRef) (xs : List LJoinorderTree) (i j : Int) (r : List LJoinorderTree) (h : delI xs i j = some r) : PH Tryz.prog 31 [(.own 0 g_s (xs.map aA).length),(ah i),(ah j)] ⟨fun _=>none,upd (fun _=>none) 0 (some ⟨g_s,50,(xs.map aA),true⟩)⟩ (fun u H=>u = .own 0 g_s (r.map aA).length ∧ H = ⟨fun _=>none,upd (fun _=>none) 0 (some ⟨g_s,50,(r.map aA),true⟩)⟩) := by
 obtain ⟨hi,hij,hj,hr⟩ := delI_some h
 have hjl : j.toNat ≤ (xs.map aA).length := by rw [zl]; exact hj
 have hij' : i.toNat ≤ j.toNat := by omega
 have ei : i = (i.toNat : Int) := by omega
 have ej : j = (j.toNat : Int) := by omega
 refine PH.ap Tryz.func31 Tryz.ntmps31 ?_
 refine V.ownC (tag := 0) rfl (fun hc=>?_)
 refine al 1 tk rfl (ab (aa (ae 4 tk rfl (hZ tk (m := (xs.map aA).length) rfl ?_))))
 refine rk (l := i.toNat) (h := j.toNat) (m := (xs.map aA).length) tk rfl rfl rfl rfl rfl rfl ⟨_,_,rfl,ei⟩ ⟨_,_,rfl,ej⟩ ⟨_,_,rfl,rfl⟩ (by decide) hij' hjl hc rfl (ac (ab (al 3 tk rfl ?_)))
 refine co rfl (fun h=>?_) (fun h=>?_)
 ·have he : i = j := by simpa using h
  have hx : r = xs := by rw [hr,he,List.take_append_drop]
  subst hx
  refine al 2 tk rfl ?_
  refine jU (st' := ⟨33,upd (fun _=>.any) 6 (.own 0 g_s (r.map aA).length),fun _=>none,upd (fun _=>none) 0 (some ⟨g_s,50,r.map aA,true⟩)⟩) (Gh.le (aQ bY) bu (dp bv)) ?_
  refine oj tk rfl (ps := [.own 0 g_s (r.map aA).length]) ⟨_,_,rfl,rfl,rfl⟩ (PLe.q rfl) ⟨rfl,rfl⟩
 ·refine ao (ab (aa (ag tk rfl (hZ tk (m := (xs.map aA).length) rfl ?_))))
  refine ag tk rfl (ac (ab (bn tk mok ⟨false,false,[]⟩ [0,1,2,3,4,5,6,7] rfl (by decide +kernel) rfl (aL 2 rfl (rh (l := 0) (h := i.toNat) (m := g_s.cap) tk rfl rfl rfl rfl rfl rfl rfl rfl ⟨_,_,rfl,ei⟩ rfl (by decide) (Nat.zero_le _) (by omega) (Nat.le_refl _) rfl (aL 2 rfl (rh (l := j.toNat) (h := (xs.map aA).length) (m := g_s.cap) tk rfl rfl rfl rfl rfl rfl rfl ⟨_,_,rfl,ej⟩ rfl rfl (by decide) hjl hc (Nat.le_refl _) rfl (re (rows' := r.map aA) (tag := 0) (p := i.toNat) (q := j.toNat) tk rfl rfl rfl rfl rfl rfl rfl hij' hjl rfl rfl (by rw [hr,List.map_append,List.map_take,List.map_drop]) rfl (bt rfl (bf ?_))))))))))
  have hrl : (r.map aA).length ≤ (xs.map aA).length := by rw [hr]; simp; omega
  refine ab (aa (ae 2 tk rfl (hZ tk (m := (r.map aA).length) rfl ?_)))
  refine ag tk rfl (rk (l := (r.map aA).length) (h := (xs.map aA).length) (m := g_s.cap) tk rfl rfl rfl rfl rfl rfl ⟨_,_,rfl,rfl⟩ ⟨_,_,rfl,rfl⟩ rfl (by decide) hrl hc (Nat.le_refl _) rfl (ro (tag := 0) (rows := List.map aA r) tk rfl rfl rfl rfl rfl rfl rfl rfl rfl (p := (r.map aA).length) (q := (xs.map aA).length) (m := g_s.cap) (Nat.le_refl _) hrl hc (Nat.le_refl _) rfl (ac (al 2 tk rfl ?_))))
  refine jU (st' := ⟨33,upd (fun _=>.any) 6 (.own 0 g_s (r.map aA).length),fun _=>none,upd (fun _=>none) 0 (some ⟨g_s,50,r.map aA,true⟩)⟩) (Gh.le (aQ bY) bu (dp bv)) ?_
  refine oj tk rfl (ps := [.own 0 g_s (r.map aA).length]) ⟨_,_,rfl,rfl,rfl⟩ (PLe.q rfl) ⟨rfl,rfl⟩
def dM (rec29 : LJoinorderGraph → LJoinorderTree → Option (Int × Bool)) (gA : LJoinorderGraph) (t : LJoinorderTree) : Option (Int × Bool) :=
 cond ((t.children.length : Int) == (0 : Int))
  (af (shlI .i64 (1 : Int) (if (if (8 : Int) < t.leaf then (8 : Int) else t.leaf) > (0 : Int) then (if (8 : Int) < t.leaf then (8 : Int) else t.leaf) else (0 : Int))) fun (x18 : Int) =>
  cond (decide (t.leaf ≥ (0 : Int)))
   (some (x18,(decide (t.leaf < (gA.sizes.length : Int)))))
   (some (x18,false)))
  (bL (
   cond ((t.children.length : Int) != (2 : Int))
    (true)
    ((t.leaf != (0 : Int)))) fun (t1 : Bool) =>
  cond t1
   (some (0,false))
   (af (aH t.children 0) fun (x43 : LJoinorderTree) =>
   af (rec29 gA x43) fun x45 =>
   af (aH t.children 1) fun (x52 : LJoinorderTree) =>
   af (rec29 gA x52) fun x54 =>
   cond x45.2
    (cond x54.2
     (some ((orI .i64 x45.1 x54.1),((aO .i64 x45.1 x54.1) == (0 : Int))))
     (some ((orI .i64 x45.1 x54.1),false)))
    (some ((orI .i64 x45.1 x54.1),false))))
theorem oV (rec29 : LJoinorderGraph → LJoinorderTree → Option (Int × Bool)) (hrec29 : ∀ a0 a1 r,rec29 a0 a1 = some r → aJ Tryz.prog 29 [(.agg (ba a0)),(.agg (aW a1))] (.tup [(ah r.1),(ay r.2)])) (gA : LJoinorderGraph) (t : LJoinorderTree) (r : Int × Bool) (H : dM rec29 gA t = some r) :
  aJ Tryz.prog 29 [(.agg (ba gA)),(.agg (aW t))] (.tup [(ah r.1),(ay r.2)]) := by
 unfold dM at H
 refine PH.ap Tryz.func29 Tryz.ntmps29 ?_
 refine ab (aa (aB ?_))
 refine aB ?_
 refine ae 2 tk rfl (ac (ab (ab (aa (ae 2 tk rfl (ax tk (zl _) ?_))))))
 refine ag tk rfl (ac ?_)
 refine aK rfl H (fun H=>?_) (fun H=>?_)
 ·refine ab (bn tk mok ⟨false,false,[]⟩ [0,1,2,3,4,5,6,7,8,9,10,11,12,13,14,15,16,17] rfl (by decide +kernel) rfl (aL 4 rfl ?_))
  obtain ⟨x18,h18,H⟩ := av H
  refine Do.shl rfl rfl rfl rfl rfl h18 rfl (aL 4 rfl ?_)
  refine lJ H (fun H=>?_) (fun H=>?_)
  ·refine aL 4 rfl (qd rfl rfl rfl rfl rfl rfl (zl _) rfl (aL 4 rfl (bf ?_)))
   exact aV tk H rfl
  refine aL 9 rfl (bf ?_)
  exact aV tk H rfl
 refine ao (ab (ab ?_))
 refine eF (γ := Unit) (fun t1 g1=>⟨70,upd (upd (upd (fun _=>.any) 38 (ay t1)) 3 (.ptr (aW t))) 2 (.ptr (ba gA)),fun _=>none,fun _=>none⟩) H (fun _ H=>?_) (fun t1 g1 H=>?_)
 ·refine aa (ae 2 tk rfl (ax tk (zl _) ?_))
  refine ae 2 tk rfl ?_
  refine aR rfl rfl rfl H (fun H=>?_) (fun H=>?_)
  ·refine ae 4 tk rfl (ac ?_)
   refine aS _ () H Gh.d
  refine ae 4 tk rfl (ac ?_)
  refine aS _ () H Gh.d
 refine aK rfl H (fun H=>?_) (fun H=>?_)
 ·refine al 2 tk rfl ?_
  exact aV tk H rfl
 refine ao (ab (bn tk mok ⟨false,false,[]⟩ [0,1,2,3,4,5,6,7,8,9,10] rfl (by decide +kernel) rfl (aL 3 rfl ?_)))
 obtain ⟨x43,k43,H⟩ := bg H
 refine aZ k43.1 (aF bO k43.2) ?_
 refine bt rfl ?_
 obtain ⟨x45,h45,H⟩ := av H
 have s45 := hrec29 gA x43 _ h45
 refine bq Tryz.call29 (fG.r) s45 ?_
 refine aL 5 rfl (bf (ab (bn tk mok ⟨false,false,[]⟩ [0,1,2,3,4,5,6,7,8,9,10] rfl (by decide +kernel) rfl (aL 3 rfl ?_))))
 obtain ⟨x52,k52,H⟩ := bg H
 refine aZ k52.1 (aF bO k52.2) ?_
 refine bt rfl ?_
 obtain ⟨x54,h54,H⟩ := av H
 have s54 := hrec29 gA x52 _ h54
 refine bq Tryz.call29 (fG.r) s54 ?_
 refine aL 5 rfl (bf (ab (aa (ae 2 tk rfl (Ao.or rfl rfl rfl rfl rfl (ae 2 tk rfl ?_))))))
 refine aR rfl rfl rfl H (fun H=>?_) (fun H=>?_)
 ·refine ae 3 tk rfl ?_
  refine aR rfl rfl rfl H (fun H=>?_) (fun H=>?_)
  ·refine ae 2 tk rfl (gr ?_)
   refine ae 4 tk rfl (ac ?_)
   exact aV tk H rfl
  refine ae 7 tk rfl (ac ?_)
  exact aV tk H rfl
 refine ae 10 tk rfl (ac ?_)
 exact aV tk H rfl
def eo : Nat → LJoinorderGraph → LJoinorderTree → Option (Int × Bool)
 | 0,_,_=>none
 | n + 1,v0,v1=>dM (fun b0 b1=>eo n b0 b1) v0 v1
theorem oE  (n : Nat) : (∀ a0 a1 r,eo n a0 a1 = some r → aJ Tryz.prog 29 [(.agg (ba a0)),(.agg (aW a1))] (.tup [(ah r.1),(ay r.2)])) := by
 induction n with
 | zero=>exact (by intros; rename_i h; exact absurd (show (none : Option _) = some _ from h) (by simp))
 | succ n ih =>
  exact (fun v0 v1 r h=>oV (fun b0 b1=>eo n b0 b1) ih v0 v1  r h)
def gO (gA : LJoinorderGraph) (t : LJoinorderTree) : Option (Int × Bool) := eH fun n=>eo n gA t
theorem kS (gA : LJoinorderGraph) (t : LJoinorderTree) (r : Int × Bool) (H : gO gA t = some r) :
  aJ Tryz.prog 29 [(.agg (ba gA)),(.agg (aW t))] (.tup [(ah r.1),(ay r.2)]) := by
 obtain ⟨n,h⟩ := dU H
 exact (oE  n) gA t r h
def ew (t : LTable) (name : List UInt8) : Option (Int × Bool) :=
 af (bW t.columns (fun a0=>some (cD a0 name))) fun x10 =>
 some ((if (0 : Int) > x10 then (0 : Int) else x10),(decide (x10 ≥ (0 : Int))))
theorem pm (t : LTable) (name : List UInt8) (r : Int × Bool) (H : ew t name = some r) :
  aJ Tryz.prog 76 [(.agg (bS t)),(.str name)] (.tup [(ah r.1),(ay r.2)]) := by
 unfold ew at H
 refine PH.ap Tryz.func76 Tryz.ntmps76 ?_
 refine ab (aa (aB ?_))
 refine aB ?_
 refine ae 2 tk rfl (ac (ab (aa (ae 3 tk rfl ?_))))
 obtain ⟨x10,h10,H⟩ := av H
 have s10 := eV t.columns (fun a0=>some (cD a0 name)) Tryz.call125 (fun a0 r h=>(aD h) ▸ nN a0 name) _ h10
 refine ak Tryz.call124 (fG.r) s10 ?_
 refine ag tk rfl (ac (al 6 tk rfl ?_))
 exact aV tk H rfl
def dR (sA : LSchema) (name : List UInt8) : Option (Int × Bool) :=
 af (cd sA.tables (fun a0=>some (cp a0 name))) fun x10 =>
 some ((if (0 : Int) > x10 then (0 : Int) else x10),(decide (x10 ≥ (0 : Int))))
theorem jm (sA : LSchema) (name : List UInt8) (r : Int × Bool) (H : dR sA name = some r) :
  aJ Tryz.prog 77 [(.agg (bs sA)),(.str name)] (.tup [(ah r.1),(ay r.2)]) := by
 unfold dR at H
 refine PH.ap Tryz.func77 Tryz.ntmps77 ?_
 refine ab (aa (aB ?_))
 refine aB ?_
 refine ae 2 tk rfl (ac (ab (aa (ae 3 tk rfl ?_))))
 obtain ⟨x10,h10,H⟩ := av H
 have s10 := ft sA.tables (fun a0=>some (cp a0 name)) Tryz.call127 (fun a0 r h=>(aD h) ▸ oU a0 name) _ h10
 refine ak Tryz.call126 (fG.r) s10 ?_
 refine ag tk rfl (ac (al 6 tk rfl ?_))
 exact aV tk H rfl
def eU (a : LForeignKey) (b : LForeignKey) : Option (Bool) :=
 cond (a.table == b.table)
  (af (ed a.columns b.columns) fun x15 =>
  cond x15
   (some (a.refTable == b.refTable))
   (some false))
  (some false)
theorem mm (a : LForeignKey) (b : LForeignKey) (r : Bool) (H : eU a b = some r) :
  aJ Tryz.prog 46 [(.agg (im a)),(.agg (im b))] (ay r) := by
 unfold eU at H
 refine PH.ap Tryz.func46 Tryz.ntmps46 ?_
 refine ab (aa (aB ?_))
 refine aB ?_
 refine ag tk rfl (ac (ab (aa (ae 6 tk rfl ?_))))
 refine aR rfl rfl rfl H (fun H=>?_) (fun H=>?_)
 ·refine ae 4 tk rfl ?_
  obtain ⟨x15,h15,H⟩ := av H
  have s15 := mZ a.columns b.columns _ h15
  refine ak Tryz.call79 (fG.r) s15 ?_
  refine ae 2 tk rfl ?_
  refine aR rfl rfl rfl H (fun H=>?_) (fun H=>?_)
  ·refine ae 7 tk rfl (ac ?_)
   exact aV tk H rfl
  refine ae 7 tk rfl (ac ?_)
  exact aV tk H rfl
 refine ae 14 tk rfl (ac ?_)
 exact aV tk H rfl
def bD (sA : List LForeignKey) (f : LForeignKey → Option (Bool)) : Option (Bool) :=
 af (bX sA f) fun x7 =>
 some (decide (x7 ≥ (0 : Int)))
theorem fY {g_f : FuncId} {caps_f : List PV} (sA : List LForeignKey) (f : LForeignKey → Option (Bool)) (hg_f : ∀ (vs : Array Value) (w : World),(callFunc g_f vs).run Tryz.prog w = .ok (.enter g_f vs) w) (hp_f : ∀ a0 r,f a0 = some r → aJ Tryz.prog g_f ((.agg (im a0)) :: caps_f) (ay r)) (r : Bool) (H : bD sA f = some r) :
  aJ Tryz.prog 44 [(.list 121 (sA.map im)),(.fn g_f caps_f)] (ay r) := by
 unfold bD at H
 refine PH.ap Tryz.func44 Tryz.ntmps44 ?_
 refine al 1 tk rfl (ab (aa (ae 2 tk rfl ?_)))
 obtain ⟨x7,h7,H⟩ := av H
 have s7 := gq sA f hg_f hp_f _ h7
 refine ak Tryz.call78 (fG.r) s7 ?_
 refine ae 2 tk rfl (ac ?_)
 exact aV tk H rfl
def io (a : List UInt8) (b : List UInt8) : Int :=
 bL (dB a b) fun x7 =>
 x7
theorem ql (a : List UInt8) (b : List UInt8) :
  aJ Tryz.prog 162 [(.str a),(.str b)] (ah (io a b)) := by
 obtain ⟨r,H⟩ : ∃ r,io a b = r := ⟨_,rfl⟩
 rw [H]
 unfold io at H
 refine PH.ap Tryz.func162 Tryz.ntmps162 ?_
 refine al 1 tk rfl (ab (aa (ae 2 tk rfl ?_)))
 obtain ⟨x7,h7,H⟩ := ef H
 have s7 := jW a b
 rw [h7] at s7
 refine ak Tryz.call189 (fG.r) s7 ?_
 refine ag tk rfl (ac ?_)
 exact cE tk H rfl
def bH (sA : List LConstraint) (v : LConstraint) : Option (Bool) :=
 af (cg sA v) fun x7 =>
 some (decide (x7 ≥ (0 : Int)))
theorem gJ (sA : List LConstraint) (v : LConstraint) (r : Bool) (H : bH sA v = some r) :
  aJ Tryz.prog 48 [(.list 127 (sA.map jy)),(.agg (jy v))] (ay r) := by
 unfold bH at H
 refine PH.ap Tryz.func48 Tryz.ntmps48 ?_
 refine ab (aa (aB ?_))
 refine ag tk rfl (ac (ab (aa (ae 2 tk rfl ?_))))
 obtain ⟨x7,h7,H⟩ := av H
 have s7 := hP sA v _ h7
 refine ak Tryz.call82 (fG.r) s7 ?_
 refine ae 2 tk rfl (ac ?_)
 exact aV tk H rfl
def eg (q : LQuery) : Option (Int) :=
 af (kA q) fun x7 =>
 some x7.2
theorem lI (q : LQuery) (r : Int) (H : eg q = some r) :
  aJ Tryz.prog 85 [(.agg (aw q))] (ah r) := by
 unfold eg at H
 refine PH.ap Tryz.func85 Tryz.ntmps85 ?_
 refine ab (aa (aB ?_))
 refine ag tk rfl (ac (ab (aa (ag tk rfl ?_))))
 obtain ⟨x7,h7,H⟩ := av H
 have s7 := W_query_most q _ h7
 refine ak Tryz.call129 (fG.r) s7 ?_
 refine ae 5 tk rfl (ac (al 2 tk rfl ?_))
 exact aV tk H rfl
def eG (q : LQuery) : Option ((List Int) × Int) :=
 af (gW q) fun x18 =>
 af (aC (σ := List Int × Bool × List Bool) (ρ := Empty) (fun (_ : Nat) (x1 : LQuery) (s1 : List Int × Bool × List Bool) =>
  af (aC (σ := List Int × Bool × List Bool) (ρ := Empty) (fun (_ : Nat) (x12 : LExpr) (s12 : List Int × Bool × List Bool) =>
   af (dV x12 s12.1 s12.2.1 s12.2.2) fun x33 =>
   some (.next (x33.1,x33.2.1,x33.2.2))) 0 x1.exprs (s1.1,s1.2.1,s1.2.2)) fun fl12=>fl12.thenP fun (s12 : List Int × Bool × List Bool) =>
  af (aC (σ := List Int × Bool × List Bool) (ρ := Empty) (fun (_ : Nat) (x13 : LAggregateCall) (s13 : List Int × Bool × List Bool) =>
   af (aC (σ := List Int × Bool × List Bool) (ρ := Empty) (fun (_ : Nat) (x16 : LExpr) (s16 : List Int × Bool × List Bool) =>
    af (dV x16 s16.1 s16.2.1 s16.2.2) fun x51 =>
    some (.next (x51.1,x51.2.1,x51.2.2))) 0 x13.args (s13.1,s13.2.1,s13.2.2)) fun fl16=>fl16.thenP fun (s16 : List Int × Bool × List Bool) =>
   some (.next (s16.1,s16.2.1,s16.2.2))) 0 x1.aggregates (s12.1,s12.2.1,s12.2.2)) fun fl13=>fl13.thenP fun (s13 : List Int × Bool × List Bool) =>
  some (.next (s13.1,s13.2.1,s13.2.2))) 0 x18 ([],false,(List.replicate 8 false))) fun fl1=>fl1.thenP fun (s1 : List Int × Bool × List Bool) =>
 cond s1.2.1
  (some ([],13))
  (some (s1.1,0))
theorem nC (q : LQuery) (r : (List Int) × Int) (H : eG q = some r) :
  aJ Tryz.prog 86 [(.agg (aw q))] (.tup [(.list 3 (r.1.map aY)),(ah r.2)]) := by
 unfold eG at H
 refine PH.ap Tryz.func86 Tryz.ntmps86 ?_
 refine ab (aa (aB ?_))
 refine ae 2 tk rfl (ac (ab (aa ?_)))
 refine aM tk fun b4=>?_
 refine ac (ab (aa ?_))
 refine aM tk fun b5=>?_
 refine ac (ab (aa ?_))
 refine aM tk fun b6=>?_
 refine am tk ?_
 refine ac (ab (aa ?_))
 refine aM tk fun b7=>?_
 refine ac (ab (aa (ag tk rfl (am tk ?_))))
 refine ac (ab (ab (aa (ag tk rfl ?_))))
 obtain ⟨x18,h18,H⟩ := av H
 have s18 := ph (m := 18) q _ h18
 refine ak Tryz.call83 (fG.r) (PFun.gn s18) ?_
 refine ax tk (zl _) ?_
 refine ag tk rfl (ac ?_)
 obtain ⟨fl1,H1,Hp1⟩ := av H
 refine gv tk 18 rfl rfl (fun hz1 _=>?_)
 rw [zl] at hz1
 refine ik (τ := List Int × Bool × List Bool) (γ := OwnRef) (fun s1 g1=>⟨57,upd (upd (fun _=>.any) 6 (.box 6 b6 0)) 4 (.box 4 b4 0),upd (upd (fun _=>none) 6 (some ⟨b6,[(ay s1.2.1)]⟩)) 4 (some ⟨b4,[(.own 1204 g1 (s1.1.map aY).length)]⟩),upd (fun _=>none) 1204 (some ⟨g1,3,(s1.1.map aY),true⟩)⟩) (fun t=>fl1 = .next t) ?_ (fun s1 g1 hn1=>?_)
 ·refine az (jq tk 4 0 1204 (e := 3) rfl rfl rfl rfl ?_)
  refine jo (fun j1 s1 g1=>⟨57,upd (upd (upd (upd (upd (upd (fun _=>.any) 20 (ah (j1 : Int))) 19 (ah (x18.length : Int))) 18 (.list 34 (x18.map bp))) 7 (.box 7 b7 0)) 6 (.box 6 b6 0)) 4 (.box 4 b4 0),upd (upd (upd (upd (fun _=>none) 7 (some ⟨b7,[(.fn 130 [(.box 4 b4 0),(.box 6 b6 0),(.box 5 b5 0),(.box 7 b7 0)])]⟩)) 6 (some ⟨b6,[(ay s1.2.1)]⟩)) 5 (some ⟨b5,(List.map ay s1.2.2)⟩)) 4 (some ⟨b4,[(.own 1204 g1 (s1.1.map aY).length)]⟩),upd (fun _=>none) 1204 (some ⟨g1,3,(s1.1.map aY),true⟩)⟩) (⟨none,0⟩) H1 Gh.d (fun j1 s1 g1 hj1 hr1=>?_)
  refine al 1 tk rfl (ab ?_)
  refine co rfl (fun h=>?_) (fun h=>?_)
  ·have hl1 := rowsLt h
   obtain ⟨x1,fb1,hx1,H,hg1⟩ := rMc hl1 hr1
   refine ao (ab (az (ab (aa (aN tk (zn j1) (bd bw hx1) ?_)))))
   refine ag tk rfl ?_
   refine aM tk fun b9=>?_
   refine am tk ?_
   refine ac (ab (ab (aa (ag tk rfl (aq tk ?_)))))
   refine ax tk (zl _) ?_
   refine ag tk rfl (ac ?_)
   refine ek (γ := OwnRef) tk 27 26 25 (fun s12 g12=>upd (upd (upd (upd (upd (upd (upd (fun _=>.any) 20 (ah (j1 : Int))) 19 (ah (x18.length : Int))) 18 (.list 34 (x18.map bp))) 9 (.box 9 b9 0)) 7 (.box 7 b7 0)) 6 (.box 6 b6 0)) 4 (.box 4 b4 0)) (fun s12 g12=>upd (upd (upd (upd (upd (fun _=>none) 9 (some ⟨b9,(aw x1)⟩)) 7 (some ⟨b7,[(.fn 130 [(.box 4 b4 0),(.box 6 b6 0),(.box 5 b5 0),(.box 7 b7 0)])]⟩)) 6 (some ⟨b6,[(ay s12.2.1)]⟩)) 5 (some ⟨b5,(List.map ay s12.2.2)⟩)) 4 (some ⟨b4,[(.own 1204 g12 (s12.1.map aY).length)]⟩)) (fun s12 g12=>upd (fun _=>none) 1204 (some ⟨g12,3,(s12.1.map aY),true⟩)) g1 H (fun fl12 Hp12 j12 s12 g12 hz12 hl12 x12 fb12 hx12 H hg12=>?_) (fun s12 g12 H=>?_)
   ·refine ab (az (ab (aa (aN tk (zn j12) (bd bj hx12) ?_))))
    refine ag tk rfl ?_
    refine aM tk fun b11=>?_
    refine am tk ?_
    refine ac (aa (aq tk ?_))
    refine aq tk ?_
    obtain ⟨x33,h33,H⟩ := av H
    have s33 := jn b4 g12 b6 b5 b7 x12 s12.1 s12.2.1 s12.2.2 _ h33
    refine gL (st' := ⟨_,_,upd (upd (upd (upd (upd (upd (fun _=>none) 11 (some ⟨b11,(bE x12)⟩)) 9 (some ⟨b9,(aw x1)⟩)) 7 (some ⟨b7,[(.fn 130 [(.box 1000 b4 0),(.box 1001 b6 0),(.box 1002 b5 0),(.box 1003 b7 0)])]⟩)) 6 (some ⟨b6,[(ay s12.2.1)]⟩)) 5 (some ⟨b5,(List.map ay s12.2.2)⟩)) 4 (some ⟨b4,[(.own 1100 g12 (s12.1.map aY).length)]⟩),upd (fun _=>none) 1204 (some ⟨g12,3,(s12.1.map aY),true⟩)⟩) (Gh.le (gC _ _) (be rfl (fG.of2 (fH.cons (lT.own rfl) fH.nil)) (be rfl (fG.r) (be rfl (fG.r) (be rfl (fG.of2 (fH.cons (lT.fn (fH.cons lT.boxT (fH.cons lT.boxT (fH.cons lT.boxT (fH.cons lT.boxT fH.nil))))) fH.nil)) (be rfl (fG.r) (be rfl (fG.r) bu)))))) (dp bv)) ?_
    refine jl (g := 130) rfl rfl rfl Tryz.call130 [(4,1000),(6,1001),(5,1002),(7,1003)] [(1204,1100)] rfl rfl rfl rfl (fG.of2 (fH.cons (lT.of_eq rfl) (fH.cons lT.boxT (fH.cons lT.boxT (fH.cons lT.boxT (fH.cons lT.boxT fH.nil)))))) (by rw [eI,eI,eI,eI,iA,gZ,iB]; rfl) s33 ?_
    rintro u33 H33h ⟨gz33_0,rfl,rfl⟩
    refine ⟨_,rfl,?_⟩
    refine gL (st' := ⟨_,_,upd (upd (upd (upd (upd (upd (fun _=>none) 11 (some ⟨b11,(bE x12)⟩)) 9 (some ⟨b9,(aw x1)⟩)) 7 (some ⟨b7,[(.fn 130 [(.box 4 b4 0),(.box 6 b6 0),(.box 5 b5 0),(.box 7 b7 0)])]⟩)) 6 (some ⟨b6,[(ay x33.2.1)]⟩)) 5 (some ⟨b5,(List.map ay x33.2.2)⟩)) 4 (some ⟨b4,[(.own 1204 gz33_0 (x33.1.map aY).length)]⟩),upd (fun _=>none) 1204 (some ⟨gz33_0,3,(x33.1.map aY),true⟩)⟩) (Gh.le (gC _ _) (be rfl (fG.of2 (fH.cons (lT.own rfl) fH.nil)) (be rfl (fG.r) (be rfl (fG.r) (be rfl (fG.of2 (fH.cons (lT.fn (fH.cons lT.boxT (fH.cons lT.boxT (fH.cons lT.boxT (fH.cons lT.boxT fH.nil))))) fH.nil)) (be rfl (fG.r) (be rfl (fG.r) bu)))))) (dp bv)) ?_
    refine ac (aP (bl 2 tk rfl ?_))
    exact bi gz33_0 H hl12 hg12
   refine ab (aa (ag tk rfl (aq tk ?_)))
   refine ax tk (zl _) ?_
   refine ag tk rfl (ac ?_)
   refine ek (γ := OwnRef) tk 38 37 36 (fun s13 g13=>upd (upd (upd (upd (upd (upd (fun _=>.any) 20 (ah (j1 : Int))) 19 (ah (x18.length : Int))) 18 (.list 34 (x18.map bp))) 7 (.box 7 b7 0)) 6 (.box 6 b6 0)) 4 (.box 4 b4 0)) (fun s13 g13=>upd (upd (upd (upd (fun _=>none) 7 (some ⟨b7,[(.fn 130 [(.box 4 b4 0),(.box 6 b6 0),(.box 5 b5 0),(.box 7 b7 0)])]⟩)) 6 (some ⟨b6,[(ay s13.2.1)]⟩)) 5 (some ⟨b5,(List.map ay s13.2.2)⟩)) 4 (some ⟨b4,[(.own 1204 g13 (s13.1.map aY).length)]⟩)) (fun s13 g13=>upd (fun _=>none) 1204 (some ⟨g13,3,(s13.1.map aY),true⟩)) g12 H (fun fl13 Hp13 j13 s13 g13 hz13 hl13 x13 fb13 hx13 H hg13=>?_) (fun s13 g13 H=>?_)
   ·refine ab (az (ab (aa ?_)))
    refine aN tk (zn j13) (bd (fun _=>rfl) hx13) ?_
    refine ag tk rfl ?_
    refine aM tk fun b13=>?_
    refine am tk ?_
    refine ac (ab (aa (ag tk rfl (aq tk ?_))))
    refine ax tk (zl _) ?_
    refine ag tk rfl (ac ?_)
    refine ek (γ := OwnRef) tk 45 44 43 (fun s16 g16=>upd (upd (upd (upd (upd (upd (upd (upd (upd (fun _=>.any) 38 (ah (j13 : Int))) 37 (ah (x1.aggregates.length : Int))) 36 (.list 118 (x1.aggregates.map eT))) 20 (ah (j1 : Int))) 19 (ah (x18.length : Int))) 18 (.list 34 (x18.map bp))) 7 (.box 7 b7 0)) 6 (.box 6 b6 0)) 4 (.box 4 b4 0)) (fun s16 g16=>upd (upd (upd (upd (fun _=>none) 7 (some ⟨b7,[(.fn 130 [(.box 4 b4 0),(.box 6 b6 0),(.box 5 b5 0),(.box 7 b7 0)])]⟩)) 6 (some ⟨b6,[(ay s16.2.1)]⟩)) 5 (some ⟨b5,(List.map ay s16.2.2)⟩)) 4 (some ⟨b4,[(.own 1204 g16 (s16.1.map aY).length)]⟩)) (fun s16 g16=>upd (fun _=>none) 1204 (some ⟨g16,3,(s16.1.map aY),true⟩)) g13 H (fun fl16 Hp16 j16 s16 g16 hz16 hl16 x16 fb16 hx16 H hg16=>?_) (fun s16 g16 H=>?_)
    ·refine ab (az (ab (aa (aN tk (zn j16) (bd bj hx16) ?_))))
     refine ag tk rfl ?_
     refine aM tk fun b15=>?_
     refine am tk ?_
     refine ac (aa (aq tk ?_))
     refine aq tk ?_
     obtain ⟨x51,h51,H⟩ := av H
     have s51 := jn b4 g16 b6 b5 b7 x16 s16.1 s16.2.1 s16.2.2 _ h51
     refine gL (st' := ⟨_,_,upd (upd (upd (upd (upd (fun _=>none) 15 (some ⟨b15,(bE x16)⟩)) 7 (some ⟨b7,[(.fn 130 [(.box 1000 b4 0),(.box 1001 b6 0),(.box 1002 b5 0),(.box 1003 b7 0)])]⟩)) 6 (some ⟨b6,[(ay s16.2.1)]⟩)) 5 (some ⟨b5,(List.map ay s16.2.2)⟩)) 4 (some ⟨b4,[(.own 1100 g16 (s16.1.map aY).length)]⟩),upd (fun _=>none) 1204 (some ⟨g16,3,(s16.1.map aY),true⟩)⟩) (Gh.le (gC _ _) (be rfl (fG.of2 (fH.cons (lT.own rfl) fH.nil)) (be rfl (fG.r) (be rfl (fG.r) (be rfl (fG.of2 (fH.cons (lT.fn (fH.cons lT.boxT (fH.cons lT.boxT (fH.cons lT.boxT (fH.cons lT.boxT fH.nil))))) fH.nil)) (be rfl (fG.r) bu))))) (dp bv)) ?_
     refine jl (g := 130) rfl rfl rfl Tryz.call130 [(4,1000),(6,1001),(5,1002),(7,1003)] [(1204,1100)] rfl rfl rfl rfl (fG.of2 (fH.cons (lT.of_eq rfl) (fH.cons lT.boxT (fH.cons lT.boxT (fH.cons lT.boxT (fH.cons lT.boxT fH.nil)))))) (by rw [eI,eI,eI,eI,iA,gZ,iB]; rfl) s51 ?_
     rintro u51 H51h ⟨gz51_0,rfl,rfl⟩
     refine ⟨_,rfl,?_⟩
     refine gL (st' := ⟨_,_,upd (upd (upd (upd (upd (fun _=>none) 15 (some ⟨b15,(bE x16)⟩)) 7 (some ⟨b7,[(.fn 130 [(.box 4 b4 0),(.box 6 b6 0),(.box 5 b5 0),(.box 7 b7 0)])]⟩)) 6 (some ⟨b6,[(ay x51.2.1)]⟩)) 5 (some ⟨b5,(List.map ay x51.2.2)⟩)) 4 (some ⟨b4,[(.own 1204 gz51_0 (x51.1.map aY).length)]⟩),upd (fun _=>none) 1204 (some ⟨gz51_0,3,(x51.1.map aY),true⟩)⟩) (Gh.le (gC _ _) (be rfl (fG.of2 (fH.cons (lT.own rfl) fH.nil)) (be rfl (fG.r) (be rfl (fG.r) (be rfl (fG.of2 (fH.cons (lT.fn (fH.cons lT.boxT (fH.cons lT.boxT (fH.cons lT.boxT (fH.cons lT.boxT fH.nil))))) fH.nil)) (be rfl (fG.r) bu))))) (dp bv)) ?_
     refine ac (aP (bl 2 tk rfl ?_))
     exact bi gz51_0 H hl16 hg16
    refine aP (bl 2 tk rfl ?_)
    exact bi g16 H hl13 hg13
   refine aP (bl 2 tk rfl ?_)
   exact bi g13 H hl1 hg1
  have hn1 := rMd (rowsGe h) hr1
  refine ca rfl ?_
  refine aS s1 g1 hn1 Gh.d
 have H := fK hn1 Hp1
 refine ab (ab (aa (aq tk ?_)))
 refine ac ?_
 refine aK rfl H (fun H=>?_) (fun H=>?_)
 ·refine al 2 tk rfl ?_
  obtain rfl := aD H
  refine bc tk rfl (ps := [(.val (.slice none 0 0)),(ah 13)]) ⟨_,_,rfl,rfl,_,_,rfl,rfl,rfl⟩ (PLe.of2 (lT.tup (fH.cons (lT.nil tk rfl) (fH.cons (lT.of_eq rfl) fH.nil))))
 refine ao (ab (aa (aq tk ?_)))
 refine ae 2 tk rfl (ac (cQ 2 rfl rfl rfl ?_))
 exact aV tk H rfl
def dF (sA : List Int) (v : Int) : Option (Bool) :=
 af (fC sA v) fun x7 =>
 some (decide (x7 ≥ (0 : Int)))
theorem lV (sA : List Int) (v : Int) (r : Bool) (H : dF sA v = some r) :
  aJ Tryz.prog 164 [(.list 3 (sA.map aY)),(ah v)] (ay r) := by
 unfold dF at H
 refine PH.ap Tryz.func164 Tryz.ntmps164 ?_
 refine al 1 tk rfl (ab (aa (ae 2 tk rfl ?_)))
 obtain ⟨x7,h7,H⟩ := av H
 have s7 := nc sA v _ h7
 refine ak Tryz.call190 (fG.r) s7 ?_
 refine ae 2 tk rfl (ac ?_)
 exact aV tk H rfl
def fR (kind : Int) (a : List LCol) (b : List LCol) : Option ((List LCol) × Int) :=
 cond ((a.length : Int) != (b.length : Int))
  (some ([],7))
  (af (aC (σ := List LCol) (ρ := ((List LCol) × Int)) (fun (j1 : Nat) (x1 : LCol) (s1 : List LCol) =>
   af (aH b (j1 : Int)) fun (x29 : LCol) =>
   cond (x1.kind != x29.kind)
    (some (.ret ([],7)))
    (cond x1.nullable
     (af (aH s1 (j1 : Int)) fun (x51 : LCol) =>
     bL (s1.set ((j1 : Int).toNat) (LCol.mk x51.name x51.kind true)) fun (y8 : List LCol) =>
     some (.next y8))
     (cond (kind == (6 : Int))
      (af (aH b (j1 : Int)) fun (x46 : LCol) =>
      af (aH s1 (j1 : Int)) fun (x51 : LCol) =>
      bL (s1.set ((j1 : Int).toNat) (LCol.mk x51.name x51.kind x46.nullable)) fun (y9 : List LCol) =>
      some (.next y9))
      (af (aH s1 (j1 : Int)) fun (x51 : LCol) =>
      bL (s1.set ((j1 : Int).toNat) (LCol.mk x51.name x51.kind false)) fun (y10 : List LCol) =>
      some (.next y10))))) 0 a a) fun fl1=>fl1.thenR fun (s1 : List LCol) =>
  some (s1,0))
theorem pH (kind : Int) (a : List LCol) (b : List LCol) (r : (List LCol) × Int) (H : fR kind a b = some r) :
  aJ Tryz.prog 167 [(ah kind),(.list 58 (a.map aT)),(.list 58 (b.map aT))] (.tup [(.list 58 (r.1.map aT)),(ah r.2)]) := by
 unfold fR at H
 refine PH.ap Tryz.func167 Tryz.ntmps167 ?_
 refine al 2 tk rfl (ab (ab (aa (ag tk rfl (ax tk (zl _) ?_)))))
 refine ag tk rfl (ax tk (zl _) ?_)
 refine ag tk rfl (ac ?_)
 refine aK rfl H (fun H=>?_) (fun H=>?_)
 ·refine al 2 tk rfl ?_
  obtain rfl := aD H
  refine bc tk rfl (ps := [(.val (.slice none 0 0)),(ah 7)]) ⟨_,_,rfl,rfl,_,_,rfl,rfl,rfl⟩ (PLe.of2 (lT.tup (fH.cons (lT.nil tk rfl) (fH.cons (lT.of_eq rfl) fH.nil))))
 refine ao (ab (aa (ag tk rfl ?_)))
 have s16 := pu (m := 16) a
 refine qI (g := 150) rfl rfl rfl Tryz.call150 (fG.r) rfl rfl s16 (fun g16=>?_)
 refine ag tk rfl (ac (ab (ab (aa (ag tk rfl (ax tk (zl _) ?_))))))
 refine ag tk rfl (ac ?_)
 refine dY (γ := OwnRef) tk 19 18 1 (fun s1 g1=>upd (upd (upd (fun _=>.any) 8 (.own 16 g1 (s1.map aT).length)) 2 (.list 58 (b.map aT))) 0 (ah kind)) nB (fun s1 g1=>upd (fun _=>none) 16 (some ⟨g1,58,(s1.map aT),true⟩)) g16 H (fun fl1 Hp1 j1 s1 g1 hz1 hl1 x1 fb1 hx1 H hg1=>?_) (fun s1 g1 H=>?_)
 ·refine ab (az (al 2 tk rfl (ab (ab ?_))))
  refine nT (tag := 16) rfl (fun ho16=>?_)
  refine bn tk mok ⟨false,false,[]⟩ [0,1,2,3,4,5,6,7,8,9,10] rfl (by decide +kernel) rfl (aL 2 rfl ?_)
  refine aZ (zn j1) (bd (fun _=>rfl) hx1) ?_
  refine aL 4 rfl ?_
  obtain ⟨x29,k29,H⟩ := bg H
  refine aZ k29.1 (aF (fun _=>rfl) k29.2) ?_
  refine aL 3 rfl (bf ?_)
  refine aK rfl H (fun H=>?_) (fun H=>?_)
  ·refine al 2 tk rfl ?_
   obtain rfl := aD H
   have e1 : fl1 = .ret _ := hg1
   subst e1
   obtain rfl := aU Hp1
   refine bc tk rfl (ps := [(.val (.slice none 0 0)),(ah 7)]) ⟨_,_,rfl,rfl,_,_,rfl,rfl,rfl⟩ (PLe.of2 (lT.tup (fH.cons (lT.nil tk rfl) (fH.cons (lT.of_eq rfl) fH.nil))))
  refine ao (aa (ae 4 tk rfl ?_))
  refine aN tk (zn j1) (bd (fun _=>rfl) hx1) ?_
  refine ae 3 tk rfl ?_
  refine aR rfl rfl rfl H (fun H=>?_) (fun H=>?_)
  ·refine ae 10 tk rfl ?_
   obtain ⟨x51,k51,H⟩ := bg H
   refine iU (tag := 16) rfl (fun ho16=>?_)
   refine ib tk ⟨k51.1,(fe k51.2)⟩ (eY ho16 k51.2) ?_
   refine ag tk rfl ?_
   obtain ⟨y8,hy8,H⟩ := ef H
   refine nj tk rfl rfl rfl rfl rfl rfl rfl rfl (by rw [zl]; exact (zg.1 k51.2).1) (PLe.refl _ _) rfl rfl rfl rfl (by decide) (iL (fun _=>rfl) k51.2 rfl hy8) ?_
   refine ac (aP (bl 2 tk rfl ?_))
   exact bi g1 H hl1 hg1 (Gh.le (aQ (aQ (cm (PLe.q (fu (by omega))) (aQ (aQ (cm (PLe.of2 (lT.of_eq (congrArg (PV.own 16 g1) (lu (f := aT) hy8)))) bY)))))) bu (dp bv))
  refine ae 3 tk rfl ?_
  refine aR rfl rfl rfl H (fun H=>?_) (fun H=>?_)
  ·refine ae 2 tk rfl ?_
   obtain ⟨x46,k46,H⟩ := bg H
   refine aN tk k46.1 (aF (fun _=>rfl) k46.2) ?_
   refine ae 4 tk rfl ?_
   obtain ⟨x51,k51,H⟩ := bg H
   refine iU (tag := 16) rfl (fun ho16=>?_)
   refine ib tk ⟨k51.1,(fe k51.2)⟩ (eY ho16 k51.2) ?_
   refine ag tk rfl ?_
   obtain ⟨y9,hy9,H⟩ := ef H
   refine nj tk rfl rfl rfl rfl rfl rfl rfl rfl (by rw [zl]; exact (zg.1 k51.2).1) (PLe.refl _ _) rfl rfl rfl rfl (by decide) (iL (fun _=>rfl) k51.2 rfl hy9) ?_
   refine ac (aP (bl 2 tk rfl ?_))
   exact bi g1 H hl1 hg1 (Gh.le (aQ (aQ (cm (PLe.q (fu (by omega))) (aQ (aQ (cm (PLe.of2 (lT.of_eq (congrArg (PV.own 16 g1) (lu (f := aT) hy9)))) bY)))))) bu (dp bv))
  refine ae 7 tk rfl ?_
  obtain ⟨x51,k51,H⟩ := bg H
  refine iU (tag := 16) rfl (fun ho16=>?_)
  refine ib tk ⟨k51.1,(fe k51.2)⟩ (eY ho16 k51.2) ?_
  refine ag tk rfl ?_
  obtain ⟨y10,hy10,H⟩ := ef H
  refine nj tk rfl rfl rfl rfl rfl rfl rfl rfl (by rw [zl]; exact (zg.1 k51.2).1) (PLe.refl _ _) rfl rfl rfl rfl (by decide) (iL (fun _=>rfl) k51.2 rfl hy10) ?_
  refine ac (aP (bl 2 tk rfl ?_))
  exact bi g1 H hl1 hg1 (Gh.le (aQ (aQ (cm (PLe.q (fu (by omega))) (aQ (aQ (cm (PLe.of2 (lT.of_eq (congrArg (PV.own 16 g1) (lu (f := aT) hy10)))) bY)))))) bu (dp bv))
 refine al 3 tk rfl (cQ 6 rfl rfl rfl ?_)
 exact aV tk H rfl
def cn (sA : List (List UInt8)) (v : List UInt8) : Option (Bool) :=
 af (cw sA v) fun x7 =>
 some (decide (x7 ≥ (0 : Int)))
theorem gu (sA : List (List UInt8)) (v : List UInt8) (r : Bool) (H : cn sA v = some r) :
  aJ Tryz.prog 59 [(.list 9 (sA.map bm)),(.str v)] (ay r) := by
 unfold cn at H
 refine PH.ap Tryz.func59 Tryz.ntmps59 ?_
 refine al 1 tk rfl (ab (aa (ae 2 tk rfl ?_)))
 obtain ⟨x7,h7,H⟩ := av H
 have s7 := ii sA v _ h7
 refine ak Tryz.call97 (fG.r) s7 ?_
 refine ae 2 tk rfl (ac ?_)
 exact aV tk H rfl
def cb (sA : List (List UInt8)) (v : List UInt8) : Option (Bool × (List (List UInt8))) :=
 af (cG sA v) fun x7 =>
 af (kw (x7.2.length = sA.length) ()) fun (_ : Unit) =>
 some ((decide (x7.1 ≥ (0 : Int))),x7.2)
theorem jD (g_sA : OwnRef) (sA : List (List UInt8)) (v : List UInt8) (r : Bool × (List (List UInt8))) (H : cb sA v = some r) :
  PH Tryz.prog 59 [(.own 0 g_sA (sA.map bm).length),(.str v)] ⟨fun _=>none,upd (fun _=>none) 0 (some ⟨g_sA,9,(sA.map bm),true⟩)⟩ (fun u H=>u = (ay r.1) ∧ H = ⟨fun _=>none,upd (fun _=>none) 0 (some ⟨g_sA,9,(r.2.map bm),true⟩)⟩) := by
 unfold cb at H
 refine PH.ap Tryz.func59 Tryz.ntmps59 ?_
 refine al 1 tk rfl (ab (aa (ae 2 tk rfl ?_)))
 obtain ⟨x7,h7,H⟩ := av H
 have s7 := km g_sA sA v _ h7
 obtain ⟨_,q7_0,H⟩ := av H
 have l7_0 := (lE q7_0).1
 have z7_0 : (List.map bm sA).length = (List.map bm x7.2).length := by simpa using (l7_0).symm
 refine jl (g := 97) rfl rfl rfl Tryz.call97 [] [(0,0)] rfl rfl rfl rfl (fG.of2 (fH.cons (lT.own rfl) (fH.cons (lT.of_eq rfl) fH.nil))) (by rw [iA,gZ,iB]; rfl) s7 ?_
 rintro u7 H7h ⟨rfl,rfl⟩
 refine ⟨_,rfl,?_⟩
 refine gL (st' := ⟨_,_,fun _=>none,upd (fun _=>none) 0 (some ⟨g_sA,9,(x7.2.map bm),true⟩)⟩) (Gh.le (gC _ _) bu (dp bv)) ?_
 refine ae 2 tk rfl (ac ?_)
 obtain rfl := aD H
 refine jU (st' := ⟨9,upd (fun _=>.any) 4 (ay (decide (x7.1 ≥ (0 : Int)))),fun _=>none,upd (fun _=>none) 0 (some ⟨g_sA,9,(x7.2.map bm),true⟩)⟩) (Gh.le (aQ bY) bu (dp bv)) ?_
 refine oj tk rfl (ps := [(ay (decide (x7.1 ≥ (0 : Int))))]) ⟨_,_,rfl,rfl,rfl⟩ (PLe.q rfl) ⟨rfl,rfl⟩
def bF (sA : List LCol) (f : LCol → Option (Bool)) : Option (Bool) :=
 af (bW sA f) fun x7 =>
 some (decide (x7 ≥ (0 : Int)))
theorem ie {g_f : FuncId} {caps_f : List PV} (sA : List LCol) (f : LCol → Option (Bool)) (hg_f : ∀ (vs : Array Value) (w : World),(callFunc g_f vs).run Tryz.prog w = .ok (.enter g_f vs) w) (hp_f : ∀ a0 r,f a0 = some r → aJ Tryz.prog g_f ((.agg (aT a0)) :: caps_f) (ay r)) (r : Bool) (H : bF sA f = some r) :
  aJ Tryz.prog 133 [(.list 58 (sA.map aT)),(.fn g_f caps_f)] (ay r) := by
 unfold bF at H
 refine PH.ap Tryz.func133 Tryz.ntmps133 ?_
 refine al 1 tk rfl (ab (aa (ae 2 tk rfl ?_)))
 obtain ⟨x7,h7,H⟩ := av H
 have s7 := eV sA f hg_f hp_f _ h7
 refine ak Tryz.call124 (fG.r) s7 ?_
 refine ae 2 tk rfl (ac ?_)
 exact aV tk H rfl
def bh (sA : List LCardinalityTableSize) (f : LCardinalityTableSize → Option (Bool)) : Option (Bool) :=
 af (bA sA f) fun x7 =>
 some (decide (x7 ≥ (0 : Int)))
theorem eE {g_f : FuncId} {caps_f : List PV} (sA : List LCardinalityTableSize) (f : LCardinalityTableSize → Option (Bool)) (hg_f : ∀ (vs : Array Value) (w : World),(callFunc g_f vs).run Tryz.prog w = .ok (.enter g_f vs) w) (hp_f : ∀ a0 r,f a0 = some r → aJ Tryz.prog g_f ((.agg (aX a0)) :: caps_f) (ay r)) (r : Bool) (H : bh sA f = some r) :
  aJ Tryz.prog 6 [(.list 40 (sA.map aX)),(.fn g_f caps_f)] (ay r) := by
 unfold bh at H
 refine PH.ap Tryz.func6 Tryz.ntmps6 ?_
 refine al 1 tk rfl (ab (aa (ae 2 tk rfl ?_)))
 obtain ⟨x7,h7,H⟩ := av H
 have s7 := eR sA f hg_f hp_f _ h7
 refine ak Tryz.call19 (fG.r) s7 ?_
 refine ae 2 tk rfl (ac ?_)
 exact aV tk H rfl
def kt (_rec90 : LExpr → Option (LExpr)) (rec135 : LExpr → (List (List UInt8)) → (List LExpr) → Option (LExpr)) (e : LExpr) : Option (LExpr) :=
 af (rec135 e ([] : List (List UInt8)) ([] : List LExpr)) fun x4 =>
 some x4
theorem WO_expr_Clone (rec90 : LExpr → Option (LExpr)) (rec135 : LExpr → (List (List UInt8)) → (List LExpr) → Option (LExpr)) (_hrec90 : ∀ a0 r,rec90 a0 = some r → aJ Tryz.prog 90 [(.agg (bE a0))] (.agg (bE r))) (hrec135 : ∀ a0 a1 a2 r,rec135 a0 a1 a2 = some r → aJ Tryz.prog 135 [(.agg (bE a0)),(.list 9 (a1.map bm)),(.list 92 (a2.map aE))] (.agg (bE r))) (e : LExpr) (r : LExpr) (H : kt rec90 rec135 e = some r) :
  aJ Tryz.prog 90 [(.agg (bE e))] (.agg (bE r)) := by
 unfold kt at H
 refine PH.ap Tryz.func90 Tryz.ntmps90 ?_
 refine ab (aa (aB ?_))
 refine aM tk fun b2=>?_
 refine ac (ab (aa (ag tk rfl ?_)))
 obtain ⟨x4,h4,H⟩ := av H
 have s4 := hrec135 e ([] : List (List UInt8)) ([] : List LExpr) _ h4
 refine ak Tryz.call135 (fG.of2 (fH.cons (lT.of_eq rfl) (fH.cons (lT.nil tk rfl) (fH.cons (lT.nil tk rfl) fH.nil)))) s4 ?_
 refine am tk ?_
 refine ac ?_
 exact gQ tk H rfl rfl rfl rfl rfl
def ij (rec90 : LExpr → Option (LExpr)) (rec135 : LExpr → (List (List UInt8)) → (List LExpr) → Option (LExpr)) (e : LExpr) (names : List (List UInt8)) (l : List LExpr) : Option (LExpr) :=
 af (
  cond (e.kind == (2 : Int))
   (af (cw names e.name) fun x17 =>
   cond (decide (x17 ≥ (0 : Int)))
    (cond (decide (x17 < (l.length : Int)))
     (af (aH l x17) fun (x28 : LExpr) =>
     af (rec90 x28) fun x30 =>
     some (.ret x30))
     (some (.next ())))
    (some (.next ())))
   (some (.next ()))) fun (fl1 : Flow (Unit) (LExpr))=>fl1.thenR fun _ =>
 af (aC (σ := List LExpr) (ρ := Empty) (fun (_ : Nat) (x2 : LExpr) (s2 : List LExpr) =>
  af (rec135 x2 names l) fun x45 =>
  af (cJ 88 s2 ([x45] : List LExpr)) fun (x47 : List LExpr) =>
  some (.next x47)) 0 e.args []) fun fl2=>fl2.thenP fun (s2 : List LExpr) =>
 some (LExpr.mk e.kind e.name e.index e.value s2)
theorem pw (rec90 : LExpr → Option (LExpr)) (rec135 : LExpr → (List (List UInt8)) → (List LExpr) → Option (LExpr)) (hrec90 : ∀ a0 r,rec90 a0 = some r → aJ Tryz.prog 90 [(.agg (bE a0))] (.agg (bE r))) (hrec135 : ∀ a0 a1 a2 r,rec135 a0 a1 a2 = some r → aJ Tryz.prog 135 [(.agg (bE a0)),(.list 9 (a1.map bm)),(.list 92 (a2.map aE))] (.agg (bE r))) (e : LExpr) (names : List (List UInt8)) (l : List LExpr) (r : LExpr) (H : ij rec90 rec135 e names l = some r) :
  aJ Tryz.prog 135 [(.agg (bE e)),(.list 9 (names.map bm)),(.list 92 (l.map aE))] (.agg (bE r)) := by
 unfold ij at H
 refine PH.ap Tryz.func135 Tryz.ntmps135 ?_
 refine ab (aa (aB ?_))
 refine aM tk fun b6=>?_
 refine ac (ab (al 3 tk rfl ?_))
 refine V.cutR (γ := Unit) (fun t1 g1=>⟨51,upd (upd (upd (upd (fun _=>.any) 6 (.box 6 b6 0)) 3 (.ptr (bE e))) 2 (.list 92 (l.map aE))) 1 (.list 9 (names.map bm)),upd (fun _=>none) 6 (some ⟨b6,[(ah 0),(.str []),(ah 0),(ah 0),(ah 0),(.str []),(.val (.slice none 0 0))]⟩),fun _=>none⟩) H (fun _ H Hp1=>?_) (fun t1 g1 H=>?_)
 ·refine aK rfl H (fun H=>?_) (fun H=>?_)
  ·refine ab (aa (ae 3 tk rfl ?_))
   obtain ⟨x17,h17,H⟩ := av H
   have s17 := ii names e.name _ h17
   refine ak Tryz.call97 (fG.r) s17 ?_
   refine ag tk rfl (ac (ab (aa (ae 3 tk rfl ?_))))
   refine aR rfl rfl rfl H (fun H=>?_) (fun H=>?_)
   ·refine ae 2 tk rfl (ax tk (zl _) ?_)
    refine ae 2 tk rfl (ac ?_)
    refine aK rfl H (fun H=>?_) (fun H=>?_)
    ·refine ab (aa (ae 2 tk rfl ?_))
     obtain ⟨x28,k28,H⟩ := bg H
     refine aN tk k28.1 (aF bj k28.2) ?_
     refine ag tk rfl ?_
     obtain ⟨x30,h30,H⟩ := av H
     have s30 := hrec90 x28 _ h30
     refine ak Tryz.call90 (fG.r) s30 ?_
     refine am tk ?_
     refine ac ?_
     obtain rfl := aD H
     obtain rfl := aU Hp1
     refine bc tk rfl (ps := [(.agg (bE x30))]) ⟨_,_,rfl,⟨_,_,_,_,_,rfl,rfl,rfl,rfl⟩,rfl⟩ (PLe.q rfl)
    refine ao ?_
    refine aS _ () (aD H).symm Gh.d
   refine ae 5 tk rfl (ac (dl rfl (ao ?_)))
   refine aS _ () (aD H).symm Gh.d
  refine ao ?_
  refine aS _ () (aD H).symm Gh.d
 refine ab (aa (ag tk rfl ?_))
 refine aM tk fun b8=>?_
 refine am tk ?_
 refine ac (ab (aa (ag tk rfl (am tk ?_))))
 refine ac (ab (ab (aa (ae 2 tk rfl (ax tk (zl _) ?_)))))
 refine ag tk rfl (ac (jq tk 8 6 47 (e := 92) rfl rfl rfl rfl ?_))
 refine ek (γ := OwnRef) tk 36 35 34 (fun s2 g2=>upd (upd (upd (upd (fun _=>.any) 8 (.box 8 b8 0)) 6 (.box 6 b6 0)) 2 (.list 92 (l.map aE))) 1 (.list 9 (names.map bm))) (fun s2 g2=>upd (upd (fun _=>none) 8 (some ⟨b8,[(ah e.kind),(.str e.name),(ah e.index),(ah e.value.kind),(ah e.value.int),(.str e.value.text),(.own 47 g2 (s2.map aE).length)]⟩)) 6 (some ⟨b6,[(ah 0),(.str []),(ah 0),(ah 0),(ah 0),(.str []),(.val (.slice none 0 0))]⟩)) (fun s2 g2=>upd (fun _=>none) 47 (some ⟨g2,92,(s2.map aE),true⟩)) (⟨none,0⟩) H (fun fl2 Hp2 j2 s2 g2 hz2 hl2 x2 fb2 hx2 H hg2=>?_) (fun s2 g2 H=>?_)
 ·refine ab (az (ab (aa (aN tk (zn j2) (bd bj hx2) ?_))))
  refine ag tk rfl ?_
  refine aM tk fun b10=>?_
  refine am tk ?_
  refine ac (fN 10 ?_)
  refine bn tk mok ⟨true,false,[42]⟩ [0,1,2,3,4,5,6,7,8,9] rfl (by decide +kernel) rfl (bt rfl (bI ?_))
  refine aL 3 rfl ?_
  obtain ⟨x45,h45,H⟩ := av H
  have s45 := hrec135 x2 names l _ h45
  refine bq Tryz.call135 (fG.r) s45 ?_
  refine bt rfl ?_
  obtain ⟨x47,h47,H⟩ := av H
  have k47 := ci h47
  refine fM (rows2' := List.map aE ([x45] : List LExpr)) (rows' := List.map aE x47) tk rfl rfl rfl rfl rfl rfl rfl rfl rfl rfl rfl rfl rfl rfl (dS.trans (b := List.map bE [x45]) (dS.refl _) (dS.of_eq (fV bj [x45]))) (cW k47.1) (cX k47.2.1) (cY k47.2.2) fun g47=>?_
  refine bt rfl (bB ?_)
  refine bf (aP (bl 2 tk rfl ?_))
  exact bi g47 H hl2 hg2
 refine ab (aa (aq tk ?_))
 refine am tk ?_
 refine ac (fL 6 6 rfl rfl rfl rfl rfl ?_)
 exact gQ tk H rfl rfl rfl rfl rfl
mutual
def gG : Nat → LExpr → Option (LExpr)
 | 0,_=>none
 | n + 1,v0=>kt (fun b0=>gG n b0) (fun b0 b1 b2=>da n b0 b1 b2) v0
def da : Nat → LExpr → (List (List UInt8)) → (List LExpr) → Option (LExpr)
 | 0,_,_,_=>none
 | n + 1,v0,v1,v2=>ij (fun b0=>gG n b0) (fun b0 b1 b2=>da n b0 b1 b2) v0 v1 v2
end
theorem WF_expr_Clone  (n : Nat) : (∀ a0 r,gG n a0 = some r → aJ Tryz.prog 90 [(.agg (bE a0))] (.agg (bE r))) ∧ (∀ a0 a1 a2 r,da n a0 a1 a2 = some r → aJ Tryz.prog 135 [(.agg (bE a0)),(.list 9 (a1.map bm)),(.list 92 (a2.map aE))] (.agg (bE r))) := by
 induction n with
 | zero=>exact ⟨(by intros; rename_i h; exact absurd (show (none : Option _) = some _ from h) (by simp)),(by intros; rename_i h; exact absurd (show (none : Option _) = some _ from h) (by simp))⟩
 | succ n ih =>
  exact ⟨(fun v0 r h=>WO_expr_Clone (fun b0=>gG n b0) (fun b0 b1 b2=>da n b0 b1 b2) ih.1 ih.2 v0  r h),(fun v0 v1 v2 r h=>pw (fun b0=>gG n b0) (fun b0 b1 b2=>da n b0 b1 b2) ih.1 ih.2 v0 v1 v2  r h)⟩
def iy (e : LExpr) : Option (LExpr) := eH fun n=>gG n e
theorem mO (e : LExpr) (r : LExpr) (H : iy e = some r) :
  aJ Tryz.prog 90 [(.agg (bE e))] (.agg (bE r)) := by
 obtain ⟨n,h⟩ := dU H
 exact (WF_expr_Clone  n).1 e r h
def cr (slices : List (List LExpr)) : Option ((List LExpr)) :=
 af (aC (σ := Int) (ρ := Empty) (fun (_ : Nat) (x1 : List LExpr) (s1 : Int) =>
  cond (decide ((IntKind.i64.wrap (s1 + (x1.length : Int))) < (0 : Int)))
   (none)
   (some (.next (IntKind.i64.wrap (s1 + (x1.length : Int)))))) 0 slices 0) fun fl1=>fl1.thenP fun (s1 : Int) =>
 af (growI 88 s1) fun (_ : Unit) =>
 af (aC (σ := List LExpr) (ρ := Empty) (fun (_ : Nat) (x2 : List LExpr) (s2 : List LExpr) =>
  af (cJ 88 s2 x2) fun (x33 : List LExpr) =>
  some (.next x33)) 0 slices []) fun fl2=>fl2.thenP fun (s2 : List LExpr) =>
 some s2
theorem jg {m : Nat} (slices : List (List LExpr)) (r : (List LExpr)) (H : cr slices = some r) :
  dP Tryz.prog 51 [(.list 29 (slices.map (fg 92 aE)))] (iY m 92 (r.map aE)) := by
 unfold cr at H
 refine PH.ap Tryz.func51 Tryz.ntmps51 ?_
 refine al 1 tk rfl (al 1 tk rfl (ab (ab (aa (ag tk rfl (ax tk (zl _) ?_))))))
 refine ag tk rfl (ac ?_)
 refine ek tk 11 10 9 (fun s1 g1=>upd (upd (fun _=>.any) 3 (ah s1)) 0 (.list 29 (slices.map (fg 92 aE)))) nB nO () H (fun fl1 Hp1 j1 s1 g1 hz1 hl1 x1 fb1 hx1 H hg1=>?_) (fun s1 g1 H=>?_)
 ·refine ab (az (ab (aa ?_)))
  refine aN tk (zn j1) (bd (fun _=>rfl) hx1) ?_
  refine ae 2 tk rfl (ac (ab (aa (ae 2 tk rfl (ax tk (zl _) ?_)))))
  refine ae 2 tk rfl (ac (al 2 tk rfl ?_))
  refine aK rfl H (fun H=>?_) (fun H=>?_)
  ·cases H
  refine ao (aP (bl 2 tk rfl ?_))
  exact bi () H hl1 hg1
 refine ab (aa (ag tk rfl ?_))
 obtain ⟨_,h24,H⟩ := av H
 have s24 := grow_92 (m := 24) s1 h24
 refine qI (g := 92) rfl rfl rfl Tryz.call92 (fG.r) rfl rfl s24 (fun g24=>?_)
 refine ag tk rfl (ac (ab (ab (aa (ag tk rfl (ax tk (zl _) ?_))))))
 refine ag tk rfl (ac ?_)
 refine ek (γ := OwnRef) tk 27 26 25 (fun s2 g2=>upd (fun _=>.any) 6 (.own 24 g2 (s2.map aE).length)) nB (fun s2 g2=>upd (fun _=>none) 24 (some ⟨g2,92,(s2.map aE),true⟩)) g24 H (fun fl2 Hp2 j2 s2 g2 hz2 hl2 x2 fb2 hx2 H hg2=>?_) (fun s2 g2 H=>?_)
 ·refine ab (az (ab (aa ?_)))
  refine aN tk (zn j2) (bd (fun _=>rfl) hx2) ?_
  refine ae 2 tk rfl (ac (aa (ae 2 tk rfl ?_)))
  obtain ⟨x33,h33,H⟩ := av H
  have k33 := ci h33
  refine cy (rows2' := List.map aE x2) (rows' := List.map aE x33) tk rfl rfl rfl rfl rfl rfl rfl rfl rfl rfl rfl rfl rfl (dS.refl _) (cW k33.1) (cX k33.2.1) (cY k33.2.2) fun g33=>?_
  refine ag tk rfl (ac (aP (bl 2 tk rfl ?_)))
  exact bi g33 H hl2 hg2
 refine al 2 tk rfl ?_
 obtain rfl := aD H
 refine gT tk rfl
def dD (e : LExpr) (c0_0 : LTable) : Option (Bool) :=
 cond (e.kind == (2 : Int))
  (af (dE e.name c0_0) fun x11 =>
  cond (!x11)
   (some true)
   (cond (e.kind == (1 : Int))
    (some true)
    (cond (e.kind == (3 : Int))
     (some true)
     (some (e.kind == (4 : Int))))))
  (cond (e.kind == (1 : Int))
   (some true)
   (cond (e.kind == (3 : Int))
    (some true)
    (some (e.kind == (4 : Int)))))
theorem lQ (e : LExpr) (c0_0 : LTable) (r : Bool) (H : dD e c0_0 = some r) :
  aJ Tryz.prog 171 [(.agg (bE e)),(.ptr [.fn 170 [(.ptr (bS c0_0))]])] (ay r) := by
 unfold dD at H
 refine PH.ap Tryz.func171 Tryz.ntmps171 ?_
 refine ab (aa (aB ?_))
 refine ag tk rfl (ac (ab (aa (ae 4 tk rfl ?_))))
 refine aR rfl rfl rfl H (fun H=>?_) (fun H=>?_)
 ·refine ae 3 tk rfl ?_
  obtain ⟨x11,h11,H⟩ := av H
  have s11 := lX e.name c0_0 _ h11
  refine ak Tryz.call170 (fG.r) s11 ?_
  refine ae 3 tk rfl ?_
  refine aR rfl rfl rfl H (fun H=>?_) (fun H=>?_)
  ·refine ae 15 tk rfl (ac ?_)
   exact aV tk H rfl
  refine ae 5 tk rfl ?_
  refine aR rfl rfl rfl H (fun H=>?_) (fun H=>?_)
  ·refine ae 10 tk rfl (ac ?_)
   exact aV tk H rfl
  refine ae 5 tk rfl ?_
  refine aR rfl rfl rfl H (fun H=>?_) (fun H=>?_)
  ·refine ae 5 tk rfl (ac ?_)
   exact aV tk H rfl
  refine ae 5 tk rfl (ac ?_)
  exact aV tk H rfl
 refine ae 12 tk rfl ?_
 refine aR rfl rfl rfl H (fun H=>?_) (fun H=>?_)
 ·refine ae 10 tk rfl (ac ?_)
  exact aV tk H rfl
 refine ae 5 tk rfl ?_
 refine aR rfl rfl rfl H (fun H=>?_) (fun H=>?_)
 ·refine ae 5 tk rfl (ac ?_)
  exact aV tk H rfl
 refine ae 5 tk rfl (ac ?_)
 exact aV tk H rfl
def bV (sA : List (List UInt8)) (f : (List UInt8) → Option (Bool)) : Option (Bool) :=
 af (dr sA f) fun x7 =>
 some (decide (x7 ≥ (0 : Int)))
theorem jk {g_f : FuncId} {caps_f : List PV} (sA : List (List UInt8)) (f : (List UInt8) → Option (Bool)) (hg_f : ∀ (vs : Array Value) (w : World),(callFunc g_f vs).run Tryz.prog w = .ok (.enter g_f vs) w) (hp_f : ∀ a0 r,f a0 = some r → aJ Tryz.prog g_f ((.str a0) :: caps_f) (ay r)) (r : Bool) (H : bV sA f = some r) :
  aJ Tryz.prog 56 [(.list 9 (sA.map bm)),(.fn g_f caps_f)] (ay r) := by
 unfold bV at H
 refine PH.ap Tryz.func56 Tryz.ntmps56 ?_
 refine al 1 tk rfl (ab (aa (ae 2 tk rfl ?_)))
 obtain ⟨x7,h7,H⟩ := av H
 have s7 := jF sA f hg_f hp_f _ h7
 refine ak Tryz.call95 (fG.r) s7 ?_
 refine ae 2 tk rfl (ac ?_)
 exact aV tk H rfl
def ce (x : Int) : Int :=
 bL (dz x) fun x7 =>
 x7
theorem ke (x : Int) :
  aJ Tryz.prog 25 [(.val (.int .u64 x))] (ah (ce x)) := by
 obtain ⟨r,H⟩ : ∃ r,ce x = r := ⟨_,rfl⟩
 rw [H]
 unfold ce at H
 refine PH.ap Tryz.func25 Tryz.ntmps25 ?_
 refine al 1 tk rfl (ab (dl rfl (ao (ab (aa (ag tk rfl ?_))))))
 obtain ⟨x7,h7,H⟩ := ef H
 have s7 := ni x
 rw [h7] at s7
 refine ak Tryz.call61 (fG.r) s7 ?_
 refine ag tk rfl (ac ?_)
 exact cE tk H rfl
def dZ (n : Int) (picks : List Int) : Option (LJoinorderTree) :=
 af (nZ n) fun (n1 : Nat) =>
 af (aC (σ := List LJoinorderTree) (ρ := Empty) (fun (j1 : Nat) (_ : Nat) (s1 : List LJoinorderTree) =>
  af (cJ 32 s1 ([(LJoinorderTree.mk (j1 : Int) [])] : List LJoinorderTree)) fun (x20 : List LJoinorderTree) =>
  some (.next x20)) 0 (List.range n1) []) fun fl1=>fl1.thenP fun (s1 : List LJoinorderTree) =>
 af (gD (σ := List LJoinorderTree × Int) (ρ := Empty) (fun (s2 : List LJoinorderTree × Int) =>
  cond (decide ((s2.1.length : Int) > (1 : Int)))
   (af (
    cond (decide ((picks.length : Int) > (0 : Int)))
     (af (remI s2.2 (picks.length : Int)) fun (x35 : Int) =>
     af (aH picks x35) fun (x36 : Int) =>
     some x36)
     (some s2.2)) fun (t7 : Int) =>
   af (remN (IntKind.u64.wrap t7) (IntKind.u64.wrap (s2.1.length : Int))) fun (x43 : Int) =>
   af (aH s2.1 (IntKind.i64.wrap x43)) fun (x47 : LJoinorderTree) =>
   af (delI s2.1 (IntKind.i64.wrap x43) (IntKind.i64.wrap ((IntKind.i64.wrap x43) + (1 : Int)))) fun x53 =>
   af (remN (IntKind.u64.wrap (IntKind.i64.wrap (Int.tdiv t7 (7 : Int)))) (IntKind.u64.wrap (x53.length : Int))) fun (x60 : Int) =>
   af (aH x53 (IntKind.i64.wrap x60)) fun (x67 : LJoinorderTree) =>
   af (aH x53 (IntKind.i64.wrap x60)) fun (_ : LJoinorderTree) =>
   bL (x53.set ((IntKind.i64.wrap x60).toNat) (LJoinorderTree.mk 0 [x47,x67])) fun (y8 : List LJoinorderTree) =>
   some (.next (y8,(IntKind.i64.wrap (s2.2 + (1 : Int))))))
   (some (.brk (s2.1,s2.2)))) (s1,0)) fun fl2=>fl2.thenP fun (s2 : List LJoinorderTree × Int) =>
 af (aH s2.1 (0 : Int)) fun (x73 : LJoinorderTree) =>
 some x73
theorem oG (n : Int) (picks : List Int) (r : LJoinorderTree) (H : dZ n picks = some r) :
  aJ Tryz.prog 11 [(ah n),(.list 3 (picks.map aY))] (.agg (aW r)) := by
 unfold dZ at H
 refine PH.ap Tryz.func11 Tryz.ntmps11 ?_
 refine ab (aa ?_)
 refine aM tk fun b4=>?_
 refine ac (al 1 tk rfl (ab (al 2 tk rfl ?_)))
 obtain ⟨n1,hs1,H⟩ := av H
 have hz1 := qx hs1
 obtain ⟨fl1,H1,Hp1⟩ := av H
 refine ik (τ := List LJoinorderTree) (γ := OwnRef) (fun s1 g1=>⟨75,upd (upd (upd (fun _=>.any) 5 (.own 20 g1 (s1.map aA).length)) 4 (.box 4 b4 0)) 1 (.list 3 (picks.map aY)),upd (fun _=>none) 4 (some ⟨b4,[(ah 0),(.val (.slice none 0 0))]⟩),upd (fun _=>none) 20 (some ⟨g1,50,(s1.map aA),true⟩)⟩) (fun t=>fl1 = .next t) ?_ (fun s1 g1 hn1=>?_)
 ·refine az (iO tk 5 20 (e := 50) rfl rfl ?_)
  refine jo (fun j1 s1 g1=>⟨75,upd (upd (upd (upd (upd (fun _=>.any) 13 (ah (j1 : Int))) 12 (ah n)) 5 (.own 20 g1 (s1.map aA).length)) 4 (.box 4 b4 0)) 1 (.list 3 (picks.map aY)),upd (fun _=>none) 4 (some ⟨b4,[(ah 0),(.val (.slice none 0 0))]⟩),upd (fun _=>none) 20 (some ⟨g1,50,(s1.map aA),true⟩)⟩) (⟨none,0⟩) H1 Gh.d (fun j1 s1 g1 hj1 hr1=>?_)
  refine al 1 tk rfl (ab ?_)
  refine co rfl (fun h=>?_) (fun h=>?_)
  ·have hl1 := natLt hz1 h
   obtain ⟨x1,fb1,hx1,H,hg1⟩ := rMc hl1 hr1
   obtain rfl := natX hx1
   refine ao (ab (az (al 2 tk rfl (aa (ae 3 tk rfl (de tk (rows' := List.map aA ([(LJoinorderTree.mk (j1 : Int) [])] : List LJoinorderTree)) (dS.trans (b := List.map aW [(LJoinorderTree.mk (j1 : Int) [])]) (dS.cons (qc.cons (lT.of_eq rfl) (qc.cons (lT.nil tk rfl) qc.nil)) dS.nil) (dS.of_eq (fV bO [(LJoinorderTree.mk (j1 : Int) [])]))) ?_))))))
   obtain ⟨x20,h20,H⟩ := av H
   have k20 := ci h20
   refine cy (rows2' := List.map aA ([(LJoinorderTree.mk (j1 : Int) [])] : List LJoinorderTree)) (rows' := List.map aA x20) tk rfl rfl rfl rfl rfl rfl rfl rfl rfl rfl rfl rfl rfl (dS.refl _) (cW k20.1) (cX k20.2.1) (cY k20.2.2) fun g20=>?_
   refine ag tk rfl (ac (aP (bl 2 tk rfl ?_)))
   exact bi g20 H hl1 hg1 (Gh.le (aQ (aQ (aQ (aQ (cm (PLe.q (pint_succN hz1 hl1)) bY))))) (be rfl (fG.r) bu) (dp bv))
  have hn1 := rMd (natGe hz1 h) hr1
  refine ca rfl ?_
  refine aS s1 g1 hn1 Gh.d
 have H := fK hn1 Hp1
 refine ab (al 1 tk rfl ?_)
 obtain ⟨fl2,H2,Hp2⟩ := av H
 refine ik (τ := List LJoinorderTree × Int) (γ := OwnRef) (fun s2 g2=>⟨75,upd (upd (fun _=>.any) 5 (.own 20 g2 (s2.1.map aA).length)) 4 (.box 4 b4 0),upd (fun _=>none) 4 (some ⟨b4,[(ah 0),(.val (.slice none 0 0))]⟩),upd (fun _=>none) 20 (some ⟨g2,50,(s2.1.map aA),true⟩)⟩) (fun t=>fl2 = .next t) ?_ (fun s2 g2 hn2=>?_)
 ·refine az ?_
  refine mS (fun s2 g2=>⟨75,upd (upd (upd (upd (fun _=>.any) 7 (ah s2.2)) 5 (.own 20 g2 (s2.1.map aA).length)) 4 (.box 4 b4 0)) 1 (.list 3 (picks.map aY)),upd (fun _=>none) 4 (some ⟨b4,[(ah 0),(.val (.slice none 0 0))]⟩),upd (fun _=>none) 20 (some ⟨g2,50,(s2.1.map aA),true⟩)⟩) g1 H2 Gh.d (fun m2 s2 g2 hr2=>?_)
  obtain ⟨fb2,H,hg2⟩ := kF hr2
  refine ab (ab (aa (ag tk rfl (hZ tk (zl _) ?_))))
  refine ag tk rfl (ac ?_)
  refine aK rfl H (fun H=>?_) (fun H=>?_)
  ·refine ao (ab (az (al 2 tk rfl (ab (ab (aa (ag tk rfl (ax tk (zl _) ?_))))))))
   refine ag tk rfl (ac ?_)
   refine fm (γ := Unit) (fun t7 g7=>⟨75,upd (upd (upd (upd (upd (fun _=>.any) 8 (ah t7)) 7 (ah s2.2)) 5 (.own 20 g2 (s2.1.map aA).length)) 4 (.box 4 b4 0)) 1 (.list 3 (picks.map aY)),upd (fun _=>none) 4 (some ⟨b4,[(ah 0),(.val (.slice none 0 0))]⟩),upd (fun _=>none) 20 (some ⟨g2,50,(s2.1.map aA),true⟩)⟩) H (fun _ H=>?_) (fun t7 g7 H=>?_)
   ·refine aK rfl H (fun H=>?_) (fun H=>?_)
    ·refine aa (ae 3 tk rfl (ax tk (zl _) ?_))
     obtain ⟨x35,h35,H⟩ := av H
     have k35 := remI_some h35
     refine qW tk rfl rfl rfl rfl k35.1 k35.2 rfl ?_
     obtain ⟨x36,k36,H⟩ := bg H
     refine aN tk k36.1 (aF (fun _=>rfl) k36.2) ?_
     refine ae 2 tk rfl (ac ?_)
     refine aS _ () (aD H) Gh.d
    refine ao ?_
    refine aS _ () (aD H) Gh.d
   refine ab (aa (ae 3 tk rfl (hZ tk (zl _) ?_)))
   refine ag tk rfl ?_
   obtain ⟨x43,h43,H⟩ := av H
   have k43 := remN_some h43
   refine qW tk rfl rfl rfl rfl k43.1 k43.2 rfl (ae 2 tk rfl (ac (ab (aa (ae 2 tk rfl ?_)))))
   obtain ⟨x47,k47,H⟩ := bg H
   refine iU (tag := 20) rfl (fun ho20=>?_)
   refine ib tk ⟨k47.1,(fe k47.2)⟩ (eY ho20 k47.2) ?_
   refine lm tk rfl rfl rfl rfl rfl rfl rfl (aF bO k47.2) rfl rfl ?_
   refine aM tk fun b10=>?_
   refine am tk ?_
   refine ac (ab (aa (ae 4 tk rfl ?_)))
   obtain ⟨x53,h53,H⟩ := av H
   have s53 := W_delete_31 g2 s2.1 (IntKind.i64.wrap x43) (IntKind.i64.wrap ((IntKind.i64.wrap x43) + (1 : Int))) _ h53
   refine jl (g := 31) rfl rfl rfl Tryz.call31 [] [(20,0)] rfl rfl rfl rfl (fG.of2 (fH.cons (lT.own rfl) (fH.cons (lT.of_eq rfl) (fH.cons (lT.of_eq rfl) fH.nil)))) (by rw [iA,gZ,iB]; rfl) s53 ?_
   rintro u53 H53h ⟨rfl,rfl⟩
   refine ⟨_,rfl,?_⟩
   refine gL (st' := ⟨_,_,upd (upd (fun _=>none) 10 (some ⟨b10,(aW x47)⟩)) 4 (some ⟨b4,[(ah 0),(.val (.slice none 0 0))]⟩),upd (fun _=>none) 20 (some ⟨g2,50,(x53.map aA),true⟩)⟩) (Gh.le (gC _ _) (be rfl (fG.r) (be rfl (fG.r) bu)) (dp bv)) ?_
   refine nQ 53 (q := (.own 20 g2 (x53.map aA).length)) rfl (PLe.of2 (lT.own rfl)) (ag tk rfl (ac (ab (aa (ae 4 tk rfl (hZ tk (zl _) ?_))))))
   refine ag tk rfl ?_
   obtain ⟨x60,h60,H⟩ := av H
   have k60 := remN_some h60
   refine qW tk rfl rfl rfl rfl k60.1 k60.2 rfl (ae 2 tk rfl (ac ?_))
   refine nT (tag := 20) rfl (fun ho20=>?_)
   refine fN 10 ?_
   refine bn tk mok ⟨false,true,[64]⟩ [0,1,2,3,4,5,6,7,8,9,10] rfl (by decide +kernel) rfl (aL 5 rfl ?_)
   obtain ⟨x67,k67,H⟩ := bg H
   refine iF tk ⟨k67.1,(fe k67.2)⟩ (eY ho20 k67.2) ?_
   refine lf tk rfl rfl rfl rfl rfl rfl rfl rfl rfl (aF bO k67.2) rfl rfl (aL 2 rfl ?_)
   obtain ⟨x71,k71,H⟩ := bg H
   refine iF tk ⟨k71.1,(fe k71.2)⟩ (eY ho20 k71.2) ?_
   obtain ⟨y8,hy8,H⟩ := ef H
   refine pF tk rfl rfl rfl rfl rfl rfl rfl rfl rfl (by rw [zl]; exact (zg.1 k71.2).1) (PLe.of2 (lT.agg (fH.cons (lT.of_eq rfl) (fH.cons (lT.list (dS.trans (b := List.map aW [x47,x67]) (dS.refl _) (dS.of_eq (fV bO [x47,x67])))) fH.nil)))) rfl rfl rfl rfl (by decide) (iL bO k71.2 rfl hy8) ?_
   refine bf (aP (bl 3 tk rfl ?_))
   obtain rfl := aD H
   refine iH (y8,(IntKind.i64.wrap (s2.2 + (1 : Int)))) g2 hg2 (Gh.le (aQ (aQ (cm (PLe.of2 (lT.of_eq (congrArg (PV.own 20 g2) (lu (f := aA) hy8)))) (aQ bY)))) (be rfl (fG.r) bu) (dp bv))
  refine ca rfl ?_
  obtain rfl := aD H
  refine aS (s2.1,s2.2) g2 hg2 Gh.d
 have H := fK hn2 Hp2
 refine ab (aa (ag tk rfl ?_))
 obtain ⟨x73,k73,H⟩ := bg H
 refine iU (tag := 20) rfl (fun ho20=>?_)
 refine ib tk ⟨k73.1,(fe k73.2)⟩ (eY ho20 k73.2) ?_
 refine lm tk rfl rfl rfl rfl rfl rfl rfl (aF bO k73.2) rfl rfl (am tk ?_)
 refine ac ?_
 exact gQ tk H rfl rfl rfl rfl rfl
def eK (rec30 : LJoinorderGraph → LJoinorderTree → Option (Int)) (gA : LJoinorderGraph) (t : LJoinorderTree) : Option (Int) :=
 cond ((t.children.length : Int) == (0 : Int))
  (some 0)
  (af (gO gA t) fun x14 =>
  af (aH t.children 0) fun (x20 : LJoinorderTree) =>
  af (aH t.children 1) fun (x26 : LJoinorderTree) =>
  af (rec30 gA x20) fun x22 =>
  af (rec30 gA x26) fun x28 =>
  af (eJ gA x14.1) fun x32 =>
  some (IntKind.i64.wrap ((IntKind.i64.wrap (x22 + x28)) + x32)))
theorem qi (rec30 : LJoinorderGraph → LJoinorderTree → Option (Int)) (hrec30 : ∀ a0 a1 r,rec30 a0 a1 = some r → aJ Tryz.prog 30 [(.agg (ba a0)),(.agg (aW a1))] (ah r)) (gA : LJoinorderGraph) (t : LJoinorderTree) (r : Int) (H : eK rec30 gA t = some r) :
  aJ Tryz.prog 30 [(.agg (ba gA)),(.agg (aW t))] (ah r) := by
 unfold eK at H
 refine PH.ap Tryz.func30 Tryz.ntmps30 ?_
 refine ab (aa (aB ?_))
 refine aB ?_
 refine ag tk rfl (ac (ab (ab (aa (ae 2 tk rfl (ax tk (zl _) ?_))))))
 refine ag tk rfl (ac ?_)
 refine aK rfl H (fun H=>?_) (fun H=>?_)
 ·refine al 1 tk rfl ?_
  exact aV tk H rfl
 refine ao (ab (aa (ae 2 tk rfl ?_)))
 obtain ⟨x14,h14,H⟩ := av H
 have s14 := kS gA t _ h14
 refine ak Tryz.call29 (fG.r) s14 ?_
 refine ae 5 tk rfl (ac (ab (bn tk mok ⟨false,false,[]⟩ [0,1,2,3,4,6,7,8,9,10,13,14,5,11,12,15,16,17] rfl (by decide +kernel) rfl (aL 3 rfl ?_))))
 obtain ⟨x20,k20,H⟩ := bg H
 refine aZ k20.1 (aF bO k20.2) ?_
 refine aL 4 rfl ?_
 obtain ⟨x26,k26,H⟩ := bg H
 refine aZ k26.1 (aF bO k26.2) ?_
 refine aL 3 rfl ?_
 obtain ⟨x22,h22,H⟩ := av H
 have s22 := hrec30 gA x20 _ h22
 refine bq Tryz.call30 (fG.r) s22 ?_
 obtain ⟨x28,h28,H⟩ := av H
 have s28 := hrec30 gA x26 _ h28
 refine bq Tryz.call30 (fG.r) s28 ?_
 refine bt rfl ?_
 obtain ⟨x32,h32,H⟩ := av H
 have s32 := mP gA x14.1 _ h32
 refine bq Tryz.call27 (fG.r) s32 ?_
 refine aL 2 rfl (bf ?_)
 exact aV tk H rfl
def fJ : Nat → LJoinorderGraph → LJoinorderTree → Option (Int)
 | 0,_,_=>none
 | n + 1,v0,v1=>eK (fun b0 b1=>fJ n b0 b1) v0 v1
theorem qg  (n : Nat) : (∀ a0 a1 r,fJ n a0 a1 = some r → aJ Tryz.prog 30 [(.agg (ba a0)),(.agg (aW a1))] (ah r)) := by
 induction n with
 | zero=>exact (by intros; rename_i h; exact absurd (show (none : Option _) = some _ from h) (by simp))
 | succ n ih =>
  exact (fun v0 v1 r h=>qi (fun b0 b1=>fJ n b0 b1) ih v0 v1  r h)
def jT (gA : LJoinorderGraph) (t : LJoinorderTree) : Option (Int) := eH fun n=>fJ n gA t
theorem qJ (gA : LJoinorderGraph) (t : LJoinorderTree) (r : Int) (H : jT gA t = some r) :
  aJ Tryz.prog 30 [(.agg (ba gA)),(.agg (aW t))] (ah r) := by
 obtain ⟨n,h⟩ := dU H
 exact (qg  n) gA t r h
def dJ (t : LTable) : Option (Int) :=
 af (dT t.name) fun x11 =>
 cond (!x11)
  (some 23)
  (cond ((t.columns.length : Int) == (0 : Int))
   (some 3)
   (cond (decide ((t.columns.length : Int) > (6 : Int)))
    (some 2)
    (af (aC (σ := Unit) (ρ := (Int)) (fun (j1 : Nat) (x1 : LCol) (_ : Unit) =>
     af (dT x1.name) fun x31 =>
     cond (!x31)
      (some (.ret 23))
      (af (ew t x1.name) fun x37 =>
      cond (decide (x37.1 < (j1 : Int)))
       (some (.ret 5))
       (cond (decide (x1.kind < (1 : Int)))
        (some (.ret 7))
        (cond (decide (x1.kind > (3 : Int)))
         (some (.ret 7))
         (some (.next ())))))) 0 t.columns ()) fun fl1=>fl1.thenR fun (_ : Unit) =>
    af (aC (σ := Unit) (ρ := (Int)) (fun (j2 : Nat) (x2 : Int) (_ : Unit) =>
     cond (decide (x2 < (0 : Int)))
      (some (.ret 9))
      (cond (decide (x2 ≥ (t.columns.length : Int)))
       (some (.ret 9))
       (af (aH t.columns x2) fun (x73 : LCol) =>
       cond x73.nullable
        (some (.ret 9))
        (cond (decide ((j2 : Int) > (0 : Int)))
         (af (aH t.primaryKey (IntKind.i64.wrap ((j2 : Int) - (1 : Int)))) fun (x86 : Int) =>
         cond (decide (x2 ≤ x86))
          (some (.ret 9))
          (some (.next ())))
         (some (.next ())))))) 0 t.primaryKey ()) fun fl2=>fl2.thenR fun (_ : Unit) =>
    cond ((t.primaryKey.length : Int) == (0 : Int))
     (some 9)
     (some 0))))
theorem nz (t : LTable) (r : Int) (H : dJ t = some r) :
  aJ Tryz.prog 42 [(.agg (bS t))] (ah r) := by
 unfold dJ at H
 refine PH.ap Tryz.func42 Tryz.ntmps42 ?_
 refine ab (aa (aB ?_))
 refine ag tk rfl (ac (ab (ab (aa (ae 2 tk rfl ?_)))))
 obtain ⟨x11,h11,H⟩ := av H
 have s11 := lO t.name _ h11
 refine ak Tryz.call75 (fG.r) s11 ?_
 refine ag tk rfl (ac ?_)
 refine aK rfl H (fun H=>?_) (fun H=>?_)
 ·refine al 1 tk rfl ?_
  exact aV tk H rfl
 refine ao (ab (ab (aa (ae 2 tk rfl (ax tk (zl _) ?_)))))
 refine ag tk rfl (ac ?_)
 refine aK rfl H (fun H=>?_) (fun H=>?_)
 ·refine al 1 tk rfl ?_
  exact aV tk H rfl
 refine ao (ab (ab (aa (ae 2 tk rfl (ax tk (zl _) ?_)))))
 refine ag tk rfl (ac ?_)
 refine aK rfl H (fun H=>?_) (fun H=>?_)
 ·refine al 1 tk rfl ?_
  exact aV tk H rfl
 refine ao (ab (ab (aa (ae 2 tk rfl (ax tk (zl _) ?_)))))
 refine ag tk rfl (ac ?_)
 refine dY tk 24 23 22 (fun s1 g1=>upd (fun _=>.any) 1 (.ptr (bS t))) nB nO () H (fun fl1 Hp1 j1 s1 g1 hz1 hl1 x1 fb1 hx1 H hg1=>?_) (fun s1 g1 H=>?_)
 ·refine ab (az (ab (aa (ag tk rfl ?_))))
  refine aN tk (zn j1) (bd (fun _=>rfl) hx1) ?_
  refine ag tk rfl ?_
  refine aM tk fun b4=>?_
  refine ag tk rfl (am tk ?_)
  refine ac (ab (ab (aa (ag tk rfl (aq tk ?_)))))
  obtain ⟨x31,h31,H⟩ := av H
  have s31 := lO x1.name _ h31
  refine ak Tryz.call75 (fG.r) s31 ?_
  refine ag tk rfl (ac ?_)
  refine aK rfl H (fun H=>?_) (fun H=>?_)
  ·refine al 1 tk rfl ?_
   obtain rfl := aD H
   have e1 : fl1 = .ret _ := hg1
   subst e1
   obtain rfl := aU Hp1
   refine bc tk rfl (ps := [(ah 23)]) ⟨_,_,rfl,rfl,rfl⟩ (PLe.q rfl)
  refine ao (ab (ab (aa (ae 2 tk rfl (aq tk ?_)))))
  obtain ⟨x37,h37,H⟩ := av H
  have s37 := pm t x1.name _ h37
  refine ak Tryz.call76 (fG.r) s37 ?_
  refine ae 5 tk rfl (ac (al 3 tk rfl ?_))
  refine aK rfl H (fun H=>?_) (fun H=>?_)
  ·refine al 1 tk rfl ?_
   obtain rfl := aD H
   have e1 : fl1 = .ret _ := hg1
   subst e1
   obtain rfl := aU Hp1
   refine bc tk rfl (ps := [(ah 5)]) ⟨_,_,rfl,rfl,rfl⟩ (PLe.q rfl)
  refine ao (ab (aa (ag tk rfl (aq tk ?_))))
  refine ae 2 tk rfl ?_
  refine aR rfl rfl rfl H (fun H=>?_) (fun H=>?_)
  ·refine ae 4 tk rfl (ac (bU rfl (al 1 tk rfl ?_)))
   obtain rfl := aD H
   have e1 : fl1 = .ret _ := hg1
   subst e1
   obtain rfl := aU Hp1
   refine bc tk rfl (ps := [(ah 7)]) ⟨_,_,rfl,rfl,rfl⟩ (PLe.q rfl)
  refine ag tk rfl (aq tk ?_)
  refine ae 2 tk rfl (ac ?_)
  refine aK rfl H (fun H=>?_) (fun H=>?_)
  ·refine al 1 tk rfl ?_
   obtain rfl := aD H
   have e1 : fl1 = .ret _ := hg1
   subst e1
   obtain rfl := aU Hp1
   refine bc tk rfl (ps := [(ah 7)]) ⟨_,_,rfl,rfl,rfl⟩ (PLe.q rfl)
  refine ao (aP (bl 2 tk rfl ?_))
  exact bi () H hl1 hg1
 refine ab (ab (aa (ae 2 tk rfl (ax tk (zl _) ?_))))
 refine ag tk rfl (ac ?_)
 refine dY tk 55 54 53 (fun s2 g2=>upd (fun _=>.any) 1 (.ptr (bS t))) nB nO () H (fun fl2 Hp2 j2 s2 g2 hz2 hl2 x2 fb2 hx2 H hg2=>?_) (fun s2 g2 H=>?_)
 ·refine ab (az (ab (aa (ag tk rfl ?_))))
  refine aN tk (zn j2) (bd (fun _=>rfl) hx2) ?_
  refine ae 3 tk rfl (ac (ab (aa (ae 3 tk rfl ?_))))
  refine aR rfl rfl rfl H (fun H=>?_) (fun H=>?_)
  ·refine ae 28 tk rfl (ac (bU rfl (al 1 tk rfl ?_)))
   obtain rfl := aD H
   have e2 : fl2 = .ret _ := hg2
   subst e2
   obtain rfl := aU Hp2
   refine bc tk rfl (ps := [(ah 9)]) ⟨_,_,rfl,rfl,rfl⟩ (PLe.q rfl)
  refine ae 3 tk rfl (ax tk (zl _) ?_)
  refine ae 3 tk rfl ?_
  refine aR rfl rfl rfl H (fun H=>?_) (fun H=>?_)
  ·refine ae 21 tk rfl (ac (bU rfl (al 1 tk rfl ?_)))
   obtain rfl := aD H
   have e2 : fl2 = .ret _ := hg2
   subst e2
   obtain rfl := aU Hp2
   refine bc tk rfl (ps := [(ah 9)]) ⟨_,_,rfl,rfl,rfl⟩ (PLe.q rfl)
  refine ae 3 tk rfl ?_
  obtain ⟨x73,k73,H⟩ := bg H
  refine aN tk k73.1 (aF (fun _=>rfl) k73.2) ?_
  refine ae 4 tk rfl ?_
  refine aR rfl rfl rfl H (fun H=>?_) (fun H=>?_)
  ·refine ae 13 tk rfl (ac (bU rfl (al 1 tk rfl ?_)))
   obtain rfl := aD H
   have e2 : fl2 = .ret _ := hg2
   subst e2
   obtain rfl := aU Hp2
   refine bc tk rfl (ps := [(ah 9)]) ⟨_,_,rfl,rfl,rfl⟩ (PLe.q rfl)
  refine ae 3 tk rfl ?_
  refine aR rfl rfl rfl H (fun H=>?_) (fun H=>?_)
  ·refine ae 5 tk rfl ?_
   obtain ⟨x86,k86,H⟩ := bg H
   refine aN tk k86.1 (aF (fun _=>rfl) k86.2) ?_
   refine ae 4 tk rfl (ac ?_)
   refine aK rfl H (fun H=>?_) (fun H=>?_)
   ·refine al 1 tk rfl ?_
    obtain rfl := aD H
    have e2 : fl2 = .ret _ := hg2
    subst e2
    obtain rfl := aU Hp2
    refine bc tk rfl (ps := [(ah 9)]) ⟨_,_,rfl,rfl,rfl⟩ (PLe.q rfl)
   refine ao (aP (bl 2 tk rfl ?_))
   exact bi () H hl2 hg2
  refine ae 10 tk rfl (ac (dl rfl (ao (aP (bl 2 tk rfl ?_)))))
  exact bi () H hl2 hg2
 refine ab (ab (aa (ae 2 tk rfl (ax tk (zl _) ?_))))
 refine ag tk rfl (ac ?_)
 refine aK rfl H (fun H=>?_) (fun H=>?_)
 ·refine al 1 tk rfl ?_
  exact aV tk H rfl
 refine ao (al 1 tk rfl ?_)
 exact aV tk H rfl
def dw (sA : LSchema) (fk : LForeignKey) : Option (Int) :=
 af (dR sA fk.table) fun x17 =>
 af (dR sA fk.refTable) fun x24 =>
 bL (
  cond (!x17.2)
   (true)
   ((!x24.2))) fun (t1 : Bool) =>
 cond t1
  (some 4)
  (af (aH sA.tables x17.1) fun (x36 : LTable) =>
  af (aH sA.tables x24.1) fun (x41 : LTable) =>
  cond ((fk.columns.length : Int) != (x41.primaryKey.length : Int))
   (some 3)
   (af (aC (σ := Unit) (ρ := (Int)) (fun (j2 : Nat) (x2 : Int) (_ : Unit) =>
    bL (
     cond (decide (x2 < (0 : Int)))
      (true)
      ((decide (x2 ≥ (x36.columns.length : Int))))) fun (t4 : Bool) =>
    cond t4
     (some (.ret 3))
     (af (aH x36.columns x2) fun (x70 : LCol) =>
     af (aH x41.primaryKey (j2 : Int)) fun (x78 : Int) =>
     af (aH x41.columns x78) fun (x80 : LCol) =>
     cond (x70.kind != x80.kind)
      (some (.ret 7))
      (some (.next ())))) 0 fk.columns ()) fun fl2=>fl2.thenR fun (_ : Unit) =>
   some 0))
theorem lN (sA : LSchema) (fk : LForeignKey) (r : Int) (H : dw sA fk = some r) :
  aJ Tryz.prog 43 [(.agg (bs sA)),(.agg (im fk))] (ah r) := by
 unfold dw at H
 refine PH.ap Tryz.func43 Tryz.ntmps43 ?_
 refine ab (aa (aB ?_))
 refine aB ?_
 refine ag tk rfl (ac (ab (aa (ae 3 tk rfl ?_))))
 obtain ⟨x17,h17,H⟩ := av H
 have s17 := jm sA fk.table _ h17
 refine ak Tryz.call77 (fG.r) s17 ?_
 refine ae 5 tk rfl (ac (ab (aa (ae 3 tk rfl ?_))))
 obtain ⟨x24,h24,H⟩ := av H
 have s24 := jm sA fk.refTable _ h24
 refine ak Tryz.call77 (fG.r) s24 ?_
 refine ae 5 tk rfl (ac (ab (ab ?_)))
 refine eF (γ := Unit) (fun t1 g1=>⟨85,upd (upd (upd (upd (upd (fun _=>.any) 32 (ay t1)) 7 (ah x24.1)) 5 (ah x17.1)) 3 (.ptr (im fk))) 2 (.ptr (bs sA)),fun _=>none,fun _=>none⟩) H (fun _ H=>?_) (fun t1 g1 H=>?_)
 ·refine aa (ae 3 tk rfl ?_)
  refine aR rfl rfl rfl H (fun H=>?_) (fun H=>?_)
  ·refine ae 3 tk rfl (ac ?_)
   refine aS _ () H Gh.d
  refine ae 3 tk rfl (ac ?_)
  refine aS _ () H Gh.d
 refine aK rfl H (fun H=>?_) (fun H=>?_)
 ·refine al 1 tk rfl ?_
  exact aV tk H rfl
 refine ao (ab (bn tk mok ⟨false,false,[]⟩ [0,1,2,3,4,5,6,7,8,9,10,11,12,13] rfl (by decide +kernel) rfl (aL 3 rfl ?_)))
 obtain ⟨x36,k36,H⟩ := bg H
 refine aZ k36.1 (aF (fun _=>rfl) k36.2) ?_
 refine aL 4 rfl ?_
 obtain ⟨x41,k41,H⟩ := bg H
 refine aZ k41.1 (aF (fun _=>rfl) k41.2) ?_
 refine bt rfl ?_
 refine qL rfl rfl rfl rfl rfl rfl rfl rfl fun b9=>?_
 refine qL rfl rfl rfl rfl rfl rfl rfl rfl fun b10=>?_
 refine bB ?_
 refine bB ?_
 refine bf (ab (ab (aa (ae 2 tk rfl (ax tk (zl _) ?_)))))
 refine ag tk rfl (aq tk ?_)
 refine ax tk (zl _) ?_
 refine ag tk rfl (ac ?_)
 refine aK rfl H (fun H=>?_) (fun H=>?_)
 ·refine al 1 tk rfl ?_
  exact aV tk H rfl
 refine ao (ab (ab (aa (ae 2 tk rfl (ax tk (zl _) ?_)))))
 refine ag tk rfl (ac ?_)
 obtain ⟨fl2,H2,Hp2⟩ := av H
 refine gv tk 51 rfl rfl (fun hz2 _=>?_)
 rw [zl] at hz2
 refine ik (τ := Unit) (γ := Unit) (fun s2 g2=>⟨85,fun _=>.any,fun _=>none,fun _=>none⟩) (fun t=>fl2 = .next t) ?_ (fun s2 g2 hn2=>?_)
 ·refine az ?_
  refine jo (fun j2 s2 g2=>⟨85,upd (upd (upd (upd (upd (fun _=>.any) 53 (ah (j2 : Int))) 52 (ah (fk.columns.length : Int))) 51 (.list 3 (fk.columns.map aY))) 10 (.box 10 b10 0)) 9 (.box 9 b9 0),upd (upd (fun _=>none) 10 (some ⟨b10,(bS x41)⟩)) 9 (some ⟨b9,(bS x36)⟩),fun _=>none⟩) () H2 Gh.d (fun j2 s2 g2 hj2 hr2=>?_)
  refine al 1 tk rfl (ab ?_)
  refine co rfl (fun h=>?_) (fun h=>?_)
  ·have hl2 := rowsLt h
   obtain ⟨x2,fb2,hx2,H,hg2⟩ := rMc hl2 hr2
   refine ao (ab (az (ab (aa (ag tk rfl ?_)))))
   refine aN tk (zn j2) (bd (fun _=>rfl) hx2) ?_
   refine ae 3 tk rfl (ac (ab (ab ?_)))
   refine eF (γ := Unit) (fun t4 g4=>⟨85,upd (upd (upd (upd (upd (upd (upd (upd (fun _=>.any) 66 (ay t4)) 53 (ah (j2 : Int))) 52 (ah (fk.columns.length : Int))) 51 (.list 3 (fk.columns.map aY))) 12 (ah x2)) 11 (ah (j2 : Int))) 10 (.box 10 b10 0)) 9 (.box 9 b9 0),upd (upd (fun _=>none) 10 (some ⟨b10,(bS x41)⟩)) 9 (some ⟨b9,(bS x36)⟩),fun _=>none⟩) H (fun _ H=>?_) (fun t4 g4 H=>?_)
   ·refine aa (ae 3 tk rfl ?_)
    refine aR rfl rfl rfl H (fun H=>?_) (fun H=>?_)
    ·refine ae 6 tk rfl (ac ?_)
     refine aS _ () H Gh.d
    refine ae 2 tk rfl (aq tk ?_)
    refine ax tk (zl _) ?_
    refine ae 2 tk rfl (ac ?_)
    refine aS _ () H Gh.d
   refine aK rfl H (fun H=>?_) (fun H=>?_)
   ·refine al 1 tk rfl ?_
    obtain rfl := aD H
    have e2 : fl2 = .ret _ := hg2
    subst e2
    obtain rfl := aU Hp2
    refine bc tk rfl (ps := [(ah 3)]) ⟨_,_,rfl,rfl,rfl⟩ (PLe.q rfl)
   refine ao (ab (bn tk mok ⟨true,false,[72,79,82]⟩ [0,1,2,3,4,5,6,7,8,9,10,11,12,13,14,15,16] rfl (by decide +kernel) rfl (bt rfl (bI ?_))))
   refine bt rfl ?_
   obtain ⟨x70,k70,H⟩ := bg H
   refine aZ k70.1 (aF (fun _=>rfl) k70.2) ?_
   refine aL 3 rfl (bI ?_)
   refine bt rfl (bI ?_)
   refine bt rfl ?_
   obtain ⟨x78,k78,H⟩ := bg H
   refine aZ k78.1 (aF (fun _=>rfl) k78.2) ?_
   refine bt rfl ?_
   obtain ⟨x80,k80,H⟩ := bg H
   refine aZ k80.1 (aF (fun _=>rfl) k80.2) ?_
   refine aL 3 rfl (bf ?_)
   refine aK rfl H (fun H=>?_) (fun H=>?_)
   ·refine al 1 tk rfl ?_
    obtain rfl := aD H
    have e2 : fl2 = .ret _ := hg2
    subst e2
    obtain rfl := aU Hp2
    refine bc tk rfl (ps := [(ah 7)]) ⟨_,_,rfl,rfl,rfl⟩ (PLe.q rfl)
   refine ao (aP (bl 2 tk rfl ?_))
   exact bi () H hl2 hg2
  have hn2 := rMd (rowsGe h) hr2
  refine ca rfl ?_
  refine aS s2 g2 hn2 Gh.d
 have H := oD hn2 Hp2
 refine al 1 tk rfl ?_
 exact aV tk H rfl
def en (other : LForeignKey) (c0 : LForeignKey) : Option (Bool) :=
 af (eU other c0) fun x6 =>
 some x6
theorem po (other : LForeignKey) (c0 : LForeignKey) (r : Bool) (H : en other c0 = some r) :
  aJ Tryz.prog 45 [(.agg (im other)),(.ptr (im c0))] (ay r) := by
 unfold en at H
 refine PH.ap Tryz.func45 Tryz.ntmps45 ?_
 refine ab (aa (aB ?_))
 refine ag tk rfl (ac (ab (aa (ae 2 tk rfl ?_))))
 obtain ⟨x6,h6,H⟩ := av H
 have s6 := mm other c0 _ h6
 refine ak Tryz.call46 (fG.r) s6 ?_
 refine ag tk rfl (ac ?_)
 exact aV tk H rfl
def ja (a : LVal) (b : LVal) : Int :=
 bL (fD a.kind b.kind) fun x11 =>
 cond (x11 != (0 : Int))
  (x11)
  (bL (fD a.int b.int) fun x19 =>
  cond (x19 != (0 : Int))
   (x19)
   (bL (io a.text b.text) fun x27 =>
   x27))
theorem qS (a : LVal) (b : LVal) :
  aJ Tryz.prog 128 [(.agg (fO a)),(.agg (fO b))] (ah (ja a b)) := by
 obtain ⟨r,H⟩ : ∃ r,ja a b = r := ⟨_,rfl⟩
 rw [H]
 unfold ja at H
 refine PH.ap Tryz.func128 Tryz.ntmps128 ?_
 refine ab (aa (aB ?_))
 refine aB ?_
 refine ag tk rfl (ac (ab (ab (aa (ae 4 tk rfl ?_)))))
 obtain ⟨x11,h11,H⟩ := ef H
 have s11 := kT a.kind b.kind
 rw [h11] at s11
 refine ak Tryz.call149 (fG.r) s11 ?_
 refine ag tk rfl (ac (al 2 tk rfl ?_))
 refine aK rfl H (fun H=>?_) (fun H=>?_)
 ·refine al 2 tk rfl ?_
  exact cE tk H rfl
 refine ao (ab (ab (aa (ae 4 tk rfl ?_))))
 obtain ⟨x19,h19,H⟩ := ef H
 have s19 := kT a.int b.int
 rw [h19] at s19
 refine ak Tryz.call149 (fG.r) s19 ?_
 refine ag tk rfl (ac (al 2 tk rfl ?_))
 refine aK rfl H (fun H=>?_) (fun H=>?_)
 ·refine al 2 tk rfl ?_
  exact cE tk H rfl
 refine ao (ab (aa (ae 4 tk rfl ?_)))
 obtain ⟨x27,h27,H⟩ := ef H
 have s27 := ql a.text b.text
 rw [h27] at s27
 refine ak Tryz.call162 (fG.r) s27 ?_
 refine ag tk rfl (ac ?_)
 exact cE tk H rfl
def cv (kinds : List Int) (c0 : LQuery) : Option (Bool) :=
 af (dF kinds c0.kind) fun x7 =>
 some x7
theorem dO (kinds : List Int) (c0 : LQuery) (r : Bool) (H : cv kinds c0 = some r) :
  aJ Tryz.prog 163 [(.list 3 (kinds.map aY)),(.ptr (aw c0))] (ay r) := by
 unfold cv at H
 refine PH.ap Tryz.func163 Tryz.ntmps163 ?_
 refine al 1 tk rfl (ab (aa (ae 3 tk rfl ?_)))
 obtain ⟨x7,h7,H⟩ := av H
 have s7 := lV kinds c0.kind _ h7
 refine ak Tryz.call164 (fG.r) s7 ?_
 refine ag tk rfl (ac ?_)
 exact aV tk H rfl
def iN (l : List LExpr) : Option ((List LExpr)) :=
 af (aC (σ := List LExpr) (ρ := Empty) (fun (_ : Nat) (x1 : LExpr) (s1 : List LExpr) =>
  af (iy x1) fun x14 =>
  af (cJ 88 s1 ([x14] : List LExpr)) fun (x16 : List LExpr) =>
  some (.next x16)) 0 l []) fun fl1=>fl1.thenP fun (s1 : List LExpr) =>
 some s1
theorem W_query_exprs (l : List LExpr) (r : (List LExpr)) (H : iN l = some r) :
  aJ Tryz.prog 91 [(.list 92 (l.map aE))] (.list 92 (r.map aE)) := by
 unfold iN at H
 refine PH.ap Tryz.func91 Tryz.ntmps91 ?_
 refine al 1 tk rfl (al 1 tk rfl (ab (ab (aa (ag tk rfl (ax tk (zl _) ?_))))))
 refine ag tk rfl (ac (iO tk 3 16 (e := 92) rfl rfl ?_))
 refine ek (γ := OwnRef) tk 8 7 6 (fun s1 g1=>upd (fun _=>.any) 3 (.own 16 g1 (s1.map aE).length)) nB (fun s1 g1=>upd (fun _=>none) 16 (some ⟨g1,92,(s1.map aE),true⟩)) (⟨none,0⟩) H (fun fl1 Hp1 j1 s1 g1 hz1 hl1 x1 fb1 hx1 H hg1=>?_) (fun s1 g1 H=>?_)
 ·refine ab (az (ab (aa (aN tk (zn j1) (bd bj hx1) ?_))))
  refine ag tk rfl ?_
  refine aM tk fun b5=>?_
  refine am tk ?_
  refine ac (aa (ag tk rfl (aq tk ?_)))
  obtain ⟨x14,h14,H⟩ := av H
  have s14 := mO x1 _ h14
  refine ak Tryz.call90 (fG.r) s14 ?_
  refine de tk (rows' := List.map aE ([x14] : List LExpr)) (dS.trans (b := List.map bE [x14]) (dS.refl _) (dS.of_eq (fV bj [x14]))) ?_
  obtain ⟨x16,h16,H⟩ := av H
  have k16 := ci h16
  refine cy (rows2' := List.map aE ([x14] : List LExpr)) (rows' := List.map aE x16) tk rfl rfl rfl rfl rfl rfl rfl rfl rfl rfl rfl rfl rfl (dS.refl _) (cW k16.1) (cX k16.2.1) (cY k16.2.2) fun g16=>?_
  refine ag tk rfl (ac (aP (bl 2 tk rfl ?_)))
  exact bi g16 H hl1 hg1
 refine al 2 tk rfl (cQ 2 rfl rfl rfl ?_)
 exact aV tk H rfl
def gH (rec52 : LExpr → Option ((List LExpr))) (e : LExpr) : Option ((List LExpr)) :=
 bL (
  cond (e.kind == (5 : Int))
   (cond (e.name == ([97,110,100] : List UInt8))
    (((e.args.length : Int) == (2 : Int)))
    (false))
   (false)) fun (t1 : Bool) =>
 cond t1
  (af (aH e.args 0) fun (x19 : LExpr) =>
  af (aH e.args 1) fun (x24 : LExpr) =>
  af (rec52 x19) fun x21 =>
  af (rec52 x24) fun x26 =>
  af (cJ 88 x21 x26) fun (x27 : List LExpr) =>
  some x27)
  (af (iy e) fun x29 =>
  some [x29])
theorem qf {m : Nat} (rec52 : LExpr → Option ((List LExpr))) (hrec52 : ∀ m a0 r,rec52 a0 = some r → dP Tryz.prog 52 [(.agg (bE a0))] (iY m 92 (r.map aE))) (e : LExpr) (r : (List LExpr)) (H : gH rec52 e = some r) :
  dP Tryz.prog 52 [(.agg (bE e))] (iY m 92 (r.map aE)) := by
 unfold gH at H
 refine PH.ap Tryz.func52 Tryz.ntmps52 ?_
 refine ab (aa (aB ?_))
 refine ag tk rfl (ac (ab (ab ?_)))
 refine eF (γ := Unit) (fun t1 g1=>⟨31,upd (upd (fun _=>.any) 16 (ay t1)) 1 (.ptr (bE e)),fun _=>none,fun _=>none⟩) H (fun _ H=>?_) (fun t1 g1 H=>?_)
 ·refine aa (ae 4 tk rfl ?_)
  refine aR rfl rfl rfl H (fun H=>?_) (fun H=>?_)
  ·refine ae 5 tk rfl ?_
   refine aR rfl rfl rfl H (fun H=>?_) (fun H=>?_)
   ·refine ae 2 tk rfl (ax tk (zl _) ?_)
    refine ae 2 tk rfl (ac ?_)
    refine aS _ () H Gh.d
   refine ae 5 tk rfl (ac ?_)
   refine aS _ () H Gh.d
  refine ae 10 tk rfl (ac ?_)
  refine aS _ () H Gh.d
 refine aK rfl H (fun H=>?_) (fun H=>?_)
 ·refine ab (bn tk mok ⟨false,false,[]⟩ [0,1,2,3,5,6,7,8,4,9,10,11] rfl (by decide +kernel) rfl (aL 2 rfl ?_))
  obtain ⟨x19,k19,H⟩ := bg H
  refine aZ k19.1 (aF bj k19.2) ?_
  refine aL 3 rfl ?_
  obtain ⟨x24,k24,H⟩ := bg H
  refine aZ k24.1 (aF bj k24.2) ?_
  refine bt rfl ?_
  obtain ⟨x21,h21,H⟩ := av H
  have s21 := hrec52 21 x19 _ h21
  refine qO (g := 52) rfl rfl rfl rfl Tryz.call52 (fG.r) rfl rfl s21 (fun g21=>?_)
  obtain ⟨x26,h26,H⟩ := av H
  have s26 := hrec52 26 x24 _ h26
  refine bq Tryz.call52 (fG.r) (PFun.gn s26) ?_
  obtain ⟨x27,h27,H⟩ := av H
  have k27 := ci h27
  refine fM (rows2' := List.map aE x26) (rows' := List.map aE x27) tk rfl rfl rfl rfl rfl rfl rfl rfl rfl rfl rfl rfl rfl rfl (dS.refl _) (cW k27.1) (cX k27.2.1) (cY k27.2.2) fun g27=>?_
  refine bt rfl (bf ?_)
  obtain rfl := aD H
  refine gT tk rfl
 refine ao (ab (aa (ag tk rfl ?_)))
 obtain ⟨x29,h29,H⟩ := av H
 have s29 := mO e _ h29
 refine ak Tryz.call90 (fG.r) s29 ?_
 refine mA (rows' := List.map aE ([x29] : List LExpr)) tk rfl rfl rfl rfl rfl rfl rfl (congrArg (List.map List.length) (fV bj ([x29] : List LExpr))).symm rfl (fH.trans (b := (List.map bE ([x29] : List LExpr)).flatten) (fH.refl _) (fH.of_eq (congrArg List.flatten (fV bj ([x29] : List LExpr))))) fun g30=>?_
 refine ag tk rfl (ac ?_)
 obtain rfl := aD H
 refine gT tk rfl
def eN : Nat → LExpr → Option ((List LExpr))
 | 0,_=>none
 | n + 1,v0=>gH (fun b0=>eN n b0) v0
theorem qk  (n : Nat) : (∀ m a0 r,eN n a0 = some r → dP Tryz.prog 52 [(.agg (bE a0))] (iY m 92 (r.map aE))) := by
 induction n with
 | zero=>exact (by intros; rename_i h; exact absurd (show (none : Option _) = some _ from h) (by simp))
 | succ n ih =>
  exact (fun m v0 r h=>qf (m := m) (fun b0=>eN n b0) ih v0  r h)
def iK (e : LExpr) : Option ((List LExpr)) := eH fun n=>eN n e
theorem mH {m : Nat} (e : LExpr) (r : (List LExpr)) (H : iK e = some r) :
  dP Tryz.prog 52 [(.agg (bE e))] (iY m 92 (r.map aE)) := by
 obtain ⟨n,h⟩ := dU H
 exact (qk  n) m e r h
def fj (rec96 : LExpr → Int → (List (List UInt8)) → Option (List (List UInt8))) (e : LExpr) (kind : Int) (l : List (List UInt8)) : Option (List (List UInt8)) :=
 af (
  cond (e.kind == kind)
   (af (cb l e.name) fun x17 =>
   af (kw (x17.2.length = l.length) ()) fun (_ : Unit) =>
   some (x17.2,(!x17.1)))
   (some (l,false))) fun (t1 : List (List UInt8) × Bool) =>
 af (
  cond t1.2
   (af (cJ 16 t1.1 ([e.name] : List (List UInt8))) fun (x24 : List (List UInt8)) =>
   some x24)
   (some t1.1)) fun (t2 : List (List UInt8)) =>
 af (aC (σ := List (List UInt8)) (ρ := Empty) (fun (_ : Nat) (x3 : LExpr) (s3 : List (List UInt8)) =>
  af (rec96 x3 kind s3) fun x35 =>
  some (.next x35)) 0 e.args t2) fun fl3=>fl3.thenP fun (s3 : List (List UInt8)) =>
 some s3
theorem WO_expr_names (g_l : OwnRef) (rec96 : LExpr → Int → (List (List UInt8)) → Option (List (List UInt8))) (hrec96 : ∀ g2 a0 a1 a2 r,rec96 a0 a1 a2 = some r → PH Tryz.prog 96 [(.agg (bE a0)),(ah a1),(.own 2 g2 (a2.map bm).length)] ⟨fun _=>none,upd (fun _=>none) 2 (some ⟨g2,9,(a2.map bm),true⟩)⟩ (fun u H=>∃ gz : OwnRef,u = .own 2 gz (r.map bm).length ∧ H = ⟨fun _=>none,upd (fun _=>none) 2 (some ⟨gz,9,(r.map bm),true⟩)⟩)) (e : LExpr) (kind : Int) (l : List (List UInt8)) (r : List (List UInt8)) (H : fj rec96 e kind l = some r) :
  PH Tryz.prog 96 [(.agg (bE e)),(ah kind),(.own 2 g_l (l.map bm).length)] ⟨fun _=>none,upd (fun _=>none) 2 (some ⟨g_l,9,(l.map bm),true⟩)⟩ (fun u H=>∃ gz : OwnRef,u = .own 2 gz (r.map bm).length ∧ H = ⟨fun _=>none,upd (fun _=>none) 2 (some ⟨gz,9,(r.map bm),true⟩)⟩) := by
 unfold fj at H
 refine PH.ap Tryz.func96 Tryz.ntmps96 ?_
 refine ab (aa (aB ?_))
 refine ag tk rfl (ac (ab (ab ?_)))
 refine fm (γ := OwnRef) (fun t1 g1=>⟨38,upd (upd (upd (upd (fun _=>.any) 19 (ay t1.2)) 3 (.ptr (bE e))) 2 (.own 2 g1 (t1.1.map bm).length)) 1 (ah kind),fun _=>none,upd (fun _=>none) 2 (some ⟨g1,9,(t1.1.map bm),true⟩)⟩) H (fun _ H=>?_) (fun t1 g1 H=>?_)
 ·refine aa (ae 5 tk rfl ?_)
  refine aR rfl rfl rfl H (fun H=>?_) (fun H=>?_)
  ·refine ae 3 tk rfl ?_
   obtain ⟨x17,h17,H⟩ := av H
   have s17 := jD g_l l e.name _ h17
   obtain ⟨_,q17_0,H⟩ := av H
   have l17_0 := (lE q17_0).1
   have z17_0 : (List.map bm l).length = (List.map bm x17.2).length := by simpa using (l17_0).symm
   refine jl (g := 59) rfl rfl rfl Tryz.call59 [] [(2,0)] rfl rfl rfl rfl (fG.of2 (fH.cons (lT.own rfl) (fH.cons (lT.of_eq rfl) fH.nil))) (by rw [iA,gZ,iB]; rfl) s17 ?_
   rintro u17 H17h ⟨rfl,rfl⟩
   refine ⟨_,rfl,?_⟩
   refine gL (st' := ⟨_,_,fun _=>none,upd (fun _=>none) 2 (some ⟨g_l,9,(x17.2.map bm),true⟩)⟩) (Gh.le (gC _ _) bu (dp bv)) ?_
   refine ae 2 tk rfl (ac ?_)
   refine aS _ g_l (aD H) (Gh.le (aQ (cm (PLe.of2 (lT.of_eq (congrArg (PV.own 2 g_l) z17_0))) (aQ (aQ bY)))) bu (dp bv))
  refine ae 6 tk rfl (ac ?_)
  refine aS _ g_l (aD H) Gh.d
 refine fm (γ := OwnRef) (fun t2 g2=>⟨38,upd (upd (upd (fun _=>.any) 3 (.ptr (bE e))) 2 (.own 2 g2 (t2.map bm).length)) 1 (ah kind),fun _=>none,upd (fun _=>none) 2 (some ⟨g2,9,(t2.map bm),true⟩)⟩) H (fun _ H=>?_) (fun t2 g2 H=>?_)
 ·refine aK rfl H (fun H=>?_) (fun H=>?_)
  ·refine aa (ae 3 tk rfl (de tk (rows' := List.map bm ([e.name] : List (List UInt8))) (dS.refl _) ?_))
   obtain ⟨x24,h24,H⟩ := av H
   have k24 := ci h24
   refine cy (rows2' := List.map bm ([e.name] : List (List UInt8))) (rows' := List.map bm x24) tk rfl rfl rfl rfl rfl rfl rfl rfl rfl rfl rfl rfl rfl (dS.refl _) (cW k24.1) (cX k24.2.1) (cY k24.2.2) fun g24=>?_
   refine ag tk rfl (ac ?_)
   refine aS _ g24 (aD H) Gh.d
  refine ao ?_
  refine aS _ g1 (aD H) Gh.d
 refine ab (ab (aa (ae 2 tk rfl (ax tk (zl _) ?_))))
 refine ag tk rfl (ac ?_)
 refine ek (γ := OwnRef) tk 28 27 26 (fun s3 g3=>upd (upd (fun _=>.any) 2 (.own 2 g3 (s3.map bm).length)) 1 (ah kind)) nB (fun s3 g3=>upd (fun _=>none) 2 (some ⟨g3,9,(s3.map bm),true⟩)) g2 H (fun fl3 Hp3 j3 s3 g3 hz3 hl3 x3 fb3 hx3 H hg3=>?_) (fun s3 g3 H=>?_)
 ·refine ab (az (ab (aa (aN tk (zn j3) (bd bj hx3) ?_))))
  refine ag tk rfl ?_
  refine aM tk fun b8=>?_
  refine am tk ?_
  refine ac (aa (aq tk ?_))
  refine ae 2 tk rfl ?_
  obtain ⟨x35,h35,H⟩ := av H
  have s35 := hrec96 g3 x3 kind s3 _ h35
  refine jl (g := 96) rfl rfl rfl Tryz.call96 [] [(2,2)] rfl rfl rfl rfl (fG.of2 (fH.cons (lT.of_eq rfl) (fH.cons (lT.of_eq rfl) (fH.cons (lT.own rfl) fH.nil)))) (by rw [iA,gZ,iB]; rfl) s35 ?_
  rintro u35 H35h ⟨gw35,rfl,rfl⟩
  refine ⟨_,rfl,?_⟩
  refine gL (st' := ⟨_,_,upd (fun _=>none) 8 (some ⟨b8,(bE x3)⟩),upd (fun _=>none) 2 (some ⟨gw35,9,(x35.map bm),true⟩)⟩) (Gh.le (gC _ _) (be rfl (fG.r) bu) (dp bv)) ?_
  refine nQ 35 (q := (.own 2 gw35 (x35.map bm).length)) rfl (PLe.of2 (lT.own rfl)) (ag tk rfl (ac (aP (bl 2 tk rfl ?_))))
  exact bi gw35 H hl3 hg3
 refine al 2 tk rfl ?_
 obtain rfl := aD H
 refine jU (st' := ⟨38,upd (fun _=>.any) 6 (.own 2 g3 (s3.map bm).length),fun _=>none,upd (fun _=>none) 2 (some ⟨g3,9,(s3.map bm),true⟩)⟩) (Gh.le (aQ bY) bu (dp bv)) ?_
 refine oj tk rfl (ps := [(.own 2 g3 (s3.map bm).length)]) ⟨_,_,rfl,rfl,rfl⟩ (PLe.of2 (lT.own rfl)) ⟨_,rfl,rfl⟩
def fS : Nat → LExpr → Int → (List (List UInt8)) → Option (List (List UInt8))
 | 0,_,_,_=>none
 | n + 1,v0,v1,v2=>fj (fun b0 b1 b2=>fS n b0 b1 b2) v0 v1 v2
theorem WF_expr_names  (n : Nat) : (∀ g2 a0 a1 a2 r,fS n a0 a1 a2 = some r → PH Tryz.prog 96 [(.agg (bE a0)),(ah a1),(.own 2 g2 (a2.map bm).length)] ⟨fun _=>none,upd (fun _=>none) 2 (some ⟨g2,9,(a2.map bm),true⟩)⟩ (fun u H=>∃ gz : OwnRef,u = .own 2 gz (r.map bm).length ∧ H = ⟨fun _=>none,upd (fun _=>none) 2 (some ⟨gz,9,(r.map bm),true⟩)⟩)) := by
 induction n with
 | zero=>exact (by intros; rename_i h; exact absurd (show (none : Option _) = some _ from h) (by simp))
 | succ n ih =>
  exact (fun g2 v0 v1 v2 r h=>WO_expr_names g2 (fun b0 b1 b2=>fS n b0 b1 b2) ih v0 v1 v2  r h)
def eD (e : LExpr) (kind : Int) (l : List (List UInt8)) : Option (List (List UInt8)) := eH fun n=>fS n e kind l
theorem W_expr_names (g_l : OwnRef) (e : LExpr) (kind : Int) (l : List (List UInt8)) (r : List (List UInt8)) (H : eD e kind l = some r) :
  PH Tryz.prog 96 [(.agg (bE e)),(ah kind),(.own 2 g_l (l.map bm).length)] ⟨fun _=>none,upd (fun _=>none) 2 (some ⟨g_l,9,(l.map bm),true⟩)⟩ (fun u H=>∃ gz : OwnRef,u = .own 2 gz (r.map bm).length ∧ H = ⟨fun _=>none,upd (fun _=>none) 2 (some ⟨gz,9,(r.map bm),true⟩)⟩) := by
 obtain ⟨n,h⟩ := dU H
 exact (WF_expr_names  n) g_l e kind l r h
def cT (sA : List UInt8) (c0 : List (List UInt8)) : Option (Bool) :=
 af (cn c0 sA) fun x6 =>
 some x6
theorem nE (sA : List UInt8) (c0 : List (List UInt8)) (r : Bool) (H : cT sA c0 = some r) :
  aJ Tryz.prog 58 [(.str sA),(.ptr [(.list 9 (c0.map bm))])] (ay r) := by
 unfold cT at H
 refine PH.ap Tryz.func58 Tryz.ntmps58 ?_
 refine al 1 tk rfl (ab (aa (ae 2 tk rfl ?_)))
 obtain ⟨x6,h6,H⟩ := av H
 have s6 := gu c0 sA _ h6
 refine ak Tryz.call59 (fG.r) s6 ?_
 refine ag tk rfl (ac ?_)
 exact aV tk H rfl
def dX (gA : LJoinorderGraph) (leftDeep : Bool) : Option (LJoinorderTree × Int × Int) :=
 af (bK gA) fun x16 =>
 cond (x16 != (0 : Int))
  (some ((LJoinorderTree.mk 0 []),0,x16))
  (af (shlI .i64 (1 : Int) (gA.sizes.length : Int)) fun (x24 : Int) =>
  af (growI 48 x24) fun (_ : Unit) =>
  af (gD (σ := List LJoinorderBest × Int) (ρ := Empty) (fun (s1 : List LJoinorderBest × Int) =>
   cond (decide (s1.2 < (s1.1.length : Int)))
    (bL (ce (IntKind.u64.wrap s1.2)) fun x34 =>
    cond (x34 == (1 : Int))
     (af (tzL (IntKind.u64.wrap s1.2)) fun x40 =>
     af (aH s1.1 s1.2) fun (_ : LJoinorderBest) =>
     bL (s1.1.set s1.2.toNat (LJoinorderBest.mk (LJoinorderTree.mk x40 []) 0 true)) fun (y24 : List LJoinorderBest) =>
     some (.next (y24,(IntKind.i64.wrap (s1.2 + (1 : Int))))))
     (af (eJ gA s1.2) fun x46 =>
     af (gD (σ := List LJoinorderBest × Int) (ρ := Empty) (fun (s25 : List LJoinorderBest × Int) =>
      cond (decide (s25.2 > (0 : Int)))
       (bL (
        cond leftDeep
         (bL (ce (IntKind.u64.wrap (it .i64 s1.2 s25.2))) fun x64 =>
         (decide (x64 > (1 : Int))))
         (false)) fun (t32 : Bool) =>
       cond t32
        (some (.next (s25.1,(aO .i64 (IntKind.i64.wrap (s25.2 - (1 : Int))) s1.2))))
        (af (aH s25.1 s25.2) fun (x69 : LJoinorderBest) =>
        af (aH s25.1 (it .i64 s1.2 s25.2)) fun (x74 : LJoinorderBest) =>
        af (
         af (aH s25.1 s1.2) fun (x82 : LJoinorderBest) =>
         cond (!x82.ok)
          (some true)
          (af (aH s25.1 s1.2) fun (x90 : LJoinorderBest) =>
          some (decide ((IntKind.i64.wrap ((IntKind.i64.wrap (x69.cost + x74.cost)) + x46)) < x90.cost)))) fun (t33 : Bool) =>
        cond t33
         (af (aH s25.1 s25.2) fun (x99 : LJoinorderBest) =>
         af (aH s25.1 (it .i64 s1.2 s25.2)) fun (x104 : LJoinorderBest) =>
         af (aH s25.1 s1.2) fun (_ : LJoinorderBest) =>
         bL (s25.1.set s1.2.toNat (LJoinorderBest.mk (LJoinorderTree.mk 0 [x99.tree,x104.tree]) (IntKind.i64.wrap ((IntKind.i64.wrap (x69.cost + x74.cost)) + x46)) true)) fun (y34 : List LJoinorderBest) =>
         some (.next (y34,(aO .i64 (IntKind.i64.wrap (s25.2 - (1 : Int))) s1.2))))
         (some (.next (s25.1,(aO .i64 (IntKind.i64.wrap (s25.2 - (1 : Int))) s1.2))))))
       (some (.brk (s25.1,s25.2)))) (s1.1,(aO .i64 (IntKind.i64.wrap (s1.2 - (1 : Int))) s1.2))) fun fl25=>fl25.thenP fun (s25 : List LJoinorderBest × Int) =>
     some (.next (s25.1,(IntKind.i64.wrap (s1.2 + (1 : Int)))))))
    (some (.brk (s1.1,s1.2)))) ((List.replicate x24.toNat (LJoinorderBest.mk (LJoinorderTree.mk 0 []) 0 false)),1)) fun fl1=>fl1.thenP fun (s1 : List LJoinorderBest × Int) =>
  af (aH s1.1 (IntKind.i64.wrap ((s1.1.length : Int) - (1 : Int)))) fun (x116 : LJoinorderBest) =>
  af (kN x116.tree) fun x120 =>
  some (x120,x116.cost,0))
theorem oM (gA : LJoinorderGraph) (leftDeep : Bool) (r : LJoinorderTree × Int × Int) (H : dX gA leftDeep = some r) :
  aJ Tryz.prog 9 [(.agg (ba gA)),(ay leftDeep)] (.tup [(.agg (aW r.1)),(ah r.2.1),(ah r.2.2)]) := by
 unfold dX at H
 refine PH.ap Tryz.func9 Tryz.ntmps9 ?_
 refine ab (aa (aB ?_))
 refine aM tk fun b4=>?_
 refine ae 2 tk rfl (ac (ab (ab (aa (ag tk rfl ?_)))))
 obtain ⟨x16,h16,H⟩ := av H
 have s16 := iI gA _ h16
 refine ak Tryz.call24 (fG.r) s16 ?_
 refine ag tk rfl (ac (al 2 tk rfl ?_))
 refine aK rfl H (fun H=>?_) (fun H=>?_)
 ·refine ab (aa (ae 2 tk rfl (am tk ?_)))
  refine ae 2 tk rfl (ac ?_)
  obtain rfl := aD H
  refine bc tk rfl (ps := [(.agg [(ah 0),(.val (.slice none 0 0))]),(ah 0),(ah x16)]) ⟨_,_,rfl,⟨_,_,_,_,_,rfl,rfl,rfl,rfl⟩,_,_,rfl,rfl,_,_,rfl,rfl,rfl⟩ (PLe.of2 (lT.tup (fH.cons (lT.agg (fH.cons (lT.of_eq rfl) (fH.cons (lT.nil tk rfl) fH.nil))) (fH.cons (lT.of_eq rfl) (fH.cons (lT.of_eq rfl) fH.nil)))))
 refine ao (ab (aa (ae 2 tk rfl (ax tk (zl _) ?_))))
 obtain ⟨x24,h24,H⟩ := av H
 refine rn rfl rfl rfl rfl h24 rfl ?_
 obtain ⟨_,h25,H⟩ := av H
 have k25 := growI_some h25
 refine ry (rows := List.map bN (List.replicate x24.toNat (LJoinorderBest.mk (LJoinorderTree.mk 0 []) 0 false))) (zs := bN (LJoinorderBest.mk (LJoinorderTree.mk 0 []) 0 false)) tk rfl rfl rfl rfl rfl rfl rfl rfl (fH.cons (lT.of_eq rfl) (fH.cons (lT.nil tk rfl) (fH.cons (lT.of_eq rfl) (fH.cons (lT.of_eq rfl) fH.nil)))) rfl rfl rfl k25.1 k25.2.1 k25.2.2 (by rw [List.map_replicate]) fun g25=>?_
 refine ag tk rfl (ac (ab (al 1 tk rfl ?_)))
 obtain ⟨fl1,H1,Hp1⟩ := av H
 refine ik (τ := List LJoinorderBest × Int) (γ := OwnRef) (fun s1 g1=>⟨123,upd (upd (fun _=>.any) 8 (.own 25 g1 (s1.1.map bN).length)) 4 (.box 4 b4 0),upd (fun _=>none) 4 (some ⟨b4,[(ah 0),(.val (.slice none 0 0))]⟩),upd (fun _=>none) 25 (some ⟨g1,101,(s1.1.map bN),true⟩)⟩) (fun t=>fl1 = .next t) ?_ (fun s1 g1 hn1=>?_)
 ·refine az ?_
  refine mS (fun s1 g1=>⟨123,upd (upd (upd (upd (upd (fun _=>.any) 9 (ah s1.2)) 8 (.own 25 g1 (s1.1.map bN).length)) 4 (.box 4 b4 0)) 2 (.ptr (ba gA))) 1 (ay leftDeep),upd (fun _=>none) 4 (some ⟨b4,[(ah 0),(.val (.slice none 0 0))]⟩),upd (fun _=>none) 25 (some ⟨g1,101,(s1.1.map bN),true⟩)⟩) g25 H1 Gh.d (fun m1 s1 g1 hr1=>?_)
  obtain ⟨fb1,H,hg1⟩ := kF hr1
  refine ab (ab (aa (ae 2 tk rfl (hZ tk (zl _) ?_))))
  refine ag tk rfl (ac ?_)
  refine aK rfl H (fun H=>?_) (fun H=>?_)
  ·refine ao (ab (az (ab (ab (aa (ae 2 tk rfl ?_))))))
   obtain ⟨x34,h34,H⟩ := ef H
   have s34 := ke (IntKind.u64.wrap s1.2)
   rw [h34] at s34
   refine ak Tryz.call25 (fG.r) s34 ?_
   refine ag tk rfl (ac ?_)
   refine aK rfl H (fun H=>?_) (fun H=>?_)
   ·refine ab (aa (ae 4 tk rfl ?_))
    obtain ⟨x40,h40,H⟩ := av H
    have s40 := W_tz (IntKind.u64.wrap s1.2) _ h40
    refine ak Tryz.call26 (fG.r) s40 ?_
    refine ae 2 tk rfl ?_
    obtain ⟨x43,k43,H⟩ := bg H
    refine iU (tag := 25) rfl (fun ho25=>?_)
    refine ib tk ⟨k43.1,(fe k43.2)⟩ (eY ho25 k43.2) ?_
    obtain ⟨y24,hy24,H⟩ := ef H
    refine nj tk rfl rfl rfl rfl rfl rfl rfl rfl (by rw [zl]; exact (zg.1 k43.2).1) (PLe.of2 (lT.agg (fH.cons (lT.of_eq rfl) (fH.cons (lT.nil tk rfl) (fH.cons (lT.of_eq rfl) (fH.cons (lT.of_eq rfl) fH.nil)))))) rfl rfl rfl rfl (by decide) (iL (fun _=>rfl) k43.2 rfl hy24) ?_
    refine ac (ca rfl (bl 3 tk rfl ?_))
    obtain rfl := aD H
    refine iH (y24,(IntKind.i64.wrap (s1.2 + (1 : Int)))) g1 hg1 (Gh.le (aQ (aQ (aQ (cm (PLe.of2 (lT.of_eq (congrArg (PV.own 25 g1) (lu (f := bN) hy24)))) (aQ bY))))) (be rfl (fG.r) bu) (dp bv))
   refine ao (ab (aa (ae 2 tk rfl ?_)))
   obtain ⟨x46,h46,H⟩ := av H
   have s46 := mP gA s1.2 _ h46
   refine ak Tryz.call27 (fG.r) s46 ?_
   refine ag tk rfl (ac (ab (aa (ae 3 tk rfl (gr ?_)))))
   refine ag tk rfl (ac ?_)
   obtain ⟨fl25,H25,Hp25⟩ := av H
   refine ik (τ := List LJoinorderBest × Int) (γ := OwnRef) (fun s25 g25=>⟨123,upd (upd (upd (upd (upd (fun _=>.any) 9 (ah s1.2)) 8 (.own 25 g25 (s25.1.map bN).length)) 4 (.box 4 b4 0)) 2 (.ptr (ba gA))) 1 (ay leftDeep),upd (fun _=>none) 4 (some ⟨b4,[(ah 0),(.val (.slice none 0 0))]⟩),upd (fun _=>none) 25 (some ⟨g25,101,(s25.1.map bN),true⟩)⟩) (fun t=>fl25 = .next t) ?_ (fun s25 g25 hn25=>?_)
   ·refine az ?_
    refine mS (fun s25 g25=>⟨123,upd (upd (upd (upd (upd (upd (upd (fun _=>.any) 11 (ah s25.2)) 10 (ah x46)) 9 (ah s1.2)) 8 (.own 25 g25 (s25.1.map bN).length)) 4 (.box 4 b4 0)) 2 (.ptr (ba gA))) 1 (ay leftDeep),upd (fun _=>none) 4 (some ⟨b4,[(ah 0),(.val (.slice none 0 0))]⟩),upd (fun _=>none) 25 (some ⟨g25,101,(s25.1.map bN),true⟩)⟩) g1 H25 Gh.d (fun m25 s25 g25 hr25=>?_)
    obtain ⟨fb25,H,hg25⟩ := kF hr25
    refine ab (al 2 tk rfl ?_)
    refine aK rfl H (fun H=>?_) (fun H=>?_)
    ·refine ao (ab (az (ab (aa (ae 2 tk rfl (rz rfl rfl rfl rfl rfl (ag tk rfl (ac (ab (ab ?_))))))))))
     refine eF (γ := Unit) (fun t32 g32=>⟨123,upd (upd (upd (upd (upd (upd (upd (upd (upd (fun _=>.any) 66 (ay t32)) 12 (ah (it .i64 s1.2 s25.2))) 11 (ah s25.2)) 10 (ah x46)) 9 (ah s1.2)) 8 (.own 25 g25 (s25.1.map bN).length)) 4 (.box 4 b4 0)) 2 (.ptr (ba gA))) 1 (ay leftDeep),upd (fun _=>none) 4 (some ⟨b4,[(ah 0),(.val (.slice none 0 0))]⟩),upd (fun _=>none) 25 (some ⟨g25,101,(s25.1.map bN),true⟩)⟩) H (fun _ H=>?_) (fun t32 g32 H=>?_)
     ·refine aa (ae 2 tk rfl ?_)
      refine aR rfl rfl rfl H (fun H=>?_) (fun H=>?_)
      ·refine ae 2 tk rfl ?_
       obtain ⟨x64,h64,H⟩ := ef H
       have s64 := ke (IntKind.u64.wrap (it .i64 s1.2 s25.2))
       rw [h64] at s64
       refine ak Tryz.call25 (fG.r) s64 ?_
       refine ae 2 tk rfl (ac ?_)
       refine aS _ () H Gh.d
      refine ae 5 tk rfl (ac ?_)
      refine aS _ () H Gh.d
     refine aK rfl H (fun H=>?_) (fun H=>?_)
     ·refine ca rfl (aa (ae 3 tk rfl (gr ?_)))
      refine ag tk rfl (ac ?_)
      obtain rfl := aD H
      refine iH (s25.1,(aO .i64 (IntKind.i64.wrap (s25.2 - (1 : Int))) s1.2)) g25 hg25 Gh.d
     refine ao (ab ?_)
     refine nT (tag := 25) rfl (fun ho25=>?_)
     refine bn tk mok ⟨false,true,[]⟩ [0,1,2,3,4,5,6,7,8,9,10,11,12,13] rfl (by decide +kernel) rfl (aL 2 rfl ?_)
     obtain ⟨x69,k69,H⟩ := bg H
     refine iF tk ⟨k69.1,(fe k69.2)⟩ (eY ho25 k69.2) ?_
     refine bt rfl ?_
     refine lf tk rfl rfl rfl rfl rfl rfl rfl rfl rfl (aF (fun _=>rfl) k69.2) rfl rfl ?_
     refine aL 2 rfl ?_
     obtain ⟨x74,k74,H⟩ := bg H
     refine iF tk ⟨k74.1,(fe k74.2)⟩ (eY ho25 k74.2) ?_
     refine bt rfl ?_
     refine lf tk rfl rfl rfl rfl rfl rfl rfl rfl rfl (aF (fun _=>rfl) k74.2) rfl rfl ?_
     refine aL 4 rfl (bf (ab ?_))
     refine fm (γ := Unit) (fun t33 g33=>⟨123,upd (upd (upd (upd (upd (upd (upd (upd (upd (upd (fun _=>.any) 94 (ay t33)) 13 (ah (IntKind.i64.wrap ((IntKind.i64.wrap (x69.cost + x74.cost)) + x46)))) 12 (ah (it .i64 s1.2 s25.2))) 11 (ah s25.2)) 10 (ah x46)) 9 (ah s1.2)) 8 (.own 25 g25 (s25.1.map bN).length)) 4 (.box 4 b4 0)) 2 (.ptr (ba gA))) 1 (ay leftDeep),upd (fun _=>none) 4 (some ⟨b4,[(ah 0),(.val (.slice none 0 0))]⟩),upd (fun _=>none) 25 (some ⟨g25,101,(s25.1.map bN),true⟩)⟩) H (fun _ H=>?_) (fun t33 g33 H=>?_)
     ·refine aa (ae 2 tk rfl ?_)
      obtain ⟨x82,k82,H⟩ := bg H
      refine iU (tag := 25) rfl (fun ho25=>?_)
      refine ib tk ⟨k82.1,(fe k82.2)⟩ (eY ho25 k82.2) ?_
      refine ag tk rfl ?_
      refine lm tk rfl rfl rfl rfl rfl rfl rfl (aF (fun _=>rfl) k82.2) rfl rfl ?_
      refine ae 2 tk rfl ?_
      refine aR rfl rfl rfl H (fun H=>?_) (fun H=>?_)
      ·refine ae 8 tk rfl (ac ?_)
       refine aS _ () (aD H) Gh.d
      refine ae 3 tk rfl ?_
      obtain ⟨x90,k90,H⟩ := bg H
      refine iU (tag := 25) rfl (fun ho25=>?_)
      refine ib tk ⟨k90.1,(fe k90.2)⟩ (eY ho25 k90.2) ?_
      refine ag tk rfl ?_
      refine lm tk rfl rfl rfl rfl rfl rfl rfl (aF (fun _=>rfl) k90.2) rfl rfl ?_
      refine ae 2 tk rfl (ac ?_)
      refine aS _ () (aD H) Gh.d
     refine aK rfl H (fun H=>?_) (fun H=>?_)
     ·refine nT (tag := 25) rfl (fun ho25=>?_)
      refine bn tk mok ⟨false,true,[]⟩ [0,1,2,3,4,5,6,7,8,9,10,11,12,13,14,15,16,17] rfl (by decide +kernel) rfl (aL 4 rfl ?_)
      obtain ⟨x99,k99,H⟩ := bg H
      refine iF tk ⟨k99.1,(fe k99.2)⟩ (eY ho25 k99.2) ?_
      refine bt rfl ?_
      refine lf tk rfl rfl rfl rfl rfl rfl rfl rfl rfl (aF (fun _=>rfl) k99.2) rfl rfl ?_
      refine aL 2 rfl ?_
      obtain ⟨x104,k104,H⟩ := bg H
      refine iF tk ⟨k104.1,(fe k104.2)⟩ (eY ho25 k104.2) ?_
      refine bt rfl ?_
      refine lf tk rfl rfl rfl rfl rfl rfl rfl rfl rfl (aF (fun _=>rfl) k104.2) rfl rfl ?_
      refine aL 4 rfl ?_
      obtain ⟨x111,k111,H⟩ := bg H
      refine iF tk ⟨k111.1,(fe k111.2)⟩ (eY ho25 k111.2) ?_
      obtain ⟨y34,hy34,H⟩ := ef H
      refine pF tk rfl rfl rfl rfl rfl rfl rfl rfl rfl (by rw [zl]; exact (zg.1 k111.2).1) (PLe.of2 (lT.agg (fH.cons (lT.of_eq rfl) (fH.cons (lT.list (dS.trans (b := List.map aW [x99.tree,x104.tree]) (dS.refl _) (dS.of_eq (fV bO [x99.tree,x104.tree])))) (fH.cons (lT.of_eq rfl) (fH.cons (lT.of_eq rfl) fH.nil)))))) rfl rfl rfl rfl (by decide) (iL (fun _=>rfl) k111.2 rfl hy34) ?_
      refine bf (aP (aa (ae 3 tk rfl (gr ?_))))
      refine ag tk rfl (ac ?_)
      obtain rfl := aD H
      refine iH (y34,(aO .i64 (IntKind.i64.wrap (s25.2 - (1 : Int))) s1.2)) g25 hg25 (Gh.le (aQ (aQ (aQ (cm (PLe.of2 (lT.of_eq (congrArg (PV.own 25 g25) (lu (f := bN) hy34)))) (aQ (aQ (aQ bY))))))) (be rfl (fG.r) bu) (dp bv))
     refine ao (aP (aa (ae 3 tk rfl (gr ?_))))
     refine ag tk rfl (ac ?_)
     obtain rfl := aD H
     refine iH (s25.1,(aO .i64 (IntKind.i64.wrap (s25.2 - (1 : Int))) s1.2)) g25 hg25 Gh.d
    refine ca rfl ?_
    obtain rfl := aD H
    refine aS (s25.1,s25.2) g25 hg25 Gh.d
   have H := fK hn25 Hp25
   refine aP (bl 3 tk rfl ?_)
   obtain rfl := aD H
   refine iH (s25.1,(IntKind.i64.wrap (s1.2 + (1 : Int)))) g25 hg1 Gh.d
  refine ca rfl ?_
  obtain rfl := aD H
  refine aS (s1.1,s1.2) g1 hg1 Gh.d
 have H := fK hn1 Hp1
 refine ab (aa (ae 2 tk rfl (hZ tk (zl _) ?_)))
 refine ag tk rfl ?_
 obtain ⟨x116,k116,H⟩ := bg H
 refine iU (tag := 25) rfl (fun ho25=>?_)
 refine ib tk ⟨k116.1,(fe k116.2)⟩ (eY ho25 k116.2) ?_
 refine lm tk rfl rfl rfl rfl rfl rfl rfl (aF (fun _=>rfl) k116.2) rfl rfl ?_
 refine aM tk fun b14=>?_
 refine am tk ?_
 refine ac (ab (fN 14 ?_))
 refine bn tk mok ⟨false,false,[]⟩ [0,1,3,4,2,5,6,7] rfl (by decide +kernel) rfl (aL 4 rfl ?_)
 obtain ⟨x120,h120,H⟩ := av H
 have s120 := qP x116.tree _ h120
 refine bq Tryz.call28 (fG.r) s120 ?_
 refine bB ?_
 refine aL 2 rfl (bf ?_)
 obtain rfl := aD H
 refine bc tk rfl (ps := [(.agg (aW x120)),(ah x116.cost),(ah 0)]) ⟨_,_,rfl,⟨_,_,_,_,_,rfl,rfl,rfl,rfl⟩,_,_,rfl,rfl,_,_,rfl,rfl,rfl⟩ (PLe.q rfl)
def gF (gA : LJoinorderGraph) (t : LJoinorderTree) : Option (Int × Int) :=
 af (bK gA) fun x10 =>
 cond (x10 != (0 : Int))
  (some (0,x10))
  (af (gO gA t) fun x17 =>
  cond (!x17.2)
   (some (0,3))
   (af (shlI .i64 (1 : Int) (gA.sizes.length : Int)) fun (x27 : Int) =>
   cond (x17.1 != (IntKind.i64.wrap (x27 - (1 : Int))))
    (some (0,3))
    (af (jT gA t) fun x33 =>
    some (x33,0))))
theorem qN (gA : LJoinorderGraph) (t : LJoinorderTree) (r : Int × Int) (H : gF gA t = some r) :
  aJ Tryz.prog 10 [(.agg (ba gA)),(.agg (aW t))] (.tup [(ah r.1),(ah r.2)]) := by
 unfold gF at H
 refine PH.ap Tryz.func10 Tryz.ntmps10 ?_
 refine ab (aa (aB ?_))
 refine aB ?_
 refine ae 2 tk rfl (ac (ab (ab (aa (ag tk rfl ?_)))))
 obtain ⟨x10,h10,H⟩ := av H
 have s10 := iI gA _ h10
 refine ak Tryz.call24 (fG.r) s10 ?_
 refine ag tk rfl (ac (al 2 tk rfl ?_))
 refine aK rfl H (fun H=>?_) (fun H=>?_)
 ·refine al 3 tk rfl ?_
  exact aV tk H rfl
 refine ao (ab (aa (ae 2 tk rfl ?_)))
 obtain ⟨x17,h17,H⟩ := av H
 have s17 := kS gA t _ h17
 refine ak Tryz.call29 (fG.r) s17 ?_
 refine ae 5 tk rfl (ac (ab (ab (aa (ae 3 tk rfl ?_)))))
 refine aR rfl rfl rfl H (fun H=>?_) (fun H=>?_)
 ·refine ae 8 tk rfl (ac (bU rfl (al 2 tk rfl ?_)))
  exact aV tk H rfl
 refine ae 3 tk rfl (ax tk (zl _) ?_)
 obtain ⟨x27,h27,H⟩ := av H
 refine rn rfl rfl rfl rfl h27 rfl (ae 3 tk rfl (ac ?_))
 refine aK rfl H (fun H=>?_) (fun H=>?_)
 ·refine al 2 tk rfl ?_
  exact aV tk H rfl
 refine ao (ab (aa (ae 2 tk rfl ?_)))
 obtain ⟨x33,h33,H⟩ := av H
 have s33 := qJ gA t _ h33
 refine ak Tryz.call30 (fG.r) s33 ?_
 refine ae 2 tk rfl (ac ?_)
 exact aV tk H rfl
def fp (a : LVal) (op : List UInt8) (b : LVal) : Bool × Int :=
 bL (
  cond (!(op == ([61] : List UInt8)))
   (cond (!(op == ([60] : List UInt8)))
    ((!(op == ([60,61] : List UInt8))))
    (false))
   (false)) fun (t1 : Bool) =>
 cond t1
  ((false,3))
  (bL (
   cond (a.kind == (0 : Int))
    (true)
    ((b.kind == (0 : Int)))) fun (t2 : Bool) =>
  cond t2
   ((true,0))
   (bL (ja a b) fun x29 =>
   cond (x29 == (0 : Int))
    (cond (!(op == ([60] : List UInt8)))
     ((true,0))
     (cond (decide (x29 < (0 : Int)))
      (((!(op == ([61] : List UInt8))),0))
      ((false,0))))
    (cond (decide (x29 < (0 : Int)))
     (((!(op == ([61] : List UInt8))),0))
     ((false,0)))))
theorem qj (a : LVal) (op : List UInt8) (b : LVal) :
  aJ Tryz.prog 80 [(.agg (fO a)),(.str op),(.agg (fO b))] (.tup [(ay ((fp a op b).1)),(ah ((fp a op b).2))]) := by
 obtain ⟨r,H⟩ : ∃ r,fp a op b = r := ⟨_,rfl⟩
 rw [H]
 unfold fp at H
 refine PH.ap Tryz.func80 Tryz.ntmps80 ?_
 refine ab (aa (aB ?_))
 refine aB ?_
 refine ae 2 tk rfl (ac (ab (ab ?_)))
 refine eF (γ := Unit) (fun t1 g1=>⟨44,upd (upd (upd (upd (fun _=>.any) 18 (ay t1)) 5 (.ptr (fO b))) 3 (.ptr (fO a))) 1 (.str op),fun _=>none,fun _=>none⟩) H (fun _ H=>?_) (fun t1 g1 H=>?_)
 ·refine aa (ae 3 tk rfl ?_)
  refine aR rfl rfl rfl H (fun H=>?_) (fun H=>?_)
  ·refine ae 4 tk rfl ?_
   refine aR rfl rfl rfl H (fun H=>?_) (fun H=>?_)
   ·refine ae 3 tk rfl (ac ?_)
    refine aS _ () H Gh.d
   refine ae 3 tk rfl (ac ?_)
   refine aS _ () H Gh.d
  refine ae 7 tk rfl (ac ?_)
  refine aS _ () H Gh.d
 refine aK rfl H (fun H=>?_) (fun H=>?_)
 ·refine al 2 tk rfl ?_
  exact cE tk H rfl
 refine ao (ab (ab ?_))
 refine eF (γ := Unit) (fun t2 g2=>⟨44,upd (upd (upd (upd (fun _=>.any) 26 (ay t2)) 5 (.ptr (fO b))) 3 (.ptr (fO a))) 1 (.str op),fun _=>none,fun _=>none⟩) H (fun _ H=>?_) (fun t2 g2 H=>?_)
 ·refine aa (ae 4 tk rfl ?_)
  refine aR rfl rfl rfl H (fun H=>?_) (fun H=>?_)
  ·refine ae 4 tk rfl (ac ?_)
   refine aS _ () H Gh.d
  refine ae 4 tk rfl (ac ?_)
  refine aS _ () H Gh.d
 refine aK rfl H (fun H=>?_) (fun H=>?_)
 ·refine al 2 tk rfl ?_
  exact cE tk H rfl
 refine ao (ab (aa (ae 2 tk rfl ?_)))
 obtain ⟨x29,h29,H⟩ := ef H
 have s29 := qS a b
 rw [h29] at s29
 refine ak Tryz.call128 (fG.r) s29 ?_
 refine ag tk rfl (ac (ab (aa (ae 3 tk rfl ?_))))
 refine aR rfl rfl rfl H (fun H=>?_) (fun H=>?_)
 ·refine ae 4 tk rfl ?_
  refine aR rfl rfl rfl H (fun H=>?_) (fun H=>?_)
  ·refine ae 9 tk rfl (ac ?_)
   exact cE tk H rfl
  refine ae 3 tk rfl ?_
  refine aR rfl rfl rfl H (fun H=>?_) (fun H=>?_)
  ·refine ae 6 tk rfl (ac ?_)
   exact cE tk H rfl
  refine ae 6 tk rfl (ac ?_)
  exact cE tk H rfl
 refine ae 7 tk rfl ?_
 refine aR rfl rfl rfl H (fun H=>?_) (fun H=>?_)
 ·refine ae 6 tk rfl (ac ?_)
  exact cE tk H rfl
 refine ae 6 tk rfl (ac ?_)
 exact cE tk H rfl
def iQ (q : LQuery) : Option (Bool) :=
 af (
  cond (decide (q.kind < (1 : Int)))
   (some true)
   (cond (decide (q.kind > (10 : Int)))
    (some true)
    (af (aH ([(-1),0,1,1,2,2,2,2,1,1,1] : List Int) q.kind) fun (x21 : Int) =>
    some ((q.inputs.length : Int) != x21)))) fun (t1 : Bool) =>
 cond t1
  (some false)
  (af (
   af (cv ([1] : List Int) q) fun x29 =>
   cond (!x29)
    (some (!(q.table == ([] : List UInt8))))
    (some false)) fun (t2 : Bool) =>
  af (
   cond t2
    (some t2)
    (af (
     af (cv ([3,8] : List Int) q) fun x38 =>
     cond (!x38)
      (some (decide ((q.names.length : Int) > (0 : Int))))
      (some false)) fun (t7 : Bool) =>
    cond t7
     (some t7)
     (af (
      af (cv ([8] : List Int) q) fun x48 =>
      cond (!x48)
       (some (decide ((q.aggregates.length : Int) > (0 : Int))))
       (some false)) fun (t8 : Bool) =>
     cond t8
      (some t8)
      (af (
       af (cv ([9] : List Int) q) fun x58 =>
       cond (!x58)
        (some (decide ((q.descending.length : Int) > (0 : Int))))
        (some false)) fun (t9 : Bool) =>
      cond t9
       (some t9)
       (af (cv ([10] : List Int) q) fun x68 =>
       cond (!x68)
        (cond (q.count != (0 : Int))
         (some true)
         (some (q.offset != (0 : Int))))
        (some false)))))) fun (t6 : Bool) =>
  cond t6
   (some false)
   (af (cv ([2,4,5] : List Int) q) fun x83 =>
   cond x83
    (some ((q.exprs.length : Int) == (1 : Int)))
    (af (cv ([3,8] : List Int) q) fun x91 =>
    cond x91
     (cond ((q.exprs.length : Int) == (q.names.length : Int))
      (some (decide ((IntKind.i64.wrap ((q.exprs.length : Int) + (q.aggregates.length : Int))) > (0 : Int))))
      (some false))
     (af (cv ([9] : List Int) q) fun x112 =>
     cond x112
      (cond ((q.exprs.length : Int) == (q.descending.length : Int))
       (some (decide ((q.exprs.length : Int) > (0 : Int))))
       (some false))
      (af (cv ([10] : List Int) q) fun x129 =>
      cond x129
       (cond ((q.exprs.length : Int) == (0 : Int))
        (cond (decide (q.count ≥ (0 : Int)))
         (some (decide (q.offset ≥ (0 : Int))))
         (some false))
        (some false))
       (some ((q.exprs.length : Int) == (0 : Int))))))))
theorem W_query_shape (q : LQuery) (r : Bool) (H : iQ q = some r) :
  aJ Tryz.prog 131 [(.agg (aw q))] (ay r) := by
 unfold iQ at H
 refine PH.ap Tryz.func131 Tryz.ntmps131 ?_
 refine ab (aa (aB ?_))
 refine ag tk rfl (ac (ab (aa (rx (e := 3) (rows := [[(ah (-1))],[(ah 0)],[(ah 1)],[(ah 1)],[(ah 2)],[(ah 2)],[(ah 2)],[(ah 2)],[(ah 1)],[(ah 1)],[(ah 1)]]) tk rfl rfl rfl rfl (rows' := List.map aY ([(-1),0,1,1,2,2,2,2,1,1,1] : List Int)) (by kernel_rfl) (dS.refl _) rfl rfl (ag tk rfl (ac (ab (ab ?_))))))))
 refine fm (γ := Unit) (fun t1 g1=>⟨148,upd (upd (fun _=>.any) 24 (ay t1)) 1 (.ptr (aw q)),fun _=>none,fun _=>none⟩) H (fun _ H=>?_) (fun t1 g1 H=>?_)
 ·refine bn tk mok ⟨false,false,[]⟩ [0,1,2,3,4,5,6,7,8,9,10,11,12,13,14,15,16,17,18] rfl (by decide +kernel) rfl (aL 4 rfl ?_)
  refine lJ H (fun H=>?_) (fun H=>?_)
  ·refine aL 15 rfl (bf ?_)
   refine aS _ () (aD H) Gh.d
  refine aL 5 rfl ?_
  refine lJ H (fun H=>?_) (fun H=>?_)
  ·refine aL 10 rfl (bf ?_)
   refine aS _ () (aD H) Gh.d
  refine aL 2 rfl (qd rfl rfl rfl rfl rfl rfl (zl _) rfl (aL 3 rfl ?_))
  obtain ⟨x21,k21,H⟩ := bg H
  refine aZ k21.1 (aF (fun _=>rfl) k21.2) ?_
  refine aL 3 rfl (bf ?_)
  refine aS _ () (aD H) Gh.d
 refine aK rfl H (fun H=>?_) (fun H=>?_)
 ·refine al 1 tk rfl ?_
  exact aV tk H rfl
 refine ao (al 2 tk rfl (ab (az (ab (ab ?_)))))
 refine fm (γ := Unit) (fun t2 g2=>⟨148,upd (upd (upd (fun _=>.any) 26 (ay t2)) 4 (.fn 163 [(.ptr (aw q))])) 1 (.ptr (aw q)),fun _=>none,fun _=>none⟩) H (fun _ H=>?_) (fun t2 g2 H=>?_)
 ·refine aa (ag tk rfl (de tk (rows' := List.map aY ([1] : List Int)) (dS.refl _) ?_))
  obtain ⟨x29,h29,H⟩ := av H
  have s29 := dO ([1] : List Int) q _ h29
  refine ak Tryz.call163 (fG.r) s29 ?_
  refine ae 2 tk rfl ?_
  refine aR rfl rfl rfl H (fun H=>?_) (fun H=>?_)
  ·refine ae 5 tk rfl (ac ?_)
   refine aS _ () (aD H) Gh.d
  refine ae 5 tk rfl (ac ?_)
  refine aS _ () (aD H) Gh.d
 refine fm (γ := Unit) (fun t6 g6=>⟨148,upd (upd (upd (fun _=>.any) 26 (ay t6)) 4 (.fn 163 [(.ptr (aw q))])) 1 (.ptr (aw q)),fun _=>none,fun _=>none⟩) H (fun _ H=>?_) (fun t6 g6 H=>?_)
 ·refine aK rfl H (fun H=>?_) (fun H=>?_)
  ·refine ao ?_
   refine aS _ () (aD H) Gh.d
  refine ab ?_
  refine fm (γ := Unit) (fun t7 g7=>⟨148,upd (upd (upd (fun _=>.any) 26 (ay t7)) 4 (.fn 163 [(.ptr (aw q))])) 1 (.ptr (aw q)),fun _=>none,fun _=>none⟩) H (fun _ H=>?_) (fun t7 g7 H=>?_)
  ·refine aa (ag tk rfl (de tk (rows' := List.map aY ([3,8] : List Int)) (dS.refl _) ?_))
   obtain ⟨x38,h38,H⟩ := av H
   have s38 := dO ([3,8] : List Int) q _ h38
   refine ak Tryz.call163 (fG.r) s38 ?_
   refine ae 2 tk rfl ?_
   refine aR rfl rfl rfl H (fun H=>?_) (fun H=>?_)
   ·refine ae 2 tk rfl (ax tk (zl _) ?_)
    refine ae 3 tk rfl (ac ?_)
    refine aS _ () (aD H) Gh.d
   refine ae 6 tk rfl (ac ?_)
   refine aS _ () (aD H) Gh.d
  refine aK rfl H (fun H=>?_) (fun H=>?_)
  ·refine ao ?_
   refine aS _ () (aD H) Gh.d
  refine ab ?_
  refine fm (γ := Unit) (fun t8 g8=>⟨148,upd (upd (upd (fun _=>.any) 26 (ay t8)) 4 (.fn 163 [(.ptr (aw q))])) 1 (.ptr (aw q)),fun _=>none,fun _=>none⟩) H (fun _ H=>?_) (fun t8 g8 H=>?_)
  ·refine aa (ag tk rfl (de tk (rows' := List.map aY ([8] : List Int)) (dS.refl _) ?_))
   obtain ⟨x48,h48,H⟩ := av H
   have s48 := dO ([8] : List Int) q _ h48
   refine ak Tryz.call163 (fG.r) s48 ?_
   refine ae 2 tk rfl ?_
   refine aR rfl rfl rfl H (fun H=>?_) (fun H=>?_)
   ·refine ae 2 tk rfl (ax tk (zl _) ?_)
    refine ae 3 tk rfl (ac ?_)
    refine aS _ () (aD H) Gh.d
   refine ae 6 tk rfl (ac ?_)
   refine aS _ () (aD H) Gh.d
  refine aK rfl H (fun H=>?_) (fun H=>?_)
  ·refine ao ?_
   refine aS _ () (aD H) Gh.d
  refine ab ?_
  refine fm (γ := Unit) (fun t9 g9=>⟨148,upd (upd (upd (fun _=>.any) 26 (ay t9)) 4 (.fn 163 [(.ptr (aw q))])) 1 (.ptr (aw q)),fun _=>none,fun _=>none⟩) H (fun _ H=>?_) (fun t9 g9 H=>?_)
  ·refine aa (ag tk rfl (de tk (rows' := List.map aY ([9] : List Int)) (dS.refl _) ?_))
   obtain ⟨x58,h58,H⟩ := av H
   have s58 := dO ([9] : List Int) q _ h58
   refine ak Tryz.call163 (fG.r) s58 ?_
   refine ae 2 tk rfl ?_
   refine aR rfl rfl rfl H (fun H=>?_) (fun H=>?_)
   ·refine ae 2 tk rfl (ax tk (zl _) ?_)
    refine ae 3 tk rfl (ac ?_)
    refine aS _ () (aD H) Gh.d
   refine ae 6 tk rfl (ac ?_)
   refine aS _ () (aD H) Gh.d
  refine aK rfl H (fun H=>?_) (fun H=>?_)
  ·refine ao ?_
   refine aS _ () (aD H) Gh.d
  refine aa (ag tk rfl (de tk (rows' := List.map aY ([10] : List Int)) (dS.refl _) ?_))
  obtain ⟨x68,h68,H⟩ := av H
  have s68 := dO ([10] : List Int) q _ h68
  refine ak Tryz.call163 (fG.r) s68 ?_
  refine ae 2 tk rfl ?_
  refine aR rfl rfl rfl H (fun H=>?_) (fun H=>?_)
  ·refine ae 4 tk rfl ?_
   refine aR rfl rfl rfl H (fun H=>?_) (fun H=>?_)
   ·refine ae 6 tk rfl (ac ?_)
    refine aS _ () (aD H) Gh.d
   refine ae 6 tk rfl (ac ?_)
   refine aS _ () (aD H) Gh.d
  refine ae 10 tk rfl (ac ?_)
  refine aS _ () (aD H) Gh.d
 refine aK rfl H (fun H=>?_) (fun H=>?_)
 ·refine al 1 tk rfl ?_
  exact aV tk H rfl
 refine ab (aa (ag tk rfl (de tk (rows' := List.map aY ([2,4,5] : List Int)) (dS.refl _) ?_)))
 obtain ⟨x83,h83,H⟩ := av H
 have s83 := dO ([2,4,5] : List Int) q _ h83
 refine ak Tryz.call163 (fG.r) s83 ?_
 refine ag tk rfl (ac ?_)
 refine aK rfl H (fun H=>?_) (fun H=>?_)
 ·refine ab (aa (ae 2 tk rfl (ax tk (zl _) ?_)))
  refine ae 2 tk rfl (ac ?_)
  exact aV tk H rfl
 refine ab (aa (ag tk rfl (de tk (rows' := List.map aY ([3,8] : List Int)) (dS.refl _) ?_)))
 obtain ⟨x91,h91,H⟩ := av H
 have s91 := dO ([3,8] : List Int) q _ h91
 refine ak Tryz.call163 (fG.r) s91 ?_
 refine ag tk rfl (ac ?_)
 refine aK rfl H (fun H=>?_) (fun H=>?_)
 ·refine ab (aa (ae 2 tk rfl (ax tk (zl _) ?_)))
  refine ae 2 tk rfl (ax tk (zl _) ?_)
  refine ae 2 tk rfl ?_
  refine aR rfl rfl rfl H (fun H=>?_) (fun H=>?_)
  ·refine ae 2 tk rfl (ax tk (zl _) ?_)
   refine ae 2 tk rfl (ax tk (zl _) ?_)
   refine ae 4 tk rfl (ac ?_)
   exact aV tk H rfl
  refine ae 10 tk rfl (ac ?_)
  exact aV tk H rfl
 refine ab (aa (ag tk rfl (de tk (rows' := List.map aY ([9] : List Int)) (dS.refl _) ?_)))
 obtain ⟨x112,h112,H⟩ := av H
 have s112 := dO ([9] : List Int) q _ h112
 refine ak Tryz.call163 (fG.r) s112 ?_
 refine ag tk rfl (ac ?_)
 refine aK rfl H (fun H=>?_) (fun H=>?_)
 ·refine ab (aa (ae 2 tk rfl (ax tk (zl _) ?_)))
  refine ae 2 tk rfl (ax tk (zl _) ?_)
  refine ae 2 tk rfl ?_
  refine aR rfl rfl rfl H (fun H=>?_) (fun H=>?_)
  ·refine ae 2 tk rfl (ax tk (zl _) ?_)
   refine ae 3 tk rfl (ac ?_)
   exact aV tk H rfl
  refine ae 6 tk rfl (ac ?_)
  exact aV tk H rfl
 refine ab (aa (ag tk rfl (de tk (rows' := List.map aY ([10] : List Int)) (dS.refl _) ?_)))
 obtain ⟨x129,h129,H⟩ := av H
 have s129 := dO ([10] : List Int) q _ h129
 refine ak Tryz.call163 (fG.r) s129 ?_
 refine ag tk rfl (ac ?_)
 refine aK rfl H (fun H=>?_) (fun H=>?_)
 ·refine ab (aa (ae 2 tk rfl (ax tk (zl _) ?_)))
  refine ae 2 tk rfl ?_
  refine aR rfl rfl rfl H (fun H=>?_) (fun H=>?_)
  ·refine ae 5 tk rfl ?_
   refine aR rfl rfl rfl H (fun H=>?_) (fun H=>?_)
   ·refine ae 5 tk rfl (ac ?_)
    exact aV tk H rfl
   refine ae 5 tk rfl (ac ?_)
   exact aV tk H rfl
  refine ae 10 tk rfl (ac ?_)
  exact aV tk H rfl
 refine ao (aP (ab (aa (ae 2 tk rfl (ax tk (zl _) ?_)))))
 refine ae 2 tk rfl (ac ?_)
 exact aV tk H rfl
def cz (c : LChecker) (l : List LCol) (e : LExpr) : Int :=
 bL (el l c.vars e) fun x15 =>
 cond (x15.2.2 == (0 : Int))
  (cond (x15.1 != (2 : Int))
   (cond (x15.1 != (0 : Int))
    (7)
    (x15.2.2))
   (x15.2.2))
  (x15.2.2)
theorem jc (c : LChecker) (l : List LCol) (e : LExpr) :
  aJ Tryz.prog 166 [(.agg (cM c)),(.list 58 (l.map aT)),(.agg (bE e))] (ah (cz c l e)) := by
 obtain ⟨r,H⟩ : ∃ r,cz c l e = r := ⟨_,rfl⟩
 rw [H]
 unfold cz at H
 refine PH.ap Tryz.func166 Tryz.ntmps166 ?_
 refine ab (aa (aB ?_))
 refine aB ?_
 refine ag tk rfl (ac (ab (aa (ae 4 tk rfl ?_))))
 obtain ⟨x15,h15,H⟩ := ef H
 have s15 := lA l c.vars e
 rw [h15] at s15
 refine ak Tryz.call169 (fG.r) s15 ?_
 refine ae 7 tk rfl (ac (ab (ab (aa (ae 3 tk rfl ?_)))))
 refine aR rfl rfl rfl H (fun H=>?_) (fun H=>?_)
 ·refine ae 4 tk rfl ?_
  refine aR rfl rfl rfl H (fun H=>?_) (fun H=>?_)
  ·refine ae 3 tk rfl (ac ?_)
   refine aK rfl H (fun H=>?_) (fun H=>?_)
   ·refine al 1 tk rfl ?_
    exact cE tk H rfl
   refine ao (al 2 tk rfl ?_)
   exact cE tk H rfl
  refine ae 3 tk rfl (ac (dl rfl (ao (al 2 tk rfl ?_))))
  exact cE tk H rfl
 refine ae 7 tk rfl (ac (dl rfl (ao (al 2 tk rfl ?_))))
 exact cE tk H rfl
def ep (c : LChecker) (inA : List LCol) (a : LAggregateCall) : Option (Int × Int) :=
 af (
  bL (cN a.name) fun x13 =>
  cond (!x13)
   (some true)
   (af (cn ([[99,111,117,110,116],[115,117,109],[109,105,110],[109,97,120]] : List (List UInt8)) a.function) fun x19 =>
   cond (!x19)
    (some true)
    (cond (decide ((a.args.length : Int) > (1 : Int)))
     (some true)
     (cond (decide ((a.args.length : Int) < (1 : Int)))
      (some (!(a.function == ([99,111,117,110,116] : List UInt8))))
      (some false))))) fun (t1 : Bool) =>
 cond t1
  (some (0,3))
  (cond ((a.args.length : Int) == (0 : Int))
   (some (1,0))
   (af (aH a.args 0) fun (x49 : LExpr) =>
   bL (el inA c.vars x49) fun x51 =>
   cond (x51.2.2 != (0 : Int))
    (some (0,x51.2.2))
    (bL (
     cond (x51.1 == (0 : Int))
      (true)
      (cond (a.function == ([115,117,109] : List UInt8))
       ((x51.1 != (1 : Int)))
       (false))) fun (t2 : Bool) =>
    cond t2
     (some (0,7))
     (cond (a.function == ([99,111,117,110,116] : List UInt8))
      (some (1,0))
      (some (x51.1,0))))))
theorem pq (c : LChecker) (inA : List LCol) (a : LAggregateCall) (r : Int × Int) (H : ep c inA a = some r) :
  aJ Tryz.prog 192 [(.agg (cM c)),(.list 58 (inA.map aT)),(.agg (eT a))] (.tup [(ah r.1),(ah r.2)]) := by
 unfold ep at H
 refine PH.ap Tryz.func192 Tryz.ntmps192 ?_
 refine ab (aa (aB ?_))
 refine aB ?_
 refine ae 2 tk rfl (ac (ab (ab ?_)))
 refine fm (γ := Unit) (fun t1 g1=>⟨76,upd (upd (upd (upd (fun _=>.any) 38 (ay t1)) 5 (.ptr (eT a))) 3 (.ptr (cM c))) 1 (.list 58 (inA.map aT)),fun _=>none,fun _=>none⟩) H (fun _ H=>?_) (fun t1 g1 H=>?_)
 ·refine aa (ae 2 tk rfl ?_)
  obtain ⟨x13,h13,H⟩ := ef H
  have s13 := kD a.name
  rw [h13] at s13
  refine ak Tryz.call191 (fG.r) s13 ?_
  refine ae 2 tk rfl ?_
  refine aR rfl rfl rfl H (fun H=>?_) (fun H=>?_)
  ·refine ae 23 tk rfl (ac ?_)
   refine aS _ () (aD H) Gh.d
  refine de tk (rows' := List.map bm ([[99,111,117,110,116],[115,117,109],[109,105,110],[109,97,120]] : List (List UInt8))) (dS.refl _) ?_
  refine ae 2 tk rfl ?_
  obtain ⟨x19,h19,H⟩ := av H
  have s19 := gu ([[99,111,117,110,116],[115,117,109],[109,105,110],[109,97,120]] : List (List UInt8)) a.function _ h19
  refine ak Tryz.call59 (fG.r) s19 ?_
  refine ae 3 tk rfl ?_
  refine aR rfl rfl rfl H (fun H=>?_) (fun H=>?_)
  ·refine ae 16 tk rfl (ac ?_)
   refine aS _ () (aD H) Gh.d
  refine ae 2 tk rfl (ax tk (zl _) ?_)
  refine ae 3 tk rfl ?_
  refine aR rfl rfl rfl H (fun H=>?_) (fun H=>?_)
  ·refine ae 10 tk rfl (ac ?_)
   refine aS _ () (aD H) Gh.d
  refine ae 2 tk rfl (ax tk (zl _) ?_)
  refine ae 2 tk rfl ?_
  refine aR rfl rfl rfl H (fun H=>?_) (fun H=>?_)
  ·refine ae 5 tk rfl (ac ?_)
   refine aS _ () (aD H) Gh.d
  refine ae 5 tk rfl (ac ?_)
  refine aS _ () (aD H) Gh.d
 refine aK rfl H (fun H=>?_) (fun H=>?_)
 ·refine al 2 tk rfl ?_
  exact aV tk H rfl
 refine ao (ab (ab (aa (ae 2 tk rfl (ax tk (zl _) ?_)))))
 refine ag tk rfl (ac ?_)
 refine aK rfl H (fun H=>?_) (fun H=>?_)
 ·refine al 2 tk rfl ?_
  exact aV tk H rfl
 refine ao (ab (bn tk mok ⟨false,false,[]⟩ [0,1,2,3,4,5,6,7,8,9,10,11,12,13,14] rfl (by decide +kernel) rfl (aL 5 rfl ?_)))
 obtain ⟨x49,k49,H⟩ := bg H
 refine aZ k49.1 (aF bj k49.2) ?_
 refine bt rfl ?_
 obtain ⟨x51,h51,H⟩ := ef H
 have s51 := lA inA c.vars x49
 rw [h51] at s51
 refine bq Tryz.call169 (fG.r) s51 ?_
 refine aL 7 rfl (bf (ab (az (al 3 tk rfl ?_))))
 refine aK rfl H (fun H=>?_) (fun H=>?_)
 ·refine al 3 tk rfl ?_
  exact aV tk H rfl
 refine ab ?_
 refine eF (γ := Unit) (fun t2 g2=>⟨76,upd (upd (upd (fun _=>.any) 59 (ay t2)) 8 (ah x51.1)) 5 (.ptr (eT a)),fun _=>none,fun _=>none⟩) H (fun _ H=>?_) (fun t2 g2 H=>?_)
 ·refine aa (ae 3 tk rfl ?_)
  refine aR rfl rfl rfl H (fun H=>?_) (fun H=>?_)
  ·refine ae 9 tk rfl (ac ?_)
   refine aS _ () H Gh.d
  refine ae 4 tk rfl ?_
  refine aR rfl rfl rfl H (fun H=>?_) (fun H=>?_)
  ·refine ae 5 tk rfl (ac ?_)
   refine aS _ () H Gh.d
  refine ae 5 tk rfl (ac ?_)
  refine aS _ () H Gh.d
 refine aK rfl H (fun H=>?_) (fun H=>?_)
 ·refine al 2 tk rfl ?_
  exact aV tk H rfl
 refine al 4 tk rfl ?_
 refine aK rfl H (fun H=>?_) (fun H=>?_)
 ·refine al 2 tk rfl ?_
  exact aV tk H rfl
 refine ao (aP (al 3 tk rfl ?_))
 exact aV tk H rfl
def jO (rec50 : LQuery → Option (LQuery)) (q : LQuery) : Option (LQuery) :=
 af (aC (σ := List LExpr) (ρ := Empty) (fun (_ : Nat) (x1 : LExpr) (s1 : List LExpr) =>
  af (iy x1) fun x32 =>
  af (cJ 88 s1 ([x32] : List LExpr)) fun (x34 : List LExpr) =>
  some (.next x34)) 0 q.exprs []) fun fl1=>fl1.thenP fun (s1 : List LExpr) =>
 af (aC (σ := List LAggregateCall) (ρ := Empty) (fun (_ : Nat) (x2 : LAggregateCall) (s2 : List LAggregateCall) =>
  af (iN x2.args) fun x52 =>
  af (cJ 56 s2 ([(LAggregateCall.mk x2.name x2.function x52)] : List LAggregateCall)) fun (x55 : List LAggregateCall) =>
  some (.next x55)) 0 q.aggregates []) fun fl2=>fl2.thenP fun (s2 : List LAggregateCall) =>
 af (aC (σ := List LQuery) (ρ := Empty) (fun (_ : Nat) (x3 : LQuery) (s3 : List LQuery) =>
  af (rec50 x3) fun x68 =>
  af (cJ 160 s3 ([x68] : List LQuery)) fun (x70 : List LQuery) =>
  some (.next x70)) 0 q.inputs []) fun fl3=>fl3.thenP fun (s3 : List LQuery) =>
 some (LQuery.mk q.kind q.table q.names s1 s2 q.descending q.count q.offset s3)
theorem WO_query_Clone (rec50 : LQuery → Option (LQuery)) (hrec50 : ∀ a0 r,rec50 a0 = some r → aJ Tryz.prog 50 [(.agg (aw a0))] (.agg (aw r))) (q : LQuery) (r : LQuery) (H : jO rec50 q = some r) :
  aJ Tryz.prog 50 [(.agg (aw q))] (.agg (aw r)) := by
 unfold jO at H
 refine PH.ap Tryz.func50 Tryz.ntmps50 ?_
 refine ab (aa (aB ?_))
 refine aM tk fun b2=>?_
 refine ac (ab (aa (ag tk rfl ?_)))
 refine aM tk fun b3=>?_
 refine am tk ?_
 refine ac (ab (bn tk mok ⟨false,false,[]⟩ [0,1,3,4,2,6,5,7,8,9] rfl (by decide +kernel) rfl (aL 4 rfl ?_)))
 have s13 := clone_88 (m := 13) q.names
 refine qO (g := 88) rfl rfl rfl rfl Tryz.call88 (fG.r) rfl rfl s13 (fun g13=>?_)
 refine bt rfl ?_
 have s16 := clone_89 (m := 16) q.descending
 refine qO (g := 89) rfl rfl rfl rfl Tryz.call89 (fG.r) rfl rfl s16 (fun g16=>?_)
 refine bB ?_
 refine bt rfl (bB ?_)
 refine bf (ab (aa (ag tk rfl (am tk ?_))))
 refine ag tk rfl (am tk ?_)
 refine ag tk rfl (am tk ?_)
 refine ac (ab (ab (aa (ae 2 tk rfl (ax tk (zl _) ?_)))))
 refine ag tk rfl (ac (jq tk 3 3 34 (e := 92) rfl rfl rfl rfl ?_))
 refine ek (γ := OwnRef) tk 25 24 23 (fun s1 g1=>upd (upd (upd (fun _=>.any) 3 (.box 3 b3 0)) 2 (.box 2 b2 0)) 1 (.ptr (aw q))) (fun s1 g1=>upd (upd (fun _=>none) 3 (some ⟨b3,[(ah q.kind),(.str q.table),(.own 13 g13 (q.names.map bm).length),(.own 34 g1 (s1.map aE).length),(.val (.slice none 0 0)),(.own 16 g16 (q.descending.map jb).length),(ah q.count),(ah q.offset),(.val (.slice none 0 0))]⟩)) 2 (some ⟨b2,[(ah 0),(.str []),(.val (.slice none 0 0)),(.val (.slice none 0 0)),(.val (.slice none 0 0)),(.val (.slice none 0 0)),(ah 0),(ah 0),(.val (.slice none 0 0))]⟩)) (fun s1 g1=>upd (upd (upd (fun _=>none) 34 (some ⟨g1,92,(s1.map aE),true⟩)) 16 (some ⟨g16,4,(q.descending.map jb),true⟩)) 13 (some ⟨g13,9,(q.names.map bm),true⟩)) (⟨none,0⟩) H (fun fl1 Hp1 j1 s1 g1 hz1 hl1 x1 fb1 hx1 H hg1=>?_) (fun s1 g1 H=>?_)
 ·refine ab (az (ab (aa (aN tk (zn j1) (bd bj hx1) ?_))))
  refine ag tk rfl ?_
  refine aM tk fun b5=>?_
  refine am tk ?_
  refine ac (fN 5 ?_)
  refine bn tk mok ⟨true,false,[31]⟩ [0,1,2,3,4,5,6,7] rfl (by decide +kernel) rfl (bt rfl (bI ?_))
  refine bt rfl ?_
  obtain ⟨x32,h32,H⟩ := av H
  have s32 := mO x1 _ h32
  refine bq Tryz.call90 (fG.r) s32 ?_
  refine bt rfl ?_
  obtain ⟨x34,h34,H⟩ := av H
  have k34 := ci h34
  refine fM (rows2' := List.map aE ([x32] : List LExpr)) (rows' := List.map aE x34) tk rfl rfl rfl rfl rfl rfl rfl rfl rfl rfl rfl rfl rfl rfl (dS.trans (b := List.map bE [x32]) (dS.refl _) (dS.of_eq (fV bj [x32]))) (cW k34.1) (cX k34.2.1) (cY k34.2.2) fun g34=>?_
  refine bt rfl (bB ?_)
  refine bf (aP (bl 2 tk rfl ?_))
  exact bi g34 H hl1 hg1
 refine ab (ab (aa (ae 2 tk rfl (ax tk (zl _) ?_))))
 refine ag tk rfl (ac (jq tk 3 4 55 (e := 118) rfl rfl rfl rfl ?_))
 refine ek (γ := OwnRef) tk 40 39 38 (fun s2 g2=>upd (upd (upd (fun _=>.any) 3 (.box 3 b3 0)) 2 (.box 2 b2 0)) 1 (.ptr (aw q))) (fun s2 g2=>upd (upd (fun _=>none) 3 (some ⟨b3,[(ah q.kind),(.str q.table),(.own 13 g13 (q.names.map bm).length),(.own 34 g1 (s1.map aE).length),(.own 55 g2 (s2.map eT).length),(.own 16 g16 (q.descending.map jb).length),(ah q.count),(ah q.offset),(.val (.slice none 0 0))]⟩)) 2 (some ⟨b2,[(ah 0),(.str []),(.val (.slice none 0 0)),(.val (.slice none 0 0)),(.val (.slice none 0 0)),(.val (.slice none 0 0)),(ah 0),(ah 0),(.val (.slice none 0 0))]⟩)) (fun s2 g2=>upd (upd (upd (upd (fun _=>none) 55 (some ⟨g2,118,(s2.map eT),true⟩)) 34 (some ⟨g1,92,(s1.map aE),true⟩)) 16 (some ⟨g16,4,(q.descending.map jb),true⟩)) 13 (some ⟨g13,9,(q.names.map bm),true⟩)) (⟨none,0⟩) H (fun fl2 Hp2 j2 s2 g2 hz2 hl2 x2 fb2 hx2 H hg2=>?_) (fun s2 g2 H=>?_)
 ·refine ab (az (ab (aa ?_)))
  refine aN tk (zn j2) (bd (fun _=>rfl) hx2) ?_
  refine ag tk rfl ?_
  refine aM tk fun b7=>?_
  refine am tk ?_
  refine ac (fN 7 ?_)
  refine bn tk mok ⟨true,false,[47,49,51]⟩ [0,1,2,3,4,5,6,7,8,9,10,11,12,13] rfl (by decide +kernel) rfl (bt rfl (bI ?_))
  refine aL 6 rfl ?_
  obtain ⟨x52,h52,H⟩ := av H
  have s52 := W_query_exprs x2.args _ h52
  refine bq Tryz.call91 (fG.r) s52 ?_
  refine aL 2 rfl ?_
  obtain ⟨x55,h55,H⟩ := av H
  have k55 := ci h55
  refine fM (rows2' := List.map eT ([(LAggregateCall.mk x2.name x2.function x52)] : List LAggregateCall)) (rows' := List.map eT x55) tk rfl rfl rfl rfl rfl rfl rfl rfl rfl rfl rfl rfl rfl rfl (dS.refl _) (cW k55.1) (cX k55.2.1) (cY k55.2.2) fun g55=>?_
  refine bt rfl (bB ?_)
  refine bf (aP (bl 2 tk rfl ?_))
  exact bi g55 H hl2 hg2
 refine ab (ab (aa (ae 2 tk rfl (ax tk (zl _) ?_))))
 refine ag tk rfl (ac (jq tk 3 8 70 (e := 34) rfl rfl rfl rfl ?_))
 refine ek (γ := OwnRef) tk 61 60 59 (fun s3 g3=>upd (upd (fun _=>.any) 3 (.box 3 b3 0)) 2 (.box 2 b2 0)) (fun s3 g3=>upd (upd (fun _=>none) 3 (some ⟨b3,[(ah q.kind),(.str q.table),(.own 13 g13 (q.names.map bm).length),(.own 34 g1 (s1.map aE).length),(.own 55 g2 (s2.map eT).length),(.own 16 g16 (q.descending.map jb).length),(ah q.count),(ah q.offset),(.own 70 g3 (s3.map bp).length)]⟩)) 2 (some ⟨b2,[(ah 0),(.str []),(.val (.slice none 0 0)),(.val (.slice none 0 0)),(.val (.slice none 0 0)),(.val (.slice none 0 0)),(ah 0),(ah 0),(.val (.slice none 0 0))]⟩)) (fun s3 g3=>upd (upd (upd (upd (upd (fun _=>none) 70 (some ⟨g3,34,(s3.map bp),true⟩)) 55 (some ⟨g2,118,(s2.map eT),true⟩)) 34 (some ⟨g1,92,(s1.map aE),true⟩)) 16 (some ⟨g16,4,(q.descending.map jb),true⟩)) 13 (some ⟨g13,9,(q.names.map bm),true⟩)) (⟨none,0⟩) H (fun fl3 Hp3 j3 s3 g3 hz3 hl3 x3 fb3 hx3 H hg3=>?_) (fun s3 g3 H=>?_)
 ·refine ab (az (ab (aa (aN tk (zn j3) (bd bw hx3) ?_))))
  refine ag tk rfl ?_
  refine aM tk fun b9=>?_
  refine am tk ?_
  refine ac (fN 9 ?_)
  refine bn tk mok ⟨true,false,[67]⟩ [0,1,2,3,4,5,6,7] rfl (by decide +kernel) rfl (bt rfl (bI ?_))
  refine bt rfl ?_
  obtain ⟨x68,h68,H⟩ := av H
  have s68 := hrec50 x3 _ h68
  refine bq Tryz.call50 (fG.r) s68 ?_
  refine bt rfl ?_
  obtain ⟨x70,h70,H⟩ := av H
  have k70 := ci h70
  refine fM (rows2' := List.map bp ([x68] : List LQuery)) (rows' := List.map bp x70) tk rfl rfl rfl rfl rfl rfl rfl rfl rfl rfl rfl rfl rfl rfl (dS.trans (b := List.map aw [x68]) (dS.refl _) (dS.of_eq (fV bw [x68]))) (cW k70.1) (cX k70.2.1) (cY k70.2.2) fun g70=>?_
  refine bt rfl (bB ?_)
  refine bf (aP (bl 2 tk rfl ?_))
  exact bi g70 H hl3 hg3
 refine ab (aa (aq tk ?_))
 refine am tk ?_
 refine ac (fL 2 2 rfl rfl rfl rfl rfl (fL 2 3 rfl rfl rfl rfl rfl (fL 2 4 rfl rfl rfl rfl rfl (fL 2 5 rfl rfl rfl rfl rfl (fL 2 8 rfl rfl rfl rfl rfl ?_)))))
 exact gQ tk H rfl rfl rfl rfl rfl
def fX : Nat → LQuery → Option (LQuery)
 | 0,_=>none
 | n + 1,v0=>jO (fun b0=>fX n b0) v0
theorem WF_query_Clone  (n : Nat) : (∀ a0 r,fX n a0 = some r → aJ Tryz.prog 50 [(.agg (aw a0))] (.agg (aw r))) := by
 induction n with
 | zero=>exact (by intros; rename_i h; exact absurd (show (none : Option _) = some _ from h) (by simp))
 | succ n ih =>
  exact (fun v0 r h=>WO_query_Clone (fun b0=>fX n b0) ih v0  r h)
def lW (q : LQuery) : Option (LQuery) := eH fun n=>fX n q
theorem W_query_Clone (q : LQuery) (r : LQuery) (H : lW q = some r) :
  aJ Tryz.prog 50 [(.agg (aw q))] (.agg (aw r)) := by
 obtain ⟨n,h⟩ := dU H
 exact (WF_query_Clone  n) q r h
def cB (t : LTable) (name : List UInt8) (condA : LExpr) : Option (Bool) :=
 af (iK condA) fun x16 =>
 af (aC (σ := Unit) (ρ := (Bool)) (fun (_ : Nat) (x1 : LExpr) (_ : Unit) =>
  bL (
   cond (x1.kind != (5 : Int))
    (true)
    (cond (!(x1.name == ([61] : List UInt8)))
     (true)
     (((x1.args.length : Int) != (2 : Int))))) fun (t4 : Bool) =>
  cond t4
   (some (.next ()))
   (af (aC (σ := Unit) (ρ := (Bool)) (fun (j5 : Nat) (x5 : LExpr) (_ : Unit) =>
    cond (x5.kind == (2 : Int))
     (cond (x5.name == name)
      (af (aH x1.args (IntKind.i64.wrap ((1 : Int) - (j5 : Int)))) fun (x62 : LExpr) =>
      af (dD x62 t) fun x64 =>
      cond x64
       (some (.ret true))
       (some (.next ())))
      (some (.next ())))
     (some (.next ()))) 0 x1.args ()) fun fl5=>fl5.thenF fun (_ : Unit) =>
   some (.next ()))) 0 x16 ()) fun fl1=>fl1.thenR fun (_ : Unit) =>
 some false
theorem mF (t : LTable) (name : List UInt8) (condA : LExpr) (r : Bool) (H : cB t name condA = some r) :
  aJ Tryz.prog 136 [(.agg (bS t)),(.str name),(.agg (bE condA))] (ay r) := by
 unfold cB at H
 refine PH.ap Tryz.func136 Tryz.ntmps136 ?_
 refine ab (aa (aB ?_))
 refine aB ?_
 refine ag tk rfl (ac (ab (aa (ag tk rfl ?_))))
 refine aM tk fun b7=>?_
 refine am tk ?_
 refine ac (ab (aa (gL (Gh.freezeB 7 rfl rfl rfl rfl) (ae 2 tk rfl (ac (ab (ab (aa (ag tk rfl ?_)))))))))
 obtain ⟨x16,h16,H⟩ := av H
 have s16 := mH (m := 16) condA _ h16
 refine ak Tryz.call52 (fG.r) (PFun.gn s16) ?_
 refine ax tk (zl _) ?_
 refine ag tk rfl (ac ?_)
 refine dY tk 18 17 16 (fun s1 g1=>upd (upd (fun _=>.any) 8 (.fn 171 [(.ptr [(.fn 170 [(.ptr (bS t))])])])) 1 (.str name)) nB nO () H (fun fl1 Hp1 j1 s1 g1 hz1 hl1 x1 fb1 hx1 H hg1=>?_) (fun s1 g1 H=>?_)
 ·refine ab (az (ab (aa (aN tk (zn j1) (bd bj hx1) ?_))))
  refine ag tk rfl ?_
  refine aM tk fun b10=>?_
  refine am tk ?_
  refine ac (ab (ab ?_))
  refine eF (γ := Unit) (fun t4 g4=>⟨68,upd (upd (upd (upd (upd (upd (upd (fun _=>.any) 35 (ay t4)) 18 (ah (j1 : Int))) 17 (ah (x16.length : Int))) 16 (.list 92 (x16.map aE))) 10 (.box 10 b10 0)) 8 (.fn 171 [(.ptr [(.fn 170 [(.ptr (bS t))])])])) 1 (.str name),upd (fun _=>none) 10 (some ⟨b10,(bE x1)⟩),fun _=>none⟩) H (fun _ H=>?_) (fun t4 g4 H=>?_)
  ·refine aa (ag tk rfl (aq tk ?_))
   refine ae 2 tk rfl ?_
   refine aR rfl rfl rfl H (fun H=>?_) (fun H=>?_)
   ·refine ae 10 tk rfl (ac ?_)
    refine aS _ () H Gh.d
   refine ag tk rfl (aq tk ?_)
   refine ae 3 tk rfl ?_
   refine aR rfl rfl rfl H (fun H=>?_) (fun H=>?_)
   ·refine ae 5 tk rfl (ac ?_)
    refine aS _ () H Gh.d
   refine ag tk rfl (aq tk ?_)
   refine ax tk (zl _) ?_
   refine ae 2 tk rfl (ac ?_)
   refine aS _ () H Gh.d
  refine aK rfl H (fun H=>?_) (fun H=>?_)
  ·refine ca rfl (bl 2 tk rfl ?_)
   exact bi () H hl1 hg1
  refine ao (ab (aa (ag tk rfl (aq tk ?_))))
  refine ax tk (zl _) ?_
  refine ag tk rfl (ac ?_)
  obtain ⟨fl5,H5,Hp5⟩ := av H
  refine gv tk 37 rfl rfl (fun hz5 _=>?_)
  rw [zl] at hz5
  refine ik (τ := Unit) (γ := Unit) (fun s5 g5=>⟨68,upd (upd (upd (upd (upd (fun _=>.any) 18 (ah (j1 : Int))) 17 (ah (x16.length : Int))) 16 (.list 92 (x16.map aE))) 8 (.fn 171 [(.ptr [(.fn 170 [(.ptr (bS t))])])])) 1 (.str name),fun _=>none,fun _=>none⟩) (fun t=>fl5 = .next t) ?_ (fun s5 g5 hn5=>?_)
  ·refine az ?_
   refine jo (fun j5 s5 g5=>⟨68,upd (upd (upd (upd (upd (upd (upd (upd (upd (fun _=>.any) 39 (ah (j5 : Int))) 38 (ah (x1.args.length : Int))) 37 (.list 92 (x1.args.map aE))) 18 (ah (j1 : Int))) 17 (ah (x16.length : Int))) 16 (.list 92 (x16.map aE))) 10 (.box 10 b10 0)) 8 (.fn 171 [(.ptr [(.fn 170 [(.ptr (bS t))])])])) 1 (.str name),upd (fun _=>none) 10 (some ⟨b10,(bE x1)⟩),fun _=>none⟩) () H5 Gh.d (fun j5 s5 g5 hj5 hr5=>?_)
   refine al 1 tk rfl (ab ?_)
   refine co rfl (fun h=>?_) (fun h=>?_)
   ·have hl5 := rowsLt h
    obtain ⟨x5,fb5,hx5,H,hg5⟩ := rMc hl5 hr5
    refine ao (ab (az (al 2 tk rfl (ab (aa (ag tk rfl (aq tk ?_)))))))
    refine ag tk rfl (aN tk (zn j5) (bd bj hx5) ?_)
    refine ag tk rfl ?_
    refine aM tk fun b12=>?_
    refine am tk ?_
    refine ac (ab (aa (ag tk rfl (aq tk ?_))))
    refine ae 2 tk rfl ?_
    refine aR rfl rfl rfl H (fun H=>?_) (fun H=>?_)
    ·refine ag tk rfl (aq tk ?_)
     refine ae 4 tk rfl ?_
     refine aR rfl rfl rfl H (fun H=>?_) (fun H=>?_)
     ·refine ae 2 tk rfl (aq tk ?_)
      refine ae 2 tk rfl ?_
      obtain ⟨x62,k62,H⟩ := bg H
      refine aN tk k62.1 (aF bj k62.2) ?_
      refine ag tk rfl ?_
      obtain ⟨x64,h64,H⟩ := av H
      have s64 := lQ x62 t _ h64
      refine ak Tryz.call171 (fG.r) s64 ?_
      refine ag tk rfl (ac ?_)
      refine aK rfl H (fun H=>?_) (fun H=>?_)
      ·refine al 1 tk rfl ?_
       obtain rfl := aD H
       have e5 : fl5 = .ret _ := hg5
       subst e5
       have q5 := nk Hp5
       subst q5
       have e1 : fl1 = .ret _ := hg1
       subst e1
       obtain rfl := aU Hp1
       refine bc tk rfl (ps := [(ay true)]) ⟨_,_,rfl,rfl,rfl⟩ (PLe.q rfl)
      refine ao (aP (bl 2 tk rfl ?_))
      exact bi () H hl5 hg5
     refine ae 9 tk rfl (ac (dl rfl (ao (aP (bl 2 tk rfl ?_)))))
     exact bi () H hl5 hg5
    refine ae 15 tk rfl (ac (dl rfl (ao (aP (bl 2 tk rfl ?_)))))
    exact bi () H hl5 hg5
   have hn5 := rMd (rowsGe h) hr5
   refine ca rfl ?_
   refine aS s5 g5 hn5 Gh.d
  have H := thenF_next hn5 Hp5
  refine aP (bl 2 tk rfl ?_)
  exact bi () H hl1 hg1
 refine al 1 tk rfl ?_
 exact aV tk H rfl
def gp (e : LExpr) : Option ((List (List UInt8))) :=
 af (eD e 2 ([] : List (List UInt8))) fun x4 =>
 some x4
theorem W_expr_Columns (e : LExpr) (r : (List (List UInt8))) (H : gp e = some r) :
  aJ Tryz.prog 57 [(.agg (bE e))] (.list 9 (r.map bm)) := by
 unfold gp at H
 refine PH.ap Tryz.func57 Tryz.ntmps57 ?_
 refine ab (aa (aB ?_))
 refine ag tk rfl (ac (ab (aa (ag tk rfl (gL (Gh.nilB tk 2904 (e := 9) rfl) ?_)))))
 obtain ⟨x4,h4,H⟩ := av H
 have s4 := W_expr_names (⟨none,0⟩) e 2 ([] : List (List UInt8)) _ h4
 refine jl (g := 96) rfl rfl rfl Tryz.call96 [] [(2904,2)] rfl rfl rfl rfl (fG.cons (PLe.refl _ _) <| fG.cons (PLe.refl _ _) <| fG.cons (PLe.nilOwn _ _) <| fG.r) (by rw [iA,gZ,iB]; rfl) s4 ?_
 rintro u4 H4h ⟨gw4,rfl,rfl⟩
 refine ⟨_,rfl,?_⟩
 refine gL (st' := ⟨_,_,fun _=>none,upd (fun _=>none) 2904 (some ⟨gw4,9,(x4.map bm),true⟩)⟩) (Gh.le (gC _ _) bu (dp bv)) ?_
 refine nQ 4 (q := (.own 2904 gw4 (x4.map bm).length)) rfl (PLe.of2 (lT.own rfl)) (ag tk rfl (ac (cQ 2 rfl rfl rfl ?_)))
 exact aV tk H rfl
def dv (sA : LSchema) (c : LConstraint) : Option (Int) :=
 af (dR sA c.table) fun x14 =>
 cond (!x14.2)
  (some 4)
  (af (aH sA.tables x14.1) fun (x22 : LTable) =>
  bL (fp (LVal.mk 0 0 []) c.op (LVal.mk 0 0 [])) fun x30 =>
  bL (
   cond (decide (c.left < (0 : Int)))
    (true)
    (cond (decide (c.left ≥ (x22.columns.length : Int)))
     (true)
     (cond (x30.2 != (0 : Int))
      (true)
      (cond (decide (c.right < (-1)))
       (true)
       (cond (decide (c.right ≥ (x22.columns.length : Int)))
        (true)
        (cond (decide (c.right ≥ (0 : Int)))
         ((!(c.value.kind == (0 : Int) && (c.value.int == (0 : Int) && (c.value.text == ([] : List UInt8) && true)))))
         (false))))))) fun (t1 : Bool) =>
  cond t1
   (some 3)
   (cond (decide (c.right ≥ (0 : Int)))
    (af (aH x22.columns c.left) fun (x76 : LCol) =>
    af (aH x22.columns c.right) fun (x82 : LCol) =>
    cond (x76.kind != x82.kind)
     (some 7)
     (some 0))
    (af (aH x22.columns c.left) fun (x92 : LCol) =>
    cond (c.value.kind != x92.kind)
     (some 7)
     (bL (iC c.value) fun x98 =>
     some x98))))
theorem lG (sA : LSchema) (c : LConstraint) (r : Int) (H : dv sA c = some r) :
  aJ Tryz.prog 47 [(.agg (bs sA)),(.agg (jy c))] (ah r) := by
 unfold dv at H
 refine PH.ap Tryz.func47 Tryz.ntmps47 ?_
 refine ab (aa (aB ?_))
 refine aB ?_
 refine ag tk rfl (ac (ab (aa (ae 3 tk rfl ?_))))
 obtain ⟨x14,h14,H⟩ := av H
 have s14 := jm sA c.table _ h14
 refine ak Tryz.call77 (fG.r) s14 ?_
 refine ae 5 tk rfl (ac (ab (al 2 tk rfl ?_)))
 refine aK rfl H (fun H=>?_) (fun H=>?_)
 ·refine al 1 tk rfl ?_
  exact aV tk H rfl
 refine ao (ab (aa (ae 3 tk rfl ?_)))
 obtain ⟨x22,k22,H⟩ := bg H
 refine aN tk k22.1 (aF (fun _=>rfl) k22.2) ?_
 refine ae 3 tk rfl (ac (ab (aa (ae 4 tk rfl ?_))))
 obtain ⟨x30,h30,H⟩ := ef H
 have s30 := qj (LVal.mk 0 0 []) c.op (LVal.mk 0 0 [])
 rw [h30] at s30
 refine ak Tryz.call80 (fG.r) s30 ?_
 refine ae 5 tk rfl (ac (ab (ab ?_)))
 refine eF (γ := Unit) (fun t1 g1=>⟨99,upd (upd (upd (fun _=>.any) 69 (ay t1)) 7 (.list 58 (x22.columns.map aT))) 3 (.ptr (jy c)),fun _=>none,fun _=>none⟩) H (fun _ H=>?_) (fun t1 g1 H=>?_)
 ·refine aa (ae 4 tk rfl ?_)
  refine aR rfl rfl rfl H (fun H=>?_) (fun H=>?_)
  ·refine ae 33 tk rfl (ac ?_)
   refine aS _ () H Gh.d
  refine ae 3 tk rfl (ax tk (zl _) ?_)
  refine ae 3 tk rfl ?_
  refine aR rfl rfl rfl H (fun H=>?_) (fun H=>?_)
  ·refine ae 26 tk rfl (ac ?_)
   refine aS _ () H Gh.d
  refine ae 4 tk rfl ?_
  refine aR rfl rfl rfl H (fun H=>?_) (fun H=>?_)
  ·refine ae 22 tk rfl (ac ?_)
   refine aS _ () H Gh.d
  refine ae 5 tk rfl ?_
  refine aR rfl rfl rfl H (fun H=>?_) (fun H=>?_)
  ·refine ae 17 tk rfl (ac ?_)
   refine aS _ () H Gh.d
  refine ae 3 tk rfl (ax tk (zl _) ?_)
  refine ae 3 tk rfl ?_
  refine aR rfl rfl rfl H (fun H=>?_) (fun H=>?_)
  ·refine ae 10 tk rfl (ac ?_)
   refine aS _ () H Gh.d
  refine ae 4 tk rfl ?_
  refine aR rfl rfl rfl H (fun H=>?_) (fun H=>?_)
  ·refine ae 6 tk rfl (ac ?_)
   refine aS _ () H Gh.d
  refine ae 6 tk rfl (ac ?_)
  refine aS _ () H Gh.d
 refine aK rfl H (fun H=>?_) (fun H=>?_)
 ·refine al 1 tk rfl ?_
  exact aV tk H rfl
 refine ao (ab (al 3 tk rfl ?_))
 refine aK rfl H (fun H=>?_) (fun H=>?_)
 ·refine ab (ab (bn tk mok ⟨false,false,[]⟩ [0,1,2,3,4,5,6,7,8,9,10,11,12] rfl (by decide +kernel) rfl (aL 3 rfl ?_)))
  obtain ⟨x76,k76,H⟩ := bg H
  refine aZ k76.1 (aF (fun _=>rfl) k76.2) ?_
  refine aL 5 rfl ?_
  obtain ⟨x82,k82,H⟩ := bg H
  refine aZ k82.1 (aF (fun _=>rfl) k82.2) ?_
  refine aL 3 rfl (bf ?_)
  refine aK rfl H (fun H=>?_) (fun H=>?_)
  ·refine al 1 tk rfl ?_
   exact aV tk H rfl
  refine ao (al 1 tk rfl ?_)
  exact aV tk H rfl
 refine ao (ab (ab (bn tk mok ⟨false,false,[]⟩ [0,1,2,3,4,5,6,7,8,9] rfl (by decide +kernel) rfl (aL 6 rfl ?_))))
 obtain ⟨x92,k92,H⟩ := bg H
 refine aZ k92.1 (aF (fun _=>rfl) k92.2) ?_
 refine aL 3 rfl (bf ?_)
 refine aK rfl H (fun H=>?_) (fun H=>?_)
 ·refine al 1 tk rfl ?_
  exact aV tk H rfl
 refine ao (ab (aa (ae 2 tk rfl ?_)))
 obtain ⟨x98,h98,H⟩ := ef H
 have s98 := qH c.value
 rw [h98] at s98
 refine ak Tryz.call81 (fG.r) s98 ?_
 refine ag tk rfl (ac ?_)
 exact aV tk H rfl
def dh (c : LChecker) (q : LQuery) (inA : List LCol) : Option ((List LCol) × Int) :=
 af (aC (σ := List LCol) (ρ := ((List LCol) × Int)) (fun (j1 : Nat) (x1 : LExpr) (s1 : List LCol) =>
  bL (el inA c.vars x1) fun x31 =>
  af (aH q.names (j1 : Int)) fun (x39 : List UInt8) =>
  bL (cN x39) fun x41 =>
  cond (!x41)
   (some (.ret ([],3)))
   (cond (x31.2.2 != (0 : Int))
    (some (.ret ([],x31.2.2)))
    (cond (x31.1 == (0 : Int))
     (some (.ret ([],7)))
     (af (aH q.names (j1 : Int)) fun (x54 : List UInt8) =>
     af (cJ 32 s1 ([(LCol.mk x54 x31.1 x31.2.1)] : List LCol)) fun (x60 : List LCol) =>
     some (.next x60))))) 0 q.exprs []) fun fl1=>fl1.thenR fun (s1 : List LCol) =>
 af (aC (σ := List LCol) (ρ := ((List LCol) × Int)) (fun (_ : Nat) (x2 : LAggregateCall) (s2 : List LCol) =>
  af (ep c inA x2) fun x73 =>
  cond (x73.2 != (0 : Int))
   (some (.ret ([],x73.2)))
   (af (cJ 32 s2 ([(LCol.mk x2.name x73.1 (!(x2.function == ([99,111,117,110,116] : List UInt8))))] : List LCol)) fun (x88 : List LCol) =>
   some (.next x88))) 0 q.aggregates s1) fun fl2=>fl2.thenR fun (s2 : List LCol) =>
 some (s2,0)
theorem kV (c : LChecker) (q : LQuery) (inA : List LCol) (r : (List LCol) × Int) (H : dh c q inA = some r) :
  aJ Tryz.prog 168 [(.agg (cM c)),(.agg (aw q)),(.list 58 (inA.map aT))] (.tup [(.list 58 (r.1.map aT)),(ah r.2)]) := by
 unfold dh at H
 refine PH.ap Tryz.func168 Tryz.ntmps168 ?_
 refine ab (aa (aB ?_))
 refine aB ?_
 refine ae 2 tk rfl (ac (al 1 tk rfl (ab (ab (aa (ae 2 tk rfl (ax tk (zl _) ?_)))))))
 refine ag tk rfl (ac (iO tk 8 60 (e := 58) rfl rfl ?_))
 refine dY (γ := OwnRef) tk 21 20 19 (fun s1 g1=>upd (upd (upd (upd (fun _=>.any) 8 (.own 60 g1 (s1.map aT).length)) 4 (.ptr (aw q))) 3 (.ptr (cM c))) 2 (.list 58 (inA.map aT))) nB (fun s1 g1=>upd (fun _=>none) 60 (some ⟨g1,58,(s1.map aT),true⟩)) (⟨none,0⟩) H (fun fl1 Hp1 j1 s1 g1 hz1 hl1 x1 fb1 hx1 H hg1=>?_) (fun s1 g1 H=>?_)
 ·refine ab (az (ab (aa (ag tk rfl (aN tk (zn j1) (bd bj hx1) ?_)))))
  refine ag tk rfl ?_
  refine aM tk fun b10=>?_
  refine ag tk rfl (am tk ?_)
  refine ac (ab (aa (ae 3 tk rfl (aq tk ?_))))
  obtain ⟨x31,h31,H⟩ := ef H
  have s31 := lA inA c.vars x1
  rw [h31] at s31
  refine ak Tryz.call169 (fG.r) s31 ?_
  refine ae 7 tk rfl (ac (ab (az (ab (aa (ae 3 tk rfl ?_))))))
  obtain ⟨x39,k39,H⟩ := bg H
  refine aN tk k39.1 (aF (fun _=>rfl) k39.2) ?_
  refine ag tk rfl ?_
  obtain ⟨x41,h41,H⟩ := ef H
  have s41 := kD x39
  rw [h41] at s41
  refine ak Tryz.call191 (fG.r) s41 ?_
  refine ae 2 tk rfl (ac ?_)
  refine aK rfl H (fun H=>?_) (fun H=>?_)
  ·refine al 2 tk rfl ?_
   obtain rfl := aD H
   have e1 : fl1 = .ret _ := hg1
   subst e1
   obtain rfl := aU Hp1
   refine bc tk rfl (ps := [(.val (.slice none 0 0)),(ah 3)]) ⟨_,_,rfl,rfl,_,_,rfl,rfl,rfl⟩ (PLe.of2 (lT.tup (fH.cons (lT.nil tk rfl) (fH.cons (lT.of_eq rfl) fH.nil))))
  refine al 3 tk rfl ?_
  refine aK rfl H (fun H=>?_) (fun H=>?_)
  ·refine al 3 tk rfl ?_
   obtain rfl := aD H
   have e1 : fl1 = .ret _ := hg1
   subst e1
   obtain rfl := aU Hp1
   refine bc tk rfl (ps := [(.val (.slice none 0 0)),(ah x31.2.2)]) ⟨_,_,rfl,rfl,_,_,rfl,rfl,rfl⟩ (PLe.of2 (lT.tup (fH.cons (lT.nil tk rfl) (fH.cons (lT.of_eq rfl) fH.nil))))
  refine al 3 tk rfl ?_
  refine aK rfl H (fun H=>?_) (fun H=>?_)
  ·refine al 2 tk rfl ?_
   obtain rfl := aD H
   have e1 : fl1 = .ret _ := hg1
   subst e1
   obtain rfl := aU Hp1
   refine bc tk rfl (ps := [(.val (.slice none 0 0)),(ah 7)]) ⟨_,_,rfl,rfl,_,_,rfl,rfl,rfl⟩ (PLe.of2 (lT.tup (fH.cons (lT.nil tk rfl) (fH.cons (lT.of_eq rfl) fH.nil))))
  refine ao (aP (aa (ae 4 tk rfl ?_)))
  obtain ⟨x54,k54,H⟩ := bg H
  refine aN tk k54.1 (aF (fun _=>rfl) k54.2) ?_
  refine ae 4 tk rfl (de tk (rows' := List.map aT ([(LCol.mk x54 x31.1 x31.2.1)] : List LCol)) (dS.refl _) ?_)
  obtain ⟨x60,h60,H⟩ := av H
  have k60 := ci h60
  refine cy (rows2' := List.map aT ([(LCol.mk x54 x31.1 x31.2.1)] : List LCol)) (rows' := List.map aT x60) tk rfl rfl rfl rfl rfl rfl rfl rfl rfl rfl rfl rfl rfl (dS.refl _) (cW k60.1) (cX k60.2.1) (cY k60.2.2) fun g60=>?_
  refine ag tk rfl (ac (aP (bl 2 tk rfl ?_)))
  exact bi g60 H hl1 hg1
 refine ab (ab (aa (ae 2 tk rfl (ax tk (zl _) ?_))))
 refine ag tk rfl (ac ?_)
 refine dY (γ := OwnRef) tk 65 64 63 (fun s2 g2=>upd (upd (upd (fun _=>.any) 8 (.own 60 g2 (s2.map aT).length)) 3 (.ptr (cM c))) 2 (.list 58 (inA.map aT))) nB (fun s2 g2=>upd (fun _=>none) 60 (some ⟨g2,58,(s2.map aT),true⟩)) g1 H (fun fl2 Hp2 j2 s2 g2 hz2 hl2 x2 fb2 hx2 H hg2=>?_) (fun s2 g2 H=>?_)
 ·refine ab (az (ab (aa ?_)))
  refine aN tk (zn j2) (bd (fun _=>rfl) hx2) ?_
  refine ag tk rfl ?_
  refine aM tk fun b15=>?_
  refine am tk ?_
  refine ac (ab (aa (ae 2 tk rfl (aq tk ?_))))
  obtain ⟨x73,h73,H⟩ := av H
  have s73 := pq c inA x2 _ h73
  refine ak Tryz.call192 (fG.r) s73 ?_
  refine ae 5 tk rfl (ac (ab (al 2 tk rfl ?_)))
  refine aK rfl H (fun H=>?_) (fun H=>?_)
  ·refine al 3 tk rfl ?_
   obtain rfl := aD H
   have e2 : fl2 = .ret _ := hg2
   subst e2
   obtain rfl := aU Hp2
   refine bc tk rfl (ps := [(.val (.slice none 0 0)),(ah x73.2)]) ⟨_,_,rfl,rfl,_,_,rfl,rfl,rfl⟩ (PLe.of2 (lT.tup (fH.cons (lT.nil tk rfl) (fH.cons (lT.of_eq rfl) fH.nil))))
  refine ao (aa (ae 2 tk rfl (aq tk ?_)))
  refine ae 2 tk rfl (aq tk ?_)
  refine ae 2 tk rfl ?_
  refine de tk (rows' := List.map aT ([(LCol.mk x2.name x73.1 (!(x2.function == ([99,111,117,110,116] : List UInt8))))] : List LCol)) (dS.refl _) ?_
  obtain ⟨x88,h88,H⟩ := av H
  have k88 := ci h88
  refine cy (rows2' := List.map aT ([(LCol.mk x2.name x73.1 (!(x2.function == ([99,111,117,110,116] : List UInt8))))] : List LCol)) (rows' := List.map aT x88) tk rfl rfl rfl rfl rfl rfl rfl rfl rfl rfl rfl rfl rfl (dS.refl _) (cW k88.1) (cX k88.2.1) (cY k88.2.2) fun g88=>?_
  refine ag tk rfl (ac (aP (bl 2 tk rfl ?_)))
  exact bi g88 H hl2 hg2
 refine al 3 tk rfl (cQ 6 rfl rfl rfl ?_)
 exact aV tk H rfl
def eB (rec20 : LQuery → Option ((List LQuery) × (List LExpr))) (q : LQuery) : Option ((List LQuery) × (List LExpr)) :=
 bL (
  cond (q.kind != (4 : Int))
   (true)
   (cond ((q.inputs.length : Int) != (2 : Int))
    (true)
    (((q.exprs.length : Int) != (1 : Int))))) fun (t1 : Bool) =>
 cond t1
  (af (lW q) fun x24 =>
  some ([x24],[]))
  (af (aH q.inputs 0) fun (x29 : LQuery) =>
  af (rec20 x29) fun x31 =>
  af (aH q.inputs 1) fun (x37 : LQuery) =>
  af (rec20 x37) fun x39 =>
  af (aH q.exprs 0) fun (x49 : LExpr) =>
  af (cJ 160 x31.1 x39.1) fun (x44 : List LQuery) =>
  af (iK x49) fun x51 =>
  af (cr ([x31.2,x39.2,x51] : List (List LExpr))) fun x53 =>
  some (x44,x53))
theorem mY {m : Nat} (rec20 : LQuery → Option ((List LQuery) × (List LExpr))) (hrec20 : ∀ m a0 r,rec20 a0 = some r → dP Tryz.prog 20 [(.agg (aw a0))] (OwnT m 34 (r.1.map bp) [(.list 92 (r.2.map aE))])) (q : LQuery) (r : (List LQuery) × (List LExpr)) (H : eB rec20 q = some r) :
  dP Tryz.prog 20 [(.agg (aw q))] (OwnT m 34 (r.1.map bp) [(.list 92 (r.2.map aE))]) := by
 unfold eB at H
 refine PH.ap Tryz.func20 Tryz.ntmps20 ?_
 refine ab (aa (aB ?_))
 refine ae 2 tk rfl (ac (ab (ab ?_)))
 refine eF (γ := Unit) (fun t1 g1=>⟨54,upd (upd (fun _=>.any) 22 (ay t1)) 1 (.ptr (aw q)),fun _=>none,fun _=>none⟩) H (fun _ H=>?_) (fun t1 g1 H=>?_)
 ·refine aa (ae 4 tk rfl ?_)
  refine aR rfl rfl rfl H (fun H=>?_) (fun H=>?_)
  ·refine ae 11 tk rfl (ac ?_)
   refine aS _ () H Gh.d
  refine ae 2 tk rfl (ax tk (zl _) ?_)
  refine ae 3 tk rfl ?_
  refine aR rfl rfl rfl H (fun H=>?_) (fun H=>?_)
  ·refine ae 5 tk rfl (ac ?_)
   refine aS _ () H Gh.d
  refine ae 2 tk rfl (ax tk (zl _) ?_)
  refine ae 2 tk rfl (ac ?_)
  refine aS _ () H Gh.d
 refine aK rfl H (fun H=>?_) (fun H=>?_)
 ·refine ab (aa (ag tk rfl ?_))
  obtain ⟨x24,h24,H⟩ := av H
  have s24 := W_query_Clone q _ h24
  refine ak Tryz.call50 (fG.r) s24 ?_
  refine mA (rows' := List.map bp ([x24] : List LQuery)) tk rfl rfl rfl rfl rfl rfl rfl (congrArg (List.map List.length) (fV bw ([x24] : List LQuery))).symm rfl (fH.trans (b := (List.map aw ([x24] : List LQuery)).flatten) (fH.refl _) (fH.of_eq (congrArg List.flatten (fV bw ([x24] : List LQuery))))) fun g25=>?_
  refine ae 2 tk rfl (ac ?_)
  obtain rfl := aD H
  refine qY (p0 := (.val (.slice none 0 0))) tk rfl rfl rfl rfl rfl rfl (PLe.of2 (lT.nil tk rfl))
 refine ao (ab (aa (ae 2 tk rfl ?_)))
 obtain ⟨x29,k29,H⟩ := bg H
 refine aN tk k29.1 (aF bw k29.2) ?_
 refine ag tk rfl ?_
 obtain ⟨x31,h31,H⟩ := av H
 have s31 := hrec20 31 x29 _ h31
 refine rp (g := 20) rfl rfl rfl Tryz.call20 (fG.r) rfl rfl s31 (fun g31=>?_)
 refine ae 5 tk rfl (ac (ab (aa (ae 2 tk rfl ?_))))
 obtain ⟨x37,k37,H⟩ := bg H
 refine aN tk k37.1 (aF bw k37.2) ?_
 refine ag tk rfl ?_
 obtain ⟨x39,h39,H⟩ := av H
 have s39 := hrec20 39 x37 _ h39
 refine ak Tryz.call20 (fG.r) (aJ.of_ownT s39) ?_
 refine ae 5 tk rfl (ac (ab (bn tk mok ⟨false,false,[]⟩ [0,1,3,4,5,6,7,8,2,9,10,11,12,13] rfl (by decide +kernel) rfl (aL 6 rfl ?_))))
 obtain ⟨x49,k49,H⟩ := bg H
 refine aZ k49.1 (aF bj k49.2) ?_
 refine bt rfl ?_
 obtain ⟨x44,h44,H⟩ := av H
 have k44 := ci h44
 refine fM (rows2' := List.map bp x39.1) (rows' := List.map bp x44) tk rfl rfl rfl rfl rfl rfl rfl rfl rfl rfl rfl rfl rfl rfl (dS.refl _) (cW k44.1) (cX k44.2.1) (cY k44.2.2) fun g44=>?_
 obtain ⟨x51,h51,H⟩ := av H
 have s51 := mH (m := 51) x49 _ h51
 refine bq Tryz.call52 (fG.r) (PFun.gn s51) ?_
 refine bt rfl ?_
 obtain ⟨x53,h53,H⟩ := av H
 have s53 := jg (m := 53) ([x31.2,x39.2,x51] : List (List LExpr)) _ h53
 refine bq Tryz.call51 (fG.r) (PFun.gn s53) ?_
 refine aL 2 rfl (bf ?_)
 obtain rfl := aD H
 refine qY (p0 := (.list 92 (x53.map aE))) tk rfl rfl rfl rfl rfl rfl (PLe.refl _ _)
def cU : Nat → LQuery → Option ((List LQuery) × (List LExpr))
 | 0,_=>none
 | n + 1,v0=>eB (fun b0=>cU n b0) v0
theorem na  (n : Nat) : (∀ m a0 r,cU n a0 = some r → dP Tryz.prog 20 [(.agg (aw a0))] (OwnT m 34 (r.1.map bp) [(.list 92 (r.2.map aE))])) := by
 induction n with
 | zero=>exact (by intros; rename_i h; exact absurd (show (none : Option _) = some _ from h) (by simp))
 | succ n ih =>
  exact (fun m v0 r h=>mY (m := m) (fun b0=>cU n b0) ih v0  r h)
def ig (q : LQuery) : Option ((List LQuery) × (List LExpr)) := eH fun n=>cU n q
theorem nG {m : Nat} (q : LQuery) (r : (List LQuery) × (List LExpr)) (H : ig q = some r) :
  dP Tryz.prog 20 [(.agg (aw q))] (OwnT m 34 (r.1.map bp) [(.list 92 (r.2.map aE))]) := by
 obtain ⟨n,h⟩ := dU H
 exact (na  n) m q r h
def dL (sA : LSchema) (q : LQuery) (condA : LExpr) : Option (Bool) :=
 af (gD (σ := LQuery) (ρ := Empty) (fun (s1 : LQuery) =>
  cond (s1.kind == (2 : Int))
   (cond ((s1.inputs.length : Int) == (1 : Int))
    (af (aH s1.inputs 0) fun (x22 : LQuery) =>
    some (.next x22))
    (some (.brk s1)))
   (some (.brk s1))) q) fun fl1=>fl1.thenP fun (s1 : LQuery) =>
 cond (s1.kind != (1 : Int))
  (some false)
  (af (aC (σ := Unit) (ρ := (Bool)) (fun (_ : Nat) (x2 : LTable) (_ : Unit) =>
   cond (!(x2.name == s1.table))
    (some (.next ()))
    (af (aC (σ := Unit) (ρ := (Bool)) (fun (_ : Nat) (x4 : Int) (_ : Unit) =>
     cond (decide (x4 < (0 : Int)))
      (some (.ret false))
      (cond (decide (x4 ≥ (x2.columns.length : Int)))
       (some (.ret false))
       (af (aH x2.columns x4) fun (x60 : LCol) =>
       af (cB x2 x60.name condA) fun x64 =>
       cond (!x64)
        (some (.ret false))
        (some (.next ()))))) 0 x2.primaryKey ()) fun fl4=>fl4.thenF fun (_ : Unit) =>
    some (.ret true))) 0 sA.tables ()) fun fl2=>fl2.thenR fun (_ : Unit) =>
  some false)
theorem iX (sA : LSchema) (q : LQuery) (condA : LExpr) (r : Bool) (H : dL sA q condA = some r) :
  aJ Tryz.prog 94 [(.agg (bs sA)),(.agg (aw q)),(.agg (bE condA))] (ay r) := by
 unfold dL at H
 refine PH.ap Tryz.func94 Tryz.ntmps94 ?_
 refine ab (aa (aB ?_))
 refine Ao.box (d := 4) rfl rfl rfl rfl rfl fun b4=>?_
 refine aB ?_
 refine ag tk rfl (ac (ab ?_))
 obtain ⟨fl1,H1,Hp1⟩ := av H
 refine ik (τ := LQuery) (γ := Unit) (fun s1 g1=>⟨69,upd (upd (upd (fun _=>.any) 5 (.ptr (bE condA))) 4 (.box 4 b4 0)) 3 (.ptr (bs sA)),upd (fun _=>none) 4 (some ⟨b4,(aw s1)⟩),fun _=>none⟩) (fun t=>fl1 = .next t) ?_ (fun s1 g1 hn1=>?_)
 ·refine az ?_
  refine mS (fun s1 g1=>⟨69,upd (upd (upd (fun _=>.any) 5 (.ptr (bE condA))) 4 (.box 4 b4 0)) 3 (.ptr (bs sA)),upd (fun _=>none) 4 (some ⟨b4,(aw s1)⟩),fun _=>none⟩) () H1 Gh.d (fun m1 s1 g1 hr1=>?_)
  obtain ⟨fb1,H,hg1⟩ := kF hr1
  refine ab (ab (aa (ag tk rfl (aq tk ?_))))
  refine ae 2 tk rfl ?_
  refine aR rfl rfl rfl H (fun H=>?_) (fun H=>?_)
  ·refine ag tk rfl (aq tk ?_)
   refine ax tk (zl _) ?_
   refine ae 2 tk rfl (ac ?_)
   refine aK rfl H (fun H=>?_) (fun H=>?_)
   ·refine ao (az (aa (ag tk rfl (aq tk ?_))))
    obtain ⟨x22,k22,H⟩ := bg H
    refine aN tk k22.1 (aF bw k22.2) ?_
    refine ag tk rfl (am tk ?_)
    refine ac (aP ?_)
    obtain rfl := aD H
    refine iH x22 () hg1 Gh.d
   refine ca rfl ?_
   obtain rfl := aD H
   refine aS s1 () hg1 Gh.d
  refine ae 5 tk rfl (ac (dl rfl (ca rfl ?_)))
  obtain rfl := aD H
  refine aS s1 () hg1 Gh.d
 have H := fK hn1 Hp1
 refine ab (ab (aa (ag tk rfl (aq tk ?_))))
 refine ag tk rfl (ac ?_)
 refine aK rfl H (fun H=>?_) (fun H=>?_)
 ·refine al 1 tk rfl ?_
  exact aV tk H rfl
 refine ao (ab (ab (aa (ae 2 tk rfl (ax tk (zl _) ?_)))))
 refine ag tk rfl (ac ?_)
 obtain ⟨fl2,H2,Hp2⟩ := av H
 refine gv tk 28 rfl rfl (fun hz2 _=>?_)
 rw [zl] at hz2
 refine ik (τ := Unit) (γ := Unit) (fun s2 g2=>⟨69,upd (fun _=>.any) 5 (.ptr (bE condA)),fun _=>none,fun _=>none⟩) (fun t=>fl2 = .next t) ?_ (fun s2 g2 hn2=>?_)
 ·refine az ?_
  refine jo (fun j2 s2 g2=>⟨69,upd (upd (upd (upd (upd (fun _=>.any) 30 (ah (j2 : Int))) 29 (ah (sA.tables.length : Int))) 28 (.list 61 (sA.tables.map bS))) 5 (.ptr (bE condA))) 4 (.box 4 b4 0),upd (fun _=>none) 4 (some ⟨b4,(aw s1)⟩),fun _=>none⟩) () H2 Gh.d (fun j2 s2 g2 hj2 hr2=>?_)
  refine al 1 tk rfl (ab ?_)
  refine co rfl (fun h=>?_) (fun h=>?_)
  ·have hl2 := rowsLt h
   obtain ⟨x2,fb2,hx2,H,hg2⟩ := rMc hl2 hr2
   refine ao (ab (az (ab (aa ?_))))
   refine aN tk (zn j2) (bd (fun _=>rfl) hx2) ?_
   refine ag tk rfl ?_
   refine aM tk fun b8=>?_
   refine am tk ?_
   refine ac (ab (ab (aa (ag tk rfl (aq tk ?_)))))
   refine ag tk rfl (aq tk ?_)
   refine ag tk rfl (ac ?_)
   refine aK rfl H (fun H=>?_) (fun H=>?_)
   ·refine ca rfl (bl 2 tk rfl ?_)
    exact bi () H hl2 hg2
   refine ao (ab (ab (aa (ag tk rfl (aq tk ?_)))))
   refine ax tk (zl _) ?_
   refine ag tk rfl (ac ?_)
   obtain ⟨fl4,H4,Hp4⟩ := av H
   refine gv tk 40 rfl rfl (fun hz4 _=>?_)
   rw [zl] at hz4
   refine ik (τ := Unit) (γ := Unit) (fun s4 g4=>⟨69,upd (fun _=>.any) 5 (.ptr (bE condA)),fun _=>none,fun _=>none⟩) (fun t=>fl4 = .next t) ?_ (fun s4 g4 hn4=>?_)
   ·refine az ?_
    refine jo (fun j4 s4 g4=>⟨69,upd (upd (upd (upd (upd (fun _=>.any) 42 (ah (j4 : Int))) 41 (ah (x2.primaryKey.length : Int))) 40 (.list 3 (x2.primaryKey.map aY))) 8 (.box 8 b8 0)) 5 (.ptr (bE condA)),upd (fun _=>none) 8 (some ⟨b8,(bS x2)⟩),fun _=>none⟩) () H4 Gh.d (fun j4 s4 g4 hj4 hr4=>?_)
    refine al 1 tk rfl (ab ?_)
    refine co rfl (fun h=>?_) (fun h=>?_)
    ·have hl4 := rowsLt h
     obtain ⟨x4,fb4,hx4,H,hg4⟩ := rMc hl4 hr4
     refine ao (ab (az (ab (aa ?_))))
     refine aN tk (zn j4) (bd (fun _=>rfl) hx4) ?_
     refine ae 2 tk rfl (ac (ab (bn tk mok ⟨true,false,[62,63]⟩ [0,1,2,3,4,5,6,7,8,9,10,11,12,13,14,15,16,17,18,19,20] rfl (by decide +kernel) rfl (aL 3 rfl ?_))))
     refine lJ H (fun H=>?_) (fun H=>?_)
     ·refine aL 18 rfl (bf (bU rfl (al 1 tk rfl ?_)))
      obtain rfl := aD H
      have e4 : fl4 = .ret _ := hg4
      subst e4
      have q4 := nk Hp4
      subst q4
      have e2 : fl2 = .ret _ := hg2
      subst e2
      obtain rfl := aU Hp2
      refine bc tk rfl (ps := [(ay false)]) ⟨_,_,rfl,rfl,rfl⟩ (PLe.q rfl)
     refine aL 2 rfl (bI ?_)
     refine qd rfl rfl rfl rfl rfl rfl (zl _) rfl (aL 3 rfl ?_)
     refine lJ H (fun H=>?_) (fun H=>?_)
     ·refine aL 11 rfl (bf (bU rfl (al 1 tk rfl ?_)))
      obtain rfl := aD H
      have e4 : fl4 = .ret _ := hg4
      subst e4
      have q4 := nk Hp4
      subst q4
      have e2 : fl2 = .ret _ := hg2
      subst e2
      obtain rfl := aU Hp2
      refine bc tk rfl (ps := [(ay false)]) ⟨_,_,rfl,rfl,rfl⟩ (PLe.q rfl)
     refine bI ?_
     refine bt rfl (bI ?_)
     refine bt rfl ?_
     obtain ⟨x60,k60,H⟩ := bg H
     refine aZ k60.1 (aF (fun _=>rfl) k60.2) ?_
     refine aL 3 rfl ?_
     obtain ⟨x64,h64,H⟩ := av H
     have s64 := mF x2 x60.name condA _ h64
     refine bq Tryz.call136 (fG.r) s64 ?_
     refine aL 2 rfl (bf ?_)
     refine aK rfl H (fun H=>?_) (fun H=>?_)
     ·refine al 1 tk rfl ?_
      obtain rfl := aD H
      have e4 : fl4 = .ret _ := hg4
      subst e4
      have q4 := nk Hp4
      subst q4
      have e2 : fl2 = .ret _ := hg2
      subst e2
      obtain rfl := aU Hp2
      refine bc tk rfl (ps := [(ay false)]) ⟨_,_,rfl,rfl,rfl⟩ (PLe.q rfl)
     refine ao (aP (bl 2 tk rfl ?_))
     exact bi () H hl4 hg4
    have hn4 := rMd (rowsGe h) hr4
    refine ca rfl ?_
    refine aS s4 g4 hn4 Gh.d
   have H := thenF_next hn4 Hp4
   refine al 1 tk rfl ?_
   obtain rfl := aD H
   have e2 : fl2 = .ret _ := hg2
   subst e2
   obtain rfl := aU Hp2
   refine bc tk rfl (ps := [(ay true)]) ⟨_,_,rfl,rfl,rfl⟩ (PLe.q rfl)
  have hn2 := rMd (rowsGe h) hr2
  refine ca rfl ?_
  refine aS s2 g2 hn2 Gh.d
 have H := oD hn2 Hp2
 refine al 1 tk rfl ?_
 exact aV tk H rfl
def fh (c : LExpr) (cols : List (List (List UInt8))) : Option ((List Int)) :=
 af (aC (σ := List Int) (ρ := Empty) (fun (j1 : Nat) (x1 : List (List UInt8)) (s1 : List Int) =>
  af (gp c) fun x16 =>
  af (bV x16 (fun a0=>cT a0 x1)) fun x18 =>
  cond x18
   (af (cJ 8 s1 ([(j1 : Int)] : List Int)) fun (x22 : List Int) =>
   some (.next x22))
   (some (.next s1))) 0 cols []) fun fl1=>fl1.thenP fun (s1 : List Int) =>
 some s1
theorem ow (c : LExpr) (cols : List (List (List UInt8))) (r : (List Int)) (H : fh c cols = some r) :
  aJ Tryz.prog 23 [(.agg (bE c)),(.list 28 (cols.map (fg 9 bm)))] (.list 3 (r.map aY)) := by
 unfold fh at H
 refine PH.ap Tryz.func23 Tryz.ntmps23 ?_
 refine ab (aa (aB ?_))
 refine ag tk rfl (ac (al 1 tk rfl (ab (ab (aa (ag tk rfl (ax tk (zl _) ?_)))))))
 refine ag tk rfl (ac (iO tk 5 22 (e := 3) rfl rfl ?_))
 refine ek (γ := OwnRef) tk 10 9 8 (fun s1 g1=>upd (upd (fun _=>.any) 5 (.own 22 g1 (s1.map aY).length)) 2 (.ptr (bE c))) nB (fun s1 g1=>upd (fun _=>none) 22 (some ⟨g1,3,(s1.map aY),true⟩)) (⟨none,0⟩) H (fun fl1 Hp1 j1 s1 g1 hz1 hl1 x1 fb1 hx1 H hg1=>?_) (fun s1 g1 H=>?_)
 ·refine ab (az (ab (aa (ag tk rfl ?_))))
  refine aN tk (zn j1) (bd (fun _=>rfl) hx1) ?_
  refine ag tk rfl ?_
  refine aM tk fun b7=>?_
  refine ag tk rfl (am tk ?_)
  refine ac (ab (aa (ag tk rfl ?_)))
  obtain ⟨x16,h16,H⟩ := av H
  have s16 := W_expr_Columns c _ h16
  refine ak Tryz.call57 (fG.r) s16 ?_
  refine gL (Gh.freezeB 7 rfl rfl rfl rfl) (ag tk rfl ?_)
  obtain ⟨x18,h18,H⟩ := av H
  have s18 := jk x16 (fun a0=>cT a0 x1) Tryz.call58 (fun a0 r h=>nE a0 x1 r h) _ h18
  refine ak Tryz.call56 (fG.r) s18 ?_
  refine ac ?_
  refine aK rfl H (fun H=>?_) (fun H=>?_)
  ·refine aa (ae 2 tk rfl (de tk (rows' := List.map aY ([(j1 : Int)] : List Int)) (dS.refl _) ?_))
   obtain ⟨x22,h22,H⟩ := av H
   have k22 := ci h22
   refine cy (rows2' := List.map aY ([(j1 : Int)] : List Int)) (rows' := List.map aY x22) tk rfl rfl rfl rfl rfl rfl rfl rfl rfl rfl rfl rfl rfl (dS.refl _) (cW k22.1) (cX k22.2.1) (cY k22.2.2) fun g22=>?_
   refine ag tk rfl (ac (aP (bl 2 tk rfl ?_)))
   exact bi g22 H hl1 hg1
  refine ao (aP (bl 2 tk rfl ?_))
  exact bi g1 H hl1 hg1
 refine al 2 tk rfl (cQ 4 rfl rfl rfl ?_)
 exact aV tk H rfl
end
end Go.Proofs.YtpgalfinchajnaaGreatDoor
