/- joinMatchesQuerySemanticsUpto_holds, part 5: the layer, the plain functions and what they compute; conditions as in the statement. -/
import Derived.Test.YtifhafpljncplaaGreatDoorJqd
set_option maxHeartbeats 4000000
namespace Go.Proofs.YtifhafpljncplaaGreatDoor
noncomputable section
open Go Go.Ab
attribute [local irreducible] V Ao Do Gh Eff PH IntKind.wrap
set_option maxRecDepth 4000
def fZ (t : LTable) (name : List UInt8) : Option (Int × Bool) :=
 af (bv t.columns (fun a0=>some (dS a0 name))) fun x10 =>
 some ((if (0 : Int) > x10 then (0 : Int) else x10),(decide (x10 ≥ (0 : Int))))
theorem so (t : LTable) (name : List UInt8) (r : Int × Bool) (H : fZ t name = some r) :
  aI Tryz.prog 123 [(.agg (cD t)),(.str name)] (.tup [(am r.1),(aC r.2)]) := by
 unfold fZ at H
 refine PH.au Tryz.func123 Tryz.ntmps123 ?_
 refine ab (aa (aD ?_))
 refine aD ?_
 refine ag 2 tk rfl (ac (ab (aa (ag 3 tk rfl ?_))))
 obtain ⟨x10,h10,H⟩ := ax H
 have s10 := dp t.columns (fun a0=>some (dS a0 name)) Tryz.call166 (fun a0 r h=>(aA h) ▸ qU a0 name) _ h10
 refine ak Tryz.call8 (jx.r) s10 ?_
 refine ah tk rfl (ac (ao 6 tk rfl ?_))
 exact aW tk H rfl
def fL (sA : LSchema) (name : List UInt8) : Option (Int × Bool) :=
 af (cC sA.tables (fun a0=>some (cN a0 name))) fun x10 =>
 some ((if (0 : Int) > x10 then (0 : Int) else x10),(decide (x10 ≥ (0 : Int))))
theorem kZ (sA : LSchema) (name : List UInt8) (r : Int × Bool) (H : fL sA name = some r) :
  aI Tryz.prog 124 [(.agg (bW sA)),(.str name)] (.tup [(am r.1),(aC r.2)]) := by
 unfold fL at H
 refine PH.au Tryz.func124 Tryz.ntmps124 ?_
 refine ab (aa (aD ?_))
 refine aD ?_
 refine ag 2 tk rfl (ac (ab (aa (ag 3 tk rfl ?_))))
 obtain ⟨x10,h10,H⟩ := ax H
 have s10 := hP sA.tables (fun a0=>some (cN a0 name)) Tryz.call168 (fun a0 r h=>(aA h) ▸ ro a0 name) _ h10
 refine ak Tryz.call167 (jx.r) s10 ?_
 refine ah tk rfl (ac (ao 6 tk rfl ?_))
 exact aW tk H rfl
def gM (a : LForeignKey) (b : LForeignKey) : Option (Bool) :=
 cond (a.table == b.table)
  (af (fT a.columns b.columns) fun x15 =>
  cond x15
   (some (a.refTable == b.refTable))
   (some false))
  (some false)
theorem oP (a : LForeignKey) (b : LForeignKey) (r : Bool) (H : gM a b = some r) :
  aI Tryz.prog 75 [(.agg (jL a)),(.agg (jL b))] (aC r) := by
 unfold gM at H
 refine PH.au Tryz.func75 Tryz.ntmps75 ?_
 refine ab (aa (aD ?_))
 refine aD ?_
 refine ah tk rfl (ac (ab (aa (ag 6 tk rfl ?_))))
 refine bf rfl rfl rfl H (fun H=>?_) (fun H=>?_)
 ·refine ag 4 tk rfl ?_
  obtain ⟨x15,h15,H⟩ := ax H
  have s15 := qa a.columns b.columns _ h15
  refine ak Tryz.call126 (jx.r) s15 ?_
  refine ag 2 tk rfl ?_
  refine bf rfl rfl rfl H (fun H=>?_) (fun H=>?_)
  ·refine ag 7 tk rfl (ac ?_)
   exact aW tk H rfl
  refine ag 7 tk rfl (ac ?_)
  exact aW tk H rfl
 refine ag 14 tk rfl (ac ?_)
 exact aW tk H rfl
def bN (sA : List LForeignKey) (f : LForeignKey → Option (Bool)) : Option (Bool) :=
 af (cy sA f) fun x7 =>
 some (decide (x7 ≥ (0 : Int)))
theorem iN {g_f : FuncId} {caps_f : List PV} (sA : List LForeignKey) (f : LForeignKey → Option (Bool)) (hg_f : ∀ (vs : Array Value) (w : World),(callFunc g_f vs).run Tryz.prog w = .ok (.enter g_f vs) w) (hp_f : ∀ a0 r,f a0 = some r → aI Tryz.prog g_f ((.agg (jL a0)) :: caps_f) (aC r)) (r : Bool) (H : bN sA f = some r) :
  aI Tryz.prog 73 [(.list 143 (sA.map jL)),(.fn g_f caps_f)] (aC r) := by
 unfold bN at H
 refine PH.au Tryz.func73 Tryz.ntmps73 ?_
 refine ao 1 tk rfl (ab (aa (ag 2 tk rfl ?_)))
 obtain ⟨x7,h7,H⟩ := ax H
 have s7 := jh sA f hg_f hp_f _ h7
 refine ak Tryz.call125 (jx.r) s7 ?_
 refine ag 2 tk rfl (ac ?_)
 exact aW tk H rfl
def jY (a : List UInt8) (b : List UInt8) : Int :=
 bp (eV a b) fun x7 =>
 x7
theorem tD (a : List UInt8) (b : List UInt8) :
  aI Tryz.prog 129 [(.str a),(.str b)] (am (jY a b)) := by
 obtain ⟨r,H⟩ : ∃ r,jY a b = r := ⟨_,rfl⟩
 rw [H]
 unfold jY at H
 refine PH.au Tryz.func129 Tryz.ntmps129 ?_
 refine ao 1 tk rfl (ab (aa (ag 2 tk rfl ?_)))
 obtain ⟨x7,h7,H⟩ := cL H
 have s7 := lZ a b
 rw [h7] at s7
 refine ak Tryz.call169 (jx.r) s7 ?_
 refine ah tk rfl (ac ?_)
 exact dT tk H rfl
def bS (sA : List LConstraint) (v : LConstraint) : Option (Bool) :=
 af (cJ sA v) fun x7 =>
 some (decide (x7 ≥ (0 : Int)))
theorem jy (sA : List LConstraint) (v : LConstraint) (r : Bool) (H : bS sA v = some r) :
  aI Tryz.prog 77 [(.list 149 (sA.map kU)),(.agg (kU v))] (aC r) := by
 unfold bS at H
 refine PH.au Tryz.func77 Tryz.ntmps77 ?_
 refine ab (aa (aD ?_))
 refine ah tk rfl (ac (ab (aa (ag 2 tk rfl ?_))))
 obtain ⟨x7,h7,H⟩ := ax H
 have s7 := jO sA v _ h7
 refine ak Tryz.call128 (jx.r) s7 ?_
 refine ag 2 tk rfl (ac ?_)
 exact aW tk H rfl
def fX (q : LQuery) : Option (Int) :=
 af (mK q) fun x7 =>
 some x7.2
theorem oz (q : LQuery) (r : Int) (H : fX q = some r) :
  aI Tryz.prog 109 [(.agg (aG q))] (am r) := by
 unfold fX at H
 refine PH.au Tryz.func109 Tryz.ntmps109 ?_
 refine ab (aa (aD ?_))
 refine ah tk rfl (ac (ab (aa (ah tk rfl ?_))))
 obtain ⟨x7,h7,H⟩ := ax H
 have s7 := W_query_most q _ h7
 refine ak Tryz.call151 (jx.r) s7 ?_
 refine ag 5 tk rfl (ac (ao 2 tk rfl ?_))
 exact aW tk H rfl
def fp (q : LQuery) : Option ((List Int) × Int) :=
 af (jH q) fun x18 =>
 af (aE (σ := List Int × Bool × List Bool) (ρ := Empty) (fun (_ : Nat) (x1 : LQuery) (s1 : List Int × Bool × List Bool) =>
  af (aE (σ := List Int × Bool × List Bool) (ρ := Empty) (fun (_ : Nat) (x12 : LExpr) (s12 : List Int × Bool × List Bool) =>
   af (fK x12 s12.1 s12.2.1 s12.2.2) fun x33 =>
   some (.next (x33.1,x33.2.1,x33.2.2))) 0 x1.exprs (s1.1,s1.2.1,s1.2.2)) fun fl12=>fl12.thenP fun (s12 : List Int × Bool × List Bool) =>
  af (aE (σ := List Int × Bool × List Bool) (ρ := Empty) (fun (_ : Nat) (x13 : LAggregateCall) (s13 : List Int × Bool × List Bool) =>
   af (aE (σ := List Int × Bool × List Bool) (ρ := Empty) (fun (_ : Nat) (x16 : LExpr) (s16 : List Int × Bool × List Bool) =>
    af (fK x16 s16.1 s16.2.1 s16.2.2) fun x51 =>
    some (.next (x51.1,x51.2.1,x51.2.2))) 0 x13.args (s13.1,s13.2.1,s13.2.2)) fun fl16=>fl16.thenP fun (s16 : List Int × Bool × List Bool) =>
   some (.next (s16.1,s16.2.1,s16.2.2))) 0 x1.aggregates (s12.1,s12.2.1,s12.2.2)) fun fl13=>fl13.thenP fun (s13 : List Int × Bool × List Bool) =>
  some (.next (s13.1,s13.2.1,s13.2.2))) 0 x18 ([],false,(List.replicate 8 false))) fun fl1=>fl1.thenP fun (s1 : List Int × Bool × List Bool) =>
 cond s1.2.1
  (some ([],13))
  (some (s1.1,0))
theorem lI (q : LQuery) (r : (List Int) × Int) (H : fp q = some r) :
  aI Tryz.prog 48 [(.agg (aG q))] (.tup [(.list 3 (r.1.map bG)),(am r.2)]) := by
 unfold fp at H
 refine PH.au Tryz.func48 Tryz.ntmps48 ?_
 refine ab (aa (aD ?_))
 refine ag 2 tk rfl (ac (ab (aa ?_)))
 refine ba tk fun b4=>?_
 refine ac (ab (aa ?_))
 refine ba tk fun b5=>?_
 refine ac (ab (aa ?_))
 refine ba tk fun b6=>?_
 refine aq tk ?_
 refine ac (ab (aa ?_))
 refine ba tk fun b7=>?_
 refine ac (ab (aa (ah tk rfl (aq tk ?_))))
 refine ac (ab (ab (aa (ah tk rfl ?_))))
 obtain ⟨x18,h18,H⟩ := ax H
 have s18 := rW (m := 18) q _ h18
 refine ak Tryz.call82 (jx.r) (PFun.iy s18) ?_
 refine az tk (zl _) ?_
 refine ah tk rfl (ac ?_)
 obtain ⟨fl1,H1,Hp1⟩ := ax H
 refine gm tk 18 rfl rfl (fun hz1 _=>?_)
 rw [zl] at hz1
 refine fj (τ := List Int × Bool × List Bool) (γ := OwnRef) (fun s1 g1=>⟨57,upd (upd (fun _=>.any) 6 (.box 6 b6 0)) 4 (.box 4 b4 0),upd (upd (fun _=>none) 6 (some ⟨b6,[(aC s1.2.1)]⟩)) 4 (some ⟨b4,[(.own 1204 g1 (s1.1.map bG).length)]⟩),upd (fun _=>none) 1204 (some ⟨g1,3,(s1.1.map bG),true⟩)⟩) (fun t=>fl1 = .next t) ?_ (fun s1 g1 hn1=>?_)
 ·refine av (te tk 4 0 1204 (e := 3) rfl rfl rfl rfl ?_)
  refine hJ (fun j1 s1 g1=>⟨57,upd (upd (upd (upd (upd (upd (fun _=>.any) 20 (am (j1 : Int))) 19 (am (x18.length : Int))) 18 (.list 35 (x18.map bV))) 7 (.box 7 b7 0)) 6 (.box 6 b6 0)) 4 (.box 4 b4 0),upd (upd (upd (upd (fun _=>none) 7 (some ⟨b7,[(.fn 81 [(.box 4 b4 0),(.box 6 b6 0),(.box 5 b5 0),(.box 7 b7 0)])]⟩)) 6 (some ⟨b6,[(aC s1.2.1)]⟩)) 5 (some ⟨b5,(List.map aC s1.2.2)⟩)) 4 (some ⟨b4,[(.own 1204 g1 (s1.1.map bG).length)]⟩),upd (fun _=>none) 1204 (some ⟨g1,3,(s1.1.map bG),true⟩)⟩) (⟨none,0⟩) H1 Gh.d (fun j1 s1 g1 hj1 hr1=>?_)
  refine ao 1 tk rfl (ab ?_)
  refine bg rfl (fun h=>?_) (fun h=>?_)
  ·have hl1 := mZ h
   obtain ⟨x1,fb1,hx1,H,hg1⟩ := rMc hl1 hr1
   refine ap (ab (av (ab (aa (aQ tk (zn j1) (bj bQ hx1) ?_)))))
   refine ah tk rfl ?_
   refine ba tk fun b9=>?_
   refine aq tk ?_
   refine ac (ab (ab (aa (ah tk rfl (aB tk ?_)))))
   refine az tk (zl _) ?_
   refine ah tk rfl (ac ?_)
   refine gQ (γ := OwnRef) tk 27 26 25 (fun s12 g12=>upd (upd (upd (upd (upd (upd (upd (fun _=>.any) 20 (am (j1 : Int))) 19 (am (x18.length : Int))) 18 (.list 35 (x18.map bV))) 9 (.box 9 b9 0)) 7 (.box 7 b7 0)) 6 (.box 6 b6 0)) 4 (.box 4 b4 0)) (fun s12 g12=>upd (upd (upd (upd (upd (fun _=>none) 9 (some ⟨b9,(aG x1)⟩)) 7 (some ⟨b7,[(.fn 81 [(.box 4 b4 0),(.box 6 b6 0),(.box 5 b5 0),(.box 7 b7 0)])]⟩)) 6 (some ⟨b6,[(aC s12.2.1)]⟩)) 5 (some ⟨b5,(List.map aC s12.2.2)⟩)) 4 (some ⟨b4,[(.own 1204 g12 (s12.1.map bG).length)]⟩)) (fun s12 g12=>upd (fun _=>none) 1204 (some ⟨g12,3,(s12.1.map bG),true⟩)) g1 H (fun fl12 Hp12 j12 s12 g12 hz12 hl12 x12 fb12 hx12 H hg12=>?_) (fun s12 g12 H=>?_)
   ·refine ab (av (ab (aa (aQ tk (zn j12) (bj dK hx12) ?_))))
    refine ah tk rfl ?_
    refine ba tk fun b11=>?_
    refine aq tk ?_
    refine ac (aa (aB tk ?_))
    refine aB tk ?_
    obtain ⟨x33,h33,H⟩ := ax H
    have s33 := lm b4 g12 b6 b5 b7 x12 s12.1 s12.2.1 s12.2.2 _ h33
    refine cV (st' := ⟨_,_,upd (upd (upd (upd (upd (upd (fun _=>none) 11 (some ⟨b11,(iM x12)⟩)) 9 (some ⟨b9,(aG x1)⟩)) 7 (some ⟨b7,[(.fn 81 [(.box 1000 b4 0),(.box 1001 b6 0),(.box 1002 b5 0),(.box 1003 b7 0)])]⟩)) 6 (some ⟨b6,[(aC s12.2.1)]⟩)) 5 (some ⟨b5,(List.map aC s12.2.2)⟩)) 4 (some ⟨b4,[(.own 1100 g12 (s12.1.map bG).length)]⟩),upd (fun _=>none) 1204 (some ⟨g12,3,(s12.1.map bG),true⟩)⟩) (Gh.le (cw _ _) (bn rfl (jx.of2 (iK.cons (oG.own rfl) iK.nil)) (bn rfl (jx.r) (bn rfl (jx.r) (bn rfl (jx.of2 (iK.cons (oG.fn (iK.cons oG.boxT (iK.cons oG.boxT (iK.cons oG.boxT (iK.cons oG.boxT iK.nil))))) iK.nil)) (bn rfl (jx.r) (bn rfl (jx.r) aM)))))) (bu aL)) ?_
    refine eF (g := 81) rfl rfl rfl Tryz.call81 [(4,1000),(6,1001),(5,1002),(7,1003)] [(1204,1100)] rfl rfl rfl rfl (jx.of2 (iK.cons (oG.of_eq rfl) (iK.cons oG.boxT (iK.cons oG.boxT (iK.cons oG.boxT (iK.cons oG.boxT iK.nil)))))) (by rw [gr,gr,gr,gr,dR,cY,dN]; rfl) s33 ?_
    rintro u33 H33h ⟨gz33_0,rfl,rfl⟩
    refine ⟨_,rfl,?_⟩
    refine cV (st' := ⟨_,_,upd (upd (upd (upd (upd (upd (fun _=>none) 11 (some ⟨b11,(iM x12)⟩)) 9 (some ⟨b9,(aG x1)⟩)) 7 (some ⟨b7,[(.fn 81 [(.box 4 b4 0),(.box 6 b6 0),(.box 5 b5 0),(.box 7 b7 0)])]⟩)) 6 (some ⟨b6,[(aC x33.2.1)]⟩)) 5 (some ⟨b5,(List.map aC x33.2.2)⟩)) 4 (some ⟨b4,[(.own 1204 gz33_0 (x33.1.map bG).length)]⟩),upd (fun _=>none) 1204 (some ⟨gz33_0,3,(x33.1.map bG),true⟩)⟩) (Gh.le (cw _ _) (bn rfl (jx.of2 (iK.cons (oG.own rfl) iK.nil)) (bn rfl (jx.r) (bn rfl (jx.r) (bn rfl (jx.of2 (iK.cons (oG.fn (iK.cons oG.boxT (iK.cons oG.boxT (iK.cons oG.boxT (iK.cons oG.boxT iK.nil))))) iK.nil)) (bn rfl (jx.r) (bn rfl (jx.r) aM)))))) (bu aL)) ?_
    refine ac (aF (aX 2 tk rfl ?_))
    exact bi gz33_0 H hl12 hg12
   refine ab (aa (ah tk rfl (aB tk ?_)))
   refine az tk (zl _) ?_
   refine ah tk rfl (ac ?_)
   refine gQ (γ := OwnRef) tk 38 37 36 (fun s13 g13=>upd (upd (upd (upd (upd (upd (fun _=>.any) 20 (am (j1 : Int))) 19 (am (x18.length : Int))) 18 (.list 35 (x18.map bV))) 7 (.box 7 b7 0)) 6 (.box 6 b6 0)) 4 (.box 4 b4 0)) (fun s13 g13=>upd (upd (upd (upd (fun _=>none) 7 (some ⟨b7,[(.fn 81 [(.box 4 b4 0),(.box 6 b6 0),(.box 5 b5 0),(.box 7 b7 0)])]⟩)) 6 (some ⟨b6,[(aC s13.2.1)]⟩)) 5 (some ⟨b5,(List.map aC s13.2.2)⟩)) 4 (some ⟨b4,[(.own 1204 g13 (s13.1.map bG).length)]⟩)) (fun s13 g13=>upd (fun _=>none) 1204 (some ⟨g13,3,(s13.1.map bG),true⟩)) g12 H (fun fl13 Hp13 j13 s13 g13 hz13 hl13 x13 fb13 hx13 H hg13=>?_) (fun s13 g13 H=>?_)
   ·refine ab (av (ab (aa ?_)))
    refine aQ tk (zn j13) (bj (fun _=>rfl) hx13) ?_
    refine ah tk rfl ?_
    refine ba tk fun b13=>?_
    refine aq tk ?_
    refine ac (ab (aa (ah tk rfl (aB tk ?_))))
    refine az tk (zl _) ?_
    refine ah tk rfl (ac ?_)
    refine gQ (γ := OwnRef) tk 45 44 43 (fun s16 g16=>upd (upd (upd (upd (upd (upd (upd (upd (upd (fun _=>.any) 38 (am (j13 : Int))) 37 (am (x1.aggregates.length : Int))) 36 (.list 140 (x1.aggregates.map kS))) 20 (am (j1 : Int))) 19 (am (x18.length : Int))) 18 (.list 35 (x18.map bV))) 7 (.box 7 b7 0)) 6 (.box 6 b6 0)) 4 (.box 4 b4 0)) (fun s16 g16=>upd (upd (upd (upd (fun _=>none) 7 (some ⟨b7,[(.fn 81 [(.box 4 b4 0),(.box 6 b6 0),(.box 5 b5 0),(.box 7 b7 0)])]⟩)) 6 (some ⟨b6,[(aC s16.2.1)]⟩)) 5 (some ⟨b5,(List.map aC s16.2.2)⟩)) 4 (some ⟨b4,[(.own 1204 g16 (s16.1.map bG).length)]⟩)) (fun s16 g16=>upd (fun _=>none) 1204 (some ⟨g16,3,(s16.1.map bG),true⟩)) g13 H (fun fl16 Hp16 j16 s16 g16 hz16 hl16 x16 fb16 hx16 H hg16=>?_) (fun s16 g16 H=>?_)
    ·refine ab (av (ab (aa (aQ tk (zn j16) (bj dK hx16) ?_))))
     refine ah tk rfl ?_
     refine ba tk fun b15=>?_
     refine aq tk ?_
     refine ac (aa (aB tk ?_))
     refine aB tk ?_
     obtain ⟨x51,h51,H⟩ := ax H
     have s51 := lm b4 g16 b6 b5 b7 x16 s16.1 s16.2.1 s16.2.2 _ h51
     refine cV (st' := ⟨_,_,upd (upd (upd (upd (upd (fun _=>none) 15 (some ⟨b15,(iM x16)⟩)) 7 (some ⟨b7,[(.fn 81 [(.box 1000 b4 0),(.box 1001 b6 0),(.box 1002 b5 0),(.box 1003 b7 0)])]⟩)) 6 (some ⟨b6,[(aC s16.2.1)]⟩)) 5 (some ⟨b5,(List.map aC s16.2.2)⟩)) 4 (some ⟨b4,[(.own 1100 g16 (s16.1.map bG).length)]⟩),upd (fun _=>none) 1204 (some ⟨g16,3,(s16.1.map bG),true⟩)⟩) (Gh.le (cw _ _) (bn rfl (jx.of2 (iK.cons (oG.own rfl) iK.nil)) (bn rfl (jx.r) (bn rfl (jx.r) (bn rfl (jx.of2 (iK.cons (oG.fn (iK.cons oG.boxT (iK.cons oG.boxT (iK.cons oG.boxT (iK.cons oG.boxT iK.nil))))) iK.nil)) (bn rfl (jx.r) aM))))) (bu aL)) ?_
     refine eF (g := 81) rfl rfl rfl Tryz.call81 [(4,1000),(6,1001),(5,1002),(7,1003)] [(1204,1100)] rfl rfl rfl rfl (jx.of2 (iK.cons (oG.of_eq rfl) (iK.cons oG.boxT (iK.cons oG.boxT (iK.cons oG.boxT (iK.cons oG.boxT iK.nil)))))) (by rw [gr,gr,gr,gr,dR,cY,dN]; rfl) s51 ?_
     rintro u51 H51h ⟨gz51_0,rfl,rfl⟩
     refine ⟨_,rfl,?_⟩
     refine cV (st' := ⟨_,_,upd (upd (upd (upd (upd (fun _=>none) 15 (some ⟨b15,(iM x16)⟩)) 7 (some ⟨b7,[(.fn 81 [(.box 4 b4 0),(.box 6 b6 0),(.box 5 b5 0),(.box 7 b7 0)])]⟩)) 6 (some ⟨b6,[(aC x51.2.1)]⟩)) 5 (some ⟨b5,(List.map aC x51.2.2)⟩)) 4 (some ⟨b4,[(.own 1204 gz51_0 (x51.1.map bG).length)]⟩),upd (fun _=>none) 1204 (some ⟨gz51_0,3,(x51.1.map bG),true⟩)⟩) (Gh.le (cw _ _) (bn rfl (jx.of2 (iK.cons (oG.own rfl) iK.nil)) (bn rfl (jx.r) (bn rfl (jx.r) (bn rfl (jx.of2 (iK.cons (oG.fn (iK.cons oG.boxT (iK.cons oG.boxT (iK.cons oG.boxT (iK.cons oG.boxT iK.nil))))) iK.nil)) (bn rfl (jx.r) aM))))) (bu aL)) ?_
     refine ac (aF (aX 2 tk rfl ?_))
     exact bi gz51_0 H hl16 hg16
    refine aF (aX 2 tk rfl ?_)
    exact bi g16 H hl13 hg13
   refine aF (aX 2 tk rfl ?_)
   exact bi g13 H hl1 hg1
  have hn1 := rMd (mS h) hr1
  refine bh rfl ?_
  refine aR s1 g1 hn1 Gh.d
 have H := cP hn1 Hp1
 refine ab (ab (aa (aB tk ?_)))
 refine ac ?_
 refine aH rfl H (fun H=>?_) (fun H=>?_)
 ·refine ao 2 tk rfl ?_
  obtain rfl := aA H
  refine bc tk rfl (ps := [(.val (.slice none 0 0)),(am 13)]) ⟨_,_,rfl,rfl,_,_,rfl,rfl,rfl⟩ (PLe.of2 (oG.tup (iK.cons (oG.nil tk rfl) (iK.cons (oG.of_eq rfl) iK.nil))))
 refine ap (ab (aa (aB tk ?_)))
 refine ag 2 tk rfl (ac (dP 2 rfl rfl rfl ?_))
 exact aW tk H rfl
def fe (sA : List Int) (v : Int) : Option (Bool) :=
 af (ic sA v) fun x7 =>
 some (decide (x7 ≥ (0 : Int)))
theorem oI (sA : List Int) (v : Int) (r : Bool) (H : fe sA v = some r) :
  aI Tryz.prog 184 [(.list 3 (sA.map bG)),(am v)] (aC r) := by
 unfold fe at H
 refine PH.au Tryz.func184 Tryz.ntmps184 ?_
 refine ao 1 tk rfl (ab (aa (ag 2 tk rfl ?_)))
 obtain ⟨x7,h7,H⟩ := ax H
 have s7 := pZ sA v _ h7
 refine ak Tryz.call209 (jx.r) s7 ?_
 refine ag 2 tk rfl (ac ?_)
 exact aW tk H rfl
def iE (kind : Int) (a : List LCol) (b : List LCol) : Option ((List LCol) × Int) :=
 cond ((a.length : Int) != (b.length : Int))
  (some ([],7))
  (af (aE (σ := List LCol) (ρ := ((List LCol) × Int)) (fun (j1 : Nat) (x1 : LCol) (s1 : List LCol) =>
   af (aJ b (j1 : Int)) fun (x29 : LCol) =>
   cond (x1.kind != x29.kind)
    (some (.ret ([],7)))
    (cond x1.nullable
     (af (aJ s1 (j1 : Int)) fun (x51 : LCol) =>
     bp (s1.set ((j1 : Int).toNat) (LCol.mk x51.name x51.kind true)) fun (y8 : List LCol) =>
     some (.next y8))
     (cond (kind == (6 : Int))
      (af (aJ b (j1 : Int)) fun (x46 : LCol) =>
      af (aJ s1 (j1 : Int)) fun (x51 : LCol) =>
      bp (s1.set ((j1 : Int).toNat) (LCol.mk x51.name x51.kind x46.nullable)) fun (y9 : List LCol) =>
      some (.next y9))
      (af (aJ s1 (j1 : Int)) fun (x51 : LCol) =>
      bp (s1.set ((j1 : Int).toNat) (LCol.mk x51.name x51.kind false)) fun (y10 : List LCol) =>
      some (.next y10))))) 0 a a) fun fl1=>fl1.thenR fun (s1 : List LCol) =>
  some (s1,0))
theorem sN (kind : Int) (a : List LCol) (b : List LCol) (r : (List LCol) × Int) (H : iE kind a b = some r) :
  aI Tryz.prog 187 [(am kind),(.list 51 (a.map aN)),(.list 51 (b.map aN))] (.tup [(.list 51 (r.1.map aN)),(am r.2)]) := by
 unfold iE at H
 refine PH.au Tryz.func187 Tryz.ntmps187 ?_
 refine ao 2 tk rfl (ab (ab (aa (ah tk rfl (az tk (zl _) ?_)))))
 refine ah tk rfl (az tk (zl _) ?_)
 refine ah tk rfl (ac ?_)
 refine aH rfl H (fun H=>?_) (fun H=>?_)
 ·refine ao 2 tk rfl ?_
  obtain rfl := aA H
  refine bc tk rfl (ps := [(.val (.slice none 0 0)),(am 7)]) ⟨_,_,rfl,rfl,_,_,rfl,rfl,rfl⟩ (PLe.of2 (oG.tup (iK.cons (oG.nil tk rfl) (iK.cons (oG.of_eq rfl) iK.nil))))
 refine ap (ab (aa (ah tk rfl ?_)))
 have s16 := qo (m := 16) a
 refine ml (g := 156) rfl rfl rfl Tryz.call156 (jx.r) rfl rfl s16 (fun g16=>?_)
 refine ah tk rfl (ac (ab (ab (aa (ah tk rfl (az tk (zl _) ?_))))))
 refine ah tk rfl (ac ?_)
 refine fm (γ := OwnRef) tk 19 18 1 (fun s1 g1=>upd (upd (upd (fun _=>.any) 8 (.own 16 g1 (s1.map aN).length)) 2 (.list 51 (b.map aN))) 0 (am kind)) nB (fun s1 g1=>upd (fun _=>none) 16 (some ⟨g1,51,(s1.map aN),true⟩)) g16 H (fun fl1 Hp1 j1 s1 g1 hz1 hl1 x1 fb1 hx1 H hg1=>?_) (fun s1 g1 H=>?_)
 ·refine ab (av (ao 2 tk rfl (ab (ab ?_))))
  refine jS (tag := 16) rfl (fun ho16=>?_)
  refine bw tk mok ⟨false,false,[]⟩ [0,1,2,3,4,5,6,7,8,9,10] rfl (by decide +kernel) rfl (aU 2 rfl ?_)
  refine bJ (zn j1) (bj (fun _=>rfl) hx1) ?_
  refine aU 4 rfl ?_
  obtain ⟨x29,k29,H⟩ := bt H
  refine bJ k29.1 (aO (fun _=>rfl) k29.2) ?_
  refine aU 3 rfl (br ?_)
  refine aH rfl H (fun H=>?_) (fun H=>?_)
  ·refine ao 2 tk rfl ?_
   obtain rfl := aA H
   have e1 : fl1 = .ret _ := hg1
   subst e1
   obtain rfl := aT Hp1
   refine bc tk rfl (ps := [(.val (.slice none 0 0)),(am 7)]) ⟨_,_,rfl,rfl,_,_,rfl,rfl,rfl⟩ (PLe.of2 (oG.tup (iK.cons (oG.nil tk rfl) (iK.cons (oG.of_eq rfl) iK.nil))))
  refine ap (aa (ag 4 tk rfl ?_))
  refine aQ tk (zn j1) (bj (fun _=>rfl) hx1) ?_
  refine ag 3 tk rfl ?_
  refine bf rfl rfl rfl H (fun H=>?_) (fun H=>?_)
  ·refine ag 10 tk rfl ?_
   obtain ⟨x51,k51,H⟩ := bt H
   refine nr (tag := 16) rfl (fun ho16=>?_)
   refine ni tk rfl rfl rfl rfl rfl rfl rfl ⟨k51.1,(dV k51.2)⟩ (eh ho16 k51.2) rfl (ah tk rfl ?_)
   obtain ⟨y8,hy8,H⟩ := cL H
   refine qb tk rfl rfl rfl rfl rfl rfl rfl rfl (by rw [zl]; exact (zg.1 k51.2).1) (PLe.refl _ _) rfl rfl rfl rfl (by decide) (fQ (fun _=>rfl) k51.2 rfl hy8) ?_
   refine ac (aF (aX 2 tk rfl ?_))
   exact bi g1 H hl1 hg1 (Gh.le (aw (aw (bC (PLe.q (eB (by omega))) (aw (aw (bC (PLe.of2 (oG.of_eq (congrArg (PV.own 16 g1) (fu (f := aN) hy8)))) aY)))))) aM (bu aL))
  refine ag 3 tk rfl ?_
  refine bf rfl rfl rfl H (fun H=>?_) (fun H=>?_)
  ·refine ag 2 tk rfl ?_
   obtain ⟨x46,k46,H⟩ := bt H
   refine aQ tk k46.1 (aO (fun _=>rfl) k46.2) ?_
   refine ag 4 tk rfl ?_
   obtain ⟨x51,k51,H⟩ := bt H
   refine nr (tag := 16) rfl (fun ho16=>?_)
   refine ni tk rfl rfl rfl rfl rfl rfl rfl ⟨k51.1,(dV k51.2)⟩ (eh ho16 k51.2) rfl (ah tk rfl ?_)
   obtain ⟨y9,hy9,H⟩ := cL H
   refine qb tk rfl rfl rfl rfl rfl rfl rfl rfl (by rw [zl]; exact (zg.1 k51.2).1) (PLe.refl _ _) rfl rfl rfl rfl (by decide) (fQ (fun _=>rfl) k51.2 rfl hy9) ?_
   refine ac (aF (aX 2 tk rfl ?_))
   exact bi g1 H hl1 hg1 (Gh.le (aw (aw (bC (PLe.q (eB (by omega))) (aw (aw (bC (PLe.of2 (oG.of_eq (congrArg (PV.own 16 g1) (fu (f := aN) hy9)))) aY)))))) aM (bu aL))
  refine ag 7 tk rfl ?_
  obtain ⟨x51,k51,H⟩ := bt H
  refine nr (tag := 16) rfl (fun ho16=>?_)
  refine ni tk rfl rfl rfl rfl rfl rfl rfl ⟨k51.1,(dV k51.2)⟩ (eh ho16 k51.2) rfl (ah tk rfl ?_)
  obtain ⟨y10,hy10,H⟩ := cL H
  refine qb tk rfl rfl rfl rfl rfl rfl rfl rfl (by rw [zl]; exact (zg.1 k51.2).1) (PLe.refl _ _) rfl rfl rfl rfl (by decide) (fQ (fun _=>rfl) k51.2 rfl hy10) ?_
  refine ac (aF (aX 2 tk rfl ?_))
  exact bi g1 H hl1 hg1 (Gh.le (aw (aw (bC (PLe.q (eB (by omega))) (aw (aw (bC (PLe.of2 (oG.of_eq (congrArg (PV.own 16 g1) (fu (f := aN) hy10)))) aY)))))) aM (bu aL))
 refine ao 3 tk rfl (dP 6 rfl rfl rfl ?_)
 exact aW tk H rfl
def dF (sA : List (List UInt8)) (v : List UInt8) : Option (Bool) :=
 af (fF sA v) fun x7 =>
 some (decide (x7 ≥ (0 : Int)))
theorem mi (sA : List (List UInt8)) (v : List UInt8) (r : Bool) (H : dF sA v = some r) :
  aI Tryz.prog 139 [(.list 9 (sA.map nG)),(.str v)] (aC r) := by
 unfold dF at H
 refine PH.au Tryz.func139 Tryz.ntmps139 ?_
 refine ao 1 tk rfl (ab (aa (ag 2 tk rfl ?_)))
 obtain ⟨x7,h7,H⟩ := ax H
 have s7 := nf sA v _ h7
 refine ak Tryz.call160 (jx.r) s7 ?_
 refine ag 2 tk rfl (ac ?_)
 exact aW tk H rfl
def bO (sA : List LCol) (f : LCol → Option (Bool)) : Option (Bool) :=
 af (bv sA f) fun x7 =>
 some (decide (x7 ≥ (0 : Int)))
theorem jU {g_f : FuncId} {caps_f : List PV} (sA : List LCol) (f : LCol → Option (Bool)) (hg_f : ∀ (vs : Array Value) (w : World),(callFunc g_f vs).run Tryz.prog w = .ok (.enter g_f vs) w) (hp_f : ∀ a0 r,f a0 = some r → aI Tryz.prog g_f ((.agg (aN a0)) :: caps_f) (aC r)) (r : Bool) (H : bO sA f = some r) :
  aI Tryz.prog 154 [(.list 51 (sA.map aN)),(.fn g_f caps_f)] (aC r) := by
 unfold bO at H
 refine PH.au Tryz.func154 Tryz.ntmps154 ?_
 refine ao 1 tk rfl (ab (aa (ag 2 tk rfl ?_)))
 obtain ⟨x7,h7,H⟩ := ax H
 have s7 := dp sA f hg_f hp_f _ h7
 refine ak Tryz.call8 (jx.r) s7 ?_
 refine ag 2 tk rfl (ac ?_)
 exact aW tk H rfl
def er (t : LTable) (row : Rq) : Option (Int) :=
 cond ((row.length : Int) != (t.columns.length : Int))
  (some 3)
  (af (aE (σ := Unit) (ρ := (Int)) (fun (j1 : Nat) (x1 : LVal) (_ : Unit) =>
   bp (dl x1) fun x22 =>
   cond (x22 != (0 : Int))
    (some (.ret x22))
    (af (
     cond (x1.kind == (0 : Int))
      (af (aJ t.columns (j1 : Int)) fun (x33 : LCol) =>
      some (!x33.nullable))
      (some false)) fun (t3 : Bool) =>
    cond t3
     (some (.ret 8))
     (cond (x1.kind != (0 : Int))
      (af (aJ t.columns (j1 : Int)) fun (x47 : LCol) =>
      cond (x1.kind != x47.kind)
       (some (.ret 7))
       (some (.next ())))
      (some (.next ()))))) 0 row ()) fun fl1=>fl1.thenR fun (_ : Unit) =>
  some 0)
theorem qz (t : LTable) (row : Rq) (r : Int) (H : er t row = some r) :
  aI Tryz.prog 45 [(.agg (cD t)),(.list 39 (row.map ae))] (am r) := by
 unfold er at H
 refine PH.au Tryz.func45 Tryz.ntmps45 ?_
 refine ab (aa (aD ?_))
 refine ah tk rfl (ac (ab (ab (aa (ah tk rfl (az tk (zl _) ?_))))))
 refine ag 2 tk rfl (az tk (zl _) ?_)
 refine ah tk rfl (ac ?_)
 refine aH rfl H (fun H=>?_) (fun H=>?_)
 ·refine ao 1 tk rfl ?_
  exact aW tk H rfl
 refine ap (ab (ab (aa (ah tk rfl (az tk (zl _) ?_)))))
 refine ah tk rfl (ac ?_)
 refine fm tk 16 15 14 (fun s1 g1=>upd (fun _=>.any) 2 (.ptr (cD t))) nB nO () H (fun fl1 Hp1 j1 s1 g1 hz1 hl1 x1 fb1 hx1 H hg1=>?_) (fun s1 g1 H=>?_)
 ·refine ab (av (ab (aa (ah tk rfl ?_))))
  refine aQ tk (zn j1) (bj (fun _=>rfl) hx1) ?_
  refine ah tk rfl ?_
  refine ba tk fun b6=>?_
  refine ah tk rfl (aq tk ?_)
  refine ac (ab (ab (aa (aB tk ?_))))
  obtain ⟨x22,h22,H⟩ := cL H
  have s22 := pE x1
  rw [h22] at s22
  refine ak Tryz.call78 (jx.r) s22 ?_
  refine ah tk rfl (ac (ao 2 tk rfl ?_))
  refine aH rfl H (fun H=>?_) (fun H=>?_)
  ·refine ao 2 tk rfl ?_
   obtain rfl := aA H
   have e1 : fl1 = .ret _ := hg1
   subst e1
   obtain rfl := aT Hp1
   refine bc tk rfl (ps := [(am x22)]) ⟨_,_,rfl,rfl,rfl⟩ (PLe.q rfl)
  refine ap (ab (ab ?_))
  refine gG (γ := Unit) (fun t3 g3=>⟨53,upd (upd (upd (upd (upd (upd (upd (fun _=>.any) 37 (aC t3)) 16 (am (j1 : Int))) 15 (am (row.length : Int))) 14 (.list 39 (row.map ae))) 6 (.box 6 b6 0)) 5 (am (j1 : Int))) 2 (.ptr (cD t)),upd (fun _=>none) 6 (some ⟨b6,(ae x1)⟩),fun _=>none⟩) H (fun _ H=>?_) (fun t3 g3 H=>?_)
  ·refine aa (ah tk rfl (aB tk ?_))
   refine ag 2 tk rfl ?_
   refine bf rfl rfl rfl H (fun H=>?_) (fun H=>?_)
   ·refine ag 3 tk rfl ?_
    obtain ⟨x33,k33,H⟩ := bt H
    refine aQ tk k33.1 (aO (fun _=>rfl) k33.2) ?_
    refine ag 4 tk rfl (ac ?_)
    refine aR _ () (aA H) Gh.d
   refine ag 8 tk rfl (ac ?_)
   refine aR _ () (aA H) Gh.d
  refine aH rfl H (fun H=>?_) (fun H=>?_)
  ·refine ao 1 tk rfl ?_
   obtain rfl := aA H
   have e1 : fl1 = .ret _ := hg1
   subst e1
   obtain rfl := aT Hp1
   refine bc tk rfl (ps := [(am 8)]) ⟨_,_,rfl,rfl,rfl⟩ (PLe.q rfl)
  refine ap (ab (bw tk mok ⟨true,false,[45,49]⟩ [0,1,2,3,4,5,6,7,8,9,10,11,12,13] rfl (by decide +kernel) rfl (bT rfl (cu ?_))))
  refine aU 2 rfl ?_
  refine om H (fun H=>?_) (fun H=>?_)
  ·refine bT rfl (cu ?_)
   refine aU 3 rfl ?_
   obtain ⟨x47,k47,H⟩ := bt H
   refine bJ k47.1 (aO (fun _=>rfl) k47.2) ?_
   refine aU 4 rfl (br ?_)
   refine aH rfl H (fun H=>?_) (fun H=>?_)
   ·refine ao 1 tk rfl ?_
    obtain rfl := aA H
    have e1 : fl1 = .ret _ := hg1
    subst e1
    obtain rfl := aT Hp1
    refine bc tk rfl (ps := [(am 7)]) ⟨_,_,rfl,rfl,rfl⟩ (PLe.q rfl)
   refine ap (aF (aX 2 tk rfl ?_))
   exact bi () H hl1 hg1
  refine aU 10 rfl (br (bB rfl (ap (aF (aX 2 tk rfl ?_)))))
  exact bi () H hl1 hg1
 refine ao 1 tk rfl ?_
 exact aW tk H rfl
def bl (slices : Rz) : Option (Rq) :=
 af (aE (σ := Int) (ρ := Empty) (fun (_ : Nat) (x1 : Rq) (s1 : Int) =>
  cond (decide ((IntKind.i64.wrap (s1 + (x1.length : Int))) < (0 : Int)))
   (none)
   (some (.next (IntKind.i64.wrap (s1 + (x1.length : Int)))))) 0 slices 0) fun fl1=>fl1.thenP fun (s1 : Int) =>
 af (pj 32 s1) fun (_ : Unit) =>
 af (aE (σ := Rq) (ρ := Empty) (fun (_ : Nat) (x2 : Rq) (s2 : Rq) =>
  af (dh 32 s2 x2) fun (x33 : Rq) =>
  some (.next x33)) 0 slices []) fun fl2=>fl2.thenP fun (s2 : Rq) =>
 some s2
theorem eK {m : Nat} (slices : Rz) (r : Rq) (H : bl slices = some r) :
  jQ Tryz.prog 54 [(.list 61 (slices.map (al 39 ae)))] (mB m 39 (r.map ae)) := by
 unfold bl at H
 refine PH.au Tryz.func54 Tryz.ntmps54 ?_
 refine ao 1 tk rfl (ao 1 tk rfl (ab (ab (aa (ah tk rfl (az tk (zl _) ?_))))))
 refine ah tk rfl (ac ?_)
 refine gQ tk 11 10 9 (fun s1 g1=>upd (upd (fun _=>.any) 3 (am s1)) 0 (.list 61 (slices.map (al 39 ae)))) nB nO () H (fun fl1 Hp1 j1 s1 g1 hz1 hl1 x1 fb1 hx1 H hg1=>?_) (fun s1 g1 H=>?_)
 ·refine ab (av (ab (aa ?_)))
  refine aQ tk (zn j1) (bj (fun _=>rfl) hx1) ?_
  refine ag 2 tk rfl (ac (ab (aa (ag 2 tk rfl (az tk (zl _) ?_)))))
  refine ag 2 tk rfl (ac (ao 2 tk rfl ?_))
  refine aH rfl H (fun H=>?_) (fun H=>?_)
  ·cases H
  refine ap (aF (aX 2 tk rfl ?_))
  exact bi () H hl1 hg1
 refine ab (aa (ah tk rfl ?_))
 obtain ⟨_,h24,H⟩ := ax H
 have s24 := grow_85 (m := 24) s1 h24
 refine ml (g := 85) rfl rfl rfl Tryz.call85 (jx.r) rfl rfl s24 (fun g24=>?_)
 refine ah tk rfl (ac (ab (ab (aa (ah tk rfl (az tk (zl _) ?_))))))
 refine ah tk rfl (ac ?_)
 refine gQ (γ := OwnRef) tk 27 26 25 (fun s2 g2=>upd (fun _=>.any) 6 (.own 24 g2 (s2.map ae).length)) nB (fun s2 g2=>upd (fun _=>none) 24 (some ⟨g2,39,(s2.map ae),true⟩)) g24 H (fun fl2 Hp2 j2 s2 g2 hz2 hl2 x2 fb2 hx2 H hg2=>?_) (fun s2 g2 H=>?_)
 ·refine ab (av (ab (aa ?_)))
  refine aQ tk (zn j2) (bj (fun _=>rfl) hx2) ?_
  refine ag 2 tk rfl (ac (aa (ag 2 tk rfl ?_)))
  obtain ⟨x33,h33,H⟩ := ax H
  have k33 := cj h33
  refine cf (rows2' := List.map ae x2) (rows' := List.map ae x33) tk rfl rfl rfl rfl rfl rfl rfl rfl rfl rfl rfl rfl rfl (fU.refl _) (dC k33.1) (dy k33.2.1) (dB k33.2.2) fun g33=>?_
  refine ah tk rfl (ac (aF (aX 2 tk rfl ?_)))
  exact bi g33 H hl2 hg2
 refine ao 2 tk rfl ?_
 obtain rfl := aA H
 refine kK tk rfl
theorem iI (xss : Rz) (h1 : xss.flatten.length * 32 ≤ 2 ^ 47) (h2 : xss.flatten.length ≤ maxLen) : bl xss = some xss.flatten := by
 have hle : ∀ k x,xss[k]? = some x → (xss.take k).flatten.length + x.length ≤ xss.flatten.length := by
  intro k x hk
  have e1 : (xss.take (k + 1)).flatten.length = (xss.take k).flatten.length + x.length := by rw [List.take_add_one,hk]; simp
  have e2 : xss.flatten = (xss.take (k + 1)).flatten ++ (xss.drop (k + 1)).flatten := by rw [← List.flatten_append,List.take_append_drop]
  have e3 := congrArg List.length e2
  rw [List.length_append] at e3
  omega
 unfold bl
 rw [rMa (fun k=>((xss.take k).flatten.length : Int)) (by simp) (fun k x hk=>by
  have h3 := hle k x hk
  have e : IntKind.i64.wrap (((xss.take k).flatten.length : Int) + (x.length : Int)) = (((xss.take k).flatten.length + x.length : Nat) : Int) := by
   rw [bq (by omega) (by unfold maxLen at h2; omega)]; simp
  have e1 : (xss.take (k + 1)).flatten.length = (xss.take k).flatten.length + x.length := by rw [List.take_add_one,hk]; simp
  have hn : decide (((((xss.take k).flatten.length + x.length : Nat) : Int)) < 0) = false := by simp; omega
  rw [e,hn,e1]
  rfl)]
 simp only [bPs,bM,List.take_length]
 rw [rz ⟨by omega,by simpa using h1,by simpa using h2⟩]
 simp only [bPs]
 rw [rMa (fun k=>(xss.take k).flatten) (by simp) (fun k x hk=>by
  have h3 := hle k x hk
  rw [pr (Nat.le_trans (Nat.mul_le_mul_right _ h3) h1) (Nat.le_trans h3 h2)]
  simp [List.take_add_one,hk])]
 simp
def jj (y : Rq) (c0 : Rq) : Option (Bool) :=
 af (cr c0 y) fun x6 =>
 some x6
theorem W_query_less_1 (y : Rq) (c0 : Rq) (r : Bool) (H : jj y c0 = some r) :
  aI Tryz.prog 157 [(.list 39 (y.map ae)),(.ptr [(.list 39 (c0.map ae))])] (aC r) := by
 unfold jj at H
 refine PH.au Tryz.func157 Tryz.ntmps157 ?_
 refine ao 1 tk rfl (ab (aa (ag 2 tk rfl ?_)))
 obtain ⟨x6,h6,H⟩ := ax H
 have s6 := gA c0 y _ h6
 refine ak Tryz.call29 (jx.r) s6 ?_
 refine ah tk rfl (ac ?_)
 exact aW tk H rfl
def cT (sA : Rz) (del : Rq → Option (Bool)) : Option Rz :=
 af (bF sA del) fun x10 =>
 af (eO (x10.2.length = sA.length) ()) fun (_ : Unit) =>
 cond (x10.1 == (-1))
  (some x10.2)
  (af (fG (σ := Rz × Int × Int) (ρ := Empty) (fun (s1 : Rz × Int × Int) =>
   cond (decide (s1.2.2 < (s1.1.length : Int)))
    (af (aJ s1.1 s1.2.2) fun (x24 : Rq) =>
    af (del x24) fun x28 =>
    cond (!x28)
     (af (aJ s1.1 s1.2.1) fun (_ : Rq) =>
     bp (s1.1.set s1.2.1.toNat x24) fun (y4 : Rz) =>
     some (.next (y4,(IntKind.i64.wrap (s1.2.1 + (1 : Int))),(IntKind.i64.wrap (s1.2.2 + (1 : Int))))))
     (some (.next (s1.1,s1.2.1,(IntKind.i64.wrap (s1.2.2 + (1 : Int)))))))
    (some (.brk (s1.1,s1.2.1,s1.2.2)))) (x10.2,x10.1,(IntKind.i64.wrap (x10.1 + (1 : Int))))) fun fl1=>fl1.thenP fun (s1 : Rz × Int × Int) =>
  af (cutI s1.1 s1.2.1) fun (y5 : Rz) =>
  af (cutI y5 s1.2.1) fun (y6 : Rz) =>
  some y6)
theorem li (g_sA : OwnRef) {g_del : FuncId} {caps_del : List PV} (sA : Rz) (del : Rq → Option (Bool)) (hg_del : ∀ (vs : Array Value) (w : World),(callFunc g_del vs).run Tryz.prog w = .ok (.enter g_del vs) w) (hp_del : ∀ a0 r,del a0 = some r → aI Tryz.prog g_del ((.list 39 (a0.map ae)) :: caps_del) (aC r)) (r : Rz) (H : cT sA del = some r) :
  PH Tryz.prog 114 [(.own 0 g_sA (sA.map (al 39 ae)).length),(.fn g_del caps_del)] ⟨fun _=>none,upd (fun _=>none) 0 (some ⟨g_sA,61,(sA.map (al 39 ae)),true⟩)⟩ (fun u H=>u = .own 0 g_sA (r.map (al 39 ae)).length ∧ H = ⟨fun _=>none,upd (fun _=>none) 0 (some ⟨g_sA,61,(r.map (al 39 ae)),true⟩)⟩) := by
 unfold cT at H
 refine PH.au Tryz.func114 Tryz.ntmps114 ?_
 refine ao 1 tk rfl (ab (aa (ag 2 tk rfl ?_)))
 obtain ⟨x10,h10,H⟩ := ax H
 have s10 := fE g_sA sA del hg_del hp_del _ h10
 obtain ⟨_,q10_0,H⟩ := ax H
 have l10_0 := (de q10_0).1
 have z10_0 : (List.map (al 39 ae) sA).length = (List.map (al 39 ae) x10.2).length := by simpa using (l10_0).symm
 refine eF (g := 83) rfl rfl rfl Tryz.call83 [] [(0,0)] rfl rfl rfl rfl (jx.of2 (iK.cons (oG.own rfl) (iK.cons (oG.of_eq rfl) iK.nil))) (by rw [dR,cY,dN]; rfl) s10 ?_
 rintro u10 H10h ⟨rfl,rfl⟩
 refine ⟨_,rfl,?_⟩
 refine cV (st' := ⟨_,_,fun _=>none,upd (fun _=>none) 0 (some ⟨g_sA,61,(x10.2.map (al 39 ae)),true⟩)⟩) (Gh.le (cw _ _) aM (bu aL)) ?_
 refine ah tk rfl (ac (ab (ao 2 tk rfl ?_)))
 refine aH rfl H (fun H=>?_) (fun H=>?_)
 ·refine ao 2 tk rfl ?_
  obtain rfl := aA H
  refine gS (st' := ⟨42,upd (fun _=>.any) 4 (.own 0 g_sA (sA.map (al 39 ae)).length),fun _=>none,upd (fun _=>none) 0 (some ⟨g_sA,61,(x10.2.map (al 39 ae)),true⟩)⟩) (Gh.le (aw aY) aM (bu aL)) ?_
  refine nY tk rfl (ps := [(.own 0 g_sA (sA.map (al 39 ae)).length)]) ⟨_,_,rfl,rfl,rfl⟩ (PLe.of2 (oG.own z10_0)) ⟨rfl,rfl⟩
 refine ap (ab (ao 3 tk rfl ?_))
 obtain ⟨fl1,H1,Hp1⟩ := ax H
 refine fj (τ := Rz × Int × Int) (γ := Unit) (fun s1 g1=>⟨42,upd (upd (fun _=>.any) 5 (am s1.2.1)) 0 (.own 0 g_sA (s1.1.map (al 39 ae)).length),fun _=>none,upd (fun _=>none) 0 (some ⟨g_sA,61,(s1.1.map (al 39 ae)),true⟩)⟩) (fun t=>fl1 = .next t) ?_ (fun s1 g1 hn1=>?_)
 ·refine av ?_
  refine gR (fun s1 g1=>⟨42,upd (upd (upd (upd (fun _=>.any) 6 (am s1.2.2)) 5 (am s1.2.1)) 1 (.fn g_del caps_del)) 0 (.own 0 g_sA (s1.1.map (al 39 ae)).length),fun _=>none,upd (fun _=>none) 0 (some ⟨g_sA,61,(s1.1.map (al 39 ae)),true⟩)⟩) () H1 (Gh.le (bC (PLe.of2 (oG.of_eq (congrArg (PV.own 0 g_sA) z10_0))) (aw (aw (aw aY)))) aM (bu aL)) (fun m1 s1 g1 hr1=>?_)
  obtain ⟨fb1,H,hg1⟩ := fD hr1
  refine ab (ab (aa (ag 2 tk rfl (kB tk (zl _) ?_))))
  refine ah tk rfl (ac ?_)
  refine aH rfl H (fun H=>?_) (fun H=>?_)
  ·refine ap (ab (av (ab (aa (ag 2 tk rfl ?_)))))
   obtain ⟨x24,k24,H⟩ := bt H
   refine nr (tag := 0) rfl (fun ho0=>?_)
   refine ni tk rfl rfl rfl rfl rfl rfl rfl ⟨k24.1,(dV k24.2)⟩ (eh ho0 k24.2) rfl ?_
   refine ut tk rfl rfl rfl rfl rfl rfl rfl (aO (fun _=>rfl) k24.2) rfl rfl ?_
   refine ah tk rfl (ac (ab (aa (ag 2 tk rfl ?_))))
   obtain ⟨x28,h28,H⟩ := ax H
   refine ak hg_del (jx.r) (hp_del _ _ h28) ?_
   refine ah tk rfl (ac ?_)
   refine aH rfl H (fun H=>?_) (fun H=>?_)
   ·refine ab (aa (ag 3 tk rfl ?_))
    obtain ⟨x33,k33,H⟩ := bt H
    refine nr (tag := 0) rfl (fun ho0=>?_)
    refine ni tk rfl rfl rfl rfl rfl rfl rfl ⟨k33.1,(dV k33.2)⟩ (eh ho0 k33.2) rfl ?_
    obtain ⟨y4,hy4,H⟩ := cL H
    refine qb tk rfl rfl rfl rfl rfl rfl rfl rfl (by rw [zl]; exact (zg.1 k33.2).1) (PLe.refl _ _) rfl rfl rfl rfl (by decide) (fQ (fun _=>rfl) k33.2 rfl hy4) ?_
    refine ac (aX 3 tk rfl (aF (aX 3 tk rfl ?_)))
    obtain rfl := aA H
    refine eu (y4,(IntKind.i64.wrap (s1.2.1 + (1 : Int))),(IntKind.i64.wrap (s1.2.2 + (1 : Int)))) () hg1 (Gh.le (bC (PLe.of2 (oG.of_eq (congrArg (PV.own 0 g_sA) (fu (f := (al 39 ae)) hy4)))) (aw (aw (aw aY)))) aM (bu aL))
   refine ap (aF (aX 3 tk rfl ?_))
   obtain rfl := aA H
   refine eu (s1.1,s1.2.1,(IntKind.i64.wrap (s1.2.2 + (1 : Int)))) () hg1 Gh.d
  refine bh rfl ?_
  obtain rfl := aA H
  refine aR (s1.1,s1.2.1,s1.2.2) () hg1 Gh.d
 have H := cP hn1 Hp1
 refine ab (aa (ag 2 tk rfl ?_))
 obtain ⟨y5,hy5,H⟩ := ax H
 have ky5 := cutI_some hy5
 refine Ao.ownC (tag := 0) rfl (fun hcy5=>?_)
 have hny5 : (s1.1.map (al 39 ae)).length = (List.map (al 39 ae) s1.1).length := rfl
 have hmy5 := ky5.2.1
 rw [← zl (f := (al 39 ae)),← hny5] at hmy5
 rw [← hny5] at hcy5
 refine uN (l := s1.2.1.toNat) (h := (s1.1.map (al 39 ae)).length) (m := g_sA.cap) tk rfl rfl rfl rfl rfl rfl ⟨_,_,rfl,(Int.toNat_of_nonneg ky5.1).symm⟩ rfl rfl (by decide) hmy5 hcy5 (Nat.le_refl _) rfl (cV (Gh.cutO (tag := 0) (rows' := List.map (al 39 ae) y5) rfl s1.2.1.toNat (by rw [← List.map_take,ky5.2.2])) ?_)
 refine uQ (tag := 0) (rows := List.map (al 39 ae) y5) tk rfl rfl rfl rfl rfl rfl rfl rfl rfl (p := s1.2.1.toNat) (q := (s1.1.map (al 39 ae)).length) (m := g_sA.cap) (by rw [zl,ky5.2.2,List.length_take]; exact Nat.min_le_left _ _) hmy5 hcy5 (Nat.le_refl _) rfl ?_
 refine ac (ab (aa (ag 2 tk rfl ?_)))
 obtain ⟨y6,hy6,H⟩ := ax H
 have ky6 := cutI_some hy6
 refine Ao.cutP (rows' := List.map (al 39 ae) y6) tk rfl rfl rfl rfl rfl rfl rfl rfl ⟨ky6.1,by rw [zl]; exact ky6.2.1⟩ (by rw [← List.map_take,ky6.2.2]) rfl rfl ?_
 refine ah tk rfl (ac ?_)
 obtain rfl := aA H
 refine gS (st' := ⟨42,upd (fun _=>.any) 4 (.own 0 g_sA (y6.map (al 39 ae)).length),fun _=>none,upd (fun _=>none) 0 (some ⟨g_sA,61,(y6.map (al 39 ae)),true⟩)⟩) (Gh.le (aw aY) aM (bu aL)) ?_
 refine nY tk rfl (ps := [(.own 0 g_sA (y6.map (al 39 ae)).length)]) ⟨_,_,rfl,rfl,rfl⟩ (PLe.of2 (oG.own rfl)) ⟨rfl,rfl⟩
def fY (y : Rq) (c0 : Rq) : Option (Bool) :=
 af (cr c0 y) fun x6 =>
 some x6
theorem sf (y : Rq) (c0 : Rq) (r : Bool) (H : fY y c0 = some r) :
  aI Tryz.prog 162 [(.list 39 (y.map ae)),(.ptr [(.list 39 (c0.map ae))])] (aC r) := by
 unfold fY at H
 refine PH.au Tryz.func162 Tryz.ntmps162 ?_
 refine ao 1 tk rfl (ab (aa (ag 2 tk rfl ?_)))
 obtain ⟨x6,h6,H⟩ := ax H
 have s6 := gA c0 y _ h6
 refine ak Tryz.call29 (jx.r) s6 ?_
 refine ah tk rfl (ac ?_)
 exact aW tk H rfl
def fI (op : List UInt8) (l : Rq) : Option (LVal) :=
 cond (op == ([99,111,117,110,116] : List UInt8))
  (bp (fR (l.length : Int)) fun x13 =>
  some x13)
  (cond ((l.length : Int) == (0 : Int))
   (some (LVal.mk 0 0 []))
   (af (aJ l 0) fun (x19 : LVal) =>
   af (aE (σ := Int × LVal) (ρ := Empty) (fun (_ : Nat) (x1 : LVal) (s1 : Int × LVal) =>
    cond (op == ([109,105,110] : List UInt8))
     (bp (lT x1 s1.2) fun x36 =>
     cond x36
      (some (.next ((IntKind.i64.wrap (s1.1 + x1.int)),x1)))
      (cond (op == ([109,97,120] : List UInt8))
       (bp (lT s1.2 x1) fun x44 =>
       cond x44
        (some (.next ((IntKind.i64.wrap (s1.1 + x1.int)),x1)))
        (some (.next ((IntKind.i64.wrap (s1.1 + x1.int)),s1.2))))
       (some (.next ((IntKind.i64.wrap (s1.1 + x1.int)),s1.2)))))
     (cond (op == ([109,97,120] : List UInt8))
      (bp (lT s1.2 x1) fun x44 =>
      cond x44
       (some (.next ((IntKind.i64.wrap (s1.1 + x1.int)),x1)))
       (some (.next ((IntKind.i64.wrap (s1.1 + x1.int)),s1.2))))
      (some (.next ((IntKind.i64.wrap (s1.1 + x1.int)),s1.2))))) 0 l (0,x19)) fun fl1=>fl1.thenP fun (s1 : Int × LVal) =>
   cond (op == ([115,117,109] : List UInt8))
    (bp (fR s1.1) fun x52 =>
    some x52)
    (some s1.2)))
theorem pL (op : List UInt8) (l : Rq) (r : LVal) (H : fI op l = some r) :
  aI Tryz.prog 195 [(.str op),(.list 39 (l.map ae))] (.agg (ae r)) := by
 unfold fI at H
 refine PH.au Tryz.func195 Tryz.ntmps195 ?_
 refine ab (aa ?_)
 refine ba tk fun b4=>?_
 refine ac (ab (ao 2 tk rfl ?_))
 refine aH rfl H (fun H=>?_) (fun H=>?_)
 ·refine ab (aa (ah tk rfl (az tk (zl _) ?_)))
  obtain ⟨x13,h13,H⟩ := cL H
  have s13 := rx (l.length : Int)
  rw [h13] at s13
  refine ak Tryz.call182 (jx.r) s13 ?_
  refine aq tk ?_
  refine ac ?_
  exact uJ tk H rfl rfl rfl rfl rfl
 refine ap (ab (ab (aa (ah tk rfl (az tk (zl _) ?_)))))
 refine ah tk rfl (ac ?_)
 refine aH rfl H (fun H=>?_) (fun H=>?_)
 ·refine ab (aa (ah tk rfl (aq tk ?_)))
  refine ac ?_
  exact uJ tk H rfl rfl rfl rfl rfl
 refine ap (ab (aa (ah tk rfl ?_)))
 obtain ⟨x19,k19,H⟩ := bt H
 refine aQ tk k19.1 (aO (fun _=>rfl) k19.2) ?_
 refine ah tk rfl ?_
 refine ba tk fun b5=>?_
 refine aq tk ?_
 refine ac (ao 1 tk rfl (ab (ab (aa (ah tk rfl (az tk (zl _) ?_))))))
 refine ah tk rfl (ac ?_)
 refine gQ tk 23 22 21 (fun s1 g1=>upd (upd (upd (upd (fun _=>.any) 6 (am s1.1)) 5 (.box 5 b5 0)) 4 (.box 4 b4 0)) 0 (.str op)) (fun s1 g1=>upd (upd (fun _=>none) 5 (some ⟨b5,(ae s1.2)⟩)) 4 (some ⟨b4,[(am 0),(am 0),(.str [])]⟩)) nO () H (fun fl1 Hp1 j1 s1 g1 hz1 hl1 x1 fb1 hx1 H hg1=>?_) (fun s1 g1 H=>?_)
 ·refine ab (av (ab (aa ?_)))
  refine aQ tk (zn j1) (bj (fun _=>rfl) hx1) ?_
  refine ah tk rfl ?_
  refine ba tk fun b8=>?_
  refine aq tk ?_
  refine ac (ab (aa (ag 2 tk rfl (aB tk ?_))))
  refine ag 2 tk rfl (ac (ab (aa (ag 3 tk rfl ?_))))
  refine bf rfl rfl rfl H (fun H=>?_) (fun H=>?_)
  ·refine aB tk ?_
   refine aB tk ?_
   obtain ⟨x36,h36,H⟩ := cL H
   have s36 := mF x1 s1.2
   rw [h36] at s36
   refine ak Tryz.call57 (jx.r) s36 ?_
   refine ag 2 tk rfl ?_
   refine bf rfl rfl rfl H (fun H=>?_) (fun H=>?_)
   ·refine ag 8 tk rfl (ac (bL rfl (aa (aB tk ?_))))
    refine aq tk ?_
    refine ac (aF (aX 2 tk rfl ?_))
    exact bi () H hl1 hg1
   refine ag 3 tk rfl ?_
   refine bf rfl rfl rfl H (fun H=>?_) (fun H=>?_)
   ·refine aB tk ?_
    refine aB tk ?_
    obtain ⟨x44,h44,H⟩ := cL H
    have s44 := mF s1.2 x1
    rw [h44] at s44
    refine ak Tryz.call57 (jx.r) s44 ?_
    refine ag 2 tk rfl (ac ?_)
    refine aH rfl H (fun H=>?_) (fun H=>?_)
    ·refine aa (aB tk ?_)
     refine aq tk ?_
     refine ac (aF (aX 2 tk rfl ?_))
     exact bi () H hl1 hg1
    refine ap (aF (aX 2 tk rfl ?_))
    exact bi () H hl1 hg1
   refine ag 5 tk rfl (ac (bB rfl (ap (aF (aX 2 tk rfl ?_)))))
   exact bi () H hl1 hg1
  refine ag 8 tk rfl ?_
  refine bf rfl rfl rfl H (fun H=>?_) (fun H=>?_)
  ·refine aB tk ?_
   refine aB tk ?_
   obtain ⟨x44,h44,H⟩ := cL H
   have s44 := mF s1.2 x1
   rw [h44] at s44
   refine ak Tryz.call57 (jx.r) s44 ?_
   refine ag 2 tk rfl (ac ?_)
   refine aH rfl H (fun H=>?_) (fun H=>?_)
   ·refine aa (aB tk ?_)
    refine aq tk ?_
    refine ac (aF (aX 2 tk rfl ?_))
    exact bi () H hl1 hg1
   refine ap (aF (aX 2 tk rfl ?_))
   exact bi () H hl1 hg1
  refine ag 5 tk rfl (ac (bB rfl (ap (aF (aX 2 tk rfl ?_)))))
  exact bi () H hl1 hg1
 refine ab (ao 2 tk rfl ?_)
 refine aH rfl H (fun H=>?_) (fun H=>?_)
 ·refine ab (aa (ah tk rfl ?_))
  obtain ⟨x52,h52,H⟩ := cL H
  have s52 := rx s1.1
  rw [h52] at s52
  refine ak Tryz.call182 (jx.r) s52 ?_
  refine aq tk ?_
  refine ac ?_
  exact uJ tk H rfl rfl rfl rfl rfl
 refine ap (ab (aa (aB tk ?_)))
 refine aq tk ?_
 refine ac ?_
 exact uJ tk H rfl rfl rfl rfl rfl
def dc (data : Rz) (a : Int) (m : Int) (b : Int) (cmp : Rq → Rq → Option (Int)) : Option (Rz) :=
 af (fG (σ := Rz × Int × Int) (ρ := Empty) (fun (s1 : Rz × Int × Int) =>
  cond (s1.2.1 != s1.2.2)
   (cond (decide (s1.2.1 > s1.2.2))
    (af (ci s1.1 (IntKind.i64.wrap (m - s1.2.1)) m s1.2.2 cmp) fun x31 =>
    af (eO (x31.length = s1.1.length) ()) fun (_ : Unit) =>
    some (.next (x31,(IntKind.i64.wrap (s1.2.1 - s1.2.2)),s1.2.2)))
    (af (ci s1.1 (IntKind.i64.wrap (m - s1.2.1)) (IntKind.i64.wrap ((IntKind.i64.wrap (m + s1.2.2)) - s1.2.1)) s1.2.1 cmp) fun x46 =>
    af (eO (x46.length = s1.1.length) ()) fun (_ : Unit) =>
    some (.next (x46,s1.2.1,(IntKind.i64.wrap (s1.2.2 - s1.2.1))))))
   (some (.brk (s1.1,s1.2.1,s1.2.2)))) (data,(IntKind.i64.wrap (m - a)),(IntKind.i64.wrap (b - m)))) fun fl1=>fl1.thenP fun (s1 : Rz × Int × Int) =>
 af (ci s1.1 (IntKind.i64.wrap (m - s1.2.1)) m s1.2.1 cmp) fun x57 =>
 af (eO (x57.length = s1.1.length) ()) fun (_ : Unit) =>
 some x57
theorem mW (g_data : OwnRef) {g_cmp : FuncId} {caps_cmp : List PV} (data : Rz) (a : Int) (m : Int) (b : Int) (cmp : Rq → Rq → Option (Int)) (hg_cmp : ∀ (vs : Array Value) (w : World),(callFunc g_cmp vs).run Tryz.prog w = .ok (.enter g_cmp vs) w) (hp_cmp : ∀ a0 a1 r,cmp a0 a1 = some r → aI Tryz.prog g_cmp ((.list 39 (a0.map ae)) :: (.list 39 (a1.map ae)) :: caps_cmp) (am r)) (r : Rz) (H : dc data a m b cmp = some r) :
  PH Tryz.prog 231 [(.own 0 g_data (data.map (al 39 ae)).length),(am a),(am m),(am b),(.fn g_cmp caps_cmp)] ⟨fun _=>none,upd (fun _=>none) 0 (some ⟨g_data,61,(data.map (al 39 ae)),true⟩)⟩ (fun u H=>u = (.tup []) ∧ H = ⟨fun _=>none,upd (fun _=>none) 0 (some ⟨g_data,61,(r.map (al 39 ae)),true⟩)⟩) := by
 unfold dc at H
 refine PH.au Tryz.func231 Tryz.ntmps231 ?_
 refine ao 4 tk rfl (ao 4 tk rfl (ab ?_))
 obtain ⟨fl1,H1,Hp1⟩ := ax H
 refine fj (τ := Rz × Int × Int) (γ := Unit) (fun s1 g1=>⟨58,upd (upd (upd (upd (fun _=>.any) 10 (am s1.2.1)) 4 (.fn g_cmp caps_cmp)) 2 (am m)) 0 (.own 0 g_data (s1.1.map (al 39 ae)).length),fun _=>none,upd (fun _=>none) 0 (some ⟨g_data,61,(s1.1.map (al 39 ae)),true⟩)⟩) (fun t=>fl1 = .next t) ?_ (fun s1 g1 hn1=>?_)
 ·refine av ?_
  refine gR (fun s1 g1=>⟨58,upd (upd (upd (upd (upd (fun _=>.any) 11 (am s1.2.2)) 10 (am s1.2.1)) 4 (.fn g_cmp caps_cmp)) 2 (am m)) 0 (.own 0 g_data (s1.1.map (al 39 ae)).length),fun _=>none,upd (fun _=>none) 0 (some ⟨g_data,61,(s1.1.map (al 39 ae)),true⟩)⟩) () H1 Gh.d (fun m1 s1 g1 hr1=>?_)
  obtain ⟨fb1,H,hg1⟩ := fD hr1
  refine ab (ao 3 tk rfl ?_)
  refine aH rfl H (fun H=>?_) (fun H=>?_)
  ·refine ap (av (ao 3 tk rfl ?_))
   refine aH rfl H (fun H=>?_) (fun H=>?_)
   ·refine ab (aa (ag 7 tk rfl ?_))
    obtain ⟨x31,h31,H⟩ := ax H
    have s31 := gn g_data s1.1 (IntKind.i64.wrap (m - s1.2.1)) m s1.2.2 cmp hg_cmp hp_cmp _ h31
    obtain ⟨_,q31_0,H⟩ := ax H
    have l31_0 := (de q31_0).1
    have z31_0 : (List.map (al 39 ae) s1.1).length = (List.map (al 39 ae) x31).length := by simpa using (l31_0).symm
    refine eF (g := 241) rfl rfl rfl Tryz.call241 [] [(0,0)] rfl rfl rfl rfl (jx.of2 (iK.cons (oG.own rfl) (iK.cons (oG.of_eq rfl) (iK.cons (oG.of_eq rfl) (iK.cons (oG.of_eq rfl) (iK.cons (oG.of_eq rfl) iK.nil)))))) (by rw [dR,cY,dN]; rfl) s31 ?_
    rintro u31 H31h ⟨rfl,rfl⟩
    refine ⟨_,rfl,?_⟩
    refine cV (st' := ⟨_,_,fun _=>none,upd (fun _=>none) 0 (some ⟨g_data,61,(x31.map (al 39 ae)),true⟩)⟩) (Gh.le (cw _ _) aM (bu aL)) ?_
    refine ac (aX 4 tk rfl (aF ?_))
    obtain rfl := aA H
    refine eu (x31,(IntKind.i64.wrap (s1.2.1 - s1.2.2)),s1.2.2) () hg1 (Gh.le (bC (PLe.of2 (oG.of_eq (congrArg (PV.own 0 g_data) z31_0))) (aw (aw (aw (aw aY))))) aM (bu aL))
   refine ab (aa (ag 11 tk rfl ?_))
   obtain ⟨x46,h46,H⟩ := ax H
   have s46 := gn g_data s1.1 (IntKind.i64.wrap (m - s1.2.1)) (IntKind.i64.wrap ((IntKind.i64.wrap (m + s1.2.2)) - s1.2.1)) s1.2.1 cmp hg_cmp hp_cmp _ h46
   obtain ⟨_,q46_0,H⟩ := ax H
   have l46_0 := (de q46_0).1
   have z46_0 : (List.map (al 39 ae) s1.1).length = (List.map (al 39 ae) x46).length := by simpa using (l46_0).symm
   refine eF (g := 241) rfl rfl rfl Tryz.call241 [] [(0,0)] rfl rfl rfl rfl (jx.of2 (iK.cons (oG.own rfl) (iK.cons (oG.of_eq rfl) (iK.cons (oG.of_eq rfl) (iK.cons (oG.of_eq rfl) (iK.cons (oG.of_eq rfl) iK.nil)))))) (by rw [dR,cY,dN]; rfl) s46 ?_
   rintro u46 H46h ⟨rfl,rfl⟩
   refine ⟨_,rfl,?_⟩
   refine cV (st' := ⟨_,_,fun _=>none,upd (fun _=>none) 0 (some ⟨g_data,61,(x46.map (al 39 ae)),true⟩)⟩) (Gh.le (cw _ _) aM (bu aL)) ?_
   refine ac (aX 4 tk rfl (aF ?_))
   obtain rfl := aA H
   refine eu (x46,s1.2.1,(IntKind.i64.wrap (s1.2.2 - s1.2.1))) () hg1 (Gh.le (bC (PLe.of2 (oG.of_eq (congrArg (PV.own 0 g_data) z46_0))) (aw (aw (aw (aw aY))))) aM (bu aL))
  refine bh rfl ?_
  obtain rfl := aA H
  refine aR (s1.1,s1.2.1,s1.2.2) () hg1 Gh.d
 have H := cP hn1 Hp1
 refine aa (ag 7 tk rfl ?_)
 obtain ⟨x57,h57,H⟩ := ax H
 have s57 := gn g_data s1.1 (IntKind.i64.wrap (m - s1.2.1)) m s1.2.1 cmp hg_cmp hp_cmp _ h57
 obtain ⟨_,q57_0,H⟩ := ax H
 have l57_0 := (de q57_0).1
 have z57_0 : (List.map (al 39 ae) s1.1).length = (List.map (al 39 ae) x57).length := by simpa using (l57_0).symm
 refine eF (g := 241) rfl rfl rfl Tryz.call241 [] [(0,0)] rfl rfl rfl rfl (jx.of2 (iK.cons (oG.own rfl) (iK.cons (oG.of_eq rfl) (iK.cons (oG.of_eq rfl) (iK.cons (oG.of_eq rfl) (iK.cons (oG.of_eq rfl) iK.nil)))))) (by rw [dR,cY,dN]; rfl) s57 ?_
 rintro u57 H57h ⟨rfl,rfl⟩
 refine ⟨_,rfl,?_⟩
 refine cV (st' := ⟨_,_,fun _=>none,upd (fun _=>none) 0 (some ⟨g_data,61,(x57.map (al 39 ae)),true⟩)⟩) (Gh.le (cw _ _) aM (bu aL)) ?_
 refine ac ?_
 obtain rfl := aA H
 refine gS (st' := ⟨58,fun _=>.any,fun _=>none,upd (fun _=>none) 0 (some ⟨g_data,61,(x57.map (al 39 ae)),true⟩)⟩) (Gh.le aY aM (bu aL)) ?_
 refine mz rfl (PLe.q rfl) ⟨rfl,rfl⟩
def bP (sA : Rz) (f : Rq → Option (Bool)) : Option (Bool) :=
 af (da sA f) fun x7 =>
 some (decide (x7 ≥ (0 : Int)))
theorem ip {g_f : FuncId} {caps_f : List PV} (sA : Rz) (f : Rq → Option (Bool)) (hg_f : ∀ (vs : Array Value) (w : World),(callFunc g_f vs).run Tryz.prog w = .ok (.enter g_f vs) w) (hp_f : ∀ a0 r,f a0 = some r → aI Tryz.prog g_f ((.list 39 (a0.map ae)) :: caps_f) (aC r)) (r : Bool) (H : bP sA f = some r) :
  aI Tryz.prog 50 [(.list 61 (sA.map (al 39 ae))),(.fn g_f caps_f)] (aC r) := by
 unfold bP at H
 refine PH.au Tryz.func50 Tryz.ntmps50 ?_
 refine ao 1 tk rfl (ab (aa (ag 2 tk rfl ?_)))
 obtain ⟨x7,h7,H⟩ := ax H
 have s7 := lC sA f hg_f hp_f _ h7
 refine ak Tryz.call83 (jx.r) s7 ?_
 refine ag 2 tk rfl (ac ?_)
 exact aW tk H rfl
theorem gY (xs : Rz) (q : Rq → Bool) : bP xs (fun a=>some (q a)) = some (xs.any q) := by
 unfold bP
 rw [kX,bPs,iz]
def gq (x : Rq) (y : Rq) : Option (Bool) :=
 af (cr x y) fun x7 =>
 some x7
theorem qu (x : Rq) (y : Rq) (r : Bool) (H : gq x y = some r) :
  aI Tryz.prog 28 [(.list 39 (x.map ae)),(.list 39 (y.map ae))] (aC r) := by
 unfold gq at H
 refine PH.au Tryz.func28 Tryz.ntmps28 ?_
 refine ao 1 tk rfl (ab (aa (ag 2 tk rfl ?_)))
 obtain ⟨x7,h7,H⟩ := ax H
 have s7 := gA x y _ h7
 refine ak Tryz.call29 (jx.r) s7 ?_
 refine ah tk rfl (ac ?_)
 exact aW tk H rfl
def ft (t : LTable) : Option (Int) :=
 af (fJ t.name) fun x11 =>
 cond (!x11)
  (some 23)
  (cond ((t.columns.length : Int) == (0 : Int))
   (some 3)
   (cond (decide ((t.columns.length : Int) > (6 : Int)))
    (some 2)
    (af (aE (σ := Unit) (ρ := (Int)) (fun (j1 : Nat) (x1 : LCol) (_ : Unit) =>
     af (fJ x1.name) fun x31 =>
     cond (!x31)
      (some (.ret 23))
      (af (fZ t x1.name) fun x37 =>
      cond (decide (x37.1 < (j1 : Int)))
       (some (.ret 5))
       (cond (decide (x1.kind < (1 : Int)))
        (some (.ret 7))
        (cond (decide (x1.kind > (3 : Int)))
         (some (.ret 7))
         (some (.next ())))))) 0 t.columns ()) fun fl1=>fl1.thenR fun (_ : Unit) =>
    af (aE (σ := Unit) (ρ := (Int)) (fun (j2 : Nat) (x2 : Int) (_ : Unit) =>
     cond (decide (x2 < (0 : Int)))
      (some (.ret 9))
      (cond (decide (x2 ≥ (t.columns.length : Int)))
       (some (.ret 9))
       (af (aJ t.columns x2) fun (x73 : LCol) =>
       cond x73.nullable
        (some (.ret 9))
        (cond (decide ((j2 : Int) > (0 : Int)))
         (af (aJ t.primaryKey (IntKind.i64.wrap ((j2 : Int) - (1 : Int)))) fun (x86 : Int) =>
         cond (decide (x2 ≤ x86))
          (some (.ret 9))
          (some (.next ())))
         (some (.next ())))))) 0 t.primaryKey ()) fun fl2=>fl2.thenR fun (_ : Unit) =>
    cond ((t.primaryKey.length : Int) == (0 : Int))
     (some 9)
     (some 0))))
theorem qw (t : LTable) (r : Int) (H : ft t = some r) :
  aI Tryz.prog 71 [(.agg (cD t))] (am r) := by
 unfold ft at H
 refine PH.au Tryz.func71 Tryz.ntmps71 ?_
 refine ab (aa (aD ?_))
 refine ah tk rfl (ac (ab (ab (aa (ag 2 tk rfl ?_)))))
 obtain ⟨x11,h11,H⟩ := ax H
 have s11 := oB t.name _ h11
 refine ak Tryz.call122 (jx.r) s11 ?_
 refine ah tk rfl (ac ?_)
 refine aH rfl H (fun H=>?_) (fun H=>?_)
 ·refine ao 1 tk rfl ?_
  exact aW tk H rfl
 refine ap (ab (ab (aa (ag 2 tk rfl (az tk (zl _) ?_)))))
 refine ah tk rfl (ac ?_)
 refine aH rfl H (fun H=>?_) (fun H=>?_)
 ·refine ao 1 tk rfl ?_
  exact aW tk H rfl
 refine ap (ab (ab (aa (ag 2 tk rfl (az tk (zl _) ?_)))))
 refine ah tk rfl (ac ?_)
 refine aH rfl H (fun H=>?_) (fun H=>?_)
 ·refine ao 1 tk rfl ?_
  exact aW tk H rfl
 refine ap (ab (ab (aa (ag 2 tk rfl (az tk (zl _) ?_)))))
 refine ah tk rfl (ac ?_)
 refine fm tk 24 23 22 (fun s1 g1=>upd (fun _=>.any) 1 (.ptr (cD t))) nB nO () H (fun fl1 Hp1 j1 s1 g1 hz1 hl1 x1 fb1 hx1 H hg1=>?_) (fun s1 g1 H=>?_)
 ·refine ab (av (ab (aa (ah tk rfl ?_))))
  refine aQ tk (zn j1) (bj (fun _=>rfl) hx1) ?_
  refine ah tk rfl ?_
  refine ba tk fun b4=>?_
  refine ah tk rfl (aq tk ?_)
  refine ac (ab (ab (aa (ah tk rfl (aB tk ?_)))))
  obtain ⟨x31,h31,H⟩ := ax H
  have s31 := oB x1.name _ h31
  refine ak Tryz.call122 (jx.r) s31 ?_
  refine ah tk rfl (ac ?_)
  refine aH rfl H (fun H=>?_) (fun H=>?_)
  ·refine ao 1 tk rfl ?_
   obtain rfl := aA H
   have e1 : fl1 = .ret _ := hg1
   subst e1
   obtain rfl := aT Hp1
   refine bc tk rfl (ps := [(am 23)]) ⟨_,_,rfl,rfl,rfl⟩ (PLe.q rfl)
  refine ap (ab (ab (aa (ag 2 tk rfl (aB tk ?_)))))
  obtain ⟨x37,h37,H⟩ := ax H
  have s37 := so t x1.name _ h37
  refine ak Tryz.call123 (jx.r) s37 ?_
  refine ag 5 tk rfl (ac (ao 3 tk rfl ?_))
  refine aH rfl H (fun H=>?_) (fun H=>?_)
  ·refine ao 1 tk rfl ?_
   obtain rfl := aA H
   have e1 : fl1 = .ret _ := hg1
   subst e1
   obtain rfl := aT Hp1
   refine bc tk rfl (ps := [(am 5)]) ⟨_,_,rfl,rfl,rfl⟩ (PLe.q rfl)
  refine ap (ab (aa (ah tk rfl (aB tk ?_))))
  refine ag 2 tk rfl ?_
  refine bf rfl rfl rfl H (fun H=>?_) (fun H=>?_)
  ·refine ag 4 tk rfl (ac (bL rfl (ao 1 tk rfl ?_)))
   obtain rfl := aA H
   have e1 : fl1 = .ret _ := hg1
   subst e1
   obtain rfl := aT Hp1
   refine bc tk rfl (ps := [(am 7)]) ⟨_,_,rfl,rfl,rfl⟩ (PLe.q rfl)
  refine ah tk rfl (aB tk ?_)
  refine ag 2 tk rfl (ac ?_)
  refine aH rfl H (fun H=>?_) (fun H=>?_)
  ·refine ao 1 tk rfl ?_
   obtain rfl := aA H
   have e1 : fl1 = .ret _ := hg1
   subst e1
   obtain rfl := aT Hp1
   refine bc tk rfl (ps := [(am 7)]) ⟨_,_,rfl,rfl,rfl⟩ (PLe.q rfl)
  refine ap (aF (aX 2 tk rfl ?_))
  exact bi () H hl1 hg1
 refine ab (ab (aa (ag 2 tk rfl (az tk (zl _) ?_))))
 refine ah tk rfl (ac ?_)
 refine fm tk 55 54 53 (fun s2 g2=>upd (fun _=>.any) 1 (.ptr (cD t))) nB nO () H (fun fl2 Hp2 j2 s2 g2 hz2 hl2 x2 fb2 hx2 H hg2=>?_) (fun s2 g2 H=>?_)
 ·refine ab (av (ab (aa (ah tk rfl ?_))))
  refine aQ tk (zn j2) (bj (fun _=>rfl) hx2) ?_
  refine ag 3 tk rfl (ac (ab (aa (ag 3 tk rfl ?_))))
  refine bf rfl rfl rfl H (fun H=>?_) (fun H=>?_)
  ·refine ag 28 tk rfl (ac (bL rfl (ao 1 tk rfl ?_)))
   obtain rfl := aA H
   have e2 : fl2 = .ret _ := hg2
   subst e2
   obtain rfl := aT Hp2
   refine bc tk rfl (ps := [(am 9)]) ⟨_,_,rfl,rfl,rfl⟩ (PLe.q rfl)
  refine ag 3 tk rfl (az tk (zl _) ?_)
  refine ag 3 tk rfl ?_
  refine bf rfl rfl rfl H (fun H=>?_) (fun H=>?_)
  ·refine ag 21 tk rfl (ac (bL rfl (ao 1 tk rfl ?_)))
   obtain rfl := aA H
   have e2 : fl2 = .ret _ := hg2
   subst e2
   obtain rfl := aT Hp2
   refine bc tk rfl (ps := [(am 9)]) ⟨_,_,rfl,rfl,rfl⟩ (PLe.q rfl)
  refine ag 3 tk rfl ?_
  obtain ⟨x73,k73,H⟩ := bt H
  refine aQ tk k73.1 (aO (fun _=>rfl) k73.2) ?_
  refine ag 4 tk rfl ?_
  refine bf rfl rfl rfl H (fun H=>?_) (fun H=>?_)
  ·refine ag 13 tk rfl (ac (bL rfl (ao 1 tk rfl ?_)))
   obtain rfl := aA H
   have e2 : fl2 = .ret _ := hg2
   subst e2
   obtain rfl := aT Hp2
   refine bc tk rfl (ps := [(am 9)]) ⟨_,_,rfl,rfl,rfl⟩ (PLe.q rfl)
  refine ag 3 tk rfl ?_
  refine bf rfl rfl rfl H (fun H=>?_) (fun H=>?_)
  ·refine ag 5 tk rfl ?_
   obtain ⟨x86,k86,H⟩ := bt H
   refine aQ tk k86.1 (aO (fun _=>rfl) k86.2) ?_
   refine ag 4 tk rfl (ac ?_)
   refine aH rfl H (fun H=>?_) (fun H=>?_)
   ·refine ao 1 tk rfl ?_
    obtain rfl := aA H
    have e2 : fl2 = .ret _ := hg2
    subst e2
    obtain rfl := aT Hp2
    refine bc tk rfl (ps := [(am 9)]) ⟨_,_,rfl,rfl,rfl⟩ (PLe.q rfl)
   refine ap (aF (aX 2 tk rfl ?_))
   exact bi () H hl2 hg2
  refine ag 10 tk rfl (ac (bB rfl (ap (aF (aX 2 tk rfl ?_)))))
  exact bi () H hl2 hg2
 refine ab (ab (aa (ag 2 tk rfl (az tk (zl _) ?_))))
 refine ah tk rfl (ac ?_)
 refine aH rfl H (fun H=>?_) (fun H=>?_)
 ·refine ao 1 tk rfl ?_
  exact aW tk H rfl
 refine ap (ao 1 tk rfl ?_)
 exact aW tk H rfl
def eM (sA : LSchema) (fk : LForeignKey) : Option (Int) :=
 af (fL sA fk.table) fun x17 =>
 af (fL sA fk.refTable) fun x24 =>
 bp (
  cond (!x17.2)
   (true)
   ((!x24.2))) fun (t1 : Bool) =>
 cond t1
  (some 4)
  (af (aJ sA.tables x17.1) fun (x36 : LTable) =>
  af (aJ sA.tables x24.1) fun (x41 : LTable) =>
  cond ((fk.columns.length : Int) != (x41.primaryKey.length : Int))
   (some 3)
   (af (aE (σ := Unit) (ρ := (Int)) (fun (j2 : Nat) (x2 : Int) (_ : Unit) =>
    bp (
     cond (decide (x2 < (0 : Int)))
      (true)
      ((decide (x2 ≥ (x36.columns.length : Int))))) fun (t4 : Bool) =>
    cond t4
     (some (.ret 3))
     (af (aJ x36.columns x2) fun (x70 : LCol) =>
     af (aJ x41.primaryKey (j2 : Int)) fun (x78 : Int) =>
     af (aJ x41.columns x78) fun (x80 : LCol) =>
     cond (x70.kind != x80.kind)
      (some (.ret 7))
      (some (.next ())))) 0 fk.columns ()) fun fl2=>fl2.thenR fun (_ : Unit) =>
   some 0))
theorem nW (sA : LSchema) (fk : LForeignKey) (r : Int) (H : eM sA fk = some r) :
  aI Tryz.prog 72 [(.agg (bW sA)),(.agg (jL fk))] (am r) := by
 unfold eM at H
 refine PH.au Tryz.func72 Tryz.ntmps72 ?_
 refine ab (aa (aD ?_))
 refine aD ?_
 refine ah tk rfl (ac (ab (aa (ag 3 tk rfl ?_))))
 obtain ⟨x17,h17,H⟩ := ax H
 have s17 := kZ sA fk.table _ h17
 refine ak Tryz.call124 (jx.r) s17 ?_
 refine ag 5 tk rfl (ac (ab (aa (ag 3 tk rfl ?_))))
 obtain ⟨x24,h24,H⟩ := ax H
 have s24 := kZ sA fk.refTable _ h24
 refine ak Tryz.call124 (jx.r) s24 ?_
 refine ag 5 tk rfl (ac (ab (ab ?_)))
 refine eQ (γ := Unit) (fun t1 g1=>⟨85,upd (upd (upd (upd (upd (fun _=>.any) 32 (aC t1)) 7 (am x24.1)) 5 (am x17.1)) 3 (.ptr (jL fk))) 2 (.ptr (bW sA)),fun _=>none,fun _=>none⟩) H (fun _ H=>?_) (fun t1 g1 H=>?_)
 ·refine aa (ag 3 tk rfl ?_)
  refine bf rfl rfl rfl H (fun H=>?_) (fun H=>?_)
  ·refine ag 3 tk rfl (ac ?_)
   refine aR _ () H Gh.d
  refine ag 3 tk rfl (ac ?_)
  refine aR _ () H Gh.d
 refine aH rfl H (fun H=>?_) (fun H=>?_)
 ·refine ao 1 tk rfl ?_
  exact aW tk H rfl
 refine ap (ab (bw tk mok ⟨false,false,[]⟩ [0,1,2,3,4,5,6,7,8,9,10,11,12,13] rfl (by decide +kernel) rfl (aU 3 rfl ?_)))
 obtain ⟨x36,k36,H⟩ := bt H
 refine bJ k36.1 (aO (fun _=>rfl) k36.2) ?_
 refine aU 4 rfl ?_
 obtain ⟨x41,k41,H⟩ := bt H
 refine bJ k41.1 (aO (fun _=>rfl) k41.2) ?_
 refine bT rfl ?_
 refine rQ rfl rfl rfl rfl rfl rfl rfl rfl fun b9=>?_
 refine rQ rfl rfl rfl rfl rfl rfl rfl rfl fun b10=>?_
 refine ff ?_
 refine ff ?_
 refine br (ab (ab (aa (ag 2 tk rfl (az tk (zl _) ?_)))))
 refine ah tk rfl (aB tk ?_)
 refine az tk (zl _) ?_
 refine ah tk rfl (ac ?_)
 refine aH rfl H (fun H=>?_) (fun H=>?_)
 ·refine ao 1 tk rfl ?_
  exact aW tk H rfl
 refine ap (ab (ab (aa (ag 2 tk rfl (az tk (zl _) ?_)))))
 refine ah tk rfl (ac ?_)
 obtain ⟨fl2,H2,Hp2⟩ := ax H
 refine gm tk 51 rfl rfl (fun hz2 _=>?_)
 rw [zl] at hz2
 refine fj (τ := Unit) (γ := Unit) (fun s2 g2=>⟨85,fun _=>.any,fun _=>none,fun _=>none⟩) (fun t=>fl2 = .next t) ?_ (fun s2 g2 hn2=>?_)
 ·refine av ?_
  refine hJ (fun j2 s2 g2=>⟨85,upd (upd (upd (upd (upd (fun _=>.any) 53 (am (j2 : Int))) 52 (am (fk.columns.length : Int))) 51 (.list 3 (fk.columns.map bG))) 10 (.box 10 b10 0)) 9 (.box 9 b9 0),upd (upd (fun _=>none) 10 (some ⟨b10,(cD x41)⟩)) 9 (some ⟨b9,(cD x36)⟩),fun _=>none⟩) () H2 Gh.d (fun j2 s2 g2 hj2 hr2=>?_)
  refine ao 1 tk rfl (ab ?_)
  refine bg rfl (fun h=>?_) (fun h=>?_)
  ·have hl2 := mZ h
   obtain ⟨x2,fb2,hx2,H,hg2⟩ := rMc hl2 hr2
   refine ap (ab (av (ab (aa (ah tk rfl ?_)))))
   refine aQ tk (zn j2) (bj (fun _=>rfl) hx2) ?_
   refine ag 3 tk rfl (ac (ab (ab ?_)))
   refine eQ (γ := Unit) (fun t4 g4=>⟨85,upd (upd (upd (upd (upd (upd (upd (upd (fun _=>.any) 66 (aC t4)) 53 (am (j2 : Int))) 52 (am (fk.columns.length : Int))) 51 (.list 3 (fk.columns.map bG))) 12 (am x2)) 11 (am (j2 : Int))) 10 (.box 10 b10 0)) 9 (.box 9 b9 0),upd (upd (fun _=>none) 10 (some ⟨b10,(cD x41)⟩)) 9 (some ⟨b9,(cD x36)⟩),fun _=>none⟩) H (fun _ H=>?_) (fun t4 g4 H=>?_)
   ·refine aa (ag 3 tk rfl ?_)
    refine bf rfl rfl rfl H (fun H=>?_) (fun H=>?_)
    ·refine ag 6 tk rfl (ac ?_)
     refine aR _ () H Gh.d
    refine ag 2 tk rfl (aB tk ?_)
    refine az tk (zl _) ?_
    refine ag 2 tk rfl (ac ?_)
    refine aR _ () H Gh.d
   refine aH rfl H (fun H=>?_) (fun H=>?_)
   ·refine ao 1 tk rfl ?_
    obtain rfl := aA H
    have e2 : fl2 = .ret _ := hg2
    subst e2
    obtain rfl := aT Hp2
    refine bc tk rfl (ps := [(am 3)]) ⟨_,_,rfl,rfl,rfl⟩ (PLe.q rfl)
   refine ap (ab (bw tk mok ⟨true,false,[72,79,82]⟩ [0,1,2,3,4,5,6,7,8,9,10,11,12,13,14,15,16] rfl (by decide +kernel) rfl (bT rfl (cu ?_))))
   refine bT rfl ?_
   obtain ⟨x70,k70,H⟩ := bt H
   refine bJ k70.1 (aO (fun _=>rfl) k70.2) ?_
   refine aU 3 rfl (cu ?_)
   refine bT rfl (cu ?_)
   refine bT rfl ?_
   obtain ⟨x78,k78,H⟩ := bt H
   refine bJ k78.1 (aO (fun _=>rfl) k78.2) ?_
   refine bT rfl ?_
   obtain ⟨x80,k80,H⟩ := bt H
   refine bJ k80.1 (aO (fun _=>rfl) k80.2) ?_
   refine aU 3 rfl (br ?_)
   refine aH rfl H (fun H=>?_) (fun H=>?_)
   ·refine ao 1 tk rfl ?_
    obtain rfl := aA H
    have e2 : fl2 = .ret _ := hg2
    subst e2
    obtain rfl := aT Hp2
    refine bc tk rfl (ps := [(am 7)]) ⟨_,_,rfl,rfl,rfl⟩ (PLe.q rfl)
   refine ap (aF (aX 2 tk rfl ?_))
   exact bi () H hl2 hg2
  have hn2 := rMd (mS h) hr2
  refine bh rfl ?_
  refine aR s2 g2 hn2 Gh.d
 have H := pg hn2 Hp2
 refine ao 1 tk rfl ?_
 exact aW tk H rfl
def gg (other : LForeignKey) (c0 : LForeignKey) : Option (Bool) :=
 af (gM other c0) fun x6 =>
 some x6
theorem sm (other : LForeignKey) (c0 : LForeignKey) (r : Bool) (H : gg other c0 = some r) :
  aI Tryz.prog 74 [(.agg (jL other)),(.ptr (jL c0))] (aC r) := by
 unfold gg at H
 refine PH.au Tryz.func74 Tryz.ntmps74 ?_
 refine ab (aa (aD ?_))
 refine ah tk rfl (ac (ab (aa (ag 2 tk rfl ?_))))
 obtain ⟨x6,h6,H⟩ := ax H
 have s6 := oP other c0 _ h6
 refine ak Tryz.call75 (jx.r) s6 ?_
 refine ah tk rfl (ac ?_)
 exact aW tk H rfl
def jK (a : LVal) (b : LVal) : Int :=
 bp (gk a.kind b.kind) fun x11 =>
 cond (x11 != (0 : Int))
  (x11)
  (bp (gk a.int b.int) fun x19 =>
  cond (x19 != (0 : Int))
   (x19)
   (bp (jY a.text b.text) fun x27 =>
   x27))
theorem ql (a : LVal) (b : LVal) :
  aI Tryz.prog 79 [(.agg (ae a)),(.agg (ae b))] (am (jK a b)) := by
 obtain ⟨r,H⟩ : ∃ r,jK a b = r := ⟨_,rfl⟩
 rw [H]
 unfold jK at H
 refine PH.au Tryz.func79 Tryz.ntmps79 ?_
 refine ab (aa (aD ?_))
 refine aD ?_
 refine ah tk rfl (ac (ab (ab (aa (ag 4 tk rfl ?_)))))
 obtain ⟨x11,h11,H⟩ := cL H
 have s11 := kQ a.kind b.kind
 rw [h11] at s11
 refine ak Tryz.call80 (jx.r) s11 ?_
 refine ah tk rfl (ac (ao 2 tk rfl ?_))
 refine aH rfl H (fun H=>?_) (fun H=>?_)
 ·refine ao 2 tk rfl ?_
  exact dT tk H rfl
 refine ap (ab (ab (aa (ag 4 tk rfl ?_))))
 obtain ⟨x19,h19,H⟩ := cL H
 have s19 := kQ a.int b.int
 rw [h19] at s19
 refine ak Tryz.call80 (jx.r) s19 ?_
 refine ah tk rfl (ac (ao 2 tk rfl ?_))
 refine aH rfl H (fun H=>?_) (fun H=>?_)
 ·refine ao 2 tk rfl ?_
  exact dT tk H rfl
 refine ap (ab (aa (ag 4 tk rfl ?_)))
 obtain ⟨x27,h27,H⟩ := cL H
 have s27 := tD a.text b.text
 rw [h27] at s27
 refine ak Tryz.call129 (jx.r) s27 ?_
 refine ah tk rfl (ac ?_)
 exact dT tk H rfl
def cZ (kinds : List Int) (c0 : LQuery) : Option (Bool) :=
 af (fe kinds c0.kind) fun x7 =>
 some x7
theorem fA (kinds : List Int) (c0 : LQuery) (r : Bool) (H : cZ kinds c0 = some r) :
  aI Tryz.prog 183 [(.list 3 (kinds.map bG)),(.ptr (aG c0))] (aC r) := by
 unfold cZ at H
 refine PH.au Tryz.func183 Tryz.ntmps183 ?_
 refine ao 1 tk rfl (ab (aa (ag 3 tk rfl ?_)))
 obtain ⟨x7,h7,H⟩ := ax H
 have s7 := oI kinds c0.kind _ h7
 refine ak Tryz.call184 (jx.r) s7 ?_
 refine ah tk rfl (ac ?_)
 exact aW tk H rfl
def fw (q : LQuery) (args : Rq) : Option (Int) :=
 af (fp q) fun x11 =>
 cond (x11.2 != (0 : Int))
  (some x11.2)
  (cond (decide ((args.length : Int) < (x11.1.length : Int)))
   (some 1)
   (af (aE (σ := Unit) (ρ := (Int)) (fun (j1 : Nat) (x1 : Int) (_ : Unit) =>
    af (aJ args (j1 : Int)) fun (x31 : LVal) =>
    bp (eG x31) fun x33 =>
    cond (!x33)
     (some (.ret 7))
     (cond (x1 != (0 : Int))
      (af (aJ args (j1 : Int)) fun (x41 : LVal) =>
      cond (x41.kind != x1)
       (af (aJ args (j1 : Int)) fun (x50 : LVal) =>
       cond (x50.kind != (0 : Int))
        (some (.ret 7))
        (some (.next ())))
       (some (.next ())))
      (some (.next ())))) 0 x11.1 ()) fun fl1=>fl1.thenR fun (_ : Unit) =>
   some 0))
theorem lH (q : LQuery) (args : Rq) (r : Int) (H : fw q args = some r) :
  aI Tryz.prog 21 [(.agg (aG q)),(.list 39 (args.map ae))] (am r) := by
 unfold fw at H
 refine PH.au Tryz.func21 Tryz.ntmps21 ?_
 refine ab (aa (aD ?_))
 refine ah tk rfl (ac (ab (aa (ah tk rfl ?_))))
 obtain ⟨x11,h11,H⟩ := ax H
 have s11 := lI q _ h11
 refine ak Tryz.call48 (jx.r) s11 ?_
 refine ag 5 tk rfl (ac (ab (ao 2 tk rfl ?_)))
 refine aH rfl H (fun H=>?_) (fun H=>?_)
 ·refine ao 2 tk rfl ?_
  exact aW tk H rfl
 refine ap (ab (ab (aa (ah tk rfl (az tk (zl _) ?_)))))
 refine ah tk rfl (az tk (zl _) ?_)
 refine ah tk rfl (ac ?_)
 refine aH rfl H (fun H=>?_) (fun H=>?_)
 ·refine ao 1 tk rfl ?_
  exact aW tk H rfl
 refine ap (ab (ab (aa (ah tk rfl (az tk (zl _) ?_)))))
 refine ah tk rfl (ac ?_)
 refine fm tk 24 23 22 (fun s1 g1=>upd (fun _=>.any) 1 (.list 39 (args.map ae))) nB nO () H (fun fl1 Hp1 j1 s1 g1 hz1 hl1 x1 fb1 hx1 H hg1=>?_) (fun s1 g1 H=>?_)
 ·refine ab (av (ab (aa (ah tk rfl ?_))))
  refine aQ tk (zn j1) (bj (fun _=>rfl) hx1) ?_
  refine ag 3 tk rfl (ac (ab (aa (ag 2 tk rfl ?_))))
  obtain ⟨x31,k31,H⟩ := bt H
  refine aQ tk k31.1 (aO (fun _=>rfl) k31.2) ?_
  refine ah tk rfl ?_
  obtain ⟨x33,h33,H⟩ := cL H
  have s33 := tN x31
  rw [h33] at s33
  refine ak Tryz.call49 (jx.r) s33 ?_
  refine ag 2 tk rfl ?_
  refine bf rfl rfl rfl H (fun H=>?_) (fun H=>?_)
  ·refine ag 20 tk rfl (ac (bL rfl (ao 1 tk rfl ?_)))
   obtain rfl := aA H
   have e1 : fl1 = .ret _ := hg1
   subst e1
   obtain rfl := aT Hp1
   refine bc tk rfl (ps := [(am 7)]) ⟨_,_,rfl,rfl,rfl⟩ (PLe.q rfl)
  refine ag 3 tk rfl ?_
  refine bf rfl rfl rfl H (fun H=>?_) (fun H=>?_)
  ·refine ag 2 tk rfl ?_
   obtain ⟨x41,k41,H⟩ := bt H
   refine aQ tk k41.1 (aO (fun _=>rfl) k41.2) ?_
   refine ag 6 tk rfl ?_
   refine bf rfl rfl rfl H (fun H=>?_) (fun H=>?_)
   ·refine ag 2 tk rfl ?_
    obtain ⟨x50,k50,H⟩ := bt H
    refine aQ tk k50.1 (aO (fun _=>rfl) k50.2) ?_
    refine ag 5 tk rfl (ac ?_)
    refine aH rfl H (fun H=>?_) (fun H=>?_)
    ·refine ao 1 tk rfl ?_
     obtain rfl := aA H
     have e1 : fl1 = .ret _ := hg1
     subst e1
     obtain rfl := aT Hp1
     refine bc tk rfl (ps := [(am 7)]) ⟨_,_,rfl,rfl,rfl⟩ (PLe.q rfl)
    refine ap (aF (aX 2 tk rfl ?_))
    exact bi () H hl1 hg1
   refine ag 8 tk rfl (ac (bB rfl (ap (aF (aX 2 tk rfl ?_)))))
   exact bi () H hl1 hg1
  refine ag 17 tk rfl (ac (bB rfl (ap (aF (aX 2 tk rfl ?_)))))
  exact bi () H hl1 hg1
 refine ao 1 tk rfl ?_
 exact aW tk H rfl
def ln (a : Rz) (b : Rz) : Option (Rz) :=
 af (aE (σ := Rz × Rz) (ρ := Empty) (fun (_ : Nat) (x1 : Rq) (s1 : Rz × Rz) =>
  af (bF s1.1 (fun a0=>jj a0 x1)) fun x20 =>
  af (eO (x20.2.length = s1.1.length) ()) fun (_ : Unit) =>
  cond (decide (x20.1 ≥ (0 : Int)))
   (af (delI x20.2 x20.1 (IntKind.i64.wrap (x20.1 + (1 : Int)))) fun x27 =>
   some (.next (x27,s1.2)))
   (af (dh 24 s1.2 ([x1] : Rz)) fun (x31 : Rz) =>
   some (.next (x20.2,x31)))) 0 a (b,[])) fun fl1=>fl1.thenP fun (s1 : Rz × Rz) =>
 some s1.2
theorem W_query_less (a : Rz) (b : Rz) (r : Rz) (H : ln a b = some r) :
  aI Tryz.prog 112 [(.list 61 (a.map (al 39 ae))),(.list 61 (b.map (al 39 ae)))] (.list 61 (r.map (al 39 ae))) := by
 unfold ln at H
 refine PH.au Tryz.func112 Tryz.ntmps112 ?_
 refine ao 1 tk rfl (ab (aa (ah tk rfl ?_)))
 have s11 := rc (m := 11) b
 refine ml (g := 33) rfl rfl rfl Tryz.call33 (jx.r) rfl rfl s11 (fun g11=>?_)
 refine ah tk rfl (ac (ao 1 tk rfl (ab (ab (aa (ah tk rfl (az tk (zl _) ?_)))))))
 refine ah tk rfl (ac ?_)
 obtain ⟨fl1,H1,Hp1⟩ := ax H
 refine gm tk 12 rfl rfl (fun hz1 _=>?_)
 rw [zl] at hz1
 refine fj (τ := Rz × Rz) (γ := OwnRef × OwnRef) (fun s1 g1=>⟨34,upd (fun _=>.any) 6 (.own 31 g1.2 (s1.2.map (al 39 ae)).length),fun _=>none,upd (fun _=>none) 31 (some ⟨g1.2,61,(s1.2.map (al 39 ae)),true⟩)⟩) (fun t=>fl1 = .next t) ?_ (fun s1 g1 hn1=>?_)
 ·refine av (iA tk 6 31 (e := 61) rfl rfl ?_)
  refine hJ (fun j1 s1 g1=>⟨34,upd (upd (upd (upd (upd (fun _=>.any) 14 (am (j1 : Int))) 13 (am (a.length : Int))) 12 (.list 61 (a.map (al 39 ae)))) 6 (.own 31 g1.2 (s1.2.map (al 39 ae)).length)) 5 (.own 11 g1.1 (s1.1.map (al 39 ae)).length),fun _=>none,upd (upd (fun _=>none) 31 (some ⟨g1.2,61,(s1.2.map (al 39 ae)),true⟩)) 11 (some ⟨g1.1,61,(s1.1.map (al 39 ae)),true⟩)⟩) (g11,⟨none,0⟩) H1 Gh.d (fun j1 s1 g1 hj1 hr1=>?_)
  refine ao 1 tk rfl (ab ?_)
  refine bg rfl (fun h=>?_) (fun h=>?_)
  ·have hl1 := mZ h
   obtain ⟨x1,fb1,hx1,H,hg1⟩ := rMc hl1 hr1
   refine ap (ab (av (ab (aa ?_))))
   refine aQ tk (zn j1) (bj (fun _=>rfl) hx1) ?_
   refine ah tk rfl ?_
   refine ba tk fun b8=>?_
   refine aq tk ?_
   refine ac (ab (ab (aa (ah tk rfl (cV (Gh.freezeB 8 rfl rfl rfl rfl) (ah tk rfl ?_))))))
   obtain ⟨x20,h20,H⟩ := ax H
   have s20 := fE g1.1 s1.1 (fun a0=>jj a0 x1) Tryz.call157 (fun a0 r h=>W_query_less_1 a0 x1 r h) _ h20
   obtain ⟨_,q20_0,H⟩ := ax H
   have l20_0 := (de q20_0).1
   have z20_0 : (List.map (al 39 ae) s1.1).length = (List.map (al 39 ae) x20.2).length := by simpa using (l20_0).symm
   refine eF (g := 83) rfl rfl rfl Tryz.call83 [] [(11,0)] rfl rfl rfl rfl (jx.of2 (iK.cons (oG.own rfl) (iK.cons (oG.of_eq rfl) iK.nil))) (by rw [dR,cY,dN]; rfl) s20 ?_
   rintro u20 H20h ⟨rfl,rfl⟩
   refine ⟨_,rfl,?_⟩
   refine cV (st' := ⟨_,_,fun _=>none,upd (upd (fun _=>none) 31 (some ⟨g1.2,61,(s1.2.map (al 39 ae)),true⟩)) 11 (some ⟨g1.1,61,(x20.2.map (al 39 ae)),true⟩)⟩) (Gh.le (cw _ _) aM (bu (bu aL))) ?_
   refine ah tk rfl (ac (ao 2 tk rfl ?_))
   refine aH rfl H (fun H=>?_) (fun H=>?_)
   ·refine ab (aa (ag 4 tk rfl ?_))
    obtain ⟨x27,h27,H⟩ := ax H
    have s27 := W_delete_158 g1.1 x20.2 x20.1 (IntKind.i64.wrap (x20.1 + (1 : Int))) _ h27
    refine eF (g := 158) rfl rfl rfl Tryz.call158 [] [(11,0)] rfl rfl rfl rfl (jx.of2 (iK.cons (oG.own z20_0) (iK.cons (oG.of_eq rfl) (iK.cons (oG.of_eq rfl) iK.nil)))) (by rw [dR,cY,dN]; rfl) s27 ?_
    rintro u27 H27h ⟨rfl,rfl⟩
    refine ⟨_,rfl,?_⟩
    refine cV (st' := ⟨_,_,fun _=>none,upd (upd (fun _=>none) 31 (some ⟨g1.2,61,(s1.2.map (al 39 ae)),true⟩)) 11 (some ⟨g1.1,61,(x27.map (al 39 ae)),true⟩)⟩) (Gh.le (cw _ _) aM (bu (bu aL))) ?_
    refine mt 27 (q := (.own 11 g1.1 (x27.map (al 39 ae)).length)) rfl (PLe.of2 (oG.own rfl)) (ah tk rfl (ac (bh rfl (aX 2 tk rfl ?_))))
    exact bi (g1.1,g1.2) H hl1 hg1
   refine ap (aa (ag 2 tk rfl (bU tk (rows' := List.map (al 39 ae) ([x1] : Rz)) (fU.refl _) ?_)))
   obtain ⟨x31,h31,H⟩ := ax H
   have k31 := cj h31
   refine cf (rows2' := List.map (al 39 ae) ([x1] : Rz)) (rows' := List.map (al 39 ae) x31) tk rfl rfl rfl rfl rfl rfl rfl rfl rfl rfl rfl rfl rfl (fU.refl _) (dC k31.1) (dy k31.2.1) (dB k31.2.2) fun g31=>?_
   refine ah tk rfl (ac (aF (aX 2 tk rfl ?_)))
   exact bi (g1.1,g31) H hl1 hg1 (Gh.le (bC (PLe.of2 (oG.of_eq (congrArg (PV.own 11 g1.1) z20_0))) (aw (aw (aw (bC (PLe.q (eB (by omega))) aY))))) aM (bu (bu aL)))
  have hn1 := rMd (mS h) hr1
  refine bh rfl ?_
  refine aR s1 g1 hn1 Gh.d
 have H := cP hn1 Hp1
 refine ao 2 tk rfl (dP 4 rfl rfl rfl ?_)
 exact aW tk H rfl
def ct (rec219 : Rz → Int → Int → Int → Option (Rz)) (data : Rz) (a : Int) (m : Int) (b : Int) (cmp : Rq → Rq → Option (Int)) : Option (Rz) :=
 cond ((IntKind.i64.wrap (m - a)) == (1 : Int))
  (af (fG (σ := Rz × Int × Int) (ρ := Empty) (fun (s1 : Rz × Int × Int) =>
   cond (decide (s1.2.1 < s1.2.2))
    (af (aJ s1.1 (IntKind.i64.wrap (Int.fdiv (IntKind.u64.wrap (IntKind.i64.wrap (s1.2.1 + s1.2.2))) (2 ^ 1)))) fun (x43 : Rq) =>
    af (aJ s1.1 a) fun (x47 : Rq) =>
    af (cmp x43 x47) fun x49 =>
    cond (decide (x49 < (0 : Int)))
     (some (.next (s1.1,(IntKind.i64.wrap ((IntKind.i64.wrap (Int.fdiv (IntKind.u64.wrap (IntKind.i64.wrap (s1.2.1 + s1.2.2))) (2 ^ 1))) + (1 : Int))),s1.2.2)))
     (some (.next (s1.1,s1.2.1,(IntKind.i64.wrap (Int.fdiv (IntKind.u64.wrap (IntKind.i64.wrap (s1.2.1 + s1.2.2))) (2 ^ 1)))))))
    (some (.brk (s1.1,s1.2.1,s1.2.2)))) (data,m,b)) fun fl1=>fl1.thenP fun (s1 : Rz × Int × Int) =>
  af (fG (σ := Rz × Int) (ρ := Empty) (fun (s2 : Rz × Int) =>
   cond (decide (s2.2 < (IntKind.i64.wrap (s1.2.1 - (1 : Int)))))
    (af (aJ s2.1 (IntKind.i64.wrap (s2.2 + (1 : Int)))) fun (x69 : Rq) =>
    af (aJ s2.1 s2.2) fun (x73 : Rq) =>
    af (aJ s2.1 s2.2) fun (_ : Rq) =>
    bp (s2.1.set s2.2.toNat x69) fun (y7 : Rz) =>
    af (aJ y7 (IntKind.i64.wrap (s2.2 + (1 : Int)))) fun (_ : Rq) =>
    bp (y7.set ((IntKind.i64.wrap (s2.2 + (1 : Int))).toNat) x73) fun (y8 : Rz) =>
    some (.next (y8,(IntKind.i64.wrap (s2.2 + (1 : Int))))))
    (some (.brk (s2.1,s2.2)))) (s1.1,a)) fun fl2=>fl2.thenP fun (s2 : Rz × Int) =>
  some s2.1)
  (cond ((IntKind.i64.wrap (b - m)) == (1 : Int))
   (af (fG (σ := Rz × Int × Int) (ρ := Empty) (fun (s9 : Rz × Int × Int) =>
    cond (decide (s9.2.1 < s9.2.2))
     (af (aJ s9.1 m) fun (x95 : Rq) =>
     af (aJ s9.1 (IntKind.i64.wrap (Int.fdiv (IntKind.u64.wrap (IntKind.i64.wrap (s9.2.1 + s9.2.2))) (2 ^ 1)))) fun (x99 : Rq) =>
     af (cmp x95 x99) fun x101 =>
     cond (!(decide (x101 < (0 : Int))))
      (some (.next (s9.1,(IntKind.i64.wrap ((IntKind.i64.wrap (Int.fdiv (IntKind.u64.wrap (IntKind.i64.wrap (s9.2.1 + s9.2.2))) (2 ^ 1))) + (1 : Int))),s9.2.2)))
      (some (.next (s9.1,s9.2.1,(IntKind.i64.wrap (Int.fdiv (IntKind.u64.wrap (IntKind.i64.wrap (s9.2.1 + s9.2.2))) (2 ^ 1)))))))
     (some (.brk (s9.1,s9.2.1,s9.2.2)))) (data,a,m)) fun fl9=>fl9.thenP fun (s9 : Rz × Int × Int) =>
   af (fG (σ := Rz × Int) (ρ := Empty) (fun (s10 : Rz × Int) =>
    cond (decide (s10.2 > s9.2.1))
     (af (aJ s10.1 (IntKind.i64.wrap (s10.2 - (1 : Int)))) fun (x121 : Rq) =>
     af (aJ s10.1 s10.2) fun (x125 : Rq) =>
     af (aJ s10.1 s10.2) fun (_ : Rq) =>
     bp (s10.1.set s10.2.toNat x121) fun (y15 : Rz) =>
     af (aJ y15 (IntKind.i64.wrap (s10.2 - (1 : Int)))) fun (_ : Rq) =>
     bp (y15.set ((IntKind.i64.wrap (s10.2 - (1 : Int))).toNat) x125) fun (y16 : Rz) =>
     some (.next (y16,(IntKind.i64.wrap (s10.2 - (1 : Int))))))
     (some (.brk (s10.1,s10.2)))) (s9.1,m)) fun fl10=>fl10.thenP fun (s10 : Rz × Int) =>
   some s10.1)
   (bp (
    cond (decide (m > (IntKind.i64.wrap (Int.fdiv (IntKind.u64.wrap (IntKind.i64.wrap (a + b))) (2 ^ 1)))))
     ((data,(IntKind.i64.wrap ((IntKind.i64.wrap ((IntKind.i64.wrap (Int.fdiv (IntKind.u64.wrap (IntKind.i64.wrap (a + b))) (2 ^ 1))) + m)) - b)),(IntKind.i64.wrap (Int.fdiv (IntKind.u64.wrap (IntKind.i64.wrap (a + b))) (2 ^ 1)))))
     ((data,a,m))) fun (t17 : Rz × Int × Int) =>
   af (fG (σ := Rz × Int × Int) (ρ := Empty) (fun (s18 : Rz × Int × Int) =>
    cond (decide (s18.2.1 < s18.2.2))
     (af (aJ s18.1 (IntKind.i64.wrap ((IntKind.i64.wrap ((IntKind.i64.wrap ((IntKind.i64.wrap (Int.fdiv (IntKind.u64.wrap (IntKind.i64.wrap (a + b))) (2 ^ 1))) + m)) - (1 : Int))) - (IntKind.i64.wrap (Int.fdiv (IntKind.u64.wrap (IntKind.i64.wrap (s18.2.1 + s18.2.2))) (2 ^ 1)))))) fun (x163 : Rq) =>
     af (aJ s18.1 (IntKind.i64.wrap (Int.fdiv (IntKind.u64.wrap (IntKind.i64.wrap (s18.2.1 + s18.2.2))) (2 ^ 1)))) fun (x167 : Rq) =>
     af (cmp x163 x167) fun x169 =>
     cond (!(decide (x169 < (0 : Int))))
      (some (.next (s18.1,(IntKind.i64.wrap ((IntKind.i64.wrap (Int.fdiv (IntKind.u64.wrap (IntKind.i64.wrap (s18.2.1 + s18.2.2))) (2 ^ 1))) + (1 : Int))),s18.2.2)))
      (some (.next (s18.1,s18.2.1,(IntKind.i64.wrap (Int.fdiv (IntKind.u64.wrap (IntKind.i64.wrap (s18.2.1 + s18.2.2))) (2 ^ 1)))))))
     (some (.brk (s18.1,s18.2.1,s18.2.2)))) (t17.1,t17.2.1,t17.2.2)) fun fl18=>fl18.thenP fun (s18 : Rz × Int × Int) =>
   bp (
    cond (decide (s18.2.1 < m))
     ((s18.1,(decide (m < (IntKind.i64.wrap ((IntKind.i64.wrap ((IntKind.i64.wrap (Int.fdiv (IntKind.u64.wrap (IntKind.i64.wrap (a + b))) (2 ^ 1))) + m)) - s18.2.1))))))
     ((s18.1,false))) fun (t19 : Rz × Bool) =>
   af (
    cond t19.2
     (af (dc t19.1 s18.2.1 m (IntKind.i64.wrap ((IntKind.i64.wrap ((IntKind.i64.wrap (Int.fdiv (IntKind.u64.wrap (IntKind.i64.wrap (a + b))) (2 ^ 1))) + m)) - s18.2.1)) cmp) fun x191 =>
     af (eO (x191.length = t19.1.length) ()) fun (_ : Unit) =>
     some x191)
     (some t19.1)) fun (t20 : Rz) =>
   bp (
    cond (decide (a < s18.2.1))
     ((t20,(decide (s18.2.1 < (IntKind.i64.wrap (Int.fdiv (IntKind.u64.wrap (IntKind.i64.wrap (a + b))) (2 ^ 1)))))))
     ((t20,false))) fun (t21 : Rz × Bool) =>
   af (
    cond t21.2
     (af (rec219 t21.1 a s18.2.1 (IntKind.i64.wrap (Int.fdiv (IntKind.u64.wrap (IntKind.i64.wrap (a + b))) (2 ^ 1)))) fun x205 =>
     af (eO (x205.length = t21.1.length) ()) fun (_ : Unit) =>
     some x205)
     (some t21.1)) fun (t22 : Rz) =>
   cond (decide ((IntKind.i64.wrap (Int.fdiv (IntKind.u64.wrap (IntKind.i64.wrap (a + b))) (2 ^ 1))) < (IntKind.i64.wrap ((IntKind.i64.wrap ((IntKind.i64.wrap (Int.fdiv (IntKind.u64.wrap (IntKind.i64.wrap (a + b))) (2 ^ 1))) + m)) - s18.2.1))))
    (cond (decide ((IntKind.i64.wrap ((IntKind.i64.wrap ((IntKind.i64.wrap (Int.fdiv (IntKind.u64.wrap (IntKind.i64.wrap (a + b))) (2 ^ 1))) + m)) - s18.2.1)) < b))
     (af (rec219 t22 (IntKind.i64.wrap (Int.fdiv (IntKind.u64.wrap (IntKind.i64.wrap (a + b))) (2 ^ 1))) (IntKind.i64.wrap ((IntKind.i64.wrap ((IntKind.i64.wrap (Int.fdiv (IntKind.u64.wrap (IntKind.i64.wrap (a + b))) (2 ^ 1))) + m)) - s18.2.1)) b) fun x219 =>
     af (eO (x219.length = t22.length) ()) fun (_ : Unit) =>
     some x219)
     (some t22))
    (some t22)))
theorem lN (g_data : OwnRef) {g_cmp : FuncId} {caps_cmp : List PV} (rec219 : Rz → Int → Int → Int → Option (Rz)) (hrec219 : ∀ g0 a0 a1 a2 a3 r,rec219 a0 a1 a2 a3 = some r → PH Tryz.prog 219 [(.own 0 g0 (a0.map (al 39 ae)).length),(am a1),(am a2),(am a3),(.fn g_cmp caps_cmp)] ⟨fun _=>none,upd (fun _=>none) 0 (some ⟨g0,61,(a0.map (al 39 ae)),true⟩)⟩ (fun u H=>u = (.tup []) ∧ H = ⟨fun _=>none,upd (fun _=>none) 0 (some ⟨g0,61,(r.map (al 39 ae)),true⟩)⟩)) (data : Rz) (a : Int) (m : Int) (b : Int) (cmp : Rq → Rq → Option (Int)) (hg_cmp : ∀ (vs : Array Value) (w : World),(callFunc g_cmp vs).run Tryz.prog w = .ok (.enter g_cmp vs) w) (hp_cmp : ∀ a0 a1 r,cmp a0 a1 = some r → aI Tryz.prog g_cmp ((.list 39 (a0.map ae)) :: (.list 39 (a1.map ae)) :: caps_cmp) (am r)) (r : Rz) (H : ct rec219 data a m b cmp = some r) :
  PH Tryz.prog 219 [(.own 0 g_data (data.map (al 39 ae)).length),(am a),(am m),(am b),(.fn g_cmp caps_cmp)] ⟨fun _=>none,upd (fun _=>none) 0 (some ⟨g_data,61,(data.map (al 39 ae)),true⟩)⟩ (fun u H=>u = (.tup []) ∧ H = ⟨fun _=>none,upd (fun _=>none) 0 (some ⟨g_data,61,(r.map (al 39 ae)),true⟩)⟩) := by
 unfold ct at H
 refine PH.au Tryz.func219 Tryz.ntmps219 ?_
 refine ab (ao 4 tk rfl ?_)
 refine aH rfl H (fun H=>?_) (fun H=>?_)
 ·refine ao 2 tk rfl (ao 2 tk rfl (ab ?_))
  obtain ⟨fl1,H1,Hp1⟩ := ax H
  refine fj (τ := Rz × Int × Int) (γ := Unit) (fun s1 g1=>⟨220,upd (upd (upd (fun _=>.any) 10 (am s1.2.1)) 1 (am a)) 0 (.own 0 g_data (s1.1.map (al 39 ae)).length),fun _=>none,upd (fun _=>none) 0 (some ⟨g_data,61,(s1.1.map (al 39 ae)),true⟩)⟩) (fun t=>fl1 = .next t) ?_ (fun s1 g1 hn1=>?_)
  ·refine av ?_
   refine gR (fun s1 g1=>⟨220,upd (upd (upd (upd (upd (fun _=>.any) 11 (am s1.2.2)) 10 (am s1.2.1)) 4 (.fn g_cmp caps_cmp)) 1 (am a)) 0 (.own 0 g_data (s1.1.map (al 39 ae)).length),fun _=>none,upd (fun _=>none) 0 (some ⟨g_data,61,(s1.1.map (al 39 ae)),true⟩)⟩) () H1 Gh.d (fun m1 s1 g1 hr1=>?_)
   obtain ⟨fb1,H,hg1⟩ := fD hr1
   refine ab (ao 3 tk rfl ?_)
   refine aH rfl H (fun H=>?_) (fun H=>?_)
   ·refine ap (av (ab (aa (ag 4 tk rfl (uI (m := 1) rfl rfl rfl rfl (by decide) rfl rfl (ag 2 tk rfl (ac (ab ?_))))))))
    refine jS (tag := 0) rfl (fun ho0=>?_)
    refine bw tk mok ⟨false,true,[]⟩ [0,1,2,3,4,5,6,7,8,9,10] rfl (by decide +kernel) rfl (aU 3 rfl ?_)
    obtain ⟨x43,k43,H⟩ := bt H
    refine cS tk ⟨k43.1,(dV k43.2)⟩ (eh ho0 k43.2) ?_
    refine eN tk (aO (fun _=>rfl) k43.2) ?_
    refine aU 2 rfl ?_
    obtain ⟨x47,k47,H⟩ := bt H
    refine cS tk ⟨k47.1,(dV k47.2)⟩ (eh ho0 k47.2) ?_
    refine eN tk (aO (fun _=>rfl) k47.2) ?_
    obtain ⟨x49,h49,H⟩ := ax H
    refine aV hg_cmp (jx.r) (hp_cmp _ _ _ h49) ?_
    refine bT rfl (br ?_)
    refine aH rfl H (fun H=>?_) (fun H=>?_)
    ·refine aX 3 tk rfl (aF ?_)
     obtain rfl := aA H
     refine eu (s1.1,(IntKind.i64.wrap ((IntKind.i64.wrap (Int.fdiv (IntKind.u64.wrap (IntKind.i64.wrap (s1.2.1 + s1.2.2))) (2 ^ 1))) + (1 : Int))),s1.2.2) () hg1 Gh.d
    refine aX 2 tk rfl (aF ?_)
    obtain rfl := aA H
    refine eu (s1.1,s1.2.1,(IntKind.i64.wrap (Int.fdiv (IntKind.u64.wrap (IntKind.i64.wrap (s1.2.1 + s1.2.2))) (2 ^ 1)))) () hg1 Gh.d
   refine bh rfl ?_
   obtain rfl := aA H
   refine aR (s1.1,s1.2.1,s1.2.2) () hg1 Gh.d
  have H := cP hn1 Hp1
  refine ab (ao 2 tk rfl ?_)
  obtain ⟨fl2,H2,Hp2⟩ := ax H
  refine fj (τ := Rz × Int) (γ := Unit) (fun s2 g2=>⟨220,upd (fun _=>.any) 0 (.own 0 g_data (s2.1.map (al 39 ae)).length),fun _=>none,upd (fun _=>none) 0 (some ⟨g_data,61,(s2.1.map (al 39 ae)),true⟩)⟩) (fun t=>fl2 = .next t) ?_ (fun s2 g2 hn2=>?_)
  ·refine av ?_
   refine gR (fun s2 g2=>⟨220,upd (upd (upd (fun _=>.any) 13 (am s2.2)) 10 (am s1.2.1)) 0 (.own 0 g_data (s2.1.map (al 39 ae)).length),fun _=>none,upd (fun _=>none) 0 (some ⟨g_data,61,(s2.1.map (al 39 ae)),true⟩)⟩) () H2 Gh.d (fun m2 s2 g2 hr2=>?_)
   obtain ⟨fb2,H,hg2⟩ := fD hr2
   refine ab (ao 4 tk rfl ?_)
   refine aH rfl H (fun H=>?_) (fun H=>?_)
   ·refine ap (ab (av ?_))
    refine jS (tag := 0) rfl (fun ho0=>?_)
    refine bw tk mok ⟨false,true,[]⟩ [0,1,2,3,4,5,6,7,8,9,10,11,12,13,14,15,16,17] rfl (by decide +kernel) rfl (aU 8 rfl ?_)
    obtain ⟨x69,k69,H⟩ := bt H
    refine cS tk ⟨k69.1,(dV k69.2)⟩ (eh ho0 k69.2) ?_
    refine eN tk (aO (fun _=>rfl) k69.2) ?_
    refine aU 2 rfl ?_
    obtain ⟨x73,k73,H⟩ := bt H
    refine cS tk ⟨k73.1,(dV k73.2)⟩ (eh ho0 k73.2) ?_
    refine eN tk (aO (fun _=>rfl) k73.2) ?_
    obtain ⟨x75,k75,H⟩ := bt H
    refine cS tk ⟨k75.1,(dV k75.2)⟩ (eh ho0 k75.2) ?_
    obtain ⟨y7,hy7,H⟩ := cL H
    refine jc tk rfl rfl rfl rfl rfl rfl rfl rfl rfl (by rw [zl]; exact (zg.1 k75.2).1) (PLe.refl _ _) rfl rfl rfl rfl (by decide) (fQ (fun _=>rfl) k75.2 rfl hy7) ?_
    obtain ⟨x76,k76,H⟩ := bt H
    refine cS tk ⟨k76.1,(tv (fu (f := (al 39 ae)) hy7) k76.2)⟩ (tq ho0 (fu (f := (al 39 ae)) hy7) k76.2) ?_
    obtain ⟨y8,hy8,H⟩ := cL H
    refine jc tk rfl rfl rfl rfl rfl rfl rfl rfl rfl (by rw [zl]; exact (zg.1 k76.2).1) (PLe.refl _ _) rfl rfl rfl rfl (by decide) (fQ (fun _=>rfl) k76.2 rfl hy8) ?_
    refine br (aF (aX 3 tk rfl ?_))
    obtain rfl := aA H
    refine eu (y8,(IntKind.i64.wrap (s2.2 + (1 : Int)))) () hg2 (Gh.le (bC (PLe.of2 (oG.of_eq (congrArg (PV.own 0 g_data) ((fu (f := (al 39 ae)) hy7).trans (fu (f := (al 39 ae)) hy8))))) (aw (aw aY))) aM (bu aL))
   refine bh rfl ?_
   obtain rfl := aA H
   refine aR (s2.1,s2.2) () hg2 Gh.d
  have H := cP hn2 Hp2
  obtain rfl := aA H
  refine gS (st' := ⟨220,fun _=>.any,fun _=>none,upd (fun _=>none) 0 (some ⟨g_data,61,(s2.1.map (al 39 ae)),true⟩)⟩) (Gh.le aY aM (bu aL)) ?_
  refine nY tk rfl (ps := []) rfl (PLe.q rfl) ⟨rfl,rfl⟩
 refine ap (ab (ao 4 tk rfl ?_))
 refine aH rfl H (fun H=>?_) (fun H=>?_)
 ·refine ao 2 tk rfl (ao 2 tk rfl (ab ?_))
  obtain ⟨fl9,H9,Hp9⟩ := ax H
  refine fj (τ := Rz × Int × Int) (γ := Unit) (fun s9 g9=>⟨220,upd (upd (upd (fun _=>.any) 14 (am s9.2.1)) 2 (am m)) 0 (.own 0 g_data (s9.1.map (al 39 ae)).length),fun _=>none,upd (fun _=>none) 0 (some ⟨g_data,61,(s9.1.map (al 39 ae)),true⟩)⟩) (fun t=>fl9 = .next t) ?_ (fun s9 g9 hn9=>?_)
  ·refine av ?_
   refine gR (fun s9 g9=>⟨220,upd (upd (upd (upd (upd (fun _=>.any) 15 (am s9.2.2)) 14 (am s9.2.1)) 4 (.fn g_cmp caps_cmp)) 2 (am m)) 0 (.own 0 g_data (s9.1.map (al 39 ae)).length),fun _=>none,upd (fun _=>none) 0 (some ⟨g_data,61,(s9.1.map (al 39 ae)),true⟩)⟩) () H9 Gh.d (fun m9 s9 g9 hr9=>?_)
   obtain ⟨fb9,H,hg9⟩ := fD hr9
   refine ab (ao 3 tk rfl ?_)
   refine aH rfl H (fun H=>?_) (fun H=>?_)
   ·refine ap (av (ab (aa (ag 4 tk rfl (uI (m := 1) rfl rfl rfl rfl (by decide) rfl rfl (ag 2 tk rfl (ac (ab ?_))))))))
    refine jS (tag := 0) rfl (fun ho0=>?_)
    refine bw tk mok ⟨false,true,[]⟩ [0,1,2,3,4,5,6,7,8,9,10,11] rfl (by decide +kernel) rfl (aU 3 rfl ?_)
    obtain ⟨x95,k95,H⟩ := bt H
    refine cS tk ⟨k95.1,(dV k95.2)⟩ (eh ho0 k95.2) ?_
    refine eN tk (aO (fun _=>rfl) k95.2) ?_
    refine aU 2 rfl ?_
    obtain ⟨x99,k99,H⟩ := bt H
    refine cS tk ⟨k99.1,(dV k99.2)⟩ (eh ho0 k99.2) ?_
    refine eN tk (aO (fun _=>rfl) k99.2) ?_
    obtain ⟨x101,h101,H⟩ := ax H
    refine aV hg_cmp (jx.r) (hp_cmp _ _ _ h101) ?_
    refine aU 2 rfl (br ?_)
    refine aH rfl H (fun H=>?_) (fun H=>?_)
    ·refine aX 3 tk rfl (aF ?_)
     obtain rfl := aA H
     refine eu (s9.1,(IntKind.i64.wrap ((IntKind.i64.wrap (Int.fdiv (IntKind.u64.wrap (IntKind.i64.wrap (s9.2.1 + s9.2.2))) (2 ^ 1))) + (1 : Int))),s9.2.2) () hg9 Gh.d
    refine aX 2 tk rfl (aF ?_)
    obtain rfl := aA H
    refine eu (s9.1,s9.2.1,(IntKind.i64.wrap (Int.fdiv (IntKind.u64.wrap (IntKind.i64.wrap (s9.2.1 + s9.2.2))) (2 ^ 1)))) () hg9 Gh.d
   refine bh rfl ?_
   obtain rfl := aA H
   refine aR (s9.1,s9.2.1,s9.2.2) () hg9 Gh.d
  have H := cP hn9 Hp9
  refine ab (ao 2 tk rfl ?_)
  obtain ⟨fl10,H10,Hp10⟩ := ax H
  refine fj (τ := Rz × Int) (γ := Unit) (fun s10 g10=>⟨220,upd (fun _=>.any) 0 (.own 0 g_data (s10.1.map (al 39 ae)).length),fun _=>none,upd (fun _=>none) 0 (some ⟨g_data,61,(s10.1.map (al 39 ae)),true⟩)⟩) (fun t=>fl10 = .next t) ?_ (fun s10 g10 hn10=>?_)
  ·refine av ?_
   refine gR (fun s10 g10=>⟨220,upd (upd (upd (fun _=>.any) 17 (am s10.2)) 14 (am s9.2.1)) 0 (.own 0 g_data (s10.1.map (al 39 ae)).length),fun _=>none,upd (fun _=>none) 0 (some ⟨g_data,61,(s10.1.map (al 39 ae)),true⟩)⟩) () H10 Gh.d (fun m10 s10 g10 hr10=>?_)
   obtain ⟨fb10,H,hg10⟩ := fD hr10
   refine ab (ao 3 tk rfl ?_)
   refine aH rfl H (fun H=>?_) (fun H=>?_)
   ·refine ap (ab (av ?_))
    refine jS (tag := 0) rfl (fun ho0=>?_)
    refine bw tk mok ⟨false,true,[]⟩ [0,1,2,3,4,5,6,7,8,9,10,11,12,13,14,15,16,17] rfl (by decide +kernel) rfl (aU 8 rfl ?_)
    obtain ⟨x121,k121,H⟩ := bt H
    refine cS tk ⟨k121.1,(dV k121.2)⟩ (eh ho0 k121.2) ?_
    refine eN tk (aO (fun _=>rfl) k121.2) ?_
    refine aU 2 rfl ?_
    obtain ⟨x125,k125,H⟩ := bt H
    refine cS tk ⟨k125.1,(dV k125.2)⟩ (eh ho0 k125.2) ?_
    refine eN tk (aO (fun _=>rfl) k125.2) ?_
    obtain ⟨x127,k127,H⟩ := bt H
    refine cS tk ⟨k127.1,(dV k127.2)⟩ (eh ho0 k127.2) ?_
    obtain ⟨y15,hy15,H⟩ := cL H
    refine jc tk rfl rfl rfl rfl rfl rfl rfl rfl rfl (by rw [zl]; exact (zg.1 k127.2).1) (PLe.refl _ _) rfl rfl rfl rfl (by decide) (fQ (fun _=>rfl) k127.2 rfl hy15) ?_
    obtain ⟨x128,k128,H⟩ := bt H
    refine cS tk ⟨k128.1,(tv (fu (f := (al 39 ae)) hy15) k128.2)⟩ (tq ho0 (fu (f := (al 39 ae)) hy15) k128.2) ?_
    obtain ⟨y16,hy16,H⟩ := cL H
    refine jc tk rfl rfl rfl rfl rfl rfl rfl rfl rfl (by rw [zl]; exact (zg.1 k128.2).1) (PLe.refl _ _) rfl rfl rfl rfl (by decide) (fQ (fun _=>rfl) k128.2 rfl hy16) ?_
    refine br (aF (aX 3 tk rfl ?_))
    obtain rfl := aA H
    refine eu (y16,(IntKind.i64.wrap (s10.2 - (1 : Int)))) () hg10 (Gh.le (bC (PLe.of2 (oG.of_eq (congrArg (PV.own 0 g_data) ((fu (f := (al 39 ae)) hy15).trans (fu (f := (al 39 ae)) hy16))))) (aw (aw aY))) aM (bu aL))
   refine bh rfl ?_
   obtain rfl := aA H
   refine aR (s10.1,s10.2) () hg10 Gh.d
  have H := cP hn10 Hp10
  obtain rfl := aA H
  refine gS (st' := ⟨220,fun _=>.any,fun _=>none,upd (fun _=>none) 0 (some ⟨g_data,61,(s10.1.map (al 39 ae)),true⟩)⟩) (Gh.le aY aM (bu aL)) ?_
  refine nY tk rfl (ps := []) rfl (PLe.q rfl) ⟨rfl,rfl⟩
 refine ap (ab (aa (ag 4 tk rfl (uI (m := 1) rfl rfl rfl rfl (by decide) rfl rfl (ag 2 tk rfl (ac (ao 4 tk rfl (ao 2 tk rfl (ab (ao 3 tk rfl ?_))))))))))
 refine eQ (γ := Unit) (fun t17 g17=>⟨220,upd (upd (upd (upd (upd (upd (upd (upd (upd (fun _=>.any) 21 (am t17.2.2)) 20 (am t17.2.1)) 19 (am (IntKind.i64.wrap ((IntKind.i64.wrap (Int.fdiv (IntKind.u64.wrap (IntKind.i64.wrap (a + b))) (2 ^ 1))) + m)))) 18 (am (IntKind.i64.wrap (Int.fdiv (IntKind.u64.wrap (IntKind.i64.wrap (a + b))) (2 ^ 1))))) 4 (.fn g_cmp caps_cmp)) 3 (am b)) 2 (am m)) 1 (am a)) 0 (.own 0 g_data (t17.1.map (al 39 ae)).length),fun _=>none,upd (fun _=>none) 0 (some ⟨g_data,61,(t17.1.map (al 39 ae)),true⟩)⟩) H (fun _ H=>?_) (fun t17 g17 H=>?_)
 ·refine aH rfl H (fun H=>?_) (fun H=>?_)
  ·refine ao 4 tk rfl (aX 2 tk rfl ?_)
   refine aR _ () H Gh.d
  refine ao 2 tk rfl (aX 2 tk rfl ?_)
  refine aR _ () H Gh.d
 refine ao 3 tk rfl (ab ?_)
 obtain ⟨fl18,H18,Hp18⟩ := ax H
 refine fj (τ := Rz × Int × Int) (γ := Unit) (fun s18 g18=>⟨220,upd (upd (upd (upd (upd (upd (upd (upd (fun _=>.any) 20 (am s18.2.1)) 19 (am (IntKind.i64.wrap ((IntKind.i64.wrap (Int.fdiv (IntKind.u64.wrap (IntKind.i64.wrap (a + b))) (2 ^ 1))) + m)))) 18 (am (IntKind.i64.wrap (Int.fdiv (IntKind.u64.wrap (IntKind.i64.wrap (a + b))) (2 ^ 1))))) 4 (.fn g_cmp caps_cmp)) 3 (am b)) 2 (am m)) 1 (am a)) 0 (.own 0 g_data (s18.1.map (al 39 ae)).length),fun _=>none,upd (fun _=>none) 0 (some ⟨g_data,61,(s18.1.map (al 39 ae)),true⟩)⟩) (fun t=>fl18 = .next t) ?_ (fun s18 g18 hn18=>?_)
 ·refine av ?_
  refine gR (fun s18 g18=>⟨220,upd (upd (upd (upd (upd (upd (upd (upd (upd (upd (fun _=>.any) 22 (am (IntKind.i64.wrap ((IntKind.i64.wrap ((IntKind.i64.wrap (Int.fdiv (IntKind.u64.wrap (IntKind.i64.wrap (a + b))) (2 ^ 1))) + m)) - (1 : Int))))) 21 (am s18.2.2)) 20 (am s18.2.1)) 19 (am (IntKind.i64.wrap ((IntKind.i64.wrap (Int.fdiv (IntKind.u64.wrap (IntKind.i64.wrap (a + b))) (2 ^ 1))) + m)))) 18 (am (IntKind.i64.wrap (Int.fdiv (IntKind.u64.wrap (IntKind.i64.wrap (a + b))) (2 ^ 1))))) 4 (.fn g_cmp caps_cmp)) 3 (am b)) 2 (am m)) 1 (am a)) 0 (.own 0 g_data (s18.1.map (al 39 ae)).length),fun _=>none,upd (fun _=>none) 0 (some ⟨g_data,61,(s18.1.map (al 39 ae)),true⟩)⟩) () H18 Gh.d (fun m18 s18 g18 hr18=>?_)
  obtain ⟨fb18,H,hg18⟩ := fD hr18
  refine ab (ao 3 tk rfl ?_)
  refine aH rfl H (fun H=>?_) (fun H=>?_)
  ·refine ap (av (ab (aa (ag 4 tk rfl (uI (m := 1) rfl rfl rfl rfl (by decide) rfl rfl (ag 2 tk rfl (ac (ab ?_))))))))
   refine jS (tag := 0) rfl (fun ho0=>?_)
   refine bw tk mok ⟨false,true,[]⟩ [0,1,2,3,4,5,6,7,8,9,10,11,12,13] rfl (by decide +kernel) rfl (aU 5 rfl ?_)
   obtain ⟨x163,k163,H⟩ := bt H
   refine cS tk ⟨k163.1,(dV k163.2)⟩ (eh ho0 k163.2) ?_
   refine eN tk (aO (fun _=>rfl) k163.2) ?_
   refine aU 2 rfl ?_
   obtain ⟨x167,k167,H⟩ := bt H
   refine cS tk ⟨k167.1,(dV k167.2)⟩ (eh ho0 k167.2) ?_
   refine eN tk (aO (fun _=>rfl) k167.2) ?_
   obtain ⟨x169,h169,H⟩ := ax H
   refine aV hg_cmp (jx.r) (hp_cmp _ _ _ h169) ?_
   refine aU 2 rfl (br ?_)
   refine aH rfl H (fun H=>?_) (fun H=>?_)
   ·refine aX 3 tk rfl (aF ?_)
    obtain rfl := aA H
    refine eu (s18.1,(IntKind.i64.wrap ((IntKind.i64.wrap (Int.fdiv (IntKind.u64.wrap (IntKind.i64.wrap (s18.2.1 + s18.2.2))) (2 ^ 1))) + (1 : Int))),s18.2.2) () hg18 Gh.d
   refine aX 2 tk rfl (aF ?_)
   obtain rfl := aA H
   refine eu (s18.1,s18.2.1,(IntKind.i64.wrap (Int.fdiv (IntKind.u64.wrap (IntKind.i64.wrap (s18.2.1 + s18.2.2))) (2 ^ 1)))) () hg18 Gh.d
  refine bh rfl ?_
  obtain rfl := aA H
  refine aR (s18.1,s18.2.1,s18.2.2) () hg18 Gh.d
 have H := cP hn18 Hp18
 refine ao 4 tk rfl (ab (ab ?_))
 refine eQ (γ := Unit) (fun t19 g19=>⟨220,upd (upd (upd (upd (upd (upd (upd (upd (upd (fun _=>.any) 185 (aC t19.2)) 24 (am (IntKind.i64.wrap ((IntKind.i64.wrap ((IntKind.i64.wrap (Int.fdiv (IntKind.u64.wrap (IntKind.i64.wrap (a + b))) (2 ^ 1))) + m)) - s18.2.1)))) 20 (am s18.2.1)) 18 (am (IntKind.i64.wrap (Int.fdiv (IntKind.u64.wrap (IntKind.i64.wrap (a + b))) (2 ^ 1))))) 4 (.fn g_cmp caps_cmp)) 3 (am b)) 2 (am m)) 1 (am a)) 0 (.own 0 g_data (t19.1.map (al 39 ae)).length),fun _=>none,upd (fun _=>none) 0 (some ⟨g_data,61,(t19.1.map (al 39 ae)),true⟩)⟩) H (fun _ H=>?_) (fun t19 g19 H=>?_)
 ·refine aa (ag 4 tk rfl ?_)
  refine bf rfl rfl rfl H (fun H=>?_) (fun H=>?_)
  ·refine ag 4 tk rfl (ac ?_)
   refine aR _ () H Gh.d
  refine ag 4 tk rfl (ac ?_)
  refine aR _ () H Gh.d
 refine gG (γ := Unit) (fun t20 g20=>⟨220,upd (upd (upd (upd (upd (upd (upd (fun _=>.any) 24 (am (IntKind.i64.wrap ((IntKind.i64.wrap ((IntKind.i64.wrap (Int.fdiv (IntKind.u64.wrap (IntKind.i64.wrap (a + b))) (2 ^ 1))) + m)) - s18.2.1)))) 20 (am s18.2.1)) 18 (am (IntKind.i64.wrap (Int.fdiv (IntKind.u64.wrap (IntKind.i64.wrap (a + b))) (2 ^ 1))))) 4 (.fn g_cmp caps_cmp)) 3 (am b)) 1 (am a)) 0 (.own 0 g_data (t20.map (al 39 ae)).length),fun _=>none,upd (fun _=>none) 0 (some ⟨g_data,61,(t20.map (al 39 ae)),true⟩)⟩) H (fun _ H=>?_) (fun t20 g20 H=>?_)
 ·refine aH rfl H (fun H=>?_) (fun H=>?_)
  ·refine aa (ag 5 tk rfl ?_)
   obtain ⟨x191,h191,H⟩ := ax H
   have s191 := mW g_data t19.1 s18.2.1 m (IntKind.i64.wrap ((IntKind.i64.wrap ((IntKind.i64.wrap (Int.fdiv (IntKind.u64.wrap (IntKind.i64.wrap (a + b))) (2 ^ 1))) + m)) - s18.2.1)) cmp hg_cmp hp_cmp _ h191
   obtain ⟨_,q191_0,H⟩ := ax H
   have l191_0 := (de q191_0).1
   have z191_0 : (List.map (al 39 ae) t19.1).length = (List.map (al 39 ae) x191).length := by simpa using (l191_0).symm
   refine eF (g := 231) rfl rfl rfl Tryz.call231 [] [(0,0)] rfl rfl rfl rfl (jx.of2 (iK.cons (oG.own rfl) (iK.cons (oG.of_eq rfl) (iK.cons (oG.of_eq rfl) (iK.cons (oG.of_eq rfl) (iK.cons (oG.of_eq rfl) iK.nil)))))) (by rw [dR,cY,dN]; rfl) s191 ?_
   rintro u191 H191h ⟨rfl,rfl⟩
   refine ⟨_,rfl,?_⟩
   refine cV (st' := ⟨_,_,fun _=>none,upd (fun _=>none) 0 (some ⟨g_data,61,(x191.map (al 39 ae)),true⟩)⟩) (Gh.le (cw _ _) aM (bu aL)) ?_
   refine ac ?_
   refine aR _ () (aA H) (Gh.le (bC (PLe.of2 (oG.of_eq (congrArg (PV.own 0 g_data) z191_0))) (aw (aw (aw (aw (aw (aw aY))))))) aM (bu aL))
  refine ap ?_
  refine aR _ () (aA H) Gh.d
 refine ab (ab ?_)
 refine eQ (γ := Unit) (fun t21 g21=>⟨220,upd (upd (upd (upd (upd (upd (upd (upd (fun _=>.any) 199 (aC t21.2)) 24 (am (IntKind.i64.wrap ((IntKind.i64.wrap ((IntKind.i64.wrap (Int.fdiv (IntKind.u64.wrap (IntKind.i64.wrap (a + b))) (2 ^ 1))) + m)) - s18.2.1)))) 20 (am s18.2.1)) 18 (am (IntKind.i64.wrap (Int.fdiv (IntKind.u64.wrap (IntKind.i64.wrap (a + b))) (2 ^ 1))))) 4 (.fn g_cmp caps_cmp)) 3 (am b)) 1 (am a)) 0 (.own 0 g_data (t21.1.map (al 39 ae)).length),fun _=>none,upd (fun _=>none) 0 (some ⟨g_data,61,(t21.1.map (al 39 ae)),true⟩)⟩) H (fun _ H=>?_) (fun t21 g21 H=>?_)
 ·refine aa (ag 4 tk rfl ?_)
  refine bf rfl rfl rfl H (fun H=>?_) (fun H=>?_)
  ·refine ag 4 tk rfl (ac ?_)
   refine aR _ () H Gh.d
  refine ag 4 tk rfl (ac ?_)
  refine aR _ () H Gh.d
 refine gG (γ := Unit) (fun t22 g22=>⟨220,upd (upd (upd (upd (upd (fun _=>.any) 24 (am (IntKind.i64.wrap ((IntKind.i64.wrap ((IntKind.i64.wrap (Int.fdiv (IntKind.u64.wrap (IntKind.i64.wrap (a + b))) (2 ^ 1))) + m)) - s18.2.1)))) 18 (am (IntKind.i64.wrap (Int.fdiv (IntKind.u64.wrap (IntKind.i64.wrap (a + b))) (2 ^ 1))))) 4 (.fn g_cmp caps_cmp)) 3 (am b)) 0 (.own 0 g_data (t22.map (al 39 ae)).length),fun _=>none,upd (fun _=>none) 0 (some ⟨g_data,61,(t22.map (al 39 ae)),true⟩)⟩) H (fun _ H=>?_) (fun t22 g22 H=>?_)
 ·refine aH rfl H (fun H=>?_) (fun H=>?_)
  ·refine aa (ag 5 tk rfl ?_)
   obtain ⟨x205,h205,H⟩ := ax H
   have s205 := hrec219 g_data t21.1 a s18.2.1 (IntKind.i64.wrap (Int.fdiv (IntKind.u64.wrap (IntKind.i64.wrap (a + b))) (2 ^ 1))) _ h205
   obtain ⟨_,q205_0,H⟩ := ax H
   have l205_0 := (de q205_0).1
   have z205_0 : (List.map (al 39 ae) t21.1).length = (List.map (al 39 ae) x205).length := by simpa using (l205_0).symm
   refine eF (g := 219) rfl rfl rfl Tryz.call219 [] [(0,0)] rfl rfl rfl rfl (jx.of2 (iK.cons (oG.own rfl) (iK.cons (oG.of_eq rfl) (iK.cons (oG.of_eq rfl) (iK.cons (oG.of_eq rfl) (iK.cons (oG.of_eq rfl) iK.nil)))))) (by rw [dR,cY,dN]; rfl) s205 ?_
   rintro u205 H205h ⟨rfl,rfl⟩
   refine ⟨_,rfl,?_⟩
   refine cV (st' := ⟨_,_,fun _=>none,upd (fun _=>none) 0 (some ⟨g_data,61,(x205.map (al 39 ae)),true⟩)⟩) (Gh.le (cw _ _) aM (bu aL)) ?_
   refine ac ?_
   refine aR _ () (aA H) (Gh.le (bC (PLe.of2 (oG.of_eq (congrArg (PV.own 0 g_data) z205_0))) (aw (aw (aw (aw aY))))) aM (bu aL))
  refine ap ?_
  refine aR _ () (aA H) Gh.d
 refine ab (aa (ag 4 tk rfl ?_))
 refine bf rfl rfl rfl H (fun H=>?_) (fun H=>?_)
 ·refine ag 4 tk rfl (ac ?_)
  refine aH rfl H (fun H=>?_) (fun H=>?_)
  ·refine aa (ag 5 tk rfl ?_)
   obtain ⟨x219,h219,H⟩ := ax H
   have s219 := hrec219 g_data t22 (IntKind.i64.wrap (Int.fdiv (IntKind.u64.wrap (IntKind.i64.wrap (a + b))) (2 ^ 1))) (IntKind.i64.wrap ((IntKind.i64.wrap ((IntKind.i64.wrap (Int.fdiv (IntKind.u64.wrap (IntKind.i64.wrap (a + b))) (2 ^ 1))) + m)) - s18.2.1)) b _ h219
   obtain ⟨_,q219_0,H⟩ := ax H
   have l219_0 := (de q219_0).1
   have z219_0 : (List.map (al 39 ae) t22).length = (List.map (al 39 ae) x219).length := by simpa using (l219_0).symm
   refine eF (g := 219) rfl rfl rfl Tryz.call219 [] [(0,0)] rfl rfl rfl rfl (jx.of2 (iK.cons (oG.own rfl) (iK.cons (oG.of_eq rfl) (iK.cons (oG.of_eq rfl) (iK.cons (oG.of_eq rfl) (iK.cons (oG.of_eq rfl) iK.nil)))))) (by rw [dR,cY,dN]; rfl) s219 ?_
   rintro u219 H219h ⟨rfl,rfl⟩
   refine ⟨_,rfl,?_⟩
   refine cV (st' := ⟨_,_,fun _=>none,upd (fun _=>none) 0 (some ⟨g_data,61,(x219.map (al 39 ae)),true⟩)⟩) (Gh.le (cw _ _) aM (bu aL)) ?_
   refine ac ?_
   obtain rfl := aA H
   refine gS (st' := ⟨220,fun _=>.any,fun _=>none,upd (fun _=>none) 0 (some ⟨g_data,61,(x219.map (al 39 ae)),true⟩)⟩) (Gh.le aY aM (bu aL)) ?_
   refine mz rfl (PLe.q rfl) ⟨rfl,rfl⟩
  refine ap ?_
  obtain rfl := aA H
  refine gS (st' := ⟨220,fun _=>.any,fun _=>none,upd (fun _=>none) 0 (some ⟨g_data,61,(t22.map (al 39 ae)),true⟩)⟩) (Gh.le aY aM (bu aL)) ?_
  refine mz rfl (PLe.q rfl) ⟨rfl,rfl⟩
 refine ag 4 tk rfl (ac (bB rfl (ap ?_)))
 obtain rfl := aA H
 refine gS (st' := ⟨220,fun _=>.any,fun _=>none,upd (fun _=>none) 0 (some ⟨g_data,61,(t22.map (al 39 ae)),true⟩)⟩) (Gh.le aY aM (bu aL)) ?_
 refine mz rfl (PLe.q rfl) ⟨rfl,rfl⟩
def bm : Nat → Rz → Int → Int → Int → (Rq → Rq → Option (Int)) → Option (Rz)
 | 0,_,_,_,_,_=>none
 | n + 1,v0,v1,v2,v3,v4=>ct (fun b0 b1 b2 b3=>bm n b0 b1 b2 b3 v4) v0 v1 v2 v3 v4
theorem lM {g_cmp : FuncId} {caps_cmp : List PV} (cmp : Rq → Rq → Option (Int)) (hg_cmp : ∀ (vs : Array Value) (w : World),(callFunc g_cmp vs).run Tryz.prog w = .ok (.enter g_cmp vs) w) (hp_cmp : ∀ a0 a1 r,cmp a0 a1 = some r → aI Tryz.prog g_cmp ((.list 39 (a0.map ae)) :: (.list 39 (a1.map ae)) :: caps_cmp) (am r)) (n : Nat) : (∀ g0 a0 a1 a2 a3 r,bm n a0 a1 a2 a3 cmp = some r → PH Tryz.prog 219 [(.own 0 g0 (a0.map (al 39 ae)).length),(am a1),(am a2),(am a3),(.fn g_cmp caps_cmp)] ⟨fun _=>none,upd (fun _=>none) 0 (some ⟨g0,61,(a0.map (al 39 ae)),true⟩)⟩ (fun u H=>u = (.tup []) ∧ H = ⟨fun _=>none,upd (fun _=>none) 0 (some ⟨g0,61,(r.map (al 39 ae)),true⟩)⟩)) := by
 induction n with
 | zero=>exact (by intros; rename_i h; exact absurd (show (none : Option _) = some _ from h) (by simp))
 | succ n ih =>
  exact (fun g0 v0 v1 v2 v3 r h=>lN g0 (fun b0 b1 b2 b3=>bm n b0 b1 b2 b3 cmp) ih v0 v1 v2 v3 cmp hg_cmp hp_cmp r h)
def eZ (data : Rz) (a : Int) (m : Int) (b : Int) (cmp : Rq → Rq → Option (Int)) : Option (Rz) := jo fun n=>bm n data a m b cmp
theorem jl (g_data : OwnRef) {g_cmp : FuncId} {caps_cmp : List PV} (data : Rz) (a : Int) (m : Int) (b : Int) (cmp : Rq → Rq → Option (Int)) (hg_cmp : ∀ (vs : Array Value) (w : World),(callFunc g_cmp vs).run Tryz.prog w = .ok (.enter g_cmp vs) w) (hp_cmp : ∀ a0 a1 r,cmp a0 a1 = some r → aI Tryz.prog g_cmp ((.list 39 (a0.map ae)) :: (.list 39 (a1.map ae)) :: caps_cmp) (am r)) (r : Rz) (H : eZ data a m b cmp = some r) :
  PH Tryz.prog 219 [(.own 0 g_data (data.map (al 39 ae)).length),(am a),(am m),(am b),(.fn g_cmp caps_cmp)] ⟨fun _=>none,upd (fun _=>none) 0 (some ⟨g_data,61,(data.map (al 39 ae)),true⟩)⟩ (fun u H=>u = (.tup []) ∧ H = ⟨fun _=>none,upd (fun _=>none) 0 (some ⟨g_data,61,(r.map (al 39 ae)),true⟩)⟩) := by
 obtain ⟨n,h⟩ := km H
 exact (lM cmp hg_cmp hp_cmp n) g_data data a m b r h
def ij (a : Rz) (b : Rz) (on : LJoinalgoCondition) : Option (Int) :=
 bp (
  cond (decide ((a.length : Int) > (400 : Int)))
   (true)
   (cond (decide ((b.length : Int) > (400 : Int)))
    (true)
    ((decide (on.rightWidth > (20 : Int)))))) fun (t1 : Bool) =>
 cond t1
  (some 2)
  (bp (
   cond ((on.left.length : Int) != (on.right.length : Int))
    (true)
    ((decide (on.rightWidth < (0 : Int))))) fun (t2 : Bool) =>
  cond t2
   (some 3)
   (af (oa (([(LAnon109.mk a on.left),(LAnon109.mk b on.right)] : List LAnon109).length : Int)) fun (n3 : Nat) =>
   af (aE (σ := Unit) (ρ := (Int)) (fun (j3 : Nat) (_ : Nat) (_ : Unit) =>
    af (aJ ([(LAnon109.mk a on.left),(LAnon109.mk b on.right)] : List LAnon109) (j3 : Int)) fun (x48 : LAnon109) =>
    af (aE (σ := Unit) (ρ := (Int)) (fun (_ : Nat) (x5 : Int) (_ : Unit) =>
     cond (decide (x5 < (0 : Int)))
      (some (.ret 3))
      (af (bP x48.rows (fun a0=>some (dQ a0 x5))) fun x63 =>
      cond x63
       (some (.ret 3))
       (some (.next ())))) 0 x48.atF ()) fun fl5=>fl5.thenF fun (_ : Unit) =>
    some (.next ())) 0 (List.range n3) ()) fun fl3=>fl3.thenR fun (_ : Unit) =>
   af (bP b (fun a0=>some (eI a0 on))) fun x69 =>
   cond x69
    (some 3)
    (some 0)))
theorem se (a : Rz) (b : Rz) (on : LJoinalgoCondition) (r : Int) (H : ij a b on = some r) :
  aI Tryz.prog 22 [(.list 61 (a.map (al 39 ae))),(.list 61 (b.map (al 39 ae))),(.agg (bH on))] (am r) := by
 unfold ij at H
 refine PH.au Tryz.func22 Tryz.ntmps22 ?_
 refine ab (aa (aD ?_))
 refine ah tk rfl (ac (ab (ab ?_)))
 refine eQ (γ := Unit) (fun t1 g1=>⟨70,upd (upd (upd (upd (fun _=>.any) 23 (aC t1)) 5 (.ptr (bH on))) 1 (.list 61 (b.map (al 39 ae)))) 0 (.list 61 (a.map (al 39 ae))),fun _=>none,fun _=>none⟩) H (fun _ H=>?_) (fun t1 g1 H=>?_)
 ·refine aa (ah tk rfl (az tk (zl _) ?_))
  refine ag 2 tk rfl ?_
  refine bf rfl rfl rfl H (fun H=>?_) (fun H=>?_)
  ·refine ag 9 tk rfl (ac ?_)
   refine aR _ () H Gh.d
  refine ah tk rfl (az tk (zl _) ?_)
  refine ag 3 tk rfl ?_
  refine bf rfl rfl rfl H (fun H=>?_) (fun H=>?_)
  ·refine ag 4 tk rfl (ac ?_)
   refine aR _ () H Gh.d
  refine ag 4 tk rfl (ac ?_)
  refine aR _ () H Gh.d
 refine aH rfl H (fun H=>?_) (fun H=>?_)
 ·refine ao 1 tk rfl ?_
  exact aW tk H rfl
 refine ap (ab (ab ?_))
 refine eQ (γ := Unit) (fun t2 g2=>⟨70,upd (upd (upd (upd (fun _=>.any) 35 (aC t2)) 5 (.ptr (bH on))) 1 (.list 61 (b.map (al 39 ae)))) 0 (.list 61 (a.map (al 39 ae))),fun _=>none,fun _=>none⟩) H (fun _ H=>?_) (fun t2 g2 H=>?_)
 ·refine aa (ag 2 tk rfl (az tk (zl _) ?_))
  refine ag 2 tk rfl (az tk (zl _) ?_)
  refine ag 2 tk rfl ?_
  refine bf rfl rfl rfl H (fun H=>?_) (fun H=>?_)
  ·refine ag 4 tk rfl (ac ?_)
   refine aR _ () H Gh.d
  refine ag 4 tk rfl (ac ?_)
  refine aR _ () H Gh.d
 refine aH rfl H (fun H=>?_) (fun H=>?_)
 ·refine ao 1 tk rfl ?_
  exact aW tk H rfl
 refine ap (ab (ab (aa (ag 8 tk rfl (bU tk (rows' := List.map mE ([(LAnon109.mk a on.left),(LAnon109.mk b on.right)] : List LAnon109)) (fU.refl _) ?_)))))
 refine az tk (zl _) ?_
 refine ah tk rfl (ac ?_)
 obtain ⟨n3,hs3,H⟩ := ax H
 have hz3 := nP hs3
 obtain ⟨fl3,H3,Hp3⟩ := ax H
 refine fj (τ := Unit) (γ := Unit) (fun s3 g3=>⟨70,upd (upd (fun _=>.any) 5 (.ptr (bH on))) 1 (.list 61 (b.map (al 39 ae))),fun _=>none,fun _=>none⟩) (fun t=>fl3 = .next t) ?_ (fun s3 g3 hn3=>?_)
 ·refine av ?_
  refine hJ (fun j3 s3 g3=>⟨70,upd (upd (upd (upd (upd (fun _=>.any) 46 (am (j3 : Int))) 45 (am (([(LAnon109.mk a on.left),(LAnon109.mk b on.right)] : List LAnon109).length : Int))) 44 (.list 109 (([(LAnon109.mk a on.left),(LAnon109.mk b on.right)] : List LAnon109).map mE))) 5 (.ptr (bH on))) 1 (.list 61 (b.map (al 39 ae))),fun _=>none,fun _=>none⟩) () H3 Gh.d (fun j3 s3 g3 hj3 hr3=>?_)
  refine ao 1 tk rfl (ab ?_)
  refine bg rfl (fun h=>?_) (fun h=>?_)
  ·have hl3 := natLt hz3 h
   obtain ⟨x3,fb3,hx3,H,hg3⟩ := rMc hl3 hr3
   obtain rfl := natX hx3
   refine ap (ab (av (ab (aa ?_))))
   obtain ⟨x48,k48,H⟩ := bt H
   refine aQ tk k48.1 (aO (fun _=>rfl) k48.2) ?_
   refine ah tk rfl ?_
   refine ba tk fun b8=>?_
   refine aq tk ?_
   refine ac (ab (aa (ah tk rfl (aB tk ?_))))
   refine az tk (zl _) ?_
   refine ah tk rfl (ac ?_)
   obtain ⟨fl5,H5,Hp5⟩ := ax H
   refine gm tk 51 rfl rfl (fun hz5 _=>?_)
   rw [zl] at hz5
   refine fj (τ := Unit) (γ := Unit) (fun s5 g5=>⟨70,upd (upd (upd (upd (upd (fun _=>.any) 46 (am (j3 : Int))) 45 (am (([(LAnon109.mk a on.left),(LAnon109.mk b on.right)] : List LAnon109).length : Int))) 44 (.list 109 (([(LAnon109.mk a on.left),(LAnon109.mk b on.right)] : List LAnon109).map mE))) 5 (.ptr (bH on))) 1 (.list 61 (b.map (al 39 ae))),fun _=>none,fun _=>none⟩) (fun t=>fl5 = .next t) ?_ (fun s5 g5 hn5=>?_)
   ·refine av ?_
    refine hJ (fun j5 s5 g5=>⟨70,upd (upd (upd (upd (upd (upd (upd (upd (upd (fun _=>.any) 53 (am (j5 : Int))) 52 (am (x48.atF.length : Int))) 51 (.list 3 (x48.atF.map bG))) 46 (am (j3 : Int))) 45 (am (([(LAnon109.mk a on.left),(LAnon109.mk b on.right)] : List LAnon109).length : Int))) 44 (.list 109 (([(LAnon109.mk a on.left),(LAnon109.mk b on.right)] : List LAnon109).map mE))) 8 (.box 8 b8 0)) 5 (.ptr (bH on))) 1 (.list 61 (b.map (al 39 ae))),upd (fun _=>none) 8 (some ⟨b8,(mE x48)⟩),fun _=>none⟩) () H5 Gh.d (fun j5 s5 g5 hj5 hr5=>?_)
    refine ao 1 tk rfl (ab ?_)
    refine bg rfl (fun h=>?_) (fun h=>?_)
    ·have hl5 := mZ h
     obtain ⟨x5,fb5,hx5,H,hg5⟩ := rMc hl5 hr5
     refine ap (ab (av (ab (aa ?_))))
     refine aQ tk (zn j5) (bj (fun _=>rfl) hx5) ?_
     refine ah tk rfl ?_
     refine ba tk fun b10=>?_
     refine aq tk ?_
     refine ac (ab (uP 10 rfl rfl rfl rfl (aa (ag 3 tk rfl ?_))))
     refine bf rfl rfl rfl H (fun H=>?_) (fun H=>?_)
     ·refine ag 5 tk rfl (ac (bL rfl (ao 1 tk rfl ?_)))
      obtain rfl := aA H
      have e5 : fl5 = .ret _ := hg5
      subst e5
      have q5 := oq Hp5
      subst q5
      have e3 : fl3 = .ret _ := hg3
      subst e3
      obtain rfl := aT Hp3
      refine bc tk rfl (ps := [(am 3)]) ⟨_,_,rfl,rfl,rfl⟩ (PLe.q rfl)
     refine ah tk rfl (aB tk ?_)
     refine ah tk rfl ?_
     obtain ⟨x63,h63,H⟩ := ax H
     have s63 := ip x48.rows (fun a0=>some (dQ a0 x5)) Tryz.call51 (fun a0 r h=>(aA h) ▸ qD a0 x5) _ h63
     refine ak Tryz.call50 (jx.r) s63 ?_
     refine ah tk rfl (ac ?_)
     refine aH rfl H (fun H=>?_) (fun H=>?_)
     ·refine ao 1 tk rfl ?_
      obtain rfl := aA H
      have e5 : fl5 = .ret _ := hg5
      subst e5
      have q5 := oq Hp5
      subst q5
      have e3 : fl3 = .ret _ := hg3
      subst e3
      obtain rfl := aT Hp3
      refine bc tk rfl (ps := [(am 3)]) ⟨_,_,rfl,rfl,rfl⟩ (PLe.q rfl)
     refine ap (aF (aX 2 tk rfl ?_))
     exact bi () H hl5 hg5
    have hn5 := rMd (mS h) hr5
    refine bh rfl ?_
    refine aR s5 g5 hn5 Gh.d
   have H := thenF_next hn5 Hp5
   refine aF (aX 2 tk rfl ?_)
   exact bi () H hl3 hg3 (Gh.le (aw (aw (aw (aw (bC (PLe.q (oR hz3 hl3)) aY))))) aM aL)
  have hn3 := rMd (natGe hz3 h) hr3
  refine bh rfl ?_
  refine aR s3 g3 hn3 Gh.d
 have H := pg hn3 Hp3
 refine ab (ab (aa (ag 2 tk rfl ?_)))
 obtain ⟨x69,h69,H⟩ := ax H
 have s69 := ip b (fun a0=>some (eI a0 on)) Tryz.call52 (fun a0 r h=>(aA h) ▸ qO a0 on) _ h69
 refine ak Tryz.call50 (jx.r) s69 ?_
 refine ac ?_
 refine aH rfl H (fun H=>?_) (fun H=>?_)
 ·refine ao 1 tk rfl ?_
  exact aW tk H rfl
 refine ap (ao 1 tk rfl ?_)
 exact aW tk H rfl
def jT (x : Rq) (y : Rq) : Option (Rq) :=
 af (bl ([x,y] : Rz)) fun x8 =>
 some x8
theorem uF (x : Rq) (y : Rq) (r : Rq) (H : jT x y = some r) :
  aI Tryz.prog 25 [(.list 39 (x.map ae)),(.list 39 (y.map ae))] (.list 39 (r.map ae)) := by
 unfold jT at H
 refine PH.au Tryz.func25 Tryz.ntmps25 ?_
 refine ao 1 tk rfl (ab (aa (ag 2 tk rfl (bU tk (rows' := List.map (al 39 ae) ([x,y] : Rz)) (fU.refl _) ?_))))
 obtain ⟨x8,h8,H⟩ := ax H
 have s8 := eK (m := 8) ([x,y] : Rz) _ h8
 refine ak Tryz.call54 (jx.r) (PFun.iy s8) ?_
 refine ah tk rfl (ac ?_)
 exact aW tk H rfl
def jq (x : Rq) (on : LJoinalgoCondition) : Option (Rq) :=
 af (pj 32 on.rightWidth) fun (_ : Unit) =>
 af (bl ([x,(List.replicate on.rightWidth.toNat (LVal.mk 0 0 []))] : Rz)) fun x10 =>
 some x10
theorem uu (x : Rq) (on : LJoinalgoCondition) (r : Rq) (H : jq x on = some r) :
  aI Tryz.prog 26 [(.list 39 (x.map ae)),(.agg (bH on))] (.list 39 (r.map ae)) := by
 unfold jq at H
 refine PH.au Tryz.func26 Tryz.ntmps26 ?_
 refine ab (aa (aD ?_))
 refine ah tk rfl (ac (ab (aa (ag 3 tk rfl ?_))))
 obtain ⟨_,h8,H⟩ := ax H
 have k8 := qZ h8
 refine uV (rows := List.map ae (List.replicate on.rightWidth.toNat (LVal.mk 0 0 []))) tk rfl rfl rfl rfl rfl rfl rfl rfl rfl rfl k8.1 k8.2.1 k8.2.2 (by rw [List.map_replicate]; rfl) fun g8=>?_
 refine cV (Gh.freezeO 8 rfl rfl rfl) (bU tk (rows' := List.map (al 39 ae) ([x,(List.replicate on.rightWidth.toNat (LVal.mk 0 0 []))] : Rz)) (fU.refl _) ?_)
 obtain ⟨x10,h10,H⟩ := ax H
 have s10 := eK (m := 10) ([x,(List.replicate on.rightWidth.toNat (LVal.mk 0 0 []))] : Rz) _ h10
 refine ak Tryz.call54 (jx.r) (PFun.iy s10) ?_
 refine ah tk rfl (ac ?_)
 exact aW tk H rfl
def gV (a : Rz) (b : Rz) : Option (Bool) :=
 af (co a b (fun a0 a1=>gq a0 a1)) fun x7 =>
 some x7
theorem rn (a : Rz) (b : Rz) (r : Bool) (H : gV a b = some r) :
  aI Tryz.prog 12 [(.list 61 (a.map (al 39 ae))),(.list 61 (b.map (al 39 ae)))] (aC r) := by
 unfold gV at H
 refine PH.au Tryz.func12 Tryz.ntmps12 ?_
 refine ao 1 tk rfl (ab (aa (ag 2 tk rfl ?_)))
 obtain ⟨x7,h7,H⟩ := ax H
 have s7 := iS a b (fun a0 a1=>gq a0 a1) Tryz.call28 (fun a0 a1 r h=>qu a0 a1 r h) _ h7
 refine ak Tryz.call27 (jx.r) s7 ?_
 refine ah tk rfl (ac ?_)
 exact aW tk H rfl
def hM (a : LVal) (op : List UInt8) (b : LVal) : Bool × Int :=
 bp (
  cond (!(op == ([61] : List UInt8)))
   (cond (!(op == ([60] : List UInt8)))
    ((!(op == ([60,61] : List UInt8))))
    (false))
   (false)) fun (t1 : Bool) =>
 cond t1
  ((false,3))
  (bp (
   cond (a.kind == (0 : Int))
    (true)
    ((b.kind == (0 : Int)))) fun (t2 : Bool) =>
  cond t2
   ((true,0))
   (bp (jK a b) fun x29 =>
   cond (x29 == (0 : Int))
    (cond (!(op == ([60] : List UInt8)))
     ((true,0))
     (cond (decide (x29 < (0 : Int)))
      (((!(op == ([61] : List UInt8))),0))
      ((false,0))))
    (cond (decide (x29 < (0 : Int)))
     (((!(op == ([61] : List UInt8))),0))
     ((false,0)))))
theorem tI (a : LVal) (op : List UInt8) (b : LVal) :
  aI Tryz.prog 127 [(.agg (ae a)),(.str op),(.agg (ae b))] (.tup [(aC ((hM a op b).1)),(am ((hM a op b).2))]) := by
 obtain ⟨r,H⟩ : ∃ r,hM a op b = r := ⟨_,rfl⟩
 rw [H]
 unfold hM at H
 refine PH.au Tryz.func127 Tryz.ntmps127 ?_
 refine ab (aa (aD ?_))
 refine aD ?_
 refine ag 2 tk rfl (ac (ab (ab ?_)))
 refine eQ (γ := Unit) (fun t1 g1=>⟨44,upd (upd (upd (upd (fun _=>.any) 18 (aC t1)) 5 (.ptr (ae b))) 3 (.ptr (ae a))) 1 (.str op),fun _=>none,fun _=>none⟩) H (fun _ H=>?_) (fun t1 g1 H=>?_)
 ·refine aa (ag 3 tk rfl ?_)
  refine bf rfl rfl rfl H (fun H=>?_) (fun H=>?_)
  ·refine ag 4 tk rfl ?_
   refine bf rfl rfl rfl H (fun H=>?_) (fun H=>?_)
   ·refine ag 3 tk rfl (ac ?_)
    refine aR _ () H Gh.d
   refine ag 3 tk rfl (ac ?_)
   refine aR _ () H Gh.d
  refine ag 7 tk rfl (ac ?_)
  refine aR _ () H Gh.d
 refine aH rfl H (fun H=>?_) (fun H=>?_)
 ·refine ao 2 tk rfl ?_
  exact dT tk H rfl
 refine ap (ab (ab ?_))
 refine eQ (γ := Unit) (fun t2 g2=>⟨44,upd (upd (upd (upd (fun _=>.any) 26 (aC t2)) 5 (.ptr (ae b))) 3 (.ptr (ae a))) 1 (.str op),fun _=>none,fun _=>none⟩) H (fun _ H=>?_) (fun t2 g2 H=>?_)
 ·refine aa (ag 4 tk rfl ?_)
  refine bf rfl rfl rfl H (fun H=>?_) (fun H=>?_)
  ·refine ag 4 tk rfl (ac ?_)
   refine aR _ () H Gh.d
  refine ag 4 tk rfl (ac ?_)
  refine aR _ () H Gh.d
 refine aH rfl H (fun H=>?_) (fun H=>?_)
 ·refine ao 2 tk rfl ?_
  exact dT tk H rfl
 refine ap (ab (aa (ag 2 tk rfl ?_)))
 obtain ⟨x29,h29,H⟩ := cL H
 have s29 := ql a b
 rw [h29] at s29
 refine ak Tryz.call79 (jx.r) s29 ?_
 refine ah tk rfl (ac (ab (aa (ag 3 tk rfl ?_))))
 refine bf rfl rfl rfl H (fun H=>?_) (fun H=>?_)
 ·refine ag 4 tk rfl ?_
  refine bf rfl rfl rfl H (fun H=>?_) (fun H=>?_)
  ·refine ag 9 tk rfl (ac ?_)
   exact dT tk H rfl
  refine ag 3 tk rfl ?_
  refine bf rfl rfl rfl H (fun H=>?_) (fun H=>?_)
  ·refine ag 6 tk rfl (ac ?_)
   exact dT tk H rfl
  refine ag 6 tk rfl (ac ?_)
  exact dT tk H rfl
 refine ag 7 tk rfl ?_
 refine bf rfl rfl rfl H (fun H=>?_) (fun H=>?_)
 ·refine ag 6 tk rfl (ac ?_)
  exact dT tk H rfl
 refine ag 6 tk rfl (ac ?_)
 exact dT tk H rfl
def kD (q : LQuery) : Option (Bool) :=
 af (
  cond (decide (q.kind < (1 : Int)))
   (some true)
   (cond (decide (q.kind > (10 : Int)))
    (some true)
    (af (aJ ([(-1),0,1,1,2,2,2,2,1,1,1] : List Int) q.kind) fun (x21 : Int) =>
    some ((q.inputs.length : Int) != x21)))) fun (t1 : Bool) =>
 cond t1
  (some false)
  (af (
   af (cZ ([1] : List Int) q) fun x29 =>
   cond (!x29)
    (some (!(q.table == ([] : List UInt8))))
    (some false)) fun (t2 : Bool) =>
  af (
   cond t2
    (some t2)
    (af (
     af (cZ ([3,8] : List Int) q) fun x38 =>
     cond (!x38)
      (some (decide ((q.names.length : Int) > (0 : Int))))
      (some false)) fun (t7 : Bool) =>
    cond t7
     (some t7)
     (af (
      af (cZ ([8] : List Int) q) fun x48 =>
      cond (!x48)
       (some (decide ((q.aggregates.length : Int) > (0 : Int))))
       (some false)) fun (t8 : Bool) =>
     cond t8
      (some t8)
      (af (
       af (cZ ([9] : List Int) q) fun x58 =>
       cond (!x58)
        (some (decide ((q.descending.length : Int) > (0 : Int))))
        (some false)) fun (t9 : Bool) =>
      cond t9
       (some t9)
       (af (cZ ([10] : List Int) q) fun x68 =>
       cond (!x68)
        (cond (q.count != (0 : Int))
         (some true)
         (some (q.offset != (0 : Int))))
        (some false)))))) fun (t6 : Bool) =>
  cond t6
   (some false)
   (af (cZ ([2,4,5] : List Int) q) fun x83 =>
   cond x83
    (some ((q.exprs.length : Int) == (1 : Int)))
    (af (cZ ([3,8] : List Int) q) fun x91 =>
    cond x91
     (cond ((q.exprs.length : Int) == (q.names.length : Int))
      (some (decide ((IntKind.i64.wrap ((q.exprs.length : Int) + (q.aggregates.length : Int))) > (0 : Int))))
      (some false))
     (af (cZ ([9] : List Int) q) fun x112 =>
     cond x112
      (cond ((q.exprs.length : Int) == (q.descending.length : Int))
       (some (decide ((q.exprs.length : Int) > (0 : Int))))
       (some false))
      (af (cZ ([10] : List Int) q) fun x129 =>
      cond x129
       (cond ((q.exprs.length : Int) == (0 : Int))
        (cond (decide (q.count ≥ (0 : Int)))
         (some (decide (q.offset ≥ (0 : Int))))
         (some false))
        (some false))
       (some ((q.exprs.length : Int) == (0 : Int))))))))
theorem W_query_shape (q : LQuery) (r : Bool) (H : kD q = some r) :
  aI Tryz.prog 152 [(.agg (aG q))] (aC r) := by
 unfold kD at H
 refine PH.au Tryz.func152 Tryz.ntmps152 ?_
 refine ab (aa (aD ?_))
 refine ah tk rfl (ac (ab (aa (vo (e := 3) (rows := [[(am (-1))],[(am 0)],[(am 1)],[(am 1)],[(am 2)],[(am 2)],[(am 2)],[(am 2)],[(am 1)],[(am 1)],[(am 1)]]) tk rfl rfl rfl rfl (rows' := List.map bG ([(-1),0,1,1,2,2,2,2,1,1,1] : List Int)) (by kernel_rfl) (fU.refl _) rfl rfl (ah tk rfl (ac (ab (ab ?_))))))))
 refine gG (γ := Unit) (fun t1 g1=>⟨148,upd (upd (fun _=>.any) 24 (aC t1)) 1 (.ptr (aG q)),fun _=>none,fun _=>none⟩) H (fun _ H=>?_) (fun t1 g1 H=>?_)
 ·refine bw tk mok ⟨false,false,[]⟩ [0,1,2,3,4,5,6,7,8,9,10,11,12,13,14,15,16,17,18] rfl (by decide +kernel) rfl (aU 4 rfl ?_)
  refine om H (fun H=>?_) (fun H=>?_)
  ·refine aU 15 rfl (br ?_)
   refine aR _ () (aA H) Gh.d
  refine aU 5 rfl ?_
  refine om H (fun H=>?_) (fun H=>?_)
  ·refine aU 10 rfl (br ?_)
   refine aR _ () (aA H) Gh.d
  refine aU 2 rfl (ve rfl rfl rfl rfl rfl rfl (zl _) rfl (aU 3 rfl ?_))
  obtain ⟨x21,k21,H⟩ := bt H
  refine bJ k21.1 (aO (fun _=>rfl) k21.2) ?_
  refine aU 3 rfl (br ?_)
  refine aR _ () (aA H) Gh.d
 refine aH rfl H (fun H=>?_) (fun H=>?_)
 ·refine ao 1 tk rfl ?_
  exact aW tk H rfl
 refine ap (ao 2 tk rfl (ab (av (ab (ab ?_)))))
 refine gG (γ := Unit) (fun t2 g2=>⟨148,upd (upd (upd (fun _=>.any) 26 (aC t2)) 4 (.fn 183 [(.ptr (aG q))])) 1 (.ptr (aG q)),fun _=>none,fun _=>none⟩) H (fun _ H=>?_) (fun t2 g2 H=>?_)
 ·refine aa (ah tk rfl (bU tk (rows' := List.map bG ([1] : List Int)) (fU.refl _) ?_))
  obtain ⟨x29,h29,H⟩ := ax H
  have s29 := fA ([1] : List Int) q _ h29
  refine ak Tryz.call183 (jx.r) s29 ?_
  refine ag 2 tk rfl ?_
  refine bf rfl rfl rfl H (fun H=>?_) (fun H=>?_)
  ·refine ag 5 tk rfl (ac ?_)
   refine aR _ () (aA H) Gh.d
  refine ag 5 tk rfl (ac ?_)
  refine aR _ () (aA H) Gh.d
 refine gG (γ := Unit) (fun t6 g6=>⟨148,upd (upd (upd (fun _=>.any) 26 (aC t6)) 4 (.fn 183 [(.ptr (aG q))])) 1 (.ptr (aG q)),fun _=>none,fun _=>none⟩) H (fun _ H=>?_) (fun t6 g6 H=>?_)
 ·refine aH rfl H (fun H=>?_) (fun H=>?_)
  ·refine ap ?_
   refine aR _ () (aA H) Gh.d
  refine ab ?_
  refine gG (γ := Unit) (fun t7 g7=>⟨148,upd (upd (upd (fun _=>.any) 26 (aC t7)) 4 (.fn 183 [(.ptr (aG q))])) 1 (.ptr (aG q)),fun _=>none,fun _=>none⟩) H (fun _ H=>?_) (fun t7 g7 H=>?_)
  ·refine aa (ah tk rfl (bU tk (rows' := List.map bG ([3,8] : List Int)) (fU.refl _) ?_))
   obtain ⟨x38,h38,H⟩ := ax H
   have s38 := fA ([3,8] : List Int) q _ h38
   refine ak Tryz.call183 (jx.r) s38 ?_
   refine ag 2 tk rfl ?_
   refine bf rfl rfl rfl H (fun H=>?_) (fun H=>?_)
   ·refine ag 2 tk rfl (az tk (zl _) ?_)
    refine ag 3 tk rfl (ac ?_)
    refine aR _ () (aA H) Gh.d
   refine ag 6 tk rfl (ac ?_)
   refine aR _ () (aA H) Gh.d
  refine aH rfl H (fun H=>?_) (fun H=>?_)
  ·refine ap ?_
   refine aR _ () (aA H) Gh.d
  refine ab ?_
  refine gG (γ := Unit) (fun t8 g8=>⟨148,upd (upd (upd (fun _=>.any) 26 (aC t8)) 4 (.fn 183 [(.ptr (aG q))])) 1 (.ptr (aG q)),fun _=>none,fun _=>none⟩) H (fun _ H=>?_) (fun t8 g8 H=>?_)
  ·refine aa (ah tk rfl (bU tk (rows' := List.map bG ([8] : List Int)) (fU.refl _) ?_))
   obtain ⟨x48,h48,H⟩ := ax H
   have s48 := fA ([8] : List Int) q _ h48
   refine ak Tryz.call183 (jx.r) s48 ?_
   refine ag 2 tk rfl ?_
   refine bf rfl rfl rfl H (fun H=>?_) (fun H=>?_)
   ·refine ag 2 tk rfl (az tk (zl _) ?_)
    refine ag 3 tk rfl (ac ?_)
    refine aR _ () (aA H) Gh.d
   refine ag 6 tk rfl (ac ?_)
   refine aR _ () (aA H) Gh.d
  refine aH rfl H (fun H=>?_) (fun H=>?_)
  ·refine ap ?_
   refine aR _ () (aA H) Gh.d
  refine ab ?_
  refine gG (γ := Unit) (fun t9 g9=>⟨148,upd (upd (upd (fun _=>.any) 26 (aC t9)) 4 (.fn 183 [(.ptr (aG q))])) 1 (.ptr (aG q)),fun _=>none,fun _=>none⟩) H (fun _ H=>?_) (fun t9 g9 H=>?_)
  ·refine aa (ah tk rfl (bU tk (rows' := List.map bG ([9] : List Int)) (fU.refl _) ?_))
   obtain ⟨x58,h58,H⟩ := ax H
   have s58 := fA ([9] : List Int) q _ h58
   refine ak Tryz.call183 (jx.r) s58 ?_
   refine ag 2 tk rfl ?_
   refine bf rfl rfl rfl H (fun H=>?_) (fun H=>?_)
   ·refine ag 2 tk rfl (az tk (zl _) ?_)
    refine ag 3 tk rfl (ac ?_)
    refine aR _ () (aA H) Gh.d
   refine ag 6 tk rfl (ac ?_)
   refine aR _ () (aA H) Gh.d
  refine aH rfl H (fun H=>?_) (fun H=>?_)
  ·refine ap ?_
   refine aR _ () (aA H) Gh.d
  refine aa (ah tk rfl (bU tk (rows' := List.map bG ([10] : List Int)) (fU.refl _) ?_))
  obtain ⟨x68,h68,H⟩ := ax H
  have s68 := fA ([10] : List Int) q _ h68
  refine ak Tryz.call183 (jx.r) s68 ?_
  refine ag 2 tk rfl ?_
  refine bf rfl rfl rfl H (fun H=>?_) (fun H=>?_)
  ·refine ag 4 tk rfl ?_
   refine bf rfl rfl rfl H (fun H=>?_) (fun H=>?_)
   ·refine ag 6 tk rfl (ac ?_)
    refine aR _ () (aA H) Gh.d
   refine ag 6 tk rfl (ac ?_)
   refine aR _ () (aA H) Gh.d
  refine ag 10 tk rfl (ac ?_)
  refine aR _ () (aA H) Gh.d
 refine aH rfl H (fun H=>?_) (fun H=>?_)
 ·refine ao 1 tk rfl ?_
  exact aW tk H rfl
 refine ab (aa (ah tk rfl (bU tk (rows' := List.map bG ([2,4,5] : List Int)) (fU.refl _) ?_)))
 obtain ⟨x83,h83,H⟩ := ax H
 have s83 := fA ([2,4,5] : List Int) q _ h83
 refine ak Tryz.call183 (jx.r) s83 ?_
 refine ah tk rfl (ac ?_)
 refine aH rfl H (fun H=>?_) (fun H=>?_)
 ·refine ab (aa (ag 2 tk rfl (az tk (zl _) ?_)))
  refine ag 2 tk rfl (ac ?_)
  exact aW tk H rfl
 refine ab (aa (ah tk rfl (bU tk (rows' := List.map bG ([3,8] : List Int)) (fU.refl _) ?_)))
 obtain ⟨x91,h91,H⟩ := ax H
 have s91 := fA ([3,8] : List Int) q _ h91
 refine ak Tryz.call183 (jx.r) s91 ?_
 refine ah tk rfl (ac ?_)
 refine aH rfl H (fun H=>?_) (fun H=>?_)
 ·refine ab (aa (ag 2 tk rfl (az tk (zl _) ?_)))
  refine ag 2 tk rfl (az tk (zl _) ?_)
  refine ag 2 tk rfl ?_
  refine bf rfl rfl rfl H (fun H=>?_) (fun H=>?_)
  ·refine ag 2 tk rfl (az tk (zl _) ?_)
   refine ag 2 tk rfl (az tk (zl _) ?_)
   refine ag 4 tk rfl (ac ?_)
   exact aW tk H rfl
  refine ag 10 tk rfl (ac ?_)
  exact aW tk H rfl
 refine ab (aa (ah tk rfl (bU tk (rows' := List.map bG ([9] : List Int)) (fU.refl _) ?_)))
 obtain ⟨x112,h112,H⟩ := ax H
 have s112 := fA ([9] : List Int) q _ h112
 refine ak Tryz.call183 (jx.r) s112 ?_
 refine ah tk rfl (ac ?_)
 refine aH rfl H (fun H=>?_) (fun H=>?_)
 ·refine ab (aa (ag 2 tk rfl (az tk (zl _) ?_)))
  refine ag 2 tk rfl (az tk (zl _) ?_)
  refine ag 2 tk rfl ?_
  refine bf rfl rfl rfl H (fun H=>?_) (fun H=>?_)
  ·refine ag 2 tk rfl (az tk (zl _) ?_)
   refine ag 3 tk rfl (ac ?_)
   exact aW tk H rfl
  refine ag 6 tk rfl (ac ?_)
  exact aW tk H rfl
 refine ab (aa (ah tk rfl (bU tk (rows' := List.map bG ([10] : List Int)) (fU.refl _) ?_)))
 obtain ⟨x129,h129,H⟩ := ax H
 have s129 := fA ([10] : List Int) q _ h129
 refine ak Tryz.call183 (jx.r) s129 ?_
 refine ah tk rfl (ac ?_)
 refine aH rfl H (fun H=>?_) (fun H=>?_)
 ·refine ab (aa (ag 2 tk rfl (az tk (zl _) ?_)))
  refine ag 2 tk rfl ?_
  refine bf rfl rfl rfl H (fun H=>?_) (fun H=>?_)
  ·refine ag 5 tk rfl ?_
   refine bf rfl rfl rfl H (fun H=>?_) (fun H=>?_)
   ·refine ag 5 tk rfl (ac ?_)
    exact aW tk H rfl
   refine ag 5 tk rfl (ac ?_)
   exact aW tk H rfl
  refine ag 10 tk rfl (ac ?_)
  exact aW tk H rfl
 refine ap (aF (ab (aa (ag 2 tk rfl (az tk (zl _) ?_)))))
 refine ag 2 tk rfl (ac ?_)
 exact aW tk H rfl
def du (c : LChecker) (l : List LCol) (e : LExpr) : Int :=
 bp (cI l c.vars e) fun x15 =>
 cond (x15.2.2 == (0 : Int))
  (cond (x15.1 != (2 : Int))
   (cond (x15.1 != (0 : Int))
    (7)
    (x15.2.2))
   (x15.2.2))
  (x15.2.2)
theorem kT (c : LChecker) (l : List LCol) (e : LExpr) :
  aI Tryz.prog 186 [(.agg (eo c)),(.list 51 (l.map aN)),(.agg (iM e))] (am (du c l e)) := by
 obtain ⟨r,H⟩ : ∃ r,du c l e = r := ⟨_,rfl⟩
 rw [H]
 unfold du at H
 refine PH.au Tryz.func186 Tryz.ntmps186 ?_
 refine ab (aa (aD ?_))
 refine aD ?_
 refine ah tk rfl (ac (ab (aa (ag 4 tk rfl ?_))))
 obtain ⟨x15,h15,H⟩ := cL H
 have s15 := nV l c.vars e
 rw [h15] at s15
 refine ak Tryz.call189 (jx.r) s15 ?_
 refine ag 7 tk rfl (ac (ab (ab (aa (ag 3 tk rfl ?_)))))
 refine bf rfl rfl rfl H (fun H=>?_) (fun H=>?_)
 ·refine ag 4 tk rfl ?_
  refine bf rfl rfl rfl H (fun H=>?_) (fun H=>?_)
  ·refine ag 3 tk rfl (ac ?_)
   refine aH rfl H (fun H=>?_) (fun H=>?_)
   ·refine ao 1 tk rfl ?_
    exact dT tk H rfl
   refine ap (ao 2 tk rfl ?_)
   exact dT tk H rfl
  refine ag 3 tk rfl (ac (bB rfl (ap (ao 2 tk rfl ?_))))
  exact dT tk H rfl
 refine ag 7 tk rfl (ac (bB rfl (ap (ao 2 tk rfl ?_))))
 exact dT tk H rfl
def gc (c : LChecker) (inA : List LCol) (a : LAggregateCall) : Option (Int × Int) :=
 af (
  bp (db a.name) fun x13 =>
  cond (!x13)
   (some true)
   (af (dF ([[99,111,117,110,116],[115,117,109],[109,105,110],[109,97,120]] : List (List UInt8)) a.function) fun x19 =>
   cond (!x19)
    (some true)
    (cond (decide ((a.args.length : Int) > (1 : Int)))
     (some true)
     (cond (decide ((a.args.length : Int) < (1 : Int)))
      (some (!(a.function == ([99,111,117,110,116] : List UInt8))))
      (some false))))) fun (t1 : Bool) =>
 cond t1
  (some (0,3))
  (cond ((a.args.length : Int) == (0 : Int))
   (some (1,0))
   (af (aJ a.args 0) fun (x49 : LExpr) =>
   bp (cI inA c.vars x49) fun x51 =>
   cond (x51.2.2 != (0 : Int))
    (some (0,x51.2.2))
    (bp (
     cond (x51.1 == (0 : Int))
      (true)
      (cond (a.function == ([115,117,109] : List UInt8))
       ((x51.1 != (1 : Int)))
       (false))) fun (t2 : Bool) =>
    cond t2
     (some (0,7))
     (cond (a.function == ([99,111,117,110,116] : List UInt8))
      (some (1,0))
      (some (x51.1,0))))))
theorem sg (c : LChecker) (inA : List LCol) (a : LAggregateCall) (r : Int × Int) (H : gc c inA a = some r) :
  aI Tryz.prog 211 [(.agg (eo c)),(.list 51 (inA.map aN)),(.agg (kS a))] (.tup [(am r.1),(am r.2)]) := by
 unfold gc at H
 refine PH.au Tryz.func211 Tryz.ntmps211 ?_
 refine ab (aa (aD ?_))
 refine aD ?_
 refine ag 2 tk rfl (ac (ab (ab ?_)))
 refine gG (γ := Unit) (fun t1 g1=>⟨76,upd (upd (upd (upd (fun _=>.any) 38 (aC t1)) 5 (.ptr (kS a))) 3 (.ptr (eo c))) 1 (.list 51 (inA.map aN)),fun _=>none,fun _=>none⟩) H (fun _ H=>?_) (fun t1 g1 H=>?_)
 ·refine aa (ag 2 tk rfl ?_)
  obtain ⟨x13,h13,H⟩ := cL H
  have s13 := mw a.name
  rw [h13] at s13
  refine ak Tryz.call210 (jx.r) s13 ?_
  refine ag 2 tk rfl ?_
  refine bf rfl rfl rfl H (fun H=>?_) (fun H=>?_)
  ·refine ag 23 tk rfl (ac ?_)
   refine aR _ () (aA H) Gh.d
  refine bU tk (rows' := List.map nG ([[99,111,117,110,116],[115,117,109],[109,105,110],[109,97,120]] : List (List UInt8))) (fU.refl _) ?_
  refine ag 2 tk rfl ?_
  obtain ⟨x19,h19,H⟩ := ax H
  have s19 := mi ([[99,111,117,110,116],[115,117,109],[109,105,110],[109,97,120]] : List (List UInt8)) a.function _ h19
  refine ak Tryz.call139 (jx.r) s19 ?_
  refine ag 3 tk rfl ?_
  refine bf rfl rfl rfl H (fun H=>?_) (fun H=>?_)
  ·refine ag 16 tk rfl (ac ?_)
   refine aR _ () (aA H) Gh.d
  refine ag 2 tk rfl (az tk (zl _) ?_)
  refine ag 3 tk rfl ?_
  refine bf rfl rfl rfl H (fun H=>?_) (fun H=>?_)
  ·refine ag 10 tk rfl (ac ?_)
   refine aR _ () (aA H) Gh.d
  refine ag 2 tk rfl (az tk (zl _) ?_)
  refine ag 2 tk rfl ?_
  refine bf rfl rfl rfl H (fun H=>?_) (fun H=>?_)
  ·refine ag 5 tk rfl (ac ?_)
   refine aR _ () (aA H) Gh.d
  refine ag 5 tk rfl (ac ?_)
  refine aR _ () (aA H) Gh.d
 refine aH rfl H (fun H=>?_) (fun H=>?_)
 ·refine ao 2 tk rfl ?_
  exact aW tk H rfl
 refine ap (ab (ab (aa (ag 2 tk rfl (az tk (zl _) ?_)))))
 refine ah tk rfl (ac ?_)
 refine aH rfl H (fun H=>?_) (fun H=>?_)
 ·refine ao 2 tk rfl ?_
  exact aW tk H rfl
 refine ap (ab (bw tk mok ⟨false,false,[]⟩ [0,1,2,3,4,5,6,7,8,9,10,11,12,13,14] rfl (by decide +kernel) rfl (aU 5 rfl ?_)))
 obtain ⟨x49,k49,H⟩ := bt H
 refine bJ k49.1 (aO dK k49.2) ?_
 refine bT rfl ?_
 obtain ⟨x51,h51,H⟩ := cL H
 have s51 := nV inA c.vars x49
 rw [h51] at s51
 refine aV Tryz.call189 (jx.r) s51 ?_
 refine aU 7 rfl (br (ab (av (ao 3 tk rfl ?_))))
 refine aH rfl H (fun H=>?_) (fun H=>?_)
 ·refine ao 3 tk rfl ?_
  exact aW tk H rfl
 refine ab ?_
 refine eQ (γ := Unit) (fun t2 g2=>⟨76,upd (upd (upd (fun _=>.any) 59 (aC t2)) 8 (am x51.1)) 5 (.ptr (kS a)),fun _=>none,fun _=>none⟩) H (fun _ H=>?_) (fun t2 g2 H=>?_)
 ·refine aa (ag 3 tk rfl ?_)
  refine bf rfl rfl rfl H (fun H=>?_) (fun H=>?_)
  ·refine ag 9 tk rfl (ac ?_)
   refine aR _ () H Gh.d
  refine ag 4 tk rfl ?_
  refine bf rfl rfl rfl H (fun H=>?_) (fun H=>?_)
  ·refine ag 5 tk rfl (ac ?_)
   refine aR _ () H Gh.d
  refine ag 5 tk rfl (ac ?_)
  refine aR _ () H Gh.d
 refine aH rfl H (fun H=>?_) (fun H=>?_)
 ·refine ao 2 tk rfl ?_
  exact aW tk H rfl
 refine ao 4 tk rfl ?_
 refine aH rfl H (fun H=>?_) (fun H=>?_)
 ·refine ao 2 tk rfl ?_
  exact aW tk H rfl
 refine ap (aF (ao 3 tk rfl ?_))
 exact aW tk H rfl
def dJ (a : Rq) (b : Rq) : Option (Int) :=
 af (oa (if (b.length : Int) < (a.length : Int) then (b.length : Int) else (a.length : Int))) fun (n1 : Nat) =>
 af (aE (σ := Unit) (ρ := (Int)) (fun (j1 : Nat) (_ : Nat) (_ : Unit) =>
  af (aJ a (j1 : Int)) fun (x17 : LVal) =>
  af (aJ b (j1 : Int)) fun (x21 : LVal) =>
  bp (jK x17 x21) fun x23 =>
  cond (x23 != (0 : Int))
   (some (.ret x23))
   (some (.next ()))) 0 (List.range n1) ()) fun fl1=>fl1.thenR fun (_ : Unit) =>
 bp (gk (a.length : Int) (b.length : Int)) fun x32 =>
 some x32
theorem sd (a : Rq) (b : Rq) (r : Int) (H : dJ a b = some r) :
  aI Tryz.prog 46 [(.list 39 (a.map ae)),(.list 39 (b.map ae))] (am r) := by
 unfold dJ at H
 refine PH.au Tryz.func46 Tryz.ntmps46 ?_
 refine ao 1 tk rfl (ab (ab (aa (ah tk rfl (az tk (zl _) ?_)))))
 refine ah tk rfl (az tk (zl _) ?_)
 refine ag 2 tk rfl (ac ?_)
 obtain ⟨n1,hs1,H⟩ := ax H
 have hz1 := nP hs1
 obtain ⟨fl1,H1,Hp1⟩ := ax H
 refine fj (τ := Unit) (γ := Unit) (fun s1 g1=>⟨33,upd (upd (fun _=>.any) 1 (.list 39 (b.map ae))) 0 (.list 39 (a.map ae)),fun _=>none,fun _=>none⟩) (fun t=>fl1 = .next t) ?_ (fun s1 g1 hn1=>?_)
 ·refine av ?_
  refine hJ (fun j1 s1 g1=>⟨33,upd (upd (upd (upd (fun _=>.any) 12 (am (j1 : Int))) 11 (am (if (b.length : Int) < (a.length : Int) then (b.length : Int) else (a.length : Int)))) 1 (.list 39 (b.map ae))) 0 (.list 39 (a.map ae)),fun _=>none,fun _=>none⟩) () H1 Gh.d (fun j1 s1 g1 hj1 hr1=>?_)
  refine ao 1 tk rfl (ab ?_)
  refine bg rfl (fun h=>?_) (fun h=>?_)
  ·have hl1 := natLt hz1 h
   obtain ⟨x1,fb1,hx1,H,hg1⟩ := rMc hl1 hr1
   obtain rfl := natX hx1
   refine ap (ab (av (ao 2 tk rfl (ab (bw tk mok ⟨false,false,[]⟩ [0,1,2,3,4,5,6,7,8,9] rfl (by decide +kernel) rfl (aU 2 rfl ?_))))))
   obtain ⟨x17,k17,H⟩ := bt H
   refine bJ k17.1 (aO (fun _=>rfl) k17.2) ?_
   refine aU 3 rfl ?_
   obtain ⟨x21,k21,H⟩ := bt H
   refine bJ k21.1 (aO (fun _=>rfl) k21.2) ?_
   refine bT rfl ?_
   obtain ⟨x23,h23,H⟩ := cL H
   have s23 := ql x17 x21
   rw [h23] at s23
   refine aV Tryz.call79 (jx.r) s23 ?_
   refine bT rfl (br (ao 2 tk rfl ?_))
   refine aH rfl H (fun H=>?_) (fun H=>?_)
   ·refine ao 2 tk rfl ?_
    obtain rfl := aA H
    have e1 : fl1 = .ret _ := hg1
    subst e1
    obtain rfl := aT Hp1
    refine bc tk rfl (ps := [(am x23)]) ⟨_,_,rfl,rfl,rfl⟩ (PLe.q rfl)
   refine ap (aF (aX 2 tk rfl ?_))
   exact bi () H hl1 hg1 (Gh.le (aw (aw (aw (bC (PLe.q (oR hz1 hl1)) aY)))) aM aL)
  have hn1 := rMd (natGe hz1 h) hr1
  refine bh rfl ?_
  refine aR s1 g1 hn1 Gh.d
 have H := pg hn1 Hp1
 refine ab (aa (ah tk rfl (az tk (zl _) ?_)))
 refine ah tk rfl (az tk (zl _) ?_)
 obtain ⟨x32,h32,H⟩ := cL H
 have s32 := kQ (a.length : Int) (b.length : Int)
 rw [h32] at s32
 refine ak Tryz.call80 (jx.r) s32 ?_
 refine ah tk rfl (ac ?_)
 exact aW tk H rfl
def eg (data : Rz) (n : Int) (cmp : Rq → Rq → Option (Int)) : Option (Rz) :=
 af (fG (σ := Rz × Int × Int) (ρ := Empty) (fun (s1 : Rz × Int × Int) =>
  cond (decide (s1.2.2 ≤ n))
   (af (cp s1.1 s1.2.1 s1.2.2 cmp) fun x18 =>
   af (eO (x18.length = s1.1.length) ()) fun (_ : Unit) =>
   some (.next (x18,s1.2.2,(IntKind.i64.wrap (s1.2.2 + (20 : Int))))))
   (some (.brk (s1.1,s1.2.1,s1.2.2)))) (data,0,20)) fun fl1=>fl1.thenP fun (s1 : Rz × Int × Int) =>
 af (cp s1.1 s1.2.1 n cmp) fun x27 =>
 af (eO (x27.length = s1.1.length) ()) fun (_ : Unit) =>
 af (fG (σ := Rz × Int) (ρ := Empty) (fun (s2 : Rz × Int) =>
  cond (decide (s2.2 < n))
   (af (fG (σ := Rz × Int × Int) (ρ := Empty) (fun (s5 : Rz × Int × Int) =>
    cond (decide (s5.2.2 ≤ n))
     (af (eZ s5.1 s5.2.1 (IntKind.i64.wrap (s5.2.1 + s2.2)) s5.2.2 cmp) fun x43 =>
     af (eO (x43.length = s5.1.length) ()) fun (_ : Unit) =>
     some (.next (x43,s5.2.2,(IntKind.i64.wrap (s5.2.2 + (IntKind.i64.wrap ((2 : Int) * s2.2)))))))
     (some (.brk (s5.1,s5.2.1,s5.2.2)))) (s2.1,0,(IntKind.i64.wrap ((2 : Int) * s2.2)))) fun fl5=>fl5.thenP fun (s5 : Rz × Int × Int) =>
   cond (decide ((IntKind.i64.wrap (s5.2.1 + s2.2)) < n))
    (af (eZ s5.1 s5.2.1 (IntKind.i64.wrap (s5.2.1 + s2.2)) n cmp) fun x60 =>
    af (eO (x60.length = s5.1.length) ()) fun (_ : Unit) =>
    some (.next (x60,(IntKind.i64.wrap (s2.2 * (2 : Int))))))
    (some (.next (s5.1,(IntKind.i64.wrap (s2.2 * (2 : Int)))))))
   (some (.brk (s2.1,s2.2)))) (x27,20)) fun fl2=>fl2.thenP fun (s2 : Rz × Int) =>
 some s2.1
theorem mJ (g_data : OwnRef) {g_cmp : FuncId} {caps_cmp : List PV} (data : Rz) (n : Int) (cmp : Rq → Rq → Option (Int)) (hg_cmp : ∀ (vs : Array Value) (w : World),(callFunc g_cmp vs).run Tryz.prog w = .ok (.enter g_cmp vs) w) (hp_cmp : ∀ a0 a1 r,cmp a0 a1 = some r → aI Tryz.prog g_cmp ((.list 39 (a0.map ae)) :: (.list 39 (a1.map ae)) :: caps_cmp) (am r)) (r : Rz) (H : eg data n cmp = some r) :
  PH Tryz.prog 196 [(.own 0 g_data (data.map (al 39 ae)).length),(am n),(.fn g_cmp caps_cmp)] ⟨fun _=>none,upd (fun _=>none) 0 (some ⟨g_data,61,(data.map (al 39 ae)),true⟩)⟩ (fun u H=>u = (.tup []) ∧ H = ⟨fun _=>none,upd (fun _=>none) 0 (some ⟨g_data,61,(r.map (al 39 ae)),true⟩)⟩) := by
 unfold eg at H
 refine PH.au Tryz.func196 Tryz.ntmps196 ?_
 refine ao 1 tk rfl (ao 3 tk rfl (ab ?_))
 obtain ⟨fl1,H1,Hp1⟩ := ax H
 refine fj (τ := Rz × Int × Int) (γ := Unit) (fun s1 g1=>⟨63,upd (upd (upd (upd (upd (fun _=>.any) 7 (am s1.2.1)) 6 (am 20)) 2 (.fn g_cmp caps_cmp)) 1 (am n)) 0 (.own 0 g_data (s1.1.map (al 39 ae)).length),fun _=>none,upd (fun _=>none) 0 (some ⟨g_data,61,(s1.1.map (al 39 ae)),true⟩)⟩) (fun t=>fl1 = .next t) ?_ (fun s1 g1 hn1=>?_)
 ·refine av ?_
  refine gR (fun s1 g1=>⟨63,upd (upd (upd (upd (upd (upd (fun _=>.any) 8 (am s1.2.2)) 7 (am s1.2.1)) 6 (am 20)) 2 (.fn g_cmp caps_cmp)) 1 (am n)) 0 (.own 0 g_data (s1.1.map (al 39 ae)).length),fun _=>none,upd (fun _=>none) 0 (some ⟨g_data,61,(s1.1.map (al 39 ae)),true⟩)⟩) () H1 Gh.d (fun m1 s1 g1 hr1=>?_)
  obtain ⟨fb1,H,hg1⟩ := fD hr1
  refine ab (ao 3 tk rfl ?_)
  refine aH rfl H (fun H=>?_) (fun H=>?_)
  ·refine ap (av (ab (aa (ag 4 tk rfl ?_))))
   obtain ⟨x18,h18,H⟩ := ax H
   have s18 := iw g_data s1.1 s1.2.1 s1.2.2 cmp hg_cmp hp_cmp _ h18
   obtain ⟨_,q18_0,H⟩ := ax H
   have l18_0 := (de q18_0).1
   have z18_0 : (List.map (al 39 ae) s1.1).length = (List.map (al 39 ae) x18).length := by simpa using (l18_0).symm
   refine eF (g := 87) rfl rfl rfl Tryz.call87 [] [(0,0)] rfl rfl rfl rfl (jx.of2 (iK.cons (oG.own rfl) (iK.cons (oG.of_eq rfl) (iK.cons (oG.of_eq rfl) (iK.cons (oG.of_eq rfl) iK.nil))))) (by rw [dR,cY,dN]; rfl) s18 ?_
   rintro u18 H18h ⟨rfl,rfl⟩
   refine ⟨_,rfl,?_⟩
   refine cV (st' := ⟨_,_,fun _=>none,upd (fun _=>none) 0 (some ⟨g_data,61,(x18.map (al 39 ae)),true⟩)⟩) (Gh.le (cw _ _) aM (bu aL)) ?_
   refine ac (ao 2 tk rfl (aX 4 tk rfl (aF ?_)))
   obtain rfl := aA H
   refine eu (x18,s1.2.2,(IntKind.i64.wrap (s1.2.2 + (20 : Int)))) () hg1 (Gh.le (bC (PLe.of2 (oG.of_eq (congrArg (PV.own 0 g_data) z18_0))) (aw (aw (aw (aw (aw aY)))))) aM (bu aL))
  refine bh rfl ?_
  obtain rfl := aA H
  refine aR (s1.1,s1.2.1,s1.2.2) () hg1 Gh.d
 have H := cP hn1 Hp1
 refine ab (aa (ag 4 tk rfl ?_))
 obtain ⟨x27,h27,H⟩ := ax H
 have s27 := iw g_data s1.1 s1.2.1 n cmp hg_cmp hp_cmp _ h27
 obtain ⟨_,q27_0,H⟩ := ax H
 have l27_0 := (de q27_0).1
 have z27_0 : (List.map (al 39 ae) s1.1).length = (List.map (al 39 ae) x27).length := by simpa using (l27_0).symm
 refine eF (g := 87) rfl rfl rfl Tryz.call87 [] [(0,0)] rfl rfl rfl rfl (jx.of2 (iK.cons (oG.own rfl) (iK.cons (oG.of_eq rfl) (iK.cons (oG.of_eq rfl) (iK.cons (oG.of_eq rfl) iK.nil))))) (by rw [dR,cY,dN]; rfl) s27 ?_
 rintro u27 H27h ⟨rfl,rfl⟩
 refine ⟨_,rfl,?_⟩
 refine cV (st' := ⟨_,_,fun _=>none,upd (fun _=>none) 0 (some ⟨g_data,61,(x27.map (al 39 ae)),true⟩)⟩) (Gh.le (cw _ _) aM (bu aL)) ?_
 refine ac ?_
 obtain ⟨fl2,H2,Hp2⟩ := ax H
 refine fj (τ := Rz × Int) (γ := Unit) (fun s2 g2=>⟨63,upd (fun _=>.any) 0 (.own 0 g_data (s2.1.map (al 39 ae)).length),fun _=>none,upd (fun _=>none) 0 (some ⟨g_data,61,(s2.1.map (al 39 ae)),true⟩)⟩) (fun t=>fl2 = .next t) ?_ (fun s2 g2 hn2=>?_)
 ·refine av ?_
  refine gR (fun s2 g2=>⟨63,upd (upd (upd (upd (fun _=>.any) 6 (am s2.2)) 2 (.fn g_cmp caps_cmp)) 1 (am n)) 0 (.own 0 g_data (s2.1.map (al 39 ae)).length),fun _=>none,upd (fun _=>none) 0 (some ⟨g_data,61,(s2.1.map (al 39 ae)),true⟩)⟩) () H2 (Gh.le (bC (PLe.of2 (oG.of_eq (congrArg (PV.own 0 g_data) z27_0))) (aw (aw (aw aY)))) aM (bu aL)) (fun m2 s2 g2 hr2=>?_)
  obtain ⟨fb2,H,hg2⟩ := fD hr2
  refine ab (ao 3 tk rfl ?_)
  refine aH rfl H (fun H=>?_) (fun H=>?_)
  ·refine ap (av (ao 4 tk rfl (ab ?_)))
   obtain ⟨fl5,H5,Hp5⟩ := ax H
   refine fj (τ := Rz × Int × Int) (γ := Unit) (fun s5 g5=>⟨63,upd (upd (upd (upd (upd (fun _=>.any) 7 (am s5.2.1)) 6 (am s2.2)) 2 (.fn g_cmp caps_cmp)) 1 (am n)) 0 (.own 0 g_data (s5.1.map (al 39 ae)).length),fun _=>none,upd (fun _=>none) 0 (some ⟨g_data,61,(s5.1.map (al 39 ae)),true⟩)⟩) (fun t=>fl5 = .next t) ?_ (fun s5 g5 hn5=>?_)
   ·refine av ?_
    refine gR (fun s5 g5=>⟨63,upd (upd (upd (upd (upd (upd (fun _=>.any) 8 (am s5.2.2)) 7 (am s5.2.1)) 6 (am s2.2)) 2 (.fn g_cmp caps_cmp)) 1 (am n)) 0 (.own 0 g_data (s5.1.map (al 39 ae)).length),fun _=>none,upd (fun _=>none) 0 (some ⟨g_data,61,(s5.1.map (al 39 ae)),true⟩)⟩) () H5 Gh.d (fun m5 s5 g5 hr5=>?_)
    obtain ⟨fb5,H,hg5⟩ := fD hr5
    refine ab (ao 3 tk rfl ?_)
    refine aH rfl H (fun H=>?_) (fun H=>?_)
    ·refine ap (av (ab (aa (ag 7 tk rfl ?_))))
     obtain ⟨x43,h43,H⟩ := ax H
     have s43 := jl g_data s5.1 s5.2.1 (IntKind.i64.wrap (s5.2.1 + s2.2)) s5.2.2 cmp hg_cmp hp_cmp _ h43
     obtain ⟨_,q43_0,H⟩ := ax H
     have l43_0 := (de q43_0).1
     have z43_0 : (List.map (al 39 ae) s5.1).length = (List.map (al 39 ae) x43).length := by simpa using (l43_0).symm
     refine eF (g := 219) rfl rfl rfl Tryz.call219 [] [(0,0)] rfl rfl rfl rfl (jx.of2 (iK.cons (oG.own rfl) (iK.cons (oG.of_eq rfl) (iK.cons (oG.of_eq rfl) (iK.cons (oG.of_eq rfl) (iK.cons (oG.of_eq rfl) iK.nil)))))) (by rw [dR,cY,dN]; rfl) s43 ?_
     rintro u43 H43h ⟨rfl,rfl⟩
     refine ⟨_,rfl,?_⟩
     refine cV (st' := ⟨_,_,fun _=>none,upd (fun _=>none) 0 (some ⟨g_data,61,(x43.map (al 39 ae)),true⟩)⟩) (Gh.le (cw _ _) aM (bu aL)) ?_
     refine ac (ao 2 tk rfl (aX 5 tk rfl (aF ?_)))
     obtain rfl := aA H
     refine eu (x43,s5.2.2,(IntKind.i64.wrap (s5.2.2 + (IntKind.i64.wrap ((2 : Int) * s2.2))))) () hg5 (Gh.le (bC (PLe.of2 (oG.of_eq (congrArg (PV.own 0 g_data) z43_0))) (aw (aw (aw (aw (aw aY)))))) aM (bu aL))
    refine bh rfl ?_
    obtain rfl := aA H
    refine aR (s5.1,s5.2.1,s5.2.2) () hg5 Gh.d
   have H := cP hn5 Hp5
   refine ab (ao 4 tk rfl (ao 3 tk rfl ?_))
   refine aH rfl H (fun H=>?_) (fun H=>?_)
   ·refine aa (ag 5 tk rfl ?_)
    obtain ⟨x60,h60,H⟩ := ax H
    have s60 := jl g_data s5.1 s5.2.1 (IntKind.i64.wrap (s5.2.1 + s2.2)) n cmp hg_cmp hp_cmp _ h60
    obtain ⟨_,q60_0,H⟩ := ax H
    have l60_0 := (de q60_0).1
    have z60_0 : (List.map (al 39 ae) s5.1).length = (List.map (al 39 ae) x60).length := by simpa using (l60_0).symm
    refine eF (g := 219) rfl rfl rfl Tryz.call219 [] [(0,0)] rfl rfl rfl rfl (jx.of2 (iK.cons (oG.own rfl) (iK.cons (oG.of_eq rfl) (iK.cons (oG.of_eq rfl) (iK.cons (oG.of_eq rfl) (iK.cons (oG.of_eq rfl) iK.nil)))))) (by rw [dR,cY,dN]; rfl) s60 ?_
    rintro u60 H60h ⟨rfl,rfl⟩
    refine ⟨_,rfl,?_⟩
    refine cV (st' := ⟨_,_,fun _=>none,upd (fun _=>none) 0 (some ⟨g_data,61,(x60.map (al 39 ae)),true⟩)⟩) (Gh.le (cw _ _) aM (bu aL)) ?_
    refine ac (aX 3 tk rfl (aF ?_))
    obtain rfl := aA H
    refine eu (x60,(IntKind.i64.wrap (s2.2 * (2 : Int)))) () hg2 (Gh.le (bC (PLe.of2 (oG.of_eq (congrArg (PV.own 0 g_data) z60_0))) (aw (aw (aw aY)))) aM (bu aL))
   refine ap (aX 3 tk rfl (aF ?_))
   obtain rfl := aA H
   refine eu (s5.1,(IntKind.i64.wrap (s2.2 * (2 : Int)))) () hg2 Gh.d
  refine bh rfl ?_
  obtain rfl := aA H
  refine aR (s2.1,s2.2) () hg2 Gh.d
 have H := cP hn2 Hp2
 obtain rfl := aA H
 refine gS (st' := ⟨63,fun _=>.any,fun _=>none,upd (fun _=>none) 0 (some ⟨g_data,61,(s2.1.map (al 39 ae)),true⟩)⟩) (Gh.le aY aM (bu aL)) ?_
 refine mz rfl (PLe.q rfl) ⟨rfl,rfl⟩
def im (a : Rz) (b : Rz) (on : LJoinalgoCondition) : Option (Rz × Int) :=
 af (ij a b on) fun x25 =>
 cond (x25 != (0 : Int))
  (some ([],x25))
  (af (aE (σ := List (List UInt8 × Rz)) (ρ := Empty) (fun (_ : Nat) (x1 : Rq) (s1 : List (List UInt8 × Rz)) =>
   af (ji x1 on.right) fun x40 =>
   cond x40.2
    (af (dD x40.1) fun x46 =>
    af (dD x40.1) fun _ =>
    af (dh 24 (jB [] s1 x46) ([x1] : Rz)) fun (x53 : Rz) =>
    some (.next (iF s1 x46 x53)))
    (some (.next s1))) 0 b ([] : List (List UInt8 × Rz))) fun fl1=>fl1.thenP fun (s1 : List (List UInt8 × Rz)) =>
  af (aE (σ := Rz) (ρ := Empty) (fun (_ : Nat) (x2 : Rq) (s2 : Rz) =>
   af (ji x2 on.left) fun x65 =>
   af (
    cond x65.2
     (af (dD x65.1) fun x71 =>
     some (jB [] s1 x71))
     (some [])) fun (t9 : Rz) =>
   af (aE (σ := Rz) (ρ := Empty) (fun (_ : Nat) (x10 : Rq) (s10 : Rz) =>
    af (jT x2 x10) fun x82 =>
    af (dh 24 s10 ([x82] : Rz)) fun (x84 : Rz) =>
    some (.next x84)) 0 t9 s2) fun fl10=>fl10.thenP fun (s10 : Rz) =>
   bp (
    cond ((t9.length : Int) == (0 : Int))
     (on.outer)
     (false)) fun (t11 : Bool) =>
   cond t11
    (af (jq x2 on) fun x96 =>
    af (dh 24 s10 ([x96] : Rz)) fun (x98 : Rz) =>
    some (.next x98))
    (some (.next s10))) 0 a []) fun fl2=>fl2.thenP fun (s2 : Rz) =>
  some (s2,0))
theorem sh (a : Rz) (b : Rz) (on : LJoinalgoCondition) (r : Rz × Int) (H : im a b on = some r) :
  aI Tryz.prog 11 [(.list 61 (a.map (al 39 ae))),(.list 61 (b.map (al 39 ae))),(.agg (bH on))] (.tup [(.list 61 (r.1.map (al 39 ae))),(am r.2)]) := by
 unfold im at H
 refine PH.au Tryz.func11 Tryz.ntmps11 ?_
 refine ab (aa (aD ?_))
 refine ag 2 tk rfl (ac (ab (ab (aa (ag 3 tk rfl ?_)))))
 obtain ⟨x25,h25,H⟩ := ax H
 have s25 := se a b on _ h25
 refine ak Tryz.call22 (jx.r) s25 ?_
 refine ah tk rfl (ac (ao 2 tk rfl ?_))
 refine aH rfl H (fun H=>?_) (fun H=>?_)
 ·refine ao 3 tk rfl ?_
  obtain rfl := aA H
  refine bc tk rfl (ps := [(.val (.slice none 0 0)),(am x25)]) ⟨_,_,rfl,rfl,_,_,rfl,rfl,rfl⟩ (PLe.of2 (oG.tup (iK.cons (oG.nil tk rfl) (iK.cons (oG.of_eq rfl) iK.nil))))
 refine ap (ab (aa ?_))
 refine vf rfl rfl rfl rfl mfV fun b29=>?_
 refine cV (st' := ⟨_,_,upd (fun _=>none) 29 (some ⟨b29,(mfC (List.map (al 39 ae)) (fun _=>⟨none,0⟩) ([] : List (List UInt8 × Rz)))⟩),dr 61 (fun _=>⟨none,0⟩) (lR (List.map (al 39 ae)) ([] : List (List UInt8 × Rz))) (fun _=>none)⟩) (Gh.le (cw _ _) (bn rfl (jx.r) aM) (uG aL)) ?_
 refine ah tk rfl (ac (ab (ab (aa (ah tk rfl (az tk (zl _) ?_))))))
 refine ah tk rfl (ac ?_)
 obtain ⟨fl1,H1,Hp1⟩ := ax H
 refine gm tk 30 rfl rfl (fun hz1 _=>?_)
 rw [zl] at hz1
 refine fj (τ := List (List UInt8 × Rz)) (γ := (Nat → OwnRef)) (fun s1 g1=>⟨101,upd (upd (upd (fun _=>.any) 9 (.val (.map (some b29)))) 5 (.ptr (bH on))) 0 (.list 61 (a.map (al 39 ae))),upd (fun _=>none) 29 (some ⟨b29,(mfC (List.map (al 39 ae)) g1 s1)⟩),dr 61 g1 (lR (List.map (al 39 ae)) s1) (fun _=>none)⟩) (fun t=>fl1 = .next t) ?_ (fun s1 g1 hn1=>?_)
 ·refine av ?_
  refine hJ (fun j1 s1 g1=>⟨101,upd (upd (upd (upd (upd (upd (fun _=>.any) 32 (am (j1 : Int))) 31 (am (b.length : Int))) 30 (.list 61 (b.map (al 39 ae)))) 9 (.val (.map (some b29)))) 5 (.ptr (bH on))) 0 (.list 61 (a.map (al 39 ae))),upd (fun _=>none) 29 (some ⟨b29,(mfC (List.map (al 39 ae)) g1 s1)⟩),dr 61 g1 (lR (List.map (al 39 ae)) s1) (fun _=>none)⟩) (fun _=>⟨none,0⟩) H1 (Gh.le (aw (aw (aw (aw (aw (aw aY)))))) (bn rfl (jx.r) aM) (gL (fun i rs h=>by first | exact cd h | (simp only [jg,dA,dZ,Nat.reduceLT]; exact cd h)) aL)) (fun j1 s1 g1 hj1 hr1=>?_)
  refine ao 1 tk rfl (ab ?_)
  refine bg rfl (fun h=>?_) (fun h=>?_)
  ·have hl1 := mZ h
   obtain ⟨x1,fb1,hx1,H,hg1⟩ := rMc hl1 hr1
   refine ap (ab (av (ab (aa ?_))))
   refine aQ tk (zn j1) (bj (fun _=>rfl) hx1) ?_
   refine ag 2 tk rfl (ac (ab (aa (ag 3 tk rfl ?_))))
   obtain ⟨x40,h40,H⟩ := ax H
   have s40 := qK x1 on.right _ h40
   refine ak Tryz.call23 (jx.r) s40 ?_
   refine ag 5 tk rfl (ac (ao 1 tk rfl ?_))
   refine aH rfl H (fun H=>?_) (fun H=>?_)
   ·refine aa (ag 2 tk rfl ?_)
    obtain ⟨x46,h46,H⟩ := ax H
    have s46 := mY x40.1 _ h46
    refine ak Tryz.call24 (jx.r) s46 ?_
    refine ag 2 tk rfl ?_
    obtain ⟨x49,h49,H⟩ := ax H
    obtain rfl := Option.some.inj (h46.symm.trans h49)
    have s49 := mY x40.1 _ h49
    refine ak Tryz.call24 (jx.r) s49 ?_
    refine vg (f := (List.map (al 39 ae))) tk rfl rfl rfl rfl Tryz.underlying77 Tryz.underlying9 rfl rfl rfl 29 rfl rfl rfl (z := []) rfl (fun j rs h=>cd h) (fun g50=>?_)
    refine ah tk rfl (bU tk (rows' := List.map (al 39 ae) ([x1] : Rz)) (fU.refl _) ?_)
    obtain ⟨x53,h53,H⟩ := ax H
    have k53 := cj h53
    refine cf (rows2' := List.map (al 39 ae) ([x1] : Rz)) (rows' := List.map (al 39 ae) x53) tk rfl rfl rfl rfl rfl rfl rfl rfl rfl rfl (dt _ _ _) rfl rfl (fU.refl _) (dC k53.1) (dy k53.2.1) (dB k53.2.2) fun g53=>?_
    refine vk (f := (List.map (al 39 ae))) rfl rfl rfl Tryz.underlying77 Tryz.underlying9 29 rfl rfl rfl rfl x53 rfl (dt _ _ _) (fun j rs h hj=>(dv _ _ (famNe hj)).trans ((dv _ _ (famNe hj)).trans (cd h))) ?_
    refine cV (st' := ⟨_,_,upd (fun _=>none) 29 (some ⟨b29,(mfC (List.map (al 39 ae)) (upd g1 (iG s1 x46) g53) (iF s1 x46 x53))⟩),dr 61 (upd g1 (iG s1 x46) g53) (lR (List.map (al 39 ae)) (iF s1 x46 x53)) (fun _=>none)⟩) (Gh.le (cw _ _) (bn rfl (jx.r) aM) (gL (fun i rs h=>by first | exact cd h | (simp only [jg,dA,dZ,Nat.reduceLT]; exact cd h)) aL)) ?_
    refine ac (aF (aX 2 tk rfl ?_))
    exact bi (upd g1 (iG s1 x46) g53) H hl1 hg1 (Gh.le (aw (aw (aw (aw (aw (bC (PLe.q (eB (by omega))) aY)))))) (bn rfl (jx.r) aM) (gL (fun i rs h=>by first | exact cd h | (simp only [jg,dA,dZ,Nat.reduceLT]; exact cd h)) aL))
   refine ap (aF (aX 2 tk rfl ?_))
   exact bi g1 H hl1 hg1 (Gh.le (aw (aw (aw (aw (aw (bC (PLe.q (eB (by omega))) aY)))))) (bn rfl (jx.r) aM) (gL (fun i rs h=>by first | exact cd h | (simp only [jg,dA,dZ,Nat.reduceLT]; exact cd h)) aL))
  have hn1 := rMd (mS h) hr1
  refine bh rfl ?_
  refine aR s1 g1 hn1 (Gh.le (aw (aw (aw aY))) (bn rfl (jx.r) aM) (gL (fun i rs h=>by first | exact cd h | (simp only [jg,dA,dZ,Nat.reduceLT]; exact cd h)) aL))
 have H := cP hn1 Hp1
 refine ao 1 tk rfl (ab (ab (aa (ah tk rfl (az tk (zl _) ?_)))))
 refine ah tk rfl (ac (gS (Gh.freezeMap (f := (List.map (al 39 ae))) 29 61 rfl) ?_))
 refine gS (st' := ⟨_,_,upd (fun _=>none) 29 (some ⟨b29,(hZ (fun v=>PV.list 61 (List.map (al 39 ae) v)) s1)⟩),fun _=>none⟩) (Gh.le (cw _ _) (bn rfl (jx.r) aM) aL) ?_
 obtain ⟨fl2,H2,Hp2⟩ := ax H
 refine gm tk 55 rfl rfl (fun hz2 _=>?_)
 rw [zl] at hz2
 refine fj (τ := Rz) (γ := OwnRef) (fun s2 g2=>⟨101,upd (upd (fun _=>.any) 14 (.own 84 g2 (s2.map (al 39 ae)).length)) 5 (.ptr (bH on)),fun _=>none,upd (fun _=>none) 84 (some ⟨g2,61,(s2.map (al 39 ae)),true⟩)⟩) (fun t=>fl2 = .next t) ?_ (fun s2 g2 hn2=>?_)
 ·refine av (iA tk 14 84 (e := 61) rfl rfl ?_)
  refine hJ (fun j2 s2 g2=>⟨101,upd (upd (upd (upd (upd (upd (fun _=>.any) 57 (am (j2 : Int))) 56 (am (a.length : Int))) 55 (.list 61 (a.map (al 39 ae)))) 14 (.own 84 g2 (s2.map (al 39 ae)).length)) 9 (.val (.map (some b29)))) 5 (.ptr (bH on)),upd (fun _=>none) 29 (some ⟨b29,(hZ (fun v=>PV.list 61 (List.map (al 39 ae) v)) s1)⟩),upd (fun _=>none) 84 (some ⟨g2,61,(s2.map (al 39 ae)),true⟩)⟩) (⟨none,0⟩) H2 Gh.d (fun j2 s2 g2 hj2 hr2=>?_)
  refine ao 1 tk rfl (ab ?_)
  refine bg rfl (fun h=>?_) (fun h=>?_)
  ·have hl2 := mZ h
   obtain ⟨x2,fb2,hx2,H,hg2⟩ := rMc hl2 hr2
   refine ap (ab (av (ab (aa ?_))))
   refine aQ tk (zn j2) (bj (fun _=>rfl) hx2) ?_
   refine ag 2 tk rfl (ac (ao 1 tk rfl (ab (ab (aa (ag 3 tk rfl ?_))))))
   obtain ⟨x65,h65,H⟩ := ax H
   have s65 := qK x2 on.left _ h65
   refine ak Tryz.call23 (jx.r) s65 ?_
   refine ag 5 tk rfl (ac (ao 1 tk rfl ?_))
   refine gG (γ := Unit) (fun t9 g9=>⟨101,upd (upd (upd (upd (upd (upd (upd (upd (fun _=>.any) 57 (am (j2 : Int))) 56 (am (a.length : Int))) 55 (.list 61 (a.map (al 39 ae)))) 17 (.list 61 (t9.map (al 39 ae)))) 16 (.list 39 (x2.map ae))) 14 (.own 84 g2 (s2.map (al 39 ae)).length)) 9 (.val (.map (some b29)))) 5 (.ptr (bH on)),upd (fun _=>none) 29 (some ⟨b29,(hZ (fun v=>PV.list 61 (List.map (al 39 ae) v)) s1)⟩),upd (fun _=>none) 84 (some ⟨g2,61,(s2.map (al 39 ae)),true⟩)⟩) H (fun _ H=>?_) (fun t9 g9 H=>?_)
   ·refine aH rfl H (fun H=>?_) (fun H=>?_)
    ·refine aa (ag 2 tk rfl ?_)
     obtain ⟨x71,h71,H⟩ := ax H
     have s71 := mY x65.1 _ h71
     refine ak Tryz.call24 (jx.r) s71 ?_
     refine ss tk rfl rfl Tryz.underlying77 Tryz.underlying9 rfl 29 rfl rfl rfl (d := []) (fun M=>nilList_rep tk rfl M) rfl ?_
     refine ah tk rfl (ac ?_)
     refine aR _ () (aA H) Gh.d
    refine ap ?_
    refine aR _ () (aA H) (Gh.le (aw (aw (aw (aw (bC (PLe.of2 (oG.nil tk rfl)) (aw (aw (aw aY)))))))) (bn rfl (jx.r) aM) (bu aL))
   refine ab (ab (aa (ah tk rfl (az tk (zl _) ?_))))
   refine ah tk rfl (ac ?_)
   refine gQ (γ := OwnRef) tk 75 74 73 (fun s10 g10=>upd (upd (upd (upd (upd (upd (upd (upd (fun _=>.any) 57 (am (j2 : Int))) 56 (am (a.length : Int))) 55 (.list 61 (a.map (al 39 ae)))) 17 (.list 61 (t9.map (al 39 ae)))) 16 (.list 39 (x2.map ae))) 14 (.own 84 g10 (s10.map (al 39 ae)).length)) 9 (.val (.map (some b29)))) 5 (.ptr (bH on))) (fun s10 g10=>upd (fun _=>none) 29 (some ⟨b29,(hZ (fun v=>PV.list 61 (List.map (al 39 ae) v)) s1)⟩)) (fun s10 g10=>upd (fun _=>none) 84 (some ⟨g10,61,(s10.map (al 39 ae)),true⟩)) g2 H (fun fl10 Hp10 j10 s10 g10 hz10 hl10 x10 fb10 hx10 H hg10=>?_) (fun s10 g10 H=>?_)
   ·refine ab (av (ab (aa ?_)))
    refine aQ tk (zn j10) (bj (fun _=>rfl) hx10) ?_
    refine ag 2 tk rfl (ac (aa (ag 3 tk rfl ?_)))
    obtain ⟨x82,h82,H⟩ := ax H
    have s82 := uF x2 x10 _ h82
    refine ak Tryz.call25 (jx.r) s82 ?_
    refine bU tk (rows' := List.map (al 39 ae) ([x82] : Rz)) (fU.refl _) ?_
    obtain ⟨x84,h84,H⟩ := ax H
    have k84 := cj h84
    refine cf (rows2' := List.map (al 39 ae) ([x82] : Rz)) (rows' := List.map (al 39 ae) x84) tk rfl rfl rfl rfl rfl rfl rfl rfl rfl rfl rfl rfl rfl (fU.refl _) (dC k84.1) (dy k84.2.1) (dB k84.2.2) fun g84=>?_
    refine ah tk rfl (ac (aF (aX 2 tk rfl ?_)))
    exact bi g84 H hl10 hg10
   refine ab ?_
   refine eQ (γ := Unit) (fun t11 g11=>⟨101,upd (upd (upd (upd (upd (upd (upd (upd (fun _=>.any) 92 (aC t11)) 57 (am (j2 : Int))) 56 (am (a.length : Int))) 55 (.list 61 (a.map (al 39 ae)))) 16 (.list 39 (x2.map ae))) 14 (.own 84 g10 (s10.map (al 39 ae)).length)) 9 (.val (.map (some b29)))) 5 (.ptr (bH on)),upd (fun _=>none) 29 (some ⟨b29,(hZ (fun v=>PV.list 61 (List.map (al 39 ae) v)) s1)⟩),upd (fun _=>none) 84 (some ⟨g10,61,(s10.map (al 39 ae)),true⟩)⟩) H (fun _ H=>?_) (fun t11 g11 H=>?_)
   ·refine aa (ah tk rfl (az tk (zl _) ?_))
    refine ag 2 tk rfl ?_
    refine bf rfl rfl rfl H (fun H=>?_) (fun H=>?_)
    ·refine ag 3 tk rfl (ac ?_)
     refine aR _ () H Gh.d
    refine ag 3 tk rfl (ac ?_)
    refine aR _ () H Gh.d
   refine aH rfl H (fun H=>?_) (fun H=>?_)
   ·refine aa (ag 3 tk rfl ?_)
    obtain ⟨x96,h96,H⟩ := ax H
    have s96 := uu x2 on _ h96
    refine ak Tryz.call26 (jx.r) s96 ?_
    refine bU tk (rows' := List.map (al 39 ae) ([x96] : Rz)) (fU.refl _) ?_
    obtain ⟨x98,h98,H⟩ := ax H
    have k98 := cj h98
    refine cf (rows2' := List.map (al 39 ae) ([x96] : Rz)) (rows' := List.map (al 39 ae) x98) tk rfl rfl rfl rfl rfl rfl rfl rfl rfl rfl rfl rfl rfl (fU.refl _) (dC k98.1) (dy k98.2.1) (dB k98.2.2) fun g98=>?_
    refine ah tk rfl (ac (aF (aX 2 tk rfl ?_)))
    exact bi g98 H hl2 hg2
   refine ap (aF (aX 2 tk rfl ?_))
   exact bi g10 H hl2 hg2
  have hn2 := rMd (mS h) hr2
  refine bh rfl ?_
  refine aR s2 g2 hn2 Gh.d
 have H := cP hn2 Hp2
 refine ao 3 tk rfl (dP 6 rfl rfl rfl ?_)
 exact aW tk H rfl
def eP (sA : LSchema) (c : LConstraint) : Option (Int) :=
 af (fL sA c.table) fun x14 =>
 cond (!x14.2)
  (some 4)
  (af (aJ sA.tables x14.1) fun (x22 : LTable) =>
  bp (hM (LVal.mk 0 0 []) c.op (LVal.mk 0 0 [])) fun x30 =>
  bp (
   cond (decide (c.left < (0 : Int)))
    (true)
    (cond (decide (c.left ≥ (x22.columns.length : Int)))
     (true)
     (cond (x30.2 != (0 : Int))
      (true)
      (cond (decide (c.right < (-1)))
       (true)
       (cond (decide (c.right ≥ (x22.columns.length : Int)))
        (true)
        (cond (decide (c.right ≥ (0 : Int)))
         ((!(c.value.kind == (0 : Int) && (c.value.int == (0 : Int) && (c.value.text == ([] : List UInt8) && true)))))
         (false))))))) fun (t1 : Bool) =>
  cond t1
   (some 3)
   (cond (decide (c.right ≥ (0 : Int)))
    (af (aJ x22.columns c.left) fun (x76 : LCol) =>
    af (aJ x22.columns c.right) fun (x82 : LCol) =>
    cond (x76.kind != x82.kind)
     (some 7)
     (some 0))
    (af (aJ x22.columns c.left) fun (x92 : LCol) =>
    cond (c.value.kind != x92.kind)
     (some 7)
     (bp (dl c.value) fun x98 =>
     some x98))))
theorem ow (sA : LSchema) (c : LConstraint) (r : Int) (H : eP sA c = some r) :
  aI Tryz.prog 76 [(.agg (bW sA)),(.agg (kU c))] (am r) := by
 unfold eP at H
 refine PH.au Tryz.func76 Tryz.ntmps76 ?_
 refine ab (aa (aD ?_))
 refine aD ?_
 refine ah tk rfl (ac (ab (aa (ag 3 tk rfl ?_))))
 obtain ⟨x14,h14,H⟩ := ax H
 have s14 := kZ sA c.table _ h14
 refine ak Tryz.call124 (jx.r) s14 ?_
 refine ag 5 tk rfl (ac (ab (ao 2 tk rfl ?_)))
 refine aH rfl H (fun H=>?_) (fun H=>?_)
 ·refine ao 1 tk rfl ?_
  exact aW tk H rfl
 refine ap (ab (aa (ag 3 tk rfl ?_)))
 obtain ⟨x22,k22,H⟩ := bt H
 refine aQ tk k22.1 (aO (fun _=>rfl) k22.2) ?_
 refine ag 3 tk rfl (ac (ab (aa (ag 4 tk rfl ?_))))
 obtain ⟨x30,h30,H⟩ := cL H
 have s30 := tI (LVal.mk 0 0 []) c.op (LVal.mk 0 0 [])
 rw [h30] at s30
 refine ak Tryz.call127 (jx.r) s30 ?_
 refine ag 5 tk rfl (ac (ab (ab ?_)))
 refine eQ (γ := Unit) (fun t1 g1=>⟨99,upd (upd (upd (fun _=>.any) 69 (aC t1)) 7 (.list 51 (x22.columns.map aN))) 3 (.ptr (kU c)),fun _=>none,fun _=>none⟩) H (fun _ H=>?_) (fun t1 g1 H=>?_)
 ·refine aa (ag 4 tk rfl ?_)
  refine bf rfl rfl rfl H (fun H=>?_) (fun H=>?_)
  ·refine ag 33 tk rfl (ac ?_)
   refine aR _ () H Gh.d
  refine ag 3 tk rfl (az tk (zl _) ?_)
  refine ag 3 tk rfl ?_
  refine bf rfl rfl rfl H (fun H=>?_) (fun H=>?_)
  ·refine ag 26 tk rfl (ac ?_)
   refine aR _ () H Gh.d
  refine ag 4 tk rfl ?_
  refine bf rfl rfl rfl H (fun H=>?_) (fun H=>?_)
  ·refine ag 22 tk rfl (ac ?_)
   refine aR _ () H Gh.d
  refine ag 5 tk rfl ?_
  refine bf rfl rfl rfl H (fun H=>?_) (fun H=>?_)
  ·refine ag 17 tk rfl (ac ?_)
   refine aR _ () H Gh.d
  refine ag 3 tk rfl (az tk (zl _) ?_)
  refine ag 3 tk rfl ?_
  refine bf rfl rfl rfl H (fun H=>?_) (fun H=>?_)
  ·refine ag 10 tk rfl (ac ?_)
   refine aR _ () H Gh.d
  refine ag 4 tk rfl ?_
  refine bf rfl rfl rfl H (fun H=>?_) (fun H=>?_)
  ·refine ag 6 tk rfl (ac ?_)
   refine aR _ () H Gh.d
  refine ag 6 tk rfl (ac ?_)
  refine aR _ () H Gh.d
 refine aH rfl H (fun H=>?_) (fun H=>?_)
 ·refine ao 1 tk rfl ?_
  exact aW tk H rfl
 refine ap (ab (ao 3 tk rfl ?_))
 refine aH rfl H (fun H=>?_) (fun H=>?_)
 ·refine ab (ab (bw tk mok ⟨false,false,[]⟩ [0,1,2,3,4,5,6,7,8,9,10,11,12] rfl (by decide +kernel) rfl (aU 3 rfl ?_)))
  obtain ⟨x76,k76,H⟩ := bt H
  refine bJ k76.1 (aO (fun _=>rfl) k76.2) ?_
  refine aU 5 rfl ?_
  obtain ⟨x82,k82,H⟩ := bt H
  refine bJ k82.1 (aO (fun _=>rfl) k82.2) ?_
  refine aU 3 rfl (br ?_)
  refine aH rfl H (fun H=>?_) (fun H=>?_)
  ·refine ao 1 tk rfl ?_
   exact aW tk H rfl
  refine ap (ao 1 tk rfl ?_)
  exact aW tk H rfl
 refine ap (ab (ab (bw tk mok ⟨false,false,[]⟩ [0,1,2,3,4,5,6,7,8,9] rfl (by decide +kernel) rfl (aU 6 rfl ?_))))
 obtain ⟨x92,k92,H⟩ := bt H
 refine bJ k92.1 (aO (fun _=>rfl) k92.2) ?_
 refine aU 3 rfl (br ?_)
 refine aH rfl H (fun H=>?_) (fun H=>?_)
 ·refine ao 1 tk rfl ?_
  exact aW tk H rfl
 refine ap (ab (aa (ag 2 tk rfl ?_)))
 obtain ⟨x98,h98,H⟩ := cL H
 have s98 := pE c.value
 rw [h98] at s98
 refine ak Tryz.call78 (jx.r) s98 ?_
 refine ah tk rfl (ac ?_)
 exact aW tk H rfl
def eD (c : LChecker) (q : LQuery) (inA : List LCol) : Option ((List LCol) × Int) :=
 af (aE (σ := List LCol) (ρ := ((List LCol) × Int)) (fun (j1 : Nat) (x1 : LExpr) (s1 : List LCol) =>
  bp (cI inA c.vars x1) fun x31 =>
  af (aJ q.names (j1 : Int)) fun (x39 : List UInt8) =>
  bp (db x39) fun x41 =>
  cond (!x41)
   (some (.ret ([],3)))
   (cond (x31.2.2 != (0 : Int))
    (some (.ret ([],x31.2.2)))
    (cond (x31.1 == (0 : Int))
     (some (.ret ([],7)))
     (af (aJ q.names (j1 : Int)) fun (x54 : List UInt8) =>
     af (dh 32 s1 ([(LCol.mk x54 x31.1 x31.2.1)] : List LCol)) fun (x60 : List LCol) =>
     some (.next x60))))) 0 q.exprs []) fun fl1=>fl1.thenR fun (s1 : List LCol) =>
 af (aE (σ := List LCol) (ρ := ((List LCol) × Int)) (fun (_ : Nat) (x2 : LAggregateCall) (s2 : List LCol) =>
  af (gc c inA x2) fun x73 =>
  cond (x73.2 != (0 : Int))
   (some (.ret ([],x73.2)))
   (af (dh 32 s2 ([(LCol.mk x2.name x73.1 (!(x2.function == ([99,111,117,110,116] : List UInt8))))] : List LCol)) fun (x88 : List LCol) =>
   some (.next x88))) 0 q.aggregates s1) fun fl2=>fl2.thenR fun (s2 : List LCol) =>
 some (s2,0)
theorem nu (c : LChecker) (q : LQuery) (inA : List LCol) (r : (List LCol) × Int) (H : eD c q inA = some r) :
  aI Tryz.prog 188 [(.agg (eo c)),(.agg (aG q)),(.list 51 (inA.map aN))] (.tup [(.list 51 (r.1.map aN)),(am r.2)]) := by
 unfold eD at H
 refine PH.au Tryz.func188 Tryz.ntmps188 ?_
 refine ab (aa (aD ?_))
 refine aD ?_
 refine ag 2 tk rfl (ac (ao 1 tk rfl (ab (ab (aa (ag 2 tk rfl (az tk (zl _) ?_)))))))
 refine ah tk rfl (ac (iA tk 8 60 (e := 51) rfl rfl ?_))
 refine fm (γ := OwnRef) tk 21 20 19 (fun s1 g1=>upd (upd (upd (upd (fun _=>.any) 8 (.own 60 g1 (s1.map aN).length)) 4 (.ptr (aG q))) 3 (.ptr (eo c))) 2 (.list 51 (inA.map aN))) nB (fun s1 g1=>upd (fun _=>none) 60 (some ⟨g1,51,(s1.map aN),true⟩)) (⟨none,0⟩) H (fun fl1 Hp1 j1 s1 g1 hz1 hl1 x1 fb1 hx1 H hg1=>?_) (fun s1 g1 H=>?_)
 ·refine ab (av (ab (aa (ah tk rfl (aQ tk (zn j1) (bj dK hx1) ?_)))))
  refine ah tk rfl ?_
  refine ba tk fun b10=>?_
  refine ah tk rfl (aq tk ?_)
  refine ac (ab (aa (ag 3 tk rfl (aB tk ?_))))
  obtain ⟨x31,h31,H⟩ := cL H
  have s31 := nV inA c.vars x1
  rw [h31] at s31
  refine ak Tryz.call189 (jx.r) s31 ?_
  refine ag 7 tk rfl (ac (ab (av (ab (aa (ag 3 tk rfl ?_))))))
  obtain ⟨x39,k39,H⟩ := bt H
  refine aQ tk k39.1 (aO (fun _=>rfl) k39.2) ?_
  refine ah tk rfl ?_
  obtain ⟨x41,h41,H⟩ := cL H
  have s41 := mw x39
  rw [h41] at s41
  refine ak Tryz.call210 (jx.r) s41 ?_
  refine ag 2 tk rfl (ac ?_)
  refine aH rfl H (fun H=>?_) (fun H=>?_)
  ·refine ao 2 tk rfl ?_
   obtain rfl := aA H
   have e1 : fl1 = .ret _ := hg1
   subst e1
   obtain rfl := aT Hp1
   refine bc tk rfl (ps := [(.val (.slice none 0 0)),(am 3)]) ⟨_,_,rfl,rfl,_,_,rfl,rfl,rfl⟩ (PLe.of2 (oG.tup (iK.cons (oG.nil tk rfl) (iK.cons (oG.of_eq rfl) iK.nil))))
  refine ao 3 tk rfl ?_
  refine aH rfl H (fun H=>?_) (fun H=>?_)
  ·refine ao 3 tk rfl ?_
   obtain rfl := aA H
   have e1 : fl1 = .ret _ := hg1
   subst e1
   obtain rfl := aT Hp1
   refine bc tk rfl (ps := [(.val (.slice none 0 0)),(am x31.2.2)]) ⟨_,_,rfl,rfl,_,_,rfl,rfl,rfl⟩ (PLe.of2 (oG.tup (iK.cons (oG.nil tk rfl) (iK.cons (oG.of_eq rfl) iK.nil))))
  refine ao 3 tk rfl ?_
  refine aH rfl H (fun H=>?_) (fun H=>?_)
  ·refine ao 2 tk rfl ?_
   obtain rfl := aA H
   have e1 : fl1 = .ret _ := hg1
   subst e1
   obtain rfl := aT Hp1
   refine bc tk rfl (ps := [(.val (.slice none 0 0)),(am 7)]) ⟨_,_,rfl,rfl,_,_,rfl,rfl,rfl⟩ (PLe.of2 (oG.tup (iK.cons (oG.nil tk rfl) (iK.cons (oG.of_eq rfl) iK.nil))))
  refine ap (aF (aa (ag 4 tk rfl ?_)))
  obtain ⟨x54,k54,H⟩ := bt H
  refine aQ tk k54.1 (aO (fun _=>rfl) k54.2) ?_
  refine ag 4 tk rfl (bU tk (rows' := List.map aN ([(LCol.mk x54 x31.1 x31.2.1)] : List LCol)) (fU.refl _) ?_)
  obtain ⟨x60,h60,H⟩ := ax H
  have k60 := cj h60
  refine cf (rows2' := List.map aN ([(LCol.mk x54 x31.1 x31.2.1)] : List LCol)) (rows' := List.map aN x60) tk rfl rfl rfl rfl rfl rfl rfl rfl rfl rfl rfl rfl rfl (fU.refl _) (dC k60.1) (dy k60.2.1) (dB k60.2.2) fun g60=>?_
  refine ah tk rfl (ac (aF (aX 2 tk rfl ?_)))
  exact bi g60 H hl1 hg1
 refine ab (ab (aa (ag 2 tk rfl (az tk (zl _) ?_))))
 refine ah tk rfl (ac ?_)
 refine fm (γ := OwnRef) tk 65 64 63 (fun s2 g2=>upd (upd (upd (fun _=>.any) 8 (.own 60 g2 (s2.map aN).length)) 3 (.ptr (eo c))) 2 (.list 51 (inA.map aN))) nB (fun s2 g2=>upd (fun _=>none) 60 (some ⟨g2,51,(s2.map aN),true⟩)) g1 H (fun fl2 Hp2 j2 s2 g2 hz2 hl2 x2 fb2 hx2 H hg2=>?_) (fun s2 g2 H=>?_)
 ·refine ab (av (ab (aa ?_)))
  refine aQ tk (zn j2) (bj (fun _=>rfl) hx2) ?_
  refine ah tk rfl ?_
  refine ba tk fun b15=>?_
  refine aq tk ?_
  refine ac (ab (aa (ag 2 tk rfl (aB tk ?_))))
  obtain ⟨x73,h73,H⟩ := ax H
  have s73 := sg c inA x2 _ h73
  refine ak Tryz.call211 (jx.r) s73 ?_
  refine ag 5 tk rfl (ac (ab (ao 2 tk rfl ?_)))
  refine aH rfl H (fun H=>?_) (fun H=>?_)
  ·refine ao 3 tk rfl ?_
   obtain rfl := aA H
   have e2 : fl2 = .ret _ := hg2
   subst e2
   obtain rfl := aT Hp2
   refine bc tk rfl (ps := [(.val (.slice none 0 0)),(am x73.2)]) ⟨_,_,rfl,rfl,_,_,rfl,rfl,rfl⟩ (PLe.of2 (oG.tup (iK.cons (oG.nil tk rfl) (iK.cons (oG.of_eq rfl) iK.nil))))
  refine ap (aa (ag 2 tk rfl (aB tk ?_)))
  refine ag 2 tk rfl (aB tk ?_)
  refine ag 2 tk rfl ?_
  refine bU tk (rows' := List.map aN ([(LCol.mk x2.name x73.1 (!(x2.function == ([99,111,117,110,116] : List UInt8))))] : List LCol)) (fU.refl _) ?_
  obtain ⟨x88,h88,H⟩ := ax H
  have k88 := cj h88
  refine cf (rows2' := List.map aN ([(LCol.mk x2.name x73.1 (!(x2.function == ([99,111,117,110,116] : List UInt8))))] : List LCol)) (rows' := List.map aN x88) tk rfl rfl rfl rfl rfl rfl rfl rfl rfl rfl rfl rfl rfl (fU.refl _) (dC k88.1) (dy k88.2.1) (dB k88.2.2) fun g88=>?_
  refine ah tk rfl (ac (aF (aX 2 tk rfl ?_)))
  exact bi g88 H hl2 hg2
 refine ao 3 tk rfl (dP 6 rfl rfl rfl ?_)
 exact aW tk H rfl
def fy (sA : LSchema) (inst : List LRelation) : Option (Int) :=
 cond ((inst.length : Int) != (sA.tables.length : Int))
  (some 3)
  (af (aE (σ := Unit) (ρ := (Int)) (fun (j1 : Nat) (x1 : LRelation) (_ : Unit) =>
   af (aJ sA.tables (j1 : Int)) fun (x28 : LTable) =>
   cond (!(x1.table == x28.name))
    (some (.ret 3))
    (cond (decide ((x1.rows.length : Int) > (24 : Int)))
     (some (.ret 2))
     (af (aE (σ := Unit) (ρ := (Int)) (fun (j3 : Nat) (x3 : Rq) (_ : Unit) =>
      af (er x28 x3) fun x49 =>
      cond (x49 != (0 : Int))
       (some (.ret x49))
       (cond ((j3 : Int) == (0 : Int))
        (some (.next ()))
        (af (aJ x1.rows (IntKind.i64.wrap ((j3 : Int) - (1 : Int)))) fun (x60 : Rq) =>
        af (cX x28 x60) fun x62 =>
        af (cX x28 x3) fun x65 =>
        af (dJ x62 x65) fun x66 =>
        cond (x66 == (0 : Int))
         (some (.ret 9))
         (cond (decide (x66 > (0 : Int)))
          (some (.ret 6))
          (some (.next ())))))) 0 x1.rows ()) fun fl3=>fl3.thenF fun (_ : Unit) =>
     some (.next ())))) 0 inst ()) fun fl1=>fl1.thenR fun (_ : Unit) =>
  some 0)
theorem ng (sA : LSchema) (inst : List LRelation) (r : Int) (H : fy sA inst = some r) :
  aI Tryz.prog 20 [(.agg (bW sA)),(.list 68 (inst.map dw))] (am r) := by
 unfold fy at H
 refine PH.au Tryz.func20 Tryz.ntmps20 ?_
 refine ab (aa (aD ?_))
 refine ah tk rfl (ac (ab (ab (aa (ah tk rfl (az tk (zl _) ?_))))))
 refine ag 2 tk rfl (az tk (zl _) ?_)
 refine ah tk rfl (ac ?_)
 refine aH rfl H (fun H=>?_) (fun H=>?_)
 ·refine ao 1 tk rfl ?_
  exact aW tk H rfl
 refine ap (ab (ab (aa (ah tk rfl (az tk (zl _) ?_)))))
 refine ah tk rfl (ac ?_)
 refine fm tk 20 19 18 (fun s1 g1=>upd (fun _=>.any) 2 (.ptr (bW sA))) nB nO () H (fun fl1 Hp1 j1 s1 g1 hz1 hl1 x1 fb1 hx1 H hg1=>?_) (fun s1 g1 H=>?_)
 ·refine ab (av (ab (aa (ah tk rfl ?_))))
  refine aQ tk (zn j1) (bj (fun _=>rfl) hx1) ?_
  refine ah tk rfl ?_
  refine ba tk fun b6=>?_
  refine ah tk rfl (aq tk ?_)
  refine ac (ab (aa (ag 3 tk rfl ?_)))
  obtain ⟨x28,k28,H⟩ := bt H
  refine aQ tk k28.1 (aO (fun _=>rfl) k28.2) ?_
  refine ah tk rfl ?_
  refine ba tk fun b7=>?_
  refine aq tk ?_
  refine ac (ab (ab (aa (ah tk rfl (aB tk ?_)))))
  refine ah tk rfl (aB tk ?_)
  refine ah tk rfl (ac ?_)
  refine aH rfl H (fun H=>?_) (fun H=>?_)
  ·refine ao 1 tk rfl ?_
   obtain rfl := aA H
   have e1 : fl1 = .ret _ := hg1
   subst e1
   obtain rfl := aT Hp1
   refine bc tk rfl (ps := [(am 3)]) ⟨_,_,rfl,rfl,rfl⟩ (PLe.q rfl)
  refine ap (ab (ab (aa (ah tk rfl (aB tk ?_)))))
  refine az tk (zl _) ?_
  refine ah tk rfl (ac ?_)
  refine aH rfl H (fun H=>?_) (fun H=>?_)
  ·refine ao 1 tk rfl ?_
   obtain rfl := aA H
   have e1 : fl1 = .ret _ := hg1
   subst e1
   obtain rfl := aT Hp1
   refine bc tk rfl (ps := [(am 2)]) ⟨_,_,rfl,rfl,rfl⟩ (PLe.q rfl)
  refine ap (ab (aa (ah tk rfl (aB tk ?_))))
  refine az tk (zl _) ?_
  refine ah tk rfl (ac ?_)
  obtain ⟨fl3,H3,Hp3⟩ := ax H
  refine gm tk 40 rfl rfl (fun hz3 _=>?_)
  rw [zl] at hz3
  refine fj (τ := Unit) (γ := Unit) (fun s3 g3=>⟨75,upd (upd (upd (upd (fun _=>.any) 20 (am (j1 : Int))) 19 (am (inst.length : Int))) 18 (.list 68 (inst.map dw))) 2 (.ptr (bW sA)),fun _=>none,fun _=>none⟩) (fun t=>fl3 = .next t) ?_ (fun s3 g3 hn3=>?_)
  ·refine av ?_
   refine hJ (fun j3 s3 g3=>⟨75,upd (upd (upd (upd (upd (upd (upd (upd (upd (fun _=>.any) 42 (am (j3 : Int))) 41 (am (x1.rows.length : Int))) 40 (.list 61 (x1.rows.map (al 39 ae)))) 20 (am (j1 : Int))) 19 (am (inst.length : Int))) 18 (.list 68 (inst.map dw))) 7 (.box 7 b7 0)) 6 (.box 6 b6 0)) 2 (.ptr (bW sA)),upd (upd (fun _=>none) 7 (some ⟨b7,(cD x28)⟩)) 6 (some ⟨b6,(dw x1)⟩),fun _=>none⟩) () H3 Gh.d (fun j3 s3 g3 hj3 hr3=>?_)
   refine ao 1 tk rfl (ab ?_)
   refine bg rfl (fun h=>?_) (fun h=>?_)
   ·have hl3 := mZ h
    obtain ⟨x3,fb3,hx3,H,hg3⟩ := rMc hl3 hr3
    refine ap (ab (av (ab (aa (ah tk rfl ?_)))))
    refine aQ tk (zn j3) (bj (fun _=>rfl) hx3) ?_
    refine ag 3 tk rfl (ac (ab (ab (aa (aB tk ?_)))))
    refine ah tk rfl ?_
    obtain ⟨x49,h49,H⟩ := ax H
    have s49 := qz x28 x3 _ h49
    refine ak Tryz.call45 (jx.r) s49 ?_
    refine ah tk rfl (ac (ao 2 tk rfl ?_))
    refine aH rfl H (fun H=>?_) (fun H=>?_)
    ·refine ao 2 tk rfl ?_
     obtain rfl := aA H
     have e3 : fl3 = .ret _ := hg3
     subst e3
     have q3 := oq Hp3
     subst q3
     have e1 : fl1 = .ret _ := hg1
     subst e1
     obtain rfl := aT Hp1
     refine bc tk rfl (ps := [(am x49)]) ⟨_,_,rfl,rfl,rfl⟩ (PLe.q rfl)
    refine ap (ab (ao 2 tk rfl ?_))
    refine aH rfl H (fun H=>?_) (fun H=>?_)
    ·refine bh rfl (aX 2 tk rfl ?_)
     exact bi () H hl3 hg3
    refine ap (ab (bw tk mok ⟨true,false,[61]⟩ [0,1,2,3,4,5,6,8,9,7,10,11,12] rfl (by decide +kernel) rfl (cu ?_)))
    refine bT rfl (cu ?_)
    refine aU 2 rfl ?_
    obtain ⟨x60,k60,H⟩ := bt H
    refine bJ k60.1 (aO (fun _=>rfl) k60.2) ?_
    refine bT rfl (cu ?_)
    refine bT rfl ?_
    obtain ⟨x62,h62,H⟩ := ax H
    have s62 := qL x28 x60 _ h62
    refine aV Tryz.call47 (jx.r) s62 ?_
    obtain ⟨x65,h65,H⟩ := ax H
    have s65 := qL x28 x3 _ h65
    refine aV Tryz.call47 (jx.r) s65 ?_
    obtain ⟨x66,h66,H⟩ := ax H
    have s66 := sd x62 x65 _ h66
    refine aV Tryz.call46 (jx.r) s66 ?_
    refine bT rfl (br (av (ao 3 tk rfl ?_)))
    refine aH rfl H (fun H=>?_) (fun H=>?_)
    ·refine ao 1 tk rfl ?_
     obtain rfl := aA H
     have e3 : fl3 = .ret _ := hg3
     subst e3
     have q3 := oq Hp3
     subst q3
     have e1 : fl1 = .ret _ := hg1
     subst e1
     obtain rfl := aT Hp1
     refine bc tk rfl (ps := [(am 9)]) ⟨_,_,rfl,rfl,rfl⟩ (PLe.q rfl)
    refine ao 3 tk rfl ?_
    refine aH rfl H (fun H=>?_) (fun H=>?_)
    ·refine ao 1 tk rfl ?_
     obtain rfl := aA H
     have e3 : fl3 = .ret _ := hg3
     subst e3
     have q3 := oq Hp3
     subst q3
     have e1 : fl1 = .ret _ := hg1
     subst e1
     obtain rfl := aT Hp1
     refine bc tk rfl (ps := [(am 6)]) ⟨_,_,rfl,rfl,rfl⟩ (PLe.q rfl)
    refine ap (aF (aF (aX 2 tk rfl ?_)))
    exact bi () H hl3 hg3
   have hn3 := rMd (mS h) hr3
   refine bh rfl ?_
   refine aR s3 g3 hn3 Gh.d
  have H := thenF_next hn3 Hp3
  refine aF (aX 2 tk rfl ?_)
  exact bi () H hl1 hg1
 refine ao 1 tk rfl ?_
 exact aW tk H rfl
def iB (x : Rq) (c0 : LRun) (c1 : List LCol) (c2 : LQuery) : Option (Bool) :=
 af (aJ c2.exprs 0) fun (x12 : LExpr) =>
 bp (aS c0 c1 x) fun x9 =>
 bp (bR x9 x12) fun x14 =>
 bp (ir x14) fun x15 =>
 some (!x15)
theorem sK (x : Rq) (c0 : LRun) (c1 : List LCol) (c2 : LQuery) (r : Bool) (H : iB x c0 c1 c2 = some r) :
  aI Tryz.prog 115 [(.list 39 (x.map ae)),(.ptr (dE c0)),(.ptr [(.list 51 (c1.map aN))]),(.ptr (aG c2))] (aC r) := by
 unfold iB at H
 refine PH.au Tryz.func115 Tryz.ntmps115 ?_
 refine ao 1 tk rfl (ab (bw tk mok ⟨false,false,[]⟩ [0,1,2,4,5,6,7,3,8,9,10,11] rfl (by decide +kernel) rfl (aU 5 rfl ?_)))
 obtain ⟨x12,k12,H⟩ := bt H
 refine bJ k12.1 (aO dK k12.2) ?_
 refine bT rfl ?_
 obtain ⟨x9,h9,H⟩ := cL H
 have s9 := kR c0 c1 x
 rw [h9] at s9
 refine aV Tryz.call118 (jx.r) s9 ?_
 obtain ⟨x14,h14,H⟩ := cL H
 have s14 := oA x9 x12
 rw [h14] at s14
 refine aV Tryz.call117 (jx.r) s14 ?_
 obtain ⟨x15,h15,H⟩ := cL H
 have s15 := isTS x14
 rw [h15] at s15
 refine aV Tryz.call116 (jx.r) s15 ?_
 refine aU 2 rfl (br ?_)
 exact aW tk H rfl
def dq (rA : LRun) (cols : List LCol) (x : Rq) (l : List LExpr) : Option (Rq) :=
 af (aE (σ := Rq) (ρ := Empty) (fun (_ : Nat) (x1 : LExpr) (s1 : Rq) =>
  bp (aS rA cols x) fun x22 =>
  bp (bR x22 x1) fun x24 =>
  af (dh 32 s1 ([x24] : Rq)) fun (x26 : Rq) =>
  some (.next x26)) 0 l []) fun fl1=>fl1.thenP fun (s1 : Rq) =>
 some s1
theorem jW (rA : LRun) (cols : List LCol) (x : Rq) (l : List LExpr) (r : Rq) (H : dq rA cols x l = some r) :
  aI Tryz.prog 119 [(.agg (dE rA)),(.list 51 (cols.map aN)),(.list 39 (x.map ae)),(.list 41 (l.map eA))] (.list 39 (r.map ae)) := by
 unfold dq at H
 refine PH.au Tryz.func119 Tryz.ntmps119 ?_
 refine ab (aa (aD ?_))
 refine ah tk rfl (ac (ao 1 tk rfl (ab (ab (aa (ah tk rfl (az tk (zl _) ?_)))))))
 refine ah tk rfl (ac (iA tk 9 26 (e := 39) rfl rfl ?_))
 refine gQ (γ := OwnRef) tk 14 13 12 (fun s1 g1=>upd (upd (upd (upd (fun _=>.any) 9 (.own 26 g1 (s1.map ae).length)) 4 (.ptr (dE rA))) 2 (.list 39 (x.map ae))) 1 (.list 51 (cols.map aN))) nB (fun s1 g1=>upd (fun _=>none) 26 (some ⟨g1,39,(s1.map ae),true⟩)) (⟨none,0⟩) H (fun fl1 Hp1 j1 s1 g1 hz1 hl1 x1 fb1 hx1 H hg1=>?_) (fun s1 g1 H=>?_)
 ·refine ab (av (ab (aa (aQ tk (zn j1) (bj dK hx1) ?_))))
  refine ah tk rfl ?_
  refine ba tk fun b11=>?_
  refine aq tk ?_
  refine ac (bw tk mok ⟨true,false,[19]⟩ [0,1,2,3,5,4,6,7,8,9] rfl (by decide +kernel) rfl (aU 4 rfl (cu ?_)))
  obtain ⟨x22,h22,H⟩ := cL H
  have s22 := kR rA cols x
  rw [h22] at s22
  refine aV Tryz.call118 (jx.r) s22 ?_
  obtain ⟨x24,h24,H⟩ := cL H
  have s24 := oA x22 x1
  rw [h24] at s24
  refine aV Tryz.call117 (jx.r) s24 ?_
  refine bT rfl ?_
  obtain ⟨x26,h26,H⟩ := ax H
  have k26 := cj h26
  refine mM (rows2' := List.map ae ([x24] : Rq)) (rows' := List.map ae x26) tk rfl rfl rfl rfl rfl rfl rfl rfl rfl rfl rfl rfl rfl rfl (fU.refl _) (dC k26.1) (dy k26.2.1) (dB k26.2.2) fun g26=>?_
  refine bT rfl (br (aF (aX 2 tk rfl ?_)))
  exact bi g26 H hl1 hg1
 refine ao 2 tk rfl (dP 8 rfl rfl rfl ?_)
 exact aW tk H rfl
def jN (rA : LRun) (a : LAggregateCall) (cols : List LCol) (l : Rz) : Option (LVal) :=
 cond ((a.args.length : Int) == (0 : Int))
  (bp (fR (l.length : Int)) fun x19 =>
  some x19)
  (af (aE (σ := Rq) (ρ := Empty) (fun (_ : Nat) (x1 : Rq) (s1 : Rq) =>
   af (aJ a.args 0) fun (x32 : LExpr) =>
   bp (aS rA cols x1) fun x29 =>
   bp (bR x29 x32) fun x34 =>
   cond (x34.kind != (0 : Int))
    (af (dh 32 s1 ([x34] : Rq)) fun (x41 : Rq) =>
    some (.next x41))
    (some (.next s1))) 0 l []) fun fl1=>fl1.thenP fun (s1 : Rq) =>
  af (fI a.function s1) fun x46 =>
  some x46)
theorem uz (rA : LRun) (a : LAggregateCall) (cols : List LCol) (l : Rz) (r : LVal) (H : jN rA a cols l = some r) :
  aI Tryz.prog 163 [(.agg (dE rA)),(.agg (kS a)),(.list 51 (cols.map aN)),(.list 61 (l.map (al 39 ae)))] (.agg (ae r)) := by
 unfold jN at H
 refine PH.au Tryz.func163 Tryz.ntmps163 ?_
 refine ab (aa (aD ?_))
 refine aD ?_
 refine ba tk fun b8=>?_
 refine ac (ab (ab (aa (ag 2 tk rfl (az tk (zl _) ?_)))))
 refine ah tk rfl (ac ?_)
 refine aH rfl H (fun H=>?_) (fun H=>?_)
 ·refine ab (aa (ah tk rfl (az tk (zl _) ?_)))
  obtain ⟨x19,h19,H⟩ := cL H
  have s19 := rx (l.length : Int)
  rw [h19] at s19
  refine ak Tryz.call182 (jx.r) s19 ?_
  refine aq tk ?_
  refine ac ?_
  exact uJ tk H rfl rfl rfl rfl rfl
 refine ap (ao 1 tk rfl (ab (ab (aa (ah tk rfl (az tk (zl _) ?_))))))
 refine ah tk rfl (ac (iA tk 9 41 (e := 39) rfl rfl ?_))
 refine gQ (γ := OwnRef) tk 22 21 20 (fun s1 g1=>upd (upd (upd (upd (upd (fun _=>.any) 9 (.own 41 g1 (s1.map ae).length)) 8 (.box 8 b8 0)) 5 (.ptr (kS a))) 4 (.ptr (dE rA))) 2 (.list 51 (cols.map aN))) (fun s1 g1=>upd (fun _=>none) 8 (some ⟨b8,[(am 0),(am 0),(.str [])]⟩)) (fun s1 g1=>upd (fun _=>none) 41 (some ⟨g1,39,(s1.map ae),true⟩)) (⟨none,0⟩) H (fun fl1 Hp1 j1 s1 g1 hz1 hl1 x1 fb1 hx1 H hg1=>?_) (fun s1 g1 H=>?_)
 ·refine ab (av (ab (aa ?_)))
  refine aQ tk (zn j1) (bj (fun _=>rfl) hx1) ?_
  refine ag 2 tk rfl (ac (ab (bw tk mok ⟨false,false,[]⟩ [0,1,2,4,5,6,7,3,8,9,10] rfl (by decide +kernel) rfl (aU 5 rfl ?_))))
  obtain ⟨x32,k32,H⟩ := bt H
  refine bJ k32.1 (aO dK k32.2) ?_
  refine bT rfl ?_
  obtain ⟨x29,h29,H⟩ := cL H
  have s29 := kR rA cols x1
  rw [h29] at s29
  refine aV Tryz.call118 (jx.r) s29 ?_
  obtain ⟨x34,h34,H⟩ := cL H
  have s34 := oA x29 x32
  rw [h34] at s34
  refine aV Tryz.call117 (jx.r) s34 ?_
  refine rQ rfl rfl rfl rfl rfl rfl rfl rfl fun b12=>?_
  refine ff ?_
  refine br (ab (aa (ah tk rfl (aB tk ?_))))
  refine ah tk rfl (ac ?_)
  refine aH rfl H (fun H=>?_) (fun H=>?_)
  ·refine aa (ah tk rfl (aB tk ?_))
   refine bU tk (rows' := List.map ae ([x34] : Rq)) (fU.refl _) ?_
   obtain ⟨x41,h41,H⟩ := ax H
   have k41 := cj h41
   refine cf (rows2' := List.map ae ([x34] : Rq)) (rows' := List.map ae x41) tk rfl rfl rfl rfl rfl rfl rfl rfl rfl rfl rfl rfl rfl (fU.refl _) (dC k41.1) (dy k41.2.1) (dB k41.2.2) fun g41=>?_
   refine ah tk rfl (ac (aF (aX 2 tk rfl ?_)))
   exact bi g41 H hl1 hg1
  refine ap (aF (aX 2 tk rfl ?_))
  exact bi g1 H hl1 hg1
 refine ab (dP 9 rfl rfl rfl (aa (ag 3 tk rfl ?_)))
 obtain ⟨x46,h46,H⟩ := ax H
 have s46 := pL a.function s1 _ h46
 refine ak Tryz.call195 (jx.r) s46 ?_
 refine aq tk ?_
 refine ac ?_
 exact uJ tk H rfl rfl rfl rfl rfl
def cA (x : Rz) (cmp : Rq → Rq → Option (Int)) : Option (Rz) :=
 af (eg x (x.length : Int) cmp) fun x8 =>
 af (eO (x8.length = x.length) ()) fun (_ : Unit) =>
 some x8
theorem ky (g_x : OwnRef) {g_cmp : FuncId} {caps_cmp : List PV} (x : Rz) (cmp : Rq → Rq → Option (Int)) (hg_cmp : ∀ (vs : Array Value) (w : World),(callFunc g_cmp vs).run Tryz.prog w = .ok (.enter g_cmp vs) w) (hp_cmp : ∀ a0 a1 r,cmp a0 a1 = some r → aI Tryz.prog g_cmp ((.list 39 (a0.map ae)) :: (.list 39 (a1.map ae)) :: caps_cmp) (am r)) (r : Rz) (H : cA x cmp = some r) :
  PH Tryz.prog 164 [(.own 0 g_x (x.map (al 39 ae)).length),(.fn g_cmp caps_cmp)] ⟨fun _=>none,upd (fun _=>none) 0 (some ⟨g_x,61,(x.map (al 39 ae)),true⟩)⟩ (fun u H=>u = (.tup []) ∧ H = ⟨fun _=>none,upd (fun _=>none) 0 (some ⟨g_x,61,(r.map (al 39 ae)),true⟩)⟩) := by
 unfold cA at H
 refine PH.au Tryz.func164 Tryz.ntmps164 ?_
 refine aa (ag 2 tk rfl (kB tk (zl _) ?_))
 refine ah tk rfl ?_
 obtain ⟨x8,h8,H⟩ := ax H
 have s8 := mJ g_x x (x.length : Int) cmp hg_cmp hp_cmp _ h8
 obtain ⟨_,q8_0,H⟩ := ax H
 have l8_0 := (de q8_0).1
 have z8_0 : (List.map (al 39 ae) x).length = (List.map (al 39 ae) x8).length := by simpa using (l8_0).symm
 refine eF (g := 196) rfl rfl rfl Tryz.call196 [] [(0,0)] rfl rfl rfl rfl (jx.of2 (iK.cons (oG.own rfl) (iK.cons (oG.of_eq rfl) (iK.cons (oG.of_eq rfl) iK.nil)))) (by rw [dR,cY,dN]; rfl) s8 ?_
 rintro u8 H8h ⟨rfl,rfl⟩
 refine ⟨_,rfl,?_⟩
 refine cV (st' := ⟨_,_,fun _=>none,upd (fun _=>none) 0 (some ⟨g_x,61,(x8.map (al 39 ae)),true⟩)⟩) (Gh.le (cw _ _) aM (bu aL)) ?_
 refine ac ?_
 obtain rfl := aA H
 refine gS (st' := ⟨9,fun _=>.any,fun _=>none,upd (fun _=>none) 0 (some ⟨g_x,61,(x8.map (al 39 ae)),true⟩)⟩) (Gh.le aY aM (bu aL)) ?_
 refine mz rfl (PLe.q rfl) ⟨rfl,rfl⟩
def iT (sA : LSchema) : Option (Int) :=
 bp (
  cond (decide ((sA.tables.length : Int) > (6 : Int)))
   (true)
   (cond (decide ((sA.foreignKeys.length : Int) > (8 : Int)))
    (true)
    ((decide ((sA.constraints.length : Int) > (8 : Int)))))) fun (t1 : Bool) =>
 cond t1
  (some 2)
  (af (aE (σ := Unit) (ρ := (Int)) (fun (j2 : Nat) (x2 : LTable) (_ : Unit) =>
   af (ft x2) fun x37 =>
   cond (x37 != (0 : Int))
    (some (.ret x37))
    (cond (decide ((j2 : Int) > (0 : Int)))
     (af (aJ sA.tables (IntKind.i64.wrap ((j2 : Int) - (1 : Int)))) fun (x50 : LTable) =>
     cond (Op.bytesLess x2.name x50.name || x2.name == x50.name)
      (some (.ret 6))
      (some (.next ())))
     (some (.next ())))) 0 sA.tables ()) fun fl2=>fl2.thenR fun (_ : Unit) =>
  af (aE (σ := Unit) (ρ := (Int)) (fun (j3 : Nat) (x3 : LForeignKey) (_ : Unit) =>
   af (eM sA x3) fun x66 =>
   cond (x66 != (0 : Int))
    (some (.ret x66))
    (af (oH sA.foreignKeys 0 (j3 : Int)) fun (x73 : List LForeignKey) =>
    af (bN x73 (fun a0=>gg a0 x3)) fun x75 =>
    cond x75
     (some (.ret 5))
     (some (.next ())))) 0 sA.foreignKeys ()) fun fl3=>fl3.thenR fun (_ : Unit) =>
  af (aE (σ := Unit) (ρ := (Int)) (fun (j4 : Nat) (x4 : LConstraint) (_ : Unit) =>
   af (eP sA x4) fun x87 =>
   cond (x87 != (0 : Int))
    (some (.ret x87))
    (af (oH sA.constraints 0 (j4 : Int)) fun (x94 : List LConstraint) =>
    af (bS x94 x4) fun x96 =>
    cond x96
     (some (.ret 5))
     (some (.next ())))) 0 sA.constraints ()) fun fl4=>fl4.thenR fun (_ : Unit) =>
  some 0)
theorem tG (sA : LSchema) (r : Int) (H : iT sA = some r) :
  aI Tryz.prog 43 [(.agg (bW sA))] (am r) := by
 unfold iT at H
 refine PH.au Tryz.func43 Tryz.ntmps43 ?_
 refine ab (aa (aD ?_))
 refine ah tk rfl (ac (ab (ab ?_)))
 refine eQ (γ := Unit) (fun t1 g1=>⟨98,upd (upd (fun _=>.any) 27 (aC t1)) 1 (.ptr (bW sA)),fun _=>none,fun _=>none⟩) H (fun _ H=>?_) (fun t1 g1 H=>?_)
 ·refine aa (ag 2 tk rfl (az tk (zl _) ?_))
  refine ag 2 tk rfl ?_
  refine bf rfl rfl rfl H (fun H=>?_) (fun H=>?_)
  ·refine ag 11 tk rfl (ac ?_)
   refine aR _ () H Gh.d
  refine ag 2 tk rfl (az tk (zl _) ?_)
  refine ag 3 tk rfl ?_
  refine bf rfl rfl rfl H (fun H=>?_) (fun H=>?_)
  ·refine ag 5 tk rfl (ac ?_)
   refine aR _ () H Gh.d
  refine ag 2 tk rfl (az tk (zl _) ?_)
  refine ag 2 tk rfl (ac ?_)
  refine aR _ () H Gh.d
 refine aH rfl H (fun H=>?_) (fun H=>?_)
 ·refine ao 1 tk rfl ?_
  exact aW tk H rfl
 refine ap (ab (ab (aa (ag 2 tk rfl (az tk (zl _) ?_)))))
 refine ah tk rfl (ac ?_)
 refine fm tk 31 30 29 (fun s2 g2=>upd (fun _=>.any) 1 (.ptr (bW sA))) nB nO () H (fun fl2 Hp2 j2 s2 g2 hz2 hl2 x2 fb2 hx2 H hg2=>?_) (fun s2 g2 H=>?_)
 ·refine ab (av (ab (aa (ah tk rfl ?_))))
  refine aQ tk (zn j2) (bj (fun _=>rfl) hx2) ?_
  refine ah tk rfl ?_
  refine ba tk fun b4=>?_
  refine ah tk rfl (aq tk ?_)
  refine ac (ab (ab (aa (aB tk ?_))))
  obtain ⟨x37,h37,H⟩ := ax H
  have s37 := qw x2 _ h37
  refine ak Tryz.call71 (jx.r) s37 ?_
  refine ah tk rfl (ac (ao 2 tk rfl ?_))
  refine aH rfl H (fun H=>?_) (fun H=>?_)
  ·refine ao 2 tk rfl ?_
   obtain rfl := aA H
   have e2 : fl2 = .ret _ := hg2
   subst e2
   obtain rfl := aT Hp2
   refine bc tk rfl (ps := [(am x37)]) ⟨_,_,rfl,rfl,rfl⟩ (PLe.q rfl)
  refine ap (ab (bw tk mok ⟨true,false,[47,52]⟩ [0,1,2,3,4,5,6,7,8,9,10,11,12,13] rfl (by decide +kernel) rfl (aU 3 rfl ?_)))
  refine om H (fun H=>?_) (fun H=>?_)
  ·refine bT rfl (cu ?_)
   refine aU 4 rfl ?_
   obtain ⟨x50,k50,H⟩ := bt H
   refine bJ k50.1 (aO (fun _=>rfl) k50.2) ?_
   refine aU 4 rfl (br ?_)
   refine aH rfl H (fun H=>?_) (fun H=>?_)
   ·refine ao 1 tk rfl ?_
    obtain rfl := aA H
    have e2 : fl2 = .ret _ := hg2
    subst e2
    obtain rfl := aT Hp2
    refine bc tk rfl (ps := [(am 6)]) ⟨_,_,rfl,rfl,rfl⟩ (PLe.q rfl)
   refine ap (aF (aX 2 tk rfl ?_))
   exact bi () H hl2 hg2
  refine aU 11 rfl (br (bB rfl (ap (aF (aX 2 tk rfl ?_)))))
  exact bi () H hl2 hg2
 refine ab (ab (aa (ag 2 tk rfl (az tk (zl _) ?_))))
 refine ah tk rfl (ac ?_)
 refine fm tk 59 58 57 (fun s3 g3=>upd (fun _=>.any) 1 (.ptr (bW sA))) nB nO () H (fun fl3 Hp3 j3 s3 g3 hz3 hl3 x3 fb3 hx3 H hg3=>?_) (fun s3 g3 H=>?_)
 ·refine ab (av (ab (aa (ah tk rfl ?_))))
  refine aQ tk (zn j3) (bj (fun _=>rfl) hx3) ?_
  refine ah tk rfl ?_
  refine ba tk fun b7=>?_
  refine ah tk rfl (aq tk ?_)
  refine ac (ab (ab (aa (ah tk rfl (aB tk ?_)))))
  obtain ⟨x66,h66,H⟩ := ax H
  have s66 := nW sA x3 _ h66
  refine ak Tryz.call72 (jx.r) s66 ?_
  refine ah tk rfl (ac (ao 2 tk rfl ?_))
  refine aH rfl H (fun H=>?_) (fun H=>?_)
  ·refine ao 2 tk rfl ?_
   obtain rfl := aA H
   have e3 : fl3 = .ret _ := hg3
   subst e3
   obtain rfl := aT Hp3
   refine bc tk rfl (ps := [(am x66)]) ⟨_,_,rfl,rfl,rfl⟩ (PLe.q rfl)
  refine ap (ab (aa (ag 3 tk rfl ?_)))
  obtain ⟨x73,h73,H⟩ := ax H
  have k73 := qd h73
  refine uK tk rfl rfl rfl rfl rfl (zl _) rfl rfl k73.1 (rm k73.2) rfl (cV (Gh.freezeB 7 rfl rfl rfl rfl) (ah tk rfl ?_))
  obtain ⟨x75,h75,H⟩ := ax H
  have s75 := iN x73 (fun a0=>gg a0 x3) Tryz.call74 (fun a0 r h=>sm a0 x3 r h) _ h75
  refine ak Tryz.call73 (jx.r) s75 ?_
  refine ac ?_
  refine aH rfl H (fun H=>?_) (fun H=>?_)
  ·refine ao 1 tk rfl ?_
   obtain rfl := aA H
   have e3 : fl3 = .ret _ := hg3
   subst e3
   obtain rfl := aT Hp3
   refine bc tk rfl (ps := [(am 5)]) ⟨_,_,rfl,rfl,rfl⟩ (PLe.q rfl)
  refine ap (aF (aX 2 tk rfl ?_))
  exact bi () H hl3 hg3
 refine ab (ab (aa (ag 2 tk rfl (az tk (zl _) ?_))))
 refine ah tk rfl (ac ?_)
 refine fm tk 80 79 78 (fun s4 g4=>upd (fun _=>.any) 1 (.ptr (bW sA))) nB nO () H (fun fl4 Hp4 j4 s4 g4 hz4 hl4 x4 fb4 hx4 H hg4=>?_) (fun s4 g4 H=>?_)
 ·refine ab (av (ab (aa (ah tk rfl ?_))))
  refine aQ tk (zn j4) (bj (fun _=>rfl) hx4) ?_
  refine ah tk rfl ?_
  refine ba tk fun b10=>?_
  refine ah tk rfl (aq tk ?_)
  refine ac (ab (ab (aa (ah tk rfl (aB tk ?_)))))
  obtain ⟨x87,h87,H⟩ := ax H
  have s87 := ow sA x4 _ h87
  refine ak Tryz.call76 (jx.r) s87 ?_
  refine ah tk rfl (ac (ao 2 tk rfl ?_))
  refine aH rfl H (fun H=>?_) (fun H=>?_)
  ·refine ao 2 tk rfl ?_
   obtain rfl := aA H
   have e4 : fl4 = .ret _ := hg4
   subst e4
   obtain rfl := aT Hp4
   refine bc tk rfl (ps := [(am x87)]) ⟨_,_,rfl,rfl,rfl⟩ (PLe.q rfl)
  refine ap (ab (bw tk mok ⟨true,false,[92]⟩ [0,1,2,3,4,5] rfl (by decide +kernel) rfl (aU 3 rfl ?_)))
  obtain ⟨x94,h94,H⟩ := ax H
  have k94 := qd h94
  refine Do.subL rfl rfl rfl rfl rfl rfl (zl _) rfl rfl k94.1 (rm k94.2) rfl (cu ?_)
  obtain ⟨x96,h96,H⟩ := ax H
  have s96 := jy x94 x4 _ h96
  refine aV Tryz.call77 (jx.r) s96 ?_
  refine br ?_
  refine aH rfl H (fun H=>?_) (fun H=>?_)
  ·refine ao 1 tk rfl ?_
   obtain rfl := aA H
   have e4 : fl4 = .ret _ := hg4
   subst e4
   obtain rfl := aT Hp4
   refine bc tk rfl (ps := [(am 5)]) ⟨_,_,rfl,rfl,rfl⟩ (PLe.q rfl)
  refine ap (aF (aX 2 tk rfl ?_))
  exact bi () H hl4 hg4
 refine ao 1 tk rfl ?_
 exact aW tk H rfl
def ik (c : LChecker) (q : LQuery) (inA : List (List LCol)) : Option ((List LCol) × Int) :=
 cond (q.kind == (1 : Int))
  (af (cC c.s.tables (fun a0=>some (eH a0 q))) fun x25 =>
  cond (decide (x25 < (0 : Int)))
   (some ([],4))
   (af (aJ c.s.tables x25) fun (x32 : LTable) =>
   some (x32.columns,0)))
  (cond (q.kind == (2 : Int))
   (af (aJ inA 0) fun (x39 : List LCol) =>
   af (aJ inA 0) fun (x43 : List LCol) =>
   af (aJ q.exprs 0) fun (x47 : LExpr) =>
   bp (du c x43 x47) fun x49 =>
   some (x39,x49))
   (bp (
    cond (q.kind == (4 : Int))
     ((q.kind == (4 : Int)))
     ((q.kind == (5 : Int)))) fun (t1 : Bool) =>
   cond t1
    (af (aJ inA 0) fun (x54 : List LCol) =>
    af (aJ inA 1) fun (x58 : List LCol) =>
    af (aE (σ := List LCol) (ρ := Empty) (fun (_ : Nat) (x2 : LCol) (s2 : List LCol) =>
     cond x2.nullable
      (af (dh 32 s2 ([(LCol.mk x2.name x2.kind true)] : List LCol)) fun (x76 : List LCol) =>
      some (.next x76))
      (af (dh 32 s2 ([(LCol.mk x2.name x2.kind (q.kind == (5 : Int)))] : List LCol)) fun (x76 : List LCol) =>
      some (.next x76))) 0 x58 x54) fun fl2=>fl2.thenP fun (s2 : List LCol) =>
    af (aJ q.exprs 0) fun (x83 : LExpr) =>
    bp (du c s2 x83) fun x85 =>
    some (s2,x85))
    (bp (
     cond (q.kind == (6 : Int))
      ((q.kind == (6 : Int)))
      ((q.kind == (7 : Int)))) fun (t3 : Bool) =>
    cond t3
     (af (aJ inA 0) fun (x92 : List LCol) =>
     af (aJ inA 1) fun (x95 : List LCol) =>
     af (iE q.kind x92 x95) fun x97 =>
     some (x97.1,x97.2))
     (bp (
      cond (q.kind == (3 : Int))
       ((q.kind == (3 : Int)))
       ((q.kind == (8 : Int)))) fun (t4 : Bool) =>
     cond t4
      (af (aJ inA 0) fun (x106 : List LCol) =>
      af (eD c q x106) fun x108 =>
      some (x108.1,x108.2))
      (cond (q.kind == (9 : Int))
       (af (aE (σ := Unit) (ρ := ((List LCol) × Int)) (fun (_ : Nat) (x5 : LExpr) (_ : Unit) =>
        af (aJ inA 0) fun (x122 : List LCol) =>
        bp (cI x122 c.vars x5) fun x127 =>
        cond (x127.2.2 != (0 : Int))
         (some (.ret ([],x127.2.2)))
         (some (.next ()))) 0 q.exprs ()) fun fl5=>fl5.thenR fun (_ : Unit) =>
       af (aJ inA 0) fun (x136 : List LCol) =>
       some (x136,0))
       (af (aJ inA 0) fun (x136 : List LCol) =>
       some (x136,0)))))))
theorem sn (c : LChecker) (q : LQuery) (inA : List (List LCol)) (r : (List LCol) × Int) (H : ik c q inA = some r) :
  aI Tryz.prog 153 [(.agg (eo c)),(.agg (aG q)),(.list 43 (inA.map (al 51 aN)))] (.tup [(.list 51 (r.1.map aN)),(am r.2)]) := by
 unfold ik at H
 refine PH.au Tryz.func153 Tryz.ntmps153 ?_
 refine ab (aa (aD ?_))
 refine aD ?_
 refine ag 2 tk rfl (ac (ab (ao 2 tk rfl (av (ao 2 tk rfl ?_)))))
 refine aH rfl H (fun H=>?_) (fun H=>?_)
 ·refine ab (aa (ag 4 tk rfl ?_))
  obtain ⟨x25,h25,H⟩ := ax H
  have s25 := hP c.s.tables (fun a0=>some (eH a0 q)) Tryz.call185 (fun a0 r h=>(aA h) ▸ qN a0 q) _ h25
  refine ak Tryz.call167 (jx.r) s25 ?_
  refine ah tk rfl (ac (ab (ao 2 tk rfl ?_)))
  refine aH rfl H (fun H=>?_) (fun H=>?_)
  ·refine ao 2 tk rfl ?_
   obtain rfl := aA H
   refine bc tk rfl (ps := [(.val (.slice none 0 0)),(am 4)]) ⟨_,_,rfl,rfl,_,_,rfl,rfl,rfl⟩ (PLe.of2 (oG.tup (iK.cons (oG.nil tk rfl) (iK.cons (oG.of_eq rfl) iK.nil))))
  refine ap (ab (aa (ag 4 tk rfl ?_)))
  obtain ⟨x32,k32,H⟩ := bt H
  refine aQ tk k32.1 (aO (fun _=>rfl) k32.2) ?_
  refine ag 2 tk rfl ?_
  have s35 := qo (m := 35) x32.columns
  refine ak Tryz.call156 (jx.r) (PFun.iy s35) ?_
  refine ag 2 tk rfl (ac ?_)
  exact aW tk H rfl
 refine ao 2 tk rfl ?_
 refine aH rfl H (fun H=>?_) (fun H=>?_)
 ·refine ab (bw tk mok ⟨false,false,[]⟩ [0,1,2,3,4,5,6,7,8,9,10,11,12,13] rfl (by decide +kernel) rfl (bT rfl ?_))
  obtain ⟨x39,k39,H⟩ := bt H
  refine bJ k39.1 (aO (fun _=>rfl) k39.2) ?_
  refine aU 3 rfl ?_
  obtain ⟨x43,k43,H⟩ := bt H
  refine bJ k43.1 (aO (fun _=>rfl) k43.2) ?_
  refine aU 3 rfl ?_
  obtain ⟨x47,k47,H⟩ := bt H
  refine bJ k47.1 (aO dK k47.2) ?_
  refine bT rfl ?_
  obtain ⟨x49,h49,H⟩ := cL H
  have s49 := kT c x43 x47
  rw [h49] at s49
  refine aV Tryz.call186 (jx.r) s49 ?_
  refine aU 2 rfl (br ?_)
  exact aW tk H rfl
 refine ab (ao 2 tk rfl ?_)
 refine eQ (γ := Unit) (fun t1 g1=>⟨138,upd (upd (upd (upd (upd (fun _=>.any) 50 (aC t1)) 18 (am q.kind)) 4 (.ptr (aG q))) 3 (.ptr (eo c))) 2 (.list 43 (inA.map (al 51 aN))),fun _=>none,fun _=>none⟩) H (fun _ H=>?_) (fun t1 g1 H=>?_)
 ·refine aH rfl H (fun H=>?_) (fun H=>?_)
  ·refine ap ?_
   refine aR _ () H Gh.d
  refine aX 2 tk rfl ?_
  refine aR _ () H Gh.d
 refine aH rfl H (fun H=>?_) (fun H=>?_)
 ·refine ab (aa (ah tk rfl ?_))
  obtain ⟨x54,k54,H⟩ := bt H
  refine aQ tk k54.1 (aO (fun _=>rfl) k54.2) ?_
  refine ah tk rfl ?_
  have s56 := qo (m := 56) x54
  refine ml (g := 156) rfl rfl rfl Tryz.call156 (jx.r) rfl rfl s56 (fun g56=>?_)
  refine ah tk rfl (ac (ab (ab (aa (ah tk rfl ?_)))))
  obtain ⟨x58,k58,H⟩ := bt H
  refine aQ tk k58.1 (aO (fun _=>rfl) k58.2) ?_
  refine ah tk rfl (az tk (zl _) ?_)
  refine ah tk rfl (ac ?_)
  refine gQ (γ := OwnRef) tk 61 60 59 (fun s2 g2=>upd (upd (upd (fun _=>.any) 9 (.own 56 g2 (s2.map aN).length)) 4 (.ptr (aG q))) 3 (.ptr (eo c))) nB (fun s2 g2=>upd (fun _=>none) 56 (some ⟨g2,51,(s2.map aN),true⟩)) g56 H (fun fl2 Hp2 j2 s2 g2 hz2 hl2 x2 fb2 hx2 H hg2=>?_) (fun s2 g2 H=>?_)
  ·refine ab (av (ab (aa ?_)))
   refine aQ tk (zn j2) (bj (fun _=>rfl) hx2) ?_
   refine ah tk rfl ?_
   refine ba tk fun b11=>?_
   refine aq tk ?_
   refine ac (ab (aa (ah tk rfl (aB tk ?_))))
   refine ah tk rfl ?_
   refine bf rfl rfl rfl H (fun H=>?_) (fun H=>?_)
   ·refine ag 5 tk rfl (aq tk ?_)
    refine ac (aa (ah tk rfl (aB tk ?_)))
    refine bU tk (rows' := List.map aN ([(LCol.mk x2.name x2.kind true)] : List LCol)) (fU.refl _) ?_
    obtain ⟨x76,h76,H⟩ := ax H
    have k76 := cj h76
    refine cf (rows2' := List.map aN ([(LCol.mk x2.name x2.kind true)] : List LCol)) (rows' := List.map aN x76) tk rfl rfl rfl rfl rfl rfl rfl rfl rfl rfl rfl rfl rfl (fU.refl _) (dC k76.1) (dy k76.2.1) (dB k76.2.2) fun g76=>?_
    refine ah tk rfl (ac (aF (aX 2 tk rfl ?_)))
    exact bi g76 H hl2 hg2
   refine ag 5 tk rfl (aq tk ?_)
   refine ac (aa (ah tk rfl (aB tk ?_)))
   refine bU tk (rows' := List.map aN ([(LCol.mk x2.name x2.kind (q.kind == (5 : Int)))] : List LCol)) (fU.refl _) ?_
   obtain ⟨x76,h76,H⟩ := ax H
   have k76 := cj h76
   refine cf (rows2' := List.map aN ([(LCol.mk x2.name x2.kind (q.kind == (5 : Int)))] : List LCol)) (rows' := List.map aN x76) tk rfl rfl rfl rfl rfl rfl rfl rfl rfl rfl rfl rfl rfl (fU.refl _) (dC k76.1) (dy k76.2.1) (dB k76.2.2) fun g76=>?_
   refine ah tk rfl (ac (aF (aX 2 tk rfl ?_)))
   exact bi g76 H hl2 hg2
  refine ab (dP 9 rfl rfl rfl (bw tk mok ⟨false,false,[]⟩ [0,1,2,3,4,5,6,7,8,9] rfl (by decide +kernel) rfl (aU 5 rfl ?_)))
  obtain ⟨x83,k83,H⟩ := bt H
  refine bJ k83.1 (aO dK k83.2) ?_
  refine bT rfl ?_
  obtain ⟨x85,h85,H⟩ := cL H
  have s85 := kT c s2 x83
  rw [h85] at s85
  refine aV Tryz.call186 (jx.r) s85 ?_
  refine aU 2 rfl (br ?_)
  exact aW tk H rfl
 refine ab (ao 2 tk rfl ?_)
 refine eQ (γ := Unit) (fun t3 g3=>⟨138,upd (upd (upd (upd (upd (fun _=>.any) 86 (aC t3)) 18 (am q.kind)) 4 (.ptr (aG q))) 3 (.ptr (eo c))) 2 (.list 43 (inA.map (al 51 aN))),fun _=>none,fun _=>none⟩) H (fun _ H=>?_) (fun t3 g3 H=>?_)
 ·refine aH rfl H (fun H=>?_) (fun H=>?_)
  ·refine ap ?_
   refine aR _ () H Gh.d
  refine aX 2 tk rfl ?_
  refine aR _ () H Gh.d
 refine aH rfl H (fun H=>?_) (fun H=>?_)
 ·refine ab (bw tk mok ⟨false,false,[]⟩ [0,1,2,3,4,5,6,7,8,9,10,11,12] rfl (by decide +kernel) rfl (aU 3 rfl ?_))
  obtain ⟨x92,k92,H⟩ := bt H
  refine bJ k92.1 (aO (fun _=>rfl) k92.2) ?_
  refine aU 2 rfl ?_
  obtain ⟨x95,k95,H⟩ := bt H
  refine bJ k95.1 (aO (fun _=>rfl) k95.2) ?_
  refine bT rfl ?_
  obtain ⟨x97,h97,H⟩ := ax H
  have s97 := sN q.kind x92 x95 _ h97
  refine aV Tryz.call187 (jx.r) s97 ?_
  refine aU 4 rfl (br ?_)
  exact aW tk H rfl
 refine ab (ao 2 tk rfl ?_)
 refine eQ (γ := Unit) (fun t4 g4=>⟨138,upd (upd (upd (upd (upd (fun _=>.any) 100 (aC t4)) 18 (am q.kind)) 4 (.ptr (aG q))) 3 (.ptr (eo c))) 2 (.list 43 (inA.map (al 51 aN))),fun _=>none,fun _=>none⟩) H (fun _ H=>?_) (fun t4 g4 H=>?_)
 ·refine aH rfl H (fun H=>?_) (fun H=>?_)
  ·refine ap ?_
   refine aR _ () H Gh.d
  refine aX 2 tk rfl ?_
  refine aR _ () H Gh.d
 refine aH rfl H (fun H=>?_) (fun H=>?_)
 ·refine ab (bw tk mok ⟨false,false,[]⟩ [0,1,2,3,4,5,6,7,8,9] rfl (by decide +kernel) rfl (aU 3 rfl ?_))
  obtain ⟨x106,k106,H⟩ := bt H
  refine bJ k106.1 (aO (fun _=>rfl) k106.2) ?_
  refine bT rfl ?_
  obtain ⟨x108,h108,H⟩ := ax H
  have s108 := nu c q x106 _ h108
  refine aV Tryz.call188 (jx.r) s108 ?_
  refine aU 4 rfl (br ?_)
  exact aW tk H rfl
 refine ao 2 tk rfl ?_
 refine aH rfl H (fun H=>?_) (fun H=>?_)
 ·refine ab (aa (ag 2 tk rfl (az tk (zl _) ?_)))
  refine ah tk rfl (ac ?_)
  refine fm tk 116 115 114 (fun s5 g5=>upd (upd (fun _=>.any) 3 (.ptr (eo c))) 2 (.list 43 (inA.map (al 51 aN)))) nB nO () H (fun fl5 Hp5 j5 s5 g5 hz5 hl5 x5 fb5 hx5 H hg5=>?_) (fun s5 g5 H=>?_)
  ·refine ab (av (ab (aa (aQ tk (zn j5) (bj dK hx5) ?_))))
   refine ah tk rfl ?_
   refine ba tk fun b13=>?_
   refine aq tk ?_
   refine ac (ab (bw tk mok ⟨true,false,[123,125]⟩ [0,1,2,3,4,5,6,7,8,9,10,11,12,13] rfl (by decide +kernel) rfl (bT rfl ?_)))
   obtain ⟨x122,k122,H⟩ := bt H
   refine bJ k122.1 (aO (fun _=>rfl) k122.2) ?_
   refine aU 3 rfl (cu ?_)
   obtain ⟨x127,h127,H⟩ := cL H
   have s127 := nV x122 c.vars x5
   rw [h127] at s127
   refine aV Tryz.call189 (jx.r) s127 ?_
   refine aU 7 rfl (br (ao 2 tk rfl ?_))
   refine aH rfl H (fun H=>?_) (fun H=>?_)
   ·refine ao 3 tk rfl ?_
    obtain rfl := aA H
    have e5 : fl5 = .ret _ := hg5
    subst e5
    obtain rfl := aT Hp5
    refine bc tk rfl (ps := [(.val (.slice none 0 0)),(am x127.2.2)]) ⟨_,_,rfl,rfl,_,_,rfl,rfl,rfl⟩ (PLe.of2 (oG.tup (iK.cons (oG.nil tk rfl) (iK.cons (oG.of_eq rfl) iK.nil))))
   refine ap (aF (aX 2 tk rfl ?_))
   exact bi () H hl5 hg5
  refine aF (ab (aa (ah tk rfl ?_)))
  obtain ⟨x136,k136,H⟩ := bt H
  refine aQ tk k136.1 (aO (fun _=>rfl) k136.2) ?_
  refine ag 3 tk rfl (ac ?_)
  exact aW tk H rfl
 refine ap (aF (ab (aa (ah tk rfl ?_))))
 obtain ⟨x136,k136,H⟩ := bt H
 refine aQ tk k136.1 (aO (fun _=>rfl) k136.2) ?_
 refine ag 3 tk rfl (ac ?_)
 exact aW tk H rfl
def iU (rA : LRun) (q : LQuery) (cols : List LCol) (inA : Rz) : Option (Rz) :=
 bp (
  cond ((q.exprs.length : Int) == (0 : Int))
   (([[]],[[]]))
   (([],[]))) fun (t1 : Rz × List Rz) =>
 af (aE (σ := Rz × List Rz) (ρ := Empty) (fun (_ : Nat) (x2 : Rq) (s2 : Rz × List Rz) =>
  af (dq rA cols x2 q.exprs) fun x38 =>
  af (bF s2.1 (fun a0=>fY a0 x38)) fun x41 =>
  af (eO (x41.2.length = s2.1.length) ()) fun (_ : Unit) =>
  af (
   cond (decide (x41.1 < (0 : Int)))
    (af (dh 24 x41.2 ([x38] : Rz)) fun (x49 : Rz) =>
    af (dh 24 s2.2 ([[]] : List Rz)) fun (x52 : List Rz) =>
    some (x49,x52,(x41.2.length : Int)))
    (some (x41.2,s2.2,x41.1))) fun (t7 : Rz × List Rz × Int) =>
  af (aJ t7.2.1 t7.2.2) fun (x57 : Rz) =>
  af (dh 24 x57 ([x2] : Rz)) fun (x61 : Rz) =>
  af (aJ t7.2.1 t7.2.2) fun (_ : Rz) =>
  bp (t7.2.1.set t7.2.2.toNat x61) fun (y8 : List Rz) =>
  some (.next (t7.1,y8))) 0 inA (t1.1,t1.2)) fun fl2=>fl2.thenP fun (s2 : Rz × List Rz) =>
 af (eO (s2.2.length * 24 ≤ 2 ^ 47) ()) fun (_ : Unit) =>
 af (oa (s2.1.length : Int)) fun (n10 : Nat) =>
 af (aE (σ := Rz) (ρ := Empty) (fun (j10 : Nat) (_ : Nat) (s10 : Rz) =>
  af (aJ s2.1 (j10 : Int)) fun (x69 : Rq) =>
  af (aE (σ := Rq) (ρ := Empty) (fun (_ : Nat) (x13 : LAggregateCall) (s13 : Rq) =>
   af (aJ s2.2 (j10 : Int)) fun (x86 : Rz) =>
   af (jN rA x13 cols x86) fun x88 =>
   af (dh 32 s13 ([x88] : Rq)) fun (x90 : Rq) =>
   some (.next x90)) 0 q.aggregates x69) fun fl13=>fl13.thenP fun (s13 : Rq) =>
  af (dh 24 s10 ([s13] : Rz)) fun (x95 : Rz) =>
  some (.next x95)) 0 (List.range n10) []) fun fl10=>fl10.thenP fun (s10 : Rz) =>
 some s10
theorem tK (rA : LRun) (q : LQuery) (cols : List LCol) (inA : Rz) (r : Rz) (H : iU rA q cols inA = some r) :
  aI Tryz.prog 120 [(.agg (dE rA)),(.agg (aG q)),(.list 51 (cols.map aN)),(.list 61 (inA.map (al 39 ae)))] (.list 61 (r.map (al 39 ae))) := by
 unfold iU at H
 refine PH.au Tryz.func120 Tryz.ntmps120 ?_
 refine ab (aa (aD ?_))
 refine aD ?_
 refine ah tk rfl (ac (ao 1 tk rfl (ao 1 tk rfl (ab (ab (aa (ag 2 tk rfl (az tk (zl _) ?_))))))))
 refine ah tk rfl (ac ?_)
 refine eQ (γ := OwnRef × (Nat × Nat × (Nat → OwnRef))) (fun t1 g1=>⟨98,upd (upd (upd (upd (upd (upd (fun _=>.any) 10 (.val (iZ g1.2.1 t1.2.length g1.2.2.1))) 9 (.own 25 g1.1 (t1.1.map (al 39 ae)).length)) 5 (.ptr (aG q))) 4 (.ptr (dE rA))) 3 (.list 61 (inA.map (al 39 ae)))) 2 (.list 51 (cols.map aN)),upd (fun _=>none) 990 (iQ g1.2.1 g1.2.2.2 (List.map (List.map (al 39 ae)) t1.2) g1.2.2.1),dr 61 g1.2.2.2 (List.map (List.map (al 39 ae)) t1.2) (upd (fun _=>none) 25 (some ⟨g1.1,61,(t1.1.map (al 39 ae)),true⟩))⟩) H (fun _ H=>?_) (fun t1 g1 H=>?_)
 ·refine aH rfl H (fun H=>?_) (fun H=>?_)
  ·refine aa ?_
   refine qQ (rows' := List.map (al 39 ae) ([[]] : Rz)) tk rfl rfl rfl rfl rfl rfl rfl rfl rfl (iK.cons (oG.nil tk rfl) iK.nil) fun g25=>?_
   refine vm 990 61 tk rfl rfl rfl rfl rfl rfl rfl rfl fun bf26 cf26=>?_
   refine ag 2 tk rfl (ac ?_)
   refine aR _ (g25,(bf26,cf26,(fun _=>⟨none,0⟩))) H (Gh.le (aw (aw (aw (aw (aw (aw aY)))))) (kO rfl aM) (gL (fun i rs h=>by first | exact cd h | (simp only [jg,dA,dZ,Nat.reduceLT]; exact cd h)) (bu aL)))
  refine ap (iA tk 9 25 (e := 61) rfl rfl ?_)
  refine aR _ (⟨none,0⟩,(0,0,fun _=>⟨none,0⟩)) H (Gh.le (aw (aw (aw (aw (aw (aw aY)))))) (vh aM) (uG (bu aL)))
 refine ab (ab (aa (ah tk rfl (az tk (zl _) ?_))))
 refine ah tk rfl (ac ?_)
 obtain ⟨fl2,H2,Hp2⟩ := ax H
 refine gm tk 27 rfl rfl (fun hz2 _=>?_)
 rw [zl] at hz2
 refine fj (τ := Rz × List Rz) (γ := OwnRef × (Nat × Nat × (Nat → OwnRef))) (fun s2 g2=>⟨98,upd (upd (upd (upd (upd (fun _=>.any) 10 (.val (iZ g2.2.1 s2.2.length g2.2.2.1))) 9 (.own 25 g2.1 (s2.1.map (al 39 ae)).length)) 5 (.ptr (aG q))) 4 (.ptr (dE rA))) 2 (.list 51 (cols.map aN)),upd (fun _=>none) 990 (iQ g2.2.1 g2.2.2.2 (List.map (List.map (al 39 ae)) s2.2) g2.2.2.1),dr 61 g2.2.2.2 (List.map (List.map (al 39 ae)) s2.2) (upd (fun _=>none) 25 (some ⟨g2.1,61,(s2.1.map (al 39 ae)),true⟩))⟩) (fun t=>fl2 = .next t) ?_ (fun s2 g2 hn2=>?_)
 ·refine av ?_
  refine hJ (fun j2 s2 g2=>⟨98,upd (upd (upd (upd (upd (upd (upd (upd (fun _=>.any) 29 (am (j2 : Int))) 28 (am (inA.length : Int))) 27 (.list 61 (inA.map (al 39 ae)))) 10 (.val (iZ g2.2.1 s2.2.length g2.2.2.1))) 9 (.own 25 g2.1 (s2.1.map (al 39 ae)).length)) 5 (.ptr (aG q))) 4 (.ptr (dE rA))) 2 (.list 51 (cols.map aN)),upd (fun _=>none) 990 (iQ g2.2.1 g2.2.2.2 (List.map (List.map (al 39 ae)) s2.2) g2.2.2.1),dr 61 g2.2.2.2 (List.map (List.map (al 39 ae)) s2.2) (upd (fun _=>none) 25 (some ⟨g2.1,61,(s2.1.map (al 39 ae)),true⟩))⟩) (g1.1,(g1.2.1,g1.2.2.1,g1.2.2.2)) H2 (Gh.le (aw (aw (aw (aw (aw (aw (aw (aw aY)))))))) (kO rfl aM) (gL (fun i rs h=>by first | exact cd h | (simp only [jg,dA,dZ,Nat.reduceLT]; exact cd h)) (bu aL))) (fun j2 s2 g2 hj2 hr2=>?_)
  refine ao 1 tk rfl (ab ?_)
  refine bg rfl (fun h=>?_) (fun h=>?_)
  ·have hl2 := mZ h
   obtain ⟨x2,fb2,hx2,H,hg2⟩ := rMc hl2 hr2
   refine ap (ab (av (ab (aa ?_))))
   refine aQ tk (zn j2) (bj (fun _=>rfl) hx2) ?_
   refine ag 2 tk rfl (ac (ab (aa (ag 5 tk rfl ?_))))
   obtain ⟨x38,h38,H⟩ := ax H
   have s38 := jW rA cols x2 q.exprs _ h38
   refine ak Tryz.call119 (jx.r) s38 ?_
   refine ba tk fun b13=>?_
   refine aq tk ?_
   refine ac (ab (aa (ah tk rfl (cV (Gh.freezeB 13 rfl rfl rfl rfl) (ah tk rfl ?_)))))
   obtain ⟨x41,h41,H⟩ := ax H
   have s41 := fE g2.1 s2.1 (fun a0=>fY a0 x38) Tryz.call162 (fun a0 r h=>sf a0 x38 r h) _ h41
   obtain ⟨_,q41_0,H⟩ := ax H
   have l41_0 := (de q41_0).1
   have z41_0 : (List.map (al 39 ae) s2.1).length = (List.map (al 39 ae) x41.2).length := by simpa using (l41_0).symm
   refine eF (g := 83) rfl rfl rfl Tryz.call83 [] [(25,0)] rfl rfl rfl rfl (jx.of2 (iK.cons (oG.own rfl) (iK.cons (oG.of_eq rfl) iK.nil))) (by rw [dR,cY,dN]; rfl) s41 ?_
   rintro u41 H41h ⟨rfl,rfl⟩
   refine ⟨_,rfl,?_⟩
   refine cV (st' := ⟨_,_,upd (fun _=>none) 990 (iQ g2.2.1 g2.2.2.2 (List.map (List.map (al 39 ae)) s2.2) g2.2.2.1),dr 61 g2.2.2.2 (List.map (List.map (al 39 ae)) s2.2) (upd (fun _=>none) 25 (some ⟨g2.1,61,(x41.2.map (al 39 ae)),true⟩))⟩) (Gh.le (cw _ _) (kO rfl aM) (gL (fun i rs h=>by first | exact cd h | (simp only [dA,dZ,Nat.reduceLT]; exact cd h)) (bu aL))) ?_
   refine ah tk rfl (ac (ab (ao 2 tk rfl ?_)))
   refine gG (γ := OwnRef × (Nat × Nat × (Nat → OwnRef))) (fun t7 g7=>⟨98,upd (upd (upd (upd (upd (upd (upd (upd (upd (upd (fun _=>.any) 29 (am (j2 : Int))) 28 (am (inA.length : Int))) 27 (.list 61 (inA.map (al 39 ae)))) 14 (am t7.2.2)) 12 (.list 39 (x2.map ae))) 10 (.val (iZ g7.2.1 t7.2.1.length g7.2.2.1))) 9 (.own 25 g7.1 (t7.1.map (al 39 ae)).length)) 5 (.ptr (aG q))) 4 (.ptr (dE rA))) 2 (.list 51 (cols.map aN)),upd (fun _=>none) 990 (iQ g7.2.1 g7.2.2.2 (List.map (List.map (al 39 ae)) t7.2.1) g7.2.2.1),dr 61 g7.2.2.2 (List.map (List.map (al 39 ae)) t7.2.1) (upd (fun _=>none) 25 (some ⟨g7.1,61,(t7.1.map (al 39 ae)),true⟩))⟩) H (fun _ H=>?_) (fun t7 g7 H=>?_)
   ·refine aH rfl H (fun H=>?_) (fun H=>?_)
    ·refine ab (aa (ah tk rfl (kB tk (z41_0.trans (zl _)) ?_)))
     refine ah tk rfl (ac (aa (ag 2 tk rfl (bU tk (rows' := List.map (al 39 ae) ([x38] : Rz)) (fU.refl _) ?_))))
     obtain ⟨x49,h49,H⟩ := ax H
     have k49 := cj h49
     refine cf (rows2' := List.map (al 39 ae) ([x38] : Rz)) (rows' := List.map (al 39 ae) x49) tk rfl rfl rfl rfl rfl rfl rfl rfl rfl rfl rfl z41_0 rfl (fU.refl _) (dC k49.1) (dy k49.2.1) (dB k49.2.2) fun g49=>?_
     refine ah tk rfl (sq tk rfl rfl rfl rfl rfl rfl ?_)
     obtain ⟨x52,h52,H⟩ := ax H
     have k52 := cj h52
     refine cV (st' := ⟨_,_,upd (fun _=>none) 990 (iQ g2.2.1 g2.2.2.2 (List.map (List.map (al 39 ae)) s2.2) g2.2.2.1),dr 61 g2.2.2.2 (List.map (List.map (al 39 ae)) s2.2) (upd (fun _=>none) 25 (some ⟨g49,61,(x49.map (al 39 ae)),true⟩))⟩) (Gh.le (cw _ _) (kO rfl aM) (gL (fun i rs h=>by first | exact cd h | (simp only [jg,Nat.reduceLT]; exact cd h)) (bu aL))) ?_
     refine vq 990 61 tk rfl rfl rfl rfl rfl rfl rfl rfl rfl rfl rfl (zl _).symm rfl rfl (by rw [zl]; exact k52.1) (by rw [zl]; exact k52.2.1) fun bf52 cf52=>?_
     have hz52 : List.map (List.map (al 39 ae)) x52 = List.map (List.map (al 39 ae)) s2.2 ++ [[]] := by rw [k52.2.2,List.map_append]; rfl
     refine cV (st' := ⟨_,_,upd (fun _=>none) 990 (iQ bf52 (upd g2.2.2.2 s2.2.length ⟨none,0⟩) (List.map (List.map (al 39 ae)) x52) cf52),dr 61 (upd g2.2.2.2 s2.2.length ⟨none,0⟩) (List.map (List.map (al 39 ae)) x52) (upd (fun _=>none) 25 (some ⟨g49,61,(x49.map (al 39 ae)),true⟩))⟩) (Gh.le (cw _ _) (kO (by rw [hz52]; rfl) aM) (gL (fun i rs h=>by rw [hz52] at h; exact cd h) (bu aL))) ?_
     refine mt 52 (q := (.val (iZ bf52 x52.length cf52))) rfl (PLe.q (by rw [k52.2.2,List.length_append]; rfl)) ?_
     refine ag 2 tk rfl (ac ?_)
     refine aR _ (g49,(bf52,cf52,(upd g2.2.2.2 s2.2.length ⟨none,0⟩))) (aA H) (Gh.le (aw (aw (aw (aw (aw (aw (aw (aw (aw (aw aY)))))))))) (kO rfl aM) (gL (fun i rs h=>by first | exact cd h | (simp only [jg,dA,dZ,Nat.reduceLT]; exact cd h)) (bu aL)))
    refine ap ?_
    refine aR _ (g2.1,(g2.2.1,g2.2.2.1,g2.2.2.2)) (aA H) (Gh.le (aw (aw (aw (bC (PLe.of2 (oG.of_eq (congrArg (PV.own 25 g2.1) z41_0))) (aw (aw (aw (aw (aw (aw aY)))))))))) (kO rfl aM) (gL (fun i rs h=>by first | exact cd h | (simp only [jg,dA,dZ,Nat.reduceLT]; exact cd h)) (bu aL)))
   refine aa (ag 4 tk rfl ?_)
   obtain ⟨x57,k57,H⟩ := bt H
   have wk57 : (List.map (List.map (al 39 ae)) t7.2.1)[t7.2.2.toNat]? = some (List.map (al 39 ae) x57) := by rw [List.getElem?_map,k57.2]; rfl
   refine uO 990 tk rfl rfl rfl rfl rfl rfl rfl rfl ⟨k57.1,(zg.1 k57.2).1⟩ rfl ?_
   refine vz (hok := qH _ _ _) tk rfl rfl rfl rfl rfl (sV wk57) (famCells_get wk57) rfl (ah tk rfl (bU tk (rows' := List.map (al 39 ae) ([x2] : Rz)) (fU.refl _) ?_))
   obtain ⟨x61,h61,H⟩ := ax H
   have k61 := cj h61
   refine cf (rows2' := List.map (al 39 ae) ([x2] : Rz)) (rows' := List.map (al 39 ae) x61) tk rfl rfl rfl rfl rfl rfl rfl rfl rfl rfl (cd wk57) rfl rfl (fU.refl _) (dC k61.1) (dy k61.2.1) (dB k61.2.2) fun g61=>?_
   obtain ⟨x62,k62,H⟩ := bt H
   have wk62 : (List.map (List.map (al 39 ae)) t7.2.1)[t7.2.2.toNat]? = some (List.map (al 39 ae) x62) := by rw [List.getElem?_map,k62.2]; rfl
   refine uO 990 tk rfl rfl rfl rfl rfl rfl rfl rfl ⟨k62.1,(zg.1 k62.2).1⟩ rfl ?_
   obtain ⟨y8,hy8,H⟩ := cL H
   have hzy8 : List.map (List.map (al 39 ae)) y8 = (List.map (List.map (al 39 ae)) t7.2.1).set t7.2.2.toNat (List.map (al 39 ae) x61) := by rw [← hy8,List.map_set]
   have hly8 : y8.length = t7.2.1.length := by rw [← hy8,List.length_set]
   refine vr (hok := qH _ _ _) tk rfl rfl rfl rfl rfl rfl (sV wk62) rfl rfl (by rw [pT]; exact Nat.lt_of_lt_of_le (zg.1 wk62).1 (jR _ _)) (famCells_set wk62 _) ?_
   refine cV (st' := ⟨_,_,upd (fun _=>none) 990 (iQ g7.2.1 (upd g7.2.2.2 t7.2.2.toNat g61) (List.map (List.map (al 39 ae)) y8) g7.2.2.1),dr 61 (upd g7.2.2.2 t7.2.2.toNat g61) (List.map (List.map (al 39 ae)) y8) (upd (fun _=>none) 25 (some ⟨g7.1,61,(t7.1.map (al 39 ae)),true⟩))⟩) (Gh.le (cw _ _) (kO (famB_put wk62 hzy8) aM) (gL (famO_put wk62 hzy8) (vx (by rw [dv _ _ (by unfold bd; omega)]; rfl) aL))) ?_
   refine mt 10 (q := (.val (iZ g7.2.1 y8.length g7.2.2.1))) rfl (PLe.q (by rw [hly8]; rfl)) ?_
   refine mt 53 (q := (.val (iZ g7.2.1 y8.length g7.2.2.1))) rfl (PLe.q (by rw [hly8]; rfl)) ?_
   refine mt 55 (q := (.val (iZ g7.2.1 y8.length g7.2.2.1))) rfl (PLe.q (by rw [hly8]; rfl)) ?_
   refine ac (aF (aX 2 tk rfl ?_))
   exact bi (g7.1,(g7.2.1,g7.2.2.1,(upd g7.2.2.2 t7.2.2.toNat g61))) H hl2 hg2 (Gh.le (aw (aw (aw (aw (aw (aw (aw (bC (PLe.q (eB (by omega))) aY)))))))) (kO rfl aM) (gL (fun i rs h=>by first | exact cd h | (simp only [jg,dA,dZ,Nat.reduceLT]; exact cd h)) (bu aL)))
  have hn2 := rMd (mS h) hr2
  refine bh rfl ?_
  refine aR s2 g2 hn2 (Gh.le (aw (aw (aw (aw (aw aY))))) (kO rfl aM) (gL (fun i rs h=>by first | exact cd h | (simp only [jg,dA,dZ,Nat.reduceLT]; exact cd h)) (bu aL)))
 have H := cP hn2 Hp2
 refine ao 1 tk rfl (ab (ab (aa (ah tk rfl (kB tk (zl _) ?_)))))
 refine ah tk rfl (ac ?_)
 obtain ⟨_,hf9,H⟩ := ax H
 have kf9 := (de hf9).1
 refine uY 10 990 tk (e := 61) (e' := 44) (rows := List.map (al 61 (al 39 ae)) s2.2) rfl rfl rfl (zl _).symm rfl (by rw [zl]; exact kf9) (by rw [zl]; unfold maxLen; omega) (by rw [List.map_map]; rfl) ?_
 obtain ⟨n10,hs10,H⟩ := ax H
 have hz10 := nP hs10
 obtain ⟨fl10,H10,Hp10⟩ := ax H
 refine fj (τ := Rz) (γ := OwnRef) (fun s10 g10=>⟨98,upd (fun _=>.any) 15 (.own 95 g10 (s10.map (al 39 ae)).length),fun _=>none,upd (fun _=>none) 95 (some ⟨g10,61,(s10.map (al 39 ae)),true⟩)⟩) (fun t=>fl10 = .next t) ?_ (fun s10 g10 hn10=>?_)
 ·refine av (iA tk 15 95 (e := 61) rfl rfl ?_)
  refine hJ (fun j10 s10 g10=>⟨98,upd (upd (upd (upd (upd (upd (upd (upd (fun _=>.any) 66 (am (j10 : Int))) 65 (am (s2.1.length : Int))) 64 (.own 25 g2.1 (s2.1.map (al 39 ae)).length)) 15 (.own 95 g10 (s10.map (al 39 ae)).length)) 10 (.list 44 (s2.2.map (al 61 (al 39 ae))))) 5 (.ptr (aG q))) 4 (.ptr (dE rA))) 2 (.list 51 (cols.map aN)),fun _=>none,upd (upd (fun _=>none) 95 (some ⟨g10,61,(s10.map (al 39 ae)),true⟩)) 25 (some ⟨g2.1,61,(s2.1.map (al 39 ae)),true⟩)⟩) (⟨none,0⟩) H10 Gh.d (fun j10 s10 g10 hj10 hr10=>?_)
  refine ao 1 tk rfl (ab ?_)
  refine bg rfl (fun h=>?_) (fun h=>?_)
  ·have hl10 := natLt hz10 h
   obtain ⟨x10,fb10,hx10,H,hg10⟩ := rMc hl10 hr10
   obtain rfl := natX hx10
   refine ap (ab (av (ab (aa (ah tk rfl ?_)))))
   obtain ⟨x69,k69,H⟩ := bt H
   refine nr (tag := 25) rfl (fun ho25=>?_)
   refine ni tk rfl rfl rfl rfl rfl rfl rfl ⟨k69.1,(dV k69.2)⟩ (eh ho25 k69.2) rfl ?_
   refine ut tk rfl rfl rfl rfl rfl rfl rfl (aO (fun _=>rfl) k69.2) rfl rfl ?_
   refine ag 2 tk rfl (ac (ab (aa (ah tk rfl ?_))))
   have s72 := clone_69 (m := 72) x69
   refine ml (g := 69) rfl rfl rfl Tryz.call69 (jx.r) rfl rfl s72 (fun g72=>?_)
   refine ah tk rfl (ac (ab (ab (aa (ag 2 tk rfl (az tk (zl _) ?_))))))
   refine ah tk rfl (ac ?_)
   refine gQ (γ := OwnRef) tk 76 75 74 (fun s13 g13=>upd (upd (upd (upd (upd (upd (upd (upd (upd (upd (fun _=>.any) 66 (am (j10 : Int))) 65 (am (s2.1.length : Int))) 64 (.own 25 g2.1 (s2.1.map (al 39 ae)).length)) 18 (.own 72 g13 (s13.map ae).length)) 16 (am (j10 : Int))) 15 (.own 95 g10 (s10.map (al 39 ae)).length)) 10 (.list 44 (s2.2.map (al 61 (al 39 ae))))) 5 (.ptr (aG q))) 4 (.ptr (dE rA))) 2 (.list 51 (cols.map aN))) nB (fun s13 g13=>upd (upd (upd (fun _=>none) 95 (some ⟨g10,61,(s10.map (al 39 ae)),true⟩)) 72 (some ⟨g13,39,(s13.map ae),true⟩)) 25 (some ⟨g2.1,61,(s2.1.map (al 39 ae)),true⟩)) g72 H (fun fl13 Hp13 j13 s13 g13 hz13 hl13 x13 fb13 hx13 H hg13=>?_) (fun s13 g13 H=>?_)
   ·refine ab (av (ab (aa ?_)))
    refine aQ tk (zn j13) (bj (fun _=>rfl) hx13) ?_
    refine ah tk rfl ?_
    refine ba tk fun b20=>?_
    refine aq tk ?_
    refine ac ?_
    refine jS (tag := 25) rfl (fun ho25=>?_)
    refine jS (tag := 72) rfl (fun ho72=>?_)
    refine jS (tag := 95) rfl (fun ho95=>?_)
    refine bw tk mok ⟨true,false,[81,87]⟩ [0,1,2,3,4,5,6,7,8,9,10,11] rfl (by decide +kernel) rfl (aU 2 rfl (cu ?_))
    refine aU 3 rfl ?_
    obtain ⟨x86,k86,H⟩ := bt H
    refine bJ k86.1 (aO (fun _=>rfl) k86.2) ?_
    refine bT rfl ?_
    obtain ⟨x88,h88,H⟩ := ax H
    have s88 := uz rA x13 cols x86 _ h88
    refine aV Tryz.call163 (jx.r) s88 ?_
    refine bT rfl ?_
    obtain ⟨x90,h90,H⟩ := ax H
    have k90 := cj h90
    refine mM (rows2' := List.map ae ([x88] : Rq)) (rows' := List.map ae x90) tk rfl rfl rfl rfl rfl rfl rfl rfl rfl rfl rfl rfl rfl rfl (fU.refl _) (dC k90.1) (dy k90.2.1) (dB k90.2.2) fun g90=>?_
    refine bT rfl (br (aF (aX 2 tk rfl ?_)))
    exact bi g90 H hl13 hg13
   refine dP 18 rfl rfl rfl (aa (ag 2 tk rfl (bU tk (rows' := List.map (al 39 ae) ([s13] : Rz)) (fU.refl _) ?_)))
   obtain ⟨x95,h95,H⟩ := ax H
   have k95 := cj h95
   refine cf (rows2' := List.map (al 39 ae) ([s13] : Rz)) (rows' := List.map (al 39 ae) x95) tk rfl rfl rfl rfl rfl rfl rfl rfl rfl rfl rfl rfl rfl (fU.refl _) (dC k95.1) (dy k95.2.1) (dB k95.2.2) fun g95=>?_
   refine ah tk rfl (ac (aF (aX 2 tk rfl ?_)))
   exact bi g95 H hl10 hg10 (Gh.le (aw (aw (aw (aw (aw (aw (aw (bC (PLe.q (oR hz10 hl10)) aY)))))))) aM (bu (bu aL)))
  have hn10 := rMd (natGe hz10 h) hr10
  refine bh rfl ?_
  refine aR s10 g10 hn10 Gh.d
 have H := cP hn10 Hp10
 refine ao 2 tk rfl (dP 8 rfl rfl rfl ?_)
 exact aW tk H rfl
def fN (a : Rq) (b : Rq) (c0 : LRun) (c1 : List LCol) (c2 : LQuery) : Option (Int) :=
 af (dq c0 c1 a c2.exprs) fun x13 =>
 af (dq c0 c1 b c2.exprs) fun x19 =>
 af (io x13 x19 c2.descending) fun x22 =>
 some x22
theorem sQ (a : Rq) (b : Rq) (c0 : LRun) (c1 : List LCol) (c2 : LQuery) (r : Int) (H : fN a b c0 c1 c2 = some r) :
  aI Tryz.prog 165 [(.list 39 (a.map ae)),(.list 39 (b.map ae)),(.ptr (dE c0)),(.ptr [(.list 51 (c1.map aN))]),(.ptr (aG c2))] (am r) := by
 unfold fN at H
 refine PH.au Tryz.func165 Tryz.ntmps165 ?_
 refine ao 1 tk rfl (ab (bw tk mok ⟨false,false,[]⟩ [0,1,2,3,4,6,7,8,9,10,12,13,5,11,14,15] rfl (by decide +kernel) rfl (aU 12 rfl ?_)))
 obtain ⟨x13,h13,H⟩ := ax H
 have s13 := jW c0 c1 a c2.exprs _ h13
 refine aV Tryz.call119 (jx.r) s13 ?_
 obtain ⟨x19,h19,H⟩ := ax H
 have s19 := jW c0 c1 b c2.exprs _ h19
 refine aV Tryz.call119 (jx.r) s19 ?_
 obtain ⟨x22,h22,H⟩ := ax H
 have s22 := sk x13 x19 c2.descending _ h22
 refine aV Tryz.call31 (jx.r) s22 ?_
 refine bT rfl (br ?_)
 exact aW tk H rfl
def eS (rec110 : LChecker → LQuery → Option ((List LCol) × Int)) (c : LChecker) (q : LQuery) : Option ((List LCol) × Int) :=
 af (kD q) fun x16 =>
 cond (!x16)
  (some ([],3))
  (af (aE (σ := List (List LCol)) (ρ := ((List LCol) × Int)) (fun (_ : Nat) (x1 : LQuery) (s1 : List (List LCol)) =>
   af (rec110 c x1) fun x28 =>
   cond (x28.2 != (0 : Int))
    (some (.ret ([],x28.2)))
    (af (dh 24 s1 ([x28.1] : List (List LCol))) fun (x37 : List (List LCol)) =>
    some (.next x37))) 0 q.inputs []) fun fl1=>fl1.thenR fun (s1 : List (List LCol)) =>
  af (ik c q s1) fun x43 =>
  cond (x43.2 != (0 : Int))
   (some ([],x43.2))
   (cond (decide ((x43.1.length : Int) > (20 : Int)))
    (some ([],2))
    (af (aE (σ := Unit) (ρ := ((List LCol) × Int)) (fun (j2 : Nat) (x2 : LCol) (_ : Unit) =>
     af (oH x43.1 0 (j2 : Int)) fun (x61 : List LCol) =>
     af (bO x61 (fun a0=>some (bX a0 x2))) fun x63 =>
     cond x63
      (some (.ret ([],23)))
      (some (.next ()))) 0 x43.1 ()) fun fl2=>fl2.thenR fun (_ : Unit) =>
    some (x43.1,0))))
theorem pI (rec110 : LChecker → LQuery → Option ((List LCol) × Int)) (hrec110 : ∀ a0 a1 r,rec110 a0 a1 = some r → aI Tryz.prog 110 [(.agg (eo a0)),(.agg (aG a1))] (.tup [(.list 51 (r.1.map aN)),(am r.2)])) (c : LChecker) (q : LQuery) (r : (List LCol) × Int) (H : eS rec110 c q = some r) :
  aI Tryz.prog 110 [(.agg (eo c)),(.agg (aG q))] (.tup [(.list 51 (r.1.map aN)),(am r.2)]) := by
 unfold eS at H
 refine PH.au Tryz.func110 Tryz.ntmps110 ?_
 refine ab (aa (aD ?_))
 refine aD ?_
 refine ag 2 tk rfl (ac (ab (ab (aa (ah tk rfl ?_)))))
 obtain ⟨x16,h16,H⟩ := ax H
 have s16 := W_query_shape q _ h16
 refine ak Tryz.call152 (jx.r) s16 ?_
 refine ah tk rfl (ac ?_)
 refine aH rfl H (fun H=>?_) (fun H=>?_)
 ·refine ao 2 tk rfl ?_
  obtain rfl := aA H
  refine bc tk rfl (ps := [(.val (.slice none 0 0)),(am 3)]) ⟨_,_,rfl,rfl,_,_,rfl,rfl,rfl⟩ (PLe.of2 (oG.tup (iK.cons (oG.nil tk rfl) (iK.cons (oG.of_eq rfl) iK.nil))))
 refine ap (ao 1 tk rfl (ab (ab (aa (ag 2 tk rfl (az tk (zl _) ?_))))))
 refine ah tk rfl (ac (iA tk 6 37 (e := 43) rfl rfl ?_))
 refine fm (γ := OwnRef) tk 21 20 19 (fun s1 g1=>upd (upd (upd (fun _=>.any) 6 (.own 37 g1 (s1.map (al 51 aN)).length)) 3 (.ptr (aG q))) 2 (.ptr (eo c))) nB (fun s1 g1=>upd (fun _=>none) 37 (some ⟨g1,43,(s1.map (al 51 aN)),true⟩)) (⟨none,0⟩) H (fun fl1 Hp1 j1 s1 g1 hz1 hl1 x1 fb1 hx1 H hg1=>?_) (fun s1 g1 H=>?_)
 ·refine ab (av (ab (aa (aQ tk (zn j1) (bj bQ hx1) ?_))))
  refine ah tk rfl ?_
  refine ba tk fun b8=>?_
  refine aq tk ?_
  refine ac (ab (aa (ah tk rfl (aB tk ?_))))
  obtain ⟨x28,h28,H⟩ := ax H
  have s28 := hrec110 c x1 _ h28
  refine ak Tryz.call110 (jx.r) s28 ?_
  refine ag 5 tk rfl (ac (ab (ao 2 tk rfl ?_)))
  refine aH rfl H (fun H=>?_) (fun H=>?_)
  ·refine ao 3 tk rfl ?_
   obtain rfl := aA H
   have e1 : fl1 = .ret _ := hg1
   subst e1
   obtain rfl := aT Hp1
   refine bc tk rfl (ps := [(.val (.slice none 0 0)),(am x28.2)]) ⟨_,_,rfl,rfl,_,_,rfl,rfl,rfl⟩ (PLe.of2 (oG.tup (iK.cons (oG.nil tk rfl) (iK.cons (oG.of_eq rfl) iK.nil))))
  refine ap (aa (ag 2 tk rfl (bU tk (rows' := List.map (al 51 aN) ([x28.1] : List (List LCol))) (fU.refl _) ?_)))
  obtain ⟨x37,h37,H⟩ := ax H
  have k37 := cj h37
  refine cf (rows2' := List.map (al 51 aN) ([x28.1] : List (List LCol))) (rows' := List.map (al 51 aN) x37) tk rfl rfl rfl rfl rfl rfl rfl rfl rfl rfl rfl rfl rfl (fU.refl _) (dC k37.1) (dy k37.2.1) (dB k37.2.2) fun g37=>?_
  refine ah tk rfl (ac (aF (aX 2 tk rfl ?_)))
  exact bi g37 H hl1 hg1
 refine ab (dP 6 rfl rfl rfl (aa (ag 3 tk rfl ?_)))
 obtain ⟨x43,h43,H⟩ := ax H
 have s43 := sn c q s1 _ h43
 refine ak Tryz.call153 (jx.r) s43 ?_
 refine ag 5 tk rfl (ac (ab (ao 2 tk rfl ?_)))
 refine aH rfl H (fun H=>?_) (fun H=>?_)
 ·refine ao 3 tk rfl ?_
  obtain rfl := aA H
  refine bc tk rfl (ps := [(.val (.slice none 0 0)),(am x43.2)]) ⟨_,_,rfl,rfl,_,_,rfl,rfl,rfl⟩ (PLe.of2 (oG.tup (iK.cons (oG.nil tk rfl) (iK.cons (oG.of_eq rfl) iK.nil))))
 refine ap (ab (ab (aa (ah tk rfl (az tk (zl _) ?_)))))
 refine ah tk rfl (ac ?_)
 refine aH rfl H (fun H=>?_) (fun H=>?_)
 ·refine ao 2 tk rfl ?_
  obtain rfl := aA H
  refine bc tk rfl (ps := [(.val (.slice none 0 0)),(am 2)]) ⟨_,_,rfl,rfl,_,_,rfl,rfl,rfl⟩ (PLe.of2 (oG.tup (iK.cons (oG.nil tk rfl) (iK.cons (oG.of_eq rfl) iK.nil))))
 refine ap (ab (ab (aa (ah tk rfl (az tk (zl _) ?_)))))
 refine ah tk rfl (ac ?_)
 refine fm tk 54 53 52 (fun s2 g2=>upd (fun _=>.any) 11 (.list 51 (x43.1.map aN))) nB nO () H (fun fl2 Hp2 j2 s2 g2 hz2 hl2 x2 fb2 hx2 H hg2=>?_) (fun s2 g2 H=>?_)
 ·refine ab (av (ab (aa (ah tk rfl ?_))))
  refine aQ tk (zn j2) (bj (fun _=>rfl) hx2) ?_
  refine ah tk rfl ?_
  refine ba tk fun b14=>?_
  refine ah tk rfl (aq tk ?_)
  refine ac (ab (aa (ag 2 tk rfl ?_)))
  obtain ⟨x61,h61,H⟩ := ax H
  have k61 := qd h61
  refine uK tk rfl rfl rfl rfl rfl (zl _) rfl rfl k61.1 (rm k61.2) rfl (cV (Gh.freezeB 14 rfl rfl rfl rfl) (ah tk rfl ?_))
  obtain ⟨x63,h63,H⟩ := ax H
  have s63 := jU x61 (fun a0=>some (bX a0 x2)) Tryz.call155 (fun a0 r h=>(aA h) ▸ po a0 x2) _ h63
  refine ak Tryz.call154 (jx.r) s63 ?_
  refine ac ?_
  refine aH rfl H (fun H=>?_) (fun H=>?_)
  ·refine ao 2 tk rfl ?_
   obtain rfl := aA H
   have e2 : fl2 = .ret _ := hg2
   subst e2
   obtain rfl := aT Hp2
   refine bc tk rfl (ps := [(.val (.slice none 0 0)),(am 23)]) ⟨_,_,rfl,rfl,_,_,rfl,rfl,rfl⟩ (PLe.of2 (oG.tup (iK.cons (oG.nil tk rfl) (iK.cons (oG.of_eq rfl) iK.nil))))
  refine ap (aF (aX 2 tk rfl ?_))
  exact bi () H hl2 hg2
 refine ao 3 tk rfl ?_
 exact aW tk H rfl
def eR : Nat → LChecker → LQuery → Option ((List LCol) × Int)
 | 0,_,_=>none
 | n + 1,v0,v1=>eS (fun b0 b1=>eR n b0 b1) v0 v1
theorem pH  (n : Nat) : (∀ a0 a1 r,eR n a0 a1 = some r → aI Tryz.prog 110 [(.agg (eo a0)),(.agg (aG a1))] (.tup [(.list 51 (r.1.map aN)),(am r.2)])) := by
 induction n with
 | zero=>exact (by intros; rename_i h; exact absurd (show (none : Option _) = some _ from h) (by simp))
 | succ n ih =>
  exact (fun v0 v1 r h=>pI (fun b0 b1=>eR n b0 b1) ih v0 v1  r h)
def eT (c : LChecker) (q : LQuery) : Option ((List LCol) × Int) := jo fun n=>eR n c q
theorem lE (c : LChecker) (q : LQuery) (r : (List LCol) × Int) (H : eT c q = some r) :
  aI Tryz.prog 110 [(.agg (eo c)),(.agg (aG q))] (.tup [(.list 51 (r.1.map aN)),(am r.2)]) := by
 obtain ⟨n,h⟩ := km H
 exact (pH  n) c q r h
def fM (rA : LRun) (q : LQuery) (cols : List LCol) (inA : Rz) : Option (Rz) :=
 af (cA inA (fun a0 a1=>fN a0 a1 rA cols q)) fun x14 =>
 af (eO (x14.length = inA.length) ()) fun (_ : Unit) =>
 some x14
theorem uk (rA : LRun) (q : LQuery) (cols : List LCol) (inA : Rz) (r : Rz) (H : fM rA q cols inA = some r) :
  aI Tryz.prog 121 [(.agg (dE rA)),(.agg (aG q)),(.list 51 (cols.map aN)),(.list 61 (inA.map (al 39 ae)))] (.list 61 (r.map (al 39 ae))) := by
 unfold fM at H
 refine PH.au Tryz.func121 Tryz.ntmps121 ?_
 refine ab (aa (aD ?_))
 refine aD ?_
 refine aD ?_
 refine ah tk rfl (ac (ab (aa (ah tk rfl ?_))))
 have s11 := rc (m := 11) inA
 refine ml (g := 33) rfl rfl rfl Tryz.call33 (jx.r) rfl rfl s11 (fun g11=>?_)
 refine ah tk rfl (ac (ab (aa (ag 2 tk rfl ?_))))
 obtain ⟨x14,h14,H⟩ := ax H
 have s14 := ky g11 inA (fun a0 a1=>fN a0 a1 rA cols q) Tryz.call165 (fun a0 a1 r h=>sQ a0 a1 rA cols q r h) _ h14
 obtain ⟨_,q14_0,H⟩ := ax H
 have l14_0 := (de q14_0).1
 have z14_0 : (List.map (al 39 ae) inA).length = (List.map (al 39 ae) x14).length := by simpa using (l14_0).symm
 refine eF (g := 164) rfl rfl rfl Tryz.call164 [] [(11,0)] rfl rfl rfl rfl (jx.of2 (iK.cons (oG.own rfl) (iK.cons (oG.of_eq rfl) iK.nil))) (by rw [dR,cY,dN]; rfl) s14 ?_
 rintro u14 H14h ⟨rfl,rfl⟩
 refine ⟨_,rfl,?_⟩
 refine cV (st' := ⟨_,_,fun _=>none,upd (fun _=>none) 11 (some ⟨g11,61,(x14.map (al 39 ae)),true⟩)⟩) (Gh.le (cw _ _) aM (bu aL)) ?_
 refine ac (ao 2 tk rfl (dP 8 rfl rfl z14_0 ?_))
 exact aW tk H rfl
def gd (sA : LSchema) (vars : List LCol) (q : LQuery) : Option ((List LCol) × Int) :=
 af (
  af (jH q) fun x12 =>
  cond (decide ((x12.length : Int) > (24 : Int)))
   (some true)
   (af (kE q) fun x17 =>
   cond (decide (x17 > (12 : Int)))
    (some true)
    (af (fX q) fun x22 =>
    some (decide (x22 > (20000 : Int)))))) fun (t1 : Bool) =>
 cond t1
  (some ([],2))
  (af (fp q) fun x27 =>
  cond (x27.2 != (0 : Int))
   (some ([],x27.2))
   (af (eT (LChecker.mk sA vars) q) fun x38 =>
   some (x38.1,x38.2)))
theorem nh (sA : LSchema) (vars : List LCol) (q : LQuery) (r : (List LCol) × Int) (H : gd sA vars q = some r) :
  aI Tryz.prog 67 [(.agg (bW sA)),(.list 51 (vars.map aN)),(.agg (aG q))] (.tup [(.list 51 (r.1.map aN)),(am r.2)]) := by
 unfold gd at H
 refine PH.au Tryz.func67 Tryz.ntmps67 ?_
 refine ab (aa (aD ?_))
 refine aD ?_
 refine ag 2 tk rfl (ac (ab (ab ?_)))
 refine gG (γ := Unit) (fun t1 g1=>⟨41,upd (upd (upd (upd (fun _=>.any) 24 (aC t1)) 5 (.ptr (aG q))) 3 (.ptr (bW sA))) 1 (.list 51 (vars.map aN)),fun _=>none,fun _=>none⟩) H (fun _ H=>?_) (fun t1 g1 H=>?_)
 ·refine aa (ah tk rfl ?_)
  obtain ⟨x12,h12,H⟩ := ax H
  have s12 := rW (m := 12) q _ h12
  refine ak Tryz.call82 (jx.r) (PFun.iy s12) ?_
  refine az tk (zl _) ?_
  refine ag 2 tk rfl ?_
  refine bf rfl rfl rfl H (fun H=>?_) (fun H=>?_)
  ·refine ag 9 tk rfl (ac ?_)
   refine aR _ () (aA H) Gh.d
  refine ah tk rfl ?_
  obtain ⟨x17,h17,H⟩ := ax H
  have s17 := W_query_depth q _ h17
  refine ak Tryz.call108 (jx.r) s17 ?_
  refine ag 3 tk rfl ?_
  refine bf rfl rfl rfl H (fun H=>?_) (fun H=>?_)
  ·refine ag 4 tk rfl (ac ?_)
   refine aR _ () (aA H) Gh.d
  refine ah tk rfl ?_
  obtain ⟨x22,h22,H⟩ := ax H
  have s22 := oz q _ h22
  refine ak Tryz.call109 (jx.r) s22 ?_
  refine ag 2 tk rfl (ac ?_)
  refine aR _ () (aA H) Gh.d
 refine aH rfl H (fun H=>?_) (fun H=>?_)
 ·refine ao 2 tk rfl ?_
  obtain rfl := aA H
  refine bc tk rfl (ps := [(.val (.slice none 0 0)),(am 2)]) ⟨_,_,rfl,rfl,_,_,rfl,rfl,rfl⟩ (PLe.of2 (oG.tup (iK.cons (oG.nil tk rfl) (iK.cons (oG.of_eq rfl) iK.nil))))
 refine ap (ab (ab (aa (ah tk rfl ?_))))
 obtain ⟨x27,h27,H⟩ := ax H
 have s27 := lI q _ h27
 refine ak Tryz.call48 (jx.r) s27 ?_
 refine ag 5 tk rfl (ac (ao 2 tk rfl ?_))
 refine aH rfl H (fun H=>?_) (fun H=>?_)
 ·refine ao 3 tk rfl ?_
  obtain rfl := aA H
  refine bc tk rfl (ps := [(.val (.slice none 0 0)),(am x27.2)]) ⟨_,_,rfl,rfl,_,_,rfl,rfl,rfl⟩ (PLe.of2 (oG.tup (iK.cons (oG.nil tk rfl) (iK.cons (oG.of_eq rfl) iK.nil))))
 refine ap (ab (aa (ag 3 tk rfl ?_)))
 refine ba tk fun b10=>?_
 refine aq tk ?_
 refine ac (ab (aa (aB tk ?_)))
 refine ah tk rfl ?_
 obtain ⟨x38,h38,H⟩ := ax H
 have s38 := lE (LChecker.mk sA vars) q _ h38
 refine ak Tryz.call110 (jx.r) s38 ?_
 refine ag 4 tk rfl (ac ?_)
 exact aW tk H rfl
def gC (rA : LRun) (q : LQuery) : Option ((List LCol)) :=
 af (eT (LChecker.mk rA.s rA.vars) q) fun x14 =>
 some x14.1
theorem mh (rA : LRun) (q : LQuery) (r : (List LCol)) (H : gC rA q = some r) :
  aI Tryz.prog 113 [(.agg (dE rA)),(.agg (aG q))] (.list 51 (r.map aN)) := by
 unfold gC at H
 refine PH.au Tryz.func113 Tryz.ntmps113 ?_
 refine ab (aa (aD ?_))
 refine aD ?_
 refine ah tk rfl (ac (ab (aa (ag 6 tk rfl ?_))))
 obtain ⟨x14,h14,H⟩ := ax H
 have s14 := lE (LChecker.mk rA.s rA.vars) q _ h14
 refine ak Tryz.call110 (jx.r) s14 ?_
 refine ag 5 tk rfl (ac (ao 2 tk rfl ?_))
 exact aW tk H rfl
end
end Go.Proofs.YtifhafpljncplaaGreatDoor
