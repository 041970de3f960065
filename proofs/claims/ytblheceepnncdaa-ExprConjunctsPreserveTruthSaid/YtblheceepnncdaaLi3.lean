/- Lifted functions, stage 3: printed by lift.py. -/
import Derived.Test.YtblheceepnncdaaNtB
namespace Go.Proofs.Ytblheceepnncdaa
open Go Go.Ab
attribute [local irreducible] V AOps DOps Gh Eff PCallsH IntKind.wrap
set_option maxRecDepth 4000

noncomputable def L_stemkeep3_ExprConjunctsPreserveTruth (e : LExpr) (row : List LVal) (args : List LVal) : Option (Bool) :=
  letP (valuesV) fun x14 =>
  cond (!x14)
    (some false)
    (bindP (L_stemkeep3_env row args) fun x19 =>
    letP (
      letP (nodesE e 150) fun x23 =>
      cond (decide (x23 < (0 : Int)))
        (true)
        ((!x19.2))) fun (t1 : Bool) =>
    cond t1
      (some true)
      (letP (typeV x19.1.cols ([] : List LCol) e) fun x33 =>
      cond (x33.2.2 != (0 : Int))
        (some true)
        (bindP (conjO e) fun x40 =>
        bindP (L_slices_ContainsFunc_Lexpr_Expr_expr_Expr x40 (fun a0 => some (L_stemkeep3_ExprConjunctsPreserveTruth_1 a0 x19.1))) fun x43 =>
        cond (decide ((x40.length : Int) > (0 : Int)))
          (letP (evalE x19.1 e) fun x52 =>
          letP (isTrueV x52) fun x53 =>
          cond ((!x43) == x53)
            (letP (conjoinE x40) fun x60 =>
            letP (evalE x19.1 x60) fun x61 =>
            letP (isTrueV x61) fun x62 =>
            cond ((!x43) == x62)
              (letP (conjoinE ([] : List LExpr)) fun x67 =>
              letP (evalE x19.1 x67) fun x68 =>
              letP (isTrueV x68) fun x69 =>
              some x69)
              (some false))
            (some false))
          (some false))))

set_option maxHeartbeats 4000000 in
theorem W_stemkeep3_ExprConjunctsPreserveTruth (e : LExpr) (row : List LVal) (args : List LVal) (r : Bool) (H : L_stemkeep3_ExprConjunctsPreserveTruth e row args = some r) :
    PFun Try.prog 7 [(.agg (encE e)), (.list 23 (row.map encVal)), (.list 23 (args.map encVal))] (pbool r) := by
  unfold L_stemkeep3_ExprConjunctsPreserveTruth at H
  refine PCallsH.intro Try.func7 rfl Try.ntmps7 rfl ?_
  refine V.seq ?_
  refine V.region ?_
  refine AOps.boxF rfl rfl rfl rfl rfl rfl ?_
  refine AOps.q tt_ok rfl ?_
  refine AOps.nil ?_
  iterate 2 refine V.seq ?_
  refine V.region ?_
  obtain ⟨x14, h14, H⟩ := letE H
  have s14 := valuesV_spec
  rw [h14] at s14
  refine AOps.callP (g := 8) rfl rfl rfl Try.call8 (PLeAll.refl _ _) s14 rfl ?_
  refine AOps.q tt_ok rfl ?_
  refine AOps.nil ?_
  refine V.cond rfl (fun h => ?_) (fun h => ?_)
  · have H := condT h H
    refine V.seq ?_
    refine V.region ?_
    refine AOps.q tt_ok rfl ?_
    refine AOps.nil ?_
    obtain rfl := someE H
    refine V.retP tt_ok rfl (ps := [(pbool false)]) ⟨_, _, rfl, rfl, rfl⟩ (PLe.of_eq rfl)
  · have H := condF h H
    refine V.skip ?_
    refine V.seq ?_
    refine V.region ?_
    iterate 2 refine AOps.q tt_ok rfl ?_
    obtain ⟨x19, h19, H⟩ := bindE H
    have s19 := W_stemkeep3_env row args _ h19
    refine AOps.callP (g := 14) rfl rfl rfl Try.call14 (PLeAll.refl _ _) s19 rfl ?_
    iterate 3 refine AOps.q tt_ok rfl ?_
    refine AOps.alloc tt_ok rfl rfl rfl rfl rfl rfl fun b7 => ?_
    refine AOps.storeBox tt_ok rfl rfl rfl rfl rfl rfl rfl rfl rfl rfl rfl ?_
    refine AOps.q tt_ok rfl ?_
    refine AOps.nil ?_
    iterate 2 refine V.seq ?_
    obtain ⟨fl1, H1, Hp1⟩ := letE H
    refine V.cut (τ := Bool) (γ := Unit) (fun t1 g1 => ⟨71, upd (upd (upd (fun _ => .any) 28 (pbool t1)) 7 (.box 7 b7 0)) 3 (.ptr [(pint e.kind), (.str e.name), (pint e.index), (pint e.value.kind), (pint e.value.int), (.str e.value.text), (.list 35 (e.args.map encExpr))]), upd (fun _ => none) 7 (some ⟨b7, [(.list 46 (x19.1.cols.map encCol)), (.list 23 (x19.1.row.map encVal)), (.list 23 (x19.1.params.map encVal)), (.list 9 (x19.1.vnames.map rStr)), (.list 23 (x19.1.vvals.map encVal))]⟩), fun _ => none⟩) (fun t => t = fl1) ?_ (fun t1 g1 hn1 => ?_)
    · have H := H1
      refine V.region ?_
      refine AOps.q tt_ok rfl ?_
      obtain ⟨x23, h23, H⟩ := letE H
      have s23 := nodes_spec e 150
      rw [h23] at s23
      refine AOps.callP (g := 15) rfl rfl rfl Try.call15 (PLeAll.refl _ _) s23 rfl ?_
      iterate 2 refine AOps.q tt_ok rfl ?_
      refine AOps.split rfl rfl rfl (fun h => ?_) (fun h => ?_)
      · have H := condT h H
        iterate 3 refine AOps.q tt_ok rfl ?_
        refine AOps.nil ?_
        subst H
        refine V.at true () rfl (Gh.le (SLe.cons (PLe.of_eq rfl) (SLe.cons (PLe.of_eq rfl) (SLe.cons (PLe.of_eq rfl) SLe.nil))) (BLe.cons rfl (PLeAll.refl _ _) BLe.nil) OLe.nil)
      · have H := condF h H
        iterate 3 refine AOps.q tt_ok rfl ?_
        refine AOps.nil ?_
        subst H
        refine V.at (!x19.2) () rfl (Gh.le (SLe.cons (PLe.of_eq rfl) (SLe.cons (PLe.of_eq rfl) (SLe.cons (PLe.of_eq rfl) SLe.nil))) (BLe.cons rfl (PLeAll.refl _ _) BLe.nil) OLe.nil)
    · subst hn1
      have H := Hp1
      refine V.cond rfl (fun h => ?_) (fun h => ?_)
      · have H := condT h H
        refine V.seq ?_
        refine V.region ?_
        refine AOps.q tt_ok rfl ?_
        refine AOps.nil ?_
        obtain rfl := someE H
        refine V.retP tt_ok rfl (ps := [(pbool true)]) ⟨_, _, rfl, rfl, rfl⟩ (PLe.of_eq rfl)
      · have H := condF h H
        refine V.skip ?_
        iterate 2 refine V.seq ?_
        refine V.region ?_
        refine AOps.q tt_ok rfl ?_
        refine AOps.loadBox tt_ok rfl rfl rfl rfl rfl rfl rfl ?_
        refine AOps.q tt_ok rfl ?_
        obtain ⟨x33, h33, H⟩ := letE H
        have s33 := typeOf_spec x19.1.cols ([] : List LCol) e
        rw [h33] at s33
        refine AOps.callP (g := 24) rfl rfl rfl Try.call24 (PLeAll.of2 (PLe2All.cons (PLe2.of_eq rfl) (PLe2All.cons (PLe2.nil tt_ok rfl) (PLe2All.cons (PLe2.of_eq rfl) PLe2All.nil)))) s33 rfl ?_
        iterate 7 refine AOps.q tt_ok rfl ?_
        refine AOps.nil ?_
        refine V.seq ?_
        refine V.region ?_
        iterate 2 refine AOps.q tt_ok rfl ?_
        refine AOps.nil ?_
        refine V.cond rfl (fun h => ?_) (fun h => ?_)
        · have H := condT h H
          refine V.seq ?_
          refine V.region ?_
          refine AOps.q tt_ok rfl ?_
          refine AOps.nil ?_
          obtain rfl := someE H
          refine V.retP tt_ok rfl (ps := [(pbool true)]) ⟨_, _, rfl, rfl, rfl⟩ (PLe.of_eq rfl)
        · have H := condF h H
          refine V.skip ?_
          refine V.seq ?_
          refine V.region ?_
          refine AOps.q tt_ok rfl ?_
          obtain ⟨x40, h40, H⟩ := bindE H
          have s40 := conj_spec (m := 40) e _ h40
          refine AOps.callP (g := 27) rfl rfl rfl Try.call27 (PLeAll.refl _ _) (PFun.of_own s40) rfl ?_
          refine AOps.q tt_ok rfl ?_
          refine AOps.nil ?_
          refine V.seq ?_
          refine V.region ?_
          refine AOps.q tt_ok rfl ?_
          refine AOps.gh (Gh.freezeB 7 rfl rfl rfl rfl) ?_
          refine AOps.q tt_ok rfl ?_
          obtain ⟨x43, h43, H⟩ := bindE H
          have s43 := W_slices_ContainsFunc_Lexpr_Expr_expr_Expr x40 (fun a0 => some (L_stemkeep3_ExprConjunctsPreserveTruth_1 a0 x19.1)) Try.call28 (fun a0 r h => (someE h) ▸ W_stemkeep3_ExprConjunctsPreserveTruth_1 a0 x19.1) _ h43
          refine AOps.callP (g := 16) rfl rfl rfl Try.call16 (PLeAll.refl _ _) s43 rfl ?_
          iterate 2 refine AOps.q tt_ok rfl ?_
          refine AOps.nil ?_
          refine V.seq ?_
          refine V.draw tt_ok mixed_ok false [0, 1, 2, 3, 4, 5, 6, 7, 8, 9, 10, 11, 12, 13, 14, 15, 16, 17, 18, 19, 20, 21, 22, 23, 24, 25, 26] rfl (by decide +kernel) rfl ?_
          refine DOps.q rfl ?_
          refine DOps.lenL rfl rfl rfl rfl rfl rfl (List.length_map _) rfl ?_
          iterate 2 refine DOps.q rfl ?_
          refine DOps.split rfl rfl rfl rfl (fun h => ?_) (fun h => ?_)
          · have H := condT h H
            iterate 3 refine DOps.q rfl ?_
            obtain ⟨x52, h52, H⟩ := letE H
            have s52 := eval_spec x19.1 e
            rw [h52] at s52
            refine DOps.callP (g := 12) rfl rfl rfl rfl Try.call12 (PLeAll.refl _ _) s52 rfl ?_
            obtain ⟨x53, h53, H⟩ := letE H
            have s53 := isTrueV_spec x52
            rw [h53] at s53
            refine DOps.callP (g := 11) rfl rfl rfl rfl Try.call11 (PLeAll.refl _ _) s53 rfl ?_
            iterate 3 refine DOps.q rfl ?_
            refine DOps.split rfl rfl rfl rfl (fun h => ?_) (fun h => ?_)
            · have H := condT h H
              iterate 3 refine DOps.q rfl ?_
              obtain ⟨x60, h60, H⟩ := letE H
              have s60 := conjoin_spec x40
              rw [h60] at s60
              refine DOps.callP (g := 29) rfl rfl rfl rfl Try.call29 (PLeAll.refl _ _) s60 rfl ?_
              obtain ⟨x61, h61, H⟩ := letE H
              have s61 := eval_spec x19.1 x60
              rw [h61] at s61
              refine DOps.callP (g := 12) rfl rfl rfl rfl Try.call12 (PLeAll.refl _ _) s61 rfl ?_
              obtain ⟨x62, h62, H⟩ := letE H
              have s62 := isTrueV_spec x61
              rw [h62] at s62
              refine DOps.callP (g := 11) rfl rfl rfl rfl Try.call11 (PLeAll.refl _ _) s62 rfl ?_
              iterate 3 refine DOps.q rfl ?_
              refine DOps.split rfl rfl rfl rfl (fun h => ?_) (fun h => ?_)
              · have H := condT h H
                refine DOps.q rfl ?_
                obtain ⟨x67, h67, H⟩ := letE H
                have s67 := conjoin_spec ([] : List LExpr)
                rw [h67] at s67
                refine DOps.callP (g := 29) rfl rfl rfl rfl Try.call29 (PLeAll.of2 (PLe2All.cons (PLe2.nil tt_ok rfl) PLe2All.nil)) s67 rfl ?_
                obtain ⟨x68, h68, H⟩ := letE H
                have s68 := eval_spec x19.1 x67
                rw [h68] at s68
                refine DOps.callP (g := 12) rfl rfl rfl rfl Try.call12 (PLeAll.refl _ _) s68 rfl ?_
                obtain ⟨x69, h69, H⟩ := letE H
                have s69 := isTrueV_spec x68
                rw [h69] at s69
                refine DOps.callP (g := 11) rfl rfl rfl rfl Try.call11 (PLeAll.refl _ _) s69 rfl ?_
                iterate 2 refine DOps.q rfl ?_
                refine DOps.nil ?_
                obtain rfl := someE H
                refine V.retP tt_ok rfl (ps := [(pbool x69)]) ⟨_, _, rfl, rfl, rfl⟩ (PLe.of_eq rfl)
              · have H := condF h H
                iterate 6 refine DOps.q rfl ?_
                refine DOps.nil ?_
                obtain rfl := someE H
                refine V.retP tt_ok rfl (ps := [(pbool false)]) ⟨_, _, rfl, rfl, rfl⟩ (PLe.of_eq rfl)
            · have H := condF h H
              iterate 15 refine DOps.q rfl ?_
              refine DOps.nil ?_
              obtain rfl := someE H
              refine V.retP tt_ok rfl (ps := [(pbool false)]) ⟨_, _, rfl, rfl, rfl⟩ (PLe.of_eq rfl)
          · have H := condF h H
            iterate 23 refine DOps.q rfl ?_
            refine DOps.nil ?_
            obtain rfl := someE H
            refine V.retP tt_ok rfl (ps := [(pbool false)]) ⟨_, _, rfl, rfl, rfl⟩ (PLe.of_eq rfl)

end Go.Proofs.Ytblheceepnncdaa
