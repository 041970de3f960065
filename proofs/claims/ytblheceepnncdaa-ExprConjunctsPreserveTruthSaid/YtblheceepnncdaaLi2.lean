/- Lifted functions, stage 2: printed by lift.py. -/
import Derived.Test.YtblheceepnncdaaNtA
namespace Go.Proofs.Ytblheceepnncdaa
open Go Go.Ab
attribute [local irreducible] V AOps DOps Gh Eff PCallsH IntKind.wrap
set_option maxRecDepth 4000

noncomputable def L_stemkeep3_ExprSubstitutionCommutes (e : LExpr) (names : List (List UInt8)) (l : List LExpr) (row : List LVal) (args : List LVal) : Option (Bool) :=
  letP (valuesV) fun x18 =>
  cond (!x18)
    (some false)
    (bindP (L_stemkeep3_env row args) fun x23 =>
    bindP (
      letP (nodesE e 100) fun x27 =>
      cond (decide (x27 < (0 : Int)))
        (some true)
        (cond (!x23.2)
          (some true)
          (cond (decide ((names.length : Int) > (10 : Int)))
            (some true)
            (cond (decide ((l.length : Int) > (10 : Int)))
              (some true)
              (bindP (L_slices_ContainsFunc_Lexpr_Expr_expr_Expr l (fun a0 => some (L_stemkeep3_ExprSubstitutionCommutes_1 a0))) fun x45 =>
              some x45))))) fun (t1 : Bool) =>
    cond t1
      (some true)
      (bindP (subI names 0 (if (l.length : Int) < (names.length : Int) then (l.length : Int) else (names.length : Int))) fun (x56 : List (List UInt8)) =>
      bindP (rangeM (σ := List LCol × List LVal) (ρ := Empty) (fun (j2 : Nat) (x2 : List UInt8) (s2 : List LCol × List LVal) =>
        bindP (subI names 0 (j2 : Int)) fun (x65 : List (List UInt8)) =>
        bindP (L_slices_Contains_Lstring_string x65 x2) fun x67 =>
        cond (!x67)
          (bindP (appI 32 s2.1 ([(LCol.mk x2 0 false)] : List LCol)) fun (x74 : List LCol) =>
          bindP (getI l (j2 : Int)) fun (x81 : LExpr) =>
          letP (evalE x23.1 x81) fun x83 =>
          bindP (appI 32 s2.2 ([x83] : List LVal)) fun (x85 : List LVal) =>
          some (.next (x74, x85)))
          (some (.next (s2.1, s2.2)))) 0 x56 ([], [])) fun fl2 => fl2.thenP fun (s2 : List LCol × List LVal) =>
      bindP (rangeM (σ := Unit) (ρ := (Bool)) (fun (j3 : Nat) (x3 : List UInt8) (_ : Unit) =>
        cond (decide ((j3 : Int) ≥ (l.length : Int)))
          (bindP (subI names 0 (j3 : Int)) fun (x102 : List (List UInt8)) =>
          bindP (L_slices_Contains_Lstring_string x102 x3) fun x104 =>
          cond (!x104)
            (some (.ret true))
            (some (.next ())))
          (some (.next ()))) 0 names ()) fun fl3 => fl3.thenR fun (_ : Unit) =>
      bindP (L_slices_ContainsFunc_api_Row_api_Value s2.2 (fun a0 => some (L_stemkeep3_ExprSubstitutionCommutes_2 a0))) fun x110 =>
      cond x110
        (some true)
        (bindP (L_slices_Concat_Lapi_Column_api_Column ([s2.1, x23.1.cols] : List (List LCol))) fun x116 =>
        bindP (L_slices_Concat_api_Row_api_Value ([s2.2, x23.1.row] : List (List LVal))) fun x122 =>
        letP (substE e names l) fun x129 =>
        letP (evalE x23.1 x129) fun x130 =>
        letP (evalE (LEnv.mk x116 x122 x23.1.params x23.1.vnames x23.1.vvals) e) fun x133 =>
        some (x130.kind == x133.kind && (x130.int == x133.int && (x130.text == x133.text && true))))))

set_option maxHeartbeats 4000000 in
theorem W_stemkeep3_ExprSubstitutionCommutes (e : LExpr) (names : List (List UInt8)) (l : List LExpr) (row : List LVal) (args : List LVal) (r : Bool) (H : L_stemkeep3_ExprSubstitutionCommutes e names l row args = some r) :
    PFun Try.prog 4 [(.agg (encE e)), (.list 9 (names.map rStr)), (.list 35 (l.map encExpr)), (.list 23 (row.map encVal)), (.list 23 (args.map encVal))] (pbool r) := by
  unfold L_stemkeep3_ExprSubstitutionCommutes at H
  refine PCallsH.intro Try.func4 rfl Try.ntmps4 rfl ?_
  refine V.seq ?_
  refine V.region ?_
  refine AOps.boxF rfl rfl rfl rfl rfl rfl ?_
  refine AOps.q tt_ok rfl ?_
  refine AOps.nil ?_
  iterate 2 refine V.seq ?_
  refine V.region ?_
  obtain ⟨x18, h18, H⟩ := letE H
  have s18 := valuesV_spec
  rw [h18] at s18
  refine AOps.callP (g := 8) rfl rfl rfl Try.call8 (PLeAll.refl _ _) s18 rfl ?_
  refine AOps.q tt_ok rfl ?_
  refine AOps.nil ?_
  refine V.cond rfl (fun h => ?_) (fun h => ?_)
  · have H := condT h H
    refine V.seq ?_
    refine V.region ?_
    refine AOps.q tt_ok rfl ?_
    refine AOps.nil ?_
    obtain rfl := someE H
    refine V.retP tt_ok rfl (ps := [(pbool false)]) ⟨_, _, rfl, rfl, rfl⟩ (PLe.of_eq rfl)
  · have H := condF h H
    refine V.skip ?_
    refine V.seq ?_
    refine V.region ?_
    iterate 2 refine AOps.q tt_ok rfl ?_
    obtain ⟨x23, h23, H⟩ := bindE H
    have s23 := W_stemkeep3_env row args _ h23
    refine AOps.callP (g := 14) rfl rfl rfl Try.call14 (PLeAll.refl _ _) s23 rfl ?_
    iterate 3 refine AOps.q tt_ok rfl ?_
    refine AOps.alloc tt_ok rfl rfl rfl rfl rfl rfl fun b11 => ?_
    refine AOps.storeBox tt_ok rfl rfl rfl rfl rfl rfl rfl rfl rfl rfl rfl ?_
    refine AOps.q tt_ok rfl ?_
    refine AOps.nil ?_
    iterate 2 refine V.seq ?_
    obtain ⟨fl1, H1, Hp1⟩ := bindE H
    refine V.cut (τ := Bool) (γ := Unit) (fun t1 g1 => ⟨135, upd (upd (upd (upd (upd (fun _ => .any) 46 (pbool t1)) 11 (.box 11 b11 0)) 5 (.ptr [(pint e.kind), (.str e.name), (pint e.index), (pint e.value.kind), (pint e.value.int), (.str e.value.text), (.list 35 (e.args.map encExpr))])) 2 (.list 35 (l.map encExpr))) 1 (.list 9 (names.map rStr)), upd (fun _ => none) 11 (some ⟨b11, [(.list 46 (x23.1.cols.map encCol)), (.list 23 (x23.1.row.map encVal)), (.list 23 (x23.1.params.map encVal)), (.list 9 (x23.1.vnames.map rStr)), (.list 23 (x23.1.vvals.map encVal))]⟩), fun _ => none⟩) (fun t => t = fl1) ?_ (fun t1 g1 hn1 => ?_)
    · have H := H1
      refine V.region ?_
      refine AOps.q tt_ok rfl ?_
      obtain ⟨x27, h27, H⟩ := letE H
      have s27 := nodes_spec e 100
      rw [h27] at s27
      refine AOps.callP (g := 15) rfl rfl rfl Try.call15 (PLeAll.refl _ _) s27 rfl ?_
      iterate 2 refine AOps.q tt_ok rfl ?_
      refine AOps.split rfl rfl rfl (fun h => ?_) (fun h => ?_)
      · have H := condT h H
        iterate 17 refine AOps.q tt_ok rfl ?_
        refine AOps.nil ?_
        obtain rfl := someE H
        refine V.at true () rfl (Gh.le (SLe.cons (PLe.of_eq rfl) (SLe.cons (PLe.of_eq rfl) (SLe.cons (PLe.of_eq rfl) (SLe.cons (PLe.of_eq rfl) (SLe.cons (PLe.of_eq rfl) SLe.nil))))) (BLe.cons rfl (PLeAll.refl _ _) BLe.nil) OLe.nil)
      · have H := condF h H
        iterate 4 refine AOps.q tt_ok rfl ?_
        refine AOps.split rfl rfl rfl (fun h => ?_) (fun h => ?_)
        · have H := condT h H
          iterate 13 refine AOps.q tt_ok rfl ?_
          refine AOps.nil ?_
          obtain rfl := someE H
          refine V.at true () rfl (Gh.le (SLe.cons (PLe.of_eq rfl) (SLe.cons (PLe.of_eq rfl) (SLe.cons (PLe.of_eq rfl) (SLe.cons (PLe.of_eq rfl) (SLe.cons (PLe.of_eq rfl) SLe.nil))))) (BLe.cons rfl (PLeAll.refl _ _) BLe.nil) OLe.nil)
        · have H := condF h H
          refine AOps.q tt_ok rfl ?_
          refine AOps.lenL tt_ok rfl rfl rfl rfl rfl (List.length_map _) rfl ?_
          iterate 3 refine AOps.q tt_ok rfl ?_
          refine AOps.split rfl rfl rfl (fun h => ?_) (fun h => ?_)
          · have H := condT h H
            iterate 8 refine AOps.q tt_ok rfl ?_
            refine AOps.nil ?_
            obtain rfl := someE H
            refine V.at true () rfl (Gh.le (SLe.cons (PLe.of_eq rfl) (SLe.cons (PLe.of_eq rfl) (SLe.cons (PLe.of_eq rfl) (SLe.cons (PLe.of_eq rfl) (SLe.cons (PLe.of_eq rfl) SLe.nil))))) (BLe.cons rfl (PLeAll.refl _ _) BLe.nil) OLe.nil)
          · have H := condF h H
            refine AOps.q tt_ok rfl ?_
            refine AOps.lenL tt_ok rfl rfl rfl rfl rfl (List.length_map _) rfl ?_
            iterate 3 refine AOps.q tt_ok rfl ?_
            refine AOps.split rfl rfl rfl (fun h => ?_) (fun h => ?_)
            · have H := condT h H
              iterate 3 refine AOps.q tt_ok rfl ?_
              refine AOps.nil ?_
              obtain rfl := someE H
              refine V.at true () rfl (Gh.le (SLe.cons (PLe.of_eq rfl) (SLe.cons (PLe.of_eq rfl) (SLe.cons (PLe.of_eq rfl) (SLe.cons (PLe.of_eq rfl) (SLe.cons (PLe.of_eq rfl) SLe.nil))))) (BLe.cons rfl (PLeAll.refl _ _) BLe.nil) OLe.nil)
            · have H := condF h H
              refine AOps.q tt_ok rfl ?_
              obtain ⟨x45, h45, H⟩ := bindE H
              have s45 := W_slices_ContainsFunc_Lexpr_Expr_expr_Expr l (fun a0 => some (L_stemkeep3_ExprSubstitutionCommutes_1 a0)) Try.call17 (fun a0 r h => (someE h) ▸ W_stemkeep3_ExprSubstitutionCommutes_1 a0) _ h45
              refine AOps.callP (g := 16) rfl rfl rfl Try.call16 (PLeAll.refl _ _) s45 rfl ?_
              refine AOps.q tt_ok rfl ?_
              refine AOps.nil ?_
              obtain rfl := someE H
              refine V.at x45 () rfl (Gh.le (SLe.cons (PLe.of_eq rfl) (SLe.cons (PLe.of_eq rfl) (SLe.cons (PLe.of_eq rfl) (SLe.cons (PLe.of_eq rfl) (SLe.cons (PLe.of_eq rfl) SLe.nil))))) (BLe.cons rfl (PLeAll.refl _ _) BLe.nil) OLe.nil)
    · subst hn1
      have H := Hp1
      refine V.cond rfl (fun h => ?_) (fun h => ?_)
      · have H := condT h H
        refine V.seq ?_
        refine V.region ?_
        refine AOps.q tt_ok rfl ?_
        refine AOps.nil ?_
        obtain rfl := someE H
        refine V.retP tt_ok rfl (ps := [(pbool true)]) ⟨_, _, rfl, rfl, rfl⟩ (PLe.of_eq rfl)
      · have H := condF h H
        refine V.skip ?_
        refine V.seq ?_
        refine V.region ?_
        refine AOps.loadBox tt_ok rfl rfl rfl rfl rfl rfl rfl ?_
        refine AOps.alloc tt_ok rfl rfl rfl rfl rfl rfl fun b13 => ?_
        refine AOps.storeBox tt_ok rfl rfl rfl rfl rfl rfl rfl rfl rfl rfl rfl ?_
        refine AOps.nil ?_
        refine V.seq ?_
        refine V.region ?_
        refine AOps.q tt_ok rfl ?_
        refine AOps.storeBox tt_ok rfl rfl rfl rfl rfl rfl rfl rfl rfl rfl rfl ?_
        refine AOps.q tt_ok rfl ?_
        refine AOps.storeBox tt_ok rfl rfl rfl rfl rfl rfl rfl rfl rfl rfl rfl ?_
        refine AOps.nil ?_
        iterate 2 refine V.seq ?_
        refine V.region ?_
        iterate 2 refine AOps.q tt_ok rfl ?_
        refine AOps.lenL tt_ok rfl rfl rfl rfl rfl (List.length_map _) rfl ?_
        refine AOps.q tt_ok rfl ?_
        refine AOps.lenL tt_ok rfl rfl rfl rfl rfl (List.length_map _) rfl ?_
        refine AOps.q tt_ok rfl ?_
        obtain ⟨x56, h56, H⟩ := bindE H
        have k56 := subI_some h56
        refine AOps.subL tt_ok rfl rfl rfl rfl rfl (List.length_map _) rfl rfl k56.1 (rowsSubE k56.2) rfl ?_
        refine AOps.lenL tt_ok rfl rfl rfl rfl rfl (List.length_map _) rfl ?_
        refine AOps.q tt_ok rfl ?_
        refine AOps.nil ?_
        obtain ⟨fl2, H2, Hp2⟩ := bindE H
        refine V.lenF tt_ok 56 rfl rfl (fun hz2 _ => ?_)
        rw [List.length_map] at hz2
        refine V.cut (τ := List LCol × List LVal) (γ := OwnRef × OwnRef) (fun s2 g2 => ⟨135, upd (upd (upd (upd (upd (fun _ => .any) 13 (.box 13 b13 0)) 11 (.box 11 b11 0)) 5 (.ptr [(pint e.kind), (.str e.name), (pint e.index), (pint e.value.kind), (pint e.value.int), (.str e.value.text), (.list 35 (e.args.map encExpr))])) 2 (.list 35 (l.map encExpr))) 1 (.list 9 (names.map rStr)), upd (upd (fun _ => none) 13 (some ⟨b13, [(.own 74 g2.1 (s2.1.map encCol).length), (.own 85 g2.2 (s2.2.map encVal).length), (.list 23 (x23.1.params.map encVal)), (.list 9 (x23.1.vnames.map rStr)), (.list 23 (x23.1.vvals.map encVal))]⟩)) 11 (some ⟨b11, [(.list 46 (x23.1.cols.map encCol)), (.list 23 (x23.1.row.map encVal)), (.list 23 (x23.1.params.map encVal)), (.list 9 (x23.1.vnames.map rStr)), (.list 23 (x23.1.vvals.map encVal))]⟩), upd (upd (fun _ => none) 85 (some ⟨g2.2, 23, (s2.2.map encVal), true⟩)) 74 (some ⟨g2.1, 46, (s2.1.map encCol), true⟩)⟩) (fun t => fl2 = .next t) ?_ (fun s2 g2 hn2 => ?_)
        · refine V.block ?_
          refine V.nilOB tt_ok 13 0 74 (e := 46) rfl rfl rfl rfl ?_
          refine V.nilOB tt_ok 13 1 85 (e := 23) rfl rfl rfl rfl ?_
          refine V.rangeL (fun j2 s2 g2 => ⟨135, upd (upd (upd (upd (upd (upd (upd (upd (fun _ => .any) 58 (pint (j2 : Int))) 57 (pint (x56.length : Int))) 56 (.list 9 (x56.map rStr))) 13 (.box 13 b13 0)) 11 (.box 11 b11 0)) 5 (.ptr [(pint e.kind), (.str e.name), (pint e.index), (pint e.value.kind), (pint e.value.int), (.str e.value.text), (.list 35 (e.args.map encExpr))])) 2 (.list 35 (l.map encExpr))) 1 (.list 9 (names.map rStr)), upd (upd (fun _ => none) 13 (some ⟨b13, [(.own 74 g2.1 (s2.1.map encCol).length), (.own 85 g2.2 (s2.2.map encVal).length), (.list 23 (x23.1.params.map encVal)), (.list 9 (x23.1.vnames.map rStr)), (.list 23 (x23.1.vvals.map encVal))]⟩)) 11 (some ⟨b11, [(.list 46 (x23.1.cols.map encCol)), (.list 23 (x23.1.row.map encVal)), (.list 23 (x23.1.params.map encVal)), (.list 9 (x23.1.vnames.map rStr)), (.list 23 (x23.1.vvals.map encVal))]⟩), upd (upd (fun _ => none) 85 (some ⟨g2.2, 23, (s2.2.map encVal), true⟩)) 74 (some ⟨g2.1, 46, (s2.1.map encCol), true⟩)⟩) (⟨none, 0⟩, ⟨none, 0⟩) H2 (Gh.le (SLe.cons (PLe.of_eq rfl) (SLe.cons (PLe.of_eq rfl) (SLe.cons (PLe.of_eq rfl) (SLe.cons (PLe.of_eq rfl) (SLe.cons (PLe.of_eq rfl) (SLe.cons (PLe.of_eq rfl) (SLe.cons (PLe.of_eq rfl) (SLe.cons (PLe.of_eq rfl) SLe.nil)))))))) (BLe.cons rfl (PLeAll.refl _ _) (BLe.cons rfl (PLeAll.refl _ _) BLe.nil)) (OLe.cons rfl (OLe.cons rfl OLe.nil))) (fun j2 s2 g2 hj2 hr2 => ?_)
          refine V.seq ?_
          refine V.region ?_
          refine AOps.q tt_ok rfl ?_
          refine AOps.nil ?_
          refine V.seq ?_
          refine V.cond rfl (fun h => ?_) (fun h => ?_)
          · have hl2 := rowsLt h
            obtain ⟨x2, fb2, hx2, H, hg2⟩ := rangeM_cons hl2 hr2
            refine V.skip ?_
            refine V.seq ?_
            refine V.block ?_
            refine V.seq ?_
            refine V.region ?_
            refine AOps.q tt_ok rfl ?_
            refine AOps.idx tt_ok rfl rfl rfl rfl rfl rfl (Int.natCast_nonneg j2) (rowsGet (fun _ => rfl) hx2) rfl ?_
            iterate 3 refine AOps.q tt_ok rfl ?_
            refine AOps.nil ?_
            refine V.seq ?_
            refine V.region ?_
            iterate 2 refine AOps.q tt_ok rfl ?_
            obtain ⟨x65, h65, H⟩ := bindE H
            have k65 := subI_some h65
            refine AOps.subL tt_ok rfl rfl rfl rfl rfl (List.length_map _) rfl rfl k65.1 (rowsSubE k65.2) rfl ?_
            refine AOps.q tt_ok rfl ?_
            obtain ⟨x67, h67, H⟩ := bindE H
            have s67 := W_slices_Contains_Lstring_string x65 x2 _ h67
            refine AOps.callP (g := 18) rfl rfl rfl Try.call18 (PLeAll.refl _ _) s67 rfl ?_
            refine AOps.q tt_ok rfl ?_
            refine AOps.nil ?_
            refine V.cond rfl (fun h => ?_) (fun h => ?_)
            · have H := condT h H
              refine V.seq ?_
              refine V.region ?_
              refine AOps.q tt_ok rfl ?_
              refine AOps.loadBox tt_ok rfl rfl rfl rfl rfl rfl rfl ?_
              iterate 2 refine AOps.q tt_ok rfl ?_
              refine AOps.bsC tt_ok rfl rfl rfl rfl (rows' := List.map encCol ([(LCol.mk x2 0 false)] : List LCol)) rfl (PLe2Rows.refl _) rfl rfl ?_
              obtain ⟨x74, h74, H⟩ := bindE H
              have k74 := appI_some h74
              refine AOps.appendC (rows2' := List.map encCol ([(LCol.mk x2 0 false)] : List LCol)) (rows' := List.map encCol x74) tt_ok rfl rfl rfl rfl rfl rfl rfl rfl rfl rfl rfl rfl rfl (PLe2Rows.refl _) (appI_by k74.1) (appI_mx k74.2.1) (appI_eq k74.2.2) fun g74 => ?_
              refine AOps.q tt_ok rfl ?_
              refine AOps.storeBox tt_ok rfl rfl rfl rfl rfl rfl rfl rfl rfl rfl rfl ?_
              refine AOps.nil ?_
              refine V.draw tt_ok mixed_ok true [0, 1, 2, 3, 4, 5, 6, 7, 8, 9, 10, 11] rfl (by decide +kernel) rfl ?_
              refine DOps.q rfl ?_
              refine DOps.loadBox rfl rfl rfl rfl rfl rfl rfl rfl rfl ?_
              refine DOps.loadBox rfl rfl rfl rfl rfl rfl rfl rfl rfl ?_
              iterate 2 refine DOps.q rfl ?_
              obtain ⟨x81, h81, H⟩ := bindE H
              have k81 := getI_some h81
              refine DOps.idx rfl rfl rfl rfl rfl rfl rfl k81.1 (rowsGetI encExpr_eq k81.2) rfl ?_
              refine DOps.q rfl ?_
              obtain ⟨x83, h83, H⟩ := letE H
              have s83 := eval_spec x23.1 x81
              rw [h83] at s83
              refine DOps.callP (g := 12) rfl rfl rfl rfl Try.call12 (PLeAll.refl _ _) s83 rfl ?_
              refine DOps.q rfl ?_
              obtain ⟨x85, h85, H⟩ := bindE H
              have k85 := appI_some h85
              refine DOps.appendC (rows2' := List.map encVal ([x83] : List LVal)) (rows' := List.map encVal x85) tt_ok rfl rfl rfl rfl rfl rfl rfl rfl rfl rfl rfl rfl rfl rfl (PLe2Rows.refl _) (appI_by k85.1) (appI_mx k85.2.1) (appI_eq k85.2.2) fun g85 => ?_
              refine DOps.q rfl ?_
              refine DOps.storeBox rfl rfl rfl rfl rfl rfl rfl rfl rfl rfl rfl rfl ?_
              refine DOps.nil ?_
              refine V.blk ?_
              refine V.region ?_
              iterate 2 refine AOps.q tt_ok rfl ?_
              refine AOps.nil ?_
              obtain rfl := someE H
              refine V.againL (x74, x85) (g74, g85) ⟨hl2, hg2⟩ (Gh.le (SLe.cons (PLe.of_eq rfl) (SLe.cons (PLe.of_eq rfl) (SLe.cons (PLe.of_eq rfl) (SLe.cons (PLe.of_eq rfl) (SLe.cons (PLe.of_eq rfl) (SLe.cons (PLe.of_eq rfl) (SLe.cons (PLe.of_eq rfl) (SLe.cons (PLe.of_eq (pint_succ (by omega))) SLe.nil)))))))) (BLe.cons rfl (PLeAll.refl _ _) (BLe.cons rfl (PLeAll.refl _ _) BLe.nil)) (OLe.cons rfl (OLe.cons rfl OLe.nil)))
            · have H := condF h H
              refine V.skip ?_
              refine V.blk ?_
              refine V.region ?_
              iterate 2 refine AOps.q tt_ok rfl ?_
              refine AOps.nil ?_
              obtain rfl := someE H
              refine V.againL (s2.1, s2.2) (g2.1, g2.2) ⟨hl2, hg2⟩ (Gh.le (SLe.cons (PLe.of_eq rfl) (SLe.cons (PLe.of_eq rfl) (SLe.cons (PLe.of_eq rfl) (SLe.cons (PLe.of_eq rfl) (SLe.cons (PLe.of_eq rfl) (SLe.cons (PLe.of_eq rfl) (SLe.cons (PLe.of_eq rfl) (SLe.cons (PLe.of_eq (pint_succ (by omega))) SLe.nil)))))))) (BLe.cons rfl (PLeAll.refl _ _) (BLe.cons rfl (PLeAll.refl _ _) BLe.nil)) (OLe.cons rfl (OLe.cons rfl OLe.nil)))
          · have hn2 := rangeM_done (rowsGe h) hr2
            refine V.exit rfl ?_
            refine V.at s2 g2 hn2 (Gh.le (SLe.cons (PLe.of_eq rfl) (SLe.cons (PLe.of_eq rfl) (SLe.cons (PLe.of_eq rfl) (SLe.cons (PLe.of_eq rfl) (SLe.cons (PLe.of_eq rfl) SLe.nil))))) (BLe.cons rfl (PLeAll.refl _ _) (BLe.cons rfl (PLeAll.refl _ _) BLe.nil)) (OLe.cons rfl (OLe.cons rfl OLe.nil)))
        · have H := thenP_next hn2 Hp2
          iterate 2 refine V.seq ?_
          refine V.region ?_
          refine AOps.q tt_ok rfl ?_
          refine AOps.lenL tt_ok rfl rfl rfl rfl rfl (List.length_map _) rfl ?_
          refine AOps.q tt_ok rfl ?_
          refine AOps.nil ?_
          obtain ⟨fl3, H3, Hp3⟩ := bindE H
          refine V.lenF tt_ok 88 rfl rfl (fun hz3 _ => ?_)
          rw [List.length_map] at hz3
          refine V.cut (τ := Unit) (γ := Unit) (fun s3 g3 => ⟨135, upd (upd (upd (upd (upd (fun _ => .any) 13 (.box 13 b13 0)) 11 (.box 11 b11 0)) 5 (.ptr [(pint e.kind), (.str e.name), (pint e.index), (pint e.value.kind), (pint e.value.int), (.str e.value.text), (.list 35 (e.args.map encExpr))])) 2 (.list 35 (l.map encExpr))) 1 (.list 9 (names.map rStr)), upd (upd (fun _ => none) 13 (some ⟨b13, [(.own 74 g2.1 (s2.1.map encCol).length), (.own 85 g2.2 (s2.2.map encVal).length), (.list 23 (x23.1.params.map encVal)), (.list 9 (x23.1.vnames.map rStr)), (.list 23 (x23.1.vvals.map encVal))]⟩)) 11 (some ⟨b11, [(.list 46 (x23.1.cols.map encCol)), (.list 23 (x23.1.row.map encVal)), (.list 23 (x23.1.params.map encVal)), (.list 9 (x23.1.vnames.map rStr)), (.list 23 (x23.1.vvals.map encVal))]⟩), upd (upd (fun _ => none) 85 (some ⟨g2.2, 23, (s2.2.map encVal), true⟩)) 74 (some ⟨g2.1, 46, (s2.1.map encCol), true⟩)⟩) (fun t => fl3 = .next t) ?_ (fun s3 g3 hn3 => ?_)
          · refine V.block ?_
            refine V.rangeL (fun j3 s3 g3 => ⟨135, upd (upd (upd (upd (upd (upd (upd (upd (fun _ => .any) 90 (pint (j3 : Int))) 89 (pint (names.length : Int))) 88 (.list 9 (names.map rStr))) 13 (.box 13 b13 0)) 11 (.box 11 b11 0)) 5 (.ptr [(pint e.kind), (.str e.name), (pint e.index), (pint e.value.kind), (pint e.value.int), (.str e.value.text), (.list 35 (e.args.map encExpr))])) 2 (.list 35 (l.map encExpr))) 1 (.list 9 (names.map rStr)), upd (upd (fun _ => none) 13 (some ⟨b13, [(.own 74 g2.1 (s2.1.map encCol).length), (.own 85 g2.2 (s2.2.map encVal).length), (.list 23 (x23.1.params.map encVal)), (.list 9 (x23.1.vnames.map rStr)), (.list 23 (x23.1.vvals.map encVal))]⟩)) 11 (some ⟨b11, [(.list 46 (x23.1.cols.map encCol)), (.list 23 (x23.1.row.map encVal)), (.list 23 (x23.1.params.map encVal)), (.list 9 (x23.1.vnames.map rStr)), (.list 23 (x23.1.vvals.map encVal))]⟩), upd (upd (fun _ => none) 85 (some ⟨g2.2, 23, (s2.2.map encVal), true⟩)) 74 (some ⟨g2.1, 46, (s2.1.map encCol), true⟩)⟩) () H3 (Gh.le (SLe.cons (PLe.of_eq rfl) (SLe.cons (PLe.of_eq rfl) (SLe.cons (PLe.of_eq rfl) (SLe.cons (PLe.of_eq rfl) (SLe.cons (PLe.of_eq rfl) (SLe.cons (PLe.of_eq rfl) (SLe.cons (PLe.of_eq rfl) (SLe.cons (PLe.of_eq rfl) SLe.nil)))))))) (BLe.cons rfl (PLeAll.refl _ _) (BLe.cons rfl (PLeAll.refl _ _) BLe.nil)) (OLe.cons rfl (OLe.cons rfl OLe.nil))) (fun j3 s3 g3 hj3 hr3 => ?_)
            refine V.seq ?_
            refine V.region ?_
            refine AOps.q tt_ok rfl ?_
            refine AOps.nil ?_
            refine V.seq ?_
            refine V.cond rfl (fun h => ?_) (fun h => ?_)
            · have hl3 := rowsLt h
              obtain ⟨x3, fb3, hx3, H, hg3⟩ := rangeM_cons hl3 hr3
              refine V.skip ?_
              refine V.seq ?_
              refine V.block ?_
              refine V.seq ?_
              refine V.region ?_
              refine AOps.q tt_ok rfl ?_
              refine AOps.idx tt_ok rfl rfl rfl rfl rfl rfl (Int.natCast_nonneg j3) (rowsGet (fun _ => rfl) hx3) rfl ?_
              iterate 3 refine AOps.q tt_ok rfl ?_
              refine AOps.nil ?_
              refine V.seq ?_
              refine V.region ?_
              iterate 2 refine AOps.q tt_ok rfl ?_
              refine AOps.lenL tt_ok rfl rfl rfl rfl rfl (List.length_map _) rfl ?_
              iterate 2 refine AOps.q tt_ok rfl ?_
              refine AOps.split rfl rfl rfl (fun h => ?_) (fun h => ?_)
              · have H := condT h H
                iterate 2 refine AOps.q tt_ok rfl ?_
                obtain ⟨x102, h102, H⟩ := bindE H
                have k102 := subI_some h102
                refine AOps.subL tt_ok rfl rfl rfl rfl rfl (List.length_map _) rfl rfl k102.1 (rowsSubE k102.2) rfl ?_
                refine AOps.q tt_ok rfl ?_
                obtain ⟨x104, h104, H⟩ := bindE H
                have s104 := W_slices_Contains_Lstring_string x102 x3 _ h104
                refine AOps.callP (g := 18) rfl rfl rfl Try.call18 (PLeAll.refl _ _) s104 rfl ?_
                iterate 2 refine AOps.q tt_ok rfl ?_
                refine AOps.nil ?_
                refine V.cond rfl (fun h => ?_) (fun h => ?_)
                · have H := condT h H
                  refine V.seq ?_
                  refine V.region ?_
                  refine AOps.q tt_ok rfl ?_
                  refine AOps.nil ?_
                  obtain rfl := someE H
                  have e3 : fl3 = .ret _ := hg3
                  subst e3
                  obtain rfl := thenR_ret Hp3
                  refine V.retP tt_ok rfl (ps := [(pbool true)]) ⟨_, _, rfl, rfl, rfl⟩ (PLe.of_eq rfl)
                · have H := condF h H
                  refine V.skip ?_
                  refine V.blk ?_
                  refine V.region ?_
                  iterate 2 refine AOps.q tt_ok rfl ?_
                  refine AOps.nil ?_
                  obtain rfl := someE H
                  refine V.againL () () ⟨hl3, hg3⟩ (Gh.le (SLe.cons (PLe.of_eq rfl) (SLe.cons (PLe.of_eq rfl) (SLe.cons (PLe.of_eq rfl) (SLe.cons (PLe.of_eq rfl) (SLe.cons (PLe.of_eq rfl) (SLe.cons (PLe.of_eq rfl) (SLe.cons (PLe.of_eq rfl) (SLe.cons (PLe.of_eq (pint_succ (by omega))) SLe.nil)))))))) (BLe.cons rfl (PLeAll.refl _ _) (BLe.cons rfl (PLeAll.refl _ _) BLe.nil)) (OLe.cons rfl (OLe.cons rfl OLe.nil)))
              · have H := condF h H
                iterate 7 refine AOps.q tt_ok rfl ?_
                refine AOps.nil ?_
                refine V.condF rfl ?_
                refine V.skip ?_
                refine V.blk ?_
                refine V.region ?_
                iterate 2 refine AOps.q tt_ok rfl ?_
                refine AOps.nil ?_
                obtain rfl := someE H
                refine V.againL () () ⟨hl3, hg3⟩ (Gh.le (SLe.cons (PLe.of_eq rfl) (SLe.cons (PLe.of_eq rfl) (SLe.cons (PLe.of_eq rfl) (SLe.cons (PLe.of_eq rfl) (SLe.cons (PLe.of_eq rfl) (SLe.cons (PLe.of_eq rfl) (SLe.cons (PLe.of_eq rfl) (SLe.cons (PLe.of_eq (pint_succ (by omega))) SLe.nil)))))))) (BLe.cons rfl (PLeAll.refl _ _) (BLe.cons rfl (PLeAll.refl _ _) BLe.nil)) (OLe.cons rfl (OLe.cons rfl OLe.nil)))
            · have hn3 := rangeM_done (rowsGe h) hr3
              refine V.exit rfl ?_
              refine V.at s3 g3 hn3 (Gh.le (SLe.cons (PLe.of_eq rfl) (SLe.cons (PLe.of_eq rfl) (SLe.cons (PLe.of_eq rfl) (SLe.cons (PLe.of_eq rfl) (SLe.cons (PLe.of_eq rfl) SLe.nil))))) (BLe.cons rfl (PLeAll.refl _ _) (BLe.cons rfl (PLeAll.refl _ _) BLe.nil)) (OLe.cons rfl (OLe.cons rfl OLe.nil)))
          · have H := thenR_next hn3 Hp3
            iterate 2 refine V.seq ?_
            refine V.freezeOB 13 1 rfl rfl rfl rfl rfl ?_
            refine V.region ?_
            refine AOps.q tt_ok rfl ?_
            refine AOps.loadBox tt_ok rfl rfl rfl rfl rfl rfl rfl ?_
            obtain ⟨x110, h110, H⟩ := bindE H
            have s110 := W_slices_ContainsFunc_api_Row_api_Value s2.2 (fun a0 => some (L_stemkeep3_ExprSubstitutionCommutes_2 a0)) Try.call20 (fun a0 r h => (someE h) ▸ W_stemkeep3_ExprSubstitutionCommutes_2 a0) _ h110
            refine AOps.callP (g := 19) rfl rfl rfl Try.call19 (PLeAll.refl _ _) s110 rfl ?_
            refine AOps.nil ?_
            refine V.cond rfl (fun h => ?_) (fun h => ?_)
            · have H := condT h H
              refine V.seq ?_
              refine V.region ?_
              refine AOps.q tt_ok rfl ?_
              refine AOps.nil ?_
              obtain rfl := someE H
              refine V.retP tt_ok rfl (ps := [(pbool true)]) ⟨_, _, rfl, rfl, rfl⟩ (PLe.of_eq rfl)
            · have H := condF h H
              refine V.skip ?_
              refine V.seq ?_
              refine V.freezeOB 13 0 rfl rfl rfl rfl rfl ?_
              refine V.draw tt_ok mixed_ok true [0, 1, 2, 3, 4, 6, 7, 8, 9, 10, 5, 12, 11, 13, 14, 15] rfl (by decide +kernel) rfl ?_
              refine DOps.q rfl ?_
              refine DOps.loadBox rfl rfl rfl rfl rfl rfl rfl rfl rfl ?_
              refine DOps.q rfl ?_
              refine DOps.loadBox rfl rfl rfl rfl rfl rfl rfl rfl rfl ?_
              iterate 2 refine DOps.q rfl ?_
              refine DOps.loadBox rfl rfl rfl rfl rfl rfl rfl rfl rfl ?_
              refine DOps.q rfl ?_
              refine DOps.loadBox rfl rfl rfl rfl rfl rfl rfl rfl rfl ?_
              refine DOps.q rfl ?_
              obtain ⟨x116, h116, H⟩ := bindE H
              have s116 := W_slices_Concat_Lapi_Column_api_Column (m := 116) ([s2.1, x23.1.cols] : List (List LCol)) _ h116
              refine DOps.callO (g := 21) rfl rfl rfl rfl Try.call21 (PLeAll.refl _ _) rfl rfl s116 (fun g116 => ?_)
              refine DOps.q rfl ?_
              obtain ⟨x122, h122, H⟩ := bindE H
              have s122 := W_slices_Concat_api_Row_api_Value (m := 122) ([s2.2, x23.1.row] : List (List LVal)) _ h122
              refine DOps.callO (g := 22) rfl rfl rfl rfl Try.call22 (PLeAll.refl _ _) rfl rfl s122 (fun g122 => ?_)
              refine DOps.storeBox rfl rfl rfl rfl rfl rfl rfl rfl rfl rfl rfl rfl ?_
              refine DOps.q rfl ?_
              refine DOps.storeBox rfl rfl rfl rfl rfl rfl rfl rfl rfl rfl rfl rfl ?_
              refine DOps.nil ?_
              refine V.seq ?_
              refine V.freezeOB 13 0 rfl rfl rfl rfl rfl ?_
              refine V.freezeOB 13 1 rfl rfl rfl rfl rfl ?_
              refine V.draw tt_ok mixed_ok true [0, 1, 2, 3, 6, 7, 4, 5, 8, 9, 10] rfl (by decide +kernel) rfl ?_
              refine DOps.loadBox rfl rfl rfl rfl rfl rfl rfl rfl rfl ?_
              iterate 3 refine DOps.q rfl ?_
              refine DOps.loadBox rfl rfl rfl rfl rfl rfl rfl rfl rfl ?_
              refine DOps.q rfl ?_
              obtain ⟨x129, h129, H⟩ := letE H
              have s129 := subst_spec e names l
              rw [h129] at s129
              refine DOps.callP (g := 23) rfl rfl rfl rfl Try.call23 (PLeAll.refl _ _) s129 rfl ?_
              obtain ⟨x130, h130, H⟩ := letE H
              have s130 := eval_spec x23.1 x129
              rw [h130] at s130
              refine DOps.callP (g := 12) rfl rfl rfl rfl Try.call12 (PLeAll.refl _ _) s130 rfl ?_
              obtain ⟨x133, h133, H⟩ := letE H
              have s133 := eval_spec (LEnv.mk x116 x122 x23.1.params x23.1.vnames x23.1.vvals) e
              rw [h133] at s133
              refine DOps.callP (g := 12) rfl rfl rfl rfl Try.call12 (PLeAll.refl _ _) s133 rfl ?_
              iterate 2 refine DOps.q rfl ?_
              refine DOps.nil ?_
              obtain rfl := someE H
              refine V.retP tt_ok rfl (ps := [(pbool (x130.kind == x133.kind && (x130.int == x133.int && (x130.text == x133.text && true))))]) ⟨_, _, rfl, rfl, rfl⟩ (PLe.of_eq rfl)

noncomputable def L_stemkeep3_ExprTypeSoundness (e : LExpr) (row : List LVal) (args : List LVal) : Option (Bool) :=
  letP (valuesV) fun x13 =>
  cond (!x13)
    (some false)
    (bindP (L_stemkeep3_env row args) fun x18 =>
    letP (
      letP (nodesE e 150) fun x22 =>
      cond (decide (x22 < (0 : Int)))
        (true)
        ((!x18.2))) fun (t1 : Bool) =>
    cond t1
      (some true)
      (letP (typeV x18.1.cols ([] : List LCol) e) fun x32 =>
      cond (x32.2.2 != (0 : Int))
        (cond (x32.1 == (0 : Int))
          (some (!x32.2.1))
          (some false))
        (letP (evalE x18.1 e) fun x46 =>
        letP (validV x46) fun x48 =>
        cond x48
          (cond (x46.kind == x32.1)
            (some true)
            (cond (x46.kind == (0 : Int))
              (some x32.2.1)
              (some false)))
          (some false))))

set_option maxHeartbeats 4000000 in
theorem W_stemkeep3_ExprTypeSoundness (e : LExpr) (row : List LVal) (args : List LVal) (r : Bool) (H : L_stemkeep3_ExprTypeSoundness e row args = some r) :
    PFun Try.prog 5 [(.agg (encE e)), (.list 23 (row.map encVal)), (.list 23 (args.map encVal))] (pbool r) := by
  unfold L_stemkeep3_ExprTypeSoundness at H
  refine PCallsH.intro Try.func5 rfl Try.ntmps5 rfl ?_
  refine V.seq ?_
  refine V.region ?_
  refine AOps.boxF rfl rfl rfl rfl rfl rfl ?_
  refine AOps.q tt_ok rfl ?_
  refine AOps.nil ?_
  iterate 2 refine V.seq ?_
  refine V.region ?_
  obtain ⟨x13, h13, H⟩ := letE H
  have s13 := valuesV_spec
  rw [h13] at s13
  refine AOps.callP (g := 8) rfl rfl rfl Try.call8 (PLeAll.refl _ _) s13 rfl ?_
  refine AOps.q tt_ok rfl ?_
  refine AOps.nil ?_
  refine V.cond rfl (fun h => ?_) (fun h => ?_)
  · have H := condT h H
    refine V.seq ?_
    refine V.region ?_
    refine AOps.q tt_ok rfl ?_
    refine AOps.nil ?_
    obtain rfl := someE H
    refine V.retP tt_ok rfl (ps := [(pbool false)]) ⟨_, _, rfl, rfl, rfl⟩ (PLe.of_eq rfl)
  · have H := condF h H
    refine V.skip ?_
    refine V.seq ?_
    refine V.region ?_
    iterate 2 refine AOps.q tt_ok rfl ?_
    obtain ⟨x18, h18, H⟩ := bindE H
    have s18 := W_stemkeep3_env row args _ h18
    refine AOps.callP (g := 14) rfl rfl rfl Try.call14 (PLeAll.refl _ _) s18 rfl ?_
    iterate 3 refine AOps.q tt_ok rfl ?_
    refine AOps.alloc tt_ok rfl rfl rfl rfl rfl rfl fun b7 => ?_
    refine AOps.storeBox tt_ok rfl rfl rfl rfl rfl rfl rfl rfl rfl rfl rfl ?_
    refine AOps.q tt_ok rfl ?_
    refine AOps.nil ?_
    iterate 2 refine V.seq ?_
    obtain ⟨fl1, H1, Hp1⟩ := letE H
    refine V.cut (τ := Bool) (γ := Unit) (fun t1 g1 => ⟨63, upd (upd (upd (fun _ => .any) 27 (pbool t1)) 7 (.box 7 b7 0)) 3 (.ptr [(pint e.kind), (.str e.name), (pint e.index), (pint e.value.kind), (pint e.value.int), (.str e.value.text), (.list 35 (e.args.map encExpr))]), upd (fun _ => none) 7 (some ⟨b7, [(.list 46 (x18.1.cols.map encCol)), (.list 23 (x18.1.row.map encVal)), (.list 23 (x18.1.params.map encVal)), (.list 9 (x18.1.vnames.map rStr)), (.list 23 (x18.1.vvals.map encVal))]⟩), fun _ => none⟩) (fun t => t = fl1) ?_ (fun t1 g1 hn1 => ?_)
    · have H := H1
      refine V.region ?_
      refine AOps.q tt_ok rfl ?_
      obtain ⟨x22, h22, H⟩ := letE H
      have s22 := nodes_spec e 150
      rw [h22] at s22
      refine AOps.callP (g := 15) rfl rfl rfl Try.call15 (PLeAll.refl _ _) s22 rfl ?_
      iterate 2 refine AOps.q tt_ok rfl ?_
      refine AOps.split rfl rfl rfl (fun h => ?_) (fun h => ?_)
      · have H := condT h H
        iterate 3 refine AOps.q tt_ok rfl ?_
        refine AOps.nil ?_
        subst H
        refine V.at true () rfl (Gh.le (SLe.cons (PLe.of_eq rfl) (SLe.cons (PLe.of_eq rfl) (SLe.cons (PLe.of_eq rfl) SLe.nil))) (BLe.cons rfl (PLeAll.refl _ _) BLe.nil) OLe.nil)
      · have H := condF h H
        iterate 3 refine AOps.q tt_ok rfl ?_
        refine AOps.nil ?_
        subst H
        refine V.at (!x18.2) () rfl (Gh.le (SLe.cons (PLe.of_eq rfl) (SLe.cons (PLe.of_eq rfl) (SLe.cons (PLe.of_eq rfl) SLe.nil))) (BLe.cons rfl (PLeAll.refl _ _) BLe.nil) OLe.nil)
    · subst hn1
      have H := Hp1
      refine V.cond rfl (fun h => ?_) (fun h => ?_)
      · have H := condT h H
        refine V.seq ?_
        refine V.region ?_
        refine AOps.q tt_ok rfl ?_
        refine AOps.nil ?_
        obtain rfl := someE H
        refine V.retP tt_ok rfl (ps := [(pbool true)]) ⟨_, _, rfl, rfl, rfl⟩ (PLe.of_eq rfl)
      · have H := condF h H
        refine V.skip ?_
        refine V.seq ?_
        refine V.region ?_
        refine AOps.q tt_ok rfl ?_
        refine AOps.loadBox tt_ok rfl rfl rfl rfl rfl rfl rfl ?_
        refine AOps.q tt_ok rfl ?_
        obtain ⟨x32, h32, H⟩ := letE H
        have s32 := typeOf_spec x18.1.cols ([] : List LCol) e
        rw [h32] at s32
        refine AOps.callP (g := 24) rfl rfl rfl Try.call24 (PLeAll.of2 (PLe2All.cons (PLe2.of_eq rfl) (PLe2All.cons (PLe2.nil tt_ok rfl) (PLe2All.cons (PLe2.of_eq rfl) PLe2All.nil)))) s32 rfl ?_
        iterate 7 refine AOps.q tt_ok rfl ?_
        refine AOps.nil ?_
        iterate 2 refine V.seq ?_
        refine V.region ?_
        iterate 2 refine AOps.q tt_ok rfl ?_
        refine AOps.nil ?_
        refine V.cond rfl (fun h => ?_) (fun h => ?_)
        · have H := condT h H
          refine V.seq ?_
          refine V.region ?_
          iterate 3 refine AOps.q tt_ok rfl ?_
          refine AOps.split rfl rfl rfl (fun h => ?_) (fun h => ?_)
          · have H := condT h H
            iterate 4 refine AOps.q tt_ok rfl ?_
            refine AOps.nil ?_
            obtain rfl := someE H
            refine V.retP tt_ok rfl (ps := [(pbool (!x32.2.1))]) ⟨_, _, rfl, rfl, rfl⟩ (PLe.of_eq rfl)
          · have H := condF h H
            iterate 4 refine AOps.q tt_ok rfl ?_
            refine AOps.nil ?_
            obtain rfl := someE H
            refine V.retP tt_ok rfl (ps := [(pbool false)]) ⟨_, _, rfl, rfl, rfl⟩ (PLe.of_eq rfl)
        · have H := condF h H
          refine V.skip ?_
          refine V.seq ?_
          refine V.region ?_
          refine AOps.loadBox tt_ok rfl rfl rfl rfl rfl rfl rfl ?_
          refine AOps.q tt_ok rfl ?_
          obtain ⟨x46, h46, H⟩ := letE H
          have s46 := eval_spec x18.1 e
          rw [h46] at s46
          refine AOps.callP (g := 12) rfl rfl rfl Try.call12 (PLeAll.refl _ _) s46 rfl ?_
          refine AOps.alloc tt_ok rfl rfl rfl rfl rfl rfl fun b12 => ?_
          refine AOps.storeBox tt_ok rfl rfl rfl rfl rfl rfl rfl rfl rfl rfl rfl ?_
          refine AOps.nil ?_
          refine V.seq ?_
          refine V.region ?_
          refine AOps.loadBox tt_ok rfl rfl rfl rfl rfl rfl rfl ?_
          obtain ⟨x48, h48, H⟩ := letE H
          have s48 := validV_spec x46
          rw [h48] at s48
          refine AOps.callP (g := 9) rfl rfl rfl Try.call9 (PLeAll.refl _ _) s48 rfl ?_
          refine AOps.q tt_ok rfl ?_
          refine AOps.split rfl rfl rfl (fun h => ?_) (fun h => ?_)
          · have H := condT h H
            refine AOps.q tt_ok rfl ?_
            refine AOps.loadBox tt_ok rfl rfl rfl rfl rfl rfl rfl ?_
            iterate 3 refine AOps.q tt_ok rfl ?_
            refine AOps.split rfl rfl rfl (fun h => ?_) (fun h => ?_)
            · have H := condT h H
              iterate 9 refine AOps.q tt_ok rfl ?_
              refine AOps.nil ?_
              obtain rfl := someE H
              refine V.retP tt_ok rfl (ps := [(pbool true)]) ⟨_, _, rfl, rfl, rfl⟩ (PLe.of_eq rfl)
            · have H := condF h H
              refine AOps.q tt_ok rfl ?_
              refine AOps.loadBox tt_ok rfl rfl rfl rfl rfl rfl rfl ?_
              iterate 2 refine AOps.q tt_ok rfl ?_
              refine AOps.split rfl rfl rfl (fun h => ?_) (fun h => ?_)
              · have H := condT h H
                iterate 5 refine AOps.q tt_ok rfl ?_
                refine AOps.nil ?_
                obtain rfl := someE H
                refine V.retP tt_ok rfl (ps := [(pbool x32.2.1)]) ⟨_, _, rfl, rfl, rfl⟩ (PLe.of_eq rfl)
              · have H := condF h H
                iterate 5 refine AOps.q tt_ok rfl ?_
                refine AOps.nil ?_
                obtain rfl := someE H
                refine V.retP tt_ok rfl (ps := [(pbool false)]) ⟨_, _, rfl, rfl, rfl⟩ (PLe.of_eq rfl)
          · have H := condF h H
            iterate 14 refine AOps.q tt_ok rfl ?_
            refine AOps.nil ?_
            obtain rfl := someE H
            refine V.retP tt_ok rfl (ps := [(pbool false)]) ⟨_, _, rfl, rfl, rfl⟩ (PLe.of_eq rfl)

noncomputable def L_expr_Conjuncts (rec27 : LExpr → Option ((List LExpr))) (e : LExpr) : Option ((List LExpr)) :=
  letP (
    cond (e.kind == (5 : Int))
      (cond (e.name == ([97, 110, 100] : List UInt8))
        (((e.args.length : Int) == (2 : Int)))
        (false))
      (false)) fun (t1 : Bool) =>
  cond t1
    (bindP (getI e.args 0) fun (x19 : LExpr) =>
    bindP (getI e.args 1) fun (x24 : LExpr) =>
    bindP (rec27 x19) fun x21 =>
    bindP (rec27 x24) fun x26 =>
    bindP (appI 88 x21 x26) fun (x27 : List LExpr) =>
    some x27)
    (letP (id e) fun x29 =>
    some [x29])

set_option maxHeartbeats 4000000 in
theorem W_expr_Conjuncts {m : Nat} (rec27 : LExpr → Option ((List LExpr))) (hrec27 : ∀ m a0 r, rec27 a0 = some r → PCalls Try.prog 27 [(.agg (encE a0))] (OwnR m 35 (r.map encExpr))) (e : LExpr) (r : (List LExpr)) (H : L_expr_Conjuncts rec27 e = some r) :
    PCalls Try.prog 27 [(.agg (encE e))] (OwnR m 35 (r.map encExpr)) := by
  unfold L_expr_Conjuncts at H
  refine PCallsH.intro Try.func27 rfl Try.ntmps27 rfl ?_
  refine V.seq ?_
  refine V.region ?_
  refine AOps.boxF rfl rfl rfl rfl rfl rfl ?_
  refine AOps.q tt_ok rfl ?_
  refine AOps.nil ?_
  iterate 2 refine V.seq ?_
  obtain ⟨fl1, H1, Hp1⟩ := letE H
  refine V.cut (τ := Bool) (γ := Unit) (fun t1 g1 => ⟨31, upd (upd (fun _ => .any) 16 (pbool t1)) 1 (.ptr [(pint e.kind), (.str e.name), (pint e.index), (pint e.value.kind), (pint e.value.int), (.str e.value.text), (.list 35 (e.args.map encExpr))]), fun _ => none, fun _ => none⟩) (fun t => t = fl1) ?_ (fun t1 g1 hn1 => ?_)
  · have H := H1
    refine V.region ?_
    iterate 4 refine AOps.q tt_ok rfl ?_
    refine AOps.split rfl rfl rfl (fun h => ?_) (fun h => ?_)
    · have H := condT h H
      iterate 5 refine AOps.q tt_ok rfl ?_
      refine AOps.split rfl rfl rfl (fun h => ?_) (fun h => ?_)
      · have H := condT h H
        iterate 2 refine AOps.q tt_ok rfl ?_
        refine AOps.lenL tt_ok rfl rfl rfl rfl rfl (List.length_map _) rfl ?_
        iterate 2 refine AOps.q tt_ok rfl ?_
        refine AOps.nil ?_
        subst H
        refine V.at ((e.args.length : Int) == (2 : Int)) () rfl (Gh.le (SLe.cons (PLe.of_eq rfl) (SLe.cons (PLe.of_eq rfl) SLe.nil)) BLe.nil OLe.nil)
      · have H := condF h H
        iterate 5 refine AOps.q tt_ok rfl ?_
        refine AOps.nil ?_
        subst H
        refine V.at false () rfl (Gh.le (SLe.cons (PLe.of_eq rfl) (SLe.cons (PLe.of_eq rfl) SLe.nil)) BLe.nil OLe.nil)
    · have H := condF h H
      iterate 10 refine AOps.q tt_ok rfl ?_
      refine AOps.nil ?_
      subst H
      refine V.at false () rfl (Gh.le (SLe.cons (PLe.of_eq rfl) (SLe.cons (PLe.of_eq rfl) SLe.nil)) BLe.nil OLe.nil)
  · subst hn1
    have H := Hp1
    refine V.cond rfl (fun h => ?_) (fun h => ?_)
    · have H := condT h H
      refine V.seq ?_
      refine V.draw tt_ok mixed_ok false [0, 1, 2, 3, 5, 6, 7, 8, 4, 9, 10, 11] rfl (by decide +kernel) rfl ?_
      iterate 2 refine DOps.q rfl ?_
      obtain ⟨x19, h19, H⟩ := bindE H
      have k19 := getI_some h19
      refine DOps.idx rfl rfl rfl rfl rfl rfl rfl k19.1 (rowsGetI encExpr_eq k19.2) rfl ?_
      iterate 3 refine DOps.q rfl ?_
      obtain ⟨x24, h24, H⟩ := bindE H
      have k24 := getI_some h24
      refine DOps.idx rfl rfl rfl rfl rfl rfl rfl k24.1 (rowsGetI encExpr_eq k24.2) rfl ?_
      refine DOps.q rfl ?_
      obtain ⟨x21, h21, H⟩ := bindE H
      have s21 := hrec27 21 x19 _ h21
      refine DOps.callO (g := 27) rfl rfl rfl rfl Try.call27 (PLeAll.refl _ _) rfl rfl s21 (fun g21 => ?_)
      obtain ⟨x26, h26, H⟩ := bindE H
      have s26 := hrec27 26 x24 _ h26
      refine DOps.callP (g := 27) rfl rfl rfl rfl Try.call27 (PLeAll.refl _ _) (PFun.of_own s26) rfl ?_
      obtain ⟨x27, h27, H⟩ := bindE H
      have k27 := appI_some h27
      refine DOps.appendC (rows2' := List.map encExpr x26) (rows' := List.map encExpr x27) tt_ok rfl rfl rfl rfl rfl rfl rfl rfl rfl rfl rfl rfl rfl rfl (PLe2Rows.refl _) (appI_by k27.1) (appI_mx k27.2.1) (appI_eq k27.2.2) fun g27 => ?_
      refine DOps.q rfl ?_
      refine DOps.nil ?_
      obtain rfl := someE H
      refine V.retO tt_ok rfl rfl rfl rfl rfl
    · have H := condF h H
      refine V.skip ?_
      refine V.seq ?_
      refine V.region ?_
      refine AOps.q tt_ok rfl ?_
      obtain ⟨x29, h29, H⟩ := letE H
      have s29 := cloneE_spec e
      rw [h29] at s29
      refine AOps.callP (g := 41) rfl rfl rfl Try.call41 (PLeAll.refl _ _) s29 rfl ?_
      refine AOps.bsOC (rows' := List.map encExpr ([x29] : List LExpr)) tt_ok rfl rfl rfl rfl rfl rfl rfl (congrArg (List.map List.length) (rowsLit encExpr_eq ([x29] : List LExpr))).symm rfl (PLe2All.trans (b := (List.map encE ([x29] : List LExpr)).flatten) (PLe2All.refl _) (PLe2All.of_eq (congrArg List.flatten (rowsLit encExpr_eq ([x29] : List LExpr))))) fun g30 => ?_
      refine AOps.q tt_ok rfl ?_
      refine AOps.nil ?_
      obtain rfl := someE H
      refine V.retO tt_ok rfl rfl rfl rfl rfl

noncomputable def L_expr_Conjoin (l : List LExpr) : Option (LExpr) :=
  cond ((l.length : Int) == (0 : Int))
    (letP (boolV true) fun x9 =>
    some (LExpr.mk 1 [] 0 x9 []))
    (bindP (getI l 0) fun (x12 : LExpr) =>
    letP (id x12) fun x14 =>
    bindP (subI l 1 (l.length : Int)) fun (x16 : List LExpr) =>
    bindP (rangeM (σ := LExpr) (ρ := Empty) (fun (_ : Nat) (x1 : LExpr) (s1 : LExpr) =>
      letP (id x1) fun x24 =>
      some (.next (LExpr.mk 5 [97, 110, 100] 0 (LVal.mk 0 0 []) [s1, x24]))) 0 x16 x14) fun fl1 => fl1.thenP fun (s1 : LExpr) =>
    some s1)

set_option maxHeartbeats 4000000 in
theorem W_expr_Conjoin (l : List LExpr) (r : LExpr) (H : L_expr_Conjoin l = some r) :
    PFun Try.prog 29 [(.list 35 (l.map encExpr))] (.agg (encE r)) := by
  unfold L_expr_Conjoin at H
  refine PCallsH.intro Try.func29 rfl Try.ntmps29 rfl ?_
  refine V.seq ?_
  refine V.region ?_
  refine AOps.alloc tt_ok rfl rfl rfl rfl rfl rfl fun b2 => ?_
  refine AOps.nil ?_
  iterate 2 refine V.seq ?_
  refine V.region ?_
  refine AOps.q tt_ok rfl ?_
  refine AOps.lenL tt_ok rfl rfl rfl rfl rfl (List.length_map _) rfl ?_
  refine AOps.q tt_ok rfl ?_
  refine AOps.nil ?_
  refine V.cond rfl (fun h => ?_) (fun h => ?_)
  · have H := condT h H
    refine V.seq ?_
    refine V.region ?_
    obtain ⟨x9, h9, H⟩ := letE H
    have s9 := boolV_spec true
    rw [h9] at s9
    refine AOps.callP (g := 30) rfl rfl rfl Try.call30 (PLeAll.refl _ _) s9 rfl ?_
    refine AOps.q tt_ok rfl ?_
    refine AOps.storeBox tt_ok rfl rfl rfl rfl rfl rfl rfl rfl rfl rfl rfl ?_
    refine AOps.nil ?_
    obtain rfl := someE H
    refine V.retP tt_ok rfl (ps := [(.agg [(pint 1), (.str []), (pint 0), (pint x9.kind), (pint x9.int), (.str x9.text), (.val (.slice none 0 0))])]) ⟨_, _, rfl, ⟨_, _, _, _, _, rfl, rfl, rfl, rfl⟩, rfl⟩ (PLe.of2 (PLe2.agg (PLe2All.cons (PLe2.of_eq rfl) (PLe2All.cons (PLe2.of_eq rfl) (PLe2All.cons (PLe2.of_eq rfl) (PLe2All.cons (PLe2.of_eq rfl) (PLe2All.cons (PLe2.of_eq rfl) (PLe2All.cons (PLe2.of_eq rfl) (PLe2All.cons (PLe2.nil tt_ok rfl) PLe2All.nil)))))))))
  · have H := condF h H
    refine V.skip ?_
    refine V.seq ?_
    refine V.region ?_
    refine AOps.q tt_ok rfl ?_
    obtain ⟨x12, h12, H⟩ := bindE H
    have k12 := getI_some h12
    refine AOps.idx tt_ok rfl rfl rfl rfl rfl rfl k12.1 (rowsGetI encExpr_eq k12.2) rfl ?_
    refine AOps.q tt_ok rfl ?_
    obtain ⟨x14, h14, H⟩ := letE H
    have s14 := cloneE_spec x12
    rw [h14] at s14
    refine AOps.callP (g := 41) rfl rfl rfl Try.call41 (PLeAll.refl _ _) s14 rfl ?_
    refine AOps.alloc tt_ok rfl rfl rfl rfl rfl rfl fun b3 => ?_
    refine AOps.storeBox tt_ok rfl rfl rfl rfl rfl rfl rfl rfl rfl rfl rfl ?_
    refine AOps.nil ?_
    iterate 2 refine V.seq ?_
    refine V.region ?_
    refine AOps.q tt_ok rfl ?_
    obtain ⟨x16, h16, H⟩ := bindE H
    have k16 := subI_some h16
    refine AOps.subL tt_ok rfl rfl rfl rfl rfl (List.length_map _) rfl rfl k16.1 (rowsSubE k16.2) rfl ?_
    refine AOps.lenL tt_ok rfl rfl rfl rfl rfl (List.length_map _) rfl ?_
    refine AOps.q tt_ok rfl ?_
    refine AOps.nil ?_
    obtain ⟨fl1, H1, Hp1⟩ := bindE H
    refine V.lenF tt_ok 16 rfl rfl (fun hz1 _ => ?_)
    rw [List.length_map] at hz1
    refine V.cut (τ := LExpr) (γ := Unit) (fun s1 g1 => ⟨29, upd (upd (fun _ => .any) 3 (.box 3 b3 0)) 2 (.box 2 b2 0), upd (upd (fun _ => none) 3 (some ⟨b3, [(pint s1.kind), (.str s1.name), (pint s1.index), (pint s1.value.kind), (pint s1.value.int), (.str s1.value.text), (.list 35 (s1.args.map encExpr))]⟩)) 2 (some ⟨b2, [(pint 0), (.str []), (pint 0), (pint 0), (pint 0), (.str []), (.val (.slice none 0 0))]⟩), fun _ => none⟩) (fun t => fl1 = .next t) ?_ (fun s1 g1 hn1 => ?_)
    · refine V.block ?_
      refine V.rangeL (fun j1 s1 g1 => ⟨29, upd (upd (upd (upd (upd (fun _ => .any) 18 (pint (j1 : Int))) 17 (pint (x16.length : Int))) 16 (.list 35 (x16.map encExpr))) 3 (.box 3 b3 0)) 2 (.box 2 b2 0), upd (upd (fun _ => none) 3 (some ⟨b3, [(pint s1.kind), (.str s1.name), (pint s1.index), (pint s1.value.kind), (pint s1.value.int), (.str s1.value.text), (.list 35 (s1.args.map encExpr))]⟩)) 2 (some ⟨b2, [(pint 0), (.str []), (pint 0), (pint 0), (pint 0), (.str []), (.val (.slice none 0 0))]⟩), fun _ => none⟩) () H1 (Gh.le (SLe.cons (PLe.of_eq rfl) (SLe.cons (PLe.of_eq rfl) (SLe.cons (PLe.of_eq rfl) (SLe.cons (PLe.of_eq rfl) (SLe.cons (PLe.of_eq rfl) SLe.nil))))) (BLe.cons rfl (PLeAll.refl _ _) (BLe.cons rfl (PLeAll.refl _ _) BLe.nil)) OLe.nil) (fun j1 s1 g1 hj1 hr1 => ?_)
      refine V.seq ?_
      refine V.region ?_
      refine AOps.q tt_ok rfl ?_
      refine AOps.nil ?_
      refine V.seq ?_
      refine V.cond rfl (fun h => ?_) (fun h => ?_)
      · have hl1 := rowsLt h
        obtain ⟨x1, fb1, hx1, H, hg1⟩ := rangeM_cons hl1 hr1
        refine V.skip ?_
        refine V.seq ?_
        refine V.block ?_
        refine V.seq ?_
        refine V.region ?_
        refine AOps.idx tt_ok rfl rfl rfl rfl rfl rfl (Int.natCast_nonneg j1) (rowsGet encExpr_eq hx1) rfl ?_
        refine AOps.q tt_ok rfl ?_
        refine AOps.alloc tt_ok rfl rfl rfl rfl rfl rfl fun b5 => ?_
        refine AOps.storeBox tt_ok rfl rfl rfl rfl rfl rfl rfl rfl rfl rfl rfl ?_
        refine AOps.nil ?_
        refine V.draw tt_ok mixed_ok true [0, 1, 2, 3, 4, 5] rfl (by decide +kernel) rfl ?_
        refine DOps.loadBox rfl rfl rfl rfl rfl rfl rfl rfl rfl ?_
        refine DOps.loadBox rfl rfl rfl rfl rfl rfl rfl rfl rfl ?_
        obtain ⟨x24, h24, H⟩ := letE H
        have s24 := cloneE_spec x1
        rw [h24] at s24
        refine DOps.callP (g := 41) rfl rfl rfl rfl Try.call41 (PLeAll.refl _ _) s24 rfl ?_
        iterate 2 refine DOps.q rfl ?_
        refine DOps.storeBox rfl rfl rfl rfl rfl rfl rfl rfl rfl rfl rfl rfl ?_
        refine DOps.nil ?_
        refine V.blk ?_
        refine V.region ?_
        iterate 2 refine AOps.q tt_ok rfl ?_
        refine AOps.nil ?_
        obtain rfl := someE H
        refine V.againL (LExpr.mk 5 [97, 110, 100] 0 (LVal.mk 0 0 []) [s1, x24]) () ⟨hl1, hg1⟩ (Gh.le (SLe.cons (PLe.of_eq rfl) (SLe.cons (PLe.of_eq rfl) (SLe.cons (PLe.of_eq rfl) (SLe.cons (PLe.of_eq rfl) (SLe.cons (PLe.of_eq (pint_succ (by omega))) SLe.nil))))) (BLe.cons rfl (PLeAll.refl _ _) (BLe.cons rfl (PLeAll.of2 (PLe2All.cons (PLe2.of_eq rfl) (PLe2All.cons (PLe2.of_eq rfl) (PLe2All.cons (PLe2.of_eq rfl) (PLe2All.cons (PLe2.of_eq rfl) (PLe2All.cons (PLe2.of_eq rfl) (PLe2All.cons (PLe2.of_eq rfl) (PLe2All.cons (PLe2.list (PLe2Rows.trans (b := List.map encE [s1, x24]) (PLe2Rows.refl _) (PLe2Rows.of_eq (rowsLit encExpr_eq [s1, x24])))) PLe2All.nil)))))))) BLe.nil)) OLe.nil)
      · have hn1 := rangeM_done (rowsGe h) hr1
        refine V.exit rfl ?_
        refine V.at s1 g1 hn1 (Gh.le (SLe.cons (PLe.of_eq rfl) (SLe.cons (PLe.of_eq rfl) SLe.nil)) (BLe.cons rfl (PLeAll.refl _ _) (BLe.cons rfl (PLeAll.refl _ _) BLe.nil)) OLe.nil)
    · have H := thenP_next hn1 Hp1
      refine V.seq ?_
      refine V.region ?_
      refine AOps.loadBox tt_ok rfl rfl rfl rfl rfl rfl rfl ?_
      refine AOps.storeBox tt_ok rfl rfl rfl rfl rfl rfl rfl rfl rfl rfl rfl ?_
      refine AOps.nil ?_
      obtain rfl := someE H
      refine V.retP tt_ok rfl (ps := [(.agg [(pint s1.kind), (.str s1.name), (pint s1.index), (pint s1.value.kind), (pint s1.value.int), (.str s1.value.text), (.list 35 (s1.args.map encExpr))])]) ⟨_, _, rfl, ⟨_, _, _, _, _, rfl, rfl, rfl, rfl⟩, rfl⟩ (PLe.of_eq rfl)

end Go.Proofs.Ytblheceepnncdaa
