/- Lifted functions, stage 1: printed by lift.py. -/
import Derived.Test.YtblheceepnncdaaDat
import Derived.Test.YtblheceepnncdaaExL
namespace Go.Proofs.Ytblheceepnncdaa
open Go Go.Ab
attribute [local irreducible] V AOps DOps Gh Eff PCallsH IntKind.wrap
set_option maxRecDepth 4000

noncomputable def L_expr_Eval_1 (c : LCol) (c0 : LExpr) : Bool :=
  (c.name == c0.name)

set_option maxHeartbeats 4000000 in
theorem W_expr_Eval_1 (c : LCol) (c0 : LExpr) :
    PFun Try.prog 32 [(.agg (encCol c)), (.ptr (encE c0))] (pbool (L_expr_Eval_1 c c0)) := by
  obtain ⟨r, H⟩ : ∃ r, L_expr_Eval_1 c c0 = r := ⟨_, rfl⟩
  rw [H]
  unfold L_expr_Eval_1 at H
  refine PCallsH.intro Try.func32 rfl Try.ntmps32 rfl ?_
  refine V.seq ?_
  refine V.region ?_
  refine AOps.boxF rfl rfl rfl rfl rfl rfl ?_
  refine AOps.q tt_ok rfl ?_
  refine AOps.nil ?_
  refine V.seq ?_
  refine V.region ?_
  iterate 6 refine AOps.q tt_ok rfl ?_
  refine AOps.nil ?_
  subst H
  refine V.retP tt_ok rfl (ps := [(pbool (c.name == c0.name))]) ⟨_, _, rfl, rfl, rfl⟩ (PLe.of_eq rfl)

noncomputable def L_slices_IndexFunc_Lapi_Column_api_Column (sA : List LCol) (f : LCol → Option (Bool)) : Option (Int) :=
  bindP (rangeM (σ := Unit) (ρ := (Int)) (fun (j1 : Nat) (x1 : LCol) (_ : Unit) =>
    bindP (f x1) fun x16 =>
    cond x16
      (some (.ret (j1 : Int)))
      (some (.next ()))) 0 sA ()) fun fl1 => fl1.thenR fun (_ : Unit) =>
  some (-1)

set_option maxHeartbeats 4000000 in
theorem W_slices_IndexFunc_Lapi_Column_api_Column {g_f : FuncId} {caps_f : List PV} (sA : List LCol) (f : LCol → Option (Bool)) (hg_f : ∀ (vs : Array Value) (w : World), (callFunc g_f vs).run Try.prog w = .ok (.enter g_f vs) w) (hp_f : ∀ a0 r, f a0 = some r → PFun Try.prog g_f ((.agg (encCol a0)) :: caps_f) (pbool r)) (r : Int) (H : L_slices_IndexFunc_Lapi_Column_api_Column sA f = some r) :
    PFun Try.prog 31 [(.list 46 (sA.map encCol)), (.fn g_f caps_f)] (pint r) := by
  unfold L_slices_IndexFunc_Lapi_Column_api_Column at H
  refine PCallsH.intro Try.func31 rfl Try.ntmps31 rfl ?_
  refine V.seq ?_
  refine V.region ?_
  refine AOps.q tt_ok rfl ?_
  refine AOps.nil ?_
  iterate 2 refine V.seq ?_
  refine V.region ?_
  refine AOps.q tt_ok rfl ?_
  refine AOps.lenL tt_ok rfl rfl rfl rfl rfl (List.length_map _) rfl ?_
  refine AOps.q tt_ok rfl ?_
  refine AOps.nil ?_
  obtain ⟨fl1, H1, Hp1⟩ := bindE H
  refine V.lenF tt_ok 0 rfl rfl (fun hz1 _ => ?_)
  rw [List.length_map] at hz1
  refine V.cut (τ := Unit) (γ := Unit) (fun s1 g1 => ⟨19, fun _ => .any, fun _ => none, fun _ => none⟩) (fun t => fl1 = .next t) ?_ (fun s1 g1 hn1 => ?_)
  · refine V.block ?_
    refine V.rangeL (fun j1 s1 g1 => ⟨19, upd (upd (upd (upd (fun _ => .any) 8 (pint (j1 : Int))) 7 (pint (sA.length : Int))) 1 (.fn g_f caps_f)) 0 (.list 46 (sA.map encCol)), fun _ => none, fun _ => none⟩) () H1 (Gh.le (SLe.cons (PLe.of_eq rfl) (SLe.cons (PLe.of_eq rfl) (SLe.cons (PLe.of_eq rfl) (SLe.cons (PLe.of_eq rfl) SLe.nil)))) BLe.nil OLe.nil) (fun j1 s1 g1 hj1 hr1 => ?_)
    refine V.seq ?_
    refine V.region ?_
    refine AOps.q tt_ok rfl ?_
    refine AOps.nil ?_
    refine V.seq ?_
    refine V.cond rfl (fun h => ?_) (fun h => ?_)
    · have hl1 := rowsLt h
      obtain ⟨x1, fb1, hx1, H, hg1⟩ := rangeM_cons hl1 hr1
      refine V.skip ?_
      refine V.seq ?_
      refine V.block ?_
      refine V.seq ?_
      refine V.region ?_
      iterate 2 refine AOps.q tt_ok rfl ?_
      refine AOps.nil ?_
      refine V.seq ?_
      refine V.region ?_
      iterate 3 refine AOps.q tt_ok rfl ?_
      refine AOps.idx tt_ok rfl rfl rfl rfl rfl rfl (Int.natCast_nonneg j1) (rowsGet (fun _ => rfl) hx1) rfl ?_
      refine AOps.q tt_ok rfl ?_
      obtain ⟨x16, h16, H⟩ := bindE H
      refine AOps.callP rfl rfl rfl hg_f (PLeAll.refl _ _) (hp_f _ _ h16) rfl ?_
      refine AOps.nil ?_
      refine V.cond rfl (fun h => ?_) (fun h => ?_)
      · have H := condT h H
        refine V.seq ?_
        refine V.region ?_
        iterate 2 refine AOps.q tt_ok rfl ?_
        refine AOps.nil ?_
        obtain rfl := someE H
        have e1 : fl1 = .ret _ := hg1
        subst e1
        obtain rfl := thenR_ret Hp1
        refine V.retP tt_ok rfl (ps := [(pint (j1 : Int))]) ⟨_, _, rfl, rfl, rfl⟩ (PLe.of_eq rfl)
      · have H := condF h H
        refine V.skip ?_
        refine V.blk ?_
        refine V.region ?_
        iterate 2 refine AOps.q tt_ok rfl ?_
        refine AOps.nil ?_
        obtain rfl := someE H
        refine V.againL () () ⟨hl1, hg1⟩ (Gh.le (SLe.cons (PLe.of_eq rfl) (SLe.cons (PLe.of_eq rfl) (SLe.cons (PLe.of_eq rfl) (SLe.cons (PLe.of_eq (pint_succ (by omega))) SLe.nil)))) BLe.nil OLe.nil)
    · have hn1 := rangeM_done (rowsGe h) hr1
      refine V.exit rfl ?_
      refine V.at s1 g1 hn1 (Gh.le SLe.nil BLe.nil OLe.nil)
  · have H := thenR_next hn1 Hp1
    refine V.seq ?_
    refine V.region ?_
    refine AOps.q tt_ok rfl ?_
    refine AOps.nil ?_
    obtain rfl := someE H
    refine V.retP tt_ok rfl (ps := [(pint (-1))]) ⟨_, _, rfl, rfl, rfl⟩ (PLe.of_eq rfl)
theorem N_L_slices_IndexFunc_Lapi_Column_api_Column (xs : List LCol) (q : LCol → Bool) : L_slices_IndexFunc_Lapi_Column_api_Column xs (fun a => some (q a)) = some (idxOf q xs) := by
  unfold L_slices_IndexFunc_Lapi_Column_api_Column
  rw [rangeM_find q (fun j _ => (j : Int)) xs 0 (fun k x hk => by simp only [bindP_some]; cases q x <;> simp)]
  simp only [idxOf, Nat.zero_add]
  cases h : xs.findIdx? q with
  | none => rfl
  | some i =>
    obtain ⟨hi, _⟩ := List.findIdx?_eq_some_iff_getElem.1 h
    simp [hi]

noncomputable def L_slices_Index_Lstring_string (sA : List (List UInt8)) (v : List UInt8) : Option (Int) :=
  bindP (rangeM (σ := Unit) (ρ := (Int)) (fun (j1 : Nat) (x1 : List UInt8) (_ : Unit) =>
    cond (v == x1)
      (some (.ret (j1 : Int)))
      (some (.next ()))) 0 sA ()) fun fl1 => fl1.thenR fun (_ : Unit) =>
  some (-1)

set_option maxHeartbeats 4000000 in
theorem W_slices_Index_Lstring_string (sA : List (List UInt8)) (v : List UInt8) (r : Int) (H : L_slices_Index_Lstring_string sA v = some r) :
    PFun Try.prog 33 [(.list 9 (sA.map rStr)), (.str v)] (pint r) := by
  unfold L_slices_Index_Lstring_string at H
  refine PCallsH.intro Try.func33 rfl Try.ntmps33 rfl ?_
  refine V.seq ?_
  refine V.region ?_
  refine AOps.q tt_ok rfl ?_
  refine AOps.nil ?_
  iterate 2 refine V.seq ?_
  refine V.region ?_
  refine AOps.q tt_ok rfl ?_
  refine AOps.lenL tt_ok rfl rfl rfl rfl rfl (List.length_map _) rfl ?_
  refine AOps.q tt_ok rfl ?_
  refine AOps.nil ?_
  obtain ⟨fl1, H1, Hp1⟩ := bindE H
  refine V.lenF tt_ok 0 rfl rfl (fun hz1 _ => ?_)
  rw [List.length_map] at hz1
  refine V.cut (τ := Unit) (γ := Unit) (fun s1 g1 => ⟨19, fun _ => .any, fun _ => none, fun _ => none⟩) (fun t => fl1 = .next t) ?_ (fun s1 g1 hn1 => ?_)
  · refine V.block ?_
    refine V.rangeL (fun j1 s1 g1 => ⟨19, upd (upd (upd (upd (fun _ => .any) 8 (pint (j1 : Int))) 7 (pint (sA.length : Int))) 1 (.str v)) 0 (.list 9 (sA.map rStr)), fun _ => none, fun _ => none⟩) () H1 (Gh.le (SLe.cons (PLe.of_eq rfl) (SLe.cons (PLe.of_eq rfl) (SLe.cons (PLe.of_eq rfl) (SLe.cons (PLe.of_eq rfl) SLe.nil)))) BLe.nil OLe.nil) (fun j1 s1 g1 hj1 hr1 => ?_)
    refine V.seq ?_
    refine V.region ?_
    refine AOps.q tt_ok rfl ?_
    refine AOps.nil ?_
    refine V.seq ?_
    refine V.cond rfl (fun h => ?_) (fun h => ?_)
    · have hl1 := rowsLt h
      obtain ⟨x1, fb1, hx1, H, hg1⟩ := rangeM_cons hl1 hr1
      refine V.skip ?_
      refine V.seq ?_
      refine V.block ?_
      refine V.seq ?_
      refine V.region ?_
      iterate 2 refine AOps.q tt_ok rfl ?_
      refine AOps.nil ?_
      refine V.seq ?_
      refine V.region ?_
      iterate 3 refine AOps.q tt_ok rfl ?_
      refine AOps.idx tt_ok rfl rfl rfl rfl rfl rfl (Int.natCast_nonneg j1) (rowsGet (fun _ => rfl) hx1) rfl ?_
      iterate 2 refine AOps.q tt_ok rfl ?_
      refine AOps.nil ?_
      refine V.cond rfl (fun h => ?_) (fun h => ?_)
      · have H := condT h H
        refine V.seq ?_
        refine V.region ?_
        iterate 2 refine AOps.q tt_ok rfl ?_
        refine AOps.nil ?_
        obtain rfl := someE H
        have e1 : fl1 = .ret _ := hg1
        subst e1
        obtain rfl := thenR_ret Hp1
        refine V.retP tt_ok rfl (ps := [(pint (j1 : Int))]) ⟨_, _, rfl, rfl, rfl⟩ (PLe.of_eq rfl)
      · have H := condF h H
        refine V.skip ?_
        refine V.blk ?_
        refine V.region ?_
        iterate 2 refine AOps.q tt_ok rfl ?_
        refine AOps.nil ?_
        obtain rfl := someE H
        refine V.againL () () ⟨hl1, hg1⟩ (Gh.le (SLe.cons (PLe.of_eq rfl) (SLe.cons (PLe.of_eq rfl) (SLe.cons (PLe.of_eq rfl) (SLe.cons (PLe.of_eq (pint_succ (by omega))) SLe.nil)))) BLe.nil OLe.nil)
    · have hn1 := rangeM_done (rowsGe h) hr1
      refine V.exit rfl ?_
      refine V.at s1 g1 hn1 (Gh.le SLe.nil BLe.nil OLe.nil)
  · have H := thenR_next hn1 Hp1
    refine V.seq ?_
    refine V.region ?_
    refine AOps.q tt_ok rfl ?_
    refine AOps.nil ?_
    obtain rfl := someE H
    refine V.retP tt_ok rfl (ps := [(pint (-1))]) ⟨_, _, rfl, rfl, rfl⟩ (PLe.of_eq rfl)
theorem N_L_slices_Index_Lstring_string (xs : List (List UInt8)) (v : (List UInt8)) : L_slices_Index_Lstring_string xs v = some (idxOf (fun x1 => (v == x1)) xs) := by
  unfold L_slices_Index_Lstring_string
  rw [rangeM_find (fun x1 => (v == x1)) (fun j _ => (j : Int)) xs 0 (fun k x hk => by cases (v == x) <;> simp)]
  simp only [idxOf, Nat.zero_add]
  cases h : xs.findIdx? (fun x1 => (v == x1)) with
  | none => rfl
  | some i =>
    obtain ⟨hi, _⟩ := List.findIdx?_eq_some_iff_getElem.1 h
    simp [hi]

noncomputable def L_expr_Operators : (List (List UInt8)) × (List Int) :=
  ([[43], [45], [42], [61], [60], [60, 61], [97, 110, 100], [111, 114], [110, 111, 116], [124, 124], [105, 115, 32, 110, 117, 108, 108], [108, 101, 110, 103, 116, 104], [105, 102]], [2, 2, 2, 2, 2, 2, 2, 2, 1, 2, 1, 1, 3])

set_option maxHeartbeats 4000000 in
theorem W_expr_Operators :
    PFun Try.prog 44 [] (.tup [(.list 9 (((L_expr_Operators).1).map rStr)), (.list 3 (((L_expr_Operators).2).map rInt))]) := by
  obtain ⟨r, H⟩ : ∃ r, L_expr_Operators = r := ⟨_, rfl⟩
  rw [H]
  unfold L_expr_Operators at H
  refine PCallsH.intro Try.func44 rfl Try.ntmps44 rfl ?_
  refine V.seq ?_
  refine V.region ?_
  iterate 2 refine AOps.q tt_ok rfl ?_
  refine AOps.nil ?_
  refine V.seq ?_
  refine V.region ?_
  refine AOps.bsC tt_ok rfl rfl rfl rfl (rows' := List.map rStr ([[43], [45], [42], [61], [60], [60, 61], [97, 110, 100], [111, 114], [110, 111, 116], [124, 124], [105, 115, 32, 110, 117, 108, 108], [108, 101, 110, 103, 116, 104], [105, 102]] : List (List UInt8))) rfl (PLe2Rows.refl _) rfl rfl ?_
  refine AOps.bsC tt_ok rfl rfl rfl rfl (rows' := List.map rInt ([2, 2, 2, 2, 2, 2, 2, 2, 1, 2, 1, 1, 3] : List Int)) rfl (PLe2Rows.refl _) rfl rfl ?_
  iterate 2 refine AOps.q tt_ok rfl ?_
  refine AOps.nil ?_
  subst H
  refine V.retP tt_ok rfl (ps := [(.list 9 (([[43], [45], [42], [61], [60], [60, 61], [97, 110, 100], [111, 114], [110, 111, 116], [124, 124], [105, 115, 32, 110, 117, 108, 108], [108, 101, 110, 103, 116, 104], [105, 102]] : List (List UInt8)).map rStr)), (.list 3 (([2, 2, 2, 2, 2, 2, 2, 2, 1, 2, 1, 1, 3] : List Int).map rInt))]) ⟨_, _, rfl, rfl, _, _, rfl, rfl, rfl⟩ (PLe.of_eq rfl)

noncomputable def L_expr_both_1 (x : LVal) (n : Int) : Bool :=
  cond (x.kind == (2 : Int))
    ((x.int == n))
    (false)

set_option maxHeartbeats 4000000 in
theorem W_expr_both_1 (x : LVal) (n : Int) :
    PFun Try.prog 52 [(.agg (encVal x)), (pint n)] (pbool (L_expr_both_1 x n)) := by
  obtain ⟨r, H⟩ : ∃ r, L_expr_both_1 x n = r := ⟨_, rfl⟩
  rw [H]
  unfold L_expr_both_1 at H
  refine PCallsH.intro Try.func52 rfl Try.ntmps52 rfl ?_
  refine V.seq ?_
  refine V.region ?_
  refine AOps.boxF rfl rfl rfl rfl rfl rfl ?_
  refine AOps.q tt_ok rfl ?_
  refine AOps.nil ?_
  refine V.seq ?_
  refine V.region ?_
  iterate 4 refine AOps.q tt_ok rfl ?_
  refine AOps.split rfl rfl rfl (fun h => ?_) (fun h => ?_)
  · have H := condT h H
    iterate 6 refine AOps.q tt_ok rfl ?_
    refine AOps.nil ?_
    subst H
    refine V.retP tt_ok rfl (ps := [(pbool (x.int == n))]) ⟨_, _, rfl, rfl, rfl⟩ (PLe.of_eq rfl)
  · have H := condF h H
    iterate 6 refine AOps.q tt_ok rfl ?_
    refine AOps.nil ?_
    subst H
    refine V.retP tt_ok rfl (ps := [(pbool false)]) ⟨_, _, rfl, rfl, rfl⟩ (PLe.of_eq rfl)

noncomputable def L_expr_both (a : LVal) (b : LVal) (decides : Int) : LVal :=
  letP (
    letP (L_expr_both_1 a decides) fun x12 =>
    cond x12
      (true)
      (letP (L_expr_both_1 b decides) fun x17 =>
      x17)) fun (t1 : Bool) =>
  cond t1
    (letP (boolV (decides == (1 : Int))) fun x21 =>
    x21)
    (letP (L_expr_both_1 a (IntKind.i64.wrap ((1 : Int) - decides))) fun x27 =>
    cond x27
      (letP (L_expr_both_1 b (IntKind.i64.wrap ((1 : Int) - decides))) fun x33 =>
      cond x33
        (letP (boolV (decides == (0 : Int))) fun x37 =>
        x37)
        ((LVal.mk 0 0 [])))
      ((LVal.mk 0 0 [])))

set_option maxHeartbeats 4000000 in
theorem W_expr_both (a : LVal) (b : LVal) (decides : Int) :
    PFun Try.prog 45 [(.agg (encVal a)), (.agg (encVal b)), (pint decides)] (.agg (encVal (L_expr_both a b decides))) := by
  obtain ⟨r, H⟩ : ∃ r, L_expr_both a b decides = r := ⟨_, rfl⟩
  rw [H]
  unfold L_expr_both at H
  refine PCallsH.intro Try.func45 rfl Try.ntmps45 rfl ?_
  refine V.seq ?_
  refine V.region ?_
  refine AOps.boxF rfl rfl rfl rfl rfl rfl ?_
  refine AOps.boxF rfl rfl rfl rfl rfl rfl ?_
  refine AOps.alloc tt_ok rfl rfl rfl rfl rfl rfl fun b6 => ?_
  refine AOps.nil ?_
  refine V.seq ?_
  refine V.region ?_
  refine AOps.q tt_ok rfl ?_
  refine AOps.nil ?_
  refine V.seq ?_
  refine V.block ?_
  refine V.seq ?_
  obtain ⟨fl1, H1, Hp1⟩ := letE H
  refine V.cut (τ := Bool) (γ := Unit) (fun t1 g1 => ⟨39, upd (upd (upd (upd (upd (upd (fun _ => .any) 8 (pbool t1)) 7 (.fn 52 [])) 6 (.box 6 b6 0)) 4 (.ptr [(pint b.kind), (pint b.int), (.str b.text)])) 3 (.ptr [(pint a.kind), (pint a.int), (.str a.text)])) 2 (pint decides), upd (fun _ => none) 6 (some ⟨b6, [(pint 0), (pint 0), (.str [])]⟩), fun _ => none⟩) (fun t => t = fl1) ?_ (fun t1 g1 hn1 => ?_)
  · have H := H1
    refine V.region ?_
    iterate 3 refine AOps.q tt_ok rfl ?_
    obtain ⟨x12, h12, H⟩ := letE H
    have s12 := W_expr_both_1 a decides
    rw [h12] at s12
    refine AOps.callP (g := 52) rfl rfl rfl Try.call52 (PLeAll.refl _ _) s12 rfl ?_
    refine AOps.q tt_ok rfl ?_
    refine AOps.split rfl rfl rfl (fun h => ?_) (fun h => ?_)
    · have H := condT h H
      iterate 6 refine AOps.q tt_ok rfl ?_
      refine AOps.nil ?_
      subst H
      refine V.at true () rfl (Gh.le (SLe.cons (PLe.of_eq rfl) (SLe.cons (PLe.of_eq rfl) (SLe.cons (PLe.of_eq rfl) (SLe.cons (PLe.of_eq rfl) (SLe.cons (PLe.of_eq rfl) (SLe.cons (PLe.of_eq rfl) SLe.nil)))))) (BLe.cons rfl (PLeAll.refl _ _) BLe.nil) OLe.nil)
    · have H := condF h H
      iterate 3 refine AOps.q tt_ok rfl ?_
      obtain ⟨x17, h17, H⟩ := letE H
      have s17 := W_expr_both_1 b decides
      rw [h17] at s17
      refine AOps.callP (g := 52) rfl rfl rfl Try.call52 (PLeAll.refl _ _) s17 rfl ?_
      iterate 2 refine AOps.q tt_ok rfl ?_
      refine AOps.nil ?_
      subst H
      refine V.at x17 () rfl (Gh.le (SLe.cons (PLe.of_eq rfl) (SLe.cons (PLe.of_eq rfl) (SLe.cons (PLe.of_eq rfl) (SLe.cons (PLe.of_eq rfl) (SLe.cons (PLe.of_eq rfl) (SLe.cons (PLe.of_eq rfl) SLe.nil)))))) (BLe.cons rfl (PLeAll.refl _ _) BLe.nil) OLe.nil)
  · subst hn1
    have H := Hp1
    refine V.cond rfl (fun h => ?_) (fun h => ?_)
    · have H := condT h H
      refine V.seq ?_
      refine V.region ?_
      iterate 2 refine AOps.q tt_ok rfl ?_
      obtain ⟨x21, h21, H⟩ := letE H
      have s21 := boolV_spec (decides == (1 : Int))
      rw [h21] at s21
      refine AOps.callP (g := 30) rfl rfl rfl Try.call30 (PLeAll.refl _ _) s21 rfl ?_
      refine AOps.storeBox tt_ok rfl rfl rfl rfl rfl rfl rfl rfl rfl rfl rfl ?_
      refine AOps.nil ?_
      subst H
      refine V.retP tt_ok rfl (ps := [(.agg [(pint x21.kind), (pint x21.int), (.str x21.text)])]) ⟨_, _, rfl, ⟨_, _, _, _, _, rfl, rfl, rfl, rfl⟩, rfl⟩ (PLe.of_eq rfl)
    · have H := condF h H
      refine V.seq ?_
      refine V.region ?_
      iterate 4 refine AOps.q tt_ok rfl ?_
      obtain ⟨x27, h27, H⟩ := letE H
      have s27 := W_expr_both_1 a (IntKind.i64.wrap ((1 : Int) - decides))
      rw [h27] at s27
      refine AOps.callP (g := 52) rfl rfl rfl Try.call52 (PLeAll.refl _ _) s27 rfl ?_
      refine AOps.q tt_ok rfl ?_
      refine AOps.split rfl rfl rfl (fun h => ?_) (fun h => ?_)
      · have H := condT h H
        iterate 4 refine AOps.q tt_ok rfl ?_
        obtain ⟨x33, h33, H⟩ := letE H
        have s33 := W_expr_both_1 b (IntKind.i64.wrap ((1 : Int) - decides))
        rw [h33] at s33
        refine AOps.callP (g := 52) rfl rfl rfl Try.call52 (PLeAll.refl _ _) s33 rfl ?_
        iterate 2 refine AOps.q tt_ok rfl ?_
        refine AOps.nil ?_
        refine V.cond rfl (fun h => ?_) (fun h => ?_)
        · have H := condT h H
          refine V.seq ?_
          refine V.region ?_
          iterate 2 refine AOps.q tt_ok rfl ?_
          obtain ⟨x37, h37, H⟩ := letE H
          have s37 := boolV_spec (decides == (0 : Int))
          rw [h37] at s37
          refine AOps.callP (g := 30) rfl rfl rfl Try.call30 (PLeAll.refl _ _) s37 rfl ?_
          refine AOps.storeBox tt_ok rfl rfl rfl rfl rfl rfl rfl rfl rfl rfl rfl ?_
          refine AOps.nil ?_
          subst H
          refine V.retP tt_ok rfl (ps := [(.agg [(pint x37.kind), (pint x37.int), (.str x37.text)])]) ⟨_, _, rfl, ⟨_, _, _, _, _, rfl, rfl, rfl, rfl⟩, rfl⟩ (PLe.of_eq rfl)
        · have H := condF h H
          refine V.skip ?_
          refine V.blk ?_
          refine V.seq ?_
          refine V.region ?_
          refine AOps.q tt_ok rfl ?_
          refine AOps.storeBox tt_ok rfl rfl rfl rfl rfl rfl rfl rfl rfl rfl rfl ?_
          refine AOps.nil ?_
          subst H
          refine V.retP tt_ok rfl (ps := [(.agg [(pint 0), (pint 0), (.str [])])]) ⟨_, _, rfl, ⟨_, _, _, _, _, rfl, rfl, rfl, rfl⟩, rfl⟩ (PLe.of_eq rfl)
      · have H := condF h H
        iterate 7 refine AOps.q tt_ok rfl ?_
        refine AOps.nil ?_
        refine V.condF rfl ?_
        refine V.skip ?_
        refine V.blk ?_
        refine V.seq ?_
        refine V.region ?_
        refine AOps.q tt_ok rfl ?_
        refine AOps.storeBox tt_ok rfl rfl rfl rfl rfl rfl rfl rfl rfl rfl rfl ?_
        refine AOps.nil ?_
        subst H
        refine V.retP tt_ok rfl (ps := [(.agg [(pint 0), (pint 0), (.str [])])]) ⟨_, _, rfl, ⟨_, _, _, _, _, rfl, rfl, rfl, rfl⟩, rfl⟩ (PLe.of_eq rfl)

noncomputable def L_slices_IndexFunc_Lapi_Value_api_Value (sA : List LVal) (f : LVal → Option (Bool)) : Option (Int) :=
  bindP (rangeM (σ := Unit) (ρ := (Int)) (fun (j1 : Nat) (x1 : LVal) (_ : Unit) =>
    bindP (f x1) fun x16 =>
    cond x16
      (some (.ret (j1 : Int)))
      (some (.next ()))) 0 sA ()) fun fl1 => fl1.thenR fun (_ : Unit) =>
  some (-1)

set_option maxHeartbeats 4000000 in
theorem W_slices_IndexFunc_Lapi_Value_api_Value {g_f : FuncId} {caps_f : List PV} (sA : List LVal) (f : LVal → Option (Bool)) (hg_f : ∀ (vs : Array Value) (w : World), (callFunc g_f vs).run Try.prog w = .ok (.enter g_f vs) w) (hp_f : ∀ a0 r, f a0 = some r → PFun Try.prog g_f ((.agg (encVal a0)) :: caps_f) (pbool r)) (r : Int) (H : L_slices_IndexFunc_Lapi_Value_api_Value sA f = some r) :
    PFun Try.prog 48 [(.list 23 (sA.map encVal)), (.fn g_f caps_f)] (pint r) := by
  unfold L_slices_IndexFunc_Lapi_Value_api_Value at H
  refine PCallsH.intro Try.func48 rfl Try.ntmps48 rfl ?_
  refine V.seq ?_
  refine V.region ?_
  refine AOps.q tt_ok rfl ?_
  refine AOps.nil ?_
  iterate 2 refine V.seq ?_
  refine V.region ?_
  refine AOps.q tt_ok rfl ?_
  refine AOps.lenL tt_ok rfl rfl rfl rfl rfl (List.length_map _) rfl ?_
  refine AOps.q tt_ok rfl ?_
  refine AOps.nil ?_
  obtain ⟨fl1, H1, Hp1⟩ := bindE H
  refine V.lenF tt_ok 0 rfl rfl (fun hz1 _ => ?_)
  rw [List.length_map] at hz1
  refine V.cut (τ := Unit) (γ := Unit) (fun s1 g1 => ⟨19, fun _ => .any, fun _ => none, fun _ => none⟩) (fun t => fl1 = .next t) ?_ (fun s1 g1 hn1 => ?_)
  · refine V.block ?_
    refine V.rangeL (fun j1 s1 g1 => ⟨19, upd (upd (upd (upd (fun _ => .any) 8 (pint (j1 : Int))) 7 (pint (sA.length : Int))) 1 (.fn g_f caps_f)) 0 (.list 23 (sA.map encVal)), fun _ => none, fun _ => none⟩) () H1 (Gh.le (SLe.cons (PLe.of_eq rfl) (SLe.cons (PLe.of_eq rfl) (SLe.cons (PLe.of_eq rfl) (SLe.cons (PLe.of_eq rfl) SLe.nil)))) BLe.nil OLe.nil) (fun j1 s1 g1 hj1 hr1 => ?_)
    refine V.seq ?_
    refine V.region ?_
    refine AOps.q tt_ok rfl ?_
    refine AOps.nil ?_
    refine V.seq ?_
    refine V.cond rfl (fun h => ?_) (fun h => ?_)
    · have hl1 := rowsLt h
      obtain ⟨x1, fb1, hx1, H, hg1⟩ := rangeM_cons hl1 hr1
      refine V.skip ?_
      refine V.seq ?_
      refine V.block ?_
      refine V.seq ?_
      refine V.region ?_
      iterate 2 refine AOps.q tt_ok rfl ?_
      refine AOps.nil ?_
      refine V.seq ?_
      refine V.region ?_
      iterate 3 refine AOps.q tt_ok rfl ?_
      refine AOps.idx tt_ok rfl rfl rfl rfl rfl rfl (Int.natCast_nonneg j1) (rowsGet (fun _ => rfl) hx1) rfl ?_
      refine AOps.q tt_ok rfl ?_
      obtain ⟨x16, h16, H⟩ := bindE H
      refine AOps.callP rfl rfl rfl hg_f (PLeAll.refl _ _) (hp_f _ _ h16) rfl ?_
      refine AOps.nil ?_
      refine V.cond rfl (fun h => ?_) (fun h => ?_)
      · have H := condT h H
        refine V.seq ?_
        refine V.region ?_
        iterate 2 refine AOps.q tt_ok rfl ?_
        refine AOps.nil ?_
        obtain rfl := someE H
        have e1 : fl1 = .ret _ := hg1
        subst e1
        obtain rfl := thenR_ret Hp1
        refine V.retP tt_ok rfl (ps := [(pint (j1 : Int))]) ⟨_, _, rfl, rfl, rfl⟩ (PLe.of_eq rfl)
      · have H := condF h H
        refine V.skip ?_
        refine V.blk ?_
        refine V.region ?_
        iterate 2 refine AOps.q tt_ok rfl ?_
        refine AOps.nil ?_
        obtain rfl := someE H
        refine V.againL () () ⟨hl1, hg1⟩ (Gh.le (SLe.cons (PLe.of_eq rfl) (SLe.cons (PLe.of_eq rfl) (SLe.cons (PLe.of_eq rfl) (SLe.cons (PLe.of_eq (pint_succ (by omega))) SLe.nil)))) BLe.nil OLe.nil)
    · have hn1 := rangeM_done (rowsGe h) hr1
      refine V.exit rfl ?_
      refine V.at s1 g1 hn1 (Gh.le SLe.nil BLe.nil OLe.nil)
  · have H := thenR_next hn1 Hp1
    refine V.seq ?_
    refine V.region ?_
    refine AOps.q tt_ok rfl ?_
    refine AOps.nil ?_
    obtain rfl := someE H
    refine V.retP tt_ok rfl (ps := [(pint (-1))]) ⟨_, _, rfl, rfl, rfl⟩ (PLe.of_eq rfl)
theorem N_L_slices_IndexFunc_Lapi_Value_api_Value (xs : List LVal) (q : LVal → Bool) : L_slices_IndexFunc_Lapi_Value_api_Value xs (fun a => some (q a)) = some (idxOf q xs) := by
  unfold L_slices_IndexFunc_Lapi_Value_api_Value
  rw [rangeM_find q (fun j _ => (j : Int)) xs 0 (fun k x hk => by simp only [bindP_some]; cases q x <;> simp)]
  simp only [idxOf, Nat.zero_add]
  cases h : xs.findIdx? q with
  | none => rfl
  | some i =>
    obtain ⟨hi, _⟩ := List.findIdx?_eq_some_iff_getElem.1 h
    simp [hi]

noncomputable def L_slices_ContainsFunc_Lapi_Value_api_Value (sA : List LVal) (f : LVal → Option (Bool)) : Option (Bool) :=
  bindP (L_slices_IndexFunc_Lapi_Value_api_Value sA f) fun x7 =>
  some (decide (x7 ≥ (0 : Int)))

set_option maxHeartbeats 4000000 in
theorem W_slices_ContainsFunc_Lapi_Value_api_Value {g_f : FuncId} {caps_f : List PV} (sA : List LVal) (f : LVal → Option (Bool)) (hg_f : ∀ (vs : Array Value) (w : World), (callFunc g_f vs).run Try.prog w = .ok (.enter g_f vs) w) (hp_f : ∀ a0 r, f a0 = some r → PFun Try.prog g_f ((.agg (encVal a0)) :: caps_f) (pbool r)) (r : Bool) (H : L_slices_ContainsFunc_Lapi_Value_api_Value sA f = some r) :
    PFun Try.prog 36 [(.list 23 (sA.map encVal)), (.fn g_f caps_f)] (pbool r) := by
  unfold L_slices_ContainsFunc_Lapi_Value_api_Value at H
  refine PCallsH.intro Try.func36 rfl Try.ntmps36 rfl ?_
  refine V.seq ?_
  refine V.region ?_
  refine AOps.q tt_ok rfl ?_
  refine AOps.nil ?_
  refine V.seq ?_
  refine V.region ?_
  iterate 2 refine AOps.q tt_ok rfl ?_
  obtain ⟨x7, h7, H⟩ := bindE H
  have s7 := W_slices_IndexFunc_Lapi_Value_api_Value sA f hg_f hp_f _ h7
  refine AOps.callP (g := 48) rfl rfl rfl Try.call48 (PLeAll.refl _ _) s7 rfl ?_
  iterate 2 refine AOps.q tt_ok rfl ?_
  refine AOps.nil ?_
  obtain rfl := someE H
  refine V.retP tt_ok rfl (ps := [(pbool (decide (x7 ≥ (0 : Int))))]) ⟨_, _, rfl, rfl, rfl⟩ (PLe.of_eq rfl)
theorem N_L_slices_ContainsFunc_Lapi_Value_api_Value (xs : List LVal) (q : LVal → Bool) : L_slices_ContainsFunc_Lapi_Value_api_Value xs (fun a => some (q a)) = some (xs.any q) := by
  unfold L_slices_ContainsFunc_Lapi_Value_api_Value
  rw [N_L_slices_IndexFunc_Lapi_Value_api_Value, bindP_some, idxOf_any]

noncomputable def L_expr_reckon_1 (x : LVal) : Bool :=
  (x.kind == (0 : Int))

set_option maxHeartbeats 4000000 in
theorem W_expr_reckon_1 (x : LVal) :
    PFun Try.prog 46 [(.agg (encVal x))] (pbool (L_expr_reckon_1 x)) := by
  obtain ⟨r, H⟩ : ∃ r, L_expr_reckon_1 x = r := ⟨_, rfl⟩
  rw [H]
  unfold L_expr_reckon_1 at H
  refine PCallsH.intro Try.func46 rfl Try.ntmps46 rfl ?_
  refine V.seq ?_
  refine V.region ?_
  refine AOps.boxF rfl rfl rfl rfl rfl rfl ?_
  refine AOps.q tt_ok rfl ?_
  refine AOps.nil ?_
  refine V.seq ?_
  refine V.region ?_
  iterate 4 refine AOps.q tt_ok rfl ?_
  refine AOps.nil ?_
  subst H
  refine V.retP tt_ok rfl (ps := [(pbool (x.kind == (0 : Int)))]) ⟨_, _, rfl, rfl, rfl⟩ (PLe.of_eq rfl)

noncomputable def L_expr_plain_1_1 (x : LVal) (c0 : Int) : Bool :=
  (x.kind != c0)

set_option maxHeartbeats 4000000 in
theorem W_expr_plain_1_1 (x : LVal) (c0 : Int) :
    PFun Try.prog 54 [(.agg (encVal x)), (.ptr [(pint c0)])] (pbool (L_expr_plain_1_1 x c0)) := by
  obtain ⟨r, H⟩ : ∃ r, L_expr_plain_1_1 x c0 = r := ⟨_, rfl⟩
  rw [H]
  unfold L_expr_plain_1_1 at H
  refine PCallsH.intro Try.func54 rfl Try.ntmps54 rfl ?_
  refine V.seq ?_
  refine V.region ?_
  refine AOps.boxF rfl rfl rfl rfl rfl rfl ?_
  refine AOps.q tt_ok rfl ?_
  refine AOps.nil ?_
  refine V.seq ?_
  refine V.region ?_
  iterate 5 refine AOps.q tt_ok rfl ?_
  refine AOps.nil ?_
  subst H
  refine V.retP tt_ok rfl (ps := [(pbool (x.kind != c0))]) ⟨_, _, rfl, rfl, rfl⟩ (PLe.of_eq rfl)

noncomputable def L_expr_plain_1 (n : Int) (c0 : List LVal) : Option (Bool) :=
  bindP (L_slices_ContainsFunc_Lapi_Value_api_Value c0 (fun a0 => some (L_expr_plain_1_1 a0 n))) fun x6 =>
  some (!x6)

set_option maxHeartbeats 4000000 in
theorem W_expr_plain_1 (n : Int) (c0 : List LVal) (r : Bool) (H : L_expr_plain_1 n c0 = some r) :
    PFun Try.prog 53 [(pint n), (.ptr [(.list 23 (c0.map encVal))])] (pbool r) := by
  unfold L_expr_plain_1 at H
  refine PCallsH.intro Try.func53 rfl Try.ntmps53 rfl ?_
  refine V.seq ?_
  refine V.region ?_
  refine AOps.boxF rfl rfl rfl rfl rfl rfl ?_
  refine AOps.q tt_ok rfl ?_
  refine AOps.nil ?_
  refine V.seq ?_
  refine V.region ?_
  iterate 2 refine AOps.q tt_ok rfl ?_
  obtain ⟨x6, h6, H⟩ := bindE H
  have s6 := W_slices_ContainsFunc_Lapi_Value_api_Value c0 (fun a0 => some (L_expr_plain_1_1 a0 n)) Try.call54 (fun a0 r h => (someE h) ▸ W_expr_plain_1_1 a0 n) _ h6
  refine AOps.callP (g := 36) rfl rfl rfl Try.call36 (PLeAll.refl _ _) s6 rfl ?_
  iterate 2 refine AOps.q tt_ok rfl ?_
  refine AOps.nil ?_
  obtain rfl := someE H
  refine V.retP tt_ok rfl (ps := [(pbool (!x6))]) ⟨_, _, rfl, rfl, rfl⟩ (PLe.of_eq rfl)

noncomputable def L_expr_Int (n : Int) : LVal :=
  cond (decide (n < (-1000000000000)))
    ((LVal.mk 0 0 []))
    (cond (decide (n > (1000000000000 : Int)))
      ((LVal.mk 0 0 []))
      ((LVal.mk 1 n [])))

set_option maxHeartbeats 4000000 in
theorem W_expr_Int (n : Int) :
    PFun Try.prog 55 [(pint n)] (.agg (encVal (L_expr_Int n))) := by
  obtain ⟨r, H⟩ : ∃ r, L_expr_Int n = r := ⟨_, rfl⟩
  rw [H]
  unfold L_expr_Int at H
  refine PCallsH.intro Try.func55 rfl Try.ntmps55 rfl ?_
  refine V.seq ?_
  refine V.region ?_
  refine AOps.alloc tt_ok rfl rfl rfl rfl rfl rfl fun b2 => ?_
  refine AOps.nil ?_
  iterate 2 refine V.seq ?_
  refine V.region ?_
  iterate 3 refine AOps.q tt_ok rfl ?_
  refine AOps.split rfl rfl rfl (fun h => ?_) (fun h => ?_)
  · have H := condT h H
    iterate 3 refine AOps.q tt_ok rfl ?_
    refine AOps.nil ?_
    refine V.condT rfl ?_
    refine V.seq ?_
    refine V.region ?_
    refine AOps.q tt_ok rfl ?_
    refine AOps.storeBox tt_ok rfl rfl rfl rfl rfl rfl rfl rfl rfl rfl rfl ?_
    refine AOps.nil ?_
    subst H
    refine V.retP tt_ok rfl (ps := [(.agg [(pint 0), (pint 0), (.str [])])]) ⟨_, _, rfl, ⟨_, _, _, _, _, rfl, rfl, rfl, rfl⟩, rfl⟩ (PLe.of_eq rfl)
  · have H := condF h H
    iterate 3 refine AOps.q tt_ok rfl ?_
    refine AOps.nil ?_
    refine V.cond rfl (fun h => ?_) (fun h => ?_)
    · have H := condT h H
      refine V.seq ?_
      refine V.region ?_
      refine AOps.q tt_ok rfl ?_
      refine AOps.storeBox tt_ok rfl rfl rfl rfl rfl rfl rfl rfl rfl rfl rfl ?_
      refine AOps.nil ?_
      subst H
      refine V.retP tt_ok rfl (ps := [(.agg [(pint 0), (pint 0), (.str [])])]) ⟨_, _, rfl, ⟨_, _, _, _, _, rfl, rfl, rfl, rfl⟩, rfl⟩ (PLe.of_eq rfl)
    · have H := condF h H
      refine V.skip ?_
      refine V.seq ?_
      refine V.region ?_
      iterate 2 refine AOps.q tt_ok rfl ?_
      refine AOps.storeBox tt_ok rfl rfl rfl rfl rfl rfl rfl rfl rfl rfl rfl ?_
      refine AOps.nil ?_
      subst H
      refine V.retP tt_ok rfl (ps := [(.agg [(pint 1), (pint n), (.str [])])]) ⟨_, _, rfl, ⟨_, _, _, _, _, rfl, rfl, rfl, rfl⟩, rfl⟩ (PLe.of_eq rfl)

noncomputable def L_expr_number (op : List UInt8) (a : Int) (b : Int) : Option (LVal) :=
  cond (op == ([43] : List UInt8))
    (letP (L_expr_Int (IntKind.i64.wrap (a + b))) fun x14 =>
    some x14)
    (cond (op == ([45] : List UInt8))
      (letP (L_expr_Int (IntKind.i64.wrap (a - b))) fun x20 =>
      some x20)
      (letP (
        cond (a == (0 : Int))
          (true)
          ((b == (0 : Int)))) fun (t1 : Bool) =>
      cond t1
        (letP (L_expr_Int 0) fun x27 =>
        some x27)
        (bindP (quoI (IntKind.i64.wrap (a * b)) b) fun (x33 : Int) =>
        cond (x33 == a)
          (letP (L_expr_Int (IntKind.i64.wrap (a * b))) fun x37 =>
          some x37)
          (some (LVal.mk 0 0 [])))))

set_option maxHeartbeats 4000000 in
theorem W_expr_number (op : List UInt8) (a : Int) (b : Int) (r : LVal) (H : L_expr_number op a b = some r) :
    PFun Try.prog 56 [(.str op), (pint a), (pint b)] (.agg (encVal r)) := by
  unfold L_expr_number at H
  refine PCallsH.intro Try.func56 rfl Try.ntmps56 rfl ?_
  refine V.seq ?_
  refine V.region ?_
  refine AOps.alloc tt_ok rfl rfl rfl rfl rfl rfl fun b6 => ?_
  refine AOps.nil ?_
  iterate 2 refine V.seq ?_
  refine V.region ?_
  refine AOps.q tt_ok rfl ?_
  refine AOps.nil ?_
  refine V.block ?_
  refine V.seq ?_
  refine V.region ?_
  iterate 2 refine AOps.q tt_ok rfl ?_
  refine AOps.nil ?_
  refine V.cond rfl (fun h => ?_) (fun h => ?_)
  · have H := condT h H
    refine V.seq ?_
    refine V.region ?_
    iterate 3 refine AOps.q tt_ok rfl ?_
    obtain ⟨x14, h14, H⟩ := letE H
    have s14 := W_expr_Int (IntKind.i64.wrap (a + b))
    rw [h14] at s14
    refine AOps.callP (g := 55) rfl rfl rfl Try.call55 (PLeAll.refl _ _) s14 rfl ?_
    refine AOps.storeBox tt_ok rfl rfl rfl rfl rfl rfl rfl rfl rfl rfl rfl ?_
    refine AOps.nil ?_
    obtain rfl := someE H
    refine V.retP tt_ok rfl (ps := [(.agg [(pint x14.kind), (pint x14.int), (.str x14.text)])]) ⟨_, _, rfl, ⟨_, _, _, _, _, rfl, rfl, rfl, rfl⟩, rfl⟩ (PLe.of_eq rfl)
  · have H := condF h H
    refine V.seq ?_
    refine V.region ?_
    iterate 2 refine AOps.q tt_ok rfl ?_
    refine AOps.nil ?_
    refine V.cond rfl (fun h => ?_) (fun h => ?_)
    · have H := condT h H
      refine V.seq ?_
      refine V.region ?_
      iterate 3 refine AOps.q tt_ok rfl ?_
      obtain ⟨x20, h20, H⟩ := letE H
      have s20 := W_expr_Int (IntKind.i64.wrap (a - b))
      rw [h20] at s20
      refine AOps.callP (g := 55) rfl rfl rfl Try.call55 (PLeAll.refl _ _) s20 rfl ?_
      refine AOps.storeBox tt_ok rfl rfl rfl rfl rfl rfl rfl rfl rfl rfl rfl ?_
      refine AOps.nil ?_
      obtain rfl := someE H
      refine V.retP tt_ok rfl (ps := [(.agg [(pint x20.kind), (pint x20.int), (.str x20.text)])]) ⟨_, _, rfl, ⟨_, _, _, _, _, rfl, rfl, rfl, rfl⟩, rfl⟩ (PLe.of_eq rfl)
    · have H := condF h H
      refine V.skip ?_
      refine V.blk ?_
      iterate 2 refine V.seq ?_
      obtain ⟨fl1, H1, Hp1⟩ := letE H
      refine V.cut (τ := Bool) (γ := Unit) (fun t1 g1 => ⟨39, upd (upd (upd (upd (fun _ => .any) 26 (pbool t1)) 6 (.box 6 b6 0)) 2 (pint b)) 1 (pint a), upd (fun _ => none) 6 (some ⟨b6, [(pint 0), (pint 0), (.str [])]⟩), fun _ => none⟩) (fun t => t = fl1) ?_ (fun t1 g1 hn1 => ?_)
      · have H := H1
        refine V.region ?_
        iterate 3 refine AOps.q tt_ok rfl ?_
        refine AOps.split rfl rfl rfl (fun h => ?_) (fun h => ?_)
        · have H := condT h H
          iterate 3 refine AOps.q tt_ok rfl ?_
          refine AOps.nil ?_
          subst H
          refine V.at true () rfl (Gh.le (SLe.cons (PLe.of_eq rfl) (SLe.cons (PLe.of_eq rfl) (SLe.cons (PLe.of_eq rfl) (SLe.cons (PLe.of_eq rfl) SLe.nil)))) (BLe.cons rfl (PLeAll.refl _ _) BLe.nil) OLe.nil)
        · have H := condF h H
          iterate 3 refine AOps.q tt_ok rfl ?_
          refine AOps.nil ?_
          subst H
          refine V.at (b == (0 : Int)) () rfl (Gh.le (SLe.cons (PLe.of_eq rfl) (SLe.cons (PLe.of_eq rfl) (SLe.cons (PLe.of_eq rfl) (SLe.cons (PLe.of_eq rfl) SLe.nil)))) (BLe.cons rfl (PLeAll.refl _ _) BLe.nil) OLe.nil)
      · subst hn1
        have H := Hp1
        refine V.cond rfl (fun h => ?_) (fun h => ?_)
        · have H := condT h H
          refine V.seq ?_
          refine V.region ?_
          obtain ⟨x27, h27, H⟩ := letE H
          have s27 := W_expr_Int 0
          rw [h27] at s27
          refine AOps.callP (g := 55) rfl rfl rfl Try.call55 (PLeAll.refl _ _) s27 rfl ?_
          refine AOps.storeBox tt_ok rfl rfl rfl rfl rfl rfl rfl rfl rfl rfl rfl ?_
          refine AOps.nil ?_
          obtain rfl := someE H
          refine V.retP tt_ok rfl (ps := [(.agg [(pint x27.kind), (pint x27.int), (.str x27.text)])]) ⟨_, _, rfl, ⟨_, _, _, _, _, rfl, rfl, rfl, rfl⟩, rfl⟩ (PLe.of_eq rfl)
        · have H := condF h H
          refine V.skip ?_
          iterate 2 refine V.seq ?_
          refine V.region ?_
          iterate 4 refine AOps.q tt_ok rfl ?_
          refine AOps.nil ?_
          refine V.seq ?_
          refine V.region ?_
          iterate 2 refine AOps.q tt_ok rfl ?_
          obtain ⟨x33, h33, H⟩ := bindE H
          have k33 := quoI_some h33
          refine AOps.quoC tt_ok rfl rfl rfl rfl k33.1 k33.2 rfl ?_
          iterate 2 refine AOps.q tt_ok rfl ?_
          refine AOps.nil ?_
          refine V.cond rfl (fun h => ?_) (fun h => ?_)
          · have H := condT h H
            refine V.seq ?_
            refine V.region ?_
            refine AOps.q tt_ok rfl ?_
            obtain ⟨x37, h37, H⟩ := letE H
            have s37 := W_expr_Int (IntKind.i64.wrap (a * b))
            rw [h37] at s37
            refine AOps.callP (g := 55) rfl rfl rfl Try.call55 (PLeAll.refl _ _) s37 rfl ?_
            refine AOps.storeBox tt_ok rfl rfl rfl rfl rfl rfl rfl rfl rfl rfl rfl ?_
            refine AOps.nil ?_
            obtain rfl := someE H
            refine V.retP tt_ok rfl (ps := [(.agg [(pint x37.kind), (pint x37.int), (.str x37.text)])]) ⟨_, _, rfl, ⟨_, _, _, _, _, rfl, rfl, rfl, rfl⟩, rfl⟩ (PLe.of_eq rfl)
          · have H := condF h H
            refine V.skip ?_
            refine V.seq ?_
            refine V.region ?_
            refine AOps.q tt_ok rfl ?_
            refine AOps.storeBox tt_ok rfl rfl rfl rfl rfl rfl rfl rfl rfl rfl rfl ?_
            refine AOps.nil ?_
            obtain rfl := someE H
            refine V.retP tt_ok rfl (ps := [(.agg [(pint 0), (pint 0), (.str [])])]) ⟨_, _, rfl, ⟨_, _, _, _, _, rfl, rfl, rfl, rfl⟩, rfl⟩ (PLe.of_eq rfl)

noncomputable def L_expr_plain (op : List UInt8) (l : List LVal) : Option (LVal) :=
  cond (op == ([61] : List UInt8))
    (bindP (getI l 0) fun (x23 : LVal) =>
    bindP (getI l 1) fun (x26 : LVal) =>
    letP (boolV (x23.kind == x26.kind && (x23.int == x26.int && (x23.text == x26.text && true)))) fun x29 =>
    some x29)
    (cond (op == ([60] : List UInt8))
      (bindP (getI l 0) fun (x33 : LVal) =>
      bindP (getI l 1) fun (x36 : LVal) =>
      letP (lessV x33 x36) fun x38 =>
      letP (boolV x38) fun x39 =>
      some x39)
      (cond (op == ([60, 61] : List UInt8))
        (bindP (getI l 1) fun (x43 : LVal) =>
        bindP (getI l 0) fun (x46 : LVal) =>
        letP (lessV x43 x46) fun x48 =>
        letP (boolV (!x48)) fun x50 =>
        some x50)
        (cond (op == ([110, 111, 116] : List UInt8))
          (bindP (L_expr_plain_1 2 l) fun x54 =>
          cond x54
            (bindP (getI l 0) fun (x56 : LVal) =>
            letP (boolV (x56.int == (0 : Int))) fun x60 =>
            some x60)
            (some (LVal.mk 0 0 [])))
          (cond (op == ([108, 101, 110, 103, 116, 104] : List UInt8))
            (bindP (L_expr_plain_1 3 l) fun x64 =>
            cond x64
              (bindP (getI l 0) fun (x66 : LVal) =>
              letP (L_expr_Int (x66.text.length : Int)) fun x70 =>
              some x70)
              (some (LVal.mk 0 0 [])))
            (cond (op == ([124, 124] : List UInt8))
              (bindP (
                bindP (L_expr_plain_1 3 l) fun x74 =>
                cond x74
                  (bindP (getI l 0) fun (x77 : LVal) =>
                  bindP (getI l 1) fun (x82 : LVal) =>
                  some (decide ((IntKind.i64.wrap ((x77.text.length : Int) + (x82.text.length : Int))) ≤ (24 : Int))))
                  (some false)) fun (t1 : Bool) =>
              cond t1
                (bindP (getI l 0) fun (x90 : LVal) =>
                bindP (getI l 1) fun (x94 : LVal) =>
                bindP (catS x90.text x94.text) fun (x97 : List UInt8) =>
                some (LVal.mk 3 0 x97))
                (some (LVal.mk 0 0 [])))
              (bindP (L_expr_plain_1 1 l) fun x9 =>
              cond x9
                (bindP (getI l 0) fun (x12 : LVal) =>
                bindP (getI l 1) fun (x16 : LVal) =>
                bindP (L_expr_number op x12.int x16.int) fun x19 =>
                some x19)
                (some (LVal.mk 0 0 []))))))))

set_option maxHeartbeats 4000000 in
theorem W_expr_plain (op : List UInt8) (l : List LVal) (r : LVal) (H : L_expr_plain op l = some r) :
    PFun Try.prog 47 [(.str op), (.list 23 (l.map encVal))] (.agg (encVal r)) := by
  unfold L_expr_plain at H
  refine PCallsH.intro Try.func47 rfl Try.ntmps47 rfl ?_
  refine V.seq ?_
  refine V.region ?_
  refine AOps.boxF rfl rfl rfl rfl rfl rfl ?_
  refine AOps.alloc tt_ok rfl rfl rfl rfl rfl rfl fun b4 => ?_
  refine AOps.nil ?_
  refine V.seq ?_
  refine V.region ?_
  iterate 2 refine AOps.q tt_ok rfl ?_
  refine AOps.nil ?_
  iterate 2 refine V.seq ?_
  refine V.region ?_
  refine AOps.q tt_ok rfl ?_
  refine AOps.nil ?_
  refine V.block ?_
  refine V.seq ?_
  refine V.region ?_
  iterate 2 refine AOps.q tt_ok rfl ?_
  refine AOps.nil ?_
  refine V.cond rfl (fun h => ?_) (fun h => ?_)
  · have H := condT h H
    refine V.seq ?_
    refine V.draw tt_ok mixed_ok false [0, 1, 2, 3, 4, 5, 6, 7, 8] rfl (by decide +kernel) rfl ?_
    refine DOps.q rfl ?_
    obtain ⟨x23, h23, H⟩ := bindE H
    have k23 := getI_some h23
    refine DOps.idx rfl rfl rfl rfl rfl rfl rfl k23.1 (rowsGetI (fun _ => rfl) k23.2) rfl ?_
    iterate 2 refine DOps.q rfl ?_
    obtain ⟨x26, h26, H⟩ := bindE H
    have k26 := getI_some h26
    refine DOps.idx rfl rfl rfl rfl rfl rfl rfl k26.1 (rowsGetI (fun _ => rfl) k26.2) rfl ?_
    iterate 2 refine DOps.q rfl ?_
    obtain ⟨x29, h29, H⟩ := letE H
    have s29 := boolV_spec (x23.kind == x26.kind && (x23.int == x26.int && (x23.text == x26.text && true)))
    rw [h29] at s29
    refine DOps.callP (g := 30) rfl rfl rfl rfl Try.call30 (PLeAll.refl _ _) s29 rfl ?_
    refine DOps.storeBox rfl rfl rfl rfl rfl rfl rfl rfl rfl rfl rfl rfl ?_
    refine DOps.nil ?_
    obtain rfl := someE H
    refine V.retP tt_ok rfl (ps := [(.agg [(pint x29.kind), (pint x29.int), (.str x29.text)])]) ⟨_, _, rfl, ⟨_, _, _, _, _, rfl, rfl, rfl, rfl⟩, rfl⟩ (PLe.of_eq rfl)
  · have H := condF h H
    refine V.seq ?_
    refine V.region ?_
    iterate 2 refine AOps.q tt_ok rfl ?_
    refine AOps.nil ?_
    refine V.cond rfl (fun h => ?_) (fun h => ?_)
    · have H := condT h H
      refine V.seq ?_
      refine V.draw tt_ok mixed_ok false [0, 1, 2, 3, 4, 5, 6, 7, 8] rfl (by decide +kernel) rfl ?_
      refine DOps.q rfl ?_
      obtain ⟨x33, h33, H⟩ := bindE H
      have k33 := getI_some h33
      refine DOps.idx rfl rfl rfl rfl rfl rfl rfl k33.1 (rowsGetI (fun _ => rfl) k33.2) rfl ?_
      iterate 2 refine DOps.q rfl ?_
      obtain ⟨x36, h36, H⟩ := bindE H
      have k36 := getI_some h36
      refine DOps.idx rfl rfl rfl rfl rfl rfl rfl k36.1 (rowsGetI (fun _ => rfl) k36.2) rfl ?_
      refine DOps.q rfl ?_
      obtain ⟨x38, h38, H⟩ := letE H
      have s38 := lessV_spec x33 x36
      rw [h38] at s38
      refine DOps.callP (g := 13) rfl rfl rfl rfl Try.call13 (PLeAll.refl _ _) s38 rfl ?_
      obtain ⟨x39, h39, H⟩ := letE H
      have s39 := boolV_spec x38
      rw [h39] at s39
      refine DOps.callP (g := 30) rfl rfl rfl rfl Try.call30 (PLeAll.refl _ _) s39 rfl ?_
      refine DOps.storeBox rfl rfl rfl rfl rfl rfl rfl rfl rfl rfl rfl rfl ?_
      refine DOps.nil ?_
      obtain rfl := someE H
      refine V.retP tt_ok rfl (ps := [(.agg [(pint x39.kind), (pint x39.int), (.str x39.text)])]) ⟨_, _, rfl, ⟨_, _, _, _, _, rfl, rfl, rfl, rfl⟩, rfl⟩ (PLe.of_eq rfl)
    · have H := condF h H
      refine V.seq ?_
      refine V.region ?_
      iterate 2 refine AOps.q tt_ok rfl ?_
      refine AOps.nil ?_
      refine V.cond rfl (fun h => ?_) (fun h => ?_)
      · have H := condT h H
        refine V.seq ?_
        refine V.draw tt_ok mixed_ok false [0, 1, 2, 3, 4, 5, 6, 7, 8, 9] rfl (by decide +kernel) rfl ?_
        refine DOps.q rfl ?_
        obtain ⟨x43, h43, H⟩ := bindE H
        have k43 := getI_some h43
        refine DOps.idx rfl rfl rfl rfl rfl rfl rfl k43.1 (rowsGetI (fun _ => rfl) k43.2) rfl ?_
        iterate 2 refine DOps.q rfl ?_
        obtain ⟨x46, h46, H⟩ := bindE H
        have k46 := getI_some h46
        refine DOps.idx rfl rfl rfl rfl rfl rfl rfl k46.1 (rowsGetI (fun _ => rfl) k46.2) rfl ?_
        refine DOps.q rfl ?_
        obtain ⟨x48, h48, H⟩ := letE H
        have s48 := lessV_spec x43 x46
        rw [h48] at s48
        refine DOps.callP (g := 13) rfl rfl rfl rfl Try.call13 (PLeAll.refl _ _) s48 rfl ?_
        refine DOps.q rfl ?_
        obtain ⟨x50, h50, H⟩ := letE H
        have s50 := boolV_spec (!x48)
        rw [h50] at s50
        refine DOps.callP (g := 30) rfl rfl rfl rfl Try.call30 (PLeAll.refl _ _) s50 rfl ?_
        refine DOps.storeBox rfl rfl rfl rfl rfl rfl rfl rfl rfl rfl rfl rfl ?_
        refine DOps.nil ?_
        obtain rfl := someE H
        refine V.retP tt_ok rfl (ps := [(.agg [(pint x50.kind), (pint x50.int), (.str x50.text)])]) ⟨_, _, rfl, ⟨_, _, _, _, _, rfl, rfl, rfl, rfl⟩, rfl⟩ (PLe.of_eq rfl)
      · have H := condF h H
        refine V.seq ?_
        refine V.region ?_
        iterate 2 refine AOps.q tt_ok rfl ?_
        refine AOps.nil ?_
        refine V.cond rfl (fun h => ?_) (fun h => ?_)
        · have H := condT h H
          refine V.seq ?_
          refine V.region ?_
          refine AOps.q tt_ok rfl ?_
          obtain ⟨x54, h54, H⟩ := bindE H
          have s54 := W_expr_plain_1 2 l _ h54
          refine AOps.callP (g := 53) rfl rfl rfl Try.call53 (PLeAll.refl _ _) s54 rfl ?_
          refine AOps.nil ?_
          refine V.cond rfl (fun h => ?_) (fun h => ?_)
          · have H := condT h H
            refine V.seq ?_
            refine V.region ?_
            refine AOps.q tt_ok rfl ?_
            obtain ⟨x56, h56, H⟩ := bindE H
            have k56 := getI_some h56
            refine AOps.idx tt_ok rfl rfl rfl rfl rfl rfl k56.1 (rowsGetI (fun _ => rfl) k56.2) rfl ?_
            iterate 3 refine AOps.q tt_ok rfl ?_
            obtain ⟨x60, h60, H⟩ := letE H
            have s60 := boolV_spec (x56.int == (0 : Int))
            rw [h60] at s60
            refine AOps.callP (g := 30) rfl rfl rfl Try.call30 (PLeAll.refl _ _) s60 rfl ?_
            refine AOps.storeBox tt_ok rfl rfl rfl rfl rfl rfl rfl rfl rfl rfl rfl ?_
            refine AOps.nil ?_
            obtain rfl := someE H
            refine V.retP tt_ok rfl (ps := [(.agg [(pint x60.kind), (pint x60.int), (.str x60.text)])]) ⟨_, _, rfl, ⟨_, _, _, _, _, rfl, rfl, rfl, rfl⟩, rfl⟩ (PLe.of_eq rfl)
          · have H := condF h H
            refine V.skip ?_
            refine V.blk ?_
            refine V.seq ?_
            refine V.region ?_
            refine AOps.q tt_ok rfl ?_
            refine AOps.storeBox tt_ok rfl rfl rfl rfl rfl rfl rfl rfl rfl rfl rfl ?_
            refine AOps.nil ?_
            obtain rfl := someE H
            refine V.retP tt_ok rfl (ps := [(.agg [(pint 0), (pint 0), (.str [])])]) ⟨_, _, rfl, ⟨_, _, _, _, _, rfl, rfl, rfl, rfl⟩, rfl⟩ (PLe.of_eq rfl)
        · have H := condF h H
          refine V.seq ?_
          refine V.region ?_
          iterate 2 refine AOps.q tt_ok rfl ?_
          refine AOps.nil ?_
          refine V.cond rfl (fun h => ?_) (fun h => ?_)
          · have H := condT h H
            refine V.seq ?_
            refine V.region ?_
            refine AOps.q tt_ok rfl ?_
            obtain ⟨x64, h64, H⟩ := bindE H
            have s64 := W_expr_plain_1 3 l _ h64
            refine AOps.callP (g := 53) rfl rfl rfl Try.call53 (PLeAll.refl _ _) s64 rfl ?_
            refine AOps.nil ?_
            refine V.cond rfl (fun h => ?_) (fun h => ?_)
            · have H := condT h H
              refine V.seq ?_
              refine V.region ?_
              refine AOps.q tt_ok rfl ?_
              obtain ⟨x66, h66, H⟩ := bindE H
              have k66 := getI_some h66
              refine AOps.idx tt_ok rfl rfl rfl rfl rfl rfl k66.1 (rowsGetI (fun _ => rfl) k66.2) rfl ?_
              iterate 3 refine AOps.q tt_ok rfl ?_
              obtain ⟨x70, h70, H⟩ := letE H
              have s70 := W_expr_Int (x66.text.length : Int)
              rw [h70] at s70
              refine AOps.callP (g := 55) rfl rfl rfl Try.call55 (PLeAll.refl _ _) s70 rfl ?_
              refine AOps.storeBox tt_ok rfl rfl rfl rfl rfl rfl rfl rfl rfl rfl rfl ?_
              refine AOps.nil ?_
              obtain rfl := someE H
              refine V.retP tt_ok rfl (ps := [(.agg [(pint x70.kind), (pint x70.int), (.str x70.text)])]) ⟨_, _, rfl, ⟨_, _, _, _, _, rfl, rfl, rfl, rfl⟩, rfl⟩ (PLe.of_eq rfl)
            · have H := condF h H
              refine V.skip ?_
              refine V.blk ?_
              refine V.seq ?_
              refine V.region ?_
              refine AOps.q tt_ok rfl ?_
              refine AOps.storeBox tt_ok rfl rfl rfl rfl rfl rfl rfl rfl rfl rfl rfl ?_
              refine AOps.nil ?_
              obtain rfl := someE H
              refine V.retP tt_ok rfl (ps := [(.agg [(pint 0), (pint 0), (.str [])])]) ⟨_, _, rfl, ⟨_, _, _, _, _, rfl, rfl, rfl, rfl⟩, rfl⟩ (PLe.of_eq rfl)
          · have H := condF h H
            refine V.seq ?_
            refine V.region ?_
            iterate 2 refine AOps.q tt_ok rfl ?_
            refine AOps.nil ?_
            refine V.cond rfl (fun h => ?_) (fun h => ?_)
            · have H := condT h H
              refine V.seq ?_
              obtain ⟨fl1, H1, Hp1⟩ := bindE H
              refine V.cut (τ := Bool) (γ := Unit) (fun t1 g1 => ⟨100, upd (upd (upd (fun _ => .any) 88 (pbool t1)) 4 (.box 4 b4 0)) 3 (.ptr [(.list 23 (l.map encVal))]), upd (fun _ => none) 4 (some ⟨b4, [(pint 0), (pint 0), (.str [])]⟩), fun _ => none⟩) (fun t => t = fl1) ?_ (fun t1 g1 hn1 => ?_)
              · have H := H1
                refine V.draw tt_ok mixed_ok false [0, 1, 2, 3, 4, 5, 6, 7, 8, 9, 10, 11, 12, 13, 14, 15] rfl (by decide +kernel) rfl ?_
                refine DOps.q rfl ?_
                obtain ⟨x74, h74, H⟩ := bindE H
                have s74 := W_expr_plain_1 3 l _ h74
                refine DOps.callP (g := 53) rfl rfl rfl rfl Try.call53 (PLeAll.refl _ _) s74 rfl ?_
                refine DOps.q rfl ?_
                refine DOps.split rfl rfl rfl rfl (fun h => ?_) (fun h => ?_)
                · have H := condT h H
                  refine DOps.q rfl ?_
                  obtain ⟨x77, h77, H⟩ := bindE H
                  have k77 := getI_some h77
                  refine DOps.idx rfl rfl rfl rfl rfl rfl rfl k77.1 (rowsGetI (fun _ => rfl) k77.2) rfl ?_
                  iterate 4 refine DOps.q rfl ?_
                  obtain ⟨x82, h82, H⟩ := bindE H
                  have k82 := getI_some h82
                  refine DOps.idx rfl rfl rfl rfl rfl rfl rfl k82.1 (rowsGetI (fun _ => rfl) k82.2) rfl ?_
                  iterate 6 refine DOps.q rfl ?_
                  refine DOps.nil ?_
                  obtain rfl := someE H
                  refine V.at (decide ((IntKind.i64.wrap ((x77.text.length : Int) + (x82.text.length : Int))) ≤ (24 : Int))) () rfl (Gh.le (SLe.cons (PLe.of_eq rfl) (SLe.cons (PLe.of_eq rfl) (SLe.cons (PLe.of_eq rfl) SLe.nil))) (BLe.cons rfl (PLeAll.refl _ _) BLe.nil) OLe.nil)
                · have H := condF h H
                  iterate 13 refine DOps.q rfl ?_
                  refine DOps.nil ?_
                  obtain rfl := someE H
                  refine V.at false () rfl (Gh.le (SLe.cons (PLe.of_eq rfl) (SLe.cons (PLe.of_eq rfl) (SLe.cons (PLe.of_eq rfl) SLe.nil))) (BLe.cons rfl (PLeAll.refl _ _) BLe.nil) OLe.nil)
              · subst hn1
                have H := Hp1
                refine V.cond rfl (fun h => ?_) (fun h => ?_)
                · have H := condT h H
                  refine V.seq ?_
                  refine V.draw tt_ok mixed_ok false [0, 1, 2, 3, 4, 5, 6, 7, 8, 9, 10] rfl (by decide +kernel) rfl ?_
                  refine DOps.q rfl ?_
                  obtain ⟨x90, h90, H⟩ := bindE H
                  have k90 := getI_some h90
                  refine DOps.idx rfl rfl rfl rfl rfl rfl rfl k90.1 (rowsGetI (fun _ => rfl) k90.2) rfl ?_
                  iterate 3 refine DOps.q rfl ?_
                  obtain ⟨x94, h94, H⟩ := bindE H
                  have k94 := getI_some h94
                  refine DOps.idx rfl rfl rfl rfl rfl rfl rfl k94.1 (rowsGetI (fun _ => rfl) k94.2) rfl ?_
                  iterate 2 refine DOps.q rfl ?_
                  obtain ⟨x97, h97, H⟩ := bindE H
                  have k97 := catS_some h97
                  refine DOps.catC rfl rfl rfl rfl rfl k97.1 k97.2 rfl ?_
                  refine DOps.q rfl ?_
                  refine DOps.storeBox rfl rfl rfl rfl rfl rfl rfl rfl rfl rfl rfl rfl ?_
                  refine DOps.nil ?_
                  obtain rfl := someE H
                  refine V.retP tt_ok rfl (ps := [(.agg [(pint 3), (pint 0), (.str x97)])]) ⟨_, _, rfl, ⟨_, _, _, _, _, rfl, rfl, rfl, rfl⟩, rfl⟩ (PLe.of_eq rfl)
                · have H := condF h H
                  refine V.skip ?_
                  refine V.blk ?_
                  refine V.seq ?_
                  refine V.region ?_
                  refine AOps.q tt_ok rfl ?_
                  refine AOps.storeBox tt_ok rfl rfl rfl rfl rfl rfl rfl rfl rfl rfl rfl ?_
                  refine AOps.nil ?_
                  obtain rfl := someE H
                  refine V.retP tt_ok rfl (ps := [(.agg [(pint 0), (pint 0), (.str [])])]) ⟨_, _, rfl, ⟨_, _, _, _, _, rfl, rfl, rfl, rfl⟩, rfl⟩ (PLe.of_eq rfl)
            · have H := condF h H
              refine V.seq ?_
              refine V.region ?_
              refine AOps.q tt_ok rfl ?_
              obtain ⟨x9, h9, H⟩ := bindE H
              have s9 := W_expr_plain_1 1 l _ h9
              refine AOps.callP (g := 53) rfl rfl rfl Try.call53 (PLeAll.refl _ _) s9 rfl ?_
              refine AOps.nil ?_
              refine V.cond rfl (fun h => ?_) (fun h => ?_)
              · have H := condT h H
                refine V.seq ?_
                refine V.draw tt_ok mixed_ok false [0, 1, 2, 3, 4, 5, 6, 7, 8, 9, 10] rfl (by decide +kernel) rfl ?_
                iterate 2 refine DOps.q rfl ?_
                obtain ⟨x12, h12, H⟩ := bindE H
                have k12 := getI_some h12
                refine DOps.idx rfl rfl rfl rfl rfl rfl rfl k12.1 (rowsGetI (fun _ => rfl) k12.2) rfl ?_
                iterate 3 refine DOps.q rfl ?_
                obtain ⟨x16, h16, H⟩ := bindE H
                have k16 := getI_some h16
                refine DOps.idx rfl rfl rfl rfl rfl rfl rfl k16.1 (rowsGetI (fun _ => rfl) k16.2) rfl ?_
                iterate 2 refine DOps.q rfl ?_
                obtain ⟨x19, h19, H⟩ := bindE H
                have s19 := W_expr_number op x12.int x16.int _ h19
                refine DOps.callP (g := 56) rfl rfl rfl rfl Try.call56 (PLeAll.refl _ _) s19 rfl ?_
                refine DOps.storeBox rfl rfl rfl rfl rfl rfl rfl rfl rfl rfl rfl rfl ?_
                refine DOps.nil ?_
                obtain rfl := someE H
                refine V.retP tt_ok rfl (ps := [(.agg [(pint x19.kind), (pint x19.int), (.str x19.text)])]) ⟨_, _, rfl, ⟨_, _, _, _, _, rfl, rfl, rfl, rfl⟩, rfl⟩ (PLe.of_eq rfl)
              · have H := condF h H
                refine V.skip ?_
                refine V.blk ?_
                refine V.seq ?_
                refine V.region ?_
                refine AOps.q tt_ok rfl ?_
                refine AOps.storeBox tt_ok rfl rfl rfl rfl rfl rfl rfl rfl rfl rfl rfl ?_
                refine AOps.nil ?_
                obtain rfl := someE H
                refine V.retP tt_ok rfl (ps := [(.agg [(pint 0), (pint 0), (.str [])])]) ⟨_, _, rfl, ⟨_, _, _, _, _, rfl, rfl, rfl, rfl⟩, rfl⟩ (PLe.of_eq rfl)

noncomputable def L_stemkeep3_env_1 (x : LVal) : Bool :=
  letP (validV x) fun x4 =>
  (!x4)

set_option maxHeartbeats 4000000 in
theorem W_stemkeep3_env_1 (x : LVal) :
    PFun Try.prog 35 [(.agg (encVal x))] (pbool (L_stemkeep3_env_1 x)) := by
  obtain ⟨r, H⟩ : ∃ r, L_stemkeep3_env_1 x = r := ⟨_, rfl⟩
  rw [H]
  unfold L_stemkeep3_env_1 at H
  refine PCallsH.intro Try.func35 rfl Try.ntmps35 rfl ?_
  refine V.seq ?_
  refine V.region ?_
  refine AOps.boxF rfl rfl rfl rfl rfl rfl ?_
  refine AOps.q tt_ok rfl ?_
  refine AOps.nil ?_
  refine V.seq ?_
  refine V.region ?_
  refine AOps.q tt_ok rfl ?_
  obtain ⟨x4, h4, H⟩ := letE H
  have s4 := validV_spec x
  rw [h4] at s4
  refine AOps.callP (g := 9) rfl rfl rfl Try.call9 (PLeAll.refl _ _) s4 rfl ?_
  iterate 2 refine AOps.q tt_ok rfl ?_
  refine AOps.nil ?_
  subst H
  refine V.retP tt_ok rfl (ps := [(pbool (!x4))]) ⟨_, _, rfl, rfl, rfl⟩ (PLe.of_eq rfl)

noncomputable def L_slices_IndexFunc_api_Row_api_Value (sA : List LVal) (f : LVal → Option (Bool)) : Option (Int) :=
  bindP (rangeM (σ := Unit) (ρ := (Int)) (fun (j1 : Nat) (x1 : LVal) (_ : Unit) =>
    bindP (f x1) fun x16 =>
    cond x16
      (some (.ret (j1 : Int)))
      (some (.next ()))) 0 sA ()) fun fl1 => fl1.thenR fun (_ : Unit) =>
  some (-1)

set_option maxHeartbeats 4000000 in
theorem W_slices_IndexFunc_api_Row_api_Value {g_f : FuncId} {caps_f : List PV} (sA : List LVal) (f : LVal → Option (Bool)) (hg_f : ∀ (vs : Array Value) (w : World), (callFunc g_f vs).run Try.prog w = .ok (.enter g_f vs) w) (hp_f : ∀ a0 r, f a0 = some r → PFun Try.prog g_f ((.agg (encVal a0)) :: caps_f) (pbool r)) (r : Int) (H : L_slices_IndexFunc_api_Row_api_Value sA f = some r) :
    PFun Try.prog 38 [(.list 23 (sA.map encVal)), (.fn g_f caps_f)] (pint r) := by
  unfold L_slices_IndexFunc_api_Row_api_Value at H
  refine PCallsH.intro Try.func38 rfl Try.ntmps38 rfl ?_
  refine V.seq ?_
  refine V.region ?_
  refine AOps.q tt_ok rfl ?_
  refine AOps.nil ?_
  iterate 2 refine V.seq ?_
  refine V.region ?_
  refine AOps.q tt_ok rfl ?_
  refine AOps.lenL tt_ok rfl rfl rfl rfl rfl (List.length_map _) rfl ?_
  refine AOps.q tt_ok rfl ?_
  refine AOps.nil ?_
  obtain ⟨fl1, H1, Hp1⟩ := bindE H
  refine V.lenF tt_ok 0 rfl rfl (fun hz1 _ => ?_)
  rw [List.length_map] at hz1
  refine V.cut (τ := Unit) (γ := Unit) (fun s1 g1 => ⟨19, fun _ => .any, fun _ => none, fun _ => none⟩) (fun t => fl1 = .next t) ?_ (fun s1 g1 hn1 => ?_)
  · refine V.block ?_
    refine V.rangeL (fun j1 s1 g1 => ⟨19, upd (upd (upd (upd (fun _ => .any) 8 (pint (j1 : Int))) 7 (pint (sA.length : Int))) 1 (.fn g_f caps_f)) 0 (.list 23 (sA.map encVal)), fun _ => none, fun _ => none⟩) () H1 (Gh.le (SLe.cons (PLe.of_eq rfl) (SLe.cons (PLe.of_eq rfl) (SLe.cons (PLe.of_eq rfl) (SLe.cons (PLe.of_eq rfl) SLe.nil)))) BLe.nil OLe.nil) (fun j1 s1 g1 hj1 hr1 => ?_)
    refine V.seq ?_
    refine V.region ?_
    refine AOps.q tt_ok rfl ?_
    refine AOps.nil ?_
    refine V.seq ?_
    refine V.cond rfl (fun h => ?_) (fun h => ?_)
    · have hl1 := rowsLt h
      obtain ⟨x1, fb1, hx1, H, hg1⟩ := rangeM_cons hl1 hr1
      refine V.skip ?_
      refine V.seq ?_
      refine V.block ?_
      refine V.seq ?_
      refine V.region ?_
      iterate 2 refine AOps.q tt_ok rfl ?_
      refine AOps.nil ?_
      refine V.seq ?_
      refine V.region ?_
      iterate 3 refine AOps.q tt_ok rfl ?_
      refine AOps.idx tt_ok rfl rfl rfl rfl rfl rfl (Int.natCast_nonneg j1) (rowsGet (fun _ => rfl) hx1) rfl ?_
      refine AOps.q tt_ok rfl ?_
      obtain ⟨x16, h16, H⟩ := bindE H
      refine AOps.callP rfl rfl rfl hg_f (PLeAll.refl _ _) (hp_f _ _ h16) rfl ?_
      refine AOps.nil ?_
      refine V.cond rfl (fun h => ?_) (fun h => ?_)
      · have H := condT h H
        refine V.seq ?_
        refine V.region ?_
        iterate 2 refine AOps.q tt_ok rfl ?_
        refine AOps.nil ?_
        obtain rfl := someE H
        have e1 : fl1 = .ret _ := hg1
        subst e1
        obtain rfl := thenR_ret Hp1
        refine V.retP tt_ok rfl (ps := [(pint (j1 : Int))]) ⟨_, _, rfl, rfl, rfl⟩ (PLe.of_eq rfl)
      · have H := condF h H
        refine V.skip ?_
        refine V.blk ?_
        refine V.region ?_
        iterate 2 refine AOps.q tt_ok rfl ?_
        refine AOps.nil ?_
        obtain rfl := someE H
        refine V.againL () () ⟨hl1, hg1⟩ (Gh.le (SLe.cons (PLe.of_eq rfl) (SLe.cons (PLe.of_eq rfl) (SLe.cons (PLe.of_eq rfl) (SLe.cons (PLe.of_eq (pint_succ (by omega))) SLe.nil)))) BLe.nil OLe.nil)
    · have hn1 := rangeM_done (rowsGe h) hr1
      refine V.exit rfl ?_
      refine V.at s1 g1 hn1 (Gh.le SLe.nil BLe.nil OLe.nil)
  · have H := thenR_next hn1 Hp1
    refine V.seq ?_
    refine V.region ?_
    refine AOps.q tt_ok rfl ?_
    refine AOps.nil ?_
    obtain rfl := someE H
    refine V.retP tt_ok rfl (ps := [(pint (-1))]) ⟨_, _, rfl, rfl, rfl⟩ (PLe.of_eq rfl)
theorem N_L_slices_IndexFunc_api_Row_api_Value (xs : List LVal) (q : LVal → Bool) : L_slices_IndexFunc_api_Row_api_Value xs (fun a => some (q a)) = some (idxOf q xs) := by
  unfold L_slices_IndexFunc_api_Row_api_Value
  rw [rangeM_find q (fun j _ => (j : Int)) xs 0 (fun k x hk => by simp only [bindP_some]; cases q x <;> simp)]
  simp only [idxOf, Nat.zero_add]
  cases h : xs.findIdx? q with
  | none => rfl
  | some i =>
    obtain ⟨hi, _⟩ := List.findIdx?_eq_some_iff_getElem.1 h
    simp [hi]

noncomputable def L_slices_ContainsFunc_api_Row_api_Value (sA : List LVal) (f : LVal → Option (Bool)) : Option (Bool) :=
  bindP (L_slices_IndexFunc_api_Row_api_Value sA f) fun x7 =>
  some (decide (x7 ≥ (0 : Int)))

set_option maxHeartbeats 4000000 in
theorem W_slices_ContainsFunc_api_Row_api_Value {g_f : FuncId} {caps_f : List PV} (sA : List LVal) (f : LVal → Option (Bool)) (hg_f : ∀ (vs : Array Value) (w : World), (callFunc g_f vs).run Try.prog w = .ok (.enter g_f vs) w) (hp_f : ∀ a0 r, f a0 = some r → PFun Try.prog g_f ((.agg (encVal a0)) :: caps_f) (pbool r)) (r : Bool) (H : L_slices_ContainsFunc_api_Row_api_Value sA f = some r) :
    PFun Try.prog 19 [(.list 23 (sA.map encVal)), (.fn g_f caps_f)] (pbool r) := by
  unfold L_slices_ContainsFunc_api_Row_api_Value at H
  refine PCallsH.intro Try.func19 rfl Try.ntmps19 rfl ?_
  refine V.seq ?_
  refine V.region ?_
  refine AOps.q tt_ok rfl ?_
  refine AOps.nil ?_
  refine V.seq ?_
  refine V.region ?_
  iterate 2 refine AOps.q tt_ok rfl ?_
  obtain ⟨x7, h7, H⟩ := bindE H
  have s7 := W_slices_IndexFunc_api_Row_api_Value sA f hg_f hp_f _ h7
  refine AOps.callP (g := 38) rfl rfl rfl Try.call38 (PLeAll.refl _ _) s7 rfl ?_
  iterate 2 refine AOps.q tt_ok rfl ?_
  refine AOps.nil ?_
  obtain rfl := someE H
  refine V.retP tt_ok rfl (ps := [(pbool (decide (x7 ≥ (0 : Int))))]) ⟨_, _, rfl, rfl, rfl⟩ (PLe.of_eq rfl)
theorem N_L_slices_ContainsFunc_api_Row_api_Value (xs : List LVal) (q : LVal → Bool) : L_slices_ContainsFunc_api_Row_api_Value xs (fun a => some (q a)) = some (xs.any q) := by
  unfold L_slices_ContainsFunc_api_Row_api_Value
  rw [N_L_slices_IndexFunc_api_Row_api_Value, bindP_some, idxOf_any]

noncomputable def L_stemkeep3_env (row : List LVal) (args : List LVal) : Option (LEnv × Bool) :=
  bindP (rangeM (σ := List LCol) (ρ := Empty) (fun (j1 : Nat) (x1 : LVal) (s1 : List LCol) =>
    bindP (catS ([99] : List UInt8) ([(u8of (IntKind.i64.wrap ((48 : Int) + (Int.tmod (j1 : Int) (10 : Int)))))] : List UInt8)) fun (x28 : List UInt8) =>
    bindP (appI 32 s1 ([(LCol.mk x28 x1.kind (x1.kind == (0 : Int)))] : List LCol)) fun (x36 : List LCol) =>
    some (.next x36)) 0 row []) fun fl1 => fl1.thenP fun (s1 : List LCol) =>
  cond (decide ((row.length : Int) ≤ (10 : Int)))
    (cond (decide ((args.length : Int) ≤ (20 : Int)))
      (bindP (L_slices_ContainsFunc_api_Row_api_Value row (fun a0 => some (L_stemkeep3_env_1 a0))) fun x51 =>
      cond (!x51)
        (bindP (L_slices_ContainsFunc_Lapi_Value_api_Value args (fun a0 => some (L_stemkeep3_env_1 a0))) fun x57 =>
        some ((LEnv.mk s1 row args [] []), (!x57)))
        (some ((LEnv.mk s1 row args [] []), false)))
      (some ((LEnv.mk s1 row args [] []), false)))
    (some ((LEnv.mk s1 row args [] []), false))

set_option maxHeartbeats 4000000 in
theorem W_stemkeep3_env (row : List LVal) (args : List LVal) (r : LEnv × Bool) (H : L_stemkeep3_env row args = some r) :
    PFun Try.prog 14 [(.list 23 (row.map encVal)), (.list 23 (args.map encVal))] (.tup [(.agg (encEnv r.1)), (pbool r.2)]) := by
  unfold L_stemkeep3_env at H
  refine PCallsH.intro Try.func14 rfl Try.ntmps14 rfl ?_
  refine V.seq ?_
  refine V.region ?_
  refine AOps.alloc tt_ok rfl rfl rfl rfl rfl rfl fun b4 => ?_
  refine AOps.q tt_ok rfl ?_
  refine AOps.nil ?_
  refine V.seq ?_
  refine V.region ?_
  iterate 3 refine AOps.q tt_ok rfl ?_
  refine AOps.alloc tt_ok rfl rfl rfl rfl rfl rfl fun b6 => ?_
  refine AOps.storeBox tt_ok rfl rfl rfl rfl rfl rfl rfl rfl rfl rfl rfl ?_
  refine AOps.nil ?_
  iterate 2 refine V.seq ?_
  refine V.region ?_
  refine AOps.q tt_ok rfl ?_
  refine AOps.lenL tt_ok rfl rfl rfl rfl rfl (List.length_map _) rfl ?_
  refine AOps.q tt_ok rfl ?_
  refine AOps.nil ?_
  obtain ⟨fl1, H1, Hp1⟩ := bindE H
  refine V.lenF tt_ok 13 rfl rfl (fun hz1 _ => ?_)
  rw [List.length_map] at hz1
  refine V.cut (τ := List LCol) (γ := OwnRef) (fun s1 g1 => ⟨60, upd (upd (upd (upd (fun _ => .any) 6 (.box 6 b6 0)) 4 (.box 4 b4 0)) 1 (.list 23 (args.map encVal))) 0 (.list 23 (row.map encVal)), upd (upd (fun _ => none) 6 (some ⟨b6, [(.own 36 g1 (s1.map encCol).length), (.list 23 (row.map encVal)), (.list 23 (args.map encVal)), (.val (.slice none 0 0)), (.val (.slice none 0 0))]⟩)) 4 (some ⟨b4, [(.val (.slice none 0 0)), (.val (.slice none 0 0)), (.val (.slice none 0 0)), (.val (.slice none 0 0)), (.val (.slice none 0 0))]⟩), upd (fun _ => none) 36 (some ⟨g1, 46, (s1.map encCol), true⟩)⟩) (fun t => fl1 = .next t) ?_ (fun s1 g1 hn1 => ?_)
  · refine V.block ?_
    refine V.nilOB tt_ok 6 0 36 (e := 46) rfl rfl rfl rfl ?_
    refine V.rangeL (fun j1 s1 g1 => ⟨60, upd (upd (upd (upd (upd (upd (upd (fun _ => .any) 15 (pint (j1 : Int))) 14 (pint (row.length : Int))) 13 (.list 23 (row.map encVal))) 6 (.box 6 b6 0)) 4 (.box 4 b4 0)) 1 (.list 23 (args.map encVal))) 0 (.list 23 (row.map encVal)), upd (upd (fun _ => none) 6 (some ⟨b6, [(.own 36 g1 (s1.map encCol).length), (.list 23 (row.map encVal)), (.list 23 (args.map encVal)), (.val (.slice none 0 0)), (.val (.slice none 0 0))]⟩)) 4 (some ⟨b4, [(.val (.slice none 0 0)), (.val (.slice none 0 0)), (.val (.slice none 0 0)), (.val (.slice none 0 0)), (.val (.slice none 0 0))]⟩), upd (fun _ => none) 36 (some ⟨g1, 46, (s1.map encCol), true⟩)⟩) (⟨none, 0⟩) H1 (Gh.le (SLe.cons (PLe.of_eq rfl) (SLe.cons (PLe.of_eq rfl) (SLe.cons (PLe.of_eq rfl) (SLe.cons (PLe.of_eq rfl) (SLe.cons (PLe.of_eq rfl) (SLe.cons (PLe.of_eq rfl) (SLe.cons (PLe.of_eq rfl) SLe.nil))))))) (BLe.cons rfl (PLeAll.refl _ _) (BLe.cons rfl (PLeAll.refl _ _) BLe.nil)) (OLe.cons rfl OLe.nil)) (fun j1 s1 g1 hj1 hr1 => ?_)
    refine V.seq ?_
    refine V.region ?_
    refine AOps.q tt_ok rfl ?_
    refine AOps.nil ?_
    refine V.seq ?_
    refine V.cond rfl (fun h => ?_) (fun h => ?_)
    · have hl1 := rowsLt h
      obtain ⟨x1, fb1, hx1, H, hg1⟩ := rangeM_cons hl1 hr1
      refine V.skip ?_
      refine V.seq ?_
      refine V.block ?_
      refine V.seq ?_
      refine V.region ?_
      refine AOps.q tt_ok rfl ?_
      refine AOps.idx tt_ok rfl rfl rfl rfl rfl rfl (Int.natCast_nonneg j1) (rowsGet (fun _ => rfl) hx1) rfl ?_
      refine AOps.q tt_ok rfl ?_
      refine AOps.alloc tt_ok rfl rfl rfl rfl rfl rfl fun b8 => ?_
      refine AOps.q tt_ok rfl ?_
      refine AOps.storeBox tt_ok rfl rfl rfl rfl rfl rfl rfl rfl rfl rfl rfl ?_
      refine AOps.nil ?_
      refine V.region ?_
      refine AOps.q tt_ok rfl ?_
      refine AOps.loadBox tt_ok rfl rfl rfl rfl rfl rfl rfl ?_
      iterate 3 refine AOps.q tt_ok rfl ?_
      refine AOps.toU8 tt_ok rfl rfl rfl rfl rfl rfl rfl ?_
      refine AOps.bsC tt_ok rfl rfl rfl rfl (rows' := List.map rU8 ([(u8of (IntKind.i64.wrap ((48 : Int) + (Int.tmod (j1 : Int) (10 : Int)))))] : List UInt8)) rfl (PLe2Rows.refl _) rfl rfl ?_
      refine AOps.b2s (xs := ([(u8of (IntKind.i64.wrap ((48 : Int) + (Int.tmod (j1 : Int) (10 : Int)))))] : List UInt8)) tt_ok rfl rfl rfl rfl rfl rfl rfl rfl rfl (by simp [maxStr]) rfl ?_
      obtain ⟨x28, h28, H⟩ := bindE H
      have k28 := catS_some h28
      refine AOps.catC tt_ok rfl rfl rfl rfl k28.1 k28.2 rfl ?_
      refine AOps.q tt_ok rfl ?_
      refine AOps.loadBox tt_ok rfl rfl rfl rfl rfl rfl rfl ?_
      refine AOps.q tt_ok rfl ?_
      refine AOps.loadBox tt_ok rfl rfl rfl rfl rfl rfl rfl ?_
      iterate 2 refine AOps.q tt_ok rfl ?_
      refine AOps.bsC tt_ok rfl rfl rfl rfl (rows' := List.map encCol ([(LCol.mk x28 x1.kind (x1.kind == (0 : Int)))] : List LCol)) rfl (PLe2Rows.refl _) rfl rfl ?_
      obtain ⟨x36, h36, H⟩ := bindE H
      have k36 := appI_some h36
      refine AOps.appendC (rows2' := List.map encCol ([(LCol.mk x28 x1.kind (x1.kind == (0 : Int)))] : List LCol)) (rows' := List.map encCol x36) tt_ok rfl rfl rfl rfl rfl rfl rfl rfl rfl rfl rfl rfl rfl (PLe2Rows.refl _) (appI_by k36.1) (appI_mx k36.2.1) (appI_eq k36.2.2) fun g36 => ?_
      refine AOps.q tt_ok rfl ?_
      refine AOps.storeBox tt_ok rfl rfl rfl rfl rfl rfl rfl rfl rfl rfl rfl ?_
      refine AOps.nil ?_
      refine V.blk ?_
      refine V.region ?_
      iterate 2 refine AOps.q tt_ok rfl ?_
      refine AOps.nil ?_
      obtain rfl := someE H
      refine V.againL x36 g36 ⟨hl1, hg1⟩ (Gh.le (SLe.cons (PLe.of_eq rfl) (SLe.cons (PLe.of_eq rfl) (SLe.cons (PLe.of_eq rfl) (SLe.cons (PLe.of_eq rfl) (SLe.cons (PLe.of_eq rfl) (SLe.cons (PLe.of_eq rfl) (SLe.cons (PLe.of_eq (pint_succ (by omega))) SLe.nil))))))) (BLe.cons rfl (PLeAll.refl _ _) (BLe.cons rfl (PLeAll.refl _ _) BLe.nil)) (OLe.cons rfl OLe.nil))
    · have hn1 := rangeM_done (rowsGe h) hr1
      refine V.exit rfl ?_
      refine V.at s1 g1 hn1 (Gh.le (SLe.cons (PLe.of_eq rfl) (SLe.cons (PLe.of_eq rfl) (SLe.cons (PLe.of_eq rfl) (SLe.cons (PLe.of_eq rfl) SLe.nil)))) (BLe.cons rfl (PLeAll.refl _ _) (BLe.cons rfl (PLeAll.refl _ _) BLe.nil)) (OLe.cons rfl OLe.nil))
  · have H := thenP_next hn1 Hp1
    refine V.seq ?_
    refine V.region ?_
    refine AOps.q tt_ok rfl ?_
    refine AOps.nil ?_
    refine V.seq ?_
    refine V.draw tt_ok mixed_ok true [0, 1, 2, 3, 4, 5, 6, 7, 8, 9, 10, 11, 12, 13, 14, 15, 16, 17, 18, 19, 20, 21, 22] rfl (by decide +kernel) rfl ?_
    refine DOps.loadBox rfl rfl rfl rfl rfl rfl rfl rfl rfl ?_
    refine DOps.q rfl ?_
    refine DOps.lenL rfl rfl rfl rfl rfl rfl (List.length_map _) rfl ?_
    iterate 2 refine DOps.q rfl ?_
    refine DOps.split rfl rfl rfl rfl (fun h => ?_) (fun h => ?_)
    · have H := condT h H
      refine DOps.q rfl ?_
      refine DOps.lenL rfl rfl rfl rfl rfl rfl (List.length_map _) rfl ?_
      iterate 3 refine DOps.q rfl ?_
      refine DOps.split rfl rfl rfl rfl (fun h => ?_) (fun h => ?_)
      · have H := condT h H
        iterate 2 refine DOps.q rfl ?_
        obtain ⟨x51, h51, H⟩ := bindE H
        have s51 := W_slices_ContainsFunc_api_Row_api_Value row (fun a0 => some (L_stemkeep3_env_1 a0)) Try.call35 (fun a0 r h => (someE h) ▸ W_stemkeep3_env_1 a0) _ h51
        refine DOps.callP (g := 19) rfl rfl rfl rfl Try.call19 (PLeAll.refl _ _) s51 rfl ?_
        iterate 3 refine DOps.q rfl ?_
        refine DOps.split rfl rfl rfl rfl (fun h => ?_) (fun h => ?_)
        · have H := condT h H
          iterate 2 refine DOps.q rfl ?_
          obtain ⟨x57, h57, H⟩ := bindE H
          have s57 := W_slices_ContainsFunc_Lapi_Value_api_Value args (fun a0 => some (L_stemkeep3_env_1 a0)) Try.call35 (fun a0 r h => (someE h) ▸ W_stemkeep3_env_1 a0) _ h57
          refine DOps.callP (g := 36) rfl rfl rfl rfl Try.call36 (PLeAll.refl _ _) s57 rfl ?_
          iterate 2 refine DOps.q rfl ?_
          refine DOps.storeBox rfl rfl rfl rfl rfl rfl rfl rfl rfl rfl rfl rfl ?_
          refine DOps.q rfl ?_
          refine DOps.nil ?_
          obtain rfl := someE H
          refine V.freezeOB 4 0 rfl rfl rfl rfl rfl ?_
          refine V.retP tt_ok rfl (ps := [(.agg [(.list 46 (s1.map encCol)), (.list 23 (row.map encVal)), (.list 23 (args.map encVal)), (.val (.slice none 0 0)), (.val (.slice none 0 0))]), (pbool (!x57))]) ⟨_, _, rfl, ⟨_, _, _, _, _, rfl, rfl, rfl, rfl⟩, _, _, rfl, rfl, rfl⟩ (PLe.of2 (PLe2.tup (PLe2All.cons (PLe2.agg (PLe2All.cons (PLe2.of_eq rfl) (PLe2All.cons (PLe2.of_eq rfl) (PLe2All.cons (PLe2.of_eq rfl) (PLe2All.cons (PLe2.nil tt_ok rfl) (PLe2All.cons (PLe2.nil tt_ok rfl) PLe2All.nil)))))) (PLe2All.cons (PLe2.of_eq rfl) PLe2All.nil))))
        · have H := condF h H
          iterate 5 refine DOps.q rfl ?_
          refine DOps.storeBox rfl rfl rfl rfl rfl rfl rfl rfl rfl rfl rfl rfl ?_
          refine DOps.q rfl ?_
          refine DOps.nil ?_
          obtain rfl := someE H
          refine V.freezeOB 4 0 rfl rfl rfl rfl rfl ?_
          refine V.retP tt_ok rfl (ps := [(.agg [(.list 46 (s1.map encCol)), (.list 23 (row.map encVal)), (.list 23 (args.map encVal)), (.val (.slice none 0 0)), (.val (.slice none 0 0))]), (pbool false)]) ⟨_, _, rfl, ⟨_, _, _, _, _, rfl, rfl, rfl, rfl⟩, _, _, rfl, rfl, rfl⟩ (PLe.of2 (PLe2.tup (PLe2All.cons (PLe2.agg (PLe2All.cons (PLe2.of_eq rfl) (PLe2All.cons (PLe2.of_eq rfl) (PLe2All.cons (PLe2.of_eq rfl) (PLe2All.cons (PLe2.nil tt_ok rfl) (PLe2All.cons (PLe2.nil tt_ok rfl) PLe2All.nil)))))) (PLe2All.cons (PLe2.of_eq rfl) PLe2All.nil))))
      · have H := condF h H
        iterate 11 refine DOps.q rfl ?_
        refine DOps.storeBox rfl rfl rfl rfl rfl rfl rfl rfl rfl rfl rfl rfl ?_
        refine DOps.q rfl ?_
        refine DOps.nil ?_
        obtain rfl := someE H
        refine V.freezeOB 4 0 rfl rfl rfl rfl rfl ?_
        refine V.retP tt_ok rfl (ps := [(.agg [(.list 46 (s1.map encCol)), (.list 23 (row.map encVal)), (.list 23 (args.map encVal)), (.val (.slice none 0 0)), (.val (.slice none 0 0))]), (pbool false)]) ⟨_, _, rfl, ⟨_, _, _, _, _, rfl, rfl, rfl, rfl⟩, _, _, rfl, rfl, rfl⟩ (PLe.of2 (PLe2.tup (PLe2All.cons (PLe2.agg (PLe2All.cons (PLe2.of_eq rfl) (PLe2All.cons (PLe2.of_eq rfl) (PLe2All.cons (PLe2.of_eq rfl) (PLe2All.cons (PLe2.nil tt_ok rfl) (PLe2All.cons (PLe2.nil tt_ok rfl) PLe2All.nil)))))) (PLe2All.cons (PLe2.of_eq rfl) PLe2All.nil))))
    · have H := condF h H
      iterate 16 refine DOps.q rfl ?_
      refine DOps.storeBox rfl rfl rfl rfl rfl rfl rfl rfl rfl rfl rfl rfl ?_
      refine DOps.q rfl ?_
      refine DOps.nil ?_
      obtain rfl := someE H
      refine V.freezeOB 4 0 rfl rfl rfl rfl rfl ?_
      refine V.retP tt_ok rfl (ps := [(.agg [(.list 46 (s1.map encCol)), (.list 23 (row.map encVal)), (.list 23 (args.map encVal)), (.val (.slice none 0 0)), (.val (.slice none 0 0))]), (pbool false)]) ⟨_, _, rfl, ⟨_, _, _, _, _, rfl, rfl, rfl, rfl⟩, _, _, rfl, rfl, rfl⟩ (PLe.of2 (PLe2.tup (PLe2All.cons (PLe2.agg (PLe2All.cons (PLe2.of_eq rfl) (PLe2All.cons (PLe2.of_eq rfl) (PLe2All.cons (PLe2.of_eq rfl) (PLe2All.cons (PLe2.nil tt_ok rfl) (PLe2All.cons (PLe2.nil tt_ok rfl) PLe2All.nil)))))) (PLe2All.cons (PLe2.of_eq rfl) PLe2All.nil))))

noncomputable def L_slices_IndexFunc_Lexpr_Expr_expr_Expr (sA : List LExpr) (f : LExpr → Option (Bool)) : Option (Int) :=
  bindP (rangeM (σ := Unit) (ρ := (Int)) (fun (j1 : Nat) (x1 : LExpr) (_ : Unit) =>
    bindP (f x1) fun x16 =>
    cond x16
      (some (.ret (j1 : Int)))
      (some (.next ()))) 0 sA ()) fun fl1 => fl1.thenR fun (_ : Unit) =>
  some (-1)

set_option maxHeartbeats 4000000 in
theorem W_slices_IndexFunc_Lexpr_Expr_expr_Expr {g_f : FuncId} {caps_f : List PV} (sA : List LExpr) (f : LExpr → Option (Bool)) (hg_f : ∀ (vs : Array Value) (w : World), (callFunc g_f vs).run Try.prog w = .ok (.enter g_f vs) w) (hp_f : ∀ a0 r, f a0 = some r → PFun Try.prog g_f ((.agg (encE a0)) :: caps_f) (pbool r)) (r : Int) (H : L_slices_IndexFunc_Lexpr_Expr_expr_Expr sA f = some r) :
    PFun Try.prog 37 [(.list 35 (sA.map encExpr)), (.fn g_f caps_f)] (pint r) := by
  unfold L_slices_IndexFunc_Lexpr_Expr_expr_Expr at H
  refine PCallsH.intro Try.func37 rfl Try.ntmps37 rfl ?_
  refine V.seq ?_
  refine V.region ?_
  refine AOps.q tt_ok rfl ?_
  refine AOps.nil ?_
  iterate 2 refine V.seq ?_
  refine V.region ?_
  refine AOps.q tt_ok rfl ?_
  refine AOps.lenL tt_ok rfl rfl rfl rfl rfl (List.length_map _) rfl ?_
  refine AOps.q tt_ok rfl ?_
  refine AOps.nil ?_
  obtain ⟨fl1, H1, Hp1⟩ := bindE H
  refine V.lenF tt_ok 0 rfl rfl (fun hz1 _ => ?_)
  rw [List.length_map] at hz1
  refine V.cut (τ := Unit) (γ := Unit) (fun s1 g1 => ⟨19, fun _ => .any, fun _ => none, fun _ => none⟩) (fun t => fl1 = .next t) ?_ (fun s1 g1 hn1 => ?_)
  · refine V.block ?_
    refine V.rangeL (fun j1 s1 g1 => ⟨19, upd (upd (upd (upd (fun _ => .any) 8 (pint (j1 : Int))) 7 (pint (sA.length : Int))) 1 (.fn g_f caps_f)) 0 (.list 35 (sA.map encExpr)), fun _ => none, fun _ => none⟩) () H1 (Gh.le (SLe.cons (PLe.of_eq rfl) (SLe.cons (PLe.of_eq rfl) (SLe.cons (PLe.of_eq rfl) (SLe.cons (PLe.of_eq rfl) SLe.nil)))) BLe.nil OLe.nil) (fun j1 s1 g1 hj1 hr1 => ?_)
    refine V.seq ?_
    refine V.region ?_
    refine AOps.q tt_ok rfl ?_
    refine AOps.nil ?_
    refine V.seq ?_
    refine V.cond rfl (fun h => ?_) (fun h => ?_)
    · have hl1 := rowsLt h
      obtain ⟨x1, fb1, hx1, H, hg1⟩ := rangeM_cons hl1 hr1
      refine V.skip ?_
      refine V.seq ?_
      refine V.block ?_
      refine V.seq ?_
      refine V.region ?_
      iterate 2 refine AOps.q tt_ok rfl ?_
      refine AOps.nil ?_
      refine V.seq ?_
      refine V.region ?_
      iterate 3 refine AOps.q tt_ok rfl ?_
      refine AOps.idx tt_ok rfl rfl rfl rfl rfl rfl (Int.natCast_nonneg j1) (rowsGet encExpr_eq hx1) rfl ?_
      refine AOps.q tt_ok rfl ?_
      obtain ⟨x16, h16, H⟩ := bindE H
      refine AOps.callP rfl rfl rfl hg_f (PLeAll.refl _ _) (hp_f _ _ h16) rfl ?_
      refine AOps.nil ?_
      refine V.cond rfl (fun h => ?_) (fun h => ?_)
      · have H := condT h H
        refine V.seq ?_
        refine V.region ?_
        iterate 2 refine AOps.q tt_ok rfl ?_
        refine AOps.nil ?_
        obtain rfl := someE H
        have e1 : fl1 = .ret _ := hg1
        subst e1
        obtain rfl := thenR_ret Hp1
        refine V.retP tt_ok rfl (ps := [(pint (j1 : Int))]) ⟨_, _, rfl, rfl, rfl⟩ (PLe.of_eq rfl)
      · have H := condF h H
        refine V.skip ?_
        refine V.blk ?_
        refine V.region ?_
        iterate 2 refine AOps.q tt_ok rfl ?_
        refine AOps.nil ?_
        obtain rfl := someE H
        refine V.againL () () ⟨hl1, hg1⟩ (Gh.le (SLe.cons (PLe.of_eq rfl) (SLe.cons (PLe.of_eq rfl) (SLe.cons (PLe.of_eq rfl) (SLe.cons (PLe.of_eq (pint_succ (by omega))) SLe.nil)))) BLe.nil OLe.nil)
    · have hn1 := rangeM_done (rowsGe h) hr1
      refine V.exit rfl ?_
      refine V.at s1 g1 hn1 (Gh.le SLe.nil BLe.nil OLe.nil)
  · have H := thenR_next hn1 Hp1
    refine V.seq ?_
    refine V.region ?_
    refine AOps.q tt_ok rfl ?_
    refine AOps.nil ?_
    obtain rfl := someE H
    refine V.retP tt_ok rfl (ps := [(pint (-1))]) ⟨_, _, rfl, rfl, rfl⟩ (PLe.of_eq rfl)
theorem N_L_slices_IndexFunc_Lexpr_Expr_expr_Expr (xs : List LExpr) (q : LExpr → Bool) : L_slices_IndexFunc_Lexpr_Expr_expr_Expr xs (fun a => some (q a)) = some (idxOf q xs) := by
  unfold L_slices_IndexFunc_Lexpr_Expr_expr_Expr
  rw [rangeM_find q (fun j _ => (j : Int)) xs 0 (fun k x hk => by simp only [bindP_some]; cases q x <;> simp)]
  simp only [idxOf, Nat.zero_add]
  cases h : xs.findIdx? q with
  | none => rfl
  | some i =>
    obtain ⟨hi, _⟩ := List.findIdx?_eq_some_iff_getElem.1 h
    simp [hi]

noncomputable def L_slices_ContainsFunc_Lexpr_Expr_expr_Expr (sA : List LExpr) (f : LExpr → Option (Bool)) : Option (Bool) :=
  bindP (L_slices_IndexFunc_Lexpr_Expr_expr_Expr sA f) fun x7 =>
  some (decide (x7 ≥ (0 : Int)))

set_option maxHeartbeats 4000000 in
theorem W_slices_ContainsFunc_Lexpr_Expr_expr_Expr {g_f : FuncId} {caps_f : List PV} (sA : List LExpr) (f : LExpr → Option (Bool)) (hg_f : ∀ (vs : Array Value) (w : World), (callFunc g_f vs).run Try.prog w = .ok (.enter g_f vs) w) (hp_f : ∀ a0 r, f a0 = some r → PFun Try.prog g_f ((.agg (encE a0)) :: caps_f) (pbool r)) (r : Bool) (H : L_slices_ContainsFunc_Lexpr_Expr_expr_Expr sA f = some r) :
    PFun Try.prog 16 [(.list 35 (sA.map encExpr)), (.fn g_f caps_f)] (pbool r) := by
  unfold L_slices_ContainsFunc_Lexpr_Expr_expr_Expr at H
  refine PCallsH.intro Try.func16 rfl Try.ntmps16 rfl ?_
  refine V.seq ?_
  refine V.region ?_
  refine AOps.q tt_ok rfl ?_
  refine AOps.nil ?_
  refine V.seq ?_
  refine V.region ?_
  iterate 2 refine AOps.q tt_ok rfl ?_
  obtain ⟨x7, h7, H⟩ := bindE H
  have s7 := W_slices_IndexFunc_Lexpr_Expr_expr_Expr sA f hg_f hp_f _ h7
  refine AOps.callP (g := 37) rfl rfl rfl Try.call37 (PLeAll.refl _ _) s7 rfl ?_
  iterate 2 refine AOps.q tt_ok rfl ?_
  refine AOps.nil ?_
  obtain rfl := someE H
  refine V.retP tt_ok rfl (ps := [(pbool (decide (x7 ≥ (0 : Int))))]) ⟨_, _, rfl, rfl, rfl⟩ (PLe.of_eq rfl)
theorem N_L_slices_ContainsFunc_Lexpr_Expr_expr_Expr (xs : List LExpr) (q : LExpr → Bool) : L_slices_ContainsFunc_Lexpr_Expr_expr_Expr xs (fun a => some (q a)) = some (xs.any q) := by
  unfold L_slices_ContainsFunc_Lexpr_Expr_expr_Expr
  rw [N_L_slices_IndexFunc_Lexpr_Expr_expr_Expr, bindP_some, idxOf_any]

noncomputable def L_stemkeep3_ExprSubstitutionCommutes_1 (x : LExpr) : Bool :=
  letP (nodesE x 60) fun x4 =>
  (decide (x4 < (0 : Int)))

set_option maxHeartbeats 4000000 in
theorem W_stemkeep3_ExprSubstitutionCommutes_1 (x : LExpr) :
    PFun Try.prog 17 [(.agg (encE x))] (pbool (L_stemkeep3_ExprSubstitutionCommutes_1 x)) := by
  obtain ⟨r, H⟩ : ∃ r, L_stemkeep3_ExprSubstitutionCommutes_1 x = r := ⟨_, rfl⟩
  rw [H]
  unfold L_stemkeep3_ExprSubstitutionCommutes_1 at H
  refine PCallsH.intro Try.func17 rfl Try.ntmps17 rfl ?_
  refine V.seq ?_
  refine V.region ?_
  refine AOps.boxF rfl rfl rfl rfl rfl rfl ?_
  refine AOps.q tt_ok rfl ?_
  refine AOps.nil ?_
  refine V.seq ?_
  refine V.region ?_
  refine AOps.q tt_ok rfl ?_
  obtain ⟨x4, h4, H⟩ := letE H
  have s4 := nodes_spec x 60
  rw [h4] at s4
  refine AOps.callP (g := 15) rfl rfl rfl Try.call15 (PLeAll.refl _ _) s4 rfl ?_
  iterate 2 refine AOps.q tt_ok rfl ?_
  refine AOps.nil ?_
  subst H
  refine V.retP tt_ok rfl (ps := [(pbool (decide (x4 < (0 : Int))))]) ⟨_, _, rfl, rfl, rfl⟩ (PLe.of_eq rfl)

noncomputable def L_slices_Contains_Lstring_string (sA : List (List UInt8)) (v : List UInt8) : Option (Bool) :=
  bindP (L_slices_Index_Lstring_string sA v) fun x7 =>
  some (decide (x7 ≥ (0 : Int)))

set_option maxHeartbeats 4000000 in
theorem W_slices_Contains_Lstring_string (sA : List (List UInt8)) (v : List UInt8) (r : Bool) (H : L_slices_Contains_Lstring_string sA v = some r) :
    PFun Try.prog 18 [(.list 9 (sA.map rStr)), (.str v)] (pbool r) := by
  unfold L_slices_Contains_Lstring_string at H
  refine PCallsH.intro Try.func18 rfl Try.ntmps18 rfl ?_
  refine V.seq ?_
  refine V.region ?_
  refine AOps.q tt_ok rfl ?_
  refine AOps.nil ?_
  refine V.seq ?_
  refine V.region ?_
  iterate 2 refine AOps.q tt_ok rfl ?_
  obtain ⟨x7, h7, H⟩ := bindE H
  have s7 := W_slices_Index_Lstring_string sA v _ h7
  refine AOps.callP (g := 33) rfl rfl rfl Try.call33 (PLeAll.refl _ _) s7 rfl ?_
  iterate 2 refine AOps.q tt_ok rfl ?_
  refine AOps.nil ?_
  obtain rfl := someE H
  refine V.retP tt_ok rfl (ps := [(pbool (decide (x7 ≥ (0 : Int))))]) ⟨_, _, rfl, rfl, rfl⟩ (PLe.of_eq rfl)
theorem N_L_slices_Contains_Lstring_string (xs : List (List UInt8)) (v : (List UInt8)) : L_slices_Contains_Lstring_string xs v = some (xs.any (fun x1 => (v == x1))) := by
  unfold L_slices_Contains_Lstring_string
  rw [N_L_slices_Index_Lstring_string, bindP_some, idxOf_any]

noncomputable def L_stemkeep3_ExprSubstitutionCommutes_2 (x : LVal) : Bool :=
  letP (validV x) fun x4 =>
  (!x4)

set_option maxHeartbeats 4000000 in
theorem W_stemkeep3_ExprSubstitutionCommutes_2 (x : LVal) :
    PFun Try.prog 20 [(.agg (encVal x))] (pbool (L_stemkeep3_ExprSubstitutionCommutes_2 x)) := by
  obtain ⟨r, H⟩ : ∃ r, L_stemkeep3_ExprSubstitutionCommutes_2 x = r := ⟨_, rfl⟩
  rw [H]
  unfold L_stemkeep3_ExprSubstitutionCommutes_2 at H
  refine PCallsH.intro Try.func20 rfl Try.ntmps20 rfl ?_
  refine V.seq ?_
  refine V.region ?_
  refine AOps.boxF rfl rfl rfl rfl rfl rfl ?_
  refine AOps.q tt_ok rfl ?_
  refine AOps.nil ?_
  refine V.seq ?_
  refine V.region ?_
  refine AOps.q tt_ok rfl ?_
  obtain ⟨x4, h4, H⟩ := letE H
  have s4 := validV_spec x
  rw [h4] at s4
  refine AOps.callP (g := 9) rfl rfl rfl Try.call9 (PLeAll.refl _ _) s4 rfl ?_
  iterate 2 refine AOps.q tt_ok rfl ?_
  refine AOps.nil ?_
  subst H
  refine V.retP tt_ok rfl (ps := [(pbool (!x4))]) ⟨_, _, rfl, rfl, rfl⟩ (PLe.of_eq rfl)

theorem grow_39 {m : Nat} {u : Unit} (n : Int) (h : growI 32 n = some u) : PCalls Try.prog 39 [.val (.slice none 0 0), pint n] (OwnR m 46 []) := by
  have hn := growI_some h
  have hw : IntKind.i64.wrap (n - IntKind.i64.wrap ((0 : Int) - 0)) = n := by
    have e0 : IntKind.i64.wrap ((0 : Int) - 0) = 0 := wrap_id (by omega) (by omega)
    rw [e0, Int.sub_zero, wrap_id (by omega) (by unfold maxLen at hn; omega)]
  refine PCallsH.intro Try.func39 rfl Try.ntmps39 rfl ?_
  refine V.seq ?_
  refine V.region ?_
  refine AOps.q tt_ok rfl ?_
  refine AOps.nil ?_
  iterate 2 refine V.seq ?_
  refine V.region ?_
  iterate 2 refine AOps.q tt_ok rfl ?_
  refine AOps.nil ?_
  refine V.cond rfl (fun h => ?_) (fun h => ?_)
  · exfalso; have := of_decide_eq_true h; omega
  refine V.skip ?_
  iterate 2 refine V.seq ?_
  refine V.region ?_
  iterate 2 refine AOps.q tt_ok rfl ?_
  refine AOps.capN tt_ok rfl rfl rfl rfl rfl rfl ?_
  iterate 4 refine AOps.q tt_ok rfl ?_
  refine AOps.cast 14 (q := pint n) rfl (PLe.of_eq (congrArg pint hw)) ?_
  refine AOps.q tt_ok rfl ?_
  refine AOps.nil ?_
  refine V.seq ?_
  refine V.region ?_
  iterate 2 refine AOps.q tt_ok rfl ?_
  refine AOps.nil ?_
  refine V.cond rfl (fun h => ?_) (fun h => ?_)
  · refine V.region ?_
    iterate 2 refine AOps.q tt_ok rfl ?_
    refine AOps.capN tt_ok rfl rfl rfl rfl rfl rfl ?_
    refine AOps.subN tt_ok rfl rfl rfl rfl rfl rfl rfl rfl ?_
    refine AOps.q tt_ok rfl ?_
    refine AOps.appendMakeN tt_ok rfl rfl rfl rfl rfl rfl rfl rfl rfl rfl rfl rfl rfl rfl rfl (of_decide_eq_true h) hn.2.1 hn.2.2 fun g => ?_
    iterate 2 refine AOps.q tt_ok rfl ?_
    refine AOps.cutO tt_ok rfl rfl rfl rfl rfl rfl rfl rfl rfl ⟨Int.le_refl 0, Nat.zero_le _⟩ rfl rfl rfl ?_
    refine AOps.q tt_ok rfl ?_
    refine AOps.nil ?_
    refine V.seq ?_
    refine V.region ?_
    iterate 2 refine AOps.q tt_ok rfl ?_
    refine AOps.nil ?_
    refine V.retO tt_ok rfl rfl rfl rfl rfl
  · refine V.skip ?_
    refine V.seq ?_
    refine V.region ?_
    iterate 2 refine AOps.q tt_ok rfl ?_
    refine AOps.nil ?_
    refine V.nilO tt_ok 4 904 (e := 46) rfl rfl ?_
    refine V.retO tt_ok rfl rfl rfl rfl rfl

noncomputable def L_slices_Concat_Lapi_Column_api_Column (slices : List (List LCol)) : Option ((List LCol)) :=
  bindP (rangeM (σ := Int) (ρ := Empty) (fun (_ : Nat) (x1 : List LCol) (s1 : Int) =>
    cond (decide ((IntKind.i64.wrap (s1 + (x1.length : Int))) < (0 : Int)))
      (none)
      (some (.next (IntKind.i64.wrap (s1 + (x1.length : Int)))))) 0 slices 0) fun fl1 => fl1.thenP fun (s1 : Int) =>
  bindP (growI 32 s1) fun (_ : Unit) =>
  bindP (rangeM (σ := List LCol) (ρ := Empty) (fun (_ : Nat) (x2 : List LCol) (s2 : List LCol) =>
    bindP (appI 32 s2 x2) fun (x33 : List LCol) =>
    some (.next x33)) 0 slices []) fun fl2 => fl2.thenP fun (s2 : List LCol) =>
  some s2

set_option maxHeartbeats 4000000 in
theorem W_slices_Concat_Lapi_Column_api_Column {m : Nat} (slices : List (List LCol)) (r : (List LCol)) (H : L_slices_Concat_Lapi_Column_api_Column slices = some r) :
    PCalls Try.prog 21 [(.list 27 (slices.map (rList 46 encCol)))] (OwnR m 46 (r.map encCol)) := by
  unfold L_slices_Concat_Lapi_Column_api_Column at H
  refine PCallsH.intro Try.func21 rfl Try.ntmps21 rfl ?_
  refine V.seq ?_
  refine V.region ?_
  refine AOps.q tt_ok rfl ?_
  refine AOps.nil ?_
  refine V.seq ?_
  refine V.region ?_
  refine AOps.q tt_ok rfl ?_
  refine AOps.nil ?_
  iterate 2 refine V.seq ?_
  refine V.region ?_
  refine AOps.q tt_ok rfl ?_
  refine AOps.lenL tt_ok rfl rfl rfl rfl rfl (List.length_map _) rfl ?_
  refine AOps.q tt_ok rfl ?_
  refine AOps.nil ?_
  obtain ⟨fl1, H1, Hp1⟩ := bindE H
  refine V.lenF tt_ok 9 rfl rfl (fun hz1 _ => ?_)
  rw [List.length_map] at hz1
  refine V.cut (τ := Int) (γ := Unit) (fun s1 g1 => ⟨36, upd (upd (fun _ => .any) 3 (pint s1)) 0 (.list 27 (slices.map (rList 46 encCol))), fun _ => none, fun _ => none⟩) (fun t => fl1 = .next t) ?_ (fun s1 g1 hn1 => ?_)
  · refine V.block ?_
    refine V.rangeL (fun j1 s1 g1 => ⟨36, upd (upd (upd (upd (upd (fun _ => .any) 11 (pint (j1 : Int))) 10 (pint (slices.length : Int))) 9 (.list 27 (slices.map (rList 46 encCol)))) 3 (pint s1)) 0 (.list 27 (slices.map (rList 46 encCol))), fun _ => none, fun _ => none⟩) () H1 (Gh.le (SLe.cons (PLe.of_eq rfl) (SLe.cons (PLe.of_eq rfl) (SLe.cons (PLe.of_eq rfl) (SLe.cons (PLe.of_eq rfl) (SLe.cons (PLe.of_eq rfl) SLe.nil))))) BLe.nil OLe.nil) (fun j1 s1 g1 hj1 hr1 => ?_)
    refine V.seq ?_
    refine V.region ?_
    refine AOps.q tt_ok rfl ?_
    refine AOps.nil ?_
    refine V.seq ?_
    refine V.cond rfl (fun h => ?_) (fun h => ?_)
    · have hl1 := rowsLt h
      obtain ⟨x1, fb1, hx1, H, hg1⟩ := rangeM_cons hl1 hr1
      refine V.skip ?_
      refine V.seq ?_
      refine V.block ?_
      refine V.seq ?_
      refine V.region ?_
      refine AOps.idx tt_ok rfl rfl rfl rfl rfl rfl (Int.natCast_nonneg j1) (rowsGet (fun _ => rfl) hx1) rfl ?_
      iterate 2 refine AOps.q tt_ok rfl ?_
      refine AOps.nil ?_
      refine V.seq ?_
      refine V.region ?_
      iterate 2 refine AOps.q tt_ok rfl ?_
      refine AOps.lenL tt_ok rfl rfl rfl rfl rfl (List.length_map _) rfl ?_
      iterate 2 refine AOps.q tt_ok rfl ?_
      refine AOps.nil ?_
      refine V.seq ?_
      refine V.region ?_
      iterate 2 refine AOps.q tt_ok rfl ?_
      refine AOps.nil ?_
      refine V.cond rfl (fun h => ?_) (fun h => ?_)
      · have H := condT h H
        cases H
      · have H := condF h H
        refine V.skip ?_
        refine V.blk ?_
        refine V.region ?_
        iterate 2 refine AOps.q tt_ok rfl ?_
        refine AOps.nil ?_
        obtain rfl := someE H
        refine V.againL (IntKind.i64.wrap (s1 + (x1.length : Int))) () ⟨hl1, hg1⟩ (Gh.le (SLe.cons (PLe.of_eq rfl) (SLe.cons (PLe.of_eq rfl) (SLe.cons (PLe.of_eq rfl) (SLe.cons (PLe.of_eq rfl) (SLe.cons (PLe.of_eq (pint_succ (by omega))) SLe.nil))))) BLe.nil OLe.nil)
    · have hn1 := rangeM_done (rowsGe h) hr1
      refine V.exit rfl ?_
      refine V.at s1 g1 hn1 (Gh.le (SLe.cons (PLe.of_eq rfl) (SLe.cons (PLe.of_eq rfl) SLe.nil)) BLe.nil OLe.nil)
  · have H := thenP_next hn1 Hp1
    refine V.seq ?_
    refine V.region ?_
    refine AOps.q tt_ok rfl ?_
    obtain ⟨_, h24, H⟩ := bindE H
    have s24 := grow_39 (m := 24) s1 h24
    refine AOps.callO (g := 39) rfl rfl rfl Try.call39 (PLeAll.refl _ _) rfl rfl s24 (fun g24 => ?_)
    refine AOps.q tt_ok rfl ?_
    refine AOps.nil ?_
    iterate 2 refine V.seq ?_
    refine V.region ?_
    refine AOps.q tt_ok rfl ?_
    refine AOps.lenL tt_ok rfl rfl rfl rfl rfl (List.length_map _) rfl ?_
    refine AOps.q tt_ok rfl ?_
    refine AOps.nil ?_
    obtain ⟨fl2, H2, Hp2⟩ := bindE H
    refine V.lenF tt_ok 25 rfl rfl (fun hz2 _ => ?_)
    rw [List.length_map] at hz2
    refine V.cut (τ := List LCol) (γ := OwnRef) (fun s2 g2 => ⟨36, upd (fun _ => .any) 6 (.own 24 g2 (s2.map encCol).length), fun _ => none, upd (fun _ => none) 24 (some ⟨g2, 46, (s2.map encCol), true⟩)⟩) (fun t => fl2 = .next t) ?_ (fun s2 g2 hn2 => ?_)
    · refine V.block ?_
      refine V.rangeL (fun j2 s2 g2 => ⟨36, upd (upd (upd (upd (fun _ => .any) 27 (pint (j2 : Int))) 26 (pint (slices.length : Int))) 25 (.list 27 (slices.map (rList 46 encCol)))) 6 (.own 24 g2 (s2.map encCol).length), fun _ => none, upd (fun _ => none) 24 (some ⟨g2, 46, (s2.map encCol), true⟩)⟩) g24 H2 (Gh.le (SLe.cons (PLe.of_eq rfl) (SLe.cons (PLe.of_eq rfl) (SLe.cons (PLe.of_eq rfl) (SLe.cons (PLe.of_eq rfl) SLe.nil)))) BLe.nil (OLe.cons rfl OLe.nil)) (fun j2 s2 g2 hj2 hr2 => ?_)
      refine V.seq ?_
      refine V.region ?_
      refine AOps.q tt_ok rfl ?_
      refine AOps.nil ?_
      refine V.seq ?_
      refine V.cond rfl (fun h => ?_) (fun h => ?_)
      · have hl2 := rowsLt h
        obtain ⟨x2, fb2, hx2, H, hg2⟩ := rangeM_cons hl2 hr2
        refine V.skip ?_
        refine V.seq ?_
        refine V.block ?_
        refine V.seq ?_
        refine V.region ?_
        refine AOps.idx tt_ok rfl rfl rfl rfl rfl rfl (Int.natCast_nonneg j2) (rowsGet (fun _ => rfl) hx2) rfl ?_
        iterate 2 refine AOps.q tt_ok rfl ?_
        refine AOps.nil ?_
        refine V.region ?_
        iterate 2 refine AOps.q tt_ok rfl ?_
        obtain ⟨x33, h33, H⟩ := bindE H
        have k33 := appI_some h33
        refine AOps.appendC (rows2' := List.map encCol x2) (rows' := List.map encCol x33) tt_ok rfl rfl rfl rfl rfl rfl rfl rfl rfl rfl rfl rfl rfl (PLe2Rows.refl _) (appI_by k33.1) (appI_mx k33.2.1) (appI_eq k33.2.2) fun g33 => ?_
        refine AOps.q tt_ok rfl ?_
        refine AOps.nil ?_
        refine V.blk ?_
        refine V.region ?_
        iterate 2 refine AOps.q tt_ok rfl ?_
        refine AOps.nil ?_
        obtain rfl := someE H
        refine V.againL x33 g33 ⟨hl2, hg2⟩ (Gh.le (SLe.cons (PLe.of_eq rfl) (SLe.cons (PLe.of_eq rfl) (SLe.cons (PLe.of_eq rfl) (SLe.cons (PLe.of_eq (pint_succ (by omega))) SLe.nil)))) BLe.nil (OLe.cons rfl OLe.nil))
      · have hn2 := rangeM_done (rowsGe h) hr2
        refine V.exit rfl ?_
        refine V.at s2 g2 hn2 (Gh.le (SLe.cons (PLe.of_eq rfl) SLe.nil) BLe.nil (OLe.cons rfl OLe.nil))
    · have H := thenP_next hn2 Hp2
      refine V.seq ?_
      refine V.region ?_
      iterate 2 refine AOps.q tt_ok rfl ?_
      refine AOps.nil ?_
      obtain rfl := someE H
      refine V.retO tt_ok rfl rfl rfl rfl rfl
theorem N_L_slices_Concat_Lapi_Column_api_Column (xss : List (List LCol)) (h1 : xss.flatten.length * 32 ≤ 2 ^ 47) (h2 : xss.flatten.length ≤ maxLen) : L_slices_Concat_Lapi_Column_api_Column xss = some xss.flatten := by
  have hle : ∀ k x, xss[k]? = some x → (xss.take k).flatten.length + x.length ≤ xss.flatten.length := by
    intro k x hk
    have e1 : (xss.take (k + 1)).flatten.length = (xss.take k).flatten.length + x.length := by rw [List.take_add_one, hk]; simp
    have e2 : xss.flatten = (xss.take (k + 1)).flatten ++ (xss.drop (k + 1)).flatten := by rw [← List.flatten_append, List.take_append_drop]
    have e3 := congrArg List.length e2
    rw [List.length_append] at e3
    omega
  unfold L_slices_Concat_Lapi_Column_api_Column
  rw [rangeM_all (fun k => ((xss.take k).flatten.length : Int)) (by simp) (fun k x hk => by
    have h3 := hle k x hk
    have e : IntKind.i64.wrap (((xss.take k).flatten.length : Int) + (x.length : Int)) = (((xss.take k).flatten.length + x.length : Nat) : Int) := by
      rw [wrap_id (by omega) (by unfold maxLen at h2; omega)]; simp
    have e1 : (xss.take (k + 1)).flatten.length = (xss.take k).flatten.length + x.length := by rw [List.take_add_one, hk]; simp
    have hn : decide (((((xss.take k).flatten.length + x.length : Nat) : Int)) < 0) = false := by simp; omega
    rw [e, hn, e1]
    rfl)]
  simp only [bindP_some, thenP_nextS, List.take_length]
  rw [growI_ok ⟨by omega, by simpa using h1, by simpa using h2⟩]
  simp only [bindP_some]
  rw [rangeM_all (fun k => (xss.take k).flatten) (by simp) (fun k x hk => by
    have h3 := hle k x hk
    rw [appI_ok (Nat.le_trans (Nat.mul_le_mul_right _ h3) h1) (Nat.le_trans h3 h2)]
    simp [List.take_add_one, hk])]
  simp

theorem grow_40 {m : Nat} {u : Unit} (n : Int) (h : growI 32 n = some u) : PCalls Try.prog 40 [.val (.slice none 0 0), pint n] (OwnR m 23 []) := by
  have hn := growI_some h
  have hw : IntKind.i64.wrap (n - IntKind.i64.wrap ((0 : Int) - 0)) = n := by
    have e0 : IntKind.i64.wrap ((0 : Int) - 0) = 0 := wrap_id (by omega) (by omega)
    rw [e0, Int.sub_zero, wrap_id (by omega) (by unfold maxLen at hn; omega)]
  refine PCallsH.intro Try.func40 rfl Try.ntmps40 rfl ?_
  refine V.seq ?_
  refine V.region ?_
  refine AOps.q tt_ok rfl ?_
  refine AOps.nil ?_
  iterate 2 refine V.seq ?_
  refine V.region ?_
  iterate 2 refine AOps.q tt_ok rfl ?_
  refine AOps.nil ?_
  refine V.cond rfl (fun h => ?_) (fun h => ?_)
  · exfalso; have := of_decide_eq_true h; omega
  refine V.skip ?_
  iterate 2 refine V.seq ?_
  refine V.region ?_
  iterate 2 refine AOps.q tt_ok rfl ?_
  refine AOps.capN tt_ok rfl rfl rfl rfl rfl rfl ?_
  iterate 4 refine AOps.q tt_ok rfl ?_
  refine AOps.cast 14 (q := pint n) rfl (PLe.of_eq (congrArg pint hw)) ?_
  refine AOps.q tt_ok rfl ?_
  refine AOps.nil ?_
  refine V.seq ?_
  refine V.region ?_
  iterate 2 refine AOps.q tt_ok rfl ?_
  refine AOps.nil ?_
  refine V.cond rfl (fun h => ?_) (fun h => ?_)
  · refine V.region ?_
    iterate 2 refine AOps.q tt_ok rfl ?_
    refine AOps.capN tt_ok rfl rfl rfl rfl rfl rfl ?_
    refine AOps.subN tt_ok rfl rfl rfl rfl rfl rfl rfl rfl ?_
    refine AOps.q tt_ok rfl ?_
    refine AOps.appendMakeN tt_ok rfl rfl rfl rfl rfl rfl rfl rfl rfl rfl rfl rfl rfl rfl rfl (of_decide_eq_true h) hn.2.1 hn.2.2 fun g => ?_
    iterate 2 refine AOps.q tt_ok rfl ?_
    refine AOps.cutO tt_ok rfl rfl rfl rfl rfl rfl rfl rfl rfl ⟨Int.le_refl 0, Nat.zero_le _⟩ rfl rfl rfl ?_
    refine AOps.q tt_ok rfl ?_
    refine AOps.nil ?_
    refine V.seq ?_
    refine V.region ?_
    iterate 2 refine AOps.q tt_ok rfl ?_
    refine AOps.nil ?_
    refine V.retO tt_ok rfl rfl rfl rfl rfl
  · refine V.skip ?_
    refine V.seq ?_
    refine V.region ?_
    iterate 2 refine AOps.q tt_ok rfl ?_
    refine AOps.nil ?_
    refine V.nilO tt_ok 4 904 (e := 23) rfl rfl ?_
    refine V.retO tt_ok rfl rfl rfl rfl rfl

noncomputable def L_slices_Concat_api_Row_api_Value (slices : List (List LVal)) : Option ((List LVal)) :=
  bindP (rangeM (σ := Int) (ρ := Empty) (fun (_ : Nat) (x1 : List LVal) (s1 : Int) =>
    cond (decide ((IntKind.i64.wrap (s1 + (x1.length : Int))) < (0 : Int)))
      (none)
      (some (.next (IntKind.i64.wrap (s1 + (x1.length : Int)))))) 0 slices 0) fun fl1 => fl1.thenP fun (s1 : Int) =>
  bindP (growI 32 s1) fun (_ : Unit) =>
  bindP (rangeM (σ := List LVal) (ρ := Empty) (fun (_ : Nat) (x2 : List LVal) (s2 : List LVal) =>
    bindP (appI 32 s2 x2) fun (x33 : List LVal) =>
    some (.next x33)) 0 slices []) fun fl2 => fl2.thenP fun (s2 : List LVal) =>
  some s2

set_option maxHeartbeats 4000000 in
theorem W_slices_Concat_api_Row_api_Value {m : Nat} (slices : List (List LVal)) (r : (List LVal)) (H : L_slices_Concat_api_Row_api_Value slices = some r) :
    PCalls Try.prog 22 [(.list 29 (slices.map (rList 23 encVal)))] (OwnR m 23 (r.map encVal)) := by
  unfold L_slices_Concat_api_Row_api_Value at H
  refine PCallsH.intro Try.func22 rfl Try.ntmps22 rfl ?_
  refine V.seq ?_
  refine V.region ?_
  refine AOps.q tt_ok rfl ?_
  refine AOps.nil ?_
  refine V.seq ?_
  refine V.region ?_
  refine AOps.q tt_ok rfl ?_
  refine AOps.nil ?_
  iterate 2 refine V.seq ?_
  refine V.region ?_
  refine AOps.q tt_ok rfl ?_
  refine AOps.lenL tt_ok rfl rfl rfl rfl rfl (List.length_map _) rfl ?_
  refine AOps.q tt_ok rfl ?_
  refine AOps.nil ?_
  obtain ⟨fl1, H1, Hp1⟩ := bindE H
  refine V.lenF tt_ok 9 rfl rfl (fun hz1 _ => ?_)
  rw [List.length_map] at hz1
  refine V.cut (τ := Int) (γ := Unit) (fun s1 g1 => ⟨36, upd (upd (fun _ => .any) 3 (pint s1)) 0 (.list 29 (slices.map (rList 23 encVal))), fun _ => none, fun _ => none⟩) (fun t => fl1 = .next t) ?_ (fun s1 g1 hn1 => ?_)
  · refine V.block ?_
    refine V.rangeL (fun j1 s1 g1 => ⟨36, upd (upd (upd (upd (upd (fun _ => .any) 11 (pint (j1 : Int))) 10 (pint (slices.length : Int))) 9 (.list 29 (slices.map (rList 23 encVal)))) 3 (pint s1)) 0 (.list 29 (slices.map (rList 23 encVal))), fun _ => none, fun _ => none⟩) () H1 (Gh.le (SLe.cons (PLe.of_eq rfl) (SLe.cons (PLe.of_eq rfl) (SLe.cons (PLe.of_eq rfl) (SLe.cons (PLe.of_eq rfl) (SLe.cons (PLe.of_eq rfl) SLe.nil))))) BLe.nil OLe.nil) (fun j1 s1 g1 hj1 hr1 => ?_)
    refine V.seq ?_
    refine V.region ?_
    refine AOps.q tt_ok rfl ?_
    refine AOps.nil ?_
    refine V.seq ?_
    refine V.cond rfl (fun h => ?_) (fun h => ?_)
    · have hl1 := rowsLt h
      obtain ⟨x1, fb1, hx1, H, hg1⟩ := rangeM_cons hl1 hr1
      refine V.skip ?_
      refine V.seq ?_
      refine V.block ?_
      refine V.seq ?_
      refine V.region ?_
      refine AOps.idx tt_ok rfl rfl rfl rfl rfl rfl (Int.natCast_nonneg j1) (rowsGet (fun _ => rfl) hx1) rfl ?_
      iterate 2 refine AOps.q tt_ok rfl ?_
      refine AOps.nil ?_
      refine V.seq ?_
      refine V.region ?_
      iterate 2 refine AOps.q tt_ok rfl ?_
      refine AOps.lenL tt_ok rfl rfl rfl rfl rfl (List.length_map _) rfl ?_
      iterate 2 refine AOps.q tt_ok rfl ?_
      refine AOps.nil ?_
      refine V.seq ?_
      refine V.region ?_
      iterate 2 refine AOps.q tt_ok rfl ?_
      refine AOps.nil ?_
      refine V.cond rfl (fun h => ?_) (fun h => ?_)
      · have H := condT h H
        cases H
      · have H := condF h H
        refine V.skip ?_
        refine V.blk ?_
        refine V.region ?_
        iterate 2 refine AOps.q tt_ok rfl ?_
        refine AOps.nil ?_
        obtain rfl := someE H
        refine V.againL (IntKind.i64.wrap (s1 + (x1.length : Int))) () ⟨hl1, hg1⟩ (Gh.le (SLe.cons (PLe.of_eq rfl) (SLe.cons (PLe.of_eq rfl) (SLe.cons (PLe.of_eq rfl) (SLe.cons (PLe.of_eq rfl) (SLe.cons (PLe.of_eq (pint_succ (by omega))) SLe.nil))))) BLe.nil OLe.nil)
    · have hn1 := rangeM_done (rowsGe h) hr1
      refine V.exit rfl ?_
      refine V.at s1 g1 hn1 (Gh.le (SLe.cons (PLe.of_eq rfl) (SLe.cons (PLe.of_eq rfl) SLe.nil)) BLe.nil OLe.nil)
  · have H := thenP_next hn1 Hp1
    refine V.seq ?_
    refine V.region ?_
    refine AOps.q tt_ok rfl ?_
    obtain ⟨_, h24, H⟩ := bindE H
    have s24 := grow_40 (m := 24) s1 h24
    refine AOps.callO (g := 40) rfl rfl rfl Try.call40 (PLeAll.refl _ _) rfl rfl s24 (fun g24 => ?_)
    refine AOps.q tt_ok rfl ?_
    refine AOps.nil ?_
    iterate 2 refine V.seq ?_
    refine V.region ?_
    refine AOps.q tt_ok rfl ?_
    refine AOps.lenL tt_ok rfl rfl rfl rfl rfl (List.length_map _) rfl ?_
    refine AOps.q tt_ok rfl ?_
    refine AOps.nil ?_
    obtain ⟨fl2, H2, Hp2⟩ := bindE H
    refine V.lenF tt_ok 25 rfl rfl (fun hz2 _ => ?_)
    rw [List.length_map] at hz2
    refine V.cut (τ := List LVal) (γ := OwnRef) (fun s2 g2 => ⟨36, upd (fun _ => .any) 6 (.own 24 g2 (s2.map encVal).length), fun _ => none, upd (fun _ => none) 24 (some ⟨g2, 23, (s2.map encVal), true⟩)⟩) (fun t => fl2 = .next t) ?_ (fun s2 g2 hn2 => ?_)
    · refine V.block ?_
      refine V.rangeL (fun j2 s2 g2 => ⟨36, upd (upd (upd (upd (fun _ => .any) 27 (pint (j2 : Int))) 26 (pint (slices.length : Int))) 25 (.list 29 (slices.map (rList 23 encVal)))) 6 (.own 24 g2 (s2.map encVal).length), fun _ => none, upd (fun _ => none) 24 (some ⟨g2, 23, (s2.map encVal), true⟩)⟩) g24 H2 (Gh.le (SLe.cons (PLe.of_eq rfl) (SLe.cons (PLe.of_eq rfl) (SLe.cons (PLe.of_eq rfl) (SLe.cons (PLe.of_eq rfl) SLe.nil)))) BLe.nil (OLe.cons rfl OLe.nil)) (fun j2 s2 g2 hj2 hr2 => ?_)
      refine V.seq ?_
      refine V.region ?_
      refine AOps.q tt_ok rfl ?_
      refine AOps.nil ?_
      refine V.seq ?_
      refine V.cond rfl (fun h => ?_) (fun h => ?_)
      · have hl2 := rowsLt h
        obtain ⟨x2, fb2, hx2, H, hg2⟩ := rangeM_cons hl2 hr2
        refine V.skip ?_
        refine V.seq ?_
        refine V.block ?_
        refine V.seq ?_
        refine V.region ?_
        refine AOps.idx tt_ok rfl rfl rfl rfl rfl rfl (Int.natCast_nonneg j2) (rowsGet (fun _ => rfl) hx2) rfl ?_
        iterate 2 refine AOps.q tt_ok rfl ?_
        refine AOps.nil ?_
        refine V.region ?_
        iterate 2 refine AOps.q tt_ok rfl ?_
        obtain ⟨x33, h33, H⟩ := bindE H
        have k33 := appI_some h33
        refine AOps.appendC (rows2' := List.map encVal x2) (rows' := List.map encVal x33) tt_ok rfl rfl rfl rfl rfl rfl rfl rfl rfl rfl rfl rfl rfl (PLe2Rows.refl _) (appI_by k33.1) (appI_mx k33.2.1) (appI_eq k33.2.2) fun g33 => ?_
        refine AOps.q tt_ok rfl ?_
        refine AOps.nil ?_
        refine V.blk ?_
        refine V.region ?_
        iterate 2 refine AOps.q tt_ok rfl ?_
        refine AOps.nil ?_
        obtain rfl := someE H
        refine V.againL x33 g33 ⟨hl2, hg2⟩ (Gh.le (SLe.cons (PLe.of_eq rfl) (SLe.cons (PLe.of_eq rfl) (SLe.cons (PLe.of_eq rfl) (SLe.cons (PLe.of_eq (pint_succ (by omega))) SLe.nil)))) BLe.nil (OLe.cons rfl OLe.nil))
      · have hn2 := rangeM_done (rowsGe h) hr2
        refine V.exit rfl ?_
        refine V.at s2 g2 hn2 (Gh.le (SLe.cons (PLe.of_eq rfl) SLe.nil) BLe.nil (OLe.cons rfl OLe.nil))
    · have H := thenP_next hn2 Hp2
      refine V.seq ?_
      refine V.region ?_
      iterate 2 refine AOps.q tt_ok rfl ?_
      refine AOps.nil ?_
      obtain rfl := someE H
      refine V.retO tt_ok rfl rfl rfl rfl rfl
theorem N_L_slices_Concat_api_Row_api_Value (xss : List (List LVal)) (h1 : xss.flatten.length * 32 ≤ 2 ^ 47) (h2 : xss.flatten.length ≤ maxLen) : L_slices_Concat_api_Row_api_Value xss = some xss.flatten := by
  have hle : ∀ k x, xss[k]? = some x → (xss.take k).flatten.length + x.length ≤ xss.flatten.length := by
    intro k x hk
    have e1 : (xss.take (k + 1)).flatten.length = (xss.take k).flatten.length + x.length := by rw [List.take_add_one, hk]; simp
    have e2 : xss.flatten = (xss.take (k + 1)).flatten ++ (xss.drop (k + 1)).flatten := by rw [← List.flatten_append, List.take_append_drop]
    have e3 := congrArg List.length e2
    rw [List.length_append] at e3
    omega
  unfold L_slices_Concat_api_Row_api_Value
  rw [rangeM_all (fun k => ((xss.take k).flatten.length : Int)) (by simp) (fun k x hk => by
    have h3 := hle k x hk
    have e : IntKind.i64.wrap (((xss.take k).flatten.length : Int) + (x.length : Int)) = (((xss.take k).flatten.length + x.length : Nat) : Int) := by
      rw [wrap_id (by omega) (by unfold maxLen at h2; omega)]; simp
    have e1 : (xss.take (k + 1)).flatten.length = (xss.take k).flatten.length + x.length := by rw [List.take_add_one, hk]; simp
    have hn : decide (((((xss.take k).flatten.length + x.length : Nat) : Int)) < 0) = false := by simp; omega
    rw [e, hn, e1]
    rfl)]
  simp only [bindP_some, thenP_nextS, List.take_length]
  rw [growI_ok ⟨by omega, by simpa using h1, by simpa using h2⟩]
  simp only [bindP_some]
  rw [rangeM_all (fun k => (xss.take k).flatten) (by simp) (fun k x hk => by
    have h3 := hle k x hk
    rw [appI_ok (Nat.le_trans (Nat.mul_le_mul_right _ h3) h1) (Nat.le_trans h3 h2)]
    simp [List.take_add_one, hk])]
  simp

noncomputable def L_expr_Substitute (rec23 : LExpr → (List (List UInt8)) → (List LExpr) → Option (LExpr)) (rec41 : LExpr → Option (LExpr)) (e : LExpr) (names : List (List UInt8)) (l : List LExpr) : Option (LExpr) :=
  bindP (
    cond (e.kind == (2 : Int))
      (bindP (L_slices_Index_Lstring_string names e.name) fun x17 =>
      cond (decide (x17 ≥ (0 : Int)))
        (cond (decide (x17 < (l.length : Int)))
          (bindP (getI l x17) fun (x28 : LExpr) =>
          bindP (rec41 x28) fun x30 =>
          some (.ret x30))
          (some (.next ())))
        (some (.next ())))
      (some (.next ()))) fun (fl1 : Flow (Unit) (LExpr)) => fl1.thenR fun _ =>
  bindP (rangeM (σ := List LExpr) (ρ := Empty) (fun (_ : Nat) (x2 : LExpr) (s2 : List LExpr) =>
    bindP (rec23 x2 names l) fun x45 =>
    bindP (appI 88 s2 ([x45] : List LExpr)) fun (x47 : List LExpr) =>
    some (.next x47)) 0 e.args []) fun fl2 => fl2.thenP fun (s2 : List LExpr) =>
  some (LExpr.mk e.kind e.name e.index e.value s2)

set_option maxHeartbeats 4000000 in
theorem W_expr_Substitute (rec23 : LExpr → (List (List UInt8)) → (List LExpr) → Option (LExpr)) (rec41 : LExpr → Option (LExpr)) (hrec23 : ∀ a0 a1 a2 r, rec23 a0 a1 a2 = some r → PFun Try.prog 23 [(.agg (encE a0)), (.list 9 (a1.map rStr)), (.list 35 (a2.map encExpr))] (.agg (encE r))) (hrec41 : ∀ a0 r, rec41 a0 = some r → PFun Try.prog 41 [(.agg (encE a0))] (.agg (encE r))) (e : LExpr) (names : List (List UInt8)) (l : List LExpr) (r : LExpr) (H : L_expr_Substitute rec23 rec41 e names l = some r) :
    PFun Try.prog 23 [(.agg (encE e)), (.list 9 (names.map rStr)), (.list 35 (l.map encExpr))] (.agg (encE r)) := by
  unfold L_expr_Substitute at H
  refine PCallsH.intro Try.func23 rfl Try.ntmps23 rfl ?_
  refine V.seq ?_
  refine V.region ?_
  refine AOps.boxF rfl rfl rfl rfl rfl rfl ?_
  refine AOps.alloc tt_ok rfl rfl rfl rfl rfl rfl fun b6 => ?_
  refine AOps.nil ?_
  iterate 2 refine V.seq ?_
  refine V.region ?_
  iterate 3 refine AOps.q tt_ok rfl ?_
  refine AOps.nil ?_
  obtain ⟨fl1, H1, Hp1⟩ := bindE H
  refine V.cut (τ := Unit) (γ := Unit) (fun t1 g1 => ⟨51, upd (upd (upd (upd (fun _ => .any) 6 (.box 6 b6 0)) 3 (.ptr [(pint e.kind), (.str e.name), (pint e.index), (pint e.value.kind), (pint e.value.int), (.str e.value.text), (.list 35 (e.args.map encExpr))])) 2 (.list 35 (l.map encExpr))) 1 (.list 9 (names.map rStr)), upd (fun _ => none) 6 (some ⟨b6, [(pint 0), (.str []), (pint 0), (pint 0), (pint 0), (.str []), (.val (.slice none 0 0))]⟩), fun _ => none⟩) (fun t => fl1 = .next t) ?_ (fun t1 g1 hn1 => ?_)
  · have H := H1
    refine V.cond rfl (fun h => ?_) (fun h => ?_)
    · have H := condT h H
      refine V.seq ?_
      refine V.region ?_
      iterate 3 refine AOps.q tt_ok rfl ?_
      obtain ⟨x17, h17, H⟩ := bindE H
      have s17 := W_slices_Index_Lstring_string names e.name _ h17
      refine AOps.callP (g := 33) rfl rfl rfl Try.call33 (PLeAll.refl _ _) s17 rfl ?_
      refine AOps.q tt_ok rfl ?_
      refine AOps.nil ?_
      refine V.seq ?_
      refine V.region ?_
      iterate 3 refine AOps.q tt_ok rfl ?_
      refine AOps.split rfl rfl rfl (fun h => ?_) (fun h => ?_)
      · have H := condT h H
        iterate 2 refine AOps.q tt_ok rfl ?_
        refine AOps.lenL tt_ok rfl rfl rfl rfl rfl (List.length_map _) rfl ?_
        iterate 2 refine AOps.q tt_ok rfl ?_
        refine AOps.nil ?_
        refine V.cond rfl (fun h => ?_) (fun h => ?_)
        · have H := condT h H
          refine V.seq ?_
          refine V.region ?_
          iterate 2 refine AOps.q tt_ok rfl ?_
          obtain ⟨x28, h28, H⟩ := bindE H
          have k28 := getI_some h28
          refine AOps.idx tt_ok rfl rfl rfl rfl rfl rfl k28.1 (rowsGetI encExpr_eq k28.2) rfl ?_
          refine AOps.q tt_ok rfl ?_
          obtain ⟨x30, h30, H⟩ := bindE H
          have s30 := hrec41 x28 _ h30
          refine AOps.callP (g := 41) rfl rfl rfl Try.call41 (PLeAll.refl _ _) s30 rfl ?_
          refine AOps.storeBox tt_ok rfl rfl rfl rfl rfl rfl rfl rfl rfl rfl rfl ?_
          refine AOps.nil ?_
          obtain rfl := someE H
          obtain rfl := thenR_ret Hp1
          refine V.retP tt_ok rfl (ps := [(.agg [(pint x30.kind), (.str x30.name), (pint x30.index), (pint x30.value.kind), (pint x30.value.int), (.str x30.value.text), (.list 35 (x30.args.map encExpr))])]) ⟨_, _, rfl, ⟨_, _, _, _, _, rfl, rfl, rfl, rfl⟩, rfl⟩ (PLe.of_eq rfl)
        · have H := condF h H
          refine V.skip ?_
          obtain rfl := someE H
          refine V.at () () rfl (Gh.le (SLe.cons (PLe.of_eq rfl) (SLe.cons (PLe.of_eq rfl) (SLe.cons (PLe.of_eq rfl) (SLe.cons (PLe.of_eq rfl) SLe.nil)))) (BLe.cons rfl (PLeAll.refl _ _) BLe.nil) OLe.nil)
      · have H := condF h H
        iterate 5 refine AOps.q tt_ok rfl ?_
        refine AOps.nil ?_
        refine V.condF rfl ?_
        refine V.skip ?_
        obtain rfl := someE H
        refine V.at () () rfl (Gh.le (SLe.cons (PLe.of_eq rfl) (SLe.cons (PLe.of_eq rfl) (SLe.cons (PLe.of_eq rfl) (SLe.cons (PLe.of_eq rfl) SLe.nil)))) (BLe.cons rfl (PLeAll.refl _ _) BLe.nil) OLe.nil)
    · have H := condF h H
      refine V.skip ?_
      obtain rfl := someE H
      refine V.at () () rfl (Gh.le (SLe.cons (PLe.of_eq rfl) (SLe.cons (PLe.of_eq rfl) (SLe.cons (PLe.of_eq rfl) (SLe.cons (PLe.of_eq rfl) SLe.nil)))) (BLe.cons rfl (PLeAll.refl _ _) BLe.nil) OLe.nil)
  · have H := thenR_next hn1 Hp1
    refine V.seq ?_
    refine V.region ?_
    refine AOps.q tt_ok rfl ?_
    refine AOps.alloc tt_ok rfl rfl rfl rfl rfl rfl fun b8 => ?_
    refine AOps.storeBox tt_ok rfl rfl rfl rfl rfl rfl rfl rfl rfl rfl rfl ?_
    refine AOps.nil ?_
    refine V.seq ?_
    refine V.region ?_
    refine AOps.q tt_ok rfl ?_
    refine AOps.storeBox tt_ok rfl rfl rfl rfl rfl rfl rfl rfl rfl rfl rfl ?_
    refine AOps.nil ?_
    iterate 2 refine V.seq ?_
    refine V.region ?_
    iterate 2 refine AOps.q tt_ok rfl ?_
    refine AOps.lenL tt_ok rfl rfl rfl rfl rfl (List.length_map _) rfl ?_
    refine AOps.q tt_ok rfl ?_
    refine AOps.nil ?_
    obtain ⟨fl2, H2, Hp2⟩ := bindE H
    refine V.lenF tt_ok 34 rfl rfl (fun hz2 _ => ?_)
    rw [List.length_map] at hz2
    refine V.cut (τ := List LExpr) (γ := OwnRef) (fun s2 g2 => ⟨51, upd (upd (fun _ => .any) 8 (.box 8 b8 0)) 6 (.box 6 b6 0), upd (upd (fun _ => none) 8 (some ⟨b8, [(pint e.kind), (.str e.name), (pint e.index), (pint e.value.kind), (pint e.value.int), (.str e.value.text), (.own 47 g2 (s2.map encExpr).length)]⟩)) 6 (some ⟨b6, [(pint 0), (.str []), (pint 0), (pint 0), (pint 0), (.str []), (.val (.slice none 0 0))]⟩), upd (fun _ => none) 47 (some ⟨g2, 35, (s2.map encExpr), true⟩)⟩) (fun t => fl2 = .next t) ?_ (fun s2 g2 hn2 => ?_)
    · refine V.block ?_
      refine V.nilOB tt_ok 8 6 47 (e := 35) rfl rfl rfl rfl ?_
      refine V.rangeL (fun j2 s2 g2 => ⟨51, upd (upd (upd (upd (upd (upd (upd (fun _ => .any) 36 (pint (j2 : Int))) 35 (pint (e.args.length : Int))) 34 (.list 35 (e.args.map encExpr))) 8 (.box 8 b8 0)) 6 (.box 6 b6 0)) 2 (.list 35 (l.map encExpr))) 1 (.list 9 (names.map rStr)), upd (upd (fun _ => none) 8 (some ⟨b8, [(pint e.kind), (.str e.name), (pint e.index), (pint e.value.kind), (pint e.value.int), (.str e.value.text), (.own 47 g2 (s2.map encExpr).length)]⟩)) 6 (some ⟨b6, [(pint 0), (.str []), (pint 0), (pint 0), (pint 0), (.str []), (.val (.slice none 0 0))]⟩), upd (fun _ => none) 47 (some ⟨g2, 35, (s2.map encExpr), true⟩)⟩) (⟨none, 0⟩) H2 (Gh.le (SLe.cons (PLe.of_eq rfl) (SLe.cons (PLe.of_eq rfl) (SLe.cons (PLe.of_eq rfl) (SLe.cons (PLe.of_eq rfl) (SLe.cons (PLe.of_eq rfl) (SLe.cons (PLe.of_eq rfl) (SLe.cons (PLe.of_eq rfl) SLe.nil))))))) (BLe.cons rfl (PLeAll.refl _ _) (BLe.cons rfl (PLeAll.refl _ _) BLe.nil)) (OLe.cons rfl OLe.nil)) (fun j2 s2 g2 hj2 hr2 => ?_)
      refine V.seq ?_
      refine V.region ?_
      refine AOps.q tt_ok rfl ?_
      refine AOps.nil ?_
      refine V.seq ?_
      refine V.cond rfl (fun h => ?_) (fun h => ?_)
      · have hl2 := rowsLt h
        obtain ⟨x2, fb2, hx2, H, hg2⟩ := rangeM_cons hl2 hr2
        refine V.skip ?_
        refine V.seq ?_
        refine V.block ?_
        refine V.seq ?_
        refine V.region ?_
        refine AOps.idx tt_ok rfl rfl rfl rfl rfl rfl (Int.natCast_nonneg j2) (rowsGet encExpr_eq hx2) rfl ?_
        refine AOps.q tt_ok rfl ?_
        refine AOps.alloc tt_ok rfl rfl rfl rfl rfl rfl fun b10 => ?_
        refine AOps.storeBox tt_ok rfl rfl rfl rfl rfl rfl rfl rfl rfl rfl rfl ?_
        refine AOps.nil ?_
        refine V.draw tt_ok mixed_ok true [0, 1, 2, 3, 4, 5, 6, 7, 8, 9] rfl (by decide +kernel) rfl ?_
        refine DOps.q rfl ?_
        refine DOps.loadBox rfl rfl rfl rfl rfl rfl rfl rfl rfl ?_
        refine DOps.loadBox rfl rfl rfl rfl rfl rfl rfl rfl rfl ?_
        iterate 2 refine DOps.q rfl ?_
        obtain ⟨x45, h45, H⟩ := bindE H
        have s45 := hrec23 x2 names l _ h45
        refine DOps.callP (g := 23) rfl rfl rfl rfl Try.call23 (PLeAll.refl _ _) s45 rfl ?_
        refine DOps.q rfl ?_
        obtain ⟨x47, h47, H⟩ := bindE H
        have k47 := appI_some h47
        refine DOps.appendC (rows2' := List.map encExpr ([x45] : List LExpr)) (rows' := List.map encExpr x47) tt_ok rfl rfl rfl rfl rfl rfl rfl rfl rfl rfl rfl rfl rfl rfl (PLe2Rows.trans (b := List.map encE [x45]) (PLe2Rows.refl _) (PLe2Rows.of_eq (rowsLit encExpr_eq [x45]))) (appI_by k47.1) (appI_mx k47.2.1) (appI_eq k47.2.2) fun g47 => ?_
        refine DOps.q rfl ?_
        refine DOps.storeBox rfl rfl rfl rfl rfl rfl rfl rfl rfl rfl rfl rfl ?_
        refine DOps.nil ?_
        refine V.blk ?_
        refine V.region ?_
        iterate 2 refine AOps.q tt_ok rfl ?_
        refine AOps.nil ?_
        obtain rfl := someE H
        refine V.againL x47 g47 ⟨hl2, hg2⟩ (Gh.le (SLe.cons (PLe.of_eq rfl) (SLe.cons (PLe.of_eq rfl) (SLe.cons (PLe.of_eq rfl) (SLe.cons (PLe.of_eq rfl) (SLe.cons (PLe.of_eq rfl) (SLe.cons (PLe.of_eq rfl) (SLe.cons (PLe.of_eq (pint_succ (by omega))) SLe.nil))))))) (BLe.cons rfl (PLeAll.refl _ _) (BLe.cons rfl (PLeAll.refl _ _) BLe.nil)) (OLe.cons rfl OLe.nil))
      · have hn2 := rangeM_done (rowsGe h) hr2
        refine V.exit rfl ?_
        refine V.at s2 g2 hn2 (Gh.le (SLe.cons (PLe.of_eq rfl) (SLe.cons (PLe.of_eq rfl) SLe.nil)) (BLe.cons rfl (PLeAll.refl _ _) (BLe.cons rfl (PLeAll.refl _ _) BLe.nil)) (OLe.cons rfl OLe.nil))
    · have H := thenP_next hn2 Hp2
      refine V.seq ?_
      refine V.region ?_
      refine AOps.loadBox tt_ok rfl rfl rfl rfl rfl rfl rfl ?_
      refine AOps.storeBox tt_ok rfl rfl rfl rfl rfl rfl rfl rfl rfl rfl rfl ?_
      refine AOps.nil ?_
      obtain rfl := someE H
      refine V.freezeOB 6 6 rfl rfl rfl rfl rfl ?_
      refine V.retP tt_ok rfl (ps := [(.agg [(pint e.kind), (.str e.name), (pint e.index), (pint e.value.kind), (pint e.value.int), (.str e.value.text), (.list 35 (s2.map encExpr))])]) ⟨_, _, rfl, ⟨_, _, _, _, _, rfl, rfl, rfl, rfl⟩, rfl⟩ (PLe.of_eq rfl)

noncomputable def L_expr_Clone (rec23 : LExpr → (List (List UInt8)) → (List LExpr) → Option (LExpr)) (_rec41 : LExpr → Option (LExpr)) (e : LExpr) : Option (LExpr) :=
  bindP (rec23 e ([] : List (List UInt8)) ([] : List LExpr)) fun x4 =>
  some x4

set_option maxHeartbeats 4000000 in
theorem W_expr_Clone (rec23 : LExpr → (List (List UInt8)) → (List LExpr) → Option (LExpr)) (rec41 : LExpr → Option (LExpr)) (hrec23 : ∀ a0 a1 a2 r, rec23 a0 a1 a2 = some r → PFun Try.prog 23 [(.agg (encE a0)), (.list 9 (a1.map rStr)), (.list 35 (a2.map encExpr))] (.agg (encE r))) (_hrec41 : ∀ a0 r, rec41 a0 = some r → PFun Try.prog 41 [(.agg (encE a0))] (.agg (encE r))) (e : LExpr) (r : LExpr) (H : L_expr_Clone rec23 rec41 e = some r) :
    PFun Try.prog 41 [(.agg (encE e))] (.agg (encE r)) := by
  unfold L_expr_Clone at H
  refine PCallsH.intro Try.func41 rfl Try.ntmps41 rfl ?_
  refine V.seq ?_
  refine V.region ?_
  refine AOps.boxF rfl rfl rfl rfl rfl rfl ?_
  refine AOps.alloc tt_ok rfl rfl rfl rfl rfl rfl fun b2 => ?_
  refine AOps.nil ?_
  refine V.seq ?_
  refine V.region ?_
  refine AOps.q tt_ok rfl ?_
  obtain ⟨x4, h4, H⟩ := bindE H
  have s4 := hrec23 e ([] : List (List UInt8)) ([] : List LExpr) _ h4
  refine AOps.callP (g := 23) rfl rfl rfl Try.call23 (PLeAll.of2 (PLe2All.cons (PLe2.of_eq rfl) (PLe2All.cons (PLe2.nil tt_ok rfl) (PLe2All.cons (PLe2.nil tt_ok rfl) PLe2All.nil)))) s4 rfl ?_
  refine AOps.storeBox tt_ok rfl rfl rfl rfl rfl rfl rfl rfl rfl rfl rfl ?_
  refine AOps.nil ?_
  obtain rfl := someE H
  refine V.retP tt_ok rfl (ps := [(.agg [(pint x4.kind), (.str x4.name), (pint x4.index), (pint x4.value.kind), (pint x4.value.int), (.str x4.value.text), (.list 35 (x4.args.map encExpr))])]) ⟨_, _, rfl, ⟨_, _, _, _, _, rfl, rfl, rfl, rfl⟩, rfl⟩ (PLe.of_eq rfl)

noncomputable def L_lexer_inner (c : UInt8) : Bool :=
  cond (decide ((c.toNat : Int) ≥ (97 : Int)))
    (cond (decide ((c.toNat : Int) ≤ (122 : Int)))
      (true)
      (cond (decide ((c.toNat : Int) ≥ (48 : Int)))
        ((decide ((c.toNat : Int) ≤ (57 : Int))))
        (false)))
    (cond (decide ((c.toNat : Int) ≥ (48 : Int)))
      ((decide ((c.toNat : Int) ≤ (57 : Int))))
      (false))

set_option maxHeartbeats 4000000 in
theorem W_lexer_inner (c : UInt8) :
    PFun Try.prog 57 [(.val (.int .u8 (c.toNat : Int)))] (pbool (L_lexer_inner c)) := by
  obtain ⟨r, H⟩ : ∃ r, L_lexer_inner c = r := ⟨_, rfl⟩
  rw [H]
  unfold L_lexer_inner at H
  refine PCallsH.intro Try.func57 rfl Try.ntmps57 rfl ?_
  refine V.seq ?_
  refine V.region ?_
  refine AOps.q tt_ok rfl ?_
  refine AOps.nil ?_
  refine V.seq ?_
  refine V.region ?_
  iterate 3 refine AOps.q tt_ok rfl ?_
  refine AOps.split rfl rfl rfl (fun h => ?_) (fun h => ?_)
  · have H := condT h H
    iterate 4 refine AOps.q tt_ok rfl ?_
    refine AOps.split rfl rfl rfl (fun h => ?_) (fun h => ?_)
    · have H := condT h H
      iterate 8 refine AOps.q tt_ok rfl ?_
      refine AOps.nil ?_
      subst H
      refine V.retP tt_ok rfl (ps := [(pbool true)]) ⟨_, _, rfl, rfl, rfl⟩ (PLe.of_eq rfl)
    · have H := condF h H
      iterate 3 refine AOps.q tt_ok rfl ?_
      refine AOps.split rfl rfl rfl (fun h => ?_) (fun h => ?_)
      · have H := condT h H
        iterate 5 refine AOps.q tt_ok rfl ?_
        refine AOps.nil ?_
        subst H
        refine V.retP tt_ok rfl (ps := [(pbool (decide ((c.toNat : Int) ≤ (57 : Int))))]) ⟨_, _, rfl, rfl, rfl⟩ (PLe.of_eq rfl)
      · have H := condF h H
        iterate 5 refine AOps.q tt_ok rfl ?_
        refine AOps.nil ?_
        subst H
        refine V.retP tt_ok rfl (ps := [(pbool false)]) ⟨_, _, rfl, rfl, rfl⟩ (PLe.of_eq rfl)
  · have H := condF h H
    iterate 7 refine AOps.q tt_ok rfl ?_
    refine AOps.split rfl rfl rfl (fun h => ?_) (fun h => ?_)
    · have H := condT h H
      iterate 5 refine AOps.q tt_ok rfl ?_
      refine AOps.nil ?_
      subst H
      refine V.retP tt_ok rfl (ps := [(pbool (decide ((c.toNat : Int) ≤ (57 : Int))))]) ⟨_, _, rfl, rfl, rfl⟩ (PLe.of_eq rfl)
    · have H := condF h H
      iterate 5 refine AOps.q tt_ok rfl ?_
      refine AOps.nil ?_
      subst H
      refine V.retP tt_ok rfl (ps := [(pbool false)]) ⟨_, _, rfl, rfl, rfl⟩ (PLe.of_eq rfl)

noncomputable def L_expr_find_1 (c : LCol) (c0 : List UInt8) : Bool :=
  (c.name == c0)

set_option maxHeartbeats 4000000 in
theorem W_expr_find_1 (c : LCol) (c0 : List UInt8) :
    PFun Try.prog 58 [(.agg (encCol c)), (.ptr [(.str c0)])] (pbool (L_expr_find_1 c c0)) := by
  obtain ⟨r, H⟩ : ∃ r, L_expr_find_1 c c0 = r := ⟨_, rfl⟩
  rw [H]
  unfold L_expr_find_1 at H
  refine PCallsH.intro Try.func58 rfl Try.ntmps58 rfl ?_
  refine V.seq ?_
  refine V.region ?_
  refine AOps.boxF rfl rfl rfl rfl rfl rfl ?_
  refine AOps.q tt_ok rfl ?_
  refine AOps.nil ?_
  refine V.seq ?_
  refine V.region ?_
  iterate 5 refine AOps.q tt_ok rfl ?_
  refine AOps.nil ?_
  subst H
  refine V.retP tt_ok rfl (ps := [(pbool (c.name == c0))]) ⟨_, _, rfl, rfl, rfl⟩ (PLe.of_eq rfl)

noncomputable def L_expr_find (l : List LCol) (name : List UInt8) : Option (LCol × Bool) :=
  bindP (L_slices_IndexFunc_Lapi_Column_api_Column l (fun a0 => some (L_expr_find_1 a0 name))) fun x9 =>
  cond (decide (x9 < (0 : Int)))
    (some ((LCol.mk [] 0 false), false))
    (bindP (getI l x9) fun (x15 : LCol) =>
    some (x15, true))

set_option maxHeartbeats 4000000 in
theorem W_expr_find (l : List LCol) (name : List UInt8) (r : LCol × Bool) (H : L_expr_find l name = some r) :
    PFun Try.prog 50 [(.list 46 (l.map encCol)), (.str name)] (.tup [(.agg (encCol r.1)), (pbool r.2)]) := by
  unfold L_expr_find at H
  refine PCallsH.intro Try.func50 rfl Try.ntmps50 rfl ?_
  refine V.seq ?_
  refine V.region ?_
  refine AOps.boxF rfl rfl rfl rfl rfl rfl ?_
  refine AOps.alloc tt_ok rfl rfl rfl rfl rfl rfl fun b4 => ?_
  refine AOps.q tt_ok rfl ?_
  refine AOps.nil ?_
  refine V.seq ?_
  refine V.region ?_
  iterate 2 refine AOps.q tt_ok rfl ?_
  obtain ⟨x9, h9, H⟩ := bindE H
  have s9 := W_slices_IndexFunc_Lapi_Column_api_Column l (fun a0 => some (L_expr_find_1 a0 name)) Try.call58 (fun a0 r h => (someE h) ▸ W_expr_find_1 a0 name) _ h9
  refine AOps.callP (g := 31) rfl rfl rfl Try.call31 (PLeAll.refl _ _) s9 rfl ?_
  refine AOps.q tt_ok rfl ?_
  refine AOps.nil ?_
  iterate 2 refine V.seq ?_
  refine V.region ?_
  iterate 2 refine AOps.q tt_ok rfl ?_
  refine AOps.nil ?_
  refine V.cond rfl (fun h => ?_) (fun h => ?_)
  · have H := condT h H
    refine V.seq ?_
    refine V.region ?_
    refine AOps.q tt_ok rfl ?_
    refine AOps.storeBox tt_ok rfl rfl rfl rfl rfl rfl rfl rfl rfl rfl rfl ?_
    refine AOps.q tt_ok rfl ?_
    refine AOps.nil ?_
    obtain rfl := someE H
    refine V.retP tt_ok rfl (ps := [(.agg [(.str []), (pint 0), (pbool false)]), (pbool false)]) ⟨_, _, rfl, ⟨_, _, _, _, _, rfl, rfl, rfl, rfl⟩, _, _, rfl, rfl, rfl⟩ (PLe.of_eq rfl)
  · have H := condF h H
    refine V.skip ?_
    refine V.seq ?_
    refine V.region ?_
    iterate 2 refine AOps.q tt_ok rfl ?_
    obtain ⟨x15, h15, H⟩ := bindE H
    have k15 := getI_some h15
    refine AOps.idx tt_ok rfl rfl rfl rfl rfl rfl k15.1 (rowsGetI (fun _ => rfl) k15.2) rfl ?_
    refine AOps.q tt_ok rfl ?_
    refine AOps.storeBox tt_ok rfl rfl rfl rfl rfl rfl rfl rfl rfl rfl rfl ?_
    refine AOps.q tt_ok rfl ?_
    refine AOps.nil ?_
    obtain rfl := someE H
    refine V.retP tt_ok rfl (ps := [(.agg [(.str x15.name), (pint x15.kind), (pbool x15.nullable)]), (pbool true)]) ⟨_, _, rfl, ⟨_, _, _, _, _, rfl, rfl, rfl, rfl⟩, _, _, rfl, rfl, rfl⟩ (PLe.of_eq rfl)

noncomputable def L_expr_opKind_1_1 (n : Int) (c0 : Int) : Bool :=
  cond (n != c0)
    ((n != (0 : Int)))
    (false)

set_option maxHeartbeats 4000000 in
theorem W_expr_opKind_1_1 (n : Int) (c0 : Int) :
    PFun Try.prog 61 [(pint n), (.ptr [(pint c0)])] (pbool (L_expr_opKind_1_1 n c0)) := by
  obtain ⟨r, H⟩ : ∃ r, L_expr_opKind_1_1 n c0 = r := ⟨_, rfl⟩
  rw [H]
  unfold L_expr_opKind_1_1 at H
  refine PCallsH.intro Try.func61 rfl Try.ntmps61 rfl ?_
  refine V.seq ?_
  refine V.region ?_
  refine AOps.q tt_ok rfl ?_
  refine AOps.nil ?_
  refine V.seq ?_
  refine V.region ?_
  iterate 4 refine AOps.q tt_ok rfl ?_
  refine AOps.split rfl rfl rfl (fun h => ?_) (fun h => ?_)
  · have H := condT h H
    iterate 4 refine AOps.q tt_ok rfl ?_
    refine AOps.nil ?_
    subst H
    refine V.retP tt_ok rfl (ps := [(pbool (n != (0 : Int)))]) ⟨_, _, rfl, rfl, rfl⟩ (PLe.of_eq rfl)
  · have H := condF h H
    iterate 4 refine AOps.q tt_ok rfl ?_
    refine AOps.nil ?_
    subst H
    refine V.retP tt_ok rfl (ps := [(pbool false)]) ⟨_, _, rfl, rfl, rfl⟩ (PLe.of_eq rfl)

noncomputable def L_slices_IndexFunc_Lint_int (sA : List Int) (f : Int → Option (Bool)) : Option (Int) :=
  bindP (rangeM (σ := Unit) (ρ := (Int)) (fun (j1 : Nat) (x1 : Int) (_ : Unit) =>
    bindP (f x1) fun x16 =>
    cond x16
      (some (.ret (j1 : Int)))
      (some (.next ()))) 0 sA ()) fun fl1 => fl1.thenR fun (_ : Unit) =>
  some (-1)

set_option maxHeartbeats 4000000 in
theorem W_slices_IndexFunc_Lint_int {g_f : FuncId} {caps_f : List PV} (sA : List Int) (f : Int → Option (Bool)) (hg_f : ∀ (vs : Array Value) (w : World), (callFunc g_f vs).run Try.prog w = .ok (.enter g_f vs) w) (hp_f : ∀ a0 r, f a0 = some r → PFun Try.prog g_f ((pint a0) :: caps_f) (pbool r)) (r : Int) (H : L_slices_IndexFunc_Lint_int sA f = some r) :
    PFun Try.prog 64 [(.list 3 (sA.map rInt)), (.fn g_f caps_f)] (pint r) := by
  unfold L_slices_IndexFunc_Lint_int at H
  refine PCallsH.intro Try.func64 rfl Try.ntmps64 rfl ?_
  refine V.seq ?_
  refine V.region ?_
  refine AOps.q tt_ok rfl ?_
  refine AOps.nil ?_
  iterate 2 refine V.seq ?_
  refine V.region ?_
  refine AOps.q tt_ok rfl ?_
  refine AOps.lenL tt_ok rfl rfl rfl rfl rfl (List.length_map _) rfl ?_
  refine AOps.q tt_ok rfl ?_
  refine AOps.nil ?_
  obtain ⟨fl1, H1, Hp1⟩ := bindE H
  refine V.lenF tt_ok 0 rfl rfl (fun hz1 _ => ?_)
  rw [List.length_map] at hz1
  refine V.cut (τ := Unit) (γ := Unit) (fun s1 g1 => ⟨19, fun _ => .any, fun _ => none, fun _ => none⟩) (fun t => fl1 = .next t) ?_ (fun s1 g1 hn1 => ?_)
  · refine V.block ?_
    refine V.rangeL (fun j1 s1 g1 => ⟨19, upd (upd (upd (upd (fun _ => .any) 8 (pint (j1 : Int))) 7 (pint (sA.length : Int))) 1 (.fn g_f caps_f)) 0 (.list 3 (sA.map rInt)), fun _ => none, fun _ => none⟩) () H1 (Gh.le (SLe.cons (PLe.of_eq rfl) (SLe.cons (PLe.of_eq rfl) (SLe.cons (PLe.of_eq rfl) (SLe.cons (PLe.of_eq rfl) SLe.nil)))) BLe.nil OLe.nil) (fun j1 s1 g1 hj1 hr1 => ?_)
    refine V.seq ?_
    refine V.region ?_
    refine AOps.q tt_ok rfl ?_
    refine AOps.nil ?_
    refine V.seq ?_
    refine V.cond rfl (fun h => ?_) (fun h => ?_)
    · have hl1 := rowsLt h
      obtain ⟨x1, fb1, hx1, H, hg1⟩ := rangeM_cons hl1 hr1
      refine V.skip ?_
      refine V.seq ?_
      refine V.block ?_
      refine V.seq ?_
      refine V.region ?_
      iterate 2 refine AOps.q tt_ok rfl ?_
      refine AOps.nil ?_
      refine V.seq ?_
      refine V.region ?_
      iterate 3 refine AOps.q tt_ok rfl ?_
      refine AOps.idx tt_ok rfl rfl rfl rfl rfl rfl (Int.natCast_nonneg j1) (rowsGet (fun _ => rfl) hx1) rfl ?_
      refine AOps.q tt_ok rfl ?_
      obtain ⟨x16, h16, H⟩ := bindE H
      refine AOps.callP rfl rfl rfl hg_f (PLeAll.refl _ _) (hp_f _ _ h16) rfl ?_
      refine AOps.nil ?_
      refine V.cond rfl (fun h => ?_) (fun h => ?_)
      · have H := condT h H
        refine V.seq ?_
        refine V.region ?_
        iterate 2 refine AOps.q tt_ok rfl ?_
        refine AOps.nil ?_
        obtain rfl := someE H
        have e1 : fl1 = .ret _ := hg1
        subst e1
        obtain rfl := thenR_ret Hp1
        refine V.retP tt_ok rfl (ps := [(pint (j1 : Int))]) ⟨_, _, rfl, rfl, rfl⟩ (PLe.of_eq rfl)
      · have H := condF h H
        refine V.skip ?_
        refine V.blk ?_
        refine V.region ?_
        iterate 2 refine AOps.q tt_ok rfl ?_
        refine AOps.nil ?_
        obtain rfl := someE H
        refine V.againL () () ⟨hl1, hg1⟩ (Gh.le (SLe.cons (PLe.of_eq rfl) (SLe.cons (PLe.of_eq rfl) (SLe.cons (PLe.of_eq rfl) (SLe.cons (PLe.of_eq (pint_succ (by omega))) SLe.nil)))) BLe.nil OLe.nil)
    · have hn1 := rangeM_done (rowsGe h) hr1
      refine V.exit rfl ?_
      refine V.at s1 g1 hn1 (Gh.le SLe.nil BLe.nil OLe.nil)
  · have H := thenR_next hn1 Hp1
    refine V.seq ?_
    refine V.region ?_
    refine AOps.q tt_ok rfl ?_
    refine AOps.nil ?_
    obtain rfl := someE H
    refine V.retP tt_ok rfl (ps := [(pint (-1))]) ⟨_, _, rfl, rfl, rfl⟩ (PLe.of_eq rfl)
theorem N_L_slices_IndexFunc_Lint_int (xs : List Int) (q : Int → Bool) : L_slices_IndexFunc_Lint_int xs (fun a => some (q a)) = some (idxOf q xs) := by
  unfold L_slices_IndexFunc_Lint_int
  rw [rangeM_find q (fun j _ => (j : Int)) xs 0 (fun k x hk => by simp only [bindP_some]; cases q x <;> simp)]
  simp only [idxOf, Nat.zero_add]
  cases h : xs.findIdx? q with
  | none => rfl
  | some i =>
    obtain ⟨hi, _⟩ := List.findIdx?_eq_some_iff_getElem.1 h
    simp [hi]

noncomputable def L_slices_ContainsFunc_Lint_int (sA : List Int) (f : Int → Option (Bool)) : Option (Bool) :=
  bindP (L_slices_IndexFunc_Lint_int sA f) fun x7 =>
  some (decide (x7 ≥ (0 : Int)))

set_option maxHeartbeats 4000000 in
theorem W_slices_ContainsFunc_Lint_int {g_f : FuncId} {caps_f : List PV} (sA : List Int) (f : Int → Option (Bool)) (hg_f : ∀ (vs : Array Value) (w : World), (callFunc g_f vs).run Try.prog w = .ok (.enter g_f vs) w) (hp_f : ∀ a0 r, f a0 = some r → PFun Try.prog g_f ((pint a0) :: caps_f) (pbool r)) (r : Bool) (H : L_slices_ContainsFunc_Lint_int sA f = some r) :
    PFun Try.prog 60 [(.list 3 (sA.map rInt)), (.fn g_f caps_f)] (pbool r) := by
  unfold L_slices_ContainsFunc_Lint_int at H
  refine PCallsH.intro Try.func60 rfl Try.ntmps60 rfl ?_
  refine V.seq ?_
  refine V.region ?_
  refine AOps.q tt_ok rfl ?_
  refine AOps.nil ?_
  refine V.seq ?_
  refine V.region ?_
  iterate 2 refine AOps.q tt_ok rfl ?_
  obtain ⟨x7, h7, H⟩ := bindE H
  have s7 := W_slices_IndexFunc_Lint_int sA f hg_f hp_f _ h7
  refine AOps.callP (g := 64) rfl rfl rfl Try.call64 (PLeAll.refl _ _) s7 rfl ?_
  iterate 2 refine AOps.q tt_ok rfl ?_
  refine AOps.nil ?_
  obtain rfl := someE H
  refine V.retP tt_ok rfl (ps := [(pbool (decide (x7 ≥ (0 : Int))))]) ⟨_, _, rfl, rfl, rfl⟩ (PLe.of_eq rfl)
theorem N_L_slices_ContainsFunc_Lint_int (xs : List Int) (q : Int → Bool) : L_slices_ContainsFunc_Lint_int xs (fun a => some (q a)) = some (xs.any q) := by
  unfold L_slices_ContainsFunc_Lint_int
  rw [N_L_slices_IndexFunc_Lint_int, bindP_some, idxOf_any]

noncomputable def L_expr_opKind_1 (want : Int) (c0 : List Int) : Option (Bool) :=
  bindP (L_slices_ContainsFunc_Lint_int c0 (fun a0 => some (L_expr_opKind_1_1 a0 want))) fun x6 =>
  some (!x6)

set_option maxHeartbeats 4000000 in
theorem W_expr_opKind_1 (want : Int) (c0 : List Int) (r : Bool) (H : L_expr_opKind_1 want c0 = some r) :
    PFun Try.prog 59 [(pint want), (.ptr [(.list 3 (c0.map rInt))])] (pbool r) := by
  unfold L_expr_opKind_1 at H
  refine PCallsH.intro Try.func59 rfl Try.ntmps59 rfl ?_
  refine V.seq ?_
  refine V.region ?_
  refine AOps.boxF rfl rfl rfl rfl rfl rfl ?_
  refine AOps.q tt_ok rfl ?_
  refine AOps.nil ?_
  refine V.seq ?_
  refine V.region ?_
  iterate 2 refine AOps.q tt_ok rfl ?_
  obtain ⟨x6, h6, H⟩ := bindE H
  have s6 := W_slices_ContainsFunc_Lint_int c0 (fun a0 => some (L_expr_opKind_1_1 a0 want)) Try.call61 (fun a0 r h => (someE h) ▸ W_expr_opKind_1_1 a0 want) _ h6
  refine AOps.callP (g := 60) rfl rfl rfl Try.call60 (PLeAll.refl _ _) s6 rfl ?_
  iterate 2 refine AOps.q tt_ok rfl ?_
  refine AOps.nil ?_
  obtain rfl := someE H
  refine V.retP tt_ok rfl (ps := [(pbool (!x6))]) ⟨_, _, rfl, rfl, rfl⟩ (PLe.of_eq rfl)

noncomputable def L_expr_opKind_2 (a : Int) (b : Int) : Bool :=
  cond (a == b)
    (true)
    (cond (a == (0 : Int))
      (true)
      ((b == (0 : Int))))

set_option maxHeartbeats 4000000 in
theorem W_expr_opKind_2 (a : Int) (b : Int) :
    PFun Try.prog 62 [(pint a), (pint b)] (pbool (L_expr_opKind_2 a b)) := by
  obtain ⟨r, H⟩ : ∃ r, L_expr_opKind_2 a b = r := ⟨_, rfl⟩
  rw [H]
  unfold L_expr_opKind_2 at H
  refine PCallsH.intro Try.func62 rfl Try.ntmps62 rfl ?_
  refine V.seq ?_
  refine V.region ?_
  refine AOps.q tt_ok rfl ?_
  refine AOps.nil ?_
  refine V.seq ?_
  refine V.region ?_
  iterate 4 refine AOps.q tt_ok rfl ?_
  refine AOps.split rfl rfl rfl (fun h => ?_) (fun h => ?_)
  · have H := condT h H
    iterate 8 refine AOps.q tt_ok rfl ?_
    refine AOps.nil ?_
    subst H
    refine V.retP tt_ok rfl (ps := [(pbool true)]) ⟨_, _, rfl, rfl, rfl⟩ (PLe.of_eq rfl)
  · have H := condF h H
    iterate 4 refine AOps.q tt_ok rfl ?_
    refine AOps.split rfl rfl rfl (fun h => ?_) (fun h => ?_)
    · have H := condT h H
      iterate 4 refine AOps.q tt_ok rfl ?_
      refine AOps.nil ?_
      subst H
      refine V.retP tt_ok rfl (ps := [(pbool true)]) ⟨_, _, rfl, rfl, rfl⟩ (PLe.of_eq rfl)
    · have H := condF h H
      iterate 4 refine AOps.q tt_ok rfl ?_
      refine AOps.nil ?_
      subst H
      refine V.retP tt_ok rfl (ps := [(pbool (b == (0 : Int)))]) ⟨_, _, rfl, rfl, rfl⟩ (PLe.of_eq rfl)

noncomputable def L_expr_typed (kind : Int) (nullable : Bool) (ok : Bool) : Int × Bool × Int :=
  cond (!ok)
    ((0, false, 7))
    ((kind, nullable, 0))

set_option maxHeartbeats 4000000 in
theorem W_expr_typed (kind : Int) (nullable : Bool) (ok : Bool) :
    PFun Try.prog 63 [(pint kind), (pbool nullable), (pbool ok)] (.tup [(pint ((L_expr_typed kind nullable ok).1)), (pbool ((L_expr_typed kind nullable ok).2.1)), (pint ((L_expr_typed kind nullable ok).2.2))]) := by
  obtain ⟨r, H⟩ : ∃ r, L_expr_typed kind nullable ok = r := ⟨_, rfl⟩
  rw [H]
  unfold L_expr_typed at H
  refine PCallsH.intro Try.func63 rfl Try.ntmps63 rfl ?_
  refine V.seq ?_
  refine V.region ?_
  iterate 3 refine AOps.q tt_ok rfl ?_
  refine AOps.nil ?_
  iterate 2 refine V.seq ?_
  refine V.region ?_
  iterate 2 refine AOps.q tt_ok rfl ?_
  refine AOps.nil ?_
  refine V.cond rfl (fun h => ?_) (fun h => ?_)
  · have H := condT h H
    refine V.seq ?_
    refine V.region ?_
    iterate 3 refine AOps.q tt_ok rfl ?_
    refine AOps.nil ?_
    subst H
    refine V.retP tt_ok rfl (ps := [(pint 0), (pbool false), (pint 7)]) ⟨_, _, rfl, rfl, _, _, rfl, rfl, _, _, rfl, rfl, rfl⟩ (PLe.of_eq rfl)
  · have H := condF h H
    refine V.skip ?_
    refine V.seq ?_
    refine V.region ?_
    iterate 5 refine AOps.q tt_ok rfl ?_
    refine AOps.nil ?_
    subst H
    refine V.retP tt_ok rfl (ps := [(pint kind), (pbool nullable), (pint 0)]) ⟨_, _, rfl, rfl, _, _, rfl, rfl, _, _, rfl, rfl, rfl⟩ (PLe.of_eq rfl)

noncomputable def L_stemkeep3_ExprConjunctsPreserveTruth_1 (x : LExpr) (c0 : LEnv) : Bool :=
  letP (evalE c0 x) fun x6 =>
  letP (isTrueV x6) fun x7 =>
  (!x7)

set_option maxHeartbeats 4000000 in
theorem W_stemkeep3_ExprConjunctsPreserveTruth_1 (x : LExpr) (c0 : LEnv) :
    PFun Try.prog 28 [(.agg (encE x)), (.ptr (encEnv c0))] (pbool (L_stemkeep3_ExprConjunctsPreserveTruth_1 x c0)) := by
  obtain ⟨r, H⟩ : ∃ r, L_stemkeep3_ExprConjunctsPreserveTruth_1 x c0 = r := ⟨_, rfl⟩
  rw [H]
  unfold L_stemkeep3_ExprConjunctsPreserveTruth_1 at H
  refine PCallsH.intro Try.func28 rfl Try.ntmps28 rfl ?_
  refine V.seq ?_
  refine V.region ?_
  refine AOps.boxF rfl rfl rfl rfl rfl rfl ?_
  refine AOps.q tt_ok rfl ?_
  refine AOps.nil ?_
  refine V.seq ?_
  refine V.region ?_
  iterate 2 refine AOps.q tt_ok rfl ?_
  obtain ⟨x6, h6, H⟩ := letE H
  have s6 := eval_spec c0 x
  rw [h6] at s6
  refine AOps.callP (g := 12) rfl rfl rfl Try.call12 (PLeAll.refl _ _) s6 rfl ?_
  obtain ⟨x7, h7, H⟩ := letE H
  have s7 := isTrueV_spec x6
  rw [h7] at s7
  refine AOps.callP (g := 11) rfl rfl rfl Try.call11 (PLeAll.refl _ _) s7 rfl ?_
  iterate 2 refine AOps.q tt_ok rfl ?_
  refine AOps.nil ?_
  subst H
  refine V.retP tt_ok rfl (ps := [(pbool (!x7))]) ⟨_, _, rfl, rfl, rfl⟩ (PLe.of_eq rfl)

end Go.Proofs.Ytblheceepnncdaa
