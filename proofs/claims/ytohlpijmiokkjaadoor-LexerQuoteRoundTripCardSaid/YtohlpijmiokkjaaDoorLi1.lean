/- Lifted functions: printed by lift.py. -/
import Derived.Test.YtohlpijmiokkjaaDoorDat
import Derived.Test.YtohlpijmiokkjaaDoorDatT
import Derived.Test.YtohlpijmiokkjaaDoorNwA
namespace Go.Proofs.YtohlpijmiokkjaaDoor
open Go Go.Ab
attribute [local irreducible] V AOps DOps Gh Eff PCallsH IntKind.wrap
set_option maxRecDepth 4000

noncomputable def L_lexer_inner (c : UInt8) : Bool :=
  cond (decide ((c.toNat : Int) ≥ (97 : Int)))
    (cond (decide ((c.toNat : Int) ≤ (122 : Int)))
      (true)
      (cond (decide ((c.toNat : Int) ≥ (48 : Int)))
        ((decide ((c.toNat : Int) ≤ (57 : Int))))
        (false)))
    (cond (decide ((c.toNat : Int) ≥ (48 : Int)))
      ((decide ((c.toNat : Int) ≤ (57 : Int))))
      (false))

set_option maxHeartbeats 4000000 in
theorem W_lexer_inner (c : UInt8) :
    PFun Tryd.prog 18 [(.val (.int .u8 (c.toNat : Int)))] (pbool (L_lexer_inner c)) := by
  obtain ⟨r, H⟩ : ∃ r, L_lexer_inner c = r := ⟨_, rfl⟩
  rw [H]
  unfold L_lexer_inner at H
  refine PCallsH.intro Tryd.func18 rfl Tryd.ntmps18 rfl ?_
  refine V.seq ?_
  refine V.region ?_
  refine AOps.q tt_ok rfl ?_
  refine AOps.nil ?_
  refine V.seq ?_
  refine V.region ?_
  iterate 3 refine AOps.q tt_ok rfl ?_
  refine AOps.sH rfl rfl rfl H (fun H => ?_) (fun H => ?_)
  · refine AOps.q tt_ok rfl ?_
    iterate 3 refine AOps.q tt_ok rfl ?_
    refine AOps.sH rfl rfl rfl H (fun H => ?_) (fun H => ?_)
    · refine AOps.q tt_ok rfl ?_
      iterate 7 refine AOps.q tt_ok rfl ?_
      refine AOps.nil ?_
      subst H
      refine V.retP tt_ok rfl (ps := [(pbool true)]) ⟨_, _, rfl, rfl, rfl⟩ (PLe.of_eq rfl)
    iterate 3 refine AOps.q tt_ok rfl ?_
    refine AOps.sH rfl rfl rfl H (fun H => ?_) (fun H => ?_)
    · refine AOps.q tt_ok rfl ?_
      iterate 4 refine AOps.q tt_ok rfl ?_
      refine AOps.nil ?_
      subst H
      refine V.retP tt_ok rfl (ps := [(pbool (decide ((c.toNat : Int) ≤ (57 : Int))))]) ⟨_, _, rfl, rfl, rfl⟩ (PLe.of_eq rfl)
    iterate 5 refine AOps.q tt_ok rfl ?_
    refine AOps.nil ?_
    subst H
    refine V.retP tt_ok rfl (ps := [(pbool false)]) ⟨_, _, rfl, rfl, rfl⟩ (PLe.of_eq rfl)
  iterate 7 refine AOps.q tt_ok rfl ?_
  refine AOps.sH rfl rfl rfl H (fun H => ?_) (fun H => ?_)
  · refine AOps.q tt_ok rfl ?_
    iterate 4 refine AOps.q tt_ok rfl ?_
    refine AOps.nil ?_
    subst H
    refine V.retP tt_ok rfl (ps := [(pbool (decide ((c.toNat : Int) ≤ (57 : Int))))]) ⟨_, _, rfl, rfl, rfl⟩ (PLe.of_eq rfl)
  iterate 5 refine AOps.q tt_ok rfl ?_
  refine AOps.nil ?_
  subst H
  refine V.retP tt_ok rfl (ps := [(pbool false)]) ⟨_, _, rfl, rfl, rfl⟩ (PLe.of_eq rfl)

noncomputable def L_lexer_Keywords : (List (List UInt8)) :=
  [[97, 103, 103, 114, 101, 103, 97, 116, 101], [97, 110, 100], [97, 115], [98, 121], [100, 101, 115, 99], [101, 108, 115, 101], [101, 120, 99, 101, 112, 116], [102, 97, 108, 115, 101], [103, 114, 111, 117, 112], [105, 102], [105, 115], [106, 111, 105, 110], [108, 101, 102, 116], [108, 101, 110, 103, 116, 104], [108, 105, 109, 105, 116], [110, 111, 116], [110, 117, 108, 108], [111, 102, 102, 115, 101, 116], [111, 110], [111, 114], [112, 114, 111, 106, 101, 99, 116], [115, 99, 97, 110], [115, 111, 114, 116], [116, 104, 101, 110], [116, 114, 117, 101], [117, 110, 105, 111, 110], [119, 104, 101, 114, 101]]

set_option maxHeartbeats 4000000 in
theorem W_lexer_Keywords :
    PFun Tryd.prog 20 [] (.list 9 ((L_lexer_Keywords).map rStr)) := by
  obtain ⟨r, H⟩ : ∃ r, L_lexer_Keywords = r := ⟨_, rfl⟩
  rw [H]
  unfold L_lexer_Keywords at H
  refine PCallsH.intro Tryd.func20 rfl Tryd.ntmps20 rfl ?_
  refine V.seq ?_
  refine V.region ?_
  refine AOps.q tt_ok rfl ?_
  refine AOps.nil ?_
  refine V.seq ?_
  refine V.region ?_
  refine AOps.bsC (e := 9) (rows := [[(.str [97, 103, 103, 114, 101, 103, 97, 116, 101])], [(.str [97, 110, 100])], [(.str [97, 115])], [(.str [98, 121])], [(.str [100, 101, 115, 99])], [(.str [101, 108, 115, 101])], [(.str [101, 120, 99, 101, 112, 116])], [(.str [102, 97, 108, 115, 101])], [(.str [103, 114, 111, 117, 112])], [(.str [105, 102])], [(.str [105, 115])], [(.str [106, 111, 105, 110])], [(.str [108, 101, 102, 116])], [(.str [108, 101, 110, 103, 116, 104])], [(.str [108, 105, 109, 105, 116])], [(.str [110, 111, 116])], [(.str [110, 117, 108, 108])], [(.str [111, 102, 102, 115, 101, 116])], [(.str [111, 110])], [(.str [111, 114])], [(.str [112, 114, 111, 106, 101, 99, 116])], [(.str [115, 99, 97, 110])], [(.str [115, 111, 114, 116])], [(.str [116, 104, 101, 110])], [(.str [116, 114, 117, 101])], [(.str [117, 110, 105, 111, 110])], [(.str [119, 104, 101, 114, 101])]]) tt_ok rfl rfl rfl rfl (rows' := List.map rStr ([[97, 103, 103, 114, 101, 103, 97, 116, 101], [97, 110, 100], [97, 115], [98, 121], [100, 101, 115, 99], [101, 108, 115, 101], [101, 120, 99, 101, 112, 116], [102, 97, 108, 115, 101], [103, 114, 111, 117, 112], [105, 102], [105, 115], [106, 111, 105, 110], [108, 101, 102, 116], [108, 101, 110, 103, 116, 104], [108, 105, 109, 105, 116], [110, 111, 116], [110, 117, 108, 108], [111, 102, 102, 115, 101, 116], [111, 110], [111, 114], [112, 114, 111, 106, 101, 99, 116], [115, 99, 97, 110], [115, 111, 114, 116], [116, 104, 101, 110], [116, 114, 117, 101], [117, 110, 105, 111, 110], [119, 104, 101, 114, 101]] : List (List UInt8))) (by kernel_rfl) (PLe2Rows.refl _) rfl rfl ?_
  refine AOps.q tt_ok rfl ?_
  refine AOps.nil ?_
  subst H
  refine V.retP tt_ok rfl (ps := [(.list 9 (([[97, 103, 103, 114, 101, 103, 97, 116, 101], [97, 110, 100], [97, 115], [98, 121], [100, 101, 115, 99], [101, 108, 115, 101], [101, 120, 99, 101, 112, 116], [102, 97, 108, 115, 101], [103, 114, 111, 117, 112], [105, 102], [105, 115], [106, 111, 105, 110], [108, 101, 102, 116], [108, 101, 110, 103, 116, 104], [108, 105, 109, 105, 116], [110, 111, 116], [110, 117, 108, 108], [111, 102, 102, 115, 101, 116], [111, 110], [111, 114], [112, 114, 111, 106, 101, 99, 116], [115, 99, 97, 110], [115, 111, 114, 116], [116, 104, 101, 110], [116, 114, 117, 101], [117, 110, 105, 111, 110], [119, 104, 101, 114, 101]] : List (List UInt8)).map rStr))]) ⟨_, _, rfl, rfl, rfl⟩ (PLe.of_eq rfl)

noncomputable def L_slices_Index_Lstring_string (sA : List (List UInt8)) (v : List UInt8) : Option (Int) :=
  bindP (rangeM (σ := Unit) (ρ := (Int)) (fun (j1 : Nat) (x1 : List UInt8) (_ : Unit) =>
    cond (v == x1)
      (some (.ret (j1 : Int)))
      (some (.next ()))) 0 sA ()) fun fl1 => fl1.thenR fun (_ : Unit) =>
  some (-1)

set_option maxHeartbeats 4000000 in
theorem W_slices_Index_Lstring_string (sA : List (List UInt8)) (v : List UInt8) (r : Int) (H : L_slices_Index_Lstring_string sA v = some r) :
    PFun Tryd.prog 30 [(.list 9 (sA.map rStr)), (.str v)] (pint r) := by
  unfold L_slices_Index_Lstring_string at H
  refine PCallsH.intro Tryd.func30 rfl Tryd.ntmps30 rfl ?_
  refine V.seq ?_
  refine V.region ?_
  refine AOps.q tt_ok rfl ?_
  refine AOps.nil ?_
  iterate 2 refine V.seq ?_
  refine V.region ?_
  refine AOps.q tt_ok rfl ?_
  refine AOps.lenL tt_ok rfl rfl rfl rfl rfl (List.length_map _) rfl ?_
  refine AOps.q tt_ok rfl ?_
  refine AOps.nil ?_
  obtain ⟨fl1, H1, Hp1⟩ := bindE H
  refine V.lenF tt_ok 0 rfl rfl (fun hz1 _ => ?_)
  rw [List.length_map] at hz1
  refine V.cut (τ := Unit) (γ := Unit) (fun s1 g1 => ⟨19, fun _ => .any, fun _ => none, fun _ => none⟩) (fun t => fl1 = .next t) ?_ (fun s1 g1 hn1 => ?_)
  · refine V.block ?_
    refine V.rangeL (fun j1 s1 g1 => ⟨19, upd (upd (upd (upd (fun _ => .any) 8 (pint (j1 : Int))) 7 (pint (sA.length : Int))) 1 (.str v)) 0 (.list 9 (sA.map rStr)), fun _ => none, fun _ => none⟩) () H1 (Gh.le (SLe.cons (PLe.of_eq rfl) (SLe.cons (PLe.of_eq rfl) (SLe.cons (PLe.of_eq rfl) (SLe.cons (PLe.of_eq rfl) SLe.nil)))) BLe.nil OLe.nil) (fun j1 s1 g1 hj1 hr1 => ?_)
    refine V.seq ?_
    refine V.region ?_
    refine AOps.q tt_ok rfl ?_
    refine AOps.nil ?_
    refine V.seq ?_
    refine V.cond rfl (fun h => ?_) (fun h => ?_)
    · have hl1 := rowsLt h
      obtain ⟨x1, fb1, hx1, H, hg1⟩ := rangeM_cons hl1 hr1
      refine V.skip ?_
      refine V.seq ?_
      refine V.block ?_
      refine V.seq ?_
      refine V.region ?_
      iterate 2 refine AOps.q tt_ok rfl ?_
      refine AOps.nil ?_
      refine V.seq ?_
      refine V.region ?_
      iterate 3 refine AOps.q tt_ok rfl ?_
      refine AOps.idx tt_ok rfl rfl rfl rfl rfl rfl (Int.natCast_nonneg j1) (rowsGet (fun _ => rfl) hx1) rfl ?_
      iterate 2 refine AOps.q tt_ok rfl ?_
      refine AOps.nil ?_
      refine V.cH rfl H (fun H => ?_) (fun H => ?_)
      · refine V.seq ?_
        refine V.region ?_
        iterate 2 refine AOps.q tt_ok rfl ?_
        refine AOps.nil ?_
        obtain rfl := someE H
        have e1 : fl1 = .ret _ := hg1
        subst e1
        obtain rfl := thenR_ret Hp1
        refine V.retP tt_ok rfl (ps := [(pint (j1 : Int))]) ⟨_, _, rfl, rfl, rfl⟩ (PLe.of_eq rfl)
      refine V.skip ?_
      refine V.blk ?_
      refine V.region ?_
      iterate 2 refine AOps.q tt_ok rfl ?_
      refine AOps.nil ?_
      obtain rfl := someE H
      refine V.againL () () ⟨hl1, hg1⟩ (Gh.le (SLe.cons (PLe.of_eq rfl) (SLe.cons (PLe.of_eq rfl) (SLe.cons (PLe.of_eq rfl) (SLe.cons (PLe.of_eq (pint_succ (by omega))) SLe.nil)))) BLe.nil OLe.nil)
    have hn1 := rangeM_done (rowsGe h) hr1
    refine V.exit rfl ?_
    refine V.at s1 g1 hn1 (Gh.le SLe.nil BLe.nil OLe.nil)
  have H := thenR_next hn1 Hp1
  refine V.seq ?_
  refine V.region ?_
  refine AOps.q tt_ok rfl ?_
  refine AOps.nil ?_
  obtain rfl := someE H
  refine V.retP tt_ok rfl (ps := [(pint (-1))]) ⟨_, _, rfl, rfl, rfl⟩ (PLe.of_eq rfl)
theorem N_L_slices_Index_Lstring_string (xs : List (List UInt8)) (v : (List UInt8)) : L_slices_Index_Lstring_string xs v = some (idxOf (fun x1 => (v == x1)) xs) := by
  unfold L_slices_Index_Lstring_string
  rw [rangeM_find (fun x1 => (v == x1)) (fun j _ => (j : Int)) xs 0 (fun k x hk => by cases (v == x) <;> simp)]
  simp only [idxOf, Nat.zero_add]
  cases h : xs.findIdx? (fun x1 => (v == x1)) with
  | none => rfl
  | some i =>
    obtain ⟨hi, _⟩ := List.findIdx?_eq_some_iff_getElem.1 h
    simp [hi]

noncomputable def L_lexer_digit (c : UInt8) : Bool :=
  cond (decide ((c.toNat : Int) ≥ (48 : Int)))
    ((decide ((c.toNat : Int) ≤ (57 : Int))))
    (false)

set_option maxHeartbeats 4000000 in
theorem W_lexer_digit (c : UInt8) :
    PFun Tryd.prog 21 [(.val (.int .u8 (c.toNat : Int)))] (pbool (L_lexer_digit c)) := by
  obtain ⟨r, H⟩ : ∃ r, L_lexer_digit c = r := ⟨_, rfl⟩
  rw [H]
  unfold L_lexer_digit at H
  refine PCallsH.intro Tryd.func21 rfl Tryd.ntmps21 rfl ?_
  refine V.seq ?_
  refine V.region ?_
  refine AOps.q tt_ok rfl ?_
  refine AOps.nil ?_
  refine V.seq ?_
  refine V.region ?_
  iterate 3 refine AOps.q tt_ok rfl ?_
  refine AOps.sH rfl rfl rfl H (fun H => ?_) (fun H => ?_)
  · refine AOps.q tt_ok rfl ?_
    iterate 3 refine AOps.q tt_ok rfl ?_
    refine AOps.nil ?_
    subst H
    refine V.retP tt_ok rfl (ps := [(pbool (decide ((c.toNat : Int) ≤ (57 : Int))))]) ⟨_, _, rfl, rfl, rfl⟩ (PLe.of_eq rfl)
  iterate 4 refine AOps.q tt_ok rfl ?_
  refine AOps.nil ?_
  subst H
  refine V.retP tt_ok rfl (ps := [(pbool false)]) ⟨_, _, rfl, rfl, rfl⟩ (PLe.of_eq rfl)

noncomputable def L_lexer_quoted (sA : List UInt8) : Option (LLexerToken × Int × Bool) :=
  bindP (whileM (σ := List UInt8 × Int) (ρ := (LLexerToken × Int × Bool)) (fun (s1 : List UInt8 × Int) =>
    cond (decide (s1.2 < (sA.length : Int)))
      (bindP (getI sA s1.2) fun (x23 : UInt8) =>
      cond ((x23.toNat : Int) != (39 : Int))
        (bindP (subI sA s1.2 (IntKind.i64.wrap (s1.2 + (1 : Int)))) fun (x30 : List UInt8) =>
        bindP (catS s1.1 x30) fun (x31 : List UInt8) =>
        some (.next (x31, (IntKind.i64.wrap (s1.2 + (1 : Int))))))
        (bindP (
          cond (decide ((IntKind.i64.wrap (s1.2 + (1 : Int))) < (sA.length : Int)))
            (bindP (getI sA (IntKind.i64.wrap (s1.2 + (1 : Int)))) fun (x42 : UInt8) =>
            some ((x42.toNat : Int) == (39 : Int)))
            (some false)) fun (t4 : Bool) =>
        cond t4
          (bindP (catS s1.1 ([39] : List UInt8)) fun (x46 : List UInt8) =>
          some (.next (x46, (IntKind.i64.wrap ((IntKind.i64.wrap (s1.2 + (1 : Int))) + (1 : Int))))))
          (some (.ret ((LLexerToken.mk 4 s1.1 0 0), (IntKind.i64.wrap (s1.2 + (1 : Int))), (decide ((s1.1.length : Int) ≤ (24 : Int))))))))
      (some (.brk (s1.1, s1.2)))) ([], 1)) fun fl1 => fl1.thenR fun (s1 : List UInt8 × Int) =>
  some ((LLexerToken.mk 0 [] 0 0), 0, false)

set_option maxHeartbeats 4000000 in
theorem W_lexer_quoted (sA : List UInt8) (r : LLexerToken × Int × Bool) (H : L_lexer_quoted sA = some r) :
    PFun Tryd.prog 24 [(.str sA)] (.tup [(.agg (encLexerToken r.1)), (pint r.2.1), (pbool r.2.2)]) := by
  unfold L_lexer_quoted at H
  refine PCallsH.intro Tryd.func24 rfl Tryd.ntmps24 rfl ?_
  refine V.seq ?_
  refine V.region ?_
  refine AOps.alloc tt_ok rfl rfl rfl rfl rfl rfl fun b2 => ?_
  iterate 2 refine AOps.q tt_ok rfl ?_
  refine AOps.nil ?_
  refine V.seq ?_
  refine V.region ?_
  refine AOps.q tt_ok rfl ?_
  refine AOps.nil ?_
  iterate 2 refine V.seq ?_
  refine V.region ?_
  refine AOps.q tt_ok rfl ?_
  refine AOps.nil ?_
  obtain ⟨fl1, H1, Hp1⟩ := bindE H
  refine V.cut (τ := List UInt8 × Int) (γ := Unit) (fun s1 g1 => ⟨50, upd (fun _ => .any) 2 (.box 2 b2 0), upd (fun _ => none) 2 (some ⟨b2, [(pint 0), (.str []), (pint 0), (pint 0)]⟩), fun _ => none⟩) (fun t => fl1 = .next t) ?_ (fun s1 g1 hn1 => ?_)
  · refine V.block ?_
    refine V.whileL (fun s1 g1 => ⟨50, upd (upd (upd (upd (fun _ => .any) 6 (pint s1.2)) 5 (.str s1.1)) 2 (.box 2 b2 0)) 0 (.str sA), upd (fun _ => none) 2 (some ⟨b2, [(pint 0), (.str []), (pint 0), (pint 0)]⟩), fun _ => none⟩) () H1 (Gh.le (SLe.cons (PLe.of_eq rfl) (SLe.cons (PLe.of_eq rfl) (SLe.cons (PLe.of_eq rfl) (SLe.cons (PLe.of_eq rfl) SLe.nil)))) (BLe.cons rfl (PLeAll.refl _ _) BLe.nil) OLe.nil) (fun m1 s1 g1 hr1 => ?_)
    obtain ⟨fb1, H, hg1⟩ := iterM_cons hr1
    iterate 2 refine V.seq ?_
    refine V.region ?_
    iterate 4 refine AOps.q tt_ok rfl ?_
    refine AOps.nil ?_
    refine V.cH rfl H (fun H => ?_) (fun H => ?_)
    · refine V.skip ?_
      refine V.seq ?_
      iterate 2 refine V.block ?_
      refine V.seq ?_
      refine V.region ?_
      iterate 2 refine AOps.q tt_ok rfl ?_
      obtain ⟨x23, k23, H⟩ := getE H
      refine AOps.idxS tt_ok rfl rfl rfl rfl rfl rfl k23.1 k23.2 rfl ?_
      iterate 2 refine AOps.q tt_ok rfl ?_
      refine AOps.nil ?_
      refine V.cH rfl H (fun H => ?_) (fun H => ?_)
      · refine V.region ?_
        iterate 5 refine AOps.q tt_ok rfl ?_
        obtain ⟨x30, h30, H⟩ := bindE H
        have k30 := subI_some h30
        refine AOps.subS tt_ok rfl rfl rfl rfl rfl rfl rfl k30.1 k30.2 rfl ?_
        obtain ⟨x31, h31, H⟩ := bindE H
        have k31 := catS_some h31
        refine AOps.catC tt_ok rfl rfl rfl rfl k31.1 k31.2 rfl ?_
        refine AOps.q tt_ok rfl ?_
        refine AOps.nil ?_
        iterate 2 refine V.blk ?_
        refine V.region ?_
        iterate 3 refine AOps.q tt_ok rfl ?_
        refine AOps.nil ?_
        obtain rfl := someE H
        refine V.againL (x31, (IntKind.i64.wrap (s1.2 + (1 : Int)))) () hg1 (Gh.le (SLe.cons (PLe.of_eq rfl) (SLe.cons (PLe.of_eq rfl) (SLe.cons (PLe.of_eq rfl) (SLe.cons (PLe.of_eq rfl) SLe.nil)))) (BLe.cons rfl (PLeAll.refl _ _) BLe.nil) OLe.nil)
      refine V.seq ?_
      obtain ⟨fl4, H4, Hp4⟩ := bindE H
      refine V.cut (τ := Bool) (γ := Unit) (fun t4 g4 => ⟨50, upd (upd (upd (upd (upd (fun _ => .any) 32 (pbool t4)) 6 (pint s1.2)) 5 (.str s1.1)) 2 (.box 2 b2 0)) 0 (.str sA), upd (fun _ => none) 2 (some ⟨b2, [(pint 0), (.str []), (pint 0), (pint 0)]⟩), fun _ => none⟩) (fun t => t = fl4) ?_ (fun t4 g4 hn4 => ?_)
      · have H := H4
        refine V.region ?_
        iterate 6 refine AOps.q tt_ok rfl ?_
        refine AOps.sH rfl rfl rfl H (fun H => ?_) (fun H => ?_)
        · refine AOps.q tt_ok rfl ?_
          iterate 2 refine AOps.q tt_ok rfl ?_
          obtain ⟨x42, k42, H⟩ := getE H
          refine AOps.idxS tt_ok rfl rfl rfl rfl rfl rfl k42.1 k42.2 rfl ?_
          iterate 3 refine AOps.q tt_ok rfl ?_
          refine AOps.nil ?_
          obtain rfl := someE H
          refine V.at ((x42.toNat : Int) == (39 : Int)) () rfl (Gh.le (SLe.cons (PLe.of_eq rfl) (SLe.cons (PLe.of_eq rfl) (SLe.cons (PLe.of_eq rfl) (SLe.cons (PLe.of_eq rfl) (SLe.cons (PLe.of_eq rfl) SLe.nil))))) (BLe.cons rfl (PLeAll.refl _ _) BLe.nil) OLe.nil)
        iterate 7 refine AOps.q tt_ok rfl ?_
        refine AOps.nil ?_
        obtain rfl := someE H
        refine V.at false () rfl (Gh.le (SLe.cons (PLe.of_eq rfl) (SLe.cons (PLe.of_eq rfl) (SLe.cons (PLe.of_eq rfl) (SLe.cons (PLe.of_eq rfl) (SLe.cons (PLe.of_eq rfl) SLe.nil))))) (BLe.cons rfl (PLeAll.refl _ _) BLe.nil) OLe.nil)
      subst hn4
      have H := Hp4
      refine V.cH rfl H (fun H => ?_) (fun H => ?_)
      · refine V.seq ?_
        refine V.region ?_
        refine AOps.q tt_ok rfl ?_
        obtain ⟨x46, h46, H⟩ := bindE H
        have k46 := catS_some h46
        refine AOps.catC tt_ok rfl rfl rfl rfl k46.1 k46.2 rfl ?_
        refine AOps.q tt_ok rfl ?_
        refine AOps.nil ?_
        refine V.region ?_
        iterate 3 refine AOps.q tt_ok rfl ?_
        refine AOps.nil ?_
        iterate 2 refine V.blk ?_
        refine V.region ?_
        iterate 3 refine AOps.q tt_ok rfl ?_
        refine AOps.nil ?_
        obtain rfl := someE H
        refine V.againL (x46, (IntKind.i64.wrap ((IntKind.i64.wrap (s1.2 + (1 : Int))) + (1 : Int)))) () hg1 (Gh.le (SLe.cons (PLe.of_eq rfl) (SLe.cons (PLe.of_eq rfl) (SLe.cons (PLe.of_eq rfl) (SLe.cons (PLe.of_eq rfl) SLe.nil)))) (BLe.cons rfl (PLeAll.refl _ _) BLe.nil) OLe.nil)
      refine V.seq ?_
      refine V.region ?_
      iterate 7 refine AOps.q tt_ok rfl ?_
      refine AOps.storeBox tt_ok rfl rfl rfl rfl rfl rfl rfl rfl rfl rfl rfl ?_
      iterate 2 refine AOps.q tt_ok rfl ?_
      refine AOps.nil ?_
      obtain rfl := someE H
      have e1 : fl1 = .ret _ := hg1
      subst e1
      obtain rfl := thenR_ret Hp1
      refine V.retP tt_ok rfl (ps := [(.agg [(pint 4), (.str s1.1), (pint 0), (pint 0)]), (pint (IntKind.i64.wrap (s1.2 + (1 : Int)))), (pbool (decide ((s1.1.length : Int) ≤ (24 : Int))))]) ⟨_, _, rfl, ⟨_, _, _, _, _, rfl, rfl, rfl, rfl⟩, _, _, rfl, rfl, _, _, rfl, rfl, rfl⟩ (PLe.of_eq rfl)
    refine V.exit rfl ?_
    obtain rfl := someE H
    refine V.at (s1.1, s1.2) () hg1 (Gh.le (SLe.cons (PLe.of_eq rfl) SLe.nil) (BLe.cons rfl (PLeAll.refl _ _) BLe.nil) OLe.nil)
  have H := thenR_next hn1 Hp1
  refine V.seq ?_
  refine V.region ?_
  refine AOps.q tt_ok rfl ?_
  refine AOps.storeBox tt_ok rfl rfl rfl rfl rfl rfl rfl rfl rfl rfl rfl ?_
  iterate 2 refine AOps.q tt_ok rfl ?_
  refine AOps.nil ?_
  obtain rfl := someE H
  refine V.retP tt_ok rfl (ps := [(.agg [(pint 0), (.str []), (pint 0), (pint 0)]), (pint 0), (pbool false)]) ⟨_, _, rfl, ⟨_, _, _, _, _, rfl, rfl, rfl, rfl⟩, _, _, rfl, rfl, _, _, rfl, rfl, rfl⟩ (PLe.of_eq rfl)

noncomputable def L_lexer_Quote (sA : List UInt8) : Option ((List UInt8)) :=
  bindP (replL sA ([39] : List UInt8) ([39, 39] : List UInt8)) fun x4 =>
  bindP (catS ([39] : List UInt8) x4) fun (x5 : List UInt8) =>
  bindP (catS x5 ([39] : List UInt8)) fun (x6 : List UInt8) =>
  some x6

set_option maxHeartbeats 4000000 in
theorem W_lexer_Quote (sA : List UInt8) (r : (List UInt8)) (H : L_lexer_Quote sA = some r) :
    PFun Tryd.prog 8 [(.str sA)] (.str r) := by
  unfold L_lexer_Quote at H
  refine PCallsH.intro Tryd.func8 rfl Tryd.ntmps8 rfl ?_
  refine V.seq ?_
  refine V.region ?_
  refine AOps.q tt_ok rfl ?_
  refine AOps.nil ?_
  refine V.seq ?_
  refine V.region ?_
  refine AOps.q tt_ok rfl ?_
  obtain ⟨x4, h4, H⟩ := bindE H
  have s4 := W_repl sA ([39] : List UInt8) ([39, 39] : List UInt8) _ h4
  refine AOps.callP (g := 13) rfl rfl rfl Tryd.call13 (PLeAll.refl _ _) s4 rfl ?_
  obtain ⟨x5, h5, H⟩ := bindE H
  have k5 := catS_some h5
  refine AOps.catC tt_ok rfl rfl rfl rfl k5.1 k5.2 rfl ?_
  obtain ⟨x6, h6, H⟩ := bindE H
  have k6 := catS_some h6
  refine AOps.catC tt_ok rfl rfl rfl rfl k6.1 k6.2 rfl ?_
  refine AOps.q tt_ok rfl ?_
  refine AOps.nil ?_
  obtain rfl := someE H
  refine V.retP tt_ok rfl (ps := [(.str x6)]) ⟨_, _, rfl, rfl, rfl⟩ (PLe.of_eq rfl)

noncomputable def L_slices_Equal_Llexer_Token_lexer_Token (s1A : List LLexerToken) (s2A : List LLexerToken) : Option (Bool) :=
  cond ((s1A.length : Int) != (s2A.length : Int))
    (some false)
    (bindP (rangeM (σ := Unit) (ρ := (Bool)) (fun (j1 : Nat) (x1 : LLexerToken) (_ : Unit) =>
      bindP (getI s2A (j1 : Int)) fun (x22 : LLexerToken) =>
      cond (!(x1.kind == x22.kind && (x1.text == x22.text && (x1.number == x22.number && (x1.offset == x22.offset && true)))))
        (some (.ret false))
        (some (.next ()))) 0 s1A ()) fun fl1 => fl1.thenR fun (_ : Unit) =>
    some true)

set_option maxHeartbeats 4000000 in
theorem W_slices_Equal_Llexer_Token_lexer_Token (s1A : List LLexerToken) (s2A : List LLexerToken) (r : Bool) (H : L_slices_Equal_Llexer_Token_lexer_Token s1A s2A = some r) :
    PFun Tryd.prog 11 [(.list 28 (s1A.map encLexerToken)), (.list 28 (s2A.map encLexerToken))] (pbool r) := by
  unfold L_slices_Equal_Llexer_Token_lexer_Token at H
  refine PCallsH.intro Tryd.func11 rfl Tryd.ntmps11 rfl ?_
  refine V.seq ?_
  refine V.region ?_
  refine AOps.q tt_ok rfl ?_
  refine AOps.nil ?_
  iterate 2 refine V.seq ?_
  refine V.region ?_
  refine AOps.q tt_ok rfl ?_
  refine AOps.lenL tt_ok rfl rfl rfl rfl rfl (List.length_map _) rfl ?_
  refine AOps.q tt_ok rfl ?_
  refine AOps.lenL tt_ok rfl rfl rfl rfl rfl (List.length_map _) rfl ?_
  refine AOps.q tt_ok rfl ?_
  refine AOps.nil ?_
  refine V.cH rfl H (fun H => ?_) (fun H => ?_)
  · refine V.seq ?_
    refine V.region ?_
    refine AOps.q tt_ok rfl ?_
    refine AOps.nil ?_
    obtain rfl := someE H
    refine V.retP tt_ok rfl (ps := [(pbool false)]) ⟨_, _, rfl, rfl, rfl⟩ (PLe.of_eq rfl)
  refine V.skip ?_
  iterate 2 refine V.seq ?_
  refine V.region ?_
  refine AOps.q tt_ok rfl ?_
  refine AOps.lenL tt_ok rfl rfl rfl rfl rfl (List.length_map _) rfl ?_
  refine AOps.q tt_ok rfl ?_
  refine AOps.nil ?_
  obtain ⟨fl1, H1, Hp1⟩ := bindE H
  refine V.lenF tt_ok 0 rfl rfl (fun hz1 _ => ?_)
  rw [List.length_map] at hz1
  refine V.cut (τ := Unit) (γ := Unit) (fun s1 g1 => ⟨26, fun _ => .any, fun _ => none, fun _ => none⟩) (fun t => fl1 = .next t) ?_ (fun s1 g1 hn1 => ?_)
  · refine V.block ?_
    refine V.rangeL (fun j1 s1 g1 => ⟨26, upd (upd (upd (upd (fun _ => .any) 13 (pint (j1 : Int))) 12 (pint (s1A.length : Int))) 1 (.list 28 (s2A.map encLexerToken))) 0 (.list 28 (s1A.map encLexerToken)), fun _ => none, fun _ => none⟩) () H1 (Gh.le (SLe.cons (PLe.of_eq rfl) (SLe.cons (PLe.of_eq rfl) (SLe.cons (PLe.of_eq rfl) (SLe.cons (PLe.of_eq rfl) SLe.nil)))) BLe.nil OLe.nil) (fun j1 s1 g1 hj1 hr1 => ?_)
    refine V.seq ?_
    refine V.region ?_
    refine AOps.q tt_ok rfl ?_
    refine AOps.nil ?_
    refine V.seq ?_
    refine V.cond rfl (fun h => ?_) (fun h => ?_)
    · have hl1 := rowsLt h
      obtain ⟨x1, fb1, hx1, H, hg1⟩ := rangeM_cons hl1 hr1
      refine V.skip ?_
      refine V.seq ?_
      refine V.block ?_
      refine V.seq ?_
      refine V.region ?_
      iterate 2 refine AOps.q tt_ok rfl ?_
      refine AOps.nil ?_
      refine V.seq ?_
      refine V.draw tt_ok mixed_ok ⟨false, false, []⟩ [0, 1, 2, 3, 4, 5, 6, 7, 8] rfl (by decide +kernel) rfl ?_
      iterate 2 refine DOps.q rfl ?_
      refine DOps.idx rfl rfl rfl rfl rfl rfl rfl (Int.natCast_nonneg j1) (rowsGet (fun _ => rfl) hx1) rfl ?_
      iterate 3 refine DOps.q rfl ?_
      obtain ⟨x22, k22, H⟩ := getE H
      refine DOps.idx rfl rfl rfl rfl rfl rfl rfl k22.1 (rowsGetI (fun _ => rfl) k22.2) rfl ?_
      iterate 2 refine DOps.q rfl ?_
      refine DOps.nil ?_
      refine V.cH rfl H (fun H => ?_) (fun H => ?_)
      · refine V.seq ?_
        refine V.region ?_
        refine AOps.q tt_ok rfl ?_
        refine AOps.nil ?_
        obtain rfl := someE H
        have e1 : fl1 = .ret _ := hg1
        subst e1
        obtain rfl := thenR_ret Hp1
        refine V.retP tt_ok rfl (ps := [(pbool false)]) ⟨_, _, rfl, rfl, rfl⟩ (PLe.of_eq rfl)
      refine V.skip ?_
      refine V.blk ?_
      refine V.region ?_
      iterate 2 refine AOps.q tt_ok rfl ?_
      refine AOps.nil ?_
      obtain rfl := someE H
      refine V.againL () () ⟨hl1, hg1⟩ (Gh.le (SLe.cons (PLe.of_eq rfl) (SLe.cons (PLe.of_eq rfl) (SLe.cons (PLe.of_eq rfl) (SLe.cons (PLe.of_eq (pint_succ (by omega))) SLe.nil)))) BLe.nil OLe.nil)
    have hn1 := rangeM_done (rowsGe h) hr1
    refine V.exit rfl ?_
    refine V.at s1 g1 hn1 (Gh.le SLe.nil BLe.nil OLe.nil)
  have H := thenR_next hn1 Hp1
  refine V.seq ?_
  refine V.region ?_
  refine AOps.q tt_ok rfl ?_
  refine AOps.nil ?_
  obtain rfl := someE H
  refine V.retP tt_ok rfl (ps := [(pbool true)]) ⟨_, _, rfl, rfl, rfl⟩ (PLe.of_eq rfl)

end Go.Proofs.YtohlpijmiokkjaaDoor
