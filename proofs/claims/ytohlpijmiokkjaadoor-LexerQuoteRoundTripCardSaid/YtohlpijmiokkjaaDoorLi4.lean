/- Lifted functions: printed by lift.py. -/
import Derived.Test.YtohlpijmiokkjaaDoorDat
import Derived.Test.YtohlpijmiokkjaaDoorDatT
import Derived.Test.YtohlpijmiokkjaaDoorNwA
import Derived.Test.YtohlpijmiokkjaaDoorLi3
namespace Go.Proofs.YtohlpijmiokkjaaDoor
open Go Go.Ab
attribute [local irreducible] V AOps DOps Gh Eff PCallsH IntKind.wrap
set_option maxRecDepth 4000

noncomputable def L_lexer_Tokenize (sA : List UInt8) : Option ((List LLexerToken) × Int × Int) :=
  cond (decide ((sA.length : Int) > (4000 : Int)))
    (some ([], 0, 2))
    (bindP (whileM (σ := List LLexerToken × Int) (ρ := ((List LLexerToken) × Int × Int)) (fun (s1 : List LLexerToken × Int) =>
      cond (decide (s1.2 < (sA.length : Int)))
        (bindP (
          bindP (getI sA s1.2) fun (x19 : UInt8) =>
          cond ((x19.toNat : Int) == (32 : Int))
            (some true)
            (bindP (getI sA s1.2) fun (x24 : UInt8) =>
            some ((x24.toNat : Int) == (10 : Int)))) fun (t4 : Bool) =>
        cond t4
          (some (.next (s1.1, (IntKind.i64.wrap (s1.2 + (1 : Int))))))
          (bindP (subI sA s1.2 (sA.length : Int)) fun (x32 : List UInt8) =>
          bindP (L_lexer_one x32) fun x33 =>
          cond (!x33.2.2)
            (some (.ret ([], s1.2, 22)))
            (bindP (appI 40 s1.1 ([(LLexerToken.mk x33.1.kind x33.1.text x33.1.number s1.2)] : List LLexerToken)) fun (x45 : List LLexerToken) =>
            some (.next (x45, (IntKind.i64.wrap (s1.2 + x33.2.1)))))))
        (some (.brk (s1.1, s1.2)))) ([], 0)) fun fl1 => fl1.thenR fun (s1 : List LLexerToken × Int) =>
    some (s1.1, 0, 0))

set_option maxHeartbeats 4000000 in
theorem W_lexer_Tokenize (sA : List UInt8) (r : (List LLexerToken) × Int × Int) (H : L_lexer_Tokenize sA = some r) :
    PFun Tryd.prog 7 [(.str sA)] (.tup [(.list 28 (r.1.map encLexerToken)), (pint r.2.1), (pint r.2.2)]) := by
  unfold L_lexer_Tokenize at H
  refine PCallsH.intro Tryd.func7 rfl Tryd.ntmps7 rfl ?_
  refine V.seq ?_
  refine V.region ?_
  iterate 3 refine AOps.q tt_ok rfl ?_
  refine AOps.nil ?_
  iterate 2 refine V.seq ?_
  refine V.region ?_
  iterate 3 refine AOps.q tt_ok rfl ?_
  refine AOps.nil ?_
  refine V.cH rfl H (fun H => ?_) (fun H => ?_)
  · refine V.seq ?_
    refine V.region ?_
    iterate 3 refine AOps.q tt_ok rfl ?_
    refine AOps.nil ?_
    obtain rfl := someE H
    refine V.retP tt_ok rfl (ps := [(.val (.slice none 0 0)), (pint 0), (pint 2)]) ⟨_, _, rfl, rfl, _, _, rfl, rfl, _, _, rfl, rfl, rfl⟩ (PLe.of2 (PLe2.tup (PLe2All.cons (PLe2.nil tt_ok rfl) (PLe2All.cons (PLe2.of_eq rfl) (PLe2All.cons (PLe2.of_eq rfl) PLe2All.nil)))))
  refine V.skip ?_
  refine V.seq ?_
  refine V.region ?_
  refine AOps.q tt_ok rfl ?_
  refine AOps.nil ?_
  iterate 2 refine V.seq ?_
  refine V.region ?_
  refine AOps.q tt_ok rfl ?_
  refine AOps.nil ?_
  obtain ⟨fl1, H1, Hp1⟩ := bindE H
  refine V.cut (τ := List LLexerToken × Int) (γ := OwnRef) (fun s1 g1 => ⟨50, upd (fun _ => .any) 5 (.own 45 g1 (s1.1.map encLexerToken).length), fun _ => none, upd (fun _ => none) 45 (some ⟨g1, 28, (s1.1.map encLexerToken), true⟩)⟩) (fun t => fl1 = .next t) ?_ (fun s1 g1 hn1 => ?_)
  · refine V.block ?_
    refine V.nilO tt_ok 5 45 (e := 28) rfl rfl ?_
    refine V.whileL (fun s1 g1 => ⟨50, upd (upd (upd (fun _ => .any) 6 (pint s1.2)) 5 (.own 45 g1 (s1.1.map encLexerToken).length)) 0 (.str sA), fun _ => none, upd (fun _ => none) 45 (some ⟨g1, 28, (s1.1.map encLexerToken), true⟩)⟩) (⟨none, 0⟩) H1 (Gh.le (SLe.cons (PLe.of_eq rfl) (SLe.cons (PLe.of_eq rfl) (SLe.cons (PLe.of_eq rfl) SLe.nil))) BLe.nil (OLe.cons rfl OLe.nil)) (fun m1 s1 g1 hr1 => ?_)
    obtain ⟨fb1, H, hg1⟩ := iterM_cons hr1
    iterate 2 refine V.seq ?_
    refine V.region ?_
    iterate 4 refine AOps.q tt_ok rfl ?_
    refine AOps.nil ?_
    refine V.cH rfl H (fun H => ?_) (fun H => ?_)
    · refine V.skip ?_
      refine V.block ?_
      iterate 2 refine V.seq ?_
      obtain ⟨fl4, H4, Hp4⟩ := bindE H
      refine V.cut (τ := Bool) (γ := Unit) (fun t4 g4 => ⟨50, upd (upd (upd (upd (fun _ => .any) 26 (pbool t4)) 6 (pint s1.2)) 5 (.own 45 g1 (s1.1.map encLexerToken).length)) 0 (.str sA), fun _ => none, upd (fun _ => none) 45 (some ⟨g1, 28, (s1.1.map encLexerToken), true⟩)⟩) (fun t => t = fl4) ?_ (fun t4 g4 hn4 => ?_)
      · have H := H4
        refine V.region ?_
        iterate 2 refine AOps.q tt_ok rfl ?_
        obtain ⟨x19, k19, H⟩ := getE H
        refine AOps.idxS tt_ok rfl rfl rfl rfl rfl rfl k19.1 k19.2 rfl ?_
        iterate 2 refine AOps.q tt_ok rfl ?_
        refine AOps.sH rfl rfl rfl H (fun H => ?_) (fun H => ?_)
        · refine AOps.q tt_ok rfl ?_
          iterate 4 refine AOps.q tt_ok rfl ?_
          refine AOps.nil ?_
          obtain rfl := someE H
          refine V.at true () rfl (Gh.le (SLe.cons (PLe.of_eq rfl) (SLe.cons (PLe.of_eq rfl) (SLe.cons (PLe.of_eq rfl) (SLe.cons (PLe.of_eq rfl) SLe.nil)))) BLe.nil (OLe.cons rfl OLe.nil))
        iterate 2 refine AOps.q tt_ok rfl ?_
        obtain ⟨x24, k24, H⟩ := getE H
        refine AOps.idxS tt_ok rfl rfl rfl rfl rfl rfl k24.1 k24.2 rfl ?_
        iterate 2 refine AOps.q tt_ok rfl ?_
        refine AOps.nil ?_
        obtain rfl := someE H
        refine V.at ((x24.toNat : Int) == (10 : Int)) () rfl (Gh.le (SLe.cons (PLe.of_eq rfl) (SLe.cons (PLe.of_eq rfl) (SLe.cons (PLe.of_eq rfl) (SLe.cons (PLe.of_eq rfl) SLe.nil)))) BLe.nil (OLe.cons rfl OLe.nil))
      subst hn4
      have H := Hp4
      refine V.cH rfl H (fun H => ?_) (fun H => ?_)
      · refine V.seq ?_
        refine V.region ?_
        iterate 3 refine AOps.q tt_ok rfl ?_
        refine AOps.nil ?_
        refine V.exit rfl ?_
        obtain rfl := someE H
        refine V.againL (s1.1, (IntKind.i64.wrap (s1.2 + (1 : Int)))) g1 hg1 (Gh.le (SLe.cons (PLe.of_eq rfl) (SLe.cons (PLe.of_eq rfl) (SLe.cons (PLe.of_eq rfl) SLe.nil))) BLe.nil (OLe.cons rfl OLe.nil))
      refine V.skip ?_
      refine V.seq ?_
      refine V.region ?_
      iterate 2 refine AOps.q tt_ok rfl ?_
      obtain ⟨x32, h32, H⟩ := bindE H
      have k32 := subI_some h32
      refine AOps.subS tt_ok rfl rfl rfl rfl rfl rfl rfl k32.1 k32.2 rfl ?_
      obtain ⟨x33, h33, H⟩ := bindE H
      have s33 := W_lexer_one x32 _ h33
      refine AOps.callP (g := 12) rfl rfl rfl Tryd.call12 (PLeAll.refl _ _) s33 rfl ?_
      iterate 4 refine AOps.q tt_ok rfl ?_
      refine AOps.alloc tt_ok rfl rfl rfl rfl rfl rfl fun b7 => ?_
      refine AOps.storeBox tt_ok rfl rfl rfl rfl rfl rfl rfl rfl rfl rfl rfl ?_
      iterate 2 refine AOps.q tt_ok rfl ?_
      refine AOps.nil ?_
      iterate 2 refine V.seq ?_
      refine V.region ?_
      iterate 2 refine AOps.q tt_ok rfl ?_
      refine AOps.nil ?_
      refine V.cH rfl H (fun H => ?_) (fun H => ?_)
      · refine V.seq ?_
        refine V.region ?_
        iterate 4 refine AOps.q tt_ok rfl ?_
        refine AOps.nil ?_
        obtain rfl := someE H
        have e1 : fl1 = .ret _ := hg1
        subst e1
        obtain rfl := thenR_ret Hp1
        refine V.retP tt_ok rfl (ps := [(.val (.slice none 0 0)), (pint s1.2), (pint 22)]) ⟨_, _, rfl, rfl, _, _, rfl, rfl, _, _, rfl, rfl, rfl⟩ (PLe.of2 (PLe2.tup (PLe2All.cons (PLe2.nil tt_ok rfl) (PLe2All.cons (PLe2.of_eq rfl) (PLe2All.cons (PLe2.of_eq rfl) PLe2All.nil)))))
      refine V.skip ?_
      refine V.seq ?_
      refine V.region ?_
      iterate 2 refine AOps.q tt_ok rfl ?_
      refine AOps.storeBox tt_ok rfl rfl rfl rfl rfl rfl rfl rfl rfl rfl rfl ?_
      refine AOps.nil ?_
      refine V.seq ?_
      refine V.region ?_
      refine AOps.q tt_ok rfl ?_
      refine AOps.loadBox tt_ok rfl rfl rfl rfl rfl rfl rfl ?_
      refine AOps.bsC tt_ok rfl rfl rfl rfl (rows' := List.map encLexerToken ([(LLexerToken.mk x33.1.kind x33.1.text x33.1.number s1.2)] : List LLexerToken)) rfl (PLe2Rows.refl _) rfl rfl ?_
      obtain ⟨x45, h45, H⟩ := bindE H
      have k45 := appI_some h45
      refine AOps.appendC (rows2' := List.map encLexerToken ([(LLexerToken.mk x33.1.kind x33.1.text x33.1.number s1.2)] : List LLexerToken)) (rows' := List.map encLexerToken x45) tt_ok rfl rfl rfl rfl rfl rfl rfl rfl rfl rfl rfl rfl rfl (PLe2Rows.refl _) (appI_by k45.1) (appI_mx k45.2.1) (appI_eq k45.2.2) fun g45 => ?_
      refine AOps.q tt_ok rfl ?_
      refine AOps.nil ?_
      refine V.region ?_
      iterate 4 refine AOps.q tt_ok rfl ?_
      refine AOps.nil ?_
      refine V.blk ?_
      obtain rfl := someE H
      refine V.againL (x45, (IntKind.i64.wrap (s1.2 + x33.2.1))) g45 hg1 (Gh.le (SLe.cons (PLe.of_eq rfl) (SLe.cons (PLe.of_eq rfl) (SLe.cons (PLe.of_eq rfl) SLe.nil))) BLe.nil (OLe.cons rfl OLe.nil))
    refine V.exit rfl ?_
    obtain rfl := someE H
    refine V.at (s1.1, s1.2) g1 hg1 (Gh.le (SLe.cons (PLe.of_eq rfl) SLe.nil) BLe.nil (OLe.cons rfl OLe.nil))
  have H := thenR_next hn1 Hp1
  refine V.seq ?_
  refine V.region ?_
  iterate 4 refine AOps.q tt_ok rfl ?_
  refine AOps.nil ?_
  obtain rfl := someE H
  refine V.freezeO 2 rfl rfl rfl ?_
  refine V.retP tt_ok rfl (ps := [(.list 28 (s1.1.map encLexerToken)), (pint 0), (pint 0)]) ⟨_, _, rfl, rfl, _, _, rfl, rfl, _, _, rfl, rfl, rfl⟩ (PLe.of_eq rfl)
noncomputable def L_lexer_Tokenize_T (sA : List UInt8) : Option ((List LLexerToken) × Int × Int) :=
  cond (decide ((sA.length : Int) > (4000 : Int)))
    (some ([], 0, 2))
    (bindP (whileM (σ := List LLexerToken × Int) (ρ := ((List LLexerToken) × Int × Int)) (fun (s1 : List LLexerToken × Int) =>
      cond (decide (s1.2 < (sA.length : Int)))
        (bindP (
          bindP (getI sA s1.2) fun (x19 : UInt8) =>
          cond ((x19.toNat : Int) == (32 : Int))
            (some true)
            (bindP (getI sA s1.2) fun (x24 : UInt8) =>
            some ((x24.toNat : Int) == (10 : Int)))) fun (t4 : Bool) =>
        cond t4
          (some (.next (s1.1, (IntKind.i64.wrap (s1.2 + (1 : Int))))))
          (bindP (subI sA s1.2 (sA.length : Int)) fun (x32 : List UInt8) =>
          bindP (L_lexer_one x32) fun x33 =>
          cond (!x33.2.2)
            (some (.ret ([], s1.2, 22)))
            (bindP (appI 40 s1.1 ([(LLexerToken.mk x33.1.kind x33.1.text x33.1.number s1.2)] : List LLexerToken)) fun (x45 : List LLexerToken) =>
            some (.next (x45, (IntKind.i64.wrap (s1.2 + x33.2.1)))))))
        (some (.brk (s1.1, s1.2)))) ([], 0)) fun fl1 => fl1.thenR fun (s1 : List LLexerToken × Int) =>
    some (s1.1, 0, 0))

set_option maxHeartbeats 4000000 in
theorem W_lexer_Tokenize_T {m : Nat} (sA : List UInt8) (r : (List LLexerToken) × Int × Int) (H : L_lexer_Tokenize_T sA = some r) :
    PCalls Tryd.prog 7 [(.str sA)] (OwnT m 28 (r.1.map encLexerToken) [(pint r.2.1), (pint r.2.2)]) := by
  unfold L_lexer_Tokenize_T at H
  refine PCallsH.intro Tryd.func7 rfl Tryd.ntmps7 rfl ?_
  refine V.seq ?_
  refine V.region ?_
  iterate 3 refine AOps.q tt_ok rfl ?_
  refine AOps.nil ?_
  iterate 2 refine V.seq ?_
  refine V.region ?_
  iterate 3 refine AOps.q tt_ok rfl ?_
  refine AOps.nil ?_
  refine V.cH rfl H (fun H => ?_) (fun H => ?_)
  · refine V.seq ?_
    refine V.region ?_
    iterate 3 refine AOps.q tt_ok rfl ?_
    refine AOps.nil ?_
    obtain rfl := someE H
    refine V.nilO tt_ok 2 902 (e := 28) rfl rfl ?_
    refine V.retOT tt_ok rfl rfl rfl rfl rfl rfl rfl
  refine V.skip ?_
  refine V.seq ?_
  refine V.region ?_
  refine AOps.q tt_ok rfl ?_
  refine AOps.nil ?_
  iterate 2 refine V.seq ?_
  refine V.region ?_
  refine AOps.q tt_ok rfl ?_
  refine AOps.nil ?_
  obtain ⟨fl1, H1, Hp1⟩ := bindE H
  refine V.cut (τ := List LLexerToken × Int) (γ := OwnRef) (fun s1 g1 => ⟨50, upd (fun _ => .any) 5 (.own 45 g1 (s1.1.map encLexerToken).length), fun _ => none, upd (fun _ => none) 45 (some ⟨g1, 28, (s1.1.map encLexerToken), true⟩)⟩) (fun t => fl1 = .next t) ?_ (fun s1 g1 hn1 => ?_)
  · refine V.block ?_
    refine V.nilO tt_ok 5 45 (e := 28) rfl rfl ?_
    refine V.whileL (fun s1 g1 => ⟨50, upd (upd (upd (fun _ => .any) 6 (pint s1.2)) 5 (.own 45 g1 (s1.1.map encLexerToken).length)) 0 (.str sA), fun _ => none, upd (fun _ => none) 45 (some ⟨g1, 28, (s1.1.map encLexerToken), true⟩)⟩) (⟨none, 0⟩) H1 (Gh.le (SLe.cons (PLe.of_eq rfl) (SLe.cons (PLe.of_eq rfl) (SLe.cons (PLe.of_eq rfl) SLe.nil))) BLe.nil (OLe.cons rfl OLe.nil)) (fun m1 s1 g1 hr1 => ?_)
    obtain ⟨fb1, H, hg1⟩ := iterM_cons hr1
    iterate 2 refine V.seq ?_
    refine V.region ?_
    iterate 4 refine AOps.q tt_ok rfl ?_
    refine AOps.nil ?_
    refine V.cH rfl H (fun H => ?_) (fun H => ?_)
    · refine V.skip ?_
      refine V.block ?_
      iterate 2 refine V.seq ?_
      obtain ⟨fl4, H4, Hp4⟩ := bindE H
      refine V.cut (τ := Bool) (γ := Unit) (fun t4 g4 => ⟨50, upd (upd (upd (upd (fun _ => .any) 26 (pbool t4)) 6 (pint s1.2)) 5 (.own 45 g1 (s1.1.map encLexerToken).length)) 0 (.str sA), fun _ => none, upd (fun _ => none) 45 (some ⟨g1, 28, (s1.1.map encLexerToken), true⟩)⟩) (fun t => t = fl4) ?_ (fun t4 g4 hn4 => ?_)
      · have H := H4
        refine V.region ?_
        iterate 2 refine AOps.q tt_ok rfl ?_
        obtain ⟨x19, k19, H⟩ := getE H
        refine AOps.idxS tt_ok rfl rfl rfl rfl rfl rfl k19.1 k19.2 rfl ?_
        iterate 2 refine AOps.q tt_ok rfl ?_
        refine AOps.sH rfl rfl rfl H (fun H => ?_) (fun H => ?_)
        · refine AOps.q tt_ok rfl ?_
          iterate 4 refine AOps.q tt_ok rfl ?_
          refine AOps.nil ?_
          obtain rfl := someE H
          refine V.at true () rfl (Gh.le (SLe.cons (PLe.of_eq rfl) (SLe.cons (PLe.of_eq rfl) (SLe.cons (PLe.of_eq rfl) (SLe.cons (PLe.of_eq rfl) SLe.nil)))) BLe.nil (OLe.cons rfl OLe.nil))
        iterate 2 refine AOps.q tt_ok rfl ?_
        obtain ⟨x24, k24, H⟩ := getE H
        refine AOps.idxS tt_ok rfl rfl rfl rfl rfl rfl k24.1 k24.2 rfl ?_
        iterate 2 refine AOps.q tt_ok rfl ?_
        refine AOps.nil ?_
        obtain rfl := someE H
        refine V.at ((x24.toNat : Int) == (10 : Int)) () rfl (Gh.le (SLe.cons (PLe.of_eq rfl) (SLe.cons (PLe.of_eq rfl) (SLe.cons (PLe.of_eq rfl) (SLe.cons (PLe.of_eq rfl) SLe.nil)))) BLe.nil (OLe.cons rfl OLe.nil))
      subst hn4
      have H := Hp4
      refine V.cH rfl H (fun H => ?_) (fun H => ?_)
      · refine V.seq ?_
        refine V.region ?_
        iterate 3 refine AOps.q tt_ok rfl ?_
        refine AOps.nil ?_
        refine V.exit rfl ?_
        obtain rfl := someE H
        refine V.againL (s1.1, (IntKind.i64.wrap (s1.2 + (1 : Int)))) g1 hg1 (Gh.le (SLe.cons (PLe.of_eq rfl) (SLe.cons (PLe.of_eq rfl) (SLe.cons (PLe.of_eq rfl) SLe.nil))) BLe.nil (OLe.cons rfl OLe.nil))
      refine V.skip ?_
      refine V.seq ?_
      refine V.region ?_
      iterate 2 refine AOps.q tt_ok rfl ?_
      obtain ⟨x32, h32, H⟩ := bindE H
      have k32 := subI_some h32
      refine AOps.subS tt_ok rfl rfl rfl rfl rfl rfl rfl k32.1 k32.2 rfl ?_
      obtain ⟨x33, h33, H⟩ := bindE H
      have s33 := W_lexer_one x32 _ h33
      refine AOps.callP (g := 12) rfl rfl rfl Tryd.call12 (PLeAll.refl _ _) s33 rfl ?_
      iterate 4 refine AOps.q tt_ok rfl ?_
      refine AOps.alloc tt_ok rfl rfl rfl rfl rfl rfl fun b7 => ?_
      refine AOps.storeBox tt_ok rfl rfl rfl rfl rfl rfl rfl rfl rfl rfl rfl ?_
      iterate 2 refine AOps.q tt_ok rfl ?_
      refine AOps.nil ?_
      iterate 2 refine V.seq ?_
      refine V.region ?_
      iterate 2 refine AOps.q tt_ok rfl ?_
      refine AOps.nil ?_
      refine V.cH rfl H (fun H => ?_) (fun H => ?_)
      · refine V.seq ?_
        refine V.region ?_
        iterate 4 refine AOps.q tt_ok rfl ?_
        refine AOps.nil ?_
        obtain rfl := someE H
        have e1 : fl1 = .ret _ := hg1
        subst e1
        obtain rfl := thenR_ret Hp1
        refine V.nilO tt_ok 2 902 (e := 28) rfl rfl ?_
        refine V.retOT tt_ok rfl rfl rfl rfl rfl rfl rfl
      refine V.skip ?_
      refine V.seq ?_
      refine V.region ?_
      iterate 2 refine AOps.q tt_ok rfl ?_
      refine AOps.storeBox tt_ok rfl rfl rfl rfl rfl rfl rfl rfl rfl rfl rfl ?_
      refine AOps.nil ?_
      refine V.seq ?_
      refine V.region ?_
      refine AOps.q tt_ok rfl ?_
      refine AOps.loadBox tt_ok rfl rfl rfl rfl rfl rfl rfl ?_
      refine AOps.bsC tt_ok rfl rfl rfl rfl (rows' := List.map encLexerToken ([(LLexerToken.mk x33.1.kind x33.1.text x33.1.number s1.2)] : List LLexerToken)) rfl (PLe2Rows.refl _) rfl rfl ?_
      obtain ⟨x45, h45, H⟩ := bindE H
      have k45 := appI_some h45
      refine AOps.appendC (rows2' := List.map encLexerToken ([(LLexerToken.mk x33.1.kind x33.1.text x33.1.number s1.2)] : List LLexerToken)) (rows' := List.map encLexerToken x45) tt_ok rfl rfl rfl rfl rfl rfl rfl rfl rfl rfl rfl rfl rfl (PLe2Rows.refl _) (appI_by k45.1) (appI_mx k45.2.1) (appI_eq k45.2.2) fun g45 => ?_
      refine AOps.q tt_ok rfl ?_
      refine AOps.nil ?_
      refine V.region ?_
      iterate 4 refine AOps.q tt_ok rfl ?_
      refine AOps.nil ?_
      refine V.blk ?_
      obtain rfl := someE H
      refine V.againL (x45, (IntKind.i64.wrap (s1.2 + x33.2.1))) g45 hg1 (Gh.le (SLe.cons (PLe.of_eq rfl) (SLe.cons (PLe.of_eq rfl) (SLe.cons (PLe.of_eq rfl) SLe.nil))) BLe.nil (OLe.cons rfl OLe.nil))
    refine V.exit rfl ?_
    obtain rfl := someE H
    refine V.at (s1.1, s1.2) g1 hg1 (Gh.le (SLe.cons (PLe.of_eq rfl) SLe.nil) BLe.nil (OLe.cons rfl OLe.nil))
  have H := thenR_next hn1 Hp1
  refine V.seq ?_
  refine V.region ?_
  iterate 4 refine AOps.q tt_ok rfl ?_
  refine AOps.nil ?_
  obtain rfl := someE H
  refine V.retOT tt_ok rfl rfl rfl rfl rfl rfl rfl

end Go.Proofs.YtohlpijmiokkjaaDoor
