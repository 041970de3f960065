/- Lifted functions: printed by lift.py. -/
import Derived.Test.YtohlpijmiokkjaaDoorDat
import Derived.Test.YtohlpijmiokkjaaDoorDatT
import Derived.Test.YtohlpijmiokkjaaDoorNwA
import Derived.Test.YtohlpijmiokkjaaDoorLi1
import Derived.Test.YtohlpijmiokkjaaDoorLi4
import Derived.Test.YtohlpijmiokkjaaDoorLi5
namespace Go.Proofs.YtohlpijmiokkjaaDoor
open Go Go.Ab
attribute [local irreducible] V AOps DOps Gh Eff PCallsH IntKind.wrap
set_option maxRecDepth 4000

noncomputable def L_stemkeep3_LexerOffsets (sA : List UInt8) : Option (Bool) :=
  bindP (L_stemkeep3_tokens) fun x11 =>
  cond (!x11)
    (some false)
    (bindP (L_lexer_Tokenize sA) fun x15 =>
    bindP (rangeM (σ := Unit) (ρ := (Bool)) (fun (j1 : Nat) (x1 : LLexerToken) (_ : Unit) =>
      cond (decide (x1.offset < (0 : Int)))
        (some (.ret false))
        (cond (decide (x1.offset ≥ (sA.length : Int)))
          (some (.ret false))
          (cond (decide ((j1 : Int) > (0 : Int)))
            (bindP (getI x15.1 (IntKind.i64.wrap ((j1 : Int) - (1 : Int)))) fun (x45 : LLexerToken) =>
            cond (decide (x1.offset ≤ x45.offset))
              (some (.ret false))
              (some (.next ())))
            (some (.next ()))))) 0 x15.1 ()) fun fl1 => fl1.thenR fun (_ : Unit) =>
    cond (x15.2.2 != (22 : Int))
      (some (x15.2.1 == (0 : Int)))
      (bindP (subI sA 0 (if (if (sA.length : Int) < x15.2.1 then (sA.length : Int) else x15.2.1) > (0 : Int) then (if (sA.length : Int) < x15.2.1 then (sA.length : Int) else x15.2.1) else (0 : Int))) fun (x63 : List UInt8) =>
      bindP (L_lexer_Tokenize x63) fun x64 =>
      cond (decide (x15.2.1 ≥ (0 : Int)))
        (cond (decide (x15.2.1 < (sA.length : Int)))
          (cond ((x15.1.length : Int) == (0 : Int))
            (some (x64.2.2 == (0 : Int)))
            (some false))
          (some false))
        (some false)))

set_option maxHeartbeats 4000000 in
theorem W_stemkeep3_LexerOffsets (sA : List UInt8) (r : Bool) (H : L_stemkeep3_LexerOffsets sA = some r) :
    PFun Tryd.prog 3 [(.str sA)] (pbool r) := by
  unfold L_stemkeep3_LexerOffsets at H
  refine PCallsH.intro Tryd.func3 rfl Tryd.ntmps3 rfl ?_
  refine V.seq ?_
  refine V.region ?_
  refine AOps.q tt_ok rfl ?_
  refine AOps.nil ?_
  iterate 2 refine V.seq ?_
  refine V.region ?_
  obtain ⟨x11, h11, H⟩ := bindE H
  have s11 := W_stemkeep3_tokens _ h11
  refine AOps.callP (g := 6) rfl rfl rfl Tryd.call6 (PLeAll.refl _ _) s11 rfl ?_
  refine AOps.q tt_ok rfl ?_
  refine AOps.nil ?_
  refine V.cH rfl H (fun H => ?_) (fun H => ?_)
  · refine V.seq ?_
    refine V.region ?_
    refine AOps.q tt_ok rfl ?_
    refine AOps.nil ?_
    obtain rfl := someE H
    refine V.retP tt_ok rfl (ps := [(pbool false)]) ⟨_, _, rfl, rfl, rfl⟩ (PLe.of_eq rfl)
  refine V.skip ?_
  refine V.seq ?_
  refine V.region ?_
  refine AOps.q tt_ok rfl ?_
  obtain ⟨x15, h15, H⟩ := bindE H
  have s15 := W_lexer_Tokenize sA _ h15
  refine AOps.callP (g := 7) rfl rfl rfl Tryd.call7 (PLeAll.refl _ _) s15 rfl ?_
  iterate 7 refine AOps.q tt_ok rfl ?_
  refine AOps.nil ?_
  iterate 2 refine V.seq ?_
  refine V.region ?_
  refine AOps.q tt_ok rfl ?_
  refine AOps.lenL tt_ok rfl rfl rfl rfl rfl (List.length_map _) rfl ?_
  refine AOps.q tt_ok rfl ?_
  refine AOps.nil ?_
  obtain ⟨fl1, H1, Hp1⟩ := bindE H
  refine V.lenF tt_ok 19 rfl rfl (fun hz1 _ => ?_)
  rw [List.length_map] at hz1
  refine V.cut (τ := Unit) (γ := Unit) (fun s1 g1 => ⟨85, upd (upd (upd (upd (fun _ => .any) 5 (pint x15.2.2)) 4 (pint x15.2.1)) 3 (.list 28 (x15.1.map encLexerToken))) 0 (.str sA), fun _ => none, fun _ => none⟩) (fun t => fl1 = .next t) ?_ (fun s1 g1 hn1 => ?_)
  · refine V.block ?_
    refine V.rangeL (fun j1 s1 g1 => ⟨85, upd (upd (upd (upd (upd (upd (upd (fun _ => .any) 21 (pint (j1 : Int))) 20 (pint (x15.1.length : Int))) 19 (.list 28 (x15.1.map encLexerToken))) 5 (pint x15.2.2)) 4 (pint x15.2.1)) 3 (.list 28 (x15.1.map encLexerToken))) 0 (.str sA), fun _ => none, fun _ => none⟩) () H1 (Gh.le (SLe.cons (PLe.of_eq rfl) (SLe.cons (PLe.of_eq rfl) (SLe.cons (PLe.of_eq rfl) (SLe.cons (PLe.of_eq rfl) (SLe.cons (PLe.of_eq rfl) (SLe.cons (PLe.of_eq rfl) (SLe.cons (PLe.of_eq rfl) SLe.nil))))))) BLe.nil OLe.nil) (fun j1 s1 g1 hj1 hr1 => ?_)
    refine V.seq ?_
    refine V.region ?_
    refine AOps.q tt_ok rfl ?_
    refine AOps.nil ?_
    refine V.seq ?_
    refine V.cond rfl (fun h => ?_) (fun h => ?_)
    · have hl1 := rowsLt h
      obtain ⟨x1, fb1, hx1, H, hg1⟩ := rangeM_cons hl1 hr1
      refine V.skip ?_
      refine V.seq ?_
      refine V.block ?_
      refine V.seq ?_
      refine V.region ?_
      refine AOps.q tt_ok rfl ?_
      refine AOps.idx tt_ok rfl rfl rfl rfl rfl rfl (Int.natCast_nonneg j1) (rowsGet (fun _ => rfl) hx1) rfl ?_
      refine AOps.q tt_ok rfl ?_
      refine AOps.alloc tt_ok rfl rfl rfl rfl rfl rfl fun b7 => ?_
      refine AOps.q tt_ok rfl ?_
      refine AOps.storeBox tt_ok rfl rfl rfl rfl rfl rfl rfl rfl rfl rfl rfl ?_
      refine AOps.nil ?_
      refine V.seq ?_
      refine V.draw tt_ok mixed_ok ⟨true, false, [47]⟩ [0, 1, 2, 3, 4, 5, 6, 7, 8, 9, 10, 11, 12, 13, 14, 15, 16, 17, 18, 19, 20, 21, 22, 23, 24] rfl (by decide +kernel) rfl ?_
      refine DOps.q rfl ?_
      refine DOps.loadBox rfl rfl rfl rfl rfl rfl rfl rfl rfl ?_
      iterate 2 refine DOps.q rfl ?_
      refine DOps.sH rfl rfl rfl rfl H (fun H => ?_) (fun H => ?_)
      · refine DOps.q rfl ?_
        iterate 20 refine DOps.q rfl ?_
        refine DOps.nil ?_
        refine V.condT rfl ?_
        refine V.seq ?_
        refine V.region ?_
        refine AOps.q tt_ok rfl ?_
        refine AOps.nil ?_
        obtain rfl := someE H
        have e1 : fl1 = .ret _ := hg1
        subst e1
        obtain rfl := thenR_ret Hp1
        refine V.retP tt_ok rfl (ps := [(pbool false)]) ⟨_, _, rfl, rfl, rfl⟩ (PLe.of_eq rfl)
      refine DOps.q rfl ?_
      refine DOps.loadBox rfl rfl rfl rfl rfl rfl rfl rfl rfl ?_
      iterate 5 refine DOps.q rfl ?_
      refine DOps.sH rfl rfl rfl rfl H (fun H => ?_) (fun H => ?_)
      · refine DOps.q rfl ?_
        iterate 13 refine DOps.q rfl ?_
        refine DOps.nil ?_
        refine V.condT rfl ?_
        refine V.seq ?_
        refine V.region ?_
        refine AOps.q tt_ok rfl ?_
        refine AOps.nil ?_
        obtain rfl := someE H
        have e1 : fl1 = .ret _ := hg1
        subst e1
        obtain rfl := thenR_ret Hp1
        refine V.retP tt_ok rfl (ps := [(pbool false)]) ⟨_, _, rfl, rfl, rfl⟩ (PLe.of_eq rfl)
      iterate 3 refine DOps.q rfl ?_
      refine DOps.sH rfl rfl rfl rfl H (fun H => ?_) (fun H => ?_)
      · refine DOps.q rfl ?_
        refine DOps.loadBox rfl rfl rfl rfl rfl rfl rfl rfl rfl ?_
        iterate 3 refine DOps.q rfl ?_
        obtain ⟨x45, k45, H⟩ := getE H
        refine DOps.idx rfl rfl rfl rfl rfl rfl rfl k45.1 (rowsGetI (fun _ => rfl) k45.2) rfl ?_
        iterate 5 refine DOps.q rfl ?_
        refine DOps.nil ?_
        refine V.cH rfl H (fun H => ?_) (fun H => ?_)
        · refine V.seq ?_
          refine V.region ?_
          refine AOps.q tt_ok rfl ?_
          refine AOps.nil ?_
          obtain rfl := someE H
          have e1 : fl1 = .ret _ := hg1
          subst e1
          obtain rfl := thenR_ret Hp1
          refine V.retP tt_ok rfl (ps := [(pbool false)]) ⟨_, _, rfl, rfl, rfl⟩ (PLe.of_eq rfl)
        refine V.skip ?_
        refine V.blk ?_
        refine V.region ?_
        iterate 2 refine AOps.q tt_ok rfl ?_
        refine AOps.nil ?_
        obtain rfl := someE H
        refine V.againL () () ⟨hl1, hg1⟩ (Gh.le (SLe.cons (PLe.of_eq rfl) (SLe.cons (PLe.of_eq rfl) (SLe.cons (PLe.of_eq rfl) (SLe.cons (PLe.of_eq rfl) (SLe.cons (PLe.of_eq rfl) (SLe.cons (PLe.of_eq rfl) (SLe.cons (PLe.of_eq (pint_succ (by omega))) SLe.nil))))))) BLe.nil OLe.nil)
      iterate 11 refine DOps.q rfl ?_
      refine DOps.nil ?_
      refine V.condF rfl ?_
      refine V.skip ?_
      refine V.blk ?_
      refine V.region ?_
      iterate 2 refine AOps.q tt_ok rfl ?_
      refine AOps.nil ?_
      obtain rfl := someE H
      refine V.againL () () ⟨hl1, hg1⟩ (Gh.le (SLe.cons (PLe.of_eq rfl) (SLe.cons (PLe.of_eq rfl) (SLe.cons (PLe.of_eq rfl) (SLe.cons (PLe.of_eq rfl) (SLe.cons (PLe.of_eq rfl) (SLe.cons (PLe.of_eq rfl) (SLe.cons (PLe.of_eq (pint_succ (by omega))) SLe.nil))))))) BLe.nil OLe.nil)
    have hn1 := rangeM_done (rowsGe h) hr1
    refine V.exit rfl ?_
    refine V.at s1 g1 hn1 (Gh.le (SLe.cons (PLe.of_eq rfl) (SLe.cons (PLe.of_eq rfl) (SLe.cons (PLe.of_eq rfl) (SLe.cons (PLe.of_eq rfl) SLe.nil)))) BLe.nil OLe.nil)
  have H := thenR_next hn1 Hp1
  iterate 2 refine V.seq ?_
  refine V.region ?_
  iterate 2 refine AOps.q tt_ok rfl ?_
  refine AOps.nil ?_
  refine V.cH rfl H (fun H => ?_) (fun H => ?_)
  · refine V.seq ?_
    refine V.region ?_
    iterate 3 refine AOps.q tt_ok rfl ?_
    refine AOps.nil ?_
    obtain rfl := someE H
    refine V.retP tt_ok rfl (ps := [(pbool (x15.2.1 == (0 : Int)))]) ⟨_, _, rfl, rfl, rfl⟩ (PLe.of_eq rfl)
  refine V.skip ?_
  refine V.seq ?_
  refine V.region ?_
  iterate 6 refine AOps.q tt_ok rfl ?_
  obtain ⟨x63, h63, H⟩ := bindE H
  have k63 := subI_some h63
  refine AOps.subS tt_ok rfl rfl rfl rfl rfl rfl rfl k63.1 k63.2 rfl ?_
  obtain ⟨x64, h64, H⟩ := bindE H
  have s64 := W_lexer_Tokenize x63 _ h64
  refine AOps.callP (g := 7) rfl rfl rfl Tryd.call7 (PLeAll.refl _ _) s64 rfl ?_
  iterate 7 refine AOps.q tt_ok rfl ?_
  refine AOps.nil ?_
  refine V.seq ?_
  refine V.region ?_
  iterate 3 refine AOps.q tt_ok rfl ?_
  refine AOps.sH rfl rfl rfl H (fun H => ?_) (fun H => ?_)
  · refine AOps.q tt_ok rfl ?_
    iterate 5 refine AOps.q tt_ok rfl ?_
    refine AOps.sH rfl rfl rfl H (fun H => ?_) (fun H => ?_)
    · refine AOps.q tt_ok rfl ?_
      refine AOps.lenL tt_ok rfl rfl rfl rfl rfl (List.length_map _) rfl ?_
      iterate 3 refine AOps.q tt_ok rfl ?_
      refine AOps.sH rfl rfl rfl H (fun H => ?_) (fun H => ?_)
      · refine AOps.q tt_ok rfl ?_
        iterate 3 refine AOps.q tt_ok rfl ?_
        refine AOps.nil ?_
        obtain rfl := someE H
        refine V.retP tt_ok rfl (ps := [(pbool (x64.2.2 == (0 : Int)))]) ⟨_, _, rfl, rfl, rfl⟩ (PLe.of_eq rfl)
      iterate 4 refine AOps.q tt_ok rfl ?_
      refine AOps.nil ?_
      obtain rfl := someE H
      refine V.retP tt_ok rfl (ps := [(pbool false)]) ⟨_, _, rfl, rfl, rfl⟩ (PLe.of_eq rfl)
    iterate 9 refine AOps.q tt_ok rfl ?_
    refine AOps.nil ?_
    obtain rfl := someE H
    refine V.retP tt_ok rfl (ps := [(pbool false)]) ⟨_, _, rfl, rfl, rfl⟩ (PLe.of_eq rfl)
  iterate 15 refine AOps.q tt_ok rfl ?_
  refine AOps.nil ?_
  obtain rfl := someE H
  refine V.retP tt_ok rfl (ps := [(pbool false)]) ⟨_, _, rfl, rfl, rfl⟩ (PLe.of_eq rfl)

noncomputable def L_stemkeep3_LexerQuoteRoundTrip (sA : List UInt8) : Option (Bool) :=
  bindP (L_stemkeep3_tokens) fun x6 =>
  cond (!x6)
    (some false)
    (cond (decide ((sA.length : Int) > (1000 : Int)))
      (some true)
      (bindP (L_lexer_Quote sA) fun x13 =>
      bindP (L_lexer_Tokenize x13) fun x14 =>
      cond (decide ((sA.length : Int) > (24 : Int)))
        (cond (x14.2.2 == (22 : Int))
          (some (x14.2.1 == (0 : Int)))
          (some false))
        (cond (x14.2.2 == (0 : Int))
          (cond ((x14.1.length : Int) == (1 : Int))
            (bindP (getI x14.1 0) fun (x36 : LLexerToken) =>
            some (x36.kind == (4 : Int) && (x36.text == sA && (x36.number == (0 : Int) && (x36.offset == (0 : Int) && true)))))
            (some false))
          (some false))))

set_option maxHeartbeats 4000000 in
theorem W_stemkeep3_LexerQuoteRoundTrip (sA : List UInt8) (r : Bool) (H : L_stemkeep3_LexerQuoteRoundTrip sA = some r) :
    PFun Tryd.prog 4 [(.str sA)] (pbool r) := by
  unfold L_stemkeep3_LexerQuoteRoundTrip at H
  refine PCallsH.intro Tryd.func4 rfl Tryd.ntmps4 rfl ?_
  refine V.seq ?_
  refine V.region ?_
  refine AOps.q tt_ok rfl ?_
  refine AOps.nil ?_
  iterate 2 refine V.seq ?_
  refine V.region ?_
  obtain ⟨x6, h6, H⟩ := bindE H
  have s6 := W_stemkeep3_tokens _ h6
  refine AOps.callP (g := 6) rfl rfl rfl Tryd.call6 (PLeAll.refl _ _) s6 rfl ?_
  refine AOps.q tt_ok rfl ?_
  refine AOps.nil ?_
  refine V.cH rfl H (fun H => ?_) (fun H => ?_)
  · refine V.seq ?_
    refine V.region ?_
    refine AOps.q tt_ok rfl ?_
    refine AOps.nil ?_
    obtain rfl := someE H
    refine V.retP tt_ok rfl (ps := [(pbool false)]) ⟨_, _, rfl, rfl, rfl⟩ (PLe.of_eq rfl)
  refine V.skip ?_
  iterate 2 refine V.seq ?_
  refine V.region ?_
  iterate 3 refine AOps.q tt_ok rfl ?_
  refine AOps.nil ?_
  refine V.cH rfl H (fun H => ?_) (fun H => ?_)
  · refine V.seq ?_
    refine V.region ?_
    refine AOps.q tt_ok rfl ?_
    refine AOps.nil ?_
    obtain rfl := someE H
    refine V.retP tt_ok rfl (ps := [(pbool true)]) ⟨_, _, rfl, rfl, rfl⟩ (PLe.of_eq rfl)
  refine V.skip ?_
  refine V.seq ?_
  refine V.region ?_
  refine AOps.q tt_ok rfl ?_
  obtain ⟨x13, h13, H⟩ := bindE H
  have s13 := W_lexer_Quote sA _ h13
  refine AOps.callP (g := 8) rfl rfl rfl Tryd.call8 (PLeAll.refl _ _) s13 rfl ?_
  obtain ⟨x14, h14, H⟩ := bindE H
  have s14 := W_lexer_Tokenize x13 _ h14
  refine AOps.callP (g := 7) rfl rfl rfl Tryd.call7 (PLeAll.refl _ _) s14 rfl ?_
  iterate 7 refine AOps.q tt_ok rfl ?_
  refine AOps.nil ?_
  iterate 2 refine V.seq ?_
  refine V.region ?_
  iterate 3 refine AOps.q tt_ok rfl ?_
  refine AOps.nil ?_
  refine V.cH rfl H (fun H => ?_) (fun H => ?_)
  · refine V.seq ?_
    refine V.region ?_
    iterate 3 refine AOps.q tt_ok rfl ?_
    refine AOps.sH rfl rfl rfl H (fun H => ?_) (fun H => ?_)
    · refine AOps.q tt_ok rfl ?_
      iterate 3 refine AOps.q tt_ok rfl ?_
      refine AOps.nil ?_
      obtain rfl := someE H
      refine V.retP tt_ok rfl (ps := [(pbool (x14.2.1 == (0 : Int)))]) ⟨_, _, rfl, rfl, rfl⟩ (PLe.of_eq rfl)
    iterate 4 refine AOps.q tt_ok rfl ?_
    refine AOps.nil ?_
    obtain rfl := someE H
    refine V.retP tt_ok rfl (ps := [(pbool false)]) ⟨_, _, rfl, rfl, rfl⟩ (PLe.of_eq rfl)
  refine V.skip ?_
  refine V.seq ?_
  refine V.region ?_
  iterate 3 refine AOps.q tt_ok rfl ?_
  refine AOps.sH rfl rfl rfl H (fun H => ?_) (fun H => ?_)
  · refine AOps.q tt_ok rfl ?_
    refine AOps.lenL tt_ok rfl rfl rfl rfl rfl (List.length_map _) rfl ?_
    iterate 3 refine AOps.q tt_ok rfl ?_
    refine AOps.sH rfl rfl rfl H (fun H => ?_) (fun H => ?_)
    · refine AOps.q tt_ok rfl ?_
      obtain ⟨x36, k36, H⟩ := getE H
      refine AOps.idx tt_ok rfl rfl rfl rfl rfl rfl k36.1 (rowsGetI (fun _ => rfl) k36.2) rfl ?_
      iterate 6 refine AOps.q tt_ok rfl ?_
      refine AOps.nil ?_
      obtain rfl := someE H
      refine V.retP tt_ok rfl (ps := [(pbool (x36.kind == (4 : Int) && (x36.text == sA && (x36.number == (0 : Int) && (x36.offset == (0 : Int) && true)))))]) ⟨_, _, rfl, rfl, rfl⟩ (PLe.of_eq rfl)
    iterate 8 refine AOps.q tt_ok rfl ?_
    refine AOps.nil ?_
    obtain rfl := someE H
    refine V.retP tt_ok rfl (ps := [(pbool false)]) ⟨_, _, rfl, rfl, rfl⟩ (PLe.of_eq rfl)
  iterate 13 refine AOps.q tt_ok rfl ?_
  refine AOps.nil ?_
  obtain rfl := someE H
  refine V.retP tt_ok rfl (ps := [(pbool false)]) ⟨_, _, rfl, rfl, rfl⟩ (PLe.of_eq rfl)

noncomputable def L_stemkeep3_LexerFormatRoundTrip (sA : List UInt8) : Option (Bool) :=
  bindP (L_stemkeep3_tokens) fun x14 =>
  cond (!x14)
    (some false)
    (bindP (L_lexer_Tokenize sA) fun x18 =>
    letP (
      cond (x18.2.2 != (0 : Int))
        (true)
        ((decide ((x18.1.length : Int) > (300 : Int))))) fun (t1 : Bool) =>
    cond t1
      (some true)
      (bindP (rangeM (σ := List (List UInt8)) (ρ := Empty) (fun (_ : Nat) (x2 : LLexerToken) (s2 : List (List UInt8)) =>
        bindP (L_lexer_Format x2) fun x37 =>
        bindP (appI 16 s2 ([x37] : List (List UInt8))) fun (x39 : List (List UInt8)) =>
        some (.next x39)) 0 x18.1 []) fun fl2 => fl2.thenP fun (s2 : List (List UInt8)) =>
      bindP (joinL s2 ([32] : List UInt8)) fun x42 =>
      cond (decide ((x42.length : Int) > (4000 : Int)))
        (some true)
        (bindP (L_lexer_Tokenize_T x42) fun x48 =>
        bindP (smallI (x48.1.length : Int)) fun (n3 : Nat) =>
        bindP (rangeM (σ := List LLexerToken) (ρ := Empty) (fun (j3 : Nat) (_ : Nat) (s3 : List LLexerToken) =>
          cond (decide ((j3 : Int) < (x18.1.length : Int)))
            (bindP (getI x18.1 (j3 : Int)) fun (x65 : LLexerToken) =>
            bindP (getI s3 (j3 : Int)) fun (x68 : LLexerToken) =>
            letP (s3.set ((j3 : Int).toNat) (LLexerToken.mk x68.kind x68.text x68.number x65.offset)) fun (y6 : List LLexerToken) =>
            some (.next y6))
            (some (.next s3))) 0 (List.range n3) x48.1) fun fl3 => fl3.thenP fun (s3 : List LLexerToken) =>
        cond (x48.2.2 == (0 : Int))
          (bindP (L_slices_Equal_Llexer_Token_lexer_Token x18.1 s3) fun x76 =>
          some x76)
          (some false))))

set_option maxHeartbeats 4000000 in
theorem W_stemkeep3_LexerFormatRoundTrip (sA : List UInt8) (r : Bool) (H : L_stemkeep3_LexerFormatRoundTrip sA = some r) :
    PFun Tryd.prog 5 [(.str sA)] (pbool r) := by
  unfold L_stemkeep3_LexerFormatRoundTrip at H
  refine PCallsH.intro Tryd.func5 rfl Tryd.ntmps5 rfl ?_
  refine V.seq ?_
  refine V.region ?_
  refine AOps.q tt_ok rfl ?_
  refine AOps.nil ?_
  iterate 2 refine V.seq ?_
  refine V.region ?_
  obtain ⟨x14, h14, H⟩ := bindE H
  have s14 := W_stemkeep3_tokens _ h14
  refine AOps.callP (g := 6) rfl rfl rfl Tryd.call6 (PLeAll.refl _ _) s14 rfl ?_
  refine AOps.q tt_ok rfl ?_
  refine AOps.nil ?_
  refine V.cH rfl H (fun H => ?_) (fun H => ?_)
  · refine V.seq ?_
    refine V.region ?_
    refine AOps.q tt_ok rfl ?_
    refine AOps.nil ?_
    obtain rfl := someE H
    refine V.retP tt_ok rfl (ps := [(pbool false)]) ⟨_, _, rfl, rfl, rfl⟩ (PLe.of_eq rfl)
  refine V.skip ?_
  refine V.seq ?_
  refine V.region ?_
  refine AOps.q tt_ok rfl ?_
  obtain ⟨x18, h18, H⟩ := bindE H
  have s18 := W_lexer_Tokenize sA _ h18
  refine AOps.callP (g := 7) rfl rfl rfl Tryd.call7 (PLeAll.refl _ _) s18 rfl ?_
  iterate 7 refine AOps.q tt_ok rfl ?_
  refine AOps.nil ?_
  iterate 2 refine V.seq ?_
  obtain ⟨fl1, H1, Hp1⟩ := letE H
  refine V.cut (τ := Bool) (γ := Unit) (fun t1 g1 => ⟨78, upd (upd (fun _ => .any) 28 (pbool t1)) 3 (.list 28 (x18.1.map encLexerToken)), fun _ => none, fun _ => none⟩) (fun t => t = fl1) ?_ (fun t1 g1 hn1 => ?_)
  · have H := H1
    refine V.region ?_
    iterate 3 refine AOps.q tt_ok rfl ?_
    refine AOps.sH rfl rfl rfl H (fun H => ?_) (fun H => ?_)
    · refine AOps.q tt_ok rfl ?_
      iterate 3 refine AOps.q tt_ok rfl ?_
      refine AOps.nil ?_
      subst H
      refine V.at true () rfl (Gh.le (SLe.cons (PLe.of_eq rfl) (SLe.cons (PLe.of_eq rfl) SLe.nil)) BLe.nil OLe.nil)
    refine AOps.q tt_ok rfl ?_
    refine AOps.lenL tt_ok rfl rfl rfl rfl rfl (List.length_map _) rfl ?_
    iterate 2 refine AOps.q tt_ok rfl ?_
    refine AOps.nil ?_
    subst H
    refine V.at (decide ((x18.1.length : Int) > (300 : Int))) () rfl (Gh.le (SLe.cons (PLe.of_eq rfl) (SLe.cons (PLe.of_eq rfl) SLe.nil)) BLe.nil OLe.nil)
  subst hn1
  have H := Hp1
  refine V.cH rfl H (fun H => ?_) (fun H => ?_)
  · refine V.seq ?_
    refine V.region ?_
    refine AOps.q tt_ok rfl ?_
    refine AOps.nil ?_
    obtain rfl := someE H
    refine V.retP tt_ok rfl (ps := [(pbool true)]) ⟨_, _, rfl, rfl, rfl⟩ (PLe.of_eq rfl)
  refine V.skip ?_
  refine V.seq ?_
  refine V.region ?_
  refine AOps.q tt_ok rfl ?_
  refine AOps.nil ?_
  iterate 2 refine V.seq ?_
  refine V.region ?_
  refine AOps.q tt_ok rfl ?_
  refine AOps.lenL tt_ok rfl rfl rfl rfl rfl (List.length_map _) rfl ?_
  refine AOps.q tt_ok rfl ?_
  refine AOps.nil ?_
  obtain ⟨fl2, H2, Hp2⟩ := bindE H
  refine V.lenF tt_ok 29 rfl rfl (fun hz2 _ => ?_)
  rw [List.length_map] at hz2
  refine V.cut (τ := List (List UInt8)) (γ := OwnRef) (fun s2 g2 => ⟨78, upd (upd (fun _ => .any) 6 (.own 39 g2 (s2.map rStr).length)) 3 (.list 28 (x18.1.map encLexerToken)), fun _ => none, upd (fun _ => none) 39 (some ⟨g2, 9, (s2.map rStr), true⟩)⟩) (fun t => fl2 = .next t) ?_ (fun s2 g2 hn2 => ?_)
  · refine V.block ?_
    refine V.nilO tt_ok 6 39 (e := 9) rfl rfl ?_
    refine V.rangeL (fun j2 s2 g2 => ⟨78, upd (upd (upd (upd (upd (fun _ => .any) 31 (pint (j2 : Int))) 30 (pint (x18.1.length : Int))) 29 (.list 28 (x18.1.map encLexerToken))) 6 (.own 39 g2 (s2.map rStr).length)) 3 (.list 28 (x18.1.map encLexerToken)), fun _ => none, upd (fun _ => none) 39 (some ⟨g2, 9, (s2.map rStr), true⟩)⟩) (⟨none, 0⟩) H2 (Gh.le (SLe.cons (PLe.of_eq rfl) (SLe.cons (PLe.of_eq rfl) (SLe.cons (PLe.of_eq rfl) (SLe.cons (PLe.of_eq rfl) (SLe.cons (PLe.of_eq rfl) SLe.nil))))) BLe.nil (OLe.cons rfl OLe.nil)) (fun j2 s2 g2 hj2 hr2 => ?_)
    refine V.seq ?_
    refine V.region ?_
    refine AOps.q tt_ok rfl ?_
    refine AOps.nil ?_
    refine V.seq ?_
    refine V.cond rfl (fun h => ?_) (fun h => ?_)
    · have hl2 := rowsLt h
      obtain ⟨x2, fb2, hx2, H, hg2⟩ := rangeM_cons hl2 hr2
      refine V.skip ?_
      refine V.seq ?_
      refine V.block ?_
      refine V.seq ?_
      refine V.region ?_
      refine AOps.idx tt_ok rfl rfl rfl rfl rfl rfl (Int.natCast_nonneg j2) (rowsGet (fun _ => rfl) hx2) rfl ?_
      refine AOps.q tt_ok rfl ?_
      refine AOps.alloc tt_ok rfl rfl rfl rfl rfl rfl fun b8 => ?_
      refine AOps.storeBox tt_ok rfl rfl rfl rfl rfl rfl rfl rfl rfl rfl rfl ?_
      refine AOps.nil ?_
      refine V.region ?_
      refine AOps.q tt_ok rfl ?_
      refine AOps.loadBox tt_ok rfl rfl rfl rfl rfl rfl rfl ?_
      obtain ⟨x37, h37, H⟩ := bindE H
      have s37 := W_lexer_Format x2 _ h37
      refine AOps.callP (g := 9) rfl rfl rfl Tryd.call9 (PLeAll.refl _ _) s37 rfl ?_
      refine AOps.bsC tt_ok rfl rfl rfl rfl (rows' := List.map rStr ([x37] : List (List UInt8))) rfl (PLe2Rows.refl _) rfl rfl ?_
      obtain ⟨x39, h39, H⟩ := bindE H
      have k39 := appI_some h39
      refine AOps.appendC (rows2' := List.map rStr ([x37] : List (List UInt8))) (rows' := List.map rStr x39) tt_ok rfl rfl rfl rfl rfl rfl rfl rfl rfl rfl rfl rfl rfl (PLe2Rows.refl _) (appI_by k39.1) (appI_mx k39.2.1) (appI_eq k39.2.2) fun g39 => ?_
      refine AOps.q tt_ok rfl ?_
      refine AOps.nil ?_
      refine V.blk ?_
      refine V.region ?_
      iterate 2 refine AOps.q tt_ok rfl ?_
      refine AOps.nil ?_
      obtain rfl := someE H
      refine V.againL x39 g39 ⟨hl2, hg2⟩ (Gh.le (SLe.cons (PLe.of_eq rfl) (SLe.cons (PLe.of_eq rfl) (SLe.cons (PLe.of_eq rfl) (SLe.cons (PLe.of_eq rfl) (SLe.cons (PLe.of_eq (pint_succ (by omega))) SLe.nil))))) BLe.nil (OLe.cons rfl OLe.nil))
    have hn2 := rangeM_done (rowsGe h) hr2
    refine V.exit rfl ?_
    refine V.at s2 g2 hn2 (Gh.le (SLe.cons (PLe.of_eq rfl) (SLe.cons (PLe.of_eq rfl) SLe.nil)) BLe.nil (OLe.cons rfl OLe.nil))
  have H := thenP_next hn2 Hp2
  refine V.seq ?_
  refine V.freezeO 6 rfl rfl rfl ?_
  refine V.region ?_
  refine AOps.q tt_ok rfl ?_
  obtain ⟨x42, h42, H⟩ := bindE H
  have s42 := W_join s2 ([32] : List UInt8) _ h42
  refine AOps.callP (g := 10) rfl rfl rfl Tryd.call10 (PLeAll.refl _ _) s42 rfl ?_
  refine AOps.q tt_ok rfl ?_
  refine AOps.nil ?_
  iterate 2 refine V.seq ?_
  refine V.region ?_
  iterate 3 refine AOps.q tt_ok rfl ?_
  refine AOps.nil ?_
  refine V.cH rfl H (fun H => ?_) (fun H => ?_)
  · refine V.seq ?_
    refine V.region ?_
    refine AOps.q tt_ok rfl ?_
    refine AOps.nil ?_
    obtain rfl := someE H
    refine V.retP tt_ok rfl (ps := [(pbool true)]) ⟨_, _, rfl, rfl, rfl⟩ (PLe.of_eq rfl)
  refine V.skip ?_
  refine V.seq ?_
  refine V.region ?_
  refine AOps.q tt_ok rfl ?_
  obtain ⟨x48, h48, H⟩ := bindE H
  have s48 := W_lexer_Tokenize_T (m := 48) x42 _ h48
  refine AOps.callOT (g := 7) rfl rfl rfl Tryd.call7 (PLeAll.refl _ _) rfl rfl s48 (fun g48 => ?_)
  iterate 7 refine AOps.q tt_ok rfl ?_
  refine AOps.nil ?_
  iterate 2 refine V.seq ?_
  refine V.region ?_
  refine AOps.q tt_ok rfl ?_
  refine AOps.lenO tt_ok rfl rfl rfl rfl rfl (List.length_map _) rfl ?_
  refine AOps.q tt_ok rfl ?_
  refine AOps.nil ?_
  obtain ⟨n3, hs3, H⟩ := bindE H
  have hz3 := smallI_some hs3
  obtain ⟨fl3, H3, Hp3⟩ := bindE H
  refine V.cut (τ := List LLexerToken) (γ := OwnRef) (fun s3 g3 => ⟨78, upd (upd (upd (fun _ => .any) 12 (pint x48.2.2)) 10 (.own 48 g3 (s3.map encLexerToken).length)) 3 (.list 28 (x18.1.map encLexerToken)), fun _ => none, upd (fun _ => none) 48 (some ⟨g3, 28, (s3.map encLexerToken), true⟩)⟩) (fun t => fl3 = .next t) ?_ (fun s3 g3 hn3 => ?_)
  · refine V.block ?_
    refine V.rangeL (fun j3 s3 g3 => ⟨78, upd (upd (upd (upd (upd (fun _ => .any) 54 (pint (j3 : Int))) 53 (pint (x48.1.length : Int))) 12 (pint x48.2.2)) 10 (.own 48 g3 (s3.map encLexerToken).length)) 3 (.list 28 (x18.1.map encLexerToken)), fun _ => none, upd (fun _ => none) 48 (some ⟨g3, 28, (s3.map encLexerToken), true⟩)⟩) g48 H3 (Gh.le (SLe.cons (PLe.of_eq rfl) (SLe.cons (PLe.of_eq rfl) (SLe.cons (PLe.of_eq rfl) (SLe.cons (PLe.of_eq rfl) (SLe.cons (PLe.of_eq rfl) SLe.nil))))) BLe.nil (OLe.cons rfl OLe.nil)) (fun j3 s3 g3 hj3 hr3 => ?_)
    refine V.seq ?_
    refine V.region ?_
    refine AOps.q tt_ok rfl ?_
    refine AOps.nil ?_
    refine V.seq ?_
    refine V.cond rfl (fun h => ?_) (fun h => ?_)
    · have hl3 := natLt hz3 h
      obtain ⟨x3, fb3, hx3, H, hg3⟩ := rangeM_cons hl3 hr3
      obtain rfl := natX hx3
      refine V.skip ?_
      refine V.seq ?_
      refine V.block ?_
      refine V.seq ?_
      refine V.region ?_
      iterate 2 refine AOps.q tt_ok rfl ?_
      refine AOps.nil ?_
      refine V.seq ?_
      refine V.region ?_
      iterate 2 refine AOps.q tt_ok rfl ?_
      refine AOps.lenL tt_ok rfl rfl rfl rfl rfl (List.length_map _) rfl ?_
      refine AOps.q tt_ok rfl ?_
      refine AOps.nil ?_
      refine V.cH rfl H (fun H => ?_) (fun H => ?_)
      · refine V.region ?_
        iterate 4 refine AOps.q tt_ok rfl ?_
        obtain ⟨x65, k65, H⟩ := getE H
        refine AOps.idx tt_ok rfl rfl rfl rfl rfl rfl k65.1 (rowsGetI (fun _ => rfl) k65.2) rfl ?_
        iterate 2 refine AOps.q tt_ok rfl ?_
        obtain ⟨x68, k68, H⟩ := getE H
        refine AOps.ownF (tag := 48) rfl (fun ho48 => ?_)
        refine AOps.idxO tt_ok rfl rfl rfl rfl rfl rfl rfl ⟨k68.1, (idxLen k68.2)⟩ (idxBlk ho48 k68.2) rfl ?_
        refine AOps.q tt_ok rfl ?_
        obtain ⟨y6, hy6, H⟩ := letE H
        refine AOps.storeO tt_ok rfl rfl rfl rfl rfl rfl rfl rfl (by rw [List.length_map]; exact (List.getElem?_eq_some_iff.1 k68.2).1) (PLe.refl _ _) rfl rfl rfl rfl (by decide) (setRow_map (fun _ => rfl) k68.2 rfl hy6) ?_
        refine AOps.nil ?_
        refine V.blk ?_
        refine V.region ?_
        iterate 2 refine AOps.q tt_ok rfl ?_
        refine AOps.nil ?_
        obtain rfl := someE H
        refine V.againL y6 g3 ⟨hl3, hg3⟩ (Gh.le (SLe.cons (PLe.of_eq rfl) (SLe.cons (PLe.of2 (PLe2.of_eq (congrArg (PV.own 48 g3) (set_len (f := encLexerToken) hy6)))) (SLe.cons (PLe.of_eq rfl) (SLe.cons (PLe.of_eq rfl) (SLe.cons (PLe.of_eq (pint_succN hz3 hl3)) SLe.nil))))) BLe.nil (OLe.cons rfl OLe.nil))
      refine V.skip ?_
      refine V.blk ?_
      refine V.region ?_
      iterate 2 refine AOps.q tt_ok rfl ?_
      refine AOps.nil ?_
      obtain rfl := someE H
      refine V.againL s3 g3 ⟨hl3, hg3⟩ (Gh.le (SLe.cons (PLe.of_eq rfl) (SLe.cons (PLe.of_eq rfl) (SLe.cons (PLe.of_eq rfl) (SLe.cons (PLe.of_eq rfl) (SLe.cons (PLe.of_eq (pint_succN hz3 hl3)) SLe.nil))))) BLe.nil (OLe.cons rfl OLe.nil))
    have hn3 := rangeM_done (natGe hz3 h) hr3
    refine V.exit rfl ?_
    refine V.at s3 g3 hn3 (Gh.le (SLe.cons (PLe.of_eq rfl) (SLe.cons (PLe.of_eq rfl) (SLe.cons (PLe.of_eq rfl) SLe.nil))) BLe.nil (OLe.cons rfl OLe.nil))
  have H := thenP_next hn3 Hp3
  refine V.seq ?_
  refine V.freezeO 10 rfl rfl rfl ?_
  refine V.region ?_
  iterate 3 refine AOps.q tt_ok rfl ?_
  refine AOps.sH rfl rfl rfl H (fun H => ?_) (fun H => ?_)
  · refine AOps.q tt_ok rfl ?_
    refine AOps.q tt_ok rfl ?_
    obtain ⟨x76, h76, H⟩ := bindE H
    have s76 := W_slices_Equal_Llexer_Token_lexer_Token x18.1 s3 _ h76
    refine AOps.callP (g := 11) rfl rfl rfl Tryd.call11 (PLeAll.refl _ _) s76 rfl ?_
    iterate 2 refine AOps.q tt_ok rfl ?_
    refine AOps.nil ?_
    obtain rfl := someE H
    refine V.retP tt_ok rfl (ps := [(pbool x76)]) ⟨_, _, rfl, rfl, rfl⟩ (PLe.of_eq rfl)
  iterate 5 refine AOps.q tt_ok rfl ?_
  refine AOps.nil ?_
  obtain rfl := someE H
  refine V.retP tt_ok rfl (ps := [(pbool false)]) ⟨_, _, rfl, rfl, rfl⟩ (PLe.of_eq rfl)

end Go.Proofs.YtohlpijmiokkjaaDoor
