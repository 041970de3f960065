/- Lifted functions: printed by lift.py. -/
import Derived.Test.YtohlpijmiokkjaaDoorDat
import Derived.Test.YtohlpijmiokkjaaDoorDatT
import Derived.Test.YtohlpijmiokkjaaDoorNwA
import Derived.Test.YtohlpijmiokkjaaDoorLi1
import Derived.Test.YtohlpijmiokkjaaDoorLi4
import Derived.Test.YtohlpijmiokkjaaDoorLi5
namespace Go.Proofs.YtohlpijmiokkjaaDoor
open Go Go.Ab
attribute [local irreducible] V AOps DOps Gh Eff PCallsH IntKind.wrap
set_option maxRecDepth 4000

noncomputable def L_stemkeep3_LexerOffsets (sA : List UInt8) : Option (Bool) :=
  bindP (L_stemkeep3_tokens) fun x11 =>
  cond (!x11)
    (some false)
    (bindP (L_lexer_Tokenize sA) fun x15 =>
    bindP (rangeM (σ := Unit) (ρ := (Bool)) (fun (j1 : Nat) (x1 : LLexerToken) (_ : Unit) =>
      cond (decide (x1.offset < (0 : Int)))
        (some (.ret false))
        (cond (decide (x1.offset ≥ (sA.length : Int)))
          (some (.ret false))
          (cond (decide ((j1 : Int) > (0 : Int)))
            (bindP (getI x15.1 (IntKind.i64.wrap ((j1 : Int) - (1 : Int)))) fun (x45 : LLexerToken) =>
            cond (decide (x1.offset ≤ x45.offset))
              (some (.ret false))
              (some (.next ())))
            (some (.next ()))))) 0 x15.1 ()) fun fl1 => fl1.thenR fun (_ : Unit) =>
    cond (x15.2.2 != (22 : Int))
      (some (x15.2.1 == (0 : Int)))
      (bindP (subI sA 0 (if (if (sA.length : Int) < x15.2.1 then (sA.length : Int) else x15.2.1) > (0 : Int) then (if (sA.length : Int) < x15.2.1 then (sA.length : Int) else x15.2.1) else (0 : Int))) fun (x63 : List UInt8) =>
      bindP (L_lexer_Tokenize x63) fun x64 =>
      cond (decide (x15.2.1 ≥ (0 : Int)))
        (cond (decide (x15.2.1 < (sA.length : Int)))
          (cond ((x15.1.length : Int) == (0 : Int))
            (some (x64.2.2 == (0 : Int)))
            (some false))
          (some false))
        (some false)))

set_option maxHeartbeats 4000000 in
theorem W_stemkeep3_LexerOffsets (sA : List UInt8) (r : Bool) (H : L_stemkeep3_LexerOffsets sA = some r) :
    PFun Tryd.prog 3 [(.str sA)] (pbool r) := by
  unfold L_stemkeep3_LexerOffsets at H
  refine PCallsH.intro Tryd.func3 rfl Tryd.ntmps3 rfl ?_
  refine V.seq ?_
  refine V.region ?_
  refine AOps.q tt_ok rfl ?_
  refine AOps.nil ?_
  iterate 2 refine V.seq ?_
  refine V.region ?_
  obtain ⟨x11, h11, H⟩ := bindE H
  have s11 := W_stemkeep3_tokens _ h11
  refine AOps.callP (g := 6) rfl rfl rfl Tryd.call6 (PLeAll.refl _ _) s11 rfl ?_
  refine AOps.q tt_ok rfl ?_
  refine AOps.nil ?_
  refine V.cH rfl H (fun H => ?_) (fun H => ?_)
  · refine V.seq ?_
    refine V.region ?_
    refine AOps.q tt_ok rfl ?_
    refine AOps.nil ?_
    obtain rfl := someE H
    refine V.retP tt_ok rfl (ps := [(pbool false)]) ⟨_, _, rfl, rfl, rfl⟩ (PLe.of_eq rfl)
  refine V.skip ?_
  refine V.seq ?_
  refine V.region ?_
  refine AOps.q tt_ok rfl ?_
  obtain ⟨x15, h15, H⟩ := bindE H
  have s15 := W_lexer_Tokenize sA _ h15
  refine AOps.callP (g := 7) rfl rfl rfl Tryd.call7 (PLeAll.refl _ _) s15 rfl ?_
  iterate 7 refine AOps.q tt_ok rfl ?_
  refine AOps.nil ?_
  iterate 2 refine V.seq ?_
  refine V.region ?_
  refine AOps.q tt_ok rfl ?_
  refine AOps.lenL tt_ok rfl rfl rfl rfl rfl (List.length_map _) rfl ?_
  refine AOps.q tt_ok rfl ?_
  refine AOps.nil ?_
  obtain ⟨fl1, H1, Hp1⟩ := bindE H
  refine V.lenF tt_ok 19 rfl rfl (fun hz1 _ => ?_)
  rw [List.length_map] at hz1
  refine V.cut (τ := Unit) (γ := Unit) (fun s1 g1 => ⟨85, upd (upd (upd (upd (fun _ => .any) 5 (pint x15.2.2)) 4 (pint x15.2.1)) 3 (.list 28 (x15.1.map encLexerToken))) 0 (.str sA), fun _ => none, fun _ => none⟩) (fun t => fl1 = .next t) ?_ (fun s1 g1 hn1 => ?_)
  · refine V.block ?_
    refine V.rangeL (fun j1 s1 g1 => ⟨85, upd (upd (upd (upd (upd (upd (upd (fun _ => .any) 21 (pint (j1 : Int))) 20 (pint (x15.1.length : Int))) 19 (.list 28 (x15.1.map encLexerToken))) 5 (pint x15.2.2)) 4 (pint x15.2.1)) 3 (.list 28 (x15.1.map encLexerToken))) 0 (.str sA), fun _ => none, fun _ => none⟩) () H1 (Gh.le (SLe.cons (PLe.of_eq rfl) (SLe.cons (PLe.of_eq rfl) (SLe.cons (PLe.of_eq rfl) (SLe.cons (PLe.of_eq rfl) (SLe.cons (PLe.of_eq rfl) (SLe.cons (PLe.of_eq rfl) (SLe.cons (PLe.of_eq rfl) SLe.nil))))))) BLe.nil OLe.nil) (fun j1 s1 g1 hj1 hr1 => ?_)
    refine V.seq ?_
    refine V.region ?_
    refine AOps.q tt_ok rfl ?_
    refine AOps.nil ?_
    refine V.seq ?_
    refine V.cond rfl (fun h => ?_) (fun h => ?_)
    · have hl1 := rowsLt h
      obtain ⟨x1, fb1, hx1, H, hg1⟩ := rangeM_cons hl1 hr1
      refine V.skip ?_
      refine V.seq ?_
      refine V.block ?_
      refine V.seq ?_
      refine V.region ?_
      refine AOps.q tt_ok rfl ?_
      refine AOps.idx tt_ok rfl rfl rfl rfl rfl rfl (Int.natCast_nonneg j1) (rowsGet (fun _ => rfl) hx1) rfl ?_
      refine AOps.q tt_ok rfl ?_
      refine AOps.alloc tt_ok rfl rfl rfl rfl rfl rfl fun b7 => ?_
      refine AOps.q tt_ok rfl ?_
      refine AOps.storeBox tt_ok rfl rfl rfl rfl rfl rfl rfl rfl rfl rfl rfl ?_
      refine AOps.nil ?_
      refine V.seq ?_
      refine V.draw tt_ok mixed_ok ⟨true, false, [47]⟩ [0, 1, 2, 3, 4, 5, 6, 7, 8, 9, 10, 11, 12, 13, 14, 15, 16, 17, 18, 19, 20, 21, 22, 23, 24] rfl (by decide +kernel) rfl ?_
      refine DOps.q rfl ?_
      refine DOps.loadBox rfl rfl rfl rfl rfl rfl rfl rfl rfl ?_
      iterate 2 refine DOps.q rfl ?_
      refine DOps.sH rfl rfl rfl rfl H (fun H => ?_) (fun H => ?_)
      · refine DOps.q rfl ?_
        iterate 20 refine DOps.q rfl ?_
        refine DOps.nil ?_
        refine V.condT rfl ?_
        refine V.seq ?_
        refine V.region ?_
        refine AOps.q tt_ok rfl ?_
        refine AOps.nil ?_
        obtain rfl := someE H
        have e1 : fl1 = .ret _ := hg1
        subst e1
        obtain rfl := thenR_ret Hp1
        refine V.retP tt_ok rfl (ps := [(pbool false)]) ⟨_, _, rfl, rfl, rfl⟩ (PLe.of_eq rfl)
      refine DOps.q rfl ?_
      refine DOps.loadBox rfl rfl rfl rfl rfl rfl rfl rfl rfl ?_
      iterate 5 refine DOps.q rfl ?_
      refine DOps.sH rfl rfl rfl rfl H (fun H => ?_) (fun H => ?_)
      · refine DOps.q rfl ?_
        iterate 13 refine DOps.q rfl ?_
        refine DOps.nil ?_
        refine V.condT rfl ?_
        refine V.seq ?_
        refine V.region ?_
        refine AOps.q tt_ok rfl ?_
        refine AOps.nil ?_
        obtain rfl := someE H
        have e1 : fl1 = .ret _ := hg1
        subst e1
        obtain rfl := thenR_ret Hp1
        refine V.retP tt_ok rfl (ps := [(pbool false)]) ⟨_, _, rfl, rfl, rfl⟩ (PLe.of_eq rfl)
      iterate 3 refine DOps.q rfl ?_
      refine DOps.sH rfl rfl rfl rfl H (fun H => ?_) (fun H => ?_)
      · refine DOps.q rfl ?_
        refine DOps.loadBox rfl rfl rfl rfl rfl rfl rfl rfl rfl ?_
        iterate 3 refine DOps.q rfl ?_
        obtain ⟨x45, k45, H⟩ := getE H
        refine DOps.idx rfl rfl rfl rfl rfl rfl rfl k45.1 (rowsGetI (fun _ => rfl) k45.2) rfl ?_
        iterate 5 refine DOps.q rfl ?_
        refine DOps.nil ?_
        refine V.cH rfl H (fun H => ?_) (fun H => ?_)
        · refine V.seq ?_
          refine V.region ?_
          refine AOps.q tt_ok rfl ?_
          refine AOps.nil ?_
          obtain rfl := someE H
          have e1 : fl1 = .ret _ := hg1
          subst e1
          obtain rfl := thenR_ret Hp1
          refine V.retP tt_ok rfl (ps := [(pbool false)]) ⟨_, _, rfl, rfl, rfl⟩ (PLe.of_eq rfl)
        refine V.skip ?_
        refine V.blk ?_
        refine V.region ?_
        iterate 2 refine AOps.q tt_ok rfl ?_
        refine AOps.nil ?_
        obtain rfl := someE H
        refine V.againL () () ⟨hl1, hg1⟩ (Gh.le (SLe.cons (PLe.of_eq rfl) (SLe.cons (PLe.of_eq rfl) (SLe.cons (PLe.of_eq rfl) (SLe.cons (PLe.of_eq rfl) (SLe.cons (PLe.of_eq rfl) (SLe.cons (PLe.of_eq rfl) (SLe.cons (PLe.of_eq (pint_succ (by omega))) SLe.nil))))))) BLe.nil OLe.nil)
      iterate 11 refine DOps.q rfl ?_
      refine DOps.nil ?_
      refine V.condF rfl ?_
      refine V.skip ?_
      refine V.blk ?_
      refine V.region ?_
      iterate 2 refine AOps.q tt_ok rfl ?_
      refine AOps.nil ?_
      obtain rfl := someE H
      refine V.againL () () ⟨hl1, hg1⟩ (Gh.le (SLe.cons (PLe.of_eq rfl) (SLe.cons (PLe.of_eq rfl) (SLe.cons (PLe.of_eq rfl) (SLe.cons (PLe.of_eq rfl) (SLe.cons (PLe.of_eq rfl) (SLe.cons (PLe.of_eq rfl) (SLe.cons (PLe.of_eq (pint_succ (by omega))) SLe.nil))))))) BLe.nil OLe.nil)
    have hn1 := rangeM_done (rowsGe h) hr1
    refine V.exit rfl ?_
    refine V.at s1 g1 hn1 (Gh.le (SLe.cons (PLe.of_eq rfl) (SLe.cons (PLe.of_eq rfl) (SLe.cons (PLe.of_eq rfl) (SLe.cons (PLe.of_eq rfl) SLe.nil)))) BLe.nil OLe.nil)
  have H := thenR_next hn1 Hp1
  iterate 2 refine V.seq ?_
  refine V.region ?_
  iterate 2 refine AOps.q tt_ok rfl ?_
  refine AOps.nil ?_
  refine V.cH rfl H (fun H => ?_) (fun H => ?_)
  · refine V.seq ?_
    refine V.region ?_
    iterate 3 refine AOps.q tt_ok rfl ?_
    refine AOps.nil ?_
    obtain rfl := someE H
    refine V.retP tt_ok rfl (ps := [(pbool (x15.2.1 == (0 : Int)))]) ⟨_, _, rfl, rfl, rfl⟩ (PLe.of_eq rfl)
  refine V.skip ?_
  refine V.seq ?_
  refine V.region ?_
  iterate 6 refine AOps.q tt_ok rfl ?_
  obtain ⟨x63, h63, H⟩ := bindE H
  have k63 := subI_some h63
  refine AOps.subS tt_ok rfl rfl rfl rfl rfl rfl rfl k63.1 k63.2 rfl ?_
  obtain ⟨x64, h64, H⟩ := bindE H
  have s64 := W_lexer_Tokenize x63 _ h64
  refine AOps.callP (g := 7) rfl rfl rfl Tryd.call7 (PLeAll.refl _ _) s64 rfl ?_
  iterate 7 refine AOps.q tt_ok rfl ?_
  refine AOps.nil ?_
  refine V.seq ?_
  refine V.region ?_
  iterate 3 refine AOps.q tt_ok rfl ?_
  refine AOps.sH rfl rfl rfl H (fun H => ?_) (fun H => ?_)
  · refine AOps.q tt_ok rfl ?_
    iterate 5 refine AOps.q tt_ok rfl ?_
    refine AOps.sH rfl rfl rfl H (fun H => ?_) (fun H => ?_)
    · refine AOps.q tt_ok rfl ?_
      refine AOps.lenL tt_ok rfl rfl rfl rfl rfl (List.length_map _) rfl ?_
      iterate 3 refine AOps.q tt_ok rfl ?_
      refine AOps.sH rfl rfl rfl H (fun H => ?_) (fun H => ?_)
      · refine AOps.q tt_ok rfl ?_
        iterate 3 refine AOps.q tt_ok rfl ?_
        refine AOps.nil ?_
        obtain rfl := someE H
        refine V.retP tt_ok rfl (ps := [(pbool (x64.2.2 == (0 : Int)))]) ⟨_, _, rfl, rfl, rfl⟩ (PLe.of_eq rfl)
      iterate 4 refine AOps.q tt_ok rfl ?_
      refine AOps.nil ?_
      obtain rfl := someE H
      refine V.retP tt_ok rfl (ps := [(pbool false)]) ⟨_, _, rfl, rfl, rfl⟩ (PLe.of_eq rfl)
    iterate 9 refine AOps.q tt_ok rfl ?_
    refine AOps.nil ?_
    obtain rfl := someE H
    refine V.retP tt_ok rfl (ps := [(pbool false)]) ⟨_, _, rfl, rfl, rfl⟩ (PLe.of_eq rfl)
  iterate 15 refine AOps.q tt_ok rfl ?_
  refine AOps.nil ?_
  obtain rfl := someE H
  refine V.retP tt_ok rfl (ps := [(pbool false)]) ⟨_, _, rfl, rfl, rfl⟩ (PLe.of_eq rfl)

noncomputable def L_stemkeep3_LexerQuoteRoundTrip (sA : List UInt8) : Option (Bool) :=
  bindP (L_stemkeep3_tokens) fun x6 =>
  cond (!x6)
    (some false)
    (cond (decide ((sA.length : Int) > (1000 : Int)))
      (some true)
      (bindP (L_lexer_Quote sA) fun x13 =>
      bindP (L_lexer_Tokenize x13) fun x14 =>
      cond (decide ((sA.length : Int) > (24 : Int)))
        (cond (x14.2.2 == (22 : Int))
          (some (x14.2.1 == (0 : Int)))
          (some false))
        (cond (x14.2.2 == (0 : Int))
          (cond ((x14.1.length : Int) == (1 : Int))
            (bindP (getI x14.1 0) fun (x36 : LLexerToken) =>
            some (x36.kind == (4 : Int) && (x36.text == sA && (x36.number == (0 : Int) && (x36.offset == (0 : Int) && true)))))
            (some false))
          (some false))))

set_option maxHeartbeats 4000000 in
theorem W_stemkeep3_LexerQuoteRoundTrip (sA : List UInt8) (r : Bool) (H : L_stemkeep3_LexerQuoteRoundTrip sA = some r) :
    PFun Tryd.prog 4 [(.str sA)] (pbool r) := by
  unfold L_stemkeep3_LexerQuoteRoundTrip at H
  refine PCallsH.intro Tryd.func4 rfl Tryd.ntmps4 rfl ?_
  refine V.seq ?_
  refine V.region ?_
  refine AOps.q tt_ok rfl ?_
  refine AOps.nil ?_
  iterate 2 refine V.seq ?_
  refine V.region ?_
  obtain ⟨x6, h6, H⟩ := bindE H
  have s6 := W_stemkeep3_tokens _ h6
  refine AOps.callP (g := 6) rfl rfl rfl Tryd.call6 (PLeAll.refl _ _) s6 rfl ?_
  refine AOps.q tt_ok rfl ?_
  refine AOps.nil ?_
  refine V.cH rfl H (fun H => ?_) (fun H => ?_)
  · refine V.seq ?_
    refine V.region ?_
    refine AOps.q tt_ok rfl ?_
    refine AOps.nil ?_
    obtain rfl := someE H
    refine V.retP tt_ok rfl (ps := [(pbool false)]) ⟨_, _, rfl, rfl, rfl⟩ (PLe.of_eq rfl)
  refine V.skip ?_
  iterate 2 refine V.seq ?_
  refine V.region ?_
  iterate 3 refine AOps.q tt_ok rfl ?_
  refine AOps.nil ?_
  refine V.cH rfl H (fun H => ?_) (fun H => ?_)
  · refine V.seq ?_
    refine V.region ?_
    refine AOps.q tt_ok rfl ?_
    refine AOps.nil ?_
    obtain rfl := someE H
    refine V.retP tt_ok rfl (ps := [(pbool true)]) ⟨_, _, rfl, rfl, rfl⟩ (PLe.of_eq rfl)
  refine V.skip ?_
  refine V.seq ?_
  refine V.region ?_
  refine AOps.q tt_ok rfl ?_
  obtain ⟨x13, h13, H⟩ := bindE H
  have s13 := W_lexer_Quote sA _ h13
  refine AOps.callP (g := 8) rfl rfl rfl Tryd.call8 (PLeAll.refl _ _) s13 rfl ?_
  obtain ⟨x14, h14, H⟩ := bindE H
  have s14 := W_lexer_Tokenize x13 _ h14
  refine AOps.callP (g := 7) rfl rfl rfl Tryd.call7 (PLeAll.refl _ _) s14 rfl ?_
  iterate 7 refine AOps.q tt_ok rfl ?_
  refine AOps.nil ?_
  iterate 2 refine V.seq ?_
  refine V.region ?_
  iterate 3 refine AOps.q tt_ok rfl ?_
  refine AOps.nil ?_
  refine V.cH rfl H (fun H => ?_) (fun H => ?_)
  · refine V.seq ?_
    refine V.region ?_
    iterate 3 refine AOps.q tt_ok rfl ?_
    refine AOps.sH rfl rfl rfl H (fun H => ?_) (fun H => ?_)
    · refine AOps.q tt_ok rfl ?_
      iterate 3 refine AOps.q tt_ok rfl ?_
      refine AOps.nil ?_
      obtain rfl := someE H
      refine V.retP tt_ok rfl (ps := [(pbool (x14.2.1 == (0 : Int)))]) ⟨_, _, rfl, rfl, rfl⟩ (PLe.of_eq rfl)
    iterate 4 refine AOps.q tt_ok rfl ?_
    refine AOps.nil ?_
    obtain rfl := someE H
    refine V.retP tt_ok rfl (ps := [(pbool false)]) ⟨_, _, rfl, rfl, rfl⟩ (PLe.of_eq rfl)
  refine V.skip ?_
  refine V.seq ?_
  refine V.region ?_
  iterate 3 refine AOps.q tt_ok rfl ?_
  refine AOps.sH rfl rfl rfl H (fun H => ?_) (fun H => ?_)
  · refine AOps.q tt_ok rfl ?_
    refine AOps.lenL tt_ok rfl rfl rfl rfl rfl (List.length_map _) rfl ?_
    iterate 3 refine AOps.q tt_ok rfl ?_
    refine AOps.sH rfl rfl rfl H (fun H => ?_) (fun H => ?_)
    · refine AOps.q tt_ok rfl ?_
      obtain ⟨x36, k36, H⟩ := getE H
      refine AOps.idx tt_ok rfl rfl rfl rfl rfl rfl k36.1 (rowsGetI (fun _ => rfl) k36.2) rfl ?_
      iterate 6 refine AOps.q tt_ok rfl ?_
      refine AOps.nil ?_
      obtain rfl := someE H
      refine V.retP tt_ok rfl (ps := [(pbool (x36.kind == (4 : Int) && (x36.text == sA && (x36.number == (0 : Int) && (x36.offset == (0 : Int) && true)))))]) ⟨_, _, rfl, rfl, rfl⟩ (PLe.of_eq rfl)
    iterate 8 refine AOps.q tt_ok rfl ?_
    refine AOps.nil ?_
    obtain rfl := someE H
    refine V.retP tt_ok rfl (ps := [(pbool false)]) ⟨_, _, rfl, rfl, rfl⟩ (PLe.of_eq rfl)
  iterate 13 refine AOps.q tt_ok rfl ?_
  refine AOps.nil ?_
  obtain rfl := someE H
  refine V.retP tt_ok rfl (ps := [(pbool false)]) ⟨_, _, rfl, rfl, rfl⟩ (PLe.of_eq rfl)

end Go.Proofs.YtohlpijmiokkjaaDoor
