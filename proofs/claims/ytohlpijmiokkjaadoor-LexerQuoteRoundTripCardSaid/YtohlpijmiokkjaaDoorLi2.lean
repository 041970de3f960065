/- Lifted functions: printed by lift.py. -/
import Derived.Test.YtohlpijmiokkjaaDoorDat
import Derived.Test.YtohlpijmiokkjaaDoorDatT
import Derived.Test.YtohlpijmiokkjaaDoorNwA
import Derived.Test.YtohlpijmiokkjaaDoorLi1
namespace Go.Proofs.YtohlpijmiokkjaaDoor
open Go Go.Ab
attribute [local irreducible] V AOps DOps Gh Eff PCallsH IntKind.wrap
set_option maxRecDepth 4000

noncomputable def L_slices_Contains_Lstring_string (sA : List (List UInt8)) (v : List UInt8) : Option (Bool) :=
  bindP (L_slices_Index_Lstring_string sA v) fun x7 =>
  some (decide (x7 ≥ (0 : Int)))

set_option maxHeartbeats 4000000 in
theorem W_slices_Contains_Lstring_string (sA : List (List UInt8)) (v : List UInt8) (r : Bool) (H : L_slices_Contains_Lstring_string sA v = some r) :
    PFun Tryd.prog 19 [(.list 9 (sA.map rStr)), (.str v)] (pbool r) := by
  unfold L_slices_Contains_Lstring_string at H
  refine PCallsH.intro Tryd.func19 rfl Tryd.ntmps19 rfl ?_
  refine V.seq ?_
  refine V.region ?_
  refine AOps.q tt_ok rfl ?_
  refine AOps.nil ?_
  refine V.seq ?_
  refine V.region ?_
  iterate 2 refine AOps.q tt_ok rfl ?_
  obtain ⟨x7, h7, H⟩ := bindE H
  have s7 := W_slices_Index_Lstring_string sA v _ h7
  refine AOps.callP (g := 30) rfl rfl rfl Tryd.call30 (PLeAll.refl _ _) s7 rfl ?_
  iterate 2 refine AOps.q tt_ok rfl ?_
  refine AOps.nil ?_
  obtain rfl := someE H
  refine V.retP tt_ok rfl (ps := [(pbool (decide (x7 ≥ (0 : Int))))]) ⟨_, _, rfl, rfl, rfl⟩ (PLe.of_eq rfl)
theorem N_L_slices_Contains_Lstring_string (xs : List (List UInt8)) (v : (List UInt8)) : L_slices_Contains_Lstring_string xs v = some (xs.any (fun x1 => (v == x1))) := by
  unfold L_slices_Contains_Lstring_string
  rw [N_L_slices_Index_Lstring_string, bindP_some, idxOf_any]

noncomputable def L_lexer_number (sA : List UInt8) (fromA : Int) : Option (LLexerToken × Int × Bool) :=
  bindP (whileM (σ := Int) (ρ := Empty) (fun (s1 : Int) =>
    cond (decide (s1 < (sA.length : Int)))
      (bindP (getI sA s1) fun (x19 : UInt8) =>
      letP (L_lexer_digit x19) fun x20 =>
      cond x20
        (some (.next (IntKind.i64.wrap (s1 + (1 : Int)))))
        (some (.brk s1)))
      (some (.brk s1))) fromA) fun fl1 => fl1.thenP fun (s1 : Int) =>
  bindP (subI sA fromA s1) fun (x28 : List UInt8) =>
  bindP (atoiL x28) fun x29 =>
  cond (!x29.2)
    (cond (decide (x29.1 ≤ (1000000000000 : Int)))
      (bindP (subI sA fromA s1) fun (x44 : List UInt8) =>
      bindP (itoaL x29.1) fun x40 =>
      cond (x40 == x44)
        (cond (s1 == (sA.length : Int))
          (some ((LLexerToken.mk 3 [] x29.1 0), s1, true))
          (bindP (getI sA s1) fun (x55 : UInt8) =>
          letP (L_lexer_inner x55) fun x56 =>
          some ((LLexerToken.mk 3 [] x29.1 0), s1, (!x56))))
        (some ((LLexerToken.mk 3 [] x29.1 0), s1, false)))
      (some ((LLexerToken.mk 3 [] x29.1 0), s1, false)))
    (some ((LLexerToken.mk 3 [] x29.1 0), s1, false))

set_option maxHeartbeats 4000000 in
theorem W_lexer_number (sA : List UInt8) (fromA : Int) (r : LLexerToken × Int × Bool) (H : L_lexer_number sA fromA = some r) :
    PFun Tryd.prog 22 [(.str sA), (pint fromA)] (.tup [(.agg (encLexerToken r.1)), (pint r.2.1), (pbool r.2.2)]) := by
  unfold L_lexer_number at H
  refine PCallsH.intro Tryd.func22 rfl Tryd.ntmps22 rfl ?_
  refine V.seq ?_
  refine V.region ?_
  refine AOps.alloc tt_ok rfl rfl rfl rfl rfl rfl fun b4 => ?_
  iterate 2 refine AOps.q tt_ok rfl ?_
  refine AOps.nil ?_
  refine V.seq ?_
  refine V.region ?_
  iterate 2 refine AOps.q tt_ok rfl ?_
  refine AOps.nil ?_
  refine V.seq ?_
  obtain ⟨fl1, H1, Hp1⟩ := bindE H
  refine V.cut (τ := Int) (γ := Unit) (fun s1 g1 => ⟨64, upd (upd (upd (upd (fun _ => .any) 7 (pint s1)) 4 (.box 4 b4 0)) 1 (pint fromA)) 0 (.str sA), upd (fun _ => none) 4 (some ⟨b4, [(pint 0), (.str []), (pint 0), (pint 0)]⟩), fun _ => none⟩) (fun t => fl1 = .next t) ?_ (fun s1 g1 hn1 => ?_)
  · refine V.block ?_
    refine V.whileL (fun s1 g1 => ⟨64, upd (upd (upd (upd (fun _ => .any) 7 (pint s1)) 4 (.box 4 b4 0)) 1 (pint fromA)) 0 (.str sA), upd (fun _ => none) 4 (some ⟨b4, [(pint 0), (.str []), (pint 0), (pint 0)]⟩), fun _ => none⟩) () H1 (Gh.le (SLe.cons (PLe.of_eq rfl) (SLe.cons (PLe.of_eq rfl) (SLe.cons (PLe.of_eq rfl) (SLe.cons (PLe.of_eq rfl) SLe.nil)))) (BLe.cons rfl (PLeAll.refl _ _) BLe.nil) OLe.nil) (fun m1 s1 g1 hr1 => ?_)
    obtain ⟨fb1, H, hg1⟩ := iterM_cons hr1
    iterate 2 refine V.seq ?_
    refine V.region ?_
    iterate 5 refine AOps.q tt_ok rfl ?_
    refine AOps.sH rfl rfl rfl H (fun H => ?_) (fun H => ?_)
    · refine AOps.q tt_ok rfl ?_
      refine AOps.q tt_ok rfl ?_
      obtain ⟨x19, k19, H⟩ := getE H
      refine AOps.idxS tt_ok rfl rfl rfl rfl rfl rfl k19.1 k19.2 rfl ?_
      obtain ⟨x20, h20, H⟩ := letE H
      have s20 := W_lexer_digit x19
      rw [h20] at s20
      refine AOps.callP (g := 21) rfl rfl rfl Tryd.call21 (PLeAll.refl _ _) s20 rfl ?_
      refine AOps.q tt_ok rfl ?_
      refine AOps.nil ?_
      refine V.cH rfl H (fun H => ?_) (fun H => ?_)
      · refine V.skip ?_
        refine V.block ?_
        refine V.region ?_
        iterate 3 refine AOps.q tt_ok rfl ?_
        refine AOps.nil ?_
        refine V.blk ?_
        obtain rfl := someE H
        refine V.againL (IntKind.i64.wrap (s1 + (1 : Int))) () hg1 (Gh.le (SLe.cons (PLe.of_eq rfl) (SLe.cons (PLe.of_eq rfl) (SLe.cons (PLe.of_eq rfl) (SLe.cons (PLe.of_eq rfl) SLe.nil)))) (BLe.cons rfl (PLeAll.refl _ _) BLe.nil) OLe.nil)
      refine V.exit rfl ?_
      obtain rfl := someE H
      refine V.at s1 () hg1 (Gh.le (SLe.cons (PLe.of_eq rfl) (SLe.cons (PLe.of_eq rfl) (SLe.cons (PLe.of_eq rfl) (SLe.cons (PLe.of_eq rfl) SLe.nil)))) (BLe.cons rfl (PLeAll.refl _ _) BLe.nil) OLe.nil)
    iterate 5 refine AOps.q tt_ok rfl ?_
    refine AOps.nil ?_
    refine V.condF rfl ?_
    refine V.exit rfl ?_
    obtain rfl := someE H
    refine V.at s1 () hg1 (Gh.le (SLe.cons (PLe.of_eq rfl) (SLe.cons (PLe.of_eq rfl) (SLe.cons (PLe.of_eq rfl) (SLe.cons (PLe.of_eq rfl) SLe.nil)))) (BLe.cons rfl (PLeAll.refl _ _) BLe.nil) OLe.nil)
  have H := thenP_next hn1 Hp1
  refine V.seq ?_
  refine V.region ?_
  iterate 3 refine AOps.q tt_ok rfl ?_
  obtain ⟨x28, h28, H⟩ := bindE H
  have k28 := subI_some h28
  refine AOps.subS tt_ok rfl rfl rfl rfl rfl rfl rfl k28.1 k28.2 rfl ?_
  obtain ⟨x29, h29, H⟩ := bindE H
  have s29 := W_atoi x28 _ h29
  refine AOps.callP (g := 31) rfl rfl rfl Tryd.call31 (PLeAll.refl _ _) s29 rfl ?_
  iterate 5 refine AOps.q tt_ok rfl ?_
  refine AOps.nil ?_
  refine V.seq ?_
  refine V.draw tt_ok mixed_ok ⟨false, false, []⟩ [0, 1, 2, 3, 4, 5, 6, 7, 9, 10, 11, 12, 8, 13, 14, 15, 16, 17, 18, 19, 20, 21, 22, 23, 24, 25, 26, 27, 28] rfl (by decide +kernel) rfl ?_
  refine DOps.q rfl ?_
  refine DOps.errN rfl rfl rfl Tryd.underlying45 rfl rfl ?_
  refine DOps.q rfl ?_
  refine DOps.sH rfl rfl rfl rfl H (fun H => ?_) (fun H => ?_)
  · refine DOps.q rfl ?_
    iterate 3 refine DOps.q rfl ?_
    refine DOps.sH rfl rfl rfl rfl H (fun H => ?_) (fun H => ?_)
    · refine DOps.q rfl ?_
      iterate 3 refine DOps.q rfl ?_
      obtain ⟨x44, h44, H⟩ := bindE H
      have k44 := subI_some h44
      refine DOps.subS rfl rfl rfl rfl rfl rfl rfl rfl k44.1 k44.2 rfl ?_
      obtain ⟨x40, h40, H⟩ := bindE H
      have s40 := W_itoa x29.1 _ h40
      refine DOps.callP (g := 14) rfl rfl rfl rfl Tryd.call14 (PLeAll.refl _ _) s40 rfl ?_
      iterate 3 refine DOps.q rfl ?_
      refine DOps.sH rfl rfl rfl rfl H (fun H => ?_) (fun H => ?_)
      · refine DOps.q rfl ?_
        iterate 4 refine DOps.q rfl ?_
        refine DOps.sH rfl rfl rfl rfl H (fun H => ?_) (fun H => ?_)
        · refine DOps.q rfl ?_
          iterate 7 refine DOps.q rfl ?_
          refine DOps.nil ?_
          refine V.seq ?_
          refine V.region ?_
          iterate 4 refine AOps.q tt_ok rfl ?_
          refine AOps.storeBox tt_ok rfl rfl rfl rfl rfl rfl rfl rfl rfl rfl rfl ?_
          iterate 2 refine AOps.q tt_ok rfl ?_
          refine AOps.nil ?_
          obtain rfl := someE H
          refine V.retP tt_ok rfl (ps := [(.agg [(pint 3), (.str []), (pint x29.1), (pint 0)]), (pint s1), (pbool true)]) ⟨_, _, rfl, ⟨_, _, _, _, _, rfl, rfl, rfl, rfl⟩, _, _, rfl, rfl, _, _, rfl, rfl, rfl⟩ (PLe.of_eq rfl)
        iterate 2 refine DOps.q rfl ?_
        obtain ⟨x55, k55, H⟩ := getE H
        refine DOps.idxS rfl rfl rfl rfl rfl rfl rfl k55.1 k55.2 rfl ?_
        obtain ⟨x56, h56, H⟩ := letE H
        have s56 := W_lexer_inner x55
        rw [h56] at s56
        refine DOps.callP (g := 18) rfl rfl rfl rfl Tryd.call18 (PLeAll.refl _ _) s56 rfl ?_
        iterate 4 refine DOps.q rfl ?_
        refine DOps.nil ?_
        refine V.seq ?_
        refine V.region ?_
        iterate 4 refine AOps.q tt_ok rfl ?_
        refine AOps.storeBox tt_ok rfl rfl rfl rfl rfl rfl rfl rfl rfl rfl rfl ?_
        iterate 2 refine AOps.q tt_ok rfl ?_
        refine AOps.nil ?_
        obtain rfl := someE H
        refine V.retP tt_ok rfl (ps := [(.agg [(pint 3), (.str []), (pint x29.1), (pint 0)]), (pint s1), (pbool (!x56))]) ⟨_, _, rfl, ⟨_, _, _, _, _, rfl, rfl, rfl, rfl⟩, _, _, rfl, rfl, _, _, rfl, rfl, rfl⟩ (PLe.of_eq rfl)
      iterate 13 refine DOps.q rfl ?_
      refine DOps.nil ?_
      refine V.seq ?_
      refine V.region ?_
      iterate 4 refine AOps.q tt_ok rfl ?_
      refine AOps.storeBox tt_ok rfl rfl rfl rfl rfl rfl rfl rfl rfl rfl rfl ?_
      iterate 2 refine AOps.q tt_ok rfl ?_
      refine AOps.nil ?_
      obtain rfl := someE H
      refine V.retP tt_ok rfl (ps := [(.agg [(pint 3), (.str []), (pint x29.1), (pint 0)]), (pint s1), (pbool false)]) ⟨_, _, rfl, ⟨_, _, _, _, _, rfl, rfl, rfl, rfl⟩, _, _, rfl, rfl, _, _, rfl, rfl, rfl⟩ (PLe.of_eq rfl)
    iterate 22 refine DOps.q rfl ?_
    refine DOps.nil ?_
    refine V.seq ?_
    refine V.region ?_
    iterate 4 refine AOps.q tt_ok rfl ?_
    refine AOps.storeBox tt_ok rfl rfl rfl rfl rfl rfl rfl rfl rfl rfl rfl ?_
    iterate 2 refine AOps.q tt_ok rfl ?_
    refine AOps.nil ?_
    obtain rfl := someE H
    refine V.retP tt_ok rfl (ps := [(.agg [(pint 3), (.str []), (pint x29.1), (pint 0)]), (pint s1), (pbool false)]) ⟨_, _, rfl, ⟨_, _, _, _, _, rfl, rfl, rfl, rfl⟩, _, _, rfl, rfl, _, _, rfl, rfl, rfl⟩ (PLe.of_eq rfl)
  iterate 26 refine DOps.q rfl ?_
  refine DOps.nil ?_
  refine V.seq ?_
  refine V.region ?_
  iterate 4 refine AOps.q tt_ok rfl ?_
  refine AOps.storeBox tt_ok rfl rfl rfl rfl rfl rfl rfl rfl rfl rfl rfl ?_
  iterate 2 refine AOps.q tt_ok rfl ?_
  refine AOps.nil ?_
  obtain rfl := someE H
  refine V.retP tt_ok rfl (ps := [(.agg [(pint 3), (.str []), (pint x29.1), (pint 0)]), (pint s1), (pbool false)]) ⟨_, _, rfl, ⟨_, _, _, _, _, rfl, rfl, rfl, rfl⟩, _, _, rfl, rfl, _, _, rfl, rfl, rfl⟩ (PLe.of_eq rfl)

noncomputable def L_lexer_argument (sA : List UInt8) : Option (LLexerToken × Int × Bool) :=
  bindP (
    cond (decide ((sA.length : Int) < (3 : Int)))
      (some true)
      (bindP (getI sA 1) fun (x11 : UInt8) =>
      letP (L_lexer_digit x11) fun x12 =>
      cond (!x12)
        (some true)
        (cond (decide ((sA.length : Int) > (3 : Int)))
          (bindP (getI sA 3) fun (x21 : UInt8) =>
          letP (L_lexer_inner x21) fun x22 =>
          some x22)
          (some false)))) fun (t1 : Bool) =>
  cond t1
    (some ((LLexerToken.mk 0 [] 0 0), 0, false))
    (bindP (getI sA 2) fun (x27 : UInt8) =>
    bindP (idxByteL ([105, 98, 116] : List UInt8) x27) fun x28 =>
    cond (decide (x28 < (0 : Int)))
      (some ((LLexerToken.mk 0 [] 0 0), 0, false))
      (bindP (getI sA 1) fun (x33 : UInt8) =>
      bindP (subI sA 2 3) fun (x37 : List UInt8) =>
      some ((LLexerToken.mk 6 x37 (IntKind.i64.wrap (IntKind.u8.wrap ((x33.toNat : Int) - (48 : Int)))) 0), 3, true)))

set_option maxHeartbeats 4000000 in
theorem W_lexer_argument (sA : List UInt8) (r : LLexerToken × Int × Bool) (H : L_lexer_argument sA = some r) :
    PFun Tryd.prog 23 [(.str sA)] (.tup [(.agg (encLexerToken r.1)), (pint r.2.1), (pbool r.2.2)]) := by
  unfold L_lexer_argument at H
  refine PCallsH.intro Tryd.func23 rfl Tryd.ntmps23 rfl ?_
  refine V.seq ?_
  refine V.region ?_
  refine AOps.alloc tt_ok rfl rfl rfl rfl rfl rfl fun b2 => ?_
  iterate 2 refine AOps.q tt_ok rfl ?_
  refine AOps.nil ?_
  iterate 2 refine V.seq ?_
  obtain ⟨fl1, H1, Hp1⟩ := bindE H
  refine V.cut (τ := Bool) (γ := Unit) (fun t1 g1 => ⟨39, upd (upd (upd (fun _ => .any) 24 (pbool t1)) 2 (.box 2 b2 0)) 0 (.str sA), upd (fun _ => none) 2 (some ⟨b2, [(pint 0), (.str []), (pint 0), (pint 0)]⟩), fun _ => none⟩) (fun t => t = fl1) ?_ (fun t1 g1 hn1 => ?_)
  · have H := H1
    refine V.region ?_
    iterate 4 refine AOps.q tt_ok rfl ?_
    refine AOps.sH rfl rfl rfl H (fun H => ?_) (fun H => ?_)
    · refine AOps.q tt_ok rfl ?_
      iterate 14 refine AOps.q tt_ok rfl ?_
      refine AOps.nil ?_
      obtain rfl := someE H
      refine V.at true () rfl (Gh.le (SLe.cons (PLe.of_eq rfl) (SLe.cons (PLe.of_eq rfl) (SLe.cons (PLe.of_eq rfl) SLe.nil))) (BLe.cons rfl (PLeAll.refl _ _) BLe.nil) OLe.nil)
    refine AOps.q tt_ok rfl ?_
    obtain ⟨x11, k11, H⟩ := getE H
    refine AOps.idxS tt_ok rfl rfl rfl rfl rfl rfl k11.1 k11.2 rfl ?_
    obtain ⟨x12, h12, H⟩ := letE H
    have s12 := W_lexer_digit x11
    rw [h12] at s12
    refine AOps.callP (g := 21) rfl rfl rfl Tryd.call21 (PLeAll.refl _ _) s12 rfl ?_
    iterate 3 refine AOps.q tt_ok rfl ?_
    refine AOps.sH rfl rfl rfl H (fun H => ?_) (fun H => ?_)
    · refine AOps.q tt_ok rfl ?_
      iterate 8 refine AOps.q tt_ok rfl ?_
      refine AOps.nil ?_
      obtain rfl := someE H
      refine V.at true () rfl (Gh.le (SLe.cons (PLe.of_eq rfl) (SLe.cons (PLe.of_eq rfl) (SLe.cons (PLe.of_eq rfl) SLe.nil))) (BLe.cons rfl (PLeAll.refl _ _) BLe.nil) OLe.nil)
    iterate 4 refine AOps.q tt_ok rfl ?_
    refine AOps.sH rfl rfl rfl H (fun H => ?_) (fun H => ?_)
    · refine AOps.q tt_ok rfl ?_
      obtain ⟨x21, k21, H⟩ := getE H
      refine AOps.idxS tt_ok rfl rfl rfl rfl rfl rfl k21.1 k21.2 rfl ?_
      obtain ⟨x22, h22, H⟩ := letE H
      have s22 := W_lexer_inner x21
      rw [h22] at s22
      refine AOps.callP (g := 18) rfl rfl rfl Tryd.call18 (PLeAll.refl _ _) s22 rfl ?_
      iterate 2 refine AOps.q tt_ok rfl ?_
      refine AOps.nil ?_
      obtain rfl := someE H
      refine V.at x22 () rfl (Gh.le (SLe.cons (PLe.of_eq rfl) (SLe.cons (PLe.of_eq rfl) (SLe.cons (PLe.of_eq rfl) SLe.nil))) (BLe.cons rfl (PLeAll.refl _ _) BLe.nil) OLe.nil)
    iterate 5 refine AOps.q tt_ok rfl ?_
    refine AOps.nil ?_
    obtain rfl := someE H
    refine V.at false () rfl (Gh.le (SLe.cons (PLe.of_eq rfl) (SLe.cons (PLe.of_eq rfl) (SLe.cons (PLe.of_eq rfl) SLe.nil))) (BLe.cons rfl (PLeAll.refl _ _) BLe.nil) OLe.nil)
  subst hn1
  have H := Hp1
  refine V.cH rfl H (fun H => ?_) (fun H => ?_)
  · refine V.seq ?_
    refine V.region ?_
    refine AOps.q tt_ok rfl ?_
    refine AOps.storeBox tt_ok rfl rfl rfl rfl rfl rfl rfl rfl rfl rfl rfl ?_
    iterate 2 refine AOps.q tt_ok rfl ?_
    refine AOps.nil ?_
    obtain rfl := someE H
    refine V.retP tt_ok rfl (ps := [(.agg [(pint 0), (.str []), (pint 0), (pint 0)]), (pint 0), (pbool false)]) ⟨_, _, rfl, ⟨_, _, _, _, _, rfl, rfl, rfl, rfl⟩, _, _, rfl, rfl, _, _, rfl, rfl, rfl⟩ (PLe.of_eq rfl)
  refine V.skip ?_
  refine V.seq ?_
  refine V.region ?_
  refine AOps.q tt_ok rfl ?_
  obtain ⟨x27, k27, H⟩ := getE H
  refine AOps.idxS tt_ok rfl rfl rfl rfl rfl rfl k27.1 k27.2 rfl ?_
  obtain ⟨x28, h28, H⟩ := bindE H
  have s28 := W_idxByte ([105, 98, 116] : List UInt8) x27 _ h28
  refine AOps.callP (g := 32) rfl rfl rfl Tryd.call32 (PLeAll.refl _ _) s28 rfl ?_
  refine AOps.q tt_ok rfl ?_
  refine AOps.nil ?_
  iterate 2 refine V.seq ?_
  refine V.region ?_
  iterate 2 refine AOps.q tt_ok rfl ?_
  refine AOps.nil ?_
  refine V.cH rfl H (fun H => ?_) (fun H => ?_)
  · refine V.seq ?_
    refine V.region ?_
    refine AOps.q tt_ok rfl ?_
    refine AOps.storeBox tt_ok rfl rfl rfl rfl rfl rfl rfl rfl rfl rfl rfl ?_
    iterate 2 refine AOps.q tt_ok rfl ?_
    refine AOps.nil ?_
    obtain rfl := someE H
    refine V.retP tt_ok rfl (ps := [(.agg [(pint 0), (.str []), (pint 0), (pint 0)]), (pint 0), (pbool false)]) ⟨_, _, rfl, ⟨_, _, _, _, _, rfl, rfl, rfl, rfl⟩, _, _, rfl, rfl, _, _, rfl, rfl, rfl⟩ (PLe.of_eq rfl)
  refine V.skip ?_
  refine V.seq ?_
  refine V.draw tt_ok mixed_ok ⟨false, false, []⟩ [0, 1, 2, 3, 4, 5, 6, 7, 8, 9] rfl (by decide +kernel) rfl ?_
  refine DOps.q rfl ?_
  obtain ⟨x33, k33, H⟩ := getE H
  refine DOps.idxS rfl rfl rfl rfl rfl rfl rfl k33.1 k33.2 rfl ?_
  iterate 3 refine DOps.q rfl ?_
  obtain ⟨x37, h37, H⟩ := bindE H
  have k37 := subI_some h37
  refine DOps.subS rfl rfl rfl rfl rfl rfl rfl rfl k37.1 k37.2 rfl ?_
  refine DOps.q rfl ?_
  refine DOps.storeBox rfl rfl rfl rfl rfl rfl rfl rfl rfl rfl rfl rfl ?_
  iterate 2 refine DOps.q rfl ?_
  refine DOps.nil ?_
  obtain rfl := someE H
  refine V.retP tt_ok rfl (ps := [(.agg [(pint 6), (.str x37), (pint (IntKind.i64.wrap (IntKind.u8.wrap ((x33.toNat : Int) - (48 : Int))))), (pint 0)]), (pint 3), (pbool true)]) ⟨_, _, rfl, ⟨_, _, _, _, _, rfl, rfl, rfl, rfl⟩, _, _, rfl, rfl, _, _, rfl, rfl, rfl⟩ (PLe.of_eq rfl)

end Go.Proofs.YtohlpijmiokkjaaDoor
