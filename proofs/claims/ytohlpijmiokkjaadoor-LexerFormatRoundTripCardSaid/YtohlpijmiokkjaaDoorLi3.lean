/- Lifted functions: printed by lift.py. -/
import Derived.Test.YtohlpijmiokkjaaDoorDat
import Derived.Test.YtohlpijmiokkjaaDoorDatT
import Derived.Test.YtohlpijmiokkjaaDoorNwA
import Derived.Test.YtohlpijmiokkjaaDoorLi1
import Derived.Test.YtohlpijmiokkjaaDoorLi2
namespace Go.Proofs.YtohlpijmiokkjaaDoor
open Go Go.Ab
attribute [local irreducible] V AOps DOps Gh Eff PCallsH IntKind.wrap
set_option maxRecDepth 4000

noncomputable def L_lexer_one (sA : List UInt8) : Option (LLexerToken × Int × Bool) :=
  bindP (getI sA 0) fun (x11 : UInt8) =>
  letP (
    cond (decide ((x11.toNat : Int) ≥ (97 : Int)))
      ((decide ((x11.toNat : Int) ≤ (122 : Int))))
      (false)) fun (t1 : Bool) =>
  cond t1
    (bindP (whileM (σ := Int) (ρ := Empty) (fun (s2 : Int) =>
      cond (decide (s2 < (sA.length : Int)))
        (bindP (getI sA s2) fun (x26 : UInt8) =>
        letP (L_lexer_inner x26) fun x27 =>
        cond x27
          (some (.next (IntKind.i64.wrap (s2 + (1 : Int)))))
          (some (.brk s2)))
        (some (.brk s2))) 1) fun fl2 => fl2.thenP fun (s2 : Int) =>
    bindP (subI sA 0 s2) fun (x34 : List UInt8) =>
    letP (L_lexer_Keywords) fun x31 =>
    bindP (L_slices_Contains_Lstring_string x31 x34) fun x35 =>
    letP (
      cond x35
        (2)
        (1)) fun (t3 : Int) =>
    bindP (subI sA 0 s2) fun (x39 : List UInt8) =>
    cond (t3 == (2 : Int))
      (some ((LLexerToken.mk t3 x39 0 0), s2, true))
      (some ((LLexerToken.mk t3 x39 0 0), s2, (decide (s2 ≤ (12 : Int))))))
    (letP (L_lexer_digit x11) fun x50 =>
    cond x50
      (bindP (L_lexer_number sA 0) fun x52 =>
      some (x52.1, x52.2.1, x52.2.2))
      (cond ((x11.toNat : Int) == (63 : Int))
        (bindP (L_lexer_argument sA) fun x60 =>
        some (x60.1, x60.2.1, x60.2.2))
        (cond ((x11.toNat : Int) == (39 : Int))
          (bindP (L_lexer_quoted sA) fun x68 =>
          some (x68.1, x68.2.1, x68.2.2))
          (bindP (smallI (([[124, 124], [60, 61], [40], [41], [44], [124], [43], [45], [42], [61], [60], [36]] : List (List UInt8)).length : Int)) fun (n4 : Nat) =>
          bindP (rangeM (σ := Unit) (ρ := (LLexerToken × Int × Bool)) (fun (j4 : Nat) (_ : Nat) (_ : Unit) =>
            bindP (getI ([[124, 124], [60, 61], [40], [41], [44], [124], [43], [45], [42], [61], [60], [36]] : List (List UInt8)) (j4 : Int)) fun (x76 : List UInt8) =>
            bindP (hasPrefixL sA x76) fun x80 =>
            cond x80
              (some (.ret ((LLexerToken.mk 5 x76 0 0), (x76.length : Int), true)))
              (some (.next ()))) 0 (List.range n4) ()) fun fl4 => fl4.thenR fun (_ : Unit) =>
          some ((LLexerToken.mk 0 [] 0 0), 0, false)))))

set_option maxHeartbeats 4000000 in
theorem W_lexer_one (sA : List UInt8) (r : LLexerToken × Int × Bool) (H : L_lexer_one sA = some r) :
    PFun Tryd.prog 12 [(.str sA)] (.tup [(.agg (encLexerToken r.1)), (pint r.2.1), (pbool r.2.2)]) := by
  unfold L_lexer_one at H
  refine PCallsH.intro Tryd.func12 rfl Tryd.ntmps12 rfl ?_
  refine V.seq ?_
  refine V.region ?_
  refine AOps.alloc tt_ok rfl rfl rfl rfl rfl rfl fun b2 => ?_
  iterate 2 refine AOps.q tt_ok rfl ?_
  refine AOps.nil ?_
  iterate 2 refine V.seq ?_
  refine V.region ?_
  refine AOps.q tt_ok rfl ?_
  obtain ⟨x11, k11, H⟩ := getE H
  refine AOps.idxS tt_ok rfl rfl rfl rfl rfl rfl k11.1 k11.2 rfl ?_
  refine AOps.q tt_ok rfl ?_
  refine AOps.nil ?_
  refine V.block ?_
  refine V.seq ?_
  obtain ⟨fl1, H1, Hp1⟩ := letE H
  refine V.cut (τ := Bool) (γ := Unit) (fun t1 g1 => ⟨87, upd (upd (upd (upd (fun _ => .any) 12 (pbool t1)) 5 (.val (.int .u8 (x11.toNat : Int)))) 2 (.box 2 b2 0)) 0 (.str sA), upd (fun _ => none) 2 (some ⟨b2, [(pint 0), (.str []), (pint 0), (pint 0)]⟩), fun _ => none⟩) (fun t => t = fl1) ?_ (fun t1 g1 hn1 => ?_)
  · have H := H1
    refine V.region ?_
    iterate 3 refine AOps.q tt_ok rfl ?_
    refine AOps.sH rfl rfl rfl H (fun H => ?_) (fun H => ?_)
    · refine AOps.q tt_ok rfl ?_
      iterate 3 refine AOps.q tt_ok rfl ?_
      refine AOps.nil ?_
      subst H
      refine V.at (decide ((x11.toNat : Int) ≤ (122 : Int))) () rfl (Gh.le (SLe.cons (PLe.of_eq rfl) (SLe.cons (PLe.of_eq rfl) (SLe.cons (PLe.of_eq rfl) (SLe.cons (PLe.of_eq rfl) SLe.nil)))) (BLe.cons rfl (PLeAll.refl _ _) BLe.nil) OLe.nil)
    iterate 4 refine AOps.q tt_ok rfl ?_
    refine AOps.nil ?_
    subst H
    refine V.at false () rfl (Gh.le (SLe.cons (PLe.of_eq rfl) (SLe.cons (PLe.of_eq rfl) (SLe.cons (PLe.of_eq rfl) (SLe.cons (PLe.of_eq rfl) SLe.nil)))) (BLe.cons rfl (PLeAll.refl _ _) BLe.nil) OLe.nil)
  subst hn1
  have H := Hp1
  refine V.cH rfl H (fun H => ?_) (fun H => ?_)
  · refine V.seq ?_
    refine V.region ?_
    refine AOps.q tt_ok rfl ?_
    refine AOps.nil ?_
    refine V.seq ?_
    obtain ⟨fl2, H2, Hp2⟩ := bindE H
    refine V.cut (τ := Int) (γ := Unit) (fun s2 g2 => ⟨87, upd (upd (upd (fun _ => .any) 6 (pint s2)) 2 (.box 2 b2 0)) 0 (.str sA), upd (fun _ => none) 2 (some ⟨b2, [(pint 0), (.str []), (pint 0), (pint 0)]⟩), fun _ => none⟩) (fun t => fl2 = .next t) ?_ (fun s2 g2 hn2 => ?_)
    · refine V.block ?_
      refine V.whileL (fun s2 g2 => ⟨87, upd (upd (upd (fun _ => .any) 6 (pint s2)) 2 (.box 2 b2 0)) 0 (.str sA), upd (fun _ => none) 2 (some ⟨b2, [(pint 0), (.str []), (pint 0), (pint 0)]⟩), fun _ => none⟩) () H2 (Gh.le (SLe.cons (PLe.of_eq rfl) (SLe.cons (PLe.of_eq rfl) (SLe.cons (PLe.of_eq rfl) SLe.nil))) (BLe.cons rfl (PLeAll.refl _ _) BLe.nil) OLe.nil) (fun m2 s2 g2 hr2 => ?_)
      obtain ⟨fb2, H, hg2⟩ := iterM_cons hr2
      iterate 2 refine V.seq ?_
      refine V.region ?_
      iterate 5 refine AOps.q tt_ok rfl ?_
      refine AOps.sH rfl rfl rfl H (fun H => ?_) (fun H => ?_)
      · refine AOps.q tt_ok rfl ?_
        refine AOps.q tt_ok rfl ?_
        obtain ⟨x26, k26, H⟩ := getE H
        refine AOps.idxS tt_ok rfl rfl rfl rfl rfl rfl k26.1 k26.2 rfl ?_
        obtain ⟨x27, h27, H⟩ := letE H
        have s27 := W_lexer_inner x26
        rw [h27] at s27
        refine AOps.callP (g := 18) rfl rfl rfl Tryd.call18 (PLeAll.refl _ _) s27 rfl ?_
        refine AOps.q tt_ok rfl ?_
        refine AOps.nil ?_
        refine V.cH rfl H (fun H => ?_) (fun H => ?_)
        · refine V.skip ?_
          refine V.block ?_
          refine V.region ?_
          iterate 3 refine AOps.q tt_ok rfl ?_
          refine AOps.nil ?_
          refine V.blk ?_
          obtain rfl := someE H
          refine V.againL (IntKind.i64.wrap (s2 + (1 : Int))) () hg2 (Gh.le (SLe.cons (PLe.of_eq rfl) (SLe.cons (PLe.of_eq rfl) (SLe.cons (PLe.of_eq rfl) SLe.nil))) (BLe.cons rfl (PLeAll.refl _ _) BLe.nil) OLe.nil)
        refine V.exit rfl ?_
        obtain rfl := someE H
        refine V.at s2 () hg2 (Gh.le (SLe.cons (PLe.of_eq rfl) (SLe.cons (PLe.of_eq rfl) (SLe.cons (PLe.of_eq rfl) SLe.nil))) (BLe.cons rfl (PLeAll.refl _ _) BLe.nil) OLe.nil)
      iterate 5 refine AOps.q tt_ok rfl ?_
      refine AOps.nil ?_
      refine V.condF rfl ?_
      refine V.exit rfl ?_
      obtain rfl := someE H
      refine V.at s2 () hg2 (Gh.le (SLe.cons (PLe.of_eq rfl) (SLe.cons (PLe.of_eq rfl) (SLe.cons (PLe.of_eq rfl) SLe.nil))) (BLe.cons rfl (PLeAll.refl _ _) BLe.nil) OLe.nil)
    have H := thenP_next hn2 Hp2
    refine V.seq ?_
    refine V.region ?_
    refine AOps.q tt_ok rfl ?_
    refine AOps.nil ?_
    iterate 2 refine V.seq ?_
    refine V.draw tt_ok mixed_ok ⟨false, false, []⟩ [1, 2, 3, 0, 4] rfl (by decide +kernel) rfl ?_
    iterate 2 refine DOps.q rfl ?_
    obtain ⟨x34, h34, H⟩ := bindE H
    have k34 := subI_some h34
    refine DOps.subS rfl rfl rfl rfl rfl rfl rfl rfl k34.1 k34.2 rfl ?_
    obtain ⟨x31, h31, H⟩ := letE H
    have s31 := W_lexer_Keywords
    rw [h31] at s31
    refine DOps.callP (g := 20) rfl rfl rfl rfl Tryd.call20 (PLeAll.refl _ _) s31 rfl ?_
    obtain ⟨x35, h35, H⟩ := bindE H
    have s35 := W_slices_Contains_Lstring_string x31 x34 _ h35
    refine DOps.callP (g := 19) rfl rfl rfl rfl Tryd.call19 (PLeAll.refl _ _) s35 rfl ?_
    refine DOps.nil ?_
    obtain ⟨fl3, H3, Hp3⟩ := letE H
    refine V.cut (τ := Int) (γ := Unit) (fun t3 g3 => ⟨87, upd (upd (upd (upd (fun _ => .any) 7 (pint t3)) 6 (pint s2)) 2 (.box 2 b2 0)) 0 (.str sA), upd (fun _ => none) 2 (some ⟨b2, [(pint 0), (.str []), (pint 0), (pint 0)]⟩), fun _ => none⟩) (fun t => t = fl3) ?_ (fun t3 g3 hn3 => ?_)
    · have H := H3
      refine V.cH rfl H (fun H => ?_) (fun H => ?_)
      · refine V.region ?_
        refine AOps.q tt_ok rfl ?_
        refine AOps.nil ?_
        subst H
        refine V.at 2 () rfl (Gh.le (SLe.cons (PLe.of_eq rfl) (SLe.cons (PLe.of_eq rfl) (SLe.cons (PLe.of_eq rfl) (SLe.cons (PLe.of_eq rfl) SLe.nil)))) (BLe.cons rfl (PLeAll.refl _ _) BLe.nil) OLe.nil)
      refine V.skip ?_
      subst H
      refine V.at 1 () rfl (Gh.le (SLe.cons (PLe.of_eq rfl) (SLe.cons (PLe.of_eq rfl) (SLe.cons (PLe.of_eq rfl) (SLe.cons (PLe.of_eq rfl) SLe.nil)))) (BLe.cons rfl (PLeAll.refl _ _) BLe.nil) OLe.nil)
    subst hn3
    have H := Hp3
    refine V.seq ?_
    refine V.region ?_
    iterate 3 refine AOps.q tt_ok rfl ?_
    obtain ⟨x39, h39, H⟩ := bindE H
    have k39 := subI_some h39
    refine AOps.subS tt_ok rfl rfl rfl rfl rfl rfl rfl k39.1 k39.2 rfl ?_
    iterate 5 refine AOps.q tt_ok rfl ?_
    refine AOps.sH rfl rfl rfl H (fun H => ?_) (fun H => ?_)
    · refine AOps.q tt_ok rfl ?_
      iterate 2 refine AOps.q tt_ok rfl ?_
      refine AOps.storeBox tt_ok rfl rfl rfl rfl rfl rfl rfl rfl rfl rfl rfl ?_
      iterate 2 refine AOps.q tt_ok rfl ?_
      refine AOps.nil ?_
      obtain rfl := someE H
      refine V.retP tt_ok rfl (ps := [(.agg [(pint t3), (.str x39), (pint 0), (pint 0)]), (pint s2), (pbool true)]) ⟨_, _, rfl, ⟨_, _, _, _, _, rfl, rfl, rfl, rfl⟩, _, _, rfl, rfl, _, _, rfl, rfl, rfl⟩ (PLe.of_eq rfl)
    iterate 3 refine AOps.q tt_ok rfl ?_
    refine AOps.storeBox tt_ok rfl rfl rfl rfl rfl rfl rfl rfl rfl rfl rfl ?_
    iterate 2 refine AOps.q tt_ok rfl ?_
    refine AOps.nil ?_
    obtain rfl := someE H
    refine V.retP tt_ok rfl (ps := [(.agg [(pint t3), (.str x39), (pint 0), (pint 0)]), (pint s2), (pbool (decide (s2 ≤ (12 : Int))))]) ⟨_, _, rfl, ⟨_, _, _, _, _, rfl, rfl, rfl, rfl⟩, _, _, rfl, rfl, _, _, rfl, rfl, rfl⟩ (PLe.of_eq rfl)
  refine V.seq ?_
  refine V.region ?_
  refine AOps.q tt_ok rfl ?_
  obtain ⟨x50, h50, H⟩ := letE H
  have s50 := W_lexer_digit x11
  rw [h50] at s50
  refine AOps.callP (g := 21) rfl rfl rfl Tryd.call21 (PLeAll.refl _ _) s50 rfl ?_
  refine AOps.q tt_ok rfl ?_
  refine AOps.nil ?_
  refine V.cH rfl H (fun H => ?_) (fun H => ?_)
  · refine V.seq ?_
    refine V.region ?_
    refine AOps.q tt_ok rfl ?_
    obtain ⟨x52, h52, H⟩ := bindE H
    have s52 := W_lexer_number sA 0 _ h52
    refine AOps.callP (g := 22) rfl rfl rfl Tryd.call22 (PLeAll.refl _ _) s52 rfl ?_
    iterate 3 refine AOps.q tt_ok rfl ?_
    refine AOps.storeBox tt_ok rfl rfl rfl rfl rfl rfl rfl rfl rfl rfl rfl ?_
    iterate 2 refine AOps.q tt_ok rfl ?_
    refine AOps.nil ?_
    obtain rfl := someE H
    refine V.retP tt_ok rfl (ps := [(.agg [(pint x52.1.kind), (.str x52.1.text), (pint x52.1.number), (pint x52.1.offset)]), (pint x52.2.1), (pbool x52.2.2)]) ⟨_, _, rfl, ⟨_, _, _, _, _, rfl, rfl, rfl, rfl⟩, _, _, rfl, rfl, _, _, rfl, rfl, rfl⟩ (PLe.of_eq rfl)
  refine V.seq ?_
  refine V.region ?_
  iterate 3 refine AOps.q tt_ok rfl ?_
  refine AOps.nil ?_
  refine V.cH rfl H (fun H => ?_) (fun H => ?_)
  · refine V.seq ?_
    refine V.region ?_
    refine AOps.q tt_ok rfl ?_
    obtain ⟨x60, h60, H⟩ := bindE H
    have s60 := W_lexer_argument sA _ h60
    refine AOps.callP (g := 23) rfl rfl rfl Tryd.call23 (PLeAll.refl _ _) s60 rfl ?_
    iterate 3 refine AOps.q tt_ok rfl ?_
    refine AOps.storeBox tt_ok rfl rfl rfl rfl rfl rfl rfl rfl rfl rfl rfl ?_
    iterate 2 refine AOps.q tt_ok rfl ?_
    refine AOps.nil ?_
    obtain rfl := someE H
    refine V.retP tt_ok rfl (ps := [(.agg [(pint x60.1.kind), (.str x60.1.text), (pint x60.1.number), (pint x60.1.offset)]), (pint x60.2.1), (pbool x60.2.2)]) ⟨_, _, rfl, ⟨_, _, _, _, _, rfl, rfl, rfl, rfl⟩, _, _, rfl, rfl, _, _, rfl, rfl, rfl⟩ (PLe.of_eq rfl)
  refine V.seq ?_
  refine V.region ?_
  iterate 3 refine AOps.q tt_ok rfl ?_
  refine AOps.nil ?_
  refine V.cH rfl H (fun H => ?_) (fun H => ?_)
  · refine V.seq ?_
    refine V.region ?_
    refine AOps.q tt_ok rfl ?_
    obtain ⟨x68, h68, H⟩ := bindE H
    have s68 := W_lexer_quoted sA _ h68
    refine AOps.callP (g := 24) rfl rfl rfl Tryd.call24 (PLeAll.refl _ _) s68 rfl ?_
    iterate 3 refine AOps.q tt_ok rfl ?_
    refine AOps.storeBox tt_ok rfl rfl rfl rfl rfl rfl rfl rfl rfl rfl rfl ?_
    iterate 2 refine AOps.q tt_ok rfl ?_
    refine AOps.nil ?_
    obtain rfl := someE H
    refine V.retP tt_ok rfl (ps := [(.agg [(pint x68.1.kind), (.str x68.1.text), (pint x68.1.number), (pint x68.1.offset)]), (pint x68.2.1), (pbool x68.2.2)]) ⟨_, _, rfl, ⟨_, _, _, _, _, rfl, rfl, rfl, rfl⟩, _, _, rfl, rfl, _, _, rfl, rfl, rfl⟩ (PLe.of_eq rfl)
  refine V.skip ?_
  refine V.blk ?_
  iterate 2 refine V.seq ?_
  refine V.region ?_
  refine AOps.bsC (e := 9) (rows := [[(.str [124, 124])], [(.str [60, 61])], [(.str [40])], [(.str [41])], [(.str [44])], [(.str [124])], [(.str [43])], [(.str [45])], [(.str [42])], [(.str [61])], [(.str [60])], [(.str [36])]]) tt_ok rfl rfl rfl rfl (rows' := List.map rStr ([[124, 124], [60, 61], [40], [41], [44], [124], [43], [45], [42], [61], [60], [36]] : List (List UInt8))) (by kernel_rfl) (PLe2Rows.refl _) rfl rfl ?_
  refine AOps.lenL tt_ok rfl rfl rfl rfl rfl (List.length_map _) rfl ?_
  refine AOps.q tt_ok rfl ?_
  refine AOps.nil ?_
  obtain ⟨n4, hs4, H⟩ := bindE H
  have hz4 := smallI_some hs4
  obtain ⟨fl4, H4, Hp4⟩ := bindE H
  refine V.cut (τ := Unit) (γ := Unit) (fun s4 g4 => ⟨87, upd (fun _ => .any) 2 (.box 2 b2 0), upd (fun _ => none) 2 (some ⟨b2, [(pint 0), (.str []), (pint 0), (pint 0)]⟩), fun _ => none⟩) (fun t => fl4 = .next t) ?_ (fun s4 g4 hn4 => ?_)
  · refine V.block ?_
    refine V.rangeL (fun j4 s4 g4 => ⟨87, upd (upd (upd (upd (upd (fun _ => .any) 74 (pint (j4 : Int))) 73 (pint (([[124, 124], [60, 61], [40], [41], [44], [124], [43], [45], [42], [61], [60], [36]] : List (List UInt8)).length : Int))) 72 (.list 9 (([[124, 124], [60, 61], [40], [41], [44], [124], [43], [45], [42], [61], [60], [36]] : List (List UInt8)).map rStr))) 2 (.box 2 b2 0)) 0 (.str sA), upd (fun _ => none) 2 (some ⟨b2, [(pint 0), (.str []), (pint 0), (pint 0)]⟩), fun _ => none⟩) () H4 (Gh.le (SLe.cons (PLe.of_eq rfl) (SLe.cons (PLe.of_eq rfl) (SLe.cons (PLe.of_eq rfl) (SLe.cons (PLe.of_eq rfl) (SLe.cons (PLe.of_eq rfl) SLe.nil))))) (BLe.cons rfl (PLeAll.refl _ _) BLe.nil) OLe.nil) (fun j4 s4 g4 hj4 hr4 => ?_)
    refine V.seq ?_
    refine V.region ?_
    refine AOps.q tt_ok rfl ?_
    refine AOps.nil ?_
    refine V.seq ?_
    refine V.cond rfl (fun h => ?_) (fun h => ?_)
    · have hl4 := natLt hz4 h
      obtain ⟨x4, fb4, hx4, H, hg4⟩ := rangeM_cons hl4 hr4
      obtain rfl := natX hx4
      refine V.skip ?_
      refine V.seq ?_
      refine V.block ?_
      refine V.seq ?_
      refine V.region ?_
      obtain ⟨x76, k76, H⟩ := getE H
      refine AOps.idx tt_ok rfl rfl rfl rfl rfl rfl k76.1 (rowsGetI (fun _ => rfl) k76.2) rfl ?_
      iterate 2 refine AOps.q tt_ok rfl ?_
      refine AOps.nil ?_
      refine V.seq ?_
      refine V.region ?_
      iterate 2 refine AOps.q tt_ok rfl ?_
      obtain ⟨x80, h80, H⟩ := bindE H
      have s80 := W_hasPrefix sA x76 _ h80
      refine AOps.callP (g := 25) rfl rfl rfl Tryd.call25 (PLeAll.refl _ _) s80 rfl ?_
      refine AOps.nil ?_
      refine V.cH rfl H (fun H => ?_) (fun H => ?_)
      · refine V.seq ?_
        refine V.region ?_
        iterate 4 refine AOps.q tt_ok rfl ?_
        refine AOps.storeBox tt_ok rfl rfl rfl rfl rfl rfl rfl rfl rfl rfl rfl ?_
        iterate 2 refine AOps.q tt_ok rfl ?_
        refine AOps.nil ?_
        obtain rfl := someE H
        have e4 : fl4 = .ret _ := hg4
        subst e4
        obtain rfl := thenR_ret Hp4
        refine V.retP tt_ok rfl (ps := [(.agg [(pint 5), (.str x76), (pint 0), (pint 0)]), (pint (x76.length : Int)), (pbool true)]) ⟨_, _, rfl, ⟨_, _, _, _, _, rfl, rfl, rfl, rfl⟩, _, _, rfl, rfl, _, _, rfl, rfl, rfl⟩ (PLe.of_eq rfl)
      refine V.skip ?_
      refine V.blk ?_
      refine V.region ?_
      iterate 2 refine AOps.q tt_ok rfl ?_
      refine AOps.nil ?_
      obtain rfl := someE H
      refine V.againL () () ⟨hl4, hg4⟩ (Gh.le (SLe.cons (PLe.of_eq rfl) (SLe.cons (PLe.of_eq rfl) (SLe.cons (PLe.of_eq rfl) (SLe.cons (PLe.of_eq rfl) (SLe.cons (PLe.of_eq (pint_succN hz4 hl4)) SLe.nil))))) (BLe.cons rfl (PLeAll.refl _ _) BLe.nil) OLe.nil)
    have hn4 := rangeM_done (natGe hz4 h) hr4
    refine V.exit rfl ?_
    refine V.at s4 g4 hn4 (Gh.le (SLe.cons (PLe.of_eq rfl) SLe.nil) (BLe.cons rfl (PLeAll.refl _ _) BLe.nil) OLe.nil)
  have H := thenR_next hn4 Hp4
  refine V.seq ?_
  refine V.region ?_
  refine AOps.q tt_ok rfl ?_
  refine AOps.storeBox tt_ok rfl rfl rfl rfl rfl rfl rfl rfl rfl rfl rfl ?_
  iterate 2 refine AOps.q tt_ok rfl ?_
  refine AOps.nil ?_
  obtain rfl := someE H
  refine V.retP tt_ok rfl (ps := [(.agg [(pint 0), (.str []), (pint 0), (pint 0)]), (pint 0), (pbool false)]) ⟨_, _, rfl, ⟨_, _, _, _, _, rfl, rfl, rfl, rfl⟩, _, _, rfl, rfl, _, _, rfl, rfl, rfl⟩ (PLe.of_eq rfl)

end Go.Proofs.YtohlpijmiokkjaaDoor
