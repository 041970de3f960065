/- Lifted functions: printed by lift.py. -/
import Derived.Test.YtohlpijmiokkjaaDoorDat
import Derived.Test.YtohlpijmiokkjaaDoorDatT
import Derived.Test.YtohlpijmiokkjaaDoorNwA
import Derived.Test.YtohlpijmiokkjaaDoorLi1
import Derived.Test.YtohlpijmiokkjaaDoorLi4
namespace Go.Proofs.YtohlpijmiokkjaaDoor
open Go Go.Ab
attribute [local irreducible] V AOps DOps Gh Eff PCallsH IntKind.wrap
set_option maxRecDepth 4000

noncomputable def L_stemkeep3_tokens : Option (Bool) :=
  bindP (L_lexer_Tokenize ([97, 32, 60, 32, 51] : List UInt8)) fun x5 =>
  cond (x5.2.2 == (0 : Int))
    (some ((x5.1.length : Int) == (3 : Int)))
    (some false)

set_option maxHeartbeats 4000000 in
theorem W_stemkeep3_tokens (r : Bool) (H : L_stemkeep3_tokens = some r) :
    PFun Tryd.prog 6 [] (pbool r) := by
  unfold L_stemkeep3_tokens at H
  refine PCallsH.intro Tryd.func6 rfl Tryd.ntmps6 rfl ?_
  refine V.seq ?_
  refine V.region ?_
  refine AOps.q tt_ok rfl ?_
  refine AOps.nil ?_
  refine V.seq ?_
  refine V.region ?_
  obtain ⟨x5, h5, H⟩ := bindE H
  have s5 := W_lexer_Tokenize ([97, 32, 60, 32, 51] : List UInt8) _ h5
  refine AOps.callP (g := 7) rfl rfl rfl Tryd.call7 (PLeAll.refl _ _) s5 rfl ?_
  iterate 7 refine AOps.q tt_ok rfl ?_
  refine AOps.nil ?_
  refine V.seq ?_
  refine V.region ?_
  iterate 3 refine AOps.q tt_ok rfl ?_
  refine AOps.sH rfl rfl rfl H (fun H => ?_) (fun H => ?_)
  · refine AOps.q tt_ok rfl ?_
    refine AOps.lenL tt_ok rfl rfl rfl rfl rfl (List.length_map _) rfl ?_
    iterate 3 refine AOps.q tt_ok rfl ?_
    refine AOps.nil ?_
    obtain rfl := someE H
    refine V.retP tt_ok rfl (ps := [(pbool ((x5.1.length : Int) == (3 : Int)))]) ⟨_, _, rfl, rfl, rfl⟩ (PLe.of_eq rfl)
  iterate 5 refine AOps.q tt_ok rfl ?_
  refine AOps.nil ?_
  obtain rfl := someE H
  refine V.retP tt_ok rfl (ps := [(pbool false)]) ⟨_, _, rfl, rfl, rfl⟩ (PLe.of_eq rfl)

noncomputable def L_lexer_Format (t : LLexerToken) : Option ((List UInt8)) :=
  letP (
    cond (t.kind == (1 : Int))
      ((t.kind == (1 : Int)))
      (cond (t.kind == (2 : Int))
        ((t.kind == (2 : Int)))
        ((t.kind == (5 : Int))))) fun (t1 : Bool) =>
  bindP (
    cond t1
      (some t.text)
      (cond (t.kind == (3 : Int))
        (bindP (itoaL t.number) fun x19 =>
        some x19)
        (cond (t.kind == (6 : Int))
          (bindP (itoaL t.number) fun x24 =>
          bindP (catS ([63] : List UInt8) x24) fun (x25 : List UInt8) =>
          bindP (catS x25 t.text) fun (x28 : List UInt8) =>
          some x28)
          (cond (t.kind == (4 : Int))
            (bindP (L_lexer_Quote t.text) fun x33 =>
            some x33)
            (some []))))) fun (t2 : List UInt8) =>
  bindP (L_lexer_Tokenize t2) fun x36 =>
  cond (x36.2.2 != (0 : Int))
    (some [])
    (cond ((x36.1.length : Int) != (1 : Int))
      (some [])
      (bindP (getI x36.1 0) fun (x49 : LLexerToken) =>
      cond (x49.kind != t.kind)
        (some [])
        (bindP (getI x36.1 0) fun (x58 : LLexerToken) =>
        cond (!(x58.text == t.text))
          (cond (t.kind != (3 : Int))
            (some [])
            (bindP (getI x36.1 0) fun (x72 : LLexerToken) =>
            cond (x72.number != t.number)
              (cond (t.kind == (3 : Int))
                (some [])
                (cond (t.kind == (6 : Int))
                  (some [])
                  (some t2)))
              (some t2)))
          (bindP (getI x36.1 0) fun (x72 : LLexerToken) =>
          cond (x72.number != t.number)
            (cond (t.kind == (3 : Int))
              (some [])
              (cond (t.kind == (6 : Int))
                (some [])
                (some t2)))
            (some t2)))))

set_option maxHeartbeats 4000000 in
theorem W_lexer_Format (t : LLexerToken) (r : (List UInt8)) (H : L_lexer_Format t = some r) :
    PFun Tryd.prog 9 [(.agg (encLexerToken t))] (.str r) := by
  unfold L_lexer_Format at H
  refine PCallsH.intro Tryd.func9 rfl Tryd.ntmps9 rfl ?_
  refine V.seq ?_
  refine V.region ?_
  refine AOps.boxF rfl rfl rfl rfl rfl rfl ?_
  refine AOps.q tt_ok rfl ?_
  refine AOps.nil ?_
  refine V.seq ?_
  refine V.region ?_
  refine AOps.q tt_ok rfl ?_
  refine AOps.nil ?_
  iterate 2 refine V.seq ?_
  refine V.region ?_
  iterate 2 refine AOps.q tt_ok rfl ?_
  refine AOps.nil ?_
  refine V.block ?_
  iterate 2 refine V.seq ?_
  refine V.region ?_
  iterate 2 refine AOps.q tt_ok rfl ?_
  refine AOps.nil ?_
  obtain ⟨fl1, H1, Hp1⟩ := letE H
  refine V.cut (τ := Bool) (γ := Unit) (fun t1 g1 => ⟨90, upd (upd (upd (upd (fun _ => .any) 9 (pbool t1)) 8 (pint t.kind)) 3 (.str [])) 1 (.ptr [(pint t.kind), (.str t.text), (pint t.number), (pint t.offset)]), fun _ => none, fun _ => none⟩) (fun t => t = fl1) ?_ (fun t1 g1 hn1 => ?_)
  · have H := H1
    refine V.cH rfl H (fun H => ?_) (fun H => ?_)
    · refine V.skip ?_
      subst H
      refine V.at (t.kind == (1 : Int)) () rfl (Gh.le (SLe.cons (PLe.of_eq rfl) (SLe.cons (PLe.of_eq rfl) (SLe.cons (PLe.of_eq rfl) (SLe.cons (PLe.of_eq rfl) SLe.nil)))) BLe.nil OLe.nil)
    refine V.seq ?_
    refine V.region ?_
    iterate 2 refine AOps.q tt_ok rfl ?_
    refine AOps.nil ?_
    refine V.cH rfl H (fun H => ?_) (fun H => ?_)
    · refine V.skip ?_
      subst H
      refine V.at (t.kind == (2 : Int)) () rfl (Gh.le (SLe.cons (PLe.of_eq rfl) (SLe.cons (PLe.of_eq rfl) (SLe.cons (PLe.of_eq rfl) (SLe.cons (PLe.of_eq rfl) SLe.nil)))) BLe.nil OLe.nil)
    refine V.region ?_
    iterate 2 refine AOps.q tt_ok rfl ?_
    refine AOps.nil ?_
    subst H
    refine V.at (t.kind == (5 : Int)) () rfl (Gh.le (SLe.cons (PLe.of_eq rfl) (SLe.cons (PLe.of_eq rfl) (SLe.cons (PLe.of_eq rfl) (SLe.cons (PLe.of_eq rfl) SLe.nil)))) BLe.nil OLe.nil)
  subst hn1
  have H := Hp1
  obtain ⟨fl2, H2, Hp2⟩ := bindE H
  refine V.cut (τ := List UInt8) (γ := Unit) (fun t2 g2 => ⟨90, upd (upd (fun _ => .any) 3 (.str t2)) 1 (.ptr [(pint t.kind), (.str t.text), (pint t.number), (pint t.offset)]), fun _ => none, fun _ => none⟩) (fun t => t = fl2) ?_ (fun t2 g2 hn2 => ?_)
  · have H := H2
    refine V.cH rfl H (fun H => ?_) (fun H => ?_)
    · refine V.region ?_
      iterate 3 refine AOps.q tt_ok rfl ?_
      refine AOps.nil ?_
      obtain rfl := someE H
      refine V.at t.text () rfl (Gh.le (SLe.cons (PLe.of_eq rfl) (SLe.cons (PLe.of_eq rfl) SLe.nil)) BLe.nil OLe.nil)
    refine V.seq ?_
    refine V.region ?_
    iterate 2 refine AOps.q tt_ok rfl ?_
    refine AOps.nil ?_
    refine V.cH rfl H (fun H => ?_) (fun H => ?_)
    · refine V.region ?_
      iterate 2 refine AOps.q tt_ok rfl ?_
      obtain ⟨x19, h19, H⟩ := bindE H
      have s19 := W_itoa t.number _ h19
      refine AOps.callP (g := 14) rfl rfl rfl Tryd.call14 (PLeAll.refl _ _) s19 rfl ?_
      refine AOps.q tt_ok rfl ?_
      refine AOps.nil ?_
      obtain rfl := someE H
      refine V.at x19 () rfl (Gh.le (SLe.cons (PLe.of_eq rfl) (SLe.cons (PLe.of_eq rfl) SLe.nil)) BLe.nil OLe.nil)
    refine V.seq ?_
    refine V.region ?_
    iterate 2 refine AOps.q tt_ok rfl ?_
    refine AOps.nil ?_
    refine V.cH rfl H (fun H => ?_) (fun H => ?_)
    · refine V.draw tt_ok mixed_ok ⟨false, false, []⟩ [0, 1, 4, 5, 2, 3, 6, 7] rfl (by decide +kernel) rfl ?_
      iterate 4 refine DOps.q rfl ?_
      obtain ⟨x24, h24, H⟩ := bindE H
      have s24 := W_itoa t.number _ h24
      refine DOps.callP (g := 14) rfl rfl rfl rfl Tryd.call14 (PLeAll.refl _ _) s24 rfl ?_
      obtain ⟨x25, h25, H⟩ := bindE H
      have k25 := catS_some h25
      refine DOps.catC rfl rfl rfl rfl rfl k25.1 k25.2 rfl ?_
      obtain ⟨x28, h28, H⟩ := bindE H
      have k28 := catS_some h28
      refine DOps.catC rfl rfl rfl rfl rfl k28.1 k28.2 rfl ?_
      refine DOps.q rfl ?_
      refine DOps.nil ?_
      obtain rfl := someE H
      refine V.at x28 () rfl (Gh.le (SLe.cons (PLe.of_eq rfl) (SLe.cons (PLe.of_eq rfl) SLe.nil)) BLe.nil OLe.nil)
    refine V.seq ?_
    refine V.region ?_
    iterate 2 refine AOps.q tt_ok rfl ?_
    refine AOps.nil ?_
    refine V.cH rfl H (fun H => ?_) (fun H => ?_)
    · refine V.region ?_
      iterate 2 refine AOps.q tt_ok rfl ?_
      obtain ⟨x33, h33, H⟩ := bindE H
      have s33 := W_lexer_Quote t.text _ h33
      refine AOps.callP (g := 8) rfl rfl rfl Tryd.call8 (PLeAll.refl _ _) s33 rfl ?_
      refine AOps.q tt_ok rfl ?_
      refine AOps.nil ?_
      obtain rfl := someE H
      refine V.at x33 () rfl (Gh.le (SLe.cons (PLe.of_eq rfl) (SLe.cons (PLe.of_eq rfl) SLe.nil)) BLe.nil OLe.nil)
    refine V.skip ?_
    obtain rfl := someE H
    refine V.at [] () rfl (Gh.le (SLe.cons (PLe.of_eq rfl) (SLe.cons (PLe.of_eq rfl) SLe.nil)) BLe.nil OLe.nil)
  subst hn2
  have H := Hp2
  refine V.blk ?_
  refine V.seq ?_
  refine V.region ?_
  refine AOps.q tt_ok rfl ?_
  obtain ⟨x36, h36, H⟩ := bindE H
  have s36 := W_lexer_Tokenize t2 _ h36
  refine AOps.callP (g := 7) rfl rfl rfl Tryd.call7 (PLeAll.refl _ _) s36 rfl ?_
  iterate 7 refine AOps.q tt_ok rfl ?_
  refine AOps.nil ?_
  iterate 2 refine V.seq ?_
  refine V.draw tt_ok mixed_ok ⟨false, false, []⟩ [0, 1, 2, 3, 4, 5, 6, 7, 8, 9, 10, 11, 12, 13, 14, 15, 16, 17, 18, 19, 20, 21, 22, 23, 24, 25, 26, 27, 28, 29, 30, 31, 32, 33, 34, 35, 36, 37, 38, 39, 40, 41, 42, 43, 44, 45, 46, 47, 48] rfl (by decide +kernel) rfl ?_
  iterate 3 refine DOps.q rfl ?_
  refine DOps.sH rfl rfl rfl rfl H (fun H => ?_) (fun H => ?_)
  · refine DOps.q rfl ?_
    iterate 45 refine DOps.q rfl ?_
    refine DOps.nil ?_
    refine V.condT rfl ?_
    refine V.seq ?_
    refine V.region ?_
    refine AOps.q tt_ok rfl ?_
    refine AOps.nil ?_
    obtain rfl := someE H
    refine V.retP tt_ok rfl (ps := [(.str [])]) ⟨_, _, rfl, rfl, rfl⟩ (PLe.of_eq rfl)
  refine DOps.q rfl ?_
  refine DOps.lenL rfl rfl rfl rfl rfl rfl (List.length_map _) rfl ?_
  iterate 3 refine DOps.q rfl ?_
  refine DOps.sH rfl rfl rfl rfl H (fun H => ?_) (fun H => ?_)
  · refine DOps.q rfl ?_
    iterate 40 refine DOps.q rfl ?_
    refine DOps.nil ?_
    refine V.condT rfl ?_
    refine V.seq ?_
    refine V.region ?_
    refine AOps.q tt_ok rfl ?_
    refine AOps.nil ?_
    obtain rfl := someE H
    refine V.retP tt_ok rfl (ps := [(.str [])]) ⟨_, _, rfl, rfl, rfl⟩ (PLe.of_eq rfl)
  refine DOps.q rfl ?_
  obtain ⟨x49, k49, H⟩ := getE H
  refine DOps.idx rfl rfl rfl rfl rfl rfl rfl k49.1 (rowsGetI (fun _ => rfl) k49.2) rfl ?_
  iterate 7 refine DOps.q rfl ?_
  refine DOps.sH rfl rfl rfl rfl H (fun H => ?_) (fun H => ?_)
  · refine DOps.q rfl ?_
    iterate 31 refine DOps.q rfl ?_
    refine DOps.nil ?_
    refine V.condT rfl ?_
    refine V.seq ?_
    refine V.region ?_
    refine AOps.q tt_ok rfl ?_
    refine AOps.nil ?_
    obtain rfl := someE H
    refine V.retP tt_ok rfl (ps := [(.str [])]) ⟨_, _, rfl, rfl, rfl⟩ (PLe.of_eq rfl)
  refine DOps.q rfl ?_
  obtain ⟨x58, k58, H⟩ := getE H
  refine DOps.idx rfl rfl rfl rfl rfl rfl rfl k58.1 (rowsGetI (fun _ => rfl) k58.2) rfl ?_
  iterate 6 refine DOps.q rfl ?_
  refine DOps.sH rfl rfl rfl rfl H (fun H => ?_) (fun H => ?_)
  · refine DOps.q rfl ?_
    iterate 5 refine DOps.q rfl ?_
    refine DOps.sH rfl rfl rfl rfl H (fun H => ?_) (fun H => ?_)
    · refine DOps.q rfl ?_
      iterate 17 refine DOps.q rfl ?_
      refine DOps.nil ?_
      refine V.condT rfl ?_
      refine V.seq ?_
      refine V.region ?_
      refine AOps.q tt_ok rfl ?_
      refine AOps.nil ?_
      obtain rfl := someE H
      refine V.retP tt_ok rfl (ps := [(.str [])]) ⟨_, _, rfl, rfl, rfl⟩ (PLe.of_eq rfl)
    refine DOps.q rfl ?_
    obtain ⟨x72, k72, H⟩ := getE H
    refine DOps.idx rfl rfl rfl rfl rfl rfl rfl k72.1 (rowsGetI (fun _ => rfl) k72.2) rfl ?_
    iterate 6 refine DOps.q rfl ?_
    refine DOps.sH rfl rfl rfl rfl H (fun H => ?_) (fun H => ?_)
    · refine DOps.q rfl ?_
      iterate 3 refine DOps.q rfl ?_
      refine DOps.sH rfl rfl rfl rfl H (fun H => ?_) (fun H => ?_)
      · refine DOps.q rfl ?_
        iterate 5 refine DOps.q rfl ?_
        refine DOps.nil ?_
        refine V.condT rfl ?_
        refine V.seq ?_
        refine V.region ?_
        refine AOps.q tt_ok rfl ?_
        refine AOps.nil ?_
        obtain rfl := someE H
        refine V.retP tt_ok rfl (ps := [(.str [])]) ⟨_, _, rfl, rfl, rfl⟩ (PLe.of_eq rfl)
      iterate 6 refine DOps.q rfl ?_
      refine DOps.nil ?_
      refine V.cH rfl H (fun H => ?_) (fun H => ?_)
      · refine V.seq ?_
        refine V.region ?_
        refine AOps.q tt_ok rfl ?_
        refine AOps.nil ?_
        obtain rfl := someE H
        refine V.retP tt_ok rfl (ps := [(.str [])]) ⟨_, _, rfl, rfl, rfl⟩ (PLe.of_eq rfl)
      refine V.skip ?_
      refine V.seq ?_
      refine V.region ?_
      iterate 2 refine AOps.q tt_ok rfl ?_
      refine AOps.nil ?_
      obtain rfl := someE H
      refine V.retP tt_ok rfl (ps := [(.str t2)]) ⟨_, _, rfl, rfl, rfl⟩ (PLe.of_eq rfl)
    iterate 10 refine DOps.q rfl ?_
    refine DOps.nil ?_
    refine V.condF rfl ?_
    refine V.skip ?_
    refine V.seq ?_
    refine V.region ?_
    iterate 2 refine AOps.q tt_ok rfl ?_
    refine AOps.nil ?_
    obtain rfl := someE H
    refine V.retP tt_ok rfl (ps := [(.str t2)]) ⟨_, _, rfl, rfl, rfl⟩ (PLe.of_eq rfl)
  iterate 7 refine DOps.q rfl ?_
  obtain ⟨x72, k72, H⟩ := getE H
  refine DOps.idx rfl rfl rfl rfl rfl rfl rfl k72.1 (rowsGetI (fun _ => rfl) k72.2) rfl ?_
  iterate 6 refine DOps.q rfl ?_
  refine DOps.sH rfl rfl rfl rfl H (fun H => ?_) (fun H => ?_)
  · refine DOps.q rfl ?_
    iterate 3 refine DOps.q rfl ?_
    refine DOps.sH rfl rfl rfl rfl H (fun H => ?_) (fun H => ?_)
    · refine DOps.q rfl ?_
      iterate 5 refine DOps.q rfl ?_
      refine DOps.nil ?_
      refine V.condT rfl ?_
      refine V.seq ?_
      refine V.region ?_
      refine AOps.q tt_ok rfl ?_
      refine AOps.nil ?_
      obtain rfl := someE H
      refine V.retP tt_ok rfl (ps := [(.str [])]) ⟨_, _, rfl, rfl, rfl⟩ (PLe.of_eq rfl)
    iterate 6 refine DOps.q rfl ?_
    refine DOps.nil ?_
    refine V.cH rfl H (fun H => ?_) (fun H => ?_)
    · refine V.seq ?_
      refine V.region ?_
      refine AOps.q tt_ok rfl ?_
      refine AOps.nil ?_
      obtain rfl := someE H
      refine V.retP tt_ok rfl (ps := [(.str [])]) ⟨_, _, rfl, rfl, rfl⟩ (PLe.of_eq rfl)
    refine V.skip ?_
    refine V.seq ?_
    refine V.region ?_
    iterate 2 refine AOps.q tt_ok rfl ?_
    refine AOps.nil ?_
    obtain rfl := someE H
    refine V.retP tt_ok rfl (ps := [(.str t2)]) ⟨_, _, rfl, rfl, rfl⟩ (PLe.of_eq rfl)
  iterate 10 refine DOps.q rfl ?_
  refine DOps.nil ?_
  refine V.condF rfl ?_
  refine V.skip ?_
  refine V.seq ?_
  refine V.region ?_
  iterate 2 refine AOps.q tt_ok rfl ?_
  refine AOps.nil ?_
  obtain rfl := someE H
  refine V.retP tt_ok rfl (ps := [(.str t2)]) ⟨_, _, rfl, rfl, rfl⟩ (PLe.of_eq rfl)

end Go.Proofs.YtohlpijmiokkjaaDoor
