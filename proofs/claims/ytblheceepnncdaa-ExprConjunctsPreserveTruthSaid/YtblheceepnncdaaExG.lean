/- Expressions, part G: the comparison law's walk. -/
import Derived.Test.YtblheceepnncdaaExF
namespace Go.Proofs.Ytblheceepnncdaa
open Go Go.Ab
attribute [local irreducible] V AOps DOps Gh Eff PCallsH IntKind.wrap
set_option maxRecDepth 4000

def lit (v : LVal) : LExpr := .mk 1 [] 0 v []
def oper (name : List UInt8) (l : List LExpr) : LExpr := .mk 5 name 0 .nul l

theorem eval_lit (v : LEnv) (x : LVal) : evalE v (lit x) = x := by simp [evalE_eq, lit, LExpr.kind, LExpr.value]
theorem eval_oper (v : LEnv) (name : List UInt8) (l : List LExpr) : evalE v (oper name l) = reckonV name (l.map (evalE v)) := by
  simp [evalE_eq, oper, LExpr.kind, LExpr.name, LExpr.args]

theorem values_spec : PFun Try.prog 8 [] (pbool true) := by
  refine PCallsH.intro Try.func8 rfl Try.ntmps8 rfl ?_
  repeat' (first | (show AOps _ _ _ _ _; first | refine AOps.q tt_ok rfl ?_ | refine AOps.nil ?_ | refine AOps.loadBox tt_ok rfl rfl rfl rfl rfl rfl rfl ?_ | refine AOps.boxF rfl rfl rfl rfl rfl rfl ?_ | refine AOps.bsF tt_ok rfl rfl rfl rfl rfl rfl ?_ | (refine AOps.alloc tt_ok rfl rfl rfl rfl rfl rfl ?_; intro bk) | refine AOps.storeBox tt_ok rfl rfl rfl rfl rfl rfl rfl rfl rfl rfl rfl ?_ | refine AOps.callP (g := 30) rfl rfl rfl Try.call30 (PLeAll.refl _ _) (boolV_spec _) rfl ?_ | refine AOps.callP (g := 11) rfl rfl rfl Try.call11 (PLeAll.refl _ _) (isTrueV_spec _) rfl ?_ | (refine AOps.callP (g := 12) rfl rfl rfl Try.call12 (PLeAll.of2 ?_) (eval_spec .none (lit (boolV true))) rfl ?_; (focus (repeat' (first | exact PLe2All.refl _ | exact PLe2.refl _ | exact PLe2Row.refl _ | exact PLe2Rows.refl _ | exact PLe2.nil tt_ok rfl | apply PLe2All.cons | apply PLe2.agg | apply PLe2.tup | apply PLe2.ptr | apply PLe2.fn | apply PLe2.list | apply PLe2Row.cons | apply PLe2Rows.cons))); change AOps _ _ _ _ _) | ((fail_if_success refine AOps.decided rfl ?_); refine AOps.split rfl rfl rfl (fun h => ?_) (fun h => ?_))) | (show V _ _ _ _ _; first | refine V.seq ?_ | refine V.region ?_ | refine V.skip ?_ | refine V.condT rfl ?_ | refine V.condF rfl ?_ | refine V.block ?_ | refine V.blk ?_ | refine V.exit rfl ?_ | refine V.cond rfl (fun h => ?_) (fun h => ?_)) | (show DOps _ _ _ _ _ _ _; first | refine DOps.q rfl ?_ | refine DOps.nil ?_ | refine DOps.alloc rfl rfl rfl rfl rfl rfl rfl rfl fun bk => ?_ | refine DOps.storeBox rfl rfl rfl rfl rfl rfl rfl rfl rfl rfl rfl rfl ?_ | refine DOps.loadBox rfl rfl rfl rfl rfl rfl rfl rfl rfl ?_ | refine DOps.callP (g := 30) rfl rfl rfl rfl Try.call30 (PLeAll.refl _ _) (boolV_spec _) rfl ?_ | refine DOps.callP (g := 11) rfl rfl rfl rfl Try.call11 (PLeAll.refl _ _) (isTrueV_spec _) rfl ?_ | (refine DOps.callP (g := 12) rfl rfl rfl rfl Try.call12 (PLeAll.of2 ?_) (eval_spec .none (lit (boolV true))) rfl ?_; (focus (repeat' (first | exact PLe2All.refl _ | exact PLe2.refl _ | exact PLe2Row.refl _ | exact PLe2Rows.refl _ | exact PLe2.nil tt_ok rfl | apply PLe2All.cons | apply PLe2.agg | apply PLe2.tup | apply PLe2.ptr | apply PLe2.fn | apply PLe2.list | apply PLe2Row.cons | apply PLe2Rows.cons))); change DOps _ _ _ _ _ _ _) | ((fail_if_success refine DOps.decided rfl rfl ?_); refine DOps.split rfl rfl rfl rfl (fun h => ?_) (fun h => ?_))))
  all_goals refine V.ret1 tt_ok rfl rfl (PLe.of_eq ?_)
  rw [eval_lit]
  rfl

def isV (op : List UInt8) (x y : LVal) : Bool := isTrueV (reckonV op [x, y])

theorem is_spec (op : List UInt8) (x y : LVal) : PFun Try.prog 10 [.str op, pval x, pval y] (pbool (isV op x y)) := by
  refine PCallsH.intro Try.func10 rfl Try.ntmps10 rfl ?_
  repeat' (first | (show AOps _ _ _ _ _; first | refine AOps.q tt_ok rfl ?_ | refine AOps.nil ?_ | refine AOps.loadBox tt_ok rfl rfl rfl rfl rfl rfl rfl ?_ | refine AOps.boxF rfl rfl rfl rfl rfl rfl ?_ | refine AOps.bsF tt_ok rfl rfl rfl rfl rfl rfl ?_ | (refine AOps.alloc tt_ok rfl rfl rfl rfl rfl rfl ?_; intro bk) | refine AOps.storeBox tt_ok rfl rfl rfl rfl rfl rfl rfl rfl rfl rfl rfl ?_ | refine AOps.callP (g := 11) rfl rfl rfl Try.call11 (PLeAll.refl _ _) (isTrueV_spec _) rfl ?_ | (refine AOps.callP (g := 12) rfl rfl rfl Try.call12 (PLeAll.of2 ?_) (eval_spec .none (oper op [lit x, lit y])) rfl ?_; (focus (repeat' (first | exact PLe2All.refl _ | exact PLe2.refl _ | exact PLe2Row.refl _ | exact PLe2Rows.refl _ | exact PLe2.nil tt_ok rfl | apply PLe2All.cons | apply PLe2.agg | apply PLe2.tup | apply PLe2.ptr | apply PLe2.fn | apply PLe2.list | apply PLe2Row.cons | apply PLe2Rows.cons))); change AOps _ _ _ _ _) | ((fail_if_success refine AOps.decided rfl ?_); refine AOps.split rfl rfl rfl (fun h => ?_) (fun h => ?_))) | (show V _ _ _ _ _; first | refine V.seq ?_ | refine V.region ?_ | refine V.skip ?_ | refine V.condT rfl ?_ | refine V.condF rfl ?_ | refine V.block ?_ | refine V.blk ?_ | refine V.exit rfl ?_ | refine V.cond rfl (fun h => ?_) (fun h => ?_)) | (show DOps _ _ _ _ _ _ _; first | refine DOps.q rfl ?_ | refine DOps.nil ?_ | refine DOps.alloc rfl rfl rfl rfl rfl rfl rfl rfl fun bk => ?_ | refine DOps.storeBox rfl rfl rfl rfl rfl rfl rfl rfl rfl rfl rfl rfl ?_ | refine DOps.loadBox rfl rfl rfl rfl rfl rfl rfl rfl rfl ?_ | refine DOps.callP (g := 11) rfl rfl rfl rfl Try.call11 (PLeAll.refl _ _) (isTrueV_spec _) rfl ?_ | (refine DOps.callP (g := 12) rfl rfl rfl rfl Try.call12 (PLeAll.of2 ?_) (eval_spec .none (oper op [lit x, lit y])) rfl ?_; (focus (repeat' (first | exact PLe2All.refl _ | exact PLe2.refl _ | exact PLe2Row.refl _ | exact PLe2Rows.refl _ | exact PLe2.nil tt_ok rfl | apply PLe2All.cons | apply PLe2.agg | apply PLe2.tup | apply PLe2.ptr | apply PLe2.fn | apply PLe2.list | apply PLe2Row.cons | apply PLe2Rows.cons))); change DOps _ _ _ _ _ _ _) | ((fail_if_success refine DOps.decided rfl rfl ?_); refine DOps.split rfl rfl rfl rfl (fun h => ?_) (fun h => ?_))))
  all_goals refine V.ret1 tt_ok rfl rfl (PLe.of_eq ?_)
  rw [eval_oper]
  simp [eval_lit, isV]

theorem isTrue_bool (b : Bool) : isTrueV (boolV b) = b := by cases b <;> rfl

def cmpRes (a b : LVal) : Bool :=
  ([isV [60] a b, isV [61] a b, isV [60] b a].filter id).length == 1 && (isV [60, 61] a b == !isV [60] b a) && (isV [61] a b == decide (a = b)) && (lessV a b == isV [60] a b)

theorem count_succ {bs : List Bool} {j : Nat} (h : j < bs.length) : ((bs.take (j + 1)).filter id).length = ((bs.take j).filter id).length + (if bs[j] then 1 else 0) := by
  rw [List.take_add_one, List.getElem?_eq_getElem h]
  simp only [List.filter_append, List.length_append, Option.toList]
  cases bs[j] <;> simp

theorem cmp_walk (a b : LVal) (hc : validV a = true → validV b = true → a.kind = b.kind → a.kind ≠ 0 → cmpRes a b = true) : PFun Try.prog 3 [pval a, pval b] (pbool true) := by
  refine PCallsH.intro Try.func3 rfl Try.ntmps3 rfl ?_
  repeat' (first | (show AOps _ _ _ _ _; first | refine AOps.q tt_ok rfl ?_ | refine AOps.nil ?_ | refine AOps.loadBox tt_ok rfl rfl rfl rfl rfl rfl rfl ?_ | refine AOps.boxF rfl rfl rfl rfl rfl rfl ?_ | refine AOps.bsF tt_ok rfl rfl rfl rfl rfl rfl ?_ | (refine AOps.alloc tt_ok rfl rfl rfl rfl rfl rfl ?_; intro bk) | refine AOps.storeBox tt_ok rfl rfl rfl rfl rfl rfl rfl rfl rfl rfl rfl ?_ | refine AOps.callP (g := 8) rfl rfl rfl Try.call8 (PLeAll.refl _ _) (values_spec) rfl ?_ | refine AOps.callP (g := 9) rfl rfl rfl Try.call9 (PLeAll.refl _ _) (validV_spec _) rfl ?_ | refine AOps.callP (g := 10) rfl rfl rfl Try.call10 (PLeAll.refl _ _) (is_spec _ _ _) rfl ?_ | refine AOps.callP (g := 13) rfl rfl rfl Try.call13 (PLeAll.refl _ _) (lessV_spec _ _) rfl ?_ | ((fail_if_success refine AOps.decided rfl ?_); refine AOps.split rfl rfl rfl (fun h => ?_) (fun h => ?_))) | (show V _ _ _ _ _; first | refine V.seq ?_ | refine V.region ?_ | refine V.skip ?_ | refine V.condT rfl ?_ | refine V.condF rfl ?_ | refine V.block ?_ | refine V.blk ?_ | refine V.exit rfl ?_ | (show V _ _ _ (.code (.region 7 _ true) :: _) _; refine V.draw tt_ok mixed_ok false [0, 1, 2, 4, 5, 6, 8, 9, 10, 14, 3, 7, 11, 12, 13] rfl (by decide +kernel) rfl ?_) | (show V _ _ _ (.code (.region 13 _ true) :: _) _; refine V.draw tt_ok mixed_ok false [0, 1, 2, 3, 4, 5, 7, 8, 9, 6, 10, 11, 12, 13, 14, 15, 16, 17, 19, 20, 21, 18, 22, 23, 24, 25, 26, 28, 29, 30, 27, 31, 32, 33, 34] rfl (by decide +kernel) rfl ?_) | refine V.cond rfl (fun h => ?_) (fun h => ?_)) | (show DOps _ _ _ _ _ _ _; first | refine DOps.q rfl ?_ | refine DOps.nil ?_ | refine DOps.alloc rfl rfl rfl rfl rfl rfl rfl rfl fun bk => ?_ | refine DOps.storeBox rfl rfl rfl rfl rfl rfl rfl rfl rfl rfl rfl rfl ?_ | refine DOps.loadBox rfl rfl rfl rfl rfl rfl rfl rfl rfl ?_ | refine DOps.callP (g := 8) rfl rfl rfl rfl Try.call8 (PLeAll.refl _ _) (values_spec) rfl ?_ | refine DOps.callP (g := 9) rfl rfl rfl rfl Try.call9 (PLeAll.refl _ _) (validV_spec _) rfl ?_ | refine DOps.callP (g := 10) rfl rfl rfl rfl Try.call10 (PLeAll.refl _ _) (is_spec _ _ _) rfl ?_ | refine DOps.callP (g := 13) rfl rfl rfl rfl Try.call13 (PLeAll.refl _ _) (lessV_spec _ _) rfl ?_ | ((fail_if_success refine DOps.decided rfl rfl ?_); refine DOps.split rfl rfl rfl rfl (fun h => ?_) (fun h => ?_))))
  all_goals try (refine V.ret1 tt_ok rfl rfl (PLe.of_eq rfl); done)
  rename_i h1 h2 h3
  have hc' : cmpRes a b = true := hc (by simpa using h1) (by simpa using h2) (by simpa using h3) (by simpa using h)
  obtain ⟨bs, hbs⟩ : ∃ bs, bs = [isV [60] a b, isV [61] a b, isV [60] b a] := ⟨_, rfl⟩
  have hb3 : bs.length = 3 := by rw [hbs]; rfl
  refine V.loopF (X := Nat) (fun j => ⟨87, upd (upd (upd (upd (upd (upd (upd (fun _ => .any) 3 (.ptr (encVal b))) 2 (.ptr (encVal a))) 5 (.fn 10 [])) 6 (pint ((bs.take j).filter id).length)) 45 (pint j)) 44 (pint 3)) 43 (.list 4 (bs.map fun x => [pbool x])), fun _ => none, fun _ => none⟩)
    (fun j => j ≤ 3) (fun j => 3 - j) 0 (by omega) (Gh.le (SLe.cons (PLe.of_eq (by rw [hbs]; rfl)) (SLe.cons (PLe.of_eq rfl) (SLe.cons (PLe.of_eq rfl) (SLe.cons (PLe.of_eq rfl) (SLe.cons (PLe.of_eq rfl) (SLe.cons (PLe.of_eq rfl) (SLe.cons (PLe.of_eq rfl) SLe.nil))))))) BLe.nil OLe.nil) ?_
  intro j hj
  repeat (first | refine AOps.q tt_ok rfl ?_ | refine AOps.nil ?_ | refine V.seq ?_ | refine V.region ?_ | refine V.skip ?_ | refine V.condT rfl ?_ | refine V.condF rfl ?_ | refine V.block ?_ | refine V.blk ?_ | refine V.exit rfl ?_ | refine AOps.loadBox tt_ok rfl rfl rfl rfl rfl rfl rfl ?_ | refine AOps.boxF rfl rfl rfl rfl rfl rfl ?_ | refine AOps.bsF tt_ok rfl rfl rfl rfl rfl rfl ?_ | (refine AOps.alloc tt_ok rfl rfl rfl rfl rfl rfl ?_; intro bk) | refine AOps.storeBox tt_ok rfl rfl rfl rfl rfl rfl rfl rfl rfl rfl rfl ?_)
  refine V.cond rfl (fun h => ?_) (fun h => ?_)
  · have hlt : j < bs.length := by rw [hb3]; have := of_decide_eq_true h; omega
    have hget : bs[j]? = some bs[j] := List.getElem?_eq_getElem hlt
    repeat (first | refine AOps.q tt_ok rfl ?_ | refine AOps.nil ?_ | refine V.seq ?_ | refine V.region ?_ | refine V.skip ?_ | refine V.condT rfl ?_ | refine V.condF rfl ?_ | refine V.block ?_ | refine V.blk ?_ | refine V.exit rfl ?_ | refine AOps.loadBox tt_ok rfl rfl rfl rfl rfl rfl rfl ?_ | refine AOps.boxF rfl rfl rfl rfl rfl rfl ?_ | refine AOps.bsF tt_ok rfl rfl rfl rfl rfl rfl ?_ | (refine AOps.alloc tt_ok rfl rfl rfl rfl rfl rfl ?_; intro bk) | refine AOps.storeBox tt_ok rfl rfl rfl rfl rfl rfl rfl rfl rfl rfl rfl ?_)
    refine AOps.idx tt_ok rfl rfl rfl rfl rfl rfl (Int.natCast_nonneg j) (r := [pbool bs[j]]) (by simp [hget]) rfl ?_
    repeat (first | refine AOps.q tt_ok rfl ?_ | refine AOps.nil ?_ | refine V.seq ?_ | refine V.region ?_ | refine V.skip ?_ | refine V.condT rfl ?_ | refine V.condF rfl ?_ | refine V.block ?_ | refine V.blk ?_ | refine V.exit rfl ?_ | refine AOps.loadBox tt_ok rfl rfl rfl rfl rfl rfl rfl ?_ | refine AOps.boxF rfl rfl rfl rfl rfl rfl ?_ | refine AOps.bsF tt_ok rfl rfl rfl rfl rfl rfl ?_ | (refine AOps.alloc tt_ok rfl rfl rfl rfl rfl rfl ?_; intro bk) | refine AOps.storeBox tt_ok rfl rfl rfl rfl rfl rfl rfl rfl rfl rfl rfl ?_)
    refine V.cond rfl (fun h' => ?_) (fun h' => ?_)
    · repeat (first | refine AOps.q tt_ok rfl ?_ | refine AOps.nil ?_ | refine V.seq ?_ | refine V.region ?_ | refine V.skip ?_ | refine V.condT rfl ?_ | refine V.condF rfl ?_ | refine V.block ?_ | refine V.blk ?_ | refine V.exit rfl ?_ | refine AOps.loadBox tt_ok rfl rfl rfl rfl rfl rfl rfl ?_ | refine AOps.boxF rfl rfl rfl rfl rfl rfl ?_ | refine AOps.bsF tt_ok rfl rfl rfl rfl rfl rfl ?_ | (refine AOps.alloc tt_ok rfl rfl rfl rfl rfl rfl ?_; intro bk) | refine AOps.storeBox tt_ok rfl rfl rfl rfl rfl rfl rfl rfl rfl rfl rfl ?_)
      refine V.again (j + 1) (by omega) (by omega) (Gh.le (SLe.cons (PLe.of_eq rfl) (SLe.cons (PLe.of_eq rfl) (SLe.cons (PLe.of_eq (pint_succ (by unfold maxLen; omega))) (SLe.cons (PLe.of_eq ?_) (SLe.cons (PLe.of_eq rfl) (SLe.cons (PLe.of_eq rfl) (SLe.cons (PLe.of_eq rfl) SLe.nil))))))) BLe.nil OLe.nil)
      have e := count_succ hlt
      rw [h'] at e
      have hle : ((bs.take j).filter id).length ≤ 3 := Nat.le_trans (List.length_filter_le _ _) (by simp; omega)
      show pint (IntKind.i64.wrap (((bs.take j).filter id).length + 1)) = pint ((bs.take (j + 1)).filter id).length
      rw [e, pint_succ (by unfold maxLen; omega)]
      rfl
    · repeat (first | refine AOps.q tt_ok rfl ?_ | refine AOps.nil ?_ | refine V.seq ?_ | refine V.region ?_ | refine V.skip ?_ | refine V.condT rfl ?_ | refine V.condF rfl ?_ | refine V.block ?_ | refine V.blk ?_ | refine V.exit rfl ?_ | refine AOps.loadBox tt_ok rfl rfl rfl rfl rfl rfl rfl ?_ | refine AOps.boxF rfl rfl rfl rfl rfl rfl ?_ | refine AOps.bsF tt_ok rfl rfl rfl rfl rfl rfl ?_ | (refine AOps.alloc tt_ok rfl rfl rfl rfl rfl rfl ?_; intro bk) | refine AOps.storeBox tt_ok rfl rfl rfl rfl rfl rfl rfl rfl rfl rfl rfl ?_)
      refine V.again (j + 1) (by omega) (by omega) (Gh.le (SLe.cons (PLe.of_eq rfl) (SLe.cons (PLe.of_eq rfl) (SLe.cons (PLe.of_eq (pint_succ (by unfold maxLen; omega))) (SLe.cons (PLe.of_eq ?_) (SLe.cons (PLe.of_eq rfl) (SLe.cons (PLe.of_eq rfl) (SLe.cons (PLe.of_eq rfl) SLe.nil))))))) BLe.nil OLe.nil)
      have e := count_succ hlt
      rw [h'] at e
      show pint ((bs.take j).filter id).length = pint ((bs.take (j + 1)).filter id).length
      rw [e]
      rfl
  have hge : j = 3 := by have : ¬ ((j : Int) < 3) := of_decide_eq_false h
                         omega
  subst hge
  rw [show bs.take 3 = bs from by rw [← hb3]; exact List.take_length]
  repeat' (first | (show AOps _ _ _ _ _; first | refine AOps.q tt_ok rfl ?_ | refine AOps.nil ?_ | refine AOps.loadBox tt_ok rfl rfl rfl rfl rfl rfl rfl ?_ | refine AOps.boxF rfl rfl rfl rfl rfl rfl ?_ | refine AOps.bsF tt_ok rfl rfl rfl rfl rfl rfl ?_ | (refine AOps.alloc tt_ok rfl rfl rfl rfl rfl rfl ?_; intro bk) | refine AOps.storeBox tt_ok rfl rfl rfl rfl rfl rfl rfl rfl rfl rfl rfl ?_ | refine AOps.callP (g := 10) rfl rfl rfl Try.call10 (PLeAll.refl _ _) (is_spec _ _ _) rfl ?_ | refine AOps.callP (g := 13) rfl rfl rfl Try.call13 (PLeAll.refl _ _) (lessV_spec _ _) rfl ?_ | ((fail_if_success refine AOps.decided rfl ?_); refine AOps.split rfl rfl rfl (fun h => ?_) (fun h => ?_))) | (show V _ _ _ _ _; first | refine V.seq ?_ | refine V.region ?_ | refine V.skip ?_ | refine V.condT rfl ?_ | refine V.condF rfl ?_ | refine V.block ?_ | refine V.blk ?_ | refine V.exit rfl ?_ | (show V _ _ _ (.code (.region 7 _ true) :: _) _; refine V.draw tt_ok mixed_ok false [0, 1, 2, 4, 5, 6, 8, 9, 10, 14, 3, 7, 11, 12, 13] rfl (by decide +kernel) rfl ?_) | (show V _ _ _ (.code (.region 13 _ true) :: _) _; refine V.draw tt_ok mixed_ok false [0, 1, 2, 3, 4, 5, 7, 8, 9, 6, 10, 11, 12, 13, 14, 15, 16, 17, 19, 20, 21, 18, 22, 23, 24, 25, 26, 28, 29, 30, 27, 31, 32, 33, 34] rfl (by decide +kernel) rfl ?_) | refine V.cond rfl (fun h => ?_) (fun h => ?_)) | (show DOps _ _ _ _ _ _ _; first | refine DOps.q rfl ?_ | refine DOps.nil ?_ | refine DOps.alloc rfl rfl rfl rfl rfl rfl rfl rfl fun bk => ?_ | refine DOps.storeBox rfl rfl rfl rfl rfl rfl rfl rfl rfl rfl rfl rfl ?_ | refine DOps.loadBox rfl rfl rfl rfl rfl rfl rfl rfl rfl ?_ | refine DOps.callP (g := 10) rfl rfl rfl rfl Try.call10 (PLeAll.refl _ _) (is_spec _ _ _) rfl ?_ | refine DOps.callP (g := 13) rfl rfl rfl rfl Try.call13 (PLeAll.refl _ _) (lessV_spec _ _) rfl ?_ | ((fail_if_success refine DOps.decided rfl rfl ?_); refine DOps.split rfl rfl rfl rfl (fun h => ?_) (fun h => ?_))))
  all_goals refine V.ret1 tt_ok rfl rfl (PLe.of_eq ?_)
  all_goals (try simp only [valEq] at *)
  all_goals (simp only [cmpRes, ← hbs, Bool.and_eq_true] at hc'; obtain ⟨⟨⟨c1, c2⟩, c3⟩, c4⟩ := hc'; clear hbs hc hb3 h1 h2 h3; simp_all)

theorem isV_plain {op : List UInt8} (ho : arityOf op = some 2) (h1 : (op == [105, 115, 32, 110, 117, 108, 108]) = false) (h2 : (op == [105, 102]) = false) (h3 : (op == [97, 110, 100]) = false) (h4 : (op == [111, 114]) = false) {a b : LVal} (ha : a.kind ≠ 0) (hb : b.kind ≠ 0) :
    reckonV op [a, b] = plainV op [a, b] := by
  simp [reckonV, ho, h1, h2, h3, h4, ha, hb]

theorem bytesLess_irrefl : ∀ x : List UInt8, Op.bytesLess x x = false
  | [] => rfl
  | a :: x => by simp [Op.bytesLess, bytesLess_irrefl x]

theorem bytesLess_tri : ∀ x y : List UInt8, x ≠ y → (Op.bytesLess x y = !Op.bytesLess y x)
  | [], [], h => absurd rfl h
  | [], _ :: _, _ => rfl
  | _ :: _, [], _ => rfl
  | a :: x, b :: y, h => by
    simp only [Op.bytesLess]
    rcases Nat.lt_trichotomy a.toNat b.toNat with hlt | heq | hgt
    · have h1 : a < b := hlt
      have h2 : ¬ b < a := fun h' => by have : b.toNat < a.toNat := h'; omega
      have h3 : ¬ b = a := fun h' => by rw [h'] at hlt; omega
      simp [h1, h2, h3]
    · have he : a = b := UInt8.toNat_inj.1 heq
      subst he
      have h2 : ¬ a < a := fun h' => by have : a.toNat < a.toNat := h'; omega
      have : x ≠ y := fun e => h (by rw [e])
      simp [h2, bytesLess_tri x y this]
    · have h1 : b < a := hgt
      have h2 : ¬ a < b := fun h' => by have : a.toNat < b.toNat := h'; omega
      have h3 : ¬ a = b := fun h' => by rw [h'] at hgt; omega
      simp [h1, h2, h3]

theorem lessV_irrefl (a : LVal) : lessV a a = false := by simp [lessV, bytesLess_irrefl]
theorem lessV_tri (a b : LVal) (h : a ≠ b) : lessV a b = !lessV b a := by
  obtain ⟨k, i, t⟩ := a
  obtain ⟨k', i', t'⟩ := b
  simp only [lessV]
  by_cases hk : k = k'
  · by_cases hi : i = i'
    · subst hk; subst hi
      have : t ≠ t' := fun e => h (by rw [e])
      simp [bytesLess_tri t t' this]
    · have hi' : ¬ i' = i := fun e => hi e.symm
      simp [hk, hi, hi']
      rw [Bool.eq_iff_iff]
      simp
      omega
  · have hk' : ¬ k' = k := fun e => hk e.symm
    simp [hk, hk']
    rw [Bool.eq_iff_iff]
    simp
    omega

theorem cmp_law (a b : LVal) (hk : a.kind = b.kind) (h0 : a.kind ≠ 0) : cmpRes a b = true := by
  have hb : b.kind ≠ 0 := hk ▸ h0
  have e1 : ∀ x y : LVal, x.kind ≠ 0 → y.kind ≠ 0 → isV [60] x y = lessV x y := fun x y hx hy => by
    rw [isV, isV_plain (by rfl) (by rfl) (by rfl) (by rfl) (by rfl) hx hy]; simp [plainV, isTrue_bool]
  have e2 : isV [61] a b = decide (a = b) := by
    rw [isV, isV_plain (by rfl) (by rfl) (by rfl) (by rfl) (by rfl) h0 hb]; simp [plainV, isTrue_bool]
  have e3 : isV [60, 61] a b = !lessV b a := by
    rw [isV, isV_plain (by rfl) (by rfl) (by rfl) (by rfl) (by rfl) h0 hb]; simp [plainV, isTrue_bool]
  simp only [cmpRes, e1 a b h0 hb, e1 b a hb h0, e2, e3]
  by_cases h : a = b
  · subst h
    simp [lessV_irrefl]
  · rw [lessV_tri a b h]
    cases lessV b a <;> simp [h]

theorem cmp_spec (a b : LVal) : PFun Try.prog 3 [pval a, pval b] (pbool true) :=
  cmp_walk a b fun _ _ hk h0 => cmp_law a b hk h0
end Go.Proofs.Ytblheceepnncdaa
