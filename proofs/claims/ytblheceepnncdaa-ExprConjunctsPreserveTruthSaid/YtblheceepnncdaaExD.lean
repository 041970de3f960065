/- Expressions, part D: operators on values. -/
import Derived.Test.YtblheceepnncdaaExC
namespace Go.Proofs.Ytblheceepnncdaa
open Go Go.Ab
attribute [local irreducible] V AOps DOps Gh Eff PCallsH IntKind.wrap
set_option maxRecDepth 4000

theorem isNul_spec (v : LVal) : PFun Try.prog 46 [pval v] (pbool (v.kind == 0)) := by
  refine PCallsH.intro Try.func46 rfl Try.ntmps46 rfl ?_
  repeat' (first | refine AOps.q tt_ok rfl ?_ | refine AOps.nil ?_ | refine V.seq ?_ | refine V.region ?_ | refine V.skip ?_ | refine V.condT rfl ?_ | refine V.condF rfl ?_ | refine V.block ?_ | refine V.blk ?_ | refine V.exit rfl ?_ | refine AOps.loadBox tt_ok rfl rfl rfl rfl rfl rfl rfl ?_ | refine AOps.boxF rfl rfl rfl rfl rfl rfl ?_ | refine AOps.bsF tt_ok rfl rfl rfl rfl rfl rfl ?_ | (refine AOps.alloc tt_ok rfl rfl rfl rfl rfl rfl ?_; intro bk) | refine AOps.storeBox tt_ok rfl rfl rfl rfl rfl rfl rfl rfl rfl rfl rfl ?_ | refine V.cond rfl (fun h => ?_) (fun h => ?_) | ((fail_if_success refine AOps.decided rfl ?_); refine AOps.split rfl rfl rfl (fun h => ?_) (fun h => ?_)))
  all_goals refine V.ret1 tt_ok rfl rfl (PLe.of_eq rfl)

theorem bothIs_spec (v : LVal) (n : Int) : PFun Try.prog 52 [pval v, pint n] (pbool (v.kind == 2 && v.int == n)) := by
  refine PCallsH.intro Try.func52 rfl Try.ntmps52 rfl ?_
  repeat' (first | refine AOps.q tt_ok rfl ?_ | refine AOps.nil ?_ | refine V.seq ?_ | refine V.region ?_ | refine V.skip ?_ | refine V.condT rfl ?_ | refine V.condF rfl ?_ | refine V.block ?_ | refine V.blk ?_ | refine V.exit rfl ?_ | refine AOps.loadBox tt_ok rfl rfl rfl rfl rfl rfl rfl ?_ | refine AOps.boxF rfl rfl rfl rfl rfl rfl ?_ | refine AOps.bsF tt_ok rfl rfl rfl rfl rfl rfl ?_ | (refine AOps.alloc tt_ok rfl rfl rfl rfl rfl rfl ?_; intro bk) | refine AOps.storeBox tt_ok rfl rfl rfl rfl rfl rfl rfl rfl rfl rfl rfl ?_ | refine V.cond rfl (fun h => ?_) (fun h => ?_) | ((fail_if_success refine AOps.decided rfl ?_); refine AOps.split rfl rfl rfl (fun h => ?_) (fun h => ?_)))
  all_goals refine V.ret1 tt_ok rfl rfl (PLe.of_eq ?_)
  all_goals simp_all

theorem plainKind1_spec (v : LVal) (n : Int) : PFun Try.prog 54 [pval v, .ptr [pint n]] (pbool (v.kind != n)) := by
  refine PCallsH.intro Try.func54 rfl Try.ntmps54 rfl ?_
  repeat' (first | refine AOps.q tt_ok rfl ?_ | refine AOps.nil ?_ | refine V.seq ?_ | refine V.region ?_ | refine V.skip ?_ | refine V.condT rfl ?_ | refine V.condF rfl ?_ | refine V.block ?_ | refine V.blk ?_ | refine V.exit rfl ?_ | refine AOps.loadBox tt_ok rfl rfl rfl rfl rfl rfl rfl ?_ | refine AOps.boxF rfl rfl rfl rfl rfl rfl ?_ | refine AOps.bsF tt_ok rfl rfl rfl rfl rfl rfl ?_ | (refine AOps.alloc tt_ok rfl rfl rfl rfl rfl rfl ?_; intro bk) | refine AOps.storeBox tt_ok rfl rfl rfl rfl rfl rfl rfl rfl rfl rfl rfl ?_ | refine V.cond rfl (fun h => ?_) (fun h => ?_) | ((fail_if_success refine AOps.decided rfl ?_); refine AOps.split rfl rfl rfl (fun h => ?_) (fun h => ?_)))
  all_goals refine V.ret1 tt_ok rfl rfl (PLe.of_eq rfl)

theorem plainKind_spec (n : Int) (l : List LVal) : PFun Try.prog 53 [pint n, .ptr [pvals l]] (pbool (!(l.any fun v => v.kind != n))) := by
  refine PCallsH.intro Try.func53 rfl Try.ntmps53 rfl ?_
  repeat' (first | refine AOps.q tt_ok rfl ?_ | refine AOps.nil ?_ | refine V.seq ?_ | refine V.region ?_ | refine V.skip ?_ | refine V.condT rfl ?_ | refine V.condF rfl ?_ | refine V.block ?_ | refine V.blk ?_ | refine V.exit rfl ?_ | refine AOps.loadBox tt_ok rfl rfl rfl rfl rfl rfl rfl ?_ | refine AOps.boxF rfl rfl rfl rfl rfl rfl ?_ | refine AOps.bsF tt_ok rfl rfl rfl rfl rfl rfl ?_ | (refine AOps.alloc tt_ok rfl rfl rfl rfl rfl rfl ?_; intro bk) | refine AOps.storeBox tt_ok rfl rfl rfl rfl rfl rfl rfl rfl rfl rfl rfl ?_ | refine V.cond rfl (fun h => ?_) (fun h => ?_) | ((fail_if_success refine AOps.decided rfl ?_); refine AOps.split rfl rfl rfl (fun h => ?_) (fun h => ?_)) | (show AOps _ _ _ _ _; first | refine AOps.callP (g := 36) rfl rfl rfl Try.call36 (PLeAll.refl _ _) (containsVal (p := fun v => v.kind != n) l Try.call54 fun v _ => plainKind1_spec v n) rfl ?_))
  all_goals refine V.ret1 tt_ok rfl rfl (PLe.of_eq rfl)

def opNames : List (List UInt8) := [[43], [45], [42], [61], [60], [60, 61], [97, 110, 100], [111, 114], [110, 111, 116], [124, 124], [105, 115, 32, 110, 117, 108, 108], [108, 101, 110, 103, 116, 104], [105, 102]]
def opArity : List Int := [2, 2, 2, 2, 2, 2, 2, 2, 1, 2, 1, 1, 3]

theorem operators_spec : PFun Try.prog 44 [] (.tup [pstrs opNames, pints opArity]) := by
  refine PCallsH.intro Try.func44 rfl Try.ntmps44 rfl ?_
  repeat (first | refine AOps.q tt_ok rfl ?_ | refine AOps.nil ?_ | refine V.seq ?_ | refine V.region ?_ | refine V.skip ?_ | refine V.condT rfl ?_ | refine V.condF rfl ?_ | refine V.block ?_ | refine V.blk ?_ | refine V.exit rfl ?_ | refine AOps.loadBox tt_ok rfl rfl rfl rfl rfl rfl rfl ?_ | refine AOps.boxF rfl rfl rfl rfl rfl rfl ?_ | refine AOps.bsF tt_ok rfl rfl rfl rfl rfl rfl ?_ | (refine AOps.alloc tt_ok rfl rfl rfl rfl rfl rfl ?_; intro bk) | refine AOps.storeBox tt_ok rfl rfl rfl rfl rfl rfl rfl rfl rfl rfl rfl ?_)
  refine V.ret2 tt_ok rfl rfl rfl (PLe.of_eq ?_)
  rfl

def bothV (a b : LVal) (d : Int) : LVal :=
  if (a.kind == 2 && a.int == d) || (b.kind == 2 && b.int == d) then boolV (d == 1)
  else if (a.kind == 2 && a.int == wr (1 - d)) && (b.kind == 2 && b.int == wr (1 - d)) then boolV (d == 0) else .nul

theorem bothV_spec (a b : LVal) (d : Int) : PFun Try.prog 45 [pval a, pval b, pint d] (pval (bothV a b d)) := by
  refine PCallsH.intro Try.func45 rfl Try.ntmps45 rfl ?_
  repeat' (first | refine AOps.q tt_ok rfl ?_ | refine AOps.nil ?_ | refine V.seq ?_ | refine V.region ?_ | refine V.skip ?_ | refine V.condT rfl ?_ | refine V.condF rfl ?_ | refine V.block ?_ | refine V.blk ?_ | refine V.exit rfl ?_ | refine AOps.loadBox tt_ok rfl rfl rfl rfl rfl rfl rfl ?_ | refine AOps.boxF rfl rfl rfl rfl rfl rfl ?_ | refine AOps.bsF tt_ok rfl rfl rfl rfl rfl rfl ?_ | (refine AOps.alloc tt_ok rfl rfl rfl rfl rfl rfl ?_; intro bk) | refine AOps.storeBox tt_ok rfl rfl rfl rfl rfl rfl rfl rfl rfl rfl rfl ?_ | refine V.cond rfl (fun h => ?_) (fun h => ?_) | ((fail_if_success refine AOps.decided rfl ?_); refine AOps.split rfl rfl rfl (fun h => ?_) (fun h => ?_)) | (show AOps _ _ _ _ _; first | refine AOps.callP (g := 52) rfl rfl rfl Try.call52 (PLeAll.refl _ _) (bothIs_spec _ _) rfl ?_ | refine AOps.callP (g := 30) rfl rfl rfl Try.call30 (PLeAll.refl _ _) (boolV_spec _) rfl ?_))
  all_goals refine V.retC tt_ok rfl rfl rfl rfl rfl (PLe.of_eq ?_)
  all_goals (simp only [bothV, wr, *, Bool.or_true, Bool.true_or, Bool.or_self, Bool.and_self, Bool.and_false, Bool.false_and, Bool.false_eq_true, if_true, if_false]; try rfl)

def allKind (n : Int) (l : List LVal) : Bool := !(l.any fun v => v.kind != n)

def plainV (op : List UInt8) (l : List LVal) : LVal :=
  let a := l.getD 0 .nul
  let b := l.getD 1 .nul
  if op == [61] then boolV (decide (a = b)) else if op == [60] then boolV (lessV a b) else if op == [60, 61] then boolV (!lessV b a)
  else if op == [110, 111, 116] then (if allKind 2 l then boolV (a.int == 0) else .nul)
  else if op == [108, 101, 110, 103, 116, 104] then (if allKind 3 l then intV a.text.length else .nul)
  else if op == [124, 124] then (if allKind 3 l && decide (a.text.length + b.text.length ≤ 24) then ⟨3, 0, a.text ++ b.text⟩ else .nul)
  else if allKind 1 l then numberV op a.int b.int else .nul

theorem valEq (a b : LVal) : (a.kind == b.kind && (a.int == b.int && (a.text == b.text && true))) = decide (a = b) := by
  cases a; cases b
  rw [Bool.eq_iff_iff]
  simp

theorem plain1_spec (op : List UInt8) (a : LVal) (hop : op = [110, 111, 116] ∨ op = [108, 101, 110, 103, 116, 104]) : PFun Try.prog 47 [.str op, pvals [a]] (pval (plainV op [a])) := by
  rcases hop with rfl | rfl
  · refine PCallsH.intro Try.func47 rfl Try.ntmps47 rfl ?_
    repeat' (first | refine AOps.q tt_ok rfl ?_ | refine AOps.nil ?_ | refine V.seq ?_ | refine V.region ?_ | refine V.skip ?_ | refine V.condT rfl ?_ | refine V.condF rfl ?_ | refine V.block ?_ | refine V.blk ?_ | refine V.exit rfl ?_ | refine AOps.loadBox tt_ok rfl rfl rfl rfl rfl rfl rfl ?_ | refine AOps.boxF rfl rfl rfl rfl rfl rfl ?_ | refine AOps.bsF tt_ok rfl rfl rfl rfl rfl rfl ?_ | (refine AOps.alloc tt_ok rfl rfl rfl rfl rfl rfl ?_; intro bk) | refine AOps.storeBox tt_ok rfl rfl rfl rfl rfl rfl rfl rfl rfl rfl rfl ?_ | refine V.cond rfl (fun h => ?_) (fun h => ?_) | ((fail_if_success refine AOps.decided rfl ?_); refine AOps.split rfl rfl rfl (fun h => ?_) (fun h => ?_)) | (show AOps _ _ _ _ _; first | refine AOps.callP (g := 53) rfl rfl rfl Try.call53 (PLeAll.refl _ _) (plainKind_spec _ _) rfl ?_ | refine AOps.callP (g := 30) rfl rfl rfl Try.call30 (PLeAll.refl _ _) (boolV_spec _) rfl ?_))
    all_goals refine V.retC tt_ok rfl rfl rfl rfl rfl (PLe.of_eq ?_)
    all_goals simp_all [plainV, LVal.nul, allKind]
  · refine PCallsH.intro Try.func47 rfl Try.ntmps47 rfl ?_
    repeat' (first | refine AOps.q tt_ok rfl ?_ | refine AOps.nil ?_ | refine V.seq ?_ | refine V.region ?_ | refine V.skip ?_ | refine V.condT rfl ?_ | refine V.condF rfl ?_ | refine V.block ?_ | refine V.blk ?_ | refine V.exit rfl ?_ | refine AOps.loadBox tt_ok rfl rfl rfl rfl rfl rfl rfl ?_ | refine AOps.boxF rfl rfl rfl rfl rfl rfl ?_ | refine AOps.bsF tt_ok rfl rfl rfl rfl rfl rfl ?_ | (refine AOps.alloc tt_ok rfl rfl rfl rfl rfl rfl ?_; intro bk) | refine AOps.storeBox tt_ok rfl rfl rfl rfl rfl rfl rfl rfl rfl rfl rfl ?_ | refine V.cond rfl (fun h => ?_) (fun h => ?_) | ((fail_if_success refine AOps.decided rfl ?_); refine AOps.split rfl rfl rfl (fun h => ?_) (fun h => ?_)) | (show AOps _ _ _ _ _; first | refine AOps.callP (g := 53) rfl rfl rfl Try.call53 (PLeAll.refl _ _) (plainKind_spec _ _) rfl ?_ | refine AOps.callP (g := 55) rfl rfl rfl Try.call55 (PLeAll.refl _ _) (intV_spec _) rfl ?_))
    all_goals refine V.retC tt_ok rfl rfl rfl rfl rfl (PLe.of_eq ?_)
    all_goals simp_all [plainV, LVal.nul, allKind]

theorem plain2_spec (op : List UInt8) (a b : LVal) (h1 : (op == [110, 111, 116]) = false) (h2 : (op == [108, 101, 110, 103, 116, 104]) = false) : PFun Try.prog 47 [.str op, pvals [a, b]] (pval (plainV op [a, b])) := by
  refine PCallsH.intro Try.func47 rfl Try.ntmps47 rfl ?_
  refine V.textF 1 rfl fun hq => ?_
  have ha : a.text.length ≤ maxStr := hq (encVal a) (by simp) _ (by simp)
  have hb : b.text.length ≤ maxStr := hq (encVal b) (by simp) _ (by simp)
  clear hq
  repeat' (first | (show AOps _ _ _ _ _; first | refine AOps.q tt_ok rfl ?_ | refine AOps.nil ?_ | refine AOps.loadBox tt_ok rfl rfl rfl rfl rfl rfl rfl ?_ | refine AOps.boxF rfl rfl rfl rfl rfl rfl ?_ | refine AOps.bsF tt_ok rfl rfl rfl rfl rfl rfl ?_ | (refine AOps.alloc tt_ok rfl rfl rfl rfl rfl rfl ?_; intro bk) | refine AOps.storeBox tt_ok rfl rfl rfl rfl rfl rfl rfl rfl rfl rfl rfl ?_ | refine AOps.callP (g := 53) rfl rfl rfl Try.call53 (PLeAll.refl _ _) (plainKind_spec _ _) rfl ?_ | refine AOps.callP (g := 30) rfl rfl rfl Try.call30 (PLeAll.refl _ _) (boolV_spec _) rfl ?_ | refine AOps.callP (g := 13) rfl rfl rfl Try.call13 (PLeAll.refl _ _) (lessV_spec _ _) rfl ?_ | refine AOps.callP (g := 56) rfl rfl rfl Try.call56 (PLeAll.refl _ _) (numberV_spec _ _ _) rfl ?_ | ((fail_if_success refine AOps.decided rfl ?_); refine AOps.split rfl rfl rfl (fun h => ?_) (fun h => ?_))) | (show V _ _ _ _ _; first | refine V.seq ?_ | refine V.region ?_ | refine V.skip ?_ | refine V.condT rfl ?_ | refine V.condF rfl ?_ | refine V.block ?_ | refine V.blk ?_ | refine V.exit rfl ?_ | (show V _ _ _ (.code (.region 6 _ true) :: _) _; refine V.draw tt_ok mixed_ok false [0, 1, 2, 3, 4, 5, 6, 7, 8] rfl (by decide +kernel) rfl ?_) | (show V _ _ _ (.code (.region 8 _ true) :: _) _; refine V.draw tt_ok mixed_ok false [0, 1, 2, 3, 4, 5, 6, 7, 8] rfl (by decide +kernel) rfl ?_) | (show V _ _ _ (.code (.region 10 _ true) :: _) _; refine V.draw tt_ok mixed_ok false [0, 1, 2, 3, 4, 5, 6, 7, 8, 9] rfl (by decide +kernel) rfl ?_) | (show V _ _ _ (.code (.region 18 _ true) :: _) _; refine V.draw tt_ok mixed_ok false [0, 1, 2, 3, 4, 5, 6, 7, 8, 9, 10, 11, 12, 13, 14, 15] rfl (by decide +kernel) rfl ?_) | (show V _ _ _ (.code (.region 19 _ true) :: _) _; refine V.draw tt_ok mixed_ok false [0, 1, 2, 3, 4, 5, 6, 7, 8, 9, 10] rfl (by decide +kernel) rfl ?_) | (show V _ _ _ (.code (.region 4 _ true) :: _) _; refine V.draw tt_ok mixed_ok false [0, 1, 2, 3, 4, 5, 6, 7, 8, 9, 10] rfl (by decide +kernel) rfl ?_) | refine V.cond rfl (fun h => ?_) (fun h => ?_)) | (show DOps _ _ _ _ _ _ _; first | refine DOps.q rfl ?_ | refine DOps.nil ?_ | refine DOps.alloc rfl rfl rfl rfl rfl rfl rfl rfl fun bk => ?_ | refine DOps.storeBox rfl rfl rfl rfl rfl rfl rfl rfl rfl rfl rfl rfl ?_ | refine DOps.loadBox rfl rfl rfl rfl rfl rfl rfl rfl rfl ?_ | refine DOps.callP (g := 53) rfl rfl rfl rfl Try.call53 (PLeAll.refl _ _) (plainKind_spec _ _) rfl ?_ | refine DOps.callP (g := 30) rfl rfl rfl rfl Try.call30 (PLeAll.refl _ _) (boolV_spec _) rfl ?_ | refine DOps.callP (g := 13) rfl rfl rfl rfl Try.call13 (PLeAll.refl _ _) (lessV_spec _ _) rfl ?_ | refine DOps.callP (g := 56) rfl rfl rfl rfl Try.call56 (PLeAll.refl _ _) (numberV_spec _ _ _) rfl ?_ | ((fail_if_success refine DOps.decided rfl rfl ?_); refine DOps.split rfl rfl rfl rfl (fun h => ?_) (fun h => ?_))))
  all_goals have hw : IntKind.i64.wrap ((a.text.length : Int) + (b.text.length : Int)) = (a.text.length : Int) + (b.text.length : Int) := wrap_id (by omega) (by unfold maxStr at ha hb; omega)
  all_goals try (exfalso; simp_all; done)
  case refine_2.refine_2.refine_2.refine_2.refine_2.refine_1.refine_1.refine_1 =>
    have hc : a.text.length + b.text.length ≤ 24 := by
      simp only [decide_eq_true_eq] at h
      have : IntKind.i64.wrap ((a.text.length : Int) + (b.text.length : Int)) ≤ 24 := h
      omega
    refine DOps.cat rfl rfl rfl rfl rfl (by unfold maxStr; omega) rfl ?_
    repeat (first | refine DOps.q rfl ?_ | refine DOps.nil ?_ | refine DOps.alloc rfl rfl rfl rfl rfl rfl rfl rfl fun bk => ?_ | refine DOps.storeBox rfl rfl rfl rfl rfl rfl rfl rfl rfl rfl rfl rfl ?_ | refine DOps.loadBox rfl rfl rfl rfl rfl rfl rfl rfl rfl ?_)
    refine V.retC tt_ok rfl rfl rfl rfl rfl (PLe.of_eq ?_)
    simp_all [plainV, allKind]
  all_goals refine V.retC tt_ok rfl rfl rfl rfl rfl (PLe.of_eq ?_)
  all_goals try simp only [valEq]
  case refine_2.refine_2.refine_2.refine_2.refine_2.refine_1.refine_1.refine_2 =>
    rw [hw] at h
    have hc : ¬ a.text.length + b.text.length ≤ 24 := by
      simp only [decide_eq_false_iff_not] at h
      omega
    simp_all [plainV, allKind, LVal.nul]
    rw [if_neg (by omega)]
    exact ⟨rfl, rfl, rfl⟩
  case refine_2.refine_2.refine_2.refine_2.refine_2.refine_1.refine_2 =>
    simp_all [plainV, allKind, LVal.nul]
    rw [if_neg (fun hh => h hh.1.1 hh.1.2)]
    exact ⟨rfl, rfl, rfl⟩
  case refine_2.refine_2.refine_2.refine_2.refine_2.refine_2.refine_2 =>
    simp_all [plainV, allKind, LVal.nul]
    rw [if_neg (fun hh => h hh.1 hh.2)]
    exact ⟨rfl, rfl, rfl⟩
  all_goals simp_all [plainV, allKind, LVal.nul]
end Go.Proofs.Ytblheceepnncdaa
