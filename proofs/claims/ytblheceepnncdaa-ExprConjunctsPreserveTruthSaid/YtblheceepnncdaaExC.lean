/- Expressions, part C: values. -/
import Derived.Test.YtblheceepnncdaaExB
namespace Go.Proofs.Ytblheceepnncdaa
open Go Go.Ab
attribute [local irreducible] V AOps Gh Eff PCallsH
set_option maxRecDepth 4000

def validV (v : LVal) : Bool :=
  if v.kind = 0 then decide (v = ⟨0, 0, []⟩) else if v.kind = 1 then v.text == [] && decide (v.int ≥ -1000000000000) && decide (v.int ≤ 1000000000000)
  else if v.kind = 2 then v.text == [] && (v.int == 0 || v.int == 1) else if v.kind = 3 then v.int == 0 && decide (v.text.length ≤ 24) else false

theorem validV_spec (v : LVal) : PFun Try.prog 9 [pval v] (pbool (validV v)) := by
  refine PCallsH.intro Try.func9 rfl Try.ntmps9 rfl ?_
  repeat' (first | refine AOps.q tt_ok rfl ?_ | refine AOps.nil ?_ | refine V.seq ?_ | refine V.region ?_ | refine V.skip ?_ | refine V.condT rfl ?_ | refine V.condF rfl ?_ | refine V.block ?_ | refine V.blk ?_ | refine V.exit rfl ?_ | refine AOps.loadBox tt_ok rfl rfl rfl rfl rfl rfl rfl ?_ | refine AOps.boxF rfl rfl rfl rfl rfl rfl ?_ | refine AOps.bsF tt_ok rfl rfl rfl rfl rfl rfl ?_ | (refine AOps.alloc tt_ok rfl rfl rfl rfl rfl rfl ?_; intro bk) | refine AOps.storeBox tt_ok rfl rfl rfl rfl rfl rfl rfl rfl rfl rfl rfl ?_ | refine V.cond rfl (fun h => ?_) (fun h => ?_) | ((fail_if_success refine AOps.decided rfl ?_); refine AOps.split rfl rfl rfl (fun h => ?_) (fun h => ?_)))
  all_goals refine V.ret1 tt_ok rfl rfl (PLe.of_eq ?_)
  all_goals cases v
  all_goals simp_all [validV]
  · rename_i x _
    rw [Bool.eq_iff_iff]
    cases x <;> simp
  · omega
  · omega

def lessV (a b : LVal) : Bool :=
  if a.kind ≠ b.kind then decide (a.kind < b.kind) else if a.int ≠ b.int then decide (a.int < b.int) else Op.bytesLess a.text b.text

theorem lessV_spec (a b : LVal) : PFun Try.prog 13 [pval a, pval b] (pbool (lessV a b)) := by
  refine PCallsH.intro Try.func13 rfl Try.ntmps13 rfl ?_
  repeat' (first | refine AOps.q tt_ok rfl ?_ | refine AOps.nil ?_ | refine V.seq ?_ | refine V.region ?_ | refine V.skip ?_ | refine V.condT rfl ?_ | refine V.condF rfl ?_ | refine V.block ?_ | refine V.blk ?_ | refine V.exit rfl ?_ | refine AOps.loadBox tt_ok rfl rfl rfl rfl rfl rfl rfl ?_ | refine AOps.boxF rfl rfl rfl rfl rfl rfl ?_ | refine AOps.bsF tt_ok rfl rfl rfl rfl rfl rfl ?_ | (refine AOps.alloc tt_ok rfl rfl rfl rfl rfl rfl ?_; intro bk) | refine AOps.storeBox tt_ok rfl rfl rfl rfl rfl rfl rfl rfl rfl rfl rfl ?_ | refine V.cond rfl (fun h => ?_) (fun h => ?_) | ((fail_if_success refine AOps.decided rfl ?_); refine AOps.split rfl rfl rfl (fun h => ?_) (fun h => ?_)))
  all_goals refine V.ret1 tt_ok rfl rfl (PLe.of_eq ?_)
  all_goals simp_all [lessV]

def isTrueV (v : LVal) : Bool := v.kind == 2 && v.int == 1

theorem isTrueV_spec (v : LVal) : PFun Try.prog 11 [pval v] (pbool (isTrueV v)) := by
  refine PCallsH.intro Try.func11 rfl Try.ntmps11 rfl ?_
  repeat' (first | refine AOps.q tt_ok rfl ?_ | refine AOps.nil ?_ | refine V.seq ?_ | refine V.region ?_ | refine V.skip ?_ | refine V.condT rfl ?_ | refine V.condF rfl ?_ | refine V.block ?_ | refine V.blk ?_ | refine V.exit rfl ?_ | refine AOps.loadBox tt_ok rfl rfl rfl rfl rfl rfl rfl ?_ | refine AOps.boxF rfl rfl rfl rfl rfl rfl ?_ | refine AOps.bsF tt_ok rfl rfl rfl rfl rfl rfl ?_ | (refine AOps.alloc tt_ok rfl rfl rfl rfl rfl rfl ?_; intro bk) | refine AOps.storeBox tt_ok rfl rfl rfl rfl rfl rfl rfl rfl rfl rfl rfl ?_ | refine V.cond rfl (fun h => ?_) (fun h => ?_) | ((fail_if_success refine AOps.decided rfl ?_); refine AOps.split rfl rfl rfl (fun h => ?_) (fun h => ?_)))
  all_goals refine V.ret1 tt_ok rfl rfl (PLe.of_eq ?_)
  all_goals simp_all [isTrueV]

def boolV (b : Bool) : LVal := ⟨2, if b then 1 else 0, []⟩

theorem boolV_spec (b : Bool) : PFun Try.prog 30 [pbool b] (pval (boolV b)) := by
  refine PCallsH.intro Try.func30 rfl Try.ntmps30 rfl ?_
  repeat' (first | refine AOps.q tt_ok rfl ?_ | refine AOps.nil ?_ | refine V.seq ?_ | refine V.region ?_ | refine V.skip ?_ | refine V.condT rfl ?_ | refine V.condF rfl ?_ | refine V.block ?_ | refine V.blk ?_ | refine V.exit rfl ?_ | refine AOps.loadBox tt_ok rfl rfl rfl rfl rfl rfl rfl ?_ | refine AOps.boxF rfl rfl rfl rfl rfl rfl ?_ | refine AOps.bsF tt_ok rfl rfl rfl rfl rfl rfl ?_ | (refine AOps.alloc tt_ok rfl rfl rfl rfl rfl rfl ?_; intro bk) | refine AOps.storeBox tt_ok rfl rfl rfl rfl rfl rfl rfl rfl rfl rfl rfl ?_ | refine V.cond rfl (fun h => ?_) (fun h => ?_) | ((fail_if_success refine AOps.decided rfl ?_); refine AOps.split rfl rfl rfl (fun h => ?_) (fun h => ?_)))
  all_goals refine V.retC tt_ok rfl rfl rfl rfl rfl (PLe.of_eq ?_)
  all_goals simp_all [boolV]

def intV (n : Int) : LVal := if n < -1000000000000 ∨ n > 1000000000000 then .nul else ⟨1, n, []⟩

theorem intV_spec (n : Int) : PFun Try.prog 55 [pint n] (pval (intV n)) := by
  refine PCallsH.intro Try.func55 rfl Try.ntmps55 rfl ?_
  repeat' (first | refine AOps.q tt_ok rfl ?_ | refine AOps.nil ?_ | refine V.seq ?_ | refine V.region ?_ | refine V.skip ?_ | refine V.condT rfl ?_ | refine V.condF rfl ?_ | refine V.block ?_ | refine V.blk ?_ | refine V.exit rfl ?_ | refine AOps.loadBox tt_ok rfl rfl rfl rfl rfl rfl rfl ?_ | refine AOps.boxF rfl rfl rfl rfl rfl rfl ?_ | refine AOps.bsF tt_ok rfl rfl rfl rfl rfl rfl ?_ | (refine AOps.alloc tt_ok rfl rfl rfl rfl rfl rfl ?_; intro bk) | refine AOps.storeBox tt_ok rfl rfl rfl rfl rfl rfl rfl rfl rfl rfl rfl ?_ | refine V.cond rfl (fun h => ?_) (fun h => ?_) | ((fail_if_success refine AOps.decided rfl ?_); refine AOps.split rfl rfl rfl (fun h => ?_) (fun h => ?_)))
  all_goals refine V.retC tt_ok rfl rfl rfl rfl rfl (PLe.of_eq ?_)
  all_goals simp_all [intV, LVal.nul]
  all_goals (rw [if_neg (by omega)]; try simp)

def wr (n : Int) : Int := IntKind.i64.wrap n

def numberV (op : List UInt8) (a b : Int) : LVal :=
  if op = [43] then intV (wr (a + b)) else if op = [45] then intV (wr (a - b)) else if a = 0 ∨ b = 0 then intV 0
  else if wr ((wr (a * b)).tdiv b) = a then intV (wr (a * b)) else .nul

theorem numberV_spec (op : List UInt8) (a b : Int) : PFun Try.prog 56 [.str op, pint a, pint b] (pval (numberV op a b)) := by
  refine PCallsH.intro Try.func56 rfl Try.ntmps56 rfl ?_
  repeat' (first | refine AOps.q tt_ok rfl ?_ | refine AOps.nil ?_ | refine V.seq ?_ | refine V.region ?_ | refine V.skip ?_ | refine V.condT rfl ?_ | refine V.condF rfl ?_ | refine V.block ?_ | refine V.blk ?_ | refine V.exit rfl ?_ | refine AOps.loadBox tt_ok rfl rfl rfl rfl rfl rfl rfl ?_ | refine AOps.boxF rfl rfl rfl rfl rfl rfl ?_ | refine AOps.bsF tt_ok rfl rfl rfl rfl rfl rfl ?_ | (refine AOps.alloc tt_ok rfl rfl rfl rfl rfl rfl ?_; intro bk) | refine AOps.storeBox tt_ok rfl rfl rfl rfl rfl rfl rfl rfl rfl rfl rfl ?_ | refine V.cond rfl (fun h => ?_) (fun h => ?_) | ((fail_if_success refine AOps.decided rfl ?_); refine AOps.split rfl rfl rfl (fun h => ?_) (fun h => ?_)) | (show AOps _ _ _ _ _; first | refine AOps.callP (g := 55) rfl rfl rfl Try.call55 (PLeAll.refl _ _) (intV_spec _) rfl ?_))
  case refine_2.refine_2.refine_2.refine_2 =>
    refine AOps.quo tt_ok rfl rfl rfl rfl (by simpa using h) rfl ?_
    repeat' (first | refine AOps.q tt_ok rfl ?_ | refine AOps.nil ?_ | refine V.seq ?_ | refine V.region ?_ | refine V.skip ?_ | refine V.condT rfl ?_ | refine V.condF rfl ?_ | refine V.block ?_ | refine V.blk ?_ | refine V.exit rfl ?_ | refine AOps.loadBox tt_ok rfl rfl rfl rfl rfl rfl rfl ?_ | refine AOps.boxF rfl rfl rfl rfl rfl rfl ?_ | refine AOps.bsF tt_ok rfl rfl rfl rfl rfl rfl ?_ | (refine AOps.alloc tt_ok rfl rfl rfl rfl rfl rfl ?_; intro bk) | refine AOps.storeBox tt_ok rfl rfl rfl rfl rfl rfl rfl rfl rfl rfl rfl ?_ | refine V.cond rfl (fun h => ?_) (fun h => ?_) | ((fail_if_success refine AOps.decided rfl ?_); refine AOps.split rfl rfl rfl (fun h => ?_) (fun h => ?_)) | (show AOps _ _ _ _ _; first | refine AOps.callP (g := 55) rfl rfl rfl Try.call55 (PLeAll.refl _ _) (intV_spec _) rfl ?_))
    all_goals refine V.retC tt_ok rfl rfl rfl rfl rfl (PLe.of_eq ?_)
    all_goals simp_all [numberV, wr, LVal.nul]
  all_goals refine V.retC tt_ok rfl rfl rfl rfl rfl (PLe.of_eq ?_)
  all_goals simp_all [numberV, wr]
end Go.Proofs.Ytblheceepnncdaa
