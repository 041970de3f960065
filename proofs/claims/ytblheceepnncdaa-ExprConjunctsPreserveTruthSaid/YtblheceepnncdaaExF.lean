/- Expressions, part F: evaluation. -/
import Derived.Test.YtblheceepnncdaaExE
namespace Go.Proofs.Ytblheceepnncdaa
open Go Go.Ab
attribute [local irreducible] V AOps DOps Gh Eff PCallsH IntKind.wrap
set_option maxRecDepth 4000

theorem colName_spec (c : LCol) (e : LExpr) : PFun Try.prog 32 [pcol c, .ptr (encE e)] (pbool (c.name == e.name)) := by
  refine PCallsH.intro Try.func32 rfl Try.ntmps32 rfl ?_
  repeat' (first | (show AOps _ _ _ _ _; first | refine AOps.q tt_ok rfl ?_ | refine AOps.nil ?_ | refine AOps.loadBox tt_ok rfl rfl rfl rfl rfl rfl rfl ?_ | refine AOps.boxF rfl rfl rfl rfl rfl rfl ?_ | refine AOps.bsF tt_ok rfl rfl rfl rfl rfl rfl ?_ | (refine AOps.alloc tt_ok rfl rfl rfl rfl rfl rfl ?_; intro bk) | refine AOps.storeBox tt_ok rfl rfl rfl rfl rfl rfl rfl rfl rfl rfl rfl ?_ | ((fail_if_success refine AOps.decided rfl ?_); refine AOps.split rfl rfl rfl (fun h => ?_) (fun h => ?_))) | (show V _ _ _ _ _; first | refine V.seq ?_ | refine V.region ?_ | refine V.skip ?_ | refine V.condT rfl ?_ | refine V.condF rfl ?_ | refine V.block ?_ | refine V.blk ?_ | refine V.exit rfl ?_ | refine V.cond rfl (fun h => ?_) (fun h => ?_)) | (show DOps _ _ _ _ _ _ _; first | refine DOps.q rfl ?_ | refine DOps.nil ?_ | refine DOps.alloc rfl rfl rfl rfl rfl rfl rfl rfl fun bk => ?_ | refine DOps.storeBox rfl rfl rfl rfl rfl rfl rfl rfl rfl rfl rfl rfl ?_ | refine DOps.loadBox rfl rfl rfl rfl rfl rfl rfl rfl rfl ?_ | ((fail_if_success refine DOps.decided rfl rfl ?_); refine DOps.split rfl rfl rfl rfl (fun h => ?_) (fun h => ?_))))
  all_goals refine V.ret1 tt_ok rfl rfl (PLe.of_eq rfl)

theorem getVal {l : List LVal} {j : Int} (h0 : 0 ≤ j) (h : j < ((l.map encVal).length : Int)) : (l.map encVal)[j.toNat]? = some (encVal (l.getD j.toNat .nul)) := by
  simp at h
  have : j.toNat < l.length := by omega
  simp [this]

theorem evalE_eq (v : LEnv) (e : LExpr) : evalE v e =
    if e.kind == 1 then e.value
    else if e.kind == 2 then (if 0 ≤ idxOf (fun c : LCol => c.name == e.name) v.cols ∧ idxOf (fun c : LCol => c.name == e.name) v.cols < v.row.length then v.row.getD (idxOf (fun c : LCol => c.name == e.name) v.cols).toNat .nul else .nul)
    else if e.kind == 3 then (if 0 ≤ e.index ∧ e.index < v.params.length ∧ (v.params.getD e.index.toNat .nul).kind = e.value.kind then v.params.getD e.index.toNat .nul else .nul)
    else if e.kind == 4 then (if 0 ≤ idxOf (fun s : List UInt8 => e.name == s) v.vnames ∧ idxOf (fun s : List UInt8 => e.name == s) v.vnames < v.vvals.length then v.vvals.getD (idxOf (fun s : List UInt8 => e.name == s) v.vnames).toNat .nul else .nul)
    else if e.kind == 5 then reckonV e.name (e.args.map (evalE v))
    else .nul := by
  cases e
  rw [evalE, evalEs_map]
  rfl

set_option maxHeartbeats 4000000 in
theorem evalStep (v : LEnv) (e : LExpr) (ih : ∀ a ∈ e.args, PFun Try.prog 12 [penv v, pexpr a] (pval (evalE v a))) :
    PFun Try.prog 12 [penv v, pexpr e] (pval (evalE v e)) := by
  refine PCallsH.intro Try.func12 rfl Try.ntmps12 rfl ?_
  repeat' (first | (show AOps _ _ _ _ _; first | refine AOps.q tt_ok rfl ?_ | refine AOps.nil ?_ | refine AOps.loadBox tt_ok rfl rfl rfl rfl rfl rfl rfl ?_ | refine AOps.boxF rfl rfl rfl rfl rfl rfl ?_ | refine AOps.bsF tt_ok rfl rfl rfl rfl rfl rfl ?_ | (refine AOps.alloc tt_ok rfl rfl rfl rfl rfl rfl ?_; intro bk) | refine AOps.storeBox tt_ok rfl rfl rfl rfl rfl rfl rfl rfl rfl rfl rfl ?_ | refine AOps.callP (g := 31) rfl rfl rfl Try.call31 (PLeAll.refl _ _) (indexCol (p := fun c => c.name == e.name) _ Try.call32 fun c _ => colName_spec c e) rfl ?_ | refine AOps.callP (g := 33) rfl rfl rfl Try.call33 (PLeAll.refl _ _) (indexStr _ _) rfl ?_ | refine AOps.callP (g := 34) rfl rfl rfl Try.call34 (PLeAll.refl _ _) (reckon_spec v e ih) rfl ?_ | refine AOps.idx tt_ok rfl rfl rfl rfl rfl rfl (of_decide_eq_true (by assumption)) (getVal (of_decide_eq_true (by assumption)) (of_decide_eq_true (by assumption))) rfl ?_ | ((fail_if_success refine AOps.decided rfl ?_); refine AOps.split rfl rfl rfl (fun h => ?_) (fun h => ?_))) | (show V _ _ _ _ _; first | refine V.seq ?_ | refine V.region ?_ | refine V.skip ?_ | refine V.condT rfl ?_ | refine V.condF rfl ?_ | refine V.block ?_ | refine V.blk ?_ | refine V.exit rfl ?_ | (show V _ _ _ (.code (.region 9 _ true) :: _) _; refine V.draw tt_ok mixed_ok false [0, 1, 2, 3, 4, 5, 6, 7, 8, 9, 10, 11, 12, 13, 14, 15, 16, 17, 18, 19, 20, 21, 22, 23] rfl (by decide +kernel) rfl ?_) | refine V.cond rfl (fun h => ?_) (fun h => ?_)) | (show DOps _ _ _ _ _ _ _; first | refine DOps.q rfl ?_ | refine DOps.nil ?_ | refine DOps.alloc rfl rfl rfl rfl rfl rfl rfl rfl fun bk => ?_ | refine DOps.storeBox rfl rfl rfl rfl rfl rfl rfl rfl rfl rfl rfl rfl ?_ | refine DOps.loadBox rfl rfl rfl rfl rfl rfl rfl rfl rfl ?_ | refine DOps.callP (g := 31) rfl rfl rfl rfl Try.call31 (PLeAll.refl _ _) (indexCol (p := fun c => c.name == e.name) _ Try.call32 fun c _ => colName_spec c e) rfl ?_ | refine DOps.callP (g := 33) rfl rfl rfl rfl Try.call33 (PLeAll.refl _ _) (indexStr _ _) rfl ?_ | refine DOps.callP (g := 34) rfl rfl rfl rfl Try.call34 (PLeAll.refl _ _) (reckon_spec v e ih) rfl ?_ | refine DOps.idx rfl rfl rfl rfl rfl rfl rfl (of_decide_eq_true (by assumption)) (getVal (of_decide_eq_true (by assumption)) (of_decide_eq_true (by assumption))) rfl ?_ | ((fail_if_success refine DOps.decided rfl rfl ?_); refine DOps.split rfl rfl rfl rfl (fun h => ?_) (fun h => ?_))))
  all_goals refine V.retC tt_ok rfl rfl rfl rfl rfl (PLe.of_eq ?_)
  all_goals rw [evalE_eq]
  all_goals simp_all [LVal.nul]
  all_goals rw [if_neg (by omega)]
  all_goals exact ⟨rfl, rfl, rfl⟩

theorem eval_spec (v : LEnv) : ∀ e : LExpr, PFun Try.prog 12 [penv v, pexpr e] (pval (evalE v e))
  | .mk k n i x args => evalStep v (.mk k n i x args) fun a ha => by
    have ha' : a ∈ args := ha
    exact eval_spec v a
end Go.Proofs.Ytblheceepnncdaa
