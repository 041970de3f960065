/- Expressions, part J: the type of an expression. -/
import Derived.Test.YtblheceepnncdaaExI
namespace Go.Proofs.Ytblheceepnncdaa
open Go Go.Ab
attribute [local irreducible] V AOps DOps Gh Eff PCallsH IntKind.wrap
set_option maxRecDepth 4000

theorem kindE_eq (cols vars : List LCol) (e : LExpr) : kindE cols vars e =
    if e.kind ≠ 5 ∧ 0 < e.args.length then badK 3
    else if e.kind == 1 then (if validV e.value && e.name == [] && e.index == 0 then (e.value.kind, e.value.kind == 0, 0) else badK 3)
    else if e.kind == 3 then (if e.index < 0 ∨ e.index ≥ 8 ∨ e.name ≠ [] ∨ e.value.kind < 1 ∨ e.value.kind > 3 ∨ e.value ≠ ⟨e.value.kind, 0, []⟩ then badK 3 else (e.value.kind, true, 0))
    else if e.kind == 2 || e.kind == 4 then
      (if schemaName e.name && e.index == 0 && decide (e.value = .nul) then
        (if (findV (if e.kind == 4 then vars else cols) e.name).2 then ((findV (if e.kind == 4 then vars else cols) e.name).1.kind, (findV (if e.kind == 4 then vars else cols) e.name).1.nullable, 0) else badK 23)
       else badK 3)
    else if e.kind == 5 then opKindV e.name e.index e.value (e.args.map (kindE cols vars))
    else badK 3 := by
  cases e
  rw [kindE, kindsE_map]
  rfl

theorem valEq0 (x : LVal) : (x.kind == 0 && (x.int == 0 && (x.text == (⟨#[]⟩ : ByteArray).data.toList && true))) = decide (x = .nul) := by
  cases x
  rw [Bool.eq_iff_iff]
  simp [LVal.nul]
theorem valEqK (x : LVal) : (x.kind == x.kind && (x.int == 0 && (x.text == (⟨#[]⟩ : ByteArray).data.toList && true))) = decide (x = ⟨x.kind, 0, []⟩) := by
  cases x
  rw [Bool.eq_iff_iff]
  simp

theorem valNul_iff (x : LVal) : x = .nul ↔ x.kind = 0 ∧ x.int = 0 ∧ x.text = [] := by
  cases x
  simp [LVal.nul]
theorem valK_iff (x : LVal) : x = ⟨x.kind, 0, []⟩ ↔ x.int = 0 ∧ x.text = [] := by
  cases x
  simp

set_option maxHeartbeats 4000000 in
theorem kindStep (cols vars : List LCol) (e : LExpr) (ih : ∀ a ∈ e.args, PFun Try.prog 43 [pcols cols, pcols vars, pexpr a] (pkr (kindE cols vars a))) :
    PFun Try.prog 43 [pcols cols, pcols vars, pexpr e] (pkr (kindE cols vars e)) := by
  refine PCallsH.intro Try.func43 rfl Try.ntmps43 rfl ?_
  repeat' (first | (show AOps _ _ _ _ _; first | refine AOps.q tt_ok rfl ?_ | refine AOps.nil ?_ | refine AOps.loadBox tt_ok rfl rfl rfl rfl rfl rfl rfl ?_ | refine AOps.boxF rfl rfl rfl rfl rfl rfl ?_ | refine AOps.bsF tt_ok rfl rfl rfl rfl rfl rfl ?_ | (refine AOps.alloc tt_ok rfl rfl rfl rfl rfl rfl ?_; intro bk) | refine AOps.storeBox tt_ok rfl rfl rfl rfl rfl rfl rfl rfl rfl rfl rfl ?_ | refine AOps.callP (g := 9) rfl rfl rfl Try.call9 (PLeAll.refl _ _) (validV_spec _) rfl ?_ | refine AOps.callP (g := 49) rfl rfl rfl Try.call49 (PLeAll.refl _ _) (schemaName_spec _) rfl ?_ | refine AOps.callP (g := 50) rfl rfl rfl Try.call50 (PLeAll.refl _ _) (find_spec _ _) rfl ?_ | refine AOps.callP (g := 51) rfl rfl rfl Try.call51 (PLeAll.refl _ _) (opKind_spec cols vars e ih) rfl ?_ | ((fail_if_success refine AOps.decided rfl ?_); refine AOps.split rfl rfl rfl (fun h => ?_) (fun h => ?_))) | (show V _ _ _ _ _; first | refine V.seq ?_ | refine V.region ?_ | refine V.skip ?_ | refine V.condT rfl ?_ | refine V.condF rfl ?_ | refine V.block ?_ | refine V.blk ?_ | refine V.exit rfl ?_ | (show V _ _ _ (.code (.region 7 _ true) :: _) _; refine V.draw tt_ok mixed_ok true [0, 1, 2, 3, 4, 5, 6, 7, 8, 9] rfl (by decide +kernel) rfl ?_) | (show V _ _ _ (.code (.region 22 _ true) :: _) _; refine V.draw tt_ok mixed_ok true [0, 1, 2, 3, 4, 5, 6] rfl (by decide +kernel) rfl ?_) | refine V.cond rfl (fun h => ?_) (fun h => ?_)) | (show DOps _ _ _ _ _ _ _; first | refine DOps.q rfl ?_ | refine DOps.nil ?_ | refine DOps.alloc rfl rfl rfl rfl rfl rfl rfl rfl fun bk => ?_ | refine DOps.storeBox rfl rfl rfl rfl rfl rfl rfl rfl rfl rfl rfl rfl ?_ | refine DOps.loadBox rfl rfl rfl rfl rfl rfl rfl rfl rfl ?_ | refine DOps.callP (g := 9) rfl rfl rfl rfl Try.call9 (PLeAll.refl _ _) (validV_spec _) rfl ?_ | refine DOps.callP (g := 49) rfl rfl rfl rfl Try.call49 (PLeAll.refl _ _) (schemaName_spec _) rfl ?_ | refine DOps.callP (g := 50) rfl rfl rfl rfl Try.call50 (PLeAll.refl _ _) (find_spec _ _) rfl ?_ | refine DOps.callP (g := 51) rfl rfl rfl rfl Try.call51 (PLeAll.refl _ _) (opKind_spec cols vars e ih) rfl ?_ | ((fail_if_success refine DOps.decided rfl rfl ?_); refine DOps.split rfl rfl rfl rfl (fun h => ?_) (fun h => ?_))))
  all_goals refine V.ret3 tt_ok rfl rfl rfl rfl (PLe.of_eq ?_)
  all_goals rw [kindE_eq]
  all_goals (simp only [List.length_map, Bool.not_eq_true', decide_eq_true_eq, decide_eq_false_iff_not, bne_iff_ne, beq_iff_eq, ne_eq, beq_eq_false_iff_ne, bne_eq_false_iff_eq] at *)
  all_goals try simp_all [badK, valNul_iff, valK_iff]
  all_goals (rw [if_neg (by first | omega | (rintro ⟨q1, q2, q3⟩; exact h q1 q2 q3))]; exact ⟨rfl, rfl, rfl⟩)

theorem kind_spec (cols vars : List LCol) : ∀ e : LExpr, PFun Try.prog 43 [pcols cols, pcols vars, pexpr e] (pkr (kindE cols vars e))
  | .mk k n i x args => kindStep cols vars (.mk k n i x args) fun a ha => by
    have ha' : a ∈ args := ha
    exact kind_spec cols vars a

def typeV (cols vars : List LCol) (e : LExpr) : KR := if (sizeE e).1 > 60 ∨ (sizeE e).2 > 12 then badK 2 else kindE cols vars e

theorem typeOf_spec (cols vars : List LCol) (e : LExpr) : PFun Try.prog 24 [pcols cols, pcols vars, pexpr e] (pkr (typeV cols vars e)) := by
  refine PCallsH.intro Try.func24 rfl Try.ntmps24 rfl ?_
  repeat' (first | (show AOps _ _ _ _ _; first | refine AOps.q tt_ok rfl ?_ | refine AOps.nil ?_ | refine AOps.loadBox tt_ok rfl rfl rfl rfl rfl rfl rfl ?_ | refine AOps.boxF rfl rfl rfl rfl rfl rfl ?_ | refine AOps.bsF tt_ok rfl rfl rfl rfl rfl rfl ?_ | (refine AOps.alloc tt_ok rfl rfl rfl rfl rfl rfl ?_; intro bk) | refine AOps.storeBox tt_ok rfl rfl rfl rfl rfl rfl rfl rfl rfl rfl rfl ?_ | refine AOps.callP (g := 42) rfl rfl rfl Try.call42 (PLeAll.refl _ _) (size_spec _) rfl ?_ | refine AOps.callP (g := 43) rfl rfl rfl Try.call43 (PLeAll.refl _ _) (kind_spec _ _ _) rfl ?_ | ((fail_if_success refine AOps.decided rfl ?_); refine AOps.split rfl rfl rfl (fun h => ?_) (fun h => ?_))) | (show V _ _ _ _ _; first | refine V.seq ?_ | refine V.region ?_ | refine V.skip ?_ | refine V.condT rfl ?_ | refine V.condF rfl ?_ | refine V.block ?_ | refine V.blk ?_ | refine V.exit rfl ?_ | refine V.cond rfl (fun h => ?_) (fun h => ?_)) | (show DOps _ _ _ _ _ _ _; first | refine DOps.q rfl ?_ | refine DOps.nil ?_ | refine DOps.alloc rfl rfl rfl rfl rfl rfl rfl rfl fun bk => ?_ | refine DOps.storeBox rfl rfl rfl rfl rfl rfl rfl rfl rfl rfl rfl rfl ?_ | refine DOps.loadBox rfl rfl rfl rfl rfl rfl rfl rfl rfl ?_ | refine DOps.callP (g := 42) rfl rfl rfl rfl Try.call42 (PLeAll.refl _ _) (size_spec _) rfl ?_ | refine DOps.callP (g := 43) rfl rfl rfl rfl Try.call43 (PLeAll.refl _ _) (kind_spec _ _ _) rfl ?_ | ((fail_if_success refine DOps.decided rfl rfl ?_); refine DOps.split rfl rfl rfl rfl (fun h => ?_) (fun h => ?_))))
  all_goals refine V.ret3 tt_ok rfl rfl rfl rfl (PLe.of_eq ?_)
  all_goals simp_all [typeV, badK]
  rw [if_neg (by omega)]
  exact ⟨rfl, rfl, rfl⟩
end Go.Proofs.Ytblheceepnncdaa
