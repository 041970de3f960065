/- What lifted functions come to: substitution and copies of expressions. -/
import Derived.Test.YtblheceepnncdaaLi1
namespace Go.Proofs.Ytblheceepnncdaa
open Go Go.Ab
attribute [local irreducible] V AOps DOps Gh Eff PCallsH IntKind.wrap
set_option maxRecDepth 4000

def valuesV : Bool := true
theorem valuesV_spec : PFun Try.prog 8 [] (pbool valuesV) := values_spec

def ExprFit (e : LExpr) : Prop := e.args.length * 88 ≤ 2 ^ 47 ∧ e.args.length ≤ maxLen
theorem exprFit_of {e : LExpr} (h : fitsL tt (encE e)) : ExprFit e := by
  simp only [encE, fitsL, PV.fits, List.length_map] at h
  exact ⟨h.2.2.2.2.2.2.1.2.1 _ rfl, h.2.2.2.2.2.2.1.1⟩
theorem exprFit_pfun {f : FuncId} {e : LExpr} {l : List PV} {R : PV → Heap → Prop} (h : ExprFit e → PCalls Try.prog f (pexpr e :: l) R) : PCalls Try.prog f (pexpr e :: l) R :=
  PCalls.fits tt_ok fun hf => h (exprFit_of (by simpa only [fitsL, PV.fits] using hf.1))

theorem args_lt {e a : LExpr} (h : a ∈ e.args) : SizeOf.sizeOf a < SizeOf.sizeOf e := by
  cases e
  have := List.sizeOf_lt_of_mem (show a ∈ _ from h)
  simp only [LExpr.mk.sizeOf_spec, LExpr.args] at *
  omega

theorem mk_eta (e : LExpr) : LExpr.mk e.kind e.name e.index e.value e.args = e := by cases e; rfl

theorem L_clone (rec : LExpr → Option LExpr) (e : LExpr) (hF : ExprFit e) (hr : ∀ a ∈ e.args, rec a = some a) :
    L_expr_Substitute (fun a _ _ => rec a) (fun _ => none) e [] [] = some e := by
  unfold L_expr_Substitute
  rw [N_L_slices_Index_Lstring_string]
  have h1 : idxOf (fun x1 => e.name == x1) [] = -1 := rfl
  simp only [h1, bindP_some]
  rw [rangeM_map id (fun k x hk => by
    rw [hr x (List.mem_of_getElem? hk)]
    have hlt := (List.getElem?_eq_some_iff.1 hk).1
    obtain ⟨f1, f2⟩ := hF
    rw [bindP_some, appI_ok (by simp; omega) (by simp; omega)]
    simp)]
  cases hk : e.kind == 2 <;> simp [mk_eta]

open Classical in
theorem clone_spec0 : ∀ e : LExpr, PFun Try.prog 23 [pexpr e, pstrs [], pexprs []] (pexpr e) :=
  recClose SizeOf.sizeOf id ExprFit (fun e r => PFun Try.prog 23 [pexpr e, pstrs [], pexprs []] (pexpr r)) (fun rec e => L_expr_Substitute (fun a n l => if n = [] ∧ l = [] then rec a else none) (fun _ => none) e [] [])
    (fun e r h => exprFit_pfun h)
    (fun rec hrec e r H => W_expr_Substitute _ _ (fun a n l r h => by
      split at h
      · rename_i hn; obtain ⟨rfl, rfl⟩ := hn; exact hrec a r h
      · cases h) (fun _ _ h => by cases h) e [] [] r H)
    (fun e hF => by
      refine L_clone (fun a => if SizeOf.sizeOf a < SizeOf.sizeOf e then some (id a) else none) e hF fun a ha => ?_
      rw [if_pos (args_lt ha)]
      rfl)

open Classical in
theorem cloneE_spec (e : LExpr) : PFun Try.prog 41 [pexpr e] (pexpr (id e)) :=
  W_expr_Clone (fun a n l => if n = [] ∧ l = [] then some a else none) (fun _ => none) (fun a n l r h => by
    split at h
    · rename_i hn; obtain ⟨rfl, rfl⟩ := hn; obtain rfl := someE h; exact clone_spec0 a
    · cases h) (fun _ _ h => by cases h) e e (by simp [L_expr_Clone])

mutual
def substE : LExpr → List (List UInt8) → List LExpr → LExpr
  | .mk k n i x args, names, l => if k == 2 ∧ 0 ≤ idxOf (fun s => n == s) names ∧ idxOf (fun s => n == s) names < l.length then l.getD (idxOf (fun s => n == s) names).toNat (.mk 0 [] 0 .nul []) else .mk k n i x (substEs args names l)
def substEs : List LExpr → List (List UInt8) → List LExpr → List LExpr
  | [], _, _ => []
  | e :: r, names, l => substE e names l :: substEs r names l
end
theorem substEs_map (names : List (List UInt8)) (l : List LExpr) : ∀ es, substEs es names l = es.map fun e => substE e names l
  | [] => rfl
  | e :: r => by simp [substEs, substEs_map names l r]
theorem substE_eq (e : LExpr) (names : List (List UInt8)) (l : List LExpr) : substE e names l =
    if e.kind == 2 ∧ 0 ≤ idxOf (fun s => e.name == s) names ∧ idxOf (fun s => e.name == s) names < l.length then l.getD (idxOf (fun s => e.name == s) names).toNat (.mk 0 [] 0 .nul []) else .mk e.kind e.name e.index e.value (e.args.map fun a => substE a names l) := by
  cases e
  rw [substE, substEs_map]
  rfl

open Classical in
theorem subst_spec (e : LExpr) (names : List (List UInt8)) (l : List LExpr) : PFun Try.prog 23 [pexpr e, pstrs names, pexprs l] (pexpr (substE e names l)) := by
  refine recClose SizeOf.sizeOf (fun e => substE e names l) ExprFit (fun e r => PFun Try.prog 23 [pexpr e, pstrs names, pexprs l] (pexpr r)) (fun rec e => L_expr_Substitute (fun a n m => if n = names ∧ m = l then rec a else none) (fun e => some e) e names l)
    (fun e r h => exprFit_pfun h)
    (fun rec hrec e r H => W_expr_Substitute _ _ (fun a n m r h => by
      split at h
      · rename_i hn; obtain ⟨rfl, rfl⟩ := hn; exact hrec a r h
      · cases h) (fun a r h => by obtain rfl := someE h; exact cloneE_spec a) e names l r H) ?_ e
  intro e hF
  unfold L_expr_Substitute
  rw [N_L_slices_Index_Lstring_string]
  simp only [bindP_some]
  rw [rangeM_map (fun a => substE a names l) (fun k x hk => by
    rw [if_pos (by simp), if_pos (args_lt (List.mem_of_getElem? hk))]
    have hlt := (List.getElem?_eq_some_iff.1 hk).1
    obtain ⟨f1, f2⟩ := hF
    rw [bindP_some, appI_ok (by simp; omega) (by simp; omega)]
    simp)]
  rw [substE_eq]
  by_cases hk : e.kind == 2
  · by_cases h0 : 0 ≤ idxOf (fun s => e.name == s) names
    · by_cases h1 : idxOf (fun s => e.name == s) names < l.length
      · have hlt : (idxOf (fun s => e.name == s) names).toNat < l.length := by omega
        rw [getI_ok h0 (List.getElem?_eq_getElem hlt)]
        simp [hk, h0, h1, hlt]
      · simp [hk, h0, h1]
    · simp [hk, h0]
  · simp [hk]
end Go.Proofs.Ytblheceepnncdaa
