/- What lifted functions come to: conjunctions. -/
import Derived.Test.YtblheceepnncdaaLi2
namespace Go.Proofs.Ytblheceepnncdaa
open Go Go.Ab
attribute [local irreducible] V AOps DOps Gh Eff PCallsH IntKind.wrap
set_option maxRecDepth 4000

def isAnd (e : LExpr) : Bool := e.kind == 5 && e.name == [97, 110, 100] && e.args.length == 2
mutual
/-- The nodes of an expression. -/
def cntE : LExpr → Nat
  | .mk _ _ _ _ args => 1 + cntEs args
def cntEs : List LExpr → Nat
  | [] => 0
  | e :: r => cntE e + cntEs r
end
theorem cntE_eq (e : LExpr) : cntE e = 1 + cntEs e.args := by cases e; rw [cntE]; rfl

mutual
def conjE : LExpr → List LExpr
  | .mk k n i x args => if k == 5 && n == [97, 110, 100] && args.length == 2 then conjEs args else [.mk k n i x args]
def conjEs : List LExpr → List LExpr
  | [] => []
  | e :: r => conjE e ++ conjEs r
end
theorem conjE_eq (e : LExpr) : conjE e = if isAnd e then conjEs e.args else [e] := by cases e; rw [conjE]; rfl
mutual
theorem conj_le : ∀ e : LExpr, (conjE e).length ≤ cntE e
  | .mk k n i x args => by
    rw [conjE, cntE]
    split
    · have := conjs_le args; omega
    · simp
theorem conjs_le : ∀ l : List LExpr, (conjEs l).length ≤ cntEs l
  | [] => by simp [conjEs]
  | e :: r => by
    rw [conjEs, cntEs, List.length_append]
    have := conj_le e
    have := conjs_le r
    omega
end

def conjO (e : LExpr) : Option (List LExpr) := guardO (cntE e ≤ 1000000) (conjE e)

theorem conj_spec {m : Nat} : ∀ (e : LExpr) (r : List LExpr), conjO e = some r → PCalls Try.prog 27 [pexpr e] (OwnR m 35 (r.map encExpr)) := by
  intro e
  generalize hk : SizeOf.sizeOf e = k
  induction k using Nat.strongRecOn generalizing e m with
  | _ k ih =>
    intro r h
    obtain ⟨hc, rfl⟩ := guardO_some h
    refine W_expr_Conjuncts (fun a => if SizeOf.sizeOf a < SizeOf.sizeOf e then conjO a else none) (fun m' a q hq => ?_) e _ ?_
    · split at hq
      · rename_i hlt; exact ih _ (hk ▸ hlt) a rfl q hq
      · cases hq
    · unfold L_expr_Conjuncts
      simp only [letP_eq]
      rw [conjE_eq]
      by_cases ha : isAnd e = true
      · rw [if_pos ha]
        simp only [isAnd, Bool.and_eq_true, beq_iff_eq] at ha
        obtain ⟨⟨h1, h2⟩, h3⟩ := ha
        obtain ⟨a, b, hab⟩ := len2 h3
        have hc' := hc
        rw [cntE_eq, hab] at hc'
        simp only [cntEs] at hc'
        have la : SizeOf.sizeOf a < SizeOf.sizeOf e := args_lt (by rw [hab]; simp)
        have lb : SizeOf.sizeOf b < SizeOf.sizeOf e := args_lt (by rw [hab]; simp)
        have ca := conj_le a
        have cb := conj_le b
        have g0 : getI [a, b] 0 = some a := rfl
        have g1 : getI [a, b] 1 = some b := rfl
        have hb : (bif e.kind == 5 then bif e.name == [97, 110, 100] then ((e.args.length : Int) == 2) else false else false) = true := by rw [h1, h2, h3]; rfl
        rw [hb, hab]
        simp only [cond_true, g0, g1, bindP_some, if_pos la, if_pos lb, conjO, guardO_pos (show cntE a ≤ 1000000 by omega), guardO_pos (show cntE b ≤ 1000000 by omega), conjEs, List.append_nil]
        rw [appI_ok (xs := conjE a) (ys := conjE b) (bytes := 88) (by omega) (by unfold maxLen; omega)]
        rfl
      · rw [if_neg ha]
        have hb : (bif e.kind == 5 then bif e.name == [97, 110, 100] then ((e.args.length : Int) == 2) else false else false) = false := by
          cases h1 : e.kind == 5 <;> cases h2 : e.name == [97, 110, 100] <;> simp
          intro h3
          apply ha
          simp only [isAnd, h1, h2, Bool.true_and]
          simp
          omega
        rw [hb]
        rfl

theorem subI_tail {α : Type} (x : α) (l : List α) : subI (x :: l) 1 ((x :: l).length : Int) = some l := by
  rw [subI_ok ⟨by omega, by simp; omega, by simp⟩]
  simp

/-- The conjunction of predicates, nested to the left. -/
def conjoinE : List LExpr → LExpr
  | [] => lit (boolV true)
  | x :: l => l.foldl (fun a b => oper [97, 110, 100] [a, b]) x

theorem conjoin_eq (l : List LExpr) : L_expr_Conjoin l = some (conjoinE l) := by
  unfold L_expr_Conjoin
  cases l with
  | nil => rfl
  | cons x l =>
    have h0 : (((x :: l).length : Int) == 0) = false := by simp; omega
    rw [h0]
    have h1 : getI (x :: l) 0 = some x := getI_nat (j := 0) rfl
    simp only [cond_false, letP_eq, id, h1, bindP_some, subI_tail]
    rw [rangeM_fold (fun a b => oper [97, 110, 100] [a, b]) (fun k y hk => rfl)]
    rfl
theorem conjoin_spec (l : List LExpr) : PFun Try.prog 29 [pexprs l] (pexpr (conjoinE l)) := W_expr_Conjoin l _ (conjoin_eq l)
end Go.Proofs.Ytblheceepnncdaa
