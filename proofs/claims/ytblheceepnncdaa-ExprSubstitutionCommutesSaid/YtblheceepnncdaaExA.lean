/- Expressions, part A: the data as plain Lean, how they are encoded in pure values, and facts on indices. -/
import Derived.Test.YtblheceepnncdaaAbN
import Derived.Test.YtblheceepnncdaaAbTab
namespace Go.Proofs.Ytblheceepnncdaa
open Go Go.Ab

theorem mixed_ok : Try.prog.follows .mixedOrders = true := by kernel_rfl

abbrev pint (n : Int) : PV := .val (.int .i64 n)
abbrev pbool (b : Bool) : PV := .val (.bool b)

structure LVal where
  kind : Int
  int : Int
  text : List UInt8
  deriving DecidableEq

structure LCol where
  name : List UInt8
  kind : Int
  nullable : Bool
  deriving DecidableEq

inductive LExpr where
  | mk (kind : Int) (name : List UInt8) (index : Int) (value : LVal) (args : List LExpr)

def LExpr.kind : LExpr → Int | .mk k _ _ _ _ => k
def LExpr.name : LExpr → List UInt8 | .mk _ n _ _ _ => n
def LExpr.index : LExpr → Int | .mk _ _ i _ _ => i
def LExpr.value : LExpr → LVal | .mk _ _ _ v _ => v
def LExpr.args : LExpr → List LExpr | .mk _ _ _ _ a => a

structure LEnv where
  cols : List LCol
  row : List LVal
  params : List LVal
  vnames : List (List UInt8)
  vvals : List LVal

def LVal.nul : LVal := ⟨0, 0, []⟩
def LEnv.none : LEnv := ⟨[], [], [], [], []⟩

@[simp] def encVal (v : LVal) : List PV := [pint v.kind, pint v.int, .str v.text]
@[simp] def encCol (c : LCol) : List PV := [.str c.name, pint c.kind, pbool c.nullable]
mutual
def encExpr : LExpr → List PV
  | .mk k n i v a => [pint k, .str n, pint i, pint v.kind, pint v.int, .str v.text, .list 35 (encExprs a)]
def encExprs : List LExpr → List (List PV)
  | [] => []
  | e :: r => encExpr e :: encExprs r
end
theorem encExprs_map : ∀ l, encExprs l = l.map encExpr
  | [] => rfl
  | e :: r => by simp [encExprs, encExprs_map r]

/-- The same, by projections. -/
def encE (e : LExpr) : List PV := [pint e.kind, .str e.name, pint e.index, pint e.value.kind, pint e.value.int, .str e.value.text, .list 35 (e.args.map encExpr)]
theorem encExpr_eq (e : LExpr) : encExpr e = encE e := by
  cases e
  simp [encExpr, encE, encExprs_map, LExpr.kind, LExpr.name, LExpr.index, LExpr.value, LExpr.args]

abbrev pval (v : LVal) : PV := .agg (encVal v)
abbrev pcol (c : LCol) : PV := .agg (encCol c)
abbrev pexpr (e : LExpr) : PV := .agg (encE e)
abbrev pvals (l : List LVal) : PV := .list 23 (l.map encVal)
abbrev pcols (l : List LCol) : PV := .list 46 (l.map encCol)
abbrev pexprs (l : List LExpr) : PV := .list 35 (l.map encExpr)
abbrev pstrs (l : List (List UInt8)) : PV := .list 9 (l.map fun s => [.str s])
abbrev pints (l : List Int) : PV := .list 3 (l.map fun n => [pint n])
@[simp] def encEnv (v : LEnv) : List PV := [pcols v.cols, pvals v.row, pvals v.params, pstrs v.vnames, pvals v.vvals]
abbrev penv (v : LEnv) : PV := .agg (encEnv v)

theorem getExpr {l : List LExpr} {j : Nat} (h : j < l.length) : (l.map encExpr)[((j : Nat) : Int).toNat]? = some (encE l[j]) := by
  simp [h, encExpr_eq]

/-- What 'slices.IndexFunc' answers. -/
def idxOf {α : Type} (p : α → Bool) (l : List α) : Int := match l.findIdx? p with
  | some i => i
  | none => -1

theorem idxOf_at {α : Type} {p : α → Bool} {l : List α} {j : Nat} (hlt : j < l.length) (hpre : ∀ x ∈ l.take j, p x = false) (h : p l[j] = true) : idxOf p l = (j : Int) := by
  have : l.findIdx? p = some j := by
    rw [List.findIdx?_eq_some_iff_getElem]
    refine ⟨hlt, h, fun i hi => ?_⟩
    have := hpre l[i] (List.mem_take_iff_getElem.2 ⟨i, by omega, rfl⟩)
    simp [this]
  simp [idxOf, this]

theorem idxOf_none {α : Type} {p : α → Bool} {l : List α} (hpre : ∀ x ∈ l, p x = false) : idxOf p l = -1 := by
  have : l.findIdx? p = none := by
    rw [List.findIdx?_eq_none_iff]
    exact hpre
  simp [idxOf, this]

theorem pre_succ {α : Type} {p : α → Bool} {l : List α} {j : Nat} (hlt : j < l.length) (hpre : ∀ x ∈ l.take j, p x = false) (h : p l[j] = false) : ∀ x ∈ l.take (j + 1), p x = false := by
  intro x hx
  rw [List.take_add_one, List.getElem?_eq_getElem hlt] at hx
  simp only [Option.toList, List.mem_append, List.mem_singleton] at hx
  rcases hx with hx | rfl
  · exact hpre x hx
  · exact h

theorem wrap_id {n : Int} (h1 : -9223372036854775808 ≤ n) (h2 : n ≤ 9223372036854775807) : IntKind.i64.wrap n = n := by
  simp only [IntKind.wrap, IntKind.bits, IntKind.signed]
  simp
  omega

theorem pint_succ {j : Nat} (h : j < maxLen) : pint (IntKind.i64.wrap ((j : Int) + 1)) = pint ((j + 1 : Nat) : Int) := by
  rw [wrap_id (by omega) (by simp [maxLen] at h; omega)]
  simp

theorem idxOf_any {α : Type} {p : α → Bool} {l : List α} : (decide (idxOf p l ≥ 0)) = l.any p := by
  rw [Bool.eq_iff_iff]
  simp only [decide_eq_true_eq, List.any_eq_true]
  cases h : l.findIdx? p with
  | none =>
    have e : idxOf p l = -1 := by simp [idxOf, h]
    rw [List.findIdx?_eq_none_iff] at h
    rw [e]
    constructor
    · intro h'; omega
    · rintro ⟨x, hx, hp⟩; rw [h x hx] at hp; cases hp
  | some i =>
    have e : idxOf p l = (i : Int) := by simp [idxOf, h]
    rw [List.findIdx?_eq_some_iff_getElem] at h
    rw [e]
    exact ⟨fun _ => ⟨_, List.getElem_mem h.1, h.2.1⟩, fun _ => by omega⟩
end Go.Proofs.Ytblheceepnncdaa
