/- Expressions, part I: the types of operations. -/
import Derived.Test.YtblheceepnncdaaExH
namespace Go.Proofs.Ytblheceepnncdaa
open Go Go.Ab
attribute [local irreducible] V AOps DOps Gh Eff PCallsH IntKind.wrap
set_option maxRecDepth 4000

/-- A kind, whether it may be null, an error. -/
abbrev KR := Int × Bool × Int
abbrev pkr (r : KR) : PV := .tup [pint r.1, pbool r.2.1, pint r.2.2]

def typedV (kind : Int) (nullable ok : Bool) : KR := if ok then (kind, nullable, 0) else (0, false, 7)

theorem typedV_spec (kind : Int) (nullable ok : Bool) : PFun Try.prog 63 [pint kind, pbool nullable, pbool ok] (pkr (typedV kind nullable ok)) := by
  refine PCallsH.intro Try.func63 rfl Try.ntmps63 rfl ?_
  repeat' (first | (show AOps _ _ _ _ _; first | refine AOps.q tt_ok rfl ?_ | refine AOps.nil ?_ | refine AOps.loadBox tt_ok rfl rfl rfl rfl rfl rfl rfl ?_ | refine AOps.boxF rfl rfl rfl rfl rfl rfl ?_ | refine AOps.bsF tt_ok rfl rfl rfl rfl rfl rfl ?_ | (refine AOps.alloc tt_ok rfl rfl rfl rfl rfl rfl ?_; intro bk) | refine AOps.storeBox tt_ok rfl rfl rfl rfl rfl rfl rfl rfl rfl rfl rfl ?_ | ((fail_if_success refine AOps.decided rfl ?_); refine AOps.split rfl rfl rfl (fun h => ?_) (fun h => ?_))) | (show V _ _ _ _ _; first | refine V.seq ?_ | refine V.region ?_ | refine V.skip ?_ | refine V.condT rfl ?_ | refine V.condF rfl ?_ | refine V.block ?_ | refine V.blk ?_ | refine V.exit rfl ?_ | refine V.cond rfl (fun h => ?_) (fun h => ?_)) | (show DOps _ _ _ _ _ _ _; first | refine DOps.q rfl ?_ | refine DOps.nil ?_ | refine DOps.alloc rfl rfl rfl rfl rfl rfl rfl rfl fun bk => ?_ | refine DOps.storeBox rfl rfl rfl rfl rfl rfl rfl rfl rfl rfl rfl rfl ?_ | refine DOps.loadBox rfl rfl rfl rfl rfl rfl rfl rfl rfl ?_ | ((fail_if_success refine DOps.decided rfl rfl ?_); refine DOps.split rfl rfl rfl rfl (fun h => ?_) (fun h => ?_))))
  all_goals refine V.ret3 tt_ok rfl rfl rfl rfl (PLe.of_eq ?_)
  all_goals simp_all [typedV]

def alikeB (a b : Int) : Bool := a == b || a == 0 || b == 0

theorem alike_spec (a b : Int) : PFun Try.prog 62 [pint a, pint b] (pbool (alikeB a b)) := by
  refine PCallsH.intro Try.func62 rfl Try.ntmps62 rfl ?_
  repeat' (first | (show AOps _ _ _ _ _; first | refine AOps.q tt_ok rfl ?_ | refine AOps.nil ?_ | refine AOps.loadBox tt_ok rfl rfl rfl rfl rfl rfl rfl ?_ | refine AOps.boxF rfl rfl rfl rfl rfl rfl ?_ | refine AOps.bsF tt_ok rfl rfl rfl rfl rfl rfl ?_ | (refine AOps.alloc tt_ok rfl rfl rfl rfl rfl rfl ?_; intro bk) | refine AOps.storeBox tt_ok rfl rfl rfl rfl rfl rfl rfl rfl rfl rfl rfl ?_ | ((fail_if_success refine AOps.decided rfl ?_); refine AOps.split rfl rfl rfl (fun h => ?_) (fun h => ?_))) | (show V _ _ _ _ _; first | refine V.seq ?_ | refine V.region ?_ | refine V.skip ?_ | refine V.condT rfl ?_ | refine V.condF rfl ?_ | refine V.block ?_ | refine V.blk ?_ | refine V.exit rfl ?_ | refine V.cond rfl (fun h => ?_) (fun h => ?_)) | (show DOps _ _ _ _ _ _ _; first | refine DOps.q rfl ?_ | refine DOps.nil ?_ | refine DOps.alloc rfl rfl rfl rfl rfl rfl rfl rfl fun bk => ?_ | refine DOps.storeBox rfl rfl rfl rfl rfl rfl rfl rfl rfl rfl rfl rfl ?_ | refine DOps.loadBox rfl rfl rfl rfl rfl rfl rfl rfl rfl ?_ | ((fail_if_success refine DOps.decided rfl rfl ?_); refine DOps.split rfl rfl rfl rfl (fun h => ?_) (fun h => ?_))))
  all_goals refine V.ret1 tt_ok rfl rfl (PLe.of_eq ?_)
  all_goals simp_all [alikeB]

theorem allOf1_spec (n want : Int) : PFun Try.prog 61 [pint n, .ptr [pint want]] (pbool (n != want && n != 0)) := by
  refine PCallsH.intro Try.func61 rfl Try.ntmps61 rfl ?_
  repeat' (first | (show AOps _ _ _ _ _; first | refine AOps.q tt_ok rfl ?_ | refine AOps.nil ?_ | refine AOps.loadBox tt_ok rfl rfl rfl rfl rfl rfl rfl ?_ | refine AOps.boxF rfl rfl rfl rfl rfl rfl ?_ | refine AOps.bsF tt_ok rfl rfl rfl rfl rfl rfl ?_ | (refine AOps.alloc tt_ok rfl rfl rfl rfl rfl rfl ?_; intro bk) | refine AOps.storeBox tt_ok rfl rfl rfl rfl rfl rfl rfl rfl rfl rfl rfl ?_ | ((fail_if_success refine AOps.decided rfl ?_); refine AOps.split rfl rfl rfl (fun h => ?_) (fun h => ?_))) | (show V _ _ _ _ _; first | refine V.seq ?_ | refine V.region ?_ | refine V.skip ?_ | refine V.condT rfl ?_ | refine V.condF rfl ?_ | refine V.block ?_ | refine V.blk ?_ | refine V.exit rfl ?_ | refine V.cond rfl (fun h => ?_) (fun h => ?_)) | (show DOps _ _ _ _ _ _ _; first | refine DOps.q rfl ?_ | refine DOps.nil ?_ | refine DOps.alloc rfl rfl rfl rfl rfl rfl rfl rfl fun bk => ?_ | refine DOps.storeBox rfl rfl rfl rfl rfl rfl rfl rfl rfl rfl rfl rfl ?_ | refine DOps.loadBox rfl rfl rfl rfl rfl rfl rfl rfl rfl ?_ | ((fail_if_success refine DOps.decided rfl rfl ?_); refine DOps.split rfl rfl rfl rfl (fun h => ?_) (fun h => ?_))))
  all_goals refine V.ret1 tt_ok rfl rfl (PLe.of_eq ?_)
  all_goals simp_all

def allOf (want : Int) (l : List Int) : Bool := !(l.any fun n => n != want && n != 0)

theorem allOf_spec (want : Int) (l : List Int) : PFun Try.prog 59 [pint want, .ptr [pints l]] (pbool (allOf want l)) := by
  refine PCallsH.intro Try.func59 rfl Try.ntmps59 rfl ?_
  repeat' (first | (show AOps _ _ _ _ _; first | refine AOps.q tt_ok rfl ?_ | refine AOps.nil ?_ | refine AOps.loadBox tt_ok rfl rfl rfl rfl rfl rfl rfl ?_ | refine AOps.boxF rfl rfl rfl rfl rfl rfl ?_ | refine AOps.bsF tt_ok rfl rfl rfl rfl rfl rfl ?_ | (refine AOps.alloc tt_ok rfl rfl rfl rfl rfl rfl ?_; intro bk) | refine AOps.storeBox tt_ok rfl rfl rfl rfl rfl rfl rfl rfl rfl rfl rfl ?_ | refine AOps.callP (g := 60) rfl rfl rfl Try.call60 (PLeAll.refl _ _) (containsInt (p := fun n => n != want && n != 0) l Try.call61 fun n _ => allOf1_spec n want) rfl ?_ | ((fail_if_success refine AOps.decided rfl ?_); refine AOps.split rfl rfl rfl (fun h => ?_) (fun h => ?_))) | (show V _ _ _ _ _; first | refine V.seq ?_ | refine V.region ?_ | refine V.skip ?_ | refine V.condT rfl ?_ | refine V.condF rfl ?_ | refine V.block ?_ | refine V.blk ?_ | refine V.exit rfl ?_ | refine V.cond rfl (fun h => ?_) (fun h => ?_)) | (show DOps _ _ _ _ _ _ _; first | refine DOps.q rfl ?_ | refine DOps.nil ?_ | refine DOps.alloc rfl rfl rfl rfl rfl rfl rfl rfl fun bk => ?_ | refine DOps.storeBox rfl rfl rfl rfl rfl rfl rfl rfl rfl rfl rfl rfl ?_ | refine DOps.loadBox rfl rfl rfl rfl rfl rfl rfl rfl rfl ?_ | refine DOps.callP (g := 60) rfl rfl rfl rfl Try.call60 (PLeAll.refl _ _) (containsInt (p := fun n => n != want && n != 0) l Try.call61 fun n _ => allOf1_spec n want) rfl ?_ | ((fail_if_success refine DOps.decided rfl rfl ?_); refine DOps.split rfl rfl rfl rfl (fun h => ?_) (fun h => ?_))))
  all_goals refine V.ret1 tt_ok rfl rfl (PLe.of_eq rfl)

def badK (x : Int) : KR := (0, false, x)

def opTyped (name : List UInt8) (kinds : List Int) (nullable : Bool) : KR :=
  if name == [43] || name == [45] || name == [42] then typedV 1 true (allOf 1 kinds)
  else if name == [124, 124] then typedV 3 true (allOf 3 kinds)
  else if name == [108, 101, 110, 103, 116, 104] then typedV 1 nullable (allOf 3 kinds)
  else if name == [97, 110, 100] || name == [111, 114] || name == [110, 111, 116] then typedV 2 nullable (allOf 2 kinds)
  else if name == [105, 115, 32, 110, 117, 108, 108] then (2, false, 0)
  else if name == [105, 102] then typedV (if kinds.getD 2 0 > kinds.getD 1 0 then kinds.getD 2 0 else kinds.getD 1 0) nullable (alikeB (kinds.getD 0 0) 2 && alikeB (kinds.getD 1 0) (kinds.getD 2 0))
  else typedV 2 nullable (alikeB (kinds.getD 0 0) (kinds.getD 1 0))

def opKindV (name : List UInt8) (i : Int) (x : LVal) (ks : List KR) : KR :=
  if arityOf name ≠ some ks.length ∨ i ≠ 0 ∨ x ≠ .nul then badK 3
  else match ks.find? fun r => r.2.2 != 0 with
    | some r => badK r.2.2
    | none => opTyped name (ks.map (·.1)) (ks.any (·.2.1))

mutual
def kindE (cols vars : List LCol) : LExpr → KR
  | .mk k n i x args =>
    if k ≠ 5 ∧ 0 < args.length then badK 3
    else if k == 1 then (if validV x && n == [] && i == 0 then (x.kind, x.kind == 0, 0) else badK 3)
    else if k == 3 then (if i < 0 ∨ i ≥ 8 ∨ n ≠ [] ∨ x.kind < 1 ∨ x.kind > 3 ∨ x ≠ ⟨x.kind, 0, []⟩ then badK 3 else (x.kind, true, 0))
    else if k == 2 || k == 4 then
      (if schemaName n && i == 0 && decide (x = .nul) then
        (let r := findV (if k == 4 then vars else cols) n
         if r.2 then (r.1.kind, r.1.nullable, 0) else badK 23)
       else badK 3)
    else if k == 5 then opKindV n i x (kindsE cols vars args)
    else badK 3
def kindsE (cols vars : List LCol) : List LExpr → List KR
  | [] => []
  | e :: r => kindE cols vars e :: kindsE cols vars r
end
theorem kindsE_map (cols vars : List LCol) : ∀ l, kindsE cols vars l = l.map (kindE cols vars)
  | [] => rfl
  | e :: r => by simp [kindsE, kindsE_map cols vars r]

theorem arity_of_idx (name : List UInt8) : (idxOf (fun x => name == x) opNames < 0 ∧ arityOf name = none) ∨
    ∃ a : Nat, 0 ≤ idxOf (fun x => name == x) opNames ∧ (opArity.map fun n => [pint n])[(idxOf (fun x => name == x) opNames).toNat]? = some [pint a] ∧ arityOf name = some a := by
  by_cases hn : name ∈ opNames
  · refine .inr ?_
    simp only [opNames, List.mem_cons, List.mem_nil_iff, or_false] at hn
    rcases hn with rfl | rfl | rfl | rfl | rfl | rfl | rfl | rfl | rfl | rfl | rfl | rfl | rfl <;> exact ⟨_, by decide, rfl, rfl⟩
  · refine .inl ⟨?_, ?_⟩
    · rw [idxOf_none fun x hx => by
        cases hb : name == x with
        | false => rfl
        | true => exact absurd (by rw [eq_of_beq hb]; exact hx) hn]
      decide
    · simp only [opNames, List.mem_cons, List.mem_nil_iff, or_false, not_or] at hn
      simp [arityOf, hn]

theorem find_at {α : Type} {p : α → Bool} {l : List α} {j : Nat} (hlt : j < l.length) (hpre : ∀ x ∈ l.take j, p x = false) (h : p l[j] = true) : l.find? p = some l[j] := by
  rw [List.find?_eq_some_iff_getElem]
  refine ⟨h, j, hlt, rfl, fun i hi => ?_⟩
  have := hpre l[i] (List.mem_take_iff_getElem.2 ⟨i, by omega, rfl⟩)
  simp [this]

theorem kindRows {cols vars : List LCol} {args : List LExpr} {j : Nat} (h : j < args.length) : ((args.take j).map (kindE cols vars)).map (fun r => [pint r.1]) ++ [[pint (kindE cols vars args[j]).1]] = ((args.take (j + 1)).map (kindE cols vars)).map fun r => [pint r.1] := by
  rw [List.take_add_one, List.getElem?_eq_getElem h]
  simp only [List.map_append, Option.toList, List.map_cons, List.map_nil]

theorem kindAny {cols vars : List LCol} {args : List LExpr} {j : Nat} (h : j < args.length) : ((args.take (j + 1)).map (kindE cols vars)).any (·.2.1) = (((args.take j).map (kindE cols vars)).any (·.2.1) || (kindE cols vars args[j]).2.1) := by
  rw [List.take_add_one, List.getElem?_eq_getElem h]
  simp only [List.map_append, List.any_append, Option.toList, List.map_cons, List.map_nil, List.any_cons, List.any_nil, Bool.or_false]

set_option maxHeartbeats 4000000 in
theorem opKind_spec (cols vars : List LCol) (e : LExpr) (ih : ∀ a ∈ e.args, PFun Try.prog 43 [pcols cols, pcols vars, pexpr a] (pkr (kindE cols vars a))) :
    PFun Try.prog 51 [pcols cols, pcols vars, pexpr e] (pkr (opKindV e.name e.index e.value (e.args.map (kindE cols vars)))) := by
  rcases arity_of_idx e.name with ⟨hK, ha⟩ | ⟨ar, hK, hr, ha⟩
  · refine PCallsH.intro Try.func51 rfl Try.ntmps51 rfl ?_
    repeat' (first | (show AOps _ _ _ _ _; first | refine AOps.q tt_ok rfl ?_ | refine AOps.nil ?_ | refine AOps.loadBox tt_ok rfl rfl rfl rfl rfl rfl rfl ?_ | refine AOps.boxF rfl rfl rfl rfl rfl rfl ?_ | refine AOps.bsF tt_ok rfl rfl rfl rfl rfl rfl ?_ | (refine AOps.alloc tt_ok rfl rfl rfl rfl rfl rfl ?_; intro bk) | refine AOps.storeBox tt_ok rfl rfl rfl rfl rfl rfl rfl rfl rfl rfl rfl ?_ | refine AOps.callP (g := 44) rfl rfl rfl Try.call44 (PLeAll.refl _ _) (operators_spec) rfl ?_ | refine AOps.callP (g := 33) rfl rfl rfl Try.call33 (PLeAll.refl _ _) (indexStr _ _) rfl ?_ | ((fail_if_success refine AOps.decided rfl ?_); refine AOps.split rfl rfl rfl (fun h => ?_) (fun h => ?_))) | (show V _ _ _ _ _; first | refine V.seq ?_ | refine V.region ?_ | refine V.skip ?_ | refine V.condT rfl ?_ | refine V.condF rfl ?_ | refine V.block ?_ | refine V.blk ?_ | refine V.exit rfl ?_ | (show V _ _ _ (.code (.region 3 _ true) :: _) _; refine V.draw tt_ok mixed_ok false [0, 1, 2, 3, 4, 5, 6, 7, 8, 9, 10, 11, 12, 13, 14, 15, 16, 17, 18, 19, 20, 21, 22] rfl (by decide +kernel) rfl ?_) | refine V.cond rfl (fun h => ?_) (fun h => ?_)) | (show DOps _ _ _ _ _ _ _; first | refine DOps.q rfl ?_ | refine DOps.nil ?_ | refine DOps.alloc rfl rfl rfl rfl rfl rfl rfl rfl fun bk => ?_ | refine DOps.storeBox rfl rfl rfl rfl rfl rfl rfl rfl rfl rfl rfl rfl ?_ | refine DOps.loadBox rfl rfl rfl rfl rfl rfl rfl rfl rfl ?_ | refine DOps.callP (g := 44) rfl rfl rfl rfl Try.call44 (PLeAll.refl _ _) (operators_spec) rfl ?_ | refine DOps.callP (g := 33) rfl rfl rfl rfl Try.call33 (PLeAll.refl _ _) (indexStr _ _) rfl ?_ | ((fail_if_success refine DOps.decided rfl rfl ?_); refine DOps.split rfl rfl rfl rfl (fun h => ?_) (fun h => ?_))))
    all_goals try (exfalso; simp_all <;> omega; done)
    all_goals refine V.ret3 tt_ok rfl rfl rfl rfl (PLe.of_eq ?_)
    all_goals (have : opKindV e.name e.index e.value (e.args.map (kindE cols vars)) = badK 3 := by simp [opKindV, ha])
    all_goals (rw [this]; rfl)
  · refine PCallsH.intro Try.func51 rfl Try.ntmps51 rfl ?_
    repeat' (first | (show AOps _ _ _ _ _; first | refine AOps.q tt_ok rfl ?_ | refine AOps.nil ?_ | refine AOps.loadBox tt_ok rfl rfl rfl rfl rfl rfl rfl ?_ | refine AOps.boxF rfl rfl rfl rfl rfl rfl ?_ | refine AOps.bsF tt_ok rfl rfl rfl rfl rfl rfl ?_ | (refine AOps.alloc tt_ok rfl rfl rfl rfl rfl rfl ?_; intro bk) | refine AOps.storeBox tt_ok rfl rfl rfl rfl rfl rfl rfl rfl rfl rfl rfl ?_ | refine AOps.callP (g := 44) rfl rfl rfl Try.call44 (PLeAll.refl _ _) (operators_spec) rfl ?_ | refine AOps.callP (g := 33) rfl rfl rfl Try.call33 (PLeAll.refl _ _) (indexStr _ _) rfl ?_ | ((fail_if_success refine AOps.decided rfl ?_); refine AOps.split rfl rfl rfl (fun h => ?_) (fun h => ?_))) | (show V _ _ _ _ _; first | refine V.seq ?_ | refine V.region ?_ | refine V.skip ?_ | refine V.condT rfl ?_ | refine V.condF rfl ?_ | refine V.block ?_ | refine V.blk ?_ | refine V.exit rfl ?_ | (show V _ _ _ (.code (.region 3 _ true) :: _) _; refine V.draw tt_ok mixed_ok false [0, 1, 2, 3, 4, 5, 6, 7, 8, 9, 10, 11, 12, 13, 14, 15, 16, 17, 18, 19, 20, 21, 22] rfl (by decide +kernel) rfl ?_) | refine V.cond rfl (fun h => ?_) (fun h => ?_)) | (show DOps _ _ _ _ _ _ _; first | refine DOps.q rfl ?_ | refine DOps.nil ?_ | refine DOps.alloc rfl rfl rfl rfl rfl rfl rfl rfl fun bk => ?_ | refine DOps.storeBox rfl rfl rfl rfl rfl rfl rfl rfl rfl rfl rfl rfl ?_ | refine DOps.loadBox rfl rfl rfl rfl rfl rfl rfl rfl rfl ?_ | refine DOps.callP (g := 44) rfl rfl rfl rfl Try.call44 (PLeAll.refl _ _) (operators_spec) rfl ?_ | refine DOps.callP (g := 33) rfl rfl rfl rfl Try.call33 (PLeAll.refl _ _) (indexStr _ _) rfl ?_ | refine DOps.idx rfl rfl rfl rfl rfl rfl rfl hK hr rfl ?_ | ((fail_if_success refine DOps.decided rfl rfl ?_); refine DOps.split rfl rfl rfl rfl (fun h => ?_) (fun h => ?_))))
    all_goals try (exfalso; simp_all <;> omega; done)
    case inr.refine_2.refine_1 =>
      refine V.ret3 tt_ok rfl rfl rfl rfl (PLe.of_eq ?_)
      rw [opKindV, if_pos (.inl (by rw [ha]; simp at h ⊢; omega))]
      rfl
    case inr.refine_2.refine_2.refine_1 =>
      refine V.ret3 tt_ok rfl rfl rfl rfl (PLe.of_eq ?_)
      rw [opKindV, if_pos (.inr (.inl (by simpa using h)))]
      rfl
    case inr.refine_2.refine_2.refine_2.refine_1 =>
      refine V.ret3 tt_ok rfl rfl rfl rfl (PLe.of_eq ?_)
      rw [opKindV, if_pos (.inr (.inr (by intro hh; rw [hh] at h; simp [LVal.nul] at h)))]
      rfl
    rename_i h0 h1 h2
    have hlen : e.args.length = ar := by
      simp at h1
      omega
    have hgood : ¬ (arityOf e.name ≠ some (e.args.map (kindE cols vars)).length ∨ e.index ≠ 0 ∨ e.value ≠ .nul) := by
      rw [ha]
      rintro (h3 | h3 | h3)
      · simp [hlen] at h3
      · exact h3 (by simpa using h2)
      · apply h3
        cases hv : e.value
        rw [hv] at h
        simp at h
        simp [LVal.nul, h]
    rw [opKindV, if_neg hgood]
    refine V.lenF tt_ok 53 rfl rfl fun hl hby => ?_
    rw [List.length_map] at hl hby
    have hby' : e.args.length * 88 ≤ 2 ^ 47 := hby
    refine V.nilOB tt_ok 12 0 12 (e := 3) rfl rfl rfl rfl ?_
    refine V.loopF (X := Nat × OwnRef) (fun X => ⟨164, upd (upd (upd (upd (upd (upd (upd (upd (fun _ => .any) 13 (pbool (((e.args.take X.1).map (kindE cols vars)).any (·.2.1)))) 12 (.box 12 bk 0)) 5 (.ptr (encE e))) 1 (pcols vars)) 0 (pcols cols)) 53 (pexprs e.args)) 54 (pint (e.args.map encExpr).length)) 55 (pint X.1), upd (fun _ => none) 12 (some ⟨bk, [.own 12 X.2 (((e.args.take X.1).map (kindE cols vars)).map fun r => [pint r.1]).length]⟩), upd (fun _ => none) 12 (some ⟨X.2, 3, ((e.args.take X.1).map (kindE cols vars)).map fun r => [pint r.1], true⟩)⟩)
      (fun X => X.1 ≤ e.args.length ∧ ∀ x ∈ (e.args.map (kindE cols vars)).take X.1, (x.2.2 != 0) = false) (fun X => e.args.length - X.1) (0, ⟨none, 0⟩) ⟨Nat.zero_le _, by simp⟩ (Gh.le (SLe.cons (PLe.of_eq rfl) (SLe.cons (PLe.of_eq rfl) (SLe.cons (PLe.of_eq rfl) (SLe.cons (PLe.of_eq rfl) (SLe.cons (PLe.of_eq rfl) (SLe.cons (PLe.of_eq rfl) (SLe.cons (PLe.of_eq rfl) (SLe.cons (PLe.of_eq rfl) SLe.nil)))))))) (BLe.cons rfl (PLeAll.refl _ _) BLe.nil) (OLe.cons rfl OLe.nil)) ?_
    rintro ⟨j, g⟩ ⟨hj, hpre⟩
    replace hj : j ≤ e.args.length := hj
    replace hpre : ∀ x ∈ (e.args.map (kindE cols vars)).take j, (x.2.2 != 0) = false := hpre
    repeat (first | refine AOps.q tt_ok rfl ?_ | refine AOps.nil ?_ | refine V.seq ?_ | refine V.region ?_ | refine V.skip ?_ | refine V.condT rfl ?_ | refine V.condF rfl ?_ | refine V.block ?_ | refine V.blk ?_ | refine V.exit rfl ?_ | refine AOps.loadBox tt_ok rfl rfl rfl rfl rfl rfl rfl ?_ | refine AOps.boxF rfl rfl rfl rfl rfl rfl ?_ | refine AOps.bsF tt_ok rfl rfl rfl rfl rfl rfl ?_ | (refine AOps.alloc tt_ok rfl rfl rfl rfl rfl rfl ?_; intro bk) | refine AOps.storeBox tt_ok rfl rfl rfl rfl rfl rfl rfl rfl rfl rfl rfl ?_)
    refine V.cond rfl (fun h => ?_) (fun h => ?_)
    · have hlt : j < e.args.length := by simpa using h
      have hlt' : j < (e.args.map (kindE cols vars)).length := by simpa using hlt
      repeat (first | refine AOps.q tt_ok rfl ?_ | refine AOps.nil ?_ | refine V.seq ?_ | refine V.region ?_ | refine V.skip ?_ | refine V.condT rfl ?_ | refine V.condF rfl ?_ | refine V.block ?_ | refine V.blk ?_ | refine V.exit rfl ?_ | refine AOps.loadBox tt_ok rfl rfl rfl rfl rfl rfl rfl ?_ | refine AOps.boxF rfl rfl rfl rfl rfl rfl ?_ | refine AOps.bsF tt_ok rfl rfl rfl rfl rfl rfl ?_ | (refine AOps.alloc tt_ok rfl rfl rfl rfl rfl rfl ?_; intro bk) | refine AOps.storeBox tt_ok rfl rfl rfl rfl rfl rfl rfl rfl rfl rfl rfl ?_)
      refine AOps.idx tt_ok rfl rfl rfl rfl rfl rfl (Int.natCast_nonneg j) (getExpr hlt) rfl ?_
      repeat (first | refine AOps.q tt_ok rfl ?_ | refine AOps.nil ?_ | refine V.seq ?_ | refine V.region ?_ | refine V.skip ?_ | refine V.condT rfl ?_ | refine V.condF rfl ?_ | refine V.block ?_ | refine V.blk ?_ | refine V.exit rfl ?_ | refine AOps.loadBox tt_ok rfl rfl rfl rfl rfl rfl rfl ?_ | refine AOps.boxF rfl rfl rfl rfl rfl rfl ?_ | refine AOps.bsF tt_ok rfl rfl rfl rfl rfl rfl ?_ | (refine AOps.alloc tt_ok rfl rfl rfl rfl rfl rfl ?_; intro bk) | refine AOps.storeBox tt_ok rfl rfl rfl rfl rfl rfl rfl rfl rfl rfl rfl ?_)
      refine AOps.callP (g := 43) rfl rfl rfl Try.call43 (PLeAll.refl _ _) (ih _ (List.getElem_mem hlt)) rfl ?_
      repeat (first | refine AOps.q tt_ok rfl ?_ | refine AOps.nil ?_ | refine V.seq ?_ | refine V.region ?_ | refine V.skip ?_ | refine V.condT rfl ?_ | refine V.condF rfl ?_ | refine V.block ?_ | refine V.blk ?_ | refine V.exit rfl ?_ | refine AOps.loadBox tt_ok rfl rfl rfl rfl rfl rfl rfl ?_ | refine AOps.boxF rfl rfl rfl rfl rfl rfl ?_ | refine AOps.bsF tt_ok rfl rfl rfl rfl rfl rfl ?_ | (refine AOps.alloc tt_ok rfl rfl rfl rfl rfl rfl ?_; intro bk) | refine AOps.storeBox tt_ok rfl rfl rfl rfl rfl rfl rfl rfl rfl rfl rfl ?_)
      refine V.cond rfl (fun h => ?_) (fun h => ?_)
      · repeat (first | refine AOps.q tt_ok rfl ?_ | refine AOps.nil ?_ | refine V.seq ?_ | refine V.region ?_ | refine V.skip ?_ | refine V.condT rfl ?_ | refine V.condF rfl ?_ | refine V.block ?_ | refine V.blk ?_ | refine V.exit rfl ?_ | refine AOps.loadBox tt_ok rfl rfl rfl rfl rfl rfl rfl ?_ | refine AOps.boxF rfl rfl rfl rfl rfl rfl ?_ | refine AOps.bsF tt_ok rfl rfl rfl rfl rfl rfl ?_ | (refine AOps.alloc tt_ok rfl rfl rfl rfl rfl rfl ?_; intro bk) | refine AOps.storeBox tt_ok rfl rfl rfl rfl rfl rfl rfl rfl rfl rfl rfl ?_)
        refine V.ret3 tt_ok rfl rfl rfl rfl (PLe.of_eq ?_)
        rw [find_at hlt' hpre (by simpa using h), List.getElem_map]
        rfl
      · repeat (first | refine AOps.q tt_ok rfl ?_ | refine AOps.nil ?_ | refine V.seq ?_ | refine V.region ?_ | refine V.skip ?_ | refine V.condT rfl ?_ | refine V.condF rfl ?_ | refine V.block ?_ | refine V.blk ?_ | refine V.exit rfl ?_ | refine AOps.loadBox tt_ok rfl rfl rfl rfl rfl rfl rfl ?_ | refine AOps.boxF rfl rfl rfl rfl rfl rfl ?_ | refine AOps.bsF tt_ok rfl rfl rfl rfl rfl rfl ?_ | (refine AOps.alloc tt_ok rfl rfl rfl rfl rfl rfl ?_; intro bk) | refine AOps.storeBox tt_ok rfl rfl rfl rfl rfl rfl rfl rfl rfl rfl rfl ?_)
        refine AOps.appendO (rows2 := [[pint (kindE cols vars e.args[j]).1]]) tt_ok rfl rfl rfl rfl rfl rfl rfl rfl rfl rfl rfl rfl rfl ?_ ?_ fun g' => ?_
        · simp only [List.length_map, List.length_take, List.length_cons, List.length_nil]
          rw [Nat.min_eq_left hj]
          show (j + 1) * 8 ≤ 2 ^ 47
          omega
        · simp only [List.length_map, List.length_take, List.length_cons, List.length_nil]
          omega
        repeat (first | refine AOps.q tt_ok rfl ?_ | refine AOps.nil ?_ | refine V.seq ?_ | refine V.region ?_ | refine V.skip ?_ | refine V.condT rfl ?_ | refine V.condF rfl ?_ | refine V.block ?_ | refine V.blk ?_ | refine V.exit rfl ?_ | refine AOps.loadBox tt_ok rfl rfl rfl rfl rfl rfl rfl ?_ | refine AOps.boxF rfl rfl rfl rfl rfl rfl ?_ | refine AOps.bsF tt_ok rfl rfl rfl rfl rfl rfl ?_ | (refine AOps.alloc tt_ok rfl rfl rfl rfl rfl rfl ?_; intro bk) | refine AOps.storeBox tt_ok rfl rfl rfl rfl rfl rfl rfl rfl rfl rfl rfl ?_)
        have hpre' : ∀ x ∈ (e.args.map (kindE cols vars)).take (j + 1), (x.2.2 != 0) = false := pre_succ (p := fun x : KR => x.2.2 != 0) hlt' hpre (by rw [List.getElem_map]; exact h)
        have hany := kindAny (cols := cols) (vars := vars) hlt
        refine AOps.split rfl rfl rfl (fun hn => ?_) (fun hn => ?_)
        · repeat (first | refine AOps.q tt_ok rfl ?_ | refine AOps.nil ?_ | refine V.seq ?_ | refine V.region ?_ | refine V.skip ?_ | refine V.condT rfl ?_ | refine V.condF rfl ?_ | refine V.block ?_ | refine V.blk ?_ | refine V.exit rfl ?_ | refine AOps.loadBox tt_ok rfl rfl rfl rfl rfl rfl rfl ?_ | refine AOps.boxF rfl rfl rfl rfl rfl rfl ?_ | refine AOps.bsF tt_ok rfl rfl rfl rfl rfl rfl ?_ | (refine AOps.alloc tt_ok rfl rfl rfl rfl rfl rfl ?_; intro bk) | refine AOps.storeBox tt_ok rfl rfl rfl rfl rfl rfl rfl rfl rfl rfl rfl ?_)
          rw [kindRows hlt]
          refine V.again (j + 1, g') ?_ ⟨hlt, hpre'⟩ (Gh.le (SLe.cons (PLe.of_eq (pint_succ (by omega))) (SLe.cons (PLe.of_eq rfl) (SLe.cons (PLe.of_eq rfl) (SLe.cons (PLe.of_eq rfl) (SLe.cons (PLe.of_eq rfl) (SLe.cons (PLe.of_eq rfl) (SLe.cons (PLe.of_eq rfl) (SLe.cons (PLe.of_eq (by rw [hany, hn]; rfl)) SLe.nil)))))))) (BLe.cons rfl (PLeAll.refl _ _) BLe.nil) (OLe.cons rfl OLe.nil))
          show e.args.length - (j + 1) < e.args.length - j
          omega
        · repeat (first | refine AOps.q tt_ok rfl ?_ | refine AOps.nil ?_ | refine V.seq ?_ | refine V.region ?_ | refine V.skip ?_ | refine V.condT rfl ?_ | refine V.condF rfl ?_ | refine V.block ?_ | refine V.blk ?_ | refine V.exit rfl ?_ | refine AOps.loadBox tt_ok rfl rfl rfl rfl rfl rfl rfl ?_ | refine AOps.boxF rfl rfl rfl rfl rfl rfl ?_ | refine AOps.bsF tt_ok rfl rfl rfl rfl rfl rfl ?_ | (refine AOps.alloc tt_ok rfl rfl rfl rfl rfl rfl ?_; intro bk) | refine AOps.storeBox tt_ok rfl rfl rfl rfl rfl rfl rfl rfl rfl rfl rfl ?_)
          rw [kindRows hlt]
          refine V.again (j + 1, g') ?_ ⟨hlt, hpre'⟩ (Gh.le (SLe.cons (PLe.of_eq (pint_succ (by omega))) (SLe.cons (PLe.of_eq rfl) (SLe.cons (PLe.of_eq rfl) (SLe.cons (PLe.of_eq rfl) (SLe.cons (PLe.of_eq rfl) (SLe.cons (PLe.of_eq rfl) (SLe.cons (PLe.of_eq rfl) (SLe.cons (PLe.of_eq (by rw [hany, hn]; rfl)) SLe.nil)))))))) (BLe.cons rfl (PLeAll.refl _ _) BLe.nil) (OLe.cons rfl OLe.nil))
          show e.args.length - (j + 1) < e.args.length - j
          omega
    have hge : j = e.args.length := by have : ¬ j < e.args.length := by simpa using h
                                       omega
    subst hge
    refine V.freezeOB 12 0 rfl rfl rfl rfl rfl ?_
    refine V.freezeB 12 rfl rfl rfl rfl ?_
    have hks : (e.args.map (kindE cols vars)).find? (fun r => r.2.2 != 0) = none := by
      rw [List.find?_eq_none]
      intro x hx
      have := hpre x (by rw [List.take_of_length_le (by simp)]; exact hx)
      simp [this]
    rw [hks]
    simp only [List.take_length]
    have hlk : (e.args.map (kindE cols vars)).length = ar := by simp [hlen]
    generalize e.args.map (kindE cols vars) = KS at hlk
    refine V.gh (st' := ⟨164, upd (upd (upd (fun _ => .any) 13 (pbool (KS.any (·.2.1)))) 12 (.ptr [pints (KS.map (·.1))])) 5 (.ptr [pint e.kind, .str e.name, pint e.index, pint e.value.kind, pint e.value.int, .str e.value.text, pexprs e.args]), fun _ => none, fun _ => none⟩) (Gh.le (SLe.cons (PLe.of_eq rfl) (SLe.cons (PLe.of_eq (show PV.ptr [.list 3 (KS.map fun r => [pint r.1])] = _ from by simp)) (SLe.cons (PLe.of_eq rfl) SLe.nil))) BLe.nil OLe.nil) ?_
    replace hlk : (KS.map (·.1)).length = ar := by simpa using hlk
    generalize KS.map (·.1) = kinds at hlk
    generalize KS.any (·.2.1) = nl
    generalize e.name = name at ha
    clear hpre hks hgood h0 h1 h2 h hr hK ih hlen
    by_cases hn : name ∈ opNames
    · simp only [opNames, List.mem_cons, List.mem_nil_iff, or_false] at hn
      rcases hn with rfl | rfl | rfl | rfl | rfl | rfl | rfl | rfl | rfl | rfl | rfl | rfl | rfl
      · have har : ar = 2 := by have : some 2 = some ar := ha; exact (Option.some.inj this).symm
        subst har
        obtain ⟨a, b, rfl⟩ := len2 hlk
        repeat' (first | (show AOps _ _ _ _ _; first | refine AOps.q tt_ok rfl ?_ | refine AOps.nil ?_ | refine AOps.loadBox tt_ok rfl rfl rfl rfl rfl rfl rfl ?_ | refine AOps.boxF rfl rfl rfl rfl rfl rfl ?_ | refine AOps.bsF tt_ok rfl rfl rfl rfl rfl rfl ?_ | (refine AOps.alloc tt_ok rfl rfl rfl rfl rfl rfl ?_; intro bk) | refine AOps.storeBox tt_ok rfl rfl rfl rfl rfl rfl rfl rfl rfl rfl rfl ?_ | refine AOps.callP (g := 59) rfl rfl rfl Try.call59 (PLeAll.refl _ _) (allOf_spec _ _) rfl ?_ | refine AOps.callP (g := 62) rfl rfl rfl Try.call62 (PLeAll.refl _ _) (alike_spec _ _) rfl ?_ | refine AOps.callP (g := 63) rfl rfl rfl Try.call63 (PLeAll.refl _ _) (typedV_spec _ _ _) rfl ?_ | ((fail_if_success refine AOps.decided rfl ?_); refine AOps.split rfl rfl rfl (fun h => ?_) (fun h => ?_))) | (show V _ _ _ _ _; first | refine V.seq ?_ | refine V.region ?_ | refine V.skip ?_ | refine V.condT rfl ?_ | refine V.condF rfl ?_ | refine V.block ?_ | refine V.blk ?_ | refine V.exit rfl ?_ | (show V _ _ _ (.code (.region 33 _ true) :: _) _; refine V.draw tt_ok mixed_ok false [0, 1, 2, 3, 4, 5, 6, 7, 8, 9, 10, 11, 12, 13, 14, 15, 16, 17, 18, 19, 20, 21, 22, 23, 24, 25, 26, 27, 28, 29] rfl (by decide +kernel) rfl ?_) | (show V _ _ _ (.code (.region 34 _ true) :: _) _; refine V.draw tt_ok mixed_ok false [0, 1, 2, 3, 4, 5, 6, 7, 8, 9, 10, 11, 12, 13, 14, 15] rfl (by decide +kernel) rfl ?_) | refine V.cond rfl (fun h => ?_) (fun h => ?_)) | (show DOps _ _ _ _ _ _ _; first | refine DOps.q rfl ?_ | refine DOps.nil ?_ | refine DOps.alloc rfl rfl rfl rfl rfl rfl rfl rfl fun bk => ?_ | refine DOps.storeBox rfl rfl rfl rfl rfl rfl rfl rfl rfl rfl rfl rfl ?_ | refine DOps.loadBox rfl rfl rfl rfl rfl rfl rfl rfl rfl ?_ | refine DOps.callP (g := 59) rfl rfl rfl rfl Try.call59 (PLeAll.refl _ _) (allOf_spec _ _) rfl ?_ | refine DOps.callP (g := 62) rfl rfl rfl rfl Try.call62 (PLeAll.refl _ _) (alike_spec _ _) rfl ?_ | refine DOps.callP (g := 63) rfl rfl rfl rfl Try.call63 (PLeAll.refl _ _) (typedV_spec _ _ _) rfl ?_ | ((fail_if_success refine DOps.decided rfl rfl ?_); refine DOps.split rfl rfl rfl rfl (fun h => ?_) (fun h => ?_))))
        all_goals refine V.ret3 tt_ok rfl rfl rfl rfl (PLe.of_eq ?_)
        all_goals simp_all [opTyped]
      · have har : ar = 2 := by have : some 2 = some ar := ha; exact (Option.some.inj this).symm
        subst har
        obtain ⟨a, b, rfl⟩ := len2 hlk
        repeat' (first | (show AOps _ _ _ _ _; first | refine AOps.q tt_ok rfl ?_ | refine AOps.nil ?_ | refine AOps.loadBox tt_ok rfl rfl rfl rfl rfl rfl rfl ?_ | refine AOps.boxF rfl rfl rfl rfl rfl rfl ?_ | refine AOps.bsF tt_ok rfl rfl rfl rfl rfl rfl ?_ | (refine AOps.alloc tt_ok rfl rfl rfl rfl rfl rfl ?_; intro bk) | refine AOps.storeBox tt_ok rfl rfl rfl rfl rfl rfl rfl rfl rfl rfl rfl ?_ | refine AOps.callP (g := 59) rfl rfl rfl Try.call59 (PLeAll.refl _ _) (allOf_spec _ _) rfl ?_ | refine AOps.callP (g := 62) rfl rfl rfl Try.call62 (PLeAll.refl _ _) (alike_spec _ _) rfl ?_ | refine AOps.callP (g := 63) rfl rfl rfl Try.call63 (PLeAll.refl _ _) (typedV_spec _ _ _) rfl ?_ | ((fail_if_success refine AOps.decided rfl ?_); refine AOps.split rfl rfl rfl (fun h => ?_) (fun h => ?_))) | (show V _ _ _ _ _; first | refine V.seq ?_ | refine V.region ?_ | refine V.skip ?_ | refine V.condT rfl ?_ | refine V.condF rfl ?_ | refine V.block ?_ | refine V.blk ?_ | refine V.exit rfl ?_ | (show V _ _ _ (.code (.region 33 _ true) :: _) _; refine V.draw tt_ok mixed_ok false [0, 1, 2, 3, 4, 5, 6, 7, 8, 9, 10, 11, 12, 13, 14, 15, 16, 17, 18, 19, 20, 21, 22, 23, 24, 25, 26, 27, 28, 29] rfl (by decide +kernel) rfl ?_) | (show V _ _ _ (.code (.region 34 _ true) :: _) _; refine V.draw tt_ok mixed_ok false [0, 1, 2, 3, 4, 5, 6, 7, 8, 9, 10, 11, 12, 13, 14, 15] rfl (by decide +kernel) rfl ?_) | refine V.cond rfl (fun h => ?_) (fun h => ?_)) | (show DOps _ _ _ _ _ _ _; first | refine DOps.q rfl ?_ | refine DOps.nil ?_ | refine DOps.alloc rfl rfl rfl rfl rfl rfl rfl rfl fun bk => ?_ | refine DOps.storeBox rfl rfl rfl rfl rfl rfl rfl rfl rfl rfl rfl rfl ?_ | refine DOps.loadBox rfl rfl rfl rfl rfl rfl rfl rfl rfl ?_ | refine DOps.callP (g := 59) rfl rfl rfl rfl Try.call59 (PLeAll.refl _ _) (allOf_spec _ _) rfl ?_ | refine DOps.callP (g := 62) rfl rfl rfl rfl Try.call62 (PLeAll.refl _ _) (alike_spec _ _) rfl ?_ | refine DOps.callP (g := 63) rfl rfl rfl rfl Try.call63 (PLeAll.refl _ _) (typedV_spec _ _ _) rfl ?_ | ((fail_if_success refine DOps.decided rfl rfl ?_); refine DOps.split rfl rfl rfl rfl (fun h => ?_) (fun h => ?_))))
        all_goals refine V.ret3 tt_ok rfl rfl rfl rfl (PLe.of_eq ?_)
        all_goals simp_all [opTyped]
      · have har : ar = 2 := by have : some 2 = some ar := ha; exact (Option.some.inj this).symm
        subst har
        obtain ⟨a, b, rfl⟩ := len2 hlk
        repeat' (first | (show AOps _ _ _ _ _; first | refine AOps.q tt_ok rfl ?_ | refine AOps.nil ?_ | refine AOps.loadBox tt_ok rfl rfl rfl rfl rfl rfl rfl ?_ | refine AOps.boxF rfl rfl rfl rfl rfl rfl ?_ | refine AOps.bsF tt_ok rfl rfl rfl rfl rfl rfl ?_ | (refine AOps.alloc tt_ok rfl rfl rfl rfl rfl rfl ?_; intro bk) | refine AOps.storeBox tt_ok rfl rfl rfl rfl rfl rfl rfl rfl rfl rfl rfl ?_ | refine AOps.callP (g := 59) rfl rfl rfl Try.call59 (PLeAll.refl _ _) (allOf_spec _ _) rfl ?_ | refine AOps.callP (g := 62) rfl rfl rfl Try.call62 (PLeAll.refl _ _) (alike_spec _ _) rfl ?_ | refine AOps.callP (g := 63) rfl rfl rfl Try.call63 (PLeAll.refl _ _) (typedV_spec _ _ _) rfl ?_ | ((fail_if_success refine AOps.decided rfl ?_); refine AOps.split rfl rfl rfl (fun h => ?_) (fun h => ?_))) | (show V _ _ _ _ _; first | refine V.seq ?_ | refine V.region ?_ | refine V.skip ?_ | refine V.condT rfl ?_ | refine V.condF rfl ?_ | refine V.block ?_ | refine V.blk ?_ | refine V.exit rfl ?_ | (show V _ _ _ (.code (.region 33 _ true) :: _) _; refine V.draw tt_ok mixed_ok false [0, 1, 2, 3, 4, 5, 6, 7, 8, 9, 10, 11, 12, 13, 14, 15, 16, 17, 18, 19, 20, 21, 22, 23, 24, 25, 26, 27, 28, 29] rfl (by decide +kernel) rfl ?_) | (show V _ _ _ (.code (.region 34 _ true) :: _) _; refine V.draw tt_ok mixed_ok false [0, 1, 2, 3, 4, 5, 6, 7, 8, 9, 10, 11, 12, 13, 14, 15] rfl (by decide +kernel) rfl ?_) | refine V.cond rfl (fun h => ?_) (fun h => ?_)) | (show DOps _ _ _ _ _ _ _; first | refine DOps.q rfl ?_ | refine DOps.nil ?_ | refine DOps.alloc rfl rfl rfl rfl rfl rfl rfl rfl fun bk => ?_ | refine DOps.storeBox rfl rfl rfl rfl rfl rfl rfl rfl rfl rfl rfl rfl ?_ | refine DOps.loadBox rfl rfl rfl rfl rfl rfl rfl rfl rfl ?_ | refine DOps.callP (g := 59) rfl rfl rfl rfl Try.call59 (PLeAll.refl _ _) (allOf_spec _ _) rfl ?_ | refine DOps.callP (g := 62) rfl rfl rfl rfl Try.call62 (PLeAll.refl _ _) (alike_spec _ _) rfl ?_ | refine DOps.callP (g := 63) rfl rfl rfl rfl Try.call63 (PLeAll.refl _ _) (typedV_spec _ _ _) rfl ?_ | ((fail_if_success refine DOps.decided rfl rfl ?_); refine DOps.split rfl rfl rfl rfl (fun h => ?_) (fun h => ?_))))
        all_goals refine V.ret3 tt_ok rfl rfl rfl rfl (PLe.of_eq ?_)
        all_goals simp_all [opTyped]
      · have har : ar = 2 := by have : some 2 = some ar := ha; exact (Option.some.inj this).symm
        subst har
        obtain ⟨a, b, rfl⟩ := len2 hlk
        repeat' (first | (show AOps _ _ _ _ _; first | refine AOps.q tt_ok rfl ?_ | refine AOps.nil ?_ | refine AOps.loadBox tt_ok rfl rfl rfl rfl rfl rfl rfl ?_ | refine AOps.boxF rfl rfl rfl rfl rfl rfl ?_ | refine AOps.bsF tt_ok rfl rfl rfl rfl rfl rfl ?_ | (refine AOps.alloc tt_ok rfl rfl rfl rfl rfl rfl ?_; intro bk) | refine AOps.storeBox tt_ok rfl rfl rfl rfl rfl rfl rfl rfl rfl rfl rfl ?_ | refine AOps.callP (g := 59) rfl rfl rfl Try.call59 (PLeAll.refl _ _) (allOf_spec _ _) rfl ?_ | refine AOps.callP (g := 62) rfl rfl rfl Try.call62 (PLeAll.refl _ _) (alike_spec _ _) rfl ?_ | refine AOps.callP (g := 63) rfl rfl rfl Try.call63 (PLeAll.refl _ _) (typedV_spec _ _ _) rfl ?_ | ((fail_if_success refine AOps.decided rfl ?_); refine AOps.split rfl rfl rfl (fun h => ?_) (fun h => ?_))) | (show V _ _ _ _ _; first | refine V.seq ?_ | refine V.region ?_ | refine V.skip ?_ | refine V.condT rfl ?_ | refine V.condF rfl ?_ | refine V.block ?_ | refine V.blk ?_ | refine V.exit rfl ?_ | (show V _ _ _ (.code (.region 33 _ true) :: _) _; refine V.draw tt_ok mixed_ok false [0, 1, 2, 3, 4, 5, 6, 7, 8, 9, 10, 11, 12, 13, 14, 15, 16, 17, 18, 19, 20, 21, 22, 23, 24, 25, 26, 27, 28, 29] rfl (by decide +kernel) rfl ?_) | (show V _ _ _ (.code (.region 34 _ true) :: _) _; refine V.draw tt_ok mixed_ok false [0, 1, 2, 3, 4, 5, 6, 7, 8, 9, 10, 11, 12, 13, 14, 15] rfl (by decide +kernel) rfl ?_) | refine V.cond rfl (fun h => ?_) (fun h => ?_)) | (show DOps _ _ _ _ _ _ _; first | refine DOps.q rfl ?_ | refine DOps.nil ?_ | refine DOps.alloc rfl rfl rfl rfl rfl rfl rfl rfl fun bk => ?_ | refine DOps.storeBox rfl rfl rfl rfl rfl rfl rfl rfl rfl rfl rfl rfl ?_ | refine DOps.loadBox rfl rfl rfl rfl rfl rfl rfl rfl rfl ?_ | refine DOps.callP (g := 59) rfl rfl rfl rfl Try.call59 (PLeAll.refl _ _) (allOf_spec _ _) rfl ?_ | refine DOps.callP (g := 62) rfl rfl rfl rfl Try.call62 (PLeAll.refl _ _) (alike_spec _ _) rfl ?_ | refine DOps.callP (g := 63) rfl rfl rfl rfl Try.call63 (PLeAll.refl _ _) (typedV_spec _ _ _) rfl ?_ | ((fail_if_success refine DOps.decided rfl rfl ?_); refine DOps.split rfl rfl rfl rfl (fun h => ?_) (fun h => ?_))))
        all_goals refine V.ret3 tt_ok rfl rfl rfl rfl (PLe.of_eq ?_)
        all_goals simp_all [opTyped]
      · have har : ar = 2 := by have : some 2 = some ar := ha; exact (Option.some.inj this).symm
        subst har
        obtain ⟨a, b, rfl⟩ := len2 hlk
        repeat' (first | (show AOps _ _ _ _ _; first | refine AOps.q tt_ok rfl ?_ | refine AOps.nil ?_ | refine AOps.loadBox tt_ok rfl rfl rfl rfl rfl rfl rfl ?_ | refine AOps.boxF rfl rfl rfl rfl rfl rfl ?_ | refine AOps.bsF tt_ok rfl rfl rfl rfl rfl rfl ?_ | (refine AOps.alloc tt_ok rfl rfl rfl rfl rfl rfl ?_; intro bk) | refine AOps.storeBox tt_ok rfl rfl rfl rfl rfl rfl rfl rfl rfl rfl rfl ?_ | refine AOps.callP (g := 59) rfl rfl rfl Try.call59 (PLeAll.refl _ _) (allOf_spec _ _) rfl ?_ | refine AOps.callP (g := 62) rfl rfl rfl Try.call62 (PLeAll.refl _ _) (alike_spec _ _) rfl ?_ | refine AOps.callP (g := 63) rfl rfl rfl Try.call63 (PLeAll.refl _ _) (typedV_spec _ _ _) rfl ?_ | ((fail_if_success refine AOps.decided rfl ?_); refine AOps.split rfl rfl rfl (fun h => ?_) (fun h => ?_))) | (show V _ _ _ _ _; first | refine V.seq ?_ | refine V.region ?_ | refine V.skip ?_ | refine V.condT rfl ?_ | refine V.condF rfl ?_ | refine V.block ?_ | refine V.blk ?_ | refine V.exit rfl ?_ | (show V _ _ _ (.code (.region 33 _ true) :: _) _; refine V.draw tt_ok mixed_ok false [0, 1, 2, 3, 4, 5, 6, 7, 8, 9, 10, 11, 12, 13, 14, 15, 16, 17, 18, 19, 20, 21, 22, 23, 24, 25, 26, 27, 28, 29] rfl (by decide +kernel) rfl ?_) | (show V _ _ _ (.code (.region 34 _ true) :: _) _; refine V.draw tt_ok mixed_ok false [0, 1, 2, 3, 4, 5, 6, 7, 8, 9, 10, 11, 12, 13, 14, 15] rfl (by decide +kernel) rfl ?_) | refine V.cond rfl (fun h => ?_) (fun h => ?_)) | (show DOps _ _ _ _ _ _ _; first | refine DOps.q rfl ?_ | refine DOps.nil ?_ | refine DOps.alloc rfl rfl rfl rfl rfl rfl rfl rfl fun bk => ?_ | refine DOps.storeBox rfl rfl rfl rfl rfl rfl rfl rfl rfl rfl rfl rfl ?_ | refine DOps.loadBox rfl rfl rfl rfl rfl rfl rfl rfl rfl ?_ | refine DOps.callP (g := 59) rfl rfl rfl rfl Try.call59 (PLeAll.refl _ _) (allOf_spec _ _) rfl ?_ | refine DOps.callP (g := 62) rfl rfl rfl rfl Try.call62 (PLeAll.refl _ _) (alike_spec _ _) rfl ?_ | refine DOps.callP (g := 63) rfl rfl rfl rfl Try.call63 (PLeAll.refl _ _) (typedV_spec _ _ _) rfl ?_ | ((fail_if_success refine DOps.decided rfl rfl ?_); refine DOps.split rfl rfl rfl rfl (fun h => ?_) (fun h => ?_))))
        all_goals refine V.ret3 tt_ok rfl rfl rfl rfl (PLe.of_eq ?_)
        all_goals simp_all [opTyped]
      · have har : ar = 2 := by have : some 2 = some ar := ha; exact (Option.some.inj this).symm
        subst har
        obtain ⟨a, b, rfl⟩ := len2 hlk
        repeat' (first | (show AOps _ _ _ _ _; first | refine AOps.q tt_ok rfl ?_ | refine AOps.nil ?_ | refine AOps.loadBox tt_ok rfl rfl rfl rfl rfl rfl rfl ?_ | refine AOps.boxF rfl rfl rfl rfl rfl rfl ?_ | refine AOps.bsF tt_ok rfl rfl rfl rfl rfl rfl ?_ | (refine AOps.alloc tt_ok rfl rfl rfl rfl rfl rfl ?_; intro bk) | refine AOps.storeBox tt_ok rfl rfl rfl rfl rfl rfl rfl rfl rfl rfl rfl ?_ | refine AOps.callP (g := 59) rfl rfl rfl Try.call59 (PLeAll.refl _ _) (allOf_spec _ _) rfl ?_ | refine AOps.callP (g := 62) rfl rfl rfl Try.call62 (PLeAll.refl _ _) (alike_spec _ _) rfl ?_ | refine AOps.callP (g := 63) rfl rfl rfl Try.call63 (PLeAll.refl _ _) (typedV_spec _ _ _) rfl ?_ | ((fail_if_success refine AOps.decided rfl ?_); refine AOps.split rfl rfl rfl (fun h => ?_) (fun h => ?_))) | (show V _ _ _ _ _; first | refine V.seq ?_ | refine V.region ?_ | refine V.skip ?_ | refine V.condT rfl ?_ | refine V.condF rfl ?_ | refine V.block ?_ | refine V.blk ?_ | refine V.exit rfl ?_ | (show V _ _ _ (.code (.region 33 _ true) :: _) _; refine V.draw tt_ok mixed_ok false [0, 1, 2, 3, 4, 5, 6, 7, 8, 9, 10, 11, 12, 13, 14, 15, 16, 17, 18, 19, 20, 21, 22, 23, 24, 25, 26, 27, 28, 29] rfl (by decide +kernel) rfl ?_) | (show V _ _ _ (.code (.region 34 _ true) :: _) _; refine V.draw tt_ok mixed_ok false [0, 1, 2, 3, 4, 5, 6, 7, 8, 9, 10, 11, 12, 13, 14, 15] rfl (by decide +kernel) rfl ?_) | refine V.cond rfl (fun h => ?_) (fun h => ?_)) | (show DOps _ _ _ _ _ _ _; first | refine DOps.q rfl ?_ | refine DOps.nil ?_ | refine DOps.alloc rfl rfl rfl rfl rfl rfl rfl rfl fun bk => ?_ | refine DOps.storeBox rfl rfl rfl rfl rfl rfl rfl rfl rfl rfl rfl rfl ?_ | refine DOps.loadBox rfl rfl rfl rfl rfl rfl rfl rfl rfl ?_ | refine DOps.callP (g := 59) rfl rfl rfl rfl Try.call59 (PLeAll.refl _ _) (allOf_spec _ _) rfl ?_ | refine DOps.callP (g := 62) rfl rfl rfl rfl Try.call62 (PLeAll.refl _ _) (alike_spec _ _) rfl ?_ | refine DOps.callP (g := 63) rfl rfl rfl rfl Try.call63 (PLeAll.refl _ _) (typedV_spec _ _ _) rfl ?_ | ((fail_if_success refine DOps.decided rfl rfl ?_); refine DOps.split rfl rfl rfl rfl (fun h => ?_) (fun h => ?_))))
        all_goals refine V.ret3 tt_ok rfl rfl rfl rfl (PLe.of_eq ?_)
        all_goals simp_all [opTyped]
      · have har : ar = 2 := by have : some 2 = some ar := ha; exact (Option.some.inj this).symm
        subst har
        obtain ⟨a, b, rfl⟩ := len2 hlk
        repeat' (first | (show AOps _ _ _ _ _; first | refine AOps.q tt_ok rfl ?_ | refine AOps.nil ?_ | refine AOps.loadBox tt_ok rfl rfl rfl rfl rfl rfl rfl ?_ | refine AOps.boxF rfl rfl rfl rfl rfl rfl ?_ | refine AOps.bsF tt_ok rfl rfl rfl rfl rfl rfl ?_ | (refine AOps.alloc tt_ok rfl rfl rfl rfl rfl rfl ?_; intro bk) | refine AOps.storeBox tt_ok rfl rfl rfl rfl rfl rfl rfl rfl rfl rfl rfl ?_ | refine AOps.callP (g := 59) rfl rfl rfl Try.call59 (PLeAll.refl _ _) (allOf_spec _ _) rfl ?_ | refine AOps.callP (g := 62) rfl rfl rfl Try.call62 (PLeAll.refl _ _) (alike_spec _ _) rfl ?_ | refine AOps.callP (g := 63) rfl rfl rfl Try.call63 (PLeAll.refl _ _) (typedV_spec _ _ _) rfl ?_ | ((fail_if_success refine AOps.decided rfl ?_); refine AOps.split rfl rfl rfl (fun h => ?_) (fun h => ?_))) | (show V _ _ _ _ _; first | refine V.seq ?_ | refine V.region ?_ | refine V.skip ?_ | refine V.condT rfl ?_ | refine V.condF rfl ?_ | refine V.block ?_ | refine V.blk ?_ | refine V.exit rfl ?_ | (show V _ _ _ (.code (.region 33 _ true) :: _) _; refine V.draw tt_ok mixed_ok false [0, 1, 2, 3, 4, 5, 6, 7, 8, 9, 10, 11, 12, 13, 14, 15, 16, 17, 18, 19, 20, 21, 22, 23, 24, 25, 26, 27, 28, 29] rfl (by decide +kernel) rfl ?_) | (show V _ _ _ (.code (.region 34 _ true) :: _) _; refine V.draw tt_ok mixed_ok false [0, 1, 2, 3, 4, 5, 6, 7, 8, 9, 10, 11, 12, 13, 14, 15] rfl (by decide +kernel) rfl ?_) | refine V.cond rfl (fun h => ?_) (fun h => ?_)) | (show DOps _ _ _ _ _ _ _; first | refine DOps.q rfl ?_ | refine DOps.nil ?_ | refine DOps.alloc rfl rfl rfl rfl rfl rfl rfl rfl fun bk => ?_ | refine DOps.storeBox rfl rfl rfl rfl rfl rfl rfl rfl rfl rfl rfl rfl ?_ | refine DOps.loadBox rfl rfl rfl rfl rfl rfl rfl rfl rfl ?_ | refine DOps.callP (g := 59) rfl rfl rfl rfl Try.call59 (PLeAll.refl _ _) (allOf_spec _ _) rfl ?_ | refine DOps.callP (g := 62) rfl rfl rfl rfl Try.call62 (PLeAll.refl _ _) (alike_spec _ _) rfl ?_ | refine DOps.callP (g := 63) rfl rfl rfl rfl Try.call63 (PLeAll.refl _ _) (typedV_spec _ _ _) rfl ?_ | ((fail_if_success refine DOps.decided rfl rfl ?_); refine DOps.split rfl rfl rfl rfl (fun h => ?_) (fun h => ?_))))
        all_goals refine V.ret3 tt_ok rfl rfl rfl rfl (PLe.of_eq ?_)
        all_goals simp_all [opTyped]
      · have har : ar = 2 := by have : some 2 = some ar := ha; exact (Option.some.inj this).symm
        subst har
        obtain ⟨a, b, rfl⟩ := len2 hlk
        repeat' (first | (show AOps _ _ _ _ _; first | refine AOps.q tt_ok rfl ?_ | refine AOps.nil ?_ | refine AOps.loadBox tt_ok rfl rfl rfl rfl rfl rfl rfl ?_ | refine AOps.boxF rfl rfl rfl rfl rfl rfl ?_ | refine AOps.bsF tt_ok rfl rfl rfl rfl rfl rfl ?_ | (refine AOps.alloc tt_ok rfl rfl rfl rfl rfl rfl ?_; intro bk) | refine AOps.storeBox tt_ok rfl rfl rfl rfl rfl rfl rfl rfl rfl rfl rfl ?_ | refine AOps.callP (g := 59) rfl rfl rfl Try.call59 (PLeAll.refl _ _) (allOf_spec _ _) rfl ?_ | refine AOps.callP (g := 62) rfl rfl rfl Try.call62 (PLeAll.refl _ _) (alike_spec _ _) rfl ?_ | refine AOps.callP (g := 63) rfl rfl rfl Try.call63 (PLeAll.refl _ _) (typedV_spec _ _ _) rfl ?_ | ((fail_if_success refine AOps.decided rfl ?_); refine AOps.split rfl rfl rfl (fun h => ?_) (fun h => ?_))) | (show V _ _ _ _ _; first | refine V.seq ?_ | refine V.region ?_ | refine V.skip ?_ | refine V.condT rfl ?_ | refine V.condF rfl ?_ | refine V.block ?_ | refine V.blk ?_ | refine V.exit rfl ?_ | (show V _ _ _ (.code (.region 33 _ true) :: _) _; refine V.draw tt_ok mixed_ok false [0, 1, 2, 3, 4, 5, 6, 7, 8, 9, 10, 11, 12, 13, 14, 15, 16, 17, 18, 19, 20, 21, 22, 23, 24, 25, 26, 27, 28, 29] rfl (by decide +kernel) rfl ?_) | (show V _ _ _ (.code (.region 34 _ true) :: _) _; refine V.draw tt_ok mixed_ok false [0, 1, 2, 3, 4, 5, 6, 7, 8, 9, 10, 11, 12, 13, 14, 15] rfl (by decide +kernel) rfl ?_) | refine V.cond rfl (fun h => ?_) (fun h => ?_)) | (show DOps _ _ _ _ _ _ _; first | refine DOps.q rfl ?_ | refine DOps.nil ?_ | refine DOps.alloc rfl rfl rfl rfl rfl rfl rfl rfl fun bk => ?_ | refine DOps.storeBox rfl rfl rfl rfl rfl rfl rfl rfl rfl rfl rfl rfl ?_ | refine DOps.loadBox rfl rfl rfl rfl rfl rfl rfl rfl rfl ?_ | refine DOps.callP (g := 59) rfl rfl rfl rfl Try.call59 (PLeAll.refl _ _) (allOf_spec _ _) rfl ?_ | refine DOps.callP (g := 62) rfl rfl rfl rfl Try.call62 (PLeAll.refl _ _) (alike_spec _ _) rfl ?_ | refine DOps.callP (g := 63) rfl rfl rfl rfl Try.call63 (PLeAll.refl _ _) (typedV_spec _ _ _) rfl ?_ | ((fail_if_success refine DOps.decided rfl rfl ?_); refine DOps.split rfl rfl rfl rfl (fun h => ?_) (fun h => ?_))))
        all_goals refine V.ret3 tt_ok rfl rfl rfl rfl (PLe.of_eq ?_)
        all_goals simp_all [opTyped]
      · have har : ar = 1 := by have : some 1 = some ar := ha; exact (Option.some.inj this).symm
        subst har
        obtain ⟨a, rfl⟩ := List.length_eq_one_iff.1 hlk
        repeat' (first | (show AOps _ _ _ _ _; first | refine AOps.q tt_ok rfl ?_ | refine AOps.nil ?_ | refine AOps.loadBox tt_ok rfl rfl rfl rfl rfl rfl rfl ?_ | refine AOps.boxF rfl rfl rfl rfl rfl rfl ?_ | refine AOps.bsF tt_ok rfl rfl rfl rfl rfl rfl ?_ | (refine AOps.alloc tt_ok rfl rfl rfl rfl rfl rfl ?_; intro bk) | refine AOps.storeBox tt_ok rfl rfl rfl rfl rfl rfl rfl rfl rfl rfl rfl ?_ | refine AOps.callP (g := 59) rfl rfl rfl Try.call59 (PLeAll.refl _ _) (allOf_spec _ _) rfl ?_ | refine AOps.callP (g := 62) rfl rfl rfl Try.call62 (PLeAll.refl _ _) (alike_spec _ _) rfl ?_ | refine AOps.callP (g := 63) rfl rfl rfl Try.call63 (PLeAll.refl _ _) (typedV_spec _ _ _) rfl ?_ | ((fail_if_success refine AOps.decided rfl ?_); refine AOps.split rfl rfl rfl (fun h => ?_) (fun h => ?_))) | (show V _ _ _ _ _; first | refine V.seq ?_ | refine V.region ?_ | refine V.skip ?_ | refine V.condT rfl ?_ | refine V.condF rfl ?_ | refine V.block ?_ | refine V.blk ?_ | refine V.exit rfl ?_ | (show V _ _ _ (.code (.region 33 _ true) :: _) _; refine V.draw tt_ok mixed_ok false [0, 1, 2, 3, 4, 5, 6, 7, 8, 9, 10, 11, 12, 13, 14, 15, 16, 17, 18, 19, 20, 21, 22, 23, 24, 25, 26, 27, 28, 29] rfl (by decide +kernel) rfl ?_) | (show V _ _ _ (.code (.region 34 _ true) :: _) _; refine V.draw tt_ok mixed_ok false [0, 1, 2, 3, 4, 5, 6, 7, 8, 9, 10, 11, 12, 13, 14, 15] rfl (by decide +kernel) rfl ?_) | refine V.cond rfl (fun h => ?_) (fun h => ?_)) | (show DOps _ _ _ _ _ _ _; first | refine DOps.q rfl ?_ | refine DOps.nil ?_ | refine DOps.alloc rfl rfl rfl rfl rfl rfl rfl rfl fun bk => ?_ | refine DOps.storeBox rfl rfl rfl rfl rfl rfl rfl rfl rfl rfl rfl rfl ?_ | refine DOps.loadBox rfl rfl rfl rfl rfl rfl rfl rfl rfl ?_ | refine DOps.callP (g := 59) rfl rfl rfl rfl Try.call59 (PLeAll.refl _ _) (allOf_spec _ _) rfl ?_ | refine DOps.callP (g := 62) rfl rfl rfl rfl Try.call62 (PLeAll.refl _ _) (alike_spec _ _) rfl ?_ | refine DOps.callP (g := 63) rfl rfl rfl rfl Try.call63 (PLeAll.refl _ _) (typedV_spec _ _ _) rfl ?_ | ((fail_if_success refine DOps.decided rfl rfl ?_); refine DOps.split rfl rfl rfl rfl (fun h => ?_) (fun h => ?_))))
        all_goals refine V.ret3 tt_ok rfl rfl rfl rfl (PLe.of_eq ?_)
        all_goals simp_all [opTyped]
      · have har : ar = 2 := by have : some 2 = some ar := ha; exact (Option.some.inj this).symm
        subst har
        obtain ⟨a, b, rfl⟩ := len2 hlk
        repeat' (first | (show AOps _ _ _ _ _; first | refine AOps.q tt_ok rfl ?_ | refine AOps.nil ?_ | refine AOps.loadBox tt_ok rfl rfl rfl rfl rfl rfl rfl ?_ | refine AOps.boxF rfl rfl rfl rfl rfl rfl ?_ | refine AOps.bsF tt_ok rfl rfl rfl rfl rfl rfl ?_ | (refine AOps.alloc tt_ok rfl rfl rfl rfl rfl rfl ?_; intro bk) | refine AOps.storeBox tt_ok rfl rfl rfl rfl rfl rfl rfl rfl rfl rfl rfl ?_ | refine AOps.callP (g := 59) rfl rfl rfl Try.call59 (PLeAll.refl _ _) (allOf_spec _ _) rfl ?_ | refine AOps.callP (g := 62) rfl rfl rfl Try.call62 (PLeAll.refl _ _) (alike_spec _ _) rfl ?_ | refine AOps.callP (g := 63) rfl rfl rfl Try.call63 (PLeAll.refl _ _) (typedV_spec _ _ _) rfl ?_ | ((fail_if_success refine AOps.decided rfl ?_); refine AOps.split rfl rfl rfl (fun h => ?_) (fun h => ?_))) | (show V _ _ _ _ _; first | refine V.seq ?_ | refine V.region ?_ | refine V.skip ?_ | refine V.condT rfl ?_ | refine V.condF rfl ?_ | refine V.block ?_ | refine V.blk ?_ | refine V.exit rfl ?_ | (show V _ _ _ (.code (.region 33 _ true) :: _) _; refine V.draw tt_ok mixed_ok false [0, 1, 2, 3, 4, 5, 6, 7, 8, 9, 10, 11, 12, 13, 14, 15, 16, 17, 18, 19, 20, 21, 22, 23, 24, 25, 26, 27, 28, 29] rfl (by decide +kernel) rfl ?_) | (show V _ _ _ (.code (.region 34 _ true) :: _) _; refine V.draw tt_ok mixed_ok false [0, 1, 2, 3, 4, 5, 6, 7, 8, 9, 10, 11, 12, 13, 14, 15] rfl (by decide +kernel) rfl ?_) | refine V.cond rfl (fun h => ?_) (fun h => ?_)) | (show DOps _ _ _ _ _ _ _; first | refine DOps.q rfl ?_ | refine DOps.nil ?_ | refine DOps.alloc rfl rfl rfl rfl rfl rfl rfl rfl fun bk => ?_ | refine DOps.storeBox rfl rfl rfl rfl rfl rfl rfl rfl rfl rfl rfl rfl ?_ | refine DOps.loadBox rfl rfl rfl rfl rfl rfl rfl rfl rfl ?_ | refine DOps.callP (g := 59) rfl rfl rfl rfl Try.call59 (PLeAll.refl _ _) (allOf_spec _ _) rfl ?_ | refine DOps.callP (g := 62) rfl rfl rfl rfl Try.call62 (PLeAll.refl _ _) (alike_spec _ _) rfl ?_ | refine DOps.callP (g := 63) rfl rfl rfl rfl Try.call63 (PLeAll.refl _ _) (typedV_spec _ _ _) rfl ?_ | ((fail_if_success refine DOps.decided rfl rfl ?_); refine DOps.split rfl rfl rfl rfl (fun h => ?_) (fun h => ?_))))
        all_goals refine V.ret3 tt_ok rfl rfl rfl rfl (PLe.of_eq ?_)
        all_goals simp_all [opTyped]
      · have har : ar = 1 := by have : some 1 = some ar := ha; exact (Option.some.inj this).symm
        subst har
        obtain ⟨a, rfl⟩ := List.length_eq_one_iff.1 hlk
        repeat' (first | (show AOps _ _ _ _ _; first | refine AOps.q tt_ok rfl ?_ | refine AOps.nil ?_ | refine AOps.loadBox tt_ok rfl rfl rfl rfl rfl rfl rfl ?_ | refine AOps.boxF rfl rfl rfl rfl rfl rfl ?_ | refine AOps.bsF tt_ok rfl rfl rfl rfl rfl rfl ?_ | (refine AOps.alloc tt_ok rfl rfl rfl rfl rfl rfl ?_; intro bk) | refine AOps.storeBox tt_ok rfl rfl rfl rfl rfl rfl rfl rfl rfl rfl rfl ?_ | refine AOps.callP (g := 59) rfl rfl rfl Try.call59 (PLeAll.refl _ _) (allOf_spec _ _) rfl ?_ | refine AOps.callP (g := 62) rfl rfl rfl Try.call62 (PLeAll.refl _ _) (alike_spec _ _) rfl ?_ | refine AOps.callP (g := 63) rfl rfl rfl Try.call63 (PLeAll.refl _ _) (typedV_spec _ _ _) rfl ?_ | ((fail_if_success refine AOps.decided rfl ?_); refine AOps.split rfl rfl rfl (fun h => ?_) (fun h => ?_))) | (show V _ _ _ _ _; first | refine V.seq ?_ | refine V.region ?_ | refine V.skip ?_ | refine V.condT rfl ?_ | refine V.condF rfl ?_ | refine V.block ?_ | refine V.blk ?_ | refine V.exit rfl ?_ | (show V _ _ _ (.code (.region 33 _ true) :: _) _; refine V.draw tt_ok mixed_ok false [0, 1, 2, 3, 4, 5, 6, 7, 8, 9, 10, 11, 12, 13, 14, 15, 16, 17, 18, 19, 20, 21, 22, 23, 24, 25, 26, 27, 28, 29] rfl (by decide +kernel) rfl ?_) | (show V _ _ _ (.code (.region 34 _ true) :: _) _; refine V.draw tt_ok mixed_ok false [0, 1, 2, 3, 4, 5, 6, 7, 8, 9, 10, 11, 12, 13, 14, 15] rfl (by decide +kernel) rfl ?_) | refine V.cond rfl (fun h => ?_) (fun h => ?_)) | (show DOps _ _ _ _ _ _ _; first | refine DOps.q rfl ?_ | refine DOps.nil ?_ | refine DOps.alloc rfl rfl rfl rfl rfl rfl rfl rfl fun bk => ?_ | refine DOps.storeBox rfl rfl rfl rfl rfl rfl rfl rfl rfl rfl rfl rfl ?_ | refine DOps.loadBox rfl rfl rfl rfl rfl rfl rfl rfl rfl ?_ | refine DOps.callP (g := 59) rfl rfl rfl rfl Try.call59 (PLeAll.refl _ _) (allOf_spec _ _) rfl ?_ | refine DOps.callP (g := 62) rfl rfl rfl rfl Try.call62 (PLeAll.refl _ _) (alike_spec _ _) rfl ?_ | refine DOps.callP (g := 63) rfl rfl rfl rfl Try.call63 (PLeAll.refl _ _) (typedV_spec _ _ _) rfl ?_ | ((fail_if_success refine DOps.decided rfl rfl ?_); refine DOps.split rfl rfl rfl rfl (fun h => ?_) (fun h => ?_))))
        all_goals refine V.ret3 tt_ok rfl rfl rfl rfl (PLe.of_eq ?_)
        all_goals simp_all [opTyped]
      · have har : ar = 1 := by have : some 1 = some ar := ha; exact (Option.some.inj this).symm
        subst har
        obtain ⟨a, rfl⟩ := List.length_eq_one_iff.1 hlk
        repeat' (first | (show AOps _ _ _ _ _; first | refine AOps.q tt_ok rfl ?_ | refine AOps.nil ?_ | refine AOps.loadBox tt_ok rfl rfl rfl rfl rfl rfl rfl ?_ | refine AOps.boxF rfl rfl rfl rfl rfl rfl ?_ | refine AOps.bsF tt_ok rfl rfl rfl rfl rfl rfl ?_ | (refine AOps.alloc tt_ok rfl rfl rfl rfl rfl rfl ?_; intro bk) | refine AOps.storeBox tt_ok rfl rfl rfl rfl rfl rfl rfl rfl rfl rfl rfl ?_ | refine AOps.callP (g := 59) rfl rfl rfl Try.call59 (PLeAll.refl _ _) (allOf_spec _ _) rfl ?_ | refine AOps.callP (g := 62) rfl rfl rfl Try.call62 (PLeAll.refl _ _) (alike_spec _ _) rfl ?_ | refine AOps.callP (g := 63) rfl rfl rfl Try.call63 (PLeAll.refl _ _) (typedV_spec _ _ _) rfl ?_ | ((fail_if_success refine AOps.decided rfl ?_); refine AOps.split rfl rfl rfl (fun h => ?_) (fun h => ?_))) | (show V _ _ _ _ _; first | refine V.seq ?_ | refine V.region ?_ | refine V.skip ?_ | refine V.condT rfl ?_ | refine V.condF rfl ?_ | refine V.block ?_ | refine V.blk ?_ | refine V.exit rfl ?_ | (show V _ _ _ (.code (.region 33 _ true) :: _) _; refine V.draw tt_ok mixed_ok false [0, 1, 2, 3, 4, 5, 6, 7, 8, 9, 10, 11, 12, 13, 14, 15, 16, 17, 18, 19, 20, 21, 22, 23, 24, 25, 26, 27, 28, 29] rfl (by decide +kernel) rfl ?_) | (show V _ _ _ (.code (.region 34 _ true) :: _) _; refine V.draw tt_ok mixed_ok false [0, 1, 2, 3, 4, 5, 6, 7, 8, 9, 10, 11, 12, 13, 14, 15] rfl (by decide +kernel) rfl ?_) | refine V.cond rfl (fun h => ?_) (fun h => ?_)) | (show DOps _ _ _ _ _ _ _; first | refine DOps.q rfl ?_ | refine DOps.nil ?_ | refine DOps.alloc rfl rfl rfl rfl rfl rfl rfl rfl fun bk => ?_ | refine DOps.storeBox rfl rfl rfl rfl rfl rfl rfl rfl rfl rfl rfl rfl ?_ | refine DOps.loadBox rfl rfl rfl rfl rfl rfl rfl rfl rfl ?_ | refine DOps.callP (g := 59) rfl rfl rfl rfl Try.call59 (PLeAll.refl _ _) (allOf_spec _ _) rfl ?_ | refine DOps.callP (g := 62) rfl rfl rfl rfl Try.call62 (PLeAll.refl _ _) (alike_spec _ _) rfl ?_ | refine DOps.callP (g := 63) rfl rfl rfl rfl Try.call63 (PLeAll.refl _ _) (typedV_spec _ _ _) rfl ?_ | ((fail_if_success refine DOps.decided rfl rfl ?_); refine DOps.split rfl rfl rfl rfl (fun h => ?_) (fun h => ?_))))
        all_goals refine V.ret3 tt_ok rfl rfl rfl rfl (PLe.of_eq ?_)
        all_goals simp_all [opTyped]
      · have har : ar = 3 := by have : some 3 = some ar := ha; exact (Option.some.inj this).symm
        subst har
        obtain ⟨a, b, c, rfl⟩ := len3 hlk
        repeat' (first | (show AOps _ _ _ _ _; first | refine AOps.q tt_ok rfl ?_ | refine AOps.nil ?_ | refine AOps.loadBox tt_ok rfl rfl rfl rfl rfl rfl rfl ?_ | refine AOps.boxF rfl rfl rfl rfl rfl rfl ?_ | refine AOps.bsF tt_ok rfl rfl rfl rfl rfl rfl ?_ | (refine AOps.alloc tt_ok rfl rfl rfl rfl rfl rfl ?_; intro bk) | refine AOps.storeBox tt_ok rfl rfl rfl rfl rfl rfl rfl rfl rfl rfl rfl ?_ | refine AOps.callP (g := 59) rfl rfl rfl Try.call59 (PLeAll.refl _ _) (allOf_spec _ _) rfl ?_ | refine AOps.callP (g := 62) rfl rfl rfl Try.call62 (PLeAll.refl _ _) (alike_spec _ _) rfl ?_ | refine AOps.callP (g := 63) rfl rfl rfl Try.call63 (PLeAll.refl _ _) (typedV_spec _ _ _) rfl ?_ | ((fail_if_success refine AOps.decided rfl ?_); refine AOps.split rfl rfl rfl (fun h => ?_) (fun h => ?_))) | (show V _ _ _ _ _; first | refine V.seq ?_ | refine V.region ?_ | refine V.skip ?_ | refine V.condT rfl ?_ | refine V.condF rfl ?_ | refine V.block ?_ | refine V.blk ?_ | refine V.exit rfl ?_ | (show V _ _ _ (.code (.region 33 _ true) :: _) _; refine V.draw tt_ok mixed_ok false [0, 1, 2, 3, 4, 5, 6, 7, 8, 9, 10, 11, 12, 13, 14, 15, 16, 17, 18, 19, 20, 21, 22, 23, 24, 25, 26, 27, 28, 29] rfl (by decide +kernel) rfl ?_) | (show V _ _ _ (.code (.region 34 _ true) :: _) _; refine V.draw tt_ok mixed_ok false [0, 1, 2, 3, 4, 5, 6, 7, 8, 9, 10, 11, 12, 13, 14, 15] rfl (by decide +kernel) rfl ?_) | refine V.cond rfl (fun h => ?_) (fun h => ?_)) | (show DOps _ _ _ _ _ _ _; first | refine DOps.q rfl ?_ | refine DOps.nil ?_ | refine DOps.alloc rfl rfl rfl rfl rfl rfl rfl rfl fun bk => ?_ | refine DOps.storeBox rfl rfl rfl rfl rfl rfl rfl rfl rfl rfl rfl rfl ?_ | refine DOps.loadBox rfl rfl rfl rfl rfl rfl rfl rfl rfl ?_ | refine DOps.callP (g := 59) rfl rfl rfl rfl Try.call59 (PLeAll.refl _ _) (allOf_spec _ _) rfl ?_ | refine DOps.callP (g := 62) rfl rfl rfl rfl Try.call62 (PLeAll.refl _ _) (alike_spec _ _) rfl ?_ | refine DOps.callP (g := 63) rfl rfl rfl rfl Try.call63 (PLeAll.refl _ _) (typedV_spec _ _ _) rfl ?_ | ((fail_if_success refine DOps.decided rfl rfl ?_); refine DOps.split rfl rfl rfl rfl (fun h => ?_) (fun h => ?_))))
        all_goals refine V.ret3 tt_ok rfl rfl rfl rfl (PLe.of_eq ?_)
        all_goals simp_all [opTyped]
    · simp only [opNames, List.mem_cons, List.mem_nil_iff, or_false, not_or] at hn
      simp [arityOf, hn] at ha
end Go.Proofs.Ytblheceepnncdaa
