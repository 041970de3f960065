/- Expressions, part B: searches in lists. -/
import Derived.Test.YtblheceepnncdaaExA
namespace Go.Proofs.Ytblheceepnncdaa
open Go Go.Ab
attribute [local irreducible] V AOps Gh Eff PCallsH
set_option maxRecDepth 4000

theorem indexCol {g : FuncId} {caps : List PV} {p : LCol → Bool} (xs : List LCol) (hg : ∀ (vs : Array Value) (w : World), (callFunc g vs).run Try.prog w = .ok (.enter g vs) w) (hp : ∀ x ∈ xs, PFun Try.prog g (.agg (encCol x) :: caps) (pbool (p x))) :
    PFun Try.prog 31 [.list 46 (xs.map encCol), .fn g caps] (pint (idxOf p xs)) := by
  refine PCallsH.intro Try.func31 rfl Try.ntmps31 rfl ?_
  repeat (first | refine AOps.q tt_ok rfl ?_ | refine AOps.nil ?_ | refine V.seq ?_ | refine V.region ?_ | refine V.skip ?_ | refine V.condT rfl ?_ | refine V.condF rfl ?_ | refine V.block ?_ | refine V.blk ?_ | refine V.exit rfl ?_ | refine AOps.loadBox tt_ok rfl rfl rfl rfl rfl rfl rfl ?_ | refine AOps.boxF rfl rfl rfl rfl rfl rfl ?_ | refine AOps.bsF tt_ok rfl rfl rfl rfl rfl rfl ?_ | (refine AOps.alloc tt_ok rfl rfl rfl rfl rfl rfl ?_; intro bk) | refine AOps.storeBox tt_ok rfl rfl rfl rfl rfl rfl rfl rfl rfl rfl rfl ?_)
  refine V.lenF tt_ok 0 rfl rfl fun hl _ => ?_
  refine V.loopF (X := Nat) (fun j => ⟨19, upd (upd (upd (upd (fun _ => .any) 0 (.list 46 (xs.map encCol))) 1 (.fn g caps)) 7 (pint (xs.map encCol).length)) 8 (pint j), fun _ => none, fun _ => none⟩)
    (fun j => j ≤ xs.length ∧ ∀ x ∈ xs.take j, p x = false) (fun j => xs.length - j) 0 ⟨Nat.zero_le _, by simp⟩ (Gh.le (SLe.cons (PLe.of_eq rfl) (SLe.cons (PLe.of_eq rfl) (SLe.cons (PLe.of_eq rfl) (SLe.cons (PLe.of_eq rfl) SLe.nil)))) BLe.nil OLe.nil) ?_
  rintro j ⟨hj, hpre⟩
  repeat (first | refine AOps.q tt_ok rfl ?_ | refine AOps.nil ?_ | refine V.seq ?_ | refine V.region ?_ | refine V.skip ?_ | refine V.condT rfl ?_ | refine V.condF rfl ?_ | refine V.block ?_ | refine V.blk ?_ | refine V.exit rfl ?_ | refine AOps.loadBox tt_ok rfl rfl rfl rfl rfl rfl rfl ?_ | refine AOps.boxF rfl rfl rfl rfl rfl rfl ?_ | refine AOps.bsF tt_ok rfl rfl rfl rfl rfl rfl ?_ | (refine AOps.alloc tt_ok rfl rfl rfl rfl rfl rfl ?_; intro bk) | refine AOps.storeBox tt_ok rfl rfl rfl rfl rfl rfl rfl rfl rfl rfl rfl ?_)
  refine V.cond rfl (fun h => ?_) (fun h => ?_)
  · have hlt : j < xs.length := by simpa using h
    have hget : xs[j]? = some xs[j] := List.getElem?_eq_getElem hlt
    repeat (first | refine AOps.q tt_ok rfl ?_ | refine AOps.nil ?_ | refine V.seq ?_ | refine V.region ?_ | refine V.skip ?_ | refine V.condT rfl ?_ | refine V.condF rfl ?_ | refine V.block ?_ | refine V.blk ?_ | refine V.exit rfl ?_ | refine AOps.loadBox tt_ok rfl rfl rfl rfl rfl rfl rfl ?_ | refine AOps.boxF rfl rfl rfl rfl rfl rfl ?_ | refine AOps.bsF tt_ok rfl rfl rfl rfl rfl rfl ?_ | (refine AOps.alloc tt_ok rfl rfl rfl rfl rfl rfl ?_; intro bk) | refine AOps.storeBox tt_ok rfl rfl rfl rfl rfl rfl rfl rfl rfl rfl rfl ?_)
    refine AOps.idx tt_ok rfl rfl rfl rfl rfl rfl (Int.natCast_nonneg j) (r := encCol xs[j]) (by simp [hget]) rfl ?_
    repeat (first | refine AOps.q tt_ok rfl ?_ | refine AOps.nil ?_ | refine V.seq ?_ | refine V.region ?_ | refine V.skip ?_ | refine V.condT rfl ?_ | refine V.condF rfl ?_ | refine V.block ?_ | refine V.blk ?_ | refine V.exit rfl ?_ | refine AOps.loadBox tt_ok rfl rfl rfl rfl rfl rfl rfl ?_ | refine AOps.boxF rfl rfl rfl rfl rfl rfl ?_ | refine AOps.bsF tt_ok rfl rfl rfl rfl rfl rfl ?_ | (refine AOps.alloc tt_ok rfl rfl rfl rfl rfl rfl ?_; intro bk) | refine AOps.storeBox tt_ok rfl rfl rfl rfl rfl rfl rfl rfl rfl rfl rfl ?_)
    refine AOps.callP rfl rfl rfl hg (PLeAll.refl _ _) (hp xs[j] (List.getElem_mem hlt)) rfl ?_
    repeat (first | refine AOps.q tt_ok rfl ?_ | refine AOps.nil ?_ | refine V.seq ?_ | refine V.region ?_ | refine V.skip ?_ | refine V.condT rfl ?_ | refine V.condF rfl ?_ | refine V.block ?_ | refine V.blk ?_ | refine V.exit rfl ?_ | refine AOps.loadBox tt_ok rfl rfl rfl rfl rfl rfl rfl ?_ | refine AOps.boxF rfl rfl rfl rfl rfl rfl ?_ | refine AOps.bsF tt_ok rfl rfl rfl rfl rfl rfl ?_ | (refine AOps.alloc tt_ok rfl rfl rfl rfl rfl rfl ?_; intro bk) | refine AOps.storeBox tt_ok rfl rfl rfl rfl rfl rfl rfl rfl rfl rfl rfl ?_)
    refine V.cond rfl (fun h => ?_) (fun h => ?_)
    · repeat (first | refine AOps.q tt_ok rfl ?_ | refine AOps.nil ?_ | refine V.seq ?_ | refine V.region ?_ | refine V.skip ?_ | refine V.condT rfl ?_ | refine V.condF rfl ?_ | refine V.block ?_ | refine V.blk ?_ | refine V.exit rfl ?_ | refine AOps.loadBox tt_ok rfl rfl rfl rfl rfl rfl rfl ?_ | refine AOps.boxF rfl rfl rfl rfl rfl rfl ?_ | refine AOps.bsF tt_ok rfl rfl rfl rfl rfl rfl ?_ | (refine AOps.alloc tt_ok rfl rfl rfl rfl rfl rfl ?_; intro bk) | refine AOps.storeBox tt_ok rfl rfl rfl rfl rfl rfl rfl rfl rfl rfl rfl ?_)
      refine V.ret1 tt_ok rfl rfl (PLe.of_eq ?_)
      rw [idxOf_at hlt hpre h]
    · repeat (first | refine AOps.q tt_ok rfl ?_ | refine AOps.nil ?_ | refine V.seq ?_ | refine V.region ?_ | refine V.skip ?_ | refine V.condT rfl ?_ | refine V.condF rfl ?_ | refine V.block ?_ | refine V.blk ?_ | refine V.exit rfl ?_ | refine AOps.loadBox tt_ok rfl rfl rfl rfl rfl rfl rfl ?_ | refine AOps.boxF rfl rfl rfl rfl rfl rfl ?_ | refine AOps.bsF tt_ok rfl rfl rfl rfl rfl rfl ?_ | (refine AOps.alloc tt_ok rfl rfl rfl rfl rfl rfl ?_; intro bk) | refine AOps.storeBox tt_ok rfl rfl rfl rfl rfl rfl rfl rfl rfl rfl rfl ?_)
      refine V.again (j + 1) (by omega) ⟨hlt, ?_⟩ (Gh.le (SLe.cons (PLe.of_eq ?_) (SLe.cons (PLe.of_eq rfl) (SLe.cons (PLe.of_eq rfl) (SLe.cons (PLe.of_eq rfl) SLe.nil)))) BLe.nil OLe.nil)
      · exact pre_succ hlt hpre h
      · exact pint_succ (by simp at hl; omega)
  · have hge : j = xs.length := by have : ¬ j < xs.length := by simpa using h
                                   omega
    repeat (first | refine AOps.q tt_ok rfl ?_ | refine AOps.nil ?_ | refine V.seq ?_ | refine V.region ?_ | refine V.skip ?_ | refine V.condT rfl ?_ | refine V.condF rfl ?_ | refine V.block ?_ | refine V.blk ?_ | refine V.exit rfl ?_ | refine AOps.loadBox tt_ok rfl rfl rfl rfl rfl rfl rfl ?_ | refine AOps.boxF rfl rfl rfl rfl rfl rfl ?_ | refine AOps.bsF tt_ok rfl rfl rfl rfl rfl rfl ?_ | (refine AOps.alloc tt_ok rfl rfl rfl rfl rfl rfl ?_; intro bk) | refine AOps.storeBox tt_ok rfl rfl rfl rfl rfl rfl rfl rfl rfl rfl rfl ?_)
    refine V.ret1 tt_ok rfl rfl (PLe.of_eq ?_)
    rw [idxOf_none (by rw [hge] at hpre; simpa using hpre)]

theorem indexVal {g : FuncId} {caps : List PV} {p : LVal → Bool} (xs : List LVal) (hg : ∀ (vs : Array Value) (w : World), (callFunc g vs).run Try.prog w = .ok (.enter g vs) w) (hp : ∀ x ∈ xs, PFun Try.prog g (.agg (encVal x) :: caps) (pbool (p x))) :
    PFun Try.prog 48 [.list 23 (xs.map encVal), .fn g caps] (pint (idxOf p xs)) := by
  refine PCallsH.intro Try.func48 rfl Try.ntmps48 rfl ?_
  repeat (first | refine AOps.q tt_ok rfl ?_ | refine AOps.nil ?_ | refine V.seq ?_ | refine V.region ?_ | refine V.skip ?_ | refine V.condT rfl ?_ | refine V.condF rfl ?_ | refine V.block ?_ | refine V.blk ?_ | refine V.exit rfl ?_ | refine AOps.loadBox tt_ok rfl rfl rfl rfl rfl rfl rfl ?_ | refine AOps.boxF rfl rfl rfl rfl rfl rfl ?_ | refine AOps.bsF tt_ok rfl rfl rfl rfl rfl rfl ?_ | (refine AOps.alloc tt_ok rfl rfl rfl rfl rfl rfl ?_; intro bk) | refine AOps.storeBox tt_ok rfl rfl rfl rfl rfl rfl rfl rfl rfl rfl rfl ?_)
  refine V.lenF tt_ok 0 rfl rfl fun hl _ => ?_
  refine V.loopF (X := Nat) (fun j => ⟨19, upd (upd (upd (upd (fun _ => .any) 0 (.list 23 (xs.map encVal))) 1 (.fn g caps)) 7 (pint (xs.map encVal).length)) 8 (pint j), fun _ => none, fun _ => none⟩)
    (fun j => j ≤ xs.length ∧ ∀ x ∈ xs.take j, p x = false) (fun j => xs.length - j) 0 ⟨Nat.zero_le _, by simp⟩ (Gh.le (SLe.cons (PLe.of_eq rfl) (SLe.cons (PLe.of_eq rfl) (SLe.cons (PLe.of_eq rfl) (SLe.cons (PLe.of_eq rfl) SLe.nil)))) BLe.nil OLe.nil) ?_
  rintro j ⟨hj, hpre⟩
  repeat (first | refine AOps.q tt_ok rfl ?_ | refine AOps.nil ?_ | refine V.seq ?_ | refine V.region ?_ | refine V.skip ?_ | refine V.condT rfl ?_ | refine V.condF rfl ?_ | refine V.block ?_ | refine V.blk ?_ | refine V.exit rfl ?_ | refine AOps.loadBox tt_ok rfl rfl rfl rfl rfl rfl rfl ?_ | refine AOps.boxF rfl rfl rfl rfl rfl rfl ?_ | refine AOps.bsF tt_ok rfl rfl rfl rfl rfl rfl ?_ | (refine AOps.alloc tt_ok rfl rfl rfl rfl rfl rfl ?_; intro bk) | refine AOps.storeBox tt_ok rfl rfl rfl rfl rfl rfl rfl rfl rfl rfl rfl ?_)
  refine V.cond rfl (fun h => ?_) (fun h => ?_)
  · have hlt : j < xs.length := by simpa using h
    have hget : xs[j]? = some xs[j] := List.getElem?_eq_getElem hlt
    repeat (first | refine AOps.q tt_ok rfl ?_ | refine AOps.nil ?_ | refine V.seq ?_ | refine V.region ?_ | refine V.skip ?_ | refine V.condT rfl ?_ | refine V.condF rfl ?_ | refine V.block ?_ | refine V.blk ?_ | refine V.exit rfl ?_ | refine AOps.loadBox tt_ok rfl rfl rfl rfl rfl rfl rfl ?_ | refine AOps.boxF rfl rfl rfl rfl rfl rfl ?_ | refine AOps.bsF tt_ok rfl rfl rfl rfl rfl rfl ?_ | (refine AOps.alloc tt_ok rfl rfl rfl rfl rfl rfl ?_; intro bk) | refine AOps.storeBox tt_ok rfl rfl rfl rfl rfl rfl rfl rfl rfl rfl rfl ?_)
    refine AOps.idx tt_ok rfl rfl rfl rfl rfl rfl (Int.natCast_nonneg j) (r := encVal xs[j]) (by simp [hget]) rfl ?_
    repeat (first | refine AOps.q tt_ok rfl ?_ | refine AOps.nil ?_ | refine V.seq ?_ | refine V.region ?_ | refine V.skip ?_ | refine V.condT rfl ?_ | refine V.condF rfl ?_ | refine V.block ?_ | refine V.blk ?_ | refine V.exit rfl ?_ | refine AOps.loadBox tt_ok rfl rfl rfl rfl rfl rfl rfl ?_ | refine AOps.boxF rfl rfl rfl rfl rfl rfl ?_ | refine AOps.bsF tt_ok rfl rfl rfl rfl rfl rfl ?_ | (refine AOps.alloc tt_ok rfl rfl rfl rfl rfl rfl ?_; intro bk) | refine AOps.storeBox tt_ok rfl rfl rfl rfl rfl rfl rfl rfl rfl rfl rfl ?_)
    refine AOps.callP rfl rfl rfl hg (PLeAll.refl _ _) (hp xs[j] (List.getElem_mem hlt)) rfl ?_
    repeat (first | refine AOps.q tt_ok rfl ?_ | refine AOps.nil ?_ | refine V.seq ?_ | refine V.region ?_ | refine V.skip ?_ | refine V.condT rfl ?_ | refine V.condF rfl ?_ | refine V.block ?_ | refine V.blk ?_ | refine V.exit rfl ?_ | refine AOps.loadBox tt_ok rfl rfl rfl rfl rfl rfl rfl ?_ | refine AOps.boxF rfl rfl rfl rfl rfl rfl ?_ | refine AOps.bsF tt_ok rfl rfl rfl rfl rfl rfl ?_ | (refine AOps.alloc tt_ok rfl rfl rfl rfl rfl rfl ?_; intro bk) | refine AOps.storeBox tt_ok rfl rfl rfl rfl rfl rfl rfl rfl rfl rfl rfl ?_)
    refine V.cond rfl (fun h => ?_) (fun h => ?_)
    · repeat (first | refine AOps.q tt_ok rfl ?_ | refine AOps.nil ?_ | refine V.seq ?_ | refine V.region ?_ | refine V.skip ?_ | refine V.condT rfl ?_ | refine V.condF rfl ?_ | refine V.block ?_ | refine V.blk ?_ | refine V.exit rfl ?_ | refine AOps.loadBox tt_ok rfl rfl rfl rfl rfl rfl rfl ?_ | refine AOps.boxF rfl rfl rfl rfl rfl rfl ?_ | refine AOps.bsF tt_ok rfl rfl rfl rfl rfl rfl ?_ | (refine AOps.alloc tt_ok rfl rfl rfl rfl rfl rfl ?_; intro bk) | refine AOps.storeBox tt_ok rfl rfl rfl rfl rfl rfl rfl rfl rfl rfl rfl ?_)
      refine V.ret1 tt_ok rfl rfl (PLe.of_eq ?_)
      rw [idxOf_at hlt hpre h]
    · repeat (first | refine AOps.q tt_ok rfl ?_ | refine AOps.nil ?_ | refine V.seq ?_ | refine V.region ?_ | refine V.skip ?_ | refine V.condT rfl ?_ | refine V.condF rfl ?_ | refine V.block ?_ | refine V.blk ?_ | refine V.exit rfl ?_ | refine AOps.loadBox tt_ok rfl rfl rfl rfl rfl rfl rfl ?_ | refine AOps.boxF rfl rfl rfl rfl rfl rfl ?_ | refine AOps.bsF tt_ok rfl rfl rfl rfl rfl rfl ?_ | (refine AOps.alloc tt_ok rfl rfl rfl rfl rfl rfl ?_; intro bk) | refine AOps.storeBox tt_ok rfl rfl rfl rfl rfl rfl rfl rfl rfl rfl rfl ?_)
      refine V.again (j + 1) (by omega) ⟨hlt, ?_⟩ (Gh.le (SLe.cons (PLe.of_eq ?_) (SLe.cons (PLe.of_eq rfl) (SLe.cons (PLe.of_eq rfl) (SLe.cons (PLe.of_eq rfl) SLe.nil)))) BLe.nil OLe.nil)
      · exact pre_succ hlt hpre h
      · exact pint_succ (by simp at hl; omega)
  · have hge : j = xs.length := by have : ¬ j < xs.length := by simpa using h
                                   omega
    repeat (first | refine AOps.q tt_ok rfl ?_ | refine AOps.nil ?_ | refine V.seq ?_ | refine V.region ?_ | refine V.skip ?_ | refine V.condT rfl ?_ | refine V.condF rfl ?_ | refine V.block ?_ | refine V.blk ?_ | refine V.exit rfl ?_ | refine AOps.loadBox tt_ok rfl rfl rfl rfl rfl rfl rfl ?_ | refine AOps.boxF rfl rfl rfl rfl rfl rfl ?_ | refine AOps.bsF tt_ok rfl rfl rfl rfl rfl rfl ?_ | (refine AOps.alloc tt_ok rfl rfl rfl rfl rfl rfl ?_; intro bk) | refine AOps.storeBox tt_ok rfl rfl rfl rfl rfl rfl rfl rfl rfl rfl rfl ?_)
    refine V.ret1 tt_ok rfl rfl (PLe.of_eq ?_)
    rw [idxOf_none (by rw [hge] at hpre; simpa using hpre)]

theorem containsVal {g : FuncId} {caps : List PV} {p : LVal → Bool} (xs : List LVal) (hg : ∀ (vs : Array Value) (w : World), (callFunc g vs).run Try.prog w = .ok (.enter g vs) w) (hp : ∀ x ∈ xs, PFun Try.prog g (.agg (encVal x) :: caps) (pbool (p x))) :
    PFun Try.prog 36 [.list 23 (xs.map encVal), .fn g caps] (pbool (xs.any p)) := by
  refine PCallsH.intro Try.func36 rfl Try.ntmps36 rfl ?_
  repeat (first | refine AOps.q tt_ok rfl ?_ | refine AOps.nil ?_ | refine V.seq ?_ | refine V.region ?_ | refine V.skip ?_ | refine V.condT rfl ?_ | refine V.condF rfl ?_ | refine V.block ?_ | refine V.blk ?_ | refine V.exit rfl ?_ | refine AOps.loadBox tt_ok rfl rfl rfl rfl rfl rfl rfl ?_ | refine AOps.boxF rfl rfl rfl rfl rfl rfl ?_ | refine AOps.bsF tt_ok rfl rfl rfl rfl rfl rfl ?_ | (refine AOps.alloc tt_ok rfl rfl rfl rfl rfl rfl ?_; intro bk) | refine AOps.storeBox tt_ok rfl rfl rfl rfl rfl rfl rfl rfl rfl rfl rfl ?_)
  refine AOps.callP rfl rfl rfl Try.call48 (PLeAll.refl _ _) (indexVal xs hg hp) rfl ?_
  repeat (first | refine AOps.q tt_ok rfl ?_ | refine AOps.nil ?_ | refine V.seq ?_ | refine V.region ?_ | refine V.skip ?_ | refine V.condT rfl ?_ | refine V.condF rfl ?_ | refine V.block ?_ | refine V.blk ?_ | refine V.exit rfl ?_ | refine AOps.loadBox tt_ok rfl rfl rfl rfl rfl rfl rfl ?_ | refine AOps.boxF rfl rfl rfl rfl rfl rfl ?_ | refine AOps.bsF tt_ok rfl rfl rfl rfl rfl rfl ?_ | (refine AOps.alloc tt_ok rfl rfl rfl rfl rfl rfl ?_; intro bk) | refine AOps.storeBox tt_ok rfl rfl rfl rfl rfl rfl rfl rfl rfl rfl rfl ?_)
  refine V.ret1 tt_ok rfl rfl (PLe.of_eq ?_)
  rw [idxOf_any]

theorem indexRow {g : FuncId} {caps : List PV} {p : LVal → Bool} (xs : List LVal) (hg : ∀ (vs : Array Value) (w : World), (callFunc g vs).run Try.prog w = .ok (.enter g vs) w) (hp : ∀ x ∈ xs, PFun Try.prog g (.agg (encVal x) :: caps) (pbool (p x))) :
    PFun Try.prog 38 [.list 23 (xs.map encVal), .fn g caps] (pint (idxOf p xs)) := by
  refine PCallsH.intro Try.func38 rfl Try.ntmps38 rfl ?_
  repeat (first | refine AOps.q tt_ok rfl ?_ | refine AOps.nil ?_ | refine V.seq ?_ | refine V.region ?_ | refine V.skip ?_ | refine V.condT rfl ?_ | refine V.condF rfl ?_ | refine V.block ?_ | refine V.blk ?_ | refine V.exit rfl ?_ | refine AOps.loadBox tt_ok rfl rfl rfl rfl rfl rfl rfl ?_ | refine AOps.boxF rfl rfl rfl rfl rfl rfl ?_ | refine AOps.bsF tt_ok rfl rfl rfl rfl rfl rfl ?_ | (refine AOps.alloc tt_ok rfl rfl rfl rfl rfl rfl ?_; intro bk) | refine AOps.storeBox tt_ok rfl rfl rfl rfl rfl rfl rfl rfl rfl rfl rfl ?_)
  refine V.lenF tt_ok 0 rfl rfl fun hl _ => ?_
  refine V.loopF (X := Nat) (fun j => ⟨19, upd (upd (upd (upd (fun _ => .any) 0 (.list 23 (xs.map encVal))) 1 (.fn g caps)) 7 (pint (xs.map encVal).length)) 8 (pint j), fun _ => none, fun _ => none⟩)
    (fun j => j ≤ xs.length ∧ ∀ x ∈ xs.take j, p x = false) (fun j => xs.length - j) 0 ⟨Nat.zero_le _, by simp⟩ (Gh.le (SLe.cons (PLe.of_eq rfl) (SLe.cons (PLe.of_eq rfl) (SLe.cons (PLe.of_eq rfl) (SLe.cons (PLe.of_eq rfl) SLe.nil)))) BLe.nil OLe.nil) ?_
  rintro j ⟨hj, hpre⟩
  repeat (first | refine AOps.q tt_ok rfl ?_ | refine AOps.nil ?_ | refine V.seq ?_ | refine V.region ?_ | refine V.skip ?_ | refine V.condT rfl ?_ | refine V.condF rfl ?_ | refine V.block ?_ | refine V.blk ?_ | refine V.exit rfl ?_ | refine AOps.loadBox tt_ok rfl rfl rfl rfl rfl rfl rfl ?_ | refine AOps.boxF rfl rfl rfl rfl rfl rfl ?_ | refine AOps.bsF tt_ok rfl rfl rfl rfl rfl rfl ?_ | (refine AOps.alloc tt_ok rfl rfl rfl rfl rfl rfl ?_; intro bk) | refine AOps.storeBox tt_ok rfl rfl rfl rfl rfl rfl rfl rfl rfl rfl rfl ?_)
  refine V.cond rfl (fun h => ?_) (fun h => ?_)
  · have hlt : j < xs.length := by simpa using h
    have hget : xs[j]? = some xs[j] := List.getElem?_eq_getElem hlt
    repeat (first | refine AOps.q tt_ok rfl ?_ | refine AOps.nil ?_ | refine V.seq ?_ | refine V.region ?_ | refine V.skip ?_ | refine V.condT rfl ?_ | refine V.condF rfl ?_ | refine V.block ?_ | refine V.blk ?_ | refine V.exit rfl ?_ | refine AOps.loadBox tt_ok rfl rfl rfl rfl rfl rfl rfl ?_ | refine AOps.boxF rfl rfl rfl rfl rfl rfl ?_ | refine AOps.bsF tt_ok rfl rfl rfl rfl rfl rfl ?_ | (refine AOps.alloc tt_ok rfl rfl rfl rfl rfl rfl ?_; intro bk) | refine AOps.storeBox tt_ok rfl rfl rfl rfl rfl rfl rfl rfl rfl rfl rfl ?_)
    refine AOps.idx tt_ok rfl rfl rfl rfl rfl rfl (Int.natCast_nonneg j) (r := encVal xs[j]) (by simp [hget]) rfl ?_
    repeat (first | refine AOps.q tt_ok rfl ?_ | refine AOps.nil ?_ | refine V.seq ?_ | refine V.region ?_ | refine V.skip ?_ | refine V.condT rfl ?_ | refine V.condF rfl ?_ | refine V.block ?_ | refine V.blk ?_ | refine V.exit rfl ?_ | refine AOps.loadBox tt_ok rfl rfl rfl rfl rfl rfl rfl ?_ | refine AOps.boxF rfl rfl rfl rfl rfl rfl ?_ | refine AOps.bsF tt_ok rfl rfl rfl rfl rfl rfl ?_ | (refine AOps.alloc tt_ok rfl rfl rfl rfl rfl rfl ?_; intro bk) | refine AOps.storeBox tt_ok rfl rfl rfl rfl rfl rfl rfl rfl rfl rfl rfl ?_)
    refine AOps.callP rfl rfl rfl hg (PLeAll.refl _ _) (hp xs[j] (List.getElem_mem hlt)) rfl ?_
    repeat (first | refine AOps.q tt_ok rfl ?_ | refine AOps.nil ?_ | refine V.seq ?_ | refine V.region ?_ | refine V.skip ?_ | refine V.condT rfl ?_ | refine V.condF rfl ?_ | refine V.block ?_ | refine V.blk ?_ | refine V.exit rfl ?_ | refine AOps.loadBox tt_ok rfl rfl rfl rfl rfl rfl rfl ?_ | refine AOps.boxF rfl rfl rfl rfl rfl rfl ?_ | refine AOps.bsF tt_ok rfl rfl rfl rfl rfl rfl ?_ | (refine AOps.alloc tt_ok rfl rfl rfl rfl rfl rfl ?_; intro bk) | refine AOps.storeBox tt_ok rfl rfl rfl rfl rfl rfl rfl rfl rfl rfl rfl ?_)
    refine V.cond rfl (fun h => ?_) (fun h => ?_)
    · repeat (first | refine AOps.q tt_ok rfl ?_ | refine AOps.nil ?_ | refine V.seq ?_ | refine V.region ?_ | refine V.skip ?_ | refine V.condT rfl ?_ | refine V.condF rfl ?_ | refine V.block ?_ | refine V.blk ?_ | refine V.exit rfl ?_ | refine AOps.loadBox tt_ok rfl rfl rfl rfl rfl rfl rfl ?_ | refine AOps.boxF rfl rfl rfl rfl rfl rfl ?_ | refine AOps.bsF tt_ok rfl rfl rfl rfl rfl rfl ?_ | (refine AOps.alloc tt_ok rfl rfl rfl rfl rfl rfl ?_; intro bk) | refine AOps.storeBox tt_ok rfl rfl rfl rfl rfl rfl rfl rfl rfl rfl rfl ?_)
      refine V.ret1 tt_ok rfl rfl (PLe.of_eq ?_)
      rw [idxOf_at hlt hpre h]
    · repeat (first | refine AOps.q tt_ok rfl ?_ | refine AOps.nil ?_ | refine V.seq ?_ | refine V.region ?_ | refine V.skip ?_ | refine V.condT rfl ?_ | refine V.condF rfl ?_ | refine V.block ?_ | refine V.blk ?_ | refine V.exit rfl ?_ | refine AOps.loadBox tt_ok rfl rfl rfl rfl rfl rfl rfl ?_ | refine AOps.boxF rfl rfl rfl rfl rfl rfl ?_ | refine AOps.bsF tt_ok rfl rfl rfl rfl rfl rfl ?_ | (refine AOps.alloc tt_ok rfl rfl rfl rfl rfl rfl ?_; intro bk) | refine AOps.storeBox tt_ok rfl rfl rfl rfl rfl rfl rfl rfl rfl rfl rfl ?_)
      refine V.again (j + 1) (by omega) ⟨hlt, ?_⟩ (Gh.le (SLe.cons (PLe.of_eq ?_) (SLe.cons (PLe.of_eq rfl) (SLe.cons (PLe.of_eq rfl) (SLe.cons (PLe.of_eq rfl) SLe.nil)))) BLe.nil OLe.nil)
      · exact pre_succ hlt hpre h
      · exact pint_succ (by simp at hl; omega)
  · have hge : j = xs.length := by have : ¬ j < xs.length := by simpa using h
                                   omega
    repeat (first | refine AOps.q tt_ok rfl ?_ | refine AOps.nil ?_ | refine V.seq ?_ | refine V.region ?_ | refine V.skip ?_ | refine V.condT rfl ?_ | refine V.condF rfl ?_ | refine V.block ?_ | refine V.blk ?_ | refine V.exit rfl ?_ | refine AOps.loadBox tt_ok rfl rfl rfl rfl rfl rfl rfl ?_ | refine AOps.boxF rfl rfl rfl rfl rfl rfl ?_ | refine AOps.bsF tt_ok rfl rfl rfl rfl rfl rfl ?_ | (refine AOps.alloc tt_ok rfl rfl rfl rfl rfl rfl ?_; intro bk) | refine AOps.storeBox tt_ok rfl rfl rfl rfl rfl rfl rfl rfl rfl rfl rfl ?_)
    refine V.ret1 tt_ok rfl rfl (PLe.of_eq ?_)
    rw [idxOf_none (by rw [hge] at hpre; simpa using hpre)]

theorem containsRow {g : FuncId} {caps : List PV} {p : LVal → Bool} (xs : List LVal) (hg : ∀ (vs : Array Value) (w : World), (callFunc g vs).run Try.prog w = .ok (.enter g vs) w) (hp : ∀ x ∈ xs, PFun Try.prog g (.agg (encVal x) :: caps) (pbool (p x))) :
    PFun Try.prog 19 [.list 23 (xs.map encVal), .fn g caps] (pbool (xs.any p)) := by
  refine PCallsH.intro Try.func19 rfl Try.ntmps19 rfl ?_
  repeat (first | refine AOps.q tt_ok rfl ?_ | refine AOps.nil ?_ | refine V.seq ?_ | refine V.region ?_ | refine V.skip ?_ | refine V.condT rfl ?_ | refine V.condF rfl ?_ | refine V.block ?_ | refine V.blk ?_ | refine V.exit rfl ?_ | refine AOps.loadBox tt_ok rfl rfl rfl rfl rfl rfl rfl ?_ | refine AOps.boxF rfl rfl rfl rfl rfl rfl ?_ | refine AOps.bsF tt_ok rfl rfl rfl rfl rfl rfl ?_ | (refine AOps.alloc tt_ok rfl rfl rfl rfl rfl rfl ?_; intro bk) | refine AOps.storeBox tt_ok rfl rfl rfl rfl rfl rfl rfl rfl rfl rfl rfl ?_)
  refine AOps.callP rfl rfl rfl Try.call38 (PLeAll.refl _ _) (indexRow xs hg hp) rfl ?_
  repeat (first | refine AOps.q tt_ok rfl ?_ | refine AOps.nil ?_ | refine V.seq ?_ | refine V.region ?_ | refine V.skip ?_ | refine V.condT rfl ?_ | refine V.condF rfl ?_ | refine V.block ?_ | refine V.blk ?_ | refine V.exit rfl ?_ | refine AOps.loadBox tt_ok rfl rfl rfl rfl rfl rfl rfl ?_ | refine AOps.boxF rfl rfl rfl rfl rfl rfl ?_ | refine AOps.bsF tt_ok rfl rfl rfl rfl rfl rfl ?_ | (refine AOps.alloc tt_ok rfl rfl rfl rfl rfl rfl ?_; intro bk) | refine AOps.storeBox tt_ok rfl rfl rfl rfl rfl rfl rfl rfl rfl rfl rfl ?_)
  refine V.ret1 tt_ok rfl rfl (PLe.of_eq ?_)
  rw [idxOf_any]

theorem indexInt {g : FuncId} {caps : List PV} {p : Int → Bool} (xs : List Int) (hg : ∀ (vs : Array Value) (w : World), (callFunc g vs).run Try.prog w = .ok (.enter g vs) w) (hp : ∀ x ∈ xs, PFun Try.prog g (pint x :: caps) (pbool (p x))) :
    PFun Try.prog 64 [.list 3 (xs.map fun x => [pint x]), .fn g caps] (pint (idxOf p xs)) := by
  refine PCallsH.intro Try.func64 rfl Try.ntmps64 rfl ?_
  repeat (first | refine AOps.q tt_ok rfl ?_ | refine AOps.nil ?_ | refine V.seq ?_ | refine V.region ?_ | refine V.skip ?_ | refine V.condT rfl ?_ | refine V.condF rfl ?_ | refine V.block ?_ | refine V.blk ?_ | refine V.exit rfl ?_ | refine AOps.loadBox tt_ok rfl rfl rfl rfl rfl rfl rfl ?_ | refine AOps.boxF rfl rfl rfl rfl rfl rfl ?_ | refine AOps.bsF tt_ok rfl rfl rfl rfl rfl rfl ?_ | (refine AOps.alloc tt_ok rfl rfl rfl rfl rfl rfl ?_; intro bk) | refine AOps.storeBox tt_ok rfl rfl rfl rfl rfl rfl rfl rfl rfl rfl rfl ?_)
  refine V.lenF tt_ok 0 rfl rfl fun hl _ => ?_
  refine V.loopF (X := Nat) (fun j => ⟨19, upd (upd (upd (upd (fun _ => .any) 0 (.list 3 (xs.map fun x => [pint x]))) 1 (.fn g caps)) 7 (pint (xs.map fun x => [pint x]).length)) 8 (pint j), fun _ => none, fun _ => none⟩)
    (fun j => j ≤ xs.length ∧ ∀ x ∈ xs.take j, p x = false) (fun j => xs.length - j) 0 ⟨Nat.zero_le _, by simp⟩ (Gh.le (SLe.cons (PLe.of_eq rfl) (SLe.cons (PLe.of_eq rfl) (SLe.cons (PLe.of_eq rfl) (SLe.cons (PLe.of_eq rfl) SLe.nil)))) BLe.nil OLe.nil) ?_
  rintro j ⟨hj, hpre⟩
  repeat (first | refine AOps.q tt_ok rfl ?_ | refine AOps.nil ?_ | refine V.seq ?_ | refine V.region ?_ | refine V.skip ?_ | refine V.condT rfl ?_ | refine V.condF rfl ?_ | refine V.block ?_ | refine V.blk ?_ | refine V.exit rfl ?_ | refine AOps.loadBox tt_ok rfl rfl rfl rfl rfl rfl rfl ?_ | refine AOps.boxF rfl rfl rfl rfl rfl rfl ?_ | refine AOps.bsF tt_ok rfl rfl rfl rfl rfl rfl ?_ | (refine AOps.alloc tt_ok rfl rfl rfl rfl rfl rfl ?_; intro bk) | refine AOps.storeBox tt_ok rfl rfl rfl rfl rfl rfl rfl rfl rfl rfl rfl ?_)
  refine V.cond rfl (fun h => ?_) (fun h => ?_)
  · have hlt : j < xs.length := by simpa using h
    have hget : xs[j]? = some xs[j] := List.getElem?_eq_getElem hlt
    repeat (first | refine AOps.q tt_ok rfl ?_ | refine AOps.nil ?_ | refine V.seq ?_ | refine V.region ?_ | refine V.skip ?_ | refine V.condT rfl ?_ | refine V.condF rfl ?_ | refine V.block ?_ | refine V.blk ?_ | refine V.exit rfl ?_ | refine AOps.loadBox tt_ok rfl rfl rfl rfl rfl rfl rfl ?_ | refine AOps.boxF rfl rfl rfl rfl rfl rfl ?_ | refine AOps.bsF tt_ok rfl rfl rfl rfl rfl rfl ?_ | (refine AOps.alloc tt_ok rfl rfl rfl rfl rfl rfl ?_; intro bk) | refine AOps.storeBox tt_ok rfl rfl rfl rfl rfl rfl rfl rfl rfl rfl rfl ?_)
    refine AOps.idx tt_ok rfl rfl rfl rfl rfl rfl (Int.natCast_nonneg j) (r := [pint xs[j]]) (by simp [hget]) rfl ?_
    repeat (first | refine AOps.q tt_ok rfl ?_ | refine AOps.nil ?_ | refine V.seq ?_ | refine V.region ?_ | refine V.skip ?_ | refine V.condT rfl ?_ | refine V.condF rfl ?_ | refine V.block ?_ | refine V.blk ?_ | refine V.exit rfl ?_ | refine AOps.loadBox tt_ok rfl rfl rfl rfl rfl rfl rfl ?_ | refine AOps.boxF rfl rfl rfl rfl rfl rfl ?_ | refine AOps.bsF tt_ok rfl rfl rfl rfl rfl rfl ?_ | (refine AOps.alloc tt_ok rfl rfl rfl rfl rfl rfl ?_; intro bk) | refine AOps.storeBox tt_ok rfl rfl rfl rfl rfl rfl rfl rfl rfl rfl rfl ?_)
    refine AOps.callP rfl rfl rfl hg (PLeAll.refl _ _) (hp xs[j] (List.getElem_mem hlt)) rfl ?_
    repeat (first | refine AOps.q tt_ok rfl ?_ | refine AOps.nil ?_ | refine V.seq ?_ | refine V.region ?_ | refine V.skip ?_ | refine V.condT rfl ?_ | refine V.condF rfl ?_ | refine V.block ?_ | refine V.blk ?_ | refine V.exit rfl ?_ | refine AOps.loadBox tt_ok rfl rfl rfl rfl rfl rfl rfl ?_ | refine AOps.boxF rfl rfl rfl rfl rfl rfl ?_ | refine AOps.bsF tt_ok rfl rfl rfl rfl rfl rfl ?_ | (refine AOps.alloc tt_ok rfl rfl rfl rfl rfl rfl ?_; intro bk) | refine AOps.storeBox tt_ok rfl rfl rfl rfl rfl rfl rfl rfl rfl rfl rfl ?_)
    refine V.cond rfl (fun h => ?_) (fun h => ?_)
    · repeat (first | refine AOps.q tt_ok rfl ?_ | refine AOps.nil ?_ | refine V.seq ?_ | refine V.region ?_ | refine V.skip ?_ | refine V.condT rfl ?_ | refine V.condF rfl ?_ | refine V.block ?_ | refine V.blk ?_ | refine V.exit rfl ?_ | refine AOps.loadBox tt_ok rfl rfl rfl rfl rfl rfl rfl ?_ | refine AOps.boxF rfl rfl rfl rfl rfl rfl ?_ | refine AOps.bsF tt_ok rfl rfl rfl rfl rfl rfl ?_ | (refine AOps.alloc tt_ok rfl rfl rfl rfl rfl rfl ?_; intro bk) | refine AOps.storeBox tt_ok rfl rfl rfl rfl rfl rfl rfl rfl rfl rfl rfl ?_)
      refine V.ret1 tt_ok rfl rfl (PLe.of_eq ?_)
      rw [idxOf_at hlt hpre h]
    · repeat (first | refine AOps.q tt_ok rfl ?_ | refine AOps.nil ?_ | refine V.seq ?_ | refine V.region ?_ | refine V.skip ?_ | refine V.condT rfl ?_ | refine V.condF rfl ?_ | refine V.block ?_ | refine V.blk ?_ | refine V.exit rfl ?_ | refine AOps.loadBox tt_ok rfl rfl rfl rfl rfl rfl rfl ?_ | refine AOps.boxF rfl rfl rfl rfl rfl rfl ?_ | refine AOps.bsF tt_ok rfl rfl rfl rfl rfl rfl ?_ | (refine AOps.alloc tt_ok rfl rfl rfl rfl rfl rfl ?_; intro bk) | refine AOps.storeBox tt_ok rfl rfl rfl rfl rfl rfl rfl rfl rfl rfl rfl ?_)
      refine V.again (j + 1) (by omega) ⟨hlt, ?_⟩ (Gh.le (SLe.cons (PLe.of_eq ?_) (SLe.cons (PLe.of_eq rfl) (SLe.cons (PLe.of_eq rfl) (SLe.cons (PLe.of_eq rfl) SLe.nil)))) BLe.nil OLe.nil)
      · exact pre_succ hlt hpre h
      · exact pint_succ (by simp at hl; omega)
  · have hge : j = xs.length := by have : ¬ j < xs.length := by simpa using h
                                   omega
    repeat (first | refine AOps.q tt_ok rfl ?_ | refine AOps.nil ?_ | refine V.seq ?_ | refine V.region ?_ | refine V.skip ?_ | refine V.condT rfl ?_ | refine V.condF rfl ?_ | refine V.block ?_ | refine V.blk ?_ | refine V.exit rfl ?_ | refine AOps.loadBox tt_ok rfl rfl rfl rfl rfl rfl rfl ?_ | refine AOps.boxF rfl rfl rfl rfl rfl rfl ?_ | refine AOps.bsF tt_ok rfl rfl rfl rfl rfl rfl ?_ | (refine AOps.alloc tt_ok rfl rfl rfl rfl rfl rfl ?_; intro bk) | refine AOps.storeBox tt_ok rfl rfl rfl rfl rfl rfl rfl rfl rfl rfl rfl ?_)
    refine V.ret1 tt_ok rfl rfl (PLe.of_eq ?_)
    rw [idxOf_none (by rw [hge] at hpre; simpa using hpre)]

theorem containsInt {g : FuncId} {caps : List PV} {p : Int → Bool} (xs : List Int) (hg : ∀ (vs : Array Value) (w : World), (callFunc g vs).run Try.prog w = .ok (.enter g vs) w) (hp : ∀ x ∈ xs, PFun Try.prog g (pint x :: caps) (pbool (p x))) :
    PFun Try.prog 60 [.list 3 (xs.map fun x => [pint x]), .fn g caps] (pbool (xs.any p)) := by
  refine PCallsH.intro Try.func60 rfl Try.ntmps60 rfl ?_
  repeat (first | refine AOps.q tt_ok rfl ?_ | refine AOps.nil ?_ | refine V.seq ?_ | refine V.region ?_ | refine V.skip ?_ | refine V.condT rfl ?_ | refine V.condF rfl ?_ | refine V.block ?_ | refine V.blk ?_ | refine V.exit rfl ?_ | refine AOps.loadBox tt_ok rfl rfl rfl rfl rfl rfl rfl ?_ | refine AOps.boxF rfl rfl rfl rfl rfl rfl ?_ | refine AOps.bsF tt_ok rfl rfl rfl rfl rfl rfl ?_ | (refine AOps.alloc tt_ok rfl rfl rfl rfl rfl rfl ?_; intro bk) | refine AOps.storeBox tt_ok rfl rfl rfl rfl rfl rfl rfl rfl rfl rfl rfl ?_)
  refine AOps.callP rfl rfl rfl Try.call64 (PLeAll.refl _ _) (indexInt xs hg hp) rfl ?_
  repeat (first | refine AOps.q tt_ok rfl ?_ | refine AOps.nil ?_ | refine V.seq ?_ | refine V.region ?_ | refine V.skip ?_ | refine V.condT rfl ?_ | refine V.condF rfl ?_ | refine V.block ?_ | refine V.blk ?_ | refine V.exit rfl ?_ | refine AOps.loadBox tt_ok rfl rfl rfl rfl rfl rfl rfl ?_ | refine AOps.boxF rfl rfl rfl rfl rfl rfl ?_ | refine AOps.bsF tt_ok rfl rfl rfl rfl rfl rfl ?_ | (refine AOps.alloc tt_ok rfl rfl rfl rfl rfl rfl ?_; intro bk) | refine AOps.storeBox tt_ok rfl rfl rfl rfl rfl rfl rfl rfl rfl rfl rfl ?_)
  refine V.ret1 tt_ok rfl rfl (PLe.of_eq ?_)
  rw [idxOf_any]


theorem indexStr (s : List UInt8) (xs : List (List UInt8)) :
    PFun Try.prog 33 [pstrs xs, .str s] (pint (idxOf (fun x => s == x) xs)) := by
  refine PCallsH.intro Try.func33 rfl Try.ntmps33 rfl ?_
  repeat (first | refine AOps.q tt_ok rfl ?_ | refine AOps.nil ?_ | refine V.seq ?_ | refine V.region ?_ | refine V.skip ?_ | refine V.condT rfl ?_ | refine V.condF rfl ?_ | refine V.block ?_ | refine V.blk ?_ | refine V.exit rfl ?_ | refine AOps.loadBox tt_ok rfl rfl rfl rfl rfl rfl rfl ?_ | refine AOps.boxF rfl rfl rfl rfl rfl rfl ?_ | refine AOps.bsF tt_ok rfl rfl rfl rfl rfl rfl ?_ | (refine AOps.alloc tt_ok rfl rfl rfl rfl rfl rfl ?_; intro bk) | refine AOps.storeBox tt_ok rfl rfl rfl rfl rfl rfl rfl rfl rfl rfl rfl ?_)
  refine V.lenF tt_ok 0 rfl rfl fun hl _ => ?_
  refine V.loopF (X := Nat) (fun j => ⟨19, upd (upd (upd (upd (fun _ => .any) 0 (pstrs xs)) 1 (.str s)) 7 (pint (xs.map fun s => [PV.str s]).length)) 8 (pint j), fun _ => none, fun _ => none⟩)
    (fun j => j ≤ xs.length ∧ ∀ x ∈ xs.take j, (s == x) = false) (fun j => xs.length - j) 0 ⟨Nat.zero_le _, by simp⟩ (Gh.le (SLe.cons (PLe.of_eq rfl) (SLe.cons (PLe.of_eq rfl) (SLe.cons (PLe.of_eq rfl) (SLe.cons (PLe.of_eq rfl) SLe.nil)))) BLe.nil OLe.nil) ?_
  rintro j ⟨hj, hpre⟩
  repeat (first | refine AOps.q tt_ok rfl ?_ | refine AOps.nil ?_ | refine V.seq ?_ | refine V.region ?_ | refine V.skip ?_ | refine V.condT rfl ?_ | refine V.condF rfl ?_ | refine V.block ?_ | refine V.blk ?_ | refine V.exit rfl ?_ | refine AOps.loadBox tt_ok rfl rfl rfl rfl rfl rfl rfl ?_ | refine AOps.boxF rfl rfl rfl rfl rfl rfl ?_ | refine AOps.bsF tt_ok rfl rfl rfl rfl rfl rfl ?_ | (refine AOps.alloc tt_ok rfl rfl rfl rfl rfl rfl ?_; intro bk) | refine AOps.storeBox tt_ok rfl rfl rfl rfl rfl rfl rfl rfl rfl rfl rfl ?_)
  refine V.cond rfl (fun h => ?_) (fun h => ?_)
  · have hlt : j < xs.length := by simpa using h
    have hget : xs[j]? = some xs[j] := List.getElem?_eq_getElem hlt
    repeat (first | refine AOps.q tt_ok rfl ?_ | refine AOps.nil ?_ | refine V.seq ?_ | refine V.region ?_ | refine V.skip ?_ | refine V.condT rfl ?_ | refine V.condF rfl ?_ | refine V.block ?_ | refine V.blk ?_ | refine V.exit rfl ?_ | refine AOps.loadBox tt_ok rfl rfl rfl rfl rfl rfl rfl ?_ | refine AOps.boxF rfl rfl rfl rfl rfl rfl ?_ | refine AOps.bsF tt_ok rfl rfl rfl rfl rfl rfl ?_ | (refine AOps.alloc tt_ok rfl rfl rfl rfl rfl rfl ?_; intro bk) | refine AOps.storeBox tt_ok rfl rfl rfl rfl rfl rfl rfl rfl rfl rfl rfl ?_)
    refine AOps.idx tt_ok rfl rfl rfl rfl rfl rfl (Int.natCast_nonneg j) (r := [.str xs[j]]) (by simp [hget]) rfl ?_
    repeat (first | refine AOps.q tt_ok rfl ?_ | refine AOps.nil ?_ | refine V.seq ?_ | refine V.region ?_ | refine V.skip ?_ | refine V.condT rfl ?_ | refine V.condF rfl ?_ | refine V.block ?_ | refine V.blk ?_ | refine V.exit rfl ?_ | refine AOps.loadBox tt_ok rfl rfl rfl rfl rfl rfl rfl ?_ | refine AOps.boxF rfl rfl rfl rfl rfl rfl ?_ | refine AOps.bsF tt_ok rfl rfl rfl rfl rfl rfl ?_ | (refine AOps.alloc tt_ok rfl rfl rfl rfl rfl rfl ?_; intro bk) | refine AOps.storeBox tt_ok rfl rfl rfl rfl rfl rfl rfl rfl rfl rfl rfl ?_)
    refine V.cond rfl (fun h => ?_) (fun h => ?_)
    · repeat (first | refine AOps.q tt_ok rfl ?_ | refine AOps.nil ?_ | refine V.seq ?_ | refine V.region ?_ | refine V.skip ?_ | refine V.condT rfl ?_ | refine V.condF rfl ?_ | refine V.block ?_ | refine V.blk ?_ | refine V.exit rfl ?_ | refine AOps.loadBox tt_ok rfl rfl rfl rfl rfl rfl rfl ?_ | refine AOps.boxF rfl rfl rfl rfl rfl rfl ?_ | refine AOps.bsF tt_ok rfl rfl rfl rfl rfl rfl ?_ | (refine AOps.alloc tt_ok rfl rfl rfl rfl rfl rfl ?_; intro bk) | refine AOps.storeBox tt_ok rfl rfl rfl rfl rfl rfl rfl rfl rfl rfl rfl ?_)
      refine V.ret1 tt_ok rfl rfl (PLe.of_eq ?_)
      rw [idxOf_at hlt hpre h]
    · repeat (first | refine AOps.q tt_ok rfl ?_ | refine AOps.nil ?_ | refine V.seq ?_ | refine V.region ?_ | refine V.skip ?_ | refine V.condT rfl ?_ | refine V.condF rfl ?_ | refine V.block ?_ | refine V.blk ?_ | refine V.exit rfl ?_ | refine AOps.loadBox tt_ok rfl rfl rfl rfl rfl rfl rfl ?_ | refine AOps.boxF rfl rfl rfl rfl rfl rfl ?_ | refine AOps.bsF tt_ok rfl rfl rfl rfl rfl rfl ?_ | (refine AOps.alloc tt_ok rfl rfl rfl rfl rfl rfl ?_; intro bk) | refine AOps.storeBox tt_ok rfl rfl rfl rfl rfl rfl rfl rfl rfl rfl rfl ?_)
      refine V.again (j + 1) (by omega) ⟨hlt, ?_⟩ (Gh.le (SLe.cons (PLe.of_eq ?_) (SLe.cons (PLe.of_eq rfl) (SLe.cons (PLe.of_eq rfl) (SLe.cons (PLe.of_eq rfl) SLe.nil)))) BLe.nil OLe.nil)
      · exact pre_succ (p := fun x => s == x) hlt hpre h
      · exact pint_succ (by simp at hl; omega)
  · have hge : j = xs.length := by have : ¬ j < xs.length := by simpa using h
                                   omega
    repeat (first | refine AOps.q tt_ok rfl ?_ | refine AOps.nil ?_ | refine V.seq ?_ | refine V.region ?_ | refine V.skip ?_ | refine V.condT rfl ?_ | refine V.condF rfl ?_ | refine V.block ?_ | refine V.blk ?_ | refine V.exit rfl ?_ | refine AOps.loadBox tt_ok rfl rfl rfl rfl rfl rfl rfl ?_ | refine AOps.boxF rfl rfl rfl rfl rfl rfl ?_ | refine AOps.bsF tt_ok rfl rfl rfl rfl rfl rfl ?_ | (refine AOps.alloc tt_ok rfl rfl rfl rfl rfl rfl ?_; intro bk) | refine AOps.storeBox tt_ok rfl rfl rfl rfl rfl rfl rfl rfl rfl rfl rfl ?_)
    refine V.ret1 tt_ok rfl rfl (PLe.of_eq ?_)
    rw [idxOf_none (by rw [hge] at hpre; simpa using hpre)]

theorem containsStr (s : List UInt8) (xs : List (List UInt8)) :
    PFun Try.prog 18 [pstrs xs, .str s] (pbool (xs.any fun x => s == x)) := by
  refine PCallsH.intro Try.func18 rfl Try.ntmps18 rfl ?_
  repeat (first | refine AOps.q tt_ok rfl ?_ | refine AOps.nil ?_ | refine V.seq ?_ | refine V.region ?_ | refine V.skip ?_ | refine V.condT rfl ?_ | refine V.condF rfl ?_ | refine V.block ?_ | refine V.blk ?_ | refine V.exit rfl ?_ | refine AOps.loadBox tt_ok rfl rfl rfl rfl rfl rfl rfl ?_ | refine AOps.boxF rfl rfl rfl rfl rfl rfl ?_ | refine AOps.bsF tt_ok rfl rfl rfl rfl rfl rfl ?_ | (refine AOps.alloc tt_ok rfl rfl rfl rfl rfl rfl ?_; intro bk) | refine AOps.storeBox tt_ok rfl rfl rfl rfl rfl rfl rfl rfl rfl rfl rfl ?_)
  refine AOps.callP (g := 33) rfl rfl rfl Try.call33 (PLeAll.refl _ _) (indexStr s xs) rfl ?_
  repeat (first | refine AOps.q tt_ok rfl ?_ | refine AOps.nil ?_ | refine V.seq ?_ | refine V.region ?_ | refine V.skip ?_ | refine V.condT rfl ?_ | refine V.condF rfl ?_ | refine V.block ?_ | refine V.blk ?_ | refine V.exit rfl ?_ | refine AOps.loadBox tt_ok rfl rfl rfl rfl rfl rfl rfl ?_ | refine AOps.boxF rfl rfl rfl rfl rfl rfl ?_ | refine AOps.bsF tt_ok rfl rfl rfl rfl rfl rfl ?_ | (refine AOps.alloc tt_ok rfl rfl rfl rfl rfl rfl ?_; intro bk) | refine AOps.storeBox tt_ok rfl rfl rfl rfl rfl rfl rfl rfl rfl rfl rfl ?_)
  refine V.ret1 tt_ok rfl rfl (PLe.of_eq ?_)
  rw [idxOf_any]
end Go.Proofs.Ytblheceepnncdaa
