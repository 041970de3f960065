/- Expressions, part L: counting nodes. -/
import Derived.Test.YtblheceepnncdaaExJ
import Derived.Test.YtblheceepnncdaaExG
namespace Go.Proofs.Ytblheceepnncdaa
open Go Go.Ab
attribute [local irreducible] V AOps DOps Gh Eff PCallsH IntKind.wrap
set_option maxRecDepth 4000

mutual
def nodesE : LExpr → Int → Int
  | .mk _ _ _ _ args, m => nodesL args m
def nodesL : List LExpr → Int → Int
  | [], m => m
  | a :: r, m => if wr (m - 1) < 0 then -1 else if nodesE a (wr (m - 1)) < 0 then -1 else nodesL r (nodesE a (wr (m - 1)))
end
theorem nodesE_eq (e : LExpr) (m : Int) : nodesE e m = nodesL e.args m := by
  cases e
  rw [nodesE]
  rfl

theorem nodesStep (e : LExpr) (most : Int) (ih : ∀ a ∈ e.args, ∀ m, PFun Try.prog 15 [pexpr a, pint m] (pint (nodesE a m))) :
    PFun Try.prog 15 [pexpr e, pint most] (pint (nodesE e most)) := by
  rw [nodesE_eq]
  refine PCallsH.intro Try.func15 rfl Try.ntmps15 rfl ?_
  repeat (first | refine AOps.q tt_ok rfl ?_ | refine AOps.nil ?_ | refine V.seq ?_ | refine V.region ?_ | refine V.skip ?_ | refine V.condT rfl ?_ | refine V.condF rfl ?_ | refine V.block ?_ | refine V.blk ?_ | refine V.exit rfl ?_ | refine AOps.loadBox tt_ok rfl rfl rfl rfl rfl rfl rfl ?_ | refine AOps.boxF rfl rfl rfl rfl rfl rfl ?_ | refine AOps.bsF tt_ok rfl rfl rfl rfl rfl rfl ?_ | (refine AOps.alloc tt_ok rfl rfl rfl rfl rfl rfl ?_; intro bk) | refine AOps.storeBox tt_ok rfl rfl rfl rfl rfl rfl rfl rfl rfl rfl rfl ?_)
  refine V.lenF tt_ok 8 rfl rfl fun hl _ => ?_
  rw [List.length_map] at hl
  refine V.loopF (X := Nat × Int) (fun X => ⟨25, upd (upd (upd (upd (fun _ => .any) 1 (pint X.2)) 8 (pexprs e.args)) 9 (pint (e.args.map encExpr).length)) 10 (pint X.1), fun _ => none, fun _ => none⟩)
    (fun X => X.1 ≤ e.args.length ∧ nodesL (e.args.drop X.1) X.2 = nodesL e.args most) (fun X => e.args.length - X.1) (0, most) ⟨Nat.zero_le _, rfl⟩ (Gh.le (SLe.cons (PLe.of_eq rfl) (SLe.cons (PLe.of_eq rfl) (SLe.cons (PLe.of_eq rfl) (SLe.cons (PLe.of_eq rfl) SLe.nil)))) BLe.nil OLe.nil) ?_
  rintro ⟨j, m⟩ ⟨hj, hm⟩
  replace hj : j ≤ e.args.length := hj
  replace hm : nodesL (e.args.drop j) m = nodesL e.args most := hm
  rw [← hm]
  repeat (first | refine AOps.q tt_ok rfl ?_ | refine AOps.nil ?_ | refine V.seq ?_ | refine V.region ?_ | refine V.skip ?_ | refine V.condT rfl ?_ | refine V.condF rfl ?_ | refine V.block ?_ | refine V.blk ?_ | refine V.exit rfl ?_ | refine AOps.loadBox tt_ok rfl rfl rfl rfl rfl rfl rfl ?_ | refine AOps.boxF rfl rfl rfl rfl rfl rfl ?_ | refine AOps.bsF tt_ok rfl rfl rfl rfl rfl rfl ?_ | (refine AOps.alloc tt_ok rfl rfl rfl rfl rfl rfl ?_; intro bk) | refine AOps.storeBox tt_ok rfl rfl rfl rfl rfl rfl rfl rfl rfl rfl rfl ?_)
  refine V.cond rfl (fun h => ?_) (fun h => ?_)
  · have hlt : j < e.args.length := by simpa using h
    have hd : e.args.drop j = e.args[j] :: e.args.drop (j + 1) := List.drop_eq_getElem_cons hlt
    rw [hd, nodesL]
    repeat (first | refine AOps.q tt_ok rfl ?_ | refine AOps.nil ?_ | refine V.seq ?_ | refine V.region ?_ | refine V.skip ?_ | refine V.condT rfl ?_ | refine V.condF rfl ?_ | refine V.block ?_ | refine V.blk ?_ | refine V.exit rfl ?_ | refine AOps.loadBox tt_ok rfl rfl rfl rfl rfl rfl rfl ?_ | refine AOps.boxF rfl rfl rfl rfl rfl rfl ?_ | refine AOps.bsF tt_ok rfl rfl rfl rfl rfl rfl ?_ | (refine AOps.alloc tt_ok rfl rfl rfl rfl rfl rfl ?_; intro bk) | refine AOps.storeBox tt_ok rfl rfl rfl rfl rfl rfl rfl rfl rfl rfl rfl ?_)
    refine AOps.idx tt_ok rfl rfl rfl rfl rfl rfl (Int.natCast_nonneg j) (getExpr hlt) rfl ?_
    repeat (first | refine AOps.q tt_ok rfl ?_ | refine AOps.nil ?_ | refine V.seq ?_ | refine V.region ?_ | refine V.skip ?_ | refine V.condT rfl ?_ | refine V.condF rfl ?_ | refine V.block ?_ | refine V.blk ?_ | refine V.exit rfl ?_ | refine AOps.loadBox tt_ok rfl rfl rfl rfl rfl rfl rfl ?_ | refine AOps.boxF rfl rfl rfl rfl rfl rfl ?_ | refine AOps.bsF tt_ok rfl rfl rfl rfl rfl rfl ?_ | (refine AOps.alloc tt_ok rfl rfl rfl rfl rfl rfl ?_; intro bk) | refine AOps.storeBox tt_ok rfl rfl rfl rfl rfl rfl rfl rfl rfl rfl rfl ?_)
    refine V.cond rfl (fun h1 => ?_) (fun h1 => ?_)
    · repeat (first | refine AOps.q tt_ok rfl ?_ | refine AOps.nil ?_ | refine V.seq ?_ | refine V.region ?_ | refine V.skip ?_ | refine V.condT rfl ?_ | refine V.condF rfl ?_ | refine V.block ?_ | refine V.blk ?_ | refine V.exit rfl ?_ | refine AOps.loadBox tt_ok rfl rfl rfl rfl rfl rfl rfl ?_ | refine AOps.boxF rfl rfl rfl rfl rfl rfl ?_ | refine AOps.bsF tt_ok rfl rfl rfl rfl rfl rfl ?_ | (refine AOps.alloc tt_ok rfl rfl rfl rfl rfl rfl ?_; intro bk) | refine AOps.storeBox tt_ok rfl rfl rfl rfl rfl rfl rfl rfl rfl rfl rfl ?_)
      refine V.ret1 tt_ok rfl rfl (PLe.of_eq ?_)
      rw [if_pos (by simpa [wr] using h1)]
    · rw [if_neg (by simpa [wr] using h1)]
      repeat (first | refine AOps.q tt_ok rfl ?_ | refine AOps.nil ?_ | refine V.seq ?_ | refine V.region ?_ | refine V.skip ?_ | refine V.condT rfl ?_ | refine V.condF rfl ?_ | refine V.block ?_ | refine V.blk ?_ | refine V.exit rfl ?_ | refine AOps.loadBox tt_ok rfl rfl rfl rfl rfl rfl rfl ?_ | refine AOps.boxF rfl rfl rfl rfl rfl rfl ?_ | refine AOps.bsF tt_ok rfl rfl rfl rfl rfl rfl ?_ | (refine AOps.alloc tt_ok rfl rfl rfl rfl rfl rfl ?_; intro bk) | refine AOps.storeBox tt_ok rfl rfl rfl rfl rfl rfl rfl rfl rfl rfl rfl ?_)
      refine AOps.callP (g := 15) rfl rfl rfl Try.call15 (PLeAll.refl _ _) (ih _ (List.getElem_mem hlt) _) rfl ?_
      repeat (first | refine AOps.q tt_ok rfl ?_ | refine AOps.nil ?_ | refine V.seq ?_ | refine V.region ?_ | refine V.skip ?_ | refine V.condT rfl ?_ | refine V.condF rfl ?_ | refine V.block ?_ | refine V.blk ?_ | refine V.exit rfl ?_ | refine AOps.loadBox tt_ok rfl rfl rfl rfl rfl rfl rfl ?_ | refine AOps.boxF rfl rfl rfl rfl rfl rfl ?_ | refine AOps.bsF tt_ok rfl rfl rfl rfl rfl rfl ?_ | (refine AOps.alloc tt_ok rfl rfl rfl rfl rfl rfl ?_; intro bk) | refine AOps.storeBox tt_ok rfl rfl rfl rfl rfl rfl rfl rfl rfl rfl rfl ?_)
      refine V.cond rfl (fun h2 => ?_) (fun h2 => ?_)
      · repeat (first | refine AOps.q tt_ok rfl ?_ | refine AOps.nil ?_ | refine V.seq ?_ | refine V.region ?_ | refine V.skip ?_ | refine V.condT rfl ?_ | refine V.condF rfl ?_ | refine V.block ?_ | refine V.blk ?_ | refine V.exit rfl ?_ | refine AOps.loadBox tt_ok rfl rfl rfl rfl rfl rfl rfl ?_ | refine AOps.boxF rfl rfl rfl rfl rfl rfl ?_ | refine AOps.bsF tt_ok rfl rfl rfl rfl rfl rfl ?_ | (refine AOps.alloc tt_ok rfl rfl rfl rfl rfl rfl ?_; intro bk) | refine AOps.storeBox tt_ok rfl rfl rfl rfl rfl rfl rfl rfl rfl rfl rfl ?_)
        refine V.ret1 tt_ok rfl rfl (PLe.of_eq ?_)
        rw [if_pos (by simpa [wr] using h2)]
      · repeat (first | refine AOps.q tt_ok rfl ?_ | refine AOps.nil ?_ | refine V.seq ?_ | refine V.region ?_ | refine V.skip ?_ | refine V.condT rfl ?_ | refine V.condF rfl ?_ | refine V.block ?_ | refine V.blk ?_ | refine V.exit rfl ?_ | refine AOps.loadBox tt_ok rfl rfl rfl rfl rfl rfl rfl ?_ | refine AOps.boxF rfl rfl rfl rfl rfl rfl ?_ | refine AOps.bsF tt_ok rfl rfl rfl rfl rfl rfl ?_ | (refine AOps.alloc tt_ok rfl rfl rfl rfl rfl rfl ?_; intro bk) | refine AOps.storeBox tt_ok rfl rfl rfl rfl rfl rfl rfl rfl rfl rfl rfl ?_)
        refine V.again (j + 1, nodesE e.args[j] (wr (m - 1))) ?_ ⟨hlt, ?_⟩ (Gh.le (SLe.cons (PLe.of_eq (pint_succ (by omega))) (SLe.cons (PLe.of_eq rfl) (SLe.cons (PLe.of_eq rfl) (SLe.cons (PLe.of_eq rfl) SLe.nil)))) BLe.nil OLe.nil)
        · show e.args.length - (j + 1) < e.args.length - j
          omega
        · rw [if_neg (by simpa [wr] using h2)]
  have hge : j = e.args.length := by have : ¬ j < e.args.length := by simpa using h
                                     omega
  repeat (first | refine AOps.q tt_ok rfl ?_ | refine AOps.nil ?_ | refine V.seq ?_ | refine V.region ?_ | refine V.skip ?_ | refine V.condT rfl ?_ | refine V.condF rfl ?_ | refine V.block ?_ | refine V.blk ?_ | refine V.exit rfl ?_ | refine AOps.loadBox tt_ok rfl rfl rfl rfl rfl rfl rfl ?_ | refine AOps.boxF rfl rfl rfl rfl rfl rfl ?_ | refine AOps.bsF tt_ok rfl rfl rfl rfl rfl rfl ?_ | (refine AOps.alloc tt_ok rfl rfl rfl rfl rfl rfl ?_; intro bk) | refine AOps.storeBox tt_ok rfl rfl rfl rfl rfl rfl rfl rfl rfl rfl rfl ?_)
  refine V.ret1 tt_ok rfl rfl (PLe.of_eq ?_)
  rw [hge, List.drop_length, nodesL]

theorem nodes_spec : ∀ (e : LExpr) (m : Int), PFun Try.prog 15 [pexpr e, pint m] (pint (nodesE e m))
  | .mk k n i x args, m => nodesStep (.mk k n i x args) m fun a ha m => by
    have ha' : a ∈ args := ha
    exact nodes_spec a m
end Go.Proofs.Ytblheceepnncdaa
