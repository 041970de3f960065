/- Expressions, part H: typing: size, names, the search of a column. -/
import Derived.Test.YtblheceepnncdaaExF
namespace Go.Proofs.Ytblheceepnncdaa
open Go Go.Ab
attribute [local irreducible] V AOps DOps Gh Eff PCallsH IntKind.wrap
set_option maxRecDepth 4000

def sizeStep (acc r : Int × Int) : Int × Int := (wr (acc.1 + r.1), if r.2 > acc.2 then r.2 else acc.2)
mutual
def sizeE : LExpr → Int × Int
  | .mk _ _ _ _ args => let r := (sizesE args).foldl sizeStep (1, 0); (r.1, wr (r.2 + 1))
def sizesE : List LExpr → List (Int × Int)
  | [] => []
  | e :: r => sizeE e :: sizesE r
end
theorem sizesE_map : ∀ l, sizesE l = l.map sizeE
  | [] => rfl
  | e :: r => by simp [sizesE, sizesE_map r]
theorem sizeE_eq (e : LExpr) : sizeE e = (((e.args.map sizeE).foldl sizeStep (1, 0)).1, wr (((e.args.map sizeE).foldl sizeStep (1, 0)).2 + 1)) := by
  cases e
  rw [sizeE, sizesE_map]
  rfl

theorem foldl_take {α β : Type} (g : β → α → β) (z : β) {l : List α} {j : Nat} (h : j < l.length) : (l.take (j + 1)).foldl g z = g ((l.take j).foldl g z) l[j] := by
  rw [List.take_add_one, List.getElem?_eq_getElem h, List.foldl_append]
  rfl

theorem sizeStep_spec (e : LExpr) (ih : ∀ a ∈ e.args, PFun Try.prog 42 [pexpr a] (.tup [pint (sizeE a).1, pint (sizeE a).2])) :
    PFun Try.prog 42 [pexpr e] (.tup [pint (sizeE e).1, pint (sizeE e).2]) := by
  refine PCallsH.intro Try.func42 rfl Try.ntmps42 rfl ?_
  repeat (first | refine AOps.q tt_ok rfl ?_ | refine AOps.nil ?_ | refine V.seq ?_ | refine V.region ?_ | refine V.skip ?_ | refine V.condT rfl ?_ | refine V.condF rfl ?_ | refine V.block ?_ | refine V.blk ?_ | refine V.exit rfl ?_ | refine AOps.loadBox tt_ok rfl rfl rfl rfl rfl rfl rfl ?_ | refine AOps.boxF rfl rfl rfl rfl rfl rfl ?_ | refine AOps.bsF tt_ok rfl rfl rfl rfl rfl rfl ?_ | (refine AOps.alloc tt_ok rfl rfl rfl rfl rfl rfl ?_; intro bk) | refine AOps.storeBox tt_ok rfl rfl rfl rfl rfl rfl rfl rfl rfl rfl rfl ?_)
  refine V.lenF tt_ok 11 rfl rfl fun hl _ => ?_
  rw [List.length_map] at hl
  refine V.loopF (X := Nat) (fun j => ⟨32, upd (upd (upd (upd (upd (fun _ => .any) 5 (pint (((e.args.map sizeE).take j).foldl sizeStep (1, 0)).2)) 4 (pint (((e.args.map sizeE).take j).foldl sizeStep (1, 0)).1)) 11 (pexprs e.args)) 12 (pint (e.args.map encExpr).length)) 13 (pint j), fun _ => none, fun _ => none⟩)
    (fun j => j ≤ e.args.length) (fun j => e.args.length - j) 0 (Nat.zero_le _) (Gh.le (SLe.cons (PLe.of_eq rfl) (SLe.cons (PLe.of_eq rfl) (SLe.cons (PLe.of_eq rfl) (SLe.cons (PLe.of_eq rfl) (SLe.cons (PLe.of_eq rfl) SLe.nil))))) BLe.nil OLe.nil) ?_
  intro j hj
  repeat (first | refine AOps.q tt_ok rfl ?_ | refine AOps.nil ?_ | refine V.seq ?_ | refine V.region ?_ | refine V.skip ?_ | refine V.condT rfl ?_ | refine V.condF rfl ?_ | refine V.block ?_ | refine V.blk ?_ | refine V.exit rfl ?_ | refine AOps.loadBox tt_ok rfl rfl rfl rfl rfl rfl rfl ?_ | refine AOps.boxF rfl rfl rfl rfl rfl rfl ?_ | refine AOps.bsF tt_ok rfl rfl rfl rfl rfl rfl ?_ | (refine AOps.alloc tt_ok rfl rfl rfl rfl rfl rfl ?_; intro bk) | refine AOps.storeBox tt_ok rfl rfl rfl rfl rfl rfl rfl rfl rfl rfl rfl ?_)
  refine V.cond rfl (fun h => ?_) (fun h => ?_)
  · have hlt : j < e.args.length := by simpa using h
    repeat (first | refine AOps.q tt_ok rfl ?_ | refine AOps.nil ?_ | refine V.seq ?_ | refine V.region ?_ | refine V.skip ?_ | refine V.condT rfl ?_ | refine V.condF rfl ?_ | refine V.block ?_ | refine V.blk ?_ | refine V.exit rfl ?_ | refine AOps.loadBox tt_ok rfl rfl rfl rfl rfl rfl rfl ?_ | refine AOps.boxF rfl rfl rfl rfl rfl rfl ?_ | refine AOps.bsF tt_ok rfl rfl rfl rfl rfl rfl ?_ | (refine AOps.alloc tt_ok rfl rfl rfl rfl rfl rfl ?_; intro bk) | refine AOps.storeBox tt_ok rfl rfl rfl rfl rfl rfl rfl rfl rfl rfl rfl ?_)
    refine AOps.idx tt_ok rfl rfl rfl rfl rfl rfl (Int.natCast_nonneg j) (getExpr hlt) rfl ?_
    repeat (first | refine AOps.q tt_ok rfl ?_ | refine AOps.nil ?_ | refine V.seq ?_ | refine V.region ?_ | refine V.skip ?_ | refine V.condT rfl ?_ | refine V.condF rfl ?_ | refine V.block ?_ | refine V.blk ?_ | refine V.exit rfl ?_ | refine AOps.loadBox tt_ok rfl rfl rfl rfl rfl rfl rfl ?_ | refine AOps.boxF rfl rfl rfl rfl rfl rfl ?_ | refine AOps.bsF tt_ok rfl rfl rfl rfl rfl rfl ?_ | (refine AOps.alloc tt_ok rfl rfl rfl rfl rfl rfl ?_; intro bk) | refine AOps.storeBox tt_ok rfl rfl rfl rfl rfl rfl rfl rfl rfl rfl rfl ?_)
    refine AOps.callP (g := 42) rfl rfl rfl Try.call42 (PLeAll.refl _ _) (ih _ (List.getElem_mem hlt)) rfl ?_
    repeat (first | refine AOps.q tt_ok rfl ?_ | refine AOps.nil ?_ | refine V.seq ?_ | refine V.region ?_ | refine V.skip ?_ | refine V.condT rfl ?_ | refine V.condF rfl ?_ | refine V.block ?_ | refine V.blk ?_ | refine V.exit rfl ?_ | refine AOps.loadBox tt_ok rfl rfl rfl rfl rfl rfl rfl ?_ | refine AOps.boxF rfl rfl rfl rfl rfl rfl ?_ | refine AOps.bsF tt_ok rfl rfl rfl rfl rfl rfl ?_ | (refine AOps.alloc tt_ok rfl rfl rfl rfl rfl rfl ?_; intro bk) | refine AOps.storeBox tt_ok rfl rfl rfl rfl rfl rfl rfl rfl rfl rfl rfl ?_)
    have e1 := foldl_take sizeStep (1, 0) (l := e.args.map sizeE) (j := j) (by simpa using hlt)
    rw [List.getElem_map] at e1
    refine V.again (j + 1) (by omega) hlt (Gh.le (SLe.cons (PLe.of_eq (pint_succ (by omega))) (SLe.cons (PLe.of_eq rfl) (SLe.cons (PLe.of_eq rfl) (SLe.cons (PLe.of_eq (by rw [e1]; rfl)) (SLe.cons (PLe.of_eq (by rw [e1]; rfl)) SLe.nil))))) BLe.nil OLe.nil)
  have hge : j = e.args.length := by have : ¬ j < e.args.length := by simpa using h
                                     omega
  subst hge
  rw [show (e.args.map sizeE).take e.args.length = e.args.map sizeE from by rw [List.take_of_length_le]; simp]
  repeat (first | refine AOps.q tt_ok rfl ?_ | refine AOps.nil ?_ | refine V.seq ?_ | refine V.region ?_ | refine V.skip ?_ | refine V.condT rfl ?_ | refine V.condF rfl ?_ | refine V.block ?_ | refine V.blk ?_ | refine V.exit rfl ?_ | refine AOps.loadBox tt_ok rfl rfl rfl rfl rfl rfl rfl ?_ | refine AOps.boxF rfl rfl rfl rfl rfl rfl ?_ | refine AOps.bsF tt_ok rfl rfl rfl rfl rfl rfl ?_ | (refine AOps.alloc tt_ok rfl rfl rfl rfl rfl rfl ?_; intro bk) | refine AOps.storeBox tt_ok rfl rfl rfl rfl rfl rfl rfl rfl rfl rfl rfl ?_)
  refine V.ret2 tt_ok rfl rfl rfl (PLe.of_eq ?_)
  rw [sizeE_eq]
  rfl

theorem size_spec : ∀ e : LExpr, PFun Try.prog 42 [pexpr e] (.tup [pint (sizeE e).1, pint (sizeE e).2])
  | .mk k n i x args => sizeStep_spec (.mk k n i x args) fun a ha => by
    have ha' : a ∈ args := ha
    exact size_spec a

def innerB (c : UInt8) : Bool := (decide ((c.toNat : Int) ≥ 97) && decide ((c.toNat : Int) ≤ 122)) || (decide ((c.toNat : Int) ≥ 48) && decide ((c.toNat : Int) ≤ 57))

theorem inner_spec (c : UInt8) : PFun Try.prog 57 [.val (.int .u8 c.toNat)] (pbool (innerB c)) := by
  refine PCallsH.intro Try.func57 rfl Try.ntmps57 rfl ?_
  repeat' (first | (show AOps _ _ _ _ _; first | refine AOps.q tt_ok rfl ?_ | refine AOps.nil ?_ | refine AOps.loadBox tt_ok rfl rfl rfl rfl rfl rfl rfl ?_ | refine AOps.boxF rfl rfl rfl rfl rfl rfl ?_ | refine AOps.bsF tt_ok rfl rfl rfl rfl rfl rfl ?_ | (refine AOps.alloc tt_ok rfl rfl rfl rfl rfl rfl ?_; intro bk) | refine AOps.storeBox tt_ok rfl rfl rfl rfl rfl rfl rfl rfl rfl rfl rfl ?_ | ((fail_if_success refine AOps.decided rfl ?_); refine AOps.split rfl rfl rfl (fun h => ?_) (fun h => ?_))) | (show V _ _ _ _ _; first | refine V.seq ?_ | refine V.region ?_ | refine V.skip ?_ | refine V.condT rfl ?_ | refine V.condF rfl ?_ | refine V.block ?_ | refine V.blk ?_ | refine V.exit rfl ?_ | refine V.cond rfl (fun h => ?_) (fun h => ?_)) | (show DOps _ _ _ _ _ _ _; first | refine DOps.q rfl ?_ | refine DOps.nil ?_ | refine DOps.alloc rfl rfl rfl rfl rfl rfl rfl rfl fun bk => ?_ | refine DOps.storeBox rfl rfl rfl rfl rfl rfl rfl rfl rfl rfl rfl rfl ?_ | refine DOps.loadBox rfl rfl rfl rfl rfl rfl rfl rfl rfl ?_ | ((fail_if_success refine DOps.decided rfl rfl ?_); refine DOps.split rfl rfl rfl rfl (fun h => ?_) (fun h => ?_))))
  all_goals refine V.ret1 tt_ok rfl rfl (PLe.of_eq ?_)
  all_goals simp_all [innerB]
  all_goals omega

theorem colIs_spec (c : LCol) (name : List UInt8) : PFun Try.prog 58 [pcol c, .ptr [.str name]] (pbool (c.name == name)) := by
  refine PCallsH.intro Try.func58 rfl Try.ntmps58 rfl ?_
  repeat' (first | (show AOps _ _ _ _ _; first | refine AOps.q tt_ok rfl ?_ | refine AOps.nil ?_ | refine AOps.loadBox tt_ok rfl rfl rfl rfl rfl rfl rfl ?_ | refine AOps.boxF rfl rfl rfl rfl rfl rfl ?_ | refine AOps.bsF tt_ok rfl rfl rfl rfl rfl rfl ?_ | (refine AOps.alloc tt_ok rfl rfl rfl rfl rfl rfl ?_; intro bk) | refine AOps.storeBox tt_ok rfl rfl rfl rfl rfl rfl rfl rfl rfl rfl rfl ?_ | ((fail_if_success refine AOps.decided rfl ?_); refine AOps.split rfl rfl rfl (fun h => ?_) (fun h => ?_))) | (show V _ _ _ _ _; first | refine V.seq ?_ | refine V.region ?_ | refine V.skip ?_ | refine V.condT rfl ?_ | refine V.condF rfl ?_ | refine V.block ?_ | refine V.blk ?_ | refine V.exit rfl ?_ | refine V.cond rfl (fun h => ?_) (fun h => ?_)) | (show DOps _ _ _ _ _ _ _; first | refine DOps.q rfl ?_ | refine DOps.nil ?_ | refine DOps.alloc rfl rfl rfl rfl rfl rfl rfl rfl fun bk => ?_ | refine DOps.storeBox rfl rfl rfl rfl rfl rfl rfl rfl rfl rfl rfl rfl ?_ | refine DOps.loadBox rfl rfl rfl rfl rfl rfl rfl rfl rfl ?_ | ((fail_if_success refine DOps.decided rfl rfl ?_); refine DOps.split rfl rfl rfl rfl (fun h => ?_) (fun h => ?_))))
  all_goals refine V.ret1 tt_ok rfl rfl (PLe.of_eq rfl)

def findV (l : List LCol) (name : List UInt8) : LCol × Bool :=
  let i := idxOf (fun c : LCol => c.name == name) l
  if i < 0 then (⟨[], 0, false⟩, false) else (l.getD i.toNat ⟨[], 0, false⟩, true)

theorem getCol {l : List LCol} {j : Int} (h0 : 0 ≤ j) (h : j < l.length) : (l.map encCol)[j.toNat]? = some (encCol (l.getD j.toNat ⟨[], 0, false⟩)) := by
  have : j.toNat < l.length := by omega
  simp [this]

theorem idxOf_lt {α : Type} {p : α → Bool} {l : List α} : idxOf p l < l.length := by
  simp only [idxOf]
  split
  · rename_i i h
    have := (List.findIdx?_eq_some_iff_getElem.1 h).1
    omega
  · omega

theorem find_spec (l : List LCol) (name : List UInt8) : PFun Try.prog 50 [pcols l, .str name] (.tup [pcol (findV l name).1, pbool (findV l name).2]) := by
  refine PCallsH.intro Try.func50 rfl Try.ntmps50 rfl ?_
  repeat' (first | (show AOps _ _ _ _ _; first | refine AOps.q tt_ok rfl ?_ | refine AOps.nil ?_ | refine AOps.loadBox tt_ok rfl rfl rfl rfl rfl rfl rfl ?_ | refine AOps.boxF rfl rfl rfl rfl rfl rfl ?_ | refine AOps.bsF tt_ok rfl rfl rfl rfl rfl rfl ?_ | (refine AOps.alloc tt_ok rfl rfl rfl rfl rfl rfl ?_; intro bk) | refine AOps.storeBox tt_ok rfl rfl rfl rfl rfl rfl rfl rfl rfl rfl rfl ?_ | refine AOps.callP (g := 31) rfl rfl rfl Try.call31 (PLeAll.refl _ _) (indexCol (p := fun c => c.name == name) _ Try.call58 fun c _ => colIs_spec c name) rfl ?_ | refine AOps.idx tt_ok rfl rfl rfl rfl rfl rfl (Int.not_lt.1 (of_decide_eq_false (by assumption))) (getCol (Int.not_lt.1 (of_decide_eq_false (by assumption))) idxOf_lt) rfl ?_ | ((fail_if_success refine AOps.decided rfl ?_); refine AOps.split rfl rfl rfl (fun h => ?_) (fun h => ?_))) | (show V _ _ _ _ _; first | refine V.seq ?_ | refine V.region ?_ | refine V.skip ?_ | refine V.condT rfl ?_ | refine V.condF rfl ?_ | refine V.block ?_ | refine V.blk ?_ | refine V.exit rfl ?_ | refine V.cond rfl (fun h => ?_) (fun h => ?_)) | (show DOps _ _ _ _ _ _ _; first | refine DOps.q rfl ?_ | refine DOps.nil ?_ | refine DOps.alloc rfl rfl rfl rfl rfl rfl rfl rfl fun bk => ?_ | refine DOps.storeBox rfl rfl rfl rfl rfl rfl rfl rfl rfl rfl rfl rfl ?_ | refine DOps.loadBox rfl rfl rfl rfl rfl rfl rfl rfl rfl ?_ | refine DOps.callP (g := 31) rfl rfl rfl rfl Try.call31 (PLeAll.refl _ _) (indexCol (p := fun c => c.name == name) _ Try.call58 fun c _ => colIs_spec c name) rfl ?_ | ((fail_if_success refine DOps.decided rfl rfl ?_); refine DOps.split rfl rfl rfl rfl (fun h => ?_) (fun h => ?_))))
  all_goals refine V.retCT tt_ok rfl rfl rfl rfl rfl rfl (PLe.of_eq ?_)
  all_goals simp_all [findV]
  all_goals rw [if_neg (by omega)]
  all_goals exact ⟨⟨rfl, rfl, rfl⟩, rfl⟩

def schemaName (s : List UInt8) : Bool := decide (1 ≤ s.length) && decide (s.length ≤ 12) && (match s with | [] => false | c :: _ => decide (c.toNat ≥ 97) && decide (c.toNat ≤ 122)) && s.all innerB

theorem idxStrAt {l : List UInt8} {j : Nat} (h : j < l.length) : l[((j : Nat) : Int).toNat]? = some l[j] := by simp [h]

theorem schemaName_spec (s : List UInt8) : PFun Try.prog 49 [.str s] (pbool (schemaName s)) := by
  cases s with
  | nil =>
    refine PCallsH.intro Try.func49 rfl Try.ntmps49 rfl ?_
    repeat' (first | (show AOps _ _ _ _ _; first | refine AOps.q tt_ok rfl ?_ | refine AOps.nil ?_ | refine AOps.loadBox tt_ok rfl rfl rfl rfl rfl rfl rfl ?_ | refine AOps.boxF rfl rfl rfl rfl rfl rfl ?_ | refine AOps.bsF tt_ok rfl rfl rfl rfl rfl rfl ?_ | (refine AOps.alloc tt_ok rfl rfl rfl rfl rfl rfl ?_; intro bk) | refine AOps.storeBox tt_ok rfl rfl rfl rfl rfl rfl rfl rfl rfl rfl rfl ?_ | ((fail_if_success refine AOps.decided rfl ?_); refine AOps.split rfl rfl rfl (fun h => ?_) (fun h => ?_))) | (show V _ _ _ _ _; first | refine V.seq ?_ | refine V.region ?_ | refine V.skip ?_ | refine V.condT rfl ?_ | refine V.condF rfl ?_ | refine V.block ?_ | refine V.blk ?_ | refine V.exit rfl ?_ | refine V.cond rfl (fun h => ?_) (fun h => ?_)) | (show DOps _ _ _ _ _ _ _; first | refine DOps.q rfl ?_ | refine DOps.nil ?_ | refine DOps.alloc rfl rfl rfl rfl rfl rfl rfl rfl fun bk => ?_ | refine DOps.storeBox rfl rfl rfl rfl rfl rfl rfl rfl rfl rfl rfl rfl ?_ | refine DOps.loadBox rfl rfl rfl rfl rfl rfl rfl rfl rfl ?_ | ((fail_if_success refine DOps.decided rfl rfl ?_); refine DOps.split rfl rfl rfl rfl (fun h => ?_) (fun h => ?_))))
    all_goals refine V.ret1 tt_ok rfl rfl (PLe.of_eq rfl)
  | cons c s =>
    refine PCallsH.intro Try.func49 rfl Try.ntmps49 rfl ?_
    refine V.strF 0 rfl fun hl => ?_
    repeat' (first | (show AOps _ _ _ _ _; first | refine AOps.q tt_ok rfl ?_ | refine AOps.nil ?_ | refine AOps.loadBox tt_ok rfl rfl rfl rfl rfl rfl rfl ?_ | refine AOps.boxF rfl rfl rfl rfl rfl rfl ?_ | refine AOps.bsF tt_ok rfl rfl rfl rfl rfl rfl ?_ | (refine AOps.alloc tt_ok rfl rfl rfl rfl rfl rfl ?_; intro bk) | refine AOps.storeBox tt_ok rfl rfl rfl rfl rfl rfl rfl rfl rfl rfl rfl ?_ | ((fail_if_success refine AOps.decided rfl ?_); refine AOps.split rfl rfl rfl (fun h => ?_) (fun h => ?_))) | (show V _ _ _ _ _; first | refine V.seq ?_ | refine V.region ?_ | refine V.skip ?_ | refine V.condT rfl ?_ | refine V.condF rfl ?_ | refine V.block ?_ | refine V.blk ?_ | refine V.exit rfl ?_ | refine V.cond rfl (fun h => ?_) (fun h => ?_)) | (show DOps _ _ _ _ _ _ _; first | refine DOps.q rfl ?_ | refine DOps.nil ?_ | refine DOps.alloc rfl rfl rfl rfl rfl rfl rfl rfl fun bk => ?_ | refine DOps.storeBox rfl rfl rfl rfl rfl rfl rfl rfl rfl rfl rfl rfl ?_ | refine DOps.loadBox rfl rfl rfl rfl rfl rfl rfl rfl rfl ?_ | ((fail_if_success refine DOps.decided rfl rfl ?_); refine DOps.split rfl rfl rfl rfl (fun h => ?_) (fun h => ?_))))
    case cons.refine_1 =>
      refine V.ret1 tt_ok rfl rfl (PLe.of_eq ?_)
      have : ¬ (c :: s).length ≤ 12 := by simp only [decide_eq_true_eq] at h; omega
      have : schemaName (c :: s) = false := by simp only [schemaName, this]; simp
      rw [this]
    case cons.refine_2.refine_1 =>
      refine V.ret1 tt_ok rfl rfl (PLe.of_eq ?_)
      have : ¬ c.toNat ≥ 97 := by simp only [decide_eq_true_eq] at h; omega
      simp [schemaName, this]
    case cons.refine_2.refine_2.refine_1 =>
      refine V.ret1 tt_ok rfl rfl (PLe.of_eq ?_)
      have : ¬ c.toNat ≤ 122 := by simp only [decide_eq_true_eq] at h; omega
      simp [schemaName, this]
    rename_i h1 h2
    have hs : schemaName (c :: s) = (c :: s).all innerB := by
      simp only [decide_eq_false_iff_not] at h1 h2 h
      have e1 : (c :: s).length ≤ 12 := by omega
      have e2 : c.toNat ≥ 97 := by omega
      have e3 : c.toNat ≤ 122 := by omega
      simp only [schemaName, e1, e2, e3]
      simp
    rw [hs]
    clear hs h h1 h2
    generalize hL : c :: s = L at *
    refine V.loopF (X := Nat) (fun j => ⟨33, upd (upd (upd (fun _ => .any) 0 (.str L)) 23 (pint L.length)) 24 (pint j), fun _ => none, fun _ => none⟩)
      (fun j => j ≤ L.length ∧ ∀ x ∈ L.take j, innerB x = true) (fun j => L.length - j) 0 ⟨Nat.zero_le _, by simp⟩ (Gh.le (SLe.cons (PLe.of_eq rfl) (SLe.cons (PLe.of_eq rfl) (SLe.cons (PLe.of_eq rfl) SLe.nil))) BLe.nil OLe.nil) ?_
    rintro j ⟨hj, hpre⟩
    repeat (first | refine AOps.q tt_ok rfl ?_ | refine AOps.nil ?_ | refine V.seq ?_ | refine V.region ?_ | refine V.skip ?_ | refine V.condT rfl ?_ | refine V.condF rfl ?_ | refine V.block ?_ | refine V.blk ?_ | refine V.exit rfl ?_ | refine AOps.loadBox tt_ok rfl rfl rfl rfl rfl rfl rfl ?_ | refine AOps.boxF rfl rfl rfl rfl rfl rfl ?_ | refine AOps.bsF tt_ok rfl rfl rfl rfl rfl rfl ?_ | (refine AOps.alloc tt_ok rfl rfl rfl rfl rfl rfl ?_; intro bk) | refine AOps.storeBox tt_ok rfl rfl rfl rfl rfl rfl rfl rfl rfl rfl rfl ?_)
    refine V.cond rfl (fun h => ?_) (fun h => ?_)
    · have hlt : j < L.length := by simpa using h
      repeat (first | refine AOps.q tt_ok rfl ?_ | refine AOps.nil ?_ | refine V.seq ?_ | refine V.region ?_ | refine V.skip ?_ | refine V.condT rfl ?_ | refine V.condF rfl ?_ | refine V.block ?_ | refine V.blk ?_ | refine V.exit rfl ?_ | refine AOps.loadBox tt_ok rfl rfl rfl rfl rfl rfl rfl ?_ | refine AOps.boxF rfl rfl rfl rfl rfl rfl ?_ | refine AOps.bsF tt_ok rfl rfl rfl rfl rfl rfl ?_ | (refine AOps.alloc tt_ok rfl rfl rfl rfl rfl rfl ?_; intro bk) | refine AOps.storeBox tt_ok rfl rfl rfl rfl rfl rfl rfl rfl rfl rfl rfl ?_)
      refine AOps.idxS tt_ok rfl rfl rfl rfl rfl rfl (Int.natCast_nonneg j) (idxStrAt hlt) rfl ?_
      repeat (first | refine AOps.q tt_ok rfl ?_ | refine AOps.nil ?_ | refine V.seq ?_ | refine V.region ?_ | refine V.skip ?_ | refine V.condT rfl ?_ | refine V.condF rfl ?_ | refine V.block ?_ | refine V.blk ?_ | refine V.exit rfl ?_ | refine AOps.loadBox tt_ok rfl rfl rfl rfl rfl rfl rfl ?_ | refine AOps.boxF rfl rfl rfl rfl rfl rfl ?_ | refine AOps.bsF tt_ok rfl rfl rfl rfl rfl rfl ?_ | (refine AOps.alloc tt_ok rfl rfl rfl rfl rfl rfl ?_; intro bk) | refine AOps.storeBox tt_ok rfl rfl rfl rfl rfl rfl rfl rfl rfl rfl rfl ?_)
      refine AOps.callP (g := 57) rfl rfl rfl Try.call57 (PLeAll.refl _ _) (inner_spec _) rfl ?_
      repeat (first | refine AOps.q tt_ok rfl ?_ | refine AOps.nil ?_ | refine V.seq ?_ | refine V.region ?_ | refine V.skip ?_ | refine V.condT rfl ?_ | refine V.condF rfl ?_ | refine V.block ?_ | refine V.blk ?_ | refine V.exit rfl ?_ | refine AOps.loadBox tt_ok rfl rfl rfl rfl rfl rfl rfl ?_ | refine AOps.boxF rfl rfl rfl rfl rfl rfl ?_ | refine AOps.bsF tt_ok rfl rfl rfl rfl rfl rfl ?_ | (refine AOps.alloc tt_ok rfl rfl rfl rfl rfl rfl ?_; intro bk) | refine AOps.storeBox tt_ok rfl rfl rfl rfl rfl rfl rfl rfl rfl rfl rfl ?_)
      refine V.cond rfl (fun h => ?_) (fun h => ?_)
      · repeat (first | refine AOps.q tt_ok rfl ?_ | refine AOps.nil ?_ | refine V.seq ?_ | refine V.region ?_ | refine V.skip ?_ | refine V.condT rfl ?_ | refine V.condF rfl ?_ | refine V.block ?_ | refine V.blk ?_ | refine V.exit rfl ?_ | refine AOps.loadBox tt_ok rfl rfl rfl rfl rfl rfl rfl ?_ | refine AOps.boxF rfl rfl rfl rfl rfl rfl ?_ | refine AOps.bsF tt_ok rfl rfl rfl rfl rfl rfl ?_ | (refine AOps.alloc tt_ok rfl rfl rfl rfl rfl rfl ?_; intro bk) | refine AOps.storeBox tt_ok rfl rfl rfl rfl rfl rfl rfl rfl rfl rfl rfl ?_)
        refine V.ret1 tt_ok rfl rfl (PLe.of_eq ?_)
        have : L.all innerB = false := by
          rw [List.all_eq_false]
          exact ⟨L[j], List.getElem_mem hlt, by simpa using h⟩
        rw [this]
      · repeat (first | refine AOps.q tt_ok rfl ?_ | refine AOps.nil ?_ | refine V.seq ?_ | refine V.region ?_ | refine V.skip ?_ | refine V.condT rfl ?_ | refine V.condF rfl ?_ | refine V.block ?_ | refine V.blk ?_ | refine V.exit rfl ?_ | refine AOps.loadBox tt_ok rfl rfl rfl rfl rfl rfl rfl ?_ | refine AOps.boxF rfl rfl rfl rfl rfl rfl ?_ | refine AOps.bsF tt_ok rfl rfl rfl rfl rfl rfl ?_ | (refine AOps.alloc tt_ok rfl rfl rfl rfl rfl rfl ?_; intro bk) | refine AOps.storeBox tt_ok rfl rfl rfl rfl rfl rfl rfl rfl rfl rfl rfl ?_)
        refine V.again (j + 1) (by omega) ⟨hlt, ?_⟩ (Gh.le (SLe.cons (PLe.of_eq (pint_succ (by unfold maxLen; unfold maxStr at hl; omega))) (SLe.cons (PLe.of_eq rfl) (SLe.cons (PLe.of_eq rfl) SLe.nil))) BLe.nil OLe.nil)
        intro x hx
        rw [List.take_add_one, List.getElem?_eq_getElem hlt] at hx
        simp only [Option.toList, List.mem_append, List.mem_singleton] at hx
        rcases hx with hx | rfl
        · exact hpre x hx
        · simpa using h
    have hge : j = L.length := by have : ¬ j < L.length := by simpa using h
                                  omega
    repeat (first | refine AOps.q tt_ok rfl ?_ | refine AOps.nil ?_ | refine V.seq ?_ | refine V.region ?_ | refine V.skip ?_ | refine V.condT rfl ?_ | refine V.condF rfl ?_ | refine V.block ?_ | refine V.blk ?_ | refine V.exit rfl ?_ | refine AOps.loadBox tt_ok rfl rfl rfl rfl rfl rfl rfl ?_ | refine AOps.boxF rfl rfl rfl rfl rfl rfl ?_ | refine AOps.bsF tt_ok rfl rfl rfl rfl rfl rfl ?_ | (refine AOps.alloc tt_ok rfl rfl rfl rfl rfl rfl ?_; intro bk) | refine AOps.storeBox tt_ok rfl rfl rfl rfl rfl rfl rfl rfl rfl rfl rfl ?_)
    refine V.ret1 tt_ok rfl rfl (PLe.of_eq ?_)
    have : L.all innerB = true := by
      rw [List.all_eq_true]
      rw [hge] at hpre
      simpa using hpre
    rw [this]
end Go.Proofs.Ytblheceepnncdaa
