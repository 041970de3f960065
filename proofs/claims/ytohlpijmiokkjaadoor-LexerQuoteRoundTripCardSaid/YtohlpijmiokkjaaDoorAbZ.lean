/- The abstract layer, part Z: arrays of the call's own, as lists; families of slices. -/
import Derived.Test.YtohlpijmiokkjaaDoorAbY
namespace Go.Ab

/-- An element of an array. -/
def arrI {α : Type} (n : Nat) (xs : List α) (i : Int) : Option α := if 0 ≤ i ∧ i < n then xs[i.toNat]? else none
theorem arrI_some {α : Type} {n : Nat} {xs : List α} {i : Int} {x : α} (h : arrI n xs i = some x) : (0 ≤ i ∧ i < n) ∧ xs[i.toNat]? = some x := by
  unfold arrI at h
  split at h
  · rename_i h0; exact ⟨h0, h⟩
  · cases h
theorem arrI_eq {α : Type} {n : Nat} {xs : List α} {i : Int} {x : α} (h0 : 0 ≤ i ∧ i < n) (h : xs[i.toNat]? = some x) : arrI n xs i = some x := by
  unfold arrI
  rw [if_pos h0, h]

theorem splice_map {α : Type} (f : α → PV) (xs : List α) (k : Nat) (v : α) {ys : List α} (hk : k < xs.length) (hy : xs.set k v = ys) : splice (xs.map f) k [f v] = ys.map f := by
  subst hy
  unfold splice
  rw [List.map_set, List.length_singleton]
  have hk' : k < (xs.map f).length := by simpa using hk
  rw [List.set_eq_take_append_cons_drop, if_pos hk', List.append_assoc]
  rfl

section
variable {P : Program} {ops : Array Oper} {rest : List Oper} {o : Oper} {n : Nat} {s s' : Nat → PV} {bx : Nat → Option Box} {ob : Nat → Option Obj} {K : PState → Prop} {T : TT} {rb : RB} {k : Nat} {L : List Nat}

theorem AOps.idxA (hT : T.Ok P) (hg : guardA ops s o = some true) {t : TypeId} {x i : Operand} (ho : o.op = .indexAddr t x i) {ti ei : TInfo} {e : TypeId} {len : Nat} (hti : T.get t = some ti) (hd : ti.desc = .array len e) (hei : T.get e = some ei) (hes : ei.size = 1)
    {tag b : Nat} (hx : evS s x = .box tag b 0) {kk : IntKind} {j : Int} (hi : evS s i = .val (.int kk j)) (hj : 0 ≤ j ∧ j < len) (hp : putD n s o.dst (.box tag b j.toNat) = some s') (h : AOps P ops rest ⟨n, s', bx, ob⟩ K) : AOps P ops (o :: rest) ⟨n, s, bx, ob⟩ K := by
  refine AOps.det hT hg (r := .box tag b j.toNat) ?_ hp h
  rw [ho]
  simp [det0, hti, hx, hi, hd, hei, hj, hes]
theorem DOps.idxA (ho : ops[k]? = some o) (hg : guardA ops s o = some true) {t : TypeId} {x i : Operand} (hop : o.op = .indexAddr t x i) {ti ei : TInfo} {e : TypeId} {len : Nat} (hti : T.get t = some ti) (hd : ti.desc = .array len e) (hei : T.get e = some ei) (hes : ei.size = 1)
    {tag b : Nat} (hx : evS s x = .box tag b 0) {kk : IntKind} {j : Int} (hi : evS s i = .val (.int kk j)) (hj : 0 ≤ j ∧ j < len) (hp : putD n s o.dst (.box tag b j.toNat) = some s') (h : DOps P T rb ops L ⟨n, s', bx, ob⟩ K) : DOps P T rb ops (k :: L) ⟨n, s, bx, ob⟩ K := by
  refine DOps.by ho hg (by rw [hop]; rfl) (r := .box tag b j.toNat) ?_ hp h
  rw [hop]
  simp [det1, det0, hti, hx, hi, hd, hei, hj, hes]

theorem AOps.loadA (hT : T.Ok P) (hg : guardA ops s o = some true) {t : TypeId} {x : Operand} (ho : o.op = .load t x) {ti : TInfo} (hti : T.get t = some ti) (hta : isAggD ti.desc = false) {tag b off : Nat} {cells : List PV}
    (hx : evS s x = .box tag b off) (hb : bx tag = some ⟨b, cells⟩) {r : PV} (hr : cells[off]? = some r) (hp : putD n s o.dst r = some s') (h : AOps P ops rest ⟨n, s', bx, ob⟩ K) : AOps P ops (o :: rest) ⟨n, s, bx, ob⟩ K :=
  AOps.loadBox hT hg ho hti hx hb (by simp [readCells, hta, hr, force_eq]) hp h
theorem DOps.loadA (ho : ops[k]? = some o) (hrb : rb.b o = true) (hg : guardA ops s o = some true) {t : TypeId} {x : Operand} (hop : o.op = .load t x) {ti : TInfo} (hti : T.get t = some ti) (hta : isAggD ti.desc = false) {tag b off : Nat} {cells : List PV}
    (hx : evS s x = .box tag b off) (hb : bx tag = some ⟨b, cells⟩) {r : PV} (hr : cells[off]? = some r) (hp : putD n s o.dst r = some s') (h : DOps P T rb ops L ⟨n, s', bx, ob⟩ K) : DOps P T rb ops (k :: L) ⟨n, s, bx, ob⟩ K :=
  DOps.loadBox ho hrb hg hop hti hx hb (by simp [readCells, hta, hr, force_eq]) hp h

theorem AOps.storeA (hT : T.Ok P) (hg : guardA ops s o = some true) {t : TypeId} {x y : Operand} (ho : o.op = .store t x y) (hd : o.dst = none) {ti : TInfo} (hti : T.get t = some ti) (hts : ti.size = 1) {tag b off : Nat} {cells cells' : List PV} (hx : evS s x = .box tag b off) (hb : bx tag = some ⟨b, cells⟩)
    {p : PV} (hc : cellsPV (evS s y) = some [p]) (h1 : PV.one p = true) (hk : off < cells.length) (hs : splice cells off [p] = cells') (h : AOps P ops rest ⟨n, s, upd bx tag (some ⟨b, cells'⟩), ob⟩ K) : AOps P ops (o :: rest) ⟨n, s, bx, ob⟩ K :=
  AOps.storeBox hT hg ho hd hti hx hb (cs := [p]) (by simp [hc, forceL_eq]) (by simp [h1]) (by rw [hts]; rfl) (by rw [hts]; exact Nat.ble_eq.mpr hk) (by rw [forceL_eq, hs]) h
theorem DOps.storeA (ho : ops[k]? = some o) (hg : guardA ops s o = some true) {t : TypeId} {x y : Operand} (hop : o.op = .store t x y) (hd : o.dst = none) {ti : TInfo} (hti : T.get t = some ti) (hts : ti.size = 1) {tag b off : Nat} {cells cells' : List PV} (hx : evS s x = .box tag b off) (hb : bx tag = some ⟨b, cells⟩)
    {p : PV} (hc : cellsPV (evS s y) = some [p]) (h1 : PV.one p = true) (hk : off < cells.length) (hs : splice cells off [p] = cells') (h : DOps P T rb ops L ⟨n, s, upd bx tag (some ⟨b, cells'⟩), ob⟩ K) : DOps P T rb ops (k :: L) ⟨n, s, bx, ob⟩ K :=
  DOps.storeBox ho hg hop hd hti hx hb (cs := [p]) (by simp [hc, forceL_eq]) (by simp [h1]) (by rw [hts]; rfl) (by rw [hts]; exact Nat.ble_eq.mpr hk) (by rw [forceL_eq, hs]) h
end
end Go.Ab
