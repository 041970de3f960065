/- The abstract layer: shifts to the right by a variable, and-not. -/
import Derived.Test.YtjnpnakcmjndiaaGreatDoorMjk
namespace Go.Ab

/-- A shift to the right by asQ many places asQ b says. -/
def shrI (k : IntKind) (a b : Int) : Option Int := if 0 ≤ b then some (a.fdiv (2 ^ (min b.toNat k.bits))) else none
theorem shrI_some {k : IntKind} {a b x : Int} (h : shrI k a b = some x) : 0 ≤ b ∧ x = a.fdiv (2 ^ (min b.toNat k.bits)) := by
  unfold shrI at h
  split at h
  · rename_i h0; exact ⟨h0, (Option.some.inj h).symm⟩
  · cases h
def andNotI (k : IntKind) (a b : Int) : Int := k.wrap (BitVec.ofInt k.bits a &&& ~~~ BitVec.ofInt k.bits b).toNat
section
variable {P : Program} {T : TT} {rb : RB} {ops : Array Oper} {rest : List Oper} {L : List Nat} {k : Nat} {o : Oper} {n : Nat} {s s' : Nat → PV} {bx : Nat → Option Box} {ob : Nat → Option Obj} {K : PState → Prop}
theorem run_shrV {t : TypeId} {kk k2 : IntKind} {a b r : Int} (h : shrI kk a b = some r) (w : World) : (binOp .shr t (.int kk a) (.int k2 b)).run P w = .ok (.int kk r) w := by
  obtain ⟨hb, rfl⟩ := shrI_some h
  exact run_shr hb rfl w
theorem run_andNot {t : TypeId} {kk : IntKind} {a b : Int} (w : World) : (binOp .andNot t (.int kk a) (.int kk b)).run P w = .ok (.int kk (andNotI kk a b)) w := by
  simp only [binOp, Op.intBits, ne_eq, not_true_eq_false, if_false]
  rfl
theorem AOps.shrV (hg : guardA ops s o = some true) {t t' : TypeId} {x y : Operand} (ho : o.op = .binOp .shr t x y t') {kk k2 : IntKind} {a b r : Int} (hx : evS s x = .val (.int kk a)) (hy : evS s y = .val (.int k2 b)) (hr : shrI kk a b = some r)
    (hp : putD n s o.dst (.val (.int kk r)) = some s') (h : AOps P ops rest ⟨n, s', bx, ob⟩ K) : AOps P ops (o :: rest) ⟨n, s, bx, ob⟩ K := AOps.detS hg (detS_int ho hx hy rfl (run_shrV hr)) hp h
theorem AOps.andNot (hg : guardA ops s o = some true) {t t' : TypeId} {x y : Operand} (ho : o.op = .binOp .andNot t x y t') {kk : IntKind} {a b : Int} (hx : evS s x = .val (.int kk a)) (hy : evS s y = .val (.int kk b))
    (hp : putD n s o.dst (.val (.int kk (andNotI kk a b))) = some s') (h : AOps P ops rest ⟨n, s', bx, ob⟩ K) : AOps P ops (o :: rest) ⟨n, s, bx, ob⟩ K := AOps.detS hg (detS_int ho hx hy rfl run_andNot) hp h
theorem DOps.shrV (ho : ops[k]? = some o) (hg : guardA ops s o = some true) {t t' : TypeId} {x y : Operand} (hop : o.op = .binOp .shr t x y t') {kk k2 : IntKind} {a b r : Int} (hx : evS s x = .val (.int kk a)) (hy : evS s y = .val (.int k2 b)) (hr : shrI kk a b = some r)
    (hp : putD n s o.dst (.val (.int kk r)) = some s') (h : DOps P T rb ops L ⟨n, s', bx, ob⟩ K) : DOps P T rb ops (k :: L) ⟨n, s, bx, ob⟩ K := DOps.detS ho hg (by rw [hop]; rfl) (fun _ => detS_int hop hx hy rfl (run_shrV hr)) hp h
theorem DOps.andNot (ho : ops[k]? = some o) (hg : guardA ops s o = some true) {t t' : TypeId} {x y : Operand} (hop : o.op = .binOp .andNot t x y t') {kk : IntKind} {a b : Int} (hx : evS s x = .val (.int kk a)) (hy : evS s y = .val (.int kk b))
    (hp : putD n s o.dst (.val (.int kk (andNotI kk a b))) = some s') (h : DOps P T rb ops L ⟨n, s', bx, ob⟩ K) : DOps P T rb ops (k :: L) ⟨n, s, bx, ob⟩ K := DOps.detS ho hg (by rw [hop]; rfl) (fun _ => detS_int hop hx hy rfl run_andNot) hp h
/-- So many zero elements, seen with nil slices asQ empty lists. -/
theorem AOps.makeSZ (hT : T.Ok P) (hg : guardA ops s o = some true) {x : Operand} {t : TypeId} (ho : o.op = .makeSlice t x x) {d : Nat} (hdst : o.dst = some d) (hlt : Nat.blt d n = true) {ti ei : TInfo} {e : TypeId} (hti : T.get t = some ti) (hd : ti.desc = .slice e) (hei : T.get e = some ei)
    (hz : Nat.beq ei.zero.cells.size ei.size = true) {zs : List PV} (hzs : PLe2All P (zeroPV ei) zs) (hzn : Nat.beq zs.length ei.size = true) (h1 : zs.all PV.one = true) {kk : IntKind} {m : Int} (hx : evS s x = .val (.int kk m)) (hm : 0 ≤ m) (hby : m.toNat * ei.bytes ≤ 2 ^ 47) (hmx : m.toNat ≤ maxLen) {rows : List (List PV)} (hr : List.replicate m.toNat zs = rows)
    (h : ∀ g, AOps P ops rest ⟨n, upd s d (.own d g rows.length), bx, upd ob d (some ⟨g, e, rows, true⟩)⟩ K) : AOps P ops (o :: rest) ⟨n, s, bx, ob⟩ K := by
  subst hr
  refine AOps.eff hg (fun C M a w next Q hi he hn => ?_)
  have hxr := he x (by rw [ho]; simp [Op.operands])
  rw [show (⟨n, s, bx, ob⟩ : PState).s = s from rfl, hx] at hxr
  simp only [Rep] at hxr
  have hu := (hT.get hti).und
  rw [hd] at hu
  obtain ⟨i, hinf, hs, hbs, hzero⟩ := (hT.get hei).info
  have hz1 := Nat.eq_of_beq_eq_true hz
  obtain ⟨k, hk⟩ : ∃ k : Nat, k = m.toNat := ⟨_, rfl⟩
  rw [← hk] at hby hmx h
  have hkm : m = (k : Int) := by omega
  subst hkm
  have hby2 : k * i.bytes ≤ 2 ^ 47 := by rw [hbs]; exact hby
  have hbi : (i.bytes : Int) * (k : Int) ≤ 281474976710656 := by
    have : ((k * i.bytes : Nat) : Int) ≤ ((2 ^ 47 : Nat) : Int) := Int.ofNat_le.2 hby2
    rw [Int.natCast_mul] at this
    rw [Int.mul_comm]
    omega
  have hrun : (execOp a.eval o).run P w = .ok (.value (.slice (some ⟨w.heap.size, 0, none⟩) k k)) (w.alloc (.cells (madeCells ei.zero.cells (k * i.size)) e)) := by
    have := run_make w t e i ei.zero hu hinf hzero kk kk (k : Int) (k : Int) (by omega) (by omega) hbi (by unfold maxLen at hmx; omega)
    simp only [Int.toNat_natCast] at this
    simp only [execOp, ho, hxr, Sem.run_bind, this]
    rfl
  unfold Oper.wp
  rw [hrun]
  have hzl : zs.length = i.size := by rw [hs]; exact Nat.eq_of_beq_eq_true hzn
  have hmc : (madeCells ei.zero.cells (k * i.size)).toList = (List.replicate k ei.zero.cells.toList).flatten := by
    rw [hs, ← hz1]
    exact zeros_eq ei.zero.cells k
  have hrep : RepAll P M false (List.replicate k zs).flatten (List.replicate k ei.zero.cells.toList).flatten := repAll_flat (hzs _ _ _ (zeroPV_rep _)) k
  have htake : (madeCells ei.zero.cells (k * i.size)).toList.take ((List.replicate k zs).length * i.size) = (List.replicate k ei.zero.cells.toList).flatten := by
    rw [List.length_replicate, List.take_of_length_le (by simp [size_madeCells]), hmc]
  refine hn _ (.own d ⟨some w.heap.size, k⟩ (List.replicate k zs).length) _ M _ ⟨_, by simp [hdst, putD, hlt], h ⟨some w.heap.size, k⟩⟩ (Mem.le_refl M)
    ((show InvH P C M ⟨bx, ob⟩ w from hi).alloc_obj d e (List.replicate k zs) true _ _ i hinf ?_ ?_ ?_ ?_ hmx ?_ ?_) ?_
  · rw [List.length_replicate]; exact hby2
  · intro r hr
    rw [List.eq_of_mem_replicate hr]
    exact hzl
  · rw [size_madeCells]
  · rw [List.length_replicate]; exact Nat.le_refl _
  · rw [htake]; exact hrep
  · rw [htake]
    refine RepAll.oneCell ?_ hrep
    rw [List.all_flatten]
    rw [List.all_eq_true]
    intro r hr
    rw [List.eq_of_mem_replicate hr]
    exact h1
  · simp [Rep, OwnRef.val]

end
end Go.Ab
