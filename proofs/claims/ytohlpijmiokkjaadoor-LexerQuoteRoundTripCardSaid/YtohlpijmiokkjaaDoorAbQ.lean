/- The abstract layer, part Q: nil tests, own slice literals, bytes, capacity, cutting off, making, functions outside. -/
import Derived.Test.YtohlpijmiokkjaaDoorAbP
import Derived.Laws.Cover3
namespace Go.Ab

section
variable {P : Program} {C : Ctx} {M : Mem} {H : Heap} {w : World}

/-- An own slice's rows, written in another way. -/
theorem InvH.reobj (h : InvH P C M H w) {tag : Nat} {g : OwnRef} {e : TypeId} {rows rows' : List (List PV)} {wr : Bool} (hx : H.ob tag = some ⟨g, e, rows, wr⟩) (hl : rows'.map List.length = rows.map List.length) (hle : PLe2All P rows.flatten rows'.flatten) :
    InvH P C M ⟨H.bx, upd H.ob tag (some ⟨g, e, rows', wr⟩)⟩ w := by
  have hlen : rows'.length = rows.length := by simpa using congrArg List.length hl
  have key : ∀ t y, upd H.ob tag (some ⟨g, e, rows', wr⟩) t = some y → (t = tag ∧ y = ⟨g, e, rows', wr⟩) ∨ H.ob t = some y := by
    intro t y hy
    rw [upd_eq] at hy
    split at hy
    · rename_i e; exact .inl ⟨e, (Option.some.inj hy).symm⟩
    · exact .inr hy
  have same : ∀ t y, upd H.ob tag (some ⟨g, e, rows', wr⟩) t = some y → ∃ z, H.ob t = some z ∧ z.g = y.g := by
    intro t y hy
    rcases key t y hy with ⟨rfl, rfl⟩ | hy
    · exact ⟨_, hx, rfl⟩
    · exact ⟨y, hy, rfl⟩
  refine ⟨h.mem, h.ext, h.new, h.os, h.tape, h.output, h.size, h.frame, h.boxes, ?_, h.dbox, ?_, ?_⟩
  · intro t y hy
    rcases key t y hy with ⟨rfl, rfl⟩ | hy
    · obtain ⟨i, h1, h2, h3, h4⟩ := h.objs _ _ hx
      simp only at h1 h2 h3 h4
      refine ⟨i, h1, ?_, ?_, ?_⟩
      · simpa only [hlen] using h2
      · intro r hr
        have : r.length ∈ rows'.map List.length := List.mem_map.2 ⟨r, hr, rfl⟩
        rw [hl] at this
        obtain ⟨q, hq, e1⟩ := List.mem_map.1 this
        rw [← e1]
        exact h3 q hq
      · rcases h4 with ⟨a, b, c⟩ | ⟨b, cur, h5, h6, h7, h8, h9, h10, h11, h12, h13, h14⟩
        · refine .inl ⟨a, ?_, c⟩
          rw [b] at hlen
          exact List.length_eq_zero_iff.1 hlen
        · refine .inr ⟨b, cur, h5, h6, h7, h8, ?_, h10, ?_, ?_, h13, ?_⟩
          · simpa only [hlen] using h9
          · simp only [hlen]; exact hle M false _ h11
          · simpa only [hlen] using h12
          · simpa only [hlen] using h14
    · exact h.objs t y hy
  · intro t t' y y' b hy hy' hb hb'
    obtain ⟨z, hz, e1⟩ := same t y hy
    obtain ⟨z', hz', e1'⟩ := same t' y' hy'
    exact h.dobj t t' z z' b hz hz' (e1 ▸ hb) (e1' ▸ hb')
  · intro t t' y y' hy hy' hb
    obtain ⟨z', hz', e1'⟩ := same t' y' hy'
    exact h.dmix t t' y z' hy hz' (e1' ▸ hb)

/-- An own slice, cut off: what lies behind is free again. -/
theorem InvH.cutO (h : InvH P C M H w) {tag : Nat} {g : OwnRef} {e : TypeId} {rows : List (List PV)} (hx : H.ob tag = some ⟨g, e, rows, true⟩) (k : Nat) :
    InvH P C M ⟨H.bx, upd H.ob tag (some ⟨g, e, rows.take k, true⟩)⟩ w := by
  have key : ∀ t y, upd H.ob tag (some ⟨g, e, rows.take k, true⟩) t = some y → (t = tag ∧ y = ⟨g, e, rows.take k, true⟩) ∨ H.ob t = some y := by
    intro t y hy
    rw [upd_eq] at hy
    split at hy
    · rename_i e; exact .inl ⟨e, (Option.some.inj hy).symm⟩
    · exact .inr hy
  have same : ∀ t y, upd H.ob tag (some ⟨g, e, rows.take k, true⟩) t = some y → ∃ z, H.ob t = some z ∧ z.g = y.g := by
    intro t y hy
    rcases key t y hy with ⟨rfl, rfl⟩ | hy
    · exact ⟨_, hx, rfl⟩
    · exact ⟨y, hy, rfl⟩
  refine ⟨h.mem, h.ext, h.new, h.os, h.tape, h.output, h.size, h.frame, h.boxes, ?_, h.dbox, ?_, ?_⟩
  · intro t y hy
    rcases key t y hy with ⟨rfl, rfl⟩ | hy
    · obtain ⟨i, h1, h2, h3, h4⟩ := h.objs _ _ hx
      simp only at h1 h2 h3 h4
      have hle : (rows.take k).length ≤ rows.length := by simp; omega
      refine ⟨i, h1, Nat.le_trans (Nat.mul_le_mul_right _ hle) h2, fun r hr => h3 r (List.mem_of_mem_take hr), ?_⟩
      rcases h4 with ⟨a, b, c⟩ | ⟨b, cur, h5, h6, h7, h8, h9, h10, h11, h12, h13, h14⟩
      · exact .inl ⟨a, by simp [b], c⟩
      · refine .inr ⟨b, cur, h5, h6, h7, h8, Nat.le_trans hle h9, h10, ?_, ?_, fun _ => h13 trivial, ?_⟩
        · have hflat : (rows.take k).flatten = rows.flatten.take ((rows.take k).length * i.size) := by
            have aux : ∀ (l : List (List PV)) (m : Nat), (∀ r ∈ l, r.length = i.size) → (l.take m).flatten = l.flatten.take ((l.take m).length * i.size) := by
              intro l
              induction l with
              | nil => intro m _; simp
              | cons r l ih =>
                intro m hr
                cases m with
                | zero => simp
                | succ m =>
                  have h1 := hr r (by simp)
                  have := ih m fun r hr' => hr r (by simp [hr'])
                  simp only [List.take_succ_cons, List.flatten_cons, List.length_cons]
                  have e1 : ((l.take m).length + 1) * i.size = r.length + (l.take m).length * i.size := by rw [Nat.add_mul, h1]; omega
                  rw [e1, List.take_length_add_append, this]
            exact aux rows k h3
          rw [hflat]
          have := h11.take ((rows.take k).length * i.size)
          rw [List.take_take, Nat.min_eq_left (Nat.mul_le_mul_right _ hle)] at this
          exact this
        · intro v hv
          refine h12 v ?_
          have e1 : cur.toList.take ((rows.take k).length * i.size) = (cur.toList.take (rows.length * i.size)).take ((rows.take k).length * i.size) := by
            rw [List.take_take, Nat.min_eq_left (Nat.mul_le_mul_right _ hle)]
          rw [e1] at hv
          exact List.mem_of_mem_take hv
        · intro o _
          exact h13 trivial o
    · exact h.objs t y hy
  · intro t t' y y' b hy hy' hb hb'
    obtain ⟨z, hz, e1⟩ := same t y hy
    obtain ⟨z', hz', e1'⟩ := same t' y' hy'
    exact h.dobj t t' z z' b hz hz' (e1 ▸ hb) (e1' ▸ hb')
  · intro t t' y y' hy hy' hb
    obtain ⟨z', hz', e1'⟩ := same t' y' hy'
    exact h.dmix t t' y z' hy hz' (e1' ▸ hb)
end

theorem PLe2All.of_eq {P : Program} {a b : List PV} (h : a = b) : PLe2All P a b := h ▸ PLe2All.refl a
theorem PLe2All.trans {P : Program} {a b c : List PV} (h : PLe2All P a b) (h' : PLe2All P b c) : PLe2All P a c := fun M s xs hx => h' M s xs (h M s xs hx)

/-- Room for so many elements. -/
def growI (bytes : Nat) (n : Int) : Option Unit := if 0 ≤ n ∧ n.toNat * bytes ≤ 2 ^ 47 ∧ n.toNat ≤ maxLen then some () else none
theorem growI_some {bytes : Nat} {n : Int} {u : Unit} (h : growI bytes n = some u) : 0 ≤ n ∧ n.toNat * bytes ≤ 2 ^ 47 ∧ n.toNat ≤ maxLen := by
  unfold growI at h
  split at h
  · assumption
  · cases h
/-- A string out of bytes. -/
def strI (xs : List UInt8) : Option (List UInt8) := if xs.length ≤ maxStr then some xs else none
theorem strI_some {xs ys : List UInt8} (h : strI xs = some ys) : xs.length ≤ maxStr ∧ ys = xs := by
  unfold strI at h
  split at h
  · rename_i h0; exact ⟨h0, (Option.some.inj h).symm⟩
  · cases h

/-- A byte out of a number, as the conversion makes it. -/
def u8of (n : Int) : UInt8 := UInt8.ofNat (IntKind.u8.wrap n).toNat
theorem u8of_eq (n : Int) : IntKind.u8.wrap n = ((u8of n).toNat : Int) := by
  have h1 : 0 ≤ IntKind.u8.wrap n ∧ IntKind.u8.wrap n < 256 := by
    simp only [IntKind.wrap, IntKind.bits, IntKind.signed]
    simp
    omega
  unfold u8of
  rw [UInt8.toNat_ofNat']
  omega

section
variable {P : Program} {ops : Array Oper} {rest : List Oper} {o : Oper} {n : Nat} {s s' : Nat → PV} {bx : Nat → Option Box} {ob : Nat → Option Obj} {K : PState → Prop} {T : TT} {rb : RB} {k : Nat} {L : List Nat}

theorem AOps.toU8 (hT : T.Ok P) (hg : guardA ops s o = some true) {src dst : TypeId} {x : Operand} (ho : o.op = .convert src dst x) {si di : TInfo} (hsi : T.get src = some si) (hdi : T.get dst = some di) (hdd : di.desc = .int .u8) {kk : IntKind} {m : Int} (hx : evS s x = .val (.int kk m))
    (hp : putD n s o.dst (.val (.int .u8 ((u8of m).toNat : Int))) = some s') (h : AOps P ops rest ⟨n, s', bx, ob⟩ K) : AOps P ops (o :: rest) ⟨n, s, bx, ob⟩ K := by
  refine AOps.det hT hg (r := .val (.int .u8 ((u8of m).toNat : Int))) ?_ hp h
  rw [ho]
  simp [det0, hsi, hdi, hx, hdd, u8of_eq]
theorem DOps.toU8 (ho : ops[k]? = some o) (hg : guardA ops s o = some true) {src dst : TypeId} {x : Operand} (hop : o.op = .convert src dst x) {si di : TInfo} (hsi : T.get src = some si) (hdi : T.get dst = some di) (hdd : di.desc = .int .u8) {kk : IntKind} {m : Int} (hx : evS s x = .val (.int kk m))
    (hp : putD n s o.dst (.val (.int .u8 ((u8of m).toNat : Int))) = some s') (h : DOps P T rb ops L ⟨n, s', bx, ob⟩ K) : DOps P T rb ops (k :: L) ⟨n, s, bx, ob⟩ K := by
  refine DOps.by ho hg (by rw [hop]; rfl) (r := .val (.int .u8 ((u8of m).toNat : Int))) ?_ hp h
  rw [hop]
  simp [det1, det0, hsi, hdi, hx, hdd, u8of_eq]

/-- Is a slice nil? Nobody knows; if it is, it is empty. -/
theorem AOps.isNil (hT : T.Ok P) (hg : guardA ops s o = some true) {t t' : TypeId} {x : Operand} (ho : o.op = .binOp .eql t x (.const (.slice none 0 0)) t') {ti : TInfo} {e : TypeId} (hti : T.get t = some ti) (hd : ti.desc = .slice e) {e' : TypeId} {rows : List (List PV)} (hx : evS s x = .list e' rows) {d : Nat} (hdst : o.dst = some d) (hlt : Nat.blt d n = true)
    (h : ∀ b : Bool, (b = true → rows = []) → AOps P ops rest ⟨n, upd s d (.val (.bool b)), bx, ob⟩ K) : AOps P ops (o :: rest) ⟨n, s, bx, ob⟩ K := by
  refine AOps.eff hg (fun C M a w next Q hi he hn => ?_)
  have hxr := he x (by rw [ho]; simp [Op.operands])
  rw [show (⟨n, s, bx, ob⟩ : PState).s = s from rfl, hx] at hxr
  simp only [Rep] at hxr
  obtain ⟨ad, c, i, hv, _, _, _, _, hr⟩ := hxr
  have hu := (hT.get hti).und
  rw [hd] at hu
  have hrun : (execOp a.eval o).run P w = .ok (.value (.bool ad.isNone)) w := by
    have h1 := run_equal_slice_nil (P := P) w t e ad rows.length c hu
    have h2 : (eqGuard .eql t x (.const (.slice none 0 0)) (.slice ad rows.length c) (.slice none 0 0)).run P w = .ok () w := by unfold eqGuard; split <;> simp
    simp only [execOp, ho, hv, show a.eval (.const (.slice none 0 0)) = .slice none 0 0 from rfl, Sem.run_bind, h2, Result.andThen_ok, binOp, h1]
    rfl
  unfold Oper.wp
  rw [hrun]
  refine hn _ (.val (.bool ad.isNone)) ⟨bx, ob⟩ M w ⟨_, by simp [hdst, putD, hlt], h ad.isNone fun hb => ?_⟩ (Mem.le_refl M) hi (by simp only [Rep])
  cases rows with
  | nil => rfl
  | cons r rows =>
    obtain ⟨b, o, e1, _⟩ := hr (by simp)
    rw [e1] at hb
    cases hb

/-- A slice literal of the call's own, weakened at once. -/
theorem AOps.bsOC (hT : T.Ok P) (hg : guardA ops s o = some true) {t e : TypeId} {m : Nat} {ps : Array (Nat × Operand)} (ho : o.op = .buildSlice t m ps) {d : Nat} (hdst : o.dst = some d) (hlt : Nat.blt d n = true) {ti : TInfo} (hti : T.get t = some ti) (hd : ti.desc = .slice e) {rows rows' : List (List PV)}
    (hr : bsRows T e m (evParts (evS s) ps) = some rows) (hl : rows'.map List.length = rows.map List.length) (hm : rows.length = m) (hle : PLe2All P rows.flatten rows'.flatten) (h : ∀ g, AOps P ops rest ⟨n, upd s d (.own d g rows'.length), bx, upd ob d (some ⟨g, e, rows', true⟩)⟩ K) : AOps P ops (o :: rest) ⟨n, s, bx, ob⟩ K := by
  refine AOps.bsO hT hg ho hdst hlt hti hd hr fun g => ?_
  have hlen : rows'.length = m := by rw [← hm]; simpa using congrArg List.length hl
  have h' := h g
  rw [hlen] at h'
  refine AOps.gh (st' := ⟨n, upd s d (.own d g m), bx, upd ob d (some ⟨g, e, rows', true⟩)⟩) ?_ h'
  intro C M a w hi
  refine ⟨M, hi.1, ?_⟩
  have := hi.2.reobj (tag := d) (rows' := rows') (upd_same _ _ _) hl hle
  simp only [PState.heap] at this ⊢
  have e2 : upd (upd ob d (some ⟨g, e, rows, true⟩)) d (some ⟨g, e, rows', true⟩) = upd ob d (some ⟨g, e, rows', true⟩) := by
    funext t
    simp only [upd_eq]
    split <;> rfl
  rwa [e2] at this

/-- The capacity of nothing. -/
theorem AOps.capN (hT : T.Ok P) (hg : guardA ops s o = some true) {x : Operand} {t : TypeId} {ts : List TypeId} (ho : o.op = .call { callee := .builtin .cap, args := #[x], argTypes := (t :: ts).toArray }) {ti : TInfo} {e : TypeId} (hti : T.get t = some ti) (hd : ti.desc = .slice e)
    (hx : evS s x = .val (.slice none 0 0)) (hp : putD n s o.dst (.val (.int .i64 0)) = some s') (h : AOps P ops rest ⟨n, s', bx, ob⟩ K) : AOps P ops (o :: rest) ⟨n, s, bx, ob⟩ K := by
  refine AOps.eff hg (fun C M a w next Q hi he hn => ?_)
  have hxr := he x (by rw [ho]; simp [Op.operands, Call.operands])
  rw [show (⟨n, s, bx, ob⟩ : PState).s = s from rfl, hx] at hxr
  simp only [Rep] at hxr
  have hu := (hT.get hti).und
  rw [hd] at hu
  have hrun : (execOp a.eval o).run P w = .ok (.value (.int .i64 0)) w := by
    simp only [execOp, ho, resolve, Sem.run_bind, Sem.run_pure, Result.andThen_ok, invoke, builtin, List.map_toArray, List.map_cons, List.map_nil, hxr]
    simp [Builtin.cap_, run_underlying hu, goInt]
  unfold Oper.wp
  rw [hrun]
  exact hn _ _ ⟨bx, ob⟩ M w ⟨s', hp, h⟩ (Mem.le_refl M) hi (by simp only [Rep])

/-- Nothing of nothing. -/
theorem AOps.subN (hT : T.Ok P) (hg : guardA ops s o = some true) {t : TypeId} {x y : Operand} (ho : o.op = .slice t x none (some y) none) {ti : TInfo} {e : TypeId} (hti : T.get t = some ti) (hd : ti.desc = .slice e) {ei : TInfo} (hei : T.get e = some ei)
    (hx : evS s x = .val (.slice none 0 0)) {kk : IntKind} (hy : evS s y = .val (.int kk 0)) (hp : putD n s o.dst (.val (.slice none 0 0)) = some s') (h : AOps P ops rest ⟨n, s', bx, ob⟩ K) : AOps P ops (o :: rest) ⟨n, s, bx, ob⟩ K := by
  refine AOps.eff hg (fun C M a w next Q hi he hn => ?_)
  have hxr := he x (by rw [ho]; simp [Op.operands])
  have hyr := he y (by rw [ho]; simp [Op.operands])
  rw [show (⟨n, s, bx, ob⟩ : PState).s = s from rfl, hx] at hxr
  rw [show (⟨n, s, bx, ob⟩ : PState).s = s from rfl, hy] at hyr
  simp only [Rep] at hxr hyr
  have hu := (hT.get hti).und
  rw [hd] at hu
  have hrun : (execOp a.eval o).run P w = .ok (.value (.slice none 0 0)) w := by
    simp only [execOp, ho, Sem.run_bind, Sem.run_pure, Option.map_some, Option.map_none, hxr, hyr]
    simp [Instr.sliceAt, Instr.slice, run_underlying hu, Instr.sliceBounds, Instr.sliceBound, asIntOf, (hT.get hei).rsize w]
  unfold Oper.wp
  rw [hrun]
  exact hn _ _ ⟨bx, ob⟩ M w ⟨s', hp, h⟩ (Mem.le_refl M) hi (by simp only [Rep])

/-- The first elements of a slice of the call's own, which is cut off there. -/
theorem AOps.cutO (hT : T.Ok P) (hg : guardA ops s o = some true) {t : TypeId} {x y : Operand} (ho : o.op = .slice t x none (some y) none) {ti : TInfo} {e : TypeId} (hti : T.get t = some ti) (hd : ti.desc = .slice e) {ei : TInfo} (hei : T.get e = some ei)
    {tag : Nat} {g : OwnRef} {len : Nat} {rows rows' : List (List PV)} (hx : evS s x = .own tag g len) (hob : ob tag = some ⟨g, e, rows, true⟩) (hlen : len = rows.length) {kk : IntKind} {m : Int} (hy : evS s y = .val (.int kk m)) (hm : 0 ≤ m ∧ m.toNat ≤ rows.length) (hr : rows.take m.toNat = rows') {d : Nat} (hdst : o.dst = some d) (hlt : Nat.blt d n = true)
    (h : AOps P ops rest ⟨n, upd s d (.own tag g rows'.length), bx, upd ob tag (some ⟨g, e, rows', true⟩)⟩ K) : AOps P ops (o :: rest) ⟨n, s, bx, ob⟩ K := by
  subst hlen
  subst hr
  refine AOps.eff hg (fun C M a w next Q hi he hn => ?_)
  have hxr := he x (by rw [ho]; simp [Op.operands])
  have hyr := he y (by rw [ho]; simp [Op.operands])
  rw [show (⟨n, s, bx, ob⟩ : PState).s = s from rfl, hx] at hxr
  rw [show (⟨n, s, bx, ob⟩ : PState).s = s from rfl, hy] at hyr
  simp only [Rep] at hxr hyr
  have hu := (hT.get hti).und
  rw [hd] at hu
  have hcap : rows.length ≤ g.cap := by
    obtain ⟨i, _, _, _, h4⟩ := hi.objs tag _ hob
    rcases h4 with ⟨_, b, _⟩ | ⟨_, _, _, _, _, _, h9, _⟩
    · simp only at b; rw [b]; simp
    · exact h9
  have hmc : m ≤ (g.cap : Int) := by omega
  have hl2 : (rows.take m.toNat).length = m.toNat := by simp; omega
  have hrun : (execOp a.eval o).run P w = .ok (.value (g.val (rows.take m.toNat).length)) w := by
    rw [hl2]
    simp only [execOp, ho, Sem.run_bind, Sem.run_pure, Option.map_some, Option.map_none, hxr.2, hyr, OwnRef.val]
    cases hb : g.blk with
    | none => simp [Instr.sliceAt, Instr.slice, run_underlying hu, Instr.sliceBounds, Instr.sliceBound, asIntOf, (hT.get hei).rsize w, hm.1, hmc]
    | some b =>
      have e0 : (⟨b, 0, none⟩ : Addr).add 0 = ⟨b, 0, none⟩ := by rw [add_off]
      simp [Instr.sliceAt, Instr.slice, run_underlying hu, Instr.sliceBounds, Instr.sliceBound, asIntOf, (hT.get hei).rsize w, hm.1, hmc, e0]
  unfold Oper.wp
  rw [hrun]
  exact hn _ (.own tag g (rows.take m.toNat).length) ⟨bx, upd ob tag (some ⟨g, e, rows.take m.toNat, true⟩)⟩ M w ⟨_, by simp [hdst, putD, hlt], h⟩ (Mem.le_refl M) (hi.cutO hob m.toNat) (by simp [Rep])

/-- So many zero elements, appended to nothing. -/
theorem AOps.appendMakeN (hT : T.Ok P) (hg : guardA ops s o = some true) {x y : Operand} {t u : TypeId} (ho : o.op = .call { callee := .builtin .append, args := #[x, y], argTypes := #[t, u] }) {d : Nat} (hdst : o.dst = some d) (hlt : Nat.blt d n = true) {ti ui ei : TInfo} {e : TypeId} (hti : T.get t = some ti) (hd : ti.desc = .slice e) (hui : T.get u = some ui) (hud : ui.desc = .int .i64) (hei : T.get e = some ei)
    (hz : Nat.beq ei.zero.cells.size ei.size = true) (hsz : Nat.blt 0 ei.size = true) (_hf : PV.frozL (zeroPV ei) = true) (h1 : (zeroPV ei).all PV.one = true) (hx : evS s x = .val (.slice none 0 0)) {m : Int} (hy : evS s y = .val (.int .i64 m)) (hm : 0 < m) (hby : m.toNat * ei.bytes ≤ 2 ^ 47) (hmx : m.toNat ≤ maxLen)
    (h : ∀ g, AOps P ops rest ⟨n, upd s d (.own d g (List.replicate m.toNat (zeroPV ei)).length), bx, upd ob d (some ⟨g, e, List.replicate m.toNat (zeroPV ei), true⟩)⟩ K) : AOps P ops (o :: rest) ⟨n, s, bx, ob⟩ K := by
  refine AOps.eff hg (fun C M a w next Q hi he hn => ?_)
  have hxr := he x (by rw [ho]; simp [Op.operands, Call.operands])
  have hyr := he y (by rw [ho]; simp [Op.operands, Call.operands])
  rw [show (⟨n, s, bx, ob⟩ : PState).s = s from rfl, hx] at hxr
  rw [show (⟨n, s, bx, ob⟩ : PState).s = s from rfl, hy] at hyr
  simp only [Rep] at hxr hyr
  have hu := (hT.get hti).und
  rw [hd] at hu
  have hu2 := (hT.get hui).und
  rw [hud] at hu2
  have hu3 := (hT.get hei).und
  obtain ⟨i, hinf, hs, hbs, hzero⟩ := (hT.get hei).info
  have hz1 := Nat.eq_of_beq_eq_true hz
  have hsz' : 0 < i.size := by have : 0 < ei.size := by simpa [Nat.blt_eq] using hsz
                               omega
  obtain ⟨k, hk⟩ : ∃ k : Nat, k = m.toNat := ⟨_, rfl⟩
  rw [← hk] at hby hmx h
  have hkm : m = (k : Int) := by omega
  subst hkm
  have hk0 : 0 < k := by omega
  have hwrap : IntKind.i64.wrap (k : Int) = k := by
    simp only [IntKind.wrap, IntKind.bits, IntKind.signed]
    simp
    unfold maxLen at hmx
    omega
  have h63 : ¬ (9223372036854775807 < (k : Int)) := by unfold maxLen at hmx; omega
  have hby2 : k * i.bytes ≤ 140737488355328 := by rw [hbs]; exact hby
  have h48 : ¬ (281474976710656 < Builtin.nextslicecap k 0 * i.bytes) := by rw [nextslicecap_zero hk0]; omega
  have h48' : ¬ (281474976710656 < (k : Int) * (i.bytes : Int)) := by
    have : ((k * i.bytes : Nat) : Int) ≤ 140737488355328 := Int.ofNat_le.2 hby2
    rw [Int.natCast_mul] at this
    omega
  have hne : ¬ (k * i.size = 0) := by
    have := Nat.mul_pos hk0 hsz'
    omega
  have hrun : (Builtin.append_ #[t, u] o.type #[.slice none 0 0, .int .i64 k]).run P w = .ok (.slice (some ⟨w.heap.size, 0, none⟩) k (grownCap w k 0 e)) (w.drew.alloc (.cells (Builtin.zeroCells ei.zero.cells k ++ Builtin.zeroCells ei.zero.cells (grownCap w k 0 e - k)) e)) := by
    have hk1 : k ≠ 0 := by omega
    have hk3 : ¬ ((k : Int) < 0) := by omega
    simp [Builtin.append_, run_underlying hu, run_underlying hu2, sizeOf, typeInfo, zeroValue, hinf, hzero, asInt, asIntOf, hwrap, hk1, hk3, h63, h48, h48', Question.forced, run_firstCells_none, newRow, grownCap]
    exact fun h0 => absurd h0 hne
  have hrun' : (execOp a.eval o).run P w = .ok (.value (.slice (some ⟨w.heap.size, 0, none⟩) k (grownCap w k 0 e))) (w.drew.alloc (.cells (Builtin.zeroCells ei.zero.cells k ++ Builtin.zeroCells ei.zero.cells (grownCap w k 0 e - k)) e)) := by
    simp only [execOp, ho, resolve, Sem.run_bind, Sem.run_pure, Result.andThen_ok, invoke, builtin, List.map_toArray, List.map_cons, List.map_nil, hxr, hyr]
    rw [hrun]
    rfl
  unfold Oper.wp
  rw [hrun']
  have hge := grownCap_ge w k 0 e
  have hgm : grownCap w k 0 e ≤ maxLen := grownCap_le_maxLen w k 0 e hmx
  have hzl : (zeroPV ei).length = i.size := by simp [zeroPV, hz1, hs]
  have hzc : (Builtin.zeroCells ei.zero.cells k).toList = (List.replicate k ei.zero.cells.toList).flatten := by
    unfold Builtin.zeroCells
    exact zeros_eq ei.zero.cells k
  have hzs : (Builtin.zeroCells ei.zero.cells k).toList.length = k * i.size := by
    rw [hzc]; simp [hz1, hs]
  have hrep : RepAll P M false (List.replicate k (zeroPV ei)).flatten (List.replicate k ei.zero.cells.toList).flatten := repAll_flat (zeroPV_rep _) k
  have htake : ((Builtin.zeroCells ei.zero.cells k ++ Builtin.zeroCells ei.zero.cells (grownCap w k 0 e - k)).toList.take ((List.replicate k (zeroPV ei)).length * i.size)) = (List.replicate k ei.zero.cells.toList).flatten := by
    rw [List.length_replicate, Array.toList_append, ← hzc]
    rw [← hzs]
    exact List.take_left
  refine hn _ (.own d ⟨some w.heap.size, grownCap w k 0 e⟩ (List.replicate k (zeroPV ei)).length) _ M _ ⟨_, by simp [hdst, putD, hlt], h ⟨some w.heap.size, grownCap w k 0 e⟩⟩ (Mem.le_refl M)
    ((show InvH P C M ⟨bx, ob⟩ w.drew from hi.drew).alloc_obj d e (List.replicate k (zeroPV ei)) true _ _ i hinf ?_ ?_ ?_ ?_ hgm ?_ ?_) ?_
  · rw [List.length_replicate]; exact hby2
  · intro r hr
    rw [List.eq_of_mem_replicate hr]
    exact hzl
  · simp only [Array.size_append, size_zeroCells, hz1, ← hs, ← Nat.add_mul]
    congr 1
    omega
  · rw [List.length_replicate]; exact hge
  · rw [htake]; exact hrep
  · rw [htake]
    refine RepAll.oneCell ?_ hrep
    rw [List.all_flatten]
    rw [List.all_eq_true]
    intro r hr
    rw [List.eq_of_mem_replicate hr]
    exact h1
  · simp [Rep, OwnRef.val]
end
end Go.Ab
