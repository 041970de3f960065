/- The abstract layer: families: a slice of the call's own whose elements are slices of the call's own. -/
import Derived.Test.YtjnpnakcmjndiaaGreatDoorMjj
namespace Go.Ab

/-- The name of a family's first slice; the names of the others follow. -/
def famBase : Nat := 100000
/-- The capacity, asQ far asQ it can be one. -/
def famCap (n c : Nat) : Nat := max n (min c maxLen)
/-- The value: n elements, room for c. -/
def famV (b n c : Nat) : Value := bif Nat.beq (famCap n c) 0 then .slice none 0 0 else .slice (some ⟨b, 0, none⟩) n (famCap n c)
def famCells (gf : Nat → OwnRef) (rss : List (List (List PV))) (c : Nat) : List PV := rss.mapIdx (fun i rs => PV.own (famBase + i) (gf i) rs.length) ++ List.replicate (famCap rss.length c - rss.length) (.val (.slice none 0 0))
def famB (b : Nat) (gf : Nat → OwnRef) (rss : List (List (List PV))) (c : Nat) : Option Box := bif Nat.beq (famCap rss.length c) 0 then none else some ⟨b, famCells gf rss c⟩
def famO (e : TypeId) (gf : Nat → OwnRef) (rss : List (List (List PV))) (ob : Nat → Option Obj) : Nat → Option Obj := fun t =>
  bif Nat.ble famBase t then (rss[t - famBase]?).map (fun rs => ⟨gf (t - famBase), e, rs, true⟩) else ob t

theorem famCap_ge (n c : Nat) : n ≤ famCap n c := Nat.le_max_left _ _
theorem famCap_le {n : Nat} (c : Nat) (h : n ≤ maxLen) : famCap n c ≤ maxLen := Nat.max_le.2 ⟨h, Nat.min_le_right _ _⟩
theorem famCap_eq {n c : Nat} (h : n ≤ c) (h' : c ≤ maxLen) : famCap n c = c := by unfold famCap; rw [Nat.min_eq_left h', Nat.max_eq_right h]
theorem beq_pos {n : Nat} (h : 0 < n) : Nat.beq n 0 = false := by
  cases n with
  | zero => omega
  | succ n => rfl
theorem famV_pos {b n c : Nat} (h : 0 < famCap n c) : famV b n c = .slice (some ⟨b, 0, none⟩) n (famCap n c) := by simp [famV, beq_pos h]
theorem famV_zero {b n c : Nat} (h : famCap n c = 0) : famV b n c = .slice none 0 0 := by simp [famV, h]
theorem famB_pos {b : Nat} {gf : Nat → OwnRef} {rss : List (List (List PV))} {c : Nat} (h : 0 < famCap rss.length c) : famB b gf rss c = some ⟨b, famCells gf rss c⟩ := by simp [famB, beq_pos h]
theorem famB_zero {b : Nat} {gf : Nat → OwnRef} {rss : List (List (List PV))} {c : Nat} (h : famCap rss.length c = 0) : famB b gf rss c = none := by simp [famB, h]

theorem famO_get {e : TypeId} {gf : Nat → OwnRef} {rss : List (List (List PV))} {ob : Nat → Option Obj} {i : Nat} {rs : List (List PV)} (h : rss[i]? = some rs) : famO e gf rss ob (famBase + i) = some ⟨gf i, e, rs, true⟩ := by
  have : Nat.ble famBase (famBase + i) = true := by rw [Nat.ble_eq]; exact Nat.le_add_right _ _
  simp [famO, this, h]
theorem famB_some {b : Nat} {gf : Nat → OwnRef} {rss : List (List (List PV))} {c i : Nat} {rs : List (List PV)} (h : rss[i]? = some rs) : famB b gf rss c = some ⟨b, famCells gf rss c⟩ := by
  have hl := (List.getElem?_eq_some_iff.1 h).1
  exact famB_pos (Nat.lt_of_lt_of_le (by omega) (famCap_ge _ _))
theorem famCells_get {gf : Nat → OwnRef} {rss : List (List (List PV))} {c i : Nat} {rs : List (List PV)} (h : rss[i]? = some rs) : (famCells gf rss c)[i]? = some (.own (famBase + i) (gf i) rs.length) := by
  have hl := (List.getElem?_eq_some_iff.1 h).1
  unfold famCells
  rw [List.getElem?_append_left (by simpa using hl)]
  simp [h]
theorem famCells_len {gf : Nat → OwnRef} {rss : List (List (List PV))} {c : Nat} : (famCells gf rss c).length = famCap rss.length c := by
  have := famCap_ge rss.length c
  simp [famCells]; omega
theorem flat_single {α β : Type} (f : α → β) (l : List α) : (l.map fun r => [f r]).flatten = l.map f := by
  induction l with
  | nil => rfl
  | cons a l ih => simp [ih]
theorem splice_one (cells : List PV) (k : Nat) (v : PV) (hk : k < cells.length) : splice cells k [v] = cells.set k v := by
  unfold splice
  rw [List.length_singleton, List.set_eq_take_append_cons_drop, if_pos hk, List.append_assoc]
  rfl
theorem famCells_set {gf : Nat → OwnRef} {rss : List (List (List PV))} {c i : Nat} {rs rs' : List (List PV)} (h : rss[i]? = some rs) (g : OwnRef) :
    splice (famCells gf rss c) i [.own (famBase + i) g rs'.length] = famCells (upd gf i g) (rss.set i rs') c := by
  have hl := (List.getElem?_eq_some_iff.1 h).1
  rw [splice_one _ _ _ (by rw [famCells_len]; exact Nat.lt_of_lt_of_le hl (famCap_ge _ _))]
  unfold famCells
  rw [List.set_append_left _ _ (by simpa using hl), List.length_set]
  congr 1
  apply List.ext_getElem?
  intro j
  simp only [List.getElem?_set, List.length_mapIdx, List.getElem?_mapIdx]
  by_cases hj : i = j
  · subst hj; simp [hl, upd_same]
  · have : j ≠ i := fun h => hj h.symm
    simp [hj, upd_ne _ _ this]

theorem upd_fam {α : Type} {f : Nat → α} {t : Nat} {v : α} {i : Nat} (h : t < 100000) : upd f t v (famBase + i) = f (famBase + i) := upd_ne _ _ (by unfold famBase; omega)
theorem famO_low {e : TypeId} {gf : Nat → OwnRef} {rss : List (List (List PV))} {ob : Nat → Option Obj} {t : Nat} (h : t < famBase) : famO e gf rss ob t = ob t := by
  have : Nat.ble famBase t = false := by
    cases hb : Nat.ble famBase t with
    | false => rfl
    | true => have := Nat.le_of_ble_eq_true hb; omega
  simp [famO, this]
theorem famO_set {e : TypeId} {gf : Nat → OwnRef} {rss : List (List (List PV))} {ob : Nat → Option Obj} {i : Nat} {rs' : List (List PV)} {g : OwnRef} (hl : i < rss.length) :
    ∀ j rs, (rss.set i rs')[j]? = some rs → upd (famO e gf rss ob) (famBase + i) (some ⟨g, e, rs', true⟩) (famBase + j) = some ⟨upd gf i g j, e, rs, true⟩ := by
  intro j rs h
  rw [List.getElem?_set] at h
  by_cases hj : i = j
  · subst hj
    simp only [if_true, hl] at h
    cases h
    rw [upd_same, upd_same]
  · have h1 : famBase + j ≠ famBase + i := by omega
    rw [if_neg hj] at h
    rw [upd_ne _ _ h1, famO_get h, upd_ne _ _ (fun h => hj h.symm)]

theorem famB_put {b c i : Nat} {gf2 : Nat → OwnRef} {rss rss2 : List (List (List PV))} {rs rs' : List (List PV)} (h : rss[i]? = some rs) (hz : rss2 = rss.set i rs') : (some ⟨b, famCells gf2 (rss.set i rs') c⟩ : Option Box) = famB b gf2 rss2 c := by
  subst hz
  exact (famB_some (i := i) (rs := rs') (by rw [List.getElem?_set]; simp [(List.getElem?_eq_some_iff.1 h).1])).symm
theorem famO_put {e : TypeId} {gf : Nat → OwnRef} {rss rss2 : List (List (List PV))} {ob : Nat → Option Obj} {i : Nat} {rs0 rs' : List (List PV)} {g : OwnRef} (h : rss[i]? = some rs0) (hz : rss2 = rss.set i rs') :
    ∀ j rs, rss2[j]? = some rs → upd (famO e gf rss ob) (famBase + i) (some ⟨g, e, rs', true⟩) (famBase + j) = some ⟨upd gf i g j, e, rs, true⟩ := by
  subst hz
  exact famO_set (List.getElem?_eq_some_iff.1 h).1
theorem backO_fam_nil (ob ob' : Nat → Option Obj) (t : Nat) : backO ob [] ob' t = ob t := rfl
theorem backO_fam_cons {ob ob' : Nat → Option Obj} {a k i : Nat} {m : List (Nat × Nat)} (h : a < 100000) : backO ob ((a, k) :: m) ob' (famBase + i) = backO ob m ob' (famBase + i) := by
  unfold backO
  rw [List.find?_cons]
  have : Nat.beq a (famBase + i) = false := by
    cases hb : Nat.beq a (famBase + i) with
    | false => rfl
    | true => have := Nat.eq_of_beq_eq_true hb; unfold famBase at this; omega
  simp only [this]

section
variable {P : Program} {bx bx' : Nat → Option Box} {ob ob' : Nat → Option Obj}
theorem OLe.famNil {e : TypeId} {gf : Nat → OwnRef} (h : OLe ob ob') : OLe ob (famO e gf [] ob') := fun t x hx => by
  unfold famO at hx
  cases hq : Nat.ble famBase t with
  | true => rw [hq] at hx; simp at hx
  | false => rw [hq] at hx; exact h t x hx
theorem OLe.fam {e : TypeId} {gf : Nat → OwnRef} {rss : List (List (List PV))} (h : ∀ i rs, rss[i]? = some rs → ob (famBase + i) = some ⟨gf i, e, rs, true⟩) (h' : OLe ob ob') : OLe ob (famO e gf rss ob') := by
  intro t x hx
  unfold famO at hx
  cases hb : Nat.ble famBase t with
  | false => rw [hb] at hx; exact h' t x hx
  | true =>
    rw [hb] at hx
    have hle := Nat.le_of_ble_eq_true hb
    simp only [cond_true, Option.map_eq_some_iff] at hx
    obtain ⟨rs, h1, rfl⟩ := hx
    have := h _ _ h1
    rwa [show famBase + (t - famBase) = t from by omega] at this
theorem famNil_le (e : TypeId) (gf : Nat → OwnRef) (ob : Nat → Option Obj) : ∀ t x, famO e gf [] ob t = some x → ob t = some x := OLe.fam (fun i rs h => by simp at h) (OLe.refl ob)
theorem BLe.fam {t b c : Nat} {gf : Nat → OwnRef} {rss : List (List (List PV))} (h : bx t = famB b gf rss c) (h' : BLe P bx bx') : BLe P bx (upd bx' t (famB b gf rss c)) := fun u x hx => by
  rw [upd_eq] at hx
  split at hx
  · rename_i e; subst e; rw [← h] at hx; exact ⟨x, hx, rfl, PLeAll.refl P _⟩
  · exact h' u x hx
theorem BLe.famNil {t b : Nat} {gf : Nat → OwnRef} (h' : BLe P bx bx') : BLe P bx (upd bx' t (famB b gf [] 0)) := fun u x hx => by
  rw [upd_eq] at hx
  split at hx
  · rw [famB_zero (by simp [famCap])] at hx; cases hx
  · exact h' u x hx
end

theorem InvH.famNil {P : Program} {C : Ctx} {M : Mem} {w : World} {bx : Nat → Option Box} {ob : Nat → Option Obj} (e : TypeId) (gf : Nat → OwnRef) (h : InvH P C M ⟨bx, ob⟩ w) : InvH P C M ⟨bx, famO e gf [] ob⟩ w :=
  h.less (fun _ _ hx => hx) (famNil_le e gf ob)
section
variable {P : Program} {C : Ctx} {M : Mem} {H : Heap} {w : World}

/-- All slices of a family are frozen. -/
theorem InvH.freezeAll {bx : Nat → Option Box} {ob : Nat → Option Obj} {e : TypeId} {gf : Nat → OwnRef} {rss : List (List (List PV))} (h : InvH P C M ⟨bx, famO e gf rss ob⟩ w) : ∀ n, n ≤ rss.length →
    ∃ M' ob', M.le M' ∧ InvH P C M' ⟨bx, ob'⟩ w ∧ (∀ t, t < famBase → ob' t = ob t) ∧ (∀ i, n ≤ i → ob' (famBase + i) = famO e gf rss ob (famBase + i)) ∧
      ∀ i rs, i < n → rss[i]? = some rs → Rep P M' true (.list e rs) ((gf i).val rs.length)
  | 0, _ => ⟨M, _, Mem.le_refl M, h, fun t ht => famO_low ht, fun i _ => rfl, fun i rs hi => by omega⟩
  | n + 1, hn => by
    obtain ⟨M1, ob1, hle1, h1, ha, hb, hc⟩ := InvH.freezeAll h n (by omega)
    obtain ⟨rs, hrs⟩ : ∃ rs, rss[n]? = some rs := ⟨rss[n], List.getElem?_eq_getElem (by omega)⟩
    have hx := hb n (Nat.le_refl n)
    rw [famO_get hrs] at hx
    obtain ⟨M2, hle2, h2, hr⟩ := h1.freezeO (tag := famBase + n) (x := ⟨gf n, e, rs, true⟩) hx
    refine ⟨M2, _, Mem.le_trans hle1 hle2, h2, fun t ht => ?_, fun i hi => ?_, fun i rs' hi hrs' => ?_⟩
    · rw [upd_ne _ _ (by omega)]; exact ha t ht
    · rw [upd_ne _ _ (by omega)]; exact hb i (by omega)
    · by_cases hin : i = n
      · subst hin
        rw [hrs] at hrs'
        cases hrs'
        exact hr
      · exact Rep.mono hle2 (hc i rs' (by omega) hrs')

/-- A family is frozen, asQ a slice of slices. -/
theorem InvH.freezeFam {bx : Nat → Option Box} {ob : Nat → Option Obj} {t e e' b c : Nat} {gf : Nat → OwnRef} {rss : List (List (List PV))} (h : InvH P C M ⟨bx, famO e gf rss ob⟩ w) (hb : bx t = famB b gf rss c)
    {T : TT} (hT : T.Ok P) {ei : TInfo} (hei : T.get e' = some ei) (hsz : ei.size = 1) (hby : rss.length * ei.bytes ≤ 2 ^ 47) (hmx : rss.length ≤ maxLen) :
    ∃ M', M.le M' ∧ InvH P C M' ⟨upd bx t none, famO e gf [] ob⟩ w ∧ Rep P M' true (.list e' (rss.map fun rs => [.list e rs])) (famV b rss.length c) := by
  obtain ⟨M1, ob1, hle1, h1, ha, _, hc⟩ := h.freezeAll rss.length (Nat.le_refl _)
  obtain ⟨i, hi, hs, hbs, _⟩ := (hT.get hei).info
  have hless : ∀ {M : Mem} {bx : Nat → Option Box}, InvH P C M ⟨bx, ob1⟩ w → InvH P C M ⟨bx, famO e gf [] ob⟩ w := fun h => h.less (fun _ _ hx => hx) (fun u x hx => by
    have hx : famO e gf [] ob u = some x := hx
    unfold famO at hx
    cases hq : Nat.ble famBase u with
    | true => rw [hq] at hx; simp at hx
    | false =>
      rw [hq] at hx
      have : u < famBase := by
        rcases Nat.lt_or_ge u famBase with h | h
        · exact h
        · rw [show Nat.ble famBase u = true from by rw [Nat.ble_eq]; exact h] at hq; cases hq
      show ob1 u = some x
      rw [ha u this]
      exact hx)
  rcases Nat.eq_zero_or_pos (famCap rss.length c) with h0 | h0
  · have hnil : rss = [] := List.length_eq_zero_iff.1 (by have := famCap_ge rss.length c; omega)
    subst hnil
    refine ⟨M1, hle1, (hless h1).less (fun u x hx => ?_) (fun _ _ hx => hx), ?_⟩
    · simp only [upd_eq] at hx
      split at hx
      · cases hx
      · exact hx
    · rw [famV_zero h0]
      simp only [Rep]
      exact ⟨none, 0, i, by simp, by simp, by simp, hi, by simp, by simp⟩
  · rw [famB_pos h0] at hb
    -- the box, its slices frozen
    obtain ⟨hmine, ⟨cs, e0, hcs, hr⟩, hnone⟩ := h1.boxes t _ hb
    let cells' : List PV := rss.map (fun rs => PV.list e rs) ++ List.replicate (famCap rss.length c - rss.length) (.val (.slice none 0 0))
    have hr' : RepAll P M1 true cells' cs.toList := by
      have key : ∀ (l : List (List (List PV))) (k : Nat) (r : List PV) (xs : List Value), (∀ j rs, l[j]? = some rs → Rep P M1 true (.list e rs) ((gf (k + j)).val rs.length)) →
          RepAll P M1 true (l.mapIdx (fun j rs => PV.own (famBase + (k + j)) (gf (k + j)) rs.length) ++ r) xs → RepAll P M1 true (l.map (fun rs => PV.list e rs) ++ r) xs := by
        intro l
        induction l with
        | nil => intro k r xs _ h; simpa using h
        | cons a l ih =>
          intro k r xs hl h
          simp only [List.mapIdx_cons, List.cons_append, RepAll, List.map_cons] at h ⊢
          obtain ⟨x, ys, rfl, hx, hy⟩ := h
          refine ⟨x, ys, rfl, ?_, ih (k + 1) r ys (fun j rs hj => ?_) ?_⟩
          · simp only [Rep, Nat.add_zero] at hx
            rw [hx.2]
            exact hl 0 a rfl
          · have := hl (j + 1) rs (by simpa using hj)
            rwa [show k + (j + 1) = k + 1 + j from by omega] at this
          · have e : (fun (j : Nat) (rs : List (List PV)) => PV.own (famBase + (k + (j + 1))) (gf (k + (j + 1))) rs.length) = fun j rs => PV.own (famBase + (k + 1 + j)) (gf (k + 1 + j)) rs.length := by
              funext j rs
              rw [show k + (j + 1) = k + 1 + j from by omega]
            rw [← e]
            exact hy
      refine key rss 0 _ _ (fun j rs hj => ?_) ?_
      · rw [Nat.zero_add]
        exact hc j rs (List.getElem?_eq_some_iff.1 hj).1 hj
      · simpa [famCells] using hr
    have h2 : InvH P C M1 ⟨upd bx t (some ⟨b, cells'⟩), ob1⟩ w := by
      have key : ∀ u x, upd bx t (some ⟨b, cells'⟩) u = some x → (u = t ∧ x = ⟨b, cells'⟩) ∨ (u ≠ t ∧ bx u = some x) := by
        intro u x hx
        rw [upd_eq] at hx
        split at hx
        · rename_i e; exact .inl ⟨e, (Option.some.inj hx).symm⟩
        · rename_i e; exact .inr ⟨e, hx⟩
      refine ⟨h1.mem, h1.ext, h1.new, h1.os, h1.tape, h1.output, h1.size, h1.frame, fun u x hx => ?_, h1.objs, fun u u' x x' hx hx' hbb => ?_, h1.dobj, fun u u' x x' hx hx' hbb => ?_⟩
      · rcases key u x hx with ⟨_, rfl⟩ | ⟨_, hx⟩
        · exact ⟨hmine, ⟨cs, e0, hcs, hr'⟩, hnone⟩
        · exact h1.boxes u x hx
      · rcases key u x hx with ⟨q1, q2⟩ | ⟨_, hy⟩ <;> rcases key u' x' hx' with ⟨q3, q4⟩ | ⟨_, hy'⟩
        · rw [q1, q3]
        · subst q1; subst q2; exact h1.dbox _ u' _ x' hb hy' hbb
        · subst q3; subst q4; exact h1.dbox u _ x _ hy hb hbb
        · exact h1.dbox u u' x x' hy hy' hbb
      · rcases key u x hx with ⟨q1, q2⟩ | ⟨_, hy⟩
        · subst q1; subst q2; exact h1.dmix _ u' _ x' hb hx' hbb
        · exact h1.dmix u u' x x' hy hx' hbb
    have hfl : ∀ l : List PV, (∀ p ∈ l, p.froz = true) → PV.frozL l = true := by
      intro l
      induction l with
      | nil => intro _; rfl
      | cons a l ih => intro h; simp [PV.frozL, h a (by simp), ih fun p hp => h p (by simp [hp])]
    obtain ⟨M2, hle2, h3, hra⟩ := h2.freezeB (tag := t) (x := ⟨b, cells'⟩) (upd_same _ _ _) (hfl _ (fun p hp => by
        rcases List.mem_append.1 hp with hp | hp
        · obtain ⟨rs, _, rfl⟩ := List.mem_map.1 hp; rfl
        · rw [List.eq_of_mem_replicate hp]; rfl)) (List.all_eq_true.2 fun p hp => by
        rcases List.mem_append.1 hp with hp | hp
        · obtain ⟨rs, _, rfl⟩ := List.mem_map.1 hp; rfl
        · rw [List.eq_of_mem_replicate hp]; rfl)
    refine ⟨M2, Mem.le_trans hle1 hle2, (hless h3).less (fun u x hx => ?_) (fun _ _ hx => hx), ?_⟩
    · simp only [upd_eq] at hx ⊢
      split at hx
      · cases hx
      · rename_i q; simp only [if_neg q]; exact hx
    · rw [famV_pos h0]
      simp only [Rep]
      refine ⟨some ⟨b, 0, none⟩, famCap rss.length c, i, by simp, by simpa using famCap_ge _ _, famCap_le _ hmx, hi, by rw [List.length_map, hbs]; exact hby, fun _ => ⟨b, 0, rfl, ?_⟩⟩
      have hs1 : i.size = 1 := by rw [hs]; exact hsz
      rw [hs1]
      refine RepRows.of_flat (fun r hr => ?_) ?_
      · obtain ⟨rs, _, rfl⟩ := List.mem_map.1 hr; rfl
      · rw [flat_single]
        have := RepAt.take rss.length hra
        have e2 : (cells').take rss.length = rss.map (fun rs => PV.list e rs) := by
          show (rss.map (fun rs => PV.list e rs) ++ _).take rss.length = _
          rw [List.take_append_of_le_length (by simp)]
          exact List.take_of_length_le (by simp)
        rw [e2] at this
        exact this
end

/-! Steps. -/
section
variable {P : Program} {T : TT} {w : World} {C : Ctx} {M : Mem}

/-- Append within the room, into a block of whatever type. -/
theorem run_append_roomT (t ty e e0 : TypeId) (i : TypeInfo) (ht : P.underlying t = some (.slice e)) (hi : P.info? e = some i)
    (g sLen sCap : Nat) (cur : Array Value) (hg : w.heap[g]? = some (.cells cur e0 (0, 0)))
    (a : Addr) (m c : Nat) (news : List Value) (hl : news.length = m * i.size) (hnews : ∀ j u, news[j]? = some u → w.cell? (a.add j) = some u) (h1 : ∀ u ∈ news, u.oneCell' = true)
    (hroom : sLen + m ≤ sCap) (hfit : sLen * i.size + news.length ≤ cur.size) :
    (Builtin.append_ #[t, t] ty #[.slice (some ⟨g, 0, none⟩) sLen sCap, .slice (some a) m c]).run P w =
      .ok (.slice (some ⟨g, 0, none⟩) (sLen + m) sCap) (w.setRow g (cur.toList.take (sLen * i.size) ++ news ++ cur.toList.drop (sLen * i.size + news.length)).toArray) := by
  have hf := run_firstCells_some (P := P) w i.size m a m c news hl hnews
  have hst := run_storeCells_at P g (sLen * i.size) e0 news 0 cur w hg (by simpa using hfit) h1
  simp only [Nat.add_zero] at hst
  simp [Builtin.append_, run_underlying ht, sizeOf, typeInfo, hi, Builtin.lenOf, hroom, hf, Addr.add_lit, hst]

theorem repNils {k : Nat} {P : Program} {M : Mem} : RepAll P M true (List.replicate k (.val (.slice none 0 0))) (List.replicate k (Value.slice none 0 0)) := by
  induction k with
  | zero => simp [RepAll]
  | succ k ih => simp only [List.replicate_succ, RepAll]; exact ⟨_, _, rfl, by simp [Rep], ih⟩
theorem zeroNils (k : Nat) : (Builtin.zeroCells #[Value.slice none 0 0] k).toList = List.replicate k (Value.slice none 0 0) := by
  unfold Builtin.zeroCells
  rw [zeros_eq]
  induction k with
  | zero => rfl
  | succ k ih => rw [List.replicate_succ, List.flatten_cons, ih]; rfl
def famOwn (gf : Nat → OwnRef) (rss : List (List (List PV))) : List PV := rss.mapIdx fun i rs => PV.own (famBase + i) (gf i) rs.length
theorem famOwn_len {gf : Nat → OwnRef} {rss : List (List (List PV))} : (famOwn gf rss).length = rss.length := by simp [famOwn]
theorem famCells_eq {gf : Nat → OwnRef} {rss : List (List (List PV))} {c : Nat} : famCells gf rss c = famOwn gf rss ++ List.replicate (famCap rss.length c - rss.length) (.val (.slice none 0 0)) := rfl
theorem famCells_app {gf : Nat → OwnRef} {rss : List (List (List PV))} {c : Nat} {g : OwnRef} : famCells (upd gf rss.length g) (rss ++ [[]]) c =
    famOwn gf rss ++ (.own (famBase + rss.length) g 0 :: List.replicate (famCap (rss.length + 1) c - (rss.length + 1)) (.val (.slice none 0 0))) := by
  have h : famOwn (upd gf rss.length g) (rss ++ [[]]) = famOwn gf rss ++ [.own (famBase + rss.length) g 0] := by
    unfold famOwn
    rw [List.mapIdx_append]
    congr 1
    · apply List.ext_getElem?
      intro j
      simp only [List.getElem?_mapIdx]
      by_cases hj : j < rss.length
      · rw [upd_ne _ _ (by omega)]
      · rw [List.getElem?_eq_none (by omega)]; rfl
    · simp [upd_same]
  rw [famCells_eq, h]
  simp
theorem famClose {bx : Nat → Option Box} {ob : Nat → Option Obj} {t0 b e c : Nat} {gf : Nat → OwnRef} {rss : List (List (List PV))} (hT : T.Ok P) {ei2 : TInfo} (hei2 : T.get e = some ei2)
    (h : InvH P C M ⟨upd bx t0 (some ⟨b, famCells (upd gf rss.length ⟨none, 0⟩) (rss ++ [[]]) c⟩), famO e gf rss ob⟩ w) :
    InvH P C M ⟨upd bx t0 (famB b (upd gf rss.length ⟨none, 0⟩) (rss ++ [[]]) c), famO e (upd gf rss.length ⟨none, 0⟩) (rss ++ [[]]) ob⟩ w := by
  rw [famB_pos (Nat.lt_of_lt_of_le (by simp) (famCap_ge _ _))]
  refine (h.nilobj hT (famBase + rss.length) hei2).less (fun _ _ hx => hx) (fun t x hx => ?_)
  have hx : famO e (upd gf rss.length ⟨none, 0⟩) (rss ++ [[]]) ob t = some x := hx
  unfold famO at hx
  cases hq : Nat.ble famBase t with
  | false =>
    rw [hq] at hx
    have ht : t < famBase := by
      rcases Nat.lt_or_ge t famBase with h | h
      · exact h
      · rw [show Nat.ble famBase t = true from by rw [Nat.ble_eq]; exact h] at hq; cases hq
    show upd (famO e gf rss ob) _ _ t = some x
    rw [upd_ne _ _ (by omega), famO_low ht]
    exact hx
  | true =>
    rw [hq] at hx
    have hle := Nat.le_of_ble_eq_true hq
    simp only [cond_true, Option.map_eq_some_iff] at hx
    obtain ⟨rs, h1, rfl⟩ := hx
    show upd (famO e gf rss ob) _ _ t = _
    by_cases hj : t = famBase + rss.length
    · subst hj
      rw [upd_same]
      rw [show famBase + rss.length - famBase = rss.length from by omega] at h1 ⊢
      simp at h1
      rw [upd_same, ← h1]
    · rw [upd_ne _ _ hj]
      have h2 := (List.getElem?_eq_some_iff.1 h1).1
      simp at h2
      have h3 : t - famBase < rss.length := by omega
      rw [List.getElem?_append_left h3] at h1
      have := famO_get (e := e) (gf := gf) (ob := ob) h1
      rw [show famBase + (t - famBase) = t from by omega] at this
      rw [this, upd_ne _ _ (by omega)]

theorem appendFam_core {bx : Nat → Option Box} {ob : Nat → Option Obj} {t0 b e e' c : Nat} {gf : Nat → OwnRef} {rss : List (List (List PV))} (hi : InvH P C M ⟨bx, famO e gf rss ob⟩ w) (hb : bx t0 = famB b gf rss c) (hT : T.Ok P)
    {t ty : TypeId} {ti ei ei2 : TInfo} (hti : T.get t = some ti) (hd : ti.desc = .slice e') (hei : T.get e' = some ei) (hsz : ei.size = 1) (hz : ei.zero.cells = #[.slice none 0 0]) (hei2 : T.get e = some ei2)
    {v : Value} (hv : Rep P M true (.list e' [[.val (.slice none 0 0)]]) v) (hby : (rss.length + 1) * ei.bytes ≤ 2 ^ 47) (hmx : rss.length + 1 ≤ maxLen) :
    ∃ b' c' w', (Builtin.append_ #[t, t] ty #[famV b rss.length c, v]).run P w = .ok (famV b' (rss.length + 1) c') w' ∧
      InvH P C M ⟨upd bx t0 (famB b' (upd gf rss.length ⟨none, 0⟩) (rss ++ [[]]) c'), famO e (upd gf rss.length ⟨none, 0⟩) (rss ++ [[]]) ob⟩ w' := by
  obtain ⟨i, sa, c0, news, hinf, rfl, _, hnl, _, hcells, hrep, hone⟩ := list_src hi hv
  obtain ⟨i', hinf', hs, hbs, hzero⟩ := (hT.get hei).info
  rw [hinf] at hinf'
  cases hinf'
  have hs1 : i.size = 1 := by rw [hs]; exact hsz
  have hnews : news = [.slice none 0 0] := by
    simp only [List.flatten_cons, List.flatten_nil, List.append_nil, RepAll, Rep] at hrep
    obtain ⟨x, xs, rfl, rfl, rfl⟩ := hrep
    rfl
  subst hnews
  have hu := (hT.get hti).und
  rw [hd] at hu
  obtain ⟨a, rfl, hac⟩ := hcells (by simp)
  have h63 : ((rss.length + 1 : Nat) : Int) ≤ 9223372036854775807 := by unfold maxLen at hmx; omega
  have hby' : (rss.length + 1) * i.bytes ≤ 140737488355328 := by rw [hbs]; exact hby
  have hcap := famCap_ge rss.length c
  rcases Nat.eq_zero_or_pos (famCap rss.length c) with h0 | h0
  · have hnil : rss = [] := List.length_eq_zero_iff.1 (by omega)
    subst hnil
    have hg := run_append_nil (P := P) w t ty e' i ei.zero hu hinf hzero a 1 c0 [.slice none 0 0] hnl hac (by omega) (by simp) (by simp at hby'; omega)
    have hge := grownCap_ge w 1 0 e'
    have hgm : grownCap w 1 0 e' ≤ maxLen := grownCap_le_maxLen w 1 0 e' (by simpa using hmx)
    refine ⟨w.heap.size, grownCap w 1 0 e', _, ?_, famClose hT hei2 ((show InvH P C M _ w.drew from hi.drew).alloc_box t0 _ (#[.slice none 0 0] ++ Builtin.zeroCells ei.zero.cells (grownCap w 1 0 e' - 1)) e' ?_)⟩
    · rw [famV_zero h0]
      simp only [List.length_singleton]
      rw [hg, famV_pos (by show 0 < famCap 1 _; rw [famCap_eq hge hgm]; omega)]
      show _ = Result.ok (Value.slice _ 1 (famCap 1 _)) _
      rw [famCap_eq hge hgm]
    · rw [famCells_app]
      simp only [List.length_nil, famOwn, List.mapIdx_nil, List.nil_append, RepAll]
      refine ⟨.slice none 0 0, (Builtin.zeroCells ei.zero.cells (grownCap w 1 0 e' - 1)).toList, by rw [Array.toList_append]; rfl, by simp [Rep, OwnRef.val], ?_⟩
      rw [hz, zeroNils]
      show RepAll P M true (List.replicate (famCap 1 _ - 1) _) _
      rw [famCap_eq hge hgm]
      exact repNils
  · rw [famB_pos h0] at hb
    obtain ⟨hmine, ⟨cur, e0, hcur, hr⟩, hnone⟩ := hi.boxes t0 _ hb
    have hsize : cur.size = famCap rss.length c := by
      have := hr.length
      rw [famCells_len] at this
      simpa using this
    have hl2 : famOwn gf rss = (famCells gf rss c).take rss.length := by
      rw [famCells_eq, List.take_append_of_le_length (by rw [famOwn_len]; exact Nat.le_refl _), ← famOwn_len (gf := gf) (rss := rss), List.take_length]
    have hrt : RepAll P M true (famOwn gf rss) (cur.toList.take rss.length) := by rw [hl2]; exact hr.take _
    by_cases hroom : rss.length + 1 ≤ famCap rss.length c
    · have hr2 := run_append_roomT (P := P) (w := w) t ty e' e0 i hu hinf b rss.length (famCap rss.length c) cur hcur a 1 c0 [.slice none 0 0] hnl hac hone hroom (by rw [hs1]; simp; omega)
      have hce : famCap (rss.length + 1) (famCap rss.length c) = famCap rss.length c := famCap_eq hroom (famCap_le _ (by omega))
      refine ⟨b, famCap rss.length c, _, ?_, famClose hT hei2 (hi.set_box t0 _ hb _ (cur.toList.take (rss.length * i.size) ++ [Value.slice none 0 0] ++ cur.toList.drop (rss.length * i.size + [Value.slice none 0 0].length)).toArray ?_)⟩
      · rw [famV_pos h0]
        simp only [List.length_singleton]
        rw [hr2, famV_pos (by rw [hce]; exact h0), hce]
        rfl
      · rw [famCells_app, hce]
        simp only [hs1, Nat.mul_one, List.append_assoc]
        refine hrt.append ?_
        simp only [List.singleton_append, RepAll, List.length_singleton]
        refine ⟨_, _, rfl, by simp [Rep, OwnRef.val], ?_⟩
        have := hr.drop (rss.length + 1)
        rw [famCells_eq, List.drop_append, famOwn_len, List.drop_of_length_le (by rw [famOwn_len]; omega), List.nil_append, List.drop_replicate] at this
        rwa [show famCap rss.length c - rss.length - (rss.length + 1 - rss.length) = famCap rss.length c - (rss.length + 1) from by omega] at this
    · have holdlen : (cur.toList.take rss.length).length = rss.length * i.size := by rw [hs1]; simp; omega
      have holds : ∀ (j : Nat) (v : Value), (cur.toList.take rss.length)[j]? = some v → w.cell? ((⟨b, 0, none⟩ : Addr).add j) = some v := by
        intro j v hj
        rw [add_off, cell_of_row w b (0 + j) cur e0 (0, 0) hcur]
        rw [List.getElem?_take] at hj
        split at hj
        · simpa using hj
        · cases hj
      have hr2 := run_append_grow (P := P) w t ty e' i ei.zero hu hinf hzero ⟨b, 0, none⟩ rss.length (famCap rss.length c) _ holdlen holds a 1 c0 [.slice none 0 0] hnl hac (by omega) h63 (growslice_fits (by omega) hby')
      have hge := grownCap_ge w (rss.length + 1) (famCap rss.length c) e'
      have hgm : grownCap w (rss.length + 1) (famCap rss.length c) e' ≤ maxLen := grownCap_le_maxLen w _ _ e' hmx
      refine ⟨w.heap.size, grownCap w (rss.length + 1) (famCap rss.length c) e', _, ?_, famClose hT hei2 ((show InvH P C M _ w.drew from hi.drew).alloc_box t0 _ ((cur.toList.take rss.length).toArray ++ #[.slice none 0 0] ++ Builtin.zeroCells ei.zero.cells (grownCap w (rss.length + 1) (famCap rss.length c) e' - (rss.length + 1))) e' ?_)⟩
      · rw [famV_pos h0]
        simp only [List.length_singleton]
        rw [hr2, famV_pos (by rw [famCap_eq hge hgm]; omega), famCap_eq hge hgm]
      · rw [famCells_app]
        simp only [Array.toList_append, List.append_assoc]
        refine hrt.append ?_
        simp only [List.singleton_append, RepAll]
        refine ⟨_, _, rfl, by simp [Rep, OwnRef.val], ?_⟩
        rw [hz, zeroNils, famCap_eq hge hgm]
        exact repNils
end

section
variable {P : Program} {T : TT} {ops : Array Oper} {rest : List Oper} {o : Oper} {n : Nat} {s s' : Nat → PV} {bx : Nat → Option Box} {ob : Nat → Option Obj} {K : PState → Prop}

/-- append(family, nil) -/
theorem AOps.famApp (t0 e : Nat) (hT : T.Ok P) (hg : guardA ops s o = some true) {x y : Operand} {t : TypeId} (ho : o.op = .call { callee := .builtin .append, args := #[x, y], argTypes := #[t, t] }) {d : Nat} (hdst : o.dst = some d) (hlt : Nat.blt d n = true) {ti ei ei2 : TInfo} {e' : TypeId}
    (hti : T.get t = some ti) (hd : ti.desc = .slice e') (hei : T.get e' = some ei) (hsz : ei.size = 1) (hz : ei.zero.cells = #[.slice none 0 0]) (hei2 : T.get e = some ei2) {b c m : Nat} {gf : Nat → OwnRef} {rss : List (List (List PV))} (hx : evS s x = .val (famV b m c)) (hm : m = rss.length)
    (hy : evS s y = .list e' [[.val (.slice none 0 0)]]) (hb : bx t0 = famB b gf rss c) (hby : (rss.length + 1) * ei.bytes ≤ 2 ^ 47) (hmx : rss.length + 1 ≤ maxLen)
    (h : ∀ b' c', AOps P ops rest ⟨n, upd s d (.val (famV b' (m + 1) c')), upd bx t0 (famB b' (upd gf m ⟨none, 0⟩) (rss ++ [[]]) c'), famO e (upd gf m ⟨none, 0⟩) (rss ++ [[]]) ob⟩ K) :
    AOps P ops (o :: rest) ⟨n, s, bx, famO e gf rss ob⟩ K := by
  subst hm
  refine AOps.eff hg (K := K) ?_
  intro C M a w next Q hi he hn
  have hxr := he x (by rw [ho]; simp [Op.operands, Call.operands])
  have hyr := he y (by rw [ho]; simp [Op.operands, Call.operands])
  rw [hx] at hxr
  rw [hy] at hyr
  simp only [Rep] at hxr
  obtain ⟨b', c', w', hrun, hi'⟩ := appendFam_core (ty := o.type) hi hb hT hti hd hei hsz hz hei2 hyr hby hmx
  have hrun' : (execOp a.eval o).run P w = .ok (.value (famV b' (rss.length + 1) c')) w' := by
    simp only [execOp, ho, resolve, Sem.run_bind, Sem.run_pure, Result.andThen_ok, invoke, builtin, List.map_toArray, List.map_cons, List.map_nil, hxr]
    rw [hrun]
    rfl
  unfold Oper.wp
  rw [hrun']
  exact hn _ (.val (famV b' (rss.length + 1) c')) _ M w' ⟨_, by simp [hdst, putD, hlt], h b' c'⟩ (Mem.le_refl M) hi' (by simp [Rep])

/-- An element of a family. -/
theorem AOps.famIdx (t0 : Nat) (hT : T.Ok P) (hg : guardA ops s o = some true) {t : TypeId} {x i : Operand} (ho : o.op = .indexAddr t x i) {ti ei : TInfo} {e' : TypeId} (hti : T.get t = some ti) (hd : ti.desc = .slice e') (hei : T.get e' = some ei) (hes : ei.size = 1)
    {b c m : Nat} (hx : evS s x = .val (famV b m c)) {kk : IntKind} {j : Int} (hi : evS s i = .val (.int kk j)) (hj : 0 ≤ j ∧ j.toNat < m) (hp : putD n s o.dst (.box t0 b j.toNat) = some s') (h : AOps P ops rest ⟨n, s', bx, ob⟩ K) : AOps P ops (o :: rest) ⟨n, s, bx, ob⟩ K := by
  have hpos : 0 < famCap m c := Nat.lt_of_lt_of_le (by omega) (famCap_ge _ _)
  rw [famV_pos hpos] at hx
  refine AOps.detS hg ?_ hp h
  intro C M a w hiv he
  have hxr := he x (by rw [ho]; simp [Op.operands])
  have hir := he i (by rw [ho]; simp [Op.operands])
  rw [hx] at hxr
  rw [hi] at hir
  simp only [Rep] at hxr hir
  have hu := (hT.get hti).rund w
  rw [hd] at hu
  have hsz := (hT.get hei).rsize w
  refine ⟨.pointer (some ⟨b, j.toNat, none⟩), ?_, by simp [Rep]⟩
  have h2 : j < (m : Int) := by omega
  simp [execOp, ho, Instr.indexAt, hir, hxr, asIntOf, hu, hj.1, h2, hsz, hes, add_off]

/-- A family of one nil. -/
theorem AOps.famLit (t0 e : Nat) (hT : T.Ok P) (hg : guardA ops s o = some true) {t e' : TypeId} {ps : Array (Nat × Operand)} (ho : o.op = .buildSlice t 1 ps) {d : Nat} (hdst : o.dst = some d) (hlt : Nat.blt d n = true) {ti ei2 : TInfo} (hti : T.get t = some ti) (hd : ti.desc = .slice e')
    (hr : bsRows T e' 1 (evParts (evS s) ps) = some [[.val (.slice none 0 0)]]) (hei2 : T.get e = some ei2)
    (h : ∀ b' c', AOps P ops rest ⟨n, upd s d (.val (famV b' 1 c')), upd bx t0 (famB b' (fun _ => ⟨none, 0⟩) [[]] c'), famO e (fun _ => ⟨none, 0⟩) [[]] ob⟩ K) :
    AOps P ops (o :: rest) ⟨n, s, bx, ob⟩ K := by
  refine AOps.eff hg (K := K) ?_
  intro C M a w next Q hi he hn
  obtain ⟨i, cs, hinf, hrun, hrep, hone, hlen, hrl, hcs, hby, hn16⟩ := bs_run hT hti hd hr w (fun x hx => he x (by rw [ho]; simpa [Op.operands] using hx))
  unfold Oper.wp
  have hrun' : (execOp a.eval o).run P w = .ok (.value (famV w.heap.size 1 1)) (w.alloc (.cells cs e')) := by
    simp only [execOp, ho, Sem.run_bind, hrun]
    rfl
  rw [hrun']
  simp only [List.flatten_cons, List.flatten_nil, List.append_nil, RepAll, Rep] at hrep
  obtain ⟨x, xs, hcc, rfl, rfl⟩ := hrep
  have h0 : InvH P C M ⟨bx, famO e (fun _ => ⟨none, 0⟩) [] ob⟩ w := InvH.famNil e _ hi
  have hg0 : upd (fun _ => (⟨none, 0⟩ : OwnRef)) 0 ⟨none, 0⟩ = fun _ => ⟨none, 0⟩ := by funext t; rw [upd_eq]; split <;> rfl
  have hrc : RepAll P M true (famCells (upd (fun _ => (⟨none, 0⟩ : OwnRef)) ([] : List (List (List PV))).length ⟨none, 0⟩) ([] ++ [[]]) 1) cs.toList := by
    rw [famCells_app, hcc]
    simp only [List.length_nil, famOwn, List.mapIdx_nil, List.nil_append, RepAll]
    have e1 : famCap (0 + 1) 1 = 1 := famCap_eq (Nat.le_refl _) (by unfold maxLen; omega)
    rw [e1]
    exact ⟨_, _, rfl, by simp [Rep, OwnRef.val], by simp [RepAll]⟩
  have h2 := h0.alloc_box t0 _ cs e' hrc
  have h1 := famClose (b := w.heap.size) (c := 1) (t0 := t0) (gf := fun _ => (⟨none, 0⟩ : OwnRef)) (rss := []) hT hei2 h2
  simp only [List.length_nil, hg0, List.nil_append] at h1
  exact hn _ (.val (famV w.heap.size 1 1)) _ M _ ⟨_, by simp [hdst, putD, hlt], h w.heap.size 1⟩ (Mem.le_refl M) h1 (by simp [Rep])

theorem V.freezeFam {fn : Func} {R : PV → Heap → Prop} {ks : List KI} (d t0 : Nat) (hT : T.Ok P) {e e' b c m : Nat} {ei : TInfo} (hei : T.get e' = some ei) (hes : ei.size = 1) {gf : Nat → OwnRef} {rss : List (List (List PV))} {rows : List (List PV)} (hs : s d = .val (famV b m c)) (hm : m = rss.length)
    (hb : bx t0 = famB b gf rss c) (hby : rss.length * ei.bytes ≤ 2 ^ 47) (hmx : rss.length ≤ maxLen) (hrows : rows = rss.map fun rs => [.list e rs]) (h : V P fn R ks ⟨n, upd s d (.list e' rows), upd bx t0 none, famO e gf [] ob⟩) : V P fn R ks ⟨n, s, bx, famO e gf rss ob⟩ := by
  subst hm
  subst hrows
  refine V.gh ?_ h
  intro C M a w hi
  obtain ⟨M', hle, hi', hr⟩ := hi.2.freezeFam hb hT hei hes hby hmx
  refine ⟨M', ⟨hi.1.1, hi.1.2.1, fun t => ?_⟩, hi'⟩
  have := hi.1.2.2 t
  simp only at this
  simp only [upd_eq]
  split
  · rename_i e; subst e; rw [hs] at this; simp only [Rep] at this; rw [this]; exact hr
  · exact Rep.mono hle this
end
end Go.Ab
/- The abstract layer: bits of integers. -/
namespace Go.Ab

/-- A shift to the left by asQ many places asQ b says. -/
def shlI (k : IntKind) (a b : Int) : Option Int := if 0 ≤ b then some (k.wrap (a * 2 ^ (min b.toNat k.bits))) else none
theorem shlI_some {k : IntKind} {a b x : Int} (h : shlI k a b = some x) : 0 ≤ b ∧ x = k.wrap (a * 2 ^ (min b.toNat k.bits)) := by
  unfold shlI at h
  split at h
  · rename_i h0; exact ⟨h0, (Option.some.inj h).symm⟩
  · cases h
def andI (k : IntKind) (a b : Int) : Int := k.wrap (BitVec.ofInt k.bits a &&& BitVec.ofInt k.bits b).toNat
def xorI (k : IntKind) (a b : Int) : Int := k.wrap (BitVec.ofInt k.bits a ^^^ BitVec.ofInt k.bits b).toNat
def orI (k : IntKind) (a b : Int) : Int := k.wrap (BitVec.ofInt k.bits a ||| BitVec.ofInt k.bits b).toNat
section
variable {P : Program} {T : TT} {rb : RB} {ops : Array Oper} {rest : List Oper} {L : List Nat} {k : Nat} {o : Oper} {n : Nat} {s s' : Nat → PV} {bx : Nat → Option Box} {ob : Nat → Option Obj} {K : PState → Prop}
/-- An operation on two integers that the world does not see. -/
theorem detS_int {bop : BinOp} {t t' : TypeId} {x y : Operand} (ho : o.op = .binOp bop t x y t') {ev : Operand → PV} {H : Heap} {kk k2 : IntKind} {a b r : Int} (hx : ev x = .val (.int kk a)) (hy : ev y = .val (.int k2 b))
    (hq : (bop matches .eql | .neq) = false) (hr : ∀ w, (binOp bop t (.int kk a) (.int k2 b)).run P w = .ok (.int kk r) w) : DetS P o ev H (.val (.int kk r)) := by
  intro C M a' w hi he
  have hxr := he x (by rw [ho]; simp [Op.operands])
  have hyr := he y (by rw [ho]; simp [Op.operands])
  rw [hx] at hxr
  rw [hy] at hyr
  simp only [Rep] at hxr hyr
  refine ⟨.int kk r, ?_, by simp only [Rep]⟩
  have h2 : (eqGuard bop t x y (.int kk a) (.int k2 b)).run P w = .ok () w := by
    cases bop <;> first | (exact absurd hq (by decide)) | simp [eqGuard]
  simp only [execOp, ho, hxr, hyr, Sem.run_bind, h2, Result.andThen_ok, hr w]
  rfl
theorem run_shl {t : TypeId} {kk k2 : IntKind} {a b r : Int} (h : shlI kk a b = some r) (w : World) : (binOp .shl t (.int kk a) (.int k2 b)).run P w = .ok (.int kk r) w := by
  obtain ⟨hb, rfl⟩ := shlI_some h
  have hb' : ¬ b < 0 := by omega
  simp only [binOp, Op.shift, if_neg hb']
  rfl
theorem run_shr {t : TypeId} {kk k2 : IntKind} {a b : Int} (hb : 0 ≤ b) {m : Nat} (hm : min b.toNat kk.bits = m) (w : World) : (binOp .shr t (.int kk a) (.int k2 b)).run P w = .ok (.int kk (a.fdiv (2 ^ m))) w := by
  subst hm
  have hb' : ¬ b < 0 := by omega
  simp only [binOp, Op.shift, if_neg hb']
  rfl
theorem run_xor {t : TypeId} {kk : IntKind} {a b : Int} (w : World) : (binOp .xor t (.int kk a) (.int kk b)).run P w = .ok (.int kk (xorI kk a b)) w := by
  simp only [binOp, Op.intBits, ne_eq, not_true_eq_false, if_false]
  rfl
theorem run_and {t : TypeId} {kk : IntKind} {a b : Int} (w : World) : (binOp .and t (.int kk a) (.int kk b)).run P w = .ok (.int kk (andI kk a b)) w := by
  simp only [binOp, Op.intBits, ne_eq, not_true_eq_false, if_false]
  rfl
theorem AOps.shl (hg : guardA ops s o = some true) {t t' : TypeId} {x y : Operand} (ho : o.op = .binOp .shl t x y t') {kk k2 : IntKind} {a b r : Int} (hx : evS s x = .val (.int kk a)) (hy : evS s y = .val (.int k2 b)) (hr : shlI kk a b = some r)
    (hp : putD n s o.dst (.val (.int kk r)) = some s') (h : AOps P ops rest ⟨n, s', bx, ob⟩ K) : AOps P ops (o :: rest) ⟨n, s, bx, ob⟩ K := AOps.detS hg (detS_int ho hx hy rfl (run_shl hr)) hp h
theorem AOps.xor (hg : guardA ops s o = some true) {t t' : TypeId} {x y : Operand} (ho : o.op = .binOp .xor t x y t') {kk : IntKind} {a b : Int} (hx : evS s x = .val (.int kk a)) (hy : evS s y = .val (.int kk b))
    (hp : putD n s o.dst (.val (.int kk (xorI kk a b))) = some s') (h : AOps P ops rest ⟨n, s', bx, ob⟩ K) : AOps P ops (o :: rest) ⟨n, s, bx, ob⟩ K := AOps.detS hg (detS_int ho hx hy rfl run_xor) hp h
theorem AOps.and (hg : guardA ops s o = some true) {t t' : TypeId} {x y : Operand} (ho : o.op = .binOp .and t x y t') {kk : IntKind} {a b : Int} (hx : evS s x = .val (.int kk a)) (hy : evS s y = .val (.int kk b))
    (hp : putD n s o.dst (.val (.int kk (andI kk a b))) = some s') (h : AOps P ops rest ⟨n, s', bx, ob⟩ K) : AOps P ops (o :: rest) ⟨n, s, bx, ob⟩ K := AOps.detS hg (detS_int ho hx hy rfl run_and) hp h
theorem DOps.shl (ho : ops[k]? = some o) (hg : guardA ops s o = some true) {t t' : TypeId} {x y : Operand} (hop : o.op = .binOp .shl t x y t') {kk k2 : IntKind} {a b r : Int} (hx : evS s x = .val (.int kk a)) (hy : evS s y = .val (.int k2 b)) (hr : shlI kk a b = some r)
    (hp : putD n s o.dst (.val (.int kk r)) = some s') (h : DOps P T rb ops L ⟨n, s', bx, ob⟩ K) : DOps P T rb ops (k :: L) ⟨n, s, bx, ob⟩ K := DOps.detS ho hg (by rw [hop]; rfl) (fun _ => detS_int hop hx hy rfl (run_shl hr)) hp h
theorem DOps.shr (ho : ops[k]? = some o) (hg : guardA ops s o = some true) {t t' : TypeId} {x y : Operand} (hop : o.op = .binOp .shr t x y t') {kk k2 : IntKind} {a b : Int} (hx : evS s x = .val (.int kk a)) (hy : evS s y = .val (.int k2 b)) (hb : 0 ≤ b) {m : Nat} (hm : min b.toNat kk.bits = m)
    (hp : putD n s o.dst (.val (.int kk (a.fdiv (2 ^ m)))) = some s') (h : DOps P T rb ops L ⟨n, s', bx, ob⟩ K) : DOps P T rb ops (k :: L) ⟨n, s, bx, ob⟩ K := DOps.detS ho hg (by rw [hop]; rfl) (fun _ => detS_int hop hx hy rfl (run_shr hb hm)) hp h
theorem DOps.xor (ho : ops[k]? = some o) (hg : guardA ops s o = some true) {t t' : TypeId} {x y : Operand} (hop : o.op = .binOp .xor t x y t') {kk : IntKind} {a b : Int} (hx : evS s x = .val (.int kk a)) (hy : evS s y = .val (.int kk b))
    (hp : putD n s o.dst (.val (.int kk (xorI kk a b))) = some s') (h : DOps P T rb ops L ⟨n, s', bx, ob⟩ K) : DOps P T rb ops (k :: L) ⟨n, s, bx, ob⟩ K := DOps.detS ho hg (by rw [hop]; rfl) (fun _ => detS_int hop hx hy rfl run_xor) hp h
theorem DOps.and (ho : ops[k]? = some o) (hg : guardA ops s o = some true) {t t' : TypeId} {x y : Operand} (hop : o.op = .binOp .and t x y t') {kk : IntKind} {a b : Int} (hx : evS s x = .val (.int kk a)) (hy : evS s y = .val (.int kk b))
    (hp : putD n s o.dst (.val (.int kk (andI kk a b))) = some s') (h : DOps P T rb ops L ⟨n, s', bx, ob⟩ K) : DOps P T rb ops (k :: L) ⟨n, s, bx, ob⟩ K := DOps.detS ho hg (by rw [hop]; rfl) (fun _ => detS_int hop hx hy rfl run_and) hp h
/-- A part of a slice of the call's own, looked at. -/
theorem detS_idxS (hT : T.Ok P) {o : Oper} {ev : Operand → PV} {H : Heap} {t : TypeId} {x i : Operand} (ho : o.op = .indexAddr t x i) {ti ei : TInfo} {e : TypeId} (hti : T.get t = some ti) (hd : ti.desc = .slice e) (hei : T.get e = some ei)
    (tag : Nat) {g : OwnRef} {z l h m : Nat} (hx : ev x = .val (g.sub z l h m)) (hz : z = ei.size) {k : IntKind} {j : Int} (hi : ev i = .val (.int k j)) (hj : 0 ≤ j ∧ l + j.toNat < h) (hm : h ≤ m) (hb : ∃ b, g.blk = some b) : DetS P o ev H (.optr tag g ei.size (l + j.toNat) 0) := by
  subst hz
  intro C M a w _ he
  have hxr := he x (by rw [ho]; simp [Op.operands])
  have hir := he i (by rw [ho]; simp [Op.operands])
  rw [hx] at hxr
  rw [hi] at hir
  simp only [Rep] at hxr hir
  obtain ⟨b, hb⟩ := hb
  have hu := (hT.get hti).rund w
  rw [hd] at hu
  have hsz := (hT.get hei).rsize w
  have h2 : j < ((h - l : Nat) : Int) := by omega
  have hml : ¬ m = l := by omega
  refine ⟨.pointer (some ⟨b, (l + j.toNat) * ei.size, none⟩), ?_, ?_⟩
  · simp [execOp, ho, Instr.indexAt, hir, hxr, OwnRef.sub, hb, hml, asIntOf, hu, hj.1, h2, hsz, add_off, Nat.add_mul]
  · simp only [Rep]
    exact ⟨trivial, b, hb, by simp⟩
theorem AOps.idxV (hT : T.Ok P) (hg : guardA ops s o = some true) {t : TypeId} {x i : Operand} (ho : o.op = .indexAddr t x i) {ti ei : TInfo} {e : TypeId} (hti : T.get t = some ti) (hd : ti.desc = .slice e) (hei : T.get e = some ei)
    (tag : Nat) {g : OwnRef} {z l h m : Nat} (hx : evS s x = .val (g.sub z l h m)) (hz : z = ei.size) {kk : IntKind} {j : Int} (hi : evS s i = .val (.int kk j)) (hj : 0 ≤ j ∧ l + j.toNat < h) (hm : h ≤ m) (hb : ∃ b, g.blk = some b) (hp : putD n s o.dst (.optr tag g ei.size (l + j.toNat) 0) = some s') (hr : AOps P ops rest ⟨n, s', bx, ob⟩ K) :
    AOps P ops (o :: rest) ⟨n, s, bx, ob⟩ K := AOps.detS hg (detS_idxS hT ho hti hd hei tag hx hz hi hj hm hb) hp hr
theorem DOps.idxV (hT : T.Ok P) (ho : ops[k]? = some o) (hg : guardA ops s o = some true) {t : TypeId} {x i : Operand} (hop : o.op = .indexAddr t x i) {ti ei : TInfo} {e : TypeId} (hti : T.get t = some ti) (hd : ti.desc = .slice e) (hei : T.get e = some ei)
    (tag : Nat) {g : OwnRef} {z l h m : Nat} (hx : evS s x = .val (g.sub z l h m)) (hz : z = ei.size) {kk : IntKind} {j : Int} (hi : evS s i = .val (.int kk j)) (hj : 0 ≤ j ∧ l + j.toNat < h) (hm : h ≤ m) (hb : ∃ b, g.blk = some b) (hp : putD n s o.dst (.optr tag g ei.size (l + j.toNat) 0) = some s') (hr : DOps P T rb ops L ⟨n, s', bx, ob⟩ K) :
    DOps P T rb ops (k :: L) ⟨n, s, bx, ob⟩ K := DOps.detS ho hg (by rw [hop]; rfl) (fun _ => detS_idxS hT hop hti hd hei tag hx hz hi hj hm hb) hp hr
theorem AOps.lenV (hT : T.Ok P) (hg : guardA ops s o = some true) {x : Operand} {t : TypeId} {ts : List TypeId} (ho : o.op = .call { callee := .builtin .len, args := #[x], argTypes := (t :: ts).toArray }) {ti : TInfo} {e : TypeId} (hti : T.get t = some ti) (hd : ti.desc = .slice e) {g : OwnRef} {z l h m : Nat}
    (hx : evS s x = .val (g.sub z l h m)) (hp : putD n s o.dst (.val (.int .i64 ((h - l : Nat) : Int))) = some s') (hr : AOps P ops rest ⟨n, s', bx, ob⟩ K) : AOps P ops (o :: rest) ⟨n, s, bx, ob⟩ K := by
  refine AOps.eff hg (fun C M a w next Q hi he hn => ?_)
  have hxr := he x (by rw [ho]; simp [Op.operands, Call.operands])
  rw [show (⟨n, s, bx, ob⟩ : PState).s = s from rfl, hx] at hxr
  simp only [Rep] at hxr
  have hu := (hT.get hti).und
  rw [hd] at hu
  have hrun : (execOp a.eval o).run P w = .ok (.value (.int .i64 ((h - l : Nat) : Int))) w := by
    simp only [execOp, ho, resolve, Sem.run_bind, Sem.run_pure, Result.andThen_ok, invoke, builtin, List.map_toArray, List.map_cons, List.map_nil, hxr, OwnRef.sub]
    simp [Builtin.len_, run_underlying hu, goInt]
  unfold Oper.wp
  rw [hrun]
  exact hn _ _ ⟨bx, ob⟩ M w ⟨s', hp, hr⟩ (Mem.le_refl M) hi (by simp only [Rep])
/-- An element of a part. -/
def getS {α : Type} (xs : List α) (l h : Nat) (j : Int) : Option α := if 0 ≤ j ∧ l + j.toNat < h then xs[l + j.toNat]? else none
theorem getSE {α β : Type} {xs : List α} {l h : Nat} {j : Int} {k : α → Option β} {r : β} (H : bindP (getS xs l h j) k = some r) : ∃ a, ((0 ≤ j ∧ l + j.toNat < h) ∧ xs[l + j.toNat]? = some a) ∧ k a = some r := by
  obtain ⟨a, h1, h2⟩ := bindE H
  unfold getS at h1
  split at h1
  · rename_i h0; exact ⟨a, ⟨h0, h1⟩, h2⟩
  · cases h1
theorem rowsGetN {α : Type} {f f' : α → List PV} (hE : ∀ x, f x = f' x) {xs : List α} {j : Nat} {x : α} (h : xs[j]? = some x) : (xs.map f)[j]? = some (f' x) := by
  rw [List.getElem?_map, h, Option.map_some, hE]
end
end Go.Ab
