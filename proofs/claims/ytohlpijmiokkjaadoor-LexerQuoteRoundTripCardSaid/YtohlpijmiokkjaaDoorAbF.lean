/- The abstract layer, part F: 'det0' is sound, operation by operation. -/
import Derived.Test.YtohlpijmiokkjaaDoorAbE
namespace Go.Ab

section
variable {P : Program} {T : TT} (hT : T.Ok P)
include hT

theorem det_fieldAddr {t : TypeId} {ti fi : TInfo} {fs : Array Field} {f : Nat} {fd : Field} (hti : T.get t = some ti) (hd : ti.desc = .struct fs) (hf : fs[f]? = some fd) (hfi : T.get fd.type = some fi)
    (hz : Nat.beq fi.size 0 = false) {p r : PV} (h : offAddr p fd.offset = some r) {M : Mem} (w : World) {v : Value} (hp : Rep P M true p v) :
    ∃ u, (Instr.fieldAt t v f).run P w = .ok u w ∧ Rep P M true r u := by
  obtain ⟨b, o, rfl, hr⟩ := offAddr_sound h hp
  refine ⟨_, ?_, hr⟩
  have hu := (hT.get hti).rund w
  rw [hd] at hu
  have hz' : fi.size ≠ 0 := fun e => by rw [e] at hz; cases hz
  simp [Instr.fieldAt, hu, hf, Instr.sureAddr, fieldPlace, (hT.get hfi).rsize w, hz', add_off]

theorem det_part {k : Nat} {fi : TInfo} (hfi : T.get k = some fi) {cells : List PV} {off : Nat} {r : PV} (h : readCells fi off cells = some r) {M : Mem} {s : Bool} (w : World) {cs : Array Value} (hr : RepAll P M s cells cs.toList) :
    ∃ u, (part k cs off).run P w = .ok u w ∧ Rep P M s r u := by
  have hk := hT.get hfi
  unfold readCells at h
  cases hd : isAggD fi.desc with
  | true =>
    simp only [hd, cond_true] at h
    cases hl : Nat.ble (off + fi.size) cells.length with
    | false => simp [hl] at h
    | true =>
      simp only [hl, cond_true, Option.some.injEq] at h
      subst h
      refine ⟨.agg (cs.extract off (off + fi.size)), ?_, ?_⟩
      · simp [part, hk.ragg w, hd, hk.rsize w]
      · simp only [Rep]
        refine ⟨_, rfl, ?_⟩
        have := (hr.drop off).take fi.size
        simpa [List.extract_eq_take_drop] using this
  | false =>
    simp only [hd, cond_false] at h
    obtain ⟨x, hx, hrx⟩ := hr.get off r h
    refine ⟨x, ?_, hrx⟩
    rw [Array.getElem?_toList] at hx
    simp [part, hk.ragg w, hd, hx]

theorem callPV_sound {c : Call} {type : TypeId} {ev : Operand → PV} {ρ : Operand → Value} {r : PV} (h : callPV T c ev = some r) {M : Mem} (w : World) (he : ∀ x ∈ c.operands, Rep P M true (ev x) (ρ x)) :
    ∃ u, (do let d ← resolve ρ c type; invoke d.target d.args : Sem Next).run P w = .ok (.value u) w ∧ Rep P M true r u := by
  obtain ⟨callee, args, argTypes⟩ := c
  have hargs : ∀ x ∈ args.toList, Rep P M true (ev x) (ρ x) := fun x hx => he x (by simp only [Call.operands]; cases callee <;> simp_all)
  unfold callPV at h
  simp only at h
  split at h
  · rename_i x t r' ha hat
    have hx := hargs x (by rw [ha]; simp)
    have ha' : args = #[x] := by rw [← Array.toArray_toList (xs := args), ha]
    have hat' : argTypes[0]? = some t := by rw [← Array.getElem?_toList, hat]; rfl
    subst ha'
    split at h
    · rename_i ti hti
      have hu := (hT.get hti).rund w
      split at h
      · rename_i l hd hl
        simp only [Option.some.injEq] at h
        subst h
        rw [hl] at hx
        simp only [Rep] at hx
        refine ⟨.int .i64 l.length, ?_, by simp only [Rep]⟩
        rw [hd] at hu
        have hz : (ByteArray.mk l.toArray).size = l.length := by simp [ByteArray.size]
        simp [resolve, invoke, builtin, Builtin.len_, hat', hu, hx.1, goInt, hz]
      · rename_i e hd
        have hu' := hu
        rw [hd] at hu'
        cases hn : lenPV (ev x) with
        | none => simp [hn] at h
        | some n =>
          simp only [hn, Option.bind_some] at h
          have hlen : ∃ ad c, ρ x = .slice ad n c := by
            generalize ev x = p at *
            unfold lenPV at hn
            split at hn
            · simp only [Option.some.injEq] at hn; subst hn
              simp only [Rep] at hx
              obtain ⟨ad, c, i, h1, _⟩ := hx
              exact ⟨ad, c, h1⟩
            · simp only [Option.some.injEq] at hn; subst hn
              simp only [Rep] at hx
              exact ⟨_, _, hx.2⟩
            · simp at h
            · simp only [Option.some.injEq] at hn; subst hn
              simp only [Rep] at hx
              exact ⟨_, _, hx⟩
            · cases hn
          have hr : r = .val (.int .i64 n) := by
            generalize ev x = p at *
            cases p <;> simp_all
          subst hr
          obtain ⟨ad, c, hv⟩ := hlen
          refine ⟨.int .i64 n, ?_, by simp only [Rep]⟩
          simp [resolve, invoke, builtin, Builtin.len_, hat', hu', hv, goInt]
      · cases h
    · cases h
  · rename_i x y ha
    have hx := hargs x (by rw [ha]; simp)
    have hy := hargs y (by rw [ha]; simp)
    have ha' : args = #[x, y] := by rw [← Array.toArray_toList (xs := args), ha]
    subst ha'
    split at h
    · rename_i k a k' b h1 h2
      simp only [Option.some.injEq] at h
      subst h
      rw [h1] at hx
      rw [h2] at hy
      simp only [Rep] at hx hy
      refine ⟨.int k (if b < a then b else a), ?_, by simp only [Rep]⟩
      simp [resolve, invoke, builtin, Builtin.min_, Builtin.min2, hx, hy]
    · cases h
  · rename_i x y ha
    have hx := hargs x (by rw [ha]; simp)
    have hy := hargs y (by rw [ha]; simp)
    have ha' : args = #[x, y] := by rw [← Array.toArray_toList (xs := args), ha]
    subst ha'
    split at h
    · rename_i k a k' b h1 h2
      simp only [Option.some.injEq] at h
      subst h
      rw [h1] at hx
      rw [h2] at hy
      simp only [Rep] at hx hy
      refine ⟨.int k (if b > a then b else a), ?_, by simp only [Rep]⟩
      simp [resolve, invoke, builtin, Builtin.max_, Builtin.max2, hx, hy]
    · cases h
  · cases h

omit hT in
theorem repAll_map {M : Mem} {s : Bool} {ev : Operand → PV} {ρ : Operand → Value} (l : List Operand) (h : ∀ x ∈ l, Rep P M s (ev x) (ρ x)) : RepAll P M s (l.map ev) (l.map ρ) := by
  induction l with
  | nil => simp [RepAll]
  | cons x l ih =>
    simp only [List.map_cons, RepAll]
    exact ⟨_, _, rfl, h x (by simp), ih fun y hy => h y (by simp [hy])⟩

theorem det0_sound {o : Oper} {ev : Operand → PV} {H : Heap} {r : PV} (h : det0 T H.bx o.op ev = some r) : DetOk P o ev H r := by
  intro C M a w hi he
  suffices hs : ∃ v, (execOp a.eval o).run P w = .ok (.value v) w ∧ Rep P M true r v by
    obtain ⟨v, h1, h2⟩ := hs
    exact ⟨v, M, w, h1, Mem.le_refl M, hi, h2⟩
  obtain ⟨dst, op, type, pos, after, guard⟩ := o
  simp only at he h
  cases op <;> simp only [det0, reduceCtorEq] at h <;> simp only [execOp, Op.operands] at he ⊢
  case move x =>
    simp only [Option.some.injEq] at h; subst h
    exact ⟨_, rfl, he x (by simp)⟩
  case assign x =>
    simp only [Option.some.injEq] at h; subst h
    exact ⟨_, rfl, he x (by simp)⟩
  case pick c x y =>
    have hc := he c (by simp)
    split at h
    · rename_i hq
      simp only [Option.some.injEq] at h; subst h
      rw [hq] at hc
      simp only [Rep] at hc
      exact ⟨_, by simp [hc, asBool], he x (by simp)⟩
    · rename_i hq
      simp only [Option.some.injEq] at h; subst h
      rw [hq] at hc
      simp only [Rep] at hc
      exact ⟨_, by simp [hc, asBool], he y (by simp)⟩
    · cases h
  case load t x =>
    split at h
    · rename_i ti hti
      obtain ⟨u, h1, h2⟩ := det_load hT hti hi (he x (by simp)) h
      exact ⟨u, by simp [h1], h2⟩
    · cases h
  case fieldAddr t x f =>
    split at h
    · rename_i ti hti
      split at h
      · rename_i fs hd
        split at h
        · rename_i fd hf
          split at h
          · rename_i fi hfi
            cases hz : Nat.beq fi.size 0 with
            | true => simp [hz] at h
            | false =>
              simp only [hz, cond_false] at h
              obtain ⟨u, h1, h2⟩ := det_fieldAddr hT hti hd hf hfi hz h w (he x (by simp))
              exact ⟨u, by simp [h1], h2⟩
          · cases h
        · cases h
      · cases h
    · cases h
  case field t x f =>
    split at h
    · rename_i ti hti
      split at h
      · rename_i fs hd
        split at h
        · rename_i fd hf
          split at h
          · rename_i fi cells hfi hx
            have hxr := he x (by simp)
            rw [hx] at hxr
            simp only [Rep] at hxr
            obtain ⟨cs, hv, hcs⟩ := hxr
            obtain ⟨u, h1, h2⟩ := det_part hT hfi h w hcs
            have hu := (hT.get hti).rund w
            rw [hd] at hu
            exact ⟨u, by simp [Instr.field, hu, hf, hv, asAgg, h1], h2⟩
          · cases h
        · cases h
      · cases h
    · cases h
  case indexAddr t x i =>
    split at h
    · rename_i ti e rows k n hti hx hn
      have hu := (hT.get hti).rund w
      have hxr := he x (by simp)
      have hnr := he i (by simp)
      rw [hx] at hxr
      rw [hn] at hnr
      simp only [Rep] at hxr hnr
      obtain ⟨ad, c, inf, hv, hlc, hcm, hinf, hby, hrows⟩ := hxr
      split at h
      · rename_i e' hd
        cases hb : Nat.beq e e' with
        | false => simp [hb] at h
        | true =>
          have := Nat.eq_of_beq_eq_true hb
          subst this
          simp only [hb, cond_true] at h
          split at h
          · rename_i h0
            cases hg : rows[n.toNat]? with
            | none => simp [hg] at h
            | some row =>
              simp only [hg, Option.map_some, Option.some.injEq] at h
              subst h
              have hlt : n.toNat < rows.length := (List.getElem?_eq_some_iff.1 hg).1
              obtain ⟨b, o, rfl, hrr⟩ := hrows (by rintro rfl; simp at hlt)
              have hsz : (sizeOf e).run P w = .ok inf.size w := by simp [sizeOf, typeInfo, hinf]
              rw [hd] at hu
              refine ⟨.pointer (some ⟨b, o + n.toNat * inf.size, none⟩), ?_, ?_⟩
              · have h2 : n < (rows.length : Int) := by omega
                simp [Instr.indexAt, hnr, hv, asIntOf, hu, h0, h2, hsz, add_off]
              · simp only [Rep]
                exact ⟨b, _, rfl, (hrr.get _ _ hg).2⟩
          · cases h
      · cases h
    · rename_i ti tag b off k n hti hx hn
      have hu := (hT.get hti).rund w
      have hxr := he x (by simp)
      have hnr := he i (by simp)
      rw [hx] at hxr
      rw [hn] at hnr
      simp only [Rep] at hxr hnr
      split at h
      · rename_i len e hd
        split at h
        · rename_i ei hei
          split at h
          · rename_i hc
            simp only [Option.some.injEq] at h
            subst h
            rw [hd] at hu
            refine ⟨.pointer (some ⟨b, off + n.toNat * ei.size, none⟩), ?_, by simp [Rep]⟩
            simp [Instr.indexAt, hnr, hxr.2, asIntOf, hu, Instr.sureAddr, hc.1, hc.2, (hT.get hei).rsize w, add_off]
          · cases h
        · cases h
      · cases h
    · cases h
  case index t x i =>
    split at h
    · rename_i ti l k n hti hx hn
      have hu := (hT.get hti).rund w
      have hxr := he x (by simp)
      have hnr := he i (by simp)
      rw [hx] at hxr
      rw [hn] at hnr
      simp only [Rep] at hxr hnr
      split at h
      · rename_i hd
        rw [hd] at hu
        split at h
        · rename_i h0
          cases hg : l[n.toNat]? with
          | none => simp [hg] at h
          | some c =>
            simp only [hg, Option.map_some, Option.some.injEq] at h
            subst h
            refine ⟨.int .u8 c.toNat, ?_, by simp only [Rep]⟩
            have hlt : n.toNat < l.length := (List.getElem?_eq_some_iff.1 hg).1
            have hb : (ByteArray.mk l.toArray)[n.toNat]? = some c := by
              have hz : (ByteArray.mk l.toArray).size = l.length := by simp [ByteArray.size]
              rw [getElem?_pos _ _ (by rw [hz]; exact hlt)]
              have := (List.getElem?_eq_some_iff.1 hg).2
              show some ((l.toArray)[n.toNat]'_) = some c
              simp [this]
            simp [Instr.index, hnr, hxr, asIntOf, hu, h0, hb]
        · cases h
      · cases h
    · cases h
  case binOp op t x y u =>
    obtain ⟨v, h1, h2⟩ := qbin_sound hT w h (he x (by simp)) (he y (by simp)) x y
    exact ⟨v, by rw [Sem.run_bind, h1]; rfl, h2⟩
  case unOp op t x =>
    have hx := he x (by simp)
    split at h
    · rename_i b hq
      simp only [Option.some.injEq] at h; subst h
      rw [hq] at hx
      simp only [Rep] at hx
      exact ⟨.bool (!b), by simp [hx, Op.unary], by simp only [Rep]⟩
    · rename_i k n hq
      simp only [Option.some.injEq] at h; subst h
      rw [hq] at hx
      simp only [Rep] at hx
      exact ⟨.int k (k.wrap (0 - n)), by simp [hx, Op.unary, Op.intArith], by simp only [Rep]⟩
    · cases h
  case convert src dst x =>
    have hx := he x (by simp)
    split at h
    · rename_i si ti k n hsi hti hq
      rw [hq] at hx
      simp only [Rep] at hx
      have hs := (hT.get hsi).rund w
      have hu := (hT.get hti).rund w
      split at h
      · rename_i k' hd
        simp only [Option.some.injEq] at h; subst h
        rw [hd] at hu
        exact ⟨.int k' (k'.wrap n), by simp [convert, hs, hu, hx, Conv.intToInt], by simp only [Rep]⟩
      · cases h
    · rename_i si ti l hsi hti hq
      rw [hq] at hx
      simp only [Rep] at hx
      have hs := (hT.get hsi).rund w
      have hu := (hT.get hti).rund w
      split at h
      · rename_i hd
        simp only [Option.some.injEq] at h; subst h
        rw [hd] at hu
        refine ⟨.string ⟨l.toArray⟩, ?_, by simp only [Rep]; exact ⟨trivial, hx.2⟩⟩
        simp only [convert, Sem.run_bind, hs, hu, hx.1, Result.andThen_ok]
        cases si.desc <;> rfl
      · cases h
    · cases h
  case extract x i =>
    have hx := he x (by simp)
    split at h
    · rename_i vs hq
      rw [hq] at hx
      simp only [Rep] at hx
      obtain ⟨cs, hv, hcs⟩ := hx
      obtain ⟨y, hy, hr⟩ := hcs.get i r h
      rw [Array.getElem?_toList] at hy
      exact ⟨y, by simp [Instr.extract, hv, hy], hr⟩
    · cases h
  case build t ps =>
    obtain ⟨v, h1, h2⟩ := buildPV_sound (s := true) (M := M) (ev := ev) (ρ := a.eval) hT w h (fun x hx => he x (by simpa using hx))
    refine ⟨v, ?_, h2⟩
    rw [Sem.run_bind, map_pairs, h1]
    rfl
  case slice t x lo hi' mx =>
    cases mx with
    | some m => simp at h
    | none =>
      simp only at h
      split at h
      · rename_i ti hti
        obtain ⟨u, h1, h2⟩ := slicePV_sound hT (ov := lo.map a.eval) (oh := hi'.map a.eval) hti h w (he x (by simp))
          (fun q hq => by
            cases lo with
            | none => cases hq
            | some y => simp only [Option.map_some, Option.some.injEq] at hq; subst hq; exact ⟨_, rfl, he y (by simp)⟩)
          (fun hq => by cases lo <;> simp_all)
          (fun q hq => by
            cases hi' with
            | none => cases hq
            | some y => simp only [Option.map_some, Option.some.injEq] at hq; subst hq; exact ⟨_, rfl, he y (by simp)⟩)
          (fun hq => by cases hi' <;> simp_all)
        exact ⟨u, by simp [h1], h2⟩
      · cases h
  case makeFunc fn first caps =>
    cases fn <;> simp only [reduceCtorEq] at h
    rename_i f
    cases hf : first.isEmpty with
    | false => simp [hf] at h
    | true =>
      simp only [hf, cond_true, forceL_eq, Option.some.injEq] at h
      subst h
      have hfe : first = #[] := by simpa using hf
      subst hfe
      refine ⟨.func (.func f) #[] (caps.map a.eval), by simp [Instr.makeFunc], ?_⟩
      simp only [Rep]
      exact ⟨_, rfl, by simpa using repAll_map caps.toList fun x hx => he x (by simp_all)⟩
  case nilCheck x =>
    have hx := he x (by simp)
    cases hn : noNil (ev x) with
    | false => simp [hn] at h
    | true =>
      simp only [hn, cond_true, Option.some.injEq] at h
      subst h
      refine ⟨a.eval x, ?_, hx⟩
      generalize ev x = p at *
      cases p <;> simp only [noNil, reduceCtorEq] at hn <;> simp only [Rep] at hx
      · obtain ⟨b, o, hv, _⟩ := hx; rw [hv]; rfl
      · obtain ⟨cs, hv, _⟩ := hx; rw [hv]; rfl
      · rw [hx.2]; rfl
      · obtain ⟨_, b, _, hv⟩ := hx; rw [hv]; rfl
  case call c => exact callPV_sound hT h w he
end
end Go.Ab
