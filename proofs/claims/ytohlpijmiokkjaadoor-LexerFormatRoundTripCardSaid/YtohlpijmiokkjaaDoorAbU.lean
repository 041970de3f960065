/- The abstract layer, part U: from a contract on pure values to a statement 'the law returns true, its arguments read as before'. -/
import Derived.Test.YtohlpijmiokkjaaDoorAbT
namespace Go.Ab
open Go.ChangeShapes

/-- The pure value of an argument, out of its cells. -/
def argPV (P : Program) (t : TypeId) (pvs : List PV) : PV :=
  match P.underlying t with
  | some (.struct _) => .agg pvs
  | _ => pvs.headD .any

def ArgsSh (P : Program) : List TypeId → List PV → Prop
  | [], as => as = []
  | t :: ts, as => ∃ n pvs rest, as = argPV P t pvs :: rest ∧ Sh P n t pvs ∧ ArgsSh P ts rest

section
variable {H : Type} {enc : TypeId × Value → H} {P : Program} {W : World} {S : List TypeId}

theorem abs_val (hS : S.all (okT P S) = true) (hinf : ∀ t ∈ S, ∃ i, P.info? t = some i ∧ i.bytes = P.bytesOf t ∧ i.size = P.cellsOf t) {base : Nat} {t : TypeId} (ht : t ∈ S) {v : Value} {d : DataW H} {ps : List MemPlace}
    (hv : Value.okWide P W .any base t v) (h : DataW.Trod enc P W 0 (fun _ => true) true t v d ps) (hw : (d.weights P t).all (· ≤ reachBytes) = true) : ∃ n pvs, Sh P n t pvs ∧ Rep P (memOf W) true (argPV P t pvs) v := by
  obtain ⟨n, hn⟩ := h
  obtain ⟨pvs, h1, h2⟩ := abs hS hinf n t ht _ (d, ps) hn hw
  refine ⟨n, pvs, h1, ?_⟩
  have h2' := RepAll.slot h2
  have hok := List.all_eq_true.1 hS t ht
  unfold okT at hok
  unfold argPV
  have one : v.cells = #[v] → Rep P (memOf W) true (pvs.headD .any) v := by
    intro e
    rw [e] at h2'
    cases pvs with
    | nil => simp [RepAll] at h2'
    | cons p ps =>
      simp only [RepAll] at h2'
      obtain ⟨x, xs, hx, hp, _⟩ := h2'
      simp only [List.cons.injEq] at hx
      rw [hx.1]
      exact hp
  cases hu : P.underlying t with
  | none => rw [hu] at hok; cases hok
  | some td =>
    rw [hu] at hok
    cases td <;> first | (simp only [Bool.false_eq_true] at hok; done) | skip
    case bool => obtain ⟨b, rfl⟩ := WideShapes.okWide_bool hu hv; exact one rfl
    case int k => obtain ⟨m, rfl⟩ := WideShapes.okWide_int hu hv; exact one rfl
    case string => obtain ⟨s, rfl⟩ := WideShapes.okWide_string hu hv; exact one rfl
    case slice e => obtain ⟨a, len, cap, rfl⟩ := WideShapes.okWide_slice hu hv; exact one rfl
    case struct fs =>
      obtain ⟨cs, rfl, _⟩ := WideShapes.okWide_struct hu hv
      simp only [Rep]
      exact ⟨cs, rfl, h2'⟩

theorem abs_args (hS : S.all (okT P S) = true) (hinf : ∀ t ∈ S, ∃ i, P.info? t = some i ∧ i.bytes = P.bytesOf t ∧ i.size = P.cellsOf t) {base : Nat} : ∀ {ts : List TypeId} {vs : List Value} {ds : List (DataW H)} {ps : List MemPlace}, (∀ t ∈ ts, t ∈ S) →
    (∀ (j : Nat) t v, ts[j]? = some t → vs[j]? = some v → Value.okWide P W .any base t v) → DataW.TrodAll enc P W 0 (fun _ => true) true ts vs ds ps → (DataW.weightsEach P ts ds).all (· ≤ reachBytes) = true →
    ∃ as, ArgsSh P ts as ∧ RepAll P (memOf W) true as vs
  | [], _, _, _, _, _, h, _ => by
    obtain ⟨rfl, rfl, rfl⟩ := trodAll_nil h
    exact ⟨[], rfl, by simp [RepAll]⟩
  | t :: ts, _, _, _, hm, hv, h, hw => by
    obtain ⟨v, vs, d, ds, p, q, rfl, rfl, rfl, h1, h2⟩ := trodAll_cons h
    simp only [DataW.weightsEach, List.all_append, Bool.and_eq_true] at hw
    obtain ⟨n, pvs, a1, a2⟩ := abs_val hS hinf (hm t (by simp)) (hv 0 t v rfl rfl) h1 hw.1
    obtain ⟨as, b1, b2⟩ := abs_args hS hinf (fun t ht => hm t (by simp [ht])) (fun j t v ht hv' => hv (j + 1) t v (by simpa using ht) (by simpa using hv')) h2 hw.2
    refine ⟨argPV P t pvs :: as, ⟨n, pvs, as, rfl, a1, b1⟩, ?_⟩
    simp only [RepAll]
    exact ⟨v, vs, rfl, a2, b2⟩

theorem trodAll_stays (hl : laidOutB P = true) {W' : World} (hb : RowKit.Below W.heap.size W W') {sp : Nat → Bool} : ∀ {ts : List TypeId} {vs : List Value} {ds : List (DataW H)} {ps : List MemPlace}, (∀ t ∈ ts, P.readableRec t = true ∧ t < P.types.size) →
    DataW.TrodAll enc P W 0 (fun _ => true) true ts vs ds ps → (∀ x ∈ ps, x.block < W.heap.size) → (∀ x ∈ ps, sp x.block = true) → DataW.TrodAll enc P W' 0 sp true ts vs ds ps
  | [], _, _, _, _, h, _, _ => by
    obtain ⟨rfl, rfl, rfl⟩ := trodAll_nil h
    exact trodAll_mk0
  | t :: ts, _, _, _, hr, h, hlt, hsp => by
    obtain ⟨v, vs, d, ds, p, q, rfl, rfl, rfl, h1, h2⟩ := trodAll_cons h
    exact ⟨p, q, WideElems.Trod_stays hl (hr t (by simp)).1 (hr t (by simp)).2 h1 (fun x hx => hb.same (hlt x (by simp [hx]))) (fun x hx => hsp x (by simp [hx])),
      trodAll_stays hl hb (fun t ht => hr t (by simp [ht])) h2 (fun x hx => hlt x (by simp [hx])) (fun x hx => hsp x (by simp [hx])), rfl⟩

theorem trodAll_len {sp : Nat → Bool} {hd : Bool} : ∀ {ts : List TypeId} {vs : List Value} {ds : List (DataW H)} {ps : List MemPlace}, DataW.TrodAll enc P W 0 sp hd ts vs ds ps → ds.length = ts.length
  | [], _, _, _, h => by
    obtain ⟨_, rfl, _⟩ := trodAll_nil h
    rfl
  | t :: ts, _, _, _, h => by
    obtain ⟨v, vs, d, ds, p, q, rfl, rfl, rfl, _, h2⟩ := trodAll_cons h
    simp [trodAll_len h2]

theorem InvH.start (W : World) (hg : Gl W []) : InvH P ⟨W, [], memOf W, hg⟩ (memOf W) Heap.empty W :=
  ⟨fun _ _ _ h => h, Mem.le_refl _, fun _ _ _ h => .inl h, rfl, rfl, rfl, Nat.le_refl _, fun _ _ _ => rfl, fun _ _ h => by simp [Heap.empty] at h, fun _ _ h => by simp [Heap.empty] at h,
    fun _ _ _ _ h => by simp [Heap.empty] at h, fun _ _ _ _ _ h => by simp [Heap.empty] at h, fun _ _ _ _ h => by simp [Heap.empty] at h⟩

theorem InvH.below {hg : Gl W []} {M : Mem} {Hp : Heap} {W' : World} (h : InvH P ⟨W, [], memOf W, hg⟩ M Hp W') : RowKit.Below W.heap.size W W' :=
  ⟨h.os, h.tape, h.output, h.size, fun k hk => h.frame k hk (by simp)⟩

/-- The law. -/
theorem law_calls (hl : laidOutB P = true) {f : FuncId} {fn : Func} {s : ChangeSpec} {fresh handsOn again : Bool} {tb : TypeId} (hvars : s.vars = []) (hr : ∀ t ∈ fn.params.toList, P.readableRec t = true ∧ t < P.types.size) (hres : fn.resultTypes = #[tb]) (htb : P.underlying tb = some .bool)
    (hfn : ∀ ds : List (DataW H), ds.length = fn.params.toList.length → s.fn H ds = { results := [.lit (.bool true)], args := ds })
    (hS : S.all (okT P S) = true) (hinf : ∀ t ∈ S, ∃ i, P.info? t = some i ∧ i.bytes = P.bytesOf t ∧ i.size = P.cellsOf t) (hm : ∀ t ∈ fn.params.toList, t ∈ S)
    (hspec : ∀ as, ArgsSh P fn.params.toList as → PFun P f as (.val (.bool true)))
    {base : Nat} {args : Array Value} {ds gs : List (DataW H)} {before : List MemPlace} (hval : ∀ (j : Nat) t v, fn.params[j]? = some t → args[j]? = some v → Value.okWide P W .any base t v)
    (hW : DataW.Whole enc P fn.params.toList s.vars false W args.toList ds gs before) (hg : Gl W []) (hsz : (DataW.weightsEach P (fn.params.toList ++ s.plain.varTypes P) (ds ++ gs)).all (· ≤ reachBytes) = true) :
    Calls P f args W fun e W' => ∃ v, e = .returned v ∧ s.post enc P fn false fresh handsOn again W args v W' := by
  have hlt := hW.lt
  have hW' := hW
  obtain ⟨p, q, hA, hV, rfl, hz, hn⟩ := hW
  have hV' := hV
  rw [hvars] at hV
  obtain ⟨rfl, rfl⟩ := trodVars_none hV
  have hvt : s.plain.varTypes P = [] := by simp [DataSpec.varTypes, ChangeSpec.plain, hvars]
  rw [hvt, List.append_nil, List.append_nil] at hsz
  have hlen : ds.length = fn.params.toList.length := trodAll_len hA
  obtain ⟨as, h1, h2⟩ := abs_args hS hinf hm (fun j t v ht hv => hval j t v (by simpa using ht) (by simpa using hv)) hA hsz
  refine (hspec as h1 W (memOf W) [] hg args (InvH.start W hg) h2).mono ?_
  rintro e W' ⟨v, u, H', M', rfl, ⟨rfl, rfl⟩, hi, hrep⟩
  simp only [Rep] at hrep
  subst hrep
  have hb := hi.below
  refine ⟨_, rfl, ?_⟩
  have hfn' : s.fn H (ds ++ []) = { results := [.lit (.bool true)], args := ds } := by rw [List.append_nil]; exact hfn ds hlen
  have hargs : ∀ sp : Nat → Bool, (∀ x ∈ p ++ [], sp x.block = true) → DataW.TrodAll enc P W' 0 sp true fn.params.toList args.toList ds p := fun sp hsp =>
    trodAll_stays hl hb hr hA (fun x hx => hlt x (by simp [hx])) (fun x hx => hsp x (by simp [hx]))
  have hres' : ∀ (b : Nat) (sp : Nat → Bool) (hd : Bool), DataW.TrodAll enc P W' b sp hd fn.resultTypes.toList ((Value.bool true).resultList fn.resultTypes.size) [.lit (.bool true)] [] := by
    intro b sp hd
    rw [hres]
    refine trodAll_mk1 ⟨1, ?_⟩
    show DataW.trod enc P W' b sp hd 1 tb [.bool true] = _
    unfold DataW.trod
    rw [htb]
  have hvs : ∀ sp : Nat → Bool, DataW.TrodVars enc P W' sp s.vars ([] : List (DataW H)) [] := fun sp => by rw [hvars]; simp [DataW.TrodVars]
  have hold : ∀ x ∈ p ++ [], (fun b => decide (b < W.heap.size)) x.block = true := fun x hx => by simpa using hlt x hx
  refine ⟨ds, [], p ++ [], [], p, [], hW', ?_, ?_, ?_, hb.frame _, fun _ => ⟨RowKit.ok_one hres rfl (RowKit.okWide_bool_mk htb true), [.lit (.bool true)] ++ ds, [], ([] ++ p) ++ [], ⟨[] ++ p, [], ?_, hvs _, rfl, ?_, fun h => by cases h⟩, ?_⟩⟩
  · rw [hfn']; exact hres' _ _ _
  · rw [hfn']; exact hargs _ hold
  · rw [hfn']; exact hvs _
  · exact trodAll_append (hargs _ fun _ _ => rfl) (hres' _ _ _)
  · intro b off hx
    have hx' : MemPlace.cell b off ∈ p ++ [] := by simpa using hx
    rw [hb.frozen (hlt _ hx')]
    exact hz b off hx'
  · intro x hx _
    simpa using hx
end
end Go.Ab
