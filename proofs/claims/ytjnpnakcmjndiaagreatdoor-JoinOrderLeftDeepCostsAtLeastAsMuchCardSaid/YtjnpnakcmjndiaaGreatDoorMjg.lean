/- The abstract layer, part O: bytes to a string. -/
import Derived.Test.YtjnpnakcmjndiaaGreatDoorMjd
import Derived.Laws.BytesArg
import Derived.Laws.Cover3
namespace Go.Ab

section
variable {P : Program} {ops : Array Oper} {rest : List Oper} {o : Oper} {n : Nat} {s s' : Nat → PV} {bx : Nat → Option Box} {ob : Nat → Option Obj} {K : PState → Prop} {T : TT}

abbrev byteRows (xs : List UInt8) : List (List PV) := xs.map fun c => [.val (.int .u8 c.toNat)]

theorem AOps.b2s (hT : T.Ok P) (hg : guardA ops s o = some true) {src dst e : TypeId} {x : Operand} (ho : o.op = .convert src dst x) {si di ei : TInfo} (hsi : T.get src = some si) (hsd : si.desc = .slice e) (hei : T.get e = some ei) (hed : ei.desc = .int .u8)
    (hdi : T.get dst = some di) (hdd : di.desc = .string) {xs : List UInt8} (hx : evS s x = .list e (byteRows xs)) (hl : xs.length ≤ maxStr) (hp : putD n s o.dst (.str xs) = some s') (h : AOps P ops rest ⟨n, s', bx, ob⟩ K) : AOps P ops (o :: rest) ⟨n, s, bx, ob⟩ K := by
  refine AOps.eff hg ((Eff.of_det (r := .str xs) ?_).mono fun u H' ⟨hu, hH⟩ => by subst hu; subst hH; exact ⟨s', hp, h⟩)
  intro C M a w hi hops
  obtain ⟨op, oargs⟩ := o
  simp only at ho
  subst ho
  have hrx := hops x (by simp [Op.operands])
  rw [show (⟨n, s, bx, ob⟩ : PState).s = s from rfl] at hrx
  rw [hx] at hrx
  have hs := (hT.get hsi).und
  have he := (hT.get hei).und
  have hd := (hT.get hdi).und
  rw [hsd] at hs
  rw [hed] at he
  rw [hdd] at hd
  simp only [Rep] at hrx
  obtain ⟨ad, c, i, hv, hlc, hcm, hinf, hby, hrows⟩ := hrx
  refine ⟨.string ⟨xs.toArray⟩, M, w, ?_, Mem.le_refl M, hi, by simp only [Rep]; exact ⟨trivial, hl⟩⟩
  have key : (convert src dst (a.eval x)).run P w = .ok (.string ⟨xs.toArray⟩) w := by
    rw [hv]
    by_cases hne : xs = []
    · subst hne
      rw [run_convert_bytes_string w src dst e _ _ c hs he (by rw [hd])]
      cases ad with
      | none => simp [Conv.bytesToString]; rfl
      | some q => 
        rw [run_bytesToString w q _ c [] (by simp [loadCells, loadCellsFrom])]
        rfl
    · obtain ⟨b, off, rfl, hr⟩ := hrows (by simpa using hne)
      obtain ⟨i', hi1, hi2, _⟩ := (hT.get hei).info
      rw [hinf] at hi1
      cases hi1
      rw [run_convert_bytes_arg w src e hs he b off _ c (xs.map fun c => (c.toNat : Int)) (by simp) (fun j hj => ?_) dst (by rw [hd])]
      · simp [strOfNums, Function.comp_def]
      · have hj' : j < xs.length := by simpa using hj
        obtain ⟨h1, h2⟩ := hr.get j [.val (.int .u8 xs[j].toNat)] (by simp [hj'])
        obtain ⟨y, h3, _, h4⟩ := h2.get 0 _ rfl
        simp only [Rep] at h4
        have h5 := hi.mem _ _ _ h3
        rw [h4] at h5
        have hsz : i.size = 1 := by simpa using h1.symm
        rw [hsz] at h5
        simpa [hj'] using h5
  simp [execOp, key]
end
end Go.Ab
/- The abstract layer, part P: lifting. A function is shown to compute what a plain partial function of its arguments says; loops, joins and branches asQ combinators. -/
namespace Go.Ab

def bindP {α β : Type} (o : Option α) (k : α → Option β) : Option β := match o with
  | some a => k a
  | none => none
def letP {α β : Type} (a : α) (k : α → β) : β := k a

inductive Flow (σ ρ : Type) where
  | next (s : σ)
  | brk (s : σ)
  | ret (r : ρ)

/-- What follows a loop or a join, at the function's own level. -/
def Flow.thenR {σ ρ : Type} (fl : Flow σ ρ) (k : σ → Option ρ) : Option ρ := match fl with
  | .next s => k s
  | .brk s => k s
  | .ret r => some r
/-- The same within a loop's body. -/
def Flow.thenF {σ τ ρ : Type} (fl : Flow σ ρ) (k : σ → Option (Flow τ ρ)) : Option (Flow τ ρ) := match fl with
  | .next s => k s
  | .brk s => k s
  | .ret r => some (.ret r)

def rangeM {α σ ρ : Type} (step : Nat → α → σ → Option (Flow σ ρ)) : Nat → List α → σ → Option (Flow σ ρ)
  | _, [], s => some (.next s)
  | j, x :: xs, s => match step j x s with
    | none => none
    | some (.next s') => rangeM step (j + 1) xs s'
    | some (.brk s') => some (.next s')
    | some (.ret r) => some (.ret r)

def iterM {σ ρ : Type} (step : σ → Option (Flow σ ρ)) : Nat → σ → Option (Flow σ ρ)
  | 0, _ => none
  | n + 1, s => match step s with
    | none => none
    | some (.next s') => iterM step n s'
    | some (.brk s') => some (.next s')
    | some (.ret r) => some (.ret r)

open Classical in
noncomputable def whileM {σ ρ : Type} (step : σ → Option (Flow σ ρ)) (s : σ) : Option (Flow σ ρ) :=
  if h : ∃ r, ∃ n, iterM step n s = some r then some h.choose else none

theorem iterM_le {σ ρ : Type} {step : σ → Option (Flow σ ρ)} : ∀ {n m : Nat} {s : σ} {r : Flow σ ρ}, iterM step n s = some r → n ≤ m → iterM step m s = some r
  | 0, _, _, _, h, _ => by simp [iterM] at h
  | n + 1, 0, _, _, _, hm => by omega
  | n + 1, m + 1, s, r, h, hm => by
    simp only [iterM] at h ⊢
    split at h
    · cases h
    · exact iterM_le h (by omega)
    · exact h
    · exact h

theorem whileM_iff {σ ρ : Type} {step : σ → Option (Flow σ ρ)} {s : σ} {r : Flow σ ρ} : whileM step s = some r ↔ ∃ n, iterM step n s = some r := by
  unfold whileM
  constructor
  · intro h
    split at h
    · rename_i hx
      obtain ⟨n, hn⟩ := hx.choose_spec
      exact ⟨n, by rw [hn]; exact h⟩
    · cases h
  · rintro ⟨n, hn⟩
    have hx : ∃ r, ∃ n, iterM step n s = some r := ⟨r, n, hn⟩
    rw [dif_pos hx]
    obtain ⟨m, hm⟩ := hx.choose_spec
    have h1 := iterM_le hn (Nat.le_max_left n m)
    have h2 := iterM_le hm (Nat.le_max_right n m)
    rw [h1] at h2
    exact h2.symm

theorem whileM_step {σ ρ : Type} {step : σ → Option (Flow σ ρ)} {s : σ} {fl r : Flow σ ρ} (h : step s = some fl) (hr : match fl with | .next s' => whileM step s' = some r | .brk s' => r = .next s' | .ret x => r = .ret x) : whileM step s = some r := by
  rw [whileM_iff]
  cases fl with
  | next s' =>
    obtain ⟨n, hn⟩ := whileM_iff.1 hr
    exact ⟨n + 1, by simp only [iterM, h, hn]⟩
  | brk s' => exact ⟨1, by simp only [iterM, h, hr]⟩
  | ret x => exact ⟨1, by simp only [iterM, h, hr]⟩

/-! Taking a hypothesis 'the plain function gives r' apart. -/
theorem bindE {α β : Type} {o : Option α} {k : α → Option β} {r : β} (h : bindP o k = some r) : ∃ a, o = some a ∧ k a = some r := by
  cases o with
  | none => cases h
  | some a => exact ⟨a, rfl, h⟩
theorem letE {α β : Type} {a : α} {k : α → β} {r : β} (h : letP a k = r) : ∃ x, a = x ∧ k x = r := ⟨a, rfl, h⟩
theorem condT {α : Type} {c : Bool} {A B r : α} (h : c = true) (H : cond c A B = r) : A = r := by subst h; exact H
theorem condF {α : Type} {c : Bool} {A B r : α} (h : c = false) (H : cond c A B = r) : B = r := by subst h; exact H
theorem V.cH {P : Program} {fn : Func} {R : PV → Heap → Prop} {k : List KI} {st : PState} {c : Operand} {x y : Code} {b : Bool} (hc : evS st.s c = .val (.bool b)) {α : Type} {A B r : α} (H : (bif b then A else B) = r) (ht : A = r → V P fn R (.code x :: k) st) (hf : B = r → V P fn R (.code y :: k) st) : V P fn R (.code (.cond c x y) :: k) st := V.cond hc (fun h => ht (Go.Ab.condT h H)) (fun h => hf (Go.Ab.condF h H))
theorem AOps.sH {P : Program} {ops : Array Oper} {o : Oper} {rest : List Oper} {n : Nat} {s : Nat → PV} {bx : Nat → Option Box} {ob : Nat → Option Obj} {K : PState → Prop} {j : Nat} {want b : Bool} {d : Nat} (hg : o.guard = some (j, want)) (hd : (ops[j]?).bind (·.dst) = some d) (hs : s d = .val (.bool b)) {α : Type} {A B r : α} (H : cond b A B = r)
    (ht : A = r → AOps P ops (o :: rest) ⟨n, upd s d (.val (.bool true)), bx, ob⟩ K) (hf : B = r → AOps P ops (o :: rest) ⟨n, upd s d (.val (.bool false)), bx, ob⟩ K) : AOps P ops (o :: rest) ⟨n, s, bx, ob⟩ K := AOps.split hg hd hs (fun h => ht (condT h H)) (fun h => hf (condF h H))
theorem DOps.sH {P : Program} {T : TT} {rb : RB} {ops : Array Oper} {o : Oper} {k : Nat} {L : List Nat} {n : Nat} {s : Nat → PV} {bx : Nat → Option Box} {ob : Nat → Option Obj} {K : PState → Prop} {j : Nat} {want b : Bool} {d : Nat} (ho : ops[k]? = some o) (hg : o.guard = some (j, want)) (hd : (ops[j]?).bind (·.dst) = some d) (hs : s d = .val (.bool b)) {α : Type} {A B r : α} (H : cond b A B = r)
    (ht : A = r → DOps P T rb ops (k :: L) ⟨n, upd s d (.val (.bool true)), bx, ob⟩ K) (hf : B = r → DOps P T rb ops (k :: L) ⟨n, upd s d (.val (.bool false)), bx, ob⟩ K) : DOps P T rb ops (k :: L) ⟨n, s, bx, ob⟩ K := DOps.split ho hg hd hs (fun h => ht (condT h H)) (fun h => hf (condF h H))
theorem thenF_ret {σ τ ρ : Type} {r : ρ} {k : σ → Option (Flow τ ρ)} {x : Flow τ ρ} (h : Flow.thenF (.ret r) k = some x) : x = .ret r := (Option.some.inj h).symm
theorem thenR_ret {σ ρ : Type} {r x : ρ} {k : σ → Option ρ} (h : Flow.thenR (.ret r) k = some x) : r = x := Option.some.inj h
theorem someE {α : Type} {a b : α} (h : some a = some b) : a = b := Option.some.inj h

/-- What a round of a loop leaves. -/
def rangeGo {α σ ρ : Type} (step : Nat → α → σ → Option (Flow σ ρ)) (xs : List α) (j : Nat) (res : Flow σ ρ) : Flow σ ρ → Prop
  | .next s' => rangeM step (j + 1) (xs.drop (j + 1)) s' = some res
  | .brk s' => res = .next s'
  | .ret r => res = .ret r

theorem rangeM_cons {α σ ρ : Type} {step : Nat → α → σ → Option (Flow σ ρ)} {xs : List α} {j : Nat} {s : σ} {res : Flow σ ρ} (hj : j < xs.length) (h : rangeM step j (xs.drop j) s = some res) :
    ∃ x fl, xs[j]? = some x ∧ step j x s = some fl ∧ rangeGo step xs j res fl := by
  rw [List.drop_eq_getElem_cons hj, rangeM] at h
  refine ⟨xs[j], ?_⟩
  split at h
  · cases h
  · rename_i s' hs; exact ⟨_, List.getElem?_eq_getElem hj, hs, h⟩
  · rename_i s' hs; exact ⟨_, List.getElem?_eq_getElem hj, hs, (Option.some.inj h).symm⟩
  · rename_i s' hs; exact ⟨_, List.getElem?_eq_getElem hj, hs, (Option.some.inj h).symm⟩

theorem rangeM_done {α σ ρ : Type} {step : Nat → α → σ → Option (Flow σ ρ)} {xs : List α} {j : Nat} {s : σ} {res : Flow σ ρ} (hj : xs.length ≤ j) (h : rangeM step j (xs.drop j) s = some res) : res = .next s := by
  rw [List.drop_eq_nil_of_le hj, rangeM] at h
  exact (Option.some.inj h).symm

def iterGo {σ ρ : Type} (step : σ → Option (Flow σ ρ)) (n : Nat) (res : Flow σ ρ) : Flow σ ρ → Prop
  | .next s' => iterM step n s' = some res
  | .brk s' => res = .next s'
  | .ret r => res = .ret r

theorem iterM_cons {σ ρ : Type} {step : σ → Option (Flow σ ρ)} {n : Nat} {s : σ} {res : Flow σ ρ} (h : iterM step (n + 1) s = some res) : ∃ fl, step s = some fl ∧ iterGo step n res fl := by
  rw [iterM] at h
  split at h
  · cases h
  · rename_i s' hs; exact ⟨_, hs, h⟩
  · rename_i s' hs; exact ⟨_, hs, (Option.some.inj h).symm⟩
  · rename_i s' hs; exact ⟨_, hs, (Option.some.inj h).symm⟩

section
variable {P : Program} {fn : Func} {R : PV → Heap → Prop} {k : List KI} {n : Nat} {s : Nat → PV} {bx : Nat → Option Box} {ob : Nat → Option Obj} {T : TT} {st : PState}

/-- A join: whatever way the code takes, it ends in one of these states. -/
theorem V.cut {τ γ : Type} (J : τ → γ → PState) (Gd : τ → Prop) {c : Code} (h : V P fn R (.code c :: .stop (fun st' => ∃ t g, Gd t ∧ st' = J t g) :: k) st) (hk : ∀ t g, Gd t → V P fn R k (J t g)) :
    V P fn R (.code c :: k) st := by
  intro C M a w hi
  have := h C M a w hi
  simp only [after] at this ⊢
  refine wp_mono this ?_
  intro e a w he
  cases e with
  | normal =>
    obtain ⟨st', M', ⟨t, g, hG, rfl⟩, hi'⟩ := he
    exact hk t g hG C M' a w hi'
  | _ => exact he

theorem V.at {τ γ : Type} {J : τ → γ → PState} {Gd : τ → Prop} (t : τ) (g : γ) (hG : Gd t) (h : Gh P st (J t g)) : V P fn R (.stop (fun st' => ∃ t g, Gd t ∧ st' = J t g) :: k) st :=
  V.gh h (V.stop ⟨t, g, hG, rfl⟩)

theorem V.rangeL {α σ ρ γ : Type} {step : Nat → α → σ → Option (Flow σ ρ)} {xs : List α} {res : Flow σ ρ} (F : Nat → σ → γ → PState) {s₀ : σ} (g₀ : γ) {c : Code}
    (hres : rangeM step 0 xs s₀ = some res) (h₀ : Gh P st (F 0 s₀ g₀))
    (round : ∀ j s g, j ≤ xs.length → rangeM step j (xs.drop j) s = some res →
      V P fn R (.code c :: .stop (fun st' => ∃ s' g', (j + 1 ≤ xs.length ∧ rangeM step (j + 1) (xs.drop (j + 1)) s' = some res) ∧ st' = F (j + 1) s' g') :: k) (F j s g)) :
    V P fn R (.code (.loop c) :: k) st := by
  refine V.loopF (X := Nat × σ × γ) (fun X => F X.1 X.2.1 X.2.2) (fun X => X.1 ≤ xs.length ∧ rangeM step X.1 (xs.drop X.1) X.2.1 = some res) (fun X => xs.length - X.1) (0, s₀, g₀) ⟨Nat.zero_le _, by simpa using hres⟩ h₀ ?_
  rintro ⟨j, s, g⟩ ⟨h1, h2⟩
  have := round j s g h1 h2
  intro C M a w hi
  have h3 := this C M a w hi
  simp only [after] at h3 ⊢
  refine wp_mono h3 ?_
  intro e a w he
  cases e with
  | normal =>
    obtain ⟨st', M', ⟨s', g', ⟨h4, h5⟩, rfl⟩, hi'⟩ := he
    exact ⟨_, M', ⟨(j + 1, s', g'), by show xs.length - (j + 1) < xs.length - j; omega, ⟨h4, h5⟩, rfl⟩, hi'⟩
  | _ => exact he

theorem V.againL {σ γ : Type} {Q : σ → Prop} {F : σ → γ → PState} (s' : σ) (g' : γ) (hQ : Q s') (h : Gh P st (F s' g')) : V P fn R (.stop (fun st' => ∃ s' g', Q s' ∧ st' = F s' g') :: k) st :=
  V.gh h (V.stop ⟨s', g', hQ, rfl⟩)

theorem V.whileL {σ ρ γ : Type} {step : σ → Option (Flow σ ρ)} {res : Flow σ ρ} (F : σ → γ → PState) {s₀ : σ} (g₀ : γ) {c : Code}
    (hres : whileM step s₀ = some res) (h₀ : Gh P st (F s₀ g₀))
    (round : ∀ m s g, iterM step (m + 1) s = some res → V P fn R (.code c :: .stop (fun st' => ∃ s' g', iterM step m s' = some res ∧ st' = F s' g') :: k) (F s g)) :
    V P fn R (.code (.loop c) :: k) st := by
  obtain ⟨m, hm⟩ := whileM_iff.1 hres
  refine V.loopF (X := Nat × σ × γ) (fun X => F X.2.1 X.2.2) (fun X => iterM step X.1 X.2.1 = some res) (fun X => X.1) (m, s₀, g₀) hm h₀ ?_
  rintro ⟨j, s, g⟩ h2
  cases j with
  | zero => simp [iterM] at h2
  | succ j =>
  have := round j s g h2
  intro C M a w hi
  have h3 := this C M a w hi
  simp only [after] at h3 ⊢
  refine wp_mono h3 ?_
  intro e a w he
  cases e with
  | normal =>
    obtain ⟨st', M', ⟨s', g', h5, rfl⟩, hi'⟩ := he
    exact ⟨_, M', ⟨(j, s', g'), Nat.lt_succ_self j, h5, rfl⟩, hi'⟩
  | _ => exact he

/-! Ghost steps. -/
theorem Gh.refl (st : PState) : Gh P st st := fun _ M _ _ hi => ⟨M, hi⟩
theorem Gh.trans {a b c : PState} (h : Gh P a b) (h' : Gh P b c) : Gh P a c := fun C M x w hi =>
  let ⟨_, h1⟩ := h C M x w hi
  h' C _ x w h1
theorem Gh.cast (d : Nat) {p q : PV} (hs : s d = p) (h : PLe P p q) : Gh P ⟨n, s, bx, ob⟩ ⟨n, upd s d q, bx, ob⟩ := fun _ M _ _ hi =>
  ⟨M, ⟨hi.1.1, hi.1.2.1, fun t => by
    show Rep P M true (upd s d q t) _
    rw [upd_eq]
    split
    · rename_i e; subst e; have := hi.1.2.2 t; exact h M _ (hs ▸ this)
    · exact hi.1.2.2 t⟩, hi.2⟩

theorem V.cast (d : Nat) {p q : PV} (hs : s d = p) (h : PLe P p q) (hV : V P fn R k ⟨n, upd s d q, bx, ob⟩) : V P fn R k ⟨n, s, bx, ob⟩ := V.gh (Gh.cast d hs h) hV

/-- A slice of the call's own whose elements will not be written any more. -/
theorem Gh.unwr {tag : Nat} {x : Obj} (hx : ob tag = some x) : Gh P ⟨n, s, bx, ob⟩ ⟨n, s, bx, upd ob tag (some ⟨x.g, x.e, x.rows, false⟩)⟩ := by
  intro C M a w hi
  obtain ⟨M', hle, hi', _⟩ := hi.2.freezeO (tag := tag) (x := x) hx
  exact ⟨M', hi.1.mono hle, hi'⟩

/-- An object under another name. -/
theorem Gh.retag (d : Nat) {t1 : Nat} (t2 : Nat) {g : OwnRef} {len : Nat} {x : Obj} (hs : s d = .own t1 g len) (hx : ob t1 = some x) :
    Gh P ⟨n, s, bx, ob⟩ ⟨n, upd s d (.own t2 g len), bx, upd (upd ob t1 none) t2 (some x)⟩ := by
  intro C M a w hi
  have key : ∀ t y, upd (upd ob t1 none) t2 (some x) t = some y → (t = t2 ∧ y = x) ∨ (t ≠ t2 ∧ t ≠ t1 ∧ ob t = some y) := by
    intro t y hy
    simp only [upd_eq] at hy
    split at hy
    · rename_i e; exact .inl ⟨e, (Option.some.inj hy).symm⟩
    · rename_i e
      split at hy
      · cases hy
      · rename_i e'; exact .inr ⟨e, e', hy⟩
  have h := hi.2
  refine ⟨M, ⟨hi.1.1, hi.1.2.1, fun t => ?_⟩, ⟨h.mem, h.ext, h.new, h.os, h.tape, h.output, h.size, h.frame, h.boxes, ?_, h.dbox, ?_, ?_⟩⟩
  · show Rep P M true (upd s d (.own t2 g len) t) _
    rw [upd_eq]
    split
    · rename_i e; subst e
      have := hi.1.2.2 t
      simp only [hs] at this
      simpa [Rep] using this
    · exact hi.1.2.2 t
  · intro t y hy
    rcases key t y hy with ⟨_, rfl⟩ | ⟨_, _, hy⟩
    · exact h.objs t1 _ hx
    · exact h.objs t y hy
  · intro t t' y y' b hy hy' hb hb'
    rcases key t y hy with ⟨e1, e2⟩ | ⟨_, hn, hz⟩ <;> rcases key t' y' hy' with ⟨e3, e4⟩ | ⟨_, hn', hz'⟩
    · rw [e1, e3]
    · subst e2; exact absurd (h.dobj t1 t' y y' b hx hz' hb hb').symm hn'
    · subst e4; exact absurd (h.dobj t t1 y y' b hz hx hb hb') hn
    · exact h.dobj t t' y y' b hz hz' hb hb'
  · intro t t' y y' hy hy' hb
    rcases key t' y' hy' with ⟨_, e4⟩ | ⟨_, _, hz'⟩
    · subst e4; exact h.dmix t t1 y y' hy hx hb
    · exact h.dmix t t' y y' hy hz' hb
end

/-! Facts on lists of data that are encoded row by row. -/
section
variable {α : Type} {f f' : α → List PV}
theorem rowsGet (hE : ∀ x, f' x = f x) {xs : List α} {j : Nat} {x : α} (h : xs[j]? = some x) : (xs.map f')[((j : Nat) : Int).toNat]? = some (f x) := by
  simp [h, hE]
theorem rowsGetI (hE : ∀ x, f' x = f x) {xs : List α} {i : Int} {x : α} (h : xs[i.toNat]? = some x) : (xs.map f')[i.toNat]? = some (f x) := by
  simp [h, hE]
theorem rowsLit (hE : ∀ x, f' x = f x) (xs : List α) : xs.map f = xs.map f' := by
  apply List.map_congr_left
  intro x _
  exact (hE x).symm
theorem rowsApp (xs ys : List α) : xs.map f ++ ys.map f = (xs ++ ys).map f := by simp
theorem rowsSub (xs : List α) (a b : Nat) : ((xs.map f).take b).drop a = ((xs.take b).drop a).map f := by simp
theorem rowsSubE {xs ys : List α} {a b : Nat} (h : ys = (xs.take b).drop a) : ((xs.map f).take b).drop a = ys.map f := by rw [h]; simp
theorem rowsLt {xs : List α} {j : Nat} (h : decide ((j : Int) < ((xs.length : Nat) : Int)) = true) : j < xs.length := by simpa using h
theorem rowsGe {xs : List α} {j : Nat} (h : decide ((j : Int) < ((xs.length : Nat) : Int)) = false) : xs.length ≤ j := by simpa using h
end

theorem PLe2Rows.of_eq {P : Program} {a b : List (List PV)} (h : a = b) : PLe2Rows P a b := h ▸ PLe2Rows.refl a
theorem PLe2Rows.trans {P : Program} {a b c : List (List PV)} (h : PLe2Rows P a b) (h' : PLe2Rows P b c) : PLe2Rows P a c := ⟨h.1.trans h'.1, fun M k x o hx => h'.2 M k x o (h.2 M k x o hx)⟩
theorem PLe2.trans {P : Program} {a b c : PV} (h : PLe2 P a b) (h' : PLe2 P b c) : PLe2 P a c := fun M s x hx => h' M s x (h M s x hx)

/-- An element, at an index that is checked. -/
def getI {α : Type} (xs : List α) (i : Int) : Option α := if 0 ≤ i then xs[i.toNat]? else none
theorem getI_some {α : Type} {xs : List α} {i : Int} {x : α} (h : getI xs i = some x) : 0 ≤ i ∧ xs[i.toNat]? = some x := by
  unfold getI at h
  split at h
  · rename_i h0; exact ⟨h0, h⟩
  · cases h
theorem getE {α β : Type} {xs : List α} {i : Int} {k : α → Option β} {r : β} (h : bindP (getI xs i) k = some r) : ∃ a, (0 ≤ i ∧ xs[i.toNat]? = some a) ∧ k a = some r := by
  obtain ⟨a, h1, h2⟩ := bindE h
  exact ⟨a, getI_some h1, h2⟩
def subI {α : Type} (xs : List α) (a b : Int) : Option (List α) := if 0 ≤ a ∧ a ≤ b ∧ b ≤ xs.length then some ((xs.take b.toNat).drop a.toNat) else none
theorem subI_some {α : Type} {xs ys : List α} {a b : Int} (h : subI xs a b = some ys) : (0 ≤ a ∧ a ≤ b ∧ b ≤ xs.length) ∧ ys = (xs.take b.toNat).drop a.toNat := by
  unfold subI at h
  split at h
  · rename_i h0; exact ⟨h0, (Option.some.inj h).symm⟩
  · cases h
def catS (a b : List UInt8) : Option (List UInt8) := if a.length + b.length ≤ maxStr then some (a ++ b) else none
theorem catS_some {a b c : List UInt8} (h : catS a b = some c) : a.length + b.length ≤ maxStr ∧ c = a ++ b := by
  unfold catS at h
  split at h
  · rename_i h0; exact ⟨h0, (Option.some.inj h).symm⟩
  · cases h
def quoI (a b : Int) : Option Int := if b = 0 then none else some (IntKind.i64.wrap (a.tdiv b))
theorem quoI_some {a b c : Int} (h : quoI a b = some c) : b ≠ 0 ∧ c = IntKind.i64.wrap (a.tdiv b) := by
  unfold quoI at h
  split at h
  · cases h
  · rename_i h0; exact ⟨h0, (Option.some.inj h).symm⟩
def remI (a b : Int) : Option Int := if b = 0 then none else some (a.tmod b)
theorem remI_some {a b c : Int} (h : remI a b = some c) : b ≠ 0 ∧ c = a.tmod b := by
  unfold remI at h
  split at h
  · cases h
  · rename_i h0; exact ⟨h0, (Option.some.inj h).symm⟩
/-- The elements of a slice and more of them, asQ far asQ a slice of elements of so many bytes can grow. -/
def appI {α : Type} (bytes : Nat) (xs ys : List α) : Option (List α) := if (xs.length + ys.length) * bytes ≤ 2 ^ 47 ∧ xs.length + ys.length ≤ maxLen then some (xs ++ ys) else none
theorem appI_some {α : Type} {bytes : Nat} {xs ys zs : List α} (h : appI bytes xs ys = some zs) : (xs.length + ys.length) * bytes ≤ 2 ^ 47 ∧ xs.length + ys.length ≤ maxLen ∧ zs = xs ++ ys := by
  unfold appI at h
  split at h
  · rename_i h0; exact ⟨h0.1, h0.2, (Option.some.inj h).symm⟩
  · cases h
theorem appI_by {α β : Type} {f : α → β} {bytes : Nat} {xs ys : List α} (h : (xs.length + ys.length) * bytes ≤ 2 ^ 47) : ((xs.map f).length + (ys.map f).length) * bytes ≤ 2 ^ 47 := by simpa using h
theorem appI_mx {α β : Type} {f : α → β} {xs ys : List α} (h : xs.length + ys.length ≤ maxLen) : (xs.map f).length + (ys.map f).length ≤ maxLen := by simpa using h

theorem appI_eq {α β : Type} {f : α → β} {xs ys zs : List α} (h : zs = xs ++ ys) : xs.map f ++ ys.map f = zs.map f := by rw [h, List.map_append]

def Flow.thenP {σ β : Type} (fl : Flow σ Empty) (k : σ → Option β) : Option β := match fl with
  | .next s => k s
  | .brk s => k s
  | .ret r => r.elim
theorem thenP_next {σ β : Type} {fl : Flow σ Empty} {t : σ} {k : σ → Option β} {r : β} (h : fl = .next t) (H : fl.thenP k = some r) : k t = some r := by subst h; exact H
theorem thenR_next {σ ρ : Type} {fl : Flow σ ρ} {t : σ} {k : σ → Option ρ} {r : ρ} (h : fl = .next t) (H : fl.thenR k = some r) : k t = some r := by subst h; exact H
theorem thenF_next {σ τ ρ : Type} {fl : Flow σ ρ} {t : σ} {k : σ → Option (Flow τ ρ)} {r : Flow τ ρ} (h : fl = .next t) (H : fl.thenF k = some r) : k t = some r := by subst h; exact H

/-- The length of a loop over a number. -/
def smallI (n : Int) : Option Nat := if n ≤ 2 ^ 62 then some n.toNat else none
theorem smallI_some {n : Int} {m : Nat} (h : smallI n = some m) : n ≤ 2 ^ 62 ∧ m = n.toNat := by
  unfold smallI at h
  split at h
  · rename_i h0; exact ⟨h0, (Option.some.inj h).symm⟩
  · cases h

/-! Steps, once more, with what they leave written asQ the lift writes it. -/
section
variable {P : Program} {ops : Array Oper} {rest : List Oper} {o : Oper} {n : Nat} {s s' : Nat → PV} {bx : Nat → Option Box} {ob : Nat → Option Obj} {K : PState → Prop} {T : TT} {rb : RB} {k : Nat} {L : List Nat}

theorem AOps.cast (d : Nat) {p q : PV} (hs : s d = p) (h : PLe P p q) (hV : AOps P ops rest ⟨n, upd s d q, bx, ob⟩ K) : AOps P ops rest ⟨n, s, bx, ob⟩ K := AOps.gh (Gh.cast d hs h) hV

theorem AOps.lenL (hT : T.Ok P) (hg : guardA ops s o = some true) {x : Operand} {t : TypeId} {ts : List TypeId} (ho : o.op = .call { callee := .builtin .len, args := #[x], argTypes := (t :: ts).toArray }) {ti : TInfo} {e' : TypeId} (hti : T.get t = some ti) (hd : ti.desc = .slice e')
    {e : TypeId} {rows : List (List PV)} (hx : evS s x = .list e rows) {m : Nat} (hm : rows.length = m) (hp : putD n s o.dst (.val (.int .i64 m)) = some s') (h : AOps P ops rest ⟨n, s', bx, ob⟩ K) : AOps P ops (o :: rest) ⟨n, s, bx, ob⟩ K := by
  refine AOps.det hT hg (r := .val (.int .i64 m)) ?_ hp h
  rw [ho]
  simp [det0, callPV, hti, hd, hx, lenPV, hm]
theorem AOps.lenO (hT : T.Ok P) (hg : guardA ops s o = some true) {x : Operand} {t : TypeId} {ts : List TypeId} (ho : o.op = .call { callee := .builtin .len, args := #[x], argTypes := (t :: ts).toArray }) {ti : TInfo} {e' : TypeId} (hti : T.get t = some ti) (hd : ti.desc = .slice e')
    {tg l : Nat} {g : OwnRef} (hx : evS s x = .own tg g l) {m : Nat} (hm : l = m) (hp : putD n s o.dst (.val (.int .i64 m)) = some s') (h : AOps P ops rest ⟨n, s', bx, ob⟩ K) : AOps P ops (o :: rest) ⟨n, s, bx, ob⟩ K := by
  refine AOps.det hT hg (r := .val (.int .i64 m)) ?_ hp h
  rw [ho]
  simp [det0, callPV, hti, hd, hx, lenPV, hm]
theorem DOps.lenL (ho : ops[k]? = some o) (hg : guardA ops s o = some true) {x : Operand} {t : TypeId} {ts : List TypeId} (hop : o.op = .call { callee := .builtin .len, args := #[x], argTypes := (t :: ts).toArray }) {ti : TInfo} {e' : TypeId} (hti : T.get t = some ti) (hd : ti.desc = .slice e')
    {e : TypeId} {rows : List (List PV)} (hx : evS s x = .list e rows) {m : Nat} (hm : rows.length = m) (hp : putD n s o.dst (.val (.int .i64 m)) = some s') (h : DOps P T rb ops L ⟨n, s', bx, ob⟩ K) : DOps P T rb ops (k :: L) ⟨n, s, bx, ob⟩ K := by
  refine DOps.by ho hg (by rw [hop]; rfl) (r := .val (.int .i64 m)) ?_ hp h
  rw [hop]
  simp [det1, det0, callPV, hti, hd, hx, lenPV, hm]
theorem DOps.lenO (ho : ops[k]? = some o) (hg : guardA ops s o = some true) {x : Operand} {t : TypeId} {ts : List TypeId} (hop : o.op = .call { callee := .builtin .len, args := #[x], argTypes := (t :: ts).toArray }) {ti : TInfo} {e' : TypeId} (hti : T.get t = some ti) (hd : ti.desc = .slice e')
    {tg l : Nat} {g : OwnRef} (hx : evS s x = .own tg g l) {m : Nat} (hm : l = m) (hp : putD n s o.dst (.val (.int .i64 m)) = some s') (h : DOps P T rb ops L ⟨n, s', bx, ob⟩ K) : DOps P T rb ops (k :: L) ⟨n, s, bx, ob⟩ K := by
  refine DOps.by ho hg (by rw [hop]; rfl) (r := .val (.int .i64 m)) ?_ hp h
  rw [hop]
  simp [det1, det0, callPV, hti, hd, hx, lenPV, hm]

theorem DOps.idxS (ho : ops[k]? = some o) (hg : guardA ops s o = some true) {t : TypeId} {x i : Operand} (hop : o.op = .index t x i) {ti : TInfo} (hti : T.get t = some ti) (hd : ti.desc = .string) {l : List UInt8} (hx : evS s x = .str l) {kk : IntKind} {j : Int}
    (hi : evS s i = .val (.int kk j)) {c : UInt8} (h0 : 0 ≤ j) (hr : l[j.toNat]? = some c) (hp : putD n s o.dst (.val (.int .u8 c.toNat)) = some s') (h : DOps P T rb ops L ⟨n, s', bx, ob⟩ K) : DOps P T rb ops (k :: L) ⟨n, s, bx, ob⟩ K := by
  refine DOps.by ho hg (by rw [hop]; rfl) (r := .val (.int .u8 c.toNat)) ?_ hp h
  rw [hop]
  simp [det1, det0, hti, hx, hi, hd, h0, hr]

def bndI (p : Option PV) (d : Nat) : Option Int := boundI p d

theorem AOps.subL (hT : T.Ok P) (hg : guardA ops s o = some true) {t : TypeId} {x : Operand} {lo hi : Option Operand} (ho : o.op = .slice t x lo hi none) {ti : TInfo} {e : TypeId} (hti : T.get t = some ti) (hd : ti.desc = .slice e)
    {rows : List (List PV)} (hx : evS s x = .list e rows) {m : Nat} (hm : rows.length = m) {a b : Int} (ha : boundI (lo.map (evS s)) 0 = some a) (hb : boundI (hi.map (evS s)) m = some b) (hab : 0 ≤ a ∧ a ≤ b ∧ b ≤ m)
    {rows' : List (List PV)} (hr : (rows.take b.toNat).drop a.toNat = rows') (hp : putD n s o.dst (.list e rows') = some s') (h : AOps P ops rest ⟨n, s', bx, ob⟩ K) : AOps P ops (o :: rest) ⟨n, s, bx, ob⟩ K := by
  subst hm
  refine AOps.det hT hg (r := .list e rows') ?_ hp h
  rw [ho]
  simp only [det0, hti, hd, hx, slicePV, Nat.beq_refl, cond_true, ha, hb]
  rw [if_pos hab, hr]
theorem DOps.subL (ho : ops[k]? = some o) (hg : guardA ops s o = some true) {t : TypeId} {x : Operand} {lo hi : Option Operand} (hop : o.op = .slice t x lo hi none) {ti : TInfo} {e : TypeId} (hti : T.get t = some ti) (hd : ti.desc = .slice e)
    {rows : List (List PV)} (hx : evS s x = .list e rows) {m : Nat} (hm : rows.length = m) {a b : Int} (ha : boundI (lo.map (evS s)) 0 = some a) (hb : boundI (hi.map (evS s)) m = some b) (hab : 0 ≤ a ∧ a ≤ b ∧ b ≤ m)
    {rows' : List (List PV)} (hr : (rows.take b.toNat).drop a.toNat = rows') (hp : putD n s o.dst (.list e rows') = some s') (h : DOps P T rb ops L ⟨n, s', bx, ob⟩ K) : DOps P T rb ops (k :: L) ⟨n, s, bx, ob⟩ K := by
  subst hm
  refine DOps.by ho hg (by rw [hop]; rfl) (r := .list e rows') ?_ hp h
  rw [hop]
  simp only [det1, det0, hti, hd, hx, slicePV, Nat.beq_refl, cond_true, ha, hb]
  rw [if_pos hab, hr]
theorem AOps.subS (hT : T.Ok P) (hg : guardA ops s o = some true) {t : TypeId} {x : Operand} {lo hi : Option Operand} (ho : o.op = .slice t x lo hi none) {ti : TInfo} (hti : T.get t = some ti) (hd : ti.desc = .string)
    {l : List UInt8} (hx : evS s x = .str l) {a b : Int} (ha : boundI (lo.map (evS s)) 0 = some a) (hb : boundI (hi.map (evS s)) l.length = some b) (hab : 0 ≤ a ∧ a ≤ b ∧ b ≤ l.length)
    {l' : List UInt8} (hr : l' = (l.take b.toNat).drop a.toNat) (hp : putD n s o.dst (.str l') = some s') (h : AOps P ops rest ⟨n, s', bx, ob⟩ K) : AOps P ops (o :: rest) ⟨n, s, bx, ob⟩ K := by
  subst hr
  refine AOps.det hT hg (r := .str ((l.take b.toNat).drop a.toNat)) ?_ hp h
  rw [ho]
  simp only [det0, hti, hd, hx, slicePV, ha, hb]
  rw [if_pos hab]
theorem DOps.subS (ho : ops[k]? = some o) (hg : guardA ops s o = some true) {t : TypeId} {x : Operand} {lo hi : Option Operand} (hop : o.op = .slice t x lo hi none) {ti : TInfo} (hti : T.get t = some ti) (hd : ti.desc = .string)
    {l : List UInt8} (hx : evS s x = .str l) {a b : Int} (ha : boundI (lo.map (evS s)) 0 = some a) (hb : boundI (hi.map (evS s)) l.length = some b) (hab : 0 ≤ a ∧ a ≤ b ∧ b ≤ l.length)
    {l' : List UInt8} (hr : l' = (l.take b.toNat).drop a.toNat) (hp : putD n s o.dst (.str l') = some s') (h : DOps P T rb ops L ⟨n, s', bx, ob⟩ K) : DOps P T rb ops (k :: L) ⟨n, s, bx, ob⟩ K := by
  subst hr
  refine DOps.by ho hg (by rw [hop]; rfl) (r := .str ((l.take b.toNat).drop a.toNat)) ?_ hp h
  rw [hop]
  simp only [det1, det0, hti, hd, hx, slicePV, ha, hb]
  rw [if_pos hab]

theorem DOps.quo (ho : ops[k]? = some o) (hg : guardA ops s o = some true) {t t' : TypeId} {x y : Operand} (hop : o.op = .binOp .quo t x y t') {kk : IntKind} {a b : Int} (hx : evS s x = .val (.int kk a)) (hy : evS s y = .val (.int kk b)) (hb : b ≠ 0) {c : Int} (hc : c = kk.wrap (a.tdiv b))
    (hp : putD n s o.dst (.val (.int kk c)) = some s') (h : DOps P T rb ops L ⟨n, s', bx, ob⟩ K) : DOps P T rb ops (k :: L) ⟨n, s, bx, ob⟩ K := by
  subst hc
  refine DOps.by ho hg (by rw [hop]; rfl) (r := .val (.int kk (kk.wrap (a.tdiv b)))) ?_ hp h
  rw [hop]
  simp [det1, det0, qbin, hx, hy, hb]
theorem DOps.rem (ho : ops[k]? = some o) (hg : guardA ops s o = some true) {t t' : TypeId} {x y : Operand} (hop : o.op = .binOp .rem t x y t') {kk : IntKind} {a b : Int} (hx : evS s x = .val (.int kk a)) (hy : evS s y = .val (.int kk b)) (hb : b ≠ 0) {c : Int} (hc : c = a.tmod b)
    (hp : putD n s o.dst (.val (.int kk c)) = some s') (h : DOps P T rb ops L ⟨n, s', bx, ob⟩ K) : DOps P T rb ops (k :: L) ⟨n, s, bx, ob⟩ K := by
  subst hc
  refine DOps.by ho hg (by rw [hop]; rfl) (r := .val (.int kk (a.tmod b))) ?_ hp h
  rw [hop]
  simp [det1, det0, qbin, hx, hy, hb]
theorem AOps.quoC (hT : T.Ok P) (hg : guardA ops s o = some true) {t t' : TypeId} {x y : Operand} (ho : o.op = .binOp .quo t x y t') {kk : IntKind} {a b : Int} (hx : evS s x = .val (.int kk a)) (hy : evS s y = .val (.int kk b)) (hb : b ≠ 0) {c : Int} (hc : c = kk.wrap (a.tdiv b))
    (hp : putD n s o.dst (.val (.int kk c)) = some s') (h : AOps P ops rest ⟨n, s', bx, ob⟩ K) : AOps P ops (o :: rest) ⟨n, s, bx, ob⟩ K := by
  subst hc
  exact AOps.quo hT hg ho hx hy hb hp h
theorem AOps.remC (hT : T.Ok P) (hg : guardA ops s o = some true) {t t' : TypeId} {x y : Operand} (ho : o.op = .binOp .rem t x y t') {kk : IntKind} {a b : Int} (hx : evS s x = .val (.int kk a)) (hy : evS s y = .val (.int kk b)) (hb : b ≠ 0) {c : Int} (hc : c = a.tmod b)
    (hp : putD n s o.dst (.val (.int kk c)) = some s') (h : AOps P ops rest ⟨n, s', bx, ob⟩ K) : AOps P ops (o :: rest) ⟨n, s, bx, ob⟩ K := by
  subst hc
  exact AOps.rem hT hg ho hx hy hb hp h
theorem AOps.catC (hT : T.Ok P) (hg : guardA ops s o = some true) {t t' : TypeId} {x y : Operand} (ho : o.op = .binOp .add t x y t') {a b : List UInt8} (hx : evS s x = .str a) (hy : evS s y = .str b) (hb : a.length + b.length ≤ maxStr) {c : List UInt8} (hc : c = a ++ b)
    (hp : putD n s o.dst (.str c) = some s') (h : AOps P ops rest ⟨n, s', bx, ob⟩ K) : AOps P ops (o :: rest) ⟨n, s, bx, ob⟩ K := by
  subst hc
  exact AOps.cat hT hg ho hx hy hb hp h
theorem DOps.catC (ho : ops[k]? = some o) (hg : guardA ops s o = some true) {t t' : TypeId} {x y : Operand} (hop : o.op = .binOp .add t x y t') {a b : List UInt8} (hx : evS s x = .str a) (hy : evS s y = .str b) (hb : a.length + b.length ≤ maxStr) {c : List UInt8} (hc : c = a ++ b)
    (hp : putD n s o.dst (.str c) = some s') (h : DOps P T rb ops L ⟨n, s', bx, ob⟩ K) : DOps P T rb ops (k :: L) ⟨n, s, bx, ob⟩ K := by
  subst hc
  exact DOps.cat ho hg hop hx hy hb hp h

theorem Rep.rowsLe {M : Mem} {b : Bool} {e : TypeId} {rows rows' : List (List PV)} (h : PLe2Rows P rows rows') {x : Value} (hx : Rep P M b (.list e rows) x) : Rep P M b (.list e rows') x := PLe2.list h M b x hx

/-- Append to a slice of the call's own; what is appended may be weakened first. -/
theorem eff_appendC (hT : T.Ok P) {o : Oper} {ev : Operand → PV} {H : Heap} {x y : Operand} {t : TypeId} (ho : o.op = .call { callee := .builtin .append, args := #[x, y], argTypes := #[t, t] }) {ti ei : TInfo} {e : TypeId} (hti : T.get t = some ti) (hd : ti.desc = .slice e) (hei : T.get e = some ei)
    (hz : Nat.beq ei.zero.cells.size ei.size = true) (hsz : Nat.blt 0 ei.size = true) {tag : Nat} {g : OwnRef} {len : Nat} {rows rows2 rows2' rows' : List (List PV)} {wr : Bool} (hx : ev x = .own tag g len) (hob : H.ob tag = some ⟨g, e, rows, wr⟩) (hlen : len = rows.length) (hy : ev y = .list e rows2)
    (hle : PLe2Rows P rows2 rows2') (hby : (rows.length + rows2'.length) * ei.bytes ≤ 2 ^ 47) (hmx : rows.length + rows2'.length ≤ maxLen) (heq : rows ++ rows2' = rows') {K : PV → Heap → Prop} (hk : ∀ g', K (.own tag g' rows'.length) ⟨H.bx, upd H.ob tag (some ⟨g', e, rows', wr⟩)⟩) : Eff P o ev H K := by
  subst heq
  classical
  have hxy : x ≠ y := fun e => by subst e; rw [hx] at hy; cases hy
  intro C M a w next Q hi he hn
  have key := eff_appendO (P := P) (o := o) (ev := fun z => if z = y then PV.list e rows2' else ev z) (H := H) hT ho hti hd hei hz hsz (rows2 := rows2') (by simp [hxy, hx]) hob hlen (by simp) hby hmx (K := K) hk
  refine key C M a w next Q hi (fun z hz => ?_) hn
  by_cases hzy : z = y
  · subst hzy
    simp only [if_true]
    have := he z hz
    rw [hy] at this
    exact Rep.rowsLe hle this
  · simp only [hzy, if_false]
    exact he z hz

theorem AOps.appendC (hT : T.Ok P) (hg : guardA ops s o = some true) {x y : Operand} {t : TypeId} (ho : o.op = .call { callee := .builtin .append, args := #[x, y], argTypes := #[t, t] }) {d : Nat} (hdst : o.dst = some d) (hlt : Nat.blt d n = true) {ti ei : TInfo} {e : TypeId} (hti : T.get t = some ti) (hd : ti.desc = .slice e) (hei : T.get e = some ei)
    (hz : Nat.beq ei.zero.cells.size ei.size = true) (hsz : Nat.blt 0 ei.size = true) {tag : Nat} {g : OwnRef} {len : Nat} {rows rows2 rows2' rows' : List (List PV)} {wr : Bool} (hx : evS s x = .own tag g len) (hob : ob tag = some ⟨g, e, rows, wr⟩) (hlen : len = rows.length) (hy : evS s y = .list e rows2)
    (hle : PLe2Rows P rows2 rows2') (hby : (rows.length + rows2'.length) * ei.bytes ≤ 2 ^ 47) (hmx : rows.length + rows2'.length ≤ maxLen) (heq : rows ++ rows2' = rows') (h : ∀ g', AOps P ops rest ⟨n, upd s d (.own tag g' rows'.length), bx, upd ob tag (some ⟨g', e, rows', wr⟩)⟩ K) : AOps P ops (o :: rest) ⟨n, s, bx, ob⟩ K :=
  AOps.eff hg (eff_appendC hT ho hti hd hei hz hsz hx hob hlen hy hle hby hmx heq fun g' => ⟨_, by simp [hdst, putD, hlt], h g'⟩)
theorem DOps.appendC (hT : T.Ok P) (ho : ops[k]? = some o) (hg : guardA ops s o = some true) {x y : Operand} {t : TypeId} (hop : o.op = .call { callee := .builtin .append, args := #[x, y], argTypes := #[t, t] }) {d : Nat} (hdst : o.dst = some d) (hlt : Nat.blt d n = true) {ti ei : TInfo} {e : TypeId} (hti : T.get t = some ti) (hd : ti.desc = .slice e) (hei : T.get e = some ei)
    (hz : Nat.beq ei.zero.cells.size ei.size = true) (hsz : Nat.blt 0 ei.size = true) {tag : Nat} {g : OwnRef} {len : Nat} {rows rows2 rows2' rows' : List (List PV)} {wr : Bool} (hx : evS s x = .own tag g len) (hob : ob tag = some ⟨g, e, rows, wr⟩) (hlen : len = rows.length) (hy : evS s y = .list e rows2)
    (hle : PLe2Rows P rows2 rows2') (hby : (rows.length + rows2'.length) * ei.bytes ≤ 2 ^ 47) (hmx : rows.length + rows2'.length ≤ maxLen) (heq : rows ++ rows2' = rows') (h : ∀ g', DOps P T rb ops L ⟨n, upd s d (.own tag g' rows'.length), bx, upd ob tag (some ⟨g', e, rows', wr⟩)⟩ K) : DOps P T rb ops (k :: L) ⟨n, s, bx, ob⟩ K := by
  refine ⟨o, ho, true, hg, ?_⟩
  simp only [if_true, hop, clsOf]
  exact fun bx' => eff_appendC hT hop hti hd hei hz hsz hx hob hlen hy hle hby hmx heq fun g' => ⟨rfl, _, by simp [hdst, putD, hlt], h g'⟩

/-- Append to nothing. -/
theorem eff_appendNC (hT : T.Ok P) {o : Oper} {ev : Operand → PV} {H : Heap} {x y : Operand} {t : TypeId} (ho : o.op = .call { callee := .builtin .append, args := #[x, y], argTypes := #[t, t] }) {ti ei : TInfo} {e : TypeId} (hti : T.get t = some ti) (hd : ti.desc = .slice e) (hei : T.get e = some ei)
    (hz : Nat.beq ei.zero.cells.size ei.size = true) (hsz : Nat.blt 0 ei.size = true) (tag : Nat) {rows2 rows2' : List (List PV)} (hx : ev x = .val (.slice none 0 0)) (hy : ev y = .list e rows2) (hle : PLe2Rows P rows2 rows2')
    {K : PV → Heap → Prop} (hk : ∀ g', K (.own tag g' rows2'.length) ⟨H.bx, upd H.ob tag (some ⟨g', e, rows2', true⟩)⟩) : Eff P o ev H K := by
  classical
  have hxy : x ≠ y := fun e => by subst e; rw [hx] at hy; cases hy
  intro C M a w next Q hi he hn
  have key := eff_appendN (P := P) (o := o) (ev := fun z => if z = y then PV.list e rows2' else ev z) (H := H) hT ho hti hd hei hz hsz tag (rows2 := rows2') (by simp [hxy, hx]) (by simp) (K := K) hk
  refine key C M a w next Q hi (fun z hz => ?_) hn
  by_cases hzy : z = y
  · subst hzy
    simp only [if_true]
    have := he z hz
    rw [hy] at this
    exact Rep.rowsLe hle this
  · simp only [hzy, if_false]
    exact he z hz
theorem AOps.appendNC (hT : T.Ok P) (hg : guardA ops s o = some true) {x y : Operand} {t : TypeId} (ho : o.op = .call { callee := .builtin .append, args := #[x, y], argTypes := #[t, t] }) {d : Nat} (hdst : o.dst = some d) (hlt : Nat.blt d n = true) {ti ei : TInfo} {e : TypeId} (hti : T.get t = some ti) (hd : ti.desc = .slice e) (hei : T.get e = some ei)
    (hz : Nat.beq ei.zero.cells.size ei.size = true) (hsz : Nat.blt 0 ei.size = true) {rows2 rows2' : List (List PV)} (hx : evS s x = .val (.slice none 0 0)) (hy : evS s y = .list e rows2) (hle : PLe2Rows P rows2 rows2')
    (h : ∀ g', AOps P ops rest ⟨n, upd s d (.own d g' rows2'.length), bx, upd ob d (some ⟨g', e, rows2', true⟩)⟩ K) : AOps P ops (o :: rest) ⟨n, s, bx, ob⟩ K :=
  AOps.eff hg (eff_appendNC hT ho hti hd hei hz hsz d hx hy hle fun g' => ⟨_, by simp [hdst, putD, hlt], h g'⟩)
theorem DOps.appendNC (hT : T.Ok P) (ho : ops[k]? = some o) (hg : guardA ops s o = some true) {x y : Operand} {t : TypeId} (hop : o.op = .call { callee := .builtin .append, args := #[x, y], argTypes := #[t, t] }) {d : Nat} (hdst : o.dst = some d) (hlt : Nat.blt d n = true) {ti ei : TInfo} {e : TypeId} (hti : T.get t = some ti) (hd : ti.desc = .slice e) (hei : T.get e = some ei)
    (hz : Nat.beq ei.zero.cells.size ei.size = true) (hsz : Nat.blt 0 ei.size = true) {rows2 rows2' : List (List PV)} (hx : evS s x = .val (.slice none 0 0)) (hy : evS s y = .list e rows2) (hle : PLe2Rows P rows2 rows2')
    (h : ∀ g', DOps P T rb ops L ⟨n, upd s d (.own d g' rows2'.length), bx, upd ob d (some ⟨g', e, rows2', true⟩)⟩ K) : DOps P T rb ops (k :: L) ⟨n, s, bx, ob⟩ K := by
  refine ⟨o, ho, true, hg, ?_⟩
  simp only [if_true, hop, clsOf]
  exact fun bx' => eff_appendNC hT hop hti hd hei hz hsz d hx hy hle fun g' => ⟨rfl, _, by simp [hdst, putD, hlt], h g'⟩

/-- A slice literal that nobody will write, weakened at once. -/
theorem AOps.bsC (hT : T.Ok P) (hg : guardA ops s o = some true) {t e : TypeId} {m : Nat} {ps : Array (Nat × Operand)} (ho : o.op = .buildSlice t m ps) {ti : TInfo} (hti : T.get t = some ti) (hd : ti.desc = .slice e) {rows rows' : List (List PV)}
    (hr : bsRows T e m (evParts (evS s) ps) = some rows) (hle : PLe2Rows P rows rows') {d : Nat} (hdst : o.dst = some d) (hlt : Nat.blt d n = true) (h : AOps P ops rest ⟨n, upd s d (.list e rows'), bx, ob⟩ K) : AOps P ops (o :: rest) ⟨n, s, bx, ob⟩ K := by
  refine AOps.bsF hT hg ho hti hd hr (s' := upd s d (.list e rows)) (by simp [hdst, putD, hlt]) ?_
  refine AOps.cast d (upd_same _ _ _) (PLe.of2 (PLe2.list hle)) ?_
  have : upd (upd s d (PV.list e rows)) d (.list e rows') = upd s d (.list e rows') := by
    funext t
    simp only [upd_eq]
    split <;> rfl
  rw [this]
  exact h
end

section
variable {P : Program} {fn : Func} {R : PV → Heap → Prop} {ks : List KI} {n : Nat} {s : Nat → PV} {bx : Nat → Option Box} {ob : Nat → Option Obj} {T : TT}

/-- Facts that come with the arguments. -/
theorem PCalls.fact {f : FuncId} {args : List PV} {R : PV → Heap → Prop} {Q : Prop} (hq : ∀ M xs, RepAll P M true args xs → Q) (h : Q → PCalls P f args R) : PCalls P f args R :=
  fun w M own hg vs hi ha => h (hq M _ ha) w M own hg vs hi ha

theorem PCalls.le {f : FuncId} {args args' : List PV} {R : PV → Heap → Prop} (hle : PLeAll P args args') (h : PCalls P f args' R) : PCalls P f args R :=
  fun w M own hg vs hi ha => h w M own hg vs hi (hle M _ ha)
end

/-- A function that is defined only where S holds. -/
noncomputable def recOn {α β : Type} (S : α → Prop) (f : α → β) (a : α) : Option β := by
  classical exact if S a then some (f a) else none
theorem recOn_pos {α β : Type} {S : α → Prop} {f : α → β} {a : α} (h : S a) : recOn S f a = some (f a) := by simp [recOn, h]
theorem recOn_some {α β : Type} {S : α → Prop} {f : α → β} {a : α} {b : β} (h : recOn S f a = some b) : S a ∧ b = f a := by
  unfold recOn at h
  split at h
  · rename_i hs; exact ⟨hs, (Option.some.inj h).symm⟩
  · cases h

end Go.Ab
/- The abstract layer, part Q: nil tests, own slice literals, bytes, capacity, cutting off, making, functions outside. -/
namespace Go.Ab

section
variable {P : Program} {C : Ctx} {M : Mem} {H : Heap} {w : World}

/-- An own slice's rows, written in another way. -/
theorem InvH.reobj (h : InvH P C M H w) {tag : Nat} {g : OwnRef} {e : TypeId} {rows rows' : List (List PV)} {wr : Bool} (hx : H.ob tag = some ⟨g, e, rows, wr⟩) (hl : rows'.map List.length = rows.map List.length) (hle : PLe2All P rows.flatten rows'.flatten) :
    InvH P C M ⟨H.bx, upd H.ob tag (some ⟨g, e, rows', wr⟩)⟩ w := by
  have hlen : rows'.length = rows.length := by simpa using congrArg List.length hl
  have key : ∀ t y, upd H.ob tag (some ⟨g, e, rows', wr⟩) t = some y → (t = tag ∧ y = ⟨g, e, rows', wr⟩) ∨ H.ob t = some y := by
    intro t y hy
    rw [upd_eq] at hy
    split at hy
    · rename_i e; exact .inl ⟨e, (Option.some.inj hy).symm⟩
    · exact .inr hy
  have same : ∀ t y, upd H.ob tag (some ⟨g, e, rows', wr⟩) t = some y → ∃ z, H.ob t = some z ∧ z.g = y.g := by
    intro t y hy
    rcases key t y hy with ⟨rfl, rfl⟩ | hy
    · exact ⟨_, hx, rfl⟩
    · exact ⟨y, hy, rfl⟩
  refine ⟨h.mem, h.ext, h.new, h.os, h.tape, h.output, h.size, h.frame, h.boxes, ?_, h.dbox, ?_, ?_⟩
  · intro t y hy
    rcases key t y hy with ⟨rfl, rfl⟩ | hy
    · obtain ⟨i, h1, h2, h3, h4⟩ := h.objs _ _ hx
      simp only at h1 h2 h3 h4
      refine ⟨i, h1, ?_, ?_, ?_⟩
      · simpa only [hlen] using h2
      · intro r hr
        have : r.length ∈ rows'.map List.length := List.mem_map.2 ⟨r, hr, rfl⟩
        rw [hl] at this
        obtain ⟨q, hq, e1⟩ := List.mem_map.1 this
        rw [← e1]
        exact h3 q hq
      · rcases h4 with ⟨a, b, c⟩ | ⟨b, cur, h5, h6, h7, h8, h9, h10, h11, h12, h13, h14⟩
        · refine .inl ⟨a, ?_, c⟩
          rw [b] at hlen
          exact List.length_eq_zero_iff.1 hlen
        · refine .inr ⟨b, cur, h5, h6, h7, h8, ?_, h10, ?_, ?_, h13, ?_⟩
          · simpa only [hlen] using h9
          · simp only [hlen]; exact hle M false _ h11
          · simpa only [hlen] using h12
          · simpa only [hlen] using h14
    · exact h.objs t y hy
  · intro t t' y y' b hy hy' hb hb'
    obtain ⟨z, hz, e1⟩ := same t y hy
    obtain ⟨z', hz', e1'⟩ := same t' y' hy'
    exact h.dobj t t' z z' b hz hz' (e1 ▸ hb) (e1' ▸ hb')
  · intro t t' y y' hy hy' hb
    obtain ⟨z', hz', e1'⟩ := same t' y' hy'
    exact h.dmix t t' y z' hy hz' (e1' ▸ hb)

/-- An own slice, cut off: what lies behind is free again. -/
theorem InvH.cutO (h : InvH P C M H w) {tag : Nat} {g : OwnRef} {e : TypeId} {rows : List (List PV)} (hx : H.ob tag = some ⟨g, e, rows, true⟩) (k : Nat) :
    InvH P C M ⟨H.bx, upd H.ob tag (some ⟨g, e, rows.take k, true⟩)⟩ w := by
  have key : ∀ t y, upd H.ob tag (some ⟨g, e, rows.take k, true⟩) t = some y → (t = tag ∧ y = ⟨g, e, rows.take k, true⟩) ∨ H.ob t = some y := by
    intro t y hy
    rw [upd_eq] at hy
    split at hy
    · rename_i e; exact .inl ⟨e, (Option.some.inj hy).symm⟩
    · exact .inr hy
  have same : ∀ t y, upd H.ob tag (some ⟨g, e, rows.take k, true⟩) t = some y → ∃ z, H.ob t = some z ∧ z.g = y.g := by
    intro t y hy
    rcases key t y hy with ⟨rfl, rfl⟩ | hy
    · exact ⟨_, hx, rfl⟩
    · exact ⟨y, hy, rfl⟩
  refine ⟨h.mem, h.ext, h.new, h.os, h.tape, h.output, h.size, h.frame, h.boxes, ?_, h.dbox, ?_, ?_⟩
  · intro t y hy
    rcases key t y hy with ⟨rfl, rfl⟩ | hy
    · obtain ⟨i, h1, h2, h3, h4⟩ := h.objs _ _ hx
      simp only at h1 h2 h3 h4
      have hle : (rows.take k).length ≤ rows.length := by simp; omega
      refine ⟨i, h1, Nat.le_trans (Nat.mul_le_mul_right _ hle) h2, fun r hr => h3 r (List.mem_of_mem_take hr), ?_⟩
      rcases h4 with ⟨a, b, c⟩ | ⟨b, cur, h5, h6, h7, h8, h9, h10, h11, h12, h13, h14⟩
      · exact .inl ⟨a, by simp [b], c⟩
      · refine .inr ⟨b, cur, h5, h6, h7, h8, Nat.le_trans hle h9, h10, ?_, ?_, fun _ => h13 trivial, ?_⟩
        · have hflat : (rows.take k).flatten = rows.flatten.take ((rows.take k).length * i.size) := by
            have aux : ∀ (l : List (List PV)) (m : Nat), (∀ r ∈ l, r.length = i.size) → (l.take m).flatten = l.flatten.take ((l.take m).length * i.size) := by
              intro l
              induction l with
              | nil => intro m _; simp
              | cons r l ih =>
                intro m hr
                cases m with
                | zero => simp
                | succ m =>
                  have h1 := hr r (by simp)
                  have := ih m fun r hr' => hr r (by simp [hr'])
                  simp only [List.take_succ_cons, List.flatten_cons, List.length_cons]
                  have e1 : ((l.take m).length + 1) * i.size = r.length + (l.take m).length * i.size := by rw [Nat.add_mul, h1]; omega
                  rw [e1, List.take_length_add_append, this]
            exact aux rows k h3
          rw [hflat]
          have := h11.take ((rows.take k).length * i.size)
          rw [List.take_take, Nat.min_eq_left (Nat.mul_le_mul_right _ hle)] at this
          exact this
        · intro v hv
          refine h12 v ?_
          have e1 : cur.toList.take ((rows.take k).length * i.size) = (cur.toList.take (rows.length * i.size)).take ((rows.take k).length * i.size) := by
            rw [List.take_take, Nat.min_eq_left (Nat.mul_le_mul_right _ hle)]
          rw [e1] at hv
          exact List.mem_of_mem_take hv
        · intro o _
          exact h13 trivial o
    · exact h.objs t y hy
  · intro t t' y y' b hy hy' hb hb'
    obtain ⟨z, hz, e1⟩ := same t y hy
    obtain ⟨z', hz', e1'⟩ := same t' y' hy'
    exact h.dobj t t' z z' b hz hz' (e1 ▸ hb) (e1' ▸ hb')
  · intro t t' y y' hy hy' hb
    obtain ⟨z', hz', e1'⟩ := same t' y' hy'
    exact h.dmix t t' y z' hy hz' (e1' ▸ hb)
end

theorem PLe2All.of_eq {P : Program} {a b : List PV} (h : a = b) : PLe2All P a b := h ▸ PLe2All.refl a
theorem PLe2All.trans {P : Program} {a b c : List PV} (h : PLe2All P a b) (h' : PLe2All P b c) : PLe2All P a c := fun M s xs hx => h' M s xs (h M s xs hx)

/-- Room for so many elements. -/
def growI (bytes : Nat) (n : Int) : Option Unit := if 0 ≤ n ∧ n.toNat * bytes ≤ 2 ^ 47 ∧ n.toNat ≤ maxLen then some () else none
theorem growI_some {bytes : Nat} {n : Int} {u : Unit} (h : growI bytes n = some u) : 0 ≤ n ∧ n.toNat * bytes ≤ 2 ^ 47 ∧ n.toNat ≤ maxLen := by
  unfold growI at h
  split at h
  · assumption
  · cases h
/-- A string out of bytes. -/
def strI (xs : List UInt8) : Option (List UInt8) := if xs.length ≤ maxStr then some xs else none
theorem strI_some {xs ys : List UInt8} (h : strI xs = some ys) : xs.length ≤ maxStr ∧ ys = xs := by
  unfold strI at h
  split at h
  · rename_i h0; exact ⟨h0, (Option.some.inj h).symm⟩
  · cases h

/-- A byte out of a number, asQ the conversion makes it. -/
def u8of (n : Int) : UInt8 := UInt8.ofNat (IntKind.u8.wrap n).toNat
theorem u8of_eq (n : Int) : IntKind.u8.wrap n = ((u8of n).toNat : Int) := by
  have h1 : 0 ≤ IntKind.u8.wrap n ∧ IntKind.u8.wrap n < 256 := by
    simp only [IntKind.wrap, IntKind.bits, IntKind.signed]
    simp
    omega
  unfold u8of
  rw [UInt8.toNat_ofNat']
  omega

section
variable {P : Program} {ops : Array Oper} {rest : List Oper} {o : Oper} {n : Nat} {s s' : Nat → PV} {bx : Nat → Option Box} {ob : Nat → Option Obj} {K : PState → Prop} {T : TT} {rb : RB} {k : Nat} {L : List Nat}

theorem AOps.toU8 (hT : T.Ok P) (hg : guardA ops s o = some true) {src dst : TypeId} {x : Operand} (ho : o.op = .convert src dst x) {si di : TInfo} (hsi : T.get src = some si) (hdi : T.get dst = some di) (hdd : di.desc = .int .u8) {kk : IntKind} {m : Int} (hx : evS s x = .val (.int kk m))
    (hp : putD n s o.dst (.val (.int .u8 ((u8of m).toNat : Int))) = some s') (h : AOps P ops rest ⟨n, s', bx, ob⟩ K) : AOps P ops (o :: rest) ⟨n, s, bx, ob⟩ K := by
  refine AOps.det hT hg (r := .val (.int .u8 ((u8of m).toNat : Int))) ?_ hp h
  rw [ho]
  simp [det0, hsi, hdi, hx, hdd, u8of_eq]
theorem DOps.toU8 (ho : ops[k]? = some o) (hg : guardA ops s o = some true) {src dst : TypeId} {x : Operand} (hop : o.op = .convert src dst x) {si di : TInfo} (hsi : T.get src = some si) (hdi : T.get dst = some di) (hdd : di.desc = .int .u8) {kk : IntKind} {m : Int} (hx : evS s x = .val (.int kk m))
    (hp : putD n s o.dst (.val (.int .u8 ((u8of m).toNat : Int))) = some s') (h : DOps P T rb ops L ⟨n, s', bx, ob⟩ K) : DOps P T rb ops (k :: L) ⟨n, s, bx, ob⟩ K := by
  refine DOps.by ho hg (by rw [hop]; rfl) (r := .val (.int .u8 ((u8of m).toNat : Int))) ?_ hp h
  rw [hop]
  simp [det1, det0, hsi, hdi, hx, hdd, u8of_eq]

/-- Is a slice nil? Nobody knows; if it is, it is empty. -/
theorem AOps.isNil (hT : T.Ok P) (hg : guardA ops s o = some true) {t t' : TypeId} {x : Operand} (ho : o.op = .binOp .eql t x (.const (.slice none 0 0)) t') {ti : TInfo} {e : TypeId} (hti : T.get t = some ti) (hd : ti.desc = .slice e) {e' : TypeId} {rows : List (List PV)} (hx : evS s x = .list e' rows) {d : Nat} (hdst : o.dst = some d) (hlt : Nat.blt d n = true)
    (h : ∀ b : Bool, (b = true → rows = []) → AOps P ops rest ⟨n, upd s d (.val (.bool b)), bx, ob⟩ K) : AOps P ops (o :: rest) ⟨n, s, bx, ob⟩ K := by
  refine AOps.eff hg (fun C M a w next Q hi he hn => ?_)
  have hxr := he x (by rw [ho]; simp [Op.operands])
  rw [show (⟨n, s, bx, ob⟩ : PState).s = s from rfl, hx] at hxr
  simp only [Rep] at hxr
  obtain ⟨ad, c, i, hv, _, _, _, _, hr⟩ := hxr
  have hu := (hT.get hti).und
  rw [hd] at hu
  have hrun : (execOp a.eval o).run P w = .ok (.value (.bool ad.isNone)) w := by
    have h1 := run_equal_slice_nil (P := P) w t e ad rows.length c hu
    have h2 : (eqGuard .eql t x (.const (.slice none 0 0)) (.slice ad rows.length c) (.slice none 0 0)).run P w = .ok () w := by unfold eqGuard; split <;> simp
    simp only [execOp, ho, hv, show a.eval (.const (.slice none 0 0)) = .slice none 0 0 from rfl, Sem.run_bind, h2, Result.andThen_ok, binOp, h1]
    rfl
  unfold Oper.wp
  rw [hrun]
  refine hn _ (.val (.bool ad.isNone)) ⟨bx, ob⟩ M w ⟨_, by simp [hdst, putD, hlt], h ad.isNone fun hb => ?_⟩ (Mem.le_refl M) hi (by simp only [Rep])
  cases rows with
  | nil => rfl
  | cons r rows =>
    obtain ⟨b, o, e1, _⟩ := hr (by simp)
    rw [e1] at hb
    cases hb

/-- A slice literal of the call's own, weakened at once. -/
theorem AOps.bsOC (hT : T.Ok P) (hg : guardA ops s o = some true) {t e : TypeId} {m : Nat} {ps : Array (Nat × Operand)} (ho : o.op = .buildSlice t m ps) {d : Nat} (hdst : o.dst = some d) (hlt : Nat.blt d n = true) {ti : TInfo} (hti : T.get t = some ti) (hd : ti.desc = .slice e) {rows rows' : List (List PV)}
    (hr : bsRows T e m (evParts (evS s) ps) = some rows) (hl : rows'.map List.length = rows.map List.length) (hm : rows.length = m) (hle : PLe2All P rows.flatten rows'.flatten) (h : ∀ g, AOps P ops rest ⟨n, upd s d (.own d g rows'.length), bx, upd ob d (some ⟨g, e, rows', true⟩)⟩ K) : AOps P ops (o :: rest) ⟨n, s, bx, ob⟩ K := by
  refine AOps.bsO hT hg ho hdst hlt hti hd hr fun g => ?_
  have hlen : rows'.length = m := by rw [← hm]; simpa using congrArg List.length hl
  have h' := h g
  rw [hlen] at h'
  refine AOps.gh (st' := ⟨n, upd s d (.own d g m), bx, upd ob d (some ⟨g, e, rows', true⟩)⟩) ?_ h'
  intro C M a w hi
  refine ⟨M, hi.1, ?_⟩
  have := hi.2.reobj (tag := d) (rows' := rows') (upd_same _ _ _) hl hle
  simp only [PState.heap] at this ⊢
  have e2 : upd (upd ob d (some ⟨g, e, rows, true⟩)) d (some ⟨g, e, rows', true⟩) = upd ob d (some ⟨g, e, rows', true⟩) := by
    funext t
    simp only [upd_eq]
    split <;> rfl
  rwa [e2] at this

/-- The capacity of nothing. -/
theorem AOps.capN (hT : T.Ok P) (hg : guardA ops s o = some true) {x : Operand} {t : TypeId} {ts : List TypeId} (ho : o.op = .call { callee := .builtin .cap, args := #[x], argTypes := (t :: ts).toArray }) {ti : TInfo} {e : TypeId} (hti : T.get t = some ti) (hd : ti.desc = .slice e)
    (hx : evS s x = .val (.slice none 0 0)) (hp : putD n s o.dst (.val (.int .i64 0)) = some s') (h : AOps P ops rest ⟨n, s', bx, ob⟩ K) : AOps P ops (o :: rest) ⟨n, s, bx, ob⟩ K := by
  refine AOps.eff hg (fun C M a w next Q hi he hn => ?_)
  have hxr := he x (by rw [ho]; simp [Op.operands, Call.operands])
  rw [show (⟨n, s, bx, ob⟩ : PState).s = s from rfl, hx] at hxr
  simp only [Rep] at hxr
  have hu := (hT.get hti).und
  rw [hd] at hu
  have hrun : (execOp a.eval o).run P w = .ok (.value (.int .i64 0)) w := by
    simp only [execOp, ho, resolve, Sem.run_bind, Sem.run_pure, Result.andThen_ok, invoke, builtin, List.map_toArray, List.map_cons, List.map_nil, hxr]
    simp [Builtin.cap_, run_underlying hu, goInt]
  unfold Oper.wp
  rw [hrun]
  exact hn _ _ ⟨bx, ob⟩ M w ⟨s', hp, h⟩ (Mem.le_refl M) hi (by simp only [Rep])

/-- Nothing of nothing. -/
theorem AOps.subN (hT : T.Ok P) (hg : guardA ops s o = some true) {t : TypeId} {x y : Operand} (ho : o.op = .slice t x none (some y) none) {ti : TInfo} {e : TypeId} (hti : T.get t = some ti) (hd : ti.desc = .slice e) {ei : TInfo} (hei : T.get e = some ei)
    (hx : evS s x = .val (.slice none 0 0)) {kk : IntKind} (hy : evS s y = .val (.int kk 0)) (hp : putD n s o.dst (.val (.slice none 0 0)) = some s') (h : AOps P ops rest ⟨n, s', bx, ob⟩ K) : AOps P ops (o :: rest) ⟨n, s, bx, ob⟩ K := by
  refine AOps.eff hg (fun C M a w next Q hi he hn => ?_)
  have hxr := he x (by rw [ho]; simp [Op.operands])
  have hyr := he y (by rw [ho]; simp [Op.operands])
  rw [show (⟨n, s, bx, ob⟩ : PState).s = s from rfl, hx] at hxr
  rw [show (⟨n, s, bx, ob⟩ : PState).s = s from rfl, hy] at hyr
  simp only [Rep] at hxr hyr
  have hu := (hT.get hti).und
  rw [hd] at hu
  have hrun : (execOp a.eval o).run P w = .ok (.value (.slice none 0 0)) w := by
    simp only [execOp, ho, Sem.run_bind, Sem.run_pure, Option.map_some, Option.map_none, hxr, hyr]
    simp [Instr.sliceAt, Instr.slice, run_underlying hu, Instr.sliceBounds, Instr.sliceBound, asIntOf, (hT.get hei).rsize w]
  unfold Oper.wp
  rw [hrun]
  exact hn _ _ ⟨bx, ob⟩ M w ⟨s', hp, h⟩ (Mem.le_refl M) hi (by simp only [Rep])

/-- The first elements of a slice of the call's own, which is cut off there. -/
theorem AOps.cutO (hT : T.Ok P) (hg : guardA ops s o = some true) {t : TypeId} {x y : Operand} (ho : o.op = .slice t x none (some y) none) {ti : TInfo} {e : TypeId} (hti : T.get t = some ti) (hd : ti.desc = .slice e) {ei : TInfo} (hei : T.get e = some ei)
    {tag : Nat} {g : OwnRef} {len : Nat} {rows rows' : List (List PV)} (hx : evS s x = .own tag g len) (hob : ob tag = some ⟨g, e, rows, true⟩) (hlen : len = rows.length) {kk : IntKind} {m : Int} (hy : evS s y = .val (.int kk m)) (hm : 0 ≤ m ∧ m.toNat ≤ rows.length) (hr : rows.take m.toNat = rows') {d : Nat} (hdst : o.dst = some d) (hlt : Nat.blt d n = true)
    (h : AOps P ops rest ⟨n, upd s d (.own tag g rows'.length), bx, upd ob tag (some ⟨g, e, rows', true⟩)⟩ K) : AOps P ops (o :: rest) ⟨n, s, bx, ob⟩ K := by
  subst hlen
  subst hr
  refine AOps.eff hg (fun C M a w next Q hi he hn => ?_)
  have hxr := he x (by rw [ho]; simp [Op.operands])
  have hyr := he y (by rw [ho]; simp [Op.operands])
  rw [show (⟨n, s, bx, ob⟩ : PState).s = s from rfl, hx] at hxr
  rw [show (⟨n, s, bx, ob⟩ : PState).s = s from rfl, hy] at hyr
  simp only [Rep] at hxr hyr
  have hu := (hT.get hti).und
  rw [hd] at hu
  have hcap : rows.length ≤ g.cap := by
    obtain ⟨i, _, _, _, h4⟩ := hi.objs tag _ hob
    rcases h4 with ⟨_, b, _⟩ | ⟨_, _, _, _, _, _, h9, _⟩
    · simp only at b; rw [b]; simp
    · exact h9
  have hmc : m ≤ (g.cap : Int) := by omega
  have hl2 : (rows.take m.toNat).length = m.toNat := by simp; omega
  have hrun : (execOp a.eval o).run P w = .ok (.value (g.val (rows.take m.toNat).length)) w := by
    rw [hl2]
    simp only [execOp, ho, Sem.run_bind, Sem.run_pure, Option.map_some, Option.map_none, hxr.2, hyr, OwnRef.val]
    cases hb : g.blk with
    | none => simp [Instr.sliceAt, Instr.slice, run_underlying hu, Instr.sliceBounds, Instr.sliceBound, asIntOf, (hT.get hei).rsize w, hm.1, hmc]
    | some b =>
      have e0 : (⟨b, 0, none⟩ : Addr).add 0 = ⟨b, 0, none⟩ := by rw [add_off]
      simp [Instr.sliceAt, Instr.slice, run_underlying hu, Instr.sliceBounds, Instr.sliceBound, asIntOf, (hT.get hei).rsize w, hm.1, hmc, e0]
  unfold Oper.wp
  rw [hrun]
  exact hn _ (.own tag g (rows.take m.toNat).length) ⟨bx, upd ob tag (some ⟨g, e, rows.take m.toNat, true⟩)⟩ M w ⟨_, by simp [hdst, putD, hlt], h⟩ (Mem.le_refl M) (hi.cutO hob m.toNat) (by simp [Rep])

/-- So many zero elements, appended to nothing. -/
theorem AOps.appendMakeN (hT : T.Ok P) (hg : guardA ops s o = some true) {x y : Operand} {t u : TypeId} (ho : o.op = .call { callee := .builtin .append, args := #[x, y], argTypes := #[t, u] }) {d : Nat} (hdst : o.dst = some d) (hlt : Nat.blt d n = true) {ti ui ei : TInfo} {e : TypeId} (hti : T.get t = some ti) (hd : ti.desc = .slice e) (hui : T.get u = some ui) (hud : ui.desc = .int .i64) (hei : T.get e = some ei)
    (hz : Nat.beq ei.zero.cells.size ei.size = true) (hsz : Nat.blt 0 ei.size = true) (_hf : PV.frozL (zeroPV ei) = true) (h1 : (zeroPV ei).all PV.one = true) (hx : evS s x = .val (.slice none 0 0)) {m : Int} (hy : evS s y = .val (.int .i64 m)) (hm : 0 < m) (hby : m.toNat * ei.bytes ≤ 2 ^ 47) (hmx : m.toNat ≤ maxLen)
    (h : ∀ g, AOps P ops rest ⟨n, upd s d (.own d g (List.replicate m.toNat (zeroPV ei)).length), bx, upd ob d (some ⟨g, e, List.replicate m.toNat (zeroPV ei), true⟩)⟩ K) : AOps P ops (o :: rest) ⟨n, s, bx, ob⟩ K := by
  refine AOps.eff hg (fun C M a w next Q hi he hn => ?_)
  have hxr := he x (by rw [ho]; simp [Op.operands, Call.operands])
  have hyr := he y (by rw [ho]; simp [Op.operands, Call.operands])
  rw [show (⟨n, s, bx, ob⟩ : PState).s = s from rfl, hx] at hxr
  rw [show (⟨n, s, bx, ob⟩ : PState).s = s from rfl, hy] at hyr
  simp only [Rep] at hxr hyr
  have hu := (hT.get hti).und
  rw [hd] at hu
  have hu2 := (hT.get hui).und
  rw [hud] at hu2
  have hu3 := (hT.get hei).und
  obtain ⟨i, hinf, hs, hbs, hzero⟩ := (hT.get hei).info
  have hz1 := Nat.eq_of_beq_eq_true hz
  have hsz' : 0 < i.size := by have : 0 < ei.size := by simpa [Nat.blt_eq] using hsz
                               omega
  obtain ⟨k, hk⟩ : ∃ k : Nat, k = m.toNat := ⟨_, rfl⟩
  rw [← hk] at hby hmx h
  have hkm : m = (k : Int) := by omega
  subst hkm
  have hk0 : 0 < k := by omega
  have hwrap : IntKind.i64.wrap (k : Int) = k := by
    simp only [IntKind.wrap, IntKind.bits, IntKind.signed]
    simp
    unfold maxLen at hmx
    omega
  have h63 : ¬ (9223372036854775807 < (k : Int)) := by unfold maxLen at hmx; omega
  have hby2 : k * i.bytes ≤ 140737488355328 := by rw [hbs]; exact hby
  have h48 : ¬ (281474976710656 < Builtin.nextslicecap k 0 * i.bytes) := by rw [nextslicecap_zero hk0]; omega
  have h48' : ¬ (281474976710656 < (k : Int) * (i.bytes : Int)) := by
    have : ((k * i.bytes : Nat) : Int) ≤ 140737488355328 := Int.ofNat_le.2 hby2
    rw [Int.natCast_mul] at this
    omega
  have hne : ¬ (k * i.size = 0) := by
    have := Nat.mul_pos hk0 hsz'
    omega
  have hrun : (Builtin.append_ #[t, u] o.type #[.slice none 0 0, .int .i64 k]).run P w = .ok (.slice (some ⟨w.heap.size, 0, none⟩) k (grownCap w k 0 e)) (w.drew.alloc (.cells (Builtin.zeroCells ei.zero.cells k ++ Builtin.zeroCells ei.zero.cells (grownCap w k 0 e - k)) e)) := by
    have hk1 : k ≠ 0 := by omega
    have hk3 : ¬ ((k : Int) < 0) := by omega
    simp [Builtin.append_, run_underlying hu, run_underlying hu2, sizeOf, typeInfo, zeroValue, hinf, hzero, asInt, asIntOf, hwrap, hk1, hk3, h63, h48, h48', Question.forced, run_firstCells_none, newRow, grownCap]
    exact fun h0 => absurd h0 hne
  have hrun' : (execOp a.eval o).run P w = .ok (.value (.slice (some ⟨w.heap.size, 0, none⟩) k (grownCap w k 0 e))) (w.drew.alloc (.cells (Builtin.zeroCells ei.zero.cells k ++ Builtin.zeroCells ei.zero.cells (grownCap w k 0 e - k)) e)) := by
    simp only [execOp, ho, resolve, Sem.run_bind, Sem.run_pure, Result.andThen_ok, invoke, builtin, List.map_toArray, List.map_cons, List.map_nil, hxr, hyr]
    rw [hrun]
    rfl
  unfold Oper.wp
  rw [hrun']
  have hge := grownCap_ge w k 0 e
  have hgm : grownCap w k 0 e ≤ maxLen := grownCap_le_maxLen w k 0 e hmx
  have hzl : (zeroPV ei).length = i.size := by simp [zeroPV, hz1, hs]
  have hzc : (Builtin.zeroCells ei.zero.cells k).toList = (List.replicate k ei.zero.cells.toList).flatten := by
    unfold Builtin.zeroCells
    exact zeros_eq ei.zero.cells k
  have hzs : (Builtin.zeroCells ei.zero.cells k).toList.length = k * i.size := by
    rw [hzc]; simp [hz1, hs]
  have hrep : RepAll P M false (List.replicate k (zeroPV ei)).flatten (List.replicate k ei.zero.cells.toList).flatten := repAll_flat (zeroPV_rep _) k
  have htake : ((Builtin.zeroCells ei.zero.cells k ++ Builtin.zeroCells ei.zero.cells (grownCap w k 0 e - k)).toList.take ((List.replicate k (zeroPV ei)).length * i.size)) = (List.replicate k ei.zero.cells.toList).flatten := by
    rw [List.length_replicate, Array.toList_append, ← hzc]
    rw [← hzs]
    exact List.take_left
  refine hn _ (.own d ⟨some w.heap.size, grownCap w k 0 e⟩ (List.replicate k (zeroPV ei)).length) _ M _ ⟨_, by simp [hdst, putD, hlt], h ⟨some w.heap.size, grownCap w k 0 e⟩⟩ (Mem.le_refl M)
    ((show InvH P C M ⟨bx, ob⟩ w.drew from hi.drew).alloc_obj d e (List.replicate k (zeroPV ei)) true _ _ i hinf ?_ ?_ ?_ ?_ hgm ?_ ?_) ?_
  · rw [List.length_replicate]; exact hby2
  · intro r hr
    rw [List.eq_of_mem_replicate hr]
    exact hzl
  · simp only [Array.size_append, size_zeroCells, hz1, ← hs, ← Nat.add_mul]
    congr 1
    omega
  · rw [List.length_replicate]; exact hge
  · rw [htake]; exact hrep
  · rw [htake]
    refine RepAll.oneCell ?_ hrep
    rw [List.all_flatten]
    rw [List.all_eq_true]
    intro r hr
    rw [List.eq_of_mem_replicate hr]
    exact h1
  · simp [Rep, OwnRef.val]
end
end Go.Ab
