/- joinSemiAndAntiPartition_holds, part 2: the layer, the plain functions and what they compute; conditions as in the statement. -/
import Derived.Test.YtgdlccbnofmkgaaGreatDoorSaa
set_option maxHeartbeats 4000000
namespace Go.Ab
noncomputable section
def ah {α β : Type} (o : Option α) (k : α → Option β) : Option β := match o with
 | some a=>k a
 | none=>none
def letP {α β : Type} (a : α) (k : α → β) : β := k a
inductive Flow (σ ρ : Type) where
 | next (s : σ)
 | brk (s : σ)
 | ret (r : ρ)
def Flow.thenR {σ ρ : Type} (fl : Flow σ ρ) (k : σ → Option ρ) : Option ρ := match fl with
 | .next s=>k s
 | .brk s=>k s
 | .ret r=>some r
def Flow.thenF {σ τ ρ : Type} (fl : Flow σ ρ) (k : σ → Option (Flow τ ρ)) : Option (Flow τ ρ) := match fl with
 | .next s=>k s
 | .brk s=>k s
 | .ret r=>some (.ret r)
def av {α σ ρ : Type} (step : Nat → α → σ → Option (Flow σ ρ)) : Nat → List α → σ → Option (Flow σ ρ)
 | _,[],s=>some (.next s)
 | j,x :: xs,s=>match step j x s with
  | none=>none
  | some (.next s')=>av step (j + 1) xs s'
  | some (.brk s')=>some (.next s')
  | some (.ret r)=>some (.ret r)
def iterM {σ ρ : Type} (step : σ → Option (Flow σ ρ)) : Nat → σ → Option (Flow σ ρ)
 | 0,_=>none
 | n + 1,s=>match step s with
  | none=>none
  | some (.next s')=>iterM step n s'
  | some (.brk s')=>some (.next s')
  | some (.ret r)=>some (.ret r)
open Classical in
def whileM {σ ρ : Type} (step : σ → Option (Flow σ ρ)) (s : σ) : Option (Flow σ ρ) :=
 if h : ∃ r,∃ n,iterM step n s = some r then some h.choose else none
theorem aA {α β : Type} {o : Option α} {k : α → Option β} {r : β} (h : ah o k = some r) : ∃ a,o = some a ∧ k a = some r := by
 cases o with
 | none=>cases h
 | some a=>exact ⟨a,rfl,h⟩
theorem letE {α β : Type} {a : α} {k : α → β} {r : β} (h : letP a k = r) : ∃ x,a = x ∧ k x = r := ⟨a,rfl,h⟩
theorem condT {α : Type} {c : Bool} {A B r : α} (h : c = true) (H : cond c A B = r) : A = r := by subst h; exact H
theorem condF {α : Type} {c : Bool} {A B r : α} (h : c = false) (H : cond c A B = r) : B = r := by subst h; exact H
theorem bN {P : Program} {fn : Func} {R : PV → Heap → Prop} {k : List KI} {st : PState} {c : Operand} {x y : Code} {b : Bool} (hc : evS st.s c = .val (.bool b)) {α : Type} {A B r : α} (H : (bif b then A else B) = r) (ht : A = r → V P fn R (.code x :: k) st) (hf : B = r → V P fn R (.code y :: k) st) : V P fn R (.code (.cond c x y) :: k) st := dT hc (fun h=>ht (Go.Ab.condT h H)) (fun h=>hf (Go.Ab.condF h H))
theorem cy {P : Program} {ops : Array Oper} {o : Oper} {rest : List Oper} {n : Nat} {s : Nat → PV} {bx : Nat → Option Box} {ob : Nat → Option Obj} {K : PState → Prop} {j : Nat} {want b : Bool} {d : Nat} (hg : o.guard = some (j,want)) (hd : (ops[j]?).bind (·.dst) = some d) (hs : s d = .val (.bool b)) {α : Type} {A B r : α} (H : cond b A B = r)
  (ht : A = r → Ao P ops (o :: rest) ⟨n,upd s d (.val (.bool true)),bx,ob⟩ K) (hf : B = r → Ao P ops (o :: rest) ⟨n,upd s d (.val (.bool false)),bx,ob⟩ K) : Ao P ops (o :: rest) ⟨n,s,bx,ob⟩ K := fZ hg hd hs (fun h=>ht (condT h H)) (fun h=>hf (condF h H))
theorem thenF_ret {σ τ ρ : Type} {r : ρ} {k : σ → Option (Flow τ ρ)} {x : Flow τ ρ} (h : Flow.thenF (.ret r) k = some x) : x = .ret r := (Option.some.inj h).symm
theorem bW {σ ρ : Type} {r x : ρ} {k : σ → Option ρ} (h : Flow.thenR (.ret r) k = some x) : r = x := Option.some.inj h
theorem ca {α : Type} {a b : α} (h : some a = some b) : a = b := Option.some.inj h
def cQ {α σ ρ : Type} (step : Nat → α → σ → Option (Flow σ ρ)) (xs : List α) (j : Nat) (res : Flow σ ρ) : Flow σ ρ → Prop
 | .next s'=>av step (j + 1) (xs.drop (j + 1)) s' = some res
 | .brk s'=>res = .next s'
 | .ret r=>res = .ret r
theorem rMc {α σ ρ : Type} {step : Nat → α → σ → Option (Flow σ ρ)} {xs : List α} {j : Nat} {s : σ} {res : Flow σ ρ} (hj : j < xs.length) (h : av step j (xs.drop j) s = some res) :
  ∃ x fl,xs[j]? = some x ∧ step j x s = some fl ∧ cQ step xs j res fl := by
 rw [List.drop_eq_getElem_cons hj,av] at h
 refine ⟨xs[j],?_⟩
 split at h
 ·cases h
 ·rename_i s' hs; exact ⟨_,ze hj,hs,h⟩
 ·rename_i s' hs; exact ⟨_,ze hj,hs,(Option.some.inj h).symm⟩
 ·rename_i s' hs; exact ⟨_,ze hj,hs,(Option.some.inj h).symm⟩
theorem rMd {α σ ρ : Type} {step : Nat → α → σ → Option (Flow σ ρ)} {xs : List α} {j : Nat} {s : σ} {res : Flow σ ρ} (hj : xs.length ≤ j) (h : av step j (xs.drop j) s = some res) : res = .next s := by
 rw [List.drop_eq_nil_of_le hj,av] at h
 exact (Option.some.inj h).symm
section
variable {P : Program} {fn : Func} {R : PV → Heap → Prop} {k : List KI} {n : Nat} {s : Nat → PV} {bx : Nat → Option Box} {ob : Nat → Option Obj} {T : TT} {st : PState}
theorem eK {τ γ : Type} (J : τ → γ → PState) (Gd : τ → Prop) {c : Code} (h : V P fn R (.code c :: .stop (fun st'=>∃ t g,Gd t ∧ st' = J t g) :: k) st) (hk : ∀ t g,Gd t → V P fn R k (J t g)) :
  V P fn R (.code c :: k) st := by
 intro C M a w hi
 have := h C M a w hi
 simp only [after] at this ⊢
 refine wp_mono this ?_
 intro e a w he
 cases e with
 | normal =>
  obtain ⟨st',M',⟨t,g,hG,rfl⟩,hi'⟩ := he
  exact hk t g hG C M' a w hi'
 | _=>exact he
theorem ce {τ γ : Type} {J : τ → γ → PState} {Gd : τ → Prop} (t : τ) (g : γ) (hG : Gd t) (h : Gh P st (J t g)) : V P fn R (.stop (fun st'=>∃ t g,Gd t ∧ st' = J t g) :: k) st :=
 fy h (fN ⟨t,g,hG,rfl⟩)
theorem V.cutB {τ γ β : Type} {x : Option τ} {f : τ → Option β} {r : β} (J : τ → γ → PState) {c : Code} (H : ah x f = some r) (h : ∀ u,x = some u → V P fn R (.code c :: .stop (fun st'=>∃ t g,t = u ∧ st' = J t g) :: k) st)
  (hk : ∀ t g,f t = some r → V P fn R k (J t g)) : V P fn R (.code c :: k) st := by
 obtain ⟨u,h1,h2⟩ := aA H
 exact eK J (fun t=>t = u) (h u h1) (fun t g e=>hk t g (e ▸ h2))
theorem fm {τ γ β : Type} {x : τ} {f : τ → β} {r : β} (J : τ → γ → PState) {c : Code} (H : letP x f = r) (h : ∀ u,x = u → V P fn R (.code c :: .stop (fun st'=>∃ t g,t = u ∧ st' = J t g) :: k) st)
  (hk : ∀ t g,f t = r → V P fn R k (J t g)) : V P fn R (.code c :: k) st := by
 obtain ⟨u,h1,h2⟩ := letE H
 exact eK J (fun t=>t = u) (h u h1) (fun t g e=>hk t g (e ▸ h2))
theorem ef {α σ ρ γ : Type} {step : Nat → α → σ → Option (Flow σ ρ)} {xs : List α} {res : Flow σ ρ} (F : Nat → σ → γ → PState) {s₀ : σ} (g₀ : γ) {c : Code}
  (hres : av step 0 xs s₀ = some res) (h₀ : Gh P st (F 0 s₀ g₀))
  (round : ∀ j s g,j ≤ xs.length → av step j (xs.drop j) s = some res →
   V P fn R (.code c :: .stop (fun st'=>∃ s' g',(j + 1 ≤ xs.length ∧ av step (j + 1) (xs.drop (j + 1)) s' = some res) ∧ st' = F (j + 1) s' g') :: k) (F j s g)) :
  V P fn R (.code (.loop c) :: k) st := by
 refine V.loopF (X := Nat × σ × γ) (fun X=>F X.1 X.2.1 X.2.2) (fun X=>X.1 ≤ xs.length ∧ av step X.1 (xs.drop X.1) X.2.1 = some res) (fun X=>xs.length - X.1) (0,s₀,g₀) ⟨Nat.zero_le _,by simpa using hres⟩ h₀ ?_
 rintro ⟨j,s,g⟩ ⟨h1,h2⟩
 have := round j s g h1 h2
 intro C M a w hi
 have h3 := this C M a w hi
 simp only [after] at h3 ⊢
 refine wp_mono h3 ?_
 intro e a w he
 cases e with
 | normal =>
  obtain ⟨st',M',⟨s',g',⟨h4,h5⟩,rfl⟩,hi'⟩ := he
  exact ⟨_,M',⟨(j + 1,s',g'),by show xs.length - (j + 1) < xs.length - j; omega,⟨h4,h5⟩,rfl⟩,hi'⟩
 | _=>exact he
theorem fT {σ γ : Type} {Q : σ → Prop} {F : σ → γ → PState} (s' : σ) (g' : γ) (hQ : Q s') (h : Gh P st (F s' g')) : V P fn R (.stop (fun st'=>∃ s' g',Q s' ∧ st' = F s' g') :: k) st :=
 fy h (fN ⟨s',g',hQ,rfl⟩)
theorem Gh.cast (d : Nat) {p q : PV} (hs : s d = p) (h : PLe P p q) : Gh P ⟨n,s,bx,ob⟩ ⟨n,upd s d q,bx,ob⟩ := fun _ M _ _ hi =>
 ⟨M,⟨hi.1.1,hi.1.2.1,fun t=>by
  show Rep P M true (upd s d q t) _
  rw [be]
  split
  ·rename_i e; subst e; have := hi.1.2.2 t; exact h M _ (hs ▸ this)
  ·exact hi.1.2.2 t⟩,hi.2⟩
end
section
variable {α : Type} {f f' : α → List PV}
theorem co (hE : ∀ x,f' x = f x) {xs : List α} {j : Nat} {x : α} (h : xs[j]? = some x) : (xs.map f')[((j : Nat) : Int).toNat]? = some (f x) := by
 simp [h,hE]
theorem cL (hE : ∀ x,f' x = f x) {xs : List α} {i : Int} {x : α} (h : xs[i.toNat]? = some x) : (xs.map f')[i.toNat]? = some (f x) := by
 simp [h,hE]
theorem rowsSubE {xs ys : List α} {a b : Nat} (h : ys = (xs.take b).drop a) : ((xs.map f).take b).drop a = ys.map f := by rw [h]; simp
theorem rowsLt {xs : List α} {j : Nat} (h : decide ((j : Int) < ((xs.length : Nat) : Int)) = true) : j < xs.length := by simpa using h
theorem rowsGe {xs : List α} {j : Nat} (h : decide ((j : Int) < ((xs.length : Nat) : Int)) = false) : xs.length ≤ j := by simpa using h
end
def bG {α : Type} (xs : List α) (i : Int) : Option α := if 0 ≤ i then xs[i.toNat]? else none
theorem gIs {α : Type} {xs : List α} {i : Int} {x : α} (h : bG xs i = some x) : 0 ≤ i ∧ xs[i.toNat]? = some x := by
 unfold bG at h
 split at h
 ·rename_i h0; exact ⟨h0,h⟩
 ·cases h
theorem getE {α β : Type} {xs : List α} {i : Int} {k : α → Option β} {r : β} (h : ah (bG xs i) k = some r) : ∃ a,(0 ≤ i ∧ xs[i.toNat]? = some a) ∧ k a = some r := by
 obtain ⟨a,h1,h2⟩ := aA h
 exact ⟨a,gIs h1,h2⟩
def subI {α : Type} (xs : List α) (a b : Int) : Option (List α) := if 0 ≤ a ∧ a ≤ b ∧ b ≤ xs.length then some ((xs.take b.toNat).drop a.toNat) else none
theorem subI_some {α : Type} {xs ys : List α} {a b : Int} (h : subI xs a b = some ys) : (0 ≤ a ∧ a ≤ b ∧ b ≤ xs.length) ∧ ys = (xs.take b.toNat).drop a.toNat := by
 unfold subI at h
 split at h
 ·rename_i h0; exact ⟨h0,(Option.some.inj h).symm⟩
 ·cases h
def bC (a b : List UInt8) : Option (List UInt8) := if a.length + b.length ≤ aZ then some (a ++ b) else none
theorem bS {a b c : List UInt8} (h : bC a b = some c) : a.length + b.length ≤ aZ ∧ c = a ++ b := by
 unfold bC at h
 split at h
 ·rename_i h0; exact ⟨h0,(Option.some.inj h).symm⟩
 ·cases h
def appI {α : Type} (bytes : Nat) (xs ys : List α) : Option (List α) := if (xs.length + ys.length) * bytes ≤ 2 ^ 47 ∧ xs.length + ys.length ≤ maxLen then some (xs ++ ys) else none
theorem eB {α : Type} {bytes : Nat} {xs ys zs : List α} (h : appI bytes xs ys = some zs) : (xs.length + ys.length) * bytes ≤ 2 ^ 47 ∧ xs.length + ys.length ≤ maxLen ∧ zs = xs ++ ys := by
 unfold appI at h
 split at h
 ·rename_i h0; exact ⟨h0.1,h0.2,(Option.some.inj h).symm⟩
 ·cases h
theorem appI_by {α β : Type} {f : α → β} {bytes : Nat} {xs ys : List α} (h : (xs.length + ys.length) * bytes ≤ 2 ^ 47) : ((xs.map f).length + (ys.map f).length) * bytes ≤ 2 ^ 47 := by simpa using h
theorem appI_mx {α β : Type} {f : α → β} {xs ys : List α} (h : xs.length + ys.length ≤ maxLen) : (xs.map f).length + (ys.map f).length ≤ maxLen := by simpa using h
theorem appI_eq {α β : Type} {f : α → β} {xs ys zs : List α} (h : zs = xs ++ ys) : xs.map f ++ ys.map f = zs.map f := by rw [h,List.map_append]
def Flow.thenP {σ β : Type} (fl : Flow σ Empty) (k : σ → Option β) : Option β := match fl with
 | .next s=>k s
 | .brk s=>k s
 | .ret r=>r.elim
theorem thenP_next {σ β : Type} {fl : Flow σ Empty} {t : σ} {k : σ → Option β} {r : β} (h : fl = .next t) (H : fl.thenP k = some r) : k t = some r := by subst h; exact H
theorem thenR_next {σ ρ : Type} {fl : Flow σ ρ} {t : σ} {k : σ → Option ρ} {r : ρ} (h : fl = .next t) (H : fl.thenR k = some r) : k t = some r := by subst h; exact H
theorem thenF_next {σ τ ρ : Type} {fl : Flow σ ρ} {t : σ} {k : σ → Option (Flow τ ρ)} {r : Flow τ ρ} (h : fl = .next t) (H : fl.thenF k = some r) : k t = some r := by subst h; exact H
section
variable {P : Program} {fn : Func} {R : PV → Heap → Prop} {k : List KI} {n : Nat} {s : Nat → PV} {bx : Nat → Option Box} {ob : Nat → Option Obj} {T : TT}
def nB {σ γ : Type} : σ → γ → Nat → Option Box := fun _ _ _=>none
def nO {σ γ : Type} : σ → γ → Nat → Option Obj := fun _ _ _=>none
theorem fD {α σ ρ γ β : Type} {step : Nat → α → σ → Option (Flow σ ρ)} {xs : List α} {s₀ : σ} {th : Flow σ ρ → Option β} {r : β} {rw : α → List PV}
  (hT : T.Ok P) (d : Nat) {e : TypeId} {ei : TInfo} (hei : T.get e = some ei) (hs : s d = .list e (xs.map rw))
  (S : σ → γ → Nat → PV) (B : σ → γ → Nat → Option Box) (O : σ → γ → Nat → Option Obj) (E : (Nat → PV) → Nat → σ → γ → Nat → PV) (g₀ : γ)
  {id rid : Nat} {ops : Array Oper} {o : Oper} {tst : Operand} {rest : Code} {S' : Nat → σ → γ → Nat → PV}
  (H : ah (av step 0 xs s₀) th = some r)
  (h₀ : Gh P ⟨n,s,bx,ob⟩ ⟨n,E (S s₀ g₀) 0 s₀ g₀,B s₀ g₀,O s₀ g₀⟩)
  (ho : ops.toList = [o])
  (hq : ∀ j s g,de T ops n (E (S s g) j s g) (B s g) o = some (S' j s g))
  (ht : ∀ j s g,evS (S' j s g) tst = .val (.bool (decide ((j : Int) < ((xs.length : Nat) : Int)))))
  (hx : ∀ j s g,Gh P ⟨n,S' j s g,B s g,O s g⟩ ⟨n,S s g,B s g,O s g⟩)
  (round : ∀ fl,th fl = some r → ∀ j s g,xs.length ≤ maxLen → j < xs.length → ∀ x fb,xs[j]? = some x → step j x s = some fb → cQ step xs j fl fb →
   V P fn R (.code rest :: .stop (fun st'=>∃ s' g',(j + 1 ≤ xs.length ∧ av step (j + 1) (xs.drop (j + 1)) s' = some fl) ∧ st' = ⟨n,E (S s' g') (j + 1) s' g',B s' g',O s' g'⟩) :: .blk id :: .stop (fun st'=>∃ t g,fl = .next t ∧ st' = ⟨n,S t g,B t g,O t g⟩) :: k) ⟨n,S' j s g,B s g,O s g⟩)
  (hk : ∀ t g,th (.next t) = some r → V P fn R k ⟨n,S t g,B t g,O t g⟩) :
  V P fn R (.code (.block id (.loop (.seq (.region rid ops false) (.seq (.cond tst .skip (.exit id)) rest)))) :: k) ⟨n,s,bx,ob⟩ := by
 refine fo hT d hei hs (fun hz _=>?_)
 rw [zl] at hz
 obtain ⟨fl,h1,h2⟩ := aA H
 refine eK (fun t g=>⟨n,S t g,B t g,O t g⟩) (fun t=>fl = .next t) ?_ (fun t g e=>hk t g (by subst e; exact h2))
 refine bp (ef (fun j s g=>⟨n,E (S s g) j s g,B s g,O s g⟩) g₀ h1 h₀ (fun j s g hj hr=>?_))
 refine ae (ac ?_)
 rw [ho]
 refine aq hT (hq j s g) (ag ?_)
 refine ae (dT (ht j s g) (fun h=>?_) (fun h=>?_))
 ·have hl : j < xs.length := by simpa using h
  obtain ⟨x,fb,hx1,H,hg⟩ := rMc hl hr
  exact aO (round fl h2 j s g hz hl x fb hx1 H hg)
 ·have hn := rMd (by simpa using h) hr
  refine ft (k' := .stop (fun st'=>∃ t g,fl = .next t ∧ st' = ⟨n,S t g,B t g,O t g⟩) :: k) ?_ (ce s g hn (hx j s g))
  simp [cT,Nat.beq_refl]
theorem fV {α σ γ β : Type} {step : Nat → α → σ → Option (Flow σ Empty)} {xs : List α} {s₀ : σ} {kk : σ → Option (β)} {r : β} {rw : α → List PV}
  (hT : T.Ok P) (d : Nat) {e : TypeId} {ei : TInfo} (hei : T.get e = some ei) (hs : s d = .list e (xs.map rw))
  (S : σ → γ → Nat → PV) (B : σ → γ → Nat → Option Box) (O : σ → γ → Nat → Option Obj) (E : (Nat → PV) → Nat → σ → γ → Nat → PV) (g₀ : γ)
  {id rid : Nat} {ops : Array Oper} {o : Oper} {tst : Operand} {rest : Code} {S' : Nat → σ → γ → Nat → PV}
  (H : ah (av step 0 xs s₀) (fun fl=>fl.thenP kk) = some r)
  (ho : ops.toList = [o])
  (h₀ : Gh P ⟨n,s,bx,ob⟩ ⟨n,E (S s₀ g₀) 0 s₀ g₀,B s₀ g₀,O s₀ g₀⟩)
  (hq : ∀ j s g,de T ops n (E (S s g) j s g) (B s g) o = some (S' j s g))
  (ht : ∀ j s g,evS (S' j s g) tst = .val (.bool (decide ((j : Int) < ((xs.length : Nat) : Int)))))
  (hx : ∀ j s g,Gh P ⟨n,S' j s g,B s g,O s g⟩ ⟨n,S s g,B s g,O s g⟩)
  (round : ∀ fl,fl.thenP kk = some r → ∀ j s g,xs.length ≤ maxLen → j < xs.length → ∀ x fb,xs[j]? = some x → step j x s = some fb → cQ step xs j fl fb →
   V P fn R (.code rest :: .stop (fun st'=>∃ s' g',(j + 1 ≤ xs.length ∧ av step (j + 1) (xs.drop (j + 1)) s' = some fl) ∧ st' = ⟨n,E (S s' g') (j + 1) s' g',B s' g',O s' g'⟩) :: .blk id :: .stop (fun st'=>∃ t g,fl = .next t ∧ st' = ⟨n,S t g,B t g,O t g⟩) :: k) ⟨n,S' j s g,B s g,O s g⟩)
  (hk : ∀ t g,kk t = some r → V P fn R k ⟨n,S t g,B t g,O t g⟩) :
  V P fn R (.code (.block id (.loop (.seq (.region rid ops false) (.seq (.cond tst .skip (.exit id)) rest)))) :: k) ⟨n,s,bx,ob⟩ :=
 fD hT d hei hs S B O E g₀ H h₀ ho hq ht hx round (fun t g e=>hk t g e)
theorem fU {α σ γ β : Type} {step : Nat → α → σ → Option (Flow σ β)} {xs : List α} {s₀ : σ} {kk : σ → Option (β)} {r : β} {rw : α → List PV}
  (hT : T.Ok P) (d : Nat) {e : TypeId} {ei : TInfo} (hei : T.get e = some ei) (hs : s d = .list e (xs.map rw))
  (S : σ → γ → Nat → PV) (B : σ → γ → Nat → Option Box) (O : σ → γ → Nat → Option Obj) (E : (Nat → PV) → Nat → σ → γ → Nat → PV) (g₀ : γ)
  {id rid : Nat} {ops : Array Oper} {o : Oper} {tst : Operand} {rest : Code} {S' : Nat → σ → γ → Nat → PV}
  (H : ah (av step 0 xs s₀) (fun fl=>fl.thenR kk) = some r)
  (ho : ops.toList = [o])
  (h₀ : Gh P ⟨n,s,bx,ob⟩ ⟨n,E (S s₀ g₀) 0 s₀ g₀,B s₀ g₀,O s₀ g₀⟩)
  (hq : ∀ j s g,de T ops n (E (S s g) j s g) (B s g) o = some (S' j s g))
  (ht : ∀ j s g,evS (S' j s g) tst = .val (.bool (decide ((j : Int) < ((xs.length : Nat) : Int)))))
  (hx : ∀ j s g,Gh P ⟨n,S' j s g,B s g,O s g⟩ ⟨n,S s g,B s g,O s g⟩)
  (round : ∀ fl,fl.thenR kk = some r → ∀ j s g,xs.length ≤ maxLen → j < xs.length → ∀ x fb,xs[j]? = some x → step j x s = some fb → cQ step xs j fl fb →
   V P fn R (.code rest :: .stop (fun st'=>∃ s' g',(j + 1 ≤ xs.length ∧ av step (j + 1) (xs.drop (j + 1)) s' = some fl) ∧ st' = ⟨n,E (S s' g') (j + 1) s' g',B s' g',O s' g'⟩) :: .blk id :: .stop (fun st'=>∃ t g,fl = .next t ∧ st' = ⟨n,S t g,B t g,O t g⟩) :: k) ⟨n,S' j s g,B s g,O s g⟩)
  (hk : ∀ t g,kk t = some r → V P fn R k ⟨n,S t g,B t g,O t g⟩) :
  V P fn R (.code (.block id (.loop (.seq (.region rid ops false) (.seq (.cond tst .skip (.exit id)) rest)))) :: k) ⟨n,s,bx,ob⟩ :=
 fD hT d hei hs S B O E g₀ H h₀ ho hq ht hx round (fun t g e=>hk t g e)
def eL {α : Type} (i m d : Nat) (ety : TypeId) (xs : List α) (rw : α → List PV) (e : Nat → PV) (j : Nat) : Nat → PV := upd (upd (upd e i (.val (.int .i64 (j : Int)))) m (.val (.int .i64 (xs.length : Int)))) d (.list ety (xs.map rw))
theorem V.lpP {α σ γ β : Type} {step : Nat → α → σ → Option (Flow σ Empty)} {xs : List α} {s₀ : σ} {kk : σ → Option (β)} {r : β} {rw : α → List PV}
  (hT : T.Ok P) (i m d : Nat) {e : TypeId} {ei : TInfo}
  (S : σ → γ → Nat → PV) (B : σ → γ → Nat → Option Box) (O : σ → γ → Nat → Option Obj) (g₀ : γ)
  {id rid : Nat} {ops : Array Oper} {o : Oper} {tst : Operand} {rest : Code} {S' : Nat → σ → γ → Nat → PV}
  (H : ah (av step 0 xs s₀) (fun fl=>fl.thenP kk) = some r)
  (round : ∀ fl,fl.thenP kk = some r → ∀ j s g,xs.length ≤ maxLen → j < xs.length → ∀ x fb,xs[j]? = some x → step j x s = some fb → cQ step xs j fl fb →
   V P fn R (.code rest :: .stop (fun st'=>∃ s' g',(j + 1 ≤ xs.length ∧ av step (j + 1) (xs.drop (j + 1)) s' = some fl) ∧ st' = ⟨n,eL i m d e xs rw (S s' g') (j + 1),B s' g',O s' g'⟩) :: .blk id :: .stop (fun st'=>∃ t g,fl = .next t ∧ st' = ⟨n,S t g,B t g,O t g⟩) :: k) ⟨n,S' j s g,B s g,O s g⟩)
  (hk : ∀ t g,kk t = some r → V P fn R k ⟨n,S t g,B t g,O t g⟩)
  (hs : s d = .list e (xs.map rw) := by exact rfl) (hei : T.get e = some ei := by exact rfl) (ho : ops.toList = [o] := by exact rfl)
  (h₀ : Gh P ⟨n,s,bx,ob⟩ ⟨n,eL i m d e xs rw (S s₀ g₀) 0,B s₀ g₀,O s₀ g₀⟩ := by exact Gh.d)
  (hq : ∀ j s g,de T ops n (eL i m d e xs rw (S s g) j) (B s g) o = some (S' j s g) := by exact fun _ _ _=>rfl)
  (ht : ∀ j s g,evS (S' j s g) tst = .val (.bool (decide ((j : Int) < ((xs.length : Nat) : Int)))) := by exact fun _ _ _=>rfl)
  (hx : ∀ j s g,Gh P ⟨n,S' j s g,B s g,O s g⟩ ⟨n,S s g,B s g,O s g⟩ := by exact fun _ _ _=>Gh.d) :
  V P fn R (.code (.block id (.loop (.seq (.region rid ops false) (.seq (.cond tst .skip (.exit id)) rest)))) :: k) ⟨n,s,bx,ob⟩ :=
 fV hT d hei hs S B O (fun e j _ _=>eL i m d _ xs rw e j) g₀ H ho h₀ hq ht hx round hk
theorem fC {α σ γ β : Type} {step : Nat → α → σ → Option (Flow σ β)} {xs : List α} {s₀ : σ} {kk : σ → Option (β)} {r : β} {rw : α → List PV}
  (hT : T.Ok P) (i m d : Nat) {e : TypeId} {ei : TInfo}
  (S : σ → γ → Nat → PV) (B : σ → γ → Nat → Option Box) (O : σ → γ → Nat → Option Obj) (g₀ : γ)
  {id rid : Nat} {ops : Array Oper} {o : Oper} {tst : Operand} {rest : Code} {S' : Nat → σ → γ → Nat → PV}
  (H : ah (av step 0 xs s₀) (fun fl=>fl.thenR kk) = some r)
  (round : ∀ fl,fl.thenR kk = some r → ∀ j s g,xs.length ≤ maxLen → j < xs.length → ∀ x fb,xs[j]? = some x → step j x s = some fb → cQ step xs j fl fb →
   V P fn R (.code rest :: .stop (fun st'=>∃ s' g',(j + 1 ≤ xs.length ∧ av step (j + 1) (xs.drop (j + 1)) s' = some fl) ∧ st' = ⟨n,eL i m d e xs rw (S s' g') (j + 1),B s' g',O s' g'⟩) :: .blk id :: .stop (fun st'=>∃ t g,fl = .next t ∧ st' = ⟨n,S t g,B t g,O t g⟩) :: k) ⟨n,S' j s g,B s g,O s g⟩)
  (hk : ∀ t g,kk t = some r → V P fn R k ⟨n,S t g,B t g,O t g⟩)
  (hs : s d = .list e (xs.map rw) := by exact rfl) (hei : T.get e = some ei := by exact rfl) (ho : ops.toList = [o] := by exact rfl)
  (h₀ : Gh P ⟨n,s,bx,ob⟩ ⟨n,eL i m d e xs rw (S s₀ g₀) 0,B s₀ g₀,O s₀ g₀⟩ := by exact Gh.d)
  (hq : ∀ j s g,de T ops n (eL i m d e xs rw (S s g) j) (B s g) o = some (S' j s g) := by exact fun _ _ _=>rfl)
  (ht : ∀ j s g,evS (S' j s g) tst = .val (.bool (decide ((j : Int) < ((xs.length : Nat) : Int)))) := by exact fun _ _ _=>rfl)
  (hx : ∀ j s g,Gh P ⟨n,S' j s g,B s g,O s g⟩ ⟨n,S s g,B s g,O s g⟩ := by exact fun _ _ _=>Gh.d) :
  V P fn R (.code (.block id (.loop (.seq (.region rid ops false) (.seq (.cond tst .skip (.exit id)) rest)))) :: k) ⟨n,s,bx,ob⟩ :=
 fU hT d hei hs S B O (fun e j _ _=>eL i m d _ xs rw e j) g₀ H ho h₀ hq ht hx round hk
end
def resT (s : Nat → PV) : List ResultVar → Option (List PV)
 | []=>some []
 | .tmp t :: l=>match resT s l with | some ps=>some (s t :: ps) | none=>none
 | .cell _ _ :: _=>none
section
variable {P : Program} {fn : Func} {R : PV → Heap → Prop} {k : List KI} {n : Nat} {s : Nat → PV} {bx : Nat → Option Box} {ob : Nat → Option Obj} {T : TT} {st : PState}
theorem resT_all : ∀ {l : List ResultVar} {ps : List PV},resT s l = some ps → cY T ⟨n,s,bx,ob⟩ l ps
 | [],ps,h=>by simp only [resT,zo] at h; exact h.symm
 | .tmp t :: l,ps,h=>by
  simp only [resT] at h
  split at h
  ·rename_i qs hq; cases h; exact ⟨_,_,rfl,rfl,resT_all hq⟩
  ·cases h
 | .cell _ _ :: _,ps,h=>by simp [resT] at h
theorem V.rE {α : Type} {x y : α} {ps : List PV} {r : PV} (hT : T.Ok P) (H : x = y) (h : resT s fn.results.toList = some ps) (he : x = y → dq ps = r := by intro e; subst e; rfl) :
  V P fn (fun u H=>u = r ∧ H = Heap.empty) (.code .ret :: k) ⟨n,s,bx,ob⟩ := cz hT rfl (resT_all h) (PLe.q (he H))
theorem bV {α : Type} {x y : α} {ps : List PV} {r : PV} (hT : T.Ok P) (H : some x = some y) (h : resT s fn.results.toList = some ps) (he : x = y → dq ps = r := by intro e; subst e; rfl) :
  V P fn (fun u H=>u = r ∧ H = Heap.empty) (.code .ret :: k) ⟨n,s,bx,ob⟩ := V.rE hT (ca H) h he
theorem bO {α σ ρ γ : Type} {step : Nat → α → σ → Option (Flow σ ρ)} {xs : List α} {j : Nat} {res fb : Flow σ ρ} {v : σ} {F : σ → γ → PState} (g' : γ) (H : some (Flow.next v) = some fb) (hl : j < xs.length) (hg : cQ step xs j res fb) (h : Gh P st (F v g') := by exact Gh.d) :
  V P fn R (.stop (fun st'=>∃ s' g',(j + 1 ≤ xs.length ∧ av step (j + 1) (xs.drop (j + 1)) s' = some res) ∧ st' = F s' g') :: k) st := by
 cases H
 exact fT v g' ⟨hl,hg⟩ h
end
def smallI (n : Int) : Option Nat := if n ≤ 2 ^ 62 then some n.toNat else none
theorem smallI_some {n : Int} {m : Nat} (h : smallI n = some m) : n ≤ 2 ^ 62 ∧ m = n.toNat := by
 unfold smallI at h
 split at h
 ·rename_i h0; exact ⟨h0,(Option.some.inj h).symm⟩
 ·cases h
section
variable {P : Program} {ops : Array Oper} {rest : List Oper} {o : Oper} {n : Nat} {s s' : Nat → PV} {bx : Nat → Option Box} {ob : Nat → Option Obj} {K : PState → Prop} {T : TT} {rb : RB} {k : Nat} {L : List Nat}
theorem Ao.cast (d : Nat) {p q : PV} (hs : s d = p) (h : PLe P p q) (hV : Ao P ops rest ⟨n,upd s d q,bx,ob⟩ K) : Ao P ops rest ⟨n,s,bx,ob⟩ K := Ao.gh (Gh.cast d hs h) hV
theorem Ao.lenL (hT : T.Ok P) (hg : al ops s o = some true) {x : Operand} {t : TypeId} {ts : List TypeId} (ho : o.op = .call { callee := .builtin .len,args := #[x],argTypes := (t :: ts).toArray }) {ti : TInfo} {e' : TypeId} (hti : T.get t = some ti) (hd : ti.desc = .slice e')
  {e : TypeId} {rows : List (List PV)} (hx : evS s x = .list e rows) {m : Nat} (hm : rows.length = m) (hp : putD n s o.dst (.val (.int .i64 m)) = some s') (h : Ao P ops rest ⟨n,s',bx,ob⟩ K) : Ao P ops (o :: rest) ⟨n,s,bx,ob⟩ K := by
 refine eo hT hg (r := .val (.int .i64 m)) ?_ hp h
 rw [ho]
 simp [bF,callPV,hti,hd,hx,lenPV,hm]
theorem au {x : Operand} {t : TypeId} {ts : List TypeId} {ti : TInfo} {e' : TypeId} {e : TypeId} {rows : List (List PV)} {m : Nat} (hT : T.Ok P) (hm : rows.length = m) (h : Ao P ops rest ⟨n,s',bx,ob⟩ K) (hg : al ops s o = some true := by exact rfl) (ho : o.op = .call { callee := .builtin .len,args := #[x],argTypes := (t :: ts).toArray } := by exact rfl) (hti : T.get t = some ti := by exact rfl) (hd : ti.desc = .slice e' := by exact rfl) (hx : evS s x = .list e rows := by exact rfl) (hp : putD n s o.dst (.val (.int .i64 m)) = some s' := by exact rfl) : Ao P ops (o :: rest) ⟨n,s,bx,ob⟩ K := Ao.lenL hT hg ho hti hd hx hm hp h
theorem fI (hT : T.Ok P) (hg : al ops s o = some true) {t : TypeId} {x : Operand} {lo hi : Option Operand} (ho : o.op = .slice t x lo hi none) {ti : TInfo} {e : TypeId} (hti : T.get t = some ti) (hd : ti.desc = .slice e)
  {rows : List (List PV)} (hx : evS s x = .list e rows) {m : Nat} (hm : rows.length = m) {a b : Int} (ha : cA (lo.map (evS s)) 0 = some a) (hb : cA (hi.map (evS s)) m = some b) (hab : 0 ≤ a ∧ a ≤ b ∧ b ≤ m)
  {rows' : List (List PV)} (hr : (rows.take b.toNat).drop a.toNat = rows') (hp : putD n s o.dst (.list e rows') = some s') (h : Ao P ops rest ⟨n,s',bx,ob⟩ K) : Ao P ops (o :: rest) ⟨n,s,bx,ob⟩ K := by
 subst hm
 refine eo hT hg (r := .list e rows') ?_ hp h
 rw [ho]
 simp only [bF,hti,hd,hx,eG,Nat.beq_refl,zc,ha,hb]
 rw [zp hab,hr]
theorem cN (ho : ops[k]? = some o) (hg : al ops s o = some true) {t t' : TypeId} {x y : Operand} (hop : o.op = .binOp .add t x y t') {a b : List UInt8} (hx : evS s x = .str a) (hy : evS s y = .str b) (hb : a.length + b.length ≤ aZ) {c : List UInt8} (hc : c = a ++ b)
  (hp : putD n s o.dst (.str c) = some s') (h : Do P T rb ops L ⟨n,s',bx,ob⟩ K) : Do P T rb ops (k :: L) ⟨n,s,bx,ob⟩ K := by
 subst hc
 exact Do.cat ho hg hop hx hy hb hp h
theorem Rep.rowsLe {M : Mem} {b : Bool} {e : TypeId} {rows rows' : List (List PV)} (h : cI P rows rows') {x : Value} (hx : Rep P M b (.list e rows) x) : Rep P M b (.list e rows') x := PLe2.list h M b x hx
theorem eff_appendC (hT : T.Ok P) {o : Oper} {ev : Operand → PV} {H : Heap} {x y : Operand} {t : TypeId} (ho : o.op = .call { callee := .builtin .append,args := #[x,y],argTypes := #[t,t] }) {ti ei : TInfo} {e : TypeId} (hti : T.get t = some ti) (hd : ti.desc = .slice e) (hei : T.get e = some ei)
  (hz : Nat.beq ei.zero.cells.size ei.size = true) (hsz : Nat.blt 0 ei.size = true) {tag : Nat} {g : OwnRef} {len : Nat} {rows rows2 rows2' rows' : List (List PV)} {wr : Bool} (hx : ev x = .own tag g len) (hob : H.ob tag = some ⟨g,e,rows,wr⟩) (hlen : len = rows.length) (hy : ev y = .list e rows2)
  (hle : cI P rows2 rows2') (hby : (rows.length + rows2'.length) * ei.bytes ≤ 2 ^ 47) (hmx : rows.length + rows2'.length ≤ maxLen) (heq : rows ++ rows2' = rows') {K : PV → Heap → Prop} (hk : ∀ g',K (.own tag g' rows'.length) ⟨H.bx,upd H.ob tag (some ⟨g',e,rows',wr⟩)⟩) : Eff P o ev H K := by
 subst heq
 classical
 have hxy : x ≠ y := fun e=>by subst e; rw [hx] at hy; cases hy
 intro C M a w next Q hi he hn
 have key := eff_appendO (P := P) (o := o) (ev := fun z=>if z = y then PV.list e rows2' else ev z) (H := H) hT ho hti hd hei hz hsz (rows2 := rows2') (by simp [hxy,hx]) hob hlen (by simp) hby hmx (K := K) hk
 refine key C M a w next Q hi (fun z hz=>?_) hn
 by_cases hzy : z = y
 ·subst hzy
  simp only [if_true]
  have := he z hz
  rw [hy] at this
  exact Rep.rowsLe hle this
 ·simp only [hzy,if_false]
  exact he z hz
theorem dh (hT : T.Ok P) (hg : al ops s o = some true) {x y : Operand} {t : TypeId} (ho : o.op = .call { callee := .builtin .append,args := #[x,y],argTypes := #[t,t] }) {d : Nat} (hdst : o.dst = some d) (hlt : Nat.blt d n = true) {ti ei : TInfo} {e : TypeId} (hti : T.get t = some ti) (hd : ti.desc = .slice e) (hei : T.get e = some ei)
  (hz : Nat.beq ei.zero.cells.size ei.size = true) (hsz : Nat.blt 0 ei.size = true) {tag : Nat} {g : OwnRef} {len : Nat} {rows rows2 rows2' rows' : List (List PV)} {wr : Bool} (hx : evS s x = .own tag g len) (hob : ob tag = some ⟨g,e,rows,wr⟩) (hlen : len = rows.length) (hy : evS s y = .list e rows2)
  (hle : cI P rows2 rows2') (hby : (rows.length + rows2'.length) * ei.bytes ≤ 2 ^ 47) (hmx : rows.length + rows2'.length ≤ maxLen) (heq : rows ++ rows2' = rows') (h : ∀ g',Ao P ops rest ⟨n,upd s d (.own tag g' rows'.length),bx,upd ob tag (some ⟨g',e,rows',wr⟩)⟩ K) : Ao P ops (o :: rest) ⟨n,s,bx,ob⟩ K :=
 bK hg (eff_appendC hT ho hti hd hei hz hsz hx hob hlen hy hle hby hmx heq fun g'=>⟨_,by simp [hdst,putD,hlt],h g'⟩)
theorem fq (hT : T.Ok P) (hg : al ops s o = some true) {t e : TypeId} {m : Nat} {ps : Array (Nat × Operand)} (ho : o.op = .buildSlice t m ps) {ti : TInfo} (hti : T.get t = some ti) (hd : ti.desc = .slice e) {rows rows' : List (List PV)}
  (hr : ci T e m (ba (evS s) ps) = some rows) (hle : cI P rows rows') {d : Nat} (hdst : o.dst = some d) (hlt : Nat.blt d n = true) (h : Ao P ops rest ⟨n,upd s d (.list e rows'),bx,ob⟩ K) : Ao P ops (o :: rest) ⟨n,s,bx,ob⟩ K := by
 refine Ao.bsF hT hg ho hti hd hr (s' := upd s d (.list e rows)) (by simp [hdst,putD,hlt]) (Ao.cast d (bi _ _ _) (PLe.of2 (PLe2.list hle)) ?_)
 have : upd (upd s d (PV.list e rows)) d (.list e rows') = upd s d (.list e rows') := by
  funext t
  simp only [be]
  split <;> rfl
 rw [this]
 exact h
end
section
variable {P : Program} {fn : Func} {R : PV → Heap → Prop} {ks : List KI} {n : Nat} {s : Nat → PV} {bx : Nat → Option Box} {ob : Nat → Option Obj} {T : TT}
theorem cW.fact {f : FuncId} {args : List PV} {R : PV → Heap → Prop} {Q : Prop} (hq : ∀ M xs,aa P M true args xs → Q) (h : Q → cW P f args R) : cW P f args R :=
 fun w M own hg vs hi ha=>h (hq M _ ha) w M own hg vs hi ha
end
section
variable {P : Program} {C : Ctx} {M : Mem} {H : Heap} {w : World}
theorem InvH.reobj (h : InvH P C M H w) {tag : Nat} {g : OwnRef} {e : TypeId} {rows rows' : List (List PV)} {wr : Bool} (hx : H.ob tag = some ⟨g,e,rows,wr⟩) (hl : rows'.map List.length = rows.map List.length) (hle : cJ P rows.flatten rows'.flatten) :
  InvH P C M ⟨H.bx,upd H.ob tag (some ⟨g,e,rows',wr⟩)⟩ w := by
 have hlen : rows'.length = rows.length := by simpa using congrArg List.length hl
 have key : ∀ t y,upd H.ob tag (some ⟨g,e,rows',wr⟩) t = some y → (t = tag ∧ y = ⟨g,e,rows',wr⟩) ∨ H.ob t = some y := by
  intro t y hy
  rw [be] at hy
  split at hy
  ·rename_i e; exact .inl ⟨e,(Option.some.inj hy).symm⟩
  ·exact .inr hy
 have same : ∀ t y,upd H.ob tag (some ⟨g,e,rows',wr⟩) t = some y → ∃ z,H.ob t = some z ∧ z.g = y.g := by
  intro t y hy
  rcases key t y hy with ⟨rfl,rfl⟩ | hy
  ·exact ⟨_,hx,rfl⟩
  ·exact ⟨y,hy,rfl⟩
 refine ⟨h.mem,h.ext,h.new,h.os,h.tape,h.output,h.size,h.frame,h.boxes,?_,h.dbox,?_,?_⟩
 ·intro t y hy
  rcases key t y hy with ⟨rfl,rfl⟩ | hy
  ·obtain ⟨i,h1,h2,h3,h4⟩ := h.objs _ _ hx
   simp only at h1 h2 h3 h4
   refine ⟨i,h1,?_,?_,?_⟩
   ·simpa only [hlen] using h2
   ·intro r hr
    have : r.length ∈ rows'.map List.length := List.mem_map.2 ⟨r,hr,rfl⟩
    rw [hl] at this
    obtain ⟨q,hq,e1⟩ := List.mem_map.1 this
    rw [← e1]
    exact h3 q hq
   ·rcases h4 with ⟨a,b,c⟩ | ⟨b,cur,h5,h6,h7,h8,h9,h10,h11,h12,h13,h14⟩
    ·refine .inl ⟨a,?_,c⟩
     rw [b] at hlen
     exact List.length_eq_zero_iff.1 hlen
    ·refine .inr ⟨b,cur,h5,h6,h7,h8,?_,h10,?_,?_,h13,?_⟩
     ·simpa only [hlen] using h9
     ·simp only [hlen]; exact hle M false _ h11
     ·simpa only [hlen] using h12
     ·simpa only [hlen] using h14
  ·exact h.objs t y hy
 ·intro t t' y y' b hy hy' hb hb'
  obtain ⟨z,hz,e1⟩ := same t y hy
  obtain ⟨z',hz',e1'⟩ := same t' y' hy'
  exact h.dobj t t' z z' b hz hz' (e1 ▸ hb) (e1' ▸ hb')
 ·intro t t' y y' hy hy' hb
  obtain ⟨z',hz',e1'⟩ := same t' y' hy'
  exact h.dmix t t' y z' hy hz' (e1' ▸ hb)
end
section
variable {P : Program} {ops : Array Oper} {rest : List Oper} {o : Oper} {n : Nat} {s s' : Nat → PV} {bx : Nat → Option Box} {ob : Nat → Option Obj} {K : PState → Prop} {T : TT} {rb : RB} {k : Nat} {L : List Nat}
theorem fX (hT : T.Ok P) (hg : al ops s o = some true) {t t' : TypeId} {x : Operand} (ho : o.op = .binOp .eql t x (.const (.slice none 0 0)) t') {ti : TInfo} {e : TypeId} (hti : T.get t = some ti) (hd : ti.desc = .slice e) {e' : TypeId} {rows : List (List PV)} (hx : evS s x = .list e' rows) {d : Nat} (hdst : o.dst = some d) (hlt : Nat.blt d n = true)
  (h : ∀ b : Bool,(b = true → rows = []) → Ao P ops rest ⟨n,upd s d (.val (.bool b)),bx,ob⟩ K) : Ao P ops (o :: rest) ⟨n,s,bx,ob⟩ K := by
 refine bK hg (fun C M a w next Q hi he hn=>?_)
 have hxr := he x (by rw [ho]; simp [Op.operands])
 rw [show (⟨n,s,bx,ob⟩ : PState).s = s from rfl,hx] at hxr
 simp only [Rep] at hxr
 obtain ⟨ad,c,i,hv,_,_,_,_,hr⟩ := hxr
 have hu := (hT.get hti).und
 rw [hd] at hu
 have hrun : (execOp a.eval o).run P w = .ok (.value (.bool ad.isNone)) w := by
  have h1 := run_equal_slice_nil (P := P) w t e ad rows.length c hu
  have h2 : (eqGuard .eql t x (.const (.slice none 0 0)) (.slice ad rows.length c) (.slice none 0 0)).run P w = .ok () w := by unfold eqGuard; split <;> simp
  simp only [execOp,ho,hv,show a.eval (.const (.slice none 0 0)) = .slice none 0 0 from rfl,Sem.run_bind,h2,Result.andThen_ok,binOp,h1]
  rfl
 unfold Oper.wp
 rw [hrun]
 refine hn _ (.val (.bool ad.isNone)) ⟨bx,ob⟩ M w ⟨_,by simp [hdst,putD,hlt],h ad.isNone fun hb=>?_⟩ (Mem.le_refl M) hi (by simp only [Rep])
 cases rows with
 | nil=>rfl
 | cons r rows =>
  obtain ⟨b,o,e1,_⟩ := hr (by simp)
  rw [e1] at hb
  cases hb
theorem Ao.bsOC (hT : T.Ok P) (hg : al ops s o = some true) {t e : TypeId} {m : Nat} {ps : Array (Nat × Operand)} (ho : o.op = .buildSlice t m ps) {d : Nat} (hdst : o.dst = some d) (hlt : Nat.blt d n = true) {ti : TInfo} (hti : T.get t = some ti) (hd : ti.desc = .slice e) {rows rows' : List (List PV)}
  (hr : ci T e m (ba (evS s) ps) = some rows) (hl : rows'.map List.length = rows.map List.length) (hm : rows.length = m) (hle : cJ P rows.flatten rows'.flatten) (h : ∀ g,Ao P ops rest ⟨n,upd s d (.own d g rows'.length),bx,upd ob d (some ⟨g,e,rows',true⟩)⟩ K) : Ao P ops (o :: rest) ⟨n,s,bx,ob⟩ K := by
 refine Ao.bsO hT hg ho hdst hlt hti hd hr fun g=>?_
 have hlen : rows'.length = m := by rw [← hm]; simpa using congrArg List.length hl
 have h' := h g
 rw [hlen] at h'
 refine Ao.gh (st' := ⟨n,upd s d (.own d g m),bx,upd ob d (some ⟨g,e,rows',true⟩)⟩) ?_ h'
 intro C M a w hi
 refine ⟨M,hi.1,?_⟩
 have := hi.2.reobj (tag := d) (rows' := rows') (bi _ _ _) hl hle
 simp only [PState.heap] at this ⊢
 have e2 : upd (upd ob d (some ⟨g,e,rows,true⟩)) d (some ⟨g,e,rows',true⟩) = upd ob d (some ⟨g,e,rows',true⟩) := by
  funext t
  simp only [be]
  split <;> rfl
 rwa [e2] at this
end
@[simp] theorem bPs {α β : Type} (a : α) (k : α → Option β) : ah (some a) k = k a := rfl
@[simp] theorem bindP_none {α β : Type} (k : α → Option β) : ah none k = none := rfl
@[simp] theorem dR {α β : Type} (a : α) (k : α → β) : letP a k = k a := rfl
@[simp] theorem eT {σ β : Type} (s : σ) (k : σ → Option β) : Flow.thenP (.next s) k = k s := rfl
@[simp] theorem eS {σ ρ : Type} (s : σ) (k : σ → Option ρ) : Flow.thenR (.next s) k = k s := rfl
@[simp] theorem thenR_retS {σ ρ : Type} (r : ρ) (k : σ → Option ρ) : Flow.thenR (.ret r) k = some r := rfl
@[simp] theorem thenF_nextS {σ τ ρ : Type} (s : σ) (k : σ → Option (Flow τ ρ)) : Flow.thenF (.next s) k = k s := rfl
@[simp] theorem thenF_retS {σ τ ρ : Type} (r : ρ) (k : σ → Option (Flow τ ρ)) : Flow.thenF (.ret r) k = some (.ret r) := rfl
theorem appI_ok {α : Type} {bytes : Nat} {xs ys : List α} (h1 : (xs.length + ys.length) * bytes ≤ 2 ^ 47) (h2 : xs.length + ys.length ≤ maxLen) : appI bytes xs ys = some (xs ++ ys) := by
 unfold appI; rw [zp ⟨h1,h2⟩]
theorem dL {α : Type} {xs : List α} {i : Int} {x : α} (h0 : 0 ≤ i) (h : xs[i.toNat]? = some x) : bG xs i = some x := by unfold bG; rw [zp h0,h]
theorem getI_nat {α : Type} {xs : List α} {j : Nat} {x : α} (h : xs[j]? = some x) : bG xs (j : Int) = some x := dL (by omega) (by simpa using h)
theorem subI_ok {α : Type} {xs : List α} {a b : Int} (h : 0 ≤ a ∧ a ≤ b ∧ b ≤ xs.length) : subI xs a b = some ((xs.take b.toNat).drop a.toNat) := by unfold subI; rw [zp h]
theorem cp {a b : List UInt8} (h : a.length + b.length ≤ aZ) : bC a b = some (a ++ b) := by unfold bC; rw [zp h]
theorem smallI_ok {n : Int} (h : n ≤ 2 ^ 62) : smallI n = some n.toNat := by unfold smallI; rw [zp h]
theorem cu {α σ ρ : Type} {step : Nat → α → σ → Option (Flow σ ρ)} (I : Nat → σ → Prop) (Q : ρ → Prop) :
  ∀ (xs : List α) (j : Nat) (s : σ),I j s → (∀ k x s,xs[k]? = some x → I (j + k) s → ∃ fl,step (j + k) x s = some fl ∧ (match fl with | .next s'=>I (j + k + 1) s' | .brk _=>False | .ret r=>Q r)) →
   ∃ fl,av step j xs s = some fl ∧ (match fl with | .next s'=>I (j + xs.length) s' | .brk _=>False | .ret r=>Q r)
 | [],j,s,h,_=>⟨.next s,rfl,by simpa using h⟩
 | x :: xs,j,s,h,hs=>by
  obtain ⟨fl,h1,h2⟩ := hs 0 x s rfl (by simpa using h)
  rw [Nat.add_zero] at h1
  cases fl with
  | next s' =>
   obtain ⟨fl,h3,h4⟩ := cu I Q xs (j + 1) s' (by simpa using h2) (fun k y t hk hI=>by
    obtain ⟨fl,h5,h6⟩ := hs (k + 1) y t (by simpa using hk) (by rw [show j + (k + 1) = j + 1 + k from by omega]; exact hI)
    rw [show j + (k + 1) = j + 1 + k from by omega] at h5 h6
    exact ⟨fl,h5,h6⟩)
   refine ⟨fl,by rw [av,h1]; exact h3,?_⟩
   rw [show j + (x :: xs).length = j + 1 + xs.length from by simp; omega]
   exact h4
  | brk s'=>exact absurd h2 (by simp)
  | ret r=>exact ⟨.ret r,by rw [av,h1],h2⟩
theorem rMa {α σ ρ : Type} {step : Nat → α → σ → Option (Flow σ ρ)} {xs : List α} {s : σ} (S : Nat → σ) (h0 : S 0 = s) (hs : ∀ k x,xs[k]? = some x → step k x (S k) = some (.next (S (k + 1)))) : av step 0 xs s = some (.next (S xs.length)) := by
 subst h0
 obtain ⟨fl,h1,h2⟩ := cu (step := step) (fun j s=>s = S j) (fun _=>False) xs 0 (S 0) rfl (fun k x s hk hI=>by
  simp only [Nat.zero_add] at hI
  subst hI
  exact ⟨_,by rw [Nat.zero_add]; exact hs k x hk,by simp⟩)
 cases fl with
 | next s'=>simp only [Nat.zero_add] at h2; rw [h1,h2]
 | brk s'=>exact absurd h2 (by simp)
 | ret r=>exact absurd h2 (by simp)
theorem rangeM_fold {α σ ρ : Type} {step : Nat → α → σ → Option (Flow σ ρ)} {xs : List α} {s : σ} (g : σ → α → σ) (hs : ∀ k x,xs[k]? = some x → step k x ((xs.take k).foldl g s) = some (.next (g ((xs.take k).foldl g s) x))) :
  av step 0 xs s = some (.next (xs.foldl g s)) := by
 have := rMa (step := step) (xs := xs) (fun k=>(xs.take k).foldl g s) rfl (fun k x hk=>by
  rw [hs k x hk,List.take_add_one,hk,List.foldl_append]
  rfl)
 simpa using this
theorem eW {α ρ : Type} {step : Nat → α → Unit → Option (Flow Unit ρ)} (p : α → Bool) (out : Nat → α → ρ) : ∀ (xs : List α) (j : Nat),(∀ k x,xs[k]? = some x → step (j + k) x () = some (if p x then .ret (out (j + k) x) else .next ())) →
  av step j xs () = some (match xs.findIdx? p with | some i=>(match xs[i]? with | some x=>.ret (out (j + i) x) | none=>.next ()) | none=>.next ())
 | [],j,_=>rfl
 | x :: xs,j,hs=>by
  have h0 := hs 0 x rfl
  rw [Nat.add_zero] at h0
  rw [av,h0,List.findIdx?_cons]
  cases hp : p x with
  | true=>simp
  | false =>
   simp only [Bool.false_eq_true,if_false]
   rw [eW p out xs (j + 1) (fun k y hk=>by
    have := hs (k + 1) y (by simpa using hk)
    rw [show j + (k + 1) = j + 1 + k from by omega] at this
    exact this)]
   cases xs.findIdx? p with
   | none=>simp
   | some i =>
    simp only [Option.map_some,List.getElem?_cons_succ]
    rw [show j + 1 + i = j + (i + 1) from by omega]
mutual
def PV.fits (T : TT) : PV → Prop
 | .str l=>l.length ≤ aZ
 | .list e rows=>rows.length ≤ maxLen ∧ (∀ ti,T.get e = some ti → rows.length * ti.bytes ≤ 2 ^ 47) ∧ fitsR T rows
 | .agg cs=>bJ T cs
 | .tup cs=>bJ T cs
 | .ptr cs=>bJ T cs
 | .fn _ cs=>bJ T cs
 | _=>True
def bJ (T : TT) : List PV → Prop
 | []=>True
 | p :: ps=>p.fits T ∧ bJ T ps
def fitsR (T : TT) : List (List PV) → Prop
 | []=>True
 | r :: rs=>bJ T r ∧ fitsR T rs
end
section
variable {P : Program} {T : TT} {M : Mem}
mutual
theorem Rep.fits (hT : T.Ok P) : ∀ {p : PV} {s : Bool} {x : Value},Rep P M s p x → p.fits T
 | .str l,_,_,h=>by simp only [Rep] at h; simpa only [PV.fits] using h.2
 | .list e rows,_,x,h=>by
  have h' := h
  simp only [Rep] at h
  obtain ⟨a,c,i,_,h1,h2,h3,h4,h5⟩ := h
  simp only [PV.fits]
  refine ⟨by omega,fun ti hti=>?_,?_⟩
  ·obtain ⟨i',h6,_,h7,_⟩ := (hT.get hti).info
   rw [h3] at h6
   cases h6
   rw [← h7]
   exact h4
  ·by_cases hr : rows = []
   ·subst hr; simp [fitsR]
   ·obtain ⟨b,o,_,h6⟩ := h5 hr
    exact aw.fits hT h6
 | .agg cs,_,_,h=>by simp only [Rep] at h; obtain ⟨_,_,h⟩ := h; simpa only [PV.fits] using aa.fits hT h
 | .tup cs,_,_,h=>by simp only [Rep] at h; obtain ⟨_,_,h⟩ := h; simpa only [PV.fits] using aa.fits hT h
 | .ptr cs,_,_,h=>by simp only [Rep] at h; obtain ⟨_,_,_,h⟩ := h; simpa only [PV.fits] using ax.fits hT h
 | .fn _ cs,_,_,h=>by simp only [Rep] at h; obtain ⟨_,_,h⟩ := h; simpa only [PV.fits] using aa.fits hT h
 | .any,_,_,_=>by simp only [PV.fits]
 | .val _,_,_,_=>by simp only [PV.fits]
 | .box ..,_,_,_=>by simp only [PV.fits]
 | .own ..,_,_,_=>by simp only [PV.fits]
 | .optr ..,_,_,_=>by simp only [PV.fits]
 | .err _,_,_,_=>by simp only [PV.fits]
theorem aa.fits (hT : T.Ok P) : ∀ {ps : List PV} {s : Bool} {xs : List Value},aa P M s ps xs → bJ T ps
 | [],_,_,_=>by simp only [bJ]
 | p :: ps,_,_,h=>by
  simp only [aa] at h
  obtain ⟨x,xs,_,h1,h2⟩ := h
  simp only [bJ]
  exact ⟨Rep.fits hT h1,aa.fits hT h2⟩
theorem ax.fits (hT : T.Ok P) : ∀ {ps : List PV} {b o : Nat},ax P M b o ps → bJ T ps
 | [],_,_,_=>by simp only [bJ]
 | p :: ps,_,_,h=>by
  simp only [ax] at h
  obtain ⟨⟨x,_,_,h1⟩,h2⟩ := h
  simp only [bJ]
  exact ⟨Rep.fits hT h1,ax.fits hT h2⟩
theorem aw.fits (hT : T.Ok P) : ∀ {rs : List (List PV)} {k b o : Nat},aw P M k b o rs → fitsR T rs
 | [],_,_,_,_=>by simp only [fitsR]
 | r :: rs,_,_,_,h=>by
  simp only [aw] at h
  simp only [fitsR]
  exact ⟨ax.fits hT h.2.1,aw.fits hT h.2.2⟩
end
end
theorem cW.fits {P : Program} {T : TT} (hT : T.Ok P) {f : FuncId} {args : List PV} {R : PV → Heap → Prop} (h : bJ T args → cW P f args R) : cW P f args R :=
 cW.fact (fun _ _ hr=>aa.fits hT hr) h
def guardO {α : Type} (p : Prop) [Decidable p] (a : α) : Option α := if p then some a else none
theorem guardO_some {α : Type} {p : Prop} [Decidable p] {a b : α} (h : guardO p a = some b) : p ∧ a = b := by
 unfold guardO at h
 split at h
 ·rename_i hp; exact ⟨hp,Option.some.inj h⟩
 ·cases h
@[simp] theorem guardO_pos {α : Type} {p : Prop} [Decidable p] {a : α} (h : p) : guardO p a = some a := by unfold guardO; rw [zp h]
end
end Go.Ab

namespace Go.Ab
noncomputable section
open Go.Proofs
def tS (d : TypeDesc) : TInfo := ⟨d,1,24,.slice none 0 0,[]⟩
def tP (d : TypeDesc) : TInfo := ⟨d,1,8,.pointer none,[]⟩
def tF (d : TypeDesc) : TInfo := ⟨d,1,8,.nilFunc,[]⟩
theorem tO {P : Program} {k : Nat} {v : TInfo} (i : TypeInfo) (h : P.info? k = some i) (e : (i.size,i.bytes,i.zero,v.eqf) = (v.size,v.bytes,some v.zero,[])) (u : P.underlying k = some v.desc) : v.Ok P k := by
 simp only [Prod.mk.injEq] at e
 exact ⟨⟨i,h,e.1,e.2.1,e.2.2.1⟩,u,fun hn=>absurd e.2.2.2 hn⟩
def ti34 : TInfo := ⟨Tryz.t33.desc,3,32,.agg #[.int .i64 0,.int .i64 0,.string ⟨#[]⟩],[(3,0),(3,1),(9,2)]⟩
def ti37 : TInfo := ⟨Tryz.t36.desc,3,32,.agg #[.string ⟨#[]⟩,.int .i64 0,.bool false],[(9,0),(3,1),(4,2)]⟩
def ti90 : TInfo := ⟨Tryz.t89.desc,1,8,.agg #[.int .i64 0],[(3,0)]⟩
def ti105 : TInfo := ⟨Tryz.t104.desc,4,40,.agg #[.int .i64 0,.string ⟨#[]⟩,.int .i64 0,.int .i64 0],[(3,0),(9,1),(3,2),(3,3)]⟩
def ti242 : TInfo := ⟨Tryz.t241.desc,1,16,.agg #[.string ⟨#[]⟩],[(9,0)]⟩
theorem ti34_ok : ti34.Ok Tryz.prog 34 := ⟨⟨Tryz.t34,by kernel_rfl,rfl,rfl,rfl⟩,Tryz.underlying34,fun _=>⟨Tryz.stoodInHeld34,Tryz.eqGuardType34,by simp [aG,Program.fieldsOf,Tryz.underlying34,ti34],by kernel_rfl⟩⟩
theorem ti37_ok : ti37.Ok Tryz.prog 37 := ⟨⟨Tryz.t37,by kernel_rfl,rfl,rfl,rfl⟩,Tryz.underlying37,fun _=>⟨Tryz.stoodInHeld37,Tryz.eqGuardType37,by simp [aG,Program.fieldsOf,Tryz.underlying37,ti37],by kernel_rfl⟩⟩
theorem ti90_ok : ti90.Ok Tryz.prog 90 := ⟨⟨Tryz.t90,by kernel_rfl,rfl,rfl,rfl⟩,Tryz.underlying90,fun _=>⟨Tryz.stoodInHeld90,Tryz.eqGuardType90,by simp [aG,Program.fieldsOf,Tryz.underlying90,ti90],by kernel_rfl⟩⟩
theorem ti105_ok : ti105.Ok Tryz.prog 105 := ⟨⟨Tryz.t105,by kernel_rfl,rfl,rfl,rfl⟩,Tryz.underlying105,fun _=>⟨Tryz.stoodInHeld105,Tryz.eqGuardType105,by simp [aG,Program.fieldsOf,Tryz.underlying105,ti105],by kernel_rfl⟩⟩
theorem ti242_ok : ti242.Ok Tryz.prog 242 := ⟨⟨Tryz.t242,by kernel_rfl,rfl,rfl,rfl⟩,Tryz.underlying242,fun _=>⟨Tryz.stoodInHeld242,Tryz.eqGuardType242,by simp [aG,Program.fieldsOf,Tryz.underlying242,ti242],by kernel_rfl⟩⟩
def tt : TT := (.node 90 ti90 (.node 43 (tS Tryz.t43.desc) (.node 25 ⟨Tryz.t24.desc,4,64,.agg #[.slice none 0 0,.slice none 0 0,.bool false,.int .i64 0],[]⟩ (.node 9 ⟨Tryz.t9.desc,1,16,.string ⟨#[]⟩,[]⟩ (.node 3 ⟨Tryz.t3.desc,1,8,.int .i64 0,[]⟩ (.node 2 ⟨Tryz.t2.desc,1,8,.int .i64 0,[]⟩ (.node 1 (tF Tryz.t1.desc) .leaf .leaf) .leaf) (.node 5 ⟨Tryz.t5.desc,1,1,.int .u8 0,[]⟩ (.node 4 ⟨Tryz.t4.desc,1,1,.bool false,[]⟩ .leaf .leaf) .leaf)) (.node 22 (tS Tryz.t22.desc) (.node 21 ⟨Tryz.t21.desc,1,4,.int .i32 0,[]⟩ (.node 20 ⟨Tryz.t20.desc,1,16,.nilIface,[]⟩ .leaf .leaf) .leaf) (.node 24 ⟨Tryz.t24.desc,4,64,.agg #[.slice none 0 0,.slice none 0 0,.bool false,.int .i64 0],[]⟩ (.node 23 (tS Tryz.t23.desc) .leaf .leaf) .leaf))) (.node 34 ti34 (.node 30 (tS Tryz.t30.desc) (.node 27 ⟨Tryz.t3.desc,1,8,.int .i64 0,[]⟩ (.node 26 (tF Tryz.t26.desc) .leaf .leaf) .leaf) (.node 32 (tF Tryz.t32.desc) (.node 31 (tS Tryz.t30.desc) .leaf .leaf) .leaf)) (.node 40 ⟨Tryz.t39.desc,3,64,.agg #[.string ⟨#[]⟩,.slice none 0 0,.slice none 0 0],[]⟩ (.node 38 (tS Tryz.t38.desc) (.node 37 ti37 .leaf .leaf) .leaf) (.node 42 (tS Tryz.t42.desc) (.node 41 (tS Tryz.t41.desc) .leaf .leaf) .leaf)))) (.node 57 ⟨Tryz.t56.desc,9,160,.agg #[.int .i64 0,.string ⟨#[]⟩,.slice none 0 0,.slice none 0 0,.slice none 0 0,.slice none 0 0,.int .i64 0,.int .i64 0,.slice none 0 0],[]⟩ (.node 50 (tS Tryz.t49.desc) (.node 46 (tF Tryz.t46.desc) (.node 45 ⟨Tryz.t44.desc,3,72,.agg #[.slice none 0 0,.slice none 0 0,.slice none 0 0],[]⟩ (.node 44 ⟨Tryz.t44.desc,3,72,.agg #[.slice none 0 0,.slice none 0 0,.slice none 0 0],[]⟩ .leaf .leaf) .leaf) (.node 49 (tS Tryz.t49.desc) (.node 48 ⟨Tryz.t47.desc,2,40,.agg #[.string ⟨#[]⟩,.slice none 0 0],[]⟩ .leaf .leaf) .leaf)) (.node 53 (tS Tryz.t53.desc) (.node 52 (tS Tryz.t52.desc) (.node 51 (tS Tryz.t51.desc) .leaf .leaf) .leaf) (.node 55 (tS Tryz.t55.desc) (.node 54 (tS Tryz.t54.desc) .leaf .leaf) .leaf))) (.node 80 (tS Tryz.t80.desc) (.node 66 ⟨Tryz.t66.desc,1,8,.map none,[]⟩ (.node 65 (tF Tryz.t65.desc) (.node 61 ⟨Tryz.t60.desc,2,48,.agg #[.slice none 0 0,.slice none 0 0],[]⟩ .leaf .leaf) .leaf) (.node 79 ⟨Tryz.t79.desc,2,48,.agg #[.slice none 0 0,.slice none 0 0],[]⟩ (.node 71 (tP Tryz.t71.desc) .leaf .leaf) .leaf)) (.node 87 ⟨Tryz.t87.desc,3,40,.agg #[.slice none 0 0,.int .i64 0,.int .i64 0],[]⟩ (.node 84 (tS Tryz.t84.desc) (.node 82 (tF Tryz.t82.desc) .leaf .leaf) .leaf) (.node 88 ⟨Tryz.t87.desc,3,40,.agg #[.slice none 0 0,.int .i64 0,.int .i64 0],[]⟩ .leaf .leaf))))) (.node 169 ⟨Tryz.t169.desc,1,8,.int .u64 0,[]⟩ (.node 125 (tF Tryz.t125.desc) (.node 110 ⟨Tryz.t109.desc,7,88,.agg #[.int .i64 0,.string ⟨#[]⟩,.int .i64 0,.int .i64 0,.int .i64 0,.string ⟨#[]⟩,.slice none 0 0],[]⟩ (.node 101 ⟨Tryz.t100.desc,8,192,.agg #[.slice none 0 0,.slice none 0 0,.slice none 0 0,.slice none 0 0,.slice none 0 0,.slice none 0 0,.slice none 0 0,.slice none 0 0],[]⟩ (.node 100 ⟨Tryz.t100.desc,8,192,.agg #[.slice none 0 0,.slice none 0 0,.slice none 0 0,.slice none 0 0,.slice none 0 0,.slice none 0 0,.slice none 0 0,.slice none 0 0],[]⟩ (.node 97 (tF Tryz.t97.desc) .leaf .leaf) .leaf) (.node 105 ti105 (.node 103 (tF Tryz.t103.desc) .leaf .leaf) .leaf)) (.node 121 ⟨Tryz.t120.desc,4,96,.agg #[.slice none 0 0,.slice none 0 0,.slice none 0 0,.slice none 0 0],[]⟩ (.node 119 (tF Tryz.t119.desc) (.node 114 (tP Tryz.t114.desc) .leaf .leaf) .leaf) (.node 123 (tF Tryz.t123.desc) (.node 122 (tF Tryz.t122.desc) .leaf .leaf) .leaf))) (.node 155 (tF Tryz.t155.desc) (.node 149 ⟨Tryz.t149.desc,8,8,.agg #[.bool false,.bool false,.bool false,.bool false,.bool false,.bool false,.bool false,.bool false],[]⟩ (.node 146 ⟨Tryz.t145.desc,3,56,.agg #[.string ⟨#[]⟩,.string ⟨#[]⟩,.slice none 0 0],[]⟩ (.node 133 ⟨Tryz.t132.desc,5,120,.agg #[.slice none 0 0,.slice none 0 0,.slice none 0 0,.slice none 0 0,.slice none 0 0],[]⟩ .leaf .leaf) .leaf) (.node 152 (tS Tryz.t152.desc) (.node 150 (tF Tryz.t150.desc) .leaf .leaf) .leaf)) (.node 164 (tS Tryz.t164.desc) (.node 157 (tF Tryz.t157.desc) (.node 156 (tF Tryz.t156.desc) .leaf .leaf) .leaf) (.node 168 ⟨Tryz.t168.desc,24,24,.agg #[.int .u8 0,.int .u8 0,.int .u8 0,.int .u8 0,.int .u8 0,.int .u8 0,.int .u8 0,.int .u8 0,.int .u8 0,.int .u8 0,.int .u8 0,.int .u8 0,.int .u8 0,.int .u8 0,.int .u8 0,.int .u8 0,.int .u8 0,.int .u8 0,.int .u8 0,.int .u8 0,.int .u8 0,.int .u8 0,.int .u8 0,.int .u8 0],[]⟩ .leaf .leaf)))) (.node 217 ⟨Tryz.t3.desc,1,8,.int .i64 0,[]⟩ (.node 185 (tF Tryz.t185.desc) (.node 178 (tF Tryz.t178.desc) (.node 176 ⟨Tryz.t175.desc,1,16,.nilIface,[]⟩ (.node 172 (tS Tryz.t172.desc) .leaf .leaf) .leaf) (.node 183 (tF Tryz.t183.desc) (.node 180 (tF Tryz.t180.desc) .leaf .leaf) .leaf)) (.node 204 (tF Tryz.t204.desc) (.node 202 ⟨Tryz.t202.desc,1,4,.int .u32 0,[]⟩ (.node 201 ⟨Tryz.t201.desc,20,160,.agg #[.int .u64 0,.int .u64 0,.int .u64 0,.int .u64 0,.int .u64 0,.int .u64 0,.int .u64 0,.int .u64 0,.int .u64 0,.int .u64 0,.int .u64 0,.int .u64 0,.int .u64 0,.int .u64 0,.int .u64 0,.int .u64 0,.int .u64 0,.int .u64 0,.int .u64 0,.int .u64 0],[]⟩ .leaf .leaf) .leaf) (.node 211 (tF Tryz.t211.desc) (.node 205 ⟨Tryz.t205.desc,1,8,.int .u64 0,[]⟩ .leaf .leaf) .leaf))) (.node 239 (tP Tryz.t239.desc) (.node 228 ⟨Tryz.t228.desc,64,64,.agg #[.int .u8 0,.int .u8 0,.int .u8 0,.int .u8 0,.int .u8 0,.int .u8 0,.int .u8 0,.int .u8 0,.int .u8 0,.int .u8 0,.int .u8 0,.int .u8 0,.int .u8 0,.int .u8 0,.int .u8 0,.int .u8 0,.int .u8 0,.int .u8 0,.int .u8 0,.int .u8 0,.int .u8 0,.int .u8 0,.int .u8 0,.int .u8 0,.int .u8 0,.int .u8 0,.int .u8 0,.int .u8 0,.int .u8 0,.int .u8 0,.int .u8 0,.int .u8 0,.int .u8 0,.int .u8 0,.int .u8 0,.int .u8 0,.int .u8 0,.int .u8 0,.int .u8 0,.int .u8 0,.int .u8 0,.int .u8 0,.int .u8 0,.int .u8 0,.int .u8 0,.int .u8 0,.int .u8 0,.int .u8 0,.int .u8 0,.int .u8 0,.int .u8 0,.int .u8 0,.int .u8 0,.int .u8 0,.int .u8 0,.int .u8 0,.int .u8 0,.int .u8 0,.int .u8 0,.int .u8 0,.int .u8 0,.int .u8 0,.int .u8 0,.int .u8 0],[]⟩ (.node 227 ⟨Tryz.t227.desc,32,32,.agg #[.int .u8 0,.int .u8 0,.int .u8 0,.int .u8 0,.int .u8 0,.int .u8 0,.int .u8 0,.int .u8 0,.int .u8 0,.int .u8 0,.int .u8 0,.int .u8 0,.int .u8 0,.int .u8 0,.int .u8 0,.int .u8 0,.int .u8 0,.int .u8 0,.int .u8 0,.int .u8 0,.int .u8 0,.int .u8 0,.int .u8 0,.int .u8 0,.int .u8 0,.int .u8 0,.int .u8 0,.int .u8 0,.int .u8 0,.int .u8 0,.int .u8 0,.int .u8 0],[]⟩ (.node 220 (tP Tryz.t220.desc) .leaf .leaf) .leaf) (.node 236 (tF Tryz.t236.desc) (.node 233 ⟨Tryz.t232.desc,3,48,.agg #[.string ⟨#[]⟩,.string ⟨#[]⟩,.nilIface],[]⟩ .leaf .leaf) .leaf)) (.node 257 ⟨Tryz.t256.desc,3,56,.agg #[.string ⟨#[]⟩,.slice none 0 0,.string ⟨#[]⟩],[]⟩ (.node 242 ti242 (.node 240 (tP Tryz.t240.desc) .leaf .leaf) .leaf) (.node 259 ⟨Tryz.t258.desc,7,80,.agg #[.string ⟨#[]⟩,.int .i64 0,.string ⟨#[]⟩,.int .i64 0,.int .i64 0,.int .i64 0,.string ⟨#[]⟩],[]⟩ .leaf .leaf))))))
theorem tk : tt.Ok Tryz.prog := ⟨ti90_ok,⟨tO Tryz.t43 (by kernel_rfl) rfl Tryz.underlying43,⟨tO Tryz.t25 (by kernel_rfl) rfl Tryz.underlying25,⟨tO Tryz.t9 (by kernel_rfl) rfl Tryz.underlying9,⟨tO Tryz.t3 (by kernel_rfl) rfl Tryz.underlying3,⟨tO Tryz.t2 (by kernel_rfl) rfl Tryz.underlying2,⟨tO Tryz.t1 (by kernel_rfl) rfl Tryz.underlying1,trivial,trivial⟩,trivial⟩,⟨tO Tryz.t5 (by kernel_rfl) rfl Tryz.underlying5,⟨tO Tryz.t4 (by kernel_rfl) rfl Tryz.underlying4,trivial,trivial⟩,trivial⟩⟩,⟨tO Tryz.t22 (by kernel_rfl) rfl Tryz.underlying22,⟨tO Tryz.t21 (by kernel_rfl) rfl Tryz.underlying21,⟨tO Tryz.t20 (by kernel_rfl) rfl Tryz.underlying20,trivial,trivial⟩,trivial⟩,⟨tO Tryz.t24 (by kernel_rfl) rfl Tryz.underlying24,⟨tO Tryz.t23 (by kernel_rfl) rfl Tryz.underlying23,trivial,trivial⟩,trivial⟩⟩⟩,⟨ti34_ok,⟨tO Tryz.t30 (by kernel_rfl) rfl Tryz.underlying30,⟨tO Tryz.t27 (by kernel_rfl) rfl Tryz.underlying27,⟨tO Tryz.t26 (by kernel_rfl) rfl Tryz.underlying26,trivial,trivial⟩,trivial⟩,⟨tO Tryz.t32 (by kernel_rfl) rfl Tryz.underlying32,⟨tO Tryz.t31 (by kernel_rfl) rfl Tryz.underlying31,trivial,trivial⟩,trivial⟩⟩,⟨tO Tryz.t40 (by kernel_rfl) rfl Tryz.underlying40,⟨tO Tryz.t38 (by kernel_rfl) rfl Tryz.underlying38,⟨ti37_ok,trivial,trivial⟩,trivial⟩,⟨tO Tryz.t42 (by kernel_rfl) rfl Tryz.underlying42,⟨tO Tryz.t41 (by kernel_rfl) rfl Tryz.underlying41,trivial,trivial⟩,trivial⟩⟩⟩⟩,⟨tO Tryz.t57 (by kernel_rfl) rfl Tryz.underlying57,⟨tO Tryz.t50 (by kernel_rfl) rfl Tryz.underlying50,⟨tO Tryz.t46 (by kernel_rfl) rfl Tryz.underlying46,⟨tO Tryz.t45 (by kernel_rfl) rfl Tryz.underlying45,⟨tO Tryz.t44 (by kernel_rfl) rfl Tryz.underlying44,trivial,trivial⟩,trivial⟩,⟨tO Tryz.t49 (by kernel_rfl) rfl Tryz.underlying49,⟨tO Tryz.t48 (by kernel_rfl) rfl Tryz.underlying48,trivial,trivial⟩,trivial⟩⟩,⟨tO Tryz.t53 (by kernel_rfl) rfl Tryz.underlying53,⟨tO Tryz.t52 (by kernel_rfl) rfl Tryz.underlying52,⟨tO Tryz.t51 (by kernel_rfl) rfl Tryz.underlying51,trivial,trivial⟩,trivial⟩,⟨tO Tryz.t55 (by kernel_rfl) rfl Tryz.underlying55,⟨tO Tryz.t54 (by kernel_rfl) rfl Tryz.underlying54,trivial,trivial⟩,trivial⟩⟩⟩,⟨tO Tryz.t80 (by kernel_rfl) rfl Tryz.underlying80,⟨tO Tryz.t66 (by kernel_rfl) rfl Tryz.underlying66,⟨tO Tryz.t65 (by kernel_rfl) rfl Tryz.underlying65,⟨tO Tryz.t61 (by kernel_rfl) rfl Tryz.underlying61,trivial,trivial⟩,trivial⟩,⟨tO Tryz.t79 (by kernel_rfl) rfl Tryz.underlying79,⟨tO Tryz.t71 (by kernel_rfl) rfl Tryz.underlying71,trivial,trivial⟩,trivial⟩⟩,⟨tO Tryz.t87 (by kernel_rfl) rfl Tryz.underlying87,⟨tO Tryz.t84 (by kernel_rfl) rfl Tryz.underlying84,⟨tO Tryz.t82 (by kernel_rfl) rfl Tryz.underlying82,trivial,trivial⟩,trivial⟩,⟨tO Tryz.t88 (by kernel_rfl) rfl Tryz.underlying88,trivial,trivial⟩⟩⟩⟩⟩,⟨tO Tryz.t169 (by kernel_rfl) rfl Tryz.underlying169,⟨tO Tryz.t125 (by kernel_rfl) rfl Tryz.underlying125,⟨tO Tryz.t110 (by kernel_rfl) rfl Tryz.underlying110,⟨tO Tryz.t101 (by kernel_rfl) rfl Tryz.underlying101,⟨tO Tryz.t100 (by kernel_rfl) rfl Tryz.underlying100,⟨tO Tryz.t97 (by kernel_rfl) rfl Tryz.underlying97,trivial,trivial⟩,trivial⟩,⟨ti105_ok,⟨tO Tryz.t103 (by kernel_rfl) rfl Tryz.underlying103,trivial,trivial⟩,trivial⟩⟩,⟨tO Tryz.t121 (by kernel_rfl) rfl Tryz.underlying121,⟨tO Tryz.t119 (by kernel_rfl) rfl Tryz.underlying119,⟨tO Tryz.t114 (by kernel_rfl) rfl Tryz.underlying114,trivial,trivial⟩,trivial⟩,⟨tO Tryz.t123 (by kernel_rfl) rfl Tryz.underlying123,⟨tO Tryz.t122 (by kernel_rfl) rfl Tryz.underlying122,trivial,trivial⟩,trivial⟩⟩⟩,⟨tO Tryz.t155 (by kernel_rfl) rfl Tryz.underlying155,⟨tO Tryz.t149 (by kernel_rfl) rfl Tryz.underlying149,⟨tO Tryz.t146 (by kernel_rfl) rfl Tryz.underlying146,⟨tO Tryz.t133 (by kernel_rfl) rfl Tryz.underlying133,trivial,trivial⟩,trivial⟩,⟨tO Tryz.t152 (by kernel_rfl) rfl Tryz.underlying152,⟨tO Tryz.t150 (by kernel_rfl) rfl Tryz.underlying150,trivial,trivial⟩,trivial⟩⟩,⟨tO Tryz.t164 (by kernel_rfl) rfl Tryz.underlying164,⟨tO Tryz.t157 (by kernel_rfl) rfl Tryz.underlying157,⟨tO Tryz.t156 (by kernel_rfl) rfl Tryz.underlying156,trivial,trivial⟩,trivial⟩,⟨tO Tryz.t168 (by kernel_rfl) rfl Tryz.underlying168,trivial,trivial⟩⟩⟩⟩,⟨tO Tryz.t217 (by kernel_rfl) rfl Tryz.underlying217,⟨tO Tryz.t185 (by kernel_rfl) rfl Tryz.underlying185,⟨tO Tryz.t178 (by kernel_rfl) rfl Tryz.underlying178,⟨tO Tryz.t176 (by kernel_rfl) rfl Tryz.underlying176,⟨tO Tryz.t172 (by kernel_rfl) rfl Tryz.underlying172,trivial,trivial⟩,trivial⟩,⟨tO Tryz.t183 (by kernel_rfl) rfl Tryz.underlying183,⟨tO Tryz.t180 (by kernel_rfl) rfl Tryz.underlying180,trivial,trivial⟩,trivial⟩⟩,⟨tO Tryz.t204 (by kernel_rfl) rfl Tryz.underlying204,⟨tO Tryz.t202 (by kernel_rfl) rfl Tryz.underlying202,⟨tO Tryz.t201 (by kernel_rfl) rfl Tryz.underlying201,trivial,trivial⟩,trivial⟩,⟨tO Tryz.t211 (by kernel_rfl) rfl Tryz.underlying211,⟨tO Tryz.t205 (by kernel_rfl) rfl Tryz.underlying205,trivial,trivial⟩,trivial⟩⟩⟩,⟨tO Tryz.t239 (by kernel_rfl) rfl Tryz.underlying239,⟨tO Tryz.t228 (by kernel_rfl) rfl Tryz.underlying228,⟨tO Tryz.t227 (by kernel_rfl) rfl Tryz.underlying227,⟨tO Tryz.t220 (by kernel_rfl) rfl Tryz.underlying220,trivial,trivial⟩,trivial⟩,⟨tO Tryz.t236 (by kernel_rfl) rfl Tryz.underlying236,⟨tO Tryz.t233 (by kernel_rfl) rfl Tryz.underlying233,trivial,trivial⟩,trivial⟩⟩,⟨tO Tryz.t257 (by kernel_rfl) rfl Tryz.underlying257,⟨ti242_ok,⟨tO Tryz.t240 (by kernel_rfl) rfl Tryz.underlying240,trivial,trivial⟩,trivial⟩,⟨tO Tryz.t259 (by kernel_rfl) rfl Tryz.underlying259,trivial,trivial⟩⟩⟩⟩⟩⟩
end
end Go.Ab


namespace Go.Proofs.YtgdlccbnofmkgaaGreatDoor
noncomputable section
open Go Go.Ab
theorem mok : Tryz.prog.follows .mixedOrders = true := by kernel_rfl
abbrev aL (n : Int) : PV := .val (.int .i64 n)
abbrev aK (b : Bool) : PV := .val (.bool b)
structure LVal where
 kind : Int
 int : Int
 text : List UInt8
 deriving DecidableEq
structure LCol where
 name : List UInt8
 kind : Int
 nullable : Bool
 deriving DecidableEq
structure LEnv where
 cols : List LCol
 row : List LVal
 params : List LVal
 vnames : List (List UInt8)
 vvals : List LVal
@[simp] def ab (v : LVal) : List PV := [aL v.kind,aL v.int,.str v.text]
@[simp] def encCol (c : LCol) : List PV := [.str c.name,aL c.kind,aK c.nullable]
abbrev pvals (l : List LVal) : PV := .list 34 (l.map ab)
abbrev pcols (l : List LCol) : PV := .list 37 (l.map encCol)
abbrev pstrs (l : List (List UInt8)) : PV := .list 9 (l.map fun s=>[.str s])
@[simp] def encEnv (v : LEnv) : List PV := [pcols v.cols,pvals v.row,pvals v.params,pstrs v.vnames,pvals v.vvals]
def idxOf {α : Type} (p : α → Bool) (l : List α) : Int := match l.findIdx? p with
 | some i=>i
 | none=>-1
theorem eN {n : Int} (h1 : -9223372036854775808 ≤ n) (h2 : n ≤ 9223372036854775807) : IntKind.i64.wrap n = n := by
 simp only [IntKind.wrap,IntKind.bits,IntKind.signed]
 simp
 omega
theorem pint_succ {j : Nat} (h : j < maxLen) : aL (IntKind.i64.wrap ((j : Int) + 1)) = aL ((j + 1 : Nat) : Int) := by
 rw [eN (by omega) (by simp [maxLen] at h; omega)]
 simp
theorem idxOf_any {α : Type} {p : α → Bool} {l : List α} : (decide (idxOf p l ≥ 0)) = l.any p := by
 rw [Bool.eq_iff_iff]
 simp only [decide_eq_true_eq,List.any_eq_true]
 cases h : l.findIdx? p with
 | none =>
  have e : idxOf p l = -1 := by simp [idxOf,h]
  rw [List.findIdx?_eq_none_iff] at h
  rw [e]
  constructor
  ·intro h'; omega
  ·rintro ⟨x,hx,hp⟩; rw [h x hx] at hp; cases hp
 | some i =>
  have e : idxOf p l = (i : Int) := by simp [idxOf,h]
  rw [List.findIdx?_eq_some_iff_getElem] at h
  rw [e]
  exact ⟨fun _=>⟨_,List.getElem_mem h.1,h.2.1⟩,fun _=>by omega⟩
abbrev Rq := List LVal
abbrev Rz := List (List LVal)
abbrev rInt : Int → List PV := fun n=>[aL n]
abbrev ar {α : Type} (e : TypeId) (f : α → List PV) : List α → List PV := fun l=>[.list e (l.map f)]
theorem natLt {n : Int} {m j : Nat} (hm : n ≤ 2 ^ 62 ∧ m = n.toNat) (h : decide ((j : Int) < n) = true) : j < (List.range m).length := by
 have := of_decide_eq_true h
 simp
 omega
theorem natGe {n : Int} {m j : Nat} (hm : n ≤ 2 ^ 62 ∧ m = n.toNat) (h : decide ((j : Int) < n) = false) : (List.range m).length ≤ j := by
 have := of_decide_eq_false h
 simp
 omega
theorem natX {m j x : Nat} (h : (List.range m)[j]? = some x) : j = x := by
 have := zg.1 h
 obtain ⟨h1,h2⟩ := this
 simpa using h2
theorem pint_succN {n : Int} {m j : Nat} (hm : n ≤ 2 ^ 62 ∧ m = n.toNat) (h : j < (List.range m).length) : aL (IntKind.i64.wrap ((j : Int) + 1)) = aL ((j + 1 : Nat) : Int) := by
 rw [eN (by omega) (by simp at h; omega)]
 simp
structure LJoinalgoCondition where
 left : List Int
 right : List Int
 outer : Bool
 rightWidth : Int
 deriving DecidableEq
@[simp] def af (x : LJoinalgoCondition) : List PV := [(.list 3 (x.left.map rInt)),(.list 3 (x.right.map rInt)),(aK x.outer),(aL x.rightWidth)]
structure LAnon79 where
 rows : Rz
 atF : List Int
 deriving DecidableEq
@[simp] def cX (x : LAnon79) : List PV := [(.list 31 (x.rows.map (ar 34 ab))),(.list 3 (x.atF.map rInt))]
end
end Go.Proofs.YtgdlccbnofmkgaaGreatDoor

namespace Go.Ab
noncomputable section
section
variable {P : Program} {C : Ctx} {M : Mem} {H : Heap} {w : World}
theorem freeze_new (w : World) (cs : Array Value) (e : TypeId) (n : Nat) : (w.alloc (.cells cs e)).freeze ⟨w.heap.size,n,none⟩ 1 = w.alloc (.cells cs e (n,n + 1)) := by
 unfold World.freeze World.alloc
 simp only [Nat.one_ne_zero,if_false]
 congr 1
 apply Array.ext
 ·simp
 ·intro i h1 h2
  rw [Array.getElem_modify]
  split
  ·rename_i hi
   subst hi
   simp
  ·rename_i hi
   have : i < w.heap.size := by simp at h2; omega
   simp [Array.getElem_push,this]
end
section
variable {P : Program} {ops : Array Oper} {rest : List Oper} {o : Oper} {n : Nat} {s s' : Nat → PV} {bx : Nat → Option Box} {ob : Nat → Option Obj} {K : PState → Prop} {T : TT} {rb : RB} {k : Nat} {L : List Nat}
end
end
end Go.Ab

namespace Go.Ab
noncomputable section
open Go Go.RowKit
def mfind {β : Type} : List (List UInt8 × β) → List UInt8 → Option β
 | [],_=>none
 | e :: m,k=>if e.1 = k then some e.2 else mfind m k
def mget {β : Type} (d : β) (m : List (List UInt8 × β)) (k : List UInt8) : β := (mfind m k).getD d
def cO {β : Type} : List (List UInt8 × β) → List UInt8 → β → List (List UInt8 × β)
 | [],k,v=>[(k,v)]
 | e :: m,k,v=>if e.1 = k then (k,v) :: m else e :: cO m k v
def bA {β : Type} (f : β → PV) (m : List (List UInt8 × β)) : List PV := [markPV,.tup (m.map fun e=>.tup [.str e.1,f e.2])]
section
variable {P : Program} {M : Mem} {β : Type} {f : β → PV}
def bg (P : Program) (M : Mem) (f : β → PV) : List (List UInt8 × β) → List MapEntry → Prop
 | [],es=>es = []
 | kv :: m,es=>∃ e es',es = e :: es' ∧ e.key = .string ⟨kv.1.toArray⟩ ∧ kv.1.length ≤ aZ ∧ Rep P M true (f kv.2) e.val ∧ bg P M f m es'
theorem matchE_iff : ∀ {m : List (List UInt8 × β)} {es : List MapEntry},aa P M true (m.map fun e=>PV.tup [.str e.1,f e.2]) (es.map fun e=>Value.tuple #[e.key,e.val]) ↔ bg P M f m es
 | [],es=>by
  simp only [List.map_nil,aa,bg]
  cases es <;> simp
 | kv :: m,es=>by
  simp only [List.map_cons,aa,bg]
  cases es with
  | nil=>simp
  | cons e es =>
   simp only [List.map_cons,List.cons.injEq]
   constructor
   ·rintro ⟨x,xs,⟨rfl,rfl⟩,h1,h2⟩
    simp only [Rep] at h1
    obtain ⟨cs,h3,h4⟩ := h1
    simp only [Value.tuple.injEq] at h3
    subst h3
    simp only [aa] at h4
    obtain ⟨a,as',h5,h6,b,bs,h7,h8,h9⟩ := h4
    simp only [Rep] at h6
    simp only [List.cons.injEq] at h5
    obtain ⟨rfl,rfl⟩ := h5
    simp only [List.cons.injEq] at h7
    obtain ⟨rfl,rfl⟩ := h7
    exact ⟨e,es,⟨rfl,rfl⟩,h6.1,h6.2,h8,matchE_iff.1 h2⟩
   ·rintro ⟨e',es',⟨rfl,rfl⟩,h1,h2,h3,h4⟩
    refine ⟨_,_,⟨rfl,rfl⟩,?_,matchE_iff.2 h4⟩
    simp only [Rep]
    refine ⟨_,rfl,?_⟩
    simp only [aa,Rep]
    exact ⟨_,_,rfl,⟨h1,h2⟩,_,_,rfl,h3,rfl⟩
theorem mapC_iff {m : List (List UInt8 × β)} {es : Array MapEntry} {c : Nat} : br P M (bA f m) (.map es c) ↔ bg P M f m es.toList := by
 rw [← matchE_iff]
 simp only [br,bA,List.cons.injEq,true_and]
 constructor
 ·rintro ⟨ps,rfl,h⟩
  simp only [aa,Rep,entsV] at h
  obtain ⟨x,xs,h1,⟨cs,h2,h3⟩,h4⟩ := h
  simp only [List.cons.injEq] at h1
  obtain ⟨rfl,rfl⟩ := h1
  simp only [Value.tuple.injEq] at h2
  subst h2
  simpa using h3
 ·intro h
  refine ⟨_,rfl,?_⟩
  simp only [aa,Rep,entsV]
  exact ⟨_,_,rfl,⟨_,rfl,by simpa using h⟩,rfl⟩
theorem str_inj {a b : List UInt8} (h : Value.string ⟨a.toArray⟩ = Value.string ⟨b.toArray⟩) : a = b := by
 simp only [Value.string.injEq,ByteArray.mk.injEq] at h
 simpa using congrArg Array.toList h
theorem ej {k : List UInt8} : ∀ {m : List (List UInt8 × β)} {es : List MapEntry} (i : Nat),bg P M f m es →
  (Instr.findNow .string (.string ⟨k.toArray⟩) es i = some none ∧ mfind m k = none ∧ ∀ v (e : MapEntry),k.length ≤ aZ → e.key = .string ⟨k.toArray⟩ → Rep P M true (f v) e.val → bg P M f (cO m k v) (es ++ [e])) ∨
  ∃ j e v,Instr.findNow .string (.string ⟨k.toArray⟩) es i = some (some (i + j,e.val)) ∧ es[j]? = some e ∧ e.key = .string ⟨k.toArray⟩ ∧ mfind m k = some v ∧ Rep P M true (f v) e.val ∧
   ∀ v' (g : MapEntry → MapEntry),k.length ≤ aZ → (∀ e,(g e).key = .string ⟨k.toArray⟩) → (∀ e,Rep P M true (f v') (g e).val) → bg P M f (cO m k v') (es.modify j g)
 | [],es,i,h=>by
  simp only [bg] at h
  subst h
  refine .inl ⟨rfl,rfl,fun v e hk h1 h2=>?_⟩
  simp only [cO,bg,List.nil_append]
  exact ⟨e,[],rfl,h1,hk,h2,rfl⟩
 | kv :: m,es,i,h=>by
  simp only [bg] at h
  obtain ⟨e,es',rfl,h1,h2,h3,h4⟩ := h
  obtain ⟨r,hr,hiff⟩ := MapKept.sameNow_of_keys (d := .string) (a := .string ⟨k.toArray⟩) (b := e.key) trivial (by rw [h1]; trivial)
  by_cases hk : kv.1 = k
  ·have hr1 : r = true := hiff.2 (by rw [h1,hk])
   subst hr1
   refine .inr ⟨0,e,kv.2,by simp [Instr.findNow,hr],rfl,by rw [h1,hk],by simp [mfind,hk],h3,fun v' g hkl g1 g2=>?_⟩
   simp only [cO,zp hk,bg]
   exact ⟨g e,es',by simp [List.modify],g1 e,hkl,g2 e,h4⟩
  ·have hr0 : r = false := by
    cases r with
    | false=>rfl
    | true=>exact absurd (str_inj ((hiff.1 rfl).trans h1)).symm hk
   subst hr0
   rcases ej (k := k) (i + 1) h4 with ⟨a1,a2,a3⟩ | ⟨j,e',v,a1,a2,a3,a4,a5,a6⟩
   ·refine .inl ⟨by simp [Instr.findNow,hr,a1],by simp [mfind,hk,a2],fun v e2 hkl g1 g2=>?_⟩
    simp only [cO,zy hk,bg]
    exact ⟨e,es' ++ [e2],by simp,h1,h2,h3,a3 v e2 hkl g1 g2⟩
   ·refine .inr ⟨j + 1,e',v,by simp [Instr.findNow,hr,a1]; omega,by simpa using a2,a3,by simp [mfind,hk,a4],a5,fun v' g hkl g1 g2=>?_⟩
    simp only [cO,zy hk,bg]
    exact ⟨e,es'.modify j g,by simp,h1,h2,h3,a6 v' g hkl g1 g2⟩
end
section
variable {P : Program} {C : Ctx} {M : Mem} {H : Heap} {w : World} {β : Type} {f : β → PV}
theorem BoxOk.map {b : Nat} {m : List (List UInt8 × β)} (h : BoxOk P C M w ⟨b,bA f m⟩) :
  C.mine b ∧ (∃ es c,w.heap[b]? = some (.map es c) ∧ bg P M f m es.toList) ∧ ∀ o,M b o = none := by
 obtain ⟨h1,⟨o,h2,h3⟩,h5⟩ := h
 refine ⟨h1,?_,h5⟩
 cases o with
 | cells cs e fz =>
  exfalso
  obtain ⟨a,b⟩ := fz
  match a,b,h3 with
  | 0,b + 1,h3=>simp [br] at h3
  | a + 1,b,h3=>simp [br] at h3
  | 0,0,h3 =>
   simp only [br,bA,aa] at h3
   obtain ⟨x,xs,_,h4,_⟩ := h3
   simp [markPV,Rep] at h4
 | map es c=>exact ⟨es,c,h2,mapC_iff.1 h3⟩
 | _=>simp [br] at h3
theorem InvH.set_map (h : InvH P C M H w) {tag b : Nat} {m m' : List (List UInt8 × β)} (hx : H.bx tag = some ⟨b,bA f m⟩) (es : Array MapEntry) (c : Nat) (hr : bg P M f m' es.toList) :
  InvH P C M ⟨upd H.bx tag (some ⟨b,bA f m'⟩),H.ob⟩ { w with heap := w.heap.setIfInBounds b (.map es c) } := by
 obtain ⟨hmine,⟨old,c0,hold,_⟩,hnone⟩ := (h.boxes tag _ hx).map
 obtain ⟨hs1,hs2⟩ := MapKept.heap_set (o' := Obj.map es c) hold
 have key : ∀ t y,upd H.bx tag (some ⟨b,bA f m'⟩) t = some y → (t = tag ∧ y = ⟨b,bA f m'⟩) ∨ (t ≠ tag ∧ H.bx t = some y) := by
  intro t y hy
  by_cases ht : t = tag
  ·subst ht; rw [bi] at hy; exact .inl ⟨rfl,(Option.some.inj hy).symm⟩
  ·rw [bj _ _ ht] at hy; exact .inr ⟨ht,hy⟩
 refine ⟨?_,h.ext,h.new,h.os,h.tape,h.output,?_,?_,?_,?_,?_,h.dobj,?_⟩
 ·intro k o v hm
  have hne : k ≠ b := fun e=>by rw [e,hnone] at hm; cases hm
  have := h.mem k o v hm
  simp only [World.cell?] at this ⊢
  rw [hs2 k hne]
  exact this
 ·simpa using h.size
 ·intro k hk hn
  have hne : k ≠ b := fun e=>by
   rcases hmine with hm | hm
   ·omega
   ·exact hn (e ▸ hm)
  show (w.heap.setIfInBounds b _)[k]? = _
  rw [hs2 k hne]
  exact h.frame k hk hn
 ·intro t y hy
  rcases key t y hy with ⟨_,rfl⟩ | ⟨ht,hy⟩
  ·exact ⟨hmine,⟨_,hs1,mapC_iff.2 hr⟩,hnone⟩
  ·exact (h.boxes t y hy).keep (Mem.le_refl M) (fun o ho=>ho) (hs2 _ fun e=>ht (h.dbox t tag y _ hy hx e))
 ·intro t y hy
  exact (h.objs t y hy).keep (Mem.le_refl M) (fun b o hb ho=>ho) (fun k hk=>hs2 _ fun e=>h.dmix tag t _ y hx hy (by rw [hk,e]))
 ·intro t t' y y' hy hy' hb
  rcases key t y hy with ⟨h1,h2⟩ | ⟨_,hz⟩ <;> rcases key t' y' hy' with ⟨h3,h4⟩ | ⟨_,hz'⟩
  ·rw [h1,h3]
  ·subst h1; subst h2; exact h.dbox _ t' _ y' hx hz' hb
  ·subst h3; subst h4; exact h.dbox t _ y _ hz hx hb
  ·exact h.dbox t t' y y' hz hz' hb
 ·intro t t' y y' hy hy' hb
  rcases key t y hy with ⟨h1,h2⟩ | ⟨_,hz⟩
  ·subst h1; subst h2; exact h.dmix _ t' _ y' hx hy' hb
  ·exact h.dmix t t' y y' hz hy' hb
theorem InvH.alloc_map (h : InvH P C M H w) (tag : Nat) (f : β → PV) : InvH P C M ⟨upd H.bx tag (some ⟨w.heap.size,bA f []⟩),H.ob⟩ (w.alloc (.map #[] 0)) := by
 have h' := h.alloc_plain (.map #[] 0)
 have key : ∀ t x,upd H.bx tag (some ⟨w.heap.size,bA f []⟩) t = some x → (t = tag ∧ x = ⟨w.heap.size,bA f []⟩) ∨ (t ≠ tag ∧ H.bx t = some x) := by
  intro t x hx
  by_cases ht : t = tag
  ·subst ht; rw [bi] at hx; exact .inl ⟨rfl,(Option.some.inj hx).symm⟩
  ·rw [bj _ _ ht] at hx; exact .inr ⟨ht,hx⟩
 refine ⟨h'.mem,h'.ext,h'.new,h'.os,h'.tape,h'.output,h'.size,h'.frame,?_,h'.objs,?_,h'.dobj,?_⟩
 ·intro t x hx
  rcases key t x hx with ⟨_,rfl⟩ | ⟨_,hx⟩
  ·exact ⟨.inl h.size,⟨_,heap_alloc_new w _,mapC_iff.2 (by simp [bg])⟩,h.fresh⟩
  ·exact h'.boxes t x hx
 ·intro t t' x x' hx hx' hb
  rcases key t x hx with ⟨h1,h2⟩ | ⟨_,hy⟩ <;> rcases key t' x' hx' with ⟨h3,h4⟩ | ⟨_,hy'⟩
  ·rw [h1,h3]
  ·subst h2; exact absurd (h.box_lt hy') (by rw [← hb]; exact Nat.lt_irrefl _)
  ·subst h4; exact absurd (h.box_lt hy) (by rw [hb]; exact Nat.lt_irrefl _)
  ·exact h.dbox t t' x x' hy hy' hb
 ·intro t t' x x' hx hx' hb
  rcases key t x hx with ⟨_,h2⟩ | ⟨_,hy⟩
  ·subst h2; exact Nat.lt_irrefl _ (h.obj_lt hx' hb)
  ·exact h.dmix t t' x x' hy hx' hb
end
section
variable {P : Program} {o : Oper} {ev : Operand → PV} {H : Heap} {β : Type} {f : β → PV}
theorem eff_makeMap {t : TypeId} (ho : o.op = .makeMap t none) (tag : Nat) (f : β → PV) {K : PV → Heap → Prop} (hk : ∀ b,K (.val (.map (some b))) ⟨upd H.bx tag (some ⟨b,bA f []⟩),H.ob⟩) : Eff P o ev H K := by
 intro C M a w next Q hi he hn
 have hrun : (execOp a.eval o).run P w = .ok (.value (.map (some w.heap.size))) (w.alloc (.map #[] 0)) := by
  simp [execOp,ho,Instr.makeMap]
 unfold Oper.wp
 rw [hrun]
 exact hn _ _ _ _ _ (hk w.heap.size) (Mem.le_refl M) (hi.alloc_map tag f) (by simp [Rep])
theorem eff_mapPut {t kt et : TypeId} {m k x : Operand} (ho : o.op = .mapUpdate t m k x) (hm : P.underlying t = some (.map kt et)) (hkt : P.underlying kt = some .string) {tag b : Nat} {mm : List (List UInt8 × β)} (hmm : ev m = .val (.map (some b))) (hb : H.bx tag = some ⟨b,bA f mm⟩)
  {kk : List UInt8} (hkk : ev k = .str kk) {v : β} (hv : ev x = f v) {K : PV → Heap → Prop} (hk : K .any ⟨upd H.bx tag (some ⟨b,bA f (cO mm kk v)⟩),H.ob⟩) : Eff P o ev H K := by
 intro C M a w next Q hi he hn
 have h1 := he m (by rw [ho]; simp [Op.operands])
 have h2 := he k (by rw [ho]; simp [Op.operands])
 have h3 := he x (by rw [ho]; simp [Op.operands])
 rw [hmm] at h1
 rw [hkk] at h2
 rw [hv] at h3
 simp only [Rep] at h1 h2
 obtain ⟨h2,hlen⟩ := h2
 obtain ⟨_,⟨es,c,hes,hma⟩,_⟩ := (hi.boxes tag _ hb).map
 have hck : (Instr.checkKey false 10000 kt (.string ⟨kk.toArray⟩)).run P w = .ok () w := MapKept.run_checkKey (k := .string ⟨kk.toArray⟩) hkt (by trivial) false 9999
 rcases ej (k := kk) 0 hma with ⟨f1,_,f3⟩ | ⟨j,e,v0,f1,f2,f3,_,_,f6⟩
 ·have hrun : (execOp a.eval o).run P w = .ok .skip { w with heap := w.heap.setIfInBounds b (.map (es.push { key := .string ⟨kk.toArray⟩,val := a.eval x,born := c }) (c + 1)) } := by
   simp [execOp,ho,h1,h2,Instr.mapUpdate,run_underlying hm,MapKept.run_getObj_map hes,hck,MapKept.run_findKey hkt f1,MapKept.run_setObj_map _ hes,Result.andThen]
  unfold Oper.wp
  rw [hrun]
  refine hn undef _ _ M _ hk (Mem.le_refl M) (hi.set_map hb _ _ ?_) (by simp [Rep])
  rw [Array.toList_push]
  exact f3 v _ hlen rfl h3
 ·have hkey : ((es[j]?).map (·.key)).getD (.string ⟨kk.toArray⟩) = .string ⟨kk.toArray⟩ := by
   rw [← Array.getElem?_toList,f2]
   simp [f3]
  have hrun : (execOp a.eval o).run P w = .ok .skip { w with heap := w.heap.setIfInBounds b (.map (es.modify j fun e=>{ e with key := .string ⟨kk.toArray⟩,val := a.eval x }) c) } := by
   have hst := MapKept.run_keyThatStays (P := P) (w := w) (d := .string) (k := .string ⟨kk.toArray⟩) trivial
   rw [Nat.zero_add] at f1
   simp [execOp,ho,h1,h2,Instr.mapUpdate,run_underlying hm,MapKept.run_getObj_map hes,hck,MapKept.run_findKey hkt f1,hkey,hst,MapKept.run_setObj_map _ hes,Result.andThen]
  unfold Oper.wp
  rw [hrun]
  refine hn undef _ _ M _ hk (Mem.le_refl M) (hi.set_map hb _ _ ?_) (by simp [Rep])
  rw [Array.toList_modify]
  exact f6 v _ hlen (fun _=>rfl) (fun _=>h3)
theorem eff_mapGet {t kt et : TypeId} {m k : Operand} (ho : o.op = .lookup t m k false) (hm : P.underlying t = some (.map kt et)) (hkt : P.underlying kt = some .string) {tag b : Nat} {mm : List (List UInt8 × β)} (hmm : ev m = .val (.map (some b))) (hb : H.bx tag = some ⟨b,bA f mm⟩)
  {kk : List UInt8} (hkk : ev k = .str kk) {d : β} {z : Value} (hz : ∀ w,(zeroValue et).run P w = .ok z w) (hd : ∀ M,Rep P M true (f d) z) {K : PV → Heap → Prop} (hk : K (f (mget d mm kk)) H) : Eff P o ev H K := by
 intro C M a w next Q hi he hn
 have h1 := he m (by rw [ho]; simp [Op.operands])
 have h2 := he k (by rw [ho]; simp [Op.operands])
 rw [hmm] at h1
 rw [hkk] at h2
 simp only [Rep] at h1 h2
 obtain ⟨h2,hlen⟩ := h2
 obtain ⟨_,⟨es,c,hes,hma⟩,_⟩ := (hi.boxes tag _ hb).map
 have hck : (Instr.checkKey es.isEmpty 10000 kt (.string ⟨kk.toArray⟩)).run P w = .ok () w := MapKept.run_checkKey (k := .string ⟨kk.toArray⟩) hkt (by trivial) es.isEmpty 9999
 rcases ej (k := kk) 0 hma with ⟨f1,f2,_⟩ | ⟨j,e,v0,f1,f2,f3,f4,f5,_⟩
 ·have hrun : (execOp a.eval o).run P w = .ok (.value z) w := by
   simp [execOp,ho,h1,h2,Instr.lookup,run_underlying hm,MapKept.run_getObj_map hes,hck,MapKept.run_findKey hkt f1,hz w,Result.andThen]
  unfold Oper.wp
  rw [hrun]
  refine hn _ _ _ M _ hk (Mem.le_refl M) hi ?_
  rw [mget,f2]
  exact hd M
 ·have hrun : (execOp a.eval o).run P w = .ok (.value e.val) w := by
   rw [Nat.zero_add] at f1
   simp [execOp,ho,h1,h2,Instr.lookup,run_underlying hm,MapKept.run_getObj_map hes,hck,MapKept.run_findKey hkt f1,Result.andThen]
  unfold Oper.wp
  rw [hrun]
  refine hn _ _ _ M _ hk (Mem.le_refl M) hi ?_
  rw [mget,f4]
  exact f5
end
section
variable {P : Program} {ops : Array Oper} {rest : List Oper} {o : Oper} {n : Nat} {s s' : Nat → PV} {bx : Nat → Option Box} {ob : Nat → Option Obj} {K : PState → Prop} {β : Type} {f : β → PV}
theorem fJ (hg : al ops s o = some true) {t : TypeId} (ho : o.op = .makeMap t none) {d : Nat} (hd : o.dst = some d) (hlt : Nat.blt d n = true) (f : β → PV)
  (h : ∀ b,Ao P ops rest ⟨n,upd s d (.val (.map (some b))),upd bx d (some ⟨b,bA f []⟩),ob⟩ K) : Ao P ops (o :: rest) ⟨n,s,bx,ob⟩ K :=
 bK hg (eff_makeMap ho d f fun b=>⟨_,by simp [hd,putD,hlt],h b⟩)
theorem fM (hg : al ops s o = some true) {t kt et : TypeId} {m k x : Operand} (ho : o.op = .mapUpdate t m k x) (hd : o.dst = none) (hm : P.underlying t = some (.map kt et)) (hkt : P.underlying kt = some .string) (tag : Nat) {b : Nat} {mm : List (List UInt8 × β)} (hmm : evS s m = .val (.map (some b))) (hb : bx tag = some ⟨b,bA f mm⟩)
  {kk : List UInt8} (hkk : evS s k = .str kk) {v : β} (hv : evS s x = f v) (h : Ao P ops rest ⟨n,s,upd bx tag (some ⟨b,bA f (cO mm kk v)⟩),ob⟩ K) : Ao P ops (o :: rest) ⟨n,s,bx,ob⟩ K :=
 bK hg (eff_mapPut ho hm hkt hmm hb hkk hv ⟨s,by simp [hd,putD],h⟩)
theorem fR {T : TT} (hT : T.Ok P) (hg : al ops s o = some true) {t kt et : TypeId} {m k : Operand} (ho : o.op = .lookup t m k false) (hm : P.underlying t = some (.map kt et)) (hkt : P.underlying kt = some .string) {ei : TInfo} (hei : T.get et = some ei) (tag : Nat) {b : Nat} {mm : List (List UInt8 × β)} (hmm : evS s m = .val (.map (some b))) (hb : bx tag = some ⟨b,bA f mm⟩)
  {kk : List UInt8} (hkk : evS s k = .str kk) {d : β} (hdz : ∀ M,Rep P M true (f d) ei.zero) (hp : putD n s o.dst (f (mget d mm kk)) = some s') (h : Ao P ops rest ⟨n,s',bx,ob⟩ K) : Ao P ops (o :: rest) ⟨n,s,bx,ob⟩ K :=
 bK hg (eff_mapGet ho hm hkt hmm hb hkk (fun w=>(hT.get hei).rzero w) hdz ⟨s',hp,h⟩)
end
end
end Go.Ab

namespace Go.Ab
noncomputable section
open Go.RowKit (Below)
section
variable {P : Program} {T : TT} {rb : RB} {ops : Array Oper} {rest : List Oper} {L : List Nat} {k : Nat} {o : Oper} {n : Nat} {s s' : Nat → PV} {bx : Nat → Option Box} {ob : Nat → Option Obj} {K : PState → Prop}
end
section
variable {P : Program}
theorem bq.ofCalls {f : FuncId} {args : List PV} {r : PV}
  (h : ∀ (w : World) (M : Mem) (vs : Array Value),GlW w → aa P M true args vs.toList → (∀ b o v,M b o = some v → w.cell? ⟨b,o,none⟩ = some v) → Calls P f vs w fun e w'=>∃ v,e = .returned v ∧ Below w.heap.size w w' ∧ Rep P M true r v) :
  bq P f args r := by
 intro w M own hg vs hi ha
 have hi0 : InvH P ⟨w,own,M,hg⟩ M Heap.empty w := hi
 refine (h w M vs hg.1 ha hi.mem).mono ?_
 rintro e w' ⟨v,rfl,hb,hr⟩
 refine ⟨v,r,Heap.empty,M,rfl,⟨rfl,rfl⟩,?_,hr⟩
 refine ⟨fun b o v hm=>?_,Mem.le_refl _,fun _ _ _ h=>.inl h,hb.os,hb.tape,hb.output,hb.size,fun b hb' _=>hb.block b hb',fun _ _ h=>by simp [Heap.empty] at h,fun _ _ h=>by simp [Heap.empty] at h,
  fun _ _ _ _ h=>by simp [Heap.empty] at h,fun _ _ _ _ _ h=>by simp [Heap.empty] at h,fun _ _ _ _ h=>by simp [Heap.empty] at h⟩
 have h1 := hi0.mem b o v hm
 have h2 := hb.block b (hi0.mem_lt hm)
 simpa only [World.cell?,h2] using h1
end
section
variable {P : Program} {T : TT} {ops : Array Oper} {rest : List Oper} {o : Oper} {n : Nat} {s : Nat → PV} {bx : Nat → Option Box} {ob : Nat → Option Obj} {K : PState → Prop}
end
end
end Go.Ab

namespace Go.Proofs
noncomputable section
open Go.Shelf
def Tryz.laysM171_ren : Go.Shelf.Ren := ⟨fun | 171=>26 | 243=>39 | 246=>72 | 283=>108 | 284=>109 | 285=>110 | 286=>111 | 129=>138 | 317=>137 | 318=>139 | 319=>140 | 320=>141 | 337=>161 | 338=>162 | n=>n,fun | 3=>3 | 9=>9 | 2=>2 | 4=>4 | 171=>168 | 0=>0 | 53=>169 | 37=>172 | 5=>5 | 173=>173 | 212=>201 | 51=>202 | 20=>20 | 213=>203 | 46=>205 | 232=>227 | 233=>228 | n=>n,fun | 17=>0 | 18=>2 | 19=>3 | n=>n⟩
theorem Tryz.laysM171 : Go.Proofs.LaysM.n171 Tryz.prog Tryz.laysM171_ren := {
 mixed := by kernel_rfl
 f129 := Tryz.func138.trans (congrArg some (by kernel_rfl))
 f171 := Tryz.func26.trans (congrArg some (by kernel_rfl))
 f243 := Tryz.func39.trans (congrArg some (by kernel_rfl))
 f246 := Tryz.func72.trans (congrArg some (by kernel_rfl))
 f283 := Tryz.func108.trans (congrArg some (by kernel_rfl))
 f284 := Tryz.func109.trans (congrArg some (by kernel_rfl))
 f285 := Tryz.func110.trans (congrArg some (by kernel_rfl))
 f286 := Tryz.func111.trans (congrArg some (by kernel_rfl))
 f317 := Tryz.func137.trans (congrArg some (by kernel_rfl))
 f318 := Tryz.func139.trans (congrArg some (by kernel_rfl))
 f319 := Tryz.func140.trans (congrArg some (by kernel_rfl))
 f320 := Tryz.func141.trans (congrArg some (by kernel_rfl))
 f337 := Tryz.func161.trans (congrArg some (by kernel_rfl))
 f338 := Tryz.func162.trans (congrArg some (by kernel_rfl))
 t0 := Tryz.underlying0
 a0 := Tryz.isAgg0
 z0 := Tryz.sizeOf0
 v0 := Tryz.zeroValue0
 t2 := Tryz.underlying2
 a2 := Tryz.isAgg2
 z2 := Tryz.sizeOf2
 v2 := Tryz.zeroValue2
 t3 := Tryz.underlying3
 a3 := Tryz.isAgg3
 z3 := Tryz.sizeOf3
 v3 := Tryz.zeroValue3
 t4 := Tryz.underlying4
 a4 := Tryz.isAgg4
 z4 := Tryz.sizeOf4
 v4 := Tryz.zeroValue4
 t5 := Tryz.underlying5
 a5 := Tryz.isAgg5
 z5 := Tryz.sizeOf5
 v5 := Tryz.zeroValue5
 t9 := Tryz.underlying9
 a9 := Tryz.isAgg9
 z9 := Tryz.sizeOf9
 v9 := Tryz.zeroValue9
 t20 := Tryz.underlying20
 a20 := Tryz.isAgg20
 z20 := Tryz.sizeOf20
 v20 := Tryz.zeroValue20
 t37 := Tryz.underlying172
 a37 := Tryz.isAgg172
 z37 := Tryz.sizeOf172
 v37 := Tryz.zeroValue172
 t46 := Tryz.underlying205
 a46 := Tryz.isAgg205
 z46 := Tryz.sizeOf205
 v46 := Tryz.zeroValue205
 t51 := Tryz.underlying202
 a51 := Tryz.isAgg202
 z51 := Tryz.sizeOf202
 v51 := Tryz.zeroValue202
 t53 := Tryz.underlying169
 a53 := Tryz.isAgg169
 z53 := Tryz.sizeOf169
 v53 := Tryz.zeroValue169
 t171 := Tryz.underlying168
 a171 := Tryz.isAgg168
 z171 := Tryz.sizeOf168
 v171 := Tryz.zeroValue168
 t173 := Tryz.underlying173
 a173 := Tryz.isAgg173
 z173 := Tryz.sizeOf173
 v173 := Tryz.zeroValue173
 t212 := Tryz.underlying201
 a212 := Tryz.isAgg201
 z212 := Tryz.sizeOf201
 v212 := Tryz.zeroValue201
 t213 := Tryz.underlying203
 a213 := Tryz.isAgg203
 z213 := Tryz.sizeOf203
 t232 := Tryz.underlying227
 a232 := Tryz.isAgg227
 z232 := Tryz.sizeOf227
 v232 := Tryz.zeroValue227
 t233 := Tryz.underlying228
 a233 := Tryz.isAgg228
 z233 := Tryz.sizeOf228
 v233 := Tryz.zeroValue228
 g17 := by kernel_rfl
 g18 := by kernel_rfl
 g19 := by kernel_rfl
 i0 := by kernel_rfl
 i2 := by kernel_rfl
 i3 := by kernel_rfl
 i4 := by kernel_rfl
 i5 := by kernel_rfl
 i9 := by kernel_rfl
 i20 := by kernel_rfl
 i37 := by kernel_rfl
 i46 := by kernel_rfl
 i51 := by kernel_rfl
 i53 := by kernel_rfl
 i171 := by kernel_rfl
 i173 := by kernel_rfl
 i212 := by kernel_rfl
 i232 := by kernel_rfl
 i233 := by kernel_rfl
 m17 := by kernel_rfl
 m18 := by kernel_rfl
 m19 := by kernel_rfl }
open Go.RowKit Go.Sort Go.Lib in
theorem Tryz.strconv_Itoa (n : Int) (h0 : -9223372036854775808 ≤ n) (h1 : n ≤ 9223372036854775807) (w : World) (htab : Lib.TabIs Tryz.prog w "internal/strconv.uint64pow10" .u64 Lib.pow10Tab) :
  Calls Tryz.prog 26 #[.int .i64 n] w fun e w'=>e = .returned (.string ⟨(Lib.itoa n).toArray⟩) ∧ ∃ k os,w' = grow (w.drewN k) os := Any.strconv_Itoa Tryz.laysM171 n h0 h1 w htab
end
end Go.Proofs

namespace Go.Proofs.YtgdlccbnofmkgaaGreatDoor
noncomputable section
open Go Go.Ab
open Go.RowKit (Below)
theorem vs1 {vs : Array Value} {x : Value} {xs : List Value} (h : vs.toList = x :: xs) (hx : xs = []) : vs = #[x] := by
 rw [← Array.toArray_toList (xs := vs),h,hx]
theorem itoa_len (n : Int) (h0 : -9223372036854775808 ≤ n) (h1 : n ≤ 9223372036854775807) : (Lib.itoa n).length ≤ 21 := Lib.itoa_length_le n h0 h1
def dF (n : Int) : Option (List UInt8) := guardO (-9223372036854775808 ≤ n ∧ n ≤ 9223372036854775807) (Lib.itoa n)
set_option maxRecDepth 20000 in
theorem g_pow : Tryz.prog.globalNamed "internal/strconv.uint64pow10" = some 0 := by kernel_rfl
theorem W_itoa (n : Int) (r : List UInt8) (h : dF n = some r) : bq Tryz.prog 26 [aL n] (.str r) := by
 obtain ⟨⟨h0,h1⟩,rfl⟩ := guardO_some h
 refine bq.ofCalls fun w M vs hg ha hm=>?_
 simp only [aa,Rep] at ha
 obtain ⟨x,xs,hv,rfl,hxs⟩ := ha
 obtain rfl := vs1 hv hxs
 have htab : Lib.TabIs Tryz.prog w "internal/strconv.uint64pow10" .u64 Lib.pow10Tab := by
  obtain ⟨t,fz,hc⟩ := hg.2.1 _ (List.mem_singleton.2 rfl)
  simp only [Lib.TabIs,World.var?,g_pow,Option.bind_some,hc]
  rfl
 refine (Tryz.strconv_Itoa n h0 h1 w htab).mono ?_
 rintro e w' ⟨rfl,k,os,rfl⟩
 refine ⟨_,rfl,Lib.below_grow _ w (Nat.le_refl _) k os,?_⟩
 simp only [Rep]
 exact ⟨trivial,Nat.le_trans (itoa_len n h0 h1) (by decide)⟩
end
end Go.Proofs.YtgdlccbnofmkgaaGreatDoor

namespace Go.Cx
noncomputable section
open Go Go.Ab
inductive DV where
 | bad
 | v (x : Value)
 | s (l : List UInt8)
 | a (l : List DV)
 | t (l : List DV)
 | p (id off : Nat)
 | l (id off row len : Nat)
 | e (id off : Nat)
 | f (g : FuncId) (caps : List DV)
 | i (t : TypeId) (d : DV)
inductive Tr (α : Type) where
 | nil
 | node (l : Tr α) (v : Option α) (r : Tr α)
def Tr.get {α : Type} : Tr α → Nat → Option α
 | .nil,_=>none
 | .node l v r,k=>bif Nat.beq k 0 then v else bif Nat.beq (k % 2) 1 then l.get (k / 2) else r.get (k / 2 - 1)
def Tr.set {α : Type} : Nat → Tr α → Nat → α → Tr α
 | 0,_,_,_=>.nil
 | n + 1,.nil,k,x=>bif Nat.beq k 0 then .node .nil (some x) .nil else bif Nat.beq (k % 2) 1 then .node (Tr.set n .nil (k / 2) x) none .nil else .node .nil none (Tr.set n .nil (k / 2 - 1) x)
 | n + 1,.node l v r,k,x=>bif Nat.beq k 0 then .node l (some x) r else bif Nat.beq (k % 2) 1 then .node (Tr.set n l (k / 2) x) v r else .node l v (Tr.set n r (k / 2 - 1) x)
structure Blk where
 e : TypeId
 sz : Nat
 cap : Option Nat
 wr : Bool
 cells : List DV
structure Hp where
 h : Tr (Option Blk)
 nx : Nat
def aC (h : Tr (Option Blk)) (id : Nat) : Option Blk := match h.get id with
 | some b=>b
 | none=>none
def const1 : Value → DV
 | .string x=>.s x.data.toList
 | x=>.v x
def constD : Value → DV
 | .agg cs=>.a (cs.toList.map const1)
 | x=>const1 x
def evD (s : Tr DV) : Operand → DV
 | .tmp t=>(s.get t).getD .bad
 | .const x=>constD x
 | .global _=>.bad
 | .func g=>.f g []
def DV.one : DV → Bool
 | .v x=>x.oneCell'
 | .bad | .a _ | .t _=>false
 | _=>true
def dv : DV → Option (List DV)
 | .a l=>bif l.all DV.one then some l else none
 | d=>bif d.one then some [d] else none
def readD (ti : TInfo) (off : Nat) (cells : List DV) : Option DV :=
 bif cC ti.desc then (bif Nat.ble (off + ti.size) cells.length then some (.a ((cells.drop off).take ti.size)) else none)
 else cells[off]?
def bM (cells : List DV) (off : Nat) (new : List DV) : List DV := cells.take off ++ new ++ cells.drop (off + new.length)
def cU (place : Nat → Option (Nat × Nat)) (cells : List DV) : List (Nat × DV) → Option (List DV)
 | []=>some cells
 | (i,p) :: r=>match place i,dv p with
  | some (off,size),some cs=>bif Nat.beq cs.length size && Nat.ble (off + size) cells.length then cU place (bM cells off cs) r else none
  | _,_=>none
def cd (ti : TInfo) : List DV := ti.zero.cells.toList.map const1
def partsD (ev : Operand → DV) (ps : Array (Nat × Operand)) : List (Nat × DV) := ps.toList.map fun p=>(p.1,ev p.2)
def buildD (T : TT) (t : TypeId) (parts : List (Nat × DV)) : Option DV :=
 match T.get t with
 | some ti=>match ti.desc with
  | .struct fs=>match cx T fs.toList with
   | some l=>(cU (fun (i : Nat)=>l[i]?) (cd ti) parts).map .a
   | none=>none
  | _=>none
 | none=>none
def ew : TypeDesc → DV → DV → Option Bool
 | .int _,.v (.int k a),.v (.int k' b)=>bif decide (k = k') then some (a == b) else none
 | .bool,.v (.bool a),.v (.bool b)=>some (a == b)
 | .string,.s a,.s b=>some (a == b)
 | _,_,_=>none
def bX (T : TT) : List (Nat × Nat) → List DV → List DV → Option Bool
 | [],_,_=>some true
 | (t,off) :: r,xs,ys=>match T.get t,xs[off]?,ys[off]? with
  | some ti,some p,some q=>match ew ti.desc p q,bX T r xs ys with
   | some b,some c=>some (b && c)
   | _,_=>none
  | _,_,_=>none
def binD (T : TT) (op : BinOp) (t : TypeId) (p q : DV) : Option DV :=
 match p,q with
 | .v (.int k a),.v (.int k' b) =>
  bif decide (k = k') then
   match op with
   | .add=>some (.v (.int k (k.wrap (a + b))))
   | .sub=>some (.v (.int k (k.wrap (a - b))))
   | .mul=>some (.v (.int k (k.wrap (a * b))))
   | .quo=>if b = 0 then none else some (.v (.int k (k.wrap (a.tdiv b))))
   | .rem=>if b = 0 then none else some (.v (.int k (a.tmod b)))
   | op=>(cmpInt op a b).map fun c=>.v (.bool c)
  else none
 | .s a,.s b=>match op with
  | .add=>if a.length + b.length ≤ aZ then some (.s (a ++ b)) else none
  | op=>(cmpStr op a b).map fun c=>.v (.bool c)
 | .v (.bool a),.v (.bool b)=>match T.get t,op with
  | some ⟨.bool,_,_,_,_⟩,.eql=>some (.v (.bool (a == b)))
  | some ⟨.bool,_,_,_,_⟩,.neq=>some (.v (.bool (!(a == b))))
  | _,_=>none
 | .a xs,.a ys=>match T.get t with
  | some ti=>bif ti.eqf.isEmpty then none else
   match op with
   | .eql=>(bX T ti.eqf xs ys).map fun c=>.v (.bool c)
   | .neq=>(bX T ti.eqf xs ys).map fun c=>.v (.bool (!c))
   | _=>none
  | none=>none
 | _,_=>none
def nilD (T : TT) (op : BinOp) (t : TypeId) (y : Operand) (p : DV) : Option DV :=
 match y,p with
 | .const .nilIface,.v .nilIface=>match T.get t with
  | some ti=>match ti.desc,op with
   | .interface _,.eql=>some (.v (.bool true))
   | .interface _,.neq=>some (.v (.bool false))
   | _,_=>none
  | none=>none
 | .const (.slice none 0 0),p=>match T.get t with
  | some ti=>match ti.desc,op,p with
   | .slice _,.eql,.v (.slice none 0 0)=>some (.v (.bool true))
   | .slice _,.eql,.l _ _ _ _=>some (.v (.bool false))
   | .slice _,.eql,.e _ _=>some (.v (.bool false))
   | _,_,_=>none
  | none=>none
 | _,_=>none
def dB (p : Option DV) (dflt : Nat) : Option Int :=
 match p with
 | none=>some dflt
 | some (.v (.int _ n))=>some n
 | _=>none
def sliceD (T : TT) (d : TypeDesc) (p : DV) (lo hi : Option DV) : Option DV :=
 match d,p with
 | .string,.s l=>match dB lo 0,dB hi l.length with
  | some a,some b=>if 0 ≤ a ∧ a ≤ b ∧ b ≤ l.length then some (.s ((l.take b.toNat).drop a.toNat)) else none
  | _,_=>none
 | .slice e,.l id off row len=>match dB lo 0,dB hi len,T.get e with
   | some a,some b,some ei=>if 0 ≤ a ∧ a ≤ b ∧ b ≤ len ∧ (a < len ∨ a = 0) then some (.l id (off + a.toNat * ei.size) (row + a.toNat) (b.toNat - a.toNat)) else none
   | _,_,_=>none
 | _,_=>none
def isZ : Option Operand → Bool
 | some (.const (.int .i64 n))=>n == 0
 | _=>false
def emptyD (T : TT) (d : TypeDesc) (p : DV) : Option DV :=
 match d with
 | .slice e=>match T.get e,p with
  | some _,.l id off _ _=>some (.e id off)
  | some _,.e id off=>some (.e id off)
  | some _,.v (.slice none 0 0)=>some p
  | _,_=>none
 | _=>none
def offD : DV → Nat → Option DV
 | .p id off,n=>some (.p id (off + n))
 | _,_=>none
def dc : DV → Option Nat
 | .l _ _ _ n=>some n
 | .e _ _=>some 0
 | .v (.slice none 0 0)=>some 0
 | _=>none
def loadD (h : Tr (Option Blk)) (ti : TInfo) : DV → Option DV
 | .p id off=>match aC h id with
  | some b=>readD ti off b.cells
  | none=>none
 | _=>none
def noNilD : DV → Bool
 | .p _ _ | .f _ _=>true
 | _=>false
def callD (T : TT) (c : Call) (ev : Operand → DV) : Option DV :=
 match c.callee,c.args.toList,c.argTypes.toList with
 | .builtin .len,[x],t :: _=>match T.get t with
  | some ti=>match ti.desc,ev x with
   | .string,.s l=>some (.v (.int .i64 l.length))
   | .slice _,p=>(dc p).bind fun n=>some (.v (.int .i64 n))
   | _,_=>none
  | none=>none
 | .builtin .min,[x,y],_=>match ev x,ev y with
  | .v (.int k a),.v (.int _ b)=>some (.v (.int k (if b < a then b else a)))
  | _,_=>none
 | .builtin .max,[x,y],_=>match ev x,ev y with
  | .v (.int k a),.v (.int _ b)=>some (.v (.int k (if b > a then b else a)))
  | _,_=>none
 | _,_,_=>none
def aQ (T : TT) (h : Tr (Option Blk)) (op : Op) (ev : Operand → DV) : Option DV :=
 match op with
 | .move x | .assign x=>some (ev x)
 | .pick c a b=>match ev c with
  | .v (.bool true)=>some (ev a)
  | .v (.bool false)=>some (ev b)
  | _=>none
 | .load t x=>match T.get t with
  | some ti=>loadD h ti (ev x)
  | none=>none
 | .fieldAddr t x f=>match T.get t with
  | some ti=>match ti.desc with
   | .struct fs=>match fs[f]? with
    | some fd=>match T.get fd.type with
     | some fi=>bif Nat.beq fi.size 0 then none else offD (ev x) fd.offset
     | none=>none
    | none=>none
   | _=>none
  | none=>none
 | .field t x f=>match T.get t with
  | some ti=>match ti.desc with
   | .struct fs=>match fs[f]? with
    | some fd=>match T.get fd.type,ev x with
     | some fi,.a cells=>readD fi fd.offset cells
     | _,_=>none
    | none=>none
   | _=>none
  | none=>none
 | .indexAddr t x i=>match T.get t,ev x,ev i with
  | some ti,.l id off _ len,.v (.int _ n)=>match ti.desc with
   | .slice e=>match T.get e with
    | some ei=>if 0 ≤ n ∧ n < len then some (.p id (off + n.toNat * ei.size)) else none
    | none=>none
   | _=>none
  | some ti,.p id off,.v (.int _ n)=>match ti.desc with
   | .array len e=>match T.get e with
    | some ei=>if 0 ≤ n ∧ n < len then some (.p id (off + n.toNat * ei.size)) else none
    | none=>none
   | _=>none
  | _,_,_=>none
 | .index t x i=>match T.get t,ev x,ev i with
  | some ti,.s l,.v (.int _ n)=>match ti.desc with
   | .string=>if 0 ≤ n then (l[n.toNat]?).map fun c=>.v (.int .u8 c.toNat) else none
   | _=>none
  | _,_,_=>none
 | .binOp op t x y _=>match nilD T op t y (ev x) with
  | some r=>some r
  | none=>binD T op t (ev x) (ev y)
 | .unOp op _ x=>match op,ev x with
  | .not,.v (.bool b)=>some (.v (.bool (!b)))
  | .neg,.v (.int k n)=>some (.v (.int k (k.wrap (0 - n))))
  | _,_=>none
 | .convert src dst x=>match T.get src,T.get dst,ev x with
  | some _,some ti,.v (.int _ n)=>match ti.desc with
   | .int k=>some (.v (.int k (k.wrap n)))
   | _=>none
  | some _,some ti,.s l=>match ti.desc with
   | .string=>some (.s l)
   | _=>none
  | _,_,_=>none
 | .extract x i=>match ev x with
  | .t vs=>vs[i]?
  | _=>none
 | .build t ps=>buildD T t (partsD ev ps)
 | .slice t x lo hi mx=>match T.get t with
  | some ti=>match mx with
   | none=>sliceD T ti.desc (ev x) (lo.map ev) (hi.map ev)
   | some m=>bif isZ lo && isZ hi && isZ (some m) then emptyD T ti.desc (ev x) else none
  | none=>none
 | .makeFunc (.func f) first caps=>bif first.isEmpty then some (.f f (caps.toList.map ev)) else none
 | .nilCheck x=>bif noNilD (ev x) then some (ev x) else none
 | .call c=>callD T c ev
 | _=>none
def cK (n : Nat) (l : List DV) : List DV := match n with
 | 0=>[]
 | n + 1=>l ++ cK n l
def newD (H : Hp) (b : Blk) : Hp := ⟨H.h.set 24 H.nx (some b),H.nx + 1⟩
def srcD (h : Tr (Option Blk)) (size : Nat) : DV → Option (List DV)
 | .l id off _ len=>match aC h id with
  | some b=>bif Nat.ble (off + len * size) b.cells.length then some ((b.cells.drop off).take (len * size)) else none
  | none=>none
 | .v (.slice none 0 0) | .e _ _=>some []
 | _=>none
def appendD (H : Hp) (e : TypeId) (size bytes : Nat) (x : DV) (new : List DV) (n : Nat) : Option (DV × Hp) :=
 bif Nat.beq n 0 then (match dc x with | some _=>some (x,H) | none=>none) else
 match x with
 | .v (.slice none 0 0) | .e _ _=>bif Nat.ble (n * bytes) 1000000 && Nat.ble n 1000000 then some (.l H.nx 0 0 n,newD H ⟨e,size,none,true,new⟩) else none
 | .l id off row len=>match aC H.h id with
  | some b =>
   bif b.wr && Nat.beq b.e e && Nat.beq b.sz size && Nat.beq off 0 && Nat.beq row 0 && Nat.beq b.cells.length (len * size) && Nat.ble ((len + n) * bytes) 1000000 && Nat.ble (len + n) 1000000 then
    some (.l H.nx 0 0 (len + n),newD ⟨H.h.set 24 id none,H.nx⟩ ⟨e,size,none,true,b.cells ++ new⟩)
   else none
  | none=>none
 | _=>none
def cj (T : TT) (op : Op) (ev : Operand → DV) (id : Nat) : Option (DV × Blk) :=
 match op with
 | .alloc t=>match T.get t with
  | some ti=>some (.p id 0,⟨t,0,none,true,cd ti⟩)
  | none=>none
 | .box t x=>match dv (ev x) with
  | some cs=>some (.p id 0,⟨t,0,none,true,cs⟩)
  | none=>none
 | .buildSlice t n ps=>match T.get t with
  | some ti=>match ti.desc with
   | .slice e=>match T.get e with
    | some ei=>bif Nat.ble (n * ei.bytes) 1000000 && Nat.blt 0 ei.size && Nat.ble (n * ei.size) 1000000 && Nat.beq ei.zero.cells.size ei.size then match cU (fun i=>some (i * ei.size,ei.size)) (cK n (cd ei)) (partsD ev ps) with
      | some cs=>some (.l id 0 0 n,⟨e,ei.size,some n,true,cs⟩)
      | none=>none
     else none
    | none=>none
   | _=>none
  | none=>none
 | _=>none
def bU (T : TT) (H : Hp) (op : Op) (ev : Operand → DV) : Option (DV × Hp) :=
 match op with
 | .store t x y=>match T.get t,ev x,dv (ev y) with
  | some ti,.p id off,some cs=>match aC H.h id with
   | some b=>bif b.wr && Nat.beq cs.length ti.size && Nat.ble (off + ti.size) b.cells.length then some (.bad,⟨H.h.set 24 id (some ⟨b.e,b.sz,b.cap,b.wr,bM b.cells off cs⟩),H.nx⟩) else none
   | none=>none
  | _,_,_=>none
 | .convert src dst x=>match T.get src,T.get dst,ev x with
  | some si,some ti,.s l=>match si.desc,ti.desc with
   | .string,.slice e=>match T.get e with
    | some ei=>match ei.desc with
     | .int .u8=>bif Nat.beq ei.size 1 && Nat.ble l.length 1000000 then some (.l H.nx 0 0 l.length,newD H ⟨e,1,none,false,l.map fun c=>.v (.int .u8 c.toNat)⟩) else none
     | _=>none
    | none=>none
   | _,_=>none
  | _,_,_=>none
 | .call ⟨.builtin .clear,av0,ts⟩=>match av0.toList,ts.toList with
  | [x],[t]=>match T.get t,ev x with
   | some ti,.l id off _ n=>match ti.desc,aC H.h id with
    | .slice e,some b=>match T.get e with
     | some ei=>bif Nat.beq n 0 then some (.t [],H) else bif b.wr && (cd ei).all DV.one && Nat.beq ei.zero.cells.size ei.size && Nat.ble (off + n * ei.size) b.cells.length then
       some (.t [],⟨H.h.set 24 id (some ⟨b.e,b.sz,b.cap,b.wr,bM b.cells off (cK n (cd ei))⟩),H.nx⟩) else none
     | none=>none
    | _,_=>none
   | _,_=>none
  | _,_=>none
 | .call ⟨.builtin .append,av0,ts⟩=>match av0.toList,ts.toList with
  | [x,y],[t,t']=>bif Nat.beq t t' then match T.get t with
   | some ti=>match ti.desc with
    | .slice e=>match T.get e with
     | some ei=>match srcD H.h ei.size (ev y),dc (ev y) with
      | some new,some n=>bif Nat.blt 0 ei.size && Nat.beq ei.zero.cells.size ei.size && new.all DV.one then appendD H e ei.size ei.bytes (ev x) new n else none
      | _,_=>none
     | none=>none
    | _=>none
   | none=>none
   else none
  | _,_=>none
 | _=>none
def loudD (T : TT) (H : Hp) (op : Op) (ev : Operand → DV) : Option (DV × Hp) :=
 match cj T op ev H.nx with
 | some (d,b)=>some (d,newD H b)
 | none=>bU T H op ev
def isLoud : Op → Bool
 | .alloc _ | .box _ _ | .store _ _ _ | .buildSlice _ _ _ | .makeSlice _ _ _ | .defer _=>true
 | .convert _ _ _=>true
 | .call ⟨.builtin .len,_,_⟩ | .call ⟨.builtin .min,_,_⟩ | .call ⟨.builtin .max,_,_⟩=>false
 | .call _=>true
 | _=>false
structure St where
 n : Nat
 s : Tr DV
 H : Hp
 df : List (FuncId × List DV)
abbrev aV := FuncId → List DV → Hp → Option (DV × Hp)
def oneD (T : TT) (call : aV) (op : Op) (ev : Operand → DV) (H : Hp) : Option (DV × Hp) :=
 match aQ T H.h op ev with
 | some r=>some (r,H)
 | none=>match loudD T H op ev with
  | some x=>some x
  | none=>match op with
   | .call ⟨.value fx,av0,_⟩=>match ev fx with
    | .f g caps=>call g (av0.toList.map ev ++ caps) H
    | _=>none
   | _=>none
def az (ops : Array Oper) (s : Tr DV) (o : Oper) : Option Bool :=
 match o.guard with
 | none=>some true
 | some (j,want)=>match (ops[j]?).bind (·.dst) with
  | some d=>match s.get d with
   | some (.v (.bool b))=>some (b == want)
   | some (.t [])=>some false
   | _=>none
  | none=>none
def bc (n : Nat) (s : Tr DV) (dst : Option Tmp) (d : DV) : Option (Tr DV) := match dst with
 | none=>some s
 | some k=>bif Nat.blt k n then some (s.set 16 k d) else none
def headD : DV → Bool
 | .v (.int _ n)=>match n with
  | .ofNat k=>Nat.beq k k
  | .negSucc k=>Nat.beq k k
 | _=>true
def stepD (T : TT) (call : aV) (ops : Array Oper) (o : Oper) (st : St) : Option St :=
 match az ops st.s o with
 | some true=>match o.op with
  | .defer ⟨.value fx,av0,_⟩=>bif av0.isEmpty then (match evD st.s fx with
    | .f g caps=>(bc st.n st.s o.dst (.t [])).map fun s=>⟨st.n,s,st.H,(g,caps) :: st.df⟩
    | _=>none) else none
  | op=>match oneD T call op (evD st.s) st.H with
   | some (d,H)=>bif headD d then (bc st.n st.s o.dst d).map fun s=>⟨st.n,s,H,st.df⟩ else none
   | none=>none
 | some false=>(bc st.n st.s o.dst (.t [])).map fun s=>⟨st.n,s,st.H,st.df⟩
 | none=>none
def opsD (T : TT) (call : aV) (ops : Array Oper) : List Oper → St → Option St
 | [],st=>some st
 | o :: r,st=>match stepD T call ops o st with
  | some st'=>opsD T call ops r st'
  | none=>none
inductive Ex where
 | nm | rt | ex (j : Nat)
def resD (T : TT) (st : St) : ResultVar → Option DV
 | .tmp t=>match st.s.get t with
  | some .bad=>none
  | x=>x
 | .cell a t=>match T.get t,st.s.get a with
  | some ti,some d=>loadD st.H.h ti d
  | _,_=>none
def ct (T : TT) (st : St) : List ResultVar → Option (List DV)
 | []=>some []
 | r :: rs=>match resD T st r,ct T st rs with
  | some d,some ds=>some (d :: ds)
  | _,_=>none
def tupD : List DV → DV
 | [d]=>d
 | ds=>.t ds
def dg (l : List DV) : Tr DV := (l.foldl (fun (x : Tr DV × Nat) d=>(x.1.set 16 x.2 d,x.2 + 1)) (.nil,0)).1
def eqVal : Value → Value → Bool
 | .int k a,.int k' b=>decide (k = k') && (a == b)
 | .bool a,.bool b=>a == b
 | .slice none n c,.slice none n' c'=>Nat.beq n n' && Nat.beq c c'
 | .pointer none,.pointer none=>true
 | .nilIface,.nilIface=>true
 | .nilFunc,.nilFunc=>true
 | _,_=>false
mutual
def eqV : DV → DV → Bool
 | .v x,.v y=>eqVal x y
 | .s a,.s b=>a == b
 | .a l,.a l'=>eqVL l l'
 | .t l,.t l'=>eqVL l l'
 | .p i o,.p i' o'=>Nat.beq i i' && Nat.beq o o'
 | .l i o r n,.l i' o' r' n'=>Nat.beq i i' && Nat.beq o o' && Nat.beq r r' && Nat.beq n n'
 | .e i o,.e i' o'=>Nat.beq i i' && Nat.beq o o'
 | .f g l,.f g' l'=>Nat.beq g g' && eqVL l l'
 | _,_=>false
def eqVL : List DV → List DV → Bool
 | [],[]=>true
 | x :: xs,y :: ys=>eqV x y && eqVL xs ys
 | _,_=>false
end
def eH : Op → Bool
 | .store _ _ _=>true
 | _=>false
def bB (o : Oper) : Bool := match o.op with | .alloc _ | .box _ _ | .buildSlice _ _ _=>true | _=>false
def aJ (o : Oper) : Bool := isLoud o.op && !bB o
structure DS where
 st : St
 pd : List (Nat × Blk)
def cf (nx0 : Nat) (H : Hp) (l : List (Nat × Blk)) : Hp := l.foldl (fun H x=>⟨H.h.set 24 (nx0 + x.1) (some x.2),H.nx⟩) H
def stepR (T : TT) (call : aV) (ops : Array Oper) (b : Array Nat) (nx0 i : Nat) (o : Oper) (ds : DS) : Option DS :=
 bif bB o then match az ops ds.st.s o with
  | some true=>match cj T o.op (evD ds.st.s) (nx0 + i) with
   | some (d,k)=>(bc ds.st.n ds.st.s o.dst d).map fun s=>⟨⟨ds.st.n,s,ds.st.H,ds.st.df⟩,ds.pd ++ [(i,k)]⟩
   | none=>none
  | some false=>(bc ds.st.n ds.st.s o.dst (.t [])).map fun s=>⟨⟨ds.st.n,s,ds.st.H,ds.st.df⟩,ds.pd⟩
  | none=>none
 else bif aJ o then match stepD T call ops o ⟨ds.st.n,ds.st.s,cf nx0 ds.st.H (ds.pd.filter fun x=>(b.getD i 0).testBit x.1),ds.st.df⟩ with
  | some st'=>some ⟨st',ds.pd.filter fun x=>!(b.getD i 0).testBit x.1⟩
  | none=>none
 else match az ops ds.st.s o with
  | some true=>match aQ T ds.st.H.h o.op (evD ds.st.s) with
   | some d=>bif headD d then (bc ds.st.n ds.st.s o.dst d).map fun s=>⟨⟨ds.st.n,s,ds.st.H,ds.st.df⟩,ds.pd⟩ else none
   | none=>none
  | some false=>(bc ds.st.n ds.st.s o.dst (.t [])).map fun s=>⟨⟨ds.st.n,s,ds.st.H,ds.st.df⟩,ds.pd⟩
  | none=>none
def traceR (T : TT) (call : aV) (ops : Array Oper) (b : Array Nat) (nx0 : Nat) : Nat → List Oper → DS → Option (List DS)
 | _,[],ds=>some [ds]
 | i,o :: r,ds=>match stepR T call ops b nx0 i o ds with
  | some ds'=>match traceR T call ops b nx0 (i + 1) r ds' with
   | some l=>some (ds :: l)
   | none=>none
  | none=>none
def pairsOk (ops : Array Oper) (b : Array Nat) : Bool :=
 (List.range ops.size).all fun j=>(List.range j).all fun i=>(b.getD j 0).testBit i || match ops[i]?,ops[j]? with
  | some x,some y=>x.apart ops y
  | _,_=>false
def unord (ops : Array Oper) (b : Array Nat) : List (Nat × Nat) :=
 (List.range ops.size).flatMap fun j=>((List.range j).filter fun i=>!(b.getD j 0).testBit i && (match ops[i]?,ops[j]? with
  | some x,some y=>aJ x && aJ y
  | _,_=>false)).map fun i=>(i,j)
def edgesOk (ops : Array Oper) : Bool := (List.range ops.size).all fun j=>match ops[j]? with
 | some o=>o.after.all fun e=>!Region.binds .any e || Nat.blt e.on j
 | none=>true
def ap (ops : Array Oper) (j : Nat) : Bool := match ops[j]? with | some y=>aJ y | none=>false
def eI (ops : Array Oper) (b : Array Nat) : List (Nat × List Nat) :=
 (List.range ops.size).filterMap fun i=>match ops[i]? with
  | some o=>bif aW o.op then some (i,(0 :: (((List.range ops.size).filter (ap ops)).map (· + 1))).filter fun k =>
    (List.range ops.size).all fun j=>!ap ops j || (bif Nat.blt j k then !(b.getD j 0).testBit i else !(b.getD i 0).testBit j)) else none
  | none=>none
def pairAt (ops : Array Oper) (b : Array Nat) (i j : Nat) : Bool :=
 (List.range ops.size).all fun k=>match ops[k]? with
  | some o=>(!aJ o || Nat.blt k i || Nat.beq k i || Nat.beq k j) && (!(bB o || aW o.op) || ((b.getD i 0).testBit k && (b.getD j 0).testBit k)) &&
    (!(Nat.beq k i || Nat.beq k j) || (o.guard.isNone && eH o.op))
  | none=>true
def staticOk (ops : Array Oper) : Bool := cM ops (Region.before ops) && edgesOk ops && pairsOk ops (Region.before ops) && ops.all (fun o=>match o.op with | .defer _=>false | _=>true)
def addrOf (o : Oper) (s : Tr DV) : Option Nat := match o.op with
 | .store _ x _=>match evD s x with
  | .p id _=>some id
  | _=>none
 | _=>none
def swapD (T : TT) (ops : Array Oper) (tr : List DS) (i j : Nat) : Bool :=
 match ops[i]?,ops[j]?,tr[i]?,tr[j]? with
 | some x,some y,some di,some dj=>match addrOf x di.st.s,addrOf y dj.st.s,bU T di.st.H y.op (evD dj.st.s) with
  | some a,some c,some (_,H3)=>di.pd.isEmpty && !(Nat.beq a c) && Nat.blt a 1000000 && Nat.blt c 1000000 && (bU T H3 x.op (evD di.st.s)).isSome
  | _,_,_=>false
 | _,_,_,_=>false
def eR (T : TT) (ops : Array Oper) (tr : List DS) : Bool :=
 match unord ops (Region.before ops) with
 | []=>true
 | [(i,j)]=>pairAt ops (Region.before ops) i j && swapD T ops tr i j
 | _=>false
def loadOk (T : TT) (ops : Array Oper) (tr : List DS) (i : Nat) (ks : List Nat) : Bool :=
 match ops[i]?,tr[i]? with
 | some o,some ds=>match az ops ds.st.s o with
  | some true=>match aQ T ds.st.H.h o.op (evD ds.st.s) with
   | some d=>ks.all fun k=>match tr[k]? with
    | some ds'=>match aQ T ds'.st.H.h o.op (evD ds.st.s) with
     | some d'=>eqV d d'
     | none=>false
    | none=>false
   | none=>false
  | some false=>true
  | none=>false
 | _,_=>false
def drawD (T : TT) (call : aV) (ops : Array Oper) (st : St) : Option St :=
 bif staticOk ops then
  match traceR T call ops (Region.before ops) st.H.nx 0 ops.toList ⟨⟨st.n,st.s,⟨st.H.h,st.H.nx + ops.size⟩,st.df⟩,[]⟩ with
  | some tr=>bif (eI ops (Region.before ops)).all (fun x=>loadOk T ops tr x.1 x.2) && eR T ops tr then
    match tr[ops.size]? with
    | some ds=>some ⟨ds.st.n,ds.st.s,cf st.H.nx ds.st.H ds.pd,ds.st.df⟩
    | none=>none
   else none
  | none=>none
 else none
def cD (P : Program) (T : TT) (D : FuncId → Bool) (run : Code → St → Option (Ex × St)) : aV := fun g args H =>
 match P.funcs[g]? with
 | some fn=>match fn.body with
  | some c=>bif Nat.ble args.length fn.ntmps then
    match run c ⟨fn.ntmps,dg args,H,[]⟩ with
    | some (.nm,st) | some (.rt,st)=>bif st.df.all fun x=>D x.1 then (ct T st fn.results.toList).map fun ds=>(tupD ds,st.H) else none
    | _=>none
   else none
  | none=>none
 | none=>none
def aR (P : Program) (T : TT) (D : FuncId → Bool) : Nat → Code → St → Option (Ex × St)
 | 0,_,_=>none
 | n + 1,c,st=>match c with
  | .skip=>some (.nm,st)
  | .region _ ops false=>(opsD T (cD P T D (aR P T D n)) ops ops.toList st).map fun s=>(.nm,s)
  | .region _ ops true=>(drawD T (cD P T D (aR P T D n)) ops st).map fun s=>(.nm,s)
  | .seq x y=>match aR P T D n x st with
   | some (.nm,st')=>aR P T D n y st'
   | r=>r
  | .cond c x y=>match evD st.s c with
   | .v (.bool true)=>aR P T D n x st
   | .v (.bool false)=>aR P T D n y st
   | _=>none
  | .block id c=>match aR P T D n c st with
   | some (.ex j,st')=>bif Nat.beq j id then some (.nm,st') else some (.ex j,st')
   | r=>r
  | .loop x=>match aR P T D n x st with
   | some (.nm,st')=>aR P T D n (.loop x) st'
   | r=>r
  | .exit id=>some (.ex id,st)
  | .ret=>some (.rt,st)
  | _=>none
end
end Go.Cx

namespace Go.Cx
noncomputable section
open Go Go.Ab
open Go.RowKit (Below)
abbrev Be := Nat → Option (Nat × Nat)
def Be.le (β β' : Be) : Prop := ∀ k x,β k = some x → β' k = some x
theorem Be.rfl' {β : Be} : β.le β := fun _ _ h=>h
theorem Be.trans {β β' β'' : Be} (h : β.le β') (h' : β'.le β'') : β.le β'' := fun k x e=>h' k x (h k x e)
structure Ext (β β' : Be) (nx nx' : Nat) : Prop where
 le : β.le β'
 old : ∀ id,id < nx → β' id = β id
 nx : nx ≤ nx'
theorem Ext.rfl' {β : Be} {n : Nat} : Ext β β n n := ⟨Be.rfl',fun _ _=>rfl,Nat.le_refl _⟩
theorem Ext.trans {β β' β'' : Be} {n n' n'' : Nat} (h : Ext β β' n n') (h' : Ext β' β'' n' n'') : Ext β β'' n n'' :=
 ⟨Be.trans h.le h'.le,fun id hid=>(h'.old id (Nat.lt_of_lt_of_le hid h.nx)).trans (h.old id hid),Nat.le_trans h.nx h'.nx⟩
mutual
def R (β : Be) : DV → Value → Prop
 | .bad,_=>True
 | .v x,y=>y = x
 | .s l,y=>y = .string ⟨l.toArray⟩
 | .a ds,y=>∃ cs : Array Value,y = .agg cs ∧ RL β ds cs.toList
 | .t ds,y=>∃ cs : Array Value,y = .tuple cs ∧ RL β ds cs.toList
 | .p id off,y=>∃ b c,β id = some (b,c) ∧ y = .pointer (some ⟨b,off,none⟩)
 | .l id off row len,y=>∃ b c,β id = some (b,c) ∧ row + len ≤ c ∧ y = .slice (some ⟨b,off,none⟩) len (c - row)
 | .e id off,y=>∃ b c,β id = some (b,c) ∧ y = .slice (some ⟨b,off,none⟩) 0 0
 | .f g caps,y=>∃ cs : Array Value,y = .func (.func g) #[] cs ∧ RL β caps cs.toList
 | .i _ _,_=>False
def RL (β : Be) : List DV → List Value → Prop
 | [],vs=>vs = []
 | d :: ds,vs=>∃ x xs,vs = x :: xs ∧ R β d x ∧ RL β ds xs
end
section
variable {β β' : Be}
mutual
theorem R.mono (h : β.le β') : ∀ {d : DV} {y : Value},R β d y → R β' d y
 | .bad,_,_=>by simp only [R]
 | .v _,_,e=>by simpa only [R] using e
 | .s _,_,e=>by simpa only [R] using e
 | .a ds,_,e=>by
  simp only [R] at e ⊢
  obtain ⟨cs,h1,h2⟩ := e
  exact ⟨cs,h1,RL.mono h h2⟩
 | .t ds,_,e=>by
  simp only [R] at e ⊢
  obtain ⟨cs,h1,h2⟩ := e
  exact ⟨cs,h1,RL.mono h h2⟩
 | .p id off,_,e=>by
  simp only [R] at e ⊢
  obtain ⟨b,c,h1,h2⟩ := e
  exact ⟨b,c,h _ _ h1,h2⟩
 | .l id off row len,_,e=>by
  simp only [R] at e ⊢
  obtain ⟨b,c,h1,h2⟩ := e
  exact ⟨b,c,h _ _ h1,h2⟩
 | .e id off,_,e=>by
  simp only [R] at e ⊢
  obtain ⟨b,c,h1,h2⟩ := e
  exact ⟨b,c,h _ _ h1,h2⟩
 | .f g caps,_,e=>by
  simp only [R] at e ⊢
  obtain ⟨cs,h1,h2⟩ := e
  exact ⟨cs,h1,RL.mono h h2⟩
 | .i _ _,_,e=>by simp only [R] at e
theorem RL.mono (h : β.le β') : ∀ {ds : List DV} {ys : List Value},RL β ds ys → RL β' ds ys
 | [],_,e=>by simpa only [RL] using e
 | d :: ds,_,e=>by
  simp only [RL] at e ⊢
  obtain ⟨x,xs,h1,h2,h3⟩ := e
  exact ⟨x,xs,h1,R.mono h h2,RL.mono h h3⟩
end
theorem RL.length : ∀ {ps : List DV} {xs : List Value},RL β ps xs → xs.length = ps.length
 | [],_,h=>by simp only [RL] at h; simp [h]
 | p :: ps,_,h=>by
  simp only [RL] at h
  obtain ⟨x,xs,rfl,_,h3⟩ := h
  simp [RL.length h3]
theorem RL.get : ∀ {ps : List DV} {xs : List Value},RL β ps xs → ∀ (j : Nat) (p : DV),ps[j]? = some p → ∃ x,xs[j]? = some x ∧ R β p x
 | [],_,_,j,p,hp=>by simp at hp
 | q :: ps,_,h,j,p,hp=>by
  simp only [RL] at h
  obtain ⟨x,xs,rfl,h2,h3⟩ := h
  cases j with
  | zero=>simp at hp; subst hp; exact ⟨x,rfl,h2⟩
  | succ j=>simpa using RL.get h3 j p (by simpa using hp)
theorem RL.append : ∀ {ps qs : List DV} {xs ys : List Value},RL β ps xs → RL β qs ys → RL β (ps ++ qs) (xs ++ ys)
 | [],_,_,_,h,h'=>by simp only [RL] at h; subst h; simpa using h'
 | p :: ps,_,_,_,h,h'=>by
  simp only [RL] at h
  obtain ⟨x,xs,rfl,h2,h3⟩ := h
  simp only [List.cons_append,RL]
  exact ⟨x,_,rfl,h2,RL.append h3 h'⟩
theorem RL.take : ∀ {ps : List DV} {xs : List Value} (n : Nat),RL β ps xs → RL β (ps.take n) (xs.take n)
 | [],_,n,h=>by simp only [RL] at h; subst h; simp [RL]
 | p :: ps,_,0,h=>by simp [RL]
 | p :: ps,_,n + 1,h=>by
  simp only [RL] at h
  obtain ⟨x,xs,rfl,h2,h3⟩ := h
  simp only [List.take_succ_cons,RL]
  exact ⟨x,_,rfl,h2,RL.take n h3⟩
theorem RL.drop : ∀ {ps : List DV} {xs : List Value} (n : Nat),RL β ps xs → RL β (ps.drop n) (xs.drop n)
 | [],_,n,h=>by simp only [RL] at h; subst h; simp [RL]
 | p :: ps,_,0,h=>by simpa using h
 | p :: ps,_,n + 1,h=>by
  simp only [RL] at h
  obtain ⟨x,xs,rfl,h2,h3⟩ := h
  simp only [List.drop_succ_cons]
  exact RL.drop n h3
theorem R.const1 (x : Value) : R β (const1 x) x := by
 cases x <;> simp [Cx.const1,R]
theorem cB (l : List Value) : RL β (l.map Cx.const1) l := by
 induction l with
 | nil=>simp [RL]
 | cons v l ih=>simp only [List.map_cons,RL]; exact ⟨v,l,rfl,R.const1 v,ih⟩
theorem R.const (x : Value) : R β (constD x) x := by
 cases x
 case agg cs=>simp only [constD,R]; exact ⟨cs,rfl,cB cs.toList⟩
 all_goals (simp only [constD]; exact R.const1 _)
theorem R.oneCell {d : DV} {x : Value} (h1 : d.one = true) (h : R β d x) : x.oneCell' = true := by
 cases d with
 | bad=>simp [DV.one] at h1
 | v y=>simp only [R] at h; subst h; simpa [DV.one] using h1
 | s l=>simp only [R] at h; rw [h]; rfl
 | a l=>simp [DV.one] at h1
 | t l=>simp [DV.one] at h1
 | p i o=>simp only [R] at h; obtain ⟨b,c,_,rfl⟩ := h; rfl
 | l i o r n=>simp only [R] at h; obtain ⟨b,c,_,_,rfl⟩ := h; rfl
 | e i o=>simp only [R] at h; obtain ⟨b,c,_,rfl⟩ := h; rfl
 | f g cs=>simp only [R] at h; obtain ⟨c,rfl,_⟩ := h; rfl
 | i t d=>simp only [R] at h
theorem RL.oneCell : ∀ {ps : List DV} {xs : List Value},ps.all DV.one = true → RL β ps xs → ∀ x ∈ xs,x.oneCell' = true
 | [],_,_,h=>by simp only [RL] at h; subst h; simp
 | p :: ps,_,h1,h=>by
  simp only [RL] at h
  obtain ⟨x,xs,rfl,h2,h3⟩ := h
  simp only [List.all_cons,Bool.and_eq_true] at h1
  intro y hy
  rcases List.mem_cons.1 hy with rfl | hy
  ·exact R.oneCell h1.1 h2
  ·exact RL.oneCell h1.2 h3 y hy
theorem dC {d : DV} {x : Value} {cs : List DV} (h : dv d = some cs) (hr : R β d x) : RL β cs x.cells.toList ∧ ∀ y ∈ x.cells.toList,y.oneCell' = true := by
 have single : d.one = true → x.cells = #[x] ∧ x.oneCell' = true := by
  intro h1
  have := R.oneCell h1 hr
  refine ⟨?_,this⟩
  cases x <;> simp_all [Value.oneCell',Value.cells]
 cases d with
 | a l =>
  simp only [dv] at h
  cases ho : l.all DV.one with
  | false=>simp [ho] at h
  | true =>
   simp only [ho,zc,zo] at h
   subst h
   simp only [R] at hr
   obtain ⟨c,rfl,hc⟩ := hr
   exact ⟨hc,RL.oneCell ho hc⟩
 | _ =>
  simp only [dv] at h
  cases ho : DV.one _ with
  | false=>rw [ho] at h; simp at h
  | true =>
   rw [ho] at h
   simp only [zc,zo] at h
   subst h
   rw [(single ho).1]
   simp only [RL]
   exact ⟨⟨x,[],rfl,hr,rfl⟩,by simpa using (single ho).2⟩
theorem eZ {cells new : List DV} {cs ns : List Value} (hc : RL β cells cs) (hn : RL β new ns) (off : Nat) :
  RL β (bM cells off new) (cs.take off ++ ns ++ cs.drop (off + ns.length)) := by
 unfold bM
 rw [hn.length]
 exact ((hc.take off).append hn).append (hc.drop _)
theorem ek {cells new : List DV} {off : Nat} (h : off + new.length ≤ cells.length) : (bM cells off new).length = cells.length := by
 simp only [bM,List.length_append,List.length_take,List.length_drop]
 omega
theorem dK {place : Nat → Option (Nat × Nat)} : ∀ {parts : List (Nat × DV)} {vals : List (Nat × Value)} {cells out : List DV} {cs : Array Value},
  cU place cells parts = some out → RL β cells cs.toList → parts.map (·.1) = vals.map (·.1) → RL β (parts.map (·.2)) (vals.map (·.2)) →
  ∃ cs',Instr.fill place cs vals = some cs' ∧ RL β out cs'.toList ∧ ((∀ x ∈ cs.toList,x.oneCell' = true) → ∀ x ∈ cs'.toList,x.oneCell' = true)
 | [],vals,cells,out,cs,h,hc,hi,hv=>by
  simp only [cU,zo] at h
  subst h
  have : vals = [] := by cases vals <;> simp_all
  subst this
  exact ⟨cs,rfl,hc,id⟩
 | (i,p) :: r,[],cells,out,cs,h,hc,hi,hv=>by simp at hi
 | (i,p) :: r,(j,v) :: vs,cells,out,cs,h,hc,hi,hv=>by
  simp only [List.map_cons,List.cons.injEq] at hi
  obtain ⟨rfl,hi⟩ := hi
  simp only [List.map_cons,RL] at hv
  obtain ⟨x,xs,hxe,hpx,hrest⟩ := hv
  simp only [List.cons.injEq] at hxe
  obtain ⟨rfl,rfl⟩ := hxe
  simp only [cU] at h
  split at h
  ·rename_i off size pc hpl hpc
   cases hb : (Nat.beq pc.length size && Nat.ble (off + size) cells.length) with
   | false=>simp [hb] at h
   | true =>
    simp only [hb,zc] at h
    simp only [Bool.and_eq_true] at hb
    have h1 : pc.length = size := Nat.eq_of_beq_eq_true hb.1
    have h2 : off + size ≤ cells.length := Nat.le_of_ble_eq_true hb.2
    obtain ⟨hpcr,hpone⟩ := dC hpc hpx
    have hvl : v.cells.size = size := by have := hpcr.length; simp at this; omega
    have hcl : cs.size = cells.length := by have := hc.length; simpa using this
    have hfold := dD off v.cells.toList 0 cs (by simp; omega)
    have hz : v.cells.zipIdx.foldl (fun cs (c,j)=>cs.setIfInBounds (off + j) c) cs = (v.cells.toList.zipIdx 0).foldl (fun cs (c,j)=>cs.setIfInBounds (off + j) c) cs := by
     rw [← Array.foldl_toList]
     simp
    have hrep : RL β (bM cells off pc) (v.cells.zipIdx.foldl (fun cs (c,j)=>cs.setIfInBounds (off + j) c) cs).toList := by
     rw [hz,hfold]
     simpa using eZ hc hpcr off
    obtain ⟨cs',hf,ho,hone⟩ := dK h hrep hi hrest
    refine ⟨cs',?_,ho,fun hall=>hone ?_⟩
    ·simp only [Instr.fill,hpl]
     rw [zy (by simp [hvl]; omega)]
     exact hf
    ·rw [hz,hfold]
     intro y hy
     simp only [Nat.add_zero,List.mem_append] at hy
     rcases hy with (hy | hy) | hy
     ·exact hall y (List.mem_of_mem_take hy)
     ·exact hpone y hy
     ·exact hall y (List.mem_of_mem_drop hy)
  ·cases h
theorem partsD_rep {ev : Operand → DV} {ρ : Operand → Value} (ps : List (Nat × Operand)) (h : ∀ x ∈ ps.map (·.2),R β (ev x) (ρ x)) :
  (ps.map fun p=>(p.1,ev p.2)).map (·.1) = (ps.map fun p=>(p.1,ρ p.2)).map (·.1) ∧ RL β ((ps.map fun p=>(p.1,ev p.2)).map (·.2)) ((ps.map fun p=>(p.1,ρ p.2)).map (·.2)) := by
 induction ps with
 | nil=>simp [RL]
 | cons p ps ih =>
  have ih' := ih fun x hx=>h x (by simp only [List.map_cons,List.mem_cons]; exact .inr hx)
  refine ⟨by simp,?_⟩
  simp only [List.map_cons,RL]
  exact ⟨_,_,rfl,h p.2 (by simp),ih'.2⟩
theorem buildD_sound {P : Program} {T : TT} (hT : T.Ok P) {ev : Operand → DV} {ρ : Operand → Value} (w : World) {t : TypeId} {ps : Array (Nat × Operand)} {r : DV}
  (h : buildD T t (partsD ev ps) = some r) (he : ∀ x ∈ ps.toList.map (·.2),R β (ev x) (ρ x)) :
  ∃ v,(Instr.build t (ps.map fun p=>(p.1,ρ p.2))).run P w = .ok v w ∧ R β r v := by
 unfold buildD at h
 split at h
 ·rename_i ti hti
  have hk := hT.get hti
  split at h
  ·rename_i fs hfs
   split at h
   ·rename_i l hl
    cases hf : cU (fun (i : Nat)=>l[i]?) (cd ti) (partsD ev ps) with
    | none=>simp [hf] at h
    | some out =>
     simp only [hf,Option.map_some,zo] at h
     subst h
     obtain ⟨h1,h2⟩ := partsD_rep (β := β) ps.toList he
     have hu := hk.rund w
     rw [hfs] at hu
     obtain ⟨cs',hfill,hrep,_⟩ := dK (cs := ti.zero.cells) (vals := ps.toList.map fun (p : Nat × Operand)=>(p.1,ρ p.2)) hf (cB _) h1 h2
     refine ⟨.agg cs',?_,by simp only [R]; exact ⟨cs',rfl,hrep⟩⟩
     have hpl : (fs.mapM fun f=>(do pure (f.offset,← sizeOf f.type) : Sem (Nat × Nat))).run P w = .ok l.toArray w := by
      rw [Array.mapM_eq_mapM_toList,Sem.run_map,eg hT w hl]
      rfl
     have hgl : (fun (i : Nat)=>l.toArray[i]?) = fun (i : Nat)=>l[i]? := by funext i; simp
     simp only [Instr.build,Sem.run_bind,hk.rzero w,Result.andThen_ok,hu,hpl,Array.toList_map]
     have e3 : Instr.fill (fun (i : Nat)=>l.toArray[i]?) ti.zero.cells (ps.toList.map fun p=>(p.1,ρ p.2)) = some cs' := by rw [hgl]; exact hfill
     rw [e3]
     rfl
   ·cases h
  ·cases h
 ·cases h
end
theorem Tr.get_set {α : Type} : ∀ (n : Nat) (t : Tr α) (k : Nat) (x : α) (j : Nat),(Tr.set n t k x).get j = none ∨ (j = k ∧ (Tr.set n t k x).get j = some x) ∨ (j ≠ k ∧ (Tr.set n t k x).get j = t.get j)
 | 0,_,_,_,_=>.inl rfl
 | n + 1,t,k,x,j=>by
  have key : ∀ (l : Tr α) (v : Option α) (r : Tr α),t.get j = (Tr.node l v r).get j → Tr.set (n + 1) t k x = (bif Nat.beq k 0 then .node l (some x) r else bif Nat.beq (k % 2) 1 then .node (Tr.set n l (k / 2) x) v r else .node l v (Tr.set n r (k / 2 - 1) x)) →
    (Tr.set (n + 1) t k x).get j = none ∨ (j = k ∧ (Tr.set (n + 1) t k x).get j = some x) ∨ (j ≠ k ∧ (Tr.set (n + 1) t k x).get j = t.get j) := by
   intro l v r ht hs
   rw [hs,ht]
   cases h0 : Nat.beq k 0 with
   | true =>
    have hk := Nat.eq_of_beq_eq_true h0
    simp only [zc,Tr.get]
    cases g0 : Nat.beq j 0 with
    | true =>
     have hj := Nat.eq_of_beq_eq_true g0
     exact .inr (.inl ⟨by omega,rfl⟩)
    | false =>
     have hj := Nat.ne_of_beq_eq_false g0
     exact .inr (.inr ⟨by omega,rfl⟩)
   | false =>
    have hk := Nat.ne_of_beq_eq_false h0
    cases h1 : Nat.beq (k % 2) 1 with
    | true =>
     have hk1 := Nat.eq_of_beq_eq_true h1
     simp only [zd,zc,Tr.get]
     cases g0 : Nat.beq j 0 with
     | true =>
      have hj := Nat.eq_of_beq_eq_true g0
      exact .inr (.inr ⟨by omega,rfl⟩)
     | false =>
      have hj := Nat.ne_of_beq_eq_false g0
      cases g1 : Nat.beq (j % 2) 1 with
      | true =>
       have hj1 := Nat.eq_of_beq_eq_true g1
       simp only [zd,zc]
       rcases Tr.get_set n l (k / 2) x (j / 2) with h | ⟨h,e⟩ | ⟨h,e⟩
       ·exact .inl h
       ·exact .inr (.inl ⟨by omega,e⟩)
       ·exact .inr (.inr ⟨by omega,e⟩)
      | false =>
       have hj1 := Nat.ne_of_beq_eq_false g1
       simp only [zd]
       exact .inr (.inr ⟨fun e=>hj1 (e ▸ hk1),trivial⟩)
    | false =>
     have hk1 := Nat.ne_of_beq_eq_false h1
     simp only [zd,Tr.get]
     cases g0 : Nat.beq j 0 with
     | true =>
      have hj := Nat.eq_of_beq_eq_true g0
      exact .inr (.inr ⟨by omega,rfl⟩)
     | false =>
      have hj := Nat.ne_of_beq_eq_false g0
      cases g1 : Nat.beq (j % 2) 1 with
      | true =>
       have hj1 := Nat.eq_of_beq_eq_true g1
       simp only [zd,zc]
       exact .inr (.inr ⟨fun e=>hk1 (e ▸ hj1),trivial⟩)
      | false =>
       have hj1 := Nat.ne_of_beq_eq_false g1
       simp only [zd]
       rcases Tr.get_set n r (k / 2 - 1) x (j / 2 - 1) with h | ⟨h,e⟩ | ⟨h,e⟩
       ·exact .inl h
       ·exact .inr (.inl ⟨by omega,e⟩)
       ·exact .inr (.inr ⟨by omega,e⟩)
  cases t with
  | nil =>
   refine key .nil none .nil ?_ rfl
   simp only [Tr.get]
   cases Nat.beq j 0 <;> cases Nat.beq (j % 2) 1 <;> rfl
  | node l v r=>exact key l v r rfl rfl
theorem aS {h : Tr (Option Blk)} {id : Nat} {x : Option Blk} {j : Nat} {k : Blk} (e : aC (h.set 24 id x) j = some k) : (j = id ∧ x = some k) ∨ (j ≠ id ∧ aC h j = some k) := by
 unfold aC at e ⊢
 rcases Tr.get_set 24 h id x j with hn | ⟨rfl,hs⟩ | ⟨hne,hs⟩
 ·rw [hn] at e; cases e
 ·rw [hs] at e; exact .inl ⟨rfl,e⟩
 ·rw [hs] at e; exact .inr ⟨hne,e⟩
def Tr.fits {α : Type} : Nat → Tr α → Prop
 | _,.nil=>True
 | 0,.node _ _ _=>False
 | n + 1,.node l _ r=>l.fits n ∧ r.fits n
theorem Tr.set_fits {α : Type} : ∀ (n : Nat) (t : Tr α) (k : Nat) (x : α),t.fits n → (Tr.set n t k x).fits n
 | 0,_,_,_,_=>by simp [Tr.set,Tr.fits]
 | n + 1,.nil,k,x,_=>by
  simp only [Tr.set]
  cases Nat.beq k 0 <;> cases Nat.beq (k % 2) 1 <;> simp only [zc,zd,Tr.fits] <;>
   first | exact ⟨trivial,trivial⟩ | exact ⟨Tr.set_fits n .nil _ x (by simp [Tr.fits]),trivial⟩ | exact ⟨trivial,Tr.set_fits n .nil _ x (by simp [Tr.fits])⟩ | (cases n <;> simp [Tr.fits])
 | n + 1,.node l v r,k,x,h=>by
  simp only [Tr.fits] at h
  simp only [Tr.set]
  cases Nat.beq k 0 <;> cases Nat.beq (k % 2) 1 <;> simp only [zc,zd,Tr.fits] <;>
   first | exact h | exact ⟨Tr.set_fits n l _ x h.1,h.2⟩ | exact ⟨h.1,Tr.set_fits n r _ x h.2⟩
theorem Tr.get_same {α : Type} : ∀ (n : Nat) (t : Tr α) (k : Nat) (x : α),k + 1 < 2 ^ n → (Tr.set n t k x).get k = some x
 | 0,_,k,_,h=>by simp at h
 | n + 1,t,k,x,h=>by
  have key : ∀ (l : Tr α) (v : Option α) (r : Tr α),((bif Nat.beq k 0 then Tr.node l (some x) r else bif Nat.beq (k % 2) 1 then .node (Tr.set n l (k / 2) x) v r else .node l v (Tr.set n r (k / 2 - 1) x)) : Tr α).get k = some x := by
   intro l v r
   have hp : 2 ^ (n + 1) = 2 * 2 ^ n := by rw [Nat.pow_succ]; omega
   cases h0 : Nat.beq k 0 with
   | true=>simp [Tr.get,h0]
   | false =>
    have hk := Nat.ne_of_beq_eq_false h0
    cases h1 : Nat.beq (k % 2) 1 with
    | true =>
     have hk1 := Nat.eq_of_beq_eq_true h1
     simp only [zd,zc,Tr.get,h0,h1]
     exact Tr.get_same n l (k / 2) x (by omega)
    | false =>
     have := Nat.ne_of_beq_eq_false h1
     simp only [zd,Tr.get,h0,h1]
     exact Tr.get_same n r (k / 2 - 1) x (by omega)
  cases t with
  | nil=>exact key .nil none .nil
  | node l v r=>exact key l v r
theorem Tr.get_other {α : Type} : ∀ (n : Nat) (t : Tr α) (k : Nat) (x : α) (j : Nat),t.fits n → j ≠ k → (k + 1 < 2 ^ n) → (Tr.set n t k x).get j = t.get j
 | 0,_,k,_,_,_,_,h=>by simp at h
 | n + 1,t,k,x,j,hf,hj,h=>by
  have hp : 2 ^ (n + 1) = 2 * 2 ^ n := by rw [Nat.pow_succ]; omega
  have key : ∀ (l : Tr α) (v : Option α) (r : Tr α),l.fits n → r.fits n → ((bif Nat.beq k 0 then Tr.node l (some x) r else bif Nat.beq (k % 2) 1 then .node (Tr.set n l (k / 2) x) v r else .node l v (Tr.set n r (k / 2 - 1) x)) : Tr α).get j = (Tr.node l v r).get j := by
   intro l v r hl hr
   cases h0 : Nat.beq k 0 with
   | true =>
    have hk := Nat.eq_of_beq_eq_true h0
    have g0 : Nat.beq j 0 = false := by cases g : Nat.beq j 0 with | false=>rfl | true=>exact absurd (Nat.eq_of_beq_eq_true g) (by omega)
    simp [Tr.get,g0]
   | false =>
    have hk := Nat.ne_of_beq_eq_false h0
    cases h1 : Nat.beq (k % 2) 1 with
    | true =>
     have hk1 := Nat.eq_of_beq_eq_true h1
     simp only [zd,zc,Tr.get]
     cases g0 : Nat.beq j 0 with
     | true=>rfl
     | false =>
      cases g1 : Nat.beq (j % 2) 1 with
      | true =>
       have hj1 := Nat.eq_of_beq_eq_true g1
       simp only [zd,zc]
       exact Tr.get_other n l (k / 2) x (j / 2) hl (by omega) (by omega)
      | false=>rfl
    | false =>
     have hk1 := Nat.ne_of_beq_eq_false h1
     simp only [zd,Tr.get]
     cases g0 : Nat.beq j 0 with
     | true=>rfl
     | false =>
      have hj0 := Nat.ne_of_beq_eq_false g0
      cases g1 : Nat.beq (j % 2) 1 with
      | true=>rfl
      | false =>
       have hj1 := Nat.ne_of_beq_eq_false g1
       simp only [zd]
       exact Tr.get_other n r (k / 2 - 1) x (j / 2 - 1) hr (by omega) (by omega)
  cases t with
  | nil =>
   have e := key .nil none .nil (by cases n <;> simp [Tr.fits]) (by cases n <;> simp [Tr.fits])
   have e2 : (Tr.node .nil none .nil : Tr α).get j = (Tr.nil : Tr α).get j := by
    simp only [Tr.get]
    cases Nat.beq j 0 <;> cases Nat.beq (j % 2) 1 <;> rfl
   exact e.trans e2
  | node l v r =>
   simp only [Tr.fits] at hf
   exact key l v r hf.1 hf.2
def BOk (β : Be) (w : World) (id : Nat) (k : Blk) : Prop :=
 ∃ b c arr fz,β id = some (b,c) ∧ w.heap[b]? = some (.cells arr k.e fz) ∧ (k.wr = true → fz = (0,0)) ∧ k.cells.length ≤ arr.size ∧ RL β k.cells (arr.toList.take k.cells.length) ∧
  (∀ m,k.cap = some m → c = m) ∧ (k.sz ≠ 0 → arr.size = c * k.sz)
structure WR (W0 : World) (B : Nat → Option Go.Obj) (β : Be) (H : Hp) (w : World) : Prop where
 os : w.os = W0.os
 tape : w.tape = W0.tape
 output : w.output = W0.output
 size : W0.heap.size ≤ w.heap.size
 prot : ∀ b o,B b = some o → w.heap[b]? = some o
 dom : ∀ id b c,β id = some (b,c) → id < H.nx ∧ b < w.heap.size
 blk : ∀ id k,aC H.h id = some k → BOk β w id k
 own : ∀ id k b c,aC H.h id = some k → β id = some (b,c) → B b = none
 inj : ∀ id id' k k' b c c',aC H.h id = some k → aC H.h id' = some k' → β id = some (b,c) → β id' = some (b,c') → id = id'
 fit : H.h.fits 24
structure Fr (w w' : World) (b : Nat) : Prop where
 os : w'.os = w.os
 tape : w'.tape = w.tape
 output : w'.output = w.output
 size : w.heap.size ≤ w'.heap.size
 other : ∀ b',b' ≠ b → b' < w.heap.size → w'.heap[b']? = w.heap[b']?
theorem Fr.setRow (w : World) (b : Nat) (arr : Array Value) : Fr w (w.setRow b arr) b :=
 ⟨rfl,rfl,rfl,by simp,fun b' h _=>setRow_other w b b' _ h⟩
theorem Fr.alloc (w : World) (hd : World) (hdw : hd = w ∨ hd = w.drew) (o : Go.Obj) : Fr w (hd.alloc o) w.heap.size := by
 have e1 : hd.heap = w.heap := by rcases hdw with rfl | rfl <;> rfl
 have hsz : hd.heap.size = w.heap.size := by rw [e1]
 refine ⟨by rcases hdw with rfl | rfl <;> rfl,by rcases hdw with rfl | rfl <;> rfl,by rcases hdw with rfl | rfl <;> rfl,?_,fun b' _ hb'=>?_⟩
 ·rw [dr,hsz]; omega
 ·rw [heap_alloc_old hd _ (by rw [hsz]; exact hb'),e1]
def aT (β : Be) (k : Nat) (x : Nat × Nat) : Be := fun j=>if j = k then some x else β j
section
variable {W0 : World} {B : Nat → Option Go.Obj} {β : Be} {H : Hp} {w : World}
theorem WR.drew (hw : WR W0 B β H w) : WR W0 B β H w.drew :=
 ⟨hw.os,hw.tape,hw.output,hw.size,hw.prot,hw.dom,hw.blk,hw.own,hw.inj,hw.fit⟩
theorem WR.fresh (hw : WR W0 B β H w) : B w.heap.size = none := by
 cases h : B w.heap.size with
 | none=>rfl
 | some o =>
  have := (Array.getElem?_eq_some_iff.1 (hw.prot _ _ h)).1
  exact absurd this (Nat.lt_irrefl _)
theorem le_upd {id : Nat} (hid : β id = none) (x : Nat × Nat) : β.le (aT β id x) := by
 intro j y hj
 simp only [aT]
 by_cases e : j = id
 ·subst e; rw [hid] at hj; cases hj
 ·rw [zy e]; exact hj
theorem ext_upd {id : Nat} (hid : β id = none) (x : Nat × Nat) : Ext β (aT β id x) id (id + 1) :=
 ⟨le_upd hid x,fun j hj=>by simp only [aT]; rw [zy (by omega)],Nat.le_succ _⟩
theorem WR.nx_none (hw : WR W0 B β H w) : β H.nx = none := by
 cases h : β H.nx with
 | none=>rfl
 | some x=>exact absurd (hw.dom _ x.1 x.2 h).1 (Nat.lt_irrefl _)
theorem WR.put (hw : WR W0 B β H w) {w' : World} {b c id nx : Nat} {arr : Array Value} {fz : Nat × Nat} {k : Blk} (hid : β id = none) (hnx : H.nx ≤ nx) (hlt : id < nx) (hlook : ∀ k,aC H.h id ≠ some k) (hB : B b = none) (hfree : ∀ j k c,aC H.h j = some k → β j ≠ some (b,c))
  (hf : Fr w w' b) (hnew : w'.heap[b]? = some (.cells arr k.e fz))
  (hfz : k.wr = true → fz = (0,0)) (hlen : k.cells.length ≤ arr.size) (hr : RL β k.cells (arr.toList.take k.cells.length)) (hc : ∀ m,k.cap = some m → c = m) (hs : k.sz ≠ 0 → arr.size = c * k.sz) :
  WR W0 B (aT β id (b,c)) ⟨H.h.set 24 id (some k),nx⟩ w' := by
 have hle := le_upd hid (b,c)
 have hbl : b < w'.heap.size := (Array.getElem?_eq_some_iff.1 hnew).1
 have same : ∀ j b' c',j ≠ id → aT β id (b,c) j = some (b',c') → β j = some (b',c') := by
  intro j b' c' hj h
  simpa only [aT,zy hj] using h
 have new : ∀ b' c',aT β id (b,c) id = some (b',c') → b' = b ∧ c' = c := by
  intro b' c' h
  simp only [aT,if_true,zo,Prod.mk.injEq] at h
  exact ⟨h.1.symm,h.2.symm⟩
 refine ⟨hf.os.trans hw.os,hf.tape.trans hw.tape,hf.output.trans hw.output,Nat.le_trans hw.size hf.size,?_,?_,?_,?_,?_,Tr.set_fits _ _ _ _ hw.fit⟩
 ·intro b' o hb'
  have h1 := hw.prot b' o hb'
  rw [hf.other b' (fun e=>by rw [e,hB] at hb'; cases hb') (Array.getElem?_eq_some_iff.1 h1).1]
  exact h1
 ·intro j b' c' hj
  show j < nx ∧ _
  by_cases e : j = id
  ·subst e
   obtain ⟨rfl,rfl⟩ := new _ _ hj
   exact ⟨hlt,hbl⟩
  ·obtain ⟨h1,h2⟩ := hw.dom j b' c' (same j b' c' e hj)
   exact ⟨by omega,Nat.lt_of_lt_of_le h2 hf.size⟩
 ·intro j k' hj
  rcases aS hj with ⟨rfl,e⟩ | ⟨hne,e⟩
  ·cases e
   exact ⟨b,c,arr,fz,by simp [aT],hnew,hfz,hlen,hr.mono hle,hc,hs⟩
  ·obtain ⟨b',c',arr',fz',h1,h2,h3,h4,h5,h6,h7⟩ := hw.blk j k' e
   have hb' : b' ≠ b := fun eb=>hfree j k' c' e (by rw [h1,eb])
   exact ⟨b',c',arr',fz',hle _ _ h1,(hf.other b' hb' (hw.dom j b' c' h1).2).trans h2,h3,h4,h5.mono hle,h6,h7⟩
 ·intro j k' b' c' hj h1
  rcases aS hj with ⟨e,_⟩ | ⟨e,hk⟩
  ·rw [e] at h1
   obtain ⟨rfl,_⟩ := new _ _ h1
   exact hB
  ·exact hw.own j k' b' c' hk (same j _ _ e h1)
 ·intro j j' k1 k2 b1 c1 c2 hj hj' h1 h2
  rcases aS hj with ⟨e,_⟩ | ⟨e,hk⟩ <;> rcases aS hj' with ⟨e',_⟩ | ⟨e',hk'⟩
  ·rw [e,e']
  ·rw [e] at h1
   obtain ⟨rfl,_⟩ := new _ _ h1
   exact absurd (same j' _ _ e' h2) (hfree j' k2 c2 hk')
  ·rw [e'] at h2
   obtain ⟨rfl,_⟩ := new _ _ h2
   exact absurd (same j _ _ e h1) (hfree j k1 c1 hk)
  ·exact hw.inj j j' k1 k2 b1 c1 c2 hk hk' (same j _ _ e h1) (same j' _ _ e' h2)
theorem WR.nlook (hw : WR W0 B β H w) {id : Nat} (hid : β id = none) : ∀ k,aC H.h id ≠ some k := by
 intro k h
 obtain ⟨b,c,_,_,h1,_⟩ := hw.blk id k h
 rw [hid] at h1
 cases h1
theorem WR.new (hw : WR W0 B β H w) (hd : World) (hdw : hd = w ∨ hd = w.drew) {c : Nat} {arr : Array Value} {fz : Nat × Nat} {k : Blk} (hfz : k.wr = true → fz = (0,0)) (hlen : k.cells.length ≤ arr.size)
  (hr : RL β k.cells (arr.toList.take k.cells.length)) (hc : ∀ m,k.cap = some m → c = m) (hs : k.sz ≠ 0 → arr.size = c * k.sz) :
  Ext β (aT β H.nx (w.heap.size,c)) H.nx (H.nx + 1) ∧ WR W0 B (aT β H.nx (w.heap.size,c)) (newD H k) (hd.alloc (.cells arr k.e fz)) := by
 refine ⟨ext_upd hw.nx_none _,hw.put hw.nx_none (Nat.le_succ _) (Nat.lt_succ_self _) (hw.nlook hw.nx_none) hw.fresh (fun j k c _ h=>absurd (hw.dom j _ _ h).2 (Nat.lt_irrefl _)) (Fr.alloc w hd hdw _) ?_ hfz hlen hr hc hs⟩
 have e1 : hd.heap.size = w.heap.size := by rcases hdw with rfl | rfl <;> rfl
 rw [← e1]
 exact heap_alloc_new hd _
theorem WR.write (hw : WR W0 B β H w) {id b c : Nat} {k : Blk} (hid : aC H.h id = some k) (hβ : β id = some (b,c)) {arr : Array Value} {cells : List DV} (hcur : ∃ cur,w.heap[b]? = some (.cells cur k.e (0,0)) ∧ cur.size = arr.size)
  (hlen : cells.length ≤ arr.size) (hr : RL β cells (arr.toList.take cells.length)) : WR W0 B β ⟨H.h.set 24 id (some ⟨k.e,k.sz,k.cap,k.wr,cells⟩),H.nx⟩ (w.setRow b arr) := by
 obtain ⟨cur,hcur,hsz⟩ := hcur
 have old : ∀ j k',aC (H.h.set 24 id (some ⟨k.e,k.sz,k.cap,k.wr,cells⟩)) j = some k' → ∃ k'',aC H.h j = some k'' := by
  intro j k' hj
  rcases aS hj with ⟨rfl,e⟩ | ⟨_,e⟩
  ·exact ⟨k,hid⟩
  ·exact ⟨k',e⟩
 refine ⟨hw.os,hw.tape,hw.output,by simpa using hw.size,fun b' o hb'=>?_,fun j b' c' hj=>?_,fun j k' hj=>?_,fun j k' b' c' hj h1=>?_,fun j j' k1 k2 b1 c1 c2 hj hj' h1 h2=>?_,Tr.set_fits _ _ _ _ hw.fit⟩
 ·have hne : b' ≠ b := fun e=>by
   rw [e,hw.own id k b c hid hβ] at hb'
   cases hb'
  rw [setRow_other w b b' _ hne]
  exact hw.prot b' o hb'
 ·simpa using hw.dom j b' c' hj
 ·obtain ⟨b0,c0,arr0,fz0,g1,g2,g3,g4,g5,g6,g7⟩ := hw.blk id k hid
  rw [hβ] at g1
  cases g1
  rw [hcur] at g2
  cases g2
  rcases aS hj with ⟨rfl,e⟩ | ⟨hne,e⟩
  ·cases e
   exact ⟨b,c,arr,(0,0),hβ,setRow_heap w b cur arr _ _ hcur,fun _=>rfl,hlen,hr,g6,fun h=>by rw [← hsz]; exact g7 h⟩
  ·obtain ⟨b',c',arr',fz',h1,h2,h3⟩ := hw.blk j k' e
   have hb' : b' ≠ b := fun eb=>hne (hw.inj j id k' k b c' c e hid (by rw [h1,eb]) hβ)
   exact ⟨b',c',arr',fz',h1,(setRow_other w b b' _ hb').trans h2,h3⟩
 ·obtain ⟨k'',hk''⟩ := old j k' hj
  exact hw.own j k'' b' c' hk'' h1
 ·obtain ⟨k1',hk1⟩ := old j k1 hj
  obtain ⟨k2',hk2⟩ := old j' k2 hj'
  exact hw.inj j j' k1' k2' b1 c1 c2 hk1 hk2 h1 h2
theorem WR.less (hw : WR W0 B β H w) {H' : Hp} (hl : ∀ id k,aC H'.h id = some k → aC H.h id = some k) (hnx : H.nx ≤ H'.nx) (hf : H'.h.fits 24) : WR W0 B β H' w :=
 ⟨hw.os,hw.tape,hw.output,hw.size,hw.prot,fun id b c h=>⟨Nat.lt_of_lt_of_le (hw.dom id b c h).1 hnx,(hw.dom id b c h).2⟩,fun j k' hj=>hw.blk j k' (hl _ _ hj),fun j k b c hj=>hw.own j k b c (hl _ _ hj),
  fun j j' k1 k2 b1 c1 c2 hj hj'=>hw.inj j j' k1 k2 b1 c1 c2 (hl _ _ hj) (hl _ _ hj'),hf⟩
theorem look_drop {h : Tr (Option Blk)} {id j : Nat} {k : Blk} (e : aC (h.set 24 id none) j = some k) : j ≠ id ∧ aC h j = some k := by
 rcases aS e with ⟨_,e1⟩ | ⟨hne,e1⟩
 ·cases e1
 ·exact ⟨hne,e1⟩
theorem WR.drop (hw : WR W0 B β H w) (id : Nat) : WR W0 B β ⟨H.h.set 24 id none,H.nx⟩ w :=
 hw.less (fun _ _ h=>(look_drop h).2) (Nat.le_refl _) (Tr.set_fits _ _ _ _ hw.fit)
theorem WR.cell (hw : WR W0 B β H w) {id b c : Nat} {k : Blk} (hid : aC H.h id = some k) (hβ : β id = some (b,c)) :
  ∃ xs : List Value,RL β k.cells xs ∧ ∀ (j : Nat) (x : Value),xs[j]? = some x → w.cell? ⟨b,j,none⟩ = some x := by
 obtain ⟨b0,c0,arr,fz,g1,g2,g3,g4,g5,_⟩ := hw.blk id k hid
 rw [hβ] at g1
 cases g1
 refine ⟨_,g5,fun j x hj=>?_⟩
 rw [cell_of_row w b j arr k.e fz g2]
 rw [List.getElem?_take] at hj
 split at hj
 ·simpa using hj
 ·cases hj
end
section
variable {P : Program} {T : TT} (hT : T.Ok P) {W0 : World} {B : Nat → Option Go.Obj} {β : Be} {H : Hp} {w : World}
include hT
omit hT in
theorem fu {d : Nat} {t : TypeId} {ti : TInfo} (hti : ti.Ok P t) {p q : DV} {x y : Value} (hp : R β p x) (hq : R β q y) {b : Bool} (h : ew ti.desc p q = some b) :
  cC ti.desc = false ∧ (Op.equalIn (d + 1) t x y).run P w = .ok b w := by
 obtain ⟨desc,size,bytes,zero,eqf⟩ := ti
 have hu := hti.und
 simp only at hu h ⊢
 unfold ew at h
 split at h
 ·rename_i k0 k a k' b'
  simp only [R] at hp hq
  subst hp hq
  cases hk : decide (k = k') with
  | false=>simp [hk] at h
  | true =>
   simp only [hk,zc,zo] at h
   have := of_decide_eq_true hk
   subst this h
   exact ⟨rfl,run_equalIn_int w d t k k0 a b' hu⟩
 ·simp only [R] at hp hq
  subst hp hq
  simp only [zo] at h
  subst h
  exact ⟨rfl,run_equalIn_bool' w d t _ _ hu⟩
 ·rename_i a b'
  simp only [R] at hp hq
  subst hp hq
  simp only [zo] at h
  subst h
  refine ⟨rfl,?_⟩
  have := run_equalIn_string (P := P) w d t ⟨a.toArray⟩ ⟨b'.toArray⟩ hu
  simpa using this
 ·cases h
theorem cP {d : Nat} {xs ys : List DV} {cs ds : Array Value} (hx : RL β xs cs.toList) (hy : RL β ys ds.toList) :
  ∀ (fs : List Field) (eqf : List (Nat × Nat)) (b : Bool),aG fs eqf → bX T eqf xs ys = some b → (Op.eqFields (d + 1) cs ds fs).run P w = .ok b w
 | [],[],b,_,h=>by simp only [bX,zo] at h; subst h; simp [Op.eqFields]
 | f :: fs,(t,o) :: r,b,hm,h=>by
  simp only [aG] at hm
  obtain ⟨hn,rfl,rfl,hm⟩ := hm
  simp only [bX] at h
  split at h
  ·rename_i ti p q hti hp hq
   split at h
   ·rename_i b1 b2 h1 h2
    simp only [zo] at h
    subst h
    obtain ⟨x,hx1,hx2⟩ := hx.get _ _ hp
    obtain ⟨y,hy1,hy2⟩ := hy.get _ _ hq
    obtain ⟨hag,heq⟩ := fu (w := w) (d := d) (hT.get hti) hx2 hy2 h1
    have hpx : ∀ (c : Array Value) (z : Value),c.toList[f.offset]? = some z → (part f.type c f.offset).run P w = .ok z w := by
     intro c z hz
     rw [Array.getElem?_toList] at hz
     simp [part,(hT.get hti).ragg w,hag,hz]
    have ih := cP (d := d) hx hy fs r b2 hm h2
    simp only [Op.eqFields, zp (show f.name ≠ "_" from hn), Sem.run_bind, hpx _ _ hx1, hpx _ _ hy1, Result.andThen_ok, heq]
    cases b1 <;> simp [ih]
   ·cases h
  ·cases h
 | [],_ :: _,b,hm,_=>by simp [aG] at hm
 | _ :: _,[],b,hm,_=>by simp [aG] at hm
theorem binD_sound {op : BinOp} {t : TypeId} {p q r : DV} (h : binD T op t p q = some r) {x y : Value} (hp : R β p x) (hq : R β q y) (xo yo : Operand) :
  ∃ v,(do eqGuard op t xo yo x y; binOp op t x y : Sem Value).run P w = .ok v w ∧ R β r v := by
 unfold binD at h
 split at h
 ·rename_i k a k' b
  simp only [R] at hp hq
  subst hp hq
  cases hk : decide (k = k') with
  | false=>simp [hk] at h
  | true =>
   have := of_decide_eq_true hk
   subst this
   simp only [decide_true,zc] at h
   have hg : (eqGuard op t xo yo (.int k a) (.int k b)).run P w = .ok () w := by unfold eqGuard; split <;> simp
   rw [Sem.run_bind,hg,Result.andThen_ok]
   cases op <;> simp only [cmpInt,Option.map_some,Option.map_none,zo,reduceCtorEq] at h <;>
    (try split at h) <;> (try (simp only [zo,reduceCtorEq] at h)) <;> (try subst h) <;>
    simp_all [binOp,Op.intArith,Op.intDiv,Op.intCmp,R]
 ·rename_i a b
  simp only [R] at hp hq
  subst hp hq
  have hg : (eqGuard op t xo yo (.string ⟨a.toArray⟩) (.string ⟨b.toArray⟩)).run P w = .ok () w := by unfold eqGuard; split <;> simp
  rw [Sem.run_bind,hg,Result.andThen_ok]
  have hs : ∀ l : List UInt8,(ByteArray.mk l.toArray).size = l.length := fun l=>by simp [ByteArray.size]
  cases op <;> simp only [cmpStr,Option.map_some,Option.map_none,zo,reduceCtorEq] at h <;>
   (try split at h) <;> (try (simp only [zo,reduceCtorEq] at h)) <;> (try subst h) <;> (try cases h) <;>
   simp [binOp,Op.stringOp,R]
  rename_i hle
  have h63 : ¬ ((9223372036854775807 : Int) < (a.length : Int) + (b.length : Int)) := by
   unfold aZ at hle
   omega
  rw [hs,hs,zy h63,ByteArray.mk_append_mk]
 ·rename_i a b
  simp only [R] at hp hq
  subst hp hq
  split at h
  ·rename_i hti
   have hu := (hT.get hti).und
   simp only [zo] at h
   subst h
   have hg : (eqGuard .eql t xo yo (.bool a) (.bool b)).run P w = .ok () w := by simp [eqGuard]
   rw [Sem.run_bind,hg,Result.andThen_ok]
   refine ⟨.bool (a == b),?_,by simp only [R]⟩
   simp only [binOp,Op.equal,Op.maxDepth]
   rw [Sem.run_bind,run_equalIn_bool' w 9999 t a b hu]
   rfl
  ·rename_i hti
   have hu := (hT.get hti).und
   simp only [zo] at h
   subst h
   have hg : (eqGuard .neq t xo yo (.bool a) (.bool b)).run P w = .ok () w := by simp [eqGuard]
   rw [Sem.run_bind,hg,Result.andThen_ok]
   refine ⟨.bool (!(a == b)),?_,by simp only [R]⟩
   simp only [binOp,Op.equal,Op.maxDepth]
   rw [Sem.run_bind,run_equalIn_bool' w 9999 t a b hu]
   rfl
  ·cases h
 ·rename_i xs ys
  simp only [R] at hp hq
  obtain ⟨cs,rfl,hc⟩ := hp
  obtain ⟨ds,rfl,hd⟩ := hq
  split at h
  ·rename_i ti hti
   cases he : ti.eqf.isEmpty with
   | true=>simp [he] at h
   | false =>
    simp only [he,zd] at h
    obtain ⟨h1,h2,h3,h4⟩ := (hT.get hti).eqs (by intro h0; simp [h0] at he)
    rw [Sem.run_bind,run_eqGuard_agg w op t xo yo cs ds h2,Result.andThen_ok]
    split at h
    ·cases hb : bX T ti.eqf xs ys with
     | none=>simp [hb] at h
     | some b =>
      simp only [hb,Option.map_some,zo] at h
      subst h
      refine ⟨.bool b,?_,by simp only [R]⟩
      rw [run_eql_struct w t cs ds,show (10000 : Nat) = 9998 + 1 + 1 from rfl,run_equalIn_agg w (9998 + 1) t cs ds h4 h1,cP hT (d := 9998) hc hd _ _ b h3 hb]
      rfl
    ·cases hb : bX T ti.eqf xs ys with
     | none=>simp [hb] at h
     | some b =>
      simp only [hb,Option.map_some,zo] at h
      subst h
      refine ⟨.bool (!b),?_,by simp only [R]⟩
      rw [run_neq_struct w t cs ds,show (10000 : Nat) = 9998 + 1 + 1 from rfl,run_equalIn_agg w (9998 + 1) t cs ds h4 h1,cP hT (d := 9998) hc hd _ _ b h3 hb]
      rfl
    ·cases h
  ·cases h
 ·cases h
theorem nilD_sound {op : BinOp} {t : TypeId} {a : Act} {x y : Operand} {p r : DV} {xv : Value} (h : nilD T op t y p = some r) (hp : R β p xv) :
  ∃ v,(do eqGuard op t x y xv (a.eval y); binOp op t xv (a.eval y) : Sem Value).run P w = .ok v w ∧ R β r v := by
 unfold nilD at h
 split at h
 ·simp only [R] at hp
  subst hp
  have ey : a.eval (.const .nilIface) = .nilIface := rfl
  split at h
  ·rename_i ti hti
   have hu := (hT.get hti).und
   have hE : ∀ d,∀ ms,ti.desc = .interface ms → (Op.equalIn (d + 1) t .nilIface .nilIface).run P w = .ok true w := by
    intro d ms hd
    rw [hd] at hu
    simp [Op.equalIn,run_underlying hu]
   split at h
   ·rename_i ms hd
    simp only [zo] at h
    subst h
    refine ⟨.bool true,?_,by simp only [R]⟩
    have hg : (eqGuard .eql t x (.const .nilIface) .nilIface .nilIface).run P w = .ok () w := by simp [eqGuard]
    rw [ey,Sem.run_bind,hg,Result.andThen_ok]
    simp only [binOp,Op.equal,Op.maxDepth]
    rw [Sem.run_bind,hE 9999 _ hd]
    rfl
   ·rename_i ms hd
    simp only [zo] at h
    subst h
    refine ⟨.bool false,?_,by simp only [R]⟩
    have hg : (eqGuard .neq t x (.const .nilIface) .nilIface .nilIface).run P w = .ok () w := by simp [eqGuard]
    rw [ey,Sem.run_bind,hg,Result.andThen_ok]
    simp only [binOp,Op.equal,Op.maxDepth]
    rw [Sem.run_bind,hE 9999 _ hd]
    rfl
   ·cases h
  ·cases h
 ·split at h
  ·rename_i ti hti
   have hu := (hT.get hti).und
   have key : ∀ e ad len c,ti.desc = .slice e → xv = .slice ad len c → ∃ v,(do eqGuard .eql t x (.const (.slice none 0 0)) xv (a.eval (.const (.slice none 0 0))); binOp .eql t xv (a.eval (.const (.slice none 0 0))) : Sem Value).run P w = .ok v w ∧ v = .bool ad.isNone := by
    intro e ad len c hd hv
    rw [hd] at hu
    have h1 := run_equal_slice_nil (P := P) w t e ad len c hu
    have h2 : (eqGuard .eql t x (.const (.slice none 0 0)) (.slice ad len c) (.slice none 0 0)).run P w = .ok () w := by unfold eqGuard; split <;> simp
    refine ⟨_,?_,rfl⟩
    simp only [hv,show a.eval (.const (.slice none 0 0)) = .slice none 0 0 from rfl,Sem.run_bind,h2,Result.andThen_ok,binOp,h1]
    rfl
   split at h
   ·rename_i e hd
    simp only [zo] at h
    subst h
    simp only [R] at hp
    obtain ⟨v,h1,h2⟩ := key e _ _ _ hd hp
    exact ⟨v,h1,by simp only [R]; exact h2⟩
   ·rename_i e _ _ _ _ hd
    simp only [zo] at h
    subst h
    simp only [R] at hp
    obtain ⟨b,c,_,_,hv⟩ := hp
    obtain ⟨v,h1,h2⟩ := key e _ _ _ hd hv
    exact ⟨v,h1,by simp only [R]; exact h2⟩
   ·rename_i e _ _ hd
    simp only [zo] at h
    subst h
    simp only [R] at hp
    obtain ⟨b,c,_,hv⟩ := hp
    obtain ⟨v,h1,h2⟩ := key e _ _ _ hd hv
    exact ⟨v,h1,by simp only [R]; exact h2⟩
   ·cases h
  ·cases h
 ·cases h
omit hT in
theorem ez {o : Option Operand} (h : isZ o = true) : o = some (.const (.int .i64 0)) := by
 unfold isZ at h
 split at h
 ·rename_i n
  have : n = 0 := by simpa using h
  rw [this]
 ·cases h
theorem emptyD_sound {t : TypeId} {ti : TInfo} (hti : T.get t = some ti) {p r : DV} {v : Value} (h : emptyD T ti.desc p = some r) (hp : R β p v) :
  ∃ u,(Instr.sliceAt t v (some (.int .i64 0)) (some (.int .i64 0)) (some (.int .i64 0))).run P w = .ok u w ∧ R β r u := by
 have hu := (hT.get hti).und
 unfold emptyD at h
 split at h
 ·rename_i e hd
  rw [hd] at hu
  have key : ∀ ei ad len c,T.get e = some ei → v = .slice ad len c → (Instr.sliceAt t v (some (.int .i64 0)) (some (.int .i64 0)) (some (.int .i64 0))).run P w = .ok (.slice ad 0 0) w := by
   intro ei ad len c hei hv
   subst hv
   simp [Instr.sliceAt,Instr.slice,run_underlying hu,Instr.sliceBounds,Instr.sliceBound,asIntOf,(hT.get hei).rsize w]
  split at h
  ·rename_i ei id off row len hei
   simp only [zo] at h
   subst h
   simp only [R] at hp
   obtain ⟨b,c,hβ,_,hv⟩ := hp
   exact ⟨_,key ei _ _ _ hei hv,by simp only [R]; exact ⟨b,c,hβ,rfl⟩⟩
  ·rename_i ei id off hei
   simp only [zo] at h
   subst h
   simp only [R] at hp
   obtain ⟨b,c,hβ,hv⟩ := hp
   exact ⟨_,key ei _ _ _ hei hv,by simp only [R]; exact ⟨b,c,hβ,rfl⟩⟩
  ·rename_i ei hei
   simp only [zo] at h
   subst h
   simp only [R] at hp
   exact ⟨_,key ei _ _ _ hei hp,by simp only [R]⟩
  ·cases h
 ·cases h
theorem readD_load {k : Nat} {ti : TInfo} (hk : T.get k = some ti) (b off : Nat) (cells : List DV) (xs : List Value)
  (hrep : RL β cells xs) (hmem : ∀ (j : Nat) (x : Value),xs[j]? = some x → w.cell? ⟨b,j,none⟩ = some x) {r : DV} (hr : readD ti off cells = some r) :
  ∃ v,(loadVar k ⟨b,off,none⟩).run P w = .ok v w ∧ R β r v := by
 have hk := hT.get hk
 unfold readD at hr
 cases hd : cC ti.desc with
 | true =>
  simp only [hd,zc] at hr
  cases hl : Nat.ble (off + ti.size) cells.length with
  | false=>simp [hl] at hr
  | true =>
   simp only [hl,zc,zo] at hr
   subst hr
   have hle : off + ti.size ≤ cells.length := Nat.le_of_ble_eq_true hl
   have hx : xs.length = cells.length := hrep.length
   have hlen : ((xs.drop off).take ti.size).length = ti.size := by simp [hx]; omega
   have hload := run_loadCells_list (P := P) w ⟨b,off,none⟩ ((xs.drop off).take ti.size) (fun j v hv=>by
    rw [aU]
    rw [List.getElem?_take] at hv
    split at hv
    ·rw [List.getElem?_drop] at hv
     exact hmem _ _ hv
    ·cases hv)
   rw [hlen] at hload
   refine ⟨.agg ((xs.drop off).take ti.size).toArray,?_,?_⟩
   ·simp [loadVar,hk.ragg w,hd,hk.rsize w,hload]
   ·simp only [R]
    exact ⟨_,rfl,by simpa using (hrep.drop off).take ti.size⟩
 | false =>
  simp only [hd,zd] at hr
  obtain ⟨x,hx,hrx⟩ := hrep.get off r hr
  refine ⟨x,?_,hrx⟩
  simp [loadVar,hk.ragg w,hd,hmem off x hx]
theorem eV {t : TypeId} {ti : TInfo} (hti : T.get t = some ti) (hw : WR W0 B β H w) {p r : DV} {v : Value} (hp : R β p v) (h : loadD H.h ti p = some r) :
  ∃ b o,v = .pointer (some ⟨b,o,none⟩) ∧ ∃ u,(loadVar t ⟨b,o,none⟩).run P w = .ok u w ∧ R β r u := by
 cases p with
 | p id off =>
  simp only [R] at hp
  obtain ⟨b,c,hβ,rfl⟩ := hp
  simp only [loadD] at h
  split at h
  ·rename_i k hk
   obtain ⟨xs,h1,h2⟩ := hw.cell hk hβ
   exact ⟨b,off,rfl,readD_load hT hti b off k.cells xs h1 h2 h⟩
  ·cases h
 | _=>cases h
theorem sliceD_sound {t : TypeId} {ti : TInfo} (hti : T.get t = some ti) {p r : DV} {lo hi : Option DV} {ov oh : Option Value} (h : sliceD T ti.desc p lo hi = some r) {v : Value} (hp : R β p v)
  (h1 : ∀ q,lo = some q → ∃ x,ov = some x ∧ R β q x) (h1' : lo = none → ov = none) (h2 : ∀ q,hi = some q → ∃ x,oh = some x ∧ R β q x) (h2' : hi = none → oh = none) :
  ∃ u,(Instr.sliceAt t v ov oh none).run P w = .ok u w ∧ R β r u := by
 have hk := hT.get hti
 have hu := hk.rund w
 have bound : ∀ (q : Option DV) (o : Option Value) (d : Nat) (n : Int),dB q d = some n → (∀ p,q = some p → ∃ x,o = some x ∧ R β p x) → (q = none → o = none) →
   (o = none ∧ n = d) ∨ ∃ k,o = some (.int k n) := by
  intro q o d n hb ha hn
  cases q with
  | none=>simp only [dB,zo] at hb; exact .inl ⟨hn rfl,hb.symm⟩
  | some q =>
   obtain ⟨x,rfl,hx⟩ := ha q rfl
   unfold dB at hb
   split at hb
   ·rename_i hq; cases hq
   ·rename_i k n' hq
    simp only [zo] at hq hb
    subst hq hb
    simp only [R] at hx
    subst hx
    exact .inr ⟨_,rfl⟩
   ·cases hb
 have sb : ∀ (k : IntKind) (n : Int) (y : Nat) (c : BoundsCode),0 ≤ n → n ≤ y → (Instr.sliceBound (.int k n) y c).run P w = .ok n.toNat w := by
  intro k n y c h0 hy
  simp [Instr.sliceBound,asIntOf,h0,hy]
 unfold sliceD at h
 split at h
 ·rename_i l hd
  simp only [R] at hp
  subst hp
  split at h
  ·rename_i a b ha hb
   split at h
   ·rename_i hc
    simp only [zo] at h
    subst h
    have hz : (ByteArray.mk l.toArray).size = l.length := by simp [ByteArray.size]
    have hbs : (Instr.sliceBounds false (ByteArray.mk l.toArray).size (ByteArray.mk l.toArray).size ov oh none).run P w = .ok (a.toNat,b.toNat,l.length) w := by
     have e1 := bound lo ov 0 a ha h1 h1'
     have e2 := bound hi oh l.length b hb h2 h2'
     rw [hz]
     have b1 : ∀ k c,(Instr.sliceBound (.int k b) l.length c).run P w = .ok b.toNat w := fun k c=>sb k b _ c (by omega) hc.2.2
     have b2 : ∀ k c,(Instr.sliceBound (.int k a) b.toNat c).run P w = .ok a.toNat w := fun k c=>sb k a _ c hc.1 (by omega)
     rcases e1 with ⟨rfl,rfl⟩ | ⟨k,rfl⟩ <;> rcases e2 with ⟨rfl,rfl⟩ | ⟨k',rfl⟩ <;> simp_all [Instr.sliceBounds]
    refine ⟨.string ((ByteArray.mk l.toArray).extract a.toNat b.toNat),?_,?_⟩
    ·rw [hd] at hu
     simp [Instr.sliceAt,Instr.slice,hu,hbs]
    ·simp only [R]
     congr 1
     apply ByteArray.ext
     simp [ByteArray.data_extract,List.extract_eq_take_drop,List.drop_take]
   ·cases h
  ·cases h
 ·rename_i e id off row len hd
  simp only [R] at hp
  obtain ⟨bb,c0,hβ,hrl,rfl⟩ := hp
  split at h
  ·rename_i a b ei ha hb hei
   split at h
   ·rename_i hc
    simp only [zo] at h
    subst h
    have hbs : (Instr.sliceBounds true len (c0 - row) ov oh none).run P w = .ok (a.toNat,b.toNat,c0 - row) w := by
     have e1 := bound lo ov 0 a ha h1 h1'
     have e2 := bound hi oh len b hb h2 h2'
     have b1 : ∀ k cc,(Instr.sliceBound (.int k b) (c0 - row) cc).run P w = .ok b.toNat w := fun k cc=>sb k b _ cc (by omega) (by omega)
     have b2 : ∀ k cc,(Instr.sliceBound (.int k a) b.toNat cc).run P w = .ok a.toNat w := fun k cc=>sb k a _ cc hc.1 (by omega)
     rcases e1 with ⟨rfl,rfl⟩ | ⟨k,rfl⟩ <;> rcases e2 with ⟨rfl,rfl⟩ | ⟨k',rfl⟩ <;> simp_all [Instr.sliceBounds]
    have hsz := (hT.get hei).rsize w
    rw [hd] at hu
    refine ⟨.slice (if c0 - row = a.toNat then some ⟨bb,off,none⟩ else (some (⟨bb,off,none⟩ : Addr)).map (·.add (a.toNat * ei.size))) (b.toNat - a.toNat) (c0 - row - a.toNat),?_,?_⟩
    ·simp [Instr.sliceAt,Instr.slice,hu,hbs,hsz]
    ·simp only [R]
     refine ⟨bb,c0,hβ,by omega,?_⟩
     have e3 : c0 - row - a.toNat = c0 - (row + a.toNat) := by omega
     rw [e3]
     congr 1
     split
     ·have : a.toNat = 0 := by omega
      simp [this]
     ·simp [aU]
   ·cases h
  ·cases h
 ·cases h
theorem callD_sound {c : Call} {type : TypeId} {ev : Operand → DV} {ρ : Operand → Value} {r : DV} (h : callD T c ev = some r) (he : ∀ x ∈ c.operands,R β (ev x) (ρ x)) :
  ∃ u,(do let d ← resolve ρ c type; invoke d.target d.args : Sem Next).run P w = .ok (.value u) w ∧ R β r u := by
 obtain ⟨callee,args,argTypes⟩ := c
 have hargs : ∀ x ∈ args.toList,R β (ev x) (ρ x) := fun x hx=>he x (by simp only [Call.operands]; cases callee <;> simp_all)
 unfold callD at h
 simp only at h
 split at h
 ·rename_i x t r' ha hat
  have hx := hargs x (by rw [ha]; simp)
  have ha' : args = #[x] := by rw [← Array.toArray_toList (xs := args),ha]
  have hat' : argTypes[0]? = some t := by rw [← Array.getElem?_toList,hat]; rfl
  subst ha'
  split at h
  ·rename_i ti hti
   have hu := (hT.get hti).rund w
   split at h
   ·rename_i l hd hl
    simp only [zo] at h
    subst h
    rw [hl] at hx
    simp only [R] at hx
    refine ⟨.int .i64 l.length,?_,by simp only [R]⟩
    rw [hd] at hu
    have hz : (ByteArray.mk l.toArray).size = l.length := by simp [ByteArray.size]
    simp [resolve,invoke,builtin,Builtin.len_,hat',hu,hx,goInt,hz]
   ·rename_i e hd
    have hu' := hu
    rw [hd] at hu'
    cases hn : dc (ev x) with
    | none=>simp [hn] at h
    | some n =>
     simp only [hn,Option.bind_some,zo] at h
     subst h
     have hlen : ∃ ad c,ρ x = .slice ad n c := by
      generalize ev x = p at *
      unfold dc at hn
      split at hn
      ·simp only [zo] at hn; subst hn
       simp only [R] at hx
       obtain ⟨b,c,_,_,h1⟩ := hx
       exact ⟨_,_,h1⟩
      ·simp only [zo] at hn; subst hn
       simp only [R] at hx
       obtain ⟨b,c,_,h1⟩ := hx
       exact ⟨_,_,h1⟩
      ·simp only [zo] at hn; subst hn
       simp only [R] at hx
       exact ⟨_,_,hx⟩
      ·cases hn
     obtain ⟨ad,c,hv⟩ := hlen
     refine ⟨.int .i64 n,?_,by simp only [R]⟩
     simp [resolve,invoke,builtin,Builtin.len_,hat',hu',hv,goInt]
   ·cases h
  ·cases h
 ·rename_i x y ha
  have hx := hargs x (by rw [ha]; simp)
  have hy := hargs y (by rw [ha]; simp)
  have ha' : args = #[x,y] := by rw [← Array.toArray_toList (xs := args),ha]
  subst ha'
  split at h
  ·rename_i k a k' b h1 h2
   simp only [zo] at h
   subst h
   rw [h1] at hx
   rw [h2] at hy
   simp only [R] at hx hy
   refine ⟨.int k (if b < a then b else a),?_,by simp only [R]⟩
   simp [resolve,invoke,builtin,Builtin.min_,Builtin.min2,hx,hy]
  ·cases h
 ·rename_i x y ha
  have hx := hargs x (by rw [ha]; simp)
  have hy := hargs y (by rw [ha]; simp)
  have ha' : args = #[x,y] := by rw [← Array.toArray_toList (xs := args),ha]
  subst ha'
  split at h
  ·rename_i k a k' b h1 h2
   simp only [zo] at h
   subst h
   rw [h1] at hx
   rw [h2] at hy
   simp only [R] at hx hy
   refine ⟨.int k (if b > a then b else a),?_,by simp only [R]⟩
   simp [resolve,invoke,builtin,Builtin.max_,Builtin.max2,hx,hy]
  ·cases h
 ·cases h
omit hT in
theorem rl_map {ev : Operand → DV} {ρ : Operand → Value} (l : List Operand) (h : ∀ x ∈ l,R β (ev x) (ρ x)) : RL β (l.map ev) (l.map ρ) := by
 induction l with
 | nil=>simp [RL]
 | cons x l ih =>
  simp only [List.map_cons,RL]
  exact ⟨_,_,rfl,h x (by simp),ih fun y hy=>h y (by simp [hy])⟩
theorem fc {o : Oper} {ev : Operand → DV} {r : DV} (h : aQ T H.h o.op ev = some r) {a : Act} (hw : WR W0 B β H w) (he : ∀ x ∈ o.op.operands,R β (ev x) (a.eval x)) :
  ∃ v,(execOp a.eval o).run P w = .ok (.value v) w ∧ R β r v := by
 obtain ⟨dst,op,type,pos,after,guard⟩ := o
 simp only at he h
 cases op <;> simp only [aQ,reduceCtorEq] at h <;> simp only [execOp,Op.operands] at he ⊢
 case move x =>
  simp only [zo] at h; subst h
  exact ⟨_,rfl,he x (by simp)⟩
 case assign x =>
  simp only [zo] at h; subst h
  exact ⟨_,rfl,he x (by simp)⟩
 case pick c x y =>
  have hc := he c (by simp)
  split at h
  ·rename_i hq
   simp only [zo] at h; subst h
   rw [hq] at hc
   simp only [R] at hc
   exact ⟨_,by simp [hc,asBool],he x (by simp)⟩
  ·rename_i hq
   simp only [zo] at h; subst h
   rw [hq] at hc
   simp only [R] at hc
   exact ⟨_,by simp [hc,asBool],he y (by simp)⟩
  ·cases h
 case load t x =>
  split at h
  ·rename_i ti hti
   obtain ⟨b,o,hv,u,h1,h2⟩ := eV hT hti hw (he x (by simp)) h
   exact ⟨u,by simp [hv,Instr.loadAt,Instr.sureAddr,h1],h2⟩
  ·cases h
 case fieldAddr t x f =>
  split at h
  ·rename_i ti hti
   split at h
   ·rename_i fs hd
    split at h
    ·rename_i fd hf
     split at h
     ·rename_i fi hfi
      cases hz : Nat.beq fi.size 0 with
      | true=>simp [hz] at h
      | false =>
       simp only [hz,zd] at h
       have hx := he x (by simp)
       unfold offD at h
       split at h
       ·rename_i id off hq
        simp only [zo] at h
        subst h
        rw [hq] at hx
        simp only [R] at hx
        obtain ⟨b,c,hβ,hv⟩ := hx
        have hu := (hT.get hti).rund w
        rw [hd] at hu
        have hz' : fi.size ≠ 0 := fun e=>by rw [e] at hz; cases hz
        refine ⟨.pointer (some ⟨b,off + fd.offset,none⟩),?_,by simp only [R]; exact ⟨b,c,hβ,rfl⟩⟩
        simp [Instr.fieldAt,hv,hu,hf,Instr.sureAddr,fieldPlace,(hT.get hfi).rsize w,hz',aU]
       ·cases h
     ·cases h
    ·cases h
   ·cases h
  ·cases h
 case field t x f =>
  split at h
  ·rename_i ti hti
   split at h
   ·rename_i fs hd
    split at h
    ·rename_i fd hf
     split at h
     ·rename_i fi cells hfi hx
      have hxr := he x (by simp)
      rw [hx] at hxr
      simp only [R] at hxr
      obtain ⟨cs,hv,hcs⟩ := hxr
      have hk := hT.get hfi
      have hu := (hT.get hti).rund w
      rw [hd] at hu
      unfold readD at h
      cases hdd : cC fi.desc with
      | true =>
       simp only [hdd,zc] at h
       cases hl : Nat.ble (fd.offset + fi.size) cells.length with
       | false=>simp [hl] at h
       | true =>
        simp only [hl,zc,zo] at h
        subst h
        refine ⟨.agg (cs.extract fd.offset (fd.offset + fi.size)),?_,?_⟩
        ·simp [Instr.field,hu,hf,hv,asAgg,part,hk.ragg w,hdd,hk.rsize w]
        ·simp only [R]
         refine ⟨_,rfl,?_⟩
         have := (hcs.drop fd.offset).take fi.size
         simpa [List.extract_eq_take_drop] using this
      | false =>
       simp only [hdd,zd] at h
       obtain ⟨y,hy,hry⟩ := hcs.get _ r h
       refine ⟨y,?_,hry⟩
       rw [Array.getElem?_toList] at hy
       simp [Instr.field,hu,hf,hv,asAgg,part,hk.ragg w,hdd,hy]
     ·cases h
    ·cases h
   ·cases h
  ·cases h
 case indexAddr t x i =>
  split at h
  ·rename_i ti id off row len k n hti hx hn
   have hu := (hT.get hti).rund w
   have hxr := he x (by simp)
   have hnr := he i (by simp)
   rw [hx] at hxr
   rw [hn] at hnr
   simp only [R] at hxr hnr
   obtain ⟨b,c,hβ,hrl,hv⟩ := hxr
   split at h
   ·rename_i e hd
    split at h
    ·rename_i ei hei
     split at h
     ·rename_i hc
      simp only [zo] at h
      subst h
      rw [hd] at hu
      refine ⟨.pointer (some ⟨b,off + n.toNat * ei.size,none⟩),?_,by simp only [R]; exact ⟨b,c,hβ,rfl⟩⟩
      simp [Instr.indexAt,hnr,hv,asIntOf,hu,hc.1,hc.2,(hT.get hei).rsize w,aU]
     ·cases h
    ·cases h
   ·cases h
  ·rename_i ti id off k n hti hx hn
   have hu := (hT.get hti).rund w
   have hxr := he x (by simp)
   have hnr := he i (by simp)
   rw [hx] at hxr
   rw [hn] at hnr
   simp only [R] at hxr hnr
   obtain ⟨b,c,hβ,hv⟩ := hxr
   split at h
   ·rename_i len e hd
    split at h
    ·rename_i ei hei
     split at h
     ·rename_i hc
      simp only [zo] at h
      subst h
      rw [hd] at hu
      refine ⟨.pointer (some ⟨b,off + n.toNat * ei.size,none⟩),?_,by simp only [R]; exact ⟨b,c,hβ,rfl⟩⟩
      simp [Instr.indexAt,hnr,hv,asIntOf,hu,Instr.sureAddr,hc.1,hc.2,(hT.get hei).rsize w,aU]
     ·cases h
    ·cases h
   ·cases h
  ·cases h
 case index t x i =>
  split at h
  ·rename_i ti l k n hti hx hn
   have hu := (hT.get hti).rund w
   have hxr := he x (by simp)
   have hnr := he i (by simp)
   rw [hx] at hxr
   rw [hn] at hnr
   simp only [R] at hxr hnr
   split at h
   ·rename_i hd
    rw [hd] at hu
    split at h
    ·rename_i h0
     cases hg : l[n.toNat]? with
     | none=>simp [hg] at h
     | some c =>
      simp only [hg,Option.map_some,zo] at h
      subst h
      refine ⟨.int .u8 c.toNat,?_,by simp only [R]⟩
      have hlt : n.toNat < l.length := (zg.1 hg).1
      have hb : (ByteArray.mk l.toArray)[n.toNat]? = some c := by
       have hz : (ByteArray.mk l.toArray).size = l.length := by simp [ByteArray.size]
       rw [getElem?_pos _ _ (by rw [hz]; exact hlt)]
       have := (zg.1 hg).2
       show some ((l.toArray)[n.toNat]'_) = some c
       simp [this]
      simp [Instr.index,hnr,hxr,asIntOf,hu,h0,hb]
    ·cases h
   ·cases h
  ·cases h
 case binOp op t x y u =>
  split at h
  ·rename_i r' hnil
   simp only [zo] at h
   subst h
   obtain ⟨v,h1,h2⟩ := nilD_sound (a := a) (x := x) hT hnil (he x (by simp))
   exact ⟨v,by rw [Sem.run_bind,h1]; rfl,h2⟩
  obtain ⟨v,h1,h2⟩ := binD_sound hT h (he x (by simp)) (he y (by simp)) x y
  exact ⟨v,by rw [Sem.run_bind,h1]; rfl,h2⟩
 case unOp op t x =>
  have hx := he x (by simp)
  split at h
  ·rename_i b hq
   simp only [zo] at h; subst h
   rw [hq] at hx
   simp only [R] at hx
   exact ⟨.bool (!b),by simp [hx,Op.unary],by simp only [R]⟩
  ·rename_i k n hq
   simp only [zo] at h; subst h
   rw [hq] at hx
   simp only [R] at hx
   exact ⟨.int k (k.wrap (0 - n)),by simp [hx,Op.unary,Op.intArith],by simp only [R]⟩
  ·cases h
 case convert src dst x =>
  have hx := he x (by simp)
  split at h
  ·rename_i si ti k n hsi hti hq
   rw [hq] at hx
   simp only [R] at hx
   have hs := (hT.get hsi).rund w
   have hu := (hT.get hti).rund w
   split at h
   ·rename_i k' hd
    simp only [zo] at h; subst h
    rw [hd] at hu
    exact ⟨.int k' (k'.wrap n),by simp [convert,hs,hu,hx,Conv.intToInt],by simp only [R]⟩
   ·cases h
  ·rename_i si ti l hsi hti hq
   rw [hq] at hx
   simp only [R] at hx
   have hs := (hT.get hsi).rund w
   have hu := (hT.get hti).rund w
   split at h
   ·rename_i hd
    simp only [zo] at h; subst h
    rw [hd] at hu
    refine ⟨.string ⟨l.toArray⟩,?_,by simp only [R]⟩
    simp only [convert,Sem.run_bind,hs,hu,hx,Result.andThen_ok]
    cases si.desc <;> rfl
   ·cases h
  ·cases h
 case extract x i =>
  have hx := he x (by simp)
  split at h
  ·rename_i vs hq
   rw [hq] at hx
   simp only [R] at hx
   obtain ⟨cs,hv,hcs⟩ := hx
   obtain ⟨y,hy,hr⟩ := hcs.get i r h
   rw [Array.getElem?_toList] at hy
   exact ⟨y,by simp [Instr.extract,hv,hy],hr⟩
  ·cases h
 case build t ps =>
  obtain ⟨v,h1,h2⟩ := buildD_sound (ev := ev) (ρ := a.eval) hT w h (fun x hx=>he x (by simpa using hx))
  refine ⟨v,?_,h2⟩
  rw [Sem.run_bind,map_pairs,h1]
  rfl
 case slice t x lo hi' mx =>
  split at h
  ·rename_i ti hti
   cases mx with
   | some m =>
    simp only at h
    generalize hz : (isZ lo && isZ hi' && isZ (some m)) = z at h
    cases z with
    | false=>simp at h
    | true =>
     simp only [zc] at h
     simp only [Bool.and_eq_true] at hz
     have e1 := ez hz.1.1
     have e2 := ez hz.1.2
     have e3 := ez hz.2
     simp only [zo] at e3
     subst e1 e2 e3
     obtain ⟨u,h1,h2⟩ := emptyD_sound (w := w) hT hti h (he x (by simp))
     refine ⟨u,?_,h2⟩
     simp only [Option.map_some,show ∀ v,a.eval (.const v) = v from fun _=>rfl,Sem.run_bind,h1]
     rfl
   | none =>
    simp only at h
    obtain ⟨u,h1,h2⟩ := sliceD_sound hT (w := w) (ov := lo.map a.eval) (oh := hi'.map a.eval) hti h (he x (by simp))
     (fun q hq=>by
      cases lo with
      | none=>cases hq
      | some y=>simp only [Option.map_some,zo] at hq; subst hq; exact ⟨_,rfl,he y (by simp)⟩)
     (fun hq=>by cases lo <;> simp_all)
     (fun q hq=>by
      cases hi' with
      | none=>cases hq
      | some y=>simp only [Option.map_some,zo] at hq; subst hq; exact ⟨_,rfl,he y (by simp)⟩)
     (fun hq=>by cases hi' <;> simp_all)
    exact ⟨u,by simp [h1],h2⟩
  ·cases h
 case makeFunc fn first caps =>
  cases fn <;> simp only [reduceCtorEq] at h
  rename_i f
  cases hf : first.isEmpty with
  | false=>simp [hf] at h
  | true =>
   simp only [hf,zc,zo] at h
   subst h
   have hfe : first = #[] := by simpa using hf
   subst hfe
   refine ⟨.func (.func f) #[] (caps.map a.eval),by simp [Instr.makeFunc],?_⟩
   simp only [R]
   exact ⟨_,rfl,by simpa using rl_map caps.toList fun x hx=>he x (by simp_all)⟩
 case nilCheck x =>
  have hx := he x (by simp)
  cases hn : noNilD (ev x) with
  | false=>simp [hn] at h
  | true =>
   simp only [hn,zc,zo] at h
   subst h
   refine ⟨a.eval x,?_,hx⟩
   generalize ev x = p at *
   cases p <;> simp only [noNilD,reduceCtorEq] at hn <;> simp only [R] at hx
   ·obtain ⟨b,c,_,hv⟩ := hx; rw [hv]; rfl
   ·obtain ⟨cs,hv,_⟩ := hx; rw [hv]; rfl
 case call c=>exact callD_sound hT h he
end
theorem take_splice {α : Type} (cur vs : List α) (off L : Nat) (h : off + vs.length ≤ L) (hL : L ≤ cur.length) :
  (cur.take off ++ vs ++ cur.drop (off + vs.length)).take L = (cur.take L).take off ++ vs ++ (cur.take L).drop (off + vs.length) := by
 have h1 : (cur.take off ++ vs).length = off + vs.length := by simp; omega
 rw [List.take_append,h1,List.take_of_length_le (by rw [h1]; exact h),List.take_take,Nat.min_eq_left (by omega),List.drop_take]
section
variable {P : Program} {T : TT} (hT : T.Ok P) {W0 : World} {B : Nat → Option Go.Obj} {β : Be} {H : Hp} {w : World}
include hT
omit hT in
theorem repD_len (l : List DV) : ∀ n,(cK n l).length = n * l.length
 | 0=>by simp [cK]
 | n + 1=>by simp [cK,repD_len l n,Nat.add_mul]; omega
omit hT in
theorem repD_rep {ps : List DV} {xs : List Value} (h : RL β ps xs) : ∀ n,RL β (cK n ps) (List.replicate n xs).flatten
 | 0=>by simp [cK,RL]
 | n + 1=>by
  simp only [cK,List.replicate_succ,List.flatten_cons]
  exact h.append (repD_rep h n)
theorem new_sound {o : Oper} {ev : Operand → DV} {id : Nat} {d : DV} {k : Blk} (h : cj T o.op ev id = some (d,k)) {a : Act} (he : ∀ x ∈ o.op.operands,R β (ev x) (a.eval x)) :
  ∃ (c : Nat) (arr : Array Value) (v : Value),(execOp a.eval o).run P w = .ok (.value v) (w.alloc (.cells arr k.e)) ∧ k.cells.length = arr.size ∧ RL β k.cells arr.toList ∧ (∀ m,k.cap = some m → c = m) ∧ (k.sz ≠ 0 → arr.size = c * k.sz) ∧
   ∀ β' : Be,β' id = some (w.heap.size,c) → R β' d v := by
 obtain ⟨dst,op,type,pos,after,guard⟩ := o
 simp only at he h
 unfold cj at h
 split at h
 ·rename_i t
  split at h
  ·rename_i ti hti
   simp only [zo,Prod.mk.injEq] at h
   obtain ⟨rfl,rfl⟩ := h
   refine ⟨0,ti.zero.cells,.pointer (some ⟨w.heap.size,0,none⟩),?_,by simp [cd],cB _,by simp,by simp,fun β' hβ=>by simp only [R]; exact ⟨_,_,hβ,rfl⟩⟩
   simp [execOp,Instr.alloc,(hT.get hti).rzero w,newVar,newRow]
  ·cases h
 ·rename_i t x
  split at h
  ·rename_i cs hc
   simp only [zo,Prod.mk.injEq] at h
   obtain ⟨rfl,rfl⟩ := h
   obtain ⟨h1,_⟩ := dC hc (he x (by simp [Op.operands]))
   refine ⟨0,(a.eval x).cells,.pointer (some ⟨w.heap.size,0,none⟩),?_,by have := h1.length; simpa using this.symm,h1,by simp,by simp,fun β' hβ=>by simp only [R]; exact ⟨_,_,hβ,rfl⟩⟩
   simp [execOp,Instr.box,newVar,newRow]
  ·cases h
 ·rename_i t n ps
  split at h
  ·rename_i ti hti
   split at h
   ·rename_i e hd
    split at h
    ·rename_i ei hei
     generalize hb : (Nat.ble (n * ei.bytes) 1000000 && Nat.blt 0 ei.size && Nat.ble (n * ei.size) 1000000 && Nat.beq ei.zero.cells.size ei.size) = bb at h
     cases bb with
     | false=>simp at h
     | true =>
      simp only [zc] at h
      simp only [Bool.and_eq_true] at hb
      obtain ⟨⟨⟨c1,c2⟩,c3⟩,c4⟩ := hb
      have c2 : 0 < ei.size := by simpa [Nat.blt_eq] using c2
      have c3 := Nat.le_of_ble_eq_true c3
      have hzl := Nat.eq_of_beq_eq_true c4
      split at h
      ·rename_i out hf
       simp only [zo,Prod.mk.injEq] at h
       obtain ⟨rfl,rfl⟩ := h
       obtain ⟨h1,h2⟩ := partsD_rep (β := β) (ev := ev) (ρ := a.eval) ps.toList (fun x hx=>he x (by simpa [Op.operands] using hx))
       have hinit : RL β (cK n (cd ei)) ((Array.range (n * ei.zero.cells.size)).map (ei.zero.cells[· % ei.zero.cells.size]!)).toList := by
        rw [zeros_eq]
        exact repD_rep (cB _) n
       obtain ⟨cs,hfill,hrep,_⟩ := dK (vals := ps.toList.map fun (p : Nat × Operand)=>(p.1,a.eval p.2)) hf hinit h1 h2
       have hlen : ∀ {place : Nat → Option (Nat × Nat)} {parts : List (Nat × DV)} {cells out : List DV},cU place cells parts = some out → out.length = cells.length := by
        intro place parts
        induction parts with
        | nil=>intro cells out h; simp only [cU,zo] at h; rw [h]
        | cons q r ih =>
         intro cells out h
         obtain ⟨j,p⟩ := q
         simp only [cU] at h
         split at h
         ·rename_i off size pc hpl hpc
          generalize hb : (Nat.beq pc.length size && Nat.ble (off + size) cells.length) = b at h
          cases b with
          | false=>simp at h
          | true =>
           simp only [zc] at h
           simp only [Bool.and_eq_true] at hb
           have h1 := Nat.eq_of_beq_eq_true hb.1
           have h2 := Nat.le_of_ble_eq_true hb.2
           rw [ih h,ek (by omega)]
         ·cases h
       have hol : out.length = n * ei.size := by rw [hlen hf,repD_len]; simp [cd,hzl]
       have hcs : cs.size = n * ei.size := by have := hrep.length; simp at this; omega
       have hu := (hT.get hti).rund w
       rw [hd] at hu
       have hnb : ¬ (n * ei.size > 2 ^ 24) := by omega
       have hsz := (hT.get hei).rsize w
       have hzr := (hT.get hei).rzero w
       refine ⟨n,cs,.slice (some ⟨w.heap.size,0,none⟩) n n,?_,by rw [hol,hcs],hrep,by simp,fun _=>hcs,fun β' hβ=>by simp only [R]; exact ⟨_,_,hβ,by omega,by simp⟩⟩
       have hrun : (Instr.buildSlice t n (ps.map fun p=>(p.1,a.eval p.2))).run P w = .ok (.slice (some ⟨w.heap.size,0,none⟩) n n) (w.alloc (.cells cs e)) := by
        by_cases h0 : n * ei.size = 0
        ·have hn0 : n = 0 := by rcases Nat.mul_eq_zero.1 h0 with h | h <;> omega
         subst hn0
         have e1 : ((Array.range (0 * ei.zero.cells.size)).map (ei.zero.cells[· % ei.zero.cells.size]!)) = #[] := by simp
         rw [e1] at hfill
         have e2 : ((Array.range (0 * ei.size)).map ((#[] : Array Value)[· % (#[] : Array Value).size]!)) = #[] := by simp
         simp only [Instr.buildSlice,Sem.run_bind,hu,Result.andThen_ok,hsz,Array.toList_map]
         rw [zy hnb,zp h0]
         simp only [Sem.run_bind,Sem.run_pure,Result.andThen_ok]
         rw [e2,hfill]
         simp [newRow]
        ·rw [hzl] at hfill
         simp only [Instr.buildSlice,Sem.run_bind,hu,Result.andThen_ok,hsz,hnb,if_false,h0,hzr,Sem.run_pure,Array.toList_map,hzl]
         rw [hfill]
         simp [newRow]
       simp only [execOp,Sem.run_bind,hrun]
       rfl
      ·cases h
    ·cases h
   ·cases h
  ·cases h
 ·cases h
def Act1 (P : Program) (W0 : World) (B : Nat → Option Go.Obj) (β : Be) (H : Hp) (w : World) (a : Act) (o : Oper) (d : DV) (H' : Hp) : Prop :=
 ∃ β' w' v,Ext β β' H.nx H'.nx ∧ WR W0 B β' H' w' ∧ R β' d v ∧ ((execOp a.eval o).run P w = .ok (.value v) w' ∨ ((execOp a.eval o).run P w = .ok .skip w' ∧ v = undef))
omit hT in
theorem src_sound {p : DV} {v : Value} (hw : WR W0 B β H w) (hp : R β p v) {size : Nat} {new : List DV} (h : srcD H.h size p = some new) (h1 : new.all DV.one = true) {n : Nat} (hn : dc p = some n) :
  (n = 0 ∧ ∃ sa c,v = .slice sa 0 c) ∨ ∃ a c news,v = .slice (some a) n c ∧ news.length = n * size ∧ RL β new news ∧ (∀ j x,news[j]? = some x → w.cell? (a.add j) = some x) ∧ ∀ x ∈ news,x.oneCell' = true := by
 unfold srcD at h
 split at h
 ·rename_i id off row len
  split at h
  ·rename_i b hb
   cases hc : Nat.ble (off + len * size) b.cells.length with
   | false=>simp [hc] at h
   | true =>
    simp only [hc,zc,zo] at h
    subst h
    have hle := Nat.le_of_ble_eq_true hc
    simp only [dc,zo] at hn
    subst hn
    simp only [R] at hp
    obtain ⟨bb,c,hβ,_,rfl⟩ := hp
    obtain ⟨xs,hx,hcell⟩ := hw.cell hb hβ
    have hrl := (hx.drop off).take (len * size)
    refine .inr ⟨⟨bb,off,none⟩,c - row,(xs.drop off).take (len * size),rfl,?_,hrl,fun j x hj=>?_,RL.oneCell h1 hrl⟩
    ·have := hx.length
     simp; omega
    ·rw [aU]
     rw [List.getElem?_take] at hj
     split at hj
     ·rw [List.getElem?_drop] at hj; exact hcell _ _ hj
     ·cases hj
  ·cases h
 ·simp only [dc,zo] at hn
  simp only [R] at hp
  exact .inl ⟨hn.symm,_,_,hp⟩
 ·simp only [dc,zo] at hn
  simp only [R] at hp
  obtain ⟨b,c,_,rfl⟩ := hp
  exact .inl ⟨hn.symm,_,_,rfl⟩
 ·cases h
omit hT in
theorem lenD_sound {p : DV} {v : Value} (hp : R β p v) {n : Nat} (hn : dc p = some n) : ∃ ad c,v = .slice ad n c ∧ n ≤ c := by
 unfold dc at hn
 split at hn
 ·simp only [zo] at hn; subst hn
  simp only [R] at hp
  obtain ⟨b,c,_,h1,h2⟩ := hp
  exact ⟨_,_,h2,by omega⟩
 ·simp only [zo] at hn; subst hn
  simp only [R] at hp
  obtain ⟨b,c,_,h1⟩ := hp
  exact ⟨_,_,h1,by omega⟩
 ·simp only [zo] at hn; subst hn
  simp only [R] at hp
  exact ⟨_,_,hp,by omega⟩
 ·cases hn
theorem append_sound {t ty : TypeId} {ti ei : TInfo} {e : TypeId} (hti : T.get t = some ti) (hd : ti.desc = .slice e) (hei : T.get e = some ei) (hz1 : ei.zero.cells.size = ei.size) (hsz : 0 < ei.size) {p q : DV} {x y : Value} (hw : WR W0 B β H w) (hp : R β p x) (hq : R β q y)
  {new : List DV} (hs : srcD H.h ei.size q = some new) (h1 : new.all DV.one = true) {n : Nat} (hn : dc q = some n) {d : DV} {H' : Hp} (h : appendD H e ei.size ei.bytes p new n = some (d,H')) :
  ∃ β' w' v,Ext β β' H.nx H'.nx ∧ WR W0 B β' H' w' ∧ R β' d v ∧ (Builtin.append_ #[t,t] ty #[x,y]).run P w = .ok v w' := by
 have hu := (hT.get hti).und
 rw [hd] at hu
 obtain ⟨i,hinf,his,hib,hzero⟩ := (hT.get hei).info
 unfold appendD at h
 cases h0 : Nat.beq n 0 with
 | true =>
  have h0 := Nat.eq_of_beq_eq_true h0
  subst h0
  simp only [Nat.beq,zc] at h
  obtain ⟨sa,c,hy,_⟩ := lenD_sound hq hn
  split at h
  ·rename_i m hm
   simp only [zo,Prod.mk.injEq] at h
   obtain ⟨rfl,rfl⟩ := h
   obtain ⟨ad,c',hx,hle⟩ := lenD_sound hp hm
   subst hy hx
   exact ⟨β,w,_,Ext.rfl',hw,hp,dG t ty e i hu hinf ad sa m c' c hle⟩
  ·cases h
 | false =>
  have h0 := Nat.ne_of_beq_eq_false h0
  have hb0 : Nat.beq n 0 = false := by cases hb : Nat.beq n 0 with | false=>rfl | true=>exact absurd (Nat.eq_of_beq_eq_true hb) h0
  rw [hb0] at h
  simp only [zd] at h
  rcases src_sound hw hq hs h1 hn with ⟨hn0,_⟩ | ⟨a,c,news,rfl,hnl,hrep,hac,hone⟩
  ·exact absurd hn0 h0
  rw [← his] at hnl
  have hnlen : new.length = n * ei.size := by have := hrep.length; rw [← his]; omega
  have fresh : ∀ (olds : List Value) (old : List DV) (m cap : Nat),RL β old olds → olds.length = m * i.size → old.length = m * ei.size → (m + n) * ei.bytes ≤ 1000000 → m + n ≤ 1000000 → ∀ (H1 : Hp),WR W0 B β H1 w → 
    (Builtin.append_ #[t,t] ty #[x,.slice (some a) n c]).run P w = .ok (.slice (some ⟨w.heap.size,0,none⟩) (m + n) (grownCap w (m + n) cap e)) (w.drew.alloc (.cells (olds.toArray ++ news.toArray ++ Builtin.zeroCells ei.zero.cells (grownCap w (m + n) cap e - (m + n))) e)) →
    ∃ β' w' v,Ext β β' H1.nx (H1.nx + 1) ∧ WR W0 B β' (newD H1 ⟨e,ei.size,none,true,old ++ new⟩) w' ∧ R β' (.l H1.nx 0 0 (m + n)) v ∧ (Builtin.append_ #[t,t] ty #[x,.slice (some a) n c]).run P w = .ok v w' := by
   intro olds old m cap hro hol hol2 hby hmx H1 hw1 hrun
   have hge := grownCap_ge w (m + n) cap e
   have hln : (olds ++ news).length = (m + n) * i.size := by rw [List.length_append,hol,hnl,Nat.add_mul]
   obtain ⟨h2,h3⟩ := hw1.new w.drew (.inr rfl) (c := grownCap w (m + n) cap e) (arr := olds.toArray ++ news.toArray ++ Builtin.zeroCells ei.zero.cells (grownCap w (m + n) cap e - (m + n))) (fz := (0,0)) (k := ⟨e,ei.size,none,true,old ++ new⟩) (fun _=>rfl)
    (by simp only [List.length_append,Array.size_append,List.size_toArray,hol,hol2,hnl,hnlen,his]; omega)
    (by
     have e1 : (olds.toArray ++ news.toArray ++ Builtin.zeroCells ei.zero.cells (grownCap w (m + n) cap e - (m + n))).toList = (olds ++ news) ++ (Builtin.zeroCells ei.zero.cells (grownCap w (m + n) cap e - (m + n))).toList := by simp
     rw [e1,show (old ++ new).length = (olds ++ news).length from by simp [hol,hol2,hnl,hnlen,his],List.take_left]
     exact hro.append hrep)
    (by simp) (fun _=>by
     simp only [Array.size_append,List.size_toArray,size_zeroCells,hz1,hol,hnl,his,← Nat.add_mul]
     congr 1
     omega)
   exact ⟨_,_,_,h2,h3,by simp only [R,aT,if_true]; exact ⟨_,_,rfl,by omega,by simp⟩,hrun⟩
  have none0 : (x = .slice none 0 0 ∨ ∃ a0,x = .slice (some a0) 0 0) → (n * ei.bytes ≤ 1000000) → n ≤ 1000000 → ∃ β' w' v,Ext β β' H.nx (H.nx + 1) ∧ WR W0 B β' (newD H ⟨e,ei.size,none,true,new⟩) w' ∧ R β' (.l H.nx 0 0 n) v ∧ (Builtin.append_ #[t,t] ty #[x,.slice (some a) n c]).run P w = .ok v w' := by
   intro hx hby hmx
   have key := fresh [] [] 0 0 (by simp [RL]) (by simp) (by simp) (by simpa using hby) (by simpa using hmx) H hw
   simp only [Nat.zero_add,List.nil_append] at key
   apply key
   rcases hx with rfl | ⟨a0,rfl⟩
   ·rw [run_append_nil (P := P) w t ty e i ei.zero hu hinf hzero a n c news hnl hac (by omega) (by omega) (by rw [hib]; omega)]
    simp
   ·have := run_append_grow (P := P) w t ty e i ei.zero hu hinf hzero a0 0 0 [] (by simp) (by simp) a n c news hnl hac (by omega) (by omega) (growslice_fits (by omega) (by rw [hib]; simp; omega))
    simp only [Nat.zero_add] at this
    rw [this]
  split at h
  ·generalize hb : (Nat.ble (n * ei.bytes) 1000000 && Nat.ble n 1000000) = bb at h
   cases bb with
   | false=>simp at h
   | true =>
    simp only [Bool.and_eq_true] at hb
    simp only [zc,zo,Prod.mk.injEq] at h
    obtain ⟨rfl,rfl⟩ := h
    simp only [R] at hp
    exact none0 (.inl hp) (Nat.le_of_ble_eq_true hb.1) (Nat.le_of_ble_eq_true hb.2)
  ·generalize hb : (Nat.ble (n * ei.bytes) 1000000 && Nat.ble n 1000000) = bb at h
   cases bb with
   | false=>simp at h
   | true =>
    simp only [Bool.and_eq_true] at hb
    simp only [zc,zo,Prod.mk.injEq] at h
    obtain ⟨rfl,rfl⟩ := h
    simp only [R] at hp
    obtain ⟨b0,c0,_,hx⟩ := hp
    exact none0 (.inr ⟨_,hx⟩) (Nat.le_of_ble_eq_true hb.1) (Nat.le_of_ble_eq_true hb.2)
  ·rename_i id off row len
   split at h
   ·rename_i k hk
    generalize hb : (k.wr && Nat.beq k.e e && Nat.beq k.sz ei.size && Nat.beq off 0 && Nat.beq row 0 && Nat.beq k.cells.length (len * ei.size) && Nat.ble ((len + n) * ei.bytes) 1000000 && Nat.ble (len + n) 1000000) = bb at h
    cases bb with
    | false=>simp at h
    | true =>
     simp only [zc,zo,Prod.mk.injEq] at h
     obtain ⟨rfl,rfl⟩ := h
     simp only [Bool.and_eq_true] at hb
     obtain ⟨⟨⟨⟨⟨⟨⟨b1,b2⟩,b3⟩,b4⟩,b5⟩,b6⟩,b7⟩,b8⟩ := hb
     have b2 := Nat.eq_of_beq_eq_true b2
     have b3 := Nat.eq_of_beq_eq_true b3
     have b4 := Nat.eq_of_beq_eq_true b4
     have b5 := Nat.eq_of_beq_eq_true b5
     have b6 := Nat.eq_of_beq_eq_true b6
     have b7 := Nat.le_of_ble_eq_true b7
     have b8 := Nat.le_of_ble_eq_true b8
     subst b4 b5
     simp only [R] at hp
     obtain ⟨bb,c0,hβ,hle,rfl⟩ := hp
     obtain ⟨b',c',cur,fz,g1,g2,g3,g4,g5,g6,g7⟩ := hw.blk id k hk
     rw [hβ] at g1
     cases g1
     have hfz := g3 b1
     subst hfz
     rw [b2] at g2
     have hcs : cur.size = c0 * ei.size := by rw [← b3]; exact g7 (by omega)
     have holdlen : (cur.toList.take (len * ei.size)).length = len * ei.size := by rw [← b6,g5.length]
     rw [b6] at g5
     simp only [Nat.sub_zero] at hone ⊢
     have hwd := hw.drop id
     by_cases hroom : len + n ≤ c0
     ·have hfit : len * i.size + news.length ≤ cur.size := by rw [hnl,hcs,← his,← Nat.add_mul]; exact Nat.mul_le_mul_right _ hroom
      have hr := run_append_room (P := P) w t ty e i hu hinf bb len c0 cur g2 a n c news hnl hac hone hroom hfit
      refine ⟨aT β H.nx (bb,c0),_,_,ext_upd hw.nx_none _,?_,?_,hr⟩
      ·rw [his]
       refine hwd.put (arr := (cur.toList.take (len * ei.size) ++ news ++ cur.toList.drop (len * ei.size + news.length)).toArray) (fz := (0,0)) (k := ⟨e,ei.size,none,true,k.cells ++ new⟩) hw.nx_none (Nat.le_succ _) (Nat.lt_succ_self _) (hwd.nlook hw.nx_none) (hw.own id k bb c0 hk hβ) (fun j k2 c2 hj h2=>?_) (Fr.setRow w bb _) (setRow_heap w bb cur _ _ _ g2) (fun _=>rfl) ?_ ?_ (by simp) (fun _=>?_)
       ·obtain ⟨hne,hj'⟩ := look_drop hj
        exact hne (hw.inj j id k2 k bb c2 c0 hj' hk h2 hβ)
       ·simp only [List.length_append,List.size_toArray,b6,hnlen,holdlen,hnl,his]; omega
       ·have e1 : (k.cells ++ new).length = (cur.toList.take (len * ei.size) ++ news).length := by rw [List.length_append,List.length_append,holdlen,b6,hnlen,hnl,his]
        rw [e1,List.take_left]
        exact g5.append hrep
       ·simp only [List.size_toArray,List.length_append,holdlen,List.length_drop,Array.length_toList,hnl,his]
        rw [hcs]
        have : (len + n) * ei.size ≤ c0 * ei.size := Nat.mul_le_mul_right _ hroom
        rw [Nat.add_mul] at this
        omega
      ·simp only [R,aT,if_true]
       exact ⟨_,_,rfl,by omega,by simp⟩
     ·refine fresh (cur.toList.take (len * ei.size)) k.cells len c0 g5 (by rw [holdlen,his]) b6 b7 b8 ⟨H.h.set 24 id none,H.nx⟩ hwd ?_
      have holds : ∀ (j : Nat) (v : Value),(cur.toList.take (len * ei.size))[j]? = some v → w.cell? ((⟨bb,0,none⟩ : Addr).add j) = some v := by
       intro j v hj
       rw [aU,cell_of_row w bb (0 + j) cur e (0,0) g2]
       rw [List.getElem?_take] at hj
       split at hj
       ·simpa using hj
       ·cases hj
      exact run_append_grow (P := P) w t ty e i ei.zero hu hinf hzero ⟨bb,0,none⟩ len c0 _ (by rw [holdlen,his]) holds a n c news hnl hac (by omega) (by omega) (growslice_fits (by omega) (by rw [hib]; omega))
   ·cases h
  ·cases h
end
section
variable {P : Program} {T : TT} (hT : T.Ok P) {W0 : World} {B : Nat → Option Go.Obj} {β : Be} {H : Hp} {w : World}
include hT
omit hT in
theorem WR.splice (hw : WR W0 B β H w) {id b c : Nat} {k : Blk} (hk : aC H.h id = some k) (hβ : β id = some (b,c)) (hwr : k.wr = true) {off : Nat} {cs : List DV} {vs : List Value} (hr : RL β cs vs) (hone : ∀ v ∈ vs,v.oneCell' = true) (hle : off + cs.length ≤ k.cells.length) :
  ∃ w',(storeCells ⟨b,off,none⟩ vs).run P w = .ok () w' ∧ WR W0 B β ⟨H.h.set 24 id (some ⟨k.e,k.sz,k.cap,k.wr,bM k.cells off cs⟩),H.nx⟩ w' := by
 obtain ⟨b',c',cur,fz,g1,g2,g3,g4,g5,g6,g7⟩ := hw.blk id k hk
 rw [hβ] at g1
 cases g1
 have hfz := g3 hwr
 subst hfz
 have hl := hr.length
 have hst := run_storeCells_at P b off k.e vs 0 cur w g2 (by omega) hone
 simp only [Nat.add_zero] at hst
 refine ⟨_,hst,hw.write hk hβ ⟨cur,g2,?_⟩ ?_ ?_⟩
 ·simp; omega
 ·rw [ek hle]; simp; omega
 ·rw [ek hle]
  simp only []
  rw [take_splice cur.toList vs off k.cells.length (by omega) (by simpa using g4)]
  exact eZ g5 hr off
omit hT in
theorem repD_all {l : List DV} {p : DV → Bool} (h : l.all p = true) : ∀ n,(cK n l).all p = true
 | 0=>rfl
 | n + 1=>by simp only [cK,List.all_append,h,repD_all h n,Bool.and_self]
theorem er {o : Oper} {ev : Operand → DV} {d : DV} {H' : Hp} (h : bU T H o.op ev = some (d,H')) {a : Act} (hw : WR W0 B β H w) (he : ∀ x ∈ o.op.operands,R β (ev x) (a.eval x)) : Act1 P W0 B β H w a o d H' := by
 obtain ⟨dst,op,type,pos,after,guard⟩ := o
 simp only at he h
 unfold bU at h
 split at h
 ·rename_i t x y
  split at h
  ·rename_i ti id off cs hti hx hc
   split at h
   ·rename_i k hk
    generalize hb : (k.wr && Nat.beq cs.length ti.size && Nat.ble (off + ti.size) k.cells.length) = bb at h
    cases bb with
    | false=>simp at h
    | true =>
     simp only [zc,zo,Prod.mk.injEq] at h
     obtain ⟨rfl,rfl⟩ := h
     simp only [Bool.and_eq_true] at hb
     have hl := Nat.eq_of_beq_eq_true hb.1.2
     have hle := Nat.le_of_ble_eq_true hb.2
     have hxr := he x (by simp [Op.operands])
     have hyr := he y (by simp [Op.operands])
     rw [hx] at hxr
     simp only [R] at hxr
     obtain ⟨b,c,hβ,hv⟩ := hxr
     obtain ⟨hr,hone⟩ := dC hc hyr
     obtain ⟨w',hst,hw'⟩ := hw.splice (P := P) hk hβ hb.1.1 (off := off) hr hone (by omega)
     refine ⟨β,w',undef,Ext.rfl',hw',by simp only [R],.inr ⟨?_,rfl⟩⟩
     have hvs : (a.eval y).cells.size = ti.size := by have := hr.length; simp at this; omega
     simp only [execOp,Instr.storeAt,hv,Instr.sureAddr,Sem.run_bind,Sem.run_pure,Result.andThen_ok,storeVar,(hT.get hti).rsize w,hvs]
     simp only [ne_eq,not_true_eq_false,if_false]
     rw [hst]
     rfl
   ·cases h
  ·cases h
 ·rename_i src dst' x
  split at h
  ·rename_i si di l hsi hdi hx
   split at h
   ·rename_i e hsd hdd
    split at h
    ·rename_i ei hei
     split at h
     ·rename_i hed
      generalize hb : (Nat.beq ei.size 1 && Nat.ble l.length 1000000) = bb at h
      cases bb with
      | false=>simp at h
      | true =>
       simp only [zc,zo,Prod.mk.injEq] at h
       obtain ⟨rfl,rfl⟩ := h
       have hxr := he x (by simp [Op.operands])
       rw [hx] at hxr
       simp only [R] at hxr
       have hs := (hT.get hsi).und
       have hd := (hT.get hdi).und
       have hee := (hT.get hei).und
       rw [hsd] at hs
       rw [hdd] at hd
       rw [hed] at hee
       have hge := grownCap_ge w l.length 0 e
       obtain ⟨cs,hcs⟩ : ∃ cs : Array Value,cs = (l.toArray.map fun b=>Value.int .u8 b.toNat) ++ Array.replicate (grownCap w l.length 0 e - l.length) (.int .u8 0) := ⟨_,rfl⟩
       have hrun : (execOp a.eval ⟨dst,.convert src dst' x,type,pos,after,guard⟩).run P w = .ok (.value (.slice (some ⟨w.heap.size,0,none⟩) l.length (grownCap w l.length 0 e))) (w.drew.alloc (.cells cs e (cs.size,cs.size + 1))) := by
        have hz : (ByteArray.mk l.toArray).size = l.length := by simp [ByteArray.size]
        have key : (Conv.stringToBytes e ⟨l.toArray⟩).run P w = .ok (.slice (some ⟨w.heap.size,0,none⟩) l.length (grownCap w l.length 0 e)) (w.drew.alloc (.cells cs e (cs.size,cs.size + 1))) := by
         have hmk : ∀ w0 : World,(markStringish ⟨w0.heap.size,0,none⟩).run P (w0.alloc (.cells cs e)) = .ok () (w0.alloc (.cells cs e (cs.size,cs.size + 1))) := by
          intro w0
          have hsh : (w0.alloc (.cells cs e)).shape? w0.heap.size = some (e,cs.size) := by unfold World.shape?; rw [heap_alloc_new]
          unfold markStringish
          simp only [Sem.run_bind,run_shape,Result.andThen_ok,hsh]
          rw [run_freeze,freeze_new]
         have hm0 := hmk w.drew
         subst hcs
         unfold Conv.stringToBytes
         simp only [Sem.run_bind,hz,run_choose,Question.forced]
         simp [newRow]
         simp [grownCap] at hm0 ⊢
         rw [hm0]
         simp
        simp only [execOp,hxr,convert,Sem.run_bind,run_underlying hs,run_underlying hd,run_underlying hee,Result.andThen_ok,key]
        rfl
       have hr0 : ∀ l : List UInt8,RL β (l.map fun c=>DV.v (.int .u8 c.toNat)) (l.map fun b=>Value.int .u8 b.toNat) := by
        intro l
        induction l with
        | nil=>simp [RL]
        | cons c l ih=>simp only [List.map_cons,RL,R]; exact ⟨_,_,rfl,rfl,ih⟩
       obtain ⟨h2,h3⟩ := hw.new w.drew (.inr rfl) (c := grownCap w l.length 0 e) (arr := cs) (fz := (cs.size,cs.size + 1)) (k := ⟨e,1,none,false,l.map fun c=>.v (.int .u8 c.toNat)⟩) (by simp) (by simp [hcs])
        (by
         have e1 : cs.toList = (l.map fun b=>Value.int .u8 b.toNat) ++ List.replicate (grownCap w l.length 0 e - l.length) (.int .u8 0) := by rw [hcs]; simp
         rw [e1,show (l.map fun c=>DV.v (.int .u8 c.toNat)).length = (l.map fun b=>Value.int .u8 b.toNat).length from by simp,List.take_left]
         exact hr0 l) (by simp) (fun _=>by rw [hcs]; simp; omega)
       exact ⟨_,_,_,h2,h3,by simp only [R,aT,if_true]; exact ⟨_,_,rfl,by omega,by simp⟩,.inl hrun⟩
     ·cases h
    ·cases h
   ·cases h
  ·cases h
 ·rename_i av0 ts
  split at h
  ·rename_i x t ha hat
   have ha' : av0 = #[x] := by rw [← Array.toArray_toList (xs := av0),ha]
   have hat' : ts = #[t] := by rw [← Array.toArray_toList (xs := ts),hat]
   subst ha' hat'
   split at h
   ·rename_i ti id off row n hti hx
    split at h
    ·rename_i e k hd hk
     split at h
     ·rename_i ei hei
      have hxr := he x (by simp [Op.operands,Call.operands])
      rw [hx] at hxr
      simp only [R] at hxr
      obtain ⟨b,c,hβ,_,hv⟩ := hxr
      have hu := (hT.get hti).rund w
      rw [hd] at hu
      cases n with
      | zero =>
       simp only [Nat.beq,zc,zo,Prod.mk.injEq] at h
       obtain ⟨rfl,rfl⟩ := h
       exact ⟨β,w,  .tuple #[],Ext.rfl',hw,by simp [R,RL],.inl (by simp [execOp,resolve,invoke,builtin,Builtin.clear_,hu,hv])⟩
      | succ n =>
       simp only [Nat.beq,zd] at h
       generalize hb : (k.wr && (cd ei).all DV.one && Nat.beq ei.zero.cells.size ei.size && Nat.ble (off + (n + 1) * ei.size) k.cells.length) = bb at h
       cases bb with
       | false=>simp at h
       | true =>
        simp only [zc,zo,Prod.mk.injEq] at h
        obtain ⟨rfl,rfl⟩ := h
        simp only [Bool.and_eq_true] at hb
        obtain ⟨⟨⟨b1,b2⟩,b3⟩,b5⟩ := hb
        have b3 := Nat.eq_of_beq_eq_true b3
        have b5 := Nat.le_of_ble_eq_true b5
        have hzl : (cd ei).length = ei.size := by simp [cd,b3]
        have hzc : (Builtin.zeroCells ei.zero.cells (n + 1)).toList = (List.replicate (n + 1) ei.zero.cells.toList).flatten := by
         unfold Builtin.zeroCells
         exact zeros_eq ei.zero.cells (n + 1)
        have hrep : RL β (cK (n + 1) (cd ei)) (Builtin.zeroCells ei.zero.cells (n + 1)).toList := by rw [hzc]; exact repD_rep (cB _) (n + 1)
        have hone : ∀ v ∈ (Builtin.zeroCells ei.zero.cells (n + 1)).toList,v.oneCell' = true := RL.oneCell (repD_all b2 _) hrep
        obtain ⟨w',hst,hw'⟩ := hw.splice (P := P) hk hβ b1 (off := off) hrep hone (by rw [repD_len,hzl]; exact b5)
        refine ⟨β,w',  .tuple #[],Ext.rfl',hw',by simp [R,RL],.inl ?_⟩
        simp [execOp,resolve,invoke,builtin,Builtin.clear_,hu,hv,(hT.get hei).rzero w,hst]
     ·cases h
    ·cases h
   ·cases h
  ·cases h
 ·rename_i av0 ts
  split at h
  ·rename_i x y t t' ha hat
   have ha' : av0 = #[x,y] := by rw [← Array.toArray_toList (xs := av0),ha]
   have hat' : ts = #[t,t'] := by rw [← Array.toArray_toList (xs := ts),hat]
   subst ha' hat'
   cases ht : Nat.beq t t' with
   | false=>simp [ht] at h
   | true =>
    have ht' := Nat.eq_of_beq_eq_true ht
    subst ht'
    simp only [ht,zc] at h
    split at h
    ·rename_i ti hti
     split at h
     ·rename_i e hd
      split at h
      ·rename_i ei hei
       split at h
       ·rename_i new n hs hn
        generalize hb : (Nat.blt 0 ei.size && Nat.beq ei.zero.cells.size ei.size && new.all DV.one) = bb at h
        cases bb with
        | false=>simp at h
        | true =>
         simp only [zc] at h
         simp only [Bool.and_eq_true] at hb
         have hsz : 0 < ei.size := by simpa [Nat.blt_eq] using hb.1.1
         obtain ⟨β',w',v,h1,h2,h3,h4⟩ := append_sound (ty := type) hT hti hd hei (Nat.eq_of_beq_eq_true hb.1.2) hsz hw (he x (by simp [Op.operands,Call.operands])) (he y (by simp [Op.operands,Call.operands])) hs hb.2 hn h
         refine ⟨β',w',v,h1,h2,h3,.inl ?_⟩
         simp only [execOp,resolve,Sem.run_bind,Sem.run_pure,Result.andThen_ok,invoke,builtin,List.map_toArray,List.map_cons,List.map_nil]
         rw [h4]
         rfl
       ·cases h
      ·cases h
     ·cases h
    ·cases h
  ·cases h
 ·cases h
def dE (P : Program) (W0 : World) (call : aV) : Prop :=
 ∀ g args H d H',call g args H = some (d,H') → ∀ (B : Nat → Option Go.Obj) β w (vs : Array Value),WR W0 B β H w → RL β args vs.toList →
  (∀ w,(callFunc g vs).run P w = .ok (.enter g vs) w) ∧ Calls P g vs w fun e w'=>∃ v β',e = .returned v ∧ Ext β β' H.nx H'.nx ∧ WR W0 B β' H' w' ∧ R β' d v
def OpOk (P : Program) (W0 : World) (B : Nat → Option Go.Obj) (o : Oper) (β : Be) (H : Hp) (w : World) (a : Act) (d : DV) (H' : Hp) : Prop :=
 ∀ (next : Act → World → Prop) (Q : Exit → Act → World → Prop),(∀ v β' w',Ext β β' H.nx H'.nx → WR W0 B β' H' w' → R β' d v → next (a.put o.dst v) w') → o.wp P a w next Q
omit hT in
theorem Act1.ok {o : Oper} {a : Act} {d : DV} {H' : Hp} (h : Act1 P W0 B β H w a o d H') : OpOk P W0 B o β H w a d H' := by
 intro next Q hn
 obtain ⟨β',w',v,h1,h2,h3,h4 | ⟨h4,rfl⟩⟩ := h
 ·unfold Oper.wp
  rw [h4]
  exact hn v β' w' h1 h2 h3
 ·unfold Oper.wp
  rw [h4]
  exact hn _ β' w' h1 h2 h3
theorem quiet_ok {o : Oper} {ev : Operand → DV} {r : DV} (h : aQ T H.h o.op ev = some r) {a : Act} (hw : WR W0 B β H w) (he : ∀ x ∈ o.op.operands,R β (ev x) (a.eval x)) : OpOk P W0 B o β H w a r H := by
 intro next Q hn
 obtain ⟨v,h1,h2⟩ := fc hT h hw he
 unfold Oper.wp
 rw [h1]
 exact hn v β w Ext.rfl' hw h2
theorem new_ok {o : Oper} {ev : Operand → DV} {d : DV} {k : Blk} (h : cj T o.op ev H.nx = some (d,k)) {a : Act} (hw : WR W0 B β H w) (he : ∀ x ∈ o.op.operands,R β (ev x) (a.eval x)) : OpOk P W0 B o β H w a d (newD H k) := by
 intro next Q hn
 obtain ⟨c,arr,v,h1,h2,h3,h4,h5,h6⟩ := new_sound (w := w) hT h he
 obtain ⟨g1,g2⟩ := hw.new w (.inl rfl) (c := c) (arr := arr) (fz := (0,0)) (k := k) (fun _=>rfl) (by rw [h2]; exact Nat.le_refl _) (by rw [h2,List.take_of_length_le (by simp)]; exact h3) h4 h5
 unfold Oper.wp
 rw [h1]
 exact hn v _ _ g1 g2 (h6 _ (by simp [aT]))
omit hT in
theorem call_ok {o : Oper} {ev : Operand → DV} {call : aV} (hc : dE P W0 call) {fx : Operand} {av0 : Array Operand} {ts : Array TypeId} (ho : o.op = .call { callee := .value fx,args := av0,argTypes := ts }) {g : FuncId} {caps : List DV} (hf : ev fx = .f g caps)
  {d : DV} {H' : Hp} (h : call g (av0.toList.map ev ++ caps) H = some (d,H')) {a : Act} (hw : WR W0 B β H w) (he : ∀ x ∈ o.op.operands,R β (ev x) (a.eval x)) : OpOk P W0 B o β H w a d H' := by
 intro next Q hn
 have hfr := he fx (by rw [ho]; simp [Op.operands,Call.operands])
 rw [hf] at hfr
 simp only [R] at hfr
 obtain ⟨cs,hv,hcaps⟩ := hfr
 have hargs : RL β (av0.toList.map ev) (av0.map a.eval).toList := by
  simpa using rl_map av0.toList fun x hx=>he x (by rw [ho]; simp_all [Op.operands,Call.operands])
 obtain ⟨h1,h2⟩ := hc g _ H d H' h B β w (av0.map a.eval ++ cs) hw (by simpa using hargs.append hcaps)
 have hrun : (execOp a.eval o).run P w = .ok (.enter g (av0.map a.eval ++ cs)) w := by
  simp [execOp,ho,resolve,hv,Deferred.ofValue,invoke,h1]
 unfold Oper.wp
 rw [hrun]
 simp only [Oper.upon]
 refine h2.mono ?_
 rintro e w' ⟨v,β',rfl,h3,h4,h5⟩
 exact hn v β' w' h3 h4 h5
theorem one_ok {o : Oper} {ev : Operand → DV} {call : aV} (hc : dE P W0 call) {d : DV} {H' : Hp} (h : oneD T call o.op ev H = some (d,H')) {a : Act} (hw : WR W0 B β H w) (he : ∀ x ∈ o.op.operands,R β (ev x) (a.eval x)) : OpOk P W0 B o β H w a d H' := by
 unfold oneD at h
 split at h
 ·rename_i r hq
  simp only [zo,Prod.mk.injEq] at h
  obtain ⟨rfl,rfl⟩ := h
  exact quiet_ok hT hq hw he
 ·split at h
  ·rename_i x hl
   simp only [zo] at h
   subst h
   unfold loudD at hl
   split at hl
   ·rename_i d' b hb
    simp only [zo,Prod.mk.injEq] at hl
    obtain ⟨rfl,rfl⟩ := hl
    exact new_ok hT hb hw he
   ·exact (er hT hl hw he).ok
  ·split at h
   ·rename_i fx av0 ts hop
    split at h
    ·rename_i g caps hf
     exact call_ok hc (ts := ts) hop hf h hw he
    ·cases h
   ·cases h
end
def cZ (β : Be) (n : Nat) (s : Tr DV) (a : Act) : Prop := a.tmps.size = n ∧ ∀ t,R β ((s.get t).getD .bad) (a.tmps.getD t undef)
def DfR : List (FuncId × List DV) → List Deferred → Prop
 | [],ds=>ds = []
 | x :: xs,ds=>∃ cs rest,ds = { target := .fn (.func x.1) cs,args := #[] } :: rest ∧ DfR xs rest
structure StR (W0 : World) (B : Nat → Option Go.Obj) (β : Be) (st : St) (a : Act) (w : World) : Prop where
 wr : WR W0 B β st.H w
 sl : cZ β st.n st.s a
 df : DfR st.df a.defers
section
variable {P : Program} {T : TT} {W0 : World} {B : Nat → Option Go.Obj} {β : Be} {w : World} {n : Nat} {s s' : Tr DV} {a : Act}
theorem cZ.mono {β' : Be} (h : cZ β n s a) (hle : β.le β') : cZ β' n s a := ⟨h.1,fun t=>(h.2 t).mono hle⟩
theorem cZ.ev (h : cZ β n s a) (x : Operand) : R β (evD s x) (a.eval x) := by
 cases x with
 | tmp t=>exact h.2 t
 | const v=>exact R.const v
 | global g=>simp [evD,R]
 | func f=>simp only [evD,Act.eval,R]; exact ⟨#[],rfl,by simp [RL]⟩
theorem cZ.put (h : cZ β n s a) {dst : Option Tmp} {d : DV} {v : Value} (hs : bc n s dst d = some s') (hr : R β d v) : cZ β n s' (a.put dst v) := by
 cases dst with
 | none=>simp only [bc,zo] at hs; subst hs; exact h
 | some k =>
  simp only [bc] at hs
  cases hb : Nat.blt k n with
  | false=>simp [hb] at hs
  | true =>
   have hk : k < n := by simpa [Nat.blt_eq] using hb
   simp only [hb,zc,zo] at hs
   subst hs
   refine ⟨by simp [Act.put,h.1],fun t=>?_⟩
   rcases Tr.get_set 16 s k d t with e | ⟨rfl,e⟩ | ⟨hne,e⟩
   ·rw [e]; simp [R]
   ·rw [e]
    simpa [Act.put,h.1,hk] using hr
   ·rw [e]
    have := h.2 t
    simp only [Array.getD_eq_getD_getElem?] at this ⊢
    simpa [Act.put,Array.getElem?_setIfInBounds_ne (Ne.symm hne)] using this
theorem eA (h : cZ β n s a) {ops : Array Oper} {o : Oper} {b : Bool} (hg : az ops s o = some b) : Region.wanted o (yielded ops a.tmps) = b := by
 unfold az at hg
 unfold Region.wanted
 split at hg
 ·rename_i hn; rw [hn]; simpa using hg
 ·rename_i j want hn
  rw [hn]
  split at hg
  ·rename_i d hd
   split at hg
   ·rename_i c hc
    simp only [zo] at hg
    have := h.2 d
    rw [hc] at this
    simp only [Option.getD_some,R] at this
    have hv : a.tmps[d]? = some (.bool c) := by
     cases ht : a.tmps[d]? with
     | none=>simp [ht,undef] at this
     | some v=>simpa [ht] using this
    simp [yielded,hd,hv,← hg]
   ·rename_i hc
    simp only [zo] at hg
    subst hg
    have := h.2 d
    rw [hc] at this
    simp only [Option.getD_some,R,RL] at this
    obtain ⟨cs,h1,h2⟩ := this
    have hcs : cs = #[] := by simpa using h2
    subst hcs
    have hy : yielded ops a.tmps j = none := by
     simp only [yielded,hd]
     cases ht : a.tmps[d]? with
     | none=>simp [ht]
     | some v =>
      rw [Array.getD_eq_getD_getElem?,ht] at h1
      simp only [Option.getD_some] at h1
      subst h1
      simp [ht]
    simp [hy]
   ·cases hg
  ·cases hg
def StepOk (P : Program) (W0 : World) (B : Nat → Option Go.Obj) (β : Be) (ops : Array Oper) (o : Oper) (st st' : St) (a : Act) (w : World) : Prop :=
 ∀ (next : Act → World → Prop) (Q : Exit → Act → World → Prop),(∀ β' a' w',Ext β β' st.H.nx st'.H.nx → StR W0 B β' st' a' w' → next a' w') → if Region.wanted o (yielded ops a.tmps) then o.wp P a w next Q else next (a.put o.dst undef) w
theorem step_ok (hT : T.Ok P) {call : aV} (hc : dE P W0 call) {ops : Array Oper} {o : Oper} {st st' : St} (h : stepD T call ops o st = some st') (hi : StR W0 B β st a w) : StepOk P W0 B β ops o st st' a w := by
 intro next Q hn
 unfold stepD at h
 split at h
 ·rename_i hg
  rw [eA hi.sl hg]
  simp only [if_true]
  split at h
  ·rename_i fx av0 ts hop
   cases has : av0.isEmpty with
   | false=>simp [has] at h
   | true =>
    have hae : av0 = #[] := by simpa using has
    subst hae
    simp only [has,zc] at h
    split at h
    ·rename_i g caps hf
     cases hp : bc st.n st.s o.dst (.t []) with
     | none=>simp [hp] at h
     | some s1 =>
      simp only [hp,Option.map_some,zo] at h
      subst h
      have hfr := hi.sl.ev fx
      rw [hf] at hfr
      simp only [R] at hfr
      obtain ⟨cs,hv,hcaps⟩ := hfr
      have hrun : (execOp a.eval o).run P w = .ok (.defer { target := .fn (.func g) cs,args := #[] }) w := by
       simp [execOp,hop,resolve,hv,Deferred.ofValue]
      unfold Oper.wp
      rw [hrun]
      refine hn β _ w Ext.rfl' ⟨hi.wr,?_,?_⟩
      ·have hs' : cZ β st.n st.s { a with defers := { target := .fn (.func g) cs,args := #[] } :: a.defers } := hi.sl
       exact hs'.put hp (by simp [R,RL,undef])
      ·have e1 : ((({ a with defers := { target := .fn (.func g) cs,args := #[] } :: a.defers } : Act).put o.dst undef)).defers = { target := .fn (.func g) cs,args := #[] } :: a.defers := by
        unfold Act.put
        split <;> rfl
       rw [e1]
       simp only [DfR]
       exact ⟨cs,_,rfl,hi.df⟩
    ·cases h
  ·split at h
   ·rename_i d H' h1
    cases hh : headD d with
    | false=>simp [hh] at h
    | true =>
     simp only [hh,zc] at h
     cases hp : bc st.n st.s o.dst d with
     | none=>simp [hp] at h
     | some s1 =>
      simp only [hp,Option.map_some,zo] at h
      subst h
      refine one_ok hT hc h1 hi.wr (fun x _=>hi.sl.ev x) next Q fun v β' w' hle hw' hr=>hn β' _ w' hle ⟨hw',(hi.sl.mono hle.le).put hp hr,?_⟩
      have e1 : (a.put o.dst v).defers = a.defers := by unfold Act.put; split <;> rfl
      rw [e1]
      exact hi.df
   ·cases h
 ·rename_i hg
  rw [eA hi.sl hg]
  simp only [Bool.false_eq_true,if_false]
  cases hp : bc st.n st.s o.dst (.t []) with
  | none=>simp [hp] at h
  | some s1 =>
   simp only [hp,Option.map_some,zo] at h
   subst h
   refine hn β _ w Ext.rfl' ⟨hi.wr,hi.sl.put hp (by simp [R,RL,undef]),?_⟩
   have e1 : (a.put o.dst undef).defers = a.defers := by unfold Act.put; split <;> rfl
   rw [e1]
   exact hi.df
 ·cases h
theorem ops_ok (hT : T.Ok P) {call : aV} (hc : dE P W0 call) {ops : Array Oper} : ∀ {l : List Oper} {st st' : St} {β : Be} {a : Act} {w : World} {Q : Exit → Act → World → Prop},opsD T call ops l st = some st' → StR W0 B β st a w → (∀ β' a' w',Ext β β' st.H.nx st'.H.nx → StR W0 B β' st' a' w' → Q .normal a' w') → wpList P ops Q l a w
 | [],st,st',β,a,w,Q,h,hi,hq=>by
  simp only [opsD,zo] at h
  subst h
  exact hq β a w Ext.rfl' hi
 | o :: l,st,st',β,a,w,Q,h,hi,hq=>by
  simp only [opsD] at h
  split at h
  ·rename_i st1 h1
   have key := step_ok (P := P) (B := B) hT hc h1 hi (wpList P ops Q l) Q fun β1 a1 w1 hle hi1=>ops_ok hT hc h hi1 fun β' a' w' hle'=>hq β' a' w' (hle.trans hle')
   simp only [wpList]
   split
   ·rename_i hw; rw [zp hw] at key; exact .inl key
   ·rename_i hw; rw [zy hw] at key; exact key
  ·cases h
end
end
end Go.Cx

namespace Go.Cx
noncomputable section
open Go Go.Ab
theorem putS_other {n : Nat} {s s' : Tr DV} {dst : Option Tmp} {d : DV} (h : bc n s dst d = some s') {t : Nat} (ht : dst ≠ some t) : (s'.get t).getD .bad = .bad ∨ (s'.get t).getD .bad = (s.get t).getD .bad := by
 cases dst with
 | none=>simp only [bc,zo] at h; subst h; exact .inr rfl
 | some k =>
  simp only [bc] at h
  cases hb : Nat.blt k n with
  | false=>simp [hb] at h
  | true =>
   simp only [hb,zc,zo] at h
   subst h
   rcases Tr.get_set 16 s k d t with e | ⟨rfl,e⟩ | ⟨_,e⟩
   ·rw [e]; exact .inl rfl
   ·exact absurd rfl ht
   ·rw [e]; exact .inr rfl
theorem putS_same {n : Nat} {s s' : Tr DV} {k : Nat} {d : DV} (h : bc n s (some k) d = some s') : k < n ∧ ((s'.get k).getD .bad = .bad ∨ (s'.get k).getD .bad = d) := by
 simp only [bc] at h
 cases hb : Nat.blt k n with
 | false=>simp [hb] at h
 | true =>
  simp only [hb,zc,zo] at h
  subst h
  refine ⟨by simpa [Nat.blt_eq] using hb,?_⟩
  rcases Tr.get_set 16 s k d k with e | ⟨_,e⟩ | ⟨hne,_⟩
  ·rw [e]; exact .inl rfl
  ·rw [e]; exact .inr rfl
  ·exact absurd rfl hne
inductive StepKind (T : TT) (call : aV) (ops : Array Oper) (b : Array Nat) (nx0 i : Nat) (o : Oper) (ds ds' : DS) (d : DV) : Prop where
 | skip (hg : az ops ds.st.s o = some false) (hd : d = .t []) (hn : aJ o = false) (hH : ds'.st.H = ds.st.H) (hp : ds'.pd = ds.pd)
 | skipA (hg : az ops ds.st.s o = some false) (hd : d = .t []) (hn : aJ o = true) (hH : ds'.st.H = cf nx0 ds.st.H (ds.pd.filter fun x=>(b.getD i 0).testBit x.1)) (hp : ds'.pd = ds.pd.filter fun x=>!(b.getD i 0).testBit x.1)
 | new (hg : az ops ds.st.s o = some true) (k : Blk) (hk : cj T o.op (evD ds.st.s) (nx0 + i) = some (d,k)) (hn : bB o = true) (hH : ds'.st.H = ds.st.H) (hp : ds'.pd = ds.pd ++ [(i,k)])
 | act (hg : az ops ds.st.s o = some true) (hn : aJ o = true) (h : oneD T call o.op (evD ds.st.s) (cf nx0 ds.st.H (ds.pd.filter fun x=>(b.getD i 0).testBit x.1)) = some (d,ds'.st.H)) (hp : ds'.pd = ds.pd.filter fun x=>!(b.getD i 0).testBit x.1)
 | quiet (hg : az ops ds.st.s o = some true) (hn : bB o = false) (ha : aJ o = false) (h : aQ T ds.st.H.h o.op (evD ds.st.s) = some d) (hH : ds'.st.H = ds.st.H) (hp : ds'.pd = ds.pd)
theorem cr {o : Oper} (h : bB o = true) : aJ o = false := by simp [aJ,h]
theorem stepD_cases {T : TT} {call : aV} {ops : Array Oper} {o : Oper} {st st' : St} (h : stepD T call ops o st = some st') (hdf : (match o.op with | .defer _=>false | _=>true) = true) :
  st'.n = st.n ∧ st'.df = st.df ∧ ∃ d,bc st.n st.s o.dst d = some st'.s ∧ ((az ops st.s o = some true ∧ oneD T call o.op (evD st.s) st.H = some (d,st'.H)) ∨ (az ops st.s o = some false ∧ d = .t [] ∧ st'.H = st.H)) := by
 unfold stepD at h
 split at h
 ·rename_i hg
  split at h
  ·rename_i fx av0 ts hop
   rw [hop] at hdf
   cases hdf
  ·split at h
   ·rename_i d H' h1
    cases hh : headD d with
    | false=>simp [hh] at h
    | true =>
     simp only [hh,zc] at h
     cases hp : bc st.n st.s o.dst d with
     | none=>simp [hp] at h
     | some s1 =>
      simp only [hp,Option.map_some,zo] at h
      subst h
      exact ⟨rfl,rfl,d,hp,.inl ⟨hg,h1⟩⟩
   ·cases h
 ·rename_i hg
  cases hp : bc st.n st.s o.dst (.t []) with
  | none=>simp [hp] at h
  | some s1 =>
   simp only [hp,Option.map_some,zo] at h
   subst h
   exact ⟨rfl,rfl,.t [],hp,.inr ⟨hg,rfl,rfl⟩⟩
 ·cases h
theorem bH {T : TT} {call : aV} {ops : Array Oper} {b : Array Nat} {nx0 i : Nat} {o : Oper} {ds ds' : DS} (h : stepR T call ops b nx0 i o ds = some ds') (hdf : (match o.op with | .defer _=>false | _=>true) = true) :
  ds'.st.n = ds.st.n ∧ ds'.st.df = ds.st.df ∧ ∃ d,bc ds.st.n ds.st.s o.dst d = some ds'.st.s ∧ StepKind T call ops b nx0 i o ds ds' d := by
 unfold stepR at h
 cases hN : bB o with
 | true =>
  simp only [hN,zc] at h
  split at h
  ·rename_i hg
   split at h
   ·rename_i d k hk
    cases hp : bc ds.st.n ds.st.s o.dst d with
    | none=>simp [hp] at h
    | some s1 =>
     simp only [hp,Option.map_some,zo] at h
     subst h
     exact ⟨rfl,rfl,d,hp,.new hg k hk hN rfl rfl⟩
   ·cases h
  ·rename_i hg
   cases hp : bc ds.st.n ds.st.s o.dst (.t []) with
   | none=>simp [hp] at h
   | some s1 =>
    simp only [hp,Option.map_some,zo] at h
    subst h
    exact ⟨rfl,rfl,_,hp,.skip hg rfl (cr hN) rfl rfl⟩
  ·cases h
 | false =>
  simp only [hN,zd] at h
  cases hA : aJ o with
  | true =>
   simp only [hA,zc] at h
   split at h
   ·rename_i st' hs
    simp only [zo] at h
    subst h
    obtain ⟨h1,h2,d,h3,h4⟩ := stepD_cases hs hdf
    refine ⟨h1,h2,d,h3,?_⟩
    rcases h4 with ⟨hg,h4⟩ | ⟨hg,hd,hH⟩
    ·exact .act hg hA h4 rfl
    ·exact .skipA hg hd hA hH rfl
   ·cases h
  | false =>
   simp only [hA,zd] at h
   split at h
   ·rename_i hg
    split at h
    ·rename_i d hq
     cases hh : headD d with
     | false=>simp [hh] at h
     | true =>
      simp only [hh,zc] at h
      cases hp : bc ds.st.n ds.st.s o.dst d with
      | none=>simp [hp] at h
      | some s1 =>
       simp only [hp,Option.map_some,zo] at h
       subst h
       exact ⟨rfl,rfl,d,hp,.quiet hg hN hA hq rfl rfl⟩
    ·cases h
   ·rename_i hg
    cases hp : bc ds.st.n ds.st.s o.dst (.t []) with
    | none=>simp [hp] at h
    | some s1 =>
     simp only [hp,Option.map_some,zo] at h
     subst h
     exact ⟨rfl,rfl,_,hp,.skip hg rfl hA rfl rfl⟩
   ·cases h
theorem traceR_ok {T : TT} {call : aV} {ops : Array Oper} {b : Array Nat} {nx0 : Nat} : ∀ (l : List Oper) (i : Nat) (ds : DS) (tr : List DS),traceR T call ops b nx0 i l ds = some tr →
  tr[0]? = some ds ∧ ∀ (j : Nat) (o : Oper),l[j]? = some o → ∃ d d',tr[j]? = some d ∧ tr[j + 1]? = some d' ∧ stepR T call ops b nx0 (i + j) o d = some d'
 | [],i,ds,tr,h=>by
  simp only [traceR,zo] at h
  subst h
  exact ⟨rfl,fun j o hj=>by simp at hj⟩
 | o :: r,i,ds,tr,h=>by
  simp only [traceR] at h
  split at h
  ·rename_i ds' h1
   split at h
   ·rename_i l hl
    simp only [zo] at h
    subst h
    obtain ⟨g1,g2⟩ := traceR_ok r (i + 1) ds' l hl
    refine ⟨rfl,fun j o' hj=>?_⟩
    cases j with
    | zero =>
     simp only [List.getElem?_cons_zero,zo] at hj
     subst hj
     exact ⟨ds,ds',rfl,by simpa using g1,h1⟩
    | succ j =>
     obtain ⟨d,d',e1,e2,e3⟩ := g2 j o' (by simpa using hj)
     exact ⟨d,d',by simpa using e1,by simpa using e2,by rw [show i + (j + 1) = i + 1 + j from by omega]; exact e3⟩
   ·cases h
  ·cases h
def slotD (ds : DS) (t : Nat) : DV := (ds.st.s.get t).getD .bad
structure Tra (T : TT) (call : aV) (ops : Array Oper) (b : Array Nat) (nx0 : Nat) (tr : List DS) : Prop where
 m : cM ops b = true
 edge : ∀ (j : Nat) (o : Oper),ops[j]? = some o → ∀ e ∈ o.after,Region.binds .any e = true → e.on < j
 pair : ∀ (i j : Nat) (x y : Oper),i < j → ops[i]? = some x → ops[j]? = some y → (b.getD j 0).testBit i = true ∨ x.apart ops y = true
 nodef : ∀ (j : Nat) (o : Oper),ops[j]? = some o → (match o.op with | .defer _=>false | _=>true) = true
 step : ∀ (i : Nat) (o : Oper),ops[i]? = some o → ∃ ds ds',tr[i]? = some ds ∧ tr[i + 1]? = some ds' ∧ stepR T call ops b nx0 i o ds = some ds'
section
variable {T : TT} {call : aV} {ops : Array Oper} {b : Array Nat} {nx0 : Nat} {tr : List DS}
theorem Tra.before_lt (h : Tra T call ops b nx0 tr) : ∀ (j : Nat) (o : Oper) (k : Nat),ops[j]? = some o → (b.getD j 0).testBit k = true → k < j := by
 intro j
 induction j using Nat.strongRecOn with
 | _ j ih =>
  intro o k ho hk
  obtain ⟨e,he,hb,g⟩ := masks_step h.m ho hk
  have hej := h.edge j o ho e he hb
  rcases g with rfl | g
  ·exact hej
  ·have hjs : j < ops.size := (Array.getElem?_eq_some_iff.1 ho).1
   have := ih e.on hej ops[e.on] k (by simp [Nat.lt_trans hej hjs]) g
   omega
theorem Tra.slot (h : Tra T call ops b nx0 tr) {t k : Nat} {dk : DS} (hk : tr[k]? = some dk) : ∀ (m : Nat) (dj : DS),tr[k + m]? = some dj → k + m ≤ ops.size → (∀ (i : Nat) (o : Oper),k ≤ i → i < k + m → ops[i]? = some o → o.dst ≠ some t) → slotD dj t = .bad ∨ slotD dj t = slotD dk t
 | 0,dj,hj,_,_=>by
  rw [Nat.add_zero,hk] at hj
  cases hj
  exact .inr rfl
 | m + 1,dj,hj,hle,hw=>by
  have hlt : k + m < ops.size := by omega
  have ho : ops[k + m]? = some ops[k + m] := by simp [hlt]
  obtain ⟨d,d',g1,g2,g3⟩ := h.step (k + m) _ ho
  have e : d' = dj := by
   have : tr[k + (m + 1)]? = some d' := g2
   rw [hj] at this
   exact (Option.some.inj this).symm
  subst e
  obtain ⟨_,_,v,hp,_⟩ := bH g3 (h.nodef _ _ ho)
  have hne := hw (k + m) _ (by omega) (by omega) ho
  rcases putS_other hp hne with e1 | e1
  ·exact .inl e1
  ·rcases Tra.slot h hk m d g1 (by omega) (fun i o h1 h2=>hw i o h1 (by omega)) with e2 | e2
   ·exact .inl (e1.trans e2)
   ·exact .inr (e1.trans e2)
theorem Tra.heap (h : Tra T call ops b nx0 tr) {k : Nat} {dk : DS} (hk : tr[k]? = some dk) : ∀ (m : Nat) (dj : DS),tr[k + m]? = some dj → k + m ≤ ops.size → (∀ i,k ≤ i → i < k + m → ap ops i = false) → dj.st.H = dk.st.H
 | 0,dj,hj,_,_=>by
  rw [Nat.add_zero,hk] at hj
  cases hj
  rfl
 | m + 1,dj,hj,hle,hw=>by
  have hlt : k + m < ops.size := by omega
  have ho : ops[k + m]? = some ops[k + m] := by simp [hlt]
  obtain ⟨d,d',g1,g2,g3⟩ := h.step (k + m) _ ho
  have e : d' = dj := by
   have : tr[k + (m + 1)]? = some d' := g2
   rw [hj] at this
   exact (Option.some.inj this).symm
  subst e
  obtain ⟨_,_,v,hp,hkd⟩ := bH g3 (h.nodef _ _ ho)
  have hna : aJ ops[k + m] = false := by
   have := hw (k + m) (by omega) (by omega)
   simpa only [ap,ho] using this
  have e1 : d'.st.H = d.st.H := by
   cases hkd with
   | skip _ _ _ hH _=>exact hH
   | skipA _ _ hn _ _=>rw [hna] at hn; cases hn
   | new _ _ _ _ hH _=>exact hH
   | act _ hn _ _=>rw [hna] at hn; cases hn
   | quiet _ _ _ _ hH _=>exact hH
  exact e1.trans (Tra.heap h hk m d g1 (by omega) (fun i h1 h2=>hw i h1 (by omega)))
theorem Tra.pend (h : Tra T call ops b nx0 tr) (h0 : ∃ ds,tr[0]? = some ds ∧ ds.pd = []) : ∀ (j : Nat) (dj : DS),tr[j]? = some dj → j ≤ ops.size → (dj.pd.map Prod.fst).Nodup ∧ ∀ x ∈ dj.pd,x.1 < j ∧
  (∃ o di d,ops[x.1]? = some o ∧ tr[x.1]? = some di ∧ bB o = true ∧ az ops di.st.s o = some true ∧ cj T o.op (evD di.st.s) (nx0 + x.1) = some (d,x.2)) ∧ ∀ l,l < j → ap ops l = true → (b.getD l 0).testBit x.1 = false
 | 0,dj,hj,_=>by
  obtain ⟨ds,g1,g2⟩ := h0
  rw [g1] at hj
  cases hj
  rw [g2]
  simp
 | j + 1,dj,hj,hle=>by
  have hlt : j < ops.size := by omega
  have ho : ops[j]? = some ops[j] := by simp [hlt]
  obtain ⟨d,d',g1,g2,g3⟩ := h.step j _ ho
  rw [hj] at g2
  cases g2
  obtain ⟨ih1,ih2⟩ := Tra.pend h h0 j d g1 (by omega)
  obtain ⟨_,_,v,hp,hkd⟩ := bH g3 (h.nodef _ _ ho)
  have keep : aJ ops[j] = false → dj.pd = d.pd → (dj.pd.map Prod.fst).Nodup ∧ ∀ x ∈ dj.pd,x.1 < j + 1 ∧ (∃ o di d,ops[x.1]? = some o ∧ tr[x.1]? = some di ∧ bB o = true ∧ az ops di.st.s o = some true ∧ cj T o.op (evD di.st.s) (nx0 + x.1) = some (d,x.2)) ∧ ∀ l,l < j + 1 → ap ops l = true → (b.getD l 0).testBit x.1 = false := by
   intro hna he
   rw [he]
   refine ⟨ih1,fun x hx=>?_⟩
   obtain ⟨a1,a2,a3⟩ := ih2 x hx
   refine ⟨by omega,a2,fun l hl hal=>?_⟩
   rcases Nat.lt_succ_iff_lt_or_eq.1 hl with hl | rfl
   ·exact a3 l hl hal
   ·simp only [ap,ho,hna] at hal; cases hal
  have filt : aJ ops[j] = true → dj.pd = (d.pd.filter fun x=>!(b.getD j 0).testBit x.1) → (dj.pd.map Prod.fst).Nodup ∧ ∀ x ∈ dj.pd,x.1 < j + 1 ∧ (∃ o di d,ops[x.1]? = some o ∧ tr[x.1]? = some di ∧ bB o = true ∧ az ops di.st.s o = some true ∧ cj T o.op (evD di.st.s) (nx0 + x.1) = some (d,x.2)) ∧ ∀ l,l < j + 1 → ap ops l = true → (b.getD l 0).testBit x.1 = false := by
   intro _ he
   rw [he]
   refine ⟨ih1.sublist (List.filter_sublist.map _),fun x hx=>?_⟩
   obtain ⟨hx1,hx2⟩ := List.mem_filter.1 hx
   obtain ⟨a1,a2,a3⟩ := ih2 x hx1
   refine ⟨by omega,a2,fun l hl hal=>?_⟩
   rcases Nat.lt_succ_iff_lt_or_eq.1 hl with hl | rfl
   ·exact a3 l hl hal
   ·simpa using hx2
  cases hkd with
  | skip _ _ hn _ hpd=>exact keep hn hpd
  | skipA _ _ hn _ hpd=>exact filt hn hpd
  | act _ hn _ hpd=>exact filt hn hpd
  | quiet _ _ hn _ _ hpd=>exact keep hn hpd
  | new hg k hk hn _ hpd =>
   rw [hpd]
   refine ⟨?_,fun x hx=>?_⟩
   ·rw [List.map_append,List.nodup_append]
    refine ⟨ih1,by simp,fun a ha c hc=>?_⟩
    simp at hc
    subst hc
    obtain ⟨x,hx,rfl⟩ := List.mem_map.1 ha
    have := (ih2 x hx).1
    omega
   ·rcases List.mem_append.1 hx with hx | hx
    ·obtain ⟨a1,a2,a3⟩ := ih2 x hx
     refine ⟨by omega,a2,fun l hl hal=>?_⟩
     rcases Nat.lt_succ_iff_lt_or_eq.1 hl with hl | rfl
     ·exact a3 l hl hal
     ·simp only [ap,ho,cr hn] at hal; cases hal
    ·simp only [List.mem_singleton] at hx
     subst hx
     refine ⟨Nat.lt_succ_self _,⟨_,d,v,ho,g1,hn,hg,hk⟩,fun l hl hal=>?_⟩
     cases hb : (b.getD l 0).testBit j with
     | false=>rfl
     | true =>
      have hls : l < ops.size := by omega
      have := h.before_lt l ops[l] j (by simp [hls]) hb
      omega
end
def PendOk (B B' : Nat → Option Go.Obj) (β : Be) (id : Nat) (k : Blk) : Prop :=
 ∃ bb c arr,β id = some (bb,c) ∧ B' bb = some (.cells arr k.e (0,0)) ∧ B bb = none ∧ k.cells.length = arr.size ∧ RL β k.cells arr.toList ∧ (∀ m,k.cap = some m → c = m) ∧ (k.sz ≠ 0 → arr.size = c * k.sz)
def PW (W0 : World) (B : Nat → Option Go.Obj) (β : Be) (nx0 : Nat) (H : Hp) (w : World) (p : Nat → Blk → Prop) : Prop :=
 ∃ B',WR W0 B' β H w ∧ (∀ b o,B b = some o → B' b = some o) ∧ ∀ i k,p i k → PendOk B B' β (nx0 + i) k
def Inj2 (β : Be) (nx0 n : Nat) : Prop := ∀ i i' bb c c',i < n → i' < n → β (nx0 + i) = some (bb,c) → β (nx0 + i') = some (bb,c') → i = i'
section
variable {W0 : World} {B : Nat → Option Go.Obj} {β : Be} {nx0 : Nat} {H : Hp} {w : World} {p : Nat → Blk → Prop}
theorem PW.weak (h : PW W0 B β nx0 H w p) {q : Nat → Blk → Prop} (hq : ∀ i k,q i k → p i k) : PW W0 B β nx0 H w q :=
 let ⟨B',h1,h2,h3⟩ := h
 ⟨B',h1,h2,fun i k hk=>h3 i k (hq i k hk)⟩
theorem PW.wr (h : PW W0 B β nx0 H w p) : WR W0 B β H w := by
 obtain ⟨B',h1,h2,_⟩ := h
 refine ⟨h1.os,h1.tape,h1.output,h1.size,fun b o hb=>h1.prot b o (h2 b o hb),h1.dom,h1.blk,fun id k b c hk hβ=>?_,h1.inj,h1.fit⟩
 cases hb : B b with
 | none=>rfl
 | some o =>
  have := h1.own id k b c hk hβ
  rw [h2 b o hb] at this
  cases this
theorem PW.absorb1 (h : PW W0 B β nx0 H w p) {n i : Nat} {k : Blk} (hp : p i k) (hin : i < n) (hpn : ∀ j k,p j k → j < n) (hj : Inj2 β nx0 n) : PW W0 B β nx0 ⟨H.h.set 24 (nx0 + i) (some k),H.nx⟩ w fun j k'=>p j k' ∧ j ≠ i := by
 obtain ⟨B',h1,h2,h3⟩ := h
 obtain ⟨bb,c,arr,g1,g2,g3,g4,g5,g6,g7⟩ := h3 i k hp
 refine ⟨fun x=>if x = bb then none else B' x,⟨h1.os,h1.tape,h1.output,h1.size,fun b o hb=>?_,h1.dom,fun id k' hk=>?_,fun id k' b c' hk hβ=>?_,fun id id' k1 k2 b c1 c2 hk hk' e1 e2=>?_,Tr.set_fits _ _ _ _ h1.fit⟩,fun b o hb=>?_,fun j k' ⟨hk',hne⟩=>?_⟩
 ·by_cases e : b = bb
  ·simp [e] at hb
  ·simp only [zy e] at hb
   exact h1.prot b o hb
 ·rcases aS hk with ⟨rfl,e⟩ | ⟨_,e⟩
  ·cases e
   exact ⟨bb,c,arr,(0,0),g1,h1.prot _ _ g2,fun _=>rfl,by rw [g4]; exact Nat.le_refl _,by rw [g4,List.take_of_length_le (by simp)]; exact g5,g6,g7⟩
  ·exact h1.blk id k' e
 ·rcases aS hk with ⟨rfl,_⟩ | ⟨_,e⟩
  ·rw [g1] at hβ
   cases hβ
   simp
  ·have := h1.own id k' b c' e hβ
   by_cases eb : b = bb
   ·simp [eb]
   ·simp only [zy eb]; exact this
 ·have clash : ∀ id k' c',aC H.h id = some k' → β id = some (bb,c') → False := by
   intro id k' c' hk hβ
   have := h1.own id k' bb c' hk hβ
   rw [g2] at this
   cases this
  rcases aS hk with ⟨e,_⟩ | ⟨_,e⟩ <;> rcases aS hk' with ⟨e',_⟩ | ⟨_,e'⟩
  ·rw [e,e']
  ·rw [e,g1] at e1
   cases e1
   exact (clash id' k2 c2 e' e2).elim
  ·rw [e',g1] at e2
   cases e2
   exact (clash id k1 c1 e e1).elim
  ·exact h1.inj id id' k1 k2 b c1 c2 e e' e1 e2
 ·have e : b ≠ bb := fun e=>by rw [e,g3] at hb; cases hb
  simp only [zy e]
  exact h2 b o hb
 ·obtain ⟨b2,c2,arr2,f1,f2,f3,f4⟩ := h3 j k' hk'
  have e : b2 ≠ bb := fun e=>hne (hj j i bb c2 c (hpn j k' hk') hin (by rw [f1,e]) g1)
  exact ⟨b2,c2,arr2,f1,by simp only [zy e]; exact f2,f3,f4⟩
theorem PW.absorbL {n : Nat} (hj : Inj2 β nx0 n) : ∀ (l : List (Nat × Blk)) {H : Hp} {p : Nat → Blk → Prop},PW W0 B β nx0 H w p → (∀ x ∈ l,p x.1 x.2) → (l.map Prod.fst).Nodup → (∀ j k,p j k → j < n) → PW W0 B β nx0 (cf nx0 H l) w fun j k'=>p j k' ∧ ∀ x ∈ l,j ≠ x.1
 | [],H,p,h,_,_,_=>h.weak fun i k hk=>hk.1
 | x :: l,H,p,h,hp,hnd,hpn=>by
  simp only [List.map_cons,List.nodup_cons] at hnd
  have h1 := h.absorb1 (hp x (by simp)) (hpn _ _ (hp x (by simp))) hpn hj
  have h2 := PW.absorbL hj l h1 (fun y hy=>⟨hp y (by simp [hy]),fun e=>hnd.1 (by rw [← e]; exact List.mem_map.2 ⟨y,hy,rfl⟩)⟩) hnd.2 (fun j k hk=>hpn j k hk.1)
  exact h2.weak fun i k hk=>⟨⟨hk.1,hk.2 x (by simp)⟩,fun y hy=>hk.2 y (by simp [hy])⟩
theorem eC (nx0 : Nat) : ∀ (l : List (Nat × Blk)) (H : Hp),(cf nx0 H l).nx = H.nx
 | [],_=>rfl
 | x :: l,H=>eC nx0 l ⟨H.h.set 24 (nx0 + x.1) (some x.2),H.nx⟩
end
end
end Go.Cx
