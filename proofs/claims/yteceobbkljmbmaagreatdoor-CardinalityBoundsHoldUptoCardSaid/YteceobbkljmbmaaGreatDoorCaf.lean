/- cardinalityBoundsHoldUpto_holds, part 6: the layer, the plain functions and what they compute; conditions as in the statement. -/
import Derived.Test.YteceobbkljmbmaaGreatDoorCae
set_option maxHeartbeats 4000000
namespace Go.Proofs.YteceobbkljmbmaaGreatDoor
noncomputable section
open Go Go.Ab
def Tot {α : Type} (o : Option α) : Prop := ∃ v,o = some v
theorem Tot.mk {α : Type} {v : α} : Tot (Option.some v) := ⟨v,rfl⟩
theorem Tot.bind {α β : Type} {o : Option α} {k : α → Option β} (h : Tot o) (hk : ∀ v,o = some v → Tot (k v)) : Tot (af o k) := by
 obtain ⟨v,hv⟩ := h
 rw [hv]
 exact hk v hv
theorem Tot.cond {α : Type} {b : Bool} {x y : Option α} (hx : b = true → Tot x) (hy : b = false → Tot y) : Tot (cond b x y) := by
 cases b
 ·exact hy rfl
 ·exact hx rfl
theorem Tot.get {α : Type} {xs : List α} {i : Int} (h0 : 0 ≤ i) (h : i < xs.length) : Tot (aF xs i) := by
 have : i.toNat < xs.length := by omega
 exact ⟨xs[i.toNat],kQ h0 (ze this)⟩
theorem Tot.sub {α : Type} {xs : List α} {a b : Int} (h : 0 ≤ a ∧ a ≤ b ∧ b ≤ xs.length) : Tot (oF xs a b) := ⟨_,qK h⟩
theorem Tot.range {α σ ρ : Type} {step : Nat → α → σ → Option (Flow σ ρ)} : ∀ (xs : List α) (j : Nat) (s : σ),(∀ k x s,xs[k]? = some x → Tot (step (j + k) x s)) → Tot (aK step j xs s)
 | [],_,s,_=>⟨.next s,rfl⟩
 | x :: xs,j,s,h=>by
  obtain ⟨fl,hfl⟩ := h 0 x s rfl
  rw [Nat.add_zero] at hfl
  rw [aK,hfl]
  cases fl with
  | next s' =>
   exact Tot.range xs (j + 1) s' fun k y t hk=>by
    have := h (k + 1) y t (by simpa using hk)
    rwa [show j + (k + 1) = j + 1 + k from by omega] at this
  | brk s'=>exact ⟨_,rfl⟩
  | ret r=>exact ⟨_,rfl⟩
theorem Tot.thenR {σ ρ : Type} {fl : Flow σ ρ} {k : σ → Option ρ} (h : ∀ s,(fl = .next s ∨ fl = .brk s) → Tot (k s)) : Tot (fl.thenR k) := by
 cases fl with
 | next s=>exact h s (.inl rfl)
 | brk s=>exact h s (.inr rfl)
 | ret r=>exact ⟨r,rfl⟩
theorem kh {a b : Int} (h : a ≠ b) : (a != b) = true := by simpa using h
theorem mg {a b : Int} (h : a = b) : (a != b) = false := by simp [h]
theorem cr {a b : Int} (h : a ≠ b) : (a == b) = false := by simpa using h
theorem gZ {a b : Int} (h : a = b) : (a == b) = true := by simp [h]
theorem idxF {α : Type} {l : List α} {f : α → Option Bool} {p : α → Bool} (h : ∀ x ∈ l,f x = some (p x)) :
  af (aK (σ := Unit) (ρ := Int) (fun (j1 : Nat) (x1 : α) (_ : Unit)=>af (f x1) fun x16=>cond x16 (some (.ret (j1 : Int))) (some (.next ()))) 0 l ()) (fun fl1=>fl1.thenR fun (_ : Unit)=>some (-1)) = some (ba p l) := by
 rw [lH p (fun j _=>(j : Int)) l 0 (fun k x hk=>by
  rw [h x (eX hk),bPs]
  cases p x <;> simp)]
 unfold ba
 cases hf : l.findIdx? p with
 | none=>rfl
 | some i =>
  have hi := (List.findIdx?_eq_some_iff_getElem.1 hf).1
  simp only [ze hi]
  simp
theorem idxF2 {α : Type} {l : List α} {p : α → Bool} :
  af (aK (σ := Unit) (ρ := Int) (fun (j1 : Nat) (x1 : α) (_ : Unit)=>cond (p x1) (some (.ret (j1 : Int))) (some (.next ()))) 0 l ()) (fun fl1=>fl1.thenR fun (_ : Unit)=>some (-1)) = some (ba p l) := idxF (f := fun x=>some (p x)) fun _ _=>rfl
theorem idxOf_neg {α : Type} {p : α → Bool} {l : List α} : ba p l = -1 ∨ 0 ≤ ba p l := by
 unfold ba
 cases l.findIdx? p with
 | none=>exact .inl rfl
 | some i=>exact .inr (by simp)
theorem ow {α : Type} {p : α → Bool} {l : List α} (h : 0 ≤ ba p l) : ∃ x,l[(ba p l).toNat]? = some x ∧ p x = true := by
 unfold ba at h ⊢
 cases hf : l.findIdx? p with
 | none=>rw [hf] at h; simp at h
 | some i =>
  obtain ⟨hi,hp,_⟩ := List.findIdx?_eq_some_iff_getElem.1 hf
  exact ⟨l[i],by simp [hi],hp⟩
theorem idx_table (l : List LTable) (p : LTable → Bool) : cQ l (fun a=>some (p a)) = some (ba p l) := idxF fun _ _=>rfl
theorem idx_column (l : List LCol) (p : LCol → Bool) : cI l (fun a=>some (p a)) = some (ba p l) := idxF fun _ _=>rfl
theorem pr (s : LSchema) (name : List UInt8) : fL s name = some (cP 0 (ba (fun t=>cY t name) s.tables),decide (ba (fun t=>cY t name) s.tables ≥ 0)) := by
 unfold fL
 rw [idx_table,bPs]
 congr 2
 unfold cP
 split <;> split <;> omega
theorem findColumn_eq (t : LTable) (name : List UInt8) : gm t name = some (cP 0 (ba (fun c=>dV c name) t.columns),decide (ba (fun c=>dV c name) t.columns ≥ 0)) := by
 unfold gm
 rw [idx_column,bPs]
 congr 2
 unfold cP
 split <;> split <;> omega
theorem qz {n : Int} (h : 0 ≤ n) : cP 0 n = n := by unfold cP; split <;> omega
theorem rP (s : List UInt8) : Tot (fR s) := by
 unfold fR
 refine Tot.bind ?_ fun b hb=>?_
 ·refine Tot.cond (fun _=>Tot.mk) fun h1=>?_
  refine Tot.cond (fun _=>Tot.mk) fun h2=>?_
  have h1 := of_decide_eq_false h1
  refine Tot.bind (Tot.get (by decide) (by omega)) fun x _=>?_
  refine Tot.cond (fun _=>?_) fun _=>Tot.mk
  exact Tot.bind (Tot.get (by decide) (by omega)) fun x _=>Tot.mk
 ·refine Tot.cond (fun _=>Tot.mk) fun h=>?_
  subst h
  have hl : (s.length : Int) ≤ 12 := by
   by_cases h1 : (s.length : Int) < 1
   ·omega
   ·by_cases h2 : (s.length : Int) > 12
    ·rw [zf h1,zt h2] at hb; simp at hb
    ·omega
  refine Tot.bind ⟨(),er (by omega)⟩ fun _ _=>?_
  refine Tot.bind (Tot.range _ _ _ fun k x _ _=>?_) fun fl _=>Tot.thenR fun _ _=>Tot.mk
  repeat' first | exact Tot.mk | refine Tot.cond (fun _=>?_) (fun _=>?_)
structure TableOk (t : LTable) : Prop where
 pk : ∀ x ∈ t.primaryKey,0 ≤ x ∧ x < t.columns.length
theorem validTable (t : LTable) (hsm : t.primaryKey.length ≤ 10000000) : ∃ e,fB t = some e ∧ (e = 0 → TableOk t) := by
 unfold fB
 obtain ⟨b,hb⟩ := rP t.name
 rw [hb,bPs]
 cases b with
 | false=>exact ⟨23,rfl,fun h=>by omega⟩
 | true =>
  simp only [Bool.not_true,zd]
  by_cases h0 : (t.columns.length : Int) = 0
  ·exact ⟨3,by simp [h0],fun h=>by omega⟩
  by_cases h6 : (t.columns.length : Int) > 6
  ·have : ((t.columns.length : Int) == 0) = false := by simpa using h0
   exact ⟨2,by rw [this]; simp [h6],fun h=>by omega⟩
  have e0 : ((t.columns.length : Int) == 0) = false := by simpa using h0
  rw [e0,zf h6]
  simp only [zd]
  obtain ⟨fl,hfl,hr⟩ := eD (step := fun (j1 : Nat) (x1 : LCol) (_ : Unit) =>
    af (fR x1.name) fun x31=>cond (!x31) (some (Flow.ret (σ := Unit) (23 : Int)))
     (af (gm t x1.name) fun x37=>cond (decide (x37.1 < (j1 : Int))) (some (.ret 5)) (cond (decide (x1.kind < (1 : Int))) (some (.ret 7)) (cond (decide (x1.kind > (3 : Int))) (some (.ret 7)) (some (.next ())))))) (fun _ _=>True) (fun r=>r ≠ 0) t.columns 0 () trivial (fun k x s hk _=>by
    obtain ⟨b,hb⟩ := rP x.name
    rw [hb,bPs,findColumn_eq,bPs]
    cases b with
    | false=>exact ⟨_,rfl,by simp⟩
    | true =>
     simp only [Bool.not_true,zd]
     by_cases a1 : cP 0 (ba (fun c=>dV c x.name) t.columns) < ((0 + k : Nat) : Int)
     ·exact ⟨.ret 5,by rw [zt a1]; rfl,by simp⟩
     ·rw [zf a1]
      by_cases a2 : x.kind < 1
      ·exact ⟨.ret 7,by rw [zt a2]; rfl,by simp⟩
      ·rw [zf a2]
       by_cases a3 : x.kind > 3
       ·exact ⟨.ret 7,by rw [zt a3]; rfl,by simp⟩
       ·exact ⟨.next (),by rw [zf a3]; rfl,trivial⟩)
  rw [hfl,bPs]
  cases fl with
  | brk s=>exact absurd hr (by simp)
  | ret r=>exact ⟨r,rfl,fun h=>absurd h hr⟩
  | next s =>
   rw [jV]
   obtain ⟨fl,hfl,hr⟩ := eD (step := fun (j2 : Nat) (x2 : Int) (_ : Unit) =>
     cond (decide (x2 < (0 : Int))) (some (Flow.ret (σ := Unit) (9 : Int))) (cond (decide (x2 ≥ (t.columns.length : Int))) (some (.ret 9))
      (af (aF t.columns x2) fun (x73 : LCol)=>cond x73.nullable (some (.ret 9)) (cond (decide ((j2 : Int) > (0 : Int)))
       (af (aF t.primaryKey (IntKind.i64.wrap ((j2 : Int) - (1 : Int)))) fun (x86 : Int)=>cond (decide (x2 ≤ x86)) (some (.ret 9)) (some (.next ()))) (some (.next ())))))) (fun j _=>∀ k x,k < j → t.primaryKey[k]? = some x → 0 ≤ x ∧ x < t.columns.length) (fun r=>r ≠ 0) t.primaryKey 0 () (fun k x h=>by omega) (fun k x s hk hI=>by
     simp only [Nat.zero_add] at hI ⊢
     by_cases a1 : x < 0
     ·exact ⟨.ret 9,by rw [zt a1]; rfl,by simp⟩
     rw [zf a1]
     by_cases a2 : x ≥ (t.columns.length : Int)
     ·exact ⟨.ret 9,by rw [zt a2]; rfl,by simp⟩
     rw [zf a2]
     simp only [zd]
     obtain ⟨c,hc⟩ := Tot.get (xs := t.columns) (i := x) (by omega) (by omega)
     rw [hc,bPs]
     have next : ∀ k' x',k' < k + 1 → t.primaryKey[k']? = some x' → 0 ≤ x' ∧ x' < t.columns.length := fun k' x' h1 h2=>by
      by_cases he : k' = k
      ·subst he; rw [hk] at h2; cases h2; omega
      ·exact hI k' x' (by omega) h2
     cases c.nullable with
     | true=>exact ⟨_,rfl,by simp⟩
     | false =>
      simp only [zd]
      by_cases a3 : (k : Int) > 0
      ·rw [zt a3]
       have hkl := (zg.1 hk).1
       rw [bs (by omega) (by omega)]
       obtain ⟨y,hy⟩ := Tot.get (xs := t.primaryKey) (i := (k : Int) - 1) (by omega) (by omega)
       rw [zc,hy,bPs]
       by_cases a4 : x ≤ y
       ·exact ⟨.ret 9,by rw [zt a4]; rfl,by simp⟩
       ·exact ⟨.next (),by rw [zf a4]; rfl,next⟩
      ·exact ⟨.next (),by rw [zf a3]; rfl,next⟩)
   rw [hfl,bPs]
   cases fl with
   | brk s=>exact absurd hr (by simp)
   | ret r=>exact ⟨r,rfl,fun h=>absurd h hr⟩
   | next s =>
    rw [jV]
    simp only [Nat.zero_add] at hr
    by_cases hp : (t.primaryKey.length : Int) = 0
    ·exact ⟨9,by simp [hp],fun h=>by omega⟩
    ·have : ((t.primaryKey.length : Int) == 0) = false := by simpa using hp
     refine ⟨0,by rw [this]; rfl,fun _=>⟨fun x hx=>?_⟩⟩
     obtain ⟨k,hk,rfl⟩ := List.mem_iff_getElem.1 hx
     exact hr k _ hk (ze hk)
theorem gN {α : Type} {xs : List α} {k : Nat} (h : k < xs.length) : aF xs (k : Int) = some xs[k] := mj (ze h)
theorem foreignKey_tot {s : LSchema} (hs : ∀ t ∈ s.tables,TableOk t) (fk : LForeignKey) : Tot (eU s fk) := by
 unfold eU
 rw [pr,pr]
 simp only [bPs,bF]
 generalize hi : ba (fun t=>cY t fk.table) s.tables = i
 generalize hj : ba (fun t=>cY t fk.refTable) s.tables = j
 by_cases h1 : i ≥ 0
 ·by_cases h2 : j ≥ 0
  ·rw [zt h1,zt h2]
   simp only [Bool.not_true,zd]
   rw [qz h1,qz h2]
   obtain ⟨t,ht,_⟩ := ow (hi ▸ h1)
   obtain ⟨u,hu,_⟩ := ow (hj ▸ h2)
   rw [hi] at ht
   rw [hj] at hu
   rw [kQ h1 ht,kQ h2 hu]
   simp only [bPs]
   refine Tot.cond (fun _=>Tot.mk) fun hl=>?_
   have hl : fk.columns.length = u.primaryKey.length := by
    by_cases h : (fk.columns.length : Int) = (u.primaryKey.length : Int)
    ·omega
    ·simp [h] at hl
   refine Tot.bind (Tot.range _ _ _ fun k x st hk=>?_) fun fl _=>Tot.thenR fun _ _=>Tot.mk
   have hkl := (zg.1 hk).1
   by_cases a1 : x < 0
   ·rw [zt a1]; exact Tot.mk
   ·rw [zf a1]
    by_cases a2 : x ≥ (t.columns.length : Int)
    ·rw [zt a2]; exact Tot.mk
    ·rw [zf a2]
     simp only [zd]
     obtain ⟨c,hc⟩ := Tot.get (xs := t.columns) (i := x) (by omega) (by omega)
     rw [hc,bPs,Nat.zero_add,gN (by omega),bPs]
     have hp := (hs u (eX hu)).pk u.primaryKey[k] (List.getElem_mem _)
     obtain ⟨d,hd⟩ := Tot.get (xs := u.columns) (i := u.primaryKey[k]) hp.1 hp.2
     rw [hd,bPs]
     exact Tot.cond (fun _=>Tot.mk) fun _=>Tot.mk
  ·rw [zf h2]
   simp only [Bool.not_false]
   cases decide (i ≥ 0) <;> exact Tot.mk
 ·rw [zf h1]
  exact Tot.mk
theorem constraint_tot (s : LSchema) (c : LConstraint) : Tot (eS s c) := by
 unfold eS
 rw [pr]
 simp only [bPs,bF]
 generalize hi : ba (fun t=>cY t c.table) s.tables = i
 by_cases h1 : i ≥ 0
 ·rw [zt h1]
  simp only [Bool.not_true,zd]
  rw [qz h1]
  obtain ⟨t,ht,_⟩ := ow (hi ▸ h1)
  rw [hi] at ht
  rw [kQ h1 ht,bPs]
  refine Tot.cond (fun _=>Tot.mk) fun hl=>?_
  by_cases a1 : c.left < 0
  ·rw [zt a1] at hl; cases hl
  rw [zf a1,zd] at hl
  by_cases a2 : c.left ≥ (t.columns.length : Int)
  ·rw [zt a2] at hl; cases hl
  rw [zf a2,zd] at hl
  obtain ⟨x,hx⟩ := Tot.get (xs := t.columns) (i := c.left) (by omega) (by omega)
  rw [hx]
  refine Tot.cond (fun a3=>?_) fun _=>?_
  ·have a3 := of_decide_eq_true a3
   have a4 : c.right < (t.columns.length : Int) := by
    rcases Int.lt_or_le c.right (t.columns.length : Int) with h | h
    ·exact h
    ·have e : decide (c.right ≥ (t.columns.length : Int)) = true := zt h
     rw [e] at hl
     revert hl
     cases ((hC (LVal.mk 0 0 []) c.op (LVal.mk 0 0 [])).2 != 0) <;> cases decide (c.right < -1) <;> simp
   obtain ⟨y,hy⟩ := Tot.get (xs := t.columns) (i := c.right) a3 a4
   rw [hy]
   simp only [bPs]
   exact Tot.cond (fun _=>Tot.mk) fun _=>Tot.mk
  ·rw [bPs]
   exact Tot.cond (fun _=>Tot.mk) fun _=>Tot.mk
 ·rw [zf h1]
  exact Tot.mk
theorem equalInts_tot (a b : List Int) : Tot (gd a b) := by
 unfold gd
 refine Tot.cond (fun _=>Tot.mk) fun h=>?_
 have h : a.length = b.length := by
  by_cases h' : (a.length : Int) = (b.length : Int)
  ·omega
  ·simp [h'] at h
 refine Tot.bind (Tot.range _ _ _ fun k x s hk=>?_) fun fl _=>Tot.thenR fun _ _=>Tot.mk
 have hkl := (zg.1 hk).1
 rw [Nat.zero_add,gN (by omega),bPs]
 exact Tot.cond (fun _=>Tot.mk) fun _=>Tot.mk
theorem fkIn_tot (l : List LForeignKey) (x : LForeignKey) : Tot (bY l (fun a0=>gn a0 x)) := by
 unfold bY cL
 refine Tot.bind (Tot.bind (Tot.range _ _ _ fun k y s hk=>?_) fun fl _=>Tot.thenR fun _ _=>Tot.mk) fun _ _=>Tot.mk
 refine Tot.bind ?_ fun _ _=>Tot.cond (fun _=>Tot.mk) fun _=>Tot.mk
 unfold gn
 refine Tot.bind ?_ fun _ _=>Tot.mk
 unfold gO
 refine Tot.cond (fun _=>Tot.bind (equalInts_tot _ _) fun _ _=>Tot.cond (fun _=>Tot.mk) fun _=>Tot.mk) fun _=>Tot.mk
theorem csIn_tot (l : List LConstraint) (x : LConstraint) : Tot (cg l x) := by
 unfold cg cT
 refine Tot.bind (Tot.bind (Tot.range _ _ _ fun k y s hk=>?_) fun fl _=>Tot.thenR fun _ _=>Tot.mk) fun _ _=>Tot.mk
 exact Tot.cond (fun _=>Tot.mk) fun _=>Tot.mk
def lx (s : LSchema) : Prop := ∀ t ∈ s.tables,t.primaryKey.length ≤ 10000000
theorem validate_tot {s : LSchema} (hsm : lx s) : Tot (iV s) := by
 unfold iV
 rw [bF]
 refine Tot.cond (fun _=>Tot.mk) fun ht=>?_
 have h6 : s.tables.length ≤ 6 := by
  by_cases h : (s.tables.length : Int) > 6
  ·rw [zt h] at ht; cases ht
  ·omega
 obtain ⟨fl,hfl,hr⟩ := eD (step := fun (j2 : Nat) (x2 : LTable) (_ : Unit) =>
   af (fB x2) fun x37=>cond (x37 != (0 : Int)) (some (Flow.ret (σ := Unit) x37)) (cond (decide ((j2 : Int) > (0 : Int)))
     (af (aF s.tables (IntKind.i64.wrap ((j2 : Int) - (1 : Int)))) fun (x50 : LTable)=>cond (Op.bytesLess x2.name x50.name || x2.name == x50.name) (some (.ret 6)) (some (.next ()))) (some (.next ())))) (fun j _=>∀ k x,k < j → s.tables[k]? = some x → TableOk x) (fun _=>True) s.tables 0 () (fun k x h=>by omega) (fun k x st hk hI=>by
    simp only [Nat.zero_add] at hI ⊢
    obtain ⟨e,he,hok⟩ := validTable x (hsm x (eX hk))
    rw [he,bPs]
    by_cases h0 : e = 0
    ·have next : ∀ k' x',k' < k + 1 → s.tables[k']? = some x' → TableOk x' := fun k' x' h1 h2=>by
      by_cases heq : k' = k
      ·subst heq; rw [hk] at h2; cases h2; exact hok h0
      ·exact hI k' x' (by omega) h2
     rw [show (e != (0 : Int)) = false from by simp [h0],zd]
     by_cases a3 : (k : Int) > 0
     ·have hkl := (zg.1 hk).1
      rw [zt a3,bs (by omega) (by omega)]
      obtain ⟨y,hy⟩ := Tot.get (xs := s.tables) (i := (k : Int) - 1) (by omega) (by omega)
      rw [zc,hy,bPs]
      cases (Op.bytesLess x.name y.name || x.name == y.name) with
      | true=>exact ⟨.ret 6,rfl,trivial⟩
      | false=>exact ⟨.next (),rfl,next⟩
     ·exact ⟨.next (),by rw [zf a3]; rfl,next⟩
    ·exact ⟨.ret e,by rw [show (e != (0 : Int)) = true from by simp [h0]]; rfl,trivial⟩)
 rw [hfl,bPs]
 cases fl with
 | brk s=>exact absurd hr (by simp)
 | ret r=>exact Tot.mk
 | next u =>
  rw [jV]
  simp only [Nat.zero_add] at hr
  have hok : ∀ t ∈ s.tables,TableOk t := fun t ht=>by
   obtain ⟨k,hk,rfl⟩ := List.mem_iff_getElem.1 ht
   exact hr k _ hk (ze hk)
  refine Tot.bind (Tot.range _ _ _ fun k x st hk=>?_) fun fl _=>Tot.thenR fun _ _=>?_
  ·refine Tot.bind (foreignKey_tot hok x) fun e _=>Tot.cond (fun _=>Tot.mk) fun _=>?_
   have hkl := (zg.1 hk).1
   refine Tot.bind (Tot.sub ⟨by omega,by omega,by omega⟩) fun l _=>?_
   exact Tot.bind (fkIn_tot l x) fun _ _=>Tot.cond (fun _=>Tot.mk) fun _=>Tot.mk
  ·refine Tot.bind (Tot.range _ _ _ fun k x st hk=>?_) fun fl _=>Tot.thenR fun _ _=>Tot.mk
   refine Tot.bind (constraint_tot s x) fun e _=>Tot.cond (fun _=>Tot.mk) fun _=>?_
   have hkl := (zg.1 hk).1
   refine Tot.bind (Tot.sub ⟨by omega,by omega,by omega⟩) fun l _=>?_
   exact Tot.bind (csIn_tot l x) fun _ _=>Tot.cond (fun _=>Tot.mk) fun _=>Tot.mk
def dL (cols : List LCol) (row : Rq) : Prop := row.length = cols.length ∧ ∀ (i : Nat) (c : LCol) (x : LVal),cols[i]? = some c → row[i]? = some x → fK x c.kind c.nullable
theorem validate_valid {v : LVal} (h : dB v = 0) : eR v = true := by
 obtain ⟨k,n,t⟩ := v
 unfold dB bC at h
 unfold eR
 by_cases k0 : k = 0
 ·subst k0
  by_cases hn : n = 0
  ·subst hn
   cases t with
   | nil=>rfl
   | cons c t=>simp at h
  ·simp [kh hn] at h
 ·have e0 : (k == (0 : Int)) = false := by simpa using k0
  simp only [e0,zd] at h
  by_cases k1 : k = 1
  ·subst k1
   cases t with
   | cons c t=>simp at h
   | nil =>
    by_cases a : n < -1000000000000
    ·simp [a] at h
    ·by_cases b : n > 1000000000000
     ·simp [a,b] at h
     ·simp; omega
  ·by_cases k2 : k = 2
   ·subst k2
    cases t with
    | cons c t=>simp at h
    | nil =>
     by_cases a : n = 0
     ·simp [a]
     ·by_cases b : n = 1
      ·simp [b]
      ·simp [kh a,kh b] at h
   ·by_cases k3 : k = 3
    ·subst k3
     by_cases a : n = 0
     ·subst a
      by_cases b : (t.length : Int) > 24
      ·simp [b] at h
      ·simp; omega
     ·simp [kh a] at h
    ·have e1 : (k == (1 : Int)) = false := by simpa using k1
     have e2 : (k == (2 : Int)) = false := by simpa using k2
     have e3 : (k == (3 : Int)) = false := by simpa using k3
     simp [e1,e2,e3] at h
theorem conformsRow (t : LTable) (row : Rq) : ∃ e,eA t row = some e ∧ (e = 0 → dL t.columns row) := by
 unfold eA
 by_cases hl : (row.length : Int) = (t.columns.length : Int)
 ·have hl' : row.length = t.columns.length := by omega
  rw [show ((row.length : Int) != (t.columns.length : Int)) = false from by simp [hl],zd]
  obtain ⟨fl,hfl,hr⟩ := eD (step := fun (j1 : Nat) (x1 : LVal) (_ : Unit)=>bC (dB x1) fun x22=>cond (x22 != (0 : Int)) (some (Flow.ret (σ := Unit) x22))
    (af (cond (x1.kind == (0 : Int)) (af (aF t.columns (j1 : Int)) fun (x33 : LCol)=>some (!x33.nullable)) (some false)) fun (t3 : Bool)=>cond t3 (some (.ret 8))
     (cond (x1.kind != (0 : Int)) (af (aF t.columns (j1 : Int)) fun (x47 : LCol)=>cond (x1.kind != x47.kind) (some (.ret 7)) (some (.next ()))) (some (.next ())))))
   (fun j _=>∀ (k : Nat) (c : LCol) (x : LVal),k < j → t.columns[k]? = some c → row[k]? = some x → fK x c.kind c.nullable) (fun r=>r ≠ 0) row 0 () (fun k c x h=>by omega) (fun k x st hk hI=>by
    simp only [Nat.zero_add] at hI ⊢
    have hkl := (zg.1 hk).1
    rw [bF,gN (xs := t.columns) (by omega)]
    by_cases hv : dB x = 0
    ·rw [show (dB x != (0 : Int)) = false from by simp [hv],zd]
     have hvv := validate_valid hv
     have next : fK x t.columns[k].kind t.columns[k].nullable → ∀ (k' : Nat) (c : LCol) (x' : LVal),k' < k + 1 → t.columns[k']? = some c → row[k']? = some x' → fK x' c.kind c.nullable := fun hf k' c x' h1 h2 h3=>by
      by_cases heq : k' = k
      ·subst heq
       rw [hk] at h3
       rw [ze (by omega)] at h2
       cases h2
       cases h3
       exact hf
      ·exact hI k' c x' (by omega) h2 h3
     by_cases hx : x.kind = 0
     ·rw [show (x.kind == (0 : Int)) = true from by simp [hx],zc,bPs,bPs]
      cases hn : t.columns[k].nullable with
      | false=>exact ⟨.ret 8,rfl,by simp⟩
      | true=>exact ⟨.next (),by simp [hx],next ⟨hvv,.inr hx,fun _=>hn⟩⟩
     ·rw [show (x.kind == (0 : Int)) = false from by simp [hx],zd,bPs,zd,show (x.kind != (0 : Int)) = true from by simp [hx],zc,bPs]
      by_cases hk' : x.kind = t.columns[k].kind
      ·exact ⟨.next (),by rw [mg hk']; rfl,next ⟨hvv,.inl hk',fun h=>absurd h hx⟩⟩
      ·exact ⟨.ret 7,by rw [kh hk']; rfl,by simp⟩
    ·exact ⟨.ret (dB x),by rw [show (dB x != (0 : Int)) = true from by simp [hv]]; rfl,hv⟩)
  rw [hfl,bPs]
  cases fl with
  | brk s=>exact absurd hr (by simp)
  | ret r=>exact ⟨r,rfl,fun h=>absurd h hr⟩
  | next s =>
   simp only [Nat.zero_add] at hr
   exact ⟨0,rfl,fun _=>⟨hl',fun i c x hc hx=>hr i c x (zg.1 hx).1 hc hx⟩⟩
 ·exact ⟨3,by rw [show ((row.length : Int) != (t.columns.length : Int)) = true from by simp [hl]]; rfl,fun h=>by omega⟩
theorem key_tot (t : LTable) (row : Rq) (hsm : t.primaryKey.length ≤ 10000000) : ∃ k,cN t row = some k ∧ k.length = t.primaryKey.length := by
 unfold cN
 obtain ⟨fl,hfl,hr⟩ := eD (step := fun (_ : Nat) (x1 : Int) (s1 : Rq) =>
  bC (cond (decide (x1 ≥ (0 : Int))) ((decide (x1 < (row.length : Int)))) (false)) fun (t6 : Bool) =>
  af (cond t6 (af (aF row x1) fun (x27 : LVal)=>some x27) (some (LVal.mk 0 0 []))) fun (t7 : LVal) =>
  af (dg 32 s1 ([t7] : Rq)) fun (x32 : Rq)=>some (Flow.next (ρ := Empty) x32)) (fun j s=>s.length = j) (fun _=>False) t.primaryKey 0 ([] : Rq) rfl (fun k x s hk hI=>by
   have hI : s.length = k := by simpa using hI
   have hkl := (zg.1 hk).1
   rw [bF]
   have ht : ∃ v,(cond (cond (decide (x ≥ (0 : Int))) ((decide (x < (row.length : Int)))) (false)) (af (aF row x) fun (x27 : LVal)=>some x27) (some (LVal.mk 0 0 []))) = some v := by
    refine Tot.cond (fun h=>?_) fun _=>Tot.mk
    by_cases h0 : x ≥ 0
    ·rw [zt h0] at h
     exact Tot.bind (Tot.get h0 (of_decide_eq_true h)) fun _ _=>Tot.mk
    ·rw [zf h0] at h; cases h
   obtain ⟨v,hv⟩ := ht
   rw [hv,bPs,bV (by decide) (by simp; omega),bPs]
   exact ⟨_,rfl,by simp [hI]⟩)
 rw [hfl,bPs]
 cases fl with
 | brk s=>exact absurd hr (by simp)
 | ret r=>exact r.elim
 | next s=>exact ⟨s,rfl,by simpa using hr⟩
theorem uw (a b : Rq) (ha : a.length ≤ 10000000) : Tot (cS a b) := by
 unfold cS
 have hm : ∃ n : Nat,(if (b.length : Int) < (a.length : Int) then (b.length : Int) else (a.length : Int)) = (n : Int) ∧ n ≤ a.length ∧ n ≤ b.length := by
  split
  ·exact ⟨b.length,rfl,by omega,by omega⟩
  ·exact ⟨a.length,rfl,by omega,by omega⟩
 obtain ⟨n,hn,h1,h2⟩ := hm
 rw [hn,qd (by omega),bPs]
 refine Tot.bind (Tot.range _ _ _ fun k x s hk=>?_) fun fl _=>Tot.thenR fun _ _=>Tot.mk
 have hkl := (zg.1 hk).1
 simp at hkl
 rw [Nat.zero_add,gN (by omega),gN (by omega)]
 simp only [bPs,bF]
 exact Tot.cond (fun _=>Tot.mk) fun _=>Tot.mk
def KeyOrd (t : LTable) (rows : Rz) : Prop := ∀ (i : Nat) (p row : Rq),rows[i]? = some p → rows[i + 1]? = some row → ∃ k1 k2 z,cN t p = some k1 ∧ cN t row = some k2 ∧ cS k1 k2 = some z ∧ z < 0
structure InstOk (s : LSchema) (st : List LRelation) : Prop where
 len : st.length = s.tables.length
 ord : ∀ (i : Nat) (r : LRelation) (t : LTable),st[i]? = some r → s.tables[i]? = some t → KeyOrd t r.rows
 tab : ∀ (i : Nat) (r : LRelation) (t : LTable),st[i]? = some r → s.tables[i]? = some t → r.table = t.name ∧ r.rows.length ≤ 24 ∧ ∀ row ∈ r.rows,dL t.columns row
theorem conforms {s : LSchema} (hsm : lx s) (st : List LRelation) : ∃ e,fE s st = some e ∧ (e = 0 → InstOk s st) := by
 unfold fE
 by_cases hl : (st.length : Int) = (s.tables.length : Int)
 ·have hl' : st.length = s.tables.length := by omega
  rw [show ((st.length : Int) != (s.tables.length : Int)) = false from by simp [hl],zd]
  let good : LRelation → LTable → Prop := fun r t=>(r.table = t.name ∧ r.rows.length ≤ 24 ∧ ∀ row ∈ r.rows,dL t.columns row) ∧ KeyOrd t r.rows
  obtain ⟨fl,hfl,hr⟩ := eD (step := fun (j1 : Nat) (x1 : LRelation) (_ : Unit) =>
   af (aF s.tables (j1 : Int)) fun (x28 : LTable) =>
   cond (!(x1.table == x28.name)) (some (Flow.ret (σ := Unit) (3 : Int))) (cond (decide ((x1.rows.length : Int) > (24 : Int))) (some (.ret 2))
     (af (aK (σ := Unit) (ρ := (Int)) (fun (j3 : Nat) (x3 : Rq) (_ : Unit) =>
      af (eA x28 x3) fun x49=>cond (x49 != (0 : Int)) (some (.ret x49)) (cond ((j3 : Int) == (0 : Int)) (some (.next ()))
        (af (aF x1.rows (IntKind.i64.wrap ((j3 : Int) - (1 : Int)))) fun (x60 : Rq)=>af (cN x28 x60) fun x62=>af (cN x28 x3) fun x65=>af (cS x62 x65) fun x66 =>
        cond (x66 == (0 : Int)) (some (.ret 9)) (cond (decide (x66 > (0 : Int))) (some (.ret 6)) (some (.next ())))))) 0 x1.rows ()) fun fl3=>fl3.thenF fun (_ : Unit)=>some (.next ()))))
   (fun j _=>∀ (k : Nat) (r : LRelation) (t : LTable),k < j → st[k]? = some r → s.tables[k]? = some t → good r t) (fun r=>r ≠ 0) st 0 () (fun k r t h=>by omega) (fun k r u hk hI=>by
    simp only [Nat.zero_add] at hI ⊢
    have hkl := (zg.1 hk).1
    have hkt : k < s.tables.length := by omega
    rw [gN hkt,bPs]
    by_cases hn : r.table = s.tables[k].name
    ·rw [show (!(r.table == s.tables[k].name)) = false from by simp [hn],zd]
     by_cases h24 : (r.rows.length : Int) > 24
     ·exact ⟨.ret 2,by rw [zt h24]; rfl,by simp⟩
     ·rw [zf h24,zd]
      have hsk := hsm s.tables[k] (List.getElem_mem _)
      obtain ⟨fl,hfl,hr⟩ := eD (step := fun (j3 : Nat) (x3 : Rq) (_ : Unit) =>
       af (eA s.tables[k] x3) fun x49=>cond (x49 != (0 : Int)) (some (Flow.ret (σ := Unit) x49)) (cond ((j3 : Int) == (0 : Int)) (some (.next ()))
        (af (aF r.rows (IntKind.i64.wrap ((j3 : Int) - (1 : Int)))) fun (x60 : Rq)=>af (cN s.tables[k] x60) fun x62=>af (cN s.tables[k] x3) fun x65=>af (cS x62 x65) fun x66 =>
        cond (x66 == (0 : Int)) (some (.ret 9)) (cond (decide (x66 > (0 : Int))) (some (.ret 6)) (some (.next ())))))) (fun j _=>(∀ i row,i < j → r.rows[i]? = some row → dL s.tables[k].columns row) ∧ ∀ (i : Nat) (p row : Rq),i + 1 < j → r.rows[i]? = some p → r.rows[i + 1]? = some row → ∃ k1 k2 z,cN s.tables[k] p = some k1 ∧ cN s.tables[k] row = some k2 ∧ cS k1 k2 = some z ∧ z < 0) (fun r=>r ≠ 0) r.rows 0 () ⟨fun i row h=>by omega,fun i p row h=>by omega⟩ (fun i row u hi hI2=>by
        simp only [Nat.zero_add] at hI2 ⊢
        have hil := (zg.1 hi).1
        obtain ⟨e,he,hok⟩ := conformsRow s.tables[k] row
        rw [he,bPs]
        by_cases h0 : e = 0
        ·rw [show (e != (0 : Int)) = false from by simp [h0],zd]
         have next : ∀ i' row',i' < i + 1 → r.rows[i']? = some row' → dL s.tables[k].columns row' := fun i' row' h1 h2=>by
          by_cases heq : i' = i
          ·subst heq; rw [hi] at h2; cases h2; exact hok h0
          ·exact hI2.1 i' row' (by omega) h2
         by_cases hi0 : i = 0
         ·exact ⟨.next (),by simp [hi0],next,fun i' p row' h1=>by omega⟩
         ·rw [show ((i : Int) == (0 : Int)) = false from by simp; omega,zd,bs (by omega) (by omega)]
          obtain ⟨p,hp⟩ := Tot.get (xs := r.rows) (i := (i : Int) - 1) (by omega) (by omega)
          obtain ⟨k1,hk1,hl1⟩ := key_tot s.tables[k] p hsk
          obtain ⟨k2,hk2,_⟩ := key_tot s.tables[k] row hsk
          obtain ⟨z,hz⟩ := uw k1 k2 (by omega)
          rw [hp,bPs,hk1,bPs,hk2,bPs,hz,bPs]
          by_cases z0 : z = 0
          ·exact ⟨.ret 9,by rw [gZ z0]; rfl,by simp⟩
          ·by_cases z1 : z > 0
           ·exact ⟨.ret 6,by rw [cr z0,zt z1]; rfl,by simp⟩
           ·refine ⟨.next (),by rw [cr z0,zf z1]; rfl,next,fun i' p' row' h1 h2 h3=>?_⟩
            by_cases heq : i' + 1 = i
            ·subst heq
             rw [hi] at h3
             cases h3
             have hp' := (gIs hp).2
             rw [show (((i' + 1 : Nat) : Int) - 1).toNat = i' from by omega,h2] at hp'
             cases hp'
             exact ⟨k1,k2,z,hk1,hk2,hz,by omega⟩
            ·exact hI2.2 i' p' row' (by omega) h2 h3
        ·exact ⟨.ret e,by rw [show (e != (0 : Int)) = true from by simp [h0]]; rfl,h0⟩)
      rw [hfl,bPs]
      cases fl with
      | brk s=>exact absurd hr (by simp)
      | ret e=>exact ⟨.ret e,rfl,hr⟩
      | next s' =>
       simp only [Nat.zero_add] at hr
       refine ⟨.next (),rfl,fun k' r' t' h1 h2 h3=>?_⟩
       by_cases heq : k' = k
       ·subst heq
        rw [hk] at h2
        rw [ze hkt] at h3
        cases h2
        cases h3
        refine ⟨⟨hn,by omega,fun row hrow=>?_⟩,fun i p row h2 h3=>hr.2 i p row (zg.1 h3).1 h2 h3⟩
        obtain ⟨i,hi,rfl⟩ := List.mem_iff_getElem.1 hrow
        exact hr.1 i _ hi (ze hi)
       ·exact hI k' r' t' (by omega) h2 h3
    ·exact ⟨.ret 3,by rw [show (!(r.table == s.tables[k].name)) = true from by simp [hn]]; rfl,by simp⟩)
  rw [hfl,bPs]
  cases fl with
  | brk s=>exact absurd hr (by simp)
  | ret r=>exact ⟨r,rfl,fun h=>absurd h hr⟩
  | next u =>
   simp only [Nat.zero_add] at hr
   exact ⟨0,rfl,fun _=>⟨hl',fun i r t h1 h2=>(hr i r t (zg.1 h1).1 h1 h2).2,fun i r t h1 h2=>(hr i r t (zg.1 h1).1 h1 h2).1⟩⟩
 ·exact ⟨3,by rw [show ((st.length : Int) != (s.tables.length : Int)) = true from by simp [hl]]; rfl,fun h=>by omega⟩
theorem containsI (l : List Int) (v : Int) : fj l v = some (l.any fun x=>v == x) := by
 unfold fj ii
 rw [idxF2 (p := fun x=>v == x),bPs,jb]
theorem shape1 (l : List Int) (q : LQuery) : dy l q = some (l.any fun x=>q.kind == x) := by
 unfold dy
 rw [containsI,bPs]
def oB (k : Int) : Nat := if k = 1 then 0 else if k = 4 ∨ k = 5 ∨ k = 6 ∨ k = 7 then 2 else 1
def lT (q : LQuery) : Bool :=
 decide (1 ≤ q.kind) && decide (q.kind ≤ 10) && decide (q.inputs.length = oB q.kind) && (q.kind == 1 || q.table == []) && (q.kind == 3 || q.kind == 8 || decide (q.names.length = 0)) &&
 (q.kind == 8 || decide (q.aggregates.length = 0)) && (q.kind == 9 || decide (q.descending.length = 0)) && (q.kind == 10 || (q.count == 0 && q.offset == 0)) &&
 (if q.kind = 2 ∨ q.kind = 4 ∨ q.kind = 5 then decide (q.exprs.length = 1)
  else if q.kind = 3 ∨ q.kind = 8 then decide (q.exprs.length = q.names.length) && decide (0 < q.exprs.length + q.aggregates.length)
  else if q.kind = 9 then decide (q.exprs.length = q.descending.length) && decide (0 < q.exprs.length)
  else if q.kind = 10 then decide (q.exprs.length = 0) && decide (q.count ≥ 0) && decide (q.offset ≥ 0)
  else decide (q.exprs.length = 0))
theorem natE (a b : Nat) : ((a : Int) == (b : Int)) = decide (a = b) := by
 by_cases h : a = b
 ·simp [h]
 ·rw [zf h]; exact cr (by omega)
theorem natNE (a b : Nat) : ((a : Int) != (b : Int)) = !decide (a = b) := by rw [bne,natE]
theorem natPos (a : Nat) : decide ((a : Int) > 0) = !decide (a = 0) := by
 by_cases h : a = 0
 ·simp [h]
 ·rw [zf h,zt (by omega)]; rfl
theorem condSome {α : Type} (b : Bool) (x y : α) : (cond b (some x) (some y)) = some (cond b x y) := by cases b <;> rfl
theorem shape_eq (q : LQuery) (hs : q.exprs.length ≤ 10000000 ∧ q.aggregates.length ≤ 10000000) : kO q = some (lT q) := by
 unfold kO
 simp only [shape1,bPs]
 by_cases k0 : q.kind < 1
 ·rw [zt k0]
  simp [lT,show ¬ (1 ≤ q.kind) from by omega]
 rw [zf k0]
 by_cases k10 : q.kind > 10
 ·rw [zt k10]
  simp [lT,show ¬ (q.kind ≤ 10) from by omega]
 rw [zf k10]
 have hw : IntKind.i64.wrap ((q.exprs.length : Int) + (q.aggregates.length : Int)) = ((q.exprs.length + q.aggregates.length : Nat) : Int) := by rw [bs (by omega) (by omega)]; simp
 rw [hw]
 have hk : q.kind = 1 ∨ q.kind = 2 ∨ q.kind = 3 ∨ q.kind = 4 ∨ q.kind = 5 ∨ q.kind = 6 ∨ q.kind = 7 ∨ q.kind = 8 ∨ q.kind = 9 ∨ q.kind = 10 := by omega
 unfold lT
 have e0 : ∀ n : Nat,((n : Int) == 0) = decide (n = 0) := fun n=>natE n 0
 have e1 : ∀ n : Nat,((n : Int) == 1) = decide (n = 1) := fun n=>natE n 1
 have n0 : ∀ n : Nat,((n : Int) != 0) = !decide (n = 0) := fun n=>natNE n 0
 have n1 : ∀ n : Nat,((n : Int) != 1) = !decide (n = 1) := fun n=>natNE n 1
 have n2 : ∀ n : Nat,((n : Int) != 2) = !decide (n = 2) := fun n=>natNE n 2
 have c0 : (q.count != 0) = !(q.count == 0) := rfl
 have o0 : (q.offset != 0) = !(q.offset == 0) := rfl
 have p0 : decide (0 < q.exprs.length) = !decide (q.exprs.length = 0) := by rw [← natPos]; simp
 have p1 : decide (0 < q.exprs.length + q.aggregates.length) = !decide (q.exprs.length + q.aggregates.length = 0) := by rw [← natPos]; simp; omega
 simp only [natPos,natE,e0,e1,c0,o0,p0,p1]
 generalize (q.table == []) = b1
 generalize decide (q.names.length = 0) = b2
 generalize decide (q.aggregates.length = 0) = b3
 generalize decide (q.descending.length = 0) = b4
 generalize (q.count == 0) = b5
 generalize (q.offset == 0) = b6
 generalize decide (q.exprs.length = 1) = b7
 generalize decide (q.exprs.length = q.names.length) = b8
 generalize decide (q.exprs.length + q.aggregates.length = 0) = b9
 generalize decide (q.exprs.length = q.descending.length) = b10
 generalize decide (q.exprs.length = 0) = b11
 generalize decide (q.count ≥ 0) = b12
 generalize decide (q.offset ≥ 0) = b13
 generalize hL : q.inputs.length = L
 rcases hk with h | h | h | h | h | h | h | h | h | h <;> rw [h]
 all_goals simp only [oB,aF]
 all_goals simp [n0,n1,n2,condSome,Bool.and_assoc]
def e0Q (q : LQuery) : LExpr := q.exprs.headD (.mk 1 [] 0 .nul [])
def iQ (a b : List LCol) (left : Bool) : List LCol := a ++ b.map fun x=>⟨x.name,x.kind,x.nullable || left⟩
def kU (kind : Int) (a b : List LCol) : List LCol × Int :=
 if a.length = b.length ∧ a.map LCol.kind = b.map LCol.kind then (List.zipWith (fun x y=>⟨x.name,x.kind,x.nullable || (kind == 6 && y.nullable)⟩) a b,0) else ([],7)
def cy (vars cols : List LCol) : List LExpr → List (List UInt8) → List LCol × Int
 | e :: es,n :: ns=>if dz n = false then ([],3) else if (cV cols vars e).2.2 ≠ 0 then ([],(cV cols vars e).2.2) else if (cV cols vars e).1 = 0 then ([],7)
  else if (cy vars cols es ns).2 ≠ 0 then ([],(cy vars cols es ns).2) else (⟨n,(cV cols vars e).1,(cV cols vars e).2.1⟩ :: (cy vars cols es ns).1,0)
 | _,_=>([],0)
abbrev ip : List UInt8 := [99,111,117,110,116]
abbrev sSum : List UInt8 := [115,117,109]
abbrev sMin : List UInt8 := [109,105,110]
abbrev sMax : List UInt8 := [109,97,120]
def oC (vars cols : List LCol) (a : LAggregateCall) : Int × Int :=
 if dz a.name = false ∨ ¬ a.function ∈ [ip,sSum,sMin,sMax] ∨ 1 < a.args.length ∨ (a.args.length < 1 ∧ a.function ≠ ip) then (0,3)
 else match a.args with
  | []=>(1,0)
  | e :: _=>if (cV cols vars e).2.2 ≠ 0 then (0,(cV cols vars e).2.2) else if (cV cols vars e).1 = 0 ∨ (a.function = sSum ∧ (cV cols vars e).1 ≠ 1) then (0,7)
   else if a.function = ip then (1,0) else ((cV cols vars e).1,0)
def dW (vars cols : List LCol) : List LAggregateCall → List LCol × Int
 | []=>([],0)
 | a :: l=>if (oC vars cols a).2 ≠ 0 then ([],(oC vars cols a).2) else if (dW vars cols l).2 ≠ 0 then ([],(dW vars cols l).2)
  else (⟨a.name,(oC vars cols a).1,!(a.function == ip)⟩ :: (dW vars cols l).1,0)
def mB (vars cols : List LCol) (q : LQuery) : List LCol × Int :=
 if (cy vars cols q.exprs q.names).2 ≠ 0 then ([],(cy vars cols q.exprs q.names).2)
 else if (dW vars cols q.aggregates).2 ≠ 0 then ([],(dW vars cols q.aggregates).2)
 else ((cy vars cols q.exprs q.names).1 ++ (dW vars cols q.aggregates).1,0)
def jE (vars cols : List LCol) : List LExpr → Int
 | []=>0
 | e :: l=>if (cV cols vars e).2.2 ≠ 0 then (cV cols vars e).2.2 else jE vars cols l
def ie (c : LChecker) (q : LQuery) (ins : List (List LCol)) : List LCol × Int :=
 if q.kind = 1 then (match c.s.tables.find? fun t=>t.name == q.table with | some t=>(t.columns,0) | none=>([],4))
 else if q.kind = 2 then (ins.getD 0 [],dG c (ins.getD 0 []) (e0Q q))
 else if q.kind = 4 ∨ q.kind = 5 then (iQ (ins.getD 0 []) (ins.getD 1 []) (q.kind == 5),dG c (iQ (ins.getD 0 []) (ins.getD 1 []) (q.kind == 5)) (e0Q q))
 else if q.kind = 6 ∨ q.kind = 7 then kU q.kind (ins.getD 0 []) (ins.getD 1 [])
 else if q.kind = 3 ∨ q.kind = 8 then mB c.vars (ins.getD 0 []) q
 else if q.kind = 9 then (if jE c.vars (ins.getD 0 []) q.exprs ≠ 0 then ([],jE c.vars (ins.getD 0 []) q.exprs) else (ins.getD 0 [],0))
 else (ins.getD 0 [],0)
theorem rg {α : Type} (p : α → Bool) (l : List α) : (l.find? p = none ∧ ba p l = -1) ∨ ∃ x,l.find? p = some x ∧ 0 ≤ ba p l ∧ l[(ba p l).toNat]? = some x := by
 induction l with
 | nil=>exact .inl ⟨rfl,rfl⟩
 | cons a l ih =>
  by_cases h : p a = true
  ·right
   exact ⟨a,by simp [h],by unfold ba; simp [List.findIdx?_cons,h],by unfold ba; simp [List.findIdx?_cons,h]⟩
  ·have h : p a = false := by simpa using h
   have hi : ba p (a :: l) = if ba p l < 0 then -1 else ba p l + 1 := by
    unfold ba
    simp only [List.findIdx?_cons,h,Bool.false_eq_true,if_false]
    cases l.findIdx? p with
    | none=>rfl
    | some i=>rw [zy (by simp only; omega)]; simp
   rw [List.find?_cons,h,hi]
   rcases ih with ⟨h1,h2⟩ | ⟨x,h1,h2,h3⟩
   ·left; exact ⟨h1,by rw [h2]; rfl⟩
   ·right
    refine ⟨x,h1,by split <;> omega,?_⟩
    rw [zy (by omega),show (ba p l + 1).toNat = (ba p l).toNat + 1 from by omega,List.getElem?_cons_succ,h3]
theorem set_ok (kind : Int) (a b : List LCol) : iH kind a b = some (kU kind a b) := by
 unfold iH kU
 by_cases hl : a.length = b.length
 ·rw [natNE,zt hl]
  simp only [Bool.not_true,zd]
  let z : LCol → LCol → LCol := fun x y=>⟨x.name,x.kind,x.nullable || (kind == 6 && y.nullable)⟩
  obtain ⟨fl,hfl,hr⟩ := eD (step := fun (j1 : Nat) (x1 : LCol) (s1 : List LCol) =>
   af (aF b (j1 : Int)) fun (x29 : LCol)=>cond (x1.kind != x29.kind) (some (Flow.ret (([],7) : List LCol × Int)))
    (cond x1.nullable (af (aF s1 (j1 : Int)) fun (x51 : LCol)=>bC (s1.set ((j1 : Int).toNat) (LCol.mk x51.name x51.kind true)) fun (y8 : List LCol)=>some (.next y8))
     (cond (kind == (6 : Int)) (af (aF b (j1 : Int)) fun (x46 : LCol)=>af (aF s1 (j1 : Int)) fun (x51 : LCol)=>bC (s1.set ((j1 : Int).toNat) (LCol.mk x51.name x51.kind x46.nullable)) fun (y9 : List LCol)=>some (.next y9))
      (af (aF s1 (j1 : Int)) fun (x51 : LCol)=>bC (s1.set ((j1 : Int).toNat) (LCol.mk x51.name x51.kind false)) fun (y10 : List LCol)=>some (.next y10)))))
   (fun j s=>s = (List.zipWith z a b).take j ++ a.drop j ∧ (a.take j).map LCol.kind = (b.take j).map LCol.kind) (fun r=>r = ([],7) ∧ a.map LCol.kind ≠ b.map LCol.kind) a 0 a ⟨by simp,rfl⟩ (fun k x s hk hI=>by
    simp only [Nat.zero_add] at hI ⊢
    have hka := (zg.1 hk).1
    have hxe := (zg.1 hk).2
    have hkb : k < b.length := by omega
    rw [gN hkb,bPs,bPs]
    by_cases hkk : x.kind = b[k].kind
    ·have hzl : ((List.zipWith z a b).take k).length = k := by simp; omega
     have hs : s[k]? = some x := by
      rw [hI.1,List.getElem?_append_right (by omega),hzl,Nat.sub_self,List.getElem?_drop,Nat.add_zero,hk]
     have hkinds : (a.take (k + 1)).map LCol.kind = (b.take (k + 1)).map LCol.kind := by
      rw [List.take_add_one,List.take_add_one,hk,ze hkb,List.map_append,List.map_append,hI.2]
      congr 1
      show [x.kind] = [b[k].kind]
      rw [hkk]
     have hset : ∀ v : LCol,v = z x b[k] → s.set k v = (List.zipWith z a b).take (k + 1) ++ a.drop (k + 1) := by
      intro v hv
      rw [hI.1,List.set_append_right _ _ (by omega),hzl,Nat.sub_self]
      rw [List.drop_eq_getElem_cons hka,List.set_cons_zero,List.take_add_one,List.append_assoc]
      congr 1
      rw [List.getElem?_zipWith,hk,ze hkb]
      simp [hv]
     rw [mg hkk,zd,mj hs]
     simp only [bPs,bF,Int.toNat_natCast]
     cases hx : x.nullable with
     | true=>exact ⟨_,rfl,hset _ (by simp [z,hx]),hkinds⟩
     | false =>
      by_cases h6 : kind = 6
      ·exact ⟨.next _,by rw [gZ h6]; rfl,hset _ (by simp [z,hx,h6]),hkinds⟩
      ·exact ⟨.next _,by rw [cr h6]; rfl,hset _ (by simp [z,hx,h6]),hkinds⟩
    ·refine ⟨.ret ([],7),by rw [kh hkk]; rfl,rfl,fun he=>hkk ?_⟩
     have := congrArg (fun l=>l[k]?) he
     simp only [List.getElem?_map,hk,ze hkb,Option.map_some,zo] at this
     exact this)
  rw [hfl,bPs]
  cases fl with
  | brk s=>exact absurd hr (by simp)
  | ret r=>rw [hr.1,zy (fun h=>hr.2 h.2)]; rfl
  | next s =>
   simp only [Nat.zero_add] at hr
   rw [jV,hr.1,zp ⟨hl,by have := hr.2; rwa [List.take_length,hl,List.take_length] at this⟩]
   have : (List.zipWith z a b).take a.length = List.zipWith z a b := List.take_of_length_le (by simp; omega)
   rw [this,List.drop_length,List.append_nil]
 ·rw [natNE,zf hl,zy (fun h=>hl h.1)]
  rfl
theorem pj {α : Type} {l : List α} {d : α} (h : 0 < l.length) : aF l 0 = some (l.getD 0 d) := by
 cases l with
 | nil=>simp at h
 | cons a l=>rfl
theorem getD1 {α : Type} {l : List α} {d : α} (h : 1 < l.length) : aF l 1 = some (l.getD 1 d) := by
 match l with
 | []=>simp at h
 | [_]=>simp at h
 | a :: b :: l=>rfl
theorem pt {q : LQuery} (h : 0 < q.exprs.length) : aF q.exprs 0 = some (e0Q q) := by
 unfold e0Q
 cases hq : q.exprs with
 | nil=>rw [hq] at h; simp at h
 | cons a l=>rfl
theorem containsS (l : List (List UInt8)) (v : List UInt8) : dP l v = some (decide (v ∈ l)) := by
 unfold dP dE
 rw [idxF2 (p := fun x=>v == x),bPs,jb]
 congr 1
 by_cases h : v ∈ l
 ·rw [zt h,List.any_eq_true]; exact ⟨v,h,by simp⟩
 ·rw [zf h,List.any_eq_false]
  intro x hx he
  exact h (by simp at he; rwa [he])
theorem agg_eq (c : LChecker) (cols : List LCol) (a : LAggregateCall) : gr c cols a = some (oC c.vars cols a) := by
 unfold gr oC
 simp only [bF,containsS,bPs]
 by_cases h1 : dz a.name = false
 ·simp [h1]
 have h1' : dz a.name = true := by simpa using h1
 by_cases h2 : a.function ∈ [ip,sSum,sMin,sMax]
 ·rw [zt (show a.function ∈ ([[99,111,117,110,116],[115,117,109],[109,105,110],[109,97,120]] : List (List UInt8)) from h2)]
  cases ha : a.args with
  | nil =>
   by_cases h3 : a.function = ip
   ·simp [h1',h3]
   ·have h3' : (a.function == ([99,111,117,110,116] : List UInt8)) = false := by simpa using h3
    simp [h1',h3,h2,h3']
  | cons e l =>
   cases l with
   | cons e2 l =>
    have : (1 : Int) < (l.length : Int) + 1 + 1 := by omega
    simp [h1',h2,this]
   | nil =>
    simp only [h1',Bool.not_true,zd,List.length_singleton]
    have hno : ¬ (True = False ∨ ¬ a.function ∈ [ip,sSum,sMin,sMax] ∨ 1 < 1 ∨ (1 < 1 ∧ a.function ≠ ip)) := by simp [h2]
    simp only [aF]
    by_cases h4 : (cV cols c.vars e).2.2 = 0
    ·by_cases h5 : (cV cols c.vars e).1 = 0
     ·simp [h2,h4,h5]
     ·by_cases h6 : a.function = sSum
      ·by_cases h7 : (cV cols c.vars e).1 = 1
       ·simp [h4,h6,h7]
       ·simp [h4,h5,h6,h7,kh h7]
      ·have h6' : (a.function == ([115,117,109] : List UInt8)) = false := by simpa using h6
       by_cases h8 : a.function = ip
       ·simp [h4,h5,h8,cr h5]
       ·have h8' : (a.function == ([99,111,117,110,116] : List UInt8)) = false := by simpa using h8
        simp [h2,h4,h5,h6,h8,h6',h8',cr h5]
    ·simp [h2,h4,kh h4]
 ·rw [zf (show ¬ a.function ∈ ([[99,111,117,110,116],[115,117,109],[109,105,110],[109,97,120]] : List (List UInt8)) from h2)]
  simp [h1',h2]
theorem namedE_run (vars cols : List LCol) (names : List (List UInt8)) : ∀ (es : List LExpr) (j : Nat) (s : List LCol),es.length + j = names.length → s.length + es.length ≤ 10000000 →
  ∀ k : List LCol → Option (List LCol × Int),af (aK (σ := List LCol) (ρ := ((List LCol) × Int)) (fun (j1 : Nat) (x1 : LExpr) (s1 : List LCol) =>
  bC (cV cols vars x1) fun x31 =>
  af (aF names (j1 : Int)) fun (x39 : List UInt8) =>
  bC (dz x39) fun x41 =>
  cond (!x41)
   (some (.ret ([],3)))
   (cond (x31.2.2 != (0 : Int))
    (some (.ret ([],x31.2.2)))
    (cond (x31.1 == (0 : Int))
     (some (.ret ([],7)))
     (af (aF names (j1 : Int)) fun (x54 : List UInt8) =>
     af (dg 32 s1 ([(LCol.mk x54 x31.1 x31.2.1)] : List LCol)) fun (x60 : List LCol) =>
     some (.next x60))))) j es s) (fun fl1=>fl1.thenR k) = if (cy vars cols es (names.drop j)).2 ≠ 0 then some ([],(cy vars cols es (names.drop j)).2) else k (s ++ (cy vars cols es (names.drop j)).1)
 | [],j,s,_,_,k=>by simp [aK,cy]
 | e :: es,j,s,hl,hb,k=>by
  have hj : j < names.length := by simp at hl; omega
  rw [aK,List.drop_eq_getElem_cons hj,cy,bF,gN hj,bPs,bF]
  cases h1 : dz names[j] with
  | false=>simp
  | true =>
   simp only [Bool.not_true,zd,Bool.true_eq_false,if_false]
   by_cases h2 : (cV cols vars e).2.2 = 0
   ·rw [mg h2,zd]
    simp only [h2,ne_eq,not_true_eq_false,if_false]
    by_cases h3 : (cV cols vars e).1 = 0
    ·rw [gZ h3]; simp [h3]
    ·rw [cr h3,zd,bPs,bV (by decide) (by simp at hb ⊢; omega),bPs]
     simp only [h3,if_false]
     rw [namedE_run vars cols names es (j + 1) _ (by simp at hl; omega) (by simp at hb ⊢; omega) k]
     by_cases h4 : (cy vars cols es (names.drop (j + 1))).2 = 0
     ·simp [h4]
     ·simp [h4]
   ·rw [kh h2]
    simp [h2]
theorem namedA_run (c : LChecker) (cols : List LCol) : ∀ (l : List LAggregateCall) (j : Nat) (s : List LCol),s.length + l.length ≤ 10000000 →
  af (aK (σ := List LCol) (ρ := ((List LCol) × Int)) (fun (_ : Nat) (x2 : LAggregateCall) (s2 : List LCol) =>
  af (gr c cols x2) fun x73 =>
  cond (x73.2 != (0 : Int))
   (some (.ret ([],x73.2)))
   (af (dg 32 s2 ([(LCol.mk x2.name x73.1 (!(x2.function == ([99,111,117,110,116] : List UInt8))))] : List LCol)) fun (x88 : List LCol) =>
   some (.next x88))) j l s) (fun fl2=>fl2.thenR fun (s2 : List LCol)=>some (s2,0)) = some (if (dW c.vars cols l).2 ≠ 0 then ([],(dW c.vars cols l).2) else (s ++ (dW c.vars cols l).1,0))
 | [],j,s,_=>by simp [aK,dW]
 | a :: l,j,s,hb=>by
  rw [aK,dW,agg_eq,bPs]
  by_cases h1 : (oC c.vars cols a).2 = 0
  ·rw [mg h1,zd,bV (by decide) (by simp at hb ⊢; omega),bPs]
   simp only [h1,ne_eq,not_true_eq_false,if_false]
   rw [namedA_run c cols l (j + 1) _ (by simp at hb ⊢; omega)]
   by_cases h4 : (dW c.vars cols l).2 = 0
   ·simp [h4]
   ·simp [h4]
  ·rw [kh h1]
   simp [h1]
theorem named_eq (c : LChecker) (q : LQuery) (cols : List LCol) (hl : q.exprs.length = q.names.length) (hb : q.exprs.length ≤ 1000000 ∧ q.aggregates.length ≤ 1000000) : eM c q cols = some (mB c.vars cols q) := by
 unfold eM mB
 rw [namedE_run c.vars cols q.names q.exprs 0 [] (by omega) (by simp; omega),List.drop_zero]
 by_cases h : (cy c.vars cols q.exprs q.names).2 = 0
 ·have hlen : ∀ (es : List LExpr) (ns : List (List UInt8)),(cy c.vars cols es ns).1.length ≤ es.length := by
   intro es
   induction es with
   | nil=>intro ns; simp [cy]
   | cons e es ih =>
    intro ns
    cases ns with
    | nil=>simp [cy]
    | cons n ns =>
     simp only [cy]
     split
     ·simp
     ·split
      ·simp
      ·split
       ·simp
       ·split
        ·simp
        ·have := ih ns; simp; omega
  simp only [h,ne_eq,not_true_eq_false,if_false,List.nil_append]
  rw [namedA_run c cols q.aggregates 0 _ (by have := hlen q.exprs q.names; omega)]
 ·simp [h]
structure SmallQ (q : LQuery) : Prop where
 nodes : (cB q).length ≤ 10000000
 here : ∀ x ∈ cB q,x.exprs.length ≤ 1000000 ∧ x.aggregates.length ≤ 1000000
theorem qt {q x y : LQuery} (h : x ∈ q.inputs) (hy : y ∈ cB x) : y ∈ cB q := by
 rw [jf]
 exact List.mem_cons_of_mem _ (List.mem_flatten.2 ⟨_,List.mem_map.2 ⟨x,h,rfl⟩,hy⟩)
theorem mN (q : LQuery) : q ∈ cB q := by rw [jf]; exact List.mem_cons_self
theorem SmallQ.sub {q x : LQuery} (h : SmallQ q) (hx : x ∈ q.inputs) : SmallQ x :=
 ⟨by have := mS hx; have := h.nodes; omega,fun y hy=>h.here y (qt hx hy)⟩
theorem SmallQ.self {q : LQuery} (h : SmallQ q) : q.exprs.length ≤ 1000000 ∧ q.aggregates.length ≤ 1000000 := h.here q (mN q)
structure ShapeOk (q : LQuery) : Prop where
 kind : 1 ≤ q.kind ∧ q.kind ≤ 10
 arity : q.inputs.length = oB q.kind
 one : q.kind = 2 ∨ q.kind = 4 ∨ q.kind = 5 → q.exprs.length = 1
 named : q.kind = 3 ∨ q.kind = 8 → q.exprs.length = q.names.length
 aggs : q.kind ≠ 8 → q.aggregates = []
 sorted : q.kind = 9 → q.exprs.length = q.descending.length
 limit : q.kind = 10 → 0 ≤ q.count ∧ 0 ≤ q.offset
theorem pz {q : LQuery} (h : lT q = true) : ShapeOk q := by
 unfold lT at h
 simp only [Bool.and_eq_true,decide_eq_true_eq] at h
 obtain ⟨⟨⟨⟨⟨⟨⟨⟨h1,h2⟩,h3⟩,h4⟩,h5⟩,h6⟩,h7⟩,h8⟩,h9⟩ := h
 refine ⟨⟨h1,h2⟩,h3,fun hk=>?_,fun hk=>?_,fun hk=>?_,fun hk=>?_,fun hk=>?_⟩
 ·rw [zp hk] at h9; simpa using h9
 ·rw [zy (by omega),zp hk] at h9; simp at h9; exact h9.1
 ·have : (q.kind == 8) = false := cr hk
  rw [this] at h6; simp at h6; exact h6
 ·rw [zy (by omega),zy (by omega),zp hk] at h9; simp at h9; exact h9.1
 ·rw [zy (by omega),zy (by omega),zy (by omega),zp hk] at h9; simp at h9; omega
theorem join_run (left : Bool) : ∀ (b : List LCol) (j : Nat) (a : List LCol),a.length + b.length ≤ 10000000 →
  aK (σ := List LCol) (ρ := Empty) (fun (_ : Nat) (x2 : LCol) (s2 : List LCol)=>cond x2.nullable
          (af (dg 32 s2 ([(LCol.mk x2.name x2.kind true)] : List LCol)) fun (x76 : List LCol)=>some (.next x76))
          (af (dg 32 s2 ([(LCol.mk x2.name x2.kind left)] : List LCol)) fun (x76 : List LCol)=>some (.next x76))) j b a = some (.next (iQ a b left))
 | [],j,a,_=>by simp [aK,iQ]
 | x :: b,j,a,h=>by
  have step : (cond x.nullable (af (dg 32 a ([(LCol.mk x.name x.kind true)] : List LCol)) fun (x76 : List LCol)=>some (Flow.next (ρ := Empty) x76))
    (af (dg 32 a ([(LCol.mk x.name x.kind left)] : List LCol)) fun (x76 : List LCol)=>some (.next x76))) = some (.next (a ++ [⟨x.name,x.kind,x.nullable || left⟩])) := by
   rw [bV (by decide) (by simp at h ⊢; omega),bV (by decide) (by simp at h ⊢; omega)]
   cases x.nullable <;> simp
  rw [aK,step]
  simp only
  rw [join_run left b (j + 1) _ (by simp at h ⊢; omega)]
  simp [iQ]
theorem sort_run (vars cols : List LCol) (ins : List (List LCol)) (h0 : aF ins 0 = some cols) : ∀ (es : List LExpr) (j : Nat) (k : Unit → Option (List LCol × Int)),
  af (aK (σ := Unit) (ρ := ((List LCol) × Int)) (fun (_ : Nat) (x5 : LExpr) (_ : Unit)=>af (aF ins 0) fun (x122 : List LCol)=>bC (cV x122 vars x5) fun x127=>cond (x127.2.2 != (0 : Int)) (some (.ret ([],x127.2.2))) (some (.next ()))) j es ()) (fun fl5=>fl5.thenR k) =
   if jE vars cols es ≠ 0 then some ([],jE vars cols es) else k ()
 | [],j,k=>by simp [aK,jE]
 | e :: es,j,k=>by
  rw [aK,jE,h0,bPs,bF]
  by_cases h : (cV cols vars e).2.2 = 0
  ·rw [mg h,zd]
   simp only [h,ne_eq,not_true_eq_false,if_false]
   rw [← h0]
   exact sort_run vars cols ins h0 es (j + 1) k
  ·rw [kh h]; simp [h]
theorem out_eq {c : LChecker} {q : LQuery} {ins : List (List LCol)} (hs : ShapeOk q) (hsm : SmallQ q) (hl : ins.length = q.inputs.length) (hb : ∀ l ∈ ins,l.length ≤ 20) : ir c q ins = some (ie c q ins) := by
 obtain ⟨hk,ha,h1,hn,_,_,_⟩ := hs
 have hself := hsm.self
 have hi : ∀ i,i < ins.length → (ins.getD i []).length ≤ 20 := fun i hi=>by
  rw [List.getD_eq_getElem?_getD,ze hi]
  exact hb _ (List.getElem_mem hi)
 have e0 : q.exprs.length = 1 → aF q.exprs 0 = some (e0Q q) := fun h=>pt (by omega)
 unfold ir ie
 have kk : q.kind = 1 ∨ q.kind = 2 ∨ q.kind = 3 ∨ q.kind = 4 ∨ q.kind = 5 ∨ q.kind = 6 ∨ q.kind = 7 ∨ q.kind = 8 ∨ q.kind = 9 ∨ q.kind = 10 := by omega
 rcases kk with h | h | h | h | h | h | h | h | h | h
 ·rw [h,idx_table]
  simp only [bPs]
  rcases rg (fun a0=>eH a0 q) c.s.tables with ⟨f1,f2⟩ | ⟨t,f1,f2,f3⟩
  ·have f1' : c.s.tables.find? (fun t=>t.name == q.table) = none := f1
   rw [f2,f1']
   rfl
  ·have f1' : c.s.tables.find? (fun t=>t.name == q.table) = some t := f1
   rw [f1',zf (show ¬ ba (fun a0=>eH a0 q) c.s.tables < 0 from by omega),kQ f2 f3]
   rfl
 all_goals rw [h] at ha
 all_goals simp only [oB] at ha
 ·have g0 : aF ins 0 = some (ins.getD 0 []) := pj (by simp at ha; omega)
  rw [h,g0,e0 (h1 (.inl h))]
  simp [bF]
 ·have g0 : aF ins 0 = some (ins.getD 0 []) := pj (by simp at ha; omega)
  rw [h,g0]
  simp only [bPs]
  rw [named_eq c q _ (hn (.inl h)) hself]
  simp [bF]
 ·have g0 : aF ins 0 = some (ins.getD 0 []) := pj (by simp at ha; omega)
  have g1 : aF ins 1 = some (ins.getD 1 []) := getD1 (by simp at ha; omega)
  rw [h,g0,g1,e0 (h1 (.inr (.inl h)))]
  simp only [bPs]
  rw [join_run ((4 : Int) == 5) _ 0 _ (by have := hi 0 (by simp at ha; omega); have := hi 1 (by simp at ha; omega); omega)]
  simp [bF]
 ·have g0 : aF ins 0 = some (ins.getD 0 []) := pj (by simp at ha; omega)
  have g1 : aF ins 1 = some (ins.getD 1 []) := getD1 (by simp at ha; omega)
  rw [h,g0,g1,e0 (h1 (.inr (.inr h)))]
  simp only [bPs]
  rw [join_run ((5 : Int) == 5) _ 0 _ (by have := hi 0 (by simp at ha; omega); have := hi 1 (by simp at ha; omega); omega)]
  simp [bF]
 ·have g0 : aF ins 0 = some (ins.getD 0 []) := pj (by simp at ha; omega)
  have g1 : aF ins 1 = some (ins.getD 1 []) := getD1 (by simp at ha; omega)
  rw [h,g0,g1]
  simp only [bPs,set_ok]
  simp [bF]
 ·have g0 : aF ins 0 = some (ins.getD 0 []) := pj (by simp at ha; omega)
  have g1 : aF ins 1 = some (ins.getD 1 []) := getD1 (by simp at ha; omega)
  rw [h,g0,g1]
  simp only [bPs,set_ok]
  simp [bF]
 ·have g0 : aF ins 0 = some (ins.getD 0 []) := pj (by simp at ha; omega)
  rw [h,g0]
  simp only [bPs]
  rw [named_eq c q _ (hn (.inr h)) hself]
  simp [bF]
 ·have g0 : aF ins 0 = some (ins.getD 0 []) := pj (by simp at ha; omega)
  rw [h,sort_run c.vars _ ins g0,g0]
  simp only [bF,bPs]
  by_cases hse : jE c.vars (ins.getD 0 []) q.exprs = 0
  ·simp only [hse,ne_eq,not_true_eq_false,if_false]; rfl
  ·simp only [hse,ne_eq,not_false_eq_true,if_true]; rfl
 ·have g0 : aF ins 0 = some (ins.getD 0 []) := pj (by simp at ha; omega)
  rw [h,g0]
  simp [bF]
def dQ : List (List LCol × Int) → List (List LCol) × Int
 | []=>([],0)
 | r :: l=>if r.2 ≠ 0 then ([],r.2) else if (dQ l).2 ≠ 0 then ([],(dQ l).2) else (r.1 :: (dQ l).1,0)
def pN (c : LChecker) (q : LQuery) (ins : List (List LCol × Int)) : List LCol × Int :=
 if lT q = false then ([],3) else if (dQ ins).2 ≠ 0 then ([],(dQ ins).2)
 else if (ie c q (dQ ins).1).2 ≠ 0 then ([],(ie c q (dQ ins).1).2)
 else if 20 < (ie c q (dQ ins).1).1.length then ([],2)
 else if ((ie c q (dQ ins).1).1.map LCol.name).Nodup then ((ie c q (dQ ins).1).1,0) else ([],23)
def fq (c : LChecker) (q : LQuery) : List LCol × Int := pN c q (q.inputs.attach.map fun x=>fq c x.1)
termination_by SizeOf.sizeOf q
decreasing_by exact LQuery.inputs_lt x.2
theorem colsQ_eq (c : LChecker) (q : LQuery) : fq c q = pN c q (q.inputs.map (fq c)) := by
 rw [fq,List.attach_map_val (f := fq c)]
theorem ue (f : LQuery → Option (List LCol × Int)) (g : LQuery → List LCol × Int) : ∀ (l : List LQuery) (j : Nat) (s : List (List LCol)),(∀ x ∈ l,f x = some (g x)) → s.length + l.length ≤ 10000000 → ∀ k : List (List LCol) → Option (List LCol × Int),
  af (aK (σ := List (List LCol)) (ρ := ((List LCol) × Int)) (fun (_ : Nat) (x1 : LQuery) (s1 : List (List LCol))=>af (f x1) fun x28=>cond (x28.2 != (0 : Int)) (some (.ret ([],x28.2)))
    (af (dg 24 s1 ([x28.1] : List (List LCol))) fun (x37 : List (List LCol))=>some (.next x37))) j l s) (fun fl1=>fl1.thenR k) =
   if (dQ (l.map g)).2 ≠ 0 then some ([],(dQ (l.map g)).2) else k (s ++ (dQ (l.map g)).1)
 | [],j,s,_,_,k=>by simp [aK,dQ]
 | x :: l,j,s,h,hb,k=>by
  rw [aK,h x (by simp),bPs,List.map_cons,dQ]
  by_cases h1 : (g x).2 = 0
  ·rw [mg h1,zd,bV (by decide) (by simp at hb ⊢; omega),bPs]
   simp only [h1,ne_eq,not_true_eq_false,if_false]
   rw [ue f g l (j + 1) _ (fun y hy=>h y (by simp [hy])) (by simp at hb ⊢; omega) k]
   by_cases h2 : (dQ (l.map g)).2 = 0
   ·simp [h2]
   ·simp [h2]
  ·rw [kh h1]; simp [h1]
theorem rm : ∀ {l : List (List LCol × Int)},(dQ l).2 = 0 → (∀ r ∈ l,r.2 = 0) ∧ (dQ l).1 = l.map (·.1)
 | [],_=>⟨by simp,rfl⟩
 | r :: l,h=>by
  simp only [dQ] at h ⊢
  by_cases h1 : r.2 = 0
  ·by_cases h2 : (dQ l).2 = 0
   ·obtain ⟨a,b⟩ := rm h2
    refine ⟨fun x hx=>?_,by simp [h1,h2,b]⟩
    rcases List.mem_cons.1 hx with rfl | hx
    ·exact h1
    ·exact a x hx
   ·simp [h1,h2] at h
  ·simp [h1] at h
theorem dup_run (out : List LCol) : af (aK (σ := Unit) (ρ := ((List LCol) × Int)) (fun (j2 : Nat) (x2 : LCol) (_ : Unit) =>
     af (oF out 0 (j2 : Int)) fun (x61 : List LCol) =>
     af (bZ x61 (fun a0=>some (cp a0 x2))) fun x63 =>
     cond x63 (some (.ret ([],23))) (some (.next ()))) 0 out ()) (fun fl2=>fl2.thenR fun (_ : Unit)=>some (out,0)) = some (if (out.map LCol.name).Nodup then (out,0) else ([],23)) := by
 obtain ⟨fl,hfl,hr⟩ := eD (step := fun (j2 : Nat) (x2 : LCol) (_ : Unit) =>
     af (oF out 0 (j2 : Int)) fun (x61 : List LCol) =>
     af (bZ x61 (fun a0=>some (cp a0 x2))) fun x63 =>
     cond x63 (some (Flow.ret (([],23) : List LCol × Int))) (some (.next ())))
  (fun j _=>((out.take j).map LCol.name).Nodup) (fun r=>r = ([],23) ∧ ¬ (out.map LCol.name).Nodup) out 0 () (by simp) (fun k x s hk hI=>by
   simp only [Nat.zero_add] at hI ⊢
   have hkl := (zg.1 hk).1
   rw [qK ⟨by omega,by omega,by omega⟩,bPs]
   unfold bZ
   rw [idx_column,bPs,bPs,jb]
   simp only [Int.toNat_natCast,Int.toNat_zero,List.drop_zero]
   cases ha : (out.take k).any fun a0=>cp a0 x with
   | true =>
    refine ⟨_,rfl,rfl,fun hnd=>?_⟩
    obtain ⟨y,hy,he⟩ := List.any_eq_true.1 ha
    have he : y.name = x.name := by simpa [cp] using he
    obtain ⟨i,hi,hyi⟩ := List.mem_take_iff_getElem.1 hy
    have hii : i < k := by omega
    rw [List.nodup_iff_pairwise_ne,List.pairwise_iff_getElem] at hnd
    refine hnd i k (by simp; omega) (by simpa using hkl) hii ?_
    simp only [List.getElem_map]
    rw [(zg.1 hk).2,hyi,he]
   | false =>
    refine ⟨_,rfl,?_⟩
    simp only
    rw [List.take_add_one,hk,List.map_append,List.nodup_append]
    refine ⟨hI,by simp,fun a ha' b hb hab=>?_⟩
    simp at hb
    subst hb
    subst hab
    obtain ⟨y,hy,he⟩ := List.mem_map.1 ha'
    have := List.any_eq_false.1 ha y hy
    exact this (by simpa [cp] using he))
 rw [hfl,bPs]
 cases fl with
 | brk s=>exact absurd hr (by simp)
 | ret r=>rw [rr,hr.1,zy hr.2]
 | next s =>
  simp only [Nat.zero_add,List.take_length] at hr
  rw [jV,zp hr]
theorem kx (c : LChecker) (q : LQuery) : (fq c q).1.length ≤ 20 := by
 rw [colsQ_eq]
 unfold pN
 repeat' split
 all_goals first | (simp; done) | (simp only; omega)
theorem cols_ok (c : LChecker) : ∀ q : LQuery,SmallQ q → eW c q = some (fq c q) := by
 refine LQuery.ind fun q ih hsm=>?_
 refine nj (γ := LChecker) (F := fun n c q=>eY n c q) (O := fun r c q=>eV r c q) (fun n=>rfl) c q ?_ (fun x hx=>⟨_,ih x hx (hsm.sub hx)⟩) ?_
 ·intro r r' h
  simp only [eV]
  congr 1
  funext b
  congr 2
  exact kv q.inputs 0 _ fun k x s hk=>by rw [h x (eX hk)]
 ·have e : ∀ c x,(iF fun n=>eY n c x) = eW c x := fun _ _=>rfl
  simp only [eV,e]
  have hself := hsm.self
  rw [shape_eq q ⟨by omega,by omega⟩,bPs,colsQ_eq]
  unfold pN
  cases hs : lT q with
  | false=>rfl
  | true =>
   have hok := pz hs
   have hin : q.inputs.length ≤ 2 := by rw [hok.arity]; unfold oB; split <;> (try split) <;> omega
   simp only [Bool.not_true,zd,Bool.true_eq_false,if_false]
   rw [ue (eW c) (fq c) q.inputs 0 [] (fun x hx=>ih x hx (hsm.sub hx)) (by simp; omega),List.nil_append]
   by_cases h1 : (dQ (q.inputs.map (fq c))).2 = 0
   ·obtain ⟨a,b⟩ := rm h1
    simp only [h1,ne_eq,not_true_eq_false,if_false]
    rw [out_eq hok hsm (by rw [b]; simp) (fun l hl=>by
     rw [b] at hl
     obtain ⟨r,hr,rfl⟩ := List.mem_map.1 hl
     obtain ⟨x,_,rfl⟩ := List.mem_map.1 hr
     exact kx c x),bPs]
    generalize ie c q (dQ (q.inputs.map (fq c))).1 = o
    by_cases h2 : o.2 = 0
    ·rw [mg h2,zd]
     simp only [h2,not_true_eq_false,if_false]
     by_cases h3 : 20 < o.1.length
     ·rw [zt (show (o.1.length : Int) > 20 from by omega),zp h3]; rfl
     ·rw [zf (show ¬ (o.1.length : Int) > 20 from by omega),zy h3,zd]
      exact dup_run o.1
    ·rw [kh h2]; simp [h2]
   ·simp [h1]
theorem whileM_by {σ ρ : Type} {step : σ → Option (Flow σ ρ)} (I : σ → Prop) (μ : σ → Nat) (Q : σ → Prop) (R : ρ → Prop) (hs : ∀ s,I s → ∃ fl,step s = some fl ∧ (match fl with | .next s'=>I s' ∧ μ s' < μ s | .brk s'=>Q s' | .ret r=>R r)) :
  ∀ s,I s → ∃ fl,fh step s = some fl ∧ (match fl with | .next s'=>Q s' | .brk _=>False | .ret r=>R r) := by
 intro s
 generalize hn : μ s = n
 induction n using Nat.strongRecOn generalizing s with
 | _ n ih =>
  intro hI
  obtain ⟨fl,h1,h2⟩ := hs s hI
  cases fl with
  | next s' =>
   obtain ⟨fl,h3,h4⟩ := ih (μ s') (hn ▸ h2.2) s' rfl h2.1
   exact ⟨fl,jd h1 h3,h4⟩
  | brk s'=>exact ⟨.next s',jd h1 rfl,h2⟩
  | ret r=>exact ⟨.ret r,jd h1 rfl,h2⟩
theorem gH {σ β : Type} {step : σ → Option (Flow σ Empty)} {k : σ → Option β} {R : β → Prop} {s : σ} (I : σ → Prop) (μ : σ → Nat) (Q : σ → Prop) (h0 : I s)
  (hs : ∀ s,I s → ∃ fl,step s = some fl ∧ (match fl with | .next s'=>I s' ∧ μ s' < μ s | .brk s'=>Q s' | .ret _=>False)) (hk : ∀ s',Q s' → ∃ r,k s' = some r ∧ R r) :
  ∃ r,af (fh step s) (fun fl=>fl.thenP k) = some r ∧ R r := by
 obtain ⟨fl,h1,h2⟩ := whileM_by (step := step) I μ Q (fun _=>False) (fun s hI=>by
  obtain ⟨fl,h1,h2⟩ := hs s hI
  refine ⟨fl,h1,?_⟩
  cases fl with
  | next s'=>exact h2
  | brk s'=>exact h2
  | ret r=>exact r.elim) s h0
 cases fl with
 | next s'=>rw [h1]; exact hk s' h2
 | brk s'=>exact absurd h2 (by simp)
 | ret r=>exact r.elim
theorem mid_eq {n : Int} (h0 : 0 ≤ n) (h1 : n ≤ 4611686018427387904) : IntKind.i64.wrap (Int.fdiv (IntKind.u64.wrap (IntKind.i64.wrap n)) (2 ^ 1)) = n / 2 := by
 have h3 : IntKind.i64.wrap n = n := bs (by omega) (by omega)
 have h2 : IntKind.u64.wrap n = n := by
  simp only [IntKind.wrap,IntKind.bits,IntKind.signed]
  simp
  omega
 rw [h3,h2,show (2 : Int) ^ 1 = 2 from rfl,Int.fdiv_eq_ediv_of_nonneg _ (by decide)]
 exact bs (by omega) (by omega)
section
variable {α : Type}
theorem swap_perm {l : List α} {i j : Nat} {x y : α} (hi : l[i]? = some x) (hj : l[j]? = some y) : ((l.set i y).set j x).Perm l := by
 have hil := (zg.1 hi).1
 have hjl := (zg.1 hj).1
 have hx := (zg.1 hi).2
 have hy := (zg.1 hj).2
 rw [← hx,← hy]
 exact List.set_set_perm hil hjl
end
section
abbrev Rows := Rz
abbrev Cmp := Rq → Rq → Option Int
structure SrtOk (cmp : Cmp) (d0 d : Rows) : Prop where
 perm : d.Perm d0
 small : d0.length ≤ 1000000
 tot : ∀ x ∈ d0,∀ y ∈ d0,Tot (cmp x y)
variable {cmp : Cmp} {d0 : Rows}
theorem SrtOk.len {d : Rows} (h : SrtOk cmp d0 d) : d.length = d0.length := h.perm.length_eq
theorem SrtOk.cm {d : Rows} (h : SrtOk cmp d0 d) {x y : Rq} (hx : x ∈ d) (hy : y ∈ d) : Tot (cmp x y) := h.tot x (h.perm.mem_iff.1 hx) y (h.perm.mem_iff.1 hy)
theorem SrtOk.swap {d : Rows} (h : SrtOk cmp d0 d) {i j : Nat} {x y : Rq} (hi : d[i]? = some x) (hj : d[j]? = some y) : SrtOk cmp d0 ((d.set i y).set j x) := ⟨(swap_perm hi hj).trans h.perm,h.small,h.tot⟩
theorem SrtOk.get {d : Rows} (h : SrtOk cmp d0 d) {i : Int} (h0 : 0 ≤ i) (h1 : i < d0.length) : ∃ x,aF d i = some x ∧ d[i.toNat]? = some x ∧ x ∈ d := by
 have hl := h.len
 have : i.toNat < d.length := by omega
 exact ⟨d[i.toNat],kQ h0 (ze this),ze this,List.getElem_mem _⟩
theorem getI_set {α : Type} {l : List α} {i j : Int} {x y : α} (h0 : 0 ≤ j) (hj : l[j.toNat]? = some y) : ∃ z,aF (l.set i.toNat x) j = some z := by
 have hl := (zg.1 hj).1
 exact ⟨_,kQ h0 (ze (by simpa using hl))⟩
theorem tj {β : Type} {d : Rows} (h : SrtOk cmp d0 d) {i j : Int} (hi0 : 0 ≤ i) (hi1 : i < d0.length) (hj0 : 0 ≤ j) (hj1 : j < d0.length) : ∃ d',SrtOk cmp d0 d' ∧ ∀ k : Rows → Option β,
  (af (aF d j) fun (x28 : Rq)=>af (aF d i) fun (x34 : Rq)=>af (aF d i) fun (_ : Rq)=>bC (d.set i.toNat x28) fun (y6 : Rows)=>af (aF y6 j) fun (_ : Rq)=>bC (y6.set j.toNat x34) fun (y7 : Rows)=>k y7) = k d' := by
 obtain ⟨y,hy,hy',_⟩ := h.get hj0 hj1
 obtain ⟨x,hx,hx',_⟩ := h.get hi0 hi1
 obtain ⟨z,hz⟩ := getI_set (i := i) (x := y) hj0 hy'
 refine ⟨_,h.swap hx' hy',fun k=>?_⟩
 rw [hy,hx]
 simp only [bPs,bF]
 rw [hz,bPs]
theorem sI {d : Rows} (h : SrtOk cmp d0 d) {a b : Int} (ha : 0 ≤ a ∧ a ≤ d0.length) (hb : b ≤ d0.length) : ∃ d',cA d a b cmp = some d' ∧ SrtOk cmp d0 d' := by
 have hs := h.small
 unfold cA
 rw [bs (by omega) (by omega)]
 refine gH (fun s=>SrtOk cmp d0 s.1 ∧ a < s.2) (fun s=>(b - s.2).toNat) (fun s=>SrtOk cmp d0 s.1) ⟨h,by show a < a + 1; omega⟩ (fun s hI=>?_) (fun s hq=>⟨_,rfl,hq⟩)
 obtain ⟨h1,h2⟩ := hI
 by_cases hlt : s.2 < b
 ·rw [zt hlt,zc]
  refine gH (fun t=>SrtOk cmp d0 t.1 ∧ a ≤ t.2 ∧ t.2 < b) (fun t=>(t.2 - a).toNat) (fun t=>SrtOk cmp d0 t.1) ⟨h1,by show a ≤ s.2; omega,hlt⟩ (fun t hI=>?_) (fun t hq=>⟨_,rfl,?_⟩)
  ·obtain ⟨g1,g2,g3⟩ := hI
   by_cases hgt : t.2 > a
   ·rw [zt hgt,zc,bs (by omega) (by omega)]
    obtain ⟨x,hx,hx',hxm⟩ := g1.get (i := t.2) (by omega) (by omega)
    obtain ⟨y,hy,hy',hym⟩ := g1.get (i := t.2 - 1) (by omega) (by omega)
    obtain ⟨c,hc⟩ := g1.cm hxm hym
    obtain ⟨d',hd',hsw⟩ := tj (β := Flow (Rows × Int) Empty) g1 (i := t.2) (j := t.2 - 1) (by omega) (by omega) (by omega) (by omega)
    rw [hx,bPs,hy,bPs,hc,bPs,bPs]
    by_cases hneg : c < 0
    ·rw [zt hneg]
     have := hsw (fun y31=>some (.next (y31,t.2 - 1)))
     rw [hx,hy] at this
     refine ⟨.next (d',t.2 - 1),?_,⟨hd',by show a ≤ t.2 - 1; omega,by show t.2 - 1 < b; omega⟩,by show (t.2 - 1 - a).toNat < (t.2 - a).toNat; omega⟩
     rw [zc]
     simp only
     rw [hy,hx]
     exact this
    ·rw [zf hneg]
     exact ⟨_,rfl,g1⟩
   ·rw [zf hgt]
    exact ⟨_,rfl,g1⟩
  ·show (SrtOk cmp d0 t.1 ∧ a < IntKind.i64.wrap (s.2 + 1)) ∧ (b - IntKind.i64.wrap (s.2 + 1)).toNat < (b - s.2).toNat
   rw [bs (by omega) (by omega)]
   exact ⟨⟨hq,by omega⟩,by omega⟩
 ·rw [zf hlt]
  exact ⟨_,rfl,h1⟩
theorem pG {d : Rows} (h : SrtOk cmp d0 d) {a b n : Int} (ha : 0 ≤ a) (hb : 0 ≤ b) (hn : n ≤ d0.length) (ha' : a + n ≤ d0.length) (hb' : b + n ≤ d0.length) : ∃ d',cv d a b n cmp = some d' ∧ SrtOk cmp d0 d' := by
 have hs := h.small
 unfold cv
 refine gH (fun s=>SrtOk cmp d0 s.1 ∧ 0 ≤ s.2) (fun s=>(n - s.2).toNat) (fun s=>SrtOk cmp d0 s.1) ⟨h,by show (0 : Int) ≤ 0; omega⟩ (fun s hI=>?_) (fun s hq=>⟨_,rfl,hq⟩)
 obtain ⟨h1,h2⟩ := hI
 by_cases hlt : s.2 < n
 ·rw [zt hlt,zc,bs (n := b + s.2) (by omega) (by omega),bs (n := a + s.2) (by omega) (by omega),bs (n := s.2 + 1) (by omega) (by omega)]
  obtain ⟨d',hd',hsw⟩ := tj (β := Flow (Rows × Int) Empty) h1 (i := a + s.2) (j := b + s.2) (by omega) (by omega) (by omega) (by omega)
  exact ⟨_,hsw _,⟨hd',by show 0 ≤ s.2 + 1; omega⟩,by show (n - (s.2 + 1)).toNat < (n - s.2).toNat; omega⟩
 ·rw [zf hlt]
  exact ⟨_,rfl,h1⟩
theorem rotate_ok {d : Rows} (h : SrtOk cmp d0 d) {a m b : Int} (ha : 0 ≤ a) (hm : a < m) (hb : m < b) (hb' : b ≤ d0.length) : ∃ d',dA d a m b cmp = some d' ∧ SrtOk cmp d0 d' := by
 have hs := h.small
 unfold dA
 rw [bs (n := m - a) (by omega) (by omega),bs (n := b - m) (by omega) (by omega)]
 refine gH (fun s=>SrtOk cmp d0 s.1 ∧ 0 < s.2.1 ∧ 0 < s.2.2 ∧ s.2.1 ≤ m - a ∧ s.2.2 ≤ b - m) (fun s=>(s.2.1 + s.2.2).toNat) (fun s=>SrtOk cmp d0 s.1 ∧ 0 < s.2.1 ∧ s.2.1 ≤ m - a ∧ s.2.1 ≤ b - m) ⟨h,by show 0 < m - a; omega,by show 0 < b - m; omega,Int.le_refl _,Int.le_refl _⟩ (fun s hI=>?_) (fun s hq=>?_)
 ·obtain ⟨h1,h2,h3,h4,h5⟩ := hI
  by_cases hne : s.2.1 = s.2.2
  ·rw [mg hne]
   exact ⟨_,rfl,h1,h2,h4,by show s.2.1 ≤ b - m; omega⟩
  ·rw [kh hne,zc,bs (n := m - s.2.1) (by omega) (by omega)]
   by_cases hgt : s.2.1 > s.2.2
   ·rw [zt hgt,zc]
    obtain ⟨d',e,hd'⟩ := pG h1 (a := m - s.2.1) (b := m) (n := s.2.2) (by omega) (by omega) (by omega) (by omega) (by omega)
    rw [e,bPs,er (by rw [hd'.len,h1.len]),bPs,bs (by omega) (by omega)]
    exact ⟨_,rfl,⟨hd',by show 0 < s.2.1 - s.2.2; omega,h3,by show s.2.1 - s.2.2 ≤ m - a; omega,h5⟩,by show (s.2.1 - s.2.2 + s.2.2).toNat < (s.2.1 + s.2.2).toNat; omega⟩
   ·rw [zf hgt,zd,bs (n := m + s.2.2) (by omega) (by omega),bs (n := m + s.2.2 - s.2.1) (by omega) (by omega)]
    obtain ⟨d',e,hd'⟩ := pG h1 (a := m - s.2.1) (b := m + s.2.2 - s.2.1) (n := s.2.1) (by omega) (by omega) (by omega) (by omega) (by omega)
    rw [e,bPs,er (by rw [hd'.len,h1.len]),bPs,bs (by omega) (by omega)]
    exact ⟨_,rfl,⟨hd',h2,by show 0 < s.2.2 - s.2.1; omega,h4,by show s.2.2 - s.2.1 ≤ b - m; omega⟩,by show (s.2.1 + (s.2.2 - s.2.1)).toNat < (s.2.1 + s.2.2).toNat; omega⟩
 ·obtain ⟨h1,h2,h3,h4⟩ := hq
  rw [bs (n := m - s.2.1) (by omega) (by omega)]
  obtain ⟨d',e,hd'⟩ := pG h1 (a := m - s.2.1) (b := m) (n := s.2.1) (by omega) (by omega) (by omega) (by omega) (by omega)
  rw [e,bPs,er (by rw [hd'.len,h1.len]),bPs]
  exact ⟨_,rfl,hd'⟩
def LeO {β : Type} (o o' : Option β) : Prop := ∀ r,o = some r → o' = some r
theorem LeO.refl {β : Type} (o : Option β) : LeO o o := fun _ h=>h
theorem LeO.bind {β γ : Type} {o o' : Option β} {k k' : β → Option γ} (h : LeO o o') (hk : ∀ v,LeO (k v) (k' v)) : LeO (af o k) (af o' k') := by
 intro r hr
 cases o with
 | none=>cases hr
 | some v=>rw [h v rfl]; exact hk v r hr
theorem LeO.cond {β : Type} {b : Bool} {x x' y y' : Option β} (hx : LeO x x') (hy : LeO y y') : LeO (cond b x y) (cond b x' y') := by
 cases b
 ·exact hy
 ·exact hx
theorem LeO.thenP {σ β : Type} {fl : Flow σ Empty} {k k' : σ → Option β} (hk : ∀ s,LeO (k s) (k' s)) : LeO (fl.thenP k) (fl.thenP k') := by
 cases fl with
 | next s=>exact hk s
 | brk s=>exact hk s
 | ret r=>exact r.elim
theorem symMerge_mono {r r' : Rows → Int → Int → Int → Option Rows} (h : ∀ d a m b,LeO (r d a m b) (r' d a m b)) (d : Rows) (a m b : Int) : LeO (cC r d a m b cmp) (cC r' d a m b cmp) := by
 unfold cC
 simp only [bF]
 refine LeO.cond (LeO.refl _) (LeO.cond (LeO.refl _) (LeO.bind (LeO.refl _) fun fl=>LeO.thenP fun s=>LeO.bind (LeO.refl _) fun t=>LeO.bind (LeO.cond (LeO.bind (h _ _ _ _) fun _=>LeO.refl _) (LeO.refl _)) fun u=>LeO.cond (LeO.cond (LeO.bind (h _ _ _ _) fun _=>LeO.refl _) (LeO.refl _)) (LeO.refl _)))
theorem rX : ∀ (n : Nat) (d : Rows) (a m b : Int),LeO (bB n d a m b cmp) (bB (n + 1) d a m b cmp)
 | 0,d,a,m,b=>fun r h=>by simp [bB] at h
 | n + 1,d,a,m,b=>by
  rw [bB,bB]
  exact symMerge_mono (fun d a m b=>rX n d a m b) d a m b
theorem sx {n : Nat} {d : Rows} {a m b : Int} {r : Rows} (h : bB n d a m b cmp = some r) : fg d a m b cmp = some r := by
 refine nH n fun k hk=>?_
 obtain ⟨j,rfl⟩ : ∃ j,k = n + j := ⟨k - n,by omega⟩
 clear hk
 induction j with
 | zero=>exact h
 | succ j ih=>exact rX (n + j) d a m b r ih
theorem nU : ∀ (n : Nat) {d : Rows} (_ : SrtOk cmp d0 d) {a m b : Int},0 ≤ a → a < m → m < b → b ≤ d0.length → (b - a).toNat < n → ∃ d',bB n d a m b cmp = some d' ∧ SrtOk cmp d0 d'
 | 0,_,_,_,_,_,_,_,_,_,hn=>by omega
 | n + 1,d,h,a,m,b,ha,hm,hb,hb',hn=>by
  have hs := h.small
  rw [bB]
  unfold cC
  rw [bs (n := m - a) (by omega) (by omega),bs (n := b - m) (by omega) (by omega)]
  by_cases h1 : m - a = 1
  ·rw [gZ h1,zc]
   refine gH (fun s=>SrtOk cmp d0 s.1 ∧ m ≤ s.2.1 ∧ s.2.1 ≤ s.2.2 ∧ s.2.2 ≤ b) (fun s=>(s.2.2 - s.2.1).toNat) (fun s=>SrtOk cmp d0 s.1 ∧ m ≤ s.2.1 ∧ s.2.1 ≤ b) ⟨h,Int.le_refl _,by show m ≤ b; omega,Int.le_refl _⟩ (fun s hI=>?_) (fun s hq=>?_)
   ·obtain ⟨g1,g2,g3,g4⟩ := hI
    by_cases hlt : s.2.1 < s.2.2
    ·rw [zt hlt,zc,mid_eq (n := s.2.1 + s.2.2) (by omega) (by omega)]
     obtain ⟨x,hx,_,hxm⟩ := g1.get (i := (s.2.1 + s.2.2) / 2) (by omega) (by omega)
     obtain ⟨y,hy,_,hym⟩ := g1.get (i := a) (by omega) (by omega)
     obtain ⟨c,hc⟩ := g1.cm hxm hym
     rw [hx,bPs,hy,bPs,hc,bPs]
     by_cases hneg : c < 0
     ·rw [zt hneg,zc,bs (by omega) (by omega)]
      exact ⟨_,rfl,⟨g1,by show m ≤ (s.2.1 + s.2.2) / 2 + 1; omega,by show (s.2.1 + s.2.2) / 2 + 1 ≤ s.2.2; omega,g4⟩,by show (s.2.2 - ((s.2.1 + s.2.2) / 2 + 1)).toNat < (s.2.2 - s.2.1).toNat; omega⟩
     ·rw [zf hneg,zd]
      exact ⟨_,rfl,⟨g1,g2,by show s.2.1 ≤ (s.2.1 + s.2.2) / 2; omega,by show (s.2.1 + s.2.2) / 2 ≤ b; omega⟩,by show ((s.2.1 + s.2.2) / 2 - s.2.1).toNat < (s.2.2 - s.2.1).toNat; omega⟩
    ·rw [zf hlt]
     exact ⟨_,rfl,g1,g2,by show s.2.1 ≤ b; omega⟩
   ·obtain ⟨g1,g2,g3⟩ := hq
    rw [bs (n := s.2.1 - 1) (by omega) (by omega)]
    refine gH (fun t=>SrtOk cmp d0 t.1 ∧ a ≤ t.2) (fun t=>(s.2.1 - t.2).toNat) (fun t=>SrtOk cmp d0 t.1) ⟨g1,Int.le_refl _⟩ (fun t hI=>?_) (fun t hq=>⟨_,rfl,hq⟩)
    obtain ⟨k1,k2⟩ := hI
    by_cases hlt : t.2 < s.2.1 - 1
    ·rw [zt hlt,zc,bs (n := t.2 + 1) (by omega) (by omega)]
     obtain ⟨d',hd',hsw⟩ := tj (β := Flow (Rows × Int) Empty) k1 (i := t.2) (j := t.2 + 1) (by omega) (by omega) (by omega) (by omega)
     exact ⟨_,hsw _,⟨hd',by show a ≤ t.2 + 1; omega⟩,by show (s.2.1 - (t.2 + 1)).toNat < (s.2.1 - t.2).toNat; omega⟩
    ·rw [zf hlt]
     exact ⟨_,rfl,k1⟩
  ·rw [cr h1,zd]
   by_cases h2 : b - m = 1
   ·rw [gZ h2,zc]
    refine gH (fun s=>SrtOk cmp d0 s.1 ∧ a ≤ s.2.1 ∧ s.2.1 ≤ s.2.2 ∧ s.2.2 ≤ m) (fun s=>(s.2.2 - s.2.1).toNat) (fun s=>SrtOk cmp d0 s.1 ∧ a ≤ s.2.1 ∧ s.2.1 ≤ m) ⟨h,Int.le_refl _,by show a ≤ m; omega,Int.le_refl _⟩ (fun s hI=>?_) (fun s hq=>?_)
    ·obtain ⟨g1,g2,g3,g4⟩ := hI
     by_cases hlt : s.2.1 < s.2.2
     ·rw [zt hlt,zc,mid_eq (n := s.2.1 + s.2.2) (by omega) (by omega)]
      obtain ⟨x,hx,_,hxm⟩ := g1.get (i := m) (by omega) (by omega)
      obtain ⟨y,hy,_,hym⟩ := g1.get (i := (s.2.1 + s.2.2) / 2) (by omega) (by omega)
      obtain ⟨c,hc⟩ := g1.cm hxm hym
      rw [hx,bPs,hy,bPs,hc,bPs]
      by_cases hneg : c < 0
      ·rw [zt hneg]
       exact ⟨_,rfl,⟨g1,g2,by show s.2.1 ≤ (s.2.1 + s.2.2) / 2; omega,by show (s.2.1 + s.2.2) / 2 ≤ m; omega⟩,by show ((s.2.1 + s.2.2) / 2 - s.2.1).toNat < (s.2.2 - s.2.1).toNat; omega⟩
      ·rw [zf hneg,Bool.not_false,zc,bs (by omega) (by omega)]
       exact ⟨_,rfl,⟨g1,by show a ≤ (s.2.1 + s.2.2) / 2 + 1; omega,by show (s.2.1 + s.2.2) / 2 + 1 ≤ s.2.2; omega,g4⟩,by show (s.2.2 - ((s.2.1 + s.2.2) / 2 + 1)).toNat < (s.2.2 - s.2.1).toNat; omega⟩
     ·rw [zf hlt]
      exact ⟨_,rfl,g1,g2,by show s.2.1 ≤ m; omega⟩
    ·obtain ⟨g1,g2,g3⟩ := hq
     refine gH (fun t=>SrtOk cmp d0 t.1 ∧ a ≤ t.2 ∧ t.2 ≤ m) (fun t=>(t.2 - a).toNat) (fun t=>SrtOk cmp d0 t.1) ⟨g1,by show a ≤ m; omega,Int.le_refl _⟩ (fun t hI=>?_) (fun t hq=>⟨_,rfl,hq⟩)
     obtain ⟨k1,k2,k3⟩ := hI
     by_cases hlt : t.2 > s.2.1
     ·rw [zt hlt,zc,bs (n := t.2 - 1) (by omega) (by omega)]
      obtain ⟨d',hd',hsw⟩ := tj (β := Flow (Rows × Int) Empty) k1 (i := t.2) (j := t.2 - 1) (by omega) (by omega) (by omega) (by omega)
      exact ⟨_,hsw _,⟨hd',by show a ≤ t.2 - 1; omega,by show t.2 - 1 ≤ m; omega⟩,by show (t.2 - 1 - a).toNat < (t.2 - a).toNat; omega⟩
     ·rw [zf hlt]
      exact ⟨_,rfl,k1⟩
   ·rw [cr h2,zd]
    simp only [bF]
    rw [mid_eq (n := a + b) (by omega) (by omega)]
    generalize hmid : (a + b) / 2 = mid
    have b1 : 2 * mid ≤ a + b ∧ a + b ≤ 2 * mid + 1 := by omega
    rw [bs (n := mid + m) (by omega) (by omega),bs (n := mid + m - b) (by omega) (by omega),bs (n := mid + m - 1) (by omega) (by omega)]
    obtain ⟨lo,hi,e1,l1,l2,l3,l4,l5,l6⟩ : ∃ lo hi : Int,(cond (decide (m > mid)) ((d,mid + m - b,mid)) ((d,a,m)) : Rows × Int × Int) = (d,lo,hi) ∧ a ≤ lo ∧ lo ≤ hi ∧ hi ≤ m ∧ mid + m - lo ≤ b ∧ m ≤ mid + m - hi ∧ hi ≤ mid := by
     by_cases hgt : m > mid
     ·exact ⟨mid + m - b,mid,by rw [zt hgt]; rfl,by omega,by omega,by omega,by omega,by omega,by omega⟩
     ·exact ⟨a,m,by rw [zf hgt]; rfl,by omega,by omega,by omega,by omega,by omega,by omega⟩
    rw [e1]
    refine gH (fun s=>SrtOk cmp d0 s.1 ∧ lo ≤ s.2.1 ∧ s.2.1 ≤ s.2.2 ∧ s.2.2 ≤ hi) (fun s=>(s.2.2 - s.2.1).toNat) (fun s=>SrtOk cmp d0 s.1 ∧ lo ≤ s.2.1 ∧ s.2.1 ≤ hi) ⟨h,Int.le_refl _,l2,Int.le_refl _⟩ (fun s hI=>?_) (fun s hq=>?_)
    ·obtain ⟨g1,g2,g3,g4⟩ := hI
     by_cases hlt : s.2.1 < s.2.2
     ·rw [zt hlt,zc,mid_eq (n := s.2.1 + s.2.2) (by omega) (by omega)]
      generalize hc : (s.2.1 + s.2.2) / 2 = c
      have c1 : s.2.1 ≤ c ∧ c < s.2.2 := by omega
      rw [bs (n := mid + m - 1 - c) (by omega) (by omega)]
      obtain ⟨x,hx,_,hxm⟩ := g1.get (i := mid + m - 1 - c) (by omega) (by omega)
      obtain ⟨y,hy,_,hym⟩ := g1.get (i := c) (by omega) (by omega)
      obtain ⟨v,hv⟩ := g1.cm hxm hym
      rw [hx,bPs,hy,bPs,hv,bPs]
      by_cases hneg : v < 0
      ·rw [zt hneg]
       exact ⟨_,rfl,⟨g1,g2,by show s.2.1 ≤ c; omega,by show c ≤ hi; omega⟩,by show (c - s.2.1).toNat < (s.2.2 - s.2.1).toNat; omega⟩
      ·rw [zf hneg,Bool.not_false,zc,bs (by omega) (by omega)]
       exact ⟨_,rfl,⟨g1,by show lo ≤ c + 1; omega,by show c + 1 ≤ s.2.2; omega,g4⟩,by show (s.2.2 - (c + 1)).toNat < (s.2.2 - s.2.1).toNat; omega⟩
     ·rw [zf hlt]
      exact ⟨_,rfl,g1,g2,by show s.2.1 ≤ hi; omega⟩
    ·obtain ⟨g1,g2,g3⟩ := hq
     rw [bs (n := mid + m - s.2.1) (by omega) (by omega)]
     -- the rotation
     obtain ⟨t,ht,hto⟩ : ∃ t,(af (cond ((cond (decide (s.2.1 < m)) ((s.1,decide (m < mid + m - s.2.1))) ((s.1,false)) : Rows × Bool)).2
       (af (dA ((cond (decide (s.2.1 < m)) ((s.1,decide (m < mid + m - s.2.1))) ((s.1,false)) : Rows × Bool)).1 s.2.1 m (mid + m - s.2.1) cmp) fun x191=>af (fm (x191.length = ((cond (decide (s.2.1 < m)) ((s.1,decide (m < mid + m - s.2.1))) ((s.1,false)) : Rows × Bool)).1.length) ()) fun (_ : Unit)=>some x191)
       (some ((cond (decide (s.2.1 < m)) ((s.1,decide (m < mid + m - s.2.1))) ((s.1,false)) : Rows × Bool)).1)) some) = some t ∧ SrtOk cmp d0 t := by
      by_cases c1 : s.2.1 < m
      ·by_cases c2 : m < mid + m - s.2.1
       ·rw [zt c1,zt c2]
        simp only [zc]
        obtain ⟨d',e,hd'⟩ := rotate_ok g1 (a := s.2.1) (m := m) (b := mid + m - s.2.1) (by omega) c1 c2 (by omega)
        rw [e,bPs,er (by rw [hd'.len,g1.len])]
        exact ⟨_,rfl,hd'⟩
       ·rw [zt c1,zf c2]
        exact ⟨_,rfl,g1⟩
      ·rw [zf c1]
       exact ⟨_,rfl,g1⟩
     have ht' := ht
     generalize hcc : (cond ((cond (decide (s.2.1 < m)) ((s.1,decide (m < mid + m - s.2.1))) ((s.1,false)) : Rows × Bool)).2 _ _ : Option Rows) = o at ht ⊢
     cases o with
     | none=>cases ht
     | some t0 =>
      simp only [bPs,zo] at ht
      subst ht
      rw [bPs]
      clear hcc ht'
      obtain ⟨u,hu,huo⟩ : ∃ u,(af (cond ((cond (decide (a < s.2.1)) ((t0,decide (s.2.1 < mid))) ((t0,false)) : Rows × Bool)).2
        (af (bB n ((cond (decide (a < s.2.1)) ((t0,decide (s.2.1 < mid))) ((t0,false)) : Rows × Bool)).1 a s.2.1 mid cmp) fun x205=>af (fm (x205.length = ((cond (decide (a < s.2.1)) ((t0,decide (s.2.1 < mid))) ((t0,false)) : Rows × Bool)).1.length) ()) fun (_ : Unit)=>some x205)
        (some ((cond (decide (a < s.2.1)) ((t0,decide (s.2.1 < mid))) ((t0,false)) : Rows × Bool)).1)) some) = some u ∧ SrtOk cmp d0 u := by
       by_cases c1 : a < s.2.1
       ·by_cases c2 : s.2.1 < mid
        ·rw [zt c1,zt c2]
         simp only [zc]
         obtain ⟨d',e,hd'⟩ := nU n hto (a := a) (m := s.2.1) (b := mid) ha c1 c2 (by omega) (by omega)
         rw [e,bPs,er (by rw [hd'.len,hto.len])]
         exact ⟨_,rfl,hd'⟩
        ·rw [zt c1,zf c2]
         exact ⟨_,rfl,hto⟩
       ·rw [zf c1]
        exact ⟨_,rfl,hto⟩
      generalize hcc : (cond ((cond (decide (a < s.2.1)) ((t0,decide (s.2.1 < mid))) ((t0,false)) : Rows × Bool)).2 _ _ : Option Rows) = o at hu ⊢
      cases o with
      | none=>cases hu
      | some u0 =>
       simp only [bPs,zo] at hu
       subst hu
       rw [bPs]
       by_cases c1 : mid < mid + m - s.2.1
       ·rw [zt c1,zc]
        by_cases c2 : mid + m - s.2.1 < b
        ·rw [zt c2,zc]
         obtain ⟨d',e,hd'⟩ := nU n huo (a := mid) (m := mid + m - s.2.1) (b := b) (by omega) c1 c2 hb' (by omega)
         rw [e,bPs,er (by rw [hd'.len,huo.len])]
         exact ⟨_,rfl,hd'⟩
        ·rw [zf c2]
         exact ⟨_,rfl,huo⟩
       ·rw [zf c1]
        exact ⟨_,rfl,huo⟩
theorem stable_ok {d : Rows} (h : SrtOk cmp d0 d) : ∃ d',ep d (d0.length : Int) cmp = some d' ∧ SrtOk cmp d0 d' := by
 have hs := h.small
 unfold ep
 refine gH (fun s=>SrtOk cmp d0 s.1 ∧ 0 ≤ s.2.1 ∧ s.2.1 ≤ s.2.2 ∧ s.2.2 ≤ s.2.1 + 20 ∧ s.2.1 ≤ d0.length) (fun s=>(d0.length + 20 - s.2.2).toNat) (fun s=>SrtOk cmp d0 s.1 ∧ 0 ≤ s.2.1 ∧ s.2.1 ≤ d0.length) ⟨h,by show (0 : Int) ≤ 0; omega,by show (0 : Int) ≤ 20; omega,by show (20 : Int) ≤ 0 + 20; omega,by show (0 : Int) ≤ d0.length; omega⟩ (fun s hI=>?_) (fun s hq=>?_)
 ·obtain ⟨g1,g2,g3,g4,g5⟩ := hI
  by_cases hle : s.2.2 ≤ (d0.length : Int)
  ·rw [zt hle,zc]
   obtain ⟨d',e,hd'⟩ := sI g1 (a := s.2.1) (b := s.2.2) ⟨g2,by omega⟩ hle
   rw [e,bPs,er (by rw [hd'.len,g1.len]),bPs,bs (by omega) (by omega)]
   exact ⟨_,rfl,⟨hd',by show 0 ≤ s.2.2; omega,by show s.2.2 ≤ s.2.2 + 20; omega,by show s.2.2 + 20 ≤ s.2.2 + 20; omega,hle⟩,by show ((d0.length : Int) + 20 - (s.2.2 + 20)).toNat < ((d0.length : Int) + 20 - s.2.2).toNat; omega⟩
  ·rw [zf hle]
   exact ⟨_,rfl,g1,g2,g5⟩
 ·obtain ⟨g1,g2,g3⟩ := hq
  obtain ⟨d',e,hd'⟩ := sI g1 (a := s.2.1) (b := (d0.length : Int)) ⟨g2,by omega⟩ (Int.le_refl _)
  rw [e,bPs,er (by rw [hd'.len,g1.len]),bPs]
  clear e g1 g2 g3 s h
  refine gH (fun s=>SrtOk cmp d0 s.1 ∧ 20 ≤ s.2) (fun s=>(d0.length - s.2).toNat) (fun s=>SrtOk cmp d0 s.1) ⟨hd',by show (20 : Int) ≤ 20; omega⟩ (fun s hI=>?_) (fun s hq=>⟨_,rfl,hq⟩)
  obtain ⟨g1,g2⟩ := hI
  by_cases hlt : s.2 < (d0.length : Int)
  ·rw [zt hlt,zc,bs (n := 2 * s.2) (by omega) (by omega)]
   refine gH (fun t=>SrtOk cmp d0 t.1 ∧ 0 ≤ t.2.1 ∧ t.2.2 = t.2.1 + 2 * s.2 ∧ t.2.1 ≤ d0.length) (fun t=>(d0.length + 2 * s.2 - t.2.2).toNat) (fun t=>SrtOk cmp d0 t.1 ∧ 0 ≤ t.2.1 ∧ t.2.1 ≤ d0.length) ⟨g1,by show (0 : Int) ≤ 0; omega,by show 2 * s.2 = 0 + 2 * s.2; omega,by show (0 : Int) ≤ d0.length; omega⟩ (fun t hI=>?_) (fun t hq=>?_)
   ·obtain ⟨k1,k2,k3,k4⟩ := hI
    by_cases hle : t.2.2 ≤ (d0.length : Int)
    ·rw [zt hle,zc,bs (n := t.2.1 + s.2) (by omega) (by omega)]
     obtain ⟨d'',e,hd''⟩ := nU ((t.2.2 - t.2.1).toNat + 1) k1 (a := t.2.1) (m := t.2.1 + s.2) (b := t.2.2) k2 (by omega) (by omega) hle (by omega)
     rw [sx e,bPs,er (by rw [hd''.len,k1.len]),bPs,bs (by omega) (by omega)]
     exact ⟨_,rfl,⟨hd'',by show 0 ≤ t.2.2; omega,by show t.2.2 + 2 * s.2 = t.2.2 + 2 * s.2; omega,hle⟩,by show ((d0.length : Int) + 2 * s.2 - (t.2.2 + 2 * s.2)).toNat < ((d0.length : Int) + 2 * s.2 - t.2.2).toNat; omega⟩
    ·rw [zf hle]
     exact ⟨_,rfl,k1,k2,k4⟩
   ·obtain ⟨k1,k2,k3⟩ := hq
    rw [bs (n := t.2.1 + s.2) (by omega) (by omega),bs (n := s.2 * 2) (by omega) (by omega)]
    by_cases hm : t.2.1 + s.2 < (d0.length : Int)
    ·rw [zt hm,zc]
     obtain ⟨d'',e,hd''⟩ := nU ((d0.length - t.2.1).toNat + 1) k1 (a := t.2.1) (m := t.2.1 + s.2) (b := (d0.length : Int)) k2 (by omega) (by omega) (Int.le_refl _) (by omega)
     rw [sx e,bPs,er (by rw [hd''.len,k1.len]),bPs]
     exact ⟨_,rfl,⟨hd'',by show 20 ≤ s.2 * 2; omega⟩,by show ((d0.length : Int) - s.2 * 2).toNat < ((d0.length : Int) - s.2).toNat; omega⟩
    ·rw [zf hm,zd]
     exact ⟨_,rfl,⟨k1,by show 20 ≤ s.2 * 2; omega⟩,by show ((d0.length : Int) - s.2 * 2).toNat < ((d0.length : Int) - s.2).toNat; omega⟩
  ·rw [zf hlt]
   exact ⟨_,rfl,g1⟩
theorem sortStable_ok {d : Rows} (hs : d.length ≤ 1000000) (ht : ∀ x ∈ d,∀ y ∈ d,Tot (cmp x y)) : ∃ d',cM d cmp = some d' ∧ d'.Perm d := by
 unfold cM
 obtain ⟨d',e,hd'⟩ := stable_ok (cmp := cmp) (d0 := d) (d := d) ⟨List.Perm.refl _,hs,ht⟩
 rw [e,bPs,er hd'.len,bPs]
 exact ⟨d',rfl,hd'.perm⟩
end
theorem ra (r : LRun) (cols : List LCol) (x : Rq) (l : List LExpr) (hl : l.length ≤ 10000000) : dC r cols x l = some (l.map fun e=>bP (aW r cols x) e) := by
 unfold dC
 rw [lD (xs := l) (fun e=>bP (aW r cols x) e) (fun k e hk=>by
  have := (zg.1 hk).1
  rw [bF,bF,bV (by decide) (by simp; omega),bPs])]
 rfl
theorem compare_tot (a b : Rq) (ds : List Bool) : Tot (ik a b ds) := by
 unfold ik
 refine Tot.bind (Tot.range _ _ _ fun k x s hk=>?_) fun fl _=>Tot.thenR fun _ _=>Tot.mk
 rw [Nat.zero_add]
 by_cases h1 : (k : Int) ≥ (b.length : Int)
 ·rw [zt h1]; exact Tot.mk
 ·rw [zf h1,zd,gN (by omega)]
  simp only [bPs,bF]
  refine Tot.cond (fun _=>Tot.mk) fun _=>?_
  refine Tot.cond (fun h=>?_) fun _=>Tot.cond (fun _=>Tot.mk) fun _=>Tot.mk
  have h := of_decide_eq_true h
  rw [gN (by omega),bPs]
  exact Tot.cond (fun _=>Tot.cond (fun _=>Tot.mk) fun _=>Tot.mk) fun _=>Tot.cond (fun _=>Tot.mk) fun _=>Tot.mk
theorem sort_ok (r : LRun) (q : LQuery) (cols : List LCol) (l : Rows) (hs : l.length ≤ 1000000) (he : q.exprs.length ≤ 1000000) : ∃ l',fQ r q cols l = some l' ∧ l'.Perm l := by
 unfold fQ
 obtain ⟨l',e,hp⟩ := sortStable_ok (cmp := fun a0 a1=>fU a0 a1 r cols q) hs (fun x _ y _=>by
  show Tot (fU x y r cols q)
  unfold fU
  rw [ra r cols x q.exprs (by omega),ra r cols y q.exprs (by omega),bPs,bPs]
  exact Tot.bind (compare_tot _ _ _) fun _ _=>Tot.mk)
 rw [e,bPs,er hp.length_eq,bPs]
 exact ⟨l',rfl,hp⟩
theorem val_eq (x y : LVal) : (x.kind == y.kind && (x.int == y.int && (x.text == y.text && true))) = decide (x = y) := by
 obtain ⟨a,b,c⟩ := x
 obtain ⟨a',b',c'⟩ := y
 by_cases h : (⟨a,b,c⟩ : LVal) = ⟨a',b',c'⟩
 ·rw [zt h]; cases h; simp
 ·rw [zf h]
  by_cases h1 : a = a'
  ·by_cases h2 : b = b'
   ·have h3 : c ≠ c' := fun h3=>h (by rw [h1,h2,h3])
    have : (c == c') = false := by simpa using h3
    simp [this]
   ·simp [cr h2]
  ·simp [cr h1]
theorem equalRow (x y : Rq) : cW x y = some (decide (x = y)) := by
 unfold cW
 by_cases hl : x.length = y.length
 ·rw [natNE,zt hl,Bool.not_true,zd]
  obtain ⟨fl,hfl,hr⟩ := eD (step := fun (j1 : Nat) (x1 : LVal) (_ : Unit)=>af (aF y (j1 : Int)) fun (x22 : LVal)=>cond (!(x1.kind == x22.kind && (x1.int == x22.int && (x1.text == x22.text && true)))) (some (Flow.ret false)) (some (.next ())))
   (fun j _=>x.take j = y.take j) (fun r=>r = false ∧ x ≠ y) x 0 () (by simp) (fun k v s hk hI=>by
    simp only [Nat.zero_add] at hI ⊢
    have hkl := (zg.1 hk).1
    rw [gN (by omega),bPs,val_eq]
    by_cases hv : v = y[k]
    ·rw [zt hv]
     refine ⟨_,rfl,?_⟩
     simp only
     rw [List.take_add_one,List.take_add_one,hk,ze (by omega),hI,hv]
    ·rw [zf hv]
     refine ⟨_,rfl,rfl,fun he=>hv ?_⟩
     subst he
     exact (zg.1 hk).2.symm)
  rw [hfl,bPs]
  cases fl with
  | brk s=>exact absurd hr (by simp)
  | ret r=>rw [rr,hr.1,zf hr.2]
  | next s =>
   simp only [Nat.zero_add,List.take_length] at hr
   rw [hl,List.take_length] at hr
   rw [jV,zt hr]
 ·rw [natNE,zf hl,zf (fun h=>hl (by rw [h]))]
  rfl
theorem idxO (l : Rows) (p : Rq → Bool) (f : Rq → Option Bool) (hf : ∀ x ∈ l,f x = some (p x)) (hl : l.length ≤ 10000000) : bL l f = some (ba p l,l) := by
 unfold bL
 rw [qd (by omega),bPs,Int.toNat_natCast]
 obtain ⟨fl,hfl,hr⟩ := eD (step := fun (j1 : Nat) (_ : Nat) (s1 : Rows)=>af (aF s1 (j1 : Int)) fun (x14 : Rq)=>af (f x14) fun x16=>cond x16 (some (Flow.ret ((j1 : Int),s1))) (some (.next s1)))
  (fun j s=>s = l ∧ ∀ x ∈ l.take j,p x = false) (fun r=>r = (ba p l,l)) (List.range l.length) 0 l ⟨rfl,by simp⟩ (fun k v s hk hI=>by
   simp only [Nat.zero_add] at hI ⊢
   have hkl := (zg.1 hk).1
   simp at hkl
   obtain ⟨rfl,hI⟩ := hI
   rw [gN hkl,bPs,hf _ (List.getElem_mem hkl),bPs]
   cases hp : p s[k] with
   | true=>exact ⟨_,rfl,by simp only; rw [pw hkl hI hp]⟩
   | false =>
    refine ⟨_,rfl,rfl,fun x hx=>?_⟩
    rw [List.take_add_one,ze hkl,List.mem_append] at hx
    rcases hx with hx | hx
    ·exact hI x hx
    ·simp at hx
     rw [hx]
     exact hp)
 rw [hfl,bPs]
 cases fl with
 | brk s=>exact absurd hr (by simp)
 | ret r=>rw [rr,hr]
 | next s =>
  simp only [Nat.zero_add,List.length_range,List.take_length] at hr
  rw [jV,hr.1,kJ hr.2]
theorem deleteFunc_eq (l : Rows) (p : Rq → Bool) (f : Rq → Option Bool) (hf : ∀ x ∈ l,f x = some (p x)) (hl : l.length ≤ 1000000) : dq l f = some (l.filter fun x=>!p x) := by
 unfold dq
 rw [idxO l p f hf (by omega),bPs]
 simp only
 rw [er trivial,bPs]
 by_cases hneg : ba p l = -1
 ·rw [gZ hneg,zc]
  congr 1
  symm
  rw [List.filter_eq_self]
  intro x hx
  have : decide (ba p l ≥ 0) = false := by rw [hneg]; rfl
  rw [jb] at this
  have := List.any_eq_false.1 this x hx
  simpa using this
 ·rw [cr hneg,zd]
  have h0 : 0 ≤ ba p l := by rcases idxOf_neg (p := p) (l := l) with h | h; exact absurd h hneg; exact h
  obtain ⟨i,hi⟩ : ∃ i : Nat,ba p l = i := ⟨(ba p l).toNat,by omega⟩
  have hil : i < l.length := by have := pH h0; omega
  have hpre : (l.take i).filter (fun x=>!p x) = l.take i := by
   rw [List.filter_eq_self]
   intro x hx
   have : l.findIdx? p = some i := by
    unfold ba at hi
    cases hq : l.findIdx? p with
    | none=>rw [hq] at hi; simp at hi
    | some j=>rw [hq] at hi; exact congrArg some (by have hi : (j : Int) = (i : Int) := hi; omega)
   obtain ⟨_,_,hlt⟩ := List.findIdx?_eq_some_iff_getElem.1 this
   obtain ⟨j,hj,rfl⟩ := List.mem_take_iff_getElem.1 hx
   simp [hlt j (by omega)]
  have hpi : p l[i] = true := by
   obtain ⟨x,hx,hp⟩ := ow h0
   rw [hi,Int.toNat_natCast,ze hil] at hx
   cases hx
   exact hp
  rw [hi,bs (n := (i : Int) + 1) (by omega) (by omega)]
  obtain ⟨r,hr,hq⟩ := gH (step := fun (s1 : Rows × Int × Int) =>
   cond (decide (s1.2.2 < (s1.1.length : Int)))
    (af (aF s1.1 s1.2.2) fun (x24 : Rq)=>af (f x24) fun x28=>cond (!x28) (af (aF s1.1 s1.2.1) fun (_ : Rq)=>bC (s1.1.set s1.2.1.toNat x24) fun (y4 : Rows)=>some (.next (y4,(IntKind.i64.wrap (s1.2.1 + (1 : Int))),(IntKind.i64.wrap (s1.2.2 + (1 : Int))))))
     (some (.next (s1.1,s1.2.1,(IntKind.i64.wrap (s1.2.2 + (1 : Int)))))))
    (some (.brk (s1.1,s1.2.1,s1.2.2)))) (s := (l,(i : Int),(i : Int) + 1)) (k := fun (s1 : Rows × Int × Int)=>af (cutI s1.1 s1.2.1) fun (y5 : Rows)=>af (cutI y5 s1.2.1) fun (y6 : Rows)=>some y6) (R := fun r=>r = l.filter fun x=>!p x)
   (fun s=>∃ a j : Nat,s.2.1 = a ∧ s.2.2 = j ∧ a < j ∧ j ≤ l.length ∧ s.1.length = l.length ∧ s.1.take a = (l.take j).filter (fun x=>!p x) ∧ s.1.drop j = l.drop j) (fun s=>(l.length - s.2.2).toNat)
   (fun s=>∃ a : Nat,s.2.1 = a ∧ a ≤ s.1.length ∧ s.1.take a = l.filter fun x=>!p x)
   ⟨i,i + 1,rfl,by show (i : Int) + 1 = ((i + 1 : Nat) : Int); omega,by omega,by omega,rfl,by
    show l.take i = _
    rw [List.take_add_one,ze hil,List.filter_append,hpre]
    simp [hpi],rfl⟩
   (fun s hI=>by
    obtain ⟨a,j,h1,h2,h3,h4,h5,h6,h7⟩ := hI
    obtain ⟨d,s1,s2⟩ := s
    simp only at h1 h2 h5 h6 h7 ⊢
    subst h1
    subst h2
    by_cases hlt : j < l.length
    ·rw [zt (show (j : Int) < (d.length : Int) from by omega),zc,gN (by omega),bPs]
     have hdj : d[j]? = l[j]? := by
      have := congrArg (fun q=>q[0]?) h7
      simpa using this
     have hdje : d[j] = l[j] := by
      rw [ze (by omega),ze hlt] at hdj
      exact Option.some.inj hdj
     have hdrop : ∀ e : Rows,e.drop j = l.drop j → e.drop (j + 1) = l.drop (j + 1) := fun e he=>by
      rw [← List.drop_drop,← List.drop_drop,he]
     rw [hdje,hf _ (List.getElem_mem hlt),bPs,bs (n := (j : Int) + 1) (by omega) (by omega),bs (n := (a : Int) + 1) (by omega) (by omega)]
     cases hp : p l[j] with
     | true =>
      refine ⟨_,rfl,⟨a,j + 1,rfl,by show (j : Int) + 1 = ((j + 1 : Nat) : Int); omega,by omega,by omega,h5,?_,hdrop d h7⟩,by show ((l.length : Int) - ((j : Int) + 1)).toNat < ((l.length : Int) - (j : Int)).toNat; omega⟩
      show d.take a = _
      rw [h6,List.take_add_one,ze hlt,List.filter_append]
      simp [hp]
     | false =>
      simp only [Bool.not_false,zc]
      rw [gN (by omega),bPs,bF,Int.toNat_natCast]
      refine ⟨_,rfl,⟨a + 1,j + 1,by show (a : Int) + 1 = ((a + 1 : Nat) : Int); omega,by show (j : Int) + 1 = ((j + 1 : Nat) : Int); omega,by omega,by omega,by show (d.set a l[j]).length = l.length; simp [h5],?_,?_⟩,by show ((l.length : Int) - ((j : Int) + 1)).toNat < ((l.length : Int) - (j : Int)).toNat; omega⟩
      ·show (d.set a l[j]).take (a + 1) = _
       rw [List.take_add_one,List.getElem?_set_self (by omega),List.take_set_of_le (by omega),h6,List.take_add_one,ze hlt,List.filter_append]
       simp [hp]
      ·show (d.set a l[j]).drop (j + 1) = _
       rw [List.drop_set_of_lt (by omega)]
       exact hdrop d h7
    ·rw [zf (show ¬ (j : Int) < (d.length : Int) from by omega)]
     refine ⟨_,rfl,a,rfl,by show a ≤ d.length; omega,?_⟩
     show d.take a = _
     rw [h6,List.take_of_length_le (by omega)])
   (fun s hq=>by
    obtain ⟨a,h1,h2,h3⟩ := hq
    rw [h1]
    unfold cutI
    rw [zp ⟨by omega,by simpa using h2⟩,bPs,Int.toNat_natCast,zp ⟨by omega,by simp; omega⟩,bPs,List.take_take,Nat.min_self]
    exact ⟨_,rfl,h3⟩)
  rw [← hq]
  exact hr
def kK : Rows → Rows → Rows
 | [],_=>[]
 | x :: a,left=>if x ∈ left then kK a (left.erase x) else x :: kK a left
theorem erase_idx {α : Type} [BEq α] [LawfulBEq α] [DecidableEq α] {l : List α} {x : α} {i : Nat} (h : l.findIdx? (fun y=>decide (x = y)) = some i) : l.take i ++ l.drop (i + 1) = l.erase x := by
 induction l generalizing i with
 | nil=>simp at h
 | cons a l ih =>
  rw [List.findIdx?_cons] at h
  by_cases hx : x = a
  ·subst hx; simp at h; subst h; simp
  ·have e : decide (x = a) = false := zf hx
   rw [e] at h
   simp only [Bool.false_eq_true,if_false,Option.map_eq_some_iff] at h
   obtain ⟨j,hj,rfl⟩ := h
   have hne : (a == x) = false := by simp; exact fun h=>hx h.symm
   rw [List.erase_cons,hne]
   simp [ih hj]
theorem less_run : ∀ (a : Rows) (j : Nat) (left out : Rows),left.length ≤ 1000000 → out.length + a.length ≤ 1000000 →
  aK (σ := Rows × Rows) (ρ := Empty) (fun (_ : Nat) (x1 : Rq) (s1 : Rows × Rows) =>
  af (bL s1.1 (fun a0=>jg a0 x1)) fun x20 =>
  af (fm (x20.2.length = s1.1.length) ()) fun (_ : Unit) =>
  cond (decide (x20.1 ≥ (0 : Int)))
   (af (delI x20.2 x20.1 (IntKind.i64.wrap (x20.1 + (1 : Int)))) fun x27 =>
   some (.next (x27,s1.2)))
   (af (dg 24 s1.2 ([x1] : Rz)) fun (x31 : Rz) =>
   some (.next (x20.2,x31)))) j a (left,out) = some (.next ((a.foldl (fun l x=>l.erase x) left),out ++ kK a left))
 | [],j,left,out,_,_=>by simp [aK,kK]
 | x :: a,j,left,out,hl,ho=>by
  rw [aK,idxO left (fun y=>decide (x = y)) _ (fun y _=>by unfold jg; rw [equalRow]; rfl) (by omega),bPs]
  simp only
  rw [er trivial,bPs,kK,List.foldl_cons]
  by_cases hx : x ∈ left
  ·have hany : decide (ba (fun y=>decide (x = y)) left ≥ 0) = true := by rw [jb,List.any_eq_true]; exact ⟨x,hx,by simp⟩
   rw [hany,zc,zp hx]
   have h0 := of_decide_eq_true hany
   unfold ba at h0 ⊢
   cases hq : left.findIdx? (fun y=>decide (x = y)) with
   | none=>rw [hq] at h0; simp at h0
   | some i =>
    have hil := (List.findIdx?_eq_some_iff_getElem.1 hq).1
    simp only
    rw [bs (by omega) (by omega)]
    have hd : delI left (i : Int) ((i : Int) + 1) = some (left.erase x) := by
     unfold delI
     rw [zp ⟨by omega,by omega,by omega⟩,show ((i : Int)).toNat = i from rfl,show ((i : Int) + 1).toNat = i + 1 from by omega,erase_idx hq]
    rw [hd,bPs]
    exact less_run a (j + 1) (left.erase x) out (by have := List.length_erase_le (a := x) (l := left); omega) (by simp at ho; omega)
  ·have hany : decide (ba (fun y=>decide (x = y)) left ≥ 0) = false := by
    rw [jb,List.any_eq_false]
    intro y hy he
    have : x = y := by simpa using he
    exact hx (this ▸ hy)
   rw [hany,zd,zy hx,bV (by decide) (by simp at ho ⊢; omega),bPs]
   simp only
   rw [less_run a (j + 1) left _ hl (by simp at ho ⊢; omega),List.erase_of_not_mem hx]
   simp
theorem less_eq (a b : Rows) (ha : a.length ≤ 1000000) (hb : b.length ≤ 1000000) : lu a b = some (kK a b) := by
 unfold lu
 rw [less_run a 0 b [] hb (by simpa using ha),bPs,bX]
 rfl
theorem qj : ∀ (a b : Rows),(kK a b).Sublist a
 | [],_=>by simp [kK]
 | x :: a,b=>by
  rw [kK]
  split
  ·exact (qj a _).cons x
  ·exact (qj a b).cons_cons x
theorem concat2 (x y : Rq) (hx : x.length ≤ 1000000) (hy : y.length ≤ 1000000) : bU [x,y] = some (x ++ y) := by
 unfold bU
 simp only [aK,Int.zero_add]
 rw [bs (n := (x.length : Int)) (by omega) (by omega),zf (show ¬ (x.length : Int) < 0 from by omega)]
 simp only [zd]
 rw [bs (n := (x.length : Int) + (y.length : Int)) (by omega) (by omega),zf (show ¬ (x.length : Int) + (y.length : Int) < 0 from by omega)]
 simp only [zd,bPs,bX]
 rw [growI_ok ⟨by omega,by omega,by unfold maxLen; omega⟩,bPs,bV (by decide) (by simp; omega),bPs]
 simp only [List.nil_append]
 rw [bV (by decide) (by omega)]
 rfl
def eT (f : Rq → Bool) (x : Rq) (b : Rows) : Rows := (b.map fun y=>x ++ y).filter f
def mF (f : Rq → Bool) (left : Bool) (pad x : Rq) (b : Rows) : Rows := if left = true ∧ eT f x b = [] then [x ++ pad] else eT f x b
def dF (f : Rq → Bool) (left : Bool) (pad : Rq) (a b : Rows) : Rows := (a.map fun x=>mF f left pad x b).flatten
theorem match_run (f : Rq → Bool) (e : LExpr) (r : LRun) (cols : List LCol) (ex : List LExpr) (he : aF ex 0 = some e) (hf : ∀ z,dD (bP (aW r cols z) e) = f z) (x : Rq) (hx : x.length ≤ 1000)
  (b : Rows) (out : Rows) (found : Bool) (hb : ∀ y ∈ b,y.length ≤ 1000) (ho : out.length + b.length ≤ 1000000) :
  aK (σ := Rows × Bool) (ρ := Empty) (fun (_ : Nat) (x6 : Rq) (s6 : Rows × Bool) =>
   af (bU ([x,x6] : Rows)) fun x58 =>
   af (aF ex 0) fun (x65 : LExpr) =>
   bC (aW r cols x58) fun x62 =>
   bC (bP x62 x65) fun x67 =>
   bC (dD x67) fun x68 =>
   cond x68
    (af (dg 24 s6.1 ([x58] : Rows)) fun (x72 : Rows)=>some (.next (x72,true)))
    (some (.next (s6.1,s6.2)))) 0 b (out,found) = some (.next (out ++ eT f x b,found || !(eT f x b).isEmpty)) := by
 rw [rMa (xs := b) (s := (out,found)) (fun k=>(out ++ eT f x (b.take k),found || !(eT f x (b.take k)).isEmpty)) (by simp [eT]) (fun k y hk=>by
  have hkl := (zg.1 hk).1
  have hm : (eT f x (b.take k)).length ≤ k := by unfold eT; exact Nat.le_trans (List.length_filter_le _ _) (by simp; omega)
  have hs : eT f x (b.take (k + 1)) = eT f x (b.take k) ++ if f (x ++ y) then [x ++ y] else [] := by
   unfold eT
   rw [List.take_add_one,hk,List.map_append,List.filter_append]
   cases h : f (x ++ y) <;> simp [h]
  rw [concat2 x y (by omega) (by have := hb y (eX hk); omega),bPs,he,bPs,hs]
  simp only [bF,hf]
  cases hz : f (x ++ y) with
  | true =>
   rw [zc,bV (by decide) (by simp; omega),bPs]
   simp
  | false=>simp),List.take_length]
theorem padR_len (f : Rq → Bool) (left : Bool) (pad x : Rq) (b : Rows) : (mF f left pad x b).length ≤ max 1 b.length := by
 unfold mF
 split
 ·simp; omega
 ·have : (eT f x b).length ≤ b.length := by
   unfold eT
   exact Nat.le_trans (List.length_filter_le _ _) (by simp)
  omega
theorem qn (f : Rq → Bool) (left : Bool) (pad : Rq) (a b : Rows) : (dF f left pad a b).length ≤ a.length * max 1 b.length := by
 unfold dF
 induction a with
 | nil=>simp
 | cons x a ih =>
  have := padR_len f left pad x b
  simp only [List.map_cons,List.flatten_cons,List.length_append,List.length_cons,Nat.add_mul,Nat.one_mul]
  omega
def dU (key : Rq → Rq) : Rows → Rows → Rows
 | ks,[]=>ks
 | ks,x :: l=>dU key (if key x ∈ ks then ks else ks ++ [key x]) l
theorem keysF_app (key : Rq → Rq) : ∀ (l l' ks : Rows),dU key ks (l ++ l') = dU key (dU key ks l) l'
 | [],_,_=>rfl
 | x :: l,l',ks=>by rw [List.cons_append,dU,keysF_app key l l',dU]
theorem tT (key : Rq → Rq) : ∀ (l ks : Rows),ks.Nodup → (dU key ks l).Nodup
 | [],_,h=>h
 | x :: l,ks,h=>by
  rw [dU]
  refine tT key l _ ?_
  split
  ·exact h
  ·rename_i hx
   rw [List.nodup_append]
   exact ⟨h,by simp,fun a ha b hb hab=>by simp at hb; exact hx (hb ▸ hab ▸ ha)⟩
theorem qu (key : Rq → Rq) : ∀ (l ks : Rows) (k : Rq),k ∈ dU key ks l ↔ k ∈ ks ∨ ∃ x ∈ l,key x = k
 | [],ks,k=>by simp [dU]
 | x :: l,ks,k=>by
  rw [dU,qu key l]
  split
  ·rename_i h
   constructor
   ·rintro (h1 | ⟨y,hy,e⟩)
    ·exact .inl h1
    ·exact .inr ⟨y,by simp [hy],e⟩
   ·rintro (h1 | ⟨y,hy,e⟩)
    ·exact .inl h1
    ·rcases List.mem_cons.1 hy with rfl | hy
     ·exact .inl (e ▸ h)
     ·exact .inr ⟨y,hy,e⟩
  ·constructor
   ·rintro (h1 | ⟨y,hy,e⟩)
    ·rcases List.mem_append.1 h1 with h1 | h1
     ·exact .inl h1
     ·exact .inr ⟨x,by simp,by simp at h1; exact h1.symm⟩
    ·exact .inr ⟨y,by simp [hy],e⟩
   ·rintro (h1 | ⟨y,hy,e⟩)
    ·exact .inl (by simp [h1])
    ·rcases List.mem_cons.1 hy with rfl | hy
     ·exact .inl (by simp [e])
     ·exact .inr ⟨y,hy,e⟩
theorem oa (key : Rq → Rq) : ∀ (l ks : Rows),(dU key ks l).length ≤ ks.length + l.length
 | [],_=>by simp [dU]
 | x :: l,ks=>by
  rw [dU]
  have := oa key l (if key x ∈ ks then ks else ks ++ [key x])
  split at this
  ·rename_i h; rw [zp h]; simp; omega
  ·rename_i h; rw [zy h]; simp at this ⊢; omega
def fu (key : Rq → Rq) (l : Rows) (k : Rq) : Rows := l.filter fun x=>decide (key x = k)
theorem group_run (key : Rq → Rq) (q : LQuery) (r : LRun) (cols : List LCol) (hk : ∀ x,dC r cols x q.exprs = some (key x)) (ks0 : Rows) (hn : ks0.Nodup) (l : Rows) (hl : l.length ≤ 1000000) (hks : ks0.length ≤ 1) :
  aK (σ := Rows × List Rows) (ρ := Empty) (fun (_ : Nat) (x2 : Rq) (s2 : Rows × List Rows) =>
  af (dC r cols x2 q.exprs) fun x38 =>
  af (bL s2.1 (fun a0=>gq a0 x38)) fun x41 =>
  af (fm (x41.2.length = s2.1.length) ()) fun (_ : Unit) =>
  af (
   cond (decide (x41.1 < (0 : Int)))
    (af (dg 24 x41.2 ([x38] : Rows)) fun (x49 : Rows) =>
    af (dg 24 s2.2 ([[]] : List Rows)) fun (x52 : List Rows) =>
    some (x49,x52,(x41.2.length : Int)))
    (some (x41.2,s2.2,x41.1))) fun (t7 : Rows × List Rows × Int) =>
  af (aF t7.2.1 t7.2.2) fun (x57 : Rows) =>
  af (dg 24 x57 ([x2] : Rows)) fun (x61 : Rows) =>
  af (aF t7.2.1 t7.2.2) fun (_ : Rows) =>
  bC (t7.2.1.set t7.2.2.toNat x61) fun (y8 : List Rows) =>
  some (.next (t7.1,y8))) 0 l (ks0,ks0.map fun _=>[]) = some (.next (dU key ks0 l,(dU key ks0 l).map (fu key l))) := by
 rw [rMa (xs := l) (s := (ks0,ks0.map fun _=>[])) (fun k=>(dU key ks0 (l.take k),(dU key ks0 (l.take k)).map (fu key (l.take k)))) (by
  show (ks0,ks0.map (fu key [])) = _
  congr 1) (fun k x hkx=>by
   have hkl := (zg.1 hkx).1
   have hlen := oa key (l.take k) ks0
   have hlen2 : (dU key ks0 (l.take k)).length ≤ 1 + k := by simp at hlen; omega
   have hnd := tT key (l.take k) ks0 hn
   have hmem : ∀ y ∈ l.take k,key y ∈ dU key ks0 (l.take k) := fun y hy=>(qu key _ _ _).2 (.inr ⟨y,hy,rfl⟩)
   have hsucc : l.take (k + 1) = l.take k ++ [x] := by rw [List.take_add_one,hkx]; rfl
   rw [hsucc,keysF_app]
   generalize hK : dU key ks0 (l.take k) = K at *
   have hgl : ∀ kk,(fu key (l.take k) kk).length ≤ k := fun kk=>by
    unfold fu
    exact Nat.le_trans (List.length_filter_le _ _) (by simp; omega)
   rw [hk x,bPs,idxO K (fun y=>decide (key x = y)) _ (fun y _=>by unfold gq; rw [equalRow]; rfl) (by omega),bPs]
   simp only
   rw [er trivial,bPs]
   have hg : ∀ kk,fu key (l.take k ++ [x]) kk = fu key (l.take k) kk ++ if key x = kk then [x] else [] := fun kk=>by
    unfold fu
    rw [List.filter_append]
    congr 1
    by_cases h : key x = kk <;> simp [h]
   by_cases hx : key x ∈ K
   ·have hany : decide (ba (fun y=>decide (key x = y)) K < 0) = false := by
     have : decide (ba (fun y=>decide (key x = y)) K ≥ 0) = true := by rw [jb,List.any_eq_true]; exact ⟨_,hx,by simp⟩
     have := of_decide_eq_true this
     exact zf (by omega)
    have h0 : 0 ≤ ba (fun y=>decide (key x = y)) K := by have := of_decide_eq_false hany; omega
    obtain ⟨i,hi⟩ : ∃ i : Nat,ba (fun y=>decide (key x = y)) K = i := ⟨(ba (fun y=>decide (key x = y)) K).toNat,by omega⟩
    obtain ⟨z,hz,hzk⟩ := ow h0
    rw [hi,Int.toNat_natCast] at hz
    have hzk : key x = z := by simpa using hzk
    subst hzk
    have hiK := (zg.1 hz).1
    rw [hany,zd,bPs,hi]
    simp only
    have hgi : (K.map (fu key (l.take k)))[i]? = some (fu key (l.take k) (key x)) := by rw [List.getElem?_map,hz]; rfl
    rw [mj hgi,bPs,bV (by decide) (by have := hgl (key x); simp; omega),bPs,bPs,bF,Int.toNat_natCast]
    congr 3
    ·simp [dU,hx]
    ·have hkk : dU key K [x] = K := by simp [dU,hx]
     rw [hkk]
     apply List.ext_getElem?
     intro j
     rw [List.getElem?_set,List.getElem?_map]
     by_cases hij : i = j
     ·subst hij
      rw [zp rfl,zp (by simpa using hiK),List.getElem?_map,hz,Option.map_some,hg,zp rfl]
     ·rw [zy hij,List.getElem?_map]
      cases hj : K[j]? with
      | none=>rfl
      | some w =>
       simp only [Option.map_some]
       have hne : key x ≠ w := fun he=>by
        subst he
        have hjK := (zg.1 hj).1
        rw [List.nodup_iff_pairwise_ne,List.pairwise_iff_getElem] at hnd
        have e1 := (zg.1 hz).2
        have e2 := (zg.1 hj).2
        rcases Nat.lt_or_gt_of_ne hij with h | h
        ·exact hnd i j hiK hjK h (by rw [e1,e2])
        ·exact hnd j i hjK hiK h (by rw [e1,e2])
       rw [hg,zy hne,List.append_nil]
   ·have hany : decide (ba (fun y=>decide (key x = y)) K < 0) = true := by
     have : decide (ba (fun y=>decide (key x = y)) K ≥ 0) = false := by
      rw [jb,List.any_eq_false]
      intro y hy he
      have : key x = y := by simpa using he
      exact hx (this ▸ hy)
     have := of_decide_eq_false this
     exact zt (by omega)
    rw [hany,zc,bV (by decide) (by simp; omega),bPs,bV (by decide) (by simp; omega),bPs,bPs]
    simp only
    have hgi : (K.map (fu key (l.take k)) ++ [[]])[K.length]? = some [] := by
     rw [List.getElem?_append_right (by simp),zl,Nat.sub_self]; rfl
    rw [mj hgi,bPs,bV (by decide) (by simp),bPs,bPs,bF,Int.toNat_natCast]
    have hkk : dU key K [x] = K ++ [key x] := by simp [dU,hx]
    rw [hkk]
    congr 3
    have hold : fu key (l.take k) (key x) = [] := by
     unfold fu
     rw [List.filter_eq_nil_iff]
     intro y hy he
     have : key y = key x := by simpa using he
     exact hx (this ▸ hmem y hy)
    rw [List.map_append,List.set_append_right _ _ (by simp),zl,Nat.sub_self]
    congr 1
    ·apply List.map_congr_left
     intro w hw
     have hne : key x ≠ w := fun he=>hx (he ▸ hw)
     rw [hg,zy hne,List.append_nil]
    ·simp [hg,hold])]
 rw [List.take_length]
def lE (op : List UInt8) (s : Int × LVal) (v : LVal) : Int × LVal := (IntKind.i64.wrap (s.1 + v.int),if (op = sMin ∧ lX v s.2 = true) ∨ (op = sMax ∧ lX s.2 v = true) then v else s.2)
def rJ (op : List UInt8) (l : Rq) : LVal :=
 if op = ip then fZ l.length else match l with
  | []=>.nul
  | v :: _=>if op = sSum then fZ (l.foldl (lE op) (0,v)).1 else (l.foldl (lE op) (0,v)).2
theorem compute_eq (op : List UInt8) (l : Rq) : fO op l = some (rJ op l) := by
 unfold fO rJ
 by_cases h1 : op = ip
 ·subst h1; rfl
 ·have e1 : (op == ([99,111,117,110,116] : List UInt8)) = false := by simpa using h1
  rw [e1,zd,zy h1]
  cases l with
  | nil=>rfl
  | cons v l =>
   have e2 : (((v :: l).length : Int) == 0) = false := cr (by simp; omega)
   rw [e2,zd]
   have e3 : aF (v :: l) 0 = some v := rfl
   rw [e3,bPs]
   rw [nQ (xs := v :: l) (lE op) (fun k x _=>by
    generalize (((v :: l).take k).foldl (lE op) (0,v)) = s
    unfold lE
    by_cases m : op = sMin
    ·subst m
     simp only [bF]
     cases lX x s.2 <;> simp
    ·have em : (op == ([109,105,110] : List UInt8)) = false := by simpa using m
     rw [em,zd]
     by_cases n : op = sMax
     ·subst n
      simp only [bF]
      cases lX s.2 x <;> simp
     ·have en : (op == ([109,97,120] : List UInt8)) = false := by simpa using n
      rw [en,zd]
      simp [m,n]),bPs,bX]
   by_cases h2 : op = sSum
   ·subst h2; rfl
   ·have e4 : (op == ([115,117,109] : List UInt8)) = false := by simpa using h2
    rw [e4,zd]
    simp only
    rw [zy h2]
def aggR (r : LRun) (cols : List LCol) (a : LAggregateCall) (l : Rows) : LVal := match a.args with
 | []=>fZ l.length
 | e :: _=>rJ a.function ((l.map fun x=>bP (aW r cols x) e).filter fun v=>v.kind != 0)
theorem aggR_eq (r : LRun) (cols : List LCol) (a : LAggregateCall) (l : Rows) (hl : l.length ≤ 1000000) : jO r a cols l = some (aggR r cols a l) := by
 unfold jO aggR
 cases ha : a.args with
 | nil=>rfl
 | cons e es =>
  have e2 : (((e :: es).length : Int) == 0) = false := cr (by simp; omega)
  rw [e2,zd]
  rw [rMa (xs := l) (s := []) (fun k=>((l.take k).map fun x=>bP (aW r cols x) e).filter fun v=>v.kind != 0) rfl (fun k x hk=>by
   have hkl := (zg.1 hk).1
   have e3 : aF (e :: es) 0 = some e := rfl
   rw [e3]
   simp only [bPs,bF]
   have hb : (((l.take k).map fun x=>bP (aW r cols x) e).filter fun v=>v.kind != 0).length ≤ k := Nat.le_trans (List.length_filter_le _ _) (by simp; omega)
   rw [List.take_add_one,hk,List.map_append,List.filter_append]
   cases hv : (bP (aW r cols x) e).kind != 0 with
   | true =>
    rw [zc,bV (by decide) (by simp at hb ⊢; omega),bPs]
    simp [hv]
   | false=>simp [hv]),bPs,bX,List.take_length,compute_eq]
  rfl
def kt (r : LRun) (cols : List LCol) (q : LQuery) (l : Rows) : Rows :=
 (dU (fun x=>q.exprs.map fun e=>bP (aW r cols x) e) (if q.exprs = [] then [[]] else []) l).map fun k =>
  k ++ q.aggregates.map fun a=>aggR r cols a (fu (fun x=>q.exprs.map fun e=>bP (aW r cols x) e) l k)
theorem group_eq (r : LRun) (cols : List LCol) (q : LQuery) (l : Rows) (hl : l.length ≤ 999999) (he : q.exprs.length ≤ 1000000) (ha : q.aggregates.length ≤ 1000000) : iU r q cols l = some (kt r cols q l) := by
 unfold iU kt
 generalize hkey : (fun x=>q.exprs.map fun e=>bP (aW r cols x) e) = key
 have hk : ∀ x,dC r cols x q.exprs = some (key x) := fun x=>by rw [ra r cols x q.exprs (by omega),← hkey]
 have hinit : (cond ((q.exprs.length : Int) == (0 : Int)) (([[]],[[]])) (([],[])) : Rows × List Rows) = ((if q.exprs = [] then [[]] else []),((if q.exprs = [] then [[]] else []) : Rows).map fun _=>[]) := by
  cases q.exprs with
  | nil=>rfl
  | cons e es=>rw [show (((e :: es).length : Int) == 0) = false from cr (by simp; omega)]; rfl
 rw [bF,hinit]
 generalize hks : (if q.exprs = [] then [[]] else [] : Rows) = ks0
 have hks1 : ks0.length ≤ 1 := by rw [← hks]; split <;> simp
 have hks2 : ks0.Nodup := by rw [← hks]; split <;> simp
 rw [group_run key q r cols hk ks0 hks2 l (by omega) hks1,bPs,bX]
 generalize hK : dU key ks0 l = K
 have hKl : K.length ≤ 1000000 := by rw [← hK]; have := oa key l ks0; omega
 simp only
 rw [er (by rw [zl]; omega),bPs,qd (by omega),bPs,Int.toNat_natCast]
 have hgl : ∀ kk,(fu key l kk).length ≤ 1000000 := fun kk=>by
  unfold fu
  exact Nat.le_trans (List.length_filter_le _ _) (by omega)
 have hkl : ∀ k ∈ K,k.length ≤ 1000000 := fun k hkm=>by
  rw [← hK] at hkm
  rcases (qu key l ks0 k).1 hkm with h | ⟨x,_,rfl⟩
  ·rw [← hks] at h
   split at h
   ·simp at h; subst h; simp
   ·simp at h
  ·rw [← hkey]; simpa using he
 rw [rMa (xs := List.range K.length) (s := []) (fun j=>(K.take j).map fun k=>k ++ q.aggregates.map fun a=>aggR r cols a (fu key l k)) rfl (fun j n hj=>by
  obtain ⟨hjl,hjn⟩ := zg.1 hj
  simp at hjl
  rw [gN hjl,bPs]
  have hg : (K.map (fu key l))[j]? = some (fu key l K[j]) := by rw [List.getElem?_map,ze hjl]; rfl
  rw [rMa (xs := q.aggregates) (s := K[j]) (fun i=>K[j] ++ (q.aggregates.take i).map fun a=>aggR r cols a (fu key l K[j])) (by simp) (fun i a hi=>by
   have hil := (zg.1 hi).1
   have hkj := hkl K[j] (List.getElem_mem hjl)
   rw [mj hg,bPs,aggR_eq r cols a _ (hgl _),bPs,bV (by decide) (by simp; omega),bPs,List.take_add_one,hi]
   simp),bPs,bX,bV (by decide) (by simp; omega),bPs,List.take_length]
  congr 2
  rw [List.take_add_one,ze hjl,List.map_append]
  rfl),bPs,bX]
 simp
def ln (x : LVal) : LVal := if eR x = true then x else .nul
theorem typed_args {cols vars : List LCol} {e : LExpr} (h : (dt cols vars e).2.2 = 0) : e.kind = 5 ∧ (∀ a ∈ e.args,(dt cols vars a).2.2 = 0) ∨ e.kind ≠ 5 ∧ e.args = [] := by
 rw [rx] at h
 by_cases c0 : e.kind ≠ 5 ∧ 0 < e.args.length
 ·rw [zp c0] at h; simp [gv] at h
 rw [zy c0] at h
 by_cases c5 : e.kind = 5
 ·refine .inl ⟨c5,fun a ha=>?_⟩
  simp only [c5] at h
  have h' : (jH e.name e.index e.value (e.args.map (dt cols vars))).2.2 = 0 := by simpa using h
  unfold jH at h'
  split at h'
  ·simp [gv] at h'
  ·split at h'
   ·rename_i r hf
    have := List.find?_some hf
    simp [gv] at h'
    simp [h'] at this
   ·rename_i hf
    have := List.find?_eq_none.1 hf (dt cols vars a) (List.mem_map.2 ⟨a,ha,rfl⟩)
    simpa using this
 ·refine .inr ⟨c5,?_⟩
  rw [← List.length_eq_zero_iff]
  omega
theorem eval_clean {cols vars : List LCol} {v : LEnv} : ∀ e : LExpr,(dt cols vars e).2.2 = 0 → (∀ i k,(i,k) ∈ cK e → ∀ x,v.params[i]? = some x → eR x = true) → bP v e = bP { v with params := v.params.map ln } e := by
 refine LExpr.ind fun e ih h hp=>?_
 have hsub : ∀ a ∈ e.args,∀ i k,(i,k) ∈ cK a → (i,k) ∈ cK e := fun a ha i k hm=>by
  rw [nc]
  exact List.mem_append_right _ (List.mem_flatten.2 ⟨_,List.mem_map.2 ⟨a,ha,rfl⟩,hm⟩)
 rw [gT,gT { v with params := v.params.map ln }]
 by_cases k1 : (e.kind == 1) = true
 ·simp [k1]
 by_cases k2 : (e.kind == 2) = true
 ·simp [k1,k2]
 by_cases k3 : (e.kind == 3) = true
 ·rw [zy k1,zy k2,zp k3,zy k1,zy k2,zp k3]
  have hk3 : e.kind = 3 := by simpa using k3
  have hta := typed_args h
  have hr : ¬ (e.index < 0 ∨ e.index ≥ 8) := by
   intro hbad
   rw [rx,zy (by intro hc; rcases hta with ⟨a,_⟩ | ⟨_,b⟩; exact hc.1 a; rw [b] at hc; simp at hc),zy k1,zp k3,zp (by rcases hbad with hb | hb; exact .inl hb; exact .inr (.inl hb))] at h
   simp [gv] at h
  have hm : (e.index.toNat,e.value.kind) ∈ cK e := by
   rw [nc]
   refine List.mem_append_left _ ?_
   unfold ja
   rw [zp ⟨hk3,by omega,by omega⟩]
   simp
  have hget : ∀ i : Nat,i < v.params.length → i = e.index.toNat → (v.params.map ln).getD i .nul = v.params.getD i .nul := fun i hi he=>by
   rw [List.getD_eq_getElem?_getD,List.getD_eq_getElem?_getD,List.getElem?_map,ze hi]
   simp only [Option.map_some,Option.getD_some]
   unfold ln
   rw [zp (hp _ _ hm v.params[i] (by rw [← he]; exact ze hi))]
  by_cases hlt : e.index.toNat < v.params.length
  ·show _ = if 0 ≤ e.index ∧ e.index < ((v.params.map ln).length : Nat) ∧ ((v.params.map ln).getD e.index.toNat .nul).kind = e.value.kind then (v.params.map ln).getD e.index.toNat .nul else .nul
   rw [hget _ hlt rfl,zl]
  ·have : ¬ (0 ≤ e.index ∧ e.index < (v.params.length : Int)) := by omega
   show _ = if 0 ≤ e.index ∧ e.index < ((v.params.map ln).length : Nat) ∧ ((v.params.map ln).getD e.index.toNat .nul).kind = e.value.kind then (v.params.map ln).getD e.index.toNat .nul else .nul
   rw [zl,zy (fun hc=>this ⟨hc.1,hc.2.1⟩),zy (fun hc=>this ⟨hc.1,hc.2.1⟩)]
 by_cases k4 : (e.kind == 4) = true
 ·simp [k1,k2,k3,k4]
 by_cases k5 : (e.kind == 5) = true
 ·rw [zy k1,zy k2,zy k3,zy k4,zp k5,zy k1,zy k2,zy k3,zy k4,zp k5]
  rcases typed_args h with ⟨_,ha⟩ | ⟨hn,_⟩
  ·congr 1
   apply List.map_congr_left
   intro a hm
   exact ih a hm (ha a hm) fun i k hik=>hp i k (hsub a hm i k hik)
  ·exact absurd (by simpa using k5) hn
 ·simp [k1,k2,k3,k4,k5]
structure RunOk (r : LRun) : Prop where
 vars : r.vars = []
 names : r.names = []
 vals : r.vals = []
 inst : InstOk r.s r.st
def nL (r : LRun) (l : List (Nat × Int)) : Prop := ∀ i k,(i,k) ∈ l → ∀ x,r.args[i]? = some x → eR x = true
theorem sy {r : LRun} (hr : RunOk r) {cols : List LCol} {row : Rq} (hrow : dL cols row) {e : LExpr} (ht : (cV cols r.vars e).2.2 = 0) (hp : nL r (cK e)) :
  fK (bP (aW r cols row) e) (cV cols r.vars e).1 (cV cols r.vars e).2.1 := by
 have hk : (dt cols r.vars e).2.2 = 0 := by
  unfold cV at ht
  split at ht
  ·simp [gv] at ht
  ·exact ht
 rw [eval_clean (cols := cols) (vars := r.vars) e hk (fun i k hm x hx=>hp i k hm x hx)]
 refine type_sound (cols := cols) (vars := r.vars) ⟨rfl,hrow.1,hrow.2,?_,?_,?_,?_⟩ e ht
 ·intro x hx
  obtain ⟨y,_,rfl⟩ := List.mem_map.1 hx
  unfold ln
  split
  ·assumption
  ·rfl
 ·show r.names = _; rw [hr.names,hr.vars]; rfl
 ·show r.vals.length = _; rw [hr.vals,hr.vars]; rfl
 ·intro i c x hc; rw [hr.vars] at hc; simp at hc
theorem mh {c : LChecker} {q : LQuery} (h : (fq c q).2 = 0) : lT q = true ∧ (∀ x ∈ q.inputs,(fq c x).2 = 0) ∧ (ie c q (q.inputs.map fun x=>(fq c x).1)).2 = 0 ∧ (fq c q).1 = (ie c q (q.inputs.map fun x=>(fq c x).1)).1 ∧ ((fq c q).1.map LCol.name).Nodup := by
 rw [colsQ_eq] at h ⊢
 unfold pN at h ⊢
 by_cases h1 : lT q = false
 ·simp [h1] at h
 rw [zy h1] at h ⊢
 by_cases h2 : (dQ (q.inputs.map (fq c))).2 = 0
 ·obtain ⟨a,b⟩ := rm h2
  have e : (q.inputs.map (fq c)).map (·.1) = q.inputs.map fun x=>(fq c x).1 := by rw [List.map_map]; rfl
  rw [e] at b
  rw [b] at h ⊢
  rw [zy (by simpa using h2)] at h ⊢
  by_cases h3 : (ie c q (q.inputs.map fun x=>(fq c x).1)).2 = 0
  ·rw [zy (by simpa using h3)] at h ⊢
   by_cases h4 : 20 < (ie c q (q.inputs.map fun x=>(fq c x).1)).1.length
   ·rw [zp h4] at h; simp at h
   ·rw [zy h4] at h ⊢
    by_cases h5 : ((ie c q (q.inputs.map fun x=>(fq c x).1)).1.map LCol.name).Nodup
    ·rw [zp h5] at h ⊢
     exact ⟨by simpa using h1,fun x hx=>a _ (List.mem_map.2 ⟨x,hx,rfl⟩),h3,rfl,h5⟩
    ·rw [zy h5] at h; simp at h
  ·rw [zp h3] at h; exact absurd h h3
 ·rw [zp h2] at h; exact absurd h h2
theorem nF (vars cols : List LCol) : ∀ (es : List LExpr) (ns : List (List UInt8)),es.length = ns.length → (cy vars cols es ns).2 = 0 →
  (cy vars cols es ns).1.length = es.length ∧ ∀ (i : Nat) (e : LExpr),es[i]? = some e → (cV cols vars e).2.2 = 0 ∧ ∃ c,(cy vars cols es ns).1[i]? = some c ∧ c.kind = (cV cols vars e).1 ∧ c.nullable = (cV cols vars e).2.1
 | [],ns,_,_=>by simp [cy]
 | e :: es,[],h,_=>by simp at h
 | e :: es,n :: ns,hl,h=>by
  simp only [cy] at h ⊢
  by_cases h1 : dz n = false
  ·simp [h1] at h
  rw [zy h1] at h ⊢
  by_cases h2 : (cV cols vars e).2.2 = 0
  ·rw [zy (by simpa using h2)] at h ⊢
   by_cases h3 : (cV cols vars e).1 = 0
   ·rw [zp h3] at h; simp at h
   ·rw [zy h3] at h ⊢
    by_cases h4 : (cy vars cols es ns).2 = 0
    ·rw [zy (by simpa using h4)]
     obtain ⟨a,b⟩ := nF vars cols es ns (by simpa using hl) h4
     refine ⟨by simp [a],fun i e' hi=>?_⟩
     cases i with
     | zero=>simp at hi; subst hi; exact ⟨h2,_,rfl,rfl,rfl⟩
     | succ i=>simpa using b i e' (by simpa using hi)
    ·rw [zp h4] at h; exact absurd h h4
  ·rw [zp h2] at h; exact absurd h h2
theorem rU (vars cols : List LCol) : ∀ l : List LAggregateCall,(dW vars cols l).2 = 0 →
  (dW vars cols l).1.length = l.length ∧ ∀ (i : Nat) (a : LAggregateCall),l[i]? = some a → (oC vars cols a).2 = 0 ∧ ∃ c,(dW vars cols l).1[i]? = some c ∧ c.kind = (oC vars cols a).1 ∧ c.nullable = !(a.function == ip)
 | [],_=>by simp [dW]
 | a :: l,h=>by
  simp only [dW] at h ⊢
  by_cases h1 : (oC vars cols a).2 = 0
  ·rw [zy (by simpa using h1)] at h ⊢
   by_cases h2 : (dW vars cols l).2 = 0
   ·rw [zy (by simpa using h2)]
    obtain ⟨x,y⟩ := rU vars cols l h2
    refine ⟨by simp [x],fun i b hi=>?_⟩
    cases i with
    | zero=>simp at hi; subst hi; exact ⟨h1,_,rfl,rfl,rfl⟩
    | succ i=>simpa using y i b (by simpa using hi)
   ·rw [zp h2] at h; exact absurd h h2
  ·rw [zp h1] at h; exact absurd h h1
theorem dL.append {a b : List LCol} {x y : Rq} (h : dL a x) (h' : dL b y) : dL (a ++ b) (x ++ y) := by
 refine ⟨by simp [h.1,h'.1],fun i c v hc hv=>?_⟩
 by_cases hi : i < a.length
 ·rw [List.getElem?_append_left hi] at hc
  rw [List.getElem?_append_left (by rw [h.1]; exact hi)] at hv
  exact h.2 i c v hc hv
 ·rw [List.getElem?_append_right (by omega)] at hc
  rw [List.getElem?_append_right (by rw [h.1]; omega),h.1] at hv
  exact h'.2 _ c v hc hv
theorem dL.map {cols : List LCol} {es : List LExpr} {f : LExpr → LVal} (hl : cols.length = es.length) (h : ∀ (i : Nat) (e : LExpr) (c : LCol),es[i]? = some e → cols[i]? = some c → fK (f e) c.kind c.nullable) : dL cols (es.map f) := by
 refine ⟨by simp [hl],fun i c x hc hx=>?_⟩
 rw [List.getElem?_map,Option.map_eq_some_iff] at hx
 obtain ⟨e,he,rfl⟩ := hx
 exact h i e c he hc
theorem fK.weak {x : LVal} {k : Int} {nl nl' : Bool} (h : fK x k nl) (hn : nl = true → nl' = true) : fK x k nl' := ⟨h.1,h.2.1,fun h0=>hn (h.2.2 h0)⟩
theorem int_fits (n : Int) : fK (fZ n) 1 true := by
 unfold fZ
 by_cases h1 : n < -1000000000000
 ·rw [zt h1]; exact iv rfl
 ·rw [zf h1]
  by_cases h2 : n > 1000000000000
  ·rw [zt h2]; exact iv rfl
  ·rw [zf h2]
   refine ⟨?_,.inl rfl,fun h=>by simp at h⟩
   unfold eR
   simp
   omega
theorem int_small {n : Int} (h0 : 0 ≤ n) (h1 : n ≤ 1000000000000) (nl : Bool) : fK (fZ n) 1 nl := by
 have h := int_fits n
 refine ⟨h.1,h.2.1,fun hk=>?_⟩
 unfold fZ at hk
 rw [zf (show ¬ n < -1000000000000 from by omega),zf (show ¬ n > 1000000000000 from by omega)] at hk
 simp at hk
theorem uf (op : List UInt8) : ∀ (l : Rq) (s : Int × LVal),(l.foldl (lE op) s).2 = s.2 ∨ (l.foldl (lE op) s).2 ∈ l
 | [],s=>.inl rfl
 | v :: l,s=>by
  rw [List.foldl_cons]
  rcases uf op l (lE op s v) with h | h
  ·rw [h]
   unfold lE
   simp only
   split
   ·exact .inr (by simp)
   ·exact .inl rfl
  ·exact .inr (by simp [h])
theorem agg_fits {r : LRun} (hr : RunOk r) {cols : List LCol} {a : LAggregateCall} {l : Rows} (ha : (oC r.vars cols a).2 = 0) (hl : ∀ row ∈ l,dL cols row) (hb : l.length ≤ 1000000) (hp : nL r ((a.args.map cK).flatten)) :
  fK (aggR r cols a l) (oC r.vars cols a).1 (!(a.function == ip)) := by
 unfold oC at ha ⊢
 unfold aggR
 by_cases h1 : dz a.name = false ∨ ¬ a.function ∈ [ip,sSum,sMin,sMax] ∨ 1 < a.args.length ∨ (a.args.length < 1 ∧ a.function ≠ ip)
 ·rw [zp h1] at ha; simp at ha
 rw [zy h1] at ha ⊢
 have hfn : a.function ∈ [ip,sSum,sMin,sMax] := Decidable.byContradiction fun h=>h1 (.inr (.inl h))
 cases hargs : a.args with
 | nil=>exact int_small (by omega) (by omega) _
 | cons e es =>
  rw [hargs] at ha hp
  simp only at ha ⊢
  have hpe : nL r (cK e) := fun i k hm=>hp i k (by simp [hm])
  by_cases h2 : (cV cols r.vars e).2.2 = 0
  ·rw [zy (by simpa using h2)] at ha ⊢
   by_cases h3 : (cV cols r.vars e).1 = 0 ∨ (a.function = sSum ∧ (cV cols r.vars e).1 ≠ 1)
   ·rw [zp h3] at ha; simp at ha
   rw [zy h3]
   generalize hv : ((l.map fun x=>bP (aW r cols x) e).filter fun v=>v.kind != 0) = vals
   have hvl : vals.length ≤ 1000000 := by rw [← hv]; exact Nat.le_trans (List.length_filter_le _ _) (by simpa using hb)
   have hvf : ∀ v ∈ vals,fK v (cV cols r.vars e).1 true := fun v hm=>by
    rw [← hv] at hm
    have := (List.mem_filter.1 hm).1
    obtain ⟨x,hx,rfl⟩ := List.mem_map.1 this
    exact (sy hr (hl x hx) h2 hpe).weak fun _=>rfl
   unfold rJ
   by_cases h4 : a.function = ip
   ·rw [zp h4,zp h4]
    exact int_small (by omega) (by omega) _
   ·rw [zy h4,zy h4]
    have hc : (a.function == ip) = false := by simpa using h4
    rw [hc]
    cases vals with
    | nil=>exact iv rfl
    | cons v vs =>
     simp only
     by_cases h5 : a.function = sSum
     ·rw [zp h5]
      have : (cV cols r.vars e).1 = 1 := Decidable.byContradiction fun h=>h3 (.inr ⟨h5,h⟩)
      rw [this]
      exact int_fits _
     ·rw [zy h5]
      rcases uf a.function (v :: vs) (0,v) with h | h
      ·rw [h]; exact hvf v (by simp)
      ·exact hvf _ h
  ·rw [zp h2] at ha; exact absurd ha h2
theorem capI_eq {n : Int} (h : nu n ≤ 20000) : nu n = n := by
 unfold nu at h ⊢
 by_cases hc : 20001 < n
 ·rw [zp hc] at h; omega
 ·rw [zy hc]
theorem dO {q : LQuery} (h : (bv q).2 ≤ 20000) : (bv q).1 ≤ (bv q).2 ∧ ∀ x ∈ q.inputs,(bv x).2 ≤ 20000 := by
 have key : ∀ (l : List (Int × Int)) (j : Nat) (s : Int × Int),s.2 ≤ (ew q.kind j l s).2 ∧ ∀ x ∈ l,x.2 ≤ (ew q.kind j l s).2 := by
  intro l
  induction l with
  | nil=>intro j s; exact ⟨Int.le_refl _,by simp⟩
  | cons y l ih =>
   intro j s
   obtain ⟨h1,h2⟩ := ih (j + 1) (iO q.kind s j y)
   rw [ew]
   have h3 : s.2 ≤ (iO q.kind s j y).2 := iD _ _
   have h4 : y.2 ≤ (iO q.kind s j y).2 := lJ _ _
   refine ⟨by omega,fun x hx=>?_⟩
   rcases List.mem_cons.1 hx with rfl | hx
   ·omega
   ·exact h2 x hx
 have hk := key (q.inputs.map bv) 0 (0,0)
 rw [np] at h ⊢
 by_cases h1 : q.kind = 1
 ·rw [zp h1] at h ⊢
  refine ⟨lJ _ _,fun x hx=>?_⟩
  have := hk.2 (bv x) (List.mem_map.2 ⟨x,hx,rfl⟩)
  have := iD (ew q.kind 0 (q.inputs.map bv) (0,0)).2 24
  simp only at h
  omega
 ·rw [zy h1] at h ⊢
  refine ⟨lJ _ _,fun x hx=>?_⟩
  have := hk.2 (bv x) (List.mem_map.2 ⟨x,hx,rfl⟩)
  have := iD (ew q.kind 0 (q.inputs.map bv) (0,0)).2 (ew q.kind 0 (q.inputs.map bv) (0,0)).1
  simp only at h
  omega
theorem most_scan {q : LQuery} (h : q.kind = 1) : (bv q).1 = 24 := by rw [np,zp h]
theorem jW {q x : LQuery} (h : (bv q).2 ≤ 20000) (hk : q.kind ≠ 1) (hi : q.inputs = [x]) : (bv q).1 = (bv x).1 := by
 have hm := dO h
 have hx := hm.2 x (by rw [hi]; simp)
 have hx1 := (dO hx).1
 rw [np,zy hk,hi]
 show nu (bv x).1 = _
 unfold nu
 rw [zy (by omega)]
theorem jT {q x y : LQuery} (h : (bv q).2 ≤ 20000) (hk : q.kind ≠ 1) (hi : q.inputs = [x,y]) : (bv q).1 = (if q.kind = 6 then (bv x).1 + (bv y).1 else if q.kind = 4 ∨ q.kind = 5 then (bv x).1 * cP 1 (bv y).1 else (bv x).1) := by
 have hm := dO h
 have hx := hm.2 x (by rw [hi]; simp)
 have hx1 := (dO hx).1
 have h1 := hm.1
 have hc : nu (bv x).1 = (bv x).1 := by unfold nu; rw [zy (by omega)]
 have e : (bv q).1 = nu (if q.kind = 6 then (bv x).1 + (bv y).1 else if q.kind = 4 ∨ q.kind = 5 then (bv x).1 * cP 1 (bv y).1 else (bv x).1) := by
  rw [np,zy hk,hi]
  show (iO q.kind (iO q.kind (0,0) 0 (bv x)) 1 (bv y)).1 = _
  unfold iO
  simp [hc]
 rw [e]
 exact capI_eq (by rw [← e]; omega)
def aO (r : LRun) (q : LQuery) : List LCol := (fq ⟨r.s,r.vars⟩ q).1
theorem lA {r : LRun} {q : LQuery} (h : SmallQ q) : gG r q = some (aO r q) := by
 unfold gG
 rw [cols_ok _ q h]
 rfl
def cU (r : LRun) (cols : List LCol) (q : LQuery) (x : Rq) : Bool := dD (bP (aW r cols x) (e0Q q))
def mD (q : LQuery) (l : Rows) : Rows := (l.take (q.offset.toNat + q.count.toNat)).drop q.offset.toNat
def cq (r : LRun) (q : LQuery) (cs : List (List LCol)) (ins : List Rows) : Rows :=
 if q.kind = 1 then (match r.st.find? fun x=>x.table == q.table with | some x=>x.rows | none=>[])
 else if q.kind = 4 ∨ q.kind = 5 then dF (cU r (cs.getD 0 [] ++ cs.getD 1 []) q) (q.kind == 5) (List.replicate (cs.getD 1 []).length .nul) (ins.getD 0 []) (ins.getD 1 [])
 else if q.kind = 6 then ins.getD 0 [] ++ ins.getD 1 []
 else if q.kind = 7 then kK (ins.getD 0 []) (ins.getD 1 [])
 else if q.kind = 2 then (ins.getD 0 []).filter (cU r (cs.getD 0 []) q)
 else if q.kind = 3 then (ins.getD 0 []).map fun x=>q.exprs.map fun e=>bP (aW r (cs.getD 0 []) x) e
 else if q.kind = 8 then kt r (cs.getD 0 []) q (ins.getD 0 [])
 else if q.kind = 9 then (fQ r q (cs.getD 0 []) (ins.getD 0 [])).getD []
 else mD q (ins.getD 0 [])
def aJ (r : LRun) (q : LQuery) : Rows := cq r q (q.inputs.map (aO r)) (q.inputs.attach.map fun x=>aJ r x.1)
termination_by SizeOf.sizeOf q
decreasing_by exact LQuery.inputs_lt x.2
theorem cD (r : LRun) (q : LQuery) : aJ r q = cq r q (q.inputs.map (aO r)) (q.inputs.map (aJ r)) := by
 rw [aJ,List.attach_map_val (f := aJ r)]
theorem find_st {s : LSchema} {st : List LRelation} (h : InstOk s st) (name : List UInt8) : ∀ t,s.tables.find? (fun t=>t.name == name) = some t → ∃ x,st.find? (fun x=>x.table == name) = some x ∧ x.rows.length ≤ 24 ∧ ∀ row ∈ x.rows,dL t.columns row := by
 obtain ⟨hl,ho,ht⟩ := h
 intro t hf
 generalize s.tables = ts at *
 induction ts generalizing st with
 | nil=>simp at hf
 | cons a ts ih =>
  cases st with
  | nil=>simp at hl
  | cons r st =>
   obtain ⟨h1,h2,h3⟩ := ht 0 r a rfl rfl
   rw [List.find?_cons] at hf ⊢
   rw [h1]
   cases hn : a.name == name with
   | true =>
    rw [hn] at hf
    simp at hf
    subst hf
    exact ⟨r,rfl,h2,h3⟩
   | false =>
    rw [hn] at hf
    simp only at hf ⊢
    exact ih (by simpa using hl) (fun i r' t' a b=>ho (i + 1) r' t' (by simpa using a) (by simpa using b)) (fun i r' t' a b=>ht (i + 1) r' t' (by simpa using a) (by simpa using b)) hf
structure RowsOk (r : LRun) (q : LQuery) : Prop where
 pos : 1 ≤ (bv q).1
 len : ((aJ r q).length : Int) ≤ (bv q).1
 fits : ∀ row ∈ aJ r q,dL (aO r q) row
structure QOk (r : LRun) (q : LQuery) : Prop where
 small : SmallQ q
 cols : (fq ⟨r.s,r.vars⟩ q).2 = 0
 most : (bv q).2 ≤ 20000
 params : nL r (iL q)
theorem params_sub {q x : LQuery} (h : x ∈ q.inputs) : ∀ p ∈ iL x,p ∈ iL q := by
 intro p hp
 obtain ⟨l,hl,hp⟩ := List.mem_flatten.1 hp
 obtain ⟨y,hy,rfl⟩ := List.mem_map.1 hl
 exact List.mem_flatten.2 ⟨_,List.mem_map.2 ⟨y,qt h hy,rfl⟩,hp⟩
theorem QOk.sub {r : LRun} {q x : LQuery} (h : QOk r q) (hx : x ∈ q.inputs) : QOk r x :=
 ⟨h.small.sub hx,(mh h.cols).2.1 x hx,(dO h.most).2 x hx,fun i k hm=>h.params i k (params_sub hx _ hm)⟩
theorem QOk.expr {r : LRun} {q : LQuery} (h : QOk r q) {e : LExpr} (he : e ∈ q.exprs) : nL r (cK e) := fun i k hm=>h.params i k (List.mem_flatten.2 ⟨ji q,List.mem_map.2 ⟨q,mN q,rfl⟩,List.mem_append_left _ (List.mem_flatten.2 ⟨_,List.mem_map.2 ⟨e,he,rfl⟩,hm⟩)⟩)
theorem QOk.agg {r : LRun} {q : LQuery} (h : QOk r q) {a : LAggregateCall} (ha : a ∈ q.aggregates) : nL r ((a.args.map cK).flatten) := fun i k hm=>h.params i k (List.mem_flatten.2 ⟨ji q,List.mem_map.2 ⟨q,mN q,rfl⟩,List.mem_append_right _ (List.mem_flatten.2 ⟨_,List.mem_map.2 ⟨a,ha,rfl⟩,hm⟩)⟩)
theorem e0_mem {q : LQuery} (h : q.exprs.length = 1) : e0Q q ∈ q.exprs := by
 unfold e0Q
 cases hq : q.exprs with
 | nil=>rw [hq] at h; simp at h
 | cons a l=>simp
theorem joinR_mem {f : Rq → Bool} {left : Bool} {pad row : Rq} {a b : Rows} (h : row ∈ dF f left pad a b) : ∃ x ∈ a,(∃ y ∈ b,row = x ++ y) ∨ (left = true ∧ row = x ++ pad) := by
 unfold dF at h
 obtain ⟨l,hl,hr⟩ := List.mem_flatten.1 h
 obtain ⟨x,hx,rfl⟩ := List.mem_map.1 hl
 refine ⟨x,hx,?_⟩
 unfold mF at hr
 split at hr
 ·rename_i hc; simp at hr; exact .inr ⟨hc.1,hr⟩
 ·unfold eT at hr
  obtain ⟨y,hy,rfl⟩ := List.mem_map.1 (List.mem_filter.1 hr).1
  exact .inl ⟨y,hy,rfl⟩
theorem two {q : LQuery} (h : q.inputs.length = 2) : ∃ x y,q.inputs = [x,y] := by
 match hq : q.inputs,h with
 | [x,y],_=>exact ⟨x,y,rfl⟩
theorem one {q : LQuery} (h : q.inputs.length = 1) : ∃ x,q.inputs = [x] := by
 match hq : q.inputs,h with
 | [x],_=>exact ⟨x,rfl⟩
theorem oj {r : LRun} {q : LQuery} (h : QOk r q) : (ie ⟨r.s,r.vars⟩ q (q.inputs.map (aO r))).2 = 0 ∧ aO r q = (ie ⟨r.s,r.vars⟩ q (q.inputs.map (aO r))).1 := by
 obtain ⟨_,_,h3,h4,_⟩ := mh h.cols
 exact ⟨h3,h4⟩
theorem set_fits {kind : Int} {a b : List LCol} {row : Rq} (h : (kU kind a b).2 = 0) (hr : dL a row ∨ (kind = 6 ∧ dL b row)) : dL (kU kind a b).1 row := by
 unfold kU at h ⊢
 by_cases hc : a.length = b.length ∧ a.map LCol.kind = b.map LCol.kind
 ·rw [zp hc]
  refine ⟨?_,fun i c x hci hx=>?_⟩
  ·rcases hr with hr | ⟨_,hr⟩
   ·simp [hr.1,hc.1]
   ·simp [hr.1,hc.1]
  ·rw [List.getElem?_zipWith] at hci
   cases ha : a[i]? with
   | none=>rw [ha] at hci; simp at hci
   | some u =>
    cases hb : b[i]? with
    | none=>rw [ha,hb] at hci; simp at hci
    | some v =>
     rw [ha,hb] at hci
     simp only [zo] at hci
     subst hci
     have hk : u.kind = v.kind := by
      have := congrArg (fun l=>l[i]?) hc.2
      simpa [ha,hb] using this
     rcases hr with hr | ⟨h6,hr⟩
     ·exact (hr.2 i u x ha hx).weak fun hn=>by simp [hn]
     ·have := hr.2 i v x hb hx
      rw [← hk] at this
      exact this.weak fun hn=>by simp [hn,h6]
 ·rw [zy hc] at h; simp at h
theorem join_fits {a b : List LCol} {left : Bool} {x y : Rq} (hx : dL a x) (hy : dL b y) : dL (iQ a b left) (x ++ y) := by
 unfold iQ
 refine hx.append ⟨by simp [hy.1],fun i c v hc hv=>?_⟩
 rw [List.getElem?_map,Option.map_eq_some_iff] at hc
 obtain ⟨d,hd,rfl⟩ := hc
 exact (hy.2 i d v hd hv).weak fun hn=>by simp [hn]
theorem pad_fits {a b : List LCol} {x : Rq} (hx : dL a x) : dL (iQ a b true) (x ++ List.replicate b.length .nul) := by
 unfold iQ
 refine hx.append ⟨by simp,fun i c v hc hv=>?_⟩
 rw [List.getElem?_map,Option.map_eq_some_iff] at hc
 obtain ⟨d,hd,rfl⟩ := hc
 rw [List.getElem?_replicate] at hv
 split at hv
 ·cases hv; exact iv (by simp)
 ·cases hv
theorem lq {r : LRun} (hr : RunOk r) : ∀ q : LQuery,QOk r q → RowsOk r q := by
 refine LQuery.ind fun q ih h=>?_
 have hs := pz (mh h.cols).1
 obtain ⟨ho,hcol⟩ := oj h
 have hself := h.small.self
 have hm := (dO h.most).1
 have kk : q.kind = 1 ∨ q.kind = 2 ∨ q.kind = 3 ∨ q.kind = 4 ∨ q.kind = 5 ∨ q.kind = 6 ∨ q.kind = 7 ∨ q.kind = 8 ∨ q.kind = 9 ∨ q.kind = 10 := by have := hs.kind; omega
 have hall : ∀ x ∈ q.inputs,RowsOk r x := fun x hx=>ih x hx (h.sub hx)
 rcases kk with k | k | k | k | k | k | k | k | k | k
 ·-- scan
  have hmq := most_scan k
  unfold ie at ho hcol
  rw [zp k] at ho hcol
  cases hf : r.s.tables.find? (fun t=>t.name == q.table) with
  | none=>rw [hf] at ho; simp at ho
  | some t =>
   rw [hf] at hcol
   obtain ⟨x,hx,hl,hfit⟩ := find_st hr.inst q.table t hf
   have e : aJ r q = x.rows := by rw [cD]; unfold cq; rw [zp k,hx]
   exact ⟨by omega,by rw [e]; omega,by rw [e,hcol]; exact hfit⟩
 all_goals have har := hs.arity
 all_goals rw [k] at har
 all_goals simp only [oB] at har
 ·-- filter
  obtain ⟨x,hi⟩ := one (q := q) (by simpa using har)
  have hx := hall x (by rw [hi]; simp)
  have hmq := jW h.most (by omega) hi
  rw [hi] at hcol ho
  unfold ie at ho hcol
  rw [zy (by omega),zp k] at ho hcol
  have e : aJ r q = (aJ r x).filter (cU r (aO r x) q) := by rw [cD,hi]; unfold cq; rw [zy (by omega),zy (by omega),zy (by omega),zy (by omega),zp k]; rfl
  have hcx : aO r q = aO r x := hcol
  have := List.length_filter_le (cU r (aO r x) q) (aJ r x)
  refine ⟨by rw [hmq]; exact hx.pos,by rw [hmq,e]; have := hx.len; omega,fun row hrow=>?_⟩
  rw [e] at hrow
  rw [hcx]
  exact hx.fits row (List.mem_filter.1 hrow).1
 ·-- project
  obtain ⟨x,hi⟩ := one (q := q) (by simpa using har)
  have hx := hall x (by rw [hi]; simp)
  have hmq := jW h.most (by omega) hi
  rw [hi] at hcol ho
  unfold ie at ho hcol
  rw [zy (by omega),zy (by omega),zy (by omega),zy (by omega),zp (.inl k)] at ho hcol
  have e : aJ r q = (aJ r x).map fun y=>q.exprs.map fun e=>bP (aW r (aO r x) y) e := by rw [cD,hi]; unfold cq; rw [zy (by omega),zy (by omega),zy (by omega),zy (by omega),zy (by omega),zp k]; rfl
  have hag : q.aggregates = [] := hs.aggs (by omega)
  change (mB r.vars (aO r x) q).2 = 0 at ho
  change aO r q = (mB r.vars (aO r x) q).1 at hcol
  unfold mB at ho hcol
  by_cases hn : (cy r.vars (aO r x) q.exprs q.names).2 = 0
  ·rw [zy (by simpa using hn),hag] at hcol
   simp only [dW,ne_eq,not_true_eq_false,if_false,List.append_nil] at hcol
   obtain ⟨hl,hinv⟩ := nF r.vars (aO r x) q.exprs q.names (hs.named (.inl k)) hn
   refine ⟨by rw [hmq]; exact hx.pos,by rw [hmq,e]; simpa using hx.len,fun row hrow=>?_⟩
   rw [e] at hrow
   obtain ⟨y,hy,rfl⟩ := List.mem_map.1 hrow
   rw [hcol]
   refine dL.map hl fun i e' c he hc=>?_
   obtain ⟨ht,d,hd,hk,hnl⟩ := hinv i e' he
   rw [hc] at hd
   cases hd
   rw [hk,hnl]
   exact sy hr (hx.fits y hy) ht (h.expr (eX he))
  ·rw [zp hn] at ho; exact absurd ho hn
 ·-- inner join
  obtain ⟨x,y,hi⟩ := two (q := q) (by simpa using har)
  have hx := hall x (by rw [hi]; simp)
  have hy := hall y (by rw [hi]; simp)
  have hmq := jT h.most (by omega) hi
  rw [zy (by omega),zp (.inl k)] at hmq
  rw [hi] at hcol ho
  unfold ie at ho hcol
  rw [zy (by omega),zy (by omega),zp (.inl k)] at ho hcol
  have e : aJ r q = dF (cU r (aO r x ++ aO r y) q) (q.kind == 5) (List.replicate (aO r y).length .nul) (aJ r x) (aJ r y) := by rw [cD,hi]; unfold cq; rw [zy (by omega),zp (.inl k)]; rfl
  have hcx : aO r q = iQ (aO r x) (aO r y) (q.kind == 5) := hcol
  have hb := qn (cU r (aO r x ++ aO r y) q) (q.kind == 5) (List.replicate (aO r y).length .nul) (aJ r x) (aJ r y)
  have hxl := hx.len
  have hyl := hy.len
  have hpos := hx.pos
  have h1m : 1 ≤ cP 1 (bv y).1 ∧ ((max 1 (aJ r y).length : Nat) : Int) ≤ cP 1 (bv y).1 := ⟨iD _ _,by have := iD 1 (bv y).1; have := lJ 1 (bv y).1; omega⟩
  refine ⟨?_,?_,fun row hrow=>?_⟩
  ·rw [hmq]
   exact Int.le_trans hpos (by have := Int.mul_le_mul_of_nonneg_left h1m.1 (show 0 ≤ (bv x).1 by omega); omega)
  ·rw [e,hmq]
   have h2 : (((aJ r x).length * max 1 (aJ r y).length : Nat) : Int) ≤ (bv x).1 * cP 1 (bv y).1 := by
    rw [Int.natCast_mul]
    exact Int.mul_le_mul hxl h1m.2 (by omega) (by omega)
   omega
  ·rw [e] at hrow
   rw [hcx]
   obtain ⟨u,hu,⟨v,hv,rfl⟩ | ⟨hl,rfl⟩⟩ := joinR_mem hrow
   ·exact join_fits (hx.fits u hu) (hy.fits v hv)
   ·rw [hl]; exact pad_fits (hx.fits u hu)
 ·-- left join
  obtain ⟨x,y,hi⟩ := two (q := q) (by simpa using har)
  have hx := hall x (by rw [hi]; simp)
  have hy := hall y (by rw [hi]; simp)
  have hmq := jT h.most (by omega) hi
  rw [zy (by omega),zp (.inr k)] at hmq
  rw [hi] at hcol ho
  unfold ie at ho hcol
  rw [zy (by omega),zy (by omega),zp (.inr k)] at ho hcol
  have e : aJ r q = dF (cU r (aO r x ++ aO r y) q) (q.kind == 5) (List.replicate (aO r y).length .nul) (aJ r x) (aJ r y) := by rw [cD,hi]; unfold cq; rw [zy (by omega),zp (.inr k)]; rfl
  have hcx : aO r q = iQ (aO r x) (aO r y) (q.kind == 5) := hcol
  have hb := qn (cU r (aO r x ++ aO r y) q) (q.kind == 5) (List.replicate (aO r y).length .nul) (aJ r x) (aJ r y)
  have hxl := hx.len
  have hyl := hy.len
  have hpos := hx.pos
  have h1m : 1 ≤ cP 1 (bv y).1 ∧ ((max 1 (aJ r y).length : Nat) : Int) ≤ cP 1 (bv y).1 := ⟨iD _ _,by have := iD 1 (bv y).1; have := lJ 1 (bv y).1; omega⟩
  refine ⟨?_,?_,fun row hrow=>?_⟩
  ·rw [hmq]
   exact Int.le_trans hpos (by have := Int.mul_le_mul_of_nonneg_left h1m.1 (show 0 ≤ (bv x).1 by omega); omega)
  ·rw [e,hmq]
   have h2 : (((aJ r x).length * max 1 (aJ r y).length : Nat) : Int) ≤ (bv x).1 * cP 1 (bv y).1 := by
    rw [Int.natCast_mul]
    exact Int.mul_le_mul hxl h1m.2 (by omega) (by omega)
   omega
  ·rw [e] at hrow
   rw [hcx]
   obtain ⟨u,hu,⟨v,hv,rfl⟩ | ⟨hl,rfl⟩⟩ := joinR_mem hrow
   ·exact join_fits (hx.fits u hu) (hy.fits v hv)
   ·rw [hl]; exact pad_fits (hx.fits u hu)
 ·-- union
  obtain ⟨x,y,hi⟩ := two (q := q) (by simpa using har)
  have hx := hall x (by rw [hi]; simp)
  have hy := hall y (by rw [hi]; simp)
  have hmq := jT h.most (by omega) hi
  rw [zp k] at hmq
  rw [hi] at hcol ho
  unfold ie at ho hcol
  rw [zy (by omega),zy (by omega),zy (by omega),zp (.inl k)] at ho hcol
  have e : aJ r q = aJ r x ++ aJ r y := by rw [cD,hi]; unfold cq; rw [zy (by omega),zy (by omega),zp k]; rfl
  change (kU q.kind (aO r x) (aO r y)).2 = 0 at ho
  change aO r q = (kU q.kind (aO r x) (aO r y)).1 at hcol
  have := hx.len
  have := hy.len
  have := hx.pos
  have := hy.pos
  refine ⟨by omega,by rw [e,hmq]; simp; omega,fun row hrow=>?_⟩
  rw [e] at hrow
  rw [hcol]
  rcases List.mem_append.1 hrow with hrow | hrow
  ·exact set_fits ho (.inl (hx.fits row hrow))
  ·exact set_fits ho (.inr ⟨k,hy.fits row hrow⟩)
 ·-- difference
  obtain ⟨x,y,hi⟩ := two (q := q) (by simpa using har)
  have hx := hall x (by rw [hi]; simp)
  have hmq := jT h.most (by omega) hi
  rw [zy (by omega),zy (by omega)] at hmq
  rw [hi] at hcol ho
  unfold ie at ho hcol
  rw [zy (by omega),zy (by omega),zy (by omega),zp (.inr k)] at ho hcol
  have e : aJ r q = kK (aJ r x) (aJ r y) := by rw [cD,hi]; unfold cq; rw [zy (by omega),zy (by omega),zy (by omega),zp k]; rfl
  change (kU q.kind (aO r x) (aO r y)).2 = 0 at ho
  change aO r q = (kU q.kind (aO r x) (aO r y)).1 at hcol
  have hsub := qj (aJ r x) (aJ r y)
  have := hsub.length_le
  have := hx.len
  have := hx.pos
  refine ⟨by omega,by rw [e,hmq]; omega,fun row hrow=>?_⟩
  rw [e] at hrow
  rw [hcol]
  exact set_fits ho (.inl (hx.fits row (hsub.subset hrow)))
 ·-- aggregation
  obtain ⟨x,hi⟩ := one (q := q) (by simpa using har)
  have hx := hall x (by rw [hi]; simp)
  have hmq := jW h.most (by omega) hi
  rw [hi] at hcol ho
  unfold ie at ho hcol
  rw [zy (by omega),zy (by omega),zy (by omega),zy (by omega),zp (.inr k)] at ho hcol
  have e : aJ r q = kt r (aO r x) q (aJ r x) := by rw [cD,hi]; unfold cq; rw [zy (by omega),zy (by omega),zy (by omega),zy (by omega),zy (by omega),zy (by omega),zp k]; rfl
  change (mB r.vars (aO r x) q).2 = 0 at ho
  change aO r q = (mB r.vars (aO r x) q).1 at hcol
  have hxl := hx.len
  have hxp := hx.pos
  have hxm := (dO h.most).2 x (by rw [hi]; simp)
  have hxm1 := (dO hxm).1
  unfold mB at ho hcol
  by_cases hn : (cy r.vars (aO r x) q.exprs q.names).2 = 0
  ·rw [zy (by simpa using hn)] at hcol ho
   by_cases hg : (dW r.vars (aO r x) q.aggregates).2 = 0
   ·rw [zy (by simpa using hg)] at hcol
    obtain ⟨hl,hinv⟩ := nF r.vars (aO r x) q.exprs q.names (hs.named (.inr k)) hn
    obtain ⟨hl2,hinv2⟩ := rU r.vars (aO r x) q.aggregates hg
    have hkeys := oa (fun x_1=>q.exprs.map fun e=>bP (aW r (aO r x) x_1) e) (aJ r x) (if q.exprs = [] then [[]] else [])
    have hlen : ((kt r (aO r x) q (aJ r x)).length : Int) ≤ (bv x).1 := by
     unfold kt
     rw [zl]
     by_cases hee : q.exprs = []
     ·-- without keys there is one group
      have : ∀ (l ks : Rows),ks = [[]] → dU (fun x_1=>q.exprs.map fun e=>bP (aW r (aO r x) x_1) e) ks l = [[]] := by
       intro l
       induction l with
       | nil=>intro ks hk; simpa [dU] using hk
       | cons z l ih2 =>
        intro ks hk
        rw [dU]
        refine ih2 _ ?_
        rw [zp (by rw [hk,hee]; simp),hk]
      rw [this _ _ (by rw [zp hee])]
      simp
      omega
     ·rw [zy hee] at hkeys ⊢
      simp at hkeys
      omega
    refine ⟨by rw [hmq]; exact hxp,by rw [hmq,e]; exact hlen,fun row hrow=>?_⟩
    rw [e] at hrow
    rw [hcol]
    unfold kt at hrow
    obtain ⟨kk,hkk,rfl⟩ := List.mem_map.1 hrow
    refine dL.append ?_ ?_
    ·rcases (qu _ _ _ _).1 hkk with hk0 | ⟨y,hy,rfl⟩
     ·split at hk0
      ·rename_i hee
       simp at hk0
       subst hk0
       rw [hee] at hl ⊢
       exact ⟨by simpa using hl.symm,fun i c v hc hv=>by simp at hv⟩
      ·simp at hk0
     ·refine dL.map hl fun i e' c he hc=>?_
      obtain ⟨ht,d,hd,hk,hnl⟩ := hinv i e' he
      rw [hc] at hd
      cases hd
      rw [hk,hnl]
      exact sy hr (hx.fits y hy) ht (h.expr (eX he))
    ·refine ⟨by simp [hl2],fun i c v hc hv=>?_⟩
     rw [List.getElem?_map,Option.map_eq_some_iff] at hv
     obtain ⟨a,ha,rfl⟩ := hv
     obtain ⟨hq,d,hd,hk,hnl⟩ := hinv2 i a ha
     rw [hc] at hd
     cases hd
     rw [hk,hnl]
     refine agg_fits hr hq (fun row hrow=>hx.fits row (List.mem_filter.1 hrow).1) ?_ (h.agg (eX ha))
     unfold fu
     exact Nat.le_trans (List.length_filter_le _ _) (by omega)
   ·rw [zp hg] at ho; exact absurd ho hg
  ·rw [zp hn] at ho; exact absurd ho hn
 ·-- sort
  obtain ⟨x,hi⟩ := one (q := q) (by simpa using har)
  have hx := hall x (by rw [hi]; simp)
  have hmq := jW h.most (by omega) hi
  rw [hi] at hcol ho
  unfold ie at ho hcol
  rw [zy (by omega),zy (by omega),zy (by omega),zy (by omega),zy (by omega),zp k] at ho hcol
  have hxm := (dO h.most).2 x (by rw [hi]; simp)
  have hxm1 := (dO hxm).1
  have hxl := hx.len
  obtain ⟨l',hsort,hperm⟩ := sort_ok r q (aO r x) (aJ r x) (by omega) hself.1
  have e : aJ r q = l' := by rw [cD,hi]; unfold cq; rw [zy (by omega),zy (by omega),zy (by omega),zy (by omega),zy (by omega),zy (by omega),zy (by omega),zp k]; show (fQ r q (aO r x) (aJ r x)).getD [] = l'; rw [hsort]; rfl
  have hcx : aO r q = aO r x := by
   by_cases hse : jE r.vars (aO r x) q.exprs = 0
   ·exact hcol.trans (by show (if jE r.vars (aO r x) q.exprs ≠ 0 then _ else _ : List LCol × Int).1 = _; rw [zy (by simpa using hse)]; rfl)
   ·exact absurd (by
     have : (if jE r.vars (aO r x) q.exprs ≠ 0 then (([],jE r.vars (aO r x) q.exprs) : List LCol × Int) else (aO r x,0)).2 = 0 := ho
     rw [zp hse] at this
     exact this) hse
  refine ⟨by rw [hmq]; exact hx.pos,by rw [hmq,e,hperm.length_eq]; exact hxl,fun row hrow=>?_⟩
  rw [e] at hrow
  rw [hcx]
  exact hx.fits row (hperm.mem_iff.1 hrow)
 ·-- limit
  obtain ⟨x,hi⟩ := one (q := q) (by simpa using har)
  have hx := hall x (by rw [hi]; simp)
  have hmq := jW h.most (by omega) hi
  rw [hi] at hcol ho
  unfold ie at ho hcol
  rw [zy (by omega),zy (by omega),zy (by omega),zy (by omega),zy (by omega),zy (by omega)] at ho hcol
  have hcx : aO r q = aO r x := hcol
  have e : aJ r q = mD q (aJ r x) := by rw [cD,hi]; unfold cq; rw [zy (by omega),zy (by omega),zy (by omega),zy (by omega),zy (by omega),zy (by omega),zy (by omega),zy (by omega)]; rfl
  have hsub : (mD q (aJ r x)).Sublist (aJ r x) := (List.drop_sublist _ _).trans (List.take_sublist _ _)
  have := hsub.length_le
  have := hx.len
  refine ⟨by rw [hmq]; exact hx.pos,by rw [hmq,e]; omega,fun row hrow=>?_⟩
  rw [e] at hrow
  rw [hcx]
  exact hx.fits row (hsub.subset hrow)
theorem rowLen {cols : List LCol} {row : Rq} (h : dL cols row) (hc : cols.length ≤ 20) : row.length ≤ 20 := by rw [h.1]; exact hc
theorem scan_run (st : List LRelation) (name : List UInt8) : af (aK (σ := Unit) (ρ := (Rows)) (fun (_ : Nat) (x1 : LRelation) (_ : Unit)=>cond (x1.table == name) (some (.ret x1.rows)) (some (.next ()))) 0 st ()) (fun fl1=>fl1.thenR fun (_ : Unit)=>some []) =
  some (match st.find? fun x=>x.table == name with | some x=>x.rows | none=>[]) := by
 rw [lH (fun x : LRelation=>x.table == name) (fun _ x=>x.rows) st 0 (fun k x _=>by cases x.table == name <;> rfl)]
 rcases rg (fun x : LRelation=>x.table == name) st with ⟨h1,h2⟩ | ⟨x,h1,h2,h3⟩
 ·rw [h1]
  unfold ba at h2
  cases hf : st.findIdx? (fun x=>x.table == name) with
  | none=>rfl
  | some i=>rw [hf] at h2; simp only at h2; omega
 ·rw [h1]
  unfold ba at h2 h3
  cases hf : st.findIdx? (fun x=>x.table == name) with
  | none=>rw [hf] at h2; simp at h2
  | some i =>
   rw [hf] at h3
   simp only [Int.toNat_natCast] at h3
   simp only [h3]
   rfl
theorem limit_run (l : Rows) (q : LQuery) (hl : l.length ≤ 1000000) (hc : 0 ≤ q.count) (ho : 0 ≤ q.offset) :
  oF l (if (l.length : Int) < q.offset then (l.length : Int) else q.offset) (IntKind.i64.wrap ((if (l.length : Int) < q.offset then (l.length : Int) else q.offset) + (if (IntKind.i64.wrap ((l.length : Int) - (if (l.length : Int) < q.offset then (l.length : Int) else q.offset))) < q.count then (IntKind.i64.wrap ((l.length : Int) - (if (l.length : Int) < q.offset then (l.length : Int) else q.offset))) else q.count))) = some (mD q l) := by
 obtain ⟨o,ho'⟩ : ∃ o : Nat,q.offset = o := ⟨q.offset.toNat,by omega⟩
 obtain ⟨c,hc'⟩ : ∃ c : Nat,q.count = c := ⟨q.count.toNat,by omega⟩
 unfold mD
 rw [ho',hc',Int.toNat_natCast,Int.toNat_natCast]
 by_cases h1 : (l.length : Int) < (o : Int)
 ·rw [zp h1,bs (n := (l.length : Int) - (l.length : Int)) (by omega) (by omega)]
  have e : (if (l.length : Int) - (l.length : Int) < (c : Int) then (l.length : Int) - (l.length : Int) else (c : Int)) = 0 := by split <;> omega
  rw [e,bs (by omega) (by omega),qK ⟨by omega,by omega,by omega⟩]
  congr 1
  rw [List.drop_of_length_le (by simp only [List.length_take]; omega)]
  symm
  exact List.drop_of_length_le (by simp only [List.length_take]; omega)
 ·rw [zy h1,bs (n := (l.length : Int) - (o : Int)) (by omega) (by omega)]
  by_cases h2 : (l.length : Int) - (o : Int) < (c : Int)
  ·rw [zp h2,bs (by omega) (by omega),qK ⟨by omega,by omega,by omega⟩]
   rw [Int.toNat_natCast,List.take_of_length_le (i := ((o : Int) + ((l.length : Int) - (o : Int))).toNat) (by omega),List.take_of_length_le (i := o + c) (by omega)]
  ·rw [zy h2,bs (by omega) (by omega),qK ⟨by omega,by omega,by omega⟩]
   rw [Int.toNat_natCast,show ((o : Int) + (c : Int)).toNat = o + c from by omega]
theorem join_run2 (r : LRun) (q : LQuery) (ca cb : List LCol) (e : LExpr) (he : aF q.exprs 0 = some e) (hee : e = e0Q q) (a b : Rows) (ha : ∀ x ∈ a,x.length ≤ 20) (hb : ∀ x ∈ b,x.length ≤ 20) (hcb : cb.length ≤ 20) (hsz : a.length * max 1 b.length ≤ 30000) (_hk : q.kind = 4 ∨ q.kind = 5) :
  af (aK (σ := List LCol × Rows) (ρ := Empty) (fun (_ : Nat) (x1 : Rq) (s1 : List LCol × Rows) =>
  af (aK (σ := Rows × Bool) (ρ := Empty) (fun (_ : Nat) (x6 : Rq) (s6 : Rows × Bool) =>
   af (bU ([x1,x6] : Rows)) fun x58 =>
   af (aF q.exprs 0) fun (x65 : LExpr) =>
   bC (aW r s1.1 x58) fun x62 =>
   bC (bP x62 x65) fun x67 =>
   bC (dD x67) fun x68 =>
   cond x68
    (af (dg 24 s6.1 ([x58] : Rows)) fun (x72 : Rows) =>
    some (.next (x72,true)))
    (some (.next (s6.1,s6.2)))) 0 b (s1.2,false)) fun fl6=>fl6.thenP fun (s6 : Rows × Bool) =>
  bC (
   cond (!s6.2)
    ((q.kind == (5 : Int)))
    (false)) fun (t7 : Bool) =>
  cond t7
   (af (qc 32 (cb.length : Int)) fun (_ : Unit) =>
   af (bU ([x1,(List.replicate (cb.length : Int).toNat (LVal.mk 0 0 []))] : Rows)) fun x87 =>
   af (dg 24 s6.1 ([x87] : Rows)) fun (x89 : Rows) =>
   some (.next (s1.1,x89)))
   (some (.next (s1.1,s6.1)))) 0 a (ca ++ cb,[])) (fun fl1=>fl1.thenP fun (s1 : List LCol × Rows)=>some s1.2) = some (dF (cU r (ca ++ cb) q) (q.kind == 5) (List.replicate cb.length .nul) a b) := by
 have hpl : ∀ k,k ≤ a.length → (dF (cU r (ca ++ cb) q) (q.kind == 5) (List.replicate cb.length .nul) (a.take k) b).length ≤ 30000 := fun k hk=>by
  have h1 := qn (cU r (ca ++ cb) q) (q.kind == 5) (List.replicate cb.length .nul) (a.take k) b
  rw [List.length_take,Nat.min_eq_left hk] at h1
  exact Nat.le_trans h1 (Nat.le_trans (Nat.mul_le_mul_right _ hk) hsz)
 rw [rMa (xs := a) (s := (ca ++ cb,[])) (fun k=>(ca ++ cb,dF (cU r (ca ++ cb) q) (q.kind == 5) (List.replicate cb.length .nul) (a.take k) b)) rfl (fun k x hkx=>by
  have hkl := (zg.1 hkx).1
  have hxm := eX hkx
  have hbl : b.length ≤ 30000 := by
   have h1 : 1 * max 1 b.length ≤ a.length * max 1 b.length := Nat.mul_le_mul_right _ (by omega)
   omega
  have h2 := hpl k (by omega)
  simp only
  rw [match_run (cU r (ca ++ cb) q) e r (ca ++ cb) q.exprs he (fun z=>by rw [hee]; rfl) x (by have := ha x hxm; omega) b _ false (fun y hy=>by have := hb y hy; omega) (by omega),bPs,bX]
  have hs : dF (cU r (ca ++ cb) q) (q.kind == 5) (List.replicate cb.length .nul) (a.take (k + 1)) b = dF (cU r (ca ++ cb) q) (q.kind == 5) (List.replicate cb.length .nul) (a.take k) b ++ mF (cU r (ca ++ cb) q) (q.kind == 5) (List.replicate cb.length .nul) x b := by
   unfold dF
   rw [List.take_add_one,hkx,List.map_append,List.flatten_append]
   simp
  rw [hs]
  simp only [bF,Bool.false_or]
  have hml : (eT (cU r (ca ++ cb) q) x b).length ≤ 30000 := by unfold eT; exact Nat.le_trans (List.length_filter_le _ _) (by simpa using hbl)
  cases hm : eT (cU r (ca ++ cb) q) x b with
  | nil =>
   by_cases h5 : q.kind = 5
   ·have e5 : (q.kind == 5) = true := gZ h5
    simp only [e5,List.isEmpty_nil,Bool.not_true,Bool.not_false,zc]
    rw [growI_ok ⟨by omega,by omega,by unfold maxLen; omega⟩,bPs,concat2 x _ (by have := ha x hxm; omega) (by simp; omega),bPs]
    rw [e5] at h2
    rw [bV (by decide) (by simp at h2 ⊢; omega),bPs]
    unfold mF
    rw [zp ⟨rfl,hm⟩]
    simp [LVal.nul]
   ·have e5 : (q.kind == 5) = false := cr h5
    simp only [e5,List.isEmpty_nil,Bool.not_true,Bool.not_false,zc,zd]
    unfold mF
    rw [zy (by simp),hm]
  | cons z zs =>
   simp only [List.isEmpty_cons,Bool.not_false,Bool.not_true,zd]
   unfold mF
   rw [zy (by rw [hm]; simp),hm])]
 rw [bPs,bX,List.take_length]
theorem rows_ev {r : LRun} (hr : RunOk r) : ∀ q : LQuery,QOk r q → ∃ N,∀ n,N ≤ n → fe n r q = some (aJ r q) := by
 refine LQuery.ind fun q ih h=>?_
 have hs := pz (mh h.cols).1
 obtain ⟨ho,hcol⟩ := oj h
 have hself := h.small.self
 have hm := (dO h.most).1
 obtain ⟨N,hN⟩ := ev_all (p := fun x n=>fe n r x = some (aJ r x)) q.inputs (fun x hx=>ih x hx (h.sub hx))
 have hall : ∀ x ∈ q.inputs,RowsOk r x := fun x hx=>lq hr x (h.sub hx)
 have hsz : ∀ x ∈ q.inputs,(aJ r x).length ≤ 20000 := fun x hx=>by
  have h1 := (hall x hx).len
  have h2 := (dO h.most).2 x hx
  have h3 := (dO h2).1
  omega
 have hrow : ∀ x ∈ q.inputs,∀ row ∈ aJ r x,row.length ≤ 20 := fun x hx row hrow=>rowLen ((hall x hx).fits row hrow) (kx _ x)
 refine ⟨N + 2,fun n hn=>?_⟩
 obtain ⟨n,rfl⟩ : ∃ k,n = k + 2 := ⟨n - 2,by omega⟩
 rw [fe]
 simp only [ky]
 have kk : q.kind = 1 ∨ q.kind = 2 ∨ q.kind = 3 ∨ q.kind = 4 ∨ q.kind = 5 ∨ q.kind = 6 ∨ q.kind = 7 ∨ q.kind = 8 ∨ q.kind = 9 ∨ q.kind = 10 := by have := hs.kind; omega
 rcases kk with k | k | k | k | k | k | k | k | k | k
 ·rw [gZ k,zc,scan_run,cD]
  unfold cq
  rw [zp k] <;>
   rfl
 all_goals have har := hs.arity
 all_goals rw [k] at har
 all_goals simp only [oB] at har
 ·-- filter
  obtain ⟨x,hi⟩ := one (q := q) (by simpa using har)
  have hxm : x ∈ q.inputs := by rw [hi]; simp
  have e : aJ r q = (aJ r x).filter (cU r (aO r x) q) := by rw [cD,hi]; unfold cq; rw [zy (by omega),zy (by omega),zy (by omega),zy (by omega),zp k]; rfl
  have hx := hN (n + 1) (by omega) x hxm
  rw [k,hi,e]
  simp only [aF,bF]
  simp only [show ((2 : Int) == 1) = false from rfl,show ((2 : Int) == 4) = false from rfl,show ((2 : Int) == 5) = false from rfl,show ((2 : Int) == 6) = false from rfl,show ((2 : Int) == 7) = false from rfl,show ((2 : Int) == 2) = true from rfl,zd,zc,Int.le_refl,if_true,Int.toNat_zero,List.getElem?_cons_zero,bPs]
  rw [hx,bPs,lA (h.small.sub hxm),bPs]
  rw [deleteFunc_eq (aJ r x) (fun a=>!cU r (aO r x) q a) _ (fun a _=>by
   unfold iE
   rw [pt (by rw [hs.one (.inl k)]; omega)]
   rfl) (by have := hsz x hxm; omega),bPs]
  simp
 ·-- project
  obtain ⟨x,hi⟩ := one (q := q) (by simpa using har)
  have hxm : x ∈ q.inputs := by rw [hi]; simp
  have e : aJ r q = (aJ r x).map fun y=>q.exprs.map fun e=>bP (aW r (aO r x) y) e := by rw [cD,hi]; unfold cq; rw [zy (by omega),zy (by omega),zy (by omega),zy (by omega),zy (by omega),zp k]; rfl
  have hx := hN (n + 1) (by omega) x hxm
  rw [k,hi,e]
  simp only [aF,bF]
  simp only [show ((3 : Int) == 1) = false from rfl,show ((3 : Int) == 4) = false from rfl,show ((3 : Int) == 5) = false from rfl,show ((3 : Int) == 6) = false from rfl,show ((3 : Int) == 7) = false from rfl,show ((3 : Int) == 2) = false from rfl,show ((3 : Int) == 3) = true from rfl,zd,zc,Int.le_refl,if_true,Int.toNat_zero,List.getElem?_cons_zero,bPs]
  rw [hx,bPs,lA (h.small.sub hxm),bPs]
  rw [lD (xs := aJ r x) (fun y=>q.exprs.map fun e=>bP (aW r (aO r x) y) e) (fun i y hy=>by
   have hil := (zg.1 hy).1
   have := hsz x hxm
   rw [ra r _ _ _ (by omega),bPs,bV (by decide) (by simp; omega),bPs]),bPs,bX]
 ·-- inner join
  obtain ⟨x,y,hi⟩ := two (q := q) (by simpa using har)
  have hxm : x ∈ q.inputs := by rw [hi]; simp
  have hym : y ∈ q.inputs := by rw [hi]; simp
  have hmq := jT h.most (by omega) hi
  rw [zy (by omega),zp (.inl k)] at hmq
  have e : aJ r q = dF (cU r (aO r x ++ aO r y) q) (q.kind == 5) (List.replicate (aO r y).length .nul) (aJ r x) (aJ r y) := by rw [cD,hi]; unfold cq; rw [zy (by omega),zp (.inl k)]; rfl
  have hx := hN n (by omega) x hxm
  have hy := hN n (by omega) y hym
  have hprod : (aJ r x).length * max 1 (aJ r y).length ≤ 30000 := by
   have h1m : ((max 1 (aJ r y).length : Nat) : Int) ≤ cP 1 (bv y).1 := by have := iD 1 (bv y).1; have := lJ 1 (bv y).1; have := (hall y hym).len; omega
   have h2 : (((aJ r x).length * max 1 (aJ r y).length : Nat) : Int) ≤ (bv x).1 * cP 1 (bv y).1 := by
    rw [Int.natCast_mul]
    exact Int.mul_le_mul (hall x hxm).len h1m (by omega) (by have := (hall x hxm).pos; omega)
   have := h.most
   omega
  rw [cr (show q.kind ≠ 1 by omega),gZ k]
  simp only [zd,zc,bF]
  rw [gD]
  simp only [jq]
  rw [hi]
  have g0 : aF [x,y] 0 = some x := rfl
  have g1 : aF [x,y] 1 = some y := rfl
  simp only [g0,g1,bPs]
  rw [hx,hy]
  simp only [bPs]
  rw [lA (h.small.sub hxm),lA (h.small.sub hym)]
  simp only [bPs]
  rw [bV (by decide) (by have := kx ⟨r.s,r.vars⟩ x; have := kx ⟨r.s,r.vars⟩ y; unfold aO; omega),bPs]
  have he1 : q.exprs.length = 1 := hs.one (.inr (.inl k))
  rw [join_run2 r q (aO r x) (aO r y) (e0Q q) (pt (by omega)) rfl (aJ r x) (aJ r y) (hrow x hxm) (hrow y hym) (kx _ y) hprod (.inl k),bPs,e]
 ·-- left join
  obtain ⟨x,y,hi⟩ := two (q := q) (by simpa using har)
  have hxm : x ∈ q.inputs := by rw [hi]; simp
  have hym : y ∈ q.inputs := by rw [hi]; simp
  have hmq := jT h.most (by omega) hi
  rw [zy (by omega),zp (.inr k)] at hmq
  have e : aJ r q = dF (cU r (aO r x ++ aO r y) q) (q.kind == 5) (List.replicate (aO r y).length .nul) (aJ r x) (aJ r y) := by rw [cD,hi]; unfold cq; rw [zy (by omega),zp (.inr k)]; rfl
  have hx := hN n (by omega) x hxm
  have hy := hN n (by omega) y hym
  have hprod : (aJ r x).length * max 1 (aJ r y).length ≤ 30000 := by
   have h1m : ((max 1 (aJ r y).length : Nat) : Int) ≤ cP 1 (bv y).1 := by have := iD 1 (bv y).1; have := lJ 1 (bv y).1; have := (hall y hym).len; omega
   have h2 : (((aJ r x).length * max 1 (aJ r y).length : Nat) : Int) ≤ (bv x).1 * cP 1 (bv y).1 := by
    rw [Int.natCast_mul]
    exact Int.mul_le_mul (hall x hxm).len h1m (by omega) (by have := (hall x hxm).pos; omega)
   have := h.most
   omega
  rw [cr (show q.kind ≠ 1 by omega),cr (show q.kind ≠ 4 by omega),gZ k]
  simp only [zd,zc,bF]
  rw [gD]
  simp only [jq]
  rw [hi]
  have g0 : aF [x,y] 0 = some x := rfl
  have g1 : aF [x,y] 1 = some y := rfl
  simp only [g0,g1,bPs]
  rw [hx,hy]
  simp only [bPs]
  rw [lA (h.small.sub hxm),lA (h.small.sub hym)]
  simp only [bPs]
  rw [bV (by decide) (by have := kx ⟨r.s,r.vars⟩ x; have := kx ⟨r.s,r.vars⟩ y; unfold aO; omega),bPs]
  have he1 : q.exprs.length = 1 := hs.one (.inr (.inr k))
  rw [join_run2 r q (aO r x) (aO r y) (e0Q q) (pt (by omega)) rfl (aJ r x) (aJ r y) (hrow x hxm) (hrow y hym) (kx _ y) hprod (.inr k),bPs,e]
 ·-- union
  obtain ⟨x,y,hi⟩ := two (q := q) (by simpa using har)
  have hxm : x ∈ q.inputs := by rw [hi]; simp
  have hym : y ∈ q.inputs := by rw [hi]; simp
  have e : aJ r q = aJ r x ++ aJ r y := by rw [cD,hi]; unfold cq; rw [zy (by omega),zy (by omega),zp k]; rfl
  have hx := hN (n + 1) (by omega) x hxm
  have hy := hN (n + 1) (by omega) y hym
  rw [cr (show q.kind ≠ 1 by omega),cr (show q.kind ≠ 4 by omega),cr (show q.kind ≠ 5 by omega),gZ k,hi]
  have g0 : aF [x,y] 0 = some x := rfl
  have g1 : aF [x,y] 1 = some y := rfl
  simp only [zd,zc,bF,g0,g1,bPs]
  have := hsz x hxm
  have := hsz y hym
  rw [hx,hy]
  simp only [bPs]
  rw [bV (by decide) (by omega),bPs,e]
 ·-- difference
  obtain ⟨x,y,hi⟩ := two (q := q) (by simpa using har)
  have hxm : x ∈ q.inputs := by rw [hi]; simp
  have hym : y ∈ q.inputs := by rw [hi]; simp
  have e : aJ r q = kK (aJ r x) (aJ r y) := by rw [cD,hi]; unfold cq; rw [zy (by omega),zy (by omega),zy (by omega),zp k]; rfl
  have hx := hN (n + 1) (by omega) x hxm
  have hy := hN (n + 1) (by omega) y hym
  rw [cr (show q.kind ≠ 1 by omega),cr (show q.kind ≠ 4 by omega),cr (show q.kind ≠ 5 by omega),cr (show q.kind ≠ 6 by omega),gZ k,hi]
  have g0 : aF [x,y] 0 = some x := rfl
  have g1 : aF [x,y] 1 = some y := rfl
  simp only [zd,zc,bF,g0,g1,bPs]
  have := hsz x hxm
  have := hsz y hym
  rw [hx,hy]
  simp only [bPs]
  rw [less_eq _ _ (by omega) (by omega),bPs,e]
 ·-- aggregation
  obtain ⟨x,hi⟩ := one (q := q) (by simpa using har)
  have hxm : x ∈ q.inputs := by rw [hi]; simp
  have e : aJ r q = kt r (aO r x) q (aJ r x) := by rw [cD,hi]; unfold cq; rw [zy (by omega),zy (by omega),zy (by omega),zy (by omega),zy (by omega),zy (by omega),zp k]; rfl
  have hx := hN (n + 1) (by omega) x hxm
  rw [cr (show q.kind ≠ 1 by omega),cr (show q.kind ≠ 4 by omega),cr (show q.kind ≠ 5 by omega),cr (show q.kind ≠ 6 by omega),cr (show q.kind ≠ 7 by omega),cr (show q.kind ≠ 2 by omega),cr (show q.kind ≠ 3 by omega),gZ k,hi]
  have g0 : aF [x] 0 = some x := rfl
  simp only [zd,zc,bF,g0,bPs]
  rw [hx,bPs,lA (h.small.sub hxm),bPs]
  have := hsz x hxm
  rw [group_eq r _ q _ (by omega) hself.1 hself.2,bPs,e]
 ·-- sort
  obtain ⟨x,hi⟩ := one (q := q) (by simpa using har)
  have hxm : x ∈ q.inputs := by rw [hi]; simp
  have := hsz x hxm
  obtain ⟨l',hsort,_⟩ := sort_ok r q (aO r x) (aJ r x) (by omega) hself.1
  have e : aJ r q = l' := by rw [cD,hi]; unfold cq; rw [zy (by omega),zy (by omega),zy (by omega),zy (by omega),zy (by omega),zy (by omega),zy (by omega),zp k]; show (fQ r q (aO r x) (aJ r x)).getD [] = l'; rw [hsort]; rfl
  have hx := hN (n + 1) (by omega) x hxm
  rw [cr (show q.kind ≠ 1 by omega),cr (show q.kind ≠ 4 by omega),cr (show q.kind ≠ 5 by omega),cr (show q.kind ≠ 6 by omega),cr (show q.kind ≠ 7 by omega),cr (show q.kind ≠ 2 by omega),cr (show q.kind ≠ 3 by omega),cr (show q.kind ≠ 8 by omega),gZ k,hi]
  have g0 : aF [x] 0 = some x := rfl
  simp only [zd,zc,bF,g0,bPs]
  rw [hx,bPs,lA (h.small.sub hxm),bPs,hsort,bPs,e]
 ·-- limit
  obtain ⟨x,hi⟩ := one (q := q) (by simpa using har)
  have hxm : x ∈ q.inputs := by rw [hi]; simp
  have e : aJ r q = mD q (aJ r x) := by rw [cD,hi]; unfold cq; rw [zy (by omega),zy (by omega),zy (by omega),zy (by omega),zy (by omega),zy (by omega),zy (by omega),zy (by omega)]; rfl
  have hx := hN (n + 1) (by omega) x hxm
  rw [cr (show q.kind ≠ 1 by omega),cr (show q.kind ≠ 4 by omega),cr (show q.kind ≠ 5 by omega),cr (show q.kind ≠ 6 by omega),cr (show q.kind ≠ 7 by omega),cr (show q.kind ≠ 2 by omega),cr (show q.kind ≠ 3 by omega),cr (show q.kind ≠ 8 by omega),cr (show q.kind ≠ 9 by omega),hi]
  have g0 : aF [x] 0 = some x := rfl
  simp only [zd,bF,g0,bPs]
  rw [hx,bPs,lA (h.small.sub hxm),bPs]
  have := hsz x hxm
  rw [limit_run _ q (by omega) (hs.limit k).1 (hs.limit k).2,bPs,e]
theorem rows_eq {r : LRun} (hr : RunOk r) {q : LQuery} (h : QOk r q) : mn r q = some (aJ r q) := by
 obtain ⟨N,hN⟩ := rows_ev hr q h
 exact nH N hN
def SizeOk (q : LQuery) : Prop := (cB q).length ≤ 24 ∧ jn q ≤ 12 ∧ (bv q).2 ≤ 20000
instance (q : LQuery) : Decidable (SizeOk q) := by unfold SizeOk; infer_instance
theorem check_eq {s : LSchema} {vars : List LCol} {q : LQuery} (h : SmallQ q) : ∃ cs e,gp s vars q = some (cs,e) ∧ (e = 0 ↔ SizeOk q ∧ pp (iL q) ∧ (fq ⟨s,vars⟩ q).2 = 0) ∧ (e = 0 → cs = (fq ⟨s,vars⟩ q).1) := by
 unfold gp
 rw [nodes_ok q h.nodes,bPs]
 by_cases h1 : (cB q).length ≤ 24
 ·rw [zf (show ¬ ((cB q).length : Int) > 24 from by omega),zd,depth_ok q h.nodes,bPs]
  by_cases h2 : jn q ≤ 12
  ·rw [zf (show ¬ jn q > 12 from by omega),zd]
   unfold gk
   rw [most_ok,bPs,bPs]
   by_cases h3 : (bv q).2 ≤ 20000
   ·rw [zf (show ¬ (bv q).2 > 20000 from by omega),bPs,zd,kinds_ok h.nodes,bPs]
    cases hb : (ec q).2.1 with
    | true =>
     refine ⟨[],13,rfl,⟨fun h=>by omega,fun hh=>?_⟩,fun h=>by omega⟩
     rw [kinds_bad.2 hh.2.1] at hb
     cases hb
    | false =>
     have hk := kinds_bad.1 hb
     simp only [zd]
     rw [cols_ok _ q h]
     refine ⟨(fq ⟨s,vars⟩ q).1,(fq ⟨s,vars⟩ q).2,rfl,⟨fun h0=>⟨⟨h1,h2,h3⟩,hk,h0⟩,fun hh=>hh.2.2⟩,fun _=>rfl⟩
   ·rw [zt (show (bv q).2 > 20000 from by omega)]
    exact ⟨[],2,rfl,⟨fun h=>by omega,fun hh=>absurd hh.1.2.2 h3⟩,fun h=>by omega⟩
  ·rw [zt (show jn q > 12 from by omega)]
   exact ⟨[],2,rfl,⟨fun h=>by omega,fun hh=>absurd hh.1.2.1 h2⟩,fun h=>by omega⟩
 ·rw [zt (show ((cB q).length : Int) > 24 from by omega)]
  exact ⟨[],2,rfl,⟨fun h=>by omega,fun hh=>absurd hh.1.1 h1⟩,fun h=>by omega⟩
abbrev runOf (s : LSchema) (st : List LRelation) (args : Rq) : LRun := LRun.mk s st args [] [] []
structure Runs (s : LSchema) (st : List LRelation) (q : LQuery) (args : Rq) : Prop where
 size : SizeOk q
 kinds : pp (iL q)
 cols : (fq ⟨s,[]⟩ q).2 = 0
 inst : fE s st = some 0
 args : ArgsOk (iL q) args
theorem Runs.instOk {s : LSchema} {st : List LRelation} {q : LQuery} {args : Rq} (h : Runs s st q args) (hs : lx s) : InstOk s st := by
 obtain ⟨e,he,hok⟩ := conforms hs st
 rw [h.inst] at he
 cases he
 exact hok rfl
theorem Runs.qok {s : LSchema} {st : List LRelation} {q : LQuery} {args : Rq} (h : Runs s st q args) (hq : SmallQ q) : QOk (runOf s st args) q :=
 ⟨hq,h.cols,h.size.2.2,fun i k hm x hx=>(h.args.args i k hm).2.1 i x (Nat.le_refl _) hx⟩
theorem runs_tot {s : LSchema} (hs : lx s) (st : List LRelation) {q : LQuery} (hq : SmallQ q) (args : Rq) : ∃ b,jm s st q args = some b ∧ (b = true → Runs s st q args) := by
 unfold jm ke
 rw [size_ok,bPs]
 obtain ⟨v,hv⟩ := validate_tot hs
 obtain ⟨cs,e,hc,he,_⟩ := check_eq (s := s) (vars := []) hq
 obtain ⟨f,hf,_⟩ := conforms hs st
 obtain ⟨g,hg,hga⟩ := args_ok hq.nodes args
 unfold lW
 rw [hv,hc,hf,hg]
 simp only [bPs]
 by_cases c1 : mZ q 400 < 0
 ·rw [zt c1]; exact ⟨false,rfl,fun h=>by cases h⟩
 rw [zf c1,zd,bPs]
 by_cases c2 : v = 0
 ·rw [mg c2,zd,bPs]
  by_cases c3 : e = 0
  ·rw [gZ c3,zc]
   by_cases c4 : (args.length : Int) ≤ 20
   ·rw [zt c4,zc]
    by_cases c5 : f = 0
    ·rw [gZ c5,zc]
     refine ⟨g == 0,rfl,fun hg0=>?_⟩
     have hg0 : g = 0 := by simpa using hg0
     obtain ⟨a,b,c⟩ := he.1 c3
     exact ⟨a,b,c,by rw [hf,c5],hga.1 hg0⟩
    ·rw [cr c5]; exact ⟨false,rfl,fun h=>by cases h⟩
   ·rw [zf c4]; exact ⟨false,rfl,fun h=>by cases h⟩
  ·rw [cr c3]; exact ⟨false,rfl,fun h=>by cases h⟩
 ·rw [kh c2]; exact ⟨false,rfl,fun h=>by cases h⟩
theorem evaluate_eq {s : LSchema} (hs : lx s) {st : List LRelation} {q : LQuery} (hq : SmallQ q) {args : Rq} (h : Runs s st q args) :
  gR s st q args = some (LResult.mk (aO (runOf s st args) q) (aJ (runOf s st args) q),true) := by
 unfold gR kI iA
 obtain ⟨cs,e,hc,he,hcs⟩ := check_eq (s := s) (vars := []) hq
 obtain ⟨g,hg,hga⟩ := args_ok hq.nodes args
 have e0 := he.2 ⟨h.size,h.kinds,h.cols⟩
 have g0 := hga.2 h.args
 have hr : RunOk (runOf s st args) := ⟨rfl,rfl,rfl,h.instOk hs⟩
 have hok := lq hr q (h.qok hq)
 have hlen : (aJ (runOf s st args) q).length ≤ 20000 := by
  have h1 := hok.len
  have h2 := h.size.2.2
  have h3 := (dO h2).1
  omega
 rw [hc,hg,h.inst]
 simp only [bPs]
 rw [mg e0,mg g0,zd,zd]
 simp only [aK,bPs,bX,bne_self_eq_false,zd]
 rw [rows_eq hr (h.qok hq),bPs]
 rw [lD (xs := aJ (runOf s st args) q) id (fun k x hk=>by
  have := (zg.1 hk).1
  rw [bV (by decide) (by simp; omega),bPs]
  rfl),bPs,bX,bPs,bPs,hcs e0]
 simp [aO]
structure TinyQ (q : LQuery) : Prop where
 nodes : (cB q).length ≤ 2000000
 here : ∀ x ∈ cB q,x.exprs.length ≤ 1000000 ∧ x.aggregates.length ≤ 1000000
theorem TinyQ.small {q : LQuery} (h : TinyQ q) : SmallQ q := ⟨by have := h.nodes; omega,h.here⟩
theorem qk {H : Type} : ∀ ds : List (DataW H),(ds.map (fun d=>Rows.uptoBulk d)).sum = Rows.uptoBulkAll ds
 | []=>by simp [Rows.uptoBulkAll]
 | d :: ds=>by simp only [List.map_cons,List.sum_cons,Rows.uptoBulkAll,qk ds]
theorem bulk_is : IsBulk (fun _ d=>Rows.uptoBulk d) where
 one := by
  intro H d
  cases d with
  | lit l=>cases l <;> simp [Rows.uptoBulk]
  | nil=>simp [Rows.uptoBulk]
  | ptr d=>simp [Rows.uptoBulk]
  | slice elems spare=>simp [Rows.uptoBulk]
  | agg parts=>simp [Rows.uptoBulk]
  | iface t d=>simp [Rows.uptoBulk]
  | map entries=>simp [Rows.uptoBulk]
  | held h=>simp [Rows.uptoBulk]
 str := by intro H l; simp [Rows.uptoBulk]
 slice := by intro H a b; rw [qk]; simp only [Rows.uptoBulk]; omega
 agg := by intro H a; rw [qk]; simp only [Rows.uptoBulk]; omega
theorem ku {r : List PV} : ∀ {rs : List (List PV)},r ∈ rs → bi r ≤ fS rs
 | x :: rs,h=>by
  simp only [fS]
  rcases List.mem_cons.1 h with rfl | h
  ·omega
  ·have := ku h; omega
theorem kg {α : Type} {f : α → List PV} {k : Nat} (hf : ∀ x,k ≤ bi (f x)) : ∀ l : List α,k * l.length ≤ fS (l.map f)
 | []=>by simp
 | x :: l=>by
  have := kg hf l
  have := hf x
  simp only [List.map_cons,fS,List.length_cons,Nat.mul_add]
  omega
theorem expr_pos (e : LExpr) : 2 ≤ bi (bE e) := by
 cases e; simp only [bE,bi,PV.bulk]; omega
theorem call_pos (c : LAggregateCall) : 2 ≤ bi (lg c) := by
 simp only [lg,bi,PV.bulk]; omega
theorem smallS_bulk {s : LSchema} {n : Nat} (hn : n ≤ 10000000) (h : bi (bM s) ≤ n) : lx s := by
 intro t ht
 have h1 : fS (s.tables.map cd) ≤ bi (bM s) := by
  simp only [bM,bi,PV.bulk]; omega
 have h2 := ku (List.mem_map_of_mem (f := cd) ht)
 have h3 : fS (t.primaryKey.map bT) ≤ bi (cd t) := by
  simp only [cd,bi,PV.bulk]; omega
 have h4 := kg (f := bT) (k := 1) (fun x=>by simp [bi,PV.bulk]) t.primaryKey
 omega
theorem nodes_bulk : ∀ q : LQuery,(cB q).length + 1 ≤ bi (cn q) ∧ ∀ x ∈ cB q,2 * x.exprs.length ≤ bi (cn q) ∧ 2 * x.aggregates.length ≤ bi (cn q) := by
 apply LQuery.ind
 intro q ih
 have e : bi (cn q) = bi (aH q) := by rw [bN]
 have hr : fS (q.inputs.map cn) + 8 ≤ bi (aH q) := by
  simp only [aH,bi,PV.bulk]; omega
 have hsum : ∀ l : List LQuery,(∀ x ∈ l,x ∈ q.inputs) → ((l.map cB).flatten).length + l.length ≤ fS (l.map cn) := by
  intro l
  induction l with
  | nil=>intro _; simp
  | cons x l ihl =>
   intro hm
   have h1 := (ih x (hm x (by simp))).1
   have h2 := ihl (fun y hy=>hm y (by simp [hy]))
   simp only [List.map_cons,List.flatten_cons,List.length_append,List.length_cons,fS]
   omega
 have h0 := hsum q.inputs (fun _ h=>h)
 rw [e]
 refine ⟨?_,fun x hx=>?_⟩
 ·rw [jf]; simp only [List.length_cons]; omega
 ·rw [jf] at hx
  rcases List.mem_cons.1 hx with rfl | hx
  ·have h1 := kg expr_pos x.exprs
   have h2 := kg call_pos x.aggregates
   constructor
   ·simp only [aH,bi,PV.bulk]; omega
   ·simp only [aH,bi,PV.bulk]; omega
  ·simp only [List.mem_flatten,List.mem_map] at hx
   obtain ⟨l,⟨y,hy,rfl⟩,hx⟩ := hx
   have h1 := (ih y hy).2 x hx
   have h2 := ku (List.mem_map_of_mem (f := cn) hy)
   omega
theorem tiny_bulk {q : LQuery} {n : Nat} (hn : n ≤ 1048576) (h : bi (aH q) ≤ n) : TinyQ q := by
 rw [← bN] at h
 have := nodes_bulk q
 exact ⟨by omega,fun x hx=>by have := this.2 x hx; omega⟩
theorem qM (a b : Int) : ck a b = if a < b then -1 else if b < a then 1 else 0 := by
 unfold ck
 by_cases h1 : a < b
 ·simp [h1]
 ·by_cases h2 : b < a
  ·simp [h1,h2]
  ·simp [h1,h2]
theorem cmpB_eq : ∀ a b : List UInt8,Lib.compareBytes a b = 0 → a = b
 | [],[],_=>rfl
 | [],_ :: _,h=>by simp [Lib.compareBytes] at h
 | _ :: _,[],h=>by simp [Lib.compareBytes] at h
 | a :: la,b :: lb,h=>by
  simp only [Lib.compareBytes,UInt8.lt_iff_toNat_lt] at h
  split at h
  ·cases h
  ·split at h
   ·cases h
   ·rename_i h1 h2
    rw [UInt8.toNat_inj.1 (by omega : a.toNat = b.toNat),cmpB_eq la lb h]
theorem cmpB_refl : ∀ a : List UInt8,Lib.compareBytes a a = 0
 | []=>rfl
 | a :: la=>by simp only [Lib.compareBytes,UInt8.lt_iff_toNat_lt]; rw [zy (by omega),zy (by omega)]; exact cmpB_refl la
theorem cmpB_trans : ∀ a b c : List UInt8,Lib.compareBytes a b < 0 → Lib.compareBytes b c < 0 → Lib.compareBytes a c < 0
 | [],[],_,h,_=>by simp [Lib.compareBytes] at h
 | _ :: _,[],_,h,_=>by simp [Lib.compareBytes] at h
 | _,_ :: _,[],_,h=>by simp [Lib.compareBytes] at h
 | [],_ :: _,_ :: _,_,_=>by simp [Lib.compareBytes]
 | a :: la,b :: lb,c :: lc,h,h'=>by
  simp only [Lib.compareBytes,UInt8.lt_iff_toNat_lt] at h h' ⊢
  by_cases h1 : a.toNat < c.toNat
  ·rw [zp h1]; decide
  ·rw [zy h1]
   by_cases h2 : a.toNat < b.toNat
   ·rw [zy (by omega),zp (by omega)] at h'
    exact absurd h' (by decide)
   ·rw [zy h2] at h
    by_cases h3 : b.toNat < a.toNat
    ·rw [zp h3] at h; exact absurd h (by decide)
    ·rw [zy h3] at h
     rw [zy (by omega)]
     rw [zy (by omega)] at h'
     by_cases h4 : c.toNat < b.toNat
     ·rw [zp h4] at h'; exact absurd h' (by decide)
     ·rw [zy h4] at h'
      exact cmpB_trans la lb lc h h'
def LtV (a b : LVal) : Prop := a.kind < b.kind ∨ (a.kind = b.kind ∧ (a.int < b.int ∨ (a.int = b.int ∧ Lib.compareBytes a.text b.text < 0)))
theorem ltV_irr {a : LVal} (h : LtV a a) : False := by
 unfold LtV at h
 rw [cmpB_refl] at h
 omega
theorem ltV_trans {a b c : LVal} (h : LtV a b) (h' : LtV b c) : LtV a c := by
 unfold LtV at h h' ⊢
 rcases h with h | ⟨h1,h | ⟨h2,h⟩⟩ <;> rcases h' with h' | ⟨h1',h' | ⟨h2',h'⟩⟩
 all_goals first | (left; omega) | (right; refine ⟨by omega,?_⟩; first | (left; omega) | (right; exact ⟨by omega,cmpB_trans _ _ _ h h'⟩))
theorem tR (a b : LVal) : dN a b = if ck a.kind b.kind ≠ 0 then ck a.kind b.kind else if ck a.int b.int ≠ 0 then ck a.int b.int else Lib.compareBytes a.text b.text := by
 unfold dN iT dR
 simp only [bF]
 by_cases h1 : ck a.kind b.kind = 0
 ·rw [mg h1,zd,zy (fun h=>h h1)]
  by_cases h2 : ck a.int b.int = 0
  ·rw [mg h2,zd,zy (fun h=>h h2)]
  ·rw [kh h2,zc,zp h2]
 ·rw [kh h1,zc,zp h1]
theorem compare_lt {a b : LVal} (h : dN a b < 0) : LtV a b := by
 rw [tR,qM,qM] at h
 unfold LtV
 by_cases h1 : a.kind < b.kind
 ·exact .inl h1
 ·by_cases h2 : b.kind < a.kind
  ·simp [h1,h2] at h
  ·right
   refine ⟨by omega,?_⟩
   simp only [h1,h2,if_false,ne_eq,not_true_eq_false] at h
   by_cases h3 : a.int < b.int
   ·exact .inl h3
   ·by_cases h4 : b.int < a.int
    ·simp [h3,h4] at h
    ·right
     refine ⟨by omega,?_⟩
     simpa [h3,h4] using h
theorem compare_zero {a b : LVal} (h : dN a b = 0) : a = b := by
 rw [tR,qM,qM] at h
 by_cases h1 : a.kind < b.kind
 ·simp [h1] at h
 ·by_cases h2 : b.kind < a.kind
  ·simp [h1,h2] at h
  ·simp only [h1,h2,if_false,ne_eq,not_true_eq_false] at h
   by_cases h3 : a.int < b.int
   ·simp [h3] at h
   ·by_cases h4 : b.int < a.int
    ·simp [h3,h4] at h
    ·simp only [h3,h4,if_false,not_true_eq_false] at h
     have h5 := cmpB_eq _ _ h
     cases a; cases b
     simp only [LVal.mk.injEq] at h1 h2 h3 h4 h5 ⊢
     exact ⟨by omega,by omega,h5⟩
def qb (a b : Rq) : Prop := ∃ (j : Nat) (x y : LVal),a[j]? = some x ∧ b[j]? = some y ∧ (∀ i,i < j → a[i]? = b[i]?) ∧ LtV x y
theorem ltRow_irr {a : Rq} (h : qb a a) : False := by
 obtain ⟨j,x,y,h1,h2,_,h3⟩ := h
 rw [h1] at h2
 cases h2
 exact ltV_irr h3
theorem ltRow_trans {a b c : Rq} (h : qb a b) (h' : qb b c) : qb a c := by
 obtain ⟨j,x,y,h1,h2,h3,h4⟩ := h
 obtain ⟨k,x',y',h1',h2',h3',h4'⟩ := h'
 rcases Nat.lt_trichotomy j k with hjk | hjk | hjk
 ·exact ⟨j,x,y,h1,(h3' j hjk).symm.trans h2,fun i hi=>(h3 i hi).trans (h3' i (by omega)),h4⟩
 ·subst hjk
  rw [h2] at h1'
  cases h1'
  exact ⟨j,x,y',h1,h2',fun i hi=>(h3 i hi).trans (h3' i hi),ltV_trans h4 h4'⟩
 ·exact ⟨k,x',y',(h3 k hjk).trans h1',h2',fun i hi=>(h3 i (by omega)).trans (h3' i hi),h4'⟩
theorem compareRows_lt {a b : Rq} {z : Int} (hl : a.length = b.length) (ha : a.length ≤ 10000000) (h : cS a b = some z) (hz : z < 0) : qb a b := by
 unfold cS at h
 rw [zy (by omega),qd (by omega),bPs,Int.toNat_natCast] at h
 obtain ⟨fl,hfl,hr⟩ := eD (step := fun (j1 : Nat) (_ : Nat) (_ : Unit) =>
  af (aF a (j1 : Int)) fun (x17 : LVal) =>
  af (aF b (j1 : Int)) fun (x21 : LVal) =>
  bC (dN x17 x21) fun x23 =>
  cond (x23 != (0 : Int))
   (some (Flow.ret (σ := Unit) x23))
   (some (.next ()))) (fun j _=>∀ i,i < j → a[i]? = b[i]?) (fun r=>r < 0 → qb a b) (List.range a.length) 0 () (fun i h=>by omega) (fun k x s hk hI=>by
    have hkl := (zg.1 hk).1
    simp at hkl
    simp only [Nat.zero_add] at hI ⊢
    rw [gN (by omega),gN (by omega)]
    simp only [bPs,bF]
    by_cases h0 : dN a[k] b[k] = 0
    ·refine ⟨.next (),by simp [h0],fun i hi=>?_⟩
     by_cases he : i = k
     ·subst he
      rw [ze (by omega),ze (by omega),compare_zero h0]
     ·exact hI i (by omega)
    ·exact ⟨.ret (dN a[k] b[k]),by rw [kh h0]; rfl,fun hz=>⟨k,_,_,ze (by omega),ze (by omega),hI,compare_lt hz⟩⟩)
 rw [hfl,bPs] at h
 cases fl with
 | brk s=>exact absurd hr (by simp)
 | ret r =>
  have : r = z := by simpa [Flow.thenR] using h
  exact hr (by omega)
 | next s =>
  simp only [Flow.thenR,bF,qM,hl,zo] at h
  rw [zy (by omega),zy (by omega)] at h
  omega
def ni (t : LTable) (row : Rq) : Rq := t.primaryKey.map fun k : Int=>if 0 ≤ k ∧ k < row.length then row.getD k.toNat (LVal.mk 0 0 []) else LVal.mk 0 0 []
theorem key_eq {t : LTable} (hsm : t.primaryKey.length ≤ 10000000) (row : Rq) : cN t row = some (ni t row) := by
 unfold cN
 rw [lD (fun k : Int=>if 0 ≤ k ∧ k < row.length then row.getD k.toNat (LVal.mk 0 0 []) else LVal.mk 0 0 []) (fun k x hk=>by
  have hkl := (zg.1 hk).1
  rw [bF]
  by_cases h : 0 ≤ x ∧ x < row.length
  ·haveI : Inhabited LVal := ⟨LVal.mk 0 0 []⟩
   obtain ⟨v,hv,hv'⟩ := getI_lt (xs := row) h.1 h.2
   rw [zp h,zt (show x ≥ 0 from h.1),zc,zt h.2,zc,hv,bPs,bPs,bV (by decide) (by simp; omega),bPs]
   rw [show row.getD x.toNat (LVal.mk 0 0 []) = v from by rw [List.getD_eq_getElem?_getD,hv']; rfl]
  ·rw [zy h]
   have hc : (cond (decide (x ≥ (0 : Int))) (decide (x < (row.length : Int))) false) = false := by
    by_cases h0 : x ≥ 0
    ·rw [zt h0,zc]; exact zf fun h1=>h ⟨h0,h1⟩
    ·rw [zf h0]; rfl
   rw [hc,zd,bPs,bV (by decide) (by simp; omega),bPs]),bPs,bX]
 rfl
theorem keys_lt {t : LTable} (hsm : t.primaryKey.length ≤ 10000000) {rows : Rz} (h : KeyOrd t rows) : ∀ (d i : Nat) (p q : Rq),rows[i]? = some p → rows[i + d + 1]? = some q → qb (ni t p) (ni t q) := by
 have one : ∀ (i : Nat) (p q : Rq),rows[i]? = some p → rows[i + 1]? = some q → qb (ni t p) (ni t q) := by
  intro i p q hp hq
  obtain ⟨k1,k2,z,h1,h2,h3,h4⟩ := h i p q hp hq
  rw [key_eq hsm] at h1 h2
  cases h1
  cases h2
  exact compareRows_lt (by simp [ni]) (by simpa [ni] using hsm) h3 h4
 intro d
 induction d with
 | zero=>intro i p q hp hq; exact one i p q hp hq
 | succ d ih =>
  intro i p q hp hq
  have hl := (zg.1 hq).1
  have hm : rows[i + d + 1]? = some rows[i + d + 1] := ze (by omega)
  exact ltRow_trans (ih i p _ hp hm) (one (i + d + 1) _ q hm (by rw [← hq]; congr 1))
theorem keys_pair {t : LTable} (hsm : t.primaryKey.length ≤ 10000000) {rows : Rz} (h : KeyOrd t rows) : rows.Pairwise fun p q=>ni t p ≠ ni t q := by
 rw [List.pairwise_iff_getElem]
 intro i j hi hj hij heq
 have := keys_lt hsm h (j - i - 1) i rows[i] rows[j] (ze hi) (by rw [show i + (j - i - 1) + 1 = j from by omega]; exact ze hj)
 rw [heq] at this
 exact ltRow_irr this
theorem find_ord {s : LSchema} {st : List LRelation} (h : InstOk s st) (name : List UInt8) : ∀ t,s.tables.find? (fun t=>t.name == name) = some t → ∃ x,st.find? (fun x=>x.table == name) = some x ∧ KeyOrd t x.rows ∧ (∀ row ∈ x.rows,dL t.columns row) ∧ x.rows.length ≤ 24 := by
 obtain ⟨hl,ho,ht⟩ := h
 intro t hf
 generalize s.tables = ts at *
 induction ts generalizing st with
 | nil=>simp at hf
 | cons a ts ih =>
  cases st with
  | nil=>simp at hl
  | cons r st =>
   obtain ⟨h1,h2,h3⟩ := ht 0 r a rfl rfl
   rw [List.find?_cons] at hf ⊢
   rw [h1]
   cases hn : a.name == name with
   | true =>
    rw [hn] at hf
    simp at hf
    subst hf
    exact ⟨r,rfl,ho 0 r a rfl rfl,h3,h2⟩
   | false =>
    rw [hn] at hf
    simp only at hf ⊢
    exact ih (by simpa using hl) (fun i r' t' a b=>ho (i + 1) r' t' (by simpa using a) (by simpa using b)) (fun i r' t' a b=>ht (i + 1) r' t' (by simpa using a) (by simpa using b)) hf
theorem wr_id {n : Int} (h1 : -9223372036854775808 ≤ n) (h2 : n ≤ 9223372036854775807) : wr n = n := bs h1 h2
theorem args_lt {e a : LExpr} (h : a ∈ e.args) : SizeOf.sizeOf a < SizeOf.sizeOf e := by
 cases e
 have := List.sizeOf_lt_of_mem (show a ∈ _ from h)
 simp only [LExpr.mk.sizeOf_spec,LExpr.args] at *
 omega
theorem and_true (a b : LVal) : dD (qe a b 0) = (dD a && dD b) := by
 have w1 : wr (1 - 0) = 1 := (wr_id (by omega) (by omega)).trans (by omega)
 have x : ∀ c : LVal,(c.kind == 2 && c.int == 0) = true → (c.kind == 2 && c.int == 1) = false := by
  intro c h
  simp only [Bool.and_eq_true,beq_iff_eq] at h
  simp [h.1,h.2]
 unfold qe
 rw [w1]
 have fa : dD a = (a.kind == 2 && a.int == 1) := rfl
 have fb : dD b = (b.kind == 2 && b.int == 1) := rfl
 rw [fa,fb]
 cases ha0 : (a.kind == 2 && a.int == 0)
 ·cases hb0 : (b.kind == 2 && b.int == 0)
  ·cases (a.kind == 2 && a.int == 1) <;> cases (b.kind == 2 && b.int == 1) <;> rfl
  ·rw [x b hb0]
   cases (a.kind == 2 && a.int == 1) <;> rfl
 ·rw [x a ha0]
  cases (b.kind == 2 && b.int == 1) <;> rfl
theorem bulk_arg {e a : LExpr} (h : a ∈ e.args) : bi (bE a) ≤ bi (bE e) := by
 have h1 := ku (List.mem_map_of_mem (f := bE) h)
 rw [bR e]
 simp only [cu,bi,PV.bulk]
 omega
theorem args_bulk (e : LExpr) : e.args.length ≤ bi (bE e) := by
 have h1 := kg expr_pos e.args
 rw [bR e]
 simp only [cu,bi,PV.bulk]
 omega
theorem subst_id : ∀ (n : Nat) (e : LExpr),SizeOf.sizeOf e ≤ n → bi (bE e) ≤ 1048576 → eE (n + 1) e [] [] = some e
 | 0,e,h,_=>by cases e; simp at h
 | n + 1,e,h,hb=>by
  have ih := fun a (ha : a ∈ e.args)=>subst_id n a (by have := args_lt ha; omega) (by have := bulk_arg ha; omega)
  have hl := args_bulk e
  rw [eE]
  unfold jZ
  have hi : dE [] e.name = some (-1) := rfl
  rw [hi]
  have hr := rMa (step := fun (_ : Nat) (x2 : LExpr) (s2 : List LExpr)=>af (eE (n + 1) x2 [] []) fun x45=>af (dg 88 s2 ([x45] : List LExpr)) fun (x47 : List LExpr)=>some (Flow.next (ρ := Empty) x47)) (xs := e.args) (s := [])
   (fun k=>e.args.take k) (by simp) (fun k x hk=>by
    have hkl := (zg.1 hk).1
    rw [ih x (eX hk),bPs,bV (by decide) (by simp; omega),bPs,List.take_add_one,hk]
    rfl)
  rw [hr]
  cases e.kind == 2 <;> cases e <;> simp [bPs,Flow.thenR,Flow.thenP,LExpr.kind,LExpr.name,LExpr.index,LExpr.value,LExpr.args]
theorem clone_eq {e : LExpr} (hb : bi (bE e) ≤ 1048576) : mW e = some e := by
 unfold mW
 refine nH (SizeOf.sizeOf e + 2) fun m hm=>?_
 obtain ⟨m,rfl⟩ : ∃ k,m = k + 2 := ⟨m - 2,by omega⟩
 rw [jk]
 unfold mQ
 show (af (eE (m + 1) e [] []) fun x4=>some x4) = some e
 rw [subst_id m e (by omega) hb]
 rfl
def pl (e : LExpr) : Bool := e.kind == 5 && (e.name == [97,110,100] && e.args.length == 2)
mutual
def mC : LExpr → List LExpr
 | .mk k n i x args=>if k == 5 && (n == [97,110,100] && args.length == 2) then conjEs args else [.mk k n i x args]
def conjEs : List LExpr → List LExpr
 | []=>[]
 | e :: r=>mC e ++ conjEs r
end
theorem ru (e : LExpr) : mC e = if pl e then conjEs e.args else [e] := by cases e; rw [mC]; rfl
theorem ry {e : LExpr} (h : pl e = true) : e.kind = 5 ∧ e.name = [97,110,100] ∧ ∃ a b,e.args = [a,b] := by
 simp only [pl,Bool.and_eq_true,beq_iff_eq] at h
 exact ⟨h.1,h.2.1,ic h.2.2⟩
theorem conj_two {e a b : LExpr} (h : pl e = true) (hab : e.args = [a,b]) : mC e = mC a ++ mC b := by
 rw [ru,zp h,hab]
 simp [conjEs]
theorem args_two {e a b : LExpr} (hab : e.args = [a,b]) : bi (bE a) + bi (bE b) ≤ bi (bE e) := by
 rw [bR e]
 simp only [cu,bi,PV.bulk,hab,List.map_cons,List.map_nil,fS]
 omega
theorem conj_len (e : LExpr) : (mC e).length ≤ bi (bE e) := by
 induction e using LExpr.ind with
 | _ e ih =>
  by_cases h : pl e = true
  ·obtain ⟨_,_,a,b,hab⟩ := ry h
   have h1 := ih a (by rw [hab]; simp)
   have h2 := ih b (by rw [hab]; simp)
   have h3 := args_two hab
   rw [conj_two h hab,List.length_append]
   omega
  ·rw [ru,zy h]
   have := expr_pos e
   simp
   omega
theorem conj_ev (e : LExpr) : bi (bE e) ≤ 1048576 → ∃ N,∀ n,N ≤ n → gF n e = some (mC e) := by
 induction e using LExpr.ind with
 | _ e ih =>
  intro hb
  by_cases h : pl e = true
  ·obtain ⟨hk,hn,a,b,hab⟩ := ry h
   have h3 := args_two hab
   obtain ⟨N1,h1⟩ := ih a (by rw [hab]; simp) (by omega)
   obtain ⟨N2,h2⟩ := ih b (by rw [hab]; simp) (by omega)
   refine ⟨N1 + N2 + 1,fun n hn'=>?_⟩
   obtain ⟨n,rfl⟩ : ∃ k,n = k + 1 := ⟨n - 1,by omega⟩
   have la := conj_len a
   have lb := conj_len b
   have g0 : aF [a,b] 0 = some a := rfl
   have g1 : aF [a,b] 1 = some b := rfl
   rw [gF]
   unfold jv
   rw [hk,hn,hab,conj_two h hab]
   simp only [beq_self_eq_true,zc,bF,g0,g1,bPs,h1 n (by omega),h2 n (by omega)]
   rw [show ((([a,b] : List LExpr).length : Int) == 2) = true from rfl,zc,bV (by decide) (by omega)]
   rfl
  ·refine ⟨1,fun n hn'=>?_⟩
   obtain ⟨n,rfl⟩ : ∃ k,n = k + 1 := ⟨n - 1,by omega⟩
   have hc : (cond (e.kind == (5 : Int)) (cond (e.name == ([97,110,100] : List UInt8)) (((e.args.length : Int) == (2 : Int))) (false)) (false)) = false := by
    have h' : pl e = false := by simpa using h
    unfold pl at h'
    rw [← h']
    rw [show ((e.args.length : Int) == (2 : Int)) = (e.args.length == 2) from natE _ 2]
    cases e.kind == (5 : Int) <;> cases e.name == ([97,110,100] : List UInt8) <;> rfl
   rw [gF]
   unfold jv
   rw [hc,bF,zd,clone_eq hb,ru,zy h]
   rfl
theorem conj_ok {e : LExpr} (hb : bi (bE e) ≤ 1048576) : mi e = some (mC e) := by
 obtain ⟨N,h⟩ := conj_ev e hb
 exact nH N h
theorem conj_true (v : LEnv) (e : LExpr) : dD (bP v e) = true → ∀ c ∈ mC e,dD (bP v c) = true := by
 induction e using LExpr.ind with
 | _ e ih =>
  intro ht c hc
  by_cases h : pl e = true
  ·obtain ⟨hk,hn,a,b,hab⟩ := ry h
   rw [conj_two h hab] at hc
   have he : dD (bP v e) = (dD (bP v a) && dD (bP v b)) := by
    rw [gT,hk,hn,hab]
    exact and_true _ _
   rw [he,Bool.and_eq_true] at ht
   rcases List.mem_append.1 hc with hc | hc
   ·exact ih a (by rw [hab]; simp) ht.1 c hc
   ·exact ih b (by rw [hab]; simp) ht.2 c hc
  ·rw [ru,zy h] at hc
   simp at hc
   subst hc
   exact ht
theorem sZ {v : LEnv} {c a b : LExpr} (hk : c.kind = 5) (hn : c.name = [61]) (hab : c.args = [a,b]) (h : dD (bP v c) = true) : bP v a = bP v b := by
 rw [gT,hk,hn,hab] at h
 have h : dD (bG [61] [bP v a,bP v b]) = true := by simpa using h
 generalize bP v a = x at h ⊢
 generalize bP v b = y at h ⊢
 have h1 : bG [61] [x,y] = if x.kind = 0 ∨ y.kind = 0 then .nul else lU (decide (x = y)) := by
  by_cases hx : x.kind = 0
  ·simp [bG,bQ,hx]
  ·by_cases hy : y.kind = 0
   ·simp [bG,bQ,hx,hy]
   ·simp [bG,bQ,hx,hy,iW]
 rw [h1] at h
 split at h
 ·exact absurd h (by decide)
 ·by_cases he : x = y
  ·exact he
  ·rw [zf he] at h
   exact absurd h (by decide)
theorem idx_at {cols : List LCol} (hn : (cols.map LCol.name).Nodup) {j : Nat} {c : LCol} (hc : cols[j]? = some c) : ba (fun d : LCol=>d.name == c.name) cols = (j : Int) := by
 induction cols generalizing j with
 | nil=>simp at hc
 | cons d cols ih =>
  rw [List.map_cons,List.nodup_cons] at hn
  cases j with
  | zero =>
   simp at hc
   subst hc
   unfold ba
   simp [List.findIdx?_cons]
  | succ j =>
   have hc : cols[j]? = some c := by simpa using hc
   have hd : (d.name == c.name) = false := by
    rw [beq_eq_false_iff_ne]
    intro he
    exact hn.1 (he ▸ List.mem_map_of_mem (List.mem_of_getElem? hc))
   have := ih hn.2 hc
   unfold ba at this ⊢
   simp only [List.findIdx?_cons,hd,Bool.false_eq_true,if_false]
   cases hf : cols.findIdx? (fun d : LCol=>d.name == c.name) with
   | none=>rw [hf] at this; simp at this <;> omega
   | some i=>rw [hf] at this; simp at this ⊢; all_goals omega
theorem idx_cases (cols : List LCol) (n : List UInt8) : ba (fun d : LCol=>d.name == n) cols = -1 ∨ ∃ (j : Nat) (c : LCol),ba (fun d : LCol=>d.name == n) cols = (j : Int) ∧ cols[j]? = some c ∧ c.name = n := by
 rcases rg (fun d : LCol=>d.name == n) cols with ⟨_,h⟩ | ⟨x,h1,h2,h3⟩
 ·exact .inl h
 ·refine .inr ⟨_,x,(Int.toNat_of_nonneg h2).symm,h3,?_⟩
  have := List.find?_some h1
  simpa using this
def OtherE (t : LTable) (b : LExpr) : Prop := (b.kind = 2 ∧ ∀ c ∈ t.columns,c.name ≠ b.name) ∨ b.kind = 1 ∨ b.kind = 3 ∨ b.kind = 4
def Det (t : LTable) (name : List UInt8) (cond : LExpr) : Prop := ∃ c ∈ mC cond,c.kind = 5 ∧ c.name = [61] ∧ ∃ a b,(c.args = [a,b] ∨ c.args = [b,a]) ∧ a.kind = 2 ∧ a.name = name ∧ OtherE t b
theorem eval_col {e : LExpr} (hk : e.kind = 2) (v : LEnv) : bP v e = if 0 ≤ ba (fun c : LCol=>c.name == e.name) v.cols ∧ ba (fun c : LCol=>c.name == e.name) v.cols < v.row.length then v.row.getD (ba (fun c : LCol=>c.name == e.name) v.cols).toNat .nul else .nul := by
 rw [gT,hk]
 rfl
theorem other_eq {r : LRun} {cols : List LCol} {t : LTable} {b : LExpr} (h : OtherE t b) {z z' : Rq} (hl : z.length = cols.length) (hl' : z'.length = cols.length)
  (hz : ∀ (i : Nat) (c : LCol),cols[i]? = some c → (∀ d ∈ t.columns,d.name ≠ c.name) → z[i]? = z'[i]?) : bP (aW r cols z) b = bP (aW r cols z') b := by
 have hlen : z.length = z'.length := by omega
 rcases h with ⟨hk,hn⟩ | hk | hk | hk
 ·rw [eval_col hk,eval_col hk]
  unfold aW
  rcases idx_cases cols b.name with hi | ⟨j,c,hj,hc,hcn⟩
  ·rw [hi]; simp
  ·have hjl := (zg.1 hc).1
   have := hz j c hc (fun d hd=>hcn ▸ hn d hd)
   rw [hj,Int.toNat_natCast,List.getD_eq_getElem?_getD,List.getD_eq_getElem?_getD,this,hlen]
 ·rw [gT,gT,hk]; rfl
 ·rw [gT,gT,hk]; rfl
 ·rw [gT,gT,hk]; rfl
theorem det_eq {r : LRun} {cols : List LCol} (hn : (cols.map LCol.name).Nodup) {t : LTable} {cnd : LExpr} {j : Nat} {c : LCol} (hc : cols[j]? = some c) (hd : Det t c.name cnd) {z z' : Rq} (hl : z.length = cols.length) (hl' : z'.length = cols.length)
  (hz : ∀ (i : Nat) (c : LCol),cols[i]? = some c → (∀ d ∈ t.columns,d.name ≠ c.name) → z[i]? = z'[i]?)
  (ht : dD (bP (aW r cols z) cnd) = true) (ht' : dD (bP (aW r cols z') cnd) = true) : z[j]? = z'[j]? := by
 obtain ⟨e,he,hk,hname,a,b,hab,hak,han,hob⟩ := hd
 have h1 := conj_true _ _ ht e he
 have h2 := conj_true _ _ ht' e he
 have hjl := (zg.1 hc).1
 have ev : ∀ w : Rq,w.length = cols.length → bP (aW r cols w) a = w.getD j .nul := by
  intro w hw
  rw [eval_col hak]
  unfold aW
  simp only [han,idx_at hn hc]
  rw [zp ⟨by omega,by omega⟩,Int.toNat_natCast]
 have e1 : bP (aW r cols z) a = bP (aW r cols z) b := by
  rcases hab with hab | hab
  ·exact sZ hk hname hab h1
  ·exact (sZ hk hname hab h1).symm
 have e2 : bP (aW r cols z') a = bP (aW r cols z') b := by
  rcases hab with hab | hab
  ·exact sZ hk hname hab h2
  ·exact (sZ hk hname hab h2).symm
 have e3 := other_eq (r := r) hob hl hl' hz
 rw [ev z hl] at e1
 rw [ev z' hl'] at e2
 have e4 : z.getD j .nul = z'.getD j .nul := by rw [e1,e3,← e2]
 rw [List.getD_eq_getElem?_getD,List.getD_eq_getElem?_getD,ze (by omega),ze (by omega)] at e4
 rw [ze (by omega),ze (by omega)]
 simpa using e4
theorem range_ret {α σ ρ : Type} {step : Nat → α → σ → Option (Flow σ ρ)} {xs : List α} {s : σ} {k : σ → Option ρ} (Q : ρ → Prop) (hs : ∀ j x s,xs[j]? = some x → ∃ fl,step j x s = some fl ∧ (match fl with | .next _=>True | .brk _=>False | .ret r=>Q r)) (hk : ∀ s,∃ r,k s = some r ∧ Q r) :
  ∃ r,af (aK step 0 xs s) (fun fl=>fl.thenR k) = some r ∧ Q r := by
 obtain ⟨fl,h1,h2⟩ := eD (step := step) (fun _ _=>True) Q xs 0 s trivial (fun j x s hx _=>by
  rw [Nat.zero_add]
  obtain ⟨fl,a,b⟩ := hs j x s hx
  exact ⟨fl,a,by cases fl <;> simp_all⟩)
 rw [h1,bPs]
 cases fl with
 | next s=>exact hk s
 | brk s=>exact absurd h2 (by simp)
 | ret r=>exact ⟨r,rfl,h2⟩
theorem range_retF {α σ τ ρ : Type} {step : Nat → α → σ → Option (Flow σ ρ)} {xs : List α} {s : σ} {k : σ → Option (Flow τ ρ)} (Q : ρ → Prop) (hs : ∀ j x s,xs[j]? = some x → ∃ fl,step j x s = some fl ∧ (match fl with | .next _=>True | .brk _=>False | .ret r=>Q r)) (hk : ∀ s,∃ t,k s = some (.next t)) :
  ∃ fl,af (aK step 0 xs s) (fun fl=>fl.thenF k) = some fl ∧ (match fl with | .next _=>True | .brk _=>False | .ret r=>Q r) := by
 obtain ⟨fl,h1,h2⟩ := eD (step := step) (fun _ _=>True) Q xs 0 s trivial (fun j x s hx _=>by
  rw [Nat.zero_add]
  obtain ⟨fl,a,b⟩ := hs j x s hx
  exact ⟨fl,a,by cases fl <;> simp_all⟩)
 rw [h1,bPs]
 cases fl with
 | next s=>obtain ⟨t,ht⟩ := hk s; exact ⟨.next t,ht,trivial⟩
 | brk s=>exact absurd h2 (by simp)
 | ret r=>exact ⟨.ret r,rfl,h2⟩
theorem range_chk {α σ τ : Type} {step : Nat → α → σ → Option (Flow σ Bool)} {xs : List α} {s : σ} (P : α → Prop) (hs : ∀ j x s,xs[j]? = some x → ∃ fl,step j x s = some fl ∧ (match fl with | .next _=>P x | .brk _=>False | .ret r=>r = false)) :
  ∃ r,af (aK step 0 xs s) (fun fl=>fl.thenF fun _=>(some (.ret true) : Option (Flow τ Bool))) = some (.ret r) ∧ (r = true → ∀ x ∈ xs,P x) := by
 obtain ⟨fl,h1,h2⟩ := eD (step := step) (fun j _=>∀ i x,i < j → xs[i]? = some x → P x) (fun r=>r = false) xs 0 s (fun i x h=>by omega) (fun j x s hx hI=>by
  rw [Nat.zero_add] at hI ⊢
  obtain ⟨fl,a,b⟩ := hs j x s hx
  refine ⟨fl,a,?_⟩
  cases fl with
  | next s' =>
   intro i y hi hy
   by_cases he : i = j
   ·subst he; rw [hx] at hy; cases hy; exact b
   ·exact hI i y (by omega) hy
  | brk s'=>exact b
  | ret r=>exact b)
 rw [h1,bPs]
 cases fl with
 | next s =>
  refine ⟨true,rfl,fun _ x hx=>?_⟩
  obtain ⟨i,hi,rfl⟩ := List.mem_iff_getElem.1 hx
  exact h2 i _ (by simpa using hi) (ze hi)
 | brk s=>exact absurd h2 (by simp)
 | ret r=>exact ⟨r,rfl,fun h=>absurd (h2.symm.trans h) (by simp)⟩
theorem ub {α ρ : Type} {p : α → Bool} {g : α → Option (Flow Unit ρ)} (hg : ∀ x,∃ r,g x = some (.ret r)) : ∀ (xs : List α) (j : Nat),aK (fun (_ : Nat) (x : α) (_ : Unit)=>cond (!p x) (some (.next ())) (g x)) j xs () = match xs.find? p with | none=>some (.next ()) | some x=>g x
 | [],_=>rfl
 | x :: xs,j=>by
  rw [aK,List.find?_cons]
  cases hp : p x with
  | true =>
   obtain ⟨r,hr⟩ := hg x
   simp only [Bool.not_true,zd,hr]
  | false =>
   simp only [Bool.not_false,zc]
   exact ub hg xs (j + 1)
theorem ownCol (n : List UInt8) (t : LTable) : fo n t = some (t.columns.any fun c=>c.name == n) := by
 unfold fo
 rw [lH (fun c : LCol=>c.name == n) (fun _ _=>true) t.columns 0 (fun k x _=>by cases x.name == n <;> rfl),bPs]
 cases hf : t.columns.findIdx? (fun c=>c.name == n) with
 | none =>
  have h : t.columns.any (fun c=>c.name == n) = false := by
   rw [List.findIdx?_eq_none_iff] at hf
   rw [List.any_eq_false]
   intro x hx
   simpa using hf x hx
  rw [h]
  rfl
 | some i =>
  obtain ⟨hi,h1,_⟩ := List.findIdx?_eq_some_iff_getElem.1 hf
  have h : t.columns.any (fun c=>c.name == n) = true := List.any_eq_true.2 ⟨_,List.getElem_mem hi,h1⟩
  rw [h]
  simp only [ze hi]
  rfl
theorem other_tot (e : LExpr) (t : LTable) : ∃ b,fp e t = some b ∧ (b = true → OtherE t e) := by
 unfold fp
 rw [ownCol,bPs]
 by_cases h2 : e.kind = 2
 ·rw [gZ h2,zc]
  cases ha : t.columns.any (fun c=>c.name == e.name) with
  | true=>exact ⟨false,by rw [h2]; rfl,by simp⟩
  | false =>
   refine ⟨true,rfl,fun _=>.inl ⟨h2,fun c hc=>?_⟩⟩
   have := List.any_eq_false.1 ha c hc
   simpa using this
 ·rw [cr h2,zd]
  by_cases h1 : e.kind = 1
  ·exact ⟨true,by rw [gZ h1]; rfl,fun _=>.inr (.inl h1)⟩
  ·rw [cr h1,zd]
   by_cases h3 : e.kind = 3
   ·exact ⟨true,by rw [gZ h3]; rfl,fun _=>.inr (.inr (.inl h3))⟩
   ·rw [cr h3,zd]
    exact ⟨_,rfl,fun h=>.inr (.inr (.inr (by simpa using h)))⟩
theorem det_tot (t : LTable) (name : List UInt8) {cnd : LExpr} (hb : bi (bE cnd) ≤ 1048576) : ∃ b,eI t name cnd = some b ∧ (b = true → Det t name cnd) := by
 unfold eI
 rw [conj_ok hb,bPs]
 refine range_ret (fun b=>b = true → Det t name cnd) (fun j x s hx=>?_) (fun s=>⟨false,rfl,by simp⟩)
 rw [bF]
 by_cases hk : x.kind = 5
 ·rw [mg hk,zd]
  by_cases hn : x.name = [61]
  ·rw [show (!(x.name == ([61] : List UInt8))) = false from by simp [hn],zd]
   by_cases hl : x.args.length = 2
   ·rw [show ((x.args.length : Int) != (2 : Int)) = false from by rw [hl]; rfl,zd]
    obtain ⟨a,b,hab⟩ := ic hl
    rw [hab]
    refine range_retF (fun b=>b = true → Det t name cnd) (fun i y s hy=>?_) (fun s=>⟨(),rfl⟩)
    have hgo : ∃ z,aF [a,b] (IntKind.i64.wrap ((1 : Int) - (i : Int))) = some z ∧ (x.args = [y,z] ∨ x.args = [z,y]) := by
     match i,hy with
     | 0,hy =>
      cases hy
      exact ⟨b,by rw [bs (by omega) (by omega)]; rfl,.inl hab⟩
     | 1,hy =>
      cases hy
      exact ⟨a,by rw [bs (by omega) (by omega)]; rfl,.inr hab⟩
     | n + 2,hy=>simp at hy
    obtain ⟨z,hz,hyz⟩ := hgo
    by_cases k2 : y.kind = 2
    ·rw [gZ k2,zc]
     by_cases kn : y.name = name
     ·rw [show (y.name == name) = true from by simp [kn],zc,hz,bPs]
      obtain ⟨c,hc,hco⟩ := other_tot z t
      rw [hc,bPs]
      cases c with
      | true=>exact ⟨.ret true,rfl,fun _=>⟨x,eX hx,hk,hn,y,z,hyz,k2,kn,hco rfl⟩⟩
      | false=>exact ⟨.next (),rfl,trivial⟩
     ·rw [show (y.name == name) = false from by simp [kn]]
      exact ⟨.next (),rfl,trivial⟩
    ·rw [cr k2]
     exact ⟨.next (),rfl,trivial⟩
   ·rw [show ((x.args.length : Int) != (2 : Int)) = true from by simp; omega]
    exact ⟨.next (),rfl,trivial⟩
  ·rw [show (!(x.name == ([61] : List UInt8))) = true from by simp [hn]]
   exact ⟨.next (),rfl,trivial⟩
 ·rw [kh hk]
  exact ⟨.next (),rfl,trivial⟩
inductive Under : LQuery → LQuery → Prop
 | refl (q : LQuery) : Under q q
 | step {q x y : LQuery} (hk : q.kind = 2) (hi : q.inputs = [x]) (h : Under x y) : Under q y
theorem strip_run : ∀ q : LQuery,∃ y,fh (σ := LQuery) (ρ := Empty) (fun (s1 : LQuery) =>
  cond (s1.kind == (2 : Int))
   (cond ((s1.inputs.length : Int) == (1 : Int))
    (af (aF s1.inputs 0) fun (x22 : LQuery) =>
    some (.next x22))
    (some (.brk s1)))
   (some (.brk s1))) q = some (.next y) ∧ Under q y := by
 refine LQuery.ind fun q ih=>?_
 by_cases hk : q.kind = 2
 ·by_cases hl : q.inputs.length = 1
  ·obtain ⟨x,hx⟩ := one hl
   obtain ⟨y,h1,h2⟩ := ih x (by rw [hx]; simp)
   refine ⟨y,jd (fl := .next x) ?_ h1,.step hk hx h2⟩
   rw [gZ hk,hx]
   rfl
  ·refine ⟨q,jd (fl := .brk q) ?_ rfl,.refl q⟩
   rw [gZ hk,show ((q.inputs.length : Int) == (1 : Int)) = false from by simp; omega]
   rfl
 ·refine ⟨q,jd (fl := .brk q) ?_ rfl,.refl q⟩
  rw [cr hk]
  rfl
theorem tN {r : LRun} {q x : LQuery} (h : QOk r q) (hk : q.kind = 2) (hi : q.inputs = [x]) : aJ r q = (aJ r x).filter (cU r (aO r x) q) ∧ aO r q = aO r x := by
 constructor
 ·rw [cD,hi]
  unfold cq
  rw [zy (by omega),zy (by omega),zy (by omega),zy (by omega),zp hk]
  rfl
 ·obtain ⟨_,h2⟩ := oj h
  unfold ie at h2
  rw [zy (by omega),zp hk,hi] at h2
  exact h2
theorem under_rows {r : LRun} {q y : LQuery} (hu : Under q y) : QOk r q → QOk r y ∧ (aJ r q).Sublist (aJ r y) ∧ aO r q = aO r y := by
 induction hu with
 | refl q=>exact fun h=>⟨h,List.Sublist.refl _,rfl⟩
 | step hk hi _ ih =>
  intro h
  obtain ⟨h1,h2,h3⟩ := ih (h.sub (by rw [hi]; simp))
  obtain ⟨h4,h5⟩ := tN h hk hi
  exact ⟨h1,by rw [h4]; exact (List.filter_sublist).trans h2,h5.trans h3⟩
structure Keyed (r : LRun) (q : LQuery) (cnd : LExpr) (t : LTable) : Prop where
 cols : aO r q = t.columns
 rows : (aJ r q).Pairwise fun p q=>ni t p ≠ ni t q
 det : ∀ k ∈ t.primaryKey,0 ≤ k ∧ ∃ c,t.columns[k.toNat]? = some c ∧ Det t c.name cnd
theorem sQ {r : LRun} (hr : RunOk r) (hs : lx r.s) {q : LQuery} (h : QOk r q) {cnd : LExpr} (hb : bi (bE cnd) ≤ 1048576) : ∃ b,fF r.s q cnd = some b ∧ (b = true → ∃ t,Keyed r q cnd t) := by
 unfold fF
 obtain ⟨y,h1,h2⟩ := strip_run q
 obtain ⟨hy,hsub,hcol⟩ := under_rows h2 h
 rw [h1,bPs,bX]
 by_cases hk : y.kind = 1
 ·rw [mg hk,zd]
  have hg : ∀ x2 : LTable,∃ b,af (aK (σ := Unit) (ρ := (Bool)) (fun (_ : Nat) (x4 : Int) (_ : Unit) =>
     cond (decide (x4 < (0 : Int)))
      (some (.ret false))
      (cond (decide (x4 ≥ (x2.columns.length : Int)))
       (some (.ret false))
       (af (aF x2.columns x4) fun (x60 : LCol) =>
       af (eI x2 x60.name cnd) fun x64 =>
       cond (!x64)
        (some (.ret false))
        (some (.next ()))))) 0 x2.primaryKey ()) (fun fl4=>fl4.thenF fun (_ : Unit)=>(some (.ret true) : Option (Flow Unit Bool))) = some (.ret b) ∧ (b = true → ∀ k ∈ x2.primaryKey,0 ≤ k ∧ ∃ c,x2.columns[k.toNat]? = some c ∧ Det x2 c.name cnd) := by
   intro x2
   refine range_chk (fun k : Int=>0 ≤ k ∧ ∃ c,x2.columns[k.toNat]? = some c ∧ Det x2 c.name cnd) (fun j k s hk=>?_)
   by_cases k0 : k < 0
   ·rw [zt k0]; exact ⟨.ret false,rfl,rfl⟩
   ·rw [zf k0,zd]
    by_cases k1 : k ≥ (x2.columns.length : Int)
    ·rw [zt k1]; exact ⟨.ret false,rfl,rfl⟩
    ·rw [zf k1,zd]
     have hc : x2.columns[k.toNat]? = some (x2.columns[k.toNat]'(by omega)) := ze (by omega)
     rw [kQ (by omega) hc,bPs]
     obtain ⟨b,hb1,hb2⟩ := det_tot x2 (x2.columns[k.toNat]'(by omega)).name hb
     rw [hb1,bPs]
     cases b with
     | true=>exact ⟨.next (),rfl,by omega,_,hc,hb2 rfl⟩
     | false=>exact ⟨.ret false,rfl,rfl⟩
  rw [ub (fun x=>⟨_,(hg x).choose_spec.1⟩)]
  obtain ⟨ho,hc⟩ := oj hy
  unfold ie at ho hc
  rw [zp hk] at ho hc
  cases hf : r.s.tables.find? (fun t=>t.name == y.table) with
  | none=>exact ⟨false,rfl,by simp⟩
  | some t =>
   rw [hf] at hc
   obtain ⟨b,hb1,hb2⟩ := hg t
   refine ⟨b,by simp only [hb1,bPs]; rfl,fun hbt=>⟨t,hcol.trans hc,?_,hb2 hbt⟩⟩
   obtain ⟨x,hx,hord,_,_⟩ := find_ord hr.inst y.table t hf
   refine List.Pairwise.sublist hsub ?_
   rw [cD]
   unfold cq
   rw [zp hk,hx]
   exact keys_pair (hs t (List.mem_of_find?_eq_some hf)) hord
 ·rw [kh hk]
  exact ⟨false,rfl,by simp⟩
theorem rG {α : Type} {p : α → Bool} : ∀ {l : List α},l.Pairwise (fun a b=>¬ (p a = true ∧ p b = true)) → (l.filter p).length ≤ 1
 | [],_=>by simp
 | a :: l,h=>by
  rw [List.pairwise_cons] at h
  rw [List.filter_cons]
  split
  ·rename_i ha
   have : l.filter p = [] := List.filter_eq_nil_iff.2 fun b hb hpb=>h.1 b hb ⟨ha,hpb⟩
   rw [this]; simp
  ·exact rG h.2
theorem oi (f : Rq → Bool) (x : Rq) (b : Rows) : (eT f x b).length = (b.filter fun y=>f (x ++ y)).length := by
 unfold eT
 rw [List.filter_map,zl]
 rfl
theorem jQ (f : Rq → Bool) (left : Bool) (pad x : Rq) (a b : Rows) : dF f left pad (x :: a) b = mF f left pad x b ++ dF f left pad a b := by
 unfold dF
 rw [List.map_cons,List.flatten_cons]
theorem mq (f : Rq → Bool) (left : Bool) (pad x : Rq) (b : Rows) : (eT f x b).length ≤ (mF f left pad x b).length ∧ (left = true → 1 ≤ (mF f left pad x b).length) ∧ (mF f left pad x b).length ≤ max 1 (eT f x b).length ∧ (left = false → mF f left pad x b = eT f x b) := by
 unfold mF
 split
 ·rename_i h
  rw [h.2]
  exact ⟨by simp,fun _=>by simp,by simp,fun hl=>absurd h.1 (by simp [hl])⟩
 ·rename_i h
  refine ⟨Nat.le_refl _,fun hl=>?_,by omega,fun _=>rfl⟩
  cases hm : eT f x b with
  | nil=>exact absurd ⟨hl,hm⟩ h
  | cons _ _=>simp
theorem pE (f : Rq → Bool) (left : Bool) (pad : Rq) : ∀ (a b : Rows),(∀ x ∈ a,(eT f x b).length ≤ 1) → (dF f left pad a b).length ≤ a.length
 | [],b,_=>by simp [dF]
 | x :: a,b,h=>by
  rw [jQ,List.length_append,List.length_cons]
  have h1 := (mq f left pad x b).2.2.1
  have h2 := h x (by simp)
  have h3 := pE f left pad a b fun y hy=>h y (by simp [hy])
  omega
theorem sK (f : Rq → Bool) (pad : Rq) : ∀ (a b : Rows),a.length ≤ (dF f true pad a b).length
 | [],b=>by simp
 | x :: a,b=>by
  rw [jQ,List.length_append,List.length_cons]
  have h1 := (mq f true pad x b).2.1 rfl
  have h3 := sK f pad a b
  omega
theorem rV (f : Rq → Bool) (left : Bool) (pad pad' : Rq) : ∀ (a b : Rows),(dF f false pad a b).length ≤ (dF f left pad' a b).length
 | [],b=>by simp [dF]
 | x :: a,b=>by
  rw [jQ,jQ,List.length_append,List.length_append,(mq f false pad x b).2.2.2 rfl]
  have h1 := (mq f left pad' x b).1
  have h3 := rV f left pad pad' a b
  omega
theorem oS (f : Rq → Bool) (pad : Rq) : ∀ (a b : Rows),(dF f false pad a b).length = (a.map fun x=>(b.filter fun y=>f (x ++ y)).length).sum
 | [],b=>by simp [dF]
 | x :: a,b=>by
  rw [jQ,List.length_append,(mq f false pad x b).2.2.2 rfl,oi,List.map_cons,List.sum_cons,oS f pad a b]
theorem count_cons (f : Rq → Rq → Bool) (y : Rq) (b : Rows) : ∀ a : Rows,(a.map fun x=>((y :: b).filter (f x)).length).sum = (a.filter fun x=>f x y).length + (a.map fun x=>(b.filter (f x)).length).sum
 | []=>rfl
 | x :: a=>by
  rw [List.map_cons,List.sum_cons,List.map_cons,List.sum_cons,count_cons f y b a,List.filter_cons,List.filter_cons]
  cases f x y <;> simp <;> omega
theorem count_le (f : Rq → Rq → Bool) (a : Rows) : ∀ b : Rows,(∀ y ∈ b,(a.filter fun x=>f x y).length ≤ 1) → (a.map fun x=>(b.filter (f x)).length).sum ≤ b.length
 | [],_=>by
  have : ∀ l : Rows,(l.map fun x=>(([] : Rows).filter (f x)).length).sum = 0 := by
   intro l
   induction l with
   | nil=>rfl
   | cons x l ih=>rw [List.map_cons,List.sum_cons,ih]; rfl
  rw [this]; simp
 | y :: b,h=>by
  rw [count_cons]
  have h1 := h y (by simp)
  have h2 := count_le f a b fun z hz=>h z (by simp [hz])
  rw [List.length_cons]
  omega
theorem rR (f : Rq → Bool) (pad : Rq) : ∀ (a b : Rows),(dF f false pad a b).length ≤ a.length * b.length
 | [],b=>by simp [dF]
 | x :: a,b=>by
  rw [jQ,List.length_append,(mq f false pad x b).2.2.2 rfl,oi,List.length_cons,Nat.add_mul]
  have h1 := rR f pad a b
  have h2 := List.length_filter_le (fun y=>f (x ++ y)) b
  omega
theorem join_all {f : Rq → Bool} (hf : ∀ z,f z = true) (pad : Rq) : ∀ (a b : Rows),(dF f false pad a b).length = a.length * b.length
 | [],b=>by simp [dF]
 | x :: a,b=>by
  rw [jQ,List.length_append,(mq f false pad x b).2.2.2 rfl,oi,List.length_cons,Nat.add_mul,join_all hf pad a b]
  have : (b.filter fun y=>f (x ++ y)) = b := List.filter_eq_self.2 fun y _=>hf _
  rw [this]
  omega
theorem join_none {f : Rq → Bool} (hf : ∀ z,f z = false) (pad : Rq) : ∀ (a b : Rows),(dF f false pad a b).length = 0
 | [],b=>by simp [dF]
 | x :: a,b=>by
  rw [jQ,List.length_append,(mq f false pad x b).2.2.2 rfl,oi,join_none hf pad a b]
  have : (b.filter fun y=>f (x ++ y)) = [] := List.filter_eq_nil_iff.2 fun y _=>by rw [hf]; simp
  rw [this]
  simp
theorem key_same {t : LTable} {p q : Rq} (hp : p.length = t.columns.length) (hq : q.length = t.columns.length) (h : ∀ k ∈ t.primaryKey,0 ≤ k → p[k.toNat]? = q[k.toNat]?) : ni t p = ni t q := by
 unfold ni
 refine List.map_congr_left fun k hk=>?_
 by_cases h0 : 0 ≤ k
 ·rw [List.getD_eq_getElem?_getD,List.getD_eq_getElem?_getD,h k hk h0,hp,hq]
 ·rw [zy (by omega),zy (by omega)]
theorem tM {r : LRun} {q x y : LQuery} (h : QOk r q) (hk : q.kind = 4 ∨ q.kind = 5) (hi : q.inputs = [x,y]) : ((aO r x ++ aO r y).map LCol.name).Nodup := by
 have hn := (mh h.cols).2.2.2.2
 have hc := (oj h).2
 unfold ie at hc
 rw [zy (by omega),zy (by omega),zp hk,hi] at hc
 have : ((fq ⟨r.s,r.vars⟩ q).1.map LCol.name) = (aO r x ++ aO r y).map LCol.name := by
  show (aO r q).map LCol.name = _
  rw [hc]
  simp only [iQ,List.map_cons,List.map_nil,List.getD_cons_zero,List.getD_cons_succ,List.map_append,List.map_map]
  rfl
 rwa [this] at hn
theorem right_one {r : LRun} {q x y : LQuery} (h : QOk r q) (hk : q.kind = 4 ∨ q.kind = 5) (hi : q.inputs = [x,y]) {t : LTable} (hd : Keyed r y (e0Q q) t) (hx : ∀ row ∈ aJ r x,dL (aO r x) row) (hy : ∀ row ∈ aJ r y,dL (aO r y) row) :
  ∀ a ∈ aJ r x,(eT (cU r (aO r x ++ aO r y) q) a (aJ r y)).length ≤ 1 := by
 intro a ha
 have hn := tM h hk hi
 have hal := (hx a ha).1
 rw [oi]
 refine rG (hd.rows.imp_of_mem fun {p p'} hp hp' hne=>?_)
 rintro ⟨h1,h2⟩
 have hpl := (hy p hp).1
 have hpl' := (hy p' hp').1
 refine hne (key_same (by rw [hpl,hd.cols]) (by rw [hpl',hd.cols]) fun k hk h0=>?_)
 obtain ⟨_,c,hc,hdet⟩ := hd.det k hk
 have hj : (aO r x ++ aO r y)[(aO r x).length + k.toNat]? = some c := by
  rw [List.getElem?_append_right (by omega),hd.cols,Nat.add_sub_cancel_left]; exact hc
 have := det_eq (r := r) hn hj hdet (z := a ++ p) (z' := a ++ p') (by simp [hal,hpl]) (by simp [hal,hpl']) (fun i d hdi hown=>by
  by_cases hil : i < (aO r x).length
  ·rw [List.getElem?_append_left (by omega),List.getElem?_append_left (by omega)]
  ·rw [List.getElem?_append_right (by omega),hd.cols] at hdi
   exact absurd rfl (hown d (eX hdi))) h1 h2
 rw [List.getElem?_append_right (by omega),List.getElem?_append_right (by omega)] at this
 rw [show (aO r x).length + k.toNat - a.length = k.toNat from by omega] at this
 exact this
theorem left_one {r : LRun} {q x y : LQuery} (h : QOk r q) (hk : q.kind = 4 ∨ q.kind = 5) (hi : q.inputs = [x,y]) {t : LTable} (hd : Keyed r x (e0Q q) t) (hx : ∀ row ∈ aJ r x,dL (aO r x) row) (hy : ∀ row ∈ aJ r y,dL (aO r y) row) :
  ∀ b ∈ aJ r y,((aJ r x).filter fun a=>cU r (aO r x ++ aO r y) q (a ++ b)).length ≤ 1 := by
 intro b hb
 have hn := tM h hk hi
 have hbl := (hy b hb).1
 refine rG (hd.rows.imp_of_mem fun {p p'} hp hp' hne=>?_)
 rintro ⟨h1,h2⟩
 have hpl := (hx p hp).1
 have hpl' := (hx p' hp').1
 refine hne (key_same (by rw [hpl,hd.cols]) (by rw [hpl',hd.cols]) fun k hk h0=>?_)
 obtain ⟨_,c,hc,hdet⟩ := hd.det k hk
 have hkl := (zg.1 hc).1
 rw [← hd.cols] at hkl
 have hj : (aO r x ++ aO r y)[k.toNat]? = some c := by
  rw [List.getElem?_append_left hkl,hd.cols]; exact hc
 have := det_eq (r := r) hn hj hdet (z := p ++ b) (z' := p' ++ b) (by simp [hbl,hpl]) (by simp [hbl,hpl']) (fun i d hdi hown=>by
  by_cases hil : i < (aO r x).length
  ·rw [List.getElem?_append_left hil,hd.cols] at hdi
   exact absurd rfl (hown d (eX hdi))
  ·rw [List.getElem?_append_right (by omega),List.getElem?_append_right (by omega),hpl,hpl']) h1 h2
 rwa [List.getElem?_append_left (by omega),List.getElem?_append_left (by omega)] at this
theorem rz {r : LRun} {cols : List LCol} {q : LQuery} (hk : (e0Q q).kind = 1) (z : Rq) : cU r cols q z = dD (e0Q q).value := by
 unfold cU
 rw [gT,hk]
 rfl
theorem sL : ∀ a b : Rows,a.length ≤ (kK a b).length + b.length
 | [],b=>by simp
 | x :: a,b=>by
  rw [kK]
  split
  ·rename_i h
   have h1 := sL a (b.erase x)
   have h2 := List.length_erase_of_mem h
   have h3 := List.length_pos_of_mem h
   rw [List.length_cons]
   omega
  ·have h1 := sL a b
   rw [List.length_cons,List.length_cons]
   omega
theorem keysF_ge (key : Rq → Rq) : ∀ (l ks : Rows),ks.length ≤ (dU key ks l).length
 | [],ks=>by simp [dU]
 | x :: l,ks=>by
  rw [dU]
  have := keysF_ge key l (if key x ∈ ks then ks else ks ++ [key x])
  split at this
  ·rename_i h; rw [zp h]; exact this
  ·rename_i h; rw [zy h]; simp at this; omega
theorem keysF_one (key : Rq → Rq) (hk : ∀ x,key x = []) : ∀ l : Rows,dU key [[]] l = [[]]
 | []=>rfl
 | x :: l=>by rw [dU,hk x,zp (by simp)]; exact keysF_one key hk l
theorem group_bounds (r : LRun) (cols : List LCol) (q : LQuery) (l : Rows) : (q.exprs = [] → (kt r cols q l).length = 1) ∧ (q.exprs ≠ [] → (kt r cols q l).length ≤ l.length ∧ min 1 l.length ≤ (kt r cols q l).length) := by
 unfold kt
 rw [zl]
 constructor
 ·intro h
  rw [zp h,keysF_one _ (fun x=>by rw [h]; rfl)]
  rfl
 ·intro h
  rw [zy h]
  refine ⟨by simpa using oa _ l [],?_⟩
  cases l with
  | nil=>simp
  | cons x l =>
   rw [dU,zy (by simp)]
   have := keysF_ge (fun x=>q.exprs.map fun e=>bP (aW r cols x) e) l ([] ++ [q.exprs.map fun e=>bP (aW r cols x) e])
   simp at this ⊢
   omega
theorem limit_len (q : LQuery) (l : Rows) : (mD q l).length = min q.count.toNat (l.length - q.offset.toNat) := by
 unfold mD
 rw [List.length_drop,List.length_take]
 omega
structure Bd (r : LRun) (q : LQuery) (B : LCardinalityBounds) : Prop where
 low0 : 0 ≤ B.low
 low : B.low ≤ (aJ r q).length
 high : (aJ r q).length ≤ B.high
 most : B.high ≤ (bv q).1
def qf (q : LQuery) : Prop := ∀ x ∈ cB q,∀ e ∈ x.exprs,bi (bE e) ≤ 1048576
theorem qf.sub {q x : LQuery} (h : qf q) (hx : x ∈ q.inputs) : qf x := fun y hy=>h y (qt hx hy)
theorem qf.e0 {q : LQuery} (h : qf q) (hl : q.exprs.length = 1) : bi (bE (e0Q q)) ≤ 1048576 := h q (mN q) _ (e0_mem hl)
def IntsQ (q : LQuery) : Prop := ∀ x ∈ cB q,x.offset ≤ 9223372036854775807
theorem IntsQ.sub {q x : LQuery} (h : IntsQ q) (hx : x ∈ q.inputs) : IntsQ x := fun y hy=>h y (qt hx hy)
def il (st : List LRelation) : List LCardinalityTableSize := st.map fun x=>LCardinalityTableSize.mk x.table (x.rows.length : Int)
theorem oe {a b c d : Int} (ha : 0 ≤ a) (hb : 0 ≤ b) (h1 : a ≤ c) (h2 : b ≤ d) : a * b ≤ c * d := Int.mul_le_mul h1 h2 hb (by omega)
structure JBd (r : LRun) (q x y : LQuery) (J : LCardinalityBounds) : Prop where
 low0 : 0 ≤ J.low
 low : J.low ≤ ((dF (cU r (aO r x ++ aO r y) q) false [] (aJ r x) (aJ r y)).length : Int)
 high : ((dF (cU r (aO r x ++ aO r y) q) false [] (aJ r x) (aJ r y)).length : Int) ≤ J.high
 most : J.high ≤ (bv x).1 * cP 1 (bv y).1
theorem join_bd {r : LRun} (hr : RunOk r) (hs : lx r.s) {q x y : LQuery} (h : QOk r q) (ht : qf q) (hk : q.kind = 4 ∨ q.kind = 5) (hi : q.inputs = [x,y]) {A B : LCardinalityBounds} (hA : Bd r x A) (hB : Bd r y B) :
  ∃ J,gK r.s q [A,B] = some J ∧ JBd r q x y J := by
 have hl := (pz (mh h.cols).1).one (by omega)
 have he : aF q.exprs 0 = some (e0Q q) := pt (by omega)
 have hb := ht.e0 hl
 have hxm : x ∈ q.inputs := by rw [hi]; simp
 have hym : y ∈ q.inputs := by rw [hi]; simp
 have fx := lq hr x (h.sub hxm)
 have fy := lq hr y (h.sub hym)
 have mx := (dO (h.sub hxm).most).1
 have my := (dO (h.sub hym).most).1
 have mx2 := (h.sub hxm).most
 have my2 := (h.sub hym).most
 have g0 : aF [A,B] 0 = some A := rfl
 have g1 : aF [A,B] 1 = some B := rfl
 have i0 : aF q.inputs 0 = some x := by rw [hi]; rfl
 have i1 : aF q.inputs 1 = some y := by rw [hi]; rfl
 have a0 : 0 ≤ A.high := Int.le_trans (by omega) hA.high
 have b0 : 0 ≤ B.high := Int.le_trans (by omega) hB.high
 have am := hA.most
 have bm := hB.most
 have hp1 : A.high * B.high ≤ (bv x).1 * cP 1 (bv y).1 := oe a0 b0 am (Int.le_trans bm (lJ _ _))
 have hp2 : A.high * B.high ≤ 20000 * 20000 := oe a0 b0 (by omega) (by omega)
 have hp0 : 0 ≤ A.high * B.high := Int.mul_nonneg a0 b0
 have hw : IntKind.i64.wrap (A.high * B.high) = A.high * B.high := bs (by omega) (by omega)
 have al : A.low ≤ A.high := Int.le_trans hA.low hA.high
 have bl : B.low ≤ B.high := Int.le_trans hB.low hB.high
 have hlen : ((aJ r x).length : Int) * ((aJ r y).length : Int) ≤ A.high * B.high := oe (by omega) (by omega) hA.high hB.high
 have hinner := rR (cU r (aO r x ++ aO r y) q) [] (aJ r x) (aJ r y)
 have hinner' : ((dF (cU r (aO r x ++ aO r y) q) false [] (aJ r x) (aJ r y)).length : Int) ≤ A.high * B.high := by
  have : (((aJ r x).length * (aJ r y).length : Nat) : Int) = ((aJ r x).length : Int) * ((aJ r y).length : Int) := by simp
  omega
 unfold gK
 simp only [g0,g1,he,i0,i1,bPs,hw]
 by_cases hlit : (e0Q q).kind = 1
 ·rw [gZ hlit,zc,bF]
  cases hv : dD (e0Q q).value with
  | true =>
   have hll : 0 ≤ A.low * B.low := Int.mul_nonneg hA.low0 hB.low0
   have hlh : A.low * B.low ≤ ((aJ r x).length : Int) * ((aJ r y).length : Int) := oe hA.low0 hB.low0 hA.low hB.low
   have hwl : IntKind.i64.wrap (A.low * B.low) = A.low * B.low := bs (by omega) (by omega)
   have hjl := join_all (f := cU r (aO r x ++ aO r y) q) (fun z=>by rw [rz hlit,hv]) [] (aJ r x) (aJ r y)
   refine ⟨_,rfl,?_,?_,?_,?_⟩
   ·simpa [hwl] using hll
   ·rw [hjl]
    simp only [hwl]
    simpa using hlh
   ·simpa using hinner'
   ·simpa using hp1
  | false =>
   have hjl := join_none (f := cU r (aO r x ++ aO r y) q) (fun z=>by rw [rz hlit,hv]) [] (aJ r x) (aJ r y)
   refine ⟨_,rfl,by simp,by simp,?_,?_⟩
   ·rw [hjl]; simp
   ·simp only; omega
 ·rw [cr hlit,zd]
  obtain ⟨k1,hk1,hd1⟩ := sQ hr hs (h.sub hym) hb
  obtain ⟨k0,hk0,hd0⟩ := sQ hr hs (h.sub hxm) hb
  rw [hk1,hk0]
  simp only [bPs]
  -- the first bound
  have hT : ∃ T,(cond k1 (some (if A.high < A.high * B.high then A.high else A.high * B.high)) (some (A.high * B.high))) = some T ∧ ((dF (cU r (aO r x ++ aO r y) q) false [] (aJ r x) (aJ r y)).length : Int) ≤ T ∧ T ≤ A.high * B.high := by
   cases k1 with
   | false=>exact ⟨_,rfl,hinner',Int.le_refl _⟩
   | true =>
    obtain ⟨t,hd⟩ := hd1 rfl
    have h1 := pE (cU r (aO r x ++ aO r y) q) false [] (aJ r x) (aJ r y) (right_one h hk hi hd fx.fits fy.fits)
    have h2 := hA.high
    refine ⟨_,rfl,?_,?_⟩
    ·split <;> omega
    ·split <;> omega
  obtain ⟨T,hT1,hT2,hT3⟩ := hT
  rw [hT1,bPs]
  cases k0 with
  | false=>exact ⟨_,rfl,by simp,by simp,hT2,Int.le_trans hT3 hp1⟩
  | true =>
   obtain ⟨t,hd⟩ := hd0 rfl
   have h1 : (dF (cU r (aO r x ++ aO r y) q) false [] (aJ r x) (aJ r y)).length ≤ (aJ r y).length := by
    rw [oS]
    exact count_le (fun a b=>cU r (aO r x ++ aO r y) q (a ++ b)) _ _ (left_one h hk hi hd fx.fits fy.fits)
   have h2 := hB.high
   refine ⟨_,rfl,by simp,by simp,?_,?_⟩
   ·simp only; split <;> omega
   ·simp only; split <;> omega
theorem scan_size (st : List LRelation) (name : List UInt8) {k : Unit → Option LCardinalityBounds} (hk : k () = some ⟨0,0⟩) : af (aK (σ := Unit) (ρ := (LCardinalityBounds)) (fun (_ : Nat) (x2 : LCardinalityTableSize) (_ : Unit) =>
   cond (x2.table == name)
    (some (.ret (LCardinalityBounds.mk x2.rows x2.rows)))
    (some (.next ()))) 0 (il st) ()) (fun fl2=>fl2.thenR k) =
  some (match st.find? fun x=>x.table == name with | some x=>⟨(x.rows.length : Int),(x.rows.length : Int)⟩ | none=>⟨0,0⟩) := by
 rw [lH (fun x : LCardinalityTableSize=>x.table == name) (fun _ x=>⟨x.rows,x.rows⟩) (il st) 0 (fun k x _=>by cases x.table == name <;> rfl)]
 have e : (il st).findIdx? (fun x=>x.table == name) = st.findIdx? fun x=>x.table == name := by
  unfold il; rw [List.findIdx?_map]; rfl
 rw [e]
 rcases rg (fun x : LRelation=>x.table == name) st with ⟨h1,h2⟩ | ⟨x,h1,h2,h3⟩
 ·rw [h1]
  unfold ba at h2
  cases hf : st.findIdx? (fun x=>x.table == name) with
  | none=>exact hk
  | some i=>rw [hf] at h2; simp only at h2; omega
 ·rw [h1]
  unfold ba at h2 h3
  cases hf : st.findIdx? (fun x=>x.table == name) with
  | none=>rw [hf] at h2; simp at h2
  | some i =>
   rw [hf] at h3
   simp only [Int.toNat_natCast] at h3
   have : (il st)[i]? = some (LCardinalityTableSize.mk x.table (x.rows.length : Int)) := by
    unfold il; rw [List.getElem?_map,h3]; rfl
   simp only [this]
   rfl
theorem est_ok {r : LRun} (hr : RunOk r) (hs : lx r.s) : ∀ q : LQuery,QOk r q → qf q → IntsQ q → ∃ B,cj r.s (il r.st) q = some B ∧ Bd r q B := by
 refine LQuery.ind fun q ih h ht hn=>?_
 have hsh := pz (mh h.cols).1
 have hfit := lq hr q h
 have hall : ∀ x ∈ q.inputs,∃ B,cj r.s (il r.st) x = some B ∧ Bd r x B := fun x hx=>ih x hx (h.sub hx) (ht.sub hx) (hn.sub hx)
 have har := hsh.arity
 have hil : q.inputs.length ≤ 2 := by
  rw [har]; unfold oB; split
  ·omega
  ·split <;> omega
 -- the recursion,unfolded once
 have hstep : ∀ B,dI cj r.s (il r.st) q = some B → cj r.s (il r.st) q = some B := by
  intro B hO
  refine nj (γ := LSchema × List LCardinalityTableSize) (F := fun n c q=>gw n c.1 c.2 q) (O := fun r c q=>dI (fun a b x=>r (a,b) x) c.1 c.2 q) (fun n=>rfl) (r.s,il r.st) q ?_ (fun x hx=>?_) hO
  ·intro f f' hf
   simp only [dI]
   congr 1
   exact kv q.inputs 0 _ fun k x s hk=>by rw [hf x (eX hk)]
  ·obtain ⟨B,hB,_⟩ := hall x hx
   exact ⟨B,hB⟩
 let g : LQuery → LCardinalityBounds := fun x=>(cj r.s (il r.st) x).getD ⟨0,0⟩
 have hg : ∀ x ∈ q.inputs,cj r.s (il r.st) x = some (g x) ∧ Bd r x (g x) := by
  intro x hx
  obtain ⟨B,hB,hbd⟩ := hall x hx
  have : g x = B := by show (cj r.s (il r.st) x).getD _ = B; rw [hB]; rfl
  rw [this]
  exact ⟨hB,hbd⟩
 have hloop : aK (σ := List LCardinalityBounds) (ρ := Empty) (fun (_ : Nat) (x1 : LQuery) (s1 : List LCardinalityBounds) =>
   af (cj r.s (il r.st) x1) fun x24 =>
   af (dg 16 s1 ([x24] : List LCardinalityBounds)) fun (x26 : List LCardinalityBounds) =>
   some (.next x26)) 0 q.inputs [] = some (.next (q.inputs.map g)) := lD g (fun k x hk=>by
  have hkl := (zg.1 hk).1
  rw [(hg x (eX hk)).1,bPs,bV (by decide) (by simp; omega),bPs])
 suffices hO : ∃ B,dI cj r.s (il r.st) q = some B ∧ Bd r q B by
  obtain ⟨B,h1,h2⟩ := hO
  exact ⟨B,hstep B h1,h2⟩
 unfold dI
 rw [hloop,bPs,bX]
 have kk : q.kind = 1 ∨ q.kind = 2 ∨ q.kind = 3 ∨ q.kind = 4 ∨ q.kind = 5 ∨ q.kind = 6 ∨ q.kind = 7 ∨ q.kind = 8 ∨ q.kind = 9 ∨ q.kind = 10 := by have := hsh.kind; omega
 have hmost := hfit.len
 rcases kk with k | k | k | k | k | k | k | k | k | k
 ·-- scan
  rw [gZ k,zc,scan_size _ _ rfl]
  refine ⟨_,rfl,?_⟩
  have hrow : aJ r q = (match r.st.find? fun x=>x.table == q.table with | some x=>x.rows | none=>[]) := by
   rw [cD]; unfold cq; rw [zp k] <;> rfl
  cases hf : r.st.find? (fun x=>x.table == q.table) with
  | none =>
   rw [hf] at hrow
   refine ⟨by simp,by simp [hrow],by simp [hrow],?_⟩
   have := hfit.pos
   simp only; omega
  | some x =>
   rw [hf] at hrow
   rw [hrow] at hmost
   exact ⟨by simp,by simp [hrow],by simp [hrow],hmost⟩
 ·-- filter
  obtain ⟨x,hx⟩ := one (by rw [har,k]; rfl : q.inputs.length = 1)
  have hxm : x ∈ q.inputs := by rw [hx]; simp
  obtain ⟨hA1,hA⟩ := hg x hxm
  have hmo := jW h.most (by omega) hx
  obtain ⟨hrow,_⟩ := tN h k hx
  have he : aF q.exprs 0 = some (e0Q q) := pt (by have := hsh.one (by omega); omega)
  have hlen := List.length_filter_le (cU r (aO r x) q) (aJ r x)
  rw [← hrow] at hlen
  have hh := hA.high
  have hm := hA.most
  rw [cr (by omega),zd,gZ k,zc,hx,List.map_cons,List.map_nil]
  rw [show aF [g x] 0 = some (g x) from rfl,bPs,he,bPs,bF]
  unfold iq
  by_cases hlit : (e0Q q).kind = 1
  ·rw [gZ hlit,zc,bF]
   cases hv : dD (e0Q q).value with
   | true =>
    have : aJ r q = aJ r x := by rw [hrow]; exact List.filter_eq_self.2 fun y _=>by rw [rz hlit,hv]
    refine ⟨_,rfl,hA.low0,?_,?_,?_⟩
    ·rw [this]; exact hA.low
    ·rw [this]; exact hA.high
    ·rw [hmo]; exact hA.most
   | false =>
    have : aJ r q = [] := by rw [hrow]; exact List.filter_eq_nil_iff.2 fun y _=>by rw [rz hlit,hv]; simp
    refine ⟨_,rfl,by simp,by rw [this]; simp,by rw [this]; simp,?_⟩
    have := hfit.pos
    simp only [zd]; omega
  ·rw [cr hlit,zd]
   exact ⟨_,rfl,by simp,by simp,by simp only; omega,by simp only; omega⟩
 ·-- project
  obtain ⟨x,hx⟩ := one (by rw [har,k]; rfl : q.inputs.length = 1)
  obtain ⟨hA1,hA⟩ := hg x (by rw [hx]; simp)
  have hmo := jW h.most (by omega) hx
  have hrow : (aJ r q).length = (aJ r x).length := by
   rw [cD,hx]
   unfold cq
   rw [zy (by omega),zy (by omega),zy (by omega),zy (by omega),zy (by omega),zp k]
   simp
  refine ⟨g x,?_,hA.low0,by rw [hrow]; exact hA.low,by rw [hrow]; exact hA.high,by rw [hmo]; exact hA.most⟩
  rw [k,hx]
  rfl
 ·-- inner join
  obtain ⟨x,y,hxy⟩ := two (by rw [har,k]; rfl : q.inputs.length = 2)
  obtain ⟨_,hA⟩ := hg x (by rw [hxy]; simp)
  obtain ⟨_,hB⟩ := hg y (by rw [hxy]; simp)
  obtain ⟨J,hJ,hj⟩ := join_bd hr hs h ht (.inl k) hxy hA hB
  have hmo := jT h.most (by omega) hxy
  rw [zy (by omega),zp (by omega)] at hmo
  have hrow : (aJ r q).length = (dF (cU r (aO r x ++ aO r y) q) false [] (aJ r x) (aJ r y)).length := by
   rw [cD,hxy]
   unfold cq
   rw [zy (by omega),zp (.inl k),show (q.kind == 5) = false from cr (by omega)]
   simp only [List.map_cons,List.map_nil,List.getD_cons_zero,List.getD_cons_succ]
   rw [oS,oS]
  refine ⟨J,?_,hj.low0,by rw [hrow]; exact hj.low,by rw [hrow]; exact hj.high,by rw [hmo]; exact hj.most⟩
  rw [cr (by omega),zd,cr (by omega),zd,gZ k,zc,hxy,List.map_cons,List.map_cons,List.map_nil,hJ]
  rfl
 ·-- left join
  obtain ⟨x,y,hxy⟩ := two (by rw [har,k]; rfl : q.inputs.length = 2)
  have hxm : x ∈ q.inputs := by rw [hxy]; simp
  have hym : y ∈ q.inputs := by rw [hxy]; simp
  obtain ⟨_,hA⟩ := hg x hxm
  obtain ⟨_,hB⟩ := hg y hym
  obtain ⟨J,hJ,hj⟩ := join_bd hr hs h ht (.inr k) hxy hA hB
  have hmo := jT h.most (by omega) hxy
  rw [zy (by omega),zp (by omega)] at hmo
  have fx := lq hr x (h.sub hxm)
  have fy := lq hr y (h.sub hym)
  have mx := (dO (h.sub hxm).most).1
  have my := (dO (h.sub hym).most).1
  have mx2 := (h.sub hxm).most
  have my2 := (h.sub hym).most
  have he : aF q.exprs 0 = some (e0Q q) := pt (by have := hsh.one (by omega); omega)
  have hrow : aJ r q = dF (cU r (aO r x ++ aO r y) q) true (List.replicate (aO r y).length .nul) (aJ r x) (aJ r y) := by
   rw [cD,hxy]
   unfold cq
   rw [zy (by omega),zp (.inr k),show (q.kind == 5) = true from gZ k]
   rfl
  have h1 := sK (cU r (aO r x ++ aO r y) q) (List.replicate (aO r y).length .nul) (aJ r x) (aJ r y)
  have h2 := rV (cU r (aO r x ++ aO r y) q) true [] (List.replicate (aO r y).length .nul) (aJ r x) (aJ r y)
  have h3 := qn (cU r (aO r x ++ aO r y) q) true (List.replicate (aO r y).length .nul) (aJ r x) (aJ r y)
  rw [← hrow] at h1 h2 h3
  have a0 : 0 ≤ (g x).high := Int.le_trans (by omega) hA.high
  have b0 : 0 ≤ (g y).high := Int.le_trans (by omega) hB.high
  have ah := hA.high
  have bh := hB.high
  have am := hA.most
  have bm := hB.most
  have xpos := fx.pos
  have hM : (bv x).1 ≤ (bv x).1 * cP 1 (bv y).1 := by
   have := oe (a := (bv x).1) (b := 1) (c := (bv x).1) (d := cP 1 (bv y).1) (by omega) (by omega) (Int.le_refl _) (iD _ _)
   omega
  generalize hmx : (if (g y).high > (1 : Int) then (g y).high else (1 : Int)) = m1
  have hm1 : 1 ≤ m1 ∧ (g y).high ≤ m1 ∧ m1 ≤ cP 1 (bv y).1 ∧ m1 ≤ 20000 := by
   have c1 := iD 1 (bv y).1
   have c2 := lJ 1 (bv y).1
   rw [← hmx]; split <;> omega
  have hp1 : (g x).high * m1 ≤ (bv x).1 * cP 1 (bv y).1 := oe a0 (by omega) am hm1.2.2.1
  have hp2 : (g x).high * m1 ≤ 20000 * 20000 := oe a0 (by omega) (by omega) (by omega)
  have hp0 : 0 ≤ (g x).high * m1 := Int.mul_nonneg a0 (by omega)
  have hw : IntKind.i64.wrap ((g x).high * m1) = (g x).high * m1 := bs (by omega) (by omega)
  have hlen : ((aJ r q).length : Int) ≤ (g x).high * m1 := by
   have e1 : (((aJ r x).length * max 1 (aJ r y).length : Nat) : Int) = ((aJ r x).length : Int) * ((max 1 (aJ r y).length : Nat) : Int) := by simp
   have e2 : ((aJ r x).length : Int) * ((max 1 (aJ r y).length : Nat) : Int) ≤ (g x).high * m1 := oe (by omega) (by omega) ah (by omega)
   omega
  obtain ⟨k1,hk1,hd1⟩ := sQ hr hs (h.sub hym) (ht.e0 (hsh.one (by omega)))
  have hleft : ∃ v,iG r.s q [g x,g y] J = some v ∧ ((aJ r q).length : Int) ≤ v ∧ v ≤ (bv x).1 * cP 1 (bv y).1 := by
   unfold iG
   have i1 : aF q.inputs 1 = some y := by rw [hxy]; rfl
   rw [i1,he]
   simp only [bPs,hk1]
   cases k1 with
   | true =>
    obtain ⟨t,hd⟩ := hd1 rfl
    have c1 := pE (cU r (aO r x ++ aO r y) q) true (List.replicate (aO r y).length .nul) (aJ r x) (aJ r y) (right_one h (.inr k) hxy hd fx.fits fy.fits)
    rw [← hrow] at c1
    exact ⟨(g x).high,rfl,by omega,by omega⟩
   | false =>
    refine ⟨(g x).high * m1,?_,hlen,hp1⟩
    show (af (aF [g x,g y] 0) fun x24=>af (aF [g x,g y] 1) fun x28=>some (IntKind.i64.wrap (x24.high * (if x28.high > (1 : Int) then x28.high else (1 : Int))))) = _
    rw [show aF [g x,g y] 0 = some (g x) from rfl,show aF [g x,g y] 1 = some (g y) from rfl,bPs,bPs,hmx,hw]
  obtain ⟨v,hv,hv1,hv2⟩ := hleft
  have jl := hj.low
  have jl0 := hj.low0
  have al := hA.low
  have al0 := hA.low0
  rw [cr (by omega),zd,cr (by omega),zd,cr (by omega),zd,gZ k,zc,hxy,List.map_cons,List.map_cons,List.map_nil,hJ,bPs]
  rw [show aF [g x,g y] 0 = some (g x) from rfl,bPs,bPs,hv,bPs]
  refine ⟨_,rfl,?_,?_,?_,?_⟩
  ·simp only; split <;> omega
  ·simp only; split <;> omega
  ·simp only; split <;> omega
  ·simp only; rw [hmo]; split <;> omega
 ·-- union
  obtain ⟨x,y,hxy⟩ := two (by rw [har,k]; rfl : q.inputs.length = 2)
  obtain ⟨_,hA⟩ := hg x (by rw [hxy]; simp)
  obtain ⟨_,hB⟩ := hg y (by rw [hxy]; simp)
  have hmo := jT h.most (by omega) hxy
  rw [zp k] at hmo
  have hrow : (aJ r q).length = (aJ r x).length + (aJ r y).length := by
   rw [cD,hxy]
   unfold cq
   rw [zy (by omega),zy (by omega),zp k]
   simp
  have m2 := h.most
  have m1 := (dO h.most).1
  have := hA.low0; have := hA.low; have := hA.high; have := hA.most
  have := hB.low0; have := hB.low; have := hB.high; have := hB.most
  rw [k,hxy]
  refine ⟨⟨IntKind.i64.wrap ((g x).low + (g y).low),IntKind.i64.wrap ((g x).high + (g y).high)⟩,rfl,?_⟩
  rw [bs (by omega) (by omega),bs (by omega) (by omega)]
  exact ⟨by simp only; omega,by simp only; omega,by simp only; omega,by simp only; omega⟩
 ·-- except
  obtain ⟨x,y,hxy⟩ := two (by rw [har,k]; rfl : q.inputs.length = 2)
  obtain ⟨_,hA⟩ := hg x (by rw [hxy]; simp)
  obtain ⟨_,hB⟩ := hg y (by rw [hxy]; simp)
  have hmo := jT h.most (by omega) hxy
  rw [zy (by omega),zy (by omega)] at hmo
  have hrow : aJ r q = kK (aJ r x) (aJ r y) := by
   rw [cD,hxy]
   unfold cq
   rw [zy (by omega),zy (by omega),zy (by omega),zp k]
   rfl
  have h1 := sL (aJ r x) (aJ r y)
  have h2 := (qj (aJ r x) (aJ r y)).length_le
  rw [← hrow] at h1 h2
  have m2 := h.most
  have m1 := (dO h.most).1
  have my2 := (h.sub (show y ∈ q.inputs by rw [hxy]; simp)).most
  have my := (dO my2).1
  have := hA.low0; have := hA.low; have := hA.high; have := hA.most
  have := hB.low0; have := hB.low; have := hB.high; have := hB.most
  rw [k,hxy]
  refine ⟨⟨if IntKind.i64.wrap ((g x).low - (g y).high) > (0 : Int) then IntKind.i64.wrap ((g x).low - (g y).high) else (0 : Int),(g x).high⟩,rfl,?_⟩
  rw [bs (by omega) (by omega)]
  exact ⟨by simp only; split <;> omega,by simp only; split <;> omega,by simp only; omega,by simp only; omega⟩
 ·-- aggregate
  obtain ⟨x,hx⟩ := one (by rw [har,k]; rfl : q.inputs.length = 1)
  obtain ⟨_,hA⟩ := hg x (by rw [hx]; simp)
  have hmo := jW h.most (by omega) hx
  have hrow : aJ r q = kt r (aO r x) q (aJ r x) := by
   rw [cD,hx]
   unfold cq
   rw [zy (by omega),zy (by omega),zy (by omega),zy (by omega),zy (by omega),zy (by omega),zp k]
   rfl
  obtain ⟨h1,h2⟩ := group_bounds r (aO r x) q (aJ r x)
  rw [← hrow] at h1 h2
  have := hA.low0; have := hA.low; have := hA.high; have := hA.most
  have hpos := hfit.pos
  by_cases he : q.exprs = []
  ·have := h1 he
   refine ⟨⟨1,1⟩,?_,by simp only; omega,by simp only; omega,by simp only; omega,by simp only; omega⟩
   rw [k,he]
   rfl
  ·obtain ⟨h3,h4⟩ := h2 he
   have hl : ((q.exprs.length : Int) == 0) = false := by
    have : q.exprs.length ≠ 0 := fun h0=>he (List.length_eq_zero_iff.1 h0)
    simp; exact he
   refine ⟨⟨if (g x).low < (1 : Int) then (g x).low else (1 : Int),(g x).high⟩,?_,?_,?_,?_,?_⟩
   ·rw [k,hx,hl]
    rfl
   ·simp only; split <;> omega
   ·simp only; split <;> omega
   ·simp only; omega
   ·simp only; omega
 ·-- sort
  obtain ⟨x,hx⟩ := one (by rw [har,k]; rfl : q.inputs.length = 1)
  have hxm : x ∈ q.inputs := by rw [hx]; simp
  obtain ⟨hA1,hA⟩ := hg x hxm
  have hmo := jW h.most (by omega) hx
  have fx := lq hr x (h.sub hxm)
  have mx := (dO (h.sub hxm).most).1
  have mx2 := (h.sub hxm).most
  have fl := fx.len
  have hrow : (aJ r q).length = (aJ r x).length := by
   rw [cD,hx]
   unfold cq
   rw [zy (by omega),zy (by omega),zy (by omega),zy (by omega),zy (by omega),zy (by omega),zy (by omega),zp k]
   obtain ⟨l',h1,h2⟩ := sort_ok r q (aO r x) (aJ r x) (by omega) h.small.self.1
   simp only [List.map_cons,List.map_nil,List.getD_cons_zero,h1,Option.getD_some]
   exact h2.length_eq
  refine ⟨g x,?_,hA.low0,by rw [hrow]; exact hA.low,by rw [hrow]; exact hA.high,by rw [hmo]; exact hA.most⟩
  rw [k,hx]
  rfl
 ·-- limit
  obtain ⟨x,hx⟩ := one (by rw [har,k]; rfl : q.inputs.length = 1)
  have hxm : x ∈ q.inputs := by rw [hx]; simp
  obtain ⟨hA1,hA⟩ := hg x hxm
  have hmo := jW h.most (by omega) hx
  have mx := (dO (h.sub hxm).most).1
  have mx2 := (h.sub hxm).most
  have hrow : aJ r q = mD q (aJ r x) := by
   rw [cD,hx]
   unfold cq
   rw [zy (by omega),zy (by omega),zy (by omega),zy (by omega),zy (by omega),zy (by omega),zy (by omega),zy (by omega)]
   rfl
  obtain ⟨hc,ho⟩ := hsh.limit k
  have hlen := limit_len q (aJ r x)
  rw [← hrow] at hlen
  have := hA.low0; have := hA.low; have := hA.high; have := hA.most
  have hob := hn q (mN q)
  rw [k,hx]
  refine ⟨⟨if (if (IntKind.i64.wrap ((g x).low - q.offset)) > (0 : Int) then (IntKind.i64.wrap ((g x).low - q.offset)) else (0 : Int)) < q.count then (if (IntKind.i64.wrap ((g x).low - q.offset)) > (0 : Int) then (IntKind.i64.wrap ((g x).low - q.offset)) else (0 : Int)) else q.count,if (if (IntKind.i64.wrap ((g x).high - q.offset)) > (0 : Int) then (IntKind.i64.wrap ((g x).high - q.offset)) else (0 : Int)) < q.count then (if (IntKind.i64.wrap ((g x).high - q.offset)) > (0 : Int) then (IntKind.i64.wrap ((g x).high - q.offset)) else (0 : Int)) else q.count⟩,rfl,?_⟩
  rw [bs (by omega) (by omega),bs (by omega) (by omega)]
  exact ⟨by simp only; (repeat' split) <;> omega,by simp only; (repeat' split) <;> omega,by simp only; (repeat' split) <;> omega,by simp only; (repeat' split) <;> omega⟩
theorem sizes_ok (st : List LRelation) (hl : st.length ≤ 10000000) : fP st = some (il st) := by
 unfold fP
 rw [lD (fun x : LRelation=>LCardinalityTableSize.mk x.table (x.rows.length : Int)) (fun k x hk=>by
  have hkl := (zg.1 hk).1
  rw [bV (by decide) (by simp; omega),bPs]),bPs,bX]
 rfl
theorem uz {s : LSchema} (hs : lx s) {st : List LRelation} (hst : st.length ≤ 10000000) {q : LQuery} (hq : TinyQ q) (ht : qf q) (hn : IntsQ q) (args : Rq) :
  eN s st q args = some true := by
 unfold eN
 rw [bF,show (!sampleV) = false from rfl,zd]
 obtain ⟨b,hb,hruns⟩ := runs_tot hs st hq.small args
 rw [hb,bPs]
 cases b with
 | false=>rfl
 | true =>
  have h := hruns rfl
  have hr : RunOk (runOf s st args) := ⟨rfl,rfl,rfl,h.instOk hs⟩
  obtain ⟨B,hB,hbd⟩ := est_ok hr hs q (h.qok hq.small) ht hn
  have hB : cj s (il st) q = some B := hB
  rw [evaluate_eq hs hq.small h]
  simp only [Bool.not_true,zd,bPs,sizes_ok st hst,hB,zc]
  rw [zt hbd.low,zc,zt hbd.high]
mutual
def iwP : PV → Prop
 | .val v=>match v with
  | .int k m=>(Lit.int k m).wf = true
  | _=>True
 | .list _ rows=>pL rows
 | .str _=>True
 | .agg _=>True
 | .any=>True
 | .tup _=>True
 | .ptr _=>True
 | .fn _ _=>True
 | .box _ _ _=>True
 | .own _ _ _=>True
 | .optr _ _ _ _ _=>True
 | .err _=>True
def jB : List PV → Prop
 | []=>True
 | p :: ps=>iwP p ∧ jB ps
def pL : List (List PV) → Prop
 | []=>True
 | r :: rs=>jB r ∧ pL rs
end
theorem iwAll_app : ∀ {a b : List PV},jB a → jB b → jB (a ++ b)
 | [],_,_,hb=>hb
 | p :: a,b,ha,hb=>by
  simp only [jB,List.cons_append] at ha ⊢
  exact ⟨ha.1,iwAll_app ha.2 hb⟩
theorem iwRows_of : ∀ {rows : List (List PV)},(∀ r ∈ rows,jB r) → pL rows
 | [],_=>by simp [pL]
 | r :: rs,h=>by
  simp only [pL]
  exact ⟨h r (by simp),iwRows_of fun x hx=>h x (by simp [hx])⟩
theorem iwRows_mem : ∀ {rows : List (List PV)} {r : List PV},pL rows → r ∈ rows → jB r
 | x :: rs,r,h,hr=>by
  simp only [pL] at h
  rcases List.mem_cons.1 hr with rfl | hr
  ·exact h.1
  ·exact iwRows_mem h.2 hr
theorem shEach_iw {Sh : TypeId → List PV → Prop} (ih : ∀ t pvs,Sh t pvs → jB pvs) : ∀ {ts : List TypeId} {pvs : List PV},fN Sh ts pvs → jB pvs
 | [],pvs,h=>by simp only [fN] at h; subst h; simp [jB]
 | t :: ts,pvs,h=>by
  simp only [fN] at h
  obtain ⟨a,b,rfl,ha,hb⟩ := h
  exact iwAll_app (ih t a ha) (shEach_iw ih hb)
theorem sh_iw {P : Program} : ∀ (n : Nat) (t : TypeId) (pvs : List PV),Sh P n t pvs → jB pvs
 | 0,t,pvs,h=>by simp [Sh] at h
 | n + 1,t,pvs,h=>by
  simp only [Sh] at h
  split at h
  ·obtain ⟨b,rfl⟩ := h; simp [jB,iwP]
  ·obtain ⟨m,rfl,hm⟩ := h; simp [jB,iwP,hm]
  ·obtain ⟨l,rfl,_⟩ := h; simp [jB,iwP]
  ·obtain ⟨rows,rfl,hr⟩ := h
   simp only [jB,iwP]
   exact ⟨iwRows_of fun r hq=>sh_iw n _ r (hr r hq),trivial⟩
  ·exact shEach_iw (fun t pvs h=>sh_iw n t pvs h) h
  ·cases h
theorem ints_of : ∀ q : LQuery,jB (aH q) → IntsQ q := by
 apply LQuery.ind
 intro q ih h x hx
 simp only [aH,jB,iwP] at h
 rw [jf] at hx
 rcases List.mem_cons.1 hx with rfl | hx
 ·have ho := h.2.2.2.2.2.2.2.1
  simp only [Lit.wf,Bool.and_eq_true,decide_eq_true_eq] at ho
  have := ho.2
  have e : IntKind.i64.max = 9223372036854775807 := by decide
  omega
 ·simp only [List.mem_flatten,List.mem_map] at hx
  obtain ⟨l,⟨y,hy,rfl⟩,hx⟩ := hx
  have h2 := iwRows_mem h.2.2.2.2.2.2.2.2.1 (List.mem_map_of_mem (f := cn) hy)
  rw [bN] at h2
  exact ih y hy h2 x hx
theorem tinyE_bulk : ∀ q : LQuery,bi (cn q) ≤ 1048576 → qf q := by
 apply LQuery.ind
 intro q ih h x hx e he
 have e1 : bi (cn q) = bi (aH q) := by rw [bN]
 rw [e1] at h
 rw [jf] at hx
 rcases List.mem_cons.1 hx with rfl | hx
 ·have h1 := ku (List.mem_map_of_mem (f := bE) he)
  simp only [aH,bi,PV.bulk] at h
  omega
 ·simp only [List.mem_flatten,List.mem_map] at hx
  obtain ⟨l,⟨y,hy,rfl⟩,hx⟩ := hx
  have h2 := ku (List.mem_map_of_mem (f := cn) hy)
  simp only [aH,bi,PV.bulk] at h
  exact ih y hy (by omega) x hx e he
end
end Go.Proofs.YteceobbkljmbmaaGreatDoor
