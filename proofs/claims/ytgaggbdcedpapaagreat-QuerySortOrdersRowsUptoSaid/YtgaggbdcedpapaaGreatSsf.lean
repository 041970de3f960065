/- querySortOrdersRowsUpto_holds, part 6: the layer, the plain functions and what they compute; conditions as in the statement. -/
import Derived.Test.YtgaggbdcedpapaaGreatSse
set_option maxHeartbeats 4000000
namespace Go.Proofs.YtgaggbdcedpapaaGreat
open Go.IntKind (i64)
noncomputable section
open Go Go.Ab
def Tot {α : Type} (o : Option α) : Prop := ∃ v,o = some v
theorem Tot.mk {α : Type} {v : α} : Tot (Option.some v) := ⟨v,rfl⟩
theorem Tot.bind {α β : Type} {o : Option α} {k : α → Option β} (h : Tot o) (hk : ∀ v,o = some v → Tot (k v)) : Tot (aj o k) := by
 obtain ⟨v,hv⟩ := h
 rw [hv]
 exact hk v hv
theorem Tot.cond {α : Type} {b : Bool} {x y : Option α} (hx : b = true → Tot x) (hy : b = false → Tot y) : Tot (cond b x y) := by
 cases b
 ·exact hy rfl
 ·exact hx rfl
theorem Tot.get {α : Type} {xs : List α} {i : Int} (h0 : 0 ≤ i) (h : i < xs.length) : Tot (aF xs i) := by
 have : i.toNat < xs.length := by omega
 exact ⟨xs[i.toNat],kR h0 (ze this)⟩
theorem Tot.sub {α : Type} {xs : List α} {a b : Int} (h : 0 ≤ a ∧ a ≤ b ∧ b ≤ xs.length) : Tot (nj xs a b) := ⟨_,px h⟩
theorem Tot.range {α σ ρ : Type} {step : Nat → α → σ → Option (Flow σ ρ)} : ∀ (xs : List α) (j : Nat) (s : σ),(∀ k x s,xs[k]? = some x → Tot (step (j + k) x s)) → Tot (ba step j xs s)
 | [],_,s,_=>⟨.next s,rfl⟩
 | x :: xs,j,s,h=>by
  obtain ⟨fl,hfl⟩ := h 0 x s rfl
  rw [Nat.add_zero] at hfl
  rw [ba,hfl]
  cases fl with
  | next s' =>
   exact Tot.range xs (j + 1) s' fun k y t hk=>by
    have := h (k + 1) y t (by simpa using hk)
    rwa [show j + (k + 1) = j + 1 + k from by omega] at this
  | brk s'=>exact ⟨_,rfl⟩
  | ret r=>exact ⟨_,rfl⟩
theorem Tot.thenR {σ ρ : Type} {fl : Flow σ ρ} {k : σ → Option ρ} (h : ∀ s,(fl = .next s ∨ fl = .brk s) → Tot (k s)) : Tot (fl.thenR k) := by
 cases fl with
 | next s=>exact h s (.inl rfl)
 | brk s=>exact h s (.inr rfl)
 | ret r=>exact ⟨r,rfl⟩
theorem kX {a b : Int} (h : a ≠ b) : (a != b) = true := by simpa using h
theorem ml {a b : Int} (h : a = b) : (a != b) = false := by simp [h]
theorem dn {a b : Int} (h : a ≠ b) : (a == b) = false := by simpa using h
theorem jW {a b : Int} (h : a = b) : (a == b) = true := by simp [h]
theorem idxF {α : Type} {l : List α} {f : α → Option Bool} {p : α → Bool} (h : ∀ x ∈ l,f x = some (p x)) :
  aj (ba (σ := Unit) (ρ := Int) (fun (j1 : Nat) (x1 : α) (_ : Unit)=>aj (f x1) fun x16=>cond x16 (some (.ret (j1 : Int))) (some (.next ()))) 0 l ()) (fun fl1=>fl1.thenR fun (_ : Unit)=>some (-1)) = some (bp p l) := by
 rw [mJ p (fun j _=>(j : Int)) l 0 (fun k x hk=>by
  rw [h x (gK hk),bPs]
  cases p x <;> simp)]
 unfold bp
 cases hf : l.findIdx? p with
 | none=>rfl
 | some i =>
  have hi := (List.findIdx?_eq_some_iff_getElem.1 hf).1
  simp only [ze hi]
  simp
theorem idxF2 {α : Type} {l : List α} {p : α → Bool} :
  aj (ba (σ := Unit) (ρ := Int) (fun (j1 : Nat) (x1 : α) (_ : Unit)=>cond (p x1) (some (.ret (j1 : Int))) (some (.next ()))) 0 l ()) (fun fl1=>fl1.thenR fun (_ : Unit)=>some (-1)) = some (bp p l) := idxF (f := fun x=>some (p x)) fun _ _=>rfl
theorem idxOf_neg {α : Type} {p : α → Bool} {l : List α} : bp p l = -1 ∨ 0 ≤ bp p l := by
 unfold bp
 cases l.findIdx? p with
 | none=>exact .inl rfl
 | some i=>exact .inr (by simp)
theorem mV {α : Type} {p : α → Bool} {l : List α} (h : 0 ≤ bp p l) : ∃ x,l[(bp p l).toNat]? = some x ∧ p x = true := by
 unfold bp at h ⊢
 cases hf : l.findIdx? p with
 | none=>rw [hf] at h; simp at h
 | some i =>
  obtain ⟨hi,hp,_⟩ := List.findIdx?_eq_some_iff_getElem.1 hf
  exact ⟨l[i],by simp [hi],hp⟩
theorem idx_table (l : List LTable) (p : LTable → Bool) : dm l (fun a=>some (p a)) = some (bp p l) := idxF fun _ _=>rfl
theorem idx_column (l : List LCol) (p : LCol → Bool) : ce l (fun a=>some (p a)) = some (bp p l) := idxF fun _ _=>rfl
theorem ou (s : LSchema) (name : List UInt8) : fX s name = some (dT 0 (bp (fun t=>dD t name) s.tables),decide (bp (fun t=>dD t name) s.tables ≥ 0)) := by
 unfold fX
 rw [idx_table,bPs]
 congr 2
 unfold dT
 split <;> split <;> omega
theorem findColumn_eq (t : LTable) (name : List UInt8) : gz t name = some (dT 0 (bp (fun c=>ep c name) t.columns),decide (bp (fun c=>ep c name) t.columns ≥ 0)) := by
 unfold gz
 rw [idx_column,bPs]
 congr 2
 unfold dT
 split <;> split <;> omega
theorem pd {n : Int} (h : 0 ≤ n) : dT 0 n = n := by unfold dT; split <;> omega
theorem qn (s : List UInt8) : Tot (fU s) := by
 unfold fU
 refine Tot.bind ?_ fun b hb=>?_
 ·refine Tot.cond (fun _=>Tot.mk) fun h1=>?_
  refine Tot.cond (fun _=>Tot.mk) fun h2=>?_
  have h1 := of_decide_eq_false h1
  refine Tot.bind (Tot.get (by decide) (by omega)) fun x _=>?_
  refine Tot.cond (fun _=>?_) fun _=>Tot.mk
  exact Tot.bind (Tot.get (by decide) (by omega)) fun x _=>Tot.mk
 ·refine Tot.cond (fun _=>Tot.mk) fun h=>?_
  subst h
  have hl : (s.length : Int) ≤ 12 := by
   by_cases h1 : (s.length : Int) < 1
   ·omega
   ·by_cases h2 : (s.length : Int) > 12
    ·rw [zf h1,zt h2] at hb; simp at hb
    ·omega
  refine Tot.bind ⟨(),bu (by omega)⟩ fun _ _=>?_
  refine Tot.bind (Tot.range _ _ _ fun k x _ _=>?_) fun fl _=>Tot.thenR fun _ _=>Tot.mk
  repeat' first | exact Tot.mk | refine Tot.cond (fun _=>?_) (fun _=>?_)
structure TableOk (t : LTable) : Prop where
 pk : ∀ x ∈ t.primaryKey,0 ≤ x ∧ x < t.columns.length
theorem validTable (t : LTable) (hsm : t.primaryKey.length ≤ 10000000) : ∃ e,fy t = some e ∧ (e = 0 → TableOk t) := by
 unfold fy
 obtain ⟨b,hb⟩ := qn t.name
 rw [hb,bPs]
 cases b with
 | false=>exact ⟨23,rfl,fun h=>by omega⟩
 | true =>
  simp only [Bool.not_true,zd]
  by_cases h0 : (t.columns.length : Int) = 0
  ·exact ⟨3,by simp [h0],fun h=>by omega⟩
  by_cases h6 : (t.columns.length : Int) > 6
  ·have : ((t.columns.length : Int) == 0) = false := by simpa using h0
   exact ⟨2,by rw [this]; simp [h6],fun h=>by omega⟩
  have e0 : ((t.columns.length : Int) == 0) = false := by simpa using h0
  rw [e0,zf h6]
  simp only [zd]
  obtain ⟨fl,hfl,hr⟩ := fF (step := fun (j1 : Nat) (x1 : LCol) (_ : Unit) =>
    aj (fU x1.name) fun x31=>cond (!x31) (some (Flow.ret (σ := Unit) (23 : Int)))
     (aj (gz t x1.name) fun x37=>cond (decide (x37.1 < (j1 : Int))) (some (.ret 5)) (cond (decide (x1.kind < (1 : Int))) (some (.ret 7)) (cond (decide (x1.kind > (3 : Int))) (some (.ret 7)) (some (.next ())))))) (fun _ _=>True) (fun r=>r ≠ 0) t.columns 0 () trivial (fun k x s hk _=>by
    obtain ⟨b,hb⟩ := qn x.name
    rw [hb,bPs,findColumn_eq,bPs]
    cases b with
    | false=>exact ⟨_,rfl,by simp⟩
    | true =>
     simp only [Bool.not_true,zd]
     by_cases a1 : dT 0 (bp (fun c=>ep c x.name) t.columns) < ((0 + k : Nat) : Int)
     ·exact ⟨.ret 5,by rw [zt a1]; rfl,by simp⟩
     ·rw [zf a1]
      by_cases a2 : x.kind < 1
      ·exact ⟨.ret 7,by rw [zt a2]; rfl,by simp⟩
      ·rw [zf a2]
       by_cases a3 : x.kind > 3
       ·exact ⟨.ret 7,by rw [zt a3]; rfl,by simp⟩
       ·exact ⟨.next (),by rw [zf a3]; rfl,trivial⟩)
  rw [hfl,bPs]
  cases fl with
  | brk s=>exact absurd hr (by simp)
  | ret r=>exact ⟨r,rfl,fun h=>absurd h hr⟩
  | next s =>
   rw [ii]
   obtain ⟨fl,hfl,hr⟩ := fF (step := fun (j2 : Nat) (x2 : Int) (_ : Unit) =>
     cond (decide (x2 < (0 : Int))) (some (Flow.ret (σ := Unit) (9 : Int))) (cond (decide (x2 ≥ (t.columns.length : Int))) (some (.ret 9))
      (aj (aF t.columns x2) fun (x73 : LCol)=>cond x73.nullable (some (.ret 9)) (cond (decide ((j2 : Int) > (0 : Int)))
       (aj (aF t.primaryKey (i64.wrap ((j2 : Int) - (1 : Int)))) fun (x86 : Int)=>cond (decide (x2 ≤ x86)) (some (.ret 9)) (some (.next ()))) (some (.next ())))))) (fun j _=>∀ k x,k < j → t.primaryKey[k]? = some x → 0 ≤ x ∧ x < t.columns.length) (fun r=>r ≠ 0) t.primaryKey 0 () (fun k x h=>by omega) (fun k x s hk hI=>by
     simp only [Nat.zero_add] at hI ⊢
     by_cases a1 : x < 0
     ·exact ⟨.ret 9,by rw [zt a1]; rfl,by simp⟩
     rw [zf a1]
     by_cases a2 : x ≥ (t.columns.length : Int)
     ·exact ⟨.ret 9,by rw [zt a2]; rfl,by simp⟩
     rw [zf a2]
     simp only [zd]
     obtain ⟨c,hc⟩ := Tot.get (xs := t.columns) (i := x) (by omega) (by omega)
     rw [hc,bPs]
     have next : ∀ k' x',k' < k + 1 → t.primaryKey[k']? = some x' → 0 ≤ x' ∧ x' < t.columns.length := fun k' x' h1 h2=>by
      by_cases he : k' = k
      ·subst he; rw [hk] at h2; cases h2; omega
      ·exact hI k' x' (by omega) h2
     cases c.nullable with
     | true=>exact ⟨_,rfl,by simp⟩
     | false =>
      simp only [zd]
      by_cases a3 : (k : Int) > 0
      ·rw [zt a3]
       have hkl := (zg.1 hk).1
       rw [bC (by omega) (by omega)]
       obtain ⟨y,hy⟩ := Tot.get (xs := t.primaryKey) (i := (k : Int) - 1) (by omega) (by omega)
       rw [zc,hy,bPs]
       by_cases a4 : x ≤ y
       ·exact ⟨.ret 9,by rw [zt a4]; rfl,by simp⟩
       ·exact ⟨.next (),by rw [zf a4]; rfl,next⟩
      ·exact ⟨.next (),by rw [zf a3]; rfl,next⟩)
   rw [hfl,bPs]
   cases fl with
   | brk s=>exact absurd hr (by simp)
   | ret r=>exact ⟨r,rfl,fun h=>absurd h hr⟩
   | next s =>
    rw [ii]
    simp only [Nat.zero_add] at hr
    by_cases hp : (t.primaryKey.length : Int) = 0
    ·exact ⟨9,by simp [hp],fun h=>by omega⟩
    ·have : ((t.primaryKey.length : Int) == 0) = false := by simpa using hp
     refine ⟨0,by rw [this]; rfl,fun _=>⟨fun x hx=>?_⟩⟩
     obtain ⟨k,hk,rfl⟩ := List.mem_iff_getElem.1 hx
     exact hr k _ hk (ze hk)
theorem fO {α : Type} {xs : List α} {k : Nat} (h : k < xs.length) : aF xs (k : Int) = some xs[k] := kI (ze h)
theorem foreignKey_tot {s : LSchema} (hs : ∀ t ∈ s.tables,TableOk t) (fk : LForeignKey) : Tot (eU s fk) := by
 unfold eU
 rw [ou,ou]
 simp only [bPs,bN]
 generalize hi : bp (fun t=>dD t fk.table) s.tables = i
 generalize hj : bp (fun t=>dD t fk.refTable) s.tables = j
 by_cases h1 : i ≥ 0
 ·by_cases h2 : j ≥ 0
  ·rw [zt h1,zt h2]
   simp only [Bool.not_true,zd]
   rw [pd h1,pd h2]
   obtain ⟨t,ht,_⟩ := mV (hi ▸ h1)
   obtain ⟨u,hu,_⟩ := mV (hj ▸ h2)
   rw [hi] at ht
   rw [hj] at hu
   rw [kR h1 ht,kR h2 hu]
   simp only [bPs]
   refine Tot.cond (fun _=>Tot.mk) fun hl=>?_
   have hl : fk.columns.length = u.primaryKey.length := by
    by_cases h : (fk.columns.length : Int) = (u.primaryKey.length : Int)
    ·omega
    ·simp [h] at hl
   refine Tot.bind (Tot.range _ _ _ fun k x st hk=>?_) fun fl _=>Tot.thenR fun _ _=>Tot.mk
   have hkl := (zg.1 hk).1
   by_cases a1 : x < 0
   ·rw [zt a1]; exact Tot.mk
   ·rw [zf a1]
    by_cases a2 : x ≥ (t.columns.length : Int)
    ·rw [zt a2]; exact Tot.mk
    ·rw [zf a2]
     simp only [zd]
     obtain ⟨c,hc⟩ := Tot.get (xs := t.columns) (i := x) (by omega) (by omega)
     rw [hc,bPs,Nat.zero_add,fO (by omega),bPs]
     have hp := (hs u (gK hu)).pk u.primaryKey[k] (List.getElem_mem _)
     obtain ⟨d,hd⟩ := Tot.get (xs := u.columns) (i := u.primaryKey[k]) hp.1 hp.2
     rw [hd,bPs]
     exact Tot.cond (fun _=>Tot.mk) fun _=>Tot.mk
  ·rw [zf h2]
   simp only [Bool.not_false]
   cases decide (i ≥ 0) <;> exact Tot.mk
 ·rw [zf h1]
  exact Tot.mk
theorem constraint_tot (s : LSchema) (c : LConstraint) : Tot (eY s c) := by
 unfold eY
 rw [ou]
 simp only [bPs,bN]
 generalize hi : bp (fun t=>dD t c.table) s.tables = i
 by_cases h1 : i ≥ 0
 ·rw [zt h1]
  simp only [Bool.not_true,zd]
  rw [pd h1]
  obtain ⟨t,ht,_⟩ := mV (hi ▸ h1)
  rw [hi] at ht
  rw [kR h1 ht,bPs]
  refine Tot.cond (fun _=>Tot.mk) fun hl=>?_
  by_cases a1 : c.left < 0
  ·rw [zt a1] at hl; cases hl
  rw [zf a1,zd] at hl
  by_cases a2 : c.left ≥ (t.columns.length : Int)
  ·rw [zt a2] at hl; cases hl
  rw [zf a2,zd] at hl
  obtain ⟨x,hx⟩ := Tot.get (xs := t.columns) (i := c.left) (by omega) (by omega)
  rw [hx]
  refine Tot.cond (fun a3=>?_) fun _=>?_
  ·have a3 := of_decide_eq_true a3
   have a4 : c.right < (t.columns.length : Int) := by
    rcases Int.lt_or_le c.right (t.columns.length : Int) with h | h
    ·exact h
    ·have e : decide (c.right ≥ (t.columns.length : Int)) = true := zt h
     rw [e] at hl
     revert hl
     cases ((gT (LVal.mk 0 0 []) c.op (LVal.mk 0 0 [])).2 != 0) <;> cases decide (c.right < -1) <;> simp
   obtain ⟨y,hy⟩ := Tot.get (xs := t.columns) (i := c.right) a3 a4
   rw [hy]
   simp only [bPs]
   exact Tot.cond (fun _=>Tot.mk) fun _=>Tot.mk
  ·rw [bPs]
   exact Tot.cond (fun _=>Tot.mk) fun _=>Tot.mk
 ·rw [zf h1]
  exact Tot.mk
theorem equalInts_tot (a b : List Int) : Tot (gg a b) := by
 unfold gg
 refine Tot.cond (fun _=>Tot.mk) fun h=>?_
 have h : a.length = b.length := by
  by_cases h' : (a.length : Int) = (b.length : Int)
  ·omega
  ·simp [h'] at h
 refine Tot.bind (Tot.range _ _ _ fun k x s hk=>?_) fun fl _=>Tot.thenR fun _ _=>Tot.mk
 have hkl := (zg.1 hk).1
 rw [Nat.zero_add,fO (by omega),bPs]
 exact Tot.cond (fun _=>Tot.mk) fun _=>Tot.mk
theorem fkIn_tot (l : List LForeignKey) (x : LForeignKey) : Tot (cw l (fun a0=>go a0 x)) := by
 unfold cw dd
 refine Tot.bind (Tot.bind (Tot.range _ _ _ fun k y s hk=>?_) fun fl _=>Tot.thenR fun _ _=>Tot.mk) fun _ _=>Tot.mk
 refine Tot.bind ?_ fun _ _=>Tot.cond (fun _=>Tot.mk) fun _=>Tot.mk
 unfold go
 refine Tot.bind ?_ fun _ _=>Tot.mk
 unfold gN
 refine Tot.cond (fun _=>Tot.bind (equalInts_tot _ _) fun _ _=>Tot.cond (fun _=>Tot.mk) fun _=>Tot.mk) fun _=>Tot.mk
theorem csIn_tot (l : List LConstraint) (x : LConstraint) : Tot (cI l x) := by
 unfold cI dy
 refine Tot.bind (Tot.bind (Tot.range _ _ _ fun k y s hk=>?_) fun fl _=>Tot.thenR fun _ _=>Tot.mk) fun _ _=>Tot.mk
 exact Tot.cond (fun _=>Tot.mk) fun _=>Tot.mk
def lQ (s : LSchema) : Prop := ∀ t ∈ s.tables,t.primaryKey.length ≤ 10000000
theorem validate_tot {s : LSchema} (hsm : lQ s) : Tot (iM s) := by
 unfold iM
 rw [bN]
 refine Tot.cond (fun _=>Tot.mk) fun ht=>?_
 have h6 : s.tables.length ≤ 6 := by
  by_cases h : (s.tables.length : Int) > 6
  ·rw [zt h] at ht; cases ht
  ·omega
 obtain ⟨fl,hfl,hr⟩ := fF (step := fun (j2 : Nat) (x2 : LTable) (_ : Unit) =>
   aj (fy x2) fun x37=>cond (x37 != (0 : Int)) (some (Flow.ret (σ := Unit) x37)) (cond (decide ((j2 : Int) > (0 : Int)))
     (aj (aF s.tables (i64.wrap ((j2 : Int) - (1 : Int)))) fun (x50 : LTable)=>cond (Op.bytesLess x2.name x50.name || x2.name == x50.name) (some (.ret 6)) (some (.next ()))) (some (.next ())))) (fun j _=>∀ k x,k < j → s.tables[k]? = some x → TableOk x) (fun _=>True) s.tables 0 () (fun k x h=>by omega) (fun k x st hk hI=>by
    simp only [Nat.zero_add] at hI ⊢
    obtain ⟨e,he,hok⟩ := validTable x (hsm x (gK hk))
    rw [he,bPs]
    by_cases h0 : e = 0
    ·have next : ∀ k' x',k' < k + 1 → s.tables[k']? = some x' → TableOk x' := fun k' x' h1 h2=>by
      by_cases heq : k' = k
      ·subst heq; rw [hk] at h2; cases h2; exact hok h0
      ·exact hI k' x' (by omega) h2
     rw [show (e != (0 : Int)) = false from by simp [h0],zd]
     by_cases a3 : (k : Int) > 0
     ·have hkl := (zg.1 hk).1
      rw [zt a3,bC (by omega) (by omega)]
      obtain ⟨y,hy⟩ := Tot.get (xs := s.tables) (i := (k : Int) - 1) (by omega) (by omega)
      rw [zc,hy,bPs]
      cases (Op.bytesLess x.name y.name || x.name == y.name) with
      | true=>exact ⟨.ret 6,rfl,trivial⟩
      | false=>exact ⟨.next (),rfl,next⟩
     ·exact ⟨.next (),by rw [zf a3]; rfl,next⟩
    ·exact ⟨.ret e,by rw [show (e != (0 : Int)) = true from by simp [h0]]; rfl,trivial⟩)
 rw [hfl,bPs]
 cases fl with
 | brk s=>exact absurd hr (by simp)
 | ret r=>exact Tot.mk
 | next u =>
  rw [ii]
  simp only [Nat.zero_add] at hr
  have hok : ∀ t ∈ s.tables,TableOk t := fun t ht=>by
   obtain ⟨k,hk,rfl⟩ := List.mem_iff_getElem.1 ht
   exact hr k _ hk (ze hk)
  refine Tot.bind (Tot.range _ _ _ fun k x st hk=>?_) fun fl _=>Tot.thenR fun _ _=>?_
  ·refine Tot.bind (foreignKey_tot hok x) fun e _=>Tot.cond (fun _=>Tot.mk) fun _=>?_
   have hkl := (zg.1 hk).1
   refine Tot.bind (Tot.sub ⟨by omega,by omega,by omega⟩) fun l _=>?_
   exact Tot.bind (fkIn_tot l x) fun _ _=>Tot.cond (fun _=>Tot.mk) fun _=>Tot.mk
  ·refine Tot.bind (Tot.range _ _ _ fun k x st hk=>?_) fun fl _=>Tot.thenR fun _ _=>Tot.mk
   refine Tot.bind (constraint_tot s x) fun e _=>Tot.cond (fun _=>Tot.mk) fun _=>?_
   have hkl := (zg.1 hk).1
   refine Tot.bind (Tot.sub ⟨by omega,by omega,by omega⟩) fun l _=>?_
   exact Tot.bind (csIn_tot l x) fun _ _=>Tot.cond (fun _=>Tot.mk) fun _=>Tot.mk
def fe (cols : List LCol) (row : Rq) : Prop := row.length = cols.length ∧ ∀ (i : Nat) (c : LCol) (x : LVal),cols[i]? = some c → row[i]? = some x → fP x c.kind c.nullable
theorem validate_valid {v : LVal} (h : dS v = 0) : eW v = true := by
 obtain ⟨k,n,t⟩ := v
 unfold dS bo at h
 unfold eW
 by_cases k0 : k = 0
 ·subst k0
  by_cases hn : n = 0
  ·subst hn
   cases t with
   | nil=>rfl
   | cons c t=>simp at h
  ·simp [kX hn] at h
 ·have e0 : (k == (0 : Int)) = false := by simpa using k0
  simp only [e0,zd] at h
  by_cases k1 : k = 1
  ·subst k1
   cases t with
   | cons c t=>simp at h
   | nil =>
    by_cases a : n < -1000000000000
    ·simp [a] at h
    ·by_cases b : n > 1000000000000
     ·simp [a,b] at h
     ·simp; omega
  ·by_cases k2 : k = 2
   ·subst k2
    cases t with
    | cons c t=>simp at h
    | nil =>
     by_cases a : n = 0
     ·simp [a]
     ·by_cases b : n = 1
      ·simp [b]
      ·simp [kX a,kX b] at h
   ·by_cases k3 : k = 3
    ·subst k3
     by_cases a : n = 0
     ·subst a
      by_cases b : (t.length : Int) > 24
      ·simp [b] at h
      ·simp; omega
     ·simp [kX a] at h
    ·have e1 : (k == (1 : Int)) = false := by simpa using k1
     have e2 : (k == (2 : Int)) = false := by simpa using k2
     have e3 : (k == (3 : Int)) = false := by simpa using k3
     simp [e1,e2,e3] at h
theorem conformsRow (t : LTable) (row : Rq) : ∃ e,eJ t row = some e ∧ (e = 0 → fe t.columns row) := by
 unfold eJ
 by_cases hl : (row.length : Int) = (t.columns.length : Int)
 ·have hl' : row.length = t.columns.length := by omega
  rw [show ((row.length : Int) != (t.columns.length : Int)) = false from by simp [hl],zd]
  obtain ⟨fl,hfl,hr⟩ := fF (step := fun (j1 : Nat) (x1 : LVal) (_ : Unit)=>bo (dS x1) fun x22=>cond (x22 != (0 : Int)) (some (Flow.ret (σ := Unit) x22))
    (aj (cond (x1.kind == (0 : Int)) (aj (aF t.columns (j1 : Int)) fun (x33 : LCol)=>some (!x33.nullable)) (some false)) fun (t3 : Bool)=>cond t3 (some (.ret 8))
     (cond (x1.kind != (0 : Int)) (aj (aF t.columns (j1 : Int)) fun (x47 : LCol)=>cond (x1.kind != x47.kind) (some (.ret 7)) (some (.next ()))) (some (.next ())))))
   (fun j _=>∀ (k : Nat) (c : LCol) (x : LVal),k < j → t.columns[k]? = some c → row[k]? = some x → fP x c.kind c.nullable) (fun r=>r ≠ 0) row 0 () (fun k c x h=>by omega) (fun k x st hk hI=>by
    simp only [Nat.zero_add] at hI ⊢
    have hkl := (zg.1 hk).1
    rw [bN,fO (xs := t.columns) (by omega)]
    by_cases hv : dS x = 0
    ·rw [show (dS x != (0 : Int)) = false from by simp [hv],zd]
     have hvv := validate_valid hv
     have next : fP x t.columns[k].kind t.columns[k].nullable → ∀ (k' : Nat) (c : LCol) (x' : LVal),k' < k + 1 → t.columns[k']? = some c → row[k']? = some x' → fP x' c.kind c.nullable := fun hf k' c x' h1 h2 h3=>by
      by_cases heq : k' = k
      ·subst heq
       rw [hk] at h3
       rw [ze (by omega)] at h2
       cases h2
       cases h3
       exact hf
      ·exact hI k' c x' (by omega) h2 h3
     by_cases hx : x.kind = 0
     ·rw [show (x.kind == (0 : Int)) = true from by simp [hx],zc,bPs,bPs]
      cases hn : t.columns[k].nullable with
      | false=>exact ⟨.ret 8,rfl,by simp⟩
      | true=>exact ⟨.next (),by simp [hx],next ⟨hvv,.inr hx,fun _=>hn⟩⟩
     ·rw [show (x.kind == (0 : Int)) = false from by simp [hx],zd,bPs,zd,show (x.kind != (0 : Int)) = true from by simp [hx],zc,bPs]
      by_cases hk' : x.kind = t.columns[k].kind
      ·exact ⟨.next (),by rw [ml hk']; rfl,next ⟨hvv,.inl hk',fun h=>absurd h hx⟩⟩
      ·exact ⟨.ret 7,by rw [kX hk']; rfl,by simp⟩
    ·exact ⟨.ret (dS x),by rw [show (dS x != (0 : Int)) = true from by simp [hv]]; rfl,hv⟩)
  rw [hfl,bPs]
  cases fl with
  | brk s=>exact absurd hr (by simp)
  | ret r=>exact ⟨r,rfl,fun h=>absurd h hr⟩
  | next s =>
   simp only [Nat.zero_add] at hr
   exact ⟨0,rfl,fun _=>⟨hl',fun i c x hc hx=>hr i c x (zg.1 hx).1 hc hx⟩⟩
 ·exact ⟨3,by rw [show ((row.length : Int) != (t.columns.length : Int)) = true from by simp [hl]]; rfl,fun h=>by omega⟩
theorem key_tot (t : LTable) (row : Rq) (hsm : t.primaryKey.length ≤ 10000000) : ∃ k,fC t row = some k ∧ k.length = t.primaryKey.length := by
 unfold fC
 obtain ⟨fl,hfl,hr⟩ := fF (step := fun (_ : Nat) (x1 : Int) (s1 : Rq) =>
  bo (cond (decide (x1 ≥ (0 : Int))) ((decide (x1 < (row.length : Int)))) (false)) fun (t6 : Bool) =>
  aj (cond t6 (aj (aF row x1) fun (x27 : LVal)=>some x27) (some (LVal.mk 0 0 []))) fun (t7 : LVal) =>
  aj (ee 32 s1 ([t7] : Rq)) fun (x32 : Rq)=>some (Flow.next (ρ := Empty) x32)) (fun j s=>s.length = j) (fun _=>False) t.primaryKey 0 ([] : Rq) rfl (fun k x s hk hI=>by
   have hI : s.length = k := by simpa using hI
   have hkl := (zg.1 hk).1
   rw [bN]
   have ht : ∃ v,(cond (cond (decide (x ≥ (0 : Int))) ((decide (x < (row.length : Int)))) (false)) (aj (aF row x) fun (x27 : LVal)=>some x27) (some (LVal.mk 0 0 []))) = some v := by
    refine Tot.cond (fun h=>?_) fun _=>Tot.mk
    by_cases h0 : x ≥ 0
    ·rw [zt h0] at h
     exact Tot.bind (Tot.get h0 (of_decide_eq_true h)) fun _ _=>Tot.mk
    ·rw [zf h0] at h; cases h
   obtain ⟨v,hv⟩ := ht
   rw [hv,bPs,cR (by decide) (by simp; omega),bPs]
   exact ⟨_,rfl,by simp [hI]⟩)
 rw [hfl,bPs]
 cases fl with
 | brk s=>exact absurd hr (by simp)
 | ret r=>exact r.elim
 | next s=>exact ⟨s,rfl,by simpa using hr⟩
theorem rS (a b : Rq) (ha : a.length ≤ 10000000) : Tot (fG a b) := by
 unfold fG
 have hm : ∃ n : Nat,(if (b.length : Int) < (a.length : Int) then (b.length : Int) else (a.length : Int)) = (n : Int) ∧ n ≤ a.length ∧ n ≤ b.length := by
  split
  ·exact ⟨b.length,rfl,by omega,by omega⟩
  ·exact ⟨a.length,rfl,by omega,by omega⟩
 obtain ⟨n,hn,h1,h2⟩ := hm
 rw [hn,qD (by omega),bPs]
 refine Tot.bind (Tot.range _ _ _ fun k x s hk=>?_) fun fl _=>Tot.thenR fun _ _=>Tot.mk
 have hkl := (zg.1 hk).1
 simp at hkl
 rw [Nat.zero_add,fO (by omega),fO (by omega)]
 simp only [bPs,bN]
 exact Tot.cond (fun _=>Tot.mk) fun _=>Tot.mk
structure InstOk (s : LSchema) (st : List LRelation) : Prop where
 len : st.length = s.tables.length
 tab : ∀ (i : Nat) (r : LRelation) (t : LTable),st[i]? = some r → s.tables[i]? = some t → r.table = t.name ∧ r.rows.length ≤ 24 ∧ ∀ row ∈ r.rows,fe t.columns row
theorem conforms {s : LSchema} (hsm : lQ s) (st : List LRelation) : ∃ e,fI s st = some e ∧ (e = 0 → InstOk s st) := by
 unfold fI
 by_cases hl : (st.length : Int) = (s.tables.length : Int)
 ·have hl' : st.length = s.tables.length := by omega
  rw [show ((st.length : Int) != (s.tables.length : Int)) = false from by simp [hl],zd]
  let good : LRelation → LTable → Prop := fun r t=>r.table = t.name ∧ r.rows.length ≤ 24 ∧ ∀ row ∈ r.rows,fe t.columns row
  obtain ⟨fl,hfl,hr⟩ := fF (step := fun (j1 : Nat) (x1 : LRelation) (_ : Unit) =>
   aj (aF s.tables (j1 : Int)) fun (x28 : LTable) =>
   cond (!(x1.table == x28.name)) (some (Flow.ret (σ := Unit) (3 : Int))) (cond (decide ((x1.rows.length : Int) > (24 : Int))) (some (.ret 2))
     (aj (ba (σ := Unit) (ρ := (Int)) (fun (j3 : Nat) (x3 : Rq) (_ : Unit) =>
      aj (eJ x28 x3) fun x49=>cond (x49 != (0 : Int)) (some (.ret x49)) (cond ((j3 : Int) == (0 : Int)) (some (.next ()))
        (aj (aF x1.rows (i64.wrap ((j3 : Int) - (1 : Int)))) fun (x60 : Rq)=>aj (fC x28 x60) fun x62=>aj (fC x28 x3) fun x65=>aj (fG x62 x65) fun x66 =>
        cond (x66 == (0 : Int)) (some (.ret 9)) (cond (decide (x66 > (0 : Int))) (some (.ret 6)) (some (.next ())))))) 0 x1.rows ()) fun fl3=>fl3.thenF fun (_ : Unit)=>some (.next ()))))
   (fun j _=>∀ (k : Nat) (r : LRelation) (t : LTable),k < j → st[k]? = some r → s.tables[k]? = some t → good r t) (fun r=>r ≠ 0) st 0 () (fun k r t h=>by omega) (fun k r u hk hI=>by
    simp only [Nat.zero_add] at hI ⊢
    have hkl := (zg.1 hk).1
    have hkt : k < s.tables.length := by omega
    rw [fO hkt,bPs]
    by_cases hn : r.table = s.tables[k].name
    ·rw [show (!(r.table == s.tables[k].name)) = false from by simp [hn],zd]
     by_cases h24 : (r.rows.length : Int) > 24
     ·exact ⟨.ret 2,by rw [zt h24]; rfl,by simp⟩
     ·rw [zf h24,zd]
      have hsk := hsm s.tables[k] (List.getElem_mem _)
      obtain ⟨fl,hfl,hr⟩ := fF (step := fun (j3 : Nat) (x3 : Rq) (_ : Unit) =>
       aj (eJ s.tables[k] x3) fun x49=>cond (x49 != (0 : Int)) (some (Flow.ret (σ := Unit) x49)) (cond ((j3 : Int) == (0 : Int)) (some (.next ()))
        (aj (aF r.rows (i64.wrap ((j3 : Int) - (1 : Int)))) fun (x60 : Rq)=>aj (fC s.tables[k] x60) fun x62=>aj (fC s.tables[k] x3) fun x65=>aj (fG x62 x65) fun x66 =>
        cond (x66 == (0 : Int)) (some (.ret 9)) (cond (decide (x66 > (0 : Int))) (some (.ret 6)) (some (.next ())))))) (fun j _=>∀ i row,i < j → r.rows[i]? = some row → fe s.tables[k].columns row) (fun r=>r ≠ 0) r.rows 0 () (fun i row h=>by omega) (fun i row u hi hI2=>by
        simp only [Nat.zero_add] at hI2 ⊢
        have hil := (zg.1 hi).1
        obtain ⟨e,he,hok⟩ := conformsRow s.tables[k] row
        rw [he,bPs]
        by_cases h0 : e = 0
        ·rw [show (e != (0 : Int)) = false from by simp [h0],zd]
         have next : ∀ i' row',i' < i + 1 → r.rows[i']? = some row' → fe s.tables[k].columns row' := fun i' row' h1 h2=>by
          by_cases heq : i' = i
          ·subst heq; rw [hi] at h2; cases h2; exact hok h0
          ·exact hI2 i' row' (by omega) h2
         by_cases hi0 : i = 0
         ·exact ⟨.next (),by simp [hi0],next⟩
         ·rw [show ((i : Int) == (0 : Int)) = false from by simp; omega,zd,bC (by omega) (by omega)]
          obtain ⟨p,hp⟩ := Tot.get (xs := r.rows) (i := (i : Int) - 1) (by omega) (by omega)
          obtain ⟨k1,hk1,hl1⟩ := key_tot s.tables[k] p hsk
          obtain ⟨k2,hk2,_⟩ := key_tot s.tables[k] row hsk
          obtain ⟨z,hz⟩ := rS k1 k2 (by omega)
          rw [hp,bPs,hk1,bPs,hk2,bPs,hz,bPs]
          by_cases z0 : z = 0
          ·exact ⟨.ret 9,by rw [jW z0]; rfl,by simp⟩
          ·by_cases z1 : z > 0
           ·exact ⟨.ret 6,by rw [dn z0,zt z1]; rfl,by simp⟩
           ·exact ⟨.next (),by rw [dn z0,zf z1]; rfl,next⟩
        ·exact ⟨.ret e,by rw [show (e != (0 : Int)) = true from by simp [h0]]; rfl,h0⟩)
      rw [hfl,bPs]
      cases fl with
      | brk s=>exact absurd hr (by simp)
      | ret e=>exact ⟨.ret e,rfl,hr⟩
      | next s' =>
       simp only [Nat.zero_add] at hr
       refine ⟨.next (),rfl,fun k' r' t' h1 h2 h3=>?_⟩
       by_cases heq : k' = k
       ·subst heq
        rw [hk] at h2
        rw [ze hkt] at h3
        cases h2
        cases h3
        refine ⟨hn,by omega,fun row hrow=>?_⟩
        obtain ⟨i,hi,rfl⟩ := List.mem_iff_getElem.1 hrow
        exact hr i _ hi (ze hi)
       ·exact hI k' r' t' (by omega) h2 h3
    ·exact ⟨.ret 3,by rw [show (!(r.table == s.tables[k].name)) = true from by simp [hn]]; rfl,by simp⟩)
  rw [hfl,bPs]
  cases fl with
  | brk s=>exact absurd hr (by simp)
  | ret r=>exact ⟨r,rfl,fun h=>absurd h hr⟩
  | next u =>
   simp only [Nat.zero_add] at hr
   exact ⟨0,rfl,fun _=>⟨hl',fun i r t h1 h2=>hr i r t (zg.1 h1).1 h1 h2⟩⟩
 ·exact ⟨3,by rw [show ((st.length : Int) != (s.tables.length : Int)) = true from by simp [hl]]; rfl,fun h=>by omega⟩
theorem containsI (l : List Int) (v : Int) : fv l v = some (l.any fun x=>v == x) := by
 unfold fv gX
 rw [idxF2 (p := fun x=>v == x),bPs,iT]
theorem shape1 (l : List Int) (q : LQuery) : dQ l q = some (l.any fun x=>q.kind == x) := by
 unfold dQ
 rw [containsI,bPs]
def oi (k : Int) : Nat := if k = 1 then 0 else if k = 4 ∨ k = 5 ∨ k = 6 ∨ k = 7 then 2 else 1
def ld (q : LQuery) : Bool :=
 decide (1 ≤ q.kind) && decide (q.kind ≤ 10) && decide (q.inputs.length = oi q.kind) && (q.kind == 1 || q.table == []) && (q.kind == 3 || q.kind == 8 || decide (q.names.length = 0)) &&
 (q.kind == 8 || decide (q.aggregates.length = 0)) && (q.kind == 9 || decide (q.descending.length = 0)) && (q.kind == 10 || (q.count == 0 && q.offset == 0)) &&
 (if q.kind = 2 ∨ q.kind = 4 ∨ q.kind = 5 then decide (q.exprs.length = 1)
  else if q.kind = 3 ∨ q.kind = 8 then decide (q.exprs.length = q.names.length) && decide (0 < q.exprs.length + q.aggregates.length)
  else if q.kind = 9 then decide (q.exprs.length = q.descending.length) && decide (0 < q.exprs.length)
  else if q.kind = 10 then decide (q.exprs.length = 0) && decide (q.count ≥ 0) && decide (q.offset ≥ 0)
  else decide (q.exprs.length = 0))
theorem natE (a b : Nat) : ((a : Int) == (b : Int)) = decide (a = b) := by
 by_cases h : a = b
 ·simp [h]
 ·rw [zf h]; exact dn (by omega)
theorem oT (a b : Nat) : ((a : Int) != (b : Int)) = !decide (a = b) := by rw [bne,natE]
theorem natPos (a : Nat) : decide ((a : Int) > 0) = !decide (a = 0) := by
 by_cases h : a = 0
 ·simp [h]
 ·rw [zf h,zt (by omega)]; rfl
theorem condSome {α : Type} (b : Bool) (x y : α) : (cond b (some x) (some y)) = some (cond b x y) := by cases b <;> rfl
theorem shape_eq (q : LQuery) (hs : q.exprs.length ≤ 10000000 ∧ q.aggregates.length ≤ 10000000) : kn q = some (ld q) := by
 unfold kn
 simp only [shape1,bPs]
 by_cases k0 : q.kind < 1
 ·rw [zt k0]
  simp [ld,show ¬ (1 ≤ q.kind) from by omega]
 rw [zf k0]
 by_cases k10 : q.kind > 10
 ·rw [zt k10]
  simp [ld,show ¬ (q.kind ≤ 10) from by omega]
 rw [zf k10]
 have hw : i64.wrap ((q.exprs.length : Int) + (q.aggregates.length : Int)) = ((q.exprs.length + q.aggregates.length : Nat) : Int) := by rw [bC (by omega) (by omega)]; simp
 rw [hw]
 have hk : q.kind = 1 ∨ q.kind = 2 ∨ q.kind = 3 ∨ q.kind = 4 ∨ q.kind = 5 ∨ q.kind = 6 ∨ q.kind = 7 ∨ q.kind = 8 ∨ q.kind = 9 ∨ q.kind = 10 := by omega
 unfold ld
 have e0 : ∀ n : Nat,((n : Int) == 0) = decide (n = 0) := fun n=>natE n 0
 have e1 : ∀ n : Nat,((n : Int) == 1) = decide (n = 1) := fun n=>natE n 1
 have n0 : ∀ n : Nat,((n : Int) != 0) = !decide (n = 0) := fun n=>oT n 0
 have n1 : ∀ n : Nat,((n : Int) != 1) = !decide (n = 1) := fun n=>oT n 1
 have n2 : ∀ n : Nat,((n : Int) != 2) = !decide (n = 2) := fun n=>oT n 2
 have c0 : (q.count != 0) = !(q.count == 0) := rfl
 have o0 : (q.offset != 0) = !(q.offset == 0) := rfl
 have p0 : decide (0 < q.exprs.length) = !decide (q.exprs.length = 0) := by rw [← natPos]; simp
 have p1 : decide (0 < q.exprs.length + q.aggregates.length) = !decide (q.exprs.length + q.aggregates.length = 0) := by rw [← natPos]; simp; omega
 simp only [natPos,natE,e0,e1,c0,o0,p0,p1]
 generalize (q.table == []) = b1
 generalize decide (q.names.length = 0) = b2
 generalize decide (q.aggregates.length = 0) = b3
 generalize decide (q.descending.length = 0) = b4
 generalize (q.count == 0) = b5
 generalize (q.offset == 0) = b6
 generalize decide (q.exprs.length = 1) = b7
 generalize decide (q.exprs.length = q.names.length) = b8
 generalize decide (q.exprs.length + q.aggregates.length = 0) = b9
 generalize decide (q.exprs.length = q.descending.length) = b10
 generalize decide (q.exprs.length = 0) = b11
 generalize decide (q.count ≥ 0) = b12
 generalize decide (q.offset ≥ 0) = b13
 generalize hL : q.inputs.length = L
 rcases hk with h | h | h | h | h | h | h | h | h | h <;> rw [h]
 all_goals simp only [oi,aF]
 all_goals simp [n0,n1,n2,condSome,Bool.and_assoc]
def e0Q (q : LQuery) : LExpr := q.exprs.headD (.mk 1 [] 0 .nul [])
def ji (a b : List LCol) (left : Bool) : List LCol := a ++ b.map fun x=>⟨x.name,x.kind,x.nullable || left⟩
def kt (kind : Int) (a b : List LCol) : List LCol × Int :=
 if a.length = b.length ∧ a.map LCol.kind = b.map LCol.kind then (List.zipWith (fun x y=>⟨x.name,x.kind,x.nullable || (kind == 6 && y.nullable)⟩) a b,0) else ([],7)
def cX (vars cols : List LCol) : List LExpr → List (List UInt8) → List LCol × Int
 | e :: es,n :: ns=>if dR n = false then ([],3) else if (dk cols vars e).2.2 ≠ 0 then ([],(dk cols vars e).2.2) else if (dk cols vars e).1 = 0 then ([],7)
  else if (cX vars cols es ns).2 ≠ 0 then ([],(cX vars cols es ns).2) else (⟨n,(dk cols vars e).1,(dk cols vars e).2.1⟩ :: (cX vars cols es ns).1,0)
 | _,_=>([],0)
abbrev hX : List UInt8 := [99,111,117,110,116]
abbrev sSum : List UInt8 := [115,117,109]
abbrev sMin : List UInt8 := [109,105,110]
abbrev sMax : List UInt8 := [109,97,120]
def nq (vars cols : List LCol) (a : LAggregateCall) : Int × Int :=
 if dR a.name = false ∨ ¬ a.function ∈ [hX,sSum,sMin,sMax] ∨ 1 < a.args.length ∨ (a.args.length < 1 ∧ a.function ≠ hX) then (0,3)
 else match a.args with
  | []=>(1,0)
  | e :: _=>if (dk cols vars e).2.2 ≠ 0 then (0,(dk cols vars e).2.2) else if (dk cols vars e).1 = 0 ∨ (a.function = sSum ∧ (dk cols vars e).1 ≠ 1) then (0,7)
   else if a.function = hX then (1,0) else ((dk cols vars e).1,0)
def ek (vars cols : List LCol) : List LAggregateCall → List LCol × Int
 | []=>([],0)
 | a :: l=>if (nq vars cols a).2 ≠ 0 then ([],(nq vars cols a).2) else if (ek vars cols l).2 ≠ 0 then ([],(ek vars cols l).2)
  else (⟨a.name,(nq vars cols a).1,!(a.function == hX)⟩ :: (ek vars cols l).1,0)
def lO (vars cols : List LCol) (q : LQuery) : List LCol × Int :=
 if (cX vars cols q.exprs q.names).2 ≠ 0 then ([],(cX vars cols q.exprs q.names).2)
 else if (ek vars cols q.aggregates).2 ≠ 0 then ([],(ek vars cols q.aggregates).2)
 else ((cX vars cols q.exprs q.names).1 ++ (ek vars cols q.aggregates).1,0)
def iA (vars cols : List LCol) : List LExpr → Int
 | []=>0
 | e :: l=>if (dk cols vars e).2.2 ≠ 0 then (dk cols vars e).2.2 else iA vars cols l
def iv (c : LChecker) (q : LQuery) (ins : List (List LCol)) : List LCol × Int :=
 if q.kind = 1 then (match c.s.tables.find? fun t=>t.name == q.table with | some t=>(t.columns,0) | none=>([],4))
 else if q.kind = 2 then (ins.getD 0 [],dV c (ins.getD 0 []) (e0Q q))
 else if q.kind = 4 ∨ q.kind = 5 then (ji (ins.getD 0 []) (ins.getD 1 []) (q.kind == 5),dV c (ji (ins.getD 0 []) (ins.getD 1 []) (q.kind == 5)) (e0Q q))
 else if q.kind = 6 ∨ q.kind = 7 then kt q.kind (ins.getD 0 []) (ins.getD 1 [])
 else if q.kind = 3 ∨ q.kind = 8 then lO c.vars (ins.getD 0 []) q
 else if q.kind = 9 then (if iA c.vars (ins.getD 0 []) q.exprs ≠ 0 then ([],iA c.vars (ins.getD 0 []) q.exprs) else (ins.getD 0 [],0))
 else (ins.getD 0 [],0)
theorem find_idx {α : Type} (p : α → Bool) (l : List α) : (l.find? p = none ∧ bp p l = -1) ∨ ∃ x,l.find? p = some x ∧ 0 ≤ bp p l ∧ l[(bp p l).toNat]? = some x := by
 induction l with
 | nil=>exact .inl ⟨rfl,rfl⟩
 | cons a l ih =>
  by_cases h : p a = true
  ·right
   exact ⟨a,by simp [h],by unfold bp; simp [List.findIdx?_cons,h],by unfold bp; simp [List.findIdx?_cons,h]⟩
  ·have h : p a = false := by simpa using h
   have hi : bp p (a :: l) = if bp p l < 0 then -1 else bp p l + 1 := by
    unfold bp
    simp only [List.findIdx?_cons,h,Bool.false_eq_true,if_false]
    cases l.findIdx? p with
    | none=>rfl
    | some i=>rw [zy (by simp only; omega)]; simp
   rw [List.find?_cons,h,hi]
   rcases ih with ⟨h1,h2⟩ | ⟨x,h1,h2,h3⟩
   ·left; exact ⟨h1,by rw [h2]; rfl⟩
   ·right
    refine ⟨x,h1,by split <;> omega,?_⟩
    rw [zy (by omega),show (bp p l + 1).toNat = (bp p l).toNat + 1 from by omega,List.getElem?_cons_succ,h3]
theorem set_ok (kind : Int) (a b : List LCol) : iq kind a b = some (kt kind a b) := by
 unfold iq kt
 by_cases hl : a.length = b.length
 ·rw [oT,zt hl]
  simp only [Bool.not_true,zd]
  let z : LCol → LCol → LCol := fun x y=>⟨x.name,x.kind,x.nullable || (kind == 6 && y.nullable)⟩
  obtain ⟨fl,hfl,hr⟩ := fF (step := fun (j1 : Nat) (x1 : LCol) (s1 : List LCol) =>
   aj (aF b (j1 : Int)) fun (x29 : LCol)=>cond (x1.kind != x29.kind) (some (Flow.ret (([],7) : List LCol × Int)))
    (cond x1.nullable (aj (aF s1 (j1 : Int)) fun (x51 : LCol)=>bo (s1.set ((j1 : Int).toNat) (LCol.mk x51.name x51.kind true)) fun (y8 : List LCol)=>some (.next y8))
     (cond (kind == (6 : Int)) (aj (aF b (j1 : Int)) fun (x46 : LCol)=>aj (aF s1 (j1 : Int)) fun (x51 : LCol)=>bo (s1.set ((j1 : Int).toNat) (LCol.mk x51.name x51.kind x46.nullable)) fun (y9 : List LCol)=>some (.next y9))
      (aj (aF s1 (j1 : Int)) fun (x51 : LCol)=>bo (s1.set ((j1 : Int).toNat) (LCol.mk x51.name x51.kind false)) fun (y10 : List LCol)=>some (.next y10)))))
   (fun j s=>s = (List.zipWith z a b).take j ++ a.drop j ∧ (a.take j).map LCol.kind = (b.take j).map LCol.kind) (fun r=>r = ([],7) ∧ a.map LCol.kind ≠ b.map LCol.kind) a 0 a ⟨by simp,rfl⟩ (fun k x s hk hI=>by
    simp only [Nat.zero_add] at hI ⊢
    have hka := (zg.1 hk).1
    have hxe := (zg.1 hk).2
    have hkb : k < b.length := by omega
    rw [fO hkb,bPs,bPs]
    by_cases hkk : x.kind = b[k].kind
    ·have hzl : ((List.zipWith z a b).take k).length = k := by simp; omega
     have hs : s[k]? = some x := by
      rw [hI.1,List.getElem?_append_right (by omega),hzl,Nat.sub_self,List.getElem?_drop,Nat.add_zero,hk]
     have hkinds : (a.take (k + 1)).map LCol.kind = (b.take (k + 1)).map LCol.kind := by
      rw [List.take_add_one,List.take_add_one,hk,ze hkb,List.map_append,List.map_append,hI.2]
      congr 1
      show [x.kind] = [b[k].kind]
      rw [hkk]
     have hset : ∀ v : LCol,v = z x b[k] → s.set k v = (List.zipWith z a b).take (k + 1) ++ a.drop (k + 1) := by
      intro v hv
      rw [hI.1,List.set_append_right _ _ (by omega),hzl,Nat.sub_self]
      rw [List.drop_eq_getElem_cons hka,List.set_cons_zero,List.take_add_one,List.append_assoc]
      congr 1
      rw [List.getElem?_zipWith,hk,ze hkb]
      simp [hv]
     rw [ml hkk,zd,kI hs]
     simp only [bPs,bN,Int.toNat_natCast]
     cases hx : x.nullable with
     | true=>exact ⟨_,rfl,hset _ (by simp [z,hx]),hkinds⟩
     | false =>
      by_cases h6 : kind = 6
      ·exact ⟨.next _,by rw [jW h6]; rfl,hset _ (by simp [z,hx,h6]),hkinds⟩
      ·exact ⟨.next _,by rw [dn h6]; rfl,hset _ (by simp [z,hx,h6]),hkinds⟩
    ·refine ⟨.ret ([],7),by rw [kX hkk]; rfl,rfl,fun he=>hkk ?_⟩
     have := congrArg (fun l=>l[k]?) he
     simp only [List.getElem?_map,hk,ze hkb,Option.map_some,zo] at this
     exact this)
  rw [hfl,bPs]
  cases fl with
  | brk s=>exact absurd hr (by simp)
  | ret r=>rw [hr.1,zy (fun h=>hr.2 h.2)]; rfl
  | next s =>
   simp only [Nat.zero_add] at hr
   rw [ii,hr.1,zp ⟨hl,by have := hr.2; rwa [List.take_length,hl,List.take_length] at this⟩]
   have : (List.zipWith z a b).take a.length = List.zipWith z a b := List.take_of_length_le (by simp; omega)
   rw [this,List.drop_length,List.append_nil]
 ·rw [oT,zf hl,zy (fun h=>hl h.1)]
  rfl
theorem nB {α : Type} {l : List α} {d : α} (h : 0 < l.length) : aF l 0 = some (l.getD 0 d) := by
 cases l with
 | nil=>simp at h
 | cons a l=>rfl
theorem getD1 {α : Type} {l : List α} {d : α} (h : 1 < l.length) : aF l 1 = some (l.getD 1 d) := by
 match l with
 | []=>simp at h
 | [_]=>simp at h
 | a :: b :: l=>rfl
theorem e0_get {q : LQuery} (h : 0 < q.exprs.length) : aF q.exprs 0 = some (e0Q q) := by
 unfold e0Q
 cases hq : q.exprs with
 | nil=>rw [hq] at h; simp at h
 | cons a l=>rfl
theorem containsS (l : List (List UInt8)) (v : List UInt8) : dZ l v = some (decide (v ∈ l)) := by
 unfold dZ fQ
 rw [idxF2 (p := fun x=>v == x),bPs,iT]
 congr 1
 by_cases h : v ∈ l
 ·rw [zt h,List.any_eq_true]; exact ⟨v,h,by simp⟩
 ·rw [zf h,List.any_eq_false]
  intro x hx he
  exact h (by simp at he; rwa [he])
theorem agg_eq (c : LChecker) (cols : List LCol) (a : LAggregateCall) : gu c cols a = some (nq c.vars cols a) := by
 unfold gu nq
 simp only [bN,containsS,bPs]
 by_cases h1 : dR a.name = false
 ·simp [h1]
 have h1' : dR a.name = true := by simpa using h1
 by_cases h2 : a.function ∈ [hX,sSum,sMin,sMax]
 ·rw [zt (show a.function ∈ ([[99,111,117,110,116],[115,117,109],[109,105,110],[109,97,120]] : List (List UInt8)) from h2)]
  cases ha : a.args with
  | nil =>
   by_cases h3 : a.function = hX
   ·simp [h1',h3]
   ·have h3' : (a.function == ([99,111,117,110,116] : List UInt8)) = false := by simpa using h3
    simp [h1',h3,h2,h3']
  | cons e l =>
   cases l with
   | cons e2 l =>
    have : (1 : Int) < (l.length : Int) + 1 + 1 := by omega
    simp [h1',h2,this]
   | nil =>
    simp only [h1',Bool.not_true,zd,List.length_singleton]
    have hno : ¬ (True = False ∨ ¬ a.function ∈ [hX,sSum,sMin,sMax] ∨ 1 < 1 ∨ (1 < 1 ∧ a.function ≠ hX)) := by simp [h2]
    simp only [aF]
    by_cases h4 : (dk cols c.vars e).2.2 = 0
    ·by_cases h5 : (dk cols c.vars e).1 = 0
     ·simp [h2,h4,h5]
     ·by_cases h6 : a.function = sSum
      ·by_cases h7 : (dk cols c.vars e).1 = 1
       ·simp [h4,h6,h7]
       ·simp [h4,h5,h6,h7,kX h7]
      ·have h6' : (a.function == ([115,117,109] : List UInt8)) = false := by simpa using h6
       by_cases h8 : a.function = hX
       ·simp [h4,h5,h8,dn h5]
       ·have h8' : (a.function == ([99,111,117,110,116] : List UInt8)) = false := by simpa using h8
        simp [h2,h4,h5,h6,h8,h6',h8',dn h5]
    ·simp [h2,h4,kX h4]
 ·rw [zf (show ¬ a.function ∈ ([[99,111,117,110,116],[115,117,109],[109,105,110],[109,97,120]] : List (List UInt8)) from h2)]
  simp [h1',h2]
theorem namedE_run (vars cols : List LCol) (names : List (List UInt8)) : ∀ (es : List LExpr) (j : Nat) (s : List LCol),es.length + j = names.length → s.length + es.length ≤ 10000000 →
  ∀ k : List LCol → Option (List LCol × Int),aj (ba (σ := List LCol) (ρ := ((List LCol) × Int)) (fun (j1 : Nat) (x1 : LExpr) (s1 : List LCol) =>
  bo (dk cols vars x1) fun x31 =>
  aj (aF names (j1 : Int)) fun (x39 : List UInt8) =>
  bo (dR x39) fun x41 =>
  cond (!x41)
   (some (.ret ([],3)))
   (cond (x31.2.2 != (0 : Int))
    (some (.ret ([],x31.2.2)))
    (cond (x31.1 == (0 : Int))
     (some (.ret ([],7)))
     (aj (aF names (j1 : Int)) fun (x54 : List UInt8) =>
     aj (ee 32 s1 ([(LCol.mk x54 x31.1 x31.2.1)] : List LCol)) fun (x60 : List LCol) =>
     some (.next x60))))) j es s) (fun fl1=>fl1.thenR k) = if (cX vars cols es (names.drop j)).2 ≠ 0 then some ([],(cX vars cols es (names.drop j)).2) else k (s ++ (cX vars cols es (names.drop j)).1)
 | [],j,s,_,_,k=>by simp [ba,cX]
 | e :: es,j,s,hl,hb,k=>by
  have hj : j < names.length := by simp at hl; omega
  rw [ba,List.drop_eq_getElem_cons hj,cX,bN,fO hj,bPs,bN]
  cases h1 : dR names[j] with
  | false=>simp
  | true =>
   simp only [Bool.not_true,zd,Bool.true_eq_false,if_false]
   by_cases h2 : (dk cols vars e).2.2 = 0
   ·rw [ml h2,zd]
    simp only [h2,ne_eq,not_true_eq_false,if_false]
    by_cases h3 : (dk cols vars e).1 = 0
    ·rw [jW h3]; simp [h3]
    ·rw [dn h3,zd,bPs,cR (by decide) (by simp at hb ⊢; omega),bPs]
     simp only [h3,if_false]
     rw [namedE_run vars cols names es (j + 1) _ (by simp at hl; omega) (by simp at hb ⊢; omega) k]
     by_cases h4 : (cX vars cols es (names.drop (j + 1))).2 = 0
     ·simp [h4]
     ·simp [h4]
   ·rw [kX h2]
    simp [h2]
theorem namedA_run (c : LChecker) (cols : List LCol) : ∀ (l : List LAggregateCall) (j : Nat) (s : List LCol),s.length + l.length ≤ 10000000 →
  aj (ba (σ := List LCol) (ρ := ((List LCol) × Int)) (fun (_ : Nat) (x2 : LAggregateCall) (s2 : List LCol) =>
  aj (gu c cols x2) fun x73 =>
  cond (x73.2 != (0 : Int))
   (some (.ret ([],x73.2)))
   (aj (ee 32 s2 ([(LCol.mk x2.name x73.1 (!(x2.function == ([99,111,117,110,116] : List UInt8))))] : List LCol)) fun (x88 : List LCol) =>
   some (.next x88))) j l s) (fun fl2=>fl2.thenR fun (s2 : List LCol)=>some (s2,0)) = some (if (ek c.vars cols l).2 ≠ 0 then ([],(ek c.vars cols l).2) else (s ++ (ek c.vars cols l).1,0))
 | [],j,s,_=>by simp [ba,ek]
 | a :: l,j,s,hb=>by
  rw [ba,ek,agg_eq,bPs]
  by_cases h1 : (nq c.vars cols a).2 = 0
  ·rw [ml h1,zd,cR (by decide) (by simp at hb ⊢; omega),bPs]
   simp only [h1,ne_eq,not_true_eq_false,if_false]
   rw [namedA_run c cols l (j + 1) _ (by simp at hb ⊢; omega)]
   by_cases h4 : (ek c.vars cols l).2 = 0
   ·simp [h4]
   ·simp [h4]
  ·rw [kX h1]
   simp [h1]
theorem named_eq (c : LChecker) (q : LQuery) (cols : List LCol) (hl : q.exprs.length = q.names.length) (hb : q.exprs.length ≤ 1000000 ∧ q.aggregates.length ≤ 1000000) : eL c q cols = some (lO c.vars cols q) := by
 unfold eL lO
 rw [namedE_run c.vars cols q.names q.exprs 0 [] (by omega) (by simp; omega),List.drop_zero]
 by_cases h : (cX c.vars cols q.exprs q.names).2 = 0
 ·have hlen : ∀ (es : List LExpr) (ns : List (List UInt8)),(cX c.vars cols es ns).1.length ≤ es.length := by
   intro es
   induction es with
   | nil=>intro ns; simp [cX]
   | cons e es ih =>
    intro ns
    cases ns with
    | nil=>simp [cX]
    | cons n ns =>
     simp only [cX]
     split
     ·simp
     ·split
      ·simp
      ·split
       ·simp
       ·split
        ·simp
        ·have := ih ns; simp; omega
  simp only [h,ne_eq,not_true_eq_false,if_false,List.nil_append]
  rw [namedA_run c cols q.aggregates 0 _ (by have := hlen q.exprs q.names; omega)]
 ·simp [h]
structure SmallQ (q : LQuery) : Prop where
 nodes : (cU q).length ≤ 10000000
 here : ∀ x ∈ cU q,x.exprs.length ≤ 1000000 ∧ x.aggregates.length ≤ 1000000
theorem mem_nodes {q x y : LQuery} (h : x ∈ q.inputs) (hy : y ∈ cU x) : y ∈ cU q := by
 rw [io]
 exact List.mem_cons_of_mem _ (List.mem_flatten.2 ⟨_,List.mem_map.2 ⟨x,h,rfl⟩,hy⟩)
theorem pT (q : LQuery) : q ∈ cU q := by rw [io]; exact List.mem_cons_self
theorem SmallQ.sub {q x : LQuery} (h : SmallQ q) (hx : x ∈ q.inputs) : SmallQ x :=
 ⟨by have := kN hx; have := h.nodes; omega,fun y hy=>h.here y (mem_nodes hx hy)⟩
theorem SmallQ.self {q : LQuery} (h : SmallQ q) : q.exprs.length ≤ 1000000 ∧ q.aggregates.length ≤ 1000000 := h.here q (pT q)
structure ShapeOk (q : LQuery) : Prop where
 kind : 1 ≤ q.kind ∧ q.kind ≤ 10
 arity : q.inputs.length = oi q.kind
 one : q.kind = 2 ∨ q.kind = 4 ∨ q.kind = 5 → q.exprs.length = 1
 named : q.kind = 3 ∨ q.kind = 8 → q.exprs.length = q.names.length
 aggs : q.kind ≠ 8 → q.aggregates = []
 sorted : q.kind = 9 → q.exprs.length = q.descending.length
 limit : q.kind = 10 → 0 ≤ q.count ∧ 0 ≤ q.offset
theorem shape_ok {q : LQuery} (h : ld q = true) : ShapeOk q := by
 unfold ld at h
 simp only [Bool.and_eq_true,decide_eq_true_eq] at h
 obtain ⟨⟨⟨⟨⟨⟨⟨⟨h1,h2⟩,h3⟩,h4⟩,h5⟩,h6⟩,h7⟩,h8⟩,h9⟩ := h
 refine ⟨⟨h1,h2⟩,h3,fun hk=>?_,fun hk=>?_,fun hk=>?_,fun hk=>?_,fun hk=>?_⟩
 ·rw [zp hk] at h9; simpa using h9
 ·rw [zy (by omega),zp hk] at h9; simp at h9; exact h9.1
 ·have : (q.kind == 8) = false := dn hk
  rw [this] at h6; simp at h6; exact h6
 ·rw [zy (by omega),zy (by omega),zp hk] at h9; simp at h9; exact h9.1
 ·rw [zy (by omega),zy (by omega),zy (by omega),zp hk] at h9; simp at h9; omega
theorem join_run (left : Bool) : ∀ (b : List LCol) (j : Nat) (a : List LCol),a.length + b.length ≤ 10000000 →
  ba (σ := List LCol) (ρ := Empty) (fun (_ : Nat) (x2 : LCol) (s2 : List LCol)=>cond x2.nullable
          (aj (ee 32 s2 ([(LCol.mk x2.name x2.kind true)] : List LCol)) fun (x76 : List LCol)=>some (.next x76))
          (aj (ee 32 s2 ([(LCol.mk x2.name x2.kind left)] : List LCol)) fun (x76 : List LCol)=>some (.next x76))) j b a = some (.next (ji a b left))
 | [],j,a,_=>by simp [ba,ji]
 | x :: b,j,a,h=>by
  have step : (cond x.nullable (aj (ee 32 a ([(LCol.mk x.name x.kind true)] : List LCol)) fun (x76 : List LCol)=>some (Flow.next (ρ := Empty) x76))
    (aj (ee 32 a ([(LCol.mk x.name x.kind left)] : List LCol)) fun (x76 : List LCol)=>some (.next x76))) = some (.next (a ++ [⟨x.name,x.kind,x.nullable || left⟩])) := by
   rw [cR (by decide) (by simp at h ⊢; omega),cR (by decide) (by simp at h ⊢; omega)]
   cases x.nullable <;> simp
  rw [ba,step]
  simp only
  rw [join_run left b (j + 1) _ (by simp at h ⊢; omega)]
  simp [ji]
theorem sort_run (vars cols : List LCol) (ins : List (List LCol)) (h0 : aF ins 0 = some cols) : ∀ (es : List LExpr) (j : Nat) (k : Unit → Option (List LCol × Int)),
  aj (ba (σ := Unit) (ρ := ((List LCol) × Int)) (fun (_ : Nat) (x5 : LExpr) (_ : Unit)=>aj (aF ins 0) fun (x122 : List LCol)=>bo (dk x122 vars x5) fun x127=>cond (x127.2.2 != (0 : Int)) (some (.ret ([],x127.2.2))) (some (.next ()))) j es ()) (fun fl5=>fl5.thenR k) =
   if iA vars cols es ≠ 0 then some ([],iA vars cols es) else k ()
 | [],j,k=>by simp [ba,iA]
 | e :: es,j,k=>by
  rw [ba,iA,h0,bPs,bN]
  by_cases h : (dk cols vars e).2.2 = 0
  ·rw [ml h,zd]
   simp only [h,ne_eq,not_true_eq_false,if_false]
   rw [← h0]
   exact sort_run vars cols ins h0 es (j + 1) k
  ·rw [kX h]; simp [h]
theorem out_eq {c : LChecker} {q : LQuery} {ins : List (List LCol)} (hs : ShapeOk q) (hsm : SmallQ q) (hl : ins.length = q.inputs.length) (hb : ∀ l ∈ ins,l.length ≤ 20) : hJ c q ins = some (iv c q ins) := by
 obtain ⟨hk,ha,h1,hn,_,_,_⟩ := hs
 have hself := hsm.self
 have hi : ∀ i,i < ins.length → (ins.getD i []).length ≤ 20 := fun i hi=>by
  rw [List.getD_eq_getElem?_getD,ze hi]
  exact hb _ (List.getElem_mem hi)
 have e0 : q.exprs.length = 1 → aF q.exprs 0 = some (e0Q q) := fun h=>e0_get (by omega)
 unfold hJ iv
 have kk : q.kind = 1 ∨ q.kind = 2 ∨ q.kind = 3 ∨ q.kind = 4 ∨ q.kind = 5 ∨ q.kind = 6 ∨ q.kind = 7 ∨ q.kind = 8 ∨ q.kind = 9 ∨ q.kind = 10 := by omega
 rcases kk with h | h | h | h | h | h | h | h | h | h
 ·rw [h,idx_table]
  simp only [bPs]
  rcases find_idx (fun a0=>eQ a0 q) c.s.tables with ⟨f1,f2⟩ | ⟨t,f1,f2,f3⟩
  ·have f1' : c.s.tables.find? (fun t=>t.name == q.table) = none := f1
   rw [f2,f1']
   rfl
  ·have f1' : c.s.tables.find? (fun t=>t.name == q.table) = some t := f1
   rw [f1',zf (show ¬ bp (fun a0=>eQ a0 q) c.s.tables < 0 from by omega),kR f2 f3]
   rfl
 all_goals rw [h] at ha
 all_goals simp only [oi] at ha
 ·have g0 : aF ins 0 = some (ins.getD 0 []) := nB (by simp at ha; omega)
  rw [h,g0,e0 (h1 (.inl h))]
  simp [bN]
 ·have g0 : aF ins 0 = some (ins.getD 0 []) := nB (by simp at ha; omega)
  rw [h,g0]
  simp only [bPs]
  rw [named_eq c q _ (hn (.inl h)) hself]
  simp [bN]
 ·have g0 : aF ins 0 = some (ins.getD 0 []) := nB (by simp at ha; omega)
  have g1 : aF ins 1 = some (ins.getD 1 []) := getD1 (by simp at ha; omega)
  rw [h,g0,g1,e0 (h1 (.inr (.inl h)))]
  simp only [bPs]
  rw [join_run ((4 : Int) == 5) _ 0 _ (by have := hi 0 (by simp at ha; omega); have := hi 1 (by simp at ha; omega); omega)]
  simp [bN]
 ·have g0 : aF ins 0 = some (ins.getD 0 []) := nB (by simp at ha; omega)
  have g1 : aF ins 1 = some (ins.getD 1 []) := getD1 (by simp at ha; omega)
  rw [h,g0,g1,e0 (h1 (.inr (.inr h)))]
  simp only [bPs]
  rw [join_run ((5 : Int) == 5) _ 0 _ (by have := hi 0 (by simp at ha; omega); have := hi 1 (by simp at ha; omega); omega)]
  simp [bN]
 ·have g0 : aF ins 0 = some (ins.getD 0 []) := nB (by simp at ha; omega)
  have g1 : aF ins 1 = some (ins.getD 1 []) := getD1 (by simp at ha; omega)
  rw [h,g0,g1]
  simp only [bPs,set_ok]
  simp [bN]
 ·have g0 : aF ins 0 = some (ins.getD 0 []) := nB (by simp at ha; omega)
  have g1 : aF ins 1 = some (ins.getD 1 []) := getD1 (by simp at ha; omega)
  rw [h,g0,g1]
  simp only [bPs,set_ok]
  simp [bN]
 ·have g0 : aF ins 0 = some (ins.getD 0 []) := nB (by simp at ha; omega)
  rw [h,g0]
  simp only [bPs]
  rw [named_eq c q _ (hn (.inr h)) hself]
  simp [bN]
 ·have g0 : aF ins 0 = some (ins.getD 0 []) := nB (by simp at ha; omega)
  rw [h,sort_run c.vars _ ins g0,g0]
  simp only [bN,bPs]
  by_cases hse : iA c.vars (ins.getD 0 []) q.exprs = 0
  ·simp only [hse,ne_eq,not_true_eq_false,if_false]; rfl
  ·simp only [hse,ne_eq,not_false_eq_true,if_true]; rfl
 ·have g0 : aF ins 0 = some (ins.getD 0 []) := nB (by simp at ha; omega)
  rw [h,g0]
  simp [bN]
def dY : List (List LCol × Int) → List (List LCol) × Int
 | []=>([],0)
 | r :: l=>if r.2 ≠ 0 then ([],r.2) else if (dY l).2 ≠ 0 then ([],(dY l).2) else (r.1 :: (dY l).1,0)
def od (c : LChecker) (q : LQuery) (ins : List (List LCol × Int)) : List LCol × Int :=
 if ld q = false then ([],3) else if (dY ins).2 ≠ 0 then ([],(dY ins).2)
 else if (iv c q (dY ins).1).2 ≠ 0 then ([],(iv c q (dY ins).1).2)
 else if 20 < (iv c q (dY ins).1).1.length then ([],2)
 else if ((iv c q (dY ins).1).1.map LCol.name).Nodup then ((iv c q (dY ins).1).1,0) else ([],23)
def dW (c : LChecker) (q : LQuery) : List LCol × Int := od c q (q.inputs.attach.map fun x=>dW c x.1)
termination_by SizeOf.sizeOf q
decreasing_by exact LQuery.inputs_lt x.2
theorem pX (c : LChecker) (q : LQuery) : dW c q = od c q (q.inputs.map (dW c)) := by
 rw [dW,List.attach_map_val (f := dW c)]
theorem rD (f : LQuery → Option (List LCol × Int)) (g : LQuery → List LCol × Int) : ∀ (l : List LQuery) (j : Nat) (s : List (List LCol)),(∀ x ∈ l,f x = some (g x)) → s.length + l.length ≤ 10000000 → ∀ k : List (List LCol) → Option (List LCol × Int),
  aj (ba (σ := List (List LCol)) (ρ := ((List LCol) × Int)) (fun (_ : Nat) (x1 : LQuery) (s1 : List (List LCol))=>aj (f x1) fun x28=>cond (x28.2 != (0 : Int)) (some (.ret ([],x28.2)))
    (aj (ee 24 s1 ([x28.1] : List (List LCol))) fun (x37 : List (List LCol))=>some (.next x37))) j l s) (fun fl1=>fl1.thenR k) =
   if (dY (l.map g)).2 ≠ 0 then some ([],(dY (l.map g)).2) else k (s ++ (dY (l.map g)).1)
 | [],j,s,_,_,k=>by simp [ba,dY]
 | x :: l,j,s,h,hb,k=>by
  rw [ba,h x (by simp),bPs,List.map_cons,dY]
  by_cases h1 : (g x).2 = 0
  ·rw [ml h1,zd,cR (by decide) (by simp at hb ⊢; omega),bPs]
   simp only [h1,ne_eq,not_true_eq_false,if_false]
   rw [rD f g l (j + 1) _ (fun y hy=>h y (by simp [hy])) (by simp at hb ⊢; omega) k]
   by_cases h2 : (dY (l.map g)).2 = 0
   ·simp [h2]
   ·simp [h2]
  ·rw [kX h1]; simp [h1]
theorem pL : ∀ {l : List (List LCol × Int)},(dY l).2 = 0 → (∀ r ∈ l,r.2 = 0) ∧ (dY l).1 = l.map (·.1)
 | [],_=>⟨by simp,rfl⟩
 | r :: l,h=>by
  simp only [dY] at h ⊢
  by_cases h1 : r.2 = 0
  ·by_cases h2 : (dY l).2 = 0
   ·obtain ⟨a,b⟩ := pL h2
    refine ⟨fun x hx=>?_,by simp [h1,h2,b]⟩
    rcases List.mem_cons.1 hx with rfl | hx
    ·exact h1
    ·exact a x hx
   ·simp [h1,h2] at h
  ·simp [h1] at h
theorem dup_run (out : List LCol) : aj (ba (σ := Unit) (ρ := ((List LCol) × Int)) (fun (j2 : Nat) (x2 : LCol) (_ : Unit) =>
     aj (nj out 0 (j2 : Int)) fun (x61 : List LCol) =>
     aj (cx x61 (fun a0=>some (cL a0 x2))) fun x63 =>
     cond x63 (some (.ret ([],23))) (some (.next ()))) 0 out ()) (fun fl2=>fl2.thenR fun (_ : Unit)=>some (out,0)) = some (if (out.map LCol.name).Nodup then (out,0) else ([],23)) := by
 obtain ⟨fl,hfl,hr⟩ := fF (step := fun (j2 : Nat) (x2 : LCol) (_ : Unit) =>
     aj (nj out 0 (j2 : Int)) fun (x61 : List LCol) =>
     aj (cx x61 (fun a0=>some (cL a0 x2))) fun x63 =>
     cond x63 (some (Flow.ret (([],23) : List LCol × Int))) (some (.next ())))
  (fun j _=>((out.take j).map LCol.name).Nodup) (fun r=>r = ([],23) ∧ ¬ (out.map LCol.name).Nodup) out 0 () (by simp) (fun k x s hk hI=>by
   simp only [Nat.zero_add] at hI ⊢
   have hkl := (zg.1 hk).1
   rw [px ⟨by omega,by omega,by omega⟩,bPs]
   unfold cx
   rw [idx_column,bPs,bPs,iT]
   simp only [Int.toNat_natCast,Int.toNat_zero,List.drop_zero]
   cases ha : (out.take k).any fun a0=>cL a0 x with
   | true =>
    refine ⟨_,rfl,rfl,fun hnd=>?_⟩
    obtain ⟨y,hy,he⟩ := List.any_eq_true.1 ha
    have he : y.name = x.name := by simpa [cL] using he
    obtain ⟨i,hi,hyi⟩ := List.mem_take_iff_getElem.1 hy
    have hii : i < k := by omega
    rw [List.nodup_iff_pairwise_ne,List.pairwise_iff_getElem] at hnd
    refine hnd i k (by simp; omega) (by simpa using hkl) hii ?_
    simp only [List.getElem_map]
    rw [(zg.1 hk).2,hyi,he]
   | false =>
    refine ⟨_,rfl,?_⟩
    simp only
    rw [List.take_add_one,hk,List.map_append,List.nodup_append]
    refine ⟨hI,by simp,fun a ha' b hb hab=>?_⟩
    simp at hb
    subst hb
    subst hab
    obtain ⟨y,hy,he⟩ := List.mem_map.1 ha'
    have := List.any_eq_false.1 ha y hy
    exact this (by simpa [cL] using he))
 rw [hfl,bPs]
 cases fl with
 | brk s=>exact absurd hr (by simp)
 | ret r=>rw [lR,hr.1,zy hr.2]
 | next s =>
  simp only [Nat.zero_add,List.take_length] at hr
  rw [ii,zp hr]
theorem jZ (c : LChecker) (q : LQuery) : (dW c q).1.length ≤ 20 := by
 rw [pX]
 unfold od
 repeat' split
 all_goals first | (simp; done) | (simp only; omega)
theorem cols_ok (c : LChecker) : ∀ q : LQuery,SmallQ q → fh c q = some (dW c q) := by
 refine LQuery.ind fun q ih hsm=>?_
 refine nC (γ := LChecker) (F := fun n c q=>fg n c q) (O := fun r c q=>ff r c q) (fun n=>rfl) c q ?_ (fun x hx=>⟨_,ih x hx (hsm.sub hx)⟩) ?_
 ·intro r r' h
  simp only [ff]
  congr 1
  funext b
  congr 2
  exact kG q.inputs 0 _ fun k x s hk=>by rw [h x (gK hk)]
 ·have e : ∀ c x,(iQ fun n=>fg n c x) = fh c x := fun _ _=>rfl
  simp only [ff,e]
  have hself := hsm.self
  rw [shape_eq q ⟨by omega,by omega⟩,bPs,pX]
  unfold od
  cases hs : ld q with
  | false=>rfl
  | true =>
   have hok := shape_ok hs
   have hin : q.inputs.length ≤ 2 := by rw [hok.arity]; unfold oi; split <;> (try split) <;> omega
   simp only [Bool.not_true,zd,Bool.true_eq_false,if_false]
   rw [rD (fh c) (dW c) q.inputs 0 [] (fun x hx=>ih x hx (hsm.sub hx)) (by simp; omega),List.nil_append]
   by_cases h1 : (dY (q.inputs.map (dW c))).2 = 0
   ·obtain ⟨a,b⟩ := pL h1
    simp only [h1,ne_eq,not_true_eq_false,if_false]
    rw [out_eq hok hsm (by rw [b]; simp) (fun l hl=>by
     rw [b] at hl
     obtain ⟨r,hr,rfl⟩ := List.mem_map.1 hl
     obtain ⟨x,_,rfl⟩ := List.mem_map.1 hr
     exact jZ c x),bPs]
    generalize iv c q (dY (q.inputs.map (dW c))).1 = o
    by_cases h2 : o.2 = 0
    ·rw [ml h2,zd]
     simp only [h2,not_true_eq_false,if_false]
     by_cases h3 : 20 < o.1.length
     ·rw [zt (show (o.1.length : Int) > 20 from by omega),zp h3]; rfl
     ·rw [zf (show ¬ (o.1.length : Int) > 20 from by omega),zy h3,zd]
      exact dup_run o.1
    ·rw [kX h2]; simp [h2]
   ·simp [h1]
theorem whileM_by {σ ρ : Type} {step : σ → Option (Flow σ ρ)} (I : σ → Prop) (μ : σ → Nat) (Q : σ → Prop) (R : ρ → Prop) (hs : ∀ s,I s → ∃ fl,step s = some fl ∧ (match fl with | .next s'=>I s' ∧ μ s' < μ s | .brk s'=>Q s' | .ret r=>R r)) :
  ∀ s,I s → ∃ fl,whileM step s = some fl ∧ (match fl with | .next s'=>Q s' | .brk _=>False | .ret r=>R r) := by
 intro s
 generalize hn : μ s = n
 induction n using Nat.strongRecOn generalizing s with
 | _ n ih =>
  intro hI
  obtain ⟨fl,h1,h2⟩ := hs s hI
  cases fl with
  | next s' =>
   obtain ⟨fl,h3,h4⟩ := ih (μ s') (hn ▸ h2.2) s' rfl h2.1
   exact ⟨fl,eI h1 h3,h4⟩
  | brk s'=>exact ⟨.next s',eI h1 rfl,h2⟩
  | ret r=>exact ⟨.ret r,eI h1 rfl,h2⟩
theorem cy {σ β : Type} {step : σ → Option (Flow σ Empty)} {k : σ → Option β} {R : β → Prop} {s : σ} (I : σ → Prop) (μ : σ → Nat) (Q : σ → Prop) (h0 : I s)
  (hs : ∀ s,I s → ∃ fl,step s = some fl ∧ (match fl with | .next s'=>I s' ∧ μ s' < μ s | .brk s'=>Q s' | .ret _=>False)) (hk : ∀ s',Q s' → ∃ r,k s' = some r ∧ R r) :
  ∃ r,aj (whileM step s) (fun fl=>fl.thenP k) = some r ∧ R r := by
 obtain ⟨fl,h1,h2⟩ := whileM_by (step := step) I μ Q (fun _=>False) (fun s hI=>by
  obtain ⟨fl,h1,h2⟩ := hs s hI
  refine ⟨fl,h1,?_⟩
  cases fl with
  | next s'=>exact h2
  | brk s'=>exact h2
  | ret r=>exact r.elim) s h0
 cases fl with
 | next s'=>rw [h1]; exact hk s' h2
 | brk s'=>exact absurd h2 (by simp)
 | ret r=>exact r.elim
theorem mid_eq {n : Int} (h0 : 0 ≤ n) (h1 : n ≤ 4611686018427387904) : i64.wrap (Int.fdiv (IntKind.u64.wrap (i64.wrap n)) (2 ^ 1)) = n / 2 := by
 have h3 : i64.wrap n = n := bC (by omega) (by omega)
 have h2 : IntKind.u64.wrap n = n := by
  simp only [IntKind.wrap,IntKind.bits,IntKind.signed]
  simp
  omega
 rw [h3,h2,show (2 : Int) ^ 1 = 2 from rfl,Int.fdiv_eq_ediv_of_nonneg _ (by decide)]
 exact bC (by omega) (by omega)
section
variable {α : Type}
theorem swap_perm {l : List α} {i j : Nat} {x y : α} (hi : l[i]? = some x) (hj : l[j]? = some y) : ((l.set i y).set j x).Perm l := by
 have hil := (zg.1 hi).1
 have hjl := (zg.1 hj).1
 have hx := (zg.1 hi).2
 have hy := (zg.1 hj).2
 rw [← hx,← hy]
 exact List.set_set_perm hil hjl
end
section
abbrev Rows := Rz
abbrev Cmp := Rq → Rq → Option Int
structure SrtOk (cmp : Cmp) (d0 d : Rows) : Prop where
 perm : d.Perm d0
 small : d0.length ≤ 1000000
 tot : ∀ x ∈ d0,∀ y ∈ d0,Tot (cmp x y)
variable {cmp : Cmp} {d0 : Rows}
theorem SrtOk.len {d : Rows} (h : SrtOk cmp d0 d) : d.length = d0.length := h.perm.length_eq
theorem SrtOk.cm {d : Rows} (h : SrtOk cmp d0 d) {x y : Rq} (hx : x ∈ d) (hy : y ∈ d) : Tot (cmp x y) := h.tot x (h.perm.mem_iff.1 hx) y (h.perm.mem_iff.1 hy)
theorem SrtOk.swap {d : Rows} (h : SrtOk cmp d0 d) {i j : Nat} {x y : Rq} (hi : d[i]? = some x) (hj : d[j]? = some y) : SrtOk cmp d0 ((d.set i y).set j x) := ⟨(swap_perm hi hj).trans h.perm,h.small,h.tot⟩
theorem SrtOk.get {d : Rows} (h : SrtOk cmp d0 d) {i : Int} (h0 : 0 ≤ i) (h1 : i < d0.length) : ∃ x,aF d i = some x ∧ d[i.toNat]? = some x ∧ x ∈ d := by
 have hl := h.len
 have : i.toNat < d.length := by omega
 exact ⟨d[i.toNat],kR h0 (ze this),ze this,List.getElem_mem _⟩
theorem getI_set {α : Type} {l : List α} {i j : Int} {x y : α} (h0 : 0 ≤ j) (hj : l[j.toNat]? = some y) : ∃ z,aF (l.set i.toNat x) j = some z := by
 have hl := (zg.1 hj).1
 exact ⟨_,kR h0 (ze (by simpa using hl))⟩
theorem qW {β : Type} {d : Rows} (h : SrtOk cmp d0 d) {i j : Int} (hi0 : 0 ≤ i) (hi1 : i < d0.length) (hj0 : 0 ≤ j) (hj1 : j < d0.length) : ∃ d',SrtOk cmp d0 d' ∧ ∀ k : Rows → Option β,
  (aj (aF d j) fun (x28 : Rq)=>aj (aF d i) fun (x34 : Rq)=>aj (aF d i) fun (_ : Rq)=>bo (d.set i.toNat x28) fun (y6 : Rows)=>aj (aF y6 j) fun (_ : Rq)=>bo (y6.set j.toNat x34) fun (y7 : Rows)=>k y7) = k d' := by
 obtain ⟨y,hy,hy',_⟩ := h.get hj0 hj1
 obtain ⟨x,hx,hx',_⟩ := h.get hi0 hi1
 obtain ⟨z,hz⟩ := getI_set (i := i) (x := y) hj0 hy'
 refine ⟨_,h.swap hx' hy',fun k=>?_⟩
 rw [hy,hx]
 simp only [bPs,bN]
 rw [hz,bPs]
theorem qP {d : Rows} (h : SrtOk cmp d0 d) {a b : Int} (ha : 0 ≤ a ∧ a ≤ d0.length) (hb : b ≤ d0.length) : ∃ d',bZ d a b cmp = some d' ∧ SrtOk cmp d0 d' := by
 have hs := h.small
 unfold bZ
 rw [bC (by omega) (by omega)]
 refine cy (fun s=>SrtOk cmp d0 s.1 ∧ a < s.2) (fun s=>(b - s.2).toNat) (fun s=>SrtOk cmp d0 s.1) ⟨h,by show a < a + 1; omega⟩ (fun s hI=>?_) (fun s hq=>⟨_,rfl,hq⟩)
 obtain ⟨h1,h2⟩ := hI
 by_cases hlt : s.2 < b
 ·rw [zt hlt,zc]
  refine cy (fun t=>SrtOk cmp d0 t.1 ∧ a ≤ t.2 ∧ t.2 < b) (fun t=>(t.2 - a).toNat) (fun t=>SrtOk cmp d0 t.1) ⟨h1,by show a ≤ s.2; omega,hlt⟩ (fun t hI=>?_) (fun t hq=>⟨_,rfl,?_⟩)
  ·obtain ⟨g1,g2,g3⟩ := hI
   by_cases hgt : t.2 > a
   ·rw [zt hgt,zc,bC (by omega) (by omega)]
    obtain ⟨x,hx,hx',hxm⟩ := g1.get (i := t.2) (by omega) (by omega)
    obtain ⟨y,hy,hy',hym⟩ := g1.get (i := t.2 - 1) (by omega) (by omega)
    obtain ⟨c,hc⟩ := g1.cm hxm hym
    obtain ⟨d',hd',hsw⟩ := qW (β := Flow (Rows × Int) Empty) g1 (i := t.2) (j := t.2 - 1) (by omega) (by omega) (by omega) (by omega)
    rw [hx,bPs,hy,bPs,hc,bPs,bPs]
    by_cases hneg : c < 0
    ·rw [zt hneg]
     have := hsw (fun y31=>some (.next (y31,t.2 - 1)))
     rw [hx,hy] at this
     refine ⟨.next (d',t.2 - 1),?_,⟨hd',by show a ≤ t.2 - 1; omega,by show t.2 - 1 < b; omega⟩,by show (t.2 - 1 - a).toNat < (t.2 - a).toNat; omega⟩
     rw [zc]
     simp only
     rw [hy,hx]
     exact this
    ·rw [zf hneg]
     exact ⟨_,rfl,g1⟩
   ·rw [zf hgt]
    exact ⟨_,rfl,g1⟩
  ·show (SrtOk cmp d0 t.1 ∧ a < i64.wrap (s.2 + 1)) ∧ (b - i64.wrap (s.2 + 1)).toNat < (b - s.2).toNat
   rw [bC (by omega) (by omega)]
   exact ⟨⟨hq,by omega⟩,by omega⟩
 ·rw [zf hlt]
  exact ⟨_,rfl,h1⟩
theorem oe {d : Rows} (h : SrtOk cmp d0 d) {a b n : Int} (ha : 0 ≤ a) (hb : 0 ≤ b) (hn : n ≤ d0.length) (ha' : a + n ≤ d0.length) (hb' : b + n ≤ d0.length) : ∃ d',cr d a b n cmp = some d' ∧ SrtOk cmp d0 d' := by
 have hs := h.small
 unfold cr
 refine cy (fun s=>SrtOk cmp d0 s.1 ∧ 0 ≤ s.2) (fun s=>(n - s.2).toNat) (fun s=>SrtOk cmp d0 s.1) ⟨h,by show (0 : Int) ≤ 0; omega⟩ (fun s hI=>?_) (fun s hq=>⟨_,rfl,hq⟩)
 obtain ⟨h1,h2⟩ := hI
 by_cases hlt : s.2 < n
 ·rw [zt hlt,zc,bC (n := b + s.2) (by omega) (by omega),bC (n := a + s.2) (by omega) (by omega),bC (n := s.2 + 1) (by omega) (by omega)]
  obtain ⟨d',hd',hsw⟩ := qW (β := Flow (Rows × Int) Empty) h1 (i := a + s.2) (j := b + s.2) (by omega) (by omega) (by omega) (by omega)
  exact ⟨_,hsw _,⟨hd',by show 0 ≤ s.2 + 1; omega⟩,by show (n - (s.2 + 1)).toNat < (n - s.2).toNat; omega⟩
 ·rw [zf hlt]
  exact ⟨_,rfl,h1⟩
theorem rotate_ok {d : Rows} (h : SrtOk cmp d0 d) {a m b : Int} (ha : 0 ≤ a) (hm : a < m) (hb : m < b) (hb' : b ≤ d0.length) : ∃ d',cS d a m b cmp = some d' ∧ SrtOk cmp d0 d' := by
 have hs := h.small
 unfold cS
 rw [bC (n := m - a) (by omega) (by omega),bC (n := b - m) (by omega) (by omega)]
 refine cy (fun s=>SrtOk cmp d0 s.1 ∧ 0 < s.2.1 ∧ 0 < s.2.2 ∧ s.2.1 ≤ m - a ∧ s.2.2 ≤ b - m) (fun s=>(s.2.1 + s.2.2).toNat) (fun s=>SrtOk cmp d0 s.1 ∧ 0 < s.2.1 ∧ s.2.1 ≤ m - a ∧ s.2.1 ≤ b - m) ⟨h,by show 0 < m - a; omega,by show 0 < b - m; omega,Int.le_refl _,Int.le_refl _⟩ (fun s hI=>?_) (fun s hq=>?_)
 ·obtain ⟨h1,h2,h3,h4,h5⟩ := hI
  by_cases hne : s.2.1 = s.2.2
  ·rw [ml hne]
   exact ⟨_,rfl,h1,h2,h4,by show s.2.1 ≤ b - m; omega⟩
  ·rw [kX hne,zc,bC (n := m - s.2.1) (by omega) (by omega)]
   by_cases hgt : s.2.1 > s.2.2
   ·rw [zt hgt,zc]
    obtain ⟨d',e,hd'⟩ := oe h1 (a := m - s.2.1) (b := m) (n := s.2.2) (by omega) (by omega) (by omega) (by omega) (by omega)
    rw [e,bPs,bu (by rw [hd'.len,h1.len]),bPs,bC (by omega) (by omega)]
    exact ⟨_,rfl,⟨hd',by show 0 < s.2.1 - s.2.2; omega,h3,by show s.2.1 - s.2.2 ≤ m - a; omega,h5⟩,by show (s.2.1 - s.2.2 + s.2.2).toNat < (s.2.1 + s.2.2).toNat; omega⟩
   ·rw [zf hgt,zd,bC (n := m + s.2.2) (by omega) (by omega),bC (n := m + s.2.2 - s.2.1) (by omega) (by omega)]
    obtain ⟨d',e,hd'⟩ := oe h1 (a := m - s.2.1) (b := m + s.2.2 - s.2.1) (n := s.2.1) (by omega) (by omega) (by omega) (by omega) (by omega)
    rw [e,bPs,bu (by rw [hd'.len,h1.len]),bPs,bC (by omega) (by omega)]
    exact ⟨_,rfl,⟨hd',h2,by show 0 < s.2.2 - s.2.1; omega,h4,by show s.2.2 - s.2.1 ≤ b - m; omega⟩,by show (s.2.1 + (s.2.2 - s.2.1)).toNat < (s.2.1 + s.2.2).toNat; omega⟩
 ·obtain ⟨h1,h2,h3,h4⟩ := hq
  rw [bC (n := m - s.2.1) (by omega) (by omega)]
  obtain ⟨d',e,hd'⟩ := oe h1 (a := m - s.2.1) (b := m) (n := s.2.1) (by omega) (by omega) (by omega) (by omega) (by omega)
  rw [e,bPs,bu (by rw [hd'.len,h1.len]),bPs]
  exact ⟨_,rfl,hd'⟩
def LeO {β : Type} (o o' : Option β) : Prop := ∀ r,o = some r → o' = some r
theorem LeO.refl {β : Type} (o : Option β) : LeO o o := fun _ h=>h
theorem LeO.bind {β γ : Type} {o o' : Option β} {k k' : β → Option γ} (h : LeO o o') (hk : ∀ v,LeO (k v) (k' v)) : LeO (aj o k) (aj o' k') := by
 intro r hr
 cases o with
 | none=>cases hr
 | some v=>rw [h v rfl]; exact hk v r hr
theorem LeO.cond {β : Type} {b : Bool} {x x' y y' : Option β} (hx : LeO x x') (hy : LeO y y') : LeO (cond b x y) (cond b x' y') := by
 cases b
 ·exact hy
 ·exact hx
theorem LeO.thenP {σ β : Type} {fl : Flow σ Empty} {k k' : σ → Option β} (hk : ∀ s,LeO (k s) (k' s)) : LeO (fl.thenP k) (fl.thenP k') := by
 cases fl with
 | next s=>exact hk s
 | brk s=>exact hk s
 | ret r=>exact r.elim
theorem symMerge_mono {r r' : Rows → Int → Int → Int → Option Rows} (h : ∀ d a m b,LeO (r d a m b) (r' d a m b)) (d : Rows) (a m b : Int) : LeO (cG r d a m b cmp) (cG r' d a m b cmp) := by
 unfold cG
 simp only [bN]
 refine LeO.cond (LeO.refl _) (LeO.cond (LeO.refl _) (LeO.bind (LeO.refl _) fun fl=>LeO.thenP fun s=>LeO.bind (LeO.refl _) fun t=>LeO.bind (LeO.cond (LeO.bind (h _ _ _ _) fun _=>LeO.refl _) (LeO.refl _)) fun u=>LeO.cond (LeO.cond (LeO.bind (h _ _ _ _) fun _=>LeO.refl _) (LeO.refl _)) (LeO.refl _)))
theorem qh : ∀ (n : Nat) (d : Rows) (a m b : Int),LeO (bw n d a m b cmp) (bw (n + 1) d a m b cmp)
 | 0,d,a,m,b=>fun r h=>by simp [bw] at h
 | n + 1,d,a,m,b=>by
  rw [bw,bw]
  exact symMerge_mono (fun d a m b=>qh n d a m b) d a m b
theorem mf {n : Nat} {d : Rows} {a m b : Int} {r : Rows} (h : bw n d a m b cmp = some r) : fm d a m b cmp = some r := by
 refine nP n fun k hk=>?_
 obtain ⟨j,rfl⟩ : ∃ j,k = n + j := ⟨k - n,by omega⟩
 clear hk
 induction j with
 | zero=>exact h
 | succ j ih=>exact qh (n + j) d a m b r ih
theorem mL : ∀ (n : Nat) {d : Rows} (_ : SrtOk cmp d0 d) {a m b : Int},0 ≤ a → a < m → m < b → b ≤ d0.length → (b - a).toNat < n → ∃ d',bw n d a m b cmp = some d' ∧ SrtOk cmp d0 d'
 | 0,_,_,_,_,_,_,_,_,_,hn=>by omega
 | n + 1,d,h,a,m,b,ha,hm,hb,hb',hn=>by
  have hs := h.small
  rw [bw]
  unfold cG
  rw [bC (n := m - a) (by omega) (by omega),bC (n := b - m) (by omega) (by omega)]
  by_cases h1 : m - a = 1
  ·rw [jW h1,zc]
   refine cy (fun s=>SrtOk cmp d0 s.1 ∧ m ≤ s.2.1 ∧ s.2.1 ≤ s.2.2 ∧ s.2.2 ≤ b) (fun s=>(s.2.2 - s.2.1).toNat) (fun s=>SrtOk cmp d0 s.1 ∧ m ≤ s.2.1 ∧ s.2.1 ≤ b) ⟨h,Int.le_refl _,by show m ≤ b; omega,Int.le_refl _⟩ (fun s hI=>?_) (fun s hq=>?_)
   ·obtain ⟨g1,g2,g3,g4⟩ := hI
    by_cases hlt : s.2.1 < s.2.2
    ·rw [zt hlt,zc,mid_eq (n := s.2.1 + s.2.2) (by omega) (by omega)]
     obtain ⟨x,hx,_,hxm⟩ := g1.get (i := (s.2.1 + s.2.2) / 2) (by omega) (by omega)
     obtain ⟨y,hy,_,hym⟩ := g1.get (i := a) (by omega) (by omega)
     obtain ⟨c,hc⟩ := g1.cm hxm hym
     rw [hx,bPs,hy,bPs,hc,bPs]
     by_cases hneg : c < 0
     ·rw [zt hneg,zc,bC (by omega) (by omega)]
      exact ⟨_,rfl,⟨g1,by show m ≤ (s.2.1 + s.2.2) / 2 + 1; omega,by show (s.2.1 + s.2.2) / 2 + 1 ≤ s.2.2; omega,g4⟩,by show (s.2.2 - ((s.2.1 + s.2.2) / 2 + 1)).toNat < (s.2.2 - s.2.1).toNat; omega⟩
     ·rw [zf hneg,zd]
      exact ⟨_,rfl,⟨g1,g2,by show s.2.1 ≤ (s.2.1 + s.2.2) / 2; omega,by show (s.2.1 + s.2.2) / 2 ≤ b; omega⟩,by show ((s.2.1 + s.2.2) / 2 - s.2.1).toNat < (s.2.2 - s.2.1).toNat; omega⟩
    ·rw [zf hlt]
     exact ⟨_,rfl,g1,g2,by show s.2.1 ≤ b; omega⟩
   ·obtain ⟨g1,g2,g3⟩ := hq
    rw [bC (n := s.2.1 - 1) (by omega) (by omega)]
    refine cy (fun t=>SrtOk cmp d0 t.1 ∧ a ≤ t.2) (fun t=>(s.2.1 - t.2).toNat) (fun t=>SrtOk cmp d0 t.1) ⟨g1,Int.le_refl _⟩ (fun t hI=>?_) (fun t hq=>⟨_,rfl,hq⟩)
    obtain ⟨k1,k2⟩ := hI
    by_cases hlt : t.2 < s.2.1 - 1
    ·rw [zt hlt,zc,bC (n := t.2 + 1) (by omega) (by omega)]
     obtain ⟨d',hd',hsw⟩ := qW (β := Flow (Rows × Int) Empty) k1 (i := t.2) (j := t.2 + 1) (by omega) (by omega) (by omega) (by omega)
     exact ⟨_,hsw _,⟨hd',by show a ≤ t.2 + 1; omega⟩,by show (s.2.1 - (t.2 + 1)).toNat < (s.2.1 - t.2).toNat; omega⟩
    ·rw [zf hlt]
     exact ⟨_,rfl,k1⟩
  ·rw [dn h1,zd]
   by_cases h2 : b - m = 1
   ·rw [jW h2,zc]
    refine cy (fun s=>SrtOk cmp d0 s.1 ∧ a ≤ s.2.1 ∧ s.2.1 ≤ s.2.2 ∧ s.2.2 ≤ m) (fun s=>(s.2.2 - s.2.1).toNat) (fun s=>SrtOk cmp d0 s.1 ∧ a ≤ s.2.1 ∧ s.2.1 ≤ m) ⟨h,Int.le_refl _,by show a ≤ m; omega,Int.le_refl _⟩ (fun s hI=>?_) (fun s hq=>?_)
    ·obtain ⟨g1,g2,g3,g4⟩ := hI
     by_cases hlt : s.2.1 < s.2.2
     ·rw [zt hlt,zc,mid_eq (n := s.2.1 + s.2.2) (by omega) (by omega)]
      obtain ⟨x,hx,_,hxm⟩ := g1.get (i := m) (by omega) (by omega)
      obtain ⟨y,hy,_,hym⟩ := g1.get (i := (s.2.1 + s.2.2) / 2) (by omega) (by omega)
      obtain ⟨c,hc⟩ := g1.cm hxm hym
      rw [hx,bPs,hy,bPs,hc,bPs]
      by_cases hneg : c < 0
      ·rw [zt hneg]
       exact ⟨_,rfl,⟨g1,g2,by show s.2.1 ≤ (s.2.1 + s.2.2) / 2; omega,by show (s.2.1 + s.2.2) / 2 ≤ m; omega⟩,by show ((s.2.1 + s.2.2) / 2 - s.2.1).toNat < (s.2.2 - s.2.1).toNat; omega⟩
      ·rw [zf hneg,Bool.not_false,zc,bC (by omega) (by omega)]
       exact ⟨_,rfl,⟨g1,by show a ≤ (s.2.1 + s.2.2) / 2 + 1; omega,by show (s.2.1 + s.2.2) / 2 + 1 ≤ s.2.2; omega,g4⟩,by show (s.2.2 - ((s.2.1 + s.2.2) / 2 + 1)).toNat < (s.2.2 - s.2.1).toNat; omega⟩
     ·rw [zf hlt]
      exact ⟨_,rfl,g1,g2,by show s.2.1 ≤ m; omega⟩
    ·obtain ⟨g1,g2,g3⟩ := hq
     refine cy (fun t=>SrtOk cmp d0 t.1 ∧ a ≤ t.2 ∧ t.2 ≤ m) (fun t=>(t.2 - a).toNat) (fun t=>SrtOk cmp d0 t.1) ⟨g1,by show a ≤ m; omega,Int.le_refl _⟩ (fun t hI=>?_) (fun t hq=>⟨_,rfl,hq⟩)
     obtain ⟨k1,k2,k3⟩ := hI
     by_cases hlt : t.2 > s.2.1
     ·rw [zt hlt,zc,bC (n := t.2 - 1) (by omega) (by omega)]
      obtain ⟨d',hd',hsw⟩ := qW (β := Flow (Rows × Int) Empty) k1 (i := t.2) (j := t.2 - 1) (by omega) (by omega) (by omega) (by omega)
      exact ⟨_,hsw _,⟨hd',by show a ≤ t.2 - 1; omega,by show t.2 - 1 ≤ m; omega⟩,by show (t.2 - 1 - a).toNat < (t.2 - a).toNat; omega⟩
     ·rw [zf hlt]
      exact ⟨_,rfl,k1⟩
   ·rw [dn h2,zd]
    simp only [bN]
    rw [mid_eq (n := a + b) (by omega) (by omega)]
    generalize hmid : (a + b) / 2 = mid
    have b1 : 2 * mid ≤ a + b ∧ a + b ≤ 2 * mid + 1 := by omega
    rw [bC (n := mid + m) (by omega) (by omega),bC (n := mid + m - b) (by omega) (by omega),bC (n := mid + m - 1) (by omega) (by omega)]
    obtain ⟨lo,hi,e1,l1,l2,l3,l4,l5,l6⟩ : ∃ lo hi : Int,(cond (decide (m > mid)) ((d,mid + m - b,mid)) ((d,a,m)) : Rows × Int × Int) = (d,lo,hi) ∧ a ≤ lo ∧ lo ≤ hi ∧ hi ≤ m ∧ mid + m - lo ≤ b ∧ m ≤ mid + m - hi ∧ hi ≤ mid := by
     by_cases hgt : m > mid
     ·exact ⟨mid + m - b,mid,by rw [zt hgt]; rfl,by omega,by omega,by omega,by omega,by omega,by omega⟩
     ·exact ⟨a,m,by rw [zf hgt]; rfl,by omega,by omega,by omega,by omega,by omega,by omega⟩
    rw [e1]
    refine cy (fun s=>SrtOk cmp d0 s.1 ∧ lo ≤ s.2.1 ∧ s.2.1 ≤ s.2.2 ∧ s.2.2 ≤ hi) (fun s=>(s.2.2 - s.2.1).toNat) (fun s=>SrtOk cmp d0 s.1 ∧ lo ≤ s.2.1 ∧ s.2.1 ≤ hi) ⟨h,Int.le_refl _,l2,Int.le_refl _⟩ (fun s hI=>?_) (fun s hq=>?_)
    ·obtain ⟨g1,g2,g3,g4⟩ := hI
     by_cases hlt : s.2.1 < s.2.2
     ·rw [zt hlt,zc,mid_eq (n := s.2.1 + s.2.2) (by omega) (by omega)]
      generalize hc : (s.2.1 + s.2.2) / 2 = c
      have c1 : s.2.1 ≤ c ∧ c < s.2.2 := by omega
      rw [bC (n := mid + m - 1 - c) (by omega) (by omega)]
      obtain ⟨x,hx,_,hxm⟩ := g1.get (i := mid + m - 1 - c) (by omega) (by omega)
      obtain ⟨y,hy,_,hym⟩ := g1.get (i := c) (by omega) (by omega)
      obtain ⟨v,hv⟩ := g1.cm hxm hym
      rw [hx,bPs,hy,bPs,hv,bPs]
      by_cases hneg : v < 0
      ·rw [zt hneg]
       exact ⟨_,rfl,⟨g1,g2,by show s.2.1 ≤ c; omega,by show c ≤ hi; omega⟩,by show (c - s.2.1).toNat < (s.2.2 - s.2.1).toNat; omega⟩
      ·rw [zf hneg,Bool.not_false,zc,bC (by omega) (by omega)]
       exact ⟨_,rfl,⟨g1,by show lo ≤ c + 1; omega,by show c + 1 ≤ s.2.2; omega,g4⟩,by show (s.2.2 - (c + 1)).toNat < (s.2.2 - s.2.1).toNat; omega⟩
     ·rw [zf hlt]
      exact ⟨_,rfl,g1,g2,by show s.2.1 ≤ hi; omega⟩
    ·obtain ⟨g1,g2,g3⟩ := hq
     rw [bC (n := mid + m - s.2.1) (by omega) (by omega)]
     -- the rotation
     obtain ⟨t,ht,hto⟩ : ∃ t,(aj (cond ((cond (decide (s.2.1 < m)) ((s.1,decide (m < mid + m - s.2.1))) ((s.1,false)) : Rows × Bool)).2
       (aj (cS ((cond (decide (s.2.1 < m)) ((s.1,decide (m < mid + m - s.2.1))) ((s.1,false)) : Rows × Bool)).1 s.2.1 m (mid + m - s.2.1) cmp) fun x191=>aj (cF (x191.length = ((cond (decide (s.2.1 < m)) ((s.1,decide (m < mid + m - s.2.1))) ((s.1,false)) : Rows × Bool)).1.length) ()) fun (_ : Unit)=>some x191)
       (some ((cond (decide (s.2.1 < m)) ((s.1,decide (m < mid + m - s.2.1))) ((s.1,false)) : Rows × Bool)).1)) some) = some t ∧ SrtOk cmp d0 t := by
      by_cases c1 : s.2.1 < m
      ·by_cases c2 : m < mid + m - s.2.1
       ·rw [zt c1,zt c2]
        simp only [zc]
        obtain ⟨d',e,hd'⟩ := rotate_ok g1 (a := s.2.1) (m := m) (b := mid + m - s.2.1) (by omega) c1 c2 (by omega)
        rw [e,bPs,bu (by rw [hd'.len,g1.len])]
        exact ⟨_,rfl,hd'⟩
       ·rw [zt c1,zf c2]
        exact ⟨_,rfl,g1⟩
      ·rw [zf c1]
       exact ⟨_,rfl,g1⟩
     have ht' := ht
     generalize hcc : (cond ((cond (decide (s.2.1 < m)) ((s.1,decide (m < mid + m - s.2.1))) ((s.1,false)) : Rows × Bool)).2 _ _ : Option Rows) = o at ht ⊢
     cases o with
     | none=>cases ht
     | some t0 =>
      simp only [bPs,zo] at ht
      subst ht
      rw [bPs]
      clear hcc ht'
      obtain ⟨u,hu,huo⟩ : ∃ u,(aj (cond ((cond (decide (a < s.2.1)) ((t0,decide (s.2.1 < mid))) ((t0,false)) : Rows × Bool)).2
        (aj (bw n ((cond (decide (a < s.2.1)) ((t0,decide (s.2.1 < mid))) ((t0,false)) : Rows × Bool)).1 a s.2.1 mid cmp) fun x205=>aj (cF (x205.length = ((cond (decide (a < s.2.1)) ((t0,decide (s.2.1 < mid))) ((t0,false)) : Rows × Bool)).1.length) ()) fun (_ : Unit)=>some x205)
        (some ((cond (decide (a < s.2.1)) ((t0,decide (s.2.1 < mid))) ((t0,false)) : Rows × Bool)).1)) some) = some u ∧ SrtOk cmp d0 u := by
       by_cases c1 : a < s.2.1
       ·by_cases c2 : s.2.1 < mid
        ·rw [zt c1,zt c2]
         simp only [zc]
         obtain ⟨d',e,hd'⟩ := mL n hto (a := a) (m := s.2.1) (b := mid) ha c1 c2 (by omega) (by omega)
         rw [e,bPs,bu (by rw [hd'.len,hto.len])]
         exact ⟨_,rfl,hd'⟩
        ·rw [zt c1,zf c2]
         exact ⟨_,rfl,hto⟩
       ·rw [zf c1]
        exact ⟨_,rfl,hto⟩
      generalize hcc : (cond ((cond (decide (a < s.2.1)) ((t0,decide (s.2.1 < mid))) ((t0,false)) : Rows × Bool)).2 _ _ : Option Rows) = o at hu ⊢
      cases o with
      | none=>cases hu
      | some u0 =>
       simp only [bPs,zo] at hu
       subst hu
       rw [bPs]
       by_cases c1 : mid < mid + m - s.2.1
       ·rw [zt c1,zc]
        by_cases c2 : mid + m - s.2.1 < b
        ·rw [zt c2,zc]
         obtain ⟨d',e,hd'⟩ := mL n huo (a := mid) (m := mid + m - s.2.1) (b := b) (by omega) c1 c2 hb' (by omega)
         rw [e,bPs,bu (by rw [hd'.len,huo.len])]
         exact ⟨_,rfl,hd'⟩
        ·rw [zf c2]
         exact ⟨_,rfl,huo⟩
       ·rw [zf c1]
        exact ⟨_,rfl,huo⟩
theorem stable_ok {d : Rows} (h : SrtOk cmp d0 d) : ∃ d',dj d (d0.length : Int) cmp = some d' ∧ SrtOk cmp d0 d' := by
 have hs := h.small
 unfold dj
 refine cy (fun s=>SrtOk cmp d0 s.1 ∧ 0 ≤ s.2.1 ∧ s.2.1 ≤ s.2.2 ∧ s.2.2 ≤ s.2.1 + 20 ∧ s.2.1 ≤ d0.length) (fun s=>(d0.length + 20 - s.2.2).toNat) (fun s=>SrtOk cmp d0 s.1 ∧ 0 ≤ s.2.1 ∧ s.2.1 ≤ d0.length) ⟨h,by show (0 : Int) ≤ 0; omega,by show (0 : Int) ≤ 20; omega,by show (20 : Int) ≤ 0 + 20; omega,by show (0 : Int) ≤ d0.length; omega⟩ (fun s hI=>?_) (fun s hq=>?_)
 ·obtain ⟨g1,g2,g3,g4,g5⟩ := hI
  by_cases hle : s.2.2 ≤ (d0.length : Int)
  ·rw [zt hle,zc]
   obtain ⟨d',e,hd'⟩ := qP g1 (a := s.2.1) (b := s.2.2) ⟨g2,by omega⟩ hle
   rw [e,bPs,bu (by rw [hd'.len,g1.len]),bPs,bC (by omega) (by omega)]
   exact ⟨_,rfl,⟨hd',by show 0 ≤ s.2.2; omega,by show s.2.2 ≤ s.2.2 + 20; omega,by show s.2.2 + 20 ≤ s.2.2 + 20; omega,hle⟩,by show ((d0.length : Int) + 20 - (s.2.2 + 20)).toNat < ((d0.length : Int) + 20 - s.2.2).toNat; omega⟩
  ·rw [zf hle]
   exact ⟨_,rfl,g1,g2,g5⟩
 ·obtain ⟨g1,g2,g3⟩ := hq
  obtain ⟨d',e,hd'⟩ := qP g1 (a := s.2.1) (b := (d0.length : Int)) ⟨g2,by omega⟩ (Int.le_refl _)
  rw [e,bPs,bu (by rw [hd'.len,g1.len]),bPs]
  clear e g1 g2 g3 s h
  refine cy (fun s=>SrtOk cmp d0 s.1 ∧ 20 ≤ s.2) (fun s=>(d0.length - s.2).toNat) (fun s=>SrtOk cmp d0 s.1) ⟨hd',by show (20 : Int) ≤ 20; omega⟩ (fun s hI=>?_) (fun s hq=>⟨_,rfl,hq⟩)
  obtain ⟨g1,g2⟩ := hI
  by_cases hlt : s.2 < (d0.length : Int)
  ·rw [zt hlt,zc,bC (n := 2 * s.2) (by omega) (by omega)]
   refine cy (fun t=>SrtOk cmp d0 t.1 ∧ 0 ≤ t.2.1 ∧ t.2.2 = t.2.1 + 2 * s.2 ∧ t.2.1 ≤ d0.length) (fun t=>(d0.length + 2 * s.2 - t.2.2).toNat) (fun t=>SrtOk cmp d0 t.1 ∧ 0 ≤ t.2.1 ∧ t.2.1 ≤ d0.length) ⟨g1,by show (0 : Int) ≤ 0; omega,by show 2 * s.2 = 0 + 2 * s.2; omega,by show (0 : Int) ≤ d0.length; omega⟩ (fun t hI=>?_) (fun t hq=>?_)
   ·obtain ⟨k1,k2,k3,k4⟩ := hI
    by_cases hle : t.2.2 ≤ (d0.length : Int)
    ·rw [zt hle,zc,bC (n := t.2.1 + s.2) (by omega) (by omega)]
     obtain ⟨d'',e,hd''⟩ := mL ((t.2.2 - t.2.1).toNat + 1) k1 (a := t.2.1) (m := t.2.1 + s.2) (b := t.2.2) k2 (by omega) (by omega) hle (by omega)
     rw [mf e,bPs,bu (by rw [hd''.len,k1.len]),bPs,bC (by omega) (by omega)]
     exact ⟨_,rfl,⟨hd'',by show 0 ≤ t.2.2; omega,by show t.2.2 + 2 * s.2 = t.2.2 + 2 * s.2; omega,hle⟩,by show ((d0.length : Int) + 2 * s.2 - (t.2.2 + 2 * s.2)).toNat < ((d0.length : Int) + 2 * s.2 - t.2.2).toNat; omega⟩
    ·rw [zf hle]
     exact ⟨_,rfl,k1,k2,k4⟩
   ·obtain ⟨k1,k2,k3⟩ := hq
    rw [bC (n := t.2.1 + s.2) (by omega) (by omega),bC (n := s.2 * 2) (by omega) (by omega)]
    by_cases hm : t.2.1 + s.2 < (d0.length : Int)
    ·rw [zt hm,zc]
     obtain ⟨d'',e,hd''⟩ := mL ((d0.length - t.2.1).toNat + 1) k1 (a := t.2.1) (m := t.2.1 + s.2) (b := (d0.length : Int)) k2 (by omega) (by omega) (Int.le_refl _) (by omega)
     rw [mf e,bPs,bu (by rw [hd''.len,k1.len]),bPs]
     exact ⟨_,rfl,⟨hd'',by show 20 ≤ s.2 * 2; omega⟩,by show ((d0.length : Int) - s.2 * 2).toNat < ((d0.length : Int) - s.2).toNat; omega⟩
    ·rw [zf hm,zd]
     exact ⟨_,rfl,⟨k1,by show 20 ≤ s.2 * 2; omega⟩,by show ((d0.length : Int) - s.2 * 2).toNat < ((d0.length : Int) - s.2).toNat; omega⟩
  ·rw [zf hlt]
   exact ⟨_,rfl,g1⟩
theorem sortStable_ok {d : Rows} (hs : d.length ≤ 1000000) (ht : ∀ x ∈ d,∀ y ∈ d,Tot (cmp x y)) : ∃ d',cJ d cmp = some d' ∧ d'.Perm d := by
 unfold cJ
 obtain ⟨d',e,hd'⟩ := stable_ok (cmp := cmp) (d0 := d) (d := d) ⟨List.Perm.refl _,hs,ht⟩
 rw [e,bPs,bu hd'.len,bPs]
 exact ⟨d',rfl,hd'.perm⟩
end
theorem mD (r : LRun) (cols : List LCol) (x : Rq) (l : List LExpr) (hl : l.length ≤ 10000000) : dU r cols x l = some (l.map fun e=>dg (bE r cols x) e) := by
 unfold dU
 rw [pR (xs := l) (fun e=>dg (bE r cols x) e) (fun k e hk=>by
  have := (zg.1 hk).1
  rw [bN,bN,cR (by decide) (by simp; omega),bPs])]
 rfl
theorem compare_tot (a b : Rq) (ds : List Bool) : Tot (dv a b ds) := by
 unfold dv
 refine Tot.bind (Tot.range _ _ _ fun k x s hk=>?_) fun fl _=>Tot.thenR fun _ _=>Tot.mk
 rw [Nat.zero_add]
 by_cases h1 : (k : Int) ≥ (b.length : Int)
 ·rw [zt h1]; exact Tot.mk
 ·rw [zf h1,zd,fO (by omega)]
  simp only [bPs,bN]
  refine Tot.cond (fun _=>Tot.mk) fun _=>?_
  refine Tot.cond (fun h=>?_) fun _=>Tot.cond (fun _=>Tot.mk) fun _=>Tot.mk
  have h := of_decide_eq_true h
  rw [fO (by omega),bPs]
  exact Tot.cond (fun _=>Tot.cond (fun _=>Tot.mk) fun _=>Tot.mk) fun _=>Tot.cond (fun _=>Tot.mk) fun _=>Tot.mk
theorem sort_ok (r : LRun) (q : LQuery) (cols : List LCol) (l : Rows) (hs : l.length ≤ 1000000) (he : q.exprs.length ≤ 1000000) : ∃ l',ec r q cols l = some l' ∧ l'.Perm l := by
 unfold ec
 obtain ⟨l',e,hp⟩ := sortStable_ok (cmp := fun a0 a1=>eB a0 a1 r cols q) hs (fun x _ y _=>by
  show Tot (eB x y r cols q)
  unfold eB
  rw [mD r cols x q.exprs (by omega),mD r cols y q.exprs (by omega),bPs,bPs]
  exact Tot.bind (compare_tot _ _ _) fun _ _=>Tot.mk)
 rw [e,bPs,bu hp.length_eq,bPs]
 exact ⟨l',rfl,hp⟩
end
end Go.Proofs.YtgaggbdcedpapaaGreat

namespace Go.Proofs.YtgaggbdcedpapaaGreat
open Go.IntKind (i64)
noncomputable section
open Go Go.Ab
open Go.Sort (swp insInner insOuter insertionSort siftDown heapBuild heapPop heapSort scanUp scanDown partLoop partition partEqLoop partitionEqual scanSorted shiftDown shiftUp partialIns partialInsertionSort reverseLoop reverseRange size_swp SWO PermIn SortedIn Below)
section
variable {α : Type} [Inhabited α] {v : α → Rq} {lt : α → α → Bool} {cmp : Cmp}
def rp (v : α → Rq) (A : Array α) : Rows := A.toList.map v
structure CmpIs (v : α → Rq) (lt : α → α → Bool) (cmp : Cmp) : Prop where
 is : ∀ x y,∃ c,cmp (v x) (v y) = some c ∧ decide (c < 0) = lt x y
theorem oP {β : Type} {o : Option β} {x : β} (h : ∃ r,o = some r ∧ r = x) : o = some x := by
 obtain ⟨r,h1,rfl⟩ := h
 exact h1
theorem nw {σ β : Type} {step : σ → Option (Flow σ β)} {k : σ → Option β} {R : β → Prop} {s : σ} (I : σ → Prop) (μ : σ → Nat) (Q : σ → Prop) (h0 : I s)
  (hs : ∀ s,I s → ∃ fl,step s = some fl ∧ (match fl with | .next s'=>I s' ∧ μ s' < μ s | .brk s'=>Q s' | .ret r=>R r)) (hk : ∀ s',Q s' → ∃ r,k s' = some r ∧ R r) :
  ∃ r,aj (whileM step s) (fun fl=>fl.thenR k) = some r ∧ R r := by
 obtain ⟨fl,h1,h2⟩ := whileM_by (step := step) I μ Q R hs s h0
 cases fl with
 | next s'=>rw [h1]; exact hk s' h2
 | brk s'=>exact absurd h2 (by simp)
 | ret r=>exact ⟨r,by rw [h1]; rfl,h2⟩
theorem bB {z : Int} {n : Nat} (h : z = n := by omega) (hn : n ≤ 1000000000 := by omega) : i64.wrap z = (n : Int) := by rw [h]; exact bC (by omega) (by omega)
omit [Inhabited α] in
theorem cE (A : Array α) : (rp v A).length = A.size := by simp [rp]
theorem dL {A : Array α} {n : Nat} (h : n < A.size) : aF (rp v A) (n : Int) = some (v A[n]!) := by
 rw [fO (by rw [cE]; exact h)]
 simp [rp,getElem!_pos A n h]
omit [Inhabited α] in
theorem rp_set (A : Array α) (n : Nat) (x : α) : (rp v A).set n (v x) = rp v (A.setIfInBounds n x) := by simp [rp]
theorem gv {β : Type} {A : Array α} {i j : Nat} (hi : i < A.size) (hj : j < A.size) (k : Rows → Option β) :
  (aj (aF (rp v A) (j : Int)) fun (x : Rq)=>aj (aF (rp v A) (i : Int)) fun (y : Rq)=>aj (aF (rp v A) (i : Int)) fun (_ : Rq)=>bo ((rp v A).set ((i : Int)).toNat x) fun (z : Rows)=>aj (aF z (j : Int)) fun (_ : Rq)=>bo (z.set ((j : Int)).toNat y) fun (w : Rows)=>k w) = k (rp v (swp A i j)) := by
 rw [dL hj,dL hi]
 simp only [bPs,bN,Int.toNat_natCast]
 rw [rp_set,dL (A := A.setIfInBounds i A[j]!) (by simpa using hj),bPs,rp_set]
 rfl
theorem qg (a : Nat) : ∀ (j : Nat) (D : Array α),(insInner lt a j D).size = D.size
 | 0,D=>rfl
 | j + 1,D=>by
  rw [insInner]
  split
  ·rw [qg a j,size_swp]
  ·rfl
theorem ins_sim (hC : CmpIs v lt cmp) {A : Array α} {a b : Nat} (hs : A.size ≤ 1000000) (ha : a ≤ A.size) (hb : b ≤ A.size) : bZ (rp v A) (a : Int) (b : Int) cmp = some (rp v (insertionSort lt A a b)) := by
 unfold bZ
 rw [bB (z := (a : Int) + 1) (n := a + 1)]
 refine oP (cy (fun s=>∃ (D : Array α) (i : Nat),s = (rp v D,(i : Int)) ∧ D.size = A.size ∧ a < i ∧ insOuter lt a b i D = insertionSort lt A a b) (fun s=>((b : Int) - s.2).toNat) (fun s=>s.1 = rp v (insertionSort lt A a b)) ⟨A,a + 1,rfl,rfl,by omega,rfl⟩ (fun s hI=>?_) (fun s hq=>⟨_,rfl,hq⟩))
 obtain ⟨D,i,rfl,hD,hai,hO⟩ := hI
 dsimp only
 rw [insOuter] at hO
 by_cases hlt : i < b
 ·rw [zt (show (i : Int) < (b : Int) from by omega),zc]
  rw [zp hlt] at hO
  refine cy (fun t=>∃ (E : Array α) (j : Nat),t = (rp v E,(j : Int)) ∧ E.size = A.size ∧ j < b ∧ a ≤ j ∧ insInner lt a j E = insInner lt a i D) (fun t=>t.2.toNat) (fun t=>t.1 = rp v (insInner lt a i D)) ⟨D,i,rfl,hD,hlt,by omega,rfl⟩ (fun t hI=>?_) (fun t hq=>⟨_,rfl,?_⟩)
  ·obtain ⟨E,j,rfl,hE,hjb,haj,hO2⟩ := hI
   dsimp only
   by_cases hgt : a < j
   ·obtain ⟨k,rfl⟩ : ∃ k,j = k + 1 := ⟨j - 1,by omega⟩
    rw [zt (show ((k + 1 : Nat) : Int) > (a : Int) from by omega),zc,bB (z := ((k + 1 : Nat) : Int) - 1) (n := k)]
    obtain ⟨c,hc,hl⟩ := hC.is E[k + 1]! E[k]!
    rw [insInner] at hO2
    have hsw := gv (v := v) (A := E) (i := k + 1) (j := k) (β := Flow (Rows × Int) Empty) (by omega) (by omega) (fun y=>some (.next (y,(k : Int))))
    rw [dL (by omega),bPs,dL (by omega),bPs,hc,bPs,bPs,hl]
    cases hx : lt E[k + 1]! E[k]! with
    | true =>
     rw [hx] at hO2
     dsimp only
     rw [zc]
     refine ⟨_,hsw,⟨swp E (k + 1) k,k,rfl,by rw [size_swp]; exact hE,by omega,by omega,?_⟩,by show ((k : Int)).toNat < (((k + 1 : Nat) : Int)).toNat; omega⟩
     rw [← hO2,zp (by simp; omega)]
    | false =>
     rw [hx] at hO2
     refine ⟨_,rfl,?_⟩
     show rp v E = rp v _
     rw [← hO2,zy (by simp)]
   ·rw [zf (show ¬ (j : Int) > (a : Int) from by omega),zd]
    refine ⟨_,rfl,?_⟩
    show rp v E = rp v _
    rw [← hO2]
    cases j with
    | zero=>rfl
    | succ k=>rw [insInner,zy (by simp; omega)]
  ·have e := bB (z := (i : Int) + 1) (n := i + 1)
   show (∃ (D : Array α) (j : Nat),(t.1,i64.wrap ((i : Int) + 1)) = (rp v D,(j : Int)) ∧ _) ∧ ((b : Int) - i64.wrap ((i : Int) + 1)).toNat < ((b : Int) - (i : Int)).toNat
   rw [e]
   exact ⟨⟨insInner lt a i D,i + 1,by rw [hq],by rw [qg]; exact hD,by omega,hO⟩,by omega⟩
 ·rw [zf (show ¬ (i : Int) < (b : Int) from by omega),zd]
  rw [zy hlt] at hO
  exact ⟨_,rfl,by show rp v D = _; rw [hO]⟩
theorem js (hi first : Nat) : ∀ (n root : Nat) (D : Array α),hi - root ≤ n → (siftDown lt hi first root D).size = D.size
 | 0,root,D,hn=>by
  rw [siftDown,dif_pos (by omega)]
 | n + 1,root,D,hn=>by
  rw [siftDown]
  split
  ·rfl
  ·split
   ·split
    ·rfl
    ·split
     ·rw [js hi first n _ _ (by omega),size_swp]
     ·rfl
   ·split
    ·rfl
    ·rw [js hi first n _ _ (by omega),size_swp]
theorem sift_sim (hC : CmpIs v lt cmp) {A : Array α} {lo hi first : Nat} (hs : A.size ≤ 1000000) (hh : first + hi ≤ A.size) (hl : lo ≤ A.size) : dz (rp v A) (lo : Int) (hi : Int) (first : Int) cmp = some (rp v (siftDown lt hi first lo A)) := by
 unfold dz
 refine oP (nw (fun s=>∃ (D : Array α) (r : Nat),s = (rp v D,(r : Int)) ∧ D.size = A.size ∧ r ≤ 1000000 ∧ siftDown lt hi first r D = siftDown lt hi first lo A) (fun s=>((hi : Int) - s.2).toNat) (fun s=>s.1 = rp v (siftDown lt hi first lo A)) ⟨A,lo,rfl,rfl,by omega,rfl⟩ (fun s hI=>?_) (fun s hq=>⟨_,rfl,hq⟩))
 obtain ⟨D,r,rfl,hD,hr,hO⟩ := hI
 dsimp only
 rw [bB (z := 2 * (r : Int)) (n := 2 * r),bB (z := ((2 * r : Nat) : Int) + 1) (n := 2 * r + 1),bB (z := ((2 * r + 1 : Nat) : Int) + 1) (n := 2 * r + 2)]
 rw [siftDown] at hO
 by_cases hge : 2 * r + 1 ≥ hi
 ·rw [zt (show ((2 * r + 1 : Nat) : Int) ≥ (hi : Int) from by omega),zc]
  rw [dif_pos hge] at hO
  exact ⟨_,rfl,by show rp v D = _; rw [hO]⟩
 ·rw [zf (show ¬ ((2 * r + 1 : Nat) : Int) ≥ (hi : Int) from by omega),zd,bB (z := (first : Int) + ((2 * r + 1 : Nat) : Int)) (n := first + (2 * r + 1)),bB (z := ((first + (2 * r + 1) : Nat) : Int) + 1) (n := first + (2 * r + 1) + 1) (by omega) (by omega),bB (z := (first : Int) + (r : Int)) (n := first + r)]
  rw [dif_neg hge] at hO
  -- which child
  obtain ⟨ch,h1,h2,h3⟩ : ∃ ch : Nat,ch < hi ∧ r < ch ∧ (aj (cond (decide (((2 * r + 2 : Nat) : Int) < (hi : Int)))
     (aj (aF (rp v D) ((first + (2 * r + 1) : Nat) : Int)) fun (x29 : Rq)=>aj (aF (rp v D) ((first + (2 * r + 1) + 1 : Nat) : Int)) fun (x36 : Rq)=>aj (cmp x29 x36) fun x38=>some (rp v D,(decide (x38 < (0 : Int)))))
     (some (rp v D,false))) fun (t10 : Rows × Bool)=>some (cond t10.2 ((t10.1,((2 * r + 2 : Nat) : Int))) ((t10.1,((2 * r + 1 : Nat) : Int))))) = some (rp v D,(ch : Int)) ∧
    (if !lt D[first + r]! D[first + ch]! then D else siftDown lt hi first ch (swp D (first + r) (first + ch))) = siftDown lt hi first lo A := by
   by_cases hc1 : 2 * r + 2 < hi
   ·obtain ⟨c,hc,hl⟩ := hC.is D[first + (2 * r + 1)]! D[first + (2 * r + 1) + 1]!
    rw [zt (show ((2 * r + 2 : Nat) : Int) < (hi : Int) from by omega),zc,dL (by omega),bPs,dL (by omega),bPs,hc,bPs,bPs,hl]
    cases hx : lt D[first + (2 * r + 1)]! D[first + (2 * r + 1) + 1]! with
    | true =>
     refine ⟨2 * r + 2,hc1,by omega,rfl,?_⟩
     rw [zp (by rw [hx]; simp; omega)] at hO
     rw [← hO]
     split <;> rfl
    | false =>
     refine ⟨2 * r + 1,by omega,by omega,rfl,?_⟩
     rw [zy (by rw [hx]; simp)] at hO
     exact hO
   ·rw [zf (show ¬ ((2 * r + 2 : Nat) : Int) < (hi : Int) from by omega),zd,bPs]
    refine ⟨2 * r + 1,by omega,by omega,rfl,?_⟩
    rw [zy (by simp; omega)] at hO
    exact hO
  generalize hq : (cond (decide (((2 * r + 2 : Nat) : Int) < (hi : Int))) _ _ : Option (Rows × Bool)) = o at h3 ⊢
  cases o with
  | none=>exact absurd h3.1 (by simp [aj])
  | some t10 =>
   obtain ⟨h3,h4⟩ := h3
   rw [bPs,zo] at h3
   rw [bPs,bN,h3]
   dsimp only
   rw [bB (z := (first : Int) + (ch : Int)) (n := first + ch)]
   obtain ⟨c,hc,hl⟩ := hC.is D[first + r]! D[first + ch]!
   have hsw := gv (v := v) (A := D) (i := first + r) (j := first + ch) (β := Flow (Rows × Int) Rows) (by omega) (by omega) (fun y=>some (.next (y,(ch : Int))))
   rw [hsw,dL (by omega),bPs,dL (by omega),bPs,hc,bPs,hl]
   cases hx : lt D[first + r]! D[first + ch]! with
   | true =>
    rw [hx] at h4
    exact ⟨_,rfl,⟨swp D (first + r) (first + ch),ch,rfl,by rw [size_swp]; exact hD,by omega,h4⟩,by show ((hi : Int) - (ch : Int)).toNat < ((hi : Int) - (r : Int)).toNat; omega⟩
   | false =>
    rw [hx] at h4
    exact ⟨_,rfl,by show rp v D = _; rw [← h4]; rfl⟩
theorem heap_sim (hC : CmpIs v lt cmp) {A : Array α} {a b : Nat} (hs : A.size ≤ 1000000) (hab : a ≤ b) (hb : b ≤ A.size) : ef (rp v A) (a : Int) (b : Int) cmp = some (rp v (heapSort lt A a b)) := by
 unfold ef
 have e0 : i64.wrap (Int.tdiv (i64.wrap (((b - a : Nat) : Int) - 1)) 2) = (((b - a - 1) / 2 + 1 : Nat) : Int) - 1 := by
  rw [bC (n := ((b - a : Nat) : Int) - 1) (by omega) (by omega)]
  by_cases h : b - a = 0
  ·rw [h]; rfl
  ·rw [Int.tdiv_eq_ediv_of_nonneg (by omega),bC (by omega) (by omega)]
   omega
 rw [bB (z := (b : Int) - (a : Int)) (n := b - a),e0,bC (n := ((b - a : Nat) : Int) - 1) (by omega) (by omega)]
 unfold heapSort
 refine oP (cy (fun s=>∃ (D : Array α) (k : Nat),s = (rp v D,(k : Int) - 1) ∧ D.size = A.size ∧ k ≤ b - a + 1 ∧ heapBuild lt (b - a) a k D = heapBuild lt (b - a) a ((b - a - 1) / 2 + 1) A) (fun s=>(s.2 + 1).toNat) (fun s=>∃ D : Array α,D.size = A.size ∧ s.1 = rp v D ∧ D = heapBuild lt (b - a) a ((b - a - 1) / 2 + 1) A) ⟨A,(b - a - 1) / 2 + 1,rfl,rfl,by omega,rfl⟩ (fun s hI=>?_) (fun s hq=>?_))
 ·obtain ⟨D,k,rfl,hD,hk,hO⟩ := hI
  dsimp only
  cases k with
  | zero =>
   rw [zf (by omega),zd]
   exact ⟨_,rfl,D,hD,rfl,hO⟩
  | succ k =>
   rw [zt (by omega),zc,show ((k + 1 : Nat) : Int) - 1 = (k : Int) from by omega,sift_sim hC (by omega) (by omega) (by omega),bPs,bu (by rw [cE,cE,js _ _ _ _ _ (Nat.le_refl _)]),bPs,bC (by omega) (by omega)]
   exact ⟨_,rfl,⟨_,k,rfl,by rw [js _ _ _ _ _ (Nat.le_refl _)]; exact hD,by omega,hO⟩,by show ((k : Int) - 1 + 1).toNat < ((k : Int) + 1).toNat; omega⟩
 ·obtain ⟨D,hD,h1,h2⟩ := hq
  rw [h1,← h2]
  clear h1 h2 e0
  refine cy (fun s=>∃ (E : Array α) (k : Nat),s = (rp v E,(k : Int) - 1) ∧ E.size = A.size ∧ k ≤ b - a ∧ heapPop lt a k E = heapPop lt a (b - a) D) (fun s=>(s.2 + 1).toNat) (fun s=>s.1 = rp v (heapPop lt a (b - a) D)) ⟨D,b - a,rfl,hD,Nat.le_refl _,rfl⟩ (fun s hI=>?_) (fun s hq=>⟨_,rfl,hq⟩)
  obtain ⟨E,k,rfl,hE,hk,hO⟩ := hI
  dsimp only
  cases k with
  | zero =>
   rw [zf (by omega),zd]
   exact ⟨_,rfl,by show rp v E = _; rw [← hO]; rfl⟩
  | succ k =>
   rw [zt (by omega),zc,show ((k + 1 : Nat) : Int) - 1 = (k : Int) from by omega,bB (z := (a : Int) + (k : Int)) (n := a + k)]
   rw [gv (by omega) (by omega)]
   have hz : (swp E a (a + k)).size = A.size := by rw [size_swp]; exact hE
   have hsf := sift_sim (lo := 0) (hi := k) (first := a) hC (A := swp E a (a + k)) (by omega) (by omega) (by omega)
   rw [show ((0 : Nat) : Int) = 0 from rfl] at hsf
   rw [hsf,bPs,bu (by rw [cE,cE,js _ _ _ _ _ (Nat.le_refl _)]),bPs,bC (by omega) (by omega)]
   exact ⟨_,rfl,⟨_,k,rfl,by rw [js _ _ _ _ _ (Nat.le_refl _)]; exact hz,by omega,hO⟩,by show ((k : Int) - 1 + 1).toNat < ((k : Int) + 1).toNat; omega⟩
theorem reverse_sim {A : Array α} {a b : Nat} (hs : A.size ≤ 1000000) (hab : a < b) (hb : b ≤ A.size) : dH (rp v A) (a : Int) (b : Int) cmp = some (rp v (reverseRange A a b)) := by
 unfold dH
 rw [bB (z := (b : Int) - 1) (n := b - 1)]
 refine oP (cy (fun s=>∃ (D : Array α) (i j : Nat),s = (rp v D,(i : Int),(j : Int)) ∧ D.size = A.size ∧ i ≤ j + 1 ∧ j < b ∧ reverseLoop i j D = reverseRange A a b) (fun s=>(s.2.2 - s.2.1).toNat) (fun s=>s.1 = rp v (reverseRange A a b)) ⟨A,a,b - 1,rfl,rfl,by omega,by omega,rfl⟩ (fun s hI=>?_) (fun s hq=>⟨_,rfl,hq⟩))
 obtain ⟨D,i,j,rfl,hD,hij,hjb,hO⟩ := hI
 dsimp only
 rw [reverseLoop] at hO
 by_cases hlt : i < j
 ·rw [zt (by omega),zc,bB (z := (i : Int) + 1) (n := i + 1),bB (z := (j : Int) - 1) (n := j - 1),gv (by omega) (by omega)]
  rw [zp hlt] at hO
  exact ⟨_,rfl,⟨swp D i j,i + 1,j - 1,rfl,by rw [size_swp]; exact hD,by omega,by omega,hO⟩,by show (((j - 1 : Nat) : Int) - ((i + 1 : Nat) : Int)).toNat < ((j : Int) - (i : Int)).toNat; omega⟩
 ·rw [zf (by omega),zd]
  rw [zy hlt] at hO
  exact ⟨_,rfl,by show rp v D = _; rw [hO]⟩
theorem up_run {step : Rows × Int → Option (Flow (Rows × Int) Empty)} {p : α → Bool} {D : Array α} {j : Nat}
  (hst : ∀ i : Nat,step (rp v D,(i : Int)) = if i ≤ j && p D[i]! then some (.next (rp v D,((i + 1 : Nat) : Int))) else some (.brk (rp v D,(i : Int)))) (i : Nat) : whileM step (rp v D,(i : Int)) = some (.next (rp v D,((scanUp p D j i : Nat) : Int))) := by
 generalize hn : j + 1 - i = n
 induction n generalizing i with
 | zero =>
  rw [scanUp,zy (by simp; omega)]
  exact eI (by rw [hst,zy (by simp; omega)]) rfl
 | succ n ih =>
  rw [scanUp]
  by_cases h : (decide (i ≤ j) && p D[i]!) = true
  ·rw [zp h]
   exact eI (by rw [hst,zp h]) (ih (i + 1) (by omega))
  ·rw [zy h]
   exact eI (by rw [hst,zy h]) rfl
theorem pM {step : Rows × Int → Option (Flow (Rows × Int) Empty)} {p : α → Bool} {D : Array α} {i : Nat} (hi : 0 < i)
  (hst : ∀ j : Nat,j < D.size → step (rp v D,(j : Int)) = if i ≤ j && p D[j]! then some (.next (rp v D,(j : Int) - 1)) else some (.brk (rp v D,(j : Int)))) : ∀ j : Nat,j < D.size → whileM step (rp v D,(j : Int)) = some (.next (rp v D,((scanDown p D i j : Nat) : Int)))
 | 0,hj=>by
  rw [scanDown]
  exact eI (by rw [hst 0 hj,zy (by simp; omega)]) rfl
 | j + 1,hj=>by
  have ih := pM hi hst j (by omega)
  rw [scanDown]
  by_cases h : (decide (i ≤ j + 1) && p D[j + 1]!) = true
  ·rw [zp h]
   exact eI (fl := .next (rp v D,(j : Int))) (by rw [hst _ hj,zp h,show ((j + 1 : Nat) : Int) - 1 = (j : Int) from by omega]) ih
  ·rw [zy h]
   exact eI (by rw [hst _ hj,zy h]) rfl
end
section
variable {α : Type} [Inhabited α] {v : α → Rq} {lt : α → α → Bool} {cmp : Cmp}
theorem pN (p q : α → Bool) (hq : ∀ x,q x = !p x) (d : Array α) {i j : Nat} (hi : 0 < i) (hij : i ≤ j + 1) :
  i ≤ scanUp p d j i ∧ scanUp p d j i ≤ j + 1 ∧ scanDown q d (scanUp p d j i) j ≤ j ∧ scanUp p d j i ≤ scanDown q d (scanUp p d j i) j + 1 ∧ (¬ scanUp p d j i > scanDown q d (scanUp p d j i) j → scanUp p d j i < scanDown q d (scanUp p d j i) j) := by
 obtain ⟨u1,u2,_,u4⟩ := Go.Sort.scanUp_spec p d j _ i rfl
 obtain ⟨w1,w2,_,w4⟩ := Go.Sort.scanDown_spec q d (scanUp p d j i) j
 have hu := u2 hij
 refine ⟨u1,hu,w1,w2 hu,fun h=>?_⟩
 have f1 := u4 (by omega)
 have f2 := w4 (by omega) (by omega)
 rw [hq] at f2
 rcases Nat.lt_or_ge (scanUp p d j i) (scanDown q d (scanUp p d j i) j) with h' | h'
 ·exact h'
 ·have e : scanUp p d j i = scanDown q d (scanUp p d j i) j := by omega
  rw [← e,f1] at f2
  cases f2
theorem upStep (hC : CmpIs v lt cmp) {D : Array α} {a j i : Nat} (hs : D.size ≤ 1000000) (ha : a < D.size) (hj : j < D.size) :
  (cond (decide ((i : Int) ≤ (j : Int))) (aj (aF (rp v D) (i : Int)) fun (x39 : Rq)=>aj (aF (rp v D) (a : Int)) fun (x43 : Rq)=>aj (cmp x39 x43) fun x45=>cond (decide (x45 < (0 : Int))) (some (.next (rp v D,(i64.wrap ((i : Int) + (1 : Int)))))) (some (.brk (rp v D,(i : Int))))) (some (.brk (rp v D,(i : Int)))) : Option (Flow (Rows × Int) Empty)) = if (decide (i ≤ j) && (fun x=>lt x D[a]!) D[i]!) = true then some (.next (rp v D,((i + 1 : Nat) : Int))) else some (.brk (rp v D,(i : Int))) := by
 by_cases h : i ≤ j
 ·rw [zt (show (i : Int) ≤ (j : Int) from by omega),zc,dL (by omega),bPs,dL ha,bPs]
  obtain ⟨c,hc,hl⟩ := hC.is D[i]! D[a]!
  rw [hc,bPs,hl,bB (z := (i : Int) + 1) (n := i + 1)]
  cases hx : lt D[i]! D[a]! <;> simp [hx,h]
 ·rw [zf (show ¬ (i : Int) ≤ (j : Int) from by omega),zd,zy (by simp [h])]
theorem downStep (hC : CmpIs v lt cmp) {D : Array α} {a j i : Nat} (hs : D.size ≤ 1000000) (ha : a < D.size) (hj : j < D.size) :
  (cond (decide ((i : Int) ≤ (j : Int))) (aj (aF (rp v D) (j : Int)) fun (x39 : Rq)=>aj (aF (rp v D) (a : Int)) fun (x43 : Rq)=>aj (cmp x39 x43) fun x45=>cond (!(decide (x45 < (0 : Int)))) (some (.next (rp v D,(i64.wrap ((j : Int) - (1 : Int)))))) (some (.brk (rp v D,(j : Int))))) (some (.brk (rp v D,(j : Int)))) : Option (Flow (Rows × Int) Empty)) = if (decide (i ≤ j) && (fun x=>!lt x D[a]!) D[j]!) = true then some (.next (rp v D,(j : Int) - 1)) else some (.brk (rp v D,(j : Int))) := by
 by_cases h : i ≤ j
 ·rw [zt (show (i : Int) ≤ (j : Int) from by omega),zc,dL (by omega),bPs,dL ha,bPs]
  obtain ⟨c,hc,hl⟩ := hC.is D[j]! D[a]!
  rw [hc,bPs,hl,bC (n := (j : Int) - 1) (by omega) (by omega)]
  cases hx : lt D[j]! D[a]! <;> simp [hx,h]
 ·rw [zf (show ¬ (i : Int) ≤ (j : Int) from by omega),zd,zy (by simp [h])]
theorem upStepE (hC : CmpIs v lt cmp) {D : Array α} {a j i : Nat} (hs : D.size ≤ 1000000) (ha : a < D.size) (hj : j < D.size) :
  (cond (decide ((i : Int) ≤ (j : Int))) (aj (aF (rp v D) (a : Int)) fun (x39 : Rq)=>aj (aF (rp v D) (i : Int)) fun (x43 : Rq)=>aj (cmp x39 x43) fun x45=>cond (!(decide (x45 < (0 : Int)))) (some (.next (rp v D,(i64.wrap ((i : Int) + (1 : Int)))))) (some (.brk (rp v D,(i : Int))))) (some (.brk (rp v D,(i : Int)))) : Option (Flow (Rows × Int) Empty)) = if (decide (i ≤ j) && (fun x=>!lt D[a]! x) D[i]!) = true then some (.next (rp v D,((i + 1 : Nat) : Int))) else some (.brk (rp v D,(i : Int))) := by
 by_cases h : i ≤ j
 ·rw [zt (show (i : Int) ≤ (j : Int) from by omega),zc,dL ha,bPs,dL (by omega),bPs]
  obtain ⟨c,hc,hl⟩ := hC.is D[a]! D[i]!
  rw [hc,bPs,hl,bB (z := (i : Int) + 1) (n := i + 1)]
  cases hx : lt D[a]! D[i]! <;> simp [hx,h]
 ·rw [zf (show ¬ (i : Int) ≤ (j : Int) from by omega),zd,zy (by simp [h])]
theorem downStepE (hC : CmpIs v lt cmp) {D : Array α} {a j i : Nat} (hs : D.size ≤ 1000000) (ha : a < D.size) (hj : j < D.size) :
  (cond (decide ((i : Int) ≤ (j : Int))) (aj (aF (rp v D) (a : Int)) fun (x39 : Rq)=>aj (aF (rp v D) (j : Int)) fun (x43 : Rq)=>aj (cmp x39 x43) fun x45=>cond (decide (x45 < (0 : Int))) (some (.next (rp v D,(i64.wrap ((j : Int) - (1 : Int)))))) (some (.brk (rp v D,(j : Int))))) (some (.brk (rp v D,(j : Int)))) : Option (Flow (Rows × Int) Empty)) = if (decide (i ≤ j) && (fun x=>lt D[a]! x) D[j]!) = true then some (.next (rp v D,(j : Int) - 1)) else some (.brk (rp v D,(j : Int))) := by
 by_cases h : i ≤ j
 ·rw [zt (show (i : Int) ≤ (j : Int) from by omega),zc,dL ha,bPs,dL (by omega),bPs]
  obtain ⟨c,hc,hl⟩ := hC.is D[a]! D[j]!
  rw [hc,bPs,hl,bC (n := (j : Int) - 1) (by omega) (by omega)]
  cases hx : lt D[a]! D[j]! <;> simp [hx,h]
 ·rw [zf (show ¬ (i : Int) ≤ (j : Int) from by omega),zd,zy (by simp [h])]
theorem part_sim (hC : CmpIs v lt cmp) {A : Array α} {a b p : Nat} (hs : A.size ≤ 1000000) (hap : a ≤ p) (hpb : p < b) (hb : b ≤ A.size) : dX (rp v A) (a : Int) (b : Int) (p : Int) cmp = some (((partition lt A a b p).1 : Int),(partition lt A a b p).2.1,rp v (partition lt A a b p).2.2) := by
 unfold dX partition
 rw [gv (by omega) (by omega)]
 have hB : (swp A a p).size = A.size := size_swp _ _ _
 generalize swp A a p = B at hB ⊢
 dsimp only
 rw [bB (z := (b : Int) - 1) (n := b - 1),bB (z := (a : Int) + 1) (n := a + 1)]
 rw [up_run (v := v) (p := fun x=>lt x B[a]!) (D := B) (j := b - 1) (fun i=>upStep hC (by omega) (by omega) (by omega)) (a + 1),bPs,ci]
 obtain ⟨f1,f2,f3,f4,f5⟩ := pN (fun x=>lt x B[a]!) (fun x=>!lt x B[a]!) (fun _=>rfl) B (i := a + 1) (j := b - 1) (by omega) (by omega)
 generalize scanUp (fun x=>lt x B[a]!) B (b - 1) (a + 1) = i3 at f1 f2 f3 f4 f5 ⊢
 dsimp only
 rw [pM (v := v) (p := fun x=>!lt x B[a]!) (D := B) (i := i3) (by omega) (fun j hj=>downStep hC (by omega) (by omega) hj) (b - 1) (by omega),bPs,ci]
 generalize scanDown (fun x=>!lt x B[a]!) B i3 (b - 1) = j4 at f3 f4 f5 ⊢
 dsimp only
 by_cases hgt : i3 > j4
 ·rw [zt (show (i3 : Int) > (j4 : Int) from by omega),zc,zp hgt,gv (by omega) (by omega)]
 ·rw [zf (show ¬ (i3 : Int) > (j4 : Int) from by omega),zd,zy hgt,gv (by omega) (by omega)]
  have hlt := f5 hgt
  have hCs : (swp B i3 j4).size = A.size := by rw [size_swp]; exact hB
  generalize swp B i3 j4 = C at hCs ⊢
  rw [bB (z := (i3 : Int) + 1) (n := i3 + 1),bB (z := (j4 : Int) - 1) (n := j4 - 1)]
  refine oP (cy (fun s=>∃ (D : Array α) (i j : Nat),s = (rp v D,(i : Int),(j : Int)) ∧ D.size = A.size ∧ a < i ∧ i ≤ j + 1 ∧ j < b ∧ partLoop lt a i j D = partLoop lt a (i3 + 1) (j4 - 1) C) (fun s=>(s.2.2 + 1 - s.2.1).toNat) (fun s=>∃ (D : Array α) (j : Nat),s.1 = rp v D ∧ s.2.2 = (j : Int) ∧ D.size = A.size ∧ j < b ∧ (j,D) = partLoop lt a (i3 + 1) (j4 - 1) C) ⟨C,i3 + 1,j4 - 1,rfl,hCs,by omega,by omega,by omega,rfl⟩ (fun s hI=>?_) (fun s hq=>?_))
  ·obtain ⟨D,i,j,rfl,hD,hai,hij,hjb,hO⟩ := hI
   dsimp only
   rw [up_run (v := v) (p := fun x=>lt x D[a]!) (D := D) (j := j) (fun i=>upStep hC (by omega) (by omega) (by omega)) i,bPs,ci]
   rw [Go.Sort.partLoop_eq] at hO
   obtain ⟨g1,g2,g3,g4,g5⟩ := pN (fun x=>lt x D[a]!) (fun x=>!lt x D[a]!) (fun _=>rfl) D (i := i) (j := j) (by omega) (by omega)
   generalize scanUp (fun x=>lt x D[a]!) D j i = i5 at g1 g2 g3 g4 g5 hO ⊢
   dsimp only
   rw [pM (v := v) (p := fun x=>!lt x D[a]!) (D := D) (i := i5) (by omega) (fun j hj=>downStep hC (by omega) (by omega) hj) j (by omega),bPs,ci]
   generalize scanDown (fun x=>!lt x D[a]!) D i5 j = j5 at g3 g4 g5 hO ⊢
   dsimp only
   by_cases hgt : i5 > j5
   ·rw [zt (show (i5 : Int) > (j5 : Int) from by omega),zc]
    rw [zp hgt] at hO
    exact ⟨_,rfl,D,j5,rfl,rfl,hD,by omega,hO⟩
   ·have hl5 := g5 hgt
    rw [zf (show ¬ (i5 : Int) > (j5 : Int) from by omega),zd,gv (by omega) (by omega),bB (z := (i5 : Int) + 1) (n := i5 + 1),bB (z := (j5 : Int) - 1) (n := j5 - 1)]
    rw [zy hgt] at hO
    exact ⟨_,rfl,⟨swp D i5 j5,i5 + 1,j5 - 1,rfl,by rw [size_swp]; exact hD,by omega,by omega,by omega,hO⟩,by show (((j5 - 1 : Nat) : Int) + 1 - ((i5 + 1 : Nat) : Int)).toNat < ((j : Int) + 1 - (i : Int)).toNat; omega⟩
  ·obtain ⟨D,j,h1,h2,hD,hjb,h3⟩ := hq
   rw [h1,h2,← h3,gv (by omega) (by omega)]
   exact ⟨_,rfl,rfl⟩
theorem partEq_sim (hC : CmpIs v lt cmp) {A : Array α} {a b p : Nat} (hs : A.size ≤ 1000000) (hap : a ≤ p) (hpb : p < b) (hb : b ≤ A.size) : du (rp v A) (a : Int) (b : Int) (p : Int) cmp = some (((partitionEqual lt A a b p).1 : Int),rp v (partitionEqual lt A a b p).2) := by
 unfold du partitionEqual
 rw [gv (by omega) (by omega)]
 have hB : (swp A a p).size = A.size := size_swp _ _ _
 generalize swp A a p = B at hB ⊢
 rw [bB (z := (b : Int) - 1) (n := b - 1),bB (z := (a : Int) + 1) (n := a + 1)]
 refine oP (cy (fun s=>∃ (D : Array α) (i j : Nat),s = (rp v D,(i : Int),(j : Int)) ∧ D.size = A.size ∧ a < i ∧ i ≤ j + 1 ∧ j < b ∧ partEqLoop lt a i j D = partEqLoop lt a (a + 1) (b - 1) B) (fun s=>(s.2.2 + 1 - s.2.1).toNat) (fun s=>∃ (D : Array α) (i : Nat),s.1 = rp v D ∧ s.2.1 = (i : Int) ∧ (i,D) = partEqLoop lt a (a + 1) (b - 1) B) ⟨B,a + 1,b - 1,rfl,hB,by omega,by omega,by omega,rfl⟩ (fun s hI=>?_) (fun s hq=>?_))
 ·obtain ⟨D,i,j,rfl,hD,hai,hij,hjb,hO⟩ := hI
  dsimp only
  rw [up_run (v := v) (p := fun x=>!lt D[a]! x) (D := D) (j := j) (fun i=>upStepE hC (by omega) (by omega) (by omega)) i,bPs,ci]
  rw [Go.Sort.partEqLoop_eq] at hO
  obtain ⟨g1,g2,g3,g4,g5⟩ := pN (fun x=>!lt D[a]! x) (fun x=>lt D[a]! x) (fun _=>by simp) D (i := i) (j := j) (by omega) (by omega)
  generalize scanUp (fun x=>!lt D[a]! x) D j i = i5 at g1 g2 g3 g4 g5 hO ⊢
  dsimp only
  rw [pM (v := v) (p := fun x=>lt D[a]! x) (D := D) (i := i5) (by omega) (fun j hj=>downStepE hC (by omega) (by omega) hj) j (by omega),bPs,ci]
  generalize scanDown (fun x=>lt D[a]! x) D i5 j = j5 at g3 g4 g5 hO ⊢
  dsimp only
  by_cases hgt : i5 > j5
  ·rw [zt (show (i5 : Int) > (j5 : Int) from by omega),zc]
   rw [zp hgt] at hO
   exact ⟨_,rfl,D,i5,rfl,rfl,hO⟩
  ·have hl5 := g5 hgt
   rw [zf (show ¬ (i5 : Int) > (j5 : Int) from by omega),zd,gv (by omega) (by omega),bB (z := (i5 : Int) + 1) (n := i5 + 1),bB (z := (j5 : Int) - 1) (n := j5 - 1)]
   rw [zy hgt] at hO
   exact ⟨_,rfl,⟨swp D i5 j5,i5 + 1,j5 - 1,rfl,by rw [size_swp]; exact hD,by omega,by omega,by omega,hO⟩,by show (((j5 - 1 : Nat) : Int) + 1 - ((i5 + 1 : Nat) : Int)).toNat < ((j : Int) + 1 - (i : Int)).toNat; omega⟩
 ·obtain ⟨D,i,h1,h2,h3⟩ := hq
  rw [h1,h2,← h3]
  exact ⟨_,rfl,rfl⟩
end
section
variable {α : Type} [Inhabited α] {v : α → Rq} {lt : α → α → Bool} {cmp : Cmp}
theorem kT {β γ : Type} {o : Option β} {k : β → Option γ} {R : γ → Prop} {P : β → Prop} (h : ∃ t,o = some t ∧ P t) (hk : ∀ t,P t → ∃ r,k t = some r ∧ R r) : ∃ r,aj o k = some r ∧ R r := by
 obtain ⟨t,rfl,ht⟩ := h
 exact hk t ht
theorem sorted_run (hC : CmpIs v lt cmp) {D : Array α} {b : Nat} (hs : D.size ≤ 1000000) (hb : b ≤ D.size) : ∀ (n i : Nat),b - i ≤ n → 0 < i → i ≤ b → whileM (σ := Rows × Int) (ρ := Empty) (fun (s52 : Rows × Int)=>cond (decide (s52.2 < (b : Int)))
     (aj (aF s52.1 s52.2) fun (x26 : Rq) =>
     aj (aF s52.1 (i64.wrap (s52.2 - (1 : Int)))) fun (x31 : Rq) =>
     aj (cmp x26 x31) fun x33 =>
     cond (!(decide (x33 < (0 : Int))))
      (some (.next (s52.1,(i64.wrap (s52.2 + (1 : Int))))))
      (some (.brk (s52.1,s52.2))))
     (some (.brk (s52.1,s52.2)))) (rp v D,(i : Int)) = some (.next (rp v D,((scanSorted lt D b i : Nat) : Int))) ∧ i ≤ scanSorted lt D b i ∧ scanSorted lt D b i ≤ b := by
 intro n
 induction n with
 | zero =>
  intro i hn h0 hi
  rw [scanSorted,zy (by simp; omega)]
  refine ⟨eI (fl := .brk (rp v D,(i : Int))) ?_ rfl,Nat.le_refl _,hi⟩
  dsimp only
  rw [zf (by omega),zd]
 | succ n ih =>
  intro i hn h0 hi
  rw [scanSorted]
  by_cases hlt : i < b
  ·obtain ⟨c,hc,hl⟩ := hC.is D[i]! D[i - 1]!
   cases hx : lt D[i]! D[i - 1]! with
   | true =>
    rw [zy (by simp)]
    refine ⟨eI (fl := .brk (rp v D,(i : Int))) ?_ rfl,Nat.le_refl _,hi⟩
    dsimp only
    rw [zt (by omega),zc,bB (z := (i : Int) - 1) (n := i - 1),dL (by omega),bPs,dL (by omega),bPs,hc,bPs,hl,hx]
    rfl
   | false =>
    rw [zp (by simp [hlt])]
    obtain ⟨e1,e2,e3⟩ := ih (i + 1) (by omega) (by omega) (by omega)
    refine ⟨eI (fl := .next (rp v D,((i + 1 : Nat) : Int))) ?_ e1,by omega,e3⟩
    dsimp only
    rw [zt (by omega),zc,bB (z := (i : Int) - 1) (n := i - 1),bB (z := (i : Int) + 1) (n := i + 1),dL (by omega),bPs,dL (by omega),bPs,hc,bPs,hl,hx]
    rfl
  ·rw [zy (by simp [hlt])]
   refine ⟨eI (fl := .brk (rp v D,(i : Int))) ?_ rfl,Nat.le_refl _,hi⟩
   dsimp only
   rw [zf (by omega),zd]
theorem pp : ∀ (j : Nat) (D : Array α),(shiftDown lt j D).size = D.size
 | 0,D=>rfl
 | j + 1,D=>by
  rw [shiftDown]
  split
  ·rfl
  ·rw [pp j,size_swp]
theorem qO (b : Nat) : ∀ (n j : Nat) (D : Array α),b - j ≤ n → (shiftUp lt b j D).size = D.size
 | 0,j,D,h=>by rw [shiftUp,zy (by omega)]
 | n + 1,j,D,h=>by
  rw [shiftUp]
  split
  ·split
   ·rfl
   ·rw [qO b n _ _ (by omega),size_swp]
  ·rfl
theorem sd_run {β : Type} {Q : β → Prop} (hC : CmpIs v lt cmp) {A : Array α} {j : Nat} (hs : A.size ≤ 1000000) (hj : j < A.size) {k : Rows × Int → Option β} (hk : ∀ z,∃ r,k (rp v (shiftDown lt j A),z) = some r ∧ Q r) :
  ∃ r,aj (whileM (σ := Rows × Int) (ρ := Empty) (fun (s63 : Rows × Int) =>
              cond (decide (s63.2 ≥ (1 : Int)))
                (aj (aF s63.1 s63.2) fun (x75 : Rq) =>
                aj (aF s63.1 (i64.wrap (s63.2 - (1 : Int)))) fun (x80 : Rq) =>
                aj (cmp x75 x80) fun x82 =>
                cond (!(decide (x82 < (0 : Int))))
                  (some (.brk (s63.1,s63.2)))
                  (aj (aF s63.1 (i64.wrap (s63.2 - (1 : Int)))) fun (x93 : Rq) =>
                  aj (aF s63.1 s63.2) fun (x97 : Rq) =>
                  aj (aF s63.1 s63.2) fun (_ : Rq) =>
                  bo (s63.1.set s63.2.toNat x93) fun (y68 : Rows) =>
                  aj (aF y68 (i64.wrap (s63.2 - (1 : Int)))) fun (_ : Rq) =>
                  bo (y68.set ((i64.wrap (s63.2 - (1 : Int))).toNat) x97) fun (y69 : Rows) =>
                  some (.next (y69,(i64.wrap (s63.2 - (1 : Int)))))))
                (some (.brk (s63.1,s63.2)))) (rp v A,(j : Int))) (fun fl63=>fl63.thenP k) = some r ∧ Q r := by
 refine cy (fun s=>∃ (D : Array α) (i : Nat),s = (rp v D,(i : Int)) ∧ D.size = A.size ∧ i < A.size ∧ shiftDown lt i D = shiftDown lt j A) (fun s=>s.2.toNat) (fun s=>s.1 = rp v (shiftDown lt j A)) ⟨A,j,rfl,rfl,hj,rfl⟩ (fun s hI=>?_) (fun s hq=>?_)
 ·obtain ⟨D,i,rfl,hD,hi,hO⟩ := hI
  dsimp only
  cases i with
  | zero =>
   rw [zf (by omega),zd]
   exact ⟨_,rfl,by show rp v D = _; rw [← hO]; rfl⟩
  | succ i =>
   obtain ⟨c,hc,hl⟩ := hC.is D[i + 1]! D[i]!
   rw [zt (by omega),zc,bB (z := ((i + 1 : Nat) : Int) - 1) (n := i),gv (by omega) (by omega),dL (by omega),bPs,dL (by omega),bPs,hc,bPs,hl]
   rw [shiftDown] at hO
   cases hx : lt D[i + 1]! D[i]! with
   | true =>
    rw [hx,zy (by simp)] at hO
    exact ⟨_,rfl,⟨swp D (i + 1) i,i,rfl,by rw [size_swp]; exact hD,by omega,hO⟩,by show ((i : Int)).toNat < (((i + 1 : Nat) : Int)).toNat; omega⟩
   | false =>
    rw [hx,zp (by simp)] at hO
    exact ⟨_,rfl,by show rp v D = _; rw [hO]⟩
 ·obtain ⟨s1,s2⟩ := s
  dsimp only at hq
  rw [hq]
  exact hk s2
theorem su_run {β : Type} {Q : β → Prop} (hC : CmpIs v lt cmp) {A : Array α} {b j : Nat} (hs : A.size ≤ 1000000) (hb : b ≤ A.size) (hj : 0 < j) (hjb : j ≤ b) {k : Rows × Int → Option β} (hk : ∀ z,∃ r,k (rp v (shiftUp lt b j A),z) = some r ∧ Q r) :
  ∃ r,aj (whileM (σ := Rows × Int) (ρ := Empty) (fun (s70 : Rows × Int) =>
       cond (decide (s70.2 < (b : Int)))
        (aj (aF s70.1 s70.2) fun (x115 : Rq) =>
        aj (aF s70.1 (i64.wrap (s70.2 - (1 : Int)))) fun (x120 : Rq) =>
        aj (cmp x115 x120) fun x122 =>
        cond (!(decide (x122 < (0 : Int))))
         (some (.brk (s70.1,s70.2)))
         (aj (aF s70.1 (i64.wrap (s70.2 - (1 : Int)))) fun (x133 : Rq) =>
         aj (aF s70.1 s70.2) fun (x137 : Rq) =>
         aj (aF s70.1 s70.2) fun (_ : Rq) =>
         bo (s70.1.set s70.2.toNat x133) fun (y75 : Rows) =>
         aj (aF y75 (i64.wrap (s70.2 - (1 : Int)))) fun (_ : Rq) =>
         bo (y75.set ((i64.wrap (s70.2 - (1 : Int))).toNat) x137) fun (y76 : Rows) =>
         some (.next (y76,(i64.wrap (s70.2 + (1 : Int)))))))
        (some (.brk (s70.1,s70.2)))) (rp v A,(j : Int))) (fun fl70=>fl70.thenP k) = some r ∧ Q r := by
 refine cy (fun s=>∃ (D : Array α) (i : Nat),s = (rp v D,(i : Int)) ∧ D.size = A.size ∧ 0 < i ∧ i ≤ b ∧ shiftUp lt b i D = shiftUp lt b j A) (fun s=>((b : Int) - s.2).toNat) (fun s=>s.1 = rp v (shiftUp lt b j A)) ⟨A,j,rfl,rfl,hj,hjb,rfl⟩ (fun s hI=>?_) (fun s hq=>?_)
 ·obtain ⟨D,i,rfl,hD,h0,hi,hO⟩ := hI
  dsimp only
  rw [shiftUp] at hO
  by_cases hlt : i < b
  ·obtain ⟨c,hc,hl⟩ := hC.is D[i]! D[i - 1]!
   rw [zt (by omega),zc,bB (z := (i : Int) - 1) (n := i - 1),bB (z := (i : Int) + 1) (n := i + 1),gv (by omega) (by omega),dL (by omega),bPs,dL (by omega),bPs,hc,bPs,hl]
   rw [zp hlt] at hO
   cases hx : lt D[i]! D[i - 1]! with
   | true =>
    rw [hx,zy (by simp)] at hO
    exact ⟨_,rfl,⟨swp D i (i - 1),i + 1,rfl,by rw [size_swp]; exact hD,by omega,by omega,hO⟩,by show ((b : Int) - ((i + 1 : Nat) : Int)).toNat < ((b : Int) - (i : Int)).toNat; omega⟩
   | false =>
    rw [hx,zp (by simp)] at hO
    exact ⟨_,rfl,by show rp v D = _; rw [hO]⟩
  ·rw [zf (by omega),zd]
   rw [zy hlt] at hO
   exact ⟨_,rfl,by show rp v D = _; rw [hO]⟩
 ·obtain ⟨s1,s2⟩ := s
  dsimp only at hq
  rw [hq]
  exact hk s2
theorem pis_sim (hC : CmpIs v lt cmp) {A : Array α} {a b : Nat} (hs : A.size ≤ 1000000) (hab : a < b) (hb : b ≤ A.size) : cV (rp v A) (a : Int) (b : Int) cmp = some ((partialInsertionSort lt A a b).2,rp v (partialInsertionSort lt A a b).1) := by
 unfold cV
 rw [bB (z := (a : Int) + 1) (n := a + 1),bB (z := (b : Int) - (a : Int)) (n := b - a)]
 refine oP (nw (fun s=>∃ (D : Array α) (i m : Nat),s = (rp v D,(i : Int),(5 : Int) - (m : Int)) ∧ D.size = A.size ∧ m ≤ 5 ∧ a < i ∧ i ≤ b ∧ partialIns lt a b m i D = partialInsertionSort lt A a b) (fun s=>(5 - s.2.2).toNat) (fun s=>s.1 = rp v (partialInsertionSort lt A a b).1 ∧ (partialInsertionSort lt A a b).2 = false) ⟨A,a + 1,5,rfl,rfl,by omega,by omega,by omega,rfl⟩ (fun s hI=>?_) (fun s hq=>⟨_,rfl,by rw [hq.1,hq.2]⟩))
 obtain ⟨D,i,m,rfl,hD,hm,hai,hib,hO⟩ := hI
 dsimp only
 cases m with
 | zero =>
  rw [zf (by omega),zd]
  rw [partialIns] at hO
  exact ⟨_,rfl,by show rp v D = _; rw [← hO],by rw [← hO]⟩
 | succ m =>
  rw [zt (by omega),zc]
  obtain ⟨e1,e2,e3⟩ := sorted_run hC (D := D) (b := b) (by omega) (by omega) _ i (Nat.le_refl _) (by omega) hib
  rw [e1,bPs,ci]
  clear e1
  rw [Go.Sort.partialIns_succ] at hO
  unfold Go.Sort.fixDown Go.Sort.fixUp at hO
  generalize scanSorted lt D b i = i2 at e2 e3 hO ⊢
  dsimp only
  by_cases h1 : i2 = b
  ·rw [jW (show (i2 : Int) = (b : Int) from by omega),zc]
   rw [zp h1] at hO
   exact ⟨_,rfl,by rw [← hO]⟩
  ·rw [dn (show ¬ (i2 : Int) = (b : Int) from by omega),zd]
   rw [zy h1] at hO
   by_cases h2 : b - a < 50
   ·rw [zt (by omega),zc]
    rw [zp h2] at hO
    exact ⟨_,rfl,by rw [← hO]⟩
   ·rw [zf (by omega),zd]
    rw [zy h2] at hO
    rw [bB (z := (i2 : Int) - 1) (n := i2 - 1),bB (z := (i2 : Int) - (a : Int)) (n := i2 - a),bB (z := (b : Int) - (i2 : Int)) (n := b - i2),bB (z := (i2 : Int) + 1) (n := i2 + 1),gv (by omega) (by omega)]
    have hE : (swp D i2 (i2 - 1)).size = A.size := by rw [size_swp]; exact hD
    generalize swp D i2 (i2 - 1) = E at hE hO ⊢
    refine kT (P := fun t=>t = rp v (if i2 - a ≥ 2 then shiftDown lt (i2 - 1) E else E)) ?_ (fun t ht=>?_)
    ·by_cases h3 : i2 - a ≥ 2
     ·rw [zt (by omega),zc,zp h3]
      exact sd_run hC (by omega) (by omega) (fun z=>⟨_,rfl,rfl⟩)
     ·rw [zf (by omega),zd,zy h3]
      exact ⟨_,rfl,rfl⟩
    ·subst ht
     have hG : (if i2 - a ≥ 2 then shiftDown lt (i2 - 1) E else E).size = A.size := by
      split
      ·rw [pp]; exact hE
      ·exact hE
     generalize (if i2 - a ≥ 2 then shiftDown lt (i2 - 1) E else E) = G at hG hO ⊢
     rw [bC (n := (5 : Int) - ((m + 1 : Nat) : Int) + 1) (by omega) (by omega),show (5 : Int) - ((m + 1 : Nat) : Int) + 1 = 5 - (m : Int) from by omega]
     by_cases h4 : b - i2 ≥ 2
     ·rw [zt (by omega),zc]
      rw [zp h4] at hO
      exact su_run hC (by omega) (by omega) (by omega) (by omega) (fun z=>⟨_,rfl,⟨_,i2,m,rfl,by rw [qO b _ _ _ (Nat.le_refl _)]; exact hG,by omega,by omega,e3,hO⟩,by show (5 - ((5 : Int) - (m : Int))).toNat < (5 - ((5 : Int) - ((m + 1 : Nat) : Int))).toNat; omega⟩)
     ·rw [zf (by omega),zd]
      rw [zy h4] at hO
      exact ⟨_,rfl,⟨G,i2,m,rfl,hG,by omega,by omega,e3,hO⟩,by show (5 - ((5 : Int) - (m : Int))).toNat < (5 - ((5 : Int) - ((m + 1 : Nat) : Int))).toNat; omega⟩
theorem qv (hC : CmpIs v lt cmp) {A : Array α} {a b : Nat} (ha : a < A.size) (hb : b < A.size) (sw : Int) : ∃ (x y : Nat) (sw' : Int),dh (rp v A) (a : Int) (b : Int) sw cmp = some ((x : Int),(y : Int),rp v A,sw') ∧ ((x = a ∧ y = b) ∨ (x = b ∧ y = a)) := by
 unfold dh
 obtain ⟨c,hc,hl⟩ := hC.is A[b]! A[a]!
 rw [dL hb,bPs,dL ha,bPs,hc,bPs]
 by_cases h : c < 0
 ·rw [zt h]; exact ⟨b,a,_,rfl,.inr ⟨rfl,rfl⟩⟩
 ·rw [zf h]; exact ⟨a,b,_,rfl,.inl ⟨rfl,rfl⟩⟩
theorem median_ok (hC : CmpIs v lt cmp) {A : Array α} {a b c : Nat} (ha : a < A.size) (hb : b < A.size) (hc : c < A.size) (sw : Int) : ∃ (m : Nat) (sw' : Int),dO (rp v A) (a : Int) (b : Int) (c : Int) sw cmp = some ((m : Int),rp v A,sw') ∧ (m = a ∨ m = b ∨ m = c) := by
 unfold dO
 obtain ⟨x1,y1,w1,e1,h1⟩ := qv hC ha hb sw
 rw [e1,bPs,bu rfl,bPs]
 obtain ⟨x2,y2,w2,e2,h2⟩ := qv hC (a := y1) (b := c) (by omega) hc w1
 dsimp only
 rw [e2,bPs,bu rfl,bPs]
 obtain ⟨x3,y3,w3,e3,h3⟩ := qv hC (A := A) (a := x1) (b := x2) (by omega) (by omega) w2
 dsimp only
 rw [e3,bPs,bu rfl,bPs]
 exact ⟨y3,w3,rfl,by omega⟩
theorem pi (hC : CmpIs v lt cmp) {A : Array α} {a : Nat} (hs : A.size ≤ 1000000) (h0 : 0 < a) (ha : a + 1 < A.size) (sw : Int) : ∃ (m : Nat) (sw' : Int),cz (rp v A) (a : Int) sw cmp = some ((m : Int),rp v A,sw') ∧ a ≤ m + 1 ∧ m ≤ a + 1 := by
 unfold cz
 rw [bB (z := (a : Int) - 1) (n := a - 1),bB (z := (a : Int) + 1) (n := a + 1)]
 obtain ⟨m,w,e,h⟩ := median_ok hC (A := A) (a := a - 1) (b := a) (c := a + 1) (by omega) (by omega) ha sw
 rw [e,bPs,bu rfl,bPs]
 exact ⟨m,w,rfl,by omega,by omega⟩
theorem pivot_ok (hC : CmpIs v lt cmp) {A : Array α} {a b : Nat} (hs : A.size ≤ 1000000) (hab : a + 12 < b) (hb : b ≤ A.size) : ∃ r,dP (rp v A) (a : Int) (b : Int) cmp = some r ∧ ∃ (p : Nat) (h : Int),r = ((p : Int),h,rp v A) ∧ a ≤ p ∧ p < b := by
 unfold dP
 rw [bB (z := (b : Int) - (a : Int)) (n := b - a),zt (show ((b - a : Nat) : Int) ≥ 8 from by omega),zc,Int.tdiv_eq_ediv_of_nonneg (by omega)]
 rw [bB (z := ((b - a : Nat) : Int) / 4) (n := (b - a) / 4)]
 generalize hq : (b - a) / 4 = q
 have hq1 : 4 * q ≤ b - a ∧ b - a < 4 * q + 4 := by omega
 clear hq
 rw [bB (z := (q : Int) * 1) (n := q),bB (z := (q : Int) * 2) (n := 2 * q),bB (z := (q : Int) * 3) (n := 3 * q),bB (z := (a : Int) + (q : Int)) (n := a + q),bB (z := (a : Int) + ((2 * q : Nat) : Int)) (n := a + 2 * q),bB (z := (a : Int) + ((3 * q : Nat) : Int)) (n := a + 3 * q)]
 refine kT (P := fun t=>∃ (p : Nat) (w : Int),t = (rp v A,(p : Int),w) ∧ a ≤ p ∧ p < b) ?_ (fun t ht=>?_)
 ·refine kT (P := fun t=>∃ (i j k : Nat) (w : Int),t = (rp v A,(i : Int),(j : Int),(k : Int),w) ∧ a ≤ i ∧ i < b ∧ a ≤ j ∧ j < b ∧ a ≤ k ∧ k < b) ?_ (fun t ht=>?_)
  ·by_cases h : b - a ≥ 50
   ·rw [zt (by omega),zc]
    obtain ⟨m1,w1,e1,h1⟩ := pi hC (A := A) (a := a + q) hs (by omega) (by omega) 0
    rw [e1,bPs,bu rfl,bPs]
    dsimp only
    obtain ⟨m2,w2,e2,h2⟩ := pi hC (A := A) (a := a + 2 * q) hs (by omega) (by omega) w1
    rw [e2,bPs,bu rfl,bPs]
    dsimp only
    obtain ⟨m3,w3,e3,h3⟩ := pi hC (A := A) (a := a + 3 * q) hs (by omega) (by omega) w2
    rw [e3,bPs,bu rfl,bPs]
    exact ⟨_,rfl,m1,m2,m3,w3,rfl,by omega,by omega,by omega,by omega,by omega,by omega⟩
   ·rw [zf (by omega),zd]
    exact ⟨_,rfl,a + q,a + 2 * q,a + 3 * q,0,rfl,by omega,by omega,by omega,by omega,by omega,by omega⟩
  ·obtain ⟨i,j,k,w,rfl,h1,h2,h3,h4,h5,h6⟩ := ht
   dsimp only
   obtain ⟨m,w',e,h⟩ := median_ok hC (A := A) (a := i) (b := j) (c := k) (by omega) (by omega) (by omega) w
   rw [e,bPs,bu rfl,bPs]
   exact ⟨_,rfl,m,w',rfl,by omega,by omega⟩
 ·obtain ⟨p,w,rfl,h1,h2⟩ := ht
  dsimp only
  cases w == 0 with
  | true=>exact ⟨_,rfl,p,_,rfl,h1,h2⟩
  | false =>
   cases w == 12 with
   | true=>exact ⟨_,rfl,p,_,rfl,h1,h2⟩
   | false=>exact ⟨_,rfl,p,_,rfl,h1,h2⟩
end
end
end Go.Proofs.YtgaggbdcedpapaaGreat

namespace Go.Proofs.YtgaggbdcedpapaaGreat
open Go.IntKind (i64)
noncomputable section
open Go Go.Ab
open Go.Sort (swp insertionSort heapSort partition partitionEqual partialInsertionSort reverseRange size_swp SWO PermIn SortedIn Below permIn_refl permIn_trans swp_permIn)
theorem u64_id {n : Nat} (h : n < 18446744073709551616) : IntKind.u64.wrap (n : Int) = (n : Int) := by
 simp only [IntKind.wrap,IntKind.bits,IntKind.signed]
 simp
 omega
theorem and_small {m : Nat} (x : Int) : ∃ o : Nat,andI .u64 x (m : Int) = (o : Int) ∧ o ≤ m := by
 refine ⟨(BitVec.ofInt 64 x &&& BitVec.ofInt 64 (m : Int)).toNat,?_,?_⟩
 ·unfold andI
  show IntKind.u64.wrap (((BitVec.ofInt 64 x &&& BitVec.ofInt 64 (m : Int)).toNat : Nat) : Int) = _
  exact u64_id (BitVec.isLt _)
 ·rw [BitVec.toNat_and]
  refine Nat.le_trans Nat.and_le_right ?_
  rw [BitVec.ofInt_natCast,BitVec.toNat_ofNat]
  exact Nat.mod_le _ _
def pB : List UInt8 := [0,1,2,2,3,3,3,3,4,4,4,4,4,4,4,4,5,5,5,5,5,5,5,5,5,5,5,5,5,5,5,5,6,6,6,6,6,6,6,6,6,6,6,6,6,6,6,6,6,6,6,6,6,6,6,6,6,6,6,6,6,6,6,6,7,7,7,7,7,7,7,7,7,7,7,7,7,7,7,7,7,7,7,7,7,7,7,7,7,7,7,7,7,7,7,7,7,7,7,7,7,7,7,7,7,7,7,7,7,7,7,7,7,7,7,7,7,7,7,7,7,7,7,7,7,7,7,7,8,8,8,8,8,8,8,8,8,8,8,8,8,8,8,8,8,8,8,8,8,8,8,8,8,8,8,8,8,8,8,8,8,8,8,8,8,8,8,8,8,8,8,8,8,8,8,8,8,8,8,8,8,8,8,8,8,8,8,8,8,8,8,8,8,8,8,8,8,8,8,8,8,8,8,8,8,8,8,8,8,8,8,8,8,8,8,8,8,8,8,8,8,8,8,8,8,8,8,8,8,8,8,8,8,8,8,8,8,8,8,8,8,8,8,8,8,8,8,8,8,8,8,8,8,8,8,8]
theorem tab_ok : ∀ y : Fin 256,∃ z,pB[y.val]? = some z ∧ 2 ^ z.toNat ≤ max 1 (2 * y.val) ∧ z.toNat ≤ 8 ∧ y.val < 2 ^ z.toNat := by
 have h : ∀ y : Fin 256,(match pB[y.val]? with | some z=>decide (2 ^ z.toNat ≤ max 1 (2 * y.val) ∧ z.toNat ≤ 8 ∧ y.val < 2 ^ z.toNat) | none=>false) = true := by decide +kernel
 intro y
 have hy := h y
 cases hz : pB[y.val]? with
 | none=>rw [hz] at hy; cases hy
 | some z=>rw [hz] at hy; exact ⟨z,rfl,of_decide_eq_true hy⟩
theorem tab_get {y : Nat} (hy : y < 256) : ∃ z : UInt8,aF pB ((u8of (y : Int)).toNat : Int) = some z ∧ 2 ^ z.toNat ≤ max 1 (2 * y) ∧ z.toNat ≤ 8 ∧ y < 2 ^ z.toNat := by
 obtain ⟨z,h1,h2⟩ := tab_ok ⟨y,hy⟩
 refine ⟨z,?_,h2⟩
 have e : ((u8of (y : Int)).toNat : Int) = (y : Int) := by
  rw [← u8of_eq]
  simp only [IntKind.wrap,IntKind.bits,IntKind.signed]
  simp
  omega
 rw [e]
 exact kI h1
set_option maxRecDepth 10000 in
theorem len_ok {x : Nat} (hx : x ≤ 1000000) : ∃ n : Nat,iy (x : Int) = some (n : Int) ∧ 2 ^ n ≤ max 1 (2 * x) ∧ n ≤ 20 ∧ x < 2 ^ n := by
 unfold iy jP
 simp only [bN]
 change ∃ n : Nat,(aj (aj (aF pB _) _) _ : Option Int) = _ ∧ _
 rw [zf (show ¬ (x : Int) ≥ 4294967296 from by omega),zd]
 have key : ∀ (y k : Nat),y < 256 → k ≤ 12 + 4 → ∃ z : Nat,(aj (aj (aF pB ((u8of (y : Int)).toNat : Int)) fun (x22 : UInt8)=>some (i64.wrap ((k : Int) + i64.wrap (x22.toNat : Int)))) fun x7=>some x7) = some ((k + z : Nat) : Int) ∧ 2 ^ z ≤ max 1 (2 * y) ∧ z ≤ 8 ∧ y < 2 ^ z := fun y k hy hk=>by
  obtain ⟨z,h1,h2,h3,h4⟩ := tab_get hy
  refine ⟨z.toNat,?_,h2,h3,h4⟩
  rw [h1,bPs,bPs,bC (n := (z.toNat : Int)) (by omega) (by omega),bC (by omega) (by omega)]
  simp
 by_cases h1 : x ≥ 65536
 ·rw [zt (show (x : Int) ≥ 65536 from by omega),zc]
  have e : Int.fdiv (x : Int) (2 ^ 16) = ((x / 65536 : Nat) : Int) := by
   rw [Int.fdiv_eq_ediv_of_nonneg _ (by decide)]; rfl
  dsimp only
  rw [e,zf (show ¬ ((x / 65536 : Nat) : Int) ≥ 256 from by omega),zd]
  dsimp only
  rw [show i64.wrap ((0 : Int) + 16) = ((16 : Nat) : Int) from by decide +kernel]
  obtain ⟨z,e1,h2,h3,h4⟩ := key (x / 65536) 16 (by omega) (by omega)
  refine ⟨16 + z,e1,?_,?_,?_⟩
  ·rw [Nat.pow_add]
   have : (2 : Nat) ^ 16 = 65536 := by decide
   omega
  ·have : 2 ^ z ≤ 2 * (x / 65536) := by omega
   have hz : 2 ^ z < 2 ^ 5 := by have : (2 : Nat) ^ 5 = 32 := by decide
                                 omega
   have := (Nat.pow_lt_pow_iff_right (by omega : 1 < 2)).1 hz
   omega
  ·rw [Nat.pow_add]
   have : (2 : Nat) ^ 16 = 65536 := by decide
   omega
 ·rw [zf (show ¬ (x : Int) ≥ 65536 from by omega),zd]
  dsimp only
  by_cases h2 : x ≥ 256
  ·rw [zt (show (x : Int) ≥ 256 from by omega),zc]
   have e : Int.fdiv (x : Int) (2 ^ 8) = ((x / 256 : Nat) : Int) := by
    rw [Int.fdiv_eq_ediv_of_nonneg _ (by decide)]; rfl
   dsimp only
   rw [e,show i64.wrap ((0 : Int) + 8) = ((8 : Nat) : Int) from by decide +kernel]
   obtain ⟨z,e1,h2,h3,h4⟩ := key (x / 256) 8 (by omega) (by omega)
   refine ⟨8 + z,e1,?_,by omega,?_⟩
   ·rw [Nat.pow_add]
    have : (2 : Nat) ^ 8 = 256 := by decide
    omega
   ·rw [Nat.pow_add]
    have : (2 : Nat) ^ 8 = 256 := by decide
    omega
  ·rw [zf (show ¬ (x : Int) ≥ 256 from by omega),zd]
   dsimp only
   obtain ⟨z,e1,h2,h3,h4⟩ := key x 0 (by omega) (by omega)
   refine ⟨z,?_,h2,by omega,h4⟩
   rw [show ((0 : Nat) : Int) = 0 from rfl] at e1
   rw [show ((z : Nat) : Int) = ((0 + z : Nat) : Int) from by simp]
   exact e1
theorem next_ok (r : Int) : ∃ x r',ij r = some (x,r') := ⟨_,_,rfl⟩
theorem pow_ok {x : Nat} (h0 : 0 < x) (hx : x ≤ 1000000) : ∃ n : Nat,gd (x : Int) = some (n : Int) ∧ 0 < n ∧ n ≤ 2 * x := by
 unfold gd
 obtain ⟨n,e,h1,h2,_⟩ := len_ok hx
 have hp : 0 < 2 ^ n := Nat.pow_pos (by omega)
 have hp2 : 2 ^ n ≤ 2 * x := by omega
 rw [u64_id (by omega),e,bPs]
 refine ⟨2 ^ n,?_,hp,hp2⟩
 unfold shlI
 rw [zp (by omega),bPs,Int.toNat_natCast,show min n IntKind.u64.bits = n from by show min n 64 = n; omega,Int.one_mul,show ((2 : Int) ^ n) = ((2 ^ n : Nat) : Int) from by simp,u64_id (by omega)]
section
variable {α : Type} [Inhabited α] {v : α → Rq} {lt : α → α → Bool} {cmp : Cmp}
theorem break_ok {A : Array α} {a b : Nat} (hs : A.size ≤ 1000000) (hab : a + 12 < b) (hb : b ≤ A.size) : ∃ r,dC (rp v A) (a : Int) (b : Int) cmp = some r ∧ ∃ A',r = rp v A' ∧ PermIn a b A A' := by
 unfold dC
 rw [bB (z := (b : Int) - (a : Int)) (n := b - a),zt (show ((b - a : Nat) : Int) ≥ 8 from by omega),zc,Int.tdiv_eq_ediv_of_nonneg (by omega)]
 rw [bB (z := ((b - a : Nat) : Int) / 4) (n := (b - a) / 4)]
 obtain ⟨M,eM,hM0,hM⟩ := pow_ok (x := b - a) (by omega) (by omega)
 rw [eM,bPs]
 generalize hq : (b - a) / 4 = q
 have hq1 : 4 * q ≤ b - a ∧ b - a < 4 * q + 4 := by omega
 clear hq
 rw [bB (z := (q : Int) * 2) (n := 2 * q),bB (z := (a : Int) + ((2 * q : Nat) : Int)) (n := a + 2 * q),bB (z := ((a + 2 * q : Nat) : Int) - 1) (n := a + 2 * q - 1),bB (z := ((a + 2 * q : Nat) : Int) + 1) (n := a + 2 * q + 1),show (M : Int) - 1 = ((M - 1 : Nat) : Int) from by omega,u64_id (n := M - 1) (by omega)]
 refine cy (fun s=>∃ (D : Array α) (i : Nat) (r : Int),s = (rp v D,(i : Int),r) ∧ a ≤ i ∧ i ≤ a + 2 * q + 2 ∧ PermIn a b A D) (fun s=>(((a + 2 * q + 2 : Nat) : Int) - s.2.1).toNat) (fun s=>∃ D : Array α,s.1 = rp v D ∧ PermIn a b A D) ⟨A,a + 2 * q - 1,_,rfl,by omega,by omega,permIn_refl _ _ _⟩ (fun s hI=>?_) (fun s hq=>?_)
 ·obtain ⟨D,i,r,rfl,hai,hi,hP⟩ := hI
  have hD := hP.1
  dsimp only
  by_cases hle : i ≤ a + 2 * q + 1
  ·rw [zt (by omega),zc]
   obtain ⟨x,r',e⟩ := next_ok r
   rw [e,bPs]
   dsimp only
   obtain ⟨o,eo,ho⟩ := and_small (m := M - 1) x
   rw [eo,bB (z := (o : Int)) (n := o) rfl (by omega),bN]
   obtain ⟨t,ht,hlt⟩ : ∃ t : Nat,(cond (decide ((o : Int) ≥ ((b - a : Nat) : Int))) ((rp v D,(i64.wrap ((o : Int) - ((b - a : Nat) : Int))))) ((rp v D,(o : Int))) : Rows × Int) = (rp v D,(t : Int)) ∧ t < b - a := by
    by_cases h : o ≥ b - a
    ·rw [zt (by omega),zc,bB (z := (o : Int) - ((b - a : Nat) : Int)) (n := o - (b - a))]
     exact ⟨_,rfl,by omega⟩
    ·rw [zf (by omega),zd]
     exact ⟨_,rfl,by omega⟩
   rw [ht]
   dsimp only
   rw [bB (z := (a : Int) + (t : Int)) (n := a + t),gv (by omega) (by omega),bB (z := (i : Int) + 1) (n := i + 1)]
   exact ⟨_,rfl,⟨swp D i (a + t),i + 1,r',rfl,by omega,by omega,permIn_trans _ _ _ _ _ hP (swp_permIn D a b i (a + t) hai (by omega) (by omega) (by omega) (by omega))⟩,by show (((a + 2 * q + 2 : Nat) : Int) - ((i + 1 : Nat) : Int)).toNat < (((a + 2 * q + 2 : Nat) : Int) - (i : Int)).toNat; omega⟩
  ·rw [zf (by omega),zd]
   exact ⟨_,rfl,D,rfl,hP⟩
 ·obtain ⟨D,h1,h2⟩ := hq
  exact ⟨_,rfl,D,h1,h2⟩
end
theorem LeO.whileM {σ ρ : Type} {st st' : σ → Option (Flow σ ρ)} (h : ∀ s,LeO (st s) (st' s)) (s : σ) : LeO (whileM st s) (whileM st' s) := by
 intro r hr
 rw [whileM_iff] at hr ⊢
 obtain ⟨n,hn⟩ := hr
 refine ⟨n,?_⟩
 induction n generalizing s with
 | zero=>simp [ix] at hn
 | succ n ih =>
  simp only [ix] at hn ⊢
  cases hs : st s with
  | none=>rw [hs] at hn; cases hn
  | some fl =>
   rw [h s fl hs]
   rw [hs] at hn
   cases fl with
   | next s'=>exact ih s' hn
   | brk s'=>exact hn
   | ret x=>exact hn
theorem LeO.thenF {σ τ ρ : Type} {fl : Flow σ ρ} {k k' : σ → Option (Flow τ ρ)} (hk : ∀ s,LeO (k s) (k' s)) : LeO (fl.thenF k) (fl.thenF k') := by
 cases fl with
 | next s=>exact hk s
 | brk s=>exact hk s
 | ret r=>exact LeO.refl _
theorem pdq_mono {cmp : Cmp} {r r' : Rows → Int → Int → Int → Option Rows} (h : ∀ d a b l,LeO (r d a b l) (r' d a b l)) (d : Rows) (a b l : Int) : LeO (da r d a b l cmp) (da r' d a b l cmp) := by
 unfold da
 simp only [bN]
 refine LeO.bind (LeO.whileM (fun s=>LeO.cond (LeO.refl _) (LeO.cond (LeO.refl _) (LeO.bind (LeO.refl _) fun t=>LeO.bind (LeO.refl _) fun u=>LeO.bind (LeO.refl _) fun _=>LeO.bind (LeO.refl _) fun w=>LeO.bind (LeO.refl _) fun fl=>LeO.thenF fun x=>LeO.bind (LeO.refl _) fun y=>LeO.cond (LeO.refl _) (LeO.bind (LeO.refl _) fun z=>LeO.bind (LeO.refl _) fun _=>LeO.cond (LeO.bind (h _ _ _ _) fun _=>LeO.refl _) (LeO.bind (h _ _ _ _) fun _=>LeO.refl _))))) _) fun fl=>LeO.refl _
theorem pdq_step {cmp : Cmp} : ∀ (n : Nat) (d : Rows) (a b l : Int),LeO (bT n d a b l cmp) (bT (n + 1) d a b l cmp)
 | 0,d,a,b,l=>fun r h=>by simp [bT] at h
 | n + 1,d,a,b,l=>by
  rw [bT,bT]
  exact pdq_mono (fun d a b l=>pdq_step n d a b l) d a b l
theorem pdq_lim {cmp : Cmp} {n : Nat} {d : Rows} {a b l : Int} {r : Rows} (h : bT n d a b l cmp = some r) : gO d a b l cmp = some r := by
 refine nP n fun k hk=>?_
 obtain ⟨j,rfl⟩ : ∃ j,k = n + j := ⟨k - n,by omega⟩
 clear hk
 induction j with
 | zero=>exact h
 | succ j ih=>exact pdq_step (n + j) d a b l r ih
section
variable {α : Type} [Inhabited α] {v : α → Rq} {lt : α → α → Bool} {cmp : Cmp}
theorem pdq_ok (hC : CmpIs v lt cmp) (hS : SWO lt) : ∀ (n : Nat) {A : Array α} {a b lim : Nat},A.size ≤ 1000000 → a ≤ b → b ≤ A.size → lim ≤ 1000000 → Below lt a b A → b - a < n →
  ∃ r,bT n (rp v A) (a : Int) (b : Int) (lim : Int) cmp = some r ∧ ∃ A',r = rp v A' ∧ PermIn a b A A' ∧ SortedIn lt a b A'
 | 0,_,_,_,_,_,_,_,_,_,hn=>by omega
 | n + 1,A,a,b,lim,hs,hab,hb,hlim,hB,hn=>by
  rw [bT]
  unfold da
  refine nw (fun s=>∃ (D : Array α) (x y l : Nat) (wb wp : Bool),s = (rp v D,(x : Int),(y : Int),(l : Int),wb,wp) ∧ D.size = A.size ∧ x ≤ y ∧ y ≤ A.size ∧ l ≤ 1000000 ∧ Below lt x y D ∧ y - x ≤ b - a ∧ ∀ R,PermIn x y D R → SortedIn lt x y R → PermIn a b A R ∧ SortedIn lt a b R) (fun s=>(s.2.2.1 - s.2.1).toNat) (fun _=>False) ⟨A,a,b,lim,true,true,rfl,rfl,hab,hb,hlim,hB,Nat.le_refl _,fun R h1 h2=>⟨h1,h2⟩⟩ (fun s hI=>?_) (fun s hq=>hq.elim)
  obtain ⟨D,x,y,l,wb,wp,rfl,hD,hxy,hy,hl,hBD,hle,hfin⟩ := hI
  dsimp only
  rw [bB (z := (y : Int) - (x : Int)) (n := y - x)]
  by_cases h12 : y - x ≤ 12
  ·rw [zt (by omega),zc,ins_sim hC (by omega) (by omega) (by omega),bPs]
   have hi := Go.Sort.insertionSort_holds (lt := lt) hS D x y hxy (by omega)
   rw [bu (by rw [cE,cE,hi.1.1]),bPs]
   exact ⟨_,rfl,_,rfl,hfin _ hi.1 hi.2⟩
  rw [zf (by omega),zd]
  by_cases h0 : l = 0
  ·rw [jW (show (l : Int) = 0 from by omega),zc,heap_sim hC (by omega) hxy (by omega),bPs]
   have hi := Go.Sort.heapSort_holds (lt := lt) hS D x y hxy (by omega)
   rw [bu (by rw [cE,cE,hi.1.1]),bPs]
   exact ⟨_,rfl,_,rfl,hfin _ hi.1 hi.2⟩
  rw [dn (show ¬ (l : Int) = 0 from by omega),zd]
  -- broken patterns
  refine kT (P := fun t=>∃ (D1 : Array α) (l1 : Nat),t = (rp v D1,(l1 : Int)) ∧ l1 ≤ 1000000 ∧ PermIn x y D D1) ?_ (fun t ht=>?_)
  ·cases wb with
   | true=>exact ⟨_,rfl,D,l,rfl,hl,permIn_refl _ _ _⟩
   | false =>
    rw [Bool.not_false,zc]
    obtain ⟨r,e,D1,rfl,hP⟩ := break_ok (v := v) (cmp := cmp) (A := D) (a := x) (b := y) (by omega) (by omega) (by omega)
    rw [e,bPs,bu (by rw [cE,cE,hP.1]),bPs,bB (z := (l : Int) - 1) (n := l - 1)]
    exact ⟨_,rfl,D1,l - 1,rfl,by omega,hP⟩
  obtain ⟨D1,l1,rfl,hl1,hP1⟩ := ht
  have hD1 := hP1.1
  have hB1 : Below lt x y D1 := hBD.perm (by omega) hP1
  dsimp only
  obtain ⟨r,e,p,h,rfl,hp1,hp2⟩ := pivot_ok hC (A := D1) (a := x) (b := y) (by omega) (by omega) (by omega)
  rw [e,bPs,bu rfl,bPs]
  dsimp only
  -- turned round
  refine kT (P := fun t=>∃ (D2 : Array α) (p2 : Nat) (h2 : Int),t = (rp v D2,(p2 : Int),h2) ∧ x ≤ p2 ∧ p2 < y ∧ PermIn x y D1 D2) ?_ (fun t ht=>?_)
  ·cases h == 2 with
   | true =>
    have hr := Go.Sort.reverseRange_holds D1 x y hxy (by omega)
    rw [zc,reverse_sim (by omega) (by omega) (by omega),bPs,bu (by rw [cE,cE,hr.1]),bPs,bB (z := (y : Int) - 1) (n := y - 1),bB (z := (p : Int) - (x : Int)) (n := p - x),bB (z := ((y - 1 : Nat) : Int) - ((p - x : Nat) : Int)) (n := y - 1 - (p - x))]
    exact ⟨_,rfl,_,_,_,rfl,by omega,by omega,hr⟩
   | false=>exact ⟨_,rfl,D1,p,h,rfl,hp1,hp2,permIn_refl _ _ _⟩
  obtain ⟨D2,p2,h2,rfl,hq1,hq2,hP2⟩ := ht
  have hD2 := hP2.1
  have hB2 : Below lt x y D2 := hB1.perm (by omega) hP2
  rw [bN]
  obtain ⟨bb,hbb⟩ : ∃ bb : Bool,(cond wb (cond wp ((rp v D2,(h2 == (1 : Int)))) ((rp v D2,false))) ((rp v D2,false)) : Rows × Bool) = (rp v D2,bb) := by
   cases wb
   ·exact ⟨_,rfl⟩
   ·cases wp
    ·exact ⟨_,rfl⟩
    ·exact ⟨_,rfl⟩
  dsimp only
  rw [hbb]
  -- insertion in part
  refine kT (P := fun fl=>(∃ D3,fl = .next (rp v D3) ∧ PermIn x y D2 D3) ∨ ∃ D3,fl = .ret (rp v D3) ∧ PermIn x y D2 D3 ∧ SortedIn lt x y D3) ?_ (fun fl hfl=>?_)
  ·cases bb with
   | false=>exact ⟨_,rfl,.inl ⟨D2,rfl,permIn_refl _ _ _⟩⟩
   | true =>
    have hi := Go.Sort.partialInsertionSort_holds (lt := lt) hS D2 x y (by omega) (by omega) hB2
    dsimp only
    rw [zc,pis_sim hC (by omega) (by omega) (by omega),bPs]
    dsimp only
    rw [bu (by rw [cE,cE,hi.1.1]),bPs]
    cases hx : (partialInsertionSort lt D2 x y).2 with
    | true=>exact ⟨_,rfl,.inr ⟨_,rfl,hi.1,hi.2 hx⟩⟩
    | false=>exact ⟨_,rfl,.inl ⟨_,rfl,hi.1⟩⟩
  rcases hfl with ⟨D3,rfl,hP3⟩ | ⟨D3,rfl,hP3,hS3⟩
  rotate_left
  ·exact ⟨_,rfl,D3,rfl,hfin _ (permIn_trans _ _ _ _ _ (permIn_trans _ _ _ _ _ hP1 hP2) hP3) hS3⟩
  rw [thenF_nextS]
  have hD3 := hP3.1
  have hB3 : Below lt x y D3 := hB2.perm (by omega) hP3
  have hP : PermIn x y D D3 := permIn_trans _ _ _ _ _ (permIn_trans _ _ _ _ _ hP1 hP2) hP3
  have hfin3 : ∀ R,PermIn x y D3 R → SortedIn lt x y R → PermIn a b A R ∧ SortedIn lt a b R := fun R h1 h2=>hfin R (permIn_trans _ _ _ _ _ hP h1) h2
  -- many that are equal?
  refine kT (P := fun t=>∃ bb : Bool,t = (rp v D3,bb) ∧ (bb = true → 0 < x ∧ lt D3[x - 1]! D3[p2]! = false)) ?_ (fun t ht=>?_)
  ·by_cases hx : 0 < x
   ·obtain ⟨c,hc,hlc⟩ := hC.is D3[x - 1]! D3[p2]!
    rw [zt (by omega),zc,bB (z := (x : Int) - 1) (n := x - 1),dL (by omega),bPs,dL (by omega),bPs,hc,bPs,hlc]
    exact ⟨_,rfl,_,rfl,fun h=>⟨hx,by simpa using h⟩⟩
   ·rw [zf (by omega),zd]
    exact ⟨_,rfl,false,rfl,fun h=>by cases h⟩
  obtain ⟨bb,rfl,hbb⟩ := ht
  dsimp only
  cases bb with
  | true =>
   rw [zc,partEq_sim hC (by omega) hq1 hq2 (by omega),bPs]
   obtain ⟨hx0,hnl⟩ := hbb rfl
   obtain ⟨k1,k2,k3,k4,k5⟩ := Go.Sort.round_eq hS (Go.Sort.partitionEqual_holds lt) hx0 hq1 hq2 (by omega) hB3 hnl (mid := (partitionEqual lt D3 x y p2).1) (d4 := (partitionEqual lt D3 x y p2).2) rfl
   dsimp only
   rw [bu (by rw [cE,cE,k3]),bPs]
   exact ⟨_,rfl,⟨_,_,y,l1,wb,wp,rfl,by omega,k2,hy,hl1,k4,by omega,fun R h1 h2=>hfin3 R (k5 R h1 h2).1 (k5 R h1 h2).2⟩,by show ((y : Int) - ((partitionEqual lt D3 x y p2).1 : Int)).toNat < ((y : Int) - (x : Int)).toNat; omega⟩
  | false =>
   rw [zd,part_sim hC (by omega) hq1 hq2 (by omega),bPs]
   obtain ⟨k1,k2,k3,k4,k5,k6,k7⟩ := Go.Sort.round_part hS (Go.Sort.partition_holds lt) hq1 hq2 (by omega) hB3 (mid := (partition lt D3 x y p2).1) (ap := (partition lt D3 x y p2).2.1) (d4 := (partition lt D3 x y p2).2.2) rfl
   dsimp only
   rw [bu (by rw [cE,cE,k3]),bPs]
   generalize (partition lt D3 x y p2).1 = mid at k1 k2 k4 k5 k6 k7 ⊢
   generalize (partition lt D3 x y p2).2.1 = ap at ⊢
   generalize (partition lt D3 x y p2).2.2 = D4 at k3 k4 k5 k6 k7 ⊢
   rw [bB (z := (mid : Int) - (x : Int)) (n := mid - x),bB (z := (y : Int) - (mid : Int)) (n := y - mid),bB (z := (mid : Int) + 1) (n := mid + 1)]
   by_cases hlt : mid - x < y - mid
   ·rw [zt (by omega),zc]
    obtain ⟨r,e,L,rfl,hL1,hL2⟩ := pdq_ok hC hS n (A := D4) (a := x) (b := mid) (lim := l1) (by omega) k1 (by omega) hl1 k4 (by omega)
    rw [e,bPs,bu (by rw [cE,cE,hL1.1]),bPs]
    obtain ⟨m1,m2⟩ := k6 L hL1 hL2
    have hLs := hL1.1
    exact ⟨_,rfl,⟨L,mid + 1,y,l1,_,_,rfl,by omega,by omega,hy,hl1,m1,by omega,fun R h1 h2=>hfin3 R (m2 R h1 h2).1 (m2 R h1 h2).2⟩,by show ((y : Int) - ((mid + 1 : Nat) : Int)).toNat < ((y : Int) - (x : Int)).toNat; omega⟩
   ·rw [zf (by omega),zd]
    obtain ⟨r,e,L,rfl,hL1,hL2⟩ := pdq_ok hC hS n (A := D4) (a := mid + 1) (b := y) (lim := l1) (by omega) (by omega) (by omega) hl1 k5 (by omega)
    rw [e,bPs,bu (by rw [cE,cE,hL1.1]),bPs]
    obtain ⟨m1,m2⟩ := k7 L hL1 hL2
    have hLs := hL1.1
    exact ⟨_,rfl,⟨L,x,mid,l1,_,_,rfl,by omega,k1,by omega,hl1,m1,by omega,fun R h1 h2=>hfin3 R (m2 R h1 h2).1 (m2 R h1 h2).2⟩,by show ((mid : Int) - (x : Int)).toNat < ((y : Int) - (x : Int)).toNat; omega⟩
theorem ru (hC : CmpIs v lt cmp) (hS : SWO lt) {A : Array α} (hs : A.size ≤ 1000000) : ∃ A',dl (rp v A) cmp = some (rp v A') ∧ PermIn 0 A.size A A' ∧ SortedIn lt 0 A.size A' := by
 unfold dl
 rw [cE]
 obtain ⟨n,e,_,hn,_⟩ := len_ok (x := A.size) hs
 rw [u64_id (by omega),e,bPs]
 obtain ⟨r,e2,A',rfl,h1,h2⟩ := pdq_ok hC hS (A.size + 1) (A := A) (a := 0) (b := A.size) (lim := n) hs (Nat.zero_le _) (Nat.le_refl _) (by omega) (.inl rfl) (by omega)
 have e3 := pdq_lim e2
 rw [show ((0 : Nat) : Int) = 0 from rfl] at e3
 rw [e3,bPs,bu (by rw [cE,h1.1]),bPs]
 exact ⟨A',rfl,h1,h2⟩
end
end
end Go.Proofs.YtgaggbdcedpapaaGreat

namespace Go.Proofs.YtgaggbdcedpapaaGreat
open Go.IntKind (i64)
noncomputable section
open Go Go.Ab
theorem val_eq (x y : LVal) : (x.kind == y.kind && (x.int == y.int && (x.text == y.text && true))) = decide (x = y) := by
 obtain ⟨a,b,c⟩ := x
 obtain ⟨a',b',c'⟩ := y
 by_cases h : (⟨a,b,c⟩ : LVal) = ⟨a',b',c'⟩
 ·rw [zt h]; cases h; simp
 ·rw [zf h]
  by_cases h1 : a = a'
  ·by_cases h2 : b = b'
   ·have h3 : c ≠ c' := fun h3=>h (by rw [h1,h2,h3])
    have : (c == c') = false := by simpa using h3
    simp [this]
   ·simp [dn h2]
  ·simp [dn h1]
theorem equalRow (x y : Rq) : cY x y = some (decide (x = y)) := by
 unfold cY
 by_cases hl : x.length = y.length
 ·rw [oT,zt hl,Bool.not_true,zd]
  obtain ⟨fl,hfl,hr⟩ := fF (step := fun (j1 : Nat) (x1 : LVal) (_ : Unit)=>aj (aF y (j1 : Int)) fun (x22 : LVal)=>cond (!(x1.kind == x22.kind && (x1.int == x22.int && (x1.text == x22.text && true)))) (some (Flow.ret false)) (some (.next ())))
   (fun j _=>x.take j = y.take j) (fun r=>r = false ∧ x ≠ y) x 0 () (by simp) (fun k v s hk hI=>by
    simp only [Nat.zero_add] at hI ⊢
    have hkl := (zg.1 hk).1
    rw [fO (by omega),bPs,val_eq]
    by_cases hv : v = y[k]
    ·rw [zt hv]
     refine ⟨_,rfl,?_⟩
     simp only
     rw [List.take_add_one,List.take_add_one,hk,ze (by omega),hI,hv]
    ·rw [zf hv]
     refine ⟨_,rfl,rfl,fun he=>hv ?_⟩
     subst he
     exact (zg.1 hk).2.symm)
  rw [hfl,bPs]
  cases fl with
  | brk s=>exact absurd hr (by simp)
  | ret r=>rw [lR,hr.1,zf hr.2]
  | next s =>
   simp only [Nat.zero_add,List.take_length] at hr
   rw [hl,List.take_length] at hr
   rw [ii,zt hr]
 ·rw [oT,zf hl,zf (fun h=>hl (by rw [h]))]
  rfl
theorem idxO (l : Rows) (p : Rq → Bool) (f : Rq → Option Bool) (hf : ∀ x ∈ l,f x = some (p x)) (hl : l.length ≤ 10000000) : cd l f = some (bp p l,l) := by
 unfold cd
 rw [qD (by omega),bPs,Int.toNat_natCast]
 obtain ⟨fl,hfl,hr⟩ := fF (step := fun (j1 : Nat) (_ : Nat) (s1 : Rows)=>aj (aF s1 (j1 : Int)) fun (x14 : Rq)=>aj (f x14) fun x16=>cond x16 (some (Flow.ret ((j1 : Int),s1))) (some (.next s1)))
  (fun j s=>s = l ∧ ∀ x ∈ l.take j,p x = false) (fun r=>r = (bp p l,l)) (List.range l.length) 0 l ⟨rfl,by simp⟩ (fun k v s hk hI=>by
   simp only [Nat.zero_add] at hI ⊢
   have hkl := (zg.1 hk).1
   simp at hkl
   obtain ⟨rfl,hI⟩ := hI
   rw [fO hkl,bPs,hf _ (List.getElem_mem hkl),bPs]
   cases hp : p s[k] with
   | true=>exact ⟨_,rfl,by simp only; rw [nT hkl hI hp]⟩
   | false =>
    refine ⟨_,rfl,rfl,fun x hx=>?_⟩
    rw [List.take_add_one,ze hkl,List.mem_append] at hx
    rcases hx with hx | hx
    ·exact hI x hx
    ·simp at hx
     rw [hx]
     exact hp)
 rw [hfl,bPs]
 cases fl with
 | brk s=>exact absurd hr (by simp)
 | ret r=>rw [lR,hr]
 | next s =>
  simp only [Nat.zero_add,List.length_range,List.take_length] at hr
  rw [ii,hr.1,kf hr.2]
theorem deleteFunc_eq (l : Rows) (p : Rq → Bool) (f : Rq → Option Bool) (hf : ∀ x ∈ l,f x = some (p x)) (hl : l.length ≤ 1000000) : dJ l f = some (l.filter fun x=>!p x) := by
 unfold dJ
 rw [idxO l p f hf (by omega),bPs]
 simp only
 rw [bu trivial,bPs]
 by_cases hneg : bp p l = -1
 ·rw [jW hneg,zc]
  congr 1
  symm
  rw [List.filter_eq_self]
  intro x hx
  have : decide (bp p l ≥ 0) = false := by rw [hneg]; rfl
  rw [iT] at this
  have := List.any_eq_false.1 this x hx
  simpa using this
 ·rw [dn hneg,zd]
  have h0 : 0 ≤ bp p l := by rcases idxOf_neg (p := p) (l := l) with h | h; exact absurd h hneg; exact h
  obtain ⟨i,hi⟩ : ∃ i : Nat,bp p l = i := ⟨(bp p l).toNat,by omega⟩
  have hil : i < l.length := by have := lP h0; omega
  have hpre : (l.take i).filter (fun x=>!p x) = l.take i := by
   rw [List.filter_eq_self]
   intro x hx
   have : l.findIdx? p = some i := by
    unfold bp at hi
    cases hq : l.findIdx? p with
    | none=>rw [hq] at hi; simp at hi
    | some j=>rw [hq] at hi; exact congrArg some (by have hi : (j : Int) = (i : Int) := hi; omega)
   obtain ⟨_,_,hlt⟩ := List.findIdx?_eq_some_iff_getElem.1 this
   obtain ⟨j,hj,rfl⟩ := List.mem_take_iff_getElem.1 hx
   simp [hlt j (by omega)]
  have hpi : p l[i] = true := by
   obtain ⟨x,hx,hp⟩ := mV h0
   rw [hi,Int.toNat_natCast,ze hil] at hx
   cases hx
   exact hp
  rw [hi,bC (n := (i : Int) + 1) (by omega) (by omega)]
  obtain ⟨r,hr,hq⟩ := cy (step := fun (s1 : Rows × Int × Int) =>
   cond (decide (s1.2.2 < (s1.1.length : Int)))
    (aj (aF s1.1 s1.2.2) fun (x24 : Rq)=>aj (f x24) fun x28=>cond (!x28) (aj (aF s1.1 s1.2.1) fun (_ : Rq)=>bo (s1.1.set s1.2.1.toNat x24) fun (y4 : Rows)=>some (.next (y4,(i64.wrap (s1.2.1 + (1 : Int))),(i64.wrap (s1.2.2 + (1 : Int))))))
     (some (.next (s1.1,s1.2.1,(i64.wrap (s1.2.2 + (1 : Int)))))))
    (some (.brk (s1.1,s1.2.1,s1.2.2)))) (s := (l,(i : Int),(i : Int) + 1)) (k := fun (s1 : Rows × Int × Int)=>aj (cutI s1.1 s1.2.1) fun (y5 : Rows)=>aj (cutI y5 s1.2.1) fun (y6 : Rows)=>some y6) (R := fun r=>r = l.filter fun x=>!p x)
   (fun s=>∃ a j : Nat,s.2.1 = a ∧ s.2.2 = j ∧ a < j ∧ j ≤ l.length ∧ s.1.length = l.length ∧ s.1.take a = (l.take j).filter (fun x=>!p x) ∧ s.1.drop j = l.drop j) (fun s=>(l.length - s.2.2).toNat)
   (fun s=>∃ a : Nat,s.2.1 = a ∧ a ≤ s.1.length ∧ s.1.take a = l.filter fun x=>!p x)
   ⟨i,i + 1,rfl,by show (i : Int) + 1 = ((i + 1 : Nat) : Int); omega,by omega,by omega,rfl,by
    show l.take i = _
    rw [List.take_add_one,ze hil,List.filter_append,hpre]
    simp [hpi],rfl⟩
   (fun s hI=>by
    obtain ⟨a,j,h1,h2,h3,h4,h5,h6,h7⟩ := hI
    obtain ⟨d,s1,s2⟩ := s
    simp only at h1 h2 h5 h6 h7 ⊢
    subst h1
    subst h2
    by_cases hlt : j < l.length
    ·rw [zt (show (j : Int) < (d.length : Int) from by omega),zc,fO (by omega),bPs]
     have hdj : d[j]? = l[j]? := by
      have := congrArg (fun q=>q[0]?) h7
      simpa using this
     have hdje : d[j] = l[j] := by
      rw [ze (by omega),ze hlt] at hdj
      exact Option.some.inj hdj
     have hdrop : ∀ e : Rows,e.drop j = l.drop j → e.drop (j + 1) = l.drop (j + 1) := fun e he=>by
      rw [← List.drop_drop,← List.drop_drop,he]
     rw [hdje,hf _ (List.getElem_mem hlt),bPs,bC (n := (j : Int) + 1) (by omega) (by omega),bC (n := (a : Int) + 1) (by omega) (by omega)]
     cases hp : p l[j] with
     | true =>
      refine ⟨_,rfl,⟨a,j + 1,rfl,by show (j : Int) + 1 = ((j + 1 : Nat) : Int); omega,by omega,by omega,h5,?_,hdrop d h7⟩,by show ((l.length : Int) - ((j : Int) + 1)).toNat < ((l.length : Int) - (j : Int)).toNat; omega⟩
      show d.take a = _
      rw [h6,List.take_add_one,ze hlt,List.filter_append]
      simp [hp]
     | false =>
      simp only [Bool.not_false,zc]
      rw [fO (by omega),bPs,bN,Int.toNat_natCast]
      refine ⟨_,rfl,⟨a + 1,j + 1,by show (a : Int) + 1 = ((a + 1 : Nat) : Int); omega,by show (j : Int) + 1 = ((j + 1 : Nat) : Int); omega,by omega,by omega,by show (d.set a l[j]).length = l.length; simp [h5],?_,?_⟩,by show ((l.length : Int) - ((j : Int) + 1)).toNat < ((l.length : Int) - (j : Int)).toNat; omega⟩
      ·show (d.set a l[j]).take (a + 1) = _
       rw [List.take_add_one,List.getElem?_set_self (by omega),List.take_set_of_le (by omega),h6,List.take_add_one,ze hlt,List.filter_append]
       simp [hp]
      ·show (d.set a l[j]).drop (j + 1) = _
       rw [List.drop_set_of_lt (by omega)]
       exact hdrop d h7
    ·rw [zf (show ¬ (j : Int) < (d.length : Int) from by omega)]
     refine ⟨_,rfl,a,rfl,by show a ≤ d.length; omega,?_⟩
     show d.take a = _
     rw [h6,List.take_of_length_le (by omega)])
   (fun s hq=>by
    obtain ⟨a,h1,h2,h3⟩ := hq
    rw [h1]
    unfold cutI
    rw [zp ⟨by omega,by simpa using h2⟩,bPs,Int.toNat_natCast,zp ⟨by omega,by simp; omega⟩,bPs,List.take_take,Nat.min_self]
    exact ⟨_,rfl,h3⟩)
  rw [← hq]
  exact hr
def lj : Rows → Rows → Rows
 | [],_=>[]
 | x :: a,left=>if x ∈ left then lj a (left.erase x) else x :: lj a left
theorem erase_idx {α : Type} [BEq α] [LawfulBEq α] [DecidableEq α] {l : List α} {x : α} {i : Nat} (h : l.findIdx? (fun y=>decide (x = y)) = some i) : l.take i ++ l.drop (i + 1) = l.erase x := by
 induction l generalizing i with
 | nil=>simp at h
 | cons a l ih =>
  rw [List.findIdx?_cons] at h
  by_cases hx : x = a
  ·subst hx; simp at h; subst h; simp
  ·have e : decide (x = a) = false := zf hx
   rw [e] at h
   simp only [Bool.false_eq_true,if_false,Option.map_eq_some_iff] at h
   obtain ⟨j,hj,rfl⟩ := h
   have hne : (a == x) = false := by simp; exact fun h=>hx h.symm
   rw [List.erase_cons,hne]
   simp [ih hj]
theorem less_run : ∀ (a : Rows) (j : Nat) (left out : Rows),left.length ≤ 1000000 → out.length + a.length ≤ 1000000 →
  ba (σ := Rows × Rows) (ρ := Empty) (fun (_ : Nat) (x1 : Rq) (s1 : Rows × Rows) =>
  aj (cd s1.1 (fun a0=>iW a0 x1)) fun x20 =>
  aj (cF (x20.2.length = s1.1.length) ()) fun (_ : Unit) =>
  cond (decide (x20.1 ≥ (0 : Int)))
   (aj (delI x20.2 x20.1 (i64.wrap (x20.1 + (1 : Int)))) fun x27 =>
   some (.next (x27,s1.2)))
   (aj (ee 24 s1.2 ([x1] : Rz)) fun (x31 : Rz) =>
   some (.next (x20.2,x31)))) j a (left,out) = some (.next ((a.foldl (fun l x=>l.erase x) left),out ++ lj a left))
 | [],j,left,out,_,_=>by simp [ba,lj]
 | x :: a,j,left,out,hl,ho=>by
  rw [ba,idxO left (fun y=>decide (x = y)) _ (fun y _=>by unfold iW; rw [equalRow]; rfl) (by omega),bPs]
  simp only
  rw [bu trivial,bPs,lj,List.foldl_cons]
  by_cases hx : x ∈ left
  ·have hany : decide (bp (fun y=>decide (x = y)) left ≥ 0) = true := by rw [iT,List.any_eq_true]; exact ⟨x,hx,by simp⟩
   rw [hany,zc,zp hx]
   have h0 := of_decide_eq_true hany
   unfold bp at h0 ⊢
   cases hq : left.findIdx? (fun y=>decide (x = y)) with
   | none=>rw [hq] at h0; simp at h0
   | some i =>
    have hil := (List.findIdx?_eq_some_iff_getElem.1 hq).1
    simp only
    rw [bC (by omega) (by omega)]
    have hd : delI left (i : Int) ((i : Int) + 1) = some (left.erase x) := by
     unfold delI
     rw [zp ⟨by omega,by omega,by omega⟩,show ((i : Int)).toNat = i from rfl,show ((i : Int) + 1).toNat = i + 1 from by omega,erase_idx hq]
    rw [hd,bPs]
    exact less_run a (j + 1) (left.erase x) out (by have := List.length_erase_le (a := x) (l := left); omega) (by simp at ho; omega)
  ·have hany : decide (bp (fun y=>decide (x = y)) left ≥ 0) = false := by
    rw [iT,List.any_eq_false]
    intro y hy he
    have : x = y := by simpa using he
    exact hx (this ▸ hy)
   rw [hany,zd,zy hx,cR (by decide) (by simp at ho ⊢; omega),bPs]
   simp only
   rw [less_run a (j + 1) left _ hl (by simp at ho ⊢; omega),List.erase_of_not_mem hx]
   simp
theorem less_eq (a b : Rows) (ha : a.length ≤ 1000000) (hb : b.length ≤ 1000000) : kL a b = some (lj a b) := by
 unfold kL
 rw [less_run a 0 b [] hb (by simpa using ha),bPs,ci]
 rfl
theorem qw : ∀ (a b : Rows),(lj a b).Sublist a
 | [],_=>by simp [lj]
 | x :: a,b=>by
  rw [lj]
  split
  ·exact (qw a _).cons x
  ·exact (qw a b).cons_cons x
theorem concat2 (x y : Rq) (hx : x.length ≤ 1000000) (hy : y.length ≤ 1000000) : ct [x,y] = some (x ++ y) := by
 unfold ct
 simp only [ba,Int.zero_add]
 rw [bC (n := (x.length : Int)) (by omega) (by omega),zf (show ¬ (x.length : Int) < 0 from by omega)]
 simp only [zd]
 rw [bC (n := (x.length : Int) + (y.length : Int)) (by omega) (by omega),zf (show ¬ (x.length : Int) + (y.length : Int) < 0 from by omega)]
 simp only [zd,bPs,ci]
 rw [growI_ok ⟨by omega,by omega,by unfold maxLen; omega⟩,bPs,cR (by decide) (by simp; omega),bPs]
 simp only [List.nil_append]
 rw [cR (by decide) (by omega)]
 rfl
def hZ (f : Rq → Bool) (x : Rq) (b : Rows) : Rows := (b.map fun y=>x ++ y).filter f
def padR (f : Rq → Bool) (left : Bool) (pad x : Rq) (b : Rows) : Rows := if left = true ∧ hZ f x b = [] then [x ++ pad] else hZ f x b
def ke (f : Rq → Bool) (left : Bool) (pad : Rq) (a b : Rows) : Rows := (a.map fun x=>padR f left pad x b).flatten
theorem match_run (f : Rq → Bool) (e : LExpr) (r : LRun) (cols : List LCol) (ex : List LExpr) (he : aF ex 0 = some e) (hf : ∀ z,kV (dg (bE r cols z) e) = f z) (x : Rq) (hx : x.length ≤ 1000)
  (b : Rows) (out : Rows) (found : Bool) (hb : ∀ y ∈ b,y.length ≤ 1000) (ho : out.length + b.length ≤ 1000000) :
  ba (σ := Rows × Bool) (ρ := Empty) (fun (_ : Nat) (x6 : Rq) (s6 : Rows × Bool) =>
   aj (ct ([x,x6] : Rows)) fun x58 =>
   aj (aF ex 0) fun (x65 : LExpr) =>
   bo (bE r cols x58) fun x62 =>
   bo (dg x62 x65) fun x67 =>
   bo (kV x67) fun x68 =>
   cond x68
    (aj (ee 24 s6.1 ([x58] : Rows)) fun (x72 : Rows)=>some (.next (x72,true)))
    (some (.next (s6.1,s6.2)))) 0 b (out,found) = some (.next (out ++ hZ f x b,found || !(hZ f x b).isEmpty)) := by
 rw [rMa (xs := b) (s := (out,found)) (fun k=>(out ++ hZ f x (b.take k),found || !(hZ f x (b.take k)).isEmpty)) (by simp [hZ]) (fun k y hk=>by
  have hkl := (zg.1 hk).1
  have hm : (hZ f x (b.take k)).length ≤ k := by unfold hZ; exact Nat.le_trans (List.length_filter_le _ _) (by simp; omega)
  have hs : hZ f x (b.take (k + 1)) = hZ f x (b.take k) ++ if f (x ++ y) then [x ++ y] else [] := by
   unfold hZ
   rw [List.take_add_one,hk,List.map_append,List.filter_append]
   cases h : f (x ++ y) <;> simp [h]
  rw [concat2 x y (by omega) (by have := hb y (gK hk); omega),bPs,he,bPs,hs]
  simp only [bN,hf]
  cases hz : f (x ++ y) with
  | true =>
   rw [zc,cR (by decide) (by simp; omega),bPs]
   simp
  | false=>simp),List.take_length]
theorem padR_len (f : Rq → Bool) (left : Bool) (pad x : Rq) (b : Rows) : (padR f left pad x b).length ≤ max 1 b.length := by
 unfold padR
 split
 ·simp; omega
 ·have : (hZ f x b).length ≤ b.length := by
   unfold hZ
   exact Nat.le_trans (List.length_filter_le _ _) (by simp)
  omega
theorem qG (f : Rq → Bool) (left : Bool) (pad : Rq) (a b : Rows) : (ke f left pad a b).length ≤ a.length * max 1 b.length := by
 unfold ke
 induction a with
 | nil=>simp
 | cons x a ih =>
  have := padR_len f left pad x b
  simp only [List.map_cons,List.flatten_cons,List.length_append,List.length_cons,Nat.add_mul,Nat.one_mul]
  omega
def fq (key : Rq → Rq) : Rows → Rows → Rows
 | ks,[]=>ks
 | ks,x :: l=>fq key (if key x ∈ ks then ks else ks ++ [key x]) l
theorem keysF_app (key : Rq → Rq) : ∀ (l l' ks : Rows),fq key ks (l ++ l') = fq key (fq key ks l) l'
 | [],_,_=>rfl
 | x :: l,l',ks=>by rw [List.cons_append,fq,keysF_app key l l',fq]
theorem rG (key : Rq → Rq) : ∀ (l ks : Rows),ks.Nodup → (fq key ks l).Nodup
 | [],_,h=>h
 | x :: l,ks,h=>by
  rw [fq]
  refine rG key l _ ?_
  split
  ·exact h
  ·rename_i hx
   rw [List.nodup_append]
   exact ⟨h,by simp,fun a ha b hb hab=>by simp at hb; exact hx (hb ▸ hab ▸ ha)⟩
theorem oV (key : Rq → Rq) : ∀ (l ks : Rows) (k : Rq),k ∈ fq key ks l ↔ k ∈ ks ∨ ∃ x ∈ l,key x = k
 | [],ks,k=>by simp [fq]
 | x :: l,ks,k=>by
  rw [fq,oV key l]
  split
  ·rename_i h
   constructor
   ·rintro (h1 | ⟨y,hy,e⟩)
    ·exact .inl h1
    ·exact .inr ⟨y,by simp [hy],e⟩
   ·rintro (h1 | ⟨y,hy,e⟩)
    ·exact .inl h1
    ·rcases List.mem_cons.1 hy with rfl | hy
     ·exact .inl (e ▸ h)
     ·exact .inr ⟨y,hy,e⟩
  ·constructor
   ·rintro (h1 | ⟨y,hy,e⟩)
    ·rcases List.mem_append.1 h1 with h1 | h1
     ·exact .inl h1
     ·exact .inr ⟨x,by simp,by simp at h1; exact h1.symm⟩
    ·exact .inr ⟨y,by simp [hy],e⟩
   ·rintro (h1 | ⟨y,hy,e⟩)
    ·exact .inl (by simp [h1])
    ·rcases List.mem_cons.1 hy with rfl | hy
     ·exact .inl (by simp [e])
     ·exact .inr ⟨y,hy,e⟩
theorem oK (key : Rq → Rq) : ∀ (l ks : Rows),(fq key ks l).length ≤ ks.length + l.length
 | [],_=>by simp [fq]
 | x :: l,ks=>by
  rw [fq]
  have := oK key l (if key x ∈ ks then ks else ks ++ [key x])
  split at this
  ·rename_i h; rw [zp h]; simp; omega
  ·rename_i h; rw [zy h]; simp at this ⊢; omega
def fD (key : Rq → Rq) (l : Rows) (k : Rq) : Rows := l.filter fun x=>decide (key x = k)
theorem group_run (key : Rq → Rq) (q : LQuery) (r : LRun) (cols : List LCol) (hk : ∀ x,dU r cols x q.exprs = some (key x)) (ks0 : Rows) (hn : ks0.Nodup) (l : Rows) (hl : l.length ≤ 1000000) (hks : ks0.length ≤ 1) :
  ba (σ := Rows × List Rows) (ρ := Empty) (fun (_ : Nat) (x2 : Rq) (s2 : Rows × List Rows) =>
  aj (dU r cols x2 q.exprs) fun x38 =>
  aj (cd s2.1 (fun a0=>gp a0 x38)) fun x41 =>
  aj (cF (x41.2.length = s2.1.length) ()) fun (_ : Unit) =>
  aj (
   cond (decide (x41.1 < (0 : Int)))
    (aj (ee 24 x41.2 ([x38] : Rows)) fun (x49 : Rows) =>
    aj (ee 24 s2.2 ([[]] : List Rows)) fun (x52 : List Rows) =>
    some (x49,x52,(x41.2.length : Int)))
    (some (x41.2,s2.2,x41.1))) fun (t7 : Rows × List Rows × Int) =>
  aj (aF t7.2.1 t7.2.2) fun (x57 : Rows) =>
  aj (ee 24 x57 ([x2] : Rows)) fun (x61 : Rows) =>
  aj (aF t7.2.1 t7.2.2) fun (_ : Rows) =>
  bo (t7.2.1.set t7.2.2.toNat x61) fun (y8 : List Rows) =>
  some (.next (t7.1,y8))) 0 l (ks0,ks0.map fun _=>[]) = some (.next (fq key ks0 l,(fq key ks0 l).map (fD key l))) := by
 rw [rMa (xs := l) (s := (ks0,ks0.map fun _=>[])) (fun k=>(fq key ks0 (l.take k),(fq key ks0 (l.take k)).map (fD key (l.take k)))) (by
  show (ks0,ks0.map (fD key [])) = _
  congr 1) (fun k x hkx=>by
   have hkl := (zg.1 hkx).1
   have hlen := oK key (l.take k) ks0
   have hlen2 : (fq key ks0 (l.take k)).length ≤ 1 + k := by simp at hlen; omega
   have hnd := rG key (l.take k) ks0 hn
   have hmem : ∀ y ∈ l.take k,key y ∈ fq key ks0 (l.take k) := fun y hy=>(oV key _ _ _).2 (.inr ⟨y,hy,rfl⟩)
   have hsucc : l.take (k + 1) = l.take k ++ [x] := by rw [List.take_add_one,hkx]; rfl
   rw [hsucc,keysF_app]
   generalize hK : fq key ks0 (l.take k) = K at *
   have hgl : ∀ kk,(fD key (l.take k) kk).length ≤ k := fun kk=>by
    unfold fD
    exact Nat.le_trans (List.length_filter_le _ _) (by simp; omega)
   rw [hk x,bPs,idxO K (fun y=>decide (key x = y)) _ (fun y _=>by unfold gp; rw [equalRow]; rfl) (by omega),bPs]
   simp only
   rw [bu trivial,bPs]
   have hg : ∀ kk,fD key (l.take k ++ [x]) kk = fD key (l.take k) kk ++ if key x = kk then [x] else [] := fun kk=>by
    unfold fD
    rw [List.filter_append]
    congr 1
    by_cases h : key x = kk <;> simp [h]
   by_cases hx : key x ∈ K
   ·have hany : decide (bp (fun y=>decide (key x = y)) K < 0) = false := by
     have : decide (bp (fun y=>decide (key x = y)) K ≥ 0) = true := by rw [iT,List.any_eq_true]; exact ⟨_,hx,by simp⟩
     have := of_decide_eq_true this
     exact zf (by omega)
    have h0 : 0 ≤ bp (fun y=>decide (key x = y)) K := by have := of_decide_eq_false hany; omega
    obtain ⟨i,hi⟩ : ∃ i : Nat,bp (fun y=>decide (key x = y)) K = i := ⟨(bp (fun y=>decide (key x = y)) K).toNat,by omega⟩
    obtain ⟨z,hz,hzk⟩ := mV h0
    rw [hi,Int.toNat_natCast] at hz
    have hzk : key x = z := by simpa using hzk
    subst hzk
    have hiK := (zg.1 hz).1
    rw [hany,zd,bPs,hi]
    simp only
    have hgi : (K.map (fD key (l.take k)))[i]? = some (fD key (l.take k) (key x)) := by rw [List.getElem?_map,hz]; rfl
    rw [kI hgi,bPs,cR (by decide) (by have := hgl (key x); simp; omega),bPs,bPs,bN,Int.toNat_natCast]
    congr 3
    ·simp [fq,hx]
    ·have hkk : fq key K [x] = K := by simp [fq,hx]
     rw [hkk]
     apply List.ext_getElem?
     intro j
     rw [List.getElem?_set,List.getElem?_map]
     by_cases hij : i = j
     ·subst hij
      rw [zp rfl,zp (by simpa using hiK),List.getElem?_map,hz,Option.map_some,hg,zp rfl]
     ·rw [zy hij,List.getElem?_map]
      cases hj : K[j]? with
      | none=>rfl
      | some w =>
       simp only [Option.map_some]
       have hne : key x ≠ w := fun he=>by
        subst he
        have hjK := (zg.1 hj).1
        rw [List.nodup_iff_pairwise_ne,List.pairwise_iff_getElem] at hnd
        have e1 := (zg.1 hz).2
        have e2 := (zg.1 hj).2
        rcases Nat.lt_or_gt_of_ne hij with h | h
        ·exact hnd i j hiK hjK h (by rw [e1,e2])
        ·exact hnd j i hjK hiK h (by rw [e1,e2])
       rw [hg,zy hne,List.append_nil]
   ·have hany : decide (bp (fun y=>decide (key x = y)) K < 0) = true := by
     have : decide (bp (fun y=>decide (key x = y)) K ≥ 0) = false := by
      rw [iT,List.any_eq_false]
      intro y hy he
      have : key x = y := by simpa using he
      exact hx (this ▸ hy)
     have := of_decide_eq_false this
     exact zt (by omega)
    rw [hany,zc,cR (by decide) (by simp; omega),bPs,cR (by decide) (by simp; omega),bPs,bPs]
    simp only
    have hgi : (K.map (fD key (l.take k)) ++ [[]])[K.length]? = some [] := by
     rw [List.getElem?_append_right (by simp),zl,Nat.sub_self]; rfl
    rw [kI hgi,bPs,cR (by decide) (by simp),bPs,bPs,bN,Int.toNat_natCast]
    have hkk : fq key K [x] = K ++ [key x] := by simp [fq,hx]
    rw [hkk]
    congr 3
    have hold : fD key (l.take k) (key x) = [] := by
     unfold fD
     rw [List.filter_eq_nil_iff]
     intro y hy he
     have : key y = key x := by simpa using he
     exact hx (this ▸ hmem y hy)
    rw [List.map_append,List.set_append_right _ _ (by simp),zl,Nat.sub_self]
    congr 1
    ·apply List.map_congr_left
     intro w hw
     have hne : key x ≠ w := fun he=>hx (he ▸ hw)
     rw [hg,zy hne,List.append_nil]
    ·simp [hg,hold])]
 rw [List.take_length]
def kO (op : List UInt8) (s : Int × LVal) (v : LVal) : Int × LVal := (i64.wrap (s.1 + v.int),if (op = sMin ∧ er v s.2 = true) ∨ (op = sMax ∧ er s.2 v = true) then v else s.2)
def pK (op : List UInt8) (l : Rq) : LVal :=
 if op = hX then fZ l.length else match l with
  | []=>.nul
  | v :: _=>if op = sSum then fZ (l.foldl (kO op) (0,v)).1 else (l.foldl (kO op) (0,v)).2
theorem compute_eq (op : List UInt8) (l : Rq) : fT op l = some (pK op l) := by
 unfold fT pK
 by_cases h1 : op = hX
 ·subst h1; rfl
 ·have e1 : (op == ([99,111,117,110,116] : List UInt8)) = false := by simpa using h1
  rw [e1,zd,zy h1]
  cases l with
  | nil=>rfl
  | cons v l =>
   have e2 : (((v :: l).length : Int) == 0) = false := dn (by simp; omega)
   rw [e2,zd]
   have e3 : aF (v :: l) 0 = some v := rfl
   rw [e3,bPs]
   rw [mN (xs := v :: l) (kO op) (fun k x _=>by
    generalize (((v :: l).take k).foldl (kO op) (0,v)) = s
    unfold kO
    by_cases m : op = sMin
    ·subst m
     simp only [bN]
     cases er x s.2 <;> simp
    ·have em : (op == ([109,105,110] : List UInt8)) = false := by simpa using m
     rw [em,zd]
     by_cases n : op = sMax
     ·subst n
      simp only [bN]
      cases er s.2 x <;> simp
     ·have en : (op == ([109,97,120] : List UInt8)) = false := by simpa using n
      rw [en,zd]
      simp [m,n]),bPs,ci]
   by_cases h2 : op = sSum
   ·subst h2; rfl
   ·have e4 : (op == ([115,117,109] : List UInt8)) = false := by simpa using h2
    rw [e4,zd]
    simp only
    rw [zy h2]
def aggR (r : LRun) (cols : List LCol) (a : LAggregateCall) (l : Rows) : LVal := match a.args with
 | []=>fZ l.length
 | e :: _=>pK a.function ((l.map fun x=>dg (bE r cols x) e).filter fun v=>v.kind != 0)
theorem aggR_eq (r : LRun) (cols : List LCol) (a : LAggregateCall) (l : Rows) (hl : l.length ≤ 1000000) : jB r a cols l = some (aggR r cols a l) := by
 unfold jB aggR
 cases ha : a.args with
 | nil=>rfl
 | cons e es =>
  have e2 : (((e :: es).length : Int) == 0) = false := dn (by simp; omega)
  rw [e2,zd]
  rw [rMa (xs := l) (s := []) (fun k=>((l.take k).map fun x=>dg (bE r cols x) e).filter fun v=>v.kind != 0) rfl (fun k x hk=>by
   have hkl := (zg.1 hk).1
   have e3 : aF (e :: es) 0 = some e := rfl
   rw [e3]
   simp only [bPs,bN]
   have hb : (((l.take k).map fun x=>dg (bE r cols x) e).filter fun v=>v.kind != 0).length ≤ k := Nat.le_trans (List.length_filter_le _ _) (by simp; omega)
   rw [List.take_add_one,hk,List.map_append,List.filter_append]
   cases hv : (dg (bE r cols x) e).kind != 0 with
   | true =>
    rw [zc,cR (by decide) (by simp at hb ⊢; omega),bPs]
    simp [hv]
   | false=>simp [hv]),bPs,ci,List.take_length,compute_eq]
  rfl
def ng (r : LRun) (cols : List LCol) (q : LQuery) (l : Rows) : Rows :=
 (fq (fun x=>q.exprs.map fun e=>dg (bE r cols x) e) (if q.exprs = [] then [[]] else []) l).map fun k =>
  k ++ q.aggregates.map fun a=>aggR r cols a (fD (fun x=>q.exprs.map fun e=>dg (bE r cols x) e) l k)
theorem group_eq (r : LRun) (cols : List LCol) (q : LQuery) (l : Rows) (hl : l.length ≤ 999999) (he : q.exprs.length ≤ 1000000) (ha : q.aggregates.length ≤ 1000000) : iH r q cols l = some (ng r cols q l) := by
 unfold iH ng
 generalize hkey : (fun x=>q.exprs.map fun e=>dg (bE r cols x) e) = key
 have hk : ∀ x,dU r cols x q.exprs = some (key x) := fun x=>by rw [mD r cols x q.exprs (by omega),← hkey]
 have hinit : (cond ((q.exprs.length : Int) == (0 : Int)) (([[]],[[]])) (([],[])) : Rows × List Rows) = ((if q.exprs = [] then [[]] else []),((if q.exprs = [] then [[]] else []) : Rows).map fun _=>[]) := by
  cases q.exprs with
  | nil=>rfl
  | cons e es=>rw [show (((e :: es).length : Int) == 0) = false from dn (by simp; omega)]; rfl
 rw [bN,hinit]
 generalize hks : (if q.exprs = [] then [[]] else [] : Rows) = ks0
 have hks1 : ks0.length ≤ 1 := by rw [← hks]; split <;> simp
 have hks2 : ks0.Nodup := by rw [← hks]; split <;> simp
 rw [group_run key q r cols hk ks0 hks2 l (by omega) hks1,bPs,ci]
 generalize hK : fq key ks0 l = K
 have hKl : K.length ≤ 1000000 := by rw [← hK]; have := oK key l ks0; omega
 simp only
 rw [bu (by rw [zl]; omega),bPs,qD (by omega),bPs,Int.toNat_natCast]
 have hgl : ∀ kk,(fD key l kk).length ≤ 1000000 := fun kk=>by
  unfold fD
  exact Nat.le_trans (List.length_filter_le _ _) (by omega)
 have hkl : ∀ k ∈ K,k.length ≤ 1000000 := fun k hkm=>by
  rw [← hK] at hkm
  rcases (oV key l ks0 k).1 hkm with h | ⟨x,_,rfl⟩
  ·rw [← hks] at h
   split at h
   ·simp at h; subst h; simp
   ·simp at h
  ·rw [← hkey]; simpa using he
 rw [rMa (xs := List.range K.length) (s := []) (fun j=>(K.take j).map fun k=>k ++ q.aggregates.map fun a=>aggR r cols a (fD key l k)) rfl (fun j n hj=>by
  obtain ⟨hjl,hjn⟩ := zg.1 hj
  simp at hjl
  rw [fO hjl,bPs]
  have hg : (K.map (fD key l))[j]? = some (fD key l K[j]) := by rw [List.getElem?_map,ze hjl]; rfl
  rw [rMa (xs := q.aggregates) (s := K[j]) (fun i=>K[j] ++ (q.aggregates.take i).map fun a=>aggR r cols a (fD key l K[j])) (by simp) (fun i a hi=>by
   have hil := (zg.1 hi).1
   have hkj := hkl K[j] (List.getElem_mem hjl)
   rw [kI hg,bPs,aggR_eq r cols a _ (hgl _),bPs,cR (by decide) (by simp; omega),bPs,List.take_add_one,hi]
   simp),bPs,ci,cR (by decide) (by simp; omega),bPs,List.take_length]
  congr 2
  rw [List.take_add_one,ze hjl,List.map_append]
  rfl),bPs,ci]
 simp
def kC (x : LVal) : LVal := if eW x = true then x else .nul
theorem typed_args {cols vars : List LCol} {e : LExpr} (h : (dM cols vars e).2.2 = 0) : e.kind = 5 ∧ (∀ a ∈ e.args,(dM cols vars a).2.2 = 0) ∨ e.kind ≠ 5 ∧ e.args = [] := by
 rw [nZ] at h
 by_cases c0 : e.kind ≠ 5 ∧ 0 < e.args.length
 ·rw [zp c0] at h; simp [gC] at h
 rw [zy c0] at h
 by_cases c5 : e.kind = 5
 ·refine .inl ⟨c5,fun a ha=>?_⟩
  simp only [c5] at h
  have h' : (jp e.name e.index e.value (e.args.map (dM cols vars))).2.2 = 0 := by simpa using h
  unfold jp at h'
  split at h'
  ·simp [gC] at h'
  ·split at h'
   ·rename_i r hf
    have := List.find?_some hf
    simp [gC] at h'
    simp [h'] at this
   ·rename_i hf
    have := List.find?_eq_none.1 hf (dM cols vars a) (List.mem_map.2 ⟨a,ha,rfl⟩)
    simpa using this
 ·refine .inr ⟨c5,?_⟩
  rw [← List.length_eq_zero_iff]
  omega
theorem eval_clean {cols vars : List LCol} {v : LEnv} : ∀ e : LExpr,(dM cols vars e).2.2 = 0 → (∀ i k,(i,k) ∈ de e → ∀ x,v.params[i]? = some x → eW x = true) → dg v e = dg { v with params := v.params.map kC } e := by
 refine LExpr.ind fun e ih h hp=>?_
 have hsub : ∀ a ∈ e.args,∀ i k,(i,k) ∈ de a → (i,k) ∈ de e := fun a ha i k hm=>by
  rw [lT]
  exact List.mem_append_right _ (List.mem_flatten.2 ⟨_,List.mem_map.2 ⟨a,ha,rfl⟩,hm⟩)
 rw [nV,nV { v with params := v.params.map kC }]
 by_cases k1 : (e.kind == 1) = true
 ·simp [k1]
 by_cases k2 : (e.kind == 2) = true
 ·simp [k1,k2]
 by_cases k3 : (e.kind == 3) = true
 ·rw [zy k1,zy k2,zp k3,zy k1,zy k2,zp k3]
  have hk3 : e.kind = 3 := by simpa using k3
  have hta := typed_args h
  have hr : ¬ (e.index < 0 ∨ e.index ≥ 8) := by
   intro hbad
   rw [nZ,zy (by intro hc; rcases hta with ⟨a,_⟩ | ⟨_,b⟩; exact hc.1 a; rw [b] at hc; simp at hc),zy k1,zp k3,zp (by rcases hbad with hb | hb; exact .inl hb; exact .inr (.inl hb))] at h
   simp [gC] at h
  have hm : (e.index.toNat,e.value.kind) ∈ de e := by
   rw [lT]
   refine List.mem_append_left _ ?_
   unfold iS
   rw [zp ⟨hk3,by omega,by omega⟩]
   simp
  have hget : ∀ i : Nat,i < v.params.length → i = e.index.toNat → (v.params.map kC).getD i .nul = v.params.getD i .nul := fun i hi he=>by
   rw [List.getD_eq_getElem?_getD,List.getD_eq_getElem?_getD,List.getElem?_map,ze hi]
   simp only [Option.map_some,Option.getD_some]
   unfold kC
   rw [zp (hp _ _ hm v.params[i] (by rw [← he]; exact ze hi))]
  by_cases hlt : e.index.toNat < v.params.length
  ·show _ = if 0 ≤ e.index ∧ e.index < ((v.params.map kC).length : Nat) ∧ ((v.params.map kC).getD e.index.toNat .nul).kind = e.value.kind then (v.params.map kC).getD e.index.toNat .nul else .nul
   rw [hget _ hlt rfl,zl]
  ·have : ¬ (0 ≤ e.index ∧ e.index < (v.params.length : Int)) := by omega
   show _ = if 0 ≤ e.index ∧ e.index < ((v.params.map kC).length : Nat) ∧ ((v.params.map kC).getD e.index.toNat .nul).kind = e.value.kind then (v.params.map kC).getD e.index.toNat .nul else .nul
   rw [zl,zy (fun hc=>this ⟨hc.1,hc.2.1⟩),zy (fun hc=>this ⟨hc.1,hc.2.1⟩)]
 by_cases k4 : (e.kind == 4) = true
 ·simp [k1,k2,k3,k4]
 by_cases k5 : (e.kind == 5) = true
 ·rw [zy k1,zy k2,zy k3,zy k4,zp k5,zy k1,zy k2,zy k3,zy k4,zp k5]
  rcases typed_args h with ⟨_,ha⟩ | ⟨hn,_⟩
  ·congr 1
   apply List.map_congr_left
   intro a hm
   exact ih a hm (ha a hm) fun i k hik=>hp i k (hsub a hm i k hik)
  ·exact absurd (by simpa using k5) hn
 ·simp [k1,k2,k3,k4,k5]
structure RunOk (r : LRun) : Prop where
 vars : r.vars = []
 names : r.names = []
 vals : r.vals = []
 inst : InstOk r.s r.st
def mw (r : LRun) (l : List (Nat × Int)) : Prop := ∀ i k,(i,k) ∈ l → ∀ x,r.args[i]? = some x → eW x = true
theorem qQ {r : LRun} (hr : RunOk r) {cols : List LCol} {row : Rq} (hrow : fe cols row) {e : LExpr} (ht : (dk cols r.vars e).2.2 = 0) (hp : mw r (de e)) :
  fP (dg (bE r cols row) e) (dk cols r.vars e).1 (dk cols r.vars e).2.1 := by
 have hk : (dM cols r.vars e).2.2 = 0 := by
  unfold dk at ht
  split at ht
  ·simp [gC] at ht
  ·exact ht
 rw [eval_clean (cols := cols) (vars := r.vars) e hk (fun i k hm x hx=>hp i k hm x hx)]
 refine type_sound (cols := cols) (vars := r.vars) ⟨rfl,hrow.1,hrow.2,?_,?_,?_,?_⟩ e ht
 ·intro x hx
  obtain ⟨y,_,rfl⟩ := List.mem_map.1 hx
  unfold kC
  split
  ·assumption
  ·rfl
 ·show r.names = _; rw [hr.names,hr.vars]; rfl
 ·show r.vals.length = _; rw [hr.vals,hr.vars]; rfl
 ·intro i c x hc; rw [hr.vars] at hc; simp at hc
theorem ms {c : LChecker} {q : LQuery} (h : (dW c q).2 = 0) : ld q = true ∧ (∀ x ∈ q.inputs,(dW c x).2 = 0) ∧ (iv c q (q.inputs.map fun x=>(dW c x).1)).2 = 0 ∧ (dW c q).1 = (iv c q (q.inputs.map fun x=>(dW c x).1)).1 ∧ ((dW c q).1.map LCol.name).Nodup := by
 rw [pX] at h ⊢
 unfold od at h ⊢
 by_cases h1 : ld q = false
 ·simp [h1] at h
 rw [zy h1] at h ⊢
 by_cases h2 : (dY (q.inputs.map (dW c))).2 = 0
 ·obtain ⟨a,b⟩ := pL h2
  have e : (q.inputs.map (dW c)).map (·.1) = q.inputs.map fun x=>(dW c x).1 := by rw [List.map_map]; rfl
  rw [e] at b
  rw [b] at h ⊢
  rw [zy (by simpa using h2)] at h ⊢
  by_cases h3 : (iv c q (q.inputs.map fun x=>(dW c x).1)).2 = 0
  ·rw [zy (by simpa using h3)] at h ⊢
   by_cases h4 : 20 < (iv c q (q.inputs.map fun x=>(dW c x).1)).1.length
   ·rw [zp h4] at h; simp at h
   ·rw [zy h4] at h ⊢
    by_cases h5 : ((iv c q (q.inputs.map fun x=>(dW c x).1)).1.map LCol.name).Nodup
    ·rw [zp h5] at h ⊢
     exact ⟨by simpa using h1,fun x hx=>a _ (List.mem_map.2 ⟨x,hx,rfl⟩),h3,rfl,h5⟩
    ·rw [zy h5] at h; simp at h
  ·rw [zp h3] at h; exact absurd h h3
 ·rw [zp h2] at h; exact absurd h h2
theorem mF (vars cols : List LCol) : ∀ (es : List LExpr) (ns : List (List UInt8)),es.length = ns.length → (cX vars cols es ns).2 = 0 →
  (cX vars cols es ns).1.length = es.length ∧ ∀ (i : Nat) (e : LExpr),es[i]? = some e → (dk cols vars e).2.2 = 0 ∧ ∃ c,(cX vars cols es ns).1[i]? = some c ∧ c.kind = (dk cols vars e).1 ∧ c.nullable = (dk cols vars e).2.1
 | [],ns,_,_=>by simp [cX]
 | e :: es,[],h,_=>by simp at h
 | e :: es,n :: ns,hl,h=>by
  simp only [cX] at h ⊢
  by_cases h1 : dR n = false
  ·simp [h1] at h
  rw [zy h1] at h ⊢
  by_cases h2 : (dk cols vars e).2.2 = 0
  ·rw [zy (by simpa using h2)] at h ⊢
   by_cases h3 : (dk cols vars e).1 = 0
   ·rw [zp h3] at h; simp at h
   ·rw [zy h3] at h ⊢
    by_cases h4 : (cX vars cols es ns).2 = 0
    ·rw [zy (by simpa using h4)]
     obtain ⟨a,b⟩ := mF vars cols es ns (by simpa using hl) h4
     refine ⟨by simp [a],fun i e' hi=>?_⟩
     cases i with
     | zero=>simp at hi; subst hi; exact ⟨h2,_,rfl,rfl,rfl⟩
     | succ i=>simpa using b i e' (by simpa using hi)
    ·rw [zp h4] at h; exact absurd h h4
  ·rw [zp h2] at h; exact absurd h h2
theorem qi (vars cols : List LCol) : ∀ l : List LAggregateCall,(ek vars cols l).2 = 0 →
  (ek vars cols l).1.length = l.length ∧ ∀ (i : Nat) (a : LAggregateCall),l[i]? = some a → (nq vars cols a).2 = 0 ∧ ∃ c,(ek vars cols l).1[i]? = some c ∧ c.kind = (nq vars cols a).1 ∧ c.nullable = !(a.function == hX)
 | [],_=>by simp [ek]
 | a :: l,h=>by
  simp only [ek] at h ⊢
  by_cases h1 : (nq vars cols a).2 = 0
  ·rw [zy (by simpa using h1)] at h ⊢
   by_cases h2 : (ek vars cols l).2 = 0
   ·rw [zy (by simpa using h2)]
    obtain ⟨x,y⟩ := qi vars cols l h2
    refine ⟨by simp [x],fun i b hi=>?_⟩
    cases i with
    | zero=>simp at hi; subst hi; exact ⟨h1,_,rfl,rfl,rfl⟩
    | succ i=>simpa using y i b (by simpa using hi)
   ·rw [zp h2] at h; exact absurd h h2
  ·rw [zp h1] at h; exact absurd h h1
theorem fe.append {a b : List LCol} {x y : Rq} (h : fe a x) (h' : fe b y) : fe (a ++ b) (x ++ y) := by
 refine ⟨by simp [h.1,h'.1],fun i c v hc hv=>?_⟩
 by_cases hi : i < a.length
 ·rw [List.getElem?_append_left hi] at hc
  rw [List.getElem?_append_left (by rw [h.1]; exact hi)] at hv
  exact h.2 i c v hc hv
 ·rw [List.getElem?_append_right (by omega)] at hc
  rw [List.getElem?_append_right (by rw [h.1]; omega),h.1] at hv
  exact h'.2 _ c v hc hv
theorem fe.map {cols : List LCol} {es : List LExpr} {f : LExpr → LVal} (hl : cols.length = es.length) (h : ∀ (i : Nat) (e : LExpr) (c : LCol),es[i]? = some e → cols[i]? = some c → fP (f e) c.kind c.nullable) : fe cols (es.map f) := by
 refine ⟨by simp [hl],fun i c x hc hx=>?_⟩
 rw [List.getElem?_map,Option.map_eq_some_iff] at hx
 obtain ⟨e,he,rfl⟩ := hx
 exact h i e c he hc
theorem fP.weak {x : LVal} {k : Int} {nl nl' : Bool} (h : fP x k nl) (hn : nl = true → nl' = true) : fP x k nl' := ⟨h.1,h.2.1,fun h0=>hn (h.2.2 h0)⟩
theorem int_fits (n : Int) : fP (fZ n) 1 true := by
 unfold fZ
 by_cases h1 : n < -1000000000000
 ·rw [zt h1]; exact ig rfl
 ·rw [zf h1]
  by_cases h2 : n > 1000000000000
  ·rw [zt h2]; exact ig rfl
  ·rw [zf h2]
   refine ⟨?_,.inl rfl,fun h=>by simp at h⟩
   unfold eW
   simp
   omega
theorem int_small {n : Int} (h0 : 0 ≤ n) (h1 : n ≤ 1000000000000) (nl : Bool) : fP (fZ n) 1 nl := by
 have h := int_fits n
 refine ⟨h.1,h.2.1,fun hk=>?_⟩
 unfold fZ at hk
 rw [zf (show ¬ n < -1000000000000 from by omega),zf (show ¬ n > 1000000000000 from by omega)] at hk
 simp at hk
theorem rx (op : List UInt8) : ∀ (l : Rq) (s : Int × LVal),(l.foldl (kO op) s).2 = s.2 ∨ (l.foldl (kO op) s).2 ∈ l
 | [],s=>.inl rfl
 | v :: l,s=>by
  rw [List.foldl_cons]
  rcases rx op l (kO op s v) with h | h
  ·rw [h]
   unfold kO
   simp only
   split
   ·exact .inr (by simp)
   ·exact .inl rfl
  ·exact .inr (by simp [h])
theorem agg_fits {r : LRun} (hr : RunOk r) {cols : List LCol} {a : LAggregateCall} {l : Rows} (ha : (nq r.vars cols a).2 = 0) (hl : ∀ row ∈ l,fe cols row) (hb : l.length ≤ 1000000) (hp : mw r ((a.args.map de).flatten)) :
  fP (aggR r cols a l) (nq r.vars cols a).1 (!(a.function == hX)) := by
 unfold nq at ha ⊢
 unfold aggR
 by_cases h1 : dR a.name = false ∨ ¬ a.function ∈ [hX,sSum,sMin,sMax] ∨ 1 < a.args.length ∨ (a.args.length < 1 ∧ a.function ≠ hX)
 ·rw [zp h1] at ha; simp at ha
 rw [zy h1] at ha ⊢
 have hfn : a.function ∈ [hX,sSum,sMin,sMax] := Decidable.byContradiction fun h=>h1 (.inr (.inl h))
 cases hargs : a.args with
 | nil=>exact int_small (by omega) (by omega) _
 | cons e es =>
  rw [hargs] at ha hp
  simp only at ha ⊢
  have hpe : mw r (de e) := fun i k hm=>hp i k (by simp [hm])
  by_cases h2 : (dk cols r.vars e).2.2 = 0
  ·rw [zy (by simpa using h2)] at ha ⊢
   by_cases h3 : (dk cols r.vars e).1 = 0 ∨ (a.function = sSum ∧ (dk cols r.vars e).1 ≠ 1)
   ·rw [zp h3] at ha; simp at ha
   rw [zy h3]
   generalize hv : ((l.map fun x=>dg (bE r cols x) e).filter fun v=>v.kind != 0) = vals
   have hvl : vals.length ≤ 1000000 := by rw [← hv]; exact Nat.le_trans (List.length_filter_le _ _) (by simpa using hb)
   have hvf : ∀ v ∈ vals,fP v (dk cols r.vars e).1 true := fun v hm=>by
    rw [← hv] at hm
    have := (List.mem_filter.1 hm).1
    obtain ⟨x,hx,rfl⟩ := List.mem_map.1 this
    exact (qQ hr (hl x hx) h2 hpe).weak fun _=>rfl
   unfold pK
   by_cases h4 : a.function = hX
   ·rw [zp h4,zp h4]
    exact int_small (by omega) (by omega) _
   ·rw [zy h4,zy h4]
    have hc : (a.function == hX) = false := by simpa using h4
    rw [hc]
    cases vals with
    | nil=>exact ig rfl
    | cons v vs =>
     simp only
     by_cases h5 : a.function = sSum
     ·rw [zp h5]
      have : (dk cols r.vars e).1 = 1 := Decidable.byContradiction fun h=>h3 (.inr ⟨h5,h⟩)
      rw [this]
      exact int_fits _
     ·rw [zy h5]
      rcases rx a.function (v :: vs) (0,v) with h | h
      ·rw [h]; exact hvf v (by simp)
      ·exact hvf _ h
  ·rw [zp h2] at ha; exact absurd ha h2
theorem capI_eq {n : Int} (h : mG n ≤ 20000) : mG n = n := by
 unfold mG at h ⊢
 by_cases hc : 20001 < n
 ·rw [zp hc] at h; omega
 ·rw [zy hc]
theorem gj {q : LQuery} (h : (bW q).2 ≤ 20000) : (bW q).1 ≤ (bW q).2 ∧ ∀ x ∈ q.inputs,(bW x).2 ≤ 20000 := by
 have key : ∀ (l : List (Int × Int)) (j : Nat) (s : Int × Int),s.2 ≤ (eG q.kind j l s).2 ∧ ∀ x ∈ l,x.2 ≤ (eG q.kind j l s).2 := by
  intro l
  induction l with
  | nil=>intro j s; exact ⟨Int.le_refl _,by simp⟩
  | cons y l ih =>
   intro j s
   obtain ⟨h1,h2⟩ := ih (j + 1) (iB q.kind s j y)
   rw [eG]
   have h3 : s.2 ≤ (iB q.kind s j y).2 := jd _ _
   have h4 : y.2 ≤ (iB q.kind s j y).2 := mS _ _
   refine ⟨by omega,fun x hx=>?_⟩
   rcases List.mem_cons.1 hx with rfl | hx
   ·omega
   ·exact h2 x hx
 have hk := key (q.inputs.map bW) 0 (0,0)
 rw [ly] at h ⊢
 by_cases h1 : q.kind = 1
 ·rw [zp h1] at h ⊢
  refine ⟨mS _ _,fun x hx=>?_⟩
  have := hk.2 (bW x) (List.mem_map.2 ⟨x,hx,rfl⟩)
  have := jd (eG q.kind 0 (q.inputs.map bW) (0,0)).2 24
  simp only at h
  omega
 ·rw [zy h1] at h ⊢
  refine ⟨mS _ _,fun x hx=>?_⟩
  have := hk.2 (bW x) (List.mem_map.2 ⟨x,hx,rfl⟩)
  have := jd (eG q.kind 0 (q.inputs.map bW) (0,0)).2 (eG q.kind 0 (q.inputs.map bW) (0,0)).1
  simp only at h
  omega
theorem most_scan {q : LQuery} (h : q.kind = 1) : (bW q).1 = 24 := by rw [ly,zp h]
theorem oj {q x : LQuery} (h : (bW q).2 ≤ 20000) (hk : q.kind ≠ 1) (hi : q.inputs = [x]) : (bW q).1 = (bW x).1 := by
 have hm := gj h
 have hx := hm.2 x (by rw [hi]; simp)
 have hx1 := (gj hx).1
 rw [ly,zy hk,hi]
 show mG (bW x).1 = _
 unfold mG
 rw [zy (by omega)]
theorem mz {q x y : LQuery} (h : (bW q).2 ≤ 20000) (hk : q.kind ≠ 1) (hi : q.inputs = [x,y]) : (bW q).1 = (if q.kind = 6 then (bW x).1 + (bW y).1 else if q.kind = 4 ∨ q.kind = 5 then (bW x).1 * dT 1 (bW y).1 else (bW x).1) := by
 have hm := gj h
 have hx := hm.2 x (by rw [hi]; simp)
 have hx1 := (gj hx).1
 have h1 := hm.1
 have hc : mG (bW x).1 = (bW x).1 := by unfold mG; rw [zy (by omega)]
 have e : (bW q).1 = mG (if q.kind = 6 then (bW x).1 + (bW y).1 else if q.kind = 4 ∨ q.kind = 5 then (bW x).1 * dT 1 (bW y).1 else (bW x).1) := by
  rw [ly,zy hk,hi]
  show (iB q.kind (iB q.kind (0,0) 0 (bW x)) 1 (bW y)).1 = _
  unfold iB
  simp [hc]
 rw [e]
 exact capI_eq (by rw [← e]; omega)
def bs (r : LRun) (q : LQuery) : List LCol := (dW ⟨r.s,r.vars⟩ q).1
theorem kS {r : LRun} {q : LQuery} (h : SmallQ q) : gH r q = some (bs r q) := by
 unfold gH
 rw [cols_ok _ q h]
 rfl
def gY (r : LRun) (cols : List LCol) (q : LQuery) (x : Rq) : Bool := kV (dg (bE r cols x) (e0Q q))
def pF (q : LQuery) (l : Rows) : Rows := (l.take (q.offset.toNat + q.count.toNat)).drop q.offset.toNat
def ed (r : LRun) (q : LQuery) (cs : List (List LCol)) (ins : List Rows) : Rows :=
 if q.kind = 1 then (match r.st.find? fun x=>x.table == q.table with | some x=>x.rows | none=>[])
 else if q.kind = 4 ∨ q.kind = 5 then ke (gY r (cs.getD 0 [] ++ cs.getD 1 []) q) (q.kind == 5) (List.replicate (cs.getD 1 []).length .nul) (ins.getD 0 []) (ins.getD 1 [])
 else if q.kind = 6 then ins.getD 0 [] ++ ins.getD 1 []
 else if q.kind = 7 then lj (ins.getD 0 []) (ins.getD 1 [])
 else if q.kind = 2 then (ins.getD 0 []).filter (gY r (cs.getD 0 []) q)
 else if q.kind = 3 then (ins.getD 0 []).map fun x=>q.exprs.map fun e=>dg (bE r (cs.getD 0 []) x) e
 else if q.kind = 8 then ng r (cs.getD 0 []) q (ins.getD 0 [])
 else if q.kind = 9 then (ec r q (cs.getD 0 []) (ins.getD 0 [])).getD []
 else pF q (ins.getD 0 [])
def bi (r : LRun) (q : LQuery) : Rows := ed r q (q.inputs.map (bs r)) (q.inputs.attach.map fun x=>bi r x.1)
termination_by SizeOf.sizeOf q
decreasing_by exact LQuery.inputs_lt x.2
theorem et (r : LRun) (q : LQuery) : bi r q = ed r q (q.inputs.map (bs r)) (q.inputs.map (bi r)) := by
 rw [bi,List.attach_map_val (f := bi r)]
theorem find_st {s : LSchema} {st : List LRelation} (h : InstOk s st) (name : List UInt8) : ∀ t,s.tables.find? (fun t=>t.name == name) = some t → ∃ x,st.find? (fun x=>x.table == name) = some x ∧ x.rows.length ≤ 24 ∧ ∀ row ∈ x.rows,fe t.columns row := by
 obtain ⟨hl,ht⟩ := h
 intro t hf
 generalize s.tables = ts at *
 induction ts generalizing st with
 | nil=>simp at hf
 | cons a ts ih =>
  cases st with
  | nil=>simp at hl
  | cons r st =>
   obtain ⟨h1,h2,h3⟩ := ht 0 r a rfl rfl
   rw [List.find?_cons] at hf ⊢
   rw [h1]
   cases hn : a.name == name with
   | true =>
    rw [hn] at hf
    simp at hf
    subst hf
    exact ⟨r,rfl,h2,h3⟩
   | false =>
    rw [hn] at hf
    simp only at hf ⊢
    exact ih (by simpa using hl) (fun i r' t' a b=>ht (i + 1) r' t' (by simpa using a) (by simpa using b)) hf
structure RowsOk (r : LRun) (q : LQuery) : Prop where
 pos : 1 ≤ (bW q).1
 len : ((bi r q).length : Int) ≤ (bW q).1
 fits : ∀ row ∈ bi r q,fe (bs r q) row
structure QOk (r : LRun) (q : LQuery) : Prop where
 small : SmallQ q
 cols : (dW ⟨r.s,r.vars⟩ q).2 = 0
 most : (bW q).2 ≤ 20000
 params : mw r (gU q)
theorem params_sub {q x : LQuery} (h : x ∈ q.inputs) : ∀ p ∈ gU x,p ∈ gU q := by
 intro p hp
 obtain ⟨l,hl,hp⟩ := List.mem_flatten.1 hp
 obtain ⟨y,hy,rfl⟩ := List.mem_map.1 hl
 exact List.mem_flatten.2 ⟨_,List.mem_map.2 ⟨y,mem_nodes h hy,rfl⟩,hp⟩
theorem QOk.sub {r : LRun} {q x : LQuery} (h : QOk r q) (hx : x ∈ q.inputs) : QOk r x :=
 ⟨h.small.sub hx,(ms h.cols).2.1 x hx,(gj h.most).2 x hx,fun i k hm=>h.params i k (params_sub hx _ hm)⟩
theorem QOk.expr {r : LRun} {q : LQuery} (h : QOk r q) {e : LExpr} (he : e ∈ q.exprs) : mw r (de e) := fun i k hm=>h.params i k (List.mem_flatten.2 ⟨iU q,List.mem_map.2 ⟨q,pT q,rfl⟩,List.mem_append_left _ (List.mem_flatten.2 ⟨_,List.mem_map.2 ⟨e,he,rfl⟩,hm⟩)⟩)
theorem QOk.agg {r : LRun} {q : LQuery} (h : QOk r q) {a : LAggregateCall} (ha : a ∈ q.aggregates) : mw r ((a.args.map de).flatten) := fun i k hm=>h.params i k (List.mem_flatten.2 ⟨iU q,List.mem_map.2 ⟨q,pT q,rfl⟩,List.mem_append_right _ (List.mem_flatten.2 ⟨_,List.mem_map.2 ⟨a,ha,rfl⟩,hm⟩)⟩)
theorem joinR_mem {f : Rq → Bool} {left : Bool} {pad row : Rq} {a b : Rows} (h : row ∈ ke f left pad a b) : ∃ x ∈ a,(∃ y ∈ b,row = x ++ y) ∨ (left = true ∧ row = x ++ pad) := by
 unfold ke at h
 obtain ⟨l,hl,hr⟩ := List.mem_flatten.1 h
 obtain ⟨x,hx,rfl⟩ := List.mem_map.1 hl
 refine ⟨x,hx,?_⟩
 unfold padR at hr
 split at hr
 ·rename_i hc; simp at hr; exact .inr ⟨hc.1,hr⟩
 ·unfold hZ at hr
  obtain ⟨y,hy,rfl⟩ := List.mem_map.1 (List.mem_filter.1 hr).1
  exact .inl ⟨y,hy,rfl⟩
theorem two {q : LQuery} (h : q.inputs.length = 2) : ∃ x y,q.inputs = [x,y] := by
 match hq : q.inputs,h with
 | [x,y],_=>exact ⟨x,y,rfl⟩
theorem one {q : LQuery} (h : q.inputs.length = 1) : ∃ x,q.inputs = [x] := by
 match hq : q.inputs,h with
 | [x],_=>exact ⟨x,rfl⟩
theorem colsR_out {r : LRun} {q : LQuery} (h : QOk r q) : (iv ⟨r.s,r.vars⟩ q (q.inputs.map (bs r))).2 = 0 ∧ bs r q = (iv ⟨r.s,r.vars⟩ q (q.inputs.map (bs r))).1 := by
 obtain ⟨_,_,h3,h4,_⟩ := ms h.cols
 exact ⟨h3,h4⟩
theorem set_fits {kind : Int} {a b : List LCol} {row : Rq} (h : (kt kind a b).2 = 0) (hr : fe a row ∨ (kind = 6 ∧ fe b row)) : fe (kt kind a b).1 row := by
 unfold kt at h ⊢
 by_cases hc : a.length = b.length ∧ a.map LCol.kind = b.map LCol.kind
 ·rw [zp hc]
  refine ⟨?_,fun i c x hci hx=>?_⟩
  ·rcases hr with hr | ⟨_,hr⟩
   ·simp [hr.1,hc.1]
   ·simp [hr.1,hc.1]
  ·rw [List.getElem?_zipWith] at hci
   cases ha : a[i]? with
   | none=>rw [ha] at hci; simp at hci
   | some u =>
    cases hb : b[i]? with
    | none=>rw [ha,hb] at hci; simp at hci
    | some v =>
     rw [ha,hb] at hci
     simp only [zo] at hci
     subst hci
     have hk : u.kind = v.kind := by
      have := congrArg (fun l=>l[i]?) hc.2
      simpa [ha,hb] using this
     rcases hr with hr | ⟨h6,hr⟩
     ·exact (hr.2 i u x ha hx).weak fun hn=>by simp [hn]
     ·have := hr.2 i v x hb hx
      rw [← hk] at this
      exact this.weak fun hn=>by simp [hn,h6]
 ·rw [zy hc] at h; simp at h
theorem join_fits {a b : List LCol} {left : Bool} {x y : Rq} (hx : fe a x) (hy : fe b y) : fe (ji a b left) (x ++ y) := by
 unfold ji
 refine hx.append ⟨by simp [hy.1],fun i c v hc hv=>?_⟩
 rw [List.getElem?_map,Option.map_eq_some_iff] at hc
 obtain ⟨d,hd,rfl⟩ := hc
 exact (hy.2 i d v hd hv).weak fun hn=>by simp [hn]
theorem pad_fits {a b : List LCol} {x : Rq} (hx : fe a x) : fe (ji a b true) (x ++ List.replicate b.length .nul) := by
 unfold ji
 refine hx.append ⟨by simp,fun i c v hc hv=>?_⟩
 rw [List.getElem?_map,Option.map_eq_some_iff] at hc
 obtain ⟨d,hd,rfl⟩ := hc
 rw [List.getElem?_replicate] at hv
 split at hv
 ·cases hv; exact ig (by simp)
 ·cases hv
theorem rows_fit {r : LRun} (hr : RunOk r) : ∀ q : LQuery,QOk r q → RowsOk r q := by
 refine LQuery.ind fun q ih h=>?_
 have hs := shape_ok (ms h.cols).1
 obtain ⟨ho,hcol⟩ := colsR_out h
 have hself := h.small.self
 have hm := (gj h.most).1
 have kk : q.kind = 1 ∨ q.kind = 2 ∨ q.kind = 3 ∨ q.kind = 4 ∨ q.kind = 5 ∨ q.kind = 6 ∨ q.kind = 7 ∨ q.kind = 8 ∨ q.kind = 9 ∨ q.kind = 10 := by have := hs.kind; omega
 have hall : ∀ x ∈ q.inputs,RowsOk r x := fun x hx=>ih x hx (h.sub hx)
 rcases kk with k | k | k | k | k | k | k | k | k | k
 ·-- scan
  have hmq := most_scan k
  unfold iv at ho hcol
  rw [zp k] at ho hcol
  cases hf : r.s.tables.find? (fun t=>t.name == q.table) with
  | none=>rw [hf] at ho; simp at ho
  | some t =>
   rw [hf] at hcol
   obtain ⟨x,hx,hl,hfit⟩ := find_st hr.inst q.table t hf
   have e : bi r q = x.rows := by rw [et]; unfold ed; rw [zp k,hx]
   exact ⟨by omega,by rw [e]; omega,by rw [e,hcol]; exact hfit⟩
 all_goals have har := hs.arity
 all_goals rw [k] at har
 all_goals simp only [oi] at har
 ·-- filter
  obtain ⟨x,hi⟩ := one (q := q) (by simpa using har)
  have hx := hall x (by rw [hi]; simp)
  have hmq := oj h.most (by omega) hi
  rw [hi] at hcol ho
  unfold iv at ho hcol
  rw [zy (by omega),zp k] at ho hcol
  have e : bi r q = (bi r x).filter (gY r (bs r x) q) := by rw [et,hi]; unfold ed; rw [zy (by omega),zy (by omega),zy (by omega),zy (by omega),zp k]; rfl
  have hcx : bs r q = bs r x := hcol
  have := List.length_filter_le (gY r (bs r x) q) (bi r x)
  refine ⟨by rw [hmq]; exact hx.pos,by rw [hmq,e]; have := hx.len; omega,fun row hrow=>?_⟩
  rw [e] at hrow
  rw [hcx]
  exact hx.fits row (List.mem_filter.1 hrow).1
 ·-- project
  obtain ⟨x,hi⟩ := one (q := q) (by simpa using har)
  have hx := hall x (by rw [hi]; simp)
  have hmq := oj h.most (by omega) hi
  rw [hi] at hcol ho
  unfold iv at ho hcol
  rw [zy (by omega),zy (by omega),zy (by omega),zy (by omega),zp (.inl k)] at ho hcol
  have e : bi r q = (bi r x).map fun y=>q.exprs.map fun e=>dg (bE r (bs r x) y) e := by rw [et,hi]; unfold ed; rw [zy (by omega),zy (by omega),zy (by omega),zy (by omega),zy (by omega),zp k]; rfl
  have hag : q.aggregates = [] := hs.aggs (by omega)
  change (lO r.vars (bs r x) q).2 = 0 at ho
  change bs r q = (lO r.vars (bs r x) q).1 at hcol
  unfold lO at ho hcol
  by_cases hn : (cX r.vars (bs r x) q.exprs q.names).2 = 0
  ·rw [zy (by simpa using hn),hag] at hcol
   simp only [ek,ne_eq,not_true_eq_false,if_false,List.append_nil] at hcol
   obtain ⟨hl,hinv⟩ := mF r.vars (bs r x) q.exprs q.names (hs.named (.inl k)) hn
   refine ⟨by rw [hmq]; exact hx.pos,by rw [hmq,e]; simpa using hx.len,fun row hrow=>?_⟩
   rw [e] at hrow
   obtain ⟨y,hy,rfl⟩ := List.mem_map.1 hrow
   rw [hcol]
   refine fe.map hl fun i e' c he hc=>?_
   obtain ⟨ht,d,hd,hk,hnl⟩ := hinv i e' he
   rw [hc] at hd
   cases hd
   rw [hk,hnl]
   exact qQ hr (hx.fits y hy) ht (h.expr (gK he))
  ·rw [zp hn] at ho; exact absurd ho hn
 ·-- inner join
  obtain ⟨x,y,hi⟩ := two (q := q) (by simpa using har)
  have hx := hall x (by rw [hi]; simp)
  have hy := hall y (by rw [hi]; simp)
  have hmq := mz h.most (by omega) hi
  rw [zy (by omega),zp (.inl k)] at hmq
  rw [hi] at hcol ho
  unfold iv at ho hcol
  rw [zy (by omega),zy (by omega),zp (.inl k)] at ho hcol
  have e : bi r q = ke (gY r (bs r x ++ bs r y) q) (q.kind == 5) (List.replicate (bs r y).length .nul) (bi r x) (bi r y) := by rw [et,hi]; unfold ed; rw [zy (by omega),zp (.inl k)]; rfl
  have hcx : bs r q = ji (bs r x) (bs r y) (q.kind == 5) := hcol
  have hb := qG (gY r (bs r x ++ bs r y) q) (q.kind == 5) (List.replicate (bs r y).length .nul) (bi r x) (bi r y)
  have hxl := hx.len
  have hyl := hy.len
  have hpos := hx.pos
  have h1m : 1 ≤ dT 1 (bW y).1 ∧ ((max 1 (bi r y).length : Nat) : Int) ≤ dT 1 (bW y).1 := ⟨jd _ _,by have := jd 1 (bW y).1; have := mS 1 (bW y).1; omega⟩
  refine ⟨?_,?_,fun row hrow=>?_⟩
  ·rw [hmq]
   exact Int.le_trans hpos (by have := Int.mul_le_mul_of_nonneg_left h1m.1 (show 0 ≤ (bW x).1 by omega); omega)
  ·rw [e,hmq]
   have h2 : (((bi r x).length * max 1 (bi r y).length : Nat) : Int) ≤ (bW x).1 * dT 1 (bW y).1 := by
    rw [Int.natCast_mul]
    exact Int.mul_le_mul hxl h1m.2 (by omega) (by omega)
   omega
  ·rw [e] at hrow
   rw [hcx]
   obtain ⟨u,hu,⟨v,hv,rfl⟩ | ⟨hl,rfl⟩⟩ := joinR_mem hrow
   ·exact join_fits (hx.fits u hu) (hy.fits v hv)
   ·rw [hl]; exact pad_fits (hx.fits u hu)
 ·-- left join
  obtain ⟨x,y,hi⟩ := two (q := q) (by simpa using har)
  have hx := hall x (by rw [hi]; simp)
  have hy := hall y (by rw [hi]; simp)
  have hmq := mz h.most (by omega) hi
  rw [zy (by omega),zp (.inr k)] at hmq
  rw [hi] at hcol ho
  unfold iv at ho hcol
  rw [zy (by omega),zy (by omega),zp (.inr k)] at ho hcol
  have e : bi r q = ke (gY r (bs r x ++ bs r y) q) (q.kind == 5) (List.replicate (bs r y).length .nul) (bi r x) (bi r y) := by rw [et,hi]; unfold ed; rw [zy (by omega),zp (.inr k)]; rfl
  have hcx : bs r q = ji (bs r x) (bs r y) (q.kind == 5) := hcol
  have hb := qG (gY r (bs r x ++ bs r y) q) (q.kind == 5) (List.replicate (bs r y).length .nul) (bi r x) (bi r y)
  have hxl := hx.len
  have hyl := hy.len
  have hpos := hx.pos
  have h1m : 1 ≤ dT 1 (bW y).1 ∧ ((max 1 (bi r y).length : Nat) : Int) ≤ dT 1 (bW y).1 := ⟨jd _ _,by have := jd 1 (bW y).1; have := mS 1 (bW y).1; omega⟩
  refine ⟨?_,?_,fun row hrow=>?_⟩
  ·rw [hmq]
   exact Int.le_trans hpos (by have := Int.mul_le_mul_of_nonneg_left h1m.1 (show 0 ≤ (bW x).1 by omega); omega)
  ·rw [e,hmq]
   have h2 : (((bi r x).length * max 1 (bi r y).length : Nat) : Int) ≤ (bW x).1 * dT 1 (bW y).1 := by
    rw [Int.natCast_mul]
    exact Int.mul_le_mul hxl h1m.2 (by omega) (by omega)
   omega
  ·rw [e] at hrow
   rw [hcx]
   obtain ⟨u,hu,⟨v,hv,rfl⟩ | ⟨hl,rfl⟩⟩ := joinR_mem hrow
   ·exact join_fits (hx.fits u hu) (hy.fits v hv)
   ·rw [hl]; exact pad_fits (hx.fits u hu)
 ·-- union
  obtain ⟨x,y,hi⟩ := two (q := q) (by simpa using har)
  have hx := hall x (by rw [hi]; simp)
  have hy := hall y (by rw [hi]; simp)
  have hmq := mz h.most (by omega) hi
  rw [zp k] at hmq
  rw [hi] at hcol ho
  unfold iv at ho hcol
  rw [zy (by omega),zy (by omega),zy (by omega),zp (.inl k)] at ho hcol
  have e : bi r q = bi r x ++ bi r y := by rw [et,hi]; unfold ed; rw [zy (by omega),zy (by omega),zp k]; rfl
  change (kt q.kind (bs r x) (bs r y)).2 = 0 at ho
  change bs r q = (kt q.kind (bs r x) (bs r y)).1 at hcol
  have := hx.len
  have := hy.len
  have := hx.pos
  have := hy.pos
  refine ⟨by omega,by rw [e,hmq]; simp; omega,fun row hrow=>?_⟩
  rw [e] at hrow
  rw [hcol]
  rcases List.mem_append.1 hrow with hrow | hrow
  ·exact set_fits ho (.inl (hx.fits row hrow))
  ·exact set_fits ho (.inr ⟨k,hy.fits row hrow⟩)
 ·-- difference
  obtain ⟨x,y,hi⟩ := two (q := q) (by simpa using har)
  have hx := hall x (by rw [hi]; simp)
  have hmq := mz h.most (by omega) hi
  rw [zy (by omega),zy (by omega)] at hmq
  rw [hi] at hcol ho
  unfold iv at ho hcol
  rw [zy (by omega),zy (by omega),zy (by omega),zp (.inr k)] at ho hcol
  have e : bi r q = lj (bi r x) (bi r y) := by rw [et,hi]; unfold ed; rw [zy (by omega),zy (by omega),zy (by omega),zp k]; rfl
  change (kt q.kind (bs r x) (bs r y)).2 = 0 at ho
  change bs r q = (kt q.kind (bs r x) (bs r y)).1 at hcol
  have hsub := qw (bi r x) (bi r y)
  have := hsub.length_le
  have := hx.len
  have := hx.pos
  refine ⟨by omega,by rw [e,hmq]; omega,fun row hrow=>?_⟩
  rw [e] at hrow
  rw [hcol]
  exact set_fits ho (.inl (hx.fits row (hsub.subset hrow)))
 ·-- aggregation
  obtain ⟨x,hi⟩ := one (q := q) (by simpa using har)
  have hx := hall x (by rw [hi]; simp)
  have hmq := oj h.most (by omega) hi
  rw [hi] at hcol ho
  unfold iv at ho hcol
  rw [zy (by omega),zy (by omega),zy (by omega),zy (by omega),zp (.inr k)] at ho hcol
  have e : bi r q = ng r (bs r x) q (bi r x) := by rw [et,hi]; unfold ed; rw [zy (by omega),zy (by omega),zy (by omega),zy (by omega),zy (by omega),zy (by omega),zp k]; rfl
  change (lO r.vars (bs r x) q).2 = 0 at ho
  change bs r q = (lO r.vars (bs r x) q).1 at hcol
  have hxl := hx.len
  have hxp := hx.pos
  have hxm := (gj h.most).2 x (by rw [hi]; simp)
  have hxm1 := (gj hxm).1
  unfold lO at ho hcol
  by_cases hn : (cX r.vars (bs r x) q.exprs q.names).2 = 0
  ·rw [zy (by simpa using hn)] at hcol ho
   by_cases hg : (ek r.vars (bs r x) q.aggregates).2 = 0
   ·rw [zy (by simpa using hg)] at hcol
    obtain ⟨hl,hinv⟩ := mF r.vars (bs r x) q.exprs q.names (hs.named (.inr k)) hn
    obtain ⟨hl2,hinv2⟩ := qi r.vars (bs r x) q.aggregates hg
    have hkeys := oK (fun x_1=>q.exprs.map fun e=>dg (bE r (bs r x) x_1) e) (bi r x) (if q.exprs = [] then [[]] else [])
    have hlen : ((ng r (bs r x) q (bi r x)).length : Int) ≤ (bW x).1 := by
     unfold ng
     rw [zl]
     by_cases hee : q.exprs = []
     ·-- without keys there is one group
      have : ∀ (l ks : Rows),ks = [[]] → fq (fun x_1=>q.exprs.map fun e=>dg (bE r (bs r x) x_1) e) ks l = [[]] := by
       intro l
       induction l with
       | nil=>intro ks hk; simpa [fq] using hk
       | cons z l ih2 =>
        intro ks hk
        rw [fq]
        refine ih2 _ ?_
        rw [zp (by rw [hk,hee]; simp),hk]
      rw [this _ _ (by rw [zp hee])]
      simp
      omega
     ·rw [zy hee] at hkeys ⊢
      simp at hkeys
      omega
    refine ⟨by rw [hmq]; exact hxp,by rw [hmq,e]; exact hlen,fun row hrow=>?_⟩
    rw [e] at hrow
    rw [hcol]
    unfold ng at hrow
    obtain ⟨kk,hkk,rfl⟩ := List.mem_map.1 hrow
    refine fe.append ?_ ?_
    ·rcases (oV _ _ _ _).1 hkk with hk0 | ⟨y,hy,rfl⟩
     ·split at hk0
      ·rename_i hee
       simp at hk0
       subst hk0
       rw [hee] at hl ⊢
       exact ⟨by simpa using hl.symm,fun i c v hc hv=>by simp at hv⟩
      ·simp at hk0
     ·refine fe.map hl fun i e' c he hc=>?_
      obtain ⟨ht,d,hd,hk,hnl⟩ := hinv i e' he
      rw [hc] at hd
      cases hd
      rw [hk,hnl]
      exact qQ hr (hx.fits y hy) ht (h.expr (gK he))
    ·refine ⟨by simp [hl2],fun i c v hc hv=>?_⟩
     rw [List.getElem?_map,Option.map_eq_some_iff] at hv
     obtain ⟨a,ha,rfl⟩ := hv
     obtain ⟨hq,d,hd,hk,hnl⟩ := hinv2 i a ha
     rw [hc] at hd
     cases hd
     rw [hk,hnl]
     refine agg_fits hr hq (fun row hrow=>hx.fits row (List.mem_filter.1 hrow).1) ?_ (h.agg (gK ha))
     unfold fD
     exact Nat.le_trans (List.length_filter_le _ _) (by omega)
   ·rw [zp hg] at ho; exact absurd ho hg
  ·rw [zp hn] at ho; exact absurd ho hn
 ·-- sort
  obtain ⟨x,hi⟩ := one (q := q) (by simpa using har)
  have hx := hall x (by rw [hi]; simp)
  have hmq := oj h.most (by omega) hi
  rw [hi] at hcol ho
  unfold iv at ho hcol
  rw [zy (by omega),zy (by omega),zy (by omega),zy (by omega),zy (by omega),zp k] at ho hcol
  have hxm := (gj h.most).2 x (by rw [hi]; simp)
  have hxm1 := (gj hxm).1
  have hxl := hx.len
  obtain ⟨l',hsort,hperm⟩ := sort_ok r q (bs r x) (bi r x) (by omega) hself.1
  have e : bi r q = l' := by rw [et,hi]; unfold ed; rw [zy (by omega),zy (by omega),zy (by omega),zy (by omega),zy (by omega),zy (by omega),zy (by omega),zp k]; show (ec r q (bs r x) (bi r x)).getD [] = l'; rw [hsort]; rfl
  have hcx : bs r q = bs r x := by
   by_cases hse : iA r.vars (bs r x) q.exprs = 0
   ·exact hcol.trans (by show (if iA r.vars (bs r x) q.exprs ≠ 0 then _ else _ : List LCol × Int).1 = _; rw [zy (by simpa using hse)]; rfl)
   ·exact absurd (by
     have : (if iA r.vars (bs r x) q.exprs ≠ 0 then (([],iA r.vars (bs r x) q.exprs) : List LCol × Int) else (bs r x,0)).2 = 0 := ho
     rw [zp hse] at this
     exact this) hse
  refine ⟨by rw [hmq]; exact hx.pos,by rw [hmq,e,hperm.length_eq]; exact hxl,fun row hrow=>?_⟩
  rw [e] at hrow
  rw [hcx]
  exact hx.fits row (hperm.mem_iff.1 hrow)
 ·-- limit
  obtain ⟨x,hi⟩ := one (q := q) (by simpa using har)
  have hx := hall x (by rw [hi]; simp)
  have hmq := oj h.most (by omega) hi
  rw [hi] at hcol ho
  unfold iv at ho hcol
  rw [zy (by omega),zy (by omega),zy (by omega),zy (by omega),zy (by omega),zy (by omega)] at ho hcol
  have hcx : bs r q = bs r x := hcol
  have e : bi r q = pF q (bi r x) := by rw [et,hi]; unfold ed; rw [zy (by omega),zy (by omega),zy (by omega),zy (by omega),zy (by omega),zy (by omega),zy (by omega),zy (by omega)]; rfl
  have hsub : (pF q (bi r x)).Sublist (bi r x) := (List.drop_sublist _ _).trans (List.take_sublist _ _)
  have := hsub.length_le
  have := hx.len
  refine ⟨by rw [hmq]; exact hx.pos,by rw [hmq,e]; omega,fun row hrow=>?_⟩
  rw [e] at hrow
  rw [hcx]
  exact hx.fits row (hsub.subset hrow)
theorem rowLen {cols : List LCol} {row : Rq} (h : fe cols row) (hc : cols.length ≤ 20) : row.length ≤ 20 := by rw [h.1]; exact hc
theorem scan_run (st : List LRelation) (name : List UInt8) : aj (ba (σ := Unit) (ρ := (Rows)) (fun (_ : Nat) (x1 : LRelation) (_ : Unit)=>cond (x1.table == name) (some (.ret x1.rows)) (some (.next ()))) 0 st ()) (fun fl1=>fl1.thenR fun (_ : Unit)=>some []) =
  some (match st.find? fun x=>x.table == name with | some x=>x.rows | none=>[]) := by
 rw [mJ (fun x : LRelation=>x.table == name) (fun _ x=>x.rows) st 0 (fun k x _=>by cases x.table == name <;> rfl)]
 rcases find_idx (fun x : LRelation=>x.table == name) st with ⟨h1,h2⟩ | ⟨x,h1,h2,h3⟩
 ·rw [h1]
  unfold bp at h2
  cases hf : st.findIdx? (fun x=>x.table == name) with
  | none=>rfl
  | some i=>rw [hf] at h2; simp only at h2; omega
 ·rw [h1]
  unfold bp at h2 h3
  cases hf : st.findIdx? (fun x=>x.table == name) with
  | none=>rw [hf] at h2; simp at h2
  | some i =>
   rw [hf] at h3
   simp only [Int.toNat_natCast] at h3
   simp only [h3]
   rfl
theorem limit_run (l : Rows) (q : LQuery) (hl : l.length ≤ 1000000) (hc : 0 ≤ q.count) (ho : 0 ≤ q.offset) :
  nj l (if (l.length : Int) < q.offset then (l.length : Int) else q.offset) (i64.wrap ((if (l.length : Int) < q.offset then (l.length : Int) else q.offset) + (if (i64.wrap ((l.length : Int) - (if (l.length : Int) < q.offset then (l.length : Int) else q.offset))) < q.count then (i64.wrap ((l.length : Int) - (if (l.length : Int) < q.offset then (l.length : Int) else q.offset))) else q.count))) = some (pF q l) := by
 obtain ⟨o,ho'⟩ : ∃ o : Nat,q.offset = o := ⟨q.offset.toNat,by omega⟩
 obtain ⟨c,hc'⟩ : ∃ c : Nat,q.count = c := ⟨q.count.toNat,by omega⟩
 unfold pF
 rw [ho',hc',Int.toNat_natCast,Int.toNat_natCast]
 by_cases h1 : (l.length : Int) < (o : Int)
 ·rw [zp h1,bC (n := (l.length : Int) - (l.length : Int)) (by omega) (by omega)]
  have e : (if (l.length : Int) - (l.length : Int) < (c : Int) then (l.length : Int) - (l.length : Int) else (c : Int)) = 0 := by split <;> omega
  rw [e,bC (by omega) (by omega),px ⟨by omega,by omega,by omega⟩]
  congr 1
  rw [List.drop_of_length_le (by simp only [List.length_take]; omega)]
  symm
  exact List.drop_of_length_le (by simp only [List.length_take]; omega)
 ·rw [zy h1,bC (n := (l.length : Int) - (o : Int)) (by omega) (by omega)]
  by_cases h2 : (l.length : Int) - (o : Int) < (c : Int)
  ·rw [zp h2,bC (by omega) (by omega),px ⟨by omega,by omega,by omega⟩]
   rw [Int.toNat_natCast,List.take_of_length_le (i := ((o : Int) + ((l.length : Int) - (o : Int))).toNat) (by omega),List.take_of_length_le (i := o + c) (by omega)]
  ·rw [zy h2,bC (by omega) (by omega),px ⟨by omega,by omega,by omega⟩]
   rw [Int.toNat_natCast,show ((o : Int) + (c : Int)).toNat = o + c from by omega]
theorem join_run2 (r : LRun) (q : LQuery) (ca cb : List LCol) (e : LExpr) (he : aF q.exprs 0 = some e) (hee : e = e0Q q) (a b : Rows) (ha : ∀ x ∈ a,x.length ≤ 20) (hb : ∀ x ∈ b,x.length ≤ 20) (hcb : cb.length ≤ 20) (hsz : a.length * max 1 b.length ≤ 30000) (_hk : q.kind = 4 ∨ q.kind = 5) :
  aj (ba (σ := List LCol × Rows) (ρ := Empty) (fun (_ : Nat) (x1 : Rq) (s1 : List LCol × Rows) =>
  aj (ba (σ := Rows × Bool) (ρ := Empty) (fun (_ : Nat) (x6 : Rq) (s6 : Rows × Bool) =>
   aj (ct ([x1,x6] : Rows)) fun x58 =>
   aj (aF q.exprs 0) fun (x65 : LExpr) =>
   bo (bE r s1.1 x58) fun x62 =>
   bo (dg x62 x65) fun x67 =>
   bo (kV x67) fun x68 =>
   cond x68
    (aj (ee 24 s6.1 ([x58] : Rows)) fun (x72 : Rows) =>
    some (.next (x72,true)))
    (some (.next (s6.1,s6.2)))) 0 b (s1.2,false)) fun fl6=>fl6.thenP fun (s6 : Rows × Bool) =>
  bo (
   cond (!s6.2)
    ((q.kind == (5 : Int)))
    (false)) fun (t7 : Bool) =>
  cond t7
   (aj (oJ 32 (cb.length : Int)) fun (_ : Unit) =>
   aj (ct ([x1,(List.replicate (cb.length : Int).toNat (LVal.mk 0 0 []))] : Rows)) fun x87 =>
   aj (ee 24 s6.1 ([x87] : Rows)) fun (x89 : Rows) =>
   some (.next (s1.1,x89)))
   (some (.next (s1.1,s6.1)))) 0 a (ca ++ cb,[])) (fun fl1=>fl1.thenP fun (s1 : List LCol × Rows)=>some s1.2) = some (ke (gY r (ca ++ cb) q) (q.kind == 5) (List.replicate cb.length .nul) a b) := by
 have hpl : ∀ k,k ≤ a.length → (ke (gY r (ca ++ cb) q) (q.kind == 5) (List.replicate cb.length .nul) (a.take k) b).length ≤ 30000 := fun k hk=>by
  have h1 := qG (gY r (ca ++ cb) q) (q.kind == 5) (List.replicate cb.length .nul) (a.take k) b
  rw [List.length_take,Nat.min_eq_left hk] at h1
  exact Nat.le_trans h1 (Nat.le_trans (Nat.mul_le_mul_right _ hk) hsz)
 rw [rMa (xs := a) (s := (ca ++ cb,[])) (fun k=>(ca ++ cb,ke (gY r (ca ++ cb) q) (q.kind == 5) (List.replicate cb.length .nul) (a.take k) b)) rfl (fun k x hkx=>by
  have hkl := (zg.1 hkx).1
  have hxm := gK hkx
  have hbl : b.length ≤ 30000 := by
   have h1 : 1 * max 1 b.length ≤ a.length * max 1 b.length := Nat.mul_le_mul_right _ (by omega)
   omega
  have h2 := hpl k (by omega)
  simp only
  rw [match_run (gY r (ca ++ cb) q) e r (ca ++ cb) q.exprs he (fun z=>by rw [hee]; rfl) x (by have := ha x hxm; omega) b _ false (fun y hy=>by have := hb y hy; omega) (by omega),bPs,ci]
  have hs : ke (gY r (ca ++ cb) q) (q.kind == 5) (List.replicate cb.length .nul) (a.take (k + 1)) b = ke (gY r (ca ++ cb) q) (q.kind == 5) (List.replicate cb.length .nul) (a.take k) b ++ padR (gY r (ca ++ cb) q) (q.kind == 5) (List.replicate cb.length .nul) x b := by
   unfold ke
   rw [List.take_add_one,hkx,List.map_append,List.flatten_append]
   simp
  rw [hs]
  simp only [bN,Bool.false_or]
  have hml : (hZ (gY r (ca ++ cb) q) x b).length ≤ 30000 := by unfold hZ; exact Nat.le_trans (List.length_filter_le _ _) (by simpa using hbl)
  cases hm : hZ (gY r (ca ++ cb) q) x b with
  | nil =>
   by_cases h5 : q.kind = 5
   ·have e5 : (q.kind == 5) = true := jW h5
    simp only [e5,List.isEmpty_nil,Bool.not_true,Bool.not_false,zc]
    rw [growI_ok ⟨by omega,by omega,by unfold maxLen; omega⟩,bPs,concat2 x _ (by have := ha x hxm; omega) (by simp; omega),bPs]
    rw [e5] at h2
    rw [cR (by decide) (by simp at h2 ⊢; omega),bPs]
    unfold padR
    rw [zp ⟨rfl,hm⟩]
    simp [LVal.nul]
   ·have e5 : (q.kind == 5) = false := dn h5
    simp only [e5,List.isEmpty_nil,Bool.not_true,Bool.not_false,zc,zd]
    unfold padR
    rw [zy (by simp),hm]
  | cons z zs =>
   simp only [List.isEmpty_cons,Bool.not_false,Bool.not_true,zd]
   unfold padR
   rw [zy (by rw [hm]; simp),hm])]
 rw [bPs,ci,List.take_length]
theorem rows_ev {r : LRun} (hr : RunOk r) : ∀ q : LQuery,QOk r q → ∃ N,∀ n,N ≤ n → fo n r q = some (bi r q) := by
 refine LQuery.ind fun q ih h=>?_
 have hs := shape_ok (ms h.cols).1
 obtain ⟨ho,hcol⟩ := colsR_out h
 have hself := h.small.self
 have hm := (gj h.most).1
 obtain ⟨N,hN⟩ := ev_all (p := fun x n=>fo n r x = some (bi r x)) q.inputs (fun x hx=>ih x hx (h.sub hx))
 have hall : ∀ x ∈ q.inputs,RowsOk r x := fun x hx=>rows_fit hr x (h.sub hx)
 have hsz : ∀ x ∈ q.inputs,(bi r x).length ≤ 20000 := fun x hx=>by
  have h1 := (hall x hx).len
  have h2 := (gj h.most).2 x hx
  have h3 := (gj h2).1
  omega
 have hrow : ∀ x ∈ q.inputs,∀ row ∈ bi r x,row.length ≤ 20 := fun x hx row hrow=>rowLen ((hall x hx).fits row hrow) (jZ _ x)
 refine ⟨N + 2,fun n hn=>?_⟩
 obtain ⟨n,rfl⟩ : ∃ k,n = k + 2 := ⟨n - 2,by omega⟩
 rw [fo]
 simp only [kg]
 have kk : q.kind = 1 ∨ q.kind = 2 ∨ q.kind = 3 ∨ q.kind = 4 ∨ q.kind = 5 ∨ q.kind = 6 ∨ q.kind = 7 ∨ q.kind = 8 ∨ q.kind = 9 ∨ q.kind = 10 := by have := hs.kind; omega
 rcases kk with k | k | k | k | k | k | k | k | k | k
 ·rw [jW k,zc,scan_run,et]
  unfold ed
  rw [zp k] <;>
   rfl
 all_goals have har := hs.arity
 all_goals rw [k] at har
 all_goals simp only [oi] at har
 ·-- filter
  obtain ⟨x,hi⟩ := one (q := q) (by simpa using har)
  have hxm : x ∈ q.inputs := by rw [hi]; simp
  have e : bi r q = (bi r x).filter (gY r (bs r x) q) := by rw [et,hi]; unfold ed; rw [zy (by omega),zy (by omega),zy (by omega),zy (by omega),zp k]; rfl
  have hx := hN (n + 1) (by omega) x hxm
  rw [k,hi,e]
  simp only [aF,bN]
  simp only [show ((2 : Int) == 1) = false from rfl,show ((2 : Int) == 4) = false from rfl,show ((2 : Int) == 5) = false from rfl,show ((2 : Int) == 6) = false from rfl,show ((2 : Int) == 7) = false from rfl,show ((2 : Int) == 2) = true from rfl,zd,zc,Int.le_refl,if_true,Int.toNat_zero,List.getElem?_cons_zero,bPs]
  rw [hx,bPs,kS (h.small.sub hxm),bPs]
  rw [deleteFunc_eq (bi r x) (fun a=>!gY r (bs r x) q a) _ (fun a _=>by
   unfold ir
   rw [e0_get (by rw [hs.one (.inl k)]; omega)]
   rfl) (by have := hsz x hxm; omega),bPs]
  simp
 ·-- project
  obtain ⟨x,hi⟩ := one (q := q) (by simpa using har)
  have hxm : x ∈ q.inputs := by rw [hi]; simp
  have e : bi r q = (bi r x).map fun y=>q.exprs.map fun e=>dg (bE r (bs r x) y) e := by rw [et,hi]; unfold ed; rw [zy (by omega),zy (by omega),zy (by omega),zy (by omega),zy (by omega),zp k]; rfl
  have hx := hN (n + 1) (by omega) x hxm
  rw [k,hi,e]
  simp only [aF,bN]
  simp only [show ((3 : Int) == 1) = false from rfl,show ((3 : Int) == 4) = false from rfl,show ((3 : Int) == 5) = false from rfl,show ((3 : Int) == 6) = false from rfl,show ((3 : Int) == 7) = false from rfl,show ((3 : Int) == 2) = false from rfl,show ((3 : Int) == 3) = true from rfl,zd,zc,Int.le_refl,if_true,Int.toNat_zero,List.getElem?_cons_zero,bPs]
  rw [hx,bPs,kS (h.small.sub hxm),bPs]
  rw [pR (xs := bi r x) (fun y=>q.exprs.map fun e=>dg (bE r (bs r x) y) e) (fun i y hy=>by
   have hil := (zg.1 hy).1
   have := hsz x hxm
   rw [mD r _ _ _ (by omega),bPs,cR (by decide) (by simp; omega),bPs]),bPs,ci]
 ·-- inner join
  obtain ⟨x,y,hi⟩ := two (q := q) (by simpa using har)
  have hxm : x ∈ q.inputs := by rw [hi]; simp
  have hym : y ∈ q.inputs := by rw [hi]; simp
  have hmq := mz h.most (by omega) hi
  rw [zy (by omega),zp (.inl k)] at hmq
  have e : bi r q = ke (gY r (bs r x ++ bs r y) q) (q.kind == 5) (List.replicate (bs r y).length .nul) (bi r x) (bi r y) := by rw [et,hi]; unfold ed; rw [zy (by omega),zp (.inl k)]; rfl
  have hx := hN n (by omega) x hxm
  have hy := hN n (by omega) y hym
  have hprod : (bi r x).length * max 1 (bi r y).length ≤ 30000 := by
   have h1m : ((max 1 (bi r y).length : Nat) : Int) ≤ dT 1 (bW y).1 := by have := jd 1 (bW y).1; have := mS 1 (bW y).1; have := (hall y hym).len; omega
   have h2 : (((bi r x).length * max 1 (bi r y).length : Nat) : Int) ≤ (bW x).1 * dT 1 (bW y).1 := by
    rw [Int.natCast_mul]
    exact Int.mul_le_mul (hall x hxm).len h1m (by omega) (by have := (hall x hxm).pos; omega)
   have := h.most
   omega
  rw [dn (show q.kind ≠ 1 by omega),jW k]
  simp only [zd,zc,bN]
  rw [gD]
  simp only [jg]
  rw [hi]
  have g0 : aF [x,y] 0 = some x := rfl
  have g1 : aF [x,y] 1 = some y := rfl
  simp only [g0,g1,bPs]
  rw [hx,hy]
  simp only [bPs]
  rw [kS (h.small.sub hxm),kS (h.small.sub hym)]
  simp only [bPs]
  rw [cR (by decide) (by have := jZ ⟨r.s,r.vars⟩ x; have := jZ ⟨r.s,r.vars⟩ y; unfold bs; omega),bPs]
  have he1 : q.exprs.length = 1 := hs.one (.inr (.inl k))
  rw [join_run2 r q (bs r x) (bs r y) (e0Q q) (e0_get (by omega)) rfl (bi r x) (bi r y) (hrow x hxm) (hrow y hym) (jZ _ y) hprod (.inl k),bPs,e]
 ·-- left join
  obtain ⟨x,y,hi⟩ := two (q := q) (by simpa using har)
  have hxm : x ∈ q.inputs := by rw [hi]; simp
  have hym : y ∈ q.inputs := by rw [hi]; simp
  have hmq := mz h.most (by omega) hi
  rw [zy (by omega),zp (.inr k)] at hmq
  have e : bi r q = ke (gY r (bs r x ++ bs r y) q) (q.kind == 5) (List.replicate (bs r y).length .nul) (bi r x) (bi r y) := by rw [et,hi]; unfold ed; rw [zy (by omega),zp (.inr k)]; rfl
  have hx := hN n (by omega) x hxm
  have hy := hN n (by omega) y hym
  have hprod : (bi r x).length * max 1 (bi r y).length ≤ 30000 := by
   have h1m : ((max 1 (bi r y).length : Nat) : Int) ≤ dT 1 (bW y).1 := by have := jd 1 (bW y).1; have := mS 1 (bW y).1; have := (hall y hym).len; omega
   have h2 : (((bi r x).length * max 1 (bi r y).length : Nat) : Int) ≤ (bW x).1 * dT 1 (bW y).1 := by
    rw [Int.natCast_mul]
    exact Int.mul_le_mul (hall x hxm).len h1m (by omega) (by have := (hall x hxm).pos; omega)
   have := h.most
   omega
  rw [dn (show q.kind ≠ 1 by omega),dn (show q.kind ≠ 4 by omega),jW k]
  simp only [zd,zc,bN]
  rw [gD]
  simp only [jg]
  rw [hi]
  have g0 : aF [x,y] 0 = some x := rfl
  have g1 : aF [x,y] 1 = some y := rfl
  simp only [g0,g1,bPs]
  rw [hx,hy]
  simp only [bPs]
  rw [kS (h.small.sub hxm),kS (h.small.sub hym)]
  simp only [bPs]
  rw [cR (by decide) (by have := jZ ⟨r.s,r.vars⟩ x; have := jZ ⟨r.s,r.vars⟩ y; unfold bs; omega),bPs]
  have he1 : q.exprs.length = 1 := hs.one (.inr (.inr k))
  rw [join_run2 r q (bs r x) (bs r y) (e0Q q) (e0_get (by omega)) rfl (bi r x) (bi r y) (hrow x hxm) (hrow y hym) (jZ _ y) hprod (.inr k),bPs,e]
 ·-- union
  obtain ⟨x,y,hi⟩ := two (q := q) (by simpa using har)
  have hxm : x ∈ q.inputs := by rw [hi]; simp
  have hym : y ∈ q.inputs := by rw [hi]; simp
  have e : bi r q = bi r x ++ bi r y := by rw [et,hi]; unfold ed; rw [zy (by omega),zy (by omega),zp k]; rfl
  have hx := hN (n + 1) (by omega) x hxm
  have hy := hN (n + 1) (by omega) y hym
  rw [dn (show q.kind ≠ 1 by omega),dn (show q.kind ≠ 4 by omega),dn (show q.kind ≠ 5 by omega),jW k,hi]
  have g0 : aF [x,y] 0 = some x := rfl
  have g1 : aF [x,y] 1 = some y := rfl
  simp only [zd,zc,bN,g0,g1,bPs]
  have := hsz x hxm
  have := hsz y hym
  rw [hx,hy]
  simp only [bPs]
  rw [cR (by decide) (by omega),bPs,e]
 ·-- difference
  obtain ⟨x,y,hi⟩ := two (q := q) (by simpa using har)
  have hxm : x ∈ q.inputs := by rw [hi]; simp
  have hym : y ∈ q.inputs := by rw [hi]; simp
  have e : bi r q = lj (bi r x) (bi r y) := by rw [et,hi]; unfold ed; rw [zy (by omega),zy (by omega),zy (by omega),zp k]; rfl
  have hx := hN (n + 1) (by omega) x hxm
  have hy := hN (n + 1) (by omega) y hym
  rw [dn (show q.kind ≠ 1 by omega),dn (show q.kind ≠ 4 by omega),dn (show q.kind ≠ 5 by omega),dn (show q.kind ≠ 6 by omega),jW k,hi]
  have g0 : aF [x,y] 0 = some x := rfl
  have g1 : aF [x,y] 1 = some y := rfl
  simp only [zd,zc,bN,g0,g1,bPs]
  have := hsz x hxm
  have := hsz y hym
  rw [hx,hy]
  simp only [bPs]
  rw [less_eq _ _ (by omega) (by omega),bPs,e]
 ·-- aggregation
  obtain ⟨x,hi⟩ := one (q := q) (by simpa using har)
  have hxm : x ∈ q.inputs := by rw [hi]; simp
  have e : bi r q = ng r (bs r x) q (bi r x) := by rw [et,hi]; unfold ed; rw [zy (by omega),zy (by omega),zy (by omega),zy (by omega),zy (by omega),zy (by omega),zp k]; rfl
  have hx := hN (n + 1) (by omega) x hxm
  rw [dn (show q.kind ≠ 1 by omega),dn (show q.kind ≠ 4 by omega),dn (show q.kind ≠ 5 by omega),dn (show q.kind ≠ 6 by omega),dn (show q.kind ≠ 7 by omega),dn (show q.kind ≠ 2 by omega),dn (show q.kind ≠ 3 by omega),jW k,hi]
  have g0 : aF [x] 0 = some x := rfl
  simp only [zd,zc,bN,g0,bPs]
  rw [hx,bPs,kS (h.small.sub hxm),bPs]
  have := hsz x hxm
  rw [group_eq r _ q _ (by omega) hself.1 hself.2,bPs,e]
 ·-- sort
  obtain ⟨x,hi⟩ := one (q := q) (by simpa using har)
  have hxm : x ∈ q.inputs := by rw [hi]; simp
  have := hsz x hxm
  obtain ⟨l',hsort,_⟩ := sort_ok r q (bs r x) (bi r x) (by omega) hself.1
  have e : bi r q = l' := by rw [et,hi]; unfold ed; rw [zy (by omega),zy (by omega),zy (by omega),zy (by omega),zy (by omega),zy (by omega),zy (by omega),zp k]; show (ec r q (bs r x) (bi r x)).getD [] = l'; rw [hsort]; rfl
  have hx := hN (n + 1) (by omega) x hxm
  rw [dn (show q.kind ≠ 1 by omega),dn (show q.kind ≠ 4 by omega),dn (show q.kind ≠ 5 by omega),dn (show q.kind ≠ 6 by omega),dn (show q.kind ≠ 7 by omega),dn (show q.kind ≠ 2 by omega),dn (show q.kind ≠ 3 by omega),dn (show q.kind ≠ 8 by omega),jW k,hi]
  have g0 : aF [x] 0 = some x := rfl
  simp only [zd,zc,bN,g0,bPs]
  rw [hx,bPs,kS (h.small.sub hxm),bPs,hsort,bPs,e]
 ·-- limit
  obtain ⟨x,hi⟩ := one (q := q) (by simpa using har)
  have hxm : x ∈ q.inputs := by rw [hi]; simp
  have e : bi r q = pF q (bi r x) := by rw [et,hi]; unfold ed; rw [zy (by omega),zy (by omega),zy (by omega),zy (by omega),zy (by omega),zy (by omega),zy (by omega),zy (by omega)]; rfl
  have hx := hN (n + 1) (by omega) x hxm
  rw [dn (show q.kind ≠ 1 by omega),dn (show q.kind ≠ 4 by omega),dn (show q.kind ≠ 5 by omega),dn (show q.kind ≠ 6 by omega),dn (show q.kind ≠ 7 by omega),dn (show q.kind ≠ 2 by omega),dn (show q.kind ≠ 3 by omega),dn (show q.kind ≠ 8 by omega),dn (show q.kind ≠ 9 by omega),hi]
  have g0 : aF [x] 0 = some x := rfl
  simp only [zd,bN,g0,bPs]
  rw [hx,bPs,kS (h.small.sub hxm),bPs]
  have := hsz x hxm
  rw [limit_run _ q (by omega) (hs.limit k).1 (hs.limit k).2,bPs,e]
theorem rows_eq {r : LRun} (hr : RunOk r) {q : LQuery} (h : QOk r q) : lq r q = some (bi r q) := by
 obtain ⟨N,hN⟩ := rows_ev hr q h
 exact nP N hN
def SizeOk (q : LQuery) : Prop := (cU q).length ≤ 24 ∧ gR q ≤ 12 ∧ (bW q).2 ≤ 20000
instance (q : LQuery) : Decidable (SizeOk q) := by unfold SizeOk; infer_instance
theorem check_eq {s : LSchema} {vars : List LCol} {q : LQuery} (h : SmallQ q) : ∃ cs e,gr s vars q = some (cs,e) ∧ (e = 0 ↔ SizeOk q ∧ nO (gU q) ∧ (dW ⟨s,vars⟩ q).2 = 0) ∧ (e = 0 → cs = (dW ⟨s,vars⟩ q).1) := by
 unfold gr
 rw [nodes_ok q h.nodes,bPs]
 by_cases h1 : (cU q).length ≤ 24
 ·rw [zf (show ¬ ((cU q).length : Int) > 24 from by omega),zd,depth_ok q h.nodes,bPs]
  by_cases h2 : gR q ≤ 12
  ·rw [zf (show ¬ gR q > 12 from by omega),zd]
   unfold gm
   rw [most_ok,bPs,bPs]
   by_cases h3 : (bW q).2 ≤ 20000
   ·rw [zf (show ¬ (bW q).2 > 20000 from by omega),bPs,zd,kinds_ok h.nodes,bPs]
    cases hb : (eh q).2.1 with
    | true =>
     refine ⟨[],13,rfl,⟨fun h=>by omega,fun hh=>?_⟩,fun h=>by omega⟩
     rw [kinds_bad.2 hh.2.1] at hb
     cases hb
    | false =>
     have hk := kinds_bad.1 hb
     simp only [zd]
     rw [cols_ok _ q h]
     refine ⟨(dW ⟨s,vars⟩ q).1,(dW ⟨s,vars⟩ q).2,rfl,⟨fun h0=>⟨⟨h1,h2,h3⟩,hk,h0⟩,fun hh=>hh.2.2⟩,fun _=>rfl⟩
   ·rw [zt (show (bW q).2 > 20000 from by omega)]
    exact ⟨[],2,rfl,⟨fun h=>by omega,fun hh=>absurd hh.1.2.2 h3⟩,fun h=>by omega⟩
  ·rw [zt (show gR q > 12 from by omega)]
   exact ⟨[],2,rfl,⟨fun h=>by omega,fun hh=>absurd hh.1.2.1 h2⟩,fun h=>by omega⟩
 ·rw [zt (show ((cU q).length : Int) > 24 from by omega)]
  exact ⟨[],2,rfl,⟨fun h=>by omega,fun hh=>absurd hh.1.1 h1⟩,fun h=>by omega⟩
abbrev eC (s : LSchema) (st : List LRelation) (args : Rq) : LRun := LRun.mk s st args [] [] []
structure Runs (s : LSchema) (st : List LRelation) (q : LQuery) (args : Rq) : Prop where
 size : SizeOk q
 kinds : nO (gU q)
 cols : (dW ⟨s,[]⟩ q).2 = 0
 inst : fI s st = some 0
 args : ArgsOk (gU q) args
theorem Runs.instOk {s : LSchema} {st : List LRelation} {q : LQuery} {args : Rq} (h : Runs s st q args) (hs : lQ s) : InstOk s st := by
 obtain ⟨e,he,hok⟩ := conforms hs st
 rw [h.inst] at he
 cases he
 exact hok rfl
theorem Runs.qok {s : LSchema} {st : List LRelation} {q : LQuery} {args : Rq} (h : Runs s st q args) (hq : SmallQ q) : QOk (eC s st args) q :=
 ⟨hq,h.cols,h.size.2.2,fun i k hm x hx=>(h.args.args i k hm).2.1 i x (Nat.le_refl _) hx⟩
theorem Runs.sub {s : LSchema} {st : List LRelation} {q x : LQuery} {args : Rq} (h : Runs s st q args) (hx : x ∈ q.inputs) : Runs s st x args := by
 have hp := params_sub hx
 refine ⟨⟨?_,?_,(gj h.size.2.2).2 x hx⟩,fun i k k' a b=>h.kinds i k k' (hp _ a) (hp _ b),(ms h.cols).2.1 x hx,h.inst,h.args.sub hp⟩
 ·have := kN hx; have := h.size.1; omega
 ·have := depthQ_sub hx; have := h.size.2.1; omega
theorem runs_tot {s : LSchema} (hs : lQ s) (st : List LRelation) {q : LQuery} (hq : SmallQ q) (args : Rq) : ∃ b,jh s st q args = some b ∧ (b = true → Runs s st q args) := by
 unfold jh jN
 rw [size_ok,bPs]
 obtain ⟨v,hv⟩ := validate_tot hs
 obtain ⟨cs,e,hc,he,_⟩ := check_eq (s := s) (vars := []) hq
 obtain ⟨f,hf,_⟩ := conforms hs st
 obtain ⟨g,hg,hga⟩ := args_ok hq.nodes args
 unfold lm
 rw [hv,hc,hf,hg]
 simp only [bPs]
 by_cases c1 : lM q 400 < 0
 ·rw [zt c1]; exact ⟨false,rfl,fun h=>by cases h⟩
 rw [zf c1,zd,bPs]
 by_cases c2 : v = 0
 ·rw [ml c2,zd,bPs]
  by_cases c3 : e = 0
  ·rw [jW c3,zc]
   by_cases c4 : (args.length : Int) ≤ 20
   ·rw [zt c4,zc]
    by_cases c5 : f = 0
    ·rw [jW c5,zc]
     refine ⟨g == 0,rfl,fun hg0=>?_⟩
     have hg0 : g = 0 := by simpa using hg0
     obtain ⟨a,b,c⟩ := he.1 c3
     exact ⟨a,b,c,by rw [hf,c5],hga.1 hg0⟩
    ·rw [dn c5]; exact ⟨false,rfl,fun h=>by cases h⟩
   ·rw [zf c4]; exact ⟨false,rfl,fun h=>by cases h⟩
  ·rw [dn c3]; exact ⟨false,rfl,fun h=>by cases h⟩
 ·rw [kX c2]; exact ⟨false,rfl,fun h=>by cases h⟩
theorem pj {s : LSchema} (hs : lQ s) {st : List LRelation} {q : LQuery} (hq : SmallQ q) {args : Rq} (h : Runs s st q args) :
  fj s st q args = some (LResult.mk (bs (eC s st args) q) (bi (eC s st args) q),true) := by
 unfold fj ic ik
 obtain ⟨cs,e,hc,he,hcs⟩ := check_eq (s := s) (vars := []) hq
 obtain ⟨g,hg,hga⟩ := args_ok hq.nodes args
 have e0 := he.2 ⟨h.size,h.kinds,h.cols⟩
 have g0 := hga.2 h.args
 have hr : RunOk (eC s st args) := ⟨rfl,rfl,rfl,h.instOk hs⟩
 have hok := rows_fit hr q (h.qok hq)
 have hlen : (bi (eC s st args) q).length ≤ 20000 := by
  have h1 := hok.len
  have h2 := h.size.2.2
  have h3 := (gj h2).1
  omega
 rw [hc,hg,h.inst]
 simp only [bPs]
 rw [ml e0,ml g0,zd,zd]
 simp only [ba,bPs,ci,bne_self_eq_false,zd]
 rw [rows_eq hr (h.qok hq),bPs]
 rw [pR (xs := bi (eC s st args) q) id (fun k x hk=>by
  have := (zg.1 hk).1
  rw [cR (by decide) (by simp; omega),bPs]
  rfl),bPs,ci,bPs,bPs,hcs e0]
 simp [bs]
theorem scans_ok : iL = some true := by
 unfold iL
 have hin : ((LQuery.mk 1 [116] [] [] [] [] 0 0 []) : LQuery).inputs = [] := rfl
 have hnodes : cU (LQuery.mk 1 [116] [] [] [] [] 0 0 []) = [LQuery.mk 1 [116] [] [] [] [] 0 0 []] := by rw [io,hin]; rfl
 have hparams : gU (LQuery.mk 1 [116] [] [] [] [] 0 0 []) = [] := by unfold gU; rw [hnodes]; rfl
 have hq : SmallQ (LQuery.mk 1 [116] [] [] [] [] 0 0 []) := ⟨by rw [hnodes]; decide,fun x hx=>by rw [hnodes] at hx; simp at hx; subst hx; exact ⟨by decide,by decide⟩⟩
 have hs : lQ (LSchema.mk [(LTable.mk [116] [(LCol.mk [97] 1 false)] [0])] [] []) := fun t ht=>by simp at ht; subst ht; decide
 have hcols : dW ⟨LSchema.mk [(LTable.mk [116] [(LCol.mk [97] 1 false)] [0])] [] [],[]⟩ (LQuery.mk 1 [116] [] [] [] [] 0 0 []) = ([LCol.mk [97] 1 false],0) := by
  rw [pX,hin]
  rfl
 have hruns : Runs (LSchema.mk [(LTable.mk [116] [(LCol.mk [97] 1 false)] [0])] [] []) [(LRelation.mk [116] [[(LVal.mk 1 1 [])],[(LVal.mk 1 2 [])]])] (LQuery.mk 1 [116] [] [] [] [] 0 0 []) [] := by
  refine ⟨⟨by rw [hnodes]; decide,by rw [mR,hin]; decide,by rw [ly,hin]; decide⟩,by rw [hparams]; intro i k k' a; simp at a,by rw [hcols],?_,⟨by rw [hparams]; intro i k k' a; simp at a,by rw [hparams]; intro i k a; simp at a⟩⟩
  rfl
 have he := pj hs hq hruns
 unfold fj at he
 cases ho : ic (LSchema.mk [(LTable.mk [116] [(LCol.mk [97] 1 false)] [0])] [] []) [(LRelation.mk [116] [[(LVal.mk 1 1 [])],[(LVal.mk 1 2 [])]])] (LQuery.mk 1 [116] [] [] [] [] 0 0 []) [] with
 | none=>rw [ho] at he; cases he
 | some o =>
  rw [ho,bPs] at he
  simp only [zo,Prod.mk.injEq] at he
  rw [bPs]
  rw [he.2,he.1,zc,et,hin]
  rfl
theorem eqLoop {α : Type} [DecidableEq α] (x y : List α) (hl : x.length = y.length) (g : α → α → Option Bool) (hg : ∀ a ∈ x,∀ b,g a b = some (decide (a = b))) :
  aj (ba (σ := Unit) (ρ := (Bool)) (fun (j1 : Nat) (x1 : α) (_ : Unit)=>aj (aF y (j1 : Int)) fun (x24 : α)=>aj (g x1 x24) fun x29=>cond (!x29) (some (.ret false)) (some (.next ()))) 0 x ()) (fun fl1=>fl1.thenR fun (_ : Unit)=>some true) = some (decide (x = y)) := by
 obtain ⟨fl,hfl,hr⟩ := fF (step := fun (j1 : Nat) (x1 : α) (_ : Unit)=>aj (aF y (j1 : Int)) fun (x24 : α)=>aj (g x1 x24) fun x29=>cond (!x29) (some (Flow.ret false)) (some (.next ())))
   (fun j _=>x.take j = y.take j) (fun r=>r = false ∧ x ≠ y) x 0 () (by simp) (fun k v s hk hI=>by
    simp only [Nat.zero_add] at hI ⊢
    have hkl := (zg.1 hk).1
    rw [fO (by omega),bPs,hg v (gK hk),bPs]
    by_cases hv : v = y[k]
    ·rw [zt hv]
     refine ⟨_,rfl,?_⟩
     simp only
     rw [List.take_add_one,List.take_add_one,hk,ze (by omega),hI,hv]
    ·rw [zf hv]
     refine ⟨_,rfl,rfl,fun he=>hv ?_⟩
     subst he
     exact (zg.1 hk).2.symm)
 rw [hfl,bPs]
 cases fl with
 | brk s=>exact absurd hr (by simp)
 | ret r=>rw [lR,hr.1,zf hr.2]
 | next s =>
  simp only [Nat.zero_add,List.take_length] at hr
  rw [hl,List.take_length] at hr
  rw [ii,zt hr]
structure TinyQ (q : LQuery) : Prop where
 nodes : (cU q).length ≤ 2000000
 here : ∀ x ∈ cU q,x.exprs.length ≤ 1000000 ∧ x.aggregates.length ≤ 1000000
theorem TinyQ.small {q : LQuery} (h : TinyQ q) : SmallQ q := ⟨by have := h.nodes; omega,h.here⟩
theorem oY {H : Type} : ∀ ds : List (DataW H),(ds.map (fun d=>Rows.uptoBulk d)).sum = Rows.uptoBulkAll ds
 | []=>by simp [Rows.uptoBulkAll]
 | d :: ds=>by simp only [List.map_cons,List.sum_cons,Rows.uptoBulkAll,oY ds]
theorem bulk_is : IsBulk (fun _ d=>Rows.uptoBulk d) where
 one := by
  intro H d
  cases d with
  | lit l=>cases l <;> simp [Rows.uptoBulk]
  | nil=>simp [Rows.uptoBulk]
  | ptr d=>simp [Rows.uptoBulk]
  | slice elems spare=>simp [Rows.uptoBulk]
  | agg parts=>simp [Rows.uptoBulk]
  | iface t d=>simp [Rows.uptoBulk]
  | map entries=>simp [Rows.uptoBulk]
  | held h=>simp [Rows.uptoBulk]
 str := by intro H l; simp [Rows.uptoBulk]
 slice := by intro H a b; rw [oY]; simp only [Rows.uptoBulk]; omega
 agg := by intro H a; rw [oY]; simp only [Rows.uptoBulk]; omega
theorem oC {r : List PV} : ∀ {rs : List (List PV)},r ∈ rs → cg r ≤ gi rs
 | x :: rs,h=>by
  simp only [gi]
  rcases List.mem_cons.1 h with rfl | h
  ·omega
  ·have := oC h; omega
theorem lS {α : Type} {f : α → List PV} {k : Nat} (hf : ∀ x,k ≤ cg (f x)) : ∀ l : List α,k * l.length ≤ gi (l.map f)
 | []=>by simp
 | x :: l=>by
  have := lS hf l
  have := hf x
  simp only [List.map_cons,gi,List.length_cons,Nat.mul_add]
  omega
theorem expr_pos (e : LExpr) : 2 ≤ cg (bc e) := by
 cases e; simp only [bc,cg,PV.bulk]; omega
theorem call_pos (c : LAggregateCall) : 2 ≤ cg (cl c) := by
 simp only [cl,cg,PV.bulk]; omega
theorem smallS_bulk {s : LSchema} {n : Nat} (hn : n ≤ 10000000) (h : cg (eA s) ≤ n) : lQ s := by
 intro t ht
 have h1 : gi (s.tables.map bA) ≤ cg (eA s) := by
  simp only [eA,cg,PV.bulk]; omega
 have h2 := oC (List.mem_map_of_mem (f := bA) ht)
 have h3 : gi (t.primaryKey.map bJ) ≤ cg (bA t) := by
  simp only [bA,cg,PV.bulk]; omega
 have h4 := lS (f := bJ) (k := 1) (fun x=>by simp [cg,PV.bulk]) t.primaryKey
 omega
theorem nodes_bulk : ∀ q : LQuery,(cU q).length + 1 ≤ cg (aX q) ∧ ∀ x ∈ cU q,2 * x.exprs.length ≤ cg (aX q) ∧ 2 * x.aggregates.length ≤ cg (aX q) := by
 apply LQuery.ind
 intro q ih
 have e : cg (aX q) = cg (bD q) := by rw [cK]
 have hr : gi (q.inputs.map aX) + 8 ≤ cg (bD q) := by
  simp only [bD,cg,PV.bulk]; omega
 have hsum : ∀ l : List LQuery,(∀ x ∈ l,x ∈ q.inputs) → ((l.map cU).flatten).length + l.length ≤ gi (l.map aX) := by
  intro l
  induction l with
  | nil=>intro _; simp
  | cons x l ihl =>
   intro hm
   have h1 := (ih x (hm x (by simp))).1
   have h2 := ihl (fun y hy=>hm y (by simp [hy]))
   simp only [List.map_cons,List.flatten_cons,List.length_append,List.length_cons,gi]
   omega
 have h0 := hsum q.inputs (fun _ h=>h)
 rw [e]
 refine ⟨?_,fun x hx=>?_⟩
 ·rw [io]; simp only [List.length_cons]; omega
 ·rw [io] at hx
  rcases List.mem_cons.1 hx with rfl | hx
  ·have h1 := lS expr_pos x.exprs
   have h2 := lS call_pos x.aggregates
   constructor
   ·simp only [bD,cg,PV.bulk]; omega
   ·simp only [bD,cg,PV.bulk]; omega
  ·simp only [List.mem_flatten,List.mem_map] at hx
   obtain ⟨l,⟨y,hy,rfl⟩,hx⟩ := hx
   have h1 := (ih y hy).2 x hx
   have h2 := oC (List.mem_map_of_mem (f := aX) hy)
   omega
theorem tiny_bulk {q : LQuery} {n : Nat} (hn : n ≤ 1048576) (h : cg (bD q) ≤ n) : TinyQ q := by
 rw [← cK] at h
 have := nodes_bulk q
 exact ⟨by omega,fun x hx=>by have := this.2 x hx; omega⟩
structure TinyN (n : Nat) (q : LQuery) : Prop where
 nodes : (cU q).length ≤ 2000000 + n
 here : ∀ x ∈ cU q,x.exprs.length ≤ 1000000 ∧ x.aggregates.length ≤ 1000000
theorem TinyN.small {n : Nat} {q : LQuery} (h : TinyN n q) (hn : n ≤ 1000000) : SmallQ q := ⟨by have := h.nodes; omega,h.here⟩
def nm (name : List UInt8) : LExpr := LExpr.mk 2 name 0 (LVal.mk 0 0 []) []
end
end Go.Proofs.YtgaggbdcedpapaaGreat
