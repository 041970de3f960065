/- rewriteApplyMatchesAlternativesUpto_holds, part 6: the layer, the plain functions and what they compute; conditions as in the statement. -/
import Derived.Test.YtlojdffmcdaheaaGreatDoorMae
set_option maxHeartbeats 4000000
namespace Go.Proofs.YtlojdffmcdaheaaGreatDoor
noncomputable section
open Go Go.Ab
theorem nE {H : Type} : ∀ ds : List (DataW H),(ds.map (fun d=>Rows.uptoBulk d)).sum = Rows.uptoBulkAll ds
 | []=>by simp [Rows.uptoBulkAll]
 | d :: ds=>by simp only [List.map_cons,List.sum_cons,Rows.uptoBulkAll,nE ds]
theorem bulk_is : IsBulk (fun _ d=>Rows.uptoBulk d) where
 one := by
  intro H d
  cases d with
  | lit l=>cases l <;> simp [Rows.uptoBulk]
  | nil=>simp [Rows.uptoBulk]
  | ptr d=>simp [Rows.uptoBulk]
  | slice elems spare=>simp [Rows.uptoBulk]
  | agg parts=>simp [Rows.uptoBulk]
  | iface t d=>simp [Rows.uptoBulk]
  | map entries=>simp [Rows.uptoBulk]
  | held h=>simp [Rows.uptoBulk]
 str := by intro H l; simp [Rows.uptoBulk]
 slice := by intro H a b; rw [nE]; simp only [Rows.uptoBulk]; omega
 agg := by intro H a; rw [nE]; simp only [Rows.uptoBulk]; omega
theorem fg {r : List PV} : ∀ {rs : List (List PV)},r ∈ rs → aK r ≤ dc rs
 | x :: rs,h=>by
  simp only [dc]
  rcases List.mem_cons.1 h with rfl | h
  ·omega
  ·have := fg h; omega
theorem ff {α : Type} {f : α → List PV} {k : Nat} (hf : ∀ x,k ≤ aK (f x)) : ∀ l : List α,k * l.length ≤ dc (l.map f)
 | []=>by simp
 | x :: l=>by
  have := ff hf l
  have := hf x
  simp only [List.map_cons,dc,List.length_cons,Nat.mul_add]
  omega
theorem lE (e : LExpr) : 2 ≤ aK (ak e) := by
 cases e; simp only [ak,aK,PV.bulk]; omega
theorem call_pos (c : LAggregateCall) : 2 ≤ aK (aQ c) := by
 simp only [aQ,aK,PV.bulk]; omega
theorem smallS_bulk {s : LSchema} {n : Nat} (hn : n ≤ 10000000) (h : aK (aD s) ≤ n) : SmallS s := by
 intro t ht
 have h1 : dc (s.tables.map cU) ≤ aK (aD s) := by
  simp only [aD,aK,PV.bulk]; omega
 have h2 := fg (List.mem_map_of_mem (f := cU) ht)
 have h3 : dc (t.primaryKey.map bH) ≤ aK (cU t) := by
  simp only [cU,aK,PV.bulk]; omega
 have h4 := ff (f := bH) (k := 1) (fun x=>by simp [aK,PV.bulk]) t.primaryKey
 omega
theorem nodes_bulk : ∀ q : LQuery,(bP q).length + 1 ≤ aK (ap q) ∧ ∀ x ∈ bP q,2 * x.exprs.length ≤ aK (ap q) ∧ 2 * x.aggregates.length ≤ aK (ap q) := by
 apply LQuery.ind
 intro q ih
 have e : aK (ap q) = aK (am q) := by rw [aH]
 have hr : dc (q.inputs.map ap) + 8 ≤ aK (am q) := by
  simp only [am,aK,PV.bulk]; omega
 have hsum : ∀ l : List LQuery,(∀ x ∈ l,x ∈ q.inputs) → ((l.map bP).flatten).length + l.length ≤ dc (l.map ap) := by
  intro l
  induction l with
  | nil=>intro _; simp
  | cons x l ihl =>
   intro hm
   have h1 := (ih x (hm x (by simp))).1
   have h2 := ihl (fun y hy=>hm y (by simp [hy]))
   simp only [List.map_cons,List.flatten_cons,List.length_append,List.length_cons,dc]
   omega
 have h0 := hsum q.inputs (fun _ h=>h)
 rw [e]
 refine ⟨?_,fun x hx=>?_⟩
 ·rw [cF]; simp only [List.length_cons]; omega
 ·rw [cF] at hx
  rcases List.mem_cons.1 hx with rfl | hx
  ·have h1 := ff lE x.exprs
   have h2 := ff call_pos x.aggregates
   constructor
   ·simp only [am,aK,PV.bulk]; omega
   ·simp only [am,aK,PV.bulk]; omega
  ·simp only [List.mem_flatten,List.mem_map] at hx
   obtain ⟨l,⟨y,hy,rfl⟩,hx⟩ := hx
   have h1 := (ih y hy).2 x hx
   have h2 := fg (List.mem_map_of_mem (f := ap) hy)
   omega
theorem tiny_bulk {q : LQuery} {n : Nat} (hn : n ≤ 1048576) (h : aK (am q) ≤ n) : TinyQ q := by
 rw [← aH] at h
 have := nodes_bulk q
 exact ⟨by omega,fun x hx=>by have := this.2 x hx; omega⟩
theorem args_lt {e a : LExpr} (h : a ∈ e.args) : SizeOf.sizeOf a < SizeOf.sizeOf e := by
 cases e
 have := List.sizeOf_lt_of_mem (show a ∈ _ from h)
 simp only [LExpr.mk.sizeOf_spec,LExpr.args] at *
 omega
theorem bulk_arg {e a : LExpr} (h : a ∈ e.args) : aK (ak a) ≤ aK (ak e) := by
 have h1 := fg (List.mem_map_of_mem (f := ak) h)
 rw [aS e]
 simp only [bl,aK,PV.bulk]
 omega
theorem args_bulk (e : LExpr) : e.args.length ≤ aK (ak e) := by
 have h1 := ff lE e.args
 rw [aS e]
 simp only [bl,aK,PV.bulk]
 omega
theorem subst_id : ∀ (n : Nat) (e : LExpr),SizeOf.sizeOf e ≤ n → aK (ak e) ≤ 1048576 → bC (n + 1) e [] [] = some e
 | 0,e,h,_=>by cases e; simp at h
 | n + 1,e,h,hb=>by
  have ih := fun a (ha : a ∈ e.args)=>subst_id n a (by have := args_lt ha; omega) (by have := bulk_arg ha; omega)
  have hl := args_bulk e
  rw [bC]
  unfold eJ
  have hi : bQ [] e.name = some (-1) := rfl
  rw [hi]
  have hr := rMa (step := fun (_ : Nat) (x2 : LExpr) (s2 : List LExpr)=>ag (bC (n + 1) x2 [] []) fun x45=>ag (bS 88 s2 ([x45] : List LExpr)) fun (x47 : List LExpr)=>some (Flow.next (ρ := Empty) x47)) (xs := e.args) (s := [])
   (fun k=>e.args.take k) (by simp) (fun k x hk=>by
    have hkl := (zg.1 hk).1
    rw [ih x (cy hk),bPs,bL (by decide) (by simp; omega),bPs,List.take_add_one,hk]
    rfl)
  rw [hr]
  cases e.kind == 2 <;> cases e <;> simp [bPs,Flow.thenR,Flow.thenP,LExpr.kind,LExpr.name,LExpr.index,LExpr.value,LExpr.args]
theorem clone_eq {e : LExpr} (hb : aK (ak e) ≤ 1048576) : dL e = some e := by
 unfold dL
 refine gX (SizeOf.sizeOf e + 2) fun m hm=>?_
 obtain ⟨m,rfl⟩ : ∃ k,m = k + 2 := ⟨m - 2,by omega⟩
 rw [fN]
 unfold jF
 show (ag (bC (m + 1) e [] []) fun x4=>some x4) = some e
 rw [subst_id m e (by omega) hb]
 rfl
def mh (e : LExpr) : Bool := e.kind == 5 && (e.name == [97,110,100] && e.args.length == 2)
mutual
def ij : LExpr → List LExpr
 | .mk k n i x args=>if k == 5 && (n == [97,110,100] && args.length == 2) then conjEs args else [.mk k n i x args]
def conjEs : List LExpr → List LExpr
 | []=>[]
 | e :: r=>ij e ++ conjEs r
end
theorem oX (e : LExpr) : ij e = if mh e then conjEs e.args else [e] := by cases e; rw [ij]; rfl
theorem oY {e : LExpr} (h : mh e = true) : e.kind = 5 ∧ e.name = [97,110,100] ∧ ∃ a b,e.args = [a,b] := by
 simp only [mh,Bool.and_eq_true,beq_iff_eq] at h
 exact ⟨h.1,h.2.1,len2 h.2.2⟩
theorem conj_two {e a b : LExpr} (h : mh e = true) (hab : e.args = [a,b]) : ij e = ij a ++ ij b := by
 rw [oX,zp h,hab]
 simp [conjEs]
theorem args_two {e a b : LExpr} (hab : e.args = [a,b]) : aK (ak a) + aK (ak b) ≤ aK (ak e) := by
 rw [aS e]
 simp only [bl,aK,PV.bulk,hab,List.map_cons,List.map_nil,dc]
 omega
theorem lh (e : LExpr) : (ij e).length ≤ aK (ak e) := by
 induction e using LExpr.ind with
 | _ e ih =>
  by_cases h : mh e = true
  ·obtain ⟨_,_,a,b,hab⟩ := oY h
   have h1 := ih a (by rw [hab]; simp)
   have h2 := ih b (by rw [hab]; simp)
   have h3 := args_two hab
   rw [conj_two h hab,List.length_append]
   omega
  ·rw [oX,zy h]
   have := lE e
   simp
   omega
theorem conj_ev (e : LExpr) : aK (ak e) ≤ 1048576 → ∃ N,∀ n,N ≤ n → fq n e = some (ij e) := by
 induction e using LExpr.ind with
 | _ e ih =>
  intro hb
  by_cases h : mh e = true
  ·obtain ⟨hk,hn,a,b,hab⟩ := oY h
   have h3 := args_two hab
   obtain ⟨N1,h1⟩ := ih a (by rw [hab]; simp) (by omega)
   obtain ⟨N2,h2⟩ := ih b (by rw [hab]; simp) (by omega)
   refine ⟨N1 + N2 + 1,fun n hn'=>?_⟩
   obtain ⟨n,rfl⟩ : ∃ k,n = k + 1 := ⟨n - 1,by omega⟩
   have la := lh a
   have lb := lh b
   have g0 : aR [a,b] 0 = some a := rfl
   have g1 : aR [a,b] 1 = some b := rfl
   rw [fq]
   unfold ig
   rw [hk,hn,hab,conj_two h hab]
   simp only [beq_self_eq_true,zc,bg,g0,g1,bPs,h1 n (by omega),h2 n (by omega)]
   rw [show ((([a,b] : List LExpr).length : Int) == 2) = true from rfl,zc,bL (by decide) (by omega)]
   rfl
  ·refine ⟨1,fun n hn'=>?_⟩
   obtain ⟨n,rfl⟩ : ∃ k,n = k + 1 := ⟨n - 1,by omega⟩
   have hc : (cond (e.kind == (5 : Int)) (cond (e.name == ([97,110,100] : List UInt8)) (((e.args.length : Int) == (2 : Int))) (false)) (false)) = false := by
    have h' : mh e = false := by simpa using h
    unfold mh at h'
    rw [← h']
    rw [show ((e.args.length : Int) == (2 : Int)) = (e.args.length == 2) from natE _ 2]
    cases e.kind == (5 : Int) <;> cases e.name == ([97,110,100] : List UInt8) <;> rfl
   rw [fq]
   unfold ig
   rw [hc,bg,zd,clone_eq hb,oX,zy h]
   rfl
theorem ql {e : LExpr} (hb : aK (ak e) ≤ 1048576) : gd e = some (ij e) := by
 obtain ⟨N,h⟩ := conj_ev e hb
 exact gX N h
def TinyE (q : LQuery) : Prop := ∀ x ∈ bP q,∀ e ∈ x.exprs,aK (ak e) ≤ 1048576
theorem TinyE.e0 {q : LQuery} (h : TinyE q) (hl : q.exprs.length = 1) : aK (ak (e0Q q)) ≤ 1048576 := h q (oU q) _ (e0_mem hl)
theorem tinyE_bulk : ∀ q : LQuery,aK (ap q) ≤ 1048576 → TinyE q := by
 apply LQuery.ind
 intro q ih h x hx e he
 have e1 : aK (ap q) = aK (am q) := by rw [aH]
 rw [e1] at h
 rw [cF] at hx
 rcases List.mem_cons.1 hx with rfl | hx
 ·have h1 := fg (List.mem_map_of_mem (f := ak) he)
  simp only [am,aK,PV.bulk] at h
  omega
 ·simp only [List.mem_flatten,List.mem_map] at hx
  obtain ⟨l,⟨y,hy,rfl⟩,hx⟩ := hx
  have h2 := fg (List.mem_map_of_mem (f := ap) hy)
  simp only [am,aK,PV.bulk] at h
  exact ih y hy (by omega) x hx e he
theorem iz {α σ β : Type} {step : Nat → α → σ → Option (Flow σ Empty)} {k : σ → Option β} {R : β → Prop} {xs : List α} {s0 : σ} (I : Nat → σ → Prop) (h0 : I 0 s0)
  (hs : ∀ j x s,xs[j]? = some x → I j s → ∃ s',step j x s = some (.next s') ∧ I (j + 1) s') (hk : ∀ s,I xs.length s → ∃ r,k s = some r ∧ R r) :
  ∃ r,ag (aI step 0 xs s0) (fun fl=>fl.thenP k) = some r ∧ R r := by
 obtain ⟨fl,h1,h2⟩ := ix (step := step) I (fun _=>False) xs 0 s0 h0 (fun j x s hj hI=>by
  rw [Nat.zero_add] at hI ⊢
  obtain ⟨s',h1,h2⟩ := hs j x s hj hI
  exact ⟨_,h1,h2⟩)
 rw [h1]
 cases fl with
 | next s=>simp only [Nat.zero_add] at h2; exact hk s h2
 | brk s=>exact absurd h2 (by simp)
 | ret r=>exact r.elim
structure CQ (s : LSchema) (q : LQuery) : Prop where
 bulk : aK (am q) ≤ 1048576
 size : SizeOk q
 kinds : qk (jP q)
 cols : (el ⟨s,[]⟩ q).2 = 0
theorem CQ.small {s : LSchema} {q : LQuery} (h : CQ s q) : SmallQ q := (tiny_bulk (Nat.le_refl _) h.bulk).small
theorem CQ.tiny {s : LSchema} {q : LQuery} (h : CQ s q) : TinyE q := tinyE_bulk q (by rw [aH]; exact h.bulk)
theorem bulk_sub {q x : LQuery} (h : x ∈ q.inputs) : aK (am x) ≤ aK (am q) := by
 have h2 := fg (List.mem_map_of_mem (f := ap) h)
 rw [aH] at h2
 cases q
 simp only [am,aK,PV.bulk,LQuery.inputs] at h2 ⊢
 omega
theorem CQ.sub {s : LSchema} {q x : LQuery} (h : CQ s q) (hx : x ∈ q.inputs) : CQ s x := by
 have hp := params_sub hx
 refine ⟨Nat.le_trans (bulk_sub hx) h.bulk,⟨?_,?_,(most_inv h.size.2.2).2 x hx⟩,fun i k k' a b=>h.kinds i k k' (hp _ a) (hp _ b),(cols_inv h.cols).2.1 x hx⟩
 ·have := iB hx; have := h.size.1; omega
 ·have := depthQ_sub hx; have := h.size.2.1; omega
theorem fp {s : LSchema} {q : LQuery} (h : CQ s q) : bI s q = some ((el ⟨s,[]⟩ q).1,0) := by
 obtain ⟨cs,e,hc,he,hcs⟩ := mO (s := s) (vars := []) h.small
 have e0 : e = 0 := he.2 ⟨h.size,h.kinds,h.cols⟩
 unfold bI
 rw [hc,bPs,e0,hcs e0]
theorem valid_tot {s : LSchema} (hs : SmallS s) {q : LQuery} (hq : aK (am q) ≤ 1048576) : ∃ b,gN s q = some b ∧ (b = true → CQ s q) := by
 unfold gN
 rw [size_ok,bPs]
 obtain ⟨v,hv⟩ := validate_tot hs
 have hsm : SmallQ q := (tiny_bulk (Nat.le_refl _) hq).small
 obtain ⟨cs,e,hc,he,_⟩ := mO (s := s) (vars := []) hsm
 unfold bI
 rw [hv,hc]
 simp only [bPs]
 by_cases c1 : kH q 400 < 0
 ·rw [zt c1]; exact ⟨false,rfl,fun h=>by cases h⟩
 rw [zf c1,zd,bPs]
 by_cases c2 : v = 0
 ·rw [bneF c2,zd]
  refine ⟨_,rfl,fun h=>?_⟩
  have h : e = 0 := by simpa using h
  obtain ⟨a,b,c⟩ := he.1 h
  exact ⟨hq,a,b,c⟩
 ·rw [bneT c2]; exact ⟨false,rfl,fun h=>by cases h⟩
theorem appI_mid {α : Type} {bytes : Nat} {xs ys : List α} (hb : bytes ≤ 200) (h : xs.length + ys.length ≤ 100000000) : bS bytes xs ys = some (xs ++ ys) := by
 refine appI_ok ?_ (by unfold maxLen; omega)
 have := Nat.mul_le_mul h hb
 omega
theorem indexO (l : List (List UInt8)) (v : List UInt8) (h : l.length ≤ 10000000) : ∃ i,cY l v = some (i,l) := by
 unfold cY
 rw [pH (by omega),bPs,Int.toNat_natCast]
 obtain ⟨fl,h1,h2⟩ := ix (step := fun (j1 : Nat) (_ : Nat) (s1 : List (List UInt8)) =>
  ag (aR s1 (j1 : Int)) fun (x14 : List UInt8) =>
  cond (v == x14)
   (some (.ret ((j1 : Int),s1)))
   (some (.next s1))) (fun _ s=>s = l) (fun r : Int × List (List UInt8)=>r.2 = l) (List.range l.length) 0 l rfl (fun k x s hk hI=>by
  subst hI
  have hlt := (zg.1 hk).1
  rw [List.length_range] at hlt
  rw [Nat.zero_add,iG (ze hlt),bPs]
  cases v == s[k] with
  | true=>exact ⟨_,rfl,rfl⟩
  | false=>exact ⟨_,rfl,rfl⟩)
 rw [h1]
 cases fl with
 | next s=>exact ⟨-1,by rw [show s = l from h2]; rfl⟩
 | brk s=>exact absurd h2 (by simp)
 | ret r=>exact ⟨r.1,by rw [← (show r.2 = l from h2)]; rfl⟩
theorem contO (l : List (List UInt8)) (v : List UInt8) (h : l.length ≤ 10000000) : ∃ b,cq l v = some (b,l) := by
 obtain ⟨i,hi⟩ := indexO l v h
 unfold cq
 rw [hi,bPs,oS rfl,bPs]
 exact ⟨_,rfl⟩
theorem pK {β : Type} {F : Nat → Option β} {v : Option β} (n : Nat) (h : ∀ m,n ≤ m → F m = v) : fe F = v := by
 cases v with
 | some r=>exact gX n h
 | none =>
  cases hl : fe F with
  | none=>rfl
  | some r =>
   obtain ⟨k,hk⟩ := limN_ev hl
   have := hk (max n k) (Nat.le_max_right n k)
   rw [h _ (Nat.le_max_left n k)] at this
   cases this
theorem names_both (e : LExpr) : (∃ N,∀ n,N ≤ n → ∀ k l,gu n e k l = eX e k l) ∧ ∀ k l,eX e k l = fL eX e k l := by
 induction e using LExpr.ind with
 | _ e ih =>
  obtain ⟨N,hN⟩ := jE (p := fun x n=>∀ k l,gu n x k l = eX x k l) e.args fun x hx=>(ih x hx).1
  have key : ∀ n,N + 1 ≤ n → ∀ k l,gu n e k l = fL eX e k l := by
   intro n hn k l
   obtain ⟨n,rfl⟩ : ∃ k,n = k + 1 := ⟨n - 1,by omega⟩
   show fL (fun b0 b1 b2=>gu n b0 b1 b2) e k l = _
   simp only [fL]
   congr 1
   funext t1
   congr 1
   funext t2
   congr 1
   exact ii e.args 0 _ fun j x s hj=>by rw [hN n (by omega) x (cy hj)]
  have e1 : ∀ k l,eX e k l = fL eX e k l := fun k l=>pK (N + 1) fun n hn=>key n hn k l
  exact ⟨⟨N + 1,fun n hn k l=>by rw [key n hn,e1]⟩,e1⟩
theorem rows_drop {xs : List LExpr} {j : Nat} {x : LExpr} (h : xs[j]? = some x) : dc ((xs.drop j).map ak) = aK (ak x) + dc ((xs.drop (j + 1)).map ak) := by
 obtain ⟨hlt,he⟩ := zg.1 h
 rw [List.drop_eq_getElem_cons hlt,he,List.map_cons]
 simp only [dc]
theorem nargs_bulk (e : LExpr) : dc (e.args.map ak) + 2 ≤ aK (ak e) := by
 rw [aS e]
 simp only [bl,aK,PV.bulk]
 omega
theorem names_tot2 (e : LExpr) : ∀ l : List (List UInt8),l.length + aK (ak e) ≤ 10000000 → ∃ l',eX e 2 l = some l' ∧ l'.length ≤ l.length + aK (ak e) := by
 induction e using LExpr.ind with
 | _ e ih =>
  intro l hl
  have hb := nargs_bulk e
  rw [(names_both e).2]
  unfold fL
  obtain ⟨b,hb1⟩ := contO l e.name (by omega)
  have ht : ∃ b2,(cond (e.kind == (2 : Int)) (ag (cq l e.name) fun x17=>ag (lM (x17.2.length = l.length) ()) fun (_ : Unit)=>some (x17.2,(!x17.1))) (some (l,false))) = some (l,b2) := by
   cases e.kind == (2 : Int) with
   | true=>exact ⟨!b,by rw [zc,hb1,bPs,oS rfl,bPs]⟩
   | false=>exact ⟨false,rfl⟩
  obtain ⟨b2,ht⟩ := ht
  rw [ht,bPs]
  have hu : ∃ l1,(cond b2 (ag (bS 16 l ([e.name] : List (List UInt8))) fun (x24 : List (List UInt8))=>some x24) (some l)) = some l1 ∧ l1.length ≤ l.length + 1 := by
   cases b2 with
   | true=>exact ⟨l ++ [e.name],by rw [zc,bL (by decide) (by simp; omega),bPs],by simp⟩
   | false=>exact ⟨l,rfl,by omega⟩
  obtain ⟨l1,hu,hu1⟩ := hu
  simp only
  rw [hu,bPs]
  refine iz (R := fun l' : List (List UInt8)=>l'.length ≤ l.length + aK (ak e)) (fun j s=>s.length + dc ((e.args.drop j).map ak) ≤ l.length + aK (ak e)) (by rw [List.drop_zero]; omega) (fun j x s hj hI=>?_) (fun s hI=>?_)
  ·rw [rows_drop hj] at hI
   obtain ⟨l',h1,h2⟩ := ih x (cy hj) s (by omega)
   exact ⟨l',by rw [h1,bPs],by omega⟩
  ·exact ⟨s,rfl,by omega⟩
theorem columns_tot {e : LExpr} (hb : aK (ak e) ≤ 1048576) : ∃ l,iT e = some l := by
 obtain ⟨l,h,_⟩ := names_tot2 e [] (by simp; omega)
 unfold iT
 rw [h,bPs]
 exact ⟨l,rfl⟩
theorem bulk_exprs {q : LQuery} {e : LExpr} (h : e ∈ q.exprs) : aK (ak e) ≤ aK (am q) := by
 have h2 := fg (List.mem_map_of_mem (f := ak) h)
 simp only [am,aK,PV.bulk]
 omega
theorem bulk_agg {q : LQuery} {a : LAggregateCall} (h : a ∈ q.aggregates) : aK (aQ a) ≤ aK (am q) := by
 have h2 := fg (List.mem_map_of_mem (f := aQ) h)
 simp only [am,aK,PV.bulk] at h2 ⊢
 omega
theorem bulk_args {a : LAggregateCall} {e : LExpr} (h : e ∈ a.args) : aK (ak e) ≤ aK (aQ a) := by
 have h2 := fg (List.mem_map_of_mem (f := ak) h)
 simp only [aQ,aK,PV.bulk]
 omega
theorem args_len (a : LAggregateCall) : 2 * a.args.length ≤ aK (aQ a) := by
 have := ff (f := ak) (k := 2) lE a.args
 simp only [aQ,aK,PV.bulk]
 omega
theorem pQ (e : LExpr) : ∀ c ∈ ij e,aK (ak c) ≤ aK (ak e) := by
 induction e using LExpr.ind with
 | _ e ih =>
  intro c hc
  by_cases h : mh e = true
  ·obtain ⟨_,_,a,b,hab⟩ := oY h
   have h3 := args_two hab
   rw [conj_two h hab] at hc
   rcases List.mem_append.1 hc with hc | hc
   ·have := ih a (by rw [hab]; simp) c hc; omega
   ·have := ih b (by rw [hab]; simp) c hc; omega
  ·rw [oX,zy h] at hc
   rw [List.mem_singleton.1 hc]
   exact Nat.le_refl _
inductive ArgsE : LExpr → Prop
 | mk {e : LExpr} (h : e.args.length ≤ 1000000) (h' : ∀ a ∈ e.args,ArgsE a) : ArgsE e
theorem ArgsE.len {e : LExpr} (h : ArgsE e) : e.args.length ≤ 1000000 := by cases h with | mk h _=>exact h
theorem ArgsE.sub {e a : LExpr} (h : ArgsE e) (ha : a ∈ e.args) : ArgsE a := by cases h with | mk _ h'=>exact h' a ha
theorem mu (e : LExpr) : aK (ak e) ≤ 1048576 → ArgsE e := by
 induction e using LExpr.ind with
 | _ e ih =>
  intro hb
  have h1 := ff lE e.args
  have h2 := nargs_bulk e
  exact .mk (by omega) fun a ha=>ih a ha (by have := bulk_arg ha; omega)
theorem subst_idA : ∀ (n : Nat) (e : LExpr),SizeOf.sizeOf e ≤ n → ArgsE e → bC (n + 1) e [] [] = some e
 | 0,e,h,_=>by cases e; simp at h
 | n + 1,e,h,hb=>by
  have ih := fun a (ha : a ∈ e.args)=>subst_idA n a (by have := args_lt ha; omega) (hb.sub ha)
  have hl := hb.len
  rw [bC]
  unfold eJ
  have hi : bQ [] e.name = some (-1) := rfl
  rw [hi]
  have hr := rMa (step := fun (_ : Nat) (x2 : LExpr) (s2 : List LExpr)=>ag (bC (n + 1) x2 [] []) fun x45=>ag (bS 88 s2 ([x45] : List LExpr)) fun (x47 : List LExpr)=>some (Flow.next (ρ := Empty) x47)) (xs := e.args) (s := [])
   (fun k=>e.args.take k) (by simp) (fun k x hk=>by
    have hkl := (zg.1 hk).1
    rw [ih x (cy hk),bPs,bL (by decide) (by simp; omega),bPs,List.take_add_one,hk]
    rfl)
  rw [hr]
  cases e.kind == 2 <;> cases e <;> simp [bPs,Flow.thenR,Flow.thenP,LExpr.kind,LExpr.name,LExpr.index,LExpr.value,LExpr.args]
theorem clone_evA {e : LExpr} (h : ArgsE e) : ∀ m,SizeOf.sizeOf e + 2 ≤ m → fN m e = some e := fun m hm=>by
 obtain ⟨m,rfl⟩ : ∃ k,m = k + 2 := ⟨m - 2,by omega⟩
 rw [fN]
 unfold jF
 show (ag (bC (m + 1) e [] []) fun x4=>some x4) = some e
 rw [subst_idA m e (by omega) h]
 rfl
theorem nM {e : LExpr} (h : ArgsE e) : dL e = some e := gX _ (clone_evA h)
theorem subst_ev (names : List (List UInt8)) {l : List LExpr} (hl : ∀ x ∈ l,ArgsE x) (e : LExpr) : ArgsE e → ∃ N r,(∀ n,N ≤ n → bC n e names l = some r) ∧ ArgsE r := by
 induction e using LExpr.ind with
 | _ e ih =>
  intro he
  have hall : ∀ a ∈ e.args,∃ N r,(∀ n,N ≤ n → bC n a names l = some r) ∧ ArgsE r := fun a ha=>ih a ha (he.sub ha)
  let g : LExpr → LExpr := fun a=>(dF a names l).getD a
  have hg : ∀ a ∈ e.args,(∃ N,∀ n,N ≤ n → bC n a names l = some (g a)) ∧ ArgsE (g a) := fun a ha=>by
   obtain ⟨N,r,h1,h2⟩ := hall a ha
   have : g a = r := by show (dF a names l).getD a = r; rw [show dF a names l = some r from gX N h1]; rfl
   rw [this]
   exact ⟨⟨N,h1⟩,h2⟩
  obtain ⟨N,hN⟩ := jE (p := fun a n=>bC n a names l = some (g a)) e.args fun a ha=>(hg a ha).1
  have hidx : bQ names e.name = some (bY (fun x=>e.name == x) names) := by
   unfold bQ
   exact idxF2
  -- the arguments,one by one
  have loop : ∀ n,N ≤ n → aI (σ := List LExpr) (ρ := Empty) (fun (_ : Nat) (x2 : LExpr) (s2 : List LExpr) =>
    ag ((fun b0 b1 b2=>bC n b0 b1 b2) x2 names l) fun x45 =>
    ag (bS 88 s2 ([x45] : List LExpr)) fun (x47 : List LExpr) =>
    some (.next x47)) 0 e.args [] = some (.next (e.args.map g)) := fun n hn=>gT g (fun k x hk=>by
   have hkl := (zg.1 hk).1
   have := he.len
   dsimp only
   rw [hN n hn x (cy hk),bPs,bL (by decide) (by simp; omega),bPs])
  have hargs : ArgsE (LExpr.mk e.kind e.name e.index e.value (e.args.map g)) := by
   refine .mk (by simp only [LExpr.args,zl]; exact he.len) fun a ha=>?_
   simp only [LExpr.args,List.mem_map] at ha
   obtain ⟨b,hb,rfl⟩ := ha
   exact (hg b hb).2
  by_cases hcase : e.kind = 2 ∧ 0 ≤ bY (fun x=>e.name == x) names ∧ bY (fun x=>e.name == x) names < (l.length : Int)
  ·obtain ⟨hk,h0,h1⟩ := hcase
   have hlt : (bY (fun x=>e.name == x) names).toNat < l.length := by omega
   have hx := hl _ (List.getElem_mem hlt)
   refine ⟨SizeOf.sizeOf l[(bY (fun x=>e.name == x) names).toNat] + 3,l[(bY (fun x=>e.name == x) names).toNat],fun n hn=>?_,hx⟩
   obtain ⟨n,rfl⟩ : ∃ k,n = k + 1 := ⟨n - 1,by omega⟩
   rw [bC]
   unfold eJ
   rw [ek hk,zc,hidx,bPs,zt h0,zc,zt h1,zc,kw h0 (ze hlt),bPs]
   dsimp only
   rw [clone_evA hx n (by omega)]
   rfl
  ·refine ⟨N + 1,LExpr.mk e.kind e.name e.index e.value (e.args.map g),fun n hn=>?_,hargs⟩
   obtain ⟨n,rfl⟩ : ∃ k,n = k + 1 := ⟨n - 1,by omega⟩
   rw [bC]
   unfold eJ
   rw [hidx,loop n (by omega)]
   by_cases hk : e.kind = 2
   ·rw [ek hk,zc,bPs]
    by_cases h0 : 0 ≤ bY (fun x=>e.name == x) names
    ·rw [zt h0,zc,zf (fun h1=>hcase ⟨hk,h0,h1⟩),zd]
     rfl
    ·rw [zf h0,zd]
     rfl
   ·rw [bG hk,zd]
    rfl
theorem mC (names : List (List UInt8)) {l : List LExpr} (hl : ∀ x ∈ l,ArgsE x) {e : LExpr} (he : ArgsE e) : ∃ r,dF e names l = some r ∧ ArgsE r := by
 obtain ⟨N,r,h1,h2⟩ := subst_ev names hl e he
 exact ⟨r,gX N h1,h2⟩
theorem gA {l : List LExpr} (hl : ∀ x ∈ l,ArgsE x) : ∃ r,cL l = some r ∧ ArgsE r := by
 unfold cL
 cases l with
 | nil=>exact ⟨_,rfl,.mk (by simp [LExpr.args]) (by simp [LExpr.args])⟩
 | cons x xs =>
  have hx := hl x (by simp)
  rw [show (((x :: xs).length : Int) == (0 : Int)) = false from by simp; omega,zd,show aR (x :: xs) 0 = some x from rfl,bPs,nM hx,bPs]
  have hs : kG (x :: xs) 1 ((x :: xs).length : Int) = some xs := by
   unfold kG
   rw [zp ⟨by omega,by simp only [List.length_cons]; omega,by omega⟩]
   simp
  rw [hs,bPs]
  refine iz (R := ArgsE) (fun _ s=>ArgsE s) hx (fun j y s hj hI=>?_) (fun s hI=>⟨s,rfl,hI⟩)
  have hy := hl y (by simp [cy hj])
  refine ⟨_,by rw [nM hy,bPs],.mk (by simp [LExpr.args]) fun a ha=>?_⟩
  simp only [LExpr.args,List.mem_cons,List.mem_nil_iff,or_false] at ha
  rcases ha with rfl | rfl
  ·exact hI
  ·exact hy
structure NodeOk (x : LQuery) : Prop where
 exprs : x.exprs.length ≤ 1000000
 aggs : x.aggregates.length ≤ 1000000
 ins : x.inputs.length ≤ 1000000
 args : ∀ e ∈ x.exprs,ArgsE e
 calls : ∀ a ∈ x.aggregates,a.args.length ≤ 1000000 ∧ ∀ e ∈ a.args,ArgsE e
def GQ (q : LQuery) : Prop := ∀ x ∈ bP q,NodeOk x
theorem GQ.self {q : LQuery} (h : GQ q) : NodeOk q := h q (oU q)
theorem GQ.sub {q x : LQuery} (h : GQ q) (hx : x ∈ q.inputs) : GQ x := fun y hy=>h y (pZ hx hy)
theorem GQ.mk {q : LQuery} (h : NodeOk q) (hx : ∀ x ∈ q.inputs,GQ x) : GQ q := fun y hy=>by
 rw [cF] at hy
 rcases List.mem_cons.1 hy with rfl | hy
 ·exact h
 ·obtain ⟨l,hl,hy⟩ := List.mem_flatten.1 hy
  obtain ⟨x,hx',rfl⟩ := List.mem_map.1 hl
  exact hx x hx' y hy
theorem GQ.small {q : LQuery} (h : GQ q) (hn : (bP q).length ≤ 10000000) : SmallQ q := ⟨hn,fun x hx=>⟨(h x hx).exprs,(h x hx).aggs⟩⟩
theorem query_pos (q : LQuery) : 2 ≤ aK (ap q) := by rw [aH]; simp only [am,aK,PV.bulk,ae]; omega
theorem gq_bulk : ∀ q : LQuery,aK (am q) ≤ 1048576 → GQ q := by
 refine LQuery.ind fun q ih hb=>?_
 have h1 := ff (f := ak) lE q.exprs
 have h2 := ff (f := aQ) call_pos q.aggregates
 have h3 := ff (f := ap) query_pos q.inputs
 have hb' := hb
 simp only [am,aK,PV.bulk] at hb'
 refine GQ.mk ⟨by omega,by omega,by omega,fun e he=>mu e (Nat.le_trans (bulk_exprs he) hb),fun a ha=>?_⟩ (fun x hx=>ih x hx (Nat.le_trans (bulk_sub hx) hb))
 have hba := Nat.le_trans (bulk_agg ha) hb
 have hla := args_len a
 exact ⟨by omega,fun e he=>mu e (Nat.le_trans (bulk_args he) hba)⟩
theorem CQ.gq {s : LSchema} {q : LQuery} (h : CQ s q) : GQ q := gq_bulk q h.bulk
theorem exprs_eqA {l : List LExpr} (hl : l.length ≤ 1000000) (hb : ∀ e ∈ l,ArgsE e) : fj l = some l := by
 unfold fj
 rw [gT (xs := l) id (fun k x hk=>by
  have hlt := (zg.1 hk).1
  rw [nM (hb x (cy hk)),bPs,bL (by decide) (by simp; omega),bPs]
  rfl),bPs,bJ,List.map_id]
theorem loopE {q : LQuery} (h : NodeOk q) : aI (σ := List LExpr) (ρ := Empty) (fun (_ : Nat) (x1 : LExpr) (s1 : List LExpr) =>
  ag (dL x1) fun x32 =>
  ag (bS 88 s1 ([x32] : List LExpr)) fun (x34 : List LExpr) =>
  some (.next x34)) 0 q.exprs [] = some (.next q.exprs) := by
 rw [gT (xs := q.exprs) id (fun k x hk=>by
  have hlt := (zg.1 hk).1
  have := h.exprs
  rw [nM (h.args x (cy hk)),bPs,bL (by decide) (by simp; omega),bPs]
  rfl),List.map_id]
theorem loopA {q : LQuery} (h : NodeOk q) : aI (σ := List LAggregateCall) (ρ := Empty) (fun (_ : Nat) (x2 : LAggregateCall) (s2 : List LAggregateCall) =>
  ag (fj x2.args) fun x52 =>
  ag (bS 56 s2 ([(LAggregateCall.mk x2.name x2.function x52)] : List LAggregateCall)) fun (x55 : List LAggregateCall) =>
  some (.next x55)) 0 q.aggregates [] = some (.next q.aggregates) := by
 rw [gT (xs := q.aggregates) id (fun k x hk=>by
  have hlt := (zg.1 hk).1
  have := h.aggs
  obtain ⟨ha,hb⟩ := h.calls x (cy hk)
  rw [exprs_eqA ha hb,bPs,bL (by decide) (by simp; omega),bPs]
  rfl),List.map_id]
theorem cloneG_ev : ∀ q : LQuery,GQ q → ∃ N,∀ n,N ≤ n → gL n q = some q := by
 refine LQuery.ind fun q ih h=>?_
 obtain ⟨N,hN⟩ := jE (p := fun x n=>gL n x = some x) q.inputs fun x hx=>ih x hx (h.sub hx)
 refine ⟨N + 1,fun n hn=>?_⟩
 obtain ⟨n,rfl⟩ : ∃ k,n = k + 1 := ⟨n - 1,by omega⟩
 rw [gL]
 unfold km
 rw [loopE h.self,bPs,bJ,loopA h.self,bPs,bJ]
 rw [gT (xs := q.inputs) id (fun k x hk=>by
  have hlt := (zg.1 hk).1
  have := h.self.ins
  dsimp only
  rw [hN n (by omega) x (cy hk),bPs,bL (by decide) (by simp; omega),bPs]
  rfl),bPs,bJ,List.map_id]
 cases q
 rfl
theorem cloneG {q : LQuery} (h : GQ q) : ip q = some q := by
 obtain ⟨N,h⟩ := cloneG_ev q h
 exact gX N h
theorem loopI {q : LQuery} (h : GQ q) : aI (σ := List LQuery) (ρ := Empty) (fun (_ : Nat) (x3 : LQuery) (s3 : List LQuery) =>
  ag (ip x3) fun x68 =>
  ag (bS 160 s3 ([x68] : List LQuery)) fun (x70 : List LQuery) =>
  some (.next x70)) 0 q.inputs [] = some (.next q.inputs) := by
 rw [gT (xs := q.inputs) id (fun k x hk=>by
  have hlt := (zg.1 hk).1
  have := h.self.ins
  rw [cloneG (h.sub (cy hk)),bPs,bL (by decide) (by simp; omega),bPs]
  rfl),List.map_id]
theorem mY {q : LQuery} (h : GQ q) : eR q = some q := by
 unfold eR
 rw [loopE h.self,bPs,bJ,loopA h.self,bPs,bJ,loopI h,bPs,bJ]
 cases q
 rfl
theorem cloneE {q : LQuery} (h : GQ q) : iy q = some q := by
 unfold iy
 rw [loopE h.self,bPs,bJ,loopA h.self,bPs,bJ,loopI h,bPs,bJ]
 cases q
 rfl
theorem cloneB {q x : LQuery} (h : GQ q) (hx : q.inputs = [x]) : iw q x = some (q,x) := by
 unfold iw
 rw [loopE h.self,bPs,bJ,loopA h.self,bPs,bJ,show aR [x] 0 = some x from rfl,bPs,mY (h.sub (by rw [hx]; simp)),bPs,← hx]
 cases q
 rfl
abbrev nQ (q : LQuery) : Nat := (bP q).length
theorem nQ0 {q : LQuery} (h : q.inputs = []) : nQ q = 1 := by unfold nQ; rw [cF,h]; simp
theorem nQ1 {q x : LQuery} (h : q.inputs = [x]) : nQ q = nQ x + 1 := by unfold nQ; rw [cF,h]; simp
theorem nQ2 {q x y : LQuery} (h : q.inputs = [x,y]) : nQ q = nQ x + nQ y + 1 := by unfold nQ; rw [cF,h]; simp
theorem GQ.of0 {q : LQuery} (h : NodeOk q) (hi : q.inputs = []) : GQ q := GQ.mk h (by rw [hi]; simp)
theorem GQ.of1 {q x : LQuery} (h : NodeOk q) (hi : q.inputs = [x]) (hx : GQ x) : GQ q := GQ.mk h (by rw [hi]; simpa using hx)
theorem GQ.of2 {q x y : LQuery} (h : NodeOk q) (hi : q.inputs = [x,y]) (hx : GQ x) (hy : GQ y) : GQ q := GQ.mk h (by rw [hi]; intro z hz; simp at hz; rcases hz with rfl | rfl <;> assumption)
def lZ : LQuery := LQuery.mk 0 [] [] [] [] [] 0 0 []
theorem nilQ_ok : GQ lZ := GQ.of0 ⟨by simp [lZ,LQuery.exprs],by simp [lZ,LQuery.aggregates],by simp [lZ,LQuery.inputs],by simp [lZ,LQuery.exprs],by simp [lZ,LQuery.aggregates]⟩ rfl
def Res (k : Nat) (o : Option (LQuery × Bool)) : Prop := ∃ r,o = some r ∧ GQ r.1 ∧ nQ r.1 ≤ k
theorem Res.nil {k : Nat} (h : 1 ≤ k) : Res k (some ((LQuery.mk 0 [] [] [] [] [] 0 0 []),false)) := ⟨_,rfl,nilQ_ok,by show nQ lZ ≤ k; rw [nQ0 rfl]; exact h⟩
theorem iX {e : LExpr} {x : LQuery} (he : ArgsE e) (hx : GQ x) : GQ (bv e x) ∧ nQ (bv e x) = nQ x + 1 := by
 unfold bv
 exact ⟨GQ.of1 ⟨by simp [LQuery.exprs],by simp [LQuery.aggregates],by simp [LQuery.inputs],by simpa [LQuery.exprs] using he,by simp [LQuery.aggregates]⟩ rfl hx,nQ1 rfl⟩
theorem lr {q : LQuery} (h : GQ q) {l : List LQuery} (hl : l.length ≤ 1000000) (hi : ∀ x ∈ l,GQ x) : GQ (LQuery.mk q.kind q.table q.names q.exprs q.aggregates q.descending q.count q.offset l) :=
 GQ.mk ⟨h.self.exprs,h.self.aggs,hl,h.self.args,h.self.calls⟩ hi
theorem mp {e : LExpr} (hb : aK (ak e) ≤ 1048576) (l : List (List UInt8)) : ∃ b,dW e l = some b := by
 obtain ⟨ns,hn⟩ := columns_tot hb
 unfold dW
 have hcf : cE ns (fun a0=>fw a0 l) = some (decide (bY (fun a0=>!decide (a0 ∈ l)) ns ≥ 0)) := by
  unfold cE dN
  rw [idxF (p := fun a0=>!decide (a0 ∈ l)) (fun y _=>by unfold fw; rw [containsS,bPs]),bPs]
 rw [hn,bPs,hcf,bPs]
 exact ⟨_,rfl⟩
theorem jy {s : LSchema} {q : LQuery} (h : CQ s q) : ∃ l,bX (LRewriteRewriter.mk s) q = some l ∧ l.length ≤ 20 := by
 unfold bX
 rw [fp h,bPs]
 have hc := colsQ_len ⟨s,[]⟩ q
 have hm := gT (ρ := Empty) (step := fun (_ : Nat) (x1 : LCol) (s1 : List (List UInt8)) =>
  ag (bS 16 s1 ([x1.name] : List (List UInt8))) fun (x27 : List (List UInt8)) =>
  some (.next x27)) (xs := (el ⟨s,[]⟩ q).1) LCol.name (fun k x hk=>by
  have hlt := (zg.1 hk).1
  rw [bL (by decide) (by simp; omega),bPs])
 simp only
 rw [hm,bPs]
 exact ⟨_,rfl,by simpa using hc⟩
theorem CQ.shape {s : LSchema} {q : LQuery} (h : CQ s q) : ShapeOk q := shape_ok (cols_inv h.cols).1
theorem CQ.one {s : LSchema} {q : LQuery} (h : CQ s q) (hk : q.kind = 2 ∨ q.kind = 3 ∨ q.kind = 8 ∨ q.kind = 9 ∨ q.kind = 10) : ∃ x,q.inputs = [x] ∧ CQ s x := by
 obtain ⟨x,hx⟩ := Go.Proofs.YtlojdffmcdaheaaGreatDoor.one (by rw [h.shape.arity]; rcases hk with k | k | k | k | k <;> rw [k] <;> rfl : q.inputs.length = 1)
 exact ⟨x,hx,h.sub (by rw [hx]; simp)⟩
theorem CQ.two {s : LSchema} {q : LQuery} (h : CQ s q) (hk : q.kind = 4 ∨ q.kind = 5 ∨ q.kind = 6 ∨ q.kind = 7) : ∃ x y,q.inputs = [x,y] ∧ CQ s x ∧ CQ s y := by
 obtain ⟨x,y,hx⟩ := Go.Proofs.YtlojdffmcdaheaaGreatDoor.two (by rw [h.shape.arity]; rcases hk with k | k | k | k <;> rw [k] <;> rfl : q.inputs.length = 2)
 exact ⟨x,y,hx,h.sub (by rw [hx]; simp),h.sub (by rw [hx]; simp)⟩
theorem CQ.pred {s : LSchema} {q : LQuery} (h : CQ s q) (hk : q.kind = 2 ∨ q.kind = 4 ∨ q.kind = 5) : aR q.exprs 0 = some (e0Q q) ∧ aK (ak (e0Q q)) ≤ 1048576 ∧ ArgsE (e0Q q) := by
 have hl := h.shape.one hk
 have hb := h.tiny.e0 hl
 exact ⟨e0_get (by omega),hb,mu _ hb⟩
theorem lO {e : LExpr} (hb : aK (ak e) ≤ 1048576) : ∀ c ∈ ij e,ArgsE c := fun c hc=>mu c (Nat.le_trans (pQ e c hc) hb)
theorem into_ok {s : LSchema} {q : LQuery} (h : CQ s q) (hk : q.kind = 6 ∨ q.kind = 7) {c : LExpr} (hc : ArgsE c) : ∃ r,eF (LRewriteRewriter.mk s) c q = some r ∧ GQ r ∧ nQ r ≤ nQ q + 2 := by
 obtain ⟨x,y,hxy,hx,hy⟩ := h.two (by omega)
 unfold eF
 obtain ⟨lx,hlx,_⟩ := jy hx
 obtain ⟨ly,hly,hl20⟩ := jy hy
 have i0 : aR q.inputs 0 = some x := by rw [hxy]; rfl
 have i1 : aR q.inputs 1 = some y := by rw [hxy]; rfl
 rw [i0,bPs,i1,bPs,hlx,bPs,hly,bPs]
 have hm := gT (ρ := Empty) (step := fun (_ : Nat) (x1 : List UInt8) (s1 : List LExpr) =>
  ag (bS 88 s1 ([(LExpr.mk 2 x1 0 (LVal.mk 0 0 []) [])] : List LExpr)) fun (x34 : List LExpr) =>
  some (.next x34)) (xs := ly) (fun n=>LExpr.mk 2 n 0 (LVal.mk 0 0 []) []) (fun k x hk=>by
  have hlt := (zg.1 hk).1
  rw [bL (by decide) (by simp; omega),bPs])
 rw [hm,bPs,bJ,bPs,bPs,bg]
 obtain ⟨c2,hc2,ha2⟩ := mC lx (l := ly.map fun n=>LExpr.mk 2 n 0 (LVal.mk 0 0 []) []) (fun e he=>by
  obtain ⟨n,_,rfl⟩ := List.mem_map.1 he
  exact .mk (by simp [LExpr.args]) (by simp [LExpr.args])) hc
 rw [hc2,bPs,bg]
 obtain ⟨g1,n1⟩ := iX hc hx.gq
 obtain ⟨g2,n2⟩ := iX ha2 hy.gq
 refine ⟨_,rfl,lr h.gq (by simp) (by intro z hz; simp at hz; rcases hz with rfl | rfl <;> assumption),?_⟩
 have e1 := nQ2 hxy
 have e2 := nQ2 (q := LQuery.mk q.kind q.table q.names q.exprs q.aggregates q.descending q.count q.offset [bv c x,bv c2 y]) rfl
 omega
theorem side_ok {s : LSchema} {q : LQuery} (h : CQ s q) (hk : q.kind = 4 ∨ q.kind = 5) {c : LExpr} (hb : aK (ak c) ≤ 1048576) : Res (nQ q + 3) (eH (LRewriteRewriter.mk s) c q) := by
 obtain ⟨x,y,hxy,hx,hy⟩ := h.two (by omega)
 unfold eH
 obtain ⟨lx,hlx,_⟩ := jy hx
 obtain ⟨ly,hly,_⟩ := jy hy
 have i0 : aR q.inputs 0 = some x := by rw [hxy]; rfl
 have i1 : aR q.inputs 1 = some y := by rw [hxy]; rfl
 have hcl := lh c
 have e1 := nQ2 hxy
 rw [i0,bPs,i1,bPs,hlx,bPs,hly,bPs,ql hb,bPs]
 refine iz (R := fun r : LQuery × Bool=>GQ r.1 ∧ nQ r.1 ≤ nQ q + 3) (fun j s1=>(s1.1.length ≤ j ∧ s1.2.1.length ≤ j ∧ s1.2.2.length ≤ j) ∧ (∀ e ∈ s1.1,ArgsE e) ∧ (∀ e ∈ s1.2.1,ArgsE e) ∧ ∀ e ∈ s1.2.2,ArgsE e)
  ⟨⟨by simp,by simp,by simp⟩,by simp,by simp,by simp⟩ (fun j e s1 hj hI=>?_) (fun s1 hI=>?_)
 ·have hlt := (zg.1 hj).1
  obtain ⟨⟨l1,l2,l3⟩,h1,h2,h3⟩ := hI
  have hea := lO hb e (cy hj)
  have heb := Nat.le_trans (pQ c e (cy hj)) hb
  obtain ⟨b1,hb1⟩ := mp heb lx
  obtain ⟨b2,hb2⟩ := mp heb ly
  have add : ∀ l : List LExpr,(∀ e ∈ l,ArgsE e) → ∀ z ∈ l ++ [e],ArgsE z := fun l hl z hz=>by
   rcases List.mem_append.1 hz with hz | hz
   ·exact hl z hz
   ·rw [List.mem_singleton.1 hz]; exact hea
  have app : ∀ l : List LExpr,l.length ≤ j → bS 88 l [e] = some (l ++ [e]) := fun l hl=>bL (by decide) (by simp; omega)
  rw [hb1,bPs]
  cases b1 with
  | true =>
   rw [zc,app _ l1,bPs]
   exact ⟨_,rfl,⟨by simp; omega,by simp only; omega,by simp only; omega⟩,add _ h1,h2,h3⟩
  | false =>
   rw [zd,hb2,bPs]
   have : ∃ t,(cond b2 (some (q.kind == (4 : Int))) (some false)) = some t := by cases b2 <;> exact ⟨_,rfl⟩
   obtain ⟨t,ht⟩ := this
   rw [ht,bPs]
   cases t with
   | true =>
    rw [zc,app _ l2,bPs]
    exact ⟨_,rfl,⟨by simp only; omega,by simp; omega,by simp only; omega⟩,h1,add _ h2,h3⟩
   | false =>
    rw [zd,app _ l3,bPs]
    exact ⟨_,rfl,⟨by simp only; omega,by simp only; omega,by simp; omega⟩,h1,h2,add _ h3⟩
 ·obtain ⟨⟨l1,l2,l3⟩,h1,h2,h3⟩ := hI
  cases hz : ((IntKind.i64.wrap ((s1.1.length : Int) + (s1.2.1.length : Int))) == (0 : Int)) with
  | true=>rw [zc]; exact Res.nil (by omega)
  | false =>
   rw [zd]
   -- the first input
   have hA : ∃ x',(cond (decide ((s1.1.length : Int) > (0 : Int)))
     (ag (cL s1.1) fun x73 =>
     bs (bv x73 x) fun x78 =>
     bs (q.inputs.set ((0 : Int).toNat) x78) fun (y7 : List LQuery) =>
     some y7)
     (some q.inputs)) = some [x',y] ∧ GQ x' ∧ nQ x' ≤ nQ x + 1 := by
    cases decide ((s1.1.length : Int) > (0 : Int)) with
    | true =>
     obtain ⟨c1,hc1,ha1⟩ := gA h1
     obtain ⟨g1,n1⟩ := iX ha1 hx.gq
     rw [zc,hc1,bPs,bg,bg,hxy]
     exact ⟨_,rfl,g1,by omega⟩
    | false=>exact ⟨x,by rw [zd,hxy],hx.gq,by omega⟩
   obtain ⟨x',hA1,hA2,hA3⟩ := hA
   simp only [bPs]
   rw [hA1,bPs]
   have hB : ∃ y',(cond (decide ((s1.2.1.length : Int) > (0 : Int)))
     (ag (aR [x',y] (1 : Int)) fun (x89 : LQuery) =>
     ag (cL s1.2.1) fun x86 =>
     bs (bv x86 x89) fun x91 =>
     ag (aR [x',y] (1 : Int)) fun (_ : LQuery) =>
     bs ([x',y].set ((1 : Int).toNat) x91) fun (y10 : List LQuery) =>
     some y10)
     (some [x',y])) = some [x',y'] ∧ GQ y' ∧ nQ y' ≤ nQ y + 1 := by
    cases decide ((s1.2.1.length : Int) > (0 : Int)) with
    | true =>
     obtain ⟨c1,hc1,ha1⟩ := gA h2
     obtain ⟨g1,n1⟩ := iX ha1 hy.gq
     rw [zc,show aR [x',y] (1 : Int) = some y from rfl,bPs,hc1,bPs,bg,bPs,bg]
     exact ⟨_,rfl,g1,by omega⟩
    | false=>exact ⟨y,by rw [zd],hy.gq,by omega⟩
   obtain ⟨y',hB1,hB2,hB3⟩ := hB
   rw [hB1,bPs]
   have gw : GQ (LQuery.mk q.kind q.table q.names q.exprs q.aggregates q.descending q.count q.offset [x',y']) := lr h.gq (by simp) (by intro z hz; simp at hz; rcases hz with rfl | rfl <;> assumption)
   have e2 := nQ2 (q := LQuery.mk q.kind q.table q.names q.exprs q.aggregates q.descending q.count q.offset [x',y']) rfl
   cases decide ((s1.2.2.length : Int) > (0 : Int)) with
   | true =>
    obtain ⟨c1,hc1,ha1⟩ := gA h3
    obtain ⟨g1,n1⟩ := iX ha1 gw
    rw [zc,hc1,bPs,bg]
    exact ⟨_,rfl,g1,by simp only; omega⟩
   | false =>
    rw [zd]
    exact ⟨_,rfl,gw,by simp only; omega⟩
theorem where_tot {s : LSchema} {q x : LQuery} (h : CQ s q) (hk : q.kind = 2) (hq : q.inputs = [x]) (rule : Int) : Res (nQ q + 3) (ew (LRewriteRewriter.mk s) q x rule) := by
 have hx : CQ s x := h.sub (by rw [hq]; simp)
 obtain ⟨e0,hb,ha⟩ := h.pred (.inl hk)
 have nq := nQ1 hq
 unfold ew
 rw [e0,bPs]
 have fin : ∀ {o : Option (LQuery × Bool)},Res (nQ q + 3) o → ∃ r,o = some r ∧ GQ r.1 ∧ nQ r.1 ≤ nQ q + 3 := fun h=>h
 have put : ∀ {k : Int},x.kind = k → (k = 3 ∨ k = 8 ∨ k = 9) → ∃ y,x.inputs = [y] ∧ CQ s y ∧ aR x.inputs (0 : Int) = some y ∧ ∀ {e : LExpr},ArgsE e → GQ (LQuery.mk x.kind x.table x.names x.exprs x.aggregates x.descending x.count x.offset (x.inputs.set ((0 : Int).toNat) (bv e y))) ∧
   nQ (LQuery.mk x.kind x.table x.names x.exprs x.aggregates x.descending x.count x.offset (x.inputs.set ((0 : Int).toNat) (bv e y))) ≤ nQ q + 3 := by
  intro k hk1 hk2
  obtain ⟨y,hxy,hy⟩ := hx.one (by omega)
  refine ⟨y,hxy,hy,by rw [hxy]; rfl,fun {e} he=>?_⟩
  obtain ⟨g1,n1⟩ := iX he hy.gq
  have es : x.inputs.set ((0 : Int).toNat) (bv e y) = [bv e y] := by rw [hxy]; rfl
  rw [es]
  refine ⟨lr hx.gq (by simp) (by simpa using g1),?_⟩
  have e2 := nQ1 (q := LQuery.mk x.kind x.table x.names x.exprs x.aggregates x.descending x.count x.offset [bv e y]) rfl
  have e3 := nQ1 hxy
  omega
 rw [bg]
 by_cases c1 : rule = 1 ∧ x.kind = 2
 ·rw [ek c1.1,zc,ek c1.2,zc]
  obtain ⟨y,hxy,hy⟩ := hx.one (.inl c1.2)
  obtain ⟨f0,_,fa⟩ := hx.pred (.inl c1.2)
  obtain ⟨c,hc,hca⟩ := gA (l := [e0Q x,e0Q q]) (by intro e he; simp at he; rcases he with rfl | rfl <;> assumption)
  rw [f0,bPs,show aR x.inputs (0 : Int) = some y from by rw [hxy]; rfl,bPs,hc,bPs,bg]
  obtain ⟨g1,n1⟩ := iX hca hy.gq
  have e3 := nQ1 hxy
  exact ⟨_,rfl,g1,by simp only; omega⟩
 rw [show (cond (rule == (1 : Int)) (x.kind == (2 : Int)) false) = false from by
  by_cases r1 : rule = 1
  ·rw [ek r1,zc]; exact bG fun hk=>c1 ⟨r1,hk⟩
  ·rw [bG r1,zd],zd]
 by_cases c2 : rule = 2
 ·rw [ek c2,zc,ql hb,bPs]
  have hcl := lh (e0Q q)
  by_cases hl : ((ij (e0Q q)).length : Int) < 2
  ·rw [zt hl,zc]; exact Res.nil (by omega)
  ·rw [zf hl,zd,fR (n := ((ij (e0Q q)).length : Int) - 1) (by omega) (by omega)]
   have hlt : (((ij (e0Q q)).length : Int) - 1).toNat < (ij (e0Q q)).length := by omega
   rw [kw (by omega) (ze hlt),bPs,subI_ok ⟨by omega,by omega,by omega⟩,bPs]
   obtain ⟨c,hc,hca⟩ := gA (l := ((ij (e0Q q)).take (((ij (e0Q q)).length : Int) - 1).toNat).drop (0 : Int).toNat) (fun e he=>lO hb e (List.mem_of_mem_take (List.mem_of_mem_drop he)))
   rw [hc,bPs,bg,bg]
   obtain ⟨g1,n1⟩ := iX hca hx.gq
   obtain ⟨g2,n2⟩ := iX (lO hb _ (List.getElem_mem hlt)) g1
   exact ⟨_,rfl,g2,by simp only; omega⟩
 rw [bG c2,zd,bg]
 by_cases c3 : rule = 3 ∧ x.kind = 3
 ·rw [ek c3.1,zc,ek c3.2,zc]
  obtain ⟨y,hxy,hy,i0,hput⟩ := put c3.2 (.inl rfl)
  obtain ⟨c,hc,hca⟩ := mC x.names (l := x.exprs) hx.gq.self.args ha
  rw [i0,bPs,hc,bPs,bg,bPs,bg]
  obtain ⟨g1,n1⟩ := hput hca
  exact ⟨_,rfl,g1,n1⟩
 rw [show (cond (rule == (3 : Int)) (x.kind == (3 : Int)) false) = false from by
  by_cases r1 : rule = 3
  ·rw [ek r1,zc]; exact bG fun hk=>c3 ⟨r1,hk⟩
  ·rw [bG r1,zd],zd,bg,bg]
 by_cases c6 : (rule = 6 ∧ x.kind = 6) ∨ (rule = 7 ∧ x.kind = 7)
 ·have ht : (cond (cond (rule == (6 : Int)) (x.kind == (6 : Int)) false) (cond (rule == (6 : Int)) (x.kind == (6 : Int)) false) (cond (rule == (7 : Int)) (x.kind == (7 : Int)) false)) = true := by
   rcases c6 with ⟨r,k⟩ | ⟨r,k⟩ <;> rw [r,k] <;> rfl
  rw [ht,zc]
  obtain ⟨r,hr,g1,n1⟩ := into_ok hx (by omega) ha
  rw [hr,bPs]
  exact ⟨_,rfl,g1,by simp only; omega⟩
 have ht : (cond (cond (rule == (6 : Int)) (x.kind == (6 : Int)) false) (cond (rule == (6 : Int)) (x.kind == (6 : Int)) false) (cond (rule == (7 : Int)) (x.kind == (7 : Int)) false)) = false := by
  have h6 : (cond (rule == (6 : Int)) (x.kind == (6 : Int)) false) = false := by
   by_cases r1 : rule = 6
   ·rw [ek r1,zc]; exact bG fun hk=>c6 (.inl ⟨r1,hk⟩)
   ·rw [bG r1,zd]
  have h7 : (cond (rule == (7 : Int)) (x.kind == (7 : Int)) false) = false := by
   by_cases r1 : rule = 7
   ·rw [ek r1,zc]; exact bG fun hk=>c6 (.inr ⟨r1,hk⟩)
   ·rw [bG r1,zd]
  rw [h6,h7,zd]
 rw [ht,zd,bg]
 by_cases c9 : rule = 9 ∧ x.kind = 9
 ·rw [ek c9.1,zc,ek c9.2,zc]
  obtain ⟨y,hxy,hy,i0,hput⟩ := put c9.2 (.inr (.inr rfl))
  rw [i0,bPs,bg,bPs,bg]
  obtain ⟨g1,n1⟩ := hput ha
  exact ⟨_,rfl,g1,n1⟩
 rw [show (cond (rule == (9 : Int)) (x.kind == (9 : Int)) false) = false from by
  by_cases r1 : rule = 9
  ·rw [ek r1,zc]; exact bG fun hk=>c9 ⟨r1,hk⟩
  ·rw [bG r1,zd],zd]
 have h8 : ∃ t,(cond (rule == (8 : Int)) (cond (x.kind == (8 : Int)) (ag (dW (e0Q q) x.names) fun x132=>cond x132 (some (decide ((x.exprs.length : Int) > (0 : Int)))) (some false)) (some false)) (some false)) = some t ∧ (t = true → x.kind = 8) := by
  obtain ⟨b,hb8⟩ := mp hb x.names
  by_cases r1 : rule = 8
  ·rw [ek r1,zc]
   by_cases k8 : x.kind = 8
   ·rw [ek k8,zc,hb8,bPs]
    cases b with
    | true=>exact ⟨_,rfl,fun _=>k8⟩
    | false=>exact ⟨_,rfl,fun _=>k8⟩
   ·rw [bG k8,zd]; exact ⟨_,rfl,fun h=>by cases h⟩
  ·rw [bG r1,zd]; exact ⟨_,rfl,fun h=>by cases h⟩
 obtain ⟨t,ht8,hk8⟩ := h8
 rw [ht8,bPs]
 cases t with
 | true =>
  rw [zc]
  obtain ⟨y,hxy,hy,i0,hput⟩ := put (hk8 rfl) (.inr (.inl rfl))
  obtain ⟨c,hc,hca⟩ := mC x.names (l := x.exprs) hx.gq.self.args ha
  rw [i0,bPs,hc,bPs,bg,bPs,bg]
  obtain ⟨g1,n1⟩ := hput hca
  exact ⟨_,rfl,g1,n1⟩
 | false =>
  rw [zd,bg,bg]
  by_cases c4 : (rule = 4 ∧ x.kind = 4) ∨ (rule = 5 ∧ x.kind = 5)
  ·have ht : (cond (cond (rule == (4 : Int)) (x.kind == (4 : Int)) false) (cond (rule == (4 : Int)) (x.kind == (4 : Int)) false) (cond (rule == (5 : Int)) (x.kind == (5 : Int)) false)) = true := by
    rcases c4 with ⟨r,k⟩ | ⟨r,k⟩ <;> rw [r,k] <;> rfl
   rw [ht,zc]
   obtain ⟨r,hr,g1,n1⟩ := side_ok hx (by omega) hb
   rw [hr,bPs]
   exact ⟨_,rfl,g1,by simp only; omega⟩
  ·have ht : (cond (cond (rule == (4 : Int)) (x.kind == (4 : Int)) false) (cond (rule == (4 : Int)) (x.kind == (4 : Int)) false) (cond (rule == (5 : Int)) (x.kind == (5 : Int)) false)) = false := by
    have h4 : (cond (rule == (4 : Int)) (x.kind == (4 : Int)) false) = false := by
     by_cases r1 : rule = 4
     ·rw [ek r1,zc]; exact bG fun hk=>c4 (.inl ⟨r1,hk⟩)
     ·rw [bG r1,zd]
    have h5 : (cond (rule == (5 : Int)) (x.kind == (5 : Int)) false) = false := by
     by_cases r1 : rule = 5
     ·rw [ek r1,zc]; exact bG fun hk=>c4 (.inr ⟨r1,hk⟩)
     ·rw [bG r1,zd]
    rw [h4,h5,zd]
   rw [ht,zd]
   exact Res.nil (by omega)
theorem concatS2 {a b : List (List UInt8)} (h : a.length + b.length ≤ 1000) : dq ([a,b] : List (List (List UInt8))) = some (a ++ b) := by
 unfold dq
 have w1 : IntKind.i64.wrap ((0 : Int) + (a.length : Int)) = (a.length : Int) := by rw [fR (by omega) (by omega)]; omega
 have w2 : IntKind.i64.wrap ((a.length : Int) + (b.length : Int)) = (a.length : Int) + (b.length : Int) := fR (by omega) (by omega)
 have n1 : ¬ (a.length : Int) < 0 := by omega
 have n2 : ¬ (a.length : Int) + (b.length : Int) < 0 := by omega
 simp only [aI,w1,w2,zf n1,zf n2,zd,bPs,bJ]
 rw [growI_ok ⟨by omega,by omega,by unfold maxLen; omega⟩,bPs]
 rw [appI_mid (xs := ([] : List (List UInt8))) (by decide) (by simp; omega),bPs]
 simp only [List.nil_append]
 rw [appI_mid (by decide) (by omega),bPs]
 rfl
theorem assoc_ok {s : LSchema} {q x y : LQuery} (h : CQ s q) (hk : q.kind = 4) (hq : q.inputs = [x,y]) (hx4 : x.kind = 4) : Res (nQ q + 3) (cS (LRewriteRewriter.mk s) q x) := by
 have hx : CQ s x := h.sub (by rw [hq]; simp)
 have hy : CQ s y := h.sub (by rw [hq]; simp)
 obtain ⟨u,v,huv,hu,hv⟩ := hx.two (.inl hx4)
 unfold cS
 obtain ⟨lv,hlv,hv20⟩ := jy hv
 obtain ⟨ly,hly,hy20⟩ := jy hy
 obtain ⟨f0,fb,_⟩ := hx.pred (.inr (.inl hx4))
 obtain ⟨e0,eb,_⟩ := h.pred (.inr (.inl hk))
 have i1 : aR x.inputs 1 = some v := by rw [huv]; rfl
 have i0 : aR x.inputs 0 = some u := by rw [huv]; rfl
 have j1 : aR q.inputs 1 = some y := by rw [hq]; rfl
 have lx := lh (e0Q x)
 have lq := lh (e0Q q)
 rw [i1,bPs,j1,bPs,hlv,bPs,hly,bPs,concatS2 (by omega),bPs,f0,bPs,ql fb,bPs,e0,bPs,ql eb,bPs]
 refine iz (R := fun r : LQuery × Bool=>GQ r.1 ∧ nQ r.1 ≤ nQ q + 3) (fun j s1=>(s1.1.length ≤ j ∧ s1.2.length ≤ j + (ij (e0Q x)).length) ∧ (∀ e ∈ s1.1,ArgsE e) ∧ ∀ e ∈ s1.2,ArgsE e)
  ⟨⟨by simp,by simp⟩,by simp,lO fb⟩ (fun j e s1 hj hI=>?_) (fun s1 hI=>?_)
 ·have hlt := (zg.1 hj).1
  obtain ⟨⟨l1,l2⟩,h1,h2⟩ := hI
  have hea := lO eb e (cy hj)
  obtain ⟨b1,hb1⟩ := mp (Nat.le_trans (pQ _ e (cy hj)) eb) (lv ++ ly)
  have add : ∀ l : List LExpr,(∀ e ∈ l,ArgsE e) → ∀ z ∈ l ++ [e],ArgsE z := fun l hl z hz=>by
   rcases List.mem_append.1 hz with hz | hz
   ·exact hl z hz
   ·rw [List.mem_singleton.1 hz]; exact hea
  rw [hb1,bPs]
  cases b1 with
  | true =>
   rw [zc,bL (by decide) (by simp; omega),bPs]
   exact ⟨_,rfl,⟨by simp; omega,by simp only; omega⟩,add _ h1,h2⟩
  | false =>
   rw [zd,bL (by decide) (by simp; omega),bPs]
   exact ⟨_,rfl,⟨by simp only; omega,by simp; omega⟩,h1,add _ h2⟩
 ·obtain ⟨_,h1,h2⟩ := hI
  obtain ⟨c1,hc1,ha1⟩ := gA h1
  obtain ⟨c2,hc2,ha2⟩ := gA h2
  rw [bPs,bPs,hc1,bPs,i0,bPs,hc2,bPs]
  have g1 : GQ (LQuery.mk 4 [] [] [c1] [] [] 0 0 [v,y]) := GQ.of2 ⟨by simp [LQuery.exprs],by simp [LQuery.aggregates],by simp [LQuery.inputs],by simpa [LQuery.exprs] using ha1,by simp [LQuery.aggregates]⟩ rfl hv.gq hy.gq
  have g2 : GQ (LQuery.mk 4 [] [] [c2] [] [] 0 0 [u,LQuery.mk 4 [] [] [c1] [] [] 0 0 [v,y]]) := GQ.of2 ⟨by simp [LQuery.exprs],by simp [LQuery.aggregates],by simp [LQuery.inputs],by simpa [LQuery.exprs] using ha2,by simp [LQuery.aggregates]⟩ rfl hu.gq g1
  have e1 := nQ2 hq
  have e2 := nQ2 huv
  have e3 := nQ2 (q := LQuery.mk 4 [] [] [c1] [] [] 0 0 [v,y]) rfl
  have e4 := nQ2 (q := LQuery.mk 4 [] [] [c2] [] [] 0 0 [u,LQuery.mk 4 [] [] [c1] [] [] 0 0 [v,y]]) rfl
  exact ⟨_,rfl,g2,by simp only; omega⟩
theorem commute_ok {s : LSchema} {q x y : LQuery} (h : CQ s q) (hq : q.inputs = [x,y]) : ∃ r,dh (LRewriteRewriter.mk s) q = some r ∧ GQ r ∧ nQ r ≤ nQ q + 3 := by
 unfold dh fD
 obtain ⟨l,hl,h20⟩ := jy h
 have j1 : aR q.inputs 1 = some y := by rw [hq]; rfl
 have j0 : aR q.inputs 0 = some x := by rw [hq]; rfl
 rw [hl,bPs,j1,bPs,j0,bPs]
 have hm := gT (ρ := Empty) (step := fun (_ : Nat) (x1 : List UInt8) (s1 : List LExpr) =>
  ag (bS 88 s1 ([(LExpr.mk 2 x1 0 (LVal.mk 0 0 []) [])] : List LExpr)) fun (x23 : List LExpr) =>
  some (.next x23)) (xs := l) (fun n=>LExpr.mk 2 n 0 (LVal.mk 0 0 []) []) (fun k x hk=>by
  have hlt := (zg.1 hk).1
  rw [bL (by decide) (by simp; omega),bPs])
 rw [hm,bPs,bJ,bPs]
 have gx : GQ x := (h.sub (by rw [hq]; simp : x ∈ q.inputs)).gq
 have gy : GQ y := (h.sub (by rw [hq]; simp : y ∈ q.inputs)).gq
 have g1 : GQ (LQuery.mk q.kind q.table q.names q.exprs q.aggregates q.descending q.count q.offset [y,x]) := lr h.gq (by simp) (by intro z hz; simp at hz; rcases hz with rfl | rfl <;> assumption)
 have e1 := nQ2 hq
 have e2 := nQ2 (q := LQuery.mk q.kind q.table q.names q.exprs q.aggregates q.descending q.count q.offset [y,x]) rfl
 refine ⟨_,rfl,GQ.of1 ⟨by simp [LQuery.exprs]; omega,by simp [LQuery.aggregates],by simp [LQuery.inputs],fun e he=>?_,by simp [LQuery.aggregates]⟩ rfl g1,?_⟩
 ·obtain ⟨n,_,rfl⟩ := List.mem_map.1 he
  exact .mk (by simp [LExpr.args]) (by simp [LExpr.args])
 ·rw [nQ1 (q := LQuery.mk 3 [] l _ [] [] 0 0 [_]) rfl]
  omega
theorem mergeP_ok {s : LSchema} {q x : LQuery} (h : CQ s q) (hq : q.inputs = [x]) : ∃ r,dR q x = some r ∧ GQ r ∧ nQ r ≤ nQ q + 3 := by
 have hx : CQ s x := h.sub (by rw [hq]; simp)
 have hl := h.gq.self.exprs
 unfold dR
 rw [pH (by omega),bPs,Int.toNat_natCast]
 refine iz (R := fun r : LQuery=>GQ r ∧ nQ r ≤ nQ q + 3) (fun _ s1=>s1.length = q.exprs.length ∧ ∀ e ∈ s1,ArgsE e) ⟨rfl,h.gq.self.args⟩ (fun j i s1 hj hI=>?_) (fun s1 hI=>?_)
 ·have hlt := (zg.1 hj).1
  rw [List.length_range] at hlt
  have hlt' : j < s1.length := by omega
  obtain ⟨c,hc,hca⟩ := mC x.names (l := x.exprs) hx.gq.self.args (hI.2 _ (List.getElem_mem hlt'))
  rw [iG (ze hlt'),bPs,hc,bPs,bPs,bg,Int.toNat_natCast]
  refine ⟨_,rfl,by rw [List.length_set]; exact hI.1,fun e he=>?_⟩
  rcases List.mem_or_eq_of_mem_set he with he | rfl
  ·exact hI.2 e he
  ·exact hca
 ·have g1 : GQ (LQuery.mk q.kind q.table q.names s1 q.aggregates q.descending q.count q.offset x.inputs) :=
   GQ.mk ⟨by show s1.length ≤ _; omega,h.gq.self.aggs,hx.gq.self.ins,hI.2,h.gq.self.calls⟩ (fun z hz=>hx.gq.sub hz)
  refine ⟨_,rfl,g1,?_⟩
  have e1 := nQ1 hq
  have e2 : nQ (LQuery.mk q.kind q.table q.names s1 q.aggregates q.descending q.count q.offset x.inputs) = nQ x := by
   unfold nQ; rw [cF,cF x]; simp [LQuery.inputs]
  omega
theorem filters_ok {s : LSchema} {q x y : LQuery} (h : CQ s q) (hk : q.kind = 4) (hq : q.inputs = [x,y]) : Res (nQ q + 3) (du q) := by
 have hx : CQ s x := h.sub (by rw [hq]; simp)
 have hy : CQ s y := h.sub (by rw [hq]; simp)
 obtain ⟨e0,_,ea⟩ := h.pred (.inr (.inl hk))
 have e1 := nQ2 hq
 unfold du
 rw [hq,pH (by simp),bPs]
 refine iz (R := fun r : LQuery × Bool=>GQ r.1 ∧ nQ r.1 ≤ nQ q + 3) (fun j s1=>(s1.1.length ≤ j ∧ ∀ e ∈ s1.1,ArgsE e) ∧ ∃ a b,s1.2 = [a,b] ∧ (GQ a ∧ nQ a ≤ nQ x) ∧ (GQ b ∧ nQ b ≤ nQ y) ∧ (j = 0 → a = x) ∧ (j ≤ 1 → b = y))
  ⟨⟨by simp,by simp⟩,x,y,rfl,⟨hx.gq,Nat.le_refl _⟩,⟨hy.gq,Nat.le_refl _⟩,fun _=>rfl,fun _=>rfl⟩ (fun j i s1 hj hI=>?_) (fun s1 hI=>?_)
 ·have hlt := (zg.1 hj).1
  simp at hlt
  obtain ⟨⟨l1,h1⟩,a,b,hab,⟨ga,na⟩,⟨gb,nb⟩,ia,ib⟩ := hI
  have add : ∀ {e : LExpr},ArgsE e → ∀ z ∈ s1.1 ++ [e],ArgsE z := fun {e} he z hz=>by
   rcases List.mem_append.1 hz with hz | hz
   ·exact h1 z hz
   ·rw [List.mem_singleton.1 hz]; exact he
  rw [hab]
  rcases (by omega : j = 0 ∨ j = 1) with rfl | rfl
  ·obtain rfl := ia rfl
   rw [show aR [a,b] ((0 : Nat) : Int) = some a from rfl,bPs]
   by_cases k2 : a.kind = 2
   ·obtain ⟨f0,_,fa⟩ := hx.pred (.inl k2)
    obtain ⟨z,hz,hzc⟩ := hx.one (.inl k2)
    rw [ek k2,zc,f0,bPs,bL (by decide) (by simp; omega),bPs,show aR a.inputs 0 = some z from by rw [hz]; rfl,bPs,bPs,bg]
    have := nQ1 hz
    exact ⟨_,rfl,⟨by simp only [List.length_append,List.length_cons,List.length_nil]; omega,add fa⟩,z,b,rfl,⟨hzc.gq,by omega⟩,⟨gb,nb⟩,by simp,fun _=>ib (by omega)⟩
   ·rw [bG k2,zd]
    exact ⟨_,rfl,⟨by simp only; omega,h1⟩,a,b,rfl,⟨ga,na⟩,⟨gb,nb⟩,by simp,fun _=>ib (by omega)⟩
  ·obtain rfl := ib (by omega)
   rw [show aR [a,b] ((1 : Nat) : Int) = some b from rfl,bPs]
   by_cases k2 : b.kind = 2
   ·obtain ⟨f0,_,fa⟩ := hy.pred (.inl k2)
    obtain ⟨z,hz,hzc⟩ := hy.one (.inl k2)
    rw [ek k2,zc,f0,bPs,bL (by decide) (by simp; omega),bPs,show aR b.inputs 0 = some z from by rw [hz]; rfl,bPs,bPs,bg]
    have := nQ1 hz
    exact ⟨_,rfl,⟨by simp only [List.length_append,List.length_cons,List.length_nil]; omega,add fa⟩,a,z,rfl,⟨ga,na⟩,⟨hzc.gq,by omega⟩,by simp,by simp⟩
   ·rw [bG k2,zd]
    exact ⟨_,rfl,⟨by simp only; omega,h1⟩,a,b,rfl,⟨ga,na⟩,⟨gb,nb⟩,by simp,by simp⟩
 ·obtain ⟨⟨l1,h1⟩,a,b,hab,⟨ga,na⟩,⟨gb,nb⟩,_,_⟩ := hI
  simp at l1
  rw [e0,bPs,bL (by decide) (by simp; omega),bPs]
  obtain ⟨c,hc,hca⟩ := gA (l := s1.1 ++ [e0Q q]) (fun z hz=>by
   rcases List.mem_append.1 hz with hz | hz
   ·exact h1 z hz
   ·rw [List.mem_singleton.1 hz]; exact ea)
  rw [hc,bPs,hab]
  have g1 : GQ (LQuery.mk q.kind q.table q.names [c] q.aggregates q.descending q.count q.offset [a,b]) := GQ.of2 ⟨by simp [LQuery.exprs],h.gq.self.aggs,by simp [LQuery.inputs],by simpa [LQuery.exprs] using hca,h.gq.self.calls⟩ rfl ga gb
  have e2 := nQ2 (q := LQuery.mk q.kind q.table q.names [c] q.aggregates q.descending q.count q.offset [a,b]) rfl
  exact ⟨_,rfl,g1,by simp only; omega⟩
def Ans (s : LSchema) (o : Option (LQuery × Bool)) : Prop := ∃ r,o = some r ∧ (GQ r.1 ∧ nQ r.1 ≤ 1000) ∧ (r.2 = true → ∃ cs,bI s r.1 = some (cs,0))
theorem Ans.nil (s : LSchema) : Ans s (some ((LQuery.mk 0 [] [] [] [] [] 0 0 []),false)) := ⟨_,rfl,⟨nilQ_ok,by show nQ lZ ≤ 1000; rw [nQ0 rfl]; decide⟩,by simp⟩
theorem ans1 {s : LSchema} {a b : Option (LQuery × Bool)} (h : Ans s a) : Ans s (oz a b) := by
 obtain ⟨r,rfl,h2⟩ := h
 exact ⟨r,rfl,h2⟩
theorem ans2 {s : LSchema} {a b : Option (LQuery × Bool)} (h : a = none) (hb : Ans s b) : Ans s (oz a b) := by subst h; exact hb
theorem kA {s : LSchema} (t : Bool × LQuery) (hg : GQ t.2) (hn : nQ t.2 ≤ 1000) : Ans s (cond (!t.1)
   (some ((LQuery.mk 0 [] [] [] [] [] 0 0 []),false))
   (ag (bI s t.2) fun x196 =>
   cond (x196.2 != (0 : Int))
    (some ((LQuery.mk 0 [] [] [] [] [] 0 0 []),false))
    (some (t.2,true)))) := by
 cases ht : t.1 with
 | false=>exact Ans.nil s
 | true =>
  obtain ⟨cs,e,hc,_⟩ := mO (s := s) (vars := []) (hg.small (by unfold nQ at hn; omega))
  have hck : bI s t.2 = some (cs,e) := by unfold bI; rw [hc,bPs]
  rw [Bool.not_true,zd,hck,bPs]
  simp only
  by_cases h0 : e = 0
  ·rw [bneF h0,zd]
   exact ⟨_,rfl,⟨hg,hn⟩,fun _=>⟨cs,by rw [hck,h0]⟩⟩
  ·rw [bneT h0,zc]
   exact Ans.nil s
theorem mk_self {q : LQuery} {l : List LQuery} (h : q.inputs = l) : LQuery.mk q.kind q.table q.names q.exprs q.aggregates q.descending q.count q.offset l = q := by
 subst h; cases q; rfl
theorem CQ.n24 {s : LSchema} {q : LQuery} (h : CQ s q) : nQ q ≤ 24 := h.size.1
section
variable {s : LSchema} {q : LQuery} (h : CQ s q) (k1 : q.kind ≠ 1)
include h k1
theorem w_filter {rule : Int} (hr : 1 ≤ rule ∧ rule ≤ 9) (hk : q.kind = 2) : Ans s (bR s q rule) := by
 obtain ⟨x,hx,hxc⟩ := h.one (.inl hk)
 unfold bR
 rw [fp h,bPs,bg]
 simp only
 rw [show ((0 : Int) != 0) = false from rfl,zd,bG k1,zd,show oneI q.inputs = some x from by rw [hx]; rfl,bPs,cloneB h.gq hx,bPs,bg]
 simp only
 rw [zt (show rule ≥ 1 from hr.1),zc,zt hr.2,zc,ek hk,zc,mk_self hx]
 obtain ⟨r,hr2,g1,n1⟩ := where_tot h hk hx rule
 rw [hr2,bPs,bPs]
 have := h.n24
 exact kA (r.2,r.1) g1 (by simp only; omega)
theorem w_no {rule : Int} (hr : ¬ (1 ≤ rule ∧ rule ≤ 9 ∧ q.kind = 2)) (hr2 : rule < 10 ∨ 16 < rule) {x : LQuery} (hx : q.inputs = [x]) : Ans s (bR s q rule) := by
 unfold bR
 rw [fp h,bPs,bg]
 simp only
 rw [show ((0 : Int) != 0) = false from rfl,zd,bG k1,zd,show oneI q.inputs = some x from by rw [hx]; rfl,bPs,cloneB h.gq hx,bPs,bg]
 simp only
 have ht : (cond (decide (rule ≥ (1 : Int))) (cond (decide (rule ≤ (9 : Int))) (q.kind == (2 : Int)) false) false) = false := by
  by_cases a : rule ≥ 1
  ·rw [zt a,zc]
   by_cases b : rule ≤ 9
   ·rw [zt b,zc]; exact bG fun c=>hr ⟨a,b,c⟩
   ·rw [zf b,zd]
  ·rw [zf a,zd]
 rw [ht,zd,bG (show rule ≠ 10 by omega),bG (show rule ≠ 11 by omega),bG (show rule ≠ 12 by omega),bG (show rule ≠ 13 by omega),bG (show rule ≠ 14 by omega),bG (show rule ≠ 15 by omega),bG (show rule ≠ 16 by omega)]
 exact Ans.nil s
theorem w_none {rule : Int} (hr : 10 ≤ rule ∧ rule ≤ 16) : bR s q rule = none := by
 unfold bR
 rw [fp h,bPs,bg]
 simp only
 rw [show ((0 : Int) != 0) = false from rfl,zd,bG k1,zd]
 cases ho : oneI q.inputs with
 | none=>rfl
 | some x =>
  rw [bPs,cloneB h.gq (oneI_some ho),bPs,bg]
  simp only
  have : rule = 10 ∨ rule = 11 ∨ rule = 12 ∨ rule = 13 ∨ rule = 14 ∨ rule = 15 ∨ rule = 16 := by omega
  rcases this with rfl | rfl | rfl | rfl | rfl | rfl | rfl <;> rfl
theorem w_two {x y : LQuery} (hq : q.inputs = [x,y]) (rule : Int) : bR s q rule = none := by
 unfold bR
 rw [fp h,bPs,bg]
 simp only
 rw [show ((0 : Int) != 0) = false from rfl,zd,bG k1,zd,show oneI q.inputs = none from by rw [hq]; rfl]
 rfl
theorem in0 : ∃ x,aR q.inputs (0 : Int) = some x ∧ (x ∈ q.inputs) := by
 have hsh := h.shape
 have hl : 0 < q.inputs.length := by
  rw [hsh.arity]; unfold lR; rw [zy k1]; split <;> decide
 exact ⟨q.inputs[0],iG (j := 0) (ze hl),List.getElem_mem hl⟩
theorem f_ans {rule : Int} (hr : ¬ (1 ≤ rule ∧ rule ≤ 9 ∧ q.kind = 2)) (hr2 : rule < 11 ∨ 16 < rule) : Ans s (dE s q rule) := by
 obtain ⟨x,hx,_⟩ := in0 h k1
 unfold dE
 rw [fp h,bPs,bg]
 simp only
 rw [show ((0 : Int) != 0) = false from rfl,zd,bG k1,zd,mY h.gq,bPs,hx,bPs,bg]
 have ht : (cond (decide (rule ≥ (1 : Int))) (cond (decide (rule ≤ (9 : Int))) (q.kind == (2 : Int)) false) false) = false := by
  by_cases a : rule ≥ 1
  ·rw [zt a,zc]
   by_cases b : rule ≤ 9
   ·rw [zt b,zc]; exact bG fun c=>hr ⟨a,b,c⟩
   ·rw [zf b,zd]
  ·rw [zf a,zd]
 rw [ht,zd,bg]
 by_cases c : rule = 10 ∧ q.kind = 4
 ·rw [ek c.1,zc,ek c.2,zc]
  obtain ⟨a,b,hab,_,_⟩ := h.two (.inl c.2)
  obtain ⟨r,hr3,g1,n1⟩ := filters_ok h c.2 hab
  rw [hr3,bPs,bPs]
  have := h.n24
  exact kA (r.2,r.1) g1 (by simp only; omega)
 ·rw [show (cond (rule == (10 : Int)) (q.kind == (4 : Int)) false) = false from by
   by_cases r1 : rule = 10
   ·rw [ek r1,zc]; exact bG fun hk=>c ⟨r1,hk⟩
   ·rw [bG r1,zd],zd,bG (show rule ≠ 11 by omega),bG (show rule ≠ 12 by omega),bG (show rule ≠ 13 by omega),bG (show rule ≠ 14 by omega),bG (show rule ≠ 15 by omega),bG (show rule ≠ 16 by omega)]
  exact Ans.nil s
theorem f_none {rule : Int} (hr : 11 ≤ rule ∧ rule ≤ 16) : dE s q rule = none := by
 obtain ⟨x,hx,_⟩ := in0 h k1
 unfold dE
 rw [fp h,bPs,bg]
 simp only
 rw [show ((0 : Int) != 0) = false from rfl,zd,bG k1,zd,mY h.gq,bPs,hx,bPs,bg]
 have : rule = 11 ∨ rule = 12 ∨ rule = 13 ∨ rule = 14 ∨ rule = 15 ∨ rule = 16 := by omega
 rcases this with rfl | rfl | rfl | rfl | rfl | rfl <;> rfl
theorem m_ans : Ans s (eK s q 13) := by
 obtain ⟨x,hx,hm⟩ := in0 h k1
 unfold eK
 rw [fp h,bPs,bg]
 simp only
 rw [show ((0 : Int) != 0) = false from rfl,zd,bG k1,zd,cloneE h.gq,bPs,hx,bPs]
 by_cases c : q.kind = 3 ∧ x.kind = 3
 ·obtain ⟨y,hy,_⟩ := h.one (.inr (.inl c.1))
  have hxy : q.inputs = [x] := by rw [hy] at hm ⊢; rw [List.mem_singleton.1 hm]
  obtain ⟨r,hr3,g1,n1⟩ := mergeP_ok h hxy
  rw [show (bs (cond (decide ((13 : Int) ≥ (1 : Int))) (cond (decide ((13 : Int) ≤ (9 : Int))) (q.kind == (2 : Int)) false) false) : (Bool → Option (LQuery × Bool)) → Option (LQuery × Bool)) = fun k=>k false from rfl]
  rw [c.1,c.2]
  show Ans s (ag (ag (dR q x) fun x119=>some (true,x119)) _)
  rw [hr3,bPs,bPs]
  have := h.n24
  exact kA (true,r) g1 (by simp only; omega)
 ·have ht : (cond (q.kind == (3 : Int)) (x.kind == (3 : Int)) false) = false := by
   by_cases r1 : q.kind = 3
   ·rw [ek r1,zc]; exact bG fun hk=>c ⟨r1,hk⟩
   ·rw [bG r1,zd]
  rw [show (bs (cond (decide ((13 : Int) ≥ (1 : Int))) (cond (decide ((13 : Int) ≤ (9 : Int))) (q.kind == (2 : Int)) false) false) : (Bool → Option (LQuery × Bool)) → Option (LQuery × Bool)) = fun k=>k false from rfl]
  rw [ht]
  exact Ans.nil s
theorem m_none {rule : Int} (hr : rule = 11 ∨ rule = 12 ∨ rule = 14 ∨ rule = 15 ∨ rule = 16) : eK s q rule = none := by
 obtain ⟨x,hx,_⟩ := in0 h k1
 unfold eK
 rw [fp h,bPs,bg]
 simp only
 rw [show ((0 : Int) != 0) = false from rfl,zd,bG k1,zd,cloneE h.gq,bPs,hx,bPs]
 rcases hr with rfl | rfl | rfl | rfl | rfl <;> rfl
theorem o_ans {rule : Int} (hr : rule = 11 ∨ rule = 12 ∨ rule = 14 ∨ rule = 15 ∨ rule = 16) : Ans s (gO s q rule) := by
 obtain ⟨x,hx,hm⟩ := in0 h k1
 have hxc := h.sub hm
 have hn := h.n24
 unfold gO
 rw [fp h,bPs,bg]
 simp only
 rw [show ((0 : Int) != 0) = false from rfl,zd,bG k1,zd,cloneG h.gq,bPs,hx,bPs]
 have first1 : ∀ {a b : LQuery},q.inputs = [a,b] → x = a := fun {a b} hab=>by
  rw [hab] at hx; exact (Option.some.inj hx).symm
 have first2 : ∀ {a : LQuery},q.inputs = [a] → x = a := fun {a} hab=>by
  rw [hab] at hx; exact (Option.some.inj hx).symm
 rcases hr with rfl | rfl | rfl | rfl | rfl
 ·by_cases c : q.kind = 4
  ·obtain ⟨a,b,hab,_,_⟩ := h.two (.inl c)
   obtain ⟨r,hr3,g1,n1⟩ := commute_ok h hab
   rw [c]
   show Ans s (ag (ag (dh (LRewriteRewriter.mk s) q) fun x83=>some (true,x83)) _)
   rw [hr3,bPs,bPs]
   exact kA (true,r) g1 (by simp only; omega)
  ·rw [bG c]
   exact Ans.nil s
 ·by_cases c : q.kind = 4 ∧ x.kind = 4
  ·obtain ⟨a,b,hab,_,_⟩ := h.two (.inl c.1)
   obtain rfl := first1 hab
   obtain ⟨r,hr3,g1,n1⟩ := assoc_ok h c.1 hab c.2
   rw [c.1,c.2]
   show Ans s (ag (ag (cS (LRewriteRewriter.mk s) q x) fun x101=>some (x101.2,x101.1)) _)
   rw [hr3,bPs,bPs]
   exact kA (r.2,r.1) g1 (by simp only; omega)
  ·have ht : (cond (q.kind == (4 : Int)) (x.kind == (4 : Int)) false) = false := by
    by_cases r1 : q.kind = 4
    ·rw [ek r1,zc]; exact bG fun hk=>c ⟨r1,hk⟩
    ·rw [bG r1,zd]
   rw [ht]
   exact Ans.nil s
 ·by_cases c : q.kind = 6 ∧ x.kind = 6
  ·obtain ⟨a,b,hab,ha,hb⟩ := h.two (by omega)
   obtain rfl := first1 hab
   obtain ⟨u,v,huv,hu,hv⟩ := ha.two (by omega)
   rw [c.1,c.2]
   show Ans s (ag (ag (aR x.inputs 1) fun (x135 : LQuery)=>ag (aR q.inputs 1) fun (x139 : LQuery)=>ag (aR x.inputs 0) fun (x145 : LQuery)=>some (true,(LQuery.mk 6 [] [] [] [] [] 0 0 [x145,(LQuery.mk 6 [] [] [] [] [] 0 0 [x135,x139])]))) _)
   rw [huv,hab]
   show Ans s (ag (some (true,(LQuery.mk 6 [] [] [] [] [] 0 0 [u,(LQuery.mk 6 [] [] [] [] [] 0 0 [v,b])]))) _)
   have g1 : GQ (LQuery.mk 6 [] [] [] [] [] 0 0 [v,b]) := GQ.of2 ⟨by simp [LQuery.exprs],by simp [LQuery.aggregates],by simp [LQuery.inputs],by simp [LQuery.exprs],by simp [LQuery.aggregates]⟩ rfl hv.gq hb.gq
   have g2 : GQ (LQuery.mk 6 [] [] [] [] [] 0 0 [u,(LQuery.mk 6 [] [] [] [] [] 0 0 [v,b])]) := GQ.of2 ⟨by simp [LQuery.exprs],by simp [LQuery.aggregates],by simp [LQuery.inputs],by simp [LQuery.exprs],by simp [LQuery.aggregates]⟩ rfl hu.gq g1
   have e1 := nQ2 hab
   have e2 := nQ2 huv
   have e3 := nQ2 (q := LQuery.mk 6 [] [] [] [] [] 0 0 [v,b]) rfl
   have e4 := nQ2 (q := LQuery.mk 6 [] [] [] [] [] 0 0 [u,(LQuery.mk 6 [] [] [] [] [] 0 0 [v,b])]) rfl
   have hn' : nQ q ≤ 24 := hn
   exact kA (true,_) g2 (by simp only; omega)
  ·have ht : (cond (q.kind == (6 : Int)) (x.kind == (6 : Int)) false) = false := by
    by_cases r1 : q.kind = 6
    ·rw [ek r1,zc]; exact bG fun hk=>c ⟨r1,hk⟩
    ·rw [bG r1,zd]
   rw [ht]
   exact Ans.nil s
 ·by_cases c : q.kind = 10 ∧ x.kind = 10
  ·obtain ⟨a,hab,ha⟩ := h.one (by omega)
   obtain rfl := first2 hab
   rw [c.1,c.2]
   have hg : GQ (cJ q x).1 ∧ nQ (cJ q x).1 ≤ 1000 := by
    unfold cJ
    rw [bg]
    cases (cond (decide (q.offset > (1099511627776 : Int))) true (decide (x.offset > (1099511627776 : Int)))) with
    | true=>rw [zc]; exact ⟨nilQ_ok,by show nQ lZ ≤ 1000; rw [nQ0 rfl]; decide⟩
    | false =>
     rw [zd]
     have g1 : ∀ a b,GQ (LQuery.mk 10 [] [] [] [] [] a b x.inputs) := fun a b=>GQ.mk ⟨by simp [LQuery.exprs],by simp [LQuery.aggregates],ha.gq.self.ins,by simp [LQuery.exprs],by simp [LQuery.aggregates]⟩ (fun z hz=>ha.gq.sub hz)
     have e2 : ∀ a b,nQ (LQuery.mk 10 [] [] [] [] [] a b x.inputs) = nQ x := fun a b=>by
      unfold nQ; rw [cF,cF x]; simp [LQuery.inputs]
     have := ha.n24
     have hn' : nQ x ≤ 24 := this
     exact ⟨g1 _ _,by simp only; rw [e2]; omega⟩
   revert hg
   generalize cJ q x = ml
   intro hg
   simp only [bg]
   show Ans s (ag (some (ml.2,ml.1)) _)
   rw [bPs]
   exact kA (ml.2,ml.1) hg.1 hg.2
  ·have ht : (cond (q.kind == (10 : Int)) (x.kind == (10 : Int)) false) = false := by
    by_cases r1 : q.kind = 10
    ·rw [ek r1,zc]; exact bG fun hk=>c ⟨r1,hk⟩
    ·rw [bG r1,zd]
   rw [ht]
   exact Ans.nil s
 ·by_cases c : q.kind = 10 ∧ x.kind = 3
  ·obtain ⟨a,hab,ha⟩ := h.one (by omega)
   obtain rfl := first2 hab
   obtain ⟨y,hy,hyc⟩ := ha.one (by omega)
   rw [c.1,c.2]
   have g1 : GQ (LQuery.mk q.kind q.table q.names q.exprs q.aggregates q.descending q.count q.offset x.inputs) := lr h.gq ha.gq.self.ins (fun z hz=>ha.gq.sub hz)
   have g2 : GQ (LQuery.mk x.kind x.table x.names x.exprs x.aggregates x.descending x.count x.offset [LQuery.mk q.kind q.table q.names q.exprs q.aggregates q.descending q.count q.offset x.inputs]) := lr ha.gq (by simp) (by simpa using g1)
   have e1 := nQ1 hab
   have e2 : nQ (LQuery.mk q.kind q.table q.names q.exprs q.aggregates q.descending q.count q.offset x.inputs) = nQ x := by
    unfold nQ; rw [cF,cF x]; simp [LQuery.inputs]
   have e3 := nQ1 (q := LQuery.mk x.kind x.table x.names x.exprs x.aggregates x.descending x.count x.offset [LQuery.mk q.kind q.table q.names q.exprs q.aggregates q.descending q.count q.offset x.inputs]) rfl
   have hn' : nQ q ≤ 24 := hn
   rw [c.1] at g1 g2 e2 e3
   rw [c.2] at g2 e3
   exact kA (true,_) g2 (by simp only; omega)
  ·have ht : (cond (q.kind == (10 : Int)) (x.kind == (3 : Int)) false) = false := by
    by_cases r1 : q.kind = 10
    ·rw [ek r1,zc]; exact bG fun hk=>c ⟨r1,hk⟩
    ·rw [bG r1,zd]
   rw [ht]
   exact Ans.nil s
end
theorem apply_tot {s : LSchema} {q : LQuery} (h : CQ s q) (rule : Int) : Ans s (bV s q rule) := by
 unfold bV
 by_cases k1 : q.kind = 1
 ·refine ans1 ?_
  unfold bR
  rw [fp h,bPs,bg]
  simp only
  rw [show ((0 : Int) != 0) = false from rfl,zd,ek k1,zc]
  exact Ans.nil s
 ·by_cases r1 : 1 ≤ rule ∧ rule ≤ 9 ∧ q.kind = 2
  ·exact ans1 (w_filter h k1 ⟨r1.1,r1.2.1⟩ r1.2.2)
  ·by_cases r2 : rule < 10 ∨ 16 < rule
   ·have hsh := h.shape
    have har := hsh.arity
    unfold lR at har
    rw [zy k1] at har
    split at har
    ·obtain ⟨x,y,hxy⟩ := two har
     exact ans2 (w_two h k1 hxy rule) (ans1 (f_ans h k1 r1 (by omega)))
    ·obtain ⟨x,hx⟩ := one har
     exact ans1 (w_no h k1 r1 r2 hx)
   ·refine ans2 (w_none h k1 (by omega)) ?_
    by_cases r3 : rule = 10
    ·exact ans1 (f_ans h k1 r1 (by omega))
    ·refine ans2 (f_none h k1 (by omega)) ?_
     by_cases r4 : rule = 13
     ·subst r4; exact ans1 (m_ans h k1)
     ·exact ans2 (m_none h k1 (by omega)) (o_ans h k1 (by omega))
theorem apply_out {s : LSchema} {q : LQuery} (h : CQ s q) {rule : Int} (hr : rule < 1 ∨ 16 < rule) : ∃ r,bV s q rule = some r ∧ r.2 = false := by
 unfold bV
 by_cases k1 : q.kind = 1
 ·refine ⟨(LQuery.mk 0 [] [] [] [] [] 0 0 [],false),?_,rfl⟩
  have : bR s q rule = some (LQuery.mk 0 [] [] [] [] [] 0 0 [],false) := by
   unfold bR
   rw [fp h,bPs,bg]
   simp only
   rw [show ((0 : Int) != 0) = false from rfl,zd,ek k1,zc]
  rw [this]
  rfl
 ·have ht : (cond (decide (rule ≥ (1 : Int))) (cond (decide (rule ≤ (9 : Int))) (q.kind == (2 : Int)) false) false) = false := by
   by_cases a : rule ≥ 1
   ·rw [zt a,zc,zf (show ¬ rule ≤ 9 by omega),zd]
   ·rw [zf a,zd]
  refine ⟨(LQuery.mk 0 [] [] [] [] [] 0 0 [],false),?_,rfl⟩
  have har := h.shape.arity
  unfold lR at har
  rw [zy k1] at har
  split at har
  ·obtain ⟨x,y,hxy⟩ := two har
   rw [w_two h k1 hxy rule]
   have : dE s q rule = some (LQuery.mk 0 [] [] [] [] [] 0 0 [],false) := by
    unfold dE
    rw [fp h,bPs,bg]
    simp only
    rw [show ((0 : Int) != 0) = false from rfl,zd,bG k1,zd,mY h.gq,bPs,show aR q.inputs (0 : Int) = some x from by rw [hxy]; rfl,bPs,bg,ht,zd,bg,bG (show rule ≠ 10 by omega),zd,zd,
     bG (show rule ≠ 11 by omega),bG (show rule ≠ 12 by omega),bG (show rule ≠ 13 by omega),bG (show rule ≠ 14 by omega),bG (show rule ≠ 15 by omega),bG (show rule ≠ 16 by omega)]
    rfl
   rw [this]
   rfl
  ·obtain ⟨x,hx⟩ := one har
   have : bR s q rule = some (LQuery.mk 0 [] [] [] [] [] 0 0 [],false) := by
    unfold bR
    rw [fp h,bPs,bg]
    simp only
    rw [show ((0 : Int) != 0) = false from rfl,zd,bG k1,zd,show oneI q.inputs = some x from by rw [hx]; rfl,bPs,cloneB h.gq hx,bPs,bg]
    simp only
    rw [ht,zd,bG (show rule ≠ 10 by omega),bG (show rule ≠ 11 by omega),bG (show rule ≠ 12 by omega),bG (show rule ≠ 13 by omega),bG (show rule ≠ 14 by omega),bG (show rule ≠ 15 by omega),bG (show rule ≠ 16 by omega)]
    rfl
   rw [this]
   rfl
theorem repl_both : ∀ q : LQuery,(∃ N,∀ n,N ≤ n → ∀ a b,dO n q a b = ct q a b) ∧ ∀ a b,ct q a b = cR ct q a b := by
 refine LQuery.ind fun q ih=>?_
 obtain ⟨N,hN⟩ := jE (p := fun x n=>∀ a b,dO n x a b = ct x a b) q.inputs fun x hx=>(ih x hx).1
 have key : ∀ n,N + 1 ≤ n → ∀ a b,dO n q a b = cR ct q a b := by
  intro n hn a b
  obtain ⟨n,rfl⟩ : ∃ k,n = k + 1 := ⟨n - 1,by omega⟩
  show cR (fun b0 b1 b2=>dO n b0 b1 b2) q a b = _
  simp only [cR]
  congr 1
  congr 1
  funext x16
  congr 1
  exact ii q.inputs 0 _ fun j x s hj=>by simp only [hN n (by omega) x (cy hj)]
 have e1 : ∀ a b,ct q a b = cR ct q a b := fun a b=>pK (N + 1) fun n hn=>key n hn a b
 exact ⟨⟨N + 1,fun n hn a b=>by rw [key n hn,e1]⟩,e1⟩
theorem replaced0 (q : LQuery) {y : LQuery} (h : GQ y) : ct q 0 y = some y := by
 rw [(repl_both q).2]
 unfold cR
 rw [show ((0 : Int) == 0) = true from rfl,zc,mY h,bPs]
abbrev fQ (l : List LQuery) : Nat := ((l.map bP).flatten).length
theorem fQ_app (a b : List LQuery) : fQ (a ++ b) = fQ a + fQ b := by simp only [fQ,List.map_append,List.flatten_append,List.length_append]
theorem fQ_one (a : LQuery) : fQ [a] = nQ a := by simp [fQ,nQ]
theorem nQ_eq (q : LQuery) : nQ q = fQ q.inputs + 1 := by unfold nQ; rw [cF]; simp [fQ]
theorem repl_tot {b : LQuery} (hb : GQ b) : ∀ q : LQuery,GQ q → nQ q ≤ 10000000 → ∀ a,∃ z,ct q a b = some z ∧ GQ z ∧ nQ z ≤ nQ q * (nQ b + 1) := by
 refine LQuery.ind fun q ih h hn a=>?_
 rw [(repl_both q).2]
 unfold cR
 by_cases h0 : a = 0
 ·rw [ek h0,zc,mY hb,bPs]
  refine ⟨b,rfl,hb,?_⟩
  have := Nat.le_mul_of_pos_left (nQ b + 1) (nodesQ_pos q)
  show nQ b ≤ nQ q * (nQ b + 1)
  exact Nat.le_trans (Nat.le_succ _) this
 ·rw [bG h0,zd,mY h,bPs]
  have hil := h.self.ins
  refine iz (R := fun z : LQuery=>GQ z ∧ nQ z ≤ nQ q * (nQ b + 1))
   (fun j s=>∃ l1,s.2 = l1 ++ q.inputs.drop j ∧ l1.length = j ∧ (∀ x ∈ l1,GQ x) ∧ fQ l1 ≤ fQ (q.inputs.take j) * (nQ b + 1))
   ⟨[],by simp,rfl,by simp,by simp [fQ]⟩ (fun j x s hj hI=>?_) (fun s hI=>?_)
  ·obtain ⟨l1,hs,hl,hg,hf⟩ := hI
   obtain ⟨hlt,he⟩ := zg.1 hj
   have hx := cy hj
   have hnx : nQ x + 1 ≤ nQ q := iB hx
   have hd : s.2 = l1 ++ x :: q.inputs.drop (j + 1) := by rw [hs,List.drop_eq_getElem_cons hlt,he]
   have tk : fQ (q.inputs.take (j + 1)) = fQ (q.inputs.take j) + nQ x := by
    rw [List.take_add_one,hj,fQ_app]
    simp only [Option.toList_some,fQ_one]
   have nxt : ∀ z,GQ z → nQ z ≤ nQ x * (nQ b + 1) → ∃ l2,l1 ++ z :: q.inputs.drop (j + 1) = l2 ++ q.inputs.drop (j + 1) ∧ l2.length = j + 1 ∧ (∀ x ∈ l2,GQ x) ∧ fQ l2 ≤ fQ (q.inputs.take (j + 1)) * (nQ b + 1) := fun z hz hzn =>
    ⟨l1 ++ [z],by simp,by simp [hl],fun y hy=>by
     rcases List.mem_append.1 hy with hy | hy
     ·exact hg y hy
     ·rw [List.mem_singleton.1 hy]; exact hz,by rw [fQ_app,fQ_one,tk,Nat.add_mul]; omega⟩
   rw [pg x (by show nQ x ≤ _; omega),bPs,bg]
   cases (cond (decide (s.1 ≥ (0 : Int))) ((decide (s.1 < ((bP x).length : Int)))) (false)) with
   | true =>
    obtain ⟨z,hz,gz,nz⟩ := ih x hx (h.sub hx) (by omega) s.1
    rw [zc,hz,bPs]
    have g1 : aR s.2 (j : Int) = some x := iG (by rw [hd,List.getElem?_append_right (by omega),hl,Nat.sub_self]; rfl)
    rw [g1,bPs,bg]
    refine ⟨_,rfl,?_⟩
    have g2 : s.2.set ((j : Int).toNat) z = l1 ++ z :: q.inputs.drop (j + 1) := by
     rw [Int.toNat_natCast,hd,List.set_append_right _ _ (by omega),hl,Nat.sub_self]
     rfl
    rw [g2]
    exact nxt z gz nz
   | false =>
    refine ⟨_,by rw [zd],?_⟩
    rw [hd]
    exact nxt x (h.sub hx) (Nat.le_mul_of_pos_right _ (by omega))
  ·obtain ⟨l1,hs,hl,hg,hf⟩ := hI
   rw [List.drop_length,List.append_nil] at hs
   rw [List.take_length] at hf
   refine ⟨_,rfl,lr h (by rw [hs]; omega) (by rw [hs]; exact hg),?_⟩
   rw [nQ_eq,nQ_eq q]
   show fQ s.2 + 1 ≤ _
   rw [hs,Nat.add_mul]
   omega
def eu (q : LQuery) : Bool → List Bool := fun b=>b :: (q.inputs.attach.map fun x=>eu x.1 (b || q.kind == 10)).flatten
termination_by SizeOf.sizeOf q
decreasing_by exact LQuery.inputs_lt x.2
theorem nI (q : LQuery) (b : Bool) : eu q b = b :: (q.inputs.map fun x=>eu x (b || q.kind == 10)).flatten := by
 rw [eu,List.attach_map_val (f := fun x=>eu x (b || q.kind == 10))]
theorem belowQ_len : ∀ (q : LQuery) (b : Bool),(eu q b).length = nQ q := by
 refine LQuery.ind fun q ih b=>?_
 have : ∀ l : List LQuery,(∀ x ∈ l,x ∈ q.inputs) → ((l.map fun x=>eu x (b || q.kind == 10)).flatten).length = fQ l := by
  intro l hl
  induction l with
  | nil=>rfl
  | cons x l ihl =>
   have h1 := ih x (hl x (by simp)) (b || q.kind == 10)
   have h2 := ihl fun y hy=>hl y (by simp [hy])
   simp only [List.map_cons,List.flatten_cons,List.length_append,fQ] at h2 ⊢
   rw [h1,h2]
 rw [nI,List.length_cons,this q.inputs fun x hx=>hx,nQ_eq]
theorem below_ok : ∀ q : LQuery,nQ q ≤ 10000000 → ∀ b,∃ N,∀ n,N ≤ n → cQ n q b = some (eu q b) := by
 refine LQuery.ind fun q ih hn b=>?_
 obtain ⟨N,hN⟩ := jE (p := fun x n=>cQ n x (b || q.kind == 10) = some (eu x (b || q.kind == 10))) q.inputs fun x hx=>ih x hx (by have : nQ x + 1 ≤ nQ q := iB hx; omega) _
 refine ⟨N + 1,fun n hle=>?_⟩
 obtain ⟨n,rfl⟩ : ∃ k,n = k + 1 := ⟨n - 1,by omega⟩
 rw [cQ]
 unfold gU
 have hr := rMa (ρ := Empty) (step := fun (_ : Nat) (x1 : LQuery) (s1 : List Bool) =>
  cond b
   (ag (cQ n x1 true) fun x25 =>
   ag (bS 1 s1 x25) fun (x26 : List Bool) =>
   some (.next x26))
   (ag (cQ n x1 (q.kind == (10 : Int))) fun x25 =>
   ag (bS 1 s1 x25) fun (x26 : List Bool) =>
   some (.next x26))) (xs := q.inputs) (s := [b])
  (fun k=>b :: ((q.inputs.take k).map fun x=>eu x (b || q.kind == 10)).flatten) (by simp) (fun k x hk=>by
   have hx := cy hk
   have e1 := hN n (by omega) x hx
   have hlen : (((q.inputs.take (k + 1)).map fun x=>eu x (b || q.kind == 10)).flatten).length ≤ ((q.inputs.map fun x=>eu x (b || q.kind == 10)).flatten).length := take_flat
   have h3 := belowQ_len q b
   rw [nI,List.length_cons] at h3
   have key : ag (bS 1 (b :: ((q.inputs.take k).map fun x=>eu x (b || q.kind == 10)).flatten) (eu x (b || q.kind == 10))) (fun (x26 : List Bool)=>some (Flow.next (ρ := Empty) x26)) = some (.next (b :: ((q.inputs.take (k + 1)).map fun x=>eu x (b || q.kind == 10)).flatten)) := by
    rw [List.take_add_one,hk] at hlen ⊢
    simp only [Option.toList_some,List.map_append,List.flatten_append,List.map_cons,List.map_nil,List.flatten_cons,List.flatten_nil,List.append_nil,List.length_append] at hlen ⊢
    rw [bL (by decide) (by simp only [List.length_cons]; omega),bPs]
    rfl
   cases b with
   | true=>rw [zc]; simp only [Bool.true_or] at e1 key ⊢; rw [e1,bPs,key]
   | false=>rw [zd]; simp only [Bool.false_or] at e1 key ⊢; rw [e1,bPs,key])
 dsimp only
 rw [hr,bPs,bJ,List.take_length,← nI]
theorem belowL {q : LQuery} (h : nQ q ≤ 10000000) (b : Bool) : iW q b = some (eu q b) := by
 obtain ⟨N,hN⟩ := below_ok q h b
 exact gX N hN
theorem eqLoop {α : Type} {xs : List α} {f : α → α → Option Bool} (h : ∀ x ∈ xs,f x x = some true) :
  (cond ((xs.length : Int) != (xs.length : Int)) (some false) (ag (aI (σ := Unit) (ρ := Bool) (fun (j1 : Nat) (x1 : α) (_ : Unit) =>
   ag (aR xs (j1 : Int)) fun (x24 : α) =>
   ag (f x1 x24) fun x29 =>
   cond (!x29)
    (some (.ret false))
    (some (.next ()))) 0 xs ()) fun fl1=>fl1.thenR fun (_ : Unit)=>some true)) = some true := by
 rw [bneF rfl,zd,rMa (xs := xs) (fun _=>()) rfl (fun k x hk=>by rw [iG hk,bPs,h x (cy hk),bPs]; rfl)]
 rfl
theorem eqLoop2 {α : Type} [BEq α] [ReflBEq α] (xs : List α) :
  (cond ((xs.length : Int) != (xs.length : Int)) (some false) (ag (aI (σ := Unit) (ρ := Bool) (fun (j1 : Nat) (x1 : α) (_ : Unit) =>
   ag (aR xs (j1 : Int)) fun (x24 : α) =>
   cond (!(x1 == x24))
    (some (.ret false))
    (some (.next ()))) 0 xs ()) fun fl1=>fl1.thenR fun (_ : Unit)=>some true)) = some true := by
 rw [bneF rfl,zd,rMa (xs := xs) (fun _=>()) rfl (fun k x hk=>by rw [iG hk,bPs,BEq.rfl]; rfl)]
 rfl
theorem exprEq_ev (e : LExpr) : ∃ N,∀ n,N ≤ n → gr n e e = some true := by
 induction e using LExpr.ind with
 | _ e ih =>
  obtain ⟨N,hN⟩ := jE (p := fun x n=>gr n x x = some true) e.args ih
  refine ⟨N + 1,fun n hn=>?_⟩
  obtain ⟨n,rfl⟩ : ∃ k,n = k + 1 := ⟨n - 1,by omega⟩
  rw [gr]
  unfold kO
  have hl : bc e.args e.args (fun a0 a1=>gr n a0 a1) = some true := by
   unfold bc
   exact eqLoop fun x hx=>hN n (by omega) x hx
  dsimp only
  rw [hl]
  simp only [BEq.rfl,Bool.and_true,zc,bPs]
theorem exprEq (e : LExpr) : ie e e = some true := by
 obtain ⟨N,hN⟩ := exprEq_ev e
 exact gX N hN
theorem exprsEq (l : List LExpr) : bc l l (fun a0 a1=>ie a0 a1) = some true := by
 unfold bc
 exact eqLoop fun x _=>exprEq x
theorem callEq (x : LAggregateCall) : fE x x = some true := by
 unfold fE
 rw [exprsEq]
 simp only [BEq.rfl,zc,bPs]
theorem queryEq_ev : ∀ q : LQuery,∃ N,∀ n,N ≤ n → fV n q q = some true := by
 refine LQuery.ind fun q ih=>?_
 obtain ⟨N,hN⟩ := jE (p := fun x n=>fV n x x = some true) q.inputs ih
 refine ⟨N + 1,fun n hn=>?_⟩
 obtain ⟨n,rfl⟩ : ∃ k,n = k + 1 := ⟨n - 1,by omega⟩
 rw [fV]
 unfold kg
 have h1 : dA q.names q.names = some true := by
  unfold dA
  exact eqLoop2 q.names
 have h2 : en q.descending q.descending = some true := by
  unfold en
  exact eqLoop2 q.descending
 have h3 : ba q.aggregates q.aggregates (fun a0 a1=>fE a0 a1) = some true := by
  unfold ba
  exact eqLoop fun x _=>callEq x
 have h4 : aT q.inputs q.inputs (fun a0 a1=>fV n a0 a1) = some true := by
  unfold aT
  exact eqLoop fun x hx=>hN n (by omega) x hx
 dsimp only
 rw [h1,h2,exprsEq,h3,h4]
 simp only [BEq.rfl,zc,bPs]
theorem queriesEq (l : List LQuery) : aT l l (fun a0 a1=>jk a0 a1) = some true := by
 unfold aT
 exact eqLoop fun x _=>by
  obtain ⟨N,hN⟩ := queryEq_ev x
  exact gX N hN
theorem rwhileM_by {σ ρ : Type} {step : σ → Option (Flow σ ρ)} (I : σ → Prop) (μ : σ → Nat) (Q : σ → Prop) (R : ρ → Prop) (hs : ∀ s,I s → ∃ fl,step s = some fl ∧ (match fl with | .next s'=>I s' ∧ μ s' < μ s | .brk s'=>Q s' | .ret r=>R r)) :
  ∀ s,I s → ∃ fl,iF step s = some fl ∧ (match fl with | .next s'=>Q s' | .brk _=>False | .ret r=>R r) := by
 intro s
 generalize hn : μ s = n
 induction n using Nat.strongRecOn generalizing s with
 | _ n ih =>
  intro hI
  obtain ⟨fl,h1,h2⟩ := hs s hI
  cases fl with
  | next s' =>
   obtain ⟨fl,h3,h4⟩ := ih (μ s') (hn ▸ h2.2) s' rfl h2.1
   exact ⟨fl,jU h1 h3,h4⟩
  | brk s'=>exact ⟨.next s',jU h1 rfl,h2⟩
  | ret r=>exact ⟨.ret r,jU h1 rfl,h2⟩
theorem rwhile_run {σ β : Type} {step : σ → Option (Flow σ Empty)} {k : σ → Option β} {R : β → Prop} {s : σ} (I : σ → Prop) (μ : σ → Nat) (Q : σ → Prop) (h0 : I s)
  (hs : ∀ s,I s → ∃ fl,step s = some fl ∧ (match fl with | .next s'=>I s' ∧ μ s' < μ s | .brk s'=>Q s' | .ret _=>False)) (hk : ∀ s',Q s' → ∃ r,k s' = some r ∧ R r) :
  ∃ r,ag (iF step s) (fun fl=>fl.thenP k) = some r ∧ R r := by
 obtain ⟨fl,h1,h2⟩ := rwhileM_by (step := step) I μ Q (fun _=>False) (fun s hI=>by
  obtain ⟨fl,h1,h2⟩ := hs s hI
  refine ⟨fl,h1,?_⟩
  cases fl with
  | next s'=>exact h2
  | brk s'=>exact h2
  | ret r=>exact r.elim) s h0
 cases fl with
 | next s'=>rw [h1]; exact hk s' h2
 | brk s'=>exact absurd h2 (by simp)
 | ret r=>exact r.elim
theorem CQ.nodes {s : LSchema} : ∀ q : LQuery,CQ s q → ∀ x ∈ bP q,CQ s x := by
 refine LQuery.ind fun q ih h x hx=>?_
 rw [cF] at hx
 rcases List.mem_cons.1 hx with rfl | hx
 ·exact h
 ·obtain ⟨l,hl,hx⟩ := List.mem_flatten.1 hx
  obtain ⟨y,hy,rfl⟩ := List.mem_map.1 hl
  exact ih y hy (h.sub hy) x hx
def gJ (s : LSchema) (q : LQuery) : Nat → List LQuery
 | 0=>[]
 | k + 1=>gJ s q k ++ (match bV s q (((k + 1 : Nat) : Int)) with | some (y,true)=>[y] | _=>[])
theorem wantL_no {s : LSchema} {q : LQuery} {r : Int} {y : LQuery} (h0 : 1 ≤ r) (h : bV s q r = some (y,false)) : gJ s q ((r + 1).toNat - 1) = gJ s q (r.toNat - 1) := by
 obtain ⟨k,rfl⟩ : ∃ k : Nat,r = ((k + 1 : Nat) : Int) := ⟨r.toNat - 1,by omega⟩
 have e1 : ((((k + 1 : Nat) : Int)) + 1).toNat - 1 = k + 1 := by omega
 have e2 : (((k + 1 : Nat) : Int)).toNat - 1 = k := by omega
 rw [e1,e2,gJ,h]
 simp
theorem wantL_yes {s : LSchema} {q : LQuery} {r : Int} {y : LQuery} (h0 : 1 ≤ r) (h : bV s q r = some (y,true)) : gJ s q ((r + 1).toNat - 1) = gJ s q (r.toNat - 1) ++ [y] := by
 obtain ⟨k,rfl⟩ : ∃ k : Nat,r = ((k + 1 : Nat) : Int) := ⟨r.toNat - 1,by omega⟩
 have e1 : ((((k + 1 : Nat) : Int)) + 1).toNat - 1 = k + 1 := by omega
 have e2 : (((k + 1 : Nat) : Int)).toNat - 1 = k := by omega
 rw [e1,e2,gJ,h]
abbrev gZ (A : List LRewriteAlternative) : List LQuery := (A.filter fun x=>x.node == 0).map fun x=>x.query
theorem selA_app (A B : List LRewriteAlternative) : gZ (A ++ B) = gZ A ++ gZ B := by simp [gZ]
def nN (q : LQuery) (x : LRewriteAlternative) : Prop := 0 ≤ x.node ∧ x.node < (nQ q : Int) ∧ (x.rule = 11 → (eu q false)[x.node.toNat]? = some false)
theorem alts_ok {s : LSchema} {q : LQuery} (h : CQ s q) : ∃ A,cA s q = some A ∧ A.length ≤ 400 ∧ (∀ x ∈ A,nN q x) ∧ gZ A = gJ s q 16 := by
 have hn : nQ q ≤ 24 := h.n24
 unfold cA
 rw [fp h,bPs]
 simp only
 rw [show ((0 : Int) != 0) = false from rfl,zd,belowL (by omega),bPs,pg q (by show nQ q ≤ _; omega),bPs]
 refine iz (R := fun A : List LRewriteAlternative=>A.length ≤ 400 ∧ (∀ x ∈ A,nN q x) ∧ gZ A = gJ s q 16)
  (fun j A=>A.length ≤ 16 * j ∧ (∀ x ∈ A,nN q x) ∧ gZ A = if j = 0 then [] else gJ s q 16)
  ⟨by simp,by simp,rfl⟩ (fun j x A hj hI=>?_) (fun A hI=>?_)
 ·obtain ⟨hl,hA,hsel⟩ := hI
  obtain ⟨hlt,he⟩ := zg.1 hj
  have hx : CQ s x := h.nodes q x (cy hj)
  have hx0 : j = 0 → x = q := fun h0=>by
   subst h0
   rw [cF] at hj
   exact (Option.some.inj hj).symm
  have hj24 : j < 24 := Nat.lt_of_lt_of_le hlt hn
  have hlow : ∃ b,aR (eu q false) (j : Int) = some b ∧ (eu q false)[j]? = some b ∧ (j = 0 → b = false) := by
   have hlt2 : j < (eu q false).length := by rw [belowQ_len]; exact hlt
   refine ⟨_,iG (ze hlt2),ze hlt2,fun h0=>?_⟩
   subst h0
   have := nI q false
   exact Option.some.inj ((ze hlt2).symm.trans (by rw [this]; rfl))
  obtain ⟨low,hlow1,hlow2,hlow3⟩ := hlow
  have key : ∃ fl,(ag (iF (σ := List LRewriteAlternative × Int) (ρ := Empty) (fun (s10 : List LRewriteAlternative × Int) =>
    cond (decide (s10.2 < (17 : Int)))
     (ag (bV s x s10.2) fun x41 =>
     ag (
      cond (!x41.2)
       (some true)
       (cond (s10.2 == (11 : Int))
        (ag (aR (eu q false) (j : Int)) fun (x52 : Bool) =>
        some x52)
        (some false))) fun (t13 : Bool) =>
     cond t13
      (some (.next (s10.1,(IntKind.i64.wrap (s10.2 + (1 : Int))))))
      (ag (ct q (j : Int) x41.1) fun x59 =>
      ag (gF s x59) fun x62 =>
      cond x62
       (ag (bS 176 s10.1 ([(LRewriteAlternative.mk (j : Int) s10.2 x59)] : List LRewriteAlternative)) fun (x69 : List LRewriteAlternative) =>
       some (.next (x69,(IntKind.i64.wrap (s10.2 + (1 : Int))))))
       (some (.next (s10.1,(IntKind.i64.wrap (s10.2 + (1 : Int))))))))
     (some (.brk (s10.1,s10.2)))) (A,1)) fun fl10=>fl10.thenP fun (s10 : List LRewriteAlternative × Int) =>
   some (Flow.next (ρ := Empty) s10.1)) = some fl ∧ ∃ B,fl = .next B ∧ B.length ≤ 16 * (j + 1) ∧ (∀ x ∈ B,nN q x) ∧ gZ B = gJ s q 16 := by
   refine rwhile_run (R := fun fl=>∃ B,fl = Flow.next B ∧ B.length ≤ 16 * (j + 1) ∧ (∀ x ∈ B,nN q x) ∧ gZ B = gJ s q 16)
    (fun t=>(1 ≤ t.2 ∧ t.2 ≤ 17) ∧ t.1.length ≤ 16 * j + (t.2.toNat - 1) ∧ (∀ x ∈ t.1,nN q x) ∧ gZ t.1 = gZ A ++ (if j = 0 then gJ s q (t.2.toNat - 1) else []))
    (fun t=>17 - t.2.toNat)
    (fun t=>t.1.length ≤ 16 * (j + 1) ∧ (∀ x ∈ t.1,nN q x) ∧ gZ t.1 = gJ s q 16)
    ⟨⟨by show (1 : Int) ≤ 1; omega,by show (1 : Int) ≤ 17; omega⟩,by simpa using hl,hA,by simp [gJ]⟩ (fun t hI=>?_) (fun t hI=>⟨_,rfl,_,rfl,hI⟩)
   obtain ⟨B,r⟩ := t
   obtain ⟨⟨hr1,hr2⟩,hlB,hB,hselB⟩ := hI
   dsimp only at hr1 hr2 hlB hB hselB ⊢
   by_cases hr : r < 17
   ·rw [zt hr,zc,fR (n := r + 1) (by omega) (by omega)]
    obtain ⟨⟨y,ok⟩,hy,⟨gy,ny⟩,hck⟩ := apply_tot hx r
    dsimp only at gy ny hck
    rw [hy,bPs]
    have skip : (j = 0 → gJ s q ((r + 1).toNat - 1) = gJ s q (r.toNat - 1)) →
      ((1 ≤ r + 1 ∧ r + 1 ≤ 17) ∧ B.length ≤ 16 * j + ((r + 1).toNat - 1) ∧ (∀ x ∈ B,nN q x) ∧ gZ B = gZ A ++ (if j = 0 then gJ s q ((r + 1).toNat - 1) else [])) ∧ 17 - (r + 1).toNat < 17 - r.toNat := fun hw=>by
     refine ⟨⟨⟨by omega,by omega⟩,by omega,hB,?_⟩,by omega⟩
     rw [hselB]
     by_cases h0 : j = 0
     ·rw [zp h0,zp h0,hw h0]
     ·rw [zy h0,zy h0]
    cases ok with
    | false =>
     simp only [Bool.not_false,zc,bPs]
     exact ⟨_,rfl,skip fun h0=>wantL_no hr1 (by rw [← hx0 h0]; exact hy)⟩
    | true =>
     simp only [Bool.not_true,zd]
     have ht : (cond (r == (11 : Int)) (ag (aR (eu q false) (j : Int)) fun (x52 : Bool)=>some x52) (some false)) = some (r == 11 && low) := by
      cases r == (11 : Int) with
      | true=>rw [zc,hlow1,bPs,Bool.true_and]
      | false=>rfl
     rw [ht,bPs]
     cases hb : (r == (11 : Int) && low) with
     | true =>
      rw [zc]
      refine ⟨_,rfl,skip fun h0=>?_⟩
      rw [hlow3 h0] at hb
      simp at hb
     | false =>
      rw [zd]
      obtain ⟨z,hz,gz,nz⟩ := repl_tot gy q h.gq (by omega) (j : Int)
      have hnz : nQ z ≤ 10000000 := by
       have : nQ q * (nQ y + 1) ≤ 24 * 1001 := Nat.mul_le_mul hn (by omega)
       omega
      obtain ⟨cs,e,hc,_⟩ := mO (s := s) (vars := []) (gz.small hnz)
      have hv : gF s z = some (e == 0) := by
       unfold gF bI
       rw [hc]
       rfl
      rw [hz,bPs,hv,bPs]
      have hyq : j = 0 → bV s q r = some (y,true) ∧ z = y ∧ e = 0 := fun h0=>by
       have hzy : z = y := by
        rw [h0] at hz
        exact Option.some.inj (hz.symm.trans (replaced0 q gy))
       refine ⟨by rw [← hx0 h0]; exact hy,hzy,?_⟩
       obtain ⟨cs2,h2⟩ := hck rfl
       rw [← hzy] at h2
       unfold bI at h2
       rw [hc,bPs] at h2
       exact congrArg Prod.snd (Option.some.inj h2)
      by_cases he0 : e = 0
      ·rw [ek he0,zc,bL (by decide) (by simp only [List.length_cons,List.length_nil]; omega),bPs]
       refine ⟨_,rfl,⟨⟨by omega,by omega⟩,by simp only [List.length_append,List.length_cons,List.length_nil]; omega,fun w hw=>?_,?_⟩,by omega⟩
       ·rcases List.mem_append.1 hw with hw | hw
        ·exact hB w hw
        ·rw [List.mem_singleton.1 hw]
         refine ⟨by show (0 : Int) ≤ (j : Int); omega,by show (j : Int) < (nQ q : Int); have : j < nQ q := hlt; omega,fun h11=>?_⟩
         show (eu q false)[((j : Int)).toNat]? = some false
         rw [Int.toNat_natCast,hlow2]
         have h11 : r = 11 := h11
         rw [ek h11,Bool.true_and] at hb
         rw [hb]
       ·rw [selA_app,hselB]
        by_cases h0 : j = 0
        ·obtain ⟨ha,hzy,_⟩ := hyq h0
         rw [zp h0,zp h0,wantL_yes hr1 ha,List.append_assoc]
         congr 2
         rw [← hzy,h0]
         rfl
        ·rw [zy h0,zy h0,List.append_nil]
         have : ((j : Int) == 0) = false := bG (by omega)
         simp [gZ,this]
      ·rw [bG he0,zd]
       exact ⟨_,rfl,skip fun h0=>absurd (hyq h0).2.2 he0⟩
   ·rw [zf hr,zd]
    refine ⟨_,rfl,?_⟩
    have hr17 : r = 17 := by omega
    subst hr17
    have e16 : (17 : Int).toNat - 1 = 16 := rfl
    rw [e16] at hlB hselB
    refine ⟨by show B.length ≤ _; omega,hB,?_⟩
    show gZ B = _
    rw [hselB,hsel]
    by_cases h0 : j = 0
    ·rw [zp h0,zp h0,List.nil_append]
    ·rw [zy h0,zy h0,List.append_nil]
  obtain ⟨fl,h1,B,rfl,h2⟩ := key
  exact ⟨B,h1,h2.1,h2.2.1,by rw [zy (by omega)]; exact h2.2.2⟩
 ·obtain ⟨hl,hA,hsel⟩ := hI
  refine ⟨A,rfl,by have : (bP q).length = nQ q := rfl; omega,hA,?_⟩
  rw [hsel,zy]
  have := nodesQ_pos q
  omega
theorem alts_empty : ∃ A,cA (LSchema.mk [] [] []) (LQuery.mk 0 [] [] [] [] [] 0 0 []) = some A ∧ A = [] := by
 obtain ⟨cs,e,hc,he,_⟩ := mO (s := LSchema.mk [] [] []) (vars := []) (q := lZ) (nilQ_ok.small (by have : nQ lZ = 1 := nQ0 rfl; show nQ lZ ≤ _; omega))
 unfold cA bI
 have hc' : eU (LSchema.mk [] [] []) [] (LQuery.mk 0 [] [] [] [] [] 0 0 []) = some (cs,e) := hc
 rw [hc',bPs,bPs]
 have hne : e ≠ 0 := fun h0=>by
  have := (shape_ok (cols_inv (he.1 h0).2.2).1).arity
  exact absurd this (by decide)
 rw [bneT hne,zc]
 exact ⟨[],rfl,rfl⟩
theorem qU {s : LSchema} (hs : SmallS s) {q : LQuery} (hq : aK (am q) ≤ 1048576) : cG s q = some true := by
 unfold cG
 rw [bg,show (!sampleV) = false from rfl,zd]
 obtain ⟨b,hb,hcq⟩ := valid_tot hs hq
 rw [hb,bPs]
 cases b with
 | false =>
  obtain ⟨A,hA,rfl⟩ := alts_empty
  rw [Bool.not_false,zc,hA,bPs]
  rfl
 | true =>
  have h := hcq rfl
  rw [Bool.not_true,zd]
  obtain ⟨A,hA,hl,_,hsel⟩ := alts_ok h
  obtain ⟨⟨y0,b0⟩,h0,e0⟩ := apply_out h (rule := 0) (.inl (by decide))
  obtain ⟨⟨y17,b17⟩,h17,e17⟩ := apply_out h (rule := 17) (.inr (by decide))
  have go : ∃ r,(ag (iF (σ := List LQuery × Int) (ρ := Empty) (fun (s1 : List LQuery × Int) =>
    cond (decide (s1.2 < (17 : Int)))
     (ag (bV s q s1.2) fun x35 =>
     cond x35.2
      (ag (bS 160 s1.1 ([x35.1] : List LQuery)) fun (x42 : List LQuery) =>
      some (.next (x42,(IntKind.i64.wrap (s1.2 + (1 : Int))))))
      (some (.next (s1.1,(IntKind.i64.wrap (s1.2 + (1 : Int)))))))
     (some (.brk (s1.1,s1.2)))) ([],1)) fun fl1=>fl1.thenP fun (s1 : List LQuery × Int) =>
   ag (cA s q) fun x45 =>
   ag (aI (σ := List LQuery) (ρ := Empty) (fun (_ : Nat) (x2 : LRewriteAlternative) (s2 : List LQuery) =>
    cond (x2.node == (0 : Int))
     (ag (bS 160 s2 ([x2.query] : List LQuery)) fun (x58 : List LQuery) =>
     some (.next x58))
     (some (.next s2))) 0 x45 []) fun fl2=>fl2.thenP fun (s2 : List LQuery) =>
   ag (bV s q 0) fun x63 =>
   ag (bV s q 17) fun x69 =>
   ag (aT s2 s1.1 (fun a0 a1=>jk a0 a1)) fun x74 =>
   cond x74
    (cond (!x63.2)
     (some (!x69.2))
     (some false))
    (some false)) = some r ∧ r = true := by
   refine rwhile_run (R := fun r=>r = true)
    (fun t=>(1 ≤ t.2 ∧ t.2 ≤ 17) ∧ t.1.length ≤ t.2.toNat - 1 ∧ t.1 = gJ s q (t.2.toNat - 1)) (fun t=>17 - t.2.toNat) (fun t=>t.1 = gJ s q 16)
    ⟨⟨by decide,by decide⟩,by simp,rfl⟩ (fun t hI=>?_) (fun t ht=>?_)
   ·obtain ⟨B,r⟩ := t
    obtain ⟨⟨hr1,hr2⟩,hlB,hB⟩ := hI
    dsimp only at hr1 hr2 hlB hB ⊢
    by_cases hr : r < 17
    ·rw [zt hr,zc,fR (n := r + 1) (by omega) (by omega)]
     obtain ⟨⟨y,ok⟩,hy,_⟩ := apply_tot h r
     rw [hy,bPs]
     cases ok with
     | false =>
      rw [zd]
      exact ⟨_,rfl,⟨⟨by omega,by omega⟩,by show B.length ≤ (r + 1).toNat - 1; omega,by rw [wantL_no hr1 hy]; exact hB⟩,by omega⟩
     | true =>
      rw [zc,bL (by decide) (by simp only [List.length_cons,List.length_nil]; omega),bPs]
      exact ⟨_,rfl,⟨⟨by omega,by omega⟩,by simp only [List.length_append,List.length_cons,List.length_nil]; omega,by rw [wantL_yes hr1 hy,hB]⟩,by omega⟩
    ·rw [zf hr,zd]
     have hr17 : r = 17 := by omega
     subst hr17
     exact ⟨_,rfl,hB⟩
   ·rw [hA,bPs]
    refine iz (R := fun r=>r = true) (fun j B=>B = gZ (A.take j)) rfl (fun j x B hj hI=>?_) (fun B hI=>?_)
    ·have hlt := (zg.1 hj).1
     have hs1 : gZ (A.take (j + 1)) = gZ (A.take j) ++ gZ [x] := by
      rw [List.take_add_one,hj,selA_app]
      rfl
     by_cases k : x.node = 0
     ·have : B.length ≤ 400 := by
       rw [hI]
       unfold gZ
       rw [zl]
       refine Nat.le_trans (List.length_filter_le _ _) ?_
       rw [List.length_take]
       omega
      rw [ek k,zc,bL (by decide) (by simp only [List.length_cons,List.length_nil]; omega),bPs]
      refine ⟨_,rfl,?_⟩
      rw [hs1,hI]
      simp [gZ,k]
     ·rw [bG k,zd]
      refine ⟨_,rfl,?_⟩
      rw [hs1,hI]
      simp [gZ,k]
    ·rw [List.take_length,hsel] at hI
     dsimp only at e0 e17
     rw [h0,bPs,h17,bPs,hI,ht,queriesEq,bPs]
     subst e0 e17
     exact ⟨true,rfl,rfl⟩
  obtain ⟨r,h1,rfl⟩ := go
  exact h1
theorem own_knob : ownKnob Tryz.prog.godebug = none := by kernel_rfl
theorem laid_out : laidOutB Tryz.prog = true := by kernel_rfl
def lawTypes : List TypeId := [26,22,56,9,53,52,3,4,54,23,112,24,118,58,33,27,28,94,29,91,30,31]
theorem lawTypes_ok : lawTypes.all (okT Tryz.prog lawTypes) = true := by kernel_rfl
theorem lawTypes_info : ∀ t ∈ lawTypes,∃ i,Tryz.prog.info? t = some i ∧ i.bytes = Tryz.prog.bytesOf t ∧ i.size = Tryz.prog.cellsOf t := infos_of (by kernel_rfl)
theorem sh9 {n : Nat} {pvs : List PV} (h : Sh Tryz.prog n 9 pvs) : ∃ v : List UInt8,pvs = [.str v] := by
 cases n with
 | zero=>simp [Sh] at h
 | succ n=>simp only [Sh,Tryz.underlying9] at h; obtain ⟨m,rfl,_⟩ := h; exact ⟨m,rfl⟩
theorem sh3 {n : Nat} {pvs : List PV} (h : Sh Tryz.prog n 3 pvs) : ∃ v : Int,pvs = [ae v] := by
 cases n with
 | zero=>simp [Sh] at h
 | succ n=>simp only [Sh,Tryz.underlying3] at h; obtain ⟨m,rfl,_⟩ := h; exact ⟨m,rfl⟩
theorem sh4 {n : Nat} {pvs : List PV} (h : Sh Tryz.prog n 4 pvs) : ∃ v : Bool,pvs = [au v] := by
 cases n with
 | zero=>simp [Sh] at h
 | succ n=>simp only [Sh,Tryz.underlying4] at h; obtain ⟨m,rfl⟩ := h; exact ⟨m,rfl⟩
theorem sh52 {n : Nat} {pvs : List PV} (h : Sh Tryz.prog n 52 pvs) : ∃ v : LCol,pvs = bh v := by
 cases n with
 | zero=>simp [Sh] at h
 | succ n =>
  simp only [Sh,Tryz.underlying52,List.map_cons,List.map_nil,fP] at h
  obtain ⟨p0,r0,rfl,h0,p1,r1,rfl,h1,p2,r2,rfl,h2,rfl⟩ := h
  obtain ⟨v0,rfl⟩ := sh9 h0
  obtain ⟨v1,rfl⟩ := sh3 h1
  obtain ⟨v2,rfl⟩ := sh4 h2
  exact ⟨LCol.mk v0 v1 v2,rfl⟩
theorem sh53 {n : Nat} {pvs : List PV} (h : Sh Tryz.prog n 53 pvs) : ∃ v : List LCol,pvs = [.list 52 (v.map bh)] := by
 cases n with
 | zero=>simp [Sh] at h
 | succ n =>
  simp only [Sh,Tryz.underlying53] at h
  obtain ⟨rows,rfl,hr⟩ := h
  obtain ⟨xs,rfl⟩ := jB (f := bh) (fun r hq=>sh52 (hr r hq))
  exact ⟨xs,rfl⟩
theorem sh54 {n : Nat} {pvs : List PV} (h : Sh Tryz.prog n 54 pvs) : ∃ v : List Int,pvs = [.list 3 (v.map bH)] := by
 cases n with
 | zero=>simp [Sh] at h
 | succ n =>
  simp only [Sh,Tryz.underlying54] at h
  obtain ⟨rows,rfl,hr⟩ := h
  obtain ⟨xs,rfl⟩ := jB (f := bH) (fun r hq=>let ⟨v,e⟩ := sh3 (hr r hq); ⟨v,e⟩)
  exact ⟨xs,rfl⟩
theorem sh56 {n : Nat} {pvs : List PV} (h : Sh Tryz.prog n 56 pvs) : ∃ v : LTable,pvs = cU v := by
 cases n with
 | zero=>simp [Sh] at h
 | succ n =>
  simp only [Sh,Tryz.underlying56,List.map_cons,List.map_nil,fP] at h
  obtain ⟨p0,r0,rfl,h0,p1,r1,rfl,h1,p2,r2,rfl,h2,rfl⟩ := h
  obtain ⟨v0,rfl⟩ := sh9 h0
  obtain ⟨v1,rfl⟩ := sh53 h1
  obtain ⟨v2,rfl⟩ := sh54 h2
  exact ⟨LTable.mk v0 v1 v2,rfl⟩
theorem sh22 {n : Nat} {pvs : List PV} (h : Sh Tryz.prog n 22 pvs) : ∃ v : List LTable,pvs = [.list 56 (v.map cU)] := by
 cases n with
 | zero=>simp [Sh] at h
 | succ n =>
  simp only [Sh,Tryz.underlying22] at h
  obtain ⟨rows,rfl,hr⟩ := h
  obtain ⟨xs,rfl⟩ := jB (f := cU) (fun r hq=>sh56 (hr r hq))
  exact ⟨xs,rfl⟩
theorem sh112 {n : Nat} {pvs : List PV} (h : Sh Tryz.prog n 112 pvs) : ∃ v : LForeignKey,pvs = iC v := by
 cases n with
 | zero=>simp [Sh] at h
 | succ n =>
  simp only [Sh,Tryz.underlying112,List.map_cons,List.map_nil,fP] at h
  obtain ⟨p0,r0,rfl,h0,p1,r1,rfl,h1,p2,r2,rfl,h2,rfl⟩ := h
  obtain ⟨v0,rfl⟩ := sh9 h0
  obtain ⟨v1,rfl⟩ := sh54 h1
  obtain ⟨v2,rfl⟩ := sh9 h2
  exact ⟨LForeignKey.mk v0 v1 v2,rfl⟩
theorem sh23 {n : Nat} {pvs : List PV} (h : Sh Tryz.prog n 23 pvs) : ∃ v : List LForeignKey,pvs = [.list 112 (v.map iC)] := by
 cases n with
 | zero=>simp [Sh] at h
 | succ n =>
  simp only [Sh,Tryz.underlying23] at h
  obtain ⟨rows,rfl,hr⟩ := h
  obtain ⟨xs,rfl⟩ := jB (f := iC) (fun r hq=>sh112 (hr r hq))
  exact ⟨xs,rfl⟩
theorem sh58 {n : Nat} {pvs : List PV} (h : Sh Tryz.prog n 58 pvs) : ∃ v : LVal,pvs = gv v := by
 cases n with
 | zero=>simp [Sh] at h
 | succ n =>
  simp only [Sh,Tryz.underlying58,List.map_cons,List.map_nil,fP] at h
  obtain ⟨p0,r0,rfl,h0,p1,r1,rfl,h1,p2,r2,rfl,h2,rfl⟩ := h
  obtain ⟨v0,rfl⟩ := sh3 h0
  obtain ⟨v1,rfl⟩ := sh3 h1
  obtain ⟨v2,rfl⟩ := sh9 h2
  exact ⟨LVal.mk v0 v1 v2,rfl⟩
theorem sh118 {n : Nat} {pvs : List PV} (h : Sh Tryz.prog n 118 pvs) : ∃ v : LConstraint,pvs = js v := by
 cases n with
 | zero=>simp [Sh] at h
 | succ n =>
  simp only [Sh,Tryz.underlying118,List.map_cons,List.map_nil,fP] at h
  obtain ⟨p0,r0,rfl,h0,p1,r1,rfl,h1,p2,r2,rfl,h2,p3,r3,rfl,h3,p4,r4,rfl,h4,rfl⟩ := h
  obtain ⟨v0,rfl⟩ := sh9 h0
  obtain ⟨v1,rfl⟩ := sh3 h1
  obtain ⟨v2,rfl⟩ := sh9 h2
  obtain ⟨v3,rfl⟩ := sh3 h3
  obtain ⟨v4,rfl⟩ := sh58 h4
  exact ⟨LConstraint.mk v0 v1 v2 v3 v4,rfl⟩
theorem sh24 {n : Nat} {pvs : List PV} (h : Sh Tryz.prog n 24 pvs) : ∃ v : List LConstraint,pvs = [.list 118 (v.map js)] := by
 cases n with
 | zero=>simp [Sh] at h
 | succ n =>
  simp only [Sh,Tryz.underlying24] at h
  obtain ⟨rows,rfl,hr⟩ := h
  obtain ⟨xs,rfl⟩ := jB (f := js) (fun r hq=>sh118 (hr r hq))
  exact ⟨xs,rfl⟩
theorem sh26 {n : Nat} {pvs : List PV} (h : Sh Tryz.prog n 26 pvs) : ∃ v : LSchema,pvs = aD v := by
 cases n with
 | zero=>simp [Sh] at h
 | succ n =>
  simp only [Sh,Tryz.underlying26,List.map_cons,List.map_nil,fP] at h
  obtain ⟨p0,r0,rfl,h0,p1,r1,rfl,h1,p2,r2,rfl,h2,rfl⟩ := h
  obtain ⟨v0,rfl⟩ := sh22 h0
  obtain ⟨v1,rfl⟩ := sh23 h1
  obtain ⟨v2,rfl⟩ := sh24 h2
  exact ⟨LSchema.mk v0 v1 v2,rfl⟩
theorem sh27 {n : Nat} {pvs : List PV} (h : Sh Tryz.prog n 27 pvs) : ∃ v : List (List UInt8),pvs = [.list 9 (v.map aF)] := by
 cases n with
 | zero=>simp [Sh] at h
 | succ n =>
  simp only [Sh,Tryz.underlying27] at h
  obtain ⟨rows,rfl,hr⟩ := h
  obtain ⟨xs,rfl⟩ := jB (f := aF) (fun r hq=>let ⟨v,e⟩ := sh9 (hr r hq); ⟨v,e⟩)
  exact ⟨xs,rfl⟩
theorem sh94 {n : Nat} {pvs : List PV} (h : Sh Tryz.prog n 94 pvs) : ∃ v : LExpr,pvs = ak v := by
 induction n generalizing pvs with
 | zero=>simp [Sh] at h
 | succ n ih =>
  simp only [Sh,Tryz.underlying94,List.map_cons,List.map_nil,fP] at h
  obtain ⟨p0,r0,rfl,h0,p1,r1,rfl,h1,p2,r2,rfl,h2,p3,r3,rfl,h3,p4,r4,rfl,h4,rfl⟩ := h
  obtain ⟨v0,rfl⟩ := sh3 h0
  obtain ⟨v1,rfl⟩ := sh9 h1
  obtain ⟨v2,rfl⟩ := sh3 h2
  obtain ⟨v3,rfl⟩ := sh58 h3
  cases n with
  | zero=>simp [Sh] at h4
  | succ n =>
  simp only [Sh,Tryz.underlying28] at h4
  obtain ⟨rows,rfl,hr4⟩ := h4
  obtain ⟨v4,rfl⟩ := rowsUp (f := ak) (rfl) ih hr4
  exact ⟨LExpr.mk v0 v1 v2 v3 v4,by rw [aS]; rfl⟩
theorem sh28 {n : Nat} {pvs : List PV} (h : Sh Tryz.prog n 28 pvs) : ∃ v : List LExpr,pvs = [.list 94 (v.map ak)] := by
 cases n with
 | zero=>simp [Sh] at h
 | succ n =>
  simp only [Sh,Tryz.underlying28] at h
  obtain ⟨rows,rfl,hr⟩ := h
  obtain ⟨xs,rfl⟩ := jB (f := ak) (fun r hq=>sh94 (hr r hq))
  exact ⟨xs,rfl⟩
theorem sh91 {n : Nat} {pvs : List PV} (h : Sh Tryz.prog n 91 pvs) : ∃ v : LAggregateCall,pvs = aQ v := by
 cases n with
 | zero=>simp [Sh] at h
 | succ n =>
  simp only [Sh,Tryz.underlying91,List.map_cons,List.map_nil,fP] at h
  obtain ⟨p0,r0,rfl,h0,p1,r1,rfl,h1,p2,r2,rfl,h2,rfl⟩ := h
  obtain ⟨v0,rfl⟩ := sh9 h0
  obtain ⟨v1,rfl⟩ := sh9 h1
  obtain ⟨v2,rfl⟩ := sh28 h2
  exact ⟨LAggregateCall.mk v0 v1 v2,rfl⟩
theorem sh29 {n : Nat} {pvs : List PV} (h : Sh Tryz.prog n 29 pvs) : ∃ v : List LAggregateCall,pvs = [.list 91 (v.map aQ)] := by
 cases n with
 | zero=>simp [Sh] at h
 | succ n =>
  simp only [Sh,Tryz.underlying29] at h
  obtain ⟨rows,rfl,hr⟩ := h
  obtain ⟨xs,rfl⟩ := jB (f := aQ) (fun r hq=>sh91 (hr r hq))
  exact ⟨xs,rfl⟩
theorem sh30 {n : Nat} {pvs : List PV} (h : Sh Tryz.prog n 30 pvs) : ∃ v : List Bool,pvs = [.list 4 (v.map aP)] := by
 cases n with
 | zero=>simp [Sh] at h
 | succ n =>
  simp only [Sh,Tryz.underlying30] at h
  obtain ⟨rows,rfl,hr⟩ := h
  obtain ⟨xs,rfl⟩ := jB (f := aP) (fun r hq=>let ⟨v,e⟩ := sh4 (hr r hq); ⟨v,e⟩)
  exact ⟨xs,rfl⟩
theorem sh33 {n : Nat} {pvs : List PV} (h : Sh Tryz.prog n 33 pvs) : ∃ v : LQuery,pvs = ap v := by
 induction n generalizing pvs with
 | zero=>simp [Sh] at h
 | succ n ih =>
  simp only [Sh,Tryz.underlying33,List.map_cons,List.map_nil,fP] at h
  obtain ⟨p0,r0,rfl,h0,p1,r1,rfl,h1,p2,r2,rfl,h2,p3,r3,rfl,h3,p4,r4,rfl,h4,p5,r5,rfl,h5,p6,r6,rfl,h6,p7,r7,rfl,h7,p8,r8,rfl,h8,rfl⟩ := h
  obtain ⟨v0,rfl⟩ := sh3 h0
  obtain ⟨v1,rfl⟩ := sh9 h1
  obtain ⟨v2,rfl⟩ := sh27 h2
  obtain ⟨v3,rfl⟩ := sh28 h3
  obtain ⟨v4,rfl⟩ := sh29 h4
  obtain ⟨v5,rfl⟩ := sh30 h5
  obtain ⟨v6,rfl⟩ := sh3 h6
  obtain ⟨v7,rfl⟩ := sh3 h7
  cases n with
  | zero=>simp [Sh] at h8
  | succ n =>
  simp only [Sh,Tryz.underlying31] at h8
  obtain ⟨rows,rfl,hr8⟩ := h8
  obtain ⟨v8,rfl⟩ := rowsUp (f := ap) (rfl) ih hr8
  exact ⟨LQuery.mk v0 v1 v2 v3 v4 v5 v6 v7 v8,by rw [aH]; rfl⟩
theorem law_args : ∀ args,ArgsSh Tryz.prog Tryz.f4.params.toList args → aK args ≤ 1048576 → aU Tryz.prog 4 args (.val (.bool true)) := by
 intro args h hN
 rw [Tryz.params4] at h
 simp only [ArgsSh] at h
 obtain ⟨n0,p0,r0,rfl,h0,n1,p1,r1,rfl,h1,rfl⟩ := h
 obtain ⟨v0,rfl⟩ := sh26 h0
 obtain ⟨v1,rfl⟩ := sh33 h1
 have e0 : kI Tryz.prog 26 (aD v0) = .agg (aD v0) := by simp only [kI,Tryz.underlying26]
 rw [e0] at hN ⊢
 have e1 : kI Tryz.prog 33 (ap v1) = .agg (ap v1) := by simp only [kI,Tryz.underlying33]
 rw [aH] at e1
 rw [aH v1,e1] at hN ⊢
 simp only [aK,PV.bulk] at hN
 have hs0 : SmallS v0 := smallS_bulk (n := 1048576) (by omega) (by omega)
 have hq : aK (am v1) ≤ 1048576 := by omega
 exact iK v0 v1 true (qU hs0 hq)
set_option maxRecDepth 100000 in
theorem law_wf : (fun (P : Program) (f : FuncId) (fn : Func) (s : ChangeSpec) (c : OpenClaim)=>(P.funcs.size,f,fn.params.size,s.name,c.func,c.wf (OpenSpec.ofChange s)).2.2.2.2.2) Tryz.prog 4 Tryz.f4 (Rows.OpenSpec.upto Rows.rewriteApplyMatchesAlternativesSpec).bare Rows.rewriteApplyMatchesAlternativesUptoRow = true := by kernel_rfl
set_option maxRecDepth 100000 in
theorem law_laid : (fun (P : Program) (f : FuncId) (fn : Func) (s : ChangeSpec) (c : OpenClaim)=>(P.funcs.size,f,fn.params.size,s.name,c.func,laidOutB P).2.2.2.2.2) Tryz.prog 4 Tryz.f4 (Rows.OpenSpec.upto Rows.rewriteApplyMatchesAlternativesSpec).bare Rows.rewriteApplyMatchesAlternativesUptoRow = true := by kernel_rfl
set_option maxRecDepth 100000 in
theorem law_mapsRowed : (fun (P : Program) (f : FuncId) (fn : Func) (s : ChangeSpec) (c : OpenClaim)=>(P.funcs.size,f,fn.params.size,s.name,c.func,mapsRowed P).2.2.2.2.2) Tryz.prog 4 Tryz.f4 (Rows.OpenSpec.upto Rows.rewriteApplyMatchesAlternativesSpec).bare Rows.rewriteApplyMatchesAlternativesUptoRow = true := by kernel_rfl
set_option maxRecDepth 100000 in
theorem law_rr : (fun (P : Program) (f : FuncId) (fn : Func) (s : ChangeSpec) (c : OpenClaim)=>(P.funcs.size,f,fn.params.size,s.name,c.func,fn.params.all (P.readableRec ·)).2.2.2.2.2) Tryz.prog 4 Tryz.f4 (Rows.OpenSpec.upto Rows.rewriteApplyMatchesAlternativesSpec).bare Rows.rewriteApplyMatchesAlternativesUptoRow = true := by kernel_rfl
set_option maxRecDepth 100000 in
theorem law_nt : (fun (P : Program) (f : FuncId) (fn : Func) (s : ChangeSpec) (c : OpenClaim)=>(P.funcs.size,f,fn.params.size,s.name,c.func,namedTie P c.named s.vars).2.2.2.2.2) Tryz.prog 4 Tryz.f4 (Rows.OpenSpec.upto Rows.rewriteApplyMatchesAlternativesSpec).bare Rows.rewriteApplyMatchesAlternativesUptoRow = true := by kernel_rfl
set_option maxRecDepth 100000 in
theorem law_st : (fun (P : Program) (f : FuncId) (fn : Func) (s : ChangeSpec) (c : OpenClaim)=>(P.funcs.size,f,fn.params.size,s.name,c.func,(c.stops == []) && (P.stops == []) && (c.knobs == []) && (P.stopKnobs == [])).2.2.2.2.2) Tryz.prog 4 Tryz.f4 (Rows.OpenSpec.upto Rows.rewriteApplyMatchesAlternativesSpec).bare Rows.rewriteApplyMatchesAlternativesUptoRow = true := by kernel_rfl
set_option maxRecDepth 100000 in
theorem law_inPlace : (fun (P : Program) (f : FuncId) (fn : Func) (s : ChangeSpec) (c : OpenClaim)=>(P.funcs.size,f,fn.params.size,s.name,c.func,c.inPlace == P.inPlace f).2.2.2.2.2) Tryz.prog 4 Tryz.f4 (Rows.OpenSpec.upto Rows.rewriteApplyMatchesAlternativesSpec).bare Rows.rewriteApplyMatchesAlternativesUptoRow = true := by kernel_rfl
set_option maxRecDepth 100000 in
theorem law_unf : (fun (P : Program) (f : FuncId) (fn : Func) (s : ChangeSpec) (c : OpenClaim)=>(P.funcs.size,f,fn.params.size,s.name,c.func,c.unfollowed == P.unfollowed f).2.2.2.2.2) Tryz.prog 4 Tryz.f4 (Rows.OpenSpec.upto Rows.rewriteApplyMatchesAlternativesSpec).bare Rows.rewriteApplyMatchesAlternativesUptoRow = true := by kernel_rfl
set_option maxRecDepth 100000 in
theorem law_rec : (fun (P : Program) (f : FuncId) (fn : Func) (s : ChangeSpec) (c : OpenClaim)=>(P.funcs.size,f,fn.params.size,s.name,c.func,c.recurses == P.recurses f).2.2.2.2.2) Tryz.prog 4 Tryz.f4 (Rows.OpenSpec.upto Rows.rewriteApplyMatchesAlternativesSpec).bare Rows.rewriteApplyMatchesAlternativesUptoRow = true := by kernel_rfl
set_option maxRecDepth 100000 in
theorem law_named : (fun (P : Program) (f : FuncId) (fn : Func) (s : ChangeSpec) (c : OpenClaim)=>(P.funcs.size,f,fn.params.size,s.name,c.func,c.named == P.varsNamed f).2.2.2.2.2) Tryz.prog 4 Tryz.f4 (Rows.OpenSpec.upto Rows.rewriteApplyMatchesAlternativesSpec).bare Rows.rewriteApplyMatchesAlternativesUptoRow = true := by kernel_rfl
set_option maxRecDepth 100000 in
theorem law_maps : (fun (P : Program) (f : FuncId) (fn : Func) (s : ChangeSpec) (c : OpenClaim)=>(P.funcs.size,f,fn.params.size,s.name,c.func,(c.maps == (fn.params.toList ++ s.plain.varTypes P).any (P.mapsRec ·)) && (c.ifaces == (fn.params.toList ++ s.plain.varTypes P).any (P.ifacesRec ·)) && (c.mapsOut == P.mapsAmong fn.resultTypes.toList)).2.2.2.2.2) Tryz.prog 4 Tryz.f4 (Rows.OpenSpec.upto Rows.rewriteApplyMatchesAlternativesSpec).bare Rows.rewriteApplyMatchesAlternativesUptoRow = true := by kernel_rfl
set_option maxRecDepth 100000 in
theorem law_loops : (fun (P : Program) (f : FuncId) (fn : Func) (s : ChangeSpec) (c : OpenClaim)=>(P.funcs.size,f,fn.params.size,s.name,c.func,(c.loops == (fn.params.toList ++ s.plain.varTypes P).any (P.loopsFrom ·))).2.2.2.2.2) Tryz.prog 4 Tryz.f4 (Rows.OpenSpec.upto Rows.rewriteApplyMatchesAlternativesSpec).bare Rows.rewriteApplyMatchesAlternativesUptoRow = true := by kernel_rfl
set_option maxRecDepth 100000 in
theorem law_wide : (fun (P : Program) (f : FuncId) (fn : Func) (s : ChangeSpec) (c : OpenClaim)=>(P.funcs.size,f,fn.params.size,s.name,c.func,(c.wideKeys == (fn.params.toList ++ s.plain.varTypes P ++ fn.resultTypes.toList).any (P.wideKeysFrom ·))).2.2.2.2.2) Tryz.prog 4 Tryz.f4 (Rows.OpenSpec.upto Rows.rewriteApplyMatchesAlternativesSpec).bare Rows.rewriteApplyMatchesAlternativesUptoRow = true := by kernel_rfl
set_option maxRecDepth 100000 in
theorem law_rest1 : (fun (P : Program) (f : FuncId) (fn : Func) (s : ChangeSpec) (c : OpenClaim)=>(P.funcs.size,f,fn.params.size,s.name,c.func,s.vars.all (P.varReadable ·) && fn.resultTypes.all (fun t=>P.readableRec t && decide (t < P.types.size)) && (c.ifacesOut == fn.resultTypes.toList.any (P.ifacesRec ·)) && (c.loopsOut == fn.resultTypes.toList.any (P.loopsFrom ·))).2.2.2.2.2) Tryz.prog 4 Tryz.f4 (Rows.OpenSpec.upto Rows.rewriteApplyMatchesAlternativesSpec).bare Rows.rewriteApplyMatchesAlternativesUptoRow = true := by kernel_rfl
set_option maxRecDepth 100000 in
theorem law_plainKeys : (fun (P : Program) (f : FuncId) (fn : Func) (s : ChangeSpec) (c : OpenClaim)=>(P.funcs.size,f,fn.params.size,s.name,c.func,c.plainKeys == P.plainKeys).2.2.2.2.2) Tryz.prog 4 Tryz.f4 (Rows.OpenSpec.upto Rows.rewriteApplyMatchesAlternativesSpec).bare Rows.rewriteApplyMatchesAlternativesUptoRow = true := by kernel_rfl
set_option maxRecDepth 100000 in
theorem law_rest2 : (fun (P : Program) (f : FuncId) (fn : Func) (s : ChangeSpec) (c : OpenClaim)=>(P.funcs.size,f,fn.params.size,s.name,c.func,c.shortTexts.isNone && P.stopsHeard && P.mayEnter && (c.lifted == P.liftsFinal) && (P.make == some c.make)).2.2.2.2.2) Tryz.prog 4 Tryz.f4 (Rows.OpenSpec.upto Rows.rewriteApplyMatchesAlternativesSpec).bare Rows.rewriteApplyMatchesAlternativesUptoRow = true := by kernel_rfl
set_option maxRecDepth 100000 in
theorem law_kinds : (fun (P : Program) (f : FuncId) (fn : Func) (s : ChangeSpec) (c : OpenClaim)=>(P.funcs.size,f,fn.params.size,s.name,c.func,(c.kinds == (if c.domain.isEmpty then [] else fn.params.toList.map fun t=>match P.underlying t with | some (.int k)=>some k | _=>none)) && (c.pinned == c.pinnedBy)).2.2.2.2.2) Tryz.prog 4 Tryz.f4 (Rows.OpenSpec.upto Rows.rewriteApplyMatchesAlternativesSpec).bare Rows.rewriteApplyMatchesAlternativesUptoRow = true := by kernel_rfl
set_option maxRecDepth 100000 in
theorem law_veil : (fun (P : Program) (f : FuncId) (fn : Func) (s : ChangeSpec) (c : OpenClaim)=>(P.funcs.size,f,fn.params.size,s.name,c.func,(c.veiled == (fn.params.toList ++ s.plain.varTypes P ++ fn.resultTypes.toList).any (P.veiledRec ·)) && c.veiledFits P fn.params.toList (fn.params.toList ++ s.plain.varTypes P ++ fn.resultTypes.toList)).2.2.2.2.2) Tryz.prog 4 Tryz.f4 (Rows.OpenSpec.upto Rows.rewriteApplyMatchesAlternativesSpec).bare Rows.rewriteApplyMatchesAlternativesUptoRow = true := by kernel_rfl
set_option maxRecDepth 100000 in
theorem law_facts : joinedFacts Tryz.prog 4 Tryz.f4 (Rows.OpenSpec.upto Rows.rewriteApplyMatchesAlternativesSpec).bare Rows.rewriteApplyMatchesAlternativesUptoRow = true := joined_of law_wf law_laid law_mapsRowed law_rr law_nt law_st law_inPlace law_unf law_rec law_named law_maps law_loops law_wide law_rest1 law_plainKeys law_rest2 law_kinds law_veil
theorem gl_all (W : World) : Gl W [] := by
 refine ⟨⟨?_,?_,?_⟩,?_⟩
 ·intro b hb; simp [glI] at hb
 ·intro b hb; simp [glT] at hb
 ·intro b hb; simp [glN] at hb
 ·intro b hb; simp [glB,glI,glT,glN] at hb
def putVar (h : Array Go.Obj) (g : Nat) (cs : Array Value) : Array Go.Obj := h.modify g fun
 | .cells _ t fz=>.cells cs t fz
 | o=>o
def lowBlk : Nat := (World.holding Tryz.prog default ⟨#[],#[],[]⟩).heap.size
def qb (os : Os) : World :=
 let w0 := World.holding Tryz.prog os ⟨#[.cells #[.string ⟨#[118,97,108,117,101,32,111,117,116,32,111,102,32,114,97,110,103,101]⟩] 295,.cells #[.string ⟨#[105,110,118,97,108,105,100,32,115,121,110,116,97,120]⟩] 295],#[],[]⟩
 { w0 with heap := (putVar (putVar (putVar (putVar (putVar w0.heap 4 #[.int .u8 0,.int .u8 1,.int .u8 28,.int .u8 2,.int .u8 29,.int .u8 14,.int .u8 24,.int .u8 3,.int .u8 30,.int .u8 22,.int .u8 20,.int .u8 15,.int .u8 25,.int .u8 17,.int .u8 4,.int .u8 8,.int .u8 31,.int .u8 27,.int .u8 13,.int .u8 23,.int .u8 21,.int .u8 19,.int .u8 16,.int .u8 7,.int .u8 26,.int .u8 12,.int .u8 18,.int .u8 6,.int .u8 11,.int .u8 5,.int .u8 10,.int .u8 9]) 5 #[.int .u8 0,.int .u8 1,.int .u8 56,.int .u8 2,.int .u8 57,.int .u8 49,.int .u8 28,.int .u8 3,.int .u8 61,.int .u8 58,.int .u8 42,.int .u8 50,.int .u8 38,.int .u8 29,.int .u8 17,.int .u8 4,.int .u8 62,.int .u8 47,.int .u8 59,.int .u8 36,.int .u8 45,.int .u8 43,.int .u8 51,.int .u8 22,.int .u8 53,.int .u8 39,.int .u8 33,.int .u8 30,.int .u8 24,.int .u8 18,.int .u8 12,.int .u8 5,.int .u8 63,.int .u8 55,.int .u8 48,.int .u8 27,.int .u8 60,.int .u8 41,.int .u8 37,.int .u8 16,.int .u8 46,.int .u8 35,.int .u8 44,.int .u8 21,.int .u8 52,.int .u8 32,.int .u8 23,.int .u8 11,.int .u8 54,.int .u8 26,.int .u8 40,.int .u8 15,.int .u8 34,.int .u8 20,.int .u8 31,.int .u8 10,.int .u8 25,.int .u8 14,.int .u8 19,.int .u8 9,.int .u8 13,.int .u8 8,.int .u8 7,.int .u8 6]) 3 #[.int .u64 1,.int .u64 10,.int .u64 100,.int .u64 1000,.int .u64 10000,.int .u64 100000,.int .u64 1000000,.int .u64 10000000,.int .u64 100000000,.int .u64 1000000000,.int .u64 10000000000,.int .u64 100000000000,.int .u64 1000000000000,.int .u64 10000000000000,.int .u64 100000000000000,.int .u64 1000000000000000,.int .u64 10000000000000000,.int .u64 100000000000000000,.int .u64 1000000000000000000,.int .u64 10000000000000000000]) 2 #[.iface 293 (.pointer (some ⟨lowBlk,0,none⟩))]) 1 #[.iface 293 (.pointer (some ⟨lowBlk + 1,0,none⟩))]) }
set_option maxRecDepth 100000 in
theorem laid_met (os : Os) : laidMet Tryz.prog Rows.rewriteApplyMatchesAlternativesUptoRow.laid ((qb os).forCall (fun _ _=>0) ⟨#[],#[.agg #[.slice none 0 0,.slice none 0 0,.slice none 0 0],.agg #[.int .i64 0,.string ⟨#[]⟩,.slice none 0 0,.slice none 0 0,.slice none 0 0,.slice none 0 0,.int .i64 0,.int .i64 0,.slice none 0 0]],[]⟩).memory :=
 laidMet_of_run' 8 (by kernel_rfl) (by kernel_rfl)
theorem law_reads (os : Os) {H : Type} (enc : TypeId × Value → H) : ∃ kN,DataW.whole enc Tryz.prog ((qb os).forCall (fun _ _=>0) ⟨#[],#[.agg #[.slice none 0 0,.slice none 0 0,.slice none 0 0],.agg #[.int .i64 0,.string ⟨#[]⟩,.slice none 0 0,.slice none 0 0,.slice none 0 0,.slice none 0 0,.int .i64 0,.int .i64 0,.slice none 0 0]],[]⟩).memory Tryz.f4.params.toList (Rows.OpenSpec.upto Rows.rewriteApplyMatchesAlternativesSpec).vars false (#[.agg #[.slice none 0 0,.slice none 0 0,.slice none 0 0],.agg #[.int .i64 0,.string ⟨#[]⟩,.slice none 0 0,.slice none 0 0,.slice none 0 0,.slice none 0 0,.int .i64 0,.int .i64 0,.slice none 0 0]] : Array Value).toList 8 = some ([.agg [.nil,.nil,.nil],.agg [.lit (.int .i64 0),.lit (.string []),.nil,.nil,.nil,.nil,.lit (.int .i64 0),.lit (.int .i64 0),.nil]],[],kN) :=
 ⟨[],by kernel_rfl⟩
set_option maxRecDepth 100000 in
theorem law_lifted (os : Os) (started : os.Started) (H : Type) (enc : TypeId × Value → H) (F : Stop.Interp) :
  ReturnsInHanded {} Tryz.checked os 4 .any ((Rows.OpenSpec.upto Rows.rewriteApplyMatchesAlternativesSpec).preRow enc Tryz.prog Tryz.f4 Rows.rewriteApplyMatchesAlternativesUptoRow.domain false Rows.rewriteApplyMatchesAlternativesUptoRow.laid) (((Rows.OpenSpec.upto Rows.rewriteApplyMatchesAlternativesSpec).at F).post enc Tryz.prog Tryz.f4 false true false false) := by
 obtain ⟨kN,hx⟩ := law_reads os enc
 refine returnsInHanded_of_row (C := Tryz.checked) (s := Rows.OpenSpec.upto Rows.rewriteApplyMatchesAlternativesSpec) own_knob started (by kernel_rfl) Tryz.func4
  (witness_row_at (enc := enc) (C := Tryz.checked) false (qb os) #[.agg #[.slice none 0 0,.slice none 0 0,.slice none 0 0],.agg #[.int .i64 0,.string ⟨#[]⟩,.slice none 0 0,.slice none 0 0,.slice none 0 0,.slice none 0 0,.int .i64 0,.int .i64 0,.slice none 0 0]] rfl (by kernel_rfl) (by kernel_rfl) (by kernel_rfl)
   (OpenSpec.preRow_of_cond 8 hx (by kernel_rfl) (fun k hk=>by obtain rfl := Option.some.inj hk; kernel_rfl) (by kernel_rfl) (laid_met os))) ?_
 intro W base args ds gs before hval hW _ hk hsz _ _ _
 have hN : ((ds ++ gs).map (fun d=>Rows.uptoBulk d)).sum ≤ 1048576 := by
  rw [nE]; exact of_decide_eq_true (hk Rows.uptoSmall rfl)
 refine law_callsB (s := Rows.rewriteApplyMatchesAlternativesSpec) (tb := 4) bulk_is laid_out rfl ?_ rfl Tryz.underlying4 ?_ lawTypes_ok lawTypes_info ?_ law_args hval hW (gl_all W) hsz hN
 ·rw [Tryz.params4]
  intro t ht
  simp only [List.mem_cons,List.mem_nil_iff,or_false] at ht
  rcases ht with rfl | rfl <;> exact ⟨by kernel_rfl,of_decide_eq_true (by kernel_rfl)⟩
 ·intro ds hlen
  rw [Tryz.params4] at hlen
  match ds,hlen with
  | [d0,d1],_=>rfl
 ·rw [Tryz.params4]
  intro t ht
  simp only [List.mem_cons,List.mem_nil_iff,or_false] at ht
  rcases ht with rfl | rfl <;> simp [lawTypes]
theorem law_said : Rows.RewriteApplyMatchesAlternativesUptoSaid :=
 OpenClaim.holds_of_cond 4 Tryz.f4 rfl rfl rfl rfl rfl rfl rfl ⟨rfl,rfl,rfl,rfl,rfl⟩ rfl rfl rfl rfl rfl (by kernel_rfl) Tryz.func4 law_facts
  (of_decide_eq_true (by kernel_rfl)) (by unfold Func.isWrapper; first | (rw [zp (by decide +kernel)]; kernel_rfl) | (rw [zy (by decide +kernel)]; exact ⟨rfl,rfl⟩))
  (fun os started H enc _ F=>by rw [OpenClaim.pre_eq_preRow]; exact law_lifted os started H enc F)
theorem law_plain (f : FuncId) (fn : Func) (hf : Tryz.pinned.checked.prog.funcNamed "stemma/stemkeep3.RewriteApplyMatchesAlternatives" = some f) (hfn : Tryz.pinned.checked.prog.funcs[f]? = some fn) :
  true = Tryz.pinned.checked.prog.looks [] ∧ ∀ (j : Nat) t,fn.params[j]? = some t → Tryz.pinned.checked.prog.wantsStandIn t = false := by
 obtain rfl : f = 4 := Option.some.inj ((show Tryz.prog.funcNamed "stemma/stemkeep3.RewriteApplyMatchesAlternatives" = some 4 by kernel_rfl).symm.trans hf) |>.symm
 obtain rfl : fn = Tryz.f4 := (Option.some.inj (Tryz.func4.symm.trans hfn)).symm
 refine ⟨by kernel_rfl,fun j t ht=>?_⟩
 have hall : (Tryz.f4.params.toList.all fun u=>!Tryz.prog.wantsStandIn u) = true := by kernel_rfl
 have hm : t ∈ Tryz.f4.params.toList := by simpa using Array.mem_of_getElem? ht
 exact (show Tryz.prog.wantsStandIn t = false by simpa using List.all_eq_true.1 hall t hm)
theorem rewriteApplyMatchesAlternativesUpto_holds : Rows.RewriteApplyMatchesAlternativesUptoCardSaid :=
 Claim7.holds_tied_plain_at .later [] _ _ _ _ law_said (fun _ h=>by cases h) (by kernel_rfl) (fun _ h=>by cases h) rewriteApplyMatchesAlternativesUpto_row_tie rfl ⟨rfl,rfl⟩ (by kernel_rfl) rfl law_plain (by kernel_rfl)
end
end Go.Proofs.YtlojdffmcdaheaaGreatDoor
