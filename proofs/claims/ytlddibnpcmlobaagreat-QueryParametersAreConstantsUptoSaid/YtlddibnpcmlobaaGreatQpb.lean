/- queryParametersAreConstantsUpto_holds, part 2: the layer, the plain functions and what they compute; conditions as in the statement. -/
import Derived.Test.YtlddibnpcmlobaaGreatQpa
set_option maxHeartbeats 4000000
namespace Go.Ab
noncomputable section
def dstep (T : TT) (rb : RB) (ops : Array Oper) (k n : Nat) (s : Nat → PV) (bx : Nat → Option Box) : Option (Nat → PV) :=
 match ops[k]? with
 | some o=>match aS ops s o with
  | some true=>match dw o.op with
   | .det=>match ii T (if rb.b o then bx else fun _=>none) o.op (evS s) with
    | some r0=>match hJ r0 with
     | some r=>putD n s o.dst r
     | none=>none
    | none=>none
   | _=>none
  | some false=>putD n s o.dst pJ
  | none=>none
 | none=>none
section
variable {P : Program} {T : TT} {rb : RB} {ops : Array Oper} {k : Nat} {L : List Nat} {n : Nat} {s s' : Nat → PV} {bx : Nat → Option Box} {ob : Nat → Option Obj} {K : PState → Prop} {o : Oper}
theorem Ao.quo {rest : List Oper} (hT : T.Ok P) (hg : aS ops s o = some true) {t t' : TypeId} {x y : Operand} (ho : o.op = .binOp .quo t x y t') {kk : IntKind} {a b : Int} (hx : evS s x = .val (.int kk a)) (hy : evS s y = .val (.int kk b)) (hb : b ≠ 0)
  (hp : putD n s o.dst (.val (.int kk (kk.wrap (a.tdiv b)))) = some s') (h : Ao P ops rest ⟨n,s',bx,ob⟩ K) : Ao P ops (o :: rest) ⟨n,s,bx,ob⟩ K := by
 refine mO hT hg (r := .val (.int kk (kk.wrap (a.tdiv b)))) ?_ hp h
 rw [ho]
 simp [iE,qbin,hx,hy,hb]
theorem Do.cat (ho : ops[k]? = some o) (hg : aS ops s o = some true) {t t' : TypeId} {x y : Operand} (hop : o.op = .binOp .add t x y t') {a b : List UInt8} (hx : evS s x = .str a) (hy : evS s y = .str b) (hb : a.length + b.length ≤ iM)
  (hp : putD n s o.dst (.str (a ++ b)) = some s') (h : Do P T rb ops L ⟨n,s',bx,ob⟩ K) : Do P T rb ops (k :: L) ⟨n,s,bx,ob⟩ K := by
 refine ⟨o,ho,true,hg,?_⟩
 have hc : dw o.op = .det := by rw [hop]; rfl
 simp only [if_true,hc]
 exact ⟨.str (a ++ b),s',.inl (by rw [hop]; simp [ii,iE,qbin,hx,hy,hb]),hp,h⟩
theorem aR {rest : List Oper} (_hg : aS ops s o = some true) (h : Ao P ops (o :: rest) ⟨n,s,bx,ob⟩ K) : Ao P ops (o :: rest) ⟨n,s,bx,ob⟩ K := h
theorem be (_ho : ops[k]? = some o) (_hg : aS ops s o = some true) (h : Do P T rb ops (k :: L) ⟨n,s,bx,ob⟩ K) : Do P T rb ops (k :: L) ⟨n,s,bx,ob⟩ K := h
theorem aP {st : PState} (h : K st) : Do P T rb ops [] st K := h
theorem bo (hs : dstep T rb ops k n s bx = some s') (h : Do P T rb ops L ⟨n,s',bx,ob⟩ K) : Do P T rb ops (k :: L) ⟨n,s,bx,ob⟩ K := by
 unfold dstep at hs
 split at hs
 ·rename_i o ho
  split at hs
  ·rename_i hg
   split at hs
   ·rename_i hc
    split at hs
    ·rename_i r0 hd
     rw [iJ] at hs
     refine ⟨o,ho,true,hg,?_⟩
     simp only [if_true,hc]
     exact ⟨r0,s',.inl hd,hs,h⟩
    ·cases hs
   ·cases hs
  ·rename_i hg
   refine ⟨o,ho,false,hg,?_⟩
   simp only [Bool.false_eq_true,if_false]
   exact ⟨s',hs,h⟩
  ·cases hs
 ·cases hs
theorem ss (ho : ops[k]? = some o) (hg : aS ops s o = some true) (hc : dw o.op = .det) {r : PV} (hd : ii T (if rb.b o then bx else fun _=>none) o.op (evS s) = some r) (hp : putD n s o.dst r = some s')
  (h : Do P T rb ops L ⟨n,s',bx,ob⟩ K) : Do P T rb ops (k :: L) ⟨n,s,bx,ob⟩ K := by
 refine ⟨o,ho,true,hg,?_⟩
 simp only [if_true,hc]
 exact ⟨r,s',.inl hd,hp,h⟩
theorem Do.lB (ho : ops[k]? = some o) (hrb : rb.b o = true) (hg : aS ops s o = some true) {t : TypeId} {x : Operand} (hop : o.op = .load t x) {ti : TInfo} (hti : T.get t = some ti) {tag b off : Nat} {cells : List PV}
  (hx : evS s x = .box tag b off) (hb : bx tag = some ⟨b,cells⟩) {r : PV} (hr : (ep ti off cells).bind hJ = some r) (hp : putD n s o.dst r = some s')
  (h : Do P T rb ops L ⟨n,s',bx,ob⟩ K) : Do P T rb ops (k :: L) ⟨n,s,bx,ob⟩ K := by
 have hr' : ep ti off cells = some r := by
  cases hq : ep ti off cells with
  | none=>simp [hq] at hr
  | some q=>rw [hq,Option.bind_some,iJ] at hr; exact hr
 refine ss ho hg (by rw [hop]; rfl) (r := r) ?_ hp h
 rw [hop,hrb]
 simp [ii,iE,hti,hx,nQ,hb,hr']
theorem aH {t : TypeId} {x : Operand} {ti : TInfo} {tag b off : Nat} {cells : List PV} {r : PV} (h : Do P T rb ops L ⟨n,s',bx,ob⟩ K) (ho : ops[k]? = some o := by exact rfl) (hrb : rb.b o = true := by exact rfl) (hg : aS ops s o = some true := by exact rfl) (hop : o.op = .load t x := by exact rfl) (hti : T.get t = some ti := by exact rfl) (hx : evS s x = .box tag b off := by exact rfl) (hb : bx tag = some ⟨b,cells⟩ := by exact rfl) (hr : (ep ti off cells).bind hJ = some r := by exact rfl) (hp : putD n s o.dst r = some s' := by exact rfl) : Do P T rb ops (k :: L) ⟨n,s,bx,ob⟩ K := Do.lB ho hrb hg hop hti hx hb hr hp h
theorem sZ (ho : ops[k]? = some o) (hg : aS ops s o = some true) {t : TypeId} {x i : Operand} (hop : o.op = .indexAddr t x i) {ti : TInfo} (hti : T.get t = some ti) {e : TypeId} (hd : ti.desc = .slice e) {rows : List (List PV)} (hx : evS s x = .list e rows) {kk : IntKind} {j : Int}
  (hi : evS s i = .val (.int kk j)) {r : List PV} (h0 : 0 ≤ j) (hr : rows[j.toNat]? = some r) (hp : putD n s o.dst (.ptr r) = some s') (h : Do P T rb ops L ⟨n,s',bx,ob⟩ K) : Do P T rb ops (k :: L) ⟨n,s,bx,ob⟩ K := by
 refine ss ho hg (by rw [hop]; rfl) (r := .ptr r) ?_ hp h
 rw [hop]
 simp [ii,iE,hti,hx,hi,hd,h0,hr]
theorem bT {t : TypeId} {x i : Operand} {ti : TInfo} {e : TypeId} {rows : List (List PV)} {kk : IntKind} {j : Int} {r : List PV} (h0 : 0 ≤ j) (hr : rows[j.toNat]? = some r) (h : Do P T rb ops L ⟨n,s',bx,ob⟩ K) (ho : ops[k]? = some o := by exact rfl) (hg : aS ops s o = some true := by exact rfl) (hop : o.op = .indexAddr t x i := by exact rfl) (hti : T.get t = some ti := by exact rfl) (hd : ti.desc = .slice e := by exact rfl) (hx : evS s x = .list e rows := by exact rfl) (hi : evS s i = .val (.int kk j) := by exact rfl) (hp : putD n s o.dst (.ptr r) = some s' := by exact rfl) : Do P T rb ops (k :: L) ⟨n,s,bx,ob⟩ K := sZ ho hg hop hti hd hx hi h0 hr hp h
def dsteps (T : TT) (rb : RB) (ops : Array Oper) (n : Nat) (bx : Nat → Option Box) : Nat → List Nat → (Nat → PV) → Option (List Nat × (Nat → PV))
 | 0,l,s=>some (l,s)
 | k + 1,o :: l,s=>match dstep T rb ops o n s bx with
  | some s'=>dsteps T rb ops n bx k l s'
  | none=>none
 | _ + 1,[],_=>none
theorem bc : ∀ (k : Nat) {l rest : List Nat} {s s' : Nat → PV} (_ : dsteps T rb ops n bx k l s = some (rest,s')) (_ : Do P T rb ops rest ⟨n,s',bx,ob⟩ K),Do P T rb ops l ⟨n,s,bx,ob⟩ K
 | 0,l,rest,s,s',h,hk=>by
  simp only [dsteps,zo,Prod.mk.injEq] at h
  rw [h.1,h.2]
  exact hk
 | k + 1,[],rest,s,s',h,hk=>by cases h
 | k + 1,o :: l,rest,s,s',h,hk=>by
  rw [dsteps] at h
  cases hq : dstep T rb ops o n s bx with
  | none=>rw [hq] at h; cases h
  | some s1 =>
   rw [hq] at h
   exact bo hq (bc k h hk)
theorem bA {j : Nat} {want b : Bool} {d : Nat} (_ho : ops[k]? = some o) (_hg : o.guard = some (j,want)) (_hd : (ops[j]?).bind (·.dst) = some d) (hs : s d = .val (.bool b))
  (ht : b = true → Do P T rb ops (k :: L) ⟨n,upd s d (.val (.bool true)),bx,ob⟩ K) (hf : b = false → Do P T rb ops (k :: L) ⟨n,upd s d (.val (.bool false)),bx,ob⟩ K) : Do P T rb ops (k :: L) ⟨n,s,bx,ob⟩ K := by
 cases b
 ·have := hf rfl; rwa [pX _ _ _ hs] at this
 ·have := ht rfl; rwa [pX _ _ _ hs] at this
theorem sh (ho : ops[k]? = some o) (hg : aS ops s o = some true) {fx : Operand} {av0 : Array Operand} {ts : Array TypeId} (hop : o.op = .call { callee := .value fx,args := av0,argTypes := ts }) {g : FuncId} {caps : List PV}
  (hf : evS s fx = .fn g caps) (hcall : ∀ vs w,(callFunc g vs).run P w = .ok (.enter g vs) w) {args : List PV} (hle : fu P (av0.toList.map (evS s) ++ caps) args) {r : PV} (hc : aT P g args r)
  (hp : putD n s o.dst r = some s') (h : Do P T rb ops L ⟨n,s',bx,ob⟩ K) : Do P T rb ops (k :: L) ⟨n,s,bx,ob⟩ K := by
 refine ⟨o,ho,true,hg,?_⟩
 simp only [if_true,hop,dw]
 exact .inr fun bx'=>eff_callP hop hf hcall hle hc ⟨rfl,fun _=>rfl,s',hp,h⟩
theorem am {fx : Operand} {av0 : Array Operand} {ts : Array TypeId} {g : FuncId} {caps : List PV} {args : List PV} {r : PV} (hcall : ∀ vs w,(callFunc g vs).run P w = .ok (.enter g vs) w) (hle : fu P (av0.toList.map (evS s) ++ caps) args) (hc : aT P g args r) (h : Do P T rb ops L ⟨n,s',bx,ob⟩ K) (ho : ops[k]? = some o := by exact rfl) (hg : aS ops s o = some true := by exact rfl) (hop : o.op = .call { callee := .value fx,args := av0,argTypes := ts } := by exact rfl) (hf : evS s fx = .fn g caps := by exact rfl) (hp : putD n s o.dst r = some s' := by exact rfl) : Do P T rb ops (k :: L) ⟨n,s,bx,ob⟩ K := sh ho hg hop hf hcall hle hc hp h
theorem qc (ho : ops[k]? = some o) (hg : aS ops s o = some true) {fx : Operand} {av0 : Array Operand} {ts : Array TypeId} (hop : o.op = .call { callee := .value fx,args := av0,argTypes := ts }) {g : FuncId} {caps : List PV}
  (hf : evS s fx = .fn g caps) (hcall : ∀ vs w,(callFunc g vs).run P w = .ok (.enter g vs) w) {args : List PV} (hle : fu P (av0.toList.map (evS s) ++ caps) args) {d : Nat} (hd : o.dst = some d) (hlt : Nat.blt d n = true) {e : TypeId} {rows : List (List PV)} (hc : fE P g args (kW d e rows))
  (h : ∀ q,Do P T rb ops L ⟨n,upd s d (.own d q rows.length),bx,upd ob d (some ⟨q,e,rows,true⟩)⟩ K) (hpc : rb.pc = false := by rfl) : Do P T rb ops (k :: L) ⟨n,s,bx,ob⟩ K := by
 refine ⟨o,ho,true,hg,?_⟩
 simp only [if_true,hop,dw]
 right
 intro bx'
 refine eff_call hop hf hcall hle hc fun u H' ⟨q,hu,hH⟩=>?_
 subst hu
 subst hH
 rw [Heap.over_one]
 exact ⟨rfl,(fun hx=>by rw [hpc,Bool.false_and] at hx; cases hx),_,by simp [hd,putD,hlt],h q⟩
theorem tB (ho : ops[k]? = some o) (hg : aS ops s o = some true) {t : TypeId} (hop : o.op = .alloc t) {d : Nat} (hd : o.dst = some d) {ti : TInfo} (hti : T.get t = some ti) {cs : List PV} (hc : eX (cT ti) = some cs) (hlt : Nat.blt d n = true) (hbx : bx d = none)
  (h : ∀ b,Do P T rb ops L ⟨n,upd s d (.box d b 0),upd bx d (some ⟨b,cs⟩),ob⟩ K) : Do P T rb ops (k :: L) ⟨n,s,bx,ob⟩ K := by
 rw [dP,zo] at hc
 subst hc
 refine ⟨o,ho,true,hg,?_⟩
 simp only [if_true,hop,dw]
 exact ⟨t,d,ti,rfl,hd,hti,by simpa [Nat.blt_eq] using hlt,hbx,h⟩
theorem bg {t : TypeId} {d : Nat} {ti : TInfo} {cs : List PV} (h : ∀ b,Do P T rb ops L ⟨n,upd s d (.box d b 0),upd bx d (some ⟨b,cs⟩),ob⟩ K) (ho : ops[k]? = some o := by exact rfl) (hg : aS ops s o = some true := by exact rfl) (hop : o.op = .alloc t := by exact rfl) (hd : o.dst = some d := by exact rfl) (hti : T.get t = some ti := by exact rfl) (hc : eX (cT ti) = some cs := by exact rfl) (hlt : Nat.blt d n = true := by exact rfl) (hbx : bx d = none := by exact rfl) : Do P T rb ops (k :: L) ⟨n,s,bx,ob⟩ K := tB ho hg hop hd hti hc hlt hbx h
theorem bQ (ho : ops[k]? = some o) (hg : aS ops s o = some true) {t : TypeId} {x y : Operand} (hop : o.op = .store t x y) (hd : o.dst = none) {ti : TInfo} (hti : T.get t = some ti) {tag b off : Nat} {cells : List PV} (hx : evS s x = .box tag b off) (hb : bx tag = some ⟨b,cells⟩)
  {cs : List PV} (hc : (cX (evS s y)).bind eX = some cs) (h1 : cs.all PV.one = true) (hl : Nat.beq cs.length ti.size = true) (hle : (okS cells && Nat.ble (off + ti.size) cells.length) = true)
  {cells' : List PV} (hf : eX (eU cells off cs) = some cells') (h : Do P T rb ops L ⟨n,s,upd bx tag (some ⟨b,cells'⟩),ob⟩ K) (hso : rb.so = false := by rfl) : Do P T rb ops (k :: L) ⟨n,s,bx,ob⟩ K := by
 have hc' : cX (evS s y) = some cs := by
  cases hq : cX (evS s y) with
  | none=>simp [hq] at hc
  | some q=>rw [hq,Option.bind_some,dP] at hc; exact hc
 rw [dP,zo] at hf
 subst hf
 refine ⟨o,ho,true,hg,?_⟩
 simp only [if_true,hop,dw]
 exact ⟨hd,.inl ⟨hso,t,x,y,ti,tag,b,off,cells,cs,rfl,hti,hx,hb,hc',h1,Nat.eq_of_beq_eq_true hl,hle,h⟩⟩
theorem V.strF {fn : Func} {R : PV → Heap → Prop} {ks : List KI} (d : Nat) {l : List UInt8} (hs : s d = .str l) (h : l.length ≤ iM → V P fn R ks ⟨n,s,bx,ob⟩) : V P fn R ks ⟨n,s,bx,ob⟩ :=
 sM (Q := l.length ≤ iM) d hs (fun _ _ hx=>by simp only [Rep] at hx; exact hx.2) h
theorem aA.mem {M : Mem} {b : Bool} : ∀ {ps : List PV} {xs : List Value},aA P M b ps xs → ∀ p ∈ ps,∃ x,Rep P M b p x
 | [],_,_,p,hp=>by simp at hp
 | q :: ps,_,h,p,hp=>by
  simp only [aA] at h
  obtain ⟨x,xs,rfl,h2,h3⟩ := h
  rcases List.mem_cons.1 hp with rfl | hp
  ·exact ⟨x,h2⟩
  ·exact h3.mem p hp
theorem V.listF {fn : Func} {R : PV → Heap → Prop} {ks : List KI} (d : Nat) {e : TypeId} {rows : List (List PV)} (hs : s d = .list e rows) {Q : PV → Prop} (hq : ∀ M x p,Rep P M false p x → Q p)
  (h : (∀ r ∈ rows,∀ p ∈ r,Q p) → V P fn R ks ⟨n,s,bx,ob⟩) : V P fn R ks ⟨n,s,bx,ob⟩ :=
 sM (Q := ∀ r ∈ rows,∀ p ∈ r,Q p) d hs (fun M x hx r hr p hp=>by
  simp only [Rep] at hx
  obtain ⟨a,c,i,_,_,_,_,_,h6⟩ := hx
  obtain ⟨b,o,_,h7⟩ := h6 (List.ne_nil_of_mem hr)
  obtain ⟨j,hj⟩ := List.mem_iff_getElem?.1 hr
  obtain ⟨xs,h8,_,_⟩ := (h7.get j r hj).2.vals
  obtain ⟨y,hy⟩ := h8.mem p hp
  exact hq M y p hy) h
theorem V.textF {fn : Func} {R : PV → Heap → Prop} {ks : List KI} (d : Nat) {e : TypeId} {rows : List (List PV)} (hs : s d = .list e rows)
  (h : (∀ r ∈ rows,∀ l,PV.str l ∈ r → l.length ≤ iM) → V P fn R ks ⟨n,s,bx,ob⟩) : V P fn R ks ⟨n,s,bx,ob⟩ :=
 V.listF d hs (Q := fun p=>∀ l,p = .str l → l.length ≤ iM) (fun M x p hp l e=>by subst e; simp only [Rep] at hp; exact hp.2) fun hq=>h fun r hr l hl=>hq r hr _ hl l rfl
theorem hX {fn : Func} {R : PV → Heap → Prop} {ks : List KI} (hT : T.Ok P) (d tag : Nat) {e : TypeId} {ei : TInfo} (hei : T.get e = some ei) (hs : s d = .val (.slice none 0 0))
  (h : V P fn R ks ⟨n,upd s d (.own tag ⟨none,0⟩ 0),bx,upd ob tag (some ⟨⟨none,0⟩,e,[],true⟩)⟩) : V P fn R ks ⟨n,s,bx,ob⟩ :=
 ce (Gh.nilO hT d tag hei hs) h
theorem eo {fn : Func} {R : PV → Heap → Prop} {ks : List KI} (d : Nat) {tag : Nat} {g : OwnRef} {len : Nat} {e : TypeId} {rows : List (List PV)} {wr : Bool} (hs : s d = .own tag g len) (hob : ob tag = some ⟨g,e,rows,wr⟩) (hlen : len = rows.length)
  (h : V P fn R ks ⟨n,upd s d (.list e rows),bx,upd ob tag (some ⟨g,e,rows,false⟩)⟩) : V P fn R ks ⟨n,s,bx,ob⟩ :=
 ce (Gh.freezeO d hs hob hlen) h
theorem tu {fn : Func} {R : PV → Heap → Prop} {ks : List KI} (d : Nat) {tag b : Nat} {cells : List PV} (hs : s d = .box tag b 0) (hb : bx tag = some ⟨b,cells⟩) (hf : PV.frozL cells = true) (h1 : cells.all PV.one = true)
  (h : V P fn R ks ⟨n,upd s d (.ptr cells),upd bx tag none,ob⟩) : V P fn R ks ⟨n,s,bx,ob⟩ :=
 ce (Gh.freezeB d hs hb hf h1) h
end
def PLe2 (P : Program) (p q : PV) : Prop := ∀ M s x,Rep P M s p x → Rep P M s q x
def iB (P : Program) (ps qs : List PV) : Prop := ∀ M s xs,aA P M s ps xs → aA P M s qs xs
def je (P : Program) (rs qs : List (List PV)) : Prop := rs.length = qs.length ∧ ∀ M k b o,dc P M k b o rs → dc P M k b o qs
section
variable {P : Program}
theorem PLe2.refl (p : PV) : PLe2 P p p := fun _ _ _ h=>h
theorem PLe2.of_eq {p q : PV} (h : p = q) : PLe2 P p q := h ▸ PLe2.refl p
theorem PLe2.nil {T : TT} (hT : T.Ok P) {e : TypeId} {ti : TInfo} (hti : T.get e = some ti) : PLe2 P (.val (.slice none 0 0)) (.list e []) := fun M s x h=>by
 obtain ⟨i,hi,_⟩ := (hT.get hti).info
 simp only [Rep] at h ⊢
 subst h
 exact ⟨none,0,i,by simp,by simp,by simp,hi,by simp,by simp⟩
theorem PLe2.agg {ps qs : List PV} (h : iB P ps qs) : PLe2 P (.agg ps) (.agg qs) := fun M s x hx=>by
 simp only [Rep] at hx ⊢
 obtain ⟨cs,rfl,hc⟩ := hx
 exact ⟨cs,rfl,h M s _ hc⟩
theorem PLe2.tup {ps qs : List PV} (h : iB P ps qs) : PLe2 P (.tup ps) (.tup qs) := fun M s x hx=>by
 simp only [Rep] at hx ⊢
 obtain ⟨cs,rfl,hc⟩ := hx
 exact ⟨cs,rfl,h M s _ hc⟩
theorem PLe2.fn {f : FuncId} {ps qs : List PV} (h : iB P ps qs) : PLe2 P (.fn f ps) (.fn f qs) := fun M s x hx=>by
 simp only [Rep] at hx ⊢
 obtain ⟨cs,rfl,hc⟩ := hx
 exact ⟨cs,rfl,h M s _ hc⟩
theorem PLe2.list {e : TypeId} {rs qs : List (List PV)} (h : je P rs qs) : PLe2 P (.list e rs) (.list e qs) := fun M s x hx=>by
 simp only [Rep] at hx ⊢
 obtain ⟨a,c,i,h1,h2,h3,h4,h5,h6⟩ := hx
 rw [← h.1]
 refine ⟨a,c,i,h1,h2,h3,h4,h5,fun hne=>?_⟩
 have : rs ≠ [] := by
  intro hr
  apply hne
  have := h.1
  rw [hr] at this
  exact List.length_eq_zero_iff.1 this.symm
 obtain ⟨b,o,h7,h8⟩ := h6 this
 exact ⟨b,o,h7,h.2 M _ b o h8⟩
theorem iB.refl (ps : List PV) : iB P ps ps := fun _ _ _ h=>h
theorem iB.nil : iB P [] [] := fun _ _ _ h=>h
theorem iB.cons {p q : PV} {ps qs : List PV} (h : PLe2 P p q) (h' : iB P ps qs) : iB P (p :: ps) (q :: qs) := fun M s xs hx=>by
 simp only [aA] at hx ⊢
 obtain ⟨x,ys,rfl,h1,h2⟩ := hx
 exact ⟨x,ys,rfl,h M s x h1,h' M s ys h2⟩
theorem je.refl (rs : List (List PV)) : je P rs rs := ⟨rfl,fun _ _ _ _ h=>h⟩
theorem PLe.of2 {p q : PV} (h : PLe2 P p q) : PLe P p q := fun M x hx=>h M true x hx
theorem fu.of2 {ps qs : List PV} (h : iB P ps qs) : fu P ps qs := fun M xs hx=>h M true xs hx
end
section
variable {P : Program} {C : Ctx} {M : Mem} {H : Heap} {w : World}
theorem InvH.recell (h : InvH P C M H w) {tag b : Nat} {cells cells' : List PV} (hb : H.bx tag = some ⟨b,cells⟩) (hc : ∀ xs,aA P M true cells xs → aA P M true cells' xs) (hm : okS cells = true) :
  InvH P C M ⟨upd H.bx tag (some ⟨b,cells'⟩),H.ob⟩ w := by
 have key : ∀ t x,upd H.bx tag (some ⟨b,cells'⟩) t = some x → ∃ y,H.bx t = some y ∧ y.b = x.b ∧ (∀ xs,aA P M true y.cells xs → aA P M true x.cells xs) ∧ (okS y.cells = true ∨ x.cells = y.cells) := by
  intro t x hx
  rw [cS] at hx
  split at hx
  ·rename_i e; subst e; cases hx; exact ⟨_,hb,rfl,hc,.inl hm⟩
  ·exact ⟨x,hx,rfl,fun _ h=>h,.inr rfl⟩
 refine ⟨h.mem,h.ext,h.new,h.os,h.tape,h.output,h.size,h.frame,?_,h.objs,?_,h.dobj,?_⟩
 ·intro t x hx
  obtain ⟨y,hy,e1,e2,e3⟩ := key t x hx
  obtain ⟨h1,⟨o,h2,h3⟩,h4⟩ := h.boxes t y hy
  rw [e1] at h1 h2 h4
  exact ⟨h1,⟨o,h2,h3.le e2 e3⟩,h4⟩
 ·intro t t' x x' hx hx' hbb
  obtain ⟨y,hy,e1,_⟩ := key t x hx
  obtain ⟨y',hy',e1',_⟩ := key t' x' hx'
  exact h.dbox t t' y y' hy hy' (by rw [e1,e1']; exact hbb)
 ·intro t t' x x' hx hx' hbb
  obtain ⟨y,hy,e1,_⟩ := key t x hx
  exact h.dmix t t' y x' hy hx' (by rw [e1]; exact hbb)
theorem aA.set {s : Bool} : ∀ {ps : List PV} {xs : List Value} {k : Nat} {p q : PV},aA P M s ps xs → ps[k]? = some p → (∀ x,Rep P M s p x → Rep P M s q x) → aA P M s (ps.set k q) xs
 | [],_,_,_,_,_,hk,_=>by simp at hk
 | a :: ps,_,0,p,q,h,hk,hq=>by
  simp only [aA] at h
  obtain ⟨x,xs,rfl,h1,h2⟩ := h
  simp only [List.getElem?_cons_zero,zo] at hk
  subst hk
  simp only [List.set_cons_zero,aA]
  exact ⟨x,xs,rfl,hq x h1,h2⟩
 | a :: ps,_,k + 1,p,q,h,hk,hq=>by
  simp only [aA] at h
  obtain ⟨x,xs,rfl,h1,h2⟩ := h
  simp only [List.set_cons_succ,aA]
  exact ⟨x,xs,rfl,h1,aA.set h2 (by simpa using hk) hq⟩
end
section
variable {P : Program} {fn : Func} {R : PV → Heap → Prop} {ks : List KI} {n : Nat} {s : Nat → PV} {bx : Nat → Option Box} {ob : Nat → Option Obj} {T : TT}
theorem kK (hT : T.Ok P) (tag k otag : Nat) {e : TypeId} {ei : TInfo} (hei : T.get e = some ei) {b : Nat} {cells cells' : List PV} (hb : bx tag = some ⟨b,cells⟩) (hk : cells[k]? = some (.val (.slice none 0 0)))
  (hf : eX (cells.set k (.own otag ⟨none,0⟩ 0)) = some cells') (h : V P fn R ks ⟨n,s,upd bx tag (some ⟨b,cells'⟩),upd ob otag (some ⟨⟨none,0⟩,e,[],true⟩)⟩) (hok : okS cells = true := by exact rfl) : V P fn R ks ⟨n,s,bx,ob⟩ := by
 rw [dP,zo] at hf
 subst hf
 intro C M a w hi
 have h1 := hi.2.nilobj hT otag hei
 refine h C M a w ⟨hi.1,?_⟩
 refine h1.recell (tag := tag) hb (fun xs hx=>hx.set hk fun x hx=>?_) hok
 simp only [Rep] at hx ⊢
 exact ⟨trivial,by rw [hx]; rfl⟩
theorem lK (tag k : Nat) {tg : Nat} {g : OwnRef} {len : Nat} {e : TypeId} {rows : List (List PV)} {wr : Bool} {b : Nat} {cells cells' : List PV} (hb : bx tag = some ⟨b,cells⟩) (hk : cells[k]? = some (.own tg g len)) (hob : ob tg = some ⟨g,e,rows,wr⟩) (hlen : len = rows.length)
  (hf : eX (cells.set k (.list e rows)) = some cells') (h : V P fn R ks ⟨n,s,upd bx tag (some ⟨b,cells'⟩),upd ob tg (some ⟨g,e,rows,false⟩)⟩) (hok : okS cells = true := by exact rfl) : V P fn R ks ⟨n,s,bx,ob⟩ := by
 rw [dP,zo] at hf
 subst hf
 subst hlen
 intro C M a w hi
 obtain ⟨M',hle,hi',hr⟩ := hi.2.freezeO (tag := tg) hob
 refine h C M' a w ⟨hi.1.mono hle,hi'.recell (tag := tag) hb (fun xs hx=>hx.set hk fun x hx=>?_) hok⟩
 simp only [Rep] at hx
 rw [hx.2]
 exact hr
theorem V.retCT {r : PV} (hT : T.Ok P) {a t t' : Nat} (hres : fn.results = #[.cell a t,.tmp t']) {ti : TInfo} (hti : T.get t = some ti) {tag b off : Nat} {cells : List PV} (hs : s a = .box tag b off) (hb : bx tag = some ⟨b,cells⟩) {p p' : PV} (hr : (ep ti off cells).bind hJ = some p) (hs' : hJ (s t') = some p')
  (hu : PLe P (.tup [p,p']) r) : V P fn (fun u H=>u = r ∧ H = Heap.empty) (.code .ret :: ks) ⟨n,s,bx,ob⟩ := by
 have hr' : ep ti off cells = some p := by
  cases hq : ep ti off cells with
  | none=>simp [hq] at hr
  | some q=>rw [hq,Option.bind_some,iJ] at hr; exact hr
 rw [iJ,zo] at hs'
 exact bw hT hres (ps := [p,p']) ⟨p,_,rfl,⟨ti,tag,b,off,cells,hti,hs,hb,hr'⟩,p',[],rfl,hs',rfl⟩ hu
end
end
end Go.Ab

namespace Go.Ab
noncomputable section
open Go.ChangeShapes
def jZ (W : World) : Mem := fun b o=>W.cell? ⟨b,o,none⟩
def laidFs (P : Program) : Nat → List Field → Bool
 | _,[]=>true
 | o,f :: fs=>Nat.beq f.offset o && laidFs P (o + P.cellsOf f.type) fs
def okT (P : Program) (S : List TypeId) (t : TypeId) : Bool :=
 match P.underlying t with
 | some .bool | some (.int _) | some .string=>true
 | some (.slice e)=>S.contains e && Nat.blt 0 (P.cellsOf e)
 | some (.struct fs)=>laidFs P 0 fs.toList && fs.toList.all (fun f=>S.contains f.type) && Nat.beq (fs.toList.map fun f=>P.cellsOf f.type).sum (P.cellsOf t)
 | _=>false
def gu (Sh : TypeId → List PV → Prop) : List TypeId → List PV → Prop
 | [],pvs=>pvs = []
 | t :: ts,pvs=>∃ a b,pvs = a ++ b ∧ Sh t a ∧ gu Sh ts b
def Sh (P : Program) : Nat → TypeId → List PV → Prop
 | 0,_,_=>False
 | n + 1,t,pvs=>match P.underlying t with
  | some .bool=>∃ b,pvs = [.val (.bool b)]
  | some (.int k)=>∃ m,pvs = [.val (.int k m)] ∧ (Lit.int k m).wf = true
  | some .string=>∃ l,pvs = [.str l] ∧ l.length ≤ 2 ^ 47
  | some (.slice e)=>∃ rows,pvs = [.list e rows] ∧ ∀ r ∈ rows,Sh P n e r
  | some (.struct fs)=>gu (Sh P n) (fs.toList.map (·.type)) pvs
  | _=>False
section
variable {H : Type} {enc : TypeId × Value → H} {P : Program} {W : World} {S : List TypeId}
theorem cU.of_cells {b : Nat} : ∀ {o : Nat} {pvs : List PV} {cs : List Value},aA P (jZ W) false pvs cs → (∀ x ∈ cs,x.oneCell' = true) → (∀ j,j < cs.length → W.cell? ⟨b,o + j,none⟩ = cs[j]?) → cU P (jZ W) b o pvs
 | _,[],_,_,_,_=>by simp [cU]
 | o,p :: ps,cs,h,h1,hm=>by
  simp only [aA] at h
  obtain ⟨x,xs,rfl,h2,h3⟩ := h
  simp only [cU]
  refine ⟨⟨x,?_,h1 x (by simp),h2⟩,cU.of_cells h3 (fun y hy=>h1 y (by simp [hy])) fun j hj=>?_⟩
  ·simpa [jZ] using hm 0 (by simp)
  ·have := hm (j + 1) (by simpa using hj)
   rw [show o + 1 + j = o + (j + 1) from by omega]
   simpa using this
theorem Sh.one : ∀ {n : Nat} {t : TypeId} {pvs : List PV},Sh P n t pvs → pvs.all PV.one = true := by
 intro n
 induction n with
 | zero=>intro t pvs h; simp [Sh] at h
 | succ n ih =>
  intro t pvs h
  simp only [Sh] at h
  split at h
  ·obtain ⟨b,rfl⟩ := h; rfl
  ·obtain ⟨m,rfl,_⟩ := h; rfl
  ·obtain ⟨l,rfl,_⟩ := h; rfl
  ·obtain ⟨rows,rfl,_⟩ := h; rfl
  ·rename_i fs _
   generalize fs.toList.map (·.type) = ts at h
   induction ts generalizing pvs with
   | nil=>simp only [gu] at h; subst h; rfl
   | cons t ts iht =>
    simp only [gu] at h
    obtain ⟨a,b,rfl,h1,h2⟩ := h
    rw [List.all_append,ih h1,iht h2]
    rfl
  ·cases h
theorem trod_int_some {n : Nat} {t : TypeId} {k : IntKind} {cs : List Value} {x : DataW H × List MemPlace} {sp : Nat → Bool} (hu : P.underlying t = some (.int k)) (h : DataW.trod enc P W 0 sp true (n + 1) t cs = some x) : ∃ m,cs = [.int k m] ∧ (Lit.int k m).wf = true := by
 unfold DataW.trod at h
 rw [hu] at h
 split at h <;> simp_all
theorem trod_bool_some {n : Nat} {t : TypeId} {cs : List Value} {x : DataW H × List MemPlace} {sp : Nat → Bool} (hu : P.underlying t = some .bool) (h : DataW.trod enc P W 0 sp true (n + 1) t cs = some x) : ∃ b,cs = [.bool b] := by
 unfold DataW.trod at h
 rw [hu] at h
 split at h <;> simp_all
theorem trod_str_some {n : Nat} {t : TypeId} {cs : List Value} {x : DataW H × List MemPlace} {sp : Nat → Bool} (hu : P.underlying t = some .string) (h : DataW.trod enc P W 0 sp true (n + 1) t cs = some x) : ∃ s : ByteArray,cs = [.string s] ∧ x.1 = .lit (.string s.data.toList) := by
 unfold DataW.trod at h
 rw [hu] at h
 split at h <;> simp_all
 rw [← h.2]
theorem sf {n : Nat} {t : TypeId} {fs : Array Field} {cs : List Value} {x : DataW H × List MemPlace} {sp : Nat → Bool} (hu : P.underlying t = some (.struct fs)) (h : DataW.trod enc P W 0 sp true (n + 1) t cs = some x) :
  cs.length = P.cellsOf t ∧ ∃ xs,(fs.toList.mapM fun f=>DataW.trod enc P W 0 sp true n f.type ((cs.drop f.offset).take (P.cellsOf f.type))) = some xs ∧ x = (.agg (xs.map (·.1)),xs.flatMap (·.2)) := by
 unfold DataW.trod at h
 rw [hu] at h
 split at h <;> simp_all
 obtain ⟨_,a,h2,h3⟩ := h
 exact ⟨a,h2,h3.symm⟩
theorem sq {n : Nat} {t e : TypeId} {cs : List Value} {x : DataW H × List MemPlace} (hu : P.underlying t = some (.slice e)) (h : DataW.trod enc P W 0 (fun _=>true) true (n + 1) t cs = some x) :
  (cs = [.slice none 0 0] ∧ x = (.nil,[])) ∨ ∃ a len cap elems rest,cs = [.slice (some a) len cap] ∧ len ≤ cap ∧ cap ≤ maxLen ∧
   ((List.range len).mapM fun i=>(W.cells? 0 (a.add (i * P.cellsOf e)) (P.cellsOf e)).bind (DataW.trod enc P W 0 (fun _=>true) true n e)) = some elems ∧
   ((List.range (cap - len)).mapM fun i=>(W.cells? 0 (a.add ((len + i) * P.cellsOf e)) (P.cellsOf e)).bind (DataW.trod enc P W 0 (fun _=>true) true n e)) = some rest ∧
   x.1 = .slice (elems.map (·.1)) (rest.map (·.1)) := by
 unfold DataW.trod at h
 rw [hu] at h
 split at h <;> simp_all
 rename_i e' a len cap _
 obtain ⟨⟨h1,h2⟩,h3⟩ := h
 cases hel : ((List.range len).mapM fun i=>(W.cells? 0 (a.add (i * P.cellsOf e')) (P.cellsOf e')).bind (DataW.trod enc P W 0 (fun _=>true) true n e')) with
 | none=>rw [hel] at h3; cases h3
 | some elems =>
  rw [hel,Option.bind_some] at h3
  cases hre : ((List.range (cap - len)).mapM fun i=>(W.cells? 0 (a.add ((len + i) * P.cellsOf e')) (P.cellsOf e')).bind (DataW.trod enc P W 0 (fun _=>true) true n e')) with
  | none=>rw [hre] at h3; cases h3
  | some rest =>
   rw [hre,Option.map_some,zo] at h3
   exact ⟨a,len,cap,⟨rfl,rfl,rfl⟩,h1,h2,elems,hel,rest,hre,by rw [← h3]⟩
end
def jW (P : Program) (t : TypeId) (pvs : List PV) : PV :=
 match P.underlying t with
 | some (.struct _)=>.agg pvs
 | _=>pvs.headD .any
def ArgsSh (P : Program) : List TypeId → List PV → Prop
 | [],av0=>av0 = []
 | t :: ts,av0=>∃ n pvs rest,av0 = jW P t pvs :: rest ∧ Sh P n t pvs ∧ ArgsSh P ts rest
section
variable {H : Type} {enc : TypeId × Value → H} {P : Program} {W : World} {S : List TypeId}
theorem qr (hl : laidOutB P = true) {W' : World} (hb : RowKit.Below W.heap.size W W') {sp : Nat → Bool} : ∀ {ts : List TypeId} {vs : List Value} {ds : List (DataW H)} {ps : List MemPlace},(∀ t ∈ ts,P.readableRec t = true ∧ t < P.types.size) →
  DataW.TrodAll enc P W 0 (fun _=>true) true ts vs ds ps → (∀ x ∈ ps,x.block < W.heap.size) → (∀ x ∈ ps,sp x.block = true) → DataW.TrodAll enc P W' 0 sp true ts vs ds ps
 | [],_,_,_,_,h,_,_=>by
  obtain ⟨rfl,rfl,rfl⟩ := trodAll_nil h
  exact trodAll_mk0
 | t :: ts,_,_,_,hr,h,hlt,hsp=>by
  obtain ⟨v,vs,d,ds,p,q,rfl,rfl,rfl,h1,h2⟩ := trodAll_cons h
  exact ⟨p,q,WideElems.Trod_stays hl (hr t (by simp)).1 (hr t (by simp)).2 h1 (fun x hx=>hb.same (hlt x (by simp [hx]))) (fun x hx=>hsp x (by simp [hx])),
   qr hl hb (fun t ht=>hr t (by simp [ht])) h2 (fun x hx=>hlt x (by simp [hx])) (fun x hx=>hsp x (by simp [hx])),rfl⟩
theorem rT {sp : Nat → Bool} {hd : Bool} : ∀ {ts : List TypeId} {vs : List Value} {ds : List (DataW H)} {ps : List MemPlace},DataW.TrodAll enc P W 0 sp hd ts vs ds ps → ds.length = ts.length
 | [],_,_,_,h=>by
  obtain ⟨_,rfl,_⟩ := trodAll_nil h
  rfl
 | t :: ts,_,_,_,h=>by
  obtain ⟨v,vs,d,ds,p,q,rfl,rfl,rfl,_,h2⟩ := trodAll_cons h
  simp [rT h2]
theorem InvH.start (W : World) (hg : Gl W []) : InvH P ⟨W,[],jZ W,hg,[]⟩ (jZ W) Heap.empty W :=
 ⟨fun _ _ _ h=>h,Mem.le_refl _,fun _ _ _ h=>.inl h,rfl,rfl,rfl,Nat.le_refl _,fun _ _ _=>rfl,fun _ _ h=>by simp [Heap.empty] at h,fun _ _ h=>by simp [Heap.empty] at h,
  fun _ _ _ _ h=>by simp [Heap.empty] at h,fun _ _ _ _ _ h=>by simp [Heap.empty] at h,fun _ _ _ _ h=>by simp [Heap.empty] at h⟩
theorem InvH.below {hg : Gl W []} {M : Mem} {Hp : Heap} {W' : World} (h : InvH P ⟨W,[],jZ W,hg,[]⟩ M Hp W') : RowKit.Below W.heap.size W W' :=
 ⟨h.os,h.tape,h.output,h.size,fun k hk=>h.frame k hk (by simp)⟩
end
mutual
def PV.bulk : PV → Nat
 | .str l=>l.length + 1
 | .list _ rows=>fP rows + 1
 | .agg cs=>bS cs
 | .any=>1
 | .val _=>1
 | .tup _=>1
 | .ptr _=>1
 | .fn _ _=>1
 | .box _ _ _=>1
 | .own _ _ _=>1
 | .optr _ _ _ _ _=>1
 | .err _=>1
 | .ifc _ p=>p.bulk + 1
def bS : List PV → Nat
 | []=>0
 | p :: ps=>p.bulk + bS ps
def fP : List (List PV) → Nat
 | []=>0
 | r :: rs=>bS r + fP rs
end
theorem pE : ∀ a b : List PV,bS (a ++ b) = bS a + bS b
 | [],b=>by simp [bS]
 | p :: a,b=>by simp only [List.cons_append,bS,pE a b]; omega
structure IsBulk (B : (H : Type) → DataW H → Nat) : Prop where
 one : ∀ H d,1 ≤ B H d
 str : ∀ H l,l.length + 1 ≤ B H (.lit (.string l))
 slice : ∀ H (a b : List (DataW H)),(a.map (B H)).sum + 1 ≤ B H (.slice a b)
 agg : ∀ H (a : List (DataW H)),(a.map (B H)).sum ≤ B H (.agg a)
theorem Sh.up {P : Program} : ∀ {n : Nat} {t : TypeId} {pvs : List PV},Sh P n t pvs → Sh P (n + 1) t pvs := by
 intro n
 induction n with
 | zero=>intro t pvs h; simp [Sh] at h
 | succ n ih =>
  intro t pvs h
  rw [Sh] at h ⊢
  split at h
  ·exact h
  ·exact h
  ·exact h
  ·obtain ⟨rows,rfl,hr⟩ := h
   exact ⟨rows,rfl,fun r hq=>ih (hr r hq)⟩
  ·rename_i fs hu
   have key : ∀ (ts : List TypeId) (l : List PV),gu (Sh P n) ts l → gu (Sh P (n + 1)) ts l := by
    intro ts
    induction ts with
    | nil=>intro l h; simp only [gu] at h ⊢; exact h
    | cons t ts iht =>
     intro l h
     simp only [gu] at h ⊢
     obtain ⟨a,b,h1,h2,h3⟩ := h
     exact ⟨a,b,h1,ih h2,iht b h3⟩
   exact key _ _ h
  ·cases h
theorem Sh.cast {P : Program} {n : Nat} {t t' : TypeId} {pvs : List PV} (h : P.underlying t = P.underlying t') (hs : Sh P n t pvs) : Sh P n t' pvs := by
 cases n with
 | zero=>simp [Sh] at hs
 | succ n=>rw [Sh] at hs ⊢; rwa [h] at hs
theorem iX {α : Type} {f : α → List PV} : ∀ {rows : List (List PV)},(∀ r ∈ rows,∃ x,r = f x) → ∃ xs : List α,rows = xs.map f
 | [],_=>⟨[],rfl⟩
 | r :: rs,h=>by
  obtain ⟨x,rfl⟩ := h r (by simp)
  obtain ⟨xs,rfl⟩ := iX (rows := rs) fun q hq=>h q (by simp [hq])
  exact ⟨x :: xs,rfl⟩
theorem rowsUp {α : Type} {f : α → List PV} {P : Program} {n : Nat} {e t : TypeId} (he : P.underlying e = P.underlying t) (ih : ∀ {pvs},Sh P (n + 1) t pvs → ∃ v,pvs = f v) {rows : List (List PV)} (hr : ∀ r ∈ rows,Sh P n e r) : ∃ xs : List α,rows = xs.map f :=
 iX fun r hq=>ih (Sh.up (Sh.cast he (hr r hq)))
def infosB (P : Program) (S : List TypeId) : Bool := S.all fun t=>match P.info? t with
 | some i=>Nat.beq i.bytes (P.bytesOf t) && Nat.beq i.size (P.cellsOf t)
 | none=>false
theorem infos_of {P : Program} {S : List TypeId} (h : infosB P S = true) : ∀ t ∈ S,∃ i,P.info? t = some i ∧ i.bytes = P.bytesOf t ∧ i.size = P.cellsOf t := by
 intro t ht
 have := List.all_eq_true.1 h t ht
 cases hi : P.info? t with
 | none=>rw [hi] at this; cases this
 | some i =>
  rw [hi] at this
  simp only [Bool.and_eq_true] at this
  exact ⟨i,rfl,Nat.eq_of_beq_eq_true this.1,Nat.eq_of_beq_eq_true this.2⟩
section
variable {B : (H : Type) → DataW H → Nat} {H : Type} {enc : TypeId × Value → H} {P : Program} {W : World} {S : List TypeId}
theorem rO {n : Nat} (ih : ∀ t ∈ S,∀ (cs : List Value) x,DataW.trod enc P W 0 (fun _=>true) true n t cs = some x → (x.1.weights P t).all (· ≤ reachBytes) = true → ∃ pvs,Sh P n t pvs ∧ aA P (jZ W) false pvs cs ∧ bS pvs ≤ B H x.1) :
  ∀ (fs : List Field) (o : Nat) (cs : List Value) (xs : List (DataW H × List MemPlace)),laidFs P o fs = true → fs.all (fun f=>S.contains f.type) = true → o + (fs.map fun f=>P.cellsOf f.type).sum = cs.length →
   (fs.mapM fun f=>DataW.trod enc P W 0 (fun _=>true) true n f.type ((cs.drop f.offset).take (P.cellsOf f.type))) = some xs →
   (DataW.weightsEach P (fs.map (·.type)) (xs.map (·.1))).all (· ≤ reachBytes) = true → ∃ pvs,gu (Sh P n) (fs.map (·.type)) pvs ∧ aA P (jZ W) false pvs (cs.drop o) ∧ bS pvs ≤ ((xs.map (·.1)).map (B H)).sum
 | [],o,cs,xs,_,_,hlen,_,_=>by
  refine ⟨[],by simp [gu],?_,by simp [bS]⟩
  simp only [aA]
  exact List.drop_eq_nil_of_le (by simp at hlen; omega)
 | f :: fs,o,cs,xs,hl,hS,hlen,hm,hw=>by
  simp only [laidFs,Bool.and_eq_true] at hl
  simp only [List.all_cons,Bool.and_eq_true] at hS
  simp only [List.map_cons,List.sum_cons] at hlen
  have hoff : f.offset = o := Nat.eq_of_beq_eq_true hl.1
  rw [List.mapM_cons] at hm
  cases hx : DataW.trod enc P W 0 (fun _=>true) true n f.type ((cs.drop f.offset).take (P.cellsOf f.type)) with
  | none=>rw [hx] at hm; cases hm
  | some x =>
   rw [hx] at hm
   cases hr : (fs.mapM fun f=>DataW.trod enc P W 0 (fun _=>true) true n f.type ((cs.drop f.offset).take (P.cellsOf f.type))) with
   | none=>rw [hr] at hm; cases hm
   | some r =>
    rw [hr] at hm
    have hm' : x :: r = xs := Option.some.inj hm
    subst hm'
    simp only [List.map_cons,DataW.weightsEach,List.all_append,Bool.and_eq_true] at hw
    obtain ⟨pa,ha1,ha2,ha3⟩ := ih f.type (by simpa using hS.1) _ x hx hw.1
    obtain ⟨pb,hb1,hb2,hb3⟩ := rO ih fs (o + P.cellsOf f.type) cs r hl.2 hS.2 (by omega) hr hw.2
    refine ⟨pa ++ pb,⟨pa,pb,rfl,ha1,hb1⟩,?_,by rw [pE]; simp only [List.map_cons,List.sum_cons]; omega⟩
    have := ha2.append hb2
    rw [hoff] at this
    have e : (cs.drop o).take (P.cellsOf f.type) ++ cs.drop (o + P.cellsOf f.type) = cs.drop o := by
     rw [← List.drop_drop]; exact List.take_append_drop _ _
    rwa [e] at this
theorem absB_rows {n : Nat} {e : TypeId} (ih : ∀ (cs : List Value) x,DataW.trod enc P W 0 (fun _=>true) true n e cs = some x → (x.1.weights P e).all (· ≤ reachBytes) = true → ∃ pvs,Sh P n e pvs ∧ aA P (jZ W) false pvs cs ∧ bS pvs ≤ B H x.1)
  {b o c : Nat} : ∀ (elems : List (DataW H × List MemPlace)) (k : Nat),(∀ j,j < elems.length → ((W.cells? 0 ((⟨b,o,none⟩ : Addr).add ((k + j) * c)) c).bind (DataW.trod enc P W 0 (fun _=>true) true n e)) = elems[j]?) →
   (DataW.weightsAll P e (elems.map (·.1))).all (· ≤ reachBytes) = true → ∃ rows : List (List PV),rows.length = elems.length ∧ (∀ r ∈ rows,Sh P n e r) ∧ dc P (jZ W) c b (o + k * c) rows ∧ fP rows ≤ ((elems.map (·.1)).map (B H)).sum
 | [],k,_,_=>⟨[],rfl,by simp,by simp [dc],by simp [fP]⟩
 | x :: r,k,hj,hw=>by
  simp only [List.map_cons,DataW.weightsAll,List.all_append,Bool.and_eq_true] at hw
  have h0 := hj 0 (by simp)
  simp only [Nat.add_zero,List.getElem?_cons_zero] at h0
  cases hcs : W.cells? 0 ((⟨b,o,none⟩ : Addr).add (k * c)) c with
  | none=>rw [hcs] at h0; cases h0
  | some cs =>
   rw [hcs] at h0
   simp only [Option.bind_some] at h0
   obtain ⟨pv,hp1,hp2,hp3⟩ := ih cs x h0 hw.1
   obtain ⟨_,hlen,hcell⟩ := World.cells?_some hcs
   obtain ⟨rows,hr1,hr2,hr3,hr4⟩ := absB_rows ih r (k + 1) (fun j hj'=>by
    have := hj (j + 1) (by simpa using hj')
    rw [show k + (j + 1) = k + 1 + j from by omega] at this
    simpa using this) hw.2
   refine ⟨pv :: rows,by simp [hr1],?_,?_,by simp only [fP,List.map_cons,List.sum_cons]; omega⟩
   ·intro q hq
    rcases List.mem_cons.1 hq with rfl | hq
    ·exact hp1
    ·exact hr2 q hq
   ·simp only [dc]
    have hpl : pv.length = c := by rw [← hlen]; exact (hp2.length).symm
    have hone : ∀ y ∈ cs,y.oneCell' = true := aA.oneCell hp1.one hp2
    refine ⟨hpl,cU.of_cells hp2 hone fun j hj'=>?_,?_⟩
    ·have := hcell j (by omega)
     rw [← this,gF,gF]
    ·rw [show o + (k + 1) * c = o + k * c + c from by rw [Nat.add_mul]; omega] at hr3
     exact hr3
theorem absB (hB : IsBulk B) (hS : S.all (okT P S) = true) (hinf : ∀ t ∈ S,∃ i,P.info? t = some i ∧ i.bytes = P.bytesOf t ∧ i.size = P.cellsOf t) : ∀ (n : Nat) (t : TypeId),t ∈ S → ∀ (cs : List Value) x,DataW.trod enc P W 0 (fun _=>true) true n t cs = some x →
  (x.1.weights P t).all (· ≤ reachBytes) = true → ∃ pvs,Sh P n t pvs ∧ aA P (jZ W) false pvs cs ∧ bS pvs ≤ B H x.1 := by
 intro n
 induction n with
 | zero=>intro t _ cs x h; simp [DataW.trod] at h
 | succ n ih =>
  intro t ht cs x h hw
  have hok := List.all_eq_true.1 hS t ht
  unfold okT at hok
  simp only [Sh]
  split at hok
  ·rename_i hu
   obtain ⟨b,rfl⟩ := trod_bool_some hu h
   exact ⟨_,⟨b,rfl⟩,by simp [aA,Rep],by simp only [bS,PV.bulk]; exact hB.one _ _⟩
  ·rename_i k hu
   obtain ⟨m,rfl,hm⟩ := trod_int_some hu h
   exact ⟨_,⟨m,rfl,hm⟩,by simp [aA,Rep],by simp only [bS,PV.bulk]; exact hB.one _ _⟩
  ·rename_i hu
   obtain ⟨s,rfl,hx⟩ := trod_str_some hu h
   rw [hx] at hw
   simp only [DataW.weights,List.all_cons,List.all_nil,Bool.and_true,decide_eq_true_eq] at hw
   have hle : s.data.toList.length ≤ 2 ^ 47 := Nat.le_trans hw (by unfold reachBytes; omega)
   refine ⟨_,⟨s.data.toList,rfl,hle⟩,?_,by simp only [bS,PV.bulk]; rw [hx]; exact hB.str _ _⟩
   simp only [aA,Rep]
   exact ⟨_,[],rfl,⟨by simp,Nat.le_trans hle (by unfold iM; omega)⟩,rfl⟩
  ·rename_i e hu
   simp only [Bool.and_eq_true] at hok
   have he : e ∈ S := by simpa using hok.1
   obtain ⟨i,hi1,hi2,hi3⟩ := hinf e he
   rcases sq hu h with ⟨rfl,rfl⟩ | ⟨a,len,cap,elems,rest,rfl,hlc,hcm,hel,hre,hx⟩
   ·refine ⟨_,⟨[],rfl,by simp⟩,?_,by simp only [bS,PV.bulk,fP]; exact hB.one _ _⟩
    simp only [aA,Rep]
    exact ⟨_,[],rfl,⟨none,0,i,rfl,by simp,by simp,hi1,by simp,by simp⟩,rfl⟩
   ·have hlen : elems.length = len := by simpa using mapM_some_length hel
    have hrlen : rest.length = cap - len := by simpa using mapM_some_length hre
    rw [hx] at hw
    simp only [DataW.weights,hu,List.all_cons,List.all_append,zl,Bool.and_eq_true,decide_eq_true_eq] at hw
    have hpos : 0 < P.cellsOf e := by simpa [Nat.blt_eq] using hok.2
    have hget : ∀ j,j < elems.length → (W.cells? 0 (a.add (j * P.cellsOf e)) (P.cellsOf e)).bind (DataW.trod enc P W 0 (fun _=>true) true n e) = elems[j]? := fun j hj=>mapM_some_get hel j j (List.getElem?_range (by omega))
    have hsp : elems ≠ [] → a.spot = none := fun hne=>by
     have h0 := hget 0 (List.length_pos_iff.2 hne)
     rw [Nat.zero_mul] at h0
     cases hcs : W.cells? 0 (a.add 0) (P.cellsOf e) with
     | none=>rw [hcs] at h0; cases elems with
      | nil=>exact absurd rfl hne
      | cons _ _=>cases h0
     | some cs =>
      obtain ⟨_,hl,hc⟩ := World.cells?_some hcs
      have := hc 0 hpos
      cases hs : a.spot with
      | none=>rfl
      | some q =>
       have h1 : W.cell? ((a.add 0).add 0) = none := by
        simp only [World.cell?,Addr.add,hs,if_true]
        split <;> simp
       rw [h1] at this
       have := List.getElem?_eq_none_iff.1 this.symm
       omega
    have hby : len * i.bytes ≤ 2 ^ 47 := by
     have h1 := hw.1
     rw [hi2]
     have : len * P.bytesOf e ≤ (elems.length + rest.length) * P.bytesOf e := Nat.mul_le_mul_right _ (by omega)
     unfold reachBytes at h1
     omega
    by_cases hne : elems = []
    ·subst hne
     refine ⟨_,⟨[],rfl,by simp⟩,?_,by simp only [bS,PV.bulk,fP]; exact hB.one _ _⟩
     simp only [List.length_nil] at hlen
     subst hlen
     simp only [aA,Rep]
     exact ⟨_,[],rfl,⟨some a,cap,i,rfl,by simp,hcm,hi1,by simp,by simp⟩,rfl⟩
    ·obtain ⟨b,o,sp⟩ := a
     have := hsp hne
     simp only at this
     subst this
     obtain ⟨rows,hr1,hr2,hr3,hr4⟩ := absB_rows (B := B) (fun cs x hx hw=>ih e he cs x hx hw) elems 0 (fun j hj=>by rw [Nat.zero_add]; exact hget j hj) hw.2.1
     refine ⟨_,⟨rows,rfl,hr2⟩,?_,by simp only [bS,PV.bulk]; rw [hx]; exact Nat.le_trans (by omega) (hB.slice _ _ _)⟩
     simp only [aA,Rep]
     have hrl : rows.length = len := by omega
     rw [hrl]
     refine ⟨_,[],rfl,⟨some ⟨b,o,none⟩,cap,i,rfl,hlc,hcm,hi1,hby,fun _=>⟨b,o,rfl,?_⟩⟩,rfl⟩
     rw [hi3]
     simpa using hr3
  ·rename_i fs hu
   simp only [Bool.and_eq_true] at hok
   obtain ⟨hl,xs,hm,hx⟩ := sf hu h
   rw [hx] at hw
   simp only [DataW.weights,hu] at hw
   have hsum := Nat.eq_of_beq_eq_true hok.2
   obtain ⟨pvs,h1,h2,h3⟩ := rO (B := B) ih fs.toList 0 cs xs hok.1.1 hok.1.2 (by rw [hsum,hl]; omega) hm hw
   exact ⟨pvs,h1,by simpa using h2,by rw [hx]; exact Nat.le_trans h3 (hB.agg _ _)⟩
  ·cases hok
omit enc W S in
theorem argPV_bulk (hB : IsBulk B) (t : TypeId) (pvs : List PV) : (jW P t pvs).bulk ≤ max (bS pvs) 1 := by
 have _ := hB
 unfold jW
 split
 ·simp only [PV.bulk]; omega
 ·cases pvs with
  | nil=>simp [PV.bulk,bS]
  | cons p ps=>simp only [List.headD_cons,bS]; omega
theorem absB_val (hB : IsBulk B) (hS : S.all (okT P S) = true) (hinf : ∀ t ∈ S,∃ i,P.info? t = some i ∧ i.bytes = P.bytesOf t ∧ i.size = P.cellsOf t) {base : Nat} {t : TypeId} (ht : t ∈ S) {v : Value} {d : DataW H} {ps : List MemPlace}
  (hv : Value.okWide P W .any base t v) (h : DataW.Trod enc P W 0 (fun _=>true) true t v d ps) (hw : (d.weights P t).all (· ≤ reachBytes) = true) : ∃ n pvs,Sh P n t pvs ∧ Rep P (jZ W) true (jW P t pvs) v ∧ (jW P t pvs).bulk ≤ B H d := by
 obtain ⟨n,hn⟩ := h
 obtain ⟨pvs,h1,h2,hb⟩ := absB hB hS hinf n t ht _ (d,ps) hn hw
 refine ⟨n,pvs,h1,?_,Nat.le_trans (argPV_bulk hB t pvs) (Nat.max_le.2 ⟨hb,hB.one _ _⟩)⟩
 have h2' := aA.slot h2
 have hok := List.all_eq_true.1 hS t ht
 unfold okT at hok
 unfold jW
 have one : v.cells = #[v] → Rep P (jZ W) true (pvs.headD .any) v := by
  intro e
  rw [e] at h2'
  cases pvs with
  | nil=>simp [aA] at h2'
  | cons p ps =>
   simp only [aA] at h2'
   obtain ⟨x,xs,hx,hp,_⟩ := h2'
   simp only [List.cons.injEq] at hx
   rw [hx.1]
   exact hp
 cases hu : P.underlying t with
 | none=>rw [hu] at hok; cases hok
 | some td =>
  rw [hu] at hok
  cases td <;> first | (simp only [Bool.false_eq_true] at hok; done) | skip
  case bool=>obtain ⟨b,rfl⟩ := WideShapes.okWide_bool hu hv; exact one rfl
  case int k=>obtain ⟨m,rfl⟩ := WideShapes.okWide_int hu hv; exact one rfl
  case string=>obtain ⟨s,rfl⟩ := WideShapes.okWide_string hu hv; exact one rfl
  case slice e=>obtain ⟨a,len,cap,rfl⟩ := WideShapes.okWide_slice hu hv; exact one rfl
  case struct fs =>
   obtain ⟨cs,rfl,_⟩ := WideShapes.okWide_struct hu hv
   simp only [Rep]
   exact ⟨cs,rfl,h2'⟩
theorem absB_args (hB : IsBulk B) (hS : S.all (okT P S) = true) (hinf : ∀ t ∈ S,∃ i,P.info? t = some i ∧ i.bytes = P.bytesOf t ∧ i.size = P.cellsOf t) {base : Nat} : ∀ {ts : List TypeId} {vs : List Value} {ds : List (DataW H)} {ps : List MemPlace},(∀ t ∈ ts,t ∈ S) →
  (∀ (j : Nat) t v,ts[j]? = some t → vs[j]? = some v → Value.okWide P W .any base t v) → DataW.TrodAll enc P W 0 (fun _=>true) true ts vs ds ps → (DataW.weightsEach P ts ds).all (· ≤ reachBytes) = true →
  ∃ av0,ArgsSh P ts av0 ∧ aA P (jZ W) true av0 vs ∧ bS av0 ≤ (ds.map (B H)).sum
 | [],_,_,_,_,_,h,_=>by
  obtain ⟨rfl,rfl,rfl⟩ := trodAll_nil h
  exact ⟨[],rfl,by simp [aA],by simp [bS]⟩
 | t :: ts,_,_,_,hm,hv,h,hw=>by
  obtain ⟨v,vs,d,ds,p,q,rfl,rfl,rfl,h1,h2⟩ := trodAll_cons h
  simp only [DataW.weightsEach,List.all_append,Bool.and_eq_true] at hw
  obtain ⟨n,pvs,a1,a2,a3⟩ := absB_val hB hS hinf (hm t (by simp)) (hv 0 t v rfl rfl) h1 hw.1
  obtain ⟨av0,b1,b2,b3⟩ := absB_args hB hS hinf (fun t ht=>hm t (by simp [ht])) (fun j t v ht hv'=>hv (j + 1) t v (by simpa using ht) (by simpa using hv')) h2 hw.2
  refine ⟨jW P t pvs :: av0,⟨n,pvs,av0,rfl,a1,b1⟩,?_,by simp only [bS,List.map_cons,List.sum_cons]; omega⟩
  simp only [aA]
  exact ⟨v,vs,rfl,a2,b2⟩
theorem law_callsB {N : Nat} (hB : IsBulk B) (hl : laidOutB P = true) {f : FuncId} {fn : Func} {s : ChangeSpec} {fresh handsOn again : Bool} {tb : TypeId} (hvars : s.vars = []) (hr : ∀ t ∈ fn.params.toList,P.readableRec t = true ∧ t < P.types.size) (hres : fn.resultTypes = #[tb]) (htb : P.underlying tb = some .bool)
  (hfn : ∀ ds : List (DataW H),ds.length = fn.params.toList.length → s.fn H ds = { results := [.lit (.bool true)],args := ds })
  (hS : S.all (okT P S) = true) (hinf : ∀ t ∈ S,∃ i,P.info? t = some i ∧ i.bytes = P.bytesOf t ∧ i.size = P.cellsOf t) (hm : ∀ t ∈ fn.params.toList,t ∈ S)
  (hspec : ∀ av0,ArgsSh P fn.params.toList av0 → bS av0 ≤ N → aT P f av0 (.val (.bool true)))
  {base : Nat} {args : Array Value} {ds gs : List (DataW H)} {before : List MemPlace} (hval : ∀ (j : Nat) t v,fn.params[j]? = some t → args[j]? = some v → Value.okWide P W .any base t v)
  (hW : DataW.Whole enc P fn.params.toList s.vars false W args.toList ds gs before) (hg : Gl W []) (hsz : (DataW.weightsEach P (fn.params.toList ++ s.plain.varTypes P) (ds ++ gs)).all (· ≤ reachBytes) = true) (hN : ((ds ++ gs).map (B H)).sum ≤ N) :
  Calls P f args W fun e W'=>∃ v,e = .returned v ∧ s.post enc P fn false fresh handsOn again W args v W' := by
 have hlt := hW.lt
 have hW' := hW
 obtain ⟨p,q,hA,hV,rfl,hz,hn⟩ := hW
 have hV' := hV
 rw [hvars] at hV
 obtain ⟨rfl,rfl⟩ := trodVars_none hV
 have hvt : s.plain.varTypes P = [] := by simp [DataSpec.varTypes,ChangeSpec.plain,hvars]
 rw [hvt,List.append_nil,List.append_nil] at hsz
 rw [List.append_nil] at hN
 have hlen : ds.length = fn.params.toList.length := rT hA
 obtain ⟨av0,h1,h2,h3⟩ := absB_args hB hS hinf hm (fun j t v ht hv=>hval j t v (by simpa using ht) (by simpa using hv)) hA hsz
 refine (hspec av0 h1 (Nat.le_trans h3 hN) W (jZ W) [] hg args (InvH.start W hg) h2).mono ?_
 rintro e W' ⟨v,u,H',M',rfl,⟨rfl,rfl⟩,hi,hrep⟩
 simp only [Rep] at hrep
 subst hrep
 have hb := hi.below
 refine ⟨_,rfl,?_⟩
 have hfn' : s.fn H (ds ++ []) = { results := [.lit (.bool true)],args := ds } := by rw [List.append_nil]; exact hfn ds hlen
 have hargs : ∀ sp : Nat → Bool,(∀ x ∈ p ++ [],sp x.block = true) → DataW.TrodAll enc P W' 0 sp true fn.params.toList args.toList ds p := fun sp hsp =>
  qr hl hb hr hA (fun x hx=>hlt x (by simp [hx])) (fun x hx=>hsp x (by simp [hx]))
 have hres' : ∀ (b : Nat) (sp : Nat → Bool) (hd : Bool),DataW.TrodAll enc P W' b sp hd fn.resultTypes.toList ((Value.bool true).resultList fn.resultTypes.size) [.lit (.bool true)] [] := by
  intro b sp hd
  rw [hres]
  refine trodAll_mk1 ⟨1,?_⟩
  show DataW.trod enc P W' b sp hd 1 tb [.bool true] = _
  unfold DataW.trod
  rw [htb]
 have hvs : ∀ sp : Nat → Bool,DataW.TrodVars enc P W' sp s.vars ([] : List (DataW H)) [] := fun sp=>by rw [hvars]; simp [DataW.TrodVars]
 have hold : ∀ x ∈ p ++ [],(fun b=>decide (b < W.heap.size)) x.block = true := fun x hx=>by simpa using hlt x hx
 refine ⟨ds,[],p ++ [],[],p,[],hW',?_,?_,?_,hb.frame _,fun _=>⟨RowKit.ok_one hres rfl (RowKit.okWide_bool_mk htb true),[.lit (.bool true)] ++ ds,[],([] ++ p) ++ [],⟨[] ++ p,[],?_,hvs _,rfl,?_,fun h=>by cases h⟩,?_⟩⟩
 ·rw [hfn']; exact hres' _ _ _
 ·rw [hfn']; exact hargs _ hold
 ·rw [hfn']; exact hvs _
 ·exact trodAll_append (hargs _ fun _ _=>rfl) (hres' _ _ _)
 ·intro b off hx
  have hx' : MemPlace.cell b off ∈ p ++ [] := by simpa using hx
  rw [hb.frozen (hlt _ hx')]
  exact hz b off hx'
 ·intro x hx _
  simpa using hx
end
end
end Go.Ab

namespace Go.Ab
noncomputable section
open Go
theorem joined_of {P : Program} {f : FuncId} {fn : Func} {s : ChangeSpec} {c : OpenClaim}
  (h_wf : (c.wf (OpenSpec.ofChange s)) = true)
  (h_laid : (laidOutB P) = true)
  (h_mapsRowed : (mapsRowed P) = true)
  (h_rr : (fn.params.all (P.readableRec ·)) = true)
  (h_nt : (namedTie P c.named s.vars) = true)
  (h_st : ((c.stops == []) && (P.stops == []) && (c.knobs == []) && (P.stopKnobs == [])) = true)
  (h_inPlace : (c.inPlace == P.inPlace f) = true)
  (h_unf : (c.unfollowed == P.unfollowed f) = true)
  (h_rec : (c.recurses == P.recurses f) = true)
  (h_named : (c.named == P.varsNamed f) = true)
  (h_maps : ((c.maps == (fn.params.toList ++ s.plain.varTypes P).any (P.mapsRec ·)) && (c.ifaces == (fn.params.toList ++ s.plain.varTypes P).any (P.ifacesRec ·)) && (c.mapsOut == P.mapsAmong fn.resultTypes.toList)) = true)
  (h_loops : ((c.loops == (fn.params.toList ++ s.plain.varTypes P).any (P.loopsFrom ·))) = true)
  (h_wide : ((c.wideKeys == (fn.params.toList ++ s.plain.varTypes P ++ fn.resultTypes.toList).any (P.wideKeysFrom ·))) = true)
  (h_rest1 : (s.vars.all (P.varReadable ·) && fn.resultTypes.all (fun t=>P.readableRec t && decide (t < P.types.size)) && (c.ifacesOut == fn.resultTypes.toList.any (P.ifacesRec ·)) && (c.loopsOut == fn.resultTypes.toList.any (P.loopsFrom ·))) = true)
  (h_plainKeys : (c.plainKeys == P.plainKeys) = true)
  (h_rest2 : (c.shortTexts.isNone && P.stopsHeard && P.mayEnter && (c.lifted == P.liftsFinal) && (P.make == some c.make)) = true)
  (h_kinds : ((c.kinds == (if c.domain.isEmpty then [] else fn.params.toList.map fun t=>match P.underlying t with | some (.int k)=>some k | _=>none)) && (c.pinned == c.pinnedBy)) = true)
  (h_veil : ((c.veiled == (fn.params.toList ++ s.plain.varTypes P ++ fn.resultTypes.toList).any (P.veiledRec ·)) && c.veiledFits P fn.params.toList (fn.params.toList ++ s.plain.varTypes P ++ fn.resultTypes.toList)) = true)
  : joinedFacts P f fn s c = true := by
 simp only [Bool.and_eq_true] at h_st h_maps h_rest1 h_rest2 h_kinds h_veil
 simp only [joinedFacts,Bool.and_eq_true]
 exact ⟨⟨⟨⟨⟨⟨⟨⟨⟨⟨⟨⟨⟨⟨⟨⟨⟨⟨⟨⟨⟨⟨⟨⟨⟨⟨⟨⟨⟨⟨⟨h_wf,h_laid⟩,h_mapsRowed⟩,h_rr⟩,h_nt⟩,h_st.1.1.1⟩,h_st.1.1.2⟩,h_st.1.2⟩,h_st.2⟩,h_inPlace⟩,h_unf⟩,h_rec⟩,h_named⟩,h_maps.1.1⟩,h_maps.1.2⟩,h_maps.2⟩,h_loops⟩,h_wide⟩,h_rest1.1.1.1⟩,h_rest1.1.1.2⟩,h_rest1.1.2⟩,h_rest1.2⟩,h_plainKeys⟩,h_rest2.1.1.1.1⟩,h_rest2.1.1.1.2⟩,h_rest2.1.1.2⟩,h_rest2.1.2⟩,h_rest2.2⟩,h_kinds.1⟩,h_kinds.2⟩,h_veil.1⟩,h_veil.2⟩
end
end Go.Ab

namespace Go.Ab
noncomputable section
section
variable {P : Program} {ops : Array Oper} {rest : List Oper} {o : Oper} {n : Nat} {s s' : Nat → PV} {bx : Nat → Option Box} {ob : Nat → Option Obj} {K : PState → Prop} {T : TT}
abbrev kJ (xs : List UInt8) : List (List PV) := xs.map fun c=>[.val (.int .u8 c.toNat)]
end
def ah {α β : Type} (o : Option α) (k : α → Option β) : Option β := match o with
 | some a=>k a
 | none=>none
def bH {α β : Type} (a : α) (k : α → β) : β := k a
inductive Flow (σ ρ : Type) where
 | next (s : σ)
 | brk (s : σ)
 | ret (r : ρ)
def Flow.thenR {σ ρ : Type} (fl : Flow σ ρ) (k : σ → Option ρ) : Option ρ := match fl with
 | .next s=>k s
 | .brk s=>k s
 | .ret r=>some r
def Flow.thenF {σ τ ρ : Type} (fl : Flow σ ρ) (k : σ → Option (Flow τ ρ)) : Option (Flow τ ρ) := match fl with
 | .next s=>k s
 | .brk s=>k s
 | .ret r=>some (.ret r)
def aM {α σ ρ : Type} (step : Nat → α → σ → Option (Flow σ ρ)) : Nat → List α → σ → Option (Flow σ ρ)
 | _,[],s=>some (.next s)
 | j,x :: xs,s=>match step j x s with
  | none=>none
  | some (.next s')=>aM step (j + 1) xs s'
  | some (.brk s')=>some (.next s')
  | some (.ret r)=>some (.ret r)
def jj {σ ρ : Type} (step : σ → Option (Flow σ ρ)) : Nat → σ → Option (Flow σ ρ)
 | 0,_=>none
 | n + 1,s=>match step s with
  | none=>none
  | some (.next s')=>jj step n s'
  | some (.brk s')=>some (.next s')
  | some (.ret r)=>some (.ret r)
open Classical in
def fD {σ ρ : Type} (step : σ → Option (Flow σ ρ)) (s : σ) : Option (Flow σ ρ) :=
 if h : ∃ r,∃ n,jj step n s = some r then some h.choose else none
theorem iterM_le {σ ρ : Type} {step : σ → Option (Flow σ ρ)} : ∀ {n m : Nat} {s : σ} {r : Flow σ ρ},jj step n s = some r → n ≤ m → jj step m s = some r
 | 0,_,_,_,h,_=>by simp [jj] at h
 | n + 1,0,_,_,_,hm=>by omega
 | n + 1,m + 1,s,r,h,hm=>by
  simp only [jj] at h ⊢
  split at h
  ·cases h
  ·exact iterM_le h (by omega)
  ·exact h
  ·exact h
theorem whileM_iff {σ ρ : Type} {step : σ → Option (Flow σ ρ)} {s : σ} {r : Flow σ ρ} : fD step s = some r ↔ ∃ n,jj step n s = some r := by
 unfold fD
 constructor
 ·intro h
  split at h
  ·rename_i hx
   obtain ⟨n,hn⟩ := hx.choose_spec
   exact ⟨n,by rw [hn]; exact h⟩
  ·cases h
 ·rintro ⟨n,hn⟩
  have hx : ∃ r,∃ n,jj step n s = some r := ⟨r,n,hn⟩
  rw [dif_pos hx]
  obtain ⟨m,hm⟩ := hx.choose_spec
  have h1 := iterM_le hn (Nat.le_max_left n m)
  have h2 := iterM_le hm (Nat.le_max_right n m)
  rw [h1] at h2
  exact h2.symm
theorem kY {σ ρ : Type} {step : σ → Option (Flow σ ρ)} {s : σ} {fl r : Flow σ ρ} (h : step s = some fl) (hr : match fl with | .next s'=>fD step s' = some r | .brk s'=>r = .next s' | .ret x=>r = .ret x) : fD step s = some r := by
 rw [whileM_iff]
 cases fl with
 | next s' =>
  obtain ⟨n,hn⟩ := whileM_iff.1 hr
  exact ⟨n + 1,by simp only [jj,h,hn]⟩
 | brk s'=>exact ⟨1,by simp only [jj,h,hr]⟩
 | ret x=>exact ⟨1,by simp only [jj,h,hr]⟩
theorem aE {α β : Type} {o : Option α} {k : α → Option β} {r : β} (h : ah o k = some r) : ∃ a,o = some a ∧ k a = some r := by
 cases o with
 | none=>cases h
 | some a=>exact ⟨a,rfl,h⟩
theorem db {α β : Type} {a : α} {k : α → β} {r : β} (h : bH a k = r) : ∃ x,a = x ∧ k x = r := ⟨a,rfl,h⟩
theorem condT {α : Type} {c : Bool} {A B r : α} (h : c = true) (H : cond c A B = r) : A = r := by subst h; exact H
theorem condF {α : Type} {c : Bool} {A B r : α} (h : c = false) (H : cond c A B = r) : B = r := by subst h; exact H
theorem aN {P : Program} {fn : Func} {R : PV → Heap → Prop} {k : List KI} {st : PState} {c : Operand} {x y : Code} {b : Bool} (hc : evS st.s c = .val (.bool b)) {α : Type} {A B r : α} (H : (bif b then A else B) = r) (ht : A = r → V P fn R (.code x :: k) st) (hf : B = r → V P fn R (.code y :: k) st) : V P fn R (.code (.cond c x y) :: k) st := aQ hc (fun h=>ht (Go.Ab.condT h H)) (fun h=>hf (Go.Ab.condF h H))
theorem bF {P : Program} {ops : Array Oper} {o : Oper} {rest : List Oper} {n : Nat} {s : Nat → PV} {bx : Nat → Option Box} {ob : Nat → Option Obj} {K : PState → Prop} {j : Nat} {want b : Bool} {d : Nat} (hg : o.guard = some (j,want)) (hd : (ops[j]?).bind (·.dst) = some d) (hs : s d = .val (.bool b)) {α : Type} {A B r : α} (H : cond b A B = r)
  (ht : A = r → Ao P ops (o :: rest) ⟨n,upd s d (.val (.bool true)),bx,ob⟩ K) (hf : B = r → Ao P ops (o :: rest) ⟨n,upd s d (.val (.bool false)),bx,ob⟩ K) : Ao P ops (o :: rest) ⟨n,s,bx,ob⟩ K := aZ hg hd hs (fun h=>ht (condT h H)) (fun h=>hf (condF h H))
theorem Do.sH {P : Program} {T : TT} {rb : RB} {ops : Array Oper} {o : Oper} {k : Nat} {L : List Nat} {n : Nat} {s : Nat → PV} {bx : Nat → Option Box} {ob : Nat → Option Obj} {K : PState → Prop} {j : Nat} {want b : Bool} {d : Nat} (ho : ops[k]? = some o) (hg : o.guard = some (j,want)) (hd : (ops[j]?).bind (·.dst) = some d) (hs : s d = .val (.bool b)) {α : Type} {A B r : α} (H : cond b A B = r)
  (ht : A = r → Do P T rb ops (k :: L) ⟨n,upd s d (.val (.bool true)),bx,ob⟩ K) (hf : B = r → Do P T rb ops (k :: L) ⟨n,upd s d (.val (.bool false)),bx,ob⟩ K) : Do P T rb ops (k :: L) ⟨n,s,bx,ob⟩ K := bA ho hg hd hs (fun h=>ht (condT h H)) (fun h=>hf (condF h H))
theorem mL {P : Program} {T : TT} {rb : RB} {ops : Array Oper} {o : Oper} {k : Nat} {L : List Nat} {n : Nat} {s : Nat → PV} {bx : Nat → Option Box} {ob : Nat → Option Obj} {K : PState → Prop} {j : Nat} {want b : Bool} {d : Nat} {α : Type} {A B r : α} (H : cond b A B = r) (ht : A = r → Do P T rb ops (k :: L) ⟨n,upd s d (.val (.bool true)),bx,ob⟩ K) (hf : B = r → Do P T rb ops (k :: L) ⟨n,upd s d (.val (.bool false)),bx,ob⟩ K) (ho : ops[k]? = some o := by exact rfl) (hg : o.guard = some (j,want) := by exact rfl) (hd : (ops[j]?).bind (·.dst) = some d := by exact rfl) (hs : s d = .val (.bool b) := by exact rfl) : Do P T rb ops (k :: L) ⟨n,s,bx,ob⟩ K := Do.sH ho hg hd hs H ht hf
theorem ra {σ τ ρ : Type} {r : ρ} {k : σ → Option (Flow τ ρ)} {x : Flow τ ρ} (h : Flow.thenF (.ret r) k = some x) : x = .ret r := (Option.some.inj h).symm
theorem bi {σ ρ : Type} {r x : ρ} {k : σ → Option ρ} (h : Flow.thenR (.ret r) k = some x) : r = x := Option.some.inj h
theorem aI {α : Type} {a b : α} (h : some a = some b) : a = b := Option.some.inj h
def mz {α σ ρ : Type} (step : Nat → α → σ → Option (Flow σ ρ)) (xs : List α) (j : Nat) (res : Flow σ ρ) : Flow σ ρ → Prop
 | .next s'=>aM step (j + 1) (xs.drop (j + 1)) s' = some res
 | .brk s'=>res = .next s'
 | .ret r=>res = .ret r
theorem rMc {α σ ρ : Type} {step : Nat → α → σ → Option (Flow σ ρ)} {xs : List α} {j : Nat} {s : σ} {res : Flow σ ρ} (hj : j < xs.length) (h : aM step j (xs.drop j) s = some res) :
  ∃ x fl,xs[j]? = some x ∧ step j x s = some fl ∧ mz step xs j res fl := by
 rw [List.drop_eq_getElem_cons hj,aM] at h
 refine ⟨xs[j],?_⟩
 split at h
 ·cases h
 ·rename_i s' hs; exact ⟨_,ze hj,hs,h⟩
 ·rename_i s' hs; exact ⟨_,ze hj,hs,(Option.some.inj h).symm⟩
 ·rename_i s' hs; exact ⟨_,ze hj,hs,(Option.some.inj h).symm⟩
theorem rMd {α σ ρ : Type} {step : Nat → α → σ → Option (Flow σ ρ)} {xs : List α} {j : Nat} {s : σ} {res : Flow σ ρ} (hj : xs.length ≤ j) (h : aM step j (xs.drop j) s = some res) : res = .next s := by
 rw [List.drop_eq_nil_of_le hj,aM] at h
 exact (Option.some.inj h).symm
def iterGo {σ ρ : Type} (step : σ → Option (Flow σ ρ)) (n : Nat) (res : Flow σ ρ) : Flow σ ρ → Prop
 | .next s'=>jj step n s' = some res
 | .brk s'=>res = .next s'
 | .ret r=>res = .ret r
theorem ft {σ ρ : Type} {step : σ → Option (Flow σ ρ)} {n : Nat} {s : σ} {res : Flow σ ρ} (h : jj step (n + 1) s = some res) : ∃ fl,step s = some fl ∧ iterGo step n res fl := by
 rw [jj] at h
 split at h
 ·cases h
 ·rename_i s' hs; exact ⟨_,hs,h⟩
 ·rename_i s' hs; exact ⟨_,hs,(Option.some.inj h).symm⟩
 ·rename_i s' hs; exact ⟨_,hs,(Option.some.inj h).symm⟩
section
variable {P : Program} {fn : Func} {R : PV → Heap → Prop} {k : List KI} {n : Nat} {s : Nat → PV} {bx : Nat → Option Box} {ob : Nat → Option Obj} {T : TT} {st : PState}
theorem fA {τ γ : Type} (J : τ → γ → PState) (Gd : τ → Prop) {c : Code} (h : V P fn R (.code c :: .stop (fun st'=>∃ t g,Gd t ∧ st' = J t g) :: k) st) (hk : ∀ t g,Gd t → V P fn R k (J t g)) :
  V P fn R (.code c :: k) st := by
 intro C M a w hi
 have := h C M a w hi
 simp only [after] at this ⊢
 refine wp_mono this ?_
 intro e a w he
 cases e with
 | normal =>
  obtain ⟨C',st',M',hrb,⟨t,g,hG,rfl⟩,hi'⟩ := he
  exact jv hrb (retP_conv hrb) k _ a w (hk t g hG C' M' a w hi')
 | _=>exact he
theorem bp {τ γ : Type} {J : τ → γ → PState} {Gd : τ → Prop} (t : τ) (g : γ) (hG : Gd t) (h : Gh P st (J t g)) : V P fn R (.stop (fun st'=>∃ t g,Gd t ∧ st' = J t g) :: k) st :=
 ce h (jL ⟨t,g,hG,rfl⟩)
theorem gS {τ γ β : Type} {x : Option τ} {f : τ → Option β} {r : β} (J : τ → γ → PState) {c : Code} (H : ah x f = some r) (h : ∀ u,x = some u → V P fn R (.code c :: .stop (fun st'=>∃ t g,t = u ∧ st' = J t g) :: k) st)
  (hk : ∀ t g,f t = some r → V P fn R k (J t g)) : V P fn R (.code c :: k) st := by
 obtain ⟨u,h1,h2⟩ := aE H
 exact fA J (fun t=>t = u) (h u h1) (fun t g e=>hk t g (e ▸ h2))
theorem gw {τ γ β : Type} {x : τ} {f : τ → β} {r : β} (J : τ → γ → PState) {c : Code} (H : bH x f = r) (h : ∀ u,x = u → V P fn R (.code c :: .stop (fun st'=>∃ t g,t = u ∧ st' = J t g) :: k) st)
  (hk : ∀ t g,f t = r → V P fn R k (J t g)) : V P fn R (.code c :: k) st := by
 obtain ⟨u,h1,h2⟩ := db H
 exact fA J (fun t=>t = u) (h u h1) (fun t g e=>hk t g (e ▸ h2))
theorem jz {α σ ρ γ : Type} {step : Nat → α → σ → Option (Flow σ ρ)} {xs : List α} {res : Flow σ ρ} (F : Nat → σ → γ → PState) {s₀ : σ} (g₀ : γ) {c : Code}
  (hres : aM step 0 xs s₀ = some res) (h₀ : Gh P st (F 0 s₀ g₀))
  (round : ∀ j s g,j ≤ xs.length → aM step j (xs.drop j) s = some res →
   V P fn R (.code c :: .stop (fun st'=>∃ s' g',(j + 1 ≤ xs.length ∧ aM step (j + 1) (xs.drop (j + 1)) s' = some res) ∧ st' = F (j + 1) s' g') :: k) (F j s g)) :
  V P fn R (.code (.loop c) :: k) st := by
 refine fm (X := Nat × σ × γ) (fun X=>F X.1 X.2.1 X.2.2) (fun X=>X.1 ≤ xs.length ∧ aM step X.1 (xs.drop X.1) X.2.1 = some res) (fun X=>xs.length - X.1) (0,s₀,g₀) ⟨Nat.zero_le _,by simpa using hres⟩ h₀ ?_
 rintro ⟨j,s,g⟩ ⟨h1,h2⟩
 refine sV (fun st' ⟨s',g',⟨h4,h5⟩,e⟩=>⟨(j + 1,s',g'),?_,⟨h4,h5⟩,e⟩) (round j s g h1 h2)
 show xs.length - (j + 1) < xs.length - j
 omega
theorem eg {σ γ : Type} {Q : σ → Prop} {F : σ → γ → PState} (s' : σ) (g' : γ) (hQ : Q s') (h : Gh P st (F s' g')) : V P fn R (.stop (fun st'=>∃ s' g',Q s' ∧ st' = F s' g') :: k) st :=
 ce h (jL ⟨s',g',hQ,rfl⟩)
theorem gM {σ ρ γ : Type} {step : σ → Option (Flow σ ρ)} {res : Flow σ ρ} (F : σ → γ → PState) {s₀ : σ} (g₀ : γ) {c : Code}
  (hres : fD step s₀ = some res) (h₀ : Gh P st (F s₀ g₀))
  (round : ∀ m s g,jj step (m + 1) s = some res → V P fn R (.code c :: .stop (fun st'=>∃ s' g',jj step m s' = some res ∧ st' = F s' g') :: k) (F s g)) :
  V P fn R (.code (.loop c) :: k) st := by
 obtain ⟨m,hm⟩ := whileM_iff.1 hres
 refine fm (X := Nat × σ × γ) (fun X=>F X.2.1 X.2.2) (fun X=>jj step X.1 X.2.1 = some res) (fun X=>X.1) (m,s₀,g₀) hm h₀ ?_
 rintro ⟨j,s,g⟩ h2
 cases j with
 | zero=>simp [jj] at h2
 | succ j =>
 exact sV (fun st' ⟨s',g',h5,e⟩=>⟨(j,s',g'),Nat.lt_succ_self j,h5,e⟩) (round j s g h2)
theorem Gh.refl (st : PState) : Gh P st st := fun _ M _ _ hi=>⟨M,hi⟩
theorem Gh.trans {a b c : PState} (h : Gh P a b) (h' : Gh P b c) : Gh P a c := fun C M x w hi =>
 let ⟨_,h1⟩ := h C M x w hi
 h' C _ x w h1
theorem Gh.cast (d : Nat) {p q : PV} (hs : s d = p) (h : PLe P p q) : Gh P ⟨n,s,bx,ob⟩ ⟨n,upd s d q,bx,ob⟩ := fun _ M _ _ hi =>
 ⟨M,⟨hi.1.1,hi.1.2.1,fun t=>by
  show Rep P M true (upd s d q t) _
  rw [cS]
  split
  ·rename_i e; subst e; have := hi.1.2.2 t; exact h M _ (hs ▸ this)
  ·exact hi.1.2.2 t⟩,hi.2⟩
theorem te (d : Nat) {p q : PV} (hs : s d = p) (h : PLe P p q) (hV : V P fn R k ⟨n,upd s d q,bx,ob⟩) : V P fn R k ⟨n,s,bx,ob⟩ := ce (Gh.cast d hs h) hV
end
section
variable {α : Type} {f f' : α → List PV}
theorem bD (hE : ∀ x,f' x = f x) {xs : List α} {j : Nat} {x : α} (h : xs[j]? = some x) : (xs.map f')[((j : Nat) : Int).toNat]? = some (f x) := by
 simp [h,hE]
theorem aX (hE : ∀ x,f' x = f x) {xs : List α} {i : Int} {x : α} (h : xs[i.toNat]? = some x) : (xs.map f')[i.toNat]? = some (f x) := by
 simp [h,hE]
theorem rowsLit (hE : ∀ x,f' x = f x) (xs : List α) : xs.map f = xs.map f' := by
 apply List.map_congr_left
 intro x _
 exact (hE x).symm
theorem qb {xs ys : List α} {a b : Nat} (h : ys = (xs.take b).drop a) : ((xs.map f).take b).drop a = ys.map f := by rw [h]; simp
theorem pI {xs : List α} {j : Nat} (h : decide ((j : Int) < ((xs.length : Nat) : Int)) = true) : j < xs.length := by simpa using h
theorem pw {xs : List α} {j : Nat} (h : decide ((j : Int) < ((xs.length : Nat) : Int)) = false) : xs.length ≤ j := by simpa using h
end
def aO {α : Type} (xs : List α) (i : Int) : Option α := if 0 ≤ i then xs[i.toNat]? else none
theorem gIs {α : Type} {xs : List α} {i : Int} {x : α} (h : aO xs i = some x) : 0 ≤ i ∧ xs[i.toNat]? = some x := by
 unfold aO at h
 split at h
 ·rename_i h0; exact ⟨h0,h⟩
 ·cases h
theorem bL {α β : Type} {xs : List α} {i : Int} {k : α → Option β} {r : β} (h : ah (aO xs i) k = some r) : ∃ a,(0 ≤ i ∧ xs[i.toNat]? = some a) ∧ k a = some r := by
 obtain ⟨a,h1,h2⟩ := aE h
 exact ⟨a,gIs h1,h2⟩
def nc {α : Type} (xs : List α) (a b : Int) : Option (List α) := if 0 ≤ a ∧ a ≤ b ∧ b ≤ xs.length then some ((xs.take b.toNat).drop a.toNat) else none
theorem oF {α : Type} {xs ys : List α} {a b : Int} (h : nc xs a b = some ys) : (0 ≤ a ∧ a ≤ b ∧ b ≤ xs.length) ∧ ys = (xs.take b.toNat).drop a.toNat := by
 unfold nc at h
 split at h
 ·rename_i h0; exact ⟨h0,(Option.some.inj h).symm⟩
 ·cases h
def dL {α : Type} (bytes : Nat) (xs ys : List α) : Option (List α) := if (xs.length + ys.length) * bytes ≤ 2 ^ 47 ∧ xs.length + ys.length ≤ maxLen then some (xs ++ ys) else none
theorem cV {α : Type} {bytes : Nat} {xs ys zs : List α} (h : dL bytes xs ys = some zs) : (xs.length + ys.length) * bytes ≤ 2 ^ 47 ∧ xs.length + ys.length ≤ maxLen ∧ zs = xs ++ ys := by
 unfold dL at h
 split at h
 ·rename_i h0; exact ⟨h0.1,h0.2,(Option.some.inj h).symm⟩
 ·cases h
theorem eu {α β : Type} {f : α → β} {bytes : Nat} {xs ys : List α} (h : (xs.length + ys.length) * bytes ≤ 2 ^ 47) : ((xs.map f).length + (ys.map f).length) * bytes ≤ 2 ^ 47 := by simpa using h
theorem er {α β : Type} {f : α → β} {xs ys : List α} (h : xs.length + ys.length ≤ maxLen) : (xs.map f).length + (ys.map f).length ≤ maxLen := by simpa using h
theorem eB {α β : Type} {f : α → β} {xs ys zs : List α} (h : zs = xs ++ ys) : xs.map f ++ ys.map f = zs.map f := by rw [h,List.map_append]
def Flow.thenP {σ β : Type} (fl : Flow σ Empty) (k : σ → Option β) : Option β := match fl with
 | .next s=>k s
 | .brk s=>k s
 | .ret r=>r.elim
theorem dC {σ β : Type} {fl : Flow σ Empty} {t : σ} {k : σ → Option β} {r : β} (h : fl = .next t) (H : fl.thenP k = some r) : k t = some r := by subst h; exact H
theorem qi {σ ρ : Type} {fl : Flow σ ρ} {t : σ} {k : σ → Option ρ} {r : ρ} (h : fl = .next t) (H : fl.thenR k = some r) : k t = some r := by subst h; exact H
theorem thenF_next {σ τ ρ : Type} {fl : Flow σ ρ} {t : σ} {k : σ → Option (Flow τ ρ)} {r : Flow τ ρ} (h : fl = .next t) (H : fl.thenF k = some r) : k t = some r := by subst h; exact H
section
variable {P : Program} {fn : Func} {R : PV → Heap → Prop} {k : List KI} {n : Nat} {s : Nat → PV} {bx : Nat → Option Box} {ob : Nat → Option Obj} {T : TT}
def nB {σ γ : Type} : σ → γ → Nat → Option Box := fun _ _ _=>none
def nO {σ γ : Type} : σ → γ → Nat → Option Obj := fun _ _ _=>none
theorem sN {α σ ρ γ β : Type} {step : Nat → α → σ → Option (Flow σ ρ)} {xs : List α} {s₀ : σ} {th : Flow σ ρ → Option β} {r : β} {rw : α → List PV}
  (hT : T.Ok P) (d : Nat) {e : TypeId} {ei : TInfo} (hei : T.get e = some ei) (hs : s d = .list e (xs.map rw))
  (S : σ → γ → Nat → PV) (B : σ → γ → Nat → Option Box) (O : σ → γ → Nat → Option Obj) (E : (Nat → PV) → Nat → σ → γ → Nat → PV) (g₀ : γ)
  {id rid : Nat} {ops : Array Oper} {o : Oper} {tst : Operand} {rest : Code} {S' : Nat → σ → γ → Nat → PV}
  (H : ah (aM step 0 xs s₀) th = some r)
  (h₀ : Gh P ⟨n,s,bx,ob⟩ ⟨n,E (S s₀ g₀) 0 s₀ g₀,B s₀ g₀,O s₀ g₀⟩)
  (ho : ops.toList = [o])
  (hq : ∀ j s g,ng T ops n (E (S s g) j s g) (B s g) o = some (S' j s g))
  (ht : ∀ j s g,evS (S' j s g) tst = .val (.bool (decide ((j : Int) < ((xs.length : Nat) : Int)))))
  (hx : ∀ j s g,Gh P ⟨n,S' j s g,B s g,O s g⟩ ⟨n,S s g,B s g,O s g⟩)
  (round : ∀ fl,th fl = some r → ∀ j s g,xs.length ≤ maxLen → j < xs.length → ∀ x fb,xs[j]? = some x → step j x s = some fb → mz step xs j fl fb →
   V P fn R (.code rest :: .stop (fun st'=>∃ s' g',(j + 1 ≤ xs.length ∧ aM step (j + 1) (xs.drop (j + 1)) s' = some fl) ∧ st' = ⟨n,E (S s' g') (j + 1) s' g',B s' g',O s' g'⟩) :: .blk id :: .stop (fun st'=>∃ t g,fl = .next t ∧ st' = ⟨n,S t g,B t g,O t g⟩) :: k) ⟨n,S' j s g,B s g,O s g⟩)
  (hk : ∀ t g,th (.next t) = some r → V P fn R k ⟨n,S t g,B t g,O t g⟩) :
  V P fn R (.code (.block id (.loop (.seq (.region rid ops false) (.seq (.cond tst .skip (.exit id)) rest)))) :: k) ⟨n,s,bx,ob⟩ := by
 refine eV hT d hei hs (fun hz _=>?_)
 rw [zl] at hz
 obtain ⟨fl,h1,h2⟩ := aE H
 refine fA (fun t g=>⟨n,S t g,B t g,O t g⟩) (fun t=>fl = .next t) ?_ (fun t g e=>hk t g (by subst e; exact h2))
 refine ap (jz (fun j s g=>⟨n,E (S s g) j s g,B s g,O s g⟩) g₀ h1 h₀ (fun j s g hj hr=>?_))
 refine ab (aa ?_)
 rw [ho]
 refine ak hT (hq j s g) (ac ?_)
 refine ab (aQ (ht j s g) (fun h=>?_) (fun h=>?_))
 ·have hl : j < xs.length := by simpa using h
  obtain ⟨x,fb,hx1,H,hg⟩ := rMc hl hr
  exact ao (round fl h2 j s g hz hl x fb hx1 H hg)
 ·have hn := rMd (by simpa using h) hr
  refine aD (k' := .stop (fun st'=>∃ t g,fl = .next t ∧ st' = ⟨n,S t g,B t g,O t g⟩) :: k) ?_ (bp s g hn (hx j s g))
  simp [mB,Nat.beq_refl]
theorem sO {α σ γ β : Type} {step : Nat → α → σ → Option (Flow σ Empty)} {xs : List α} {s₀ : σ} {kk : σ → Option (β)} {r : β} {rw : α → List PV}
  (hT : T.Ok P) (d : Nat) {e : TypeId} {ei : TInfo} (hei : T.get e = some ei) (hs : s d = .list e (xs.map rw))
  (S : σ → γ → Nat → PV) (B : σ → γ → Nat → Option Box) (O : σ → γ → Nat → Option Obj) (E : (Nat → PV) → Nat → σ → γ → Nat → PV) (g₀ : γ)
  {id rid : Nat} {ops : Array Oper} {o : Oper} {tst : Operand} {rest : Code} {S' : Nat → σ → γ → Nat → PV}
  (H : ah (aM step 0 xs s₀) (fun fl=>fl.thenP kk) = some r)
  (ho : ops.toList = [o])
  (h₀ : Gh P ⟨n,s,bx,ob⟩ ⟨n,E (S s₀ g₀) 0 s₀ g₀,B s₀ g₀,O s₀ g₀⟩)
  (hq : ∀ j s g,ng T ops n (E (S s g) j s g) (B s g) o = some (S' j s g))
  (ht : ∀ j s g,evS (S' j s g) tst = .val (.bool (decide ((j : Int) < ((xs.length : Nat) : Int)))))
  (hx : ∀ j s g,Gh P ⟨n,S' j s g,B s g,O s g⟩ ⟨n,S s g,B s g,O s g⟩)
  (round : ∀ fl,fl.thenP kk = some r → ∀ j s g,xs.length ≤ maxLen → j < xs.length → ∀ x fb,xs[j]? = some x → step j x s = some fb → mz step xs j fl fb →
   V P fn R (.code rest :: .stop (fun st'=>∃ s' g',(j + 1 ≤ xs.length ∧ aM step (j + 1) (xs.drop (j + 1)) s' = some fl) ∧ st' = ⟨n,E (S s' g') (j + 1) s' g',B s' g',O s' g'⟩) :: .blk id :: .stop (fun st'=>∃ t g,fl = .next t ∧ st' = ⟨n,S t g,B t g,O t g⟩) :: k) ⟨n,S' j s g,B s g,O s g⟩)
  (hk : ∀ t g,kk t = some r → V P fn R k ⟨n,S t g,B t g,O t g⟩) :
  V P fn R (.code (.block id (.loop (.seq (.region rid ops false) (.seq (.cond tst .skip (.exit id)) rest)))) :: k) ⟨n,s,bx,ob⟩ :=
 sN hT d hei hs S B O E g₀ H h₀ ho hq ht hx round (fun t g e=>hk t g e)
theorem tA {α σ γ β : Type} {step : Nat → α → σ → Option (Flow σ β)} {xs : List α} {s₀ : σ} {kk : σ → Option (β)} {r : β} {rw : α → List PV}
  (hT : T.Ok P) (d : Nat) {e : TypeId} {ei : TInfo} (hei : T.get e = some ei) (hs : s d = .list e (xs.map rw))
  (S : σ → γ → Nat → PV) (B : σ → γ → Nat → Option Box) (O : σ → γ → Nat → Option Obj) (E : (Nat → PV) → Nat → σ → γ → Nat → PV) (g₀ : γ)
  {id rid : Nat} {ops : Array Oper} {o : Oper} {tst : Operand} {rest : Code} {S' : Nat → σ → γ → Nat → PV}
  (H : ah (aM step 0 xs s₀) (fun fl=>fl.thenR kk) = some r)
  (ho : ops.toList = [o])
  (h₀ : Gh P ⟨n,s,bx,ob⟩ ⟨n,E (S s₀ g₀) 0 s₀ g₀,B s₀ g₀,O s₀ g₀⟩)
  (hq : ∀ j s g,ng T ops n (E (S s g) j s g) (B s g) o = some (S' j s g))
  (ht : ∀ j s g,evS (S' j s g) tst = .val (.bool (decide ((j : Int) < ((xs.length : Nat) : Int)))))
  (hx : ∀ j s g,Gh P ⟨n,S' j s g,B s g,O s g⟩ ⟨n,S s g,B s g,O s g⟩)
  (round : ∀ fl,fl.thenR kk = some r → ∀ j s g,xs.length ≤ maxLen → j < xs.length → ∀ x fb,xs[j]? = some x → step j x s = some fb → mz step xs j fl fb →
   V P fn R (.code rest :: .stop (fun st'=>∃ s' g',(j + 1 ≤ xs.length ∧ aM step (j + 1) (xs.drop (j + 1)) s' = some fl) ∧ st' = ⟨n,E (S s' g') (j + 1) s' g',B s' g',O s' g'⟩) :: .blk id :: .stop (fun st'=>∃ t g,fl = .next t ∧ st' = ⟨n,S t g,B t g,O t g⟩) :: k) ⟨n,S' j s g,B s g,O s g⟩)
  (hk : ∀ t g,kk t = some r → V P fn R k ⟨n,S t g,B t g,O t g⟩) :
  V P fn R (.code (.block id (.loop (.seq (.region rid ops false) (.seq (.cond tst .skip (.exit id)) rest)))) :: k) ⟨n,s,bx,ob⟩ :=
 sN hT d hei hs S B O E g₀ H h₀ ho hq ht hx round (fun t g e=>hk t g e)
def eL {α : Type} (i m d : Nat) (ety : TypeId) (xs : List α) (rw : α → List PV) (e : Nat → PV) (j : Nat) : Nat → PV := upd (upd (upd e i (.val (.int .i64 (j : Int)))) m (.val (.int .i64 (xs.length : Int)))) d (.list ety (xs.map rw))
theorem iv {α σ γ β : Type} {step : Nat → α → σ → Option (Flow σ Empty)} {xs : List α} {s₀ : σ} {kk : σ → Option (β)} {r : β} {rw : α → List PV}
  (hT : T.Ok P) (i m d : Nat) {e : TypeId} {ei : TInfo}
  (S : σ → γ → Nat → PV) (B : σ → γ → Nat → Option Box) (O : σ → γ → Nat → Option Obj) (g₀ : γ)
  {id rid : Nat} {ops : Array Oper} {o : Oper} {tst : Operand} {rest : Code} {S' : Nat → σ → γ → Nat → PV}
  (H : ah (aM step 0 xs s₀) (fun fl=>fl.thenP kk) = some r)
  (round : ∀ fl,fl.thenP kk = some r → ∀ j s g,xs.length ≤ maxLen → j < xs.length → ∀ x fb,xs[j]? = some x → step j x s = some fb → mz step xs j fl fb →
   V P fn R (.code rest :: .stop (fun st'=>∃ s' g',(j + 1 ≤ xs.length ∧ aM step (j + 1) (xs.drop (j + 1)) s' = some fl) ∧ st' = ⟨n,eL i m d e xs rw (S s' g') (j + 1),B s' g',O s' g'⟩) :: .blk id :: .stop (fun st'=>∃ t g,fl = .next t ∧ st' = ⟨n,S t g,B t g,O t g⟩) :: k) ⟨n,S' j s g,B s g,O s g⟩)
  (hk : ∀ t g,kk t = some r → V P fn R k ⟨n,S t g,B t g,O t g⟩)
  (hs : s d = .list e (xs.map rw) := by exact rfl) (hei : T.get e = some ei := by exact rfl) (ho : ops.toList = [o] := by exact rfl)
  (h₀ : Gh P ⟨n,s,bx,ob⟩ ⟨n,eL i m d e xs rw (S s₀ g₀) 0,B s₀ g₀,O s₀ g₀⟩ := by exact Gh.d)
  (hq : ∀ j s g,ng T ops n (eL i m d e xs rw (S s g) j) (B s g) o = some (S' j s g) := by exact fun _ _ _=>rfl)
  (ht : ∀ j s g,evS (S' j s g) tst = .val (.bool (decide ((j : Int) < ((xs.length : Nat) : Int)))) := by exact fun _ _ _=>rfl)
  (hx : ∀ j s g,Gh P ⟨n,S' j s g,B s g,O s g⟩ ⟨n,S s g,B s g,O s g⟩ := by exact fun _ _ _=>Gh.d) :
  V P fn R (.code (.block id (.loop (.seq (.region rid ops false) (.seq (.cond tst .skip (.exit id)) rest)))) :: k) ⟨n,s,bx,ob⟩ :=
 sO hT d hei hs S B O (fun e j _ _=>eL i m d _ xs rw e j) g₀ H ho h₀ hq ht hx round hk
theorem fC {α σ γ β : Type} {step : Nat → α → σ → Option (Flow σ β)} {xs : List α} {s₀ : σ} {kk : σ → Option (β)} {r : β} {rw : α → List PV}
  (hT : T.Ok P) (i m d : Nat) {e : TypeId} {ei : TInfo}
  (S : σ → γ → Nat → PV) (B : σ → γ → Nat → Option Box) (O : σ → γ → Nat → Option Obj) (g₀ : γ)
  {id rid : Nat} {ops : Array Oper} {o : Oper} {tst : Operand} {rest : Code} {S' : Nat → σ → γ → Nat → PV}
  (H : ah (aM step 0 xs s₀) (fun fl=>fl.thenR kk) = some r)
  (round : ∀ fl,fl.thenR kk = some r → ∀ j s g,xs.length ≤ maxLen → j < xs.length → ∀ x fb,xs[j]? = some x → step j x s = some fb → mz step xs j fl fb →
   V P fn R (.code rest :: .stop (fun st'=>∃ s' g',(j + 1 ≤ xs.length ∧ aM step (j + 1) (xs.drop (j + 1)) s' = some fl) ∧ st' = ⟨n,eL i m d e xs rw (S s' g') (j + 1),B s' g',O s' g'⟩) :: .blk id :: .stop (fun st'=>∃ t g,fl = .next t ∧ st' = ⟨n,S t g,B t g,O t g⟩) :: k) ⟨n,S' j s g,B s g,O s g⟩)
  (hk : ∀ t g,kk t = some r → V P fn R k ⟨n,S t g,B t g,O t g⟩)
  (hs : s d = .list e (xs.map rw) := by exact rfl) (hei : T.get e = some ei := by exact rfl) (ho : ops.toList = [o] := by exact rfl)
  (h₀ : Gh P ⟨n,s,bx,ob⟩ ⟨n,eL i m d e xs rw (S s₀ g₀) 0,B s₀ g₀,O s₀ g₀⟩ := by exact Gh.d)
  (hq : ∀ j s g,ng T ops n (eL i m d e xs rw (S s g) j) (B s g) o = some (S' j s g) := by exact fun _ _ _=>rfl)
  (ht : ∀ j s g,evS (S' j s g) tst = .val (.bool (decide ((j : Int) < ((xs.length : Nat) : Int)))) := by exact fun _ _ _=>rfl)
  (hx : ∀ j s g,Gh P ⟨n,S' j s g,B s g,O s g⟩ ⟨n,S s g,B s g,O s g⟩ := by exact fun _ _ _=>Gh.d) :
  V P fn R (.code (.block id (.loop (.seq (.region rid ops false) (.seq (.cond tst .skip (.exit id)) rest)))) :: k) ⟨n,s,bx,ob⟩ :=
 tA hT d hei hs S B O (fun e j _ _=>eL i m d _ xs rw e j) g₀ H ho h₀ hq ht hx round hk
end
def resT (s : Nat → PV) : List ResultVar → Option (List PV)
 | []=>some []
 | .tmp t :: l=>match resT s l with | some ps=>some (s t :: ps) | none=>none
 | .cell _ _ :: _=>none
section
variable {P : Program} {fn : Func} {R : PV → Heap → Prop} {k : List KI} {n : Nat} {s : Nat → PV} {bx : Nat → Option Box} {ob : Nat → Option Obj} {T : TT} {st : PState}
theorem resT_all : ∀ {l : List ResultVar} {ps : List PV},resT s l = some ps → lb T ⟨n,s,bx,ob⟩ l ps
 | [],ps,h=>by simp only [resT,zo] at h; exact h.symm
 | .tmp t :: l,ps,h=>by
  simp only [resT] at h
  split at h
  ·rename_i qs hq; cases h; exact ⟨_,_,rfl,rfl,resT_all hq⟩
  ·cases h
 | .cell _ _ :: _,ps,h=>by simp [resT] at h
theorem el {α : Type} {x y : α} {ps : List PV} {r : PV} (hT : T.Ok P) (H : x = y) (h : resT s fn.results.toList = some ps) (he : x = y → lP ps = r := by intro e; subst e; rfl) :
  V P fn (fun u H=>u = r ∧ H = Heap.empty) (.code .ret :: k) ⟨n,s,bx,ob⟩ := bw hT rfl (resT_all h) (PLe.q (he H))
theorem bu {α : Type} {x y : α} {ps : List PV} {r : PV} (hT : T.Ok P) (H : some x = some y) (h : resT s fn.results.toList = some ps) (he : x = y → lP ps = r := by intro e; subst e; rfl) :
  V P fn (fun u H=>u = r ∧ H = Heap.empty) (.code .ret :: k) ⟨n,s,bx,ob⟩ := el hT (aI H) h he
theorem sz {α : Type} {x y : α} {r p : PV} {a t tag b off : Nat} {ti : TInfo} {cells : List PV} (hT : T.Ok P) (H : x = y) (hr : fn.results = #[.cell a t]) (hti : T.get t = some ti) (hs : s a = .box tag b off) (hb : bx tag = some ⟨b,cells⟩) (hc : ep ti off cells = some p) (he : x = y → p = r := by intro e; subst e; rfl) :
  V P fn (fun u H=>u = r ∧ H = Heap.empty) (.code .ret :: k) ⟨n,s,bx,ob⟩ := bw hT hr (ps := [p]) ⟨_,_,rfl,⟨_,_,_,_,_,hti,hs,hb,hc⟩,rfl⟩ (PLe.q (he H))
theorem sF {α : Type} {x y : α} {r p : PV} {a t tag b off : Nat} {ti : TInfo} {cells : List PV} (hT : T.Ok P) (H : some x = some y) (hr : fn.results = #[.cell a t]) (hti : T.get t = some ti) (hs : s a = .box tag b off) (hb : bx tag = some ⟨b,cells⟩) (hc : ep ti off cells = some p) (he : x = y → p = r := by intro e; subst e; rfl) :
  V P fn (fun u H=>u = r ∧ H = Heap.empty) (.code .ret :: k) ⟨n,s,bx,ob⟩ := sz hT (aI H) hr hti hs hb hc he
theorem bG {α σ ρ γ : Type} {step : Nat → α → σ → Option (Flow σ ρ)} {xs : List α} {j : Nat} {res fb : Flow σ ρ} {v : σ} {F : σ → γ → PState} (g' : γ) (H : some (Flow.next v) = some fb) (hl : j < xs.length) (hg : mz step xs j res fb) (h : Gh P st (F v g') := by exact Gh.d) :
  V P fn R (.stop (fun st'=>∃ s' g',(j + 1 ≤ xs.length ∧ aM step (j + 1) (xs.drop (j + 1)) s' = some res) ∧ st' = F s' g') :: k) st := by
 cases H
 exact eg v g' ⟨hl,hg⟩ h
end
def nS (n : Int) : Option Nat := if n ≤ 2 ^ 62 then some n.toNat else none
theorem oX {n : Int} {m : Nat} (h : nS n = some m) : n ≤ 2 ^ 62 ∧ m = n.toNat := by
 unfold nS at h
 split at h
 ·rename_i h0; exact ⟨h0,(Option.some.inj h).symm⟩
 ·cases h
section
variable {P : Program} {ops : Array Oper} {rest : List Oper} {o : Oper} {n : Nat} {s s' : Nat → PV} {bx : Nat → Option Box} {ob : Nat → Option Obj} {K : PState → Prop} {T : TT} {rb : RB} {k : Nat} {L : List Nat}
theorem lC (d : Nat) {p q : PV} (hs : s d = p) (h : PLe P p q) (hV : Ao P ops rest ⟨n,upd s d q,bx,ob⟩ K) : Ao P ops rest ⟨n,s,bx,ob⟩ K := dM (Gh.cast d hs h) hV
theorem Ao.lenL (hT : T.Ok P) (hg : aS ops s o = some true) {x : Operand} {t : TypeId} {ts : List TypeId} (ho : o.op = .call { callee := .builtin .len,args := #[x],argTypes := (t :: ts).toArray }) {ti : TInfo} {e' : TypeId} (hti : T.get t = some ti) (hd : ti.desc = .slice e')
  {e : TypeId} {rows : List (List PV)} (hx : evS s x = .list e rows) {m : Nat} (hm : rows.length = m) (hp : putD n s o.dst (.val (.int .i64 m)) = some s') (h : Ao P ops rest ⟨n,s',bx,ob⟩ K) : Ao P ops (o :: rest) ⟨n,s,bx,ob⟩ K := by
 refine mO hT hg (r := .val (.int .i64 m)) ?_ hp h
 rw [ho]
 simp [iE,oa,hti,hd,hx,lenPV,hm]
theorem aG {x : Operand} {t : TypeId} {ts : List TypeId} {ti : TInfo} {e' : TypeId} {e : TypeId} {rows : List (List PV)} {m : Nat} (hT : T.Ok P) (hm : rows.length = m) (h : Ao P ops rest ⟨n,s',bx,ob⟩ K) (hg : aS ops s o = some true := by exact rfl) (ho : o.op = .call { callee := .builtin .len,args := #[x],argTypes := (t :: ts).toArray } := by exact rfl) (hti : T.get t = some ti := by exact rfl) (hd : ti.desc = .slice e' := by exact rfl) (hx : evS s x = .list e rows := by exact rfl) (hp : putD n s o.dst (.val (.int .i64 m)) = some s' := by exact rfl) : Ao P ops (o :: rest) ⟨n,s,bx,ob⟩ K := Ao.lenL hT hg ho hti hd hx hm hp h
theorem Ao.lenO (hT : T.Ok P) (hg : aS ops s o = some true) {x : Operand} {t : TypeId} {ts : List TypeId} (ho : o.op = .call { callee := .builtin .len,args := #[x],argTypes := (t :: ts).toArray }) {ti : TInfo} {e' : TypeId} (hti : T.get t = some ti) (hd : ti.desc = .slice e')
  {tg l : Nat} {g : OwnRef} (hx : evS s x = .own tg g l) {m : Nat} (hm : l = m) (hp : putD n s o.dst (.val (.int .i64 m)) = some s') (h : Ao P ops rest ⟨n,s',bx,ob⟩ K) : Ao P ops (o :: rest) ⟨n,s,bx,ob⟩ K := by
 refine mO hT hg (r := .val (.int .i64 m)) ?_ hp h
 rw [ho]
 simp [iE,oa,hti,hd,hx,lenPV,hm]
theorem gO {x : Operand} {t : TypeId} {ts : List TypeId} {ti : TInfo} {e' : TypeId} {tg l : Nat} {g : OwnRef} {m : Nat} (hT : T.Ok P) (hm : l = m) (h : Ao P ops rest ⟨n,s',bx,ob⟩ K) (hg : aS ops s o = some true := by exact rfl) (ho : o.op = .call { callee := .builtin .len,args := #[x],argTypes := (t :: ts).toArray } := by exact rfl) (hti : T.get t = some ti := by exact rfl) (hd : ti.desc = .slice e' := by exact rfl) (hx : evS s x = .own tg g l := by exact rfl) (hp : putD n s o.dst (.val (.int .i64 m)) = some s' := by exact rfl) : Ao P ops (o :: rest) ⟨n,s,bx,ob⟩ K := Ao.lenO hT hg ho hti hd hx hm hp h
theorem sR (ho : ops[k]? = some o) (hg : aS ops s o = some true) {x : Operand} {t : TypeId} {ts : List TypeId} (hop : o.op = .call { callee := .builtin .len,args := #[x],argTypes := (t :: ts).toArray }) {ti : TInfo} {e' : TypeId} (hti : T.get t = some ti) (hd : ti.desc = .slice e')
  {e : TypeId} {rows : List (List PV)} (hx : evS s x = .list e rows) {m : Nat} (hm : rows.length = m) (hp : putD n s o.dst (.val (.int .i64 m)) = some s') (h : Do P T rb ops L ⟨n,s',bx,ob⟩ K) : Do P T rb ops (k :: L) ⟨n,s,bx,ob⟩ K := by
 refine ss ho hg (by rw [hop]; rfl) (r := .val (.int .i64 m)) ?_ hp h
 rw [hop]
 simp [ii,iE,oa,hti,hd,hx,lenPV,hm]
theorem sC (hT : T.Ok P) (hg : aS ops s o = some true) {t : TypeId} {x : Operand} {lo hi : Option Operand} (ho : o.op = .slice t x lo hi none) {ti : TInfo} {e : TypeId} (hti : T.get t = some ti) (hd : ti.desc = .slice e)
  {rows : List (List PV)} (hx : evS s x = .list e rows) {m : Nat} (hm : rows.length = m) {a b : Int} (ha : ky (lo.map (evS s)) 0 = some a) (hb : ky (hi.map (evS s)) m = some b) (hab : 0 ≤ a ∧ a ≤ b ∧ b ≤ m)
  {rows' : List (List PV)} (hr : (rows.take b.toNat).drop a.toNat = rows') (hp : putD n s o.dst (.list e rows') = some s') (h : Ao P ops rest ⟨n,s',bx,ob⟩ K) : Ao P ops (o :: rest) ⟨n,s,bx,ob⟩ K := by
 subst hm
 refine mO hT hg (r := .list e rows') ?_ hp h
 rw [ho]
 simp only [iE,hti,hd,hx,pt,Nat.beq_refl,zc,ha,hb]
 rw [zp hab,hr]
theorem Do.subL (ho : ops[k]? = some o) (hg : aS ops s o = some true) {t : TypeId} {x : Operand} {lo hi : Option Operand} (hop : o.op = .slice t x lo hi none) {ti : TInfo} {e : TypeId} (hti : T.get t = some ti) (hd : ti.desc = .slice e)
  {rows : List (List PV)} (hx : evS s x = .list e rows) {m : Nat} (hm : rows.length = m) {a b : Int} (ha : ky (lo.map (evS s)) 0 = some a) (hb : ky (hi.map (evS s)) m = some b) (hab : 0 ≤ a ∧ a ≤ b ∧ b ≤ m)
  {rows' : List (List PV)} (hr : (rows.take b.toNat).drop a.toNat = rows') (hp : putD n s o.dst (.list e rows') = some s') (h : Do P T rb ops L ⟨n,s',bx,ob⟩ K) : Do P T rb ops (k :: L) ⟨n,s,bx,ob⟩ K := by
 subst hm
 refine ss ho hg (by rw [hop]; rfl) (r := .list e rows') ?_ hp h
 rw [hop]
 simp only [ii,iE,hti,hd,hx,pt,Nat.beq_refl,zc,ha,hb]
 rw [zp hab,hr]
theorem Rep.rowsLe {M : Mem} {b : Bool} {e : TypeId} {rows rows' : List (List PV)} (h : je P rows rows') {x : Value} (hx : Rep P M b (.list e rows) x) : Rep P M b (.list e rows') x := PLe2.list h M b x hx
theorem rZ (hT : T.Ok P) {o : Oper} {ev : Operand → PV} {H : Heap} {x y : Operand} {t : TypeId} (ho : o.op = .call { callee := .builtin .append,args := #[x,y],argTypes := #[t,t] }) {ti ei : TInfo} {e : TypeId} (hti : T.get t = some ti) (hd : ti.desc = .slice e) (hei : T.get e = some ei)
  (hz : Nat.beq ei.zero.cells.size ei.size = true) (hsz : Nat.blt 0 ei.size = true) {tag : Nat} {g : OwnRef} {len : Nat} {rows rows2 rows2' rows' : List (List PV)} {wr : Bool} (hx : ev x = .own tag g len) (hob : H.ob tag = some ⟨g,e,rows,wr⟩) (hlen : len = rows.length) (hy : ev y = .list e rows2)
  (hle : je P rows2 rows2') (hby : (rows.length + rows2'.length) * ei.bytes ≤ 2 ^ 47) (hmx : rows.length + rows2'.length ≤ maxLen) (heq : rows ++ rows2' = rows') {K : PV → Heap → Prop} (hk : ∀ g',K (.own tag g' rows'.length) ⟨H.bx,upd H.ob tag (some ⟨g',e,rows',wr⟩)⟩) : Eff P o ev H K := by
 subst heq
 classical
 have hxy : x ≠ y := fun e=>by subst e; rw [hx] at hy; cases hy
 intro C M a w next Q hi he hn
 have key := rU (P := P) (o := o) (ev := fun z=>if z = y then PV.list e rows2' else ev z) (H := H) hT ho hti hd hei hz hsz (rows2 := rows2') (by simp [hxy,hx]) hob hlen (by simp) hby hmx (K := K) hk
 refine key C M a w next Q hi (fun z hz=>?_) hn
 by_cases hzy : z = y
 ·subst hzy
  simp only [if_true]
  have := he z hz
  rw [hy] at this
  exact Rep.rowsLe hle this
 ·simp only [hzy,if_false]
  exact he z hz
theorem cy (hT : T.Ok P) (hg : aS ops s o = some true) {x y : Operand} {t : TypeId} (ho : o.op = .call { callee := .builtin .append,args := #[x,y],argTypes := #[t,t] }) {d : Nat} (hdst : o.dst = some d) (hlt : Nat.blt d n = true) {ti ei : TInfo} {e : TypeId} (hti : T.get t = some ti) (hd : ti.desc = .slice e) (hei : T.get e = some ei)
  (hz : Nat.beq ei.zero.cells.size ei.size = true) (hsz : Nat.blt 0 ei.size = true) {tag : Nat} {g : OwnRef} {len : Nat} {rows rows2 rows2' rows' : List (List PV)} {wr : Bool} (hx : evS s x = .own tag g len) (hob : ob tag = some ⟨g,e,rows,wr⟩) (hlen : len = rows.length) (hy : evS s y = .list e rows2)
  (hle : je P rows2 rows2') (hby : (rows.length + rows2'.length) * ei.bytes ≤ 2 ^ 47) (hmx : rows.length + rows2'.length ≤ maxLen) (heq : rows ++ rows2' = rows') (h : ∀ g',Ao P ops rest ⟨n,upd s d (.own tag g' rows'.length),bx,upd ob tag (some ⟨g',e,rows',wr⟩)⟩ K) : Ao P ops (o :: rest) ⟨n,s,bx,ob⟩ K :=
 ek hg (rZ hT ho hti hd hei hz hsz hx hob hlen hy hle hby hmx heq fun g'=>⟨_,by simp [hdst,putD,hlt],h g'⟩)
theorem Ao.appendCQ {x y : Operand} {t : TypeId} {d : Nat} {ti ei : TInfo} {e : TypeId} {tag : Nat} {g : OwnRef} {len : Nat} {rows rows2 rows2' rows' : List (List PV)} {wr : Bool} (hT : T.Ok P) (hle : je P rows2 rows2') (hby : (rows.length + rows2'.length) * ei.bytes ≤ 2 ^ 47) (hmx : rows.length + rows2'.length ≤ maxLen) (heq : rows ++ rows2' = rows') (h : ∀ g',Ao P ops rest ⟨n,upd s d (.own tag g' rows'.length),bx,upd ob tag (some ⟨g',e,rows',wr⟩)⟩ K) (hg : aS ops s o = some true := by exact rfl) (ho : o.op = .call { callee := .builtin .append,args := #[x,y],argTypes := #[t,t] } := by exact rfl) (hdst : o.dst = some d := by exact rfl) (hlt : Nat.blt d n = true := by exact rfl) (hti : T.get t = some ti := by exact rfl) (hd : ti.desc = .slice e := by exact rfl) (hei : T.get e = some ei := by exact rfl) (hz : Nat.beq ei.zero.cells.size ei.size = true := by exact rfl) (hsz : Nat.blt 0 ei.size = true := by exact rfl) (hx : evS s x = .own tag g len := by exact rfl) (hob : ob tag = some ⟨g,e,rows,wr⟩ := by exact rfl) (hlen : len = rows.length := by exact rfl) (hy : evS s y = .list e rows2 := by exact rfl) : Ao P ops (o :: rest) ⟨n,s,bx,ob⟩ K := cy hT hg ho hdst hlt hti hd hei hz hsz hx hob hlen hy hle hby hmx heq h
theorem kR (hT : T.Ok P) (ho : ops[k]? = some o) (hg : aS ops s o = some true) {x y : Operand} {t : TypeId} (hop : o.op = .call { callee := .builtin .append,args := #[x,y],argTypes := #[t,t] }) {d : Nat} (hdst : o.dst = some d) (hlt : Nat.blt d n = true) {ti ei : TInfo} {e : TypeId} (hti : T.get t = some ti) (hd : ti.desc = .slice e) (hei : T.get e = some ei)
  (hz : Nat.beq ei.zero.cells.size ei.size = true) (hsz : Nat.blt 0 ei.size = true) {tag : Nat} {g : OwnRef} {len : Nat} {rows rows2 rows2' rows' : List (List PV)} {wr : Bool} (hx : evS s x = .own tag g len) (hob : ob tag = some ⟨g,e,rows,wr⟩) (hlen : len = rows.length) (hy : evS s y = .list e rows2)
  (hle : je P rows2 rows2') (hby : (rows.length + rows2'.length) * ei.bytes ≤ 2 ^ 47) (hmx : rows.length + rows2'.length ≤ maxLen) (heq : rows ++ rows2' = rows') (h : ∀ g',Do P T rb ops L ⟨n,upd s d (.own tag g' rows'.length),bx,upd ob tag (some ⟨g',e,rows',wr⟩)⟩ K) : Do P T rb ops (k :: L) ⟨n,s,bx,ob⟩ K := by
 refine ⟨o,ho,true,hg,?_⟩
 simp only [if_true,hop,dw]
 exact .inr fun bx'=>rZ hT hop hti hd hei hz hsz hx hob hlen hy hle hby hmx heq fun g'=>⟨rfl,fun hx=>by simp [nC] at hx,_,by simp [hdst,putD,hlt],h g'⟩
theorem ta (hT : T.Ok P) (hg : aS ops s o = some true) {t e : TypeId} {m : Nat} {ps : Array (Nat × Operand)} (ho : o.op = .buildSlice t m ps) {ti : TInfo} (hti : T.get t = some ti) (hd : ti.desc = .slice e) {rows rows' : List (List PV)}
  (hr : jM T e m (fT (evS s) ps) = some rows) (hle : je P rows rows') {d : Nat} (hdst : o.dst = some d) (hlt : Nat.blt d n = true) (h : Ao P ops rest ⟨n,upd s d (.list e rows'),bx,ob⟩ K) : Ao P ops (o :: rest) ⟨n,s,bx,ob⟩ K := by
 refine tr hT hg ho hti hd hr (s' := upd s d (.list e rows)) (by simp [hdst,putD,hlt]) (lC d (fo _ _ _) (PLe.of2 (PLe2.list hle)) ?_)
 have : upd (upd s d (PV.list e rows)) d (.list e rows') = upd s d (.list e rows') := by
  funext t
  simp only [cS]
  split <;> rfl
 rw [this]
 exact h
theorem cz {t e : TypeId} {m : Nat} {ps : Array (Nat × Operand)} {ti : TInfo} {rows rows' : List (List PV)} {d : Nat} (hT : T.Ok P) (hle : je P rows rows') (h : Ao P ops rest ⟨n,upd s d (.list e rows'),bx,ob⟩ K) (hg : aS ops s o = some true := by exact rfl) (ho : o.op = .buildSlice t m ps := by exact rfl) (hti : T.get t = some ti := by exact rfl) (hd : ti.desc = .slice e := by exact rfl) (hr : jM T e m (fT (evS s) ps) = some rows := by exact rfl) (hdst : o.dst = some d := by exact rfl) (hlt : Nat.blt d n = true := by exact rfl) : Ao P ops (o :: rest) ⟨n,s,bx,ob⟩ K := ta hT hg ho hti hd hr hle hdst hlt h
end
section
variable {P : Program} {fn : Func} {R : PV → Heap → Prop} {ks : List KI} {n : Nat} {s : Nat → PV} {bx : Nat → Option Box} {ob : Nat → Option Obj} {T : TT}
end
section
variable {P : Program} {C : Ctx} {M : Mem} {H : Heap} {w : World}
theorem InvH.reobj (h : InvH P C M H w) {tag : Nat} {g : OwnRef} {e : TypeId} {rows rows' : List (List PV)} {wr : Bool} (hx : H.ob tag = some ⟨g,e,rows,wr⟩) (hl : rows'.map List.length = rows.map List.length) (hle : iB P rows.flatten rows'.flatten) :
  InvH P C M ⟨H.bx,upd H.ob tag (some ⟨g,e,rows',wr⟩)⟩ w := by
 have hlen : rows'.length = rows.length := by simpa using congrArg List.length hl
 have key : ∀ t y,upd H.ob tag (some ⟨g,e,rows',wr⟩) t = some y → (t = tag ∧ y = ⟨g,e,rows',wr⟩) ∨ H.ob t = some y := by
  intro t y hy
  rw [cS] at hy
  split at hy
  ·rename_i e; exact .inl ⟨e,(Option.some.inj hy).symm⟩
  ·exact .inr hy
 have same : ∀ t y,upd H.ob tag (some ⟨g,e,rows',wr⟩) t = some y → ∃ z,H.ob t = some z ∧ z.g = y.g := by
  intro t y hy
  rcases key t y hy with ⟨rfl,rfl⟩ | hy
  ·exact ⟨_,hx,rfl⟩
  ·exact ⟨y,hy,rfl⟩
 refine ⟨h.mem,h.ext,h.new,h.os,h.tape,h.output,h.size,h.frame,h.boxes,?_,h.dbox,?_,?_⟩
 ·intro t y hy
  rcases key t y hy with ⟨rfl,rfl⟩ | hy
  ·obtain ⟨i,h1,h2,h3,h4⟩ := h.objs _ _ hx
   simp only at h1 h2 h3 h4
   refine ⟨i,h1,?_,?_,?_⟩
   ·simpa only [hlen] using h2
   ·intro r hr
    have : r.length ∈ rows'.map List.length := List.mem_map.2 ⟨r,hr,rfl⟩
    rw [hl] at this
    obtain ⟨q,hq,e1⟩ := List.mem_map.1 this
    rw [← e1]
    exact h3 q hq
   ·rcases h4 with ⟨a,b,c⟩ | ⟨b,cur,h5,h6,h7,h8,h9,h10,h11,h12,h13,h14⟩
    ·refine .inl ⟨a,?_,c⟩
     rw [b] at hlen
     exact List.length_eq_zero_iff.1 hlen
    ·refine .inr ⟨b,cur,h5,h6,h7,h8,?_,h10,?_,?_,h13,?_⟩
     ·simpa only [hlen] using h9
     ·simp only [hlen]; exact hle M false _ h11
     ·simpa only [hlen] using h12
     ·simpa only [hlen] using h14
  ·exact h.objs t y hy
 ·intro t t' y y' b hy hy' hb hb'
  obtain ⟨z,hz,e1⟩ := same t y hy
  obtain ⟨z',hz',e1'⟩ := same t' y' hy'
  exact h.dobj t t' z z' b hz hz' (e1 ▸ hb) (e1' ▸ hb')
 ·intro t t' y y' hy hy' hb
  obtain ⟨z',hz',e1'⟩ := same t' y' hy'
  exact h.dmix t t' y z' hy hz' (e1' ▸ hb)
theorem InvH.cutO (h : InvH P C M H w) {tag : Nat} {g : OwnRef} {e : TypeId} {rows : List (List PV)} (hx : H.ob tag = some ⟨g,e,rows,true⟩) (k : Nat) :
  InvH P C M ⟨H.bx,upd H.ob tag (some ⟨g,e,rows.take k,true⟩)⟩ w := by
 have key : ∀ t y,upd H.ob tag (some ⟨g,e,rows.take k,true⟩) t = some y → (t = tag ∧ y = ⟨g,e,rows.take k,true⟩) ∨ H.ob t = some y := by
  intro t y hy
  rw [cS] at hy
  split at hy
  ·rename_i e; exact .inl ⟨e,(Option.some.inj hy).symm⟩
  ·exact .inr hy
 have same : ∀ t y,upd H.ob tag (some ⟨g,e,rows.take k,true⟩) t = some y → ∃ z,H.ob t = some z ∧ z.g = y.g := by
  intro t y hy
  rcases key t y hy with ⟨rfl,rfl⟩ | hy
  ·exact ⟨_,hx,rfl⟩
  ·exact ⟨y,hy,rfl⟩
 refine ⟨h.mem,h.ext,h.new,h.os,h.tape,h.output,h.size,h.frame,h.boxes,?_,h.dbox,?_,?_⟩
 ·intro t y hy
  rcases key t y hy with ⟨rfl,rfl⟩ | hy
  ·obtain ⟨i,h1,h2,h3,h4⟩ := h.objs _ _ hx
   simp only at h1 h2 h3 h4
   have hle : (rows.take k).length ≤ rows.length := by simp; omega
   refine ⟨i,h1,Nat.le_trans (Nat.mul_le_mul_right _ hle) h2,fun r hr=>h3 r (List.mem_of_mem_take hr),?_⟩
   rcases h4 with ⟨a,b,c⟩ | ⟨b,cur,h5,h6,h7,h8,h9,h10,h11,h12,h13,h14⟩
   ·exact .inl ⟨a,by simp [b],c⟩
   ·refine .inr ⟨b,cur,h5,h6,h7,h8,Nat.le_trans hle h9,h10,?_,?_,fun _=>h13 trivial,?_⟩
    ·have hflat : (rows.take k).flatten = rows.flatten.take ((rows.take k).length * i.size) := by
      have aux : ∀ (l : List (List PV)) (m : Nat),(∀ r ∈ l,r.length = i.size) → (l.take m).flatten = l.flatten.take ((l.take m).length * i.size) := by
       intro l
       induction l with
       | nil=>intro m _; simp
       | cons r l ih =>
        intro m hr
        cases m with
        | zero=>simp
        | succ m =>
         have h1 := hr r (by simp)
         have := ih m fun r hr'=>hr r (by simp [hr'])
         simp only [List.take_succ_cons,List.flatten_cons,List.length_cons]
         have e1 : ((l.take m).length + 1) * i.size = r.length + (l.take m).length * i.size := by rw [Nat.add_mul,h1]; omega
         rw [e1,List.take_length_add_append,this]
      exact aux rows k h3
     rw [hflat]
     have := h11.take ((rows.take k).length * i.size)
     rw [List.take_take,Nat.min_eq_left (Nat.mul_le_mul_right _ hle)] at this
     exact this
    ·intro v hv
     refine h12 v ?_
     have e1 : cur.toList.take ((rows.take k).length * i.size) = (cur.toList.take (rows.length * i.size)).take ((rows.take k).length * i.size) := by
      rw [List.take_take,Nat.min_eq_left (Nat.mul_le_mul_right _ hle)]
     rw [e1] at hv
     exact List.mem_of_mem_take hv
    ·intro o _
     exact h13 trivial o
  ·exact h.objs t y hy
 ·intro t t' y y' b hy hy' hb hb'
  obtain ⟨z,hz,e1⟩ := same t y hy
  obtain ⟨z',hz',e1'⟩ := same t' y' hy'
  exact h.dobj t t' z z' b hz hz' (e1 ▸ hb) (e1' ▸ hb')
 ·intro t t' y y' hy hy' hb
  obtain ⟨z',hz',e1'⟩ := same t' y' hy'
  exact h.dmix t t' y z' hy hz' (e1' ▸ hb)
end
theorem iB.of_eq {P : Program} {a b : List PV} (h : a = b) : iB P a b := h ▸ iB.refl a
theorem iB.trans {P : Program} {a b c : List PV} (h : iB P a b) (h' : iB P b c) : iB P a c := fun M s xs hx=>h' M s xs (h M s xs hx)
def oD (bytes : Nat) (n : Int) : Option Unit := if 0 ≤ n ∧ n.toNat * bytes ≤ 2 ^ 47 ∧ n.toNat ≤ maxLen then some () else none
theorem growI_some {bytes : Nat} {n : Int} {u : Unit} (h : oD bytes n = some u) : 0 ≤ n ∧ n.toNat * bytes ≤ 2 ^ 47 ∧ n.toNat ≤ maxLen := by
 unfold oD at h
 split at h
 ·assumption
 ·cases h
section
variable {P : Program} {ops : Array Oper} {rest : List Oper} {o : Oper} {n : Nat} {s s' : Nat → PV} {bx : Nat → Option Box} {ob : Nat → Option Obj} {K : PState → Prop} {T : TT} {rb : RB} {k : Nat} {L : List Nat}
theorem nK (hT : T.Ok P) (hg : aS ops s o = some true) {t t' : TypeId} {x : Operand} (ho : o.op = .binOp .eql t x (.const (.slice none 0 0)) t') {ti : TInfo} {e : TypeId} (hti : T.get t = some ti) (hd : ti.desc = .slice e) {e' : TypeId} {rows : List (List PV)} (hx : evS s x = .list e' rows) {d : Nat} (hdst : o.dst = some d) (hlt : Nat.blt d n = true)
  (h : ∀ b : Bool,(b = true → rows = []) → Ao P ops rest ⟨n,upd s d (.val (.bool b)),bx,ob⟩ K) : Ao P ops (o :: rest) ⟨n,s,bx,ob⟩ K := by
 refine ek hg (fun C M a w next Q hi he hn=>?_)
 have hxr := he x (by rw [ho]; simp [Op.operands])
 rw [show (⟨n,s,bx,ob⟩ : PState).s = s from rfl,hx] at hxr
 simp only [Rep] at hxr
 obtain ⟨ad,c,i,hv,_,_,_,_,hr⟩ := hxr
 have hu := (hT.get hti).und
 rw [hd] at hu
 have hrun : (execOp a.eval o).run P w = .ok (.value (.bool ad.isNone)) w := by
  have h1 := run_equal_slice_nil (P := P) w t e ad rows.length c hu
  have h2 : (eqGuard .eql t x (.const (.slice none 0 0)) (.slice ad rows.length c) (.slice none 0 0)).run P w = .ok () w := by unfold eqGuard; split <;> simp
  simp only [execOp,ho,hv,show a.eval (.const (.slice none 0 0)) = .slice none 0 0 from rfl,Sem.run_bind,h2,Result.andThen_ok,binOp,h1]
  rfl
 unfold Oper.wp
 rw [hrun]
 refine hn _ (.val (.bool ad.isNone)) ⟨bx,ob⟩ M w ⟨_,by simp [hdst,putD,hlt],h ad.isNone fun hb=>?_⟩ (Mem.le_refl M) hi (by simp only [Rep])
 cases rows with
 | nil=>rfl
 | cons r rows =>
  obtain ⟨b,o,e1,_⟩ := hr (by simp)
  rw [e1] at hb
  cases hb
theorem mu (hT : T.Ok P) (hg : aS ops s o = some true) {t e : TypeId} {m : Nat} {ps : Array (Nat × Operand)} (ho : o.op = .buildSlice t m ps) {d : Nat} (hdst : o.dst = some d) (hlt : Nat.blt d n = true) {ti : TInfo} (hti : T.get t = some ti) (hd : ti.desc = .slice e) {rows rows' : List (List PV)}
  (hr : jM T e m (fT (evS s) ps) = some rows) (hl : rows'.map List.length = rows.map List.length) (hm : rows.length = m) (hle : iB P rows.flatten rows'.flatten) (h : ∀ g,Ao P ops rest ⟨n,upd s d (.own d g rows'.length),bx,upd ob d (some ⟨g,e,rows',true⟩)⟩ K) : Ao P ops (o :: rest) ⟨n,s,bx,ob⟩ K := by
 refine Ao.bsO hT hg ho hdst hlt hti hd hr fun g=>?_
 have hlen : rows'.length = m := by rw [← hm]; simpa using congrArg List.length hl
 have h' := h g
 rw [hlen] at h'
 refine dM (st' := ⟨n,upd s d (.own d g m),bx,upd ob d (some ⟨g,e,rows',true⟩)⟩) ?_ h'
 intro C M a w hi
 refine ⟨M,hi.1,?_⟩
 have := hi.2.reobj (tag := d) (rows' := rows') (fo _ _ _) hl hle
 simp only [PState.heap] at this ⊢
 have e2 : upd (upd ob d (some ⟨g,e,rows,true⟩)) d (some ⟨g,e,rows',true⟩) = upd ob d (some ⟨g,e,rows',true⟩) := by
  funext t
  simp only [cS]
  split <;> rfl
 rwa [e2] at this
theorem sS (hT : T.Ok P) (hg : aS ops s o = some true) {x : Operand} {t : TypeId} {ts : List TypeId} (ho : o.op = .call { callee := .builtin .cap,args := #[x],argTypes := (t :: ts).toArray }) {ti : TInfo} {e : TypeId} (hti : T.get t = some ti) (hd : ti.desc = .slice e)
  (hx : evS s x = .val (.slice none 0 0)) (hp : putD n s o.dst (.val (.int .i64 0)) = some s') (h : Ao P ops rest ⟨n,s',bx,ob⟩ K) : Ao P ops (o :: rest) ⟨n,s,bx,ob⟩ K := by
 refine ek hg (fun C M a w next Q hi he hn=>?_)
 have hxr := he x (by rw [ho]; simp [Op.operands,Call.operands])
 rw [show (⟨n,s,bx,ob⟩ : PState).s = s from rfl,hx] at hxr
 simp only [Rep] at hxr
 have hu := (hT.get hti).und
 rw [hd] at hu
 have hrun : (execOp a.eval o).run P w = .ok (.value (.int .i64 0)) w := by
  simp only [execOp,ho,resolve,Sem.run_bind,Sem.run_pure,Result.andThen_ok,invoke,builtin,List.map_toArray,List.map_cons,List.map_nil,hxr]
  simp [Builtin.cap_,run_underlying hu,goInt]
 unfold Oper.wp
 rw [hrun]
 exact hn _ _ ⟨bx,ob⟩ M w ⟨s',hp,h⟩ (Mem.le_refl M) hi (by simp only [Rep])
theorem Ao.subN (hT : T.Ok P) (hg : aS ops s o = some true) {t : TypeId} {x y : Operand} (ho : o.op = .slice t x none (some y) none) {ti : TInfo} {e : TypeId} (hti : T.get t = some ti) (hd : ti.desc = .slice e) {ei : TInfo} (hei : T.get e = some ei)
  (hx : evS s x = .val (.slice none 0 0)) {kk : IntKind} (hy : evS s y = .val (.int kk 0)) (hp : putD n s o.dst (.val (.slice none 0 0)) = some s') (h : Ao P ops rest ⟨n,s',bx,ob⟩ K) : Ao P ops (o :: rest) ⟨n,s,bx,ob⟩ K := by
 refine ek hg (fun C M a w next Q hi he hn=>?_)
 have hxr := he x (by rw [ho]; simp [Op.operands])
 have hyr := he y (by rw [ho]; simp [Op.operands])
 rw [show (⟨n,s,bx,ob⟩ : PState).s = s from rfl,hx] at hxr
 rw [show (⟨n,s,bx,ob⟩ : PState).s = s from rfl,hy] at hyr
 simp only [Rep] at hxr hyr
 have hu := (hT.get hti).und
 rw [hd] at hu
 have hrun : (execOp a.eval o).run P w = .ok (.value (.slice none 0 0)) w := by
  simp only [execOp,ho,Sem.run_bind,Sem.run_pure,Option.map_some,Option.map_none,hxr,hyr]
  simp [Instr.sliceAt,Instr.slice,run_underlying hu,Instr.sliceBounds,Instr.sliceBound,asIntOf,(hT.get hei).rsize w]
 unfold Oper.wp
 rw [hrun]
 exact hn _ _ ⟨bx,ob⟩ M w ⟨s',hp,h⟩ (Mem.le_refl M) hi (by simp only [Rep])
theorem Ao.cutO (hT : T.Ok P) (hg : aS ops s o = some true) {t : TypeId} {x y : Operand} (ho : o.op = .slice t x none (some y) none) {ti : TInfo} {e : TypeId} (hti : T.get t = some ti) (hd : ti.desc = .slice e) {ei : TInfo} (hei : T.get e = some ei)
  {tag : Nat} {g : OwnRef} {len : Nat} {rows rows' : List (List PV)} (hx : evS s x = .own tag g len) (hob : ob tag = some ⟨g,e,rows,true⟩) (hlen : len = rows.length) {kk : IntKind} {m : Int} (hy : evS s y = .val (.int kk m)) (hm : 0 ≤ m ∧ m.toNat ≤ rows.length) (hr : rows.take m.toNat = rows') {d : Nat} (hdst : o.dst = some d) (hlt : Nat.blt d n = true)
  (h : Ao P ops rest ⟨n,upd s d (.own tag g rows'.length),bx,upd ob tag (some ⟨g,e,rows',true⟩)⟩ K) : Ao P ops (o :: rest) ⟨n,s,bx,ob⟩ K := by
 subst hlen
 subst hr
 refine ek hg (fun C M a w next Q hi he hn=>?_)
 have hxr := he x (by rw [ho]; simp [Op.operands])
 have hyr := he y (by rw [ho]; simp [Op.operands])
 rw [show (⟨n,s,bx,ob⟩ : PState).s = s from rfl,hx] at hxr
 rw [show (⟨n,s,bx,ob⟩ : PState).s = s from rfl,hy] at hyr
 simp only [Rep] at hxr hyr
 have hu := (hT.get hti).und
 rw [hd] at hu
 have hcap : rows.length ≤ g.cap := by
  obtain ⟨i,_,_,_,h4⟩ := hi.objs tag _ hob
  rcases h4 with ⟨_,b,_⟩ | ⟨_,_,_,_,_,_,h9,_⟩
  ·simp only at b; rw [b]; simp
  ·exact h9
 have hmc : m ≤ (g.cap : Int) := by omega
 have hl2 : (rows.take m.toNat).length = m.toNat := by simp; omega
 have hrun : (execOp a.eval o).run P w = .ok (.value (g.val (rows.take m.toNat).length)) w := by
  rw [hl2]
  simp only [execOp,ho,Sem.run_bind,Sem.run_pure,Option.map_some,Option.map_none,hxr.2,hyr,OwnRef.val]
  cases hb : g.blk with
  | none=>simp [Instr.sliceAt,Instr.slice,run_underlying hu,Instr.sliceBounds,Instr.sliceBound,asIntOf,(hT.get hei).rsize w,hm.1,hmc]
  | some b =>
   have e0 : (⟨b,0,none⟩ : Addr).add 0 = ⟨b,0,none⟩ := by rw [gF]
   simp [Instr.sliceAt,Instr.slice,run_underlying hu,Instr.sliceBounds,Instr.sliceBound,asIntOf,(hT.get hei).rsize w,hm.1,hmc,e0]
 unfold Oper.wp
 rw [hrun]
 exact hn _ (.own tag g (rows.take m.toNat).length) ⟨bx,upd ob tag (some ⟨g,e,rows.take m.toNat,true⟩)⟩ M w ⟨_,by simp [hdst,putD,hlt],h⟩ (Mem.le_refl M) (hi.cutO hob m.toNat) (by simp [Rep])
theorem sG (hT : T.Ok P) (hg : aS ops s o = some true) {x y : Operand} {t u : TypeId} (ho : o.op = .call { callee := .builtin .append,args := #[x,y],argTypes := #[t,u] }) {d : Nat} (hdst : o.dst = some d) (hlt : Nat.blt d n = true) {ti ui ei : TInfo} {e : TypeId} (hti : T.get t = some ti) (hd : ti.desc = .slice e) (hui : T.get u = some ui) (hud : ui.desc = .int .i64) (hei : T.get e = some ei)
  (hz : Nat.beq ei.zero.cells.size ei.size = true) (hsz : Nat.blt 0 ei.size = true) (_hf : PV.frozL (cT ei) = true) (h1 : (cT ei).all PV.one = true) (hx : evS s x = .val (.slice none 0 0)) {m : Int} (hy : evS s y = .val (.int .i64 m)) (hm : 0 < m) (hby : m.toNat * ei.bytes ≤ 2 ^ 47) (hmx : m.toNat ≤ maxLen)
  (h : ∀ g,Ao P ops rest ⟨n,upd s d (.own d g (List.replicate m.toNat (cT ei)).length),bx,upd ob d (some ⟨g,e,List.replicate m.toNat (cT ei),true⟩)⟩ K) : Ao P ops (o :: rest) ⟨n,s,bx,ob⟩ K := by
 refine ek hg (fun C M a w next Q hi he hn=>?_)
 have hxr := he x (by rw [ho]; simp [Op.operands,Call.operands])
 have hyr := he y (by rw [ho]; simp [Op.operands,Call.operands])
 rw [show (⟨n,s,bx,ob⟩ : PState).s = s from rfl,hx] at hxr
 rw [show (⟨n,s,bx,ob⟩ : PState).s = s from rfl,hy] at hyr
 simp only [Rep] at hxr hyr
 have hu := (hT.get hti).und
 rw [hd] at hu
 have hu2 := (hT.get hui).und
 rw [hud] at hu2
 have hu3 := (hT.get hei).und
 obtain ⟨i,hinf,hs,hbs,hzero⟩ := (hT.get hei).info
 have hz1 := Nat.eq_of_beq_eq_true hz
 have hsz' : 0 < i.size := by have : 0 < ei.size := by simpa [Nat.blt_eq] using hsz
                              omega
 obtain ⟨k,hk⟩ : ∃ k : Nat,k = m.toNat := ⟨_,rfl⟩
 rw [← hk] at hby hmx h
 have hkm : m = (k : Int) := by omega
 subst hkm
 have hk0 : 0 < k := by omega
 have hwrap : IntKind.i64.wrap (k : Int) = k := by
  simp only [IntKind.wrap,IntKind.bits,IntKind.signed]
  simp
  unfold maxLen at hmx
  omega
 have h63 : ¬ (9223372036854775807 < (k : Int)) := by unfold maxLen at hmx; omega
 have hby2 : k * i.bytes ≤ 140737488355328 := by rw [hbs]; exact hby
 have h48 : ¬ (281474976710656 < Builtin.nextslicecap k 0 * i.bytes) := by rw [nextslicecap_zero hk0]; omega
 have h48' : ¬ (281474976710656 < (k : Int) * (i.bytes : Int)) := by
  have : ((k * i.bytes : Nat) : Int) ≤ 140737488355328 := Int.ofNat_le.2 hby2
  rw [Int.natCast_mul] at this
  omega
 have hne : ¬ (k * i.size = 0) := by
  have := Nat.mul_pos hk0 hsz'
  omega
 have hrun : (Builtin.append_ #[t,u] o.type #[.slice none 0 0,.int .i64 k]).run P w = .ok (.slice (some ⟨w.heap.size,0,none⟩) k (grownCap w k 0 e)) (w.drew.alloc (.cells (Builtin.zeroCells ei.zero.cells k ++ Builtin.zeroCells ei.zero.cells (grownCap w k 0 e - k)) e)) := by
  have hk1 : k ≠ 0 := by omega
  have hk3 : ¬ ((k : Int) < 0) := by omega
  simp [Builtin.append_,run_underlying hu,run_underlying hu2,sizeOf,typeInfo,zeroValue,hinf,hzero,asInt,asIntOf,hwrap,hk1,hk3,h63,h48,h48',Question.forced,run_firstCells_none,newRow,grownCap]
  exact fun h0=>absurd h0 hne
 have hrun' : (execOp a.eval o).run P w = .ok (.value (.slice (some ⟨w.heap.size,0,none⟩) k (grownCap w k 0 e))) (w.drew.alloc (.cells (Builtin.zeroCells ei.zero.cells k ++ Builtin.zeroCells ei.zero.cells (grownCap w k 0 e - k)) e)) := by
  simp only [execOp,ho,resolve,Sem.run_bind,Sem.run_pure,Result.andThen_ok,invoke,builtin,List.map_toArray,List.map_cons,List.map_nil,hxr,hyr]
  rw [hrun]
  rfl
 unfold Oper.wp
 rw [hrun']
 have hge := grownCap_ge w k 0 e
 have hgm : grownCap w k 0 e ≤ maxLen := grownCap_le_maxLen w k 0 e hmx
 have hzl : (cT ei).length = i.size := by simp [cT,hz1,hs]
 have hzc : (Builtin.zeroCells ei.zero.cells k).toList = (List.replicate k ei.zero.cells.toList).flatten := by
  unfold Builtin.zeroCells
  exact ox ei.zero.cells k
 have hzs : (Builtin.zeroCells ei.zero.cells k).toList.length = k * i.size := by
  rw [hzc]; simp [hz1,hs]
 have hrep : aA P M false (List.replicate k (cT ei)).flatten (List.replicate k ei.zero.cells.toList).flatten := kX (kL _) k
 have htake : ((Builtin.zeroCells ei.zero.cells k ++ Builtin.zeroCells ei.zero.cells (grownCap w k 0 e - k)).toList.take ((List.replicate k (cT ei)).length * i.size)) = (List.replicate k ei.zero.cells.toList).flatten := by
  rw [List.length_replicate,Array.toList_append,← hzc]
  rw [← hzs]
  exact List.take_left
 refine hn _ (.own d ⟨some w.heap.size,grownCap w k 0 e⟩ (List.replicate k (cT ei)).length) _ M _ ⟨_,by simp [hdst,putD,hlt],h ⟨some w.heap.size,grownCap w k 0 e⟩⟩ (Mem.le_refl M)
  ((show InvH P C M ⟨bx,ob⟩ w.drew from hi.drew).alloc_obj d e (List.replicate k (cT ei)) true _ _ i hinf ?_ ?_ ?_ ?_ hgm ?_ ?_) ?_
 ·rw [List.length_replicate]; exact hby2
 ·intro r hr
  rw [List.eq_of_mem_replicate hr]
  exact hzl
 ·simp only [Array.size_append,size_zeroCells,hz1,← hs,← Nat.add_mul]
  congr 1
  omega
 ·rw [List.length_replicate]; exact hge
 ·rw [htake]; exact hrep
 ·rw [htake]
  refine aA.oneCell ?_ hrep
  rw [List.all_flatten]
  rw [List.all_eq_true]
  intro r hr
  rw [List.eq_of_mem_replicate hr]
  exact h1
 ·simp [Rep,OwnRef.val]
end
@[simp] theorem bPs {α β : Type} (a : α) (k : α → Option β) : ah (some a) k = k a := rfl
@[simp] theorem bindP_none {α β : Type} (k : α → Option β) : ah none k = none := rfl
@[simp] theorem bU {α β : Type} (a : α) (k : α → β) : bH a k = k a := rfl
@[simp] theorem ck {σ β : Type} (s : σ) (k : σ → Option β) : Flow.thenP (.next s) k = k s := rfl
@[simp] theorem iP {σ ρ : Type} (s : σ) (k : σ → Option ρ) : Flow.thenR (.next s) k = k s := rfl
@[simp] theorem nk {σ ρ : Type} (r : ρ) (k : σ → Option ρ) : Flow.thenR (.ret r) k = some r := rfl
@[simp] theorem thenF_nextS {σ τ ρ : Type} (s : σ) (k : σ → Option (Flow τ ρ)) : Flow.thenF (.next s) k = k s := rfl
@[simp] theorem thenF_retS {σ τ ρ : Type} (r : ρ) (k : σ → Option (Flow τ ρ)) : Flow.thenF (.ret r) k = some (.ret r) := rfl
theorem appI_ok {α : Type} {bytes : Nat} {xs ys : List α} (h1 : (xs.length + ys.length) * bytes ≤ 2 ^ 47) (h2 : xs.length + ys.length ≤ maxLen) : dL bytes xs ys = some (xs ++ ys) := by
 unfold dL; rw [zp ⟨h1,h2⟩]
theorem lF {α : Type} {xs : List α} {i : Int} {x : α} (h0 : 0 ≤ i) (h : xs[i.toNat]? = some x) : aO xs i = some x := by unfold aO; rw [zp h0,h]
theorem ll {α : Type} {xs : List α} {j : Nat} {x : α} (h : xs[j]? = some x) : aO xs (j : Int) = some x := lF (by omega) (by simpa using h)
theorem px {α : Type} {xs : List α} {a b : Int} (h : 0 ≤ a ∧ a ≤ b ∧ b ≤ xs.length) : nc xs a b = some ((xs.take b.toNat).drop a.toNat) := by unfold nc; rw [zp h]
theorem growI_ok {bytes : Nat} {n : Int} (h : 0 ≤ n ∧ n.toNat * bytes ≤ 2 ^ 47 ∧ n.toNat ≤ maxLen) : oD bytes n = some () := by unfold oD; rw [zp h]
theorem qY {n : Int} (h : n ≤ 2 ^ 62) : nS n = some n.toNat := by unfold nS; rw [zp h]
theorem fH {α σ ρ : Type} {step : Nat → α → σ → Option (Flow σ ρ)} (I : Nat → σ → Prop) (Q : ρ → Prop) :
  ∀ (xs : List α) (j : Nat) (s : σ),I j s → (∀ k x s,xs[k]? = some x → I (j + k) s → ∃ fl,step (j + k) x s = some fl ∧ (match fl with | .next s'=>I (j + k + 1) s' | .brk _=>False | .ret r=>Q r)) →
   ∃ fl,aM step j xs s = some fl ∧ (match fl with | .next s'=>I (j + xs.length) s' | .brk _=>False | .ret r=>Q r)
 | [],j,s,h,_=>⟨.next s,rfl,by simpa using h⟩
 | x :: xs,j,s,h,hs=>by
  obtain ⟨fl,h1,h2⟩ := hs 0 x s rfl (by simpa using h)
  rw [Nat.add_zero] at h1
  cases fl with
  | next s' =>
   obtain ⟨fl,h3,h4⟩ := fH I Q xs (j + 1) s' (by simpa using h2) (fun k y t hk hI=>by
    obtain ⟨fl,h5,h6⟩ := hs (k + 1) y t (by simpa using hk) (by rw [show j + (k + 1) = j + 1 + k from by omega]; exact hI)
    rw [show j + (k + 1) = j + 1 + k from by omega] at h5 h6
    exact ⟨fl,h5,h6⟩)
   refine ⟨fl,by rw [aM,h1]; exact h3,?_⟩
   rw [show j + (x :: xs).length = j + 1 + xs.length from by simp; omega]
   exact h4
  | brk s'=>exact absurd h2 (by simp)
  | ret r=>exact ⟨.ret r,by rw [aM,h1],h2⟩
theorem rMa {α σ ρ : Type} {step : Nat → α → σ → Option (Flow σ ρ)} {xs : List α} {s : σ} (S : Nat → σ) (h0 : S 0 = s) (hs : ∀ k x,xs[k]? = some x → step k x (S k) = some (.next (S (k + 1)))) : aM step 0 xs s = some (.next (S xs.length)) := by
 subst h0
 obtain ⟨fl,h1,h2⟩ := fH (step := step) (fun j s=>s = S j) (fun _=>False) xs 0 (S 0) rfl (fun k x s hk hI=>by
  simp only [Nat.zero_add] at hI
  subst hI
  exact ⟨_,by rw [Nat.zero_add]; exact hs k x hk,by simp⟩)
 cases fl with
 | next s'=>simp only [Nat.zero_add] at h2; rw [h1,h2]
 | brk s'=>exact absurd h2 (by simp)
 | ret r=>exact absurd h2 (by simp)
theorem pV {α β ρ : Type} {step : Nat → α → List β → Option (Flow (List β) ρ)} {xs : List α} (f : α → β) (hs : ∀ k x,xs[k]? = some x → step k x ((xs.take k).map f) = some (.next ((xs.take k).map f ++ [f x]))) :
  aM step 0 xs [] = some (.next (xs.map f)) := by
 have := rMa (step := step) (xs := xs) (fun k=>(xs.take k).map f) rfl (fun k x hk=>by
  rw [hs k x hk,List.take_add_one,hk]
  simp)
 simpa using this
theorem mE {α σ ρ : Type} {step : Nat → α → σ → Option (Flow σ ρ)} {xs : List α} {s : σ} (g : σ → α → σ) (hs : ∀ k x,xs[k]? = some x → step k x ((xs.take k).foldl g s) = some (.next (g ((xs.take k).foldl g s) x))) :
  aM step 0 xs s = some (.next (xs.foldl g s)) := by
 have := rMa (step := step) (xs := xs) (fun k=>(xs.take k).foldl g s) rfl (fun k x hk=>by
  rw [hs k x hk,List.take_add_one,hk,List.foldl_append]
  rfl)
 simpa using this
theorem oW {α ρ : Type} {step : Nat → α → Unit → Option (Flow Unit ρ)} (p : α → Bool) (out : Nat → α → ρ) : ∀ (xs : List α) (j : Nat),(∀ k x,xs[k]? = some x → step (j + k) x () = some (if p x then .ret (out (j + k) x) else .next ())) →
  aM step j xs () = some (match xs.findIdx? p with | some i=>(match xs[i]? with | some x=>.ret (out (j + i) x) | none=>.next ()) | none=>.next ())
 | [],j,_=>rfl
 | x :: xs,j,hs=>by
  have h0 := hs 0 x rfl
  rw [Nat.add_zero] at h0
  rw [aM,h0,List.findIdx?_cons]
  cases hp : p x with
  | true=>simp
  | false =>
   simp only [Bool.false_eq_true,if_false]
   rw [oW p out xs (j + 1) (fun k y hk=>by
    have := hs (k + 1) y (by simpa using hk)
    rw [show j + (k + 1) = j + 1 + k from by omega] at this
    exact this)]
   cases xs.findIdx? p with
   | none=>simp
   | some i =>
    simp only [Option.map_some,List.getElem?_cons_succ]
    rw [show j + 1 + i = j + (i + 1) from by omega]
section
variable {P : Program} {T : TT} {M : Mem}
end
def eW {α : Type} (p : Prop) [Decidable p] (a : α) : Option α := if p then some a else none
theorem dE {α : Type} {p : Prop} [Decidable p] {a b : α} (h : eW p a = some b) : p ∧ a = b := by
 unfold eW at h
 split at h
 ·rename_i hp; exact ⟨hp,Option.some.inj h⟩
 ·cases h
@[simp] theorem dV {α : Type} {p : Prop} [Decidable p] {a : α} (h : p) : eW p a = some a := by unfold eW; rw [zp h]
end
end Go.Ab

namespace Go.Ab
noncomputable section
open Go.Proofs
def tS (d : TypeDesc) : TInfo := ⟨d,1,24,.slice none 0 0,[]⟩
def tP (d : TypeDesc) : TInfo := ⟨d,1,8,.pointer none,[]⟩
def tF (d : TypeDesc) : TInfo := ⟨d,1,8,.nilFunc,[]⟩
theorem tO {P : Program} {k : Nat} {v : TInfo} (i : TypeInfo) (h : P.info? k = some i) (e : (i.size,i.bytes,i.zero,v.eqf) = (v.size,v.bytes,some v.zero,[])) (u : P.underlying k = some v.desc) : v.Ok P k := by
 simp only [Prod.mk.injEq] at e
 exact ⟨⟨i,h,e.1,e.2.1,e.2.2.1⟩,u,fun hn=>absurd e.2.2.2 hn⟩
def ti49 : TInfo := ⟨Tryz.t48.desc,3,32,.agg #[.string ⟨#[]⟩,.int .i64 0,.bool false],[(9,0),(3,1),(4,2)]⟩
def ti54 : TInfo := ⟨Tryz.t53.desc,3,32,.agg #[.int .i64 0,.int .i64 0,.string ⟨#[]⟩],[(3,0),(3,1),(9,2)]⟩
theorem ti49_ok : ti49.Ok Tryz.prog 49 := ⟨⟨Tryz.t49,by kernel_rfl,rfl,rfl,rfl⟩,Tryz.underlying49,fun _=>⟨Tryz.stoodInHeld49,Tryz.eqGuardType49,by simp [eQ,Program.fieldsOf,Tryz.underlying49,ti49],by kernel_rfl⟩⟩
theorem ti54_ok : ti54.Ok Tryz.prog 54 := ⟨⟨Tryz.t54,by kernel_rfl,rfl,rfl,rfl⟩,Tryz.underlying54,fun _=>⟨Tryz.stoodInHeld54,Tryz.eqGuardType54,by simp [eQ,Program.fieldsOf,Tryz.underlying54,ti54],by kernel_rfl⟩⟩
def tt : TT := (.node 66 ⟨Tryz.t65.desc,7,88,.agg #[.int .i64 0,.string ⟨#[]⟩,.int .i64 0,.int .i64 0,.int .i64 0,.string ⟨#[]⟩,.slice none 0 0],[]⟩ (.node 33 (tS Tryz.t33.desc) (.node 23 (tS Tryz.t23.desc) (.node 5 ⟨Tryz.t5.desc,1,1,.int .u8 0,[]⟩ (.node 3 ⟨Tryz.t3.desc,1,8,.int .i64 0,[]⟩ (.node 2 ⟨Tryz.t2.desc,1,8,.int .i64 0,[]⟩ (.node 1 (tF Tryz.t1.desc) .leaf .leaf) .leaf) (.node 4 ⟨Tryz.t4.desc,1,1,.bool false,[]⟩ .leaf .leaf)) (.node 20 ⟨Tryz.t20.desc,1,16,.nilIface,[]⟩ (.node 9 ⟨Tryz.t9.desc,1,16,.string ⟨#[]⟩,[]⟩ .leaf .leaf) (.node 22 (tS Tryz.t22.desc) .leaf .leaf))) (.node 29 (tS Tryz.t29.desc) (.node 26 ⟨Tryz.t25.desc,3,72,.agg #[.slice none 0 0,.slice none 0 0,.slice none 0 0],[]⟩ (.node 24 (tS Tryz.t24.desc) .leaf .leaf) (.node 28 (tS Tryz.t27.desc) .leaf .leaf)) (.node 31 (tS Tryz.t31.desc) (.node 30 (tS Tryz.t30.desc) .leaf .leaf) (.node 32 (tS Tryz.t32.desc) .leaf .leaf)))) (.node 49 ti49 (.node 41 (tS Tryz.t41.desc) (.node 36 (tS Tryz.t36.desc) (.node 35 ⟨Tryz.t34.desc,9,160,.agg #[.int .i64 0,.string ⟨#[]⟩,.slice none 0 0,.slice none 0 0,.slice none 0 0,.slice none 0 0,.int .i64 0,.int .i64 0,.slice none 0 0],[]⟩ .leaf .leaf) (.node 39 (tF Tryz.t39.desc) .leaf .leaf)) (.node 44 ⟨Tryz.t43.desc,2,48,.agg #[.slice none 0 0,.slice none 0 0],[]⟩ (.node 42 (tS Tryz.t42.desc) .leaf .leaf) (.node 46 (tF Tryz.t46.desc) .leaf .leaf))) (.node 55 (tS Tryz.t36.desc) (.node 52 ⟨Tryz.t51.desc,3,64,.agg #[.string ⟨#[]⟩,.slice none 0 0,.slice none 0 0],[]⟩ (.node 50 (tS Tryz.t50.desc) .leaf .leaf) (.node 54 ti54 .leaf .leaf)) (.node 58 ⟨Tryz.t3.desc,1,8,.int .i64 0,[]⟩ (.node 57 ⟨Tryz.t56.desc,2,40,.agg #[.string ⟨#[]⟩,.slice none 0 0],[]⟩ .leaf .leaf) (.node 64 (tF Tryz.t64.desc) .leaf .leaf))))) (.node 112 ⟨Tryz.t111.desc,4,96,.agg #[.slice none 0 0,.slice none 0 0,.slice none 0 0,.slice none 0 0],[]⟩ (.node 90 (tF Tryz.t90.desc) (.node 83 (tF Tryz.t83.desc) (.node 76 (tF Tryz.t76.desc) (.node 73 (tF Tryz.t73.desc) (.node 68 ⟨Tryz.t67.desc,3,56,.agg #[.string ⟨#[]⟩,.string ⟨#[]⟩,.slice none 0 0],[]⟩ .leaf .leaf) .leaf) (.node 80 (tF Tryz.t80.desc) .leaf .leaf)) (.node 85 (tF Tryz.t85.desc) (.node 84 (tF Tryz.t84.desc) .leaf .leaf) (.node 88 ⟨Tryz.t87.desc,8,192,.agg #[.slice none 0 0,.slice none 0 0,.slice none 0 0,.slice none 0 0,.slice none 0 0,.slice none 0 0,.slice none 0 0,.slice none 0 0],[]⟩ .leaf .leaf))) (.node 98 (tF Tryz.t98.desc) (.node 94 ⟨Tryz.t93.desc,3,56,.agg #[.string ⟨#[]⟩,.slice none 0 0,.string ⟨#[]⟩],[]⟩ (.node 92 (tF Tryz.t92.desc) .leaf .leaf) (.node 96 (tF Tryz.t96.desc) .leaf .leaf)) (.node 106 ⟨Tryz.t106.desc,8,8,.agg #[.bool false,.bool false,.bool false,.bool false,.bool false,.bool false,.bool false,.bool false],[]⟩ (.node 100 ⟨Tryz.t99.desc,7,80,.agg #[.string ⟨#[]⟩,.int .i64 0,.string ⟨#[]⟩,.int .i64 0,.int .i64 0,.int .i64 0,.string ⟨#[]⟩],[]⟩ .leaf .leaf) (.node 107 (tF Tryz.t107.desc) .leaf .leaf)))) (.node 147 (tS Tryz.t147.desc) (.node 130 (tF Tryz.t130.desc) (.node 121 (tF Tryz.t121.desc) (.node 120 ⟨Tryz.t119.desc,5,120,.agg #[.slice none 0 0,.slice none 0 0,.slice none 0 0,.slice none 0 0,.slice none 0 0],[]⟩ .leaf .leaf) (.node 122 (tF Tryz.t122.desc) .leaf .leaf)) (.node 138 (tS Tryz.t138.desc) (.node 133 (tF Tryz.t133.desc) .leaf .leaf) (.node 141 (tF Tryz.t141.desc) .leaf .leaf))) (.node 175 (tF Tryz.t175.desc) (.node 153 (tF Tryz.t153.desc) (.node 151 (tS Tryz.t151.desc) .leaf .leaf) (.node 155 (tF Tryz.t155.desc) .leaf .leaf)) (.node 185 ⟨Tryz.t185.desc,1,8,.int .u64 0,[]⟩ (.node 177 (tF Tryz.t177.desc) .leaf .leaf) (.node 187 (tF Tryz.t187.desc) .leaf .leaf))))))
theorem tk : tt.Ok Tryz.prog := ⟨tO Tryz.t66 (by kernel_rfl) rfl Tryz.underlying66,⟨tO Tryz.t33 (by kernel_rfl) rfl Tryz.underlying33,⟨tO Tryz.t23 (by kernel_rfl) rfl Tryz.underlying23,⟨tO Tryz.t5 (by kernel_rfl) rfl Tryz.underlying5,⟨tO Tryz.t3 (by kernel_rfl) rfl Tryz.underlying3,⟨tO Tryz.t2 (by kernel_rfl) rfl Tryz.underlying2,⟨tO Tryz.t1 (by kernel_rfl) rfl Tryz.underlying1,trivial,trivial⟩,trivial⟩,⟨tO Tryz.t4 (by kernel_rfl) rfl Tryz.underlying4,trivial,trivial⟩⟩,⟨tO Tryz.t20 (by kernel_rfl) rfl Tryz.underlying20,⟨tO Tryz.t9 (by kernel_rfl) rfl Tryz.underlying9,trivial,trivial⟩,⟨tO Tryz.t22 (by kernel_rfl) rfl Tryz.underlying22,trivial,trivial⟩⟩⟩,⟨tO Tryz.t29 (by kernel_rfl) rfl Tryz.underlying29,⟨tO Tryz.t26 (by kernel_rfl) rfl Tryz.underlying26,⟨tO Tryz.t24 (by kernel_rfl) rfl Tryz.underlying24,trivial,trivial⟩,⟨tO Tryz.t28 (by kernel_rfl) rfl Tryz.underlying28,trivial,trivial⟩⟩,⟨tO Tryz.t31 (by kernel_rfl) rfl Tryz.underlying31,⟨tO Tryz.t30 (by kernel_rfl) rfl Tryz.underlying30,trivial,trivial⟩,⟨tO Tryz.t32 (by kernel_rfl) rfl Tryz.underlying32,trivial,trivial⟩⟩⟩⟩,⟨ti49_ok,⟨tO Tryz.t41 (by kernel_rfl) rfl Tryz.underlying41,⟨tO Tryz.t36 (by kernel_rfl) rfl Tryz.underlying36,⟨tO Tryz.t35 (by kernel_rfl) rfl Tryz.underlying35,trivial,trivial⟩,⟨tO Tryz.t39 (by kernel_rfl) rfl Tryz.underlying39,trivial,trivial⟩⟩,⟨tO Tryz.t44 (by kernel_rfl) rfl Tryz.underlying44,⟨tO Tryz.t42 (by kernel_rfl) rfl Tryz.underlying42,trivial,trivial⟩,⟨tO Tryz.t46 (by kernel_rfl) rfl Tryz.underlying46,trivial,trivial⟩⟩⟩,⟨tO Tryz.t55 (by kernel_rfl) rfl Tryz.underlying55,⟨tO Tryz.t52 (by kernel_rfl) rfl Tryz.underlying52,⟨tO Tryz.t50 (by kernel_rfl) rfl Tryz.underlying50,trivial,trivial⟩,⟨ti54_ok,trivial,trivial⟩⟩,⟨tO Tryz.t58 (by kernel_rfl) rfl Tryz.underlying58,⟨tO Tryz.t57 (by kernel_rfl) rfl Tryz.underlying57,trivial,trivial⟩,⟨tO Tryz.t64 (by kernel_rfl) rfl Tryz.underlying64,trivial,trivial⟩⟩⟩⟩⟩,⟨tO Tryz.t112 (by kernel_rfl) rfl Tryz.underlying112,⟨tO Tryz.t90 (by kernel_rfl) rfl Tryz.underlying90,⟨tO Tryz.t83 (by kernel_rfl) rfl Tryz.underlying83,⟨tO Tryz.t76 (by kernel_rfl) rfl Tryz.underlying76,⟨tO Tryz.t73 (by kernel_rfl) rfl Tryz.underlying73,⟨tO Tryz.t68 (by kernel_rfl) rfl Tryz.underlying68,trivial,trivial⟩,trivial⟩,⟨tO Tryz.t80 (by kernel_rfl) rfl Tryz.underlying80,trivial,trivial⟩⟩,⟨tO Tryz.t85 (by kernel_rfl) rfl Tryz.underlying85,⟨tO Tryz.t84 (by kernel_rfl) rfl Tryz.underlying84,trivial,trivial⟩,⟨tO Tryz.t88 (by kernel_rfl) rfl Tryz.underlying88,trivial,trivial⟩⟩⟩,⟨tO Tryz.t98 (by kernel_rfl) rfl Tryz.underlying98,⟨tO Tryz.t94 (by kernel_rfl) rfl Tryz.underlying94,⟨tO Tryz.t92 (by kernel_rfl) rfl Tryz.underlying92,trivial,trivial⟩,⟨tO Tryz.t96 (by kernel_rfl) rfl Tryz.underlying96,trivial,trivial⟩⟩,⟨tO Tryz.t106 (by kernel_rfl) rfl Tryz.underlying106,⟨tO Tryz.t100 (by kernel_rfl) rfl Tryz.underlying100,trivial,trivial⟩,⟨tO Tryz.t107 (by kernel_rfl) rfl Tryz.underlying107,trivial,trivial⟩⟩⟩⟩,⟨tO Tryz.t147 (by kernel_rfl) rfl Tryz.underlying147,⟨tO Tryz.t130 (by kernel_rfl) rfl Tryz.underlying130,⟨tO Tryz.t121 (by kernel_rfl) rfl Tryz.underlying121,⟨tO Tryz.t120 (by kernel_rfl) rfl Tryz.underlying120,trivial,trivial⟩,⟨tO Tryz.t122 (by kernel_rfl) rfl Tryz.underlying122,trivial,trivial⟩⟩,⟨tO Tryz.t138 (by kernel_rfl) rfl Tryz.underlying138,⟨tO Tryz.t133 (by kernel_rfl) rfl Tryz.underlying133,trivial,trivial⟩,⟨tO Tryz.t141 (by kernel_rfl) rfl Tryz.underlying141,trivial,trivial⟩⟩⟩,⟨tO Tryz.t175 (by kernel_rfl) rfl Tryz.underlying175,⟨tO Tryz.t153 (by kernel_rfl) rfl Tryz.underlying153,⟨tO Tryz.t151 (by kernel_rfl) rfl Tryz.underlying151,trivial,trivial⟩,⟨tO Tryz.t155 (by kernel_rfl) rfl Tryz.underlying155,trivial,trivial⟩⟩,⟨tO Tryz.t185 (by kernel_rfl) rfl Tryz.underlying185,⟨tO Tryz.t177 (by kernel_rfl) rfl Tryz.underlying177,trivial,trivial⟩,⟨tO Tryz.t187 (by kernel_rfl) rfl Tryz.underlying187,trivial,trivial⟩⟩⟩⟩⟩⟩
end
end Go.Ab


namespace Go.Proofs.YtlddibnpcmlobaaGreat
noncomputable section
open Go Go.Ab
theorem mok : Tryz.prog.follows .mixedOrders = true := by kernel_rfl
abbrev al (n : Int) : PV := .val (.int .i64 n)
abbrev aL (b : Bool) : PV := .val (.bool b)
structure LVal where
 kind : Int
 int : Int
 text : List UInt8
 deriving DecidableEq
structure LCol where
 name : List UInt8
 kind : Int
 nullable : Bool
 deriving DecidableEq
inductive LExpr where
 | mk (kind : Int) (name : List UInt8) (index : Int) (value : LVal) (args : List LExpr)
def LExpr.kind : LExpr → Int | .mk k _ _ _ _=>k
def LExpr.name : LExpr → List UInt8 | .mk _ n _ _ _=>n
def LExpr.index : LExpr → Int | .mk _ _ i _ _=>i
def LExpr.value : LExpr → LVal | .mk _ _ _ v _=>v
def LExpr.args : LExpr → List LExpr | .mk _ _ _ _ a=>a
structure LEnv where
 cols : List LCol
 row : List LVal
 params : List LVal
 vnames : List (List UInt8)
 vvals : List LVal
def LVal.nul : LVal := ⟨0,0,[]⟩
@[simp] def af (v : LVal) : List PV := [al v.kind,al v.int,.str v.text]
@[simp] def aW (c : LCol) : List PV := [.str c.name,al c.kind,aL c.nullable]
mutual
def dB : LExpr → List PV
 | .mk k n i v a=>[al k,.str n,al i,al v.kind,al v.int,.str v.text,.list 66 (pP a)]
def pP : List LExpr → List (List PV)
 | []=>[]
 | e :: r=>dB e :: pP r
end
theorem qJ : ∀ l,pP l = l.map dB
 | []=>rfl
 | e :: r=>by simp [pP,qJ r]
def im (e : LExpr) : List PV := [al e.kind,.str e.name,al e.index,al e.value.kind,al e.value.int,.str e.value.text,.list 66 (e.args.map dB)]
theorem dq (e : LExpr) : dB e = im e := by
 cases e
 simp [dB,im,qJ,LExpr.kind,LExpr.name,LExpr.index,LExpr.value,LExpr.args]
abbrev jJ (v : LVal) : PV := .agg (af v)
abbrev pcol (c : LCol) : PV := .agg (aW c)
abbrev jt (e : LExpr) : PV := .agg (im e)
abbrev pvals (l : List LVal) : PV := .list 54 (l.map af)
abbrev jD (l : List LCol) : PV := .list 49 (l.map aW)
abbrev pH (l : List LExpr) : PV := .list 66 (l.map dB)
abbrev pstrs (l : List (List UInt8)) : PV := .list 9 (l.map fun s=>[.str s])
abbrev pints (l : List Int) : PV := .list 3 (l.map fun n=>[al n])
@[simp] def encEnv (v : LEnv) : List PV := [jD v.cols,pvals v.row,pvals v.params,pstrs v.vnames,pvals v.vvals]
abbrev penv (v : LEnv) : PV := .agg (encEnv v)
theorem ro {l : List LExpr} {j : Nat} (h : j < l.length) : (l.map dB)[((j : Nat) : Int).toNat]? = some (im l[j]) := by
 simp [h,dq]
def bh {α : Type} (p : α → Bool) (l : List α) : Int := match l.findIdx? p with
 | some i=>i
 | none=>-1
theorem nR {α : Type} {p : α → Bool} {l : List α} {j : Nat} (hlt : j < l.length) (hpre : ∀ x ∈ l.take j,p x = false) (h : p l[j] = true) : bh p l = (j : Int) := by
 have : l.findIdx? p = some j := by
  rw [List.findIdx?_eq_some_iff_getElem]
  refine ⟨hlt,h,fun i hi=>?_⟩
  have := hpre l[i] (List.mem_take_iff_getElem.2 ⟨i,by omega,rfl⟩)
  simp [this]
 simp [bh,this]
theorem jT {α : Type} {p : α → Bool} {l : List α} (hpre : ∀ x ∈ l,p x = false) : bh p l = -1 := by
 have : l.findIdx? p = none := by
  rw [List.findIdx?_eq_none_iff]
  exact hpre
 simp [bh,this]
theorem od {α : Type} {p : α → Bool} {l : List α} {j : Nat} (hlt : j < l.length) (hpre : ∀ x ∈ l.take j,p x = false) (h : p l[j] = false) : ∀ x ∈ l.take (j + 1),p x = false := by
 intro x hx
 rw [List.take_add_one,ze hlt] at hx
 simp only [Option.toList,List.mem_append,List.mem_singleton] at hx
 rcases hx with hx | rfl
 ·exact hpre x hx
 ·exact h
theorem bJ {n : Int} (h1 : -9223372036854775808 ≤ n) (h2 : n ≤ 9223372036854775807) : IntKind.i64.wrap n = n := by
 simp only [IntKind.wrap,IntKind.bits,IntKind.signed]
 simp
 omega
theorem eF {j : Nat} (h : j < maxLen) : al (IntKind.i64.wrap ((j : Int) + 1)) = al ((j + 1 : Nat) : Int) := by
 rw [bJ (by omega) (by simp [maxLen] at h; omega)]
 simp
theorem iR {α : Type} {p : α → Bool} {l : List α} : (decide (bh p l ≥ 0)) = l.any p := by
 rw [Bool.eq_iff_iff]
 simp only [decide_eq_true_eq,List.any_eq_true]
 cases h : l.findIdx? p with
 | none =>
  have e : bh p l = -1 := by simp [bh,h]
  rw [List.findIdx?_eq_none_iff] at h
  rw [e]
  constructor
  ·intro h'; omega
  ·rintro ⟨x,hx,hp⟩; rw [h x hx] at hp; cases hp
 | some i =>
  have e : bh p l = (i : Int) := by simp [bh,h]
  rw [List.findIdx?_eq_some_iff_getElem] at h
  rw [e]
  exact ⟨fun _=>⟨_,List.getElem_mem h.1,h.2.1⟩,fun _=>by omega⟩
abbrev Rq := List LVal
abbrev Rz := List (List LVal)
abbrev bV : Int → List PV := fun n=>[al n]
abbrev gi : Bool → List PV := fun b=>[aL b]
abbrev gn : List UInt8 → List PV := fun s=>[.str s]
abbrev aq {α : Type} (e : TypeId) (f : α → List PV) : List α → List PV := fun l=>[.list e (l.map f)]
theorem natLt {n : Int} {m j : Nat} (hm : n ≤ 2 ^ 62 ∧ m = n.toNat) (h : decide ((j : Int) < n) = true) : j < (List.range m).length := by
 have := of_decide_eq_true h
 simp
 omega
theorem natGe {n : Int} {m j : Nat} (hm : n ≤ 2 ^ 62 ∧ m = n.toNat) (h : decide ((j : Int) < n) = false) : (List.range m).length ≤ j := by
 have := of_decide_eq_false h
 simp
 omega
theorem natX {m j x : Nat} (h : (List.range m)[j]? = some x) : j = x := by
 have := zg.1 h
 obtain ⟨h1,h2⟩ := this
 simpa using h2
theorem qj {n : Int} {m j : Nat} (hm : n ≤ 2 ^ 62 ∧ m = n.toNat) (h : j < (List.range m).length) : al (IntKind.i64.wrap ((j : Int) + 1)) = al ((j + 1 : Nat) : Int) := by
 rw [bJ (by omega) (by simp at h; omega)]
 simp
end
end Go.Proofs.YtlddibnpcmlobaaGreat

namespace Go.Proofs.YtlddibnpcmlobaaGreat
noncomputable section
open Go Go.Ab
attribute [local irreducible] V Ao Gh Eff PH
set_option maxRecDepth 4000
theorem pS {g : FuncId} {caps : List PV} {p : LCol → Bool} (xs : List LCol) (hg : ∀ (vs : Array Value) (w : World),(callFunc g vs).run Tryz.prog w = .ok (.enter g vs) w) (hp : ∀ x ∈ xs,aT Tryz.prog g (.agg (aW x) :: caps) (aL (p x))) :
  aT Tryz.prog 82 [.list 49 (xs.map aW),.fn g caps] (al (bh p xs)) := by
 refine PH.ax Tryz.func82 Tryz.ntmps82 ?_
 repeat (first | refine ak tk rfl ?_ | refine ac ?_ | refine ab ?_ | refine aa ?_ | refine ao ?_ | refine aC rfl ?_ | refine aB rfl ?_ | refine ap ?_ | refine aw ?_ | refine aD rfl ?_ | refine ai tk ?_ | refine au ?_ | refine aF tk ?_ | (refine az tk rfl rfl rfl rfl rfl rfl ?_; intro bk) | refine ag tk ?_)
 refine eV tk 0 rfl rfl fun hl _=>?_
 refine fm (X := Nat) (fun j=>⟨19,upd (upd (upd (upd (fun _=>.any) 0 (.list 49 (xs.map aW))) 1 (.fn g caps)) 7 (al (xs.map aW).length)) 8 (al j),fun _=>none,fun _=>none⟩)
  (fun j=>j ≤ xs.length ∧ ∀ x ∈ xs.take j,p x = false) (fun j=>xs.length - j) 0 ⟨Nat.zero_le _,by simp⟩ (Gh.le (ay (ay (ay (ay br)))) aV aU) ?_
 rintro j ⟨hj,hpre⟩
 repeat (first | refine ak tk rfl ?_ | refine ac ?_ | refine ab ?_ | refine aa ?_ | refine ao ?_ | refine aC rfl ?_ | refine aB rfl ?_ | refine ap ?_ | refine aw ?_ | refine aD rfl ?_ | refine ai tk ?_ | refine au ?_ | refine aF tk ?_ | (refine az tk rfl rfl rfl rfl rfl rfl ?_; intro bk) | refine ag tk ?_)
 refine aQ rfl (fun h=>?_) (fun h=>?_)
 ·have hlt : j < xs.length := by simpa using h
  have hget : xs[j]? = some xs[j] := ze hlt
  repeat (first | refine ak tk rfl ?_ | refine ac ?_ | refine ab ?_ | refine aa ?_ | refine ao ?_ | refine aC rfl ?_ | refine aB rfl ?_ | refine ap ?_ | refine aw ?_ | refine aD rfl ?_ | refine ai tk ?_ | refine au ?_ | refine aF tk ?_ | (refine az tk rfl rfl rfl rfl rfl rfl ?_; intro bk) | refine ag tk ?_)
  refine nN tk rfl rfl rfl rfl rfl rfl (zn j) (r := aW xs[j]) (by simp [hget]) rfl ?_
  repeat (first | refine ak tk rfl ?_ | refine ac ?_ | refine ab ?_ | refine aa ?_ | refine ao ?_ | refine aC rfl ?_ | refine aB rfl ?_ | refine ap ?_ | refine aw ?_ | refine aD rfl ?_ | refine ai tk ?_ | refine au ?_ | refine aF tk ?_ | (refine az tk rfl rfl rfl rfl rfl rfl ?_; intro bk) | refine ag tk ?_)
  refine ae hg (fu.r) (hp xs[j] (List.getElem_mem hlt)) ?_
  repeat (first | refine ak tk rfl ?_ | refine ac ?_ | refine ab ?_ | refine aa ?_ | refine ao ?_ | refine aC rfl ?_ | refine aB rfl ?_ | refine ap ?_ | refine aw ?_ | refine aD rfl ?_ | refine ai tk ?_ | refine au ?_ | refine aF tk ?_ | (refine az tk rfl rfl rfl rfl rfl rfl ?_; intro bk) | refine ag tk ?_)
  refine aQ rfl (fun h=>?_) (fun h=>?_)
  ·repeat (first | refine ak tk rfl ?_ | refine ac ?_ | refine ab ?_ | refine aa ?_ | refine ao ?_ | refine aC rfl ?_ | refine aB rfl ?_ | refine ap ?_ | refine aw ?_ | refine aD rfl ?_ | refine ai tk ?_ | refine au ?_ | refine aF tk ?_ | (refine az tk rfl rfl rfl rfl rfl rfl ?_; intro bk) | refine ag tk ?_)
   refine cQ tk (PLe.q ?_)
   rw [nR hlt hpre h]
  ·repeat (first | refine ak tk rfl ?_ | refine ac ?_ | refine ab ?_ | refine aa ?_ | refine ao ?_ | refine aC rfl ?_ | refine aB rfl ?_ | refine ap ?_ | refine aw ?_ | refine aD rfl ?_ | refine ai tk ?_ | refine au ?_ | refine aF tk ?_ | (refine az tk rfl rfl rfl rfl rfl rfl ?_; intro bk) | refine ag tk ?_)
   refine kj (j + 1) (by omega) ⟨hlt,?_⟩ (Gh.le (bP (PLe.q ?_) (ay (ay (ay br)))) aV aU)
   ·exact od hlt hpre h
   ·exact eF (by simp at hl; omega)
 ·have hge : j = xs.length := by have : ¬ j < xs.length := by simpa using h
                                 omega
  repeat (first | refine ak tk rfl ?_ | refine ac ?_ | refine ab ?_ | refine aa ?_ | refine ao ?_ | refine aC rfl ?_ | refine aB rfl ?_ | refine ap ?_ | refine aw ?_ | refine aD rfl ?_ | refine ai tk ?_ | refine au ?_ | refine aF tk ?_ | (refine az tk rfl rfl rfl rfl rfl rfl ?_; intro bk) | refine ag tk ?_)
  refine cQ tk (PLe.q ?_)
  rw [jT (by rw [hge] at hpre; simpa using hpre)]
theorem indexVal {g : FuncId} {caps : List PV} {p : LVal → Bool} (xs : Rq) (hg : ∀ (vs : Array Value) (w : World),(callFunc g vs).run Tryz.prog w = .ok (.enter g vs) w) (hp : ∀ x ∈ xs,aT Tryz.prog g (.agg (af x) :: caps) (aL (p x))) :
  aT Tryz.prog 119 [.list 54 (xs.map af),.fn g caps] (al (bh p xs)) := by
 refine PH.ax Tryz.func119 Tryz.ntmps119 ?_
 repeat (first | refine ak tk rfl ?_ | refine ac ?_ | refine ab ?_ | refine aa ?_ | refine ao ?_ | refine aC rfl ?_ | refine aB rfl ?_ | refine ap ?_ | refine aw ?_ | refine aD rfl ?_ | refine ai tk ?_ | refine au ?_ | refine aF tk ?_ | (refine az tk rfl rfl rfl rfl rfl rfl ?_; intro bk) | refine ag tk ?_)
 refine eV tk 0 rfl rfl fun hl _=>?_
 refine fm (X := Nat) (fun j=>⟨19,upd (upd (upd (upd (fun _=>.any) 0 (.list 54 (xs.map af))) 1 (.fn g caps)) 7 (al (xs.map af).length)) 8 (al j),fun _=>none,fun _=>none⟩)
  (fun j=>j ≤ xs.length ∧ ∀ x ∈ xs.take j,p x = false) (fun j=>xs.length - j) 0 ⟨Nat.zero_le _,by simp⟩ (Gh.le (ay (ay (ay (ay br)))) aV aU) ?_
 rintro j ⟨hj,hpre⟩
 repeat (first | refine ak tk rfl ?_ | refine ac ?_ | refine ab ?_ | refine aa ?_ | refine ao ?_ | refine aC rfl ?_ | refine aB rfl ?_ | refine ap ?_ | refine aw ?_ | refine aD rfl ?_ | refine ai tk ?_ | refine au ?_ | refine aF tk ?_ | (refine az tk rfl rfl rfl rfl rfl rfl ?_; intro bk) | refine ag tk ?_)
 refine aQ rfl (fun h=>?_) (fun h=>?_)
 ·have hlt : j < xs.length := by simpa using h
  have hget : xs[j]? = some xs[j] := ze hlt
  repeat (first | refine ak tk rfl ?_ | refine ac ?_ | refine ab ?_ | refine aa ?_ | refine ao ?_ | refine aC rfl ?_ | refine aB rfl ?_ | refine ap ?_ | refine aw ?_ | refine aD rfl ?_ | refine ai tk ?_ | refine au ?_ | refine aF tk ?_ | (refine az tk rfl rfl rfl rfl rfl rfl ?_; intro bk) | refine ag tk ?_)
  refine nN tk rfl rfl rfl rfl rfl rfl (zn j) (r := af xs[j]) (by simp [hget]) rfl ?_
  repeat (first | refine ak tk rfl ?_ | refine ac ?_ | refine ab ?_ | refine aa ?_ | refine ao ?_ | refine aC rfl ?_ | refine aB rfl ?_ | refine ap ?_ | refine aw ?_ | refine aD rfl ?_ | refine ai tk ?_ | refine au ?_ | refine aF tk ?_ | (refine az tk rfl rfl rfl rfl rfl rfl ?_; intro bk) | refine ag tk ?_)
  refine ae hg (fu.r) (hp xs[j] (List.getElem_mem hlt)) ?_
  repeat (first | refine ak tk rfl ?_ | refine ac ?_ | refine ab ?_ | refine aa ?_ | refine ao ?_ | refine aC rfl ?_ | refine aB rfl ?_ | refine ap ?_ | refine aw ?_ | refine aD rfl ?_ | refine ai tk ?_ | refine au ?_ | refine aF tk ?_ | (refine az tk rfl rfl rfl rfl rfl rfl ?_; intro bk) | refine ag tk ?_)
  refine aQ rfl (fun h=>?_) (fun h=>?_)
  ·repeat (first | refine ak tk rfl ?_ | refine ac ?_ | refine ab ?_ | refine aa ?_ | refine ao ?_ | refine aC rfl ?_ | refine aB rfl ?_ | refine ap ?_ | refine aw ?_ | refine aD rfl ?_ | refine ai tk ?_ | refine au ?_ | refine aF tk ?_ | (refine az tk rfl rfl rfl rfl rfl rfl ?_; intro bk) | refine ag tk ?_)
   refine cQ tk (PLe.q ?_)
   rw [nR hlt hpre h]
  ·repeat (first | refine ak tk rfl ?_ | refine ac ?_ | refine ab ?_ | refine aa ?_ | refine ao ?_ | refine aC rfl ?_ | refine aB rfl ?_ | refine ap ?_ | refine aw ?_ | refine aD rfl ?_ | refine ai tk ?_ | refine au ?_ | refine aF tk ?_ | (refine az tk rfl rfl rfl rfl rfl rfl ?_; intro bk) | refine ag tk ?_)
   refine kj (j + 1) (by omega) ⟨hlt,?_⟩ (Gh.le (bP (PLe.q ?_) (ay (ay (ay br)))) aV aU)
   ·exact od hlt hpre h
   ·exact eF (by simp at hl; omega)
 ·have hge : j = xs.length := by have : ¬ j < xs.length := by simpa using h
                                 omega
  repeat (first | refine ak tk rfl ?_ | refine ac ?_ | refine ab ?_ | refine aa ?_ | refine ao ?_ | refine aC rfl ?_ | refine aB rfl ?_ | refine ap ?_ | refine aw ?_ | refine aD rfl ?_ | refine ai tk ?_ | refine au ?_ | refine aF tk ?_ | (refine az tk rfl rfl rfl rfl rfl rfl ?_; intro bk) | refine ag tk ?_)
  refine cQ tk (PLe.q ?_)
  rw [jT (by rw [hge] at hpre; simpa using hpre)]
theorem ba {g : FuncId} {caps : List PV} {p : LVal → Bool} (xs : Rq) (hg : ∀ (vs : Array Value) (w : World),(callFunc g vs).run Tryz.prog w = .ok (.enter g vs) w) (hp : ∀ x ∈ xs,aT Tryz.prog g (.agg (af x) :: caps) (aL (p x))) :
  aT Tryz.prog 105 [.list 54 (xs.map af),.fn g caps] (aL (xs.any p)) := by
 refine PH.ax Tryz.func105 Tryz.ntmps105 ?_
 repeat (first | refine ak tk rfl ?_ | refine ac ?_ | refine ab ?_ | refine aa ?_ | refine ao ?_ | refine aC rfl ?_ | refine aB rfl ?_ | refine ap ?_ | refine aw ?_ | refine aD rfl ?_ | refine ai tk ?_ | refine au ?_ | refine aF tk ?_ | (refine az tk rfl rfl rfl rfl rfl rfl ?_; intro bk) | refine ag tk ?_)
 refine ae Tryz.call119 (fu.r) (indexVal xs hg hp) ?_
 repeat (first | refine ak tk rfl ?_ | refine ac ?_ | refine ab ?_ | refine aa ?_ | refine ao ?_ | refine aC rfl ?_ | refine aB rfl ?_ | refine ap ?_ | refine aw ?_ | refine aD rfl ?_ | refine ai tk ?_ | refine au ?_ | refine aF tk ?_ | (refine az tk rfl rfl rfl rfl rfl rfl ?_; intro bk) | refine ag tk ?_)
 refine cQ tk (PLe.q ?_)
 rw [iR]
theorem indexInt {g : FuncId} {caps : List PV} {p : Int → Bool} (xs : List Int) (hg : ∀ (vs : Array Value) (w : World),(callFunc g vs).run Tryz.prog w = .ok (.enter g vs) w) (hp : ∀ x ∈ xs,aT Tryz.prog g (al x :: caps) (aL (p x))) :
  aT Tryz.prog 137 [.list 3 (xs.map fun x=>[al x]),.fn g caps] (al (bh p xs)) := by
 refine PH.ax Tryz.func137 Tryz.ntmps137 ?_
 repeat (first | refine ak tk rfl ?_ | refine ac ?_ | refine ab ?_ | refine aa ?_ | refine ao ?_ | refine aC rfl ?_ | refine aB rfl ?_ | refine ap ?_ | refine aw ?_ | refine aD rfl ?_ | refine ai tk ?_ | refine au ?_ | refine aF tk ?_ | (refine az tk rfl rfl rfl rfl rfl rfl ?_; intro bk) | refine ag tk ?_)
 refine eV tk 0 rfl rfl fun hl _=>?_
 refine fm (X := Nat) (fun j=>⟨19,upd (upd (upd (upd (fun _=>.any) 0 (.list 3 (xs.map fun x=>[al x]))) 1 (.fn g caps)) 7 (al (xs.map fun x=>[al x]).length)) 8 (al j),fun _=>none,fun _=>none⟩)
  (fun j=>j ≤ xs.length ∧ ∀ x ∈ xs.take j,p x = false) (fun j=>xs.length - j) 0 ⟨Nat.zero_le _,by simp⟩ (Gh.le (ay (ay (ay (ay br)))) aV aU) ?_
 rintro j ⟨hj,hpre⟩
 repeat (first | refine ak tk rfl ?_ | refine ac ?_ | refine ab ?_ | refine aa ?_ | refine ao ?_ | refine aC rfl ?_ | refine aB rfl ?_ | refine ap ?_ | refine aw ?_ | refine aD rfl ?_ | refine ai tk ?_ | refine au ?_ | refine aF tk ?_ | (refine az tk rfl rfl rfl rfl rfl rfl ?_; intro bk) | refine ag tk ?_)
 refine aQ rfl (fun h=>?_) (fun h=>?_)
 ·have hlt : j < xs.length := by simpa using h
  have hget : xs[j]? = some xs[j] := ze hlt
  repeat (first | refine ak tk rfl ?_ | refine ac ?_ | refine ab ?_ | refine aa ?_ | refine ao ?_ | refine aC rfl ?_ | refine aB rfl ?_ | refine ap ?_ | refine aw ?_ | refine aD rfl ?_ | refine ai tk ?_ | refine au ?_ | refine aF tk ?_ | (refine az tk rfl rfl rfl rfl rfl rfl ?_; intro bk) | refine ag tk ?_)
  refine nN tk rfl rfl rfl rfl rfl rfl (zn j) (r := [al xs[j]]) (by simp [hget]) rfl ?_
  repeat (first | refine ak tk rfl ?_ | refine ac ?_ | refine ab ?_ | refine aa ?_ | refine ao ?_ | refine aC rfl ?_ | refine aB rfl ?_ | refine ap ?_ | refine aw ?_ | refine aD rfl ?_ | refine ai tk ?_ | refine au ?_ | refine aF tk ?_ | (refine az tk rfl rfl rfl rfl rfl rfl ?_; intro bk) | refine ag tk ?_)
  refine ae hg (fu.r) (hp xs[j] (List.getElem_mem hlt)) ?_
  repeat (first | refine ak tk rfl ?_ | refine ac ?_ | refine ab ?_ | refine aa ?_ | refine ao ?_ | refine aC rfl ?_ | refine aB rfl ?_ | refine ap ?_ | refine aw ?_ | refine aD rfl ?_ | refine ai tk ?_ | refine au ?_ | refine aF tk ?_ | (refine az tk rfl rfl rfl rfl rfl rfl ?_; intro bk) | refine ag tk ?_)
  refine aQ rfl (fun h=>?_) (fun h=>?_)
  ·repeat (first | refine ak tk rfl ?_ | refine ac ?_ | refine ab ?_ | refine aa ?_ | refine ao ?_ | refine aC rfl ?_ | refine aB rfl ?_ | refine ap ?_ | refine aw ?_ | refine aD rfl ?_ | refine ai tk ?_ | refine au ?_ | refine aF tk ?_ | (refine az tk rfl rfl rfl rfl rfl rfl ?_; intro bk) | refine ag tk ?_)
   refine cQ tk (PLe.q ?_)
   rw [nR hlt hpre h]
  ·repeat (first | refine ak tk rfl ?_ | refine ac ?_ | refine ab ?_ | refine aa ?_ | refine ao ?_ | refine aC rfl ?_ | refine aB rfl ?_ | refine ap ?_ | refine aw ?_ | refine aD rfl ?_ | refine ai tk ?_ | refine au ?_ | refine aF tk ?_ | (refine az tk rfl rfl rfl rfl rfl rfl ?_; intro bk) | refine ag tk ?_)
   refine kj (j + 1) (by omega) ⟨hlt,?_⟩ (Gh.le (bP (PLe.q ?_) (ay (ay (ay br)))) aV aU)
   ·exact od hlt hpre h
   ·exact eF (by simp at hl; omega)
 ·have hge : j = xs.length := by have : ¬ j < xs.length := by simpa using h
                                 omega
  repeat (first | refine ak tk rfl ?_ | refine ac ?_ | refine ab ?_ | refine aa ?_ | refine ao ?_ | refine aC rfl ?_ | refine aB rfl ?_ | refine ap ?_ | refine aw ?_ | refine aD rfl ?_ | refine ai tk ?_ | refine au ?_ | refine aF tk ?_ | (refine az tk rfl rfl rfl rfl rfl rfl ?_; intro bk) | refine ag tk ?_)
  refine cQ tk (PLe.q ?_)
  rw [jT (by rw [hge] at hpre; simpa using hpre)]
theorem rM {g : FuncId} {caps : List PV} {p : Int → Bool} (xs : List Int) (hg : ∀ (vs : Array Value) (w : World),(callFunc g vs).run Tryz.prog w = .ok (.enter g vs) w) (hp : ∀ x ∈ xs,aT Tryz.prog g (al x :: caps) (aL (p x))) :
  aT Tryz.prog 132 [.list 3 (xs.map fun x=>[al x]),.fn g caps] (aL (xs.any p)) := by
 refine PH.ax Tryz.func132 Tryz.ntmps132 ?_
 repeat (first | refine ak tk rfl ?_ | refine ac ?_ | refine ab ?_ | refine aa ?_ | refine ao ?_ | refine aC rfl ?_ | refine aB rfl ?_ | refine ap ?_ | refine aw ?_ | refine aD rfl ?_ | refine ai tk ?_ | refine au ?_ | refine aF tk ?_ | (refine az tk rfl rfl rfl rfl rfl rfl ?_; intro bk) | refine ag tk ?_)
 refine ae Tryz.call137 (fu.r) (indexInt xs hg hp) ?_
 repeat (first | refine ak tk rfl ?_ | refine ac ?_ | refine ab ?_ | refine aa ?_ | refine ao ?_ | refine aC rfl ?_ | refine aB rfl ?_ | refine ap ?_ | refine aw ?_ | refine aD rfl ?_ | refine ai tk ?_ | refine au ?_ | refine aF tk ?_ | (refine az tk rfl rfl rfl rfl rfl rfl ?_; intro bk) | refine ag tk ?_)
 refine cQ tk (PLe.q ?_)
 rw [iR]
theorem bv (s : List UInt8) (xs : List (List UInt8)) :
  aT Tryz.prog 48 [pstrs xs,.str s] (al (bh (fun x=>s == x) xs)) := by
 refine PH.ax Tryz.func48 Tryz.ntmps48 ?_
 repeat (first | refine ak tk rfl ?_ | refine ac ?_ | refine ab ?_ | refine aa ?_ | refine ao ?_ | refine aC rfl ?_ | refine aB rfl ?_ | refine ap ?_ | refine aw ?_ | refine aD rfl ?_ | refine ai tk ?_ | refine au ?_ | refine aF tk ?_ | (refine az tk rfl rfl rfl rfl rfl rfl ?_; intro bk) | refine ag tk ?_)
 refine eV tk 0 rfl rfl fun hl _=>?_
 refine fm (X := Nat) (fun j=>⟨19,upd (upd (upd (upd (fun _=>.any) 0 (pstrs xs)) 1 (.str s)) 7 (al (xs.map fun s=>[PV.str s]).length)) 8 (al j),fun _=>none,fun _=>none⟩)
  (fun j=>j ≤ xs.length ∧ ∀ x ∈ xs.take j,(s == x) = false) (fun j=>xs.length - j) 0 ⟨Nat.zero_le _,by simp⟩ (Gh.le (ay (ay (ay (ay br)))) aV aU) ?_
 rintro j ⟨hj,hpre⟩
 repeat (first | refine ak tk rfl ?_ | refine ac ?_ | refine ab ?_ | refine aa ?_ | refine ao ?_ | refine aC rfl ?_ | refine aB rfl ?_ | refine ap ?_ | refine aw ?_ | refine aD rfl ?_ | refine ai tk ?_ | refine au ?_ | refine aF tk ?_ | (refine az tk rfl rfl rfl rfl rfl rfl ?_; intro bk) | refine ag tk ?_)
 refine aQ rfl (fun h=>?_) (fun h=>?_)
 ·have hlt : j < xs.length := by simpa using h
  have hget : xs[j]? = some xs[j] := ze hlt
  repeat (first | refine ak tk rfl ?_ | refine ac ?_ | refine ab ?_ | refine aa ?_ | refine ao ?_ | refine aC rfl ?_ | refine aB rfl ?_ | refine ap ?_ | refine aw ?_ | refine aD rfl ?_ | refine ai tk ?_ | refine au ?_ | refine aF tk ?_ | (refine az tk rfl rfl rfl rfl rfl rfl ?_; intro bk) | refine ag tk ?_)
  refine nN tk rfl rfl rfl rfl rfl rfl (zn j) (r := [.str xs[j]]) (by simp [hget]) rfl ?_
  repeat (first | refine ak tk rfl ?_ | refine ac ?_ | refine ab ?_ | refine aa ?_ | refine ao ?_ | refine aC rfl ?_ | refine aB rfl ?_ | refine ap ?_ | refine aw ?_ | refine aD rfl ?_ | refine ai tk ?_ | refine au ?_ | refine aF tk ?_ | (refine az tk rfl rfl rfl rfl rfl rfl ?_; intro bk) | refine ag tk ?_)
  refine aQ rfl (fun h=>?_) (fun h=>?_)
  ·repeat (first | refine ak tk rfl ?_ | refine ac ?_ | refine ab ?_ | refine aa ?_ | refine ao ?_ | refine aC rfl ?_ | refine aB rfl ?_ | refine ap ?_ | refine aw ?_ | refine aD rfl ?_ | refine ai tk ?_ | refine au ?_ | refine aF tk ?_ | (refine az tk rfl rfl rfl rfl rfl rfl ?_; intro bk) | refine ag tk ?_)
   refine cQ tk (PLe.q ?_)
   rw [nR hlt hpre h]
  ·repeat (first | refine ak tk rfl ?_ | refine ac ?_ | refine ab ?_ | refine aa ?_ | refine ao ?_ | refine aC rfl ?_ | refine aB rfl ?_ | refine ap ?_ | refine aw ?_ | refine aD rfl ?_ | refine ai tk ?_ | refine au ?_ | refine aF tk ?_ | (refine az tk rfl rfl rfl rfl rfl rfl ?_; intro bk) | refine ag tk ?_)
   refine kj (j + 1) (by omega) ⟨hlt,?_⟩ (Gh.le (bP (PLe.q ?_) (ay (ay (ay br)))) aV aU)
   ·exact od (p := fun x=>s == x) hlt hpre h
   ·exact eF (by simp at hl; omega)
 ·have hge : j = xs.length := by have : ¬ j < xs.length := by simpa using h
                                 omega
  repeat (first | refine ak tk rfl ?_ | refine ac ?_ | refine ab ?_ | refine aa ?_ | refine ao ?_ | refine aC rfl ?_ | refine aB rfl ?_ | refine ap ?_ | refine aw ?_ | refine aD rfl ?_ | refine ai tk ?_ | refine au ?_ | refine aF tk ?_ | (refine az tk rfl rfl rfl rfl rfl rfl ?_; intro bk) | refine ag tk ?_)
  refine cQ tk (PLe.q ?_)
  rw [jT (by rw [hge] at hpre; simpa using hpre)]
def dW (v : LVal) : Bool :=
 if v.kind = 0 then decide (v = ⟨0,0,[]⟩) else if v.kind = 1 then v.text == [] && decide (v.int ≥ -1000000000000) && decide (v.int ≤ 1000000000000)
 else if v.kind = 2 then v.text == [] && (v.int == 0 || v.int == 1) else if v.kind = 3 then v.int == 0 && decide (v.text.length ≤ 24) else false
theorem pi (v : LVal) : aT Tryz.prog 30 [jJ v] (aL (dW v)) := by
 refine PH.ax Tryz.func30 Tryz.ntmps30 ?_
 repeat' (first | refine ak tk rfl ?_ | refine ac ?_ | refine ab ?_ | refine aa ?_ | refine ao ?_ | refine aC rfl ?_ | refine aB rfl ?_ | refine ap ?_ | refine aw ?_ | refine aD rfl ?_ | refine ai tk ?_ | refine au ?_ | refine aF tk ?_ | (refine az tk rfl rfl rfl rfl rfl rfl ?_; intro bk) | refine ag tk ?_ | refine aQ rfl (fun h=>?_) (fun h=>?_) | ((fail_if_success refine aR rfl ?_); refine aZ rfl rfl rfl (fun h=>?_) (fun h=>?_)))
 all_goals refine cQ tk (PLe.q ?_)
 all_goals cases v
 all_goals simp_all [dW]
 ·rename_i x _
  rw [Bool.eq_iff_iff]
  cases x <;> simp
 ·omega
 ·omega
def lh (a b : LVal) : Bool :=
 if a.kind ≠ b.kind then decide (a.kind < b.kind) else if a.int ≠ b.int then decide (a.int < b.int) else Op.bytesLess a.text b.text
theorem kT (a b : LVal) : aT Tryz.prog 111 [jJ a,jJ b] (aL (lh a b)) := by
 refine PH.ax Tryz.func111 Tryz.ntmps111 ?_
 repeat' (first | refine ak tk rfl ?_ | refine ac ?_ | refine ab ?_ | refine aa ?_ | refine ao ?_ | refine aC rfl ?_ | refine aB rfl ?_ | refine ap ?_ | refine aw ?_ | refine aD rfl ?_ | refine ai tk ?_ | refine au ?_ | refine aF tk ?_ | (refine az tk rfl rfl rfl rfl rfl rfl ?_; intro bk) | refine ag tk ?_ | refine aQ rfl (fun h=>?_) (fun h=>?_) | ((fail_if_success refine aR rfl ?_); refine aZ rfl rfl rfl (fun h=>?_) (fun h=>?_)))
 all_goals refine cQ tk (PLe.q ?_)
 all_goals simp_all [lh]
def kS (v : LVal) : Bool := v.kind == 2 && v.int == 1
theorem da (v : LVal) : aT Tryz.prog 58 [jJ v] (aL (kS v)) := by
 refine PH.ax Tryz.func58 Tryz.ntmps58 ?_
 repeat' (first | refine ak tk rfl ?_ | refine ac ?_ | refine ab ?_ | refine aa ?_ | refine ao ?_ | refine aC rfl ?_ | refine aB rfl ?_ | refine ap ?_ | refine aw ?_ | refine aD rfl ?_ | refine ai tk ?_ | refine au ?_ | refine aF tk ?_ | (refine az tk rfl rfl rfl rfl rfl rfl ?_; intro bk) | refine ag tk ?_ | refine aQ rfl (fun h=>?_) (fun h=>?_) | ((fail_if_success refine aR rfl ?_); refine aZ rfl rfl rfl (fun h=>?_) (fun h=>?_)))
 all_goals refine cQ tk (PLe.q ?_)
 all_goals simp_all [kS]
def lW (b : Bool) : LVal := ⟨2,if b then 1 else 0,[]⟩
theorem bf (b : Bool) : aT Tryz.prog 103 [aL b] (jJ (lW b)) := by
 refine PH.ax Tryz.func103 Tryz.ntmps103 ?_
 repeat' (first | refine ak tk rfl ?_ | refine ac ?_ | refine ab ?_ | refine aa ?_ | refine ao ?_ | refine aC rfl ?_ | refine aB rfl ?_ | refine ap ?_ | refine aw ?_ | refine aD rfl ?_ | refine ai tk ?_ | refine au ?_ | refine aF tk ?_ | (refine az tk rfl rfl rfl rfl rfl rfl ?_; intro bk) | refine ag tk ?_ | refine aQ rfl (fun h=>?_) (fun h=>?_) | ((fail_if_success refine aR rfl ?_); refine aZ rfl rfl rfl (fun h=>?_) (fun h=>?_)))
 all_goals refine ct tk (PLe.q ?_)
 all_goals simp_all [lW]
def intV (n : Int) : LVal := if n < -1000000000000 ∨ n > 1000000000000 then .nul else ⟨1,n,[]⟩
theorem qM (n : Int) : aT Tryz.prog 108 [al n] (jJ (intV n)) := by
 refine PH.ax Tryz.func108 Tryz.ntmps108 ?_
 repeat' (first | refine ak tk rfl ?_ | refine ac ?_ | refine ab ?_ | refine aa ?_ | refine ao ?_ | refine aC rfl ?_ | refine aB rfl ?_ | refine ap ?_ | refine aw ?_ | refine aD rfl ?_ | refine ai tk ?_ | refine au ?_ | refine aF tk ?_ | (refine az tk rfl rfl rfl rfl rfl rfl ?_; intro bk) | refine ag tk ?_ | refine aQ rfl (fun h=>?_) (fun h=>?_) | ((fail_if_success refine aR rfl ?_); refine aZ rfl rfl rfl (fun h=>?_) (fun h=>?_)))
 all_goals refine ct tk (PLe.q ?_)
 all_goals simp_all [intV,LVal.nul]
 all_goals (rw [zy (by omega)]; try simp)
def wr (n : Int) : Int := IntKind.i64.wrap n
def nE (op : List UInt8) (a b : Int) : LVal :=
 if op = [43] then intV (wr (a + b)) else if op = [45] then intV (wr (a - b)) else if a = 0 ∨ b = 0 then intV 0
 else if wr ((wr (a * b)).tdiv b) = a then intV (wr (a * b)) else .nul
theorem rh (op : List UInt8) (a b : Int) : aT Tryz.prog 122 [.str op,al a,al b] (jJ (nE op a b)) := by
 refine PH.ax Tryz.func122 Tryz.ntmps122 ?_
 repeat' (first | refine ak tk rfl ?_ | refine ac ?_ | refine ab ?_ | refine aa ?_ | refine ao ?_ | refine aC rfl ?_ | refine aB rfl ?_ | refine ap ?_ | refine aw ?_ | refine aD rfl ?_ | refine ai tk ?_ | refine au ?_ | refine aF tk ?_ | (refine az tk rfl rfl rfl rfl rfl rfl ?_; intro bk) | refine ag tk ?_ | refine aQ rfl (fun h=>?_) (fun h=>?_) | ((fail_if_success refine aR rfl ?_); refine aZ rfl rfl rfl (fun h=>?_) (fun h=>?_)) | (show Ao _ _ _ _ _; first | refine ae Tryz.call108 (fu.r) (qM _) ?_))
 case refine_2.refine_2.refine_2.refine_2 =>
  refine Ao.quo tk rfl rfl rfl rfl (by simpa using h) rfl ?_
  repeat' (first | refine ak tk rfl ?_ | refine ac ?_ | refine ab ?_ | refine aa ?_ | refine ao ?_ | refine aC rfl ?_ | refine aB rfl ?_ | refine ap ?_ | refine aw ?_ | refine aD rfl ?_ | refine ai tk ?_ | refine au ?_ | refine aF tk ?_ | (refine az tk rfl rfl rfl rfl rfl rfl ?_; intro bk) | refine ag tk ?_ | refine aQ rfl (fun h=>?_) (fun h=>?_) | ((fail_if_success refine aR rfl ?_); refine aZ rfl rfl rfl (fun h=>?_) (fun h=>?_)) | (show Ao _ _ _ _ _; first | refine ae Tryz.call108 (fu.r) (qM _) ?_))
  all_goals refine ct tk (PLe.q ?_)
  all_goals simp_all [nE,wr,LVal.nul]
 all_goals refine ct tk (PLe.q ?_)
 all_goals simp_all [nE,wr]
end
end Go.Proofs.YtlddibnpcmlobaaGreat

namespace Go.Proofs.YtlddibnpcmlobaaGreat
noncomputable section
open Go Go.Ab
attribute [local irreducible] V Ao Do Gh Eff PH IntKind.wrap
set_option maxRecDepth 4000
theorem bl (v : LVal) : aT Tryz.prog 106 [jJ v] (aL (v.kind == 0)) := by
 refine PH.ax Tryz.func106 Tryz.ntmps106 ?_
 repeat' (first | refine ak tk rfl ?_ | refine ac ?_ | refine ab ?_ | refine aa ?_ | refine ao ?_ | refine aC rfl ?_ | refine aB rfl ?_ | refine ap ?_ | refine aw ?_ | refine aD rfl ?_ | refine ai tk ?_ | refine au ?_ | refine aF tk ?_ | (refine az tk rfl rfl rfl rfl rfl rfl ?_; intro bk) | refine ag tk ?_ | refine aQ rfl (fun h=>?_) (fun h=>?_) | ((fail_if_success refine aR rfl ?_); refine aZ rfl rfl rfl (fun h=>?_) (fun h=>?_)))
 all_goals refine cQ tk (PLe.q rfl)
theorem bothIs_spec (v : LVal) (n : Int) : aT Tryz.prog 118 [jJ v,al n] (aL (v.kind == 2 && v.int == n)) := by
 refine PH.ax Tryz.func118 Tryz.ntmps118 ?_
 repeat' (first | refine ak tk rfl ?_ | refine ac ?_ | refine ab ?_ | refine aa ?_ | refine ao ?_ | refine aC rfl ?_ | refine aB rfl ?_ | refine ap ?_ | refine aw ?_ | refine aD rfl ?_ | refine ai tk ?_ | refine au ?_ | refine aF tk ?_ | (refine az tk rfl rfl rfl rfl rfl rfl ?_; intro bk) | refine ag tk ?_ | refine aQ rfl (fun h=>?_) (fun h=>?_) | ((fail_if_success refine aR rfl ?_); refine aZ rfl rfl rfl (fun h=>?_) (fun h=>?_)))
 all_goals refine cQ tk (PLe.q ?_)
 all_goals simp_all
theorem sy (v : LVal) (n : Int) : aT Tryz.prog 121 [jJ v,.ptr [al n]] (aL (v.kind != n)) := by
 refine PH.ax Tryz.func121 Tryz.ntmps121 ?_
 repeat' (first | refine ak tk rfl ?_ | refine ac ?_ | refine ab ?_ | refine aa ?_ | refine ao ?_ | refine aC rfl ?_ | refine aB rfl ?_ | refine ap ?_ | refine aw ?_ | refine aD rfl ?_ | refine ai tk ?_ | refine au ?_ | refine aF tk ?_ | (refine az tk rfl rfl rfl rfl rfl rfl ?_; intro bk) | refine ag tk ?_ | refine aQ rfl (fun h=>?_) (fun h=>?_) | ((fail_if_success refine aR rfl ?_); refine aZ rfl rfl rfl (fun h=>?_) (fun h=>?_)))
 all_goals refine cQ tk (PLe.q rfl)
theorem kP (n : Int) (l : Rq) : aT Tryz.prog 120 [al n,.ptr [pvals l]] (aL (!(l.any fun v=>v.kind != n))) := by
 refine PH.ax Tryz.func120 Tryz.ntmps120 ?_
 repeat' (first | refine ak tk rfl ?_ | refine ac ?_ | refine ab ?_ | refine aa ?_ | refine ao ?_ | refine aC rfl ?_ | refine aB rfl ?_ | refine ap ?_ | refine aw ?_ | refine aD rfl ?_ | refine ai tk ?_ | refine au ?_ | refine aF tk ?_ | (refine az tk rfl rfl rfl rfl rfl rfl ?_; intro bk) | refine ag tk ?_ | refine aQ rfl (fun h=>?_) (fun h=>?_) | ((fail_if_success refine aR rfl ?_); refine aZ rfl rfl rfl (fun h=>?_) (fun h=>?_)) | (show Ao _ _ _ _ _; first | refine ae Tryz.call105 (fu.r) (ba (p := fun v=>v.kind != n) l Tryz.call121 fun v _=>sy v n) ?_))
 all_goals refine cQ tk (PLe.q rfl)
def dd : List (List UInt8) := [[43],[45],[42],[61],[60],[60,61],[97,110,100],[111,114],[110,111,116],[124,124],[105,115,32,110,117,108,108],[108,101,110,103,116,104],[105,102]]
def opArity : List Int := [2,2,2,2,2,2,2,2,1,2,1,1,3]
theorem cN : aT Tryz.prog 102 [] (.tup [pstrs dd,pints opArity]) := by
 refine PH.ax Tryz.func102 Tryz.ntmps102 ?_
 repeat (first | refine ak tk rfl ?_ | refine ac ?_ | refine ab ?_ | refine aa ?_ | refine ao ?_ | refine aC rfl ?_ | refine aB rfl ?_ | refine ap ?_ | refine aw ?_ | refine aD rfl ?_ | refine ai tk ?_ | refine au ?_ | refine aF tk ?_ | (refine az tk rfl rfl rfl rfl rfl rfl ?_; intro bk) | refine ag tk ?_)
 refine tc tk rfl rfl rfl (PLe.q ?_)
 rfl
def bothV (a b : LVal) (d : Int) : LVal :=
 if (a.kind == 2 && a.int == d) || (b.kind == 2 && b.int == d) then lW (d == 1)
 else if (a.kind == 2 && a.int == wr (1 - d)) && (b.kind == 2 && b.int == wr (1 - d)) then lW (d == 0) else .nul
theorem bj (a b : LVal) (d : Int) : aT Tryz.prog 104 [jJ a,jJ b,al d] (jJ (bothV a b d)) := by
 refine PH.ax Tryz.func104 Tryz.ntmps104 ?_
 repeat' (first | refine ak tk rfl ?_ | refine ac ?_ | refine ab ?_ | refine aa ?_ | refine ao ?_ | refine aC rfl ?_ | refine aB rfl ?_ | refine ap ?_ | refine aw ?_ | refine aD rfl ?_ | refine ai tk ?_ | refine au ?_ | refine aF tk ?_ | (refine az tk rfl rfl rfl rfl rfl rfl ?_; intro bk) | refine ag tk ?_ | refine aQ rfl (fun h=>?_) (fun h=>?_) | ((fail_if_success refine aR rfl ?_); refine aZ rfl rfl rfl (fun h=>?_) (fun h=>?_)) | (show Ao _ _ _ _ _; first | refine ae Tryz.call118 (fu.r) (bothIs_spec _ _) ?_ | refine ae Tryz.call103 (fu.r) (bf _) ?_))
 all_goals refine ct tk (PLe.q ?_)
 all_goals (simp only [bothV,wr, *,Bool.or_true,Bool.true_or,Bool.or_self,Bool.and_self,Bool.and_false,Bool.false_and,Bool.false_eq_true,if_true,if_false]; try rfl)
def iU (n : Int) (l : Rq) : Bool := !(l.any fun v=>v.kind != n)
def jd (op : List UInt8) (l : Rq) : LVal :=
 let a := l.getD 0 .nul
 let b := l.getD 1 .nul
 if op == [61] then lW (decide (a = b)) else if op == [60] then lW (lh a b) else if op == [60,61] then lW (!lh b a)
 else if op == [110,111,116] then (if iU 2 l then lW (a.int == 0) else .nul)
 else if op == [108,101,110,103,116,104] then (if iU 3 l then intV a.text.length else .nul)
 else if op == [124,124] then (if iU 3 l && decide (a.text.length + b.text.length ≤ 24) then ⟨3,0,a.text ++ b.text⟩ else .nul)
 else if iU 1 l then nE op a.int b.int else .nul
theorem valEq (a b : LVal) : (a.kind == b.kind && (a.int == b.int && (a.text == b.text && true))) = decide (a = b) := by
 cases a; cases b
 rw [Bool.eq_iff_iff]
 simp
theorem mA (op : List UInt8) (a : LVal) (hop : op = [110,111,116] ∨ op = [108,101,110,103,116,104]) : aT Tryz.prog 107 [.str op,pvals [a]] (jJ (jd op [a])) := by
 rcases hop with rfl | rfl
 ·refine PH.ax Tryz.func107 Tryz.ntmps107 ?_
  repeat' (first | refine ak tk rfl ?_ | refine ac ?_ | refine ab ?_ | refine aa ?_ | refine ao ?_ | refine aC rfl ?_ | refine aB rfl ?_ | refine ap ?_ | refine aw ?_ | refine aD rfl ?_ | refine ai tk ?_ | refine au ?_ | refine aF tk ?_ | (refine az tk rfl rfl rfl rfl rfl rfl ?_; intro bk) | refine ag tk ?_ | refine aQ rfl (fun h=>?_) (fun h=>?_) | ((fail_if_success refine aR rfl ?_); refine aZ rfl rfl rfl (fun h=>?_) (fun h=>?_)) | (show Ao _ _ _ _ _; first | refine ae Tryz.call120 (fu.r) (kP _ _) ?_ | refine ae Tryz.call103 (fu.r) (bf _) ?_))
  all_goals refine ct tk (PLe.q ?_)
  all_goals simp_all [jd,LVal.nul,iU]
 ·refine PH.ax Tryz.func107 Tryz.ntmps107 ?_
  repeat' (first | refine ak tk rfl ?_ | refine ac ?_ | refine ab ?_ | refine aa ?_ | refine ao ?_ | refine aC rfl ?_ | refine aB rfl ?_ | refine ap ?_ | refine aw ?_ | refine aD rfl ?_ | refine ai tk ?_ | refine au ?_ | refine aF tk ?_ | (refine az tk rfl rfl rfl rfl rfl rfl ?_; intro bk) | refine ag tk ?_ | refine aQ rfl (fun h=>?_) (fun h=>?_) | ((fail_if_success refine aR rfl ?_); refine aZ rfl rfl rfl (fun h=>?_) (fun h=>?_)) | (show Ao _ _ _ _ _; first | refine ae Tryz.call120 (fu.r) (kP _ _) ?_ | refine ae Tryz.call108 (fu.r) (qM _) ?_))
  all_goals refine ct tk (PLe.q ?_)
  all_goals simp_all [jd,LVal.nul,iU]
theorem cD (op : List UInt8) (a b : LVal) (h1 : (op == [110,111,116]) = false) (h2 : (op == [108,101,110,103,116,104]) = false) : aT Tryz.prog 107 [.str op,pvals [a,b]] (jJ (jd op [a,b])) := by
 refine PH.ax Tryz.func107 Tryz.ntmps107 ?_
 refine V.textF 1 rfl fun hq=>?_
 have ha : a.text.length ≤ iM := hq (af a) (by simp) _ (by simp)
 have hb : b.text.length ≤ iM := hq (af b) (by simp) _ (by simp)
 clear hq
 repeat' (first | (show Ao _ _ _ _ _; first | refine ak tk rfl ?_ | refine ac ?_ | refine ai tk ?_ | refine au ?_ | refine aF tk ?_ | (refine az tk rfl rfl rfl rfl rfl rfl ?_; intro bk) | refine ag tk ?_ | refine ae Tryz.call120 (fu.r) (kP _ _) ?_ | refine ae Tryz.call103 (fu.r) (bf _) ?_ | refine ae Tryz.call111 (fu.r) (kT _ _) ?_ | refine ae Tryz.call122 (fu.r) (rh _ _ _) ?_ | ((fail_if_success refine aR rfl ?_); refine aZ rfl rfl rfl (fun h=>?_) (fun h=>?_))) | (show V _ _ _ _ _; first | refine ab ?_ | refine aa ?_ | refine ao ?_ | refine aC rfl ?_ | refine aB rfl ?_ | refine ap ?_ | refine aw ?_ | refine aD rfl ?_ | (show V _ _ _ (.code (.region 6 _ true) :: _) _; refine aJ tk mok ⟨false,false,[]⟩ [0,1,2,3,4,5,6,7,8] rfl (by decide +kernel) rfl ?_) | (show V _ _ _ (.code (.region 8 _ true) :: _) _; refine aJ tk mok ⟨false,false,[]⟩ [0,1,2,3,4,5,6,7,8] rfl (by decide +kernel) rfl ?_) | (show V _ _ _ (.code (.region 10 _ true) :: _) _; refine aJ tk mok ⟨false,false,[]⟩ [0,1,2,3,4,5,6,7,8,9] rfl (by decide +kernel) rfl ?_) | (show V _ _ _ (.code (.region 18 _ true) :: _) _; refine aJ tk mok ⟨false,false,[]⟩ [0,1,2,3,4,5,6,7,8,9,10,11,12,13,14,15] rfl (by decide +kernel) rfl ?_) | (show V _ _ _ (.code (.region 19 _ true) :: _) _; refine aJ tk mok ⟨false,false,[]⟩ [0,1,2,3,4,5,6,7,8,9,10] rfl (by decide +kernel) rfl ?_) | (show V _ _ _ (.code (.region 4 _ true) :: _) _; refine aJ tk mok ⟨false,false,[]⟩ [0,1,2,3,4,5,6,7,8,9,10] rfl (by decide +kernel) rfl ?_) | refine aQ rfl (fun h=>?_) (fun h=>?_)) | (show Do _ _ _ _ _ _ _; first | refine bo rfl ?_ | refine aP ?_ | refine bg fun bk=>?_ | refine bQ rfl rfl rfl rfl rfl rfl rfl rfl rfl rfl rfl rfl ?_ | refine aH ?_ | refine am Tryz.call120 (fu.r) (kP _ _) ?_ | refine am Tryz.call103 (fu.r) (bf _) ?_ | refine am Tryz.call111 (fu.r) (kT _ _) ?_ | refine am Tryz.call122 (fu.r) (rh _ _ _) ?_ | ((fail_if_success refine be rfl rfl ?_); refine bA rfl rfl rfl rfl (fun h=>?_) (fun h=>?_))))
 all_goals have hw : IntKind.i64.wrap ((a.text.length : Int) + (b.text.length : Int)) = (a.text.length : Int) + (b.text.length : Int) := bJ (by omega) (by unfold iM at ha hb; omega)
 all_goals try (exfalso; simp_all; done)
 case refine_2.refine_2.refine_2.refine_2.refine_2.refine_1.refine_1.refine_1 =>
  have hc : a.text.length + b.text.length ≤ 24 := by
   simp only [decide_eq_true_eq] at h
   have : IntKind.i64.wrap ((a.text.length : Int) + (b.text.length : Int)) ≤ 24 := h
   omega
  refine Do.cat rfl rfl rfl rfl rfl (by unfold iM; omega) rfl ?_
  repeat (first | refine bo rfl ?_ | refine aP ?_ | refine bg fun bk=>?_ | refine bQ rfl rfl rfl rfl rfl rfl rfl rfl rfl rfl rfl rfl ?_ | refine aH ?_)
  refine ct tk (PLe.q ?_)
  simp_all [jd,iU]
 all_goals refine ct tk (PLe.q ?_)
 all_goals try simp only [valEq]
 case refine_2.refine_2.refine_2.refine_2.refine_2.refine_1.refine_1.refine_2 =>
  rw [hw] at h
  have hc : ¬ a.text.length + b.text.length ≤ 24 := by
   simp only [decide_eq_false_iff_not] at h
   omega
  simp_all [jd,iU,LVal.nul]
  rw [zy (by omega)]
  exact ⟨rfl,rfl,rfl⟩
 case refine_2.refine_2.refine_2.refine_2.refine_2.refine_1.refine_2 =>
  simp_all [jd,iU,LVal.nul]
  rw [zy (fun hh=>h hh.1.1 hh.1.2)]
  exact ⟨rfl,rfl,rfl⟩
 case refine_2.refine_2.refine_2.refine_2.refine_2.refine_2.refine_2 =>
  simp_all [jd,iU,LVal.nul]
  rw [zy (fun hh=>h hh.1 hh.2)]
  exact ⟨rfl,rfl,rfl⟩
 all_goals simp_all [jd,iU,LVal.nul]
def bX (name : List UInt8) : Option Nat :=
 if name == [43] || name == [45] || name == [42] || name == [61] || name == [60] || name == [60,61] || name == [97,110,100] || name == [111,114] || name == [124,124] then some 2
 else if name == [110,111,116] || name == [105,115,32,110,117,108,108] || name == [108,101,110,103,116,104] then some 1
 else if name == [105,102] then some 3 else none
def bN (name : List UInt8) (l : Rq) : LVal :=
 let a := l.getD 0 .nul
 let b := l.getD 1 .nul
 let c := l.getD 2 .nul
 if bX name ≠ some l.length then .nul
 else if name == [105,115,32,110,117,108,108] then lW (a.kind == 0)
 else if name == [105,102] then (if kS a then b else c)
 else if name == [97,110,100] then bothV a b 0
 else if name == [111,114] then bothV a b 1
 else if l.any (fun v=>v.kind == 0) then .nul else jd name l
mutual
def bY (v : LEnv) : LExpr → LVal
 | .mk k n i x args =>
  if k == 1 then x
  else if k == 2 then (let j := bh (fun c : LCol=>c.name == n) v.cols
   if 0 ≤ j ∧ j < v.row.length then v.row.getD j.toNat .nul else .nul)
  else if k == 3 then (if 0 ≤ i ∧ i < v.params.length ∧ (v.params.getD i.toNat .nul).kind = x.kind then v.params.getD i.toNat .nul else .nul)
  else if k == 4 then (let j := bh (fun s : List UInt8=>n == s) v.vnames
   if 0 ≤ j ∧ j < v.vvals.length then v.vvals.getD j.toNat .nul else .nul)
  else if k == 5 then bN n (evalEs v args)
  else .nul
def evalEs (v : LEnv) : List LExpr → Rq
 | []=>[]
 | e :: r=>bY v e :: evalEs v r
end
theorem qf (v : LEnv) : ∀ l,evalEs v l = l.map (bY v)
 | []=>rfl
 | e :: r=>by simp [evalEs,qf v r]
theorem ix {α : Type} : ∀ {l : List α},l.length = 2 → ∃ a b,l = [a,b]
 | [a,b],_=>⟨a,b,rfl⟩
theorem len3 {α : Type} : ∀ {l : List α},l.length = 3 → ∃ a b c,l = [a,b,c]
 | [a,b,c],_=>⟨a,b,c,rfl⟩
theorem evalRows {v : LEnv} {args : List LExpr} {j : Nat} (h : j < args.length) : ((args.take j).map (bY v)).map af ++ [af (bY v args[j])] = ((args.take (j + 1)).map (bY v)).map af := by
 rw [List.take_add_one,ze h]
 simp only [List.map_append,Option.toList,List.map_cons,List.map_nil]
theorem rV (v : LEnv) (e : LExpr)
  (ih : ∀ a ∈ e.args,aT Tryz.prog 59 [penv v,jt a] (jJ (bY v a))) :
  aT Tryz.prog 84 [penv v,jt e] (jJ (bN e.name (e.args.map (bY v)))) := by
 refine PH.ax Tryz.func84 Tryz.ntmps84 ?_
 repeat (first | refine ak tk rfl ?_ | refine ac ?_ | refine ab ?_ | refine aa ?_ | refine ao ?_ | refine aC rfl ?_ | refine aB rfl ?_ | refine ap ?_ | refine aw ?_ | refine aD rfl ?_ | refine ai tk ?_ | refine au ?_ | refine aF tk ?_ | (refine az tk rfl rfl rfl rfl rfl rfl ?_; intro bk) | refine ag tk ?_)
 refine eV tk 12 rfl rfl fun hl hby=>?_
 rw [zl] at hl hby
 have hby' : e.args.length * 88 ≤ 2 ^ 47 := hby
 refine hX tk 5 5 (e := 54) rfl rfl ?_
 refine fm (X := Nat × OwnRef) (fun X=>⟨92,upd (upd (upd (upd (upd (upd (upd (fun _=>.any) 5 (.own 5 X.2 (((e.args.take X.1).map (bY v)).map af).length)) 4 (.box 4 bk 0)) 3 (.ptr (im e))) 2 (.ptr (encEnv v))) 12 (pH e.args)) 13 (al (e.args.map dB).length)) 14 (al X.1),upd (fun _=>none) 4 (some ⟨bk,af .nul⟩),upd (fun _=>none) 5 (some ⟨X.2,54,((e.args.take X.1).map (bY v)).map af,true⟩)⟩)
  (fun X=>X.1 ≤ e.args.length) (fun X=>e.args.length - X.1) (0,⟨none,0⟩) (Nat.zero_le _) (Gh.le (ay (ay (ay (ay (ay (ay (ay br))))))) (bC rfl (fu.r) aV) (bI aU)) ?_
 rintro ⟨j,g⟩ hj
 replace hj : j ≤ e.args.length := hj
 repeat (first | refine ak tk rfl ?_ | refine ac ?_ | refine ab ?_ | refine aa ?_ | refine ao ?_ | refine aC rfl ?_ | refine aB rfl ?_ | refine ap ?_ | refine aw ?_ | refine aD rfl ?_ | refine ai tk ?_ | refine au ?_ | refine aF tk ?_ | (refine az tk rfl rfl rfl rfl rfl rfl ?_; intro bk) | refine ag tk ?_)
 refine aQ rfl (fun h=>?_) (fun h=>?_)
 ·have hlt : j < e.args.length := by simpa using h
  repeat (first | refine ak tk rfl ?_ | refine ac ?_ | refine ab ?_ | refine aa ?_ | refine ao ?_ | refine aC rfl ?_ | refine aB rfl ?_ | refine ap ?_ | refine aw ?_ | refine aD rfl ?_ | refine ai tk ?_ | refine au ?_ | refine aF tk ?_ | (refine az tk rfl rfl rfl rfl rfl rfl ?_; intro bk) | refine ag tk ?_)
  refine bd tk (zn j) (ro hlt) ?_
  repeat (first | refine ak tk rfl ?_ | refine ac ?_ | refine ab ?_ | refine aa ?_ | refine ao ?_ | refine aC rfl ?_ | refine aB rfl ?_ | refine ap ?_ | refine aw ?_ | refine aD rfl ?_ | refine ai tk ?_ | refine au ?_ | refine aF tk ?_ | (refine az tk rfl rfl rfl rfl rfl rfl ?_; intro bk) | refine ag tk ?_)
  refine ae Tryz.call59 (fu.r) (ih _ (List.getElem_mem hlt)) ?_
  repeat (first | refine ak tk rfl ?_ | refine ac ?_ | refine ab ?_ | refine aa ?_ | refine ao ?_ | refine aC rfl ?_ | refine aB rfl ?_ | refine ap ?_ | refine aw ?_ | refine aD rfl ?_ | refine ai tk ?_ | refine au ?_ | refine aF tk ?_ | (refine az tk rfl rfl rfl rfl rfl rfl ?_; intro bk) | refine ag tk ?_)
  refine sn (rows2 := [af (bY v e.args[j])]) tk rfl rfl rfl rfl rfl rfl rfl rfl rfl rfl rfl rfl rfl ?_ ?_ fun g'=>?_
  ·simp only [zl,List.length_take,List.length_cons,List.length_nil]
   rw [Nat.min_eq_left hj]
   show (j + 1) * 32 ≤ 2 ^ 47
   omega
  ·simp only [zl,List.length_take,List.length_cons,List.length_nil]
   omega
  repeat (first | refine ak tk rfl ?_ | refine ac ?_ | refine ab ?_ | refine aa ?_ | refine ao ?_ | refine aC rfl ?_ | refine aB rfl ?_ | refine ap ?_ | refine aw ?_ | refine aD rfl ?_ | refine ai tk ?_ | refine au ?_ | refine aF tk ?_ | (refine az tk rfl rfl rfl rfl rfl rfl ?_; intro bk) | refine ag tk ?_)
  rw [evalRows hlt]
  refine kj (j + 1,g') ?_ ?_ (Gh.le (bP (PLe.q (eF (by omega))) (ay (ay (ay (ay (ay (ay br))))))) (bC rfl (fu.r) aV) (bI aU))
  ·show e.args.length - (j + 1) < e.args.length - j
   omega
  ·exact hlt
 have hge : j = e.args.length := by have : ¬ j < e.args.length := by simpa using h
                                    omega
 subst hge
 refine eo 5 rfl rfl rfl ?_
 simp only [List.take_length]
 generalize e.args.map (bY v) = L
 refine ce (st' := ⟨92,upd (upd (upd (fun _=>.any) 5 (pvals L)) 4 (.box 4 bk 0)) 3 (.ptr [al e.kind,.str e.name,al e.index,al e.value.kind,al e.value.int,.str e.value.text,pH e.args]),upd (fun _=>none) 4 (some ⟨bk,af .nul⟩),fun _=>none⟩) (Gh.le (ay (ay (ay br))) (bC rfl (fu.r) aV) aU) ?_
 generalize e.name = name
 by_cases hn : name ∈ dd
 ·simp only [dd,List.mem_cons,List.mem_nil_iff,or_false] at hn
  rcases hn with rfl | rfl | rfl | rfl | rfl | rfl | rfl | rfl | rfl | rfl | rfl | rfl | rfl
  ·have hi : bh (fun x=>[43] == x) dd = 0 := by rfl
   by_cases hl : L.length = 2
   ·obtain ⟨a,b,rfl⟩ := ix hl
    repeat' (first | (show Ao _ _ _ _ _; first | refine ak tk rfl ?_ | refine ac ?_ | refine ai tk ?_ | refine au ?_ | refine aF tk ?_ | (refine az tk rfl rfl rfl rfl rfl rfl ?_; intro bk) | refine ag tk ?_ | refine ae Tryz.call102 (fu.r) (cN) ?_ | refine ae Tryz.call48 (fu.r) (hi ▸ bv _ _) ?_ | refine ae Tryz.call103 (fu.r) (bf _) ?_ | refine ae Tryz.call58 (fu.r) (da _) ?_ | refine ae Tryz.call104 (fu.r) (bj _ _ _) ?_ | refine ae Tryz.call105 (fu.r) (ba (p := fun v=>v.kind == 0) _ Tryz.call106 fun v _=>bl v) ?_ | refine ae Tryz.call107 (fu.r) (cD _ _ _ rfl rfl) ?_ | ((fail_if_success refine aR rfl ?_); refine aZ rfl rfl rfl (fun h=>?_) (fun h=>?_))) | (show V _ _ _ _ _; first | refine ab ?_ | refine aa ?_ | refine ao ?_ | refine aC rfl ?_ | refine aB rfl ?_ | refine ap ?_ | refine aw ?_ | refine aD rfl ?_ | (show V _ _ _ (.code (.region 19 _ true) :: _) _; refine aJ tk mok ⟨false,false,[]⟩ [0,1,2,3,4,5,6,7] rfl (by decide +kernel) rfl ?_) | (show V _ _ _ (.code (.region 21 _ true) :: _) _; refine aJ tk mok ⟨false,false,[]⟩ [0,1,2,3,4,5,6,7] rfl (by decide +kernel) rfl ?_) | refine aQ rfl (fun h=>?_) (fun h=>?_)) | (show Do _ _ _ _ _ _ _; first | refine bo rfl ?_ | refine aP ?_ | refine bg fun bk=>?_ | refine bQ rfl rfl rfl rfl rfl rfl rfl rfl rfl rfl rfl rfl ?_ | refine aH ?_ | refine am Tryz.call102 (fu.r) (cN) ?_ | refine am Tryz.call48 (fu.r) (hi ▸ bv _ _) ?_ | refine am Tryz.call103 (fu.r) (bf _) ?_ | refine am Tryz.call58 (fu.r) (da _) ?_ | refine am Tryz.call104 (fu.r) (bj _ _ _) ?_ | refine am Tryz.call105 (fu.r) (ba (p := fun v=>v.kind == 0) _ Tryz.call106 fun v _=>bl v) ?_ | refine am Tryz.call107 (fu.r) (cD _ _ _ rfl rfl) ?_ | ((fail_if_success refine be rfl rfl ?_); refine bA rfl rfl rfl rfl (fun h=>?_) (fun h=>?_))))
    all_goals refine ct tk (PLe.q ?_)
    all_goals simp_all [bN,bX,LVal.nul]
   ·repeat' (first | (show Ao _ _ _ _ _; first | refine ak tk rfl ?_ | refine ac ?_ | refine ai tk ?_ | refine au ?_ | refine aF tk ?_ | (refine az tk rfl rfl rfl rfl rfl rfl ?_; intro bk) | refine ag tk ?_ | refine ae Tryz.call102 (fu.r) (cN) ?_ | refine ae Tryz.call48 (fu.r) (hi ▸ bv _ _) ?_ | refine ae Tryz.call103 (fu.r) (bf _) ?_ | refine ae Tryz.call58 (fu.r) (da _) ?_ | refine ae Tryz.call104 (fu.r) (bj _ _ _) ?_ | refine ae Tryz.call105 (fu.r) (ba (p := fun v=>v.kind == 0) _ Tryz.call106 fun v _=>bl v) ?_ | ((fail_if_success refine aR rfl ?_); refine aZ rfl rfl rfl (fun h=>?_) (fun h=>?_))) | (show V _ _ _ _ _; first | refine ab ?_ | refine aa ?_ | refine ao ?_ | refine aC rfl ?_ | refine aB rfl ?_ | refine ap ?_ | refine aw ?_ | refine aD rfl ?_ | (show V _ _ _ (.code (.region 19 _ true) :: _) _; refine aJ tk mok ⟨false,false,[]⟩ [0,1,2,3,4,5,6,7] rfl (by decide +kernel) rfl ?_) | (show V _ _ _ (.code (.region 21 _ true) :: _) _; refine aJ tk mok ⟨false,false,[]⟩ [0,1,2,3,4,5,6,7] rfl (by decide +kernel) rfl ?_) | refine aQ rfl (fun h=>?_) (fun h=>?_)) | (show Do _ _ _ _ _ _ _; first | refine bo rfl ?_ | refine aP ?_ | refine bg fun bk=>?_ | refine bQ rfl rfl rfl rfl rfl rfl rfl rfl rfl rfl rfl rfl ?_ | refine aH ?_ | refine am Tryz.call102 (fu.r) (cN) ?_ | refine am Tryz.call48 (fu.r) (hi ▸ bv _ _) ?_ | refine am Tryz.call103 (fu.r) (bf _) ?_ | refine am Tryz.call58 (fu.r) (da _) ?_ | refine am Tryz.call104 (fu.r) (bj _ _ _) ?_ | refine am Tryz.call105 (fu.r) (ba (p := fun v=>v.kind == 0) _ Tryz.call106 fun v _=>bl v) ?_ | ((fail_if_success refine be rfl rfl ?_); refine bA rfl rfl rfl rfl (fun h=>?_) (fun h=>?_))))
    all_goals try (exfalso; simp_all; omega)
    all_goals refine ct tk (PLe.q ?_)
    all_goals (have : bN [43] L = .nul := by simp [bN,bX]; omega)
    all_goals (rw [this]; rfl)
  ·have hi : bh (fun x=>[45] == x) dd = 1 := by rfl
   by_cases hl : L.length = 2
   ·obtain ⟨a,b,rfl⟩ := ix hl
    repeat' (first | (show Ao _ _ _ _ _; first | refine ak tk rfl ?_ | refine ac ?_ | refine ai tk ?_ | refine au ?_ | refine aF tk ?_ | (refine az tk rfl rfl rfl rfl rfl rfl ?_; intro bk) | refine ag tk ?_ | refine ae Tryz.call102 (fu.r) (cN) ?_ | refine ae Tryz.call48 (fu.r) (hi ▸ bv _ _) ?_ | refine ae Tryz.call103 (fu.r) (bf _) ?_ | refine ae Tryz.call58 (fu.r) (da _) ?_ | refine ae Tryz.call104 (fu.r) (bj _ _ _) ?_ | refine ae Tryz.call105 (fu.r) (ba (p := fun v=>v.kind == 0) _ Tryz.call106 fun v _=>bl v) ?_ | refine ae Tryz.call107 (fu.r) (cD _ _ _ rfl rfl) ?_ | ((fail_if_success refine aR rfl ?_); refine aZ rfl rfl rfl (fun h=>?_) (fun h=>?_))) | (show V _ _ _ _ _; first | refine ab ?_ | refine aa ?_ | refine ao ?_ | refine aC rfl ?_ | refine aB rfl ?_ | refine ap ?_ | refine aw ?_ | refine aD rfl ?_ | (show V _ _ _ (.code (.region 19 _ true) :: _) _; refine aJ tk mok ⟨false,false,[]⟩ [0,1,2,3,4,5,6,7] rfl (by decide +kernel) rfl ?_) | (show V _ _ _ (.code (.region 21 _ true) :: _) _; refine aJ tk mok ⟨false,false,[]⟩ [0,1,2,3,4,5,6,7] rfl (by decide +kernel) rfl ?_) | refine aQ rfl (fun h=>?_) (fun h=>?_)) | (show Do _ _ _ _ _ _ _; first | refine bo rfl ?_ | refine aP ?_ | refine bg fun bk=>?_ | refine bQ rfl rfl rfl rfl rfl rfl rfl rfl rfl rfl rfl rfl ?_ | refine aH ?_ | refine am Tryz.call102 (fu.r) (cN) ?_ | refine am Tryz.call48 (fu.r) (hi ▸ bv _ _) ?_ | refine am Tryz.call103 (fu.r) (bf _) ?_ | refine am Tryz.call58 (fu.r) (da _) ?_ | refine am Tryz.call104 (fu.r) (bj _ _ _) ?_ | refine am Tryz.call105 (fu.r) (ba (p := fun v=>v.kind == 0) _ Tryz.call106 fun v _=>bl v) ?_ | refine am Tryz.call107 (fu.r) (cD _ _ _ rfl rfl) ?_ | ((fail_if_success refine be rfl rfl ?_); refine bA rfl rfl rfl rfl (fun h=>?_) (fun h=>?_))))
    all_goals refine ct tk (PLe.q ?_)
    all_goals simp_all [bN,bX,LVal.nul]
   ·repeat' (first | (show Ao _ _ _ _ _; first | refine ak tk rfl ?_ | refine ac ?_ | refine ai tk ?_ | refine au ?_ | refine aF tk ?_ | (refine az tk rfl rfl rfl rfl rfl rfl ?_; intro bk) | refine ag tk ?_ | refine ae Tryz.call102 (fu.r) (cN) ?_ | refine ae Tryz.call48 (fu.r) (hi ▸ bv _ _) ?_ | refine ae Tryz.call103 (fu.r) (bf _) ?_ | refine ae Tryz.call58 (fu.r) (da _) ?_ | refine ae Tryz.call104 (fu.r) (bj _ _ _) ?_ | refine ae Tryz.call105 (fu.r) (ba (p := fun v=>v.kind == 0) _ Tryz.call106 fun v _=>bl v) ?_ | ((fail_if_success refine aR rfl ?_); refine aZ rfl rfl rfl (fun h=>?_) (fun h=>?_))) | (show V _ _ _ _ _; first | refine ab ?_ | refine aa ?_ | refine ao ?_ | refine aC rfl ?_ | refine aB rfl ?_ | refine ap ?_ | refine aw ?_ | refine aD rfl ?_ | (show V _ _ _ (.code (.region 19 _ true) :: _) _; refine aJ tk mok ⟨false,false,[]⟩ [0,1,2,3,4,5,6,7] rfl (by decide +kernel) rfl ?_) | (show V _ _ _ (.code (.region 21 _ true) :: _) _; refine aJ tk mok ⟨false,false,[]⟩ [0,1,2,3,4,5,6,7] rfl (by decide +kernel) rfl ?_) | refine aQ rfl (fun h=>?_) (fun h=>?_)) | (show Do _ _ _ _ _ _ _; first | refine bo rfl ?_ | refine aP ?_ | refine bg fun bk=>?_ | refine bQ rfl rfl rfl rfl rfl rfl rfl rfl rfl rfl rfl rfl ?_ | refine aH ?_ | refine am Tryz.call102 (fu.r) (cN) ?_ | refine am Tryz.call48 (fu.r) (hi ▸ bv _ _) ?_ | refine am Tryz.call103 (fu.r) (bf _) ?_ | refine am Tryz.call58 (fu.r) (da _) ?_ | refine am Tryz.call104 (fu.r) (bj _ _ _) ?_ | refine am Tryz.call105 (fu.r) (ba (p := fun v=>v.kind == 0) _ Tryz.call106 fun v _=>bl v) ?_ | ((fail_if_success refine be rfl rfl ?_); refine bA rfl rfl rfl rfl (fun h=>?_) (fun h=>?_))))
    all_goals try (exfalso; simp_all; omega)
    all_goals refine ct tk (PLe.q ?_)
    all_goals (have : bN [45] L = .nul := by simp [bN,bX]; omega)
    all_goals (rw [this]; rfl)
  ·have hi : bh (fun x=>[42] == x) dd = 2 := by rfl
   by_cases hl : L.length = 2
   ·obtain ⟨a,b,rfl⟩ := ix hl
    repeat' (first | (show Ao _ _ _ _ _; first | refine ak tk rfl ?_ | refine ac ?_ | refine ai tk ?_ | refine au ?_ | refine aF tk ?_ | (refine az tk rfl rfl rfl rfl rfl rfl ?_; intro bk) | refine ag tk ?_ | refine ae Tryz.call102 (fu.r) (cN) ?_ | refine ae Tryz.call48 (fu.r) (hi ▸ bv _ _) ?_ | refine ae Tryz.call103 (fu.r) (bf _) ?_ | refine ae Tryz.call58 (fu.r) (da _) ?_ | refine ae Tryz.call104 (fu.r) (bj _ _ _) ?_ | refine ae Tryz.call105 (fu.r) (ba (p := fun v=>v.kind == 0) _ Tryz.call106 fun v _=>bl v) ?_ | refine ae Tryz.call107 (fu.r) (cD _ _ _ rfl rfl) ?_ | ((fail_if_success refine aR rfl ?_); refine aZ rfl rfl rfl (fun h=>?_) (fun h=>?_))) | (show V _ _ _ _ _; first | refine ab ?_ | refine aa ?_ | refine ao ?_ | refine aC rfl ?_ | refine aB rfl ?_ | refine ap ?_ | refine aw ?_ | refine aD rfl ?_ | (show V _ _ _ (.code (.region 19 _ true) :: _) _; refine aJ tk mok ⟨false,false,[]⟩ [0,1,2,3,4,5,6,7] rfl (by decide +kernel) rfl ?_) | (show V _ _ _ (.code (.region 21 _ true) :: _) _; refine aJ tk mok ⟨false,false,[]⟩ [0,1,2,3,4,5,6,7] rfl (by decide +kernel) rfl ?_) | refine aQ rfl (fun h=>?_) (fun h=>?_)) | (show Do _ _ _ _ _ _ _; first | refine bo rfl ?_ | refine aP ?_ | refine bg fun bk=>?_ | refine bQ rfl rfl rfl rfl rfl rfl rfl rfl rfl rfl rfl rfl ?_ | refine aH ?_ | refine am Tryz.call102 (fu.r) (cN) ?_ | refine am Tryz.call48 (fu.r) (hi ▸ bv _ _) ?_ | refine am Tryz.call103 (fu.r) (bf _) ?_ | refine am Tryz.call58 (fu.r) (da _) ?_ | refine am Tryz.call104 (fu.r) (bj _ _ _) ?_ | refine am Tryz.call105 (fu.r) (ba (p := fun v=>v.kind == 0) _ Tryz.call106 fun v _=>bl v) ?_ | refine am Tryz.call107 (fu.r) (cD _ _ _ rfl rfl) ?_ | ((fail_if_success refine be rfl rfl ?_); refine bA rfl rfl rfl rfl (fun h=>?_) (fun h=>?_))))
    all_goals refine ct tk (PLe.q ?_)
    all_goals simp_all [bN,bX,LVal.nul]
   ·repeat' (first | (show Ao _ _ _ _ _; first | refine ak tk rfl ?_ | refine ac ?_ | refine ai tk ?_ | refine au ?_ | refine aF tk ?_ | (refine az tk rfl rfl rfl rfl rfl rfl ?_; intro bk) | refine ag tk ?_ | refine ae Tryz.call102 (fu.r) (cN) ?_ | refine ae Tryz.call48 (fu.r) (hi ▸ bv _ _) ?_ | refine ae Tryz.call103 (fu.r) (bf _) ?_ | refine ae Tryz.call58 (fu.r) (da _) ?_ | refine ae Tryz.call104 (fu.r) (bj _ _ _) ?_ | refine ae Tryz.call105 (fu.r) (ba (p := fun v=>v.kind == 0) _ Tryz.call106 fun v _=>bl v) ?_ | ((fail_if_success refine aR rfl ?_); refine aZ rfl rfl rfl (fun h=>?_) (fun h=>?_))) | (show V _ _ _ _ _; first | refine ab ?_ | refine aa ?_ | refine ao ?_ | refine aC rfl ?_ | refine aB rfl ?_ | refine ap ?_ | refine aw ?_ | refine aD rfl ?_ | (show V _ _ _ (.code (.region 19 _ true) :: _) _; refine aJ tk mok ⟨false,false,[]⟩ [0,1,2,3,4,5,6,7] rfl (by decide +kernel) rfl ?_) | (show V _ _ _ (.code (.region 21 _ true) :: _) _; refine aJ tk mok ⟨false,false,[]⟩ [0,1,2,3,4,5,6,7] rfl (by decide +kernel) rfl ?_) | refine aQ rfl (fun h=>?_) (fun h=>?_)) | (show Do _ _ _ _ _ _ _; first | refine bo rfl ?_ | refine aP ?_ | refine bg fun bk=>?_ | refine bQ rfl rfl rfl rfl rfl rfl rfl rfl rfl rfl rfl rfl ?_ | refine aH ?_ | refine am Tryz.call102 (fu.r) (cN) ?_ | refine am Tryz.call48 (fu.r) (hi ▸ bv _ _) ?_ | refine am Tryz.call103 (fu.r) (bf _) ?_ | refine am Tryz.call58 (fu.r) (da _) ?_ | refine am Tryz.call104 (fu.r) (bj _ _ _) ?_ | refine am Tryz.call105 (fu.r) (ba (p := fun v=>v.kind == 0) _ Tryz.call106 fun v _=>bl v) ?_ | ((fail_if_success refine be rfl rfl ?_); refine bA rfl rfl rfl rfl (fun h=>?_) (fun h=>?_))))
    all_goals try (exfalso; simp_all; omega)
    all_goals refine ct tk (PLe.q ?_)
    all_goals (have : bN [42] L = .nul := by simp [bN,bX]; omega)
    all_goals (rw [this]; rfl)
  ·have hi : bh (fun x=>[61] == x) dd = 3 := by rfl
   by_cases hl : L.length = 2
   ·obtain ⟨a,b,rfl⟩ := ix hl
    repeat' (first | (show Ao _ _ _ _ _; first | refine ak tk rfl ?_ | refine ac ?_ | refine ai tk ?_ | refine au ?_ | refine aF tk ?_ | (refine az tk rfl rfl rfl rfl rfl rfl ?_; intro bk) | refine ag tk ?_ | refine ae Tryz.call102 (fu.r) (cN) ?_ | refine ae Tryz.call48 (fu.r) (hi ▸ bv _ _) ?_ | refine ae Tryz.call103 (fu.r) (bf _) ?_ | refine ae Tryz.call58 (fu.r) (da _) ?_ | refine ae Tryz.call104 (fu.r) (bj _ _ _) ?_ | refine ae Tryz.call105 (fu.r) (ba (p := fun v=>v.kind == 0) _ Tryz.call106 fun v _=>bl v) ?_ | refine ae Tryz.call107 (fu.r) (cD _ _ _ rfl rfl) ?_ | ((fail_if_success refine aR rfl ?_); refine aZ rfl rfl rfl (fun h=>?_) (fun h=>?_))) | (show V _ _ _ _ _; first | refine ab ?_ | refine aa ?_ | refine ao ?_ | refine aC rfl ?_ | refine aB rfl ?_ | refine ap ?_ | refine aw ?_ | refine aD rfl ?_ | (show V _ _ _ (.code (.region 19 _ true) :: _) _; refine aJ tk mok ⟨false,false,[]⟩ [0,1,2,3,4,5,6,7] rfl (by decide +kernel) rfl ?_) | (show V _ _ _ (.code (.region 21 _ true) :: _) _; refine aJ tk mok ⟨false,false,[]⟩ [0,1,2,3,4,5,6,7] rfl (by decide +kernel) rfl ?_) | refine aQ rfl (fun h=>?_) (fun h=>?_)) | (show Do _ _ _ _ _ _ _; first | refine bo rfl ?_ | refine aP ?_ | refine bg fun bk=>?_ | refine bQ rfl rfl rfl rfl rfl rfl rfl rfl rfl rfl rfl rfl ?_ | refine aH ?_ | refine am Tryz.call102 (fu.r) (cN) ?_ | refine am Tryz.call48 (fu.r) (hi ▸ bv _ _) ?_ | refine am Tryz.call103 (fu.r) (bf _) ?_ | refine am Tryz.call58 (fu.r) (da _) ?_ | refine am Tryz.call104 (fu.r) (bj _ _ _) ?_ | refine am Tryz.call105 (fu.r) (ba (p := fun v=>v.kind == 0) _ Tryz.call106 fun v _=>bl v) ?_ | refine am Tryz.call107 (fu.r) (cD _ _ _ rfl rfl) ?_ | ((fail_if_success refine be rfl rfl ?_); refine bA rfl rfl rfl rfl (fun h=>?_) (fun h=>?_))))
    all_goals refine ct tk (PLe.q ?_)
    all_goals simp_all [bN,bX,LVal.nul]
   ·repeat' (first | (show Ao _ _ _ _ _; first | refine ak tk rfl ?_ | refine ac ?_ | refine ai tk ?_ | refine au ?_ | refine aF tk ?_ | (refine az tk rfl rfl rfl rfl rfl rfl ?_; intro bk) | refine ag tk ?_ | refine ae Tryz.call102 (fu.r) (cN) ?_ | refine ae Tryz.call48 (fu.r) (hi ▸ bv _ _) ?_ | refine ae Tryz.call103 (fu.r) (bf _) ?_ | refine ae Tryz.call58 (fu.r) (da _) ?_ | refine ae Tryz.call104 (fu.r) (bj _ _ _) ?_ | refine ae Tryz.call105 (fu.r) (ba (p := fun v=>v.kind == 0) _ Tryz.call106 fun v _=>bl v) ?_ | ((fail_if_success refine aR rfl ?_); refine aZ rfl rfl rfl (fun h=>?_) (fun h=>?_))) | (show V _ _ _ _ _; first | refine ab ?_ | refine aa ?_ | refine ao ?_ | refine aC rfl ?_ | refine aB rfl ?_ | refine ap ?_ | refine aw ?_ | refine aD rfl ?_ | (show V _ _ _ (.code (.region 19 _ true) :: _) _; refine aJ tk mok ⟨false,false,[]⟩ [0,1,2,3,4,5,6,7] rfl (by decide +kernel) rfl ?_) | (show V _ _ _ (.code (.region 21 _ true) :: _) _; refine aJ tk mok ⟨false,false,[]⟩ [0,1,2,3,4,5,6,7] rfl (by decide +kernel) rfl ?_) | refine aQ rfl (fun h=>?_) (fun h=>?_)) | (show Do _ _ _ _ _ _ _; first | refine bo rfl ?_ | refine aP ?_ | refine bg fun bk=>?_ | refine bQ rfl rfl rfl rfl rfl rfl rfl rfl rfl rfl rfl rfl ?_ | refine aH ?_ | refine am Tryz.call102 (fu.r) (cN) ?_ | refine am Tryz.call48 (fu.r) (hi ▸ bv _ _) ?_ | refine am Tryz.call103 (fu.r) (bf _) ?_ | refine am Tryz.call58 (fu.r) (da _) ?_ | refine am Tryz.call104 (fu.r) (bj _ _ _) ?_ | refine am Tryz.call105 (fu.r) (ba (p := fun v=>v.kind == 0) _ Tryz.call106 fun v _=>bl v) ?_ | ((fail_if_success refine be rfl rfl ?_); refine bA rfl rfl rfl rfl (fun h=>?_) (fun h=>?_))))
    all_goals try (exfalso; simp_all; omega)
    all_goals refine ct tk (PLe.q ?_)
    all_goals (have : bN [61] L = .nul := by simp [bN,bX]; omega)
    all_goals (rw [this]; rfl)
  ·have hi : bh (fun x=>[60] == x) dd = 4 := by rfl
   by_cases hl : L.length = 2
   ·obtain ⟨a,b,rfl⟩ := ix hl
    repeat' (first | (show Ao _ _ _ _ _; first | refine ak tk rfl ?_ | refine ac ?_ | refine ai tk ?_ | refine au ?_ | refine aF tk ?_ | (refine az tk rfl rfl rfl rfl rfl rfl ?_; intro bk) | refine ag tk ?_ | refine ae Tryz.call102 (fu.r) (cN) ?_ | refine ae Tryz.call48 (fu.r) (hi ▸ bv _ _) ?_ | refine ae Tryz.call103 (fu.r) (bf _) ?_ | refine ae Tryz.call58 (fu.r) (da _) ?_ | refine ae Tryz.call104 (fu.r) (bj _ _ _) ?_ | refine ae Tryz.call105 (fu.r) (ba (p := fun v=>v.kind == 0) _ Tryz.call106 fun v _=>bl v) ?_ | refine ae Tryz.call107 (fu.r) (cD _ _ _ rfl rfl) ?_ | ((fail_if_success refine aR rfl ?_); refine aZ rfl rfl rfl (fun h=>?_) (fun h=>?_))) | (show V _ _ _ _ _; first | refine ab ?_ | refine aa ?_ | refine ao ?_ | refine aC rfl ?_ | refine aB rfl ?_ | refine ap ?_ | refine aw ?_ | refine aD rfl ?_ | (show V _ _ _ (.code (.region 19 _ true) :: _) _; refine aJ tk mok ⟨false,false,[]⟩ [0,1,2,3,4,5,6,7] rfl (by decide +kernel) rfl ?_) | (show V _ _ _ (.code (.region 21 _ true) :: _) _; refine aJ tk mok ⟨false,false,[]⟩ [0,1,2,3,4,5,6,7] rfl (by decide +kernel) rfl ?_) | refine aQ rfl (fun h=>?_) (fun h=>?_)) | (show Do _ _ _ _ _ _ _; first | refine bo rfl ?_ | refine aP ?_ | refine bg fun bk=>?_ | refine bQ rfl rfl rfl rfl rfl rfl rfl rfl rfl rfl rfl rfl ?_ | refine aH ?_ | refine am Tryz.call102 (fu.r) (cN) ?_ | refine am Tryz.call48 (fu.r) (hi ▸ bv _ _) ?_ | refine am Tryz.call103 (fu.r) (bf _) ?_ | refine am Tryz.call58 (fu.r) (da _) ?_ | refine am Tryz.call104 (fu.r) (bj _ _ _) ?_ | refine am Tryz.call105 (fu.r) (ba (p := fun v=>v.kind == 0) _ Tryz.call106 fun v _=>bl v) ?_ | refine am Tryz.call107 (fu.r) (cD _ _ _ rfl rfl) ?_ | ((fail_if_success refine be rfl rfl ?_); refine bA rfl rfl rfl rfl (fun h=>?_) (fun h=>?_))))
    all_goals refine ct tk (PLe.q ?_)
    all_goals simp_all [bN,bX,LVal.nul]
   ·repeat' (first | (show Ao _ _ _ _ _; first | refine ak tk rfl ?_ | refine ac ?_ | refine ai tk ?_ | refine au ?_ | refine aF tk ?_ | (refine az tk rfl rfl rfl rfl rfl rfl ?_; intro bk) | refine ag tk ?_ | refine ae Tryz.call102 (fu.r) (cN) ?_ | refine ae Tryz.call48 (fu.r) (hi ▸ bv _ _) ?_ | refine ae Tryz.call103 (fu.r) (bf _) ?_ | refine ae Tryz.call58 (fu.r) (da _) ?_ | refine ae Tryz.call104 (fu.r) (bj _ _ _) ?_ | refine ae Tryz.call105 (fu.r) (ba (p := fun v=>v.kind == 0) _ Tryz.call106 fun v _=>bl v) ?_ | ((fail_if_success refine aR rfl ?_); refine aZ rfl rfl rfl (fun h=>?_) (fun h=>?_))) | (show V _ _ _ _ _; first | refine ab ?_ | refine aa ?_ | refine ao ?_ | refine aC rfl ?_ | refine aB rfl ?_ | refine ap ?_ | refine aw ?_ | refine aD rfl ?_ | (show V _ _ _ (.code (.region 19 _ true) :: _) _; refine aJ tk mok ⟨false,false,[]⟩ [0,1,2,3,4,5,6,7] rfl (by decide +kernel) rfl ?_) | (show V _ _ _ (.code (.region 21 _ true) :: _) _; refine aJ tk mok ⟨false,false,[]⟩ [0,1,2,3,4,5,6,7] rfl (by decide +kernel) rfl ?_) | refine aQ rfl (fun h=>?_) (fun h=>?_)) | (show Do _ _ _ _ _ _ _; first | refine bo rfl ?_ | refine aP ?_ | refine bg fun bk=>?_ | refine bQ rfl rfl rfl rfl rfl rfl rfl rfl rfl rfl rfl rfl ?_ | refine aH ?_ | refine am Tryz.call102 (fu.r) (cN) ?_ | refine am Tryz.call48 (fu.r) (hi ▸ bv _ _) ?_ | refine am Tryz.call103 (fu.r) (bf _) ?_ | refine am Tryz.call58 (fu.r) (da _) ?_ | refine am Tryz.call104 (fu.r) (bj _ _ _) ?_ | refine am Tryz.call105 (fu.r) (ba (p := fun v=>v.kind == 0) _ Tryz.call106 fun v _=>bl v) ?_ | ((fail_if_success refine be rfl rfl ?_); refine bA rfl rfl rfl rfl (fun h=>?_) (fun h=>?_))))
    all_goals try (exfalso; simp_all; omega)
    all_goals refine ct tk (PLe.q ?_)
    all_goals (have : bN [60] L = .nul := by simp [bN,bX]; omega)
    all_goals (rw [this]; rfl)
  ·have hi : bh (fun x=>[60,61] == x) dd = 5 := by rfl
   by_cases hl : L.length = 2
   ·obtain ⟨a,b,rfl⟩ := ix hl
    repeat' (first | (show Ao _ _ _ _ _; first | refine ak tk rfl ?_ | refine ac ?_ | refine ai tk ?_ | refine au ?_ | refine aF tk ?_ | (refine az tk rfl rfl rfl rfl rfl rfl ?_; intro bk) | refine ag tk ?_ | refine ae Tryz.call102 (fu.r) (cN) ?_ | refine ae Tryz.call48 (fu.r) (hi ▸ bv _ _) ?_ | refine ae Tryz.call103 (fu.r) (bf _) ?_ | refine ae Tryz.call58 (fu.r) (da _) ?_ | refine ae Tryz.call104 (fu.r) (bj _ _ _) ?_ | refine ae Tryz.call105 (fu.r) (ba (p := fun v=>v.kind == 0) _ Tryz.call106 fun v _=>bl v) ?_ | refine ae Tryz.call107 (fu.r) (cD _ _ _ rfl rfl) ?_ | ((fail_if_success refine aR rfl ?_); refine aZ rfl rfl rfl (fun h=>?_) (fun h=>?_))) | (show V _ _ _ _ _; first | refine ab ?_ | refine aa ?_ | refine ao ?_ | refine aC rfl ?_ | refine aB rfl ?_ | refine ap ?_ | refine aw ?_ | refine aD rfl ?_ | (show V _ _ _ (.code (.region 19 _ true) :: _) _; refine aJ tk mok ⟨false,false,[]⟩ [0,1,2,3,4,5,6,7] rfl (by decide +kernel) rfl ?_) | (show V _ _ _ (.code (.region 21 _ true) :: _) _; refine aJ tk mok ⟨false,false,[]⟩ [0,1,2,3,4,5,6,7] rfl (by decide +kernel) rfl ?_) | refine aQ rfl (fun h=>?_) (fun h=>?_)) | (show Do _ _ _ _ _ _ _; first | refine bo rfl ?_ | refine aP ?_ | refine bg fun bk=>?_ | refine bQ rfl rfl rfl rfl rfl rfl rfl rfl rfl rfl rfl rfl ?_ | refine aH ?_ | refine am Tryz.call102 (fu.r) (cN) ?_ | refine am Tryz.call48 (fu.r) (hi ▸ bv _ _) ?_ | refine am Tryz.call103 (fu.r) (bf _) ?_ | refine am Tryz.call58 (fu.r) (da _) ?_ | refine am Tryz.call104 (fu.r) (bj _ _ _) ?_ | refine am Tryz.call105 (fu.r) (ba (p := fun v=>v.kind == 0) _ Tryz.call106 fun v _=>bl v) ?_ | refine am Tryz.call107 (fu.r) (cD _ _ _ rfl rfl) ?_ | ((fail_if_success refine be rfl rfl ?_); refine bA rfl rfl rfl rfl (fun h=>?_) (fun h=>?_))))
    all_goals refine ct tk (PLe.q ?_)
    all_goals simp_all [bN,bX,LVal.nul]
   ·repeat' (first | (show Ao _ _ _ _ _; first | refine ak tk rfl ?_ | refine ac ?_ | refine ai tk ?_ | refine au ?_ | refine aF tk ?_ | (refine az tk rfl rfl rfl rfl rfl rfl ?_; intro bk) | refine ag tk ?_ | refine ae Tryz.call102 (fu.r) (cN) ?_ | refine ae Tryz.call48 (fu.r) (hi ▸ bv _ _) ?_ | refine ae Tryz.call103 (fu.r) (bf _) ?_ | refine ae Tryz.call58 (fu.r) (da _) ?_ | refine ae Tryz.call104 (fu.r) (bj _ _ _) ?_ | refine ae Tryz.call105 (fu.r) (ba (p := fun v=>v.kind == 0) _ Tryz.call106 fun v _=>bl v) ?_ | ((fail_if_success refine aR rfl ?_); refine aZ rfl rfl rfl (fun h=>?_) (fun h=>?_))) | (show V _ _ _ _ _; first | refine ab ?_ | refine aa ?_ | refine ao ?_ | refine aC rfl ?_ | refine aB rfl ?_ | refine ap ?_ | refine aw ?_ | refine aD rfl ?_ | (show V _ _ _ (.code (.region 19 _ true) :: _) _; refine aJ tk mok ⟨false,false,[]⟩ [0,1,2,3,4,5,6,7] rfl (by decide +kernel) rfl ?_) | (show V _ _ _ (.code (.region 21 _ true) :: _) _; refine aJ tk mok ⟨false,false,[]⟩ [0,1,2,3,4,5,6,7] rfl (by decide +kernel) rfl ?_) | refine aQ rfl (fun h=>?_) (fun h=>?_)) | (show Do _ _ _ _ _ _ _; first | refine bo rfl ?_ | refine aP ?_ | refine bg fun bk=>?_ | refine bQ rfl rfl rfl rfl rfl rfl rfl rfl rfl rfl rfl rfl ?_ | refine aH ?_ | refine am Tryz.call102 (fu.r) (cN) ?_ | refine am Tryz.call48 (fu.r) (hi ▸ bv _ _) ?_ | refine am Tryz.call103 (fu.r) (bf _) ?_ | refine am Tryz.call58 (fu.r) (da _) ?_ | refine am Tryz.call104 (fu.r) (bj _ _ _) ?_ | refine am Tryz.call105 (fu.r) (ba (p := fun v=>v.kind == 0) _ Tryz.call106 fun v _=>bl v) ?_ | ((fail_if_success refine be rfl rfl ?_); refine bA rfl rfl rfl rfl (fun h=>?_) (fun h=>?_))))
    all_goals try (exfalso; simp_all; omega)
    all_goals refine ct tk (PLe.q ?_)
    all_goals (have : bN [60,61] L = .nul := by simp [bN,bX]; omega)
    all_goals (rw [this]; rfl)
  ·have hi : bh (fun x=>[97,110,100] == x) dd = 6 := by rfl
   by_cases hl : L.length = 2
   ·obtain ⟨a,b,rfl⟩ := ix hl
    repeat' (first | (show Ao _ _ _ _ _; first | refine ak tk rfl ?_ | refine ac ?_ | refine ai tk ?_ | refine au ?_ | refine aF tk ?_ | (refine az tk rfl rfl rfl rfl rfl rfl ?_; intro bk) | refine ag tk ?_ | refine ae Tryz.call102 (fu.r) (cN) ?_ | refine ae Tryz.call48 (fu.r) (hi ▸ bv _ _) ?_ | refine ae Tryz.call103 (fu.r) (bf _) ?_ | refine ae Tryz.call58 (fu.r) (da _) ?_ | refine ae Tryz.call104 (fu.r) (bj _ _ _) ?_ | refine ae Tryz.call105 (fu.r) (ba (p := fun v=>v.kind == 0) _ Tryz.call106 fun v _=>bl v) ?_ | refine ae Tryz.call107 (fu.r) (cD _ _ _ rfl rfl) ?_ | ((fail_if_success refine aR rfl ?_); refine aZ rfl rfl rfl (fun h=>?_) (fun h=>?_))) | (show V _ _ _ _ _; first | refine ab ?_ | refine aa ?_ | refine ao ?_ | refine aC rfl ?_ | refine aB rfl ?_ | refine ap ?_ | refine aw ?_ | refine aD rfl ?_ | (show V _ _ _ (.code (.region 19 _ true) :: _) _; refine aJ tk mok ⟨false,false,[]⟩ [0,1,2,3,4,5,6,7] rfl (by decide +kernel) rfl ?_) | (show V _ _ _ (.code (.region 21 _ true) :: _) _; refine aJ tk mok ⟨false,false,[]⟩ [0,1,2,3,4,5,6,7] rfl (by decide +kernel) rfl ?_) | refine aQ rfl (fun h=>?_) (fun h=>?_)) | (show Do _ _ _ _ _ _ _; first | refine bo rfl ?_ | refine aP ?_ | refine bg fun bk=>?_ | refine bQ rfl rfl rfl rfl rfl rfl rfl rfl rfl rfl rfl rfl ?_ | refine aH ?_ | refine am Tryz.call102 (fu.r) (cN) ?_ | refine am Tryz.call48 (fu.r) (hi ▸ bv _ _) ?_ | refine am Tryz.call103 (fu.r) (bf _) ?_ | refine am Tryz.call58 (fu.r) (da _) ?_ | refine am Tryz.call104 (fu.r) (bj _ _ _) ?_ | refine am Tryz.call105 (fu.r) (ba (p := fun v=>v.kind == 0) _ Tryz.call106 fun v _=>bl v) ?_ | refine am Tryz.call107 (fu.r) (cD _ _ _ rfl rfl) ?_ | ((fail_if_success refine be rfl rfl ?_); refine bA rfl rfl rfl rfl (fun h=>?_) (fun h=>?_))))
    all_goals refine ct tk (PLe.q ?_)
    all_goals simp_all [bN,bX,LVal.nul]
   ·repeat' (first | (show Ao _ _ _ _ _; first | refine ak tk rfl ?_ | refine ac ?_ | refine ai tk ?_ | refine au ?_ | refine aF tk ?_ | (refine az tk rfl rfl rfl rfl rfl rfl ?_; intro bk) | refine ag tk ?_ | refine ae Tryz.call102 (fu.r) (cN) ?_ | refine ae Tryz.call48 (fu.r) (hi ▸ bv _ _) ?_ | refine ae Tryz.call103 (fu.r) (bf _) ?_ | refine ae Tryz.call58 (fu.r) (da _) ?_ | refine ae Tryz.call104 (fu.r) (bj _ _ _) ?_ | refine ae Tryz.call105 (fu.r) (ba (p := fun v=>v.kind == 0) _ Tryz.call106 fun v _=>bl v) ?_ | ((fail_if_success refine aR rfl ?_); refine aZ rfl rfl rfl (fun h=>?_) (fun h=>?_))) | (show V _ _ _ _ _; first | refine ab ?_ | refine aa ?_ | refine ao ?_ | refine aC rfl ?_ | refine aB rfl ?_ | refine ap ?_ | refine aw ?_ | refine aD rfl ?_ | (show V _ _ _ (.code (.region 19 _ true) :: _) _; refine aJ tk mok ⟨false,false,[]⟩ [0,1,2,3,4,5,6,7] rfl (by decide +kernel) rfl ?_) | (show V _ _ _ (.code (.region 21 _ true) :: _) _; refine aJ tk mok ⟨false,false,[]⟩ [0,1,2,3,4,5,6,7] rfl (by decide +kernel) rfl ?_) | refine aQ rfl (fun h=>?_) (fun h=>?_)) | (show Do _ _ _ _ _ _ _; first | refine bo rfl ?_ | refine aP ?_ | refine bg fun bk=>?_ | refine bQ rfl rfl rfl rfl rfl rfl rfl rfl rfl rfl rfl rfl ?_ | refine aH ?_ | refine am Tryz.call102 (fu.r) (cN) ?_ | refine am Tryz.call48 (fu.r) (hi ▸ bv _ _) ?_ | refine am Tryz.call103 (fu.r) (bf _) ?_ | refine am Tryz.call58 (fu.r) (da _) ?_ | refine am Tryz.call104 (fu.r) (bj _ _ _) ?_ | refine am Tryz.call105 (fu.r) (ba (p := fun v=>v.kind == 0) _ Tryz.call106 fun v _=>bl v) ?_ | ((fail_if_success refine be rfl rfl ?_); refine bA rfl rfl rfl rfl (fun h=>?_) (fun h=>?_))))
    all_goals try (exfalso; simp_all; omega)
    all_goals refine ct tk (PLe.q ?_)
    all_goals (have : bN [97,110,100] L = .nul := by simp [bN,bX]; omega)
    all_goals (rw [this]; rfl)
  ·have hi : bh (fun x=>[111,114] == x) dd = 7 := by rfl
   by_cases hl : L.length = 2
   ·obtain ⟨a,b,rfl⟩ := ix hl
    repeat' (first | (show Ao _ _ _ _ _; first | refine ak tk rfl ?_ | refine ac ?_ | refine ai tk ?_ | refine au ?_ | refine aF tk ?_ | (refine az tk rfl rfl rfl rfl rfl rfl ?_; intro bk) | refine ag tk ?_ | refine ae Tryz.call102 (fu.r) (cN) ?_ | refine ae Tryz.call48 (fu.r) (hi ▸ bv _ _) ?_ | refine ae Tryz.call103 (fu.r) (bf _) ?_ | refine ae Tryz.call58 (fu.r) (da _) ?_ | refine ae Tryz.call104 (fu.r) (bj _ _ _) ?_ | refine ae Tryz.call105 (fu.r) (ba (p := fun v=>v.kind == 0) _ Tryz.call106 fun v _=>bl v) ?_ | refine ae Tryz.call107 (fu.r) (cD _ _ _ rfl rfl) ?_ | ((fail_if_success refine aR rfl ?_); refine aZ rfl rfl rfl (fun h=>?_) (fun h=>?_))) | (show V _ _ _ _ _; first | refine ab ?_ | refine aa ?_ | refine ao ?_ | refine aC rfl ?_ | refine aB rfl ?_ | refine ap ?_ | refine aw ?_ | refine aD rfl ?_ | (show V _ _ _ (.code (.region 19 _ true) :: _) _; refine aJ tk mok ⟨false,false,[]⟩ [0,1,2,3,4,5,6,7] rfl (by decide +kernel) rfl ?_) | (show V _ _ _ (.code (.region 21 _ true) :: _) _; refine aJ tk mok ⟨false,false,[]⟩ [0,1,2,3,4,5,6,7] rfl (by decide +kernel) rfl ?_) | refine aQ rfl (fun h=>?_) (fun h=>?_)) | (show Do _ _ _ _ _ _ _; first | refine bo rfl ?_ | refine aP ?_ | refine bg fun bk=>?_ | refine bQ rfl rfl rfl rfl rfl rfl rfl rfl rfl rfl rfl rfl ?_ | refine aH ?_ | refine am Tryz.call102 (fu.r) (cN) ?_ | refine am Tryz.call48 (fu.r) (hi ▸ bv _ _) ?_ | refine am Tryz.call103 (fu.r) (bf _) ?_ | refine am Tryz.call58 (fu.r) (da _) ?_ | refine am Tryz.call104 (fu.r) (bj _ _ _) ?_ | refine am Tryz.call105 (fu.r) (ba (p := fun v=>v.kind == 0) _ Tryz.call106 fun v _=>bl v) ?_ | refine am Tryz.call107 (fu.r) (cD _ _ _ rfl rfl) ?_ | ((fail_if_success refine be rfl rfl ?_); refine bA rfl rfl rfl rfl (fun h=>?_) (fun h=>?_))))
    all_goals refine ct tk (PLe.q ?_)
    all_goals simp_all [bN,bX,LVal.nul]
   ·repeat' (first | (show Ao _ _ _ _ _; first | refine ak tk rfl ?_ | refine ac ?_ | refine ai tk ?_ | refine au ?_ | refine aF tk ?_ | (refine az tk rfl rfl rfl rfl rfl rfl ?_; intro bk) | refine ag tk ?_ | refine ae Tryz.call102 (fu.r) (cN) ?_ | refine ae Tryz.call48 (fu.r) (hi ▸ bv _ _) ?_ | refine ae Tryz.call103 (fu.r) (bf _) ?_ | refine ae Tryz.call58 (fu.r) (da _) ?_ | refine ae Tryz.call104 (fu.r) (bj _ _ _) ?_ | refine ae Tryz.call105 (fu.r) (ba (p := fun v=>v.kind == 0) _ Tryz.call106 fun v _=>bl v) ?_ | ((fail_if_success refine aR rfl ?_); refine aZ rfl rfl rfl (fun h=>?_) (fun h=>?_))) | (show V _ _ _ _ _; first | refine ab ?_ | refine aa ?_ | refine ao ?_ | refine aC rfl ?_ | refine aB rfl ?_ | refine ap ?_ | refine aw ?_ | refine aD rfl ?_ | (show V _ _ _ (.code (.region 19 _ true) :: _) _; refine aJ tk mok ⟨false,false,[]⟩ [0,1,2,3,4,5,6,7] rfl (by decide +kernel) rfl ?_) | (show V _ _ _ (.code (.region 21 _ true) :: _) _; refine aJ tk mok ⟨false,false,[]⟩ [0,1,2,3,4,5,6,7] rfl (by decide +kernel) rfl ?_) | refine aQ rfl (fun h=>?_) (fun h=>?_)) | (show Do _ _ _ _ _ _ _; first | refine bo rfl ?_ | refine aP ?_ | refine bg fun bk=>?_ | refine bQ rfl rfl rfl rfl rfl rfl rfl rfl rfl rfl rfl rfl ?_ | refine aH ?_ | refine am Tryz.call102 (fu.r) (cN) ?_ | refine am Tryz.call48 (fu.r) (hi ▸ bv _ _) ?_ | refine am Tryz.call103 (fu.r) (bf _) ?_ | refine am Tryz.call58 (fu.r) (da _) ?_ | refine am Tryz.call104 (fu.r) (bj _ _ _) ?_ | refine am Tryz.call105 (fu.r) (ba (p := fun v=>v.kind == 0) _ Tryz.call106 fun v _=>bl v) ?_ | ((fail_if_success refine be rfl rfl ?_); refine bA rfl rfl rfl rfl (fun h=>?_) (fun h=>?_))))
    all_goals try (exfalso; simp_all; omega)
    all_goals refine ct tk (PLe.q ?_)
    all_goals (have : bN [111,114] L = .nul := by simp [bN,bX]; omega)
    all_goals (rw [this]; rfl)
  ·have hi : bh (fun x=>[110,111,116] == x) dd = 8 := by rfl
   by_cases hl : L.length = 1
   ·obtain ⟨a,rfl⟩ := List.length_eq_one_iff.1 hl
    repeat' (first | (show Ao _ _ _ _ _; first | refine ak tk rfl ?_ | refine ac ?_ | refine ai tk ?_ | refine au ?_ | refine aF tk ?_ | (refine az tk rfl rfl rfl rfl rfl rfl ?_; intro bk) | refine ag tk ?_ | refine ae Tryz.call102 (fu.r) (cN) ?_ | refine ae Tryz.call48 (fu.r) (hi ▸ bv _ _) ?_ | refine ae Tryz.call103 (fu.r) (bf _) ?_ | refine ae Tryz.call58 (fu.r) (da _) ?_ | refine ae Tryz.call104 (fu.r) (bj _ _ _) ?_ | refine ae Tryz.call105 (fu.r) (ba (p := fun v=>v.kind == 0) _ Tryz.call106 fun v _=>bl v) ?_ | refine sl (g := 107) rfl rfl rfl Tryz.call107 (fu.r) (mA _ _ (by simp)) rfl ?_ | ((fail_if_success refine aR rfl ?_); refine aZ rfl rfl rfl (fun h=>?_) (fun h=>?_))) | (show V _ _ _ _ _; first | refine ab ?_ | refine aa ?_ | refine ao ?_ | refine aC rfl ?_ | refine aB rfl ?_ | refine ap ?_ | refine aw ?_ | refine aD rfl ?_ | (show V _ _ _ (.code (.region 19 _ true) :: _) _; refine aJ tk mok ⟨false,false,[]⟩ [0,1,2,3,4,5,6,7] rfl (by decide +kernel) rfl ?_) | (show V _ _ _ (.code (.region 21 _ true) :: _) _; refine aJ tk mok ⟨false,false,[]⟩ [0,1,2,3,4,5,6,7] rfl (by decide +kernel) rfl ?_) | refine aQ rfl (fun h=>?_) (fun h=>?_)) | (show Do _ _ _ _ _ _ _; first | refine bo rfl ?_ | refine aP ?_ | refine bg fun bk=>?_ | refine bQ rfl rfl rfl rfl rfl rfl rfl rfl rfl rfl rfl rfl ?_ | refine aH ?_ | refine am Tryz.call102 (fu.r) (cN) ?_ | refine am Tryz.call48 (fu.r) (hi ▸ bv _ _) ?_ | refine am Tryz.call103 (fu.r) (bf _) ?_ | refine am Tryz.call58 (fu.r) (da _) ?_ | refine am Tryz.call104 (fu.r) (bj _ _ _) ?_ | refine am Tryz.call105 (fu.r) (ba (p := fun v=>v.kind == 0) _ Tryz.call106 fun v _=>bl v) ?_ | refine sh (g := 107) rfl rfl rfl rfl Tryz.call107 (fu.r) (mA _ _ (by simp)) rfl ?_ | ((fail_if_success refine be rfl rfl ?_); refine bA rfl rfl rfl rfl (fun h=>?_) (fun h=>?_))))
    all_goals refine ct tk (PLe.q ?_)
    all_goals simp_all [bN,bX,LVal.nul]
   ·repeat' (first | (show Ao _ _ _ _ _; first | refine ak tk rfl ?_ | refine ac ?_ | refine ai tk ?_ | refine au ?_ | refine aF tk ?_ | (refine az tk rfl rfl rfl rfl rfl rfl ?_; intro bk) | refine ag tk ?_ | refine ae Tryz.call102 (fu.r) (cN) ?_ | refine ae Tryz.call48 (fu.r) (hi ▸ bv _ _) ?_ | refine ae Tryz.call103 (fu.r) (bf _) ?_ | refine ae Tryz.call58 (fu.r) (da _) ?_ | refine ae Tryz.call104 (fu.r) (bj _ _ _) ?_ | refine ae Tryz.call105 (fu.r) (ba (p := fun v=>v.kind == 0) _ Tryz.call106 fun v _=>bl v) ?_ | ((fail_if_success refine aR rfl ?_); refine aZ rfl rfl rfl (fun h=>?_) (fun h=>?_))) | (show V _ _ _ _ _; first | refine ab ?_ | refine aa ?_ | refine ao ?_ | refine aC rfl ?_ | refine aB rfl ?_ | refine ap ?_ | refine aw ?_ | refine aD rfl ?_ | (show V _ _ _ (.code (.region 19 _ true) :: _) _; refine aJ tk mok ⟨false,false,[]⟩ [0,1,2,3,4,5,6,7] rfl (by decide +kernel) rfl ?_) | (show V _ _ _ (.code (.region 21 _ true) :: _) _; refine aJ tk mok ⟨false,false,[]⟩ [0,1,2,3,4,5,6,7] rfl (by decide +kernel) rfl ?_) | refine aQ rfl (fun h=>?_) (fun h=>?_)) | (show Do _ _ _ _ _ _ _; first | refine bo rfl ?_ | refine aP ?_ | refine bg fun bk=>?_ | refine bQ rfl rfl rfl rfl rfl rfl rfl rfl rfl rfl rfl rfl ?_ | refine aH ?_ | refine am Tryz.call102 (fu.r) (cN) ?_ | refine am Tryz.call48 (fu.r) (hi ▸ bv _ _) ?_ | refine am Tryz.call103 (fu.r) (bf _) ?_ | refine am Tryz.call58 (fu.r) (da _) ?_ | refine am Tryz.call104 (fu.r) (bj _ _ _) ?_ | refine am Tryz.call105 (fu.r) (ba (p := fun v=>v.kind == 0) _ Tryz.call106 fun v _=>bl v) ?_ | ((fail_if_success refine be rfl rfl ?_); refine bA rfl rfl rfl rfl (fun h=>?_) (fun h=>?_))))
    all_goals try (exfalso; simp_all; omega)
    all_goals refine ct tk (PLe.q ?_)
    all_goals (have : bN [110,111,116] L = .nul := by simp [bN,bX]; omega)
    all_goals (rw [this]; rfl)
  ·have hi : bh (fun x=>[124,124] == x) dd = 9 := by rfl
   by_cases hl : L.length = 2
   ·obtain ⟨a,b,rfl⟩ := ix hl
    repeat' (first | (show Ao _ _ _ _ _; first | refine ak tk rfl ?_ | refine ac ?_ | refine ai tk ?_ | refine au ?_ | refine aF tk ?_ | (refine az tk rfl rfl rfl rfl rfl rfl ?_; intro bk) | refine ag tk ?_ | refine ae Tryz.call102 (fu.r) (cN) ?_ | refine ae Tryz.call48 (fu.r) (hi ▸ bv _ _) ?_ | refine ae Tryz.call103 (fu.r) (bf _) ?_ | refine ae Tryz.call58 (fu.r) (da _) ?_ | refine ae Tryz.call104 (fu.r) (bj _ _ _) ?_ | refine ae Tryz.call105 (fu.r) (ba (p := fun v=>v.kind == 0) _ Tryz.call106 fun v _=>bl v) ?_ | refine ae Tryz.call107 (fu.r) (cD _ _ _ rfl rfl) ?_ | ((fail_if_success refine aR rfl ?_); refine aZ rfl rfl rfl (fun h=>?_) (fun h=>?_))) | (show V _ _ _ _ _; first | refine ab ?_ | refine aa ?_ | refine ao ?_ | refine aC rfl ?_ | refine aB rfl ?_ | refine ap ?_ | refine aw ?_ | refine aD rfl ?_ | (show V _ _ _ (.code (.region 19 _ true) :: _) _; refine aJ tk mok ⟨false,false,[]⟩ [0,1,2,3,4,5,6,7] rfl (by decide +kernel) rfl ?_) | (show V _ _ _ (.code (.region 21 _ true) :: _) _; refine aJ tk mok ⟨false,false,[]⟩ [0,1,2,3,4,5,6,7] rfl (by decide +kernel) rfl ?_) | refine aQ rfl (fun h=>?_) (fun h=>?_)) | (show Do _ _ _ _ _ _ _; first | refine bo rfl ?_ | refine aP ?_ | refine bg fun bk=>?_ | refine bQ rfl rfl rfl rfl rfl rfl rfl rfl rfl rfl rfl rfl ?_ | refine aH ?_ | refine am Tryz.call102 (fu.r) (cN) ?_ | refine am Tryz.call48 (fu.r) (hi ▸ bv _ _) ?_ | refine am Tryz.call103 (fu.r) (bf _) ?_ | refine am Tryz.call58 (fu.r) (da _) ?_ | refine am Tryz.call104 (fu.r) (bj _ _ _) ?_ | refine am Tryz.call105 (fu.r) (ba (p := fun v=>v.kind == 0) _ Tryz.call106 fun v _=>bl v) ?_ | refine am Tryz.call107 (fu.r) (cD _ _ _ rfl rfl) ?_ | ((fail_if_success refine be rfl rfl ?_); refine bA rfl rfl rfl rfl (fun h=>?_) (fun h=>?_))))
    all_goals refine ct tk (PLe.q ?_)
    all_goals simp_all [bN,bX,LVal.nul]
   ·repeat' (first | (show Ao _ _ _ _ _; first | refine ak tk rfl ?_ | refine ac ?_ | refine ai tk ?_ | refine au ?_ | refine aF tk ?_ | (refine az tk rfl rfl rfl rfl rfl rfl ?_; intro bk) | refine ag tk ?_ | refine ae Tryz.call102 (fu.r) (cN) ?_ | refine ae Tryz.call48 (fu.r) (hi ▸ bv _ _) ?_ | refine ae Tryz.call103 (fu.r) (bf _) ?_ | refine ae Tryz.call58 (fu.r) (da _) ?_ | refine ae Tryz.call104 (fu.r) (bj _ _ _) ?_ | refine ae Tryz.call105 (fu.r) (ba (p := fun v=>v.kind == 0) _ Tryz.call106 fun v _=>bl v) ?_ | ((fail_if_success refine aR rfl ?_); refine aZ rfl rfl rfl (fun h=>?_) (fun h=>?_))) | (show V _ _ _ _ _; first | refine ab ?_ | refine aa ?_ | refine ao ?_ | refine aC rfl ?_ | refine aB rfl ?_ | refine ap ?_ | refine aw ?_ | refine aD rfl ?_ | (show V _ _ _ (.code (.region 19 _ true) :: _) _; refine aJ tk mok ⟨false,false,[]⟩ [0,1,2,3,4,5,6,7] rfl (by decide +kernel) rfl ?_) | (show V _ _ _ (.code (.region 21 _ true) :: _) _; refine aJ tk mok ⟨false,false,[]⟩ [0,1,2,3,4,5,6,7] rfl (by decide +kernel) rfl ?_) | refine aQ rfl (fun h=>?_) (fun h=>?_)) | (show Do _ _ _ _ _ _ _; first | refine bo rfl ?_ | refine aP ?_ | refine bg fun bk=>?_ | refine bQ rfl rfl rfl rfl rfl rfl rfl rfl rfl rfl rfl rfl ?_ | refine aH ?_ | refine am Tryz.call102 (fu.r) (cN) ?_ | refine am Tryz.call48 (fu.r) (hi ▸ bv _ _) ?_ | refine am Tryz.call103 (fu.r) (bf _) ?_ | refine am Tryz.call58 (fu.r) (da _) ?_ | refine am Tryz.call104 (fu.r) (bj _ _ _) ?_ | refine am Tryz.call105 (fu.r) (ba (p := fun v=>v.kind == 0) _ Tryz.call106 fun v _=>bl v) ?_ | ((fail_if_success refine be rfl rfl ?_); refine bA rfl rfl rfl rfl (fun h=>?_) (fun h=>?_))))
    all_goals try (exfalso; simp_all; omega)
    all_goals refine ct tk (PLe.q ?_)
    all_goals (have : bN [124,124] L = .nul := by simp [bN,bX]; omega)
    all_goals (rw [this]; rfl)
  ·have hi : bh (fun x=>[105,115,32,110,117,108,108] == x) dd = 10 := by rfl
   by_cases hl : L.length = 1
   ·obtain ⟨a,rfl⟩ := List.length_eq_one_iff.1 hl
    repeat' (first | (show Ao _ _ _ _ _; first | refine ak tk rfl ?_ | refine ac ?_ | refine ai tk ?_ | refine au ?_ | refine aF tk ?_ | (refine az tk rfl rfl rfl rfl rfl rfl ?_; intro bk) | refine ag tk ?_ | refine ae Tryz.call102 (fu.r) (cN) ?_ | refine ae Tryz.call48 (fu.r) (hi ▸ bv _ _) ?_ | refine ae Tryz.call103 (fu.r) (bf _) ?_ | refine ae Tryz.call58 (fu.r) (da _) ?_ | refine ae Tryz.call104 (fu.r) (bj _ _ _) ?_ | refine ae Tryz.call105 (fu.r) (ba (p := fun v=>v.kind == 0) _ Tryz.call106 fun v _=>bl v) ?_ | refine ae Tryz.call107 (fu.r) (cD _ _ _ rfl rfl) ?_ | ((fail_if_success refine aR rfl ?_); refine aZ rfl rfl rfl (fun h=>?_) (fun h=>?_))) | (show V _ _ _ _ _; first | refine ab ?_ | refine aa ?_ | refine ao ?_ | refine aC rfl ?_ | refine aB rfl ?_ | refine ap ?_ | refine aw ?_ | refine aD rfl ?_ | (show V _ _ _ (.code (.region 19 _ true) :: _) _; refine aJ tk mok ⟨false,false,[]⟩ [0,1,2,3,4,5,6,7] rfl (by decide +kernel) rfl ?_) | (show V _ _ _ (.code (.region 21 _ true) :: _) _; refine aJ tk mok ⟨false,false,[]⟩ [0,1,2,3,4,5,6,7] rfl (by decide +kernel) rfl ?_) | refine aQ rfl (fun h=>?_) (fun h=>?_)) | (show Do _ _ _ _ _ _ _; first | refine bo rfl ?_ | refine aP ?_ | refine bg fun bk=>?_ | refine bQ rfl rfl rfl rfl rfl rfl rfl rfl rfl rfl rfl rfl ?_ | refine aH ?_ | refine am Tryz.call102 (fu.r) (cN) ?_ | refine am Tryz.call48 (fu.r) (hi ▸ bv _ _) ?_ | refine am Tryz.call103 (fu.r) (bf _) ?_ | refine am Tryz.call58 (fu.r) (da _) ?_ | refine am Tryz.call104 (fu.r) (bj _ _ _) ?_ | refine am Tryz.call105 (fu.r) (ba (p := fun v=>v.kind == 0) _ Tryz.call106 fun v _=>bl v) ?_ | refine am Tryz.call107 (fu.r) (cD _ _ _ rfl rfl) ?_ | ((fail_if_success refine be rfl rfl ?_); refine bA rfl rfl rfl rfl (fun h=>?_) (fun h=>?_))))
    all_goals refine ct tk (PLe.q ?_)
    all_goals simp_all [bN,bX,LVal.nul]
   ·repeat' (first | (show Ao _ _ _ _ _; first | refine ak tk rfl ?_ | refine ac ?_ | refine ai tk ?_ | refine au ?_ | refine aF tk ?_ | (refine az tk rfl rfl rfl rfl rfl rfl ?_; intro bk) | refine ag tk ?_ | refine ae Tryz.call102 (fu.r) (cN) ?_ | refine ae Tryz.call48 (fu.r) (hi ▸ bv _ _) ?_ | refine ae Tryz.call103 (fu.r) (bf _) ?_ | refine ae Tryz.call58 (fu.r) (da _) ?_ | refine ae Tryz.call104 (fu.r) (bj _ _ _) ?_ | refine ae Tryz.call105 (fu.r) (ba (p := fun v=>v.kind == 0) _ Tryz.call106 fun v _=>bl v) ?_ | ((fail_if_success refine aR rfl ?_); refine aZ rfl rfl rfl (fun h=>?_) (fun h=>?_))) | (show V _ _ _ _ _; first | refine ab ?_ | refine aa ?_ | refine ao ?_ | refine aC rfl ?_ | refine aB rfl ?_ | refine ap ?_ | refine aw ?_ | refine aD rfl ?_ | (show V _ _ _ (.code (.region 19 _ true) :: _) _; refine aJ tk mok ⟨false,false,[]⟩ [0,1,2,3,4,5,6,7] rfl (by decide +kernel) rfl ?_) | (show V _ _ _ (.code (.region 21 _ true) :: _) _; refine aJ tk mok ⟨false,false,[]⟩ [0,1,2,3,4,5,6,7] rfl (by decide +kernel) rfl ?_) | refine aQ rfl (fun h=>?_) (fun h=>?_)) | (show Do _ _ _ _ _ _ _; first | refine bo rfl ?_ | refine aP ?_ | refine bg fun bk=>?_ | refine bQ rfl rfl rfl rfl rfl rfl rfl rfl rfl rfl rfl rfl ?_ | refine aH ?_ | refine am Tryz.call102 (fu.r) (cN) ?_ | refine am Tryz.call48 (fu.r) (hi ▸ bv _ _) ?_ | refine am Tryz.call103 (fu.r) (bf _) ?_ | refine am Tryz.call58 (fu.r) (da _) ?_ | refine am Tryz.call104 (fu.r) (bj _ _ _) ?_ | refine am Tryz.call105 (fu.r) (ba (p := fun v=>v.kind == 0) _ Tryz.call106 fun v _=>bl v) ?_ | ((fail_if_success refine be rfl rfl ?_); refine bA rfl rfl rfl rfl (fun h=>?_) (fun h=>?_))))
    all_goals try (exfalso; simp_all; omega)
    all_goals refine ct tk (PLe.q ?_)
    all_goals (have : bN [105,115,32,110,117,108,108] L = .nul := by simp [bN,bX]; omega)
    all_goals (rw [this]; rfl)
  ·have hi : bh (fun x=>[108,101,110,103,116,104] == x) dd = 11 := by rfl
   by_cases hl : L.length = 1
   ·obtain ⟨a,rfl⟩ := List.length_eq_one_iff.1 hl
    repeat' (first | (show Ao _ _ _ _ _; first | refine ak tk rfl ?_ | refine ac ?_ | refine ai tk ?_ | refine au ?_ | refine aF tk ?_ | (refine az tk rfl rfl rfl rfl rfl rfl ?_; intro bk) | refine ag tk ?_ | refine ae Tryz.call102 (fu.r) (cN) ?_ | refine ae Tryz.call48 (fu.r) (hi ▸ bv _ _) ?_ | refine ae Tryz.call103 (fu.r) (bf _) ?_ | refine ae Tryz.call58 (fu.r) (da _) ?_ | refine ae Tryz.call104 (fu.r) (bj _ _ _) ?_ | refine ae Tryz.call105 (fu.r) (ba (p := fun v=>v.kind == 0) _ Tryz.call106 fun v _=>bl v) ?_ | refine sl (g := 107) rfl rfl rfl Tryz.call107 (fu.r) (mA _ _ (by simp)) rfl ?_ | ((fail_if_success refine aR rfl ?_); refine aZ rfl rfl rfl (fun h=>?_) (fun h=>?_))) | (show V _ _ _ _ _; first | refine ab ?_ | refine aa ?_ | refine ao ?_ | refine aC rfl ?_ | refine aB rfl ?_ | refine ap ?_ | refine aw ?_ | refine aD rfl ?_ | (show V _ _ _ (.code (.region 19 _ true) :: _) _; refine aJ tk mok ⟨false,false,[]⟩ [0,1,2,3,4,5,6,7] rfl (by decide +kernel) rfl ?_) | (show V _ _ _ (.code (.region 21 _ true) :: _) _; refine aJ tk mok ⟨false,false,[]⟩ [0,1,2,3,4,5,6,7] rfl (by decide +kernel) rfl ?_) | refine aQ rfl (fun h=>?_) (fun h=>?_)) | (show Do _ _ _ _ _ _ _; first | refine bo rfl ?_ | refine aP ?_ | refine bg fun bk=>?_ | refine bQ rfl rfl rfl rfl rfl rfl rfl rfl rfl rfl rfl rfl ?_ | refine aH ?_ | refine am Tryz.call102 (fu.r) (cN) ?_ | refine am Tryz.call48 (fu.r) (hi ▸ bv _ _) ?_ | refine am Tryz.call103 (fu.r) (bf _) ?_ | refine am Tryz.call58 (fu.r) (da _) ?_ | refine am Tryz.call104 (fu.r) (bj _ _ _) ?_ | refine am Tryz.call105 (fu.r) (ba (p := fun v=>v.kind == 0) _ Tryz.call106 fun v _=>bl v) ?_ | refine sh (g := 107) rfl rfl rfl rfl Tryz.call107 (fu.r) (mA _ _ (by simp)) rfl ?_ | ((fail_if_success refine be rfl rfl ?_); refine bA rfl rfl rfl rfl (fun h=>?_) (fun h=>?_))))
    all_goals refine ct tk (PLe.q ?_)
    all_goals simp_all [bN,bX,LVal.nul]
   ·repeat' (first | (show Ao _ _ _ _ _; first | refine ak tk rfl ?_ | refine ac ?_ | refine ai tk ?_ | refine au ?_ | refine aF tk ?_ | (refine az tk rfl rfl rfl rfl rfl rfl ?_; intro bk) | refine ag tk ?_ | refine ae Tryz.call102 (fu.r) (cN) ?_ | refine ae Tryz.call48 (fu.r) (hi ▸ bv _ _) ?_ | refine ae Tryz.call103 (fu.r) (bf _) ?_ | refine ae Tryz.call58 (fu.r) (da _) ?_ | refine ae Tryz.call104 (fu.r) (bj _ _ _) ?_ | refine ae Tryz.call105 (fu.r) (ba (p := fun v=>v.kind == 0) _ Tryz.call106 fun v _=>bl v) ?_ | ((fail_if_success refine aR rfl ?_); refine aZ rfl rfl rfl (fun h=>?_) (fun h=>?_))) | (show V _ _ _ _ _; first | refine ab ?_ | refine aa ?_ | refine ao ?_ | refine aC rfl ?_ | refine aB rfl ?_ | refine ap ?_ | refine aw ?_ | refine aD rfl ?_ | (show V _ _ _ (.code (.region 19 _ true) :: _) _; refine aJ tk mok ⟨false,false,[]⟩ [0,1,2,3,4,5,6,7] rfl (by decide +kernel) rfl ?_) | (show V _ _ _ (.code (.region 21 _ true) :: _) _; refine aJ tk mok ⟨false,false,[]⟩ [0,1,2,3,4,5,6,7] rfl (by decide +kernel) rfl ?_) | refine aQ rfl (fun h=>?_) (fun h=>?_)) | (show Do _ _ _ _ _ _ _; first | refine bo rfl ?_ | refine aP ?_ | refine bg fun bk=>?_ | refine bQ rfl rfl rfl rfl rfl rfl rfl rfl rfl rfl rfl rfl ?_ | refine aH ?_ | refine am Tryz.call102 (fu.r) (cN) ?_ | refine am Tryz.call48 (fu.r) (hi ▸ bv _ _) ?_ | refine am Tryz.call103 (fu.r) (bf _) ?_ | refine am Tryz.call58 (fu.r) (da _) ?_ | refine am Tryz.call104 (fu.r) (bj _ _ _) ?_ | refine am Tryz.call105 (fu.r) (ba (p := fun v=>v.kind == 0) _ Tryz.call106 fun v _=>bl v) ?_ | ((fail_if_success refine be rfl rfl ?_); refine bA rfl rfl rfl rfl (fun h=>?_) (fun h=>?_))))
    all_goals try (exfalso; simp_all; omega)
    all_goals refine ct tk (PLe.q ?_)
    all_goals (have : bN [108,101,110,103,116,104] L = .nul := by simp [bN,bX]; omega)
    all_goals (rw [this]; rfl)
  ·have hi : bh (fun x=>[105,102] == x) dd = 12 := by rfl
   by_cases hl : L.length = 3
   ·obtain ⟨a,b,c,rfl⟩ := len3 hl
    repeat' (first | (show Ao _ _ _ _ _; first | refine ak tk rfl ?_ | refine ac ?_ | refine ai tk ?_ | refine au ?_ | refine aF tk ?_ | (refine az tk rfl rfl rfl rfl rfl rfl ?_; intro bk) | refine ag tk ?_ | refine ae Tryz.call102 (fu.r) (cN) ?_ | refine ae Tryz.call48 (fu.r) (hi ▸ bv _ _) ?_ | refine ae Tryz.call103 (fu.r) (bf _) ?_ | refine ae Tryz.call58 (fu.r) (da _) ?_ | refine ae Tryz.call104 (fu.r) (bj _ _ _) ?_ | refine ae Tryz.call105 (fu.r) (ba (p := fun v=>v.kind == 0) _ Tryz.call106 fun v _=>bl v) ?_ | refine ae Tryz.call107 (fu.r) (cD _ _ _ rfl rfl) ?_ | ((fail_if_success refine aR rfl ?_); refine aZ rfl rfl rfl (fun h=>?_) (fun h=>?_))) | (show V _ _ _ _ _; first | refine ab ?_ | refine aa ?_ | refine ao ?_ | refine aC rfl ?_ | refine aB rfl ?_ | refine ap ?_ | refine aw ?_ | refine aD rfl ?_ | (show V _ _ _ (.code (.region 19 _ true) :: _) _; refine aJ tk mok ⟨false,false,[]⟩ [0,1,2,3,4,5,6,7] rfl (by decide +kernel) rfl ?_) | (show V _ _ _ (.code (.region 21 _ true) :: _) _; refine aJ tk mok ⟨false,false,[]⟩ [0,1,2,3,4,5,6,7] rfl (by decide +kernel) rfl ?_) | refine aQ rfl (fun h=>?_) (fun h=>?_)) | (show Do _ _ _ _ _ _ _; first | refine bo rfl ?_ | refine aP ?_ | refine bg fun bk=>?_ | refine bQ rfl rfl rfl rfl rfl rfl rfl rfl rfl rfl rfl rfl ?_ | refine aH ?_ | refine am Tryz.call102 (fu.r) (cN) ?_ | refine am Tryz.call48 (fu.r) (hi ▸ bv _ _) ?_ | refine am Tryz.call103 (fu.r) (bf _) ?_ | refine am Tryz.call58 (fu.r) (da _) ?_ | refine am Tryz.call104 (fu.r) (bj _ _ _) ?_ | refine am Tryz.call105 (fu.r) (ba (p := fun v=>v.kind == 0) _ Tryz.call106 fun v _=>bl v) ?_ | refine am Tryz.call107 (fu.r) (cD _ _ _ rfl rfl) ?_ | ((fail_if_success refine be rfl rfl ?_); refine bA rfl rfl rfl rfl (fun h=>?_) (fun h=>?_))))
    all_goals refine ct tk (PLe.q ?_)
    all_goals simp_all [bN,bX,LVal.nul]
   ·repeat' (first | (show Ao _ _ _ _ _; first | refine ak tk rfl ?_ | refine ac ?_ | refine ai tk ?_ | refine au ?_ | refine aF tk ?_ | (refine az tk rfl rfl rfl rfl rfl rfl ?_; intro bk) | refine ag tk ?_ | refine ae Tryz.call102 (fu.r) (cN) ?_ | refine ae Tryz.call48 (fu.r) (hi ▸ bv _ _) ?_ | refine ae Tryz.call103 (fu.r) (bf _) ?_ | refine ae Tryz.call58 (fu.r) (da _) ?_ | refine ae Tryz.call104 (fu.r) (bj _ _ _) ?_ | refine ae Tryz.call105 (fu.r) (ba (p := fun v=>v.kind == 0) _ Tryz.call106 fun v _=>bl v) ?_ | ((fail_if_success refine aR rfl ?_); refine aZ rfl rfl rfl (fun h=>?_) (fun h=>?_))) | (show V _ _ _ _ _; first | refine ab ?_ | refine aa ?_ | refine ao ?_ | refine aC rfl ?_ | refine aB rfl ?_ | refine ap ?_ | refine aw ?_ | refine aD rfl ?_ | (show V _ _ _ (.code (.region 19 _ true) :: _) _; refine aJ tk mok ⟨false,false,[]⟩ [0,1,2,3,4,5,6,7] rfl (by decide +kernel) rfl ?_) | (show V _ _ _ (.code (.region 21 _ true) :: _) _; refine aJ tk mok ⟨false,false,[]⟩ [0,1,2,3,4,5,6,7] rfl (by decide +kernel) rfl ?_) | refine aQ rfl (fun h=>?_) (fun h=>?_)) | (show Do _ _ _ _ _ _ _; first | refine bo rfl ?_ | refine aP ?_ | refine bg fun bk=>?_ | refine bQ rfl rfl rfl rfl rfl rfl rfl rfl rfl rfl rfl rfl ?_ | refine aH ?_ | refine am Tryz.call102 (fu.r) (cN) ?_ | refine am Tryz.call48 (fu.r) (hi ▸ bv _ _) ?_ | refine am Tryz.call103 (fu.r) (bf _) ?_ | refine am Tryz.call58 (fu.r) (da _) ?_ | refine am Tryz.call104 (fu.r) (bj _ _ _) ?_ | refine am Tryz.call105 (fu.r) (ba (p := fun v=>v.kind == 0) _ Tryz.call106 fun v _=>bl v) ?_ | ((fail_if_success refine be rfl rfl ?_); refine bA rfl rfl rfl rfl (fun h=>?_) (fun h=>?_))))
    all_goals try (exfalso; simp_all; omega)
    all_goals refine ct tk (PLe.q ?_)
    all_goals (have : bN [105,102] L = .nul := by simp [bN,bX]; omega)
    all_goals (rw [this]; rfl)
 have hi : bh (fun x=>name == x) dd = -1 := jT fun x hx=>by
  cases hb : name == x with
  | false=>rfl
  | true=>exact absurd (by rw [eq_of_beq hb]; exact hx) hn
 repeat' (first | (show Ao _ _ _ _ _; first | refine ak tk rfl ?_ | refine ac ?_ | refine ai tk ?_ | refine au ?_ | refine aF tk ?_ | (refine az tk rfl rfl rfl rfl rfl rfl ?_; intro bk) | refine ag tk ?_ | refine ae Tryz.call102 (fu.r) (cN) ?_ | refine ae Tryz.call48 (fu.r) (hi ▸ bv _ _) ?_ | ((fail_if_success refine aR rfl ?_); refine aZ rfl rfl rfl (fun h=>?_) (fun h=>?_))) | (show V _ _ _ _ _; first | refine ab ?_ | refine aa ?_ | refine ao ?_ | refine aC rfl ?_ | refine aB rfl ?_ | refine ap ?_ | refine aw ?_ | refine aD rfl ?_ | (show V _ _ _ (.code (.region 19 _ true) :: _) _; refine aJ tk mok ⟨false,false,[]⟩ [0,1,2,3,4,5,6,7] rfl (by decide +kernel) rfl ?_) | (show V _ _ _ (.code (.region 21 _ true) :: _) _; refine aJ tk mok ⟨false,false,[]⟩ [0,1,2,3,4,5,6,7] rfl (by decide +kernel) rfl ?_) | refine aQ rfl (fun h=>?_) (fun h=>?_)) | (show Do _ _ _ _ _ _ _; first | refine bo rfl ?_ | refine aP ?_ | refine bg fun bk=>?_ | refine bQ rfl rfl rfl rfl rfl rfl rfl rfl rfl rfl rfl rfl ?_ | refine aH ?_ | refine am Tryz.call102 (fu.r) (cN) ?_ | refine am Tryz.call48 (fu.r) (hi ▸ bv _ _) ?_ | ((fail_if_success refine be rfl rfl ?_); refine bA rfl rfl rfl rfl (fun h=>?_) (fun h=>?_))))
 all_goals refine ct tk (PLe.q ?_)
 have : bX name = none := by
  simp only [dd,List.mem_cons,List.mem_nil_iff,or_false,not_or] at hn
  simp [bX,hn]
 have : bN name L = .nul := by simp [bN,this]
 rw [this]
 rfl
theorem rg (c : LCol) (e : LExpr) : aT Tryz.prog 83 [pcol c,.ptr (im e)] (aL (c.name == e.name)) := by
 refine PH.ax Tryz.func83 Tryz.ntmps83 ?_
 repeat' (first | (show Ao _ _ _ _ _; first | refine ak tk rfl ?_ | refine ac ?_ | refine ai tk ?_ | refine au ?_ | refine aF tk ?_ | (refine az tk rfl rfl rfl rfl rfl rfl ?_; intro bk) | refine ag tk ?_ | ((fail_if_success refine aR rfl ?_); refine aZ rfl rfl rfl (fun h=>?_) (fun h=>?_))) | (show V _ _ _ _ _; first | refine ab ?_ | refine aa ?_ | refine ao ?_ | refine aC rfl ?_ | refine aB rfl ?_ | refine ap ?_ | refine aw ?_ | refine aD rfl ?_ | refine aQ rfl (fun h=>?_) (fun h=>?_)) | (show Do _ _ _ _ _ _ _; first | refine bo rfl ?_ | refine aP ?_ | refine bg fun bk=>?_ | refine bQ rfl rfl rfl rfl rfl rfl rfl rfl rfl rfl rfl rfl ?_ | refine aH ?_ | ((fail_if_success refine be rfl rfl ?_); refine bA rfl rfl rfl rfl (fun h=>?_) (fun h=>?_))))
 all_goals refine cQ tk (PLe.q rfl)
theorem getVal {l : Rq} {j : Int} (h0 : 0 ≤ j) (h : j < ((l.map af).length : Int)) : (l.map af)[j.toNat]? = some (af (l.getD j.toNat .nul)) := by
 simp at h
 have : j.toNat < l.length := by omega
 simp [this]
theorem mh (v : LEnv) (e : LExpr) : bY v e =
  if e.kind == 1 then e.value
  else if e.kind == 2 then (if 0 ≤ bh (fun c : LCol=>c.name == e.name) v.cols ∧ bh (fun c : LCol=>c.name == e.name) v.cols < v.row.length then v.row.getD (bh (fun c : LCol=>c.name == e.name) v.cols).toNat .nul else .nul)
  else if e.kind == 3 then (if 0 ≤ e.index ∧ e.index < v.params.length ∧ (v.params.getD e.index.toNat .nul).kind = e.value.kind then v.params.getD e.index.toNat .nul else .nul)
  else if e.kind == 4 then (if 0 ≤ bh (fun s : List UInt8=>e.name == s) v.vnames ∧ bh (fun s : List UInt8=>e.name == s) v.vnames < v.vvals.length then v.vvals.getD (bh (fun s : List UInt8=>e.name == s) v.vnames).toNat .nul else .nul)
  else if e.kind == 5 then bN e.name (e.args.map (bY v))
  else .nul := by
 cases e
 rw [bY,qf]
 rfl
theorem evalStep (v : LEnv) (e : LExpr) (ih : ∀ a ∈ e.args,aT Tryz.prog 59 [penv v,jt a] (jJ (bY v a))) :
  aT Tryz.prog 59 [penv v,jt e] (jJ (bY v e)) := by
 refine PH.ax Tryz.func59 Tryz.ntmps59 ?_
 repeat' (first | (show Ao _ _ _ _ _; first | refine ak tk rfl ?_ | refine ac ?_ | refine ai tk ?_ | refine au ?_ | refine aF tk ?_ | (refine az tk rfl rfl rfl rfl rfl rfl ?_; intro bk) | refine ag tk ?_ | refine ae Tryz.call82 (fu.r) (pS (p := fun c=>c.name == e.name) _ Tryz.call83 fun c _=>rg c e) ?_ | refine ae Tryz.call48 (fu.r) (bv _ _) ?_ | refine ae Tryz.call84 (fu.r) (rV v e ih) ?_ | refine nN tk rfl rfl rfl rfl rfl rfl (of_decide_eq_true (by assumption)) (getVal (of_decide_eq_true (by assumption)) (of_decide_eq_true (by assumption))) rfl ?_ | ((fail_if_success refine aR rfl ?_); refine aZ rfl rfl rfl (fun h=>?_) (fun h=>?_))) | (show V _ _ _ _ _; first | refine ab ?_ | refine aa ?_ | refine ao ?_ | refine aC rfl ?_ | refine aB rfl ?_ | refine ap ?_ | refine aw ?_ | refine aD rfl ?_ | (show V _ _ _ (.code (.region 9 _ true) :: _) _; refine aJ tk mok ⟨false,false,[]⟩ [0,1,2,3,4,5,6,7,8,9,10,11,12,13,14,15,16,17,18,19,20,21,22,23] rfl (by decide +kernel) rfl ?_) | refine aQ rfl (fun h=>?_) (fun h=>?_)) | (show Do _ _ _ _ _ _ _; first | refine bo rfl ?_ | refine aP ?_ | refine bg fun bk=>?_ | refine bQ rfl rfl rfl rfl rfl rfl rfl rfl rfl rfl rfl rfl ?_ | refine aH ?_ | refine am Tryz.call82 (fu.r) (pS (p := fun c=>c.name == e.name) _ Tryz.call83 fun c _=>rg c e) ?_ | refine am Tryz.call48 (fu.r) (bv _ _) ?_ | refine am Tryz.call84 (fu.r) (rV v e ih) ?_ | refine sZ rfl rfl rfl rfl rfl rfl rfl (of_decide_eq_true (by assumption)) (getVal (of_decide_eq_true (by assumption)) (of_decide_eq_true (by assumption))) rfl ?_ | ((fail_if_success refine be rfl rfl ?_); refine bA rfl rfl rfl rfl (fun h=>?_) (fun h=>?_))))
 all_goals refine ct tk (PLe.q ?_)
 all_goals rw [mh]
 all_goals simp_all [LVal.nul]
 all_goals rw [zy (by omega)]
 all_goals exact ⟨rfl,rfl,rfl⟩
theorem mH (v : LEnv) : ∀ e : LExpr,aT Tryz.prog 59 [penv v,jt e] (jJ (bY v e))
 | .mk k n i x args=>evalStep v (.mk k n i x args) fun a ha=>by
  have ha' : a ∈ args := ha
  exact mH v a
def lit (v : LVal) : LExpr := .mk 1 [] 0 v []
theorem eval_lit (v : LEnv) (x : LVal) : bY v (lit x) = x := by simp [mh,lit,LExpr.kind,LExpr.value]
end
end Go.Proofs.YtlddibnpcmlobaaGreat
