/- sortRunsAreSortedChunks_holds, part 4: the layer, the plain functions and what they compute; conditions as in the statement. -/
import Derived.Test.YtnnieenoapkefaaGreatDoorSrc
set_option maxHeartbeats 4000000
namespace Go.Cx
noncomputable section
open Go Go.Ab
open Go.RowKit (Below)
section
variable {P : Program} {T : TT} (hT : T.Ok P) {W0 : World} {B : Nat → Option Go.Obj} {call : ca} (hc : eY P W0 call) {ops : Array Oper} {b : Array Nat} {nx0 N : Nat} {df : List (FuncId × List DV)} {tr : List DS}
theorem all_listed (h : Tra T call ops b nx0 tr) {listed : Array Bool} (hsz : listed.size = ops.size) (hr : Region.ready .any ops listed = []) : ∀ i,i < ops.size → XL listed i := by
 intro i
 induction i using Nat.strongRecOn with
 | _ i ih =>
  intro hi
  cases hx : listed.getD i false with
  | true=>exact hx
  | false =>
   exfalso
   have hil : i < listed.size := by rw [hsz]; exact hi
   have hmem : i ∈ Region.ready .any ops listed := by
    refine mem_ready.2 ⟨?_,ops[i],by simp [hi],fun e he hb=>?_⟩
    ·rw [Array.getD_eq_getD_getElem?,Array.getElem?_eq_getElem hil] at hx ⊢
     exact hx
    ·have hlt := h.edge i ops[i] (by simp [hi]) e he hb
     exact ih e.on hlt (by omega)
   rw [hr] at hmem
   cases hmem
theorem fA {listed : Array Bool} {j : Nat} (hsz : listed.size = ops.size) (hj : j ∈ Region.ready .any ops listed) : ∃ hl : j < listed.size,listed.toList[j]'(by simpa using hl) = false := by
 obtain ⟨h0,o,ho,_⟩ := mem_ready.1 hj
 have hl : j < listed.size := by rw [hsz]; exact (Array.getElem?_eq_some_iff.1 ho).1
 refine ⟨hl,?_⟩
 rw [Array.getD_eq_getD_getElem?,Array.getElem?_eq_getElem hl] at h0
 simpa using h0
include hT hc in
theorem any_order (h : Tra T call ops b nx0 tr) {d0 : DS} (hd0 : tr[0]? = some d0) (hN : d0.st.n = N) (hpd0 : d0.pd = [])
  (hld : ∀ (i : Nat) (o : Oper),ops[i]? = some o → bK o.op = true → ∀ m,(m = 0 ∨ ∃ i',m = i' + 1 ∧ aF ops i' = true) → (∀ l,aF ops l = true → (l < m → (b.getD l 0).testBit i = false) ∧ (m ≤ l → (b.getD i 0).testBit l = false)) →
   ∀ ds,tr[i]? = some ds → aV ops ds.st.s o = some true → ∀ d,bS T ds.st.H.h o.op (evD ds.st.s) = some d → ∃ dm,tr[m]? = some dm ∧ bS T dm.st.H.h o.op (evD ds.st.s) = some d)
  (hord : ∀ i j,i < j → aF ops i = true → aF ops j = true → (b.getD j 0).testBit i = true ∨ PairAt T ops b tr i j)
  {β0 : Be} {Q : Exit → Act → World → Prop} (hq : ∀ listed β a w,DI T W0 B ops b nx0 N df tr listed β a w → Ext0 nx0 β0 β → (∀ i,i < ops.size → XL listed i) → Q .normal a w) :
  ∀ (f : Nat) (listed : Array Bool) (β : Be) (a : Act) (w : World),DI T W0 B ops b nx0 N df tr listed β a w → Ext0 nx0 β0 β → listed.toList.count false ≤ f → wpAny P .any ops Q f listed a w
 | 0,listed,β,a,w,hi,he,hcnt=>by
  have hr : Region.ready .any ops listed = [] := by
   cases hr : Region.ready .any ops listed with
   | nil=>rfl
   | cons j r =>
    obtain ⟨hl,hf⟩ := fA hi.sz (show j ∈ Region.ready .any ops listed from by rw [hr]; simp)
    have : 1 ≤ listed.toList.count false := List.one_le_count_iff.2 (hf ▸ List.getElem_mem _)
    omega
  exact ⟨hr,hq listed β a w hi he (all_listed h hi.sz hr)⟩
 | f + 1,listed,β,a,w,hi,he,hcnt=>by
  refine ⟨fun hr=>hq listed β a w hi he (all_listed h hi.sz hr),fun j hj=>?_⟩
  obtain ⟨hl,hf⟩ := fA hi.sz hj
  refine wpOp_mono (fun a' w' ⟨β',he',hi'⟩=>any_order h hd0 hN hpd0 hld hord hq f _ β' a' w' hi' he' ?_) (inv_step hT hc h hd0 hN hpd0 hld hord hi he hj)
  have hcount := List.count_set (a := true) (b := false) (l := listed.toList) (i := j) (by simpa using hl)
  rw [hf] at hcount
  rw [Array.toList_setIfInBounds]
  have e2 : (listed.toList.set j true).count false = listed.toList.count false - 1 := hcount.trans rfl
  rw [e2]
  omega
include hT hc in
theorem draw_ok (hmix : P.follows .mixedOrders = true) {id : Nat} {st st' : St} (h : drawD T call ops st = some st') {β : Be} {a : Act} {w : World} (hi : StR W0 B β st a w) {Q : Exit → Act → World → Prop}
  (hq : ∀ β' a' w',Ext β β' st.H.nx st'.H.nx → StR W0 B β' st' a' w' → Q .normal a' w') : (Code.region id ops true).wp P Q a w := by
 unfold drawD at h
 cases hs : staticOk ops with
 | false=>simp [hs] at h
 | true =>
  simp only [hs,zc] at h
  split at h
  ·rename_i tr htr
   generalize hb : ((gE ops (Region.before ops)).all (fun x=>loadOk T ops tr x.1 x.2) && gI T ops tr) = bb at h
   cases bb with
   | false=>simp at h
   | true =>
    simp only [zc] at h
    simp only [Bool.and_eq_true] at hb
    obtain ⟨hloads,horder⟩ := hb
    unfold staticOk at hs
    simp only [Bool.and_eq_true] at hs
    obtain ⟨⟨⟨s1,s2⟩,s3⟩,s4⟩ := hs
    obtain ⟨t0,t1⟩ := traceR_ok ops.toList 0 _ tr htr
    have tra : Tra T call ops (Region.before ops) st.H.nx tr := by
     refine ⟨s1,?_,?_,?_,?_⟩
     ·intro j o ho e he hbd
      have hj : j < ops.size := (Array.getElem?_eq_some_iff.1 ho).1
      have := (List.all_eq_true.1 s2) j (by simpa using hj)
      rw [ho] at this
      have := (Array.all_eq_true_iff_forall_mem.1 this) e he
      rw [hbd] at this
      simpa [Nat.blt_eq] using this
     ·intro i j x y hij hx hy
      have hj : j < ops.size := (Array.getElem?_eq_some_iff.1 hy).1
      have := (List.all_eq_true.1 s3) j (by simpa using hj)
      have := (List.all_eq_true.1 this) i (by simpa using hij)
      rw [hx,hy] at this
      simpa using this
     ·intro j o ho
      have := (Array.all_eq_true_iff_forall_mem.1 s4) o (Array.mem_of_getElem? ho)
      exact this
     ·intro i o ho
      obtain ⟨d,d',g1,g2,g3⟩ := t1 i o (by simpa using ho)
      exact ⟨d,d',g1,g2,by simpa using g3⟩
    split at h
    ·rename_i dn hdn
     simp only [zo] at h
     subst h
     have hord := orderOk_sound horder
     have hld : ∀ (i : Nat) (o : Oper),ops[i]? = some o → bK o.op = true → ∀ m,(m = 0 ∨ ∃ i',m = i' + 1 ∧ aF ops i' = true) → (∀ l,aF ops l = true → (l < m → ((Region.before ops).getD l 0).testBit i = false) ∧ (m ≤ l → ((Region.before ops).getD i 0).testBit l = false)) →
       ∀ ds,tr[i]? = some ds → aV ops ds.st.s o = some true → ∀ d,bS T ds.st.H.h o.op (evD ds.st.s) = some d → ∃ dm,tr[m]? = some dm ∧ bS T dm.st.H.h o.op (evD ds.st.s) = some d := by
      intro i o ho hl m hm hacts ds hds hg d hqd
      have his : i < ops.size := (Array.getElem?_eq_some_iff.1 ho).1
      have hmem : ∃ ks,(i,ks) ∈ gE ops (Region.before ops) ∧ m ∈ ks := by
       refine ⟨(0 :: (((List.range ops.size).filter (aF ops)).map (· + 1))).filter fun k =>
        (List.range ops.size).all fun j=>!aF ops j || (bif Nat.blt j k then !((Region.before ops).getD j 0).testBit i else !((Region.before ops).getD i 0).testBit j),?_,?_⟩
       ·unfold gE
        rw [List.mem_filterMap]
        exact ⟨i,by simpa using his,by rw [ho]; simp [hl]⟩
       ·rw [List.mem_filter]
        refine ⟨?_,?_⟩
        ·rcases hm with rfl | ⟨i',rfl,ha⟩
         ·simp
         ·refine List.mem_cons_of_mem _ (List.mem_map.2 ⟨i',List.mem_filter.2 ⟨by simpa using cy ha,ha⟩,rfl⟩)
        ·rw [List.all_eq_true]
         intro l _
         cases ha : aF ops l with
         | false=>rfl
         | true =>
          obtain ⟨g1,g2⟩ := hacts l ha
          simp only [Bool.not_true,Bool.false_or]
          cases hlt : Nat.blt l m with
          | true=>simp only [zc]; rw [g1 (by simpa [Nat.blt_eq] using hlt)]; rfl
          | false =>
           simp only [zd]
           rw [g2 (by
            rcases Nat.lt_or_ge l m with hlm | hlm
            ·have : Nat.blt l m = true := by rw [Nat.blt_eq]; exact hlm
             rw [this] at hlt; cases hlt
            ·exact hlm)]
           rfl
      obtain ⟨ks,hks,hmk⟩ := hmem
      have hlo := (List.all_eq_true.1 hloads) (i,ks) hks
      simp only [loadOk,ho,hds,hg,hqd] at hlo
      have := (List.all_eq_true.1 hlo) m hmk
      split at this
      ·rename_i dm hdm
       split at this
       ·rename_i d' hd'
        rw [eqV_sound this]
        exact ⟨dm,hdm,hd'⟩
       ·cases this
      ·cases this
     refine wp_region_any hmix ?_
     have hw0 : WR W0 B β ⟨st.H.h,st.H.nx + ops.size⟩ w.drew := hi.wr.drew.less (fun _ _ h=>h) (Nat.le_add_right _ _) hi.wr.fit
     refine any_order hT hc tra t0 (N := st.n) (B := B) (df := st.df) rfl rfl hld hord (β0 := β) (fun listed β' a' w' hi' he' hall=>?_) ops.size (Array.replicate ops.size false) β a w.drew ?_ ⟨Be.rfl',fun _ _=>rfl⟩ (by simp)
     ·-- the end
      obtain ⟨f1,f2⟩ := tra.frame t0 ops.size dn hdn (Nat.le_refl _)
      cases hi'.hp with
      | C i j hpr hj hin=>exact absurd (hall i (cy hpr.ai)) hin
      | A m ds hm hle h1 h2 h3 hnx hp =>
       have hH : dn.st.H = ds.st.H := tra.heap hm (ops.size - m) dn (by rw [show m + (ops.size - m) = ops.size from by omega]; exact hdn) (by omega) (fun l hl1 hl2=>by
        cases hal : aF ops l with
        | false=>rfl
        | true=>have := h2 l (hall l (cy hal)) hal; omega)
       obtain ⟨nd,pf⟩ := tra.pend ⟨_,t0,rfl⟩ ops.size dn hdn (Nat.le_refl _)
       have hp1 := PW.absorbL hi'.inj dn.pd hp (fun x hx=>by
        obtain ⟨a1,a2,a3⟩ := pf x hx
        exact ⟨hall _ a1,a2,fun l hl hal=>a3 l (by omega) hal⟩) nd (fun i k hk=>by
        obtain ⟨_,⟨o',_,_,e1,_⟩,_⟩ := hk
        exact (Array.getElem?_eq_some_iff.1 e1).1)
       rw [← hH] at hp1
       refine hq β' a' w' ⟨he'.le,he'.old,?_⟩ ⟨hp1.wr,⟨?_,fun t=>?_⟩,?_⟩
       ·show st.H.nx ≤ (dz st.H.nx dn.st.H dn.pd).nx
        rw [gp,hH]
        omega
       ·show a'.tmps.size = dn.st.n
        rw [f1]; exact hi'.tn
       ·obtain ⟨k,dk,g1,g2,g3,g4,g5⟩ := hi'.sl t
        rcases tra.slot g1 (ops.size - k) dn (by rw [show k + (ops.size - k) = ops.size from by omega]; exact hdn) (by omega) (t := t) (fun i o hki hin ho hd=>by
         have := g4 i (hall i (by omega)) ⟨o,ho,hd⟩
         omega) with e | e
        ·show R β' ((dn.st.s.get t).getD .bad) _
         rw [show (dn.st.s.get t).getD .bad = .bad from e]; simp [R]
        ·show R β' ((dn.st.s.get t).getD .bad) _
         rw [show (dn.st.s.get t).getD .bad = slotD dk t from e]; exact g5
       ·show DfR dn.st.df a'.defers
        rw [f2]; exact hi'.df
     ·have hXf : ∀ i,¬ XL (Array.replicate ops.size false) i := by
       intro i h
       unfold XL at h
       rw [Array.getD_eq_getD_getElem?] at h
       by_cases hi : i < ops.size
       ·simp [hi] at h
       ·simp [hi] at h
      have hnone : ∀ i,β (st.H.nx + i) = none := by
       intro i
       cases hb : β (st.H.nx + i) with
       | none=>rfl
       | some x=>have := (hi.wr.dom _ x.1 x.2 hb).1; omega
      refine ⟨by simp,fun j o _ hx=>absurd hx (hXf j),hi.sl.1,fun t=>⟨0,_,t0,Nat.zero_le _,.inl rfl,fun i hx=>absurd hx (hXf i),hi.sl.2 t⟩,hi.df,fun i _ _=>hnone i,fun i i' bb c c' _ _ e1=>?_,.A 0 _ t0 (Nat.zero_le _) (.inl rfl) (fun i hx=>absurd hx (hXf i)) (fun i hl=>absurd hl (Nat.not_lt_zero _)) (Nat.le_refl _) ⟨B,hw0,fun _ _ h=>h,fun i k hk=>absurd hk.1 (hXf i)⟩⟩
      rw [hnone i] at e1
      cases e1
    ·cases h
  ·cases h
end
theorem initT_get : ∀ (l : List DV) (x : Tr DV) (k j : Nat),((l.foldl (fun (x : Tr DV × Nat) d=>(x.1.set 16 x.2 d,x.2 + 1)) (x,k)).1.get j = none) ∨ (∃ i d,j = k + i ∧ l[i]? = some d ∧ (l.foldl (fun (x : Tr DV × Nat) d=>(x.1.set 16 x.2 d,x.2 + 1)) (x,k)).1.get j = some d) ∨
  ((l.foldl (fun (x : Tr DV × Nat) d=>(x.1.set 16 x.2 d,x.2 + 1)) (x,k)).1.get j = x.get j)
 | [],x,k,j=>.inr (.inr rfl)
 | d :: l,x,k,j=>by
  simp only [List.foldl_cons]
  rcases initT_get l (x.set 16 k d) (k + 1) j with h | ⟨i,d',h1,h2,h3⟩ | h
  ·exact .inl h
  ·exact .inr (.inl ⟨i + 1,d',by omega,by simpa using h2,h3⟩)
  ·rcases Tr.get_set 16 x k d j with e | ⟨rfl,e⟩ | ⟨_,e⟩
   ·exact .inl (h.trans e)
   ·exact .inr (.inl ⟨0,d,rfl,rfl,h.trans e⟩)
   ·exact .inr (.inr (h.trans e))
section
variable {P : Program} {T : TT} (hT : T.Ok P) {W0 : World} {B : Nat → Option Go.Obj}
theorem resD_run (hT : T.Ok P) {st : St} {rv : ResultVar} {d : DV} (h : resD T st rv = some d) {β : Be} {a : Act} {w : World} (hi : StR W0 B β st a w) :
  ∃ v,(resF a.tmps rv).run P w = .ok v w ∧ R β d v := by
 cases rv with
 | tmp t =>
  have hs := hi.sl.2 t
  simp only [resD] at h
  split at h
  ·cases h
  ·rw [h] at hs
   exact ⟨_,rfl,hs⟩
 | cell c t =>
  simp only [resD] at h
  split at h
  ·rename_i ti dd hti hg
   have hs := hi.sl.2 c
   rw [hg] at hs
   simp only [Option.getD_some] at hs
   obtain ⟨b,o,hv,u,h1,h2⟩ := gU hT hti hi.wr hs h
   refine ⟨u,?_,h2⟩
   simp only [resF,hv,asAddr]
   exact h1
  ·cases h
theorem resAllD_run (hT : T.Ok P) {fn : Func} {st : St} {ds : List DV} (h : dN T st fn.results.toList = some ds) {β : Be} {a : Act} {w : World} (hi : StR W0 B β st a w) :
  ∃ v,(results fn a.tmps).run P w = .ok v w ∧ R β (tupD ds) v := by
 have key : ∀ (l : List ResultVar) (ds : List DV),dN T st l = some ds → ∃ vs : List Value,(l.mapM (resF a.tmps)).run P w = .ok vs w ∧ RL β ds vs := by
  intro l
  induction l with
  | nil=>intro ds h; simp only [dN,zo] at h; subst h; exact ⟨[],by simp,by simp [RL]⟩
  | cons r l ih =>
   intro ds h
   simp only [dN] at h
   split at h
   ·rename_i d ds' h1 h2
    simp only [zo] at h
    subst h
    obtain ⟨v,hv,hr⟩ := resD_run hT h1 hi
    obtain ⟨vs,hvs,hrs⟩ := ih ds' h2
    refine ⟨v :: vs,?_,by simp only [RL]; exact ⟨v,vs,rfl,hr,hrs⟩⟩
    rw [List.mapM_cons,Sem.run_bind,hv,Result.andThen_ok,Sem.run_bind,hvs]
    rfl
   ·cases h
 obtain ⟨vs,hvs,hrep⟩ := key fn.results.toList ds h
 have hm : (fn.results.mapM (resF a.tmps)).run P w = .ok vs.toArray w := by
  rw [Array.mapM_eq_mapM_toList,Sem.run_map,hvs]
  rfl
 have hlen := hrep.length
 refine ⟨if h : vs.toArray.size = 1 then vs.toArray[0] else .tuple vs.toArray,?_,?_⟩
 ·rw [eN rfl,Sem.run_bind,hm]
  rfl
 ·match ds,vs,hrep,hlen with
  | [],[],hrep,_=>simp [tupD,R,RL]
  | [p],[v],hrep,_ =>
   simp only [RL] at hrep
   obtain ⟨x,xs,he,hx,_⟩ := hrep
   simp only [List.cons.injEq] at he
   simpa [tupD,he.1] using hx
  | p :: q :: ps,u :: v :: vs,hrep,_ =>
   simp only [tupD,R]
   exact ⟨(u :: v :: vs).toArray,by simp,by simpa using hrep⟩
def DefOk (P : Program) (D : FuncId → Bool) : Prop := ∀ g,D g = true → (∀ vs w,(callFunc g vs).run P w = .ok (.enter g vs) w) ∧ ∀ cs w,CallsD P g cs .returning w fun e u w'=>(∃ v,e = .returned v) ∧ u = .returning ∧ w' = w
def Ex.to : Ex → Exit
 | .nm=>.normal
 | .rt=>.ret
 | .ex j=>.exit j
theorem leaves_ok {D : FuncId → Bool} (hD : DefOk P D) {fn : Func} {tmps : Array Value} {Rr : Ending → World → Prop} {w : World} (hr : ∃ v,(results fn tmps).run P w = .ok v w ∧ Rr (.returned v) w) : ∀ (l : List (FuncId × List DV)) (ds : List Deferred),DfR l ds → (l.all fun x=>D x.1) = true → Leaves P fn tmps Rr ds .returning w
 | [],ds,h,_=>by simp only [DfR] at h; subst h; exact hr
 | x :: l,ds,h,ha=>by
  simp only [DfR] at h
  obtain ⟨cs,rest,rfl,h1⟩ := h
  simp only [List.all_cons,Bool.and_eq_true] at ha
  obtain ⟨h2,h3⟩ := hD x.1 ha.1
  refine ⟨by simp,.func x.1,cs,x.1,cs,rfl,by simp [invoke,h2],?_⟩
  refine (h3 cs w).mono ?_
  rintro e u w' ⟨⟨v,rfl⟩,rfl,rfl⟩
  exact leaves_ok hD hr l rest h1 ha.2
theorem callFunc_enter {g : FuncId} {fn : Func} {c : Code} (hf : P.funcs[g]? = some fn) (hb : fn.body = some c) (hn : (fn.name == "runtime.NumGoroutine") = false) (vs : Array Value) (w : World) : (callFunc g vs).run P w = .ok (.enter g vs) w := by
 simp only [callFunc,Sem.run_bind,run_program,Result.andThen_ok,hf,hn,hb]
 rfl
theorem callBy_ok (hT : T.Ok P) {D : FuncId → Bool} (hD : DefOk P D) (hN : ∀ (g : FuncId) (fn : Func), P.funcs[g]? = some fn → (fn.name == "runtime.NumGoroutine") = false) {run : Code → St → Option (Ex × St)}
  (hrun : ∀ (c : Code) (st st' : St) (e : Ex),run c st = some (e,st') → ∀ (B : Nat → Option Go.Obj) (β : Be) (a : Act) (w : World) (Q : Exit → Act → World → Prop),StR W0 B β st a w → (∀ β' a' w',Ext β β' st.H.nx st'.H.nx → StR W0 B β' st' a' w' → Q e.to a' w') → c.wp P Q a w) :
  eY P W0 (dS P T D run) := by
 intro g args H d H' h B β w vs hw hr
 unfold dS at h
 split at h
 ·rename_i fn hf
  split at h
  ·rename_i c hb
   cases hle : Nat.ble args.length fn.ntmps with
   | false=>simp [hle] at h
   | true =>
    have hle' := Nat.le_of_ble_eq_true hle
    simp only [hle,zc] at h
    refine ⟨callFunc_enter hf hb (hN g fn hf) vs,?_⟩
    have hl := hr.length
    simp at hl
    have hst0 : StR W0 B β ⟨fn.ntmps,eP args,H,[]⟩ { tmps := vs ++ Array.replicate (fn.ntmps - vs.size) undef,defers := [] } w := by
     refine ⟨hw,⟨by simp; omega,fun t=>?_⟩,rfl⟩
     rcases initT_get args .nil 0 t with e | ⟨i,dd,e1,e2,e3⟩ | e
     ·show R β (((eP args).get t).getD .bad) _
      rw [show (eP args).get t = none from e]; simp [R]
     ·obtain ⟨x,hx,hrx⟩ := hr.get i dd e2
      have hti : t = i := by omega
      subst hti
      show R β (((eP args).get t).getD .bad) _
      rw [show (eP args).get t = some dd from e3]
      have hlt : t < vs.size := by
       have := (zg.1 hx).1
       simpa using this
      have : (vs ++ Array.replicate (fn.ntmps - vs.size) undef)[t]? = some x := by
       rw [Array.getElem?_append_left hlt,← Array.getElem?_toList]
       exact hx
      simpa [this] using hrx
     ·show R β (((eP args).get t).getD .bad) _
      rw [show (eP args).get t = none from e]; simp [R]
    have fin : ∀ (e : Ex) (st : St),(e = .nm ∨ e = .rt) → run c ⟨fn.ntmps,eP args,H,[]⟩ = some (e,st) → (bif st.df.all fun x=>D x.1 then (dN T st fn.results.toList).map fun ds=>(tupD ds,st.H) else none) = some (d,H') →
      Calls P g vs w fun e w'=>∃ v β',e = .returned v ∧ Ext β β' H.nx H'.nx ∧ WR W0 B β' H' w' ∧ R β' d v := by
     intro e st he hrn hres
     cases hdf : st.df.all fun x=>D x.1 with
     | false=>simp [hdf] at hres
     | true =>
      simp only [hdf,zc] at hres
      cases hra : dN T st fn.results.toList with
      | none=>simp [hra] at hres
      | some ds =>
       simp only [hra,Option.map_some,zo,Prod.mk.injEq] at hres
       obtain ⟨rfl,rfl⟩ := hres
       refine calls_of_wp_defers hf hb (hrun c _ _ _ hrn B β _ w _ hst0 fun β' a' w' hext hi'=>?_)
       obtain ⟨v,hv,hrv⟩ := resAllD_run hT hra hi'
       have hl := leaves_ok hD (Rr := fun e w'=>∃ v β',e = .returned v ∧ Ext β β' H.nx st.H.nx ∧ WR W0 B β' st.H w' ∧ R β' (tupD ds) v) ⟨v,hv,v,β',rfl,hext,hi'.wr,hrv⟩ st.df a'.defers hi'.df hdf
       rcases he with rfl | rfl <;> exact hl
    split at h
    ·rename_i st hrn; exact fin .nm st (.inl rfl) hrn h
    ·rename_i st hrn; exact fin .rt st (.inr rfl) hrn h
    ·cases h
  ·cases h
 ·cases h
theorem runC_ok (hT : T.Ok P) (hmix : P.follows .mixedOrders = true) {D : FuncId → Bool} (hD : DefOk P D) (hN : ∀ (g : FuncId) (fn : Func), P.funcs[g]? = some fn → (fn.name == "runtime.NumGoroutine") = false) : ∀ (n : Nat),
  (∀ (c : Code) (st st' : St) (e : Ex),bO P T D n c st = some (e,st') → ∀ (B : Nat → Option Go.Obj) (β : Be) (a : Act) (w : World) (Q : Exit → Act → World → Prop),StR W0 B β st a w → (∀ β' a' w',Ext β β' st.H.nx st'.H.nx → StR W0 B β' st' a' w' → Q e.to a' w') → c.wp P Q a w) ∧
  (∀ (x : Code) (st st' : St) (e : Ex),bO P T D n (.loop x) st = some (e,st') → ∀ (B : Nat → Option Go.Obj) (β : Be) (a : Act) (w : World) (Q : Exit → Act → World → Prop),StR W0 B β st a w → (∀ β' a' w',Ext β β' st.H.nx st'.H.nx → StR W0 B β' st' a' w' → Q e.to a' w') → Code.rounds P x Q n a w)
 | 0=>⟨fun c st st' e h=>by simp [bO] at h,fun c st st' e h=>by simp [bO] at h⟩
 | n + 1=>by
  obtain ⟨ih,ihL⟩ := runC_ok hT hmix hD hN n
  have hcall := callBy_ok (W0 := W0) hT hD hN ih
  have loop : ∀ (x : Code) (st st' : St) (e : Ex),bO P T D (n + 1) (.loop x) st = some (e,st') → ∀ (B : Nat → Option Go.Obj) (β : Be) (a : Act) (w : World) (Q : Exit → Act → World → Prop),StR W0 B β st a w → (∀ β' a' w',Ext β β' st.H.nx st'.H.nx → StR W0 B β' st' a' w' → Q e.to a' w') → Code.rounds P x Q (n + 1) a w := by
   intro x st st' e h B β a w Q hi hq
   simp only [bO] at h
   rw [rounds_succ]
   split at h
   ·rename_i st1 h1
    exact ih x st st1 .nm h1 B β a w _ hi fun β1 a1 w1 hext hi1=>ihL x st1 st' e h B β1 a1 w1 Q hi1 fun β' a' w' hext'=>hq β' a' w' (hext.trans hext')
   ·rename_i r hne
    refine ih x st st' e h B β a w _ hi fun β' a' w' hext hi'=>?_
    cases e with
    | nm=>exact absurd h (hne st')
    | rt=>exact hq β' a' w' hext hi'
    | ex j=>exact hq β' a' w' hext hi'
  refine ⟨fun c st st' e h B β a w Q hi hq=>?_,loop⟩
  cases c with
  | skip =>
   simp only [bO,zo,Prod.mk.injEq] at h
   obtain ⟨rfl,rfl⟩ := h
   exact wp_skip (hq β a w Ext.rfl' hi)
  | region id ops draw =>
   cases draw with
   | false =>
    simp only [bO] at h
    cases h1 : opsD T (dS P T D (bO P T D n)) ops ops.toList st with
    | none=>simp [h1] at h
    | some s =>
     simp only [h1,Option.map_some,zo,Prod.mk.injEq] at h
     obtain ⟨rfl,rfl⟩ := h
     exact wp_region_list (ops_ok hT hcall h1 hi hq)
   | true =>
    simp only [bO] at h
    cases h1 : drawD T (dS P T D (bO P T D n)) ops st with
    | none=>simp [h1] at h
    | some s =>
     simp only [h1,Option.map_some,zo,Prod.mk.injEq] at h
     obtain ⟨rfl,rfl⟩ := h
     exact draw_ok hT hcall hmix h1 hi hq
  | seq x y =>
   simp only [bO] at h
   refine wp_seq ?_
   split at h
   ·rename_i st1 h1
    exact ih x st st1 .nm h1 B β a w _ hi fun β1 a1 w1 hext hi1=>ih y st1 st' e h B β1 a1 w1 Q hi1 fun β' a' w' hext'=>hq β' a' w' (hext.trans hext')
   ·rename_i r hne
    refine ih x st st' e h B β a w _ hi fun β' a' w' hext hi'=>?_
    cases e with
    | nm=>exact absurd h (hne st')
    | rt=>exact hq β' a' w' hext hi'
    | ex j=>exact hq β' a' w' hext hi'
  | cond c x y =>
   simp only [bO] at h
   have hev := hi.sl.ev c
   split at h
   ·rename_i hc
    rw [hc] at hev
    simp only [R] at hev
    exact wp_cond_true hev (ih x st st' e h B β a w Q hi hq)
   ·rename_i hc
    rw [hc] at hev
    simp only [R] at hev
    exact wp_cond_false hev (ih y st st' e h B β a w Q hi hq)
   ·cases h
  | block id c =>
   simp only [bO] at h
   refine wp_block ?_
   split at h
   ·rename_i j st1 h1
    cases hj : Nat.beq j id with
    | true =>
     simp only [hj,zc,zo,Prod.mk.injEq] at h
     obtain ⟨rfl,rfl⟩ := h
     refine ih c st st1 _ h1 B β a w _ hi fun β' a' w' hext hi'=>?_
     simp only [Ex.to,Exit.inBlock,zp (Nat.eq_of_beq_eq_true hj)]
     exact hq β' a' w' hext hi'
    | false =>
     simp only [hj,zd,zo,Prod.mk.injEq] at h
     obtain ⟨rfl,rfl⟩ := h
     refine ih c st st1 _ h1 B β a w _ hi fun β' a' w' hext hi'=>?_
     simp only [Ex.to,Exit.inBlock,zy (Nat.ne_of_beq_eq_false hj)]
     exact hq β' a' w' hext hi'
   ·rename_i r hne
    refine ih c st st' e h B β a w _ hi fun β' a' w' hext hi'=>?_
    cases e with
    | nm=>exact hq β' a' w' hext hi'
    | rt=>exact hq β' a' w' hext hi'
    | ex j=>exact absurd h (hne j st')
  | loop x=>exact wp_loop_rounds (n + 1) (loop x st st' e h B β a w Q hi hq)
  | exit id =>
   simp only [bO,zo,Prod.mk.injEq] at h
   obtain ⟨rfl,rfl⟩ := h
   exact wp_exit (hq β a w Ext.rfl' hi)
  | ret =>
   simp only [bO,zo,Prod.mk.injEq] at h
   obtain ⟨rfl,rfl⟩ := h
   exact wp_ret (hq β a w Ext.rfl' hi)
  | _=>simp [bO] at h
theorem closed_ok (hT : T.Ok P) (hmix : P.follows .mixedOrders = true) {D : FuncId → Bool} (hD : DefOk P D) (hN : ∀ (g : FuncId) (fn : Func), P.funcs[g]? = some fn → (fn.name == "runtime.NumGoroutine") = false) {g : FuncId} {n : Nat} {bo : Bool} {H' : Hp}
  (h : dS P T D (bO P T D n) g [] ⟨.nil,0⟩ = some (.v (.bool bo),H')) (w : World) : Calls P g #[] w fun e w'=>e = .returned (.bool bo) ∧ Below w.heap.size w w' := by
 have hw : WR w (fun b=>w.heap[b]?) (fun _=>none) ⟨.nil,0⟩ w := by
  refine ⟨rfl,rfl,rfl,Nat.le_refl _,fun _ _ h=>h,fun _ _ _ h=>(by cases h),fun id k h=>?_,fun id k b c h=>?_,fun id id' k k' b c c' h=>?_,by simp [Tr.fits]⟩ <;> (simp [ba,Tr.get] at h)
 have hc := callBy_ok (W0 := w) hT hD hN (runC_ok hT hmix hD hN n).1
 obtain ⟨_,h2⟩ := hc g [] ⟨.nil,0⟩ _ H' h (fun b=>w.heap[b]?) (fun _=>none) w #[] hw (by simp [RL])
 refine h2.mono ?_
 rintro e w' ⟨v,β',rfl,_,h3,h4⟩
 simp only [R] at h4
 subst h4
 refine ⟨rfl,h3.os,h3.tape,h3.output,h3.size,fun k hk=>?_⟩
 have e1 : w.heap[k]? = some w.heap[k] := by simp [hk]
 rw [h3.prot k _ e1,e1]
end
end
end Go.Cx

namespace Go.Cx
noncomputable section
open Go Go.Ab Go.Proofs
open Go.RowKit (Below)
def defD (g : FuncId) : Bool := Nat.beq g 46
theorem names_ok : (Tryz.prog.funcs.all fun fn => !(fn.name == "runtime.NumGoroutine")) = true := by kernel_rfl
theorem hnames (g : FuncId) (fn : Func) (h : Tryz.prog.funcs[g]? = some fn) : (fn.name == "runtime.NumGoroutine") = false := by
 have := (Array.all_eq_true_iff_forall_mem.1 names_ok) fn (Array.mem_of_getElem? h)
 simpa using this
section
variable {P : Program} {ops : Array Oper} {Q : Exit → Act → List Frame → World → Prop} {i : Nat} {rest : List Nat} {o : Oper} {a : Act} {cs : List Frame} {w w' : World} {v : Value}
theorem opsS_recover (ho : ops[i]? = some o) (hg : o.guard = none) (hr : (execOp a.eval o).run P w = .ok .recover w') (hn : recoverD cs = none) (h : wpOpsS P ops Q rest (a.put o.dst .nilIface) cs w') : wpOpsS P ops Q (i :: rest) a cs w := by
 simp only [wpOpsS,ho,Region.wanted,hg,if_true,hr,hn]
 exact h
theorem fH (ho : ops[i]? = some o) (hg : o.guard = none) (hr : (execOp a.eval o).run P w = .ok (.value v) w') (h : wpOpsS P ops Q rest (a.put o.dst v) cs w') : wpOpsS P ops Q (i :: rest) a cs w := by
 simp only [wpOpsS,ho,Region.wanted,hg,if_true,hr,Oper.upon]
 exact h
theorem neq_nil {T : TT} (hT : T.Ok P) {t t' : TypeId} {x : Operand} (ho : o.op = .binOp .neq t x (.const .nilIface) t') {ti : TInfo} {ms : Array (String × TypeId)} (hti : T.get t = some ti) (hd : ti.desc = .interface ms) (he : a.eval x = .nilIface) : (execOp a.eval o).run P w = .ok (.value (.bool false)) w := by
 obtain ⟨v,h1,h2⟩ := nilD_sound (P := P) (β := fun _=>none) (w := w) hT (op := .neq) (t := t) (a := a) (x := x) (y := .const .nilIface) (p := .v .nilIface) (r := .v (.bool false)) (xv := .nilIface) (by simp [nilD,hti,hd]) (by simp only [R])
 simp only [R] at h2
 subst h2
 simp only [execOp,ho,he]
 rw [Sem.run_bind,h1]
 rfl
end
set_option maxRecDepth 4000 in
theorem defOk : DefOk Tryz.prog defD := by
 intro g hg
 have e := Nat.eq_of_beq_eq_true hg
 subst e
 refine ⟨Tryz.call46,fun cs w=>?_⟩
 refine callsD_of_wpS Tryz.func46 rfl fun c₀ fs hu=>?_
 have h18 : 18 ≤ (cs ++ Array.replicate (Tryz.f46.ntmps - cs.size) undef).size := by
  have : Tryz.f46.ntmps = 18 := rfl
  rw [this]; simp; omega
 generalize (cs ++ Array.replicate (Tryz.f46.ntmps - cs.size) undef) = t0 at h18 ⊢
 have hrec : recoverD (c₀ :: fs) = none := by simp [recoverD,hu]
 refine wpS_seq (wpS_region ?_)
 show wpOpsS _ _ _ [0,1] _ _ _
 refine opsS_recover rfl rfl rfl hrec (fH rfl rfl rfl ?_)
 show Code.wpS _ _ _ _ _ _
 refine wpS_seq (wpS_region ?_)
 show wpOpsS _ _ _ [0,1] _ _ _
 refine fH rfl rfl rfl (fH (v := .bool false) (w' := w) rfl rfl ?_ ?_)
 ·refine neq_nil tk rfl rfl rfl ?_
  simp [Act.eval,Act.put,show 5 < t0.size by omega,show 2 < t0.size by omega,show 6 < t0.size by omega]
 show Code.wpS _ _ _ _ _ _
 refine wpS_cond (t := false) ?_ ?_
 ·simp [Act.eval,Act.put,show 5 < t0.size by omega,show 2 < t0.size by omega,show 7 < t0.size by omega]
 ·refine wpS_of_wp (wp_skip ?_)
  refine ⟨by simp [Act.put],.returning,?_,.tuple #[],?_,⟨_,rfl⟩,rfl,rfl⟩
  ·rw [← hu]
  ·simp [results]
def sampleRun : Bool := match dS Tryz.prog tt defD (bO Tryz.prog tt defD 400) 5 [] ⟨.nil,0⟩ with
 | some (.v (.bool true),_)=>true
 | _=>false
theorem sample_true : sampleRun = true := by kernel_rfl
theorem sample_spec : bl Tryz.prog 5 [] (.val (.bool true)) := by
 intro w M own hg vs hi ha
 simp only [ac] at ha
 have hvs : vs = #[] := by simpa using ha
 subst hvs
 have hrun : ∃ H',dS Tryz.prog tt defD (bO Tryz.prog tt defD 400) 5 [] ⟨.nil,0⟩ = some (.v (.bool true),H') := by
  have h := sample_true
  unfold sampleRun at h
  split at h
  ·rename_i H' e; exact ⟨H',e⟩
  ·cases h
 obtain ⟨H',h⟩ := hrun
 have hi0 : InvH Tryz.prog ⟨w,own,M,hg,[]⟩ M Heap.empty w := hi
 refine (closed_ok tk (by kernel_rfl) defOk hnames h w).mono ?_
 rintro e w' ⟨rfl,hb⟩
 refine ⟨_,.val (.bool true),Heap.empty,M,rfl,⟨rfl,rfl⟩,?_,by simp only [Rep]⟩
 refine ⟨fun b o v hm=>?_,Mem.le_refl _,fun _ _ _ h=>.inl h,hb.os,hb.tape,hb.output,hb.size,fun b hb' _=>hb.block b hb',fun _ _ h=>by simp [Heap.empty] at h,fun _ _ h=>by simp [Heap.empty] at h,
  fun _ _ _ _ h=>by simp [Heap.empty] at h,fun _ _ _ _ _ h=>by simp [Heap.empty] at h,fun _ _ _ _ h=>by simp [Heap.empty] at h⟩
 have h1 := hi0.mem b o v hm
 have h2 := hb.block b (hi0.mem_lt hm)
 simpa only [World.cell?,h2] using h1
end
end Go.Cx

namespace Go.Proofs.YtnnieenoapkefaaGreatDoor
noncomputable section
open Go Go.Ab
def sampleV : Bool := true
theorem sampleV_spec : bl Tryz.prog 5 [] (.val (.bool sampleV)) := Go.Cx.sample_spec
end
end Go.Proofs.YtnnieenoapkefaaGreatDoor

namespace Go.Proofs.YtnnieenoapkefaaGreatDoor
noncomputable section
open Go Go.Ab
attribute [local irreducible] V Ao Do Gh Eff PH IntKind.wrap
set_option maxRecDepth 4000
def bf (l : Rz) (byA : LExtsortOrdering) (memory : Int) : Option (Bool) :=
 letP (sampleV) fun x16 =>
 cond (!x16)
  (some false)
  (letP (
   cond (decide ((l.length : Int) > (120 : Int)))
    (true)
    ((decide ((byA.columns.length : Int) > (10 : Int))))) fun (t1 : Bool) =>
  cond t1
   (some true)
   (ag (bi l byA memory) fun x31 =>
   cond (x31.2 != (0 : Int))
    (some ((x31.1.length : Int) == (0 : Int)))
    (ag (aI (σ := Int) (ρ := (Bool)) (fun (_ : Nat) (x2 : Rz) (s2 : Int) =>
     letP (
      cond (decide ((x2.length : Int) < (1 : Int)))
       (true)
       (cond (decide ((x2.length : Int) > memory))
        (true)
        (cond (decide ((IntKind.i64.wrap (s2 + (x2.length : Int))) > (l.length : Int)))
         (true)
         (cond (decide ((x2.length : Int) < memory))
          ((decide ((IntKind.i64.wrap (s2 + (x2.length : Int))) < (l.length : Int))))
          (false))))) fun (t5 : Bool) =>
     cond t5
      (some (.ret false))
      (ag (subI l s2 (IntKind.i64.wrap (s2 + (x2.length : Int)))) fun (x80 : Rz) =>
      ag (cO x80 byA 64) fun x82 =>
      cond (x82.2.2 != (0 : Int))
       (some (.ret false))
       (ag (bU x82.1 x2) fun x91 =>
       cond (!x91)
        (some (.ret false))
        (some (.next (IntKind.i64.wrap (s2 + (x2.length : Int)))))))) 0 x31.1 0) fun fl2=>fl2.thenR fun (s2 : Int) =>
    some (s2 == (l.length : Int)))))
theorem dy (l : Rz) (byA : LExtsortOrdering) (memory : Int) (r : Bool) (H : bf l byA memory = some r) :
  bl Tryz.prog 4 [(.list 51 (l.map (ab 48 aa))),(.agg (az byA)),(af memory)] (bB r) := by
 unfold bf at H
 refine PH.aL Tryz.func4 Tryz.ntmps4 ?_
 refine ae (ah (cM ?_))
 refine ay tk rfl (ak (ae (ae (ah ?_))))
 obtain ⟨x16,h16,H⟩ := letE H
 have s16 := sampleV_spec
 rw [h16] at s16
 refine bM Tryz.call5 (cJ.r) s16 ?_
 refine ay tk rfl (ak ?_)
 refine aU rfl H (fun H=>?_) (fun H=>?_)
 ·refine ao 1 tk rfl ?_
  exact cE tk H rfl
 refine av (ae (ae ?_))
 refine fy (γ := Unit) (fun t1 g1=>⟨100,upd (upd (upd (upd (fun _=>.any) 26 (bB t1)) 4 (.ptr (az byA))) 2 (af memory)) 0 (.list 51 (l.map (ab 48 aa))),fun _=>none,fun _=>none⟩) H (fun _ H=>?_) (fun t1 g1 H=>?_)
 ·refine ah (ay tk rfl (aK tk (zl _) ?_))
  refine al 2 tk rfl ?_
  refine dG rfl rfl rfl H (fun H=>?_) (fun H=>?_)
  ·refine al 5 tk rfl (ak ?_)
   refine br _ () H Gh.d
  refine al 2 tk rfl (aK tk (zl _) ?_)
  refine al 2 tk rfl (ak ?_)
  refine br _ () H Gh.d
 refine aU rfl H (fun H=>?_) (fun H=>?_)
 ·refine ao 1 tk rfl ?_
  exact cE tk H rfl
 refine av (ae (ah (al 3 tk rfl ?_)))
 obtain ⟨x31,h31,H⟩ := ar H
 have s31 := dJ l byA memory _ h31
 refine bM Tryz.call9 (cJ.r) s31 ?_
 refine al 5 tk rfl (ak (ae (ao 2 tk rfl ?_)))
 refine aU rfl H (fun H=>?_) (fun H=>?_)
 ·refine ae (ah (ay tk rfl (aK tk (zl _) ?_)))
  refine al 2 tk rfl (ak ?_)
  exact cE tk H rfl
 refine av (ao 1 tk rfl (ae (ae (ah (ay tk rfl (aK tk (zl _) ?_))))))
 refine ay tk rfl (ak ?_)
 refine gJ tk 41 40 39 (fun s2 g2=>upd (upd (upd (upd (fun _=>.any) 9 (af s2)) 4 (.ptr (az byA))) 2 (af memory)) 0 (.list 51 (l.map (ab 48 aa)))) nB nO () H (fun fl2 Hp2 j2 s2 g2 hz2 hl2 x2 fb2 hx2 H hg2=>?_) (fun s2 g2 H=>?_)
 ·refine ae (aA (ae (ah ?_)))
  refine db tk (zn j2) (de (fun _=>rfl) hx2) ?_
  refine al 2 tk rfl (ak (ae (ah (al 2 tk rfl (aK tk (zl _) ?_)))))
  refine al 2 tk rfl (ak (ae (ae ?_)))
  refine fy (γ := Unit) (fun t5 g5=>⟨100,upd (upd (upd (upd (upd (upd (upd (upd (upd (upd (fun _=>.any) 75 (bB t5)) 41 (af (j2 : Int))) 40 (af (x31.1.length : Int))) 39 (.list 22 (x31.1.map (ab 51 (ab 48 aa))))) 12 (af (IntKind.i64.wrap (s2 + (x2.length : Int))))) 11 (.list 51 (x2.map (ab 48 aa)))) 9 (af s2)) 4 (.ptr (az byA))) 2 (af memory)) 0 (.list 51 (l.map (ab 48 aa))),fun _=>none,fun _=>none⟩) H (fun _ H=>?_) (fun t5 g5 H=>?_)
  ·refine ah (ay tk rfl (aK tk (zl _) ?_))
   refine al 2 tk rfl ?_
   refine dG rfl rfl rfl H (fun H=>?_) (fun H=>?_)
   ·refine al 23 tk rfl (ak ?_)
    refine br _ () H Gh.d
   refine ay tk rfl (aK tk (zl _) ?_)
   refine al 4 tk rfl ?_
   refine dG rfl rfl rfl H (fun H=>?_) (fun H=>?_)
   ·refine al 17 tk rfl (ak ?_)
    refine br _ () H Gh.d
   refine al 2 tk rfl (aK tk (zl _) ?_)
   refine al 3 tk rfl ?_
   refine dG rfl rfl rfl H (fun H=>?_) (fun H=>?_)
   ·refine al 11 tk rfl (ak ?_)
    refine br _ () H Gh.d
   refine ay tk rfl (aK tk (zl _) ?_)
   refine al 3 tk rfl ?_
   refine dG rfl rfl rfl H (fun H=>?_) (fun H=>?_)
   ·refine al 2 tk rfl (aK tk (zl _) ?_)
    refine al 3 tk rfl (ak ?_)
    refine br _ () H Gh.d
   refine al 6 tk rfl (ak ?_)
   refine br _ () H Gh.d
  refine aU rfl H (fun H=>?_) (fun H=>?_)
  ·refine ao 1 tk rfl ?_
   obtain rfl := aq H
   have e2 : fl2 = .ret _ := hg2
   subst e2
   obtain rfl := bC Hp2
   refine cb tk rfl (ps := [(bB false)]) ⟨_,_,rfl,rfl,rfl⟩ (PLe.q rfl)
  refine av (ae (cP tk mok ⟨false,false,[]⟩ [0,1,2,3,4,5,6,7,8,9,10,11,12] rfl (by decide +kernel) rfl (aS 3 rfl ?_)))
  obtain ⟨x80,h80,H⟩ := ar H
  have k80 := subI_some h80
  refine ip rfl rfl rfl rfl rfl rfl (zl _) rfl rfl k80.1 (rowsSubE k80.2) rfl (hZ rfl ?_)
  obtain ⟨x82,h82,H⟩ := ar H
  have s82 := W_extsort_Sort x80 byA 64 _ h82
  refine cI Tryz.call6 (cJ.r) s82 ?_
  refine aS 7 rfl (ct (ae (ae (ah (al 3 tk rfl ?_)))))
  refine dG rfl rfl rfl H (fun H=>?_) (fun H=>?_)
  ·refine al 5 tk rfl (ak (io rfl (ao 1 tk rfl ?_)))
   obtain rfl := aq H
   have e2 : fl2 = .ret _ := hg2
   subst e2
   obtain rfl := bC Hp2
   refine cb tk rfl (ps := [(bB false)]) ⟨_,_,rfl,rfl,rfl⟩ (PLe.q rfl)
  refine al 2 tk rfl ?_
  obtain ⟨x91,h91,H⟩ := ar H
  have s91 := fI x82.1 x2 _ h91
  refine bM Tryz.call7 (cJ.r) s91 ?_
  refine al 2 tk rfl (ak ?_)
  refine aU rfl H (fun H=>?_) (fun H=>?_)
  ·refine ao 1 tk rfl ?_
   obtain rfl := aq H
   have e2 : fl2 = .ret _ := hg2
   subst e2
   obtain rfl := bC Hp2
   refine cb tk rfl (ps := [(bB false)]) ⟨_,_,rfl,rfl,rfl⟩ (PLe.q rfl)
  refine av (bJ 2 tk rfl (bv (bJ 2 tk rfl ?_)))
  exact eJ () H hl2 hg2
 refine ae (ah (al 2 tk rfl (aK tk (zl _) ?_)))
 refine al 2 tk rfl (ak ?_)
 exact cE tk H rfl
end
end Go.Proofs.YtnnieenoapkefaaGreatDoor

namespace Go.Proofs.YtnnieenoapkefaaGreatDoor
noncomputable section
open Go Go.Ab
def KeysIn (byA : LExtsortOrdering) (r : Rq) : Prop := ∀ k ∈ byA.columns,0 ≤ k ∧ k < (r.length : Int)
def ValOk (l : Rows) (byA : LExtsortOrdering) (memory : Int) : Prop :=
 l.length ≤ 600 ∧ 2 ≤ memory ∧ memory ≤ 64 ∧ byA.descending.length ≤ byA.columns.length ∧ ∀ k ∈ byA.columns,0 ≤ k ∧ ∀ r ∈ l,k < (r.length : Int)
theorem contains_rows (l : Rows) (p : Rq → Bool) : aC l (fun a=>some (p a)) = some (l.any p) := by
 unfold aC be
 obtain ⟨fl,h1,h2⟩ := dO (step := fun (j1 : Nat) (x1 : Rq) (_ : Unit)=>ag (some (p x1)) fun x16=>cond x16 (some (Flow.ret (ρ := Int) (j1 : Int))) (some (.next ())))
  (fun j _=>∀ x ∈ l.take j,p x = false) (fun r=>0 ≤ r ∧ ∃ x ∈ l,p x = true) l 0 () (by simp) (fun j x s hj hI=>by
   simp only [Nat.zero_add] at hI ⊢
   rw [bPs]
   cases hp : p x with
   | true=>exact ⟨_,rfl,zn _,x,List.mem_of_getElem? hj,hp⟩
   | false =>
    refine ⟨_,rfl,fun y hy=>?_⟩
    rw [List.take_add_one,hj] at hy
    rcases List.mem_append.1 hy with hy | hy
    ·exact hI y hy
    ·have : y = x := by simpa using hy
     rw [this,hp])
 rw [h1,bPs]
 cases fl with
 | next s =>
  simp only [Nat.zero_add,List.take_length] at h2
  rw [eu,bPs,show l.any p = false from by rw [List.any_eq_false]; intro x hx; rw [h2 x hx]; simp]
  rfl
 | brk s=>exact absurd h2 (by simp)
 | ret r =>
  rw [thenR_retS,bPs,zt h2.1,show l.any p = true from List.any_eq_true.2 h2.2]
theorem gP (l : Rows) (byA : LExtsortOrdering) (memory : Int) : ∃ e,bj l byA memory = some e ∧ (e = 0 ↔ ValOk l byA memory) := by
 unfold bj
 by_cases h1 : (l.length : Int) > 600
 ·exact ⟨2,by rw [zt h1]; rfl,⟨fun h=>absurd h (by decide),fun h=>by have := h.1; omega⟩⟩
 rw [zf h1,zd,dM]
 by_cases h2 : memory < 2
 ·exact ⟨1,by rw [zt h2]; rfl,⟨fun h=>absurd h (by decide),fun h=>by have := h.2.1; omega⟩⟩
 rw [zf h2,zd]
 by_cases h3 : memory > 64
 ·exact ⟨1,by rw [zt h3]; rfl,⟨fun h=>absurd h (by decide),fun h=>by have := h.2.2.1; omega⟩⟩
 rw [zf h3,zd]
 by_cases h4 : (byA.descending.length : Int) > (byA.columns.length : Int)
 ·exact ⟨3,by rw [zt h4]; rfl,⟨fun h=>absurd h (by decide),fun h=>by have := h.2.2.2.1; omega⟩⟩
 rw [zf h4,zd]
 obtain ⟨fl,e1,e2⟩ := dO (step := fun (_ : Nat) (x2 : Int) (_ : Unit) =>
   cond (decide (x2 < (0 : Int))) (some (Flow.ret (ρ := Int) 3)) (ag (aC l (fun a0=>some (aP a0 x2))) fun x37=>cond x37 (some (.ret 3)) (some (.next ()))))
  (fun j _=>∀ k ∈ byA.columns.take j,0 ≤ k ∧ ∀ r ∈ l,k < (r.length : Int)) (fun r=>r = 3 ∧ ∃ k ∈ byA.columns,¬ (0 ≤ k ∧ ∀ r ∈ l,k < (r.length : Int))) byA.columns 0 () (by simp) (fun j x s hj hI=>by
   simp only [Nat.zero_add] at hI ⊢
   have hm := List.mem_of_getElem? hj
   by_cases hx : x < 0
   ·rw [zt hx]
    exact ⟨_,rfl,rfl,x,hm,fun h=>by omega⟩
   rw [zf hx,zd,contains_rows,bPs]
   cases ha : l.any fun a0=>aP a0 x with
   | true =>
    obtain ⟨r,hr,hp⟩ := List.any_eq_true.1 ha
    refine ⟨_,rfl,rfl,x,hm,fun h=>?_⟩
    have h1 := h.2 r hr
    have h2 : x ≥ (r.length : Int) := by simpa [aP] using hp
    omega
   | false =>
    refine ⟨_,rfl,fun k hk=>?_⟩
    rw [List.take_add_one,hj] at hk
    rcases List.mem_append.1 hk with hk | hk
    ·exact hI k hk
    ·have hkx : k = x := by simpa using hk
     subst hkx
     refine ⟨by omega,fun r hr=>?_⟩
     have h2 := List.any_eq_false.1 ha r hr
     have h3 : ¬ k ≥ (r.length : Int) := by simpa [aP] using h2
     omega)
 rw [e1,bPs]
 cases fl with
 | next s =>
  simp only [Nat.zero_add,List.take_length] at e2
  exact ⟨0,rfl,⟨fun _=>⟨by omega,by omega,by omega,by omega,e2⟩,fun _=>rfl⟩⟩
 | brk s=>exact absurd e2 (by simp)
 | ret r =>
  obtain ⟨rfl,k,hk,hn⟩ := e2
  exact ⟨3,rfl,⟨fun h=>absurd h (by decide),fun h=>absurd (h.2.2.2.2 k hk) hn⟩⟩
theorem ValOk.part {l l' : Rows} {byA : LExtsortOrdering} {m m' : Int} (h : ValOk l byA m) (hs : ∀ r ∈ l',r ∈ l) (hl : l'.length ≤ 600) (h1 : 2 ≤ m') (h2 : m' ≤ 64) : ValOk l' byA m' :=
 ⟨hl,h1,h2,h.2.2.2.1,fun k hk=>⟨(h.2.2.2.2 k hk).1,fun r hr=>(h.2.2.2.2 k hk).2 r (hs r hr)⟩⟩
theorem validate_zero {l : Rows} {byA : LExtsortOrdering} {m : Int} (h : ValOk l byA m) : bj l byA m = some 0 := by
 obtain ⟨e,h1,h2⟩ := gP l byA m
 rw [h1,h2.2 h]
theorem keyOf_tot {byA : LExtsortOrdering} (hc : byA.columns.length ≤ 1000) {r : Rq} (h : KeysIn byA r) : Tot (cF r byA) := by
 unfold cF
 obtain ⟨fl,e1,e2⟩ := dO (step := fun (_ : Nat) (x1 : Int) (s1 : Rq)=>ag (aZ r x1) fun (x18 : LVal)=>ag (appI 32 s1 ([x18] : Rq)) fun (x21 : Rq)=>some (Flow.next (ρ := Empty) x21))
  (fun j s=>s.length = j) (fun _=>False) byA.columns 0 [] rfl (fun j x s hj hI=>by
   simp only [Nat.zero_add] at hI ⊢
   have hk := h x (List.mem_of_getElem? hj)
   have hlt := (zg.1 hj).1
   obtain ⟨v,hv⟩ := Tot.get (xs := r) hk.1 hk.2
   rw [hv,bPs,appI_ok (by simp; omega) (by unfold maxLen; simp; omega),bPs]
   exact ⟨_,rfl,by simp [hI]⟩)
 rw [e1,bPs]
 cases fl with
 | next s=>exact ⟨s,rfl⟩
 | brk s=>exact absurd e2 (by simp)
 | ret r=>exact r.elim
theorem compareR_tot (a b : Rq) (ds : List Bool) : Tot (cd a b ds) := by
 unfold cd
 refine Tot.bind (Tot.range a 0 () fun k x s hk=>?_) fun fl _=>Tot.thenR fun s _=>Tot.mk
 have h0 : (0 : Int) ≤ ((0 + k : Nat) : Int) := zn _
 by_cases hb : ((0 + k : Nat) : Int) < (b.length : Int)
 ·rw [zf (by omega)]
  refine Tot.bind (Tot.cond (fun h=>by cases h) fun _=>Tot.bind (Tot.get h0 hb) fun _ _=>Tot.mk) fun t _=>?_
  refine Tot.cond (fun _=>Tot.mk) fun _=>Tot.bind (Tot.get h0 hb) fun y _=>Tot.letP ?_
  refine Tot.cond (fun hd=>Tot.bind (Tot.get h0 (of_decide_eq_true hd)) fun _ _=>Tot.cond (fun _=>Tot.cond (fun _=>Tot.mk) fun _=>Tot.mk) fun _=>Tot.cond (fun _=>Tot.mk) fun _=>Tot.mk) fun _=>Tot.cond (fun _=>Tot.mk) fun _=>Tot.mk
 ·rw [zt (by omega)]
  exact Tot.mk
def cmpF (byA : LExtsortOrdering) : Cmp := fun a0 a1=>aX a0 a1 byA
theorem cmp_tot {byA : LExtsortOrdering} (hc : byA.columns.length ≤ 1000) {x y : Rq} (hx : KeysIn byA x) (hy : KeysIn byA y) : Tot (cmpF byA x y) := by
 unfold cmpF aX dh
 exact Tot.bind (Tot.bind (keyOf_tot hc hx) fun _ _=>Tot.bind (keyOf_tot hc hy) fun _ _=>Tot.bind (compareR_tot _ _ _) fun _ _=>Tot.mk) fun _ _=>Tot.mk
def srt (byA : LExtsortOrdering) (l : Rows) : Rows := (au l (cmpF byA)).getD []
theorem srt_eq {byA : LExtsortOrdering} (hc : byA.columns.length ≤ 1000) {l : Rows} (hl : l.length ≤ 1000000) (h : ∀ r ∈ l,KeysIn byA r) : au l (cmpF byA) = some (srt byA l) ∧ (srt byA l).Perm l := by
 obtain ⟨d,h1,h2⟩ := sortStable_ok (cmp := cmpF byA) hl fun x hx y hy=>cmp_tot hc (h x hx) (h y hy)
 unfold srt
 rw [h1]
 exact ⟨rfl,h2⟩
theorem ValOk.keys {l : Rows} {byA : LExtsortOrdering} {m : Int} (h : ValOk l byA m) : ∀ r ∈ l,KeysIn byA r := fun r hr k hk=>⟨(h.2.2.2.2 k hk).1,(h.2.2.2.2 k hk).2 r hr⟩
theorem chunks_mem {α : Type} {m : Nat} (hm : 1 ≤ m) {l part : List α} (h : part ∈ bh m l) : ∃ j,j * m < l.length ∧ part = (l.drop (j * m)).take m := by
 obtain ⟨j,hj⟩ := List.getElem?_of_mem h
 rw [cY hm] at hj
 split at hj
 ·rename_i hlt; exact ⟨j,hlt,(Option.some.inj hj).symm⟩
 ·cases hj
theorem chunks_size {α : Type} {m : Nat} (hm : 1 ≤ m) (l : List α) : (bh m l).length ≤ l.length := by
 rcases Nat.lt_or_ge l.length (bh m l).length with h | h
 ·have := cY hm l l.length
  rw [zy (by have := Nat.mul_le_mul_left l.length hm; omega)] at this
  rw [ze h] at this
  cases this
 ·exact h
theorem runs_eq {l : Rows} {byA : LExtsortOrdering} {m : Nat} (hc : byA.columns.length ≤ 1000) (h : ValOk l byA (m : Int)) : bi l byA (m : Int) = some ((bh m l).map (srt byA),0) := by
 have h2 := h.2.1
 have h1 := h.1
 have hm : 1 ≤ m := by omega
 have hz := chunks_size hm l
 unfold bi
 rw [validate_zero h,bPs,show ((0 : Int) != 0) = false from rfl,zd,Int.toNat_natCast,rangeM_map (xs := bh m l) (srt byA) (fun k part hk=>by
  have hlt := (zg.1 hk).1
  obtain ⟨j,hj,rfl⟩ := chunks_mem hm (List.mem_of_getElem? hk)
  have hsub : ∀ r ∈ (l.drop (j * m)).take m,r ∈ l := fun r hr=>List.mem_of_mem_drop (List.mem_of_mem_take hr)
  have hpl : ((l.drop (j * m)).take m).length ≤ 1000000 := by rw [List.length_take,List.length_drop]; omega
  obtain ⟨e1,e2⟩ := srt_eq hc hpl fun r hr=>h.keys r (hsub r hr)
  unfold gG
  rw [show (fun a0 a1=>aX a0 a1 byA) = cmpF byA from rfl,e1,bPs,bG e2.length_eq,bPs,appI_ok (by simp; omega) (by unfold maxLen; simp; omega),bPs]),bPs,gT]
theorem chunks_one {α : Type} {m : Nat} {l : List α} (h1 : 1 ≤ l.length) (h2 : l.length ≤ m) : bh m l = [l] := by
 cases l with
 | nil=>simp at h1
 | cons x l =>
  show (x :: l).take m :: dq m l.length ((x :: l).drop m) = _
  rw [List.take_of_length_le h2,List.drop_eq_nil_of_le h2]
  cases l <;> rfl
theorem sort_one {l : Rows} {byA : LExtsortOrdering} (hc : byA.columns.length ≤ 1000) (h : ValOk l byA 64) (h1 : 1 ≤ l.length) (h2 : l.length ≤ 64) : cO l byA 64 = some (srt byA l,0,0) := by
 have hr := runs_eq (m := 64) hc h
 rw [chunks_one h1 h2] at hr
 have hp := (srt_eq hc (by omega) h.keys).2.length_eq
 have hin := rangeM_map (step := fun (_ : Nat) (x4 : Rq) (s4 : Rz)=>ag (appI 24 s4 ([x4] : Rz)) fun (x61 : Rz)=>some (Flow.next (ρ := Empty) x61)) (xs := srt byA l) id (fun k x hk=>by
  have hlt := (zg.1 hk).1
  rw [appI_ok (by simp; omega) (by unfold maxLen; simp; omega),bPs]
  rfl)
 rw [List.map_id] at hin
 unfold cO
 rw [show ((64 : Nat) : Int) = (64 : Int) from rfl] at hr
 rw [hr,bPs,show ((0 : Int) != 0) = false from rfl,zd,show decide (((([l].map (srt byA)).length : Nat) : Int) > 1) = false from rfl,zd]
 show ag (aI _ 0 [srt byA l] []) _ = _
 rw [aI,hin,bPs,gT]
 rfl
theorem equal_refl (x : Rq) : aT x x = some true := by
 unfold aT
 rw [show ((x.length : Int) != (x.length : Int)) = false from by simp,zd,rMa (xs := x) (s := ()) (fun _=>()) rfl (fun k v hk=>by
  rw [getI_nat hk,bPs,show (v.kind == v.kind && (v.int == v.int && (v.text == v.text && true))) = true from by simp]
  rfl),bPs,eu]
theorem sameRows_refl (l : Rows) : bU l l = some true := by
 unfold bU aG
 rw [show ((l.length : Int) != (l.length : Int)) = false from by simp,zd,rMa (xs := l) (s := ()) (fun _=>()) rfl (fun k v hk=>by
  rw [getI_nat hk,bPs]
  show ag (bn v v) _ = _
  unfold bn
  rw [equal_refl,bPs,bPs]
  rfl),bPs,eu,bPs]
theorem range_law {α σ : Type} {step : Nat → α → σ → Option (Flow σ Bool)} {k : σ → Option Bool} {xs : List α} {s0 : σ} (I : Nat → σ → Prop) (h0 : I 0 s0)
  (hs : ∀ j x s,xs[j]? = some x → I j s → ∃ s',step j x s = some (.next s') ∧ I (j + 1) s') (hk : ∀ s,I xs.length s → k s = some true) : ag (aI step 0 xs s0) (fun fl=>fl.thenR k) = some true := by
 obtain ⟨fl,h1,h2⟩ := dO (step := step) I (fun _=>False) xs 0 s0 h0 (fun j x s hj hI=>by
  rw [Nat.zero_add] at hI ⊢
  obtain ⟨s',h1,h2⟩ := hs j x s hj hI
  exact ⟨_,h1,h2⟩)
 rw [h1,bPs]
 cases fl with
 | next s=>rw [eu]; exact hk s (by simpa using h2)
 | brk s=>exact absurd h2 (by simp)
 | ret r=>exact h2.elim
theorem sortRuns_law (l : Rows) (byA : LExtsortOrdering) (memory : Int) : bf l byA memory = some true := by
 unfold bf
 rw [dM,show (!sampleV) = false from rfl,zd,dM]
 by_cases c1 : (l.length : Int) > 120
 ·rw [zt c1]; rfl
 rw [zf c1,zd]
 by_cases c2 : (byA.columns.length : Int) > 10
 ·rw [zt c2]; rfl
 rw [zf c2,zd]
 obtain ⟨e,he,hv⟩ := gP l byA memory
 by_cases h0 : e = 0
 ·have hval := hv.1 h0
  obtain ⟨m,rfl⟩ : ∃ m : Nat,memory = (m : Int) := ⟨memory.toNat,by have := hval.2.1; omega⟩
  have hm2 := hval.2.1
  have hm3 := hval.2.2.1
  have hm : 1 ≤ m := by omega
  have hcc : byA.columns.length ≤ 1000 := by omega
  rw [runs_eq hcc hval,bPs,show ((0 : Int) != 0) = false from rfl,zd]
  refine range_law (fun j s=>s = ((min (j * m) l.length : Nat) : Int)) (by simp) (fun j x s hx hI=>?_) (fun s hI=>?_)
  ·rw [List.getElem?_map] at hx
   obtain ⟨part,hp,rfl⟩ := Option.map_eq_some_iff.1 hx
   rw [cY hm] at hp
   split at hp
   ·rename_i hlt
    have hp := Option.some.inj hp
    subst hp
    have hsub : ∀ r ∈ (l.drop (j * m)).take m,r ∈ l := fun r hr=>List.mem_of_mem_drop (List.mem_of_mem_take hr)
    have hn : ((l.drop (j * m)).take m).length = min m (l.length - j * m) := by rw [List.length_take,List.length_drop]
    have hval' := hval.part hsub (by omega) (by decide) (by decide : (64 : Int) ≤ 64)
    have hs1 := (srt_eq hcc (by omega) hval'.keys).2.length_eq
    have hso := sort_one hcc hval' (by omega) (by omega)
    have hI : s = ((j * m : Nat) : Int) := by rw [hI,Nat.min_eq_left (by omega)]
    subst hI
    have hw : IntKind.i64.wrap (((j * m : Nat) : Int) + ((min m (l.length - j * m) : Nat) : Int)) = ((j * m + min m (l.length - j * m) : Nat) : Int) := by
     rw [aw (by omega) (by omega)]
     omega
    have hsi : subI l ((j * m : Nat) : Int) ((j * m + min m (l.length - j * m) : Nat) : Int) = some ((l.drop (j * m)).take m) := by
     rw [subI_ok ⟨by omega,by omega,by omega⟩,Int.toNat_natCast,Int.toNat_natCast,List.drop_take,Nat.add_sub_cancel_left]
     congr 1
     rcases Nat.le_total m (l.length - j * m) with h | h
     ·rw [Nat.min_eq_left h]
     ·rw [Nat.min_eq_right h,List.take_of_length_le (by rw [List.length_drop]; omega),List.take_of_length_le (by rw [List.length_drop]; omega)]
    refine ⟨((min ((j + 1) * m) l.length : Nat) : Int),?_,rfl⟩
    have hnx : ((min ((j + 1) * m) l.length : Nat) : Int) = ((j * m + min m (l.length - j * m) : Nat) : Int) := by
     rw [Nat.succ_mul]
     omega
    rw [hnx]
    rw [dM,hs1,hn,hw,zf (by omega),zd,zf (by omega),zd,zf (by omega),zd]
    have hlast : (cond (decide (((min m (l.length - j * m) : Nat) : Int) < (m : Int))) (decide (((j * m + min m (l.length - j * m) : Nat) : Int) < (l.length : Int))) false) = false := by
     by_cases h : ((min m (l.length - j * m) : Nat) : Int) < (m : Int)
     ·rw [zt h,zc,zf (by omega)]
     ·rw [zf h,zd]
    rw [hlast,zd,hsi,bPs,hso,bPs]
    rw [show ((0 : Int) != 0) = false from rfl,zd,sameRows_refl,bPs]
    rfl
   ·cases hp
  ·rw [hI,zl]
   have h1 : l.length ≤ (bh m l).length * m := by
    rcases Nat.lt_or_ge ((bh m l).length * m) l.length with h | h
    ·have := cY hm l (bh m l).length
     rw [zp h] at this
     simp at this
    ·exact h
   rw [Nat.min_eq_right h1]
   simp
 ·unfold bi
  rw [he,bPs,show (e != 0) = true from by simpa using h0,zc,bPs]
  rw [show (e != 0) = true from by simpa using h0]
  rfl
theorem own_knob : ownKnob Tryz.prog.godebug = none := by kernel_rfl
theorem laid_out : laidOutB Tryz.prog = true := by kernel_rfl
def lawTypes : List TypeId := [22,51,48,3,9,26,23,24,4]
theorem lawTypes_ok : lawTypes.all (okT Tryz.prog lawTypes) = true := by kernel_rfl
theorem lawTypes_info : ∀ t ∈ lawTypes,∃ i,Tryz.prog.info? t = some i ∧ i.bytes = Tryz.prog.bytesOf t ∧ i.size = Tryz.prog.cellsOf t := infos_of (by kernel_rfl)
theorem sh3 {n : Nat} {pvs : List PV} (h : Sh Tryz.prog n 3 pvs) : ∃ v : Int,pvs = [af v] := by
 cases n with
 | zero=>simp [Sh] at h
 | succ n=>simp only [Sh,Tryz.underlying3] at h; obtain ⟨m,rfl,_⟩ := h; exact ⟨m,rfl⟩
theorem sh9 {n : Nat} {pvs : List PV} (h : Sh Tryz.prog n 9 pvs) : ∃ v : List UInt8,pvs = [.str v] := by
 cases n with
 | zero=>simp [Sh] at h
 | succ n=>simp only [Sh,Tryz.underlying9] at h; obtain ⟨m,rfl,_⟩ := h; exact ⟨m,rfl⟩
theorem sh48 {n : Nat} {pvs : List PV} (h : Sh Tryz.prog n 48 pvs) : ∃ v : LVal,pvs = aa v := by
 cases n with
 | zero=>simp [Sh] at h
 | succ n =>
  simp only [Sh,Tryz.underlying48,List.map_cons,List.map_nil,eF] at h
  obtain ⟨p0,r0,rfl,h0,p1,r1,rfl,h1,p2,r2,rfl,h2,rfl⟩ := h
  obtain ⟨v0,rfl⟩ := sh3 h0
  obtain ⟨v1,rfl⟩ := sh3 h1
  obtain ⟨v2,rfl⟩ := sh9 h2
  exact ⟨LVal.mk v0 v1 v2,rfl⟩
theorem sh51 {n : Nat} {pvs : List PV} (h : Sh Tryz.prog n 51 pvs) : ∃ v : Rq,pvs = [.list 48 (v.map aa)] := by
 cases n with
 | zero=>simp [Sh] at h
 | succ n =>
  simp only [Sh,Tryz.underlying51] at h
  obtain ⟨rows,rfl,hr⟩ := h
  obtain ⟨xs,rfl⟩ := rowsOf (f := aa) (fun r hq=>sh48 (hr r hq))
  exact ⟨xs,rfl⟩
theorem sh22 {n : Nat} {pvs : List PV} (h : Sh Tryz.prog n 22 pvs) : ∃ v : Rz,pvs = [.list 51 (v.map (ab 48 aa))] := by
 cases n with
 | zero=>simp [Sh] at h
 | succ n =>
  simp only [Sh,Tryz.underlying22] at h
  obtain ⟨rows,rfl,hr⟩ := h
  obtain ⟨xs,rfl⟩ := rowsOf (f := (ab 48 aa)) (fun r hq=>let ⟨v,e⟩ := sh51 (hr r hq); ⟨v,e⟩)
  exact ⟨xs,rfl⟩
theorem sh23 {n : Nat} {pvs : List PV} (h : Sh Tryz.prog n 23 pvs) : ∃ v : List Int,pvs = [.list 3 (v.map rInt)] := by
 cases n with
 | zero=>simp [Sh] at h
 | succ n =>
  simp only [Sh,Tryz.underlying23] at h
  obtain ⟨rows,rfl,hr⟩ := h
  obtain ⟨xs,rfl⟩ := rowsOf (f := rInt) (fun r hq=>let ⟨v,e⟩ := sh3 (hr r hq); ⟨v,e⟩)
  exact ⟨xs,rfl⟩
theorem sh4 {n : Nat} {pvs : List PV} (h : Sh Tryz.prog n 4 pvs) : ∃ v : Bool,pvs = [bB v] := by
 cases n with
 | zero=>simp [Sh] at h
 | succ n=>simp only [Sh,Tryz.underlying4] at h; obtain ⟨m,rfl⟩ := h; exact ⟨m,rfl⟩
theorem sh24 {n : Nat} {pvs : List PV} (h : Sh Tryz.prog n 24 pvs) : ∃ v : List Bool,pvs = [.list 4 (v.map rBool)] := by
 cases n with
 | zero=>simp [Sh] at h
 | succ n =>
  simp only [Sh,Tryz.underlying24] at h
  obtain ⟨rows,rfl,hr⟩ := h
  obtain ⟨xs,rfl⟩ := rowsOf (f := rBool) (fun r hq=>let ⟨v,e⟩ := sh4 (hr r hq); ⟨v,e⟩)
  exact ⟨xs,rfl⟩
theorem sh26 {n : Nat} {pvs : List PV} (h : Sh Tryz.prog n 26 pvs) : ∃ v : LExtsortOrdering,pvs = az v := by
 cases n with
 | zero=>simp [Sh] at h
 | succ n =>
  simp only [Sh,Tryz.underlying26,List.map_cons,List.map_nil,eF] at h
  obtain ⟨p0,r0,rfl,h0,p1,r1,rfl,h1,rfl⟩ := h
  obtain ⟨v0,rfl⟩ := sh23 h0
  obtain ⟨v1,rfl⟩ := sh24 h1
  exact ⟨LExtsortOrdering.mk v0 v1,rfl⟩
theorem law_args : ∀ args,ArgsSh Tryz.prog Tryz.f4.params.toList args → bl Tryz.prog 4 args (.val (.bool true)) := by
 intro args h
 rw [Tryz.params4] at h
 simp only [ArgsSh] at h
 obtain ⟨n0,p0,r0,rfl,h0,n1,p1,r1,rfl,h1,n2,p2,r2,rfl,h2,rfl⟩ := h
 obtain ⟨v0,rfl⟩ := sh22 h0
 obtain ⟨v1,rfl⟩ := sh26 h1
 obtain ⟨v2,rfl⟩ := sh3 h2
 have e0 : ew Tryz.prog 22 [.list 51 (v0.map (ab 48 aa))] = .list 51 (v0.map (ab 48 aa)) := by simp only [ew,Tryz.underlying22]; rfl
 rw [e0]
 have e1 : ew Tryz.prog 26 (az v1) = .agg (az v1) := by simp only [ew,Tryz.underlying26]
 rw [e1]
 have e2 : ew Tryz.prog 3 [af v2] = af v2 := by simp only [ew,Tryz.underlying3]; rfl
 rw [e2]
 exact dy v0 v1 v2 true (sortRuns_law v0 v1 v2)
set_option maxRecDepth 100000 in
theorem law_wf : (fun (P : Program) (f : FuncId) (fn : Func) (s : ChangeSpec) (c : OpenClaim)=>(P.funcs.size,f,fn.params.size,s.name,c.func,c.wf (OpenSpec.ofChange s)).2.2.2.2.2) Tryz.prog 4 Tryz.f4 (OpenSpec.ofChange Rows.sortRunsAreSortedChunksSpec).bare Rows.sortRunsAreSortedChunksRow = true := by kernel_rfl
set_option maxRecDepth 100000 in
theorem law_laid : (fun (P : Program) (f : FuncId) (fn : Func) (s : ChangeSpec) (c : OpenClaim)=>(P.funcs.size,f,fn.params.size,s.name,c.func,laidOutB P).2.2.2.2.2) Tryz.prog 4 Tryz.f4 (OpenSpec.ofChange Rows.sortRunsAreSortedChunksSpec).bare Rows.sortRunsAreSortedChunksRow = true := by kernel_rfl
set_option maxRecDepth 100000 in
theorem law_mapsRowed : (fun (P : Program) (f : FuncId) (fn : Func) (s : ChangeSpec) (c : OpenClaim)=>(P.funcs.size,f,fn.params.size,s.name,c.func,mapsRowed P).2.2.2.2.2) Tryz.prog 4 Tryz.f4 (OpenSpec.ofChange Rows.sortRunsAreSortedChunksSpec).bare Rows.sortRunsAreSortedChunksRow = true := by kernel_rfl
set_option maxRecDepth 100000 in
theorem law_rr : (fun (P : Program) (f : FuncId) (fn : Func) (s : ChangeSpec) (c : OpenClaim)=>(P.funcs.size,f,fn.params.size,s.name,c.func,fn.params.all (P.readableRec ·)).2.2.2.2.2) Tryz.prog 4 Tryz.f4 (OpenSpec.ofChange Rows.sortRunsAreSortedChunksSpec).bare Rows.sortRunsAreSortedChunksRow = true := by kernel_rfl
set_option maxRecDepth 100000 in
theorem law_nt : (fun (P : Program) (f : FuncId) (fn : Func) (s : ChangeSpec) (c : OpenClaim)=>(P.funcs.size,f,fn.params.size,s.name,c.func,namedTie P c.named s.vars).2.2.2.2.2) Tryz.prog 4 Tryz.f4 (OpenSpec.ofChange Rows.sortRunsAreSortedChunksSpec).bare Rows.sortRunsAreSortedChunksRow = true := by kernel_rfl
set_option maxRecDepth 100000 in
theorem law_st : (fun (P : Program) (f : FuncId) (fn : Func) (s : ChangeSpec) (c : OpenClaim)=>(P.funcs.size,f,fn.params.size,s.name,c.func,(c.stops == []) && (P.stops == []) && (c.knobs == []) && (P.stopKnobs == [])).2.2.2.2.2) Tryz.prog 4 Tryz.f4 (OpenSpec.ofChange Rows.sortRunsAreSortedChunksSpec).bare Rows.sortRunsAreSortedChunksRow = true := by kernel_rfl
set_option maxRecDepth 100000 in
theorem law_inPlace : (fun (P : Program) (f : FuncId) (fn : Func) (s : ChangeSpec) (c : OpenClaim)=>(P.funcs.size,f,fn.params.size,s.name,c.func,c.inPlace == P.inPlace f).2.2.2.2.2) Tryz.prog 4 Tryz.f4 (OpenSpec.ofChange Rows.sortRunsAreSortedChunksSpec).bare Rows.sortRunsAreSortedChunksRow = true := by kernel_rfl
set_option maxRecDepth 100000 in
theorem law_unf : (fun (P : Program) (f : FuncId) (fn : Func) (s : ChangeSpec) (c : OpenClaim)=>(P.funcs.size,f,fn.params.size,s.name,c.func,c.unfollowed == P.unfollowed f).2.2.2.2.2) Tryz.prog 4 Tryz.f4 (OpenSpec.ofChange Rows.sortRunsAreSortedChunksSpec).bare Rows.sortRunsAreSortedChunksRow = true := by kernel_rfl
set_option maxRecDepth 100000 in
theorem law_rec : (fun (P : Program) (f : FuncId) (fn : Func) (s : ChangeSpec) (c : OpenClaim)=>(P.funcs.size,f,fn.params.size,s.name,c.func,c.recurses == P.recurses f).2.2.2.2.2) Tryz.prog 4 Tryz.f4 (OpenSpec.ofChange Rows.sortRunsAreSortedChunksSpec).bare Rows.sortRunsAreSortedChunksRow = true := by kernel_rfl
set_option maxRecDepth 100000 in
theorem law_named : (fun (P : Program) (f : FuncId) (fn : Func) (s : ChangeSpec) (c : OpenClaim)=>(P.funcs.size,f,fn.params.size,s.name,c.func,c.named == P.varsNamed f).2.2.2.2.2) Tryz.prog 4 Tryz.f4 (OpenSpec.ofChange Rows.sortRunsAreSortedChunksSpec).bare Rows.sortRunsAreSortedChunksRow = true := by kernel_rfl
set_option maxRecDepth 100000 in
theorem law_maps : (fun (P : Program) (f : FuncId) (fn : Func) (s : ChangeSpec) (c : OpenClaim)=>(P.funcs.size,f,fn.params.size,s.name,c.func,(c.maps == (fn.params.toList ++ s.plain.varTypes P).any (P.mapsRec ·)) && (c.ifaces == (fn.params.toList ++ s.plain.varTypes P).any (P.ifacesRec ·)) && (c.mapsOut == P.mapsAmong fn.resultTypes.toList)).2.2.2.2.2) Tryz.prog 4 Tryz.f4 (OpenSpec.ofChange Rows.sortRunsAreSortedChunksSpec).bare Rows.sortRunsAreSortedChunksRow = true := by kernel_rfl
set_option maxRecDepth 100000 in
theorem law_loops : (fun (P : Program) (f : FuncId) (fn : Func) (s : ChangeSpec) (c : OpenClaim)=>(P.funcs.size,f,fn.params.size,s.name,c.func,(c.loops == (fn.params.toList ++ s.plain.varTypes P).any (P.loopsFrom ·))).2.2.2.2.2) Tryz.prog 4 Tryz.f4 (OpenSpec.ofChange Rows.sortRunsAreSortedChunksSpec).bare Rows.sortRunsAreSortedChunksRow = true := by kernel_rfl
set_option maxRecDepth 100000 in
theorem law_wide : (fun (P : Program) (f : FuncId) (fn : Func) (s : ChangeSpec) (c : OpenClaim)=>(P.funcs.size,f,fn.params.size,s.name,c.func,(c.wideKeys == (fn.params.toList ++ s.plain.varTypes P ++ fn.resultTypes.toList).any (P.wideKeysFrom ·))).2.2.2.2.2) Tryz.prog 4 Tryz.f4 (OpenSpec.ofChange Rows.sortRunsAreSortedChunksSpec).bare Rows.sortRunsAreSortedChunksRow = true := by kernel_rfl
set_option maxRecDepth 100000 in
theorem law_rest1 : (fun (P : Program) (f : FuncId) (fn : Func) (s : ChangeSpec) (c : OpenClaim)=>(P.funcs.size,f,fn.params.size,s.name,c.func,s.vars.all (P.varReadable ·) && fn.resultTypes.all (fun t=>P.readableRec t && decide (t < P.types.size)) && (c.ifacesOut == fn.resultTypes.toList.any (P.ifacesRec ·)) && (c.loopsOut == fn.resultTypes.toList.any (P.loopsFrom ·))).2.2.2.2.2) Tryz.prog 4 Tryz.f4 (OpenSpec.ofChange Rows.sortRunsAreSortedChunksSpec).bare Rows.sortRunsAreSortedChunksRow = true := by kernel_rfl
set_option maxRecDepth 100000 in
theorem law_plainKeys : (fun (P : Program) (f : FuncId) (fn : Func) (s : ChangeSpec) (c : OpenClaim)=>(P.funcs.size,f,fn.params.size,s.name,c.func,c.plainKeys == P.plainKeys).2.2.2.2.2) Tryz.prog 4 Tryz.f4 (OpenSpec.ofChange Rows.sortRunsAreSortedChunksSpec).bare Rows.sortRunsAreSortedChunksRow = true := by kernel_rfl
set_option maxRecDepth 100000 in
theorem law_rest2 : (fun (P : Program) (f : FuncId) (fn : Func) (s : ChangeSpec) (c : OpenClaim)=>(P.funcs.size,f,fn.params.size,s.name,c.func,c.shortTexts.isNone && P.stopsHeard && P.mayEnter && (c.lifted == P.liftsFinal) && (P.make == some c.make)).2.2.2.2.2) Tryz.prog 4 Tryz.f4 (OpenSpec.ofChange Rows.sortRunsAreSortedChunksSpec).bare Rows.sortRunsAreSortedChunksRow = true := by kernel_rfl
set_option maxRecDepth 100000 in
theorem law_kinds : (fun (P : Program) (f : FuncId) (fn : Func) (s : ChangeSpec) (c : OpenClaim)=>(P.funcs.size,f,fn.params.size,s.name,c.func,(c.kinds == (if c.domain.isEmpty then [] else fn.params.toList.map fun t=>match P.underlying t with | some (.int k)=>some k | _=>none)) && (c.pinned == c.pinnedBy)).2.2.2.2.2) Tryz.prog 4 Tryz.f4 (OpenSpec.ofChange Rows.sortRunsAreSortedChunksSpec).bare Rows.sortRunsAreSortedChunksRow = true := by kernel_rfl
set_option maxRecDepth 100000 in
theorem law_veil : (fun (P : Program) (f : FuncId) (fn : Func) (s : ChangeSpec) (c : OpenClaim)=>(P.funcs.size,f,fn.params.size,s.name,c.func,(c.veiled == (fn.params.toList ++ s.plain.varTypes P ++ fn.resultTypes.toList).any (P.veiledRec ·)) && c.veiledFits P fn.params.toList (fn.params.toList ++ s.plain.varTypes P ++ fn.resultTypes.toList)).2.2.2.2.2) Tryz.prog 4 Tryz.f4 (OpenSpec.ofChange Rows.sortRunsAreSortedChunksSpec).bare Rows.sortRunsAreSortedChunksRow = true := by kernel_rfl
set_option maxRecDepth 100000 in
theorem law_facts : joinedFacts Tryz.prog 4 Tryz.f4 (OpenSpec.ofChange Rows.sortRunsAreSortedChunksSpec).bare Rows.sortRunsAreSortedChunksRow = true := joined_of law_wf law_laid law_mapsRowed law_rr law_nt law_st law_inPlace law_unf law_rec law_named law_maps law_loops law_wide law_rest1 law_plainKeys law_rest2 law_kinds law_veil
theorem gl_all (W : World) : Gl W [] := by
 refine ⟨⟨?_,?_,?_⟩,?_⟩
 ·intro b hb; simp [glI] at hb
 ·intro b hb; simp [glT] at hb
 ·intro b hb; simp [glN] at hb
 ·intro b hb; simp [glB,glI,glT,glN] at hb
def putVar (h : Array Go.Obj) (g : Nat) (cs : Array Value) : Array Go.Obj := h.modify g fun
 | .cells _ t fz=>.cells cs t fz
 | o=>o
def lowBlk : Nat := (World.holding Tryz.prog default ⟨#[],#[],[]⟩).heap.size
def gm (os : Os) : World :=
 let w0 := World.holding Tryz.prog os ⟨#[.cells #[.string ⟨#[118,97,108,117,101,32,111,117,116,32,111,102,32,114,97,110,103,101]⟩] 260,.cells #[.string ⟨#[105,110,118,97,108,105,100,32,115,121,110,116,97,120]⟩] 260],#[],[]⟩
 { w0 with heap := (putVar (putVar (putVar (putVar (putVar w0.heap 4 #[.int .u8 0,.int .u8 1,.int .u8 28,.int .u8 2,.int .u8 29,.int .u8 14,.int .u8 24,.int .u8 3,.int .u8 30,.int .u8 22,.int .u8 20,.int .u8 15,.int .u8 25,.int .u8 17,.int .u8 4,.int .u8 8,.int .u8 31,.int .u8 27,.int .u8 13,.int .u8 23,.int .u8 21,.int .u8 19,.int .u8 16,.int .u8 7,.int .u8 26,.int .u8 12,.int .u8 18,.int .u8 6,.int .u8 11,.int .u8 5,.int .u8 10,.int .u8 9]) 5 #[.int .u8 0,.int .u8 1,.int .u8 56,.int .u8 2,.int .u8 57,.int .u8 49,.int .u8 28,.int .u8 3,.int .u8 61,.int .u8 58,.int .u8 42,.int .u8 50,.int .u8 38,.int .u8 29,.int .u8 17,.int .u8 4,.int .u8 62,.int .u8 47,.int .u8 59,.int .u8 36,.int .u8 45,.int .u8 43,.int .u8 51,.int .u8 22,.int .u8 53,.int .u8 39,.int .u8 33,.int .u8 30,.int .u8 24,.int .u8 18,.int .u8 12,.int .u8 5,.int .u8 63,.int .u8 55,.int .u8 48,.int .u8 27,.int .u8 60,.int .u8 41,.int .u8 37,.int .u8 16,.int .u8 46,.int .u8 35,.int .u8 44,.int .u8 21,.int .u8 52,.int .u8 32,.int .u8 23,.int .u8 11,.int .u8 54,.int .u8 26,.int .u8 40,.int .u8 15,.int .u8 34,.int .u8 20,.int .u8 31,.int .u8 10,.int .u8 25,.int .u8 14,.int .u8 19,.int .u8 9,.int .u8 13,.int .u8 8,.int .u8 7,.int .u8 6]) 3 #[.int .u64 1,.int .u64 10,.int .u64 100,.int .u64 1000,.int .u64 10000,.int .u64 100000,.int .u64 1000000,.int .u64 10000000,.int .u64 100000000,.int .u64 1000000000,.int .u64 10000000000,.int .u64 100000000000,.int .u64 1000000000000,.int .u64 10000000000000,.int .u64 100000000000000,.int .u64 1000000000000000,.int .u64 10000000000000000,.int .u64 100000000000000000,.int .u64 1000000000000000000,.int .u64 10000000000000000000]) 2 #[.iface 258 (.pointer (some ⟨lowBlk,0,none⟩))]) 1 #[.iface 258 (.pointer (some ⟨lowBlk + 1,0,none⟩))]) }
set_option maxRecDepth 100000 in
theorem laid_met (os : Os) : laidMet Tryz.prog Rows.sortRunsAreSortedChunksRow.laid ((gm os).forCall (fun _ _=>0) ⟨#[],#[.slice none 0 0,.agg #[.slice none 0 0,.slice none 0 0],.int .i64 0],[]⟩).memory :=
 laidMet_of_run' 8 (by kernel_rfl) (by kernel_rfl)
theorem law_reads (os : Os) {H : Type} (enc : TypeId × Value → H) : ∃ dX,DataW.whole enc Tryz.prog ((gm os).forCall (fun _ _=>0) ⟨#[],#[.slice none 0 0,.agg #[.slice none 0 0,.slice none 0 0],.int .i64 0],[]⟩).memory Tryz.f4.params.toList (OpenSpec.ofChange Rows.sortRunsAreSortedChunksSpec).vars false (#[.slice none 0 0,.agg #[.slice none 0 0,.slice none 0 0],.int .i64 0] : Array Value).toList 8 = some ([.nil,.agg [.nil,.nil],.lit (.int .i64 0)],[],dX) :=
 ⟨[],by kernel_rfl⟩
set_option maxRecDepth 100000 in
theorem law_lifted (os : Os) (started : os.Started) (H : Type) (enc : TypeId × Value → H) (F : Stop.Interp) :
  ReturnsInHanded {} Tryz.checked os 4 .any ((OpenSpec.ofChange Rows.sortRunsAreSortedChunksSpec).preRow enc Tryz.prog Tryz.f4 Rows.sortRunsAreSortedChunksRow.domain false Rows.sortRunsAreSortedChunksRow.laid) (((OpenSpec.ofChange Rows.sortRunsAreSortedChunksSpec).at F).post enc Tryz.prog Tryz.f4 false true false false) := by
 obtain ⟨dX,hx⟩ := law_reads os enc
 refine returnsInHanded_of_row (C := Tryz.checked) (s := OpenSpec.ofChange Rows.sortRunsAreSortedChunksSpec) own_knob started (by kernel_rfl) Tryz.func4
  (witness_row_at (enc := enc) (C := Tryz.checked) false (gm os) #[.slice none 0 0,.agg #[.slice none 0 0,.slice none 0 0],.int .i64 0] rfl (by kernel_rfl) (by kernel_rfl) (by kernel_rfl)
   (OpenSpec.preRow_of_cond 8 hx (by kernel_rfl) (fun k hk=>by cases hk) (by kernel_rfl) (laid_met os))) ?_
 intro W base args ds gs before hval hW _ _ hsz hL _ _
 refine law_calls (s := Rows.sortRunsAreSortedChunksSpec) laid_out (tb := 4) rfl ?_ rfl Tryz.underlying4 ?_ lawTypes_ok lawTypes_info ?_ law_args hval hW (gl_all W) hsz
 ·rw [Tryz.params4]
  intro t ht
  simp only [List.mem_cons,List.mem_nil_iff,or_false] at ht
  rcases ht with rfl | rfl | rfl <;> exact ⟨by kernel_rfl,of_decide_eq_true (by kernel_rfl)⟩
 ·intro ds hlen
  rw [Tryz.params4] at hlen
  match ds,hlen with
  | [d0,d1,d2],_=>rfl
 ·rw [Tryz.params4]
  intro t ht
  simp only [List.mem_cons,List.mem_nil_iff,or_false] at ht
  rcases ht with rfl | rfl | rfl <;> simp [lawTypes]
theorem law_said : Rows.SortRunsAreSortedChunksSaid :=
 OpenClaim.holds_of_cond 4 Tryz.f4 rfl rfl rfl rfl rfl rfl rfl ⟨rfl,rfl,rfl,rfl,rfl⟩ rfl rfl rfl rfl rfl (by kernel_rfl) Tryz.func4 law_facts
  (of_decide_eq_true (by kernel_rfl)) (by unfold Func.isWrapper; first | (rw [zp (by decide +kernel)]; kernel_rfl) | (rw [zy (by decide +kernel)]; exact ⟨rfl,rfl⟩))
  (fun os started H enc _ F=>by rw [OpenClaim.pre_eq_preRow]; exact law_lifted os started H enc F)
theorem law_plain (f : FuncId) (fn : Func) (hf : Tryz.pinned.checked.prog.funcNamed "stemma/stemkeep3.SortRunsAreSortedChunks" = some f) (hfn : Tryz.pinned.checked.prog.funcs[f]? = some fn) :
  true = Tryz.pinned.checked.prog.looks [] ∧ ∀ (j : Nat) t,fn.params[j]? = some t → Tryz.pinned.checked.prog.wantsStandIn t = false := by
 obtain rfl : f = 4 := Option.some.inj ((show Tryz.prog.funcNamed "stemma/stemkeep3.SortRunsAreSortedChunks" = some 4 by kernel_rfl).symm.trans hf) |>.symm
 obtain rfl : fn = Tryz.f4 := (Option.some.inj (Tryz.func4.symm.trans hfn)).symm
 refine ⟨by kernel_rfl,fun j t ht=>?_⟩
 have hall : (Tryz.f4.params.toList.all fun u=>!Tryz.prog.wantsStandIn u) = true := by kernel_rfl
 have hm : t ∈ Tryz.f4.params.toList := by simpa using Array.mem_of_getElem? ht
 exact (show Tryz.prog.wantsStandIn t = false by simpa using List.all_eq_true.1 hall t hm)
theorem sortRunsAreSortedChunks_holds : Rows.SortRunsAreSortedChunksCardSaid :=
 Claim7.holds_tied_plain_at .later [] _ _ _ _ law_said (fun _ h=>by cases h) (by kernel_rfl) (fun _ h=>by cases h) sortRunsAreSortedChunks_row_tie rfl ⟨rfl,rfl⟩ (by kernel_rfl) rfl law_plain (by kernel_rfl)
end
end Go.Proofs.YtnnieenoapkefaaGreatDoor
