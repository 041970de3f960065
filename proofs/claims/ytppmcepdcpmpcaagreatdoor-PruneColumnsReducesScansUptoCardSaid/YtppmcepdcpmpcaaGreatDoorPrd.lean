/- pruneColumnsReducesScansUpto_holds, part 4: the layer, the plain functions and what they compute; conditions as in the statement. -/
import Derived.Test.YtppmcepdcpmpcaaGreatDoorPrc
set_option maxHeartbeats 4000000
namespace Go.Cx
noncomputable section
open Go Go.Ab
theorem qD {h : Tr (Option Blk)} {id : Nat} {x : Option Blk} (hid : id + 1 < 2 ^ 24) : ed (h.set 24 id x) id = x := by
 unfold ed
 rw [Tr.get_same 24 h id x hid]
theorem ng {h : Tr (Option Blk)} {id j : Nat} {x : Option Blk} (hf : h.fits 24) (hid : id + 1 < 2 ^ 24) (hj : j ≠ id) : ed (h.set 24 id x) j = ed h j := by
 unfold ed
 rw [Tr.get_other 24 h id x j hf hj hid]
theorem lI {T : TT} {H H' : Hp} {t : TypeId} {x y : Operand} {ev : Operand → DV} {d : DV} (h : kf T H (.store t x y) ev = some (d,H')) :
  ∃ id off k cs,ev x = .p id off ∧ ed H.h id = some k ∧ nZ (ev y) = some cs ∧ d = .bad ∧ H' = ⟨H.h.set 24 id (some ⟨k.e,k.sz,k.cap,k.wr,jE k.cells off cs⟩),H.nx⟩ := by
 simp only [kf] at h
 split at h
 ·rename_i ti id off cs _ hx hc
  split at h
  ·rename_i k hk
   generalize (k.wr && Nat.beq cs.length ti.size && Nat.ble (off + ti.size) k.cells.length) = bb at h
   cases bb with
   | false=>simp at h
   | true =>
    simp only [zc,zo,Prod.mk.injEq] at h
    exact ⟨id,off,k,cs,hx,hk,hc,h.1.symm,h.2.symm⟩
  ·cases h
 ·cases h
theorem pJ {T : TT} {call : gM} {H : Hp} {o : Oper} {ev : Operand → DV} (ho : ∃ t x y,o.op = .store t x y) {r : DV × Hp} (h : oneD T call o.op ev H = some r) : kf T H o.op ev = some r := by
 obtain ⟨t,x,y,e⟩ := ho
 rw [e] at h ⊢
 unfold oneD at h
 have e1 : gk T H.h (.store t x y) ev = none := rfl
 rw [e1] at h
 simp only at h
 have e2 : loudD T H (.store t x y) ev = kf T H (.store t x y) ev := rfl
 rw [e2] at h
 split at h
 ·rename_i z hz; rw [hz,h]
 ·cases h
section
variable {P : Program} {T : TT} (hT : T.Ok P) {W0 : World} {B : Nat → Option Go.Obj} {call : gM} (hc : nG P W0 call) {ops : Array Oper} {b : Array Nat} {nx0 N : Nat} {df : List (FuncId × List DV)} {tr : List DS}
theorem pair_less (h : Tra T call ops b nx0 tr) {i j : Nat} (hp : PairAt T ops b tr i j) {x y : Oper} (hx : ops[i]? = some x) (hy : ops[j]? = some y) {di dj dj' : DS} (hdi : tr[i]? = some di) (hdj : tr[j]? = some dj) (hdj' : tr[j + 1]? = some dj')
  (h0 : ∃ ds,tr[0]? = some ds ∧ ds.pd = []) {d3 d4 : DV} {H3 H4 : Hp} (h3 : kf T di.st.H y.op (evD dj.st.s) = some (d3,H3)) (h4 : kf T H3 x.op (evD di.st.s) = some (d4,H4)) (hf : di.st.H.h.fits 24) :
  di.pd = [] ∧ d3 = .bad ∧ d4 = .bad ∧ (∀ id k,ed dj'.st.H.h id = some k → ed H4.h id = some k) ∧ dj'.st.H.nx = H4.nx ∧ dj'.st.H.nx = di.st.H.nx ∧ dj'.st.H.h.fits 24 := by
 have hls := iD hp.aj
 obtain ⟨gx,hxs⟩ := hp.gi x hx
 obtain ⟨gy,hys⟩ := hp.gj y hy
 -- what the check says
 have hsw := hp.sw
 unfold swapD at hsw
 rw [hx,hy,hdi,hdj] at hsw
 simp only at hsw
 split at hsw
 ·rename_i a c d3' H3' ha hcc h3'
  rw [h3] at h3'
  simp only [zo,Prod.mk.injEq] at h3'
  obtain ⟨rfl,rfl⟩ := h3'
  simp only [Bool.and_eq_true] at hsw
  obtain ⟨⟨⟨⟨s1,s2⟩,s3⟩,s4⟩,_⟩ := hsw
  have hpd : di.pd = [] := by simpa using s1
  have hac : a ≠ c := by
   intro e
   rw [e] at s2
   simp at s2
  have ha4 : a < 1000000 := by simpa [Nat.blt_eq] using s3
  have hc4 : c < 1000000 := by simpa [Nat.blt_eq] using s4
  -- the text's order
  obtain ⟨e,e',f1,f2,f3⟩ := h.step i x hx
  rw [hdi] at f1
  cases f1
  obtain ⟨_,_,vi,_,ki⟩ := jp f3 (h.nodef i x hx)
  have hactx : eZ x = true := by rw [← qY hx]; exact hp.ai
  have hacty : eZ y = true := by rw [← qY hy]; exact hp.aj
  have hgx : dT ops di.st.s x = some true := by simp [dT,gx]
  have hgy : dT ops dj.st.s y = some true := by simp [dT,gy]
  have h1 : kf T di.st.H x.op (evD di.st.s) = some (vi,e'.st.H) := by
   cases ki with
   | skip hg=>rw [hgx] at hg; cases hg
   | skipA hg=>rw [hgx] at hg; cases hg
   | new _ _ _ hn=>rw [lj hn] at hactx; cases hactx
   | quiet _ _ ha=>rw [hactx] at ha; cases ha
   | act _ _ hone _ =>
    have := pJ hxs hone
    rw [hpd] at this
    exact this
  have hjH : dj.st.H = e'.st.H := by
   have hij := hp.lt
   refine h.heap f2 (j - (i + 1)) dj (by rw [show i + 1 + (j - (i + 1)) = j from by omega]; exact hdj) (by omega) (fun l hl1 hl2=>?_)
   cases hal : co ops l with
   | false=>rfl
   | true=>rcases hp.acts l hal with g | g | g <;> omega
  have hjpd : dj.pd = [] := by
   obtain ⟨_,g2⟩ := h.pend h0 j dj hdj (by omega)
   cases hq : dj.pd with
   | nil=>rfl
   | cons z zs =>
    exfalso
    obtain ⟨_,⟨o,_,_,ho,_,hn,_⟩,g4⟩ := g2 z (by rw [hq]; simp)
    have := g4 i hp.lt hp.ai
    have hz := (hp.early z.1 o ho (by rw [hn]; rfl)).1
    rw [hz] at this
    cases this
  obtain ⟨e2,e2',f4,f5,f6⟩ := h.step j y hy
  rw [hdj] at f4
  cases f4
  rw [hdj'] at f5
  cases f5
  obtain ⟨_,_,vj,_,kj⟩ := jp f6 (h.nodef j y hy)
  have h2 : kf T e'.st.H y.op (evD dj.st.s) = some (vj,dj'.st.H) := by
   cases kj with
   | skip hg=>rw [hgy] at hg; cases hg
   | skipA hg=>rw [hgy] at hg; cases hg
   | new _ _ _ hn=>rw [lj hn] at hacty; cases hacty
   | quiet _ _ ha=>rw [hacty] at ha; cases ha
   | act _ _ hone _ =>
    have := pJ hys hone
    rw [hjpd,hjH] at this
    exact this
  obtain ⟨tx,xx,xy,ox⟩ := hxs
  obtain ⟨ty,yx,yy,oy⟩ := hys
  rw [ox] at h1 h4
  rw [oy] at h2 h3
  obtain ⟨i1,o1,k1,c1,a1,b1,g1,q1,r1⟩ := lI h1
  obtain ⟨i2,o2,k2,c2,a2,b2,g2,q2,r2⟩ := lI h2
  obtain ⟨i3,o3,k3,c3,a3,b3,g3,q3,r3⟩ := lI h3
  obtain ⟨i4,o4,k4,c4,a4,b4,g4,q4,r4⟩ := lI h4
  rw [a1] at a4
  cases a4
  rw [a2] at a3
  cases a3
  rw [g1] at g4
  cases g4
  rw [g2] at g3
  cases g3
  have hi1 : i1 = a := by
   simp only [addrOf,ox,a1,zo] at ha
   exact ha
  have hi2 : i2 = c := by
   simp only [addrOf,oy,a2,zo] at hcc
   exact hcc
  subst hi1 hi2
  have hk2 : k2 = k3 := by
   rw [r1] at b2
   simp only at b2
   rw [ng hf (by omega) (Ne.symm hac)] at b2
   rw [b3] at b2
   exact (Option.some.inj b2).symm
  have hk4 : k4 = k1 := by
   rw [r3] at b4
   simp only at b4
   rw [ng hf (by omega) hac] at b4
   rw [b1] at b4
   exact (Option.some.inj b4).symm
  subst hk2 hk4
  refine ⟨hpd,q3,q4,fun id k hk=>?_,?_,?_,?_⟩
  ·rw [r2] at hk
   rw [r4]
   simp only at hk ⊢
   have f3 : H3.h.fits 24 := by rw [r3]; exact Tr.set_fits _ _ _ _ hf
   by_cases e1 : id = i1
   ·subst e1
    rw [qD (by omega)]
    rw [r1] at hk
    rcases gq hk with ⟨e,_⟩ | ⟨_,e⟩
    ·exact absurd e hac
    ·simp only at e
     rw [qD (by omega)] at e
     exact e
   ·rw [ng f3 (by omega) e1,r3]
    simp only
    rcases gq hk with ⟨rfl,e⟩ | ⟨e2,e⟩
    ·rw [qD (by omega)]; exact e
    ·rw [ng hf (by omega) e2]
     rw [r1] at e
     rcases gq e with ⟨e3,_⟩ | ⟨_,e3⟩
     ·exact absurd e3 e1
     ·exact e3
  ·rw [r2,r4,r1,r3]
  ·rw [r2,r1]
  ·rw [r2,r1]; exact Tr.set_fits _ _ _ _ (Tr.set_fits _ _ _ _ hf)
 ·cases hsw
theorem swap_facts {i j : Nat} (hp : PairAt T ops b tr i j) {x y : Oper} (hx : ops[i]? = some x) (hy : ops[j]? = some y) {di dj : DS} (hdi : tr[i]? = some di) (hdj : tr[j]? = some dj) :
  ∃ d3 H3 d4 H4,kf T di.st.H y.op (evD dj.st.s) = some (d3,H3) ∧ kf T H3 x.op (evD di.st.s) = some (d4,H4) := by
 have hsw := hp.sw
 unfold swapD at hsw
 rw [hx,hy,hdi,hdj] at hsw
 simp only at hsw
 split at hsw
 ·rename_i a c d3 H3 ha hcc h3
  simp only [Bool.and_eq_true] at hsw
  have h4 := hsw.2
  cases h5 : kf T H3 x.op (evD di.st.s) with
  | none=>rw [h5] at h4; cases h4
  | some z=>exact ⟨d3,H3,z.1,z.2,h3,h5⟩
 ·cases hsw
theorem qW {Q : Exit → Act → World → Prop} {i : Nat} {o : Oper} (ho : ops[i]? = some o) {K : Act → World → Prop} {a : Act} {w : World} (h : if Region.wanted o (yielded ops a.tmps) then o.wp P a w K Q else K (a.put o.dst undef) w) : wpOp P ops Q i K a w := by
 unfold wpOp
 rw [ho]
 simp only
 split
 ·rename_i hw; rw [zp hw] at h; exact .inl h
 ·rename_i hw; rw [zy hw] at h; exact h
structure Ext0 (nx0 : Nat) (β0 β : Be) : Prop where
 le : β0.le β
 old : ∀ id,id < nx0 → β id = β0 id
theorem Ext0.ext {β0 β β' : Be} {nx nx' : Nat} (h : Ext0 nx0 β0 β) (he : Ext β β' nx nx') (hn : nx0 ≤ nx) : Ext0 nx0 β0 β' :=
 ⟨Be.trans h.le he.le,fun id hid=>(he.old id (by omega)).trans (h.old id hid)⟩
include hT hc in
theorem inv_step (h : Tra T call ops b nx0 tr) {d0 : DS} (hd0 : tr[0]? = some d0) (hN : d0.st.n = N) (hpd0 : d0.pd = [])
  (hld : ∀ (i : Nat) (o : Oper),ops[i]? = some o → fU o.op = true → ∀ m,(m = 0 ∨ ∃ i',m = i' + 1 ∧ co ops i' = true) → (∀ l,co ops l = true → (l < m → (b.getD l 0).testBit i = false) ∧ (m ≤ l → (b.getD i 0).testBit l = false)) →
   ∀ ds,tr[i]? = some ds → dT ops ds.st.s o = some true → ∀ d,gk T ds.st.H.h o.op (evD ds.st.s) = some d → ∃ dm,tr[m]? = some dm ∧ gk T dm.st.H.h o.op (evD ds.st.s) = some d)
  (hord : ∀ i j,i < j → co ops i = true → co ops j = true → (b.getD j 0).testBit i = true ∨ PairAt T ops b tr i j)
  {listed : Array Bool} {β0 β : Be} {a : Act} {w : World} (hi : DI T W0 B ops b nx0 N df tr listed β a w) (he0 : Ext0 nx0 β0 β) {Q : Exit → Act → World → Prop} {j : Nat} (hj : j ∈ Region.ready .any ops listed) :
  wpOp P ops Q j (fun a' w'=>∃ β',Ext0 nx0 β0 β' ∧ DI T W0 B ops b nx0 N df tr (listed.setIfInBounds j true) β' a' w') a w := by
 obtain ⟨hn0,o,ho,hr⟩ := mem_ready.1 hj
 have hjs : j < ops.size := (Array.getElem?_eq_some_iff.1 ho).1
 have hjl : j < listed.size := by rw [hi.sz]; exact hjs
 have hn : ¬ XL listed j := by
  unfold XL
  intro e
  rw [Array.getD_eq_getD_getElem?,Array.getElem?_eq_getElem hjl] at hn0 e
  simp only [Option.getD_some] at hn0 e
  rw [hn0] at e
  cases e
 have hset : ∀ {i},XL (listed.setIfInBounds j true) i ↔ i = j ∨ XL listed i := XL_set hjl
 obtain ⟨dj,dj',hdj,hdj',hst⟩ := h.step j o ho
 obtain ⟨_,_,d,hput,hk⟩ := jp hst (h.nodef j o ho)
 have hfr := h.frame hd0 j dj hdj (by omega)
 have hNj : dj.st.n = N := hfr.1.trans hN
 have hev := hi.ev h ho hn hr hdj
 have hgd : ∀ g,dT ops dj.st.s o = some g → Region.wanted o (yielded ops a.tmps) = g := fun g hg=>guardD_at (fun t ht=>hi.look h ho hn hr hdj ht) hg
 have hbef : ∀ k,(b.getD j 0).testBit k = true → XL listed k := fun k hk=>kT h.m hi.cl h.edge j o k ho hr hk
 have hact : co ops j = eZ o := qY ho
 have hno : ∀ β' : Be,(∀ i,i < ops.size → β' (nx0 + i) = β (nx0 + i)) → ∀ i,i < ops.size → i ≠ j → ¬ XL listed i → β' (nx0 + i) = none := fun β' he i hi' _ hx=>(he i hi').trans (hi.no i hi' hx)
 -- the heap,where the step does not write
 have stay : eZ o = false → (∀ k,newAt T ops nx0 tr j k → False) → HeapI T W0 B ops b nx0 tr listed β w → HeapI T W0 B ops b nx0 tr (listed.setIfInBounds j true) β w := by
  intro hna hnn hh
  have hnj : co ops j = false := by rw [hact]; exact hna
  cases hh with
  | A m ds hm hle h1 h2 h3 hnx hp =>
   refine .A m ds hm hle ?_ ?_ (fun i hi' ha=>hset.2 (.inr (h3 i hi' ha))) hnx (hp.weak fun i k hk=>⟨?_,hk.2⟩)
   ·rcases h1 with h1 | ⟨i,e,hx,ha⟩
    ·exact .inl h1
    ·exact .inr ⟨i,e,hset.2 (.inr hx),ha⟩
   ·intro i hx ha
    rcases hset.1 hx with rfl | hx
    ·rw [hnj] at ha; cases ha
    ·exact h2 i hx ha
   ·rcases hset.1 hk.1 with e | hx
    ·rw [e] at hk; exact (hnn k hk.2.1).elim
    ·exact hx
  | C i j2 hpr hj2 hi2 hall di dj2 g1 g2 y g3 d3 H3 g4 g5 g6 g7 =>
   refine .C i j2 hpr (hset.2 (.inr hj2)) (fun hx=>?_) (fun k hk=>?_) di dj2 g1 g2 y g3 d3 H3 g4 g5 g6 g7
   ·rcases hset.1 hx with e | hx
    ·have := hpr.ai
     rw [e,hnj] at this
     cases this
    ·exact hi2 hx
   ·rcases hall k hk with e | e
    ·exact .inl e
    ·exact .inr (hset.2 (.inr e))
 -- a step that comes to nothing
 have quietly : ∀ v,R β d v → eZ o = false → (∀ k,newAt T ops nx0 tr j k → False) → ∃ β',Ext0 nx0 β0 β' ∧ DI T W0 B ops b nx0 N df tr (listed.setIfInBounds j true) β' (a.put o.dst v) w := by
  intro v hR hna hnn
  exact ⟨β,he0,hi.next h ho hn hr hdj hdj' hNj hput Be.rfl' hR (hno β fun _ _=>rfl) hi.inj (stay hna hnn hi.hp)⟩
 have writing : ∀ g,dT ops dj.st.s o = some g → eZ o = true → ((g = true ∧ oneD T call o.op (evD dj.st.s) (kL nx0 dj.st.H (dj.pd.filter fun x=>(b.getD j 0).testBit x.1)) = some (d,dj'.st.H)) ∨ (g = false ∧ d = .t [] ∧ dj'.st.H = kL nx0 dj.st.H (dj.pd.filter fun x=>(b.getD j 0).testBit x.1))) →
   wpOp P ops Q j (fun a' w'=>∃ β',Ext0 nx0 β0 β' ∧ DI T W0 B ops b nx0 N df tr (listed.setIfInBounds j true) β' a' w') a w := by
  intro g hg hna hcase
  refine qW ho ?_
  rw [hgd _ hg]
  have haj : co ops j = true := by rw [hact]; exact hna
  have hnnew : ∀ k,newAt T ops nx0 tr j k → False := by
   intro k hk
   obtain ⟨o',_,_,e1,_,e3,_⟩ := hk
   rw [ho] at e1
   cases e1
   rw [lj e3] at hna
   cases hna
  have hbad : (∃ t x y,o.op = .store t x y) → o.guard = none → g = true ∧ d = .bad := by
   intro hs hgn
   have : dT ops dj.st.s o = some true := by simp [dT,hgn]
   rw [hg] at this
   cases this
   refine ⟨rfl,?_⟩
   rcases hcase with ⟨_,hone⟩ | ⟨e,_⟩
   ·have h1 := pJ hs hone
    obtain ⟨t,x,y,e⟩ := hs
    rw [e] at h1
    obtain ⟨_,_,_,_,_,_,_,q,_⟩ := lI h1
    exact q
   ·cases e
  cases hi.hp with
  | A m ds hm hle h1 h2 h3 hnx hp =>
   by_cases hall : ∀ i,i < j → co ops i = true → XL listed i
   ·have hmj : m ≤ j := by
     rcases h1 with rfl | ⟨i,rfl,hx,ha⟩
     ·omega
     ·have hne : i ≠ j := fun e=>hn (e ▸ hx)
      rcases Nat.lt_or_ge j i with hlt | hge
      ·exact absurd (h3 j (by omega) haj) hn
      ·omega
    have hH : dj.st.H = ds.st.H := h.heap hm (j - m) dj (by rw [show m + (j - m) = j from by omega]; exact hdj) (by omega) (fun l hl1 hl2=>by
     cases hal : co ops l with
     | false=>rfl
     | true=>have := h2 l (hall l (by omega) hal) hal; omega)
    obtain ⟨nd,pf⟩ := h.pend ⟨d0,hd0,hpd0⟩ j dj hdj (by omega)
    have hp1 := PW.absorbL hi.inj (dj.pd.filter fun x=>(b.getD j 0).testBit x.1) hp (fun x hx=>by
     obtain ⟨hx1,hx2⟩ := List.mem_filter.1 hx
     obtain ⟨a1,a2,a3⟩ := pf x hx1
     exact ⟨hbef _ hx2,a2,fun l hl hal=>a3 l (by omega) hal⟩) (nd.sublist (List.filter_sublist.map _)) (fun i k hk=>by
     obtain ⟨_,⟨o',_,_,e1,_⟩,_⟩ := hk
     exact (Array.getElem?_eq_some_iff.1 e1).1)
    rw [← hH] at hp1
    have hpend : ∀ i k,pendP T ops b nx0 tr (j + 1) (listed.setIfInBounds j true) i k → pendP T ops b nx0 tr m listed i k ∧ ∀ x ∈ (dj.pd.filter fun x=>(b.getD j 0).testBit x.1),i ≠ x.1 := by
     intro i k hk
     obtain ⟨g1,g2,g3⟩ := hk
     have hx : XL listed i := by
      rcases hset.1 g1 with e | hx
      ·rw [e] at g2; exact (hnnew k g2).elim
      ·exact hx
     refine ⟨⟨hx,g2,fun l hl hal=>g3 l (by omega) hal⟩,fun x hx e=>?_⟩
     have h5 := (List.mem_filter.1 hx).2
     have h6 := g3 j (Nat.lt_succ_self _) haj
     rw [e,h5] at h6
     cases h6
    have h1' : (j + 1 = 0 ∨ ∃ i,j + 1 = i + 1 ∧ XL (listed.setIfInBounds j true) i ∧ co ops i = true) := .inr ⟨j,rfl,hset.2 (.inl rfl),haj⟩
    have h2' : ∀ i,XL (listed.setIfInBounds j true) i → co ops i = true → i < j + 1 := by
     intro i hx ha
     rcases hset.1 hx with rfl | hx
     ·exact Nat.lt_succ_self _
     ·have := h2 i hx ha; omega
    have h3' : ∀ i,i < j + 1 → co ops i = true → XL (listed.setIfInBounds j true) i := by
     intro i hl ha
     rcases Nat.lt_succ_iff_lt_or_eq.1 hl with hl | rfl
     ·exact hset.2 (.inr (hall i hl ha))
     ·exact hset.2 (.inl rfl)
    obtain ⟨B',q1,q2,q3⟩ := hp1
    have hnxa : nx0 + ops.size ≤ (kL nx0 dj.st.H (dj.pd.filter fun x=>(b.getD j 0).testBit x.1)).nx := by rw [qK,hH]; exact hnx
    rcases hcase with ⟨rfl,hone⟩ | ⟨rfl,hd,hHe⟩
    ·simp only [if_true]
     refine one_ok hT hc hone q1 hev _ Q fun v β' w' hext hw' hR=>⟨β',he0.ext hext (by omega),hi.next h ho hn hr hdj hdj' hNj hput hext.le hR (hno β' fun i hi'=>hext.old _ (by omega)) (hi.inj.ext hext hnxa) (.A (j + 1) dj' hdj' hjs h1' h2' h3' (Nat.le_trans hnxa hext.nx) ⟨B',hw',q2,fun i k hk=>(q3 i k (hpend i k hk)).mono hext.le⟩)⟩
    ·simp only [Bool.false_eq_true,if_false]
     exact ⟨β,he0,hi.next h ho hn hr hdj hdj' hNj hput Be.rfl' (by rw [hd]; simp [R,RL,undef]) (hno β fun _ _=>rfl) hi.inj (.A (j + 1) dj' hdj' hjs h1' h2' h3' (by rw [hHe]; exact hnxa) ⟨B',by rw [hHe]; exact q1,q2,fun i k hk=>q3 i k (hpend i k hk)⟩)⟩
   ·have ⟨i,hi0⟩ := Classical.not_forall.1 hall
    have ⟨hij,hi1⟩ := Classical.not_imp.1 hi0
    have ⟨hai,hxi⟩ := Classical.not_imp.1 hi1
    have hpr : PairAt T ops b tr i j := (hord i j hij hai haj).resolve_left fun hb=>hxi (hbef i hb)
    have hothers : ∀ k,co ops k = true → k = i ∨ k = j ∨ XL listed k := by
     intro k hk
     rcases hpr.acts k hk with hlt | e | e
     ·right; right
      cases hx : listed.getD k false with
      | true=>exact hx
      | false =>
       have hxk : ¬ XL listed k := by unfold XL; rw [hx]; simp
       have hpk := (hord k j (by omega) hk haj).resolve_left fun hb=>hxk (hbef k hb)
       rcases hpk.acts i hai with e | e | e <;> omega
     ·exact .inl e
     ·exact .inr (.inl e)
    obtain ⟨rfl,hdb⟩ := hbad (hpr.gj o ho).2 (hpr.gj o ho).1
    have hils := iD hai
    obtain ⟨di,_,hdi,_,_⟩ := h.step i ops[i] (by simp [hils])
    obtain ⟨d3,H3,_,_,h3s,_⟩ := swap_facts hpr (x := ops[i]) (by simp [hils]) ho hdi hdj
    have hmi : m ≤ i := by
     rcases h1 with rfl | ⟨i',rfl,hx,ha⟩
     ·omega
     ·rcases hpr.acts i' ha with e | e | e
      ·omega
      ·exact absurd (e ▸ hx) hxi
      ·exact absurd (e ▸ hx) hn
    have hH : di.st.H = ds.st.H := h.heap hm (i - m) di (by rw [show m + (i - m) = i from by omega]; exact hdi) (by omega) (fun l hl1 hl2=>by
     cases hal : co ops l with
     | false=>rfl
     | true =>
      rcases hothers l hal with e | e | e
      ·omega
      ·omega
      ·have := h2 l e hal; omega)
    have hw := hp.wr
    rw [← hH] at hw hnx
    simp only [if_true]
    refine (qv hT h3s hw hev).ok _ Q fun v β' w' hext hw' _=>⟨β',he0.ext hext (by omega),hi.next h ho hn hr hdj hdj' hNj hput hext.le (by rw [hdb]; simp [R]) (hno β' fun i hi'=>hext.old _ (by omega)) (hi.inj.ext hext hnx) (.C i j hpr (hset.2 (.inl rfl)) (fun hx=>?_) (fun k hk=>?_) di dj hdi hdj o ho d3 H3 h3s hw.fit (Nat.le_trans hnx hext.nx) hw')⟩
    ·rcases hset.1 hx with e | hx
     ·omega
     ·exact hxi hx
    ·rcases hothers k hk with e | e | e
     ·exact .inl e
     ·exact .inr (hset.2 (.inl e))
     ·exact .inr (hset.2 (.inr e))
  | C i j2 hpr hj2 hi2 hall di dj2 hdi hdj2 y hy d3 H3 hH3 hf hnx hw =>
   rcases hall j haj with e | e
   ·subst e
    obtain ⟨rfl,hdb⟩ := hbad (hpr.gi o ho).2 (hpr.gi o ho).1
    rw [hdj] at hdi
    cases hdi
    obtain ⟨d3',H3',d4,H4,q1,q2⟩ := swap_facts hpr ho hy hdj hdj2
    rw [hH3] at q1
    cases q1
    obtain ⟨_,dj2',_,hdj2',_⟩ := h.step j2 y hy
    obtain ⟨_,_,p3,p4,p5,p6,p7⟩ := pair_less h hpr ho hy hdj hdj2 hdj2' ⟨d0,hd0,hpd0⟩ hH3 q2 hf
    simp only [if_true]
    have hls := iD hpr.aj
    refine (qv hT q2 hw hev).ok _ Q fun v β' w' hext hw' _=>⟨β',he0.ext hext (by omega),hi.next h ho hn hr hdj hdj' hNj hput hext.le (by rw [hdb]; simp [R]) (hno β' fun i hi'=>hext.old _ (by omega)) (hi.inj.ext hext hnx)
     (.A (j2 + 1) dj2' hdj2' hls (.inr ⟨j2,rfl,hset.2 (.inr hj2),hpr.aj⟩) (fun k hx ha=>?_) (fun k hl ha=>?_) (by rw [p5]; exact Nat.le_trans hnx hext.nx) ⟨B,hw'.less p4 (Nat.le_of_eq p5.symm) p7,fun _ _ h=>h,fun k kb hk=>?_⟩)⟩
    ·have hlt := hpr.lt
     rcases hpr.acts k ha with e | e | e <;> omega
    ·rcases hall k ha with e | e
     ·exact hset.2 (.inl e)
     ·exact hset.2 (.inr e)
    ·exfalso
     obtain ⟨_,⟨o',_,_,e1,_,e3,_⟩,g3⟩ := hk
     have h5 := (hpr.early k o' e1 (by rw [e3]; rfl)).1
     have h6 := g3 j (by have := hpr.lt; omega) haj
     rw [h5] at h6
     cases h6
   ·exact absurd e hn
 cases hk with
 | skip hg hd hna hH hpd =>
  refine qW ho ?_
  rw [hgd _ hg]
  simp only [Bool.false_eq_true,if_false]
  refine quietly undef (by rw [hd]; simp [R,RL,undef]) hna (fun k hk=>?_)
  obtain ⟨o',di,_,e1,e2,_,e3,_⟩ := hk
  rw [ho] at e1
  cases e1
  rw [hdj] at e2
  cases e2
  rw [hg] at e3
  cases e3
 | quiet hg hnn hna hq hH hpd =>
  refine qW ho ?_
  rw [hgd _ hg]
  simp only [if_true]
  have hnew : ∀ k,newAt T ops nx0 tr j k → False := by
   intro k hk
   obtain ⟨o',di,_,e1,_,e3,_⟩ := hk
   rw [ho] at e1
   cases e1
   rw [hnn] at e3
   cases e3
  have go : ∀ {H : Hp},WR W0 B β H w → gk T H.h o.op (evD dj.st.s) = some d → o.wp P a w (fun a' w'=>∃ β',Ext0 nx0 β0 β' ∧ DI T W0 B ops b nx0 N df tr (listed.setIfInBounds j true) β' a' w') Q := by
   intro H hw hq'
   obtain ⟨v,h1,h2⟩ := rx hT hq' hw hev
   unfold Oper.wp
   rw [h1]
   exact quietly v h2 hna hnew
  cases hl : fU o.op with
  | false =>
   have hall : ∀ h' : Tr (Option Blk),gk T h' o.op (evD dj.st.s) = some d := fun h'=>(quiet_heap hl _ _ _).trans hq
   cases hi.hp with
   | A m ds _ _ _ _ _ _ hp=>exact go hp.wr (hall _)
   | C _ _ _ _ _ _ _ _ _ _ _ _ _ H3 _ _ _ g7=>exact go g7 (hall _)
  | true =>
   cases hi.hp with
   | A m ds hm hle h1 h2 h3 hnx hp =>
    have hlk : ∀ l,co ops l = true → (l < m → (b.getD l 0).testBit j = false) ∧ (m ≤ l → (b.getD j 0).testBit l = false) := by
     intro l ha
     refine ⟨fun hlm=>?_,fun hlm=>?_⟩
     ·cases hb : (b.getD l 0).testBit j with
      | false=>rfl
      | true =>
       have hls := iD ha
       exact absurd (h.lst hi.cl (o := ops[l]) (by simp [hls]) (h3 l hlm ha) hb) hn
     ·cases hb : (b.getD j 0).testBit l with
      | false=>rfl
      | true=>have := h2 l (hbef l hb) ha; omega
    obtain ⟨dm,e1,e2⟩ := hld j o ho hl m (by
     rcases h1 with h1 | ⟨i,e,_,ha⟩
     ·exact .inl h1
     ·exact .inr ⟨i,e,ha⟩) hlk dj hdj hg d hq
    rw [hm] at e1
    cases e1
    exact go hp.wr e2
   | C i j2 hpr hj2 hi2 hall di dj2 g1 g2 y g3 =>
    exfalso
    have := (hpr.early j o ho (by rw [hl]; simp)).2
    exact hn (h.lst hi.cl g3 hj2 this)
 | new hg k hkb hnw hH hpd =>
  refine qW ho ?_
  rw [hgd _ hg]
  simp only [if_true]
  obtain ⟨c,arr,v,g1,g2,g3,g4,g5,g6⟩ := new_sound (w := w) hT hkb hev
  have hna : eZ o = false := lj hnw
  have hnone : β (nx0 + j) = none := hi.no j hjs hn
  cases hi.hp with
  | C i j2 hpr hj2 hi2 hall di dj2 q1 q2 y q3 =>
   exfalso
   have := (hpr.early j o ho (by rw [hnw]; rfl)).2
   exact hn (h.lst hi.cl q3 hj2 this)
  | A m ds hm hle h1 h2 h3 hnx hp =>
   unfold Oper.wp
   rw [g1]
   have hw := hp.wr
   have hp' := hp.new (i := j) (c := c) (k := k) (arr := arr) hnone (by omega) g2 g3 g4 g5
   have hle' := le_upd hnone (w.heap.size,c)
   have hnj : co ops j = false := by rw [hact]; exact hna
   refine ⟨gu β (nx0 + j) (w.heap.size,c),⟨Be.trans he0.le hle',fun id hid=>?_⟩,hi.next h ho hn hr hdj hdj' hNj hput hle' (g6 _ (by simp [gu])) ?_ (hi.inj.upd fun id b c hb=>(hw.dom id b c hb).2) (.A m ds hm hle ?_ ?_ ?_ hnx (hp'.weak ?_))⟩
   ·simp only [gu]
    rw [zy (by omega)]
    exact he0.old id hid
   ·intro i hi' hne hx
    simp only [gu]
    rw [zy (by omega)]
    exact hi.no i hi' hx
   ·rcases h1 with h1 | ⟨i,e,hx,ha⟩
    ·exact .inl h1
    ·exact .inr ⟨i,e,hset.2 (.inr hx),ha⟩
   ·intro i hx ha
    rcases hset.1 hx with rfl | hx
    ·rw [hnj] at ha; cases ha
    ·exact h2 i hx ha
   ·exact fun i hi' ha=>hset.2 (.inr (h3 i hi' ha))
   ·intro i k' hk'
    rcases hset.1 hk'.1 with e | hx
    ·subst e
     obtain ⟨o',di,d',e1,e2,_,_,e5⟩ := hk'.2.1
     rw [ho] at e1
     cases e1
     rw [hdj] at e2
     cases e2
     rw [hkb] at e5
     cases e5
     exact .inr ⟨rfl,rfl⟩
    ·exact .inl ⟨hx,hk'.2⟩
 | skipA hg hd hna hH hpd=>exact writing _ hg hna (.inr ⟨rfl,hd,hH⟩)
 | act hg hna hone hpd=>exact writing _ hg hna (.inl ⟨rfl,hone⟩)
end
end
end Go.Cx

namespace Go.Cx
noncomputable section
open Go Go.Ab
open Go.RowKit (Below)
section
variable {P : Program} {T : TT} (hT : T.Ok P) {W0 : World} {B : Nat → Option Go.Obj} {call : gM} (hc : nG P W0 call) {ops : Array Oper} {b : Array Nat} {nx0 N : Nat} {df : List (FuncId × List DV)} {tr : List DS}
theorem all_listed (h : Tra T call ops b nx0 tr) {listed : Array Bool} (hsz : listed.size = ops.size) (hr : Region.ready .any ops listed = []) : ∀ i,i < ops.size → XL listed i := by
 intro i
 induction i using Nat.strongRecOn with
 | _ i ih =>
  intro hi
  cases hx : listed.getD i false with
  | true=>exact hx
  | false =>
   exfalso
   have hil : i < listed.size := by rw [hsz]; exact hi
   have hmem : i ∈ Region.ready .any ops listed := by
    refine mem_ready.2 ⟨?_,ops[i],by simp [hi],fun e he hb=>?_⟩
    ·rw [Array.getD_eq_getD_getElem?,Array.getElem?_eq_getElem hil] at hx ⊢
     exact hx
    ·have hlt := h.edge i ops[i] (by simp [hi]) e he hb
     exact ih e.on hlt (by omega)
   rw [hr] at hmem
   cases hmem
theorem pe {listed : Array Bool} {j : Nat} (hsz : listed.size = ops.size) (hj : j ∈ Region.ready .any ops listed) : ∃ hl : j < listed.size,listed.toList[j]'(by simpa using hl) = false := by
 obtain ⟨h0,o,ho,_⟩ := mem_ready.1 hj
 have hl : j < listed.size := by rw [hsz]; exact (Array.getElem?_eq_some_iff.1 ho).1
 refine ⟨hl,?_⟩
 rw [Array.getD_eq_getD_getElem?,Array.getElem?_eq_getElem hl] at h0
 simpa using h0
include hT hc in
theorem any_order (h : Tra T call ops b nx0 tr) {d0 : DS} (hd0 : tr[0]? = some d0) (hN : d0.st.n = N) (hpd0 : d0.pd = [])
  (hld : ∀ (i : Nat) (o : Oper),ops[i]? = some o → fU o.op = true → ∀ m,(m = 0 ∨ ∃ i',m = i' + 1 ∧ co ops i' = true) → (∀ l,co ops l = true → (l < m → (b.getD l 0).testBit i = false) ∧ (m ≤ l → (b.getD i 0).testBit l = false)) →
   ∀ ds,tr[i]? = some ds → dT ops ds.st.s o = some true → ∀ d,gk T ds.st.H.h o.op (evD ds.st.s) = some d → ∃ dm,tr[m]? = some dm ∧ gk T dm.st.H.h o.op (evD ds.st.s) = some d)
  (hord : ∀ i j,i < j → co ops i = true → co ops j = true → (b.getD j 0).testBit i = true ∨ PairAt T ops b tr i j)
  {β0 : Be} {Q : Exit → Act → World → Prop} (hq : ∀ listed β a w,DI T W0 B ops b nx0 N df tr listed β a w → Ext0 nx0 β0 β → (∀ i,i < ops.size → XL listed i) → Q .normal a w) :
  ∀ (f : Nat) (listed : Array Bool) (β : Be) (a : Act) (w : World),DI T W0 B ops b nx0 N df tr listed β a w → Ext0 nx0 β0 β → listed.toList.count false ≤ f → wpAny P .any ops Q f listed a w
 | 0,listed,β,a,w,hi,he,hcnt=>by
  have hr : Region.ready .any ops listed = [] := by
   cases hr : Region.ready .any ops listed with
   | nil=>rfl
   | cons j r =>
    obtain ⟨hl,hf⟩ := pe hi.sz (show j ∈ Region.ready .any ops listed from by rw [hr]; simp)
    have : 1 ≤ listed.toList.count false := List.one_le_count_iff.2 (hf ▸ List.getElem_mem _)
    omega
  exact ⟨hr,hq listed β a w hi he (all_listed h hi.sz hr)⟩
 | f + 1,listed,β,a,w,hi,he,hcnt=>by
  refine ⟨fun hr=>hq listed β a w hi he (all_listed h hi.sz hr),fun j hj=>?_⟩
  obtain ⟨hl,hf⟩ := pe hi.sz hj
  refine wpOp_mono (fun a' w' ⟨β',he',hi'⟩=>any_order h hd0 hN hpd0 hld hord hq f _ β' a' w' hi' he' ?_) (inv_step hT hc h hd0 hN hpd0 hld hord hi he hj)
  have hcount := List.count_set (a := true) (b := false) (l := listed.toList) (i := j) (by simpa using hl)
  rw [hf] at hcount
  rw [Array.toList_setIfInBounds]
  have e2 : (listed.toList.set j true).count false = listed.toList.count false - 1 := hcount.trans rfl
  rw [e2]
  omega
include hT hc in
theorem draw_ok (hmix : P.follows .mixedOrders = true) {id : Nat} {st st' : St} (h : drawD T call ops st = some st') {β : Be} {a : Act} {w : World} (hi : StR W0 B β st a w) {Q : Exit → Act → World → Prop}
  (hq : ∀ β' a' w',Ext β β' st.H.nx st'.H.nx → StR W0 B β' st' a' w' → Q .normal a' w') : (Code.region id ops true).wp P Q a w := by
 unfold drawD at h
 cases hs : staticOk ops with
 | false=>simp [hs] at h
 | true =>
  simp only [hs,zc] at h
  split at h
  ·rename_i tr htr
   generalize hb : ((qV ops (Region.before ops)).all (fun x=>loadOk T ops tr x.1 x.2) && qR T ops tr) = bb at h
   cases bb with
   | false=>simp at h
   | true =>
    simp only [zc] at h
    simp only [Bool.and_eq_true] at hb
    obtain ⟨hloads,horder⟩ := hb
    unfold staticOk at hs
    simp only [Bool.and_eq_true] at hs
    obtain ⟨⟨⟨s1,s2⟩,s3⟩,s4⟩ := hs
    obtain ⟨t0,t1⟩ := traceR_ok ops.toList 0 _ tr htr
    have tra : Tra T call ops (Region.before ops) st.H.nx tr := by
     refine ⟨s1,?_,?_,?_,?_⟩
     ·intro j o ho e he hbd
      have hj : j < ops.size := (Array.getElem?_eq_some_iff.1 ho).1
      have := (List.all_eq_true.1 s2) j (by simpa using hj)
      rw [ho] at this
      have := (Array.all_eq_true_iff_forall_mem.1 this) e he
      rw [hbd] at this
      simpa [Nat.blt_eq] using this
     ·intro i j x y hij hx hy
      have hj : j < ops.size := (Array.getElem?_eq_some_iff.1 hy).1
      have := (List.all_eq_true.1 s3) j (by simpa using hj)
      have := (List.all_eq_true.1 this) i (by simpa using hij)
      rw [hx,hy] at this
      simpa using this
     ·intro j o ho
      have := (Array.all_eq_true_iff_forall_mem.1 s4) o (Array.mem_of_getElem? ho)
      exact this
     ·intro i o ho
      obtain ⟨d,d',g1,g2,g3⟩ := t1 i o (by simpa using ho)
      exact ⟨d,d',g1,g2,by simpa using g3⟩
    split at h
    ·rename_i dn hdn
     simp only [zo] at h
     subst h
     have hord := orderOk_sound horder
     have hld : ∀ (i : Nat) (o : Oper),ops[i]? = some o → fU o.op = true → ∀ m,(m = 0 ∨ ∃ i',m = i' + 1 ∧ co ops i' = true) → (∀ l,co ops l = true → (l < m → ((Region.before ops).getD l 0).testBit i = false) ∧ (m ≤ l → ((Region.before ops).getD i 0).testBit l = false)) →
       ∀ ds,tr[i]? = some ds → dT ops ds.st.s o = some true → ∀ d,gk T ds.st.H.h o.op (evD ds.st.s) = some d → ∃ dm,tr[m]? = some dm ∧ gk T dm.st.H.h o.op (evD ds.st.s) = some d := by
      intro i o ho hl m hm hacts ds hds hg d hqd
      have his : i < ops.size := (Array.getElem?_eq_some_iff.1 ho).1
      have hmem : ∃ ks,(i,ks) ∈ qV ops (Region.before ops) ∧ m ∈ ks := by
       refine ⟨(0 :: (((List.range ops.size).filter (co ops)).map (· + 1))).filter fun k =>
        (List.range ops.size).all fun j=>!co ops j || (bif Nat.blt j k then !((Region.before ops).getD j 0).testBit i else !((Region.before ops).getD i 0).testBit j),?_,?_⟩
       ·unfold qV
        rw [List.mem_filterMap]
        exact ⟨i,by simpa using his,by rw [ho]; simp [hl]⟩
       ·rw [List.mem_filter]
        refine ⟨?_,?_⟩
        ·rcases hm with rfl | ⟨i',rfl,ha⟩
         ·simp
         ·refine List.mem_cons_of_mem _ (List.mem_map.2 ⟨i',List.mem_filter.2 ⟨by simpa using iD ha,ha⟩,rfl⟩)
        ·rw [List.all_eq_true]
         intro l _
         cases ha : co ops l with
         | false=>rfl
         | true =>
          obtain ⟨g1,g2⟩ := hacts l ha
          simp only [Bool.not_true,Bool.false_or]
          cases hlt : Nat.blt l m with
          | true=>simp only [zc]; rw [g1 (by simpa [Nat.blt_eq] using hlt)]; rfl
          | false =>
           simp only [zd]
           rw [g2 (by
            rcases Nat.lt_or_ge l m with hlm | hlm
            ·have : Nat.blt l m = true := by rw [Nat.blt_eq]; exact hlm
             rw [this] at hlt; cases hlt
            ·exact hlm)]
           rfl
      obtain ⟨ks,hks,hmk⟩ := hmem
      have hlo := (List.all_eq_true.1 hloads) (i,ks) hks
      simp only [loadOk,ho,hds,hg,hqd] at hlo
      have := (List.all_eq_true.1 hlo) m hmk
      split at this
      ·rename_i dm hdm
       split at this
       ·rename_i d' hd'
        rw [eqV_sound this]
        exact ⟨dm,hdm,hd'⟩
       ·cases this
      ·cases this
     refine wp_region_any hmix ?_
     have hw0 : WR W0 B β ⟨st.H.h,st.H.nx + ops.size⟩ w.drew := hi.wr.drew.less (fun _ _ h=>h) (Nat.le_add_right _ _) hi.wr.fit
     refine any_order hT hc tra t0 (N := st.n) (B := B) (df := st.df) rfl rfl hld hord (β0 := β) (fun listed β' a' w' hi' he' hall=>?_) ops.size (Array.replicate ops.size false) β a w.drew ?_ ⟨Be.rfl',fun _ _=>rfl⟩ (by simp)
     ·-- the end
      obtain ⟨f1,f2⟩ := tra.frame t0 ops.size dn hdn (Nat.le_refl _)
      cases hi'.hp with
      | C i j hpr hj hin=>exact absurd (hall i (iD hpr.ai)) hin
      | A m ds hm hle h1 h2 h3 hnx hp =>
       have hH : dn.st.H = ds.st.H := tra.heap hm (ops.size - m) dn (by rw [show m + (ops.size - m) = ops.size from by omega]; exact hdn) (by omega) (fun l hl1 hl2=>by
        cases hal : co ops l with
        | false=>rfl
        | true=>have := h2 l (hall l (iD hal)) hal; omega)
       obtain ⟨nd,pf⟩ := tra.pend ⟨_,t0,rfl⟩ ops.size dn hdn (Nat.le_refl _)
       have hp1 := PW.absorbL hi'.inj dn.pd hp (fun x hx=>by
        obtain ⟨a1,a2,a3⟩ := pf x hx
        exact ⟨hall _ a1,a2,fun l hl hal=>a3 l (by omega) hal⟩) nd (fun i k hk=>by
        obtain ⟨_,⟨o',_,_,e1,_⟩,_⟩ := hk
        exact (Array.getElem?_eq_some_iff.1 e1).1)
       rw [← hH] at hp1
       refine hq β' a' w' ⟨he'.le,he'.old,?_⟩ ⟨hp1.wr,⟨?_,fun t=>?_⟩,?_⟩
       ·show st.H.nx ≤ (kL st.H.nx dn.st.H dn.pd).nx
        rw [qK,hH]
        omega
       ·show a'.tmps.size = dn.st.n
        rw [f1]; exact hi'.tn
       ·obtain ⟨k,dk,g1,g2,g3,g4,g5⟩ := hi'.sl t
        rcases tra.slot g1 (ops.size - k) dn (by rw [show k + (ops.size - k) = ops.size from by omega]; exact hdn) (by omega) (t := t) (fun i o hki hin ho hd=>by
         have := g4 i (hall i (by omega)) ⟨o,ho,hd⟩
         omega) with e | e
        ·show R β' ((dn.st.s.get t).getD .bad) _
         rw [show (dn.st.s.get t).getD .bad = .bad from e]; simp [R]
        ·show R β' ((dn.st.s.get t).getD .bad) _
         rw [show (dn.st.s.get t).getD .bad = slotD dk t from e]; exact g5
       ·show DfR dn.st.df a'.defers
        rw [f2]; exact hi'.df
     ·have hXf : ∀ i,¬ XL (Array.replicate ops.size false) i := by
       intro i h
       unfold XL at h
       rw [Array.getD_eq_getD_getElem?] at h
       by_cases hi : i < ops.size
       ·simp [hi] at h
       ·simp [hi] at h
      have hnone : ∀ i,β (st.H.nx + i) = none := by
       intro i
       cases hb : β (st.H.nx + i) with
       | none=>rfl
       | some x=>have := (hi.wr.dom _ x.1 x.2 hb).1; omega
      refine ⟨by simp,fun j o _ hx=>absurd hx (hXf j),hi.sl.1,fun t=>⟨0,_,t0,Nat.zero_le _,.inl rfl,fun i hx=>absurd hx (hXf i),hi.sl.2 t⟩,hi.df,fun i _ _=>hnone i,fun i i' bb c c' _ _ e1=>?_,.A 0 _ t0 (Nat.zero_le _) (.inl rfl) (fun i hx=>absurd hx (hXf i)) (fun i hl=>absurd hl (Nat.not_lt_zero _)) (Nat.le_refl _) ⟨B,hw0,fun _ _ h=>h,fun i k hk=>absurd hk.1 (hXf i)⟩⟩
      rw [hnone i] at e1
      cases e1
    ·cases h
  ·cases h
end
theorem initT_get : ∀ (l : List DV) (x : Tr DV) (k j : Nat),((l.foldl (fun (x : Tr DV × Nat) d=>(x.1.set 16 x.2 d,x.2 + 1)) (x,k)).1.get j = none) ∨ (∃ i d,j = k + i ∧ l[i]? = some d ∧ (l.foldl (fun (x : Tr DV × Nat) d=>(x.1.set 16 x.2 d,x.2 + 1)) (x,k)).1.get j = some d) ∨
  ((l.foldl (fun (x : Tr DV × Nat) d=>(x.1.set 16 x.2 d,x.2 + 1)) (x,k)).1.get j = x.get j)
 | [],x,k,j=>.inr (.inr rfl)
 | d :: l,x,k,j=>by
  simp only [List.foldl_cons]
  rcases initT_get l (x.set 16 k d) (k + 1) j with h | ⟨i,d',h1,h2,h3⟩ | h
  ·exact .inl h
  ·exact .inr (.inl ⟨i + 1,d',by omega,by simpa using h2,h3⟩)
  ·rcases Tr.get_set 16 x k d j with e | ⟨rfl,e⟩ | ⟨_,e⟩
   ·exact .inl (h.trans e)
   ·exact .inr (.inl ⟨0,d,rfl,rfl,h.trans e⟩)
   ·exact .inr (.inr (h.trans e))
section
variable {P : Program} {T : TT} (hT : T.Ok P) {W0 : World} {B : Nat → Option Go.Obj}
theorem resD_run (hT : T.Ok P) {st : St} {rv : ResultVar} {d : DV} (h : resD T st rv = some d) {β : Be} {a : Act} {w : World} (hi : StR W0 B β st a w) :
  ∃ v,(resF a.tmps rv).run P w = .ok v w ∧ R β d v := by
 cases rv with
 | tmp t =>
  have hs := hi.sl.2 t
  simp only [resD] at h
  split at h
  ·cases h
  ·rw [h] at hs
   exact ⟨_,rfl,hs⟩
 | cell c t =>
  simp only [resD] at h
  split at h
  ·rename_i ti dd hti hg
   have hs := hi.sl.2 c
   rw [hg] at hs
   simp only [Option.getD_some] at hs
   obtain ⟨b,o,hv,u,h1,h2⟩ := rm hT hti hi.wr hs h
   refine ⟨u,?_,h2⟩
   simp only [resF,hv,asAddr]
   exact h1
  ·cases h
theorem resAllD_run (hT : T.Ok P) {fn : Func} {st : St} {ds : List DV} (h : la T st fn.results.toList = some ds) {β : Be} {a : Act} {w : World} (hi : StR W0 B β st a w) :
  ∃ v,(results fn a.tmps).run P w = .ok v w ∧ R β (tupD ds) v := by
 have key : ∀ (l : List ResultVar) (ds : List DV),la T st l = some ds → ∃ vs : List Value,(l.mapM (resF a.tmps)).run P w = .ok vs w ∧ RL β ds vs := by
  intro l
  induction l with
  | nil=>intro ds h; simp only [la,zo] at h; subst h; exact ⟨[],by simp,by simp [RL]⟩
  | cons r l ih =>
   intro ds h
   simp only [la] at h
   split at h
   ·rename_i d ds' h1 h2
    simp only [zo] at h
    subst h
    obtain ⟨v,hv,hr⟩ := resD_run hT h1 hi
    obtain ⟨vs,hvs,hrs⟩ := ih ds' h2
    refine ⟨v :: vs,?_,by simp only [RL]; exact ⟨v,vs,rfl,hr,hrs⟩⟩
    rw [List.mapM_cons,Sem.run_bind,hv,Result.andThen_ok,Sem.run_bind,hvs]
    rfl
   ·cases h
 obtain ⟨vs,hvs,hrep⟩ := key fn.results.toList ds h
 have hm : (fn.results.mapM (resF a.tmps)).run P w = .ok vs.toArray w := by
  rw [Array.mapM_eq_mapM_toList,Sem.run_map,hvs]
  rfl
 have hlen := hrep.length
 refine ⟨if h : vs.toArray.size = 1 then vs.toArray[0] else .tuple vs.toArray,?_,?_⟩
 ·rw [pI rfl,Sem.run_bind,hm]
  rfl
 ·match ds,vs,hrep,hlen with
  | [],[],hrep,_=>simp [tupD,R,RL]
  | [p],[v],hrep,_ =>
   simp only [RL] at hrep
   obtain ⟨x,xs,he,hx,_⟩ := hrep
   simp only [List.cons.injEq] at he
   simpa [tupD,he.1] using hx
  | p :: q :: ps,u :: v :: vs,hrep,_ =>
   simp only [tupD,R]
   exact ⟨(u :: v :: vs).toArray,by simp,by simpa using hrep⟩
def DefOk (P : Program) (D : FuncId → Bool) : Prop := ∀ g,D g = true → (∀ vs w,(callFunc g vs).run P w = .ok (.enter g vs) w) ∧ ∀ cs w,CallsD P g cs .returning w fun e u w'=>(∃ v,e = .returned v) ∧ u = .returning ∧ w' = w
def Ex.to : Ex → Exit
 | .nm=>.normal
 | .rt=>.ret
 | .ex j=>.exit j
theorem leaves_ok {D : FuncId → Bool} (hD : DefOk P D) {fn : Func} {tmps : Array Value} {Rr : Ending → World → Prop} {w : World} (hr : ∃ v,(results fn tmps).run P w = .ok v w ∧ Rr (.returned v) w) : ∀ (l : List (FuncId × List DV)) (ds : List Deferred),DfR l ds → (l.all fun x=>D x.1) = true → Leaves P fn tmps Rr ds .returning w
 | [],ds,h,_=>by simp only [DfR] at h; subst h; exact hr
 | x :: l,ds,h,ha=>by
  simp only [DfR] at h
  obtain ⟨cs,rest,rfl,h1⟩ := h
  simp only [List.all_cons,Bool.and_eq_true] at ha
  obtain ⟨h2,h3⟩ := hD x.1 ha.1
  refine ⟨by simp,.func x.1,cs,x.1,cs,rfl,by simp [invoke,h2],?_⟩
  refine (h3 cs w).mono ?_
  rintro e u w' ⟨⟨v,rfl⟩,rfl,rfl⟩
  exact leaves_ok hD hr l rest h1 ha.2
theorem callFunc_enter {g : FuncId} {fn : Func} {c : Code} (hf : P.funcs[g]? = some fn) (hb : fn.body = some c) (hn : (fn.name == "runtime.NumGoroutine") = false) (vs : Array Value) (w : World) : (callFunc g vs).run P w = .ok (.enter g vs) w := by
 simp only [callFunc,Sem.run_bind,run_program,Result.andThen_ok,hf,hn,hb]
 rfl
theorem callBy_ok (hT : T.Ok P) {D : FuncId → Bool} (hD : DefOk P D) (hN : ∀ (g : FuncId) (fn : Func), P.funcs[g]? = some fn → (fn.name == "runtime.NumGoroutine") = false) {run : Code → St → Option (Ex × St)}
  (hrun : ∀ (c : Code) (st st' : St) (e : Ex),run c st = some (e,st') → ∀ (B : Nat → Option Go.Obj) (β : Be) (a : Act) (w : World) (Q : Exit → Act → World → Prop),StR W0 B β st a w → (∀ β' a' w',Ext β β' st.H.nx st'.H.nx → StR W0 B β' st' a' w' → Q e.to a' w') → c.wp P Q a w) :
  nG P W0 (lA P T D run) := by
 intro g args H d H' h B β w vs hw hr
 unfold lA at h
 split at h
 ·rename_i fn hf
  split at h
  ·rename_i c hb
   cases hle : Nat.ble args.length fn.ntmps with
   | false=>simp [hle] at h
   | true =>
    have hle' := Nat.le_of_ble_eq_true hle
    simp only [hle,zc] at h
    refine ⟨callFunc_enter hf hb (hN g fn hf) vs,?_⟩
    have hl := hr.length
    simp at hl
    have hst0 : StR W0 B β ⟨fn.ntmps,nj args,H,[]⟩ { tmps := vs ++ Array.replicate (fn.ntmps - vs.size) undef,defers := [] } w := by
     refine ⟨hw,⟨by simp; omega,fun t=>?_⟩,rfl⟩
     rcases initT_get args .nil 0 t with e | ⟨i,dd,e1,e2,e3⟩ | e
     ·show R β (((nj args).get t).getD .bad) _
      rw [show (nj args).get t = none from e]; simp [R]
     ·obtain ⟨x,hx,hrx⟩ := hr.get i dd e2
      have hti : t = i := by omega
      subst hti
      show R β (((nj args).get t).getD .bad) _
      rw [show (nj args).get t = some dd from e3]
      have hlt : t < vs.size := by
       have := (zg.1 hx).1
       simpa using this
      have : (vs ++ Array.replicate (fn.ntmps - vs.size) undef)[t]? = some x := by
       rw [Array.getElem?_append_left hlt,← Array.getElem?_toList]
       exact hx
      simpa [this] using hrx
     ·show R β (((nj args).get t).getD .bad) _
      rw [show (nj args).get t = none from e]; simp [R]
    have fin : ∀ (e : Ex) (st : St),(e = .nm ∨ e = .rt) → run c ⟨fn.ntmps,nj args,H,[]⟩ = some (e,st) → (bif st.df.all fun x=>D x.1 then (la T st fn.results.toList).map fun ds=>(tupD ds,st.H) else none) = some (d,H') →
      Calls P g vs w fun e w'=>∃ v β',e = .returned v ∧ Ext β β' H.nx H'.nx ∧ WR W0 B β' H' w' ∧ R β' d v := by
     intro e st he hrn hres
     cases hdf : st.df.all fun x=>D x.1 with
     | false=>simp [hdf] at hres
     | true =>
      simp only [hdf,zc] at hres
      cases hra : la T st fn.results.toList with
      | none=>simp [hra] at hres
      | some ds =>
       simp only [hra,Option.map_some,zo,Prod.mk.injEq] at hres
       obtain ⟨rfl,rfl⟩ := hres
       refine calls_of_wp_defers hf hb (hrun c _ _ _ hrn B β _ w _ hst0 fun β' a' w' hext hi'=>?_)
       obtain ⟨v,hv,hrv⟩ := resAllD_run hT hra hi'
       have hl := leaves_ok hD (Rr := fun e w'=>∃ v β',e = .returned v ∧ Ext β β' H.nx st.H.nx ∧ WR W0 B β' st.H w' ∧ R β' (tupD ds) v) ⟨v,hv,v,β',rfl,hext,hi'.wr,hrv⟩ st.df a'.defers hi'.df hdf
       rcases he with rfl | rfl <;> exact hl
    split at h
    ·rename_i st hrn; exact fin .nm st (.inl rfl) hrn h
    ·rename_i st hrn; exact fin .rt st (.inr rfl) hrn h
    ·cases h
  ·cases h
 ·cases h
theorem runC_ok (hT : T.Ok P) (hmix : P.follows .mixedOrders = true) {D : FuncId → Bool} (hD : DefOk P D) (hN : ∀ (g : FuncId) (fn : Func), P.funcs[g]? = some fn → (fn.name == "runtime.NumGoroutine") = false) : ∀ (n : Nat),
  (∀ (c : Code) (st st' : St) (e : Ex),gm P T D n c st = some (e,st') → ∀ (B : Nat → Option Go.Obj) (β : Be) (a : Act) (w : World) (Q : Exit → Act → World → Prop),StR W0 B β st a w → (∀ β' a' w',Ext β β' st.H.nx st'.H.nx → StR W0 B β' st' a' w' → Q e.to a' w') → c.wp P Q a w) ∧
  (∀ (x : Code) (st st' : St) (e : Ex),gm P T D n (.loop x) st = some (e,st') → ∀ (B : Nat → Option Go.Obj) (β : Be) (a : Act) (w : World) (Q : Exit → Act → World → Prop),StR W0 B β st a w → (∀ β' a' w',Ext β β' st.H.nx st'.H.nx → StR W0 B β' st' a' w' → Q e.to a' w') → Code.rounds P x Q n a w)
 | 0=>⟨fun c st st' e h=>by simp [gm] at h,fun c st st' e h=>by simp [gm] at h⟩
 | n + 1=>by
  obtain ⟨ih,ihL⟩ := runC_ok hT hmix hD hN n
  have hcall := callBy_ok (W0 := W0) hT hD hN ih
  have loop : ∀ (x : Code) (st st' : St) (e : Ex),gm P T D (n + 1) (.loop x) st = some (e,st') → ∀ (B : Nat → Option Go.Obj) (β : Be) (a : Act) (w : World) (Q : Exit → Act → World → Prop),StR W0 B β st a w → (∀ β' a' w',Ext β β' st.H.nx st'.H.nx → StR W0 B β' st' a' w' → Q e.to a' w') → Code.rounds P x Q (n + 1) a w := by
   intro x st st' e h B β a w Q hi hq
   simp only [gm] at h
   rw [rounds_succ]
   split at h
   ·rename_i st1 h1
    exact ih x st st1 .nm h1 B β a w _ hi fun β1 a1 w1 hext hi1=>ihL x st1 st' e h B β1 a1 w1 Q hi1 fun β' a' w' hext'=>hq β' a' w' (hext.trans hext')
   ·rename_i r hne
    refine ih x st st' e h B β a w _ hi fun β' a' w' hext hi'=>?_
    cases e with
    | nm=>exact absurd h (hne st')
    | rt=>exact hq β' a' w' hext hi'
    | ex j=>exact hq β' a' w' hext hi'
  refine ⟨fun c st st' e h B β a w Q hi hq=>?_,loop⟩
  cases c with
  | skip =>
   simp only [gm,zo,Prod.mk.injEq] at h
   obtain ⟨rfl,rfl⟩ := h
   exact wp_skip (hq β a w Ext.rfl' hi)
  | region id ops draw =>
   cases draw with
   | false =>
    simp only [gm] at h
    cases h1 : opsD T (lA P T D (gm P T D n)) ops ops.toList st with
    | none=>simp [h1] at h
    | some s =>
     simp only [h1,Option.map_some,zo,Prod.mk.injEq] at h
     obtain ⟨rfl,rfl⟩ := h
     exact wp_region_list (ops_ok hT hcall h1 hi hq)
   | true =>
    simp only [gm] at h
    cases h1 : drawD T (lA P T D (gm P T D n)) ops st with
    | none=>simp [h1] at h
    | some s =>
     simp only [h1,Option.map_some,zo,Prod.mk.injEq] at h
     obtain ⟨rfl,rfl⟩ := h
     exact draw_ok hT hcall hmix h1 hi hq
  | seq x y =>
   simp only [gm] at h
   refine wp_seq ?_
   split at h
   ·rename_i st1 h1
    exact ih x st st1 .nm h1 B β a w _ hi fun β1 a1 w1 hext hi1=>ih y st1 st' e h B β1 a1 w1 Q hi1 fun β' a' w' hext'=>hq β' a' w' (hext.trans hext')
   ·rename_i r hne
    refine ih x st st' e h B β a w _ hi fun β' a' w' hext hi'=>?_
    cases e with
    | nm=>exact absurd h (hne st')
    | rt=>exact hq β' a' w' hext hi'
    | ex j=>exact hq β' a' w' hext hi'
  | cond c x y =>
   simp only [gm] at h
   have hev := hi.sl.ev c
   split at h
   ·rename_i hc
    rw [hc] at hev
    simp only [R] at hev
    exact wp_cond_true hev (ih x st st' e h B β a w Q hi hq)
   ·rename_i hc
    rw [hc] at hev
    simp only [R] at hev
    exact wp_cond_false hev (ih y st st' e h B β a w Q hi hq)
   ·cases h
  | block id c =>
   simp only [gm] at h
   refine wp_block ?_
   split at h
   ·rename_i j st1 h1
    cases hj : Nat.beq j id with
    | true =>
     simp only [hj,zc,zo,Prod.mk.injEq] at h
     obtain ⟨rfl,rfl⟩ := h
     refine ih c st st1 _ h1 B β a w _ hi fun β' a' w' hext hi'=>?_
     simp only [Ex.to,Exit.inBlock,zp (Nat.eq_of_beq_eq_true hj)]
     exact hq β' a' w' hext hi'
    | false =>
     simp only [hj,zd,zo,Prod.mk.injEq] at h
     obtain ⟨rfl,rfl⟩ := h
     refine ih c st st1 _ h1 B β a w _ hi fun β' a' w' hext hi'=>?_
     simp only [Ex.to,Exit.inBlock,zy (Nat.ne_of_beq_eq_false hj)]
     exact hq β' a' w' hext hi'
   ·rename_i r hne
    refine ih c st st' e h B β a w _ hi fun β' a' w' hext hi'=>?_
    cases e with
    | nm=>exact hq β' a' w' hext hi'
    | rt=>exact hq β' a' w' hext hi'
    | ex j=>exact absurd h (hne j st')
  | loop x=>exact wp_loop_rounds (n + 1) (loop x st st' e h B β a w Q hi hq)
  | exit id =>
   simp only [gm,zo,Prod.mk.injEq] at h
   obtain ⟨rfl,rfl⟩ := h
   exact wp_exit (hq β a w Ext.rfl' hi)
  | ret =>
   simp only [gm,zo,Prod.mk.injEq] at h
   obtain ⟨rfl,rfl⟩ := h
   exact wp_ret (hq β a w Ext.rfl' hi)
  | _=>simp [gm] at h
theorem closed_ok (hT : T.Ok P) (hmix : P.follows .mixedOrders = true) {D : FuncId → Bool} (hD : DefOk P D) (hN : ∀ (g : FuncId) (fn : Func), P.funcs[g]? = some fn → (fn.name == "runtime.NumGoroutine") = false) {g : FuncId} {n : Nat} {bo : Bool} {H' : Hp}
  (h : lA P T D (gm P T D n) g [] ⟨.nil,0⟩ = some (.v (.bool bo),H')) (w : World) : Calls P g #[] w fun e w'=>e = .returned (.bool bo) ∧ Below w.heap.size w w' := by
 have hw : WR w (fun b=>w.heap[b]?) (fun _=>none) ⟨.nil,0⟩ w := by
  refine ⟨rfl,rfl,rfl,Nat.le_refl _,fun _ _ h=>h,fun _ _ _ h=>(by cases h),fun id k h=>?_,fun id k b c h=>?_,fun id id' k k' b c c' h=>?_,by simp [Tr.fits]⟩ <;> (simp [ed,Tr.get] at h)
 have hc := callBy_ok (W0 := w) hT hD hN (runC_ok hT hmix hD hN n).1
 obtain ⟨_,h2⟩ := hc g [] ⟨.nil,0⟩ _ H' h (fun b=>w.heap[b]?) (fun _=>none) w #[] hw (by simp [RL])
 refine h2.mono ?_
 rintro e w' ⟨v,β',rfl,_,h3,h4⟩
 simp only [R] at h4
 subst h4
 refine ⟨rfl,h3.os,h3.tape,h3.output,h3.size,fun k hk=>?_⟩
 have e1 : w.heap[k]? = some w.heap[k] := by simp [hk]
 rw [h3.prot k _ e1,e1]
end
end
end Go.Cx

namespace Go.Cx
noncomputable section
open Go Go.Ab Go.Proofs
open Go.RowKit (Below)
def defD (g : FuncId) : Bool := Nat.beq g 94
theorem names_ok : (Tryz.prog.funcs.all fun fn => !(fn.name == "runtime.NumGoroutine")) = true := by kernel_rfl
theorem hnames (g : FuncId) (fn : Func) (h : Tryz.prog.funcs[g]? = some fn) : (fn.name == "runtime.NumGoroutine") = false := by
 have := (Array.all_eq_true_iff_forall_mem.1 names_ok) fn (Array.mem_of_getElem? h)
 simpa using this
section
variable {P : Program} {ops : Array Oper} {Q : Exit → Act → List Frame → World → Prop} {i : Nat} {rest : List Nat} {o : Oper} {a : Act} {cs : List Frame} {w w' : World} {v : Value}
theorem opsS_recover (ho : ops[i]? = some o) (hg : o.guard = none) (hr : (execOp a.eval o).run P w = .ok .recover w') (hn : recoverD cs = none) (h : wpOpsS P ops Q rest (a.put o.dst .nilIface) cs w') : wpOpsS P ops Q (i :: rest) a cs w := by
 simp only [wpOpsS,ho,Region.wanted,hg,if_true,hr,hn]
 exact h
theorem pS (ho : ops[i]? = some o) (hg : o.guard = none) (hr : (execOp a.eval o).run P w = .ok (.value v) w') (h : wpOpsS P ops Q rest (a.put o.dst v) cs w') : wpOpsS P ops Q (i :: rest) a cs w := by
 simp only [wpOpsS,ho,Region.wanted,hg,if_true,hr,Oper.upon]
 exact h
theorem neq_nil {T : TT} (hT : T.Ok P) {t t' : TypeId} {x : Operand} (ho : o.op = .binOp .neq t x (.const .nilIface) t') {ti : TInfo} {ms : Array (String × TypeId)} (hti : T.get t = some ti) (hd : ti.desc = .interface ms) (he : a.eval x = .nilIface) : (execOp a.eval o).run P w = .ok (.value (.bool false)) w := by
 obtain ⟨v,h1,h2⟩ := nilD_sound (P := P) (β := fun _=>none) (w := w) hT (op := .neq) (t := t) (a := a) (x := x) (y := .const .nilIface) (p := .v .nilIface) (r := .v (.bool false)) (xv := .nilIface) (by simp [nilD,hti,hd]) (by simp only [R])
 simp only [R] at h2
 subst h2
 simp only [execOp,ho,he]
 rw [Sem.run_bind,h1]
 rfl
end
set_option maxRecDepth 4000 in
theorem defOk : DefOk Tryz.prog defD := by
 intro g hg
 have e := Nat.eq_of_beq_eq_true hg
 subst e
 refine ⟨Tryz.call94,fun cs w=>?_⟩
 refine callsD_of_wpS Tryz.func94 rfl fun c₀ fs hu=>?_
 have h18 : 18 ≤ (cs ++ Array.replicate (Tryz.f94.ntmps - cs.size) undef).size := by
  have : Tryz.f94.ntmps = 18 := rfl
  rw [this]; simp; omega
 generalize (cs ++ Array.replicate (Tryz.f94.ntmps - cs.size) undef) = t0 at h18 ⊢
 have hrec : recoverD (c₀ :: fs) = none := by simp [recoverD,hu]
 refine wpS_seq (wpS_region ?_)
 show wpOpsS _ _ _ [0,1] _ _ _
 refine opsS_recover rfl rfl rfl hrec (pS rfl rfl rfl ?_)
 show Code.wpS _ _ _ _ _ _
 refine wpS_seq (wpS_region ?_)
 show wpOpsS _ _ _ [0,1] _ _ _
 refine pS rfl rfl rfl (pS (v := .bool false) (w' := w) rfl rfl ?_ ?_)
 ·refine neq_nil tk rfl rfl rfl ?_
  simp [Act.eval,Act.put,show 5 < t0.size by omega,show 2 < t0.size by omega,show 6 < t0.size by omega]
 show Code.wpS _ _ _ _ _ _
 refine wpS_cond (t := false) ?_ ?_
 ·simp [Act.eval,Act.put,show 5 < t0.size by omega,show 2 < t0.size by omega,show 7 < t0.size by omega]
 ·refine wpS_of_wp (wp_skip ?_)
  refine ⟨by simp [Act.put],.returning,?_,.tuple #[],?_,⟨_,rfl⟩,rfl,rfl⟩
  ·rw [← hu]
  ·simp [results]
def sampleRun : Bool := match lA Tryz.prog tt defD (gm Tryz.prog tt defD 400) 6 [] ⟨.nil,0⟩ with
 | some (.v (.bool true),_)=>true
 | _=>false
theorem sample_true : sampleRun = true := by kernel_rfl
theorem sample_spec : ba Tryz.prog 6 [] (.val (.bool true)) := by
 intro w M own hg vs hi ha
 simp only [aw] at ha
 have hvs : vs = #[] := by simpa using ha
 subst hvs
 have hrun : ∃ H',lA Tryz.prog tt defD (gm Tryz.prog tt defD 400) 6 [] ⟨.nil,0⟩ = some (.v (.bool true),H') := by
  have h := sample_true
  unfold sampleRun at h
  split at h
  ·rename_i H' e; exact ⟨H',e⟩
  ·cases h
 obtain ⟨H',h⟩ := hrun
 have hi0 : InvH Tryz.prog ⟨w,own,M,hg⟩ M Heap.empty w := hi
 refine (closed_ok tk (by kernel_rfl) defOk hnames h w).mono ?_
 rintro e w' ⟨rfl,hb⟩
 refine ⟨_,.val (.bool true),Heap.empty,M,rfl,⟨rfl,rfl⟩,?_,by simp only [Rep]⟩
 refine ⟨fun b o v hm=>?_,Mem.le_refl _,fun _ _ _ h=>.inl h,hb.os,hb.tape,hb.output,hb.size,fun b hb' _=>hb.block b hb',fun _ _ h=>by simp [Heap.empty] at h,fun _ _ h=>by simp [Heap.empty] at h,
  fun _ _ _ _ h=>by simp [Heap.empty] at h,fun _ _ _ _ _ h=>by simp [Heap.empty] at h,fun _ _ _ _ h=>by simp [Heap.empty] at h⟩
 have h1 := hi0.mem b o v hm
 have h2 := hb.block b (hi0.mem_lt hm)
 simpa only [World.cell?,h2] using h1
end
end Go.Cx

namespace Go.Proofs.YtppmcepdcpmpcaaGreatDoor
noncomputable section
open Go Go.Ab
def sampleV : Bool := true
theorem sampleV_spec : ba Tryz.prog 6 [] (.val (.bool sampleV)) := Go.Cx.sample_spec
end
end Go.Proofs.YtppmcepdcpmpcaaGreatDoor

namespace Go.Proofs.YtppmcepdcpmpcaaGreatDoor
noncomputable section
open Go Go.Ab
attribute [local irreducible] V Ao Do Gh Eff PH IntKind.wrap
set_option maxRecDepth 4000
def jo (rec23 : LQuery → Int → Option (Int)) (q : LQuery) (most : Int) : Option (Int) :=
 ae (aM (σ := Int) (ρ := Empty) (fun (_ : Nat) (x1 : LExpr) (s1 : Int) =>
  be (iE x1 (IntKind.i64.wrap (s1 - (1 : Int)))) fun x23 =>
  some (.next x23)) 0 q.exprs most) fun fl1=>fl1.thenP fun (s1 : Int) =>
 ae (aM (σ := Int) (ρ := Empty) (fun (_ : Nat) (x2 : LAggregateCall) (s2 : Int) =>
  ae (aM (σ := Int) (ρ := Empty) (fun (_ : Nat) (x5 : LExpr) (s5 : Int) =>
   be (iE x5 (IntKind.i64.wrap (s5 - (1 : Int)))) fun x42 =>
   some (.next x42)) 0 x2.args s2) fun fl5=>fl5.thenP fun (s5 : Int) =>
  some (.next s5)) 0 q.aggregates s1) fun fl2=>fl2.thenP fun (s2 : Int) =>
 ae (aM (σ := Int) (ρ := (Int)) (fun (_ : Nat) (x6 : LQuery) (s6 : Int) =>
  cond (decide (s6 < (0 : Int)))
   (some (.ret (-1)))
   (ae (rec23 x6 (IntKind.i64.wrap (s6 - (1 : Int)))) fun x57 =>
   some (.next x57))) 0 q.inputs s2) fun fl6=>fl6.thenR fun (s6 : Int) =>
 some s6
theorem re (rec23 : LQuery → Int → Option (Int)) (hrec23 : ∀ a0 a1 r,rec23 a0 a1 = some r → ba Tryz.prog 23 [(.agg (aA a0)),(af a1)] (af r)) (q : LQuery) (most : Int) (r : Int) (H : jo rec23 q most = some r) :
  ba Tryz.prog 23 [(.agg (aA q)),(af most)] (af r) := by
 unfold jo at H
 refine PH.ay Tryz.func23 Tryz.ntmps23 ?_
 refine ab (aa (aS ?_))
 refine ak tk rfl (ac (ab (ab (aa (ag 2 tk rfl (aK tk (zl _) ?_))))))
 refine ak tk rfl (ac ?_)
 refine fC tk 16 15 14 (fun s1 g1=>upd (upd (fun _=>.any) 2 (.ptr (aA q))) 1 (af s1)) nB nO () H (fun fl1 Hp1 j1 s1 g1 hz1 hl1 x1 fb1 hx1 H hg1=>?_) (fun s1 g1 H=>?_)
 ·refine ab (az (ab (aa (bn tk (zn j1) (bC cb hx1) ?_))))
  refine ak tk rfl ?_
  refine aX tk fun b6=>?_
  refine av tk ?_
  refine ac (aa (aB tk ?_))
  refine ag 2 tk rfl ?_
  obtain ⟨x23,h23,H⟩ := bR H
  have s23 := pA x1 (IntKind.i64.wrap (s1 - (1 : Int)))
  rw [h23] at s23
  refine aq Tryz.call62 (dS.r) s23 ?_
  refine ak tk rfl (ac (aR (bm 2 tk rfl ?_)))
  exact bO () H hl1 hg1
 refine ab (ab (aa (ag 2 tk rfl (aK tk (zl _) ?_))))
 refine ak tk rfl (ac ?_)
 refine fC tk 28 27 26 (fun s2 g2=>upd (upd (fun _=>.any) 2 (.ptr (aA q))) 1 (af s2)) nB nO () H (fun fl2 Hp2 j2 s2 g2 hz2 hl2 x2 fb2 hx2 H hg2=>?_) (fun s2 g2 H=>?_)
 ·refine ab (az (ab (aa ?_)))
  refine bn tk (zn j2) (bC (fun _=>rfl) hx2) ?_
  refine ak tk rfl ?_
  refine aX tk fun b8=>?_
  refine av tk ?_
  refine ac (ab (aa (ak tk rfl (aB tk ?_))))
  refine aK tk (zl _) ?_
  refine ak tk rfl (ac ?_)
  refine fC tk 35 34 33 (fun s5 g5=>upd (upd (upd (upd (upd (fun _=>.any) 28 (af (j2 : Int))) 27 (af (q.aggregates.length : Int))) 26 (.list 88 (q.aggregates.map bV))) 2 (.ptr (aA q))) 1 (af s5)) nB nO () H (fun fl5 Hp5 j5 s5 g5 hz5 hl5 x5 fb5 hx5 H hg5=>?_) (fun s5 g5 H=>?_)
  ·refine ab (az (ab (aa (bn tk (zn j5) (bC cb hx5) ?_))))
   refine ak tk rfl ?_
   refine aX tk fun b10=>?_
   refine av tk ?_
   refine ac (aa (aB tk ?_))
   refine ag 2 tk rfl ?_
   obtain ⟨x42,h42,H⟩ := bR H
   have s42 := pA x5 (IntKind.i64.wrap (s5 - (1 : Int)))
   rw [h42] at s42
   refine aq Tryz.call62 (dS.r) s42 ?_
   refine ak tk rfl (ac (aR (bm 2 tk rfl ?_)))
   exact bO () H hl5 hg5
  refine aR (bm 2 tk rfl ?_)
  exact bO () H hl2 hg2
 refine ab (ab (aa (ag 2 tk rfl (aK tk (zl _) ?_))))
 refine ak tk rfl (ac ?_)
 refine gY tk 48 47 46 (fun s6 g6=>upd (fun _=>.any) 1 (af s6)) nB nO () H (fun fl6 Hp6 j6 s6 g6 hz6 hl6 x6 fb6 hx6 H hg6=>?_) (fun s6 g6 H=>?_)
 ·refine ab (az (ab (aa (bn tk (zn j6) (bC bH hx6) ?_))))
  refine ak tk rfl ?_
  refine aX tk fun b12=>?_
  refine av tk ?_
  refine ac (ab (al 2 tk rfl ?_))
  refine aL rfl H (fun H=>?_) (fun H=>?_)
  ·refine al 1 tk rfl ?_
   obtain rfl := ax H
   have e6 : fl6 = .ret _ := hg6
   subst e6
   obtain rfl := bq Hp6
   refine bQ tk rfl (ps := [(af (-1))]) ⟨_,_,rfl,rfl,rfl⟩ (PLe.q rfl)
  refine au (aa (aB tk ?_))
  refine ag 2 tk rfl ?_
  obtain ⟨x57,h57,H⟩ := am H
  have s57 := hrec23 x6 (IntKind.i64.wrap (s6 - (1 : Int))) _ h57
  refine aq Tryz.call23 (dS.r) s57 ?_
  refine ak tk rfl (ac (aR (bm 2 tk rfl ?_)))
  exact bO () H hl6 hg6
 refine al 2 tk rfl ?_
 exact bB tk H rfl
def fQ : Nat → LQuery → Int → Option (Int)
 | 0,_,_=>none
 | n + 1,v0,v1=>jo (fun b0 b1=>fQ n b0 b1) v0 v1
theorem ri  (n : Nat) : (∀ a0 a1 r,fQ n a0 a1 = some r → ba Tryz.prog 23 [(.agg (aA a0)),(af a1)] (af r)) := by
 induction n with
 | zero=>exact (by intros; rename_i h; exact absurd (show (none : Option _) = some _ from h) (by simp))
 | succ n ih =>
  exact (fun v0 v1 r h=>re (fun b0 b1=>fQ n b0 b1) ih v0 v1  r h)
def kW (q : LQuery) (most : Int) : Option (Int) := gg fun n=>fQ n q most
theorem rH (q : LQuery) (most : Int) (r : Int) (H : kW q most = some r) :
  ba Tryz.prog 23 [(.agg (aA q)),(af most)] (af r) := by
 obtain ⟨n,h⟩ := gG H
 exact (ri  n) q most r h
def fo (sA : List UInt8) : Option (Bool) :=
 ae (
  cond (decide ((sA.length : Int) < (1 : Int)))
   (some true)
   (cond (decide ((sA.length : Int) > (12 : Int)))
    (some true)
    (ae (aC sA 0) fun (x15 : UInt8) =>
    cond (decide ((x15.toNat : Int) ≥ (48 : Int)))
     (ae (aC sA 0) fun (x19 : UInt8) =>
     some (decide ((x19.toNat : Int) ≤ (57 : Int))))
     (some false)))) fun (t1 : Bool) =>
 cond t1
  (some false)
  (ae (dC (sA.length ≤ 2 ^ 47) ()) fun (_ : Unit) =>
  ae (aM (σ := Unit) (ρ := (Bool)) (fun (_ : Nat) (x2 : UInt8) (_ : Unit) =>
   cond (decide ((x2.toNat : Int) < (97 : Int)))
    (cond (decide ((x2.toNat : Int) < (48 : Int)))
     (some (.ret false))
     (cond (decide ((x2.toNat : Int) > (57 : Int)))
      (some (.ret false))
      (some (.next ()))))
    (cond (decide ((x2.toNat : Int) > (122 : Int)))
     (cond (decide ((x2.toNat : Int) < (48 : Int)))
      (some (.ret false))
      (cond (decide ((x2.toNat : Int) > (57 : Int)))
       (some (.ret false))
       (some (.next ()))))
     (some (.next ())))) 0 sA ()) fun fl2=>fl2.thenR fun (_ : Unit) =>
  some true)
theorem mu (sA : List UInt8) (r : Bool) (H : fo sA = some r) :
  ba Tryz.prog 102 [(.str sA)] (aG r) := by
 unfold fo at H
 refine PH.ay Tryz.func102 Tryz.ntmps102 ?_
 refine al 1 tk rfl (ab (ab ?_))
 refine fp (γ := Unit) (fun t1 g1=>⟨45,upd (upd (fun _=>.any) 22 (aG t1)) 0 (.str sA),fun _=>none,fun _=>none⟩) H (fun _ H=>?_) (fun t1 g1 H=>?_)
 ·refine aa (ag 4 tk rfl ?_)
  refine bw rfl rfl rfl H (fun H=>?_) (fun H=>?_)
  ·refine ag 14 tk rfl (ac ?_)
   refine aQ _ () (ax H) Gh.d
  refine ag 5 tk rfl ?_
  refine bw rfl rfl rfl H (fun H=>?_) (fun H=>?_)
  ·refine ag 9 tk rfl (ac ?_)
   refine aQ _ () (ax H) Gh.d
  refine ak tk rfl ?_
  obtain ⟨x15,k15,H⟩ := aT H
  refine rc tk rfl rfl rfl rfl rfl rfl k15.1 k15.2 rfl (ag 2 tk rfl ?_)
  refine bw rfl rfl rfl H (fun H=>?_) (fun H=>?_)
  ·refine ak tk rfl ?_
   obtain ⟨x19,k19,H⟩ := aT H
   refine rc tk rfl rfl rfl rfl rfl rfl k19.1 k19.2 rfl (ag 3 tk rfl (ac ?_))
   refine aQ _ () (ax H) Gh.d
  refine ag 5 tk rfl (ac ?_)
  refine aQ _ () (ax H) Gh.d
 refine aL rfl H (fun H=>?_) (fun H=>?_)
 ·refine al 1 tk rfl ?_
  exact bB tk H rfl
 refine au (ab (ab (aa (ak tk rfl ?_))))
 obtain ⟨_,h24,H⟩ := am H
 refine Ao.s2b (xs := sA) tk rfl rfl rfl rfl rfl rfl rfl rfl rfl rfl rfl (bX h24).1 rfl (aK tk (zl _) ?_)
 refine ak tk rfl (ac ?_)
 refine gY tk 26 25 24 (fun s2 g2=>fun _=>.any) nB nO () H (fun fl2 Hp2 j2 s2 g2 hz2 hl2 x2 fb2 hx2 H hg2=>?_) (fun s2 g2 H=>?_)
 ·refine ab (az (ab (aa ?_)))
  refine bn tk (zn j2) (bC (fun _=>rfl) hx2) ?_
  refine ag 2 tk rfl (ac (ab (aa (ag 3 tk rfl ?_))))
  refine bw rfl rfl rfl H (fun H=>?_) (fun H=>?_)
  ·refine ag 7 tk rfl ?_
   refine bw rfl rfl rfl H (fun H=>?_) (fun H=>?_)
   ·refine ag 4 tk rfl (ac (dG rfl (al 1 tk rfl ?_)))
    obtain rfl := ax H
    have e2 : fl2 = .ret _ := hg2
    subst e2
    obtain rfl := bq Hp2
    refine bQ tk rfl (ps := [(aG false)]) ⟨_,_,rfl,rfl,rfl⟩ (PLe.q rfl)
   refine ag 4 tk rfl (ac ?_)
   refine aL rfl H (fun H=>?_) (fun H=>?_)
   ·refine al 1 tk rfl ?_
    obtain rfl := ax H
    have e2 : fl2 = .ret _ := hg2
    subst e2
    obtain rfl := bq Hp2
    refine bQ tk rfl (ps := [(aG false)]) ⟨_,_,rfl,rfl,rfl⟩ (PLe.q rfl)
   refine au (aR (bm 2 tk rfl ?_))
   exact bO () H hl2 hg2
  refine ag 4 tk rfl ?_
  refine bw rfl rfl rfl H (fun H=>?_) (fun H=>?_)
  ·refine ag 3 tk rfl ?_
   refine bw rfl rfl rfl H (fun H=>?_) (fun H=>?_)
   ·refine ag 4 tk rfl (ac (dG rfl (al 1 tk rfl ?_)))
    obtain rfl := ax H
    have e2 : fl2 = .ret _ := hg2
    subst e2
    obtain rfl := bq Hp2
    refine bQ tk rfl (ps := [(aG false)]) ⟨_,_,rfl,rfl,rfl⟩ (PLe.q rfl)
   refine ag 4 tk rfl (ac ?_)
   refine aL rfl H (fun H=>?_) (fun H=>?_)
   ·refine al 1 tk rfl ?_
    obtain rfl := ax H
    have e2 : fl2 = .ret _ := hg2
    subst e2
    obtain rfl := bq Hp2
    refine bQ tk rfl (ps := [(aG false)]) ⟨_,_,rfl,rfl,rfl⟩ (PLe.q rfl)
   refine au (aR (bm 2 tk rfl ?_))
   exact bO () H hl2 hg2
  refine ag 7 tk rfl (ac (dE rfl (au (aR (bm 2 tk rfl ?_)))))
  exact bO () H hl2 hg2
 refine al 1 tk rfl ?_
 exact bB tk H rfl
def dO (c : LCol) (c0 : List UInt8) : Bool :=
 (c.name == c0)
theorem pp (c : LCol) (c0 : List UInt8) :
  ba Tryz.prog 164 [(.agg (bg c)),(.ptr [(.str c0)])] (aG (dO c c0)) := by
 obtain ⟨r,H⟩ : ∃ r,dO c c0 = r := ⟨_,rfl⟩
 rw [H]
 unfold dO at H
 refine PH.ay Tryz.func164 Tryz.ntmps164 ?_
 refine ab (aa (aS ?_))
 refine ak tk rfl (ac (al 5 tk rfl ?_))
 exact dP tk H rfl
def cB (sA : List LCol) (f : LCol → Option (Bool)) : Option (Int) :=
 ae (aM (σ := Unit) (ρ := (Int)) (fun (j1 : Nat) (x1 : LCol) (_ : Unit) =>
  ae (f x1) fun x16 =>
  cond x16
   (some (.ret (j1 : Int)))
   (some (.next ()))) 0 sA ()) fun fl1=>fl1.thenR fun (_ : Unit) =>
 some (-1)
theorem fZ {g_f : FuncId} {caps_f : List PV} (sA : List LCol) (f : LCol → Option (Bool)) (hg_f : ∀ (vs : Array Value) (w : World),(callFunc g_f vs).run Tryz.prog w = .ok (.enter g_f vs) w) (hp_f : ∀ a0 r,f a0 = some r → ba Tryz.prog g_f ((.agg (bg a0)) :: caps_f) (aG r)) (r : Int) (H : cB sA f = some r) :
  ba Tryz.prog 163 [(.list 68 (sA.map bg)),(.fn g_f caps_f)] (af r) := by
 unfold cB at H
 refine PH.ay Tryz.func163 Tryz.ntmps163 ?_
 refine al 1 tk rfl (ab (ab (aa (ak tk rfl (aK tk (zl _) ?_)))))
 refine ak tk rfl (ac ?_)
 refine gY tk 8 7 0 (fun s1 g1=>upd (fun _=>.any) 1 (.fn g_f caps_f)) nB nO () H (fun fl1 Hp1 j1 s1 g1 hz1 hl1 x1 fb1 hx1 H hg1=>?_) (fun s1 g1 H=>?_)
 ·refine ab (az (al 2 tk rfl (ab (aa (ag 3 tk rfl ?_)))))
  refine bn tk (zn j1) (bC (fun _=>rfl) hx1) ?_
  refine ak tk rfl ?_
  obtain ⟨x16,h16,H⟩ := am H
  refine aq hg_f (dS.r) (hp_f _ _ h16) ?_
  refine ac ?_
  refine aL rfl H (fun H=>?_) (fun H=>?_)
  ·refine al 2 tk rfl ?_
   obtain rfl := ax H
   have e1 : fl1 = .ret _ := hg1
   subst e1
   obtain rfl := bq Hp1
   refine bQ tk rfl (ps := [(af (j1 : Int))]) ⟨_,_,rfl,rfl,rfl⟩ (PLe.q rfl)
  refine au (aR (bm 2 tk rfl ?_))
  exact bO () H hl1 hg1
 refine al 1 tk rfl ?_
 exact bB tk H rfl
def cW (t : LTable) (c0 : List UInt8) : Bool :=
 (t.name == c0)
theorem pz (t : LTable) (c0 : List UInt8) :
  ba Tryz.prog 166 [(.agg (dz t)),(.ptr [(.str c0)])] (aG (cW t c0)) := by
 obtain ⟨r,H⟩ : ∃ r,cW t c0 = r := ⟨_,rfl⟩
 rw [H]
 unfold cW at H
 refine PH.ay Tryz.func166 Tryz.ntmps166 ?_
 refine ab (aa (aS ?_))
 refine ak tk rfl (ac (al 5 tk rfl ?_))
 exact dP tk H rfl
def cJ (sA : List LTable) (f : LTable → Option (Bool)) : Option (Int) :=
 ae (aM (σ := Unit) (ρ := (Int)) (fun (j1 : Nat) (x1 : LTable) (_ : Unit) =>
  ae (f x1) fun x16 =>
  cond x16
   (some (.ret (j1 : Int)))
   (some (.next ()))) 0 sA ()) fun fl1=>fl1.thenR fun (_ : Unit) =>
 some (-1)
theorem gD {g_f : FuncId} {caps_f : List PV} (sA : List LTable) (f : LTable → Option (Bool)) (hg_f : ∀ (vs : Array Value) (w : World),(callFunc g_f vs).run Tryz.prog w = .ok (.enter g_f vs) w) (hp_f : ∀ a0 r,f a0 = some r → ba Tryz.prog g_f ((.agg (dz a0)) :: caps_f) (aG r)) (r : Int) (H : cJ sA f = some r) :
  ba Tryz.prog 165 [(.list 71 (sA.map dz)),(.fn g_f caps_f)] (af r) := by
 unfold cJ at H
 refine PH.ay Tryz.func165 Tryz.ntmps165 ?_
 refine al 1 tk rfl (ab (ab (aa (ak tk rfl (aK tk (zl _) ?_)))))
 refine ak tk rfl (ac ?_)
 refine gY tk 8 7 0 (fun s1 g1=>upd (fun _=>.any) 1 (.fn g_f caps_f)) nB nO () H (fun fl1 Hp1 j1 s1 g1 hz1 hl1 x1 fb1 hx1 H hg1=>?_) (fun s1 g1 H=>?_)
 ·refine ab (az (al 2 tk rfl (ab (aa (ag 3 tk rfl ?_)))))
  refine bn tk (zn j1) (bC (fun _=>rfl) hx1) ?_
  refine ak tk rfl ?_
  obtain ⟨x16,h16,H⟩ := am H
  refine aq hg_f (dS.r) (hp_f _ _ h16) ?_
  refine ac ?_
  refine aL rfl H (fun H=>?_) (fun H=>?_)
  ·refine al 2 tk rfl ?_
   obtain rfl := ax H
   have e1 : fl1 = .ret _ := hg1
   subst e1
   obtain rfl := bq Hp1
   refine bQ tk rfl (ps := [(af (j1 : Int))]) ⟨_,_,rfl,rfl,rfl⟩ (PLe.q rfl)
  refine au (aR (bm 2 tk rfl ?_))
  exact bO () H hl1 hg1
 refine al 1 tk rfl ?_
 exact bB tk H rfl
def fw (s1A : List Int) (s2A : List Int) : Option (Bool) :=
 cond ((s1A.length : Int) != (s2A.length : Int))
  (some false)
  (ae (aM (σ := Unit) (ρ := (Bool)) (fun (j1 : Nat) (x1 : Int) (_ : Unit) =>
   ae (aC s2A (j1 : Int)) fun (x22 : Int) =>
   cond (x1 != x22)
    (some (.ret false))
    (some (.next ()))) 0 s1A ()) fun fl1=>fl1.thenR fun (_ : Unit) =>
  some true)
theorem ol (s1A : List Int) (s2A : List Int) (r : Bool) (H : fw s1A s2A = some r) :
  ba Tryz.prog 106 [(.list 3 (s1A.map bP)),(.list 3 (s2A.map bP))] (aG r) := by
 unfold fw at H
 refine PH.ay Tryz.func106 Tryz.ntmps106 ?_
 refine al 1 tk rfl (ab (ab (aa (ak tk rfl (aK tk (zl _) ?_)))))
 refine ak tk rfl (aK tk (zl _) ?_)
 refine ak tk rfl (ac ?_)
 refine aL rfl H (fun H=>?_) (fun H=>?_)
 ·refine al 1 tk rfl ?_
  exact bB tk H rfl
 refine au (ab (ab (aa (ak tk rfl (aK tk (zl _) ?_)))))
 refine ak tk rfl (ac ?_)
 refine gY tk 13 12 0 (fun s1 g1=>upd (fun _=>.any) 1 (.list 3 (s2A.map bP))) nB nO () H (fun fl1 Hp1 j1 s1 g1 hz1 hl1 x1 fb1 hx1 H hg1=>?_) (fun s1 g1 H=>?_)
 ·refine ab (az (al 2 tk rfl (ab (bj tk mok ⟨false,false,[]⟩ [0,1,2,3,4,5,6,7,8] rfl (by decide +kernel) rfl (aI 2 rfl ?_)))))
  refine dN (zn j1) (bC (fun _=>rfl) hx1) ?_
  refine aI 3 rfl ?_
  obtain ⟨x22,k22,H⟩ := aT H
  refine dN k22.1 (aJ (fun _=>rfl) k22.2) ?_
  refine aI 2 rfl (aY ?_)
  refine aL rfl H (fun H=>?_) (fun H=>?_)
  ·refine al 1 tk rfl ?_
   obtain rfl := ax H
   have e1 : fl1 = .ret _ := hg1
   subst e1
   obtain rfl := bq Hp1
   refine bQ tk rfl (ps := [(aG false)]) ⟨_,_,rfl,rfl,rfl⟩ (PLe.q rfl)
  refine au (aR (bm 2 tk rfl ?_))
  exact bO () H hl1 hg1
 refine al 1 tk rfl ?_
 exact bB tk H rfl
def cC (sA : List LForeignKey) (f : LForeignKey → Option (Bool)) : Option (Int) :=
 ae (aM (σ := Unit) (ρ := (Int)) (fun (j1 : Nat) (x1 : LForeignKey) (_ : Unit) =>
  ae (f x1) fun x16 =>
  cond x16
   (some (.ret (j1 : Int)))
   (some (.next ()))) 0 sA ()) fun fl1=>fl1.thenR fun (_ : Unit) =>
 some (-1)
theorem iy {g_f : FuncId} {caps_f : List PV} (sA : List LForeignKey) (f : LForeignKey → Option (Bool)) (hg_f : ∀ (vs : Array Value) (w : World),(callFunc g_f vs).run Tryz.prog w = .ok (.enter g_f vs) w) (hp_f : ∀ a0 r,f a0 = some r → ba Tryz.prog g_f ((.agg (iH a0)) :: caps_f) (aG r)) (r : Int) (H : cC sA f = some r) :
  ba Tryz.prog 105 [(.list 135 (sA.map iH)),(.fn g_f caps_f)] (af r) := by
 unfold cC at H
 refine PH.ay Tryz.func105 Tryz.ntmps105 ?_
 refine al 1 tk rfl (ab (ab (aa (ak tk rfl (aK tk (zl _) ?_)))))
 refine ak tk rfl (ac ?_)
 refine gY tk 8 7 0 (fun s1 g1=>upd (fun _=>.any) 1 (.fn g_f caps_f)) nB nO () H (fun fl1 Hp1 j1 s1 g1 hz1 hl1 x1 fb1 hx1 H hg1=>?_) (fun s1 g1 H=>?_)
 ·refine ab (az (al 2 tk rfl (ab (aa (ag 3 tk rfl ?_)))))
  refine bn tk (zn j1) (bC (fun _=>rfl) hx1) ?_
  refine ak tk rfl ?_
  obtain ⟨x16,h16,H⟩ := am H
  refine aq hg_f (dS.r) (hp_f _ _ h16) ?_
  refine ac ?_
  refine aL rfl H (fun H=>?_) (fun H=>?_)
  ·refine al 2 tk rfl ?_
   obtain rfl := ax H
   have e1 : fl1 = .ret _ := hg1
   subst e1
   obtain rfl := bq Hp1
   refine bQ tk rfl (ps := [(af (j1 : Int))]) ⟨_,_,rfl,rfl,rfl⟩ (PLe.q rfl)
  refine au (aR (bm 2 tk rfl ?_))
  exact bO () H hl1 hg1
 refine al 1 tk rfl ?_
 exact bB tk H rfl
def gO (a : Int) (b : Int) : Int :=
 cond (decide (a < b))
  ((-1))
  (cond (decide (a > b))
   (1)
   (0))
theorem lN (a : Int) (b : Int) :
  ba Tryz.prog 124 [(af a),(af b)] (af (gO a b)) := by
 obtain ⟨r,H⟩ : ∃ r,gO a b = r := ⟨_,rfl⟩
 rw [H]
 unfold gO at H
 refine PH.ay Tryz.func124 Tryz.ntmps124 ?_
 refine al 1 tk rfl (ab (az (al 4 tk rfl ?_)))
 refine aL rfl H (fun H=>?_) (fun H=>?_)
 ·refine al 1 tk rfl ?_
  exact dP tk H rfl
 refine al 4 tk rfl ?_
 refine aL rfl H (fun H=>?_) (fun H=>?_)
 ·refine al 1 tk rfl ?_
  exact dP tk H rfl
 refine au (aR (al 1 tk rfl ?_))
 exact dP tk H rfl
def eO (a : List UInt8) (b : List UInt8) : Int :=
 (Lib.compareBytes a b)
theorem kX (a : List UInt8) (b : List UInt8) :
  ba Tryz.prog 243 [(.str a),(.str b)] (af (eO a b)) := by
 obtain ⟨r,H⟩ : ∃ r,eO a b = r := ⟨_,rfl⟩
 rw [H]
 unfold eO at H
 refine PH.ay Tryz.func243 Tryz.ntmps243 ?_
 refine al 1 tk rfl (ab (aa (ag 2 tk rfl ?_)))
 refine Ao.cmpS (g := 269) rfl rfl rfl Tryz.func269 (by kernel_rfl) (by kernel_rfl) (by kernel_rfl) (by kernel_rfl) rfl rfl rfl ?_
 refine ak tk rfl (ac ?_)
 exact dP tk H rfl
def jt (v : LVal) : Int :=
 cond (v.kind == (0 : Int))
  (cond (v.int != (0 : Int))
   (3)
   (cond (!(v.text == ([] : List UInt8)))
    (3)
    (0)))
  (be (
   cond (v.kind == (1 : Int))
    ((v.kind == (1 : Int)))
    ((v.kind == (2 : Int)))) fun (t1 : Bool) =>
  cond t1
   (cond (!(v.text == ([] : List UInt8)))
    (3)
    (cond (v.kind == (2 : Int))
     (cond (v.int != (0 : Int))
      (cond (v.int != (1 : Int))
       (1)
       (cond (decide (v.int < (-1000000000000)))
        (1)
        (cond (decide (v.int > (1000000000000 : Int)))
         (1)
         (0))))
      (cond (decide (v.int < (-1000000000000)))
       (1)
       (cond (decide (v.int > (1000000000000 : Int)))
        (1)
        (0))))
     (cond (decide (v.int < (-1000000000000)))
      (1)
      (cond (decide (v.int > (1000000000000 : Int)))
       (1)
       (0)))))
   (cond (v.kind == (3 : Int))
    (cond (v.int != (0 : Int))
     (3)
     (cond (decide ((v.text.length : Int) > (24 : Int)))
      (2)
      (0)))
    (7)))
theorem rI (v : LVal) :
  ba Tryz.prog 108 [(.agg (hJ v))] (af (jt v)) := by
 obtain ⟨r,H⟩ : ∃ r,jt v = r := ⟨_,rfl⟩
 rw [H]
 unfold jt at H
 refine PH.ay Tryz.func108 Tryz.ntmps108 ?_
 refine ab (aa (aS ?_))
 refine ak tk rfl (ac (ab (al 2 tk rfl (az (al 2 tk rfl ?_)))))
 refine aL rfl H (fun H=>?_) (fun H=>?_)
 ·refine ab (aa (ag 4 tk rfl ?_))
  refine bw rfl rfl rfl H (fun H=>?_) (fun H=>?_)
  ·refine ag 4 tk rfl (ac (dG rfl (al 1 tk rfl ?_)))
   exact dP tk H rfl
  refine ag 4 tk rfl (ac ?_)
  refine aL rfl H (fun H=>?_) (fun H=>?_)
  ·refine al 1 tk rfl ?_
   exact dP tk H rfl
  refine au (aR (al 1 tk rfl ?_))
  exact dP tk H rfl
 refine ab (al 2 tk rfl ?_)
 refine ff (γ := Unit) (fun t1 g1=>⟨53,upd (upd (upd (fun _=>.any) 15 (aG t1)) 4 (af v.kind)) 1 (.ptr (hJ v)),fun _=>none,fun _=>none⟩) H (fun _ H=>?_) (fun t1 g1 H=>?_)
 ·refine aL rfl H (fun H=>?_) (fun H=>?_)
  ·refine au ?_
   refine aQ _ () H Gh.d
  refine bm 2 tk rfl ?_
  refine aQ _ () H Gh.d
 refine aL rfl H (fun H=>?_) (fun H=>?_)
 ·refine ab (al 3 tk rfl ?_)
  refine aL rfl H (fun H=>?_) (fun H=>?_)
  ·refine al 1 tk rfl ?_
   exact dP tk H rfl
  refine au (ab (aa (ag 4 tk rfl ?_)))
  refine bw rfl rfl rfl H (fun H=>?_) (fun H=>?_)
  ·refine ag 5 tk rfl ?_
   refine bw rfl rfl rfl H (fun H=>?_) (fun H=>?_)
   ·refine ag 5 tk rfl ?_
    refine bw rfl rfl rfl H (fun H=>?_) (fun H=>?_)
    ·refine ag 9 tk rfl (ac (dG rfl (al 1 tk rfl ?_)))
     exact dP tk H rfl
    refine ag 5 tk rfl ?_
    refine bw rfl rfl rfl H (fun H=>?_) (fun H=>?_)
    ·refine ag 4 tk rfl (ac (dG rfl (al 1 tk rfl ?_)))
     exact dP tk H rfl
    refine ag 4 tk rfl (ac ?_)
    refine aL rfl H (fun H=>?_) (fun H=>?_)
    ·refine al 1 tk rfl ?_
     exact dP tk H rfl
    refine au (aR (al 1 tk rfl ?_))
    exact dP tk H rfl
   refine ag 10 tk rfl ?_
   refine bw rfl rfl rfl H (fun H=>?_) (fun H=>?_)
   ·refine ag 4 tk rfl (ac (dG rfl (al 1 tk rfl ?_)))
    exact dP tk H rfl
   refine ag 4 tk rfl (ac ?_)
   refine aL rfl H (fun H=>?_) (fun H=>?_)
   ·refine al 1 tk rfl ?_
    exact dP tk H rfl
   refine au (aR (al 1 tk rfl ?_))
   exact dP tk H rfl
  refine ag 15 tk rfl ?_
  refine bw rfl rfl rfl H (fun H=>?_) (fun H=>?_)
  ·refine ag 4 tk rfl (ac (dG rfl (al 1 tk rfl ?_)))
   exact dP tk H rfl
  refine ag 4 tk rfl (ac ?_)
  refine aL rfl H (fun H=>?_) (fun H=>?_)
  ·refine al 1 tk rfl ?_
   exact dP tk H rfl
  refine au (aR (al 1 tk rfl ?_))
  exact dP tk H rfl
 refine al 2 tk rfl ?_
 refine aL rfl H (fun H=>?_) (fun H=>?_)
 ·refine ab (al 3 tk rfl ?_)
  refine aL rfl H (fun H=>?_) (fun H=>?_)
  ·refine al 1 tk rfl ?_
   exact dP tk H rfl
  refine au (al 4 tk rfl ?_)
  refine aL rfl H (fun H=>?_) (fun H=>?_)
  ·refine al 1 tk rfl ?_
   exact dP tk H rfl
  refine au (aR (al 1 tk rfl ?_))
  exact dP tk H rfl
 refine al 1 tk rfl ?_
 exact dP tk H rfl
def cP (sA : List LConstraint) (v : LConstraint) : Option (Int) :=
 ae (aM (σ := Unit) (ρ := (Int)) (fun (j1 : Nat) (x1 : LConstraint) (_ : Unit) =>
  cond (v.table == x1.table && (v.left == x1.left && (v.op == x1.op && (v.right == x1.right && ((v.value.kind == x1.value.kind && (v.value.int == x1.value.int && (v.value.text == x1.value.text && true))) && true)))))
   (some (.ret (j1 : Int)))
   (some (.next ()))) 0 sA ()) fun fl1=>fl1.thenR fun (_ : Unit) =>
 some (-1)
theorem iT (sA : List LConstraint) (v : LConstraint) (r : Int) (H : cP sA v = some r) :
  ba Tryz.prog 109 [(.list 141 (sA.map jy)),(.agg (jy v))] (af r) := by
 unfold cP at H
 refine PH.ay Tryz.func109 Tryz.ntmps109 ?_
 refine ab (aa (aS ?_))
 refine ak tk rfl (ac (ab (ab (aa (ak tk rfl (aK tk (zl _) ?_))))))
 refine ak tk rfl (ac ?_)
 refine gY tk 8 7 0 (fun s1 g1=>upd (fun _=>.any) 3 (.ptr (jy v))) nB nO () H (fun fl1 Hp1 j1 s1 g1 hz1 hl1 x1 fb1 hx1 H hg1=>?_) (fun s1 g1 H=>?_)
 ·refine ab (az (al 2 tk rfl (ab (bj tk mok ⟨false,false,[]⟩ [0,1,2,3,4,5] rfl (by decide +kernel) rfl (aI 3 rfl ?_)))))
  refine dN (zn j1) (bC (fun _=>rfl) hx1) ?_
  refine bN rfl (sD (b := (v.table == x1.table && (v.left == x1.left && (v.op == x1.op && (v.right == x1.right && ((v.value.kind == x1.value.kind && (v.value.int == x1.value.int && (v.value.text == x1.value.text && true))) && true)))))) tk rfl rfl rfl rfl rfl Tryz.stoodInHeld141 Tryz.eqGuardType141 (eqf := [(9,0),(3,1),(9,2),(3,3),(73,4)]) (by simp [cM,Program.fieldsOf,Tryz.underlying141]) (by kernel_rfl) rfl rfl (aY ?_))
  refine aL rfl H (fun H=>?_) (fun H=>?_)
  ·refine al 2 tk rfl ?_
   obtain rfl := ax H
   have e1 : fl1 = .ret _ := hg1
   subst e1
   obtain rfl := bq Hp1
   refine bQ tk rfl (ps := [(af (j1 : Int))]) ⟨_,_,rfl,rfl,rfl⟩ (PLe.q rfl)
  refine au (aR (bm 2 tk rfl ?_))
  exact bO () H hl1 hg1
 refine al 1 tk rfl ?_
 exact bB tk H rfl
def iL (rec43 : LQuery → Option ((List LQuery))) (q : LQuery) : Option ((List LQuery)) :=
 ae (aM (σ := List LQuery) (ρ := Empty) (fun (_ : Nat) (x1 : LQuery) (s1 : List LQuery) =>
  ae (rec43 x1) fun x17 =>
  ae (dF 160 s1 x17) fun (x18 : List LQuery) =>
  some (.next x18)) 0 q.inputs [q]) fun fl1=>fl1.thenP fun (s1 : List LQuery) =>
 some s1
theorem WO_query_Nodes {m : Nat} (rec43 : LQuery → Option ((List LQuery))) (hrec43 : ∀ m a0 r,rec43 a0 = some r → eY Tryz.prog 43 [(.agg (aA a0))] (kn m 33 (r.map aZ))) (q : LQuery) (r : (List LQuery)) (H : iL rec43 q = some r) :
  eY Tryz.prog 43 [(.agg (aA q))] (kn m 33 (r.map aZ)) := by
 unfold iL at H
 refine PH.ay Tryz.func43 Tryz.ntmps43 ?_
 refine ab (aa (aS ?_))
 refine ak tk rfl (ac (ab (aa (ak tk rfl ?_))))
 refine oS (rows' := List.map aZ ([q] : List LQuery)) tk rfl rfl rfl rfl rfl rfl rfl (congrArg (List.map List.length) (jG bH ([q] : List LQuery))).symm rfl (ie.trans (b := (List.map aA ([q] : List LQuery)).flatten) (ie.refl _) (ie.of_eq (congrArg List.flatten (jG bH ([q] : List LQuery))))) fun g7=>?_
 refine ak tk rfl (ac (ab (ab (aa (ag 2 tk rfl (aK tk (zl _) ?_))))))
 refine ak tk rfl (ac ?_)
 refine fC (γ := OwnRef) tk 11 10 9 (fun s1 g1=>upd (fun _=>.any) 3 (.own 7 g1 (s1.map aZ).length)) nB (fun s1 g1=>upd (fun _=>none) 7 (some ⟨g1,33,(s1.map aZ),true⟩)) g7 H (fun fl1 Hp1 j1 s1 g1 hz1 hl1 x1 fb1 hx1 H hg1=>?_) (fun s1 g1 H=>?_)
 ·refine ab (az (ab (aa (bn tk (zn j1) (bC bH hx1) ?_))))
  refine ak tk rfl ?_
  refine aX tk fun b5=>?_
  refine av tk ?_
  refine ac (aa (ak tk rfl (aB tk ?_)))
  obtain ⟨x17,h17,H⟩ := am H
  have s17 := hrec43 17 x1 _ h17
  refine aq Tryz.call43 (dS.r) (ba.of_own s17) ?_
  obtain ⟨x18,h18,H⟩ := am H
  have k18 := cQ h18
  refine dq (rows2' := List.map aZ x17) (rows' := List.map aZ x18) tk rfl rfl rfl rfl rfl rfl rfl rfl rfl rfl rfl rfl rfl (eV.refl _) (eA k18.1) (et k18.2.1) (eB k18.2.2) fun g18=>?_
  refine ak tk rfl (ac (aR (bm 2 tk rfl ?_)))
  exact bO g18 H hl1 hg1
 refine al 2 tk rfl ?_
 obtain rfl := ax H
 refine jH tk rfl
def iQ : Nat → LQuery → Option ((List LQuery))
 | 0,_=>none
 | n + 1,v0=>iL (fun b0=>iQ n b0) v0
theorem WF_query_Nodes  (n : Nat) : (∀ m a0 r,iQ n a0 = some r → eY Tryz.prog 43 [(.agg (aA a0))] (kn m 33 (r.map aZ))) := by
 induction n with
 | zero=>exact (by intros; rename_i h; exact absurd (show (none : Option _) = some _ from h) (by simp))
 | succ n ih =>
  exact (fun m v0 r h=>WO_query_Nodes (m := m) (fun b0=>iQ n b0) ih v0  r h)
def iM (q : LQuery) : Option ((List LQuery)) := gg fun n=>iQ n q
theorem qf {m : Nat} (q : LQuery) (r : (List LQuery)) (H : iM q = some r) :
  eY Tryz.prog 43 [(.agg (aA q))] (kn m 33 (r.map aZ)) := by
 obtain ⟨n,h⟩ := gG H
 exact (WF_query_Nodes  n) m q r h
def iK (rec110 : LQuery → Option (Int)) (q : LQuery) : Option (Int) :=
 ae (aM (σ := Int) (ρ := Empty) (fun (_ : Nat) (x1 : LQuery) (s1 : Int) =>
  ae (rec110 x1) fun x15 =>
  some (.next (if x15 > s1 then x15 else s1))) 0 q.inputs 0) fun fl1=>fl1.thenP fun (s1 : Int) =>
 some (IntKind.i64.wrap (s1 + (1 : Int)))
theorem WO_query_depth (rec110 : LQuery → Option (Int)) (hrec110 : ∀ a0 r,rec110 a0 = some r → ba Tryz.prog 110 [(.agg (aA a0))] (af r)) (q : LQuery) (r : Int) (H : iK rec110 q = some r) :
  ba Tryz.prog 110 [(.agg (aA q))] (af r) := by
 unfold iK at H
 refine PH.ay Tryz.func110 Tryz.ntmps110 ?_
 refine ab (aa (aS ?_))
 refine ak tk rfl (ac (al 1 tk rfl (ab (ab (aa (ag 2 tk rfl (aK tk (zl _) ?_)))))))
 refine ak tk rfl (ac ?_)
 refine fC tk 9 8 7 (fun s1 g1=>upd (fun _=>.any) 3 (af s1)) nB nO () H (fun fl1 Hp1 j1 s1 g1 hz1 hl1 x1 fb1 hx1 H hg1=>?_) (fun s1 g1 H=>?_)
 ·refine ab (az (ab (aa (bn tk (zn j1) (bC bH hx1) ?_))))
  refine ak tk rfl ?_
  refine aX tk fun b5=>?_
  refine av tk ?_
  refine ac (aa (ak tk rfl (aB tk ?_)))
  obtain ⟨x15,h15,H⟩ := am H
  have s15 := hrec110 x1 _ h15
  refine aq Tryz.call110 (dS.r) s15 ?_
  refine ag 2 tk rfl (ac (aR (bm 2 tk rfl ?_)))
  exact bO () H hl1 hg1
 refine al 3 tk rfl ?_
 exact bB tk H rfl
def iP : Nat → LQuery → Option (Int)
 | 0,_=>none
 | n + 1,v0=>iK (fun b0=>iP n b0) v0
theorem WF_query_depth  (n : Nat) : (∀ a0 r,iP n a0 = some r → ba Tryz.prog 110 [(.agg (aA a0))] (af r)) := by
 induction n with
 | zero=>exact (by intros; rename_i h; exact absurd (show (none : Option _) = some _ from h) (by simp))
 | succ n ih =>
  exact (fun v0 r h=>WO_query_depth (fun b0=>iP n b0) ih v0  r h)
def jD (q : LQuery) : Option (Int) := gg fun n=>iP n q
theorem W_query_depth (q : LQuery) (r : Int) (H : jD q = some r) :
  ba Tryz.prog 110 [(.agg (aA q))] (af r) := by
 obtain ⟨n,h⟩ := gG H
 exact (WF_query_depth  n) q r h
def ji (rec167 : LQuery → Option (Int × Int)) (q : LQuery) : Option (Int × Int) :=
 ae (aM (σ := Int × Int) (ρ := Empty) (fun (j1 : Nat) (x1 : LQuery) (s1 : Int × Int) =>
  ae (rec167 x1) fun x20 =>
  cond ((j1 : Int) == (0 : Int))
   (some (.next ((if (20001 : Int) < x20.1 then (20001 : Int) else x20.1),(if x20.2 > s1.2 then x20.2 else s1.2))))
   (cond (q.kind == (6 : Int))
    (some (.next ((if (20001 : Int) < (IntKind.i64.wrap (s1.1 + x20.1)) then (20001 : Int) else (IntKind.i64.wrap (s1.1 + x20.1))),(if x20.2 > s1.2 then x20.2 else s1.2))))
    (be (
     cond (q.kind == (4 : Int))
      (true)
      ((q.kind == (5 : Int)))) fun (t4 : Bool) =>
    cond t4
     (some (.next ((if (20001 : Int) < (IntKind.i64.wrap (s1.1 * (if x20.1 > (1 : Int) then x20.1 else (1 : Int)))) then (20001 : Int) else (IntKind.i64.wrap (s1.1 * (if x20.1 > (1 : Int) then x20.1 else (1 : Int))))),(if x20.2 > s1.2 then x20.2 else s1.2))))
     (some (.next ((if (20001 : Int) < s1.1 then (20001 : Int) else s1.1),(if x20.2 > s1.2 then x20.2 else s1.2))))))) 0 q.inputs (0,0)) fun fl1=>fl1.thenP fun (s1 : Int × Int) =>
 cond (q.kind == (1 : Int))
  (some (24,(if (24 : Int) > s1.2 then (24 : Int) else s1.2)))
  (some (s1.1,(if s1.1 > s1.2 then s1.1 else s1.2)))
theorem WO_query_most (rec167 : LQuery → Option (Int × Int)) (hrec167 : ∀ a0 r,rec167 a0 = some r → ba Tryz.prog 167 [(.agg (aA a0))] (.tup [(af r.1),(af r.2)])) (q : LQuery) (r : Int × Int) (H : ji rec167 q = some r) :
  ba Tryz.prog 167 [(.agg (aA q))] (.tup [(af r.1),(af r.2)]) := by
 unfold ji at H
 refine PH.ay Tryz.func167 Tryz.ntmps167 ?_
 refine ab (aa (aS ?_))
 refine ag 2 tk rfl (ac (al 2 tk rfl (ab (ab (aa (ag 2 tk rfl (aK tk (zl _) ?_)))))))
 refine ak tk rfl (ac ?_)
 refine fC tk 13 12 11 (fun s1 g1=>upd (upd (upd (fun _=>.any) 5 (af s1.2)) 4 (af s1.1)) 1 (.ptr (aA q))) nB nO () H (fun fl1 Hp1 j1 s1 g1 hz1 hl1 x1 fb1 hx1 H hg1=>?_) (fun s1 g1 H=>?_)
 ·refine ab (az (ab (aa (ak tk rfl (bn tk (zn j1) (bC bH hx1) ?_)))))
  refine ak tk rfl ?_
  refine aX tk fun b7=>?_
  refine ak tk rfl (av tk ?_)
  refine ac (ab (aa (aB tk ?_)))
  obtain ⟨x20,h20,H⟩ := am H
  have s20 := hrec167 x1 _ h20
  refine aq Tryz.call167 (dS.r) s20 ?_
  refine ag 5 tk rfl (ac (al 4 tk rfl (ab (az (al 3 tk rfl ?_)))))
  refine aL rfl H (fun H=>?_) (fun H=>?_)
  ·refine bm 2 tk rfl (aR (bm 3 tk rfl (aR (bm 2 tk rfl ?_))))
   exact bO () H hl1 hg1
  refine al 4 tk rfl ?_
  refine aL rfl H (fun H=>?_) (fun H=>?_)
  ·refine bm 4 tk rfl (aR (bm 3 tk rfl (aR (bm 2 tk rfl ?_))))
   exact bO () H hl1 hg1
  refine ab ?_
  refine ff (γ := Unit) (fun t4 g4=>⟨60,upd (upd (upd (upd (upd (upd (upd (upd (fun _=>.any) 37 (aG t4)) 13 (af (j1 : Int))) 12 (af (q.inputs.length : Int))) 11 (.list 33 (q.inputs.map aZ))) 8 (af x20.1)) 5 (af (if x20.2 > s1.2 then x20.2 else s1.2))) 4 (af s1.1)) 1 (.ptr (aA q)),fun _=>none,fun _=>none⟩) H (fun _ H=>?_) (fun t4 g4 H=>?_)
  ·refine aa (ag 4 tk rfl ?_)
   refine bw rfl rfl rfl H (fun H=>?_) (fun H=>?_)
   ·refine ag 5 tk rfl (ac ?_)
    refine aQ _ () H Gh.d
   refine ag 5 tk rfl (ac ?_)
   refine aQ _ () H Gh.d
  refine aL rfl H (fun H=>?_) (fun H=>?_)
  ·refine bm 5 tk rfl (aR (bm 3 tk rfl (aR (bm 2 tk rfl ?_))))
   exact bO () H hl1 hg1
  refine au (aR (bm 3 tk rfl (aR (bm 2 tk rfl ?_))))
  exact bO () H hl1 hg1
 refine ab (al 3 tk rfl ?_)
 refine aL rfl H (fun H=>?_) (fun H=>?_)
 ·refine bm 1 tk rfl (al 6 tk rfl ?_)
  exact bB tk H rfl
 refine au (al 6 tk rfl ?_)
 exact bB tk H rfl
def jk : Nat → LQuery → Option (Int × Int)
 | 0,_=>none
 | n + 1,v0=>ji (fun b0=>jk n b0) v0
theorem WF_query_most  (n : Nat) : (∀ a0 r,jk n a0 = some r → ba Tryz.prog 167 [(.agg (aA a0))] (.tup [(af r.1),(af r.2)])) := by
 induction n with
 | zero=>exact (by intros; rename_i h; exact absurd (show (none : Option _) = some _ from h) (by simp))
 | succ n ih =>
  exact (fun v0 r h=>WO_query_most (fun b0=>jk n b0) ih v0  r h)
def lu (q : LQuery) : Option (Int × Int) := gg fun n=>jk n q
theorem W_query_most (q : LQuery) (r : Int × Int) (H : lu q = some r) :
  ba Tryz.prog 167 [(.agg (aA q))] (.tup [(af r.1),(af r.2)]) := by
 obtain ⟨n,h⟩ := gG H
 exact (WF_query_most  n) q r h
def gr (rec42 : LExpr → (List Int) → Bool → (List Bool) → Option ((List Int) × Bool × (List Bool))) (e : LExpr) (c0 : List Int) (c1 : Bool) (c2 : List Bool) : Option ((List Int) × Bool × (List Bool)) :=
 be (
  cond (e.kind == (3 : Int))
   (cond (decide (e.index ≥ (0 : Int)))
    ((decide (e.index < (8 : Int))))
    (false))
   (false)) fun (t1 : Bool) =>
 ae (
  cond t1
   (ae (whileM (σ := List Int) (ρ := Empty) (fun (s7 : List Int) =>
    cond (decide ((s7.length : Int) ≤ e.index))
     (ae (dF 8 s7 ([0] : List Int)) fun (x28 : List Int) =>
     some (.next x28))
     (some (.brk s7))) c0) fun fl7=>fl7.thenP fun (s7 : List Int) =>
   ae (
    cond c1
     (some true)
     (ae (arrI 8 c2 e.index) fun (x33 : Bool) =>
     cond x33
      (ae (aC s7 e.index) fun (x39 : Int) =>
      some (x39 != e.value.kind))
      (some false))) fun (t8 : Bool) =>
   ae (aC s7 e.index) fun (_ : Int) =>
   be (s7.set e.index.toNat e.value.kind) fun (y9 : List Int) =>
   ae (arrI 8 c2 e.index) fun (_ : Bool) =>
   be (c2.set e.index.toNat true) fun (y10 : List Bool) =>
   some (y9,t8,y10))
   (some (c0,c1,c2))) fun (t6 : List Int × Bool × List Bool) =>
 ae (aM (σ := List Int × Bool × List Bool) (ρ := Empty) (fun (_ : Nat) (x11 : LExpr) (s11 : List Int × Bool × List Bool) =>
  ae (rec42 x11 s11.1 s11.2.1 s11.2.2) fun x66 =>
  some (.next (x66.1,x66.2.1,x66.2.2))) 0 e.args (t6.1,t6.2.1,t6.2.2)) fun fl11=>fl11.thenP fun (s11 : List Int × Bool × List Bool) =>
 some (s11.1,s11.2.1,s11.2.2)
theorem mU (b_c0 : Nat) (g_c0 : OwnRef) (b_c1 : Nat) (b_c2 : Nat) (b_c3 : Nat) (rec42 : LExpr → (List Int) → Bool → (List Bool) → Option ((List Int) × Bool × (List Bool))) (hrec42 : ∀ bq0 gq0 bq1 bq2 bq3 a0 a1 a2 a3 r,rec42 a0 a1 a2 a3 = some r → PH Tryz.prog 42 [(.agg (cG a0)),(.box 1000 bq0 0),(.box 1001 bq1 0),(.box 1002 bq2 0),(.box 1003 bq3 0)] ⟨upd (upd (upd (upd (fun _=>none) 1003 (some ⟨bq3,[(.fn 42 [(.box 1000 bq0 0),(.box 1001 bq1 0),(.box 1002 bq2 0),(.box 1003 bq3 0)])]⟩)) 1002 (some ⟨bq2,(List.map aG a3)⟩)) 1001 (some ⟨bq1,[(aG a2)]⟩)) 1000 (some ⟨bq0,[(.own 1100 gq0 (a1.map bP).length)]⟩),upd (fun _=>none) 1100 (some ⟨gq0,3,(a1.map bP),true⟩)⟩ (fun u H=>∃ gz0,u = (.tup []) ∧ H = ⟨upd (upd (upd (upd (fun _=>none) 1003 (some ⟨bq3,[(.fn 42 [(.box 1000 bq0 0),(.box 1001 bq1 0),(.box 1002 bq2 0),(.box 1003 bq3 0)])]⟩)) 1002 (some ⟨bq2,(List.map aG r.2.2)⟩)) 1001 (some ⟨bq1,[(aG r.2.1)]⟩)) 1000 (some ⟨bq0,[(.own 1100 gz0 (r.1.map bP).length)]⟩),upd (fun _=>none) 1100 (some ⟨gz0,3,(r.1.map bP),true⟩)⟩)) (e : LExpr) (c0 : List Int) (c1 : Bool) (c2 : List Bool) (r : (List Int) × Bool × (List Bool)) (H : gr rec42 e c0 c1 c2 = some r) :
  PH Tryz.prog 42 [(.agg (cG e)),(.box 1000 b_c0 0),(.box 1001 b_c1 0),(.box 1002 b_c2 0),(.box 1003 b_c3 0)] ⟨upd (upd (upd (upd (fun _=>none) 1003 (some ⟨b_c3,[(.fn 42 [(.box 1000 b_c0 0),(.box 1001 b_c1 0),(.box 1002 b_c2 0),(.box 1003 b_c3 0)])]⟩)) 1002 (some ⟨b_c2,(List.map aG c2)⟩)) 1001 (some ⟨b_c1,[(aG c1)]⟩)) 1000 (some ⟨b_c0,[(.own 1100 g_c0 (c0.map bP).length)]⟩),upd (fun _=>none) 1100 (some ⟨g_c0,3,(c0.map bP),true⟩)⟩ (fun u H=>∃ gz0,u = (.tup []) ∧ H = ⟨upd (upd (upd (upd (fun _=>none) 1003 (some ⟨b_c3,[(.fn 42 [(.box 1000 b_c0 0),(.box 1001 b_c1 0),(.box 1002 b_c2 0),(.box 1003 b_c3 0)])]⟩)) 1002 (some ⟨b_c2,(List.map aG r.2.2)⟩)) 1001 (some ⟨b_c1,[(aG r.2.1)]⟩)) 1000 (some ⟨b_c0,[(.own 1100 gz0 (r.1.map bP).length)]⟩),upd (fun _=>none) 1100 (some ⟨gz0,3,(r.1.map bP),true⟩)⟩) := by
 unfold gr at H
 refine PH.ay Tryz.func42 Tryz.ntmps42 ?_
 refine ab (aa (aS ?_))
 refine ac (ab (ab ?_))
 refine ff (γ := Unit) (fun t1 g1=>⟨68,upd (upd (upd (upd (upd (upd (fun _=>.any) 20 (aG t1)) 5 (.ptr (cG e))) 4 (.box 1003 b_c3 0)) 3 (.box 1002 b_c2 0)) 2 (.box 1001 b_c1 0)) 1 (.box 1000 b_c0 0),upd (upd (upd (upd (fun _=>none) 1003 (some ⟨b_c3,[(.fn 42 [(.box 1000 b_c0 0),(.box 1001 b_c1 0),(.box 1002 b_c2 0),(.box 1003 b_c3 0)])]⟩)) 1002 (some ⟨b_c2,(List.map aG c2)⟩)) 1001 (some ⟨b_c1,[(aG c1)]⟩)) 1000 (some ⟨b_c0,[(.own 1100 g_c0 (c0.map bP).length)]⟩),upd (fun _=>none) 1100 (some ⟨g_c0,3,(c0.map bP),true⟩)⟩) H (fun _ H=>?_) (fun t1 g1 H=>?_)
 ·refine aa (ag 4 tk rfl ?_)
  refine bw rfl rfl rfl H (fun H=>?_) (fun H=>?_)
  ·refine ag 5 tk rfl ?_
   refine bw rfl rfl rfl H (fun H=>?_) (fun H=>?_)
   ·refine ag 4 tk rfl (ac ?_)
    refine aQ _ () H Gh.d
   refine ag 4 tk rfl (ac ?_)
   refine aQ _ () H Gh.d
  refine ag 9 tk rfl (ac ?_)
  refine aQ _ () H Gh.d
 refine fp (γ := OwnRef) (fun t6 g6=>⟨68,upd (upd (upd (upd (upd (fun _=>.any) 5 (.ptr (cG e))) 4 (.box 1003 b_c3 0)) 3 (.box 1002 b_c2 0)) 2 (.box 1001 b_c1 0)) 1 (.box 1000 b_c0 0),upd (upd (upd (upd (fun _=>none) 1003 (some ⟨b_c3,[(.fn 42 [(.box 1000 b_c0 0),(.box 1001 b_c1 0),(.box 1002 b_c2 0),(.box 1003 b_c3 0)])]⟩)) 1002 (some ⟨b_c2,(List.map aG t6.2.2)⟩)) 1001 (some ⟨b_c1,[(aG t6.2.1)]⟩)) 1000 (some ⟨b_c0,[(.own 1100 g6 (t6.1.map bP).length)]⟩),upd (fun _=>none) 1100 (some ⟨g6,3,(t6.1.map bP),true⟩)⟩) H (fun _ H=>?_) (fun t6 g6 H=>?_)
 ·refine aL rfl H (fun H=>?_) (fun H=>?_)
  ·refine ab ?_
   obtain ⟨fl7,H7,Hp7⟩ := am H
   refine dU (τ := List Int) (γ := OwnRef) (fun s7 g7=>⟨68,upd (upd (upd (upd (upd (fun _=>.any) 5 (.ptr (cG e))) 4 (.box 1003 b_c3 0)) 3 (.box 1002 b_c2 0)) 2 (.box 1001 b_c1 0)) 1 (.box 1000 b_c0 0),upd (upd (upd (upd (fun _=>none) 1003 (some ⟨b_c3,[(.fn 42 [(.box 1000 b_c0 0),(.box 1001 b_c1 0),(.box 1002 b_c2 0),(.box 1003 b_c3 0)])]⟩)) 1002 (some ⟨b_c2,(List.map aG c2)⟩)) 1001 (some ⟨b_c1,[(aG c1)]⟩)) 1000 (some ⟨b_c0,[(.own 1100 g7 (s7.map bP).length)]⟩),upd (fun _=>none) 1100 (some ⟨g7,3,(s7.map bP),true⟩)⟩) (fun t=>fl7 = .next t) ?_ (fun s7 g7 hn7=>?_)
   ·refine az ?_
    refine dA (fun s7 g7=>⟨68,upd (upd (upd (upd (upd (fun _=>.any) 5 (.ptr (cG e))) 4 (.box 1003 b_c3 0)) 3 (.box 1002 b_c2 0)) 2 (.box 1001 b_c1 0)) 1 (.box 1000 b_c0 0),upd (upd (upd (upd (fun _=>none) 1003 (some ⟨b_c3,[(.fn 42 [(.box 1000 b_c0 0),(.box 1001 b_c1 0),(.box 1002 b_c2 0),(.box 1003 b_c3 0)])]⟩)) 1002 (some ⟨b_c2,(List.map aG c2)⟩)) 1001 (some ⟨b_c1,[(aG c1)]⟩)) 1000 (some ⟨b_c0,[(.own 1100 g7 (s7.map bP).length)]⟩),upd (fun _=>none) 1100 (some ⟨g7,3,(s7.map bP),true⟩)⟩) g_c0 H7 Gh.d (fun m7 s7 g7 hr7=>?_)
    obtain ⟨fb7,H,hg7⟩ := ct hr7
    refine ab (ab (aa (aB tk ?_)))
    refine io tk (zl _) ?_
    refine ag 3 tk rfl (ac ?_)
    refine aL rfl H (fun H=>?_) (fun H=>?_)
    ·refine au (az (aa (aB tk ?_)))
     refine ew tk (rows' := List.map bP ([0] : List Int)) (eV.refl _) ?_
     obtain ⟨x28,h28,H⟩ := am H
     have k28 := cQ h28
     refine dq (rows2' := List.map bP ([0] : List Int)) (rows' := List.map bP x28) tk rfl rfl rfl rfl rfl rfl rfl rfl rfl rfl rfl rfl rfl (eV.refl _) (eA k28.1) (et k28.2.1) (eB k28.2.2) fun g28=>?_
     refine av tk ?_
     refine ac (aR ?_)
     obtain rfl := ax H
     refine cz x28 g28 hg7 Gh.d
    refine bF rfl ?_
    obtain rfl := ax H
    refine aQ s7 g7 hg7 Gh.d
   have H := cw hn7 Hp7
   refine ab ?_
   refine fp (γ := Unit) (fun t8 g8=>⟨68,upd (upd (upd (upd (upd (fun _=>.any) 5 (.ptr (cG e))) 4 (.box 1003 b_c3 0)) 3 (.box 1002 b_c2 0)) 2 (.box 1001 b_c1 0)) 1 (.box 1000 b_c0 0),upd (upd (upd (upd (fun _=>none) 1003 (some ⟨b_c3,[(.fn 42 [(.box 1000 b_c0 0),(.box 1001 b_c1 0),(.box 1002 b_c2 0),(.box 1003 b_c3 0)])]⟩)) 1002 (some ⟨b_c2,(List.map aG c2)⟩)) 1001 (some ⟨b_c1,[(aG t8)]⟩)) 1000 (some ⟨b_c0,[(.own 1100 g7 (s7.map bP).length)]⟩),upd (fun _=>none) 1100 (some ⟨g7,3,(s7.map bP),true⟩)⟩) H (fun _ H=>?_) (fun t8 g8 H=>?_)
   ·refine cA (tag := 1100) rfl (fun ho1100=>?_)
    refine bj tk mok ⟨true,true,[32,38,43]⟩ [0,1,2,3,4,5,6,7,8,9,10,11,12,13,14,15,16,17,18] rfl (by decide +kernel) rfl (bh ?_)
    refine bN rfl ?_
    refine ir H (fun H=>?_) (fun H=>?_)
    ·refine aI 16 rfl (fE rfl rfl rfl rfl rfl rfl rfl rfl rfl rfl rfl rfl (aY ?_))
     refine aQ _ () (ax H) Gh.d
    refine aI 2 rfl ?_
    obtain ⟨x33,h33,H⟩ := am H
    have k33 := arrI_some h33
    refine sq rfl rfl rfl rfl rfl rfl rfl rfl rfl k33.1 rfl ?_
    refine sN rfl rfl rfl rfl rfl rfl rfl rfl (by rw [List.getElem?_map,k33.2]; rfl) rfl ?_
    refine bN rfl ?_
    refine ir H (fun H=>?_) (fun H=>?_)
    ·refine bh ?_
     refine aI 2 rfl ?_
     obtain ⟨x39,k39,H⟩ := aT H
     refine aH tk ⟨k39.1,(aV k39.2)⟩ (bd ho1100 k39.2) ?_
     refine bc tk rfl rfl rfl rfl rfl rfl rfl rfl rfl (aJ (fun _=>rfl) k39.2) rfl rfl ?_
     refine aI 6 rfl (fE rfl rfl rfl rfl rfl rfl rfl rfl rfl rfl rfl rfl (aY ?_))
     refine aQ _ () (ax H) Gh.d
    refine aI 11 rfl (fE rfl rfl rfl rfl rfl rfl rfl rfl rfl rfl rfl rfl (aY ?_))
    refine aQ _ () (ax H) Gh.d
   refine cA (tag := 1100) rfl (fun ho1100=>?_)
   refine bj tk mok ⟨true,false,[49,51,54]⟩ [0,1,2,3,4,5,6,7,8,9,10,11] rfl (by decide +kernel) rfl (bh ?_)
   refine aI 7 rfl ?_
   obtain ⟨x55,k55,H⟩ := aT H
   refine aH tk ⟨k55.1,(aV k55.2)⟩ (bd ho1100 k55.2) ?_
   obtain ⟨y9,hy9,H⟩ := bR H
   refine bY tk rfl rfl rfl rfl rfl rfl rfl rfl rfl (by rw [zl]; exact (zg.1 k55.2).1) (PLe.refl _ _) rfl rfl rfl rfl (by decide) (bD (fun _=>rfl) k55.2 rfl hy9) ?_
   obtain ⟨x56,h56,H⟩ := am H
   have k56 := arrI_some h56
   refine sq rfl rfl rfl rfl rfl rfl rfl rfl rfl k56.1 rfl ?_
   obtain ⟨y10,hy10,H⟩ := bR H
   refine sJ rfl rfl rfl rfl rfl rfl rfl rfl rfl rfl (by rw [zl]; exact (zg.1 k56.2).1) (splice_map aG _ _ _ (zg.1 k56.2).1 hy10) ?_
   refine aY ?_
   refine aQ _ g7 (ax H) (Gh.le (ao (ao (ao (ao (ao aP))))) (aW rfl (dS.of2 (ie.cons (mH.of_eq (congrArg (PV.own 1100 g7) (bf (f := bP) hy9))) ie.nil)) (aW rfl (dS.r) (aW rfl (dS.r) (aW rfl (dS.r) aD)))) (aU aE))
  refine au ?_
  refine aQ _ g_c0 (ax H) Gh.d
 refine ab (aa (ag 2 tk rfl (aK tk (zl _) ?_)))
 refine ak tk rfl (ac ?_)
 refine fC (γ := OwnRef) tk 60 59 58 (fun s11 g11=>upd (upd (upd (upd (fun _=>.any) 4 (.box 1003 b_c3 0)) 3 (.box 1002 b_c2 0)) 2 (.box 1001 b_c1 0)) 1 (.box 1000 b_c0 0)) (fun s11 g11=>upd (upd (upd (upd (fun _=>none) 1003 (some ⟨b_c3,[(.fn 42 [(.box 1000 b_c0 0),(.box 1001 b_c1 0),(.box 1002 b_c2 0),(.box 1003 b_c3 0)])]⟩)) 1002 (some ⟨b_c2,(List.map aG s11.2.2)⟩)) 1001 (some ⟨b_c1,[(aG s11.2.1)]⟩)) 1000 (some ⟨b_c0,[(.own 1100 g11 (s11.1.map bP).length)]⟩)) (fun s11 g11=>upd (fun _=>none) 1100 (some ⟨g11,3,(s11.1.map bP),true⟩)) g6 H (fun fl11 Hp11 j11 s11 g11 hz11 hl11 x11 fb11 hx11 H hg11=>?_) (fun s11 g11 H=>?_)
 ·refine ab (az (ab (aa (bn tk (zn j11) (bC cb hx11) ?_))))
  refine ak tk rfl ?_
  refine aX tk fun b7=>?_
  refine av tk ?_
  refine ac (aa (aB tk ?_))
  refine aB tk ?_
  obtain ⟨x66,h66,H⟩ := am H
  have s66 := hrec42 b_c0 g11 b_c1 b_c2 b_c3 x11 s11.1 s11.2.1 s11.2.2 _ h66
  refine cI (st' := ⟨_,_,upd (upd (upd (upd (upd (fun _=>none) 1003 (some ⟨b_c3,[(.fn 42 [(.box 1000 b_c0 0),(.box 1001 b_c1 0),(.box 1002 b_c2 0),(.box 1003 b_c3 0)])]⟩)) 1002 (some ⟨b_c2,(List.map aG s11.2.2)⟩)) 1001 (some ⟨b_c1,[(aG s11.2.1)]⟩)) 1000 (some ⟨b_c0,[(.own 1100 g11 (s11.1.map bP).length)]⟩)) 7 (some ⟨b7,(cG x11)⟩),upd (fun _=>none) 1100 (some ⟨g11,3,(s11.1.map bP),true⟩)⟩) (Gh.le (bZ _ _) (aW rfl (dS.r) (aW rfl (dS.of2 (ie.cons (mH.own rfl) ie.nil)) (aW rfl (dS.r) (aW rfl (dS.r) (aW rfl (dS.of2 (ie.cons (mH.fn (ie.cons mH.boxT (ie.cons mH.boxT (ie.cons mH.boxT (ie.cons mH.boxT ie.nil))))) ie.nil)) aD))))) (aU aE)) ?_
  refine ci (g := 42) rfl rfl rfl Tryz.call42 [(1000,1000),(1001,1001),(1002,1002),(1003,1003)] [(1100,1100)] rfl rfl rfl rfl (dS.of2 (ie.cons (mH.of_eq rfl) (ie.cons mH.boxT (ie.cons mH.boxT (ie.cons mH.boxT (ie.cons mH.boxT ie.nil)))))) (by rw [cN,cN,cN,cN,bT,bL,bS]; rfl) s66 ?_
  rintro u66 H66h ⟨gz66_0,rfl,rfl⟩
  refine ⟨_,rfl,?_⟩
  refine cI (st' := ⟨_,_,upd (upd (upd (upd (upd (fun _=>none) 1003 (some ⟨b_c3,[(.fn 42 [(.box 1000 b_c0 0),(.box 1001 b_c1 0),(.box 1002 b_c2 0),(.box 1003 b_c3 0)])]⟩)) 1002 (some ⟨b_c2,(List.map aG x66.2.2)⟩)) 1001 (some ⟨b_c1,[(aG x66.2.1)]⟩)) 1000 (some ⟨b_c0,[(.own 1100 gz66_0 (x66.1.map bP).length)]⟩)) 7 (some ⟨b7,(cG x11)⟩),upd (fun _=>none) 1100 (some ⟨gz66_0,3,(x66.1.map bP),true⟩)⟩) (Gh.le (bZ _ _) (aW rfl (dS.r) (aW rfl (dS.of2 (ie.cons (mH.own rfl) ie.nil)) (aW rfl (dS.r) (aW rfl (dS.r) (aW rfl (dS.of2 (ie.cons (mH.fn (ie.cons mH.boxT (ie.cons mH.boxT (ie.cons mH.boxT (ie.cons mH.boxT ie.nil))))) ie.nil)) aD))))) (aU aE)) ?_
  refine ac (aR (bm 2 tk rfl ?_))
  exact bO gz66_0 H hl11 hg11
 obtain rfl := ax H
 refine cq (st' := ⟨68,fun _=>.any,upd (upd (upd (upd (fun _=>none) 1003 (some ⟨b_c3,[(.fn 42 [(.box 1000 b_c0 0),(.box 1001 b_c1 0),(.box 1002 b_c2 0),(.box 1003 b_c3 0)])]⟩)) 1002 (some ⟨b_c2,(List.map aG s11.2.2)⟩)) 1001 (some ⟨b_c1,[(aG s11.2.1)]⟩)) 1000 (some ⟨b_c0,[(.own 1100 g11 (s11.1.map bP).length)]⟩),upd (fun _=>none) 1100 (some ⟨g11,3,(s11.1.map bP),true⟩)⟩) (Gh.le aP (aW rfl (dS.of2 (ie.cons (mH.own rfl) ie.nil)) (aW rfl (dS.r) (aW rfl (dS.r) (aW rfl (dS.r) aD)))) (aU aE)) ?_
 refine lw rfl (PLe.q rfl) ⟨_,rfl,rfl⟩
def dg : Nat → LExpr → (List Int) → Bool → (List Bool) → Option ((List Int) × Bool × (List Bool))
 | 0,_,_,_,_=>none
 | n + 1,v0,v1,v2,v3=>gr (fun b0 b1 b2 b3=>dg n b0 b1 b2 b3) v0 v1 v2 v3
theorem nf  (n : Nat) : (∀ bq0 gq0 bq1 bq2 bq3 a0 a1 a2 a3 r,dg n a0 a1 a2 a3 = some r → PH Tryz.prog 42 [(.agg (cG a0)),(.box 1000 bq0 0),(.box 1001 bq1 0),(.box 1002 bq2 0),(.box 1003 bq3 0)] ⟨upd (upd (upd (upd (fun _=>none) 1003 (some ⟨bq3,[(.fn 42 [(.box 1000 bq0 0),(.box 1001 bq1 0),(.box 1002 bq2 0),(.box 1003 bq3 0)])]⟩)) 1002 (some ⟨bq2,(List.map aG a3)⟩)) 1001 (some ⟨bq1,[(aG a2)]⟩)) 1000 (some ⟨bq0,[(.own 1100 gq0 (a1.map bP).length)]⟩),upd (fun _=>none) 1100 (some ⟨gq0,3,(a1.map bP),true⟩)⟩ (fun u H=>∃ gz0,u = (.tup []) ∧ H = ⟨upd (upd (upd (upd (fun _=>none) 1003 (some ⟨bq3,[(.fn 42 [(.box 1000 bq0 0),(.box 1001 bq1 0),(.box 1002 bq2 0),(.box 1003 bq3 0)])]⟩)) 1002 (some ⟨bq2,(List.map aG r.2.2)⟩)) 1001 (some ⟨bq1,[(aG r.2.1)]⟩)) 1000 (some ⟨bq0,[(.own 1100 gz0 (r.1.map bP).length)]⟩),upd (fun _=>none) 1100 (some ⟨gz0,3,(r.1.map bP),true⟩)⟩)) := by
 induction n with
 | zero=>exact (by intros; rename_i h; exact absurd (show (none : Option _) = some _ from h) (by simp))
 | succ n ih =>
  exact (fun bq0 gq0 bq1 bq2 bq3 v0 v1 v2 v3 r h=>mU bq0 gq0 bq1 bq2 bq3 (fun b0 b1 b2 b3=>dg n b0 b1 b2 b3) ih v0 v1 v2 v3  r h)
def fq (e : LExpr) (c0 : List Int) (c1 : Bool) (c2 : List Bool) : Option ((List Int) × Bool × (List Bool)) := gg fun n=>dg n e c0 c1 c2
theorem kd (b_c0 : Nat) (g_c0 : OwnRef) (b_c1 : Nat) (b_c2 : Nat) (b_c3 : Nat) (e : LExpr) (c0 : List Int) (c1 : Bool) (c2 : List Bool) (r : (List Int) × Bool × (List Bool)) (H : fq e c0 c1 c2 = some r) :
  PH Tryz.prog 42 [(.agg (cG e)),(.box 1000 b_c0 0),(.box 1001 b_c1 0),(.box 1002 b_c2 0),(.box 1003 b_c3 0)] ⟨upd (upd (upd (upd (fun _=>none) 1003 (some ⟨b_c3,[(.fn 42 [(.box 1000 b_c0 0),(.box 1001 b_c1 0),(.box 1002 b_c2 0),(.box 1003 b_c3 0)])]⟩)) 1002 (some ⟨b_c2,(List.map aG c2)⟩)) 1001 (some ⟨b_c1,[(aG c1)]⟩)) 1000 (some ⟨b_c0,[(.own 1100 g_c0 (c0.map bP).length)]⟩),upd (fun _=>none) 1100 (some ⟨g_c0,3,(c0.map bP),true⟩)⟩ (fun u H=>∃ gz0,u = (.tup []) ∧ H = ⟨upd (upd (upd (upd (fun _=>none) 1003 (some ⟨b_c3,[(.fn 42 [(.box 1000 b_c0 0),(.box 1001 b_c1 0),(.box 1002 b_c2 0),(.box 1003 b_c3 0)])]⟩)) 1002 (some ⟨b_c2,(List.map aG r.2.2)⟩)) 1001 (some ⟨b_c1,[(aG r.2.1)]⟩)) 1000 (some ⟨b_c0,[(.own 1100 gz0 (r.1.map bP).length)]⟩),upd (fun _=>none) 1100 (some ⟨gz0,3,(r.1.map bP),true⟩)⟩) := by
 obtain ⟨n,h⟩ := gG H
 exact (nf  n) b_c0 g_c0 b_c1 b_c2 b_c3 e c0 c1 c2 r h
def gL (sA : List Int) (v : Int) : Option (Int) :=
 ae (aM (σ := Unit) (ρ := (Int)) (fun (j1 : Nat) (x1 : Int) (_ : Unit) =>
  cond (v == x1)
   (some (.ret (j1 : Int)))
   (some (.next ()))) 0 sA ()) fun fl1=>fl1.thenR fun (_ : Unit) =>
 some (-1)
theorem og (sA : List Int) (v : Int) (r : Int) (H : gL sA v = some r) :
  ba Tryz.prog 44 [(.list 3 (sA.map bP)),(af v)] (af r) := by
 unfold gL at H
 refine PH.ay Tryz.func44 Tryz.ntmps44 ?_
 refine al 1 tk rfl (ab (ab (aa (ak tk rfl (aK tk (zl _) ?_)))))
 refine ak tk rfl (ac ?_)
 refine gY tk 8 7 0 (fun s1 g1=>upd (fun _=>.any) 1 (af v)) nB nO () H (fun fl1 Hp1 j1 s1 g1 hz1 hl1 x1 fb1 hx1 H hg1=>?_) (fun s1 g1 H=>?_)
 ·refine ab (az (al 2 tk rfl (ab (aa (ag 3 tk rfl ?_)))))
  refine bn tk (zn j1) (bC (fun _=>rfl) hx1) ?_
  refine ag 2 tk rfl (ac ?_)
  refine aL rfl H (fun H=>?_) (fun H=>?_)
  ·refine al 2 tk rfl ?_
   obtain rfl := ax H
   have e1 : fl1 = .ret _ := hg1
   subst e1
   obtain rfl := bq Hp1
   refine bQ tk rfl (ps := [(af (j1 : Int))]) ⟨_,_,rfl,rfl,rfl⟩ (PLe.q rfl)
  refine au (aR (bm 2 tk rfl ?_))
  exact bO () H hl1 hg1
 refine al 1 tk rfl ?_
 exact bB tk H rfl
def eu (t : LTable) (c0 : LQuery) : Bool :=
 (t.name == c0.table)
theorem pq (t : LTable) (c0 : LQuery) :
  ba Tryz.prog 230 [(.agg (dz t)),(.ptr (aA c0))] (aG (eu t c0)) := by
 obtain ⟨r,H⟩ : ∃ r,eu t c0 = r := ⟨_,rfl⟩
 rw [H]
 unfold eu at H
 refine PH.ay Tryz.func230 Tryz.ntmps230 ?_
 refine ab (aa (aS ?_))
 refine ak tk rfl (ac (al 6 tk rfl ?_))
 exact dP tk H rfl
theorem qw {m : Nat} (xs : List LCol) : eY Tryz.prog 195 [.list 68 (xs.map bg)] (kn m 68 (xs.map bg)) := by
 refine PH.ay Tryz.func195 Tryz.ntmps195 ?_
 refine iB tk 0 rfl rfl (fun hz hb=>?_)
 refine al 1 tk rfl (ab (ab (aa (ak tk rfl ?_))))
 refine pL tk rfl rfl rfl rfl rfl rfl rfl (fun b hn=>?_)
 refine ac ?_
 refine du rfl (fun h=>?_) (fun h=>?_)
 ·refine al 1 tk rfl (lM tk 2 902 (e := 68) rfl rfl ?_)
  refine jH tk (hn h).symm
 ·refine au (ab (aa ?_))
  refine oS (rows' := []) tk rfl rfl rfl rfl rfl rfl rfl rfl rfl (ie.refl _) fun g=>?_
  refine ak tk rfl ?_
  refine dq (rows2' := xs.map bg) (rows' := xs.map bg) tk rfl rfl rfl rfl rfl rfl rfl rfl rfl rfl rfl rfl rfl (eV.refl _) (by simpa using hb) (by simpa using hz) rfl fun g'=>?_
  refine ak tk rfl (ac ?_)
  refine jH tk rfl
def dy (sA : List (List UInt8)) (v : List UInt8) : Option (Int) :=
 ae (aM (σ := Unit) (ρ := (Int)) (fun (j1 : Nat) (x1 : List UInt8) (_ : Unit) =>
  cond (v == x1)
   (some (.ret (j1 : Int)))
   (some (.next ()))) 0 sA ()) fun fl1=>fl1.thenR fun (_ : Unit) =>
 some (-1)
theorem jb (sA : List (List UInt8)) (v : List UInt8) (r : Int) (H : dy sA v = some r) :
  ba Tryz.prog 77 [(.list 9 (sA.map ah)),(.str v)] (af r) := by
 unfold dy at H
 refine PH.ay Tryz.func77 Tryz.ntmps77 ?_
 refine al 1 tk rfl (ab (ab (aa (ak tk rfl (aK tk (zl _) ?_)))))
 refine ak tk rfl (ac ?_)
 refine gY tk 8 7 0 (fun s1 g1=>upd (fun _=>.any) 1 (.str v)) nB nO () H (fun fl1 Hp1 j1 s1 g1 hz1 hl1 x1 fb1 hx1 H hg1=>?_) (fun s1 g1 H=>?_)
 ·refine ab (az (al 2 tk rfl (ab (aa (ag 3 tk rfl ?_)))))
  refine bn tk (zn j1) (bC (fun _=>rfl) hx1) ?_
  refine ag 2 tk rfl (ac ?_)
  refine aL rfl H (fun H=>?_) (fun H=>?_)
  ·refine al 2 tk rfl ?_
   obtain rfl := ax H
   have e1 : fl1 = .ret _ := hg1
   subst e1
   obtain rfl := bq Hp1
   refine bQ tk rfl (ps := [(af (j1 : Int))]) ⟨_,_,rfl,rfl,rfl⟩ (PLe.q rfl)
  refine au (aR (bm 2 tk rfl ?_))
  exact bO () H hl1 hg1
 refine al 1 tk rfl ?_
 exact bB tk H rfl
def dQ (sA : List (List UInt8)) (v : List UInt8) : Option (Int × (List (List UInt8))) :=
 ae (mF (sA.length : Int)) fun (n1 : Nat) =>
 ae (aM (σ := List (List UInt8)) (ρ := (Int × (List (List UInt8)))) (fun (j1 : Nat) (_ : Nat) (s1 : List (List UInt8)) =>
  ae (aC s1 (j1 : Int)) fun (x14 : List UInt8) =>
  cond (v == x14)
   (some (.ret ((j1 : Int),s1)))
   (some (.next s1))) 0 (List.range n1) sA) fun fl1=>fl1.thenR fun (s1 : List (List UInt8)) =>
 some ((-1),s1)
theorem lm (g_sA : OwnRef) (sA : List (List UInt8)) (v : List UInt8) (r : Int × (List (List UInt8))) (H : dQ sA v = some r) :
  PH Tryz.prog 77 [(.own 0 g_sA (sA.map ah).length),(.str v)] ⟨fun _=>none,upd (fun _=>none) 0 (some ⟨g_sA,9,(sA.map ah),true⟩)⟩ (fun u H=>u = (af r.1) ∧ H = ⟨fun _=>none,upd (fun _=>none) 0 (some ⟨g_sA,9,(r.2.map ah),true⟩)⟩) := by
 unfold dQ at H
 refine PH.ay Tryz.func77 Tryz.ntmps77 ?_
 refine al 1 tk rfl (ab (ab (aa (ak tk rfl (io tk (zl _) ?_)))))
 refine ak tk rfl (ac ?_)
 obtain ⟨n1,hs1,H⟩ := am H
 have hz1 := oI hs1
 obtain ⟨fl1,H1,Hp1⟩ := am H
 refine dU (τ := List (List UInt8)) (γ := Unit) (fun s1 g1=>⟨19,upd (fun _=>.any) 0 (.own 0 g_sA (s1.map ah).length),fun _=>none,upd (fun _=>none) 0 (some ⟨g_sA,9,(s1.map ah),true⟩)⟩) (fun t=>fl1 = .next t) ?_ (fun s1 g1 hn1=>?_)
 ·refine az ?_
  refine km (fun j1 s1 g1=>⟨19,upd (upd (upd (upd (fun _=>.any) 8 (af (j1 : Int))) 7 (af (sA.length : Int))) 1 (.str v)) 0 (.own 0 g_sA (s1.map ah).length),fun _=>none,upd (fun _=>none) 0 (some ⟨g_sA,9,(s1.map ah),true⟩)⟩) () H1 Gh.d (fun j1 s1 g1 hj1 hr1=>?_)
  refine al 1 tk rfl (ab ?_)
  refine du rfl (fun h=>?_) (fun h=>?_)
  ·have hl1 := natLt hz1 h
   obtain ⟨x1,fb1,hx1,H,hg1⟩ := rMc hl1 hr1
   obtain rfl := natX hx1
   refine au (ab (az (al 2 tk rfl (ab (aa (ag 3 tk rfl ?_))))))
   obtain ⟨x14,k14,H⟩ := aT H
   refine jF (tag := 0) rfl (fun ho0=>?_)
   refine jw tk ⟨k14.1,(aV k14.2)⟩ (bd ho0 k14.2) ?_
   refine nS tk rfl rfl rfl rfl rfl rfl rfl (aJ (fun _=>rfl) k14.2) rfl rfl ?_
   refine ak tk rfl (ac ?_)
   refine aL rfl H (fun H=>?_) (fun H=>?_)
   ·refine al 2 tk rfl ?_
    obtain rfl := ax H
    have e1 : fl1 = .ret _ := hg1
    subst e1
    obtain rfl := bq Hp1
    refine cq (st' := ⟨19,upd (fun _=>.any) 4 (af (j1 : Int)),fun _=>none,upd (fun _=>none) 0 (some ⟨g_sA,9,(s1.map ah),true⟩)⟩) (Gh.le (ao aP) aD (aU aE)) ?_
    refine dZ tk rfl (ps := [(af (j1 : Int))]) ⟨_,_,rfl,rfl,rfl⟩ (PLe.q rfl) ⟨rfl,rfl⟩
   refine au (aR (bm 2 tk rfl ?_))
   exact bO () H hl1 hg1 (Gh.le (ao (ao (ao (bp (PLe.q (qa hz1 hl1)) aP)))) aD (aU aE))
  have hn1 := rMd (natGe hz1 h) hr1
  refine bF rfl ?_
  refine aQ s1 g1 hn1 Gh.d
 have H := jx hn1 Hp1
 refine al 1 tk rfl ?_
 obtain rfl := ax H
 refine cq (st' := ⟨19,upd (fun _=>.any) 4 (af (-1)),fun _=>none,upd (fun _=>none) 0 (some ⟨g_sA,9,(s1.map ah),true⟩)⟩) (Gh.le (ao aP) aD (aU aE)) ?_
 refine dZ tk rfl (ps := [(af (-1))]) ⟨_,_,rfl,rfl,rfl⟩ (PLe.q rfl) ⟨rfl,rfl⟩
def cm (y : LCol) (c0 : LCol) : Bool :=
 (y.name == c0.name)
theorem ni (y : LCol) (c0 : LCol) :
  ba Tryz.prog 171 [(.agg (bg y)),(.ptr (bg c0))] (aG (cm y c0)) := by
 obtain ⟨r,H⟩ : ∃ r,cm y c0 = r := ⟨_,rfl⟩
 rw [H]
 unfold cm at H
 refine PH.ay Tryz.func171 Tryz.ntmps171 ?_
 refine ab (aa (aS ?_))
 refine ak tk rfl (ac (al 6 tk rfl ?_))
 exact dP tk H rfl
def eC (sA : List (List UInt8)) (f : (List UInt8) → Option (Bool)) : Option (Int) :=
 ae (aM (σ := Unit) (ρ := (Int)) (fun (j1 : Nat) (x1 : List UInt8) (_ : Unit) =>
  ae (f x1) fun x16 =>
  cond x16
   (some (.ret (j1 : Int)))
   (some (.next ()))) 0 sA ()) fun fl1=>fl1.thenR fun (_ : Unit) =>
 some (-1)
theorem kP {g_f : FuncId} {caps_f : List PV} (sA : List (List UInt8)) (f : (List UInt8) → Option (Bool)) (hg_f : ∀ (vs : Array Value) (w : World),(callFunc g_f vs).run Tryz.prog w = .ok (.enter g_f vs) w) (hp_f : ∀ a0 r,f a0 = some r → ba Tryz.prog g_f ((.str a0) :: caps_f) (aG r)) (r : Int) (H : eC sA f = some r) :
  ba Tryz.prog 76 [(.list 9 (sA.map ah)),(.fn g_f caps_f)] (af r) := by
 unfold eC at H
 refine PH.ay Tryz.func76 Tryz.ntmps76 ?_
 refine al 1 tk rfl (ab (ab (aa (ak tk rfl (aK tk (zl _) ?_)))))
 refine ak tk rfl (ac ?_)
 refine gY tk 8 7 0 (fun s1 g1=>upd (fun _=>.any) 1 (.fn g_f caps_f)) nB nO () H (fun fl1 Hp1 j1 s1 g1 hz1 hl1 x1 fb1 hx1 H hg1=>?_) (fun s1 g1 H=>?_)
 ·refine ab (az (al 2 tk rfl (ab (aa (ag 3 tk rfl ?_)))))
  refine bn tk (zn j1) (bC (fun _=>rfl) hx1) ?_
  refine ak tk rfl ?_
  obtain ⟨x16,h16,H⟩ := am H
  refine aq hg_f (dS.r) (hp_f _ _ h16) ?_
  refine ac ?_
  refine aL rfl H (fun H=>?_) (fun H=>?_)
  ·refine al 2 tk rfl ?_
   obtain rfl := ax H
   have e1 : fl1 = .ret _ := hg1
   subst e1
   obtain rfl := bq Hp1
   refine bQ tk rfl (ps := [(af (j1 : Int))]) ⟨_,_,rfl,rfl,rfl⟩ (PLe.q rfl)
  refine au (aR (bm 2 tk rfl ?_))
  exact bO () H hl1 hg1
 refine al 1 tk rfl ?_
 exact bB tk H rfl
def dv (sA : List (List UInt8)) (f : (List UInt8) → Option (Bool)) : Option (Int × (List (List UInt8))) :=
 ae (mF (sA.length : Int)) fun (n1 : Nat) =>
 ae (aM (σ := List (List UInt8)) (ρ := (Int × (List (List UInt8)))) (fun (j1 : Nat) (_ : Nat) (s1 : List (List UInt8)) =>
  ae (aC s1 (j1 : Int)) fun (x14 : List UInt8) =>
  ae (f x14) fun x16 =>
  cond x16
   (some (.ret ((j1 : Int),s1)))
   (some (.next s1))) 0 (List.range n1) sA) fun fl1=>fl1.thenR fun (s1 : List (List UInt8)) =>
 some ((-1),s1)
theorem ku (g_sA : OwnRef) {g_f : FuncId} {caps_f : List PV} (sA : List (List UInt8)) (f : (List UInt8) → Option (Bool)) (hg_f : ∀ (vs : Array Value) (w : World),(callFunc g_f vs).run Tryz.prog w = .ok (.enter g_f vs) w) (hp_f : ∀ a0 r,f a0 = some r → ba Tryz.prog g_f ((.str a0) :: caps_f) (aG r)) (r : Int × (List (List UInt8))) (H : dv sA f = some r) :
  PH Tryz.prog 76 [(.own 0 g_sA (sA.map ah).length),(.fn g_f caps_f)] ⟨fun _=>none,upd (fun _=>none) 0 (some ⟨g_sA,9,(sA.map ah),true⟩)⟩ (fun u H=>u = (af r.1) ∧ H = ⟨fun _=>none,upd (fun _=>none) 0 (some ⟨g_sA,9,(r.2.map ah),true⟩)⟩) := by
 unfold dv at H
 refine PH.ay Tryz.func76 Tryz.ntmps76 ?_
 refine al 1 tk rfl (ab (ab (aa (ak tk rfl (io tk (zl _) ?_)))))
 refine ak tk rfl (ac ?_)
 obtain ⟨n1,hs1,H⟩ := am H
 have hz1 := oI hs1
 obtain ⟨fl1,H1,Hp1⟩ := am H
 refine dU (τ := List (List UInt8)) (γ := Unit) (fun s1 g1=>⟨19,upd (fun _=>.any) 0 (.own 0 g_sA (s1.map ah).length),fun _=>none,upd (fun _=>none) 0 (some ⟨g_sA,9,(s1.map ah),true⟩)⟩) (fun t=>fl1 = .next t) ?_ (fun s1 g1 hn1=>?_)
 ·refine az ?_
  refine km (fun j1 s1 g1=>⟨19,upd (upd (upd (upd (fun _=>.any) 8 (af (j1 : Int))) 7 (af (sA.length : Int))) 1 (.fn g_f caps_f)) 0 (.own 0 g_sA (s1.map ah).length),fun _=>none,upd (fun _=>none) 0 (some ⟨g_sA,9,(s1.map ah),true⟩)⟩) () H1 Gh.d (fun j1 s1 g1 hj1 hr1=>?_)
  refine al 1 tk rfl (ab ?_)
  refine du rfl (fun h=>?_) (fun h=>?_)
  ·have hl1 := natLt hz1 h
   obtain ⟨x1,fb1,hx1,H,hg1⟩ := rMc hl1 hr1
   obtain rfl := natX hx1
   refine au (ab (az (al 2 tk rfl (ab (aa (ag 3 tk rfl ?_))))))
   obtain ⟨x14,k14,H⟩ := aT H
   refine jF (tag := 0) rfl (fun ho0=>?_)
   refine jw tk ⟨k14.1,(aV k14.2)⟩ (bd ho0 k14.2) ?_
   refine nS tk rfl rfl rfl rfl rfl rfl rfl (aJ (fun _=>rfl) k14.2) rfl rfl ?_
   obtain ⟨x16,h16,H⟩ := am H
   refine aq hg_f (dS.r) (hp_f _ _ h16) ?_
   refine ac ?_
   refine aL rfl H (fun H=>?_) (fun H=>?_)
   ·refine al 2 tk rfl ?_
    obtain rfl := ax H
    have e1 : fl1 = .ret _ := hg1
    subst e1
    obtain rfl := bq Hp1
    refine cq (st' := ⟨19,upd (fun _=>.any) 4 (af (j1 : Int)),fun _=>none,upd (fun _=>none) 0 (some ⟨g_sA,9,(s1.map ah),true⟩)⟩) (Gh.le (ao aP) aD (aU aE)) ?_
    refine dZ tk rfl (ps := [(af (j1 : Int))]) ⟨_,_,rfl,rfl,rfl⟩ (PLe.q rfl) ⟨rfl,rfl⟩
   refine au (aR (bm 2 tk rfl ?_))
   exact bO () H hl1 hg1 (Gh.le (ao (ao (ao (bp (PLe.q (qa hz1 hl1)) aP)))) aD (aU aE))
  have hn1 := rMd (natGe hz1 h) hr1
  refine bF rfl ?_
  refine aQ s1 g1 hn1 Gh.d
 have H := jx hn1 Hp1
 refine al 1 tk rfl ?_
 obtain rfl := ax H
 refine cq (st' := ⟨19,upd (fun _=>.any) 4 (af (-1)),fun _=>none,upd (fun _=>none) 0 (some ⟨g_sA,9,(s1.map ah),true⟩)⟩) (Gh.le (ao aP) aD (aU aE)) ?_
 refine dZ tk rfl (ps := [(af (-1))]) ⟨_,_,rfl,rfl,rfl⟩ (PLe.q rfl) ⟨rfl,rfl⟩
theorem pH {m : Nat} (xs : List (List UInt8)) : eY Tryz.prog 72 [.list 9 (xs.map ah)] (kn m 9 (xs.map ah)) := by
 refine PH.ay Tryz.func72 Tryz.ntmps72 ?_
 refine iB tk 0 rfl rfl (fun hz hb=>?_)
 refine al 1 tk rfl (ab (ab (aa (ak tk rfl ?_))))
 refine pL tk rfl rfl rfl rfl rfl rfl rfl (fun b hn=>?_)
 refine ac ?_
 refine du rfl (fun h=>?_) (fun h=>?_)
 ·refine al 1 tk rfl (lM tk 2 902 (e := 9) rfl rfl ?_)
  refine jH tk (hn h).symm
 ·refine au (ab (aa ?_))
  refine oS (rows' := []) tk rfl rfl rfl rfl rfl rfl rfl rfl rfl (ie.refl _) fun g=>?_
  refine ak tk rfl ?_
  refine dq (rows2' := xs.map ah) (rows' := xs.map ah) tk rfl rfl rfl rfl rfl rfl rfl rfl rfl rfl rfl rfl rfl (eV.refl _) (by simpa using hb) (by simpa using hz) rfl fun g'=>?_
  refine ak tk rfl (ac ?_)
  refine jH tk rfl
theorem clone_73 {m : Nat} (xs : List Bool) : eY Tryz.prog 73 [.list 4 (xs.map dl)] (kn m 4 (xs.map dl)) := by
 refine PH.ay Tryz.func73 Tryz.ntmps73 ?_
 refine iB tk 0 rfl rfl (fun hz hb=>?_)
 refine al 1 tk rfl (ab (ab (aa (ak tk rfl ?_))))
 refine pL tk rfl rfl rfl rfl rfl rfl rfl (fun b hn=>?_)
 refine ac ?_
 refine du rfl (fun h=>?_) (fun h=>?_)
 ·refine al 1 tk rfl (lM tk 2 902 (e := 4) rfl rfl ?_)
  refine jH tk (hn h).symm
 ·refine au (ab (aa ?_))
  refine oS (rows' := []) tk rfl rfl rfl rfl rfl rfl rfl rfl rfl (ie.refl _) fun g=>?_
  refine ak tk rfl ?_
  refine dq (rows2' := xs.map dl) (rows' := xs.map dl) tk rfl rfl rfl rfl rfl rfl rfl rfl rfl rfl rfl rfl rfl (eV.refl _) (by simpa using hb) (by simpa using hz) rfl fun g'=>?_
  refine ak tk rfl (ac ?_)
  refine jH tk rfl
def jd (x : Int) : Option (Int) :=
 be (
  cond (decide (x ≥ (4294967296 : Int)))
   (((Int.fdiv x (2 ^ 32)),32))
   ((x,0))) fun (t1 : Int × Int) =>
 be (
  cond (decide (t1.1 ≥ (65536 : Int)))
   (((Int.fdiv t1.1 (2 ^ 16)),(IntKind.i64.wrap (t1.2 + (16 : Int)))))
   ((t1.1,t1.2))) fun (t2 : Int × Int) =>
 be (
  cond (decide (t2.1 ≥ (256 : Int)))
   (((Int.fdiv t2.1 (2 ^ 8)),(IntKind.i64.wrap (t2.2 + (8 : Int)))))
   ((t2.1,t2.2))) fun (t3 : Int × Int) =>
 ae (aC ([0,1,2,2,3,3,3,3,4,4,4,4,4,4,4,4,5,5,5,5,5,5,5,5,5,5,5,5,5,5,5,5,6,6,6,6,6,6,6,6,6,6,6,6,6,6,6,6,6,6,6,6,6,6,6,6,6,6,6,6,6,6,6,6,7,7,7,7,7,7,7,7,7,7,7,7,7,7,7,7,7,7,7,7,7,7,7,7,7,7,7,7,7,7,7,7,7,7,7,7,7,7,7,7,7,7,7,7,7,7,7,7,7,7,7,7,7,7,7,7,7,7,7,7,7,7,7,7,8,8,8,8,8,8,8,8,8,8,8,8,8,8,8,8,8,8,8,8,8,8,8,8,8,8,8,8,8,8,8,8,8,8,8,8,8,8,8,8,8,8,8,8,8,8,8,8,8,8,8,8,8,8,8,8,8,8,8,8,8,8,8,8,8,8,8,8,8,8,8,8,8,8,8,8,8,8,8,8,8,8,8,8,8,8,8,8,8,8,8,8,8,8,8,8,8,8,8,8,8,8,8,8,8,8,8,8,8,8,8,8,8,8,8,8,8,8,8,8,8,8,8,8,8,8,8,8] : List UInt8) ((u8of t3.1).toNat : Int)) fun (x22 : UInt8) =>
 some (IntKind.i64.wrap (t3.2 + (IntKind.i64.wrap (x22.toNat : Int))))
theorem rh (x : Int) (r : Int) (H : jd x = some r) :
  ba Tryz.prog 191 [(.val (.int .u64 x))] (af r) := by
 unfold jd at H
 refine PH.ay Tryz.func191 Tryz.ntmps191 ?_
 refine al 1 tk rfl (ab (al 2 tk rfl ?_))
 refine ff (γ := Unit) (fun t1 g1=>⟨25,upd (upd (fun _=>.any) 2 (af t1.2)) 0 (.val (.int .u64 t1.1)),fun _=>none,fun _=>none⟩) H (fun _ H=>?_) (fun t1 g1 H=>?_)
 ·refine aL rfl H (fun H=>?_) (fun H=>?_)
  ·refine ab (aa (ak tk rfl (sd (m := 32) rfl rfl rfl rfl (by decide) rfl rfl (ak tk rfl (ac (bm 1 tk rfl ?_))))))
   refine aQ _ () H Gh.d
  refine au ?_
  refine aQ _ () H Gh.d
 refine ab (al 2 tk rfl ?_)
 refine ff (γ := Unit) (fun t2 g2=>⟨25,upd (upd (fun _=>.any) 2 (af t2.2)) 0 (.val (.int .u64 t2.1)),fun _=>none,fun _=>none⟩) H (fun _ H=>?_) (fun t2 g2 H=>?_)
 ·refine aL rfl H (fun H=>?_) (fun H=>?_)
  ·refine ab (aa (ak tk rfl (sd (m := 16) rfl rfl rfl rfl (by decide) rfl rfl (ak tk rfl (ac (bm 3 tk rfl ?_))))))
   refine aQ _ () H Gh.d
  refine au ?_
  refine aQ _ () H Gh.d
 refine ab (al 2 tk rfl ?_)
 refine ff (γ := Unit) (fun t3 g3=>⟨25,upd (upd (fun _=>.any) 2 (af t3.2)) 0 (.val (.int .u64 t3.1)),fun _=>none,fun _=>none⟩) H (fun _ H=>?_) (fun t3 g3 H=>?_)
 ·refine aL rfl H (fun H=>?_) (fun H=>?_)
  ·refine ab (aa (ak tk rfl (sd (m := 8) rfl rfl rfl rfl (by decide) rfl rfl (ak tk rfl (ac (bm 3 tk rfl ?_))))))
   refine aQ _ () H Gh.d
  refine au ?_
  refine aQ _ () H Gh.d
 refine ab (aa (ag 2 tk rfl (Ao.toU8 tk rfl rfl rfl rfl rfl rfl rfl ?_)))
 obtain ⟨x22,k22,H⟩ := aT H
 refine rc tk rfl rfl rfl rfl rfl rfl k22.1 k22.2 rfl (ag 3 tk rfl (ac ?_))
 exact bB tk H rfl
def fV (x : List UInt8) : Bool :=
 (!(x == x))
theorem mG (x : List UInt8) :
  ba Tryz.prog 242 [(.str x)] (aG (fV x)) := by
 obtain ⟨r,H⟩ : ∃ r,fV x = r := ⟨_,rfl⟩
 rw [H]
 unfold fV at H
 refine PH.ay Tryz.func242 Tryz.ntmps242 ?_
 refine al 1 tk rfl (al 4 tk rfl ?_)
 exact dP tk H rfl
def gZ (rA : Int) : Option (Int × Int) :=
 ae (shlI .u64 rA (13 : Int)) fun (x9 : Int) =>
 ae (shlI .u64 (ip .u64 (ip .u64 rA x9) (Int.fdiv (ip .u64 rA x9) (2 ^ 7))) (17 : Int)) fun (x27 : Int) =>
 some ((ip .u64 (ip .u64 (ip .u64 rA x9) (Int.fdiv (ip .u64 rA x9) (2 ^ 7))) x27),(ip .u64 (ip .u64 (ip .u64 rA x9) (Int.fdiv (ip .u64 rA x9) (2 ^ 7))) x27))
theorem oO (b_rA : Nat) (rA : Int) (r : Int × Int) (H : gZ rA = some r) :
  PH Tryz.prog 239 [(.box 1500 b_rA 0)] ⟨upd (fun _=>none) 1500 (some ⟨b_rA,[(.val (.int .u64 rA))]⟩),fun _=>none⟩ (fun u H=>u = (.val (.int .u64 r.1)) ∧ H = ⟨upd (fun _=>none) 1500 (some ⟨b_rA,[(.val (.int .u64 r.2))]⟩),fun _=>none⟩) := by
 unfold gZ at H
 refine PH.ay Tryz.func239 Tryz.ntmps239 ?_
 refine al 1 tk rfl (ab (bj tk mok ⟨true,false,[]⟩ [0,1,2,3,4,5,6,7,8,9] rfl (by decide +kernel) rfl (aI 2 rfl (bh ?_))))
 refine aI 2 rfl (bh ?_)
 obtain ⟨x9,h9,H⟩ := am H
 refine sK rfl rfl rfl rfl rfl h9 rfl (sg rfl rfl rfl rfl rfl rfl (bN rfl (fE rfl rfl rfl rfl rfl rfl rfl rfl rfl rfl rfl rfl (aY (ab (bj tk mok ⟨true,false,[]⟩ [0,1,2,3,4,5,6,7,8,9] rfl (by decide +kernel) rfl (aI 2 rfl (bh ?_))))))))
 refine aI 2 rfl (bh ?_)
 refine Do.shr (m := 7) rfl rfl rfl rfl rfl (by decide) rfl rfl (sg rfl rfl rfl rfl rfl rfl (bN rfl (fE rfl rfl rfl rfl rfl rfl rfl rfl rfl rfl rfl rfl (aY (ab (bj tk mok ⟨true,false,[]⟩ [0,1,2,3,4,5,6,7,8,9] rfl (by decide +kernel) rfl (aI 2 rfl (bh ?_))))))))
 refine aI 2 rfl (bh ?_)
 obtain ⟨x27,h27,H⟩ := am H
 refine sK rfl rfl rfl rfl rfl h27 rfl (sg rfl rfl rfl rfl rfl rfl (bN rfl (fE rfl rfl rfl rfl rfl rfl rfl rfl rfl rfl rfl rfl (aY (ab (aa (ag 2 tk rfl (aB tk ?_))))))))
 refine ak tk rfl (ac ?_)
 obtain rfl := ax H
 refine cq (st' := ⟨33,upd (fun _=>.any) 2 (.val (.int .u64 (ip .u64 (ip .u64 (ip .u64 rA x9) (Int.fdiv (ip .u64 rA x9) (2 ^ 7))) x27))),upd (fun _=>none) 1500 (some ⟨b_rA,[(.val (.int .u64 (ip .u64 (ip .u64 (ip .u64 rA x9) (Int.fdiv (ip .u64 rA x9) (2 ^ 7))) x27)))]⟩),fun _=>none⟩) (Gh.le (ao aP) (aW rfl (dS.r) aD) aE) ?_
 refine dZ tk rfl (ps := [(.val (.int .u64 (ip .u64 (ip .u64 (ip .u64 rA x9) (Int.fdiv (ip .u64 rA x9) (2 ^ 7))) x27)))]) ⟨_,_,rfl,rfl,rfl⟩ (PLe.q rfl) ⟨rfl,rfl⟩
def dp (data : List (List UInt8)) (a : Int) (b : Int) : Option ((List (List UInt8))) :=
 ae (whileM (σ := List (List UInt8) × Int × Int) (ρ := Empty) (fun (s1 : List (List UInt8) × Int × Int) =>
  cond (decide (s1.2.1 < s1.2.2))
   (ae (aC s1.1 s1.2.2) fun (x20 : List UInt8) =>
   ae (aC s1.1 s1.2.1) fun (x24 : List UInt8) =>
   ae (aC s1.1 s1.2.1) fun (_ : List UInt8) =>
   be (s1.1.set s1.2.1.toNat x20) fun (y6 : List (List UInt8)) =>
   ae (aC y6 s1.2.2) fun (_ : List UInt8) =>
   be (y6.set s1.2.2.toNat x24) fun (y7 : List (List UInt8)) =>
   some (.next (y7,(IntKind.i64.wrap (s1.2.1 + (1 : Int))),(IntKind.i64.wrap (s1.2.2 - (1 : Int))))))
   (some (.brk (s1.1,s1.2.1,s1.2.2)))) (data,a,(IntKind.i64.wrap (b - (1 : Int))))) fun fl1=>fl1.thenP fun (s1 : List (List UInt8) × Int × Int) =>
 some s1.1
theorem kB (g_data : OwnRef) (data : List (List UInt8)) (a : Int) (b : Int) (r : (List (List UInt8))) (H : dp data a b = some r) :
  PH Tryz.prog 185 [(.own 0 g_data (data.map ah).length),(af a),(af b)] ⟨fun _=>none,upd (fun _=>none) 0 (some ⟨g_data,9,(data.map ah),true⟩)⟩ (fun u H=>u = (.tup []) ∧ H = ⟨fun _=>none,upd (fun _=>none) 0 (some ⟨g_data,9,(r.map ah),true⟩)⟩) := by
 unfold dp at H
 refine PH.ay Tryz.func185 Tryz.ntmps185 ?_
 refine al 2 tk rfl (al 3 tk rfl ?_)
 obtain ⟨fl1,H1,Hp1⟩ := am H
 refine dU (τ := List (List UInt8) × Int × Int) (γ := Unit) (fun s1 g1=>⟨32,upd (fun _=>.any) 0 (.own 0 g_data (s1.1.map ah).length),fun _=>none,upd (fun _=>none) 0 (some ⟨g_data,9,(s1.1.map ah),true⟩)⟩) (fun t=>fl1 = .next t) ?_ (fun s1 g1 hn1=>?_)
 ·refine az ?_
  refine dA (fun s1 g1=>⟨32,upd (upd (upd (fun _=>.any) 7 (af s1.2.2)) 6 (af s1.2.1)) 0 (.own 0 g_data (s1.1.map ah).length),fun _=>none,upd (fun _=>none) 0 (some ⟨g_data,9,(s1.1.map ah),true⟩)⟩) () H1 Gh.d (fun m1 s1 g1 hr1=>?_)
  obtain ⟨fb1,H,hg1⟩ := ct hr1
  refine ab (al 3 tk rfl ?_)
  refine aL rfl H (fun H=>?_) (fun H=>?_)
  ·refine au (az (ab ?_))
   refine cA (tag := 0) rfl (fun ho0=>?_)
   refine bj tk mok ⟨false,true,[]⟩ [0,1,2,3,4,5,6,7,8,9,10,11,12,13,14,15] rfl (by decide +kernel) rfl (aI 6 rfl ?_)
   obtain ⟨x20,k20,H⟩ := aT H
   refine aH tk ⟨k20.1,(aV k20.2)⟩ (bd ho0 k20.2) ?_
   refine bc tk rfl rfl rfl rfl rfl rfl rfl rfl rfl (aJ (fun _=>rfl) k20.2) rfl rfl ?_
   refine aI 2 rfl ?_
   obtain ⟨x24,k24,H⟩ := aT H
   refine aH tk ⟨k24.1,(aV k24.2)⟩ (bd ho0 k24.2) ?_
   refine bc tk rfl rfl rfl rfl rfl rfl rfl rfl rfl (aJ (fun _=>rfl) k24.2) rfl rfl ?_
   obtain ⟨x26,k26,H⟩ := aT H
   refine aH tk ⟨k26.1,(aV k26.2)⟩ (bd ho0 k26.2) ?_
   obtain ⟨y6,hy6,H⟩ := bR H
   refine bY tk rfl rfl rfl rfl rfl rfl rfl rfl rfl (by rw [zl]; exact (zg.1 k26.2).1) (PLe.refl _ _) rfl rfl rfl rfl (by decide) (bD (fun _=>rfl) k26.2 rfl hy6) ?_
   obtain ⟨x27,k27,H⟩ := aT H
   refine aH tk ⟨k27.1,(gw (bf (f := ah) hy6) k27.2)⟩ (gS ho0 (bf (f := ah) hy6) k27.2) ?_
   obtain ⟨y7,hy7,H⟩ := bR H
   refine bY tk rfl rfl rfl rfl rfl rfl rfl rfl rfl (by rw [zl]; exact (zg.1 k27.2).1) (PLe.refl _ _) rfl rfl rfl rfl (by decide) (bD (fun _=>rfl) k27.2 rfl hy7) ?_
   refine aY (al 3 tk rfl (bm 3 tk rfl (aR ?_)))
   obtain rfl := ax H
   refine cz (y7,(IntKind.i64.wrap (s1.2.1 + (1 : Int))),(IntKind.i64.wrap (s1.2.2 - (1 : Int)))) () hg1 (Gh.le (bp (PLe.of2 (mH.of_eq (congrArg (PV.own 0 g_data) ((bf (f := ah) hy6).trans (bf (f := ah) hy7))))) (ao (ao aP))) aD (aU aE))
  refine bF rfl ?_
  obtain rfl := ax H
  refine aQ (s1.1,s1.2.1,s1.2.2) () hg1 Gh.d
 have H := cw hn1 Hp1
 obtain rfl := ax H
 refine cq (st' := ⟨32,fun _=>.any,fun _=>none,upd (fun _=>none) 0 (some ⟨g_data,9,(s1.1.map ah),true⟩)⟩) (Gh.le aP aD (aU aE)) ?_
 refine lw rfl (PLe.q rfl) ⟨rfl,rfl⟩
def cZ (sA : List (List UInt8)) : Option (List (List UInt8)) :=
 cond (decide ((sA.length : Int) < (2 : Int)))
  (some sA)
  (ae (whileM (σ := List (List UInt8) × Int) (ρ := (List (List UInt8))) (fun (s1 : List (List UInt8) × Int) =>
   cond (decide (s1.2 < (s1.1.length : Int)))
    (ae (aC s1.1 s1.2) fun (x18 : List UInt8) =>
    ae (aC s1.1 (IntKind.i64.wrap (s1.2 - (1 : Int)))) fun (x23 : List UInt8) =>
    cond (x18 == x23)
     (ae (cutI s1.1 s1.2) fun (_y16 : List (List UInt8)) =>
     ae (whileM (σ := List (List UInt8) × Int × Int) (ρ := Empty) (fun (s17 : List (List UInt8) × Int × Int) =>
      cond (decide (s17.2.2 < (((s1.1.map ah).length - s1.2.toNat : Nat) : Int)))
       (ae (getS s17.1 s1.2.toNat ((s1.1.map ah).length) s17.2.2) fun (x37 : List UInt8) =>
       ae (getS s17.1 s1.2.toNat ((s1.1.map ah).length) (IntKind.i64.wrap (s17.2.2 - (1 : Int)))) fun (x42 : List UInt8) =>
       cond (!(x37 == x42))
        (ae (getS s17.1 s1.2.toNat ((s1.1.map ah).length) s17.2.2) fun (x49 : List UInt8) =>
        ae (aC s17.1 s17.2.1) fun (_ : List UInt8) =>
        be (s17.1.set s17.2.1.toNat x49) fun (y20 : List (List UInt8)) =>
        some (.next (y20,(IntKind.i64.wrap (s17.2.1 + (1 : Int))),(IntKind.i64.wrap (s17.2.2 + (1 : Int))))))
        (some (.next (s17.1,s17.2.1,(IntKind.i64.wrap (s17.2.2 + (1 : Int)))))))
       (some (.brk (s17.1,s17.2.1,s17.2.2)))) (s1.1,s1.2,1)) fun fl17=>fl17.thenP fun (s17 : List (List UInt8) × Int × Int) =>
     ae (cutI s17.1 s17.2.1) fun (y21 : List (List UInt8)) =>
     ae (cutI y21 s17.2.1) fun (y22 : List (List UInt8)) =>
     some (.ret y22))
     (some (.next (s1.1,(IntKind.i64.wrap (s1.2 + (1 : Int)))))))
    (some (.brk (s1.1,s1.2)))) (sA,1)) fun fl1=>fl1.thenR fun (s1 : List (List UInt8) × Int) =>
  some s1.1)
theorem ll (g_sA : OwnRef) (sA : List (List UInt8)) (r : List (List UInt8)) (H : cZ sA = some r) :
  PH Tryz.prog 86 [(.own 0 g_sA (sA.map ah).length)] ⟨fun _=>none,upd (fun _=>none) 0 (some ⟨g_sA,9,(sA.map ah),true⟩)⟩ (fun u H=>u = .own 0 g_sA (r.map ah).length ∧ H = ⟨fun _=>none,upd (fun _=>none) 0 (some ⟨g_sA,9,(r.map ah),true⟩)⟩) := by
 unfold cZ at H
 refine PH.ay Tryz.func86 Tryz.ntmps86 ?_
 refine al 1 tk rfl (ab (ab (aa (ak tk rfl (io tk (zl _) ?_)))))
 refine ak tk rfl (ac ?_)
 refine aL rfl H (fun H=>?_) (fun H=>?_)
 ·refine al 2 tk rfl ?_
  obtain rfl := ax H
  refine cq (st' := ⟨61,upd (fun _=>.any) 2 (.own 0 g_sA (sA.map ah).length),fun _=>none,upd (fun _=>none) 0 (some ⟨g_sA,9,(sA.map ah),true⟩)⟩) (Gh.le (ao aP) aD (aU aE)) ?_
  refine dZ tk rfl (ps := [(.own 0 g_sA (sA.map ah).length)]) ⟨_,_,rfl,rfl,rfl⟩ (PLe.of2 (mH.own rfl)) ⟨rfl,rfl⟩
 refine au (ab (al 1 tk rfl ?_))
 obtain ⟨fl1,H1,Hp1⟩ := am H
 refine dU (τ := List (List UInt8) × Int) (γ := Unit) (fun s1 g1=>⟨61,upd (fun _=>.any) 0 (.own 0 g_sA (s1.1.map ah).length),fun _=>none,upd (fun _=>none) 0 (some ⟨g_sA,9,(s1.1.map ah),true⟩)⟩) (fun t=>fl1 = .next t) ?_ (fun s1 g1 hn1=>?_)
 ·refine az ?_
  refine dA (fun s1 g1=>⟨61,upd (upd (fun _=>.any) 3 (af s1.2)) 0 (.own 0 g_sA (s1.1.map ah).length),fun _=>none,upd (fun _=>none) 0 (some ⟨g_sA,9,(s1.1.map ah),true⟩)⟩) () H1 Gh.d (fun m1 s1 g1 hr1=>?_)
  obtain ⟨fb1,H,hg1⟩ := ct hr1
  refine ab (ab (aa (ag 2 tk rfl (io tk (zl _) ?_))))
  refine ak tk rfl (ac ?_)
  refine aL rfl H (fun H=>?_) (fun H=>?_)
  ·refine au (ab (az (ab ?_)))
   refine cA (tag := 0) rfl (fun ho0=>?_)
   refine bj tk mok ⟨false,true,[]⟩ [0,1,2,3,4,5,6,7,8,9] rfl (by decide +kernel) rfl (aI 2 rfl ?_)
   obtain ⟨x18,k18,H⟩ := aT H
   refine aH tk ⟨k18.1,(aV k18.2)⟩ (bd ho0 k18.2) ?_
   refine bc tk rfl rfl rfl rfl rfl rfl rfl rfl rfl (aJ (fun _=>rfl) k18.2) rfl rfl ?_
   refine aI 3 rfl ?_
   obtain ⟨x23,k23,H⟩ := aT H
   refine aH tk ⟨k23.1,(aV k23.2)⟩ (bd ho0 k23.2) ?_
   refine bc tk rfl rfl rfl rfl rfl rfl rfl rfl rfl (aJ (fun _=>rfl) k23.2) rfl rfl ?_
   refine bN rfl (aY ?_)
   refine aL rfl H (fun H=>?_) (fun H=>?_)
   ·refine ab (aa (ag 2 tk rfl ?_))
    obtain ⟨y16,hy16,H⟩ := am H
    have ky16 := mE hy16
    refine rV (tag := 0) rfl (fun hcy16=>?_)
    have hny16 : (s1.1.map ah).length = (List.map ah s1.1).length := rfl
    have hmy16 := ky16.2.1
    rw [← zl (f := ah),← hny16] at hmy16
    rw [← hny16] at hcy16
    refine rT (l := s1.2.toNat) (h := (s1.1.map ah).length) (m := g_sA.cap) tk rfl rfl rfl rfl rfl rfl ⟨_,_,rfl,(Int.toNat_of_nonneg ky16.1).symm⟩ rfl rfl (by decide) hmy16 hcy16 (Nat.le_refl _) rfl (ak tk rfl (ac (ab (al 1 tk rfl ?_))))
    obtain ⟨fl17,H17,Hp17⟩ := am H
    refine dU (τ := List (List UInt8) × Int × Int) (γ := Unit) (fun s17 g17=>⟨61,upd (upd (fun _=>.any) 3 (af s17.2.1)) 0 (.own 0 g_sA (s17.1.map ah).length),fun _=>none,upd (fun _=>none) 0 (some ⟨g_sA,9,(s17.1.map ah),true⟩)⟩) (fun t=>fl17 = .next t) ?_ (fun s17 g17 hn17=>?_)
    ·refine az ?_
     refine dA (fun s17 g17=>⟨61,upd (upd (upd (upd (fun _=>.any) 5 (af s17.2.2)) 4 (.val (OwnRef.sub g_sA 1 s1.2.toNat ((s1.1.map ah).length) g_sA.cap))) 3 (af s17.2.1)) 0 (.own 0 g_sA (s17.1.map ah).length),fun _=>none,upd (fun _=>none) 0 (some ⟨g_sA,9,(s17.1.map ah),true⟩)⟩) () H17 Gh.d (fun m17 s17 g17 hr17=>?_)
     obtain ⟨fb17,H,hg17⟩ := ct hr17
     refine ab (ab (aa (ag 2 tk rfl (Ao.lenV tk rfl rfl rfl rfl rfl rfl (ak tk rfl (ac ?_))))))
     refine aL rfl H (fun H=>?_) (fun H=>?_)
     ·refine au (ab (az (ab ?_)))
      refine cA (tag := 0) rfl (fun ho0=>?_)
      refine bj tk mok ⟨false,true,[]⟩ [0,1,2,3,4,5,6,7,8,9] rfl (by decide +kernel) rfl (aI 2 rfl ?_)
      obtain ⟨x37,k37,H⟩ := getSE H
      refine sn tk rfl rfl rfl rfl rfl rfl 0 rfl rfl rfl k37.1 hcy16 (bd ho0 k37.2) rfl ?_
      refine bc tk rfl rfl rfl rfl rfl rfl rfl rfl rfl (rowsGetN (fun _=>rfl) k37.2) rfl rfl ?_
      refine aI 3 rfl ?_
      obtain ⟨x42,k42,H⟩ := getSE H
      refine sn tk rfl rfl rfl rfl rfl rfl 0 rfl rfl rfl k42.1 hcy16 (bd ho0 k42.2) rfl ?_
      refine bc tk rfl rfl rfl rfl rfl rfl rfl rfl rfl (rowsGetN (fun _=>rfl) k42.2) rfl rfl ?_
      refine bN rfl (aY ?_)
      refine aL rfl H (fun H=>?_) (fun H=>?_)
      ·refine ab (aa (ag 4 tk rfl ?_))
       obtain ⟨x49,k49,H⟩ := getSE H
       refine jF (tag := 0) rfl (fun ho0=>?_)
       refine Ao.idxV tk rfl rfl rfl rfl rfl 0 rfl rfl rfl k49.1 hcy16 (bd ho0 k49.2) rfl ?_
       refine nS tk rfl rfl rfl rfl rfl rfl rfl (rowsGetN (fun _=>rfl) k49.2) rfl rfl ?_
       obtain ⟨x51,k51,H⟩ := aT H
       refine jF (tag := 0) rfl (fun ho0=>?_)
       refine jw tk ⟨k51.1,(aV k51.2)⟩ (bd ho0 k51.2) ?_
       obtain ⟨y20,hy20,H⟩ := bR H
       refine lg tk rfl rfl rfl rfl rfl rfl rfl rfl (by rw [zl]; exact (zg.1 k51.2).1) (PLe.refl _ _) rfl rfl rfl rfl (by decide) (bD (fun _=>rfl) k51.2 rfl hy20) ?_
       refine ac (bm 3 tk rfl (aR (bm 3 tk rfl ?_)))
       obtain rfl := ax H
       refine cz (y20,(IntKind.i64.wrap (s17.2.1 + (1 : Int))),(IntKind.i64.wrap (s17.2.2 + (1 : Int)))) () hg17 (Gh.le (bp (PLe.of2 (mH.of_eq (congrArg (PV.own 0 g_sA) (bf (f := ah) hy20)))) (ao (ao (ao aP)))) aD (aU aE))
      refine au (aR (bm 3 tk rfl ?_))
      obtain rfl := ax H
      refine cz (s17.1,s17.2.1,(IntKind.i64.wrap (s17.2.2 + (1 : Int)))) () hg17 Gh.d
     refine bF rfl ?_
     obtain rfl := ax H
     refine aQ (s17.1,s17.2.1,s17.2.2) () hg17 Gh.d
    have H := cw hn17 Hp17
    refine ab (aa (ag 2 tk rfl ?_))
    obtain ⟨y21,hy21,H⟩ := am H
    have ky21 := mE hy21
    refine rV (tag := 0) rfl (fun hcy21=>?_)
    have hny21 : (s17.1.map ah).length = (List.map ah s17.1).length := rfl
    have hmy21 := ky21.2.1
    rw [← zl (f := ah),← hny21] at hmy21
    rw [← hny21] at hcy21
    refine rT (l := s17.2.1.toNat) (h := (s17.1.map ah).length) (m := g_sA.cap) tk rfl rfl rfl rfl rfl rfl ⟨_,_,rfl,(Int.toNat_of_nonneg ky21.1).symm⟩ rfl rfl (by decide) hmy21 hcy21 (Nat.le_refl _) rfl (cI (Gh.cutO (tag := 0) (rows' := List.map ah y21) rfl s17.2.1.toNat (by rw [← List.map_take,ky21.2.2])) ?_)
    refine rZ (tag := 0) (rows := List.map ah y21) tk rfl rfl rfl rfl rfl rfl rfl rfl rfl (p := s17.2.1.toNat) (q := (s17.1.map ah).length) (m := g_sA.cap) (by rw [zl,ky21.2.2,List.length_take]; exact Nat.min_le_left _ _) hmy21 hcy21 (Nat.le_refl _) rfl ?_
    refine ac (ab (aa (ag 2 tk rfl ?_)))
    obtain ⟨y22,hy22,H⟩ := am H
    have ky22 := mE hy22
    refine sk (rows' := List.map ah y22) tk rfl rfl rfl rfl rfl rfl rfl rfl ⟨ky22.1,by rw [zl]; exact ky22.2.1⟩ (by rw [← List.map_take,ky22.2.2]) rfl rfl ?_
    refine ak tk rfl (ac ?_)
    obtain rfl := ax H
    have e1 : fl1 = .ret _ := hg1
    subst e1
    obtain rfl := bq Hp1
    refine cq (st' := ⟨61,upd (fun _=>.any) 2 (.own 0 g_sA (y22.map ah).length),fun _=>none,upd (fun _=>none) 0 (some ⟨g_sA,9,(y22.map ah),true⟩)⟩) (Gh.le (ao aP) aD (aU aE)) ?_
    refine dZ tk rfl (ps := [(.own 0 g_sA (y22.map ah).length)]) ⟨_,_,rfl,rfl,rfl⟩ (PLe.of2 (mH.own rfl)) ⟨rfl,rfl⟩
   refine au (aR (bm 3 tk rfl ?_))
   obtain rfl := ax H
   refine cz (s1.1,(IntKind.i64.wrap (s1.2 + (1 : Int)))) () hg1 Gh.d
  refine bF rfl ?_
  obtain rfl := ax H
  refine aQ (s1.1,s1.2) () hg1 Gh.d
 have H := jx hn1 Hp1
 refine al 2 tk rfl ?_
 obtain rfl := ax H
 refine cq (st' := ⟨61,upd (fun _=>.any) 2 (.own 0 g_sA (s1.1.map ah).length),fun _=>none,upd (fun _=>none) 0 (some ⟨g_sA,9,(s1.1.map ah),true⟩)⟩) (Gh.le (ao aP) aD (aU aE)) ?_
 refine dZ tk rfl (ps := [(.own 0 g_sA (s1.1.map ah).length)]) ⟨_,_,rfl,rfl,rfl⟩ (PLe.of2 (mH.own rfl)) ⟨rfl,rfl⟩
theorem clone_83 {m : Nat} (xs : List LExpr) : eY Tryz.prog 83 [.list 91 (xs.map aF)] (kn m 91 (xs.map aF)) := by
 refine PH.ay Tryz.func83 Tryz.ntmps83 ?_
 refine iB tk 0 rfl rfl (fun hz hb=>?_)
 refine al 1 tk rfl (ab (ab (aa (ak tk rfl ?_))))
 refine pL tk rfl rfl rfl rfl rfl rfl rfl (fun b hn=>?_)
 refine ac ?_
 refine du rfl (fun h=>?_) (fun h=>?_)
 ·refine al 1 tk rfl (lM tk 2 902 (e := 91) rfl rfl ?_)
  refine jH tk (hn h).symm
 ·refine au (ab (aa ?_))
  refine oS (rows' := []) tk rfl rfl rfl rfl rfl rfl rfl rfl rfl (ie.refl _) fun g=>?_
  refine ak tk rfl ?_
  refine dq (rows2' := xs.map aF) (rows' := xs.map aF) tk rfl rfl rfl rfl rfl rfl rfl rfl rfl rfl rfl rfl rfl (eV.refl _) (by simpa using hb) (by simpa using hz) rfl fun g'=>?_
  refine ak tk rfl (ac ?_)
  refine jH tk rfl
def fK (t : LTable) (name : List UInt8) : Option (Int × Bool) :=
 ae (cB t.columns (fun a0=>some (dO a0 name))) fun x10 =>
 some ((if (0 : Int) > x10 then (0 : Int) else x10),(decide (x10 ≥ (0 : Int))))
theorem qn (t : LTable) (name : List UInt8) (r : Int × Bool) (H : fK t name = some r) :
  ba Tryz.prog 103 [(.agg (dz t)),(.str name)] (.tup [(af r.1),(aG r.2)]) := by
 unfold fK at H
 refine PH.ay Tryz.func103 Tryz.ntmps103 ?_
 refine ab (aa (aS ?_))
 refine aS ?_
 refine ag 2 tk rfl (ac (ab (aa (ag 3 tk rfl ?_))))
 obtain ⟨x10,h10,H⟩ := am H
 have s10 := fZ t.columns (fun a0=>some (dO a0 name)) Tryz.call164 (fun a0 r h=>(ax h) ▸ pp a0 name) _ h10
 refine aq Tryz.call163 (dS.r) s10 ?_
 refine ak tk rfl (ac (al 6 tk rfl ?_))
 exact bB tk H rfl
def fm (sA : LSchema) (name : List UInt8) : Option (Int × Bool) :=
 ae (cJ sA.tables (fun a0=>some (cW a0 name))) fun x10 =>
 some ((if (0 : Int) > x10 then (0 : Int) else x10),(decide (x10 ≥ (0 : Int))))
theorem kq (sA : LSchema) (name : List UInt8) (r : Int × Bool) (H : fm sA name = some r) :
  ba Tryz.prog 104 [(.agg (bK sA)),(.str name)] (.tup [(af r.1),(aG r.2)]) := by
 unfold fm at H
 refine PH.ay Tryz.func104 Tryz.ntmps104 ?_
 refine ab (aa (aS ?_))
 refine aS ?_
 refine ag 2 tk rfl (ac (ab (aa (ag 3 tk rfl ?_))))
 obtain ⟨x10,h10,H⟩ := am H
 have s10 := gD sA.tables (fun a0=>some (cW a0 name)) Tryz.call166 (fun a0 r h=>(ax h) ▸ pz a0 name) _ h10
 refine aq Tryz.call165 (dS.r) s10 ?_
 refine ak tk rfl (ac (al 6 tk rfl ?_))
 exact bB tk H rfl
def fY (a : LForeignKey) (b : LForeignKey) : Option (Bool) :=
 cond (a.table == b.table)
  (ae (fw a.columns b.columns) fun x15 =>
  cond x15
   (some (a.refTable == b.refTable))
   (some false))
  (some false)
theorem mX (a : LForeignKey) (b : LForeignKey) (r : Bool) (H : fY a b = some r) :
  ba Tryz.prog 67 [(.agg (iH a)),(.agg (iH b))] (aG r) := by
 unfold fY at H
 refine PH.ay Tryz.func67 Tryz.ntmps67 ?_
 refine ab (aa (aS ?_))
 refine aS ?_
 refine ak tk rfl (ac (ab (aa (ag 6 tk rfl ?_))))
 refine bw rfl rfl rfl H (fun H=>?_) (fun H=>?_)
 ·refine ag 4 tk rfl ?_
  obtain ⟨x15,h15,H⟩ := am H
  have s15 := ol a.columns b.columns _ h15
  refine aq Tryz.call106 (dS.r) s15 ?_
  refine ag 2 tk rfl ?_
  refine bw rfl rfl rfl H (fun H=>?_) (fun H=>?_)
  ·refine ag 7 tk rfl (ac ?_)
   exact bB tk H rfl
  refine ag 7 tk rfl (ac ?_)
  exact bB tk H rfl
 refine ag 14 tk rfl (ac ?_)
 exact bB tk H rfl
def bU (sA : List LForeignKey) (f : LForeignKey → Option (Bool)) : Option (Bool) :=
 ae (cC sA f) fun x7 =>
 some (decide (x7 ≥ (0 : Int)))
theorem iq {g_f : FuncId} {caps_f : List PV} (sA : List LForeignKey) (f : LForeignKey → Option (Bool)) (hg_f : ∀ (vs : Array Value) (w : World),(callFunc g_f vs).run Tryz.prog w = .ok (.enter g_f vs) w) (hp_f : ∀ a0 r,f a0 = some r → ba Tryz.prog g_f ((.agg (iH a0)) :: caps_f) (aG r)) (r : Bool) (H : bU sA f = some r) :
  ba Tryz.prog 65 [(.list 135 (sA.map iH)),(.fn g_f caps_f)] (aG r) := by
 unfold bU at H
 refine PH.ay Tryz.func65 Tryz.ntmps65 ?_
 refine al 1 tk rfl (ab (aa (ag 2 tk rfl ?_)))
 obtain ⟨x7,h7,H⟩ := am H
 have s7 := iy sA f hg_f hp_f _ h7
 refine aq Tryz.call105 (dS.r) s7 ?_
 refine ag 2 tk rfl (ac ?_)
 exact bB tk H rfl
def je (a : List UInt8) (b : List UInt8) : Int :=
 be (eO a b) fun x7 =>
 x7
theorem rj (a : List UInt8) (b : List UInt8) :
  ba Tryz.prog 192 [(.str a),(.str b)] (af (je a b)) := by
 obtain ⟨r,H⟩ : ∃ r,je a b = r := ⟨_,rfl⟩
 rw [H]
 unfold je at H
 refine PH.ay Tryz.func192 Tryz.ntmps192 ?_
 refine al 1 tk rfl (ab (aa (ag 2 tk rfl ?_)))
 obtain ⟨x7,h7,H⟩ := bR H
 have s7 := kX a b
 rw [h7] at s7
 refine aq Tryz.call243 (dS.r) s7 ?_
 refine ak tk rfl (ac ?_)
 exact dP tk H rfl
def cg (sA : List LConstraint) (v : LConstraint) : Option (Bool) :=
 ae (cP sA v) fun x7 =>
 some (decide (x7 ≥ (0 : Int)))
theorem iC (sA : List LConstraint) (v : LConstraint) (r : Bool) (H : cg sA v = some r) :
  ba Tryz.prog 69 [(.list 141 (sA.map jy)),(.agg (jy v))] (aG r) := by
 unfold cg at H
 refine PH.ay Tryz.func69 Tryz.ntmps69 ?_
 refine ab (aa (aS ?_))
 refine ak tk rfl (ac (ab (aa (ag 2 tk rfl ?_))))
 obtain ⟨x7,h7,H⟩ := am H
 have s7 := iT sA v _ h7
 refine aq Tryz.call109 (dS.r) s7 ?_
 refine ag 2 tk rfl (ac ?_)
 exact bB tk H rfl
def eG (q : LQuery) : Option (Int) :=
 ae (lu q) fun x7 =>
 some x7.2
theorem mt (q : LQuery) (r : Int) (H : eG q = some r) :
  ba Tryz.prog 111 [(.agg (aA q))] (af r) := by
 unfold eG at H
 refine PH.ay Tryz.func111 Tryz.ntmps111 ?_
 refine ab (aa (aS ?_))
 refine ak tk rfl (ac (ab (aa (ak tk rfl ?_))))
 obtain ⟨x7,h7,H⟩ := am H
 have s7 := W_query_most q _ h7
 refine aq Tryz.call167 (dS.r) s7 ?_
 refine ag 5 tk rfl (ac (al 2 tk rfl ?_))
 exact bB tk H rfl
def fN (q : LQuery) : Option ((List Int) × Int) :=
 ae (iM q) fun x18 =>
 ae (aM (σ := List Int × Bool × List Bool) (ρ := Empty) (fun (_ : Nat) (x1 : LQuery) (s1 : List Int × Bool × List Bool) =>
  ae (aM (σ := List Int × Bool × List Bool) (ρ := Empty) (fun (_ : Nat) (x12 : LExpr) (s12 : List Int × Bool × List Bool) =>
   ae (fq x12 s12.1 s12.2.1 s12.2.2) fun x33 =>
   some (.next (x33.1,x33.2.1,x33.2.2))) 0 x1.exprs (s1.1,s1.2.1,s1.2.2)) fun fl12=>fl12.thenP fun (s12 : List Int × Bool × List Bool) =>
  ae (aM (σ := List Int × Bool × List Bool) (ρ := Empty) (fun (_ : Nat) (x13 : LAggregateCall) (s13 : List Int × Bool × List Bool) =>
   ae (aM (σ := List Int × Bool × List Bool) (ρ := Empty) (fun (_ : Nat) (x16 : LExpr) (s16 : List Int × Bool × List Bool) =>
    ae (fq x16 s16.1 s16.2.1 s16.2.2) fun x51 =>
    some (.next (x51.1,x51.2.1,x51.2.2))) 0 x13.args (s13.1,s13.2.1,s13.2.2)) fun fl16=>fl16.thenP fun (s16 : List Int × Bool × List Bool) =>
   some (.next (s16.1,s16.2.1,s16.2.2))) 0 x1.aggregates (s12.1,s12.2.1,s12.2.2)) fun fl13=>fl13.thenP fun (s13 : List Int × Bool × List Bool) =>
  some (.next (s13.1,s13.2.1,s13.2.2))) 0 x18 ([],false,(List.replicate 8 false))) fun fl1=>fl1.thenP fun (s1 : List Int × Bool × List Bool) =>
 cond s1.2.1
  (some ([],13))
  (some (s1.1,0))
theorem oM (q : LQuery) (r : (List Int) × Int) (H : fN q = some r) :
  ba Tryz.prog 12 [(.agg (aA q))] (.tup [(.list 3 (r.1.map bP)),(af r.2)]) := by
 unfold fN at H
 refine PH.ay Tryz.func12 Tryz.ntmps12 ?_
 refine ab (aa (aS ?_))
 refine ag 2 tk rfl (ac (ab (aa ?_)))
 refine aX tk fun b4=>?_
 refine ac (ab (aa ?_))
 refine aX tk fun b5=>?_
 refine ac (ab (aa ?_))
 refine aX tk fun b6=>?_
 refine av tk ?_
 refine ac (ab (aa ?_))
 refine aX tk fun b7=>?_
 refine ac (ab (aa (ak tk rfl (av tk ?_))))
 refine ac (ab (ab (aa (ak tk rfl ?_))))
 obtain ⟨x18,h18,H⟩ := am H
 have s18 := qf (m := 18) q _ h18
 refine aq Tryz.call43 (dS.r) (ba.of_own s18) ?_
 refine aK tk (zl _) ?_
 refine ak tk rfl (ac ?_)
 obtain ⟨fl1,H1,Hp1⟩ := am H
 refine iB tk 18 rfl rfl (fun hz1 _=>?_)
 rw [zl] at hz1
 refine dU (τ := List Int × Bool × List Bool) (γ := OwnRef) (fun s1 g1=>⟨57,upd (upd (fun _=>.any) 6 (.box 6 b6 0)) 4 (.box 4 b4 0),upd (upd (fun _=>none) 6 (some ⟨b6,[(aG s1.2.1)]⟩)) 4 (some ⟨b4,[(.own 1204 g1 (s1.1.map bP).length)]⟩),upd (fun _=>none) 1204 (some ⟨g1,3,(s1.1.map bP),true⟩)⟩) (fun t=>fl1 = .next t) ?_ (fun s1 g1 hn1=>?_)
 ·refine az (iz tk 4 0 1204 (e := 3) rfl rfl rfl rfl ?_)
  refine km (fun j1 s1 g1=>⟨57,upd (upd (upd (upd (upd (upd (fun _=>.any) 20 (af (j1 : Int))) 19 (af (x18.length : Int))) 18 (.list 33 (x18.map aZ))) 7 (.box 7 b7 0)) 6 (.box 6 b6 0)) 4 (.box 4 b4 0),upd (upd (upd (upd (fun _=>none) 7 (some ⟨b7,[(.fn 42 [(.box 4 b4 0),(.box 6 b6 0),(.box 5 b5 0),(.box 7 b7 0)])]⟩)) 6 (some ⟨b6,[(aG s1.2.1)]⟩)) 5 (some ⟨b5,(List.map aG s1.2.2)⟩)) 4 (some ⟨b4,[(.own 1204 g1 (s1.1.map bP).length)]⟩),upd (fun _=>none) 1204 (some ⟨g1,3,(s1.1.map bP),true⟩)⟩) (⟨none,0⟩) H1 Gh.d (fun j1 s1 g1 hj1 hr1=>?_)
  refine al 1 tk rfl (ab ?_)
  refine du rfl (fun h=>?_) (fun h=>?_)
  ·have hl1 := rowsLt h
   obtain ⟨x1,fb1,hx1,H,hg1⟩ := rMc hl1 hr1
   refine au (ab (az (ab (aa (bn tk (zn j1) (bC bH hx1) ?_)))))
   refine ak tk rfl ?_
   refine aX tk fun b9=>?_
   refine av tk ?_
   refine ac (ab (ab (aa (ak tk rfl (aB tk ?_)))))
   refine aK tk (zl _) ?_
   refine ak tk rfl (ac ?_)
   refine fC (γ := OwnRef) tk 27 26 25 (fun s12 g12=>upd (upd (upd (upd (upd (upd (upd (fun _=>.any) 20 (af (j1 : Int))) 19 (af (x18.length : Int))) 18 (.list 33 (x18.map aZ))) 9 (.box 9 b9 0)) 7 (.box 7 b7 0)) 6 (.box 6 b6 0)) 4 (.box 4 b4 0)) (fun s12 g12=>upd (upd (upd (upd (upd (fun _=>none) 9 (some ⟨b9,(aA x1)⟩)) 7 (some ⟨b7,[(.fn 42 [(.box 4 b4 0),(.box 6 b6 0),(.box 5 b5 0),(.box 7 b7 0)])]⟩)) 6 (some ⟨b6,[(aG s12.2.1)]⟩)) 5 (some ⟨b5,(List.map aG s12.2.2)⟩)) 4 (some ⟨b4,[(.own 1204 g12 (s12.1.map bP).length)]⟩)) (fun s12 g12=>upd (fun _=>none) 1204 (some ⟨g12,3,(s12.1.map bP),true⟩)) g1 H (fun fl12 Hp12 j12 s12 g12 hz12 hl12 x12 fb12 hx12 H hg12=>?_) (fun s12 g12 H=>?_)
   ·refine ab (az (ab (aa (bn tk (zn j12) (bC cb hx12) ?_))))
    refine ak tk rfl ?_
    refine aX tk fun b11=>?_
    refine av tk ?_
    refine ac (aa (aB tk ?_))
    refine aB tk ?_
    obtain ⟨x33,h33,H⟩ := am H
    have s33 := kd b4 g12 b6 b5 b7 x12 s12.1 s12.2.1 s12.2.2 _ h33
    refine cI (st' := ⟨_,_,upd (upd (upd (upd (upd (upd (fun _=>none) 11 (some ⟨b11,(cG x12)⟩)) 9 (some ⟨b9,(aA x1)⟩)) 7 (some ⟨b7,[(.fn 42 [(.box 1000 b4 0),(.box 1001 b6 0),(.box 1002 b5 0),(.box 1003 b7 0)])]⟩)) 6 (some ⟨b6,[(aG s12.2.1)]⟩)) 5 (some ⟨b5,(List.map aG s12.2.2)⟩)) 4 (some ⟨b4,[(.own 1100 g12 (s12.1.map bP).length)]⟩),upd (fun _=>none) 1204 (some ⟨g12,3,(s12.1.map bP),true⟩)⟩) (Gh.le (bZ _ _) (aW rfl (dS.of2 (ie.cons (mH.own rfl) ie.nil)) (aW rfl (dS.r) (aW rfl (dS.r) (aW rfl (dS.of2 (ie.cons (mH.fn (ie.cons mH.boxT (ie.cons mH.boxT (ie.cons mH.boxT (ie.cons mH.boxT ie.nil))))) ie.nil)) (aW rfl (dS.r) (aW rfl (dS.r) aD)))))) (aU aE)) ?_
    refine ci (g := 42) rfl rfl rfl Tryz.call42 [(4,1000),(6,1001),(5,1002),(7,1003)] [(1204,1100)] rfl rfl rfl rfl (dS.of2 (ie.cons (mH.of_eq rfl) (ie.cons mH.boxT (ie.cons mH.boxT (ie.cons mH.boxT (ie.cons mH.boxT ie.nil)))))) (by rw [cN,cN,cN,cN,bT,bL,bS]; rfl) s33 ?_
    rintro u33 H33h ⟨gz33_0,rfl,rfl⟩
    refine ⟨_,rfl,?_⟩
    refine cI (st' := ⟨_,_,upd (upd (upd (upd (upd (upd (fun _=>none) 11 (some ⟨b11,(cG x12)⟩)) 9 (some ⟨b9,(aA x1)⟩)) 7 (some ⟨b7,[(.fn 42 [(.box 4 b4 0),(.box 6 b6 0),(.box 5 b5 0),(.box 7 b7 0)])]⟩)) 6 (some ⟨b6,[(aG x33.2.1)]⟩)) 5 (some ⟨b5,(List.map aG x33.2.2)⟩)) 4 (some ⟨b4,[(.own 1204 gz33_0 (x33.1.map bP).length)]⟩),upd (fun _=>none) 1204 (some ⟨gz33_0,3,(x33.1.map bP),true⟩)⟩) (Gh.le (bZ _ _) (aW rfl (dS.of2 (ie.cons (mH.own rfl) ie.nil)) (aW rfl (dS.r) (aW rfl (dS.r) (aW rfl (dS.of2 (ie.cons (mH.fn (ie.cons mH.boxT (ie.cons mH.boxT (ie.cons mH.boxT (ie.cons mH.boxT ie.nil))))) ie.nil)) (aW rfl (dS.r) (aW rfl (dS.r) aD)))))) (aU aE)) ?_
    refine ac (aR (bm 2 tk rfl ?_))
    exact bO gz33_0 H hl12 hg12
   refine ab (aa (ak tk rfl (aB tk ?_)))
   refine aK tk (zl _) ?_
   refine ak tk rfl (ac ?_)
   refine fC (γ := OwnRef) tk 38 37 36 (fun s13 g13=>upd (upd (upd (upd (upd (upd (fun _=>.any) 20 (af (j1 : Int))) 19 (af (x18.length : Int))) 18 (.list 33 (x18.map aZ))) 7 (.box 7 b7 0)) 6 (.box 6 b6 0)) 4 (.box 4 b4 0)) (fun s13 g13=>upd (upd (upd (upd (fun _=>none) 7 (some ⟨b7,[(.fn 42 [(.box 4 b4 0),(.box 6 b6 0),(.box 5 b5 0),(.box 7 b7 0)])]⟩)) 6 (some ⟨b6,[(aG s13.2.1)]⟩)) 5 (some ⟨b5,(List.map aG s13.2.2)⟩)) 4 (some ⟨b4,[(.own 1204 g13 (s13.1.map bP).length)]⟩)) (fun s13 g13=>upd (fun _=>none) 1204 (some ⟨g13,3,(s13.1.map bP),true⟩)) g12 H (fun fl13 Hp13 j13 s13 g13 hz13 hl13 x13 fb13 hx13 H hg13=>?_) (fun s13 g13 H=>?_)
   ·refine ab (az (ab (aa ?_)))
    refine bn tk (zn j13) (bC (fun _=>rfl) hx13) ?_
    refine ak tk rfl ?_
    refine aX tk fun b13=>?_
    refine av tk ?_
    refine ac (ab (aa (ak tk rfl (aB tk ?_))))
    refine aK tk (zl _) ?_
    refine ak tk rfl (ac ?_)
    refine fC (γ := OwnRef) tk 45 44 43 (fun s16 g16=>upd (upd (upd (upd (upd (upd (upd (upd (upd (fun _=>.any) 38 (af (j13 : Int))) 37 (af (x1.aggregates.length : Int))) 36 (.list 88 (x1.aggregates.map bV))) 20 (af (j1 : Int))) 19 (af (x18.length : Int))) 18 (.list 33 (x18.map aZ))) 7 (.box 7 b7 0)) 6 (.box 6 b6 0)) 4 (.box 4 b4 0)) (fun s16 g16=>upd (upd (upd (upd (fun _=>none) 7 (some ⟨b7,[(.fn 42 [(.box 4 b4 0),(.box 6 b6 0),(.box 5 b5 0),(.box 7 b7 0)])]⟩)) 6 (some ⟨b6,[(aG s16.2.1)]⟩)) 5 (some ⟨b5,(List.map aG s16.2.2)⟩)) 4 (some ⟨b4,[(.own 1204 g16 (s16.1.map bP).length)]⟩)) (fun s16 g16=>upd (fun _=>none) 1204 (some ⟨g16,3,(s16.1.map bP),true⟩)) g13 H (fun fl16 Hp16 j16 s16 g16 hz16 hl16 x16 fb16 hx16 H hg16=>?_) (fun s16 g16 H=>?_)
    ·refine ab (az (ab (aa (bn tk (zn j16) (bC cb hx16) ?_))))
     refine ak tk rfl ?_
     refine aX tk fun b15=>?_
     refine av tk ?_
     refine ac (aa (aB tk ?_))
     refine aB tk ?_
     obtain ⟨x51,h51,H⟩ := am H
     have s51 := kd b4 g16 b6 b5 b7 x16 s16.1 s16.2.1 s16.2.2 _ h51
     refine cI (st' := ⟨_,_,upd (upd (upd (upd (upd (fun _=>none) 15 (some ⟨b15,(cG x16)⟩)) 7 (some ⟨b7,[(.fn 42 [(.box 1000 b4 0),(.box 1001 b6 0),(.box 1002 b5 0),(.box 1003 b7 0)])]⟩)) 6 (some ⟨b6,[(aG s16.2.1)]⟩)) 5 (some ⟨b5,(List.map aG s16.2.2)⟩)) 4 (some ⟨b4,[(.own 1100 g16 (s16.1.map bP).length)]⟩),upd (fun _=>none) 1204 (some ⟨g16,3,(s16.1.map bP),true⟩)⟩) (Gh.le (bZ _ _) (aW rfl (dS.of2 (ie.cons (mH.own rfl) ie.nil)) (aW rfl (dS.r) (aW rfl (dS.r) (aW rfl (dS.of2 (ie.cons (mH.fn (ie.cons mH.boxT (ie.cons mH.boxT (ie.cons mH.boxT (ie.cons mH.boxT ie.nil))))) ie.nil)) (aW rfl (dS.r) aD))))) (aU aE)) ?_
     refine ci (g := 42) rfl rfl rfl Tryz.call42 [(4,1000),(6,1001),(5,1002),(7,1003)] [(1204,1100)] rfl rfl rfl rfl (dS.of2 (ie.cons (mH.of_eq rfl) (ie.cons mH.boxT (ie.cons mH.boxT (ie.cons mH.boxT (ie.cons mH.boxT ie.nil)))))) (by rw [cN,cN,cN,cN,bT,bL,bS]; rfl) s51 ?_
     rintro u51 H51h ⟨gz51_0,rfl,rfl⟩
     refine ⟨_,rfl,?_⟩
     refine cI (st' := ⟨_,_,upd (upd (upd (upd (upd (fun _=>none) 15 (some ⟨b15,(cG x16)⟩)) 7 (some ⟨b7,[(.fn 42 [(.box 4 b4 0),(.box 6 b6 0),(.box 5 b5 0),(.box 7 b7 0)])]⟩)) 6 (some ⟨b6,[(aG x51.2.1)]⟩)) 5 (some ⟨b5,(List.map aG x51.2.2)⟩)) 4 (some ⟨b4,[(.own 1204 gz51_0 (x51.1.map bP).length)]⟩),upd (fun _=>none) 1204 (some ⟨gz51_0,3,(x51.1.map bP),true⟩)⟩) (Gh.le (bZ _ _) (aW rfl (dS.of2 (ie.cons (mH.own rfl) ie.nil)) (aW rfl (dS.r) (aW rfl (dS.r) (aW rfl (dS.of2 (ie.cons (mH.fn (ie.cons mH.boxT (ie.cons mH.boxT (ie.cons mH.boxT (ie.cons mH.boxT ie.nil))))) ie.nil)) (aW rfl (dS.r) aD))))) (aU aE)) ?_
     refine ac (aR (bm 2 tk rfl ?_))
     exact bO gz51_0 H hl16 hg16
    refine aR (bm 2 tk rfl ?_)
    exact bO g16 H hl13 hg13
   refine aR (bm 2 tk rfl ?_)
   exact bO g13 H hl1 hg1
  have hn1 := rMd (rowsGe h) hr1
  refine bF rfl ?_
  refine aQ s1 g1 hn1 Gh.d
 have H := cw hn1 Hp1
 refine ab (ab (aa (aB tk ?_)))
 refine ac ?_
 refine aL rfl H (fun H=>?_) (fun H=>?_)
 ·refine al 2 tk rfl ?_
  obtain rfl := ax H
  refine bQ tk rfl (ps := [(.val (.slice none 0 0)),(af 13)]) ⟨_,_,rfl,rfl,_,_,rfl,rfl,rfl⟩ (PLe.of2 (mH.tup (ie.cons (mH.nil tk rfl) (ie.cons (mH.of_eq rfl) ie.nil))))
 refine au (ab (aa (aB tk ?_)))
 refine ag 2 tk rfl (ac (ib 2 rfl rfl rfl ?_))
 exact bB tk H rfl
def eP (sA : List Int) (v : Int) : Option (Bool) :=
 ae (gL sA v) fun x7 =>
 some (decide (x7 ≥ (0 : Int)))
theorem mK (sA : List Int) (v : Int) (r : Bool) (H : eP sA v = some r) :
  ba Tryz.prog 13 [(.list 3 (sA.map bP)),(af v)] (aG r) := by
 unfold eP at H
 refine PH.ay Tryz.func13 Tryz.ntmps13 ?_
 refine al 1 tk rfl (ab (aa (ag 2 tk rfl ?_)))
 obtain ⟨x7,h7,H⟩ := am H
 have s7 := og sA v _ h7
 refine aq Tryz.call44 (dS.r) s7 ?_
 refine ag 2 tk rfl (ac ?_)
 exact bB tk H rfl
def hX (kind : Int) (a : List LCol) (b : List LCol) : Option ((List LCol) × Int) :=
 cond ((a.length : Int) != (b.length : Int))
  (some ([],7))
  (ae (aM (σ := List LCol) (ρ := ((List LCol) × Int)) (fun (j1 : Nat) (x1 : LCol) (s1 : List LCol) =>
   ae (aC b (j1 : Int)) fun (x29 : LCol) =>
   cond (x1.kind != x29.kind)
    (some (.ret ([],7)))
    (cond x1.nullable
     (ae (aC s1 (j1 : Int)) fun (x51 : LCol) =>
     be (s1.set ((j1 : Int).toNat) (LCol.mk x51.name x51.kind true)) fun (y8 : List LCol) =>
     some (.next y8))
     (cond (kind == (6 : Int))
      (ae (aC b (j1 : Int)) fun (x46 : LCol) =>
      ae (aC s1 (j1 : Int)) fun (x51 : LCol) =>
      be (s1.set ((j1 : Int).toNat) (LCol.mk x51.name x51.kind x46.nullable)) fun (y9 : List LCol) =>
      some (.next y9))
      (ae (aC s1 (j1 : Int)) fun (x51 : LCol) =>
      be (s1.set ((j1 : Int).toNat) (LCol.mk x51.name x51.kind false)) fun (y10 : List LCol) =>
      some (.next y10))))) 0 a a) fun fl1=>fl1.thenR fun (s1 : List LCol) =>
  some (s1,0))
theorem qC (kind : Int) (a : List LCol) (b : List LCol) (r : (List LCol) × Int) (H : hX kind a b = some r) :
  ba Tryz.prog 232 [(af kind),(.list 68 (a.map bg)),(.list 68 (b.map bg))] (.tup [(.list 68 (r.1.map bg)),(af r.2)]) := by
 unfold hX at H
 refine PH.ay Tryz.func232 Tryz.ntmps232 ?_
 refine al 2 tk rfl (ab (ab (aa (ak tk rfl (aK tk (zl _) ?_)))))
 refine ak tk rfl (aK tk (zl _) ?_)
 refine ak tk rfl (ac ?_)
 refine aL rfl H (fun H=>?_) (fun H=>?_)
 ·refine al 2 tk rfl ?_
  obtain rfl := ax H
  refine bQ tk rfl (ps := [(.val (.slice none 0 0)),(af 7)]) ⟨_,_,rfl,rfl,_,_,rfl,rfl,rfl⟩ (PLe.of2 (mH.tup (ie.cons (mH.nil tk rfl) (ie.cons (mH.of_eq rfl) ie.nil))))
 refine au (ab (aa (ak tk rfl ?_)))
 have s16 := qw (m := 16) a
 refine nL (g := 195) rfl rfl rfl Tryz.call195 (dS.r) rfl rfl s16 (fun g16=>?_)
 refine ak tk rfl (ac (ab (ab (aa (ak tk rfl (aK tk (zl _) ?_))))))
 refine ak tk rfl (ac ?_)
 refine gY (γ := OwnRef) tk 19 18 1 (fun s1 g1=>upd (upd (upd (fun _=>.any) 8 (.own 16 g1 (s1.map bg).length)) 2 (.list 68 (b.map bg))) 0 (af kind)) nB (fun s1 g1=>upd (fun _=>none) 16 (some ⟨g1,68,(s1.map bg),true⟩)) g16 H (fun fl1 Hp1 j1 s1 g1 hz1 hl1 x1 fb1 hx1 H hg1=>?_) (fun s1 g1 H=>?_)
 ·refine ab (az (al 2 tk rfl (ab (ab ?_))))
  refine cA (tag := 16) rfl (fun ho16=>?_)
  refine bj tk mok ⟨false,false,[]⟩ [0,1,2,3,4,5,6,7,8,9,10] rfl (by decide +kernel) rfl (aI 2 rfl ?_)
  refine dN (zn j1) (bC (fun _=>rfl) hx1) ?_
  refine aI 4 rfl ?_
  obtain ⟨x29,k29,H⟩ := aT H
  refine dN k29.1 (aJ (fun _=>rfl) k29.2) ?_
  refine aI 3 rfl (aY ?_)
  refine aL rfl H (fun H=>?_) (fun H=>?_)
  ·refine al 2 tk rfl ?_
   obtain rfl := ax H
   have e1 : fl1 = .ret _ := hg1
   subst e1
   obtain rfl := bq Hp1
   refine bQ tk rfl (ps := [(.val (.slice none 0 0)),(af 7)]) ⟨_,_,rfl,rfl,_,_,rfl,rfl,rfl⟩ (PLe.of2 (mH.tup (ie.cons (mH.nil tk rfl) (ie.cons (mH.of_eq rfl) ie.nil))))
  refine au (aa (ag 4 tk rfl ?_))
  refine bn tk (zn j1) (bC (fun _=>rfl) hx1) ?_
  refine ag 3 tk rfl ?_
  refine bw rfl rfl rfl H (fun H=>?_) (fun H=>?_)
  ·refine ag 10 tk rfl ?_
   obtain ⟨x51,k51,H⟩ := aT H
   refine jF (tag := 16) rfl (fun ho16=>?_)
   refine jw tk ⟨k51.1,(aV k51.2)⟩ (bd ho16 k51.2) ?_
   refine ak tk rfl ?_
   obtain ⟨y8,hy8,H⟩ := bR H
   refine lg tk rfl rfl rfl rfl rfl rfl rfl rfl (by rw [zl]; exact (zg.1 k51.2).1) (PLe.refl _ _) rfl rfl rfl rfl (by decide) (bD (fun _=>rfl) k51.2 rfl hy8) ?_
   refine ac (aR (bm 2 tk rfl ?_))
   exact bO g1 H hl1 hg1 (Gh.le (ao (ao (bp (PLe.q (fF (by omega))) (ao (ao (bp (PLe.of2 (mH.of_eq (congrArg (PV.own 16 g1) (bf (f := bg) hy8)))) aP)))))) aD (aU aE))
  refine ag 3 tk rfl ?_
  refine bw rfl rfl rfl H (fun H=>?_) (fun H=>?_)
  ·refine ag 2 tk rfl ?_
   obtain ⟨x46,k46,H⟩ := aT H
   refine bn tk k46.1 (aJ (fun _=>rfl) k46.2) ?_
   refine ag 4 tk rfl ?_
   obtain ⟨x51,k51,H⟩ := aT H
   refine jF (tag := 16) rfl (fun ho16=>?_)
   refine jw tk ⟨k51.1,(aV k51.2)⟩ (bd ho16 k51.2) ?_
   refine ak tk rfl ?_
   obtain ⟨y9,hy9,H⟩ := bR H
   refine lg tk rfl rfl rfl rfl rfl rfl rfl rfl (by rw [zl]; exact (zg.1 k51.2).1) (PLe.refl _ _) rfl rfl rfl rfl (by decide) (bD (fun _=>rfl) k51.2 rfl hy9) ?_
   refine ac (aR (bm 2 tk rfl ?_))
   exact bO g1 H hl1 hg1 (Gh.le (ao (ao (bp (PLe.q (fF (by omega))) (ao (ao (bp (PLe.of2 (mH.of_eq (congrArg (PV.own 16 g1) (bf (f := bg) hy9)))) aP)))))) aD (aU aE))
  refine ag 7 tk rfl ?_
  obtain ⟨x51,k51,H⟩ := aT H
  refine jF (tag := 16) rfl (fun ho16=>?_)
  refine jw tk ⟨k51.1,(aV k51.2)⟩ (bd ho16 k51.2) ?_
  refine ak tk rfl ?_
  obtain ⟨y10,hy10,H⟩ := bR H
  refine lg tk rfl rfl rfl rfl rfl rfl rfl rfl (by rw [zl]; exact (zg.1 k51.2).1) (PLe.refl _ _) rfl rfl rfl rfl (by decide) (bD (fun _=>rfl) k51.2 rfl hy10) ?_
  refine ac (aR (bm 2 tk rfl ?_))
  exact bO g1 H hl1 hg1 (Gh.le (ao (ao (bp (PLe.q (fF (by omega))) (ao (ao (bp (PLe.of2 (mH.of_eq (congrArg (PV.own 16 g1) (bf (f := bg) hy10)))) aP)))))) aD (aU aE))
 refine al 3 tk rfl (ib 6 rfl rfl rfl ?_)
 exact bB tk H rfl
def bv (sA : List (List UInt8)) (v : List UInt8) : Option (Bool) :=
 ae (dy sA v) fun x7 =>
 some (decide (x7 ≥ (0 : Int)))
theorem dI (sA : List (List UInt8)) (v : List UInt8) (r : Bool) (H : bv sA v = some r) :
  ba Tryz.prog 38 [(.list 9 (sA.map ah)),(.str v)] (aG r) := by
 unfold bv at H
 refine PH.ay Tryz.func38 Tryz.ntmps38 ?_
 refine al 1 tk rfl (ab (aa (ag 2 tk rfl ?_)))
 obtain ⟨x7,h7,H⟩ := am H
 have s7 := jb sA v _ h7
 refine aq Tryz.call77 (dS.r) s7 ?_
 refine ag 2 tk rfl (ac ?_)
 exact bB tk H rfl
def cE (sA : List (List UInt8)) (v : List UInt8) : Option (Bool × (List (List UInt8))) :=
 ae (dQ sA v) fun x7 =>
 ae (dC (x7.2.length = sA.length) ()) fun (_ : Unit) =>
 some ((decide (x7.1 ≥ (0 : Int))),x7.2)
theorem kF (g_sA : OwnRef) (sA : List (List UInt8)) (v : List UInt8) (r : Bool × (List (List UInt8))) (H : cE sA v = some r) :
  PH Tryz.prog 38 [(.own 0 g_sA (sA.map ah).length),(.str v)] ⟨fun _=>none,upd (fun _=>none) 0 (some ⟨g_sA,9,(sA.map ah),true⟩)⟩ (fun u H=>u = (aG r.1) ∧ H = ⟨fun _=>none,upd (fun _=>none) 0 (some ⟨g_sA,9,(r.2.map ah),true⟩)⟩) := by
 unfold cE at H
 refine PH.ay Tryz.func38 Tryz.ntmps38 ?_
 refine al 1 tk rfl (ab (aa (ag 2 tk rfl ?_)))
 obtain ⟨x7,h7,H⟩ := am H
 have s7 := lm g_sA sA v _ h7
 obtain ⟨_,q7_0,H⟩ := am H
 have l7_0 := (bX q7_0).1
 have z7_0 : (List.map ah sA).length = (List.map ah x7.2).length := by simpa using (l7_0).symm
 refine ci (g := 77) rfl rfl rfl Tryz.call77 [] [(0,0)] rfl rfl rfl rfl (dS.of2 (ie.cons (mH.own rfl) (ie.cons (mH.of_eq rfl) ie.nil))) (by rw [bT,bL,bS]; rfl) s7 ?_
 rintro u7 H7h ⟨rfl,rfl⟩
 refine ⟨_,rfl,?_⟩
 refine cI (st' := ⟨_,_,fun _=>none,upd (fun _=>none) 0 (some ⟨g_sA,9,(x7.2.map ah),true⟩)⟩) (Gh.le (bZ _ _) aD (aU aE)) ?_
 refine ag 2 tk rfl (ac ?_)
 obtain rfl := ax H
 refine cq (st' := ⟨9,upd (fun _=>.any) 4 (aG (decide (x7.1 ≥ (0 : Int)))),fun _=>none,upd (fun _=>none) 0 (some ⟨g_sA,9,(x7.2.map ah),true⟩)⟩) (Gh.le (ao aP) aD (aU aE)) ?_
 refine dZ tk rfl (ps := [(aG (decide (x7.1 ≥ (0 : Int))))]) ⟨_,_,rfl,rfl,rfl⟩ (PLe.q rfl) ⟨rfl,rfl⟩
def bW (sA : List LCol) (f : LCol → Option (Bool)) : Option (Bool) :=
 ae (cB sA f) fun x7 =>
 some (decide (x7 ≥ (0 : Int)))
theorem iZ {g_f : FuncId} {caps_f : List PV} (sA : List LCol) (f : LCol → Option (Bool)) (hg_f : ∀ (vs : Array Value) (w : World),(callFunc g_f vs).run Tryz.prog w = .ok (.enter g_f vs) w) (hp_f : ∀ a0 r,f a0 = some r → ba Tryz.prog g_f ((.agg (bg a0)) :: caps_f) (aG r)) (r : Bool) (H : bW sA f = some r) :
  ba Tryz.prog 170 [(.list 68 (sA.map bg)),(.fn g_f caps_f)] (aG r) := by
 unfold bW at H
 refine PH.ay Tryz.func170 Tryz.ntmps170 ?_
 refine al 1 tk rfl (ab (aa (ag 2 tk rfl ?_)))
 obtain ⟨x7,h7,H⟩ := am H
 have s7 := fZ sA f hg_f hp_f _ h7
 refine aq Tryz.call163 (dS.r) s7 ?_
 refine ag 2 tk rfl (ac ?_)
 exact bB tk H rfl
def db (sA : List (List UInt8)) (f : (List UInt8) → Option (Bool)) : Option (Bool) :=
 ae (eC sA f) fun x7 =>
 some (decide (x7 ≥ (0 : Int)))
theorem jZ {g_f : FuncId} {caps_f : List PV} (sA : List (List UInt8)) (f : (List UInt8) → Option (Bool)) (hg_f : ∀ (vs : Array Value) (w : World),(callFunc g_f vs).run Tryz.prog w = .ok (.enter g_f vs) w) (hp_f : ∀ a0 r,f a0 = some r → ba Tryz.prog g_f ((.str a0) :: caps_f) (aG r)) (r : Bool) (H : db sA f = some r) :
  ba Tryz.prog 36 [(.list 9 (sA.map ah)),(.fn g_f caps_f)] (aG r) := by
 unfold db at H
 refine PH.ay Tryz.func36 Tryz.ntmps36 ?_
 refine al 1 tk rfl (ab (aa (ag 2 tk rfl ?_)))
 obtain ⟨x7,h7,H⟩ := am H
 have s7 := kP sA f hg_f hp_f _ h7
 refine aq Tryz.call76 (dS.r) s7 ?_
 refine ag 2 tk rfl (ac ?_)
 exact bB tk H rfl
def lx (_rec74 : LExpr → Option (LExpr)) (rec119 : LExpr → (List (List UInt8)) → (List LExpr) → Option (LExpr)) (e : LExpr) : Option (LExpr) :=
 ae (rec119 e ([] : List (List UInt8)) ([] : List LExpr)) fun x4 =>
 some x4
theorem WO_expr_Clone (rec74 : LExpr → Option (LExpr)) (rec119 : LExpr → (List (List UInt8)) → (List LExpr) → Option (LExpr)) (_hrec74 : ∀ a0 r,rec74 a0 = some r → ba Tryz.prog 74 [(.agg (cG a0))] (.agg (cG r))) (hrec119 : ∀ a0 a1 a2 r,rec119 a0 a1 a2 = some r → ba Tryz.prog 119 [(.agg (cG a0)),(.list 9 (a1.map ah)),(.list 91 (a2.map aF))] (.agg (cG r))) (e : LExpr) (r : LExpr) (H : lx rec74 rec119 e = some r) :
  ba Tryz.prog 74 [(.agg (cG e))] (.agg (cG r)) := by
 unfold lx at H
 refine PH.ay Tryz.func74 Tryz.ntmps74 ?_
 refine ab (aa (aS ?_))
 refine aX tk fun b2=>?_
 refine ac (ab (aa (ak tk rfl ?_)))
 obtain ⟨x4,h4,H⟩ := am H
 have s4 := hrec119 e ([] : List (List UInt8)) ([] : List LExpr) _ h4
 refine aq Tryz.call119 (dS.of2 (ie.cons (mH.of_eq rfl) (ie.cons (mH.nil tk rfl) (ie.cons (mH.nil tk rfl) ie.nil)))) s4 ?_
 refine av tk ?_
 refine ac ?_
 exact jW tk H rfl rfl rfl rfl rfl
def jf (rec74 : LExpr → Option (LExpr)) (rec119 : LExpr → (List (List UInt8)) → (List LExpr) → Option (LExpr)) (e : LExpr) (names : List (List UInt8)) (l : List LExpr) : Option (LExpr) :=
 ae (
  cond (e.kind == (2 : Int))
   (ae (dy names e.name) fun x17 =>
   cond (decide (x17 ≥ (0 : Int)))
    (cond (decide (x17 < (l.length : Int)))
     (ae (aC l x17) fun (x28 : LExpr) =>
     ae (rec74 x28) fun x30 =>
     some (.ret x30))
     (some (.next ())))
    (some (.next ())))
   (some (.next ()))) fun (fl1 : Flow (Unit) (LExpr))=>fl1.thenR fun _ =>
 ae (aM (σ := List LExpr) (ρ := Empty) (fun (_ : Nat) (x2 : LExpr) (s2 : List LExpr) =>
  ae (rec119 x2 names l) fun x45 =>
  ae (dF 88 s2 ([x45] : List LExpr)) fun (x47 : List LExpr) =>
  some (.next x47)) 0 e.args []) fun fl2=>fl2.thenP fun (s2 : List LExpr) =>
 some (LExpr.mk e.kind e.name e.index e.value s2)
theorem qG (rec74 : LExpr → Option (LExpr)) (rec119 : LExpr → (List (List UInt8)) → (List LExpr) → Option (LExpr)) (hrec74 : ∀ a0 r,rec74 a0 = some r → ba Tryz.prog 74 [(.agg (cG a0))] (.agg (cG r))) (hrec119 : ∀ a0 a1 a2 r,rec119 a0 a1 a2 = some r → ba Tryz.prog 119 [(.agg (cG a0)),(.list 9 (a1.map ah)),(.list 91 (a2.map aF))] (.agg (cG r))) (e : LExpr) (names : List (List UInt8)) (l : List LExpr) (r : LExpr) (H : jf rec74 rec119 e names l = some r) :
  ba Tryz.prog 119 [(.agg (cG e)),(.list 9 (names.map ah)),(.list 91 (l.map aF))] (.agg (cG r)) := by
 unfold jf at H
 refine PH.ay Tryz.func119 Tryz.ntmps119 ?_
 refine ab (aa (aS ?_))
 refine aX tk fun b6=>?_
 refine ac (ab (al 3 tk rfl ?_))
 refine V.cutR (γ := Unit) (fun t1 g1=>⟨51,upd (upd (upd (upd (fun _=>.any) 6 (.box 6 b6 0)) 3 (.ptr (cG e))) 2 (.list 91 (l.map aF))) 1 (.list 9 (names.map ah)),upd (fun _=>none) 6 (some ⟨b6,[(af 0),(.str []),(af 0),(af 0),(af 0),(.str []),(.val (.slice none 0 0))]⟩),fun _=>none⟩) H (fun _ H Hp1=>?_) (fun t1 g1 H=>?_)
 ·refine aL rfl H (fun H=>?_) (fun H=>?_)
  ·refine ab (aa (ag 3 tk rfl ?_))
   obtain ⟨x17,h17,H⟩ := am H
   have s17 := jb names e.name _ h17
   refine aq Tryz.call77 (dS.r) s17 ?_
   refine ak tk rfl (ac (ab (aa (ag 3 tk rfl ?_))))
   refine bw rfl rfl rfl H (fun H=>?_) (fun H=>?_)
   ·refine ag 2 tk rfl (aK tk (zl _) ?_)
    refine ag 2 tk rfl (ac ?_)
    refine aL rfl H (fun H=>?_) (fun H=>?_)
    ·refine ab (aa (ag 2 tk rfl ?_))
     obtain ⟨x28,k28,H⟩ := aT H
     refine bn tk k28.1 (aJ cb k28.2) ?_
     refine ak tk rfl ?_
     obtain ⟨x30,h30,H⟩ := am H
     have s30 := hrec74 x28 _ h30
     refine aq Tryz.call74 (dS.r) s30 ?_
     refine av tk ?_
     refine ac ?_
     obtain rfl := ax H
     obtain rfl := bq Hp1
     refine bQ tk rfl (ps := [(.agg (cG x30))]) ⟨_,_,rfl,⟨_,_,_,_,_,rfl,rfl,rfl,rfl⟩,rfl⟩ (PLe.q rfl)
    refine au ?_
    refine aQ _ () (ax H).symm Gh.d
   refine ag 5 tk rfl (ac (dE rfl (au ?_)))
   refine aQ _ () (ax H).symm Gh.d
  refine au ?_
  refine aQ _ () (ax H).symm Gh.d
 refine ab (aa (ak tk rfl ?_))
 refine aX tk fun b8=>?_
 refine av tk ?_
 refine ac (ab (aa (ak tk rfl (av tk ?_))))
 refine ac (ab (ab (aa (ag 2 tk rfl (aK tk (zl _) ?_)))))
 refine ak tk rfl (ac (iz tk 8 6 47 (e := 91) rfl rfl rfl rfl ?_))
 refine fC (γ := OwnRef) tk 36 35 34 (fun s2 g2=>upd (upd (upd (upd (fun _=>.any) 8 (.box 8 b8 0)) 6 (.box 6 b6 0)) 2 (.list 91 (l.map aF))) 1 (.list 9 (names.map ah))) (fun s2 g2=>upd (upd (fun _=>none) 8 (some ⟨b8,[(af e.kind),(.str e.name),(af e.index),(af e.value.kind),(af e.value.int),(.str e.value.text),(.own 47 g2 (s2.map aF).length)]⟩)) 6 (some ⟨b6,[(af 0),(.str []),(af 0),(af 0),(af 0),(.str []),(.val (.slice none 0 0))]⟩)) (fun s2 g2=>upd (fun _=>none) 47 (some ⟨g2,91,(s2.map aF),true⟩)) (⟨none,0⟩) H (fun fl2 Hp2 j2 s2 g2 hz2 hl2 x2 fb2 hx2 H hg2=>?_) (fun s2 g2 H=>?_)
 ·refine ab (az (ab (aa (bn tk (zn j2) (bC cb hx2) ?_))))
  refine ak tk rfl ?_
  refine aX tk fun b10=>?_
  refine av tk ?_
  refine ac (gn 10 ?_)
  refine bj tk mok ⟨true,false,[42]⟩ [0,1,2,3,4,5,6,7,8,9] rfl (by decide +kernel) rfl (bN rfl (bh ?_))
  refine aI 3 rfl ?_
  obtain ⟨x45,h45,H⟩ := am H
  have s45 := hrec119 x2 names l _ h45
  refine br Tryz.call119 (dS.r) s45 ?_
  refine bN rfl ?_
  obtain ⟨x47,h47,H⟩ := am H
  have k47 := cQ h47
  refine gX (rows2' := List.map aF ([x45] : List LExpr)) (rows' := List.map aF x47) tk rfl rfl rfl rfl rfl rfl rfl rfl rfl rfl rfl rfl rfl rfl (eV.trans (b := List.map cG [x45]) (eV.refl _) (eV.of_eq (jG cb [x45]))) (eA k47.1) (et k47.2.1) (eB k47.2.2) fun g47=>?_
  refine bN rfl (fE rfl rfl rfl rfl rfl rfl rfl rfl rfl rfl rfl rfl (aY (aR (bm 2 tk rfl ?_))))
  exact bO g47 H hl2 hg2
 refine ab (aa (aB tk ?_))
 refine av tk ?_
 refine ac (eN 6 6 rfl rfl rfl rfl rfl ?_)
 exact jW tk H rfl rfl rfl rfl rfl
mutual
def iF : Nat → LExpr → Option (LExpr)
 | 0,_=>none
 | n + 1,v0=>lx (fun b0=>iF n b0) (fun b0 b1 b2=>en n b0 b1 b2) v0
def en : Nat → LExpr → (List (List UInt8)) → (List LExpr) → Option (LExpr)
 | 0,_,_,_=>none
 | n + 1,v0,v1,v2=>jf (fun b0=>iF n b0) (fun b0 b1 b2=>en n b0 b1 b2) v0 v1 v2
end
theorem WF_expr_Clone  (n : Nat) : (∀ a0 r,iF n a0 = some r → ba Tryz.prog 74 [(.agg (cG a0))] (.agg (cG r))) ∧ (∀ a0 a1 a2 r,en n a0 a1 a2 = some r → ba Tryz.prog 119 [(.agg (cG a0)),(.list 9 (a1.map ah)),(.list 91 (a2.map aF))] (.agg (cG r))) := by
 induction n with
 | zero=>exact ⟨(by intros; rename_i h; exact absurd (show (none : Option _) = some _ from h) (by simp)),(by intros; rename_i h; exact absurd (show (none : Option _) = some _ from h) (by simp))⟩
 | succ n ih =>
  exact ⟨(fun v0 r h=>WO_expr_Clone (fun b0=>iF n b0) (fun b0 b1 b2=>en n b0 b1 b2) ih.1 ih.2 v0  r h),(fun v0 v1 v2 r h=>qG (fun b0=>iF n b0) (fun b0 b1 b2=>en n b0 b1 b2) ih.1 ih.2 v0 v1 v2  r h)⟩
def jh (e : LExpr) : Option (LExpr) := gg fun n=>iF n e
theorem nA (e : LExpr) (r : LExpr) (H : jh e = some r) :
  ba Tryz.prog 74 [(.agg (cG e))] (.agg (cG r)) := by
 obtain ⟨n,h⟩ := gG H
 exact (WF_expr_Clone  n).1 e r h
def im (x : Int) : Option (Int) :=
 ae (jd x) fun x7 =>
 some x7
theorem oB (x : Int) (r : Int) (H : im x = some r) :
  ba Tryz.prog 122 [(.val (.int .u64 x))] (af r) := by
 unfold im at H
 refine PH.ay Tryz.func122 Tryz.ntmps122 ?_
 refine al 1 tk rfl (ab (dE rfl (au (ab (aa (ak tk rfl ?_))))))
 obtain ⟨x7,h7,H⟩ := am H
 have s7 := rh x _ h7
 refine aq Tryz.call191 (dS.r) s7 ?_
 refine ak tk rfl (ac ?_)
 exact bB tk H rfl
def bi (x : List UInt8) (y : List UInt8) : Bool :=
 be (fV x) fun x6 =>
 cond x6
  (be (fV y) fun x9 =>
  cond (!x9)
   (true)
   ((Op.bytesLess x y)))
  ((Op.bytesLess x y))
theorem cr (x : List UInt8) (y : List UInt8) :
  ba Tryz.prog 187 [(.str x),(.str y)] (aG (bi x y)) := by
 obtain ⟨r,H⟩ : ∃ r,bi x y = r := ⟨_,rfl⟩
 rw [H]
 unfold bi at H
 refine PH.ay Tryz.func187 Tryz.ntmps187 ?_
 refine al 1 tk rfl (ab (aa (ak tk rfl ?_)))
 obtain ⟨x6,h6,H⟩ := bR H
 have s6 := mG x
 rw [h6] at s6
 refine aq Tryz.call242 (dS.r) s6 ?_
 refine ak tk rfl ?_
 refine bw rfl rfl rfl H (fun H=>?_) (fun H=>?_)
 ·refine ak tk rfl ?_
  obtain ⟨x9,h9,H⟩ := bR H
  have s9 := mG y
  rw [h9] at s9
  refine aq Tryz.call242 (dS.r) s9 ?_
  refine ag 3 tk rfl ?_
  refine bw rfl rfl rfl H (fun H=>?_) (fun H=>?_)
  ·refine ag 5 tk rfl (ac ?_)
   exact dP tk H rfl
  refine ag 5 tk rfl (ac ?_)
  exact dP tk H rfl
 refine ag 10 tk rfl (ac ?_)
 exact dP tk H rfl
def cF (sA : List (List UInt8)) (del : (List UInt8) → Option (Bool)) : Option (List (List UInt8)) :=
 ae (dv sA del) fun x10 =>
 ae (dC (x10.2.length = sA.length) ()) fun (_ : Unit) =>
 cond (x10.1 == (-1))
  (some x10.2)
  (ae (whileM (σ := List (List UInt8) × Int × Int) (ρ := Empty) (fun (s1 : List (List UInt8) × Int × Int) =>
   cond (decide (s1.2.2 < (s1.1.length : Int)))
    (ae (aC s1.1 s1.2.2) fun (x24 : List UInt8) =>
    ae (del x24) fun x28 =>
    cond (!x28)
     (ae (aC s1.1 s1.2.1) fun (_ : List UInt8) =>
     be (s1.1.set s1.2.1.toNat x24) fun (y4 : List (List UInt8)) =>
     some (.next (y4,(IntKind.i64.wrap (s1.2.1 + (1 : Int))),(IntKind.i64.wrap (s1.2.2 + (1 : Int))))))
     (some (.next (s1.1,s1.2.1,(IntKind.i64.wrap (s1.2.2 + (1 : Int)))))))
    (some (.brk (s1.1,s1.2.1,s1.2.2)))) (x10.2,x10.1,(IntKind.i64.wrap (x10.1 + (1 : Int))))) fun fl1=>fl1.thenP fun (s1 : List (List UInt8) × Int × Int) =>
  ae (cutI s1.1 s1.2.1) fun (y5 : List (List UInt8)) =>
  ae (cutI y5 s1.2.1) fun (y6 : List (List UInt8)) =>
  some y6)
theorem kI (g_sA : OwnRef) {g_del : FuncId} {caps_del : List PV} (sA : List (List UInt8)) (del : (List UInt8) → Option (Bool)) (hg_del : ∀ (vs : Array Value) (w : World),(callFunc g_del vs).run Tryz.prog w = .ok (.enter g_del vs) w) (hp_del : ∀ a0 r,del a0 = some r → ba Tryz.prog g_del ((.str a0) :: caps_del) (aG r)) (r : List (List UInt8)) (H : cF sA del = some r) :
  PH Tryz.prog 78 [(.own 0 g_sA (sA.map ah).length),(.fn g_del caps_del)] ⟨fun _=>none,upd (fun _=>none) 0 (some ⟨g_sA,9,(sA.map ah),true⟩)⟩ (fun u H=>u = .own 0 g_sA (r.map ah).length ∧ H = ⟨fun _=>none,upd (fun _=>none) 0 (some ⟨g_sA,9,(r.map ah),true⟩)⟩) := by
 unfold cF at H
 refine PH.ay Tryz.func78 Tryz.ntmps78 ?_
 refine al 1 tk rfl (ab (aa (ag 2 tk rfl ?_)))
 obtain ⟨x10,h10,H⟩ := am H
 have s10 := ku g_sA sA del hg_del hp_del _ h10
 obtain ⟨_,q10_0,H⟩ := am H
 have l10_0 := (bX q10_0).1
 have z10_0 : (List.map ah sA).length = (List.map ah x10.2).length := by simpa using (l10_0).symm
 refine ci (g := 76) rfl rfl rfl Tryz.call76 [] [(0,0)] rfl rfl rfl rfl (dS.of2 (ie.cons (mH.own rfl) (ie.cons (mH.of_eq rfl) ie.nil))) (by rw [bT,bL,bS]; rfl) s10 ?_
 rintro u10 H10h ⟨rfl,rfl⟩
 refine ⟨_,rfl,?_⟩
 refine cI (st' := ⟨_,_,fun _=>none,upd (fun _=>none) 0 (some ⟨g_sA,9,(x10.2.map ah),true⟩)⟩) (Gh.le (bZ _ _) aD (aU aE)) ?_
 refine ak tk rfl (ac (ab (al 2 tk rfl ?_)))
 refine aL rfl H (fun H=>?_) (fun H=>?_)
 ·refine al 2 tk rfl ?_
  obtain rfl := ax H
  refine cq (st' := ⟨42,upd (fun _=>.any) 4 (.own 0 g_sA (sA.map ah).length),fun _=>none,upd (fun _=>none) 0 (some ⟨g_sA,9,(x10.2.map ah),true⟩)⟩) (Gh.le (ao aP) aD (aU aE)) ?_
  refine dZ tk rfl (ps := [(.own 0 g_sA (sA.map ah).length)]) ⟨_,_,rfl,rfl,rfl⟩ (PLe.of2 (mH.own z10_0)) ⟨rfl,rfl⟩
 refine au (ab (al 3 tk rfl ?_))
 obtain ⟨fl1,H1,Hp1⟩ := am H
 refine dU (τ := List (List UInt8) × Int × Int) (γ := Unit) (fun s1 g1=>⟨42,upd (upd (fun _=>.any) 5 (af s1.2.1)) 0 (.own 0 g_sA (s1.1.map ah).length),fun _=>none,upd (fun _=>none) 0 (some ⟨g_sA,9,(s1.1.map ah),true⟩)⟩) (fun t=>fl1 = .next t) ?_ (fun s1 g1 hn1=>?_)
 ·refine az ?_
  refine dA (fun s1 g1=>⟨42,upd (upd (upd (upd (fun _=>.any) 6 (af s1.2.2)) 5 (af s1.2.1)) 1 (.fn g_del caps_del)) 0 (.own 0 g_sA (s1.1.map ah).length),fun _=>none,upd (fun _=>none) 0 (some ⟨g_sA,9,(s1.1.map ah),true⟩)⟩) () H1 (Gh.le (bp (PLe.of2 (mH.of_eq (congrArg (PV.own 0 g_sA) z10_0))) (ao (ao (ao aP)))) aD (aU aE)) (fun m1 s1 g1 hr1=>?_)
  obtain ⟨fb1,H,hg1⟩ := ct hr1
  refine ab (ab (aa (ag 2 tk rfl (io tk (zl _) ?_))))
  refine ak tk rfl (ac ?_)
  refine aL rfl H (fun H=>?_) (fun H=>?_)
  ·refine au (ab (az (ab (aa (ag 2 tk rfl ?_)))))
   obtain ⟨x24,k24,H⟩ := aT H
   refine jF (tag := 0) rfl (fun ho0=>?_)
   refine jw tk ⟨k24.1,(aV k24.2)⟩ (bd ho0 k24.2) ?_
   refine nS tk rfl rfl rfl rfl rfl rfl rfl (aJ (fun _=>rfl) k24.2) rfl rfl ?_
   refine ak tk rfl (ac (ab (aa (ag 2 tk rfl ?_))))
   obtain ⟨x28,h28,H⟩ := am H
   refine aq hg_del (dS.r) (hp_del _ _ h28) ?_
   refine ak tk rfl (ac ?_)
   refine aL rfl H (fun H=>?_) (fun H=>?_)
   ·refine ab (aa (ag 3 tk rfl ?_))
    obtain ⟨x33,k33,H⟩ := aT H
    refine jF (tag := 0) rfl (fun ho0=>?_)
    refine jw tk ⟨k33.1,(aV k33.2)⟩ (bd ho0 k33.2) ?_
    obtain ⟨y4,hy4,H⟩ := bR H
    refine lg tk rfl rfl rfl rfl rfl rfl rfl rfl (by rw [zl]; exact (zg.1 k33.2).1) (PLe.refl _ _) rfl rfl rfl rfl (by decide) (bD (fun _=>rfl) k33.2 rfl hy4) ?_
    refine ac (bm 3 tk rfl (aR (bm 3 tk rfl ?_)))
    obtain rfl := ax H
    refine cz (y4,(IntKind.i64.wrap (s1.2.1 + (1 : Int))),(IntKind.i64.wrap (s1.2.2 + (1 : Int)))) () hg1 (Gh.le (bp (PLe.of2 (mH.of_eq (congrArg (PV.own 0 g_sA) (bf (f := ah) hy4)))) (ao (ao (ao aP)))) aD (aU aE))
   refine au (aR (bm 3 tk rfl ?_))
   obtain rfl := ax H
   refine cz (s1.1,s1.2.1,(IntKind.i64.wrap (s1.2.2 + (1 : Int)))) () hg1 Gh.d
  refine bF rfl ?_
  obtain rfl := ax H
  refine aQ (s1.1,s1.2.1,s1.2.2) () hg1 Gh.d
 have H := cw hn1 Hp1
 refine ab (aa (ag 2 tk rfl ?_))
 obtain ⟨y5,hy5,H⟩ := am H
 have ky5 := mE hy5
 refine rV (tag := 0) rfl (fun hcy5=>?_)
 have hny5 : (s1.1.map ah).length = (List.map ah s1.1).length := rfl
 have hmy5 := ky5.2.1
 rw [← zl (f := ah),← hny5] at hmy5
 rw [← hny5] at hcy5
 refine rT (l := s1.2.1.toNat) (h := (s1.1.map ah).length) (m := g_sA.cap) tk rfl rfl rfl rfl rfl rfl ⟨_,_,rfl,(Int.toNat_of_nonneg ky5.1).symm⟩ rfl rfl (by decide) hmy5 hcy5 (Nat.le_refl _) rfl (cI (Gh.cutO (tag := 0) (rows' := List.map ah y5) rfl s1.2.1.toNat (by rw [← List.map_take,ky5.2.2])) ?_)
 refine rZ (tag := 0) (rows := List.map ah y5) tk rfl rfl rfl rfl rfl rfl rfl rfl rfl (p := s1.2.1.toNat) (q := (s1.1.map ah).length) (m := g_sA.cap) (by rw [zl,ky5.2.2,List.length_take]; exact Nat.min_le_left _ _) hmy5 hcy5 (Nat.le_refl _) rfl ?_
 refine ac (ab (aa (ag 2 tk rfl ?_)))
 obtain ⟨y6,hy6,H⟩ := am H
 have ky6 := mE hy6
 refine sk (rows' := List.map ah y6) tk rfl rfl rfl rfl rfl rfl rfl rfl ⟨ky6.1,by rw [zl]; exact ky6.2.1⟩ (by rw [← List.map_take,ky6.2.2]) rfl rfl ?_
 refine ak tk rfl (ac ?_)
 obtain rfl := ax H
 refine cq (st' := ⟨42,upd (fun _=>.any) 4 (.own 0 g_sA (y6.map ah).length),fun _=>none,upd (fun _=>none) 0 (some ⟨g_sA,9,(y6.map ah),true⟩)⟩) (Gh.le (ao aP) aD (aU aE)) ?_
 refine dZ tk rfl (ps := [(.own 0 g_sA (y6.map ah).length)]) ⟨_,_,rfl,rfl,rfl⟩ (PLe.of2 (mH.own rfl)) ⟨rfl,rfl⟩
def eS (t : LTable) : Option (Int) :=
 ae (fo t.name) fun x11 =>
 cond (!x11)
  (some 23)
  (cond ((t.columns.length : Int) == (0 : Int))
   (some 3)
   (cond (decide ((t.columns.length : Int) > (6 : Int)))
    (some 2)
    (ae (aM (σ := Unit) (ρ := (Int)) (fun (j1 : Nat) (x1 : LCol) (_ : Unit) =>
     ae (fo x1.name) fun x31 =>
     cond (!x31)
      (some (.ret 23))
      (ae (fK t x1.name) fun x37 =>
      cond (decide (x37.1 < (j1 : Int)))
       (some (.ret 5))
       (cond (decide (x1.kind < (1 : Int)))
        (some (.ret 7))
        (cond (decide (x1.kind > (3 : Int)))
         (some (.ret 7))
         (some (.next ())))))) 0 t.columns ()) fun fl1=>fl1.thenR fun (_ : Unit) =>
    ae (aM (σ := Unit) (ρ := (Int)) (fun (j2 : Nat) (x2 : Int) (_ : Unit) =>
     cond (decide (x2 < (0 : Int)))
      (some (.ret 9))
      (cond (decide (x2 ≥ (t.columns.length : Int)))
       (some (.ret 9))
       (ae (aC t.columns x2) fun (x73 : LCol) =>
       cond x73.nullable
        (some (.ret 9))
        (cond (decide ((j2 : Int) > (0 : Int)))
         (ae (aC t.primaryKey (IntKind.i64.wrap ((j2 : Int) - (1 : Int)))) fun (x86 : Int) =>
         cond (decide (x2 ≤ x86))
          (some (.ret 9))
          (some (.next ())))
         (some (.next ())))))) 0 t.primaryKey ()) fun fl2=>fl2.thenR fun (_ : Unit) =>
    cond ((t.primaryKey.length : Int) == (0 : Int))
     (some 9)
     (some 0))))
theorem oJ (t : LTable) (r : Int) (H : eS t = some r) :
  ba Tryz.prog 63 [(.agg (dz t))] (af r) := by
 unfold eS at H
 refine PH.ay Tryz.func63 Tryz.ntmps63 ?_
 refine ab (aa (aS ?_))
 refine ak tk rfl (ac (ab (ab (aa (ag 2 tk rfl ?_)))))
 obtain ⟨x11,h11,H⟩ := am H
 have s11 := mu t.name _ h11
 refine aq Tryz.call102 (dS.r) s11 ?_
 refine ak tk rfl (ac ?_)
 refine aL rfl H (fun H=>?_) (fun H=>?_)
 ·refine al 1 tk rfl ?_
  exact bB tk H rfl
 refine au (ab (ab (aa (ag 2 tk rfl (aK tk (zl _) ?_)))))
 refine ak tk rfl (ac ?_)
 refine aL rfl H (fun H=>?_) (fun H=>?_)
 ·refine al 1 tk rfl ?_
  exact bB tk H rfl
 refine au (ab (ab (aa (ag 2 tk rfl (aK tk (zl _) ?_)))))
 refine ak tk rfl (ac ?_)
 refine aL rfl H (fun H=>?_) (fun H=>?_)
 ·refine al 1 tk rfl ?_
  exact bB tk H rfl
 refine au (ab (ab (aa (ag 2 tk rfl (aK tk (zl _) ?_)))))
 refine ak tk rfl (ac ?_)
 refine gY tk 24 23 22 (fun s1 g1=>upd (fun _=>.any) 1 (.ptr (dz t))) nB nO () H (fun fl1 Hp1 j1 s1 g1 hz1 hl1 x1 fb1 hx1 H hg1=>?_) (fun s1 g1 H=>?_)
 ·refine ab (az (ab (aa (ak tk rfl ?_))))
  refine bn tk (zn j1) (bC (fun _=>rfl) hx1) ?_
  refine ak tk rfl ?_
  refine aX tk fun b4=>?_
  refine ak tk rfl (av tk ?_)
  refine ac (ab (ab (aa (ak tk rfl (aB tk ?_)))))
  obtain ⟨x31,h31,H⟩ := am H
  have s31 := mu x1.name _ h31
  refine aq Tryz.call102 (dS.r) s31 ?_
  refine ak tk rfl (ac ?_)
  refine aL rfl H (fun H=>?_) (fun H=>?_)
  ·refine al 1 tk rfl ?_
   obtain rfl := ax H
   have e1 : fl1 = .ret _ := hg1
   subst e1
   obtain rfl := bq Hp1
   refine bQ tk rfl (ps := [(af 23)]) ⟨_,_,rfl,rfl,rfl⟩ (PLe.q rfl)
  refine au (ab (ab (aa (ag 2 tk rfl (aB tk ?_)))))
  obtain ⟨x37,h37,H⟩ := am H
  have s37 := qn t x1.name _ h37
  refine aq Tryz.call103 (dS.r) s37 ?_
  refine ag 5 tk rfl (ac (al 3 tk rfl ?_))
  refine aL rfl H (fun H=>?_) (fun H=>?_)
  ·refine al 1 tk rfl ?_
   obtain rfl := ax H
   have e1 : fl1 = .ret _ := hg1
   subst e1
   obtain rfl := bq Hp1
   refine bQ tk rfl (ps := [(af 5)]) ⟨_,_,rfl,rfl,rfl⟩ (PLe.q rfl)
  refine au (ab (aa (ak tk rfl (aB tk ?_))))
  refine ag 2 tk rfl ?_
  refine bw rfl rfl rfl H (fun H=>?_) (fun H=>?_)
  ·refine ag 4 tk rfl (ac (dG rfl (al 1 tk rfl ?_)))
   obtain rfl := ax H
   have e1 : fl1 = .ret _ := hg1
   subst e1
   obtain rfl := bq Hp1
   refine bQ tk rfl (ps := [(af 7)]) ⟨_,_,rfl,rfl,rfl⟩ (PLe.q rfl)
  refine ak tk rfl (aB tk ?_)
  refine ag 2 tk rfl (ac ?_)
  refine aL rfl H (fun H=>?_) (fun H=>?_)
  ·refine al 1 tk rfl ?_
   obtain rfl := ax H
   have e1 : fl1 = .ret _ := hg1
   subst e1
   obtain rfl := bq Hp1
   refine bQ tk rfl (ps := [(af 7)]) ⟨_,_,rfl,rfl,rfl⟩ (PLe.q rfl)
  refine au (aR (bm 2 tk rfl ?_))
  exact bO () H hl1 hg1
 refine ab (ab (aa (ag 2 tk rfl (aK tk (zl _) ?_))))
 refine ak tk rfl (ac ?_)
 refine gY tk 55 54 53 (fun s2 g2=>upd (fun _=>.any) 1 (.ptr (dz t))) nB nO () H (fun fl2 Hp2 j2 s2 g2 hz2 hl2 x2 fb2 hx2 H hg2=>?_) (fun s2 g2 H=>?_)
 ·refine ab (az (ab (aa (ak tk rfl ?_))))
  refine bn tk (zn j2) (bC (fun _=>rfl) hx2) ?_
  refine ag 3 tk rfl (ac (ab (aa (ag 3 tk rfl ?_))))
  refine bw rfl rfl rfl H (fun H=>?_) (fun H=>?_)
  ·refine ag 28 tk rfl (ac (dG rfl (al 1 tk rfl ?_)))
   obtain rfl := ax H
   have e2 : fl2 = .ret _ := hg2
   subst e2
   obtain rfl := bq Hp2
   refine bQ tk rfl (ps := [(af 9)]) ⟨_,_,rfl,rfl,rfl⟩ (PLe.q rfl)
  refine ag 3 tk rfl (aK tk (zl _) ?_)
  refine ag 3 tk rfl ?_
  refine bw rfl rfl rfl H (fun H=>?_) (fun H=>?_)
  ·refine ag 21 tk rfl (ac (dG rfl (al 1 tk rfl ?_)))
   obtain rfl := ax H
   have e2 : fl2 = .ret _ := hg2
   subst e2
   obtain rfl := bq Hp2
   refine bQ tk rfl (ps := [(af 9)]) ⟨_,_,rfl,rfl,rfl⟩ (PLe.q rfl)
  refine ag 3 tk rfl ?_
  obtain ⟨x73,k73,H⟩ := aT H
  refine bn tk k73.1 (aJ (fun _=>rfl) k73.2) ?_
  refine ag 4 tk rfl ?_
  refine bw rfl rfl rfl H (fun H=>?_) (fun H=>?_)
  ·refine ag 13 tk rfl (ac (dG rfl (al 1 tk rfl ?_)))
   obtain rfl := ax H
   have e2 : fl2 = .ret _ := hg2
   subst e2
   obtain rfl := bq Hp2
   refine bQ tk rfl (ps := [(af 9)]) ⟨_,_,rfl,rfl,rfl⟩ (PLe.q rfl)
  refine ag 3 tk rfl ?_
  refine bw rfl rfl rfl H (fun H=>?_) (fun H=>?_)
  ·refine ag 5 tk rfl ?_
   obtain ⟨x86,k86,H⟩ := aT H
   refine bn tk k86.1 (aJ (fun _=>rfl) k86.2) ?_
   refine ag 4 tk rfl (ac ?_)
   refine aL rfl H (fun H=>?_) (fun H=>?_)
   ·refine al 1 tk rfl ?_
    obtain rfl := ax H
    have e2 : fl2 = .ret _ := hg2
    subst e2
    obtain rfl := bq Hp2
    refine bQ tk rfl (ps := [(af 9)]) ⟨_,_,rfl,rfl,rfl⟩ (PLe.q rfl)
   refine au (aR (bm 2 tk rfl ?_))
   exact bO () H hl2 hg2
  refine ag 10 tk rfl (ac (dE rfl (au (aR (bm 2 tk rfl ?_)))))
  exact bO () H hl2 hg2
 refine ab (ab (aa (ag 2 tk rfl (aK tk (zl _) ?_))))
 refine ak tk rfl (ac ?_)
 refine aL rfl H (fun H=>?_) (fun H=>?_)
 ·refine al 1 tk rfl ?_
  exact bB tk H rfl
 refine au (al 1 tk rfl ?_)
 exact bB tk H rfl
def eF (sA : LSchema) (fk : LForeignKey) : Option (Int) :=
 ae (fm sA fk.table) fun x17 =>
 ae (fm sA fk.refTable) fun x24 =>
 be (
  cond (!x17.2)
   (true)
   ((!x24.2))) fun (t1 : Bool) =>
 cond t1
  (some 4)
  (ae (aC sA.tables x17.1) fun (x36 : LTable) =>
  ae (aC sA.tables x24.1) fun (x41 : LTable) =>
  cond ((fk.columns.length : Int) != (x41.primaryKey.length : Int))
   (some 3)
   (ae (aM (σ := Unit) (ρ := (Int)) (fun (j2 : Nat) (x2 : Int) (_ : Unit) =>
    be (
     cond (decide (x2 < (0 : Int)))
      (true)
      ((decide (x2 ≥ (x36.columns.length : Int))))) fun (t4 : Bool) =>
    cond t4
     (some (.ret 3))
     (ae (aC x36.columns x2) fun (x70 : LCol) =>
     ae (aC x41.primaryKey (j2 : Int)) fun (x78 : Int) =>
     ae (aC x41.columns x78) fun (x80 : LCol) =>
     cond (x70.kind != x80.kind)
      (some (.ret 7))
      (some (.next ())))) 0 fk.columns ()) fun fl2=>fl2.thenR fun (_ : Unit) =>
   some 0))
theorem mq (sA : LSchema) (fk : LForeignKey) (r : Int) (H : eF sA fk = some r) :
  ba Tryz.prog 64 [(.agg (bK sA)),(.agg (iH fk))] (af r) := by
 unfold eF at H
 refine PH.ay Tryz.func64 Tryz.ntmps64 ?_
 refine ab (aa (aS ?_))
 refine aS ?_
 refine ak tk rfl (ac (ab (aa (ag 3 tk rfl ?_))))
 obtain ⟨x17,h17,H⟩ := am H
 have s17 := kq sA fk.table _ h17
 refine aq Tryz.call104 (dS.r) s17 ?_
 refine ag 5 tk rfl (ac (ab (aa (ag 3 tk rfl ?_))))
 obtain ⟨x24,h24,H⟩ := am H
 have s24 := kq sA fk.refTable _ h24
 refine aq Tryz.call104 (dS.r) s24 ?_
 refine ag 5 tk rfl (ac (ab (ab ?_)))
 refine ff (γ := Unit) (fun t1 g1=>⟨85,upd (upd (upd (upd (upd (fun _=>.any) 32 (aG t1)) 7 (af x24.1)) 5 (af x17.1)) 3 (.ptr (iH fk))) 2 (.ptr (bK sA)),fun _=>none,fun _=>none⟩) H (fun _ H=>?_) (fun t1 g1 H=>?_)
 ·refine aa (ag 3 tk rfl ?_)
  refine bw rfl rfl rfl H (fun H=>?_) (fun H=>?_)
  ·refine ag 3 tk rfl (ac ?_)
   refine aQ _ () H Gh.d
  refine ag 3 tk rfl (ac ?_)
  refine aQ _ () H Gh.d
 refine aL rfl H (fun H=>?_) (fun H=>?_)
 ·refine al 1 tk rfl ?_
  exact bB tk H rfl
 refine au (ab (bj tk mok ⟨false,false,[]⟩ [0,1,2,3,4,5,6,7,8,9,10,11,12,13] rfl (by decide +kernel) rfl (aI 3 rfl ?_)))
 obtain ⟨x36,k36,H⟩ := aT H
 refine dN k36.1 (aJ (fun _=>rfl) k36.2) ?_
 refine aI 4 rfl ?_
 obtain ⟨x41,k41,H⟩ := aT H
 refine dN k41.1 (aJ (fun _=>rfl) k41.2) ?_
 refine bN rfl ?_
 refine se rfl rfl rfl rfl rfl rfl rfl rfl fun b9=>?_
 refine se rfl rfl rfl rfl rfl rfl rfl rfl fun b10=>?_
 refine fE rfl rfl rfl rfl rfl rfl rfl rfl rfl rfl rfl rfl (fE rfl rfl rfl rfl rfl rfl rfl rfl rfl rfl rfl rfl (aY (ab (ab (aa (ag 2 tk rfl (aK tk (zl _) ?_)))))))
 refine ak tk rfl (aB tk ?_)
 refine aK tk (zl _) ?_
 refine ak tk rfl (ac ?_)
 refine aL rfl H (fun H=>?_) (fun H=>?_)
 ·refine al 1 tk rfl ?_
  exact bB tk H rfl
 refine au (ab (ab (aa (ag 2 tk rfl (aK tk (zl _) ?_)))))
 refine ak tk rfl (ac ?_)
 obtain ⟨fl2,H2,Hp2⟩ := am H
 refine iB tk 51 rfl rfl (fun hz2 _=>?_)
 rw [zl] at hz2
 refine dU (τ := Unit) (γ := Unit) (fun s2 g2=>⟨85,fun _=>.any,fun _=>none,fun _=>none⟩) (fun t=>fl2 = .next t) ?_ (fun s2 g2 hn2=>?_)
 ·refine az ?_
  refine km (fun j2 s2 g2=>⟨85,upd (upd (upd (upd (upd (fun _=>.any) 53 (af (j2 : Int))) 52 (af (fk.columns.length : Int))) 51 (.list 3 (fk.columns.map bP))) 10 (.box 10 b10 0)) 9 (.box 9 b9 0),upd (upd (fun _=>none) 10 (some ⟨b10,(dz x41)⟩)) 9 (some ⟨b9,(dz x36)⟩),fun _=>none⟩) () H2 Gh.d (fun j2 s2 g2 hj2 hr2=>?_)
  refine al 1 tk rfl (ab ?_)
  refine du rfl (fun h=>?_) (fun h=>?_)
  ·have hl2 := rowsLt h
   obtain ⟨x2,fb2,hx2,H,hg2⟩ := rMc hl2 hr2
   refine au (ab (az (ab (aa (ak tk rfl ?_)))))
   refine bn tk (zn j2) (bC (fun _=>rfl) hx2) ?_
   refine ag 3 tk rfl (ac (ab (ab ?_)))
   refine ff (γ := Unit) (fun t4 g4=>⟨85,upd (upd (upd (upd (upd (upd (upd (upd (fun _=>.any) 66 (aG t4)) 53 (af (j2 : Int))) 52 (af (fk.columns.length : Int))) 51 (.list 3 (fk.columns.map bP))) 12 (af x2)) 11 (af (j2 : Int))) 10 (.box 10 b10 0)) 9 (.box 9 b9 0),upd (upd (fun _=>none) 10 (some ⟨b10,(dz x41)⟩)) 9 (some ⟨b9,(dz x36)⟩),fun _=>none⟩) H (fun _ H=>?_) (fun t4 g4 H=>?_)
   ·refine aa (ag 3 tk rfl ?_)
    refine bw rfl rfl rfl H (fun H=>?_) (fun H=>?_)
    ·refine ag 6 tk rfl (ac ?_)
     refine aQ _ () H Gh.d
    refine ag 2 tk rfl (aB tk ?_)
    refine aK tk (zl _) ?_
    refine ag 2 tk rfl (ac ?_)
    refine aQ _ () H Gh.d
   refine aL rfl H (fun H=>?_) (fun H=>?_)
   ·refine al 1 tk rfl ?_
    obtain rfl := ax H
    have e2 : fl2 = .ret _ := hg2
    subst e2
    obtain rfl := bq Hp2
    refine bQ tk rfl (ps := [(af 3)]) ⟨_,_,rfl,rfl,rfl⟩ (PLe.q rfl)
   refine au (ab (bj tk mok ⟨true,false,[72,79,82]⟩ [0,1,2,3,4,5,6,7,8,9,10,11,12,13,14,15,16] rfl (by decide +kernel) rfl (bN rfl (bh ?_))))
   refine bN rfl ?_
   obtain ⟨x70,k70,H⟩ := aT H
   refine dN k70.1 (aJ (fun _=>rfl) k70.2) ?_
   refine aI 3 rfl (bh ?_)
   refine bN rfl (bh ?_)
   refine bN rfl ?_
   obtain ⟨x78,k78,H⟩ := aT H
   refine dN k78.1 (aJ (fun _=>rfl) k78.2) ?_
   refine bN rfl ?_
   obtain ⟨x80,k80,H⟩ := aT H
   refine dN k80.1 (aJ (fun _=>rfl) k80.2) ?_
   refine aI 3 rfl (aY ?_)
   refine aL rfl H (fun H=>?_) (fun H=>?_)
   ·refine al 1 tk rfl ?_
    obtain rfl := ax H
    have e2 : fl2 = .ret _ := hg2
    subst e2
    obtain rfl := bq Hp2
    refine bQ tk rfl (ps := [(af 7)]) ⟨_,_,rfl,rfl,rfl⟩ (PLe.q rfl)
   refine au (aR (bm 2 tk rfl ?_))
   exact bO () H hl2 hg2
  have hn2 := rMd (rowsGe h) hr2
  refine bF rfl ?_
  refine aQ s2 g2 hn2 Gh.d
 have H := jx hn2 Hp2
 refine al 1 tk rfl ?_
 exact bB tk H rfl
def fI (other : LForeignKey) (c0 : LForeignKey) : Option (Bool) :=
 ae (fY other c0) fun x6 =>
 some x6
theorem ql (other : LForeignKey) (c0 : LForeignKey) (r : Bool) (H : fI other c0 = some r) :
  ba Tryz.prog 66 [(.agg (iH other)),(.ptr (iH c0))] (aG r) := by
 unfold fI at H
 refine PH.ay Tryz.func66 Tryz.ntmps66 ?_
 refine ab (aa (aS ?_))
 refine ak tk rfl (ac (ab (aa (ag 2 tk rfl ?_))))
 obtain ⟨x6,h6,H⟩ := am H
 have s6 := mX other c0 _ h6
 refine aq Tryz.call67 (dS.r) s6 ?_
 refine ak tk rfl (ac ?_)
 exact bB tk H rfl
def jM (a : LVal) (b : LVal) : Int :=
 be (gO a.kind b.kind) fun x11 =>
 cond (x11 != (0 : Int))
  (x11)
  (be (gO a.int b.int) fun x19 =>
  cond (x19 != (0 : Int))
   (x19)
   (be (je a.text b.text) fun x27 =>
   x27))
theorem rP (a : LVal) (b : LVal) :
  ba Tryz.prog 123 [(.agg (hJ a)),(.agg (hJ b))] (af (jM a b)) := by
 obtain ⟨r,H⟩ : ∃ r,jM a b = r := ⟨_,rfl⟩
 rw [H]
 unfold jM at H
 refine PH.ay Tryz.func123 Tryz.ntmps123 ?_
 refine ab (aa (aS ?_))
 refine aS ?_
 refine ak tk rfl (ac (ab (ab (aa (ag 4 tk rfl ?_)))))
 obtain ⟨x11,h11,H⟩ := bR H
 have s11 := lN a.kind b.kind
 rw [h11] at s11
 refine aq Tryz.call124 (dS.r) s11 ?_
 refine ak tk rfl (ac (al 2 tk rfl ?_))
 refine aL rfl H (fun H=>?_) (fun H=>?_)
 ·refine al 2 tk rfl ?_
  exact dP tk H rfl
 refine au (ab (ab (aa (ag 4 tk rfl ?_))))
 obtain ⟨x19,h19,H⟩ := bR H
 have s19 := lN a.int b.int
 rw [h19] at s19
 refine aq Tryz.call124 (dS.r) s19 ?_
 refine ak tk rfl (ac (al 2 tk rfl ?_))
 refine aL rfl H (fun H=>?_) (fun H=>?_)
 ·refine al 2 tk rfl ?_
  exact dP tk H rfl
 refine au (ab (aa (ag 4 tk rfl ?_)))
 obtain ⟨x27,h27,H⟩ := bR H
 have s27 := rj a.text b.text
 rw [h27] at s27
 refine aq Tryz.call192 (dS.r) s27 ?_
 refine ak tk rfl (ac ?_)
 exact dP tk H rfl
def dr (kinds : List Int) (c0 : LQuery) : Option (Bool) :=
 ae (eP kinds c0.kind) fun x7 =>
 some x7
theorem eX (kinds : List Int) (c0 : LQuery) (r : Bool) (H : dr kinds c0 = some r) :
  ba Tryz.prog 229 [(.list 3 (kinds.map bP)),(.ptr (aA c0))] (aG r) := by
 unfold dr at H
 refine PH.ay Tryz.func229 Tryz.ntmps229 ?_
 refine al 1 tk rfl (ab (aa (ag 3 tk rfl ?_)))
 obtain ⟨x7,h7,H⟩ := am H
 have s7 := mK kinds c0.kind _ h7
 refine aq Tryz.call13 (dS.r) s7 ?_
 refine ak tk rfl (ac ?_)
 exact bB tk H rfl
def el (name : List UInt8) (c0 : List (List UInt8)) : Option (Bool) :=
 ae (bv c0 name) fun x6 =>
 some x6
theorem nh (name : List UInt8) (c0 : List (List UInt8)) (r : Bool) (H : el name c0 = some r) :
  ba Tryz.prog 37 [(.str name),(.ptr [(.list 9 (c0.map ah))])] (aG r) := by
 unfold el at H
 refine PH.ay Tryz.func37 Tryz.ntmps37 ?_
 refine al 1 tk rfl (ab (aa (ag 2 tk rfl ?_)))
 obtain ⟨x6,h6,H⟩ := am H
 have s6 := dI c0 name _ h6
 refine aq Tryz.call38 (dS.r) s6 ?_
 refine ak tk rfl (ac ?_)
 exact bB tk H rfl
def iN (l : List LExpr) : Option ((List LExpr)) :=
 ae (aM (σ := List LExpr) (ρ := Empty) (fun (_ : Nat) (x1 : LExpr) (s1 : List LExpr) =>
  ae (jh x1) fun x14 =>
  ae (dF 88 s1 ([x14] : List LExpr)) fun (x16 : List LExpr) =>
  some (.next x16)) 0 l []) fun fl1=>fl1.thenP fun (s1 : List LExpr) =>
 some s1
theorem qi (l : List LExpr) (r : (List LExpr)) (H : iN l = some r) :
  ba Tryz.prog 75 [(.list 91 (l.map aF))] (.list 91 (r.map aF)) := by
 unfold iN at H
 refine PH.ay Tryz.func75 Tryz.ntmps75 ?_
 refine al 1 tk rfl (al 1 tk rfl (ab (ab (aa (ak tk rfl (aK tk (zl _) ?_))))))
 refine ak tk rfl (ac (lM tk 3 16 (e := 91) rfl rfl ?_))
 refine fC (γ := OwnRef) tk 8 7 6 (fun s1 g1=>upd (fun _=>.any) 3 (.own 16 g1 (s1.map aF).length)) nB (fun s1 g1=>upd (fun _=>none) 16 (some ⟨g1,91,(s1.map aF),true⟩)) (⟨none,0⟩) H (fun fl1 Hp1 j1 s1 g1 hz1 hl1 x1 fb1 hx1 H hg1=>?_) (fun s1 g1 H=>?_)
 ·refine ab (az (ab (aa (bn tk (zn j1) (bC cb hx1) ?_))))
  refine ak tk rfl ?_
  refine aX tk fun b5=>?_
  refine av tk ?_
  refine ac (aa (ak tk rfl (aB tk ?_)))
  obtain ⟨x14,h14,H⟩ := am H
  have s14 := nA x1 _ h14
  refine aq Tryz.call74 (dS.r) s14 ?_
  refine ew tk (rows' := List.map aF ([x14] : List LExpr)) (eV.trans (b := List.map cG [x14]) (eV.refl _) (eV.of_eq (jG cb [x14]))) ?_
  obtain ⟨x16,h16,H⟩ := am H
  have k16 := cQ h16
  refine dq (rows2' := List.map aF ([x14] : List LExpr)) (rows' := List.map aF x16) tk rfl rfl rfl rfl rfl rfl rfl rfl rfl rfl rfl rfl rfl (eV.refl _) (eA k16.1) (et k16.2.1) (eB k16.2.2) fun g16=>?_
  refine ak tk rfl (ac (aR (bm 2 tk rfl ?_)))
  exact bO g16 H hl1 hg1
 refine al 2 tk rfl (ib 2 rfl rfl rfl ?_)
 exact bB tk H rfl
def fO (rec120 : LExpr → Int → (List (List UInt8)) → Option (List (List UInt8))) (e : LExpr) (kind : Int) (l : List (List UInt8)) : Option (List (List UInt8)) :=
 ae (
  cond (e.kind == kind)
   (ae (cE l e.name) fun x17 =>
   ae (dC (x17.2.length = l.length) ()) fun (_ : Unit) =>
   some (x17.2,(!x17.1)))
   (some (l,false))) fun (t1 : List (List UInt8) × Bool) =>
 ae (
  cond t1.2
   (ae (dF 16 t1.1 ([e.name] : List (List UInt8))) fun (x24 : List (List UInt8)) =>
   some x24)
   (some t1.1)) fun (t2 : List (List UInt8)) =>
 ae (aM (σ := List (List UInt8)) (ρ := Empty) (fun (_ : Nat) (x3 : LExpr) (s3 : List (List UInt8)) =>
  ae (rec120 x3 kind s3) fun x35 =>
  some (.next x35)) 0 e.args t2) fun fl3=>fl3.thenP fun (s3 : List (List UInt8)) =>
 some s3
theorem WO_expr_names (g_l : OwnRef) (rec120 : LExpr → Int → (List (List UInt8)) → Option (List (List UInt8))) (hrec120 : ∀ g2 a0 a1 a2 r,rec120 a0 a1 a2 = some r → PH Tryz.prog 120 [(.agg (cG a0)),(af a1),(.own 2 g2 (a2.map ah).length)] ⟨fun _=>none,upd (fun _=>none) 2 (some ⟨g2,9,(a2.map ah),true⟩)⟩ (fun u H=>∃ gz : OwnRef,u = .own 2 gz (r.map ah).length ∧ H = ⟨fun _=>none,upd (fun _=>none) 2 (some ⟨gz,9,(r.map ah),true⟩)⟩)) (e : LExpr) (kind : Int) (l : List (List UInt8)) (r : List (List UInt8)) (H : fO rec120 e kind l = some r) :
  PH Tryz.prog 120 [(.agg (cG e)),(af kind),(.own 2 g_l (l.map ah).length)] ⟨fun _=>none,upd (fun _=>none) 2 (some ⟨g_l,9,(l.map ah),true⟩)⟩ (fun u H=>∃ gz : OwnRef,u = .own 2 gz (r.map ah).length ∧ H = ⟨fun _=>none,upd (fun _=>none) 2 (some ⟨gz,9,(r.map ah),true⟩)⟩) := by
 unfold fO at H
 refine PH.ay Tryz.func120 Tryz.ntmps120 ?_
 refine ab (aa (aS ?_))
 refine ak tk rfl (ac (ab (ab ?_)))
 refine fp (γ := OwnRef) (fun t1 g1=>⟨38,upd (upd (upd (upd (fun _=>.any) 19 (aG t1.2)) 3 (.ptr (cG e))) 2 (.own 2 g1 (t1.1.map ah).length)) 1 (af kind),fun _=>none,upd (fun _=>none) 2 (some ⟨g1,9,(t1.1.map ah),true⟩)⟩) H (fun _ H=>?_) (fun t1 g1 H=>?_)
 ·refine aa (ag 5 tk rfl ?_)
  refine bw rfl rfl rfl H (fun H=>?_) (fun H=>?_)
  ·refine ag 3 tk rfl ?_
   obtain ⟨x17,h17,H⟩ := am H
   have s17 := kF g_l l e.name _ h17
   obtain ⟨_,q17_0,H⟩ := am H
   have l17_0 := (bX q17_0).1
   have z17_0 : (List.map ah l).length = (List.map ah x17.2).length := by simpa using (l17_0).symm
   refine ci (g := 38) rfl rfl rfl Tryz.call38 [] [(2,0)] rfl rfl rfl rfl (dS.of2 (ie.cons (mH.own rfl) (ie.cons (mH.of_eq rfl) ie.nil))) (by rw [bT,bL,bS]; rfl) s17 ?_
   rintro u17 H17h ⟨rfl,rfl⟩
   refine ⟨_,rfl,?_⟩
   refine cI (st' := ⟨_,_,fun _=>none,upd (fun _=>none) 2 (some ⟨g_l,9,(x17.2.map ah),true⟩)⟩) (Gh.le (bZ _ _) aD (aU aE)) ?_
   refine ag 2 tk rfl (ac ?_)
   refine aQ _ g_l (ax H) (Gh.le (ao (bp (PLe.of2 (mH.of_eq (congrArg (PV.own 2 g_l) z17_0))) (ao (ao aP)))) aD (aU aE))
  refine ag 6 tk rfl (ac ?_)
  refine aQ _ g_l (ax H) Gh.d
 refine fp (γ := OwnRef) (fun t2 g2=>⟨38,upd (upd (upd (fun _=>.any) 3 (.ptr (cG e))) 2 (.own 2 g2 (t2.map ah).length)) 1 (af kind),fun _=>none,upd (fun _=>none) 2 (some ⟨g2,9,(t2.map ah),true⟩)⟩) H (fun _ H=>?_) (fun t2 g2 H=>?_)
 ·refine aL rfl H (fun H=>?_) (fun H=>?_)
  ·refine aa (ag 3 tk rfl (ew tk (rows' := List.map ah ([e.name] : List (List UInt8))) (eV.refl _) ?_))
   obtain ⟨x24,h24,H⟩ := am H
   have k24 := cQ h24
   refine dq (rows2' := List.map ah ([e.name] : List (List UInt8))) (rows' := List.map ah x24) tk rfl rfl rfl rfl rfl rfl rfl rfl rfl rfl rfl rfl rfl (eV.refl _) (eA k24.1) (et k24.2.1) (eB k24.2.2) fun g24=>?_
   refine ak tk rfl (ac ?_)
   refine aQ _ g24 (ax H) Gh.d
  refine au ?_
  refine aQ _ g1 (ax H) Gh.d
 refine ab (ab (aa (ag 2 tk rfl (aK tk (zl _) ?_))))
 refine ak tk rfl (ac ?_)
 refine fC (γ := OwnRef) tk 28 27 26 (fun s3 g3=>upd (upd (fun _=>.any) 2 (.own 2 g3 (s3.map ah).length)) 1 (af kind)) nB (fun s3 g3=>upd (fun _=>none) 2 (some ⟨g3,9,(s3.map ah),true⟩)) g2 H (fun fl3 Hp3 j3 s3 g3 hz3 hl3 x3 fb3 hx3 H hg3=>?_) (fun s3 g3 H=>?_)
 ·refine ab (az (ab (aa (bn tk (zn j3) (bC cb hx3) ?_))))
  refine ak tk rfl ?_
  refine aX tk fun b8=>?_
  refine av tk ?_
  refine ac (aa (aB tk ?_))
  refine ag 2 tk rfl ?_
  obtain ⟨x35,h35,H⟩ := am H
  have s35 := hrec120 g3 x3 kind s3 _ h35
  refine ci (g := 120) rfl rfl rfl Tryz.call120 [] [(2,2)] rfl rfl rfl rfl (dS.of2 (ie.cons (mH.of_eq rfl) (ie.cons (mH.of_eq rfl) (ie.cons (mH.own rfl) ie.nil)))) (by rw [bT,bL,bS]; rfl) s35 ?_
  rintro u35 H35h ⟨gw35,rfl,rfl⟩
  refine ⟨_,rfl,?_⟩
  refine cI (st' := ⟨_,_,upd (fun _=>none) 8 (some ⟨b8,(cG x3)⟩),upd (fun _=>none) 2 (some ⟨gw35,9,(x35.map ah),true⟩)⟩) (Gh.le (bZ _ _) (aW rfl (dS.r) aD) (aU aE)) ?_
  refine lO 35 (q := (.own 2 gw35 (x35.map ah).length)) rfl (PLe.of2 (mH.own rfl)) (ak tk rfl (ac (aR (bm 2 tk rfl ?_))))
  exact bO gw35 H hl3 hg3
 refine al 2 tk rfl ?_
 obtain rfl := ax H
 refine cq (st' := ⟨38,upd (fun _=>.any) 6 (.own 2 g3 (s3.map ah).length),fun _=>none,upd (fun _=>none) 2 (some ⟨g3,9,(s3.map ah),true⟩)⟩) (Gh.le (ao aP) aD (aU aE)) ?_
 refine dZ tk rfl (ps := [(.own 2 g3 (s3.map ah).length)]) ⟨_,_,rfl,rfl,rfl⟩ (PLe.of2 (mH.own rfl)) ⟨_,rfl,rfl⟩
def ia : Nat → LExpr → Int → (List (List UInt8)) → Option (List (List UInt8))
 | 0,_,_,_=>none
 | n + 1,v0,v1,v2=>fO (fun b0 b1 b2=>ia n b0 b1 b2) v0 v1 v2
theorem WF_expr_names  (n : Nat) : (∀ g2 a0 a1 a2 r,ia n a0 a1 a2 = some r → PH Tryz.prog 120 [(.agg (cG a0)),(af a1),(.own 2 g2 (a2.map ah).length)] ⟨fun _=>none,upd (fun _=>none) 2 (some ⟨g2,9,(a2.map ah),true⟩)⟩ (fun u H=>∃ gz : OwnRef,u = .own 2 gz (r.map ah).length ∧ H = ⟨fun _=>none,upd (fun _=>none) 2 (some ⟨gz,9,(r.map ah),true⟩)⟩)) := by
 induction n with
 | zero=>exact (by intros; rename_i h; exact absurd (show (none : Option _) = some _ from h) (by simp))
 | succ n ih =>
  exact (fun g2 v0 v1 v2 r h=>WO_expr_names g2 (fun b0 b1 b2=>ia n b0 b1 b2) ih v0 v1 v2  r h)
def fL (e : LExpr) (kind : Int) (l : List (List UInt8)) : Option (List (List UInt8)) := gg fun n=>ia n e kind l
theorem W_expr_names (g_l : OwnRef) (e : LExpr) (kind : Int) (l : List (List UInt8)) (r : List (List UInt8)) (H : fL e kind l = some r) :
  PH Tryz.prog 120 [(.agg (cG e)),(af kind),(.own 2 g_l (l.map ah).length)] ⟨fun _=>none,upd (fun _=>none) 2 (some ⟨g_l,9,(l.map ah),true⟩)⟩ (fun u H=>∃ gz : OwnRef,u = .own 2 gz (r.map ah).length ∧ H = ⟨fun _=>none,upd (fun _=>none) 2 (some ⟨gz,9,(r.map ah),true⟩)⟩) := by
 obtain ⟨n,h⟩ := gG H
 exact (WF_expr_names  n) g_l e kind l r h
def da (data : List (List UInt8)) (a : Int) (b : Int) : Option ((List (List UInt8))) :=
 ae (whileM (σ := List (List UInt8) × Int) (ρ := Empty) (fun (s1 : List (List UInt8) × Int) =>
  cond (decide (s1.2 < b))
   (ae (whileM (σ := List (List UInt8) × Int) (ρ := Empty) (fun (s22 : List (List UInt8) × Int) =>
    ae (
     cond (decide (s22.2 > a))
      (ae (aC s22.1 s22.2) fun (x22 : List UInt8) =>
      ae (aC s22.1 (IntKind.i64.wrap (s22.2 - (1 : Int)))) fun (x27 : List UInt8) =>
      be (bi x22 x27) fun x29 =>
      some (s22.1,x29))
      (some (s22.1,false))) fun (t29 : List (List UInt8) × Bool) =>
    cond t29.2
     (ae (aC t29.1 (IntKind.i64.wrap (s22.2 - (1 : Int)))) fun (x41 : List UInt8) =>
     ae (aC t29.1 s22.2) fun (x45 : List UInt8) =>
     ae (aC t29.1 s22.2) fun (_ : List UInt8) =>
     be (t29.1.set s22.2.toNat x41) fun (y30 : List (List UInt8)) =>
     ae (aC y30 (IntKind.i64.wrap (s22.2 - (1 : Int)))) fun (_ : List UInt8) =>
     be (y30.set ((IntKind.i64.wrap (s22.2 - (1 : Int))).toNat) x45) fun (y31 : List (List UInt8)) =>
     some (.next (y31,(IntKind.i64.wrap (s22.2 - (1 : Int))))))
     (some (.brk (t29.1,s22.2)))) (s1.1,s1.2)) fun fl22=>fl22.thenP fun (s22 : List (List UInt8) × Int) =>
   some (.next (s22.1,(IntKind.i64.wrap (s1.2 + (1 : Int))))))
   (some (.brk (s1.1,s1.2)))) (data,(IntKind.i64.wrap (a + (1 : Int))))) fun fl1=>fl1.thenP fun (s1 : List (List UInt8) × Int) =>
 some s1.1
theorem ka (g_data : OwnRef) (data : List (List UInt8)) (a : Int) (b : Int) (r : (List (List UInt8))) (H : da data a b = some r) :
  PH Tryz.prog 181 [(.own 0 g_data (data.map ah).length),(af a),(af b)] ⟨fun _=>none,upd (fun _=>none) 0 (some ⟨g_data,9,(data.map ah),true⟩)⟩ (fun u H=>u = (.tup []) ∧ H = ⟨fun _=>none,upd (fun _=>none) 0 (some ⟨g_data,9,(r.map ah),true⟩)⟩) := by
 unfold da at H
 refine PH.ay Tryz.func181 Tryz.ntmps181 ?_
 refine al 3 tk rfl ?_
 obtain ⟨fl1,H1,Hp1⟩ := am H
 refine dU (τ := List (List UInt8) × Int) (γ := Unit) (fun s1 g1=>⟨49,upd (fun _=>.any) 0 (.own 0 g_data (s1.1.map ah).length),fun _=>none,upd (fun _=>none) 0 (some ⟨g_data,9,(s1.1.map ah),true⟩)⟩) (fun t=>fl1 = .next t) ?_ (fun s1 g1 hn1=>?_)
 ·refine az ?_
  refine dA (fun s1 g1=>⟨49,upd (upd (upd (upd (fun _=>.any) 6 (af s1.2)) 2 (af b)) 1 (af a)) 0 (.own 0 g_data (s1.1.map ah).length),fun _=>none,upd (fun _=>none) 0 (some ⟨g_data,9,(s1.1.map ah),true⟩)⟩) () H1 Gh.d (fun m1 s1 g1 hr1=>?_)
  obtain ⟨fb1,H,hg1⟩ := ct hr1
  refine ab (al 3 tk rfl ?_)
  refine aL rfl H (fun H=>?_) (fun H=>?_)
  ·refine au (ab (az (al 2 tk rfl ?_)))
   obtain ⟨fl22,H22,Hp22⟩ := am H
   refine dU (τ := List (List UInt8) × Int) (γ := Unit) (fun s22 g22=>⟨49,upd (upd (upd (upd (fun _=>.any) 6 (af s1.2)) 2 (af b)) 1 (af a)) 0 (.own 0 g_data (s22.1.map ah).length),fun _=>none,upd (fun _=>none) 0 (some ⟨g_data,9,(s22.1.map ah),true⟩)⟩) (fun t=>fl22 = .next t) ?_ (fun s22 g22 hn22=>?_)
   ·refine az ?_
    refine dA (fun s22 g22=>⟨49,upd (upd (upd (upd (upd (fun _=>.any) 7 (af s22.2)) 6 (af s1.2)) 2 (af b)) 1 (af a)) 0 (.own 0 g_data (s22.1.map ah).length),fun _=>none,upd (fun _=>none) 0 (some ⟨g_data,9,(s22.1.map ah),true⟩)⟩) () H22 Gh.d (fun m22 s22 g22 hr22=>?_)
    obtain ⟨fb22,H,hg22⟩ := ct hr22
    refine ab (ab ?_)
    refine fp (γ := Unit) (fun t29 g29=>⟨49,upd (upd (upd (upd (upd (upd (fun _=>.any) 30 (aG t29.2)) 7 (af s22.2)) 6 (af s1.2)) 2 (af b)) 1 (af a)) 0 (.own 0 g_data (t29.1.map ah).length),fun _=>none,upd (fun _=>none) 0 (some ⟨g_data,9,(t29.1.map ah),true⟩)⟩) H (fun _ H=>?_) (fun t29 g29 H=>?_)
    ·refine cA (tag := 0) rfl (fun ho0=>?_)
     refine bj tk mok ⟨false,true,[]⟩ [0,1,2,3,4,5,6,7,8,9,10,11,12,13,14] rfl (by decide +kernel) rfl (aI 4 rfl ?_)
     refine ir H (fun H=>?_) (fun H=>?_)
     ·refine aI 2 rfl ?_
      obtain ⟨x22,k22,H⟩ := aT H
      refine aH tk ⟨k22.1,(aV k22.2)⟩ (bd ho0 k22.2) ?_
      refine bc tk rfl rfl rfl rfl rfl rfl rfl rfl rfl (aJ (fun _=>rfl) k22.2) rfl rfl ?_
      refine aI 3 rfl ?_
      obtain ⟨x27,k27,H⟩ := aT H
      refine aH tk ⟨k27.1,(aV k27.2)⟩ (bd ho0 k27.2) ?_
      refine bc tk rfl rfl rfl rfl rfl rfl rfl rfl rfl (aJ (fun _=>rfl) k27.2) rfl rfl ?_
      obtain ⟨x29,h29,H⟩ := bR H
      have s29 := cr x22 x27
      rw [h29] at s29
      refine br Tryz.call187 (dS.r) s29 ?_
      refine bN rfl (aY ?_)
      refine aQ _ () (ax H) Gh.d
     refine aI 11 rfl (aY ?_)
     refine aQ _ () (ax H) Gh.d
    refine aL rfl H (fun H=>?_) (fun H=>?_)
    ·refine au (ab (az ?_))
     refine cA (tag := 0) rfl (fun ho0=>?_)
     refine bj tk mok ⟨false,true,[]⟩ [0,1,2,3,4,5,6,7,8,9,10,11,12,13,14,15,16,17] rfl (by decide +kernel) rfl (aI 8 rfl ?_)
     obtain ⟨x41,k41,H⟩ := aT H
     refine aH tk ⟨k41.1,(aV k41.2)⟩ (bd ho0 k41.2) ?_
     refine bc tk rfl rfl rfl rfl rfl rfl rfl rfl rfl (aJ (fun _=>rfl) k41.2) rfl rfl ?_
     refine aI 2 rfl ?_
     obtain ⟨x45,k45,H⟩ := aT H
     refine aH tk ⟨k45.1,(aV k45.2)⟩ (bd ho0 k45.2) ?_
     refine bc tk rfl rfl rfl rfl rfl rfl rfl rfl rfl (aJ (fun _=>rfl) k45.2) rfl rfl ?_
     obtain ⟨x47,k47,H⟩ := aT H
     refine aH tk ⟨k47.1,(aV k47.2)⟩ (bd ho0 k47.2) ?_
     obtain ⟨y30,hy30,H⟩ := bR H
     refine bY tk rfl rfl rfl rfl rfl rfl rfl rfl rfl (by rw [zl]; exact (zg.1 k47.2).1) (PLe.refl _ _) rfl rfl rfl rfl (by decide) (bD (fun _=>rfl) k47.2 rfl hy30) ?_
     obtain ⟨x48,k48,H⟩ := aT H
     refine aH tk ⟨k48.1,(gw (bf (f := ah) hy30) k48.2)⟩ (gS ho0 (bf (f := ah) hy30) k48.2) ?_
     obtain ⟨y31,hy31,H⟩ := bR H
     refine bY tk rfl rfl rfl rfl rfl rfl rfl rfl rfl (by rw [zl]; exact (zg.1 k48.2).1) (PLe.refl _ _) rfl rfl rfl rfl (by decide) (bD (fun _=>rfl) k48.2 rfl hy31) ?_
     refine aY (aR (bm 3 tk rfl ?_))
     obtain rfl := ax H
     refine cz (y31,(IntKind.i64.wrap (s22.2 - (1 : Int)))) () hg22 (Gh.le (bp (PLe.of2 (mH.of_eq (congrArg (PV.own 0 g_data) ((bf (f := ah) hy30).trans (bf (f := ah) hy31))))) (ao (ao (ao (ao aP))))) aD (aU aE))
    refine bF rfl ?_
    obtain rfl := ax H
    refine aQ (t29.1,s22.2) () hg22 Gh.d
   have H := cw hn22 Hp22
   refine aR (bm 3 tk rfl ?_)
   obtain rfl := ax H
   refine cz (s22.1,(IntKind.i64.wrap (s1.2 + (1 : Int)))) () hg1 Gh.d
  refine bF rfl ?_
  obtain rfl := ax H
  refine aQ (s1.1,s1.2) () hg1 Gh.d
 have H := cw hn1 Hp1
 obtain rfl := ax H
 refine cq (st' := ⟨49,fun _=>.any,fun _=>none,upd (fun _=>none) 0 (some ⟨g_data,9,(s1.1.map ah),true⟩)⟩) (Gh.le aP aD (aU aE)) ?_
 refine lw rfl (PLe.q rfl) ⟨rfl,rfl⟩
def cX (data : List (List UInt8)) (lo : Int) (hi : Int) (first : Int) : Option ((List (List UInt8))) :=
 ae (whileM (σ := List (List UInt8) × Int) (ρ := ((List (List UInt8)))) (fun (s1 : List (List UInt8) × Int) =>
  cond (decide ((IntKind.i64.wrap ((IntKind.i64.wrap ((2 : Int) * s1.2)) + (1 : Int))) ≥ hi))
   (some (.brk (s1.1,s1.2)))
   (ae (
    cond (decide ((IntKind.i64.wrap ((IntKind.i64.wrap ((IntKind.i64.wrap ((2 : Int) * s1.2)) + (1 : Int))) + (1 : Int))) < hi))
     (ae (aC s1.1 (IntKind.i64.wrap (first + (IntKind.i64.wrap ((IntKind.i64.wrap ((2 : Int) * s1.2)) + (1 : Int)))))) fun (x26 : List UInt8) =>
     ae (aC s1.1 (IntKind.i64.wrap ((IntKind.i64.wrap (first + (IntKind.i64.wrap ((IntKind.i64.wrap ((2 : Int) * s1.2)) + (1 : Int))))) + (1 : Int)))) fun (x33 : List UInt8) =>
     be (bi x26 x33) fun x35 =>
     some (s1.1,x35))
     (some (s1.1,false))) fun (t10 : List (List UInt8) × Bool) =>
   be (
    cond t10.2
     ((t10.1,(IntKind.i64.wrap ((IntKind.i64.wrap ((IntKind.i64.wrap ((2 : Int) * s1.2)) + (1 : Int))) + (1 : Int)))))
     ((t10.1,(IntKind.i64.wrap ((IntKind.i64.wrap ((2 : Int) * s1.2)) + (1 : Int)))))) fun (t11 : List (List UInt8) × Int) =>
   ae (aC t11.1 (IntKind.i64.wrap (first + s1.2))) fun (x43 : List UInt8) =>
   ae (aC t11.1 (IntKind.i64.wrap (first + t11.2))) fun (x49 : List UInt8) =>
   be (bi x43 x49) fun x51 =>
   cond (!x51)
    (some (.ret t11.1))
    (ae (aC t11.1 (IntKind.i64.wrap (first + t11.2))) fun (x65 : List UInt8) =>
    ae (aC t11.1 (IntKind.i64.wrap (first + s1.2))) fun (x71 : List UInt8) =>
    ae (aC t11.1 (IntKind.i64.wrap (first + s1.2))) fun (_ : List UInt8) =>
    be (t11.1.set ((IntKind.i64.wrap (first + s1.2)).toNat) x65) fun (y12 : List (List UInt8)) =>
    ae (aC y12 (IntKind.i64.wrap (first + t11.2))) fun (_ : List UInt8) =>
    be (y12.set ((IntKind.i64.wrap (first + t11.2)).toNat) x71) fun (y13 : List (List UInt8)) =>
    some (.next (y13,t11.2))))) (data,lo)) fun fl1=>fl1.thenR fun (s1 : List (List UInt8) × Int) =>
 some s1.1
theorem iI (g_data : OwnRef) (data : List (List UInt8)) (lo : Int) (hi : Int) (first : Int) (r : (List (List UInt8))) (H : cX data lo hi first = some r) :
  PH Tryz.prog 237 [(.own 0 g_data (data.map ah).length),(af lo),(af hi),(af first)] ⟨fun _=>none,upd (fun _=>none) 0 (some ⟨g_data,9,(data.map ah),true⟩)⟩ (fun u H=>u = (.tup []) ∧ H = ⟨fun _=>none,upd (fun _=>none) 0 (some ⟨g_data,9,(r.map ah),true⟩)⟩) := by
 unfold cX at H
 refine PH.ay Tryz.func237 Tryz.ntmps237 ?_
 refine al 2 tk rfl ?_
 obtain ⟨fl1,H1,Hp1⟩ := am H
 refine dU (τ := List (List UInt8) × Int) (γ := Unit) (fun s1 g1=>⟨76,upd (fun _=>.any) 0 (.own 0 g_data (s1.1.map ah).length),fun _=>none,upd (fun _=>none) 0 (some ⟨g_data,9,(s1.1.map ah),true⟩)⟩) (fun t=>fl1 = .next t) ?_ (fun s1 g1 hn1=>?_)
 ·refine az ?_
  refine dA (fun s1 g1=>⟨76,upd (upd (upd (upd (fun _=>.any) 8 (af s1.2)) 3 (af first)) 2 (af hi)) 0 (.own 0 g_data (s1.1.map ah).length),fun _=>none,upd (fun _=>none) 0 (some ⟨g_data,9,(s1.1.map ah),true⟩)⟩) () H1 Gh.d (fun m1 s1 g1 hr1=>?_)
  obtain ⟨fb1,H,hg1⟩ := ct hr1
  refine az (al 4 tk rfl (ab (al 3 tk rfl ?_)))
  refine aL rfl H (fun H=>?_) (fun H=>?_)
  ·refine bF rfl ?_
   obtain rfl := ax H
   refine aQ (s1.1,s1.2) () hg1 Gh.d
  refine au (ab (ab ?_))
  refine fp (γ := Unit) (fun t10 g10=>⟨76,upd (upd (upd (upd (upd (upd (fun _=>.any) 36 (aG t10.2)) 9 (af (IntKind.i64.wrap ((IntKind.i64.wrap ((2 : Int) * s1.2)) + (1 : Int))))) 8 (af s1.2)) 3 (af first)) 2 (af hi)) 0 (.own 0 g_data (t10.1.map ah).length),fun _=>none,upd (fun _=>none) 0 (some ⟨g_data,9,(t10.1.map ah),true⟩)⟩) H (fun _ H=>?_) (fun t10 g10 H=>?_)
  ·refine cA (tag := 0) rfl (fun ho0=>?_)
   refine bj tk mok ⟨false,true,[]⟩ [0,1,2,3,4,5,6,7,8,9,10,11,12,13,14,15,16,17,18,19] rfl (by decide +kernel) rfl (aI 5 rfl ?_)
   refine ir H (fun H=>?_) (fun H=>?_)
   ·refine aI 4 rfl ?_
    obtain ⟨x26,k26,H⟩ := aT H
    refine aH tk ⟨k26.1,(aV k26.2)⟩ (bd ho0 k26.2) ?_
    refine bc tk rfl rfl rfl rfl rfl rfl rfl rfl rfl (aJ (fun _=>rfl) k26.2) rfl rfl ?_
    refine aI 5 rfl ?_
    obtain ⟨x33,k33,H⟩ := aT H
    refine aH tk ⟨k33.1,(aV k33.2)⟩ (bd ho0 k33.2) ?_
    refine bc tk rfl rfl rfl rfl rfl rfl rfl rfl rfl (aJ (fun _=>rfl) k33.2) rfl rfl ?_
    obtain ⟨x35,h35,H⟩ := bR H
    have s35 := cr x26 x33
    rw [h35] at s35
    refine br Tryz.call187 (dS.r) s35 ?_
    refine bN rfl (aY ?_)
    refine aQ _ () (ax H) Gh.d
   refine aI 15 rfl (aY ?_)
   refine aQ _ () (ax H) Gh.d
  refine ff (γ := Unit) (fun t11 g11=>⟨76,upd (upd (upd (upd (upd (fun _=>.any) 9 (af t11.2)) 8 (af s1.2)) 3 (af first)) 2 (af hi)) 0 (.own 0 g_data (t11.1.map ah).length),fun _=>none,upd (fun _=>none) 0 (some ⟨g_data,9,(t11.1.map ah),true⟩)⟩) H (fun _ H=>?_) (fun t11 g11 H=>?_)
  ·refine aL rfl H (fun H=>?_) (fun H=>?_)
   ·refine bm 3 tk rfl ?_
    refine aQ _ () H Gh.d
   refine au ?_
   refine aQ _ () H Gh.d
  refine ab (ab ?_)
  refine cA (tag := 0) rfl (fun ho0=>?_)
  refine bj tk mok ⟨false,true,[]⟩ [0,1,2,3,4,5,6,7,8,9,10,11,12,13] rfl (by decide +kernel) rfl (aI 4 rfl ?_)
  obtain ⟨x43,k43,H⟩ := aT H
  refine aH tk ⟨k43.1,(aV k43.2)⟩ (bd ho0 k43.2) ?_
  refine bc tk rfl rfl rfl rfl rfl rfl rfl rfl rfl (aJ (fun _=>rfl) k43.2) rfl rfl ?_
  refine aI 4 rfl ?_
  obtain ⟨x49,k49,H⟩ := aT H
  refine aH tk ⟨k49.1,(aV k49.2)⟩ (bd ho0 k49.2) ?_
  refine bc tk rfl rfl rfl rfl rfl rfl rfl rfl rfl (aJ (fun _=>rfl) k49.2) rfl rfl ?_
  obtain ⟨x51,h51,H⟩ := bR H
  have s51 := cr x43 x49
  rw [h51] at s51
  refine br Tryz.call187 (dS.r) s51 ?_
  refine bN rfl (aY ?_)
  refine aL rfl H (fun H=>?_) (fun H=>?_)
  ·obtain rfl := ax H
   have e1 : fl1 = .ret _ := hg1
   subst e1
   obtain rfl := bq Hp1
   refine cq (st' := ⟨76,fun _=>.any,fun _=>none,upd (fun _=>none) 0 (some ⟨g_data,9,(t11.1.map ah),true⟩)⟩) (Gh.le aP aD (aU aE)) ?_
   refine dZ tk rfl (ps := []) rfl (PLe.q rfl) ⟨rfl,rfl⟩
  refine au (ab ?_)
  refine cA (tag := 0) rfl (fun ho0=>?_)
  refine bj tk mok ⟨false,true,[]⟩ [0,1,2,3,4,5,6,7,8,9,10,11,12,13,14,15,16,17,18,19,20,21,22,23] rfl (by decide +kernel) rfl (aI 12 rfl ?_)
  obtain ⟨x65,k65,H⟩ := aT H
  refine aH tk ⟨k65.1,(aV k65.2)⟩ (bd ho0 k65.2) ?_
  refine bc tk rfl rfl rfl rfl rfl rfl rfl rfl rfl (aJ (fun _=>rfl) k65.2) rfl rfl ?_
  refine aI 4 rfl ?_
  obtain ⟨x71,k71,H⟩ := aT H
  refine aH tk ⟨k71.1,(aV k71.2)⟩ (bd ho0 k71.2) ?_
  refine bc tk rfl rfl rfl rfl rfl rfl rfl rfl rfl (aJ (fun _=>rfl) k71.2) rfl rfl ?_
  obtain ⟨x73,k73,H⟩ := aT H
  refine aH tk ⟨k73.1,(aV k73.2)⟩ (bd ho0 k73.2) ?_
  obtain ⟨y12,hy12,H⟩ := bR H
  refine bY tk rfl rfl rfl rfl rfl rfl rfl rfl rfl (by rw [zl]; exact (zg.1 k73.2).1) (PLe.refl _ _) rfl rfl rfl rfl (by decide) (bD (fun _=>rfl) k73.2 rfl hy12) ?_
  obtain ⟨x74,k74,H⟩ := aT H
  refine aH tk ⟨k74.1,(gw (bf (f := ah) hy12) k74.2)⟩ (gS ho0 (bf (f := ah) hy12) k74.2) ?_
  obtain ⟨y13,hy13,H⟩ := bR H
  refine bY tk rfl rfl rfl rfl rfl rfl rfl rfl rfl (by rw [zl]; exact (zg.1 k74.2).1) (PLe.refl _ _) rfl rfl rfl rfl (by decide) (bD (fun _=>rfl) k74.2 rfl hy13) ?_
  refine aY (bm 2 tk rfl (aR ?_))
  obtain rfl := ax H
  refine cz (y13,t11.2) () hg1 (Gh.le (bp (PLe.of2 (mH.of_eq (congrArg (PV.own 0 g_data) ((bf (f := ah) hy12).trans (bf (f := ah) hy13))))) (ao (ao (ao aP)))) aD (aU aE))
 have H := jx hn1 Hp1
 obtain rfl := ax H
 refine cq (st' := ⟨76,fun _=>.any,fun _=>none,upd (fun _=>none) 0 (some ⟨g_data,9,(s1.1.map ah),true⟩)⟩) (Gh.le aP aD (aU aE)) ?_
 refine lw rfl (PLe.q rfl) ⟨rfl,rfl⟩
def fA (length : Int) : Option (Int) :=
 ae (im (IntKind.u64.wrap length)) fun x5 =>
 ae (shlI .u64 (1 : Int) x5) fun (x6 : Int) =>
 some x6
theorem oj (length : Int) (r : Int) (H : fA length = some r) :
  ba Tryz.prog 238 [(af length)] (.val (.int .u64 r)) := by
 unfold fA at H
 refine PH.ay Tryz.func238 Tryz.ntmps238 ?_
 refine al 1 tk rfl (ab (aa (ag 2 tk rfl ?_)))
 obtain ⟨x5,h5,H⟩ := am H
 have s5 := oB (IntKind.u64.wrap length) _ h5
 refine aq Tryz.call122 (dS.r) s5 ?_
 obtain ⟨x6,h6,H⟩ := am H
 refine Ao.shl rfl rfl rfl rfl h6 rfl (ak tk rfl (ac ?_))
 exact bB tk H rfl
def cK (data : List (List UInt8)) (a : Int) (b : Int) (swaps : Int) : Option (Int × Int × (List (List UInt8)) × Int) :=
 ae (aC data b) fun (x12 : List UInt8) =>
 ae (aC data a) fun (x16 : List UInt8) =>
 be (bi x12 x16) fun x18 =>
 cond x18
  (some (b,a,data,(IntKind.i64.wrap (swaps + (1 : Int)))))
  (some (a,b,data,swaps))
theorem gJ (g_data : OwnRef) (b_swaps : Nat) (data : List (List UInt8)) (a : Int) (b : Int) (swaps : Int) (r : Int × Int × (List (List UInt8)) × Int) (H : cK data a b swaps = some r) :
  PH Tryz.prog 268 [(.own 0 g_data (data.map ah).length),(af a),(af b),(.box 1503 b_swaps 0)] ⟨upd (fun _=>none) 1503 (some ⟨b_swaps,[(af swaps)]⟩),upd (fun _=>none) 0 (some ⟨g_data,9,(data.map ah),true⟩)⟩ (fun u H=>u = (.tup [(af r.1),(af r.2.1)]) ∧ H = ⟨upd (fun _=>none) 1503 (some ⟨b_swaps,[(af r.2.2.2)]⟩),upd (fun _=>none) 0 (some ⟨g_data,9,(r.2.2.1.map ah),true⟩)⟩) := by
 unfold cK at H
 refine PH.ay Tryz.func268 Tryz.ntmps268 ?_
 refine al 2 tk rfl (ab (ab ?_))
 refine cA (tag := 0) rfl (fun ho0=>?_)
 refine bj tk mok ⟨false,true,[]⟩ [0,1,2,3,4,5,6,7,8] rfl (by decide +kernel) rfl (aI 2 rfl ?_)
 obtain ⟨x12,k12,H⟩ := aT H
 refine aH tk ⟨k12.1,(aV k12.2)⟩ (bd ho0 k12.2) ?_
 refine bc tk rfl rfl rfl rfl rfl rfl rfl rfl rfl (aJ (fun _=>rfl) k12.2) rfl rfl ?_
 refine aI 2 rfl ?_
 obtain ⟨x16,k16,H⟩ := aT H
 refine aH tk ⟨k16.1,(aV k16.2)⟩ (bd ho0 k16.2) ?_
 refine bc tk rfl rfl rfl rfl rfl rfl rfl rfl rfl (aJ (fun _=>rfl) k16.2) rfl rfl ?_
 obtain ⟨x18,h18,H⟩ := bR H
 have s18 := cr x12 x16
 rw [h18] at s18
 refine br Tryz.call187 (dS.r) s18 ?_
 refine aY ?_
 refine aL rfl H (fun H=>?_) (fun H=>?_)
 ·refine ab (aa (ag 2 tk rfl (aB tk ?_)))
  refine ag 2 tk rfl (av tk ?_)
  refine ac (al 4 tk rfl ?_)
  obtain rfl := ax H
  refine cq (st' := ⟨28,upd (upd (fun _=>.any) 9 (af a)) 8 (af b),upd (fun _=>none) 1503 (some ⟨b_swaps,[(af (IntKind.i64.wrap (swaps + (1 : Int))))]⟩),upd (fun _=>none) 0 (some ⟨g_data,9,(data.map ah),true⟩)⟩) (Gh.le (ao (ao aP)) (aW rfl (dS.r) aD) (aU aE)) ?_
  refine dZ tk rfl (ps := [(af b),(af a)]) ⟨_,_,rfl,rfl,_,_,rfl,rfl,rfl⟩ (PLe.q rfl) ⟨rfl,rfl⟩
 refine au (al 4 tk rfl ?_)
 obtain rfl := ax H
 refine cq (st' := ⟨28,upd (upd (fun _=>.any) 9 (af b)) 8 (af a),upd (fun _=>none) 1503 (some ⟨b_swaps,[(af swaps)]⟩),upd (fun _=>none) 0 (some ⟨g_data,9,(data.map ah),true⟩)⟩) (Gh.le (ao (ao aP)) (aW rfl (dS.r) aD) (aU aE)) ?_
 refine dZ tk rfl (ps := [(af a),(af b)]) ⟨_,_,rfl,rfl,_,_,rfl,rfl,rfl⟩ (PLe.q rfl) ⟨rfl,rfl⟩
end
end Go.Proofs.YtppmcepdcpmpcaaGreatDoor
