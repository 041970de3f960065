/- Closed evaluation, part I: a drawn region. -/
import Derived.Test.YtjnpnakcmjndiaaGreatDoorMjq
import Derived.LoopN
import Derived.Defers
import Derived.Test.YtjnpnakcmjndiaaGreatDoorMjh
import Derived.Recover
import Derived.ProofKit
namespace Go.Cx
open Go Go.Ab

theorem look_same {h : Tr (Option Blk)} {id : Nat} {x : Option Blk} (hid : id + 1 < 2 ^ 24) : lookB (h.set 24 id x) id = x := by
  unfold lookB
  rw [Tr.get_same 24 h id x hid]

theorem look_other {h : Tr (Option Blk)} {id j : Nat} {x : Option Blk} (hf : h.fits 24) (hid : id + 1 < 2 ^ 24) (hj : j ≠ id) : lookB (h.set 24 id x) j = lookB h j := by
  unfold lookB
  rw [Tr.get_other 24 h id x j hf hj hid]

/-- What a store is. -/
theorem store_form {T : TT} {H H' : Hp} {t : TypeId} {x y : Operand} {ev : Operand → DV} {d : DV} (h : actD T H (.store t x y) ev = some (d, H')) :
    ∃ id off k cs, ev x = .p id off ∧ lookB H.h id = some k ∧ cellsD (ev y) = some cs ∧ d = .bad ∧ H' = ⟨H.h.set 24 id (some ⟨k.e, k.sz, k.cap, k.wr, spliceD k.cells off cs⟩), H.nx⟩ := by
  simp only [actD] at h
  split at h
  · rename_i ti id off cs _ hx hc
    split at h
    · rename_i k hk
      generalize (k.wr && Nat.beq cs.length ti.size && Nat.ble (off + ti.size) k.cells.length) = bb at h
      cases bb with
      | false => simp at h
      | true =>
        simp only [cond_true, Option.some.injEq, Prod.mk.injEq] at h
        exact ⟨id, off, k, cs, hx, hk, hc, h.1.symm, h.2.symm⟩
    · cases h
  · cases h

theorem oneD_store {T : TT} {call : CallF} {H : Hp} {o : Oper} {ev : Operand → DV} (ho : ∃ t x y, o.op = .store t x y) {r : DV × Hp} (h : oneD T call o.op ev H = some r) : actD T H o.op ev = some r := by
  obtain ⟨t, x, y, e⟩ := ho
  rw [e] at h ⊢
  unfold oneD at h
  have e1 : quietD T H.h (.store t x y) ev = none := rfl
  rw [e1] at h
  simp only at h
  have e2 : loudD T H (.store t x y) ev = actD T H (.store t x y) ev := rfl
  rw [e2] at h
  split at h
  · rename_i z hz; rw [hz, h]
  · cases h

section
variable {P : Program} {T : TT} (hT : T.Ok P) {W0 : World} {B : Nat → Option Go.Obj} {call : CallF} (hc : CallOk P W0 call) {ops : Array Oper} {b : Array Nat} {nx0 N : Nat} {df : List (FuncId × List DV)} {tr : List DS}

/-- Two stores into different blocks, the one behind first: it comes to what the text's order comes to. -/
theorem pair_less (h : Tra T call ops b nx0 tr) {i j : Nat} (hp : PairAt T ops b tr i j) {x y : Oper} (hx : ops[i]? = some x) (hy : ops[j]? = some y) {di dj dj' : DS} (hdi : tr[i]? = some di) (hdj : tr[j]? = some dj) (hdj' : tr[j + 1]? = some dj')
    (h0 : ∃ ds, tr[0]? = some ds ∧ ds.pd = []) {d3 d4 : DV} {H3 H4 : Hp} (h3 : actD T di.st.H y.op (evD dj.st.s) = some (d3, H3)) (h4 : actD T H3 x.op (evD di.st.s) = some (d4, H4)) (hf : di.st.H.h.fits 24) :
    di.pd = [] ∧ d3 = .bad ∧ d4 = .bad ∧ (∀ id k, lookB dj'.st.H.h id = some k → lookB H4.h id = some k) ∧ dj'.st.H.nx = H4.nx ∧ dj'.st.H.nx = di.st.H.nx ∧ dj'.st.H.h.fits 24 := by
  have hls := actAt_lt hp.aj
  obtain ⟨gx, hxs⟩ := hp.gi x hx
  obtain ⟨gy, hys⟩ := hp.gj y hy
  -- what the check says
  have hsw := hp.sw
  unfold swapD at hsw
  rw [hx, hy, hdi, hdj] at hsw
  simp only at hsw
  split at hsw
  · rename_i a c d3' H3' ha hcc h3'
    rw [h3] at h3'
    simp only [Option.some.injEq, Prod.mk.injEq] at h3'
    obtain ⟨rfl, rfl⟩ := h3'
    simp only [Bool.and_eq_true] at hsw
    obtain ⟨⟨⟨⟨s1, s2⟩, s3⟩, s4⟩, _⟩ := hsw
    have hpd : di.pd = [] := by simpa using s1
    have hac : a ≠ c := by
      intro e
      rw [e] at s2
      simp at s2
    have ha4 : a < 1000000 := by simpa [Nat.blt_eq] using s3
    have hc4 : c < 1000000 := by simpa [Nat.blt_eq] using s4
    -- the text's order
    obtain ⟨e, e', f1, f2, f3⟩ := h.step i x hx
    rw [hdi] at f1
    cases f1
    obtain ⟨_, _, vi, _, ki⟩ := stepR_kind f3 (h.nodef i x hx)
    have hactx : isActO x = true := by rw [← actAt_o hx]; exact hp.ai
    have hacty : isActO y = true := by rw [← actAt_o hy]; exact hp.aj
    have hgx : guardD ops di.st.s x = some true := by simp [guardD, gx]
    have hgy : guardD ops dj.st.s y = some true := by simp [guardD, gy]
    have h1 : actD T di.st.H x.op (evD di.st.s) = some (vi, e'.st.H) := by
      cases ki with
      | skip hg => rw [hgx] at hg; cases hg
      | skipA hg => rw [hgx] at hg; cases hg
      | new _ _ _ hn => rw [isAct_new hn] at hactx; cases hactx
      | quiet _ _ ha => rw [hactx] at ha; cases ha
      | act _ _ hone _ =>
        have := oneD_store hxs hone
        rw [hpd] at this
        exact this
    have hjH : dj.st.H = e'.st.H := by
      have hij := hp.lt
      refine h.heap f2 (j - (i + 1)) dj (by rw [show i + 1 + (j - (i + 1)) = j from by omega]; exact hdj) (by omega) (fun l hl1 hl2 => ?_)
      cases hal : actAt ops l with
      | false => rfl
      | true => rcases hp.acts l hal with g | g | g <;> omega
    have hjpd : dj.pd = [] := by
      obtain ⟨_, g2⟩ := h.pend h0 j dj hdj (by omega)
      cases hq : dj.pd with
      | nil => rfl
      | cons z zs =>
        exfalso
        obtain ⟨_, ⟨o, _, _, ho, _, hn, _⟩, g4⟩ := g2 z (by rw [hq]; simp)
        have := g4 i hp.lt hp.ai
        have hz := (hp.early z.1 o ho (by rw [hn]; rfl)).1
        rw [hz] at this
        cases this
    obtain ⟨e2, e2', f4, f5, f6⟩ := h.step j y hy
    rw [hdj] at f4
    cases f4
    rw [hdj'] at f5
    cases f5
    obtain ⟨_, _, vj, _, kj⟩ := stepR_kind f6 (h.nodef j y hy)
    have h2 : actD T e'.st.H y.op (evD dj.st.s) = some (vj, dj'.st.H) := by
      cases kj with
      | skip hg => rw [hgy] at hg; cases hg
      | skipA hg => rw [hgy] at hg; cases hg
      | new _ _ _ hn => rw [isAct_new hn] at hacty; cases hacty
      | quiet _ _ ha => rw [hacty] at ha; cases ha
      | act _ _ hone _ =>
        have := oneD_store hys hone
        rw [hjpd, hjH] at this
        exact this
    obtain ⟨tx, xx, xy, ox⟩ := hxs
    obtain ⟨ty, yx, yy, oy⟩ := hys
    rw [ox] at h1 h4
    rw [oy] at h2 h3
    obtain ⟨i1, o1, k1, c1, a1, b1, g1, q1, r1⟩ := store_form h1
    obtain ⟨i2, o2, k2, c2, a2, b2, g2, q2, r2⟩ := store_form h2
    obtain ⟨i3, o3, k3, c3, a3, b3, g3, q3, r3⟩ := store_form h3
    obtain ⟨i4, o4, k4, c4, a4, b4, g4, q4, r4⟩ := store_form h4
    rw [a1] at a4
    cases a4
    rw [a2] at a3
    cases a3
    rw [g1] at g4
    cases g4
    rw [g2] at g3
    cases g3
    have hi1 : i1 = a := by
      simp only [addrOf, ox, a1, Option.some.injEq] at ha
      exact ha
    have hi2 : i2 = c := by
      simp only [addrOf, oy, a2, Option.some.injEq] at hcc
      exact hcc
    subst hi1 hi2
    have hk2 : k2 = k3 := by
      rw [r1] at b2
      simp only at b2
      rw [look_other hf (by omega) (Ne.symm hac)] at b2
      rw [b3] at b2
      exact (Option.some.inj b2).symm
    have hk4 : k4 = k1 := by
      rw [r3] at b4
      simp only at b4
      rw [look_other hf (by omega) hac] at b4
      rw [b1] at b4
      exact (Option.some.inj b4).symm
    subst hk2 hk4
    refine ⟨hpd, q3, q4, fun id k hk => ?_, ?_, ?_, ?_⟩
    · rw [r2] at hk
      rw [r4]
      simp only at hk ⊢
      have f3 : H3.h.fits 24 := by rw [r3]; exact Tr.set_fits _ _ _ _ hf
      by_cases e1 : id = i1
      · subst e1
        rw [look_same (by omega)]
        rw [r1] at hk
        rcases look_set hk with ⟨e, _⟩ | ⟨_, e⟩
        · exact absurd e hac
        · simp only at e
          rw [look_same (by omega)] at e
          exact e
      · rw [look_other f3 (by omega) e1, r3]
        simp only
        rcases look_set hk with ⟨rfl, e⟩ | ⟨e2, e⟩
        · rw [look_same (by omega)]; exact e
        · rw [look_other hf (by omega) e2]
          rw [r1] at e
          rcases look_set e with ⟨e3, _⟩ | ⟨_, e3⟩
          · exact absurd e3 e1
          · exact e3
    · rw [r2, r4, r1, r3]
    · rw [r2, r1]
    · rw [r2, r1]; exact Tr.set_fits _ _ _ _ (Tr.set_fits _ _ _ _ hf)
  · cases hsw

theorem swap_facts {i j : Nat} (hp : PairAt T ops b tr i j) {x y : Oper} (hx : ops[i]? = some x) (hy : ops[j]? = some y) {di dj : DS} (hdi : tr[i]? = some di) (hdj : tr[j]? = some dj) :
    ∃ d3 H3 d4 H4, actD T di.st.H y.op (evD dj.st.s) = some (d3, H3) ∧ actD T H3 x.op (evD di.st.s) = some (d4, H4) := by
  have hsw := hp.sw
  unfold swapD at hsw
  rw [hx, hy, hdi, hdj] at hsw
  simp only at hsw
  split at hsw
  · rename_i a c d3 H3 ha hcc h3
    simp only [Bool.and_eq_true] at hsw
    have h4 := hsw.2
    cases h5 : actD T H3 x.op (evD di.st.s) with
    | none => rw [h5] at h4; cases h4
    | some z => exact ⟨d3, H3, z.1, z.2, h3, h5⟩
  · cases hsw

theorem wpOp_of {Q : Exit → Act → World → Prop} {i : Nat} {o : Oper} (ho : ops[i]? = some o) {K : Act → World → Prop} {a : Act} {w : World} (h : if Region.wanted o (yielded ops a.tmps) then o.wp P a w K Q else K (a.put o.dst undef) w) : wpOp P ops Q i K a w := by
  unfold wpOp
  rw [ho]
  simp only
  split
  · rename_i hw; rw [if_pos hw] at h; exact .inl h
  · rename_i hw; rw [if_neg hw] at h; exact h

/-- What is kept of the numbers since the region began. -/
structure Ext0 (nx0 : Nat) (β0 β : Be) : Prop where
  le : β0.le β
  old : ∀ id, id < nx0 → β id = β0 id

theorem Ext0.ext {β0 β β' : Be} {nx nx' : Nat} (h : Ext0 nx0 β0 β) (he : Ext β β' nx nx') (hn : nx0 ≤ nx) : Ext0 nx0 β0 β' :=
  ⟨Be.trans h.le he.le, fun id hid => (he.old id (by omega)).trans (h.old id hid)⟩

include hT hc in
theorem inv_step (h : Tra T call ops b nx0 tr) {d0 : DS} (hd0 : tr[0]? = some d0) (hN : d0.st.n = N) (hpd0 : d0.pd = [])
    (hld : ∀ (i : Nat) (o : Oper), ops[i]? = some o → isLoad o.op = true → ∀ m, (m = 0 ∨ ∃ i', m = i' + 1 ∧ actAt ops i' = true) → (∀ l, actAt ops l = true → (l < m → (b.getD l 0).testBit i = false) ∧ (m ≤ l → (b.getD i 0).testBit l = false)) →
      ∀ ds, tr[i]? = some ds → guardD ops ds.st.s o = some true → ∀ d, quietD T ds.st.H.h o.op (evD ds.st.s) = some d → ∃ dm, tr[m]? = some dm ∧ quietD T dm.st.H.h o.op (evD ds.st.s) = some d)
    (hord : ∀ i j, i < j → actAt ops i = true → actAt ops j = true → (b.getD j 0).testBit i = true ∨ PairAt T ops b tr i j)
    {listed : Array Bool} {β0 β : Be} {a : Act} {w : World} (hi : DI T W0 B ops b nx0 N df tr listed β a w) (he0 : Ext0 nx0 β0 β) {Q : Exit → Act → World → Prop} {j : Nat} (hj : j ∈ Region.ready .any ops listed) :
    wpOp P ops Q j (fun a' w' => ∃ β', Ext0 nx0 β0 β' ∧ DI T W0 B ops b nx0 N df tr (listed.setIfInBounds j true) β' a' w') a w := by
  obtain ⟨hn0, o, ho, hr⟩ := mem_ready.1 hj
  have hjs : j < ops.size := (Array.getElem?_eq_some_iff.1 ho).1
  have hjl : j < listed.size := by rw [hi.sz]; exact hjs
  have hn : ¬ XL listed j := by
    unfold XL
    intro e
    rw [Array.getD_eq_getD_getElem?, Array.getElem?_eq_getElem hjl] at hn0 e
    simp only [Option.getD_some] at hn0 e
    rw [hn0] at e
    cases e
  have hset : ∀ {i}, XL (listed.setIfInBounds j true) i ↔ i = j ∨ XL listed i := XL_set hjl
  obtain ⟨dj, dj', hdj, hdj', hst⟩ := h.step j o ho
  obtain ⟨_, _, d, hput, hk⟩ := stepR_kind hst (h.nodef j o ho)
  have hfr := h.frame hd0 j dj hdj (by omega)
  have hNj : dj.st.n = N := hfr.1.trans hN
  have hev := hi.ev h ho hn hr hdj
  have hgd : ∀ g, guardD ops dj.st.s o = some g → Region.wanted o (yielded ops a.tmps) = g := fun g hg => guardD_at (fun t ht => hi.look h ho hn hr hdj ht) hg
  have hbef : ∀ k, (b.getD j 0).testBit k = true → XL listed k := fun k hk => listed_before h.m hi.cl h.edge j o k ho hr hk
  have hact : actAt ops j = isActO o := actAt_o ho
  have hno : ∀ β' : Be, (∀ i, i < ops.size → β' (nx0 + i) = β (nx0 + i)) → ∀ i, i < ops.size → i ≠ j → ¬ XL listed i → β' (nx0 + i) = none := fun β' he i hi' _ hx => (he i hi').trans (hi.no i hi' hx)
  -- the heap, where the step does not write
  have stay : isActO o = false → (∀ k, newAt T ops nx0 tr j k → False) → HeapI T W0 B ops b nx0 tr listed β w → HeapI T W0 B ops b nx0 tr (listed.setIfInBounds j true) β w := by
    intro hna hnn hh
    have hnj : actAt ops j = false := by rw [hact]; exact hna
    cases hh with
    | A m ds hm hle h1 h2 h3 hnx hp =>
      refine .A m ds hm hle ?_ ?_ (fun i hi' ha => hset.2 (.inr (h3 i hi' ha))) hnx (hp.weak fun i k hk => ⟨?_, hk.2⟩)
      · rcases h1 with h1 | ⟨i, e, hx, ha⟩
        · exact .inl h1
        · exact .inr ⟨i, e, hset.2 (.inr hx), ha⟩
      · intro i hx ha
        rcases hset.1 hx with rfl | hx
        · rw [hnj] at ha; cases ha
        · exact h2 i hx ha
      · rcases hset.1 hk.1 with e | hx
        · rw [e] at hk; exact (hnn k hk.2.1).elim
        · exact hx
    | C i j2 hpr hj2 hi2 hall di dj2 g1 g2 y g3 d3 H3 g4 g5 g6 g7 =>
      refine .C i j2 hpr (hset.2 (.inr hj2)) (fun hx => ?_) (fun k hk => ?_) di dj2 g1 g2 y g3 d3 H3 g4 g5 g6 g7
      · rcases hset.1 hx with e | hx
        · have := hpr.ai
          rw [e, hnj] at this
          cases this
        · exact hi2 hx
      · rcases hall k hk with e | e
        · exact .inl e
        · exact .inr (hset.2 (.inr e))
  -- a step that comes to nothing
  have quietly : ∀ v, R β d v → isActO o = false → (∀ k, newAt T ops nx0 tr j k → False) → ∃ β', Ext0 nx0 β0 β' ∧ DI T W0 B ops b nx0 N df tr (listed.setIfInBounds j true) β' (a.put o.dst v) w := by
    intro v hR hna hnn
    exact ⟨β, he0, hi.next h ho hn hr hdj hdj' hNj hput Be.rfl' hR (hno β fun _ _ => rfl) hi.inj (stay hna hnn hi.hp)⟩
  have writing : ∀ g, guardD ops dj.st.s o = some g → isActO o = true → ((g = true ∧ oneD T call o.op (evD dj.st.s) (absorb nx0 dj.st.H (dj.pd.filter fun x => (b.getD j 0).testBit x.1)) = some (d, dj'.st.H)) ∨ (g = false ∧ d = .t [] ∧ dj'.st.H = absorb nx0 dj.st.H (dj.pd.filter fun x => (b.getD j 0).testBit x.1))) →
      wpOp P ops Q j (fun a' w' => ∃ β', Ext0 nx0 β0 β' ∧ DI T W0 B ops b nx0 N df tr (listed.setIfInBounds j true) β' a' w') a w := by
    intro g hg hna hcase
    refine wpOp_of ho ?_
    rw [hgd _ hg]
    have haj : actAt ops j = true := by rw [hact]; exact hna
    have hnnew : ∀ k, newAt T ops nx0 tr j k → False := by
      intro k hk
      obtain ⟨o', _, _, e1, _, e3, _⟩ := hk
      rw [ho] at e1
      cases e1
      rw [isAct_new e3] at hna
      cases hna
    have hbad : (∃ t x y, o.op = .store t x y) → o.guard = none → g = true ∧ d = .bad := by
      intro hs hgn
      have : guardD ops dj.st.s o = some true := by simp [guardD, hgn]
      rw [hg] at this
      cases this
      refine ⟨rfl, ?_⟩
      rcases hcase with ⟨_, hone⟩ | ⟨e, _⟩
      · have h1 := oneD_store hs hone
        obtain ⟨t, x, y, e⟩ := hs
        rw [e] at h1
        obtain ⟨_, _, _, _, _, _, _, q, _⟩ := store_form h1
        exact q
      · cases e
    cases hi.hp with
    | A m ds hm hle h1 h2 h3 hnx hp =>
      by_cases hall : ∀ i, i < j → actAt ops i = true → XL listed i
      · have hmj : m ≤ j := by
          rcases h1 with rfl | ⟨i, rfl, hx, ha⟩
          · omega
          · have hne : i ≠ j := fun e => hn (e ▸ hx)
            rcases Nat.lt_or_ge j i with hlt | hge
            · exact absurd (h3 j (by omega) haj) hn
            · omega
        have hH : dj.st.H = ds.st.H := h.heap hm (j - m) dj (by rw [show m + (j - m) = j from by omega]; exact hdj) (by omega) (fun l hl1 hl2 => by
          cases hal : actAt ops l with
          | false => rfl
          | true => have := h2 l (hall l (by omega) hal) hal; omega)
        obtain ⟨nd, pf⟩ := h.pend ⟨d0, hd0, hpd0⟩ j dj hdj (by omega)
        have hp1 := PW.absorbL hi.inj (dj.pd.filter fun x => (b.getD j 0).testBit x.1) hp (fun x hx => by
          obtain ⟨hx1, hx2⟩ := List.mem_filter.1 hx
          obtain ⟨a1, a2, a3⟩ := pf x hx1
          exact ⟨hbef _ hx2, a2, fun l hl hal => a3 l (by omega) hal⟩) (nd.sublist (List.filter_sublist.map _)) (fun i k hk => by
          obtain ⟨_, ⟨o', _, _, e1, _⟩, _⟩ := hk
          exact (Array.getElem?_eq_some_iff.1 e1).1)
        rw [← hH] at hp1
        have hpend : ∀ i k, pendP T ops b nx0 tr (j + 1) (listed.setIfInBounds j true) i k → pendP T ops b nx0 tr m listed i k ∧ ∀ x ∈ (dj.pd.filter fun x => (b.getD j 0).testBit x.1), i ≠ x.1 := by
          intro i k hk
          obtain ⟨g1, g2, g3⟩ := hk
          have hx : XL listed i := by
            rcases hset.1 g1 with e | hx
            · rw [e] at g2; exact (hnnew k g2).elim
            · exact hx
          refine ⟨⟨hx, g2, fun l hl hal => g3 l (by omega) hal⟩, fun x hx e => ?_⟩
          have h5 := (List.mem_filter.1 hx).2
          have h6 := g3 j (Nat.lt_succ_self _) haj
          rw [e, h5] at h6
          cases h6
        have h1' : (j + 1 = 0 ∨ ∃ i, j + 1 = i + 1 ∧ XL (listed.setIfInBounds j true) i ∧ actAt ops i = true) := .inr ⟨j, rfl, hset.2 (.inl rfl), haj⟩
        have h2' : ∀ i, XL (listed.setIfInBounds j true) i → actAt ops i = true → i < j + 1 := by
          intro i hx ha
          rcases hset.1 hx with rfl | hx
          · exact Nat.lt_succ_self _
          · have := h2 i hx ha; omega
        have h3' : ∀ i, i < j + 1 → actAt ops i = true → XL (listed.setIfInBounds j true) i := by
          intro i hl ha
          rcases Nat.lt_succ_iff_lt_or_eq.1 hl with hl | rfl
          · exact hset.2 (.inr (hall i hl ha))
          · exact hset.2 (.inl rfl)
        obtain ⟨B', q1, q2, q3⟩ := hp1
        have hnxa : nx0 + ops.size ≤ (absorb nx0 dj.st.H (dj.pd.filter fun x => (b.getD j 0).testBit x.1)).nx := by rw [absorb_nx, hH]; exact hnx
        rcases hcase with ⟨rfl, hone⟩ | ⟨rfl, hd, hHe⟩
        · simp only [if_true]
          refine one_ok hT hc hone q1 hev _ Q fun v β' w' hext hw' hR => ⟨β', he0.ext hext (by omega), hi.next h ho hn hr hdj hdj' hNj hput hext.le hR (hno β' fun i hi' => hext.old _ (by omega)) (hi.inj.ext hext hnxa) (.A (j + 1) dj' hdj' hjs h1' h2' h3' (Nat.le_trans hnxa hext.nx) ⟨B', hw', q2, fun i k hk => (q3 i k (hpend i k hk)).mono hext.le⟩)⟩
        · simp only [Bool.false_eq_true, if_false]
          exact ⟨β, he0, hi.next h ho hn hr hdj hdj' hNj hput Be.rfl' (by rw [hd]; simp [R, RL, undef]) (hno β fun _ _ => rfl) hi.inj (.A (j + 1) dj' hdj' hjs h1' h2' h3' (by rw [hHe]; exact hnxa) ⟨B', by rw [hHe]; exact q1, q2, fun i k hk => q3 i k (hpend i k hk)⟩)⟩
      · have ⟨i, hi0⟩ := Classical.not_forall.1 hall
        have ⟨hij, hi1⟩ := Classical.not_imp.1 hi0
        have ⟨hai, hxi⟩ := Classical.not_imp.1 hi1
        have hpr : PairAt T ops b tr i j := (hord i j hij hai haj).resolve_left fun hb => hxi (hbef i hb)
        have hothers : ∀ k, actAt ops k = true → k = i ∨ k = j ∨ XL listed k := by
          intro k hk
          rcases hpr.acts k hk with hlt | e | e
          · right; right
            cases hx : listed.getD k false with
            | true => exact hx
            | false =>
              have hxk : ¬ XL listed k := by unfold XL; rw [hx]; simp
              have hpk := (hord k j (by omega) hk haj).resolve_left fun hb => hxk (hbef k hb)
              rcases hpk.acts i hai with e | e | e <;> omega
          · exact .inl e
          · exact .inr (.inl e)
        obtain ⟨rfl, hdb⟩ := hbad (hpr.gj o ho).2 (hpr.gj o ho).1
        have hils := actAt_lt hai
        obtain ⟨di, _, hdi, _, _⟩ := h.step i ops[i] (by simp [hils])
        obtain ⟨d3, H3, _, _, h3s, _⟩ := swap_facts hpr (x := ops[i]) (by simp [hils]) ho hdi hdj
        have hmi : m ≤ i := by
          rcases h1 with rfl | ⟨i', rfl, hx, ha⟩
          · omega
          · rcases hpr.acts i' ha with e | e | e
            · omega
            · exact absurd (e ▸ hx) hxi
            · exact absurd (e ▸ hx) hn
        have hH : di.st.H = ds.st.H := h.heap hm (i - m) di (by rw [show m + (i - m) = i from by omega]; exact hdi) (by omega) (fun l hl1 hl2 => by
          cases hal : actAt ops l with
          | false => rfl
          | true =>
            rcases hothers l hal with e | e | e
            · omega
            · omega
            · have := h2 l e hal; omega)
        have hw := hp.wr
        rw [← hH] at hw hnx
        simp only [if_true]
        refine (act_sound hT h3s hw hev).ok _ Q fun v β' w' hext hw' _ => ⟨β', he0.ext hext (by omega), hi.next h ho hn hr hdj hdj' hNj hput hext.le (by rw [hdb]; simp [R]) (hno β' fun i hi' => hext.old _ (by omega)) (hi.inj.ext hext hnx) (.C i j hpr (hset.2 (.inl rfl)) (fun hx => ?_) (fun k hk => ?_) di dj hdi hdj o ho d3 H3 h3s hw.fit (Nat.le_trans hnx hext.nx) hw')⟩
        · rcases hset.1 hx with e | hx
          · omega
          · exact hxi hx
        · rcases hothers k hk with e | e | e
          · exact .inl e
          · exact .inr (hset.2 (.inl e))
          · exact .inr (hset.2 (.inr e))
    | C i j2 hpr hj2 hi2 hall di dj2 hdi hdj2 y hy d3 H3 hH3 hf hnx hw =>
      rcases hall j haj with e | e
      · subst e
        obtain ⟨rfl, hdb⟩ := hbad (hpr.gi o ho).2 (hpr.gi o ho).1
        rw [hdj] at hdi
        cases hdi
        obtain ⟨d3', H3', d4, H4, q1, q2⟩ := swap_facts hpr ho hy hdj hdj2
        rw [hH3] at q1
        cases q1
        obtain ⟨_, dj2', _, hdj2', _⟩ := h.step j2 y hy
        obtain ⟨_, _, p3, p4, p5, p6, p7⟩ := pair_less h hpr ho hy hdj hdj2 hdj2' ⟨d0, hd0, hpd0⟩ hH3 q2 hf
        simp only [if_true]
        have hls := actAt_lt hpr.aj
        refine (act_sound hT q2 hw hev).ok _ Q fun v β' w' hext hw' _ => ⟨β', he0.ext hext (by omega), hi.next h ho hn hr hdj hdj' hNj hput hext.le (by rw [hdb]; simp [R]) (hno β' fun i hi' => hext.old _ (by omega)) (hi.inj.ext hext hnx)
          (.A (j2 + 1) dj2' hdj2' hls (.inr ⟨j2, rfl, hset.2 (.inr hj2), hpr.aj⟩) (fun k hx ha => ?_) (fun k hl ha => ?_) (by rw [p5]; exact Nat.le_trans hnx hext.nx) ⟨B, hw'.less p4 (Nat.le_of_eq p5.symm) p7, fun _ _ h => h, fun k kb hk => ?_⟩)⟩
        · have hlt := hpr.lt
          rcases hpr.acts k ha with e | e | e <;> omega
        · rcases hall k ha with e | e
          · exact hset.2 (.inl e)
          · exact hset.2 (.inr e)
        · exfalso
          obtain ⟨_, ⟨o', _, _, e1, _, e3, _⟩, g3⟩ := hk
          have h5 := (hpr.early k o' e1 (by rw [e3]; rfl)).1
          have h6 := g3 j (by have := hpr.lt; omega) haj
          rw [h5] at h6
          cases h6
      · exact absurd e hn
  cases hk with
  | skip hg hd hna hH hpd =>
    refine wpOp_of ho ?_
    rw [hgd _ hg]
    simp only [Bool.false_eq_true, if_false]
    refine quietly undef (by rw [hd]; simp [R, RL, undef]) hna (fun k hk => ?_)
    obtain ⟨o', di, _, e1, e2, _, e3, _⟩ := hk
    rw [ho] at e1
    cases e1
    rw [hdj] at e2
    cases e2
    rw [hg] at e3
    cases e3
  | quiet hg hnn hna hq hH hpd =>
    refine wpOp_of ho ?_
    rw [hgd _ hg]
    simp only [if_true]
    have hnew : ∀ k, newAt T ops nx0 tr j k → False := by
      intro k hk
      obtain ⟨o', di, _, e1, _, e3, _⟩ := hk
      rw [ho] at e1
      cases e1
      rw [hnn] at e3
      cases e3
    have go : ∀ {H : Hp}, WR W0 B β H w → quietD T H.h o.op (evD dj.st.s) = some d → o.wp P a w (fun a' w' => ∃ β', Ext0 nx0 β0 β' ∧ DI T W0 B ops b nx0 N df tr (listed.setIfInBounds j true) β' a' w') Q := by
      intro H hw hq'
      obtain ⟨v, h1, h2⟩ := quiet_sound hT hq' hw hev
      unfold Oper.wp
      rw [h1]
      exact quietly v h2 hna hnew
    cases hl : isLoad o.op with
    | false =>
      have hall : ∀ h' : Tr (Option Blk), quietD T h' o.op (evD dj.st.s) = some d := fun h' => (quiet_heap hl _ _ _).trans hq
      cases hi.hp with
      | A m ds _ _ _ _ _ _ hp => exact go hp.wr (hall _)
      | C _ _ _ _ _ _ _ _ _ _ _ _ _ H3 _ _ _ g7 => exact go g7 (hall _)
    | true =>
      cases hi.hp with
      | A m ds hm hle h1 h2 h3 hnx hp =>
        have hlk : ∀ l, actAt ops l = true → (l < m → (b.getD l 0).testBit j = false) ∧ (m ≤ l → (b.getD j 0).testBit l = false) := by
          intro l ha
          refine ⟨fun hlm => ?_, fun hlm => ?_⟩
          · cases hb : (b.getD l 0).testBit j with
            | false => rfl
            | true =>
              have hls := actAt_lt ha
              exact absurd (h.lst hi.cl (o := ops[l]) (by simp [hls]) (h3 l hlm ha) hb) hn
          · cases hb : (b.getD j 0).testBit l with
            | false => rfl
            | true => have := h2 l (hbef l hb) ha; omega
        obtain ⟨dm, e1, e2⟩ := hld j o ho hl m (by
          rcases h1 with h1 | ⟨i, e, _, ha⟩
          · exact .inl h1
          · exact .inr ⟨i, e, ha⟩) hlk dj hdj hg d hq
        rw [hm] at e1
        cases e1
        exact go hp.wr e2
      | C i j2 hpr hj2 hi2 hall di dj2 g1 g2 y g3 =>
        exfalso
        have := (hpr.early j o ho (by rw [hl]; simp)).2
        exact hn (h.lst hi.cl g3 hj2 this)
  | new hg k hkb hnw hH hpd =>
    refine wpOp_of ho ?_
    rw [hgd _ hg]
    simp only [if_true]
    obtain ⟨c, arr, v, g1, g2, g3, g4, g5, g6⟩ := new_sound (w := w) hT hkb hev
    have hna : isActO o = false := isAct_new hnw
    have hnone : β (nx0 + j) = none := hi.no j hjs hn
    cases hi.hp with
    | C i j2 hpr hj2 hi2 hall di dj2 q1 q2 y q3 =>
      exfalso
      have := (hpr.early j o ho (by rw [hnw]; rfl)).2
      exact hn (h.lst hi.cl q3 hj2 this)
    | A m ds hm hle h1 h2 h3 hnx hp =>
      unfold Oper.wp
      rw [g1]
      have hw := hp.wr
      have hp' := hp.new (i := j) (c := c) (k := k) (arr := arr) hnone (by omega) g2 g3 g4 g5
      have hle' := le_upd hnone (w.heap.size, c)
      have hnj : actAt ops j = false := by rw [hact]; exact hna
      refine ⟨updB β (nx0 + j) (w.heap.size, c), ⟨Be.trans he0.le hle', fun id hid => ?_⟩, hi.next h ho hn hr hdj hdj' hNj hput hle' (g6 _ (by simp [updB])) ?_ (hi.inj.upd fun id b c hb => (hw.dom id b c hb).2) (.A m ds hm hle ?_ ?_ ?_ hnx (hp'.weak ?_))⟩
      · simp only [updB]
        rw [if_neg (by omega)]
        exact he0.old id hid
      · intro i hi' hne hx
        simp only [updB]
        rw [if_neg (by omega)]
        exact hi.no i hi' hx
      · rcases h1 with h1 | ⟨i, e, hx, ha⟩
        · exact .inl h1
        · exact .inr ⟨i, e, hset.2 (.inr hx), ha⟩
      · intro i hx ha
        rcases hset.1 hx with rfl | hx
        · rw [hnj] at ha; cases ha
        · exact h2 i hx ha
      · exact fun i hi' ha => hset.2 (.inr (h3 i hi' ha))
      · intro i k' hk'
        rcases hset.1 hk'.1 with e | hx
        · subst e
          obtain ⟨o', di, d', e1, e2, _, _, e5⟩ := hk'.2.1
          rw [ho] at e1
          cases e1
          rw [hdj] at e2
          cases e2
          rw [hkb] at e5
          cases e5
          exact .inr ⟨rfl, rfl⟩
        · exact .inl ⟨hx, hk'.2⟩
  | skipA hg hd hna hH hpd => exact writing _ hg hna (.inr ⟨rfl, hd, hH⟩)
  | act hg hna hone hpd => exact writing _ hg hna (.inl ⟨rfl, hone⟩)
end
end Go.Cx
/- Closed evaluation, part J: drawn regions, control, functions: what the evaluator comes to, the program comes to. -/
namespace Go.Cx
open Go Go.Ab
open Go.RowKit (Below)

section
variable {P : Program} {T : TT} (hT : T.Ok P) {W0 : World} {B : Nat → Option Go.Obj} {call : CallF} (hc : CallOk P W0 call) {ops : Array Oper} {b : Array Nat} {nx0 N : Nat} {df : List (FuncId × List DV)} {tr : List DS}

theorem all_listed (h : Tra T call ops b nx0 tr) {listed : Array Bool} (hsz : listed.size = ops.size) (hr : Region.ready .any ops listed = []) : ∀ i, i < ops.size → XL listed i := by
  intro i
  induction i using Nat.strongRecOn with
  | _ i ih =>
    intro hi
    cases hx : listed.getD i false with
    | true => exact hx
    | false =>
      exfalso
      have hil : i < listed.size := by rw [hsz]; exact hi
      have hmem : i ∈ Region.ready .any ops listed := by
        refine mem_ready.2 ⟨?_, ops[i], by simp [hi], fun e he hb => ?_⟩
        · rw [Array.getD_eq_getD_getElem?, Array.getElem?_eq_getElem hil] at hx ⊢
          exact hx
        · have hlt := h.edge i ops[i] (by simp [hi]) e he hb
          exact ih e.on hlt (by omega)
      rw [hr] at hmem
      cases hmem

theorem ready_unlisted {listed : Array Bool} {j : Nat} (hsz : listed.size = ops.size) (hj : j ∈ Region.ready .any ops listed) : ∃ hl : j < listed.size, listed.toList[j]'(by simpa using hl) = false := by
  obtain ⟨h0, o, ho, _⟩ := mem_ready.1 hj
  have hl : j < listed.size := by rw [hsz]; exact (Array.getElem?_eq_some_iff.1 ho).1
  refine ⟨hl, ?_⟩
  rw [Array.getD_eq_getD_getElem?, Array.getElem?_eq_getElem hl] at h0
  simpa using h0

include hT hc in
theorem any_order (h : Tra T call ops b nx0 tr) {d0 : DS} (hd0 : tr[0]? = some d0) (hN : d0.st.n = N) (hpd0 : d0.pd = [])
    (hld : ∀ (i : Nat) (o : Oper), ops[i]? = some o → isLoad o.op = true → ∀ m, (m = 0 ∨ ∃ i', m = i' + 1 ∧ actAt ops i' = true) → (∀ l, actAt ops l = true → (l < m → (b.getD l 0).testBit i = false) ∧ (m ≤ l → (b.getD i 0).testBit l = false)) →
      ∀ ds, tr[i]? = some ds → guardD ops ds.st.s o = some true → ∀ d, quietD T ds.st.H.h o.op (evD ds.st.s) = some d → ∃ dm, tr[m]? = some dm ∧ quietD T dm.st.H.h o.op (evD ds.st.s) = some d)
    (hord : ∀ i j, i < j → actAt ops i = true → actAt ops j = true → (b.getD j 0).testBit i = true ∨ PairAt T ops b tr i j)
    {β0 : Be} {Q : Exit → Act → World → Prop} (hq : ∀ listed β a w, DI T W0 B ops b nx0 N df tr listed β a w → Ext0 nx0 β0 β → (∀ i, i < ops.size → XL listed i) → Q .normal a w) :
    ∀ (f : Nat) (listed : Array Bool) (β : Be) (a : Act) (w : World), DI T W0 B ops b nx0 N df tr listed β a w → Ext0 nx0 β0 β → listed.toList.count false ≤ f → wpAny P .any ops Q f listed a w
  | 0, listed, β, a, w, hi, he, hcnt => by
    have hr : Region.ready .any ops listed = [] := by
      cases hr : Region.ready .any ops listed with
      | nil => rfl
      | cons j r =>
        obtain ⟨hl, hf⟩ := ready_unlisted hi.sz (show j ∈ Region.ready .any ops listed from by rw [hr]; simp)
        have : 1 ≤ listed.toList.count false := List.one_le_count_iff.2 (hf ▸ List.getElem_mem _)
        omega
    exact ⟨hr, hq listed β a w hi he (all_listed h hi.sz hr)⟩
  | f + 1, listed, β, a, w, hi, he, hcnt => by
    refine ⟨fun hr => hq listed β a w hi he (all_listed h hi.sz hr), fun j hj => ?_⟩
    obtain ⟨hl, hf⟩ := ready_unlisted hi.sz hj
    refine wpOp_mono (fun a' w' ⟨β', he', hi'⟩ => any_order h hd0 hN hpd0 hld hord hq f _ β' a' w' hi' he' ?_) (inv_step hT hc h hd0 hN hpd0 hld hord hi he hj)
    have hcount := List.count_set (a := true) (b := false) (l := listed.toList) (i := j) (by simpa using hl)
    rw [hf] at hcount
    rw [Array.toList_setIfInBounds]
    have e2 : (listed.toList.set j true).count false = listed.toList.count false - 1 := hcount.trans rfl
    rw [e2]
    omega

include hT hc in
theorem draw_ok (hmix : P.follows .mixedOrders = true) {id : Nat} {st st' : St} (h : drawD T call ops st = some st') {β : Be} {a : Act} {w : World} (hi : StR W0 B β st a w) {Q : Exit → Act → World → Prop}
    (hq : ∀ β' a' w', Ext β β' st.H.nx st'.H.nx → StR W0 B β' st' a' w' → Q .normal a' w') : (Code.region id ops true).wp P Q a w := by
  unfold drawD at h
  cases hs : staticOk ops with
  | false => simp [hs] at h
  | true =>
    simp only [hs, cond_true] at h
    split at h
    · rename_i tr htr
      generalize hb : ((loadsAt ops (Region.before ops)).all (fun x => loadOk T ops tr x.1 x.2) && orderOk T ops tr) = bb at h
      cases bb with
      | false => simp at h
      | true =>
        simp only [cond_true] at h
        simp only [Bool.and_eq_true] at hb
        obtain ⟨hloads, horder⟩ := hb
        unfold staticOk at hs
        simp only [Bool.and_eq_true] at hs
        obtain ⟨⟨⟨s1, s2⟩, s3⟩, s4⟩ := hs
        obtain ⟨t0, t1⟩ := traceR_ok ops.toList 0 _ tr htr
        have tra : Tra T call ops (Region.before ops) st.H.nx tr := by
          refine ⟨s1, ?_, ?_, ?_, ?_⟩
          · intro j o ho e he hbd
            have hj : j < ops.size := (Array.getElem?_eq_some_iff.1 ho).1
            have := (List.all_eq_true.1 s2) j (by simpa using hj)
            rw [ho] at this
            have := (Array.all_eq_true_iff_forall_mem.1 this) e he
            rw [hbd] at this
            simpa [Nat.blt_eq] using this
          · intro i j x y hij hx hy
            have hj : j < ops.size := (Array.getElem?_eq_some_iff.1 hy).1
            have := (List.all_eq_true.1 s3) j (by simpa using hj)
            have := (List.all_eq_true.1 this) i (by simpa using hij)
            rw [hx, hy] at this
            simpa using this
          · intro j o ho
            have := (Array.all_eq_true_iff_forall_mem.1 s4) o (Array.mem_of_getElem? ho)
            exact this
          · intro i o ho
            obtain ⟨d, d', g1, g2, g3⟩ := t1 i o (by simpa using ho)
            exact ⟨d, d', g1, g2, by simpa using g3⟩
        split at h
        · rename_i dn hdn
          simp only [Option.some.injEq] at h
          subst h
          have hord := orderOk_sound horder
          have hld : ∀ (i : Nat) (o : Oper), ops[i]? = some o → isLoad o.op = true → ∀ m, (m = 0 ∨ ∃ i', m = i' + 1 ∧ actAt ops i' = true) → (∀ l, actAt ops l = true → (l < m → ((Region.before ops).getD l 0).testBit i = false) ∧ (m ≤ l → ((Region.before ops).getD i 0).testBit l = false)) →
              ∀ ds, tr[i]? = some ds → guardD ops ds.st.s o = some true → ∀ d, quietD T ds.st.H.h o.op (evD ds.st.s) = some d → ∃ dm, tr[m]? = some dm ∧ quietD T dm.st.H.h o.op (evD ds.st.s) = some d := by
            intro i o ho hl m hm hacts ds hds hg d hqd
            have his : i < ops.size := (Array.getElem?_eq_some_iff.1 ho).1
            have hmem : ∃ ks, (i, ks) ∈ loadsAt ops (Region.before ops) ∧ m ∈ ks := by
              refine ⟨(0 :: (((List.range ops.size).filter (actAt ops)).map (· + 1))).filter fun k =>
                (List.range ops.size).all fun j => !actAt ops j || (bif Nat.blt j k then !((Region.before ops).getD j 0).testBit i else !((Region.before ops).getD i 0).testBit j), ?_, ?_⟩
              · unfold loadsAt
                rw [List.mem_filterMap]
                exact ⟨i, by simpa using his, by rw [ho]; simp [hl]⟩
              · rw [List.mem_filter]
                refine ⟨?_, ?_⟩
                · rcases hm with rfl | ⟨i', rfl, ha⟩
                  · simp
                  · refine List.mem_cons_of_mem _ (List.mem_map.2 ⟨i', List.mem_filter.2 ⟨by simpa using actAt_lt ha, ha⟩, rfl⟩)
                · rw [List.all_eq_true]
                  intro l _
                  cases ha : actAt ops l with
                  | false => rfl
                  | true =>
                    obtain ⟨g1, g2⟩ := hacts l ha
                    simp only [Bool.not_true, Bool.false_or]
                    cases hlt : Nat.blt l m with
                    | true => simp only [cond_true]; rw [g1 (by simpa [Nat.blt_eq] using hlt)]; rfl
                    | false =>
                      simp only [cond_false]
                      rw [g2 (by
                        rcases Nat.lt_or_ge l m with hlm | hlm
                        · have : Nat.blt l m = true := by rw [Nat.blt_eq]; exact hlm
                          rw [this] at hlt; cases hlt
                        · exact hlm)]
                      rfl
            obtain ⟨ks, hks, hmk⟩ := hmem
            have hlo := (List.all_eq_true.1 hloads) (i, ks) hks
            simp only [loadOk, ho, hds, hg, hqd] at hlo
            have := (List.all_eq_true.1 hlo) m hmk
            split at this
            · rename_i dm hdm
              split at this
              · rename_i d' hd'
                rw [eqV_sound this]
                exact ⟨dm, hdm, hd'⟩
              · cases this
            · cases this
          refine wp_region_any hmix ?_
          have hw0 : WR W0 B β ⟨st.H.h, st.H.nx + ops.size⟩ w.drew := hi.wr.drew.less (fun _ _ h => h) (Nat.le_add_right _ _) hi.wr.fit
          refine any_order hT hc tra t0 (N := st.n) (B := B) (df := st.df) rfl rfl hld hord (β0 := β) (fun listed β' a' w' hi' he' hall => ?_) ops.size (Array.replicate ops.size false) β a w.drew ?_ ⟨Be.rfl', fun _ _ => rfl⟩ (by simp)
          · -- the end
            obtain ⟨f1, f2⟩ := tra.frame t0 ops.size dn hdn (Nat.le_refl _)
            cases hi'.hp with
            | C i j hpr hj hin => exact absurd (hall i (actAt_lt hpr.ai)) hin
            | A m ds hm hle h1 h2 h3 hnx hp =>
              have hH : dn.st.H = ds.st.H := tra.heap hm (ops.size - m) dn (by rw [show m + (ops.size - m) = ops.size from by omega]; exact hdn) (by omega) (fun l hl1 hl2 => by
                cases hal : actAt ops l with
                | false => rfl
                | true => have := h2 l (hall l (actAt_lt hal)) hal; omega)
              obtain ⟨nd, pf⟩ := tra.pend ⟨_, t0, rfl⟩ ops.size dn hdn (Nat.le_refl _)
              have hp1 := PW.absorbL hi'.inj dn.pd hp (fun x hx => by
                obtain ⟨a1, a2, a3⟩ := pf x hx
                exact ⟨hall _ a1, a2, fun l hl hal => a3 l (by omega) hal⟩) nd (fun i k hk => by
                obtain ⟨_, ⟨o', _, _, e1, _⟩, _⟩ := hk
                exact (Array.getElem?_eq_some_iff.1 e1).1)
              rw [← hH] at hp1
              refine hq β' a' w' ⟨he'.le, he'.old, ?_⟩ ⟨hp1.wr, ⟨?_, fun t => ?_⟩, ?_⟩
              · show st.H.nx ≤ (absorb st.H.nx dn.st.H dn.pd).nx
                rw [absorb_nx, hH]
                omega
              · show a'.tmps.size = dn.st.n
                rw [f1]; exact hi'.tn
              · obtain ⟨k, dk, g1, g2, g3, g4, g5⟩ := hi'.sl t
                rcases tra.slot g1 (ops.size - k) dn (by rw [show k + (ops.size - k) = ops.size from by omega]; exact hdn) (by omega) (t := t) (fun i o hki hin ho hd => by
                  have := g4 i (hall i (by omega)) ⟨o, ho, hd⟩
                  omega) with e | e
                · show R β' ((dn.st.s.get t).getD .bad) _
                  rw [show (dn.st.s.get t).getD .bad = .bad from e]; simp [R]
                · show R β' ((dn.st.s.get t).getD .bad) _
                  rw [show (dn.st.s.get t).getD .bad = slotD dk t from e]; exact g5
              · show DfR dn.st.df a'.defers
                rw [f2]; exact hi'.df
          · have hXf : ∀ i, ¬ XL (Array.replicate ops.size false) i := by
              intro i h
              unfold XL at h
              rw [Array.getD_eq_getD_getElem?] at h
              by_cases hi : i < ops.size
              · simp [hi] at h
              · simp [hi] at h
            have hnone : ∀ i, β (st.H.nx + i) = none := by
              intro i
              cases hb : β (st.H.nx + i) with
              | none => rfl
              | some x => have := (hi.wr.dom _ x.1 x.2 hb).1; omega
            refine ⟨by simp, fun j o _ hx => absurd hx (hXf j), hi.sl.1, fun t => ⟨0, _, t0, Nat.zero_le _, .inl rfl, fun i hx => absurd hx (hXf i), hi.sl.2 t⟩, hi.df, fun i _ _ => hnone i, fun i i' bb c c' _ _ e1 => ?_, .A 0 _ t0 (Nat.zero_le _) (.inl rfl) (fun i hx => absurd hx (hXf i)) (fun i hl => absurd hl (Nat.not_lt_zero _)) (Nat.le_refl _) ⟨B, hw0, fun _ _ h => h, fun i k hk => absurd hk.1 (hXf i)⟩⟩
            rw [hnone i] at e1
            cases e1
        · cases h
    · cases h
end

/-! Functions. -/
theorem initT_get : ∀ (l : List DV) (x : Tr DV) (k j : Nat), ((l.foldl (fun (x : Tr DV × Nat) d => (x.1.set 16 x.2 d, x.2 + 1)) (x, k)).1.get j = none) ∨ (∃ i d, j = k + i ∧ l[i]? = some d ∧ (l.foldl (fun (x : Tr DV × Nat) d => (x.1.set 16 x.2 d, x.2 + 1)) (x, k)).1.get j = some d) ∨
    ((l.foldl (fun (x : Tr DV × Nat) d => (x.1.set 16 x.2 d, x.2 + 1)) (x, k)).1.get j = x.get j)
  | [], x, k, j => .inr (.inr rfl)
  | d :: l, x, k, j => by
    simp only [List.foldl_cons]
    rcases initT_get l (x.set 16 k d) (k + 1) j with h | ⟨i, d', h1, h2, h3⟩ | h
    · exact .inl h
    · exact .inr (.inl ⟨i + 1, d', by omega, by simpa using h2, h3⟩)
    · rcases Tr.get_set 16 x k d j with e | ⟨rfl, e⟩ | ⟨_, e⟩
      · exact .inl (h.trans e)
      · exact .inr (.inl ⟨0, d, rfl, rfl, h.trans e⟩)
      · exact .inr (.inr (h.trans e))

section
variable {P : Program} {T : TT} (hT : T.Ok P) {W0 : World} {B : Nat → Option Go.Obj}

theorem resD_run (hT : T.Ok P) {st : St} {rv : ResultVar} {d : DV} (h : resD T st rv = some d) {β : Be} {a : Act} {w : World} (hi : StR W0 B β st a w) :
    ∃ v, (resF a.tmps rv).run P w = .ok v w ∧ R β d v := by
  cases rv with
  | tmp t =>
    have hs := hi.sl.2 t
    simp only [resD] at h
    split at h
    · cases h
    · rw [h] at hs
      exact ⟨_, rfl, hs⟩
  | cell c t =>
    simp only [resD] at h
    split at h
    · rename_i ti dd hti hg
      have hs := hi.sl.2 c
      rw [hg] at hs
      simp only [Option.getD_some] at hs
      obtain ⟨b, o, hv, u, h1, h2⟩ := loadD_sound hT hti hi.wr hs h
      refine ⟨u, ?_, h2⟩
      simp only [resF, hv, asAddr]
      exact h1
    · cases h

theorem resAllD_run (hT : T.Ok P) {fn : Func} {st : St} {ds : List DV} (h : resAllD T st fn.results.toList = some ds) {β : Be} {a : Act} {w : World} (hi : StR W0 B β st a w) :
    ∃ v, (results fn a.tmps).run P w = .ok v w ∧ R β (tupD ds) v := by
  have key : ∀ (l : List ResultVar) (ds : List DV), resAllD T st l = some ds → ∃ vs : List Value, (l.mapM (resF a.tmps)).run P w = .ok vs w ∧ RL β ds vs := by
    intro l
    induction l with
    | nil => intro ds h; simp only [resAllD, Option.some.injEq] at h; subst h; exact ⟨[], by simp, by simp [RL]⟩
    | cons r l ih =>
      intro ds h
      simp only [resAllD] at h
      split at h
      · rename_i d ds' h1 h2
        simp only [Option.some.injEq] at h
        subst h
        obtain ⟨v, hv, hr⟩ := resD_run hT h1 hi
        obtain ⟨vs, hvs, hrs⟩ := ih ds' h2
        refine ⟨v :: vs, ?_, by simp only [RL]; exact ⟨v, vs, rfl, hr, hrs⟩⟩
        rw [List.mapM_cons, Sem.run_bind, hv, Result.andThen_ok, Sem.run_bind, hvs]
        rfl
      · cases h
  obtain ⟨vs, hvs, hrep⟩ := key fn.results.toList ds h
  have hm : (fn.results.mapM (resF a.tmps)).run P w = .ok vs.toArray w := by
    rw [Array.mapM_eq_mapM_toList, Sem.run_map, hvs]
    rfl
  have hlen := hrep.length
  refine ⟨if h : vs.toArray.size = 1 then vs.toArray[0] else .tuple vs.toArray, ?_, ?_⟩
  · rw [results_eq rfl, Sem.run_bind, hm]
    rfl
  · match ds, vs, hrep, hlen with
    | [], [], hrep, _ => simp [tupD, R, RL]
    | [p], [v], hrep, _ =>
      simp only [RL] at hrep
      obtain ⟨x, xs, he, hx, _⟩ := hrep
      simp only [List.cons.injEq] at he
      simpa [tupD, he.1] using hx
    | p :: q :: ps, u :: v :: vs, hrep, _ =>
      simp only [tupD, R]
      exact ⟨(u :: v :: vs).toArray, by simp, by simpa using hrep⟩

/-- Deferred functions that do nothing where no panic is under way. -/
def DefOk (P : Program) (D : FuncId → Bool) : Prop := ∀ g, D g = true → (∀ vs w, (callFunc g vs).run P w = .ok (.enter g vs) w) ∧ ∀ cs w, CallsD P g cs .returning w fun e u w' => (∃ v, e = .returned v) ∧ u = .returning ∧ w' = w

def Ex.to : Ex → Exit
  | .nm => .normal
  | .rt => .ret
  | .ex j => .exit j

theorem leaves_ok {D : FuncId → Bool} (hD : DefOk P D) {fn : Func} {tmps : Array Value} {Rr : Ending → World → Prop} {w : World} (hr : ∃ v, (results fn tmps).run P w = .ok v w ∧ Rr (.returned v) w) : ∀ (l : List (FuncId × List DV)) (ds : List Deferred), DfR l ds → (l.all fun x => D x.1) = true → Leaves P fn tmps Rr ds .returning w
  | [], ds, h, _ => by simp only [DfR] at h; subst h; exact hr
  | x :: l, ds, h, ha => by
    simp only [DfR] at h
    obtain ⟨cs, rest, rfl, h1⟩ := h
    simp only [List.all_cons, Bool.and_eq_true] at ha
    obtain ⟨h2, h3⟩ := hD x.1 ha.1
    refine ⟨by simp, .func x.1, cs, x.1, cs, rfl, by simp [invoke, h2], ?_⟩
    refine (h3 cs w).mono ?_
    rintro e u w' ⟨⟨v, rfl⟩, rfl, rfl⟩
    exact leaves_ok hD hr l rest h1 ha.2

theorem callFunc_enter {g : FuncId} {fn : Func} {c : Code} (hf : P.funcs[g]? = some fn) (hb : fn.body = some c) (hn : (fn.name == "runtime.NumGoroutine") = false) (vs : Array Value) (w : World) : (callFunc g vs).run P w = .ok (.enter g vs) w := by
  simp only [callFunc, Sem.run_bind, run_program, Result.andThen_ok, hf, hn, hb]
  rfl

theorem callBy_ok (hT : T.Ok P) {D : FuncId → Bool} (hD : DefOk P D) (hN : ∀ (g : FuncId) (fn : Func), P.funcs[g]? = some fn → (fn.name == "runtime.NumGoroutine") = false) {run : Code → St → Option (Ex × St)}
    (hrun : ∀ (c : Code) (st st' : St) (e : Ex), run c st = some (e, st') → ∀ (B : Nat → Option Go.Obj) (β : Be) (a : Act) (w : World) (Q : Exit → Act → World → Prop), StR W0 B β st a w → (∀ β' a' w', Ext β β' st.H.nx st'.H.nx → StR W0 B β' st' a' w' → Q e.to a' w') → c.wp P Q a w) :
    CallOk P W0 (callBy P T D run) := by
  intro g args H d H' h B β w vs hw hr
  unfold callBy at h
  split at h
  · rename_i fn hf
    split at h
    · rename_i c hb
      cases hle : Nat.ble args.length fn.ntmps with
      | false => simp [hle] at h
      | true =>
        have hle' := Nat.le_of_ble_eq_true hle
        simp only [hle, cond_true] at h
        refine ⟨callFunc_enter hf hb (hN g fn hf) vs, ?_⟩
        have hl := hr.length
        simp at hl
        have hst0 : StR W0 B β ⟨fn.ntmps, initT args, H, []⟩ { tmps := vs ++ Array.replicate (fn.ntmps - vs.size) undef, defers := [] } w := by
          refine ⟨hw, ⟨by simp; omega, fun t => ?_⟩, rfl⟩
          rcases initT_get args .nil 0 t with e | ⟨i, dd, e1, e2, e3⟩ | e
          · show R β (((initT args).get t).getD .bad) _
            rw [show (initT args).get t = none from e]; simp [R]
          · obtain ⟨x, hx, hrx⟩ := hr.get i dd e2
            have hti : t = i := by omega
            subst hti
            show R β (((initT args).get t).getD .bad) _
            rw [show (initT args).get t = some dd from e3]
            have hlt : t < vs.size := by
              have := (List.getElem?_eq_some_iff.1 hx).1
              simpa using this
            have : (vs ++ Array.replicate (fn.ntmps - vs.size) undef)[t]? = some x := by
              rw [Array.getElem?_append_left hlt, ← Array.getElem?_toList]
              exact hx
            simpa [this] using hrx
          · show R β (((initT args).get t).getD .bad) _
            rw [show (initT args).get t = none from e]; simp [R]
        have fin : ∀ (e : Ex) (st : St), (e = .nm ∨ e = .rt) → run c ⟨fn.ntmps, initT args, H, []⟩ = some (e, st) → (bif st.df.all fun x => D x.1 then (resAllD T st fn.results.toList).map fun ds => (tupD ds, st.H) else none) = some (d, H') →
            Calls P g vs w fun e w' => ∃ v β', e = .returned v ∧ Ext β β' H.nx H'.nx ∧ WR W0 B β' H' w' ∧ R β' d v := by
          intro e st he hrn hres
          cases hdf : st.df.all fun x => D x.1 with
          | false => simp [hdf] at hres
          | true =>
            simp only [hdf, cond_true] at hres
            cases hra : resAllD T st fn.results.toList with
            | none => simp [hra] at hres
            | some ds =>
              simp only [hra, Option.map_some, Option.some.injEq, Prod.mk.injEq] at hres
              obtain ⟨rfl, rfl⟩ := hres
              refine calls_of_wp_defers hf hb (hrun c _ _ _ hrn B β _ w _ hst0 fun β' a' w' hext hi' => ?_)
              obtain ⟨v, hv, hrv⟩ := resAllD_run hT hra hi'
              have hl := leaves_ok hD (Rr := fun e w' => ∃ v β', e = .returned v ∧ Ext β β' H.nx st.H.nx ∧ WR W0 B β' st.H w' ∧ R β' (tupD ds) v) ⟨v, hv, v, β', rfl, hext, hi'.wr, hrv⟩ st.df a'.defers hi'.df hdf
              rcases he with rfl | rfl <;> exact hl
        split at h
        · rename_i st hrn; exact fin .nm st (.inl rfl) hrn h
        · rename_i st hrn; exact fin .rt st (.inr rfl) hrn h
        · cases h
    · cases h
  · cases h

theorem runC_ok (hT : T.Ok P) (hmix : P.follows .mixedOrders = true) {D : FuncId → Bool} (hD : DefOk P D) (hN : ∀ (g : FuncId) (fn : Func), P.funcs[g]? = some fn → (fn.name == "runtime.NumGoroutine") = false) : ∀ (n : Nat),
    (∀ (c : Code) (st st' : St) (e : Ex), runC P T D n c st = some (e, st') → ∀ (B : Nat → Option Go.Obj) (β : Be) (a : Act) (w : World) (Q : Exit → Act → World → Prop), StR W0 B β st a w → (∀ β' a' w', Ext β β' st.H.nx st'.H.nx → StR W0 B β' st' a' w' → Q e.to a' w') → c.wp P Q a w) ∧
    (∀ (x : Code) (st st' : St) (e : Ex), runC P T D n (.loop x) st = some (e, st') → ∀ (B : Nat → Option Go.Obj) (β : Be) (a : Act) (w : World) (Q : Exit → Act → World → Prop), StR W0 B β st a w → (∀ β' a' w', Ext β β' st.H.nx st'.H.nx → StR W0 B β' st' a' w' → Q e.to a' w') → Code.rounds P x Q n a w)
  | 0 => ⟨fun c st st' e h => by simp [runC] at h, fun c st st' e h => by simp [runC] at h⟩
  | n + 1 => by
    obtain ⟨ih, ihL⟩ := runC_ok hT hmix hD hN n
    have hcall := callBy_ok (W0 := W0) hT hD hN ih
    have loop : ∀ (x : Code) (st st' : St) (e : Ex), runC P T D (n + 1) (.loop x) st = some (e, st') → ∀ (B : Nat → Option Go.Obj) (β : Be) (a : Act) (w : World) (Q : Exit → Act → World → Prop), StR W0 B β st a w → (∀ β' a' w', Ext β β' st.H.nx st'.H.nx → StR W0 B β' st' a' w' → Q e.to a' w') → Code.rounds P x Q (n + 1) a w := by
      intro x st st' e h B β a w Q hi hq
      simp only [runC] at h
      rw [rounds_succ]
      split at h
      · rename_i st1 h1
        exact ih x st st1 .nm h1 B β a w _ hi fun β1 a1 w1 hext hi1 => ihL x st1 st' e h B β1 a1 w1 Q hi1 fun β' a' w' hext' => hq β' a' w' (hext.trans hext')
      · rename_i r hne
        refine ih x st st' e h B β a w _ hi fun β' a' w' hext hi' => ?_
        cases e with
        | nm => exact absurd h (hne st')
        | rt => exact hq β' a' w' hext hi'
        | ex j => exact hq β' a' w' hext hi'
    refine ⟨fun c st st' e h B β a w Q hi hq => ?_, loop⟩
    cases c with
    | skip =>
      simp only [runC, Option.some.injEq, Prod.mk.injEq] at h
      obtain ⟨rfl, rfl⟩ := h
      exact wp_skip (hq β a w Ext.rfl' hi)
    | region id ops draw =>
      cases draw with
      | false =>
        simp only [runC] at h
        cases h1 : opsD T (callBy P T D (runC P T D n)) ops ops.toList st with
        | none => simp [h1] at h
        | some s =>
          simp only [h1, Option.map_some, Option.some.injEq, Prod.mk.injEq] at h
          obtain ⟨rfl, rfl⟩ := h
          exact wp_region_list (ops_ok hT hcall h1 hi hq)
      | true =>
        simp only [runC] at h
        cases h1 : drawD T (callBy P T D (runC P T D n)) ops st with
        | none => simp [h1] at h
        | some s =>
          simp only [h1, Option.map_some, Option.some.injEq, Prod.mk.injEq] at h
          obtain ⟨rfl, rfl⟩ := h
          exact draw_ok hT hcall hmix h1 hi hq
    | seq x y =>
      simp only [runC] at h
      refine wp_seq ?_
      split at h
      · rename_i st1 h1
        exact ih x st st1 .nm h1 B β a w _ hi fun β1 a1 w1 hext hi1 => ih y st1 st' e h B β1 a1 w1 Q hi1 fun β' a' w' hext' => hq β' a' w' (hext.trans hext')
      · rename_i r hne
        refine ih x st st' e h B β a w _ hi fun β' a' w' hext hi' => ?_
        cases e with
        | nm => exact absurd h (hne st')
        | rt => exact hq β' a' w' hext hi'
        | ex j => exact hq β' a' w' hext hi'
    | cond c x y =>
      simp only [runC] at h
      have hev := hi.sl.ev c
      split at h
      · rename_i hc
        rw [hc] at hev
        simp only [R] at hev
        exact wp_cond_true hev (ih x st st' e h B β a w Q hi hq)
      · rename_i hc
        rw [hc] at hev
        simp only [R] at hev
        exact wp_cond_false hev (ih y st st' e h B β a w Q hi hq)
      · cases h
    | block id c =>
      simp only [runC] at h
      refine wp_block ?_
      split at h
      · rename_i j st1 h1
        cases hj : Nat.beq j id with
        | true =>
          simp only [hj, cond_true, Option.some.injEq, Prod.mk.injEq] at h
          obtain ⟨rfl, rfl⟩ := h
          refine ih c st st1 _ h1 B β a w _ hi fun β' a' w' hext hi' => ?_
          simp only [Ex.to, Exit.inBlock, if_pos (Nat.eq_of_beq_eq_true hj)]
          exact hq β' a' w' hext hi'
        | false =>
          simp only [hj, cond_false, Option.some.injEq, Prod.mk.injEq] at h
          obtain ⟨rfl, rfl⟩ := h
          refine ih c st st1 _ h1 B β a w _ hi fun β' a' w' hext hi' => ?_
          simp only [Ex.to, Exit.inBlock, if_neg (Nat.ne_of_beq_eq_false hj)]
          exact hq β' a' w' hext hi'
      · rename_i r hne
        refine ih c st st' e h B β a w _ hi fun β' a' w' hext hi' => ?_
        cases e with
        | nm => exact hq β' a' w' hext hi'
        | rt => exact hq β' a' w' hext hi'
        | ex j => exact absurd h (hne j st')
    | loop x => exact wp_loop_rounds (n + 1) (loop x st st' e h B β a w Q hi hq)
    | exit id =>
      simp only [runC, Option.some.injEq, Prod.mk.injEq] at h
      obtain ⟨rfl, rfl⟩ := h
      exact wp_exit (hq β a w Ext.rfl' hi)
    | ret =>
      simp only [runC, Option.some.injEq, Prod.mk.injEq] at h
      obtain ⟨rfl, rfl⟩ := h
      exact wp_ret (hq β a w Ext.rfl' hi)
    | _ => simp [runC] at h

/-- A function of no arguments that the evaluator carries out to its end: it comes to this in every world. -/
theorem closed_ok (hT : T.Ok P) (hmix : P.follows .mixedOrders = true) {D : FuncId → Bool} (hD : DefOk P D) (hN : ∀ (g : FuncId) (fn : Func), P.funcs[g]? = some fn → (fn.name == "runtime.NumGoroutine") = false) {g : FuncId} {n : Nat} {bo : Bool} {H' : Hp}
    (h : callBy P T D (runC P T D n) g [] ⟨.nil, 0⟩ = some (.v (.bool bo), H')) (w : World) : Calls P g #[] w fun e w' => e = .returned (.bool bo) ∧ Below w.heap.size w w' := by
  have hw : WR w (fun b => w.heap[b]?) (fun _ => none) ⟨.nil, 0⟩ w := by
    refine ⟨rfl, rfl, rfl, Nat.le_refl _, fun _ _ h => h, fun _ _ _ h => (by cases h), fun id k h => ?_, fun id k b c h => ?_, fun id id' k k' b c c' h => ?_, by simp [Tr.fits]⟩ <;> (simp [lookB, Tr.get] at h)
  have hc := callBy_ok (W0 := w) hT hD hN (runC_ok hT hmix hD hN n).1
  obtain ⟨_, h2⟩ := hc g [] ⟨.nil, 0⟩ _ H' h (fun b => w.heap[b]?) (fun _ => none) w #[] hw (by simp [RL])
  refine h2.mono ?_
  rintro e w' ⟨v, β', rfl, _, h3, h4⟩
  simp only [R] at h4
  subst h4
  refine ⟨rfl, h3.os, h3.tape, h3.output, h3.size, fun k hk => ?_⟩
  have e1 : w.heap[k]? = some w.heap[k] := by simp [hk]
  rw [h3.prot k _ e1, e1]
end
end Go.Cx
/- What the evaluator asks of the program. -/
namespace Go.Cx
open Go Go.Ab Go.Proofs
open Go.RowKit (Below)

def defD (g : FuncId) : Bool := Nat.beq g 95

theorem names_ok : (Tryz.prog.funcs.all fun fn => !(fn.name == "runtime.NumGoroutine")) = true := by kernel_rfl
theorem hnames (g : FuncId) (fn : Func) (h : Tryz.prog.funcs[g]? = some fn) : (fn.name == "runtime.NumGoroutine") = false := by
  have := (Array.all_eq_true_iff_forall_mem.1 names_ok) fn (Array.mem_of_getElem? h)
  simpa using this

section
variable {P : Program} {ops : Array Oper} {Q : Exit → Act → List Frame → World → Prop} {i : Nat} {rest : List Nat} {o : Oper} {a : Act} {cs : List Frame} {w w' : World} {v : Value}
theorem opsS_recover (ho : ops[i]? = some o) (hg : o.guard = none) (hr : (execOp a.eval o).run P w = .ok .recover w') (hn : recoverD cs = none) (h : wpOpsS P ops Q rest (a.put o.dst .nilIface) cs w') : wpOpsS P ops Q (i :: rest) a cs w := by
  simp only [wpOpsS, ho, Region.wanted, hg, if_true, hr, hn]
  exact h
theorem opsS_value (ho : ops[i]? = some o) (hg : o.guard = none) (hr : (execOp a.eval o).run P w = .ok (.value v) w') (h : wpOpsS P ops Q rest (a.put o.dst v) cs w') : wpOpsS P ops Q (i :: rest) a cs w := by
  simp only [wpOpsS, ho, Region.wanted, hg, if_true, hr, Oper.upon]
  exact h
theorem neq_nil {T : TT} (hT : T.Ok P) {t t' : TypeId} {x : Operand} (ho : o.op = .binOp .neq t x (.const .nilIface) t') {ti : TInfo} {ms : Array (String × TypeId)} (hti : T.get t = some ti) (hd : ti.desc = .interface ms) (he : a.eval x = .nilIface) : (execOp a.eval o).run P w = .ok (.value (.bool false)) w := by
  obtain ⟨v, h1, h2⟩ := nilD_sound (P := P) (β := fun _ => none) (w := w) hT (op := .neq) (t := t) (a := a) (x := x) (y := .const .nilIface) (p := .v .nilIface) (r := .v (.bool false)) (xv := .nilIface) (by simp [nilD, hti, hd]) (by simp only [R])
  simp only [R] at h2
  subst h2
  simp only [execOp, ho, he]
  rw [Sem.run_bind, h1]
  rfl
end

set_option maxRecDepth 4000 in
theorem defOk : DefOk Tryz.prog defD := by
  intro g hg
  have e := Nat.eq_of_beq_eq_true hg
  subst e
  refine ⟨Tryz.call95, fun cs w => ?_⟩
  refine callsD_of_wpS Tryz.func95 rfl fun c₀ fs hu => ?_
  have h18 : 18 ≤ (cs ++ Array.replicate (Tryz.f95.ntmps - cs.size) undef).size := by
    have : Tryz.f95.ntmps = 18 := rfl
    rw [this]; simp; omega
  generalize (cs ++ Array.replicate (Tryz.f95.ntmps - cs.size) undef) = t0 at h18 ⊢
  have hrec : recoverD (c₀ :: fs) = none := by simp [recoverD, hu]
  refine wpS_seq (wpS_region ?_)
  show wpOpsS _ _ _ [0, 1] _ _ _
  refine opsS_recover rfl rfl rfl hrec (opsS_value rfl rfl rfl ?_)
  show Code.wpS _ _ _ _ _ _
  refine wpS_seq (wpS_region ?_)
  show wpOpsS _ _ _ [0, 1] _ _ _
  refine opsS_value rfl rfl rfl (opsS_value (v := .bool false) (w' := w) rfl rfl ?_ ?_)
  · refine neq_nil tt_ok rfl rfl rfl ?_
    simp [Act.eval, Act.put, show 5 < t0.size by omega, show 2 < t0.size by omega, show 6 < t0.size by omega]
  show Code.wpS _ _ _ _ _ _
  refine wpS_cond (t := false) ?_ ?_
  · simp [Act.eval, Act.put, show 5 < t0.size by omega, show 2 < t0.size by omega, show 7 < t0.size by omega]
  · refine wpS_of_wp (wp_skip ?_)
    refine ⟨by simp [Act.put], .returning, ?_, .tuple #[], ?_, ⟨_, rfl⟩, rfl, rfl⟩
    · rw [← hu]
    · simp [results]
end Go.Cx
