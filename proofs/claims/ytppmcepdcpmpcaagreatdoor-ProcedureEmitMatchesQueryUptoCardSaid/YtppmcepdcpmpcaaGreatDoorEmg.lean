/- procedureEmitMatchesQueryUpto_holds, part 7: the layer, the plain functions and what they compute; conditions as in the statement. -/
import Derived.Test.YtppmcepdcpmpcaaGreatDoorEmf
set_option maxHeartbeats 4000000
namespace Go.Proofs.YtppmcepdcpmpcaaGreatDoor
noncomputable section
open Go Go.Ab
def qP (q : LQuery) : Prop:=(cE q).length≤24∧jM q≤12∧(bI q).2≤20000
instance (q : LQuery) : Decidable (qP q):=by unfold qP; infer_instance
theorem rj {s : LSchema} {vars : List LCol} {q : LQuery} (h : SmallQ q) : ∃ cs e,fP s vars q=some (cs,e)∧(e=0 ↔ qP q∧lM (eV q)∧(dQ ⟨s,vars⟩ q).2=0)∧(e=0→cs=(dQ ⟨s,vars⟩ q).1):=by
 unfold fP
 rw [nodes_ok q h.nodes,bPs]
 by_cases h1 : (cE q).length≤24
 ·rw [zf (show ¬ ((cE q).length : Int) > 24 from by omega),zd,depth_ok q h.nodes,bPs]
  by_cases h2 : jM q≤12
  ·rw [zf (show ¬ jM q > 12 from by omega),zd]
   unfold gF
   rw [most_ok,bPs,bPs]
   by_cases h3 : (bI q).2≤20000
   ·rw [zf (show ¬ (bI q).2 > 20000 from by omega),bPs,zd,rc h.nodes,bPs]
    cases hb : (bM q).2.1 with
    | true =>
     refine ⟨[],13,rfl,⟨fun h=>by omega,fun hh=>?_⟩,fun h=>by omega⟩
     rw [kinds_bad.2 hh.2.1] at hb
     cases hb
    | false =>
     have hk:=kinds_bad.1 hb
     simp only [zd]
     rw [cols_ok _ q h]
     refine ⟨(dQ ⟨s,vars⟩ q).1,(dQ ⟨s,vars⟩ q).2,rfl,⟨fun h0=>⟨⟨h1,h2,h3⟩,hk,h0⟩,fun hh=>hh.2.2⟩,fun _=>rfl⟩
   ·rw [zt (show (bI q).2 > 20000 from by omega)]
    exact ⟨[],2,rfl,⟨fun h=>by omega,fun hh=>absurd hh.1.2.2 h3⟩,fun h=>by omega⟩
  ·rw [zt (show jM q > 12 from by omega)]
   exact ⟨[],2,rfl,⟨fun h=>by omega,fun hh=>absurd hh.1.2.1 h2⟩,fun h=>by omega⟩
 ·rw [zt (show ((cE q).length : Int) > 24 from by omega)]
  exact ⟨[],2,rfl,⟨fun h=>by omega,fun hh=>absurd hh.1.1 h1⟩,fun h=>by omega⟩
structure TinyQ (q : LQuery) : Prop where
 nodes : (cE q).length≤2000000
 here : ∀ x∈cE q,x.exprs.length≤1000000∧x.aggregates.length≤1000000
theorem TinyQ.small {q : LQuery} (h : TinyQ q) : SmallQ q:=⟨by have:=h.nodes; omega,h.here⟩
theorem qk {H : Type} : ∀ ds : List (DataW H),(ds.map (fun d=>Rows.uptoBulk d)).sum=Rows.uptoBulkAll ds
 | []=>by simp [Rows.uptoBulkAll]
 | d :: ds=>by simp only [List.map_cons,List.sum_cons,Rows.uptoBulkAll,qk ds]
theorem bulk_is : IsBulk (fun _ d=>Rows.uptoBulk d) where
 one:=by
  intro H d
  cases d with
  | lit l=>cases l <;> simp [Rows.uptoBulk]
  | nil=>simp [Rows.uptoBulk]
  | ptr d=>simp [Rows.uptoBulk]
  | slice elems spare=>simp [Rows.uptoBulk]
  | agg parts=>simp [Rows.uptoBulk]
  | iface t d=>simp [Rows.uptoBulk]
  | map entries=>simp [Rows.uptoBulk]
  | held h=>simp [Rows.uptoBulk]
 str:=by intro H l; simp [Rows.uptoBulk]
 slice:=by intro H a b; rw [qk]; simp only [Rows.uptoBulk]; omega
 agg:=by intro H a; rw [qk]; simp only [Rows.uptoBulk]; omega
theorem pz {r : List PV} : ∀ {rs : List (List PV)},r∈rs→bN r≤gA rs
 | x :: rs,h=>by
  simp only [gA]
  rcases List.mem_cons.1 h with rfl | h
  ·omega
  ·have:=pz h; omega
theorem mM {α : Type} {f : α→List PV} {k : Nat} (hf : ∀ x,k≤bN (f x)) : ∀ l : List α,k * l.length≤gA (l.map f)
 | []=>by simp
 | x :: l=>by
  have:=mM hf l
  have:=hf x
  simp only [List.map_cons,gA,List.length_cons,Nat.mul_add]
  omega
theorem expr_pos (e : LExpr) : 2≤bN (ez e):=by
 cases e; simp only [ez,bN,PV.bulk]; omega
theorem call_pos (c : LAggregateCall) : 2≤bN (li c):=by
 simp only [li,bN,PV.bulk]; omega
theorem smallS_bulk {s : LSchema} {n : Nat} (hn : n≤10000000) (h : bN (bR s)≤n) : nc s:=by
 intro t ht
 have h1 : gA (s.tables.map bA)≤bN (bR s):=by
  simp only [bR,bN,PV.bulk]; omega
 have h2:=pz (List.mem_map_of_mem (f:=bA) ht)
 have h3 : gA (t.primaryKey.map bG)≤bN (bA t):=by
  simp only [bA,bN,PV.bulk]; omega
 have h4:=mM (f:=bG) (k:=1) (fun x=>by simp [bN,PV.bulk]) t.primaryKey
 omega
theorem nodes_bulk : ∀ q : LQuery,(cE q).length+1≤bN (cr q)∧∀ x∈cE q,2 * x.exprs.length≤bN (cr q)∧2 * x.aggregates.length≤bN (cr q):=by
 apply LQuery.ind
 intro q ih
 have e : bN (cr q)=bN (aI q):=by rw [ce]
 have hr : gA (q.inputs.map cr)+8≤bN (aI q):=by
  simp only [aI,bN,PV.bulk]; omega
 have hsum : ∀ l : List LQuery,(∀ x∈l,x∈q.inputs)→((l.map cE).flatten).length+l.length≤gA (l.map cr):=by
  intro l
  induction l with
  | nil=>intro _; simp
  | cons x l ihl =>
   intro hm
   have h1:=(ih x (hm x (by simp))).1
   have h2:=ihl (fun y hy=>hm y (by simp [hy]))
   simp only [List.map_cons,List.flatten_cons,List.length_append,List.length_cons,gA]
   omega
 have h0:=hsum q.inputs (fun _ h=>h)
 rw [e]
 refine ⟨?_,fun x hx=>?_⟩
 ·rw [jZ]; simp only [List.length_cons]; omega
 ·rw [jZ] at hx
  rcases List.mem_cons.1 hx with rfl | hx
  ·have h1:=mM expr_pos x.exprs
   have h2:=mM call_pos x.aggregates
   constructor
   ·simp only [aI,bN,PV.bulk]; omega
   ·simp only [aI,bN,PV.bulk]; omega
  ·simp only [List.mem_flatten,List.mem_map] at hx
   obtain ⟨l,⟨y,hy,rfl⟩,hx⟩:=hx
   have h1:=(ih y hy).2 x hx
   have h2:=pz (List.mem_map_of_mem (f:=cr) hy)
   omega
theorem tiny_bulk {q : LQuery} {n : Nat} (hn : n≤1048576) (h : bN (aI q)≤n) : TinyQ q:=by
 rw [← ce] at h
 have:=nodes_bulk q
 exact ⟨by omega,fun x hx=>by have:=this.2 x hx; omega⟩
theorem qn {β : Type} {F : Nat→Option β} {v : Option β} (n : Nat) (h : ∀ m,n≤m→F m=v) : ir F=v:=by
 cases v with
 | some r=>exact pr n h
 | none =>
  cases hl : ir F with
  | none=>rfl
  | some r =>
   obtain ⟨k,hk⟩:=limN_ev hl
   have:=hk (max n k) (Nat.le_max_right n k)
   rw [h _ (Nat.le_max_left n k)] at this
   cases this
theorem st_lt {l : List LProcedureStatement} {s : LProcedureStatement} (h : s∈l) : SizeOf.sizeOf s.body < SizeOf.sizeOf l∧SizeOf.sizeOf s.elseF < SizeOf.sizeOf l:=by
 have:=List.sizeOf_lt_of_mem h
 cases s
 simp only [LProcedureStatement.body,LProcedureStatement.elseF,LProcedureStatement.mk.sizeOf_spec] at this ⊢
 omega
theorem st_ind {p : List LProcedureStatement→Prop} (h : ∀ l : List LProcedureStatement,(∀ s∈l,p s.body∧p s.elseF)→p l) : ∀ l,p l:=by
 intro l
 generalize hn : SizeOf.sizeOf l=n
 induction n using Nat.strongRecOn generalizing l with
 | _ n ih=>exact h l fun s hs=>⟨ih _ (hn ▸ (st_lt hs).1) _ rfl,ih _ (hn ▸ (st_lt hs).2) _ rfl⟩
def jr (l : List LProcedureStatement) : Nat:=(l.attach.map fun s=>1+jr s.1.body+jr s.1.elseF).sum
termination_by SizeOf.sizeOf l
decreasing_by
 ·exact (st_lt s.2).1
 ·exact (st_lt s.2).2
theorem nK (l : List LProcedureStatement) : jr l=(l.map fun s=>1+jr s.body+jr s.elseF).sum:=by
 rw [jr,List.attach_map_val (f:=fun s : LProcedureStatement=>1+jr s.body+jr s.elseF)]
theorem sum_mem {α : Type} {f : α→Nat} : ∀ {l : List α} {x : α},x∈l→f x≤(l.map f).sum
 | y :: l,x,h=>by
  simp only [List.map_cons,List.sum_cons]
  rcases List.mem_cons.1 h with rfl | h
  ·omega
  ·have:=sum_mem (f:=f) h; omega
theorem cntS_mem {l : List LProcedureStatement} {s : LProcedureStatement} (h : s∈l) : 1+jr s.body+jr s.elseF≤jr l:=by
 rw [nK l]
 exact sum_mem (f:=fun s : LProcedureStatement=>1+jr s.body+jr s.elseF) h
theorem sum_take {α : Type} {f : α→Nat} : ∀ {l : List α} {k : Nat},((l.take k).map f).sum≤(l.map f).sum
 | [],k=>by simp
 | y :: l,0=>by simp
 | y :: l,k+1=>by simp only [List.take_succ_cons,List.map_cons,List.sum_cons]; have:=sum_take (f:=f) (l:=l) (k:=k); omega
theorem cntS_take {l : List LProcedureStatement} {k : Nat} {x : LProcedureStatement} (hk : l[k]?=some x) : jr (l.take (k+1))=jr (l.take k)+(1+jr x.body+jr x.elseF)∧jr (l.take (k+1))≤jr l:=by
 rw [nK (l.take (k+1)),nK (l.take k),nK l]
 refine ⟨?_,sum_take⟩
 rw [List.take_add_one,hk]
 simp
theorem stmts_both : ∀ l : List LProcedureStatement,(∃ N,∀ n,N≤n→dv n l=bZ l)∧bZ l=du bZ l:=by
 refine st_ind fun l ih=>?_
 obtain ⟨N,hN⟩:=oi (p:=fun (s : LProcedureStatement) n=>dv n s.body=bZ s.body∧dv n s.elseF=bZ s.elseF) l (fun s hs=>by
  obtain ⟨⟨⟨a,ha⟩,_⟩,⟨⟨b,hb⟩,_⟩⟩:=ih s hs
  exact ⟨a+b,fun n hn=>⟨ha n (by omega),hb n (by omega)⟩⟩)
 have key : ∀ n,N+1≤n→dv n l=du bZ l:=by
  intro n hn
  obtain ⟨n,rfl⟩ : ∃ k,n=k+1:=⟨n - 1,by omega⟩
  show du (fun b0=>dv n b0) l=_
  simp only [du]
  congr 1
  exact ig l 0 _ fun k s t hk=>by
   obtain ⟨h1,h2⟩:=hN n (by omega) s (eB hk)
   simp only [h1,h2]
 have e : bZ l=du bZ l:=qn (N+1) key
 exact ⟨⟨N+1,fun n hn=>by rw [key n hn,e]⟩,e⟩
theorem depth_both : ∀ l : List LProcedureStatement,(∃ N,∀ n,N≤n→eT n l=dq l)∧dq l=eR dq l:=by
 refine st_ind fun l ih=>?_
 obtain ⟨N,hN⟩:=oi (p:=fun (s : LProcedureStatement) n=>eT n s.body=dq s.body∧eT n s.elseF=dq s.elseF) l (fun s hs=>by
  obtain ⟨⟨⟨a,ha⟩,_⟩,⟨⟨b,hb⟩,_⟩⟩:=ih s hs
  exact ⟨a+b,fun n hn=>⟨ha n (by omega),hb n (by omega)⟩⟩)
 have key : ∀ n,N+1≤n→eT n l=eR dq l:=by
  intro n hn
  obtain ⟨n,rfl⟩ : ∃ k,n=k+1:=⟨n - 1,by omega⟩
  show eR (fun b0=>eT n b0) l=_
  simp only [eR]
  congr 1
  exact ig l 0 _ fun k s t hk=>by
   obtain ⟨h1,h2⟩:=hN n (by omega) s (eB hk)
   simp only [h1,h2]
 have e : dq l=eR dq l:=qn (N+1) key
 exact ⟨⟨N+1,fun n hn=>by rw [key n hn,e]⟩,e⟩
theorem sG : ∀ l : List LProcedureStatement,(∃ N,∀ n,N≤n→∀ c vars,bY n c vars l=bB c vars l) ∧
  (∀ c vars,bB c vars l=cT bB bQ c vars l) ∧
  ∀ s∈l,∀ c vars,bQ c vars s=cw bB bQ c vars s:=by
 refine st_ind fun l ih=>?_
 have hs : ∀ s∈l,(∃ N,∀ n,N≤n→∀ c vars,ck n c vars s=bQ c vars s)∧∀ c vars,bQ c vars s=cw bB bQ c vars s:=by
  intro s hsm
  obtain ⟨⟨⟨a,ha⟩,_,_⟩,⟨⟨b,hb⟩,_,_⟩⟩:=ih s hsm
  have key : ∀ n,a+b+1≤n→∀ c vars,ck n c vars s=cw bB bQ c vars s:=by
   intro n hn c vars
   obtain ⟨n,rfl⟩ : ∃ k,n=k+1:=⟨n - 1,by omega⟩
   show cw (fun b0 b1 b2=>bY n b0 b1 b2) (fun b0 b1 b2=>ck n b0 b1 b2) c vars s=_
   have h1 : ∀ v,bY n c v s.body=bB c v s.body:=fun v=>ha n (by omega) c v
   have h2 : ∀ v,bY n c v s.elseF=bB c v s.elseF:=fun v=>hb n (by omega) c v
   simp only [cw,h1]
  have e : ∀ c vars,bQ c vars s=cw bB bQ c vars s:=fun c vars=>qn _ (fun m hm=>key m hm c vars)
  exact ⟨⟨a+b+1,fun n hn c vars=>by rw [key n hn,e]⟩,e⟩
 obtain ⟨N,hN⟩:=oi (p:=fun (s : LProcedureStatement) n=>∀ c vars,ck n c vars s=bQ c vars s) l (fun s h=>(hs s h).1)
 have key : ∀ n,N+1≤n→∀ c vars,bY n c vars l=cT bB bQ c vars l:=by
  intro n hn c vars
  obtain ⟨n,rfl⟩ : ∃ k,n=k+1:=⟨n - 1,by omega⟩
  show cT (fun b0 b1 b2=>bY n b0 b1 b2) (fun b0 b1 b2=>ck n b0 b1 b2) c vars l=_
  simp only [cT]
  congr 1
  exact ig l 0 _ fun k s t hk=>by
   have h1:=hN n (by omega) s (eB hk)
   simp only [h1]
 have e : ∀ c vars,bB c vars l=cT bB bQ c vars l:=fun c vars=>qn (N+1) (fun m hm=>key m hm c vars)
 exact ⟨⟨N+1,fun n hn c vars=>by rw [key n hn,e]⟩,e,fun s h=>(hs s h).2⟩
theorem stmts_ok : ∀ l : List LProcedureStatement,jr l≤1000000→∃ r,bZ l=some r∧r.length=jr l:=by
 refine st_ind fun l ih hc=>?_
 rw [(stmts_both l).2]
 simp only [du]
 obtain ⟨fl,h1,h2⟩:=eQ (step:=fun (_ : Nat) (x1 : LProcedureStatement) (s1 : List LProcedureStatement) =>
  af (dg 192 s1 ([x1] : List LProcedureStatement)) fun (x15 : List LProcedureStatement) =>
  af (bZ x1.body) fun x19 =>
  af (dg 192 x15 x19) fun (x20 : List LProcedureStatement) =>
  af (bZ x1.elseF) fun x24 =>
  af (dg 192 x20 x24) fun (x25 : List LProcedureStatement) =>
  some (Flow.next (ρ:=Empty) x25)) (fun j (s : List LProcedureStatement)=>s.length=jr (l.take j)) (fun _=>False) l 0 [] (by rw [List.take_zero,nK]; rfl) (fun k x s hk hI=>by
   simp only [Nat.zero_add] at hI ⊢
   have hx:=eB hk
   have hm:=cntS_mem hx
   obtain ⟨h3,h4⟩:=cntS_take hk
   obtain ⟨r1,e1,l1⟩:=(ih x hx).1 (by omega)
   obtain ⟨r2,e2,l2⟩:=(ih x hx).2 (by omega)
   refine ⟨.next (((s++[x])++r1)++r2),?_,?_⟩
   ·rw [bS (by decide) (by simp; omega),bPs,e1,bPs,bS (by decide) (by simp; omega),bPs,e2,bPs,bS (by decide) (by simp; omega),bPs]
   ·simp only [List.length_append,List.length_cons,List.length_nil]
    omega)
 rw [h1,bPs]
 cases fl with
 | next s=>exact ⟨s,rfl,by simpa using h2⟩
 | brk s=>exact absurd h2 (by simp)
 | ret r=>exact r.elim
theorem shapeP1 (l : List Int) (s : LProcedureStatement) : bW l s=some (l.any fun x=>s.kind==x):=by
 unfold bW
 rw [sV,bPs]
theorem set_tot {vars : List LCol} {x : LCol} (hl : vars.length≤100000) : ∃ v,ja vars x=some v∧v.length≤vars.length+1:=by
 unfold ja
 rw [deleteCol_eq vars (fun a=>gB a x) _ (fun a _=>rfl) (by omega),bPs]
 have hf:=List.length_filter_le (fun a=>!gB a x) vars
 rw [bS (by decide) (by simp only [List.length_cons,List.length_nil]; omega),bPs]
 exact ⟨_,rfl,by simp only [List.length_append,List.length_cons,List.length_nil]; omega⟩
theorem rowLen {cols : List LCol} {row : Rq} (h : fw cols row) (hc : cols.length≤20) : row.length≤20:=by rw [h.1]; exact hc
theorem scan_run (st : List LRelation) (name : List UInt8) : af (aH (σ:=Unit) (ρ:=(Rows)) (fun (_ : Nat) (x1 : LRelation) (_ : Unit)=>cond (x1.table==name) (some (.ret x1.rows)) (some (.next ()))) 0 st ()) (fun fl1=>fl1.thenR fun (_ : Unit)=>some []) =
  some (match st.find? fun x=>x.table==name with | some x=>x.rows | none=>[]):=by
 rw [qu (fun x : LRelation=>x.table==name) (fun _ x=>x.rows) st 0 (fun k x _=>by cases x.table==name <;> rfl)]
 rcases find_idx (fun x : LRelation=>x.table==name) st with ⟨h1,h2⟩ | ⟨x,h1,h2,h3⟩
 ·rw [h1]
  unfold aX at h2
  cases hf : st.findIdx? (fun x=>x.table==name) with
  | none=>rfl
  | some i=>rw [hf] at h2; simp only at h2; omega
 ·rw [h1]
  unfold aX at h2 h3
  cases hf : st.findIdx? (fun x=>x.table==name) with
  | none=>rw [hf] at h2; simp at h2
  | some i =>
   rw [hf] at h3
   simp only [Int.toNat_natCast] at h3
   simp only [h3]
   rfl
theorem limit_run (l : Rows) (q : LQuery) (hl : l.length≤1000000) (hc : 0≤q.count) (ho : 0≤q.offset) :
  nu l (if (l.length : Int) < q.offset then (l.length : Int) else q.offset) (IntKind.i64.wrap ((if (l.length : Int) < q.offset then (l.length : Int) else q.offset)+(if (IntKind.i64.wrap ((l.length : Int) - (if (l.length : Int) < q.offset then (l.length : Int) else q.offset))) < q.count then (IntKind.i64.wrap ((l.length : Int) - (if (l.length : Int) < q.offset then (l.length : Int) else q.offset))) else q.count)))=some (qD q l):=by
 obtain ⟨o,ho'⟩ : ∃ o : Nat,q.offset=o:=⟨q.offset.toNat,by omega⟩
 obtain ⟨c,hc'⟩ : ∃ c : Nat,q.count=c:=⟨q.count.toNat,by omega⟩
 unfold qD
 rw [ho',hc',Int.toNat_natCast,Int.toNat_natCast]
 by_cases h1 : (l.length : Int) < (o : Int)
 ·rw [zp h1,bw (n:=(l.length : Int) - (l.length : Int)) (by omega) (by omega)]
  have e : (if (l.length : Int) - (l.length : Int) < (c : Int) then (l.length : Int) - (l.length : Int) else (c : Int))=0:=by split <;> omega
  rw [e,bw (by omega) (by omega),pn ⟨by omega,by omega,by omega⟩]
  congr 1
  rw [List.drop_of_length_le (by simp only [List.length_take]; omega)]
  symm
  exact List.drop_of_length_le (by simp only [List.length_take]; omega)
 ·rw [zy h1,bw (n:=(l.length : Int) - (o : Int)) (by omega) (by omega)]
  by_cases h2 : (l.length : Int) - (o : Int) < (c : Int)
  ·rw [zp h2,bw (by omega) (by omega),pn ⟨by omega,by omega,by omega⟩]
   rw [Int.toNat_natCast,List.take_of_length_le (i:=((o : Int)+((l.length : Int) - (o : Int))).toNat) (by omega),List.take_of_length_le (i:=o+c) (by omega)]
  ·rw [zy h2,bw (by omega) (by omega),pn ⟨by omega,by omega,by omega⟩]
   rw [Int.toNat_natCast,show ((o : Int)+(c : Int)).toNat=o+c from by omega]
theorem join_run2 (r : LRun) (q : LQuery) (ca cb : List LCol) (e : LExpr) (he : aJ q.exprs 0=some e) (hee : e=e0Q q) (a b : Rows) (ha : ∀ x∈a,x.length≤20) (hb : ∀ x∈b,x.length≤20) (hcb : cb.length≤20) (hsz : a.length * max 1 b.length≤30000) (_hk : q.kind=4 ∨ q.kind=5) :
  af (aH (σ:=List LCol×Rows) (ρ:=Empty) (fun (_ : Nat) (x1 : Rq) (s1 : List LCol×Rows) =>
  af (aH (σ:=Rows×Bool) (ρ:=Empty) (fun (_ : Nat) (x6 : Rq) (s6 : Rows×Bool) =>
   af (bT ([x1,x6] : Rows)) fun x58 =>
   af (aJ q.exprs 0) fun (x65 : LExpr) =>
   bv (bf r s1.1 x58) fun x62 =>
   bv (cg x62 x65) fun x67 =>
   bv (lG x67) fun x68 =>
   cond x68
    (af (dg 24 s6.1 ([x58] : Rows)) fun (x72 : Rows) =>
    some (.next (x72,true)))
    (some (.next (s6.1,s6.2)))) 0 b (s1.2,false)) fun fl6=>fl6.thenP fun (s6 : Rows×Bool) =>
  bv (
   cond (!s6.2)
    ((q.kind==(5 : Int)))
    (false)) fun (t7 : Bool) =>
  cond t7
   (af (qp 32 (cb.length : Int)) fun (_ : Unit) =>
   af (bT ([x1,(List.replicate (cb.length : Int).toNat (LVal.mk 0 0 []))] : Rows)) fun x87 =>
   af (dg 24 s6.1 ([x87] : Rows)) fun (x89 : Rows) =>
   some (.next (s1.1,x89)))
   (some (.next (s1.1,s6.1)))) 0 a (ca++cb,[])) (fun fl1=>fl1.thenP fun (s1 : List LCol×Rows)=>some s1.2)=some (kI (gR r (ca++cb) q) (q.kind==5) (List.replicate cb.length .nul) a b):=by
 have hpl : ∀ k,k≤a.length→(kI (gR r (ca++cb) q) (q.kind==5) (List.replicate cb.length .nul) (a.take k) b).length≤30000:=fun k hk=>by
  have h1:=sD (gR r (ca++cb) q) (q.kind==5) (List.replicate cb.length .nul) (a.take k) b
  rw [List.length_take,Nat.min_eq_left hk] at h1
  exact Nat.le_trans h1 (Nat.le_trans (Nat.mul_le_mul_right _ hk) hsz)
 rw [rMa (xs:=a) (s:=(ca++cb,[])) (fun k=>(ca++cb,kI (gR r (ca++cb) q) (q.kind==5) (List.replicate cb.length .nul) (a.take k) b)) rfl (fun k x hkx=>by
  have hkl:=(zg.1 hkx).1
  have hxm:=eB hkx
  have hbl : b.length≤30000:=by
   have h1 : 1 * max 1 b.length≤a.length * max 1 b.length:=Nat.mul_le_mul_right _ (by omega)
   omega
  have h2:=hpl k (by omega)
  simp only
  rw [match_run (gR r (ca++cb) q) e r (ca++cb) q.exprs he (fun z=>by rw [hee]; rfl) x (by have:=ha x hxm; omega) b _ false (fun y hy=>by have:=hb y hy; omega) (by omega),bPs,cf]
  have hs : kI (gR r (ca++cb) q) (q.kind==5) (List.replicate cb.length .nul) (a.take (k+1)) b=kI (gR r (ca++cb) q) (q.kind==5) (List.replicate cb.length .nul) (a.take k) b++padR (gR r (ca++cb) q) (q.kind==5) (List.replicate cb.length .nul) x b:=by
   unfold kI
   rw [List.take_add_one,hkx,List.map_append,List.flatten_append]
   simp
  rw [hs]
  simp only [bF,Bool.false_or]
  have hml : (iF (gR r (ca++cb) q) x b).length≤30000:=by unfold iF; exact Nat.le_trans (List.length_filter_le _ _) (by simpa using hbl)
  cases hm : iF (gR r (ca++cb) q) x b with
  | nil =>
   by_cases h5 : q.kind=5
   ·have e5 : (q.kind==5)=true:=ld h5
    simp only [e5,List.isEmpty_nil,Bool.not_true,Bool.not_false,zc]
    rw [growI_ok ⟨by omega,by omega,by unfold maxLen; omega⟩,bPs,concat2 x _ (by have:=ha x hxm; omega) (by simp; omega),bPs]
    rw [e5] at h2
    rw [bS (by decide) (by simp at h2 ⊢; omega),bPs]
    unfold padR
    rw [zp ⟨rfl,hm⟩]
    simp [LVal.nul]
   ·have e5 : (q.kind==5)=false:=cR h5
    simp only [e5,List.isEmpty_nil,Bool.not_true,Bool.not_false,zc,zd]
    unfold padR
    rw [zy (by simp),hm]
  | cons z zs =>
   simp only [List.isEmpty_cons,Bool.not_false,Bool.not_true,zd]
   unfold padR
   rw [zy (by rw [hm]; simp),hm])]
 rw [bPs,cf,List.take_length]
theorem rows_ev {r : LRun} (hr : RunOk r) : ∀ q : LQuery,QOk r q→∃ N,∀ n,N≤n→fH n r q=some (bd r q):=by
 refine LQuery.ind fun q ih h=>?_
 have hs:=pt (lD h.cols).1
 obtain ⟨ho,hcol⟩:=colsR_out h
 have hself:=h.small.self
 have hm:=(gW h.most).1
 obtain ⟨N,hN⟩:=oi (p:=fun x n=>fH n r x=some (bd r x)) q.inputs (fun x hx=>ih x hx (h.sub hx))
 have hall : ∀ x∈q.inputs,RowsOk r x:=fun x hx=>rows_fit hr x (h.sub hx)
 have hsz : ∀ x∈q.inputs,(bd r x).length≤20000:=fun x hx=>by
  have h1:=(hall x hx).len
  have h2:=(gW h.most).2 x hx
  have h3:=(gW h2).1
  omega
 have hrow : ∀ x∈q.inputs,∀ row∈bd r x,row.length≤20:=fun x hx row hrow=>rowLen ((hall x hx).fits row hrow) (jV _ x)
 refine ⟨N+2,fun n hn=>?_⟩
 obtain ⟨n,rfl⟩ : ∃ k,n=k+2:=⟨n - 2,by omega⟩
 rw [fH]
 simp only [kJ]
 have kk : q.kind=1 ∨ q.kind=2 ∨ q.kind=3 ∨ q.kind=4 ∨ q.kind=5 ∨ q.kind=6 ∨ q.kind=7 ∨ q.kind=8 ∨ q.kind=9 ∨ q.kind=10:=by have:=hs.kind; omega
 rcases kk with k | k | k | k | k | k | k | k | k | k
 ·rw [ld k,zc,scan_run,ew]
  unfold dK
  rw [zp k] <;>
   rfl
 all_goals have har:=hs.arity
 all_goals rw [k] at har
 all_goals simp only [pJ] at har
 ·-- filter
  obtain ⟨x,hi⟩:=one (q:=q) (by simpa using har)
  have hxm : x∈q.inputs:=by rw [hi]; simp
  have e : bd r q=(bd r x).filter (gR r (bj r x) q):=by rw [ew,hi]; unfold dK; rw [zy (by omega),zy (by omega),zy (by omega),zy (by omega),zp k]; rfl
  have hx:=hN (n+1) (by omega) x hxm
  rw [k,hi,e]
  simp only [aJ,bF]
  simp only [show ((2 : Int)==1)=false from rfl,show ((2 : Int)==4)=false from rfl,show ((2 : Int)==5)=false from rfl,show ((2 : Int)==6)=false from rfl,show ((2 : Int)==7)=false from rfl,show ((2 : Int)==2)=true from rfl,zd,zc,Int.le_refl,if_true,Int.toNat_zero,List.getElem?_cons_zero,bPs]
  rw [hx,bPs,lO (h.small.sub hxm),bPs]
  rw [deleteFunc_eq (bd r x) (fun a=>!gR r (bj r x) q a) _ (fun a _=>by
   unfold iV
   rw [e0_get (by rw [hs.one (.inl k)]; omega)]
   rfl) (by have:=hsz x hxm; omega),bPs]
  simp
 ·-- project
  obtain ⟨x,hi⟩:=one (q:=q) (by simpa using har)
  have hxm : x∈q.inputs:=by rw [hi]; simp
  have e : bd r q=(bd r x).map fun y=>q.exprs.map fun e=>cg (bf r (bj r x) y) e:=by rw [ew,hi]; unfold dK; rw [zy (by omega),zy (by omega),zy (by omega),zy (by omega),zy (by omega),zp k]; rfl
  have hx:=hN (n+1) (by omega) x hxm
  rw [k,hi,e]
  simp only [aJ,bF]
  simp only [show ((3 : Int)==1)=false from rfl,show ((3 : Int)==4)=false from rfl,show ((3 : Int)==5)=false from rfl,show ((3 : Int)==6)=false from rfl,show ((3 : Int)==7)=false from rfl,show ((3 : Int)==2)=false from rfl,show ((3 : Int)==3)=true from rfl,zd,zc,Int.le_refl,if_true,Int.toNat_zero,List.getElem?_cons_zero,bPs]
  rw [hx,bPs,lO (h.small.sub hxm),bPs]
  rw [oG (xs:=bd r x) (fun y=>q.exprs.map fun e=>cg (bf r (bj r x) y) e) (fun i y hy=>by
   have hil:=(zg.1 hy).1
   have:=hsz x hxm
   rw [rg r _ _ _ (by omega),bPs,bS (by decide) (by simp; omega),bPs]),bPs,cf]
 ·-- inner join
  obtain ⟨x,y,hi⟩:=two (q:=q) (by simpa using har)
  have hxm : x∈q.inputs:=by rw [hi]; simp
  have hym : y∈q.inputs:=by rw [hi]; simp
  have hmq:=nG h.most (by omega) hi
  rw [zy (by omega),zp (.inl k)] at hmq
  have e : bd r q=kI (gR r (bj r x++bj r y) q) (q.kind==5) (List.replicate (bj r y).length .nul) (bd r x) (bd r y):=by rw [ew,hi]; unfold dK; rw [zy (by omega),zp (.inl k)]; rfl
  have hx:=hN n (by omega) x hxm
  have hy:=hN n (by omega) y hym
  have hprod : (bd r x).length * max 1 (bd r y).length≤30000:=by
   have h1m : ((max 1 (bd r y).length : Nat) : Int)≤dM 1 (bI y).1:=by have:=jJ 1 (bI y).1; have:=nY 1 (bI y).1; have:=(hall y hym).len; omega
   have h2 : (((bd r x).length * max 1 (bd r y).length : Nat) : Int)≤(bI x).1 * dM 1 (bI y).1:=by
    rw [Int.natCast_mul]
    exact Int.mul_le_mul (hall x hxm).len h1m (by omega) (by have:=(hall x hxm).pos; omega)
   have:=h.most
   omega
  rw [cR (show q.kind≠1 by omega),ld k]
  simp only [zd,zc,bF]
  rw [gT]
  simp only [jG]
  rw [hi]
  have g0 : aJ [x,y] 0=some x:=rfl
  have g1 : aJ [x,y] 1=some y:=rfl
  simp only [g0,g1,bPs]
  rw [hx,hy]
  simp only [bPs]
  rw [lO (h.small.sub hxm),lO (h.small.sub hym)]
  simp only [bPs]
  rw [bS (by decide) (by have:=jV ⟨r.s,r.vars⟩ x; have:=jV ⟨r.s,r.vars⟩ y; unfold bj; omega),bPs]
  have he1 : q.exprs.length=1:=hs.one (.inr (.inl k))
  rw [join_run2 r q (bj r x) (bj r y) (e0Q q) (e0_get (by omega)) rfl (bd r x) (bd r y) (hrow x hxm) (hrow y hym) (jV _ y) hprod (.inl k),bPs,e]
 ·-- left join
  obtain ⟨x,y,hi⟩:=two (q:=q) (by simpa using har)
  have hxm : x∈q.inputs:=by rw [hi]; simp
  have hym : y∈q.inputs:=by rw [hi]; simp
  have hmq:=nG h.most (by omega) hi
  rw [zy (by omega),zp (.inr k)] at hmq
  have e : bd r q=kI (gR r (bj r x++bj r y) q) (q.kind==5) (List.replicate (bj r y).length .nul) (bd r x) (bd r y):=by rw [ew,hi]; unfold dK; rw [zy (by omega),zp (.inr k)]; rfl
  have hx:=hN n (by omega) x hxm
  have hy:=hN n (by omega) y hym
  have hprod : (bd r x).length * max 1 (bd r y).length≤30000:=by
   have h1m : ((max 1 (bd r y).length : Nat) : Int)≤dM 1 (bI y).1:=by have:=jJ 1 (bI y).1; have:=nY 1 (bI y).1; have:=(hall y hym).len; omega
   have h2 : (((bd r x).length * max 1 (bd r y).length : Nat) : Int)≤(bI x).1 * dM 1 (bI y).1:=by
    rw [Int.natCast_mul]
    exact Int.mul_le_mul (hall x hxm).len h1m (by omega) (by have:=(hall x hxm).pos; omega)
   have:=h.most
   omega
  rw [cR (show q.kind≠1 by omega),cR (show q.kind≠4 by omega),ld k]
  simp only [zd,zc,bF]
  rw [gT]
  simp only [jG]
  rw [hi]
  have g0 : aJ [x,y] 0=some x:=rfl
  have g1 : aJ [x,y] 1=some y:=rfl
  simp only [g0,g1,bPs]
  rw [hx,hy]
  simp only [bPs]
  rw [lO (h.small.sub hxm),lO (h.small.sub hym)]
  simp only [bPs]
  rw [bS (by decide) (by have:=jV ⟨r.s,r.vars⟩ x; have:=jV ⟨r.s,r.vars⟩ y; unfold bj; omega),bPs]
  have he1 : q.exprs.length=1:=hs.one (.inr (.inr k))
  rw [join_run2 r q (bj r x) (bj r y) (e0Q q) (e0_get (by omega)) rfl (bd r x) (bd r y) (hrow x hxm) (hrow y hym) (jV _ y) hprod (.inr k),bPs,e]
 ·-- union
  obtain ⟨x,y,hi⟩:=two (q:=q) (by simpa using har)
  have hxm : x∈q.inputs:=by rw [hi]; simp
  have hym : y∈q.inputs:=by rw [hi]; simp
  have e : bd r q=bd r x++bd r y:=by rw [ew,hi]; unfold dK; rw [zy (by omega),zy (by omega),zp k]; rfl
  have hx:=hN (n+1) (by omega) x hxm
  have hy:=hN (n+1) (by omega) y hym
  rw [cR (show q.kind≠1 by omega),cR (show q.kind≠4 by omega),cR (show q.kind≠5 by omega),ld k,hi]
  have g0 : aJ [x,y] 0=some x:=rfl
  have g1 : aJ [x,y] 1=some y:=rfl
  simp only [zd,zc,bF,g0,g1,bPs]
  have:=hsz x hxm
  have:=hsz y hym
  rw [hx,hy]
  simp only [bPs]
  rw [bS (by decide) (by omega),bPs,e]
 ·-- difference
  obtain ⟨x,y,hi⟩:=two (q:=q) (by simpa using har)
  have hxm : x∈q.inputs:=by rw [hi]; simp
  have hym : y∈q.inputs:=by rw [hi]; simp
  have e : bd r q=mf (bd r x) (bd r y):=by rw [ew,hi]; unfold dK; rw [zy (by omega),zy (by omega),zy (by omega),zp k]; rfl
  have hx:=hN (n+1) (by omega) x hxm
  have hy:=hN (n+1) (by omega) y hym
  rw [cR (show q.kind≠1 by omega),cR (show q.kind≠4 by omega),cR (show q.kind≠5 by omega),cR (show q.kind≠6 by omega),ld k,hi]
  have g0 : aJ [x,y] 0=some x:=rfl
  have g1 : aJ [x,y] 1=some y:=rfl
  simp only [zd,zc,bF,g0,g1,bPs]
  have:=hsz x hxm
  have:=hsz y hym
  rw [hx,hy]
  simp only [bPs]
  rw [less_eq _ _ (by omega) (by omega),bPs,e]
 ·-- aggregation
  obtain ⟨x,hi⟩:=one (q:=q) (by simpa using har)
  have hxm : x∈q.inputs:=by rw [hi]; simp
  have e : bd r q=mR r (bj r x) q (bd r x):=by rw [ew,hi]; unfold dK; rw [zy (by omega),zy (by omega),zy (by omega),zy (by omega),zy (by omega),zy (by omega),zp k]; rfl
  have hx:=hN (n+1) (by omega) x hxm
  rw [cR (show q.kind≠1 by omega),cR (show q.kind≠4 by omega),cR (show q.kind≠5 by omega),cR (show q.kind≠6 by omega),cR (show q.kind≠7 by omega),cR (show q.kind≠2 by omega),cR (show q.kind≠3 by omega),ld k,hi]
  have g0 : aJ [x] 0=some x:=rfl
  simp only [zd,zc,bF,g0,bPs]
  rw [hx,bPs,lO (h.small.sub hxm),bPs]
  have:=hsz x hxm
  rw [group_eq r _ q _ (by omega) hself.1 hself.2,bPs,e]
 ·-- sort
  obtain ⟨x,hi⟩:=one (q:=q) (by simpa using har)
  have hxm : x∈q.inputs:=by rw [hi]; simp
  have:=hsz x hxm
  obtain ⟨l',hsort,_⟩:=sort_ok r q (bj r x) (bd r x) (by omega) hself.1
  have e : bd r q=l':=by rw [ew,hi]; unfold dK; rw [zy (by omega),zy (by omega),zy (by omega),zy (by omega),zy (by omega),zy (by omega),zy (by omega),zp k]; show (fF r q (bj r x) (bd r x)).getD []=l'; rw [hsort]; rfl
  have hx:=hN (n+1) (by omega) x hxm
  rw [cR (show q.kind≠1 by omega),cR (show q.kind≠4 by omega),cR (show q.kind≠5 by omega),cR (show q.kind≠6 by omega),cR (show q.kind≠7 by omega),cR (show q.kind≠2 by omega),cR (show q.kind≠3 by omega),cR (show q.kind≠8 by omega),ld k,hi]
  have g0 : aJ [x] 0=some x:=rfl
  simp only [zd,zc,bF,g0,bPs]
  rw [hx,bPs,lO (h.small.sub hxm),bPs,hsort,bPs,e]
 ·-- limit
  obtain ⟨x,hi⟩:=one (q:=q) (by simpa using har)
  have hxm : x∈q.inputs:=by rw [hi]; simp
  have e : bd r q=qD q (bd r x):=by rw [ew,hi]; unfold dK; rw [zy (by omega),zy (by omega),zy (by omega),zy (by omega),zy (by omega),zy (by omega),zy (by omega),zy (by omega)]; rfl
  have hx:=hN (n+1) (by omega) x hxm
  rw [cR (show q.kind≠1 by omega),cR (show q.kind≠4 by omega),cR (show q.kind≠5 by omega),cR (show q.kind≠6 by omega),cR (show q.kind≠7 by omega),cR (show q.kind≠2 by omega),cR (show q.kind≠3 by omega),cR (show q.kind≠8 by omega),cR (show q.kind≠9 by omega),hi]
  have g0 : aJ [x] 0=some x:=rfl
  simp only [zd,bF,g0,bPs]
  rw [hx,bPs,lO (h.small.sub hxm),bPs]
  have:=hsz x hxm
  rw [limit_run _ q (by omega) (hs.limit k).1 (hs.limit k).2,bPs,e]
theorem rows_eq {r : LRun} (hr : RunOk r) {q : LQuery} (h : QOk r q) : mr r q=some (bd r q):=by
 obtain ⟨N,hN⟩:=rows_ev hr q h
 exact pr N hN
abbrev dF (s : LSchema) (st : List LRelation) (args : Rq) : LRun:=LRun.mk s st args [] [] []
structure Runs (s : LSchema) (st : List LRelation) (q : LQuery) (args : Rq) : Prop where
 size : qP q
 kinds : lM (eV q)
 cols : (dQ ⟨s,[]⟩ q).2=0
 inst : eP s st=some 0
 args : ArgsOk (eV q) args
theorem Runs.instOk {s : LSchema} {st : List LRelation} {q : LQuery} {args : Rq} (h : Runs s st q args) (hs : nc s) : InstOk s st:=by
 obtain ⟨e,he,hok⟩:=conforms hs st
 rw [h.inst] at he
 cases he
 exact hok rfl
theorem Runs.qok {s : LSchema} {st : List LRelation} {q : LQuery} {args : Rq} (h : Runs s st q args) (hq : SmallQ q) : QOk (dF s st args) q :=
 ⟨hq,h.cols,h.size.2.2,fun i k hm x hx=>(h.args.args i k hm).2.1 i x (Nat.le_refl _) hx⟩
theorem runs_tot {s : LSchema} (hs : nc s) (st : List LRelation) {q : LQuery} (hq : SmallQ q) (args : Rq) : ∃ b,iJ s st q args=some b∧(b=true→Runs s st q args):=by
 unfold iJ kt
 rw [size_ok,bPs]
 obtain ⟨v,hv⟩:=validate_tot hs
 obtain ⟨cs,e,hc,he,_⟩:=rj (s:=s) (vars:=[]) hq
 obtain ⟨f,hf,_⟩:=conforms hs st
 obtain ⟨g,hg,hga⟩:=args_ok hq.nodes args
 unfold mg
 rw [hv,hc,hf,hg]
 simp only [bPs]
 by_cases c1 : mC q 400 < 0
 ·rw [zt c1]; exact ⟨false,rfl,fun h=>by cases h⟩
 rw [zf c1,zd,bPs]
 by_cases c2 : v=0
 ·rw [iT c2,zd,bPs]
  by_cases c3 : e=0
  ·rw [ld c3,zc]
   by_cases c4 : (args.length : Int)≤20
   ·rw [zt c4,zc]
    by_cases c5 : f=0
    ·rw [ld c5,zc]
     refine ⟨g==0,rfl,fun hg0=>?_⟩
     have hg0 : g=0:=by simpa using hg0
     obtain ⟨a,b,c⟩:=he.1 c3
     exact ⟨a,b,c,by rw [hf,c5],hga.1 hg0⟩
    ·rw [cR c5]; exact ⟨false,rfl,fun h=>by cases h⟩
   ·rw [zf c4]; exact ⟨false,rfl,fun h=>by cases h⟩
  ·rw [cR c3]; exact ⟨false,rfl,fun h=>by cases h⟩
 ·rw [lz c2]; exact ⟨false,rfl,fun h=>by cases h⟩
theorem evaluate_eq {s : LSchema} (hs : nc s) {st : List LRelation} {q : LQuery} (hq : SmallQ q) {args : Rq} (h : Runs s st q args) :
  it s st q args=some (LResult.mk (bj (dF s st args) q) (bd (dF s st args) q),true):=by
 unfold it kL dV
 obtain ⟨cs,e,hc,he,hcs⟩:=rj (s:=s) (vars:=[]) hq
 obtain ⟨g,hg,hga⟩:=args_ok hq.nodes args
 have e0:=he.2 ⟨h.size,h.kinds,h.cols⟩
 have g0:=hga.2 h.args
 have hr : RunOk (dF s st args):=⟨rfl,rfl,rfl,h.instOk hs⟩
 have hok:=rows_fit hr q (h.qok hq)
 have hlen : (bd (dF s st args) q).length≤20000:=by
  have h1:=hok.len
  have h2:=h.size.2.2
  have h3:=(gW h2).1
  omega
 rw [hc,hg,h.inst]
 simp only [bPs]
 rw [iT e0,iT g0,zd,zd]
 simp only [aH,bPs,cf,bne_self_eq_false,zd]
 rw [rows_eq hr (h.qok hq),bPs]
 rw [oG (xs:=bd (dF s st args) q) id (fun k x hk=>by
  have:=(zg.1 hk).1
  rw [bS (by decide) (by simp; omega),bPs]
  rfl),bPs,cf,bPs,bPs,hcs e0]
 simp [bj]
theorem eqLoop {α : Type} [DecidableEq α] (x y : List α) (hl : x.length=y.length) (g : α→α→Option Bool) (hg : ∀ a∈x,∀ b,g a b=some (decide (a=b))) :
  af (aH (σ:=Unit) (ρ:=(Bool)) (fun (j1 : Nat) (x1 : α) (_ : Unit)=>af (aJ y (j1 : Int)) fun (x24 : α)=>af (g x1 x24) fun x29=>cond (!x29) (some (.ret false)) (some (.next ()))) 0 x ()) (fun fl1=>fl1.thenR fun (_ : Unit)=>some true)=some (decide (x=y)):=by
 obtain ⟨fl,hfl,hr⟩:=eQ (step:=fun (j1 : Nat) (x1 : α) (_ : Unit)=>af (aJ y (j1 : Int)) fun (x24 : α)=>af (g x1 x24) fun x29=>cond (!x29) (some (Flow.ret false)) (some (.next ())))
   (fun j _=>x.take j=y.take j) (fun r=>r=false∧x≠y) x 0 () (by simp) (fun k v s hk hI=>by
    simp only [Nat.zero_add] at hI ⊢
    have hkl:=(zg.1 hk).1
    rw [gw (by omega),bPs,hg v (eB hk),bPs]
    by_cases hv : v=y[k]
    ·rw [zt hv]
     refine ⟨_,rfl,?_⟩
     simp only
     rw [List.take_add_one,List.take_add_one,hk,ze (by omega),hI,hv]
    ·rw [zf hv]
     refine ⟨_,rfl,rfl,fun he=>hv ?_⟩
     subst he
     exact (zg.1 hk).2.symm)
 rw [hfl,bPs]
 cases fl with
 | brk s=>exact absurd hr (by simp)
 | ret r=>rw [mK,hr.1,zf hr.2]
 | next s =>
  simp only [Nat.zero_add,List.take_length] at hr
  rw [hl,List.take_length] at hr
  rw [gQ,zt hr]
theorem sameRows_eq (a b : Rows) : ip a b=some (decide (a=b)):=by
 unfold ip cA
 by_cases hl : a.length=b.length
 ·rw [mT,zt hl,Bool.not_true,zd,eqLoop a b hl _ (fun x _ y=>by unfold gP; rw [equalRow]; rfl),bPs]
 ·rw [mT,zf hl,zf (fun h=>hl (by rw [h]))]
  rfl
theorem col_eq (x y : LCol) : (x.name==y.name&&(x.kind==y.kind&&(x.nullable==y.nullable&&true)))=decide (x=y):=by
 obtain ⟨a,b,c⟩:=x
 obtain ⟨a',b',c'⟩:=y
 by_cases h : (⟨a,b,c⟩ : LCol)=⟨a',b',c'⟩
 ·rw [zt h]; cases h; simp
 ·rw [zf h]
  by_cases h1 : a=a'
  ·by_cases h2 : b=b'
   ·have h3 : c≠c':=fun h3=>h (by rw [h1,h2,h3])
    have : (c==c')=false:=by simpa using h3
    simp [this]
   ·simp [cR h2]
  ·have : (a==a')=false:=by simpa using h1
   simp [this]
theorem equalCols (a b : List LCol) : dp a b=some (decide (a=b)):=by
 unfold dp
 by_cases hl : a.length=b.length
 ·rw [mT,zt hl,Bool.not_true,zd]
  exact eqLoop a b hl (fun x1 x22=>some (x1.name==x22.name&&(x1.kind==x22.kind&&(x1.nullable==x22.nullable&&true)))) (fun x _ y=>by rw [col_eq])
 ·rw [mT,zf hl,zf (fun h=>hl (by rw [h]))]
  rfl
inductive ParT : LExpr→Prop
 | mk {e : LExpr} (h : e.kind=3→0≤e.index∧e.index < 8∧1≤e.value.kind∧e.value.kind≤3) (hs : ∀ a∈e.args,ParT a) : ParT e
theorem ParT.here {e : LExpr} (h : ParT e) : e.kind=3→0≤e.index∧e.index < 8∧1≤e.value.kind∧e.value.kind≤3:=by cases h with | mk h _=>exact h
theorem ParT.sub {e a : LExpr} (h : ParT e) (ha : a∈e.args) : ParT a:=by cases h with | mk _ hs=>exact hs a ha
theorem kind_par {cols vars : List LCol} : ∀ e : LExpr,(db cols vars e).2.2=0→ParT e:=by
 refine LExpr.ind fun e ih h=>?_
 obtain ⟨k,n,i,x,args⟩:=e
 simp only [db] at h
 by_cases c0 : k≠5∧0 < args.length
 ·rw [zp c0] at h; exact absurd h (by simp [fV])
 rw [zy c0] at h
 refine .mk (fun k3=>?_) (fun a ha=>?_)
 ·have k3 : k=3:=k3
  subst k3
  rw [zy (by decide),zp (by decide)] at h
  by_cases c : i < 0 ∨ i ≥ 8 ∨ n≠[] ∨ x.kind < 1 ∨ x.kind > 3 ∨ x≠⟨x.kind,0,[]⟩
  ·rw [zp c] at h; exact absurd h (by simp [fV])
  ·simp only [not_or] at c
   exact ⟨by show 0≤i; omega,by show i < 8; omega,by show 1≤x.kind; omega,by show x.kind≤3; omega⟩
 ·have ha' : a∈args:=ha
  have k5 : k=5:=Classical.byContradiction fun hk=>c0 ⟨hk,List.length_pos_of_mem ha'⟩
  subst k5
  rw [zy (by decide),zy (by decide),zy (by decide),zp (by decide),rB] at h
  unfold jy at h
  split at h
  ·exact absurd h (by simp [fV])
  ·split at h
   ·rename_i r hr
    have:=List.find?_some hr
    have h' : r.2.2=0:=h
    rw [h'] at this
    exact absurd this (by decide)
   ·rename_i hr
    have:=List.find?_eq_none.1 hr _ (List.mem_map_of_mem (f:=db cols vars) ha')
    exact ih a ha (by simpa using this)
theorem rJ {cols vars : List LCol} {e : LExpr} (h : (cK cols vars e).2.2=0) : ParT e:=by
 unfold cK at h
 split at h
 ·exact absurd h (by simp [fV])
 ·exact kind_par e h
theorem uf : ∀ e : LExpr,ParT e→∀ p∈cB e,1≤p.2∧p.2≤3:=by
 refine LExpr.ind fun e ih h p hp=>?_
 rw [kl,List.mem_append] at hp
 rcases hp with hp | hp
 ·unfold ix at hp
  split at hp
  ·rename_i hc
   rw [List.mem_singleton.1 hp]
   exact (h.here hc.1).2.2
  ·simp at hp
 ·obtain ⟨l,hl,hp⟩:=List.mem_flatten.1 hp
  obtain ⟨a,ha,rfl⟩:=List.mem_map.1 hl
  exact ih a ha (h.sub ha) p hp
theorem eval_take (v : LEnv) (n : Nat) : ∀ e : LExpr,ParT e→(∀ p∈cB e,p.1 < n)→cg ⟨v.cols,v.row,v.params.take n,v.vnames,v.vvals⟩ e=cg v e:=by
 refine LExpr.ind fun e ih h hp=>?_
 have harg : ∀ a∈e.args,cg ⟨v.cols,v.row,v.params.take n,v.vnames,v.vvals⟩ a=cg v a:=fun a ha=>ih a ha (h.sub ha) fun p hm=>hp p (by
  rw [kl,List.mem_append]
  exact .inr (List.mem_flatten.2 ⟨_,List.mem_map_of_mem ha,hm⟩))
 have h3 : e.kind=3→0≤e.index∧e.index.toNat < n:=fun k=>by
  obtain ⟨a,b,_⟩:=h.here k
  refine ⟨a,hp (e.index.toNat,e.value.kind) ?_⟩
  rw [kl,List.mem_append]
  left
  unfold ix
  rw [zp ⟨k,a,b⟩]
  simp
 obtain ⟨k,m,i,x,args⟩:=e
 simp only [cg,rp]
 by_cases c1 : (k==1)=true
 ·rw [zp c1,zp c1]
 rw [zy c1,zy c1]
 by_cases c2 : (k==2)=true
 ·rw [zp c2,zp c2]
 rw [zy c2,zy c2]
 by_cases c3 : (k==3)=true
 ·rw [zp c3,zp c3]
  have hk3 : k=3:=by simpa using c3
  obtain ⟨h0,hn⟩:=h3 hk3
  have h0 : 0≤i:=h0
  have hn : i.toNat < n:=hn
  have e1 : (v.params.take n).getD i.toNat .nul=v.params.getD i.toNat .nul:=by
   rw [List.getD_eq_getElem?_getD,List.getD_eq_getElem?_getD,List.getElem?_take,zp hn]
  have e2 : i < ((v.params.take n).length : Int) ↔ i < (v.params.length : Int):=by rw [List.length_take]; omega
  rw [e1]
  by_cases c : 0≤i∧i < (v.params.length : Int)∧(v.params.getD i.toNat .nul).kind=x.kind
  ·rw [zp c,zp ⟨c.1,e2.2 c.2.1,c.2.2⟩]
  ·rw [zy c,zy fun hc=>c ⟨hc.1,e2.1 hc.2.1,hc.2.2⟩]
 rw [zy c3,zy c3]
 by_cases c4 : (k==4)=true
 ·rw [zp c4,zp c4]
 rw [zy c4,zy c4]
 by_cases c5 : (k==5)=true
 ·rw [zp c5,zp c5]
  rw [show args.map (cg ⟨v.cols,v.row,v.params.take n,v.vnames,v.vvals⟩)=args.map (cg v) from List.map_congr_left harg]
 ·rw [zy c5,zy c5]
theorem pred_par {c : LChecker} {l : List LCol} {e : LExpr} (ht : cL c l e=0) : ParT e:=by
 refine rJ (cols:=l) (vars:=c.vars) ?_
 unfold cL at ht
 rw [bF] at ht
 by_cases k : (cK l c.vars e).2.2=0
 ·exact k
 ·rw [cR k,zd] at ht
  exact ht
theorem sort_par {vars cols : List LCol} : ∀ l : List LExpr,iK vars cols l=0→∀ e∈l,ParT e
 | [],_,e,he=>by simp at he
 | x :: l,h,e,he=>by
  rw [iK] at h
  by_cases c : (cK cols vars x).2.2=0
  ·rw [zy (by simpa using c)] at h
   rcases List.mem_cons.1 he with rfl | he
   ·exact rJ c
   ·exact sort_par l h e he
  ·rw [zp c] at h; exact absurd h c
structure NodeT (q : LQuery) : Prop where
 exprs : ∀ e∈q.exprs,ParT e
 aggs : ∀ a∈q.aggregates,∀ e∈a.args,ParT e
theorem qA {q : LQuery} (h : kT q=true) (hk : q.kind=1 ∨ q.kind=6 ∨ q.kind=7 ∨ q.kind=10) : q.exprs=[]:=by
 unfold kT at h
 simp only [Bool.and_eq_true,decide_eq_true_eq] at h
 obtain ⟨_,h9⟩:=h
 rw [zy (by omega),zy (by omega),zy (by omega)] at h9
 by_cases k : q.kind=10
 ·rw [zp k] at h9; simp at h9; exact h9.1.1
 ·rw [zy k] at h9; simpa using h9
theorem node_typed {c : LChecker} {q : LQuery} (h : (dQ c q).2=0) : NodeT q:=by
 obtain ⟨hsq,_,ho,_,_⟩:=lD h
 have hs:=pt hsq
 have no : q.kind≠8→∀ a∈q.aggregates,∀ e∈a.args,ParT e:=fun hk a ha=>by rw [hs.aggs hk] at ha; simp at ha
 unfold iS at ho
 by_cases k1 : q.kind=1
 ·exact ⟨by rw [qA hsq (.inl k1)]; simp,no (by omega)⟩
 rw [zy k1] at ho
 have one : ∀ (hk : q.kind=2 ∨ q.kind=4 ∨ q.kind=5),ParT (e0Q q)→∀ e∈q.exprs,ParT e:=fun hk hp e he=>by
  have h1:=hs.one hk
  match hq : q.exprs,h1 with
  | [z],_ =>
   rw [hq] at he
   have : e0Q q=z:=by unfold e0Q; rw [hq]; rfl
   rw [List.mem_singleton.1 he,← this]
   exact hp
 by_cases k2 : q.kind=2
 ·rw [zp k2] at ho
  exact ⟨one (by omega) (pred_par ho),no (by omega)⟩
 rw [zy k2] at ho
 by_cases k4 : q.kind=4 ∨ q.kind=5
 ·rw [zp k4] at ho
  exact ⟨one (by omega) (pred_par ho),no (by omega)⟩
 rw [zy k4] at ho
 by_cases k6 : q.kind=6 ∨ q.kind=7
 ·exact ⟨by rw [qA hsq (by omega)]; simp,no (by omega)⟩
 rw [zy k6] at ho
 by_cases k3 : q.kind=3 ∨ q.kind=8
 ·rw [zp k3] at ho
  unfold lV at ho
  by_cases hn : (ct c.vars ((q.inputs.map fun x=>(dQ c x).1).getD 0 []) q.exprs q.names).2=0
  ·rw [zy (by simpa using hn)] at ho
   obtain ⟨_,hinv⟩:=lF c.vars _ q.exprs q.names (hs.named k3) hn
   refine ⟨fun e he=>?_,?_⟩
   ·obtain ⟨i,hi⟩:=List.mem_iff_getElem?.1 he
    exact rJ (hinv i e hi).1
   ·by_cases hg : (dX c.vars ((q.inputs.map fun x=>(dQ c x).1).getD 0 []) q.aggregates).2=0
    ·obtain ⟨_,hinv2⟩:=ow c.vars _ q.aggregates hg
     intro a ha e he
     obtain ⟨i,hi⟩:=List.mem_iff_getElem?.1 ha
     have hq:=(hinv2 i a hi).1
     unfold ny at hq
     split at hq
     ·exact absurd hq (by simp)
     ·rename_i hc
      have hl : a.args.length≤1:=by
       have:=not_or.1 (not_or.1 (not_or.1 hc).2).2
       omega
      match hargs : a.args,hl with
      | [],_=>rw [hargs] at he; simp at he
      | [z],_ =>
       rw [hargs] at he hq
       rw [List.mem_singleton.1 he]
       simp only at hq
       refine rJ (cols:=(q.inputs.map fun x=>(dQ c x).1).getD 0 []) (vars:=c.vars) ?_
       by_cases ht : (cK ((q.inputs.map fun x=>(dQ c x).1).getD 0 []) c.vars z).2.2=0
       ·exact ht
       ·rw [zp ht] at hq; exact absurd hq ht
    ·rw [zp hg] at ho; exact absurd ho hg
  ·rw [zp hn] at ho; exact absurd ho hn
 rw [zy k3] at ho
 by_cases k9 : q.kind=9
 ·rw [zp k9] at ho
  refine ⟨?_,no (by omega)⟩
  by_cases hz : iK c.vars ((q.inputs.map fun x=>(dQ c x).1).getD 0 []) q.exprs=0
  ·exact sort_par _ hz
  ·rw [zp hz] at ho; exact absurd ho hz
 ·have:=hs.kind
  exact ⟨by rw [qA hsq (by omega)]; simp,no (by omega)⟩
theorem nodes_typed {c : LChecker} : ∀ q : LQuery,(dQ c q).2=0→∀ x∈cE q,NodeT x:=by
 refine LQuery.ind fun q ih h x hx=>?_
 rw [jZ] at hx
 rcases List.mem_cons.1 hx with rfl | hx
 ·exact node_typed h
 ·obtain ⟨l,hl,hx⟩:=List.mem_flatten.1 hx
  obtain ⟨y,hy,rfl⟩:=List.mem_map.1 hl
  exact ih y hy ((lD h).2.1 y hy) x hx
theorem params_par {c : LChecker} {q : LQuery} (h : (dQ c q).2=0) : ∀ p∈eV q,1≤p.2∧p.2≤3:=by
 intro p hp
 obtain ⟨l,hl,hp⟩:=List.mem_flatten.1 hp
 obtain ⟨x,hx,rfl⟩:=List.mem_map.1 hl
 have hT:=nodes_typed q h x hx
 rcases List.mem_append.1 hp with hp | hp
 ·obtain ⟨m,hm,hp⟩:=List.mem_flatten.1 hp
  obtain ⟨e,he,rfl⟩:=List.mem_map.1 hm
  exact uf e (hT.exprs e he) p hp
 ·obtain ⟨m,hm,hp⟩:=List.mem_flatten.1 hp
  obtain ⟨a,ha,rfl⟩:=List.mem_map.1 hm
  obtain ⟨m,hm,hp⟩:=List.mem_flatten.1 hp
  obtain ⟨e,he,rfl⟩:=List.mem_map.1 hm
  exact uf e (hT.aggs a ha e he) p hp
theorem paramsQ_node {q : LQuery} {p : Nat×Int} (h : p∈gJ q) : p∈eV q:=List.mem_flatten.2 ⟨_,List.mem_map.2 ⟨q,ph q,rfl⟩,h⟩
section
variable {s : LSchema} {st : List LRelation} {args : Rq} {n : Nat}
theorem ev_take {q : LQuery} (hT : NodeT q) (hp : ∀ p∈gJ q,p.1 < n) {e : LExpr} (he : e∈q.exprs) (cols : List LCol) (x : Rq) : cg (bf (dF s st (args.take n)) cols x) e=cg (bf (dF s st args) cols x) e :=
 eval_take ⟨cols,x,args,[],[]⟩ n e (hT.exprs e he) fun p hm=>hp p (List.mem_append_left _ (List.mem_flatten.2 ⟨_,List.mem_map_of_mem he,hm⟩))
theorem ag_take {q : LQuery} (hT : NodeT q) (hp : ∀ p∈gJ q,p.1 < n) {a : LAggregateCall} (ha : a∈q.aggregates) (cols : List LCol) (l : Rows) : aggR (dF s st (args.take n)) cols a l=aggR (dF s st args) cols a l:=by
 unfold aggR
 cases hargs : a.args with
 | nil=>rfl
 | cons e es =>
  simp only
  have he : e∈a.args:=by rw [hargs]; simp
  have key : ∀ x,cg (bf (dF s st (args.take n)) cols x) e=cg (bf (dF s st args) cols x) e:=fun x =>
   eval_take ⟨cols,x,args,[],[]⟩ n e (hT.aggs a ha e he) fun p hm=>hp p (List.mem_append_right _ (List.mem_flatten.2 ⟨_,List.mem_map_of_mem ha,List.mem_flatten.2 ⟨_,List.mem_map_of_mem he,hm⟩⟩))
  simp only [key]
theorem evals_take {q : LQuery} (hT : NodeT q) (hp : ∀ p∈gJ q,p.1 < n) (cols : List LCol) (x : Rq) : cI (dF s st (args.take n)) cols x q.exprs=cI (dF s st args) cols x q.exprs:=by
 unfold cI
 congr 1
 exact ig q.exprs 0 _ fun k e t hk=>by
  simp only [bF,ev_take hT hp (eB hk) cols x]
theorem node_take {q : LQuery} (hT : NodeT q) (hs : ShapeOk q) (hp : ∀ p∈gJ q,p.1 < n) (cs : List (List LCol)) (ins : List Rows) : dK (dF s st (args.take n)) q cs ins=dK (dF s st args) q cs ins:=by
 unfold dK
 have hkeep : (q.kind=2 ∨ q.kind=4 ∨ q.kind=5)→∀ cols,gR (dF s st (args.take n)) cols q=gR (dF s st args) cols q:=fun hk cols=>by
  funext x
  unfold gR
  rw [ev_take hT hp (e0_mem (hs.one hk)) cols x]
 by_cases k1 : q.kind=1
 ·rw [zp k1,zp k1]
 rw [zy k1,zy k1]
 by_cases k4 : q.kind=4 ∨ q.kind=5
 ·rw [zp k4,zp k4,hkeep (by omega)]
 rw [zy k4,zy k4]
 by_cases k6 : q.kind=6
 ·rw [zp k6,zp k6]
 rw [zy k6,zy k6]
 by_cases k7 : q.kind=7
 ·rw [zp k7,zp k7]
 rw [zy k7,zy k7]
 by_cases k2 : q.kind=2
 ·rw [zp k2,zp k2,hkeep (by omega)]
 rw [zy k2,zy k2]
 have hmap : ∀ cols,(fun x=>q.exprs.map fun e=>cg (bf (dF s st (args.take n)) cols x) e)=fun x=>q.exprs.map fun e=>cg (bf (dF s st args) cols x) e:=fun cols=>by
  funext x
  exact List.map_congr_left fun e he=>ev_take hT hp he cols x
 by_cases k3 : q.kind=3
 ·rw [zp k3,zp k3,hmap]
 rw [zy k3,zy k3]
 by_cases k8 : q.kind=8
 ·rw [zp k8,zp k8]
  unfold mR
  rw [hmap]
  refine List.map_congr_left fun k _=>?_
  congr 1
  exact List.map_congr_left fun a ha=>ag_take hT hp ha _ _
 rw [zy k8,zy k8]
 by_cases k9 : q.kind=9
 ·rw [zp k9,zp k9]
  congr 1
  unfold fF
  have : ∀ cols,(fun a0 a1=>ec a0 a1 (dF s st (args.take n)) cols q)=fun a0 a1=>ec a0 a1 (dF s st args) cols q:=fun cols=>by
   funext a b
   unfold ec
   rw [evals_take hT hp,evals_take hT hp]
  rw [this]
 rw [zy k9,zy k9]
theorem rows_take : ∀ q : LQuery,(dQ ⟨s,[]⟩ q).2=0→(∀ p∈eV q,p.1 < n)→bd (dF s st (args.take n)) q=bd (dF s st args) q:=by
 refine LQuery.ind fun q ih h hp=>?_
 rw [ew,ew,List.map_congr_left fun x hx=>ih x hx ((lD h).2.1 x hx) fun p hm=>hp p (params_sub hx _ hm),
  node_take (node_typed h) (pt (lD h).1) fun p hm=>hp p (paramsQ_node hm)]
 rfl
end
def ik (q : LQuery) : LProcedureStatement:=LProcedureStatement.mk 7 0 [] [] [] [] [] [q] [] []
theorem emit_shape (q : LQuery) : jk (ik q)=some true:=by
 unfold jk
 simp only [shapeP1,bF]
 rfl
theorem cntS_nil : jr []=0:=by rw [nK]; rfl
theorem emit_cnt (q : LQuery) : jr [ik q]=1:=by
 rw [nK]
 simp only [List.map_cons,List.map_nil,List.sum_cons,List.sum_nil]
 rw [show (ik q).body=[] from rfl,show (ik q).elseF=[] from rfl,cntS_nil] <;> rfl
theorem emit_depth (q : LQuery) : dq [ik q]=some 1:=by
 have h0 : dq []=some 0:=by rw [(depth_both []).2]; rfl
 rw [(depth_both _).2]
 unfold eR
 simp only [aH,show (ik q).body=[] from rfl,show (ik q).elseF=[] from rfl,h0,bPs]
 rfl
theorem given_ok {s : LSchema} {q : LQuery} (hn : (cE q).length≤10000000) (hk : lM (eV q)) : fQ ⟨s,(bM q).1⟩ q=some 0:=by
 unfold fQ
 rw [rc hn,kinds_bad.2 hk,bPs]
 simp only [zd]
 rw [rMa (s:=()) (fun _=>()) rfl (fun j x hj=>by
  have hlt:=(zg.1 hj).1
  by_cases hx : x=0
  ·rw [iT hx,zd]
  ·rw [lz hx,zc,zf (by omega),zd,kO hj,bPs,iT rfl,zd])]
 rfl
theorem emit_body {s : LSchema} {q : LQuery} (hq : SmallQ q) (hs : qP q) (hk : lM (eV q)) (hc : (dQ ⟨s,[]⟩ q).2=0) : ∃ v,bB ⟨s,(bM q).1⟩ [] [ik q]=some (v,0):=by
 have hnil : ∀ v,bB ⟨s,(bM q).1⟩ v []=some (v,0):=fun v=>by
  rw [(sG []).2.1]
  rfl
 have hst : bQ ⟨s,(bM q).1⟩ [] (ik q)=some ([],0):=by
  rw [(sG [ik q]).2.2 (ik q) (by simp)]
  unfold cw
  obtain ⟨cs,e,hce,he,hcs⟩:=rj (s:=s) (vars:=[]) hq
  have e0:=he.2 ⟨hs,hk,hc⟩
  have hlen : cs.length≤20:=by rw [hcs e0]; exact jV ⟨s,[]⟩ q
  rw [show (ik q).kind=7 from rfl,show (ik q).query=[q] from rfl,show (ik q).body=[] from rfl,cR (by decide),zd,cR (by decide),zd,bF,
   show (cond ((7 : Int)==3) ((7 : Int)==3) ((7 : Int)==7))=true from rfl,zc,show aJ [q] (0 : Int)=some q from rfl,bPs,hce,bPs]
  simp only
  rw [e0,iT rfl,zd,bPs,given_ok hq.nodes hk,bPs,iT rfl,zd]
  obtain ⟨fl,h1,h2⟩:=eQ (step:=fun (_ : Nat) (x2 : LCol) (s2 : List LCol) =>
    af (ja s2 x2) fun x124 =>
    some (Flow.next (ρ:=Empty) x124)) (fun j s=>s.length≤j) (fun _=>False) cs 0 [] (by simp) (fun j x t hj hI=>by
   have hlt:=(zg.1 hj).1
   obtain ⟨v,hv,hvl⟩:=set_tot (vars:=t) (x:=x) (by omega)
   exact ⟨.next v,by rw [hv,bPs],by simp only; omega⟩)
  rw [h1,bPs]
  cases fl with
  | brk t=>exact absurd h2 (by simp)
  | ret r=>exact r.elim
  | next t =>
   rw [cf,hnil,bPs]
 refine ⟨[],?_⟩
 rw [(sG [ik q]).2.1]
 unfold cT
 simp only [aH,emit_shape,hst,bPs]
 rfl
theorem emit_check {s : LSchema} {q : LQuery} (hq : SmallQ q) (hs : qP q) (hk : lM (eV q)) (hc : (dQ ⟨s,[]⟩ q).2=0) (hz : ∀ k∈(bM q).1,k≠0) : gC s ⟨(bM q).1,[ik q]⟩=some 0:=by
 unfold gC
 obtain ⟨r,hr,hrl⟩:=stmts_ok [ik q] (by rw [emit_cnt]; decide)
 obtain ⟨v,hv⟩:=emit_body (s:=s) hq hs hk hc
 have hI:=qo q
 have hl8:=hI.ok.1
 simp only
 rw [hr,bPs,zf (by rw [hrl,emit_cnt]; decide),zd,emit_depth,bPs,zf (by decide),zd,bPs,zf (by omega),zd]
 rw [rMa (s:=()) (fun _=>()) rfl (fun j x hj=>by
  have h13 : 1≤x∧x≤3:=by
   have hlt:=(zg.1 hj).1
   have hg : (bM q).1.getD j 0=x:=by rw [List.getD_eq_getElem?_getD,hj]; rfl
   have hx0:=hz x (eB hj)
   by_cases hex : ∃ k,(j,k)∈eV q
   ·obtain ⟨k,hm⟩:=hex
    have:=hI.good (kinds_bad.2 hk) j k hm
    rw [hg] at this
    rw [this]
    exact params_par hc _ hm
   ·exact absurd (hg.symm.trans (hI.zero j fun k hm=>hex ⟨k,hm⟩)) hx0
  rw [zf (by omega),zd,zf (by omega),zd])]
 rw [bPs,gQ,hv,bPs]
theorem within_eq {s : LSchema} (hs : nc s) {st : List LRelation} {q : LQuery} (hq : SmallQ q) {args : Rq} (h : Runs s st q args) :
  dV s st q args [] []=some (LResult.mk (bj (dF s st args) q) (bd (dF s st args) q),0):=by
 unfold dV
 obtain ⟨cs,e,hc,he,hcs⟩:=rj (s:=s) (vars:=[]) hq
 obtain ⟨g,hg,hga⟩:=args_ok hq.nodes args
 have e0:=he.2 ⟨h.size,h.kinds,h.cols⟩
 have g0:=hga.2 h.args
 have hr : RunOk (dF s st args):=⟨rfl,rfl,rfl,h.instOk hs⟩
 have hok:=rows_fit hr q (h.qok hq)
 have hlen : (bd (dF s st args) q).length≤20000:=by
  have h1:=hok.len
  have h2:=h.size.2.2
  have h3:=(gW h2).1
  omega
 rw [hc,hg,h.inst]
 simp only [bPs]
 rw [iT e0,iT g0,zd,zd]
 simp only [aH,bPs,cf,bne_self_eq_false,zd]
 rw [rows_eq hr (h.qok hq),bPs]
 rw [oG (xs:=bd (dF s st args) q) id (fun k x hk=>by
  have:=(zg.1 hk).1
  rw [bS (by decide) (by simp; omega),bPs]
  rfl),bPs,cf,hcs e0]
 simp [bj]
theorem run_emit {s : LSchema} {st : List LRelation} {q : LQuery} {args : Rq} {res : LResult} (h : dV s st q args [] []=some (res,0)) :
  ∃ r,gr (LProcedureRun.mk s st args [] [] [] [] 400 false) [ik q]=some (0,r)∧r.changes=[]∧r.results=[res]:=by
 have hw : IntKind.i64.wrap ((400 : Int) - 1)=399:=by decide
 refine ⟨LProcedureRun.mk s st args [] [] [] [res] 399 false,?_,rfl,rfl⟩
 have hask : iD (LProcedureRun.mk s st args [] [] [] [] 399 false) (ik q)=some (0,LProcedureRun.mk s st args [] [] [] [res] 399 false):=by
  unfold iD
  rw [show (ik q).query=[q] from rfl,show aJ [q] (0 : Int)=some q from rfl,bPs]
  simp only
  rw [h,bPs]
  simp only
  rw [iT rfl,zd,show ((ik q).kind==(7 : Int))=true from rfl,zc,show ((([] : List LResult).length : Int)==(8 : Int))=false from rfl,zd,bS (by decide) (by simp),bPs]
  rfl
 have hst : ii (LProcedureRun.mk s st args [] [] [] [] 399 false) (ik q)=some (0,LProcedureRun.mk s st args [] [] [] [res] 399 false):=by
  unfold ii
  rw [show (ik q).kind=7 from rfl,cR (by decide),zd,cR (by decide),zd,bF,show (cond ((7 : Int)==3) ((7 : Int)==3) ((7 : Int)==7))=true from rfl,zc]
  rw [hask,bPs]
 unfold gr
 simp only [aH,zd,hw,hst,bPs]
 rfl
theorem tW {s : LSchema} (hs : nc s) (st : List LRelation) {q : LQuery} (hq : SmallQ q) (args : Rq) : eu s st q args=some true:=by
 unfold eu
 rw [bF,show (!sampleV)=false from rfl,zd,rc hq.nodes,bPs]
 cases hb : (bM q).2.1 with
 | true=>rfl
 | false =>
  simp only [zd]
  rw [iT rfl,zd,sV,bPs,bPs]
  cases hz : (bM q).1.any (fun x=>(0 : Int)==x) with
  | true=>rfl
  | false =>
   rw [zd]
   have hz' : ∀ k∈(bM q).1,k≠0:=fun k hk h0=>by
    have:=List.any_eq_false.1 hz k hk
    subst h0
    exact this rfl
   obtain ⟨b,hr,hruns⟩:=runs_tot hs st hq args
   rw [hr,bPs]
   cases b with
   | false=>rfl
   | true =>
    have h:=hruns rfl
    have hck:=emit_check hq h.size h.kinds h.cols hz'
    rw [Bool.not_true,zd]
    have hck' : gC s (LProcedureProcedure.mk (bM q).1 [(LProcedureStatement.mk 7 0 [] [] [] [] [] [q] [] [])])=some 0:=hck
    rw [hck',bPs,iT rfl,bPs,zd]
    have hI:=qo q
    have hgood:=hI.good hb
    -- the arguments
    have hex : ∀ j x,(bM q).1[j]?=some x→(j,x)∈eV q:=fun j x hj=>by
     have hg : (bM q).1.getD j 0=x:=by rw [List.getD_eq_getElem?_getD,hj]; rfl
     have hx0:=hz' x (eB hj)
     by_cases hex : ∃ k,(j,k)∈eV q
     ·obtain ⟨k,hm⟩:=hex
      have:=hgood j k hm
      rw [hg] at this
      rw [this]
      exact hm
     ·exact absurd (hg.symm.trans (hI.zero j fun k hm=>hex ⟨k,hm⟩)) hx0
    have hlen : (bM q).1.length≤args.length:=by
     rcases hI.last with h0 | ⟨k,hm⟩
     ·omega
     ·have:=(h.args.args _ _ hm).1; omega
    have h2 : Runs s st q (args.take (bM q).1.length):=⟨h.size,h.kinds,h.cols,h.inst,h.args.kinds,fun i k hm=>by
     obtain ⟨a,b,c⟩:=h.args.args i k hm
     have hi:=hI.len i k hm
     have hg : ∀ j,j≤i→(args.take (bM q).1.length)[j]?=args[j]?:=fun j hj=>by rw [List.getElem?_take,zp (by omega)]
     exact ⟨by rw [List.length_take]; omega,fun j x hj hx=>b j x hj (by rw [← hg j hj]; exact hx),fun x hx=>c x (by rw [← hg i (Nat.le_refl _)]; exact hx)⟩⟩
    have hrows : bd (dF s st (args.take (bM q).1.length)) q=bd (dF s st args) q:=rows_take q h.cols fun p hm=>hI.len p.1 p.2 hm
    have hcols : bj (dF s st (args.take (bM q).1.length)) q=bj (dF s st args) q:=rfl
    obtain ⟨r',hr',hch,hres⟩:=run_emit (within_eq hs hq h2)
    have hrun : km s st (LProcedureProcedure.mk (bM q).1 [(LProcedureStatement.mk 7 0 [] [] [] [] [] [q] [] [])]) args=some ([],[LResult.mk (bj (dF s st args) q) (bd (dF s st args) q)],0):=by
     unfold km
     rw [hck',bPs,iT rfl,zd,zf (by simp only; omega),zd]
     simp only
     rw [rMa (s:=()) (fun _=>()) rfl (fun j x hj=>by
      have hm:=hex j x hj
      obtain ⟨a,b,c⟩:=h.args.args j x hm
      have hv : args[j]?=some args[j]:=ze a
      have hx0:=hz' x (eB hj)
      rw [kO hv,bPs,bF,b j _ (Nat.le_refl _) hv,Bool.not_true,zd,bPs]
      rcases c _ hv with h0 | h0 | h0
      ·exact absurd h0 hx0
      ·rw [iT h0,zd]
      ·by_cases hk : args[j].kind=x
       ·rw [iT hk,zd]
       ·rw [lz hk,zc,bPs,iT h0,zd])]
     rw [bPs,gQ,h.inst,bPs,iT rfl,zd,pn ⟨by omega,by omega,by omega⟩,bPs,Int.toNat_natCast,Int.toNat_zero,List.drop_zero]
     have hr'' : gr (LProcedureRun.mk s st (args.take (bM q).1.length) [] [] [] [] 400 false) [(LProcedureStatement.mk 7 0 [] [] [] [] [] [q] [] [])]=some (0,r'):=hr'
     rw [hr'',bPs]
     simp only
     rw [iT rfl,zd,hch,hres,hrows,hcols]
    rw [hrun,bPs,evaluate_eq hs hq h,bPs]
    simp only
    rw [zc,ld rfl,zc,show ((([] : List LChange).length : Int)==(0 : Int))=true from rfl,zc,show ((([LResult.mk (bj (dF s st args) q) (bd (dF s st args) q)] : List LResult).length : Int)==(1 : Int))=true from rfl,zc,
     show aJ [LResult.mk (bj (dF s st args) q) (bd (dF s st args) q)] (0 : Int)=some (LResult.mk (bj (dF s st args) q) (bd (dF s st args) q)) from rfl,bPs]
    simp only
    rw [equalCols,bPs,zt rfl,zc,bPs,sameRows_eq,bPs,zt rfl]
theorem own_knob : ownKnob Tryz.prog.godebug=none:=by kernel_rfl
theorem laid_out : laidOutB Tryz.prog=true:=by kernel_rfl
def lawTypes : List TypeId:=[26,22,71,9,60,68,3,4,44,23,135,24,141,73,42,77,61,75,33,27,28,91,29,88,30,31,43]
theorem lawTypes_ok : lawTypes.all (okT Tryz.prog lawTypes)=true:=by kernel_rfl
theorem lawTypes_info : ∀ t∈lawTypes,∃ i,Tryz.prog.info? t=some i∧i.bytes=Tryz.prog.bytesOf t∧i.size=Tryz.prog.cellsOf t:=infos_of (by kernel_rfl)
theorem sh9 {n : Nat} {pvs : List PV} (h : Sh Tryz.prog n 9 pvs) : ∃ v : List UInt8,pvs=[.str v]:=by
 cases n with
 | zero=>simp [Sh] at h
 | succ n=>simp only [Sh,Tryz.underlying9] at h; obtain ⟨m,rfl,_⟩:=h; exact ⟨m,rfl⟩
theorem sh3 {n : Nat} {pvs : List PV} (h : Sh Tryz.prog n 3 pvs) : ∃ v : Int,pvs=[al v]:=by
 cases n with
 | zero=>simp [Sh] at h
 | succ n=>simp only [Sh,Tryz.underlying3] at h; obtain ⟨m,rfl,_⟩:=h; exact ⟨m,rfl⟩
theorem sh4 {n : Nat} {pvs : List PV} (h : Sh Tryz.prog n 4 pvs) : ∃ v : Bool,pvs=[aC v]:=by
 cases n with
 | zero=>simp [Sh] at h
 | succ n=>simp only [Sh,Tryz.underlying4] at h; obtain ⟨m,rfl⟩:=h; exact ⟨m,rfl⟩
theorem sh68 {n : Nat} {pvs : List PV} (h : Sh Tryz.prog n 68 pvs) : ∃ v : LCol,pvs=ay v:=by
 cases n with
 | zero=>simp [Sh] at h
 | succ n =>
  simp only [Sh,Tryz.underlying68,List.map_cons,List.map_nil,hM] at h
  obtain ⟨p0,r0,rfl,h0,p1,r1,rfl,h1,p2,r2,rfl,h2,rfl⟩:=h
  obtain ⟨v0,rfl⟩:=sh9 h0
  obtain ⟨v1,rfl⟩:=sh3 h1
  obtain ⟨v2,rfl⟩:=sh4 h2
  exact ⟨LCol.mk v0 v1 v2,rfl⟩
theorem sh60 {n : Nat} {pvs : List PV} (h : Sh Tryz.prog n 60 pvs) : ∃ v : List LCol,pvs=[.list 68 (v.map ay)]:=by
 cases n with
 | zero=>simp [Sh] at h
 | succ n =>
  simp only [Sh,Tryz.underlying60] at h
  obtain ⟨rows,rfl,hr⟩:=h
  obtain ⟨xs,rfl⟩:=jF (f:=ay) (fun r hq=>sh68 (hr r hq))
  exact ⟨xs,rfl⟩
theorem sh44 {n : Nat} {pvs : List PV} (h : Sh Tryz.prog n 44 pvs) : ∃ v : List Int,pvs=[.list 3 (v.map bG)]:=by
 cases n with
 | zero=>simp [Sh] at h
 | succ n =>
  simp only [Sh,Tryz.underlying44] at h
  obtain ⟨rows,rfl,hr⟩:=h
  obtain ⟨xs,rfl⟩:=jF (f:=bG) (fun r hq=>let ⟨v,e⟩:=sh3 (hr r hq); ⟨v,e⟩)
  exact ⟨xs,rfl⟩
theorem sh71 {n : Nat} {pvs : List PV} (h : Sh Tryz.prog n 71 pvs) : ∃ v : LTable,pvs=bA v:=by
 cases n with
 | zero=>simp [Sh] at h
 | succ n =>
  simp only [Sh,Tryz.underlying71,List.map_cons,List.map_nil,hM] at h
  obtain ⟨p0,r0,rfl,h0,p1,r1,rfl,h1,p2,r2,rfl,h2,rfl⟩:=h
  obtain ⟨v0,rfl⟩:=sh9 h0
  obtain ⟨v1,rfl⟩:=sh60 h1
  obtain ⟨v2,rfl⟩:=sh44 h2
  exact ⟨LTable.mk v0 v1 v2,rfl⟩
theorem sh22 {n : Nat} {pvs : List PV} (h : Sh Tryz.prog n 22 pvs) : ∃ v : List LTable,pvs=[.list 71 (v.map bA)]:=by
 cases n with
 | zero=>simp [Sh] at h
 | succ n =>
  simp only [Sh,Tryz.underlying22] at h
  obtain ⟨rows,rfl,hr⟩:=h
  obtain ⟨xs,rfl⟩:=jF (f:=bA) (fun r hq=>sh71 (hr r hq))
  exact ⟨xs,rfl⟩
theorem sh135 {n : Nat} {pvs : List PV} (h : Sh Tryz.prog n 135 pvs) : ∃ v : LForeignKey,pvs=dC v:=by
 cases n with
 | zero=>simp [Sh] at h
 | succ n =>
  simp only [Sh,Tryz.underlying135,List.map_cons,List.map_nil,hM] at h
  obtain ⟨p0,r0,rfl,h0,p1,r1,rfl,h1,p2,r2,rfl,h2,rfl⟩:=h
  obtain ⟨v0,rfl⟩:=sh9 h0
  obtain ⟨v1,rfl⟩:=sh44 h1
  obtain ⟨v2,rfl⟩:=sh9 h2
  exact ⟨LForeignKey.mk v0 v1 v2,rfl⟩
theorem sh23 {n : Nat} {pvs : List PV} (h : Sh Tryz.prog n 23 pvs) : ∃ v : List LForeignKey,pvs=[.list 135 (v.map dC)]:=by
 cases n with
 | zero=>simp [Sh] at h
 | succ n =>
  simp only [Sh,Tryz.underlying23] at h
  obtain ⟨rows,rfl,hr⟩:=h
  obtain ⟨xs,rfl⟩:=jF (f:=dC) (fun r hq=>sh135 (hr r hq))
  exact ⟨xs,rfl⟩
theorem sh73 {n : Nat} {pvs : List PV} (h : Sh Tryz.prog n 73 pvs) : ∃ v : LVal,pvs=ae v:=by
 cases n with
 | zero=>simp [Sh] at h
 | succ n =>
  simp only [Sh,Tryz.underlying73,List.map_cons,List.map_nil,hM] at h
  obtain ⟨p0,r0,rfl,h0,p1,r1,rfl,h1,p2,r2,rfl,h2,rfl⟩:=h
  obtain ⟨v0,rfl⟩:=sh3 h0
  obtain ⟨v1,rfl⟩:=sh3 h1
  obtain ⟨v2,rfl⟩:=sh9 h2
  exact ⟨LVal.mk v0 v1 v2,rfl⟩
theorem sh141 {n : Nat} {pvs : List PV} (h : Sh Tryz.prog n 141 pvs) : ∃ v : LConstraint,pvs=ed v:=by
 cases n with
 | zero=>simp [Sh] at h
 | succ n =>
  simp only [Sh,Tryz.underlying141,List.map_cons,List.map_nil,hM] at h
  obtain ⟨p0,r0,rfl,h0,p1,r1,rfl,h1,p2,r2,rfl,h2,p3,r3,rfl,h3,p4,r4,rfl,h4,rfl⟩:=h
  obtain ⟨v0,rfl⟩:=sh9 h0
  obtain ⟨v1,rfl⟩:=sh3 h1
  obtain ⟨v2,rfl⟩:=sh9 h2
  obtain ⟨v3,rfl⟩:=sh3 h3
  obtain ⟨v4,rfl⟩:=sh73 h4
  exact ⟨LConstraint.mk v0 v1 v2 v3 v4,rfl⟩
theorem sh24 {n : Nat} {pvs : List PV} (h : Sh Tryz.prog n 24 pvs) : ∃ v : List LConstraint,pvs=[.list 141 (v.map ed)]:=by
 cases n with
 | zero=>simp [Sh] at h
 | succ n =>
  simp only [Sh,Tryz.underlying24] at h
  obtain ⟨rows,rfl,hr⟩:=h
  obtain ⟨xs,rfl⟩:=jF (f:=ed) (fun r hq=>sh141 (hr r hq))
  exact ⟨xs,rfl⟩
theorem sh26 {n : Nat} {pvs : List PV} (h : Sh Tryz.prog n 26 pvs) : ∃ v : LSchema,pvs=bR v:=by
 cases n with
 | zero=>simp [Sh] at h
 | succ n =>
  simp only [Sh,Tryz.underlying26,List.map_cons,List.map_nil,hM] at h
  obtain ⟨p0,r0,rfl,h0,p1,r1,rfl,h1,p2,r2,rfl,h2,rfl⟩:=h
  obtain ⟨v0,rfl⟩:=sh22 h0
  obtain ⟨v1,rfl⟩:=sh23 h1
  obtain ⟨v2,rfl⟩:=sh24 h2
  exact ⟨LSchema.mk v0 v1 v2,rfl⟩
theorem sh75 {n : Nat} {pvs : List PV} (h : Sh Tryz.prog n 75 pvs) : ∃ v : Rq,pvs=[.list 73 (v.map ae)]:=by
 cases n with
 | zero=>simp [Sh] at h
 | succ n =>
  simp only [Sh,Tryz.underlying75] at h
  obtain ⟨rows,rfl,hr⟩:=h
  obtain ⟨xs,rfl⟩:=jF (f:=ae) (fun r hq=>sh73 (hr r hq))
  exact ⟨xs,rfl⟩
theorem sh61 {n : Nat} {pvs : List PV} (h : Sh Tryz.prog n 61 pvs) : ∃ v : Rz,pvs=[.list 75 (v.map (am 73 ae))]:=by
 cases n with
 | zero=>simp [Sh] at h
 | succ n =>
  simp only [Sh,Tryz.underlying61] at h
  obtain ⟨rows,rfl,hr⟩:=h
  obtain ⟨xs,rfl⟩:=jF (f:=(am 73 ae)) (fun r hq=>let ⟨v,e⟩:=sh75 (hr r hq); ⟨v,e⟩)
  exact ⟨xs,rfl⟩
theorem sh77 {n : Nat} {pvs : List PV} (h : Sh Tryz.prog n 77 pvs) : ∃ v : LRelation,pvs=bp v:=by
 cases n with
 | zero=>simp [Sh] at h
 | succ n =>
  simp only [Sh,Tryz.underlying77,List.map_cons,List.map_nil,hM] at h
  obtain ⟨p0,r0,rfl,h0,p1,r1,rfl,h1,rfl⟩:=h
  obtain ⟨v0,rfl⟩:=sh9 h0
  obtain ⟨v1,rfl⟩:=sh61 h1
  exact ⟨LRelation.mk v0 v1,rfl⟩
theorem sh42 {n : Nat} {pvs : List PV} (h : Sh Tryz.prog n 42 pvs) : ∃ v : List LRelation,pvs=[.list 77 (v.map bp)]:=by
 cases n with
 | zero=>simp [Sh] at h
 | succ n =>
  simp only [Sh,Tryz.underlying42] at h
  obtain ⟨rows,rfl,hr⟩:=h
  obtain ⟨xs,rfl⟩:=jF (f:=bp) (fun r hq=>sh77 (hr r hq))
  exact ⟨xs,rfl⟩
theorem sh27 {n : Nat} {pvs : List PV} (h : Sh Tryz.prog n 27 pvs) : ∃ v : List (List UInt8),pvs=[.list 9 (v.map mi)]:=by
 cases n with
 | zero=>simp [Sh] at h
 | succ n =>
  simp only [Sh,Tryz.underlying27] at h
  obtain ⟨rows,rfl,hr⟩:=h
  obtain ⟨xs,rfl⟩:=jF (f:=mi) (fun r hq=>let ⟨v,e⟩:=sh9 (hr r hq); ⟨v,e⟩)
  exact ⟨xs,rfl⟩
theorem sh91 {n : Nat} {pvs : List PV} (h : Sh Tryz.prog n 91 pvs) : ∃ v : LExpr,pvs=ez v:=by
 induction n generalizing pvs with
 | zero=>simp [Sh] at h
 | succ n ih =>
  simp only [Sh,Tryz.underlying91,List.map_cons,List.map_nil,hM] at h
  obtain ⟨p0,r0,rfl,h0,p1,r1,rfl,h1,p2,r2,rfl,h2,p3,r3,rfl,h3,p4,r4,rfl,h4,rfl⟩:=h
  obtain ⟨v0,rfl⟩:=sh3 h0
  obtain ⟨v1,rfl⟩:=sh9 h1
  obtain ⟨v2,rfl⟩:=sh3 h2
  obtain ⟨v3,rfl⟩:=sh73 h3
  cases n with
  | zero=>simp [Sh] at h4
  | succ n =>
  simp only [Sh,Tryz.underlying28] at h4
  obtain ⟨rows,rfl,hr4⟩:=h4
  obtain ⟨v4,rfl⟩:=rowsUp (f:=ez) (rfl) ih hr4
  exact ⟨LExpr.mk v0 v1 v2 v3 v4,by rw [eS]; rfl⟩
theorem sh28 {n : Nat} {pvs : List PV} (h : Sh Tryz.prog n 28 pvs) : ∃ v : List LExpr,pvs=[.list 91 (v.map ez)]:=by
 cases n with
 | zero=>simp [Sh] at h
 | succ n =>
  simp only [Sh,Tryz.underlying28] at h
  obtain ⟨rows,rfl,hr⟩:=h
  obtain ⟨xs,rfl⟩:=jF (f:=ez) (fun r hq=>sh91 (hr r hq))
  exact ⟨xs,rfl⟩
theorem sh88 {n : Nat} {pvs : List PV} (h : Sh Tryz.prog n 88 pvs) : ∃ v : LAggregateCall,pvs=li v:=by
 cases n with
 | zero=>simp [Sh] at h
 | succ n =>
  simp only [Sh,Tryz.underlying88,List.map_cons,List.map_nil,hM] at h
  obtain ⟨p0,r0,rfl,h0,p1,r1,rfl,h1,p2,r2,rfl,h2,rfl⟩:=h
  obtain ⟨v0,rfl⟩:=sh9 h0
  obtain ⟨v1,rfl⟩:=sh9 h1
  obtain ⟨v2,rfl⟩:=sh28 h2
  exact ⟨LAggregateCall.mk v0 v1 v2,rfl⟩
theorem sh29 {n : Nat} {pvs : List PV} (h : Sh Tryz.prog n 29 pvs) : ∃ v : List LAggregateCall,pvs=[.list 88 (v.map li)]:=by
 cases n with
 | zero=>simp [Sh] at h
 | succ n =>
  simp only [Sh,Tryz.underlying29] at h
  obtain ⟨rows,rfl,hr⟩:=h
  obtain ⟨xs,rfl⟩:=jF (f:=li) (fun r hq=>sh88 (hr r hq))
  exact ⟨xs,rfl⟩
theorem sh30 {n : Nat} {pvs : List PV} (h : Sh Tryz.prog n 30 pvs) : ∃ v : List Bool,pvs=[.list 4 (v.map rBool)]:=by
 cases n with
 | zero=>simp [Sh] at h
 | succ n =>
  simp only [Sh,Tryz.underlying30] at h
  obtain ⟨rows,rfl,hr⟩:=h
  obtain ⟨xs,rfl⟩:=jF (f:=rBool) (fun r hq=>let ⟨v,e⟩:=sh4 (hr r hq); ⟨v,e⟩)
  exact ⟨xs,rfl⟩
theorem sh33 {n : Nat} {pvs : List PV} (h : Sh Tryz.prog n 33 pvs) : ∃ v : LQuery,pvs=cr v:=by
 induction n generalizing pvs with
 | zero=>simp [Sh] at h
 | succ n ih =>
  simp only [Sh,Tryz.underlying33,List.map_cons,List.map_nil,hM] at h
  obtain ⟨p0,r0,rfl,h0,p1,r1,rfl,h1,p2,r2,rfl,h2,p3,r3,rfl,h3,p4,r4,rfl,h4,p5,r5,rfl,h5,p6,r6,rfl,h6,p7,r7,rfl,h7,p8,r8,rfl,h8,rfl⟩:=h
  obtain ⟨v0,rfl⟩:=sh3 h0
  obtain ⟨v1,rfl⟩:=sh9 h1
  obtain ⟨v2,rfl⟩:=sh27 h2
  obtain ⟨v3,rfl⟩:=sh28 h3
  obtain ⟨v4,rfl⟩:=sh29 h4
  obtain ⟨v5,rfl⟩:=sh30 h5
  obtain ⟨v6,rfl⟩:=sh3 h6
  obtain ⟨v7,rfl⟩:=sh3 h7
  cases n with
  | zero=>simp [Sh] at h8
  | succ n =>
  simp only [Sh,Tryz.underlying31] at h8
  obtain ⟨rows,rfl,hr8⟩:=h8
  obtain ⟨v8,rfl⟩:=rowsUp (f:=cr) (rfl) ih hr8
  exact ⟨LQuery.mk v0 v1 v2 v3 v4 v5 v6 v7 v8,by rw [ce]; rfl⟩
theorem sh43 {n : Nat} {pvs : List PV} (h : Sh Tryz.prog n 43 pvs) : ∃ v : Rq,pvs=[.list 73 (v.map ae)]:=by
 cases n with
 | zero=>simp [Sh] at h
 | succ n =>
  simp only [Sh,Tryz.underlying43] at h
  obtain ⟨rows,rfl,hr⟩:=h
  obtain ⟨xs,rfl⟩:=jF (f:=ae) (fun r hq=>sh73 (hr r hq))
  exact ⟨xs,rfl⟩
theorem law_args : ∀ args,ArgsSh Tryz.prog Tryz.f5.params.toList args→bN args≤1048576→aK Tryz.prog 5 args (.val (.bool true)):=by
 intro args h hN
 rw [Tryz.params5] at h
 simp only [ArgsSh] at h
 obtain ⟨n0,p0,r0,rfl,h0,n1,p1,r1,rfl,h1,n2,p2,r2,rfl,h2,n3,p3,r3,rfl,h3,rfl⟩:=h
 obtain ⟨v0,rfl⟩:=sh26 h0
 obtain ⟨v1,rfl⟩:=sh42 h1
 obtain ⟨v2,rfl⟩:=sh33 h2
 obtain ⟨v3,rfl⟩:=sh43 h3
 have e0 : kM Tryz.prog 26 (bR v0)=.agg (bR v0):=by simp only [kM,Tryz.underlying26]
 rw [e0] at hN ⊢
 have e1 : kM Tryz.prog 42 [.list 77 (v1.map bp)]=.list 77 (v1.map bp):=by simp only [kM,Tryz.underlying42]; rfl
 rw [e1] at hN ⊢
 have e2 : kM Tryz.prog 33 (cr v2)=.agg (cr v2):=by simp only [kM,Tryz.underlying33]
 rw [ce] at e2
 rw [ce v2,e2] at hN ⊢
 have e3 : kM Tryz.prog 43 [.list 73 (v3.map ae)]=.list 73 (v3.map ae):=by simp only [kM,Tryz.underlying43]; rfl
 rw [e3] at hN ⊢
 simp only [bN,PV.bulk] at hN
 have hs0 : nc v0:=smallS_bulk (n:=1048576) (by omega) (by omega)
 have hq : TinyQ v2:=tiny_bulk (n:=1048576) (by omega) (by omega)
 exact ln v0 v1 v2 v3 true (tW hs0 v1 hq.small v3)
set_option maxRecDepth 100000 in
theorem law_wf : (fun (P : Program) (f : FuncId) (fn : Func) (s : ChangeSpec) (c : OpenClaim)=>(P.funcs.size,f,fn.params.size,s.name,c.func,c.wf (OpenSpec.ofChange s)).2.2.2.2.2) Tryz.prog 5 Tryz.f5 (Rows.OpenSpec.upto Rows.procedureEmitMatchesQuerySpec).bare Rows.procedureEmitMatchesQueryUptoRow=true:=by kernel_rfl
set_option maxRecDepth 100000 in
theorem law_laid : (fun (P : Program) (f : FuncId) (fn : Func) (s : ChangeSpec) (c : OpenClaim)=>(P.funcs.size,f,fn.params.size,s.name,c.func,laidOutB P).2.2.2.2.2) Tryz.prog 5 Tryz.f5 (Rows.OpenSpec.upto Rows.procedureEmitMatchesQuerySpec).bare Rows.procedureEmitMatchesQueryUptoRow=true:=by kernel_rfl
set_option maxRecDepth 100000 in
theorem law_mapsRowed : (fun (P : Program) (f : FuncId) (fn : Func) (s : ChangeSpec) (c : OpenClaim)=>(P.funcs.size,f,fn.params.size,s.name,c.func,mapsRowed P).2.2.2.2.2) Tryz.prog 5 Tryz.f5 (Rows.OpenSpec.upto Rows.procedureEmitMatchesQuerySpec).bare Rows.procedureEmitMatchesQueryUptoRow=true:=by kernel_rfl
set_option maxRecDepth 100000 in
theorem law_rr : (fun (P : Program) (f : FuncId) (fn : Func) (s : ChangeSpec) (c : OpenClaim)=>(P.funcs.size,f,fn.params.size,s.name,c.func,fn.params.all (P.readableRec ·)).2.2.2.2.2) Tryz.prog 5 Tryz.f5 (Rows.OpenSpec.upto Rows.procedureEmitMatchesQuerySpec).bare Rows.procedureEmitMatchesQueryUptoRow=true:=by kernel_rfl
set_option maxRecDepth 100000 in
theorem law_nt : (fun (P : Program) (f : FuncId) (fn : Func) (s : ChangeSpec) (c : OpenClaim)=>(P.funcs.size,f,fn.params.size,s.name,c.func,namedTie P c.named s.vars).2.2.2.2.2) Tryz.prog 5 Tryz.f5 (Rows.OpenSpec.upto Rows.procedureEmitMatchesQuerySpec).bare Rows.procedureEmitMatchesQueryUptoRow=true:=by kernel_rfl
set_option maxRecDepth 100000 in
theorem law_st : (fun (P : Program) (f : FuncId) (fn : Func) (s : ChangeSpec) (c : OpenClaim)=>(P.funcs.size,f,fn.params.size,s.name,c.func,(c.stops==[])&&(P.stops==[])&&(c.knobs==[])&&(P.stopKnobs==[])).2.2.2.2.2) Tryz.prog 5 Tryz.f5 (Rows.OpenSpec.upto Rows.procedureEmitMatchesQuerySpec).bare Rows.procedureEmitMatchesQueryUptoRow=true:=by kernel_rfl
set_option maxRecDepth 100000 in
theorem law_inPlace : (fun (P : Program) (f : FuncId) (fn : Func) (s : ChangeSpec) (c : OpenClaim)=>(P.funcs.size,f,fn.params.size,s.name,c.func,c.inPlace==P.inPlace f).2.2.2.2.2) Tryz.prog 5 Tryz.f5 (Rows.OpenSpec.upto Rows.procedureEmitMatchesQuerySpec).bare Rows.procedureEmitMatchesQueryUptoRow=true:=by kernel_rfl
set_option maxRecDepth 100000 in
theorem law_unf : (fun (P : Program) (f : FuncId) (fn : Func) (s : ChangeSpec) (c : OpenClaim)=>(P.funcs.size,f,fn.params.size,s.name,c.func,c.unfollowed==P.unfollowed f).2.2.2.2.2) Tryz.prog 5 Tryz.f5 (Rows.OpenSpec.upto Rows.procedureEmitMatchesQuerySpec).bare Rows.procedureEmitMatchesQueryUptoRow=true:=by kernel_rfl
set_option maxRecDepth 100000 in
theorem law_rec : (fun (P : Program) (f : FuncId) (fn : Func) (s : ChangeSpec) (c : OpenClaim)=>(P.funcs.size,f,fn.params.size,s.name,c.func,c.recurses==P.recurses f).2.2.2.2.2) Tryz.prog 5 Tryz.f5 (Rows.OpenSpec.upto Rows.procedureEmitMatchesQuerySpec).bare Rows.procedureEmitMatchesQueryUptoRow=true:=by kernel_rfl
set_option maxRecDepth 100000 in
theorem law_named : (fun (P : Program) (f : FuncId) (fn : Func) (s : ChangeSpec) (c : OpenClaim)=>(P.funcs.size,f,fn.params.size,s.name,c.func,c.named==P.varsNamed f).2.2.2.2.2) Tryz.prog 5 Tryz.f5 (Rows.OpenSpec.upto Rows.procedureEmitMatchesQuerySpec).bare Rows.procedureEmitMatchesQueryUptoRow=true:=by kernel_rfl
set_option maxRecDepth 100000 in
theorem law_maps : (fun (P : Program) (f : FuncId) (fn : Func) (s : ChangeSpec) (c : OpenClaim)=>(P.funcs.size,f,fn.params.size,s.name,c.func,(c.maps==(fn.params.toList++s.plain.varTypes P).any (P.mapsRec ·))&&(c.ifaces==(fn.params.toList++s.plain.varTypes P).any (P.ifacesRec ·))&&(c.mapsOut==P.mapsAmong fn.resultTypes.toList)).2.2.2.2.2) Tryz.prog 5 Tryz.f5 (Rows.OpenSpec.upto Rows.procedureEmitMatchesQuerySpec).bare Rows.procedureEmitMatchesQueryUptoRow=true:=by kernel_rfl
set_option maxRecDepth 100000 in
theorem law_loops : (fun (P : Program) (f : FuncId) (fn : Func) (s : ChangeSpec) (c : OpenClaim)=>(P.funcs.size,f,fn.params.size,s.name,c.func,(c.loops==(fn.params.toList++s.plain.varTypes P).any (P.loopsFrom ·))).2.2.2.2.2) Tryz.prog 5 Tryz.f5 (Rows.OpenSpec.upto Rows.procedureEmitMatchesQuerySpec).bare Rows.procedureEmitMatchesQueryUptoRow=true:=by kernel_rfl
set_option maxRecDepth 100000 in
theorem law_wide : (fun (P : Program) (f : FuncId) (fn : Func) (s : ChangeSpec) (c : OpenClaim)=>(P.funcs.size,f,fn.params.size,s.name,c.func,(c.wideKeys==(fn.params.toList++s.plain.varTypes P++fn.resultTypes.toList).any (P.wideKeysFrom ·))).2.2.2.2.2) Tryz.prog 5 Tryz.f5 (Rows.OpenSpec.upto Rows.procedureEmitMatchesQuerySpec).bare Rows.procedureEmitMatchesQueryUptoRow=true:=by kernel_rfl
set_option maxRecDepth 100000 in
theorem law_rest1 : (fun (P : Program) (f : FuncId) (fn : Func) (s : ChangeSpec) (c : OpenClaim)=>(P.funcs.size,f,fn.params.size,s.name,c.func,s.vars.all (P.varReadable ·)&&fn.resultTypes.all (fun t=>P.readableRec t&&decide (t < P.types.size))&&(c.ifacesOut==fn.resultTypes.toList.any (P.ifacesRec ·))&&(c.loopsOut==fn.resultTypes.toList.any (P.loopsFrom ·))).2.2.2.2.2) Tryz.prog 5 Tryz.f5 (Rows.OpenSpec.upto Rows.procedureEmitMatchesQuerySpec).bare Rows.procedureEmitMatchesQueryUptoRow=true:=by kernel_rfl
set_option maxRecDepth 100000 in
theorem law_plainKeys : (fun (P : Program) (f : FuncId) (fn : Func) (s : ChangeSpec) (c : OpenClaim)=>(P.funcs.size,f,fn.params.size,s.name,c.func,c.plainKeys==P.plainKeys).2.2.2.2.2) Tryz.prog 5 Tryz.f5 (Rows.OpenSpec.upto Rows.procedureEmitMatchesQuerySpec).bare Rows.procedureEmitMatchesQueryUptoRow=true:=by kernel_rfl
set_option maxRecDepth 100000 in
theorem law_rest2 : (fun (P : Program) (f : FuncId) (fn : Func) (s : ChangeSpec) (c : OpenClaim)=>(P.funcs.size,f,fn.params.size,s.name,c.func,c.shortTexts.isNone&&P.stopsHeard&&P.mayEnter&&(c.lifted==P.liftsFinal)&&(P.make==some c.make)).2.2.2.2.2) Tryz.prog 5 Tryz.f5 (Rows.OpenSpec.upto Rows.procedureEmitMatchesQuerySpec).bare Rows.procedureEmitMatchesQueryUptoRow=true:=by kernel_rfl
set_option maxRecDepth 100000 in
theorem law_kinds : (fun (P : Program) (f : FuncId) (fn : Func) (s : ChangeSpec) (c : OpenClaim)=>(P.funcs.size,f,fn.params.size,s.name,c.func,(c.kinds==(if c.domain.isEmpty then [] else fn.params.toList.map fun t=>match P.underlying t with | some (.int k)=>some k | _=>none))&&(c.pinned==c.pinnedBy)).2.2.2.2.2) Tryz.prog 5 Tryz.f5 (Rows.OpenSpec.upto Rows.procedureEmitMatchesQuerySpec).bare Rows.procedureEmitMatchesQueryUptoRow=true:=by kernel_rfl
set_option maxRecDepth 100000 in
theorem law_veil : (fun (P : Program) (f : FuncId) (fn : Func) (s : ChangeSpec) (c : OpenClaim)=>(P.funcs.size,f,fn.params.size,s.name,c.func,(c.veiled==(fn.params.toList++s.plain.varTypes P++fn.resultTypes.toList).any (P.veiledRec ·))&&c.veiledFits P fn.params.toList (fn.params.toList++s.plain.varTypes P++fn.resultTypes.toList)).2.2.2.2.2) Tryz.prog 5 Tryz.f5 (Rows.OpenSpec.upto Rows.procedureEmitMatchesQuerySpec).bare Rows.procedureEmitMatchesQueryUptoRow=true:=by kernel_rfl
set_option maxRecDepth 100000 in
theorem law_facts : joinedFacts Tryz.prog 5 Tryz.f5 (Rows.OpenSpec.upto Rows.procedureEmitMatchesQuerySpec).bare Rows.procedureEmitMatchesQueryUptoRow=true:=joined_of law_wf law_laid law_mapsRowed law_rr law_nt law_st law_inPlace law_unf law_rec law_named law_maps law_loops law_wide law_rest1 law_plainKeys law_rest2 law_kinds law_veil
theorem gl_all (W : World) : Gl W []:=by
 refine ⟨⟨?_,?_,?_⟩,?_⟩
 ·intro b hb; simp [glI] at hb
 ·intro b hb; simp [glT] at hb
 ·intro b hb; simp [glN] at hb
 ·intro b hb; simp [glB,glI,glT,glN] at hb
def putVar (h : Array Go.Obj) (g : Nat) (cs : Array Value) : Array Go.Obj:=h.modify g fun
 | .cells _ t fz=>.cells cs t fz
 | o=>o
def lowBlk : Nat:=(World.holding Tryz.prog default ⟨#[],#[],[]⟩).heap.size
def sJ (os : Os) : World :=
 let w0:=World.holding Tryz.prog os ⟨#[.cells #[.string ⟨#[118,97,108,117,101,32,111,117,116,32,111,102,32,114,97,110,103,101]⟩] 363,.cells #[.string ⟨#[105,110,118,97,108,105,100,32,115,121,110,116,97,120]⟩] 363],#[],[]⟩
 { w0 with heap:=(putVar (putVar (putVar (putVar (putVar w0.heap 4 #[.int .u8 0,.int .u8 1,.int .u8 28,.int .u8 2,.int .u8 29,.int .u8 14,.int .u8 24,.int .u8 3,.int .u8 30,.int .u8 22,.int .u8 20,.int .u8 15,.int .u8 25,.int .u8 17,.int .u8 4,.int .u8 8,.int .u8 31,.int .u8 27,.int .u8 13,.int .u8 23,.int .u8 21,.int .u8 19,.int .u8 16,.int .u8 7,.int .u8 26,.int .u8 12,.int .u8 18,.int .u8 6,.int .u8 11,.int .u8 5,.int .u8 10,.int .u8 9]) 5 #[.int .u8 0,.int .u8 1,.int .u8 56,.int .u8 2,.int .u8 57,.int .u8 49,.int .u8 28,.int .u8 3,.int .u8 61,.int .u8 58,.int .u8 42,.int .u8 50,.int .u8 38,.int .u8 29,.int .u8 17,.int .u8 4,.int .u8 62,.int .u8 47,.int .u8 59,.int .u8 36,.int .u8 45,.int .u8 43,.int .u8 51,.int .u8 22,.int .u8 53,.int .u8 39,.int .u8 33,.int .u8 30,.int .u8 24,.int .u8 18,.int .u8 12,.int .u8 5,.int .u8 63,.int .u8 55,.int .u8 48,.int .u8 27,.int .u8 60,.int .u8 41,.int .u8 37,.int .u8 16,.int .u8 46,.int .u8 35,.int .u8 44,.int .u8 21,.int .u8 52,.int .u8 32,.int .u8 23,.int .u8 11,.int .u8 54,.int .u8 26,.int .u8 40,.int .u8 15,.int .u8 34,.int .u8 20,.int .u8 31,.int .u8 10,.int .u8 25,.int .u8 14,.int .u8 19,.int .u8 9,.int .u8 13,.int .u8 8,.int .u8 7,.int .u8 6]) 3 #[.int .u64 1,.int .u64 10,.int .u64 100,.int .u64 1000,.int .u64 10000,.int .u64 100000,.int .u64 1000000,.int .u64 10000000,.int .u64 100000000,.int .u64 1000000000,.int .u64 10000000000,.int .u64 100000000000,.int .u64 1000000000000,.int .u64 10000000000000,.int .u64 100000000000000,.int .u64 1000000000000000,.int .u64 10000000000000000,.int .u64 100000000000000000,.int .u64 1000000000000000000,.int .u64 10000000000000000000]) 2 #[.iface 361 (.pointer (some ⟨lowBlk,0,none⟩))]) 1 #[.iface 361 (.pointer (some ⟨lowBlk+1,0,none⟩))]) }
set_option maxRecDepth 100000 in
theorem laid_met (os : Os) : laidMet Tryz.prog Rows.procedureEmitMatchesQueryUptoRow.laid ((sJ os).forCall (fun _ _=>0) ⟨#[],#[.agg #[.slice none 0 0,.slice none 0 0,.slice none 0 0],.slice none 0 0,.agg #[.int .i64 0,.string ⟨#[]⟩,.slice none 0 0,.slice none 0 0,.slice none 0 0,.slice none 0 0,.int .i64 0,.int .i64 0,.slice none 0 0],.slice none 0 0],[]⟩).memory :=
 laidMet_of_run' 8 (by kernel_rfl) (by kernel_rfl)
theorem law_reads (os : Os) {H : Type} (enc : TypeId×Value→H) : ∃ mE,DataW.whole enc Tryz.prog ((sJ os).forCall (fun _ _=>0) ⟨#[],#[.agg #[.slice none 0 0,.slice none 0 0,.slice none 0 0],.slice none 0 0,.agg #[.int .i64 0,.string ⟨#[]⟩,.slice none 0 0,.slice none 0 0,.slice none 0 0,.slice none 0 0,.int .i64 0,.int .i64 0,.slice none 0 0],.slice none 0 0],[]⟩).memory Tryz.f5.params.toList (Rows.OpenSpec.upto Rows.procedureEmitMatchesQuerySpec).vars false (#[.agg #[.slice none 0 0,.slice none 0 0,.slice none 0 0],.slice none 0 0,.agg #[.int .i64 0,.string ⟨#[]⟩,.slice none 0 0,.slice none 0 0,.slice none 0 0,.slice none 0 0,.int .i64 0,.int .i64 0,.slice none 0 0],.slice none 0 0] : Array Value).toList 8=some ([.agg [.nil,.nil,.nil],.nil,.agg [.lit (.int .i64 0),.lit (.string []),.nil,.nil,.nil,.nil,.lit (.int .i64 0),.lit (.int .i64 0),.nil],.nil],[],mE) :=
 ⟨[],by kernel_rfl⟩
set_option maxRecDepth 100000 in
theorem law_lifted (os : Os) (started : os.Started) (H : Type) (enc : TypeId×Value→H) (F : Stop.Interp) :
  ReturnsInHanded {} Tryz.checked os 5 .any ((Rows.OpenSpec.upto Rows.procedureEmitMatchesQuerySpec).preRow enc Tryz.prog Tryz.f5 Rows.procedureEmitMatchesQueryUptoRow.domain false Rows.procedureEmitMatchesQueryUptoRow.laid) (((Rows.OpenSpec.upto Rows.procedureEmitMatchesQuerySpec).at F).post enc Tryz.prog Tryz.f5 false true false false):=by
 obtain ⟨mE,hx⟩:=law_reads os enc
 refine returnsInHanded_of_row (C:=Tryz.checked) (s:=Rows.OpenSpec.upto Rows.procedureEmitMatchesQuerySpec) own_knob started (by kernel_rfl) Tryz.func5
  (witness_row_at (enc:=enc) (C:=Tryz.checked) false (sJ os) #[.agg #[.slice none 0 0,.slice none 0 0,.slice none 0 0],.slice none 0 0,.agg #[.int .i64 0,.string ⟨#[]⟩,.slice none 0 0,.slice none 0 0,.slice none 0 0,.slice none 0 0,.int .i64 0,.int .i64 0,.slice none 0 0],.slice none 0 0] rfl (by kernel_rfl) (by kernel_rfl) (by kernel_rfl)
   (OpenSpec.preRow_of_cond 8 hx (by kernel_rfl) (fun k hk=>by obtain rfl:=Option.some.inj hk; kernel_rfl) (by kernel_rfl) (laid_met os))) ?_
 intro W base args ds gs before hval hW _ hk hsz _ _ _
 have hN : ((ds++gs).map (fun d=>Rows.uptoBulk d)).sum≤1048576:=by
  rw [qk]; exact of_decide_eq_true (hk Rows.uptoSmall rfl)
 refine law_callsB (s:=Rows.procedureEmitMatchesQuerySpec) (tb:=4) bulk_is laid_out rfl ?_ rfl Tryz.underlying4 ?_ lawTypes_ok lawTypes_info ?_ law_args hval hW (gl_all W) hsz hN
 ·rw [Tryz.params5]
  intro t ht
  simp only [List.mem_cons,List.mem_nil_iff,or_false] at ht
  rcases ht with rfl | rfl | rfl | rfl <;> exact ⟨by kernel_rfl,of_decide_eq_true (by kernel_rfl)⟩
 ·intro ds hlen
  rw [Tryz.params5] at hlen
  match ds,hlen with
  | [d0,d1,d2,d3],_=>rfl
 ·rw [Tryz.params5]
  intro t ht
  simp only [List.mem_cons,List.mem_nil_iff,or_false] at ht
  rcases ht with rfl | rfl | rfl | rfl <;> simp [lawTypes]
theorem law_said : Rows.ProcedureEmitMatchesQueryUptoSaid :=
 OpenClaim.holds_of_cond 5 Tryz.f5 rfl rfl rfl rfl rfl rfl rfl ⟨rfl,rfl,rfl,rfl,rfl⟩ rfl rfl rfl rfl rfl (by kernel_rfl) Tryz.func5 law_facts
  (of_decide_eq_true (by kernel_rfl)) (by unfold Func.isWrapper; first | (rw [zp (by decide +kernel)]; kernel_rfl) | (rw [zy (by decide +kernel)]; exact ⟨rfl,rfl⟩))
  (fun os started H enc _ F=>by rw [OpenClaim.pre_eq_preRow]; exact law_lifted os started H enc F)
theorem law_plain (f : FuncId) (fn : Func) (hf : Tryz.pinned.checked.prog.funcNamed "stemma/stemkeep3.ProcedureEmitMatchesQuery" = some f) (hfn : Tryz.pinned.checked.prog.funcs[f]? = some fn) :
  true=Tryz.pinned.checked.prog.looks []∧∀ (j : Nat) t,fn.params[j]?=some t→Tryz.pinned.checked.prog.wantsStandIn t=false:=by
 obtain rfl : f = 5 := Option.some.inj ((show Tryz.prog.funcNamed "stemma/stemkeep3.ProcedureEmitMatchesQuery" = some 5 by kernel_rfl).symm.trans hf) |>.symm
 obtain rfl : fn=Tryz.f5:=(Option.some.inj (Tryz.func5.symm.trans hfn)).symm
 refine ⟨by kernel_rfl,fun j t ht=>?_⟩
 have hall : (Tryz.f5.params.toList.all fun u=>!Tryz.prog.wantsStandIn u)=true:=by kernel_rfl
 have hm : t∈Tryz.f5.params.toList:=by simpa using Array.mem_of_getElem? ht
 exact (show Tryz.prog.wantsStandIn t=false by simpa using List.all_eq_true.1 hall t hm)
theorem procedureEmitMatchesQueryUpto_holds : Rows.ProcedureEmitMatchesQueryUptoCardSaid :=
 Claim7.holds_tied_plain_at .later [] _ _ _ _ law_said (fun _ h=>by cases h) (by kernel_rfl) (fun _ h=>by cases h) procedureEmitMatchesQueryUpto_row_tie rfl ⟨rfl,rfl⟩ (by kernel_rfl) rfl law_plain (by kernel_rfl)
end
end Go.Proofs.YtppmcepdcpmpcaaGreatDoor
