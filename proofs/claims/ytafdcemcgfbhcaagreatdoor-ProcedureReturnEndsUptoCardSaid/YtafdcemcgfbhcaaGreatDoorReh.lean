/- procedureReturnEndsUpto_holds, part 8: the layer, the plain functions and what they compute; conditions as in the statement. -/
import Derived.Test.YtafdcemcgfbhcaaGreatDoorReg
set_option maxHeartbeats 4000000
namespace Go.Proofs.YtafdcemcgfbhcaaGreatDoor
noncomputable section
open Go Go.Ab Go.Proofs.Tryz
structure InstLen(s:LSchema)(st:List LW):Prop where
 len:st.length=s.tables.length
 tab:∀(i:Nat) (r:LW) (t:LTable),st[i]? =some r->s.tables[i]? =some t->r.rows.length<=24/\∀row∈r.rows,row.length=t.columns.length
theorem InstOk.lens{s:LSchema}{st:List LW}(h:InstOk s st):InstLen s st:=
 ⟨h.len,fun i r t h1 h2=>⟨(h.tab i r t h1 h2).2.1,fun row hr=>((h.tab i r t h1 h2).2.2 row hr).1⟩⟩
theorem InstLen.set{s:LSchema}{st:List LW}(h:InstLen s st){i:Nat}{t:LTable}(ht:s.tables[i]? =some t){r:LW}(hr:st[i]? =some r){rows:Rows}(h24:rows.length<=24)(hl:∀row∈rows,row.length=t.columns.length):
  InstLen s (st.set i ⟨r.table,rows⟩):=by
 refine⟨by rw[List.length_set];exact h.len,fun k r' t' h1 h2=>?_⟩
 by_cases hk:k=i
 ·subst hk;rw[List.getElem?_set_self (zg.1 hr).1]at h1;rw[ht]at h2;cases h1;cases h2
  exact⟨h24,hl⟩
 ·rw[List.getElem?_set_ne (Ne.symm hk)]at h1;exact h.tab k r' t' h1 h2
theorem InstLen.at{s:LSchema}{st:List LW}(h:InstLen s st){i:Nat}{t:LTable}(ht:s.tables[i]? =some t):∃r,st[i]? =some r/\r.rows.length<=24/\∀row∈r.rows,row.length=t.columns.length:=by
 have hi:=(zg.1 ht).1;have hi2:i<st.length:=by have:=h.len;omega
 have hr:st[i]? =some st[i]:=ze hi2
 exact⟨_,hr,h.tab i _ t hr ht⟩
structure BaseS(s:LSchema):Prop where
 val:gg s=some 0
 six:s.tables.length<=6
 tabs:∀t∈s.tables,TableOk t
theorem BaseS.small{s:LSchema}(h:BaseS s):SmallS s:=fun t ht=>by have:=(h.tabs t ht).few;omega
theorem clone_st{s:LSchema}{st:List LW}(hI:InstLen s st)(h6:s.tables.length<=6):jn st=some st:=by
 unfold jn;have hl:=hI.len
 rw[rMa (xs:=st) (s:=[]) (fun k=>st.take k) Z (fun k x hk=>by
  have hkl:=(zg.1 hk).1;have hx:=(hI.tab k x s.tables[k] hk (ze (by omega))).1;rw[sJ (by omega),bPs,bI (by decide) (by simp;omega),bPs,List.take_add_one,hk];rfl),bPs,cI,List.take_length]
theorem validKey_tot{t:LTable}(h:TableOk t)(key:Rq):Tot (iI t key):=by
 unfold iI;refine Tot.cond (fun _=>Tot.mk) fun hl=>?_
 have hl:key.length=t.primaryKey.length:=by
  have:(key.length:Int)=t.primaryKey.length:=by simpa using hl
  omega
 refine Tot.bind (Tot.range _ _ _ fun k x s hk=>?_) fun fl _=>Tot.thenR fun _ _=>Tot.mk
 have hkl:=(zg.1 hk).1;have hkp:k<t.primaryKey.length:=by omega
 rw[Nat.zero_add,fJ hkp,bPs]
 obtain⟨a,b⟩:=h.pk t.primaryKey[k] (List.getElem_mem _)
 exact Tot.letP (Tot.cond (fun _=>Tot.mk) fun _=>Tot.bind (Tot.get a b) fun _ _=>Tot.cond (fun _=>Tot.mk) fun _=>Tot.mk)
theorem change_valid{s:LSchema}(h:BaseS s)(c:LChange):Ok (iR s c) fun e=>e=0->∃(i:Nat) (t:LTable),s.tables[i]? =some t/\dS s c.table=some ((i:Int),true)/\(c.kind=1->c.row.length=t.columns.length):=by
 unfold iR;refine Ok.letP (Ok.cond (fun _=>Ok.mk fun h=>absurd h (by decide)) fun _=>?_);rw[nS,bPs];refine Ok.cond (fun _=>Ok.mk fun h=>absurd h (by decide)) fun hf=>?_
 have h0:0<=bg (fun t=>cg t c.table) s.tables:=by simpa using hf
 obtain⟨t,ht,_⟩:=iT h0
 have hg:aP s.tables (bg (fun t=>cg t c.table) s.tables)=some t:=kY h0 ht;rw[oP h0,zt (show bg (fun t=>cg t c.table) s.tables>=0 from h0)];have e:bg (fun t=>cg t c.table) s.tables=((bg (fun t=>cg t c.table) s.tables).toNat:Int):=by omega
 refine Ok.cond (fun h1=>?_) fun h1=>?_
 ·simp only;rw[hg,bPs]
  obtain⟨f,hf,hfit⟩:=uV t c.row
  rw[hf,bPs];exact Ok.mk fun h0=>⟨_,t,ht,by rw[<-e],fun _=>(hfit h0).1⟩
 ·simp only;rw[hg,bPs];refine Ok.bind (Ok.tot (validKey_tot (h.tabs t (eM ht)) c.key)) fun x _=>Ok.mk fun _=>⟨_,t,ht,by rw[<-e],fun k=>?_⟩
  rw[k]at h1;cases h1
def mc(sA:LSchema)(_:Nat)(x1:LChange)(s1:List LW):Option (Flow (List LW) ((List LW)×Int)):=
 af (iR sA x1) fun x42=>
 cond (x42 !=(0:Int))
  (some (.ret ([],x42)))
  (af (dS sA x1.table) fun x50=>
  af (aP sA.tables x50.1) fun(x56:LTable)=>
  cond (x1.kind==(1:Int))
   (af (aP s1 x50.1) fun(x66:LW)=>
   af (iS x56 x66.rows x1.row) fun x71=>
   af (aP s1 x50.1) fun(x72:LW)=>
   letP (s1.set x50.1.toNat (LW.mk x72.table x71)) fun(y6:List LW)=>
   af (aP y6 x50.1) fun(x76:LW)=>
   cond (decide ((x76.rows.length:Int)>(24:Int)))
    (some (.ret ([],2)))
    (some (.next y6)))
   (af (aP s1 x50.1) fun(x87:LW)=>
   af (iQ x56 x87.rows x1.key) fun x92=>
   af (aP s1 x50.1) fun(x95:LW)=>
   letP (s1.set x50.1.toNat (LW.mk x95.table x92.1)) fun(y7:List LW)=>
   cond (!x92.2)
    (some (.ret ([],9)))
    (some (.next y7))))
theorem apply_is(s:LSchema)(st:List LW)(cs:List LChange):lm s st cs=af (gg s) fun x19=>cond (x19 !=(0:Int)) (some ([],x19)) (af (eH s st) fun x25=>cond (x25 !=(0:Int)) (some ([],x25)) (cond (decide ((cs.length:Int)>(24:Int))) (some ([],2))
   (af (jn st) fun x33=>af (aN (mc s) 0 cs x33) fun fl1=>fl1.thenR fun(s1:List LW)=>some (s1,0)))):=rfl
theorem step_ok{s:LSchema}(hb:BaseS s)(j:Nat)(c:LChange){S:List LW}(hS:InstLen s S):Ok (mc s j c S) (oN (InstLen s) (fun _=>False) fun r=>r.2≠0):=by
 unfold mc;refine Ok.bind (change_valid hb c) fun e he=>Ok.cond (fun h=>Ok.mk (show e≠0 by simpa using h)) fun h=>?_
 obtain⟨i,t,ht,hf,hrow⟩:=he (by simpa using h)
 obtain⟨r,hr,h24,hlen⟩:=hS.at ht
 have hsm:=hb.small t (eM ht);rw[hf,bPs];simp only[Int.toNat_natCast];rw[ji ht,bPs];refine Ok.cond (fun h1=>?_) fun h1=>?_
 ·obtain⟨rs,hrs,hl,hm⟩:=upsert_tot hsm r.rows (by omega) c.row
  rw[ji hr,bPs,hrs,bPs,bPs,bM,ji (List.getElem?_set_self (zg.1 hr).1),bPs];refine Ok.cond (fun _=>Ok.mk (show(2:Int)≠0 from by decide)) fun h2=>Ok.mk (hS.set ht hr ?_ fun row hrw=>?_)
  ·have:¬(rs.length:Int)>24:=by simpa using h2
   omega
  ·rcases hm row hrw with h|rfl
   ·exact hlen row h
   ·exact hrow (by simpa using h1)
 ·obtain⟨rs,b,hrs,hl,hm⟩:=delete_tot hsm r.rows (by omega) c.key
  rw[ji hr,bPs,hrs,bPs,bPs,bM];exact Ok.cond (fun _=>Ok.mk (show(9:Int)≠0 from by decide)) fun _=>Ok.mk (hS.set ht hr (show rs.length<=24 by omega) fun row hrw=>hlen row (hm row hrw))
theorem apply_one{s:LSchema}(hb:BaseS s){st:List LW}(hS:InstLen s st)(c:LChange):Ok (lm s st [c]) fun x=>x.2=0->InstLen s x.1/\mc s 0 c st=some (.next x.1):=by
 rw[apply_is,hb.val,bPs,pB Z,zd]
 obtain⟨f,hf,_⟩:=conforms hb.small st
 rw[hf,bPs];refine Ok.cond (fun h=>Ok.mk fun h0=>absurd h0 (by simpa using h)) fun _=>?_
 rw[show decide ((([c]:List LChange).length:Int)>24)=false from Z,zd,clone_st hS hb.six,bPs]
 obtain⟨fl,h1,h2⟩:=step_ok hb 0 c hS
 simp only[aN,h1];cases fl with
 |next S'=>exact Ok.mk fun _=>⟨h2,rfl⟩
 |brk S'=>exact h2.elim
 |ret r=>exact Ok.mk fun h=>absurd h h2
theorem va{α σ ρ:Type}{step:Nat->α->σ->Option (Flow σ ρ)}(hj:∀j x s,step j x s=step 0 x s):∀{xs:List α} {j:Nat} {s t u:σ} {y:α},aN step j xs s=some (.next t)->(∀j x s s',step j x s≠some (.brk s'))->step 0 y t=some (.next u)->aN step j (xs++[y]) s=some (.next u)
 |[],j,s,t,u,y,h,_,h2=>by
  simp only[aN,zo,Flow.next.injEq]at h;subst h;simp only[List.nil_append,aN];rw[hj,h2]
 |x::xs,j,s,t,u,y,h,hb,h2=>by
  rw[List.cons_append];simp only[aN]at h⊢;cases hx:step j x s with
  |none=>rw[hx]at h;cases h
  |some fl=>
   rw[hx]at h;cases fl with
   |next s'=>exact va hj h hb h2
   |brk s'=>exact absurd hx (hb _ _ _ _)
   |ret r=>cases h
theorem step_brk(s:LSchema)(j:Nat)(c:LChange)(S S':List LW):mc s j c S≠some (.brk S'):=by
 intro h;unfold mc at h
 obtain⟨e,_,h⟩:=aq h
 cases he:(e !=(0:Int))with
 |true=>rw[he]at h;cases h
 |false=>
  rw[he,zd]at h
  obtain⟨f,_,h⟩:=aq h
  obtain⟨t,_,h⟩:=aq h
  cases hk:(c.kind==(1:Int))with
  |true=>
   rw[hk,zc]at h
   obtain⟨_,_,h⟩:=aq h
   obtain⟨_,_,h⟩:=aq h
   obtain⟨_,_,h⟩:=aq h
   rw[bM]at h
   obtain⟨r,_,h⟩:=aq h
   cases hd:decide ((r.rows.length:Int)>(24:Int))with
   |true=>rw[hd]at h;cases h
   |false=>rw[hd]at h;cases h
  |false=>
   rw[hk,zd]at h
   obtain⟨_,_,h⟩:=aq h
   obtain⟨x,_,h⟩:=aq h
   obtain⟨_,_,h⟩:=aq h
   rw[bM]at h;cases hd:(!x.2)with
   |true=>rw[hd]at h;cases h
   |false=>rw[hd]at h;cases h
structure Inv(s:LSchema)(st0:List LW)(T:Rs)(n:Nat)(r:LR):Prop where
 sch:r.s=s
 vals:r.vals.length=r.vars.length
 few:r.vars.length<=n
 st:InstLen s r.st
 ch:aN (mc s) 0 r.changes st0=some (.next r.st)
 chl:r.changes.length<=24
 tab:∀c∈r.changes,c.table∈T
 res:r.results.length<=8
 left:0<=r.left/\r.left<=400
section
variable{s:LSchema}{st0:List LW}{T:Rs}{n:Nat}{r:LR}
theorem Inv.mono{m:Nat}(h:Inv s st0 T n r)(hm:n<=m):Inv s st0 T m r:=
 ⟨h.sch,h.vals,Nat.le_trans h.few hm,h.st,h.ch,h.chl,h.tab,h.res,h.left⟩
theorem Inv.vars{m:Nat}{q:LR}(h:Inv s st0 T n r)(hq:Inv s st0 T m q):Inv s st0 T n (LR.mk q.s q.st q.args r.vars r.vals q.changes q.results q.left q.stopped):=
 ⟨hq.sch,h.vals,h.few,hq.st,hq.ch,hq.chl,hq.tab,hq.res,hq.left⟩
theorem eval_is(h:Inv s st0 T n r)(hn:n<=100000)(cols:List LCol)(row:Rq)(e:LExpr):∃v,eo r cols row e=some (v,r):=by
 unfold eo
 rw[nG (xs:=r.vars) LCol.name (fun k x hk=>by
  have:=(zg.1 hk).1
  have:=h.few
  rw[bI (by decide) (by simp;omega),bPs]),bPs,cI,bM]
 exact⟨_,rfl⟩
theorem set_is(hI:Inv s st0 T n r)(hn:n<=100000)(c:LCol)(v:LVal):Ok (hP r c v) (Inv s st0 T (n+1)):=by
 unfold hP;have hf:=hI.few;have hv:=hI.vals;rw[sR,bPs];refine Ok.cond (fun h=>?_) fun _=>?_
 ·have h0:0<=bg (fun a=>fD a c) r.vars:=by simpa using h
  obtain⟨x,hx,_⟩:=iT h0
  have hlt:=(zg.1 hx).1;clear hx h;generalize bg (fun a=>fD a c) r.vars=z at h0 hlt;rw[wW (by omega) (by omega)];unfold nL;rw[zp ⟨by omega,by omega,by omega⟩,bPs,zp ⟨by omega,by omega,by omega⟩,bPs,bI (by decide) (by simp;omega),bPs,bI (by decide) (by simp;omega),bPs];exact Ok.mk ⟨hI.sch,by simp;omega,by simp;omega,hI.st,hI.ch,hI.chl,hI.tab,hI.res,hI.left⟩
 ·rw[bI (by decide) (by simp;omega),bPs,bI (by decide) (by simp;omega),bPs];exact Ok.mk ⟨hI.sch,by simp;omega,by simp;omega,hI.st,hI.ch,hI.chl,hI.tab,hI.res,hI.left⟩
theorem write_is(hb:BaseS s)(hI:Inv s st0 T n r){c:LChange}(hc:c.table∈T):Ok (gv r c) fun x=>x.1=0->Inv s st0 T n x.2:=by
 unfold gv;refine Ok.cond (fun _=>Ok.mk fun h=>absurd h (show ¬(2:Int)=0 from by decide)) fun h24=>?_
 have h24:¬(r.changes.length:Int)=24:=by simpa using h24
 have hl:=hI.chl;rw[hI.sch];refine Ok.bind (apply_one hb hI.st c) fun y hy=>Ok.cond (fun h=>Ok.mk fun h0=>absurd h0 (by simpa using h)) fun h=>?_
 obtain⟨h1,h2⟩:=hy (by simpa using h)
 rw[bI (by decide) (by simp;omega),bPs];refine Ok.mk fun _=>⟨rfl,hI.vals,hI.few,h1,va (fun _ _ _=>rfl) hI.ch (step_brk s) h2,by simp;omega,fun d hd=>?_,hI.res,hI.left⟩
 rcases List.mem_append.1 hd with hd|hd
 ·exact hI.tab d hd
 ·rw[List.mem_singleton.1 hd];exact hc
theorem rows_is(hb:BaseS s)(hI:Inv s st0 T n r)(hn:n<=100000){x:LS}(hg:GoodS s x)(hk:x.kind=5\/x.kind=6)(hT:x.table∈T):Ok (iL r x) fun y=>y.1=0->Inv s st0 T n y.2:=by
 unfold iL;have hw:=hg.write (by omega);rw[qS,bPs,hI.sch,show bg (fun a0=>gd a0 x) s.tables=bg (fun t:LTable=>t.name==x.table) s.tables from Z];have h0:=hw.tab
 obtain⟨t,ht,_⟩:=iT h0
 have hnames:=fun k5=>hw.names k5 t ht
 clear hw;generalize bg (fun t:LTable=>t.name==x.table) s.tables=z at h0 ht
 obtain⟨i,rfl⟩:∃i:Nat,z=(i:Int):=⟨z.toNat,by omega⟩
 rw[Int.toNat_natCast]at ht
 obtain⟨rel,hr,_,hlen⟩:=hI.st.at ht
 have hok:=hb.tabs t (eM ht);rw[ji ht,bPs,ji hr,bPs];refine Ok.bind (Ok.range (I:=fun _ r'=>Inv s st0 T n r') (B:=fun _=>False) (Q:=fun y=>y.1≠0) hI fun k row r1 hk1 hI1=>?_) fun fl hfl=>Ok.thenR hfl (fun r1 h1=>Ok.mk fun _=>(h1.resolve_right id).resolve_right id) fun y hy h=>absurd h hy
 have hrow:=hlen row (eM hk1);refine Ok.bind (Ok.get (by omega) (by have:=hg.shape.wher hk;omega)) fun e _=>?_
 obtain⟨v,hv⟩:=eval_is hI1 hn t.columns row e
 rw[hv,bPs];refine Ok.letP (Ok.cond (fun _=>Ok.mk hI1) fun _=>?_);refine Ok.bind (Ok.range (I:=fun j l=>l.length<=j) (B:=fun _=>False) (Q:=fun _=>True) (Nat.le_refl 0) fun j p l hj hl=>?_) fun fl hfl=>Ok.thenP hfl fun key _=>?_
 ·obtain⟨a,b⟩:=hok.pk p (eM hj)
  have hjl:=(zg.1 hj).1
  have:=hok.few
  refine Ok.bind (Ok.get a (by omega)) fun y _=>?_
  rw[bI (by decide) (by simp;omega),bPs];exact Ok.mk (show(l++[y]).length<=_ by simp;omega)
 refine Ok.bind (P:=fun q=>Inv s st0 T n q.1) ?_ fun y hy=>?_
 ·refine Ok.cond (fun h5=>?_) fun _=>Ok.mk hI1
  have k5:x.kind=5:=by simpa using h5
  refine Ok.bind (Ok.range (I:=fun _ q=>Inv s st0 T n q.1/\q.2.length=t.columns.length) (B:=fun _=>False) (Q:=fun _=>True) ⟨hI1,hrow⟩ fun j e q hj hq=>?_) fun fl hfl=>Ok.thenP hfl fun q hq=>Ok.mk ((hq.resolve_right id).resolve_right id).1
  rw[Nat.zero_add];have hn':j<x.names.length:=by rw[<-hg.shape.upd k5];exact(zg.1 hj).1
  have hix:bB t.columns (fun a0=>fZ a0 x (j:Int))=some (bg (fun a=>a.name==x.names[j]) t.columns):=idxF fun a _=>by
   unfold fZ;rw[fJ hn',bPs]
  have hi0:=hnames k5 x.names[j] (List.getElem_mem _)
  obtain⟨y,hy,_⟩:=iT hi0
  have hyl:=(zg.1 hy).1
  obtain⟨w,hw⟩:=eval_is hq.1 hn t.columns row e
  rw[hix,bPs,hw,bPs];refine Ok.bind (Ok.get hi0 (by have:=hq.2;omega)) fun _ _=>Ok.letP (Ok.mk ⟨hq.1,?_⟩)
  rw[List.length_set];exact hq.2
 ·exact Ok.bind (write_is hb hy hT) fun z hz=>Ok.cond (fun h=>Ok.mk (show z.1≠0 by simpa using h)) fun h=>Ok.mk (hz (by simpa using h))
end
theorem run_both:∀l:List LS,(∃N,∀n,N<=n->∀r,dI n r l=nT r l)/\(∃N,∀n,N<=n->∀r,dz n r l=L_procedure_run_inner r l)/\
  (∀r,nT r l=lz nT L_procedure_run_stmt L_procedure_run_inner L_procedure_run_ask r l)/\
  (∀r,L_procedure_run_inner r l=ll nT L_procedure_run_stmt L_procedure_run_inner L_procedure_run_ask r l)/\
  (∀s∈l,∀r,L_procedure_run_stmt r s=lq nT L_procedure_run_stmt L_procedure_run_inner L_procedure_run_ask r s)/\
  ∀s∈l,∀r,L_procedure_run_ask r s=lR nT L_procedure_run_stmt L_procedure_run_inner L_procedure_run_ask r s:=by
 refine rZ fun l ih=>?_
 have ask:∀s∈l,(∃N,∀n,N<=n->∀r,dZ n r s=L_procedure_run_ask r s)/\∀r,L_procedure_run_ask r s=lR nT L_procedure_run_stmt L_procedure_run_inner L_procedure_run_ask r s:=by
  intro s hs
  obtain⟨⟨⟨a,ha⟩,_⟩,_⟩:=ih s hs
  have key:∀n,a+1<=n->∀r,dZ n r s=lR nT L_procedure_run_stmt L_procedure_run_inner L_procedure_run_ask r s:=by
   intro n hn r
   obtain⟨n,rfl⟩:∃k,n=k+1:=⟨n-1,by omega⟩
   show lR (fun b0 b1=>dI n b0 b1) _ _ _ r s=_;have h1:∀r,dI n r s.body=nT r s.body:=fun r=>ha n (by omega) r
   simp only[lR,h1]
  have e:∀r,L_procedure_run_ask r s=_:=fun r=>qX _ (fun m hm=>key m hm r)
  exact⟨⟨a+1,fun n hn r=>by rw[key n hn,e]⟩,e⟩
 have stm:∀s∈l,(∃N,∀n,N<=n->∀r,dN n r s=L_procedure_run_stmt r s)/\∀r,L_procedure_run_stmt r s=lq nT L_procedure_run_stmt L_procedure_run_inner L_procedure_run_ask r s:=by
  intro s hs
  obtain⟨⟨_,⟨a,ha⟩,_⟩,⟨_,⟨b,hb⟩,_⟩⟩:=ih s hs
  obtain⟨⟨c,hc⟩,_⟩:=ask s hs
  have key:∀n,a+b+c+1<=n->∀r,dN n r s=lq nT L_procedure_run_stmt L_procedure_run_inner L_procedure_run_ask r s:=by
   intro n hn r
   obtain⟨n,rfl⟩:∃k,n=k+1:=⟨n-1,by omega⟩
   show lq _ _ (fun b0 b1=>dz n b0 b1) (fun b0 b1=>dZ n b0 b1) r s=_;have h1:∀r,dz n r s.body=L_procedure_run_inner r s.body:=fun r=>ha n (by omega) r
   have h2:∀r,dz n r s.elseF=L_procedure_run_inner r s.elseF:=fun r=>hb n (by omega) r
   have h3:∀r,dZ n r s=L_procedure_run_ask r s:=fun r=>hc n (by omega) r
   simp only[lq,h1,h2,h3]
  have e:∀r,L_procedure_run_stmt r s=_:=fun r=>qX _ (fun m hm=>key m hm r)
  exact⟨⟨a+b+c+1,fun n hn r=>by rw[key n hn,e]⟩,e⟩
 obtain⟨N,hN⟩:=qA (p:=fun(s:LS) n=>∀r,dN n r s=L_procedure_run_stmt r s) l (fun s h=>(stm s h).1)
 have key:∀n,N+1<=n->∀r,dI n r l=lz nT L_procedure_run_stmt L_procedure_run_inner L_procedure_run_ask r l:=by
  intro n hn r
  obtain⟨n,rfl⟩:∃k,n=k+1:=⟨n-1,by omega⟩
  show lz _ (fun b0 b1=>dN n b0 b1) _ _ r l=_;simp only[lz];congr 1
  exact jv l 0 _ fun k s t hk=>by
   have h1:=hN n (by omega) s (eM hk);simp only[h1]
 have e:∀r,nT r l=_:=fun r=>qX (N+1) (fun m hm=>key m hm r)
 have key2:∀n,N+2<=n->∀r,dz n r l=ll nT L_procedure_run_stmt L_procedure_run_inner L_procedure_run_ask r l:=by
  intro n hn r
  obtain⟨n,rfl⟩:∃k,n=k+1:=⟨n-1,by omega⟩
  show ll (fun b0 b1=>dI n b0 b1) _ _ _ r l=_;have h1:∀r,dI n r l=nT r l:=fun r=>by rw[key n (by omega),e]
  simp only[ll,h1]
 have e2:∀r,L_procedure_run_inner r l=_:=fun r=>qX (N+2) (fun m hm=>key2 m hm r)
 exact⟨⟨N+1,fun n hn r=>by rw[key n hn,e]⟩,⟨N+2,fun n hn r=>by rw[key2 n hn,e2]⟩,e,e2,fun s h=>(stm s h).2,fun s h=>(ask s h).2⟩
def flatS(l:List LS):List LS:=(l.attach.map fun s=>s.1::(flatS s.1.body++flatS s.1.elseF)).flatten
termination_by SizeOf.sizeOf l
decreasing_by
 ·exact(st_lt s.2).1
 ·exact(st_lt s.2).2
theorem flatS_eq(l:List LS):flatS l=(l.map fun s=>s::(flatS s.body++flatS s.elseF)).flatten:=by
 rw[flatS,List.attach_map_val (f:=fun s:LS=>s::(flatS s.body++flatS s.elseF))]
theorem flatS_mem{l:List LS}{s:LS}(h:s∈l):s∈flatS l/\(∀x∈flatS s.body,x∈flatS l)/\∀x∈flatS s.elseF,x∈flatS l:=by
 have key:∀x∈s::(flatS s.body++flatS s.elseF),x∈flatS l:=fun x hx=>by
  rw[flatS_eq l];exact List.mem_flatten.2 ⟨_,List.mem_map.2 ⟨s,h,rfl⟩,hx⟩
 exact⟨key s (by simp),fun x hx=>key x (by simp[hx]),fun x hx=>key x (by simp[hx])⟩
theorem cntS_len(l:List LS):l.length<=iB l:=by
 rw[ru];induction l with
 |nil=>simp
 |cons x l ih=>simp only[List.length_cons,List.map_cons,List.sum_cons];omega
theorem exprs_bulk{s:LS}(hb:bN (ax s)<=1048576):s.exprs.length<=1048576:=by
 rw[dQ]at hb;have h1:=nR expr_pos s.exprs;simp only[aC,bN,PV.bulk]at hb;omega
section
variable{s:LSchema}{st0:List LW}{T:Rs}{n:Nat}{r:LR}{x:LS}
theorem ask_is(hb:BaseS s)(hI:Inv s st0 T n r)(hg:GoodS s x)(hbk:bN (ax x)<=1048576)(hk:x.kind=3\/x.kind=7)(hn:n+21*(1+iB x.body)<=10000)
  (hbody:x.kind=3->∀m q,m+21*iB x.body<=10000->Inv s st0 T m q->Ok (nT q x.body) fun y=>y.1=0->Inv s st0 T (m+x.body.length) y.2):
  Ok (lR nT L_procedure_run_stmt L_procedure_run_inner L_procedure_run_ask r x) fun y=>y.1=0->Inv s st0 T n y.2:=by
 unfold lR
 obtain⟨q,hq⟩:=Tot.get (xs:=x.query) (i:=0) (by omega) (by have:=hg.shape.query hk;omega)
 have hqm:q∈x.query:=eM (gIs hq).2;have ht:=query_bulk hbk hqm;have hv:=hI.few
 obtain⟨res,e,hw,hres⟩:=within_tot hb.small r.st ht.small r.args r.vals (vars:=r.vars) (by omega)
 rw[hq,bPs,hI.sch,hw,bPs];refine Ok.cond (fun h=>Ok.mk fun h0=>absurd h0 (by simpa using h)) fun he=>?_
 obtain⟨hc20,_,hrows⟩:=hres (by simpa using he)
 refine Ok.cond (fun _=>Ok.cond (fun _=>Ok.mk fun h=>absurd h (show ¬(2:Int)=0 from by decide)) fun h8=>?_) fun h7=>?_
 ·have h8:¬(r.results.length:Int)=8:=by simpa using h8
  have:=hI.res
  rw[bI (by decide) (by simp;omega),bPs];exact Ok.mk fun _=>⟨rfl,hI.vals,hI.few,hI.st,hI.ch,hI.chl,hI.tab,by simp;omega,hI.left⟩
 ·have k3:x.kind=3:=by
   have:¬x.kind=7:=by simpa using h7
   omega
  have hbl:=cntS_len x.body;refine Ok.bind (Ok.range (I:=fun _ q=>Inv s st0 T (n+20+x.body.length) q) (B:=fun q=>Inv s st0 T (n+20+x.body.length) q) (Q:=fun y=>y.1≠0) (hI.mono (by omega)) fun k row q hk hIq=>?_) fun fl hfl=>Ok.thenR hfl (fun q h1=>Ok.mk fun _=>?_) fun y hy h=>absurd h hy
  ·refine Ok.cond (fun _=>Ok.mk hIq) fun _=>?_
   have hrow:=hrows row (eM hk);refine Ok.bind (Ok.range (I:=fun j q=>Inv s st0 T (n+j) q) (B:=fun _=>False) (Q:=fun _=>True) (hI.vars hIq) fun j c q2 hj hI2=>?_) fun fl hfl=>Ok.thenP hfl fun q2 h2=>?_
   ·have hjl:j<res.columns.length:=(zg.1 hj).1;simp only[Nat.zero_add]at hI2⊢;rw[fJ (by omega),bPs];exact Ok.bind (set_is hI2 (by omega) c _) fun q3 h3=>Ok.mk h3
   ·have h2:Inv s st0 T (n+(0+res.columns.length)) q2:=(h2.resolve_right id).resolve_right id;refine Ok.bind (hbody k3 (n+20) q2 (by omega) (h2.mono (by omega))) fun y hy=>Ok.cond (fun h=>Ok.mk (show y.1≠0 by simpa using h)) fun h=>Ok.mk (hy (by simpa using h))
  ·have h1:Inv s st0 T (n+20+x.body.length) q:=by rcases h1 with(h|h)|h;exact h;exact h;exact h.elim
   exact hI.vars h1
theorem inner_is{l:List LS}(hI:Inv s st0 T n r){m:Nat}(h:Ok (nT r l) fun y=>y.1=0->Inv s st0 T m y.2):Ok (L_procedure_run_inner r l) fun y=>y.1=0->Inv s st0 T n y.2:=by
 rw[(run_both l).2.2.2.1 r];unfold ll;exact Ok.bind h fun y hy=>Ok.mk fun h0=>hI.vars (hy h0)
theorem stmt_is(hb:BaseS s)(hI:Inv s st0 T n r)(hg:GoodS s x)(hbk:bN (ax x)<=1048576)(hn:n+21*(1+iB x.body+iB x.elseF)<=10000)(hT:x.kind=4\/x.kind=5\/x.kind=6->x.table∈T)
  (hask:∀q,L_procedure_run_ask q x=lR nT L_procedure_run_stmt L_procedure_run_inner L_procedure_run_ask q x)
  (hbody:x.kind=2\/x.kind=3->∀m q,m+21*iB x.body<=10000->Inv s st0 T m q->Ok (nT q x.body) fun y=>y.1=0->Inv s st0 T (m+x.body.length) y.2)
  (helse:x.kind=2->∀m q,m+21*iB x.elseF<=10000->Inv s st0 T m q->Ok (nT q x.elseF) fun y=>y.1=0->Inv s st0 T (m+x.elseF.length) y.2):
  Ok (lq nT L_procedure_run_stmt L_procedure_run_inner L_procedure_run_ask r x) fun y=>y.1=0->Inv s st0 T (n+1) y.2:=by
 unfold lq;have up:∀{q},Inv s st0 T n q->Inv s st0 T (n+1) q:=fun h=>h.mono (by omega)
 by_cases k1:x.kind=1
 ·rw[lO k1,zc]
  obtain⟨e,he⟩:=Tot.get (xs:=x.exprs) (i:=0) (by omega) (by have:=hg.shape.one (.inl k1);omega)
  obtain⟨v,hv⟩:=eval_is hI (by omega) ([]:List LCol) ([]:Rq) e
  rw[he,bPs,bM,bPs,hv,bPs];exact Ok.bind (set_is hI (by omega) _ _) fun q hq=>Ok.mk fun _=>hq
 rw[dt k1,zd];by_cases k2:x.kind=2
 ·rw[lO k2,zc]
  obtain⟨e,he⟩:=Tot.get (xs:=x.exprs) (i:=0) (by omega) (by have:=hg.shape.one (.inr k2);omega)
  obtain⟨v,hv⟩:=eval_is hI (by omega) ([]:List LCol) ([]:Rq) e
  rw[he,bPs,hv,bPs];refine Ok.letP (Ok.cond (fun _=>?_) fun _=>?_)
  ·exact Ok.bind (inner_is hI (hbody (.inl k2) n r (by omega) hI)) fun y hy=>Ok.mk fun h=>up (hy h)
  ·exact Ok.bind (inner_is hI (helse k2 n r (by omega) hI)) fun y hy=>Ok.mk fun h=>up (hy h)
 rw[dt k2,zd,bM];by_cases k3:x.kind=3\/x.kind=7
 ·have e3:(cond (x.kind==(3:Int)) (x.kind==(3:Int)) (x.kind==(7:Int)))=true:=by rcases k3 with k|k<;>rw[k]<;>rfl
  rw[e3,zc,hask];exact Ok.bind (ask_is hb hI hg hbk k3 (by omega) fun k=>hbody (.inr k)) fun y hy=>Ok.mk fun h=>up (hy h)
 have e3:(cond (x.kind==(3:Int)) (x.kind==(3:Int)) (x.kind==(7:Int)))=false:=by rw[dt (fun e=>k3 (.inl e)),zd,dt (fun e=>k3 (.inr e))]
 rw[e3,zd];by_cases k4:x.kind=4
 ·rw[lO k4,zc];have hxl:=exprs_bulk hbk;refine Ok.bind (Ok.range (I:=fun j q=>q.1.length<=j/\Inv s st0 T n q.2) (B:=fun _=>False) (Q:=fun _=>True) ⟨Nat.le_refl 0,hI⟩ fun j e q hj hq=>?_) fun fl hfl=>Ok.thenP hfl fun q hq=>?_
  ·have hjl:=(zg.1 hj).1
   obtain⟨v,hv⟩:=eval_is hq.2 (by omega) ([]:List LCol) ([]:Rq) e
   have:=hq.1
   rw[hv,bPs,bI (by decide) (by simp;omega),bPs];exact Ok.mk ⟨by simp;omega,hq.2⟩
  ·have hq:=((hq.resolve_right id).resolve_right id).2;exact Ok.bind (write_is hb hq (hT (.inl k4))) fun y hy=>Ok.mk fun h=>up (hy h)
 rw[dt k4,zd,bM];by_cases k5:x.kind=5\/x.kind=6
 ·have e5:(cond (x.kind==(5:Int)) (x.kind==(5:Int)) (x.kind==(6:Int)))=true:=by rcases k5 with k|k<;>rw[k]<;>rfl
  rw[e5,zc];exact Ok.bind (rows_is hb hI (by omega) hg k5 (hT (.inr k5))) fun y hy=>Ok.mk fun h=>up (hy h)
 have e5:(cond (x.kind==(5:Int)) (x.kind==(5:Int)) (x.kind==(6:Int)))=false:=by rw[dt (fun e=>k5 (.inl e)),zd,dt (fun e=>k5 (.inr e))]
 rw[e5,zd];refine Ok.cond (fun h8=>?_) fun _=>Ok.cond (fun _=>Ok.mk fun _=>?_) fun _=>Ok.mk fun _=>up hI
 ·have hc:=hg.shape.code (by simpa using h8);refine Ok.letP (Ok.mk fun h=>?_);have h:iW x.code=0:=h;unfold iW at h;rw[wW (by omega) (by omega)]at h;omega
 ·exact⟨hI.sch,hI.vals,Nat.le_succ_of_le hI.few,hI.st,hI.ch,hI.chl,hI.tab,hI.res,hI.left⟩
theorem run_is(hb:BaseS s):∀l:List LS,(∀x∈l,bN (ax x)<=1048576)->GoodL s l->(∀x∈flatS l,x.kind=4\/x.kind=5\/x.kind=6->x.table∈T)->
  ∀n r,n+21*iB l<=10000->Inv s st0 T n r->Ok (nT r l) fun y=>y.1=0->Inv s st0 T (n+l.length) y.2:=by
 refine rZ fun l ih hbk hg hT n r hn hI=>?_
 rw[(run_both l).2.2.1 r];unfold lz;refine Ok.bind (Ok.range (I:=fun j q=>Inv s st0 T (n+j) q) (B:=fun _=>False) (Q:=fun y=>y.1=0->Inv s st0 T (n+l.length) y.2) hI fun k x q hk hIq=>?_) fun fl hfl=>Ok.thenR hfl (fun q h1=>Ok.mk fun _=>?_) fun y hy=>hy
 ·have hkl:=(zg.1 hk).1;have hx:=eM hk;have hcl:=cntS_len l;simp only[Nat.zero_add]at hIq⊢;have hlf:=hIq.left;refine Ok.cond (fun _=>Ok.mk fun _=>hIq.mono (by omega)) fun _=>?_
  rw[wW (by omega) (by omega)];refine Ok.cond (fun _=>Ok.mk fun h=>absurd h (show ¬(2:Int)=0 from by decide)) fun hneg=>?_
  have hneg:¬q.left-1<0:=by simpa using hneg
  have hI2:Inv s st0 T (n+k) (LR.mk q.s q.st q.args q.vars q.vals q.changes q.results (q.left-1) q.stopped):=
   ⟨hIq.sch,hIq.vals,hIq.few,hIq.st,hIq.ch,hIq.chl,hIq.tab,hIq.res,by show 0<=q.left-1/\q.left-1<=400;omega⟩
  have hm:=cntS_mem hx
  obtain⟨c1,c2⟩:=cntS_take hk
  have hkc:k<=iB (l.take k):=by have:=cntS_len (l.take k);rw[List.length_take]at this;omega
  obtain⟨f1,f2,f3⟩:=flatS_mem hx
  have hgx:=hg.at x hx;rw[(run_both l).2.2.2.2.1 x hx];refine Ok.bind (stmt_is hb hI2 hgx (hbk x hx) (by omega) (hT x f1) ((run_both l).2.2.2.2.2 x hx) (fun hk2 m q hm hq=>?_) fun hk2 m q hm hq=>?_) fun y hy=>Ok.cond (fun h=>Ok.mk fun h0=>absurd h0 (by simpa using h)) fun h=>Ok.mk (hy (by simpa using h))
  ·refine(ih x hx).1 (fun y hy=>body_bulk (hbk x hx) (.inl hy)) ?_ (fun y hy=>hT y (f2 y hy)) m q hm hq
   rcases hk2 with h|h
   ·exact hgx.yes h
   ·exact hgx.each h
  ·exact(ih x hx).2 (fun y hy=>body_bulk (hbk x hx) (.inr hy)) (hgx.no hk2) (fun y hy=>hT y (f3 y hy)) m q hm hq
 ·have h1:=(h1.resolve_right id).resolve_right id;rw[Nat.zero_add]at h1;exact h1
end
theorem cntS_app(a b:List LS):iB (a++b)=iB a+iB b:=by
 rw[ru,ru a,ru b];simp
theorem cnt_bulk:∀l:List LS,2*iB l<=gR (l.map ax):=by
 refine rZ fun l ih=>?_
 rw[ru]
 have key:∀m:List LS,(∀x∈m,x∈l)->2*(m.map fun s=>1+iB s.body+iB s.elseF).sum<=gR (m.map ax):=by
  intro m;induction m with
  |nil=>intro _;simp[gR]
  |cons x m ihm=>
   intro hm;have h0:=ihm fun y hy=>hm y (by simp[hy])
   obtain⟨h1,h2⟩:=ih x (hm x (by simp))
   have h3:2+gR (x.body.map ax)+gR (x.elseF.map ax)<=bN (ax x):=by
    rw[dQ];simp only[aC,bN,PV.bulk];omega
   simp only[List.map_cons,List.sum_cons,gR];omega
 exact key l fun _ h=>h
structure qq(s:LSchema)(st:List LW)(p:LP):Prop where
 base:BaseS s
 inst:InstOk s st
 conf:eH s st=some 0
 check:kS s p=some 0
 good:GoodL s p.body
 cnt:iB p.body<=40
theorem check_is{s:LSchema}{p:LP}(hbb:∀x∈p.body,bN (ax x)<=1048576)(hc:iB p.body<=1000000):Ok (kS s p) fun e=>e=0->GoodL s p.body/\iB p.body<=40:=by
 obtain⟨fl,hs,hl⟩:=stmts_ok p.body hc
 unfold kS;refine Ok.bind (P:=fun b=>b=false->iB p.body<=40) ?_ fun b h40=>Ok.cond (fun _=>Ok.mk fun h=>absurd h (show ¬(2:Int)=0 from by decide)) fun hf=>?_
 ·rw[hs,bPs];refine Ok.cond (fun _=>Ok.mk fun h=>by cases h) fun h=>Ok.bind (Ok.tot (depth_tot p.body)) fun _ _=>Ok.cond (fun _=>Ok.mk fun h=>by cases h) fun _=>Ok.mk fun _=>?_
  have:¬(fl.length:Int)>40:=by simpa using h
  omega
 ·have h40:=h40 hf;refine Ok.bind (Ok.range (I:=fun _ _=>True) (B:=fun _=>False) (Q:=fun r=>r≠0) trivial fun k x u hk _=>?_) fun fl hfl=>Ok.thenR hfl (fun u _=>?_) fun r hr h=>absurd h hr
  ·exact Ok.cond (fun _=>Ok.mk (show(1:Int)≠0 from by decide)) fun _=>Ok.cond (fun _=>Ok.mk (show(1:Int)≠0 from by decide)) fun _=>Ok.mk trivial
  ·refine Ok.bind (body_ok (LC.mk s p.parameters) p.body hbb [] (by simp;omega)) fun y hy=>Ok.mk fun h=>⟨hy h,h40⟩
theorem callable_is{s:LSchema}(hs:SmallS s)(st:List LW){p:LP}(hbb:∀x∈p.body,bN (ax x)<=1048576)(hc:iB p.body<=1000000):Ok (jN s st p) fun b=>b=true->qq s st p:=by
 unfold jN
 obtain⟨fl,hfl,_⟩:=stmts_ok p.body hc
 obtain⟨v,hv,hvok⟩:=validate_inv (s:=s) fun t ht=>by have:=hs t ht;omega
 obtain⟨f,hf,hfok⟩:=conforms hs st
 obtain⟨e,he,hck⟩:=check_is (s:=s) hbb hc
 rw[hfl,bPs];refine Ok.cond (fun _=>?_) fun _=>Ok.mk fun h=>by cases h
 rw[hv,bPs];refine Ok.cond (fun v0=>?_) fun _=>Ok.mk fun h=>by cases h
 rw[hf,bPs];refine Ok.cond (fun f0=>?_) fun _=>Ok.mk fun h=>by cases h
 rw[he,bPs];refine Ok.mk fun e0=>?_
 have v0:v=0:=by simpa using v0
 have f0:f=0:=by simpa using f0
 have e0:e=0:=by simpa using e0
 obtain⟨h6,ht⟩:=hvok v0
 exact⟨⟨by rw[hv,v0],h6,ht⟩,hfok f0,by rw[hf,f0],by rw[he,e0],(hck e0).1,(hck e0).2⟩
def run0(s:LSchema)(st:List LW)(a:Rq):LR:=LR.mk s st a [] [] [] [] 400 false
def allT(l:List LS):Rs:=(flatS l).map LS.table
theorem body0{s:LSchema}{st:List LW}{p:LP}(h:qq s st p)(hbb:∀x∈p.body,bN (ax x)<=1048576)(a:Rq):
  Ok (nT (run0 s st a) p.body) fun y=>y.1=0->∃n,Inv s st (allT p.body) n y.2:=
 (run_is h.base p.body hbb h.good (T:=allT p.body) (fun x hx _=>List.mem_map_of_mem hx) 0 (run0 s st a) (by have:=h.cnt;omega) ⟨rfl,rfl,Nat.le_refl 0,h.inst.lens,rfl,by simp[run0],by simp[run0],by simp[run0],by simp[run0]⟩).mono fun y hy h0=>⟨_,hy h0⟩
theorem Run_is{s:LSchema}{st:List LW}{p:LP}(h:qq s st p)(args:Rq):
  (∃e,lX s st p args=some ([],[],e)/\e≠0)\/(∃a,lX s st p args=af (nT (run0 s st a) p.body) fun x80=>cond (x80.1 !=(0:Int)) (some ([],[],x80.1)) (some (x80.2.changes,x80.2.results,0))):=by
 unfold lX;rw[h.check,bPs,pB Z,zd];by_cases hl:(args.length:Int)<p.parameters.length
 ·rw[zt hl];exact .inl ⟨1,rfl,by decide⟩
 rw[zf hl,zd]
 obtain⟨fl,hfl,hq⟩:=Ok.range (step:=fun(j1:Nat) (x1:Int) (_:Unit)=>
    af (aP args (j1:Int)) fun(x39:LVal)=>
    letP (kX x39) fun x41=>
    cond (!x41)
     (some (.ret ([],[],7)))
     (af (aP args (j1:Int)) fun(x46:LVal)=>
     cond (x46.kind !=x1)
      (af (aP args (j1:Int)) fun(x54:LVal)=>
      cond (x54.kind !=(0:Int))
       (some (.ret ([],[],7)))
       (some (.next ())))
      (some (.next ())))) (I:=fun _ _=>True) (B:=fun _=>False) (Q:=fun y=>y=(([]:List LChange),([]:List LResult),(7:Int))) (xs:=p.parameters) (j:=0) (s:=()) trivial (fun k x u hk _=>by
   have hkl:=(zg.1 hk).1;rw[Nat.zero_add,fJ (by omega)];simp only[bPs];exact Ok.letP (Ok.cond (fun _=>Ok.mk Z) fun _=>Ok.cond (fun _=>Ok.cond (fun _=>Ok.mk Z) fun _=>Ok.mk trivial) fun _=>Ok.mk trivial))
 rw[hfl,bPs];cases fl with
 |brk u=>exact hq.elim
 |ret r=>
  have hq:r=([],[],7):=hq;rw[hq];exact .inl ⟨7,rfl,by decide⟩
 |next u=>
  refine .inr ⟨(args.take (p.parameters.length:Int).toNat).drop (0:Int).toNat,?_⟩;rw[jR,h.conf,bPs,pB Z,zd,rx ⟨by omega,by omega,by omega⟩,bPs];rfl
theorem eqRow_self(x:Rq):cf x x=some true:=by
 unfold cf
 rw[pB Z,zd,rMa (s:=()) (fun _=>()) Z (fun k v hk=>by
  rw[ji hk,bPs];simp),bPs,jR]
theorem sameChange_self(x:LChange):jq x x=some true:=by
 unfold jq;rw[beq_self_eq_true,zc,beq_self_eq_true,zc,eqRow_self,bPs,zc,eqRow_self,bPs]
theorem sameRows_self(x:Rows):lw x x=some true:=by
 unfold lw ee jr
 rw[pB Z,zd,rMa (s:=()) (fun _=>()) Z (fun k v hk=>by
  rw[ji hk,bPs];dsimp only;rw[eqRow_self,bPs,bPs];rfl),bPs,jR,bPs]
theorem eqChanges_self(x:List LChange):cU x x (fun a0 a1=>jq a0 a1)=some true:=by
 unfold cU
 rw[pB Z,zd,rMa (s:=()) (fun _=>()) Z (fun k v hk=>by
  rw[ji hk,bPs];dsimp only;rw[sameChange_self,bPs];rfl),bPs,jR]
def bodyStep(_:Nat)(x1:LS)(s1:LR):Option (Flow LR (Int×LR)):=
 cond s1.stopped
  (some (.ret (0,s1)))
  (cond (decide ((Iw (s1.left-(1:Int)))<(0:Int)))
   (some (.ret (2,(LR.mk s1.s s1.st s1.args s1.vars s1.vals s1.changes s1.results (Iw (s1.left-(1:Int))) s1.stopped))))
   (af (L_procedure_run_stmt (LR.mk s1.s s1.st s1.args s1.vars s1.vals s1.changes s1.results (Iw (s1.left-(1:Int))) s1.stopped) x1) fun x32=>
   cond (x32.1 !=(0:Int))
    (some (.ret (x32.1,x32.2)))
    (some (.next x32.2))))
theorem body_steps(r:LR)(l:List LS):nT r l=af (aN bodyStep 0 l r) fun fl1=>fl1.thenR fun(s1:LR)=>some (0,s1):=(run_both l).2.2.1 r
def retS:LS:=LS.mk 9 0 [] [] [] [] [] [] [] []
theorem ret_step(j:Nat)(r:LR):(∃y,bodyStep j retS r=some (.ret y))\/∃q,bodyStep j retS r=some (.next q)/\q.stopped=true:=by
 have h:∀q,L_procedure_run_stmt q retS=some (0,LR.mk q.s q.st q.args q.vars q.vals q.changes q.results q.left true):=fun q=>by
  rw[(run_both [retS]).2.2.2.2.1 retS (by simp)];rfl
 unfold bodyStep;cases hs:r.stopped with
 |true=>exact .inl ⟨_,rfl⟩
 |false=>
  rw[zd];cases decide ((Iw (r.left-(1:Int)))<(0:Int))with
  |true=>exact .inl ⟨_,rfl⟩
  |false=>
   rw[zd,h,bPs];exact .inr ⟨_,rfl,rfl⟩
theorem stop_loop(rest:List LS):∀(l:List LS) (j:Nat) (r:LR) (fl:Flow LR (Int×LR)),aN bodyStep j (l++[retS]) r=some fl->
  ∃fl',aN bodyStep j (l++[retS]++rest) r=some fl'/\(fl'.thenR fun(s1:LR)=>some ((0:Int),s1))=fl.thenR fun(s1:LR)=>some ((0:Int),s1)
 |[],j,r,fl,h=>by
  rw[List.nil_append]at h⊢;rw[List.cons_append,List.nil_append];rcases ret_step j r with⟨y,hy⟩|⟨q,hq,hst⟩
  ·simp only[aN,hy,zo]at h⊢
   exact⟨_,rfl,by rw[<-h]⟩
  ·simp only[aN,hq,zo]at h⊢;cases rest with
   |nil=>exact⟨_,rfl,by rw[<-h]⟩
   |cons y ys=>
    have h2:bodyStep (j+1) y q=some (.ret (0,q)):=by
     unfold bodyStep;rw[hst];rfl
    simp only[aN,h2]
    exact⟨_,rfl,by rw[<-h];rfl⟩
 |x::l,j,r,fl,h=>by
  rw[List.cons_append]at h;rw[List.cons_append,List.cons_append];simp only[aN]at h⊢;cases hx:bodyStep j x r with
  |none=>rw[hx]at h;cases h
  |some f=>
   rw[hx]at h;cases f with
   |next q=>exact stop_loop rest l (j+1) q fl h
   |brk q=>exact⟨fl,h,rfl⟩
   |ret y=>exact⟨fl,h,rfl⟩
theorem body_stop{r:LR}{l rest:List LS}{v:Int×LR}(h:nT r (l++[retS])=some v):nT r (l++[retS]++rest)=some v:=by
 rw[body_steps]at h⊢
 obtain⟨fl,h1,h2⟩:=aq h
 obtain⟨fl',h3,h4⟩:=stop_loop rest l 0 r fl h1
 rw[h3,bPs,h4,h2]
theorem concat2S{a b:List LS}(h:a.length+b.length<=1100000):dF [a,b]=some (a++b):=by
 unfold dF;simp only[aN];rw[wW (n:=0+(a.length:Int)) (by omega) (by omega),zf (by omega),zd];dsimp only;rw[wW (n:=0+(a.length:Int)+(b.length:Int)) (by omega) (by omega),zf (by omega),zd];dsimp only;rw[bPs,cI,growI_ok ⟨by omega,by omega,by unfold maxLen;omega⟩,bPs,bI (by decide) (by simp;omega),bPs];dsimp only;rw[bI (by decide) (by simp;omega),bPs];dsimp only;rw[bPs,cI,List.nil_append]
theorem ret_bulk:bN (ax retS)<=1048576:=by
 rw[dQ];simp[retS,aC,bN,PV.bulk,gR,LS.name,LS.table,LS.names,LS.exprs,LS.whereF,LS.query,LS.body,LS.elseF]
theorem returnEnds_law{s:LSchema}(hs:SmallS s)(st:List LW){p:LP}{rest:List LS}(hbs:gR (p.body.map ax)+gR (rest.map ax)<=1048576)(args:Rq):
  kt s st p rest args=some true:=by
 suffices Ok (kt s st p rest args) fun b=>b=true by
  obtain⟨b,e,rfl⟩:=this
  exact e
 unfold kt;have hb:gR (p.body.map ax)<=1048576:=by omega
 have hb2:gR (rest.map ax)<=1048576:=by omega
 have hc1:=cnt_bulk p.body;have hc2:=cnt_bulk rest;have hl1:=cntS_len p.body;have hl2:=cntS_len rest
 have hcr:iB [retS]=1:=by
  have e0:iB []=0:=by rw[ru];rfl
  rw[ru,show([retS].map fun s=>1+iB s.body+iB s.elseF)=[1+iB []+iB []]from Z,e0];rfl
 have hm1:∀x∈p.body++[retS],bN (ax x)<=1048576:=fun x hx=>by
  rcases List.mem_append.1 hx with h|h
  ·exact Nat.le_trans (lc (List.mem_map_of_mem h)) hb
  ·rw[List.mem_singleton.1 h];exact ret_bulk
 have hm2:∀x∈p.body++[retS]++rest,bN (ax x)<=1048576:=fun x hx=>by
  rcases List.mem_append.1 hx with h|h
  ·exact hm1 x h
  ·exact Nat.le_trans (lc (List.mem_map_of_mem h)) hb2
 rw[bM,show(!sampleV)=false from Z,zd,show(LS.mk 9 0 [] [] [] [] [] [] [] [])=retS from Z,bI (by decide) (by simp;omega),bPs,concat2S (by simp;omega),bPs];refine Ok.bind (P:=fun b=>b=false->qq s st ⟨p.parameters,p.body++[retS]⟩/\qq s st ⟨p.parameters,p.body++[retS]++rest⟩) ?_ fun b hbt=>Ok.cond (fun _=>Ok.mk Z) fun hf=>?_
 ·refine Ok.cond (fun _=>Ok.mk fun h=>by cases h) fun _=>?_
  refine Ok.bind (callable_is hs st (p:=⟨p.parameters,p.body++[retS]⟩) hm1 (by rw[cntS_app,hcr];omega)) fun b hb1=>Ok.cond (fun _=>Ok.mk fun h=>by cases h) fun h1=>?_
  refine Ok.bind (callable_is hs st (p:=⟨p.parameters,p.body++[retS]++rest⟩) hm2 (by rw[cntS_app,cntS_app,hcr];omega)) fun b hb2=>Ok.cond (fun _=>Ok.mk fun h=>by cases h) fun h2=>Ok.mk fun _=>⟨hb1 (by simpa using h1),hb2 (by simpa using h2)⟩
 obtain⟨q1,q2⟩:=hbt hf
 have hE:∀a,nT (run0 s st a) (p.body++[retS]++rest)=nT (run0 s st a) (p.body++[retS]):=fun a=>by
  obtain⟨v,hv,_⟩:=body0 q1 hm1 a
  rw[hv,body_stop hv]
 have hR:lX s st ⟨p.parameters,p.body++[retS]++rest⟩ args=lX s st ⟨p.parameters,p.body++[retS]⟩ args:=by
  unfold lX;rw[q1.check,q2.check];unfold run0 at hE;simp only[hE]
 have hT:Ok (lX s st ⟨p.parameters,p.body++[retS]⟩ args) fun _=>True:=by
  rcases Run_is q1 args with⟨e,he,_⟩|⟨a,ha⟩
  ·rw[he];exact Ok.mk trivial
  ·rw[ha];exact Ok.bind (body0 q1 hm1 a) fun y _=>Ok.cond (fun _=>Ok.mk trivial) fun _=>Ok.mk trivial
 rw[hR]
 obtain⟨y,hy,_⟩:=hT
 rw[hy,bPs,bPs,beq_self_eq_true,zc,eqChanges_self,bPs,zc];unfold cA
 rw[pB Z,zd,rMa (s:=()) (fun _=>()) Z (fun k v hk=>by
  rw[ji hk,bPs];unfold fF;dsimp only;rw[sameRows_self,bPs,bPs];rfl),bPs,jR,bPs]
 exact Ok.mk Z
theorem own_knob:ownKnob prog.godebug=none:=by kernel_rfl
theorem laid_out:laidOutB prog=true:=by kernel_rfl
def lawTypes:List TypeId:=[26,22,95,9,61,93,3,4,29,23,145,24,151,69,28,86,62,54,32,30,40,36,37,71,38,76,73,210,74,53]
theorem lawTypes_ok:lawTypes.all (okT prog lawTypes)=true:=by kernel_rfl
theorem lawTypes_info:∀t∈lawTypes,∃i,prog.info? t=some i/\i.bytes=prog.bytesOf t/\i.size=prog.cellsOf t:=infos_of (by kernel_rfl)
theorem sh9{n:Nat}{pvs:List PV}(h:Sh prog n 9 pvs):∃v:Rb,pvs=[.str v]:=by
 cases n with
 |zero=>simp[Sh]at h
 |succ n=>simp only[Sh,underlying9]at h;obtain⟨m,rfl,_⟩:=h;exact⟨m,rfl⟩
theorem sh3{n:Nat}{pvs:List PV}(h:Sh prog n 3 pvs):∃v:Int,pvs=[al v]:=by
 cases n with
 |zero=>simp[Sh]at h
 |succ n=>simp only[Sh,underlying3]at h;obtain⟨m,rfl,_⟩:=h;exact⟨m,rfl⟩
theorem sh4{n:Nat}{pvs:List PV}(h:Sh prog n 4 pvs):∃v:Bool,pvs=[aK v]:=by
 cases n with
 |zero=>simp[Sh]at h
 |succ n=>simp only[Sh,underlying4]at h;obtain⟨m,rfl⟩:=h;exact⟨m,rfl⟩
theorem sh93{n:Nat}{pvs:List PV}(h:Sh prog n 93 pvs):∃v:LCol,pvs=ay v:=by
 cases n with
 |zero=>simp[Sh]at h
 |succ n=>
  simp only[Sh,underlying93,List.map_cons,List.map_nil,mE]at h
  obtain⟨p0,r0,rfl,h0,p1,r1,rfl,h1,p2,r2,rfl,h2,rfl⟩:=h
  obtain⟨v0,rfl⟩:=sh9 h0
  obtain⟨v1,rfl⟩:=sh3 h1
  obtain⟨v2,rfl⟩:=sh4 h2
  exact⟨LCol.mk v0 v1 v2,rfl⟩
theorem sh61{n:Nat}{pvs:List PV}(h:Sh prog n 61 pvs):∃v:List LCol,pvs=[.list 93 (v.map ay)]:=by
 cases n with
 |zero=>simp[Sh]at h
 |succ n=>
  simp only[Sh,underlying61]at h
  obtain⟨rows,rfl,hr⟩:=h
  obtain⟨xs,rfl⟩:=rowsOf (f:=ay) (fun r hq=>sh93 (hr r hq))
  exact⟨xs,rfl⟩
theorem sh29{n:Nat}{pvs:List PV}(h:Sh prog n 29 pvs):∃v:List Int,pvs=[.list 3 (v.map bQ)]:=by
 cases n with
 |zero=>simp[Sh]at h
 |succ n=>
  simp only[Sh,underlying29]at h
  obtain⟨rows,rfl,hr⟩:=h
  obtain⟨xs,rfl⟩:=rowsOf (f:=bQ) (fun r hq=>let⟨v,e⟩:=sh3 (hr r hq);⟨v,e⟩)
  exact⟨xs,rfl⟩
theorem sh95{n:Nat}{pvs:List PV}(h:Sh prog n 95 pvs):∃v:LTable,pvs=bv v:=by
 cases n with
 |zero=>simp[Sh]at h
 |succ n=>
  simp only[Sh,underlying95,List.map_cons,List.map_nil,mE]at h
  obtain⟨p0,r0,rfl,h0,p1,r1,rfl,h1,p2,r2,rfl,h2,rfl⟩:=h
  obtain⟨v0,rfl⟩:=sh9 h0
  obtain⟨v1,rfl⟩:=sh61 h1
  obtain⟨v2,rfl⟩:=sh29 h2
  exact⟨LTable.mk v0 v1 v2,rfl⟩
theorem sh22{n:Nat}{pvs:List PV}(h:Sh prog n 22 pvs):∃v:List LTable,pvs=[.list 95 (v.map bv)]:=by
 cases n with
 |zero=>simp[Sh]at h
 |succ n=>
  simp only[Sh,underlying22]at h
  obtain⟨rows,rfl,hr⟩:=h
  obtain⟨xs,rfl⟩:=rowsOf (f:=bv) (fun r hq=>sh95 (hr r hq))
  exact⟨xs,rfl⟩
theorem sh145{n:Nat}{pvs:List PV}(h:Sh prog n 145 pvs):∃v:LF,pvs=gM v:=by
 cases n with
 |zero=>simp[Sh]at h
 |succ n=>
  simp only[Sh,underlying145,List.map_cons,List.map_nil,mE]at h
  obtain⟨p0,r0,rfl,h0,p1,r1,rfl,h1,p2,r2,rfl,h2,rfl⟩:=h
  obtain⟨v0,rfl⟩:=sh9 h0
  obtain⟨v1,rfl⟩:=sh29 h1
  obtain⟨v2,rfl⟩:=sh9 h2
  exact⟨LF.mk v0 v1 v2,rfl⟩
theorem sh23{n:Nat}{pvs:List PV}(h:Sh prog n 23 pvs):∃v:List LF,pvs=[.list 145 (v.map gM)]:=by
 cases n with
 |zero=>simp[Sh]at h
 |succ n=>
  simp only[Sh,underlying23]at h
  obtain⟨rows,rfl,hr⟩:=h
  obtain⟨xs,rfl⟩:=rowsOf (f:=gM) (fun r hq=>sh145 (hr r hq))
  exact⟨xs,rfl⟩
theorem sh69{n:Nat}{pvs:List PV}(h:Sh prog n 69 pvs):∃v:LVal,pvs=ae v:=by
 cases n with
 |zero=>simp[Sh]at h
 |succ n=>
  simp only[Sh,underlying69,List.map_cons,List.map_nil,mE]at h
  obtain⟨p0,r0,rfl,h0,p1,r1,rfl,h1,p2,r2,rfl,h2,rfl⟩:=h
  obtain⟨v0,rfl⟩:=sh3 h0
  obtain⟨v1,rfl⟩:=sh3 h1
  obtain⟨v2,rfl⟩:=sh9 h2
  exact⟨LVal.mk v0 v1 v2,rfl⟩
theorem sh151{n:Nat}{pvs:List PV}(h:Sh prog n 151 pvs):∃v:LK,pvs=ix v:=by
 cases n with
 |zero=>simp[Sh]at h
 |succ n=>
  simp only[Sh,underlying151,List.map_cons,List.map_nil,mE]at h
  obtain⟨p0,r0,rfl,h0,p1,r1,rfl,h1,p2,r2,rfl,h2,p3,r3,rfl,h3,p4,r4,rfl,h4,rfl⟩:=h
  obtain⟨v0,rfl⟩:=sh9 h0
  obtain⟨v1,rfl⟩:=sh3 h1
  obtain⟨v2,rfl⟩:=sh9 h2
  obtain⟨v3,rfl⟩:=sh3 h3
  obtain⟨v4,rfl⟩:=sh69 h4
  exact⟨LK.mk v0 v1 v2 v3 v4,rfl⟩
theorem sh24{n:Nat}{pvs:List PV}(h:Sh prog n 24 pvs):∃v:List LK,pvs=[.list 151 (v.map ix)]:=by
 cases n with
 |zero=>simp[Sh]at h
 |succ n=>
  simp only[Sh,underlying24]at h
  obtain⟨rows,rfl,hr⟩:=h
  obtain⟨xs,rfl⟩:=rowsOf (f:=ix) (fun r hq=>sh151 (hr r hq))
  exact⟨xs,rfl⟩
theorem sh26{n:Nat}{pvs:List PV}(h:Sh prog n 26 pvs):∃v:LSchema,pvs=cy v:=by
 cases n with
 |zero=>simp[Sh]at h
 |succ n=>
  simp only[Sh,underlying26,List.map_cons,List.map_nil,mE]at h
  obtain⟨p0,r0,rfl,h0,p1,r1,rfl,h1,p2,r2,rfl,h2,rfl⟩:=h
  obtain⟨v0,rfl⟩:=sh22 h0
  obtain⟨v1,rfl⟩:=sh23 h1
  obtain⟨v2,rfl⟩:=sh24 h2
  exact⟨LSchema.mk v0 v1 v2,rfl⟩
theorem sh54{n:Nat}{pvs:List PV}(h:Sh prog n 54 pvs):∃v:Rq,pvs=[.list 69 (v.map ae)]:=by
 cases n with
 |zero=>simp[Sh]at h
 |succ n=>
  simp only[Sh,underlying54]at h
  obtain⟨rows,rfl,hr⟩:=h
  obtain⟨xs,rfl⟩:=rowsOf (f:=ae) (fun r hq=>sh69 (hr r hq))
  exact⟨xs,rfl⟩
theorem sh62{n:Nat}{pvs:List PV}(h:Sh prog n 62 pvs):∃v:Rz,pvs=[.list 54 (v.map rRr)]:=by
 cases n with
 |zero=>simp[Sh]at h
 |succ n=>
  simp only[Sh,underlying62]at h
  obtain⟨rows,rfl,hr⟩:=h
  obtain⟨xs,rfl⟩:=rowsOf (f:=rRr) (fun r hq=>let⟨v,e⟩:=sh54 (hr r hq);⟨v,e⟩)
  exact⟨xs,rfl⟩
theorem sh86{n:Nat}{pvs:List PV}(h:Sh prog n 86 pvs):∃v:LW,pvs=bG v:=by
 cases n with
 |zero=>simp[Sh]at h
 |succ n=>
  simp only[Sh,underlying86,List.map_cons,List.map_nil,mE]at h
  obtain⟨p0,r0,rfl,h0,p1,r1,rfl,h1,rfl⟩:=h
  obtain⟨v0,rfl⟩:=sh9 h0
  obtain⟨v1,rfl⟩:=sh62 h1
  exact⟨LW.mk v0 v1,rfl⟩
theorem sh28{n:Nat}{pvs:List PV}(h:Sh prog n 28 pvs):∃v:List LW,pvs=[.list 86 (v.map bG)]:=by
 cases n with
 |zero=>simp[Sh]at h
 |succ n=>
  simp only[Sh,underlying28]at h
  obtain⟨rows,rfl,hr⟩:=h
  obtain⟨xs,rfl⟩:=rowsOf (f:=bG) (fun r hq=>sh86 (hr r hq))
  exact⟨xs,rfl⟩
theorem sh36{n:Nat}{pvs:List PV}(h:Sh prog n 36 pvs):∃v:Rs,pvs=[.list 9 (v.map lP)]:=by
 cases n with
 |zero=>simp[Sh]at h
 |succ n=>
  simp only[Sh,underlying36]at h
  obtain⟨rows,rfl,hr⟩:=h
  obtain⟨xs,rfl⟩:=rowsOf (f:=lP) (fun r hq=>let⟨v,e⟩:=sh9 (hr r hq);⟨v,e⟩)
  exact⟨xs,rfl⟩
theorem sh71{n:Nat}{pvs:List PV}(h:Sh prog n 71 pvs):∃v:LExpr,pvs=ft v:=by
 induction n generalizing pvs with
 |zero=>simp[Sh]at h
 |succ n ih=>
  simp only[Sh,underlying71,List.map_cons,List.map_nil,mE]at h
  obtain⟨p0,r0,rfl,h0,p1,r1,rfl,h1,p2,r2,rfl,h2,p3,r3,rfl,h3,p4,r4,rfl,h4,rfl⟩:=h
  obtain⟨v0,rfl⟩:=sh3 h0
  obtain⟨v1,rfl⟩:=sh9 h1
  obtain⟨v2,rfl⟩:=sh3 h2
  obtain⟨v3,rfl⟩:=sh69 h3
  cases n with
  |zero=>simp[Sh]at h4
  |succ n=>
  simp only[Sh,underlying37]at h4
  obtain⟨rows,rfl,hr4⟩:=h4
  obtain⟨v4,rfl⟩:=rowsUp (f:=ft) (rfl) ih hr4
  exact⟨LExpr.mk v0 v1 v2 v3 v4,by rw[db];rfl⟩
theorem sh37{n:Nat}{pvs:List PV}(h:Sh prog n 37 pvs):∃v:List LExpr,pvs=[.list 71 (v.map ft)]:=by
 cases n with
 |zero=>simp[Sh]at h
 |succ n=>
  simp only[Sh,underlying37]at h
  obtain⟨rows,rfl,hr⟩:=h
  obtain⟨xs,rfl⟩:=rowsOf (f:=ft) (fun r hq=>sh71 (hr r hq))
  exact⟨xs,rfl⟩
theorem sh210{n:Nat}{pvs:List PV}(h:Sh prog n 210 pvs):∃v:LA,pvs=oS v:=by
 cases n with
 |zero=>simp[Sh]at h
 |succ n=>
  simp only[Sh,underlying210,List.map_cons,List.map_nil,mE]at h
  obtain⟨p0,r0,rfl,h0,p1,r1,rfl,h1,p2,r2,rfl,h2,rfl⟩:=h
  obtain⟨v0,rfl⟩:=sh9 h0
  obtain⟨v1,rfl⟩:=sh9 h1
  obtain⟨v2,rfl⟩:=sh37 h2
  exact⟨LA.mk v0 v1 v2,rfl⟩
theorem sh73{n:Nat}{pvs:List PV}(h:Sh prog n 73 pvs):∃v:List LA,pvs=[.list 210 (v.map oS)]:=by
 cases n with
 |zero=>simp[Sh]at h
 |succ n=>
  simp only[Sh,underlying73]at h
  obtain⟨rows,rfl,hr⟩:=h
  obtain⟨xs,rfl⟩:=rowsOf (f:=oS) (fun r hq=>sh210 (hr r hq))
  exact⟨xs,rfl⟩
theorem sh74{n:Nat}{pvs:List PV}(h:Sh prog n 74 pvs):∃v:List Bool,pvs=[.list 4 (v.map rBool)]:=by
 cases n with
 |zero=>simp[Sh]at h
 |succ n=>
  simp only[Sh,underlying74]at h
  obtain⟨rows,rfl,hr⟩:=h
  obtain⟨xs,rfl⟩:=rowsOf (f:=rBool) (fun r hq=>let⟨v,e⟩:=sh4 (hr r hq);⟨v,e⟩)
  exact⟨xs,rfl⟩
theorem sh76{n:Nat}{pvs:List PV}(h:Sh prog n 76 pvs):∃v:LQuery,pvs=dv v:=by
 induction n generalizing pvs with
 |zero=>simp[Sh]at h
 |succ n ih=>
  simp only[Sh,underlying76,List.map_cons,List.map_nil,mE]at h
  obtain⟨p0,r0,rfl,h0,p1,r1,rfl,h1,p2,r2,rfl,h2,p3,r3,rfl,h3,p4,r4,rfl,h4,p5,r5,rfl,h5,p6,r6,rfl,h6,p7,r7,rfl,h7,p8,r8,rfl,h8,rfl⟩:=h
  obtain⟨v0,rfl⟩:=sh3 h0
  obtain⟨v1,rfl⟩:=sh9 h1
  obtain⟨v2,rfl⟩:=sh36 h2
  obtain⟨v3,rfl⟩:=sh37 h3
  obtain⟨v4,rfl⟩:=sh73 h4
  obtain⟨v5,rfl⟩:=sh74 h5
  obtain⟨v6,rfl⟩:=sh3 h6
  obtain⟨v7,rfl⟩:=sh3 h7
  cases n with
  |zero=>simp[Sh]at h8
  |succ n=>
  simp only[Sh,underlying38]at h8
  obtain⟨rows,rfl,hr8⟩:=h8
  obtain⟨v8,rfl⟩:=rowsUp (f:=dv) (rfl) ih hr8
  exact⟨LQuery.mk v0 v1 v2 v3 v4 v5 v6 v7 v8,by rw[cN];rfl⟩
theorem sh38{n:Nat}{pvs:List PV}(h:Sh prog n 38 pvs):∃v:List LQuery,pvs=[.list 76 (v.map dv)]:=by
 cases n with
 |zero=>simp[Sh]at h
 |succ n=>
  simp only[Sh,underlying38]at h
  obtain⟨rows,rfl,hr⟩:=h
  obtain⟨xs,rfl⟩:=rowsOf (f:=dv) (fun r hq=>sh76 (hr r hq))
  exact⟨xs,rfl⟩
theorem sh40{n:Nat}{pvs:List PV}(h:Sh prog n 40 pvs):∃v:LS,pvs=ax v:=by
 induction n generalizing pvs with
 |zero=>simp[Sh]at h
 |succ n ih=>
  simp only[Sh,underlying40,List.map_cons,List.map_nil,mE]at h
  obtain⟨p0,r0,rfl,h0,p1,r1,rfl,h1,p2,r2,rfl,h2,p3,r3,rfl,h3,p4,r4,rfl,h4,p5,r5,rfl,h5,p6,r6,rfl,h6,p7,r7,rfl,h7,p8,r8,rfl,h8,p9,r9,rfl,h9,rfl⟩:=h
  obtain⟨v0,rfl⟩:=sh3 h0
  obtain⟨v1,rfl⟩:=sh3 h1
  obtain⟨v2,rfl⟩:=sh9 h2
  obtain⟨v3,rfl⟩:=sh9 h3
  obtain⟨v4,rfl⟩:=sh36 h4
  obtain⟨v5,rfl⟩:=sh37 h5
  obtain⟨v6,rfl⟩:=sh37 h6
  obtain⟨v7,rfl⟩:=sh38 h7
  cases n with
  |zero=>simp[Sh]at h8
  |succ n=>
  simp only[Sh,underlying30]at h8
  obtain⟨rows,rfl,hr8⟩:=h8
  obtain⟨v8,rfl⟩:=rowsUp (f:=ax) (rfl) ih hr8
  simp only[Sh,underlying30]at h9
  obtain⟨rows,rfl,hr9⟩:=h9
  obtain⟨v9,rfl⟩:=rowsUp (f:=ax) (rfl) ih hr9
  exact⟨LS.mk v0 v1 v2 v3 v4 v5 v6 v7 v8 v9,by rw[dQ];rfl⟩
theorem sh30{n:Nat}{pvs:List PV}(h:Sh prog n 30 pvs):∃v:List LS,pvs=[.list 40 (v.map ax)]:=by
 cases n with
 |zero=>simp[Sh]at h
 |succ n=>
  simp only[Sh,underlying30]at h
  obtain⟨rows,rfl,hr⟩:=h
  obtain⟨xs,rfl⟩:=rowsOf (f:=ax) (fun r hq=>sh40 (hr r hq))
  exact⟨xs,rfl⟩
theorem sh32{n:Nat}{pvs:List PV}(h:Sh prog n 32 pvs):∃v:LP,pvs=fC v:=by
 cases n with
 |zero=>simp[Sh]at h
 |succ n=>
  simp only[Sh,underlying32,List.map_cons,List.map_nil,mE]at h
  obtain⟨p0,r0,rfl,h0,p1,r1,rfl,h1,rfl⟩:=h
  obtain⟨v0,rfl⟩:=sh29 h0
  obtain⟨v1,rfl⟩:=sh30 h1
  exact⟨LP.mk v0 v1,rfl⟩
theorem sh53{n:Nat}{pvs:List PV}(h:Sh prog n 53 pvs):∃v:Rq,pvs=[.list 69 (v.map ae)]:=by
 cases n with
 |zero=>simp[Sh]at h
 |succ n=>
  simp only[Sh,underlying53]at h
  obtain⟨rows,rfl,hr⟩:=h
  obtain⟨xs,rfl⟩:=rowsOf (f:=ae) (fun r hq=>sh69 (hr r hq))
  exact⟨xs,rfl⟩
theorem law_args:∀args,ArgsSh prog Tryz.f4.params.toList args->bN args<=1048576->aQ prog 4 args (.val (.bool true)):=by
 intro args h hN;rw[params4]at h;simp only[ArgsSh]at h
 obtain⟨n0,p0,r0,rfl,h0,n1,p1,r1,rfl,h1,n2,p2,r2,rfl,h2,n3,p3,r3,rfl,h3,n4,p4,r4,rfl,h4,rfl⟩:=h
 obtain⟨v0,rfl⟩:=sh26 h0
 obtain⟨v1,rfl⟩:=sh28 h1
 obtain⟨v2,rfl⟩:=sh32 h2
 obtain⟨v3,rfl⟩:=sh30 h3
 obtain⟨v4,rfl⟩:=sh53 h4
 have e0:argPV prog 26 (cy v0)= .agg (cy v0):=by simp only[argPV,underlying26]
 rw[e0]at hN⊢;have e1:argPV prog 28 [.list 86 (v1.map bG)]= .list 86 (v1.map bG):=by simp only[argPV,underlying28];rfl
 rw[e1]at hN⊢;have e2:argPV prog 32 (fC v2)= .agg (fC v2):=by simp only[argPV,underlying32]
 rw[e2]at hN⊢;have e3:argPV prog 30 [.list 40 (v3.map ax)]= .list 40 (v3.map ax):=by simp only[argPV,underlying30];rfl
 rw[e3]at hN⊢;have e4:argPV prog 53 [.list 69 (v4.map ae)]= .list 69 (v4.map ae):=by simp only[argPV,underlying53];rfl
 rw[e4]at hN⊢;simp only[bN,PV.bulk]at hN;have hs0:SmallS v0:=smallS_bulk (n:=1048576) (by omega) (by omega);have hb1:gR (v2.body.map ax)<=bN (fC v2):=by simp only[fC,bN,PV.bulk];omega
 have hb:gR (v2.body.map ax)+gR (v3.map ax)<=1048576:=by omega
 exact vq v0 v1 v2 v3 v4 true (returnEnds_law hs0 v1 hb v4)
abbrev LLF(X:Program->FuncId->Func->ChangeSpec->OpenClaim->Bool):Bool:=X prog 4 Tryz.f4 (Rows.OpenSpec.upto Rows.procedureReturnEndsSpec).bare Rows.procedureReturnEndsUptoRow
set_option maxRecDepth 100000 in
theorem law_wf:LLF (fun P f fn s c=>c.wf (OpenSpec.ofChange s))=true:=by kernel_rfl
set_option maxRecDepth 100000 in
theorem law_laid:LLF (fun P f fn s c=>laidOutB P)=true:=by kernel_rfl
set_option maxRecDepth 100000 in
theorem law_mapsRowed:LLF (fun P f fn s c=>mapsRowed P)=true:=by kernel_rfl
set_option maxRecDepth 100000 in
theorem law_rr:LLF (fun P f fn s c=>fn.params.all (P.readableRec ·))=true:=by kernel_rfl
set_option maxRecDepth 100000 in
theorem law_nt:LLF (fun P f fn s c=>namedTie P c.named s.vars)=true:=by kernel_rfl
set_option maxRecDepth 100000 in
theorem law_st:LLF (fun P f fn s c=>(c.stops==[])&&(P.stops==[])&&(c.knobs==[])&&(P.stopKnobs==[]))=true:=by kernel_rfl
set_option maxRecDepth 100000 in
theorem law_inPlace:LLF (fun P f fn s c=>c.inPlace==P.inPlace f)=true:=by kernel_rfl
set_option maxRecDepth 100000 in
theorem law_unf:LLF (fun P f fn s c=>c.unfollowed==P.unfollowed f)=true:=by kernel_rfl
set_option maxRecDepth 100000 in
theorem law_rec:LLF (fun P f fn s c=>c.recurses==P.recurses f)=true:=by kernel_rfl
set_option maxRecDepth 100000 in
theorem law_named:LLF (fun P f fn s c=>c.named==P.varsNamed f)=true:=by kernel_rfl
set_option maxRecDepth 100000 in
theorem law_maps:LLF (fun P f fn s c=>(c.maps==(fn.params.toList++s.plain.varTypes P).any (P.mapsRec ·))&&(c.ifaces==(fn.params.toList++s.plain.varTypes P).any (P.ifacesRec ·))&&(c.mapsOut==P.mapsAmong fn.resultTypes.toList))=true:=by kernel_rfl
set_option maxRecDepth 100000 in
theorem law_loops:LLF (fun P f fn s c=>(c.loops==(fn.params.toList++s.plain.varTypes P).any (P.loopsFrom ·)))=true:=by kernel_rfl
set_option maxRecDepth 100000 in
theorem law_wide:LLF (fun P f fn s c=>(c.wideKeys==(fn.params.toList++s.plain.varTypes P++fn.resultTypes.toList).any (P.wideKeysFrom ·)))=true:=by kernel_rfl
set_option maxRecDepth 100000 in
theorem law_rest1:LLF (fun P f fn s c=>s.vars.all (P.varReadable ·)&&fn.resultTypes.all (fun t=>P.readableRec t&&decide (t<P.types.size))&&(c.ifacesOut==fn.resultTypes.toList.any (P.ifacesRec ·))&&(c.loopsOut==fn.resultTypes.toList.any (P.loopsFrom ·)))=true:=by kernel_rfl
set_option maxRecDepth 100000 in
theorem law_plainKeys:LLF (fun P f fn s c=>c.plainKeys==P.plainKeys)=true:=by kernel_rfl
set_option maxRecDepth 100000 in
theorem law_rest2:LLF (fun P f fn s c=>c.shortTexts.isNone&&P.stopsHeard&&P.mayEnter&&(c.lifted==P.liftsFinal)&&(P.make==some c.make))=true:=by kernel_rfl
set_option maxRecDepth 100000 in
theorem law_kinds:LLF (fun P f fn s c=>(c.kinds==(if c.domain.isEmpty then []else fn.params.toList.map fun t=>match P.underlying t with|some (.int k)=>some k|_=>none))&&(c.pinned==c.pinnedBy))=true:=by kernel_rfl
set_option maxRecDepth 100000 in
theorem law_veil:LLF (fun P f fn s c=>(c.veiled==(fn.params.toList++s.plain.varTypes P++fn.resultTypes.toList).any (P.veiledRec ·))&&c.veiledFits P fn.params.toList (fn.params.toList++s.plain.varTypes P++fn.resultTypes.toList))=true:=by kernel_rfl
set_option maxRecDepth 100000 in
theorem law_facts:joinedFacts prog 4 Tryz.f4 (Rows.OpenSpec.upto Rows.procedureReturnEndsSpec).bare Rows.procedureReturnEndsUptoRow=true:=joined_of law_wf law_laid law_mapsRowed law_rr law_nt law_st law_inPlace law_unf law_rec law_named law_maps law_loops law_wide law_rest1 law_plainKeys law_rest2 law_kinds law_veil
theorem gl_all(W:World):Gl W []:=by
 refine⟨⟨?_,?_,?_⟩,?_⟩
 ·intro b hb;simp[glI]at hb
 ·intro b hb;simp[glT]at hb
 ·intro b hb;simp[glN]at hb
 ·intro b hb;simp[glB,glI,glT,glN]at hb
def putVar(h:Array Go.Obj)(g:Nat)(cs:Array Value):Array Go.Obj:=h.modify g fun
 | .cells _ t fz=>.cells cs t fz
 |o=>o
def lowBlk:Nat:=(World.holding prog default ⟨#[],#[],[]⟩).heap.size
def laidWorld(os:Os):World:=
 let w0:=World.holding prog os ⟨#[.cells #[.string ⟨#[118,97,108,117,101,32,111,117,116,32,111,102,32,114,97,110,103,101]⟩] 342,.cells #[.string ⟨#[105,110,118,97,108,105,100,32,115,121,110,116,97,120]⟩] 342],#[],[]⟩
 {w0 with heap:=(putVar (putVar (putVar (putVar (putVar w0.heap 4 #[.int .u8 0,.int .u8 1,.int .u8 28,.int .u8 2,.int .u8 29,.int .u8 14,.int .u8 24,.int .u8 3,.int .u8 30,.int .u8 22,.int .u8 20,.int .u8 15,.int .u8 25,.int .u8 17,.int .u8 4,.int .u8 8,.int .u8 31,.int .u8 27,.int .u8 13,.int .u8 23,.int .u8 21,.int .u8 19,.int .u8 16,.int .u8 7,.int .u8 26,.int .u8 12,.int .u8 18,.int .u8 6,.int .u8 11,.int .u8 5,.int .u8 10,.int .u8 9]) 5 #[.int .u8 0,.int .u8 1,.int .u8 56,.int .u8 2,.int .u8 57,.int .u8 49,.int .u8 28,.int .u8 3,.int .u8 61,.int .u8 58,.int .u8 42,.int .u8 50,.int .u8 38,.int .u8 29,.int .u8 17,.int .u8 4,.int .u8 62,.int .u8 47,.int .u8 59,.int .u8 36,.int .u8 45,.int .u8 43,.int .u8 51,.int .u8 22,.int .u8 53,.int .u8 39,.int .u8 33,.int .u8 30,.int .u8 24,.int .u8 18,.int .u8 12,.int .u8 5,.int .u8 63,.int .u8 55,.int .u8 48,.int .u8 27,.int .u8 60,.int .u8 41,.int .u8 37,.int .u8 16,.int .u8 46,.int .u8 35,.int .u8 44,.int .u8 21,.int .u8 52,.int .u8 32,.int .u8 23,.int .u8 11,.int .u8 54,.int .u8 26,.int .u8 40,.int .u8 15,.int .u8 34,.int .u8 20,.int .u8 31,.int .u8 10,.int .u8 25,.int .u8 14,.int .u8 19,.int .u8 9,.int .u8 13,.int .u8 8,.int .u8 7,.int .u8 6]) 3 #[.int .u64 1,.int .u64 10,.int .u64 100,.int .u64 1000,.int .u64 10000,.int .u64 100000,.int .u64 1000000,.int .u64 10000000,.int .u64 100000000,.int .u64 1000000000,.int .u64 10000000000,.int .u64 100000000000,.int .u64 1000000000000,.int .u64 10000000000000,.int .u64 100000000000000,.int .u64 1000000000000000,.int .u64 10000000000000000,.int .u64 100000000000000000,.int .u64 1000000000000000000,.int .u64 10000000000000000000]) 2 #[.iface 340 (.pointer (some ⟨lowBlk,0,none⟩))]) 1 #[.iface 340 (.pointer (some ⟨lowBlk+1,0,none⟩))])}
set_option maxRecDepth 100000 in
theorem laid_met(os:Os):laidMet prog Rows.procedureReturnEndsUptoRow.laid ((laidWorld os).forCall (fun _ _=>0) ⟨#[],#[.agg #[.slice none 0 0,.slice none 0 0,.slice none 0 0],.slice none 0 0,.agg #[.slice none 0 0,.slice none 0 0],.slice none 0 0,.slice none 0 0],[]⟩).memory:=
 laidMet_of_run' 8 (by kernel_rfl) (by kernel_rfl)
theorem law_reads(os:Os){H:Type}(enc:TypeId×Value->H):∃rG,DataW.whole enc prog ((laidWorld os).forCall (fun _ _=>0) ⟨#[],#[.agg #[.slice none 0 0,.slice none 0 0,.slice none 0 0],.slice none 0 0,.agg #[.slice none 0 0,.slice none 0 0],.slice none 0 0,.slice none 0 0],[]⟩).memory Tryz.f4.params.toList (Rows.OpenSpec.upto Rows.procedureReturnEndsSpec).vars false (#[.agg #[.slice none 0 0,.slice none 0 0,.slice none 0 0],.slice none 0 0,.agg #[.slice none 0 0,.slice none 0 0],.slice none 0 0,.slice none 0 0]:Array Value).toList 8=some ([.agg [.nil,.nil,.nil],.nil,.agg [.nil,.nil],.nil,.nil],[],rG):=
 ⟨[],by kernel_rfl⟩
set_option maxRecDepth 100000 in
theorem law_lifted(os:Os)(started:os.Started)(H:Type)(enc:TypeId×Value->H)(F:Stop.Interp):
  ReturnsInHanded {} checked os 4 .any ((Rows.OpenSpec.upto Rows.procedureReturnEndsSpec).preRow enc prog Tryz.f4 Rows.procedureReturnEndsUptoRow.domain false Rows.procedureReturnEndsUptoRow.laid) (((Rows.OpenSpec.upto Rows.procedureReturnEndsSpec).at F).post enc prog Tryz.f4 false true false false):=by
 obtain⟨rG,hx⟩:=law_reads os enc
 refine returnsInHanded_of_row (C:=checked) (s:=Rows.OpenSpec.upto Rows.procedureReturnEndsSpec) own_knob started (by kernel_rfl) func4
  (witness_row_at (enc:=enc) (C:=checked) false (laidWorld os) #[.agg #[.slice none 0 0,.slice none 0 0,.slice none 0 0],.slice none 0 0,.agg #[.slice none 0 0,.slice none 0 0],.slice none 0 0,.slice none 0 0] Z (by kernel_rfl) (by kernel_rfl) (by kernel_rfl)
   (OpenSpec.preRow_of_cond 8 hx (by kernel_rfl) (fun k hk=>by obtain rfl:=Option.some.inj hk;kernel_rfl) (by kernel_rfl) (laid_met os))) ?_
 intro W base args ds gs before hval hW _ hk hsz _ _ _
 have hN:((ds++gs).map (fun d=>Rows.uptoBulk d)).sum<=1048576:=by
  rw[tT];exact of_decide_eq_true (hk Rows.uptoSmall Z)
 refine law_callsB (s:=Rows.procedureReturnEndsSpec) (tb:=4) bulk_is laid_out Z ?_ Z underlying4 ?_ lawTypes_ok lawTypes_info ?_ law_args hval hW (gl_all W) hsz hN
 ·rw[params4];intro t ht;simp only[List.mem_cons,List.mem_nil_iff,or_false]at ht;rcases ht with rfl|rfl|rfl|rfl|rfl<;>exact⟨by kernel_rfl,of_decide_eq_true (by kernel_rfl)⟩
 ·intro ds hlen;rw[params4]at hlen
  match ds,hlen with
  |[d0,d1,d2,d3,d4],_=>rfl
 ·rw[params4];intro t ht;simp only[List.mem_cons,List.mem_nil_iff,or_false]at ht;rcases ht with rfl|rfl|rfl|rfl|rfl<;>simp[lawTypes]
theorem law_said:Rows.ProcedureReturnEndsUptoSaid:=
 OpenClaim.holds_of_cond 4 Tryz.f4 Z Z Z Z Z Z Z ⟨rfl,rfl,rfl,rfl,rfl⟩ Z Z Z Z Z (by kernel_rfl) func4 law_facts
  (of_decide_eq_true (by kernel_rfl)) (by unfold Func.isWrapper;first|(rw[zp (by decide+kernel)];kernel_rfl)|(rw[zy (by decide+kernel)];exact⟨rfl,rfl⟩))
  (fun os started H enc _ F=>by rw[OpenClaim.pre_eq_preRow];exact law_lifted os started H enc F)
theorem law_plain(f:FuncId)(fn:Func)(hf:Tryz.pinned.checked.prog.funcNamed "stemma/stemkeep3.ProcedureReturnEnds" =some f)(hfn:Tryz.pinned.checked.prog.funcs[f]? =some fn):
  true=Tryz.pinned.checked.prog.looks []/\∀(j:Nat) t,fn.params[j]? =some t->Tryz.pinned.checked.prog.wantsStandIn t=false:=by
 obtain rfl:f=4:=Option.some.inj ((show prog.funcNamed "stemma/stemkeep3.ProcedureReturnEnds" =some 4 by kernel_rfl).symm.trans hf)|>.symm;obtain rfl:fn=Tryz.f4:=(Option.some.inj (func4.symm.trans hfn)).symm
 refine⟨by kernel_rfl,fun j t ht=>?_⟩
 have hall:(Tryz.f4.params.toList.all fun u=>!prog.wantsStandIn u)=true:=by kernel_rfl
 have hm:t∈Tryz.f4.params.toList:=by simpa using Array.mem_of_getElem? ht
 exact(show prog.wantsStandIn t=false by simpa using List.all_eq_true.1 hall t hm)
theorem procedureReturnEndsUpto_holds:Rows.ProcedureReturnEndsUptoCardSaid:=
 Claim7.holds_tied_plain_at .later [] _ _ _ _ law_said (fun _ h=>by cases h) (by kernel_rfl) (fun _ h=>by cases h) procedureReturnEndsUpto_row_tie Z ⟨rfl,rfl⟩ (by kernel_rfl) Z law_plain (by kernel_rfl)
end
end Go.Proofs.YtafdcemcgfbhcaaGreatDoor
