/- procedureChangesApplyUpto_holds, part 8: the layer, the plain functions and what they compute; conditions as in the statement. -/
import Derived.Test.YtafdcemcgfbhcaaGreatPcg
set_option maxHeartbeats 4000000
namespace Go.Proofs.YtafdcemcgfbhcaaGreat
noncomputable section
open Go Go.Ab Go.Proofs.Tryz
theorem reads_len{q:LQuery}(hq:(dz q).length<=1048575):Ok (mq q) fun l=>l.length<=(dz q).length:=by
 unfold mq;rw[nodes_ok q (by omega),bPs];refine Ok.bind (Ok.range (I:=fun j l=>l.length<=j) (B:=fun _=>False) (Q:=fun _=>True) (Nat.le_refl 0) fun k x l hk hl=>?_) fun fl hfl=>Ok.thenP hfl fun l hl=>?_
 ·have hkl:=(zg.1 hk).1;refine Ok.cond (fun _=>?_) fun _=>Ok.mk (Nat.le_succ_of_le hl)
  rw[cd (by decide) (by simp;omega),bPs];exact Ok.mk (show(l++[x.table]).length<=_ by simp;omega)
 ·have hl:l.length<=0+(dz q).length:=(hl.resolve_right id).resolve_right id
  obtain⟨s,r,e1,e2,e3,_,_,e4⟩:=sorted_set (T:=l) (by omega)
  rw[e1,bPs,el e2,bPs,e3,bPs];exact Ok.mk (by omega)
theorem stmts_flat:∀l:List LProcedureStatement,gE l<=1000000->dc l=some (kT l)/\(kT l).length=gE l:=by
 refine qu fun l ih hc=>?_
 rw[(stmts_both l).2];simp only[eH]
 have key:∀k,k<=l.length->(((l.take k).map fun s=>s::(kT s.body++kT s.elseF)).flatten).length=gE (l.take k):=by
  intro k hk;rw[rI,List.length_flatten,List.map_map];congr 1;refine List.map_congr_left fun s hs=>?_
  have hs':=List.mem_of_mem_take hs;have hm:=cntS_mem hs';have h1:=((ih s hs').1 (by omega)).2;have h2:=((ih s hs').2 (by omega)).2;simp only[Function.comp,List.length_cons,List.length_append,h1,h2];omega
 rw[rMa (xs:=l) (s:=([]:List LProcedureStatement)) (fun k=>((l.take k).map fun s=>s::(kT s.body++kT s.elseF)).flatten) Z (fun k x hk=>by
  have hx:=ek hk;have hm:=cntS_mem hx
  obtain⟨h3,h4⟩:=cntS_take hk
  obtain⟨e1,l1⟩:=(ih x hx).1 (by omega)
  obtain⟨e2,l2⟩:=(ih x hx).2 (by omega)
  have hkl:=(zg.1 hk).1;have hl:=key k (by omega);rw[cd (by decide) (by rw[hl];simp;omega),bPs,e1,bPs,cd (by decide) (by rw[List.length_append,hl];simp;omega),bPs,e2,bPs,cd (by decide) (by rw[List.length_append,List.length_append,hl];simp;omega),bPs];rw[List.take_add_one,hk,List.map_append,List.flatten_append];simp),bPs,dl,List.take_length,<-flatS_eq]
 refine⟨rfl,?_⟩
 have:=key l.length (Nat.le_refl _)
 rw[List.take_length,<-flatS_eq]at this;exact this
def wS(x:LProcedureStatement):Nat:=2+ic (x.query.map dI)
theorem wS_row(x:LProcedureStatement):wS x+ic (x.body.map aH)+ic (x.elseF.map aH)<=bT (aH x):=by
 rw[dr];unfold wS;simp only[aE,bT,PV.bulk];omega
theorem sum_app(a b:List Nat):(a++b).sum=a.sum+b.sum:=by simp
theorem wS_sum:∀l:List LProcedureStatement,((kT l).map wS).sum<=ic (l.map aH):=by
 refine qu fun l ih=>?_
 rw[flatS_eq]
 have key:∀m:List LProcedureStatement,(∀x∈m,x∈l)->(((m.map fun s=>s::(kT s.body++kT s.elseF)).flatten).map wS).sum<=ic (m.map aH):=by
  intro m;induction m with
  |nil=>intro _;simp[ic]
  |cons x m ihm=>
   intro hm;have h0:=ihm fun y hy=>hm y (by simp[hy])
   obtain⟨h1,h2⟩:=ih x (hm x (by simp))
   have h3:=wS_row x;simp only[List.map_cons,List.flatten_cons,List.map_append,List.cons_append,List.sum_cons,sum_app,ic];omega
 exact key l fun _ h=>h
theorem bulkRows_take{α:Type}{f:α->List PV}:∀{l:List α} {k:Nat} {x:α},l[k]? =some x->ic ((l.take (k+1)).map f)=ic ((l.take k).map f)+bT (f x)/\ic ((l.take (k+1)).map f)<=ic (l.map f)
 |y::l,0,x,h=>by
  simp only[List.getElem?_cons_zero,zo]at h;subst h;simp only[List.take_succ_cons,List.take_zero,List.map_cons,List.map_nil,ic];omega
 |y::l,k+1,x,h=>by
  obtain⟨h1,h2⟩:=bulkRows_take (f:=f) (l:=l) (k:=k) (by simpa using h)
  simp only[List.take_succ_cons,List.map_cons,ic]at h1 h2⊢;omega
theorem wS_take{l:List LProcedureStatement}{k:Nat}{x:LProcedureStatement}(h:l[k]? =some x):((l.take (k+1)).map wS).sum=((l.take k).map wS).sum+wS x/\((l.take (k+1)).map wS).sum<=(l.map wS).sum:=by
 refine⟨?_,sum_take⟩
 rw[List.take_add_one,h,List.map_append,sum_app];simp
theorem touched_ok{p:LProcedureProcedure}(hc:gE p.body<=1000000)(hb:ic (p.body.map aH)<=1048576):
  Ok (jY p) fun T=>∀x∈kT p.body,x.kind=4\/x.kind=5\/x.kind=6->x.table∈T:=by
 unfold jY
 obtain⟨hs,hsl⟩:=stmts_flat p.body hc
 have hsum:=wS_sum p.body;rw[hs,bPs];refine Ok.bind (Ok.range (I:=fun j l=>l.length+j<=(((kT p.body).take j).map wS).sum/\∀x∈(kT p.body).take j,x.kind=4\/x.kind=5\/x.kind=6->x.table∈l) (B:=fun _=>False) (Q:=fun _=>True) ⟨by simp,by simp⟩ fun k x l hk hI=>?_) fun fl hfl=>Ok.thenP hfl fun l hl=>?_
 ·simp only[Nat.zero_add]at hI⊢
  obtain⟨w1,w2⟩:=wS_take hk
  obtain⟨hI1,hI2⟩:=hI
  have hwx:wS x=2+ic (x.query.map dI):=rfl
  have memk:∀l':Rs,(∀y∈l,y∈l')->(x.kind=4\/x.kind=5\/x.kind=6->x.table∈l')->∀y∈(kT p.body).take (k+1),y.kind=4\/y.kind=5\/y.kind=6->y.table∈l':=by
   intro l' h1 h2 y hy hky;rw[List.take_add_one,hk,List.mem_append]at hy;rcases hy with hy|hy
   ·exact h1 _ (hI2 y hy hky)
   ·simp at hy;rw[hy]at hky⊢;exact h2 hky
  refine Ok.letP (Ok.bind (P:=fun l'=>l'.length<=l.length+1/\(∀y∈l,y∈l')/\(x.kind=4\/x.kind=5\/x.kind=6->x.table∈l')) ?_ fun l' hl'=>?_)
  ·refine Ok.cond (fun _=>?_) fun ht=>Ok.mk ⟨by omega,fun _ h=>h,fun hky=>?_⟩
   ·rw[cd (by decide) (by simp;omega),bPs];exact Ok.mk ⟨by simp,fun y hy=>List.mem_append_left _ hy,fun _=>List.mem_append_right _ (by simp)⟩
   ·exfalso;rcases hky with h|h|h<;>rw[h]at ht<;>cases ht
  ·obtain⟨h1,h2,h3⟩:=hl'
   refine Ok.letP (Ok.cond (fun _=>?_) fun _=>Ok.mk ⟨by omega,memk l' h2 h3⟩);refine Ok.bind (Ok.range (I:=fun j m=>m.length<=l'.length+ic ((x.query.take j).map dI)/\∀y∈l',y∈m) (B:=fun _=>False) (Q:=fun _=>True) ⟨by simp[ic],fun _ h=>h⟩ fun j q m hj hm=>?_) fun fl hfl=>Ok.thenP hfl fun m hm=>?_
   ·simp only[Nat.zero_add]at hm⊢
    obtain⟨b1,b2⟩:=bulkRows_take (f:=dI) hj
    have hnq:=(nodes_bulk q).1;refine Ok.bind (reads_len (q:=q) (by omega)) fun t ht=>?_
    rw[cd (by decide) (by omega),bPs];exact Ok.mk ⟨by rw[List.length_append];omega,fun y hy=>List.mem_append_left _ (hm.2 y hy)⟩
   ·have hm:=(hm.resolve_right id).resolve_right id;rw[Nat.zero_add,List.take_length]at hm;exact Ok.mk ⟨by omega,memk m (fun y hy=>hm.2 y (h2 y hy)) fun hky=>hm.2 _ (h3 hky)⟩
 ·have hl:=(hl.resolve_right id).resolve_right id;rw[Nat.zero_add,List.take_length]at hl
  obtain⟨s,r,e1,e2,e3,_,e4,_⟩:=sorted_set (T:=l) (by
   cases hf:kT p.body with
   |nil=>rw[hf]at hl;have:=hl.1;simp only[List.length_nil,List.map_nil,List.sum_nil]at this;omega
   |cons a b=>rw[hf]at hl hsum;have:=hl.1;simp only[List.length_cons]at this;omega)
  rw[e1,bPs,el e2,bPs,e3,bPs];exact Ok.mk fun x hx hk=>(e4 _).2 (hl.2 x hx hk)
theorem cnt_bulk:∀l:List LProcedureStatement,2*gE l<=ic (l.map aH):=by
 refine qu fun l ih=>?_
 rw[rI]
 have key:∀m:List LProcedureStatement,(∀x∈m,x∈l)->2*(m.map fun s=>1+gE s.body+gE s.elseF).sum<=ic (m.map aH):=by
  intro m;induction m with
  |nil=>intro _;simp[ic]
  |cons x m ihm=>
   intro hm;have h0:=ihm fun y hy=>hm y (by simp[hy])
   obtain⟨h1,h2⟩:=ih x (hm x (by simp))
   have h3:=wS_row x;unfold wS at h3;simp only[List.map_cons,List.sum_cons,ic];omega
 exact key l fun _ h=>h
theorem contains_mem{l:Rs}{v:Rb}(h:v∈l):cD l v=some true:=by
 suffices Ok (cD l v) fun b=>b=true by
  obtain⟨b,e,rfl⟩:=this
  exact e
 unfold cD fw;refine Ok.bind (P:=fun z=>0<=z) (Ok.bind (Ok.range (I:=fun j _=>¬v∈l.take j) (B:=fun _=>False) (Q:=fun z=>0<=z) (by simp) fun k x u hk hI=>?_) fun fl hfl=>Ok.thenR hfl (fun u hu=>?_) fun z hz=>hz) fun z hz=>Ok.mk ?_
 ·simp only[Nat.zero_add]at hI⊢;refine Ok.cond (fun _=>Ok.mk (show(0:Int)<=(k:Int) by omega)) fun hx=>Ok.mk fun hm=>?_
  rw[List.take_add_one,hk,List.mem_append]at hm;rcases hm with hm|hm
  ·exact hI hm
  ·simp at hm;rw[hm]at hx;simp at hx
 ·have hu:=(hu.resolve_right id).resolve_right id;rw[Nat.zero_add,List.take_length]at hu;exact absurd h hu
 ·simpa using hz
theorem check_is{s:LSchema}{p:LProcedureProcedure}(hb:ic (p.body.map aH)<=1048576):Ok (li s p) fun e=>e=0->GoodL s p.body/\gE p.body<=40:=by
 have hc:=cnt_bulk p.body;have hbb:∀x∈p.body,bT (aH x)<=1048576:=fun x hx=>Nat.le_trans (lq (List.mem_map_of_mem hx)) hb
 obtain⟨hs,hl⟩:=stmts_flat p.body (by omega)
 unfold li;refine Ok.bind (P:=fun b=>b=false->gE p.body<=40) ?_ fun b h40=>Ok.cond (fun _=>Ok.mk fun h=>absurd h (show ¬(2:Int)=0 from by decide)) fun hf=>?_
 ·rw[hs,bPs];refine Ok.cond (fun _=>Ok.mk fun h=>by cases h) fun h=>Ok.bind (Ok.tot (depth_tot p.body)) fun _ _=>Ok.cond (fun _=>Ok.mk fun h=>by cases h) fun _=>Ok.mk fun _=>?_
  have:¬((kT p.body).length:Int)>40:=by simpa using h
  omega
 ·have h40:=h40 hf;refine Ok.bind (Ok.range (I:=fun _ _=>True) (B:=fun _=>False) (Q:=fun r=>r≠0) trivial fun k x u hk _=>?_) fun fl hfl=>Ok.thenR hfl (fun u _=>?_) fun r hr h=>absurd h hr
  ·exact Ok.cond (fun _=>Ok.mk (show(1:Int)≠0 from by decide)) fun _=>Ok.cond (fun _=>Ok.mk (show(1:Int)≠0 from by decide)) fun _=>Ok.mk trivial
  ·refine Ok.bind (body_ok (LProcedureChecker.mk s p.parameters) p.body hbb [] (by simp;omega)) fun y hy=>Ok.mk fun h=>⟨hy h,h40⟩
theorem callable_is{s:LSchema}(hs:SmallS s)(st:List LRelation){p:LProcedureProcedure}(hb:ic (p.body.map aH)<=1048576):
  Ok (lO s st p) fun b=>b=true->BaseS s/\InstOk s st/\eR s st=some 0/\li s p=some 0/\GoodL s p.body/\gE p.body<=40:=by
 unfold lO;have hc:=cnt_bulk p.body
 obtain⟨hfl,_⟩:=stmts_flat p.body (by omega)
 obtain⟨v,hv,hvok⟩:=validate_inv (s:=s) fun t ht=>by have:=hs t ht;omega
 obtain⟨f,hf,hfok⟩:=conforms hs st
 obtain⟨e,he,hck⟩:=check_is (s:=s) hb
 rw[hfl,bPs];refine Ok.cond (fun _=>?_) fun _=>Ok.mk fun h=>by cases h
 rw[hv,bPs];refine Ok.cond (fun v0=>?_) fun _=>Ok.mk fun h=>by cases h
 rw[hf,bPs];refine Ok.cond (fun f0=>?_) fun _=>Ok.mk fun h=>by cases h
 rw[he,bPs];refine Ok.mk fun e0=>?_
 have v0:v=0:=by simpa using v0
 have f0:f=0:=by simpa using f0
 have e0:e=0:=by simpa using e0
 obtain⟨h6,ht⟩:=hvok v0
 exact⟨⟨by rw[hv,v0],h6,ht⟩,hfok f0,by rw[f0],by rw[e0],hck e0⟩
theorem Run_is{s:LSchema}{st:List LRelation}{T:Rs}{p:LProcedureProcedure}(hb:ic (p.body.map aH)<=1048576)(hS:BaseS s)(hI:InstOk s st)(hcf:eR s st=some 0)
  (hck:li s p=some 0) (hg:GoodL s p.body) (hc:gE p.body<=40) (hT:∀x∈kT p.body,x.kind=4\/x.kind=5\/x.kind=6->x.table∈T) (args:Rq):
  Ok (mi s st p args) fun y=>(y.2.2≠0->y.1=[]/\y.2.1=[])/\(y.2.2=0->∃r n,Inv s st T n r/\y.1=r.changes/\y.2.1=r.results):=by
 have hbb:∀x∈p.body,bT (aH x)<=1048576:=fun x hx=>Nat.le_trans (lq (List.mem_map_of_mem hx)) hb
 have bad:∀e:Int,e≠0->((([]:List LChange),([]:List LResult),e).2.2≠0->(([]:List LChange),([]:List LResult),e).1=[]/\(([]:List LChange),([]:List LResult),e).2.1=[])/\
   ((([]:List LChange),([]:List LResult),e).2.2=0->∃r n,Inv s st T n r/\(([]:List LChange),([]:List LResult),e).1=r.changes/\(([]:List LChange),([]:List LResult),e).2.1=r.results):=
  fun e he=>⟨fun _=>⟨rfl,rfl⟩,fun h=>absurd h he⟩
 unfold mi;rw[hck,bPs,pB Z,zd];refine Ok.cond (fun _=>Ok.mk (bad _ (by decide))) fun ha=>?_
 have ha:¬(args.length:Int)<p.parameters.length:=by simpa using ha
 refine Ok.bind (Ok.range (I:=fun _ _=>True) (B:=fun _=>False) (Q:=fun y=>y=(([]:List LChange),([]:List LResult),(7:Int))) trivial fun k x u hk _=>?_) fun fl hfl=>Ok.thenR hfl (fun u _=>?_) fun y hy=>?_
 ·have hkl:=(zg.1 hk).1;rw[Nat.zero_add,fI (by omega)];simp only[bPs];exact Ok.letP (Ok.cond (fun _=>Ok.mk Z) fun _=>Ok.cond (fun _=>Ok.cond (fun _=>Ok.mk Z) fun _=>Ok.mk trivial) fun _=>Ok.mk trivial)
 ·rw[hcf,bPs,pB Z,zd,rF ⟨by omega,by omega,by omega⟩,bPs];refine Ok.bind (run_is hS p.body hbb hg hT 0 _ (by omega) ⟨rfl,rfl,Nat.le_refl 0,hI.lens,rfl,by simp,by simp,by simp,by simp⟩) fun y hy=>Ok.cond (fun h=>Ok.mk (bad _ (by simpa using h))) fun h=>Ok.mk ⟨fun h=>absurd Z h,fun _=>⟨y.2,_,hy (by simpa using h),rfl,rfl⟩⟩
 ·rw[hy];exact bad _ (by decide)
theorem changesApply_law(hinc:ly=some true){s:LSchema}(hs:SmallS s)(st:List LRelation){p:LProcedureProcedure}(hb:ic (p.body.map aH)<=1048576)(args:Rq):kj s st p args=some true:=by
 suffices Ok (kj s st p args) fun b=>b=true by
  obtain⟨b,e,rfl⟩:=this
  exact e
 unfold kj;have hc:=cnt_bulk p.body
 obtain⟨T,hT,hTm⟩:=touched_ok (p:=p) (by omega) hb
 rw[hinc,bPs,Bool.not_true,zd];refine Ok.bind (P:=fun b=>b=false->BaseS s/\InstOk s st/\eR s st=some 0/\li s p=some 0/\GoodL s p.body/\gE p.body<=40) ?_ fun b hbt=>Ok.cond (fun _=>Ok.mk Z) fun hf=>?_
 ·refine Ok.bind (callable_is hs st hb) fun b hbb=>Ok.cond (fun _=>Ok.mk fun h=>by cases h) fun h=>Ok.mk fun _=>hbb (by simpa using h)
 obtain⟨hS,hI,hcf,hck,hg,h40⟩:=hbt hf
 refine Ok.bind (Run_is hb hS hI hcf hck hg h40 hTm args) fun y hy=>Ok.cond (fun h=>Ok.mk ?_) fun h=>?_
 ·obtain⟨h1,h2⟩:=hy.1 (by simpa using h)
  rw[h1,h2];rfl
 obtain⟨r,n,hr,e1,e2⟩:=hy.2 (by simpa using h)
 rw[e1,e2,apply_is,hS.val,bPs,pB Z,zd,hcf,bPs,pB Z,zd];have h24:=hr.chl;have h8:=hr.res;rw[zf (by omega),zd,clone_st hI.lens hS.six,bPs,hr.ch,bPs,kg,bPs,hT,bPs,ld Z,zc,zt (by omega),zc,zt (by omega),zc];unfold fj fO
 rw[rMa (s:=()) (fun _=>()) Z (fun k c hk=>by
  unfold fq;dsimp only;rw[contains_mem (hr.tab c (ek hk)),bPs,bPs];rfl),bPs,kg,bPs]
 exact Ok.mk Z
def incT:LTable:=LTable.mk [116] [LCol.mk [107] 1 false,LCol.mk [97] 1 false] [0]
def incS:LSchema:=LSchema.mk [incT] [] []
def incA:LExpr:=LExpr.mk 2 [97] 0 (LVal.mk 0 0 []) []
def incN(v:LVal):LExpr:=LExpr.mk 1 [] 0 v []
def incE:LExpr:=LExpr.mk 5 [43] 0 (LVal.mk 0 0 []) [incA,incN (LVal.mk 1 1 [])]
def incX:LProcedureStatement:=LProcedureStatement.mk 5 0 [] [116] [[97]] [incE] [incN (oY true)] [] [] []
def incR(k a:Int):Rq:=[LVal.mk 1 k [],LVal.mk 1 a []]
def incI(a b:Int):List LRelation:=[LRelation.mk [116] [incR 1 a,incR 2 b]]
def incC(k a:Int):LChange:=LChange.mk 1 [116] [] (incR k a)
theorem given0{c:LProcedureChecker}{e:LExpr}(h:fc e=[]):ft c (LQuery.mk 0 [] [] [e] [] [] 0 0 [])=some 0:=by
 have hn:dz (LQuery.mk 0 [] [] [e] [] [] 0 0 [])=[LQuery.mk 0 [] [] [e] [] [] 0 0 []]:=by rw[kS];rfl
 have hp:mR (LQuery.mk 0 [] [] [e] [] [] 0 0 [])=[]:=by
  unfold mR;rw[hn];simp[lF,h,LQuery.exprs,LQuery.aggregates]
 unfold ft;rw[kinds_ok (by rw[hn];simp),bPs];unfold eU;rw[hp];rfl
theorem typeP0{c:LProcedureChecker}{cols vars:List LCol}{e:LExpr}{k:Int}{n:Bool}(ht:fD cols vars e=(k,n,0))(hp:fc e=[]):eu c cols vars e=some (k,n,0):=by
 unfold eu;rw[bV,ht,given0 hp];rfl
theorem inc_lit(v:LVal)(cols:List LCol)(h:lz v=true):fD cols [] (incN v)=(v.kind,v.kind==0,0)/\fc (incN v)=[]:=by
 constructor
 ·unfold fD;have e1:kf (incN v)=(1,1):=by rw[sizeE_eq];rfl
  rw[e1,zy (by decide),kindE_eq];simp[incN,LExpr.kind,LExpr.args,LExpr.value,LExpr.name,LExpr.index,h]
 ·rw[rY];rfl
theorem inc_plus:fD incT.columns [] incE=(1,true,0)/\fc incE=[]:=by
 constructor
 ·unfold fD;have e1:kf incA=(1,1):=by rw[sizeE_eq];rfl
  have e2:kf (incN (LVal.mk 1 1 []))=(1,1):=by rw[sizeE_eq];rfl
  have e3:kf incE=(3,2):=by
   rw[sizeE_eq,show incE.args.map kf=[kf incA,kf (incN (LVal.mk 1 1 []))]from Z,e1,e2];rfl
  have k1:gm incT.columns [] incA=(1,false,0):=by rw[kindE_eq];rfl
  have k2:gm incT.columns [] (incN (LVal.mk 1 1 []))=(1,false,0):=by rw[kindE_eq];rfl
  rw[e3,zy (by decide),kindE_eq,show incE.args.map (gm incT.columns [])=[gm incT.columns [] incA,gm incT.columns [] (incN (LVal.mk 1 1 []))]from Z,k1,k2];rfl
 ·rw[rY,show incE.args.map fc=[fc incA,fc (incN (LVal.mk 1 1 []))]from Z,rY incA,rY (incN _)];rfl
theorem inc_check:li incS (LProcedureProcedure.mk [] [incX])=some 0:=by
 have c0:gE []=0:=by rw[rI];rfl
 have c1:gE [incX]=1:=by
  rw[rI,show([incX].map fun s=>1+gE s.body+gE s.elseF)=[1+gE []+gE []]from Z,c0];rfl
 obtain⟨hs,hl⟩:=stmts_flat [incX] (by omega)
 have hd:eC [incX]=some 1:=by
  have d0:eC []=some 0:=by rw[(depth_both []).2];rfl
  rw[(depth_both [incX]).2];unfold fE;simp only[aU,show incX.body=[]from Z,show incX.elseF=[]from Z,d0,bPs];rfl
 unfold li;rw[hs,bPs,hl,c1,show decide (((1:Nat):Int)>40)=false from Z,zd,hd,bPs,show decide ((1:Int)>6)=false from Z,zd,bPs];rw[show decide (((([]:List Int).length:Nat):Int)>8)=false from Z,zd];simp only[aU,bPs,kg]
 have hb:bN (LProcedureChecker.mk incS []) [] [incX]=some ([],0):=by
  have hsh:ig incX=some true:=by
   unfold ig;simp only[shapeP1];rfl
  have hst:cx (LProcedureChecker.mk incS []) [] incX=some ([],0):=by
   rw[(body_both [incX]).2.2 incX (by simp)]
   have hw:gC (LProcedureChecker.mk incS []) [] incX=some 0:=by
    unfold gC;have h1:iM (LProcedureChecker.mk incS []) incX.table=some (incT,true):=rfl
    have h2:eD (LProcedureChecker.mk incS []) incT.columns [] (incN (oY true))=some 0:=by
     unfold eD;rw[typeP0 (inc_lit (oY true) incT.columns Z).1 (inc_lit (oY true) incT.columns Z).2];rfl
    have h3:eu (LProcedureChecker.mk incS []) incT.columns [] incE=some (1,true,0):=typeP0 inc_plus.1 inc_plus.2;have h4:bO incT.columns (fun a0=>eX a0 incX 0)=some 1:=rfl;rw[h1,bPs];simp only[Bool.not_true,zd];rw[show(incX.kind !=(4:Int))=true from Z,zc,show aG incX.whereF (0:Int)=some (incN (oY true))from Z,bPs,h2,bPs,pB Z,zd,bPs,kg];rw[show(incX.kind==(4:Int))=false from Z,zd,bV,zd,show incX.exprs=[incE]from Z];simp only[aU];rw[show(incX.kind==(5:Int))=true from Z,zc];simp only[Int.natCast_zero];rw[h4,bPs];simp only[show decide ((1:Int)<0)=false from Z,zd]
    rw[show nZ incX.names 0 (0:Int)=some []from Z,bPs,show aG incX.names (0:Int)=some [97]from Z,bPs,show cD [] [97]=some false from Z,bPs,zd,
     show ez incT.primaryKey 1=some false from Z,bPs,zd,bPs]
    simp only[thenF_nextS,h3,bPs];rfl
   unfold cX;rw[hw];rfl
  rw[(body_both [incX]).2.1];unfold dJ;simp only[aU];rw[hsh,bPs,Bool.not_true,zd,hst];rfl
 rw[hb];rfl
def incQ(a b:Int)(ch:List LChange)(left:Int):LProcedureRun:=LProcedureRun.mk incS (incI a b) [] [] [] ch [] left false
theorem inc_eval(a b:Int)(ch:List LChange)(left:Int)(cols:List LCol)(row:Rq)(e:LExpr):eG (incQ a b ch left) cols row e=some (et (LEnv.mk cols row [] [] []) e,incQ a b ch left):=rfl
theorem inc_true(row:Rq):et (LEnv.mk incT.columns row [] [] []) (incN (oY true))=oY true:=by rw[evalE_eq];rfl
theorem inc_add(k a:Int):et (LEnv.mk incT.columns (incR k a) [] [] []) incE=tK [43] a 1:=by
 have e1:et (LEnv.mk incT.columns (incR k a) [] [] []) incA=LVal.mk 1 a []:=by rw[evalE_eq];rfl
 have e2:et (LEnv.mk incT.columns (incR k a) [] [] []) (incN (LVal.mk 1 1 []))=LVal.mk 1 1 []:=by rw[evalE_eq];rfl
 rw[evalE_eq,show incE.args.map (et (LEnv.mk incT.columns (incR k a) [] [] []))=[et (LEnv.mk incT.columns (incR k a) [] [] []) incA,et (LEnv.mk incT.columns (incR k a) [] [] []) (incN (LVal.mk 1 1 []))]from Z,e1,e2];rfl
theorem inc_write1(left:Int):gI (incQ 5 7 [] left) (incC 1 6)=some (0,incQ 6 7 [incC 1 6] left):=by
 have h:kl incS (incI 5 7) [incC 1 6]=some (incI 6 7,0):=by kernel_rfl
 unfold gI;show cond _ _ (ae (kl incS (incI 5 7) [incC 1 6]) _)=_;rw[h];rfl
theorem inc_write2(left:Int):gI (incQ 6 7 [incC 1 6] left) (incC 2 8)=some (0,incQ 6 8 [incC 1 6,incC 2 8] left):=by
 have h:kl incS (incI 6 7) [incC 2 8]=some (incI 6 8,0):=by kernel_rfl
 unfold gI;show cond _ _ (ae (kl incS (incI 6 7) [incC 2 8]) _)=_;rw[h];rfl
theorem inc_rows(left:Int):iS (incQ 5 7 [] left) incX=some (0,incQ 6 8 [incC 1 6,incC 2 8] left):=by
 unfold iS
 rw[show cI (incQ 5 7 [] left).s.tables (fun a0=>some (gu a0 incX))=some 0 from Z,bPs,show aG (incQ 5 7 [] left).s.tables (0:Int)=some incT from Z,bPs,
  show aG (incQ 5 7 [] left).st (0:Int)=some (LRelation.mk [116] [incR 1 5,incR 2 7])from Z,bPs]
 have hi:bO incT.columns (fun a0=>gq a0 incX ((0:Nat):Int))=some 1:=rfl
 simp only[aU,show aG incX.whereF (0:Int)=some (incN (oY true))from Z,bPs,inc_eval,inc_true,bV,show lu (oY true)=true from Z,Bool.not_true,zd,show incX.kind=5 from Z,show((5:Int)==5)=true from Z,zc,
  show incT.primaryKey=[0]from Z,show incX.exprs=[incE]from Z,hi,inc_add,show aG (incR 1 5) (0:Int)=some (LVal.mk 1 1 [])from Z,show aG (incR 2 7) (0:Int)=some (LVal.mk 1 2 [])from Z,
  show aG (incR 1 5) (1:Int)=some (LVal.mk 1 5 [])from Z,show aG (incR 2 7) (1:Int)=some (LVal.mk 1 7 [])from Z,show∀v:LVal,dq 32 [] [v]=some [v]from fun _=>rfl,dl]
 rw[show LChange.mk 1 incX.table [] ((incR 1 5).set (1:Int).toNat (tK [43] 5 1))=incC 1 6 from Z,inc_write1,bPs];simp only[bne_self_eq_false,zd];simp only[inc_eval,bPs,inc_true,inc_add,show lu (oY true)=true from Z,Bool.not_true,zd,dl];rw[show LChange.mk 1 incX.table [] ((incR 2 7).set (1:Int).toNat (tK [43] 7 1))=incC 2 8 from Z,inc_write2];rfl
theorem increment_ok:ly=some true:=by
 have hstmt:bC (LProcedureRun.mk incS (incI 5 7) [] [] [] [] [] 400 false) [incX]=some (0,incQ 6 8 [incC 1 6,incC 2 8] 399):=by
  rw[(se [incX]).2.2.1];unfold fh
  have hs:co (incQ 5 7 [] 399) incX=some (0,incQ 6 8 [incC 1 6,incC 2 8] 399):=by
   rw[(se [incX]).2.2.2.2.1 incX (by simp)];unfold dU;rw[inc_rows];rfl
  simp only[aU,zd,show iw ((400:Int)-1)=399 from by decide,show decide ((399:Int)<0)=false from Z];rw[show LProcedureRun.mk incS (incI 5 7) [] [] [] [] [] 399 false=incQ 5 7 [] 399 from Z,hs];rfl
 have hrun:mi incS (incI 5 7) (LProcedureProcedure.mk [] [incX]) []=some ([incC 1 6,incC 2 8],[],0):=by
  unfold mi;rw[inc_check,bPs,pB Z,zd,show decide (((([]:Rq).length:Nat):Int)<(((LProcedureProcedure.mk [] [incX]).parameters.length:Nat):Int))=false from Z,zd];simp only[aU,bPs,kg];rw[show eR incS (incI 5 7)=some 0 from by kernel_rfl,bPs,pB Z,zd,show nZ ([]:Rq) 0 ((([]:List Int).length:Nat):Int)=some []from Z,bPs,hstmt];rfl
 unfold ly;show ae (mi incS (incI 5 7) (LProcedureProcedure.mk [] [incX]) []) _=_;rw[hrun];rfl
theorem own_knob:ownKnob prog.godebug=none:=by kernel_rfl
theorem laid_out:laidOutB prog=true:=by kernel_rfl
def lawTypes:List TypeId:=[26,22,56,9,54,53,3,4,29,23,99,24,105,58,28,69,67,46,32,30,66,43,60,62,64,91,88,213,89,33]
theorem lawTypes_ok:lawTypes.all (okT prog lawTypes)=true:=by kernel_rfl
theorem lawTypes_info:∀t∈lawTypes,∃i,prog.info? t=some i/\i.bytes=prog.bytesOf t/\i.size=prog.cellsOf t:=infos_of (by kernel_rfl)
theorem sh9{n:Nat}{pvs:List PV}(h:Sh prog n 9 pvs):∃v:Rb,pvs=[.str v]:=by
 cases n with
 |zero=>simp[Sh]at h
 |succ n=>simp only[Sh,underlying9]at h;obtain⟨m,rfl,_⟩:=h;exact⟨m,rfl⟩
theorem sh3{n:Nat}{pvs:List PV}(h:Sh prog n 3 pvs):∃v:Int,pvs=[ah v]:=by
 cases n with
 |zero=>simp[Sh]at h
 |succ n=>simp only[Sh,underlying3]at h;obtain⟨m,rfl,_⟩:=h;exact⟨m,rfl⟩
theorem sh4{n:Nat}{pvs:List PV}(h:Sh prog n 4 pvs):∃v:Bool,pvs=[aK v]:=by
 cases n with
 |zero=>simp[Sh]at h
 |succ n=>simp only[Sh,underlying4]at h;obtain⟨m,rfl⟩:=h;exact⟨m,rfl⟩
theorem sh53{n:Nat}{pvs:List PV}(h:Sh prog n 53 pvs):∃v:LCol,pvs=aB v:=by
 cases n with
 |zero=>simp[Sh]at h
 |succ n=>
  simp only[Sh,underlying53,List.map_cons,List.map_nil,na]at h
  obtain⟨p0,r0,rfl,h0,p1,r1,rfl,h1,p2,r2,rfl,h2,rfl⟩:=h
  obtain⟨v0,rfl⟩:=sh9 h0
  obtain⟨v1,rfl⟩:=sh3 h1
  obtain⟨v2,rfl⟩:=sh4 h2
  exact⟨LCol.mk v0 v1 v2,rfl⟩
theorem sh54{n:Nat}{pvs:List PV}(h:Sh prog n 54 pvs):∃v:List LCol,pvs=[.list 53 (v.map aB)]:=by
 cases n with
 |zero=>simp[Sh]at h
 |succ n=>
  simp only[Sh,underlying54]at h
  obtain⟨rows,rfl,hr⟩:=h
  obtain⟨xs,rfl⟩:=rowsOf (f:=aB) (fun r hq=>sh53 (hr r hq))
  exact⟨xs,rfl⟩
theorem sh29{n:Nat}{pvs:List PV}(h:Sh prog n 29 pvs):∃v:List Int,pvs=[.list 3 (v.map cq)]:=by
 cases n with
 |zero=>simp[Sh]at h
 |succ n=>
  simp only[Sh,underlying29]at h
  obtain⟨rows,rfl,hr⟩:=h
  obtain⟨xs,rfl⟩:=rowsOf (f:=cq) (fun r hq=>let⟨v,e⟩:=sh3 (hr r hq);⟨v,e⟩)
  exact⟨xs,rfl⟩
theorem sh56{n:Nat}{pvs:List PV}(h:Sh prog n 56 pvs):∃v:LTable,pvs=bM v:=by
 cases n with
 |zero=>simp[Sh]at h
 |succ n=>
  simp only[Sh,underlying56,List.map_cons,List.map_nil,na]at h
  obtain⟨p0,r0,rfl,h0,p1,r1,rfl,h1,p2,r2,rfl,h2,rfl⟩:=h
  obtain⟨v0,rfl⟩:=sh9 h0
  obtain⟨v1,rfl⟩:=sh54 h1
  obtain⟨v2,rfl⟩:=sh29 h2
  exact⟨LTable.mk v0 v1 v2,rfl⟩
theorem sh22{n:Nat}{pvs:List PV}(h:Sh prog n 22 pvs):∃v:List LTable,pvs=[.list 56 (v.map bM)]:=by
 cases n with
 |zero=>simp[Sh]at h
 |succ n=>
  simp only[Sh,underlying22]at h
  obtain⟨rows,rfl,hr⟩:=h
  obtain⟨xs,rfl⟩:=rowsOf (f:=bM) (fun r hq=>sh56 (hr r hq))
  exact⟨xs,rfl⟩
theorem sh99{n:Nat}{pvs:List PV}(h:Sh prog n 99 pvs):∃v:LForeignKey,pvs=gW v:=by
 cases n with
 |zero=>simp[Sh]at h
 |succ n=>
  simp only[Sh,underlying99,List.map_cons,List.map_nil,na]at h
  obtain⟨p0,r0,rfl,h0,p1,r1,rfl,h1,p2,r2,rfl,h2,rfl⟩:=h
  obtain⟨v0,rfl⟩:=sh9 h0
  obtain⟨v1,rfl⟩:=sh29 h1
  obtain⟨v2,rfl⟩:=sh9 h2
  exact⟨LForeignKey.mk v0 v1 v2,rfl⟩
theorem sh23{n:Nat}{pvs:List PV}(h:Sh prog n 23 pvs):∃v:List LForeignKey,pvs=[.list 99 (v.map gW)]:=by
 cases n with
 |zero=>simp[Sh]at h
 |succ n=>
  simp only[Sh,underlying23]at h
  obtain⟨rows,rfl,hr⟩:=h
  obtain⟨xs,rfl⟩:=rowsOf (f:=gW) (fun r hq=>sh99 (hr r hq))
  exact⟨xs,rfl⟩
theorem sh58{n:Nat}{pvs:List PV}(h:Sh prog n 58 pvs):∃v:LVal,pvs=af v:=by
 cases n with
 |zero=>simp[Sh]at h
 |succ n=>
  simp only[Sh,underlying58,List.map_cons,List.map_nil,na]at h
  obtain⟨p0,r0,rfl,h0,p1,r1,rfl,h1,p2,r2,rfl,h2,rfl⟩:=h
  obtain⟨v0,rfl⟩:=sh3 h0
  obtain⟨v1,rfl⟩:=sh3 h1
  obtain⟨v2,rfl⟩:=sh9 h2
  exact⟨LVal.mk v0 v1 v2,rfl⟩
theorem sh105{n:Nat}{pvs:List PV}(h:Sh prog n 105 pvs):∃v:LConstraint,pvs=iK v:=by
 cases n with
 |zero=>simp[Sh]at h
 |succ n=>
  simp only[Sh,underlying105,List.map_cons,List.map_nil,na]at h
  obtain⟨p0,r0,rfl,h0,p1,r1,rfl,h1,p2,r2,rfl,h2,p3,r3,rfl,h3,p4,r4,rfl,h4,rfl⟩:=h
  obtain⟨v0,rfl⟩:=sh9 h0
  obtain⟨v1,rfl⟩:=sh3 h1
  obtain⟨v2,rfl⟩:=sh9 h2
  obtain⟨v3,rfl⟩:=sh3 h3
  obtain⟨v4,rfl⟩:=sh58 h4
  exact⟨LConstraint.mk v0 v1 v2 v3 v4,rfl⟩
theorem sh24{n:Nat}{pvs:List PV}(h:Sh prog n 24 pvs):∃v:List LConstraint,pvs=[.list 105 (v.map iK)]:=by
 cases n with
 |zero=>simp[Sh]at h
 |succ n=>
  simp only[Sh,underlying24]at h
  obtain⟨rows,rfl,hr⟩:=h
  obtain⟨xs,rfl⟩:=rowsOf (f:=iK) (fun r hq=>sh105 (hr r hq))
  exact⟨xs,rfl⟩
theorem sh26{n:Nat}{pvs:List PV}(h:Sh prog n 26 pvs):∃v:LSchema,pvs=da v:=by
 cases n with
 |zero=>simp[Sh]at h
 |succ n=>
  simp only[Sh,underlying26,List.map_cons,List.map_nil,na]at h
  obtain⟨p0,r0,rfl,h0,p1,r1,rfl,h1,p2,r2,rfl,h2,rfl⟩:=h
  obtain⟨v0,rfl⟩:=sh22 h0
  obtain⟨v1,rfl⟩:=sh23 h1
  obtain⟨v2,rfl⟩:=sh24 h2
  exact⟨LSchema.mk v0 v1 v2,rfl⟩
theorem sh46{n:Nat}{pvs:List PV}(h:Sh prog n 46 pvs):∃v:Rq,pvs=[.list 58 (v.map af)]:=by
 cases n with
 |zero=>simp[Sh]at h
 |succ n=>
  simp only[Sh,underlying46]at h
  obtain⟨rows,rfl,hr⟩:=h
  obtain⟨xs,rfl⟩:=rowsOf (f:=af) (fun r hq=>sh58 (hr r hq))
  exact⟨xs,rfl⟩
theorem sh67{n:Nat}{pvs:List PV}(h:Sh prog n 67 pvs):∃v:Rz,pvs=[.list 46 (v.map (ap 58 af))]:=by
 cases n with
 |zero=>simp[Sh]at h
 |succ n=>
  simp only[Sh,underlying67]at h
  obtain⟨rows,rfl,hr⟩:=h
  obtain⟨xs,rfl⟩:=rowsOf (f:=(ap 58 af)) (fun r hq=>let⟨v,e⟩:=sh46 (hr r hq);⟨v,e⟩)
  exact⟨xs,rfl⟩
theorem sh69{n:Nat}{pvs:List PV}(h:Sh prog n 69 pvs):∃v:LRelation,pvs=bW v:=by
 cases n with
 |zero=>simp[Sh]at h
 |succ n=>
  simp only[Sh,underlying69,List.map_cons,List.map_nil,na]at h
  obtain⟨p0,r0,rfl,h0,p1,r1,rfl,h1,rfl⟩:=h
  obtain⟨v0,rfl⟩:=sh9 h0
  obtain⟨v1,rfl⟩:=sh67 h1
  exact⟨LRelation.mk v0 v1,rfl⟩
theorem sh28{n:Nat}{pvs:List PV}(h:Sh prog n 28 pvs):∃v:List LRelation,pvs=[.list 69 (v.map bW)]:=by
 cases n with
 |zero=>simp[Sh]at h
 |succ n=>
  simp only[Sh,underlying28]at h
  obtain⟨rows,rfl,hr⟩:=h
  obtain⟨xs,rfl⟩:=rowsOf (f:=bW) (fun r hq=>sh69 (hr r hq))
  exact⟨xs,rfl⟩
theorem sh43{n:Nat}{pvs:List PV}(h:Sh prog n 43 pvs):∃v:Rs,pvs=[.list 9 (v.map aA)]:=by
 cases n with
 |zero=>simp[Sh]at h
 |succ n=>
  simp only[Sh,underlying43]at h
  obtain⟨rows,rfl,hr⟩:=h
  obtain⟨xs,rfl⟩:=rowsOf (f:=aA) (fun r hq=>let⟨v,e⟩:=sh9 (hr r hq);⟨v,e⟩)
  exact⟨xs,rfl⟩
theorem sh62{n:Nat}{pvs:List PV}(h:Sh prog n 62 pvs):∃v:LExpr,pvs=fJ v:=by
 induction n generalizing pvs with
 |zero=>simp[Sh]at h
 |succ n ih=>
  simp only[Sh,underlying62,List.map_cons,List.map_nil,na]at h
  obtain⟨p0,r0,rfl,h0,p1,r1,rfl,h1,p2,r2,rfl,h2,p3,r3,rfl,h3,p4,r4,rfl,h4,rfl⟩:=h
  obtain⟨v0,rfl⟩:=sh3 h0
  obtain⟨v1,rfl⟩:=sh9 h1
  obtain⟨v2,rfl⟩:=sh3 h2
  obtain⟨v3,rfl⟩:=sh58 h3
  cases n with
  |zero=>simp[Sh]at h4
  |succ n=>
  simp only[Sh,underlying60]at h4
  obtain⟨rows,rfl,hr4⟩:=h4
  obtain⟨v4,rfl⟩:=rowsUp (f:=fJ) (rfl) ih hr4
  exact⟨LExpr.mk v0 v1 v2 v3 v4,by rw[dh];rfl⟩
theorem sh60{n:Nat}{pvs:List PV}(h:Sh prog n 60 pvs):∃v:List LExpr,pvs=[.list 62 (v.map fJ)]:=by
 cases n with
 |zero=>simp[Sh]at h
 |succ n=>
  simp only[Sh,underlying60]at h
  obtain⟨rows,rfl,hr⟩:=h
  obtain⟨xs,rfl⟩:=rowsOf (f:=fJ) (fun r hq=>sh62 (hr r hq))
  exact⟨xs,rfl⟩
theorem sh213{n:Nat}{pvs:List PV}(h:Sh prog n 213 pvs):∃v:LAggregateCall,pvs=oW v:=by
 cases n with
 |zero=>simp[Sh]at h
 |succ n=>
  simp only[Sh,underlying213,List.map_cons,List.map_nil,na]at h
  obtain⟨p0,r0,rfl,h0,p1,r1,rfl,h1,p2,r2,rfl,h2,rfl⟩:=h
  obtain⟨v0,rfl⟩:=sh9 h0
  obtain⟨v1,rfl⟩:=sh9 h1
  obtain⟨v2,rfl⟩:=sh60 h2
  exact⟨LAggregateCall.mk v0 v1 v2,rfl⟩
theorem sh88{n:Nat}{pvs:List PV}(h:Sh prog n 88 pvs):∃v:List LAggregateCall,pvs=[.list 213 (v.map oW)]:=by
 cases n with
 |zero=>simp[Sh]at h
 |succ n=>
  simp only[Sh,underlying88]at h
  obtain⟨rows,rfl,hr⟩:=h
  obtain⟨xs,rfl⟩:=rowsOf (f:=oW) (fun r hq=>sh213 (hr r hq))
  exact⟨xs,rfl⟩
theorem sh89{n:Nat}{pvs:List PV}(h:Sh prog n 89 pvs):∃v:List Bool,pvs=[.list 4 (v.map rBool)]:=by
 cases n with
 |zero=>simp[Sh]at h
 |succ n=>
  simp only[Sh,underlying89]at h
  obtain⟨rows,rfl,hr⟩:=h
  obtain⟨xs,rfl⟩:=rowsOf (f:=rBool) (fun r hq=>let⟨v,e⟩:=sh4 (hr r hq);⟨v,e⟩)
  exact⟨xs,rfl⟩
theorem sh91{n:Nat}{pvs:List PV}(h:Sh prog n 91 pvs):∃v:LQuery,pvs=dI v:=by
 induction n generalizing pvs with
 |zero=>simp[Sh]at h
 |succ n ih=>
  simp only[Sh,underlying91,List.map_cons,List.map_nil,na]at h
  obtain⟨p0,r0,rfl,h0,p1,r1,rfl,h1,p2,r2,rfl,h2,p3,r3,rfl,h3,p4,r4,rfl,h4,p5,r5,rfl,h5,p6,r6,rfl,h6,p7,r7,rfl,h7,p8,r8,rfl,h8,rfl⟩:=h
  obtain⟨v0,rfl⟩:=sh3 h0
  obtain⟨v1,rfl⟩:=sh9 h1
  obtain⟨v2,rfl⟩:=sh43 h2
  obtain⟨v3,rfl⟩:=sh60 h3
  obtain⟨v4,rfl⟩:=sh88 h4
  obtain⟨v5,rfl⟩:=sh89 h5
  obtain⟨v6,rfl⟩:=sh3 h6
  obtain⟨v7,rfl⟩:=sh3 h7
  cases n with
  |zero=>simp[Sh]at h8
  |succ n=>
  simp only[Sh,underlying64]at h8
  obtain⟨rows,rfl,hr8⟩:=h8
  obtain⟨v8,rfl⟩:=rowsUp (f:=dI) (rfl) ih hr8
  exact⟨LQuery.mk v0 v1 v2 v3 v4 v5 v6 v7 v8,by rw[dd];rfl⟩
theorem sh64{n:Nat}{pvs:List PV}(h:Sh prog n 64 pvs):∃v:List LQuery,pvs=[.list 91 (v.map dI)]:=by
 cases n with
 |zero=>simp[Sh]at h
 |succ n=>
  simp only[Sh,underlying64]at h
  obtain⟨rows,rfl,hr⟩:=h
  obtain⟨xs,rfl⟩:=rowsOf (f:=dI) (fun r hq=>sh91 (hr r hq))
  exact⟨xs,rfl⟩
theorem sh66{n:Nat}{pvs:List PV}(h:Sh prog n 66 pvs):∃v:LProcedureStatement,pvs=aH v:=by
 induction n generalizing pvs with
 |zero=>simp[Sh]at h
 |succ n ih=>
  simp only[Sh,underlying66,List.map_cons,List.map_nil,na]at h
  obtain⟨p0,r0,rfl,h0,p1,r1,rfl,h1,p2,r2,rfl,h2,p3,r3,rfl,h3,p4,r4,rfl,h4,p5,r5,rfl,h5,p6,r6,rfl,h6,p7,r7,rfl,h7,p8,r8,rfl,h8,p9,r9,rfl,h9,rfl⟩:=h
  obtain⟨v0,rfl⟩:=sh3 h0
  obtain⟨v1,rfl⟩:=sh3 h1
  obtain⟨v2,rfl⟩:=sh9 h2
  obtain⟨v3,rfl⟩:=sh9 h3
  obtain⟨v4,rfl⟩:=sh43 h4
  obtain⟨v5,rfl⟩:=sh60 h5
  obtain⟨v6,rfl⟩:=sh60 h6
  obtain⟨v7,rfl⟩:=sh64 h7
  cases n with
  |zero=>simp[Sh]at h8
  |succ n=>
  simp only[Sh,underlying30]at h8
  obtain⟨rows,rfl,hr8⟩:=h8
  obtain⟨v8,rfl⟩:=rowsUp (f:=aH) (rfl) ih hr8
  simp only[Sh,underlying30]at h9
  obtain⟨rows,rfl,hr9⟩:=h9
  obtain⟨v9,rfl⟩:=rowsUp (f:=aH) (rfl) ih hr9
  exact⟨LProcedureStatement.mk v0 v1 v2 v3 v4 v5 v6 v7 v8 v9,by rw[dr];rfl⟩
theorem sh30{n:Nat}{pvs:List PV}(h:Sh prog n 30 pvs):∃v:List LProcedureStatement,pvs=[.list 66 (v.map aH)]:=by
 cases n with
 |zero=>simp[Sh]at h
 |succ n=>
  simp only[Sh,underlying30]at h
  obtain⟨rows,rfl,hr⟩:=h
  obtain⟨xs,rfl⟩:=rowsOf (f:=aH) (fun r hq=>sh66 (hr r hq))
  exact⟨xs,rfl⟩
theorem sh32{n:Nat}{pvs:List PV}(h:Sh prog n 32 pvs):∃v:LProcedureProcedure,pvs=eh v:=by
 cases n with
 |zero=>simp[Sh]at h
 |succ n=>
  simp only[Sh,underlying32,List.map_cons,List.map_nil,na]at h
  obtain⟨p0,r0,rfl,h0,p1,r1,rfl,h1,rfl⟩:=h
  obtain⟨v0,rfl⟩:=sh29 h0
  obtain⟨v1,rfl⟩:=sh30 h1
  exact⟨LProcedureProcedure.mk v0 v1,rfl⟩
theorem sh33{n:Nat}{pvs:List PV}(h:Sh prog n 33 pvs):∃v:Rq,pvs=[.list 58 (v.map af)]:=by
 cases n with
 |zero=>simp[Sh]at h
 |succ n=>
  simp only[Sh,underlying33]at h
  obtain⟨rows,rfl,hr⟩:=h
  obtain⟨xs,rfl⟩:=rowsOf (f:=af) (fun r hq=>sh58 (hr r hq))
  exact⟨xs,rfl⟩
theorem law_args:∀args,ArgsSh prog Tryz.f3.params.toList args->bT args<=1048576->aY prog 3 args (.val (.bool true)):=by
 intro args h hN;rw[params3]at h;simp only[ArgsSh]at h
 obtain⟨n0,p0,r0,rfl,h0,n1,p1,r1,rfl,h1,n2,p2,r2,rfl,h2,n3,p3,r3,rfl,h3,rfl⟩:=h
 obtain⟨v0,rfl⟩:=sh26 h0
 obtain⟨v1,rfl⟩:=sh28 h1
 obtain⟨v2,rfl⟩:=sh32 h2
 obtain⟨v3,rfl⟩:=sh33 h3
 have e0:argPV prog 26 (da v0)= .agg (da v0):=by simp only[argPV,underlying26]
 rw[e0]at hN⊢;have e1:argPV prog 28 [.list 69 (v1.map bW)]= .list 69 (v1.map bW):=by simp only[argPV,underlying28];rfl
 rw[e1]at hN⊢;have e2:argPV prog 32 (eh v2)= .agg (eh v2):=by simp only[argPV,underlying32]
 rw[e2]at hN⊢;have e3:argPV prog 33 [.list 58 (v3.map af)]= .list 58 (v3.map af):=by simp only[argPV,underlying33];rfl
 rw[e3]at hN⊢;simp only[bT,PV.bulk]at hN;have hs0:SmallS v0:=smallS_bulk (n:=1048576) (by omega) (by omega);have hb2:ic (v2.body.map aH)<=bT (eh v2):=by simp only[eh,bT,PV.bulk];omega
 have hp2:ic (v2.body.map aH)<=1048576:=by omega
 exact us v0 v1 v2 v3 true (changesApply_law increment_ok hs0 v1 hp2 v3)
set_option maxRecDepth 100000 in
theorem law_wf:(fun(P:Program) (f:FuncId) (fn:Func) (s:ChangeSpec) (c:OpenClaim)=>(P.funcs.size,f,fn.params.size,s.name,c.func,c.wf (OpenSpec.ofChange s)).2.2.2.2.2) prog 3 Tryz.f3 (Rows.OpenSpec.upto Rows.procedureChangesApplySpec).bare Rows.procedureChangesApplyUptoRow=true:=by kernel_rfl
set_option maxRecDepth 100000 in
theorem law_laid:(fun(P:Program) (f:FuncId) (fn:Func) (s:ChangeSpec) (c:OpenClaim)=>(P.funcs.size,f,fn.params.size,s.name,c.func,laidOutB P).2.2.2.2.2) prog 3 Tryz.f3 (Rows.OpenSpec.upto Rows.procedureChangesApplySpec).bare Rows.procedureChangesApplyUptoRow=true:=by kernel_rfl
set_option maxRecDepth 100000 in
theorem law_mapsRowed:(fun(P:Program) (f:FuncId) (fn:Func) (s:ChangeSpec) (c:OpenClaim)=>(P.funcs.size,f,fn.params.size,s.name,c.func,mapsRowed P).2.2.2.2.2) prog 3 Tryz.f3 (Rows.OpenSpec.upto Rows.procedureChangesApplySpec).bare Rows.procedureChangesApplyUptoRow=true:=by kernel_rfl
set_option maxRecDepth 100000 in
theorem law_rr:(fun(P:Program) (f:FuncId) (fn:Func) (s:ChangeSpec) (c:OpenClaim)=>(P.funcs.size,f,fn.params.size,s.name,c.func,fn.params.all (P.readableRec ·)).2.2.2.2.2) prog 3 Tryz.f3 (Rows.OpenSpec.upto Rows.procedureChangesApplySpec).bare Rows.procedureChangesApplyUptoRow=true:=by kernel_rfl
set_option maxRecDepth 100000 in
theorem law_nt:(fun(P:Program) (f:FuncId) (fn:Func) (s:ChangeSpec) (c:OpenClaim)=>(P.funcs.size,f,fn.params.size,s.name,c.func,namedTie P c.named s.vars).2.2.2.2.2) prog 3 Tryz.f3 (Rows.OpenSpec.upto Rows.procedureChangesApplySpec).bare Rows.procedureChangesApplyUptoRow=true:=by kernel_rfl
set_option maxRecDepth 100000 in
theorem law_st:(fun(P:Program) (f:FuncId) (fn:Func) (s:ChangeSpec) (c:OpenClaim)=>(P.funcs.size,f,fn.params.size,s.name,c.func,(c.stops==[])&&(P.stops==[])&&(c.knobs==[])&&(P.stopKnobs==[])).2.2.2.2.2) prog 3 Tryz.f3 (Rows.OpenSpec.upto Rows.procedureChangesApplySpec).bare Rows.procedureChangesApplyUptoRow=true:=by kernel_rfl
set_option maxRecDepth 100000 in
theorem law_inPlace:(fun(P:Program) (f:FuncId) (fn:Func) (s:ChangeSpec) (c:OpenClaim)=>(P.funcs.size,f,fn.params.size,s.name,c.func,c.inPlace==P.inPlace f).2.2.2.2.2) prog 3 Tryz.f3 (Rows.OpenSpec.upto Rows.procedureChangesApplySpec).bare Rows.procedureChangesApplyUptoRow=true:=by kernel_rfl
set_option maxRecDepth 100000 in
theorem law_unf:(fun(P:Program) (f:FuncId) (fn:Func) (s:ChangeSpec) (c:OpenClaim)=>(P.funcs.size,f,fn.params.size,s.name,c.func,c.unfollowed==P.unfollowed f).2.2.2.2.2) prog 3 Tryz.f3 (Rows.OpenSpec.upto Rows.procedureChangesApplySpec).bare Rows.procedureChangesApplyUptoRow=true:=by kernel_rfl
set_option maxRecDepth 100000 in
theorem law_rec:(fun(P:Program) (f:FuncId) (fn:Func) (s:ChangeSpec) (c:OpenClaim)=>(P.funcs.size,f,fn.params.size,s.name,c.func,c.recurses==P.recurses f).2.2.2.2.2) prog 3 Tryz.f3 (Rows.OpenSpec.upto Rows.procedureChangesApplySpec).bare Rows.procedureChangesApplyUptoRow=true:=by kernel_rfl
set_option maxRecDepth 100000 in
theorem law_named:(fun(P:Program) (f:FuncId) (fn:Func) (s:ChangeSpec) (c:OpenClaim)=>(P.funcs.size,f,fn.params.size,s.name,c.func,c.named==P.varsNamed f).2.2.2.2.2) prog 3 Tryz.f3 (Rows.OpenSpec.upto Rows.procedureChangesApplySpec).bare Rows.procedureChangesApplyUptoRow=true:=by kernel_rfl
set_option maxRecDepth 100000 in
theorem law_maps:(fun(P:Program) (f:FuncId) (fn:Func) (s:ChangeSpec) (c:OpenClaim)=>(P.funcs.size,f,fn.params.size,s.name,c.func,(c.maps==(fn.params.toList++s.plain.varTypes P).any (P.mapsRec ·))&&(c.ifaces==(fn.params.toList++s.plain.varTypes P).any (P.ifacesRec ·))&&(c.mapsOut==P.mapsAmong fn.resultTypes.toList)).2.2.2.2.2) prog 3 Tryz.f3 (Rows.OpenSpec.upto Rows.procedureChangesApplySpec).bare Rows.procedureChangesApplyUptoRow=true:=by kernel_rfl
set_option maxRecDepth 100000 in
theorem law_loops:(fun(P:Program) (f:FuncId) (fn:Func) (s:ChangeSpec) (c:OpenClaim)=>(P.funcs.size,f,fn.params.size,s.name,c.func,(c.loops==(fn.params.toList++s.plain.varTypes P).any (P.loopsFrom ·))).2.2.2.2.2) prog 3 Tryz.f3 (Rows.OpenSpec.upto Rows.procedureChangesApplySpec).bare Rows.procedureChangesApplyUptoRow=true:=by kernel_rfl
set_option maxRecDepth 100000 in
theorem law_wide:(fun(P:Program) (f:FuncId) (fn:Func) (s:ChangeSpec) (c:OpenClaim)=>(P.funcs.size,f,fn.params.size,s.name,c.func,(c.wideKeys==(fn.params.toList++s.plain.varTypes P++fn.resultTypes.toList).any (P.wideKeysFrom ·))).2.2.2.2.2) prog 3 Tryz.f3 (Rows.OpenSpec.upto Rows.procedureChangesApplySpec).bare Rows.procedureChangesApplyUptoRow=true:=by kernel_rfl
set_option maxRecDepth 100000 in
theorem law_rest1:(fun(P:Program) (f:FuncId) (fn:Func) (s:ChangeSpec) (c:OpenClaim)=>(P.funcs.size,f,fn.params.size,s.name,c.func,s.vars.all (P.varReadable ·)&&fn.resultTypes.all (fun t=>P.readableRec t&&decide (t<P.types.size))&&(c.ifacesOut==fn.resultTypes.toList.any (P.ifacesRec ·))&&(c.loopsOut==fn.resultTypes.toList.any (P.loopsFrom ·))).2.2.2.2.2) prog 3 Tryz.f3 (Rows.OpenSpec.upto Rows.procedureChangesApplySpec).bare Rows.procedureChangesApplyUptoRow=true:=by kernel_rfl
set_option maxRecDepth 100000 in
theorem law_plainKeys:(fun(P:Program) (f:FuncId) (fn:Func) (s:ChangeSpec) (c:OpenClaim)=>(P.funcs.size,f,fn.params.size,s.name,c.func,c.plainKeys==P.plainKeys).2.2.2.2.2) prog 3 Tryz.f3 (Rows.OpenSpec.upto Rows.procedureChangesApplySpec).bare Rows.procedureChangesApplyUptoRow=true:=by kernel_rfl
set_option maxRecDepth 100000 in
theorem law_rest2:(fun(P:Program) (f:FuncId) (fn:Func) (s:ChangeSpec) (c:OpenClaim)=>(P.funcs.size,f,fn.params.size,s.name,c.func,c.shortTexts.isNone&&P.stopsHeard&&P.mayEnter&&(c.lifted==P.liftsFinal)&&(P.make==some c.make)).2.2.2.2.2) prog 3 Tryz.f3 (Rows.OpenSpec.upto Rows.procedureChangesApplySpec).bare Rows.procedureChangesApplyUptoRow=true:=by kernel_rfl
set_option maxRecDepth 100000 in
theorem law_kinds:(fun(P:Program) (f:FuncId) (fn:Func) (s:ChangeSpec) (c:OpenClaim)=>(P.funcs.size,f,fn.params.size,s.name,c.func,(c.kinds==(if c.domain.isEmpty then []else fn.params.toList.map fun t=>match P.underlying t with|some (.int k)=>some k|_=>none))&&(c.pinned==c.pinnedBy)).2.2.2.2.2) prog 3 Tryz.f3 (Rows.OpenSpec.upto Rows.procedureChangesApplySpec).bare Rows.procedureChangesApplyUptoRow=true:=by kernel_rfl
set_option maxRecDepth 100000 in
theorem law_veil:(fun(P:Program) (f:FuncId) (fn:Func) (s:ChangeSpec) (c:OpenClaim)=>(P.funcs.size,f,fn.params.size,s.name,c.func,(c.veiled==(fn.params.toList++s.plain.varTypes P++fn.resultTypes.toList).any (P.veiledRec ·))&&c.veiledFits P fn.params.toList (fn.params.toList++s.plain.varTypes P++fn.resultTypes.toList)).2.2.2.2.2) prog 3 Tryz.f3 (Rows.OpenSpec.upto Rows.procedureChangesApplySpec).bare Rows.procedureChangesApplyUptoRow=true:=by kernel_rfl
set_option maxRecDepth 100000 in
theorem law_facts:joinedFacts prog 3 Tryz.f3 (Rows.OpenSpec.upto Rows.procedureChangesApplySpec).bare Rows.procedureChangesApplyUptoRow=true:=joined_of law_wf law_laid law_mapsRowed law_rr law_nt law_st law_inPlace law_unf law_rec law_named law_maps law_loops law_wide law_rest1 law_plainKeys law_rest2 law_kinds law_veil
theorem gl_all(W:World):Gl W []:=by
 refine⟨⟨?_,?_,?_⟩,?_⟩
 ·intro b hb;simp[glI]at hb
 ·intro b hb;simp[glT]at hb
 ·intro b hb;simp[glN]at hb
 ·intro b hb;simp[glB,glI,glT,glN]at hb
set_option maxRecDepth 100000 in
theorem law_lifted(os:Os)(started:os.Started)(H:Type)(enc:TypeId×Value->H)(F:Stop.Interp):
  ReturnsInHanded {} checked os 3 .any ((Rows.OpenSpec.upto Rows.procedureChangesApplySpec).pre6 enc prog Tryz.f3 Rows.procedureChangesApplyUptoRow.domain false) (((Rows.OpenSpec.upto Rows.procedureChangesApplySpec).at F).post enc prog Tryz.f3 false true false false):=by
 refine returnsInHanded_of_cond_sized (C:=checked) (s:=Rows.OpenSpec.upto Rows.procedureChangesApplySpec) (k:=Rows.uptoSmall) Z own_knob started (by kernel_rfl) func3
  (OpenSpec.witness (enc:=enc) (C:=checked) (s:=Rows.OpenSpec.upto Rows.procedureChangesApplySpec) (k:=Rows.uptoSmall) Z false ⟨#[],#[.agg #[.slice none 0 0,.slice none 0 0,.slice none 0 0],.slice none 0 0,.agg #[.slice none 0 0,.slice none 0 0],.slice none 0 0],[]⟩ 8 (by kernel_rfl) (by kernel_rfl) (by kernel_rfl)
   (x:=([.agg [.nil,.nil,.nil],.nil,.agg [.nil,.nil],.nil],[],[])) (by kernel_rfl) Z (by kernel_rfl)) ?_
 intro W base args ds gs before hval hW _ hk hsz _
 have hN:((ds++gs).map (fun d=>Rows.uptoBulk d)).sum<=1048576:=by
  rw[tE];exact of_decide_eq_true hk
 refine law_callsB (s:=Rows.procedureChangesApplySpec) (tb:=4) bulk_is laid_out Z ?_ Z underlying4 ?_ lawTypes_ok lawTypes_info ?_ law_args hval hW (gl_all W) hsz hN
 ·rw[params3];intro t ht;simp only[List.mem_cons,List.mem_nil_iff,or_false]at ht;rcases ht with rfl|rfl|rfl|rfl<;>exact⟨by kernel_rfl,of_decide_eq_true (by kernel_rfl)⟩
 ·intro ds hlen;rw[params3]at hlen
  match ds,hlen with
  |[d0,d1,d2,d3],_=>rfl
 ·rw[params3];intro t ht;simp only[List.mem_cons,List.mem_nil_iff,or_false]at ht;rcases ht with rfl|rfl|rfl|rfl<;>simp[lawTypes]
theorem procedureChangesApplyUpto_holds:Rows.ProcedureChangesApplyUptoSaid:=
 OpenClaim.holds_of_cond 3 Tryz.f3 Z Z Z Z Z Z Z ⟨rfl,rfl,rfl,rfl,rfl⟩ Z Z Z Z Z (by kernel_rfl) func3 law_facts
  (of_decide_eq_true (by kernel_rfl)) (by unfold Func.isWrapper;rw[zy (by decide+kernel)];exact⟨rfl,rfl⟩)
  (fun os started H enc _ F=>law_lifted os started H enc F)
end
end Go.Proofs.YtafdcemcgfbhcaaGreat
