/- procedureSequenceUpto_holds, part 2: the layer, the plain functions and what they compute; conditions as in the statement. -/
import Derived.Test.YtafdcemcgfbhcaaGreatDoorSea
set_option maxHeartbeats 4000000
namespace Go.Ab
noncomputable section
def dstep(T:TT)(rb:RB)(ops:Array Oper)(k n:Nat)(s:Nat->PV)(bx:Nat->Option Box):Option (Nat->PV):=
 match ops[k]? with
 |some o=>match aF ops s o with
  |some true=>match dW o.op with
   | .det=>match jQ T (if rb.b o then bx else fun _=>none) o.op (evS s)with
    |some r0=>match jt r0 with
     |some r=>putD n s o.dst r
     |none=>none
    |none=>none
   |_=>none
  |some false=>putD n s o.dst tK
  |none=>none
 |none=>none
section
variable{P:Program}{T:TT}{rb:RB}{ops:Array Oper}{k:Nat}{L:List Nat}{n:Nat}{s s':Nat->PV}{bx:Nat->Option Box}{ob:Nat->Option Obj}{K:PState->Prop}{o:Oper}
theorem Ao.quo{rest:List Oper}(hT:T.Ok P)(hg:aF ops s o=some true){t t':TypeId}{x y:Operand}(ho:o.op= .binOp .quo t x y t'){kk:IntKind}{a b:Int}(hx:evS s x= .val (.int kk a))(hy:evS s y= .val (.int kk b))(hb:b≠0)
  (hp:putD n s o.dst (.val (.int kk (kk.wrap (a.tdiv b))))=some s') (h:Ao P ops rest ⟨n,s',bx,ob⟩ K):Ao P ops (o::rest) ⟨n,s,bx,ob⟩ K:=by
 refine qt hT hg (r:= .val (.int kk (kk.wrap (a.tdiv b)))) ?_ hp h;rw[ho];simp[kD,qbin,hx,hy,hb]
theorem Do.cat(ho:ops[k]? =some o)(hg:aF ops s o=some true){t t':TypeId}{x y:Operand}(hop:o.op= .binOp .add t x y t'){a b:Rb}(hx:evS s x= .str a)(hy:evS s y= .str b)(hb:a.length+b.length<=jO)
  (hp:putD n s o.dst (.str (a++b))=some s') (h:Do P T rb ops L ⟨n,s',bx,ob⟩ K):Do P T rb ops (k::L) ⟨n,s,bx,ob⟩ K:=by
 refine⟨o,ho,true,hg,?_⟩
 have hc:dW o.op= .det:=by rw[hop];rfl
 simp only[if_true,hc]
 exact⟨.str (a++b),s',.inl (by rw[hop];simp[jQ,kD,qbin,hx,hy,hb]),hp,h⟩
theorem iu{rest:List Oper}(_hg:aF ops s o=some true)(h:Ao P ops (o::rest) ⟨n,s,bx,ob⟩ K):Ao P ops (o::rest) ⟨n,s,bx,ob⟩ K:=h
theorem oK(_ho:ops[k]? =some o)(_hg:aF ops s o=some true)(h:Do P T rb ops (k::L) ⟨n,s,bx,ob⟩ K):Do P T rb ops (k::L) ⟨n,s,bx,ob⟩ K:=h
theorem dE{st:PState}(h:K st):Do P T rb ops [] st K:=h
theorem jm(hs:dstep T rb ops k n s bx=some s')(h:Do P T rb ops L ⟨n,s',bx,ob⟩ K):Do P T rb ops (k::L) ⟨n,s,bx,ob⟩ K:=by
 unfold dstep at hs;split at hs
 ·rename_i o ho;split at hs
  ·rename_i hg;split at hs
   ·rename_i hc;split at hs
    ·rename_i r0 hd;rw[jS]at hs
     refine⟨o,ho,true,hg,?_⟩
     simp only[if_true,hc]
     exact⟨r0,s',.inl hd,hs,h⟩
    ·cases hs
   ·cases hs
  ·rename_i hg
   refine⟨o,ho,false,hg,?_⟩
   simp only[Bool.false_eq_true,if_false]
   exact⟨s',hs,h⟩
  ·cases hs
 ·cases hs
theorem wN(ho:ops[k]? =some o)(hg:aF ops s o=some true)(hc:dW o.op= .det){r:PV}(hd:jQ T (if rb.b o then bx else fun _=>none) o.op (evS s)=some r)(hp:putD n s o.dst r=some s')
  (h:Do P T rb ops L ⟨n,s',bx,ob⟩ K):Do P T rb ops (k::L) ⟨n,s,bx,ob⟩ K:=by
 refine⟨o,ho,true,hg,?_⟩
 simp only[if_true,hc]
 exact⟨r,s',.inl hd,hp,h⟩
theorem Do.lB(ho:ops[k]? =some o)(hrb:rb.b o=true)(hg:aF ops s o=some true){t:TypeId}{x:Operand}(hop:o.op= .load t x){ti:TInfo}(hti:T.get t=some ti){tag b off:Nat}{cells:List PV}
  (hx:evS s x= .box tag b off) (hb:bx tag=some ⟨b,cells⟩) {r:PV} (hr:(eU ti off cells).bind jt=some r) (hp:putD n s o.dst r=some s')
  (h:Do P T rb ops L ⟨n,s',bx,ob⟩ K):Do P T rb ops (k::L) ⟨n,s,bx,ob⟩ K:=by
 have hr':eU ti off cells=some r:=by
  cases hq:eU ti off cells with
  |none=>simp[hq]at hr
  |some q=>rw[hq,Option.bind_some,jS]at hr;exact hr
 refine wN ho hg (by rw[hop];rfl) (r:=r) ?_ hp h;rw[hop,hrb];simp[jQ,kD,hti,hx,ql,hb,hr']
theorem kP{t:TypeId}{x:Operand}{ti:TInfo}{tag b off:Nat}{cells:List PV}{r:PV}(h:Do P T rb ops L ⟨n,s',bx,ob⟩ K)(ho:ops[k]? =some o:=by exact Z)(hrb:rb.b o=true:=by exact Z)(hg:aF ops s o=some true:=by exact Z)(hop:o.op= .load t x:=by exact Z)(hti:T.get t=some ti:=by exact Z)(hx:evS s x= .box tag b off:=by exact Z)(hb:bx tag=some ⟨b,cells⟩:=by exact Z)(hr:(eU ti off cells).bind jt=some r:=by exact Z)(hp:putD n s o.dst r=some s':=by exact Z):Do P T rb ops (k::L) ⟨n,s,bx,ob⟩ K:=Do.lB ho hrb hg hop hti hx hb hr hp h
theorem wk(hT:T.Ok P)(ho:ops[k]? =some o)(hsl:rb.sl o=true)(hg:aF ops s o=some true){t:TypeId}{x:Operand}(hop:o.op= .load t x){ti:TInfo}(hti:T.get t=some ti){tag b off:Nat}{cells:List PV}
  (hx:evS s x= .box tag b off) (hb:bx tag=some ⟨b,cells⟩) (hst:rb.st tag=true) {r:PV} (hr:(eU ti off cells).bind jt=some r) (hp:putD n s o.dst r=some s')
  (h:Do P T rb ops L ⟨n,s',bx,ob⟩ K):Do P T rb ops (k::L) ⟨n,s,bx,ob⟩ K:=by
 have hr':eU ti off cells=some r:=by
  cases hq:eU ti off cells with
  |none=>simp[hq]at hr
  |some q=>rw[hq,Option.bind_some,jS]at hr;exact hr
 refine⟨o,ho,true,hg,?_⟩
 have hc:dW o.op= .det:=by rw[hop];rfl
 simp only[if_true,hc]
 refine⟨r,s',.inr fun bx' hq=>?_,hp,h⟩
 intro C M a w hi he
 obtain⟨u,h1,h2⟩:=det_load hT hti hi (he x (by rw[hop];simp[Op.operands])) (r:=r) (by rw[hx];simp[ql,hq hsl tag hst,hb,hr'])
 exact⟨u,by simp[execOp,hop,h1],h2⟩
theorem wW(ho:ops[k]? =some o)(hg:aF ops s o=some true){t:TypeId}{x i:Operand}(hop:o.op= .indexAddr t x i){ti:TInfo}(hti:T.get t=some ti){e:TypeId}(hd:ti.desc= .slice e){rows:List (List PV)}(hx:evS s x= .list e rows){kk:IntKind}{j:Int}
  (hi:evS s i= .val (.int kk j)) {r:List PV} (h0:0<=j) (hr:rows[j.toNat]? =some r) (hp:putD n s o.dst (.ptr r)=some s') (h:Do P T rb ops L ⟨n,s',bx,ob⟩ K):Do P T rb ops (k::L) ⟨n,s,bx,ob⟩ K:=by
 refine wN ho hg (by rw[hop];rfl) (r:= .ptr r) ?_ hp h;rw[hop];simp[jQ,kD,hti,hx,hi,hd,h0,hr]
theorem pL{t:TypeId}{x i:Operand}{ti:TInfo}{e:TypeId}{rows:List (List PV)}{kk:IntKind}{j:Int}{r:List PV}(h0:0<=j)(hr:rows[j.toNat]? =some r)(h:Do P T rb ops L ⟨n,s',bx,ob⟩ K)(ho:ops[k]? =some o:=by exact Z)(hg:aF ops s o=some true:=by exact Z)(hop:o.op= .indexAddr t x i:=by exact Z)(hti:T.get t=some ti:=by exact Z)(hd:ti.desc= .slice e:=by exact Z)(hx:evS s x= .list e rows:=by exact Z)(hi:evS s i= .val (.int kk j):=by exact Z)(hp:putD n s o.dst (.ptr r)=some s':=by exact Z):Do P T rb ops (k::L) ⟨n,s,bx,ob⟩ K:=wW ho hg hop hti hd hx hi h0 hr hp h
def dsteps(T:TT)(rb:RB)(ops:Array Oper)(n:Nat)(bx:Nat->Option Box):Nat->List Nat->(Nat->PV)->Option (List Nat×(Nat->PV))
 |0,l,s=>some (l,s)
 |k+1,o::l,s=>match dstep T rb ops o n s bx with
  |some s'=>dsteps T rb ops n bx k l s'
  |none=>none
 |_+1,[],_=>none
theorem oa:∀(k:Nat) {l rest:List Nat} {s s':Nat->PV} (_:dsteps T rb ops n bx k l s=some (rest,s')) (_:Do P T rb ops rest ⟨n,s',bx,ob⟩ K),Do P T rb ops l ⟨n,s,bx,ob⟩ K
 |0,l,rest,s,s',h,hk=>by
  simp only[dsteps,zo,Prod.mk.injEq]at h;rw[h.1,h.2];exact hk
 |k+1,[],rest,s,s',h,hk=>by cases h
 |k+1,o::l,rest,s,s',h,hk=>by
  rw[dsteps]at h;cases hq:dstep T rb ops o n s bx with
  |none=>rw[hq]at h;cases h
  |some s1=>
   rw[hq]at h;exact jm hq (oa k h hk)
theorem pI{j:Nat}{want b:Bool}{d:Nat}(_ho:ops[k]? =some o)(_hg:o.guard=some (j,want))(_hd:(ops[j]?).bind (·.dst)=some d)(hs:s d= .val (.bool b))
  (ht:b=true->Do P T rb ops (k::L) ⟨n,upd s d (.val (.bool true)),bx,ob⟩ K) (hf:b=false->Do P T rb ops (k::L) ⟨n,upd s d (.val (.bool false)),bx,ob⟩ K):Do P T rb ops (k::L) ⟨n,s,bx,ob⟩ K:=by
 cases b
 ·have:=hf rfl;rwa [uf _ _ _ hs]at this
 ·have:=ht rfl;rwa [uf _ _ _ hs]at this
theorem wX(ho:ops[k]? =some o)(hg:aF ops s o=some true){fx:Operand}{av0:Array Operand}{ts:Array TypeId}(hop:o.op= .call {callee:= .value fx,args:=av0,argTypes:=ts}){g:FuncId}{caps:List PV}
  (hf:evS s fx= .fn g caps) (hcall:∀vs w,(callFunc g vs).run P w= .ok (.enter g vs) w) {args:List PV} (hle:ip P (av0.toList.map (evS s)++caps) args) {r:PV} (hc:aC P g args r)
  (hp:putD n s o.dst r=some s') (h:Do P T rb ops L ⟨n,s',bx,ob⟩ K):Do P T rb ops (k::L) ⟨n,s,bx,ob⟩ K:=by
 refine⟨o,ho,true,hg,?_⟩
 simp only[if_true,hop,dW];exact .inr fun bx'=>eff_callP hop hf hcall hle hc ⟨rfl,fun _=>rfl,s',hp,h⟩
theorem bI{fx:Operand}{av0:Array Operand}{ts:Array TypeId}{g:FuncId}{caps:List PV}{args:List PV}{r:PV}(hcall:∀vs w,(callFunc g vs).run P w= .ok (.enter g vs) w)(hle:ip P (av0.toList.map (evS s)++caps) args)(hc:aC P g args r)(h:Do P T rb ops L ⟨n,s',bx,ob⟩ K)(ho:ops[k]? =some o:=by exact Z)(hg:aF ops s o=some true:=by exact Z)(hop:o.op= .call {callee:= .value fx,args:=av0,argTypes:=ts}:=by exact Z)(hf:evS s fx= .fn g caps:=by exact Z)(hp:putD n s o.dst r=some s':=by exact Z):Do P T rb ops (k::L) ⟨n,s,bx,ob⟩ K:=wX ho hg hop hf hcall hle hc hp h
theorem rQ(ho:ops[k]? =some o)(hg:aF ops s o=some true){fx:Operand}{av0:Array Operand}{ts:Array TypeId}(hop:o.op= .call {callee:= .value fx,args:=av0,argTypes:=ts}){g:FuncId}{caps:List PV}
  (hf:evS s fx= .fn g caps) (hcall:∀vs w,(callFunc g vs).run P w= .ok (.enter g vs) w) {args:List PV} (hle:ip P (av0.toList.map (evS s)++caps) args) {d:Nat} (hd:o.dst=some d) (hlt:Nat.blt d n=true) {e:TypeId} {rows:List (List PV)} (hc:iv P g args (lf d e rows))
  (h:∀q,Do P T rb ops L ⟨n,upd s d (.own d q rows.length),bx,upd ob d (some ⟨q,e,rows,true⟩)⟩ K) (hpc:rb.pc=false:=by rfl):Do P T rb ops (k::L) ⟨n,s,bx,ob⟩ K:=by
 refine⟨o,ho,true,hg,?_⟩
 simp only[if_true,hop,dW];right;intro bx';refine eff_call hop hf hcall hle hc fun u H' ⟨q,hu,hH⟩=>?_
 subst hu;subst hH;rw[Heap.over_one]
 exact⟨rfl,(fun hx=>by rw[hpc,Bool.false_and]at hx;cases hx),_,by simp[hd,putD,hlt],h q⟩
theorem pY(ho:ops[k]? =some o)(hg:aF ops s o=some true){t:TypeId}(hop:o.op= .alloc t){d:Nat}(hd:o.dst=some d){ti:TInfo}(hti:T.get t=some ti){cs:List PV}(hc:gF (cq ti)=some cs)(hlt:Nat.blt d n=true)(hbx:bx d=none)
  (h:∀b,Do P T rb ops L ⟨n,upd s d (.box d b 0),upd bx d (some ⟨b,cs⟩),ob⟩ K):Do P T rb ops (k::L) ⟨n,s,bx,ob⟩ K:=by
 rw[eH,zo]at hc;subst hc
 refine⟨o,ho,true,hg,?_⟩
 simp only[if_true,hop,dW]
 exact⟨t,d,ti,rfl,hd,hti,by simpa[Nat.blt_eq]using hlt,hbx,h⟩
theorem Do.box(ho:ops[k]? =some o)(hg:aF ops s o=some true){t:TypeId}{x:Operand}(hop:o.op= .box t x){d:Nat}(hd:o.dst=some d){cs:List PV}(hc:(eo (evS s x)).bind gF=some cs)(hlt:Nat.blt d n=true)
  (h:∀b,Do P T rb ops L ⟨n,upd s d (.box d b 0),upd bx d (some ⟨b,cs⟩),ob⟩ K):Do P T rb ops (k::L) ⟨n,s,bx,ob⟩ K:=by
 have hc':eo (evS s x)=some cs:=by
  cases hq:eo (evS s x)with
  |none=>simp[hq]at hc
  |some q=>rw[hq,Option.bind_some,eH]at hc;exact hc
 refine⟨o,ho,true,hg,?_⟩
 simp only[if_true,hop,dW]
 exact⟨t,x,d,cs,rfl,hd,hc',by simpa[Nat.blt_eq]using hlt,h⟩
theorem ib(ho:ops[k]? =some o)(hg:aF ops s o=some true){t:TypeId}{x y:Operand}(hop:o.op= .store t x y)(hd:o.dst=none){ti:TInfo}(hti:T.get t=some ti){tag b off:Nat}{cells:List PV}(hx:evS s x= .box tag b off)(hb:bx tag=some ⟨b,cells⟩)
  {cs:List PV} (hc:(eo (evS s y)).bind gF=some cs) (h1:cs.all PV.one=true) (hl:Nat.beq cs.length ti.size=true) (hle:(okS cells&&Nat.ble (off+ti.size) cells.length)=true)
  {cells':List PV} (hf:gF (splice cells off cs)=some cells') (h:Do P T rb ops L ⟨n,s,upd bx tag (some ⟨b,cells'⟩),ob⟩ K) (hso:rb.so=false:=by rfl):Do P T rb ops (k::L) ⟨n,s,bx,ob⟩ K:=by
 have hc':eo (evS s y)=some cs:=by
  cases hq:eo (evS s y)with
  |none=>simp[hq]at hc
  |some q=>rw[hq,Option.bind_some,eH]at hc;exact hc
 rw[eH,zo]at hf;subst hf
 refine⟨o,ho,true,hg,?_⟩
 simp only[if_true,hop,dW]
 exact⟨hd,.inl ⟨hso,t,x,y,ti,tag,b,off,cells,cs,rfl,hti,hx,hb,hc',h1,Nat.eq_of_beq_eq_true hl,hle,h⟩⟩
theorem V.strF{fn:Func}{R:PV->Heap->Prop}{ks:List KI}(d:Nat){l:Rb}(hs:s d= .str l)(h:l.length<=jO->V P fn R ks ⟨n,s,bx,ob⟩):V P fn R ks ⟨n,s,bx,ob⟩:=
 wY (Q:=l.length<=jO) d hs (fun _ _ hx=>by simp only[Rep]at hx;exact hx.2) h
theorem av.mem{M:Mem}{b:Bool}:∀{ps:List PV} {xs:List Value},av P M b ps xs->∀p∈ps,∃x,Rep P M b p x
 |[],_,_,p,hp=>by simp at hp
 |q::ps,_,h,p,hp=>by
  simp only[av]at h
  obtain⟨x,xs,rfl,h2,h3⟩:=h
  rcases List.mem_cons.1 hp with rfl|hp
  ·exact⟨x,h2⟩
  ·exact h3.mem p hp
theorem V.listF{fn:Func}{R:PV->Heap->Prop}{ks:List KI}(d:Nat){e:TypeId}{rows:List (List PV)}(hs:s d= .list e rows){Q:PV->Prop}(hq:∀M x p,Rep P M false p x->Q p)
  (h:(∀r∈rows,∀p∈r,Q p)->V P fn R ks ⟨n,s,bx,ob⟩):V P fn R ks ⟨n,s,bx,ob⟩:=
 wY (Q:=∀r∈rows,∀p∈r,Q p) d hs (fun M x hx r hr p hp=>by
  simp only[Rep]at hx
  obtain⟨a,c,i,_,_,_,_,_,h6⟩:=hx
  obtain⟨b,o,_,h7⟩:=h6 (List.ne_nil_of_mem hr)
  obtain⟨j,hj⟩:=List.mem_iff_getElem?.1 hr
  obtain⟨xs,h8,_,_⟩:=(h7.get j r hj).2.vals
  obtain⟨y,hy⟩:=h8.mem p hp
  exact hq M y p hy) h
theorem V.textF{fn:Func}{R:PV->Heap->Prop}{ks:List KI}(d:Nat){e:TypeId}{rows:List (List PV)}(hs:s d= .list e rows)
  (h:(∀r∈rows,∀l,PV.str l∈r->l.length<=jO)->V P fn R ks ⟨n,s,bx,ob⟩):V P fn R ks ⟨n,s,bx,ob⟩:=
 V.listF d hs (Q:=fun p=>∀l,p= .str l->l.length<=jO) (fun M x p hp l e=>by subst e;simp only[Rep]at hp;exact hp.2) fun hq=>h fun r hr l hl=>hq r hr _ hl l Z
theorem iy{fn:Func}{R:PV->Heap->Prop}{ks:List KI}(hT:T.Ok P)(d tag:Nat){e:TypeId}{ei:TInfo}(hei:T.get e=some ei)(hs:s d= .val (.slice none 0 0))
  (h:V P fn R ks ⟨n,upd s d (.own tag ⟨none,0⟩ 0),bx,upd ob tag (some ⟨⟨none,0⟩,e,[],true⟩)⟩):V P fn R ks ⟨n,s,bx,ob⟩:=
 cv (Gh.nilO hT d tag hei hs) h
theorem cD{fn:Func}{R:PV->Heap->Prop}{ks:List KI}(d:Nat){tag:Nat}{g:OwnRef}{len:Nat}{e:TypeId}{rows:List (List PV)}{wr:Bool}(hs:s d= .own tag g len)(hob:ob tag=some ⟨g,e,rows,wr⟩)(hlen:len=rows.length)
  (h:V P fn R ks ⟨n,upd s d (.list e rows),bx,upd ob tag (some ⟨g,e,rows,false⟩)⟩):V P fn R ks ⟨n,s,bx,ob⟩:=
 cv (Gh.freezeO d hs hob hlen) h
theorem xB{fn:Func}{R:PV->Heap->Prop}{ks:List KI}(d:Nat){tag b:Nat}{cells:List PV}(hs:s d= .box tag b 0)(hb:bx tag=some ⟨b,cells⟩)(hf:PV.frozL cells=true)(h1:cells.all PV.one=true)
  (h:V P fn R ks ⟨n,upd s d (.ptr cells),upd bx tag none,ob⟩):V P fn R ks ⟨n,s,bx,ob⟩:=
 cv (Gh.freezeB d hs hb hf h1) h
theorem kJ{fn:Func}{R:PV->Heap->Prop}{ks:List KI}{tag b:Nat}{cells:List PV}(d:Nat)(h:V P fn R ks ⟨n,upd s d (.ptr cells),upd bx tag none,ob⟩)(hs:s d= .box tag b 0:=by exact Z)(hb:bx tag=some ⟨b,cells⟩:=by exact Z)(hf:PV.frozL cells=true:=by exact Z)(h1:cells.all PV.one=true:=by exact Z):V P fn R ks ⟨n,s,bx,ob⟩:=xB d hs hb hf h1 h
end
def PLe2(P:Program)(p q:PV):Prop:=∀M s x,Rep P M s p x->Rep P M s q x
def ku(P:Program)(ps qs:List PV):Prop:=∀M s xs,av P M s ps xs->av P M s qs xs
def iW(P:Program)(rs qs:List (List PV)):Prop:=rs.length=qs.length/\∀M k b o,dZ P M k b o rs->dZ P M k b o qs
section
variable{P:Program}
theorem PLe2.refl(p:PV):PLe2 P p p:=fun _ _ _ h=>h
theorem PLe2.of_eq{p q:PV}(h:p=q):PLe2 P p q:=h▸PLe2.refl p
theorem PLe2.nil{T:TT}(hT:T.Ok P){e:TypeId}{ti:TInfo}(hti:T.get e=some ti):PLe2 P (.val (.slice none 0 0)) (.list e []):=fun M s x h=>by
 obtain⟨i,hi,_⟩:=(hT.get hti).info
 simp only[Rep]at h⊢;subst h
 exact⟨none,0,i,by simp,by simp,by simp,hi,by simp,by simp⟩
theorem PLe2.agg{ps qs:List PV}(h:ku P ps qs):PLe2 P (.agg ps) (.agg qs):=fun M s x hx=>by
 simp only[Rep]at hx⊢
 obtain⟨cs,rfl,hc⟩:=hx
 exact⟨cs,rfl,h M s _ hc⟩
theorem PLe2.tup{ps qs:List PV}(h:ku P ps qs):PLe2 P (.tup ps) (.tup qs):=fun M s x hx=>by
 simp only[Rep]at hx⊢
 obtain⟨cs,rfl,hc⟩:=hx
 exact⟨cs,rfl,h M s _ hc⟩
theorem PLe2.fn{f:FuncId}{ps qs:List PV}(h:ku P ps qs):PLe2 P (.fn f ps) (.fn f qs):=fun M s x hx=>by
 simp only[Rep]at hx⊢
 obtain⟨cs,rfl,hc⟩:=hx
 exact⟨cs,rfl,h M s _ hc⟩
theorem PLe2.list{e:TypeId}{rs qs:List (List PV)}(h:iW P rs qs):PLe2 P (.list e rs) (.list e qs):=fun M s x hx=>by
 simp only[Rep]at hx⊢
 obtain⟨a,c,i,h1,h2,h3,h4,h5,h6⟩:=hx
 rw[<-h.1]
 refine⟨a,c,i,h1,h2,h3,h4,h5,fun hne=>?_⟩
 have:rs≠[]:=by
  intro hr;apply hne
  have:=h.1
  rw[hr]at this;exact List.length_eq_zero_iff.1 this.symm
 obtain⟨b,o,h7,h8⟩:=h6 this
 exact⟨b,o,h7,h.2 M _ b o h8⟩
theorem ku.refl(ps:List PV):ku P ps ps:=fun _ _ _ h=>h
theorem ku.nil:ku P [] []:=fun _ _ _ h=>h
theorem ku.cons{p q:PV}{ps qs:List PV}(h:PLe2 P p q)(h':ku P ps qs):ku P (p::ps) (q::qs):=fun M s xs hx=>by
 simp only[av]at hx⊢
 obtain⟨x,ys,rfl,h1,h2⟩:=hx
 exact⟨x,ys,rfl,h M s x h1,h' M s ys h2⟩
theorem iW.refl(rs:List (List PV)):iW P rs rs:=⟨rfl,fun _ _ _ _ h=>h⟩
theorem PLe.of2{p q:PV}(h:PLe2 P p q):PLe P p q:=fun M x hx=>h M true x hx
theorem ip.of2{ps qs:List PV}(h:ku P ps qs):ip P ps qs:=fun M xs hx=>h M true xs hx
end
section
variable{P:Program}{C:Ctx}{M:Mem}{H:Heap}{w:World}
theorem InvH.recell(h:InvH P C M H w){tag b:Nat}{cells cells':List PV}(hb:H.bx tag=some ⟨b,cells⟩)(hc:∀xs,av P M true cells xs->av P M true cells' xs)(hm:okS cells=true):
  InvH P C M ⟨upd H.bx tag (some ⟨b,cells'⟩),H.ob⟩ w:=by
 have key:∀t x,upd H.bx tag (some ⟨b,cells'⟩) t=some x->∃y,H.bx t=some y/\y.b=x.b/\(∀xs,av P M true y.cells xs->av P M true x.cells xs)/\(okS y.cells=true\/x.cells=y.cells):=by
  intro t x hx;rw[fB]at hx;split at hx
  ·rename_i e;subst e;cases hx;exact⟨_,hb,rfl,hc,.inl hm⟩
  ·exact⟨x,hx,rfl,fun _ h=>h,.inr Z⟩
 refine⟨h.mem,h.ext,h.new,h.os,h.tape,h.output,h.size,h.frame,?_,h.objs,?_,h.dobj,?_⟩
 ·intro t x hx
  obtain⟨y,hy,e1,e2,e3⟩:=key t x hx
  obtain⟨h1,⟨o,h2,h3⟩,h4⟩:=h.boxes t y hy
  rw[e1]at h1 h2 h4
  exact⟨h1,⟨o,h2,h3.le e2 e3⟩,h4⟩
 ·intro t t' x x' hx hx' hbb
  obtain⟨y,hy,e1,_⟩:=key t x hx
  obtain⟨y',hy',e1',_⟩:=key t' x' hx'
  exact h.dbox t t' y y' hy hy' (by rw[e1,e1'];exact hbb)
 ·intro t t' x x' hx hx' hbb
  obtain⟨y,hy,e1,_⟩:=key t x hx
  exact h.dmix t t' y x' hy hx' (by rw[e1];exact hbb)
theorem av.set{s:Bool}:∀{ps:List PV} {xs:List Value} {k:Nat} {p q:PV},av P M s ps xs->ps[k]? =some p->(∀x,Rep P M s p x->Rep P M s q x)->av P M s (ps.set k q) xs
 |[],_,_,_,_,_,hk,_=>by simp at hk
 |a::ps,_,0,p,q,h,hk,hq=>by
  simp only[av]at h
  obtain⟨x,xs,rfl,h1,h2⟩:=h
  simp only[List.getElem?_cons_zero,zo]at hk;subst hk;simp only[List.set_cons_zero,av]
  exact⟨x,xs,rfl,hq x h1,h2⟩
 |a::ps,_,k+1,p,q,h,hk,hq=>by
  simp only[av]at h
  obtain⟨x,xs,rfl,h1,h2⟩:=h
  simp only[List.set_cons_succ,av]
  exact⟨x,xs,rfl,h1,av.set h2 (by simpa using hk) hq⟩
end
section
variable{P:Program}{fn:Func}{R:PV->Heap->Prop}{ks:List KI}{n:Nat}{s:Nat->PV}{bx:Nat->Option Box}{ob:Nat->Option Obj}{T:TT}
theorem oA(hT:T.Ok P)(tag k otag:Nat){e:TypeId}{ei:TInfo}(hei:T.get e=some ei){b:Nat}{cells cells':List PV}(hb:bx tag=some ⟨b,cells⟩)(hk:cells[k]? =some (.val (.slice none 0 0)))
  (hf:gF (cells.set k (.own otag ⟨none,0⟩ 0))=some cells') (h:V P fn R ks ⟨n,s,upd bx tag (some ⟨b,cells'⟩),upd ob otag (some ⟨⟨none,0⟩,e,[],true⟩)⟩) (hok:okS cells=true:=by exact Z):V P fn R ks ⟨n,s,bx,ob⟩:=by
 rw[eH,zo]at hf;subst hf;intro C M a w hi;have h1:=hi.2.nilobj hT otag hei;refine h C M a w ⟨hi.1,?_⟩;refine h1.recell (tag:=tag) hb (fun xs hx=>hx.set hk fun x hx=>?_) hok;simp only[Rep]at hx⊢
 exact⟨trivial,by rw[hx];rfl⟩
theorem jZ(tag k:Nat){tg:Nat}{g:OwnRef}{len:Nat}{e:TypeId}{rows:List (List PV)}{wr:Bool}{b:Nat}{cells cells':List PV}(hb:bx tag=some ⟨b,cells⟩)(hk:cells[k]? =some (.own tg g len))(hob:ob tg=some ⟨g,e,rows,wr⟩)(hlen:len=rows.length)
  (hf:gF (cells.set k (.list e rows))=some cells') (h:V P fn R ks ⟨n,s,upd bx tag (some ⟨b,cells'⟩),upd ob tg (some ⟨g,e,rows,false⟩)⟩) (hok:okS cells=true:=by exact Z):V P fn R ks ⟨n,s,bx,ob⟩:=by
 rw[eH,zo]at hf;subst hf;subst hlen;intro C M a w hi
 obtain⟨M',hle,hi',hr⟩:=hi.2.freezeO (tag:=tg) hob
 refine h C M' a w ⟨hi.1.mono hle,hi'.recell (tag:=tag) hb (fun xs hx=>hx.set hk fun x hx=>?_) hok⟩;simp only[Rep]at hx;rw[hx.2];exact hr
theorem V.retCT{r:PV}(hT:T.Ok P){a t t':Nat}(hres:fn.results=#[.cell a t,.tmp t']){ti:TInfo}(hti:T.get t=some ti){tag b off:Nat}{cells:List PV}(hs:s a= .box tag b off)(hb:bx tag=some ⟨b,cells⟩){p p':PV}(hr:(eU ti off cells).bind jt=some p)(hs':jt (s t')=some p')
  (hu:PLe P (.tup [p,p']) r):V P fn (fun u H=>u=r/\H=Heap.empty) (.code .ret::ks) ⟨n,s,bx,ob⟩:=by
 have hr':eU ti off cells=some p:=by
  cases hq:eU ti off cells with
  |none=>simp[hq]at hr
  |some q=>rw[hq,Option.bind_some,jS]at hr;exact hr
 rw[jS,zo]at hs';exact lH hT hres (ps:=[p,p']) ⟨p,_,rfl,⟨ti,tag,b,off,cells,hti,hs,hb,hr'⟩,p',[],rfl,hs',rfl⟩ hu
end
end
end Go.Ab

namespace Go.Ab
noncomputable section
open Go.ChangeShapes
def mu(W:World):Mem:=fun b o=>W.cell? ⟨b,o,none⟩
def laidFs(P:Program):Nat->List Field->Bool
 |_,[]=>true
 |o,f::fs=>Nat.beq f.offset o&&laidFs P (o+P.cellsOf f.type) fs
def okT(P:Program)(S:List TypeId)(t:TypeId):Bool:=
 match P.underlying t with
 |some .bool|some (.int _)|some .string=>true
 |some (.slice e)=>S.contains e&&Nat.blt 0 (P.cellsOf e)
 |some (.struct fs)=>laidFs P 0 fs.toList&&fs.toList.all (fun f=>S.contains f.type)&&Nat.beq (fs.toList.map fun f=>P.cellsOf f.type).sum (P.cellsOf t)
 |_=>false
def iz(Sh:TypeId->List PV->Prop):List TypeId->List PV->Prop
 |[],pvs=>pvs=[]
 |t::ts,pvs=>∃a b,pvs=a++b/\Sh t a/\iz Sh ts b
def Sh(P:Program):Nat->TypeId->List PV->Prop
 |0,_,_=>False
 |n+1,t,pvs=>match P.underlying t with
  |some .bool=>∃b,pvs=[.val (.bool b)]
  |some (.int k)=>∃m,pvs=[.val (.int k m)]/\(Lit.int k m).wf=true
  |some .string=>∃l,pvs=[.str l]/\l.length<=2^47
  |some (.slice e)=>∃rows,pvs=[.list e rows]/\∀r∈rows,Sh P n e r
  |some (.struct fs)=>iz (Sh P n) (fs.toList.map (·.type)) pvs
  |_=>False
section
variable{H:Type}{enc:TypeId×Value->H}{P:Program}{W:World}{S:List TypeId}
theorem eg.of_cells{b:Nat}:∀{o:Nat} {pvs:List PV} {cs:List Value},av P (mu W) false pvs cs->(∀x∈cs,x.oneCell'=true)->(∀j,j<cs.length->W.cell? ⟨b,o+j,none⟩=cs[j]?)->eg P (mu W) b o pvs
 |_,[],_,_,_,_=>by simp[eg]
 |o,p::ps,cs,h,h1,hm=>by
  simp only[av]at h
  obtain⟨x,xs,rfl,h2,h3⟩:=h
  simp only[eg]
  refine⟨⟨x,?_,h1 x (by simp),h2⟩,eg.of_cells h3 (fun y hy=>h1 y (by simp[hy])) fun j hj=>?_⟩
  ·simpa[mu]using hm 0 (by simp)
  ·have:=hm (j+1) (by simpa using hj)
   rw[show o+1+j=o+(j+1)from by omega];simpa using this
theorem Sh.one:∀{n:Nat} {t:TypeId} {pvs:List PV},Sh P n t pvs->pvs.all PV.one=true:=by
 intro n;induction n with
 |zero=>intro t pvs h;simp[Sh]at h
 |succ n ih=>
  intro t pvs h;simp only[Sh]at h;split at h
  ·obtain⟨b,rfl⟩:=h;rfl
  ·obtain⟨m,rfl,_⟩:=h;rfl
  ·obtain⟨l,rfl,_⟩:=h;rfl
  ·obtain⟨rows,rfl,_⟩:=h;rfl
  ·rename_i fs _;generalize fs.toList.map (·.type)=ts at h;induction ts generalizing pvs with
   |nil=>simp only[iz]at h;subst h;rfl
   |cons t ts iht=>
    simp only[iz]at h
    obtain⟨a,b,rfl,h1,h2⟩:=h
    rw[List.all_append,ih h1,iht h2];rfl
  ·cases h
theorem trod_int_some{n:Nat}{t:TypeId}{k:IntKind}{cs:List Value}{x:DataW H×List MemPlace}{sp:Nat->Bool}(hu:P.underlying t=some (.int k))(h:DataW.trod enc P W 0 sp true (n+1) t cs=some x):∃m,cs=[.int k m]/\(Lit.int k m).wf=true:=by
 unfold DataW.trod at h;rw[hu]at h;split at h<;>simp_all
theorem trod_bool_some{n:Nat}{t:TypeId}{cs:List Value}{x:DataW H×List MemPlace}{sp:Nat->Bool}(hu:P.underlying t=some .bool)(h:DataW.trod enc P W 0 sp true (n+1) t cs=some x):∃b,cs=[.bool b]:=by
 unfold DataW.trod at h;rw[hu]at h;split at h<;>simp_all
theorem trod_str_some{n:Nat}{t:TypeId}{cs:List Value}{x:DataW H×List MemPlace}{sp:Nat->Bool}(hu:P.underlying t=some .string)(h:DataW.trod enc P W 0 sp true (n+1) t cs=some x):∃s:ByteArray,cs=[.string s]/\x.1= .lit (.string s.data.toList):=by
 unfold DataW.trod at h;rw[hu]at h;split at h<;>simp_all
 rw[<-h.2]
theorem wC{n:Nat}{t:TypeId}{fs:Array Field}{cs:List Value}{x:DataW H×List MemPlace}{sp:Nat->Bool}(hu:P.underlying t=some (.struct fs))(h:DataW.trod enc P W 0 sp true (n+1) t cs=some x):
  cs.length=P.cellsOf t/\∃xs,(fs.toList.mapM fun f=>DataW.trod enc P W 0 sp true n f.type ((cs.drop f.offset).take (P.cellsOf f.type)))=some xs/\x=(.agg (xs.map (·.1)),xs.flatMap (·.2)):=by
 unfold DataW.trod at h;rw[hu]at h;split at h<;>simp_all
 obtain⟨_,a,h2,h3⟩:=h
 exact⟨a,h2,h3.symm⟩
theorem wF{n:Nat}{t e:TypeId}{cs:List Value}{x:DataW H×List MemPlace}(hu:P.underlying t=some (.slice e))(h:DataW.trod enc P W 0 (fun _=>true) true (n+1) t cs=some x):
  (cs=[.slice none 0 0]/\x=(.nil,[]))\/∃a len cap elems rest,cs=[.slice (some a) len cap]/\len<=cap/\cap<=maxLen/\
   ((List.range len).mapM fun i=>(W.cells? 0 (a.add (i*P.cellsOf e)) (P.cellsOf e)).bind (DataW.trod enc P W 0 (fun _=>true) true n e))=some elems/\
   ((List.range (cap-len)).mapM fun i=>(W.cells? 0 (a.add ((len+i)*P.cellsOf e)) (P.cellsOf e)).bind (DataW.trod enc P W 0 (fun _=>true) true n e))=some rest/\
   x.1= .slice (elems.map (·.1)) (rest.map (·.1)):=by
 unfold DataW.trod at h;rw[hu]at h;split at h<;>simp_all
 rename_i e' a len cap _
 obtain⟨⟨h1,h2⟩,h3⟩:=h
 cases hel:((List.range len).mapM fun i=>(W.cells? 0 (a.add (i*P.cellsOf e')) (P.cellsOf e')).bind (DataW.trod enc P W 0 (fun _=>true) true n e'))with
 |none=>rw[hel]at h3;cases h3
 |some elems=>
  rw[hel,Option.bind_some]at h3;cases hre:((List.range (cap-len)).mapM fun i=>(W.cells? 0 (a.add ((len+i)*P.cellsOf e')) (P.cellsOf e')).bind (DataW.trod enc P W 0 (fun _=>true) true n e'))with
  |none=>rw[hre]at h3;cases h3
  |some rest=>
   rw[hre,Option.map_some,zo]at h3
   exact⟨a,len,cap,⟨rfl,rfl,rfl⟩,h1,h2,elems,hel,rest,hre,by rw[<-h3]⟩
end
def my(P:Program)(t:TypeId)(pvs:List PV):PV:=
 match P.underlying t with
 |some (.struct _)=>.agg pvs
 |_=>pvs.headD .any
def ArgsSh(P:Program):List TypeId->List PV->Prop
 |[],av0=>av0=[]
 |t::ts,av0=>∃n pvs rest,av0=my P t pvs::rest/\Sh P n t pvs/\ArgsSh P ts rest
section
variable{H:Type}{enc:TypeId×Value->H}{P:Program}{W:World}{S:List TypeId}
theorem ux(hl:laidOutB P=true){W':World}(hb:RowKit.Below W.heap.size W W'){sp:Nat->Bool}:∀{ts:List TypeId} {vs:List Value} {ds:List (DataW H)} {ps:List MemPlace},(∀t∈ts,P.readableRec t=true/\t<P.types.size)->
  DataW.TrodAll enc P W 0 (fun _=>true) true ts vs ds ps->(∀x∈ps,x.block<W.heap.size)->(∀x∈ps,sp x.block=true)->DataW.TrodAll enc P W' 0 sp true ts vs ds ps
 |[],_,_,_,_,h,_,_=>by
  obtain⟨rfl,rfl,rfl⟩:=trodAll_nil h
  exact trodAll_mk0
 |t::ts,_,_,_,hr,h,hlt,hsp=>by
  obtain⟨v,vs,d,ds,p,q,rfl,rfl,rfl,h1,h2⟩:=trodAll_cons h
  exact⟨p,q,WideElems.Trod_stays hl (hr t (by simp)).1 (hr t (by simp)).2 h1 (fun x hx=>hb.same (hlt x (by simp[hx]))) (fun x hx=>hsp x (by simp[hx])),
   ux hl hb (fun t ht=>hr t (by simp[ht])) h2 (fun x hx=>hlt x (by simp[hx])) (fun x hx=>hsp x (by simp[hx])),rfl⟩
theorem wm{sp:Nat->Bool}{hd:Bool}:∀{ts:List TypeId} {vs:List Value} {ds:List (DataW H)} {ps:List MemPlace},DataW.TrodAll enc P W 0 sp hd ts vs ds ps->ds.length=ts.length
 |[],_,_,_,h=>by
  obtain⟨_,rfl,_⟩:=trodAll_nil h
  rfl
 |t::ts,_,_,_,h=>by
  obtain⟨v,vs,d,ds,p,q,rfl,rfl,rfl,_,h2⟩:=trodAll_cons h
  simp[wm h2]
theorem InvH.start(W:World)(hg:Gl W []):InvH P ⟨W,[],mu W,hg,[]⟩ (mu W) Heap.empty W:=
 ⟨fun _ _ _ h=>h,Mem.le_refl _,fun _ _ _ h=>.inl h,rfl,rfl,rfl,Nat.le_refl _,fun _ _ _=>rfl,fun _ _ h=>by simp[Heap.empty]at h,fun _ _ h=>by simp[Heap.empty]at h,
  fun _ _ _ _ h=>by simp[Heap.empty]at h,fun _ _ _ _ _ h=>by simp[Heap.empty]at h,fun _ _ _ _ h=>by simp[Heap.empty]at h⟩
theorem InvH.below{hg:Gl W []}{M:Mem}{Hp:Heap}{W':World}(h:InvH P ⟨W,[],mu W,hg,[]⟩ M Hp W'):RowKit.Below W.heap.size W W':=
 ⟨h.os,h.tape,h.output,h.size,fun k hk=>h.frame k hk (by simp)⟩
end
mutual
def PV.bulk:PV->Nat
 | .str l=>l.length+1
 | .list _ rows=>cO rows+1
 | .agg cs=>aT cs
 | .any=>1
 | .val _=>1
 | .tup _=>1
 | .ptr _=>1
 | .fn _ _=>1
 | .box _ _ _=>1
 | .own _ _ _=>1
 | .optr _ _ _ _ _=>1
 | .err _=>1
 | .ifc _ p=>p.bulk+1
def aT:List PV->Nat
 |[]=>0
 |p::ps=>p.bulk+aT ps
def cO:List (List PV)->Nat
 |[]=>0
 |r::rs=>aT r+cO rs
end
theorem sX:∀a b:List PV,aT (a++b)=aT a+aT b
 |[],b=>by simp[aT]
 |p::a,b=>by simp only[List.cons_append,aT,sX a b];omega
structure IsBulk(B:(H:Type)->DataW H->Nat):Prop where
 one:∀H d,1<=B H d
 str:∀H l,l.length+1<=B H (.lit (.string l))
 slice:∀H (a b:List (DataW H)),(a.map (B H)).sum+1<=B H (.slice a b)
 agg:∀H (a:List (DataW H)),(a.map (B H)).sum<=B H (.agg a)
theorem Sh.up{P:Program}:∀{n:Nat} {t:TypeId} {pvs:List PV},Sh P n t pvs->Sh P (n+1) t pvs:=by
 intro n;induction n with
 |zero=>intro t pvs h;simp[Sh]at h
 |succ n ih=>
  intro t pvs h;rw[Sh]at h⊢;split at h
  ·exact h
  ·exact h
  ·exact h
  ·obtain⟨rows,rfl,hr⟩:=h
   exact⟨rows,rfl,fun r hq=>ih (hr r hq)⟩
  ·rename_i fs hu
   have key:∀(ts:List TypeId) (l:List PV),iz (Sh P n) ts l->iz (Sh P (n+1)) ts l:=by
    intro ts;induction ts with
    |nil=>intro l h;simp only[iz]at h⊢;exact h
    |cons t ts iht=>
     intro l h;simp only[iz]at h⊢
     obtain⟨a,b,h1,h2,h3⟩:=h
     exact⟨a,b,h1,ih h2,iht b h3⟩
   exact key _ _ h
  ·cases h
theorem Sh.cast{P:Program}{n:Nat}{t t':TypeId}{pvs:List PV}(h:P.underlying t=P.underlying t')(hs:Sh P n t pvs):Sh P n t' pvs:=by
 cases n with
 |zero=>simp[Sh]at hs
 |succ n=>rw[Sh]at hs⊢;rwa [h]at hs
theorem kG{α:Type}{f:α->List PV}:∀{rows:List (List PV)},(∀r∈rows,∃x,r=f x)->∃xs:List α,rows=xs.map f
 |[],_=>⟨[],rfl⟩
 |r::rs,h=>by
  obtain⟨x,rfl⟩:=h r (by simp)
  obtain⟨xs,rfl⟩:=kG (rows:=rs) fun q hq=>h q (by simp[hq])
  exact⟨x::xs,rfl⟩
theorem rowsUp{α:Type}{f:α->List PV}{P:Program}{n:Nat}{e t:TypeId}(he:P.underlying e=P.underlying t)(ih:∀{pvs},Sh P (n+1) t pvs->∃v,pvs=f v){rows:List (List PV)}(hr:∀r∈rows,Sh P n e r):∃xs:List α,rows=xs.map f:=
 kG fun r hq=>ih (Sh.up (Sh.cast he (hr r hq)))
def infosB(P:Program)(S:List TypeId):Bool:=S.all fun t=>match P.info? t with
 |some i=>Nat.beq i.bytes (P.bytesOf t)&&Nat.beq i.size (P.cellsOf t)
 |none=>false
theorem infos_of{P:Program}{S:List TypeId}(h:infosB P S=true):∀t∈S,∃i,P.info? t=some i/\i.bytes=P.bytesOf t/\i.size=P.cellsOf t:=by
 intro t ht
 have:=List.all_eq_true.1 h t ht
 cases hi:P.info? t with
 |none=>rw[hi]at this;cases this
 |some i=>
  rw[hi]at this;simp only[Bool.and_eq_true]at this
  exact⟨i,rfl,Nat.eq_of_beq_eq_true this.1,Nat.eq_of_beq_eq_true this.2⟩
section
variable{B:(H:Type)->DataW H->Nat}{H:Type}{enc:TypeId×Value->H}{P:Program}{W:World}{S:List TypeId}
theorem ww{n:Nat}(ih:∀t∈S,∀(cs:List Value) x,DataW.trod enc P W 0 (fun _=>true) true n t cs=some x->(x.1.weights P t).all (·<=reachBytes)=true->∃pvs,Sh P n t pvs/\av P (mu W) false pvs cs/\aT pvs<=B H x.1):
  ∀(fs:List Field) (o:Nat) (cs:List Value) (xs:List (DataW H×List MemPlace)),laidFs P o fs=true->fs.all (fun f=>S.contains f.type)=true->o+(fs.map fun f=>P.cellsOf f.type).sum=cs.length->
   (fs.mapM fun f=>DataW.trod enc P W 0 (fun _=>true) true n f.type ((cs.drop f.offset).take (P.cellsOf f.type)))=some xs->
   (DataW.weightsEach P (fs.map (·.type)) (xs.map (·.1))).all (·<=reachBytes)=true->∃pvs,iz (Sh P n) (fs.map (·.type)) pvs/\av P (mu W) false pvs (cs.drop o)/\aT pvs<=((xs.map (·.1)).map (B H)).sum
 |[],o,cs,xs,_,_,hlen,_,_=>by
  refine⟨[],by simp[iz],?_,by simp[aT]⟩
  simp only[av];exact List.drop_eq_nil_of_le (by simp at hlen;omega)
 |f::fs,o,cs,xs,hl,hS,hlen,hm,hw=>by
  simp only[laidFs,Bool.and_eq_true]at hl;simp only[List.all_cons,Bool.and_eq_true]at hS;simp only[List.map_cons,List.sum_cons]at hlen;have hoff:f.offset=o:=Nat.eq_of_beq_eq_true hl.1;rw[List.mapM_cons]at hm;cases hx:DataW.trod enc P W 0 (fun _=>true) true n f.type ((cs.drop f.offset).take (P.cellsOf f.type))with
  |none=>rw[hx]at hm;cases hm
  |some x=>
   rw[hx]at hm;cases hr:(fs.mapM fun f=>DataW.trod enc P W 0 (fun _=>true) true n f.type ((cs.drop f.offset).take (P.cellsOf f.type)))with
   |none=>rw[hr]at hm;cases hm
   |some r=>
    rw[hr]at hm;have hm':x::r=xs:=Option.some.inj hm;subst hm';simp only[List.map_cons,DataW.weightsEach,List.all_append,Bool.and_eq_true]at hw
    obtain⟨pa,ha1,ha2,ha3⟩:=ih f.type (by simpa using hS.1) _ x hx hw.1
    obtain⟨pb,hb1,hb2,hb3⟩:=ww ih fs (o+P.cellsOf f.type) cs r hl.2 hS.2 (by omega) hr hw.2
    refine⟨pa++pb,⟨pa,pb,rfl,ha1,hb1⟩,?_,by rw[sX];simp only[List.map_cons,List.sum_cons];omega⟩
    have:=ha2.append hb2
    rw[hoff]at this
    have e:(cs.drop o).take (P.cellsOf f.type)++cs.drop (o+P.cellsOf f.type)=cs.drop o:=by
     rw[<-List.drop_drop];exact List.take_append_drop _ _
    rwa [e]at this
theorem absB_rows{n:Nat}{e:TypeId}(ih:∀(cs:List Value) x,DataW.trod enc P W 0 (fun _=>true) true n e cs=some x->(x.1.weights P e).all (·<=reachBytes)=true->∃pvs,Sh P n e pvs/\av P (mu W) false pvs cs/\aT pvs<=B H x.1)
  {b o c:Nat}:∀(elems:List (DataW H×List MemPlace)) (k:Nat),(∀j,j<elems.length->((W.cells? 0 ((⟨b,o,none⟩:Addr).add ((k+j)*c)) c).bind (DataW.trod enc P W 0 (fun _=>true) true n e))=elems[j]?)->
   (DataW.weightsAll P e (elems.map (·.1))).all (·<=reachBytes)=true->∃rows:List (List PV),rows.length=elems.length/\(∀r∈rows,Sh P n e r)/\dZ P (mu W) c b (o+k*c) rows/\cO rows<=((elems.map (·.1)).map (B H)).sum
 |[],k,_,_=>⟨[],rfl,by simp,by simp[dZ],by simp[cO]⟩
 |x::r,k,hj,hw=>by
  simp only[List.map_cons,DataW.weightsAll,List.all_append,Bool.and_eq_true]at hw;have h0:=hj 0 (by simp);simp only[Nat.add_zero,List.getElem?_cons_zero]at h0;cases hcs:W.cells? 0 ((⟨b,o,none⟩:Addr).add (k*c)) c with
  |none=>rw[hcs]at h0;cases h0
  |some cs=>
   rw[hcs]at h0;simp only[Option.bind_some]at h0
   obtain⟨pv,hp1,hp2,hp3⟩:=ih cs x h0 hw.1
   obtain⟨_,hlen,hcell⟩:=World.cells?_some hcs
   obtain⟨rows,hr1,hr2,hr3,hr4⟩:=absB_rows ih r (k+1) (fun j hj'=>by
    have:=hj (j+1) (by simpa using hj')
    rw[show k+(j+1)=k+1+j from by omega]at this;simpa using this) hw.2
   refine⟨pv::rows,by simp[hr1],?_,?_,by simp only[cO,List.map_cons,List.sum_cons];omega⟩
   ·intro q hq;rcases List.mem_cons.1 hq with rfl|hq
    ·exact hp1
    ·exact hr2 q hq
   ·simp only[dZ];have hpl:pv.length=c:=by rw[<-hlen];exact(hp2.length).symm
    have hone:∀y∈cs,y.oneCell'=true:=av.oneCell hp1.one hp2
    refine⟨hpl,eg.of_cells hp2 hone fun j hj'=>?_,?_⟩
    ·have:=hcell j (by omega)
     rw[<-this,dS,dS]
    ·rw[show o+(k+1)*c=o+k*c+c from by rw[Nat.add_mul];omega]at hr3;exact hr3
theorem absB(hB:IsBulk B)(hS:S.all (okT P S)=true)(hinf:∀t∈S,∃i,P.info? t=some i/\i.bytes=P.bytesOf t/\i.size=P.cellsOf t):∀(n:Nat) (t:TypeId),t∈S->∀(cs:List Value) x,DataW.trod enc P W 0 (fun _=>true) true n t cs=some x->
  (x.1.weights P t).all (·<=reachBytes)=true->∃pvs,Sh P n t pvs/\av P (mu W) false pvs cs/\aT pvs<=B H x.1:=by
 intro n;induction n with
 |zero=>intro t _ cs x h;simp[DataW.trod]at h
 |succ n ih=>
  intro t ht cs x h hw;have hok:=List.all_eq_true.1 hS t ht;unfold okT at hok;simp only[Sh];split at hok
  ·rename_i hu
   obtain⟨b,rfl⟩:=trod_bool_some hu h
   exact⟨_,⟨b,rfl⟩,by simp[av,Rep],by simp only[aT,PV.bulk];exact hB.one _ _⟩
  ·rename_i k hu
   obtain⟨m,rfl,hm⟩:=trod_int_some hu h
   exact⟨_,⟨m,rfl,hm⟩,by simp[av,Rep],by simp only[aT,PV.bulk];exact hB.one _ _⟩
  ·rename_i hu
   obtain⟨s,rfl,hx⟩:=trod_str_some hu h
   rw[hx]at hw;simp only[DataW.weights,List.all_cons,List.all_nil,Bool.and_true,decide_eq_true_eq]at hw;have hle:s.data.toList.length<=2^47:=Nat.le_trans hw (by unfold reachBytes;omega)
   refine⟨_,⟨s.data.toList,rfl,hle⟩,?_,by simp only[aT,PV.bulk];rw[hx];exact hB.str _ _⟩
   simp only[av,Rep]
   exact⟨_,[],rfl,⟨by simp,Nat.le_trans hle (by unfold jO;omega)⟩,rfl⟩
  ·rename_i e hu;simp only[Bool.and_eq_true]at hok;have he:e∈S:=by simpa using hok.1
   obtain⟨i,hi1,hi2,hi3⟩:=hinf e he
   rcases wF hu h with⟨rfl,rfl⟩|⟨a,len,cap,elems,rest,rfl,hlc,hcm,hel,hre,hx⟩
   ·refine⟨_,⟨[],rfl,by simp⟩,?_,by simp only[aT,PV.bulk,cO];exact hB.one _ _⟩
    simp only[av,Rep]
    exact⟨_,[],rfl,⟨none,0,i,rfl,by simp,by simp,hi1,by simp,by simp⟩,rfl⟩
   ·have hlen:elems.length=len:=by simpa using mapM_some_length hel
    have hrlen:rest.length=cap-len:=by simpa using mapM_some_length hre
    rw[hx]at hw;simp only[DataW.weights,hu,List.all_cons,List.all_append,zl,Bool.and_eq_true,decide_eq_true_eq]at hw;have hpos:0<P.cellsOf e:=by simpa[Nat.blt_eq]using hok.2
    have hget:∀j,j<elems.length->(W.cells? 0 (a.add (j*P.cellsOf e)) (P.cellsOf e)).bind (DataW.trod enc P W 0 (fun _=>true) true n e)=elems[j]?:=fun j hj=>mapM_some_get hel j j (List.getElem?_range (by omega))
    have hsp:elems≠[]->a.spot=none:=fun hne=>by
     have h0:=hget 0 (List.length_pos_iff.2 hne);rw[Nat.zero_mul]at h0;cases hcs:W.cells? 0 (a.add 0) (P.cellsOf e)with
     |none=>rw[hcs]at h0;cases elems with
      |nil=>exact absurd Z hne
      |cons _ _=>cases h0
     |some cs=>
      obtain⟨_,hl,hc⟩:=World.cells?_some hcs
      have:=hc 0 hpos
      cases hs:a.spot with
      |none=>rfl
      |some q=>
       have h1:W.cell? ((a.add 0).add 0)=none:=by
        simp only[World.cell?,Addr.add,hs,if_true];split<;>simp
       rw[h1]at this
       have:=List.getElem?_eq_none_iff.1 this.symm
       omega
    have hby:len*i.bytes<=2^47:=by
     have h1:=hw.1;rw[hi2]
     have:len*P.bytesOf e<=(elems.length+rest.length)*P.bytesOf e:=Nat.mul_le_mul_right _ (by omega)
     unfold reachBytes at h1;omega
    by_cases hne:elems=[]
    ·subst hne
     refine⟨_,⟨[],rfl,by simp⟩,?_,by simp only[aT,PV.bulk,cO];exact hB.one _ _⟩
     simp only[List.length_nil]at hlen;subst hlen;simp only[av,Rep]
     exact⟨_,[],rfl,⟨some a,cap,i,rfl,by simp,hcm,hi1,by simp,by simp⟩,rfl⟩
    ·obtain⟨b,o,sp⟩:=a
     have:=hsp hne
     simp only at this;subst this
     obtain⟨rows,hr1,hr2,hr3,hr4⟩:=absB_rows (B:=B) (fun cs x hx hw=>ih e he cs x hx hw) elems 0 (fun j hj=>by rw[Nat.zero_add];exact hget j hj) hw.2.1
     refine⟨_,⟨rows,rfl,hr2⟩,?_,by simp only[aT,PV.bulk];rw[hx];exact Nat.le_trans (by omega) (hB.slice _ _ _)⟩
     simp only[av,Rep];have hrl:rows.length=len:=by omega
     rw[hrl]
     refine⟨_,[],rfl,⟨some ⟨b,o,none⟩,cap,i,rfl,hlc,hcm,hi1,hby,fun _=>⟨b,o,rfl,?_⟩⟩,rfl⟩
     rw[hi3];simpa using hr3
  ·rename_i fs hu;simp only[Bool.and_eq_true]at hok
   obtain⟨hl,xs,hm,hx⟩:=wC hu h
   rw[hx]at hw;simp only[DataW.weights,hu]at hw;have hsum:=Nat.eq_of_beq_eq_true hok.2
   obtain⟨pvs,h1,h2,h3⟩:=ww (B:=B) ih fs.toList 0 cs xs hok.1.1 hok.1.2 (by rw[hsum,hl];omega) hm hw
   exact⟨pvs,h1,by simpa using h2,by rw[hx];exact Nat.le_trans h3 (hB.agg _ _)⟩
  ·cases hok
omit enc W S in
theorem argPV_bulk(hB:IsBulk B)(t:TypeId)(pvs:List PV):(my P t pvs).bulk<=max (aT pvs) 1:=by
 have _:=hB;unfold my;split
 ·simp only[PV.bulk];omega
 ·cases pvs with
  |nil=>simp[PV.bulk,aT]
  |cons p ps=>simp only[List.headD_cons,aT];omega
theorem absB_val(hB:IsBulk B)(hS:S.all (okT P S)=true)(hinf:∀t∈S,∃i,P.info? t=some i/\i.bytes=P.bytesOf t/\i.size=P.cellsOf t){base:Nat}{t:TypeId}(ht:t∈S){v:Value}{d:DataW H}{ps:List MemPlace}
  (hv:Value.okWide P W .any base t v) (h:DataW.Trod enc P W 0 (fun _=>true) true t v d ps) (hw:(d.weights P t).all (·<=reachBytes)=true):∃n pvs,Sh P n t pvs/\Rep P (mu W) true (my P t pvs) v/\(my P t pvs).bulk<=B H d:=by
 obtain⟨n,hn⟩:=h
 obtain⟨pvs,h1,h2,hb⟩:=absB hB hS hinf n t ht _ (d,ps) hn hw
 refine⟨n,pvs,h1,?_,Nat.le_trans (argPV_bulk hB t pvs) (Nat.max_le.2 ⟨hb,hB.one _ _⟩)⟩
 have h2':=av.slot h2;have hok:=List.all_eq_true.1 hS t ht;unfold okT at hok;unfold my
 have one:v.cells=#[v]->Rep P (mu W) true (pvs.headD .any) v:=by
  intro e;rw[e]at h2';cases pvs with
  |nil=>simp[av]at h2'
  |cons p ps=>
   simp only[av]at h2'
   obtain⟨x,xs,hx,hp,_⟩:=h2'
   simp only[List.cons.injEq]at hx;rw[hx.1];exact hp
 cases hu:P.underlying t with
 |none=>rw[hu]at hok;cases hok
 |some td=>
  rw[hu]at hok;cases td<;>first|(simp only[Bool.false_eq_true]at hok;done)|skip
  case bool=>obtain⟨b,rfl⟩:=WideShapes.okWide_bool hu hv;exact one Z
  case int k=>obtain⟨m,rfl⟩:=WideShapes.okWide_int hu hv;exact one Z
  case string=>obtain⟨s,rfl⟩:=WideShapes.okWide_string hu hv;exact one Z
  case slice e=>obtain⟨a,len,cap,rfl⟩:=WideShapes.okWide_slice hu hv;exact one Z
  case struct fs=>
   obtain⟨cs,rfl,_⟩:=WideShapes.okWide_struct hu hv
   simp only[Rep]
   exact⟨cs,rfl,h2'⟩
theorem absB_args(hB:IsBulk B)(hS:S.all (okT P S)=true)(hinf:∀t∈S,∃i,P.info? t=some i/\i.bytes=P.bytesOf t/\i.size=P.cellsOf t){base:Nat}:∀{ts:List TypeId} {vs:List Value} {ds:List (DataW H)} {ps:List MemPlace},(∀t∈ts,t∈S)->
  (∀(j:Nat) t v,ts[j]? =some t->vs[j]? =some v->Value.okWide P W .any base t v)->DataW.TrodAll enc P W 0 (fun _=>true) true ts vs ds ps->(DataW.weightsEach P ts ds).all (·<=reachBytes)=true->
  ∃av0,ArgsSh P ts av0/\av P (mu W) true av0 vs/\aT av0<=(ds.map (B H)).sum
 |[],_,_,_,_,_,h,_=>by
  obtain⟨rfl,rfl,rfl⟩:=trodAll_nil h
  exact⟨[],rfl,by simp[av],by simp[aT]⟩
 |t::ts,_,_,_,hm,hv,h,hw=>by
  obtain⟨v,vs,d,ds,p,q,rfl,rfl,rfl,h1,h2⟩:=trodAll_cons h
  simp only[DataW.weightsEach,List.all_append,Bool.and_eq_true]at hw
  obtain⟨n,pvs,a1,a2,a3⟩:=absB_val hB hS hinf (hm t (by simp)) (hv 0 t v Z Z) h1 hw.1
  obtain⟨av0,b1,b2,b3⟩:=absB_args hB hS hinf (fun t ht=>hm t (by simp[ht])) (fun j t v ht hv'=>hv (j+1) t v (by simpa using ht) (by simpa using hv')) h2 hw.2
  refine⟨my P t pvs::av0,⟨n,pvs,av0,rfl,a1,b1⟩,?_,by simp only[aT,List.map_cons,List.sum_cons];omega⟩
  simp only[av]
  exact⟨v,vs,rfl,a2,b2⟩
theorem law_callsB{N:Nat}(hB:IsBulk B)(hl:laidOutB P=true){f:FuncId}{fn:Func}{s:ChangeSpec}{fresh handsOn again:Bool}{tb:TypeId}(hvars:s.vars=[])(hr:∀t∈fn.params.toList,P.readableRec t=true/\t<P.types.size)(hres:fn.resultTypes=#[tb])(htb:P.underlying tb=some .bool)
  (hfn:∀ds:List (DataW H),ds.length=fn.params.toList.length->s.fn H ds={results:=[.lit (.bool true)],args:=ds})
  (hS:S.all (okT P S)=true) (hinf:∀t∈S,∃i,P.info? t=some i/\i.bytes=P.bytesOf t/\i.size=P.cellsOf t) (hm:∀t∈fn.params.toList,t∈S)
  (hspec:∀av0,ArgsSh P fn.params.toList av0->aT av0<=N->aC P f av0 (.val (.bool true)))
  {base:Nat} {args:Array Value} {ds gs:List (DataW H)} {before:List MemPlace} (hval:∀(j:Nat) t v,fn.params[j]? =some t->args[j]? =some v->Value.okWide P W .any base t v)
  (hW:DataW.Whole enc P fn.params.toList s.vars false W args.toList ds gs before) (hg:Gl W []) (hsz:(DataW.weightsEach P (fn.params.toList++s.plain.varTypes P) (ds++gs)).all (·<=reachBytes)=true) (hN:((ds++gs).map (B H)).sum<=N):
  Calls P f args W fun e W'=>∃v,e= .returned v/\s.post enc P fn false fresh handsOn again W args v W':=by
 have hlt:=hW.lt;have hW':=hW
 obtain⟨p,q,hA,hV,rfl,hz,hn⟩:=hW
 have hV':=hV;rw[hvars]at hV
 obtain⟨rfl,rfl⟩:=trodVars_none hV
 have hvt:s.plain.varTypes P=[]:=by simp[DataSpec.varTypes,ChangeSpec.plain,hvars]
 rw[hvt,List.append_nil,List.append_nil]at hsz;rw[List.append_nil]at hN;have hlen:ds.length=fn.params.toList.length:=wm hA
 obtain⟨av0,h1,h2,h3⟩:=absB_args hB hS hinf hm (fun j t v ht hv=>hval j t v (by simpa using ht) (by simpa using hv)) hA hsz
 refine(hspec av0 h1 (Nat.le_trans h3 hN) W (mu W) [] hg args (InvH.start W hg) h2).mono ?_
 rintro e W' ⟨v,u,H',M',rfl,⟨rfl,rfl⟩,hi,hrep⟩;simp only[Rep]at hrep;subst hrep;have hb:=hi.below
 refine⟨_,rfl,?_⟩
 have hfn':s.fn H (ds++[])={results:=[.lit (.bool true)],args:=ds}:=by rw[List.append_nil];exact hfn ds hlen
 have hargs:∀sp:Nat->Bool,(∀x∈p++[],sp x.block=true)->DataW.TrodAll enc P W' 0 sp true fn.params.toList args.toList ds p:=fun sp hsp=>
  ux hl hb hr hA (fun x hx=>hlt x (by simp[hx])) (fun x hx=>hsp x (by simp[hx]))
 have hres':∀(b:Nat) (sp:Nat->Bool) (hd:Bool),DataW.TrodAll enc P W' b sp hd fn.resultTypes.toList ((Value.bool true).resultList fn.resultTypes.size) [.lit (.bool true)] []:=by
  intro b sp hd;rw[hres];refine trodAll_mk1 ⟨1,?_⟩;show DataW.trod enc P W' b sp hd 1 tb [.bool true]=_;unfold DataW.trod;rw[htb]
 have hvs:∀sp:Nat->Bool,DataW.TrodVars enc P W' sp s.vars ([]:List (DataW H)) []:=fun sp=>by rw[hvars];simp[DataW.TrodVars]
 have hold:∀x∈p++[],(fun b=>decide (b<W.heap.size)) x.block=true:=fun x hx=>by simpa using hlt x hx
 refine⟨ds,[],p++[],[],p,[],hW',?_,?_,?_,hb.frame _,fun _=>⟨RowKit.ok_one hres Z (RowKit.okWide_bool_mk htb true),[.lit (.bool true)]++ds,[],([]++p)++[],⟨[]++p,[],?_,hvs _,rfl,?_,fun h=>by cases h⟩,?_⟩⟩
 ·rw[hfn'];exact hres' _ _ _
 ·rw[hfn'];exact hargs _ hold
 ·rw[hfn'];exact hvs _
 ·exact trodAll_append (hargs _ fun _ _=>rfl) (hres' _ _ _)
 ·intro b off hx;have hx':MemPlace.cell b off∈p++[]:=by simpa using hx
  rw[hb.frozen (hlt _ hx')];exact hz b off hx'
 ·intro x hx _;simpa using hx
end
end
end Go.Ab

namespace Go.Ab
noncomputable section
open Go
theorem joined_of{P:Program}{f:FuncId}{fn:Func}{s:ChangeSpec}{c:OpenClaim}
  (h_wf:(c.wf (OpenSpec.ofChange s))=true)
  (h_laid:(laidOutB P)=true)
  (h_mapsRowed:(mapsRowed P)=true)
  (h_rr:(fn.params.all (P.readableRec ·))=true)
  (h_nt:(namedTie P c.named s.vars)=true)
  (h_st:((c.stops==[])&&(P.stops==[])&&(c.knobs==[])&&(P.stopKnobs==[]))=true)
  (h_inPlace:(c.inPlace==P.inPlace f)=true)
  (h_unf:(c.unfollowed==P.unfollowed f)=true)
  (h_rec:(c.recurses==P.recurses f)=true)
  (h_named:(c.named==P.varsNamed f)=true)
  (h_maps:((c.maps==(fn.params.toList++s.plain.varTypes P).any (P.mapsRec ·))&&(c.ifaces==(fn.params.toList++s.plain.varTypes P).any (P.ifacesRec ·))&&(c.mapsOut==P.mapsAmong fn.resultTypes.toList))=true)
  (h_loops:((c.loops==(fn.params.toList++s.plain.varTypes P).any (P.loopsFrom ·)))=true)
  (h_wide:((c.wideKeys==(fn.params.toList++s.plain.varTypes P++fn.resultTypes.toList).any (P.wideKeysFrom ·)))=true)
  (h_rest1:(s.vars.all (P.varReadable ·)&&fn.resultTypes.all (fun t=>P.readableRec t&&decide (t<P.types.size))&&(c.ifacesOut==fn.resultTypes.toList.any (P.ifacesRec ·))&&(c.loopsOut==fn.resultTypes.toList.any (P.loopsFrom ·)))=true)
  (h_plainKeys:(c.plainKeys==P.plainKeys)=true)
  (h_rest2:(c.shortTexts.isNone&&P.stopsHeard&&P.mayEnter&&(c.lifted==P.liftsFinal)&&(P.make==some c.make))=true)
  (h_kinds:((c.kinds==(if c.domain.isEmpty then []else fn.params.toList.map fun t=>match P.underlying t with|some (.int k)=>some k|_=>none))&&(c.pinned==c.pinnedBy))=true)
  (h_veil:((c.veiled==(fn.params.toList++s.plain.varTypes P++fn.resultTypes.toList).any (P.veiledRec ·))&&c.veiledFits P fn.params.toList (fn.params.toList++s.plain.varTypes P++fn.resultTypes.toList))=true)
  :joinedFacts P f fn s c=true:=by
 simp only[Bool.and_eq_true]at h_st h_maps h_rest1 h_rest2 h_kinds h_veil;simp only[joinedFacts,Bool.and_eq_true]
 exact⟨⟨⟨⟨⟨⟨⟨⟨⟨⟨⟨⟨⟨⟨⟨⟨⟨⟨⟨⟨⟨⟨⟨⟨⟨⟨⟨⟨⟨⟨⟨h_wf,h_laid⟩,h_mapsRowed⟩,h_rr⟩,h_nt⟩,h_st.1.1.1⟩,h_st.1.1.2⟩,h_st.1.2⟩,h_st.2⟩,h_inPlace⟩,h_unf⟩,h_rec⟩,h_named⟩,h_maps.1.1⟩,h_maps.1.2⟩,h_maps.2⟩,h_loops⟩,h_wide⟩,h_rest1.1.1.1⟩,h_rest1.1.1.2⟩,h_rest1.1.2⟩,h_rest1.2⟩,h_plainKeys⟩,h_rest2.1.1.1.1⟩,h_rest2.1.1.1.2⟩,h_rest2.1.1.2⟩,h_rest2.1.2⟩,h_rest2.2⟩,h_kinds.1⟩,h_kinds.2⟩,h_veil.1⟩,h_veil.2⟩
end
end Go.Ab

namespace Go.Ab
noncomputable section
section
variable{P:Program}{ops:Array Oper}{rest:List Oper}{o:Oper}{n:Nat}{s s':Nat->PV}{bx:Nat->Option Box}{ob:Nat->Option Obj}{K:PState->Prop}{T:TT}
abbrev nj(xs:Rb):List (List PV):=xs.map fun c=>[.val (.int .u8 c.toNat)]
end
def aa{α β:Type}(o:Option α)(k:α->Option β):Option β:=match o with
 |some a=>k a
 |none=>none
def letP{α β:Type}(a:α)(k:α->β):β:=k a
inductive Flow (σ ρ:Type) where
 |next (s:σ)
 |brk (s:σ)
 |ret (r:ρ)
def Flow.thenR{σ ρ:Type}(fl:Flow σ ρ)(k:σ->Option ρ):Option ρ:=match fl with
 | .next s=>k s
 | .brk s=>k s
 | .ret r=>some r
def Flow.thenF{σ τ ρ:Type}(fl:Flow σ ρ)(k:σ->Option (Flow τ ρ)):Option (Flow τ ρ):=match fl with
 | .next s=>k s
 | .brk s=>k s
 | .ret r=>some (.ret r)
def au{α σ ρ:Type}(step:Nat->α->σ->Option (Flow σ ρ)):Nat->List α->σ->Option (Flow σ ρ)
 |_,[],s=>some (.next s)
 |j,x::xs,s=>match step j x s with
  |none=>none
  |some (.next s')=>au step (j+1) xs s'
  |some (.brk s')=>some (.next s')
  |some (.ret r)=>some (.ret r)
def lp{σ ρ:Type}(step:σ->Option (Flow σ ρ)):Nat->σ->Option (Flow σ ρ)
 |0,_=>none
 |n+1,s=>match step s with
  |none=>none
  |some (.next s')=>lp step n s'
  |some (.brk s')=>some (.next s')
  |some (.ret r)=>some (.ret r)
open Classical in
def gX{σ ρ:Type}(step:σ->Option (Flow σ ρ))(s:σ):Option (Flow σ ρ):=
 if h:∃r,∃n,lp step n s=some r then some h.choose else none
theorem iterM_le{σ ρ:Type}{step:σ->Option (Flow σ ρ)}:∀{n m:Nat} {s:σ} {r:Flow σ ρ},lp step n s=some r->n<=m->lp step m s=some r
 |0,_,_,_,h,_=>by simp[lp]at h
 |n+1,0,_,_,_,hm=>by omega
 |n+1,m+1,s,r,h,hm=>by
  simp only[lp]at h⊢;split at h
  ·cases h
  ·exact iterM_le h (by omega)
  ·exact h
  ·exact h
theorem whileM_iff{σ ρ:Type}{step:σ->Option (Flow σ ρ)}{s:σ}{r:Flow σ ρ}:gX step s=some r↔∃n,lp step n s=some r:=by
 unfold gX;constructor
 ·intro h;split at h
  ·rename_i hx
   obtain⟨n,hn⟩:=hx.choose_spec
   exact⟨n,by rw[hn];exact h⟩
  ·cases h
 ·rintro⟨n,hn⟩
  have hx:∃r,∃n,lp step n s=some r:=⟨r,n,hn⟩;rw[dif_pos hx]
  obtain⟨m,hm⟩:=hx.choose_spec
  have h1:=iterM_le hn (Nat.le_max_left n m);have h2:=iterM_le hm (Nat.le_max_right n m);rw[h1]at h2;exact h2.symm
theorem nH{σ ρ:Type}{step:σ->Option (Flow σ ρ)}{s:σ}{fl r:Flow σ ρ}(h:step s=some fl)(hr:match fl with| .next s'=>gX step s'=some r| .brk s'=>r= .next s'| .ret x=>r= .ret x):gX step s=some r:=by
 rw[whileM_iff];cases fl with
 |next s'=>
  obtain⟨n,hn⟩:=whileM_iff.1 hr
  exact⟨n+1,by simp only[lp,h,hn]⟩
 |brk s'=>exact⟨1,by simp only[lp,h,hr]⟩
 |ret x=>exact⟨1,by simp only[lp,h,hr]⟩
theorem aA{α β:Type}{o:Option α}{k:α->Option β}{r:β}(h:aa o k=some r):∃a,o=some a/\k a=some r:=by
 cases o with
 |none=>cases h
 |some a=>exact⟨a,rfl,h⟩
theorem cI{α β:Type}{a:α}{k:α->β}{r:β}(h:letP a k=r):∃x,a=x/\k x=r:=⟨a,rfl,h⟩
theorem condT{α:Type}{c:Bool}{A B r:α}(h:c=true)(H:cond c A B=r):A=r:=by subst h;exact H
theorem condF{α:Type}{c:Bool}{A B r:α}(h:c=false)(H:cond c A B=r):B=r:=by subst h;exact H
theorem aI{P:Program}{fn:Func}{R:PV->Heap->Prop}{k:List KI}{st:PState}{c:Operand}{x y:Code}{b:Bool}(hc:evS st.s c= .val (.bool b)){α:Type}{A B r:α}(H:(bif b then A else B)=r)(ht:A=r->V P fn R (.code x::k) st)(hf:B=r->V P fn R (.code y::k) st):V P fn R (.code (.cond c x y)::k) st:=aY hc (fun h=>ht (Go.Ab.condT h H)) (fun h=>hf (Go.Ab.condF h H))
theorem aN{P:Program}{ops:Array Oper}{o:Oper}{rest:List Oper}{n:Nat}{s:Nat->PV}{bx:Nat->Option Box}{ob:Nat->Option Obj}{K:PState->Prop}{j:Nat}{want b:Bool}{d:Nat}(hg:o.guard=some (j,want))(hd:(ops[j]?).bind (·.dst)=some d)(hs:s d= .val (.bool b)){α:Type}{A B r:α}(H:cond b A B=r)
  (ht:A=r->Ao P ops (o::rest) ⟨n,upd s d (.val (.bool true)),bx,ob⟩ K) (hf:B=r->Ao P ops (o::rest) ⟨n,upd s d (.val (.bool false)),bx,ob⟩ K):Ao P ops (o::rest) ⟨n,s,bx,ob⟩ K:=iV hg hd hs (fun h=>ht (condT h H)) (fun h=>hf (condF h H))
theorem Do.sH{P:Program}{T:TT}{rb:RB}{ops:Array Oper}{o:Oper}{k:Nat}{L:List Nat}{n:Nat}{s:Nat->PV}{bx:Nat->Option Box}{ob:Nat->Option Obj}{K:PState->Prop}{j:Nat}{want b:Bool}{d:Nat}(ho:ops[k]? =some o)(hg:o.guard=some (j,want))(hd:(ops[j]?).bind (·.dst)=some d)(hs:s d= .val (.bool b)){α:Type}{A B r:α}(H:cond b A B=r)
  (ht:A=r->Do P T rb ops (k::L) ⟨n,upd s d (.val (.bool true)),bx,ob⟩ K) (hf:B=r->Do P T rb ops (k::L) ⟨n,upd s d (.val (.bool false)),bx,ob⟩ K):Do P T rb ops (k::L) ⟨n,s,bx,ob⟩ K:=pI ho hg hd hs (fun h=>ht (condT h H)) (fun h=>hf (condF h H))
theorem nh{P:Program}{T:TT}{rb:RB}{ops:Array Oper}{o:Oper}{k:Nat}{L:List Nat}{n:Nat}{s:Nat->PV}{bx:Nat->Option Box}{ob:Nat->Option Obj}{K:PState->Prop}{j:Nat}{want b:Bool}{d:Nat}{α:Type}{A B r:α}(H:cond b A B=r)(ht:A=r->Do P T rb ops (k::L) ⟨n,upd s d (.val (.bool true)),bx,ob⟩ K)(hf:B=r->Do P T rb ops (k::L) ⟨n,upd s d (.val (.bool false)),bx,ob⟩ K)(ho:ops[k]? =some o:=by exact Z)(hg:o.guard=some (j,want):=by exact Z)(hd:(ops[j]?).bind (·.dst)=some d:=by exact Z)(hs:s d= .val (.bool b):=by exact Z):Do P T rb ops (k::L) ⟨n,s,bx,ob⟩ K:=Do.sH ho hg hd hs H ht hf
theorem thenF_ret{σ τ ρ:Type}{r:ρ}{k:σ->Option (Flow τ ρ)}{x:Flow τ ρ}(h:Flow.thenF (.ret r) k=some x):x= .ret r:=(Option.some.inj h).symm
theorem thenR_ret{σ ρ:Type}{r x:ρ}{k:σ->Option ρ}(h:Flow.thenR (.ret r) k=some x):r=x:=Option.some.inj h
theorem ay{α:Type}{a b:α}(h:some a=some b):a=b:=Option.some.inj h
def pS{α σ ρ:Type}(step:Nat->α->σ->Option (Flow σ ρ))(xs:List α)(j:Nat)(res:Flow σ ρ):Flow σ ρ->Prop
 | .next s'=>au step (j+1) (xs.drop (j+1)) s'=some res
 | .brk s'=>res= .next s'
 | .ret r=>res= .ret r
theorem rMc{α σ ρ:Type}{step:Nat->α->σ->Option (Flow σ ρ)}{xs:List α}{j:Nat}{s:σ}{res:Flow σ ρ}(hj:j<xs.length)(h:au step j (xs.drop j) s=some res):
  ∃x fl,xs[j]? =some x/\step j x s=some fl/\pS step xs j res fl:=by
 rw[List.drop_eq_getElem_cons hj,au]at h
 refine⟨xs[j],?_⟩
 split at h
 ·cases h
 ·rename_i s' hs;exact⟨_,ze hj,hs,h⟩
 ·rename_i s' hs;exact⟨_,ze hj,hs,(Option.some.inj h).symm⟩
 ·rename_i s' hs;exact⟨_,ze hj,hs,(Option.some.inj h).symm⟩
theorem rMd{α σ ρ:Type}{step:Nat->α->σ->Option (Flow σ ρ)}{xs:List α}{j:Nat}{s:σ}{res:Flow σ ρ}(hj:xs.length<=j)(h:au step j (xs.drop j) s=some res):res= .next s:=by
 rw[List.drop_eq_nil_of_le hj,au]at h
 exact(Option.some.inj h).symm
def iterGo{σ ρ:Type}(step:σ->Option (Flow σ ρ))(n:Nat)(res:Flow σ ρ):Flow σ ρ->Prop
 | .next s'=>lp step n s'=some res
 | .brk s'=>res= .next s'
 | .ret r=>res= .ret r
theorem gv{σ ρ:Type}{step:σ->Option (Flow σ ρ)}{n:Nat}{s:σ}{res:Flow σ ρ}(h:lp step (n+1) s=some res):∃fl,step s=some fl/\iterGo step n res fl:=by
 rw[lp]at h;split at h
 ·cases h
 ·rename_i s' hs;exact⟨_,hs,h⟩
 ·rename_i s' hs;exact⟨_,hs,(Option.some.inj h).symm⟩
 ·rename_i s' hs;exact⟨_,hs,(Option.some.inj h).symm⟩
section
variable{P:Program}{fn:Func}{R:PV->Heap->Prop}{k:List KI}{n:Nat}{s:Nat->PV}{bx:Nat->Option Box}{ob:Nat->Option Obj}{T:TT}{st:PState}
theorem fK{τ γ:Type}(J:τ->γ->PState)(Gd:τ->Prop){c:Code}(h:V P fn R (.code c:: .stop (fun st'=>∃t g,Gd t/\st'=J t g)::k) st)(hk:∀t g,Gd t->V P fn R k (J t g)):
  V P fn R (.code c::k) st:=by
 intro C M a w hi
 have:=h C M a w hi
 simp only[after]at this⊢;refine wp_mono this ?_;intro e a w he;cases e with
 |normal=>
  obtain⟨C',st',M',hrb,⟨t,g,hG,rfl⟩,hi'⟩:=he
  exact lM hrb (retP_conv hrb) k _ a w (hk t g hG C' M' a w hi')
 |_=>exact he
theorem fc{τ γ:Type}{J:τ->γ->PState}{Gd:τ->Prop}(t:τ)(g:γ)(hG:Gd t)(h:Gh P st (J t g)):V P fn R (.stop (fun st'=>∃t g,Gd t/\st'=J t g)::k) st:=
 cv h (xc ⟨t,g,hG,rfl⟩)
theorem fQ{τ γ β:Type}{x:Option τ}{f:τ->Option β}{r:β}(J:τ->γ->PState){c:Code}(H:aa x f=some r)(h:∀u,x=some u->V P fn R (.code c:: .stop (fun st'=>∃t g,t=u/\st'=J t g)::k) st)
  (hk:∀t g,f t=some r->V P fn R k (J t g)):V P fn R (.code c::k) st:=by
 obtain⟨u,h1,h2⟩:=aA H
 exact fK J (fun t=>t=u) (h u h1) (fun t g e=>hk t g (e▸h2))
theorem fP{τ γ β:Type}{x:τ}{f:τ->β}{r:β}(J:τ->γ->PState){c:Code}(H:letP x f=r)(h:∀u,x=u->V P fn R (.code c:: .stop (fun st'=>∃t g,t=u/\st'=J t g)::k) st)
  (hk:∀t g,f t=r->V P fn R k (J t g)):V P fn R (.code c::k) st:=by
 obtain⟨u,h1,h2⟩:=cI H
 exact fK J (fun t=>t=u) (h u h1) (fun t g e=>hk t g (e▸h2))
theorem V.cutR{σ γ β:Type}{x:Option (Flow σ β)}{f:σ->Option β}{r:β}(J:σ->γ->PState){c:Code}(H:aa x (fun fl=>fl.thenR f)=some r)(h:∀u,x=some u->u.thenR f=some r->V P fn R (.code c:: .stop (fun st'=>∃t g,u= .next t/\st'=J t g)::k) st)
  (hk:∀t g,f t=some r->V P fn R k (J t g)):V P fn R (.code c::k) st:=by
 obtain⟨u,h1,h2⟩:=aA H
 exact fK J (fun t=>u= .next t) (h u h1 h2) (fun t g e=>hk t g (by subst e;exact h2))
theorem V.cutF{σ τ γ β:Type}{x:Option (Flow σ β)}{f:σ->Option (Flow τ β)}{r:Flow τ β}(J:σ->γ->PState){c:Code}(H:aa x (fun fl=>fl.thenF f)=some r)(h:∀u,x=some u->u.thenF f=some r->V P fn R (.code c:: .stop (fun st'=>∃t g,u= .next t/\st'=J t g)::k) st)
  (hk:∀t g,f t=some r->V P fn R k (J t g)):V P fn R (.code c::k) st:=by
 obtain⟨u,h1,h2⟩:=aA H
 exact fK J (fun t=>u= .next t) (h u h1 h2) (fun t g e=>hk t g (by subst e;exact h2))
theorem jw{α σ ρ γ:Type}{step:Nat->α->σ->Option (Flow σ ρ)}{xs:List α}{res:Flow σ ρ}(F:Nat->σ->γ->PState){s₀:σ}(g₀:γ){c:Code}
  (hres:au step 0 xs s₀=some res) (h₀:Gh P st (F 0 s₀ g₀))
  (round:∀j s g,j<=xs.length->au step j (xs.drop j) s=some res->
   V P fn R (.code c:: .stop (fun st'=>∃s' g',(j+1<=xs.length/\au step (j+1) (xs.drop (j+1)) s'=some res)/\st'=F (j+1) s' g')::k) (F j s g)):
  V P fn R (.code (.loop c)::k) st:=by
 refine mJ (X:=Nat×σ×γ) (fun X=>F X.1 X.2.1 X.2.2) (fun X=>X.1<=xs.length/\au step X.1 (xs.drop X.1) X.2.1=some res) (fun X=>xs.length-X.1) (0,s₀,g₀) ⟨Nat.zero_le _,by simpa using hres⟩ h₀ ?_
 rintro⟨j,s,g⟩ ⟨h1,h2⟩
 refine xn (fun st' ⟨s',g',⟨h4,h5⟩,e⟩=>⟨(j+1,s',g'),?_,⟨h4,h5⟩,e⟩) (round j s g h1 h2);show xs.length-(j+1)<xs.length-j;omega
theorem eR{σ γ:Type}{Q:σ->Prop}{F:σ->γ->PState}(s':σ)(g':γ)(hQ:Q s')(h:Gh P st (F s' g')):V P fn R (.stop (fun st'=>∃s' g',Q s'/\st'=F s' g')::k) st:=
 cv h (xc ⟨s',g',hQ,rfl⟩)
theorem iZ{σ ρ γ:Type}{step:σ->Option (Flow σ ρ)}{res:Flow σ ρ}(F:σ->γ->PState){s₀:σ}(g₀:γ){c:Code}
  (hres:gX step s₀=some res) (h₀:Gh P st (F s₀ g₀))
  (round:∀m s g,lp step (m+1) s=some res->V P fn R (.code c:: .stop (fun st'=>∃s' g',lp step m s'=some res/\st'=F s' g')::k) (F s g)):
  V P fn R (.code (.loop c)::k) st:=by
 obtain⟨m,hm⟩:=whileM_iff.1 hres
 refine mJ (X:=Nat×σ×γ) (fun X=>F X.2.1 X.2.2) (fun X=>lp step X.1 X.2.1=some res) (fun X=>X.1) (m,s₀,g₀) hm h₀ ?_
 rintro⟨j,s,g⟩ h2
 cases j with
 |zero=>simp[lp]at h2
 |succ j=>
 exact xn (fun st' ⟨s',g',h5,e⟩=>⟨(j,s',g'),Nat.lt_succ_self j,h5,e⟩) (round j s g h2)
theorem Gh.cast(d:Nat){p q:PV}(hs:s d=p)(h:PLe P p q):Gh P ⟨n,s,bx,ob⟩ ⟨n,upd s d q,bx,ob⟩:=fun _ M _ _ hi=>
 ⟨M,⟨hi.1.1,hi.1.2.1,fun t=>by
  show Rep P M true (upd s d q t) _;rw[fB];split
  ·rename_i e;subst e;have:=hi.1.2.2 t;exact h M _ (hs▸this)
  ·exact hi.1.2.2 t⟩,hi.2⟩
theorem V.cast(d:Nat){p q:PV}(hs:s d=p)(h:PLe P p q)(hV:V P fn R k ⟨n,upd s d q,bx,ob⟩):V P fn R k ⟨n,s,bx,ob⟩:=cv (Gh.cast d hs h) hV
end
section
variable{α:Type}{f f':α->List PV}
theorem aQ(hE:∀x,f' x=f x){xs:List α}{j:Nat}{x:α}(h:xs[j]? =some x):(xs.map f')[((j:Nat):Int).toNat]? =some (f x):=by
 simp[h,hE]
theorem dJ(hE:∀x,f' x=f x){xs:List α}{i:Int}{x:α}(h:xs[i.toNat]? =some x):(xs.map f')[i.toNat]? =some (f x):=by
 simp[h,hE]
theorem vP(hE:∀x,f' x=f x)(xs:List α):xs.map f=xs.map f':=by
 apply List.map_congr_left;intro x _
 exact(hE x).symm
theorem pT{xs ys:List α}{a b:Nat}(h:ys=(xs.take b).drop a):((xs.map f).take b).drop a=ys.map f:=by rw[h];simp
theorem qk{xs:List α}{j:Nat}(h:decide ((j:Int)<((xs.length:Nat):Int))=true):j<xs.length:=by simpa using h
theorem qp{xs:List α}{j:Nat}(h:decide ((j:Int)<((xs.length:Nat):Int))=false):xs.length<=j:=by simpa using h
end
theorem iW.of_eq{P:Program}{a b:List (List PV)}(h:a=b):iW P a b:=h▸iW.refl a
theorem iW.trans{P:Program}{a b c:List (List PV)}(h:iW P a b)(h':iW P b c):iW P a c:=⟨h.1.trans h'.1,fun M k x o hx=>h'.2 M k x o (h.2 M k x o hx)⟩
def ax{α:Type}(xs:List α)(i:Int):Option α:=if 0<=i then xs[i.toNat]? else none
theorem gIs{α:Type}{xs:List α}{i:Int}{x:α}(h:ax xs i=some x):0<=i/\xs[i.toNat]? =some x:=by
 unfold ax at h;split at h
 ·rename_i h0;exact⟨h0,h⟩
 ·cases h
theorem eC{α β:Type}{xs:List α}{i:Int}{k:α->Option β}{r:β}(h:aa (ax xs i) k=some r):∃a,(0<=i/\xs[i.toNat]? =some a)/\k a=some r:=by
 obtain⟨a,h1,h2⟩:=aA h
 exact⟨a,gIs h1,h2⟩
def oq{α:Type}(xs:List α)(a b:Int):Option (List α):=if 0<=a/\a<=b/\b<=xs.length then some ((xs.take b.toNat).drop a.toNat)else none
theorem oH{α:Type}{xs ys:List α}{a b:Int}(h:oq xs a b=some ys):(0<=a/\a<=b/\b<=xs.length)/\ys=(xs.take b.toNat).drop a.toNat:=by
 unfold oq at h;split at h
 ·rename_i h0;exact⟨h0,(Option.some.inj h).symm⟩
 ·cases h
def cE{α:Type}(bytes:Nat)(xs ys:List α):Option (List α):=if(xs.length+ys.length)*bytes<=2^47/\xs.length+ys.length<=maxLen then some (xs++ys)else none
theorem fZ{α:Type}{bytes:Nat}{xs ys zs:List α}(h:cE bytes xs ys=some zs):(xs.length+ys.length)*bytes<=2^47/\xs.length+ys.length<=maxLen/\zs=xs++ys:=by
 unfold cE at h;split at h
 ·rename_i h0;exact⟨h0.1,h0.2,(Option.some.inj h).symm⟩
 ·cases h
theorem jD{α β:Type}{f:α->β}{bytes:Nat}{xs ys:List α}(h:(xs.length+ys.length)*bytes<=2^47):((xs.map f).length+(ys.map f).length)*bytes<=2^47:=by simpa using h
theorem jC{α β:Type}{f:α->β}{xs ys:List α}(h:xs.length+ys.length<=maxLen):(xs.map f).length+(ys.map f).length<=maxLen:=by simpa using h
theorem jz{α β:Type}{f:α->β}{xs ys zs:List α}(h:zs=xs++ys):xs.map f++ys.map f=zs.map f:=by rw[h,List.map_append]
def Flow.thenP{σ β:Type}(fl:Flow σ Empty)(k:σ->Option β):Option β:=match fl with
 | .next s=>k s
 | .brk s=>k s
 | .ret r=>r.elim
theorem ep{σ β:Type}{fl:Flow σ Empty}{t:σ}{k:σ->Option β}{r:β}(h:fl= .next t)(H:fl.thenP k=some r):k t=some r:=by subst h;exact H
theorem mn{σ ρ:Type}{fl:Flow σ ρ}{t:σ}{k:σ->Option ρ}{r:ρ}(h:fl= .next t)(H:fl.thenR k=some r):k t=some r:=by subst h;exact H
theorem thenF_next{σ τ ρ:Type}{fl:Flow σ ρ}{t:σ}{k:σ->Option (Flow τ ρ)}{r:Flow τ ρ}(h:fl= .next t)(H:fl.thenF k=some r):k t=some r:=by subst h;exact H
section
variable{P:Program}{fn:Func}{R:PV->Heap->Prop}{k:List KI}{n:Nat}{s:Nat->PV}{bx:Nat->Option Box}{ob:Nat->Option Obj}{T:TT}
def nB{σ γ:Type}:σ->γ->Nat->Option Box:=fun _ _ _=>none
def nO{σ γ:Type}:σ->γ->Nat->Option Obj:=fun _ _ _=>none
theorem xb{α σ ρ γ β:Type}{step:Nat->α->σ->Option (Flow σ ρ)}{xs:List α}{s₀:σ}{th:Flow σ ρ->Option β}{r:β}{rw:α->List PV}
  (hT:T.Ok P) (d:Nat) {e:TypeId} {ei:TInfo} (hei:T.get e=some ei) (hs:s d= .list e (xs.map rw))
  (S:σ->γ->Nat->PV) (B:σ->γ->Nat->Option Box) (O:σ->γ->Nat->Option Obj) (E:(Nat->PV)->Nat->σ->γ->Nat->PV) (g₀:γ)
  {id rid:Nat} {ops:Array Oper} {o:Oper} {tst:Operand} {rest:Code} {S':Nat->σ->γ->Nat->PV}
  (H:aa (au step 0 xs s₀) th=some r)
  (h₀:Gh P ⟨n,s,bx,ob⟩ ⟨n,E (S s₀ g₀) 0 s₀ g₀,B s₀ g₀,O s₀ g₀⟩)
  (ho:ops.toList=[o])
  (hq:∀j s g,pl T ops n (E (S s g) j s g) (B s g) o=some (S' j s g))
  (ht:∀j s g,evS (S' j s g) tst= .val (.bool (decide ((j:Int)<((xs.length:Nat):Int)))))
  (hx:∀j s g,Gh P ⟨n,S' j s g,B s g,O s g⟩ ⟨n,S s g,B s g,O s g⟩)
  (round:∀fl,th fl=some r->∀j s g,xs.length<=maxLen->j<xs.length->∀x fb,xs[j]? =some x->step j x s=some fb->pS step xs j fl fb->
   V P fn R (.code rest:: .stop (fun st'=>∃s' g',(j+1<=xs.length/\au step (j+1) (xs.drop (j+1)) s'=some fl)/\st'=⟨n,E (S s' g') (j+1) s' g',B s' g',O s' g'⟩):: .blk id:: .stop (fun st'=>∃t g,fl= .next t/\st'=⟨n,S t g,B t g,O t g⟩)::k) ⟨n,S' j s g,B s g,O s g⟩)
  (hk:∀t g,th (.next t)=some r->V P fn R k ⟨n,S t g,B t g,O t g⟩):
  V P fn R (.code (.block id (.loop (.seq (.region rid ops false) (.seq (.cond tst .skip (.exit id)) rest))))::k) ⟨n,s,bx,ob⟩:=by
 refine jc hT d hei hs (fun hz _=>?_);rw[zl]at hz
 obtain⟨fl,h1,h2⟩:=aA H
 refine fK (fun t g=>⟨n,S t g,B t g,O t g⟩) (fun t=>fl= .next t) ?_ (fun t g e=>hk t g (by subst e;exact h2));refine aG (jw (fun j s g=>⟨n,E (S s g) j s g,B s g,O s g⟩) g₀ h1 h₀ (fun j s g hj hr=>?_));refine al (ah ?_);rw[ho];refine aD hT (hq j s g) (ao ?_);refine al (aY (ht j s g) (fun h=>?_) (fun h=>?_))
 ·have hl:j<xs.length:=by simpa using h
  obtain⟨x,fb,hx1,H,hg⟩:=rMc hl hr
  exact aE (round fl h2 j s g hz hl x fb hx1 H hg)
 ·have hn:=rMd (by simpa using h) hr;refine bd (k':= .stop (fun st'=>∃t g,fl= .next t/\st'=⟨n,S t g,B t g,O t g⟩)::k) ?_ (fc s g hn (hx j s g));simp[qf,Nat.beq_refl]
theorem xd{α σ γ β:Type}{step:Nat->α->σ->Option (Flow σ Empty)}{xs:List α}{s₀:σ}{kk:σ->Option (β)}{r:β}{rw:α->List PV}
  (hT:T.Ok P) (d:Nat) {e:TypeId} {ei:TInfo} (hei:T.get e=some ei) (hs:s d= .list e (xs.map rw))
  (S:σ->γ->Nat->PV) (B:σ->γ->Nat->Option Box) (O:σ->γ->Nat->Option Obj) (E:(Nat->PV)->Nat->σ->γ->Nat->PV) (g₀:γ)
  {id rid:Nat} {ops:Array Oper} {o:Oper} {tst:Operand} {rest:Code} {S':Nat->σ->γ->Nat->PV}
  (H:aa (au step 0 xs s₀) (fun fl=>fl.thenP kk)=some r)
  (ho:ops.toList=[o])
  (h₀:Gh P ⟨n,s,bx,ob⟩ ⟨n,E (S s₀ g₀) 0 s₀ g₀,B s₀ g₀,O s₀ g₀⟩)
  (hq:∀j s g,pl T ops n (E (S s g) j s g) (B s g) o=some (S' j s g))
  (ht:∀j s g,evS (S' j s g) tst= .val (.bool (decide ((j:Int)<((xs.length:Nat):Int)))))
  (hx:∀j s g,Gh P ⟨n,S' j s g,B s g,O s g⟩ ⟨n,S s g,B s g,O s g⟩)
  (round:∀fl,fl.thenP kk=some r->∀j s g,xs.length<=maxLen->j<xs.length->∀x fb,xs[j]? =some x->step j x s=some fb->pS step xs j fl fb->
   V P fn R (.code rest:: .stop (fun st'=>∃s' g',(j+1<=xs.length/\au step (j+1) (xs.drop (j+1)) s'=some fl)/\st'=⟨n,E (S s' g') (j+1) s' g',B s' g',O s' g'⟩):: .blk id:: .stop (fun st'=>∃t g,fl= .next t/\st'=⟨n,S t g,B t g,O t g⟩)::k) ⟨n,S' j s g,B s g,O s g⟩)
  (hk:∀t g,kk t=some r->V P fn R k ⟨n,S t g,B t g,O t g⟩):
  V P fn R (.code (.block id (.loop (.seq (.region rid ops false) (.seq (.cond tst .skip (.exit id)) rest))))::k) ⟨n,s,bx,ob⟩:=
 xb hT d hei hs S B O E g₀ H h₀ ho hq ht hx round (fun t g e=>hk t g e)
theorem xG{α σ γ β:Type}{step:Nat->α->σ->Option (Flow σ β)}{xs:List α}{s₀:σ}{kk:σ->Option (β)}{r:β}{rw:α->List PV}
  (hT:T.Ok P) (d:Nat) {e:TypeId} {ei:TInfo} (hei:T.get e=some ei) (hs:s d= .list e (xs.map rw))
  (S:σ->γ->Nat->PV) (B:σ->γ->Nat->Option Box) (O:σ->γ->Nat->Option Obj) (E:(Nat->PV)->Nat->σ->γ->Nat->PV) (g₀:γ)
  {id rid:Nat} {ops:Array Oper} {o:Oper} {tst:Operand} {rest:Code} {S':Nat->σ->γ->Nat->PV}
  (H:aa (au step 0 xs s₀) (fun fl=>fl.thenR kk)=some r)
  (ho:ops.toList=[o])
  (h₀:Gh P ⟨n,s,bx,ob⟩ ⟨n,E (S s₀ g₀) 0 s₀ g₀,B s₀ g₀,O s₀ g₀⟩)
  (hq:∀j s g,pl T ops n (E (S s g) j s g) (B s g) o=some (S' j s g))
  (ht:∀j s g,evS (S' j s g) tst= .val (.bool (decide ((j:Int)<((xs.length:Nat):Int)))))
  (hx:∀j s g,Gh P ⟨n,S' j s g,B s g,O s g⟩ ⟨n,S s g,B s g,O s g⟩)
  (round:∀fl,fl.thenR kk=some r->∀j s g,xs.length<=maxLen->j<xs.length->∀x fb,xs[j]? =some x->step j x s=some fb->pS step xs j fl fb->
   V P fn R (.code rest:: .stop (fun st'=>∃s' g',(j+1<=xs.length/\au step (j+1) (xs.drop (j+1)) s'=some fl)/\st'=⟨n,E (S s' g') (j+1) s' g',B s' g',O s' g'⟩):: .blk id:: .stop (fun st'=>∃t g,fl= .next t/\st'=⟨n,S t g,B t g,O t g⟩)::k) ⟨n,S' j s g,B s g,O s g⟩)
  (hk:∀t g,kk t=some r->V P fn R k ⟨n,S t g,B t g,O t g⟩):
  V P fn R (.code (.block id (.loop (.seq (.region rid ops false) (.seq (.cond tst .skip (.exit id)) rest))))::k) ⟨n,s,bx,ob⟩:=
 xb hT d hei hs S B O E g₀ H h₀ ho hq ht hx round (fun t g e=>hk t g e)
def eL{α:Type}(i m d:Nat)(ety:TypeId)(xs:List α)(rw:α->List PV)(e:Nat->PV)(j:Nat):Nat->PV:=upd (upd (upd e i (.val (.int .i64 (j:Int)))) m (.val (.int .i64 (xs.length:Int)))) d (.list ety (xs.map rw))
theorem fW{α σ γ β:Type}{step:Nat->α->σ->Option (Flow σ Empty)}{xs:List α}{s₀:σ}{kk:σ->Option (β)}{r:β}{rw:α->List PV}
  (hT:T.Ok P) (i m d:Nat) {e:TypeId} {ei:TInfo}
  (S:σ->γ->Nat->PV) (B:σ->γ->Nat->Option Box) (O:σ->γ->Nat->Option Obj) (g₀:γ)
  {id rid:Nat} {ops:Array Oper} {o:Oper} {tst:Operand} {rest:Code} {S':Nat->σ->γ->Nat->PV}
  (H:aa (au step 0 xs s₀) (fun fl=>fl.thenP kk)=some r)
  (round:∀fl,fl.thenP kk=some r->∀j s g,xs.length<=maxLen->j<xs.length->∀x fb,xs[j]? =some x->step j x s=some fb->pS step xs j fl fb->
   V P fn R (.code rest:: .stop (fun st'=>∃s' g',(j+1<=xs.length/\au step (j+1) (xs.drop (j+1)) s'=some fl)/\st'=⟨n,eL i m d e xs rw (S s' g') (j+1),B s' g',O s' g'⟩):: .blk id:: .stop (fun st'=>∃t g,fl= .next t/\st'=⟨n,S t g,B t g,O t g⟩)::k) ⟨n,S' j s g,B s g,O s g⟩)
  (hk:∀t g,kk t=some r->V P fn R k ⟨n,S t g,B t g,O t g⟩)
  (hs:s d= .list e (xs.map rw):=by exact Z) (hei:T.get e=some ei:=by exact Z) (ho:ops.toList=[o]:=by exact Z)
  (h₀:Gh P ⟨n,s,bx,ob⟩ ⟨n,eL i m d e xs rw (S s₀ g₀) 0,B s₀ g₀,O s₀ g₀⟩:=by exact Gh.d)
  (hq:∀j s g,pl T ops n (eL i m d e xs rw (S s g) j) (B s g) o=some (S' j s g):=by exact fun _ _ _=>rfl)
  (ht:∀j s g,evS (S' j s g) tst= .val (.bool (decide ((j:Int)<((xs.length:Nat):Int)))):=by exact fun _ _ _=>rfl)
  (hx:∀j s g,Gh P ⟨n,S' j s g,B s g,O s g⟩ ⟨n,S s g,B s g,O s g⟩:=by exact fun _ _ _=>Gh.d):
  V P fn R (.code (.block id (.loop (.seq (.region rid ops false) (.seq (.cond tst .skip (.exit id)) rest))))::k) ⟨n,s,bx,ob⟩:=
 xd hT d hei hs S B O (fun e j _ _=>eL i m d _ xs rw e j) g₀ H ho h₀ hq ht hx round hk
theorem fg{α σ γ β:Type}{step:Nat->α->σ->Option (Flow σ β)}{xs:List α}{s₀:σ}{kk:σ->Option (β)}{r:β}{rw:α->List PV}
  (hT:T.Ok P) (i m d:Nat) {e:TypeId} {ei:TInfo}
  (S:σ->γ->Nat->PV) (B:σ->γ->Nat->Option Box) (O:σ->γ->Nat->Option Obj) (g₀:γ)
  {id rid:Nat} {ops:Array Oper} {o:Oper} {tst:Operand} {rest:Code} {S':Nat->σ->γ->Nat->PV}
  (H:aa (au step 0 xs s₀) (fun fl=>fl.thenR kk)=some r)
  (round:∀fl,fl.thenR kk=some r->∀j s g,xs.length<=maxLen->j<xs.length->∀x fb,xs[j]? =some x->step j x s=some fb->pS step xs j fl fb->
   V P fn R (.code rest:: .stop (fun st'=>∃s' g',(j+1<=xs.length/\au step (j+1) (xs.drop (j+1)) s'=some fl)/\st'=⟨n,eL i m d e xs rw (S s' g') (j+1),B s' g',O s' g'⟩):: .blk id:: .stop (fun st'=>∃t g,fl= .next t/\st'=⟨n,S t g,B t g,O t g⟩)::k) ⟨n,S' j s g,B s g,O s g⟩)
  (hk:∀t g,kk t=some r->V P fn R k ⟨n,S t g,B t g,O t g⟩)
  (hs:s d= .list e (xs.map rw):=by exact Z) (hei:T.get e=some ei:=by exact Z) (ho:ops.toList=[o]:=by exact Z)
  (h₀:Gh P ⟨n,s,bx,ob⟩ ⟨n,eL i m d e xs rw (S s₀ g₀) 0,B s₀ g₀,O s₀ g₀⟩:=by exact Gh.d)
  (hq:∀j s g,pl T ops n (eL i m d e xs rw (S s g) j) (B s g) o=some (S' j s g):=by exact fun _ _ _=>rfl)
  (ht:∀j s g,evS (S' j s g) tst= .val (.bool (decide ((j:Int)<((xs.length:Nat):Int)))):=by exact fun _ _ _=>rfl)
  (hx:∀j s g,Gh P ⟨n,S' j s g,B s g,O s g⟩ ⟨n,S s g,B s g,O s g⟩:=by exact fun _ _ _=>Gh.d):
  V P fn R (.code (.block id (.loop (.seq (.region rid ops false) (.seq (.cond tst .skip (.exit id)) rest))))::k) ⟨n,s,bx,ob⟩:=
 xG hT d hei hs S B O (fun e j _ _=>eL i m d _ xs rw e j) g₀ H ho h₀ hq ht hx round hk
end
def resT(s:Nat->PV):List ResultVar->Option (List PV)
 |[]=>some []
 | .tmp t::l=>match resT s l with|some ps=>some (s t::ps)|none=>none
 | .cell _ _::_=>none
section
variable{P:Program}{fn:Func}{R:PV->Heap->Prop}{k:List KI}{n:Nat}{s:Nat->PV}{bx:Nat->Option Box}{ob:Nat->Option Obj}{T:TT}{st:PState}
theorem tZ:∀{l:List ResultVar} {ps:List PV},resT s l=some ps->pm T ⟨n,s,bx,ob⟩ l ps
 |[],ps,h=>by simp only[resT,zo]at h;exact h.symm
 | .tmp t::l,ps,h=>by
  simp only[resT]at h;split at h
  ·rename_i qs hq;cases h;exact⟨_,_,rfl,rfl,tZ hq⟩
  ·cases h
 | .cell _ _::_,ps,h=>by simp[resT]at h
theorem pW{α:Type}{x y:α}{ps:List PV}{r:PV}(hT:T.Ok P)(H:x=y)(h:resT s fn.results.toList=some ps)(he:x=y->nZ ps=r:=by intro e;subst e;rfl):
  V P fn (fun u H=>u=r/\H=Heap.empty) (.code .ret::k) ⟨n,s,bx,ob⟩:=lH hT Z (tZ h) (PLe.q (he H))
theorem V.rS{α:Type}{x y:α}{ps:List PV}{r:PV}(hT:T.Ok P)(H:some x=some y)(h:resT s fn.results.toList=some ps)(he:x=y->nZ ps=r:=by intro e;subst e;rfl):
  V P fn (fun u H=>u=r/\H=Heap.empty) (.code .ret::k) ⟨n,s,bx,ob⟩:=pW hT (ay H) h he
theorem vD{α:Type}{x y:α}{r p:PV}{a t tag b off:Nat}{ti:TInfo}{cells:List PV}(hT:T.Ok P)(H:x=y)(hr:fn.results=#[.cell a t])(hti:T.get t=some ti)(hs:s a= .box tag b off)(hb:bx tag=some ⟨b,cells⟩)(hc:eU ti off cells=some p)(he:x=y->p=r:=by intro e;subst e;rfl):
  V P fn (fun u H=>u=r/\H=Heap.empty) (.code .ret::k) ⟨n,s,bx,ob⟩:=lH hT hr (ps:=[p]) ⟨_,_,rfl,⟨_,_,_,_,_,hti,hs,hb,hc⟩,rfl⟩ (PLe.q (he H))
theorem wV{α:Type}{x y:α}{r p:PV}{a t tag b off:Nat}{ti:TInfo}{cells:List PV}(hT:T.Ok P)(H:some x=some y)(hr:fn.results=#[.cell a t])(hti:T.get t=some ti)(hs:s a= .box tag b off)(hb:bx tag=some ⟨b,cells⟩)(hc:eU ti off cells=some p)(he:x=y->p=r:=by intro e;subst e;rfl):
  V P fn (fun u H=>u=r/\H=Heap.empty) (.code .ret::k) ⟨n,s,bx,ob⟩:=vD hT (ay H) hr hti hs hb hc he
theorem cJ{α σ ρ γ:Type}{step:Nat->α->σ->Option (Flow σ ρ)}{xs:List α}{j:Nat}{res fb:Flow σ ρ}{v:σ}{F:σ->γ->PState}(g':γ)(H:some (Flow.next v)=some fb)(hl:j<xs.length)(hg:pS step xs j res fb)(h:Gh P st (F v g'):=by exact Gh.d):
  V P fn R (.stop (fun st'=>∃s' g',(j+1<=xs.length/\au step (j+1) (xs.drop (j+1)) s'=some res)/\st'=F s' g')::k) st:=by
 cases H;exact eR v g' ⟨hl,hg⟩ h
end
def oO(n:Int):Option Nat:=if n<=2^62 then some n.toNat else none
theorem nR{n:Int}{m:Nat}(h:oO n=some m):n<=2^62/\m=n.toNat:=by
 unfold oO at h;split at h
 ·rename_i h0;exact⟨h0,(Option.some.inj h).symm⟩
 ·cases h
section
variable{P:Program}{ops:Array Oper}{rest:List Oper}{o:Oper}{n:Nat}{s s':Nat->PV}{bx:Nat->Option Box}{ob:Nat->Option Obj}{K:PState->Prop}{T:TT}{rb:RB}{k:Nat}{L:List Nat}
theorem jA(d:Nat){p q:PV}(hs:s d=p)(h:PLe P p q)(hV:Ao P ops rest ⟨n,upd s d q,bx,ob⟩ K):Ao P ops rest ⟨n,s,bx,ob⟩ K:=iT (Gh.cast d hs h) hV
theorem Ao.lenL(hT:T.Ok P)(hg:aF ops s o=some true){x:Operand}{t:TypeId}{ts:List TypeId}(ho:o.op= .call {callee:= .builtin .len,args:=#[x],argTypes:=(t::ts).toArray}){ti:TInfo}{e':TypeId}(hti:T.get t=some ti)(hd:ti.desc= .slice e')
  {e:TypeId} {rows:List (List PV)} (hx:evS s x= .list e rows) {m:Nat} (hm:rows.length=m) (hp:putD n s o.dst (.val (.int .i64 m))=some s') (h:Ao P ops rest ⟨n,s',bx,ob⟩ K):Ao P ops (o::rest) ⟨n,s,bx,ob⟩ K:=by
 refine qt hT hg (r:= .val (.int .i64 m)) ?_ hp h;rw[ho];simp[kD,rD,hti,hd,hx,lenPV,hm]
theorem ic{x:Operand}{t:TypeId}{ts:List TypeId}{ti:TInfo}{e':TypeId}{e:TypeId}{rows:List (List PV)}{m:Nat}(hT:T.Ok P)(hm:rows.length=m)(h:Ao P ops rest ⟨n,s',bx,ob⟩ K)(hg:aF ops s o=some true:=by exact Z)(ho:o.op= .call {callee:= .builtin .len,args:=#[x],argTypes:=(t::ts).toArray}:=by exact Z)(hti:T.get t=some ti:=by exact Z)(hd:ti.desc= .slice e':=by exact Z)(hx:evS s x= .list e rows:=by exact Z)(hp:putD n s o.dst (.val (.int .i64 m))=some s':=by exact Z):Ao P ops (o::rest) ⟨n,s,bx,ob⟩ K:=Ao.lenL hT hg ho hti hd hx hm hp h
theorem Ao.lenO(hT:T.Ok P)(hg:aF ops s o=some true){x:Operand}{t:TypeId}{ts:List TypeId}(ho:o.op= .call {callee:= .builtin .len,args:=#[x],argTypes:=(t::ts).toArray}){ti:TInfo}{e':TypeId}(hti:T.get t=some ti)(hd:ti.desc= .slice e')
  {tg l:Nat} {g:OwnRef} (hx:evS s x= .own tg g l) {m:Nat} (hm:l=m) (hp:putD n s o.dst (.val (.int .i64 m))=some s') (h:Ao P ops rest ⟨n,s',bx,ob⟩ K):Ao P ops (o::rest) ⟨n,s,bx,ob⟩ K:=by
 refine qt hT hg (r:= .val (.int .i64 m)) ?_ hp h;rw[ho];simp[kD,rD,hti,hd,hx,lenPV,hm]
theorem eO{x:Operand}{t:TypeId}{ts:List TypeId}{ti:TInfo}{e':TypeId}{tg l:Nat}{g:OwnRef}{m:Nat}(hT:T.Ok P)(hm:l=m)(h:Ao P ops rest ⟨n,s',bx,ob⟩ K)(hg:aF ops s o=some true:=by exact Z)(ho:o.op= .call {callee:= .builtin .len,args:=#[x],argTypes:=(t::ts).toArray}:=by exact Z)(hti:T.get t=some ti:=by exact Z)(hd:ti.desc= .slice e':=by exact Z)(hx:evS s x= .own tg g l:=by exact Z)(hp:putD n s o.dst (.val (.int .i64 m))=some s':=by exact Z):Ao P ops (o::rest) ⟨n,s,bx,ob⟩ K:=Ao.lenO hT hg ho hti hd hx hm hp h
theorem xj(ho:ops[k]? =some o)(hg:aF ops s o=some true){x:Operand}{t:TypeId}{ts:List TypeId}(hop:o.op= .call {callee:= .builtin .len,args:=#[x],argTypes:=(t::ts).toArray}){ti:TInfo}{e':TypeId}(hti:T.get t=some ti)(hd:ti.desc= .slice e')
  {e:TypeId} {rows:List (List PV)} (hx:evS s x= .list e rows) {m:Nat} (hm:rows.length=m) (hp:putD n s o.dst (.val (.int .i64 m))=some s') (h:Do P T rb ops L ⟨n,s',bx,ob⟩ K):Do P T rb ops (k::L) ⟨n,s,bx,ob⟩ K:=by
 refine wN ho hg (by rw[hop];rfl) (r:= .val (.int .i64 m)) ?_ hp h;rw[hop];simp[jQ,kD,rD,hti,hd,hx,lenPV,hm]
theorem wP(hT:T.Ok P)(hg:aF ops s o=some true){t:TypeId}{x:Operand}{lo hi:Option Operand}(ho:o.op= .slice t x lo hi none){ti:TInfo}{e:TypeId}(hti:T.get t=some ti)(hd:ti.desc= .slice e)
  {rows:List (List PV)} (hx:evS s x= .list e rows) {m:Nat} (hm:rows.length=m) {a b:Int} (ha:mX (lo.map (evS s)) 0=some a) (hb:mX (hi.map (evS s)) m=some b) (hab:0<=a/\a<=b/\b<=m)
  {rows':List (List PV)} (hr:(rows.take b.toNat).drop a.toNat=rows') (hp:putD n s o.dst (.list e rows')=some s') (h:Ao P ops rest ⟨n,s',bx,ob⟩ K):Ao P ops (o::rest) ⟨n,s,bx,ob⟩ K:=by
 subst hm;refine qt hT hg (r:= .list e rows') ?_ hp h;rw[ho];simp only[kD,hti,hd,hx,tm,Nat.beq_refl,zc,ha,hb];rw[zp hab,hr]
theorem wS(ho:ops[k]? =some o)(hg:aF ops s o=some true){t:TypeId}{x:Operand}{lo hi:Option Operand}(hop:o.op= .slice t x lo hi none){ti:TInfo}{e:TypeId}(hti:T.get t=some ti)(hd:ti.desc= .slice e)
  {rows:List (List PV)} (hx:evS s x= .list e rows) {m:Nat} (hm:rows.length=m) {a b:Int} (ha:mX (lo.map (evS s)) 0=some a) (hb:mX (hi.map (evS s)) m=some b) (hab:0<=a/\a<=b/\b<=m)
  {rows':List (List PV)} (hr:(rows.take b.toNat).drop a.toNat=rows') (hp:putD n s o.dst (.list e rows')=some s') (h:Do P T rb ops L ⟨n,s',bx,ob⟩ K):Do P T rb ops (k::L) ⟨n,s,bx,ob⟩ K:=by
 subst hm;refine wN ho hg (by rw[hop];rfl) (r:= .list e rows') ?_ hp h;rw[hop];simp only[jQ,kD,hti,hd,hx,tm,Nat.beq_refl,zc,ha,hb];rw[zp hab,hr]
theorem Rep.rowsLe{M:Mem}{b:Bool}{e:TypeId}{rows rows':List (List PV)}(h:iW P rows rows'){x:Value}(hx:Rep P M b (.list e rows) x):Rep P M b (.list e rows') x:=PLe2.list h M b x hx
theorem wh(hT:T.Ok P){o:Oper}{ev:Operand->PV}{H:Heap}{x y:Operand}{t:TypeId}(ho:o.op= .call {callee:= .builtin .append,args:=#[x,y],argTypes:=#[t,t]}){ti ei:TInfo}{e:TypeId}(hti:T.get t=some ti)(hd:ti.desc= .slice e)(hei:T.get e=some ei)
  (hz:Nat.beq ei.zero.cells.size ei.size=true) (hsz:Nat.blt 0 ei.size=true) {tag:Nat} {g:OwnRef} {len:Nat} {rows rows2 rows2' rows':List (List PV)} {wr:Bool} (hx:ev x= .own tag g len) (hob:H.ob tag=some ⟨g,e,rows,wr⟩) (hlen:len=rows.length) (hy:ev y= .list e rows2)
  (hle:iW P rows2 rows2') (hby:(rows.length+rows2'.length)*ei.bytes<=2^47) (hmx:rows.length+rows2'.length<=maxLen) (heq:rows++rows2'=rows') {K:PV->Heap->Prop} (hk:∀g',K (.own tag g' rows'.length) ⟨H.bx,upd H.ob tag (some ⟨g',e,rows',wr⟩)⟩):Eff P o ev H K:=by
 subst heq
 classical
 have hxy:x≠y:=fun e=>by subst e;rw[hx]at hy;cases hy
 intro C M a w next Q hi he hn
 have key:=we (P:=P) (o:=o) (ev:=fun z=>if z=y then PV.list e rows2' else ev z) (H:=H) hT ho hti hd hei hz hsz (rows2:=rows2') (by simp[hxy,hx]) hob hlen (by simp) hby hmx (K:=K) hk;refine key C M a w next Q hi (fun z hz=>?_) hn
 by_cases hzy:z=y
 ·subst hzy;simp only[if_true]
  have:=he z hz
  rw[hy]at this;exact Rep.rowsLe hle this
 ·simp only[hzy,if_false];exact he z hz
theorem lE(hT:T.Ok P)(hg:aF ops s o=some true){x y:Operand}{t:TypeId}(ho:o.op= .call {callee:= .builtin .append,args:=#[x,y],argTypes:=#[t,t]}){d:Nat}(hdst:o.dst=some d)(hlt:Nat.blt d n=true){ti ei:TInfo}{e:TypeId}(hti:T.get t=some ti)(hd:ti.desc= .slice e)(hei:T.get e=some ei)
  (hz:Nat.beq ei.zero.cells.size ei.size=true) (hsz:Nat.blt 0 ei.size=true) {tag:Nat} {g:OwnRef} {len:Nat} {rows rows2 rows2' rows':List (List PV)} {wr:Bool} (hx:evS s x= .own tag g len) (hob:ob tag=some ⟨g,e,rows,wr⟩) (hlen:len=rows.length) (hy:evS s y= .list e rows2)
  (hle:iW P rows2 rows2') (hby:(rows.length+rows2'.length)*ei.bytes<=2^47) (hmx:rows.length+rows2'.length<=maxLen) (heq:rows++rows2'=rows') (h:∀g',Ao P ops rest ⟨n,upd s d (.own tag g' rows'.length),bx,upd ob tag (some ⟨g',e,rows',wr⟩)⟩ K):Ao P ops (o::rest) ⟨n,s,bx,ob⟩ K:=
 ff hg (wh hT ho hti hd hei hz hsz hx hob hlen hy hle hby hmx heq fun g'=>⟨_,by simp[hdst,putD,hlt],h g'⟩)
theorem xh{x y:Operand}{t:TypeId}{d:Nat}{ti ei:TInfo}{e:TypeId}{tag:Nat}{g:OwnRef}{len:Nat}{rows rows2 rows2' rows':List (List PV)}{wr:Bool}(hT:T.Ok P)(hob:ob tag=some ⟨g,e,rows,wr⟩)(hlen:len=rows.length)(hle:iW P rows2 rows2')(hby:(rows.length+rows2'.length)*ei.bytes<=2^47)(hmx:rows.length+rows2'.length<=maxLen)(heq:rows++rows2'=rows')(h:∀g',Ao P ops rest ⟨n,upd s d (.own tag g' rows'.length),bx,upd ob tag (some ⟨g',e,rows',wr⟩)⟩ K)(hg:aF ops s o=some true:=by exact Z)(ho:o.op= .call {callee:= .builtin .append,args:=#[x,y],argTypes:=#[t,t]}:=by exact Z)(hdst:o.dst=some d:=by exact Z)(hlt:Nat.blt d n=true:=by exact Z)(hti:T.get t=some ti:=by exact Z)(hd:ti.desc= .slice e:=by exact Z)(hei:T.get e=some ei:=by exact Z)(hz:Nat.beq ei.zero.cells.size ei.size=true:=by exact Z)(hsz:Nat.blt 0 ei.size=true:=by exact Z)(hx:evS s x= .own tag g len:=by exact Z)(hy:evS s y= .list e rows2:=by exact Z):Ao P ops (o::rest) ⟨n,s,bx,ob⟩ K:=lE hT hg ho hdst hlt hti hd hei hz hsz hx hob hlen hy hle hby hmx heq h
theorem hC(hT:T.Ok P)(ho:ops[k]? =some o)(hg:aF ops s o=some true){x y:Operand}{t:TypeId}(hop:o.op= .call {callee:= .builtin .append,args:=#[x,y],argTypes:=#[t,t]}){d:Nat}(hdst:o.dst=some d)(hlt:Nat.blt d n=true){ti ei:TInfo}{e:TypeId}(hti:T.get t=some ti)(hd:ti.desc= .slice e)(hei:T.get e=some ei)
  (hz:Nat.beq ei.zero.cells.size ei.size=true) (hsz:Nat.blt 0 ei.size=true) {tag:Nat} {g:OwnRef} {len:Nat} {rows rows2 rows2' rows':List (List PV)} {wr:Bool} (hx:evS s x= .own tag g len) (hob:ob tag=some ⟨g,e,rows,wr⟩) (hlen:len=rows.length) (hy:evS s y= .list e rows2)
  (hle:iW P rows2 rows2') (hby:(rows.length+rows2'.length)*ei.bytes<=2^47) (hmx:rows.length+rows2'.length<=maxLen) (heq:rows++rows2'=rows') (h:∀g',Do P T rb ops L ⟨n,upd s d (.own tag g' rows'.length),bx,upd ob tag (some ⟨g',e,rows',wr⟩)⟩ K):Do P T rb ops (k::L) ⟨n,s,bx,ob⟩ K:=by
 refine⟨o,ho,true,hg,?_⟩
 simp only[if_true,hop,dW];exact .inr fun bx'=>wh hT hop hti hd hei hz hsz hx hob hlen hy hle hby hmx heq fun g'=>⟨rfl,fun hx=>by simp[pU]at hx,_,by simp[hdst,putD,hlt],h g'⟩
theorem Do.appendCQ{x y:Operand}{t:TypeId}{d:Nat}{ti ei:TInfo}{e:TypeId}{tag:Nat}{g:OwnRef}{len:Nat}{rows rows2 rows2' rows':List (List PV)}{wr:Bool}(hT:T.Ok P)(hle:iW P rows2 rows2')(hby:(rows.length+rows2'.length)*ei.bytes<=2^47)(hmx:rows.length+rows2'.length<=maxLen)(heq:rows++rows2'=rows')(h:∀g',Do P T rb ops L ⟨n,upd s d (.own tag g' rows'.length),bx,upd ob tag (some ⟨g',e,rows',wr⟩)⟩ K)(ho:ops[k]? =some o:=by exact Z)(hg:aF ops s o=some true:=by exact Z)(hop:o.op= .call {callee:= .builtin .append,args:=#[x,y],argTypes:=#[t,t]}:=by exact Z)(hdst:o.dst=some d:=by exact Z)(hlt:Nat.blt d n=true:=by exact Z)(hti:T.get t=some ti:=by exact Z)(hd:ti.desc= .slice e:=by exact Z)(hei:T.get e=some ei:=by exact Z)(hz:Nat.beq ei.zero.cells.size ei.size=true:=by exact Z)(hsz:Nat.blt 0 ei.size=true:=by exact Z)(hx:evS s x= .own tag g len:=by exact Z)(hob:ob tag=some ⟨g,e,rows,wr⟩:=by exact Z)(hlen:len=rows.length:=by exact Z)(hy:evS s y= .list e rows2:=by exact Z):Do P T rb ops (k::L) ⟨n,s,bx,ob⟩ K:=hC hT ho hg hop hdst hlt hti hd hei hz hsz hx hob hlen hy hle hby hmx heq h
theorem xt(hT:T.Ok P)(hg:aF ops s o=some true){t e:TypeId}{m:Nat}{ps:Array (Nat×Operand)}(ho:o.op= .buildSlice t m ps){ti:TInfo}(hti:T.get t=some ti)(hd:ti.desc= .slice e){rows rows':List (List PV)}
  (hr:mD T e m (jd (evS s) ps)=some rows) (hle:iW P rows rows') {d:Nat} (hdst:o.dst=some d) (hlt:Nat.blt d n=true) (h:Ao P ops rest ⟨n,upd s d (.list e rows'),bx,ob⟩ K):Ao P ops (o::rest) ⟨n,s,bx,ob⟩ K:=by
 refine vu hT hg ho hti hd hr (s':=upd s d (.list e rows)) (by simp[hdst,putD,hlt]) (jA d (ie _ _ _) (PLe.of2 (PLe2.list hle)) ?_)
 have:upd (upd s d (PV.list e rows)) d (.list e rows')=upd s d (.list e rows'):=by
  funext t;simp only[fB];split<;>rfl
 rw[this];exact h
theorem bZ{t e:TypeId}{m:Nat}{ps:Array (Nat×Operand)}{ti:TInfo}{rows rows':List (List PV)}{d:Nat}(hT:T.Ok P)(hle:iW P rows rows')(h:Ao P ops rest ⟨n,upd s d (.list e rows'),bx,ob⟩ K)(hg:aF ops s o=some true:=by exact Z)(ho:o.op= .buildSlice t m ps:=by exact Z)(hti:T.get t=some ti:=by exact Z)(hd:ti.desc= .slice e:=by exact Z)(hr:mD T e m (jd (evS s) ps)=some rows:=by exact Z)(hdst:o.dst=some d:=by exact Z)(hlt:Nat.blt d n=true:=by exact Z):Ao P ops (o::rest) ⟨n,s,bx,ob⟩ K:=xt hT hg ho hti hd hr hle hdst hlt h
end
section
variable{P:Program}{fn:Func}{R:PV->Heap->Prop}{ks:List KI}{n:Nat}{s:Nat->PV}{bx:Nat->Option Box}{ob:Nat->Option Obj}{T:TT}
end
section
variable{P:Program}{C:Ctx}{M:Mem}{H:Heap}{w:World}
theorem InvH.reobj(h:InvH P C M H w){tag:Nat}{g:OwnRef}{e:TypeId}{rows rows':List (List PV)}{wr:Bool}(hx:H.ob tag=some ⟨g,e,rows,wr⟩)(hl:rows'.map List.length=rows.map List.length)(hle:ku P rows.flatten rows'.flatten):
  InvH P C M ⟨H.bx,upd H.ob tag (some ⟨g,e,rows',wr⟩)⟩ w:=by
 have hlen:rows'.length=rows.length:=by simpa using congrArg List.length hl
 have key:∀t y,upd H.ob tag (some ⟨g,e,rows',wr⟩) t=some y->(t=tag/\y=⟨g,e,rows',wr⟩)\/H.ob t=some y:=by
  intro t y hy;rw[fB]at hy;split at hy
  ·rename_i e;exact .inl ⟨e,(Option.some.inj hy).symm⟩
  ·exact .inr hy
 have same:∀t y,upd H.ob tag (some ⟨g,e,rows',wr⟩) t=some y->∃z,H.ob t=some z/\z.g=y.g:=by
  intro t y hy;rcases key t y hy with⟨rfl,rfl⟩|hy
  ·exact⟨_,hx,rfl⟩
  ·exact⟨y,hy,rfl⟩
 refine⟨h.mem,h.ext,h.new,h.os,h.tape,h.output,h.size,h.frame,h.boxes,?_,h.dbox,?_,?_⟩
 ·intro t y hy;rcases key t y hy with⟨rfl,rfl⟩|hy
  ·obtain⟨i,h1,h2,h3,h4⟩:=h.objs _ _ hx
   simp only at h1 h2 h3 h4
   refine⟨i,h1,?_,?_,?_⟩
   ·simpa only[hlen]using h2
   ·intro r hr
    have:r.length∈rows'.map List.length:=List.mem_map.2 ⟨r,hr,rfl⟩
    rw[hl]at this
    obtain⟨q,hq,e1⟩:=List.mem_map.1 this
    rw[<-e1];exact h3 q hq
   ·rcases h4 with⟨a,b,c⟩|⟨b,cur,h5,h6,h7,h8,h9,h10,h11,h12,h13,h14⟩
    ·refine .inl ⟨a,?_,c⟩;rw[b]at hlen;exact List.length_eq_zero_iff.1 hlen
    ·refine .inr ⟨b,cur,h5,h6,h7,h8,?_,h10,?_,?_,h13,?_⟩
     ·simpa only[hlen]using h9
     ·simp only[hlen];exact hle M false _ h11
     ·simpa only[hlen]using h12
     ·simpa only[hlen]using h14
  ·exact h.objs t y hy
 ·intro t t' y y' b hy hy' hb hb'
  obtain⟨z,hz,e1⟩:=same t y hy
  obtain⟨z',hz',e1'⟩:=same t' y' hy'
  exact h.dobj t t' z z' b hz hz' (e1▸hb) (e1'▸hb')
 ·intro t t' y y' hy hy' hb
  obtain⟨z',hz',e1'⟩:=same t' y' hy'
  exact h.dmix t t' y z' hy hz' (e1'▸hb)
theorem InvH.cutO(h:InvH P C M H w){tag:Nat}{g:OwnRef}{e:TypeId}{rows:List (List PV)}(hx:H.ob tag=some ⟨g,e,rows,true⟩)(k:Nat):
  InvH P C M ⟨H.bx,upd H.ob tag (some ⟨g,e,rows.take k,true⟩)⟩ w:=by
 have key:∀t y,upd H.ob tag (some ⟨g,e,rows.take k,true⟩) t=some y->(t=tag/\y=⟨g,e,rows.take k,true⟩)\/H.ob t=some y:=by
  intro t y hy;rw[fB]at hy;split at hy
  ·rename_i e;exact .inl ⟨e,(Option.some.inj hy).symm⟩
  ·exact .inr hy
 have same:∀t y,upd H.ob tag (some ⟨g,e,rows.take k,true⟩) t=some y->∃z,H.ob t=some z/\z.g=y.g:=by
  intro t y hy;rcases key t y hy with⟨rfl,rfl⟩|hy
  ·exact⟨_,hx,rfl⟩
  ·exact⟨y,hy,rfl⟩
 refine⟨h.mem,h.ext,h.new,h.os,h.tape,h.output,h.size,h.frame,h.boxes,?_,h.dbox,?_,?_⟩
 ·intro t y hy;rcases key t y hy with⟨rfl,rfl⟩|hy
  ·obtain⟨i,h1,h2,h3,h4⟩:=h.objs _ _ hx
   simp only at h1 h2 h3 h4;have hle:(rows.take k).length<=rows.length:=by simp;omega
   refine⟨i,h1,Nat.le_trans (Nat.mul_le_mul_right _ hle) h2,fun r hr=>h3 r (List.mem_of_mem_take hr),?_⟩
   rcases h4 with⟨a,b,c⟩|⟨b,cur,h5,h6,h7,h8,h9,h10,h11,h12,h13,h14⟩
   ·exact .inl ⟨a,by simp[b],c⟩
   ·refine .inr ⟨b,cur,h5,h6,h7,h8,Nat.le_trans hle h9,h10,?_,?_,fun _=>h13 trivial,?_⟩
    ·have hflat:(rows.take k).flatten=rows.flatten.take ((rows.take k).length*i.size):=by
      have aux:∀(l:List (List PV)) (m:Nat),(∀r∈l,r.length=i.size)->(l.take m).flatten=l.flatten.take ((l.take m).length*i.size):=by
       intro l;induction l with
       |nil=>intro m _;simp
       |cons r l ih=>
        intro m hr;cases m with
        |zero=>simp
        |succ m=>
         have h1:=hr r (by simp)
         have:=ih m fun r hr'=>hr r (by simp[hr'])
         simp only[List.take_succ_cons,List.flatten_cons,List.length_cons];have e1:((l.take m).length+1)*i.size=r.length+(l.take m).length*i.size:=by rw[Nat.add_mul,h1];omega
         rw[e1,List.take_length_add_append,this]
      exact aux rows k h3
     rw[hflat]
     have:=h11.take ((rows.take k).length*i.size)
     rw[List.take_take,Nat.min_eq_left (Nat.mul_le_mul_right _ hle)]at this;exact this
    ·intro v hv;refine h12 v ?_
     have e1:cur.toList.take ((rows.take k).length*i.size)=(cur.toList.take (rows.length*i.size)).take ((rows.take k).length*i.size):=by
      rw[List.take_take,Nat.min_eq_left (Nat.mul_le_mul_right _ hle)]
     rw[e1]at hv;exact List.mem_of_mem_take hv
    ·intro o _;exact h13 trivial o
  ·exact h.objs t y hy
 ·intro t t' y y' b hy hy' hb hb'
  obtain⟨z,hz,e1⟩:=same t y hy
  obtain⟨z',hz',e1'⟩:=same t' y' hy'
  exact h.dobj t t' z z' b hz hz' (e1▸hb) (e1'▸hb')
 ·intro t t' y y' hy hy' hb
  obtain⟨z',hz',e1'⟩:=same t' y' hy'
  exact h.dmix t t' y z' hy hz' (e1'▸hb)
end
theorem ku.of_eq{P:Program}{a b:List PV}(h:a=b):ku P a b:=h▸ku.refl a
theorem ku.trans{P:Program}{a b c:List PV}(h:ku P a b)(h':ku P b c):ku P a c:=fun M s xs hx=>h' M s xs (h M s xs hx)
def nT(bytes:Nat)(n:Int):Option Unit:=if 0<=n/\n.toNat*bytes<=2^47/\n.toNat<=maxLen then some ()else none
theorem qP{bytes:Nat}{n:Int}{u:Unit}(h:nT bytes n=some u):0<=n/\n.toNat*bytes<=2^47/\n.toNat<=maxLen:=by
 unfold nT at h;split at h
 ·assumption
 ·cases h
section
variable{P:Program}{ops:Array Oper}{rest:List Oper}{o:Oper}{n:Nat}{s s':Nat->PV}{bx:Nat->Option Box}{ob:Nat->Option Obj}{K:PState->Prop}{T:TT}{rb:RB}{k:Nat}{L:List Nat}
theorem tN(hT:T.Ok P)(hg:aF ops s o=some true){t t':TypeId}{x:Operand}(ho:o.op= .binOp .eql t x (.const (.slice none 0 0)) t'){ti:TInfo}{e:TypeId}(hti:T.get t=some ti)(hd:ti.desc= .slice e){e':TypeId}{rows:List (List PV)}(hx:evS s x= .list e' rows){d:Nat}(hdst:o.dst=some d)(hlt:Nat.blt d n=true)
  (h:∀b:Bool,(b=true->rows=[])->Ao P ops rest ⟨n,upd s d (.val (.bool b)),bx,ob⟩ K):Ao P ops (o::rest) ⟨n,s,bx,ob⟩ K:=by
 refine ff hg (fun C M a w next Q hi he hn=>?_);have hxr:=he x (by rw[ho];simp[Op.operands]);rw[show(⟨n,s,bx,ob⟩:PState).s=s from Z,hx]at hxr;simp only[Rep]at hxr
 obtain⟨ad,c,i,hv,_,_,_,_,hr⟩:=hxr
 have hu:=(hT.get hti).und;rw[hd]at hu
 have hrun:(execOp a.eval o).run P w= .ok (.value (.bool ad.isNone)) w:=by
  have h1:=run_equal_slice_nil (P:=P) w t e ad rows.length c hu;have h2:(eqGuard .eql t x (.const (.slice none 0 0)) (.slice ad rows.length c) (.slice none 0 0)).run P w= .ok () w:=by unfold eqGuard;split<;>simp
  simp only[execOp,ho,hv,show a.eval (.const (.slice none 0 0))= .slice none 0 0 from Z,Sem.run_bind,h2,Result.andThen_ok,binOp,h1];rfl
 unfold Oper.wp;rw[hrun];refine hn _ (.val (.bool ad.isNone)) ⟨bx,ob⟩ M w ⟨_,by simp[hdst,putD,hlt],h ad.isNone fun hb=>?_⟩ (Mem.le_refl M) hi (by simp only[Rep]);cases rows with
 |nil=>rfl
 |cons r rows=>
  obtain⟨b,o,e1,_⟩:=hr (by simp)
  rw[e1]at hb;cases hb
theorem pX(hT:T.Ok P)(hg:aF ops s o=some true){t e:TypeId}{m:Nat}{ps:Array (Nat×Operand)}(ho:o.op= .buildSlice t m ps){d:Nat}(hdst:o.dst=some d)(hlt:Nat.blt d n=true){ti:TInfo}(hti:T.get t=some ti)(hd:ti.desc= .slice e){rows rows':List (List PV)}
  (hr:mD T e m (jd (evS s) ps)=some rows) (hl:rows'.map List.length=rows.map List.length) (hm:rows.length=m) (hle:ku P rows.flatten rows'.flatten) (h:∀g,Ao P ops rest ⟨n,upd s d (.own d g rows'.length),bx,upd ob d (some ⟨g,e,rows',true⟩)⟩ K):Ao P ops (o::rest) ⟨n,s,bx,ob⟩ K:=by
 refine Ao.bsO hT hg ho hdst hlt hti hd hr fun g=>?_
 have hlen:rows'.length=m:=by rw[<-hm];simpa using congrArg List.length hl
 have h':=h g;rw[hlen]at h';refine iT (st':=⟨n,upd s d (.own d g m),bx,upd ob d (some ⟨g,e,rows',true⟩)⟩) ?_ h';intro C M a w hi
 refine⟨M,hi.1,?_⟩
 have:=hi.2.reobj (tag:=d) (rows':=rows') (ie _ _ _) hl hle
 simp only[PState.heap]at this⊢
 have e2:upd (upd ob d (some ⟨g,e,rows,true⟩)) d (some ⟨g,e,rows',true⟩)=upd ob d (some ⟨g,e,rows',true⟩):=by
  funext t;simp only[fB];split<;>rfl
 rwa [e2]at this
theorem rk(hT:T.Ok P)(hg:aF ops s o=some true){x:Operand}{t:TypeId}{ts:List TypeId}(ho:o.op= .call {callee:= .builtin .cap,args:=#[x],argTypes:=(t::ts).toArray}){ti:TInfo}{e:TypeId}(hti:T.get t=some ti)(hd:ti.desc= .slice e)
  (hx:evS s x= .val (.slice none 0 0)) (hp:putD n s o.dst (.val (.int .i64 0))=some s') (h:Ao P ops rest ⟨n,s',bx,ob⟩ K):Ao P ops (o::rest) ⟨n,s,bx,ob⟩ K:=by
 refine ff hg (fun C M a w next Q hi he hn=>?_);have hxr:=he x (by rw[ho];simp[Op.operands,Call.operands]);rw[show(⟨n,s,bx,ob⟩:PState).s=s from Z,hx]at hxr;simp only[Rep]at hxr;have hu:=(hT.get hti).und;rw[hd]at hu
 have hrun:(execOp a.eval o).run P w= .ok (.value (.int .i64 0)) w:=by
  simp only[execOp,ho,resolve,Sem.run_bind,Sem.run_pure,Result.andThen_ok,invoke,builtin,List.map_toArray,List.map_cons,List.map_nil,hxr];simp[Builtin.cap_,run_underlying hu,goInt]
 unfold Oper.wp;rw[hrun];exact hn _ _ ⟨bx,ob⟩ M w ⟨s',hp,h⟩ (Mem.le_refl M) hi (by simp only[Rep])
theorem wR(hT:T.Ok P)(hg:aF ops s o=some true){t:TypeId}{x y:Operand}(ho:o.op= .slice t x none (some y) none){ti:TInfo}{e:TypeId}(hti:T.get t=some ti)(hd:ti.desc= .slice e){ei:TInfo}(hei:T.get e=some ei)
  (hx:evS s x= .val (.slice none 0 0)) {kk:IntKind} (hy:evS s y= .val (.int kk 0)) (hp:putD n s o.dst (.val (.slice none 0 0))=some s') (h:Ao P ops rest ⟨n,s',bx,ob⟩ K):Ao P ops (o::rest) ⟨n,s,bx,ob⟩ K:=by
 refine ff hg (fun C M a w next Q hi he hn=>?_);have hxr:=he x (by rw[ho];simp[Op.operands]);have hyr:=he y (by rw[ho];simp[Op.operands]);rw[show(⟨n,s,bx,ob⟩:PState).s=s from Z,hx]at hxr;rw[show(⟨n,s,bx,ob⟩:PState).s=s from Z,hy]at hyr;simp only[Rep]at hxr hyr;have hu:=(hT.get hti).und;rw[hd]at hu
 have hrun:(execOp a.eval o).run P w= .ok (.value (.slice none 0 0)) w:=by
  simp only[execOp,ho,Sem.run_bind,Sem.run_pure,Option.map_some,Option.map_none,hxr,hyr];simp[Instr.sliceAt,Instr.slice,run_underlying hu,Instr.sliceBounds,Instr.sliceBound,asIntOf,(hT.get hei).rsize w]
 unfold Oper.wp;rw[hrun];exact hn _ _ ⟨bx,ob⟩ M w ⟨s',hp,h⟩ (Mem.le_refl M) hi (by simp only[Rep])
theorem wQ(hT:T.Ok P)(hg:aF ops s o=some true){t:TypeId}{x y:Operand}(ho:o.op= .slice t x none (some y) none){ti:TInfo}{e:TypeId}(hti:T.get t=some ti)(hd:ti.desc= .slice e){ei:TInfo}(hei:T.get e=some ei)
  {tag:Nat} {g:OwnRef} {len:Nat} {rows rows':List (List PV)} (hx:evS s x= .own tag g len) (hob:ob tag=some ⟨g,e,rows,true⟩) (hlen:len=rows.length) {kk:IntKind} {m:Int} (hy:evS s y= .val (.int kk m)) (hm:0<=m/\m.toNat<=rows.length) (hr:rows.take m.toNat=rows') {d:Nat} (hdst:o.dst=some d) (hlt:Nat.blt d n=true)
  (h:Ao P ops rest ⟨n,upd s d (.own tag g rows'.length),bx,upd ob tag (some ⟨g,e,rows',true⟩)⟩ K):Ao P ops (o::rest) ⟨n,s,bx,ob⟩ K:=by
 subst hlen;subst hr;refine ff hg (fun C M a w next Q hi he hn=>?_);have hxr:=he x (by rw[ho];simp[Op.operands]);have hyr:=he y (by rw[ho];simp[Op.operands]);rw[show(⟨n,s,bx,ob⟩:PState).s=s from Z,hx]at hxr;rw[show(⟨n,s,bx,ob⟩:PState).s=s from Z,hy]at hyr;simp only[Rep]at hxr hyr;have hu:=(hT.get hti).und;rw[hd]at hu
 have hcap:rows.length<=g.cap:=by
  obtain⟨i,_,_,_,h4⟩:=hi.objs tag _ hob
  rcases h4 with⟨_,b,_⟩|⟨_,_,_,_,_,_,h9,_⟩
  ·simp only at b;rw[b];simp
  ·exact h9
 have hmc:m<=(g.cap:Int):=by omega
 have hl2:(rows.take m.toNat).length=m.toNat:=by simp;omega
 have hrun:(execOp a.eval o).run P w= .ok (.value (g.val (rows.take m.toNat).length)) w:=by
  rw[hl2];simp only[execOp,ho,Sem.run_bind,Sem.run_pure,Option.map_some,Option.map_none,hxr.2,hyr,OwnRef.val];cases hb:g.blk with
  |none=>simp[Instr.sliceAt,Instr.slice,run_underlying hu,Instr.sliceBounds,Instr.sliceBound,asIntOf,(hT.get hei).rsize w,hm.1,hmc]
  |some b=>
   have e0:(⟨b,0,none⟩:Addr).add 0=⟨b,0,none⟩:=by rw[dS]
   simp[Instr.sliceAt,Instr.slice,run_underlying hu,Instr.sliceBounds,Instr.sliceBound,asIntOf,(hT.get hei).rsize w,hm.1,hmc,e0]
 unfold Oper.wp;rw[hrun];exact hn _ (.own tag g (rows.take m.toNat).length) ⟨bx,upd ob tag (some ⟨g,e,rows.take m.toNat,true⟩)⟩ M w ⟨_,by simp[hdst,putD,hlt],h⟩ (Mem.le_refl M) (hi.cutO hob m.toNat) (by simp[Rep])
theorem pZ(hT:T.Ok P)(hg:aF ops s o=some true){x y:Operand}{t u:TypeId}(ho:o.op= .call {callee:= .builtin .append,args:=#[x,y],argTypes:=#[t,u]}){d:Nat}(hdst:o.dst=some d)(hlt:Nat.blt d n=true){ti ui ei:TInfo}{e:TypeId}(hti:T.get t=some ti)(hd:ti.desc= .slice e)(hui:T.get u=some ui)(hud:ui.desc= .int .i64)(hei:T.get e=some ei)
  (hz:Nat.beq ei.zero.cells.size ei.size=true) (hsz:Nat.blt 0 ei.size=true) (_hf:PV.frozL (cq ei)=true) (h1:(cq ei).all PV.one=true) (hx:evS s x= .val (.slice none 0 0)) {m:Int} (hy:evS s y= .val (.int .i64 m)) (hm:0<m) (hby:m.toNat*ei.bytes<=2^47) (hmx:m.toNat<=maxLen)
  (h:∀g,Ao P ops rest ⟨n,upd s d (.own d g (List.replicate m.toNat (cq ei)).length),bx,upd ob d (some ⟨g,e,List.replicate m.toNat (cq ei),true⟩)⟩ K):Ao P ops (o::rest) ⟨n,s,bx,ob⟩ K:=by
 refine ff hg (fun C M a w next Q hi he hn=>?_);have hxr:=he x (by rw[ho];simp[Op.operands,Call.operands]);have hyr:=he y (by rw[ho];simp[Op.operands,Call.operands]);rw[show(⟨n,s,bx,ob⟩:PState).s=s from Z,hx]at hxr;rw[show(⟨n,s,bx,ob⟩:PState).s=s from Z,hy]at hyr;simp only[Rep]at hxr hyr;have hu:=(hT.get hti).und;rw[hd]at hu;have hu2:=(hT.get hui).und;rw[hud]at hu2;have hu3:=(hT.get hei).und
 obtain⟨i,hinf,hs,hbs,hzero⟩:=(hT.get hei).info
 have hz1:=Nat.eq_of_beq_eq_true hz
 have hsz' : 0 < i.size := by have : 0 < ei.size := by simpa [Nat.blt_eq] using hsz
                              omega
 obtain⟨k,hk⟩:∃k:Nat,k=m.toNat:=⟨_,rfl⟩
 rw[<-hk]at hby hmx h;have hkm:m=(k:Int):=by omega
 subst hkm;have hk0:0<k:=by omega
 have hwrap:IntKind.i64.wrap (k:Int)=k:=by
  simp only[IntKind.wrap,IntKind.bits,IntKind.signed];simp;unfold maxLen at hmx;omega
 have h63:¬(9223372036854775807<(k:Int)):=by unfold maxLen at hmx;omega
 have hby2:k*i.bytes<=140737488355328:=by rw[hbs];exact hby
 have h48:¬(281474976710656<Builtin.nextslicecap k 0*i.bytes):=by rw[nextslicecap_zero hk0];omega
 have h48':¬(281474976710656<(k:Int)*(i.bytes:Int)):=by
  have:((k*i.bytes:Nat):Int)<=140737488355328:=Int.ofNat_le.2 hby2
  rw[Int.natCast_mul]at this;omega
 have hne:¬(k*i.size=0):=by
  have:=Nat.mul_pos hk0 hsz'
  omega
 have hrun:(Builtin.append_ #[t,u] o.type #[.slice none 0 0,.int .i64 k]).run P w= .ok (.slice (some ⟨w.heap.size,0,none⟩) k (grownCap w k 0 e)) (w.drew.alloc (.cells (Builtin.zeroCells ei.zero.cells k++Builtin.zeroCells ei.zero.cells (grownCap w k 0 e-k)) e)):=by
  have hk1:k≠0:=by omega
  have hk3:¬((k:Int)<0):=by omega
  simp[Builtin.append_,run_underlying hu,run_underlying hu2,sizeOf,typeInfo,zeroValue,hinf,hzero,asInt,asIntOf,hwrap,hk1,hk3,h63,h48,h48',Question.forced,run_firstCells_none,newRow,grownCap];exact fun h0=>absurd h0 hne
 have hrun':(execOp a.eval o).run P w= .ok (.value (.slice (some ⟨w.heap.size,0,none⟩) k (grownCap w k 0 e))) (w.drew.alloc (.cells (Builtin.zeroCells ei.zero.cells k++Builtin.zeroCells ei.zero.cells (grownCap w k 0 e-k)) e)):=by
  simp only[execOp,ho,resolve,Sem.run_bind,Sem.run_pure,Result.andThen_ok,invoke,builtin,List.map_toArray,List.map_cons,List.map_nil,hxr,hyr];rw[hrun];rfl
 unfold Oper.wp;rw[hrun'];have hge:=grownCap_ge w k 0 e;have hgm:grownCap w k 0 e<=maxLen:=grownCap_le_maxLen w k 0 e hmx;have hzl:(cq ei).length=i.size:=by simp[cq,hz1,hs]
 have hzc:(Builtin.zeroCells ei.zero.cells k).toList=(List.replicate k ei.zero.cells.toList).flatten:=by
  unfold Builtin.zeroCells;exact nc ei.zero.cells k
 have hzs:(Builtin.zeroCells ei.zero.cells k).toList.length=k*i.size:=by
  rw[hzc];simp[hz1,hs]
 have hrep:av P M false (List.replicate k (cq ei)).flatten (List.replicate k ei.zero.cells.toList).flatten:=mK (mq _) k
 have htake:((Builtin.zeroCells ei.zero.cells k++Builtin.zeroCells ei.zero.cells (grownCap w k 0 e-k)).toList.take ((List.replicate k (cq ei)).length*i.size))=(List.replicate k ei.zero.cells.toList).flatten:=by
  rw[List.length_replicate,Array.toList_append,<-hzc];rw[<-hzs];exact List.take_left
 refine hn _ (.own d ⟨some w.heap.size,grownCap w k 0 e⟩ (List.replicate k (cq ei)).length) _ M _ ⟨_,by simp[hdst,putD,hlt],h ⟨some w.heap.size,grownCap w k 0 e⟩⟩ (Mem.le_refl M)
  ((show InvH P C M ⟨bx,ob⟩ w.drew from hi.drew).alloc_obj d e (List.replicate k (cq ei)) true _ _ i hinf ?_ ?_ ?_ ?_ hgm ?_ ?_) ?_
 ·rw[List.length_replicate];exact hby2
 ·intro r hr;rw[List.eq_of_mem_replicate hr];exact hzl
 ·simp only[Array.size_append,size_zeroCells,hz1,<-hs,<-Nat.add_mul];congr 1;omega
 ·rw[List.length_replicate];exact hge
 ·rw[htake];exact hrep
 ·rw[htake];refine av.oneCell ?_ hrep;rw[List.all_flatten];rw[List.all_eq_true];intro r hr;rw[List.eq_of_mem_replicate hr];exact h1
 ·simp[Rep,OwnRef.val]
end
@[simp] theorem bPs {α β:Type} (a:α) (k:α->Option β):aa (some a) k=k a:=rfl
@[simp] theorem bindP_none {α β:Type} (k:α->Option β):aa none k=none:=rfl
@[simp] theorem aX {α β:Type} (a:α) (k:α->β):letP a k=k a:=rfl
@[simp] theorem bQ {σ β:Type} (s:σ) (k:σ->Option β):Flow.thenP (.next s) k=k s:=rfl
@[simp] theorem fX {σ ρ:Type} (s:σ) (k:σ->Option ρ):Flow.thenR (.next s) k=k s:=rfl
@[simp] theorem pp {σ ρ:Type} (r:ρ) (k:σ->Option ρ):Flow.thenR (.ret r) k=some r:=rfl
@[simp] theorem wu {σ τ ρ:Type} (s:σ) (k:σ->Option (Flow τ ρ)):Flow.thenF (.next s) k=k s:=rfl
@[simp] theorem thenF_retS {σ τ ρ:Type} (r:ρ) (k:σ->Option (Flow τ ρ)):Flow.thenF (.ret r) k=some (.ret r):=rfl
theorem appI_ok{α:Type}{bytes:Nat}{xs ys:List α}(h1:(xs.length+ys.length)*bytes<=2^47)(h2:xs.length+ys.length<=maxLen):cE bytes xs ys=some (xs++ys):=by
 unfold cE;rw[zp ⟨h1,h2⟩]
theorem ls{α:Type}{xs:List α}{i:Int}{x:α}(h0:0<=i)(h:xs[i.toNat]? =some x):ax xs i=some x:=by unfold ax;rw[zp h0,h]
theorem gp{α:Type}{xs:List α}{j:Nat}{x:α}(h:xs[j]? =some x):ax xs (j:Int)=some x:=ls (by omega) (by simpa using h)
theorem getI_lt{α:Type}[Inhabited α]{xs:List α}{i:Int}(h0:0<=i)(h:i<xs.length):∃x,ax xs i=some x/\xs[i.toNat]? =some x:=by
 have:i.toNat<xs.length:=by omega
 exact⟨xs[i.toNat],ls h0 (ze this),ze this⟩
theorem te{α:Type}{xs:List α}{a b:Int}(h:0<=a/\a<=b/\b<=xs.length):oq xs a b=some ((xs.take b.toNat).drop a.toNat):=by unfold oq;rw[zp h]
theorem tX{bytes:Nat}{n:Int}(h:0<=n/\n.toNat*bytes<=2^47/\n.toNat<=maxLen):nT bytes n=some ():=by unfold nT;rw[zp h]
theorem lD{n:Int}(h:n<=2^62):oO n=some n.toNat:=by unfold oO;rw[zp h]
theorem eI{α σ ρ:Type}{step:Nat->α->σ->Option (Flow σ ρ)}(I:Nat->σ->Prop)(Q:ρ->Prop):
  ∀(xs:List α) (j:Nat) (s:σ),I j s->(∀k x s,xs[k]? =some x->I (j+k) s->∃fl,step (j+k) x s=some fl/\(match fl with| .next s'=>I (j+k+1) s'| .brk _=>False| .ret r=>Q r))->
   ∃fl,au step j xs s=some fl/\(match fl with| .next s'=>I (j+xs.length) s'| .brk _=>False| .ret r=>Q r)
 |[],j,s,h,_=>⟨.next s,rfl,by simpa using h⟩
 |x::xs,j,s,h,hs=>by
  obtain⟨fl,h1,h2⟩:=hs 0 x s Z (by simpa using h)
  rw[Nat.add_zero]at h1;cases fl with
  |next s'=>
   obtain⟨fl,h3,h4⟩:=eI I Q xs (j+1) s' (by simpa using h2) (fun k y t hk hI=>by
    obtain⟨fl,h5,h6⟩:=hs (k+1) y t (by simpa using hk) (by rw[show j+(k+1)=j+1+k from by omega];exact hI)
    rw[show j+(k+1)=j+1+k from by omega]at h5 h6
    exact⟨fl,h5,h6⟩)
   refine⟨fl,by rw[au,h1];exact h3,?_⟩
   rw[show j+(x::xs).length=j+1+xs.length from by simp;omega];exact h4
  |brk s'=>exact absurd h2 (by simp)
  |ret r=>exact⟨.ret r,by rw[au,h1],h2⟩
theorem rMa{α σ ρ:Type}{step:Nat->α->σ->Option (Flow σ ρ)}{xs:List α}{s:σ}(S:Nat->σ)(h0:S 0=s)(hs:∀k x,xs[k]? =some x->step k x (S k)=some (.next (S (k+1)))):au step 0 xs s=some (.next (S xs.length)):=by
 subst h0
 obtain⟨fl,h1,h2⟩:=eI (step:=step) (fun j s=>s=S j) (fun _=>False) xs 0 (S 0) Z (fun k x s hk hI=>by
  simp only[Nat.zero_add]at hI;subst hI
  exact⟨_,by rw[Nat.zero_add];exact hs k x hk,by simp⟩)
 cases fl with
 |next s'=>simp only[Nat.zero_add]at h2;rw[h1,h2]
 |brk s'=>exact absurd h2 (by simp)
 |ret r=>exact absurd h2 (by simp)
theorem np{α β ρ:Type}{step:Nat->α->List β->Option (Flow (List β) ρ)}{xs:List α}(f:α->β)(hs:∀k x,xs[k]? =some x->step k x ((xs.take k).map f)=some (.next ((xs.take k).map f++[f x]))):
  au step 0 xs []=some (.next (xs.map f)):=by
 have:=rMa (step:=step) (xs:=xs) (fun k=>(xs.take k).map f) Z (fun k x hk=>by
  rw[hs k x hk,List.take_add_one,hk];simp)
 simpa using this
theorem rangeM_fold{α σ ρ:Type}{step:Nat->α->σ->Option (Flow σ ρ)}{xs:List α}{s:σ}(g:σ->α->σ)(hs:∀k x,xs[k]? =some x->step k x ((xs.take k).foldl g s)=some (.next (g ((xs.take k).foldl g s) x))):
  au step 0 xs s=some (.next (xs.foldl g s)):=by
 have:=rMa (step:=step) (xs:=xs) (fun k=>(xs.take k).foldl g s) Z (fun k x hk=>by
  rw[hs k x hk,List.take_add_one,hk,List.foldl_append];rfl)
 simpa using this
theorem sU{α ρ:Type}{step:Nat->α->Unit->Option (Flow Unit ρ)}(p:α->Bool)(out:Nat->α->ρ):∀(xs:List α) (j:Nat),(∀k x,xs[k]? =some x->step (j+k) x ()=some (if p x then .ret (out (j+k) x)else .next ()))->
  au step j xs ()=some (match xs.findIdx? p with|some i=>(match xs[i]? with|some x=>.ret (out (j+i) x)|none=>.next ())|none=>.next ())
 |[],j,_=>rfl
 |x::xs,j,hs=>by
  have h0:=hs 0 x Z;rw[Nat.add_zero]at h0;rw[au,h0,List.findIdx?_cons];cases hp:p x with
  |true=>simp
  |false=>
   simp only[Bool.false_eq_true,if_false]
   rw[sU p out xs (j+1) (fun k y hk=>by
    have:=hs (k+1) y (by simpa using hk)
    rw[show j+(k+1)=j+1+k from by omega]at this;exact this)]
   cases xs.findIdx? p with
   |none=>simp
   |some i=>
    simp only[Option.map_some,List.getElem?_cons_succ];rw[show j+1+i=j+(i+1)from by omega]
section
variable{P:Program}{T:TT}{M:Mem}
end
def fF{α:Type}(p:Prop)[Decidable p](a:α):Option α:=if p then some a else none
theorem dK{α:Type}{p:Prop}[Decidable p]{a b:α}(h:fF p a=some b):p/\a=b:=by
 unfold fF at h;split at h
 ·rename_i hp;exact⟨hp,Option.some.inj h⟩
 ·cases h
@[simp] theorem dM {α:Type} {p:Prop} [Decidable p] {a:α} (h:p):fF p a=some a:=by unfold fF;rw[zp h]
end
end Go.Ab

namespace Go.Ab
noncomputable section
open Go.Proofs Go.Proofs.Tryz
def tS(d:TypeDesc):TInfo:=⟨d,1,24,.slice none 0 0,[]⟩
def tP(d:TypeDesc):TInfo:=⟨d,1,8,.pointer none,[]⟩
def tF(d:TypeDesc):TInfo:=⟨d,1,8,.nilFunc,[]⟩
theorem tO{P:Program}{k:Nat}{v:TInfo}(i:TypeInfo)(u:P.underlying k=some v.desc)(h:P.info? k=some i:=by kernel_rfl)(e:(i.size,i.bytes,i.zero,v.eqf)=(v.size,v.bytes,some v.zero,[]):=by exact Z):v.Ok P k:=by
 simp only[Prod.mk.injEq]at e
 exact⟨⟨i,h,e.1,e.2.1,e.2.2.1⟩,u,fun hn=>absurd e.2.2.2 hn⟩
def ti69:TInfo:=⟨Tryz.t68.desc,3,32,.agg #[.int .i64 0,.int .i64 0,.string ⟨#[]⟩],[(3,0),(3,1),(9,2)]⟩
def ti93:TInfo:=⟨Tryz.t92.desc,3,32,.agg #[.string ⟨#[]⟩,.int .i64 0,.bool false],[(9,0),(3,1),(4,2)]⟩
def ti177:TInfo:=⟨Tryz.t176.desc,1,8,.agg #[.int .i64 0],[(3,0)]⟩
def ti226:TInfo:=⟨Tryz.t225.desc,4,40,.agg #[.int .i64 0,.string ⟨#[]⟩,.int .i64 0,.int .i64 0],[(3,0),(9,1),(3,2),(3,3)]⟩
def ti342:TInfo:=⟨Tryz.t341.desc,1,16,.agg #[.string ⟨#[]⟩],[(9,0)]⟩
theorem ti69_ok:ti69.Ok Tryz.prog 69:=⟨⟨Tryz.t69,by kernel_rfl,rfl,rfl,rfl⟩,Tryz.underlying69,fun _=>⟨Tryz.stoodInHeld69,Tryz.eqGuardType69,by simp[dN,Program.fieldsOf,Tryz.underlying69,ti69],by kernel_rfl⟩⟩
theorem ti93_ok:ti93.Ok Tryz.prog 93:=⟨⟨Tryz.t93,by kernel_rfl,rfl,rfl,rfl⟩,Tryz.underlying93,fun _=>⟨Tryz.stoodInHeld93,Tryz.eqGuardType93,by simp[dN,Program.fieldsOf,Tryz.underlying93,ti93],by kernel_rfl⟩⟩
theorem ti177_ok:ti177.Ok Tryz.prog 177:=⟨⟨Tryz.t177,by kernel_rfl,rfl,rfl,rfl⟩,Tryz.underlying177,fun _=>⟨Tryz.stoodInHeld177,Tryz.eqGuardType177,by simp[dN,Program.fieldsOf,Tryz.underlying177,ti177],by kernel_rfl⟩⟩
theorem ti226_ok:ti226.Ok Tryz.prog 226:=⟨⟨Tryz.t226,by kernel_rfl,rfl,rfl,rfl⟩,Tryz.underlying226,fun _=>⟨Tryz.stoodInHeld226,Tryz.eqGuardType226,by simp[dN,Program.fieldsOf,Tryz.underlying226,ti226],by kernel_rfl⟩⟩
theorem ti342_ok:ti342.Ok Tryz.prog 342:=⟨⟨Tryz.t342,by kernel_rfl,rfl,rfl,rfl⟩,Tryz.underlying342,fun _=>⟨Tryz.stoodInHeld342,Tryz.eqGuardType342,by simp[dN,Program.fieldsOf,Tryz.underlying342,ti342],by kernel_rfl⟩⟩
def tt:TT:=(.node 145 ⟨t144.desc,3,56,.agg #[.string ⟨#[]⟩,.slice none 0 0,.string ⟨#[]⟩],[]⟩ (.node 54 (tS t53.desc) (.node 27 (tS t27.desc) (.node 20 ⟨t20.desc,1,16,.nilIface,[]⟩ (.node 4 ⟨t4.desc,1,1,.bool false,[]⟩ (.node 2 ⟨t2.desc,1,8,.int .i64 0,[]⟩ (.node 1 (tF t1.desc) .leaf .leaf) (.node 3 ⟨t3.desc,1,8,.int .i64 0,[]⟩ .leaf .leaf)) (.node 9 ⟨t9.desc,1,16,.string ⟨#[]⟩,[]⟩ (.node 5 ⟨t5.desc,1,1,.int .u8 0,[]⟩ .leaf .leaf) .leaf)) (.node 24 (tS t24.desc) (.node 22 (tS t22.desc) (.node 21 ⟨t21.desc,1,4,.int .i32 0,[]⟩ .leaf .leaf) (.node 23 (tS t23.desc) .leaf .leaf)) (.node 26 ⟨t25.desc,3,72,.agg #[.slice none 0 0,.slice none 0 0,.slice none 0 0],[]⟩ (.node 25 ⟨t25.desc,3,72,.agg #[.slice none 0 0,.slice none 0 0,.slice none 0 0],[]⟩ .leaf .leaf) .leaf))) (.node 38 (tS t38.desc) (.node 32 ⟨t31.desc,2,48,.agg #[.slice none 0 0,.slice none 0 0],[]⟩ (.node 29 (tS t29.desc) (.node 28 (tS t27.desc) .leaf .leaf) (.node 30 (tS t30.desc) .leaf .leaf)) (.node 37 (tS t37.desc) (.node 36 (tS t36.desc) .leaf .leaf) .leaf)) (.node 46 (tS t46.desc) (.node 43 (tF t43.desc) (.node 40 ⟨t39.desc,10,192,.agg #[.int .i64 0,.int .i64 0,.string ⟨#[]⟩,.string ⟨#[]⟩,.slice none 0 0,.slice none 0 0,.slice none 0 0,.slice none 0 0,.slice none 0 0,.slice none 0 0],[]⟩ .leaf .leaf) (.node 44 ⟨t3.desc,1,8,.int .i64 0,[]⟩ .leaf .leaf)) (.node 53 (tS t53.desc) (.node 47 (tS t47.desc) .leaf .leaf) .leaf)))) (.node 95 ⟨t94.desc,3,64,.agg #[.string ⟨#[]⟩,.slice none 0 0,.slice none 0 0],[]⟩ (.node 69 ti69 (.node 62 (tS t62.desc) (.node 58 (tF t58.desc) (.node 56 ⟨t55.desc,4,72,.agg #[.int .i64 0,.string ⟨#[]⟩,.slice none 0 0,.slice none 0 0],[]⟩ .leaf .leaf) (.node 61 (tS t61.desc) .leaf .leaf)) (.node 67 (tF t67.desc) (.node 64 ⟨t63.desc,2,48,.agg #[.slice none 0 0,.slice none 0 0],[]⟩ .leaf .leaf) .leaf)) (.node 76 ⟨t75.desc,9,160,.agg #[.int .i64 0,.string ⟨#[]⟩,.slice none 0 0,.slice none 0 0,.slice none 0 0,.slice none 0 0,.int .i64 0,.int .i64 0,.slice none 0 0],[]⟩ (.node 73 (tS t73.desc) (.node 71 ⟨t70.desc,7,88,.agg #[.int .i64 0,.string ⟨#[]⟩,.int .i64 0,.int .i64 0,.int .i64 0,.string ⟨#[]⟩,.slice none 0 0],[]⟩ .leaf .leaf) (.node 74 (tS t74.desc) .leaf .leaf)) (.node 93 ti93 (.node 86 ⟨t85.desc,2,40,.agg #[.string ⟨#[]⟩,.slice none 0 0],[]⟩ .leaf .leaf) .leaf))) (.node 115 ⟨t114.desc,11,232,.agg #[.slice none 0 0,.slice none 0 0,.slice none 0 0,.slice none 0 0,.slice none 0 0,.slice none 0 0,.slice none 0 0,.slice none 0 0,.slice none 0 0,.int .i64 0,.bool false],[]⟩ (.node 111 (tF t111.desc) (.node 104 (tS t104.desc) (.node 96 (tF t96.desc) .leaf .leaf) (.node 109 ⟨t108.desc,4,96,.agg #[.slice none 0 0,.slice none 0 0,.slice none 0 0,.slice none 0 0],[]⟩ .leaf .leaf)) (.node 114 ⟨t114.desc,11,232,.agg #[.slice none 0 0,.slice none 0 0,.slice none 0 0,.slice none 0 0,.slice none 0 0,.slice none 0 0,.slice none 0 0,.slice none 0 0,.slice none 0 0,.int .i64 0,.bool false],[]⟩ (.node 112 (tP t112.desc) .leaf .leaf) .leaf)) (.node 128 (tF t128.desc) (.node 123 (tF t123.desc) (.node 121 (tS t121.desc) .leaf .leaf) .leaf) (.node 136 (tP t136.desc) (.node 133 (tF t133.desc) .leaf .leaf) .leaf))))) (.node 233 (tP t233.desc) (.node 197 (tF t197.desc) (.node 171 (tS t171.desc) (.node 155 (tF t155.desc) (.node 151 ⟨t150.desc,7,80,.agg #[.string ⟨#[]⟩,.int .i64 0,.string ⟨#[]⟩,.int .i64 0,.int .i64 0,.int .i64 0,.string ⟨#[]⟩],[]⟩ (.node 149 (tF t149.desc) .leaf .leaf) (.node 154 (tF t154.desc) .leaf .leaf)) (.node 170 ⟨t170.desc,1,8,.int .u64 0,[]⟩ (.node 164 (tF t164.desc) .leaf .leaf) .leaf)) (.node 182 (tF t182.desc) (.node 177 ti177 (.node 175 ⟨t174.desc,3,40,.agg #[.slice none 0 0,.int .i64 0,.int .i64 0],[]⟩ .leaf .leaf) (.node 179 (tF t179.desc) .leaf .leaf)) (.node 186 (tF t186.desc) (.node 185 ⟨t184.desc,8,192,.agg #[.slice none 0 0,.slice none 0 0,.slice none 0 0,.slice none 0 0,.slice none 0 0,.slice none 0 0,.slice none 0 0,.slice none 0 0],[]⟩ .leaf .leaf) .leaf))) (.node 213 (tF t213.desc) (.node 210 ⟨t209.desc,3,56,.agg #[.string ⟨#[]⟩,.string ⟨#[]⟩,.slice none 0 0],[]⟩ (.node 204 (tF t204.desc) (.node 203 (tF t203.desc) .leaf .leaf) (.node 209 ⟨t209.desc,3,56,.agg #[.string ⟨#[]⟩,.string ⟨#[]⟩,.slice none 0 0],[]⟩ .leaf .leaf)) (.node 212 (tF t212.desc) (.node 211 ⟨t211.desc,8,8,.agg #[.bool false,.bool false,.bool false,.bool false,.bool false,.bool false,.bool false,.bool false],[]⟩ .leaf .leaf) .leaf)) (.node 222 ⟨t222.desc,1,4,.int .u32 0,[]⟩ (.node 221 (tF t221.desc) (.node 218 (tF t218.desc) .leaf .leaf) .leaf) (.node 226 ti226 (.node 224 ⟨t224.desc,1,8,.int .u64 0,[]⟩ .leaf .leaf) .leaf)))) (.node 307 (tF t307.desc) (.node 251 (tF t251.desc) (.node 246 (tF t246.desc) (.node 237 ⟨t236.desc,4,96,.agg #[.slice none 0 0,.slice none 0 0,.slice none 0 0,.slice none 0 0],[]⟩ (.node 234 (tF t234.desc) .leaf .leaf) (.node 244 ⟨t243.desc,5,120,.agg #[.slice none 0 0,.slice none 0 0,.slice none 0 0,.slice none 0 0,.slice none 0 0],[]⟩ .leaf .leaf)) (.node 249 (tS t249.desc) (.node 248 (tF t248.desc) .leaf .leaf) .leaf)) (.node 279 (tS t279.desc) (.node 265 (tF t265.desc) (.node 264 (tF t264.desc) .leaf .leaf) (.node 274 (tS t274.desc) .leaf .leaf)) (.node 294 (tF t294.desc) (.node 289 ⟨t288.desc,1,16,.nilIface,[]⟩ .leaf .leaf) .leaf))) (.node 339 (tP t339.desc) (.node 322 (tP t322.desc) (.node 313 (tF t313.desc) (.node 308 (tF t308.desc) .leaf .leaf) (.node 319 ⟨t3.desc,1,8,.int .i64 0,[]⟩ .leaf .leaf)) (.node 334 ⟨t334.desc,24,24,.agg #[.int .u8 0,.int .u8 0,.int .u8 0,.int .u8 0,.int .u8 0,.int .u8 0,.int .u8 0,.int .u8 0,.int .u8 0,.int .u8 0,.int .u8 0,.int .u8 0,.int .u8 0,.int .u8 0,.int .u8 0,.int .u8 0,.int .u8 0,.int .u8 0,.int .u8 0,.int .u8 0,.int .u8 0,.int .u8 0,.int .u8 0,.int .u8 0],[]⟩ (.node 332 ⟨t331.desc,3,48,.agg #[.string ⟨#[]⟩,.string ⟨#[]⟩,.nilIface],[]⟩ .leaf .leaf) .leaf)) (.node 344 ⟨t344.desc,20,160,.agg #[.int .u64 0,.int .u64 0,.int .u64 0,.int .u64 0,.int .u64 0,.int .u64 0,.int .u64 0,.int .u64 0,.int .u64 0,.int .u64 0,.int .u64 0,.int .u64 0,.int .u64 0,.int .u64 0,.int .u64 0,.int .u64 0,.int .u64 0,.int .u64 0,.int .u64 0,.int .u64 0],[]⟩ (.node 342 ti342 (.node 340 (tP t340.desc) .leaf .leaf) .leaf) (.node 347 ⟨t347.desc,64,64,.agg #[.int .u8 0,.int .u8 0,.int .u8 0,.int .u8 0,.int .u8 0,.int .u8 0,.int .u8 0,.int .u8 0,.int .u8 0,.int .u8 0,.int .u8 0,.int .u8 0,.int .u8 0,.int .u8 0,.int .u8 0,.int .u8 0,.int .u8 0,.int .u8 0,.int .u8 0,.int .u8 0,.int .u8 0,.int .u8 0,.int .u8 0,.int .u8 0,.int .u8 0,.int .u8 0,.int .u8 0,.int .u8 0,.int .u8 0,.int .u8 0,.int .u8 0,.int .u8 0,.int .u8 0,.int .u8 0,.int .u8 0,.int .u8 0,.int .u8 0,.int .u8 0,.int .u8 0,.int .u8 0,.int .u8 0,.int .u8 0,.int .u8 0,.int .u8 0,.int .u8 0,.int .u8 0,.int .u8 0,.int .u8 0,.int .u8 0,.int .u8 0,.int .u8 0,.int .u8 0,.int .u8 0,.int .u8 0,.int .u8 0,.int .u8 0,.int .u8 0,.int .u8 0,.int .u8 0,.int .u8 0,.int .u8 0,.int .u8 0,.int .u8 0,.int .u8 0],[]⟩ (.node 346 ⟨t346.desc,32,32,.agg #[.int .u8 0,.int .u8 0,.int .u8 0,.int .u8 0,.int .u8 0,.int .u8 0,.int .u8 0,.int .u8 0,.int .u8 0,.int .u8 0,.int .u8 0,.int .u8 0,.int .u8 0,.int .u8 0,.int .u8 0,.int .u8 0,.int .u8 0,.int .u8 0,.int .u8 0,.int .u8 0,.int .u8 0,.int .u8 0,.int .u8 0,.int .u8 0,.int .u8 0,.int .u8 0,.int .u8 0,.int .u8 0,.int .u8 0,.int .u8 0,.int .u8 0,.int .u8 0],[]⟩ .leaf .leaf) .leaf))))))
theorem U:tt.Ok Tryz.prog:=⟨tO t145 underlying145,⟨tO t54 underlying54,⟨tO t27 underlying27,⟨tO t20 underlying20,⟨tO t4 underlying4,⟨tO t2 underlying2,⟨tO t1 underlying1,trivial,trivial⟩,⟨tO t3 underlying3,trivial,trivial⟩⟩,⟨tO t9 underlying9,⟨tO t5 underlying5,trivial,trivial⟩,trivial⟩⟩,⟨tO t24 underlying24,⟨tO t22 underlying22,⟨tO t21 underlying21,trivial,trivial⟩,⟨tO t23 underlying23,trivial,trivial⟩⟩,⟨tO t26 underlying26,⟨tO t25 underlying25,trivial,trivial⟩,trivial⟩⟩⟩,⟨tO t38 underlying38,⟨tO t32 underlying32,⟨tO t29 underlying29,⟨tO t28 underlying28,trivial,trivial⟩,⟨tO t30 underlying30,trivial,trivial⟩⟩,⟨tO t37 underlying37,⟨tO t36 underlying36,trivial,trivial⟩,trivial⟩⟩,⟨tO t46 underlying46,⟨tO t43 underlying43,⟨tO t40 underlying40,trivial,trivial⟩,⟨tO t44 underlying44,trivial,trivial⟩⟩,⟨tO t53 underlying53,⟨tO t47 underlying47,trivial,trivial⟩,trivial⟩⟩⟩⟩,⟨tO t95 underlying95,⟨ti69_ok,⟨tO t62 underlying62,⟨tO t58 underlying58,⟨tO t56 underlying56,trivial,trivial⟩,⟨tO t61 underlying61,trivial,trivial⟩⟩,⟨tO t67 underlying67,⟨tO t64 underlying64,trivial,trivial⟩,trivial⟩⟩,⟨tO t76 underlying76,⟨tO t73 underlying73,⟨tO t71 underlying71,trivial,trivial⟩,⟨tO t74 underlying74,trivial,trivial⟩⟩,⟨ti93_ok,⟨tO t86 underlying86,trivial,trivial⟩,trivial⟩⟩⟩,⟨tO t115 underlying115,⟨tO t111 underlying111,⟨tO t104 underlying104,⟨tO t96 underlying96,trivial,trivial⟩,⟨tO t109 underlying109,trivial,trivial⟩⟩,⟨tO t114 underlying114,⟨tO t112 underlying112,trivial,trivial⟩,trivial⟩⟩,⟨tO t128 underlying128,⟨tO t123 underlying123,⟨tO t121 underlying121,trivial,trivial⟩,trivial⟩,⟨tO t136 underlying136,⟨tO t133 underlying133,trivial,trivial⟩,trivial⟩⟩⟩⟩⟩,⟨tO t233 underlying233,⟨tO t197 underlying197,⟨tO t171 underlying171,⟨tO t155 underlying155,⟨tO t151 underlying151,⟨tO t149 underlying149,trivial,trivial⟩,⟨tO t154 underlying154,trivial,trivial⟩⟩,⟨tO t170 underlying170,⟨tO t164 underlying164,trivial,trivial⟩,trivial⟩⟩,⟨tO t182 underlying182,⟨ti177_ok,⟨tO t175 underlying175,trivial,trivial⟩,⟨tO t179 underlying179,trivial,trivial⟩⟩,⟨tO t186 underlying186,⟨tO t185 underlying185,trivial,trivial⟩,trivial⟩⟩⟩,⟨tO t213 underlying213,⟨tO t210 underlying210,⟨tO t204 underlying204,⟨tO t203 underlying203,trivial,trivial⟩,⟨tO t209 underlying209,trivial,trivial⟩⟩,⟨tO t212 underlying212,⟨tO t211 underlying211,trivial,trivial⟩,trivial⟩⟩,⟨tO t222 underlying222,⟨tO t221 underlying221,⟨tO t218 underlying218,trivial,trivial⟩,trivial⟩,⟨ti226_ok,⟨tO t224 underlying224,trivial,trivial⟩,trivial⟩⟩⟩⟩,⟨tO t307 underlying307,⟨tO t251 underlying251,⟨tO t246 underlying246,⟨tO t237 underlying237,⟨tO t234 underlying234,trivial,trivial⟩,⟨tO t244 underlying244,trivial,trivial⟩⟩,⟨tO t249 underlying249,⟨tO t248 underlying248,trivial,trivial⟩,trivial⟩⟩,⟨tO t279 underlying279,⟨tO t265 underlying265,⟨tO t264 underlying264,trivial,trivial⟩,⟨tO t274 underlying274,trivial,trivial⟩⟩,⟨tO t294 underlying294,⟨tO t289 underlying289,trivial,trivial⟩,trivial⟩⟩⟩,⟨tO t339 underlying339,⟨tO t322 underlying322,⟨tO t313 underlying313,⟨tO t308 underlying308,trivial,trivial⟩,⟨tO t319 underlying319,trivial,trivial⟩⟩,⟨tO t334 underlying334,⟨tO t332 underlying332,trivial,trivial⟩,trivial⟩⟩,⟨tO t344 underlying344,⟨ti342_ok,⟨tO t340 underlying340,trivial,trivial⟩,trivial⟩,⟨tO t347 underlying347,⟨tO t346 underlying346,trivial,trivial⟩,trivial⟩⟩⟩⟩⟩⟩
end
end Go.Ab


namespace Go.Proofs.YtafdcemcgfbhcaaGreatDoor
noncomputable section
open Go Go.Ab Go.Proofs.Tryz
theorem mok:prog.follows .mixedOrders=true:=by kernel_rfl
abbrev ac(n:Int):PV:= .val (.int .i64 n)
abbrev az(b:Bool):PV:= .val (.bool b)
structure LVal where
 kind:Int
 int:Int
 text:Rb
 deriving DecidableEq
structure LCol where
 name:Rb
 kind:Int
 nullable:Bool
 deriving DecidableEq
inductive LExpr where
 |mk (kind:Int) (name:Rb) (index:Int) (value:LVal) (args:List LExpr)
def LExpr.kind:LExpr->Int| .mk k _ _ _ _=>k
def LExpr.name:LExpr->Rb| .mk _ n _ _ _=>n
def LExpr.index:LExpr->Int| .mk _ _ i _ _=>i
def LExpr.value:LExpr->LVal| .mk _ _ _ v _=>v
def LExpr.args:LExpr->List LExpr| .mk _ _ _ _ a=>a
structure LEnv where
 cols:List LCol
 row:List LVal
 params:List LVal
 vnames:Rs
 vvals:List LVal
def LVal.nul:LVal:=⟨0,0,[]⟩
@[simp] def ab (v:LVal):List PV:=[ac v.kind,ac v.int,.str v.text]
@[simp] def ap (c:LCol):List PV:=[.str c.name,ac c.kind,az c.nullable]
mutual
def eJ:LExpr->List PV
 | .mk k n i v a=>[ac k,.str n,ac i,ac v.kind,ac v.int,.str v.text,.list 71 (uk a)]
def uk:List LExpr->List (List PV)
 |[]=>[]
 |e::r=>eJ e::uk r
end
theorem uV:∀l,uk l=l.map eJ
 |[]=>rfl
 |e::r=>by simp[uk,uV r]
def jl(e:LExpr):List PV:=[ac e.kind,.str e.name,ac e.index,ac e.value.kind,ac e.value.int,.str e.value.text,.list 71 (e.args.map eJ)]
theorem cQ(e:LExpr):eJ e=jl e:=by
 cases e;simp[eJ,jl,uV,LExpr.kind,LExpr.name,LExpr.index,LExpr.value,LExpr.args]
abbrev me(v:LVal):PV:= .agg (ab v)
abbrev pcol(c:LCol):PV:= .agg (ap c)
abbrev mT(e:LExpr):PV:= .agg (jl e)
abbrev pvals(l:List LVal):PV:= .list 69 (l.map ab)
abbrev lW(l:List LCol):PV:= .list 93 (l.map ap)
abbrev pexprs(l:List LExpr):PV:= .list 71 (l.map eJ)
abbrev pstrs(l:Rs):PV:= .list 9 (l.map fun s=>[.str s])
abbrev pints(l:List Int):PV:= .list 3 (l.map fun n=>[ac n])
@[simp] def encEnv (v:LEnv):List PV:=[lW v.cols,pvals v.row,pvals v.params,pstrs v.vnames,pvals v.vvals]
abbrev penv(v:LEnv):PV:= .agg (encEnv v)
theorem getExpr{l:List LExpr}{j:Nat}(h:j<l.length):(l.map eJ)[((j:Nat):Int).toNat]? =some (jl l[j]):=by
 simp[h,cQ]
def aL{α:Type}(p:α->Bool)(l:List α):Int:=match l.findIdx? p with
 |some i=>i
 |none=>-1
theorem pG{α:Type}{p:α->Bool}{l:List α}{j:Nat}(hlt:j<l.length)(hpre:∀x∈l.take j,p x=false)(h:p l[j]=true):aL p l=(j:Int):=by
 have:l.findIdx? p=some j:=by
  rw[List.findIdx?_eq_some_iff_getElem]
  refine⟨hlt,h,fun i hi=>?_⟩
  have:=hpre l[i] (List.mem_take_iff_getElem.2 ⟨i,by omega,rfl⟩)
  simp[this]
 simp[aL,this]
theorem lK{α:Type}{p:α->Bool}{l:List α}(hpre:∀x∈l,p x=false):aL p l=-1:=by
 have:l.findIdx? p=none:=by
  rw[List.findIdx?_eq_none_iff];exact hpre
 simp[aL,this]
theorem rT{α:Type}{p:α->Bool}{l:List α}{j:Nat}(hlt:j<l.length)(hpre:∀x∈l.take j,p x=false)(h:p l[j]=false):∀x∈l.take (j+1),p x=false:=by
 intro x hx;rw[List.take_add_one,ze hlt]at hx;simp only[Option.toList,List.mem_append,List.mem_singleton]at hx;rcases hx with hx|rfl
 ·exact hpre x hx
 ·exact h
theorem aO{n:Int}(h1:-9223372036854775808<=n)(h2:n<=9223372036854775807):IntKind.i64.wrap n=n:=by
 simp only[IntKind.wrap,IntKind.bits,IntKind.signed];simp;omega
theorem fG{j:Nat}(h:j<maxLen):ac (IntKind.i64.wrap ((j:Int)+1))=ac ((j+1:Nat):Int):=by
 rw[aO (by omega) (by simp[maxLen]at h;omega)];simp
theorem kl{α:Type}{p:α->Bool}{l:List α}:(decide (aL p l>=0))=l.any p:=by
 rw[Bool.eq_iff_iff];simp only[decide_eq_true_eq,List.any_eq_true];cases h:l.findIdx? p with
 |none=>
  have e:aL p l=-1:=by simp[aL,h]
  rw[List.findIdx?_eq_none_iff]at h;rw[e];constructor
  ·intro h';omega
  ·rintro⟨x,hx,hp⟩;rw[h x hx]at hp;cases hp
 |some i=>
  have e:aL p l=(i:Int):=by simp[aL,h]
  rw[List.findIdx?_eq_some_iff_getElem]at h;rw[e]
  exact⟨fun _=>⟨_,List.getElem_mem h.1,h.2.1⟩,fun _=>by omega⟩
abbrev Rq:=List LVal
abbrev Rz:=List (List LVal)
abbrev bv:Int->List PV:=fun n=>[ac n]
abbrev rBool:Bool->List PV:=fun b=>[az b]
abbrev nE:Rb->List PV:=fun s=>[.str s]
abbrev ae{α:Type}(e:TypeId)(f:α->List PV):List α->List PV:=fun l=>[.list e (l.map f)]
theorem natLt{n:Int}{m j:Nat}(hm:n<=2^62/\m=n.toNat)(h:decide ((j:Int)<n)=true):j<(List.range m).length:=by
 have:=of_decide_eq_true h
 simp;omega
theorem natGe{n:Int}{m j:Nat}(hm:n<=2^62/\m=n.toNat)(h:decide ((j:Int)<n)=false):(List.range m).length<=j:=by
 have:=of_decide_eq_false h
 simp;omega
theorem natX{m j x:Nat}(h:(List.range m)[j]? =some x):j=x:=by
 have:=zg.1 h
 obtain⟨h1,h2⟩:=this
 simpa using h2
theorem pu{n:Int}{m j:Nat}(hm:n<=2^62/\m=n.toNat)(h:j<(List.range m).length):ac (IntKind.i64.wrap ((j:Int)+1))=ac ((j+1:Nat):Int):=by
 rw[aO (by omega) (by simp at h;omega)];simp
end
end Go.Proofs.YtafdcemcgfbhcaaGreatDoor

namespace Go.Proofs.YtafdcemcgfbhcaaGreatDoor
noncomputable section
open Go Go.Ab Go.Proofs.Tryz
attribute [local irreducible] V Ao Gh Eff PH
set_option maxRecDepth 4000
theorem indexCol{g:FuncId}{caps:List PV}{p:LCol->Bool}(xs:List LCol)(hg:∀(vs:Array Value) (w:World),(callFunc g vs).run prog w= .ok (.enter g vs) w)(hp:∀x∈xs,aC prog g (.agg (ap x)::caps) (az (p x))):
  aC prog 170 [.list 93 (xs.map ap),.fn g caps] (ac (aL p xs)):=by
 refine PH.ak func170 ntmps170 ?_
 repeat(first|refine aD U Z ?_|refine ao ?_|refine al ?_|refine ah ?_|refine aG ?_)
 refine jc U 0 Z Z fun hl _=>?_
 refine mJ (X:=Nat) (fun j=>⟨19,upd (upd (upd (upd (fun _=>.any) 0 (.list 93 (xs.map ap))) 1 (.fn g caps)) 7 (ac (xs.map ap).length)) 8 (ac j),fun _=>none,fun _=>none⟩)
  (fun j=>j<=xs.length/\∀x∈xs.take j,p x=false) (fun j=>xs.length-j) 0 ⟨Nat.zero_le _,by simp⟩ (Gh.le (aq (aq (aq (aq bm)))) aV aU) ?_
 rintro j ⟨hj,hpre⟩
 repeat(first|refine aD U Z ?_|refine ao ?_|refine al ?_|refine ah ?_)
 refine aY Z (fun h=>?_) (fun h=>?_)
 ·have hlt:j<xs.length:=by simpa using h
  have hget:xs[j]? =some xs[j]:=ze hlt
  repeat(first|refine aD U Z ?_|refine ao ?_|refine al ?_|refine ah ?_|refine aE ?_|refine aG ?_)
  refine qx U Z Z Z Z Z Z (zn j) (r:=ap xs[j]) (by simp[hget]) Z ?_
  repeat(refine aD U Z ?_)
  refine ag hg (ip.r) (hp xs[j] (List.getElem_mem hlt)) ?_
  repeat(refine ao ?_)
  refine aY Z (fun h=>?_) (fun h=>?_)
  ·repeat(first|refine aD U Z ?_|refine ao ?_|refine al ?_|refine ah ?_)
   refine ed U (PLe.q ?_);rw[pG hlt hpre h]
  ·repeat(first|refine aD U Z ?_|refine ao ?_|refine ah ?_|refine aE ?_|refine el ?_)
   refine nq (j+1) (by omega) ⟨hlt,?_⟩ (Gh.le (bh (PLe.q ?_) (aq (aq (aq bm)))) aV aU)
   ·exact rT hlt hpre h
   ·exact fG (by simp at hl;omega)
 ·have hge : j = xs.length := by have : ¬ j < xs.length := by simpa using h
                                 omega
  repeat(first|refine aD U Z ?_|refine ao ?_|refine al ?_|refine ah ?_|refine bd Z ?_)
  refine ed U (PLe.q ?_);rw[lK (by rw[hge]at hpre;simpa using hpre)]
theorem indexVal{g:FuncId}{caps:List PV}{p:LVal->Bool}(xs:Rq)(hg:∀(vs:Array Value) (w:World),(callFunc g vs).run prog w= .ok (.enter g vs) w)(hp:∀x∈xs,aC prog g (.agg (ab x)::caps) (az (p x))):
  aC prog 263 [.list 69 (xs.map ab),.fn g caps] (ac (aL p xs)):=by
 refine PH.ak func263 ntmps263 ?_
 repeat(first|refine aD U Z ?_|refine ao ?_|refine al ?_|refine ah ?_|refine aG ?_)
 refine jc U 0 Z Z fun hl _=>?_
 refine mJ (X:=Nat) (fun j=>⟨19,upd (upd (upd (upd (fun _=>.any) 0 (.list 69 (xs.map ab))) 1 (.fn g caps)) 7 (ac (xs.map ab).length)) 8 (ac j),fun _=>none,fun _=>none⟩)
  (fun j=>j<=xs.length/\∀x∈xs.take j,p x=false) (fun j=>xs.length-j) 0 ⟨Nat.zero_le _,by simp⟩ (Gh.le (aq (aq (aq (aq bm)))) aV aU) ?_
 rintro j ⟨hj,hpre⟩
 repeat(first|refine aD U Z ?_|refine ao ?_|refine al ?_|refine ah ?_)
 refine aY Z (fun h=>?_) (fun h=>?_)
 ·have hlt:j<xs.length:=by simpa using h
  have hget:xs[j]? =some xs[j]:=ze hlt
  repeat(first|refine aD U Z ?_|refine ao ?_|refine al ?_|refine ah ?_|refine aE ?_|refine aG ?_)
  refine qx U Z Z Z Z Z Z (zn j) (r:=ab xs[j]) (by simp[hget]) Z ?_
  repeat(refine aD U Z ?_)
  refine ag hg (ip.r) (hp xs[j] (List.getElem_mem hlt)) ?_
  repeat(refine ao ?_)
  refine aY Z (fun h=>?_) (fun h=>?_)
  ·repeat(first|refine aD U Z ?_|refine ao ?_|refine al ?_|refine ah ?_)
   refine ed U (PLe.q ?_);rw[pG hlt hpre h]
  ·repeat(first|refine aD U Z ?_|refine ao ?_|refine ah ?_|refine aE ?_|refine el ?_)
   refine nq (j+1) (by omega) ⟨hlt,?_⟩ (Gh.le (bh (PLe.q ?_) (aq (aq (aq bm)))) aV aU)
   ·exact rT hlt hpre h
   ·exact fG (by simp at hl;omega)
 ·have hge : j = xs.length := by have : ¬ j < xs.length := by simpa using h
                                 omega
  repeat(first|refine aD U Z ?_|refine ao ?_|refine al ?_|refine ah ?_|refine bd Z ?_)
  refine ed U (PLe.q ?_);rw[lK (by rw[hge]at hpre;simpa using hpre)]
theorem dY{g:FuncId}{caps:List PV}{p:LVal->Bool}(xs:Rq)(hg:∀(vs:Array Value) (w:World),(callFunc g vs).run prog w= .ok (.enter g vs) w)(hp:∀x∈xs,aC prog g (.agg (ab x)::caps) (az (p x))):
  aC prog 241 [.list 69 (xs.map ab),.fn g caps] (az (xs.any p)):=by
 refine PH.ak func241 ntmps241 ?_
 repeat(first|refine aD U Z ?_|refine ao ?_|refine al ?_|refine ah ?_)
 refine ag call263 (ip.r) (indexVal xs hg hp) ?_
 repeat(first|refine aD U Z ?_|refine ao ?_)
 refine ed U (PLe.q ?_);rw[kl]
theorem indexInt{g:FuncId}{caps:List PV}{p:Int->Bool}(xs:List Int)(hg:∀(vs:Array Value) (w:World),(callFunc g vs).run prog w= .ok (.enter g vs) w)(hp:∀x∈xs,aC prog g (ac x::caps) (az (p x))):
  aC prog 269 [.list 3 (xs.map fun x=>[ac x]),.fn g caps] (ac (aL p xs)):=by
 refine PH.ak func269 ntmps269 ?_
 repeat(first|refine aD U Z ?_|refine ao ?_|refine al ?_|refine ah ?_|refine aG ?_)
 refine jc U 0 Z Z fun hl _=>?_
 refine mJ (X:=Nat) (fun j=>⟨19,upd (upd (upd (upd (fun _=>.any) 0 (.list 3 (xs.map fun x=>[ac x]))) 1 (.fn g caps)) 7 (ac (xs.map fun x=>[ac x]).length)) 8 (ac j),fun _=>none,fun _=>none⟩)
  (fun j=>j<=xs.length/\∀x∈xs.take j,p x=false) (fun j=>xs.length-j) 0 ⟨Nat.zero_le _,by simp⟩ (Gh.le (aq (aq (aq (aq bm)))) aV aU) ?_
 rintro j ⟨hj,hpre⟩
 repeat(first|refine aD U Z ?_|refine ao ?_|refine al ?_|refine ah ?_)
 refine aY Z (fun h=>?_) (fun h=>?_)
 ·have hlt:j<xs.length:=by simpa using h
  have hget:xs[j]? =some xs[j]:=ze hlt
  repeat(first|refine aD U Z ?_|refine ao ?_|refine al ?_|refine ah ?_|refine aE ?_|refine aG ?_)
  refine qx U Z Z Z Z Z Z (zn j) (r:=[ac xs[j]]) (by simp[hget]) Z ?_
  repeat(refine aD U Z ?_)
  refine ag hg (ip.r) (hp xs[j] (List.getElem_mem hlt)) ?_
  repeat(refine ao ?_)
  refine aY Z (fun h=>?_) (fun h=>?_)
  ·repeat(first|refine aD U Z ?_|refine ao ?_|refine al ?_|refine ah ?_)
   refine ed U (PLe.q ?_);rw[pG hlt hpre h]
  ·repeat(first|refine aD U Z ?_|refine ao ?_|refine ah ?_|refine aE ?_|refine el ?_)
   refine nq (j+1) (by omega) ⟨hlt,?_⟩ (Gh.le (bh (PLe.q ?_) (aq (aq (aq bm)))) aV aU)
   ·exact rT hlt hpre h
   ·exact fG (by simp at hl;omega)
 ·have hge : j = xs.length := by have : ¬ j < xs.length := by simpa using h
                                 omega
  repeat(first|refine aD U Z ?_|refine ao ?_|refine al ?_|refine ah ?_|refine bd Z ?_)
  refine ed U (PLe.q ?_);rw[lK (by rw[hge]at hpre;simpa using hpre)]
theorem containsInt{g:FuncId}{caps:List PV}{p:Int->Bool}(xs:List Int)(hg:∀(vs:Array Value) (w:World),(callFunc g vs).run prog w= .ok (.enter g vs) w)(hp:∀x∈xs,aC prog g (ac x::caps) (az (p x))):
  aC prog 250 [.list 3 (xs.map fun x=>[ac x]),.fn g caps] (az (xs.any p)):=by
 refine PH.ak func250 ntmps250 ?_
 repeat(first|refine aD U Z ?_|refine ao ?_|refine al ?_|refine ah ?_)
 refine ag call269 (ip.r) (indexInt xs hg hp) ?_
 repeat(first|refine aD U Z ?_|refine ao ?_)
 refine ed U (PLe.q ?_);rw[kl]
theorem dq(s:Rb)(xs:Rs):
  aC prog 61 [pstrs xs,.str s] (ac (aL (fun x=>s==x) xs)):=by
 refine PH.ak func61 ntmps61 ?_
 repeat(first|refine aD U Z ?_|refine ao ?_|refine al ?_|refine ah ?_|refine aG ?_)
 refine jc U 0 Z Z fun hl _=>?_
 refine mJ (X:=Nat) (fun j=>⟨19,upd (upd (upd (upd (fun _=>.any) 0 (pstrs xs)) 1 (.str s)) 7 (ac (xs.map fun s=>[PV.str s]).length)) 8 (ac j),fun _=>none,fun _=>none⟩)
  (fun j=>j<=xs.length/\∀x∈xs.take j,(s==x)=false) (fun j=>xs.length-j) 0 ⟨Nat.zero_le _,by simp⟩ (Gh.le (aq (aq (aq (aq bm)))) aV aU) ?_
 rintro j ⟨hj,hpre⟩
 repeat(first|refine aD U Z ?_|refine ao ?_|refine al ?_|refine ah ?_)
 refine aY Z (fun h=>?_) (fun h=>?_)
 ·have hlt:j<xs.length:=by simpa using h
  have hget:xs[j]? =some xs[j]:=ze hlt
  repeat(first|refine aD U Z ?_|refine ao ?_|refine al ?_|refine ah ?_|refine aE ?_|refine aG ?_)
  refine qx U Z Z Z Z Z Z (zn j) (r:=[.str xs[j]]) (by simp[hget]) Z ?_
  repeat(first|refine aD U Z ?_|refine ao ?_)
  refine aY Z (fun h=>?_) (fun h=>?_)
  ·repeat(first|refine aD U Z ?_|refine ao ?_|refine al ?_|refine ah ?_)
   refine ed U (PLe.q ?_);rw[pG hlt hpre h]
  ·repeat(first|refine aD U Z ?_|refine ao ?_|refine ah ?_|refine aE ?_|refine el ?_)
   refine nq (j+1) (by omega) ⟨hlt,?_⟩ (Gh.le (bh (PLe.q ?_) (aq (aq (aq bm)))) aV aU)
   ·exact rT (p:=fun x=>s==x) hlt hpre h
   ·exact fG (by simp at hl;omega)
 ·have hge : j = xs.length := by have : ¬ j < xs.length := by simpa using h
                                 omega
  repeat(first|refine aD U Z ?_|refine ao ?_|refine al ?_|refine ah ?_|refine bd Z ?_)
  refine ed U (PLe.q ?_);rw[lK (by rw[hge]at hpre;simpa using hpre)]
def kY(v:LVal):Bool:=
 if v.kind=0 then decide (v=⟨0,0,[]⟩)else if v.kind=1 then v.text==[]&&decide (v.int>=-1000000000000)&&decide (v.int<=1000000000000)
 else if v.kind=2 then v.text==[]&&(v.int==0||v.int==1)else if v.kind=3 then v.int==0&&decide (v.text.length<=24)else false
theorem sI(v:LVal):aC prog 43 [me v] (az (kY v)):=by
 refine PH.ak func43 ntmps43 ?_
 repeat' (first|refine aD U Z ?_|refine ao ?_|refine al ?_|refine ah ?_|refine aE ?_|refine aG ?_|refine el ?_|refine bC ?_|refine aY Z (fun h=>?_) (fun h=>?_)|((fail_if_success refine iu Z ?_);refine iV Z Z Z (fun h=>?_) (fun h=>?_)))
 all_goals refine ed U (PLe.q ?_)
 all_goals cases v
 all_goals simp_all[kY]
 ·rename_i x _;rw[Bool.eq_iff_iff];cases x<;>simp
 ·omega
 ·omega
def nW(a b:LVal):Bool:=
 if a.kind≠b.kind then decide (a.kind<b.kind)else if a.int≠b.int then decide (a.int<b.int)else Op.bytesLess a.text b.text
theorem pe(a b:LVal):aC prog 246 [me a,me b] (az (nW a b)):=by
 refine PH.ak func246 ntmps246 ?_
 repeat' (first|refine aD U Z ?_|refine ao ?_|refine al ?_|refine ah ?_|refine aE ?_|refine aG ?_|refine el ?_|refine bC ?_|refine aY Z (fun h=>?_) (fun h=>?_))
 all_goals refine ed U (PLe.q ?_)
 all_goals simp_all[nW]
def ma(v:LVal):Bool:=v.kind==2&&v.int==1
theorem isTS(v:LVal):aC prog 125 [me v] (az (ma v)):=by
 refine PH.ak func125 ntmps125 ?_
 repeat' (first|refine aD U Z ?_|refine ao ?_|refine al ?_|refine ah ?_|refine bC ?_|((fail_if_success refine iu Z ?_);refine iV Z Z Z (fun h=>?_) (fun h=>?_)))
 all_goals refine ed U (PLe.q ?_)
 all_goals simp_all[ma]
def ri(b:Bool):LVal:=⟨2,if b then 1 else 0,[]⟩
theorem pq(b:Bool):aC prog 25 [az b] (me (ri b)):=by
 refine PH.ak func25 ntmps25 ?_
 repeat' (first|refine aD U Z ?_|refine ao ?_|refine al ?_|refine ah ?_|refine aE ?_|(refine iD U Z Z Z Z Z Z ?_;intro bk)|refine aK U ?_|refine aY Z (fun h=>?_) (fun h=>?_))
 all_goals refine cL U (PLe.q ?_)
 all_goals simp_all[ri]
def intV(n:Int):LVal:=if n< -1000000000000\/n>1000000000000 then .nul else⟨1,n,[]⟩
theorem vq(n:Int):aC prog 232 [ac n] (me (intV n)):=by
 refine PH.ak func232 ntmps232 ?_
 repeat' (first|refine aD U Z ?_|refine ao ?_|refine al ?_|refine ah ?_|refine aE ?_|refine bO Z ?_|(refine iD U Z Z Z Z Z Z ?_;intro bk)|refine aK U ?_|refine aY Z (fun h=>?_) (fun h=>?_)|((fail_if_success refine iu Z ?_);refine iV Z Z Z (fun h=>?_) (fun h=>?_)))
 all_goals refine cL U (PLe.q ?_)
 all_goals simp_all[intV,LVal.nul]
 all_goals (rw[zy (by omega)];try simp)
def wr(n:Int):Int:=IntKind.i64.wrap n
def vE(op:Rb)(a b:Int):LVal:=
 if op=[43]then intV (wr (a+b))else if op=[45]then intV (wr (a-b))else if a=0\/b=0 then intV 0
 else if wr ((wr (a*b)).tdiv b)=a then intV (wr (a*b))else .nul
theorem numberV_spec(op:Rb)(a b:Int):aC prog 266 [.str op,ac a,ac b] (me (vE op a b)):=by
 refine PH.ak func266 ntmps266 ?_
 repeat' (first|refine aD U Z ?_|refine ao ?_|refine al ?_|refine ah ?_|refine aE ?_|refine bO Z ?_|refine aG ?_|refine el ?_|(refine iD U Z Z Z Z Z Z ?_;intro bk)|refine aK U ?_|refine aY Z (fun h=>?_) (fun h=>?_)|((fail_if_success refine iu Z ?_);refine iV Z Z Z (fun h=>?_) (fun h=>?_))|(show Ao _ _ _ _ _;first|refine ag call232 (ip.r) (vq _) ?_))
 case refine_2.refine_2.refine_2.refine_2=>
  refine Ao.quo U Z Z Z Z (by simpa using h) Z ?_
  repeat' (first|refine aD U Z ?_|refine ao ?_|refine al ?_|refine ah ?_|refine aE ?_|refine aK U ?_|refine aY Z (fun h=>?_) (fun h=>?_)|(show Ao _ _ _ _ _;first|refine ag call232 (ip.r) (vq _) ?_))
  all_goals refine cL U (PLe.q ?_)
  all_goals simp_all[vE,wr,LVal.nul]
 all_goals refine cL U (PLe.q ?_)
 all_goals simp_all[vE,wr]
end
end Go.Proofs.YtafdcemcgfbhcaaGreatDoor

namespace Go.Proofs.YtafdcemcgfbhcaaGreatDoor
noncomputable section
open Go Go.Ab Go.Proofs.Tryz
attribute [local irreducible] V Ao Do Gh Eff PH IntKind.wrap
set_option maxRecDepth 4000
theorem eS(v:LVal):aC prog 242 [me v] (az (v.kind==0)):=by
 refine PH.ak func242 ntmps242 ?_
 repeat' (first|refine aD U Z ?_|refine ao ?_|refine al ?_|refine ah ?_|refine bC ?_)
 all_goals refine ed U (PLe.q Z)
theorem bothIs_spec(v:LVal)(n:Int):aC prog 262 [me v,ac n] (az (v.kind==2&&v.int==n)):=by
 refine PH.ak func262 ntmps262 ?_
 repeat' (first|refine aD U Z ?_|refine ao ?_|refine al ?_|refine ah ?_|refine bC ?_|((fail_if_success refine iu Z ?_);refine iV Z Z Z (fun h=>?_) (fun h=>?_)))
 all_goals refine ed U (PLe.q ?_)
 all_goals simp_all
theorem wM(v:LVal)(n:Int):aC prog 265 [me v,.ptr [ac n]] (az (v.kind !=n)):=by
 refine PH.ak func265 ntmps265 ?_
 repeat' (first|refine aD U Z ?_|refine ao ?_|refine al ?_|refine ah ?_|refine bC ?_)
 all_goals refine ed U (PLe.q Z)
theorem nA(n:Int)(l:Rq):aC prog 264 [ac n,.ptr [pvals l]] (az (!(l.any fun v=>v.kind !=n))):=by
 refine PH.ak func264 ntmps264 ?_
 repeat' (first|refine aD U Z ?_|refine ao ?_|refine al ?_|refine ah ?_|refine bC ?_|(show Ao _ _ _ _ _;first|refine ag call241 (ip.r) (dY (p:=fun v=>v.kind !=n) l call265 fun v _=>wM v n) ?_))
 all_goals refine ed U (PLe.q Z)
def eK:Rs:=[[43],[45],[42],[61],[60],[60,61],[97,110,100],[111,114],[110,111,116],[124,124],[105,115,32,110,117,108,108],[108,101,110,103,116,104],[105,102]]
def opArity:List Int:=[2,2,2,2,2,2,2,2,1,2,1,1,3]
theorem jy:aC prog 239 [] (.tup [pstrs eK,pints opArity]):=by
 refine PH.ak func239 ntmps239 ?_
 repeat(first|refine aD U Z ?_|refine ao ?_|refine al ?_|refine ah ?_|refine vu U Z Z Z Z Z Z ?_)
 refine xA U Z Z Z (PLe.q ?_);rfl
def bothV(a b:LVal)(d:Int):LVal:=
 if(a.kind==2&&a.int==d)||(b.kind==2&&b.int==d)then ri (d==1)
 else if(a.kind==2&&a.int==wr (1-d))&&(b.kind==2&&b.int==wr (1-d))then ri (d==0)else .nul
theorem bothV_spec(a b:LVal)(d:Int):aC prog 240 [me a,me b,ac d] (me (bothV a b d)):=by
 refine PH.ak func240 ntmps240 ?_
 repeat' (first|refine aD U Z ?_|refine ao ?_|refine al ?_|refine ah ?_|refine aE ?_|refine bO Z ?_|refine bj Z ?_|refine aG ?_|refine el ?_|refine bC ?_|(refine iD U Z Z Z Z Z Z ?_;intro bk)|refine aK U ?_|refine aY Z (fun h=>?_) (fun h=>?_)|((fail_if_success refine iu Z ?_);refine iV Z Z Z (fun h=>?_) (fun h=>?_))|(show Ao _ _ _ _ _;first|refine ag call262 (ip.r) (bothIs_spec _ _) ?_|refine ag call25 (ip.r) (pq _) ?_))
 all_goals refine cL U (PLe.q ?_)
 all_goals (simp only[bothV,wr, *,Bool.or_true,Bool.true_or,Bool.or_self,Bool.and_self,Bool.and_false,Bool.false_and,Bool.false_eq_true,if_true,if_false];try rfl)
def mc(n:Int)(l:Rq):Bool:= !(l.any fun v=>v.kind !=n)
def nK(op:Rb)(l:Rq):LVal:=
 let a:=l.getD 0 .nul
 let b:=l.getD 1 .nul
 if op==[61]then ri (decide (a=b))else if op==[60]then ri (nW a b)else if op==[60,61]then ri (!nW b a)
 else if op==[110,111,116]then(if mc 2 l then ri (a.int==0)else .nul)
 else if op==[108,101,110,103,116,104]then(if mc 3 l then intV a.text.length else .nul)
 else if op==[124,124]then(if mc 3 l&&decide (a.text.length+b.text.length<=24)then⟨3,0,a.text++b.text⟩else .nul)
 else if mc 1 l then vE op a.int b.int else .nul
theorem valEq(a b:LVal):(a.kind==b.kind&&(a.int==b.int&&(a.text==b.text&&true)))=decide (a=b):=by
 cases a;cases b;rw[Bool.eq_iff_iff];simp
theorem wi(op:Rb)(a:LVal)(hop:op=[110,111,116]\/op=[108,101,110,103,116,104]):aC prog 243 [.str op,pvals [a]] (me (nK op [a])):=by
 rcases hop with rfl|rfl
 ·refine PH.ak func243 ntmps243 ?_
  repeat' (first|refine aD U Z ?_|refine ao ?_|refine al ?_|refine ah ?_|refine aE ?_|refine bO Z ?_|refine bj Z ?_|refine aG ?_|refine el ?_|refine bC ?_|(refine iD U Z Z Z Z Z Z ?_;intro bk)|refine aK U ?_|refine aY Z (fun h=>?_) (fun h=>?_)|(show Ao _ _ _ _ _;first|refine ag call264 (ip.r) (nA _ _) ?_|refine ag call25 (ip.r) (pq _) ?_))
  all_goals refine cL U (PLe.q ?_)
  all_goals simp_all[nK,LVal.nul,mc]
 ·refine PH.ak func243 ntmps243 ?_
  repeat' (first|refine aD U Z ?_|refine ao ?_|refine al ?_|refine ah ?_|refine aE ?_|refine bO Z ?_|refine bj Z ?_|refine aG ?_|refine el ?_|refine bC ?_|(refine iD U Z Z Z Z Z Z ?_;intro bk)|refine aK U ?_|refine aY Z (fun h=>?_) (fun h=>?_)|(show Ao _ _ _ _ _;first|refine ag call264 (ip.r) (nA _ _) ?_|refine ag call232 (ip.r) (vq _) ?_))
  all_goals refine cL U (PLe.q ?_)
  all_goals simp_all[nK,LVal.nul,mc]
theorem lQ(op:Rb)(a b:LVal)(h1:(op==[110,111,116])=false)(h2:(op==[108,101,110,103,116,104])=false):aC prog 243 [.str op,pvals [a,b]] (me (nK op [a,b])):=by
 refine PH.ak func243 ntmps243 ?_;refine V.textF 1 Z fun hq=>?_
 have ha:a.text.length<=jO:=hq (ab a) (by simp) _ (by simp);have hb:b.text.length<=jO:=hq (ab b) (by simp) _ (by simp);clear hq
 repeat' (first|(show Ao _ _ _ _ _;first|refine aD U Z ?_|refine ao ?_|refine bC ?_|(refine iD U Z Z Z Z Z Z ?_;intro bk)|refine aK U ?_|refine ag call264 (ip.r) (nA _ _) ?_|refine ag call25 (ip.r) (pq _) ?_)|(show V _ _ _ _ _;first|refine al ?_|refine ah ?_|refine aE ?_|refine bj Z ?_|refine aG ?_|refine el ?_|(show V _ _ _ (.code (.region 6 _ true)::_) _;refine iA U mok ⟨false,false,[]⟩ [0,1,2,3,4,5,6,7,8] Z (by decide+kernel) Z ?_)|(show V _ _ _ (.code (.region 8 _ true)::_) _;refine iA U mok ⟨false,false,[]⟩ [0,1,2,3,4,5,6,7,8] Z (by decide+kernel) Z ?_)|(show V _ _ _ (.code (.region 10 _ true)::_) _;refine iA U mok ⟨false,false,[]⟩ [0,1,2,3,4,5,6,7,8,9] Z (by decide+kernel) Z ?_)|(show V _ _ _ (.code (.region 18 _ true)::_) _;refine iA U mok ⟨false,false,[]⟩ [0,1,2,3,4,5,6,7,8,9,10,11,12,13,14,15] Z (by decide+kernel) Z ?_)|(show V _ _ _ (.code (.region 19 _ true)::_) _;refine iA U mok ⟨false,false,[]⟩ [0,1,2,3,4,5,6,7,8,9,10] Z (by decide+kernel) Z ?_)|(show V _ _ _ (.code (.region 4 _ true)::_) _;refine iA U mok ⟨false,false,[]⟩ [0,1,2,3,4,5,6,7,8,9,10] Z (by decide+kernel) Z ?_)|refine aY Z (fun h=>?_) (fun h=>?_))|(show Do _ _ _ _ _ _ _;first|refine jm Z ?_|refine dE ?_|refine ib Z Z Z Z Z Z Z Z Z Z Z Z ?_|refine bI call264 (ip.r) (nA _ _) ?_|refine bI call25 (ip.r) (pq _) ?_|refine bI call246 (ip.r) (pe _ _) ?_|refine bI call266 (ip.r) (numberV_spec _ _ _) ?_|((fail_if_success refine oK Z Z ?_);refine pI Z Z Z Z (fun h=>?_) (fun h=>?_))))
 all_goals have hw:IntKind.i64.wrap ((a.text.length:Int)+(b.text.length:Int))=(a.text.length:Int)+(b.text.length:Int):=aO (by omega) (by unfold jO at ha hb;omega)
 all_goals try(exfalso;simp_all;done)
 case refine_2.refine_2.refine_2.refine_2.refine_2.refine_1.refine_1.refine_1=>
  have hc:a.text.length+b.text.length<=24:=by
   simp only[decide_eq_true_eq]at h
   have:IntKind.i64.wrap ((a.text.length:Int)+(b.text.length:Int))<=24:=h
   omega
  refine Do.cat Z Z Z Z Z (by unfold jO;omega) Z ?_
  repeat(first|refine jm Z ?_|refine dE ?_|refine ib Z Z Z Z Z Z Z Z Z Z Z Z ?_)
  refine cL U (PLe.q ?_);simp_all[nK,mc]
 all_goals refine cL U (PLe.q ?_)
 all_goals try simp only[valEq]
 case refine_2.refine_2.refine_2.refine_2.refine_2.refine_1.refine_1.refine_2=>
  rw[hw]at h
  have hc:¬a.text.length+b.text.length<=24:=by
   simp only[decide_eq_false_iff_not]at h;omega
  simp_all[nK,mc,LVal.nul];rw[zy (by omega)]
  exact⟨rfl,rfl,rfl⟩
 case refine_2.refine_2.refine_2.refine_2.refine_2.refine_1.refine_2=>
  simp_all[nK,mc,LVal.nul];rw[zy (fun hh=>h hh.1.1 hh.1.2)]
  exact⟨rfl,rfl,rfl⟩
 case refine_2.refine_2.refine_2.refine_2.refine_2.refine_2.refine_2=>
  simp_all[nK,mc,LVal.nul];rw[zy (fun hh=>h hh.1 hh.2)]
  exact⟨rfl,rfl,rfl⟩
 all_goals simp_all[nK,mc,LVal.nul]
def dh(name:Rb):Option Nat:=
 if name==[43]||name==[45]||name==[42]||name==[61]||name==[60]||name==[60,61]||name==[97,110,100]||name==[111,114]||name==[124,124]then some 2
 else if name==[110,111,116]||name==[105,115,32,110,117,108,108]||name==[108,101,110,103,116,104]then some 1
 else if name==[105,102]then some 3 else none
def cg(name:Rb)(l:Rq):LVal:=
 let a:=l.getD 0 .nul
 let b:=l.getD 1 .nul
 let c:=l.getD 2 .nul
 if dh name≠some l.length then .nul
 else if name==[105,115,32,110,117,108,108]then ri (a.kind==0)
 else if name==[105,102]then(if ma a then b else c)
 else if name==[97,110,100]then bothV a b 0
 else if name==[111,114]then bothV a b 1
 else if l.any (fun v=>v.kind==0)then .nul else nK name l
mutual
def er(v:LEnv):LExpr->LVal
 | .mk k n i x args=>
  if k==1 then x
  else if k==2 then(let j:=aL (fun c:LCol=>c.name==n) v.cols
   if 0<=j/\j<v.row.length then v.row.getD j.toNat .nul else .nul)
  else if k==3 then(if 0<=i/\i<v.params.length/\(v.params.getD i.toNat .nul).kind=x.kind then v.params.getD i.toNat .nul else .nul)
  else if k==4 then(let j:=aL (fun s:Rb=>n==s) v.vnames
   if 0<=j/\j<v.vvals.length then v.vvals.getD j.toNat .nul else .nul)
  else if k==5 then cg n (evalEs v args)
  else .nul
def evalEs(v:LEnv):List LExpr->Rq
 |[]=>[]
 |e::r=>er v e::evalEs v r
end
theorem evalEs_map(v:LEnv):∀l,evalEs v l=l.map (er v)
 |[]=>rfl
 |e::r=>by simp[evalEs,evalEs_map v r]
theorem ke{α:Type}:∀{l:List α},l.length=2->∃a b,l=[a,b]
 |[a,b],_=>⟨a,b,rfl⟩
theorem len3{α:Type}:∀{l:List α},l.length=3->∃a b c,l=[a,b,c]
 |[a,b,c],_=>⟨a,b,c,rfl⟩
theorem evalRows{v:LEnv}{args:List LExpr}{j:Nat}(h:j<args.length):((args.take j).map (er v)).map ab++[ab (er v args[j])]=((args.take (j+1)).map (er v)).map ab:=by
 rw[List.take_add_one,ze h];simp only[List.map_append,Option.toList,List.map_cons,List.map_nil]
theorem reckon_spec(v:LEnv)(e:LExpr)
  (ih:∀a∈e.args,aC prog 165 [penv v,mT a] (me (er v a))):
  aC prog 214 [penv v,mT e] (me (cg e.name (e.args.map (er v)))):=by
 refine PH.ak func214 ntmps214 ?_
 repeat(first|refine aD U Z ?_|refine ao ?_|refine al ?_|refine ah ?_|refine aG ?_|refine bC ?_|(refine iD U Z Z Z Z Z Z ?_;intro bk))
 refine jc U 12 Z Z fun hl hby=>?_
 rw[zl]at hl hby;have hby':e.args.length*88<=2^47:=hby;refine iy U 5 5 (e:=69) Z Z ?_
 refine mJ (X:=Nat×OwnRef) (fun X=>⟨92,upd (upd (upd (upd (upd (upd (upd (fun _=>.any) 5 (.own 5 X.2 (((e.args.take X.1).map (er v)).map ab).length)) 4 (.box 4 bk 0)) 3 (.ptr (jl e))) 2 (.ptr (encEnv v))) 12 (pexprs e.args)) 13 (ac (e.args.map eJ).length)) 14 (ac X.1),upd (fun _=>none) 4 (some ⟨bk,ab .nul⟩),upd (fun _=>none) 5 (some ⟨X.2,69,((e.args.take X.1).map (er v)).map ab,true⟩)⟩)
  (fun X=>X.1<=e.args.length) (fun X=>e.args.length-X.1) (0,⟨none,0⟩) (Nat.zero_le _) (Gh.le (aq (aq (aq (aq (aq (aq (aq bm))))))) (aZ Z (ip.r) aV) (bJ aU)) ?_
 rintro⟨j,g⟩ hj
 replace hj:j<=e.args.length:=hj
 repeat(first|refine aD U Z ?_|refine ao ?_|refine al ?_|refine ah ?_)
 refine aY Z (fun h=>?_) (fun h=>?_)
 ·have hlt:j<e.args.length:=by simpa using h
  repeat(first|refine al ?_|refine ah ?_|refine aE ?_|refine aG ?_)
  refine aW U (zn j) (getExpr hlt) ?_
  repeat(first|refine aD U Z ?_|refine ao ?_|refine ah ?_|refine iQ U ?_|(refine iD U Z Z Z Z Z Z ?_;intro bk)|refine aK U ?_)
  refine ag call165 (ip.r) (ih _ (List.getElem_mem hlt)) ?_
  repeat(refine vu U Z Z Z Z Z Z ?_)
  refine wO (rows2:=[ab (er v e.args[j])]) U Z Z Z Z Z Z Z Z Z Z Z Z Z ?_ ?_ fun g'=>?_
  ·simp only[zl,List.length_take,List.length_cons,List.length_nil];rw[Nat.min_eq_left hj]
   show(j+1)*32<=2^47
   omega
  ·simp only[zl,List.length_take,List.length_cons,List.length_nil];omega
  repeat(first|refine aD U Z ?_|refine ao ?_|refine ah ?_|refine el ?_)
  rw[evalRows hlt];refine nq (j+1,g') ?_ ?_ (Gh.le (bh (PLe.q (fG (by omega))) (aq (aq (aq (aq (aq (aq bm))))))) (aZ Z (ip.r) aV) (bJ aU))
  ·show e.args.length-(j+1)<e.args.length-j;omega
  ·exact hlt
 have hge : j = e.args.length := by have : ¬ j < e.args.length := by simpa using h
                                    omega
 subst hge;refine cD 5 Z Z Z ?_;simp only[List.take_length];generalize e.args.map (er v)=L;refine cv (st':=⟨92,upd (upd (upd (fun _=>.any) 5 (pvals L)) 4 (.box 4 bk 0)) 3 (.ptr [ac e.kind,.str e.name,ac e.index,ac e.value.kind,ac e.value.int,.str e.value.text,pexprs e.args]),upd (fun _=>none) 4 (some ⟨bk,ab .nul⟩),fun _=>none⟩) (Gh.le (aq (aq (aq bm))) (aZ Z (ip.r) aV) aU) ?_;generalize e.name=name;by_cases hn:name∈eK
 ·simp only[eK,List.mem_cons,List.mem_nil_iff,or_false]at hn;rcases hn with rfl|rfl|rfl|rfl|rfl|rfl|rfl|rfl|rfl|rfl|rfl|rfl|rfl
  ·have hi:aL (fun x=>[43]==x) eK=0:=by rfl
   by_cases hl:L.length=2
   ·obtain⟨a,b,rfl⟩:=ke hl
    repeat' (first|(show Ao _ _ _ _ _;first|refine aD U Z ?_|refine ao ?_|refine aK U ?_|refine ag call239 (ip.r) (jy) ?_|refine ag call61 (ip.r) (hi▸dq _ _) ?_|refine ag call241 (ip.r) (dY (p:=fun v=>v.kind==0) _ call242 fun v _=>eS v) ?_|refine ag call243 (ip.r) (lQ _ _ _ Z Z) ?_)|(show V _ _ _ _ _;first|refine al ?_|refine ah ?_|refine aE ?_|refine bj Z ?_|refine aG ?_|refine el ?_|refine bd Z ?_|refine aY Z (fun h=>?_) (fun h=>?_)))
    all_goals refine cL U (PLe.q ?_)
    all_goals simp_all[cg,dh,LVal.nul]
   ·repeat' (first|(show Ao _ _ _ _ _;first|refine aD U Z ?_|refine ao ?_|refine aK U ?_|refine ag call239 (ip.r) (jy) ?_|refine ag call61 (ip.r) (hi▸dq _ _) ?_|refine ag call241 (ip.r) (dY (p:=fun v=>v.kind==0) _ call242 fun v _=>eS v) ?_)|(show V _ _ _ _ _;first|refine al ?_|refine ah ?_|refine aE ?_|refine bj Z ?_|refine aG ?_|refine el ?_|refine bd Z ?_|refine aY Z (fun h=>?_) (fun h=>?_)))
    all_goals try(exfalso;simp_all;omega)
    all_goals refine cL U (PLe.q ?_)
    all_goals (have:cg [43] L= .nul:=by simp[cg,dh];omega)
    all_goals (rw[this];rfl)
  ·have hi:aL (fun x=>[45]==x) eK=1:=by rfl
   by_cases hl:L.length=2
   ·obtain⟨a,b,rfl⟩:=ke hl
    repeat' (first|(show Ao _ _ _ _ _;first|refine aD U Z ?_|refine ao ?_|refine aK U ?_|refine ag call239 (ip.r) (jy) ?_|refine ag call61 (ip.r) (hi▸dq _ _) ?_|refine ag call241 (ip.r) (dY (p:=fun v=>v.kind==0) _ call242 fun v _=>eS v) ?_|refine ag call243 (ip.r) (lQ _ _ _ Z Z) ?_)|(show V _ _ _ _ _;first|refine al ?_|refine ah ?_|refine aE ?_|refine bj Z ?_|refine aG ?_|refine el ?_|refine bd Z ?_|refine aY Z (fun h=>?_) (fun h=>?_)))
    all_goals refine cL U (PLe.q ?_)
    all_goals simp_all[cg,dh,LVal.nul]
   ·repeat' (first|(show Ao _ _ _ _ _;first|refine aD U Z ?_|refine ao ?_|refine aK U ?_|refine ag call239 (ip.r) (jy) ?_|refine ag call61 (ip.r) (hi▸dq _ _) ?_|refine ag call241 (ip.r) (dY (p:=fun v=>v.kind==0) _ call242 fun v _=>eS v) ?_)|(show V _ _ _ _ _;first|refine al ?_|refine ah ?_|refine aE ?_|refine bj Z ?_|refine aG ?_|refine el ?_|refine bd Z ?_|refine aY Z (fun h=>?_) (fun h=>?_)))
    all_goals try(exfalso;simp_all;omega)
    all_goals refine cL U (PLe.q ?_)
    all_goals (have:cg [45] L= .nul:=by simp[cg,dh];omega)
    all_goals (rw[this];rfl)
  ·have hi:aL (fun x=>[42]==x) eK=2:=by rfl
   by_cases hl:L.length=2
   ·obtain⟨a,b,rfl⟩:=ke hl
    repeat' (first|(show Ao _ _ _ _ _;first|refine aD U Z ?_|refine ao ?_|refine aK U ?_|refine ag call239 (ip.r) (jy) ?_|refine ag call61 (ip.r) (hi▸dq _ _) ?_|refine ag call241 (ip.r) (dY (p:=fun v=>v.kind==0) _ call242 fun v _=>eS v) ?_|refine ag call243 (ip.r) (lQ _ _ _ Z Z) ?_)|(show V _ _ _ _ _;first|refine al ?_|refine ah ?_|refine aE ?_|refine bj Z ?_|refine aG ?_|refine el ?_|refine bd Z ?_|refine aY Z (fun h=>?_) (fun h=>?_)))
    all_goals refine cL U (PLe.q ?_)
    all_goals simp_all[cg,dh,LVal.nul]
   ·repeat' (first|(show Ao _ _ _ _ _;first|refine aD U Z ?_|refine ao ?_|refine aK U ?_|refine ag call239 (ip.r) (jy) ?_|refine ag call61 (ip.r) (hi▸dq _ _) ?_|refine ag call241 (ip.r) (dY (p:=fun v=>v.kind==0) _ call242 fun v _=>eS v) ?_)|(show V _ _ _ _ _;first|refine al ?_|refine ah ?_|refine aE ?_|refine bj Z ?_|refine aG ?_|refine el ?_|refine bd Z ?_|refine aY Z (fun h=>?_) (fun h=>?_)))
    all_goals try(exfalso;simp_all;omega)
    all_goals refine cL U (PLe.q ?_)
    all_goals (have:cg [42] L= .nul:=by simp[cg,dh];omega)
    all_goals (rw[this];rfl)
  ·have hi:aL (fun x=>[61]==x) eK=3:=by rfl
   by_cases hl:L.length=2
   ·obtain⟨a,b,rfl⟩:=ke hl
    repeat' (first|(show Ao _ _ _ _ _;first|refine aD U Z ?_|refine ao ?_|refine aK U ?_|refine ag call239 (ip.r) (jy) ?_|refine ag call61 (ip.r) (hi▸dq _ _) ?_|refine ag call241 (ip.r) (dY (p:=fun v=>v.kind==0) _ call242 fun v _=>eS v) ?_|refine ag call243 (ip.r) (lQ _ _ _ Z Z) ?_)|(show V _ _ _ _ _;first|refine al ?_|refine ah ?_|refine aE ?_|refine bj Z ?_|refine aG ?_|refine el ?_|refine bd Z ?_|refine aY Z (fun h=>?_) (fun h=>?_)))
    all_goals refine cL U (PLe.q ?_)
    all_goals simp_all[cg,dh,LVal.nul]
   ·repeat' (first|(show Ao _ _ _ _ _;first|refine aD U Z ?_|refine ao ?_|refine aK U ?_|refine ag call239 (ip.r) (jy) ?_|refine ag call61 (ip.r) (hi▸dq _ _) ?_|refine ag call241 (ip.r) (dY (p:=fun v=>v.kind==0) _ call242 fun v _=>eS v) ?_)|(show V _ _ _ _ _;first|refine al ?_|refine ah ?_|refine aE ?_|refine bj Z ?_|refine aG ?_|refine el ?_|refine bd Z ?_|refine aY Z (fun h=>?_) (fun h=>?_)))
    all_goals try(exfalso;simp_all;omega)
    all_goals refine cL U (PLe.q ?_)
    all_goals (have:cg [61] L= .nul:=by simp[cg,dh];omega)
    all_goals (rw[this];rfl)
  ·have hi:aL (fun x=>[60]==x) eK=4:=by rfl
   by_cases hl:L.length=2
   ·obtain⟨a,b,rfl⟩:=ke hl
    repeat' (first|(show Ao _ _ _ _ _;first|refine aD U Z ?_|refine ao ?_|refine aK U ?_|refine ag call239 (ip.r) (jy) ?_|refine ag call61 (ip.r) (hi▸dq _ _) ?_|refine ag call241 (ip.r) (dY (p:=fun v=>v.kind==0) _ call242 fun v _=>eS v) ?_|refine ag call243 (ip.r) (lQ _ _ _ Z Z) ?_)|(show V _ _ _ _ _;first|refine al ?_|refine ah ?_|refine aE ?_|refine bj Z ?_|refine aG ?_|refine el ?_|refine bd Z ?_|refine aY Z (fun h=>?_) (fun h=>?_)))
    all_goals refine cL U (PLe.q ?_)
    all_goals simp_all[cg,dh,LVal.nul]
   ·repeat' (first|(show Ao _ _ _ _ _;first|refine aD U Z ?_|refine ao ?_|refine aK U ?_|refine ag call239 (ip.r) (jy) ?_|refine ag call61 (ip.r) (hi▸dq _ _) ?_|refine ag call241 (ip.r) (dY (p:=fun v=>v.kind==0) _ call242 fun v _=>eS v) ?_)|(show V _ _ _ _ _;first|refine al ?_|refine ah ?_|refine aE ?_|refine bj Z ?_|refine aG ?_|refine el ?_|refine bd Z ?_|refine aY Z (fun h=>?_) (fun h=>?_)))
    all_goals try(exfalso;simp_all;omega)
    all_goals refine cL U (PLe.q ?_)
    all_goals (have:cg [60] L= .nul:=by simp[cg,dh];omega)
    all_goals (rw[this];rfl)
  ·have hi:aL (fun x=>[60,61]==x) eK=5:=by rfl
   by_cases hl:L.length=2
   ·obtain⟨a,b,rfl⟩:=ke hl
    repeat' (first|(show Ao _ _ _ _ _;first|refine aD U Z ?_|refine ao ?_|refine aK U ?_|refine ag call239 (ip.r) (jy) ?_|refine ag call61 (ip.r) (hi▸dq _ _) ?_|refine ag call241 (ip.r) (dY (p:=fun v=>v.kind==0) _ call242 fun v _=>eS v) ?_|refine ag call243 (ip.r) (lQ _ _ _ Z Z) ?_)|(show V _ _ _ _ _;first|refine al ?_|refine ah ?_|refine aE ?_|refine bj Z ?_|refine aG ?_|refine el ?_|refine bd Z ?_|refine aY Z (fun h=>?_) (fun h=>?_)))
    all_goals refine cL U (PLe.q ?_)
    all_goals simp_all[cg,dh,LVal.nul]
   ·repeat' (first|(show Ao _ _ _ _ _;first|refine aD U Z ?_|refine ao ?_|refine aK U ?_|refine ag call239 (ip.r) (jy) ?_|refine ag call61 (ip.r) (hi▸dq _ _) ?_|refine ag call241 (ip.r) (dY (p:=fun v=>v.kind==0) _ call242 fun v _=>eS v) ?_)|(show V _ _ _ _ _;first|refine al ?_|refine ah ?_|refine aE ?_|refine bj Z ?_|refine aG ?_|refine el ?_|refine bd Z ?_|refine aY Z (fun h=>?_) (fun h=>?_)))
    all_goals try(exfalso;simp_all;omega)
    all_goals refine cL U (PLe.q ?_)
    all_goals (have:cg [60,61] L= .nul:=by simp[cg,dh];omega)
    all_goals (rw[this];rfl)
  ·have hi:aL (fun x=>[97,110,100]==x) eK=6:=by rfl
   by_cases hl:L.length=2
   ·obtain⟨a,b,rfl⟩:=ke hl
    repeat' (first|(show Ao _ _ _ _ _;first|refine aD U Z ?_|refine ao ?_|refine ag call239 (ip.r) (jy) ?_|refine ag call61 (ip.r) (hi▸dq _ _) ?_)|(show V _ _ _ _ _;first|refine al ?_|refine ah ?_|refine aE ?_|refine bO Z ?_|refine bj Z ?_|refine aG ?_|refine bd Z ?_|(show V _ _ _ (.code (.region 19 _ true)::_) _;refine iA U mok ⟨false,false,[]⟩ [0,1,2,3,4,5,6,7] Z (by decide+kernel) Z ?_))|(show Do _ _ _ _ _ _ _;first|refine jm Z ?_|refine dE ?_|refine ib Z Z Z Z Z Z Z Z Z Z Z Z ?_|refine bI call240 (ip.r) (bothV_spec _ _ _) ?_))
    all_goals refine cL U (PLe.q ?_)
    all_goals simp_all[cg,dh,LVal.nul]
   ·repeat' (first|(show Ao _ _ _ _ _;first|refine aD U Z ?_|refine ao ?_|refine aK U ?_|refine ag call239 (ip.r) (jy) ?_|refine ag call61 (ip.r) (hi▸dq _ _) ?_)|(show V _ _ _ _ _;first|refine al ?_|refine ah ?_|refine aE ?_|refine bO Z ?_|refine bj Z ?_|refine aG ?_|refine bd Z ?_|(show V _ _ _ (.code (.region 19 _ true)::_) _;refine iA U mok ⟨false,false,[]⟩ [0,1,2,3,4,5,6,7] Z (by decide+kernel) Z ?_)|refine aY Z (fun h=>?_) (fun h=>?_))|(show Do _ _ _ _ _ _ _;first|refine jm Z ?_))
    all_goals try(exfalso;simp_all;omega)
    all_goals refine cL U (PLe.q ?_)
    all_goals (have:cg [97,110,100] L= .nul:=by simp[cg,dh];omega)
    all_goals (rw[this];rfl)
  ·have hi:aL (fun x=>[111,114]==x) eK=7:=by rfl
   by_cases hl:L.length=2
   ·obtain⟨a,b,rfl⟩:=ke hl
    repeat' (first|(show Ao _ _ _ _ _;first|refine aD U Z ?_|refine ao ?_|refine ag call239 (ip.r) (jy) ?_|refine ag call61 (ip.r) (hi▸dq _ _) ?_)|(show V _ _ _ _ _;first|refine al ?_|refine ah ?_|refine aE ?_|refine bO Z ?_|refine bj Z ?_|refine aG ?_|refine bd Z ?_|(show V _ _ _ (.code (.region 21 _ true)::_) _;refine iA U mok ⟨false,false,[]⟩ [0,1,2,3,4,5,6,7] Z (by decide+kernel) Z ?_))|(show Do _ _ _ _ _ _ _;first|refine jm Z ?_|refine dE ?_|refine ib Z Z Z Z Z Z Z Z Z Z Z Z ?_|refine bI call240 (ip.r) (bothV_spec _ _ _) ?_))
    all_goals refine cL U (PLe.q ?_)
    all_goals simp_all[cg,dh,LVal.nul]
   ·repeat' (first|(show Ao _ _ _ _ _;first|refine aD U Z ?_|refine ao ?_|refine aK U ?_|refine ag call239 (ip.r) (jy) ?_|refine ag call61 (ip.r) (hi▸dq _ _) ?_)|(show V _ _ _ _ _;first|refine al ?_|refine ah ?_|refine aE ?_|refine bO Z ?_|refine bj Z ?_|refine aG ?_|refine bd Z ?_|(show V _ _ _ (.code (.region 21 _ true)::_) _;refine iA U mok ⟨false,false,[]⟩ [0,1,2,3,4,5,6,7] Z (by decide+kernel) Z ?_)|refine aY Z (fun h=>?_) (fun h=>?_))|(show Do _ _ _ _ _ _ _;first|refine jm Z ?_))
    all_goals try(exfalso;simp_all;omega)
    all_goals refine cL U (PLe.q ?_)
    all_goals (have:cg [111,114] L= .nul:=by simp[cg,dh];omega)
    all_goals (rw[this];rfl)
  ·have hi:aL (fun x=>[110,111,116]==x) eK=8:=by rfl
   by_cases hl:L.length=1
   ·obtain⟨a,rfl⟩:=List.length_eq_one_iff.1 hl
    repeat' (first|(show Ao _ _ _ _ _;first|refine aD U Z ?_|refine ao ?_|refine aK U ?_|refine ag call239 (ip.r) (jy) ?_|refine ag call61 (ip.r) (hi▸dq _ _) ?_|refine ag call241 (ip.r) (dY (p:=fun v=>v.kind==0) _ call242 fun v _=>eS v) ?_|refine uc (g:=243) Z Z Z call243 (ip.r) (wi _ _ (by simp)) Z ?_)|(show V _ _ _ _ _;first|refine al ?_|refine ah ?_|refine aE ?_|refine bj Z ?_|refine aG ?_|refine el ?_|refine bd Z ?_|refine aY Z (fun h=>?_) (fun h=>?_)))
    all_goals refine cL U (PLe.q ?_)
    all_goals simp_all[cg,dh,LVal.nul]
   ·repeat' (first|(show Ao _ _ _ _ _;first|refine aD U Z ?_|refine ao ?_|refine aK U ?_|refine ag call239 (ip.r) (jy) ?_|refine ag call61 (ip.r) (hi▸dq _ _) ?_|refine ag call241 (ip.r) (dY (p:=fun v=>v.kind==0) _ call242 fun v _=>eS v) ?_)|(show V _ _ _ _ _;first|refine al ?_|refine ah ?_|refine aE ?_|refine bj Z ?_|refine aG ?_|refine el ?_|refine bd Z ?_|refine aY Z (fun h=>?_) (fun h=>?_)))
    all_goals try(exfalso;simp_all;omega)
    all_goals refine cL U (PLe.q ?_)
    all_goals (have:cg [110,111,116] L= .nul:=by simp[cg,dh];omega)
    all_goals (rw[this];rfl)
  ·have hi:aL (fun x=>[124,124]==x) eK=9:=by rfl
   by_cases hl:L.length=2
   ·obtain⟨a,b,rfl⟩:=ke hl
    repeat' (first|(show Ao _ _ _ _ _;first|refine aD U Z ?_|refine ao ?_|refine aK U ?_|refine ag call239 (ip.r) (jy) ?_|refine ag call61 (ip.r) (hi▸dq _ _) ?_|refine ag call241 (ip.r) (dY (p:=fun v=>v.kind==0) _ call242 fun v _=>eS v) ?_|refine ag call243 (ip.r) (lQ _ _ _ Z Z) ?_)|(show V _ _ _ _ _;first|refine al ?_|refine ah ?_|refine aE ?_|refine bj Z ?_|refine aG ?_|refine el ?_|refine bd Z ?_|refine aY Z (fun h=>?_) (fun h=>?_)))
    all_goals refine cL U (PLe.q ?_)
    all_goals simp_all[cg,dh,LVal.nul]
   ·repeat' (first|(show Ao _ _ _ _ _;first|refine aD U Z ?_|refine ao ?_|refine aK U ?_|refine ag call239 (ip.r) (jy) ?_|refine ag call61 (ip.r) (hi▸dq _ _) ?_|refine ag call241 (ip.r) (dY (p:=fun v=>v.kind==0) _ call242 fun v _=>eS v) ?_)|(show V _ _ _ _ _;first|refine al ?_|refine ah ?_|refine aE ?_|refine bj Z ?_|refine aG ?_|refine el ?_|refine bd Z ?_|refine aY Z (fun h=>?_) (fun h=>?_)))
    all_goals try(exfalso;simp_all;omega)
    all_goals refine cL U (PLe.q ?_)
    all_goals (have:cg [124,124] L= .nul:=by simp[cg,dh];omega)
    all_goals (rw[this];rfl)
  ·have hi:aL (fun x=>[105,115,32,110,117,108,108]==x) eK=10:=by rfl
   by_cases hl:L.length=1
   ·obtain⟨a,rfl⟩:=List.length_eq_one_iff.1 hl
    repeat' (first|(show Ao _ _ _ _ _;first|refine aD U Z ?_|refine ao ?_|refine aK U ?_|refine ag call239 (ip.r) (jy) ?_|refine ag call61 (ip.r) (hi▸dq _ _) ?_|refine ag call25 (ip.r) (pq _) ?_)|(show V _ _ _ _ _;first|refine al ?_|refine ah ?_|refine aE ?_|refine bO Z ?_|refine bj Z ?_|refine aG ?_|refine bd Z ?_))
    all_goals refine cL U (PLe.q ?_)
    all_goals simp_all[cg,dh,LVal.nul]
   ·repeat' (first|(show Ao _ _ _ _ _;first|refine aD U Z ?_|refine ao ?_|refine aK U ?_|refine ag call239 (ip.r) (jy) ?_|refine ag call61 (ip.r) (hi▸dq _ _) ?_)|(show V _ _ _ _ _;first|refine al ?_|refine ah ?_|refine aE ?_|refine bO Z ?_|refine aG ?_|refine bd Z ?_|refine aY Z (fun h=>?_) (fun h=>?_)))
    all_goals try(exfalso;simp_all;omega)
    all_goals refine cL U (PLe.q ?_)
    all_goals (have:cg [105,115,32,110,117,108,108] L= .nul:=by simp[cg,dh];omega)
    all_goals (rw[this];rfl)
  ·have hi:aL (fun x=>[108,101,110,103,116,104]==x) eK=11:=by rfl
   by_cases hl:L.length=1
   ·obtain⟨a,rfl⟩:=List.length_eq_one_iff.1 hl
    repeat' (first|(show Ao _ _ _ _ _;first|refine aD U Z ?_|refine ao ?_|refine aK U ?_|refine ag call239 (ip.r) (jy) ?_|refine ag call61 (ip.r) (hi▸dq _ _) ?_|refine ag call241 (ip.r) (dY (p:=fun v=>v.kind==0) _ call242 fun v _=>eS v) ?_|refine uc (g:=243) Z Z Z call243 (ip.r) (wi _ _ (by simp)) Z ?_)|(show V _ _ _ _ _;first|refine al ?_|refine ah ?_|refine aE ?_|refine bj Z ?_|refine aG ?_|refine el ?_|refine bd Z ?_|refine aY Z (fun h=>?_) (fun h=>?_)))
    all_goals refine cL U (PLe.q ?_)
    all_goals simp_all[cg,dh,LVal.nul]
   ·repeat' (first|(show Ao _ _ _ _ _;first|refine aD U Z ?_|refine ao ?_|refine aK U ?_|refine ag call239 (ip.r) (jy) ?_|refine ag call61 (ip.r) (hi▸dq _ _) ?_|refine ag call241 (ip.r) (dY (p:=fun v=>v.kind==0) _ call242 fun v _=>eS v) ?_)|(show V _ _ _ _ _;first|refine al ?_|refine ah ?_|refine aE ?_|refine bj Z ?_|refine aG ?_|refine el ?_|refine bd Z ?_|refine aY Z (fun h=>?_) (fun h=>?_)))
    all_goals try(exfalso;simp_all;omega)
    all_goals refine cL U (PLe.q ?_)
    all_goals (have:cg [108,101,110,103,116,104] L= .nul:=by simp[cg,dh];omega)
    all_goals (rw[this];rfl)
  ·have hi:aL (fun x=>[105,102]==x) eK=12:=by rfl
   by_cases hl:L.length=3
   ·obtain⟨a,b,c,rfl⟩:=len3 hl
    repeat' (first|(show Ao _ _ _ _ _;first|refine aD U Z ?_|refine ao ?_|refine aK U ?_|refine ag call239 (ip.r) (jy) ?_|refine ag call61 (ip.r) (hi▸dq _ _) ?_|refine ag call125 (ip.r) (isTS _) ?_)|(show V _ _ _ _ _;first|refine al ?_|refine ah ?_|refine aE ?_|refine bO Z ?_|refine bj Z ?_|refine aG ?_|refine bd Z ?_|refine aY Z (fun h=>?_) (fun h=>?_)))
    all_goals refine cL U (PLe.q ?_)
    all_goals simp_all[cg,dh,LVal.nul]
   ·repeat' (first|(show Ao _ _ _ _ _;first|refine aD U Z ?_|refine ao ?_|refine aK U ?_|refine ag call239 (ip.r) (jy) ?_|refine ag call61 (ip.r) (hi▸dq _ _) ?_)|(show V _ _ _ _ _;first|refine al ?_|refine ah ?_|refine aE ?_|refine bO Z ?_|refine bj Z ?_|refine aG ?_|refine bd Z ?_|refine aY Z (fun h=>?_) (fun h=>?_)))
    all_goals try(exfalso;simp_all;omega)
    all_goals refine cL U (PLe.q ?_)
    all_goals (have:cg [105,102] L= .nul:=by simp[cg,dh];omega)
    all_goals (rw[this];rfl)
 have hi:aL (fun x=>name==x) eK=-1:=lK fun x hx=>by
  cases hb:name==x with
  |false=>rfl
  |true=>exact absurd (by rw[eq_of_beq hb];exact hx) hn
 repeat' (first|(show Ao _ _ _ _ _;first|refine aD U Z ?_|refine ao ?_|refine aK U ?_|refine ag call239 (ip.r) (jy) ?_|refine ag call61 (ip.r) (hi▸dq _ _) ?_)|(show V _ _ _ _ _;first|refine al ?_|refine ah ?_|refine bO Z ?_|refine bd Z ?_))
 all_goals refine cL U (PLe.q ?_)
 have:dh name=none:=by
  simp only[eK,List.mem_cons,List.mem_nil_iff,or_false,not_or]at hn;simp[dh,hn]
 have:cg name L= .nul:=by simp[cg,this]
 rw[this];rfl
theorem colName_spec(c:LCol)(e:LExpr):aC prog 213 [pcol c,.ptr (jl e)] (az (c.name==e.name)):=by
 refine PH.ak func213 ntmps213 ?_
 repeat' (first|(show Ao _ _ _ _ _;first|refine aD U Z ?_|refine ao ?_|refine bC ?_)|(show V _ _ _ _ _;first|refine al ?_|refine ah ?_))
 all_goals refine ed U (PLe.q Z)
theorem getVal{l:Rq}{j:Int}(h0:0<=j)(h:j<((l.map ab).length:Int)):(l.map ab)[j.toNat]? =some (ab (l.getD j.toNat .nul)):=by
 simp at h
 have:j.toNat<l.length:=by omega
 simp[this]
theorem evalE_eq(v:LEnv)(e:LExpr):er v e=
  if e.kind==1 then e.value
  else if e.kind==2 then(if 0<=aL (fun c:LCol=>c.name==e.name) v.cols/\aL (fun c:LCol=>c.name==e.name) v.cols<v.row.length then v.row.getD (aL (fun c:LCol=>c.name==e.name) v.cols).toNat .nul else .nul)
  else if e.kind==3 then(if 0<=e.index/\e.index<v.params.length/\(v.params.getD e.index.toNat .nul).kind=e.value.kind then v.params.getD e.index.toNat .nul else .nul)
  else if e.kind==4 then(if 0<=aL (fun s:Rb=>e.name==s) v.vnames/\aL (fun s:Rb=>e.name==s) v.vnames<v.vvals.length then v.vvals.getD (aL (fun s:Rb=>e.name==s) v.vnames).toNat .nul else .nul)
  else if e.kind==5 then cg e.name (e.args.map (er v))
  else .nul:=by
 cases e;rw[er,evalEs_map];rfl
theorem evalStep(v:LEnv)(e:LExpr)(ih:∀a∈e.args,aC prog 165 [penv v,mT a] (me (er v a))):
  aC prog 165 [penv v,mT e] (me (er v e)):=by
 refine PH.ak func165 ntmps165 ?_
 repeat' (first|(show Ao _ _ _ _ _;first|refine aD U Z ?_|refine ao ?_|refine bC ?_|(refine iD U Z Z Z Z Z Z ?_;intro bk)|refine aK U ?_|refine ag call170 (ip.r) (indexCol (p:=fun c=>c.name==e.name) _ call213 fun c _=>colName_spec c e) ?_|refine ag call61 (ip.r) (dq _ _) ?_|refine ag call214 (ip.r) (reckon_spec v e ih) ?_|refine qx U Z Z Z Z Z Z (of_decide_eq_true (by assumption)) (getVal (of_decide_eq_true (by assumption)) (of_decide_eq_true (by assumption))) Z ?_|((fail_if_success refine iu Z ?_);refine iV Z Z Z (fun h=>?_) (fun h=>?_)))|(show V _ _ _ _ _;first|refine al ?_|refine ah ?_|refine aE ?_|refine bj Z ?_|refine aG ?_|refine el ?_|(show V _ _ _ (.code (.region 9 _ true)::_) _;refine iA U mok ⟨false,false,[]⟩ [0,1,2,3,4,5,6,7,8,9,10,11,12,13,14,15,16,17,18,19,20,21,22,23] Z (by decide+kernel) Z ?_)|refine aY Z (fun h=>?_) (fun h=>?_))|(show Do _ _ _ _ _ _ _;first|refine jm Z ?_|refine dE ?_|refine wW Z Z Z Z Z Z Z (of_decide_eq_true (by assumption)) (getVal (of_decide_eq_true (by assumption)) (of_decide_eq_true (by assumption))) Z ?_|((fail_if_success refine oK Z Z ?_);refine pI Z Z Z Z (fun h=>?_) (fun h=>?_))))
 all_goals refine cL U (PLe.q ?_)
 all_goals rw[evalE_eq]
 all_goals simp_all[LVal.nul]
 all_goals rw[zy (by omega)]
 all_goals exact⟨rfl,rfl,rfl⟩
theorem oB(v:LEnv):∀e:LExpr,aC prog 165 [penv v,mT e] (me (er v e))
 | .mk k n i x args=>evalStep v (.mk k n i x args) fun a ha=>by
  have ha':a∈args:=ha;exact oB v a
def lit(v:LVal):LExpr:= .mk 1 [] 0 v []
def pP(acc r:Int×Int):Int×Int:=(wr (acc.1+r.1),if r.2>acc.2 then r.2 else acc.2)
mutual
def kK:LExpr->Int×Int
 | .mk _ _ _ _ args=>let r:=(sizesE args).foldl pP (1,0);(r.1,wr (r.2+1))
def sizesE:List LExpr->List (Int×Int)
 |[]=>[]
 |e::r=>kK e::sizesE r
end
theorem sizesE_map:∀l,sizesE l=l.map kK
 |[]=>rfl
 |e::r=>by simp[sizesE,sizesE_map r]
theorem sizeE_eq(e:LExpr):kK e=(((e.args.map kK).foldl pP (1,0)).1,wr (((e.args.map kK).foldl pP (1,0)).2+1)):=by
 cases e;rw[kK,sizesE_map];rfl
theorem foldl_take{α β:Type}(g:β->α->β)(z:β){l:List α}{j:Nat}(h:j<l.length):(l.take (j+1)).foldl g z=g ((l.take j).foldl g z) l[j]:=by
 rw[List.take_add_one,ze h,List.foldl_append];rfl
theorem sizeStep_spec(e:LExpr)(ih:∀a∈e.args,aC prog 180 [mT a] (.tup [ac (kK a).1,ac (kK a).2])):
  aC prog 180 [mT e] (.tup [ac (kK e).1,ac (kK e).2]):=by
 refine PH.ak func180 ntmps180 ?_
 repeat(first|refine aD U Z ?_|refine ao ?_|refine al ?_|refine ah ?_|refine aG ?_|refine bC ?_)
 refine jc U 11 Z Z fun hl _=>?_
 rw[zl]at hl
 refine mJ (X:=Nat) (fun j=>⟨32,upd (upd (upd (upd (upd (fun _=>.any) 5 (ac (((e.args.map kK).take j).foldl pP (1,0)).2)) 4 (ac (((e.args.map kK).take j).foldl pP (1,0)).1)) 11 (pexprs e.args)) 12 (ac (e.args.map eJ).length)) 13 (ac j),fun _=>none,fun _=>none⟩)
  (fun j=>j<=e.args.length) (fun j=>e.args.length-j) 0 (Nat.zero_le _) (Gh.le (aq (aq (aq (aq (aq bm))))) aV aU) ?_
 intro j hj
 repeat(first|refine aD U Z ?_|refine ao ?_|refine al ?_|refine ah ?_)
 refine aY Z (fun h=>?_) (fun h=>?_)
 ·have hlt:j<e.args.length:=by simpa using h
  repeat(first|refine al ?_|refine ah ?_|refine aE ?_|refine aG ?_)
  refine aW U (zn j) (getExpr hlt) ?_
  repeat(first|refine aD U Z ?_|refine ao ?_|refine al ?_|refine ah ?_|refine iQ U ?_|(refine iD U Z Z Z Z Z Z ?_;intro bk)|refine aK U ?_)
  refine ag call180 (ip.r) (ih _ (List.getElem_mem hlt)) ?_
  repeat(first|refine aD U Z ?_|refine ao ?_|refine ah ?_|refine el ?_)
  have e1:=foldl_take pP (1,0) (l:=e.args.map kK) (j:=j) (by simpa using hlt);rw[List.getElem_map]at e1;refine nq (j+1) (by omega) hlt (Gh.le (bh (PLe.q (fG (by omega))) (aq (aq (bh (PLe.q (by rw[e1];rfl)) (bh (PLe.q (by rw[e1];rfl)) bm))))) aV aU)
 have hge : j = e.args.length := by have : ¬ j < e.args.length := by simpa using h
                                    omega
 subst hge;rw[show(e.args.map kK).take e.args.length=e.args.map kK from by rw[List.take_of_length_le];simp]
 repeat(first|refine aD U Z ?_|refine ao ?_|refine al ?_|refine ah ?_|refine bd Z ?_)
 refine xA U Z Z Z (PLe.q ?_);rw[sizeE_eq];rfl
theorem size_spec:∀e:LExpr,aC prog 180 [mT e] (.tup [ac (kK e).1,ac (kK e).2])
 | .mk k n i x args=>sizeStep_spec (.mk k n i x args) fun a ha=>by
  have ha':a∈args:=ha;exact size_spec a
def rK(c:UInt8):Bool:=(decide ((c.toNat:Int)>=97)&&decide ((c.toNat:Int)<=122))||(decide ((c.toNat:Int)>=48)&&decide ((c.toNat:Int)<=57))
theorem inner_spec(c:UInt8):aC prog 174 [.val (.int .u8 c.toNat)] (az (rK c)):=by
 refine PH.ak func174 ntmps174 ?_
 repeat' (first|(show Ao _ _ _ _ _;first|refine aD U Z ?_|refine ao ?_|((fail_if_success refine iu Z ?_);refine iV Z Z Z (fun h=>?_) (fun h=>?_)))|(show V _ _ _ _ _;first|refine al ?_|refine ah ?_))
 all_goals refine ed U (PLe.q ?_)
 all_goals simp_all[rK]
 all_goals omega
theorem colIs_spec(c:LCol)(name:Rb):aC prog 248 [pcol c,.ptr [.str name]] (az (c.name==name)):=by
 refine PH.ak func248 ntmps248 ?_
 repeat' (first|(show Ao _ _ _ _ _;first|refine aD U Z ?_|refine ao ?_|refine bC ?_)|(show V _ _ _ _ _;first|refine al ?_|refine ah ?_))
 all_goals refine ed U (PLe.q Z)
def findV(l:List LCol)(name:Rb):LCol×Bool:=
 let i:=aL (fun c:LCol=>c.name==name) l
 if i<0 then(⟨[],0,false⟩,false)else(l.getD i.toNat ⟨[],0,false⟩,true)
theorem getCol{l:List LCol}{j:Int}(h0:0<=j)(h:j<l.length):(l.map ap)[j.toNat]? =some (ap (l.getD j.toNat ⟨[],0,false⟩)):=by
 have:j.toNat<l.length:=by omega
 simp[this]
theorem idxOf_lt{α:Type}{p:α->Bool}{l:List α}:aL p l<l.length:=by
 simp only[aL];split
 ·rename_i i h
  have:=(List.findIdx?_eq_some_iff_getElem.1 h).1
  omega
 ·omega
theorem find_spec(l:List LCol)(name:Rb):aC prog 222 [lW l,.str name] (.tup [pcol (findV l name).1,az (findV l name).2]):=by
 refine PH.ak func222 ntmps222 ?_
 repeat' (first|(show Ao _ _ _ _ _;first|refine aD U Z ?_|refine ao ?_|refine bC ?_|(refine iD U Z Z Z Z Z Z ?_;intro bk)|refine aK U ?_|refine ag call170 (ip.r) (indexCol (p:=fun c=>c.name==name) _ call248 fun c _=>colIs_spec c name) ?_|refine qx U Z Z Z Z Z Z (Int.not_lt.1 (of_decide_eq_false (by assumption))) (getCol (Int.not_lt.1 (of_decide_eq_false (by assumption))) idxOf_lt) Z ?_)|(show V _ _ _ _ _;first|refine al ?_|refine ah ?_|refine aE ?_|refine aY Z (fun h=>?_) (fun h=>?_)))
 all_goals refine V.retCT U Z Z Z Z Z Z (PLe.q ?_)
 all_goals simp_all[findV]
 all_goals rw[zy (by omega)]
 all_goals exact⟨⟨rfl,rfl,rfl⟩,rfl⟩
def eE(s:Rb):Bool:=decide (1<=s.length)&&decide (s.length<=12)&&(match s with|[]=>false|c::_=>decide (c.toNat>=97)&&decide (c.toNat<=122))&&s.all rK
theorem idxStrAt{l:Rb}{j:Nat}(h:j<l.length):l[((j:Nat):Int).toNat]? =some l[j]:=by simp[h]
theorem mR(s:Rb):aC prog 117 [.str s] (az (eE s)):=by
 cases s with
 |nil=>
  refine PH.ak func117 ntmps117 ?_
  repeat' (first|(show Ao _ _ _ _ _;first|refine aD U Z ?_|refine ao ?_)|(show V _ _ _ _ _;first|refine al ?_|refine ah ?_|refine bO Z ?_))
  all_goals refine ed U (PLe.q Z)
 |cons c s=>
  refine PH.ak func117 ntmps117 ?_;refine V.strF 0 Z fun hl=>?_
  repeat' (first|(show Ao _ _ _ _ _;first|refine aD U Z ?_|refine ao ?_|((fail_if_success refine iu Z ?_);refine iV Z Z Z (fun h=>?_) (fun h=>?_)))|(show V _ _ _ _ _;first|refine al ?_|refine ah ?_|refine aE ?_|refine bO Z ?_|refine aG ?_|refine aY Z (fun h=>?_) (fun h=>?_)))
  case cons.refine_1=>
   refine ed U (PLe.q ?_)
   have:¬(c::s).length<=12:=by simp only[decide_eq_true_eq]at h;omega
   have:eE (c::s)=false:=by simp only[eE,this];simp
   rw[this]
  case cons.refine_2.refine_1=>
   refine ed U (PLe.q ?_)
   have:¬c.toNat>=97:=by simp only[decide_eq_true_eq]at h;omega
   simp[eE,this]
  case cons.refine_2.refine_2.refine_1=>
   refine ed U (PLe.q ?_)
   have:¬c.toNat<=122:=by simp only[decide_eq_true_eq]at h;omega
   simp[eE,this]
  rename_i h1 h2
  have hs:eE (c::s)=(c::s).all rK:=by
   simp only[decide_eq_false_iff_not]at h1 h2 h;have e1:(c::s).length<=12:=by omega
   have e2:c.toNat>=97:=by omega
   have e3:c.toNat<=122:=by omega
   simp only[eE,e1,e2,e3];simp
  rw[hs];clear hs h h1 h2;generalize hL:c::s=L at*
  refine mJ (X:=Nat) (fun j=>⟨33,upd (upd (upd (fun _=>.any) 0 (.str L)) 23 (ac L.length)) 24 (ac j),fun _=>none,fun _=>none⟩)
   (fun j=>j<=L.length/\∀x∈L.take j,rK x=true) (fun j=>L.length-j) 0 ⟨Nat.zero_le _,by simp⟩ (Gh.le (aq (aq (aq bm))) aV aU) ?_
  rintro j ⟨hj,hpre⟩
  repeat(first|refine aD U Z ?_|refine ao ?_|refine al ?_|refine ah ?_)
  refine aY Z (fun h=>?_) (fun h=>?_)
  ·have hlt:j<L.length:=by simpa using h
   repeat(first|refine aD U Z ?_|refine ao ?_|refine al ?_|refine ah ?_|refine aE ?_|refine aG ?_)
   refine wT U Z Z Z Z Z Z (zn j) (idxStrAt hlt) Z ?_
   skip
   refine ag call174 (ip.r) (inner_spec _) ?_
   repeat(first|refine aD U Z ?_|refine ao ?_)
   refine aY Z (fun h=>?_) (fun h=>?_)
   ·repeat(first|refine aD U Z ?_|refine ao ?_|refine al ?_|refine ah ?_)
    refine ed U (PLe.q ?_)
    have:L.all rK=false:=by
     rw[List.all_eq_false]
     exact⟨L[j],List.getElem_mem hlt,by simpa using h⟩
    rw[this]
   ·repeat(first|refine aD U Z ?_|refine ao ?_|refine ah ?_|refine aE ?_|refine el ?_)
    refine nq (j+1) (by omega) ⟨hlt,?_⟩ (Gh.le (bh (PLe.q (fG (by unfold maxLen;unfold jO at hl;omega))) (aq (aq bm))) aV aU);intro x hx;rw[List.take_add_one,ze hlt]at hx;simp only[Option.toList,List.mem_append,List.mem_singleton]at hx;rcases hx with hx|rfl
    ·exact hpre x hx
    ·simpa using h
  have hge : j = L.length := by have : ¬ j < L.length := by simpa using h
                                omega
  repeat(first|refine aD U Z ?_|refine ao ?_|refine al ?_|refine ah ?_|refine bd Z ?_)
  refine ed U (PLe.q ?_)
  have:L.all rK=true:=by
   rw[List.all_eq_true];rw[hge]at hpre;simpa using hpre
  rw[this]
abbrev KR:=Int×Bool×Int
abbrev pkr(r:KR):PV:= .tup [ac r.1,az r.2.1,ac r.2.2]
def qB(kind:Int)(nullable ok:Bool):KR:=if ok then(kind,nullable,0)else(0,false,7)
theorem ir(kind:Int)(nullable ok:Bool):aC prog 253 [ac kind,az nullable,az ok] (pkr (qB kind nullable ok)):=by
 refine PH.ak func253 ntmps253 ?_
 repeat' (first|(show Ao _ _ _ _ _;first|refine aD U Z ?_|refine ao ?_)|(show V _ _ _ _ _;first|refine al ?_|refine ah ?_|refine aE ?_|refine aY Z (fun h=>?_) (fun h=>?_)))
 all_goals refine gJ U (PLe.q ?_)
 all_goals simp_all[qB]
def alikeB(a b:Int):Bool:=a==b||a==0||b==0
theorem ra(a b:Int):aC prog 252 [ac a,ac b] (az (alikeB a b)):=by
 refine PH.ak func252 ntmps252 ?_
 repeat' (first|(show Ao _ _ _ _ _;first|refine aD U Z ?_|refine ao ?_|((fail_if_success refine iu Z ?_);refine iV Z Z Z (fun h=>?_) (fun h=>?_)))|(show V _ _ _ _ _;first|refine al ?_|refine ah ?_))
 all_goals refine ed U (PLe.q ?_)
 all_goals simp_all[alikeB]
theorem allOf1_spec(n want:Int):aC prog 251 [ac n,.ptr [ac want]] (az (n !=want&&n !=0)):=by
 refine PH.ak func251 ntmps251 ?_
 repeat' (first|(show Ao _ _ _ _ _;first|refine aD U Z ?_|refine ao ?_|((fail_if_success refine iu Z ?_);refine iV Z Z Z (fun h=>?_) (fun h=>?_)))|(show V _ _ _ _ _;first|refine al ?_|refine ah ?_))
 all_goals refine ed U (PLe.q ?_)
 all_goals simp_all
def allOf(want:Int)(l:List Int):Bool:= !(l.any fun n=>n !=want&&n !=0)
theorem lC(want:Int)(l:List Int):aC prog 249 [ac want,.ptr [pints l]] (az (allOf want l)):=by
 refine PH.ak func249 ntmps249 ?_
 repeat' (first|(show Ao _ _ _ _ _;first|refine aD U Z ?_|refine ao ?_|refine bC ?_|refine ag call250 (ip.r) (containsInt (p:=fun n=>n !=want&&n !=0) l call251 fun n _=>allOf1_spec n want) ?_)|(show V _ _ _ _ _;first|refine al ?_|refine ah ?_))
 all_goals refine ed U (PLe.q Z)
def mQ(x:Int):KR:=(0,false,x)
def kw(name:Rb)(kinds:List Int)(nullable:Bool):KR:=
 if name==[43]||name==[45]||name==[42]then qB 1 true (allOf 1 kinds)
 else if name==[124,124]then qB 3 true (allOf 3 kinds)
 else if name==[108,101,110,103,116,104]then qB 1 nullable (allOf 3 kinds)
 else if name==[97,110,100]||name==[111,114]||name==[110,111,116]then qB 2 nullable (allOf 2 kinds)
 else if name==[105,115,32,110,117,108,108]then(2,false,0)
 else if name==[105,102]then qB (if kinds.getD 2 0>kinds.getD 1 0 then kinds.getD 2 0 else kinds.getD 1 0) nullable (alikeB (kinds.getD 0 0) 2&&alikeB (kinds.getD 1 0) (kinds.getD 2 0))
 else qB 2 nullable (alikeB (kinds.getD 0 0) (kinds.getD 1 0))
def nw(name:Rb)(i:Int)(x:LVal)(ks:List KR):KR:=
 if dh name≠some ks.length\/i≠0\/x≠ .nul then mQ 3
 else match ks.find? fun r=>r.2.2 !=0 with
  |some r=>mQ r.2.2
  |none=>kw name (ks.map (·.1)) (ks.any (·.2.1))
mutual
def gI(cols vars:List LCol):LExpr->KR
 | .mk k n i x args=>
  if k≠5/\0<args.length then mQ 3
  else if k==1 then(if kY x&&n==[]&&i==0 then(x.kind,x.kind==0,0)else mQ 3)
  else if k==3 then(if i<0\/i>=8\/n≠[]\/x.kind<1\/x.kind>3\/x≠⟨x.kind,0,[]⟩then mQ 3 else(x.kind,true,0))
  else if k==2||k==4 then
   (if eE n&&i==0&&decide (x= .nul)then
    (let r:=findV (if k==4 then vars else cols) n
     if r.2 then(r.1.kind,r.1.nullable,0)else mQ 23)
    else mQ 3)
  else if k==5 then nw n i x (kindsE cols vars args)
  else mQ 3
def kindsE(cols vars:List LCol):List LExpr->List KR
 |[]=>[]
 |e::r=>gI cols vars e::kindsE cols vars r
end
theorem kindsE_map(cols vars:List LCol):∀l,kindsE cols vars l=l.map (gI cols vars)
 |[]=>rfl
 |e::r=>by simp[kindsE,kindsE_map cols vars r]
theorem arity_of_idx(name:Rb):(aL (fun x=>name==x) eK<0/\dh name=none)\/
  ∃a:Nat,0<=aL (fun x=>name==x) eK/\(opArity.map fun n=>[ac n])[(aL (fun x=>name==x) eK).toNat]? =some [ac a]/\dh name=some a:=by
 by_cases hn:name∈eK
 ·refine .inr ?_;simp only[eK,List.mem_cons,List.mem_nil_iff,or_false]at hn;rcases hn with rfl|rfl|rfl|rfl|rfl|rfl|rfl|rfl|rfl|rfl|rfl|rfl|rfl<;>exact⟨_,by decide,rfl,rfl⟩
 ·refine .inl ⟨?_,?_⟩
  ·rw[lK fun x hx=>by
    cases hb:name==x with
    |false=>rfl
    |true=>exact absurd (by rw[eq_of_beq hb];exact hx) hn]
   decide
  ·simp only[eK,List.mem_cons,List.mem_nil_iff,or_false,not_or]at hn;simp[dh,hn]
theorem find_at{α:Type}{p:α->Bool}{l:List α}{j:Nat}(hlt:j<l.length)(hpre:∀x∈l.take j,p x=false)(h:p l[j]=true):l.find? p=some l[j]:=by
 rw[List.find?_eq_some_iff_getElem]
 refine⟨h,j,hlt,rfl,fun i hi=>?_⟩
 have:=hpre l[i] (List.mem_take_iff_getElem.2 ⟨i,by omega,rfl⟩)
 simp[this]
theorem kindRows{cols vars:List LCol}{args:List LExpr}{j:Nat}(h:j<args.length):((args.take j).map (gI cols vars)).map (fun r=>[ac r.1])++[[ac (gI cols vars args[j]).1]]=((args.take (j+1)).map (gI cols vars)).map fun r=>[ac r.1]:=by
 rw[List.take_add_one,ze h];simp only[List.map_append,Option.toList,List.map_cons,List.map_nil]
theorem kindAny{cols vars:List LCol}{args:List LExpr}{j:Nat}(h:j<args.length):((args.take (j+1)).map (gI cols vars)).any (·.2.1)=(((args.take j).map (gI cols vars)).any (·.2.1)||(gI cols vars args[j]).2.1):=by
 rw[List.take_add_one,ze h];simp only[List.map_append,List.any_append,Option.toList,List.map_cons,List.map_nil,List.any_cons,List.any_nil,Bool.or_false]
theorem opKind_spec(cols vars:List LCol)(e:LExpr)(ih:∀a∈e.args,aC prog 181 [lW cols,lW vars,mT a] (pkr (gI cols vars a))):
  aC prog 223 [lW cols,lW vars,mT e] (pkr (nw e.name e.index e.value (e.args.map (gI cols vars)))):=by
 rcases arity_of_idx e.name with⟨hK,ha⟩|⟨ar,hK,hr,ha⟩
 ·refine PH.ak func223 ntmps223 ?_
  repeat' (first|(show Ao _ _ _ _ _;first|refine aD U Z ?_|refine ao ?_|refine bC ?_|refine ag call239 (ip.r) (jy) ?_|refine ag call61 (ip.r) (dq _ _) ?_)|(show V _ _ _ _ _;first|refine al ?_|refine ah ?_|refine bO Z ?_|(show V _ _ _ (.code (.region 3 _ true)::_) _;refine iA U mok ⟨false,false,[]⟩ [0,1,2,3,4,5,6,7,8,9,10,11,12,13,14,15,16,17,18,19,20,21,22] Z (by decide+kernel) Z ?_))|(show Do _ _ _ _ _ _ _;first|refine jm Z ?_|refine dE ?_|((fail_if_success refine oK Z Z ?_);refine pI Z Z Z Z (fun h=>?_) (fun h=>?_))))
  all_goals try(exfalso;simp_all<;>omega;done)
  all_goals refine gJ U (PLe.q ?_)
  all_goals (have:nw e.name e.index e.value (e.args.map (gI cols vars))=mQ 3:=by simp[nw,ha])
  all_goals (rw[this];rfl)
 ·refine PH.ak func223 ntmps223 ?_
  repeat' (first|(show Ao _ _ _ _ _;first|refine aD U Z ?_|refine ao ?_|refine bC ?_|(refine iD U Z Z Z Z Z Z ?_;intro bk)|refine ag call239 (ip.r) (jy) ?_|refine ag call61 (ip.r) (dq _ _) ?_)|(show V _ _ _ _ _;first|refine al ?_|refine ah ?_|refine aE ?_|refine bO Z ?_|refine aG ?_|(show V _ _ _ (.code (.region 3 _ true)::_) _;refine iA U mok ⟨false,false,[]⟩ [0,1,2,3,4,5,6,7,8,9,10,11,12,13,14,15,16,17,18,19,20,21,22] Z (by decide+kernel) Z ?_)|refine aY Z (fun h=>?_) (fun h=>?_))|(show Do _ _ _ _ _ _ _;first|refine jm Z ?_|refine dE ?_|refine pL hK hr ?_|((fail_if_success refine oK Z Z ?_);refine pI Z Z Z Z (fun h=>?_) (fun h=>?_))))
  all_goals try(exfalso;simp_all<;>omega;done)
  case inr.refine_2.refine_1=>
   refine gJ U (PLe.q ?_);rw[nw,zp (.inl (by rw[ha];simp at h⊢;omega))];rfl
  case inr.refine_2.refine_2.refine_1=>
   refine gJ U (PLe.q ?_);rw[nw,zp (.inr (.inl (by simpa using h)))];rfl
  case inr.refine_2.refine_2.refine_2.refine_1=>
   refine gJ U (PLe.q ?_);rw[nw,zp (.inr (.inr (by intro hh;rw[hh]at h;simp[LVal.nul]at h)))];rfl
  rename_i h0 h1 h2
  have hlen:e.args.length=ar:=by
   simp at h1;omega
  have hgood:¬(dh e.name≠some (e.args.map (gI cols vars)).length\/e.index≠0\/e.value≠ .nul):=by
   rw[ha]
   rintro(h3|h3|h3)
   ·simp[hlen]at h3
   ·exact h3 (by simpa using h2)
   ·apply h3;cases hv:e.value;rw[hv]at h;simp at h;simp[LVal.nul,h]
  rw[nw,zy hgood];refine jc U 53 Z Z fun hl hby=>?_
  rw[zl]at hl hby;have hby':e.args.length*88<=2^47:=hby;refine oA U 12 0 12 (e:=3) Z Z Z Z ?_
  refine mJ (X:=Nat×OwnRef) (fun X=>⟨164,upd (upd (upd (upd (upd (upd (upd (upd (fun _=>.any) 13 (az (((e.args.take X.1).map (gI cols vars)).any (·.2.1)))) 12 (.box 12 bk 0)) 5 (.ptr (jl e))) 1 (lW vars)) 0 (lW cols)) 53 (pexprs e.args)) 54 (ac (e.args.map eJ).length)) 55 (ac X.1),upd (fun _=>none) 12 (some ⟨bk,[.own 12 X.2 (((e.args.take X.1).map (gI cols vars)).map fun r=>[ac r.1]).length]⟩),upd (fun _=>none) 12 (some ⟨X.2,3,((e.args.take X.1).map (gI cols vars)).map fun r=>[ac r.1],true⟩)⟩)
   (fun X=>X.1<=e.args.length/\∀x∈(e.args.map (gI cols vars)).take X.1,(x.2.2 !=0)=false) (fun X=>e.args.length-X.1) (0,⟨none,0⟩) ⟨Nat.zero_le _,by simp⟩ (Gh.le (aq (aq (aq (aq (aq (aq (aq (aq bm)))))))) (aZ Z (ip.r) aV) (bJ aU)) ?_
  rintro⟨j,g⟩ ⟨hj,hpre⟩
  replace hj:j<=e.args.length:=hj;replace hpre:∀x∈(e.args.map (gI cols vars)).take j,(x.2.2 !=0)=false:=hpre
  repeat(first|refine aD U Z ?_|refine ao ?_|refine al ?_|refine ah ?_)
  refine aY Z (fun h=>?_) (fun h=>?_)
  ·have hlt:j<e.args.length:=by simpa using h
   have hlt':j<(e.args.map (gI cols vars)).length:=by simpa using hlt
   repeat(first|refine al ?_|refine ah ?_|refine aE ?_|refine aG ?_)
   refine aW U (zn j) (getExpr hlt) ?_
   repeat(first|refine aD U Z ?_|refine ao ?_|refine al ?_|refine ah ?_|refine iQ U ?_|(refine iD U Z Z Z Z Z Z ?_;intro bk)|refine aK U ?_)
   refine ag call181 (ip.r) (ih _ (List.getElem_mem hlt)) ?_
   repeat(first|refine aD U Z ?_|refine ao ?_|refine al ?_|refine ah ?_)
   refine aY Z (fun h=>?_) (fun h=>?_)
   ·repeat(first|refine aD U Z ?_|refine ao ?_|refine al ?_|refine ah ?_)
    refine gJ U (PLe.q ?_);rw[find_at hlt' hpre (by simpa using h),List.getElem_map];rfl
   ·repeat(first|refine aD U Z ?_|refine ah ?_|refine aE ?_|refine iQ U ?_|refine vu U Z Z Z Z Z Z ?_)
    refine wO (rows2:=[[ac (gI cols vars e.args[j]).1]]) U Z Z Z Z Z Z Z Z Z Z Z Z Z ?_ ?_ fun g'=>?_
    ·simp only[zl,List.length_take,List.length_cons,List.length_nil];rw[Nat.min_eq_left hj]
     show(j+1)*8<=2^47
     omega
    ·simp only[zl,List.length_take,List.length_cons,List.length_nil];omega
    repeat(refine aD U Z ?_)
    have hpre':∀x∈(e.args.map (gI cols vars)).take (j+1),(x.2.2 !=0)=false:=rT (p:=fun x:KR=>x.2.2 !=0) hlt' hpre (by rw[List.getElem_map];exact h);have hany:=kindAny (cols:=cols) (vars:=vars) hlt;refine iV Z Z Z (fun hn=>?_) (fun hn=>?_)
    ·repeat(first|refine aD U Z ?_|refine ao ?_|refine ah ?_|refine el ?_|refine aK U ?_)
     rw[kindRows hlt];refine nq (j+1,g') ?_ ⟨hlt,hpre'⟩ (Gh.le (bh (PLe.q (fG (by omega))) (aq (aq (aq (aq (aq (aq (bh (PLe.q (by rw[hany,hn];rfl)) bm)))))))) (aZ Z (ip.r) aV) (bJ aU));show e.args.length-(j+1)<e.args.length-j;omega
    ·repeat(first|refine aD U Z ?_|refine ao ?_|refine ah ?_|refine el ?_|refine aK U ?_)
     rw[kindRows hlt];refine nq (j+1,g') ?_ ⟨hlt,hpre'⟩ (Gh.le (bh (PLe.q (fG (by omega))) (aq (aq (aq (aq (aq (aq (bh (PLe.q (by rw[hany,hn];rfl)) bm)))))))) (aZ Z (ip.r) aV) (bJ aU));show e.args.length-(j+1)<e.args.length-j;omega
  have hge : j = e.args.length := by have : ¬ j < e.args.length := by simpa using h
                                     omega
  subst hge;refine jZ 12 0 Z Z Z Z Z (kJ 12 ?_)
  have hks:(e.args.map (gI cols vars)).find? (fun r=>r.2.2 !=0)=none:=by
   rw[List.find?_eq_none];intro x hx
   have:=hpre x (by rw[List.take_of_length_le (by simp)];exact hx)
   simp[this]
  rw[hks];simp only[List.take_length];have hlk:(e.args.map (gI cols vars)).length=ar:=by simp[hlen]
  generalize e.args.map (gI cols vars)=KS at hlk;refine cv (st':=⟨164,upd (upd (upd (fun _=>.any) 13 (az (KS.any (·.2.1)))) 12 (.ptr [pints (KS.map (·.1))])) 5 (.ptr [ac e.kind,.str e.name,ac e.index,ac e.value.kind,ac e.value.int,.str e.value.text,pexprs e.args]),fun _=>none,fun _=>none⟩) (Gh.le (aq (bh (PLe.q (show PV.ptr [.list 3 (KS.map fun r=>[ac r.1])]=_ from by simp)) (aq bm))) aV aU) ?_;replace hlk:(KS.map (·.1)).length=ar:=by simpa using hlk
  generalize KS.map (·.1)=kinds at hlk;generalize KS.any (·.2.1)=nl;generalize e.name=name at ha;clear hpre hks hgood h0 h1 h2 h hr hK ih hlen;by_cases hn:name∈eK
  ·simp only[eK,List.mem_cons,List.mem_nil_iff,or_false]at hn;rcases hn with rfl|rfl|rfl|rfl|rfl|rfl|rfl|rfl|rfl|rfl|rfl|rfl|rfl
   ·have har:ar=2:=by have:some 2=some ar:=ha;exact(Option.some.inj this).symm
    subst har
    obtain⟨a,b,rfl⟩:=ke hlk
    repeat' (first|(show Ao _ _ _ _ _;first|refine aD U Z ?_|refine ao ?_|refine ag call249 (ip.r) (lC _ _) ?_|refine ag call253 (ip.r) (ir _ _ _) ?_)|(show V _ _ _ _ _;first|refine al ?_|refine ah ?_|refine aE ?_|refine bO Z ?_|refine aG ?_|refine bd Z ?_))
    all_goals refine gJ U (PLe.q ?_)
    all_goals simp_all[kw]
   ·have har:ar=2:=by have:some 2=some ar:=ha;exact(Option.some.inj this).symm
    subst har
    obtain⟨a,b,rfl⟩:=ke hlk
    repeat' (first|(show Ao _ _ _ _ _;first|refine aD U Z ?_|refine ao ?_|refine ag call249 (ip.r) (lC _ _) ?_|refine ag call253 (ip.r) (ir _ _ _) ?_)|(show V _ _ _ _ _;first|refine al ?_|refine ah ?_|refine aE ?_|refine bO Z ?_|refine bj Z ?_|refine aG ?_|refine bd Z ?_))
    all_goals refine gJ U (PLe.q ?_)
    all_goals simp_all[kw]
   ·have har:ar=2:=by have:some 2=some ar:=ha;exact(Option.some.inj this).symm
    subst har
    obtain⟨a,b,rfl⟩:=ke hlk
    repeat' (first|(show Ao _ _ _ _ _;first|refine aD U Z ?_|refine ao ?_|refine ag call249 (ip.r) (lC _ _) ?_|refine ag call253 (ip.r) (ir _ _ _) ?_)|(show V _ _ _ _ _;first|refine al ?_|refine ah ?_|refine bO Z ?_|refine bj Z ?_|refine aG ?_|refine bd Z ?_))
    all_goals refine gJ U (PLe.q ?_)
    all_goals simp_all[kw]
   ·have har:ar=2:=by have:some 2=some ar:=ha;exact(Option.some.inj this).symm
    subst har
    obtain⟨a,b,rfl⟩:=ke hlk
    repeat' (first|(show Ao _ _ _ _ _;first|refine aD U Z ?_|refine ao ?_)|(show V _ _ _ _ _;first|refine al ?_|refine ah ?_|refine aE ?_|refine bj Z ?_|refine aG ?_|refine el ?_|refine bd Z ?_|(show V _ _ _ (.code (.region 34 _ true)::_) _;refine iA U mok ⟨false,false,[]⟩ [0,1,2,3,4,5,6,7,8,9,10,11,12,13,14,15] Z (by decide+kernel) Z ?_))|(show Do _ _ _ _ _ _ _;first|refine jm Z ?_|refine dE ?_|refine bI call252 (ip.r) (ra _ _) ?_|refine bI call253 (ip.r) (ir _ _ _) ?_))
    all_goals refine gJ U (PLe.q ?_)
    all_goals simp_all[kw]
   ·have har:ar=2:=by have:some 2=some ar:=ha;exact(Option.some.inj this).symm
    subst har
    obtain⟨a,b,rfl⟩:=ke hlk
    repeat' (first|(show Ao _ _ _ _ _;first|refine aD U Z ?_|refine ao ?_)|(show V _ _ _ _ _;first|refine al ?_|refine ah ?_|refine aE ?_|refine bj Z ?_|refine aG ?_|refine el ?_|refine bd Z ?_|(show V _ _ _ (.code (.region 34 _ true)::_) _;refine iA U mok ⟨false,false,[]⟩ [0,1,2,3,4,5,6,7,8,9,10,11,12,13,14,15] Z (by decide+kernel) Z ?_))|(show Do _ _ _ _ _ _ _;first|refine jm Z ?_|refine dE ?_|refine bI call252 (ip.r) (ra _ _) ?_|refine bI call253 (ip.r) (ir _ _ _) ?_))
    all_goals refine gJ U (PLe.q ?_)
    all_goals simp_all[kw]
   ·have har:ar=2:=by have:some 2=some ar:=ha;exact(Option.some.inj this).symm
    subst har
    obtain⟨a,b,rfl⟩:=ke hlk
    repeat' (first|(show Ao _ _ _ _ _;first|refine aD U Z ?_|refine ao ?_)|(show V _ _ _ _ _;first|refine al ?_|refine ah ?_|refine aE ?_|refine bj Z ?_|refine aG ?_|refine el ?_|refine bd Z ?_|(show V _ _ _ (.code (.region 34 _ true)::_) _;refine iA U mok ⟨false,false,[]⟩ [0,1,2,3,4,5,6,7,8,9,10,11,12,13,14,15] Z (by decide+kernel) Z ?_))|(show Do _ _ _ _ _ _ _;first|refine jm Z ?_|refine dE ?_|refine bI call252 (ip.r) (ra _ _) ?_|refine bI call253 (ip.r) (ir _ _ _) ?_))
    all_goals refine gJ U (PLe.q ?_)
    all_goals simp_all[kw]
   ·have har:ar=2:=by have:some 2=some ar:=ha;exact(Option.some.inj this).symm
    subst har
    obtain⟨a,b,rfl⟩:=ke hlk
    repeat' (first|(show Ao _ _ _ _ _;first|refine aD U Z ?_|refine ao ?_|refine ag call249 (ip.r) (lC _ _) ?_|refine ag call253 (ip.r) (ir _ _ _) ?_)|(show V _ _ _ _ _;first|refine al ?_|refine ah ?_|refine aE ?_|refine bO Z ?_|refine bj Z ?_|refine aG ?_|refine bd Z ?_))
    all_goals refine gJ U (PLe.q ?_)
    all_goals simp_all[kw]
   ·have har:ar=2:=by have:some 2=some ar:=ha;exact(Option.some.inj this).symm
    subst har
    obtain⟨a,b,rfl⟩:=ke hlk
    repeat' (first|(show Ao _ _ _ _ _;first|refine aD U Z ?_|refine ao ?_|refine ag call249 (ip.r) (lC _ _) ?_|refine ag call253 (ip.r) (ir _ _ _) ?_)|(show V _ _ _ _ _;first|refine al ?_|refine ah ?_|refine aE ?_|refine bO Z ?_|refine bj Z ?_|refine aG ?_|refine bd Z ?_))
    all_goals refine gJ U (PLe.q ?_)
    all_goals simp_all[kw]
   ·have har:ar=1:=by have:some 1=some ar:=ha;exact(Option.some.inj this).symm
    subst har
    obtain⟨a,rfl⟩:=List.length_eq_one_iff.1 hlk
    repeat' (first|(show Ao _ _ _ _ _;first|refine aD U Z ?_|refine ao ?_|refine ag call249 (ip.r) (lC _ _) ?_|refine ag call253 (ip.r) (ir _ _ _) ?_)|(show V _ _ _ _ _;first|refine al ?_|refine ah ?_|refine bO Z ?_|refine bj Z ?_|refine aG ?_|refine bd Z ?_))
    all_goals refine gJ U (PLe.q ?_)
    all_goals simp_all[kw]
   ·have har:ar=2:=by have:some 2=some ar:=ha;exact(Option.some.inj this).symm
    subst har
    obtain⟨a,b,rfl⟩:=ke hlk
    repeat' (first|(show Ao _ _ _ _ _;first|refine aD U Z ?_|refine ao ?_|refine ag call249 (ip.r) (lC _ _) ?_|refine ag call253 (ip.r) (ir _ _ _) ?_)|(show V _ _ _ _ _;first|refine al ?_|refine ah ?_|refine bO Z ?_|refine bj Z ?_|refine aG ?_|refine bd Z ?_))
    all_goals refine gJ U (PLe.q ?_)
    all_goals simp_all[kw]
   ·have har:ar=1:=by have:some 1=some ar:=ha;exact(Option.some.inj this).symm
    subst har
    obtain⟨a,rfl⟩:=List.length_eq_one_iff.1 hlk
    repeat' (first|(show Ao _ _ _ _ _;first|refine aD U Z ?_|refine ao ?_)|(show V _ _ _ _ _;first|refine al ?_|refine ah ?_|refine bO Z ?_|refine bj Z ?_|refine aG ?_|refine bd Z ?_))
    all_goals refine gJ U (PLe.q ?_)
    all_goals simp_all[kw]
   ·have har:ar=1:=by have:some 1=some ar:=ha;exact(Option.some.inj this).symm
    subst har
    obtain⟨a,rfl⟩:=List.length_eq_one_iff.1 hlk
    repeat' (first|(show Ao _ _ _ _ _;first|refine aD U Z ?_|refine ao ?_|refine ag call249 (ip.r) (lC _ _) ?_|refine ag call253 (ip.r) (ir _ _ _) ?_)|(show V _ _ _ _ _;first|refine al ?_|refine ah ?_|refine bO Z ?_|refine bj Z ?_|refine aG ?_|refine bd Z ?_))
    all_goals refine gJ U (PLe.q ?_)
    all_goals simp_all[kw]
   ·have har:ar=3:=by have:some 3=some ar:=ha;exact(Option.some.inj this).symm
    subst har
    obtain⟨a,b,c,rfl⟩:=len3 hlk
    repeat' (first|(show Ao _ _ _ _ _;first|refine aD U Z ?_|refine ao ?_)|(show V _ _ _ _ _;first|refine al ?_|refine ah ?_|refine bO Z ?_|refine bj Z ?_|refine aG ?_|refine bd Z ?_|(show V _ _ _ (.code (.region 33 _ true)::_) _;refine iA U mok ⟨false,false,[]⟩ [0,1,2,3,4,5,6,7,8,9,10,11,12,13,14,15,16,17,18,19,20,21,22,23,24,25,26,27,28,29] Z (by decide+kernel) Z ?_))|(show Do _ _ _ _ _ _ _;first|refine jm Z ?_|refine dE ?_|refine bI call252 (ip.r) (ra _ _) ?_|refine bI call253 (ip.r) (ir _ _ _) ?_|((fail_if_success refine oK Z Z ?_);refine pI Z Z Z Z (fun h=>?_) (fun h=>?_))))
    all_goals refine gJ U (PLe.q ?_)
    all_goals simp_all[kw]
  ·simp only[eK,List.mem_cons,List.mem_nil_iff,or_false,not_or]at hn;simp[dh,hn]at ha
theorem kindE_eq(cols vars:List LCol)(e:LExpr):gI cols vars e=
  if e.kind≠5/\0<e.args.length then mQ 3
  else if e.kind==1 then(if kY e.value&&e.name==[]&&e.index==0 then(e.value.kind,e.value.kind==0,0)else mQ 3)
  else if e.kind==3 then(if e.index<0\/e.index>=8\/e.name≠[]\/e.value.kind<1\/e.value.kind>3\/e.value≠⟨e.value.kind,0,[]⟩then mQ 3 else(e.value.kind,true,0))
  else if e.kind==2||e.kind==4 then
   (if eE e.name&&e.index==0&&decide (e.value= .nul)then
    (if(findV (if e.kind==4 then vars else cols) e.name).2 then((findV (if e.kind==4 then vars else cols) e.name).1.kind,(findV (if e.kind==4 then vars else cols) e.name).1.nullable,0)else mQ 23)
    else mQ 3)
  else if e.kind==5 then nw e.name e.index e.value (e.args.map (gI cols vars))
  else mQ 3:=by
 cases e;rw[gI,kindsE_map];rfl
theorem valNul_iff(x:LVal):x= .nul↔x.kind=0/\x.int=0/\x.text=[]:=by
 cases x;simp[LVal.nul]
theorem valK_iff(x:LVal):x=⟨x.kind,0,[]⟩↔x.int=0/\x.text=[]:=by
 cases x;simp
theorem kindStep(cols vars:List LCol)(e:LExpr)(ih:∀a∈e.args,aC prog 181 [lW cols,lW vars,mT a] (pkr (gI cols vars a))):
  aC prog 181 [lW cols,lW vars,mT e] (pkr (gI cols vars e)):=by
 refine PH.ak func181 ntmps181 ?_
 repeat' (first|(show Ao _ _ _ _ _;first|refine aD U Z ?_|refine ao ?_|refine bC ?_|(refine iD U Z Z Z Z Z Z ?_;intro bk)|refine aK U ?_|refine ag call43 (ip.r) (sI _) ?_|refine ag call117 (ip.r) (mR _) ?_|refine ag call222 (ip.r) (find_spec _ _) ?_|refine ag call223 (ip.r) (opKind_spec cols vars e ih) ?_|((fail_if_success refine iu Z ?_);refine iV Z Z Z (fun h=>?_) (fun h=>?_)))|(show V _ _ _ _ _;first|refine al ?_|refine ah ?_|refine aE ?_|refine bO Z ?_|refine bj Z ?_|refine aG ?_|refine el ?_|(show V _ _ _ (.code (.region 7 _ true)::_) _;refine iA U mok ⟨true,false,[]⟩ [0,1,2,3,4,5,6,7,8,9] Z (by decide+kernel) Z ?_)|(show V _ _ _ (.code (.region 22 _ true)::_) _;refine iA U mok ⟨true,false,[]⟩ [0,1,2,3,4,5,6] Z (by decide+kernel) Z ?_)|refine aY Z (fun h=>?_) (fun h=>?_))|(show Do _ _ _ _ _ _ _;first|refine jm Z ?_|refine dE ?_|refine kP ?_))
 all_goals refine gJ U (PLe.q ?_)
 all_goals rw[kindE_eq]
 all_goals (simp only[zl,Bool.not_eq_true',decide_eq_true_eq,decide_eq_false_iff_not,bne_iff_ne,beq_iff_eq,ne_eq,beq_eq_false_iff_ne,bne_eq_false_iff_eq]at*)
 all_goals try simp_all[mQ,valNul_iff,valK_iff]
 all_goals (rw[zy (by first|omega|(rintro⟨q1,q2,q3⟩;exact h q1 q2 q3))];exact⟨rfl,rfl,rfl⟩)
theorem kind_spec(cols vars:List LCol):∀e:LExpr,aC prog 181 [lW cols,lW vars,mT e] (pkr (gI cols vars e))
 | .mk k n i x args=>kindStep cols vars (.mk k n i x args) fun a ha=>by
  have ha':a∈args:=ha;exact kind_spec cols vars a
def fI(cols vars:List LCol)(e:LExpr):KR:=if(kK e).1>60\/(kK e).2>12 then mQ 2 else gI cols vars e
theorem mL(cols vars:List LCol)(e:LExpr):aC prog 122 [lW cols,lW vars,mT e] (pkr (fI cols vars e)):=by
 refine PH.ak func122 ntmps122 ?_
 repeat' (first|(show Ao _ _ _ _ _;first|refine aD U Z ?_|refine ao ?_|refine bC ?_|refine ag call180 (ip.r) (size_spec _) ?_|refine ag call181 (ip.r) (kind_spec _ _ _) ?_|((fail_if_success refine iu Z ?_);refine iV Z Z Z (fun h=>?_) (fun h=>?_)))|(show V _ _ _ _ _;first|refine al ?_|refine ah ?_|refine aE ?_|refine bO Z ?_|refine aY Z (fun h=>?_) (fun h=>?_)))
 all_goals refine gJ U (PLe.q ?_)
 all_goals simp_all[fI,mQ]
 rw[zy (by omega)]
 exact⟨rfl,rfl,rfl⟩
end
end Go.Proofs.YtafdcemcgfbhcaaGreatDoor

namespace Go.Proofs.YtafdcemcgfbhcaaGreatDoor
noncomputable section
open Go Go.Ab Go.Proofs.Tryz
set_option maxRecDepth 4000
def FitsK(x:LVal)(k:Int)(nl:Bool):Prop:=kY x=true/\(x.kind=k\/x.kind=0)/\(x.kind=0->nl=true)
theorem vl{α:Type}{p:α->Bool}{l:List α}(h:0<=aL p l):(aL p l).toNat<l.length:=by
 have:=idxOf_lt (p:=p) (l:=l)
 omega
end
end Go.Proofs.YtafdcemcgfbhcaaGreatDoor

namespace Go.Proofs.YtafdcemcgfbhcaaGreatDoor
noncomputable section
open Go Go.Ab Go.Proofs.Tryz
structure LTable where
 name:Rb
 columns:List LCol
 primaryKey:List Int
 deriving DecidableEq
@[simp] def bq (x:LTable):List PV:=[(.str x.name),(.list 93 (x.columns.map ap)),(.list 3 (x.primaryKey.map bv))]
structure LF where
 table:Rb
 columns:List Int
 refTable:Rb
 deriving DecidableEq
@[simp] def jX (x:LF):List PV:=[(.str x.table),(.list 3 (x.columns.map bv)),(.str x.refTable)]
structure LK where
 table:Rb
 left:Int
 op:Rb
 right:Int
 value:LVal
 deriving DecidableEq
@[simp] def ln (x:LK):List PV:=[(.str x.table),(ac x.left),(.str x.op),(ac x.right),(ac x.value.kind),(ac x.value.int),(.str x.value.text)]
structure LSchema where
 tables:List LTable
 foreignKeys:List LF
 constraints:List LK
 deriving DecidableEq
@[simp] def cf (x:LSchema):List PV:=[(.list 95 (x.tables.map bq)),(.list 145 (x.foreignKeys.map jX)),(.list 151 (x.constraints.map ln))]
structure LA where
 name:Rb
 function:Rb
 args:List LExpr
@[simp] def nz (x:LA):List PV:=[(.str x.name),(.str x.function),(.list 71 (x.args.map eJ))]
inductive LQuery where
 |mk (kind:Int) (table:Rb) (names:Rs) (exprs:List LExpr) (aggregates:List LA) (descending:List Bool) (count:Int) (offset:Int) (inputs:List LQuery)
def LQuery.kind:LQuery->Int| .mk a _ _ _ _ _ _ _ _=>a
def LQuery.table:LQuery->Rb| .mk _ a _ _ _ _ _ _ _=>a
def LQuery.names:LQuery->Rs| .mk _ _ a _ _ _ _ _ _=>a
def LQuery.exprs:LQuery->List LExpr| .mk _ _ _ a _ _ _ _ _=>a
def LQuery.aggregates:LQuery->List LA| .mk _ _ _ _ a _ _ _ _=>a
def LQuery.descending:LQuery->List Bool| .mk _ _ _ _ _ a _ _ _=>a
def LQuery.count:LQuery->Int| .mk _ _ _ _ _ _ a _ _=>a
def LQuery.offset:LQuery->Int| .mk _ _ _ _ _ _ _ a _=>a
def LQuery.inputs:LQuery->List LQuery| .mk _ _ _ _ _ _ _ _ a=>a
mutual
def db:LQuery->List PV
 | .mk f0 f1 f2 f3 f4 f5 f6 f7 f8=>[(ac f0),(.str f1),(.list 9 (f2.map nE)),(.list 71 (f3.map eJ)),(.list 210 (f4.map nz)),(.list 4 (f5.map rBool)),(ac f6),(ac f7),.list 76 (sD f8)]
def sD:List LQuery->List (List PV)
 |[]=>[]
 |e::r=>db e::sD r
end
theorem uB:∀l,sD l=l.map db
 |[]=>rfl
 |e::r=>by simp[sD,uB r]
def aH(x:LQuery):List PV:=[(ac x.kind),(.str x.table),(.list 9 (x.names.map nE)),(.list 71 (x.exprs.map eJ)),(.list 210 (x.aggregates.map nz)),(.list 4 (x.descending.map rBool)),(ac x.count),(ac x.offset),(.list 76 (x.inputs.map db))]
theorem cF(x:LQuery):db x=aH x:=by
 cases x;simp[db,aH,uB,LQuery.kind,LQuery.table,LQuery.names,LQuery.exprs,LQuery.aggregates,LQuery.descending,LQuery.count,LQuery.offset,LQuery.inputs]
inductive LS where
 |mk (kind:Int) (code:Int) (name:Rb) (table:Rb) (names:Rs) (exprs:List LExpr) (whereF:List LExpr) (query:List LQuery) (body:List LS) (elseF:List LS)
def LS.kind:LS->Int| .mk a _ _ _ _ _ _ _ _ _=>a
def LS.code:LS->Int| .mk _ a _ _ _ _ _ _ _ _=>a
def LS.name:LS->Rb| .mk _ _ a _ _ _ _ _ _ _=>a
def LS.table:LS->Rb| .mk _ _ _ a _ _ _ _ _ _=>a
def LS.names:LS->Rs| .mk _ _ _ _ a _ _ _ _ _=>a
def LS.exprs:LS->List LExpr| .mk _ _ _ _ _ a _ _ _ _=>a
def LS.whereF:LS->List LExpr| .mk _ _ _ _ _ _ a _ _ _=>a
def LS.query:LS->List LQuery| .mk _ _ _ _ _ _ _ a _ _=>a
def LS.body:LS->List LS| .mk _ _ _ _ _ _ _ _ a _=>a
def LS.elseF:LS->List LS| .mk _ _ _ _ _ _ _ _ _ a=>a
mutual
def af:LS->List PV
 | .mk f0 f1 f2 f3 f4 f5 f6 f7 f8 f9=>[(ac f0),(ac f1),(.str f2),(.str f3),(.list 9 (f4.map nE)),(.list 71 (f5.map eJ)),(.list 71 (f6.map eJ)),(.list 76 (f7.map db)),.list 40 (iN f8),.list 40 (iN f9)]
def iN:List LS->List (List PV)
 |[]=>[]
 |e::r=>af e::iN r
end
theorem mz:∀l,iN l=l.map af
 |[]=>rfl
 |e::r=>by simp[iN,mz r]
def am(x:LS):List PV:=[(ac x.kind),(ac x.code),(.str x.name),(.str x.table),(.list 9 (x.names.map nE)),(.list 71 (x.exprs.map eJ)),(.list 71 (x.whereF.map eJ)),(.list 76 (x.query.map db)),(.list 40 (x.body.map af)),(.list 40 (x.elseF.map af))]
theorem cx(x:LS):af x=am x:=by
 cases x;simp[af,am,mz,LS.kind,LS.code,LS.name,LS.table,LS.names,LS.exprs,LS.whereF,LS.query,LS.body,LS.elseF]
structure LP where
 parameters:List Int
 body:List LS
@[simp] def bn (x:LP):List PV:=[(.list 3 (x.parameters.map bv)),(.list 40 (x.body.map af))]
structure LChange where
 kind:Int
 table:Rb
 key:Rq
 row:Rq
 deriving DecidableEq
@[simp] def bW (x:LChange):List PV:=[(ac x.kind),(.str x.table),(.list 69 (x.key.map ab)),(.list 69 (x.row.map ab))]
structure LResult where
 columns:List LCol
 rows:Rz
 deriving DecidableEq
@[reducible] def rRr:=ae 69 ab
@[simp] def dR (x:LResult):List PV:=[(.list 93 (x.columns.map ap)),(.list 54 (x.rows.map rRr))]
structure LW where
 table:Rb
 rows:Rz
 deriving DecidableEq
@[simp] def bE (x:LW):List PV:=[(.str x.table),(.list 54 (x.rows.map rRr))]
structure LC where
 s:LSchema
 args:List Int
 deriving DecidableEq
@[simp] def ba (x:LC):List PV:=[(.list 95 (x.s.tables.map bq)),(.list 145 (x.s.foreignKeys.map jX)),(.list 151 (x.s.constraints.map ln)),(.list 3 (x.args.map bv))]
structure LR where
 s:LSchema
 st:List LW
 args:Rq
 vars:List LCol
 vals:Rq
 changes:List LChange
 results:List LResult
 left:Int
 stopped:Bool
 deriving DecidableEq
@[simp] def encProcedureRun (x:LR):List PV:=[(.list 95 (x.s.tables.map bq)),(.list 145 (x.s.foreignKeys.map jX)),(.list 151 (x.s.constraints.map ln)),(.list 86 (x.st.map bE)),(.list 69 (x.args.map ab)),(.list 93 (x.vars.map ap)),(.list 69 (x.vals.map ab)),(.list 56 (x.changes.map bW)),(.list 64 (x.results.map dR)),(ac x.left),(az x.stopped)]
structure LRun where
 s:LSchema
 st:List LW
 args:Rq
 vars:List LCol
 names:Rs
 vals:Rq
 deriving DecidableEq
@[simp] def eQ (x:LRun):List PV:=[(.list 95 (x.s.tables.map bq)),(.list 145 (x.s.foreignKeys.map jX)),(.list 151 (x.s.constraints.map ln)),(.list 86 (x.st.map bE)),(.list 69 (x.args.map ab)),(.list 93 (x.vars.map ap)),(.list 9 (x.names.map nE)),(.list 69 (x.vals.map ab))]
structure LChecker where
 s:LSchema
 vars:List LCol
 deriving DecidableEq
@[simp] def fq (x:LChecker):List PV:=[(.list 95 (x.s.tables.map bq)),(.list 145 (x.s.foreignKeys.map jX)),(.list 151 (x.s.constraints.map ln)),(.list 93 (x.vars.map ap))]
@[reducible] def cR (x:LR) (g h:OwnRef):List PV:=[(.list 95 (x.s.tables.map bq)),(.list 145 (x.s.foreignKeys.map jX)),(.list 151 (x.s.constraints.map ln)),(.list 86 (x.st.map bE)),(.list 69 (x.args.map ab)),(.list 93 (x.vars.map ap)),(.list 69 (x.vals.map ab)),(.own 1607 g (x.changes.map bW).length),(.own 1608 h (x.results.map dR).length),(ac x.left),(az x.stopped)]
@[reducible] def bR (b:Nat) (x:LR) (g h:OwnRef):Nat->Option Ab.Box:=upd (fun _=>none) 1500 (some ⟨b,cR x g h⟩)
@[reducible] def oR (x:LR) (g h:OwnRef):Nat->Option Ab.Obj:=upd (upd (fun _=>none) 1608 (some ⟨h,64,(x.results.map dR),true⟩)) 1607 (some ⟨g,56,(x.changes.map bW),true⟩)
end
end Go.Proofs.YtafdcemcgfbhcaaGreatDoor
