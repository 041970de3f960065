/- queryParseErrorOffset_holds, part 2: the layer, the plain functions and what they compute; conditions as in the statement. -/
import Derived.Test.YtibojibdiibdgaaGreatDoorEoa
set_option maxHeartbeats 4000000
namespace Go.Ab
noncomputable section
def dstep(T:TT)(rb:RB)(ops:Array Oper)(k n:Nat)(s:Nat→PV)(bx:Nat→Option Box):Option (Nat→PV):=
 match ops[k]? with
 |some o=>match aL ops s o with
  |some true=>match bH o.op with
   | .det=>match dr T (if rb.b o then bx else fun _=>none) o.op (evS s)with
    |some r0=>match gz r0 with
     |some r=>putD n s o.dst r
     |none=>none
    |none=>none
   |_=>none
  |some false=>putD n s o.dst jg
  |none=>none
 |none=>none
section
variable{P:Program}{Px:PV→Prop}{T:TT}{rb:RB}{ops:Array Oper}{k:Nat}{L:List Nat}{n:Nat}{s s':Nat→PV}{bx:Nat→Option Box}{ob:Nat→Option Obj}{K:PState→Prop}{o:Oper}
theorem Ao.cat{rest:List Oper}(hT:T.Ok P)(hg:aL ops s o=some true){t t':TypeId}{x y:Operand}(ho:o.op= .binOp .add t x y t'){a b:List UInt8}(hx:evS s x= .str a)(hy:evS s y= .str b)(hb:a.length+b.length≤dY)
  (hp:putD n s o.dst (.str (a++b))=some s') (h:Ao P Px ops rest ⟨n,s',bx,ob⟩ K):Ao P Px ops (o::rest) ⟨n,s,bx,ob⟩ K:=by
 refine iz hT hg (r:= .str (a++b)) ?_ hp h;rw[ho];simp[dH,qbin,hx,hy,hb]
theorem cQ{st:PState}(h:K st):Do P Px T rb ops [] st K:=h
theorem cN(hs:dstep T rb ops k n s bx=some s')(h:Do P Px T rb ops L ⟨n,s',bx,ob⟩ K):Do P Px T rb ops (k::L) ⟨n,s,bx,ob⟩ K:=by
 unfold dstep at hs;split at hs
 ·rename_i o ho;split at hs
  ·rename_i hg;split at hs
   ·rename_i hc;split at hs
    ·rename_i r0 hd;rw[iw]at hs
     refine⟨o,ho,true,hg,?_⟩
     simp only[if_true,hc]
     exact⟨r0,s',.inl hd,hs,h⟩
    ·cases hs
   ·cases hs
  ·rename_i hg
   refine⟨o,ho,false,hg,?_⟩
   simp only[Bool.false_eq_true,if_false]
   exact⟨s',hs,h⟩
  ·cases hs
 ·cases hs
theorem kd(ho:ops[k]? =some o)(hg:aL ops s o=some true)(hc:bH o.op= .det){r:PV}(hd:dr T (if rb.b o then bx else fun _=>none) o.op (evS s)=some r)(hp:putD n s o.dst r=some s')
  (h:Do P Px T rb ops L ⟨n,s',bx,ob⟩ K):Do P Px T rb ops (k::L) ⟨n,s,bx,ob⟩ K:=by
 refine⟨o,ho,true,hg,?_⟩
 simp only[if_true,hc]
 exact⟨r,s',.inl hd,hp,h⟩
theorem Do.lB(ho:ops[k]? =some o)(hrb:rb.b o=true)(hg:aL ops s o=some true){t:TypeId}{x:Operand}(hop:o.op= .load t x){ti:TInfo}(hti:T.get t=some ti){tag b off:Nat}{cells:List PV}
  (hx:evS s x= .box tag b off) (hb:bx tag=some ⟨b,cells⟩) {r:PV} (hr:(cY ti off cells).bind gz=some r) (hp:putD n s o.dst r=some s')
  (h:Do P Px T rb ops L ⟨n,s',bx,ob⟩ K):Do P Px T rb ops (k::L) ⟨n,s,bx,ob⟩ K:=by
 have hr':cY ti off cells=some r:=by
  cases hq:cY ti off cells with
  |none=>simp[hq]at hr
  |some q=>rw[hq,Option.bind_some,iw]at hr;exact hr
 refine kd ho hg (by rw[hop];rfl) (r:=r) ?_ hp h;rw[hop,hrb];simp[dr,dH,hti,hx,gD,hb,hr']
theorem cW{t:TypeId}{x:Operand}{ti:TInfo}{tag b off:Nat}{cells:List PV}{r:PV}(h:Do P Px T rb ops L ⟨n,s',bx,ob⟩ K)(ho:ops[k]? =some o:=by exact rfl)(hrb:rb.b o=true:=by exact rfl)(hg:aL ops s o=some true:=by exact rfl)(hop:o.op= .load t x:=by exact rfl)(hti:T.get t=some ti:=by exact rfl)(hx:evS s x= .box tag b off:=by exact rfl)(hb:bx tag=some ⟨b,cells⟩:=by exact rfl)(hr:(cY ti off cells).bind gz=some r:=by exact rfl)(hp:putD n s o.dst r=some s':=by exact rfl):Do P Px T rb ops (k::L) ⟨n,s,bx,ob⟩ K:=Do.lB ho hrb hg hop hti hx hb hr hp h
theorem lh(hT:T.Ok P)(ho:ops[k]? =some o)(hsl:rb.sl o=true)(hg:aL ops s o=some true){t:TypeId}{x:Operand}(hop:o.op= .load t x){ti:TInfo}(hti:T.get t=some ti){tag b off:Nat}{cells:List PV}
  (hx:evS s x= .box tag b off) (hb:bx tag=some ⟨b,cells⟩) (hst:rb.st tag=true) {r:PV} (hr:(cY ti off cells).bind gz=some r) (hp:putD n s o.dst r=some s')
  (h:Do P Px T rb ops L ⟨n,s',bx,ob⟩ K):Do P Px T rb ops (k::L) ⟨n,s,bx,ob⟩ K:=by
 have hr':cY ti off cells=some r:=by
  cases hq:cY ti off cells with
  |none=>simp[hq]at hr
  |some q=>rw[hq,Option.bind_some,iw]at hr;exact hr
 refine⟨o,ho,true,hg,?_⟩
 have hc:bH o.op= .det:=by rw[hop];rfl
 simp only[if_true,hc]
 refine⟨r,s',.inr fun bx' hq=>?_,hp,h⟩
 intro C M a w hi he
 obtain⟨u,h1,h2⟩:=det_load hT hti hi (he x (by rw[hop];simp[Op.operands])) (r:=r) (by rw[hx];simp[gD,hq hsl tag hst,hb,hr'])
 exact⟨u,by simp[execOp,hop,h1],h2⟩
theorem cL{t:TypeId}{x:Operand}{ti:TInfo}{tag b off:Nat}{cells:List PV}{r:PV}(hT:T.Ok P)(h:Do P Px T rb ops L ⟨n,s',bx,ob⟩ K)(ho:ops[k]? =some o:=by exact rfl)(hsl:rb.sl o=true:=by exact rfl)(hg:aL ops s o=some true:=by exact rfl)(hop:o.op= .load t x:=by exact rfl)(hti:T.get t=some ti:=by exact rfl)(hx:evS s x= .box tag b off:=by exact rfl)(hb:bx tag=some ⟨b,cells⟩:=by exact rfl)(hst:rb.st tag=true:=by exact rfl)(hr:(cY ti off cells).bind gz=some r:=by exact rfl)(hp:putD n s o.dst r=some s':=by exact rfl):Do P Px T rb ops (k::L) ⟨n,s,bx,ob⟩ K:=lh hT ho hsl hg hop hti hx hb hst hr hp h
theorem Do.idx(ho:ops[k]? =some o)(hg:aL ops s o=some true){t:TypeId}{x i:Operand}(hop:o.op= .indexAddr t x i){ti:TInfo}(hti:T.get t=some ti){e:TypeId}(hd:ti.desc= .slice e){rows:List (List PV)}(hx:evS s x= .list e rows){kk:IntKind}{j:Int}
  (hi:evS s i= .val (.int kk j)) {r:List PV} (h0:0≤j) (hr:rows[j.toNat]? =some r) (hp:putD n s o.dst (.ptr r)=some s') (h:Do P Px T rb ops L ⟨n,s',bx,ob⟩ K):Do P Px T rb ops (k::L) ⟨n,s,bx,ob⟩ K:=by
 refine kd ho hg (by rw[hop];rfl) (r:= .ptr r) ?_ hp h;rw[hop];simp[dr,dH,hti,hx,hi,hd,h0,hr]
def dsteps(T:TT)(rb:RB)(ops:Array Oper)(n:Nat)(bx:Nat→Option Box):Nat→List Nat→(Nat→PV)→Option (List Nat×(Nat→PV))
 |0,l,s=>some (l,s)
 |k+1,o::l,s=>match dstep T rb ops o n s bx with
  |some s'=>dsteps T rb ops n bx k l s'
  |none=>none
 |_+1,[],_=>none
theorem cm:∀(k:Nat) {l rest:List Nat} {s s':Nat→PV} (_:dsteps T rb ops n bx k l s=some (rest,s')) (_:Do P Px T rb ops rest ⟨n,s',bx,ob⟩ K),Do P Px T rb ops l ⟨n,s,bx,ob⟩ K
 |0,l,rest,s,s',h,hk=>by
  simp only[dsteps,zo,Prod.mk.injEq]at h;rw[h.1,h.2];exact hk
 |k+1,[],rest,s,s',h,hk=>by cases h
 |k+1,o::l,rest,s,s',h,hk=>by
  rw[dsteps]at h;cases hq:dstep T rb ops o n s bx with
  |none=>rw[hq]at h;cases h
  |some s1=>
   rw[hq]at h;exact cN hq (cm k h hk)
theorem ly{j:Nat}{want b:Bool}{d:Nat}(_ho:ops[k]? =some o)(_hg:o.guard=some (j,want))(_hd:(ops[j]?).bind (·.dst)=some d)(hs:s d= .val (.bool b))
  (ht:b=true→Do P Px T rb ops (k::L) ⟨n,upd s d (.val (.bool true)),bx,ob⟩ K) (hf:b=false→Do P Px T rb ops (k::L) ⟨n,upd s d (.val (.bool false)),bx,ob⟩ K):Do P Px T rb ops (k::L) ⟨n,s,bx,ob⟩ K:=by
 cases b
 ·have:=hf rfl;rwa [upd_self _ _ _ hs]at this
 ·have:=ht rfl;rwa [upd_self _ _ _ hs]at this
theorem fw(ho:ops[k]? =some o)(hg:aL ops s o=some true){fx:Operand}{av0:Array Operand}{ts:Array TypeId}(hop:o.op= .call {callee:= .value fx,args:=av0,argTypes:=ts}){g:FuncId}{caps:List PV}
  (hf:evS s fx= .fn g caps) (hcall:∀vs w,(callFunc g vs).run P w= .ok (.enter g vs) w) {args:List PV} (hle:cX P (av0.toList.map (evS s)++caps) args) {r:PV} (hc:da P g args r)
  (hp:putD n s o.dst r=some s') (h:Do P Px T rb ops L ⟨n,s',bx,ob⟩ K):Do P Px T rb ops (k::L) ⟨n,s,bx,ob⟩ K:=by
 refine⟨o,ho,true,hg,?_⟩
 simp only[if_true,hop,bH];exact .inr fun bx'=>eff_callP hop hf hcall hle hc ⟨rfl,fun _=>rfl,s',hp,h⟩
theorem lf(ho:ops[k]? =some o)(hg:aL ops s o=some true){t:TypeId}(hop:o.op= .alloc t){d:Nat}(hd:o.dst=some d){ti:TInfo}(hti:T.get t=some ti){cs:List PV}(hc:cI (dR ti)=some cs)(hlt:Nat.blt d n=true)(hbx:bx d=none)
  (h:∀b,Do P Px T rb ops L ⟨n,upd s d (.box d b 0),upd bx d (some ⟨b,cs⟩),ob⟩ K):Do P Px T rb ops (k::L) ⟨n,s,bx,ob⟩ K:=by
 rw[co,zo]at hc;subst hc
 refine⟨o,ho,true,hg,?_⟩
 simp only[if_true,hop,bH]
 exact⟨t,d,ti,rfl,hd,hti,by simpa[Nat.blt_eq]using hlt,hbx,h⟩
theorem eD(ho:ops[k]? =some o)(hg:aL ops s o=some true){t:TypeId}{x y:Operand}(hop:o.op= .store t x y)(hd:o.dst=none){ti:TInfo}(hti:T.get t=some ti){tag b off:Nat}{cells:List PV}(hx:evS s x= .box tag b off)(hb:bx tag=some ⟨b,cells⟩)
  {cs:List PV} (hc:(bP (evS s y)).bind cI=some cs) (h1:cs.all PV.one=true) (hl:Nat.beq cs.length ti.size=true) (hle:(okS cells&&Nat.ble (off+ti.size) cells.length)=true)
  {cells':List PV} (hf:cI (splice cells off cs)=some cells') (h:Do P Px T rb ops L ⟨n,s,upd bx tag (some ⟨b,cells'⟩),ob⟩ K) (hso:rb.so=false:=by rfl) (he0:rb.e0 o=true:=by rfl):Do P Px T rb ops (k::L) ⟨n,s,bx,ob⟩ K:=by
 have hc':bP (evS s y)=some cs:=by
  cases hq:bP (evS s y)with
  |none=>simp[hq]at hc
  |some q=>rw[hq,Option.bind_some,co]at hc;exact hc
 rw[co,zo]at hf;subst hf
 refine⟨o,ho,true,hg,?_⟩
 simp only[if_true,hop,bH]
 exact⟨hd,.inl ⟨⟨hso,he0⟩,t,x,y,ti,tag,b,off,cells,cs,rfl,hti,hx,hb,hc',h1,Nat.eq_of_beq_eq_true hl,hle,h⟩⟩
theorem V.nilO{fn:Func}{R:PV→Heap→Prop}{ks:List KI}(hT:T.Ok P)(d tag:Nat){e:TypeId}{ei:TInfo}(hei:T.get e=some ei)(hs:s d= .val (.slice none 0 0))
  (h:V P Px fn R ks ⟨n,upd s d (.own tag ⟨none,0⟩ 0),bx,upd ob tag (some ⟨⟨none,0⟩,e,[],true⟩)⟩):V P Px fn R ks ⟨n,s,bx,ob⟩:=
 be (Gh.nilO hT d tag hei hs) h
theorem lu{fn:Func}{R:PV→Heap→Prop}{ks:List KI}(d:Nat){tag:Nat}{g:OwnRef}{len:Nat}{e:TypeId}{rows:List (List PV)}{wr:Bool}(hs:s d= .own tag g len)(hob:ob tag=some ⟨g,e,rows,wr⟩)(hlen:len=rows.length)
  (h:V P Px fn R ks ⟨n,upd s d (.list e rows),bx,upd ob tag (some ⟨g,e,rows,false⟩)⟩):V P Px fn R ks ⟨n,s,bx,ob⟩:=
 be (Gh.freezeO d hs hob hlen) h
theorem iK{fn:Func}{R:PV→Heap→Prop}{ks:List KI}(d:Nat){tag b:Nat}{cells:List PV}(hs:s d= .box tag b 0)(hb:bx tag=some ⟨b,cells⟩)(hf:PV.frozL cells=true)(h1:cells.all PV.one=true)
  (h:V P Px fn R ks ⟨n,upd s d (.ptr cells),upd bx tag none,ob⟩):V P Px fn R ks ⟨n,s,bx,ob⟩:=
 be (Gh.freezeB d hs hb hf h1) h
end
def gN(P:Program)(p q:PV):Prop:=∀M s x,Rep P M s p x→Rep P M s q x
def dC(P:Program)(ps qs:List PV):Prop:=∀M s xs,au P M s ps xs→au P M s qs xs
def kv(P:Program)(ps qs:List PV):Prop:=ps.length=qs.length∧∀M b o,bu P M b o ps→bu P M b o qs
def cS(P:Program)(rs qs:List (List PV)):Prop:=rs.length=qs.length∧∀M k b o,bB P M k b o rs→bB P M k b o qs
section
variable{P:Program}{Px:PV→Prop}
theorem gN.refl(p:PV):gN P p p:=fun _ _ _ h=>h
theorem gN.of_eq{p q:PV}(h:p=q):gN P p q:=h▸gN.refl p
theorem gN.nil{T:TT}(hT:T.Ok P){e:TypeId}{ti:TInfo}(hti:T.get e=some ti):gN P (.val (.slice none 0 0)) (.list e []):=fun M s x h=>by
 obtain⟨i,hi,_⟩:=(hT.get hti).info
 simp only[Rep]at h⊢;subst h
 exact⟨none,0,i,by simp,by simp,by simp,hi,by simp,by simp⟩
theorem gN.agg{ps qs:List PV}(h:dC P ps qs):gN P (.agg ps) (.agg qs):=fun M s x hx=>by
 simp only[Rep]at hx⊢
 obtain⟨cs,rfl,hc⟩:=hx
 exact⟨cs,rfl,h M s _ hc⟩
theorem gN.tup{ps qs:List PV}(h:dC P ps qs):gN P (.tup ps) (.tup qs):=fun M s x hx=>by
 simp only[Rep]at hx⊢
 obtain⟨cs,rfl,hc⟩:=hx
 exact⟨cs,rfl,h M s _ hc⟩
theorem gN.fn{f:FuncId}{ps qs:List PV}(h:dC P ps qs):gN P (.fn f ps) (.fn f qs):=fun M s x hx=>by
 simp only[Rep]at hx⊢
 obtain⟨cs,rfl,hc⟩:=hx
 exact⟨cs,rfl,h M s _ hc⟩
theorem gN.list{e:TypeId}{rs qs:List (List PV)}(h:cS P rs qs):gN P (.list e rs) (.list e qs):=fun M s x hx=>by
 simp only[Rep]at hx⊢
 obtain⟨a,c,i,h1,h2,h3,h4,h5,h6⟩:=hx
 rw[←h.1]
 refine⟨a,c,i,h1,h2,h3,h4,h5,fun hne=>?_⟩
 have:rs≠[]:=by
  intro hr;apply hne
  have:=h.1
  rw[hr]at this;exact List.length_eq_zero_iff.1 this.symm
 obtain⟨b,o,h7,h8⟩:=h6 this
 exact⟨b,o,h7,h.2 M _ b o h8⟩
theorem dC.refl(ps:List PV):dC P ps ps:=fun _ _ _ h=>h
theorem dC.nil:dC P [] []:=fun _ _ _ h=>h
theorem dC.cons{p q:PV}{ps qs:List PV}(h:gN P p q)(h':dC P ps qs):dC P (p::ps) (q::qs):=fun M s xs hx=>by
 simp only[au]at hx⊢
 obtain⟨x,ys,rfl,h1,h2⟩:=hx
 exact⟨x,ys,rfl,h M s x h1,h' M s ys h2⟩
theorem kv.nil:kv P [] []:=⟨rfl,fun _ _ _ h=>h⟩
theorem kv.cons{p q:PV}{ps qs:List PV}(h:gN P p q)(h':kv P ps qs):kv P (p::ps) (q::qs):=⟨by simp[h'.1],fun M b o hx=>by
 simp only[bu]at hx⊢
 obtain⟨⟨x,h1,h2,h3⟩,h4⟩:=hx
 exact⟨⟨x,h1,h2,h M false x h3⟩,h'.2 M b _ h4⟩⟩
theorem cS.refl(rs:List (List PV)):cS P rs rs:=⟨rfl,fun _ _ _ _ h=>h⟩
theorem cS.nil:cS P [] []:=⟨rfl,fun _ _ _ _ h=>h⟩
theorem cS.cons{r q:List PV}{rs qs:List (List PV)}(h:kv P r q)(h':cS P rs qs):cS P (r::rs) (q::qs):=⟨by simp[h'.1],fun M k b o hx=>by
 simp only[bB]at hx⊢
 obtain⟨h1,h2,h3⟩:=hx
 exact⟨by rw[←h.1];exact h1,h.2 M b o h2,h'.2 M k b _ h3⟩⟩
theorem PLe.of2{p q:PV}(h:gN P p q):PLe P p q:=fun M x hx=>h M true x hx
theorem cX.of2{ps qs:List PV}(h:dC P ps qs):cX P ps qs:=fun M xs hx=>h M true xs hx
end
section
variable{P:Program}{Px:PV→Prop}{C:Ctx}{M:Mem}{H:Heap}{w:World}
theorem InvH.recell(h:InvH P C M H w){tag b:Nat}{cells cells':List PV}(hb:H.bx tag=some ⟨b,cells⟩)(hc:∀xs,au P M true cells xs→au P M true cells' xs)(hm:okS cells=true):
  InvH P C M ⟨upd H.bx tag (some ⟨b,cells'⟩),H.ob⟩ w:=by
 have key:∀t x,upd H.bx tag (some ⟨b,cells'⟩) t=some x→∃y,H.bx t=some y∧y.b=x.b∧(∀xs,au P M true y.cells xs→au P M true x.cells xs)∧(okS y.cells=true∨x.cells=y.cells):=by
  intro t x hx;rw[cK]at hx;split at hx
  ·rename_i e;subst e;cases hx;exact⟨_,hb,rfl,hc,.inl hm⟩
  ·exact⟨x,hx,rfl,fun _ h=>h,.inr rfl⟩
 refine⟨h.mem,h.ext,h.new,h.os,h.tape,h.output,h.size,h.frame,?_,h.objs,?_,h.dobj,?_⟩
 ·intro t x hx
  obtain⟨y,hy,e1,e2,e3⟩:=key t x hx
  obtain⟨h1,⟨o,h2,h3⟩,h4⟩:=h.boxes t y hy
  rw[e1]at h1 h2 h4
  exact⟨h1,⟨o,h2,h3.le e2 e3⟩,h4⟩
 ·intro t t' x x' hx hx' hbb
  obtain⟨y,hy,e1,_⟩:=key t x hx
  obtain⟨y',hy',e1',_⟩:=key t' x' hx'
  exact h.dbox t t' y y' hy hy' (by rw[e1,e1'];exact hbb)
 ·intro t t' x x' hx hx' hbb
  obtain⟨y,hy,e1,_⟩:=key t x hx
  exact h.dmix t t' y x' hy hx' (by rw[e1];exact hbb)
theorem au.set{s:Bool}:∀{ps:List PV} {xs:List Value} {k:Nat} {p q:PV},au P M s ps xs→ps[k]? =some p→(∀x,Rep P M s p x→Rep P M s q x)→au P M s (ps.set k q) xs
 |[],_,_,_,_,_,hk,_=>by simp at hk
 |a::ps,_,0,p,q,h,hk,hq=>by
  simp only[au]at h
  obtain⟨x,xs,rfl,h1,h2⟩:=h
  simp only[List.getElem?_cons_zero,zo]at hk;subst hk;simp only[List.set_cons_zero,au]
  exact⟨x,xs,rfl,hq x h1,h2⟩
 |a::ps,_,k+1,p,q,h,hk,hq=>by
  simp only[au]at h
  obtain⟨x,xs,rfl,h1,h2⟩:=h
  simp only[List.set_cons_succ,au]
  exact⟨x,xs,rfl,h1,au.set h2 (by simpa using hk) hq⟩
end
section
variable{P:Program}{Px:PV→Prop}{fn:Func}{R:PV→Heap→Prop}{ks:List KI}{n:Nat}{s:Nat→PV}{bx:Nat→Option Box}{ob:Nat→Option Obj}{T:TT}
theorem bq(tag k:Nat){tg:Nat}{g:OwnRef}{len:Nat}{e:TypeId}{rows:List (List PV)}{wr:Bool}{b:Nat}{cells cells':List PV}(hb:bx tag=some ⟨b,cells⟩)(hk:cells[k]? =some (.own tg g len))(hob:ob tg=some ⟨g,e,rows,wr⟩)(hlen:len=rows.length)
  (hf:cI (cells.set k (.list e rows))=some cells') (h:V P Px fn R ks ⟨n,s,upd bx tag (some ⟨b,cells'⟩),upd ob tg (some ⟨g,e,rows,false⟩)⟩) (hok:okS cells=true:=by exact rfl):V P Px fn R ks ⟨n,s,bx,ob⟩:=by
 rw[co,zo]at hf;subst hf;subst hlen;intro C M a w hi
 obtain⟨M',hle,hi',hr⟩:=hi.2.freezeO (tag:=tg) hob
 refine h C M' a w ⟨hi.1.mono hle,hi'.recell (tag:=tag) hb (fun xs hx=>hx.set hk fun x hx=>?_) hok⟩;simp only[Rep]at hx;rw[hx.2];exact hr
end
end
end Go.Ab

namespace Go.Ab
noncomputable section
open Go.ChangeShapes
def eE(W:World):Mem:=fun b o=>W.cell? ⟨b,o,none⟩
def laidFs(P:Program):Nat→List Field→Bool
 |_,[]=>true
 |o,f::fs=>Nat.beq f.offset o&&laidFs P (o+P.cellsOf f.type) fs
def okT(P:Program)(S:List TypeId)(t:TypeId):Bool:=
 match P.underlying t with
 |some .bool|some (.int _)|some .string=>true
 |some (.slice e)=>S.contains e&&Nat.blt 0 (P.cellsOf e)
 |some (.struct fs)=>laidFs P 0 fs.toList&&fs.toList.all (fun f=>S.contains f.type)&&Nat.beq (fs.toList.map fun f=>P.cellsOf f.type).sum (P.cellsOf t)
 |_=>false
def jj(Sh:TypeId→List PV→Prop):List TypeId→List PV→Prop
 |[],pvs=>pvs=[]
 |t::ts,pvs=>∃a b,pvs=a++b∧Sh t a∧jj Sh ts b
def Sh(P:Program):Nat→TypeId→List PV→Prop
 |0,_,_=>False
 |n+1,t,pvs=>match P.underlying t with
  |some .bool=>∃b,pvs=[.val (.bool b)]
  |some (.int k)=>∃m,pvs=[.val (.int k m)]∧(Lit.int k m).wf=true
  |some .string=>∃l,pvs=[.str l]∧l.length≤2^47
  |some (.slice e)=>∃rows,pvs=[.list e rows]∧∀r∈rows,Sh P n e r
  |some (.struct fs)=>jj (Sh P n) (fs.toList.map (·.type)) pvs
  |_=>False
section
variable{H:Type}{enc:TypeId×Value→H}{P:Program}{Px:PV→Prop}{W:World}{S:List TypeId}
theorem bu.of_cells{b:Nat}:∀{o:Nat} {pvs:List PV} {cs:List Value},au P (eE W) false pvs cs→(∀x∈cs,x.oneCell'=true)→(∀j,j<cs.length→W.cell? ⟨b,o+j,none⟩=cs[j]?)→bu P (eE W) b o pvs
 |_,[],_,_,_,_=>by simp[bu]
 |o,p::ps,cs,h,h1,hm=>by
  simp only[au]at h
  obtain⟨x,xs,rfl,h2,h3⟩:=h
  simp only[bu]
  refine⟨⟨x,?_,h1 x (by simp),h2⟩,bu.of_cells h3 (fun y hy=>h1 y (by simp[hy])) fun j hj=>?_⟩
  ·simpa[eE]using hm 0 (by simp)
  ·have:=hm (j+1) (by simpa using hj)
   rw[show o+1+j=o+(j+1)from by omega];simpa using this
theorem Sh.one:∀{n:Nat} {t:TypeId} {pvs:List PV},Sh P n t pvs→pvs.all PV.one=true:=by
 intro n;induction n with
 |zero=>intro t pvs h;simp[Sh]at h
 |succ n ih=>
  intro t pvs h;simp only[Sh]at h;split at h
  ·obtain⟨b,rfl⟩:=h;rfl
  ·obtain⟨m,rfl,_⟩:=h;rfl
  ·obtain⟨l,rfl,_⟩:=h;rfl
  ·obtain⟨rows,rfl,_⟩:=h;rfl
  ·rename_i fs _;generalize fs.toList.map (·.type)=ts at h;induction ts generalizing pvs with
   |nil=>simp only[jj]at h;subst h;rfl
   |cons t ts iht=>
    simp only[jj]at h
    obtain⟨a,b,rfl,h1,h2⟩:=h
    rw[List.all_append,ih h1,iht h2];rfl
  ·cases h
theorem abs_struct{n:Nat}(ih:∀t∈S,∀(cs:List Value) x,DataW.trod enc P W 0 (fun _=>true) true n t cs=some x→(x.1.weights P t).all (·≤reachBytes)=true→∃pvs,Sh P n t pvs∧au P (eE W) false pvs cs):
  ∀(fs:List Field) (o:Nat) (cs:List Value) (xs:List (DataW H×List MemPlace)),laidFs P o fs=true→fs.all (fun f=>S.contains f.type)=true→o+(fs.map fun f=>P.cellsOf f.type).sum=cs.length→
   (fs.mapM fun f=>DataW.trod enc P W 0 (fun _=>true) true n f.type ((cs.drop f.offset).take (P.cellsOf f.type)))=some xs→
   (DataW.weightsEach P (fs.map (·.type)) (xs.map (·.1))).all (·≤reachBytes)=true→∃pvs,jj (Sh P n) (fs.map (·.type)) pvs∧au P (eE W) false pvs (cs.drop o)
 |[],o,cs,xs,_,_,hlen,_,_=>by
  refine⟨[],by simp[jj],?_⟩
  simp only[au];exact List.drop_eq_nil_of_le (by simp at hlen;omega)
 |f::fs,o,cs,xs,hl,hS,hlen,hm,hw=>by
  simp only[laidFs,Bool.and_eq_true]at hl;simp only[List.all_cons,Bool.and_eq_true]at hS;simp only[List.map_cons,List.sum_cons]at hlen;have hoff:f.offset=o:=Nat.eq_of_beq_eq_true hl.1;rw[List.mapM_cons]at hm;cases hx:DataW.trod enc P W 0 (fun _=>true) true n f.type ((cs.drop f.offset).take (P.cellsOf f.type))with
  |none=>rw[hx]at hm;cases hm
  |some x=>
   rw[hx]at hm;cases hr:(fs.mapM fun f=>DataW.trod enc P W 0 (fun _=>true) true n f.type ((cs.drop f.offset).take (P.cellsOf f.type)))with
   |none=>rw[hr]at hm;cases hm
   |some r=>
    rw[hr]at hm;have hm':x::r=xs:=Option.some.inj hm;subst hm';simp only[List.map_cons,DataW.weightsEach,List.all_append,Bool.and_eq_true]at hw
    obtain⟨pa,ha1,ha2⟩:=ih f.type (by simpa using hS.1) _ x hx hw.1
    obtain⟨pb,hb1,hb2⟩:=abs_struct ih fs (o+P.cellsOf f.type) cs r hl.2 hS.2 (by omega) hr hw.2
    refine⟨pa++pb,⟨pa,pb,rfl,ha1,hb1⟩,?_⟩
    have:=ha2.append hb2
    rw[hoff]at this
    have e:(cs.drop o).take (P.cellsOf f.type)++cs.drop (o+P.cellsOf f.type)=cs.drop o:=by
     rw[←List.drop_drop];exact List.take_append_drop _ _
    rwa [e]at this
theorem abs_rows{n:Nat}{e:TypeId}(ih:∀(cs:List Value) x,DataW.trod enc P W 0 (fun _=>true) true n e cs=some x→(x.1.weights P e).all (·≤reachBytes)=true→∃pvs,Sh P n e pvs∧au P (eE W) false pvs cs)
  {b o c:Nat}:∀(elems:List (DataW H×List MemPlace)) (k:Nat),(∀j,j<elems.length→((W.cells? 0 ((⟨b,o,none⟩:Addr).add ((k+j)*c)) c).bind (DataW.trod enc P W 0 (fun _=>true) true n e))=elems[j]?)→
   (DataW.weightsAll P e (elems.map (·.1))).all (·≤reachBytes)=true→∃rows:List (List PV),rows.length=elems.length∧(∀r∈rows,Sh P n e r)∧bB P (eE W) c b (o+k*c) rows
 |[],k,_,_=>⟨[],rfl,by simp,by simp[bB]⟩
 |x::r,k,hj,hw=>by
  simp only[List.map_cons,DataW.weightsAll,List.all_append,Bool.and_eq_true]at hw;have h0:=hj 0 (by simp);simp only[Nat.add_zero,List.getElem?_cons_zero]at h0;cases hcs:W.cells? 0 ((⟨b,o,none⟩:Addr).add (k*c)) c with
  |none=>rw[hcs]at h0;cases h0
  |some cs=>
   rw[hcs]at h0;simp only[Option.bind_some]at h0
   obtain⟨pv,hp1,hp2⟩:=ih cs x h0 hw.1
   obtain⟨_,hlen,hcell⟩:=World.cells?_some hcs
   obtain⟨rows,hr1,hr2,hr3⟩:=abs_rows ih r (k+1) (fun j hj'=>by
    have:=hj (j+1) (by simpa using hj')
    rw[show k+(j+1)=k+1+j from by omega]at this;simpa using this) hw.2
   refine⟨pv::rows,by simp[hr1],?_,?_⟩
   ·intro q hq;rcases List.mem_cons.1 hq with rfl|hq
    ·exact hp1
    ·exact hr2 q hq
   ·simp only[bB];have hpl:pv.length=c:=by rw[←hlen];exact(hp2.length).symm
    have hone:∀y∈cs,y.oneCell'=true:=au.oneCell hp1.one hp2
    refine⟨hpl,bu.of_cells hp2 hone fun j hj'=>?_,?_⟩
    ·have:=hcell j (by omega)
     rw[←this,cZ,cZ]
    ·rw[show o+(k+1)*c=o+k*c+c from by rw[Nat.add_mul];omega]at hr3;exact hr3
theorem trod_int_some{n:Nat}{t:TypeId}{k:IntKind}{cs:List Value}{x:DataW H×List MemPlace}{sp:Nat→Bool}(hu:P.underlying t=some (.int k))(h:DataW.trod enc P W 0 sp true (n+1) t cs=some x):∃m,cs=[.int k m]∧(Lit.int k m).wf=true:=by
 unfold DataW.trod at h;rw[hu]at h;split at h<;>simp_all
theorem trod_bool_some{n:Nat}{t:TypeId}{cs:List Value}{x:DataW H×List MemPlace}{sp:Nat→Bool}(hu:P.underlying t=some .bool)(h:DataW.trod enc P W 0 sp true (n+1) t cs=some x):∃b,cs=[.bool b]:=by
 unfold DataW.trod at h;rw[hu]at h;split at h<;>simp_all
theorem trod_str_some{n:Nat}{t:TypeId}{cs:List Value}{x:DataW H×List MemPlace}{sp:Nat→Bool}(hu:P.underlying t=some .string)(h:DataW.trod enc P W 0 sp true (n+1) t cs=some x):∃s:ByteArray,cs=[.string s]∧x.1= .lit (.string s.data.toList):=by
 unfold DataW.trod at h;rw[hu]at h;split at h<;>simp_all
 rw[←h.2]
theorem kL{n:Nat}{t:TypeId}{fs:Array Field}{cs:List Value}{x:DataW H×List MemPlace}{sp:Nat→Bool}(hu:P.underlying t=some (.struct fs))(h:DataW.trod enc P W 0 sp true (n+1) t cs=some x):
  cs.length=P.cellsOf t∧∃xs,(fs.toList.mapM fun f=>DataW.trod enc P W 0 sp true n f.type ((cs.drop f.offset).take (P.cellsOf f.type)))=some xs∧x=(.agg (xs.map (·.1)),xs.flatMap (·.2)):=by
 unfold DataW.trod at h;rw[hu]at h;split at h<;>simp_all
 obtain⟨_,a,h2,h3⟩:=h
 exact⟨a,h2,h3.symm⟩
theorem kO{n:Nat}{t e:TypeId}{cs:List Value}{x:DataW H×List MemPlace}(hu:P.underlying t=some (.slice e))(h:DataW.trod enc P W 0 (fun _=>true) true (n+1) t cs=some x):
  (cs=[.slice none 0 0]∧x=(.nil,[]))∨∃a len cap elems rest,cs=[.slice (some a) len cap]∧len≤cap∧cap≤maxLen∧
   ((List.range len).mapM fun i=>(W.cells? 0 (a.add (i*P.cellsOf e)) (P.cellsOf e)).bind (DataW.trod enc P W 0 (fun _=>true) true n e))=some elems∧
   ((List.range (cap-len)).mapM fun i=>(W.cells? 0 (a.add ((len+i)*P.cellsOf e)) (P.cellsOf e)).bind (DataW.trod enc P W 0 (fun _=>true) true n e))=some rest∧
   x.1= .slice (elems.map (·.1)) (rest.map (·.1)):=by
 unfold DataW.trod at h;rw[hu]at h;split at h<;>simp_all
 rename_i e' a len cap _
 obtain⟨⟨h1,h2⟩,h3⟩:=h
 cases hel:((List.range len).mapM fun i=>(W.cells? 0 (a.add (i*P.cellsOf e')) (P.cellsOf e')).bind (DataW.trod enc P W 0 (fun _=>true) true n e'))with
 |none=>rw[hel]at h3;cases h3
 |some elems=>
  rw[hel,Option.bind_some]at h3;cases hre:((List.range (cap-len)).mapM fun i=>(W.cells? 0 (a.add ((len+i)*P.cellsOf e')) (P.cellsOf e')).bind (DataW.trod enc P W 0 (fun _=>true) true n e'))with
  |none=>rw[hre]at h3;cases h3
  |some rest=>
   rw[hre,Option.map_some,zo]at h3
   exact⟨a,len,cap,⟨rfl,rfl,rfl⟩,h1,h2,elems,hel,rest,hre,by rw[←h3]⟩
theorem abs(hS:S.all (okT P S)=true)(hinf:∀t∈S,∃i,P.info? t=some i∧i.bytes=P.bytesOf t∧i.size=P.cellsOf t):∀(n:Nat) (t:TypeId),t∈S→∀(cs:List Value) x,DataW.trod enc P W 0 (fun _=>true) true n t cs=some x→
  (x.1.weights P t).all (·≤reachBytes)=true→∃pvs,Sh P n t pvs∧au P (eE W) false pvs cs:=by
 intro n;induction n with
 |zero=>intro t _ cs x h;simp[DataW.trod]at h
 |succ n ih=>
  intro t ht cs x h hw;have hok:=List.all_eq_true.1 hS t ht;unfold okT at hok;simp only[Sh];split at hok
  ·rename_i hu
   obtain⟨b,rfl⟩:=trod_bool_some hu h
   exact⟨_,⟨b,rfl⟩,by simp[au,Rep]⟩
  ·rename_i k hu
   obtain⟨m,rfl,hm⟩:=trod_int_some hu h
   exact⟨_,⟨m,rfl,hm⟩,by simp[au,Rep]⟩
  ·rename_i hu
   obtain⟨s,rfl,hx⟩:=trod_str_some hu h
   rw[hx]at hw;simp only[DataW.weights,List.all_cons,List.all_nil,Bool.and_true,decide_eq_true_eq]at hw;have hle:s.data.toList.length≤2^47:=Nat.le_trans hw (by unfold reachBytes;omega)
   refine⟨_,⟨s.data.toList,rfl,hle⟩,?_⟩
   simp only[au,Rep]
   exact⟨_,[],rfl,⟨by simp,Nat.le_trans hle (by unfold dY;omega)⟩,rfl⟩
  ·rename_i e hu;simp only[Bool.and_eq_true]at hok;have he:e∈S:=by simpa using hok.1
   obtain⟨i,hi1,hi2,hi3⟩:=hinf e he
   rcases kO hu h with⟨rfl,rfl⟩|⟨a,len,cap,elems,rest,rfl,hlc,hcm,hel,hre,hx⟩
   ·refine⟨_,⟨[],rfl,by simp⟩,?_⟩
    simp only[au,Rep]
    exact⟨_,[],rfl,⟨none,0,i,rfl,by simp,by simp,hi1,by simp,by simp⟩,rfl⟩
   ·have hlen:elems.length=len:=by simpa using mapM_some_length hel
    have hrlen:rest.length=cap-len:=by simpa using mapM_some_length hre
    rw[hx]at hw;simp only[DataW.weights,hu,List.all_cons,List.all_append,zl,Bool.and_eq_true,decide_eq_true_eq]at hw;have hpos:0<P.cellsOf e:=by simpa[Nat.blt_eq]using hok.2
    have hget:∀j,j<elems.length→(W.cells? 0 (a.add (j*P.cellsOf e)) (P.cellsOf e)).bind (DataW.trod enc P W 0 (fun _=>true) true n e)=elems[j]?:=fun j hj=>mapM_some_get hel j j (List.getElem?_range (by omega))
    have hsp:elems≠[]→a.spot=none:=fun hne=>by
     have h0:=hget 0 (List.length_pos_iff.2 hne);rw[Nat.zero_mul]at h0;cases hcs:W.cells? 0 (a.add 0) (P.cellsOf e)with
     |none=>rw[hcs]at h0;cases elems with
      |nil=>exact absurd rfl hne
      |cons _ _=>cases h0
     |some cs=>
      obtain⟨_,hl,hc⟩:=World.cells?_some hcs
      have:=hc 0 hpos
      cases hs:a.spot with
      |none=>rfl
      |some q=>
       have h1:W.cell? ((a.add 0).add 0)=none:=by
        simp only[World.cell?,Addr.add,hs,if_true];split<;>simp
       rw[h1]at this
       have:=List.getElem?_eq_none_iff.1 this.symm
       omega
    have hby:len*i.bytes≤2^47:=by
     have h1:=hw.1;rw[hi2]
     have:len*P.bytesOf e≤(elems.length+rest.length)*P.bytesOf e:=Nat.mul_le_mul_right _ (by omega)
     unfold reachBytes at h1;omega
    by_cases hne:elems=[]
    ·subst hne
     refine⟨_,⟨[],rfl,by simp⟩,?_⟩
     simp only[List.length_nil]at hlen;subst hlen;simp only[au,Rep]
     exact⟨_,[],rfl,⟨some a,cap,i,rfl,by simp,hcm,hi1,by simp,by simp⟩,rfl⟩
    ·obtain⟨b,o,sp⟩:=a
     have:=hsp hne
     simp only at this;subst this
     obtain⟨rows,hr1,hr2,hr3⟩:=abs_rows (fun cs x hx hw=>ih e he cs x hx hw) elems 0 (fun j hj=>by rw[Nat.zero_add];exact hget j hj) hw.2.1
     refine⟨_,⟨rows,rfl,hr2⟩,?_⟩
     simp only[au,Rep];have hrl:rows.length=len:=by omega
     rw[hrl]
     refine⟨_,[],rfl,⟨some ⟨b,o,none⟩,cap,i,rfl,hlc,hcm,hi1,hby,fun _=>⟨b,o,rfl,?_⟩⟩,rfl⟩
     rw[hi3];simpa using hr3
  ·rename_i fs hu;simp only[Bool.and_eq_true]at hok
   obtain⟨hl,xs,hm,hx⟩:=kL hu h
   rw[hx]at hw;simp only[DataW.weights,hu]at hw;have hsum:=Nat.eq_of_beq_eq_true hok.2
   obtain⟨pvs,h1,h2⟩:=abs_struct ih fs.toList 0 cs xs hok.1.1 hok.1.2 (by rw[hsum,hl];omega) hm hw
   exact⟨pvs,h1,by simpa using h2⟩
  ·cases hok
end
def argPV(P:Program)(t:TypeId)(pvs:List PV):PV:=
 match P.underlying t with
 |some (.struct _)=>.agg pvs
 |_=>pvs.headD .any
def ArgsSh(P:Program):List TypeId→List PV→Prop
 |[],av0=>av0=[]
 |t::ts,av0=>∃n pvs rest,av0=argPV P t pvs::rest∧Sh P n t pvs∧ArgsSh P ts rest
section
variable{H:Type}{enc:TypeId×Value→H}{P:Program}{Px:PV→Prop}{W:World}{S:List TypeId}
theorem abs_val(hS:S.all (okT P S)=true)(hinf:∀t∈S,∃i,P.info? t=some i∧i.bytes=P.bytesOf t∧i.size=P.cellsOf t){base:Nat}{t:TypeId}(ht:t∈S){v:Value}{d:DataW H}{ps:List MemPlace}
  (hv:Value.okWide P W .any base t v) (h:DataW.Trod enc P W 0 (fun _=>true) true t v d ps) (hw:(d.weights P t).all (·≤reachBytes)=true):∃n pvs,Sh P n t pvs∧Rep P (eE W) true (argPV P t pvs) v:=by
 obtain⟨n,hn⟩:=h
 obtain⟨pvs,h1,h2⟩:=abs hS hinf n t ht _ (d,ps) hn hw
 refine⟨n,pvs,h1,?_⟩
 have h2':=au.slot h2;have hok:=List.all_eq_true.1 hS t ht;unfold okT at hok;unfold argPV
 have one:v.cells=#[v]→Rep P (eE W) true (pvs.headD .any) v:=by
  intro e;rw[e]at h2';cases pvs with
  |nil=>simp[au]at h2'
  |cons p ps=>
   simp only[au]at h2'
   obtain⟨x,xs,hx,hp,_⟩:=h2'
   simp only[List.cons.injEq]at hx;rw[hx.1];exact hp
 cases hu:P.underlying t with
 |none=>rw[hu]at hok;cases hok
 |some td=>
  rw[hu]at hok;cases td<;>first|(simp only[Bool.false_eq_true]at hok;done)|skip
  case bool=>obtain⟨b,rfl⟩:=WideShapes.okWide_bool hu hv;exact one rfl
  case int k=>obtain⟨m,rfl⟩:=WideShapes.okWide_int hu hv;exact one rfl
  case string=>obtain⟨s,rfl⟩:=WideShapes.okWide_string hu hv;exact one rfl
  case slice e=>obtain⟨a,len,cap,rfl⟩:=WideShapes.okWide_slice hu hv;exact one rfl
  case struct fs=>
   obtain⟨cs,rfl,_⟩:=WideShapes.okWide_struct hu hv
   simp only[Rep]
   exact⟨cs,rfl,h2'⟩
theorem abs_args(hS:S.all (okT P S)=true)(hinf:∀t∈S,∃i,P.info? t=some i∧i.bytes=P.bytesOf t∧i.size=P.cellsOf t){base:Nat}:∀{ts:List TypeId} {vs:List Value} {ds:List (DataW H)} {ps:List MemPlace},(∀t∈ts,t∈S)→
  (∀(j:Nat) t v,ts[j]? =some t→vs[j]? =some v→Value.okWide P W .any base t v)→DataW.TrodAll enc P W 0 (fun _=>true) true ts vs ds ps→(DataW.weightsEach P ts ds).all (·≤reachBytes)=true→
  ∃av0,ArgsSh P ts av0∧au P (eE W) true av0 vs
 |[],_,_,_,_,_,h,_=>by
  obtain⟨rfl,rfl,rfl⟩:=trodAll_nil h
  exact⟨[],rfl,by simp[au]⟩
 |t::ts,_,_,_,hm,hv,h,hw=>by
  obtain⟨v,vs,d,ds,p,q,rfl,rfl,rfl,h1,h2⟩:=trodAll_cons h
  simp only[DataW.weightsEach,List.all_append,Bool.and_eq_true]at hw
  obtain⟨n,pvs,a1,a2⟩:=abs_val hS hinf (hm t (by simp)) (hv 0 t v rfl rfl) h1 hw.1
  obtain⟨av0,b1,b2⟩:=abs_args hS hinf (fun t ht=>hm t (by simp[ht])) (fun j t v ht hv'=>hv (j+1) t v (by simpa using ht) (by simpa using hv')) h2 hw.2
  refine⟨argPV P t pvs::av0,⟨n,pvs,av0,rfl,a1,b1⟩,?_⟩
  simp only[au]
  exact⟨v,vs,rfl,a2,b2⟩
theorem jL(hl:laidOutB P=true){W':World}(hb:RowKit.Below W.heap.size W W'){sp:Nat→Bool}:∀{ts:List TypeId} {vs:List Value} {ds:List (DataW H)} {ps:List MemPlace},(∀t∈ts,P.readableRec t=true∧t<P.types.size)→
  DataW.TrodAll enc P W 0 (fun _=>true) true ts vs ds ps→(∀x∈ps,x.block<W.heap.size)→(∀x∈ps,sp x.block=true)→DataW.TrodAll enc P W' 0 sp true ts vs ds ps
 |[],_,_,_,_,h,_,_=>by
  obtain⟨rfl,rfl,rfl⟩:=trodAll_nil h
  exact trodAll_mk0
 |t::ts,_,_,_,hr,h,hlt,hsp=>by
  obtain⟨v,vs,d,ds,p,q,rfl,rfl,rfl,h1,h2⟩:=trodAll_cons h
  exact⟨p,q,WideElems.Trod_stays hl (hr t (by simp)).1 (hr t (by simp)).2 h1 (fun x hx=>hb.same (hlt x (by simp[hx]))) (fun x hx=>hsp x (by simp[hx])),
   jL hl hb (fun t ht=>hr t (by simp[ht])) h2 (fun x hx=>hlt x (by simp[hx])) (fun x hx=>hsp x (by simp[hx])),rfl⟩
theorem ky{sp:Nat→Bool}{hd:Bool}:∀{ts:List TypeId} {vs:List Value} {ds:List (DataW H)} {ps:List MemPlace},DataW.TrodAll enc P W 0 sp hd ts vs ds ps→ds.length=ts.length
 |[],_,_,_,h=>by
  obtain⟨_,rfl,_⟩:=trodAll_nil h
  rfl
 |t::ts,_,_,_,h=>by
  obtain⟨v,vs,d,ds,p,q,rfl,rfl,rfl,_,h2⟩:=trodAll_cons h
  simp[ky h2]
theorem InvH.start(W:World)(hg:Gl W []):InvH P ⟨W,[],eE W,hg,[]⟩ (eE W) Heap.empty W:=
 ⟨fun _ _ _ h=>h,Mem.le_refl _,fun _ _ _ h=>.inl h,rfl,rfl,rfl,Nat.le_refl _,fun _ _ _=>rfl,fun _ _ h=>by simp[Heap.empty]at h,fun _ _ h=>by simp[Heap.empty]at h,
  fun _ _ _ _ h=>by simp[Heap.empty]at h,fun _ _ _ _ _ h=>by simp[Heap.empty]at h,fun _ _ _ _ h=>by simp[Heap.empty]at h⟩
theorem InvH.below{hg:Gl W []}{M:Mem}{Hp:Heap}{W':World}(h:InvH P ⟨W,[],eE W,hg,[]⟩ M Hp W'):RowKit.Below W.heap.size W W':=
 ⟨h.os,h.tape,h.output,h.size,fun k hk=>h.frame k hk (by simp)⟩
theorem law_calls(hl:laidOutB P=true){f:FuncId}{fn:Func}{s:ChangeSpec}{fresh handsOn again:Bool}{tb:TypeId}(hvars:s.vars=[])(hr:∀t∈fn.params.toList,P.readableRec t=true∧t<P.types.size)(hres:fn.resultTypes=#[tb])(htb:P.underlying tb=some .bool)
  (hfn:∀ds:List (DataW H),ds.length=fn.params.toList.length→s.fn H ds={results:=[.lit (.bool true)],args:=ds})
  (hS:S.all (okT P S)=true) (hinf:∀t∈S,∃i,P.info? t=some i∧i.bytes=P.bytesOf t∧i.size=P.cellsOf t) (hm:∀t∈fn.params.toList,t∈S)
  (hspec:∀av0,ArgsSh P fn.params.toList av0→da P f av0 (.val (.bool true)))
  {base:Nat} {args:Array Value} {ds gs:List (DataW H)} {before:List MemPlace} (hval:∀(j:Nat) t v,fn.params[j]? =some t→args[j]? =some v→Value.okWide P W .any base t v)
  (hW:DataW.Whole enc P fn.params.toList s.vars false W args.toList ds gs before) (hg:Gl W []) (hsz:(DataW.weightsEach P (fn.params.toList++s.plain.varTypes P) (ds++gs)).all (·≤reachBytes)=true):
  Calls P f args W fun e W'=>∃v,e= .returned v∧s.post enc P fn false fresh handsOn again W args v W':=by
 have hlt:=hW.lt;have hW':=hW
 obtain⟨p,q,hA,hV,rfl,hz,hn⟩:=hW
 have hV':=hV;rw[hvars]at hV
 obtain⟨rfl,rfl⟩:=trodVars_none hV
 have hvt:s.plain.varTypes P=[]:=by simp[DataSpec.varTypes,ChangeSpec.plain,hvars]
 rw[hvt,List.append_nil,List.append_nil]at hsz;have hlen:ds.length=fn.params.toList.length:=ky hA
 obtain⟨av0,h1,h2⟩:=abs_args hS hinf hm (fun j t v ht hv=>hval j t v (by simpa using ht) (by simpa using hv)) hA hsz
 refine(hspec av0 h1 W (eE W) [] hg args (InvH.start W hg) h2).mono ?_
 rintro e W' ⟨v,u,H',M',rfl,⟨rfl,rfl⟩,hi,hrep⟩;simp only[Rep]at hrep;subst hrep;have hb:=hi.below
 refine⟨_,rfl,?_⟩
 have hfn':s.fn H (ds++[])={results:=[.lit (.bool true)],args:=ds}:=by rw[List.append_nil];exact hfn ds hlen
 have hargs:∀sp:Nat→Bool,(∀x∈p++[],sp x.block=true)→DataW.TrodAll enc P W' 0 sp true fn.params.toList args.toList ds p:=fun sp hsp=>
  jL hl hb hr hA (fun x hx=>hlt x (by simp[hx])) (fun x hx=>hsp x (by simp[hx]))
 have hres':∀(b:Nat) (sp:Nat→Bool) (hd:Bool),DataW.TrodAll enc P W' b sp hd fn.resultTypes.toList ((Value.bool true).resultList fn.resultTypes.size) [.lit (.bool true)] []:=by
  intro b sp hd;rw[hres];refine trodAll_mk1 ⟨1,?_⟩;show DataW.trod enc P W' b sp hd 1 tb [.bool true]=_;unfold DataW.trod;rw[htb]
 have hvs:∀sp:Nat→Bool,DataW.TrodVars enc P W' sp s.vars ([]:List (DataW H)) []:=fun sp=>by rw[hvars];simp[DataW.TrodVars]
 have hold:∀x∈p++[],(fun b=>decide (b<W.heap.size)) x.block=true:=fun x hx=>by simpa using hlt x hx
 refine⟨ds,[],p++[],[],p,[],hW',?_,?_,?_,hb.frame _,fun _=>⟨RowKit.ok_one hres rfl (RowKit.okWide_bool_mk htb true),[.lit (.bool true)]++ds,[],([]++p)++[],⟨[]++p,[],?_,hvs _,rfl,?_,fun h=>by cases h⟩,?_⟩⟩
 ·rw[hfn'];exact hres' _ _ _
 ·rw[hfn'];exact hargs _ hold
 ·rw[hfn'];exact hvs _
 ·exact trodAll_append (hargs _ fun _ _=>rfl) (hres' _ _ _)
 ·intro b off hx;have hx':MemPlace.cell b off∈p++[]:=by simpa using hx
  rw[hb.frozen (hlt _ hx')];exact hz b off hx'
 ·intro x hx _;simpa using hx
end
end
end Go.Ab

namespace Go.Ab
noncomputable section
def ar{α β:Type}(o:Option α)(k:α→Option β):Option β:=match o with
 |some a=>k a
 |none=>none
def cx{α β:Type}(a:α)(k:α→β):β:=k a
inductive Flow (σ ρ:Type) where
 |next (s:σ)
 |brk (s:σ)
 |ret (r:ρ)
def Flow.thenR{σ ρ:Type}(fl:Flow σ ρ)(k:σ→Option ρ):Option ρ:=match fl with
 | .next s=>k s
 | .brk s=>k s
 | .ret r=>some r
def Flow.thenF{σ τ ρ:Type}(fl:Flow σ ρ)(k:σ→Option (Flow τ ρ)):Option (Flow τ ρ):=match fl with
 | .next s=>k s
 | .brk s=>k s
 | .ret r=>some (.ret r)
def bJ{α σ ρ:Type}(step:Nat→α→σ→Option (Flow σ ρ)):Nat→List α→σ→Option (Flow σ ρ)
 |_,[],s=>some (.next s)
 |j,x::xs,s=>match step j x s with
  |none=>none
  |some (.next s')=>bJ step (j+1) xs s'
  |some (.brk s')=>some (.next s')
  |some (.ret r)=>some (.ret r)
def dN{σ ρ:Type}(step:σ→Option (Flow σ ρ)):Nat→σ→Option (Flow σ ρ)
 |0,_=>none
 |n+1,s=>match step s with
  |none=>none
  |some (.next s')=>dN step n s'
  |some (.brk s')=>some (.next s')
  |some (.ret r)=>some (.ret r)
open Classical in
def cR{σ ρ:Type}(step:σ→Option (Flow σ ρ))(s:σ):Option (Flow σ ρ):=
 if h:∃r,∃n,dN step n s=some r then some h.choose else none
theorem iterM_le{σ ρ:Type}{step:σ→Option (Flow σ ρ)}:∀{n m:Nat} {s:σ} {r:Flow σ ρ},dN step n s=some r→n≤m→dN step m s=some r
 |0,_,_,_,h,_=>by simp[dN]at h
 |n+1,0,_,_,_,hm=>by omega
 |n+1,m+1,s,r,h,hm=>by
  simp only[dN]at h⊢;split at h
  ·cases h
  ·exact iterM_le h (by omega)
  ·exact h
  ·exact h
theorem whileM_iff{σ ρ:Type}{step:σ→Option (Flow σ ρ)}{s:σ}{r:Flow σ ρ}:cR step s=some r↔∃n,dN step n s=some r:=by
 unfold cR;constructor
 ·intro h;split at h
  ·rename_i hx
   obtain⟨n,hn⟩:=hx.choose_spec
   exact⟨n,by rw[hn];exact h⟩
  ·cases h
 ·rintro⟨n,hn⟩
  have hx:∃r,∃n,dN step n s=some r:=⟨r,n,hn⟩;rw[dif_pos hx]
  obtain⟨m,hm⟩:=hx.choose_spec
  have h1:=iterM_le hn (Nat.le_max_left n m);have h2:=iterM_le hm (Nat.le_max_right n m);rw[h1]at h2;exact h2.symm
theorem bm{σ ρ:Type}{step:σ→Option (Flow σ ρ)}{s:σ}{fl r:Flow σ ρ}(h:step s=some fl)(hr:match fl with| .next s'=>cR step s'=some r| .brk s'=>r= .next s'| .ret x=>r= .ret x):cR step s=some r:=by
 rw[whileM_iff];cases fl with
 |next s'=>
  obtain⟨n,hn⟩:=whileM_iff.1 hr
  exact⟨n+1,by simp only[dN,h,hn]⟩
 |brk s'=>exact⟨1,by simp only[dN,h,hr]⟩
 |ret x=>exact⟨1,by simp only[dN,h,hr]⟩
theorem aM{α β:Type}{o:Option α}{k:α→Option β}{r:β}(h:ar o k=some r):∃a,o=some a∧k a=some r:=by
 cases o with
 |none=>cases h
 |some a=>exact⟨a,rfl,h⟩
theorem ed{α β:Type}{a:α}{k:α→β}{r:β}(h:cx a k=r):∃x,a=x∧k x=r:=⟨a,rfl,h⟩
theorem condT{α:Type}{c:Bool}{A B r:α}(h:c=true)(H:cond c A B=r):A=r:=by subst h;exact H
theorem condF{α:Type}{c:Bool}{A B r:α}(h:c=false)(H:cond c A B=r):B=r:=by subst h;exact H
theorem bj{P:Program}{Px:PV→Prop}{fn:Func}{R:PV→Heap→Prop}{k:List KI}{st:PState}{c:Operand}{x y:Code}{b:Bool}(hc:evS st.s c= .val (.bool b)){α:Type}{A B r:α}(H:(bif b then A else B)=r)(ht:A=r→V P Px fn R (.code x::k) st)(hf:B=r→V P Px fn R (.code y::k) st):V P Px fn R (.code (.cond c x y)::k) st:=ik hc (fun h=>ht (Go.Ab.condT h H)) (fun h=>hf (Go.Ab.condF h H))
theorem dy{P:Program}{Px:PV→Prop}{ops:Array Oper}{o:Oper}{rest:List Oper}{n:Nat}{s:Nat→PV}{bx:Nat→Option Box}{ob:Nat→Option Obj}{K:PState→Prop}{j:Nat}{want b:Bool}{d:Nat}(hg:o.guard=some (j,want))(hd:(ops[j]?).bind (·.dst)=some d)(hs:s d= .val (.bool b)){α:Type}{A B r:α}(H:cond b A B=r)
  (ht:A=r→Ao P Px ops (o::rest) ⟨n,upd s d (.val (.bool true)),bx,ob⟩ K) (hf:B=r→Ao P Px ops (o::rest) ⟨n,upd s d (.val (.bool false)),bx,ob⟩ K):Ao P Px ops (o::rest) ⟨n,s,bx,ob⟩ K:=lx hg hd hs (fun h=>ht (condT h H)) (fun h=>hf (condF h H))
theorem lc{P:Program}{Px:PV→Prop}{T:TT}{rb:RB}{ops:Array Oper}{o:Oper}{k:Nat}{L:List Nat}{n:Nat}{s:Nat→PV}{bx:Nat→Option Box}{ob:Nat→Option Obj}{K:PState→Prop}{j:Nat}{want b:Bool}{d:Nat}(ho:ops[k]? =some o)(hg:o.guard=some (j,want))(hd:(ops[j]?).bind (·.dst)=some d)(hs:s d= .val (.bool b)){α:Type}{A B r:α}(H:cond b A B=r)
  (ht:A=r→Do P Px T rb ops (k::L) ⟨n,upd s d (.val (.bool true)),bx,ob⟩ K) (hf:B=r→Do P Px T rb ops (k::L) ⟨n,upd s d (.val (.bool false)),bx,ob⟩ K):Do P Px T rb ops (k::L) ⟨n,s,bx,ob⟩ K:=ly ho hg hd hs (fun h=>ht (condT h H)) (fun h=>hf (condF h H))
theorem eB{σ ρ:Type}{r x:ρ}{k:σ→Option ρ}(h:Flow.thenR (.ret r) k=some x):r=x:=Option.some.inj h
theorem aF{α:Type}{a b:α}(h:some a=some b):a=b:=Option.some.inj h
def iR{α σ ρ:Type}(step:Nat→α→σ→Option (Flow σ ρ))(xs:List α)(j:Nat)(res:Flow σ ρ):Flow σ ρ→Prop
 | .next s'=>bJ step (j+1) (xs.drop (j+1)) s'=some res
 | .brk s'=>res= .next s'
 | .ret r=>res= .ret r
theorem rMc{α σ ρ:Type}{step:Nat→α→σ→Option (Flow σ ρ)}{xs:List α}{j:Nat}{s:σ}{res:Flow σ ρ}(hj:j<xs.length)(h:bJ step j (xs.drop j) s=some res):
  ∃x fl,xs[j]? =some x∧step j x s=some fl∧iR step xs j res fl:=by
 rw[List.drop_eq_getElem_cons hj,bJ]at h
 refine⟨xs[j],?_⟩
 split at h
 ·cases h
 ·rename_i s' hs;exact⟨_,ze hj,hs,h⟩
 ·rename_i s' hs;exact⟨_,ze hj,hs,(Option.some.inj h).symm⟩
 ·rename_i s' hs;exact⟨_,ze hj,hs,(Option.some.inj h).symm⟩
theorem rMd{α σ ρ:Type}{step:Nat→α→σ→Option (Flow σ ρ)}{xs:List α}{j:Nat}{s:σ}{res:Flow σ ρ}(hj:xs.length≤j)(h:bJ step j (xs.drop j) s=some res):res= .next s:=by
 rw[List.drop_eq_nil_of_le hj,bJ]at h
 exact(Option.some.inj h).symm
def iterGo{σ ρ:Type}(step:σ→Option (Flow σ ρ))(n:Nat)(res:Flow σ ρ):Flow σ ρ→Prop
 | .next s'=>dN step n s'=some res
 | .brk s'=>res= .next s'
 | .ret r=>res= .ret r
theorem dI{σ ρ:Type}{step:σ→Option (Flow σ ρ)}{n:Nat}{s:σ}{res:Flow σ ρ}(h:dN step (n+1) s=some res):∃fl,step s=some fl∧iterGo step n res fl:=by
 rw[dN]at h;split at h
 ·cases h
 ·rename_i s' hs;exact⟨_,hs,h⟩
 ·rename_i s' hs;exact⟨_,hs,(Option.some.inj h).symm⟩
 ·rename_i s' hs;exact⟨_,hs,(Option.some.inj h).symm⟩
section
variable{P:Program}{Px:PV→Prop}{fn:Func}{R:PV→Heap→Prop}{k:List KI}{n:Nat}{s:Nat→PV}{bx:Nat→Option Box}{ob:Nat→Option Obj}{T:TT}{st:PState}
theorem ef{τ γ:Type}(J:τ→γ→PState)(Gd:τ→Prop){c:Code}(h:V P Px fn R (.code c:: .stop (fun st'=>∃t g,Gd t∧st'=J t g)::k) st)(hk:∀t g,Gd t→V P Px fn R k (J t g)):
  V P Px fn R (.code c::k) st:=by
 intro C M a w hi
 have:=h C M a w hi
 simp only[after]at this⊢;refine wp_mono this ?_;intro e a w he;cases e with
 |normal=>
  obtain⟨C',st',M',hrb,⟨t,g,hG,rfl⟩,hi'⟩:=he
  exact dX hrb (retP_conv hrb) k _ a w (hk t g hG C' M' a w hi')
 |_=>exact he
theorem cb{τ γ:Type}{J:τ→γ→PState}{Gd:τ→Prop}(t:τ)(g:γ)(hG:Gd t)(h:Gh P st (J t g)):V P Px fn R (.stop (fun st'=>∃t g,Gd t∧st'=J t g)::k) st:=
 be h (ls ⟨t,g,hG,rfl⟩)
theorem ld{τ γ β:Type}{x:Option τ}{f:τ→Option β}{r:β}(J:τ→γ→PState){c:Code}(H:ar x f=some r)(h:∀u,x=some u→V P Px fn R (.code c:: .stop (fun st'=>∃t g,t=u∧st'=J t g)::k) st)
  (hk:∀t g,f t=some r→V P Px fn R k (J t g)):V P Px fn R (.code c::k) st:=by
 obtain⟨u,h1,h2⟩:=aM H
 exact ef J (fun t=>t=u) (h u h1) (fun t g e=>hk t g (e▸h2))
theorem kP{τ γ β:Type}{x:τ}{f:τ→β}{r:β}(J:τ→γ→PState){c:Code}(H:cx x f=r)(h:∀u,x=u→V P Px fn R (.code c:: .stop (fun st'=>∃t g,t=u∧st'=J t g)::k) st)
  (hk:∀t g,f t=r→V P Px fn R k (J t g)):V P Px fn R (.code c::k) st:=by
 obtain⟨u,h1,h2⟩:=ed H
 exact ef J (fun t=>t=u) (h u h1) (fun t g e=>hk t g (e▸h2))
theorem jO{σ γ β:Type}{x:Option (Flow σ β)}{f:σ→Option β}{r:β}(J:σ→γ→PState){c:Code}(H:ar x (fun fl=>fl.thenR f)=some r)(h:∀u,x=some u→u.thenR f=some r→V P Px fn R (.code c:: .stop (fun st'=>∃t g,u= .next t∧st'=J t g)::k) st)
  (hk:∀t g,f t=some r→V P Px fn R k (J t g)):V P Px fn R (.code c::k) st:=by
 obtain⟨u,h1,h2⟩:=aM H
 exact ef J (fun t=>u= .next t) (h u h1 h2) (fun t g e=>hk t g (by subst e;exact h2))
theorem jF{α σ ρ γ:Type}{step:Nat→α→σ→Option (Flow σ ρ)}{xs:List α}{res:Flow σ ρ}(F:Nat→σ→γ→PState){s₀:σ}(g₀:γ){c:Code}
  (hres:bJ step 0 xs s₀=some res) (h₀:Gh P st (F 0 s₀ g₀))
  (round:∀j s g,j≤xs.length→bJ step j (xs.drop j) s=some res→
   V P Px fn R (.code c:: .stop (fun st'=>∃s' g',(j+1≤xs.length∧bJ step (j+1) (xs.drop (j+1)) s'=some res)∧st'=F (j+1) s' g')::k) (F j s g)):
  V P Px fn R (.code (.loop c)::k) st:=by
 refine ll (X:=Nat×σ×γ) (fun X=>F X.1 X.2.1 X.2.2) (fun X=>X.1≤xs.length∧bJ step X.1 (xs.drop X.1) X.2.1=some res) (fun X=>xs.length-X.1) (0,s₀,g₀) ⟨Nat.zero_le _,by simpa using hres⟩ h₀ ?_
 rintro⟨j,s,g⟩ ⟨h1,h2⟩
 refine li (fun st' ⟨s',g',⟨h4,h5⟩,e⟩=>⟨(j+1,s',g'),?_,⟨h4,h5⟩,e⟩) (round j s g h1 h2);show xs.length-(j+1)<xs.length-j;omega
theorem dE{σ γ:Type}{Q:σ→Prop}{F:σ→γ→PState}(s':σ)(g':γ)(hQ:Q s')(h:Gh P st (F s' g')):V P Px fn R (.stop (fun st'=>∃s' g',Q s'∧st'=F s' g')::k) st:=
 be h (ls ⟨s',g',hQ,rfl⟩)
theorem eF{σ ρ γ:Type}{step:σ→Option (Flow σ ρ)}{res:Flow σ ρ}(F:σ→γ→PState){s₀:σ}(g₀:γ){c:Code}
  (hres:cR step s₀=some res) (h₀:Gh P st (F s₀ g₀))
  (round:∀m s g,dN step (m+1) s=some res→V P Px fn R (.code c:: .stop (fun st'=>∃s' g',dN step m s'=some res∧st'=F s' g')::k) (F s g)):
  V P Px fn R (.code (.loop c)::k) st:=by
 obtain⟨m,hm⟩:=whileM_iff.1 hres
 refine ll (X:=Nat×σ×γ) (fun X=>F X.2.1 X.2.2) (fun X=>dN step X.1 X.2.1=some res) (fun X=>X.1) (m,s₀,g₀) hm h₀ ?_
 rintro⟨j,s,g⟩ h2
 cases j with
 |zero=>simp[dN]at h2
 |succ j=>
 exact li (fun st' ⟨s',g',h5,e⟩=>⟨(j,s',g'),Nat.lt_succ_self j,h5,e⟩) (round j s g h2)
theorem Gh.cast(d:Nat){p q:PV}(hs:s d=p)(h:PLe P p q):Gh P ⟨n,s,bx,ob⟩ ⟨n,upd s d q,bx,ob⟩:=fun _ M _ _ hi=>
 ⟨M,⟨hi.1.1,hi.1.2.1,fun t=>by
  show Rep P M true (upd s d q t) _;rw[cK];split
  ·rename_i e;subst e;have:=hi.1.2.2 t;exact h M _ (hs▸this)
  ·exact hi.1.2.2 t⟩,hi.2⟩
end
section
variable{α:Type}{f f':α→List PV}
theorem rowsGet(hE:∀x,f' x=f x){xs:List α}{j:Nat}{x:α}(h:xs[j]? =some x):(xs.map f')[((j:Nat):Int).toNat]? =some (f x):=by
 simp[h,hE]
theorem jC(hE:∀x,f' x=f x){xs:List α}{i:Int}{x:α}(h:xs[i.toNat]? =some x):(xs.map f')[i.toNat]? =some (f x):=by
 simp[h,hE]
theorem dl(hE:∀x,f' x=f x)(xs:List α):xs.map f=xs.map f':=by
 apply List.map_congr_left;intro x _
 exact(hE x).symm
end
theorem cS.of_eq{P:Program}{a b:List (List PV)}(h:a=b):cS P a b:=h▸cS.refl a
theorem cS.trans{P:Program}{a b c:List (List PV)}(h:cS P a b)(h':cS P b c):cS P a c:=⟨h.1.trans h'.1,fun M k x o hx=>h'.2 M k x o (h.2 M k x o hx)⟩
def bO{α:Type}(xs:List α)(i:Int):Option α:=if 0≤i then xs[i.toNat]? else none
theorem gIs{α:Type}{xs:List α}{i:Int}{x:α}(h:bO xs i=some x):0≤i∧xs[i.toNat]? =some x:=by
 unfold bO at h;split at h
 ·rename_i h0;exact⟨h0,h⟩
 ·cases h
theorem eH{α β:Type}{xs:List α}{i:Int}{k:α→Option β}{r:β}(h:ar (bO xs i) k=some r):∃a,(0≤i∧xs[i.toNat]? =some a)∧k a=some r:=by
 obtain⟨a,h1,h2⟩:=aM h
 exact⟨a,gIs h1,h2⟩
def dJ{α:Type}(xs:List α)(a b:Int):Option (List α):=if 0≤a∧a≤b∧b≤xs.length then some ((xs.take b.toNat).drop a.toNat)else none
theorem dV{α:Type}{xs ys:List α}{a b:Int}(h:dJ xs a b=some ys):(0≤a∧a≤b∧b≤xs.length)∧ys=(xs.take b.toNat).drop a.toNat:=by
 unfold dJ at h;split at h
 ·rename_i h0;exact⟨h0,(Option.some.inj h).symm⟩
 ·cases h
def catS(a b:List UInt8):Option (List UInt8):=if a.length+b.length≤dY then some (a++b)else none
theorem catS_some{a b c:List UInt8}(h:catS a b=some c):a.length+b.length≤dY∧c=a++b:=by
 unfold catS at h;split at h
 ·rename_i h0;exact⟨h0,(Option.some.inj h).symm⟩
 ·cases h
def ec{α:Type}(bytes:Nat)(xs ys:List α):Option (List α):=if(xs.length+ys.length)*bytes≤2^47∧xs.length+ys.length≤maxLen then some (xs++ys)else none
theorem dW{α:Type}{bytes:Nat}{xs ys zs:List α}(h:ec bytes xs ys=some zs):(xs.length+ys.length)*bytes≤2^47∧xs.length+ys.length≤maxLen∧zs=xs++ys:=by
 unfold ec at h;split at h
 ·rename_i h0;exact⟨h0.1,h0.2,(Option.some.inj h).symm⟩
 ·cases h
theorem fj{α β:Type}{f:α→β}{bytes:Nat}{xs ys:List α}(h:(xs.length+ys.length)*bytes≤2^47):((xs.map f).length+(ys.map f).length)*bytes≤2^47:=by simpa using h
theorem fa{α β:Type}{f:α→β}{xs ys:List α}(h:xs.length+ys.length≤maxLen):(xs.map f).length+(ys.map f).length≤maxLen:=by simpa using h
theorem fh{α β:Type}{f:α→β}{xs ys zs:List α}(h:zs=xs++ys):xs.map f++ys.map f=zs.map f:=by rw[h,List.map_append]
def Flow.thenP{σ β:Type}(fl:Flow σ Empty)(k:σ→Option β):Option β:=match fl with
 | .next s=>k s
 | .brk s=>k s
 | .ret r=>r.elim
theorem thenP_next{σ β:Type}{fl:Flow σ Empty}{t:σ}{k:σ→Option β}{r:β}(h:fl= .next t)(H:fl.thenP k=some r):k t=some r:=by subst h;exact H
theorem du{σ ρ:Type}{fl:Flow σ ρ}{t:σ}{k:σ→Option ρ}{r:ρ}(h:fl= .next t)(H:fl.thenR k=some r):k t=some r:=by subst h;exact H
section
variable{P:Program}{Px:PV→Prop}{fn:Func}{R:PV→Heap→Prop}{k:List KI}{n:Nat}{s:Nat→PV}{bx:Nat→Option Box}{ob:Nat→Option Obj}{T:TT}
def nB{σ γ:Type}:σ→γ→Nat→Option Box:=fun _ _ _=>none
def nO{σ γ:Type}:σ→γ→Nat→Option Obj:=fun _ _ _=>none
theorem lD{α σ ρ γ β:Type}{step:Nat→α→σ→Option (Flow σ ρ)}{xs:List α}{s₀:σ}{th:Flow σ ρ→Option β}{r:β}{rw:α→List PV}
  (hT:T.Ok P) (d:Nat) {e:TypeId} {ei:TInfo} (hei:T.get e=some ei) (hs:s d= .list e (xs.map rw))
  (S:σ→γ→Nat→PV) (B:σ→γ→Nat→Option Box) (O:σ→γ→Nat→Option Obj) (E:(Nat→PV)→Nat→σ→γ→Nat→PV) (g₀:γ)
  {id rid:Nat} {ops:Array Oper} {o:Oper} {tst:Operand} {rest:Code} {S':Nat→σ→γ→Nat→PV}
  (H:ar (bJ step 0 xs s₀) th=some r)
  (h₀:Gh P ⟨n,s,bx,ob⟩ ⟨n,E (S s₀ g₀) 0 s₀ g₀,B s₀ g₀,O s₀ g₀⟩)
  (ho:ops.toList=[o])
  (hq:∀j s g,dw T ops n (E (S s g) j s g) (B s g) o=some (S' j s g))
  (ht:∀j s g,evS (S' j s g) tst= .val (.bool (decide ((j:Int)<((xs.length:Nat):Int)))))
  (hx:∀j s g,Gh P ⟨n,S' j s g,B s g,O s g⟩ ⟨n,S s g,B s g,O s g⟩)
  (round:∀fl,th fl=some r→∀j s g,xs.length≤maxLen→j<xs.length→∀x fb,xs[j]? =some x→step j x s=some fb→iR step xs j fl fb→
   V P Px fn R (.code rest:: .stop (fun st'=>∃s' g',(j+1≤xs.length∧bJ step (j+1) (xs.drop (j+1)) s'=some fl)∧st'=⟨n,E (S s' g') (j+1) s' g',B s' g',O s' g'⟩):: .blk id:: .stop (fun st'=>∃t g,fl= .next t∧st'=⟨n,S t g,B t g,O t g⟩)::k) ⟨n,S' j s g,B s g,O s g⟩)
  (hk:∀t g,th (.next t)=some r→V P Px fn R k ⟨n,S t g,B t g,O t g⟩):
  V P Px fn R (.code (.block id (.loop (.seq (.region rid ops false) (.seq (.cond tst .skip (.exit id)) rest))))::k) ⟨n,s,bx,ob⟩:=by
 refine V.lenF hT d hei hs (fun hz _=>?_);rw[zl]at hz
 obtain⟨fl,h1,h2⟩:=aM H
 refine ef (fun t g=>⟨n,S t g,B t g,O t g⟩) (fun t=>fl= .next t) ?_ (fun t g e=>hk t g (by subst e;exact h2));refine bt (jF (fun j s g=>⟨n,E (S s g) j s g,B s g,O s g⟩) g₀ h1 h₀ (fun j s g hj hr=>?_));refine ak (ae ?_);rw[ho];refine aC hT (hq j s g) (af ?_);refine ak (ik (ht j s g) (fun h=>?_) (fun h=>?_))
 ·have hl:j<xs.length:=by simpa using h
  obtain⟨x,fb,hx1,H,hg⟩:=rMc hl hr
  exact bc (round fl h2 j s g hz hl x fb hx1 H hg)
 ·have hn:=rMd (by simpa using h) hr;refine dB (k':= .stop (fun st'=>∃t g,fl= .next t∧st'=⟨n,S t g,B t g,O t g⟩)::k) ?_ (cb s g hn (hx j s g));simp[gw,Nat.beq_refl]
theorem lC{α σ γ β:Type}{step:Nat→α→σ→Option (Flow σ β)}{xs:List α}{s₀:σ}{kk:σ→Option (β)}{r:β}{rw:α→List PV}
  (hT:T.Ok P) (d:Nat) {e:TypeId} {ei:TInfo} (hei:T.get e=some ei) (hs:s d= .list e (xs.map rw))
  (S:σ→γ→Nat→PV) (B:σ→γ→Nat→Option Box) (O:σ→γ→Nat→Option Obj) (E:(Nat→PV)→Nat→σ→γ→Nat→PV) (g₀:γ)
  {id rid:Nat} {ops:Array Oper} {o:Oper} {tst:Operand} {rest:Code} {S':Nat→σ→γ→Nat→PV}
  (H:ar (bJ step 0 xs s₀) (fun fl=>fl.thenR kk)=some r)
  (ho:ops.toList=[o])
  (h₀:Gh P ⟨n,s,bx,ob⟩ ⟨n,E (S s₀ g₀) 0 s₀ g₀,B s₀ g₀,O s₀ g₀⟩)
  (hq:∀j s g,dw T ops n (E (S s g) j s g) (B s g) o=some (S' j s g))
  (ht:∀j s g,evS (S' j s g) tst= .val (.bool (decide ((j:Int)<((xs.length:Nat):Int)))))
  (hx:∀j s g,Gh P ⟨n,S' j s g,B s g,O s g⟩ ⟨n,S s g,B s g,O s g⟩)
  (round:∀fl,fl.thenR kk=some r→∀j s g,xs.length≤maxLen→j<xs.length→∀x fb,xs[j]? =some x→step j x s=some fb→iR step xs j fl fb→
   V P Px fn R (.code rest:: .stop (fun st'=>∃s' g',(j+1≤xs.length∧bJ step (j+1) (xs.drop (j+1)) s'=some fl)∧st'=⟨n,E (S s' g') (j+1) s' g',B s' g',O s' g'⟩):: .blk id:: .stop (fun st'=>∃t g,fl= .next t∧st'=⟨n,S t g,B t g,O t g⟩)::k) ⟨n,S' j s g,B s g,O s g⟩)
  (hk:∀t g,kk t=some r→V P Px fn R k ⟨n,S t g,B t g,O t g⟩):
  V P Px fn R (.code (.block id (.loop (.seq (.region rid ops false) (.seq (.cond tst .skip (.exit id)) rest))))::k) ⟨n,s,bx,ob⟩:=
 lD hT d hei hs S B O E g₀ H h₀ ho hq ht hx round (fun t g e=>hk t g e)
def eL{α:Type}(i m d:Nat)(ety:TypeId)(xs:List α)(rw:α→List PV)(e:Nat→PV)(j:Nat):Nat→PV:=upd (upd (upd e i (.val (.int .i64 (j:Int)))) m (.val (.int .i64 (xs.length:Int)))) d (.list ety (xs.map rw))
theorem V.lpR{α σ γ β:Type}{step:Nat→α→σ→Option (Flow σ β)}{xs:List α}{s₀:σ}{kk:σ→Option (β)}{r:β}{rw:α→List PV}
  (hT:T.Ok P) (i m d:Nat) {e:TypeId} {ei:TInfo}
  (S:σ→γ→Nat→PV) (B:σ→γ→Nat→Option Box) (O:σ→γ→Nat→Option Obj) (g₀:γ)
  {id rid:Nat} {ops:Array Oper} {o:Oper} {tst:Operand} {rest:Code} {S':Nat→σ→γ→Nat→PV}
  (H:ar (bJ step 0 xs s₀) (fun fl=>fl.thenR kk)=some r)
  (round:∀fl,fl.thenR kk=some r→∀j s g,xs.length≤maxLen→j<xs.length→∀x fb,xs[j]? =some x→step j x s=some fb→iR step xs j fl fb→
   V P Px fn R (.code rest:: .stop (fun st'=>∃s' g',(j+1≤xs.length∧bJ step (j+1) (xs.drop (j+1)) s'=some fl)∧st'=⟨n,eL i m d e xs rw (S s' g') (j+1),B s' g',O s' g'⟩):: .blk id:: .stop (fun st'=>∃t g,fl= .next t∧st'=⟨n,S t g,B t g,O t g⟩)::k) ⟨n,S' j s g,B s g,O s g⟩)
  (hk:∀t g,kk t=some r→V P Px fn R k ⟨n,S t g,B t g,O t g⟩)
  (hs:s d= .list e (xs.map rw):=by exact rfl) (hei:T.get e=some ei:=by exact rfl) (ho:ops.toList=[o]:=by exact rfl)
  (h₀:Gh P ⟨n,s,bx,ob⟩ ⟨n,eL i m d e xs rw (S s₀ g₀) 0,B s₀ g₀,O s₀ g₀⟩:=by exact Gh.d)
  (hq:∀j s g,dw T ops n (eL i m d e xs rw (S s g) j) (B s g) o=some (S' j s g):=by exact fun _ _ _=>rfl)
  (ht:∀j s g,evS (S' j s g) tst= .val (.bool (decide ((j:Int)<((xs.length:Nat):Int)))):=by exact fun _ _ _=>rfl)
  (hx:∀j s g,Gh P ⟨n,S' j s g,B s g,O s g⟩ ⟨n,S s g,B s g,O s g⟩:=by exact fun _ _ _=>Gh.d):
  V P Px fn R (.code (.block id (.loop (.seq (.region rid ops false) (.seq (.cond tst .skip (.exit id)) rest))))::k) ⟨n,s,bx,ob⟩:=
 lC hT d hei hs S B O (fun e j _ _=>eL i m d _ xs rw e j) g₀ H ho h₀ hq ht hx round hk
end
def resT(s:Nat→PV):List ResultVar→Option (List PV)
 |[]=>some []
 | .tmp t::l=>match resT s l with|some ps=>some (s t::ps)|none=>none
 | .cell _ _::_=>none
section
variable{P:Program}{Px:PV→Prop}{fn:Func}{R:PV→Heap→Prop}{k:List KI}{n:Nat}{s:Nat→PV}{bx:Nat→Option Box}{ob:Nat→Option Obj}{T:TT}{st:PState}
theorem resT_all:∀{l:List ResultVar} {ps:List PV},resT s l=some ps→fN T ⟨n,s,bx,ob⟩ l ps
 |[],ps,h=>by simp only[resT,zo]at h;exact h.symm
 | .tmp t::l,ps,h=>by
  simp only[resT]at h;split at h
  ·rename_i qs hq;cases h;exact⟨_,_,rfl,rfl,resT_all hq⟩
  ·cases h
 | .cell _ _::_,ps,h=>by simp[resT]at h
theorem jq{α:Type}{x y:α}{ps:List PV}{r:PV}(hT:T.Ok P)(H:x=y)(h:resT s fn.results.toList=some ps)(he:x=y→hO ps=r:=by intro e;subst e;rfl):
  V P Px fn (fun u H=>u=r∧H=Heap.empty) (.code .ret::k) ⟨n,s,bx,ob⟩:=cB hT rfl (resT_all h) (PLe.q (he H))
theorem im{α:Type}{x y:α}{ps:List PV}{r:PV}(hT:T.Ok P)(H:some x=some y)(h:resT s fn.results.toList=some ps)(he:x=y→hO ps=r:=by intro e;subst e;rfl):
  V P Px fn (fun u H=>u=r∧H=Heap.empty) (.code .ret::k) ⟨n,s,bx,ob⟩:=jq hT (aF H) h he
theorem kn{α:Type}{x y:α}{r p:PV}{a t tag b off:Nat}{ti:TInfo}{cells:List PV}(hT:T.Ok P)(H:x=y)(hr:fn.results=#[.cell a t])(hti:T.get t=some ti)(hs:s a= .box tag b off)(hb:bx tag=some ⟨b,cells⟩)(hc:cY ti off cells=some p)(he:x=y→p=r:=by intro e;subst e;rfl):
  V P Px fn (fun u H=>u=r∧H=Heap.empty) (.code .ret::k) ⟨n,s,bx,ob⟩:=cB hT hr (ps:=[p]) ⟨_,_,rfl,⟨_,_,_,_,_,hti,hs,hb,hc⟩,rfl⟩ (PLe.q (he H))
theorem lb{α σ ρ γ:Type}{step:Nat→α→σ→Option (Flow σ ρ)}{xs:List α}{j:Nat}{res fb:Flow σ ρ}{v:σ}{F:σ→γ→PState}(g':γ)(H:some (Flow.next v)=some fb)(hl:j<xs.length)(hg:iR step xs j res fb)(h:Gh P st (F v g'):=by exact Gh.d):
  V P Px fn R (.stop (fun st'=>∃s' g',(j+1≤xs.length∧bJ step (j+1) (xs.drop (j+1)) s'=some res)∧st'=F s' g')::k) st:=by
 cases H;exact dE v g' ⟨hl,hg⟩ h
end
def fM(n:Int):Option Nat:=if n≤2^62 then some n.toNat else none
theorem iQ{n:Int}{m:Nat}(h:fM n=some m):n≤2^62∧m=n.toNat:=by
 unfold fM at h;split at h
 ·rename_i h0;exact⟨h0,(Option.some.inj h).symm⟩
 ·cases h
section
variable{P:Program}{Px:PV→Prop}{ops:Array Oper}{rest:List Oper}{o:Oper}{n:Nat}{s s':Nat→PV}{bx:Nat→Option Box}{ob:Nat→Option Obj}{K:PState→Prop}{T:TT}{rb:RB}{k:Nat}{L:List Nat}
theorem Ao.cast(d:Nat){p q:PV}(hs:s d=p)(h:PLe P p q)(hV:Ao P Px ops rest ⟨n,upd s d q,bx,ob⟩ K):Ao P Px ops rest ⟨n,s,bx,ob⟩ K:=aE (Gh.cast d hs h) hV
theorem iZ(hT:T.Ok P)(hg:aL ops s o=some true){x:Operand}{t:TypeId}{ts:List TypeId}(ho:o.op= .call {callee:= .builtin .len,args:=#[x],argTypes:=(t::ts).toArray}){ti:TInfo}{e':TypeId}(hti:T.get t=some ti)(hd:ti.desc= .slice e')
  {e:TypeId} {rows:List (List PV)} (hx:evS s x= .list e rows) {m:Nat} (hm:rows.length=m) (hp:putD n s o.dst (.val (.int .i64 m))=some s') (h:Ao P Px ops rest ⟨n,s',bx,ob⟩ K):Ao P Px ops (o::rest) ⟨n,s,bx,ob⟩ K:=by
 refine iz hT hg (r:= .val (.int .i64 m)) ?_ hp h;rw[ho];simp[dH,io,hti,hd,hx,lenPV,hm]
theorem kU(ho:ops[k]? =some o)(hg:aL ops s o=some true){x:Operand}{t:TypeId}{ts:List TypeId}(hop:o.op= .call {callee:= .builtin .len,args:=#[x],argTypes:=(t::ts).toArray}){ti:TInfo}{e':TypeId}(hti:T.get t=some ti)(hd:ti.desc= .slice e')
  {e:TypeId} {rows:List (List PV)} (hx:evS s x= .list e rows) {m:Nat} (hm:rows.length=m) (hp:putD n s o.dst (.val (.int .i64 m))=some s') (h:Do P Px T rb ops L ⟨n,s',bx,ob⟩ K):Do P Px T rb ops (k::L) ⟨n,s,bx,ob⟩ K:=by
 refine kd ho hg (by rw[hop];rfl) (r:= .val (.int .i64 m)) ?_ hp h;rw[hop];simp[dr,dH,io,hti,hd,hx,lenPV,hm]
theorem kX(ho:ops[k]? =some o)(hg:aL ops s o=some true){x:Operand}{t:TypeId}{ts:List TypeId}(hop:o.op= .call {callee:= .builtin .len,args:=#[x],argTypes:=(t::ts).toArray}){ti:TInfo}{e':TypeId}(hti:T.get t=some ti)(hd:ti.desc= .slice e')
  {tg l:Nat} {g:OwnRef} (hx:evS s x= .own tg g l) {m:Nat} (hm:l=m) (hp:putD n s o.dst (.val (.int .i64 m))=some s') (h:Do P Px T rb ops L ⟨n,s',bx,ob⟩ K):Do P Px T rb ops (k::L) ⟨n,s,bx,ob⟩ K:=by
 refine kd ho hg (by rw[hop];rfl) (r:= .val (.int .i64 m)) ?_ hp h;rw[hop];simp[dr,dH,io,hti,hd,hx,lenPV,hm]
theorem ln(ho:ops[k]? =some o)(hg:aL ops s o=some true){t:TypeId}{x i:Operand}(hop:o.op= .index t x i){ti:TInfo}(hti:T.get t=some ti)(hd:ti.desc= .string){l:List UInt8}(hx:evS s x= .str l){kk:IntKind}{j:Int}
  (hi:evS s i= .val (.int kk j)) {c:UInt8} (h0:0≤j) (hr:l[j.toNat]? =some c) (hp:putD n s o.dst (.val (.int .u8 c.toNat))=some s') (h:Do P Px T rb ops L ⟨n,s',bx,ob⟩ K):Do P Px T rb ops (k::L) ⟨n,s,bx,ob⟩ K:=by
 refine kd ho hg (by rw[hop];rfl) (r:= .val (.int .u8 c.toNat)) ?_ hp h;rw[hop];simp[dr,dH,hti,hx,hi,hd,h0,hr]
theorem ig(hT:T.Ok P)(hg:aL ops s o=some true){t:TypeId}{x:Operand}{lo hi:Option Operand}(ho:o.op= .slice t x lo hi none){ti:TInfo}(hti:T.get t=some ti)(hd:ti.desc= .string)
  {l:List UInt8} (hx:evS s x= .str l) {a b:Int} (ha:eW (lo.map (evS s)) 0=some a) (hb:eW (hi.map (evS s)) l.length=some b) (hab:0≤a∧a≤b∧b≤l.length)
  {l':List UInt8} (hr:l'=(l.take b.toNat).drop a.toNat) (hp:putD n s o.dst (.str l')=some s') (h:Ao P Px ops rest ⟨n,s',bx,ob⟩ K):Ao P Px ops (o::rest) ⟨n,s,bx,ob⟩ K:=by
 subst hr;refine iz hT hg (r:= .str ((l.take b.toNat).drop a.toNat)) ?_ hp h;rw[ho];simp only[dH,hti,hd,hx,iW,ha,hb];rw[zp hab]
theorem la(ho:ops[k]? =some o)(hg:aL ops s o=some true){t:TypeId}{x:Operand}{lo hi:Option Operand}(hop:o.op= .slice t x lo hi none){ti:TInfo}(hti:T.get t=some ti)(hd:ti.desc= .string)
  {l:List UInt8} (hx:evS s x= .str l) {a b:Int} (ha:eW (lo.map (evS s)) 0=some a) (hb:eW (hi.map (evS s)) l.length=some b) (hab:0≤a∧a≤b∧b≤l.length)
  {l':List UInt8} (hr:l'=(l.take b.toNat).drop a.toNat) (hp:putD n s o.dst (.str l')=some s') (h:Do P Px T rb ops L ⟨n,s',bx,ob⟩ K):Do P Px T rb ops (k::L) ⟨n,s,bx,ob⟩ K:=by
 subst hr;refine kd ho hg (by rw[hop];rfl) (r:= .str ((l.take b.toNat).drop a.toNat)) ?_ hp h;rw[hop];simp only[dr,dH,hti,hd,hx,iW,ha,hb];rw[zp hab]
theorem lk(hT:T.Ok P)(hg:aL ops s o=some true){t t':TypeId}{x y:Operand}(ho:o.op= .binOp .add t x y t'){a b:List UInt8}(hx:evS s x= .str a)(hy:evS s y= .str b)(hb:a.length+b.length≤dY){c:List UInt8}(hc:c=a++b)
  (hp:putD n s o.dst (.str c)=some s') (h:Ao P Px ops rest ⟨n,s',bx,ob⟩ K):Ao P Px ops (o::rest) ⟨n,s,bx,ob⟩ K:=by
 subst hc;exact Ao.cat hT hg ho hx hy hb hp h
theorem Rep.rowsLe{M:Mem}{b:Bool}{e:TypeId}{rows rows':List (List PV)}(h:cS P rows rows'){x:Value}(hx:Rep P M b (.list e rows) x):Rep P M b (.list e rows') x:=gN.list h M b x hx
theorem iN(hT:T.Ok P){o:Oper}{ev:Operand→PV}{H:Heap}{x y:Operand}{t:TypeId}(ho:o.op= .call {callee:= .builtin .append,args:=#[x,y],argTypes:=#[t,t]}){ti ei:TInfo}{e:TypeId}(hti:T.get t=some ti)(hd:ti.desc= .slice e)(hei:T.get e=some ei)
  (hz:Nat.beq ei.zero.cells.size ei.size=true) (hsz:Nat.blt 0 ei.size=true) {tag:Nat} {g:OwnRef} {len:Nat} {rows rows2 rows2' rows':List (List PV)} {wr:Bool} (hx:ev x= .own tag g len) (hob:H.ob tag=some ⟨g,e,rows,wr⟩) (hlen:len=rows.length) (hy:ev y= .list e rows2)
  (hle:cS P rows2 rows2') (hby:(rows.length+rows2'.length)*ei.bytes≤2^47) (hmx:rows.length+rows2'.length≤maxLen) (heq:rows++rows2'=rows') {K:PV→Heap→Prop} (hk:∀g',K (.own tag g' rows'.length) ⟨H.bx,upd H.ob tag (some ⟨g',e,rows',wr⟩)⟩):Eff P Px o ev H K:=by
 subst heq
 classical
 have hxy:x≠y:=fun e=>by subst e;rw[hx]at hy;cases hy
 intro C M a w next Q hi he hn
 have key:=eff_appendO (P:=P) (Px:=Px) (o:=o) (ev:=fun z=>if z=y then PV.list e rows2' else ev z) (H:=H) hT ho hti hd hei hz hsz (rows2:=rows2') (by simp[hxy,hx]) hob hlen (by simp) hby hmx (K:=K) hk;refine key C M a w next Q hi (fun z hz=>?_) hn
 by_cases hzy:z=y
 ·subst hzy;simp only[if_true]
  have:=he z hz
  rw[hy]at this;exact Rep.rowsLe hle this
 ·simp only[hzy,if_false];exact he z hz
theorem lq(hT:T.Ok P)(hg:aL ops s o=some true){x y:Operand}{t:TypeId}(ho:o.op= .call {callee:= .builtin .append,args:=#[x,y],argTypes:=#[t,t]}){d:Nat}(hdst:o.dst=some d)(hlt:Nat.blt d n=true){ti ei:TInfo}{e:TypeId}(hti:T.get t=some ti)(hd:ti.desc= .slice e)(hei:T.get e=some ei)
  (hz:Nat.beq ei.zero.cells.size ei.size=true) (hsz:Nat.blt 0 ei.size=true) {tag:Nat} {g:OwnRef} {len:Nat} {rows rows2 rows2' rows':List (List PV)} {wr:Bool} (hx:evS s x= .own tag g len) (hob:ob tag=some ⟨g,e,rows,wr⟩) (hlen:len=rows.length) (hy:evS s y= .list e rows2)
  (hle:cS P rows2 rows2') (hby:(rows.length+rows2'.length)*ei.bytes≤2^47) (hmx:rows.length+rows2'.length≤maxLen) (heq:rows++rows2'=rows') (h:∀g',Ao P Px ops rest ⟨n,upd s d (.own tag g' rows'.length),bx,upd ob tag (some ⟨g',e,rows',wr⟩)⟩ K):Ao P Px ops (o::rest) ⟨n,s,bx,ob⟩ K:=
 em hg (iN hT ho hti hd hei hz hsz hx hob hlen hy hle hby hmx heq fun g'=>⟨_,by simp[hdst,putD,hlt],h g'⟩)
theorem fH(hT:T.Ok P)(ho:ops[k]? =some o)(hg:aL ops s o=some true){x y:Operand}{t:TypeId}(hop:o.op= .call {callee:= .builtin .append,args:=#[x,y],argTypes:=#[t,t]}){d:Nat}(hdst:o.dst=some d)(hlt:Nat.blt d n=true){ti ei:TInfo}{e:TypeId}(hti:T.get t=some ti)(hd:ti.desc= .slice e)(hei:T.get e=some ei)
  (hz:Nat.beq ei.zero.cells.size ei.size=true) (hsz:Nat.blt 0 ei.size=true) {tag:Nat} {g:OwnRef} {len:Nat} {rows rows2 rows2' rows':List (List PV)} {wr:Bool} (hx:evS s x= .own tag g len) (hob:ob tag=some ⟨g,e,rows,wr⟩) (hlen:len=rows.length) (hy:evS s y= .list e rows2)
  (hle:cS P rows2 rows2') (hby:(rows.length+rows2'.length)*ei.bytes≤2^47) (hmx:rows.length+rows2'.length≤maxLen) (heq:rows++rows2'=rows') (h:∀g',Do P Px T rb ops L ⟨n,upd s d (.own tag g' rows'.length),bx,upd ob tag (some ⟨g',e,rows',wr⟩)⟩ K):Do P Px T rb ops (k::L) ⟨n,s,bx,ob⟩ K:=by
 refine⟨o,ho,true,hg,?_⟩
 simp only[if_true,hop,bH];exact .inr fun bx'=>iN hT hop hti hd hei hz hsz hx hob hlen hy hle hby hmx heq fun g'=>⟨rfl,fun hx=>by simp[hZ]at hx,_,by simp[hdst,putD,hlt],h g'⟩
theorem kT(hT:T.Ok P)(hg:aL ops s o=some true){t e:TypeId}{m:Nat}{ps:Array (Nat×Operand)}(ho:o.op= .buildSlice t m ps){ti:TInfo}(hti:T.get t=some ti)(hd:ti.desc= .slice e){rows rows':List (List PV)}
  (hr:eZ T e m (dh (evS s) ps)=some rows) (hle:cS P rows rows') {d:Nat} (hdst:o.dst=some d) (hlt:Nat.blt d n=true) (h:Ao P Px ops rest ⟨n,upd s d (.list e rows'),bx,ob⟩ K):Ao P Px ops (o::rest) ⟨n,s,bx,ob⟩ K:=by
 refine Ao.bsF hT hg ho hti hd hr (s':=upd s d (.list e rows)) (by simp[hdst,putD,hlt]) (Ao.cast d (de _ _ _) (PLe.of2 (gN.list hle)) ?_)
 have:upd (upd s d (PV.list e rows)) d (.list e rows')=upd s d (.list e rows'):=by
  funext t;simp only[cK];split<;>rfl
 rw[this];exact h
theorem je{t e:TypeId}{m:Nat}{ps:Array (Nat×Operand)}{ti:TInfo}{rows rows':List (List PV)}{d:Nat}(hT:T.Ok P)(hr:eZ T e m (dh (evS s) ps)=some rows)(hle:cS P rows rows')(h:Ao P Px ops rest ⟨n,upd s d (.list e rows'),bx,ob⟩ K)(hg:aL ops s o=some true:=by exact rfl)(ho:o.op= .buildSlice t m ps:=by exact rfl)(hti:T.get t=some ti:=by exact rfl)(hd:ti.desc= .slice e:=by exact rfl)(hdst:o.dst=some d:=by exact rfl)(hlt:Nat.blt d n=true:=by exact rfl):Ao P Px ops (o::rest) ⟨n,s,bx,ob⟩ K:=kT hT hg ho hti hd hr hle hdst hlt h
end
section
variable{P:Program}{Px:PV→Prop}{fn:Func}{R:PV→Heap→Prop}{ks:List KI}{n:Nat}{s:Nat→PV}{bx:Nat→Option Box}{ob:Nat→Option Obj}{T:TT}
end
section
variable{P:Program}{Px:PV→Prop}{C:Ctx}{M:Mem}{H:Heap}{w:World}
theorem InvH.reobj(h:InvH P C M H w){tag:Nat}{g:OwnRef}{e:TypeId}{rows rows':List (List PV)}{wr:Bool}(hx:H.ob tag=some ⟨g,e,rows,wr⟩)(hl:rows'.map List.length=rows.map List.length)(hle:dC P rows.flatten rows'.flatten):
  InvH P C M ⟨H.bx,upd H.ob tag (some ⟨g,e,rows',wr⟩)⟩ w:=by
 have hlen:rows'.length=rows.length:=by simpa using congrArg List.length hl
 have key:∀t y,upd H.ob tag (some ⟨g,e,rows',wr⟩) t=some y→(t=tag∧y=⟨g,e,rows',wr⟩)∨H.ob t=some y:=by
  intro t y hy;rw[cK]at hy;split at hy
  ·rename_i e;exact .inl ⟨e,(Option.some.inj hy).symm⟩
  ·exact .inr hy
 have same:∀t y,upd H.ob tag (some ⟨g,e,rows',wr⟩) t=some y→∃z,H.ob t=some z∧z.g=y.g:=by
  intro t y hy;rcases key t y hy with⟨rfl,rfl⟩|hy
  ·exact⟨_,hx,rfl⟩
  ·exact⟨y,hy,rfl⟩
 refine⟨h.mem,h.ext,h.new,h.os,h.tape,h.output,h.size,h.frame,h.boxes,?_,h.dbox,?_,?_⟩
 ·intro t y hy;rcases key t y hy with⟨rfl,rfl⟩|hy
  ·obtain⟨i,h1,h2,h3,h4⟩:=h.objs _ _ hx
   simp only at h1 h2 h3 h4
   refine⟨i,h1,?_,?_,?_⟩
   ·simpa only[hlen]using h2
   ·intro r hr
    have:r.length∈rows'.map List.length:=List.mem_map.2 ⟨r,hr,rfl⟩
    rw[hl]at this
    obtain⟨q,hq,e1⟩:=List.mem_map.1 this
    rw[←e1];exact h3 q hq
   ·rcases h4 with⟨a,b,c⟩|⟨b,cur,h5,h6,h7,h8,h9,h10,h11,h12,h13,h14⟩
    ·refine .inl ⟨a,?_,c⟩;rw[b]at hlen;exact List.length_eq_zero_iff.1 hlen
    ·refine .inr ⟨b,cur,h5,h6,h7,h8,?_,h10,?_,?_,h13,?_⟩
     ·simpa only[hlen]using h9
     ·simp only[hlen];exact hle M false _ h11
     ·simpa only[hlen]using h12
     ·simpa only[hlen]using h14
  ·exact h.objs t y hy
 ·intro t t' y y' b hy hy' hb hb'
  obtain⟨z,hz,e1⟩:=same t y hy
  obtain⟨z',hz',e1'⟩:=same t' y' hy'
  exact h.dobj t t' z z' b hz hz' (e1▸hb) (e1'▸hb')
 ·intro t t' y y' hy hy' hb
  obtain⟨z',hz',e1'⟩:=same t' y' hy'
  exact h.dmix t t' y z' hy hz' (e1'▸hb)
end
theorem dC.of_eq{P:Program}{a b:List PV}(h:a=b):dC P a b:=h▸dC.refl a
theorem dC.trans{P:Program}{a b c:List PV}(h:dC P a b)(h':dC P b c):dC P a c:=fun M s xs hx=>h' M s xs (h M s xs hx)
section
variable{P:Program}{Px:PV→Prop}{ops:Array Oper}{rest:List Oper}{o:Oper}{n:Nat}{s s':Nat→PV}{bx:Nat→Option Box}{ob:Nat→Option Obj}{K:PState→Prop}{T:TT}{rb:RB}{k:Nat}{L:List Nat}
theorem kY(hT:T.Ok P)(hg:aL ops s o=some true){t e:TypeId}{m:Nat}{ps:Array (Nat×Operand)}(ho:o.op= .buildSlice t m ps){d:Nat}(hdst:o.dst=some d)(hlt:Nat.blt d n=true){ti:TInfo}(hti:T.get t=some ti)(hd:ti.desc= .slice e){rows rows':List (List PV)}
  (hr:eZ T e m (dh (evS s) ps)=some rows) (hl:rows'.map List.length=rows.map List.length) (hm:rows.length=m) (hle:dC P rows.flatten rows'.flatten) (h:∀g,Ao P Px ops rest ⟨n,upd s d (.own d g rows'.length),bx,upd ob d (some ⟨g,e,rows',true⟩)⟩ K):Ao P Px ops (o::rest) ⟨n,s,bx,ob⟩ K:=by
 refine Ao.bsO hT hg ho hdst hlt hti hd hr fun g=>?_
 have hlen:rows'.length=m:=by rw[←hm];simpa using congrArg List.length hl
 have h':=h g;rw[hlen]at h';refine aE (st':=⟨n,upd s d (.own d g m),bx,upd ob d (some ⟨g,e,rows',true⟩)⟩) ?_ h';intro C M a w hi
 refine⟨M,hi.1,?_⟩
 have:=hi.2.reobj (tag:=d) (rows':=rows') (de _ _ _) hl hle
 simp only[PState.heap]at this⊢
 have e2:upd (upd ob d (some ⟨g,e,rows,true⟩)) d (some ⟨g,e,rows',true⟩)=upd ob d (some ⟨g,e,rows',true⟩):=by
  funext t;simp only[cK];split<;>rfl
 rwa [e2]at this
end
@[simp] theorem bPs {α β:Type} (a:α) (k:α→Option β):ar (some a) k=k a:=rfl
@[simp] theorem bindP_none {α β:Type} (k:α→Option β):ar none k=none:=rfl
@[simp] theorem letP_eq {α β:Type} (a:α) (k:α→β):cx a k=k a:=rfl
@[simp] theorem thenP_nextS {σ β:Type} (s:σ) (k:σ→Option β):Flow.thenP (.next s) k=k s:=rfl
@[simp] theorem thenR_nextS {σ ρ:Type} (s:σ) (k:σ→Option ρ):Flow.thenR (.next s) k=k s:=rfl
@[simp] theorem thenR_retS {σ ρ:Type} (r:ρ) (k:σ→Option ρ):Flow.thenR (.ret r) k=some r:=rfl
@[simp] theorem thenF_nextS {σ τ ρ:Type} (s:σ) (k:σ→Option (Flow τ ρ)):Flow.thenF (.next s) k=k s:=rfl
@[simp] theorem thenF_retS {σ τ ρ:Type} (r:ρ) (k:σ→Option (Flow τ ρ)):Flow.thenF (.ret r) k=some (.ret r):=rfl
theorem appI_ok{α:Type}{bytes:Nat}{xs ys:List α}(h1:(xs.length+ys.length)*bytes≤2^47)(h2:xs.length+ys.length≤maxLen):ec bytes xs ys=some (xs++ys):=by
 unfold ec;rw[zp ⟨h1,h2⟩]
theorem getI_ok{α:Type}{xs:List α}{i:Int}{x:α}(h0:0≤i)(h:xs[i.toNat]? =some x):bO xs i=some x:=by unfold bO;rw[zp h0,h]
theorem eG{α:Type}{xs:List α}{j:Nat}{x:α}(h:xs[j]? =some x):bO xs (j:Int)=some x:=getI_ok (by omega) (by simpa using h)
theorem jk{α:Type}{xs:List α}{a b:Int}(h:0≤a∧a≤b∧b≤xs.length):dJ xs a b=some ((xs.take b.toNat).drop a.toNat):=by unfold dJ;rw[zp h]
theorem catS_ok{a b:List UInt8}(h:a.length+b.length≤dY):catS a b=some (a++b):=by unfold catS;rw[zp h]
theorem rangeM_by{α σ ρ:Type}{step:Nat→α→σ→Option (Flow σ ρ)}(I:Nat→σ→Prop)(Q:ρ→Prop):
  ∀(xs:List α) (j:Nat) (s:σ),I j s→(∀k x s,xs[k]? =some x→I (j+k) s→∃fl,step (j+k) x s=some fl∧(match fl with| .next s'=>I (j+k+1) s'| .brk _=>False| .ret r=>Q r))→
   ∃fl,bJ step j xs s=some fl∧(match fl with| .next s'=>I (j+xs.length) s'| .brk _=>False| .ret r=>Q r)
 |[],j,s,h,_=>⟨.next s,rfl,by simpa using h⟩
 |x::xs,j,s,h,hs=>by
  obtain⟨fl,h1,h2⟩:=hs 0 x s rfl (by simpa using h)
  rw[Nat.add_zero]at h1;cases fl with
  |next s'=>
   obtain⟨fl,h3,h4⟩:=rangeM_by I Q xs (j+1) s' (by simpa using h2) (fun k y t hk hI=>by
    obtain⟨fl,h5,h6⟩:=hs (k+1) y t (by simpa using hk) (by rw[show j+(k+1)=j+1+k from by omega];exact hI)
    rw[show j+(k+1)=j+1+k from by omega]at h5 h6
    exact⟨fl,h5,h6⟩)
   refine⟨fl,by rw[bJ,h1];exact h3,?_⟩
   rw[show j+(x::xs).length=j+1+xs.length from by simp;omega];exact h4
  |brk s'=>exact absurd h2 (by simp)
  |ret r=>exact⟨.ret r,by rw[bJ,h1],h2⟩
theorem kD{α ρ:Type}{step:Nat→α→Unit→Option (Flow Unit ρ)}(p:α→Bool)(out:Nat→α→ρ):∀(xs:List α) (j:Nat),(∀k x,xs[k]? =some x→step (j+k) x ()=some (if p x then .ret (out (j+k) x)else .next ()))→
  bJ step j xs ()=some (match xs.findIdx? p with|some i=>(match xs[i]? with|some x=>.ret (out (j+i) x)|none=>.next ())|none=>.next ())
 |[],j,_=>rfl
 |x::xs,j,hs=>by
  have h0:=hs 0 x rfl;rw[Nat.add_zero]at h0;rw[bJ,h0,List.findIdx?_cons];cases hp:p x with
  |true=>simp
  |false=>
   simp only[Bool.false_eq_true,if_false]
   rw[kD p out xs (j+1) (fun k y hk=>by
    have:=hs (k+1) y (by simpa using hk)
    rw[show j+(k+1)=j+1+k from by omega]at this;exact this)]
   cases xs.findIdx? p with
   |none=>simp
   |some i=>
    simp only[Option.map_some,List.getElem?_cons_succ];rw[show j+1+i=j+(i+1)from by omega]
section
variable{P:Program}{Px:PV→Prop}{T:TT}{M:Mem}
end
def iV{α:Type}(p:Prop)[Decidable p](a:α):Option α:=if p then some a else none
theorem kA{α:Type}{p:Prop}[Decidable p]{a b:α}(h:iV p a=some b):p∧a=b:=by
 unfold iV at h;split at h
 ·rename_i hp;exact⟨hp,Option.some.inj h⟩
 ·cases h
@[simp] theorem guardO_pos {α:Type} {p:Prop} [Decidable p] {a:α} (h:p):iV p a=some a:=by unfold iV;rw[zp h]
end
end Go.Ab

namespace Go.Ab
noncomputable section
open Go.Proofs
def tS(d:TypeDesc):TInfo:=⟨d,1,24,.slice none 0 0,[]⟩
def tP(d:TypeDesc):TInfo:=⟨d,1,8,.pointer none,[]⟩
def tF(d:TypeDesc):TInfo:=⟨d,1,8,.nilFunc,[]⟩
theorem tO{P:Program}{k:Nat}{v:TInfo}(i:TypeInfo)(h:P.info? k=some i)(e:(i.size,i.bytes,i.zero,v.eqf)=(v.size,v.bytes,some v.zero,[]))(u:P.underlying k=some v.desc):v.Ok P k:=by
 simp only[Prod.mk.injEq]at e
 exact⟨⟨i,h,e.1,e.2.1,e.2.2.1⟩,u,fun hn=>absurd e.2.2.2 hn⟩
def ti49:TInfo:=⟨Tryz.t48.desc,3,32,.agg #[.string ⟨#[]⟩,.int .i64 0,.bool false],[(9,0),(3,1),(4,2)]⟩
def ti55:TInfo:=⟨Tryz.t54.desc,3,32,.agg #[.int .i64 0,.int .i64 0,.string ⟨#[]⟩],[(3,0),(3,1),(9,2)]⟩
def ti76:TInfo:=⟨Tryz.t75.desc,4,40,.agg #[.int .i64 0,.string ⟨#[]⟩,.int .i64 0,.int .i64 0],[(3,0),(9,1),(3,2),(3,3)]⟩
def ti106:TInfo:=⟨Tryz.t105.desc,1,8,.agg #[.int .i64 0],[(3,0)]⟩
def ti274:TInfo:=⟨Tryz.t273.desc,1,16,.agg #[.string ⟨#[]⟩],[(9,0)]⟩
def ti282:TInfo:=⟨Tryz.t281.desc,2,2,.agg #[.int .u8 0,.int .u8 0],[(5,0),(5,1)]⟩
theorem ti49_ok:ti49.Ok Tryz.prog 49:=⟨⟨Tryz.t49,by kernel_rfl,rfl,rfl,rfl⟩,Tryz.underlying49,fun _=>⟨Tryz.stoodInHeld49,Tryz.eqGuardType49,by simp[ce,Program.fieldsOf,Tryz.underlying49,ti49],by kernel_rfl⟩⟩
theorem ti55_ok:ti55.Ok Tryz.prog 55:=⟨⟨Tryz.t55,by kernel_rfl,rfl,rfl,rfl⟩,Tryz.underlying55,fun _=>⟨Tryz.stoodInHeld55,Tryz.eqGuardType55,by simp[ce,Program.fieldsOf,Tryz.underlying55,ti55],by kernel_rfl⟩⟩
theorem ti76_ok:ti76.Ok Tryz.prog 76:=⟨⟨Tryz.t76,by kernel_rfl,rfl,rfl,rfl⟩,Tryz.underlying76,fun _=>⟨Tryz.stoodInHeld76,Tryz.eqGuardType76,by simp[ce,Program.fieldsOf,Tryz.underlying76,ti76],by kernel_rfl⟩⟩
theorem ti106_ok:ti106.Ok Tryz.prog 106:=⟨⟨Tryz.t106,by kernel_rfl,rfl,rfl,rfl⟩,Tryz.underlying106,fun _=>⟨Tryz.stoodInHeld106,Tryz.eqGuardType106,by simp[ce,Program.fieldsOf,Tryz.underlying106,ti106],by kernel_rfl⟩⟩
theorem ti274_ok:ti274.Ok Tryz.prog 274:=⟨⟨Tryz.t274,by kernel_rfl,rfl,rfl,rfl⟩,Tryz.underlying274,fun _=>⟨Tryz.stoodInHeld274,Tryz.eqGuardType274,by simp[ce,Program.fieldsOf,Tryz.underlying274,ti274],by kernel_rfl⟩⟩
theorem ti282_ok:ti282.Ok Tryz.prog 282:=⟨⟨Tryz.t282,by kernel_rfl,rfl,rfl,rfl⟩,Tryz.underlying282,fun _=>⟨Tryz.stoodInHeld282,Tryz.eqGuardType282,by simp[ce,Program.fieldsOf,Tryz.underlying282,ti282],by kernel_rfl⟩⟩
def tt:TT:=(.node 134 ⟨Tryz.t134.desc,8,192,.agg #[.slice none 0 0,.slice none 0 0,.slice none 0 0,.slice none 0 0,.slice none 0 0,.slice none 0 0,.slice none 0 0,.slice none 0 0],[]⟩ (.node 51 (tS Tryz.t51.desc) (.node 25 (tS Tryz.t25.desc) (.node 9 ⟨Tryz.t9.desc,1,16,.string ⟨#[]⟩,[]⟩ (.node 3 ⟨Tryz.t3.desc,1,8,.int .i64 0,[]⟩ (.node 2 ⟨Tryz.t2.desc,1,8,.int .i64 0,[]⟩ (.node 1 (tF Tryz.t1.desc) .leaf .leaf) .leaf) (.node 5 ⟨Tryz.t5.desc,1,1,.int .u8 0,[]⟩ (.node 4 ⟨Tryz.t4.desc,1,1,.bool false,[]⟩ .leaf .leaf) .leaf)) (.node 22 (tF Tryz.t22.desc) (.node 21 ⟨Tryz.t21.desc,1,4,.int .i32 0,[]⟩ (.node 20 ⟨Tryz.t20.desc,1,16,.nilIface,[]⟩ .leaf .leaf) .leaf) (.node 24 (tS Tryz.t24.desc) (.node 23 (tS Tryz.t23.desc) .leaf .leaf) .leaf))) (.node 39 (tS Tryz.t39.desc) (.node 29 ⟨Tryz.t28.desc,9,160,.agg #[.int .i64 0,.string ⟨#[]⟩,.slice none 0 0,.slice none 0 0,.slice none 0 0,.slice none 0 0,.int .i64 0,.int .i64 0,.slice none 0 0],[]⟩ (.node 27 (tS Tryz.t27.desc) (.node 26 (tS Tryz.t26.desc) .leaf .leaf) .leaf) (.node 33 (tS Tryz.t33.desc) (.node 30 ⟨Tryz.t3.desc,1,8,.int .i64 0,[]⟩ .leaf .leaf) .leaf)) (.node 43 ⟨Tryz.t42.desc,3,72,.agg #[.slice none 0 0,.slice none 0 0,.slice none 0 0],[]⟩ (.node 41 (tS Tryz.t41.desc) (.node 40 (tS Tryz.t40.desc) .leaf .leaf) .leaf) (.node 50 (tS Tryz.t50.desc) (.node 49 ti49 .leaf .leaf) .leaf)))) (.node 82 ⟨Tryz.t81.desc,7,88,.agg #[.int .i64 0,.string ⟨#[]⟩,.int .i64 0,.int .i64 0,.int .i64 0,.string ⟨#[]⟩,.slice none 0 0],[]⟩ (.node 59 (tS Tryz.t59.desc) (.node 56 (tF Tryz.t56.desc) (.node 55 ti55 (.node 53 ⟨Tryz.t52.desc,3,64,.agg #[.string ⟨#[]⟩,.slice none 0 0,.slice none 0 0],[]⟩ .leaf .leaf) .leaf) (.node 58 (tS Tryz.t57.desc) (.node 57 (tS Tryz.t57.desc) .leaf .leaf) .leaf)) (.node 65 ⟨Tryz.t64.desc,2,48,.agg #[.slice none 0 0,.slice none 0 0],[]⟩ (.node 63 (tS Tryz.t62.desc) (.node 61 ⟨Tryz.t60.desc,2,40,.agg #[.string ⟨#[]⟩,.slice none 0 0],[]⟩ .leaf .leaf) .leaf) (.node 76 ti76 (.node 69 (tP Tryz.t69.desc) .leaf .leaf) .leaf))) (.node 104 ⟨Tryz.t103.desc,3,40,.agg #[.slice none 0 0,.int .i64 0,.int .i64 0],[]⟩ (.node 92 (tF Tryz.t92.desc) (.node 87 (tF Tryz.t87.desc) (.node 85 ⟨Tryz.t84.desc,3,56,.agg #[.string ⟨#[]⟩,.string ⟨#[]⟩,.slice none 0 0],[]⟩ .leaf .leaf) .leaf) (.node 102 (tF Tryz.t102.desc) (.node 97 (tF Tryz.t97.desc) .leaf .leaf) .leaf)) (.node 124 (tF Tryz.t124.desc) (.node 121 ⟨Tryz.t120.desc,3,56,.agg #[.string ⟨#[]⟩,.slice none 0 0,.string ⟨#[]⟩],[]⟩ (.node 106 ti106 .leaf .leaf) .leaf) (.node 127 ⟨Tryz.t126.desc,7,80,.agg #[.string ⟨#[]⟩,.int .i64 0,.string ⟨#[]⟩,.int .i64 0,.int .i64 0,.int .i64 0,.string ⟨#[]⟩],[]⟩ .leaf .leaf))))) (.node 206 (tS Tryz.t206.desc) (.node 170 ⟨Tryz.t169.desc,4,96,.agg #[.slice none 0 0,.slice none 0 0,.slice none 0 0,.slice none 0 0],[]⟩ (.node 154 ⟨Tryz.t153.desc,2,32,.agg #[.pointer none,.slice none 0 0],[]⟩ (.node 146 ⟨Tryz.t145.desc,1,16,.nilIface,[]⟩ (.node 142 (tP Tryz.t142.desc) (.node 135 ⟨Tryz.t134.desc,8,192,.agg #[.slice none 0 0,.slice none 0 0,.slice none 0 0,.slice none 0 0,.slice none 0 0,.slice none 0 0,.slice none 0 0,.slice none 0 0],[]⟩ .leaf .leaf) .leaf) (.node 152 (tS Tryz.t152.desc) (.node 151 (tP Tryz.t151.desc) .leaf .leaf) .leaf)) (.node 163 (tF Tryz.t163.desc) (.node 161 (tF Tryz.t161.desc) (.node 156 (tF Tryz.t156.desc) .leaf .leaf) .leaf) (.node 168 (tF Tryz.t168.desc) (.node 165 (tF Tryz.t165.desc) .leaf .leaf) .leaf))) (.node 191 (tP Tryz.t191.desc) (.node 182 ⟨Tryz.t181.desc,5,120,.agg #[.slice none 0 0,.slice none 0 0,.slice none 0 0,.slice none 0 0,.slice none 0 0],[]⟩ (.node 174 (tF Tryz.t174.desc) (.node 172 (tF Tryz.t172.desc) .leaf .leaf) .leaf) (.node 189 (tF Tryz.t189.desc) (.node 184 (tF Tryz.t184.desc) .leaf .leaf) .leaf)) (.node 199 (tF Tryz.t199.desc) (.node 193 ⟨Tryz.t193.desc,1,8,.int .u64 0,[]⟩ (.node 192 ⟨Tryz.t192.desc,24,24,.agg #[.int .u8 0,.int .u8 0,.int .u8 0,.int .u8 0,.int .u8 0,.int .u8 0,.int .u8 0,.int .u8 0,.int .u8 0,.int .u8 0,.int .u8 0,.int .u8 0,.int .u8 0,.int .u8 0,.int .u8 0,.int .u8 0,.int .u8 0,.int .u8 0,.int .u8 0,.int .u8 0,.int .u8 0,.int .u8 0,.int .u8 0,.int .u8 0],[]⟩ .leaf .leaf) .leaf) (.node 205 ⟨Tryz.t205.desc,8,8,.agg #[.bool false,.bool false,.bool false,.bool false,.bool false,.bool false,.bool false,.bool false],[]⟩ (.node 201 (tF Tryz.t201.desc) .leaf .leaf) .leaf)))) (.node 239 (tF Tryz.t239.desc) (.node 232 ⟨Tryz.t232.desc,20,160,.agg #[.int .u64 0,.int .u64 0,.int .u64 0,.int .u64 0,.int .u64 0,.int .u64 0,.int .u64 0,.int .u64 0,.int .u64 0,.int .u64 0,.int .u64 0,.int .u64 0,.int .u64 0,.int .u64 0,.int .u64 0,.int .u64 0,.int .u64 0,.int .u64 0,.int .u64 0,.int .u64 0],[]⟩ (.node 220 ⟨Tryz.t3.desc,1,8,.int .i64 0,[]⟩ (.node 218 (tF Tryz.t218.desc) (.node 214 (tS Tryz.t214.desc) .leaf .leaf) .leaf) (.node 223 (tP Tryz.t223.desc) (.node 222 (tF Tryz.t222.desc) .leaf .leaf) .leaf)) (.node 236 ⟨Tryz.t236.desc,1,8,.int .u64 0,[]⟩ (.node 235 (tF Tryz.t235.desc) (.node 233 ⟨Tryz.t233.desc,1,4,.int .u32 0,[]⟩ .leaf .leaf) .leaf) (.node 238 (tF Tryz.t238.desc) (.node 237 (tF Tryz.t237.desc) .leaf .leaf) .leaf))) (.node 276 ⟨Tryz.t276.desc,32,32,.agg #[.int .u8 0,.int .u8 0,.int .u8 0,.int .u8 0,.int .u8 0,.int .u8 0,.int .u8 0,.int .u8 0,.int .u8 0,.int .u8 0,.int .u8 0,.int .u8 0,.int .u8 0,.int .u8 0,.int .u8 0,.int .u8 0,.int .u8 0,.int .u8 0,.int .u8 0,.int .u8 0,.int .u8 0,.int .u8 0,.int .u8 0,.int .u8 0,.int .u8 0,.int .u8 0,.int .u8 0,.int .u8 0,.int .u8 0,.int .u8 0,.int .u8 0,.int .u8 0],[]⟩ (.node 264 (tF Tryz.t264.desc) (.node 256 ⟨Tryz.t255.desc,3,48,.agg #[.string ⟨#[]⟩,.string ⟨#[]⟩,.nilIface],[]⟩ (.node 240 (tF Tryz.t240.desc) .leaf .leaf) .leaf) (.node 274 ti274 (.node 272 (tP Tryz.t272.desc) .leaf .leaf) .leaf)) (.node 283 ⟨Tryz.t283.desc,32,32,.agg #[.int .u8 0,.int .u8 0,.int .u8 0,.int .u8 0,.int .u8 0,.int .u8 0,.int .u8 0,.int .u8 0,.int .u8 0,.int .u8 0,.int .u8 0,.int .u8 0,.int .u8 0,.int .u8 0,.int .u8 0,.int .u8 0,.int .u8 0,.int .u8 0,.int .u8 0,.int .u8 0,.int .u8 0,.int .u8 0,.int .u8 0,.int .u8 0,.int .u8 0,.int .u8 0,.int .u8 0,.int .u8 0,.int .u8 0,.int .u8 0,.int .u8 0,.int .u8 0],[]⟩ (.node 282 ti282 (.node 277 ⟨Tryz.t277.desc,64,64,.agg #[.int .u8 0,.int .u8 0,.int .u8 0,.int .u8 0,.int .u8 0,.int .u8 0,.int .u8 0,.int .u8 0,.int .u8 0,.int .u8 0,.int .u8 0,.int .u8 0,.int .u8 0,.int .u8 0,.int .u8 0,.int .u8 0,.int .u8 0,.int .u8 0,.int .u8 0,.int .u8 0,.int .u8 0,.int .u8 0,.int .u8 0,.int .u8 0,.int .u8 0,.int .u8 0,.int .u8 0,.int .u8 0,.int .u8 0,.int .u8 0,.int .u8 0,.int .u8 0,.int .u8 0,.int .u8 0,.int .u8 0,.int .u8 0,.int .u8 0,.int .u8 0,.int .u8 0,.int .u8 0,.int .u8 0,.int .u8 0,.int .u8 0,.int .u8 0,.int .u8 0,.int .u8 0,.int .u8 0,.int .u8 0,.int .u8 0,.int .u8 0,.int .u8 0,.int .u8 0,.int .u8 0,.int .u8 0,.int .u8 0,.int .u8 0,.int .u8 0,.int .u8 0,.int .u8 0,.int .u8 0,.int .u8 0,.int .u8 0,.int .u8 0,.int .u8 0],[]⟩ .leaf .leaf) .leaf) (.node 285 (tF Tryz.t285.desc) .leaf .leaf))))))
theorem tk:tt.Ok Tryz.prog:=⟨tO Tryz.t134 (by kernel_rfl) rfl Tryz.underlying134,⟨tO Tryz.t51 (by kernel_rfl) rfl Tryz.underlying51,⟨tO Tryz.t25 (by kernel_rfl) rfl Tryz.underlying25,⟨tO Tryz.t9 (by kernel_rfl) rfl Tryz.underlying9,⟨tO Tryz.t3 (by kernel_rfl) rfl Tryz.underlying3,⟨tO Tryz.t2 (by kernel_rfl) rfl Tryz.underlying2,⟨tO Tryz.t1 (by kernel_rfl) rfl Tryz.underlying1,trivial,trivial⟩,trivial⟩,⟨tO Tryz.t5 (by kernel_rfl) rfl Tryz.underlying5,⟨tO Tryz.t4 (by kernel_rfl) rfl Tryz.underlying4,trivial,trivial⟩,trivial⟩⟩,⟨tO Tryz.t22 (by kernel_rfl) rfl Tryz.underlying22,⟨tO Tryz.t21 (by kernel_rfl) rfl Tryz.underlying21,⟨tO Tryz.t20 (by kernel_rfl) rfl Tryz.underlying20,trivial,trivial⟩,trivial⟩,⟨tO Tryz.t24 (by kernel_rfl) rfl Tryz.underlying24,⟨tO Tryz.t23 (by kernel_rfl) rfl Tryz.underlying23,trivial,trivial⟩,trivial⟩⟩⟩,⟨tO Tryz.t39 (by kernel_rfl) rfl Tryz.underlying39,⟨tO Tryz.t29 (by kernel_rfl) rfl Tryz.underlying29,⟨tO Tryz.t27 (by kernel_rfl) rfl Tryz.underlying27,⟨tO Tryz.t26 (by kernel_rfl) rfl Tryz.underlying26,trivial,trivial⟩,trivial⟩,⟨tO Tryz.t33 (by kernel_rfl) rfl Tryz.underlying33,⟨tO Tryz.t30 (by kernel_rfl) rfl Tryz.underlying30,trivial,trivial⟩,trivial⟩⟩,⟨tO Tryz.t43 (by kernel_rfl) rfl Tryz.underlying43,⟨tO Tryz.t41 (by kernel_rfl) rfl Tryz.underlying41,⟨tO Tryz.t40 (by kernel_rfl) rfl Tryz.underlying40,trivial,trivial⟩,trivial⟩,⟨tO Tryz.t50 (by kernel_rfl) rfl Tryz.underlying50,⟨ti49_ok,trivial,trivial⟩,trivial⟩⟩⟩⟩,⟨tO Tryz.t82 (by kernel_rfl) rfl Tryz.underlying82,⟨tO Tryz.t59 (by kernel_rfl) rfl Tryz.underlying59,⟨tO Tryz.t56 (by kernel_rfl) rfl Tryz.underlying56,⟨ti55_ok,⟨tO Tryz.t53 (by kernel_rfl) rfl Tryz.underlying53,trivial,trivial⟩,trivial⟩,⟨tO Tryz.t58 (by kernel_rfl) rfl Tryz.underlying58,⟨tO Tryz.t57 (by kernel_rfl) rfl Tryz.underlying57,trivial,trivial⟩,trivial⟩⟩,⟨tO Tryz.t65 (by kernel_rfl) rfl Tryz.underlying65,⟨tO Tryz.t63 (by kernel_rfl) rfl Tryz.underlying63,⟨tO Tryz.t61 (by kernel_rfl) rfl Tryz.underlying61,trivial,trivial⟩,trivial⟩,⟨ti76_ok,⟨tO Tryz.t69 (by kernel_rfl) rfl Tryz.underlying69,trivial,trivial⟩,trivial⟩⟩⟩,⟨tO Tryz.t104 (by kernel_rfl) rfl Tryz.underlying104,⟨tO Tryz.t92 (by kernel_rfl) rfl Tryz.underlying92,⟨tO Tryz.t87 (by kernel_rfl) rfl Tryz.underlying87,⟨tO Tryz.t85 (by kernel_rfl) rfl Tryz.underlying85,trivial,trivial⟩,trivial⟩,⟨tO Tryz.t102 (by kernel_rfl) rfl Tryz.underlying102,⟨tO Tryz.t97 (by kernel_rfl) rfl Tryz.underlying97,trivial,trivial⟩,trivial⟩⟩,⟨tO Tryz.t124 (by kernel_rfl) rfl Tryz.underlying124,⟨tO Tryz.t121 (by kernel_rfl) rfl Tryz.underlying121,⟨ti106_ok,trivial,trivial⟩,trivial⟩,⟨tO Tryz.t127 (by kernel_rfl) rfl Tryz.underlying127,trivial,trivial⟩⟩⟩⟩⟩,⟨tO Tryz.t206 (by kernel_rfl) rfl Tryz.underlying206,⟨tO Tryz.t170 (by kernel_rfl) rfl Tryz.underlying170,⟨tO Tryz.t154 (by kernel_rfl) rfl Tryz.underlying154,⟨tO Tryz.t146 (by kernel_rfl) rfl Tryz.underlying146,⟨tO Tryz.t142 (by kernel_rfl) rfl Tryz.underlying142,⟨tO Tryz.t135 (by kernel_rfl) rfl Tryz.underlying135,trivial,trivial⟩,trivial⟩,⟨tO Tryz.t152 (by kernel_rfl) rfl Tryz.underlying152,⟨tO Tryz.t151 (by kernel_rfl) rfl Tryz.underlying151,trivial,trivial⟩,trivial⟩⟩,⟨tO Tryz.t163 (by kernel_rfl) rfl Tryz.underlying163,⟨tO Tryz.t161 (by kernel_rfl) rfl Tryz.underlying161,⟨tO Tryz.t156 (by kernel_rfl) rfl Tryz.underlying156,trivial,trivial⟩,trivial⟩,⟨tO Tryz.t168 (by kernel_rfl) rfl Tryz.underlying168,⟨tO Tryz.t165 (by kernel_rfl) rfl Tryz.underlying165,trivial,trivial⟩,trivial⟩⟩⟩,⟨tO Tryz.t191 (by kernel_rfl) rfl Tryz.underlying191,⟨tO Tryz.t182 (by kernel_rfl) rfl Tryz.underlying182,⟨tO Tryz.t174 (by kernel_rfl) rfl Tryz.underlying174,⟨tO Tryz.t172 (by kernel_rfl) rfl Tryz.underlying172,trivial,trivial⟩,trivial⟩,⟨tO Tryz.t189 (by kernel_rfl) rfl Tryz.underlying189,⟨tO Tryz.t184 (by kernel_rfl) rfl Tryz.underlying184,trivial,trivial⟩,trivial⟩⟩,⟨tO Tryz.t199 (by kernel_rfl) rfl Tryz.underlying199,⟨tO Tryz.t193 (by kernel_rfl) rfl Tryz.underlying193,⟨tO Tryz.t192 (by kernel_rfl) rfl Tryz.underlying192,trivial,trivial⟩,trivial⟩,⟨tO Tryz.t205 (by kernel_rfl) rfl Tryz.underlying205,⟨tO Tryz.t201 (by kernel_rfl) rfl Tryz.underlying201,trivial,trivial⟩,trivial⟩⟩⟩⟩,⟨tO Tryz.t239 (by kernel_rfl) rfl Tryz.underlying239,⟨tO Tryz.t232 (by kernel_rfl) rfl Tryz.underlying232,⟨tO Tryz.t220 (by kernel_rfl) rfl Tryz.underlying220,⟨tO Tryz.t218 (by kernel_rfl) rfl Tryz.underlying218,⟨tO Tryz.t214 (by kernel_rfl) rfl Tryz.underlying214,trivial,trivial⟩,trivial⟩,⟨tO Tryz.t223 (by kernel_rfl) rfl Tryz.underlying223,⟨tO Tryz.t222 (by kernel_rfl) rfl Tryz.underlying222,trivial,trivial⟩,trivial⟩⟩,⟨tO Tryz.t236 (by kernel_rfl) rfl Tryz.underlying236,⟨tO Tryz.t235 (by kernel_rfl) rfl Tryz.underlying235,⟨tO Tryz.t233 (by kernel_rfl) rfl Tryz.underlying233,trivial,trivial⟩,trivial⟩,⟨tO Tryz.t238 (by kernel_rfl) rfl Tryz.underlying238,⟨tO Tryz.t237 (by kernel_rfl) rfl Tryz.underlying237,trivial,trivial⟩,trivial⟩⟩⟩,⟨tO Tryz.t276 (by kernel_rfl) rfl Tryz.underlying276,⟨tO Tryz.t264 (by kernel_rfl) rfl Tryz.underlying264,⟨tO Tryz.t256 (by kernel_rfl) rfl Tryz.underlying256,⟨tO Tryz.t240 (by kernel_rfl) rfl Tryz.underlying240,trivial,trivial⟩,trivial⟩,⟨ti274_ok,⟨tO Tryz.t272 (by kernel_rfl) rfl Tryz.underlying272,trivial,trivial⟩,trivial⟩⟩,⟨tO Tryz.t283 (by kernel_rfl) rfl Tryz.underlying283,⟨ti282_ok,⟨tO Tryz.t277 (by kernel_rfl) rfl Tryz.underlying277,trivial,trivial⟩,trivial⟩,⟨tO Tryz.t285 (by kernel_rfl) rfl Tryz.underlying285,trivial,trivial⟩⟩⟩⟩⟩⟩
end
end Go.Ab


namespace Go.Proofs.YtibojibdiibdgaaGreatDoor
noncomputable section
open Go Go.Ab
theorem mok:Tryz.prog.follows .mixedOrders=true:=by kernel_rfl
abbrev ac(n:Int):PV:= .val (.int .i64 n)
abbrev bG(b:Bool):PV:= .val (.bool b)
structure LVal where
 kind:Int
 int:Int
 text:List UInt8
 deriving DecidableEq
structure LCol where
 name:List UInt8
 kind:Int
 nullable:Bool
 deriving DecidableEq
inductive LExpr where
 |mk (kind:Int) (name:List UInt8) (index:Int) (value:LVal) (args:List LExpr)
def LExpr.kind:LExpr→Int| .mk k _ _ _ _=>k
def LExpr.name:LExpr→List UInt8| .mk _ n _ _ _=>n
def LExpr.index:LExpr→Int| .mk _ _ i _ _=>i
def LExpr.value:LExpr→LVal| .mk _ _ _ v _=>v
def LExpr.args:LExpr→List LExpr| .mk _ _ _ _ a=>a
structure LEnv where
 cols:List LCol
 row:List LVal
 params:List LVal
 vnames:List (List UInt8)
 vvals:List LVal
@[simp] def dT (v:LVal):List PV:=[ac v.kind,ac v.int,.str v.text]
@[simp] def encCol (c:LCol):List PV:=[.str c.name,ac c.kind,bG c.nullable]
mutual
def al:LExpr→List PV
 | .mk k n i v a=>[ac k,.str n,ac i,ac v.kind,ac v.int,.str v.text,.list 82 (jp a)]
def jp:List LExpr→List (List PV)
 |[]=>[]
 |e::r=>al e::jp r
end
theorem jN:∀l,jp l=l.map al
 |[]=>rfl
 |e::r=>by simp[jp,jN r]
def bM(e:LExpr):List PV:=[ac e.kind,.str e.name,ac e.index,ac e.value.kind,ac e.value.int,.str e.value.text,.list 82 (e.args.map al)]
theorem cO(e:LExpr):al e=bM e:=by
 cases e;simp[al,bM,jN,LExpr.kind,LExpr.name,LExpr.index,LExpr.value,LExpr.args]
abbrev pvals(l:List LVal):PV:= .list 55 (l.map dT)
abbrev pcols(l:List LCol):PV:= .list 49 (l.map encCol)
abbrev pstrs(l:List (List UInt8)):PV:= .list 9 (l.map fun s=>[.str s])
@[simp] def encEnv (v:LEnv):List PV:=[pcols v.cols,pvals v.row,pvals v.params,pstrs v.vnames,pvals v.vvals]
def idxOf{α:Type}(p:α→Bool)(l:List α):Int:=match l.findIdx? p with
 |some i=>i
 |none=>-1
theorem gf{n:Int}(h1:-9223372036854775808≤n)(h2:n≤9223372036854775807):IntKind.i64.wrap n=n:=by
 simp only[IntKind.wrap,IntKind.bits,IntKind.signed];simp;omega
theorem pint_succ{j:Nat}(h:j<maxLen):ac (IntKind.i64.wrap ((j:Int)+1))=ac ((j+1:Nat):Int):=by
 rw[gf (by omega) (by simp[maxLen]at h;omega)];simp
theorem idxOf_any{α:Type}{p:α→Bool}{l:List α}:(decide (idxOf p l≥0))=l.any p:=by
 rw[Bool.eq_iff_iff];simp only[decide_eq_true_eq,List.any_eq_true];cases h:l.findIdx? p with
 |none=>
  have e:idxOf p l=-1:=by simp[idxOf,h]
  rw[List.findIdx?_eq_none_iff]at h;rw[e];constructor
  ·intro h';omega
  ·rintro⟨x,hx,hp⟩;rw[h x hx]at hp;cases hp
 |some i=>
  have e:idxOf p l=(i:Int):=by simp[idxOf,h]
  rw[List.findIdx?_eq_some_iff_getElem]at h;rw[e]
  exact⟨fun _=>⟨_,List.getElem_mem h.1,h.2.1⟩,fun _=>by omega⟩
abbrev Rq:=List LVal
abbrev Rz:=List (List LVal)
abbrev ay:Bool→List PV:=fun b=>[bG b]
abbrev aB:List UInt8→List PV:=fun s=>[.str s]
theorem natLt{n:Int}{m j:Nat}(hm:n≤2^62∧m=n.toNat)(h:decide ((j:Int)<n)=true):j<(List.range m).length:=by
 have:=of_decide_eq_true h
 simp;omega
theorem natGe{n:Int}{m j:Nat}(hm:n≤2^62∧m=n.toNat)(h:decide ((j:Int)<n)=false):(List.range m).length≤j:=by
 have:=of_decide_eq_false h
 simp;omega
theorem natX{m j x:Nat}(h:(List.range m)[j]? =some x):j=x:=by
 have:=zg.1 h
 obtain⟨h1,h2⟩:=this
 simpa using h2
theorem jo{n:Int}{m j:Nat}(hm:n≤2^62∧m=n.toNat)(h:j<(List.range m).length):ac (IntKind.i64.wrap ((j:Int)+1))=ac ((j+1:Nat):Int):=by
 rw[gf (by omega) (by simp at h;omega)];simp
structure LAggregateCall where
 name:List UInt8
 function:List UInt8
 args:List LExpr
@[simp] def ax (x:LAggregateCall):List PV:=[(.str x.name),(.str x.function),(.list 82 (x.args.map al))]
inductive LQuery where
 |mk (kind:Int) (table:List UInt8) (names:List (List UInt8)) (exprs:List LExpr) (aggregates:List LAggregateCall) (descending:List Bool) (count:Int) (offset:Int) (inputs:List LQuery)
def LQuery.kind:LQuery→Int| .mk a _ _ _ _ _ _ _ _=>a
def LQuery.table:LQuery→List UInt8| .mk _ a _ _ _ _ _ _ _=>a
def LQuery.names:LQuery→List (List UInt8)| .mk _ _ a _ _ _ _ _ _=>a
def LQuery.exprs:LQuery→List LExpr| .mk _ _ _ a _ _ _ _ _=>a
def LQuery.aggregates:LQuery→List LAggregateCall| .mk _ _ _ _ a _ _ _ _=>a
def LQuery.descending:LQuery→List Bool| .mk _ _ _ _ _ a _ _ _=>a
def LQuery.count:LQuery→Int| .mk _ _ _ _ _ _ a _ _=>a
def LQuery.offset:LQuery→Int| .mk _ _ _ _ _ _ _ a _=>a
def LQuery.inputs:LQuery→List LQuery| .mk _ _ _ _ _ _ _ _ a=>a
mutual
def ag:LQuery→List PV
 | .mk f0 f1 f2 f3 f4 f5 f6 f7 f8=>[(ac f0),(.str f1),(.list 9 (f2.map aB)),(.list 82 (f3.map al)),(.list 85 (f4.map ax)),(.list 4 (f5.map ay)),(ac f6),(ac f7),.list 29 (iF f8)]
def iF:List LQuery→List (List PV)
 |[]=>[]
 |e::r=>ag e::iF r
end
theorem jK:∀l,iF l=l.map ag
 |[]=>rfl
 |e::r=>by simp[iF,jK r]
def aG(x:LQuery):List PV:=[(ac x.kind),(.str x.table),(.list 9 (x.names.map aB)),(.list 82 (x.exprs.map al)),(.list 85 (x.aggregates.map ax)),(.list 4 (x.descending.map ay)),(ac x.count),(ac x.offset),(.list 29 (x.inputs.map ag))]
theorem eP(x:LQuery):ag x=aG x:=by
 cases x;simp[ag,aG,jK,LQuery.kind,LQuery.table,LQuery.names,LQuery.exprs,LQuery.aggregates,LQuery.descending,LQuery.count,LQuery.offset,LQuery.inputs]
structure LLexerToken where
 kind:Int
 text:List UInt8
 number:Int
 offset:Int
 deriving DecidableEq
@[simp] def aJ (x:LLexerToken):List PV:=[(ac x.kind),(.str x.text),(ac x.number),(ac x.offset)]
structure LQueryparserParser where
 tokens:List LLexerToken
 next:Int
 size:Int
 deriving DecidableEq
@[simp] def aa (x:LQueryparserParser):List PV:=[(.list 76 (x.tokens.map aJ)),(ac x.next),(ac x.size)]
structure LQueryparserWrong where
 atF:Int
 deriving DecidableEq
@[simp] def encQueryparserWrong (x:LQueryparserWrong):List PV:=[(ac x.atF)]
abbrev Tok:=LLexerToken
abbrev Res(α:Type):=Except (List Tok) (α×List Tok)
inductive PT (α:Type) where
 |rt (a:α)
 |fl
 |acc (f:Tok→Bool) (y:Tok→PT α) (n:PT α)
 |out
open PT
section
variable{α β:Type}
def PT.run:PT α→List Tok→Option (Res α)
 | .rt a,t=>some (.ok (a,t))
 | .fl,t=>some (.error t)
 | .acc _ _ n,[]=>n.run []
 | .acc f y n,x::r=>bif f x then(y x).run r else n.run (x::r)
 | .out,_=>none
def PT.bd:PT α→(α→PT β)→PT β
 | .rt a,g=>g a
 | .fl,_=>.fl
 | .acc f y n,g=>.acc f (fun x=>(y x).bd g) (n.bd g)
 | .out,_=>.out
theorem PT.run_bd(g:α→PT β):∀(p:PT α) (t:List Tok),(p.bd g).run t=match p.run t with
  |none=>none
  |some (.error r)=>some (.error r)
  |some (.ok (a,r))=>(g a).run r
 | .rt a,t=>by simp[bd,run]
 | .fl,t=>by simp[bd,run]
 | .acc f y n,[]=>by simp only[bd,run];exact run_bd g n []
 | .acc f y n,x::r=>by
  simp only[bd,run];cases f x with
  |true=>simp only[zc];exact run_bd g (y x) r
  |false=>simp only[zd];exact run_bd g n (x::r)
 | .out,t=>by simp[bd,run]
theorem PT.bd_bd{γ:Type}(f:α→PT β)(g:β→PT γ):∀p:PT α,(p.bd f).bd g=p.bd fun a=>(f a).bd g
 | .rt a=>rfl
 | .fl=>rfl
 | .acc c y n=>by simp only[bd,bd_bd f g n,fun x=>bd_bd f g (y x)]
 | .out=>rfl
theorem PT.run_suf:∀(p:PT α) (t:List Tok) {s:Res α},p.run t=some s→match s with
  | .ok (_,r)=>r<:+t
  | .error r=>r<:+t
 | .rt a,t,s,h=>by simp only[run,zo]at h;subst h;exact List.suffix_refl _
 | .fl,t,s,h=>by simp only[run,zo]at h;subst h;exact List.suffix_refl _
 | .acc f y n,[],s,h=>run_suf n [] (by simpa only[run]using h)
 | .acc f y n,x::r,s,h=>by
  simp only[run]at h;cases hf:f x with
  |true=>
   rw[hf,zc]at h
   have:=run_suf (y x) r h
   cases s with
   |error e=>exact this.trans (List.suffix_cons _ _)
   |ok v=>exact this.trans (List.suffix_cons _ _)
  |false=>rw[hf,zd]at h;exact run_suf n (x::r) h
 | .out,t,s,h=>by simp[run]at h
def PT.Ended(s:Res α):Prop:=s= .error []∨∃a,s= .ok (a,[])
theorem PT.run_nil(p:PT α){s:Res α}(h:p.run []=some s):Ended s:=by
 have:=run_suf p [] h
 cases s with
 |error r=>exact .inl (by rw[List.suffix_nil.1 this])
 |ok v=>exact .inr ⟨v.1,by rw[←show v.2=[]from List.suffix_nil.1 this]⟩
theorem PT.run_cut(b:List Tok):∀(p:PT α) (a:List Tok) {s s':Res α},p.run (a++b)=some s→p.run a=some s'→(∃v a',s= .ok (v,a'++b)∧s'= .ok (v,a'))∨(∃a',a'≠[]∧s= .error (a'++b))∨Ended s'
 | .rt v,a,s,s',h,h'=>by
  simp only[run,zo]at h h';exact .inl ⟨v,a,h.symm,h'.symm⟩
 | .fl,a,s,s',h,h'=>by
  simp only[run,zo]at h h';by_cases ha:a=[]
  ·subst ha;exact .inr (.inr (.inl h'.symm))
  ·exact .inr (.inl ⟨a,ha,h.symm⟩)
 | .acc f y n,[],s,s',h,h'=>.inr (.inr (run_nil (.acc f y n) h'))
 | .acc f y n,x::r,s,s',h,h'=>by
  simp only[run,List.cons_append]at h h';cases hf:f x with
  |true=>
   rw[hf,zc]at h h';exact run_cut b (y x) r h h'
  |false=>
   rw[hf,zd]at h h';exact run_cut b n (x::r) h h'
 | .out,a,s,s',h,h'=>by simp[run]at h
def PT.St(N:Nat)(p p':PT α):Prop:=∀t:List Tok,t.length≤N→∃s,p.run t=some s∧p'.run t=some s
def PT.Con:PT α→Prop
 | .rt _=>False
 | .fl=>True
 | .acc _ _ n=>n.Con
 | .out=>True
theorem PT.Con.bd{g:α→PT β}:∀{p:PT α},p.Con→(p.bd g).Con
 | .rt _,h=>h.elim
 | .fl,_=>trivial
 | .acc _ _ n,h=>Con.bd (p:=n) h
 | .out,_=>trivial
theorem PT.Con.lt:∀{p:PT α} (_:p.Con) {t r:List Tok} {a:α},p.run t=some (.ok (a,r))→r.length<t.length
 | .rt _,h,_,_,_,_=>h.elim
 | .fl,_,_,_,_,e=>by simp[run]at e
 | .acc f y n,h,[],r,a,e=>Con.lt (p:=n) h (by simpa only[run]using e)
 | .acc f y n,h,x::t,r,a,e=>by
  simp only[run]at e;cases hf:f x with
  |true=>
   rw[hf,zc]at e
   have:=(run_suf (y x) t e).length_le
   simp only[List.length_cons];omega
  |false=>rw[hf,zd]at e;exact Con.lt (p:=n) h e
 | .out,_,_,_,_,e=>by simp[run]at e
theorem PT.St.rt{N:Nat}(a:α):St N (.rt a) (.rt a):=fun _ _=>⟨_,rfl,rfl⟩
theorem PT.St.fl{N:Nat}:St N (.fl:PT α) .fl:=fun _ _=>⟨_,rfl,rfl⟩
theorem PT.St.mono{N N':Nat}{p p':PT α}(h:St N p p')(hn:N'≤N):St N' p p':=fun t ht=>h t (by omega)
theorem PT.St.acc{N:Nat}{f:Tok→Bool}{y y':Tok→PT α}{n n':PT α}(hy:∀x,f x=true→0<N→St (N-1) (y x) (y' x))(hn:St N n n'):St N (.acc f y n) (.acc f y' n'):=by
 intro t ht;cases t with
 |nil=>exact hn [] ht
 |cons x r=>
  simp only[List.length_cons]at ht;simp only[run];cases hf:f x with
  |true=>simp only[zc];exact hy x hf (by omega) r (by omega)
  |false=>simp only[zd];exact hn (x::r) (by simp only[List.length_cons];omega)
theorem PT.St.bd{N:Nat}{p p':PT α}{g g':α→PT β}(h:St N p p')(hg:∀a,St N (g a) (g' a)):St N (p.bd g) (p'.bd g'):=by
 intro t ht
 obtain⟨s,h1,h2⟩:=h t ht
 rw[run_bd,run_bd,h1,h2];cases s with
 |error r=>exact⟨_,rfl,rfl⟩
 |ok v=>exact hg v.1 v.2 (by have:=(run_suf p t h1).length_le;omega)
theorem PT.St.bdC{N:Nat}{p p':PT α}{g g':α→PT β}(h:St N p p')(hc:p.Con)(hg:∀a,0<N→St (N-1) (g a) (g' a)):St N (p.bd g) (p'.bd g'):=by
 intro t ht
 obtain⟨s,h1,h2⟩:=h t ht
 rw[run_bd,run_bd,h1,h2];cases s with
 |error r=>exact⟨_,rfl,rfl⟩
 |ok v=>have:=hc.lt h1;exact hg v.1 (by omega) v.2 (by omega)
def PT.All(φ:α→Prop):PT α→Prop
 | .rt a=>φ a
 | .fl=>True
 | .acc _ y n=>(∀x,(y x).All φ)∧n.All φ
 | .out=>True
theorem PT.All.bd{φ:β→Prop}{g:α→PT β}(h:∀a,(g a).All φ):∀p:PT α,(p.bd g).All φ
 | .rt a=>h a
 | .fl=>trivial
 | .acc _ y n=>⟨fun x=>All.bd h (y x),All.bd h n⟩
 | .out=>trivial
theorem PT.All.run{φ:α→Prop}:∀{p:PT α} (_:p.All φ) {t r:List Tok} {a:α},p.run t=some (.ok (a,r))→φ a
 | .rt a,h,t,r,b,e=>by simp only[PT.run,zo,Except.ok.injEq,Prod.mk.injEq]at e;rw[←e.1];exact h
 | .fl,_,_,_,_,e=>by simp[PT.run]at e
 | .acc f y n,h,[],r,a,e=>All.run (p:=n) h.2 (by simpa only[PT.run]using e)
 | .acc f y n,h,x::t,r,a,e=>by
  simp only[PT.run]at e;cases hf:f x with
  |true=>rw[hf,zc]at e;exact All.run (h.1 x) e
  |false=>rw[hf,zd]at e;exact All.run (p:=n) h.2 e
 | .out,_,_,_,_,e=>by simp[PT.run]at e
end
end
end Go.Proofs.YtibojibdiibdgaaGreatDoor

namespace Go.Ab
noncomputable section
section
variable{P:Program}{Px:PV→Prop}{T:TT}
theorem detS_idxO(hT:T.Ok P){o:Oper}{ev:Operand→PV}{H:Heap}{t:TypeId}{x i:Operand}(ho:o.op= .indexAddr t x i){ti ei:TInfo}{e:TypeId}(hti:T.get t=some ti)(hd:ti.desc= .slice e)(hei:T.get e=some ei)
  {tag:Nat} {g:OwnRef} {len:Nat} (hx:ev x= .own tag g len) {k:IntKind} {j:Int} (hi:ev i= .val (.int k j)) (hj:0≤j∧j.toNat<len) (hb:∃b,g.blk=some b):DetS P o ev H (.optr tag g ei.size j.toNat 0):=by
 intro C M a w _ he;have hxr:=he x (by rw[ho];simp[Op.operands]);have hir:=he i (by rw[ho];simp[Op.operands]);rw[hx]at hxr;rw[hi]at hir;simp only[Rep]at hxr hir
 obtain⟨b,hb⟩:=hb
 have hu:=(hT.get hti).rund w;rw[hd]at hu;have hsz:=(hT.get hei).rsize w;have h2:j<(len:Int):=by omega
 refine⟨.pointer (some ⟨b,j.toNat*ei.size,none⟩),?_,?_⟩
 ·simp[execOp,ho,Instr.indexAt,hir,hxr.2,OwnRef.val,hb,asIntOf,hu,hj.1,h2,hsz,cZ]
 ·simp only[Rep]
  exact⟨trivial,b,hb,by simp⟩
theorem jJ{k:Nat}:∀{rows:List (List PV)} {j:Nat} {r:List PV},(∀q∈rows,q.length=k)→rows[j]? =some r→∀i p,r[i]? =some p→rows.flatten[j*k+i]? =some p
 |[],j,r,_,h,_,_,_=>by simp at h
 |q::rows,0,r,hl,h,i,p,hp=>by
  simp only[List.getElem?_cons_zero,zo]at h;subst h;simp only[List.flatten_cons,Nat.zero_mul,Nat.zero_add];rw[List.getElem?_append_left (zg.1 hp).1];exact hp
 |q::rows,j+1,r,hl,h,i,p,hp=>by
  have hq:=hl q (by simp)
  have:=jJ (rows:=rows) (j:=j) (fun q hq=>hl q (by simp[hq])) (by simpa using h) i p hp
  simp only[List.flatten_cons];rw[List.getElem?_append_right (by rw[hq,Nat.add_mul];omega),hq,show(j+1)*k+i-k=j*k+i from by rw[Nat.add_mul];omega];exact this
theorem splice_seg{α:Type}(X Y Z cs:List α)(off:Nat)(h:off+cs.length≤Y.length):
  X++(Y.take off++cs++Y.drop (off+cs.length))++Z=(X++(Y++Z)).take (X.length+off)++cs++(X++(Y++Z)).drop (X.length+off+cs.length):=by
 rw[List.take_length_add_append,List.take_append_of_le_length (by omega),show X.length+off+cs.length=X.length+(off+cs.length)from by omega,List.drop_length_add_append,List.drop_append_of_le_length h];simp
theorem splice_take{α:Type}(l cs:List α)(p N:Nat)(h:p+cs.length≤N)(hN:N≤l.length):
  (l.take p++cs++l.drop (p+cs.length)).take N=(l.take N).take p++cs++(l.take N).drop (p+cs.length):=by
 obtain⟨U,hU⟩:∃U,U=l.take N:=⟨_,rfl⟩
 obtain⟨W,hW⟩:∃W,W=l.drop N:=⟨_,rfl⟩
 have hl:l=U++W:=by rw[hU,hW,List.take_append_drop]
 have hUl:U.length=N:=by rw[hU];simp;omega
 rw[←hU,hl,List.take_append_of_le_length (l₁:=U) (i:=p) (by omega),List.drop_append_of_le_length (l₁:=U) (i:=p+cs.length) (by omega)];rw[←List.append_assoc];have e:(U.take p++cs++U.drop (p+cs.length)).length=N:=by simp;omega
 rw[←e,List.take_left]
def setRow(rows:List (List PV))(row off:Nat)(cs:List PV):List (List PV):=rows.set row (splice (rows.getD row []) off cs)
theorem set_flat{k:Nat}:∀{rows:List (List PV)} {j:Nat} {q:List PV},(∀r∈rows,r.length=k)→q.length=k→j<rows.length→(rows.set j q).flatten=rows.flatten.take (j*k)++q++rows.flatten.drop (j*k+k)
 |[],j,q,_,_,h=>by simp at h
 |r::rows,0,q,hl,hq,_=>by
  have hr:=hl r (by simp);simp only[List.set_cons_zero,List.flatten_cons,Nat.zero_mul,List.take_zero,List.nil_append,Nat.zero_add];rw[←hr,List.drop_left]
 |r::rows,j+1,q,hl,hq,h=>by
  have hr:=hl r (by simp);have ih:=set_flat (rows:=rows) (j:=j) (q:=q) (fun r hr=>hl r (by simp[hr])) hq (by simpa using h);simp only[List.set_cons_succ,List.flatten_cons,ih];have e1:(j+1)*k=r.length+j*k:=by rw[Nat.add_mul,hr];omega
  have e2:r.length+j*k+k=r.length+(j*k+k):=by omega
  rw[e1,List.take_length_add_append,e2,List.drop_length_add_append];simp
theorem eff_storeO(hT:T.Ok P){o:Oper}{ev:Operand→PV}{H:Heap}{t:TypeId}{x y:Operand}(ho:o.op= .store t x y){ti:TInfo}(hti:T.get t=some ti){tag:Nat}{g:OwnRef}{k row off:Nat}(hx:ev x= .optr tag g k row off)
  {e:TypeId} {rows:List (List PV)} (hob:H.ob tag=some ⟨g,e,rows,true⟩) {ei:TInfo} (hei:T.get e=some ei) (hk:k=ei.size) (hrow:row<rows.length) {py:PV} (hy:PLe P (ev y) py) {cs:List PV} (hc:bP py=some cs) (hf:PV.frozL cs=true) (h1:cs.all PV.one=true) (hl:cs.length=ti.size) (hle:off+ti.size≤ei.size)
  {K:PV→Heap→Prop} (hK:K .any ⟨H.bx,upd H.ob tag (some ⟨g,e,setRow rows row off cs,true⟩)⟩):Eff P Px o ev H K:=by
 intro C M a w next Q hi he hn
 have hxr:=he x (by rw[ho];simp[Op.operands]);have hyr:=he y (by rw[ho];simp[Op.operands]);rw[hx]at hxr;simp only[Rep]at hxr
 obtain⟨_,b,hb,hv⟩:=hxr
 have hr:=eK hc (hy M _ hyr);have hone:=au.oneCell h1 hr;have hrf:=au.unslot hf hr;have hvs:(a.eval y).cells.size=ti.size:=by have:=hr.length;simp at this;omega
 obtain⟨i,g1,g2,g3,g4⟩:=hi.objs tag _ hob
 obtain⟨i',g5,g6,_,_⟩:=(hT.get hei).info
 simp only at g1 g2 g3 g4;rw[g1]at g5;cases g5;rcases g4 with⟨hn',_⟩|⟨b',cur,hb',hm,hcur,hcs,hlc,hcm,hcr,h1c,hw1,hw2⟩
 ·rw[hb]at hn';cases hn'
 rw[hb]at hb';cases hb';have hks:k=i.size:=by rw[hk,g6]
 subst hks;rw[←g6]at hle
 have hfit:row*i.size+i.size≤rows.length*i.size:=by
  have:=Nat.mul_le_mul_right i.size (show row+1≤rows.length from hrow)
  rw[Nat.add_mul]at this;omega
 have hcap:rows.length*i.size≤cur.size:=by rw[hcs];exact Nat.mul_le_mul_right _ hlc
 have hvl:(a.eval y).cells.toList.length=ti.size:=by simpa using hvs
 have hst:=run_storeCells_at P b (row*i.size+off) e (a.eval y).cells.toList 0 cur w hcur (by rw[hvl];omega) hone;simp only[Nat.add_zero]at hst
 have hrun:(execOp a.eval o).run P w= .ok .skip (w.setRow b (cur.toList.take (row*i.size+off)++(a.eval y).cells.toList++cur.toList.drop (row*i.size+off+(a.eval y).cells.toList.length)).toArray):=by
  simp only[execOp,ho,Instr.storeAt,hv,Instr.sureAddr,Sem.run_bind,Sem.run_pure,Result.andThen_ok,storeVar,(hT.get hti).rsize w,hvs];simp only[ne_eq,not_true_eq_false,if_false];rw[hst];rfl
 unfold Oper.wp;rw[hrun];have hgetD:rows.getD row []=rows[row]:=by simp[hrow]
 have hrl:(rows.getD row []).length=i.size:=by rw[hgetD];exact g3 _ (List.getElem_mem hrow)
 have hspl:(splice (rows.getD row []) off cs).length=i.size:=by
  unfold splice;rw[List.length_append,List.length_append,List.length_take,List.length_drop,hrl,hl];omega
 have hlens:∀r∈setRow rows row off cs,r.length=i.size:=by
  intro r hr';rcases List.mem_or_eq_of_mem_set hr' with h|h
  ·exact g3 r h
  ·rw[h];exact hspl
 have hlen:(setRow rows row off cs).length=rows.length:=by simp[setRow]
 have hflat:rows.flatten.length=rows.length*i.size:=by
  have:∀l:List (List PV),(∀q∈l,q.length=i.size)→l.flatten.length=l.length*i.size:=by
   intro l;induction l with
   |nil=>simp
   |cons q l ih=>intro hl;simp[ih fun q hq=>hl q (by simp[hq]),hl q (by simp),Nat.add_mul];omega
  exact this rows g3
 have hrl2:rows[row].length=i.size:=g3 _ (List.getElem_mem hrow)
 have hrowcells:(rows.flatten.drop (row*i.size)).take i.size=rows.getD row []:=by
  rw[hgetD];apply List.ext_getElem?;intro m;rw[List.getElem?_take];split
  ·rename_i hm';rw[List.getElem?_drop];have hml:m<rows[row].length:=by rw[hrl2];exact hm'
   have hcm':rows[row][m]? =some (rows[row][m]'hml):=ze hml;rw[hcm'];exact jJ g3 (ze hrow) m _ hcm'
  ·rw[List.getElem?_eq_none (by rw[hrl2];omega)]
 have hpv:(setRow rows row off cs).flatten=splice rows.flatten (row*i.size+off) cs:=by
  unfold setRow;rw[set_flat g3 hspl hrow,←hrowcells];have hA:(rows.flatten.take (row*i.size)).length=row*i.size:=by rw[List.length_take,hflat];omega
  have hY:((rows.flatten.drop (row*i.size)).take i.size).length=i.size:=by rw[List.length_take,List.length_drop,hflat];omega
  have hdec:rows.flatten=rows.flatten.take (row*i.size)++((rows.flatten.drop (row*i.size)).take i.size++rows.flatten.drop (row*i.size+i.size)):=by
   rw[←List.drop_drop,List.take_append_drop,List.take_append_drop]
  have key:=splice_seg (rows.flatten.take (row*i.size)) ((rows.flatten.drop (row*i.size)).take i.size) (rows.flatten.drop (row*i.size+i.size)) cs off (by rw[hY,hl];omega);rw[←hdec,hA]at key;exact key
 have hvlist:(cur.toList.take (row*i.size+off)++(a.eval y).cells.toList++cur.toList.drop (row*i.size+off+(a.eval y).cells.toList.length)).take (rows.length*i.size)=
   (cur.toList.take (rows.length*i.size)).take (row*i.size+off)++(a.eval y).cells.toList++(cur.toList.take (rows.length*i.size)).drop (row*i.size+off+(a.eval y).cells.toList.length):=by
  exact splice_take cur.toList (a.eval y).cells.toList (row*i.size+off) (rows.length*i.size) (by rw[hvl];omega) (by simpa using hcap)
 refine hn undef _ _ M _ hK (Mem.le_refl M) (hi.set_obj tag _ hob b hb (setRow rows row off cs) true _ i g1 ?_ hlens ?_ ?_ hcm ?_ ?_ ?_ (fun _=>hw1 trivial) ?_) (by simp[Rep])
 ·rw[hlen];exact g2
 ·simp only[List.size_toArray,List.length_append,List.length_take,List.length_drop,Array.length_toList,hvl];omega
 ·rw[hlen];exact hlc
 ·rw[hlen,hpv];simp only;rw[hvlist];exact jr hcr hrf (row*i.size+off)
 ·rw[hlen];simp only;rw[hvlist];intro v hv';simp only[List.mem_append]at hv';rcases hv' with(h|h)|h
  ·exact h1c v (List.mem_of_mem_take h)
  ·exact hone v h
  ·exact h1c v (List.mem_of_mem_drop h)
 ·intro o' v' hm';rw[hw1 trivial o']at hm';cases hm'
 ·intro o' _;exact hw1 trivial o'
end
section
variable{P:Program}{Px:PV→Prop}{ops:Array Oper}{rest:List Oper}{o:Oper}{n:Nat}{s s':Nat→PV}{bx:Nat→Option Box}{ob:Nat→Option Obj}{K:PState→Prop}{T:TT}{rb:RB}{k:Nat}{L:List Nat}
theorem kZ(hg:aL ops s o=some true){r:PV}(hd:DetS P o (evS s) ⟨bx,ob⟩ r)(hp:putD n s o.dst r=some s')(h:Ao P Px ops rest ⟨n,s',bx,ob⟩ K):Ao P Px ops (o::rest) ⟨n,s,bx,ob⟩ K:=
 em hg (fun C M a w next Q hi he hn=>by
  obtain⟨v,hrun,hr⟩:=hd C M a w hi he
  unfold Oper.wp;rw[hrun];exact hn v r ⟨bx,ob⟩ M w ⟨s',hp,h⟩ (Mem.le_refl M) hi hr)
theorem lj(ho:ops[k]? =some o)(hg:aL ops s o=some true)(hc:bH o.op= .det){r:PV}(hd:∀bx',DetS P o (evS s) ⟨bx',if rb.o o&&cP o.op then hC ob else fun _=>none⟩ r)(hp:putD n s o.dst r=some s')
  (h:Do P Px T rb ops L ⟨n,s',bx,ob⟩ K):Do P Px T rb ops (k::L) ⟨n,s,bx,ob⟩ K:=by
 refine⟨o,ho,true,hg,?_⟩
 simp only[if_true,hc]
 exact⟨r,s',.inr fun bx' _=>hd bx',hp,h⟩
theorem kV(hT:T.Ok P)(ho:ops[k]? =some o)(hg:aL ops s o=some true){t:TypeId}{x i:Operand}(hop:o.op= .indexAddr t x i){ti ei:TInfo}{e:TypeId}(hti:T.get t=some ti)(hd:ti.desc= .slice e)(hei:T.get e=some ei)
  {tag:Nat} {g:OwnRef} {len:Nat} (hx:evS s x= .own tag g len) {kk:IntKind} {j:Int} (hi:evS s i= .val (.int kk j)) (hj:0≤j∧j.toNat<len) (hb:∃b,g.blk=some b) (hp:putD n s o.dst (.optr tag g ei.size j.toNat 0)=some s') (h:Do P Px T rb ops L ⟨n,s',bx,ob⟩ K):
  Do P Px T rb ops (k::L) ⟨n,s,bx,ob⟩ K:=lj ho hg (by rw[hop];rfl) (fun _=>detS_idxO hT hop hti hd hei hx hi hj hb) hp h
theorem jU(hT:T.Ok P)(ho:ops[k]? =some o)(hg:aL ops s o=some true){t:TypeId}{x y:Operand}(hop:o.op= .store t x y)(hdst:o.dst=none){ti:TInfo}(hti:T.get t=some ti){tag:Nat}{g:OwnRef}{kz row off:Nat}(hx:evS s x= .optr tag g kz row off)
  {e:TypeId} {rows rows':List (List PV)} (hob:ob tag=some ⟨g,e,rows,true⟩) {ei:TInfo} (hei:T.get e=some ei) (hk:kz=ei.size) (hrow:row<rows.length) {py:PV} (hy:PLe P (evS s y) py) {cs:List PV} (hc:bP py=some cs) (hf:PV.frozL cs=true) (h1:cs.all PV.one=true) (hl:cs.length=ti.size) (hle:off+ti.size≤ei.size)
  (hr:setRow rows row off cs=rows') (h:Do P Px T rb ops L ⟨n,s,bx,upd ob tag (some ⟨g,e,rows',true⟩)⟩ K) (he1:rb.e1 o=true:=by rfl):Do P Px T rb ops (k::L) ⟨n,s,bx,ob⟩ K:=by
 subst hr
 refine⟨o,ho,true,hg,?_⟩
 simp only[if_true,hop,bH]
 exact⟨hdst,.inr ⟨he1,fun bx'=>eff_storeO hT hop hti hx hob hei hk hrow hy hc hf h1 hl hle ⟨rfl,h⟩⟩⟩
theorem idxLen{α β:Type}{f:α→β}{xs:List α}{j:Nat}{x:α}(h:xs[j]? =some x):j<(xs.map f).length:=by
 have:=(zg.1 h).1
 simpa using this
theorem idxBlk{α:Type}{f:α→List PV}{xs:List α}{j:Nat}{x:α}{g:OwnRef}(ho:xs.map f≠[]→∃b,g.blk=some b)(h:xs[j]? =some x):∃b,g.blk=some b:=by
 refine ho fun e=>?_
 have:=(zg.1 h).1
 rw[List.map_eq_nil_iff]at e;rw[e]at this;simp at this
theorem jA{α:Type}{f f':α→List PV}(hE:∀x,f' x=f x){xs ys:List α}{j off:Nat}{x v:α}{cs:List PV}(h:xs[j]? =some x)(hs:splice (f x) off cs=f v)(hy:xs.set j v=ys):setRow (xs.map f') j off cs=ys.map f':=by
 subst hy;have hlt:=(zg.1 h).1;unfold setRow;have e:(xs.map f').getD j []=f x:=by simp[h,hE]
 rw[e,hs,←hE v,List.map_set]
theorem set_len{α β:Type}{f:α→β}{xs ys:List α}{j:Nat}{v:α}(hy:xs.set j v=ys):(xs.map f).length=(ys.map f).length:=by subst hy;simp
theorem fJ{fn:Func}{R:PV→Heap→Prop}{ks:List KI}{tag:Nat}{g:OwnRef}{e:TypeId}{rows:List (List PV)}{wr:Bool}(hob:ob tag=some ⟨g,e,rows,wr⟩)(h:(rows≠[]→∃b,g.blk=some b)→V P Px fn R ks ⟨n,s,bx,ob⟩):V P Px fn R ks ⟨n,s,bx,ob⟩:=fun C M a w hi=>by
 refine h (fun hne=>?_) C M a w hi
 obtain⟨_,_,_,_,h4⟩:=hi.2.objs tag _ hob
 rcases h4 with⟨_,h5,_⟩|⟨b,_,h5,_⟩
 ·exact absurd h5 hne
 ·exact⟨b,h5⟩
end
def dP(bx:Nat→Option Box)(m:List (Nat×Nat)):Nat→Option Box:=fun t=>match m.find? (fun p=>Nat.beq p.2 t)with
 |some p=>bx p.1
 |none=>none
def eh(ob:Nat→Option Obj)(m:List (Nat×Nat)):Nat→Option Obj:=fun t=>match m.find? (fun p=>Nat.beq p.2 t)with
 |some p=>ob p.1
 |none=>none
theorem beqC(a b:Nat):Nat.beq a b=Nat.beq b a:=by
 cases h:Nat.beq a b with
 |true=>rw[Nat.eq_of_beq_eq_true h];exact(Nat.beq_refl b).symm
 |false=>
  cases h':Nat.beq b a with
  |true=>rw[Nat.eq_of_beq_eq_true h']at h;rw[show Nat.beq a a=true from Nat.beq_refl a]at h;cases h
  |false=>rfl
theorem aR(bx:Nat→Option Box):dP bx []=fun _=>none:=rfl
theorem aS(ob:Nat→Option Obj):eh ob []=fun _=>none:=rfl
theorem aN(bx:Nat→Option Box)(c k:Nat)(m:List (Nat×Nat)):dP bx ((c,k)::m)=upd (dP bx m) k (bx c):=by
 funext t;simp only[dP,upd,List.find?_cons];rw[beqC t k];cases Nat.beq k t<;>rfl
theorem jG(ob:Nat→Option Obj)(c k:Nat)(m:List (Nat×Nat)):eh ob ((c,k)::m)=upd (eh ob m) k (ob c):=by
 funext t;simp only[eh,upd,List.find?_cons];rw[beqC t k];cases Nat.beq k t<;>rfl
def eg(bx:Nat→Option Box)(m:List (Nat×Nat))(bx':Nat→Option Box):Nat→Option Box:=fun t=>match m.find? (fun p=>Nat.beq p.1 t)with
 |some p=>bx' p.2
 |none=>bx t
def fv(ob:Nat→Option Obj)(m:List (Nat×Nat))(ob':Nat→Option Obj):Nat→Option Obj:=fun t=>match m.find? (fun p=>Nat.beq p.1 t)with
 |some p=>ob' p.2
 |none=>ob t
def aQ:List Nat→Bool
 |[]=>true
 |a::l=>l.all (fun b=>!Nat.beq a b)&&aQ l
theorem dK{f:Nat×Nat→Nat}:∀{m:List (Nat×Nat)} {p:Nat×Nat},aQ (m.map f)=true→p∈m→m.find? (fun q=>Nat.beq (f q) (f p))=some p
 |[],_,_,h=>by simp at h
 |q::m,p,hd,h=>by
  simp only[List.map_cons,aQ,Bool.and_eq_true]at hd;rw[List.find?_cons];rcases List.mem_cons.1 h with rfl|h
  ·rw[show Nat.beq (f p) (f p)=true from Nat.beq_refl _]
  ·have hne:Nat.beq (f q) (f p)=false:=by
    have:=(List.all_eq_true.1 hd.1) (f p) (List.mem_map.2 ⟨p,h,rfl⟩)
    simpa using this
   rw[hne];exact dK hd.2 h
theorem jy{f:Nat×Nat→Nat}{m:List (Nat×Nat)}{t:Nat}{p:Nat×Nat}(h:m.find? (fun q=>Nat.beq (f q) t)=some p):p∈m∧f p=t:=
 ⟨List.mem_of_find?_eq_some h,by
  have:=List.find?_some h
  exact Nat.eq_of_beq_eq_true this⟩
def dv(H:Heap)(mb mo:List (Nat×Nat)):List Nat:=mb.filterMap (fun p=>(H.bx p.1).map Box.b)++mo.filterMap (fun p=>(H.ob p.1).bind fun x=>x.g.blk)
theorem iI{H:Heap}{mb mo:List (Nat×Nat)}{b:Nat}(h:b∈dv H mb mo):(∃p x,p∈mb∧H.bx p.1=some x∧x.b=b)∨∃p x,p∈mo∧H.ob p.1=some x∧x.g.blk=some b:=by
 simp only[dv,List.mem_append,List.mem_filterMap]at h;rcases h with⟨p,hp,h⟩|⟨p,hp,h⟩
 ·rw[Option.map_eq_some_iff]at h
  obtain⟨x,hx,rfl⟩:=h
  exact .inl ⟨p,x,hp,hx,rfl⟩
 ·rw[Option.bind_eq_some_iff]at h
  obtain⟨x,hx,h⟩:=h
  exact .inr ⟨p,x,hp,hx,h⟩
theorem ownOf_box{H:Heap}{mb mo:List (Nat×Nat)}{p:Nat×Nat}{x:Box}(hp:p∈mb)(hx:H.bx p.1=some x):x.b∈dv H mb mo:=by
 simp only[dv,List.mem_append,List.mem_filterMap];exact .inl ⟨p,hp,by rw[hx];rfl⟩
theorem ownOf_obj{H:Heap}{mb mo:List (Nat×Nat)}{p:Nat×Nat}{x:Obj}{b:Nat}(hp:p∈mo)(hx:H.ob p.1=some x)(hb:x.g.blk=some b):b∈dv H mb mo:=by
 simp only[dv,List.mem_append,List.mem_filterMap];exact .inr ⟨p,hp,by rw[hx];exact hb⟩
section
variable{P:Program}{Px:PV→Prop}{C:Ctx}{M:Mem}{H:Heap}{w:World}{mb mo:List (Nat×Nat)}
theorem gY{bx:Nat→Option Box}{m:List (Nat×Nat)}{t:Nat}{x:Box}(h:dP bx m t=some x):∃p,p∈m∧p.2=t∧bx p.1=some x:=by
 unfold dP at h;split at h
 ·rename_i p hp
  obtain⟨h1,h2⟩:=jy (f:=Prod.snd) hp
  exact⟨p,h1,h2,h⟩
 ·cases h
theorem gU{ob:Nat→Option Obj}{m:List (Nat×Nat)}{t:Nat}{x:Obj}(h:eh ob m t=some x):∃p,p∈m∧p.2=t∧ob p.1=some x:=by
 unfold eh at h;split at h
 ·rename_i p hp
  obtain⟨h1,h2⟩:=jy (f:=Prod.snd) hp
  exact⟨p,h1,h2,h⟩
 ·cases h
theorem fst_inj{m:List (Nat×Nat)}(hd:aQ (m.map Prod.fst)=true){p q:Nat×Nat}(hp:p∈m)(hq:q∈m)(h:p.1=q.1):p=q:=by
 have h1:=dK (f:=Prod.fst) hd hp;have h2:=dK (f:=Prod.fst) hd hq;rw[h]at h1;rw[h1]at h2;exact Option.some.inj h2
theorem InvH.ownMine(h:InvH P C M H w):∀b∈dv H mb mo,C.mine b:=by
 intro b hb;rcases iI hb with⟨p,x,_,hx,rfl⟩|⟨p,x,_,hx,hb⟩
 ·exact(h.boxes _ _ hx).1
 ·obtain⟨_,_,_,_,h4⟩:=h.objs _ _ hx
  rcases h4 with⟨h5,_⟩|⟨b',_,h5,h6,_⟩
  ·rw[h5]at hb;cases hb
  ·rw[h5]at hb;cases hb;exact h6
theorem InvH.enterH(h:InvH P C M H w)(hb1:aQ (mb.map Prod.fst)=true)(ho1:aQ (mo.map Prod.fst)=true):InvH P ⟨w,dv H mb mo,M,h.gl h.ownMine,[]⟩ M ⟨dP H.bx mb,eh H.ob mo⟩ w:=by
 refine⟨h.mem,Mem.le_refl M,fun _ _ _ hm=>.inl hm,rfl,rfl,rfl,Nat.le_refl _,fun _ _ _=>rfl,?_,?_,?_,?_,?_⟩
 ·intro t x hx
  obtain⟨p,hp,_,hx⟩:=gY hx
  obtain⟨_,h2,h3⟩:=h.boxes _ _ hx
  exact⟨.inr (ownOf_box hp hx),h2,h3⟩
 ·intro t x hx
  obtain⟨p,hp,_,hx⟩:=gU hx
  obtain⟨i,h1,h2,h3,h4⟩:=h.objs _ _ hx
  refine⟨i,h1,h2,h3,?_⟩
  rcases h4 with h4|⟨b,cur,hb,_,h5⟩
  ·exact .inl h4
  ·exact .inr ⟨b,cur,hb,.inr (ownOf_obj hp hx hb),h5⟩
 ·intro t t' x x' hx hx' hb
  obtain⟨p,hp,e1,hy⟩:=gY hx
  obtain⟨q,hq,e2,hy'⟩:=gY hx'
  rw[←e1,←e2,fst_inj hb1 hp hq (h.dbox _ _ x x' hy hy' hb)]
 ·intro t t' x x' b hx hx' hb hb'
  obtain⟨p,hp,e1,hy⟩:=gU hx
  obtain⟨q,hq,e2,hy'⟩:=gU hx'
  rw[←e1,←e2,fst_inj ho1 hp hq (h.dobj _ _ x x' b hy hy' hb hb')]
 ·intro t t' x x' hx hx' hb
  obtain⟨p,hp,_,hy⟩:=gY hx
  obtain⟨q,hq,_,hy'⟩:=gU hx'
  exact h.dmix _ _ x x' hy hy' hb
theorem InvH.afterH{M':Mem}{H':Heap}{w':World}(h:InvH P C M H w)(_hb1:aQ (mb.map Prod.fst)=true)(hb2:aQ (mb.map Prod.snd)=true)(_ho1:aQ (mo.map Prod.fst)=true)(ho2:aQ (mo.map Prod.snd)=true)
  {hg:Gl w (dv H mb mo)} (h':InvH P ⟨w,dv H mb mo,M,hg,[]⟩ M' H' w'):InvH P C M' ⟨eg H.bx mb H'.bx,fv H.ob mo H'.ob⟩ w':=by
 have hown:∀b,b∈dv H mb mo→C.mine b:=by
  intro b hb;rcases iI hb with⟨p,x,_,hx,rfl⟩|⟨p,x,_,hx,hb⟩
  ·exact(h.boxes _ _ hx).1
  ·obtain⟨_,_,_,_,h4⟩:=h.objs _ _ hx
   rcases h4 with⟨h5,_⟩|⟨b',_,h5,h6,_⟩
   ·rw[h5]at hb;cases hb
   ·rw[h5]at hb;cases hb;exact h6
 have hup:∀b,(⟨w,dv H mb mo,M,hg,[]⟩:Ctx).mine b→C.mine b:=fun b hb=>by
  rcases hb with hb|hb
  ·exact .inl (Nat.le_trans h.size hb)
  ·exact hown b hb
 have hnone:∀b o,b<w.heap.size→b∉dv H mb mo→M b o=none→M' b o=none:=by
  intro b o hb hno hn;cases hm:M' b o with
  |none=>rfl
  |some v=>
   rcases h'.new b o v hm with h1|h1|h1
   ·rw[show M b o=some v from h1]at hn;cases hn
   ·exact absurd hb (Nat.not_lt.2 h1)
   ·exact absurd h1 hno
 have kb:∀t x,eg H.bx mb H'.bx t=some x→(∃p,p∈mb∧p.1=t∧H'.bx p.2=some x)∨((∀p∈mb,p.1≠t)∧H.bx t=some x):=by
  intro t x hx;unfold eg at hx;split at hx
  ·rename_i p hp
   obtain⟨h1,h2⟩:=jy (f:=Prod.fst) hp
   exact .inl ⟨p,h1,h2,hx⟩
  ·rename_i hp;rw[List.find?_eq_none]at hp;exact .inr ⟨fun p hp' e=>hp p hp' (by rw[e];exact Nat.beq_refl _),hx⟩
 have ko:∀t x,fv H.ob mo H'.ob t=some x→(∃p,p∈mo∧p.1=t∧H'.ob p.2=some x)∨((∀p∈mo,p.1≠t)∧H.ob t=some x):=by
  intro t x hx;unfold fv at hx;split at hx
  ·rename_i p hp
   obtain⟨h1,h2⟩:=jy (f:=Prod.fst) hp
   exact .inl ⟨p,h1,h2,hx⟩
  ·rename_i hp;rw[List.find?_eq_none]at hp;exact .inr ⟨fun p hp' e=>hp p hp' (by rw[e];exact Nat.beq_refl _),hx⟩
 -- what was kept is not among what was handed over
 have nb:∀t x,(∀p∈mb,p.1≠t)→H.bx t=some x→x.b∉dv H mb mo:=by
  intro t x hn hx hm;rcases iI hm with⟨p,y,hp,hy,e⟩|⟨p,y,hp,hy,e⟩
  ·exact hn p hp (h.dbox _ _ y x hy hx e)
  ·exact h.dmix _ _ x y hx hy e
 have no:∀t x b,(∀p∈mo,p.1≠t)→H.ob t=some x→x.g.blk=some b→b∉dv H mb mo:=by
  intro t x b hn hx hb hm;rcases iI hm with⟨p,y,hp,hy,e⟩|⟨p,y,hp,hy,e⟩
  ·exact h.dmix _ _ y x hy hx (by rw[hb,e])
  ·exact hn p hp (h.dobj _ _ y x b hy hx e hb)
 have mb':∀t x,H'.bx t=some x→w.heap.size≤x.b∨x.b∈dv H mb mo:=fun t x hx=>(h'.boxes t x hx).1
 have mo':∀t x b,H'.ob t=some x→x.g.blk=some b→w.heap.size≤b∨b∈dv H mb mo:=by
  intro t x b hx hb
  obtain⟨_,_,_,_,h4⟩:=h'.objs t x hx
  rcases h4 with⟨h5,_⟩|⟨b',_,h5,h6,_⟩
  ·rw[h5]at hb;cases hb
  ·rw[h5]at hb;cases hb;exact h6
 have bz:∀t x b,H.ob t=some x→x.g.blk=some b→b<w.heap.size:=fun t x b hx hb=>h.obj_lt hx hb
 have snd_eq:∀{m:List (Nat×Nat)},aQ (m.map Prod.snd)=true→∀{p q:Nat×Nat},p∈m→q∈m→p.2=q.2→p=q:=by
  intro m hd p q hp hq e;have h1:=dK (f:=Prod.snd) hd hp;have h2:=dK (f:=Prod.snd) hd hq;rw[e]at h1;rw[h1]at h2;exact Option.some.inj h2
 refine⟨h'.mem,Mem.le_trans h.ext h'.ext,?_,h'.os.trans h.os,h'.tape.trans h.tape,h'.output.trans h.output,Nat.le_trans h.size h'.size,?_,?_,?_,?_,?_,?_⟩
 ·intro b o v hm;rcases h'.new b o v hm with h1|h1
  ·exact h.new b o v h1
  ·exact .inr (hup b h1)
 ·intro b hb hn
  have hno:b∉dv H mb mo:=fun hm=>by
   rcases hown b hm with h1|h1
   ·omega
   ·exact hn h1
  exact(h'.frame b (Nat.lt_of_lt_of_le hb h.size) hno).trans (h.frame b hb hn)
 ·intro t x hx;rcases kb t x hx with⟨p,hp,_,hx⟩|⟨hn,hx⟩
  ·obtain⟨h1,h2,h3⟩:=h'.boxes _ _ hx
   exact⟨hup _ h1,h2,h3⟩
  ·have hno:=nb t x hn hx
   exact(h.boxes t x hx).keep h'.ext (fun o ho=>hnone _ o (h.box_lt hx) hno ho) (h'.frame _ (h.box_lt hx) hno)
 ·intro t x hx;rcases ko t x hx with⟨p,hp,_,hx⟩|⟨hn,hx⟩
  ·obtain⟨i,h1,h2,h3,h4⟩:=h'.objs _ _ hx
   refine⟨i,h1,h2,h3,?_⟩
   rcases h4 with h4|⟨b,cur,h5,h6,h7⟩
   ·exact .inl h4
   ·exact .inr ⟨b,cur,h5,hup _ h6,h7⟩
  ·exact(h.objs t x hx).keep h'.ext (fun b o hb ho=>hnone _ o (h.obj_lt hx hb) (no t x b hn hx hb) ho) (fun b hb=>h'.frame _ (h.obj_lt hx hb) (no t x b hn hx hb))
 ·intro t t' x x' hx hx' hb;rcases kb t x hx with⟨p,hp,e,hx⟩|⟨hn,hx⟩<;>rcases kb t' x' hx' with⟨q,hq,e',hx'⟩|⟨hn',hx'⟩
  ·have:=snd_eq hb2 hp hq (h'.dbox _ _ x x' hx hx' hb)
   rw[←e,←e',this]
  ·rcases mb' _ _ hx with h1|h1
   ·have:=h.box_lt hx';omega
   ·exact absurd (hb▸h1) (nb t' x' hn' hx')
  ·rcases mb' _ _ hx' with h1|h1
   ·have:=h.box_lt hx;omega
   ·exact absurd (hb▸h1) (nb t x hn hx)
  ·exact h.dbox t t' x x' hx hx' hb
 ·intro t t' x x' b hx hx' hb hb';rcases ko t x hx with⟨p,hp,e,hx⟩|⟨hn,hx⟩<;>rcases ko t' x' hx' with⟨q,hq,e',hx'⟩|⟨hn',hx'⟩
  ·have:=snd_eq ho2 hp hq (h'.dobj _ _ x x' b hx hx' hb hb')
   rw[←e,←e',this]
  ·rcases mo' _ _ b hx hb with h1|h1
   ·have:=h.obj_lt hx' hb';omega
   ·exact absurd h1 (no t' x' b hn' hx' hb')
  ·rcases mo' _ _ b hx' hb' with h1|h1
   ·have:=h.obj_lt hx hb;omega
   ·exact absurd h1 (no t x b hn hx hb)
  ·exact h.dobj t t' x x' b hx hx' hb hb'
 ·intro t t' x x' hx hx' hb;rcases kb t x hx with⟨p,hp,e,hx⟩|⟨hn,hx⟩<;>rcases ko t' x' hx' with⟨q,hq,e',hx'⟩|⟨hn',hx'⟩
  ·exact h'.dmix _ _ x x' hx hx' hb
  ·rcases mb' _ _ hx with h1|h1
   ·have:=h.obj_lt hx' hb;omega
   ·exact no t' x' _ hn' hx' hb h1
  ·rcases mo' _ _ _ hx' hb with h1|h1
   ·have:=h.box_lt hx;omega
   ·exact nb t x hn hx h1
  ·exact h.dmix t t' x x' hx hx' hb
theorem eff_callH{o:Oper}{ev:Operand→PV}{H:Heap}{fx:Operand}{av0:Array Operand}{ts:Array TypeId}(ho:o.op= .call {callee:= .value fx,args:=av0,argTypes:=ts}){g:FuncId}{caps:List PV}
  (hf:ev fx= .fn g caps) (hcall:∀vs w,(callFunc g vs).run P w= .ok (.enter g vs) w) (mb mo:List (Nat×Nat)) (hb1:aQ (mb.map Prod.fst)=true) (hb2:aQ (mb.map Prod.snd)=true) (ho1:aQ (mo.map Prod.fst)=true) (ho2:aQ (mo.map Prod.snd)=true)
  {args:List PV} (hle:cX P (av0.toList.map ev++caps) args) {R:PV→Heap→Prop} (hc:PH P g args ⟨dP H.bx mb,eh H.ob mo⟩ R)
  {K:PV→Heap→Prop} (hk:∀u H',R u H'→K u ⟨eg H.bx mb H'.bx,fv H.ob mo H'.ob⟩):Eff P Px o ev H K:=by
 intro C M a w next Q hi he hn
 have hfr:=he fx (by rw[ho];simp[Op.operands,Call.operands]);rw[hf]at hfr;simp only[Rep]at hfr
 obtain⟨cs,hv,hcaps⟩:=hfr
 have hargs:au P M true (av0.toList.map ev) (av0.map a.eval).toList:=by
  simpa using fK av0.toList fun x hx=>he x (by rw[ho];simp_all[Op.operands,Call.operands])
 have hrep:=hle M _ (hargs.append hcaps)
 have hrun:(execOp a.eval o).run P w= .ok (.enter g (av0.map a.eval++cs)) w:=by
  simp[execOp,ho,resolve,hv,Deferred.ofValue,invoke,hcall]
 unfold Oper.wp;rw[hrun];simp only[Oper.upon]
 refine(hc w M (dv H mb mo) (hi.gl hi.ownMine) _ (hi.enterH hb1 ho1) (by simpa using hrep)).mono ?_
 rintro e w' ⟨v,u,H',M',rfl,hR,hi',hr⟩;exact hn v u _ M' w' (hk u H' hR) hi'.ext (hi.afterH hb1 hb2 ho1 ho2 hi') hr
end
section
variable{P:Program}{Px:PV→Prop}{ops:Array Oper}{rest:List Oper}{o:Oper}{n:Nat}{s s':Nat→PV}{bx bx1:Nat→Option Box}{ob ob1:Nat→Option Obj}{K:PState→Prop}{T:TT}{rb:RB}{k:Nat}{L:List Nat}
theorem bf(hg:aL ops s o=some true){fx:Operand}{av0:Array Operand}{ts:Array TypeId}(ho:o.op= .call {callee:= .value fx,args:=av0,argTypes:=ts}){g:FuncId}{caps:List PV}
  (hf:evS s fx= .fn g caps) (hcall:∀vs w,(callFunc g vs).run P w= .ok (.enter g vs) w) (mb mo:List (Nat×Nat)) (hb1:aQ (mb.map Prod.fst)=true) (hb2:aQ (mb.map Prod.snd)=true) (ho1:aQ (mo.map Prod.fst)=true) (ho2:aQ (mo.map Prod.snd)=true)
  {args:List PV} (hle:cX P (av0.toList.map (evS s)++caps) args) {Hin:Heap} (hin:Hin=⟨dP bx mb,eh ob mo⟩) {R:PV→Heap→Prop} (hc:PH P g args Hin R)
  (h:∀u H',R u H'→∃s',putD n s o.dst u=some s'∧Ao P Px ops rest ⟨n,s',eg bx mb H'.bx,fv ob mo H'.ob⟩ K):Ao P Px ops (o::rest) ⟨n,s,bx,ob⟩ K:=
 em hg (eff_callH ho hf hcall mb mo hb1 hb2 ho1 ho2 hle (hin▸hc) h)
theorem gN.own{t t':Nat}{g:OwnRef}{l l':Nat}(h:l=l'):gN P (.own t g l) (.own t' g l'):=by
 subst h;intro M s x hx;simpa only[Rep]using hx
theorem gN.boxT{t t' b o:Nat}:gN P (.box t b o) (.box t' b o):=by
 intro M s x hx;simpa only[Rep]using hx
theorem ii{fn:Func}{R:PV→Heap→Prop}{ks:List KI}{T:TT}(hT:T.Ok P){rs:Array ResultVar}(hres:fn.results=rs){ps:List PV}(h:fN T ⟨n,s,bx,ob⟩ rs.toList ps){u:PV}(hu:PLe P (hO ps) u)(hR:R u ⟨bx,ob⟩):
  V P Px fn R (.code .ret::ks) ⟨n,s,bx,ob⟩:=bS hT hres h hu ⟨fun _ _ hx=>hx,fun _ _ hx=>hx⟩ hR
theorem dG{fn:Func}{R:PV→Heap→Prop}(hres:fn.results=#[]){u:PV}(hu:PLe P (.tup []) u)(hR:R u ⟨bx,ob⟩):V P Px fn R [] ⟨n,s,bx,ob⟩:=by
 intro C M a w hi;refine retP.ofN hi fun C w hi=>?_
 have hr:(results fn a.tmps).run P w= .ok (.tuple #[]) w:=by
  rw[jI hres];simp
 exact⟨.tuple #[],hr,.tuple #[],u,⟨bx,ob⟩,M,rfl,hR,hi.2,hu M _ (by simp[Rep,au])⟩
end
end
end Go.Ab

namespace Go.Ab
noncomputable section
open Classical in
def limN{β:Type}(F:Nat→Option β):Option β:=
 if h:∃r,∃n,∀m,n≤m→F m=some r then some h.choose else none
theorem limN_some{β:Type}{F:Nat→Option β}{r:β}(h:limN F=some r):∃n,F n=some r:=by
 unfold limN at h;split at h
 ·next hx=>
  obtain⟨n,hn⟩:=hx.choose_spec
  exact⟨n,by rw[hn n (Nat.le_refl n)];exact h⟩
 ·cases h
theorem limN_eq{β:Type}{F:Nat→Option β}{r:β}(n:Nat)(h:∀m,n≤m→F m=some r):limN F=some r:=by
 have hx:∃r,∃n,∀m,n≤m→F m=some r:=⟨r,n,h⟩;unfold limN;rw[dif_pos hx]
 obtain⟨k,hk⟩:=hx.choose_spec
 have e1:=hk (max n k) (Nat.le_max_right n k);have e2:=h (max n k) (Nat.le_max_left n k);rw[←e1,e2]
end
end Go.Ab

namespace Go.Ab
noncomputable section
section
variable{P:Program}{Px:PV→Prop}{C:Ctx}{M:Mem}{H:Heap}{w:World}
theorem freeze_new(w:World)(cs:Array Value)(e:TypeId)(n:Nat):(w.alloc (.cells cs e)).freeze ⟨w.heap.size,n,none⟩ 1=w.alloc (.cells cs e (n,n+1)):=by
 unfold World.freeze World.alloc;simp only[Nat.one_ne_zero,if_false];congr 1;apply Array.ext
 ·simp
 ·intro i h1 h2;rw[Array.getElem_modify];split
  ·rename_i hi;subst hi;simp
  ·rename_i hi
   have:i<w.heap.size:=by simp at h2;omega
   simp[Array.getElem_push,this]
end
section
variable{P:Program}{Px:PV→Prop}{ops:Array Oper}{rest:List Oper}{o:Oper}{n:Nat}{s s':Nat→PV}{bx:Nat→Option Box}{ob:Nat→Option Obj}{K:PState→Prop}{T:TT}{rb:RB}{k:Nat}{L:List Nat}
end
end
end Go.Ab

namespace Go.Ab
noncomputable section
open Go.RowKit (Below)
abbrev pErr(b:Bool):PV:= .err b
section
variable{P:Program}{Px:PV→Prop}{T:TT}{rb:RB}{ops:Array Oper}{rest:List Oper}{L:List Nat}{k:Nat}{o:Oper}{n:Nat}{s s':Nat→PV}{bx:Nat→Option Box}{ob:Nat→Option Obj}{K:PState→Prop}
theorem rep_pErr{M:Mem}{q:Bool}{b:Bool}{x:Value}(h:Rep P M q (pErr b) x):(b=false∧x= .nilIface)∨(b=true∧∃t p,x= .iface t p):=by
 simpa only[pErr,Rep]using h
theorem fA(w:World)(d:Nat){t:TypeId}{ms:Array (String×TypeId)}(hu:P.underlying t=some (.interface ms))(b:Bool){v:Value}(hv:(b=false∧v= .nilIface)∨(b=true∧∃t p,v= .iface t p)):(Op.equalIn (d+1) t v .nilIface).run P w= .ok (!b) w:=by
 rcases hv with⟨rfl,rfl⟩|⟨rfl,t1,p1,rfl⟩<;>simp[Op.equalIn,run_underlying hu]
theorem run_eqlNil(w:World){t:TypeId}{ms:Array (String×TypeId)}(hu:P.underlying t=some (.interface ms))(b:Bool){v:Value}(hv:(b=false∧v= .nilIface)∨(b=true∧∃t p,v= .iface t p)):(binOp .eql t v .nilIface).run P w= .ok (.bool (!b)) w:=by
 have h:=fA w 9999 hu b hv;rcases hv with⟨rfl,rfl⟩|⟨rfl,t1,p1,rfl⟩
 ·simp only[binOp,Op.equal,Op.maxDepth];rw[Sem.run_bind,h];rfl
 ·simp only[binOp,Op.equal,Op.maxDepth];rw[Sem.run_bind,h];rfl
theorem detS_errN{t t':TypeId}{x:Operand}(ho:o.op= .binOp .eql t x (.const .nilIface) t'){ms:Array (String×TypeId)}(hu:P.underlying t=some (.interface ms)){ev:Operand→PV}{H:Heap}{b:Bool}(hx:ev x=pErr b):DetS P o ev H (.val (.bool (!b))):=by
 intro C M a w _ he;have hxr:=he x (by rw[ho];simp[Op.operands]);rw[hx]at hxr;have hv:=rep_pErr hxr
 refine⟨.bool (!b),?_,by simp only[Rep]⟩
 have hn:a.eval (.const .nilIface)= .nilIface:=rfl
 have hq:(eqGuard .eql t x (.const .nilIface) (a.eval x) .nilIface).run P w= .ok () w:=by
  rcases hv with⟨_,hv⟩|⟨_,t1,p1,hv⟩<;>rw[hv]<;>simp[eqGuard]
 simp only[execOp,ho,hn,Sem.run_bind,hq,Result.andThen_ok,run_eqlNil w hu b hv];rfl
theorem Do.errN(ho:ops[k]? =some o)(hg:aL ops s o=some true){t t':TypeId}{x:Operand}(hop:o.op= .binOp .eql t x (.const .nilIface) t'){ms:Array (String×TypeId)}(hu:P.underlying t=some (.interface ms)){b:Bool}(hx:evS s x=pErr b)
  (hp:putD n s o.dst (.val (.bool (!b)))=some s') (h:Do P Px T rb ops L ⟨n,s',bx,ob⟩ K):Do P Px T rb ops (k::L) ⟨n,s,bx,ob⟩ K:=lj ho hg (by rw[hop];rfl) (fun _=>detS_errN hop hu hx) hp h
end
section
variable{P:Program}{Px:PV→Prop}
theorem PFun.eQ{f:FuncId}{args:List PV}{r:PV}
  (h:∀(w:World) (M:Mem) (vs:Array Value),GlW w→au P M true args vs.toList→(∀b o v,M b o=some v→w.cell? ⟨b,o,none⟩=some v)→Calls P f vs w fun e w'=>∃v,e= .returned v∧Below w.heap.size w w'∧Rep P M true r v):
  da P f args r:=by
 intro w M own hg vs hi ha;have hi0:InvH P ⟨w,own,M,hg,[]⟩ M Heap.empty w:=hi
 refine(h w M vs hg.1 ha hi.mem).mono ?_
 rintro e w' ⟨v,rfl,hb,hr⟩
 refine⟨v,r,Heap.empty,M,rfl,⟨rfl,rfl⟩,?_,hr⟩
 refine⟨fun b o v hm=>?_,Mem.le_refl _,fun _ _ _ h=>.inl h,hb.os,hb.tape,hb.output,hb.size,fun b hb' _=>hb.block b hb',fun _ _ h=>by simp[Heap.empty]at h,fun _ _ h=>by simp[Heap.empty]at h,
  fun _ _ _ _ h=>by simp[Heap.empty]at h,fun _ _ _ _ _ h=>by simp[Heap.empty]at h,fun _ _ _ _ h=>by simp[Heap.empty]at h⟩
 have h1:=hi0.mem b o v hm;have h2:=hb.block b (hi0.mem_lt hm);simpa only[World.cell?,h2]using h1
end
section
variable{P:Program}{Px:PV→Prop}{T:TT}{ops:Array Oper}{rest:List Oper}{o:Oper}{n:Nat}{s:Nat→PV}{bx:Nat→Option Box}{ob:Nat→Option Obj}{K:PState→Prop}
end
end
end Go.Ab

namespace Go.Proofs
noncomputable section
open Go.Shelf
def Tryz.lays156_ren:Go.Shelf.Ren:=⟨fun|156=>67|165=>99|166=>100|169=>101|240=>140|241=>141|276=>181|277=>182|n=>n,fun|31=>23|9=>9|3=>3|4=>4|0=>0|20=>20|72=>154|76=>147|70=>151|37=>152|75=>146|127=>191|164=>227|5=>5|80=>79|n=>n,fun|n=>n⟩
theorem Tryz.lays156:Go.Proofs.Lays.n156 Tryz.prog Tryz.lays156_ren:={
 mixed:=by kernel_rfl
 f156:=Tryz.func67.trans (congrArg some (by kernel_rfl))
 f165:=Tryz.func99.trans (congrArg some (by kernel_rfl))
 f166:=Tryz.func100.trans (congrArg some (by kernel_rfl))
 f169:=Tryz.func101.trans (congrArg some (by kernel_rfl))
 f240:=Tryz.func140.trans (congrArg some (by kernel_rfl))
 f241:=Tryz.func141.trans (congrArg some (by kernel_rfl))
 f276:=Tryz.func181.trans (congrArg some (by kernel_rfl))
 f277:=Tryz.func182.trans (congrArg some (by kernel_rfl))
 t0:=Tryz.underlying0
 a0:=Tryz.isAgg0
 z0:=Tryz.sizeOf0
 v0:=Tryz.zeroValue0
 t3:=Tryz.underlying3
 a3:=Tryz.isAgg3
 z3:=Tryz.sizeOf3
 v3:=Tryz.zeroValue3
 t4:=Tryz.underlying4
 a4:=Tryz.isAgg4
 z4:=Tryz.sizeOf4
 v4:=Tryz.zeroValue4
 t9:=Tryz.underlying9
 a9:=Tryz.isAgg9
 z9:=Tryz.sizeOf9
 v9:=Tryz.zeroValue9
 t20:=Tryz.underlying20
 a20:=Tryz.isAgg20
 z20:=Tryz.sizeOf20
 v20:=Tryz.zeroValue20
 t31:=Tryz.underlying23
 a31:=Tryz.isAgg23
 z31:=Tryz.sizeOf23
 v31:=Tryz.zeroValue23
 t37:=Tryz.underlying152
 a37:=Tryz.isAgg152
 z37:=Tryz.sizeOf152
 v37:=Tryz.zeroValue152
 t70:=Tryz.underlying151
 a70:=Tryz.isAgg151
 z70:=Tryz.sizeOf151
 v70:=Tryz.zeroValue151
 t72:=Tryz.underlying154
 a72:=Tryz.isAgg154
 z72:=Tryz.sizeOf154
 v72:=Tryz.zeroValue154
 t75:=Tryz.underlying146
 a75:=Tryz.isAgg146
 z75:=Tryz.sizeOf146
 v75:=Tryz.zeroValue146
 t76:=Tryz.underlying147
 a76:=Tryz.isAgg147
 z76:=Tryz.sizeOf147
 v76:=Tryz.zeroValue147
 t127:=Tryz.underlying191
 a127:=Tryz.isAgg191
 z127:=Tryz.sizeOf191
 v127:=Tryz.zeroValue191
 t164:=Tryz.underlying227
 a164:=Tryz.isAgg227
 z164:=Tryz.sizeOf227
 v164:=Tryz.zeroValue227}
theorem Tryz.Builder_Extra_156:Builder.Extra Tryz.prog Tryz.lays156_ren:={
 sizeBuilder:=by kernel_rfl
 liesBuilder:=by kernel_rfl
 t5:=Tryz.underlying5
 a5:=Tryz.isAgg5
 z5:=Tryz.sizeOf5
 v5:=Tryz.zeroValue5
 infoByte:=by kernel_rfl
 cellsByte:=by kernel_rfl
 sizeByte:=by kernel_rfl
 neB5:=by decide}
open Go.RowKit in
theorem Tryz.strings_Join_none(a:Option Addr)(c:Nat)(sep:ByteArray)(w:World):
  Calls Tryz.prog 67 #[.slice a 0 c,.string sep] w fun e w'=>e= .returned (.string ⟨#[]⟩)∧w'=w:=Any.strings_Join_none Tryz.lays156 Tryz.Builder_Extra_156 a c sep w
open Go.RowKit in
theorem Tryz.strings_Join(bk o c:Nat)(xs:List ByteArray)(sep:ByteArray)(w:World)(hcells:∀(j:Nat) x,xs[j]? =some x→w.cell? ⟨bk,o+j,none⟩=some (.string x))(hbk:bk<w.heap.size)(hN:xs.length≤140737488355328)(hcap:xs.length≤c)(hlen:(Lib.join (xs.map (·.data.toList)) sep.data.toList).length≤140737488355328):
  Calls Tryz.prog 67 #[.slice (some ⟨bk,o,none⟩) xs.length c,.string sep] w fun e w'=>e= .returned (.string ⟨(Lib.join (xs.map (·.data.toList)) sep.data.toList).toArray⟩)∧Below w.heap.size w w':=Any.strings_Join Tryz.lays156 Tryz.Builder_Extra_156 bk o c xs sep w hcells hbk hN hcap hlen
def Tryz.lays137_ren:Go.Shelf.Ren:=⟨fun|137=>96|217=>138|266=>179|n=>n,fun|9=>9|5=>5|3=>3|n=>n,fun|n=>n⟩
theorem Tryz.lays137:Go.Proofs.Lays.n137 Tryz.prog Tryz.lays137_ren:={
 mixed:=by kernel_rfl
 f137:=Tryz.func96.trans (congrArg some (by kernel_rfl))
 f217:=Tryz.func138.trans (congrArg some (by kernel_rfl))
 f266:=Tryz.func179.trans (congrArg some (by kernel_rfl))
 t3:=Tryz.underlying3
 a3:=Tryz.isAgg3
 z3:=Tryz.sizeOf3
 v3:=Tryz.zeroValue3
 t5:=Tryz.underlying5
 a5:=Tryz.isAgg5
 z5:=Tryz.sizeOf5
 v5:=Tryz.zeroValue5
 t9:=Tryz.underlying9
 a9:=Tryz.isAgg9
 z9:=Tryz.sizeOf9
 v9:=Tryz.zeroValue9}
open Go.RowKit in
theorem Tryz.strings_IndexByte(s:ByteArray)(c:Int)(w:World):
  Calls Tryz.prog 96 #[.string s,.int .u8 c] w fun e w'=>e= .returned (.int .i64 (Lib.indexByte s.data.toList c.toNat.toUInt8))∧w'=w:=Any.strings_IndexByte Tryz.lays137 s c w
def Tryz.laysM171_ren:Go.Shelf.Ren:=⟨fun|171=>31|243=>68|246=>102|283=>142|284=>143|285=>144|286=>145|129=>184|317=>183|318=>185|319=>186|320=>187|337=>213|338=>214|n=>n,fun|3=>3|9=>9|2=>2|4=>4|171=>192|0=>0|53=>193|37=>152|5=>5|173=>196|212=>232|51=>233|20=>20|213=>234|46=>236|232=>276|233=>277|n=>n,fun|17=>0|18=>4|19=>5|n=>n⟩
theorem Tryz.laysM171:Go.Proofs.LaysM.n171 Tryz.prog Tryz.laysM171_ren:={
 mixed:=by kernel_rfl
 f129:=Tryz.func184.trans (congrArg some (by kernel_rfl))
 f171:=Tryz.func31.trans (congrArg some (by kernel_rfl))
 f243:=Tryz.func68.trans (congrArg some (by kernel_rfl))
 f246:=Tryz.func102.trans (congrArg some (by kernel_rfl))
 f283:=Tryz.func142.trans (congrArg some (by kernel_rfl))
 f284:=Tryz.func143.trans (congrArg some (by kernel_rfl))
 f285:=Tryz.func144.trans (congrArg some (by kernel_rfl))
 f286:=Tryz.func145.trans (congrArg some (by kernel_rfl))
 f317:=Tryz.func183.trans (congrArg some (by kernel_rfl))
 f318:=Tryz.func185.trans (congrArg some (by kernel_rfl))
 f319:=Tryz.func186.trans (congrArg some (by kernel_rfl))
 f320:=Tryz.func187.trans (congrArg some (by kernel_rfl))
 f337:=Tryz.func213.trans (congrArg some (by kernel_rfl))
 f338:=Tryz.func214.trans (congrArg some (by kernel_rfl))
 t0:=Tryz.underlying0
 a0:=Tryz.isAgg0
 z0:=Tryz.sizeOf0
 v0:=Tryz.zeroValue0
 t2:=Tryz.underlying2
 a2:=Tryz.isAgg2
 z2:=Tryz.sizeOf2
 v2:=Tryz.zeroValue2
 t3:=Tryz.underlying3
 a3:=Tryz.isAgg3
 z3:=Tryz.sizeOf3
 v3:=Tryz.zeroValue3
 t4:=Tryz.underlying4
 a4:=Tryz.isAgg4
 z4:=Tryz.sizeOf4
 v4:=Tryz.zeroValue4
 t5:=Tryz.underlying5
 a5:=Tryz.isAgg5
 z5:=Tryz.sizeOf5
 v5:=Tryz.zeroValue5
 t9:=Tryz.underlying9
 a9:=Tryz.isAgg9
 z9:=Tryz.sizeOf9
 v9:=Tryz.zeroValue9
 t20:=Tryz.underlying20
 a20:=Tryz.isAgg20
 z20:=Tryz.sizeOf20
 v20:=Tryz.zeroValue20
 t37:=Tryz.underlying152
 a37:=Tryz.isAgg152
 z37:=Tryz.sizeOf152
 v37:=Tryz.zeroValue152
 t46:=Tryz.underlying236
 a46:=Tryz.isAgg236
 z46:=Tryz.sizeOf236
 v46:=Tryz.zeroValue236
 t51:=Tryz.underlying233
 a51:=Tryz.isAgg233
 z51:=Tryz.sizeOf233
 v51:=Tryz.zeroValue233
 t53:=Tryz.underlying193
 a53:=Tryz.isAgg193
 z53:=Tryz.sizeOf193
 v53:=Tryz.zeroValue193
 t171:=Tryz.underlying192
 a171:=Tryz.isAgg192
 z171:=Tryz.sizeOf192
 v171:=Tryz.zeroValue192
 t173:=Tryz.underlying196
 a173:=Tryz.isAgg196
 z173:=Tryz.sizeOf196
 v173:=Tryz.zeroValue196
 t212:=Tryz.underlying232
 a212:=Tryz.isAgg232
 z212:=Tryz.sizeOf232
 v212:=Tryz.zeroValue232
 t213:=Tryz.underlying234
 a213:=Tryz.isAgg234
 z213:=Tryz.sizeOf234
 t232:=Tryz.underlying276
 a232:=Tryz.isAgg276
 z232:=Tryz.sizeOf276
 v232:=Tryz.zeroValue276
 t233:=Tryz.underlying277
 a233:=Tryz.isAgg277
 z233:=Tryz.sizeOf277
 v233:=Tryz.zeroValue277
 g17:=by kernel_rfl
 g18:=by kernel_rfl
 g19:=by kernel_rfl
 i0:=by kernel_rfl
 i2:=by kernel_rfl
 i3:=by kernel_rfl
 i4:=by kernel_rfl
 i5:=by kernel_rfl
 i9:=by kernel_rfl
 i20:=by kernel_rfl
 i37:=by kernel_rfl
 i46:=by kernel_rfl
 i51:=by kernel_rfl
 i53:=by kernel_rfl
 i171:=by kernel_rfl
 i173:=by kernel_rfl
 i212:=by kernel_rfl
 i232:=by kernel_rfl
 i233:=by kernel_rfl
 m17:=by kernel_rfl
 m18:=by kernel_rfl
 m19:=by kernel_rfl}
open Go.RowKit Go.Sort Go.Lib in
theorem Tryz.strconv_Itoa(n:Int)(h0:-9223372036854775808≤n)(h1:n≤9223372036854775807)(w:World)(htab:Lib.TabIs Tryz.prog w "internal/strconv.uint64pow10" .u64 Lib.pow10Tab):
  Calls Tryz.prog 31 #[.int .i64 n] w fun e w'=>e= .returned (.string ⟨(Lib.itoa n).toArray⟩)∧∃k os,w'=grow (w.drewN k) os:=Any.strconv_Itoa Tryz.laysM171 n h0 h1 w htab
def Tryz.laysC172_ren:Go.Shelf.Ren:=⟨fun|172=>95|244=>136|245=>137|247=>174|279=>175|280=>176|281=>177|282=>178|287=>208|316=>209|171=>31|205=>210|321=>228|322=>229|243=>68|246=>102|283=>142|284=>143|285=>144|286=>145|129=>184|317=>183|318=>185|319=>186|320=>187|337=>213|338=>214|n=>n,fun|9=>9|3=>3|75=>146|76=>147|4=>4|5=>5|167=>220|37=>152|0=>0|85=>221|2=>2|168=>223|53=>193|175=>253|46=>236|210=>256|127=>191|145=>274|143=>272|21=>21|171=>192|173=>196|212=>232|51=>233|20=>20|213=>234|232=>276|233=>277|80=>79|n=>n,fun|15=>2|16=>3|17=>0|18=>4|19=>5|n=>n⟩
theorem Tryz.laysC172:Go.Proofs.LaysC.n172 Tryz.prog Tryz.laysC172_ren:={
 mixed:=by kernel_rfl
 f129:=Tryz.func184.trans (congrArg some (by kernel_rfl))
 f171:=Tryz.func31.trans (congrArg some (by kernel_rfl))
 f172:=Tryz.func95.trans (congrArg some (by kernel_rfl))
 f205:=Tryz.func210.trans (congrArg some (by kernel_rfl))
 f243:=Tryz.func68.trans (congrArg some (by kernel_rfl))
 f244:=Tryz.func136.trans (congrArg some (by kernel_rfl))
 f245:=Tryz.func137.trans (congrArg some (by kernel_rfl))
 f246:=Tryz.func102.trans (congrArg some (by kernel_rfl))
 f247:=Tryz.func174.trans (congrArg some (by kernel_rfl))
 f279:=Tryz.func175.trans (congrArg some (by kernel_rfl))
 f280:=Tryz.func176.trans (congrArg some (by kernel_rfl))
 f281:=Tryz.func177.trans (congrArg some (by kernel_rfl))
 f282:=Tryz.func178.trans (congrArg some (by kernel_rfl))
 f283:=Tryz.func142.trans (congrArg some (by kernel_rfl))
 f284:=Tryz.func143.trans (congrArg some (by kernel_rfl))
 f285:=Tryz.func144.trans (congrArg some (by kernel_rfl))
 f286:=Tryz.func145.trans (congrArg some (by kernel_rfl))
 f287:=Tryz.func208.trans (congrArg some (by kernel_rfl))
 f316:=Tryz.func209.trans (congrArg some (by kernel_rfl))
 f317:=Tryz.func183.trans (congrArg some (by kernel_rfl))
 f318:=Tryz.func185.trans (congrArg some (by kernel_rfl))
 f319:=Tryz.func186.trans (congrArg some (by kernel_rfl))
 f320:=Tryz.func187.trans (congrArg some (by kernel_rfl))
 f321:=Tryz.func228.trans (congrArg some (by kernel_rfl))
 f322:=Tryz.func229.trans (congrArg some (by kernel_rfl))
 f337:=Tryz.func213.trans (congrArg some (by kernel_rfl))
 f338:=Tryz.func214.trans (congrArg some (by kernel_rfl))
 t0:=Tryz.underlying0
 a0:=Tryz.isAgg0
 z0:=Tryz.sizeOf0
 v0:=Tryz.zeroValue0
 t2:=Tryz.underlying2
 a2:=Tryz.isAgg2
 z2:=Tryz.sizeOf2
 v2:=Tryz.zeroValue2
 t3:=Tryz.underlying3
 a3:=Tryz.isAgg3
 z3:=Tryz.sizeOf3
 v3:=Tryz.zeroValue3
 t4:=Tryz.underlying4
 a4:=Tryz.isAgg4
 z4:=Tryz.sizeOf4
 v4:=Tryz.zeroValue4
 t5:=Tryz.underlying5
 a5:=Tryz.isAgg5
 z5:=Tryz.sizeOf5
 v5:=Tryz.zeroValue5
 t9:=Tryz.underlying9
 a9:=Tryz.isAgg9
 z9:=Tryz.sizeOf9
 v9:=Tryz.zeroValue9
 t20:=Tryz.underlying20
 a20:=Tryz.isAgg20
 z20:=Tryz.sizeOf20
 v20:=Tryz.zeroValue20
 t21:=Tryz.underlying21
 a21:=Tryz.isAgg21
 z21:=Tryz.sizeOf21
 v21:=Tryz.zeroValue21
 t37:=Tryz.underlying152
 a37:=Tryz.isAgg152
 z37:=Tryz.sizeOf152
 v37:=Tryz.zeroValue152
 t46:=Tryz.underlying236
 a46:=Tryz.isAgg236
 z46:=Tryz.sizeOf236
 v46:=Tryz.zeroValue236
 t51:=Tryz.underlying233
 a51:=Tryz.isAgg233
 z51:=Tryz.sizeOf233
 v51:=Tryz.zeroValue233
 t53:=Tryz.underlying193
 a53:=Tryz.isAgg193
 z53:=Tryz.sizeOf193
 v53:=Tryz.zeroValue193
 t75:=Tryz.underlying146
 a75:=Tryz.isAgg146
 z75:=Tryz.sizeOf146
 v75:=Tryz.zeroValue146
 t76:=Tryz.underlying147
 a76:=Tryz.isAgg147
 z76:=Tryz.sizeOf147
 v76:=Tryz.zeroValue147
 t85:=Tryz.underlying221
 a85:=Tryz.isAgg221
 z85:=Tryz.sizeOf221
 v85:=Tryz.zeroValue221
 t127:=Tryz.underlying191
 a127:=Tryz.isAgg191
 z127:=Tryz.sizeOf191
 v127:=Tryz.zeroValue191
 t143:=Tryz.underlying272
 a143:=Tryz.isAgg272
 z143:=Tryz.sizeOf272
 v143:=Tryz.zeroValue272
 t145:=Tryz.underlying274
 a145:=Tryz.isAgg274
 z145:=Tryz.sizeOf274
 v145:=Tryz.zeroValue274
 t167:=Tryz.underlying220
 a167:=Tryz.isAgg220
 z167:=Tryz.sizeOf220
 v167:=Tryz.zeroValue220
 t168:=Tryz.underlying223
 a168:=Tryz.isAgg223
 z168:=Tryz.sizeOf223
 v168:=Tryz.zeroValue223
 t171:=Tryz.underlying192
 a171:=Tryz.isAgg192
 z171:=Tryz.sizeOf192
 v171:=Tryz.zeroValue192
 t173:=Tryz.underlying196
 a173:=Tryz.isAgg196
 z173:=Tryz.sizeOf196
 v173:=Tryz.zeroValue196
 t175:=Tryz.underlying253
 a175:=Tryz.isAgg253
 z175:=Tryz.sizeOf253
 v175:=Tryz.zeroValue253
 t210:=Tryz.underlying256
 a210:=Tryz.isAgg256
 z210:=Tryz.sizeOf256
 v210:=Tryz.zeroValue256
 t212:=Tryz.underlying232
 a212:=Tryz.isAgg232
 z212:=Tryz.sizeOf232
 v212:=Tryz.zeroValue232
 t213:=Tryz.underlying234
 a213:=Tryz.isAgg234
 z213:=Tryz.sizeOf234
 t232:=Tryz.underlying276
 a232:=Tryz.isAgg276
 z232:=Tryz.sizeOf276
 v232:=Tryz.zeroValue276
 t233:=Tryz.underlying277
 a233:=Tryz.isAgg277
 z233:=Tryz.sizeOf277
 v233:=Tryz.zeroValue277
 g15:=by kernel_rfl
 g16:=by kernel_rfl
 g17:=by kernel_rfl
 g18:=by kernel_rfl
 g19:=by kernel_rfl
 t80:=Tryz.underlying79
 a80:=Tryz.isAgg79
 z80:=Tryz.sizeOf79
 v80:=Tryz.zeroValue79
 i0:=by kernel_rfl
 i2:=by kernel_rfl
 i3:=by kernel_rfl
 i4:=by kernel_rfl
 i5:=by kernel_rfl
 i9:=by kernel_rfl
 i20:=by kernel_rfl
 i21:=by kernel_rfl
 i37:=by kernel_rfl
 i46:=by kernel_rfl
 i51:=by kernel_rfl
 i53:=by kernel_rfl
 i75:=by kernel_rfl
 i76:=by kernel_rfl
 i80:=by kernel_rfl
 i85:=by kernel_rfl
 i127:=by kernel_rfl
 i143:=by kernel_rfl
 i145:=by kernel_rfl
 i167:=by kernel_rfl
 i168:=by kernel_rfl
 i171:=by kernel_rfl
 i173:=by kernel_rfl
 i175:=by kernel_rfl
 i210:=by kernel_rfl
 i212:=by kernel_rfl
 i232:=by kernel_rfl
 i233:=by kernel_rfl
 m15:=by kernel_rfl
 m16:=by kernel_rfl
 m17:=by kernel_rfl
 m18:=by kernel_rfl
 m19:=by kernel_rfl
 c0:=by kernel_rfl
 c2:=by kernel_rfl
 c3:=by kernel_rfl
 c4:=by kernel_rfl
 c5:=by kernel_rfl
 c9:=by kernel_rfl
 c20:=by kernel_rfl
 c21:=by kernel_rfl
 c37:=by kernel_rfl
 c46:=by kernel_rfl
 c51:=by kernel_rfl
 c53:=by kernel_rfl
 c75:=by kernel_rfl
 c76:=by kernel_rfl
 c80:=by kernel_rfl
 c85:=by kernel_rfl
 c127:=by kernel_rfl
 c143:=by kernel_rfl
 c145:=by kernel_rfl
 c167:=by kernel_rfl
 c168:=by kernel_rfl
 c171:=by kernel_rfl
 c173:=by kernel_rfl
 c175:=by kernel_rfl
 c210:=by kernel_rfl
 c212:=by kernel_rfl
 c213:=by kernel_rfl
 c232:=by kernel_rfl
 c233:=by kernel_rfl}
open Go.RowKit in
theorem Tryz.strconv_Atoi_ok(s:ByteArray)(hmax:s.size≤9223372036854775806)(v:Int)(h:Lib.atoiAll s.data.toList= .ok v)(w:World):
  Calls Tryz.prog 95 #[.string s] w fun e w'=>e= .returned (.tuple #[.int .i64 v,.nilIface])∧(w'=w∨∃t,w'=Lib.bytesWorld w 5 t):=Any.strconv_Atoi_ok Tryz.laysC172 s hmax v h w
open Go.RowKit in
theorem Tryz.strconv_Atoi_syntax(s:ByteArray)(hlim:s.size≤281474976710656)(h:Lib.atoiAll s.data.toList=Lib.NumEnd.ofOption none)(ev:Value)(w:World)(hv:w.cell? ⟨2,0,none⟩=some ev)(hev:ev= .nilIface∨∃te pe,ev= .iface te pe):
  Calls Tryz.prog 95 #[.string s] w fun e w'=>∃N,e= .returned (.tuple #[.int .i64 (0),.iface 223 (.pointer (some ⟨N,0,none⟩))])∧w.heap.size≤N∧w'.heap[N]? =some (.cells #[.string ⟨#[65,116,111,105]⟩,.string s,ev] 256 (0,0))∧Below w.heap.size w w':=Any.strconv_Atoi_syntax Tryz.laysC172 s hlim h ev w hv hev
open Go.RowKit in
theorem Tryz.strconv_Atoi_range(s:ByteArray)(hlim:s.size≤281474976710656)(h:Lib.atoiAll s.data.toList= .range)(ev:Value)(w:World)(hv:w.cell? ⟨3,0,none⟩=some ev)(hev:ev= .nilIface∨∃te pe,ev= .iface te pe):
  Calls Tryz.prog 95 #[.string s] w fun e w'=>∃N,e= .returned (.tuple #[.int .i64 (Lib.atoiSat s.data.toList),.iface 223 (.pointer (some ⟨N,0,none⟩))])∧w.heap.size≤N∧w'.heap[N]? =some (.cells #[.string ⟨#[65,116,111,105]⟩,.string s,ev] 256 (0,0))∧Below w.heap.size w w':=Any.strconv_Atoi_range Tryz.laysC172 s hlim h ev w hv hev
def Tryz.lays143_ren:Go.Shelf.Ren:=⟨fun|143=>131|219=>170|217=>138|225=>205|224=>206|267=>207|266=>179|314=>227|n=>n,fun|9=>9|3=>3|4=>4|5=>5|46=>236|146=>269|51=>233|n=>n,fun|1=>1|n=>n⟩
theorem Tryz.lays143:Go.Proofs.Lays.n143 Tryz.prog Tryz.lays143_ren:={
 mixed:=by kernel_rfl
 f143:=Tryz.func131.trans (congrArg some (by kernel_rfl))
 f217:=Tryz.func138.trans (congrArg some (by kernel_rfl))
 f219:=Tryz.func170.trans (congrArg some (by kernel_rfl))
 f224:=Tryz.func206.trans (congrArg some (by kernel_rfl))
 f225:=Tryz.func205.trans (congrArg some (by kernel_rfl))
 f266:=Tryz.func179.trans (congrArg some (by kernel_rfl))
 f267:=Tryz.func207.trans (congrArg some (by kernel_rfl))
 f314:=Tryz.func227.trans (congrArg some (by kernel_rfl))
 t3:=Tryz.underlying3
 a3:=Tryz.isAgg3
 z3:=Tryz.sizeOf3
 v3:=Tryz.zeroValue3
 t4:=Tryz.underlying4
 a4:=Tryz.isAgg4
 z4:=Tryz.sizeOf4
 v4:=Tryz.zeroValue4
 t5:=Tryz.underlying5
 a5:=Tryz.isAgg5
 z5:=Tryz.sizeOf5
 v5:=Tryz.zeroValue5
 t9:=Tryz.underlying9
 a9:=Tryz.isAgg9
 z9:=Tryz.sizeOf9
 v9:=Tryz.zeroValue9
 t46:=Tryz.underlying236
 a46:=Tryz.isAgg236
 z46:=Tryz.sizeOf236
 v46:=Tryz.zeroValue236
 t51:=Tryz.underlying233
 a51:=Tryz.isAgg233
 z51:=Tryz.sizeOf233
 v51:=Tryz.zeroValue233
 t146:=Tryz.underlying269
 a146:=Tryz.isAgg269
 z146:=Tryz.sizeOf269
 v146:=Tryz.zeroValue269
 g1:=by kernel_rfl}
open Go.RowKit Go.Lib in
theorem Tryz.strings_Index_one(s:ByteArray)(c:UInt8)(w:World):
  Calls Tryz.prog 131 #[.string s,.string ⟨#[c]⟩] w fun e w'=>e= .returned (.int .i64 (Lib.indexByte s.data.toList c))∧w'=w:=Any.strings_Index_one Tryz.lays143 s c w
def Tryz.lays99_ren:Go.Shelf.Ren:=⟨fun|99=>64|206=>97|n=>n,fun|9=>9|4=>4|3=>3|n=>n,fun|n=>n⟩
theorem Tryz.lays99:Go.Proofs.Lays.n99 Tryz.prog Tryz.lays99_ren:={
 mixed:=by kernel_rfl
 f99:=Tryz.func64.trans (congrArg some (by kernel_rfl))
 f206:=Tryz.func97.trans (congrArg some (by kernel_rfl))
 t3:=Tryz.underlying3
 a3:=Tryz.isAgg3
 z3:=Tryz.sizeOf3
 v3:=Tryz.zeroValue3
 t4:=Tryz.underlying4
 a4:=Tryz.isAgg4
 z4:=Tryz.sizeOf4
 v4:=Tryz.zeroValue4
 t9:=Tryz.underlying9
 a9:=Tryz.isAgg9
 z9:=Tryz.sizeOf9
 v9:=Tryz.zeroValue9}
open Go.RowKit Go.Lib in
theorem Tryz.strings_HasPrefix(s p:ByteArray)(w:World):
  Calls Tryz.prog 64 #[.string s,.string p] w fun e w'=>e= .returned (.bool (Lib.hasPrefix s.data.toList p.data.toList))∧w'=w:=Any.strings_HasPrefix Tryz.lays99 s p w
def Tryz.lays155_ren:Go.Shelf.Ren:=⟨fun|155=>139|154=>180|138=>211|165=>99|143=>131|166=>100|197=>212|169=>101|195=>230|218=>231|240=>140|241=>141|219=>170|260=>232|276=>181|277=>182|217=>138|225=>205|224=>206|267=>207|266=>179|314=>227|n=>n,fun|9=>9|3=>3|4=>4|72=>154|0=>0|76=>147|105=>258|21=>21|5=>5|70=>151|20=>20|37=>152|75=>146|127=>191|164=>227|46=>236|119=>280|139=>283|138=>282|146=>269|51=>233|80=>79|n=>n,fun|1=>1|3=>6|4=>7|n=>n⟩
theorem Tryz.lays155:Go.Proofs.Lays.n155 Tryz.prog Tryz.lays155_ren:={
 mixed:=by kernel_rfl
 f138:=Tryz.func211.trans (congrArg some (by kernel_rfl))
 f143:=Tryz.func131.trans (congrArg some (by kernel_rfl))
 f154:=Tryz.func180.trans (congrArg some (by kernel_rfl))
 f155:=Tryz.func139.trans (congrArg some (by kernel_rfl))
 f165:=Tryz.func99.trans (congrArg some (by kernel_rfl))
 f166:=Tryz.func100.trans (congrArg some (by kernel_rfl))
 f169:=Tryz.func101.trans (congrArg some (by kernel_rfl))
 f195:=Tryz.func230.trans (congrArg some (by kernel_rfl))
 f197:=Tryz.func212.trans (congrArg some (by kernel_rfl))
 f217:=Tryz.func138.trans (congrArg some (by kernel_rfl))
 f218:=Tryz.func231.trans (congrArg some (by kernel_rfl))
 f219:=Tryz.func170.trans (congrArg some (by kernel_rfl))
 f224:=Tryz.func206.trans (congrArg some (by kernel_rfl))
 f225:=Tryz.func205.trans (congrArg some (by kernel_rfl))
 f240:=Tryz.func140.trans (congrArg some (by kernel_rfl))
 f241:=Tryz.func141.trans (congrArg some (by kernel_rfl))
 f260:=Tryz.func232.trans (congrArg some (by kernel_rfl))
 f266:=Tryz.func179.trans (congrArg some (by kernel_rfl))
 f267:=Tryz.func207.trans (congrArg some (by kernel_rfl))
 f276:=Tryz.func181.trans (congrArg some (by kernel_rfl))
 f277:=Tryz.func182.trans (congrArg some (by kernel_rfl))
 f314:=Tryz.func227.trans (congrArg some (by kernel_rfl))
 t0:=Tryz.underlying0
 a0:=Tryz.isAgg0
 z0:=Tryz.sizeOf0
 v0:=Tryz.zeroValue0
 t3:=Tryz.underlying3
 a3:=Tryz.isAgg3
 z3:=Tryz.sizeOf3
 v3:=Tryz.zeroValue3
 t4:=Tryz.underlying4
 a4:=Tryz.isAgg4
 z4:=Tryz.sizeOf4
 v4:=Tryz.zeroValue4
 t5:=Tryz.underlying5
 a5:=Tryz.isAgg5
 z5:=Tryz.sizeOf5
 v5:=Tryz.zeroValue5
 t9:=Tryz.underlying9
 a9:=Tryz.isAgg9
 z9:=Tryz.sizeOf9
 v9:=Tryz.zeroValue9
 t20:=Tryz.underlying20
 a20:=Tryz.isAgg20
 z20:=Tryz.sizeOf20
 v20:=Tryz.zeroValue20
 t21:=Tryz.underlying21
 a21:=Tryz.isAgg21
 z21:=Tryz.sizeOf21
 v21:=Tryz.zeroValue21
 t37:=Tryz.underlying152
 a37:=Tryz.isAgg152
 z37:=Tryz.sizeOf152
 v37:=Tryz.zeroValue152
 t46:=Tryz.underlying236
 a46:=Tryz.isAgg236
 z46:=Tryz.sizeOf236
 v46:=Tryz.zeroValue236
 t51:=Tryz.underlying233
 a51:=Tryz.isAgg233
 z51:=Tryz.sizeOf233
 v51:=Tryz.zeroValue233
 t70:=Tryz.underlying151
 a70:=Tryz.isAgg151
 z70:=Tryz.sizeOf151
 v70:=Tryz.zeroValue151
 t72:=Tryz.underlying154
 a72:=Tryz.isAgg154
 z72:=Tryz.sizeOf154
 v72:=Tryz.zeroValue154
 t75:=Tryz.underlying146
 a75:=Tryz.isAgg146
 z75:=Tryz.sizeOf146
 v75:=Tryz.zeroValue146
 t76:=Tryz.underlying147
 a76:=Tryz.isAgg147
 z76:=Tryz.sizeOf147
 v76:=Tryz.zeroValue147
 t105:=Tryz.underlying258
 a105:=Tryz.isAgg258
 z105:=Tryz.sizeOf258
 v105:=Tryz.zeroValue258
 t119:=Tryz.underlying280
 a119:=Tryz.isAgg280
 z119:=Tryz.sizeOf280
 t127:=Tryz.underlying191
 a127:=Tryz.isAgg191
 z127:=Tryz.sizeOf191
 v127:=Tryz.zeroValue191
 t138:=Tryz.underlying282
 a138:=Tryz.isAgg282
 z138:=Tryz.sizeOf282
 v138:=Tryz.zeroValue282
 t139:=Tryz.underlying283
 a139:=Tryz.isAgg283
 z139:=Tryz.sizeOf283
 v139:=Tryz.zeroValue283
 t146:=Tryz.underlying269
 a146:=Tryz.isAgg269
 z146:=Tryz.sizeOf269
 v146:=Tryz.zeroValue269
 t164:=Tryz.underlying227
 a164:=Tryz.isAgg227
 z164:=Tryz.sizeOf227
 v164:=Tryz.zeroValue227
 g1:=by kernel_rfl
 g3:=by kernel_rfl
 g4:=by kernel_rfl}
theorem Tryz.Builder_Extra_155:Builder.Extra Tryz.prog Tryz.lays155_ren:={
 sizeBuilder:=by kernel_rfl
 liesBuilder:=by kernel_rfl
 t5:=Tryz.underlying5
 a5:=Tryz.isAgg5
 z5:=Tryz.sizeOf5
 v5:=Tryz.zeroValue5
 infoByte:=by kernel_rfl
 cellsByte:=by kernel_rfl
 sizeByte:=by kernel_rfl
 neB5:=by decide}
open Go.RowKit Go.Lib in
theorem Tryz.strings_ReplaceAll(s old new:ByteArray)(m:Int)(w:World)(hs:s.size<4294967281)(hm:w.cell? ⟨1,0,none⟩=some (.int .i64 m))(h1:1≤old.size)(hlen:s.size+Lib.countB s old*new.size≤140737488355328):
  Calls Tryz.prog 139 #[.string s,.string old,.string new] w fun e w'=>
   e= .returned (.string ⟨(Lib.replaceAll s.data.toList old.data.toList new.data.toList).toArray⟩)∧Below w.heap.size w w':=Any.strings_ReplaceAll Tryz.lays155 Tryz.Builder_Extra_155 s old new m w hs hm h1 hlen
end
end Go.Proofs

namespace Go.Proofs.YtibojibdiibdgaaGreatDoor
noncomputable section
open Go Go.Ab
open Go.RowKit (Below)
theorem vs1{vs:Array Value}{x:Value}{xs:List Value}(h:vs.toList=x::xs)(hx:xs=[]):vs=#[x]:=by
 rw[←Array.toArray_toList (xs:=vs),h,hx]
theorem vs2{vs:Array Value}{x y:Value}{xs ys:List Value}(h:vs.toList=x::xs)(hx:xs=y::ys)(hy:ys=[]):vs=#[x,y]:=by
 rw[←Array.toArray_toList (xs:=vs),h,hx,hy]
theorem kg(l:List UInt8):(ByteArray.mk l.toArray).data.toList=l:=by simp
theorem ba_size(l:List UInt8):(ByteArray.mk l.toArray).size=l.length:=by simp[ByteArray.size]
def atoiL(l:List UInt8):Option (Int×Bool):=
 iV (l.length≤2^48) (match Lib.atoiAll l with| .ok v=>(v,false)| .range=>(Lib.atoiSat l,true)|_=>(0,true))
theorem W_atoi(l:List UInt8)(r:Int×Bool)(h:atoiL l=some r):da Tryz.prog 95 [.str l] (.tup [ac r.1,pErr r.2]):=by
 obtain⟨hl,hr⟩:=kA h
 refine PFun.eQ fun w M vs hg ha hm=>?_
 simp only[au,Rep]at ha
 obtain⟨x,xs,hv,⟨rfl,_⟩,hxs⟩:=ha
 obtain rfl:=vs1 hv hxs;cases he:Lib.atoiAll l with
 |ok v=>
  rw[he]at hr;subst hr
  refine(Tryz.strconv_Atoi_ok ⟨l.toArray⟩ (by rw[ba_size];omega) v (by rw[kg];exact he) w).mono ?_
  rintro e w' ⟨rfl,hw⟩
  refine⟨_,rfl,?_,?_⟩
  ·rcases hw with rfl|⟨t,rfl⟩
   ·exact Below.refl _ _
   ·exact Lib.bytesWorld_below _ _ _
  ·simp only[Rep,au]
   exact⟨_,rfl,_,_,rfl,rfl,_,_,rfl,.inl ⟨trivial,rfl⟩,rfl⟩
 |range=>
  rw[he]at hr;subst hr
  obtain⟨tp,p,hc⟩:=hg.1 3 (by simp[glI])
  refine(Tryz.strconv_Atoi_range ⟨l.toArray⟩ (by rw[ba_size];omega) (by rw[kg];exact he) _ w hc (.inr ⟨tp,p,rfl⟩)).mono ?_
  rintro e w' ⟨N,rfl,_,_,hb⟩
  refine⟨_,rfl,hb,?_⟩
  rw[kg];simp only[Rep,au]
  exact⟨_,rfl,_,_,rfl,rfl,_,_,rfl,.inr ⟨trivial,_,_,rfl⟩,rfl⟩
 |_=>
  rw[he]at hr;subst hr
  obtain⟨tp,p,hc⟩:=hg.1 2 (by simp[glI])
  refine(Tryz.strconv_Atoi_syntax ⟨l.toArray⟩ (by rw[ba_size];omega) (by rw[kg];exact he) _ w hc (.inr ⟨tp,p,rfl⟩)).mono ?_
  rintro e w' ⟨N,rfl,_,_,hb⟩
  refine⟨_,rfl,hb,?_⟩
  simp only[Rep,au]
  exact⟨_,rfl,_,_,rfl,rfl,_,_,rfl,.inr ⟨trivial,_,_,rfl⟩,rfl⟩
theorem itoa_len(n:Int)(h0:-9223372036854775808≤n)(h1:n≤9223372036854775807):(Lib.itoa n).length≤21:=Lib.itoa_length_le n h0 h1
def itoaL(n:Int):Option (List UInt8):=iV (-9223372036854775808≤n∧n≤9223372036854775807) (Lib.itoa n)
set_option maxRecDepth 20000 in
theorem g_pow:Tryz.prog.globalNamed "internal/strconv.uint64pow10" =some 0:=by kernel_rfl
theorem W_itoa(n:Int)(r:List UInt8)(h:itoaL n=some r):da Tryz.prog 31 [ac n] (.str r):=by
 obtain⟨⟨h0,h1⟩,rfl⟩:=kA h
 refine PFun.eQ fun w M vs hg ha hm=>?_
 simp only[au,Rep]at ha
 obtain⟨x,xs,hv,rfl,hxs⟩:=ha
 obtain rfl:=vs1 hv hxs
 have htab:Lib.TabIs Tryz.prog w "internal/strconv.uint64pow10" .u64 Lib.pow10Tab:=by
  obtain⟨t,fz,hc⟩:=hg.2.1 _ (List.mem_singleton.2 rfl)
  simp only[Lib.TabIs,World.var?,g_pow,Option.bind_some,hc];rfl
 refine(Tryz.strconv_Itoa n h0 h1 w htab).mono ?_
 rintro e w' ⟨rfl,k,os,rfl⟩
 refine⟨_,rfl,Lib.below_grow _ w (Nat.le_refl _) k os,?_⟩
 simp only[Rep]
 exact⟨trivial,Nat.le_trans (itoa_len n h0 h1) (by decide)⟩
def js(l:List UInt8)(c:UInt8):Option Int:=some (Lib.indexByte l c)
theorem W_idxByte(l:List UInt8)(c:UInt8)(r:Int)(h:js l c=some r):da Tryz.prog 96 [.str l,.val (.int .u8 (c.toNat:Int))] (ac r):=by
 simp only[js,zo]at h;subst h;refine PFun.eQ fun w M vs hg ha hm=>?_
 simp only[au,Rep]at ha
 obtain⟨x,xs,hv,⟨rfl,_⟩,y,ys,hxs,rfl,hys⟩:=ha
 obtain rfl:=vs2 hv hxs hys
 refine(Tryz.strings_IndexByte ⟨l.toArray⟩ (c.toNat:Int) w).mono ?_
 rintro e w' ⟨rfl,rfl⟩
 refine⟨_,rfl,Below.refl _ _,?_⟩
 simp[Rep]
def fL(l p:List UInt8):Option Bool:=some (p.isPrefixOf l)
theorem W_hasPrefix(l p:List UInt8)(r:Bool)(h:fL l p=some r):da Tryz.prog 64 [.str l,.str p] (bG r):=by
 simp only[fL,zo]at h;subst h;refine PFun.eQ fun w M vs hg ha hm=>?_
 simp only[au,Rep]at ha
 obtain⟨x,xs,hv,⟨rfl,_⟩,y,ys,hxs,⟨rfl,_⟩,hys⟩:=ha
 obtain rfl:=vs2 hv hxs hys
 refine(Tryz.strings_HasPrefix ⟨l.toArray⟩ ⟨p.toArray⟩ w).mono ?_
 rintro e w' ⟨rfl,rfl⟩
 refine⟨_,rfl,Below.refl _ _,?_⟩
 simp[Rep,Lib.hasPrefix]
def idx1(l sub:List UInt8):Option Int:=match sub with
 |[c]=>some (Lib.indexByte l c)
 |_=>none
theorem W_idx1(l sub:List UInt8)(r:Int)(h:idx1 l sub=some r):da Tryz.prog 131 [.str l,.str sub] (ac r):=by
 match sub,h with
 |[c],h=>
  simp only[idx1,zo]at h;subst h;refine PFun.eQ fun w M vs hg ha hm=>?_
  simp only[au,Rep]at ha
  obtain⟨x,xs,hv,⟨rfl,_⟩,y,ys,hxs,⟨rfl,_⟩,hys⟩:=ha
  obtain rfl:=vs2 hv hxs hys
  refine(Tryz.strings_Index_one ⟨l.toArray⟩ c w).mono ?_
  rintro e w' ⟨rfl,rfl⟩
  refine⟨_,rfl,Below.refl _ _,?_⟩
  simp[Rep]
end
end Go.Proofs.YtibojibdiibdgaaGreatDoor

namespace Go.Ab
noncomputable section
section
variable{P:Program}{Px:PV→Prop}{T:TT}{ops:Array Oper}{rest:List Oper}{o:Oper}{n:Nat}{s:Nat→PV}{bx:Nat→Option Box}{ob:Nat→Option Obj}{K:PState→Prop}{fn:Func}{R:PV→Heap→Prop}{k:List KI}{st:PState}{rb:RB}{L:List Nat}{kk:Nat}
end
section
variable{P:Program}{Px:PV→Prop}{n:Nat}{s:Nat→PV}{bx:Nat→Option Box}{ob:Nat→Option Obj}{T:TT}
theorem Gh.dF(hT:T.Ok P)(tag k otag:Nat){e:TypeId}{ei:TInfo}(hei:T.get e=some ei){b:Nat}{cells cells':List PV}(hb:bx tag=some ⟨b,cells⟩)(hk:cells[k]? =some (.val (.slice none 0 0)))
  (hf:cI (cells.set k (.own otag ⟨none,0⟩ 0))=some cells') (hok:okS cells=true:=by exact rfl):Gh P ⟨n,s,bx,ob⟩ ⟨n,s,upd bx tag (some ⟨b,cells'⟩),upd ob otag (some ⟨⟨none,0⟩,e,[],true⟩)⟩:=by
 rw[co,zo]at hf;subst hf;intro C M a w hi;have h1:=hi.2.nilobj hT otag hei
 refine⟨M,hi.1,?_⟩
 refine h1.recell (tag:=tag) hb (fun xs hx=>hx.set hk fun x hx=>?_) hok;simp only[Rep]at hx⊢
 exact⟨trivial,by rw[hx];rfl⟩
theorem HSub.updB{tag:Nat}{v:Option Box}(h:bx tag=none):HSub ⟨bx,ob⟩ ⟨upd bx tag v,ob⟩:=by
 refine⟨fun t x hx=>?_,fun _ _ hx=>hx⟩
 show upd bx tag v t=some x;rw[cK];split
 ·rename_i e;subst e;rw[show bx t=some x from hx]at h;cases h
 ·exact hx
end
section
variable{P:Program}{Px:PV→Prop}{C:Ctx}{M:Mem}{H:Heap}{w:World}
open Classical in
def ownAll(H:Heap)(w:World):List Nat:=(List.range w.heap.size).filter fun b=>decide ((∃t x,H.bx t=some x∧x.b=b)∨∃t x,H.ob t=some x∧x.g.blk=some b)
end
def Fr(ro:Option Nat):Fence:={Fence.wide with round:=ro}
section
variable{P:Program}{Px:PV→Prop}{ops:Array Oper}{Q Qx:Exit→Act→World→Prop}{ro:Option Nat}
end
section
variable{P:Program}{Px:PV→Prop}{ops:Array Oper}{Q Qx:Exit→Act→World→Prop}{ro:Option Nat}
end
section
variable{P:Program}{Px:PV→Prop}{lo:Nat}{G:PState→Prop}{st:PState}
end
section
variable{P:Program}{Px:PV→Prop}
end
section
variable{P:Program}{Px:PV→Prop}{ops:Array Oper}{rest:List Oper}{o:Oper}{n:Nat}{s s':Nat→PV}{bx:Nat→Option Box}{ob:Nat→Option Obj}{K:PState→Prop}{T:TT}{rb:RB}{k:Nat}{L:List Nat}
theorem detS_mkI(hT:T.Ok P){t:TypeId}{x:Operand}(ho:o.op= .makeInterface t x){ti:TInfo}(hti:T.get t=some ti)(hd:(match ti.desc with| .interface _=>true|_=>false)=false){ev:Operand→PV}{H:Heap}:DetS P o ev H (.ifc t (ev x)):=by
 intro C M a w _ he;have hxr:=he x (by rw[ho];simp[Op.operands])
 refine⟨.iface t (a.eval x),?_,by simp only[Rep];exact⟨_,rfl,hxr⟩⟩
 have hm:(Instr.makeInterface t (a.eval x)).run P w= .ok (.iface t (a.eval x)) w:=by
  simp only[Instr.makeInterface,Sem.run_bind,(hT.get hti).rund w,Result.andThen_ok];cases hq:ti.desc<;>rw[hq]at hd<;>first|rfl|cases hd
 simp only[execOp,ho,Sem.run_bind,hm,Result.andThen_ok];rfl
theorem Ao.mkI(hT:T.Ok P)(hg:aL ops s o=some true){t:TypeId}{x:Operand}(ho:o.op= .makeInterface t x){ti:TInfo}(hti:T.get t=some ti)(hd:(match ti.desc with| .interface _=>true|_=>false)=false)
  (hp:putD n s o.dst (.ifc t (evS s x))=some s') (h:Ao P Px ops rest ⟨n,s',bx,ob⟩ K):Ao P Px ops (o::rest) ⟨n,s,bx,ob⟩ K:=kZ hg (detS_mkI hT ho hti hd) hp h
theorem lr(hop:ops[k]? =some o)(hg:aL ops s o=some true){fx:Operand}{av0:Array Operand}{ts:Array TypeId}(ho:o.op= .call {callee:= .value fx,args:=av0,argTypes:=ts}){g:FuncId}{caps:List PV}
  (hf:evS s fx= .fn g caps) (hcall:∀vs w,(callFunc g vs).run P w= .ok (.enter g vs) w) (hsx:rb.sx=true) (hna:kr rb ops=true) (mb mo:List (Nat×Nat)) (hb1:aQ (mb.map Prod.fst)=true) (hb2:aQ (mb.map Prod.snd)=true) (ho1:aQ (mo.map Prod.fst)=true) (ho2:aQ (mo.map Prod.snd)=true)
  {args:List PV} (hle:cX P (av0.toList.map (evS s)++caps) args) {Hin:Heap} (hin:Hin=⟨dP bx mb,eh ob mo⟩) {R:PV→Heap→Prop} (hc:PH P g args Hin R)
  (h:∀u H',R u H'→∃s',putD n s o.dst u=some s'∧Do P Px T rb ops L ⟨n,s',eg bx mb H'.bx,fv ob mo H'.ob⟩ K) (hst:(mb.all fun p=>!rb.st p.1)=true:=by rfl):Do P Px T rb ops (k::L) ⟨n,s,bx,ob⟩ K:=by
 refine⟨o,hop,true,hg,?_⟩
 simp only[if_true,ho,bH];refine .inl ⟨hsx,hna,eff_callH ho hf hcall mb mo hb1 hb2 ho1 ho2 hle (hin▸hc) fun u H' hR=>⟨fun t ht=>?_,h u H' hR⟩⟩;show eg bx mb H'.bx t=bx t;unfold eg;split
 ·rename_i q hq;have h1:=List.all_eq_true.1 hst q (List.mem_of_find?_eq_some hq);have h2:=List.find?_some hq;rw[Nat.eq_of_beq_eq_true h2,ht]at h1;cases h1
 ·rfl
end
def ke:Op→Bool
 | .move _| .assign _| .load .. | .fieldAddr .. | .field .. | .unOp .. | .build .. | .extract .. | .nilCheck _| .convert .. | .makeFunc ..=>true
 | .binOp .quo _ _ _ _| .binOp .rem _ _ _ _| .binOp .shl _ _ _ _| .binOp .shr _ _ _ _=>false
 | .binOp ..=>true
 |_=>false
def qrun(T:TT)(ops:Array Oper)(n:Nat)(bx:Nat→Option Box):List Oper→(Nat→PV)→Option (List Oper×(Nat→PV))
 |[],s=>some ([],s)
 |o::l,s=>match ke o.op with
  |true=>match dw T ops n s bx o with
   |some s'=>qrun T ops n bx l s'
   |none=>some (o::l,s)
  |false=>some (o::l,s)
def qrun1(T:TT)(ops:Array Oper)(n:Nat)(bx:Nat→Option Box):List Oper→(Nat→PV)→Option (List Oper×(Nat→PV))
 |[],_=>none
 |o::l,s=>match ke o.op with
  |true=>match dw T ops n s bx o with
   |some s'=>qrun T ops n bx l s'
   |none=>none
  |false=>none
def drun(T:TT)(rb:RB)(ops:Array Oper)(n:Nat)(bx:Nat→Option Box):List Nat→(Nat→PV)→Option (List Nat×(Nat→PV))
 |[],s=>some ([],s)
 |k::l,s=>match(match ops[k]? with|some o=>ke o.op|none=>false)with
  |true=>match dstep T rb ops k n s bx with
   |some s'=>drun T rb ops n bx l s'
   |none=>some (k::l,s)
  |false=>some (k::l,s)
def drun1(T:TT)(rb:RB)(ops:Array Oper)(n:Nat)(bx:Nat→Option Box):List Nat→(Nat→PV)→Option (List Nat×(Nat→PV))
 |[],_=>none
 |k::l,s=>match(match ops[k]? with|some o=>ke o.op|none=>false)with
  |true=>match dstep T rb ops k n s bx with
   |some s'=>drun T rb ops n bx l s'
   |none=>none
  |false=>none
section
variable{P:Program}{Px:PV→Prop}{T:TT}{rb:RB}{ops:Array Oper}{n:Nat}{bx:Nat→Option Box}{ob:Nat→Option Obj}{K:PState→Prop}
theorem Ao.qr0(hT:T.Ok P){rest:List Oper}{s':Nat→PV}(h:Ao P Px ops rest ⟨n,s',bx,ob⟩ K):∀{l:List Oper} {s:Nat→PV},qrun T ops n bx l s=some (rest,s')→Ao P Px ops l ⟨n,s,bx,ob⟩ K:=by
 intro l;induction l with
 |nil=>intro s hq;simp only[qrun,zo,Prod.mk.injEq]at hq;obtain⟨rfl,rfl⟩:=hq;exact h
 |cons o l ih=>
  intro s hq;rw[qrun]at hq;split at hq
  ·split at hq
   ·exact aC hT (by assumption) (ih hq)
   ·cases hq;exact h
  ·cases hq;exact h
theorem Ao.qr{l rest:List Oper}{s s':Nat→PV}(hT:T.Ok P)(hq:qrun1 T ops n bx l s=some (rest,s'))(h:Ao P Px ops rest ⟨n,s',bx,ob⟩ K):Ao P Px ops l ⟨n,s,bx,ob⟩ K:=by
 cases l with
 |nil=>cases hq
 |cons o l=>
  rw[qrun1]at hq;split at hq
  ·split at hq
   ·exact aC hT (by assumption) (Ao.qr0 hT h hq)
   ·cases hq
  ·cases hq
theorem Do.qr0{rest:List Nat}{s':Nat→PV}(h:Do P Px T rb ops rest ⟨n,s',bx,ob⟩ K):∀{l:List Nat} {s:Nat→PV},drun T rb ops n bx l s=some (rest,s')→Do P Px T rb ops l ⟨n,s,bx,ob⟩ K:=by
 intro l;induction l with
 |nil=>intro s hq;simp only[drun,zo,Prod.mk.injEq]at hq;obtain⟨rfl,rfl⟩:=hq;exact h
 |cons o l ih=>
  intro s hq;rw[drun]at hq;split at hq
  ·split at hq
   ·exact cN (by assumption) (ih hq)
   ·cases hq;exact h
  ·cases hq;exact h
theorem Do.qr{l rest:List Nat}{s s':Nat→PV}(hq:drun1 T rb ops n bx l s=some (rest,s'))(h:Do P Px T rb ops rest ⟨n,s',bx,ob⟩ K):Do P Px T rb ops l ⟨n,s,bx,ob⟩ K:=by
 cases l with
 |nil=>cases hq
 |cons o l=>
  rw[drun1]at hq;split at hq
  ·split at hq
   ·exact cN (by assumption) (Do.qr0 h hq)
   ·cases hq
  ·cases hq
end
theorem go{p q:Prop}(k:q)(h:q→p:=by intro k;(repeat first|refine ak ?_|refine Ao.qr tk rfl ?_|refine af ?_|refine ae ?_|refine Do.qr rfl ?_|refine cQ ?_|refine cn ?_|refine dB rfl ?_|refine bc ?_|refine lz ?_ rfl|refine iZ tk rfl rfl rfl rfl rfl (zl _) rfl ?_|refine aw tk ?_|refine aC tk rfl ?_|refine ap tk ?_|refine kU rfl rfl rfl rfl rfl rfl (zl _) rfl ?_|refine cW ?_|refine cN rfl ?_);exact k):p:=h k
def isLoop:Code→Bool
 | .loop _=>true
 |_=>false
theorem lz{P:Program}{Px:PV→Prop}{fn:Func}{R:PV→Heap→Prop}{k:List KI}{st:PState}{id:Nat}{c:Code}(h:V P Px fn R (.code c:: .blk id::k) st)(_hn:isLoop c=false):V P Px fn R (.code (.block id c)::k) st:=bt h
theorem lvR{σ β:Type}{fl fb:Flow σ β}{kk:σ→Option β}{v r:β}{G:Prop}(H:some (Flow.ret v)=some fb)(hg:G)(Hp:fl.thenR kk=some r)(e:fb= .ret v→G→fl= .ret v:=by intro e g;subst e;exact g):v=r:=by
 have:=e (aF H).symm hg;subst this;exact eB Hp
theorem lvJ{σ β:Type}{fl:Flow σ β}{kk:σ→Option β}{v r:β}(H:some (Flow.ret v)=some fl)(Hp:fl.thenR kk=some r):v=r:=by
 cases aF H;exact eB Hp
theorem ple{P:Program}{ps qs:List PV}(h:cX P ps qs:=by(first|exact cX.r|(refine cX.of2 ?_;repeat(first|exact dC.nil|refine dC.cons ?_ ?_|exact gN.boxT|exact gN.of_eq rfl|exact gN.own rfl|exact gN.nil tk rfl|refine gN.agg ?_|refine gN.tup ?_)))):cX P ps qs:=h
theorem ple1{P:Program}{p q:PV}(h:PLe P p q:=by(first|exact PLe.q rfl|(refine PLe.of2 ?_;repeat(first|exact dC.nil|refine dC.cons ?_ ?_|exact gN.boxT|exact gN.of_eq rfl|exact gN.own rfl|exact gN.nil tk rfl|refine gN.agg ?_|refine gN.tup ?_)))):PLe P p q:=h
section
variable{P:Program}{Px:PV→Prop}{T:TT}{rb:RB}{ops:Array Oper}{o:Oper}{rest:List Oper}{kk:Nat}{L:List Nat}{n:Nat}{s:Nat→PV}{bx:Nat→Option Box}{ob:Nat→Option Obj}{K:PState→Prop}
theorem lg{fx:Operand}{av0:Array Operand}{ts:Array TypeId}{g:FuncId}{caps:List PV}(hcall:∀vs w,(callFunc g vs).run P w= .ok (.enter g vs) w)(mb mo:List (Nat×Nat)){args:List PV}{Hin:Heap}{R:PV→Heap→Prop}(hc:PH P g args Hin R)
  (h:∀u H',R u H'→∃s',putD n s o.dst u=some s'∧Ao P Px ops rest ⟨n,s',eg bx mb H'.bx,fv ob mo H'.ob⟩ K)
  (ho:o.op= .call {callee:= .value fx,args:=av0,argTypes:=ts}:=by exact rfl) (hg:aL ops s o=some true:=by exact rfl) (hf:evS s fx= .fn g caps:=by exact rfl) (hb1:aQ (mb.map Prod.fst)=true:=by exact rfl) (hb2:aQ (mb.map Prod.snd)=true:=by exact rfl) (ho1:aQ (mo.map Prod.fst)=true:=by exact rfl) (ho2:aQ (mo.map Prod.snd)=true:=by exact rfl)
  (hle:cX P (av0.toList.map (evS s)++caps) args:=by exact ple) (hin:Hin=⟨dP bx mb,eh ob mo⟩:=by((repeat rw[aN]);rw[aR];(repeat rw[jG]);rw[aS];rfl)):Ao P Px ops (o::rest) ⟨n,s,bx,ob⟩ K:=
 bf hg ho hf hcall mb mo hb1 hb2 ho1 ho2 hle hin hc h
end
section
variable{P:Program}{Px:PV→Prop}{fn:Func}{R:PV→Heap→Prop}{k:List KI}{n:Nat}{s:Nat→PV}{bx:Nat→Option Box}{ob:Nat→Option Obj}{T:TT}
end
section
variable{P:Program}{Px:PV→Prop}{C:Ctx}{M:Mem}{H:Heap}{w:World}
theorem InvH.ren{bx:Nat→Option Box}{ob ob':Nat→Option Obj}(h:InvH P C M ⟨bx,ob⟩ w)(σ:Nat→Nat)(hσ:∀t x,ob' t=some x→ob (σ t)=some x)
  (hi:∀t t' x x',ob' t=some x→ob' t'=some x'→σ t=σ t'→t=t'):InvH P C M ⟨bx,ob'⟩ w:=
 ⟨h.mem,h.ext,h.new,h.os,h.tape,h.output,h.size,h.frame,h.boxes,fun t x hx=>h.objs _ x (hσ t x hx),h.dbox,
  fun t t' x x' b hx hx' hb hb'=>hi t t' x x' hx hx' (h.dobj _ _ x x' b (hσ t x hx) (hσ t' x' hx') hb hb'),fun t t' x x' hx hx'=>h.dmix t _ x x' hx (hσ t' x' hx')⟩
end
section
variable{P:Program}{Px:PV→Prop}{C:Ctx}{M:Mem}{H:Heap}{w:World}
end
def iE(t:TypeId)(e:Int):PV:= .ifc t (.agg [.val (.int .i64 e)])
@[reducible] def RX {α:Type} (r:Except Int α) (K:α→PV→Heap→Prop) (u:PV) (H:Heap):Prop:=match r with
 | .ok v=>K v u H
 | .error _=>False
def PX{α:Type}(t:TypeId)(r:Except Int α)(u:PV):Prop:=match r with
 | .ok _=>False
 | .error e=>u=iE t e
def aT{α β:Type}(x:Option (Except Int α))(f:α→Option (Except Int β)):Option (Except Int β):=match x with
 |some (.ok a)=>f a
 |some (.error e)=>some (.error e)
 |none=>none
def ci{α σ β:Type}(x:Option (Except Int α))(f:α→Option (Flow σ (Except Int β))):Option (Flow σ (Except Int β)):=match x with
 |some (.ok a)=>f a
 |some (.error e)=>some (.ret (.error e))
 |none=>none
theorem aX{α β:Type}{x:Option (Except Int α)}{f:α→Option (Except Int β)}{r:Except Int β}(H:aT x f=some r):
  ∃y,x=some y∧(∀t u,PX t y u→PX t r u)∧(∀K u H',RX y K u H'→∃v,K v u H'∧f v=some r):=by
 rcases x with _|e|a
 ·cases H
 ·cases H;exact⟨_,rfl,fun t u h=>h,fun K u H' h=>h.elim⟩
 ·exact⟨_,rfl,fun t u h=>h.elim,fun K u H' h=>⟨a,h,H⟩⟩
theorem cV{α σ β:Type}{x:Option (Except Int α)}{f:α→Option (Flow σ (Except Int β))}{r:Flow σ (Except Int β)}(H:ci x f=some r):
  ∃y,x=some y∧(∀e,y= .error e→some (Flow.ret (σ:=σ) (Except.error (α:=β) e))=some r)∧(∀K u H',RX y K u H'→∃v,K v u H'∧f v=some r):=by
 rcases x with _|e|a
 ·cases H
 ·exact⟨_,rfl,fun e' h=>(by cases h;exact H),fun K u H' h=>h.elim⟩
 ·exact⟨_,rfl,fun e' h=>(by cases h),fun K u H' h=>⟨a,h,H⟩⟩
theorem pxF{α β:Type}{y:Except Int α}{r:Except Int β}(h:∀e,y= .error e→Except.error e=r):∀t u,PX t y u→PX t r u:=by
 intro t u hu;cases y with
 |ok v=>exact hu.elim
 |error e=>rw[←h e rfl];exact hu
section
variable{P:Program}{Px:PV→Prop}{C:Ctx}{M:Mem}{H:Heap}{w:World}
theorem eff_callX{X:PV→Prop}{o:Oper}{ev:Operand→PV}{fx:Operand}{av0:Array Operand}{ts:Array TypeId}(ho:o.op= .call {callee:= .value fx,args:=av0,argTypes:=ts}){g:FuncId}{caps:List PV}
  (hf:ev fx= .fn g caps) (hcall:∀vs w,(callFunc g vs).run P w= .ok (.enter g vs) w) (mb mo:List (Nat×Nat)) (hb1:aQ (mb.map Prod.fst)=true) (hb2:aQ (mb.map Prod.snd)=true) (ho1:aQ (mo.map Prod.fst)=true) (ho2:aQ (mo.map Prod.snd)=true)
  {args:List PV} (hle:cX P (av0.toList.map ev++caps) args) {R:PV→Heap→Prop} (hc:aP P g args ⟨dP H.bx mb,eh H.ob mo⟩ R X) (hX:∀u,X u→Px u)
  {K:PV→Heap→Prop} (hk:∀u H',R u H'→K u ⟨eg H.bx mb H'.bx,fv H.ob mo H'.ob⟩):Eff P Px o ev H K:=by
 intro C M a w next Q hi he hn
 have hfr:=he fx (by rw[ho];simp[Op.operands,Call.operands]);rw[hf]at hfr;simp only[Rep]at hfr
 obtain⟨cs,hv,hcaps⟩:=hfr
 have hargs:au P M true (av0.toList.map ev) (av0.map a.eval).toList:=by
  simpa using fK av0.toList fun x hx=>he x (by rw[ho];simp_all[Op.operands,Call.operands])
 have hrep:=hle M _ (hargs.append hcaps)
 have hrun:(execOp a.eval o).run P w= .ok (.enter g (av0.map a.eval++cs)) w:=by
  simp[execOp,ho,resolve,hv,Deferred.ofValue,invoke,hcall]
 unfold Oper.wp;rw[hrun];simp only[Oper.upon]
 refine(hc w M (dv H mb mo) (hi.gl hi.ownMine) _ (hi.enterH hb1 ho1) (by simpa using hrep)).mono ?_
 rintro e w' (⟨v,u,H',M',rfl,hR,hi',hr⟩|⟨ch,rfl,v,u,M',hch,hx,hi',hr⟩)
 ·exact hn v u _ M' w' (hk u H' hR) hi'.ext (hi.afterH hb1 hb2 ho1 ho2 hi') hr
 ·exact Q.pan ch a w' rfl ⟨v,u,M',hch,hX u hx,(hi.afterH hb1 hb2 ho1 ho2 hi').less (fun _ _ h=>by cases h) (fun _ _ h=>by cases h),hr⟩
end
section
variable{P:Program}{Px:PV→Prop}{T:TT}{rb:RB}{ops:Array Oper}{o:Oper}{rest:List Oper}{k:Nat}{L:List Nat}{n:Nat}{s s':Nat→PV}{bx:Nat→Option Box}{ob:Nat→Option Obj}{K:PState→Prop}
theorem aH{X:PV→Prop}{fx:Operand}{av0:Array Operand}{ts:Array TypeId}{g:FuncId}{caps:List PV}(hcall:∀vs w,(callFunc g vs).run P w= .ok (.enter g vs) w)(mb mo:List (Nat×Nat)){args:List PV}{Hin:Heap}{R:PV→Heap→Prop}(hc:aP P g args Hin R X)(hX:∀u,X u→Px u)
  (h:∀u H',R u H'→∃s',putD n s o.dst u=some s'∧Ao P Px ops rest ⟨n,s',eg bx mb H'.bx,fv ob mo H'.ob⟩ K)
  (ho:o.op= .call {callee:= .value fx,args:=av0,argTypes:=ts}:=by exact rfl) (hg:aL ops s o=some true:=by exact rfl) (hf:evS s fx= .fn g caps:=by exact rfl) (hb1:aQ (mb.map Prod.fst)=true:=by exact rfl) (hb2:aQ (mb.map Prod.snd)=true:=by exact rfl) (ho1:aQ (mo.map Prod.fst)=true:=by exact rfl) (ho2:aQ (mo.map Prod.snd)=true:=by exact rfl)
  (hle:cX P (av0.toList.map (evS s)++caps) args:=by exact ple) (hin:Hin=⟨dP bx mb,eh ob mo⟩:=by((repeat rw[aN]);rw[aR];(repeat rw[jG]);rw[aS];rfl)):Ao P Px ops (o::rest) ⟨n,s,bx,ob⟩ K:=
 em hg (eff_callX ho hf hcall mb mo hb1 hb2 ho1 ho2 hle (hin▸hc) hX h)
theorem eA{X:PV→Prop}{fx:Operand}{av0:Array Operand}{ts:Array TypeId}{g:FuncId}{caps:List PV}(hcall:∀vs w,(callFunc g vs).run P w= .ok (.enter g vs) w)(mb mo:List (Nat×Nat)){args:List PV}{Hin:Heap}{R:PV→Heap→Prop}(hc:aP P g args Hin R X)(hX:∀u,X u→Px u)
  (h:∀u H',R u H'→∃s',putD n s o.dst u=some s'∧Do P Px T rb ops L ⟨n,s',eg bx mb H'.bx,fv ob mo H'.ob⟩ K)
  (hop:ops[k]? =some o:=by exact rfl) (ho:o.op= .call {callee:= .value fx,args:=av0,argTypes:=ts}:=by exact rfl) (hg:aL ops s o=some true:=by exact rfl) (hf:evS s fx= .fn g caps:=by exact rfl) (hsx:rb.sx=true:=by exact rfl) (hna:kr rb ops=true:=by exact rfl) (hb1:aQ (mb.map Prod.fst)=true:=by exact rfl) (hb2:aQ (mb.map Prod.snd)=true:=by exact rfl) (ho1:aQ (mo.map Prod.fst)=true:=by exact rfl) (ho2:aQ (mo.map Prod.snd)=true:=by exact rfl)
  (hle:cX P (av0.toList.map (evS s)++caps) args:=by exact ple) (hin:Hin=⟨dP bx mb,eh ob mo⟩:=by((repeat rw[aN]);rw[aR];(repeat rw[jG]);rw[aS];rfl)) (hst:(mb.all fun p=>!rb.st p.1)=true:=by exact rfl):Do P Px T rb ops (k::L) ⟨n,s,bx,ob⟩ K:=by
 refine⟨o,hop,true,hg,?_⟩
 simp only[if_true,ho,bH];refine .inl ⟨hsx,hna,eff_callX ho hf hcall mb mo hb1 hb2 ho1 ho2 hle (hin▸hc) hX fun u H' hR=>⟨fun t ht=>?_,h u H' hR⟩⟩;show eg bx mb H'.bx t=bx t;unfold eg;split
 ·rename_i q hq;have h1:=List.all_eq_true.1 hst q (List.mem_of_find?_eq_some hq);have h2:=List.find?_some hq;rw[Nat.eq_of_beq_eq_true h2,ht]at h1;cases h1
 ·rfl
theorem lA{x:Operand}{t:TypeId}{p:PV}(hx:evS s x= .ifc t p)(hP:Px (.ifc t p))(ho:o.op= .panic x:=by exact rfl)(hg:aL ops s o=some true:=by exact rfl):Ao P Px ops (o::rest) ⟨n,s,bx,ob⟩ K:=by
 refine em hg (K:=K) ?_;intro C M a w next Q hi he hn
 have hr:=he x (by rw[ho];simp[Op.operands]);rw[hx]at hr;have hr':=hr;simp only[Rep]at hr
 obtain⟨v,hv,_⟩:=hr
 have hrun:(execOp a.eval o).run P w= .halt (.panic (.iface t v)) w:=by
  simp[execOp,ho,hv,Instr.panic]
 unfold Oper.wp;rw[hrun];rw[hv]at hr';exact Q.pan _ a w rfl ⟨_,_,M,rfl,hP,hi.less (fun _ _ h=>by cases h) (fun _ _ h=>by cases h),hr'⟩
end
section
variable{P:Program}{n:Nat}{s:Nat→PV}{bx:Nat→Option Box}{ob:Nat→Option Obj}
theorem Gh.mvO(t0 t1:Nat)(_h1:ob t1=none):Gh P ⟨n,s,bx,ob⟩ ⟨n,s,bx,upd (upd ob t0 none) t1 (ob t0)⟩:=by
 intro C M a w hi
 have key:∀t x,upd (upd ob t0 none) t1 (ob t0) t=some x→ob (if t=t1 then t0 else t)=some x∧(t≠t1→t≠t0):=by
  intro t x hx;rw[cK]at hx;split at hx
  ·rename_i e;rw[zp e];exact⟨hx,fun h=>absurd e h⟩
  ·rename_i e;rw[cK]at hx;split at hx
   ·cases hx
   ·rename_i e';rw[zy e];exact⟨hx,fun _=>e'⟩
 refine⟨M,hi.1,hi.2.ren (fun t=>if t=t1 then t0 else t) (fun t x hx=>(key t x hx).1) (fun t t' x x' hx hx' e=>?_)⟩
 have k1:=(key t x hx).2;have k2:=(key t' x' hx').2;by_cases e1:t=t1<;>by_cases e2:t'=t1
 ·rw[e1,e2]
 ·rw[zp e1,zy e2]at e;exact absurd e.symm (k2 e2)
 ·rw[zy e1,zp e2]at e;exact absurd e (k1 e1)
 ·rw[zy e1,zy e2]at e;exact e
theorem Gh.freezeOB(tag k:Nat){tg:Nat}{g:OwnRef}{len:Nat}{e:TypeId}{rows:List (List PV)}{wr:Bool}{b:Nat}{cells cells':List PV}(hb:bx tag=some ⟨b,cells⟩)(hk:cells[k]? =some (.own tg g len))(hob:ob tg=some ⟨g,e,rows,wr⟩)(hlen:len=rows.length)
  (hf:cI (cells.set k (.list e rows))=some cells') (hok:okS cells=true:=by exact rfl):Gh P ⟨n,s,bx,ob⟩ ⟨n,s,upd bx tag (some ⟨b,cells'⟩),upd ob tg (some ⟨g,e,rows,false⟩)⟩:=by
 rw[co,zo]at hf;subst hf;subst hlen;intro C M a w hi
 obtain⟨M',hle,hi',hr⟩:=hi.2.freezeO (tag:=tg) hob
 refine⟨M',hi.1.mono hle,hi'.recell (tag:=tag) hb (fun xs hx=>hx.set hk fun x hx=>?_) hok⟩
 simp only[Rep]at hx;rw[hx.2];exact hr
end
theorem Eff.objF{P:Program}{Px:PV→Prop}{o:Oper}{ev:Operand→PV}{H:Heap}{K:PV→Heap→Prop}(h:Eff P Px o ev H fun u H'=>(∀tag (x:Obj),H'.ob tag=some x→x.rows≠[]→∃b,x.g.blk=some b)→K u H'):Eff P Px o ev H K:=
 fun C M a w next Q hi he hn=>h C M a w next Q hi he fun v u H' M' w' hK hle hi' hr=>hn v u H' M' w' (hK fun tag x hx hne=>by
  obtain⟨_,_,_,_,h4⟩:=hi'.objs tag _ hx
  rcases h4 with⟨_,h5,_⟩|⟨b,_,h5,_⟩
  ·exact absurd h5 hne
  ·exact⟨b,h5⟩) hle hi' hr
section
variable{P:Program}{Px:PV→Prop}{ops:Array Oper}{rest:List Oper}{o:Oper}{n:Nat}{s s':Nat→PV}{bx:Nat→Option Box}{ob:Nat→Option Obj}{K:PState→Prop}{T:TT}{rb:RB}{k:Nat}{L:List Nat}
theorem jv(hT:T.Ok P)(ho:ops[k]? =some o)(hg:aL ops s o=some true){x y:Operand}{t:TypeId}(hop:o.op= .call {callee:= .builtin .append,args:=#[x,y],argTypes:=#[t,t]}){d:Nat}(hdst:o.dst=some d)(hlt:Nat.blt d n=true){ti ei:TInfo}{e:TypeId}(hti:T.get t=some ti)(hd:ti.desc= .slice e)(hei:T.get e=some ei)
  (hz:Nat.beq ei.zero.cells.size ei.size=true) (hsz:Nat.blt 0 ei.size=true) {tag:Nat} {g:OwnRef} {len:Nat} {rows rows2 rows2' rows':List (List PV)} {wr:Bool} (hx:evS s x= .own tag g len) (hob:ob tag=some ⟨g,e,rows,wr⟩) (hlen:len=rows.length) (hy:evS s y= .list e rows2)
  (hle:cS P rows2 rows2') (hby:(rows.length+rows2'.length)*ei.bytes≤2^47) (hmx:rows.length+rows2'.length≤maxLen) (heq:rows++rows2'=rows') (h:∀g',(rows'≠[]→∃b,g'.blk=some b)→Do P Px T rb ops L ⟨n,upd s d (.own tag g' rows'.length),bx,upd ob tag (some ⟨g',e,rows',wr⟩)⟩ K):Do P Px T rb ops (k::L) ⟨n,s,bx,ob⟩ K:=by
 refine⟨o,ho,true,hg,?_⟩
 simp only[if_true,hop,bH];exact .inr fun bx'=>Eff.objF (iN hT hop hti hd hei hz hsz hx hob hlen hy hle hby hmx heq fun g' hF=>⟨rfl,fun hx=>by simp[hZ]at hx,_,by simp[hdst,putD,hlt],h g' (hF tag _ (de _ _ _))⟩)
end
end
end Go.Ab

namespace Go.Proofs.YtibojibdiibdgaaGreatDoor
noncomputable section
open Go Go.Ab
attribute [local irreducible] V Ao Do Gh Eff PH IntKind.wrap
set_option maxRecDepth 4000
def bi(rA:LQueryparserParser):Option (LLexerToken×LQueryparserParser):=
 cond (decide (rA.next<(rA.tokens.length:Int)))
  (ar (bO rA.tokens rA.next) fun(x21:LLexerToken)=>
  some (x21,rA))
  (some ((LLexerToken.mk 0 [] 0 rA.size),rA))
theorem bX(b_rA:Nat)(rA:LQueryparserParser)(r:LLexerToken×LQueryparserParser)(H:bi rA=some r):
  PH Tryz.prog 84 [(.box 1500 b_rA 0)] ⟨upd (fun _=>none) 1500 (some ⟨b_rA,(aa rA)⟩),fun _=>none⟩ (fun u H=>u=(.agg (aJ r.1))∧H=⟨upd (fun _=>none) 1500 (some ⟨b_rA,(aa r.2)⟩),fun _=>none⟩):=by
 unfold bi at H;refine PH.cd Tryz.func84 Tryz.ntmps84 ?_;refine ak (ae ?_);refine aV tk fun b2=>?_
 refine af (ak (ak (dz tk mok ⟨true,false,[]⟩ [0,1,2,3,4,5,6,7,8,9] rfl (by decide+kernel) rfl (cm 3 rfl (cW ?_)))));refine cm 3 rfl (cW ?_);refine kU rfl rfl rfl rfl rfl rfl (zl _) rfl (cN rfl (cQ ?_));refine bj rfl H (fun H=>?_) (fun H=>?_)
 ·refine ak (dz tk mok ⟨true,false,[22]⟩ [0,1,2,3,4,5,6,7,8,9,10] rfl (by decide+kernel) rfl (cm 3 rfl (cW ?_)));refine cm 3 rfl (cW ?_)
  obtain⟨x21,k21,H⟩:=eH H
  refine Do.idx rfl rfl rfl rfl rfl rfl rfl k21.1 (jC (fun _=>rfl) k21.2) rfl ?_;refine cN rfl (eD rfl rfl rfl rfl rfl rfl rfl rfl rfl rfl rfl rfl (cQ ?_));obtain rfl:=aF H;refine be (st':=⟨28,upd (fun _=>.any) 2 (.box 2 b2 0),upd (upd (fun _=>none) 1500 (some ⟨b_rA,(aa rA)⟩)) 2 (some ⟨b2,(aJ x21)⟩),fun _=>none⟩) (Gh.le (bg aO) (ab rfl (cX.r) (ab rfl (cX.r) ao)) am) ?_;refine bS tk rfl (ps:=[(.agg (aJ x21))]) ⟨_,_,rfl,⟨_,_,_,_,_,rfl,rfl,rfl,rfl⟩,rfl⟩ (PLe.q rfl) (HSub.updB rfl) ⟨rfl,rfl⟩
 refine bc (ak (ae (aA 3 tk rfl (aw tk ?_))));refine aC tk rfl (ap tk ?_);refine af ?_;obtain rfl:=aF H;refine be (st':=⟨28,upd (fun _=>.any) 2 (.box 2 b2 0),upd (upd (fun _=>none) 1500 (some ⟨b_rA,(aa rA)⟩)) 2 (some ⟨b2,[(ac 0),(.str []),(ac 0),(ac rA.size)]⟩),fun _=>none⟩) (Gh.le (bg aO) (ab rfl (cX.r) (ab rfl (cX.r) ao)) am) ?_;refine bS tk rfl (ps:=[(.agg [(ac 0),(.str []),(ac 0),(ac rA.size)])]) ⟨_,_,rfl,⟨_,_,_,_,_,rfl,rfl,rfl,rfl⟩,rfl⟩ (PLe.q rfl) (HSub.updB rfl) ⟨rfl,rfl⟩
def br(sA:List UInt8)(l:List LExpr):LExpr:=
 (LExpr.mk 5 sA 0 (LVal.mk 0 0 []) l)
theorem cD(sA:List UInt8)(l:List LExpr):
  da Tryz.prog 171 [(.str sA),(.list 82 (l.map al))] (.agg (bM (br sA l))):=by
 obtain⟨r,H⟩:∃r,br sA l=r:=⟨_,rfl⟩
 rw[H];unfold br at H;refine PH.cd Tryz.func171 Tryz.ntmps171 ?_;refine ak (ae ?_);refine aV tk fun b4=>?_
 refine af (ak (ae (aA 3 tk rfl (ap tk ?_))));refine af ?_;exact kn tk H rfl rfl rfl rfl rfl
def ee(b:Bool):LVal:=
 cond b
  ((LVal.mk 2 1 []))
  ((LVal.mk 2 0 []))
theorem kG(b:Bool):
  da Tryz.prog 172 [(bG b)] (.agg (dT (ee b))):=by
 obtain⟨r,H⟩:∃r,ee b=r:=⟨_,rfl⟩
 rw[H];unfold ee at H;refine PH.cd Tryz.func172 Tryz.ntmps172 ?_;refine ak (ae ?_);refine aV tk fun b2=>?_
 refine af (ak (bE 1 tk rfl ?_));refine bj rfl H (fun H=>?_) (fun H=>?_)
 ·refine ak (ae (aC tk rfl (ap tk ?_)));refine af ?_;exact kn tk H rfl rfl rfl rfl rfl
 refine bc (ak (ae (aC tk rfl (ap tk ?_))));refine af ?_;exact kn tk H rfl rfl rfl rfl rfl
def dU(n:Int):LVal:=
 cond (decide (n<(-1000000000000)))
  ((LVal.mk 0 0 []))
  (cond (decide (n>(1000000000000:Int)))
   ((LVal.mk 0 0 []))
   ((LVal.mk 1 n [])))
theorem jE(n:Int):
  da Tryz.prog 173 [(ac n)] (.agg (dT (dU n))):=by
 obtain⟨r,H⟩:∃r,dU n=r:=⟨_,rfl⟩
 rw[H];unfold dU at H;refine PH.cd Tryz.func173 Tryz.ntmps173 ?_;refine ak (ae ?_);refine aV tk fun b2=>?_
 refine af (ak (ak (ae (aA 3 tk rfl ?_))));refine dy rfl rfl rfl H (fun H=>?_) (fun H=>?_)
 ·refine aA 3 tk rfl (af (lm rfl (ak (ae (aC tk rfl (ap tk ?_))))));refine af ?_;exact kn tk H rfl rfl rfl rfl rfl
 refine aA 3 tk rfl (af ?_);refine bj rfl H (fun H=>?_) (fun H=>?_)
 ·refine ak (ae (aC tk rfl (ap tk ?_)));refine af ?_;exact kn tk H rfl rfl rfl rfl rfl
 refine bc (ak (ae (aA 2 tk rfl (ap tk ?_))));refine af ?_;exact kn tk H rfl rfl rfl rfl rfl
def dp(c:UInt8):Bool:=
 cond (decide ((c.toNat:Int)≥(97:Int)))
  (cond (decide ((c.toNat:Int)≤(122:Int)))
   (true)
   (cond (decide ((c.toNat:Int)≥(48:Int)))
    ((decide ((c.toNat:Int)≤(57:Int))))
    (false)))
  (cond (decide ((c.toNat:Int)≥(48:Int)))
   ((decide ((c.toNat:Int)≤(57:Int))))
   (false))
theorem gQ(c:UInt8):
  da Tryz.prog 57 [(.val (.int .u8 (c.toNat:Int)))] (bG (dp c)):=by
 obtain⟨r,H⟩:∃r,dp c=r:=⟨_,rfl⟩
 rw[H];unfold dp at H;refine PH.cd Tryz.func57 Tryz.ntmps57 ?_;refine bE 1 tk rfl (ak (ae (aA 3 tk rfl ?_)));refine dy rfl rfl rfl H (fun H=>?_) (fun H=>?_)
 ·refine aA 4 tk rfl ?_;refine dy rfl rfl rfl H (fun H=>?_) (fun H=>?_)
  ·refine aA 8 tk rfl (af ?_);exact jq tk H rfl
  refine aA 3 tk rfl ?_;refine dy rfl rfl rfl H (fun H=>?_) (fun H=>?_)
  ·refine aA 5 tk rfl (af ?_);exact jq tk H rfl
  refine aA 5 tk rfl (af ?_);exact jq tk H rfl
 refine aA 7 tk rfl ?_;refine dy rfl rfl rfl H (fun H=>?_) (fun H=>?_)
 ·refine aA 5 tk rfl (af ?_);exact jq tk H rfl
 refine aA 5 tk rfl (af ?_);exact jq tk H rfl
def eC:(List (List UInt8)):=
 [[97,103,103,114,101,103,97,116,101],[97,110,100],[97,115],[98,121],[100,101,115,99],[101,108,115,101],[101,120,99,101,112,116],[102,97,108,115,101],[103,114,111,117,112],[105,102],[105,115],[106,111,105,110],[108,101,102,116],[108,101,110,103,116,104],[108,105,109,105,116],[110,111,116],[110,117,108,108],[111,102,102,115,101,116],[111,110],[111,114],[112,114,111,106,101,99,116],[115,99,97,110],[115,111,114,116],[116,104,101,110],[116,114,117,101],[117,110,105,111,110],[119,104,101,114,101]]
theorem kK:
  da Tryz.prog 59 [] (.list 9 ((eC).map aB)):=by
 obtain⟨r,H⟩:∃r,eC=r:=⟨_,rfl⟩
 rw[H];unfold eC at H;refine PH.cd Tryz.func59 Tryz.ntmps59 ?_;refine bE 1 tk rfl (ak (ae (kT (e:=9) (rows:=[[(.str [97,103,103,114,101,103,97,116,101])],[(.str [97,110,100])],[(.str [97,115])],[(.str [98,121])],[(.str [100,101,115,99])],[(.str [101,108,115,101])],[(.str [101,120,99,101,112,116])],[(.str [102,97,108,115,101])],[(.str [103,114,111,117,112])],[(.str [105,102])],[(.str [105,115])],[(.str [106,111,105,110])],[(.str [108,101,102,116])],[(.str [108,101,110,103,116,104])],[(.str [108,105,109,105,116])],[(.str [110,111,116])],[(.str [110,117,108,108])],[(.str [111,102,102,115,101,116])],[(.str [111,110])],[(.str [111,114])],[(.str [112,114,111,106,101,99,116])],[(.str [115,99,97,110])],[(.str [115,111,114,116])],[(.str [116,104,101,110])],[(.str [116,114,117,101])],[(.str [117,110,105,111,110])],[(.str [119,104,101,114,101])]]) tk rfl rfl rfl rfl (rows':=List.map aB ([[97,103,103,114,101,103,97,116,101],[97,110,100],[97,115],[98,121],[100,101,115,99],[101,108,115,101],[101,120,99,101,112,116],[102,97,108,115,101],[103,114,111,117,112],[105,102],[105,115],[106,111,105,110],[108,101,102,116],[108,101,110,103,116,104],[108,105,109,105,116],[110,111,116],[110,117,108,108],[111,102,102,115,101,116],[111,110],[111,114],[112,114,111,106,101,99,116],[115,99,97,110],[115,111,114,116],[116,104,101,110],[116,114,117,101],[117,110,105,111,110],[119,104,101,114,101]]:List (List UInt8))) (by kernel_rfl) (cS.refl _) rfl rfl (aC tk rfl (af ?_)))));exact jq tk H rfl
def ca(sA:List (List UInt8))(v:List UInt8):Option (Int):=
 ar (bJ (σ:=Unit) (ρ:=(Int)) (fun(j1:Nat) (x1:List UInt8) (_:Unit)=>
  cond (v==x1)
   (some (.ret (j1:Int)))
   (some (.next ()))) 0 sA ()) fun fl1=>fl1.thenR fun(_:Unit)=>
 some (-1)
theorem fV(sA:List (List UInt8))(v:List UInt8)(r:Int)(H:ca sA v=some r):
  da Tryz.prog 94 [(.list 9 (sA.map aB)),(.str v)] (ac r):=by
 unfold ca at H;refine PH.cd Tryz.func94 Tryz.ntmps94 ?_;refine bE 1 tk rfl (ak (ak (ae (aC tk rfl (iZ tk rfl rfl rfl rfl rfl (zl _) rfl (aC tk rfl (af ?_)))))));refine V.lpR tk 8 7 0 (fun s1 g1=>upd (fun _=>.any) 1 (.str v)) nB nO () H (fun fl1 Hp1 j1 s1 g1 hz1 hl1 x1 fb1 hx1 H hg1=>?_) (fun s1 g1 H=>?_)
 ·refine ak (bt (bE 2 tk rfl (ak (ae (aA 3 tk rfl ?_)))));refine kQ tk rfl rfl rfl rfl rfl rfl (zn j1) (rowsGet (fun _=>rfl) hx1) rfl ?_;refine aA 2 tk rfl (af ?_);refine bj rfl H (fun H=>?_) (fun H=>?_)
  ·refine bE 2 tk rfl ?_;obtain rfl:=aF H;have e1:fl1= .ret _:=hg1;subst e1;obtain rfl:=eB Hp1;refine cB tk rfl (ps:=[(ac (j1:Int))]) ⟨_,_,rfl,rfl,rfl⟩ (PLe.q rfl)
  refine bc (cn (gT 2 tk rfl ?_));exact lb () H hl1 hg1
 refine bE 1 tk rfl ?_;exact im tk H rfl
theorem fF(xs:List (List UInt8))(v:(List UInt8)):ca xs v=some (idxOf (fun x1=>(v==x1)) xs):=by
 unfold ca;rw[kD (fun x1=>(v==x1)) (fun j _=>(j:Int)) xs 0 (fun k x hk=>by cases(v==x)<;>simp)];simp only[idxOf,Nat.zero_add];cases h:xs.findIdx? (fun x1=>(v==x1))with
 |none=>rfl
 |some i=>
  obtain⟨hi,_⟩:=List.findIdx?_eq_some_iff_getElem.1 h
  simp[hi]
def cA(c:UInt8):Bool:=
 cond (decide ((c.toNat:Int)≥(48:Int)))
  ((decide ((c.toNat:Int)≤(57:Int))))
  (false)
theorem gS(c:UInt8):
  da Tryz.prog 60 [(.val (.int .u8 (c.toNat:Int)))] (bG (cA c)):=by
 obtain⟨r,H⟩:∃r,cA c=r:=⟨_,rfl⟩
 rw[H];unfold cA at H;refine PH.cd Tryz.func60 Tryz.ntmps60 ?_;refine bE 1 tk rfl (ak (ae (aA 3 tk rfl ?_)));refine dy rfl rfl rfl H (fun H=>?_) (fun H=>?_)
 ·refine aA 4 tk rfl (af ?_);exact jq tk H rfl
 refine aA 4 tk rfl (af ?_);exact jq tk H rfl
def eu(sA:List UInt8):Option (LLexerToken×Int×Bool):=
 ar (cR (σ:=List UInt8×Int) (ρ:=(LLexerToken×Int×Bool)) (fun(s1:List UInt8×Int)=>
  cond (decide (s1.2<(sA.length:Int)))
   (ar (bO sA s1.2) fun(x23:UInt8)=>
   cond ((x23.toNat:Int) !=(39:Int))
    (ar (dJ sA s1.2 (IntKind.i64.wrap (s1.2+(1:Int)))) fun(x30:List UInt8)=>
    ar (catS s1.1 x30) fun(x31:List UInt8)=>
    some (.next (x31,(IntKind.i64.wrap (s1.2+(1:Int))))))
    (ar (
     cond (decide ((IntKind.i64.wrap (s1.2+(1:Int)))<(sA.length:Int)))
      (ar (bO sA (IntKind.i64.wrap (s1.2+(1:Int)))) fun(x42:UInt8)=>
      some ((x42.toNat:Int)==(39:Int)))
      (some false)) fun(t4:Bool)=>
    cond t4
     (ar (catS s1.1 ([39]:List UInt8)) fun(x46:List UInt8)=>
     some (.next (x46,(IntKind.i64.wrap ((IntKind.i64.wrap (s1.2+(1:Int)))+(1:Int))))))
     (some (.ret ((LLexerToken.mk 4 s1.1 0 0),(IntKind.i64.wrap (s1.2+(1:Int))),(decide ((s1.1.length:Int)≤(24:Int))))))))
   (some (.brk (s1.1,s1.2)))) ([],1)) fun fl1=>fl1.thenR fun(_s1:List UInt8×Int)=>
 some ((LLexerToken.mk 0 [] 0 0),0,false)
theorem W_lexer_quoted(sA:List UInt8)(r:LLexerToken×Int×Bool)(H:eu sA=some r):
  da Tryz.prog 63 [(.str sA)] (.tup [(.agg (aJ r.1)),(ac r.2.1),(bG r.2.2)]):=by
 unfold eu at H;refine PH.cd Tryz.func63 Tryz.ntmps63 ?_;refine ak (ae ?_);refine aV tk fun b2=>?_
 refine aA 2 tk rfl (af (bE 1 tk rfl (ak (bE 1 tk rfl ?_))))
 obtain⟨fl1,H1,Hp1⟩:=aM H
 refine ef (τ:=List UInt8×Int) (γ:=Unit) (fun s1 g1=>⟨50,upd (fun _=>.any) 2 (.box 2 b2 0),upd (fun _=>none) 2 (some ⟨b2,[(ac 0),(.str []),(ac 0),(ac 0)]⟩),fun _=>none⟩) (fun t=>fl1= .next t) ?_ (fun s1 g1 hn1=>?_)
 ·refine bt ?_;refine eF (fun s1 g1=>⟨50,upd (upd (upd (upd (fun _=>.any) 6 (ac s1.2)) 5 (.str s1.1)) 2 (.box 2 b2 0)) 0 (.str sA),upd (fun _=>none) 2 (some ⟨b2,[(ac 0),(.str []),(ac 0),(ac 0)]⟩),fun _=>none⟩) () H1 Gh.d (fun m1 s1 g1 hr1=>?_)
  obtain⟨fb1,H,hg1⟩:=dI hr1
  refine ak (bE 4 tk rfl ?_);refine bj rfl H (fun H=>?_) (fun H=>?_)
  ·refine bc (ak (bt (bt (ak (ae (aA 2 tk rfl ?_))))))
   obtain⟨x23,k23,H⟩:=eH H
   refine dZ tk k23.1 k23.2 ?_;refine aA 2 tk rfl (af ?_);refine bj rfl H (fun H=>?_) (fun H=>?_)
   ·refine ae (aA 5 tk rfl ?_)
    obtain⟨x30,h30,H⟩:=aM H
    have k30:=dV h30;refine ig tk rfl rfl rfl rfl rfl rfl rfl k30.1 k30.2 rfl ?_
    obtain⟨x31,h31,H⟩:=aM H
    have k31:=catS_some h31;refine lk tk rfl rfl rfl rfl k31.1 k31.2 rfl (aC tk rfl (af (cn (cn (gT 3 tk rfl ?_)))));obtain rfl:=aF H;refine dE (x31,(IntKind.i64.wrap (s1.2+(1:Int)))) () hg1 Gh.d
   refine ak ?_;refine ld (γ:=Unit) (fun t4 g4=>⟨50,upd (upd (upd (upd (upd (fun _=>.any) 32 (bG t4)) 6 (ac s1.2)) 5 (.str s1.1)) 2 (.box 2 b2 0)) 0 (.str sA),upd (fun _=>none) 2 (some ⟨b2,[(ac 0),(.str []),(ac 0),(ac 0)]⟩),fun _=>none⟩) H (fun _ H=>?_) (fun t4 g4 H=>?_)
   ·refine ae (aA 6 tk rfl ?_);refine dy rfl rfl rfl H (fun H=>?_) (fun H=>?_)
    ·refine aA 3 tk rfl ?_
     obtain⟨x42,k42,H⟩:=eH H
     refine dZ tk k42.1 k42.2 ?_;refine aA 3 tk rfl (af ?_);refine cb _ () (aF H) Gh.d
    refine aA 7 tk rfl (af ?_);refine cb _ () (aF H) Gh.d
   refine bj rfl H (fun H=>?_) (fun H=>?_)
   ·refine ak (ae (aC tk rfl ?_))
    obtain⟨x46,h46,H⟩:=aM H
    have k46:=catS_some h46;refine lk tk rfl rfl rfl rfl k46.1 k46.2 rfl (aC tk rfl (af (gT 3 tk rfl (cn (cn (gT 3 tk rfl ?_))))));obtain rfl:=aF H;refine dE (x46,(IntKind.i64.wrap ((IntKind.i64.wrap (s1.2+(1:Int)))+(1:Int)))) () hg1 Gh.d
   refine ak (ae (aA 7 tk rfl (ap tk ?_)));refine aA 2 tk rfl (af ?_);obtain rfl:=aF H;have e1:fl1= .ret _:=hg1;subst e1;obtain rfl:=eB Hp1;refine cB tk rfl (ps:=[(.agg [(ac 4),(.str s1.1),(ac 0),(ac 0)]),(ac (IntKind.i64.wrap (s1.2+(1:Int)))),(bG (decide ((s1.1.length:Int)≤(24:Int))))]) ⟨_,_,rfl,⟨_,_,_,_,_,rfl,rfl,rfl,rfl⟩,_,_,rfl,rfl,_,_,rfl,rfl,rfl⟩ (PLe.q rfl)
  refine dB rfl ?_;obtain rfl:=aF H;refine cb (s1.1,s1.2) () hg1 Gh.d
 have H:=du hn1 Hp1;refine ak (ae (aC tk rfl (ap tk ?_)));refine aA 2 tk rfl (af ?_);obtain rfl:=aF H;refine cB tk rfl (ps:=[(.agg [(ac 0),(.str []),(ac 0),(ac 0)]),(ac 0),(bG false)]) ⟨_,_,rfl,⟨_,_,_,_,_,rfl,rfl,rfl,rfl⟩,_,_,rfl,rfl,_,_,rfl,rfl,rfl⟩ (PLe.q rfl)
end
end Go.Proofs.YtibojibdiibdgaaGreatDoor

namespace Go.Proofs.YtibojibdiibdgaaGreatDoor
noncomputable section
open Go Go.Ab
def hit(s:List UInt8)(x:Tok):Bool:=cond (x.kind==2) (x.text==s) (cond (x.kind==5) (x.text==s) false)
section
variable{α:Type}
def kw(s:List UInt8)(y n:PT α):PT α:= .acc (hit s) (fun _=>y) n
def ex(s:List UInt8)(y:PT α):PT α:=kw s y .fl
def idt(y:List UInt8→PT α):PT α:= .acc (fun x=>x.kind==1) (fun x=>y x.text) .fl
def num(y:Int→PT α):PT α:= .acc (fun x=>x.kind==3) (fun x=>y x.number) .fl
def num1(y:Int→PT α):PT α:= .acc (fun x=>x.kind==3&& !(x.number==0)) (fun x=>y x.number) .fl
end
def litT:PT LVal:=
 kw [110,117,108,108] (.rt ⟨0,0,[]⟩) (kw [116,114,117,101] (.rt (ee true)) (kw [102,97,108,115,101] (.rt (ee false)) (kw [45] (num1 fun n=>.rt (dU (IntKind.i64.wrap (0-n))))
  (.acc (fun x=>x.kind==4) (fun x=>.rt ⟨3,0,x.text⟩) (num fun n=>.rt (dU n))))))
def pkind(s:List UInt8):Int:=match idx1 [63,105,98,116] s with|some k=>k|none=>0
def exprB(B:PT LExpr):PT LExpr:=
 .acc (fun x=>x.kind==1) (fun x=>.rt (LExpr.mk 2 x.text 0 (LVal.mk 0 0 []) [])) (.acc (fun x=>x.kind==6) (fun x=>.rt (LExpr.mk 3 [] x.number (LVal.mk (pkind x.text) 0 []) []))
  (kw [36] (idt fun s=>.rt (LExpr.mk 4 s 0 (LVal.mk 0 0 []) [])) (kw [40] B (litT.bd fun v=>.rt (LExpr.mk 1 [] 0 v [])))))
def opE(s:List UInt8)(l:List LExpr):LExpr:=LExpr.mk 5 s 0 (LVal.mk 0 0 []) l
def unB(E:PT LExpr)(s:List UInt8)(n:PT LExpr):PT LExpr:=kw s (E.bd fun e=>ex [41] (.rt (opE s [e]))) n
def binB(E:PT LExpr)(a:LExpr)(s:List UInt8)(n:PT LExpr):PT LExpr:=kw s (E.bd fun b=>ex [41] (.rt (opE s [a,b]))) n
def bins:List (List UInt8):=[[43],[45],[42],[61],[60,61],[60],[97,110,100],[111,114],[124,124]]
def gg(E:PT LExpr):PT LExpr:=
 unB E [110,111,116] (unB E [108,101,110,103,116,104] (kw [105,102] (E.bd fun a=>ex [116,104,101,110] (E.bd fun b=>ex [101,108,115,101] (E.bd fun c=>ex [41] (.rt (opE [105,102] [a,b,c])))))
  (E.bd fun a=>kw [105,115] (ex [110,117,108,108] (ex [41] (.rt (opE [105,115,32,110,117,108,108] [a])))) (bins.foldr (binB E a) .fl))))
mutual
def eT:Nat→PT LExpr
 |0=>.out
 |m+1=>exprB (bT m)
def bT:Nat→PT LExpr
 |0=>.out
 |m+1=>gg (eT m)
end
def dS(one:LQuery→PT LQuery):Nat→LQuery→PT LQuery
 |0,_=>.out
 |n+1,q=>kw [44] ((one q).bd (dS one n)) (.rt q)
def lst(one:LQuery→PT LQuery)(n:Nat)(q:LQuery):PT LQuery:=(one q).bd (dS one n)
def eS(E:PT LExpr)(q:LQuery):PT LQuery:=
 E.bd fun e=>ex [97,115] (idt fun s=>.rt (LQuery.mk q.kind q.table (q.names++[s]) (q.exprs++[e]) q.aggregates q.descending q.count q.offset q.inputs))
def aggB(E:PT LExpr)(q:LQuery):PT LQuery:=
 idt fun f=>ex [40] (PT.bd (kw [41] (.rt []) (E.bd fun e=>ex [41] (.rt [e]))) fun l=>ex [97,115] (idt fun s=>.rt (LQuery.mk q.kind q.table q.names q.exprs (q.aggregates++[LAggregateCall.mk s f l]) q.descending q.count q.offset q.inputs)))
def sortB(E:PT LExpr)(q:LQuery):PT LQuery:=
 E.bd fun e=>PT.bd (kw [100,101,115,99] (.rt true) (.rt false)) fun d=>.rt (LQuery.mk q.kind q.table q.names (q.exprs++[e]) q.aggregates (q.descending++[d]) q.count q.offset q.inputs)
def groupB(E:PT LExpr)(n:Nat)(q:LQuery):PT LQuery:=
 kw [98,121] ((lst (eS E) n q).bd fun q=>kw [97,103,103,114,101,103,97,116,101] (lst (aggB E) n q) (.rt q)) (kw [97,103,103,114,101,103,97,116,101] (lst (aggB E) n q) .fl)
abbrev qmk(k:Int)(q:LQuery):LQuery:=LQuery.mk k [] [] [] [] [] 0 0 [q]
def iU(E:PT LExpr)(n:Nat)(S2:LQuery→PT LQuery)(I:PT LQuery)(q:LQuery):PT LQuery:=
 kw [119,104,101,114,101] (E.bd fun e=>.rt (LQuery.mk 2 [] [] [e] [] [] 0 0 [q])) (kw [112,114,111,106,101,99,116] (lst (eS E) n (qmk 3 q)) (kw [106,111,105,110] (S2 (qmk 4 q)) (kw [108,101,102,116] (ex [106,111,105,110] (S2 (qmk 5 q)))
  (kw [117,110,105,111,110] (I.bd fun r=>.rt (LQuery.mk 6 [] [] [] [] [] 0 0 [q,r])) (kw [101,120,99,101,112,116] (I.bd fun r=>.rt (LQuery.mk 7 [] [] [] [] [] 0 0 [q,r])) (kw [103,114,111,117,112] (groupB E n (qmk 8 q))
   (kw [115,111,114,116] (lst (sortB E) n (qmk 9 q)) (kw [108,105,109,105,116] (num fun c=>kw [111,102,102,115,101,116] (num1 fun o=>.rt (LQuery.mk 10 [] [] [] [] [] c o [q])) (.rt (LQuery.mk 10 [] [] [] [] [] c 0 [q]))) .fl))))))))
def jc(E:PT LExpr)(I:PT LQuery)(q:LQuery):PT LQuery:=
 I.bd fun r=>ex [111,110] (E.bd fun e=>.rt (LQuery.mk q.kind q.table q.names [e] q.aggregates q.descending q.count q.offset (q.inputs++[r])))
def innerB(Q:PT LQuery):PT LQuery:=ex [40] (Q.bd fun q=>ex [41] (.rt q))
def el(S:LQuery→PT LQuery):Nat→LQuery→PT LQuery
 |0,_=>.out
 |n+1,q=>kw [124] ((S q).bd (el S n)) (.rt q)
def queryB(Q:PT LQuery)(S:LQuery→PT LQuery)(n:Nat):PT LQuery:=
 PT.bd (kw [40] (Q.bd fun q=>ex [41] (.rt q)) (ex [115,99,97,110] (idt fun s=>.rt (LQuery.mk 1 s [] [] [] [] 0 0 [])))) (el S n)
def dQ:Nat:=20000
def eM:PT LExpr:=eT dQ
mutual
def qT:Nat→PT LQuery
 |0=>.out
 |m+1=>queryB (qT m) (fun q=>sT m q) dQ
def sT:Nat→LQuery→PT LQuery
 |0,_=>.out
 |m+1,q=>iU eM dQ (fun q=>s2T m q) (iT m) q
def s2T:Nat→LQuery→PT LQuery
 |0,_=>.out
 |m+1,q=>jc eM (iT m) q
def iT:Nat→PT LQuery
 |0=>.out
 |m+1=>innerB (qT m)
end
def qM:PT LQuery:=qT dQ
open PT
section
variable{α:Type}{N:Nat}
theorem St.kw{s:List UInt8}{y y' n n':PT α}(hy:0<N→St (N-1) y y')(hn:St N n n'):St N (kw s y n) (kw s y' n'):=St.acc (fun _ _ h=>hy h) hn
theorem St.ex{s:List UInt8}{y y':PT α}(hy:0<N→St (N-1) y y'):St N (ex s y) (ex s y'):=St.kw hy St.fl
theorem St.idt{y y':List UInt8→PT α}(hy:∀s,0<N→St (N-1) (y s) (y' s)):St N (idt y) (idt y'):=St.acc (fun _ _ h=>hy _ h) St.fl
theorem St.num{y y':Int→PT α}(hy:∀s,0<N→St (N-1) (y s) (y' s)):St N (num y) (num y'):=St.acc (fun _ _ h=>hy _ h) St.fl
theorem St.num1{y y':Int→PT α}(hy:∀s,0<N→St (N-1) (y s) (y' s)):St N (num1 y) (num1 y'):=St.acc (fun _ _ h=>hy _ h) St.fl
end
theorem litT_st{N:Nat}:St N litT litT:=by
 unfold litT;exact St.kw (fun _=>St.rt _) (St.kw (fun _=>St.rt _) (St.kw (fun _=>St.rt _) (St.kw (fun _=>St.num1 fun _ _=>St.rt _) (St.acc (fun _ _ _=>St.rt _) (St.num fun _ _=>St.rt _)))))
theorem exprB_st{N:Nat}{B B':PT LExpr}(h:0<N→St (N-1) B B'):St N (exprB B) (exprB B'):=by
 unfold exprB;exact St.acc (fun _ _ _=>St.rt _) (St.acc (fun _ _ _=>St.rt _) (St.kw (fun _=>St.idt fun _ _=>St.rt _) (St.kw h (St.bd litT_st fun _=>St.rt _))))
theorem binB_st{N:Nat}{E E':PT LExpr}(h:St N E E')(a:LExpr):∀l:List (List UInt8),St N (l.foldr (binB E a) .fl) (l.foldr (binB E' a) .fl)
 |[]=>St.fl
 |s::l=>St.kw (fun _=>St.bd (h.mono (by omega)) fun _=>St.ex fun _=>St.rt _) (binB_st h a l)
theorem bracketB_st{N:Nat}{E E':PT LExpr}(h:St N E E'):St N (gg E) (gg E'):=by
 have k:∀{M},M≤N→St M E E':=fun hm=>h.mono hm
 unfold gg
 refine St.kw (fun _=>St.bd (k (by omega)) fun _=>St.ex fun _=>St.rt _) (St.kw (fun _=>St.bd (k (by omega)) fun _=>St.ex fun _=>St.rt _) (St.kw (fun _=>St.bd (k (by omega)) fun _=>St.ex fun _=>St.bd (k (by omega)) fun _=>St.ex fun _=>St.bd (k (by omega)) fun _=>St.ex fun _=>St.rt _)
  (St.bd h fun a=>St.kw (fun _=>St.ex fun _=>St.ex fun _=>St.rt _) (binB_st h a _))))
theorem eb_st:∀N:Nat,(∀m m',2*N+2≤m→2*N+2≤m'→St N (eT m) (eT m'))∧∀m m',2*N+3≤m→2*N+3≤m'→St N (bT m) (bT m'):=by
 intro N;induction N using Nat.strongRecOn with
 |_ N ih=>
  have he:∀m m',2*N+2≤m→2*N+2≤m'→St N (eT m) (eT m'):=by
   intro m m' h h'
   obtain⟨k,rfl⟩:∃k,m=k+1:=⟨m-1,by omega⟩
   obtain⟨k',rfl⟩:∃k,m'=k+1:=⟨m'-1,by omega⟩
   rw[eT,eT];exact exprB_st fun h0=>(ih (N-1) (by omega)).2 k k' (by omega) (by omega)
  refine⟨he,fun m m' h h'=>?_⟩
  obtain⟨k,rfl⟩:∃k,m=k+1:=⟨m-1,by omega⟩
  obtain⟨k',rfl⟩:∃k,m'=k+1:=⟨m'-1,by omega⟩
  rw[bT,bT];exact bracketB_st (he k k' (by omega) (by omega))
theorem eM_st{N:Nat}(h:N≤4000):St N eM eM:=(eb_st N).1 _ _ (by unfold dQ;omega) (by unfold dQ;omega)
theorem eM_st2{N m:Nat}(h:N≤4000)(hm:dQ≤m):St N eM (eT m):=(eb_st N).1 _ _ (by unfold dQ;omega) (by unfold dQ at hm;omega)
theorem commas_st{one one':LQuery→PT LQuery}{K:Nat}(h:∀q N,N≤K→St N (one q) (one' q)):∀N n n' q,N≤K→N<n→N<n'→St N (dS one n q) (dS one' n' q)
 |N,0,_,_,_,hn,_=>by omega
 |N,_,0,_,_,_,hn=>by omega
 |N,n+1,n'+1,q,hk,hn,hn'=>by
  rw[dS,dS];exact St.kw (fun h0=>St.bd (h q _ (by omega)) fun q=>commas_st h (N-1) n n' q (by omega) (by omega) (by omega)) (St.rt _)
theorem lst_st{one one':LQuery→PT LQuery}{N n n':Nat}(h:∀q M,M≤N→St M (one q) (one' q))(q:LQuery)(hn:N<n)(hn':N<n'):St N (lst one n q) (lst one' n' q):=
 St.bd (h q N (Nat.le_refl _)) fun q=>commas_st h N n n' q (Nat.le_refl _) hn hn'
theorem namedB_st{E E':PT LExpr}{N:Nat}(h:St N E E')(q:LQuery):St N (eS E q) (eS E' q):=St.bd h fun _=>St.ex fun _=>St.idt fun _ _=>St.rt _
theorem aggB_st{E E':PT LExpr}{N:Nat}(h:St N E E')(q:LQuery):St N (aggB E q) (aggB E' q):=
 St.idt fun _ _=>St.ex fun _=>St.bd (St.kw (fun _=>St.rt _) (St.bd (h.mono (by omega)) fun _=>St.ex fun _=>St.rt _)) fun _=>St.ex fun _=>St.idt fun _ _=>St.rt _
theorem sortB_st{E E':PT LExpr}{N:Nat}(h:St N E E')(q:LQuery):St N (sortB E q) (sortB E' q):=St.bd h fun _=>St.bd (St.kw (fun _=>St.rt _) (St.rt _)) fun _=>St.rt _
theorem groupB_st{E E':PT LExpr}{N n n':Nat}(h:St N E E')(q:LQuery)(hn:N<n)(hn':N<n'):St N (groupB E n q) (groupB E' n' q):=by
 have ha:∀q M,M≤N→St M (aggB E q) (aggB E' q):=fun q M hM=>aggB_st (h.mono hM) q
 have hm:∀q M,M≤N→St M (eS E q) (eS E' q):=fun q M hM=>namedB_st (h.mono hM) q
 exact St.kw (fun _=>St.bd (lst_st (fun q M hM=>hm q M (by omega)) q (by omega) (by omega)) fun q=>St.kw (fun _=>lst_st (fun q M hM=>ha q M (by omega)) q (by omega) (by omega)) (St.rt _)) (St.kw (fun _=>lst_st (fun q M hM=>ha q M (by omega)) q (by omega) (by omega)) St.fl)
theorem stageB_st{E E':PT LExpr}{N n n':Nat}{S2 S2':LQuery→PT LQuery}{I I':PT LQuery}(h:St N E E')(hn:N<n)(hn':N<n')(h2:∀q,0<N→St (N-1) (S2 q) (S2' q))(hI:0<N→St (N-1) I I')(q:LQuery):St N (iU E n S2 I q) (iU E' n' S2' I' q):=by
 have k:∀{M},M≤N→St M E E':=fun hm=>h.mono hm
 unfold iU
 refine St.kw (fun _=>St.bd (k (by omega)) fun _=>St.rt _) (St.kw (fun _=>lst_st (fun q M hM=>namedB_st (k (by omega)) q) _ (by omega) (by omega)) (St.kw (fun h0=>h2 _ h0) (St.kw (fun h0=>St.ex fun _=>(h2 _ h0).mono (by omega))
  (St.kw (fun h0=>St.bd (hI h0) fun _=>St.rt _) (St.kw (fun h0=>St.bd (hI h0) fun _=>St.rt _) (St.kw (fun h0=>groupB_st (k (by omega)) _ (by omega) (by omega))
   (St.kw (fun _=>lst_st (fun q M hM=>sortB_st (k (by omega)) q) _ (by omega) (by omega)) (St.kw (fun _=>St.num fun _ _=>St.kw (fun _=>St.num1 fun _ _=>St.rt _) (St.rt _)) St.fl))))))))
theorem secondB_st{E E':PT LExpr}{N:Nat}{I I':PT LQuery}(h:St N E E')(hI:St N I I')(q:LQuery):St N (jc E I q) (jc E' I' q):=St.bd hI fun _=>St.ex fun _=>St.bd (h.mono (by omega)) fun _=>St.rt _
theorem innerB_st{N:Nat}{Q Q':PT LQuery}(h:0<N→St (N-1) Q Q'):St N (innerB Q) (innerB Q'):=St.ex fun h0=>St.bd (h h0) fun _=>St.ex fun _=>St.rt _
theorem stages_st{S S':LQuery→PT LQuery}{K:Nat}(h:∀q N,N≤K→St N (S q) (S' q)):∀N n n' q,N≤K+1→N<n→N<n'→St N (el S n q) (el S' n' q)
 |N,0,_,_,_,hn,_=>by omega
 |N,_,0,_,_,_,hn=>by omega
 |N,n+1,n'+1,q,hk,hn,hn'=>by
  rw[el,el];exact St.kw (fun h0=>St.bd (h q _ (by omega)) fun q=>stages_st h (N-1) n n' q (by omega) (by omega) (by omega)) (St.rt _)
theorem queryB_st{N n n':Nat}{Q Q':PT LQuery}{S S':LQuery→PT LQuery}(hQ:0<N→St (N-1) Q Q')(hS:∀q M,M+1≤N→St M (S q) (S' q))(hn:N<n)(hn':N<n'):St N (queryB Q S n) (queryB Q' S' n'):=by
 refine St.bdC (St.kw (fun h0=>St.bd (hQ h0) fun _=>St.ex fun _=>St.rt _) (St.ex fun _=>St.idt fun _ _=>St.rt _)) trivial fun q h0=>?_
 exact stages_st (K:=N-1) (fun q M hM=>hS q M (by omega)) _ _ _ q (by omega) (by omega) (by omega)
theorem q_st:∀N:Nat,N≤4000→(∀m m',4*N+1≤m→4*N+1≤m'→St N (qT m) (qT m'))∧(∀m m',4*N+2≤m→4*N+2≤m'→St N (iT m) (iT m'))∧(∀m m' q,4*N+3≤m→4*N+3≤m'→St N (s2T m q) (s2T m' q))∧(∀m m' q,4*N+4≤m→4*N+4≤m'→St N (sT m q) (sT m' q)):=by
 intro N;induction N using Nat.strongRecOn with
 |_ N ih=>
  intro hN;have hb:N<dQ:=by unfold dQ;omega
  have hq:∀m m',4*N+1≤m→4*N+1≤m'→St N (qT m) (qT m'):=by
   intro m m' h h'
   obtain⟨k,rfl⟩:∃k,m=k+1:=⟨m-1,by omega⟩
   obtain⟨k',rfl⟩:∃k,m'=k+1:=⟨m'-1,by omega⟩
   rw[qT,qT];exact queryB_st (fun h0=>(ih (N-1) (by omega) (by omega)).1 k k' (by omega) (by omega)) (fun q M hM=>(ih M (by omega) (by omega)).2.2.2 k k' q (by omega) (by omega)) hb hb
  have hi:∀m m',4*N+2≤m→4*N+2≤m'→St N (iT m) (iT m'):=by
   intro m m' h h'
   obtain⟨k,rfl⟩:∃k,m=k+1:=⟨m-1,by omega⟩
   obtain⟨k',rfl⟩:∃k,m'=k+1:=⟨m'-1,by omega⟩
   rw[iT,iT];exact innerB_st fun h0=>(ih (N-1) (by omega) (by omega)).1 k k' (by omega) (by omega)
  have h2:∀m m' q,4*N+3≤m→4*N+3≤m'→St N (s2T m q) (s2T m' q):=by
   intro m m' q h h'
   obtain⟨k,rfl⟩:∃k,m=k+1:=⟨m-1,by omega⟩
   obtain⟨k',rfl⟩:∃k,m'=k+1:=⟨m'-1,by omega⟩
   rw[s2T,s2T];exact secondB_st (eM_st hN) (hi k k' (by omega) (by omega)) q
  refine⟨hq,hi,h2,fun m m' q h h'=>?_⟩
  obtain⟨k,rfl⟩:∃k,m=k+1:=⟨m-1,by omega⟩
  obtain⟨k',rfl⟩:∃k,m'=k+1:=⟨m'-1,by omega⟩
  rw[sT,sT];exact stageB_st (eM_st hN) hb hb (fun q h0=>(ih (N-1) (by omega) (by omega)).2.2.1 k k' q (by omega) (by omega)) (fun h0=>(ih (N-1) (by omega) (by omega)).2.1 k k' (by omega) (by omega)) q
theorem qM_st{N m:Nat}(h:N≤4000)(hm:dQ≤m):St N qM (qT m):=(q_st N h).1 _ _ (by unfold dQ;omega) (by unfold dQ at hm;omega)
end
end Go.Proofs.YtibojibdiibdgaaGreatDoor
