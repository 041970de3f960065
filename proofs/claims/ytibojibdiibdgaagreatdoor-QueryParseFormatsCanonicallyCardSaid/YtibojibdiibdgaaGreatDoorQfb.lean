/- queryParseFormatsCanonically_holds, part 2: the layer, the plain functions and what they compute; conditions as in the statement. -/
import Derived.Test.YtibojibdiibdgaaGreatDoorQfa
set_option maxHeartbeats 4000000
namespace Go.Ab
noncomputable section
def dstep(T:TT)(rb:RB)(ops:Array Oper)(k n:Nat)(s:Nat→PV)(bx:Nat→Option Box):Option (Nat→PV):=
 match ops[k]? with
 |some o=>match aN ops s o with
  |some true=>match cj o.op with
   | .det=>match eu T (if rb.b o then bx else fun _=>none) o.op (evS s)with
    |some r0=>match iW r0 with
     |some r=>putD n s o.dst r
     |none=>none
    |none=>none
   |_=>none
  |some false=>putD n s o.dst kS
  |none=>none
 |none=>none
section
variable{P:Program}{Px:PV→Prop}{T:TT}{rb:RB}{ops:Array Oper}{k:Nat}{L:List Nat}{n:Nat}{s s':Nat→PV}{bx:Nat→Option Box}{ob:Nat→Option Obj}{K:PState→Prop}{o:Oper}
theorem Ao.cat{rest:List Oper}(hT:T.Ok P)(hg:aN ops s o=some true){t t':TypeId}{x y:Operand}(ho:o.op= .binOp .add t x y t'){a b:List UInt8}(hx:evS s x= .str a)(hy:evS s y= .str b)(hb:a.length+b.length≤dB)
  (hp:putD n s o.dst (.str (a++b))=some s') (h:Ao P Px ops rest ⟨n,s',bx,ob⟩ K):Ao P Px ops (o::rest) ⟨n,s,bx,ob⟩ K:=by
 refine jb hT hg (r:= .str (a++b)) ?_ hp h;rw[ho];simp[eJ,qbin,hx,hy,hb]
theorem Do.cat(ho:ops[k]? =some o)(hg:aN ops s o=some true){t t':TypeId}{x y:Operand}(hop:o.op= .binOp .add t x y t'){a b:List UInt8}(hx:evS s x= .str a)(hy:evS s y= .str b)(hb:a.length+b.length≤dB)
  (hp:putD n s o.dst (.str (a++b))=some s') (h:Do P Px T rb ops L ⟨n,s',bx,ob⟩ K):Do P Px T rb ops (k::L) ⟨n,s,bx,ob⟩ K:=by
 refine⟨o,ho,true,hg,?_⟩
 have hc:cj o.op= .det:=by rw[hop];rfl
 simp only[if_true,hc]
 exact⟨.str (a++b),s',.inl (by rw[hop];simp[eu,eJ,qbin,hx,hy,hb]),hp,h⟩
theorem bP{st:PState}(h:K st):Do P Px T rb ops [] st K:=h
theorem bQ(hs:dstep T rb ops k n s bx=some s')(h:Do P Px T rb ops L ⟨n,s',bx,ob⟩ K):Do P Px T rb ops (k::L) ⟨n,s,bx,ob⟩ K:=by
 unfold dstep at hs;split at hs
 ·rename_i o ho;split at hs
  ·rename_i hg;split at hs
   ·rename_i hc;split at hs
    ·rename_i r0 hd;rw[kh]at hs
     refine⟨o,ho,true,hg,?_⟩
     simp only[if_true,hc]
     exact⟨r0,s',.inl hd,hs,h⟩
    ·cases hs
   ·cases hs
  ·rename_i hg
   refine⟨o,ho,false,hg,?_⟩
   simp only[Bool.false_eq_true,if_false]
   exact⟨s',hs,h⟩
  ·cases hs
 ·cases hs
theorem mD(ho:ops[k]? =some o)(hg:aN ops s o=some true)(hc:cj o.op= .det){r:PV}(hd:eu T (if rb.b o then bx else fun _=>none) o.op (evS s)=some r)(hp:putD n s o.dst r=some s')
  (h:Do P Px T rb ops L ⟨n,s',bx,ob⟩ K):Do P Px T rb ops (k::L) ⟨n,s,bx,ob⟩ K:=by
 refine⟨o,ho,true,hg,?_⟩
 simp only[if_true,hc]
 exact⟨r,s',.inl hd,hp,h⟩
theorem Do.lB(ho:ops[k]? =some o)(hrb:rb.b o=true)(hg:aN ops s o=some true){t:TypeId}{x:Operand}(hop:o.op= .load t x){ti:TInfo}(hti:T.get t=some ti){tag b off:Nat}{cells:List PV}
  (hx:evS s x= .box tag b off) (hb:bx tag=some ⟨b,cells⟩) {r:PV} (hr:(dV ti off cells).bind iW=some r) (hp:putD n s o.dst r=some s')
  (h:Do P Px T rb ops L ⟨n,s',bx,ob⟩ K):Do P Px T rb ops (k::L) ⟨n,s,bx,ob⟩ K:=by
 have hr':dV ti off cells=some r:=by
  cases hq:dV ti off cells with
  |none=>simp[hq]at hr
  |some q=>rw[hq,Option.bind_some,kh]at hr;exact hr
 refine mD ho hg (by rw[hop];rfl) (r:=r) ?_ hp h;rw[hop,hrb];simp[eu,eJ,hti,hx,jg,hb,hr']
theorem dH{t:TypeId}{x:Operand}{ti:TInfo}{tag b off:Nat}{cells:List PV}{r:PV}(h:Do P Px T rb ops L ⟨n,s',bx,ob⟩ K)(ho:ops[k]? =some o:=by exact rfl)(hrb:rb.b o=true:=by exact rfl)(hg:aN ops s o=some true:=by exact rfl)(hop:o.op= .load t x:=by exact rfl)(hti:T.get t=some ti:=by exact rfl)(hx:evS s x= .box tag b off:=by exact rfl)(hb:bx tag=some ⟨b,cells⟩:=by exact rfl)(hr:(dV ti off cells).bind iW=some r:=by exact rfl)(hp:putD n s o.dst r=some s':=by exact rfl):Do P Px T rb ops (k::L) ⟨n,s,bx,ob⟩ K:=Do.lB ho hrb hg hop hti hx hb hr hp h
theorem nw(hT:T.Ok P)(ho:ops[k]? =some o)(hsl:rb.sl o=true)(hg:aN ops s o=some true){t:TypeId}{x:Operand}(hop:o.op= .load t x){ti:TInfo}(hti:T.get t=some ti){tag b off:Nat}{cells:List PV}
  (hx:evS s x= .box tag b off) (hb:bx tag=some ⟨b,cells⟩) (hst:rb.st tag=true) {r:PV} (hr:(dV ti off cells).bind iW=some r) (hp:putD n s o.dst r=some s')
  (h:Do P Px T rb ops L ⟨n,s',bx,ob⟩ K):Do P Px T rb ops (k::L) ⟨n,s,bx,ob⟩ K:=by
 have hr':dV ti off cells=some r:=by
  cases hq:dV ti off cells with
  |none=>simp[hq]at hr
  |some q=>rw[hq,Option.bind_some,kh]at hr;exact hr
 refine⟨o,ho,true,hg,?_⟩
 have hc:cj o.op= .det:=by rw[hop];rfl
 simp only[if_true,hc]
 refine⟨r,s',.inr fun bx' hq=>?_,hp,h⟩
 intro C M a w hi he
 obtain⟨u,h1,h2⟩:=det_load hT hti hi (he x (by rw[hop];simp[Op.operands])) (r:=r) (by rw[hx];simp[jg,hq hsl tag hst,hb,hr'])
 exact⟨u,by simp[execOp,hop,h1],h2⟩
theorem dG{t:TypeId}{x:Operand}{ti:TInfo}{tag b off:Nat}{cells:List PV}{r:PV}(hT:T.Ok P)(h:Do P Px T rb ops L ⟨n,s',bx,ob⟩ K)(ho:ops[k]? =some o:=by exact rfl)(hsl:rb.sl o=true:=by exact rfl)(hg:aN ops s o=some true:=by exact rfl)(hop:o.op= .load t x:=by exact rfl)(hti:T.get t=some ti:=by exact rfl)(hx:evS s x= .box tag b off:=by exact rfl)(hb:bx tag=some ⟨b,cells⟩:=by exact rfl)(hst:rb.st tag=true:=by exact rfl)(hr:(dV ti off cells).bind iW=some r:=by exact rfl)(hp:putD n s o.dst r=some s':=by exact rfl):Do P Px T rb ops (k::L) ⟨n,s,bx,ob⟩ K:=nw hT ho hsl hg hop hti hx hb hst hr hp h
theorem Do.idx(ho:ops[k]? =some o)(hg:aN ops s o=some true){t:TypeId}{x i:Operand}(hop:o.op= .indexAddr t x i){ti:TInfo}(hti:T.get t=some ti){e:TypeId}(hd:ti.desc= .slice e){rows:List (List PV)}(hx:evS s x= .list e rows){kk:IntKind}{j:Int}
  (hi:evS s i= .val (.int kk j)) {r:List PV} (h0:0≤j) (hr:rows[j.toNat]? =some r) (hp:putD n s o.dst (.ptr r)=some s') (h:Do P Px T rb ops L ⟨n,s',bx,ob⟩ K):Do P Px T rb ops (k::L) ⟨n,s,bx,ob⟩ K:=by
 refine mD ho hg (by rw[hop];rfl) (r:= .ptr r) ?_ hp h;rw[hop];simp[eu,eJ,hti,hx,hi,hd,h0,hr]
theorem eC{t:TypeId}{x i:Operand}{ti:TInfo}{e:TypeId}{rows:List (List PV)}{kk:IntKind}{j:Int}{r:List PV}(h0:0≤j)(hr:rows[j.toNat]? =some r)(h:Do P Px T rb ops L ⟨n,s',bx,ob⟩ K)(ho:ops[k]? =some o:=by exact rfl)(hg:aN ops s o=some true:=by exact rfl)(hop:o.op= .indexAddr t x i:=by exact rfl)(hti:T.get t=some ti:=by exact rfl)(hd:ti.desc= .slice e:=by exact rfl)(hx:evS s x= .list e rows:=by exact rfl)(hi:evS s i= .val (.int kk j):=by exact rfl)(hp:putD n s o.dst (.ptr r)=some s':=by exact rfl):Do P Px T rb ops (k::L) ⟨n,s,bx,ob⟩ K:=Do.idx ho hg hop hti hd hx hi h0 hr hp h
def dsteps(T:TT)(rb:RB)(ops:Array Oper)(n:Nat)(bx:Nat→Option Box):Nat→List Nat→(Nat→PV)→Option (List Nat×(Nat→PV))
 |0,l,s=>some (l,s)
 |k+1,o::l,s=>match dstep T rb ops o n s bx with
  |some s'=>dsteps T rb ops n bx k l s'
  |none=>none
 |_+1,[],_=>none
theorem bA:∀(k:Nat) {l rest:List Nat} {s s':Nat→PV} (_:dsteps T rb ops n bx k l s=some (rest,s')) (_:Do P Px T rb ops rest ⟨n,s',bx,ob⟩ K),Do P Px T rb ops l ⟨n,s,bx,ob⟩ K
 |0,l,rest,s,s',h,hk=>by
  simp only[dsteps,zo,Prod.mk.injEq]at h;rw[h.1,h.2];exact hk
 |k+1,[],rest,s,s',h,hk=>by cases h
 |k+1,o::l,rest,s,s',h,hk=>by
  rw[dsteps]at h;cases hq:dstep T rb ops o n s bx with
  |none=>rw[hq]at h;cases h
  |some s1=>
   rw[hq]at h;exact bQ hq (bA k h hk)
theorem nK{j:Nat}{want b:Bool}{d:Nat}(_ho:ops[k]? =some o)(_hg:o.guard=some (j,want))(_hd:(ops[j]?).bind (·.dst)=some d)(hs:s d= .val (.bool b))
  (ht:b=true→Do P Px T rb ops (k::L) ⟨n,upd s d (.val (.bool true)),bx,ob⟩ K) (hf:b=false→Do P Px T rb ops (k::L) ⟨n,upd s d (.val (.bool false)),bx,ob⟩ K):Do P Px T rb ops (k::L) ⟨n,s,bx,ob⟩ K:=by
 cases b
 ·have:=hf rfl;rwa [upd_self _ _ _ hs]at this
 ·have:=ht rfl;rwa [upd_self _ _ _ hs]at this
theorem nH(ho:ops[k]? =some o)(hg:aN ops s o=some true){fx:Operand}{av0:Array Operand}{ts:Array TypeId}(hop:o.op= .call {callee:= .value fx,args:=av0,argTypes:=ts}){g:FuncId}{caps:List PV}
  (hf:evS s fx= .fn g caps) (hcall:∀vs w,(callFunc g vs).run P w= .ok (.enter g vs) w) {args:List PV} (hle:dQ P (av0.toList.map (evS s)++caps) args) {r:PV} (hc:bI P g args r)
  (hp:putD n s o.dst r=some s') (h:Do P Px T rb ops L ⟨n,s',bx,ob⟩ K):Do P Px T rb ops (k::L) ⟨n,s,bx,ob⟩ K:=by
 refine⟨o,ho,true,hg,?_⟩
 simp only[if_true,hop,cj];exact .inr fun bx'=>eff_callP hop hf hcall hle hc ⟨rfl,fun _=>rfl,s',hp,h⟩
theorem eH{fx:Operand}{av0:Array Operand}{ts:Array TypeId}{g:FuncId}{caps:List PV}{args:List PV}{r:PV}(hcall:∀vs w,(callFunc g vs).run P w= .ok (.enter g vs) w)(hle:dQ P (av0.toList.map (evS s)++caps) args)(hc:bI P g args r)(h:Do P Px T rb ops L ⟨n,s',bx,ob⟩ K)(ho:ops[k]? =some o:=by exact rfl)(hg:aN ops s o=some true:=by exact rfl)(hop:o.op= .call {callee:= .value fx,args:=av0,argTypes:=ts}:=by exact rfl)(hf:evS s fx= .fn g caps:=by exact rfl)(hp:putD n s o.dst r=some s':=by exact rfl):Do P Px T rb ops (k::L) ⟨n,s,bx,ob⟩ K:=nH ho hg hop hf hcall hle hc hp h
theorem nv(ho:ops[k]? =some o)(hg:aN ops s o=some true){t:TypeId}(hop:o.op= .alloc t){d:Nat}(hd:o.dst=some d){ti:TInfo}(hti:T.get t=some ti){cs:List PV}(hc:dl (fy ti)=some cs)(hlt:Nat.blt d n=true)(hbx:bx d=none)
  (h:∀b,Do P Px T rb ops L ⟨n,upd s d (.box d b 0),upd bx d (some ⟨b,cs⟩),ob⟩ K):Do P Px T rb ops (k::L) ⟨n,s,bx,ob⟩ K:=by
 rw[db,zo]at hc;subst hc
 refine⟨o,ho,true,hg,?_⟩
 simp only[if_true,hop,cj]
 exact⟨t,d,ti,rfl,hd,hti,by simpa[Nat.blt_eq]using hlt,hbx,h⟩
theorem fW(ho:ops[k]? =some o)(hg:aN ops s o=some true){t:TypeId}{x y:Operand}(hop:o.op= .store t x y)(hd:o.dst=none){ti:TInfo}(hti:T.get t=some ti){tag b off:Nat}{cells:List PV}(hx:evS s x= .box tag b off)(hb:bx tag=some ⟨b,cells⟩)
  {cs:List PV} (hc:(cw (evS s y)).bind dl=some cs) (h1:cs.all PV.one=true) (hl:Nat.beq cs.length ti.size=true) (hle:(okS cells&&Nat.ble (off+ti.size) cells.length)=true)
  {cells':List PV} (hf:dl (splice cells off cs)=some cells') (h:Do P Px T rb ops L ⟨n,s,upd bx tag (some ⟨b,cells'⟩),ob⟩ K) (hso:rb.so=false:=by rfl) (he0:rb.e0 o=true:=by rfl):Do P Px T rb ops (k::L) ⟨n,s,bx,ob⟩ K:=by
 have hc':cw (evS s y)=some cs:=by
  cases hq:cw (evS s y)with
  |none=>simp[hq]at hc
  |some q=>rw[hq,Option.bind_some,db]at hc;exact hc
 rw[db,zo]at hf;subst hf
 refine⟨o,ho,true,hg,?_⟩
 simp only[if_true,hop,cj]
 exact⟨hd,.inl ⟨⟨hso,he0⟩,t,x,y,ti,tag,b,off,cells,cs,rfl,hti,hx,hb,hc',h1,Nat.eq_of_beq_eq_true hl,hle,h⟩⟩
theorem mj{fn:Func}{R:PV→Heap→Prop}{ks:List KI}(hT:T.Ok P)(d tag:Nat){e:TypeId}{ei:TInfo}(hei:T.get e=some ei)(hs:s d= .val (.slice none 0 0))
  (h:V P Px fn R ks ⟨n,upd s d (.own tag ⟨none,0⟩ 0),bx,upd ob tag (some ⟨⟨none,0⟩,e,[],true⟩)⟩):V P Px fn R ks ⟨n,s,bx,ob⟩:=
 bD (Gh.nilO hT d tag hei hs) h
theorem fT{fn:Func}{R:PV→Heap→Prop}{ks:List KI}(d:Nat){tag:Nat}{g:OwnRef}{len:Nat}{e:TypeId}{rows:List (List PV)}{wr:Bool}(hs:s d= .own tag g len)(hob:ob tag=some ⟨g,e,rows,wr⟩)(hlen:len=rows.length)
  (h:V P Px fn R ks ⟨n,upd s d (.list e rows),bx,upd ob tag (some ⟨g,e,rows,false⟩)⟩):V P Px fn R ks ⟨n,s,bx,ob⟩:=
 bD (Gh.freezeO d hs hob hlen) h
theorem ky{fn:Func}{R:PV→Heap→Prop}{ks:List KI}(d:Nat){tag b:Nat}{cells:List PV}(hs:s d= .box tag b 0)(hb:bx tag=some ⟨b,cells⟩)(hf:PV.frozL cells=true)(h1:cells.all PV.one=true)
  (h:V P Px fn R ks ⟨n,upd s d (.ptr cells),upd bx tag none,ob⟩):V P Px fn R ks ⟨n,s,bx,ob⟩:=
 bD (Gh.freezeB d hs hb hf h1) h
end
def jn(P:Program)(p q:PV):Prop:=∀M s x,Rep P M s p x→Rep P M s q x
def eO(P:Program)(ps qs:List PV):Prop:=∀M s xs,ay P M s ps xs→ay P M s qs xs
def mI(P:Program)(ps qs:List PV):Prop:=ps.length=qs.length∧∀M b o,bW P M b o ps→bW P M b o qs
def dN(P:Program)(rs qs:List (List PV)):Prop:=rs.length=qs.length∧∀M k b o,ca P M k b o rs→ca P M k b o qs
section
variable{P:Program}{Px:PV→Prop}
theorem jn.refl(p:PV):jn P p p:=fun _ _ _ h=>h
theorem jn.of_eq{p q:PV}(h:p=q):jn P p q:=h▸jn.refl p
theorem jn.nil{T:TT}(hT:T.Ok P){e:TypeId}{ti:TInfo}(hti:T.get e=some ti):jn P (.val (.slice none 0 0)) (.list e []):=fun M s x h=>by
 obtain⟨i,hi,_⟩:=(hT.get hti).info
 simp only[Rep]at h⊢;subst h
 exact⟨none,0,i,by simp,by simp,by simp,hi,by simp,by simp⟩
theorem jn.agg{ps qs:List PV}(h:eO P ps qs):jn P (.agg ps) (.agg qs):=fun M s x hx=>by
 simp only[Rep]at hx⊢
 obtain⟨cs,rfl,hc⟩:=hx
 exact⟨cs,rfl,h M s _ hc⟩
theorem jn.tup{ps qs:List PV}(h:eO P ps qs):jn P (.tup ps) (.tup qs):=fun M s x hx=>by
 simp only[Rep]at hx⊢
 obtain⟨cs,rfl,hc⟩:=hx
 exact⟨cs,rfl,h M s _ hc⟩
theorem jn.fn{f:FuncId}{ps qs:List PV}(h:eO P ps qs):jn P (.fn f ps) (.fn f qs):=fun M s x hx=>by
 simp only[Rep]at hx⊢
 obtain⟨cs,rfl,hc⟩:=hx
 exact⟨cs,rfl,h M s _ hc⟩
theorem jn.list{e:TypeId}{rs qs:List (List PV)}(h:dN P rs qs):jn P (.list e rs) (.list e qs):=fun M s x hx=>by
 simp only[Rep]at hx⊢
 obtain⟨a,c,i,h1,h2,h3,h4,h5,h6⟩:=hx
 rw[←h.1]
 refine⟨a,c,i,h1,h2,h3,h4,h5,fun hne=>?_⟩
 have:rs≠[]:=by
  intro hr;apply hne
  have:=h.1
  rw[hr]at this;exact List.length_eq_zero_iff.1 this.symm
 obtain⟨b,o,h7,h8⟩:=h6 this
 exact⟨b,o,h7,h.2 M _ b o h8⟩
theorem eO.refl(ps:List PV):eO P ps ps:=fun _ _ _ h=>h
theorem eO.nil:eO P [] []:=fun _ _ _ h=>h
theorem eO.cons{p q:PV}{ps qs:List PV}(h:jn P p q)(h':eO P ps qs):eO P (p::ps) (q::qs):=fun M s xs hx=>by
 simp only[ay]at hx⊢
 obtain⟨x,ys,rfl,h1,h2⟩:=hx
 exact⟨x,ys,rfl,h M s x h1,h' M s ys h2⟩
theorem mI.nil:mI P [] []:=⟨rfl,fun _ _ _ h=>h⟩
theorem mI.cons{p q:PV}{ps qs:List PV}(h:jn P p q)(h':mI P ps qs):mI P (p::ps) (q::qs):=⟨by simp[h'.1],fun M b o hx=>by
 simp only[bW]at hx⊢
 obtain⟨⟨x,h1,h2,h3⟩,h4⟩:=hx
 exact⟨⟨x,h1,h2,h M false x h3⟩,h'.2 M b _ h4⟩⟩
theorem dN.refl(rs:List (List PV)):dN P rs rs:=⟨rfl,fun _ _ _ _ h=>h⟩
theorem dN.nil:dN P [] []:=⟨rfl,fun _ _ _ _ h=>h⟩
theorem dN.cons{r q:List PV}{rs qs:List (List PV)}(h:mI P r q)(h':dN P rs qs):dN P (r::rs) (q::qs):=⟨by simp[h'.1],fun M k b o hx=>by
 simp only[ca]at hx⊢
 obtain⟨h1,h2,h3⟩:=hx
 exact⟨by rw[←h.1];exact h1,h.2 M b o h2,h'.2 M k b _ h3⟩⟩
theorem PLe.of2{p q:PV}(h:jn P p q):PLe P p q:=fun M x hx=>h M true x hx
theorem dQ.of2{ps qs:List PV}(h:eO P ps qs):dQ P ps qs:=fun M xs hx=>h M true xs hx
end
section
variable{P:Program}{Px:PV→Prop}{C:Ctx}{M:Mem}{H:Heap}{w:World}
theorem InvH.recell(h:InvH P C M H w){tag b:Nat}{cells cells':List PV}(hb:H.bx tag=some ⟨b,cells⟩)(hc:∀xs,ay P M true cells xs→ay P M true cells' xs)(hm:okS cells=true):
  InvH P C M ⟨upd H.bx tag (some ⟨b,cells'⟩),H.ob⟩ w:=by
 have key:∀t x,upd H.bx tag (some ⟨b,cells'⟩) t=some x→∃y,H.bx t=some y∧y.b=x.b∧(∀xs,ay P M true y.cells xs→ay P M true x.cells xs)∧(okS y.cells=true∨x.cells=y.cells):=by
  intro t x hx;rw[dE]at hx;split at hx
  ·rename_i e;subst e;cases hx;exact⟨_,hb,rfl,hc,.inl hm⟩
  ·exact⟨x,hx,rfl,fun _ h=>h,.inr rfl⟩
 refine⟨h.mem,h.ext,h.new,h.os,h.tape,h.output,h.size,h.frame,?_,h.objs,?_,h.dobj,?_⟩
 ·intro t x hx
  obtain⟨y,hy,e1,e2,e3⟩:=key t x hx
  obtain⟨h1,⟨o,h2,h3⟩,h4⟩:=h.boxes t y hy
  rw[e1]at h1 h2 h4
  exact⟨h1,⟨o,h2,h3.le e2 e3⟩,h4⟩
 ·intro t t' x x' hx hx' hbb
  obtain⟨y,hy,e1,_⟩:=key t x hx
  obtain⟨y',hy',e1',_⟩:=key t' x' hx'
  exact h.dbox t t' y y' hy hy' (by rw[e1,e1'];exact hbb)
 ·intro t t' x x' hx hx' hbb
  obtain⟨y,hy,e1,_⟩:=key t x hx
  exact h.dmix t t' y x' hy hx' (by rw[e1];exact hbb)
theorem ay.set{s:Bool}:∀{ps:List PV} {xs:List Value} {k:Nat} {p q:PV},ay P M s ps xs→ps[k]? =some p→(∀x,Rep P M s p x→Rep P M s q x)→ay P M s (ps.set k q) xs
 |[],_,_,_,_,_,hk,_=>by simp at hk
 |a::ps,_,0,p,q,h,hk,hq=>by
  simp only[ay]at h
  obtain⟨x,xs,rfl,h1,h2⟩:=h
  simp only[List.getElem?_cons_zero,zo]at hk;subst hk;simp only[List.set_cons_zero,ay]
  exact⟨x,xs,rfl,hq x h1,h2⟩
 |a::ps,_,k+1,p,q,h,hk,hq=>by
  simp only[ay]at h
  obtain⟨x,xs,rfl,h1,h2⟩:=h
  simp only[List.set_cons_succ,ay]
  exact⟨x,xs,rfl,h1,ay.set h2 (by simpa using hk) hq⟩
end
section
variable{P:Program}{Px:PV→Prop}{fn:Func}{R:PV→Heap→Prop}{ks:List KI}{n:Nat}{s:Nat→PV}{bx:Nat→Option Box}{ob:Nat→Option Obj}{T:TT}
theorem bS(tag k:Nat){tg:Nat}{g:OwnRef}{len:Nat}{e:TypeId}{rows:List (List PV)}{wr:Bool}{b:Nat}{cells cells':List PV}(hb:bx tag=some ⟨b,cells⟩)(hk:cells[k]? =some (.own tg g len))(hob:ob tg=some ⟨g,e,rows,wr⟩)(hlen:len=rows.length)
  (hf:dl (cells.set k (.list e rows))=some cells') (h:V P Px fn R ks ⟨n,s,upd bx tag (some ⟨b,cells'⟩),upd ob tg (some ⟨g,e,rows,false⟩)⟩) (hok:okS cells=true:=by exact rfl):V P Px fn R ks ⟨n,s,bx,ob⟩:=by
 rw[db,zo]at hf;subst hf;subst hlen;intro C M a w hi
 obtain⟨M',hle,hi',hr⟩:=hi.2.freezeO (tag:=tg) hob
 refine h C M' a w ⟨hi.1.mono hle,hi'.recell (tag:=tag) hb (fun xs hx=>hx.set hk fun x hx=>?_) hok⟩;simp only[Rep]at hx;rw[hx.2];exact hr
end
end
end Go.Ab

namespace Go.Ab
noncomputable section
open Go.ChangeShapes
def fY(W:World):Mem:=fun b o=>W.cell? ⟨b,o,none⟩
def laidFs(P:Program):Nat→List Field→Bool
 |_,[]=>true
 |o,f::fs=>Nat.beq f.offset o&&laidFs P (o+P.cellsOf f.type) fs
def okT(P:Program)(S:List TypeId)(t:TypeId):Bool:=
 match P.underlying t with
 |some .bool|some (.int _)|some .string=>true
 |some (.slice e)=>S.contains e&&Nat.blt 0 (P.cellsOf e)
 |some (.struct fs)=>laidFs P 0 fs.toList&&fs.toList.all (fun f=>S.contains f.type)&&Nat.beq (fs.toList.map fun f=>P.cellsOf f.type).sum (P.cellsOf t)
 |_=>false
def kV(Sh:TypeId→List PV→Prop):List TypeId→List PV→Prop
 |[],pvs=>pvs=[]
 |t::ts,pvs=>∃a b,pvs=a++b∧Sh t a∧kV Sh ts b
def Sh(P:Program):Nat→TypeId→List PV→Prop
 |0,_,_=>False
 |n+1,t,pvs=>match P.underlying t with
  |some .bool=>∃b,pvs=[.val (.bool b)]
  |some (.int k)=>∃m,pvs=[.val (.int k m)]∧(Lit.int k m).wf=true
  |some .string=>∃l,pvs=[.str l]∧l.length≤2^47
  |some (.slice e)=>∃rows,pvs=[.list e rows]∧∀r∈rows,Sh P n e r
  |some (.struct fs)=>kV (Sh P n) (fs.toList.map (·.type)) pvs
  |_=>False
section
variable{H:Type}{enc:TypeId×Value→H}{P:Program}{Px:PV→Prop}{W:World}{S:List TypeId}
theorem bW.of_cells{b:Nat}:∀{o:Nat} {pvs:List PV} {cs:List Value},ay P (fY W) false pvs cs→(∀x∈cs,x.oneCell'=true)→(∀j,j<cs.length→W.cell? ⟨b,o+j,none⟩=cs[j]?)→bW P (fY W) b o pvs
 |_,[],_,_,_,_=>by simp[bW]
 |o,p::ps,cs,h,h1,hm=>by
  simp only[ay]at h
  obtain⟨x,xs,rfl,h2,h3⟩:=h
  simp only[bW]
  refine⟨⟨x,?_,h1 x (by simp),h2⟩,bW.of_cells h3 (fun y hy=>h1 y (by simp[hy])) fun j hj=>?_⟩
  ·simpa[fY]using hm 0 (by simp)
  ·have:=hm (j+1) (by simpa using hj)
   rw[show o+1+j=o+(j+1)from by omega];simpa using this
theorem Sh.one:∀{n:Nat} {t:TypeId} {pvs:List PV},Sh P n t pvs→pvs.all PV.one=true:=by
 intro n;induction n with
 |zero=>intro t pvs h;simp[Sh]at h
 |succ n ih=>
  intro t pvs h;simp only[Sh]at h;split at h
  ·obtain⟨b,rfl⟩:=h;rfl
  ·obtain⟨m,rfl,_⟩:=h;rfl
  ·obtain⟨l,rfl,_⟩:=h;rfl
  ·obtain⟨rows,rfl,_⟩:=h;rfl
  ·rename_i fs _;generalize fs.toList.map (·.type)=ts at h;induction ts generalizing pvs with
   |nil=>simp only[kV]at h;subst h;rfl
   |cons t ts iht=>
    simp only[kV]at h
    obtain⟨a,b,rfl,h1,h2⟩:=h
    rw[List.all_append,ih h1,iht h2];rfl
  ·cases h
theorem abs_struct{n:Nat}(ih:∀t∈S,∀(cs:List Value) x,DataW.trod enc P W 0 (fun _=>true) true n t cs=some x→(x.1.weights P t).all (·≤reachBytes)=true→∃pvs,Sh P n t pvs∧ay P (fY W) false pvs cs):
  ∀(fs:List Field) (o:Nat) (cs:List Value) (xs:List (DataW H×List MemPlace)),laidFs P o fs=true→fs.all (fun f=>S.contains f.type)=true→o+(fs.map fun f=>P.cellsOf f.type).sum=cs.length→
   (fs.mapM fun f=>DataW.trod enc P W 0 (fun _=>true) true n f.type ((cs.drop f.offset).take (P.cellsOf f.type)))=some xs→
   (DataW.weightsEach P (fs.map (·.type)) (xs.map (·.1))).all (·≤reachBytes)=true→∃pvs,kV (Sh P n) (fs.map (·.type)) pvs∧ay P (fY W) false pvs (cs.drop o)
 |[],o,cs,xs,_,_,hlen,_,_=>by
  refine⟨[],by simp[kV],?_⟩
  simp only[ay];exact List.drop_eq_nil_of_le (by simp at hlen;omega)
 |f::fs,o,cs,xs,hl,hS,hlen,hm,hw=>by
  simp only[laidFs,Bool.and_eq_true]at hl;simp only[List.all_cons,Bool.and_eq_true]at hS;simp only[List.map_cons,List.sum_cons]at hlen;have hoff:f.offset=o:=Nat.eq_of_beq_eq_true hl.1;rw[List.mapM_cons]at hm;cases hx:DataW.trod enc P W 0 (fun _=>true) true n f.type ((cs.drop f.offset).take (P.cellsOf f.type))with
  |none=>rw[hx]at hm;cases hm
  |some x=>
   rw[hx]at hm;cases hr:(fs.mapM fun f=>DataW.trod enc P W 0 (fun _=>true) true n f.type ((cs.drop f.offset).take (P.cellsOf f.type)))with
   |none=>rw[hr]at hm;cases hm
   |some r=>
    rw[hr]at hm;have hm':x::r=xs:=Option.some.inj hm;subst hm';simp only[List.map_cons,DataW.weightsEach,List.all_append,Bool.and_eq_true]at hw
    obtain⟨pa,ha1,ha2⟩:=ih f.type (by simpa using hS.1) _ x hx hw.1
    obtain⟨pb,hb1,hb2⟩:=abs_struct ih fs (o+P.cellsOf f.type) cs r hl.2 hS.2 (by omega) hr hw.2
    refine⟨pa++pb,⟨pa,pb,rfl,ha1,hb1⟩,?_⟩
    have:=ha2.append hb2
    rw[hoff]at this
    have e:(cs.drop o).take (P.cellsOf f.type)++cs.drop (o+P.cellsOf f.type)=cs.drop o:=by
     rw[←List.drop_drop];exact List.take_append_drop _ _
    rwa [e]at this
theorem abs_rows{n:Nat}{e:TypeId}(ih:∀(cs:List Value) x,DataW.trod enc P W 0 (fun _=>true) true n e cs=some x→(x.1.weights P e).all (·≤reachBytes)=true→∃pvs,Sh P n e pvs∧ay P (fY W) false pvs cs)
  {b o c:Nat}:∀(elems:List (DataW H×List MemPlace)) (k:Nat),(∀j,j<elems.length→((W.cells? 0 ((⟨b,o,none⟩:Addr).add ((k+j)*c)) c).bind (DataW.trod enc P W 0 (fun _=>true) true n e))=elems[j]?)→
   (DataW.weightsAll P e (elems.map (·.1))).all (·≤reachBytes)=true→∃rows:List (List PV),rows.length=elems.length∧(∀r∈rows,Sh P n e r)∧ca P (fY W) c b (o+k*c) rows
 |[],k,_,_=>⟨[],rfl,by simp,by simp[ca]⟩
 |x::r,k,hj,hw=>by
  simp only[List.map_cons,DataW.weightsAll,List.all_append,Bool.and_eq_true]at hw;have h0:=hj 0 (by simp);simp only[Nat.add_zero,List.getElem?_cons_zero]at h0;cases hcs:W.cells? 0 ((⟨b,o,none⟩:Addr).add (k*c)) c with
  |none=>rw[hcs]at h0;cases h0
  |some cs=>
   rw[hcs]at h0;simp only[Option.bind_some]at h0
   obtain⟨pv,hp1,hp2⟩:=ih cs x h0 hw.1
   obtain⟨_,hlen,hcell⟩:=World.cells?_some hcs
   obtain⟨rows,hr1,hr2,hr3⟩:=abs_rows ih r (k+1) (fun j hj'=>by
    have:=hj (j+1) (by simpa using hj')
    rw[show k+(j+1)=k+1+j from by omega]at this;simpa using this) hw.2
   refine⟨pv::rows,by simp[hr1],?_,?_⟩
   ·intro q hq;rcases List.mem_cons.1 hq with rfl|hq
    ·exact hp1
    ·exact hr2 q hq
   ·simp only[ca];have hpl:pv.length=c:=by rw[←hlen];exact(hp2.length).symm
    have hone:∀y∈cs,y.oneCell'=true:=ay.oneCell hp1.one hp2
    refine⟨hpl,bW.of_cells hp2 hone fun j hj'=>?_,?_⟩
    ·have:=hcell j (by omega)
     rw[←this,dS,dS]
    ·rw[show o+(k+1)*c=o+k*c+c from by rw[Nat.add_mul];omega]at hr3;exact hr3
theorem trod_int_some{n:Nat}{t:TypeId}{k:IntKind}{cs:List Value}{x:DataW H×List MemPlace}{sp:Nat→Bool}(hu:P.underlying t=some (.int k))(h:DataW.trod enc P W 0 sp true (n+1) t cs=some x):∃m,cs=[.int k m]∧(Lit.int k m).wf=true:=by
 unfold DataW.trod at h;rw[hu]at h;split at h<;>simp_all
theorem trod_bool_some{n:Nat}{t:TypeId}{cs:List Value}{x:DataW H×List MemPlace}{sp:Nat→Bool}(hu:P.underlying t=some .bool)(h:DataW.trod enc P W 0 sp true (n+1) t cs=some x):∃b,cs=[.bool b]:=by
 unfold DataW.trod at h;rw[hu]at h;split at h<;>simp_all
theorem trod_str_some{n:Nat}{t:TypeId}{cs:List Value}{x:DataW H×List MemPlace}{sp:Nat→Bool}(hu:P.underlying t=some .string)(h:DataW.trod enc P W 0 sp true (n+1) t cs=some x):∃s:ByteArray,cs=[.string s]∧x.1= .lit (.string s.data.toList):=by
 unfold DataW.trod at h;rw[hu]at h;split at h<;>simp_all
 rw[←h.2]
theorem mX{n:Nat}{t:TypeId}{fs:Array Field}{cs:List Value}{x:DataW H×List MemPlace}{sp:Nat→Bool}(hu:P.underlying t=some (.struct fs))(h:DataW.trod enc P W 0 sp true (n+1) t cs=some x):
  cs.length=P.cellsOf t∧∃xs,(fs.toList.mapM fun f=>DataW.trod enc P W 0 sp true n f.type ((cs.drop f.offset).take (P.cellsOf f.type)))=some xs∧x=(.agg (xs.map (·.1)),xs.flatMap (·.2)):=by
 unfold DataW.trod at h;rw[hu]at h;split at h<;>simp_all
 obtain⟨_,a,h2,h3⟩:=h
 exact⟨a,h2,h3.symm⟩
theorem na{n:Nat}{t e:TypeId}{cs:List Value}{x:DataW H×List MemPlace}(hu:P.underlying t=some (.slice e))(h:DataW.trod enc P W 0 (fun _=>true) true (n+1) t cs=some x):
  (cs=[.slice none 0 0]∧x=(.nil,[]))∨∃a len cap elems rest,cs=[.slice (some a) len cap]∧len≤cap∧cap≤maxLen∧
   ((List.range len).mapM fun i=>(W.cells? 0 (a.add (i*P.cellsOf e)) (P.cellsOf e)).bind (DataW.trod enc P W 0 (fun _=>true) true n e))=some elems∧
   ((List.range (cap-len)).mapM fun i=>(W.cells? 0 (a.add ((len+i)*P.cellsOf e)) (P.cellsOf e)).bind (DataW.trod enc P W 0 (fun _=>true) true n e))=some rest∧
   x.1= .slice (elems.map (·.1)) (rest.map (·.1)):=by
 unfold DataW.trod at h;rw[hu]at h;split at h<;>simp_all
 rename_i e' a len cap _
 obtain⟨⟨h1,h2⟩,h3⟩:=h
 cases hel:((List.range len).mapM fun i=>(W.cells? 0 (a.add (i*P.cellsOf e')) (P.cellsOf e')).bind (DataW.trod enc P W 0 (fun _=>true) true n e'))with
 |none=>rw[hel]at h3;cases h3
 |some elems=>
  rw[hel,Option.bind_some]at h3;cases hre:((List.range (cap-len)).mapM fun i=>(W.cells? 0 (a.add ((len+i)*P.cellsOf e')) (P.cellsOf e')).bind (DataW.trod enc P W 0 (fun _=>true) true n e'))with
  |none=>rw[hre]at h3;cases h3
  |some rest=>
   rw[hre,Option.map_some,zo]at h3
   exact⟨a,len,cap,⟨rfl,rfl,rfl⟩,h1,h2,elems,hel,rest,hre,by rw[←h3]⟩
theorem abs(hS:S.all (okT P S)=true)(hinf:∀t∈S,∃i,P.info? t=some i∧i.bytes=P.bytesOf t∧i.size=P.cellsOf t):∀(n:Nat) (t:TypeId),t∈S→∀(cs:List Value) x,DataW.trod enc P W 0 (fun _=>true) true n t cs=some x→
  (x.1.weights P t).all (·≤reachBytes)=true→∃pvs,Sh P n t pvs∧ay P (fY W) false pvs cs:=by
 intro n;induction n with
 |zero=>intro t _ cs x h;simp[DataW.trod]at h
 |succ n ih=>
  intro t ht cs x h hw;have hok:=List.all_eq_true.1 hS t ht;unfold okT at hok;simp only[Sh];split at hok
  ·rename_i hu
   obtain⟨b,rfl⟩:=trod_bool_some hu h
   exact⟨_,⟨b,rfl⟩,by simp[ay,Rep]⟩
  ·rename_i k hu
   obtain⟨m,rfl,hm⟩:=trod_int_some hu h
   exact⟨_,⟨m,rfl,hm⟩,by simp[ay,Rep]⟩
  ·rename_i hu
   obtain⟨s,rfl,hx⟩:=trod_str_some hu h
   rw[hx]at hw;simp only[DataW.weights,List.all_cons,List.all_nil,Bool.and_true,decide_eq_true_eq]at hw;have hle:s.data.toList.length≤2^47:=Nat.le_trans hw (by unfold reachBytes;omega)
   refine⟨_,⟨s.data.toList,rfl,hle⟩,?_⟩
   simp only[ay,Rep]
   exact⟨_,[],rfl,⟨by simp,Nat.le_trans hle (by unfold dB;omega)⟩,rfl⟩
  ·rename_i e hu;simp only[Bool.and_eq_true]at hok;have he:e∈S:=by simpa using hok.1
   obtain⟨i,hi1,hi2,hi3⟩:=hinf e he
   rcases na hu h with⟨rfl,rfl⟩|⟨a,len,cap,elems,rest,rfl,hlc,hcm,hel,hre,hx⟩
   ·refine⟨_,⟨[],rfl,by simp⟩,?_⟩
    simp only[ay,Rep]
    exact⟨_,[],rfl,⟨none,0,i,rfl,by simp,by simp,hi1,by simp,by simp⟩,rfl⟩
   ·have hlen:elems.length=len:=by simpa using mapM_some_length hel
    have hrlen:rest.length=cap-len:=by simpa using mapM_some_length hre
    rw[hx]at hw;simp only[DataW.weights,hu,List.all_cons,List.all_append,zl,Bool.and_eq_true,decide_eq_true_eq]at hw;have hpos:0<P.cellsOf e:=by simpa[Nat.blt_eq]using hok.2
    have hget:∀j,j<elems.length→(W.cells? 0 (a.add (j*P.cellsOf e)) (P.cellsOf e)).bind (DataW.trod enc P W 0 (fun _=>true) true n e)=elems[j]?:=fun j hj=>mapM_some_get hel j j (List.getElem?_range (by omega))
    have hsp:elems≠[]→a.spot=none:=fun hne=>by
     have h0:=hget 0 (List.length_pos_iff.2 hne);rw[Nat.zero_mul]at h0;cases hcs:W.cells? 0 (a.add 0) (P.cellsOf e)with
     |none=>rw[hcs]at h0;cases elems with
      |nil=>exact absurd rfl hne
      |cons _ _=>cases h0
     |some cs=>
      obtain⟨_,hl,hc⟩:=World.cells?_some hcs
      have:=hc 0 hpos
      cases hs:a.spot with
      |none=>rfl
      |some q=>
       have h1:W.cell? ((a.add 0).add 0)=none:=by
        simp only[World.cell?,Addr.add,hs,if_true];split<;>simp
       rw[h1]at this
       have:=List.getElem?_eq_none_iff.1 this.symm
       omega
    have hby:len*i.bytes≤2^47:=by
     have h1:=hw.1;rw[hi2]
     have:len*P.bytesOf e≤(elems.length+rest.length)*P.bytesOf e:=Nat.mul_le_mul_right _ (by omega)
     unfold reachBytes at h1;omega
    by_cases hne:elems=[]
    ·subst hne
     refine⟨_,⟨[],rfl,by simp⟩,?_⟩
     simp only[List.length_nil]at hlen;subst hlen;simp only[ay,Rep]
     exact⟨_,[],rfl,⟨some a,cap,i,rfl,by simp,hcm,hi1,by simp,by simp⟩,rfl⟩
    ·obtain⟨b,o,sp⟩:=a
     have:=hsp hne
     simp only at this;subst this
     obtain⟨rows,hr1,hr2,hr3⟩:=abs_rows (fun cs x hx hw=>ih e he cs x hx hw) elems 0 (fun j hj=>by rw[Nat.zero_add];exact hget j hj) hw.2.1
     refine⟨_,⟨rows,rfl,hr2⟩,?_⟩
     simp only[ay,Rep];have hrl:rows.length=len:=by omega
     rw[hrl]
     refine⟨_,[],rfl,⟨some ⟨b,o,none⟩,cap,i,rfl,hlc,hcm,hi1,hby,fun _=>⟨b,o,rfl,?_⟩⟩,rfl⟩
     rw[hi3];simpa using hr3
  ·rename_i fs hu;simp only[Bool.and_eq_true]at hok
   obtain⟨hl,xs,hm,hx⟩:=mX hu h
   rw[hx]at hw;simp only[DataW.weights,hu]at hw;have hsum:=Nat.eq_of_beq_eq_true hok.2
   obtain⟨pvs,h1,h2⟩:=abs_struct ih fs.toList 0 cs xs hok.1.1 hok.1.2 (by rw[hsum,hl];omega) hm hw
   exact⟨pvs,h1,by simpa using h2⟩
  ·cases hok
end
def argPV(P:Program)(t:TypeId)(pvs:List PV):PV:=
 match P.underlying t with
 |some (.struct _)=>.agg pvs
 |_=>pvs.headD .any
def ArgsSh(P:Program):List TypeId→List PV→Prop
 |[],av0=>av0=[]
 |t::ts,av0=>∃n pvs rest,av0=argPV P t pvs::rest∧Sh P n t pvs∧ArgsSh P ts rest
section
variable{H:Type}{enc:TypeId×Value→H}{P:Program}{Px:PV→Prop}{W:World}{S:List TypeId}
theorem abs_val(hS:S.all (okT P S)=true)(hinf:∀t∈S,∃i,P.info? t=some i∧i.bytes=P.bytesOf t∧i.size=P.cellsOf t){base:Nat}{t:TypeId}(ht:t∈S){v:Value}{d:DataW H}{ps:List MemPlace}
  (hv:Value.okWide P W .any base t v) (h:DataW.Trod enc P W 0 (fun _=>true) true t v d ps) (hw:(d.weights P t).all (·≤reachBytes)=true):∃n pvs,Sh P n t pvs∧Rep P (fY W) true (argPV P t pvs) v:=by
 obtain⟨n,hn⟩:=h
 obtain⟨pvs,h1,h2⟩:=abs hS hinf n t ht _ (d,ps) hn hw
 refine⟨n,pvs,h1,?_⟩
 have h2':=ay.slot h2;have hok:=List.all_eq_true.1 hS t ht;unfold okT at hok;unfold argPV
 have one:v.cells=#[v]→Rep P (fY W) true (pvs.headD .any) v:=by
  intro e;rw[e]at h2';cases pvs with
  |nil=>simp[ay]at h2'
  |cons p ps=>
   simp only[ay]at h2'
   obtain⟨x,xs,hx,hp,_⟩:=h2'
   simp only[List.cons.injEq]at hx;rw[hx.1];exact hp
 cases hu:P.underlying t with
 |none=>rw[hu]at hok;cases hok
 |some td=>
  rw[hu]at hok;cases td<;>first|(simp only[Bool.false_eq_true]at hok;done)|skip
  case bool=>obtain⟨b,rfl⟩:=WideShapes.okWide_bool hu hv;exact one rfl
  case int k=>obtain⟨m,rfl⟩:=WideShapes.okWide_int hu hv;exact one rfl
  case string=>obtain⟨s,rfl⟩:=WideShapes.okWide_string hu hv;exact one rfl
  case slice e=>obtain⟨a,len,cap,rfl⟩:=WideShapes.okWide_slice hu hv;exact one rfl
  case struct fs=>
   obtain⟨cs,rfl,_⟩:=WideShapes.okWide_struct hu hv
   simp only[Rep]
   exact⟨cs,rfl,h2'⟩
theorem abs_args(hS:S.all (okT P S)=true)(hinf:∀t∈S,∃i,P.info? t=some i∧i.bytes=P.bytesOf t∧i.size=P.cellsOf t){base:Nat}:∀{ts:List TypeId} {vs:List Value} {ds:List (DataW H)} {ps:List MemPlace},(∀t∈ts,t∈S)→
  (∀(j:Nat) t v,ts[j]? =some t→vs[j]? =some v→Value.okWide P W .any base t v)→DataW.TrodAll enc P W 0 (fun _=>true) true ts vs ds ps→(DataW.weightsEach P ts ds).all (·≤reachBytes)=true→
  ∃av0,ArgsSh P ts av0∧ay P (fY W) true av0 vs
 |[],_,_,_,_,_,h,_=>by
  obtain⟨rfl,rfl,rfl⟩:=trodAll_nil h
  exact⟨[],rfl,by simp[ay]⟩
 |t::ts,_,_,_,hm,hv,h,hw=>by
  obtain⟨v,vs,d,ds,p,q,rfl,rfl,rfl,h1,h2⟩:=trodAll_cons h
  simp only[DataW.weightsEach,List.all_append,Bool.and_eq_true]at hw
  obtain⟨n,pvs,a1,a2⟩:=abs_val hS hinf (hm t (by simp)) (hv 0 t v rfl rfl) h1 hw.1
  obtain⟨av0,b1,b2⟩:=abs_args hS hinf (fun t ht=>hm t (by simp[ht])) (fun j t v ht hv'=>hv (j+1) t v (by simpa using ht) (by simpa using hv')) h2 hw.2
  refine⟨argPV P t pvs::av0,⟨n,pvs,av0,rfl,a1,b1⟩,?_⟩
  simp only[ay]
  exact⟨v,vs,rfl,a2,b2⟩
theorem lR(hl:laidOutB P=true){W':World}(hb:RowKit.Below W.heap.size W W'){sp:Nat→Bool}:∀{ts:List TypeId} {vs:List Value} {ds:List (DataW H)} {ps:List MemPlace},(∀t∈ts,P.readableRec t=true∧t<P.types.size)→
  DataW.TrodAll enc P W 0 (fun _=>true) true ts vs ds ps→(∀x∈ps,x.block<W.heap.size)→(∀x∈ps,sp x.block=true)→DataW.TrodAll enc P W' 0 sp true ts vs ds ps
 |[],_,_,_,_,h,_,_=>by
  obtain⟨rfl,rfl,rfl⟩:=trodAll_nil h
  exact trodAll_mk0
 |t::ts,_,_,_,hr,h,hlt,hsp=>by
  obtain⟨v,vs,d,ds,p,q,rfl,rfl,rfl,h1,h2⟩:=trodAll_cons h
  exact⟨p,q,WideElems.Trod_stays hl (hr t (by simp)).1 (hr t (by simp)).2 h1 (fun x hx=>hb.same (hlt x (by simp[hx]))) (fun x hx=>hsp x (by simp[hx])),
   lR hl hb (fun t ht=>hr t (by simp[ht])) h2 (fun x hx=>hlt x (by simp[hx])) (fun x hx=>hsp x (by simp[hx])),rfl⟩
theorem mU{sp:Nat→Bool}{hd:Bool}:∀{ts:List TypeId} {vs:List Value} {ds:List (DataW H)} {ps:List MemPlace},DataW.TrodAll enc P W 0 sp hd ts vs ds ps→ds.length=ts.length
 |[],_,_,_,h=>by
  obtain⟨_,rfl,_⟩:=trodAll_nil h
  rfl
 |t::ts,_,_,_,h=>by
  obtain⟨v,vs,d,ds,p,q,rfl,rfl,rfl,_,h2⟩:=trodAll_cons h
  simp[mU h2]
theorem InvH.start(W:World)(hg:Gl W []):InvH P ⟨W,[],fY W,hg,[]⟩ (fY W) Heap.empty W:=
 ⟨fun _ _ _ h=>h,Mem.le_refl _,fun _ _ _ h=>.inl h,rfl,rfl,rfl,Nat.le_refl _,fun _ _ _=>rfl,fun _ _ h=>by simp[Heap.empty]at h,fun _ _ h=>by simp[Heap.empty]at h,
  fun _ _ _ _ h=>by simp[Heap.empty]at h,fun _ _ _ _ _ h=>by simp[Heap.empty]at h,fun _ _ _ _ h=>by simp[Heap.empty]at h⟩
theorem InvH.below{hg:Gl W []}{M:Mem}{Hp:Heap}{W':World}(h:InvH P ⟨W,[],fY W,hg,[]⟩ M Hp W'):RowKit.Below W.heap.size W W':=
 ⟨h.os,h.tape,h.output,h.size,fun k hk=>h.frame k hk (by simp)⟩
theorem law_calls(hl:laidOutB P=true){f:FuncId}{fn:Func}{s:ChangeSpec}{fresh handsOn again:Bool}{tb:TypeId}(hvars:s.vars=[])(hr:∀t∈fn.params.toList,P.readableRec t=true∧t<P.types.size)(hres:fn.resultTypes=#[tb])(htb:P.underlying tb=some .bool)
  (hfn:∀ds:List (DataW H),ds.length=fn.params.toList.length→s.fn H ds={results:=[.lit (.bool true)],args:=ds})
  (hS:S.all (okT P S)=true) (hinf:∀t∈S,∃i,P.info? t=some i∧i.bytes=P.bytesOf t∧i.size=P.cellsOf t) (hm:∀t∈fn.params.toList,t∈S)
  (hspec:∀av0,ArgsSh P fn.params.toList av0→bI P f av0 (.val (.bool true)))
  {base:Nat} {args:Array Value} {ds gs:List (DataW H)} {before:List MemPlace} (hval:∀(j:Nat) t v,fn.params[j]? =some t→args[j]? =some v→Value.okWide P W .any base t v)
  (hW:DataW.Whole enc P fn.params.toList s.vars false W args.toList ds gs before) (hg:Gl W []) (hsz:(DataW.weightsEach P (fn.params.toList++s.plain.varTypes P) (ds++gs)).all (·≤reachBytes)=true):
  Calls P f args W fun e W'=>∃v,e= .returned v∧s.post enc P fn false fresh handsOn again W args v W':=by
 have hlt:=hW.lt;have hW':=hW
 obtain⟨p,q,hA,hV,rfl,hz,hn⟩:=hW
 have hV':=hV;rw[hvars]at hV
 obtain⟨rfl,rfl⟩:=trodVars_none hV
 have hvt:s.plain.varTypes P=[]:=by simp[DataSpec.varTypes,ChangeSpec.plain,hvars]
 rw[hvt,List.append_nil,List.append_nil]at hsz;have hlen:ds.length=fn.params.toList.length:=mU hA
 obtain⟨av0,h1,h2⟩:=abs_args hS hinf hm (fun j t v ht hv=>hval j t v (by simpa using ht) (by simpa using hv)) hA hsz
 refine(hspec av0 h1 W (fY W) [] hg args (InvH.start W hg) h2).mono ?_
 rintro e W' ⟨v,u,H',M',rfl,⟨rfl,rfl⟩,hi,hrep⟩;simp only[Rep]at hrep;subst hrep;have hb:=hi.below
 refine⟨_,rfl,?_⟩
 have hfn':s.fn H (ds++[])={results:=[.lit (.bool true)],args:=ds}:=by rw[List.append_nil];exact hfn ds hlen
 have hargs:∀sp:Nat→Bool,(∀x∈p++[],sp x.block=true)→DataW.TrodAll enc P W' 0 sp true fn.params.toList args.toList ds p:=fun sp hsp=>
  lR hl hb hr hA (fun x hx=>hlt x (by simp[hx])) (fun x hx=>hsp x (by simp[hx]))
 have hres':∀(b:Nat) (sp:Nat→Bool) (hd:Bool),DataW.TrodAll enc P W' b sp hd fn.resultTypes.toList ((Value.bool true).resultList fn.resultTypes.size) [.lit (.bool true)] []:=by
  intro b sp hd;rw[hres];refine trodAll_mk1 ⟨1,?_⟩;show DataW.trod enc P W' b sp hd 1 tb [.bool true]=_;unfold DataW.trod;rw[htb]
 have hvs:∀sp:Nat→Bool,DataW.TrodVars enc P W' sp s.vars ([]:List (DataW H)) []:=fun sp=>by rw[hvars];simp[DataW.TrodVars]
 have hold:∀x∈p++[],(fun b=>decide (b<W.heap.size)) x.block=true:=fun x hx=>by simpa using hlt x hx
 refine⟨ds,[],p++[],[],p,[],hW',?_,?_,?_,hb.frame _,fun _=>⟨RowKit.ok_one hres rfl (RowKit.okWide_bool_mk htb true),[.lit (.bool true)]++ds,[],([]++p)++[],⟨[]++p,[],?_,hvs _,rfl,?_,fun h=>by cases h⟩,?_⟩⟩
 ·rw[hfn'];exact hres' _ _ _
 ·rw[hfn'];exact hargs _ hold
 ·rw[hfn'];exact hvs _
 ·exact trodAll_append (hargs _ fun _ _=>rfl) (hres' _ _ _)
 ·intro b off hx;have hx':MemPlace.cell b off∈p++[]:=by simpa using hx
  rw[hb.frozen (hlt _ hx')];exact hz b off hx'
 ·intro x hx _;simpa using hx
end
end
end Go.Ab

namespace Go.Ab
noncomputable section
def ag{α β:Type}(o:Option α)(k:α→Option β):Option β:=match o with
 |some a=>k a
 |none=>none
def dv{α β:Type}(a:α)(k:α→β):β:=k a
inductive Flow (σ ρ:Type) where
 |next (s:σ)
 |brk (s:σ)
 |ret (r:ρ)
def Flow.thenR{σ ρ:Type}(fl:Flow σ ρ)(k:σ→Option ρ):Option ρ:=match fl with
 | .next s=>k s
 | .brk s=>k s
 | .ret r=>some r
def Flow.thenF{σ τ ρ:Type}(fl:Flow σ ρ)(k:σ→Option (Flow τ ρ)):Option (Flow τ ρ):=match fl with
 | .next s=>k s
 | .brk s=>k s
 | .ret r=>some (.ret r)
def aY{α σ ρ:Type}(step:Nat→α→σ→Option (Flow σ ρ)):Nat→List α→σ→Option (Flow σ ρ)
 |_,[],s=>some (.next s)
 |j,x::xs,s=>match step j x s with
  |none=>none
  |some (.next s')=>aY step (j+1) xs s'
  |some (.brk s')=>some (.next s')
  |some (.ret r)=>some (.ret r)
def fq{σ ρ:Type}(step:σ→Option (Flow σ ρ)):Nat→σ→Option (Flow σ ρ)
 |0,_=>none
 |n+1,s=>match step s with
  |none=>none
  |some (.next s')=>fq step n s'
  |some (.brk s')=>some (.next s')
  |some (.ret r)=>some (.ret r)
open Classical in
def dJ{σ ρ:Type}(step:σ→Option (Flow σ ρ))(s:σ):Option (Flow σ ρ):=
 if h:∃r,∃n,fq step n s=some r then some h.choose else none
theorem iterM_le{σ ρ:Type}{step:σ→Option (Flow σ ρ)}:∀{n m:Nat} {s:σ} {r:Flow σ ρ},fq step n s=some r→n≤m→fq step m s=some r
 |0,_,_,_,h,_=>by simp[fq]at h
 |n+1,0,_,_,_,hm=>by omega
 |n+1,m+1,s,r,h,hm=>by
  simp only[fq]at h⊢;split at h
  ·cases h
  ·exact iterM_le h (by omega)
  ·exact h
  ·exact h
theorem whileM_iff{σ ρ:Type}{step:σ→Option (Flow σ ρ)}{s:σ}{r:Flow σ ρ}:dJ step s=some r↔∃n,fq step n s=some r:=by
 unfold dJ;constructor
 ·intro h;split at h
  ·rename_i hx
   obtain⟨n,hn⟩:=hx.choose_spec
   exact⟨n,by rw[hn];exact h⟩
  ·cases h
 ·rintro⟨n,hn⟩
  have hx:∃r,∃n,fq step n s=some r:=⟨r,n,hn⟩;rw[dif_pos hx]
  obtain⟨m,hm⟩:=hx.choose_spec
  have h1:=iterM_le hn (Nat.le_max_left n m);have h2:=iterM_le hm (Nat.le_max_right n m);rw[h1]at h2;exact h2.symm
theorem bM{σ ρ:Type}{step:σ→Option (Flow σ ρ)}{s:σ}{fl r:Flow σ ρ}(h:step s=some fl)(hr:match fl with| .next s'=>dJ step s'=some r| .brk s'=>r= .next s'| .ret x=>r= .ret x):dJ step s=some r:=by
 rw[whileM_iff];cases fl with
 |next s'=>
  obtain⟨n,hn⟩:=whileM_iff.1 hr
  exact⟨n+1,by simp only[fq,h,hn]⟩
 |brk s'=>exact⟨1,by simp only[fq,h,hr]⟩
 |ret x=>exact⟨1,by simp only[fq,h,hr]⟩
theorem ax{α β:Type}{o:Option α}{k:α→Option β}{r:β}(h:ag o k=some r):∃a,o=some a∧k a=some r:=by
 cases o with
 |none=>cases h
 |some a=>exact⟨a,rfl,h⟩
theorem fE{α β:Type}{a:α}{k:α→β}{r:β}(h:dv a k=r):∃x,a=x∧k x=r:=⟨a,rfl,h⟩
theorem condT{α:Type}{c:Bool}{A B r:α}(h:c=true)(H:cond c A B=r):A=r:=by subst h;exact H
theorem condF{α:Type}{c:Bool}{A B r:α}(h:c=false)(H:cond c A B=r):B=r:=by subst h;exact H
theorem aT{P:Program}{Px:PV→Prop}{fn:Func}{R:PV→Heap→Prop}{k:List KI}{st:PState}{c:Operand}{x y:Code}{b:Bool}(hc:evS st.s c= .val (.bool b)){α:Type}{A B r:α}(H:(bif b then A else B)=r)(ht:A=r→V P Px fn R (.code x::k) st)(hf:B=r→V P Px fn R (.code y::k) st):V P Px fn R (.code (.cond c x y)::k) st:=kl hc (fun h=>ht (Go.Ab.condT h H)) (fun h=>hf (Go.Ab.condF h H))
theorem cL{P:Program}{Px:PV→Prop}{ops:Array Oper}{o:Oper}{rest:List Oper}{n:Nat}{s:Nat→PV}{bx:Nat→Option Box}{ob:Nat→Option Obj}{K:PState→Prop}{j:Nat}{want b:Bool}{d:Nat}(hg:o.guard=some (j,want))(hd:(ops[j]?).bind (·.dst)=some d)(hs:s d= .val (.bool b)){α:Type}{A B r:α}(H:cond b A B=r)
  (ht:A=r→Ao P Px ops (o::rest) ⟨n,upd s d (.val (.bool true)),bx,ob⟩ K) (hf:B=r→Ao P Px ops (o::rest) ⟨n,upd s d (.val (.bool false)),bx,ob⟩ K):Ao P Px ops (o::rest) ⟨n,s,bx,ob⟩ K:=nG hg hd hs (fun h=>ht (condT h H)) (fun h=>hf (condF h H))
theorem Do.sH{P:Program}{Px:PV→Prop}{T:TT}{rb:RB}{ops:Array Oper}{o:Oper}{k:Nat}{L:List Nat}{n:Nat}{s:Nat→PV}{bx:Nat→Option Box}{ob:Nat→Option Obj}{K:PState→Prop}{j:Nat}{want b:Bool}{d:Nat}(ho:ops[k]? =some o)(hg:o.guard=some (j,want))(hd:(ops[j]?).bind (·.dst)=some d)(hs:s d= .val (.bool b)){α:Type}{A B r:α}(H:cond b A B=r)
  (ht:A=r→Do P Px T rb ops (k::L) ⟨n,upd s d (.val (.bool true)),bx,ob⟩ K) (hf:B=r→Do P Px T rb ops (k::L) ⟨n,upd s d (.val (.bool false)),bx,ob⟩ K):Do P Px T rb ops (k::L) ⟨n,s,bx,ob⟩ K:=nK ho hg hd hs (fun h=>ht (condT h H)) (fun h=>hf (condF h H))
theorem fP{P:Program}{Px:PV→Prop}{T:TT}{rb:RB}{ops:Array Oper}{o:Oper}{k:Nat}{L:List Nat}{n:Nat}{s:Nat→PV}{bx:Nat→Option Box}{ob:Nat→Option Obj}{K:PState→Prop}{j:Nat}{want b:Bool}{d:Nat}{α:Type}{A B r:α}(H:cond b A B=r)(ht:A=r→Do P Px T rb ops (k::L) ⟨n,upd s d (.val (.bool true)),bx,ob⟩ K)(hf:B=r→Do P Px T rb ops (k::L) ⟨n,upd s d (.val (.bool false)),bx,ob⟩ K)(ho:ops[k]? =some o:=by exact rfl)(hg:o.guard=some (j,want):=by exact rfl)(hd:(ops[j]?).bind (·.dst)=some d:=by exact rfl)(hs:s d= .val (.bool b):=by exact rfl):Do P Px T rb ops (k::L) ⟨n,s,bx,ob⟩ K:=Do.sH ho hg hd hs H ht hf
theorem dW{σ ρ:Type}{r x:ρ}{k:σ→Option ρ}(h:Flow.thenR (.ret r) k=some x):r=x:=Option.some.inj h
theorem aF{α:Type}{a b:α}(h:some a=some b):a=b:=Option.some.inj h
def iQ{α σ ρ:Type}(step:Nat→α→σ→Option (Flow σ ρ))(xs:List α)(j:Nat)(res:Flow σ ρ):Flow σ ρ→Prop
 | .next s'=>aY step (j+1) (xs.drop (j+1)) s'=some res
 | .brk s'=>res= .next s'
 | .ret r=>res= .ret r
theorem rMc{α σ ρ:Type}{step:Nat→α→σ→Option (Flow σ ρ)}{xs:List α}{j:Nat}{s:σ}{res:Flow σ ρ}(hj:j<xs.length)(h:aY step j (xs.drop j) s=some res):
  ∃x fl,xs[j]? =some x∧step j x s=some fl∧iQ step xs j res fl:=by
 rw[List.drop_eq_getElem_cons hj,aY]at h
 refine⟨xs[j],?_⟩
 split at h
 ·cases h
 ·rename_i s' hs;exact⟨_,ze hj,hs,h⟩
 ·rename_i s' hs;exact⟨_,ze hj,hs,(Option.some.inj h).symm⟩
 ·rename_i s' hs;exact⟨_,ze hj,hs,(Option.some.inj h).symm⟩
theorem rMd{α σ ρ:Type}{step:Nat→α→σ→Option (Flow σ ρ)}{xs:List α}{j:Nat}{s:σ}{res:Flow σ ρ}(hj:xs.length≤j)(h:aY step j (xs.drop j) s=some res):res= .next s:=by
 rw[List.drop_eq_nil_of_le hj,aY]at h
 exact(Option.some.inj h).symm
def iterGo{σ ρ:Type}(step:σ→Option (Flow σ ρ))(n:Nat)(res:Flow σ ρ):Flow σ ρ→Prop
 | .next s'=>fq step n s'=some res
 | .brk s'=>res= .next s'
 | .ret r=>res= .ret r
theorem eY{σ ρ:Type}{step:σ→Option (Flow σ ρ)}{n:Nat}{s:σ}{res:Flow σ ρ}(h:fq step (n+1) s=some res):∃fl,step s=some fl∧iterGo step n res fl:=by
 rw[fq]at h;split at h
 ·cases h
 ·rename_i s' hs;exact⟨_,hs,h⟩
 ·rename_i s' hs;exact⟨_,hs,(Option.some.inj h).symm⟩
 ·rename_i s' hs;exact⟨_,hs,(Option.some.inj h).symm⟩
section
variable{P:Program}{Px:PV→Prop}{fn:Func}{R:PV→Heap→Prop}{k:List KI}{n:Nat}{s:Nat→PV}{bx:Nat→Option Box}{ob:Nat→Option Obj}{T:TT}{st:PState}
theorem fI{τ γ:Type}(J:τ→γ→PState)(Gd:τ→Prop){c:Code}(h:V P Px fn R (.code c:: .stop (fun st'=>∃t g,Gd t∧st'=J t g)::k) st)(hk:∀t g,Gd t→V P Px fn R k (J t g)):
  V P Px fn R (.code c::k) st:=by
 intro C M a w hi
 have:=h C M a w hi
 simp only[after]at this⊢;refine wp_mono this ?_;intro e a w he;cases e with
 |normal=>
  obtain⟨C',st',M',hrb,⟨t,g,hG,rfl⟩,hi'⟩:=he
  exact fA hrb (retP_conv hrb) k _ a w (hk t g hG C' M' a w hi')
 |_=>exact he
theorem bX{τ γ:Type}{J:τ→γ→PState}{Gd:τ→Prop}(t:τ)(g:γ)(hG:Gd t)(h:Gh P st (J t g)):V P Px fn R (.stop (fun st'=>∃t g,Gd t∧st'=J t g)::k) st:=
 bD h (nF ⟨t,g,hG,rfl⟩)
theorem jk{τ γ β:Type}{x:Option τ}{f:τ→Option β}{r:β}(J:τ→γ→PState){c:Code}(H:ag x f=some r)(h:∀u,x=some u→V P Px fn R (.code c:: .stop (fun st'=>∃t g,t=u∧st'=J t g)::k) st)
  (hk:∀t g,f t=some r→V P Px fn R k (J t g)):V P Px fn R (.code c::k) st:=by
 obtain⟨u,h1,h2⟩:=ax H
 exact fI J (fun t=>t=u) (h u h1) (fun t g e=>hk t g (e▸h2))
theorem ni{τ γ β:Type}{x:τ}{f:τ→β}{r:β}(J:τ→γ→PState){c:Code}(H:dv x f=r)(h:∀u,x=u→V P Px fn R (.code c:: .stop (fun st'=>∃t g,t=u∧st'=J t g)::k) st)
  (hk:∀t g,f t=r→V P Px fn R k (J t g)):V P Px fn R (.code c::k) st:=by
 obtain⟨u,h1,h2⟩:=fE H
 exact fI J (fun t=>t=u) (h u h1) (fun t g e=>hk t g (e▸h2))
theorem lW{σ γ β:Type}{x:Option (Flow σ β)}{f:σ→Option β}{r:β}(J:σ→γ→PState){c:Code}(H:ag x (fun fl=>fl.thenR f)=some r)(h:∀u,x=some u→u.thenR f=some r→V P Px fn R (.code c:: .stop (fun st'=>∃t g,u= .next t∧st'=J t g)::k) st)
  (hk:∀t g,f t=some r→V P Px fn R k (J t g)):V P Px fn R (.code c::k) st:=by
 obtain⟨u,h1,h2⟩:=ax H
 exact fI J (fun t=>u= .next t) (h u h1 h2) (fun t g e=>hk t g (by subst e;exact h2))
theorem lH{α σ ρ γ:Type}{step:Nat→α→σ→Option (Flow σ ρ)}{xs:List α}{res:Flow σ ρ}(F:Nat→σ→γ→PState){s₀:σ}(g₀:γ){c:Code}
  (hres:aY step 0 xs s₀=some res) (h₀:Gh P st (F 0 s₀ g₀))
  (round:∀j s g,j≤xs.length→aY step j (xs.drop j) s=some res→
   V P Px fn R (.code c:: .stop (fun st'=>∃s' g',(j+1≤xs.length∧aY step (j+1) (xs.drop (j+1)) s'=some res)∧st'=F (j+1) s' g')::k) (F j s g)):
  V P Px fn R (.code (.loop c)::k) st:=by
 refine nC (X:=Nat×σ×γ) (fun X=>F X.1 X.2.1 X.2.2) (fun X=>X.1≤xs.length∧aY step X.1 (xs.drop X.1) X.2.1=some res) (fun X=>xs.length-X.1) (0,s₀,g₀) ⟨Nat.zero_le _,by simpa using hres⟩ h₀ ?_
 rintro⟨j,s,g⟩ ⟨h1,h2⟩
 refine nz (fun st' ⟨s',g',⟨h4,h5⟩,e⟩=>⟨(j+1,s',g'),?_,⟨h4,h5⟩,e⟩) (round j s g h1 h2);show xs.length-(j+1)<xs.length-j;omega
theorem eR{σ γ:Type}{Q:σ→Prop}{F:σ→γ→PState}(s':σ)(g':γ)(hQ:Q s')(h:Gh P st (F s' g')):V P Px fn R (.stop (fun st'=>∃s' g',Q s'∧st'=F s' g')::k) st:=
 bD h (nF ⟨s',g',hQ,rfl⟩)
theorem fV{σ ρ γ:Type}{step:σ→Option (Flow σ ρ)}{res:Flow σ ρ}(F:σ→γ→PState){s₀:σ}(g₀:γ){c:Code}
  (hres:dJ step s₀=some res) (h₀:Gh P st (F s₀ g₀))
  (round:∀m s g,fq step (m+1) s=some res→V P Px fn R (.code c:: .stop (fun st'=>∃s' g',fq step m s'=some res∧st'=F s' g')::k) (F s g)):
  V P Px fn R (.code (.loop c)::k) st:=by
 obtain⟨m,hm⟩:=whileM_iff.1 hres
 refine nC (X:=Nat×σ×γ) (fun X=>F X.2.1 X.2.2) (fun X=>fq step X.1 X.2.1=some res) (fun X=>X.1) (m,s₀,g₀) hm h₀ ?_
 rintro⟨j,s,g⟩ h2
 cases j with
 |zero=>simp[fq]at h2
 |succ j=>
 exact nz (fun st' ⟨s',g',h5,e⟩=>⟨(j,s',g'),Nat.lt_succ_self j,h5,e⟩) (round j s g h2)
theorem Gh.cast(d:Nat){p q:PV}(hs:s d=p)(h:PLe P p q):Gh P ⟨n,s,bx,ob⟩ ⟨n,upd s d q,bx,ob⟩:=fun _ M _ _ hi=>
 ⟨M,⟨hi.1.1,hi.1.2.1,fun t=>by
  show Rep P M true (upd s d q t) _;rw[dE];split
  ·rename_i e;subst e;have:=hi.1.2.2 t;exact h M _ (hs▸this)
  ·exact hi.1.2.2 t⟩,hi.2⟩
end
section
variable{α:Type}{f f':α→List PV}
theorem gp(hE:∀x,f' x=f x){xs:List α}{j:Nat}{x:α}(h:xs[j]? =some x):(xs.map f')[((j:Nat):Int).toNat]? =some (f x):=by
 simp[h,hE]
theorem co(hE:∀x,f' x=f x){xs:List α}{i:Int}{x:α}(h:xs[i.toNat]? =some x):(xs.map f')[i.toNat]? =some (f x):=by
 simp[h,hE]
theorem em(hE:∀x,f' x=f x)(xs:List α):xs.map f=xs.map f':=by
 apply List.map_congr_left;intro x _
 exact(hE x).symm
end
theorem dN.of_eq{P:Program}{a b:List (List PV)}(h:a=b):dN P a b:=h▸dN.refl a
theorem dN.trans{P:Program}{a b c:List (List PV)}(h:dN P a b)(h':dN P b c):dN P a c:=⟨h.1.trans h'.1,fun M k x o hx=>h'.2 M k x o (h.2 M k x o hx)⟩
def bl{α:Type}(xs:List α)(i:Int):Option α:=if 0≤i then xs[i.toNat]? else none
theorem gIs{α:Type}{xs:List α}{i:Int}{x:α}(h:bl xs i=some x):0≤i∧xs[i.toNat]? =some x:=by
 unfold bl at h;split at h
 ·rename_i h0;exact⟨h0,h⟩
 ·cases h
theorem dg{α β:Type}{xs:List α}{i:Int}{k:α→Option β}{r:β}(h:ag (bl xs i) k=some r):∃a,(0≤i∧xs[i.toNat]? =some a)∧k a=some r:=by
 obtain⟨a,h1,h2⟩:=ax h
 exact⟨a,gIs h1,h2⟩
def fj{α:Type}(xs:List α)(a b:Int):Option (List α):=if 0≤a∧a≤b∧b≤xs.length then some ((xs.take b.toNat).drop a.toNat)else none
theorem fB{α:Type}{xs ys:List α}{a b:Int}(h:fj xs a b=some ys):(0≤a∧a≤b∧b≤xs.length)∧ys=(xs.take b.toNat).drop a.toNat:=by
 unfold fj at h;split at h
 ·rename_i h0;exact⟨h0,(Option.some.inj h).symm⟩
 ·cases h
def bj(a b:List UInt8):Option (List UInt8):=if a.length+b.length≤dB then some (a++b)else none
theorem aL{a b c:List UInt8}(h:bj a b=some c):a.length+b.length≤dB∧c=a++b:=by
 unfold bj at h;split at h
 ·rename_i h0;exact⟨h0,(Option.some.inj h).symm⟩
 ·cases h
def dY{α:Type}(bytes:Nat)(xs ys:List α):Option (List α):=if(xs.length+ys.length)*bytes≤2^47∧xs.length+ys.length≤maxLen then some (xs++ys)else none
theorem dU{α:Type}{bytes:Nat}{xs ys zs:List α}(h:dY bytes xs ys=some zs):(xs.length+ys.length)*bytes≤2^47∧xs.length+ys.length≤maxLen∧zs=xs++ys:=by
 unfold dY at h;split at h
 ·rename_i h0;exact⟨h0.1,h0.2,(Option.some.inj h).symm⟩
 ·cases h
theorem fc{α β:Type}{f:α→β}{bytes:Nat}{xs ys:List α}(h:(xs.length+ys.length)*bytes≤2^47):((xs.map f).length+(ys.map f).length)*bytes≤2^47:=by simpa using h
theorem fa{α β:Type}{f:α→β}{xs ys:List α}(h:xs.length+ys.length≤maxLen):(xs.map f).length+(ys.map f).length≤maxLen:=by simpa using h
theorem eZ{α β:Type}{f:α→β}{xs ys zs:List α}(h:zs=xs++ys):xs.map f++ys.map f=zs.map f:=by rw[h,List.map_append]
def Flow.thenP{σ β:Type}(fl:Flow σ Empty)(k:σ→Option β):Option β:=match fl with
 | .next s=>k s
 | .brk s=>k s
 | .ret r=>r.elim
theorem thenP_next{σ β:Type}{fl:Flow σ Empty}{t:σ}{k:σ→Option β}{r:β}(h:fl= .next t)(H:fl.thenP k=some r):k t=some r:=by subst h;exact H
theorem eG{σ ρ:Type}{fl:Flow σ ρ}{t:σ}{k:σ→Option ρ}{r:ρ}(h:fl= .next t)(H:fl.thenR k=some r):k t=some r:=by subst h;exact H
section
variable{P:Program}{Px:PV→Prop}{fn:Func}{R:PV→Heap→Prop}{k:List KI}{n:Nat}{s:Nat→PV}{bx:Nat→Option Box}{ob:Nat→Option Obj}{T:TT}
def nB{σ γ:Type}:σ→γ→Nat→Option Box:=fun _ _ _=>none
def nO{σ γ:Type}:σ→γ→Nat→Option Obj:=fun _ _ _=>none
theorem nu{α σ ρ γ β:Type}{step:Nat→α→σ→Option (Flow σ ρ)}{xs:List α}{s₀:σ}{th:Flow σ ρ→Option β}{r:β}{rw:α→List PV}
  (hT:T.Ok P) (d:Nat) {e:TypeId} {ei:TInfo} (hei:T.get e=some ei) (hs:s d= .list e (xs.map rw))
  (S:σ→γ→Nat→PV) (B:σ→γ→Nat→Option Box) (O:σ→γ→Nat→Option Obj) (E:(Nat→PV)→Nat→σ→γ→Nat→PV) (g₀:γ)
  {id rid:Nat} {ops:Array Oper} {o:Oper} {tst:Operand} {rest:Code} {S':Nat→σ→γ→Nat→PV}
  (H:ag (aY step 0 xs s₀) th=some r)
  (h₀:Gh P ⟨n,s,bx,ob⟩ ⟨n,E (S s₀ g₀) 0 s₀ g₀,B s₀ g₀,O s₀ g₀⟩)
  (ho:ops.toList=[o])
  (hq:∀j s g,ec T ops n (E (S s g) j s g) (B s g) o=some (S' j s g))
  (ht:∀j s g,evS (S' j s g) tst= .val (.bool (decide ((j:Int)<((xs.length:Nat):Int)))))
  (hx:∀j s g,Gh P ⟨n,S' j s g,B s g,O s g⟩ ⟨n,S s g,B s g,O s g⟩)
  (round:∀fl,th fl=some r→∀j s g,xs.length≤maxLen→j<xs.length→∀x fb,xs[j]? =some x→step j x s=some fb→iQ step xs j fl fb→
   V P Px fn R (.code rest:: .stop (fun st'=>∃s' g',(j+1≤xs.length∧aY step (j+1) (xs.drop (j+1)) s'=some fl)∧st'=⟨n,E (S s' g') (j+1) s' g',B s' g',O s' g'⟩):: .blk id:: .stop (fun st'=>∃t g,fl= .next t∧st'=⟨n,S t g,B t g,O t g⟩)::k) ⟨n,S' j s g,B s g,O s g⟩)
  (hk:∀t g,th (.next t)=some r→V P Px fn R k ⟨n,S t g,B t g,O t g⟩):
  V P Px fn R (.code (.block id (.loop (.seq (.region rid ops false) (.seq (.cond tst .skip (.exit id)) rest))))::k) ⟨n,s,bx,ob⟩:=by
 refine V.lenF hT d hei hs (fun hz _=>?_);rw[zl]at hz
 obtain⟨fl,h1,h2⟩:=ax H
 refine fI (fun t g=>⟨n,S t g,B t g,O t g⟩) (fun t=>fl= .next t) ?_ (fun t g e=>hk t g (by subst e;exact h2));refine bs (lH (fun j s g=>⟨n,E (S s g) j s g,B s g,O s g⟩) g₀ h1 h₀ (fun j s g hj hr=>?_));refine ah (ae ?_);rw[ho];refine ap hT (hq j s g) (af ?_);refine ah (kl (ht j s g) (fun h=>?_) (fun h=>?_))
 ·have hl:j<xs.length:=by simpa using h
  obtain⟨x,fb,hx1,H,hg⟩:=rMc hl hr
  exact aQ (round fl h2 j s g hz hl x fb hx1 H hg)
 ·have hn:=rMd (by simpa using h) hr;refine eI (k':= .stop (fun st'=>∃t g,fl= .next t∧st'=⟨n,S t g,B t g,O t g⟩)::k) ?_ (bX s g hn (hx j s g));simp[iY,Nat.beq_refl]
theorem nP{α σ γ β:Type}{step:Nat→α→σ→Option (Flow σ Empty)}{xs:List α}{s₀:σ}{kk:σ→Option (β)}{r:β}{rw:α→List PV}
  (hT:T.Ok P) (d:Nat) {e:TypeId} {ei:TInfo} (hei:T.get e=some ei) (hs:s d= .list e (xs.map rw))
  (S:σ→γ→Nat→PV) (B:σ→γ→Nat→Option Box) (O:σ→γ→Nat→Option Obj) (E:(Nat→PV)→Nat→σ→γ→Nat→PV) (g₀:γ)
  {id rid:Nat} {ops:Array Oper} {o:Oper} {tst:Operand} {rest:Code} {S':Nat→σ→γ→Nat→PV}
  (H:ag (aY step 0 xs s₀) (fun fl=>fl.thenP kk)=some r)
  (ho:ops.toList=[o])
  (h₀:Gh P ⟨n,s,bx,ob⟩ ⟨n,E (S s₀ g₀) 0 s₀ g₀,B s₀ g₀,O s₀ g₀⟩)
  (hq:∀j s g,ec T ops n (E (S s g) j s g) (B s g) o=some (S' j s g))
  (ht:∀j s g,evS (S' j s g) tst= .val (.bool (decide ((j:Int)<((xs.length:Nat):Int)))))
  (hx:∀j s g,Gh P ⟨n,S' j s g,B s g,O s g⟩ ⟨n,S s g,B s g,O s g⟩)
  (round:∀fl,fl.thenP kk=some r→∀j s g,xs.length≤maxLen→j<xs.length→∀x fb,xs[j]? =some x→step j x s=some fb→iQ step xs j fl fb→
   V P Px fn R (.code rest:: .stop (fun st'=>∃s' g',(j+1≤xs.length∧aY step (j+1) (xs.drop (j+1)) s'=some fl)∧st'=⟨n,E (S s' g') (j+1) s' g',B s' g',O s' g'⟩):: .blk id:: .stop (fun st'=>∃t g,fl= .next t∧st'=⟨n,S t g,B t g,O t g⟩)::k) ⟨n,S' j s g,B s g,O s g⟩)
  (hk:∀t g,kk t=some r→V P Px fn R k ⟨n,S t g,B t g,O t g⟩):
  V P Px fn R (.code (.block id (.loop (.seq (.region rid ops false) (.seq (.cond tst .skip (.exit id)) rest))))::k) ⟨n,s,bx,ob⟩:=
 nu hT d hei hs S B O E g₀ H h₀ ho hq ht hx round (fun t g e=>hk t g e)
theorem nI{α σ γ β:Type}{step:Nat→α→σ→Option (Flow σ β)}{xs:List α}{s₀:σ}{kk:σ→Option (β)}{r:β}{rw:α→List PV}
  (hT:T.Ok P) (d:Nat) {e:TypeId} {ei:TInfo} (hei:T.get e=some ei) (hs:s d= .list e (xs.map rw))
  (S:σ→γ→Nat→PV) (B:σ→γ→Nat→Option Box) (O:σ→γ→Nat→Option Obj) (E:(Nat→PV)→Nat→σ→γ→Nat→PV) (g₀:γ)
  {id rid:Nat} {ops:Array Oper} {o:Oper} {tst:Operand} {rest:Code} {S':Nat→σ→γ→Nat→PV}
  (H:ag (aY step 0 xs s₀) (fun fl=>fl.thenR kk)=some r)
  (ho:ops.toList=[o])
  (h₀:Gh P ⟨n,s,bx,ob⟩ ⟨n,E (S s₀ g₀) 0 s₀ g₀,B s₀ g₀,O s₀ g₀⟩)
  (hq:∀j s g,ec T ops n (E (S s g) j s g) (B s g) o=some (S' j s g))
  (ht:∀j s g,evS (S' j s g) tst= .val (.bool (decide ((j:Int)<((xs.length:Nat):Int)))))
  (hx:∀j s g,Gh P ⟨n,S' j s g,B s g,O s g⟩ ⟨n,S s g,B s g,O s g⟩)
  (round:∀fl,fl.thenR kk=some r→∀j s g,xs.length≤maxLen→j<xs.length→∀x fb,xs[j]? =some x→step j x s=some fb→iQ step xs j fl fb→
   V P Px fn R (.code rest:: .stop (fun st'=>∃s' g',(j+1≤xs.length∧aY step (j+1) (xs.drop (j+1)) s'=some fl)∧st'=⟨n,E (S s' g') (j+1) s' g',B s' g',O s' g'⟩):: .blk id:: .stop (fun st'=>∃t g,fl= .next t∧st'=⟨n,S t g,B t g,O t g⟩)::k) ⟨n,S' j s g,B s g,O s g⟩)
  (hk:∀t g,kk t=some r→V P Px fn R k ⟨n,S t g,B t g,O t g⟩):
  V P Px fn R (.code (.block id (.loop (.seq (.region rid ops false) (.seq (.cond tst .skip (.exit id)) rest))))::k) ⟨n,s,bx,ob⟩:=
 nu hT d hei hs S B O E g₀ H h₀ ho hq ht hx round (fun t g e=>hk t g e)
def eL{α:Type}(i m d:Nat)(ety:TypeId)(xs:List α)(rw:α→List PV)(e:Nat→PV)(j:Nat):Nat→PV:=upd (upd (upd e i (.val (.int .i64 (j:Int)))) m (.val (.int .i64 (xs.length:Int)))) d (.list ety (xs.map rw))
theorem nq{α σ γ β:Type}{step:Nat→α→σ→Option (Flow σ Empty)}{xs:List α}{s₀:σ}{kk:σ→Option (β)}{r:β}{rw:α→List PV}
  (hT:T.Ok P) (i m d:Nat) {e:TypeId} {ei:TInfo}
  (S:σ→γ→Nat→PV) (B:σ→γ→Nat→Option Box) (O:σ→γ→Nat→Option Obj) (g₀:γ)
  {id rid:Nat} {ops:Array Oper} {o:Oper} {tst:Operand} {rest:Code} {S':Nat→σ→γ→Nat→PV}
  (H:ag (aY step 0 xs s₀) (fun fl=>fl.thenP kk)=some r)
  (round:∀fl,fl.thenP kk=some r→∀j s g,xs.length≤maxLen→j<xs.length→∀x fb,xs[j]? =some x→step j x s=some fb→iQ step xs j fl fb→
   V P Px fn R (.code rest:: .stop (fun st'=>∃s' g',(j+1≤xs.length∧aY step (j+1) (xs.drop (j+1)) s'=some fl)∧st'=⟨n,eL i m d e xs rw (S s' g') (j+1),B s' g',O s' g'⟩):: .blk id:: .stop (fun st'=>∃t g,fl= .next t∧st'=⟨n,S t g,B t g,O t g⟩)::k) ⟨n,S' j s g,B s g,O s g⟩)
  (hk:∀t g,kk t=some r→V P Px fn R k ⟨n,S t g,B t g,O t g⟩)
  (hs:s d= .list e (xs.map rw):=by exact rfl) (hei:T.get e=some ei:=by exact rfl) (ho:ops.toList=[o]:=by exact rfl)
  (h₀:Gh P ⟨n,s,bx,ob⟩ ⟨n,eL i m d e xs rw (S s₀ g₀) 0,B s₀ g₀,O s₀ g₀⟩:=by exact Gh.d)
  (hq:∀j s g,ec T ops n (eL i m d e xs rw (S s g) j) (B s g) o=some (S' j s g):=by exact fun _ _ _=>rfl)
  (ht:∀j s g,evS (S' j s g) tst= .val (.bool (decide ((j:Int)<((xs.length:Nat):Int)))):=by exact fun _ _ _=>rfl)
  (hx:∀j s g,Gh P ⟨n,S' j s g,B s g,O s g⟩ ⟨n,S s g,B s g,O s g⟩:=by exact fun _ _ _=>Gh.d):
  V P Px fn R (.code (.block id (.loop (.seq (.region rid ops false) (.seq (.cond tst .skip (.exit id)) rest))))::k) ⟨n,s,bx,ob⟩:=
 nP hT d hei hs S B O (fun e j _ _=>eL i m d _ xs rw e j) g₀ H ho h₀ hq ht hx round hk
theorem mA{α σ γ β:Type}{step:Nat→α→σ→Option (Flow σ β)}{xs:List α}{s₀:σ}{kk:σ→Option (β)}{r:β}{rw:α→List PV}
  (hT:T.Ok P) (i m d:Nat) {e:TypeId} {ei:TInfo}
  (S:σ→γ→Nat→PV) (B:σ→γ→Nat→Option Box) (O:σ→γ→Nat→Option Obj) (g₀:γ)
  {id rid:Nat} {ops:Array Oper} {o:Oper} {tst:Operand} {rest:Code} {S':Nat→σ→γ→Nat→PV}
  (H:ag (aY step 0 xs s₀) (fun fl=>fl.thenR kk)=some r)
  (round:∀fl,fl.thenR kk=some r→∀j s g,xs.length≤maxLen→j<xs.length→∀x fb,xs[j]? =some x→step j x s=some fb→iQ step xs j fl fb→
   V P Px fn R (.code rest:: .stop (fun st'=>∃s' g',(j+1≤xs.length∧aY step (j+1) (xs.drop (j+1)) s'=some fl)∧st'=⟨n,eL i m d e xs rw (S s' g') (j+1),B s' g',O s' g'⟩):: .blk id:: .stop (fun st'=>∃t g,fl= .next t∧st'=⟨n,S t g,B t g,O t g⟩)::k) ⟨n,S' j s g,B s g,O s g⟩)
  (hk:∀t g,kk t=some r→V P Px fn R k ⟨n,S t g,B t g,O t g⟩)
  (hs:s d= .list e (xs.map rw):=by exact rfl) (hei:T.get e=some ei:=by exact rfl) (ho:ops.toList=[o]:=by exact rfl)
  (h₀:Gh P ⟨n,s,bx,ob⟩ ⟨n,eL i m d e xs rw (S s₀ g₀) 0,B s₀ g₀,O s₀ g₀⟩:=by exact Gh.d)
  (hq:∀j s g,ec T ops n (eL i m d e xs rw (S s g) j) (B s g) o=some (S' j s g):=by exact fun _ _ _=>rfl)
  (ht:∀j s g,evS (S' j s g) tst= .val (.bool (decide ((j:Int)<((xs.length:Nat):Int)))):=by exact fun _ _ _=>rfl)
  (hx:∀j s g,Gh P ⟨n,S' j s g,B s g,O s g⟩ ⟨n,S s g,B s g,O s g⟩:=by exact fun _ _ _=>Gh.d):
  V P Px fn R (.code (.block id (.loop (.seq (.region rid ops false) (.seq (.cond tst .skip (.exit id)) rest))))::k) ⟨n,s,bx,ob⟩:=
 nI hT d hei hs S B O (fun e j _ _=>eL i m d _ xs rw e j) g₀ H ho h₀ hq ht hx round hk
end
def resT(s:Nat→PV):List ResultVar→Option (List PV)
 |[]=>some []
 | .tmp t::l=>match resT s l with|some ps=>some (s t::ps)|none=>none
 | .cell _ _::_=>none
section
variable{P:Program}{Px:PV→Prop}{fn:Func}{R:PV→Heap→Prop}{k:List KI}{n:Nat}{s:Nat→PV}{bx:Nat→Option Box}{ob:Nat→Option Obj}{T:TT}{st:PState}
theorem resT_all:∀{l:List ResultVar} {ps:List PV},resT s l=some ps→il T ⟨n,s,bx,ob⟩ l ps
 |[],ps,h=>by simp only[resT,zo]at h;exact h.symm
 | .tmp t::l,ps,h=>by
  simp only[resT]at h;split at h
  ·rename_i qs hq;cases h;exact⟨_,_,rfl,rfl,resT_all hq⟩
  ·cases h
 | .cell _ _::_,ps,h=>by simp[resT]at h
theorem lD{α:Type}{x y:α}{ps:List PV}{r:PV}(hT:T.Ok P)(H:x=y)(h:resT s fn.results.toList=some ps)(he:x=y→jC ps=r:=by intro e;subst e;rfl):
  V P Px fn (fun u H=>u=r∧H=Heap.empty) (.code .ret::k) ⟨n,s,bx,ob⟩:=cD hT rfl (resT_all h) (PLe.q (he H))
theorem bm{α:Type}{x y:α}{ps:List PV}{r:PV}(hT:T.Ok P)(H:some x=some y)(h:resT s fn.results.toList=some ps)(he:x=y→jC ps=r:=by intro e;subst e;rfl):
  V P Px fn (fun u H=>u=r∧H=Heap.empty) (.code .ret::k) ⟨n,s,bx,ob⟩:=lD hT (aF H) h he
theorem mG{α:Type}{x y:α}{r p:PV}{a t tag b off:Nat}{ti:TInfo}{cells:List PV}(hT:T.Ok P)(H:x=y)(hr:fn.results=#[.cell a t])(hti:T.get t=some ti)(hs:s a= .box tag b off)(hb:bx tag=some ⟨b,cells⟩)(hc:dV ti off cells=some p)(he:x=y→p=r:=by intro e;subst e;rfl):
  V P Px fn (fun u H=>u=r∧H=Heap.empty) (.code .ret::k) ⟨n,s,bx,ob⟩:=cD hT hr (ps:=[p]) ⟨_,_,rfl,⟨_,_,_,_,_,hti,hs,hb,hc⟩,rfl⟩ (PLe.q (he H))
theorem gr{α σ ρ γ:Type}{step:Nat→α→σ→Option (Flow σ ρ)}{xs:List α}{j:Nat}{res fb:Flow σ ρ}{v:σ}{F:σ→γ→PState}(g':γ)(H:some (Flow.next v)=some fb)(hl:j<xs.length)(hg:iQ step xs j res fb)(h:Gh P st (F v g'):=by exact Gh.d):
  V P Px fn R (.stop (fun st'=>∃s' g',(j+1≤xs.length∧aY step (j+1) (xs.drop (j+1)) s'=some res)∧st'=F s' g')::k) st:=by
 cases H;exact eR v g' ⟨hl,hg⟩ h
end
def iq(n:Int):Option Nat:=if n≤2^62 then some n.toNat else none
theorem kO{n:Int}{m:Nat}(h:iq n=some m):n≤2^62∧m=n.toNat:=by
 unfold iq at h;split at h
 ·rename_i h0;exact⟨h0,(Option.some.inj h).symm⟩
 ·cases h
section
variable{P:Program}{Px:PV→Prop}{ops:Array Oper}{rest:List Oper}{o:Oper}{n:Nat}{s s':Nat→PV}{bx:Nat→Option Box}{ob:Nat→Option Obj}{K:PState→Prop}{T:TT}{rb:RB}{k:Nat}{L:List Nat}
theorem Ao.cast(d:Nat){p q:PV}(hs:s d=p)(h:PLe P p q)(hV:Ao P Px ops rest ⟨n,upd s d q,bx,ob⟩ K):Ao P Px ops rest ⟨n,s,bx,ob⟩ K:=aH (Gh.cast d hs h) hV
theorem Ao.lenL(hT:T.Ok P)(hg:aN ops s o=some true){x:Operand}{t:TypeId}{ts:List TypeId}(ho:o.op= .call {callee:= .builtin .len,args:=#[x],argTypes:=(t::ts).toArray}){ti:TInfo}{e':TypeId}(hti:T.get t=some ti)(hd:ti.desc= .slice e')
  {e:TypeId} {rows:List (List PV)} (hx:evS s x= .list e rows) {m:Nat} (hm:rows.length=m) (hp:putD n s o.dst (.val (.int .i64 m))=some s') (h:Ao P Px ops rest ⟨n,s',bx,ob⟩ K):Ao P Px ops (o::rest) ⟨n,s,bx,ob⟩ K:=by
 refine jb hT hg (r:= .val (.int .i64 m)) ?_ hp h;rw[ho];simp[eJ,jc,hti,hd,hx,lenPV,hm]
theorem bK{x:Operand}{t:TypeId}{ts:List TypeId}{ti:TInfo}{e':TypeId}{e:TypeId}{rows:List (List PV)}{m:Nat}(hT:T.Ok P)(hm:rows.length=m)(h:Ao P Px ops rest ⟨n,s',bx,ob⟩ K)(hg:aN ops s o=some true:=by exact rfl)(ho:o.op= .call {callee:= .builtin .len,args:=#[x],argTypes:=(t::ts).toArray}:=by exact rfl)(hti:T.get t=some ti:=by exact rfl)(hd:ti.desc= .slice e':=by exact rfl)(hx:evS s x= .list e rows:=by exact rfl)(hp:putD n s o.dst (.val (.int .i64 m))=some s':=by exact rfl):Ao P Px ops (o::rest) ⟨n,s,bx,ob⟩ K:=Ao.lenL hT hg ho hti hd hx hm hp h
theorem nk(hT:T.Ok P)(hg:aN ops s o=some true){x:Operand}{t:TypeId}{ts:List TypeId}(ho:o.op= .call {callee:= .builtin .len,args:=#[x],argTypes:=(t::ts).toArray}){ti:TInfo}{e':TypeId}(hti:T.get t=some ti)(hd:ti.desc= .slice e')
  {tg l:Nat} {g:OwnRef} (hx:evS s x= .own tg g l) {m:Nat} (hm:l=m) (hp:putD n s o.dst (.val (.int .i64 m))=some s') (h:Ao P Px ops rest ⟨n,s',bx,ob⟩ K):Ao P Px ops (o::rest) ⟨n,s,bx,ob⟩ K:=by
 refine jb hT hg (r:= .val (.int .i64 m)) ?_ hp h;rw[ho];simp[eJ,jc,hti,hd,hx,lenPV,hm]
theorem mB(ho:ops[k]? =some o)(hg:aN ops s o=some true){x:Operand}{t:TypeId}{ts:List TypeId}(hop:o.op= .call {callee:= .builtin .len,args:=#[x],argTypes:=(t::ts).toArray}){ti:TInfo}{e':TypeId}(hti:T.get t=some ti)(hd:ti.desc= .slice e')
  {e:TypeId} {rows:List (List PV)} (hx:evS s x= .list e rows) {m:Nat} (hm:rows.length=m) (hp:putD n s o.dst (.val (.int .i64 m))=some s') (h:Do P Px T rb ops L ⟨n,s',bx,ob⟩ K):Do P Px T rb ops (k::L) ⟨n,s,bx,ob⟩ K:=by
 refine mD ho hg (by rw[hop];rfl) (r:= .val (.int .i64 m)) ?_ hp h;rw[hop];simp[eu,eJ,jc,hti,hd,hx,lenPV,hm]
theorem nn(ho:ops[k]? =some o)(hg:aN ops s o=some true){x:Operand}{t:TypeId}{ts:List TypeId}(hop:o.op= .call {callee:= .builtin .len,args:=#[x],argTypes:=(t::ts).toArray}){ti:TInfo}{e':TypeId}(hti:T.get t=some ti)(hd:ti.desc= .slice e')
  {tg l:Nat} {g:OwnRef} (hx:evS s x= .own tg g l) {m:Nat} (hm:l=m) (hp:putD n s o.dst (.val (.int .i64 m))=some s') (h:Do P Px T rb ops L ⟨n,s',bx,ob⟩ K):Do P Px T rb ops (k::L) ⟨n,s,bx,ob⟩ K:=by
 refine mD ho hg (by rw[hop];rfl) (r:= .val (.int .i64 m)) ?_ hp h;rw[hop];simp[eu,eJ,jc,hti,hd,hx,lenPV,hm]
theorem nA(ho:ops[k]? =some o)(hg:aN ops s o=some true){t:TypeId}{x i:Operand}(hop:o.op= .index t x i){ti:TInfo}(hti:T.get t=some ti)(hd:ti.desc= .string){l:List UInt8}(hx:evS s x= .str l){kk:IntKind}{j:Int}
  (hi:evS s i= .val (.int kk j)) {c:UInt8} (h0:0≤j) (hr:l[j.toNat]? =some c) (hp:putD n s o.dst (.val (.int .u8 c.toNat))=some s') (h:Do P Px T rb ops L ⟨n,s',bx,ob⟩ K):Do P Px T rb ops (k::L) ⟨n,s,bx,ob⟩ K:=by
 refine mD ho hg (by rw[hop];rfl) (r:= .val (.int .u8 c.toNat)) ?_ hp h;rw[hop];simp[eu,eJ,hti,hx,hi,hd,h0,hr]
theorem mK(hT:T.Ok P)(hg:aN ops s o=some true){t:TypeId}{x:Operand}{lo hi:Option Operand}(ho:o.op= .slice t x lo hi none){ti:TInfo}(hti:T.get t=some ti)(hd:ti.desc= .string)
  {l:List UInt8} (hx:evS s x= .str l) {a b:Int} (ha:gA (lo.map (evS s)) 0=some a) (hb:gA (hi.map (evS s)) l.length=some b) (hab:0≤a∧a≤b∧b≤l.length)
  {l':List UInt8} (hr:l'=(l.take b.toNat).drop a.toNat) (hp:putD n s o.dst (.str l')=some s') (h:Ao P Px ops rest ⟨n,s',bx,ob⟩ K):Ao P Px ops (o::rest) ⟨n,s,bx,ob⟩ K:=by
 subst hr;refine jb hT hg (r:= .str ((l.take b.toNat).drop a.toNat)) ?_ hp h;rw[ho];simp only[eJ,hti,hd,hx,li,ha,hb];rw[zp hab]
theorem ln(ho:ops[k]? =some o)(hg:aN ops s o=some true){t:TypeId}{x:Operand}{lo hi:Option Operand}(hop:o.op= .slice t x lo hi none){ti:TInfo}(hti:T.get t=some ti)(hd:ti.desc= .string)
  {l:List UInt8} (hx:evS s x= .str l) {a b:Int} (ha:gA (lo.map (evS s)) 0=some a) (hb:gA (hi.map (evS s)) l.length=some b) (hab:0≤a∧a≤b∧b≤l.length)
  {l':List UInt8} (hr:l'=(l.take b.toNat).drop a.toNat) (hp:putD n s o.dst (.str l')=some s') (h:Do P Px T rb ops L ⟨n,s',bx,ob⟩ K):Do P Px T rb ops (k::L) ⟨n,s,bx,ob⟩ K:=by
 subst hr;refine mD ho hg (by rw[hop];rfl) (r:= .str ((l.take b.toNat).drop a.toNat)) ?_ hp h;rw[hop];simp only[eu,eJ,hti,hd,hx,li,ha,hb];rw[zp hab]
theorem Ao.catC(hT:T.Ok P)(hg:aN ops s o=some true){t t':TypeId}{x y:Operand}(ho:o.op= .binOp .add t x y t'){a b:List UInt8}(hx:evS s x= .str a)(hy:evS s y= .str b)(hb:a.length+b.length≤dB){c:List UInt8}(hc:c=a++b)
  (hp:putD n s o.dst (.str c)=some s') (h:Ao P Px ops rest ⟨n,s',bx,ob⟩ K):Ao P Px ops (o::rest) ⟨n,s,bx,ob⟩ K:=by
 subst hc;exact Ao.cat hT hg ho hx hy hb hp h
theorem bi{t t':TypeId}{x y:Operand}{a b:List UInt8}{c:List UInt8}(hT:T.Ok P)(hb:a.length+b.length≤dB)(hc:c=a++b)(h:Ao P Px ops rest ⟨n,s',bx,ob⟩ K)(hg:aN ops s o=some true:=by exact rfl)(ho:o.op= .binOp .add t x y t':=by exact rfl)(hx:evS s x= .str a:=by exact rfl)(hy:evS s y= .str b:=by exact rfl)(hp:putD n s o.dst (.str c)=some s':=by exact rfl):Ao P Px ops (o::rest) ⟨n,s,bx,ob⟩ K:=Ao.catC hT hg ho hx hy hb hc hp h
theorem Do.catC(ho:ops[k]? =some o)(hg:aN ops s o=some true){t t':TypeId}{x y:Operand}(hop:o.op= .binOp .add t x y t'){a b:List UInt8}(hx:evS s x= .str a)(hy:evS s y= .str b)(hb:a.length+b.length≤dB){c:List UInt8}(hc:c=a++b)
  (hp:putD n s o.dst (.str c)=some s') (h:Do P Px T rb ops L ⟨n,s',bx,ob⟩ K):Do P Px T rb ops (k::L) ⟨n,s,bx,ob⟩ K:=by
 subst hc;exact Do.cat ho hg hop hx hy hb hp h
theorem cY{t t':TypeId}{x y:Operand}{a b:List UInt8}{c:List UInt8}(hb:a.length+b.length≤dB)(hc:c=a++b)(h:Do P Px T rb ops L ⟨n,s',bx,ob⟩ K)(ho:ops[k]? =some o:=by exact rfl)(hg:aN ops s o=some true:=by exact rfl)(hop:o.op= .binOp .add t x y t':=by exact rfl)(hx:evS s x= .str a:=by exact rfl)(hy:evS s y= .str b:=by exact rfl)(hp:putD n s o.dst (.str c)=some s':=by exact rfl):Do P Px T rb ops (k::L) ⟨n,s,bx,ob⟩ K:=Do.catC ho hg hop hx hy hb hc hp h
theorem Rep.rowsLe{M:Mem}{b:Bool}{e:TypeId}{rows rows':List (List PV)}(h:dN P rows rows'){x:Value}(hx:Rep P M b (.list e rows) x):Rep P M b (.list e rows') x:=jn.list h M b x hx
theorem kM(hT:T.Ok P){o:Oper}{ev:Operand→PV}{H:Heap}{x y:Operand}{t:TypeId}(ho:o.op= .call {callee:= .builtin .append,args:=#[x,y],argTypes:=#[t,t]}){ti ei:TInfo}{e:TypeId}(hti:T.get t=some ti)(hd:ti.desc= .slice e)(hei:T.get e=some ei)
  (hz:Nat.beq ei.zero.cells.size ei.size=true) (hsz:Nat.blt 0 ei.size=true) {tag:Nat} {g:OwnRef} {len:Nat} {rows rows2 rows2' rows':List (List PV)} {wr:Bool} (hx:ev x= .own tag g len) (hob:H.ob tag=some ⟨g,e,rows,wr⟩) (hlen:len=rows.length) (hy:ev y= .list e rows2)
  (hle:dN P rows2 rows2') (hby:(rows.length+rows2'.length)*ei.bytes≤2^47) (hmx:rows.length+rows2'.length≤maxLen) (heq:rows++rows2'=rows') {K:PV→Heap→Prop} (hk:∀g',K (.own tag g' rows'.length) ⟨H.bx,upd H.ob tag (some ⟨g',e,rows',wr⟩)⟩):Eff P Px o ev H K:=by
 subst heq
 classical
 have hxy:x≠y:=fun e=>by subst e;rw[hx]at hy;cases hy
 intro C M a w next Q hi he hn
 have key:=eff_appendO (P:=P) (Px:=Px) (o:=o) (ev:=fun z=>if z=y then PV.list e rows2' else ev z) (H:=H) hT ho hti hd hei hz hsz (rows2:=rows2') (by simp[hxy,hx]) hob hlen (by simp) hby hmx (K:=K) hk;refine key C M a w next Q hi (fun z hz=>?_) hn
 by_cases hzy:z=y
 ·subst hzy;simp only[if_true]
  have:=he z hz
  rw[hy]at this;exact Rep.rowsLe hle this
 ·simp only[hzy,if_false];exact he z hz
theorem jD(hT:T.Ok P)(hg:aN ops s o=some true){x y:Operand}{t:TypeId}(ho:o.op= .call {callee:= .builtin .append,args:=#[x,y],argTypes:=#[t,t]}){d:Nat}(hdst:o.dst=some d)(hlt:Nat.blt d n=true){ti ei:TInfo}{e:TypeId}(hti:T.get t=some ti)(hd:ti.desc= .slice e)(hei:T.get e=some ei)
  (hz:Nat.beq ei.zero.cells.size ei.size=true) (hsz:Nat.blt 0 ei.size=true) {tag:Nat} {g:OwnRef} {len:Nat} {rows rows2 rows2' rows':List (List PV)} {wr:Bool} (hx:evS s x= .own tag g len) (hob:ob tag=some ⟨g,e,rows,wr⟩) (hlen:len=rows.length) (hy:evS s y= .list e rows2)
  (hle:dN P rows2 rows2') (hby:(rows.length+rows2'.length)*ei.bytes≤2^47) (hmx:rows.length+rows2'.length≤maxLen) (heq:rows++rows2'=rows') (h:∀g',Ao P Px ops rest ⟨n,upd s d (.own tag g' rows'.length),bx,upd ob tag (some ⟨g',e,rows',wr⟩)⟩ K):Ao P Px ops (o::rest) ⟨n,s,bx,ob⟩ K:=
 fQ hg (kM hT ho hti hd hei hz hsz hx hob hlen hy hle hby hmx heq fun g'=>⟨_,by simp[hdst,putD,hlt],h g'⟩)
theorem gG(hT:T.Ok P)(ho:ops[k]? =some o)(hg:aN ops s o=some true){x y:Operand}{t:TypeId}(hop:o.op= .call {callee:= .builtin .append,args:=#[x,y],argTypes:=#[t,t]}){d:Nat}(hdst:o.dst=some d)(hlt:Nat.blt d n=true){ti ei:TInfo}{e:TypeId}(hti:T.get t=some ti)(hd:ti.desc= .slice e)(hei:T.get e=some ei)
  (hz:Nat.beq ei.zero.cells.size ei.size=true) (hsz:Nat.blt 0 ei.size=true) {tag:Nat} {g:OwnRef} {len:Nat} {rows rows2 rows2' rows':List (List PV)} {wr:Bool} (hx:evS s x= .own tag g len) (hob:ob tag=some ⟨g,e,rows,wr⟩) (hlen:len=rows.length) (hy:evS s y= .list e rows2)
  (hle:dN P rows2 rows2') (hby:(rows.length+rows2'.length)*ei.bytes≤2^47) (hmx:rows.length+rows2'.length≤maxLen) (heq:rows++rows2'=rows') (h:∀g',Do P Px T rb ops L ⟨n,upd s d (.own tag g' rows'.length),bx,upd ob tag (some ⟨g',e,rows',wr⟩)⟩ K):Do P Px T rb ops (k::L) ⟨n,s,bx,ob⟩ K:=by
 refine⟨o,ho,true,hg,?_⟩
 simp only[if_true,hop,cj];exact .inr fun bx'=>kM hT hop hti hd hei hz hsz hx hob hlen hy hle hby hmx heq fun g'=>⟨rfl,fun hx=>by simp[jP]at hx,_,by simp[hdst,putD,hlt],h g'⟩
theorem nc(hT:T.Ok P)(hg:aN ops s o=some true){t e:TypeId}{m:Nat}{ps:Array (Nat×Operand)}(ho:o.op= .buildSlice t m ps){ti:TInfo}(hti:T.get t=some ti)(hd:ti.desc= .slice e){rows rows':List (List PV)}
  (hr:gw T e m (ep (evS s) ps)=some rows) (hle:dN P rows rows') {d:Nat} (hdst:o.dst=some d) (hlt:Nat.blt d n=true) (h:Ao P Px ops rest ⟨n,upd s d (.list e rows'),bx,ob⟩ K):Ao P Px ops (o::rest) ⟨n,s,bx,ob⟩ K:=by
 refine Ao.bsF hT hg ho hti hd hr (s':=upd s d (.list e rows)) (by simp[hdst,putD,hlt]) (Ao.cast d (ef _ _ _) (PLe.of2 (jn.list hle)) ?_)
 have:upd (upd s d (PV.list e rows)) d (.list e rows')=upd s d (.list e rows'):=by
  funext t;simp only[dE];split<;>rfl
 rw[this];exact h
theorem ic{t e:TypeId}{m:Nat}{ps:Array (Nat×Operand)}{ti:TInfo}{rows rows':List (List PV)}{d:Nat}(hT:T.Ok P)(hr:gw T e m (ep (evS s) ps)=some rows)(hle:dN P rows rows')(h:Ao P Px ops rest ⟨n,upd s d (.list e rows'),bx,ob⟩ K)(hg:aN ops s o=some true:=by exact rfl)(ho:o.op= .buildSlice t m ps:=by exact rfl)(hti:T.get t=some ti:=by exact rfl)(hd:ti.desc= .slice e:=by exact rfl)(hdst:o.dst=some d:=by exact rfl)(hlt:Nat.blt d n=true:=by exact rfl):Ao P Px ops (o::rest) ⟨n,s,bx,ob⟩ K:=nc hT hg ho hti hd hr hle hdst hlt h
end
section
variable{P:Program}{Px:PV→Prop}{fn:Func}{R:PV→Heap→Prop}{ks:List KI}{n:Nat}{s:Nat→PV}{bx:Nat→Option Box}{ob:Nat→Option Obj}{T:TT}
end
section
variable{P:Program}{Px:PV→Prop}{C:Ctx}{M:Mem}{H:Heap}{w:World}
theorem InvH.reobj(h:InvH P C M H w){tag:Nat}{g:OwnRef}{e:TypeId}{rows rows':List (List PV)}{wr:Bool}(hx:H.ob tag=some ⟨g,e,rows,wr⟩)(hl:rows'.map List.length=rows.map List.length)(hle:eO P rows.flatten rows'.flatten):
  InvH P C M ⟨H.bx,upd H.ob tag (some ⟨g,e,rows',wr⟩)⟩ w:=by
 have hlen:rows'.length=rows.length:=by simpa using congrArg List.length hl
 have key:∀t y,upd H.ob tag (some ⟨g,e,rows',wr⟩) t=some y→(t=tag∧y=⟨g,e,rows',wr⟩)∨H.ob t=some y:=by
  intro t y hy;rw[dE]at hy;split at hy
  ·rename_i e;exact .inl ⟨e,(Option.some.inj hy).symm⟩
  ·exact .inr hy
 have same:∀t y,upd H.ob tag (some ⟨g,e,rows',wr⟩) t=some y→∃z,H.ob t=some z∧z.g=y.g:=by
  intro t y hy;rcases key t y hy with⟨rfl,rfl⟩|hy
  ·exact⟨_,hx,rfl⟩
  ·exact⟨y,hy,rfl⟩
 refine⟨h.mem,h.ext,h.new,h.os,h.tape,h.output,h.size,h.frame,h.boxes,?_,h.dbox,?_,?_⟩
 ·intro t y hy;rcases key t y hy with⟨rfl,rfl⟩|hy
  ·obtain⟨i,h1,h2,h3,h4⟩:=h.objs _ _ hx
   simp only at h1 h2 h3 h4
   refine⟨i,h1,?_,?_,?_⟩
   ·simpa only[hlen]using h2
   ·intro r hr
    have:r.length∈rows'.map List.length:=List.mem_map.2 ⟨r,hr,rfl⟩
    rw[hl]at this
    obtain⟨q,hq,e1⟩:=List.mem_map.1 this
    rw[←e1];exact h3 q hq
   ·rcases h4 with⟨a,b,c⟩|⟨b,cur,h5,h6,h7,h8,h9,h10,h11,h12,h13,h14⟩
    ·refine .inl ⟨a,?_,c⟩;rw[b]at hlen;exact List.length_eq_zero_iff.1 hlen
    ·refine .inr ⟨b,cur,h5,h6,h7,h8,?_,h10,?_,?_,h13,?_⟩
     ·simpa only[hlen]using h9
     ·simp only[hlen];exact hle M false _ h11
     ·simpa only[hlen]using h12
     ·simpa only[hlen]using h14
  ·exact h.objs t y hy
 ·intro t t' y y' b hy hy' hb hb'
  obtain⟨z,hz,e1⟩:=same t y hy
  obtain⟨z',hz',e1'⟩:=same t' y' hy'
  exact h.dobj t t' z z' b hz hz' (e1▸hb) (e1'▸hb')
 ·intro t t' y y' hy hy' hb
  obtain⟨z',hz',e1'⟩:=same t' y' hy'
  exact h.dmix t t' y z' hy hz' (e1'▸hb)
end
theorem eO.of_eq{P:Program}{a b:List PV}(h:a=b):eO P a b:=h▸eO.refl a
theorem eO.trans{P:Program}{a b c:List PV}(h:eO P a b)(h':eO P b c):eO P a c:=fun M s xs hx=>h' M s xs (h M s xs hx)
section
variable{P:Program}{Px:PV→Prop}{ops:Array Oper}{rest:List Oper}{o:Oper}{n:Nat}{s s':Nat→PV}{bx:Nat→Option Box}{ob:Nat→Option Obj}{K:PState→Prop}{T:TT}{rb:RB}{k:Nat}{L:List Nat}
theorem np(hT:T.Ok P)(hg:aN ops s o=some true){t e:TypeId}{m:Nat}{ps:Array (Nat×Operand)}(ho:o.op= .buildSlice t m ps){d:Nat}(hdst:o.dst=some d)(hlt:Nat.blt d n=true){ti:TInfo}(hti:T.get t=some ti)(hd:ti.desc= .slice e){rows rows':List (List PV)}
  (hr:gw T e m (ep (evS s) ps)=some rows) (hl:rows'.map List.length=rows.map List.length) (hm:rows.length=m) (hle:eO P rows.flatten rows'.flatten) (h:∀g,Ao P Px ops rest ⟨n,upd s d (.own d g rows'.length),bx,upd ob d (some ⟨g,e,rows',true⟩)⟩ K):Ao P Px ops (o::rest) ⟨n,s,bx,ob⟩ K:=by
 refine Ao.bsO hT hg ho hdst hlt hti hd hr fun g=>?_
 have hlen:rows'.length=m:=by rw[←hm];simpa using congrArg List.length hl
 have h':=h g;rw[hlen]at h';refine aH (st':=⟨n,upd s d (.own d g m),bx,upd ob d (some ⟨g,e,rows',true⟩)⟩) ?_ h';intro C M a w hi
 refine⟨M,hi.1,?_⟩
 have:=hi.2.reobj (tag:=d) (rows':=rows') (ef _ _ _) hl hle
 simp only[PState.heap]at this⊢
 have e2:upd (upd ob d (some ⟨g,e,rows,true⟩)) d (some ⟨g,e,rows',true⟩)=upd ob d (some ⟨g,e,rows',true⟩):=by
  funext t;simp only[dE];split<;>rfl
 rwa [e2]at this
end
@[simp] theorem bPs {α β:Type} (a:α) (k:α→Option β):ag (some a) k=k a:=rfl
@[simp] theorem bindP_none {α β:Type} (k:α→Option β):ag none k=none:=rfl
@[simp] theorem letP_eq {α β:Type} (a:α) (k:α→β):dv a k=k a:=rfl
@[simp] theorem thenP_nextS {σ β:Type} (s:σ) (k:σ→Option β):Flow.thenP (.next s) k=k s:=rfl
@[simp] theorem thenR_nextS {σ ρ:Type} (s:σ) (k:σ→Option ρ):Flow.thenR (.next s) k=k s:=rfl
@[simp] theorem thenR_retS {σ ρ:Type} (r:ρ) (k:σ→Option ρ):Flow.thenR (.ret r) k=some r:=rfl
@[simp] theorem thenF_nextS {σ τ ρ:Type} (s:σ) (k:σ→Option (Flow τ ρ)):Flow.thenF (.next s) k=k s:=rfl
@[simp] theorem thenF_retS {σ τ ρ:Type} (r:ρ) (k:σ→Option (Flow τ ρ)):Flow.thenF (.ret r) k=some (.ret r):=rfl
theorem appI_ok{α:Type}{bytes:Nat}{xs ys:List α}(h1:(xs.length+ys.length)*bytes≤2^47)(h2:xs.length+ys.length≤maxLen):dY bytes xs ys=some (xs++ys):=by
 unfold dY;rw[zp ⟨h1,h2⟩]
theorem getI_ok{α:Type}{xs:List α}{i:Int}{x:α}(h0:0≤i)(h:xs[i.toNat]? =some x):bl xs i=some x:=by unfold bl;rw[zp h0,h]
theorem eg{α:Type}{xs:List α}{j:Nat}{x:α}(h:xs[j]? =some x):bl xs (j:Int)=some x:=getI_ok (by omega) (by simpa using h)
theorem lj{α:Type}{xs:List α}{a b:Int}(h:0≤a∧a≤b∧b≤xs.length):fj xs a b=some ((xs.take b.toNat).drop a.toNat):=by unfold fj;rw[zp h]
theorem ia{a b:List UInt8}(h:a.length+b.length≤dB):bj a b=some (a++b):=by unfold bj;rw[zp h]
theorem rangeM_by{α σ ρ:Type}{step:Nat→α→σ→Option (Flow σ ρ)}(I:Nat→σ→Prop)(Q:ρ→Prop):
  ∀(xs:List α) (j:Nat) (s:σ),I j s→(∀k x s,xs[k]? =some x→I (j+k) s→∃fl,step (j+k) x s=some fl∧(match fl with| .next s'=>I (j+k+1) s'| .brk _=>False| .ret r=>Q r))→
   ∃fl,aY step j xs s=some fl∧(match fl with| .next s'=>I (j+xs.length) s'| .brk _=>False| .ret r=>Q r)
 |[],j,s,h,_=>⟨.next s,rfl,by simpa using h⟩
 |x::xs,j,s,h,hs=>by
  obtain⟨fl,h1,h2⟩:=hs 0 x s rfl (by simpa using h)
  rw[Nat.add_zero]at h1;cases fl with
  |next s'=>
   obtain⟨fl,h3,h4⟩:=rangeM_by I Q xs (j+1) s' (by simpa using h2) (fun k y t hk hI=>by
    obtain⟨fl,h5,h6⟩:=hs (k+1) y t (by simpa using hk) (by rw[show j+(k+1)=j+1+k from by omega];exact hI)
    rw[show j+(k+1)=j+1+k from by omega]at h5 h6
    exact⟨fl,h5,h6⟩)
   refine⟨fl,by rw[aY,h1];exact h3,?_⟩
   rw[show j+(x::xs).length=j+1+xs.length from by simp;omega];exact h4
  |brk s'=>exact absurd h2 (by simp)
  |ret r=>exact⟨.ret r,by rw[aY,h1],h2⟩
theorem rMa{α σ ρ:Type}{step:Nat→α→σ→Option (Flow σ ρ)}{xs:List α}{s:σ}(S:Nat→σ)(h0:S 0=s)(hs:∀k x,xs[k]? =some x→step k x (S k)=some (.next (S (k+1)))):aY step 0 xs s=some (.next (S xs.length)):=by
 subst h0
 obtain⟨fl,h1,h2⟩:=rangeM_by (step:=step) (fun j s=>s=S j) (fun _=>False) xs 0 (S 0) rfl (fun k x s hk hI=>by
  simp only[Nat.zero_add]at hI;subst hI
  exact⟨_,by rw[Nat.zero_add];exact hs k x hk,by simp⟩)
 cases fl with
 |next s'=>simp only[Nat.zero_add]at h2;rw[h1,h2]
 |brk s'=>exact absurd h2 (by simp)
 |ret r=>exact absurd h2 (by simp)
theorem mO{α ρ:Type}{step:Nat→α→Unit→Option (Flow Unit ρ)}(p:α→Bool)(out:Nat→α→ρ):∀(xs:List α) (j:Nat),(∀k x,xs[k]? =some x→step (j+k) x ()=some (if p x then .ret (out (j+k) x)else .next ()))→
  aY step j xs ()=some (match xs.findIdx? p with|some i=>(match xs[i]? with|some x=>.ret (out (j+i) x)|none=>.next ())|none=>.next ())
 |[],j,_=>rfl
 |x::xs,j,hs=>by
  have h0:=hs 0 x rfl;rw[Nat.add_zero]at h0;rw[aY,h0,List.findIdx?_cons];cases hp:p x with
  |true=>simp
  |false=>
   simp only[Bool.false_eq_true,if_false]
   rw[mO p out xs (j+1) (fun k y hk=>by
    have:=hs (k+1) y (by simpa using hk)
    rw[show j+(k+1)=j+1+k from by omega]at this;exact this)]
   cases xs.findIdx? p with
   |none=>simp
   |some i=>
    simp only[Option.map_some,List.getElem?_cons_succ];rw[show j+1+i=j+(i+1)from by omega]
section
variable{P:Program}{Px:PV→Prop}{T:TT}{M:Mem}
end
def gL{α:Type}(p:Prop)[Decidable p](a:α):Option α:=if p then some a else none
theorem iU{α:Type}{p:Prop}[Decidable p]{a b:α}(h:gL p a=some b):p∧a=b:=by
 unfold gL at h;split at h
 ·rename_i hp;exact⟨hp,Option.some.inj h⟩
 ·cases h
@[simp] theorem jG {α:Type} {p:Prop} [Decidable p] {a:α} (h:p):gL p a=some a:=by unfold gL;rw[zp h]
end
end Go.Ab

namespace Go.Ab
noncomputable section
open Go.Proofs
def tS(d:TypeDesc):TInfo:=⟨d,1,24,.slice none 0 0,[]⟩
def tP(d:TypeDesc):TInfo:=⟨d,1,8,.pointer none,[]⟩
def tF(d:TypeDesc):TInfo:=⟨d,1,8,.nilFunc,[]⟩
theorem tO{P:Program}{k:Nat}{v:TInfo}(i:TypeInfo)(h:P.info? k=some i)(e:(i.size,i.bytes,i.zero,v.eqf)=(v.size,v.bytes,some v.zero,[]))(u:P.underlying k=some v.desc):v.Ok P k:=by
 simp only[Prod.mk.injEq]at e
 exact⟨⟨i,h,e.1,e.2.1,e.2.2.1⟩,u,fun hn=>absurd e.2.2.2 hn⟩
def ti49:TInfo:=⟨Tryz.t48.desc,3,32,.agg #[.string ⟨#[]⟩,.int .i64 0,.bool false],[(9,0),(3,1),(4,2)]⟩
def ti55:TInfo:=⟨Tryz.t54.desc,3,32,.agg #[.int .i64 0,.int .i64 0,.string ⟨#[]⟩],[(3,0),(3,1),(9,2)]⟩
def ti76:TInfo:=⟨Tryz.t75.desc,4,40,.agg #[.int .i64 0,.string ⟨#[]⟩,.int .i64 0,.int .i64 0],[(3,0),(9,1),(3,2),(3,3)]⟩
def ti106:TInfo:=⟨Tryz.t105.desc,1,8,.agg #[.int .i64 0],[(3,0)]⟩
def ti274:TInfo:=⟨Tryz.t273.desc,1,16,.agg #[.string ⟨#[]⟩],[(9,0)]⟩
def ti282:TInfo:=⟨Tryz.t281.desc,2,2,.agg #[.int .u8 0,.int .u8 0],[(5,0),(5,1)]⟩
theorem ti49_ok:ti49.Ok Tryz.prog 49:=⟨⟨Tryz.t49,by kernel_rfl,rfl,rfl,rfl⟩,Tryz.underlying49,fun _=>⟨Tryz.stoodInHeld49,Tryz.eqGuardType49,by simp[cS,Program.fieldsOf,Tryz.underlying49,ti49],by kernel_rfl⟩⟩
theorem ti55_ok:ti55.Ok Tryz.prog 55:=⟨⟨Tryz.t55,by kernel_rfl,rfl,rfl,rfl⟩,Tryz.underlying55,fun _=>⟨Tryz.stoodInHeld55,Tryz.eqGuardType55,by simp[cS,Program.fieldsOf,Tryz.underlying55,ti55],by kernel_rfl⟩⟩
theorem ti76_ok:ti76.Ok Tryz.prog 76:=⟨⟨Tryz.t76,by kernel_rfl,rfl,rfl,rfl⟩,Tryz.underlying76,fun _=>⟨Tryz.stoodInHeld76,Tryz.eqGuardType76,by simp[cS,Program.fieldsOf,Tryz.underlying76,ti76],by kernel_rfl⟩⟩
theorem ti106_ok:ti106.Ok Tryz.prog 106:=⟨⟨Tryz.t106,by kernel_rfl,rfl,rfl,rfl⟩,Tryz.underlying106,fun _=>⟨Tryz.stoodInHeld106,Tryz.eqGuardType106,by simp[cS,Program.fieldsOf,Tryz.underlying106,ti106],by kernel_rfl⟩⟩
theorem ti274_ok:ti274.Ok Tryz.prog 274:=⟨⟨Tryz.t274,by kernel_rfl,rfl,rfl,rfl⟩,Tryz.underlying274,fun _=>⟨Tryz.stoodInHeld274,Tryz.eqGuardType274,by simp[cS,Program.fieldsOf,Tryz.underlying274,ti274],by kernel_rfl⟩⟩
theorem ti282_ok:ti282.Ok Tryz.prog 282:=⟨⟨Tryz.t282,by kernel_rfl,rfl,rfl,rfl⟩,Tryz.underlying282,fun _=>⟨Tryz.stoodInHeld282,Tryz.eqGuardType282,by simp[cS,Program.fieldsOf,Tryz.underlying282,ti282],by kernel_rfl⟩⟩
def tt:TT:=(.node 127 ⟨Tryz.t126.desc,7,80,.agg #[.string ⟨#[]⟩,.int .i64 0,.string ⟨#[]⟩,.int .i64 0,.int .i64 0,.int .i64 0,.string ⟨#[]⟩],[]⟩ (.node 51 (tS Tryz.t51.desc) (.node 26 (tS Tryz.t26.desc) (.node 20 ⟨Tryz.t20.desc,1,16,.nilIface,[]⟩ (.node 4 ⟨Tryz.t4.desc,1,1,.bool false,[]⟩ (.node 2 ⟨Tryz.t2.desc,1,8,.int .i64 0,[]⟩ (.node 1 (tF Tryz.t1.desc) .leaf .leaf) (.node 3 ⟨Tryz.t3.desc,1,8,.int .i64 0,[]⟩ .leaf .leaf)) (.node 9 ⟨Tryz.t9.desc,1,16,.string ⟨#[]⟩,[]⟩ (.node 5 ⟨Tryz.t5.desc,1,1,.int .u8 0,[]⟩ .leaf .leaf) .leaf)) (.node 23 (tS Tryz.t23.desc) (.node 22 (tF Tryz.t22.desc) (.node 21 ⟨Tryz.t21.desc,1,4,.int .i32 0,[]⟩ .leaf .leaf) .leaf) (.node 25 (tS Tryz.t25.desc) (.node 24 (tS Tryz.t24.desc) .leaf .leaf) .leaf))) (.node 39 (tS Tryz.t39.desc) (.node 30 ⟨Tryz.t3.desc,1,8,.int .i64 0,[]⟩ (.node 29 ⟨Tryz.t28.desc,9,160,.agg #[.int .i64 0,.string ⟨#[]⟩,.slice none 0 0,.slice none 0 0,.slice none 0 0,.slice none 0 0,.int .i64 0,.int .i64 0,.slice none 0 0],[]⟩ (.node 27 (tS Tryz.t27.desc) .leaf .leaf) .leaf) (.node 38 (tF Tryz.t38.desc) (.node 33 (tS Tryz.t33.desc) .leaf .leaf) .leaf)) (.node 43 ⟨Tryz.t42.desc,3,72,.agg #[.slice none 0 0,.slice none 0 0,.slice none 0 0],[]⟩ (.node 41 (tS Tryz.t41.desc) (.node 40 (tS Tryz.t40.desc) .leaf .leaf) .leaf) (.node 50 (tS Tryz.t50.desc) (.node 49 ti49 .leaf .leaf) .leaf)))) (.node 79 (tF Tryz.t79.desc) (.node 59 (tS Tryz.t59.desc) (.node 56 (tF Tryz.t56.desc) (.node 55 ti55 (.node 53 ⟨Tryz.t52.desc,3,64,.agg #[.string ⟨#[]⟩,.slice none 0 0,.slice none 0 0],[]⟩ .leaf .leaf) .leaf) (.node 58 (tS Tryz.t57.desc) (.node 57 (tS Tryz.t57.desc) .leaf .leaf) .leaf)) (.node 65 ⟨Tryz.t64.desc,2,48,.agg #[.slice none 0 0,.slice none 0 0],[]⟩ (.node 63 (tS Tryz.t62.desc) (.node 61 ⟨Tryz.t60.desc,2,40,.agg #[.string ⟨#[]⟩,.slice none 0 0],[]⟩ .leaf .leaf) .leaf) (.node 76 ti76 (.node 69 (tP Tryz.t69.desc) .leaf .leaf) .leaf))) (.node 97 (tF Tryz.t97.desc) (.node 87 (tF Tryz.t87.desc) (.node 85 ⟨Tryz.t84.desc,3,56,.agg #[.string ⟨#[]⟩,.string ⟨#[]⟩,.slice none 0 0],[]⟩ (.node 82 ⟨Tryz.t81.desc,7,88,.agg #[.int .i64 0,.string ⟨#[]⟩,.int .i64 0,.int .i64 0,.int .i64 0,.string ⟨#[]⟩,.slice none 0 0],[]⟩ .leaf .leaf) .leaf) (.node 92 (tF Tryz.t92.desc) (.node 88 (tF Tryz.t88.desc) .leaf .leaf) .leaf)) (.node 106 ti106 (.node 104 ⟨Tryz.t103.desc,3,40,.agg #[.slice none 0 0,.int .i64 0,.int .i64 0],[]⟩ (.node 102 (tF Tryz.t102.desc) .leaf .leaf) .leaf) (.node 124 (tF Tryz.t124.desc) (.node 121 ⟨Tryz.t120.desc,3,56,.agg #[.string ⟨#[]⟩,.slice none 0 0,.string ⟨#[]⟩],[]⟩ .leaf .leaf) .leaf))))) (.node 205 ⟨Tryz.t205.desc,8,8,.agg #[.bool false,.bool false,.bool false,.bool false,.bool false,.bool false,.bool false,.bool false],[]⟩ (.node 168 (tF Tryz.t168.desc) (.node 152 (tS Tryz.t152.desc) (.node 142 (tP Tryz.t142.desc) (.node 135 ⟨Tryz.t134.desc,8,192,.agg #[.slice none 0 0,.slice none 0 0,.slice none 0 0,.slice none 0 0,.slice none 0 0,.slice none 0 0,.slice none 0 0,.slice none 0 0],[]⟩ (.node 134 ⟨Tryz.t134.desc,8,192,.agg #[.slice none 0 0,.slice none 0 0,.slice none 0 0,.slice none 0 0,.slice none 0 0,.slice none 0 0,.slice none 0 0,.slice none 0 0],[]⟩ .leaf .leaf) .leaf) (.node 151 (tP Tryz.t151.desc) (.node 146 ⟨Tryz.t145.desc,1,16,.nilIface,[]⟩ .leaf .leaf) .leaf)) (.node 161 (tF Tryz.t161.desc) (.node 156 (tF Tryz.t156.desc) (.node 154 ⟨Tryz.t153.desc,2,32,.agg #[.pointer none,.slice none 0 0],[]⟩ .leaf .leaf) .leaf) (.node 165 (tF Tryz.t165.desc) (.node 163 (tF Tryz.t163.desc) .leaf .leaf) .leaf))) (.node 189 (tF Tryz.t189.desc) (.node 174 (tF Tryz.t174.desc) (.node 172 (tF Tryz.t172.desc) (.node 170 ⟨Tryz.t169.desc,4,96,.agg #[.slice none 0 0,.slice none 0 0,.slice none 0 0,.slice none 0 0],[]⟩ .leaf .leaf) .leaf) (.node 184 (tF Tryz.t184.desc) (.node 182 ⟨Tryz.t181.desc,5,120,.agg #[.slice none 0 0,.slice none 0 0,.slice none 0 0,.slice none 0 0,.slice none 0 0],[]⟩ .leaf .leaf) .leaf)) (.node 193 ⟨Tryz.t193.desc,1,8,.int .u64 0,[]⟩ (.node 192 ⟨Tryz.t192.desc,24,24,.agg #[.int .u8 0,.int .u8 0,.int .u8 0,.int .u8 0,.int .u8 0,.int .u8 0,.int .u8 0,.int .u8 0,.int .u8 0,.int .u8 0,.int .u8 0,.int .u8 0,.int .u8 0,.int .u8 0,.int .u8 0,.int .u8 0,.int .u8 0,.int .u8 0,.int .u8 0,.int .u8 0,.int .u8 0,.int .u8 0,.int .u8 0,.int .u8 0],[]⟩ (.node 191 (tP Tryz.t191.desc) .leaf .leaf) .leaf) (.node 201 (tF Tryz.t201.desc) (.node 199 (tF Tryz.t199.desc) .leaf .leaf) .leaf)))) (.node 238 (tF Tryz.t238.desc) (.node 223 (tP Tryz.t223.desc) (.node 218 (tF Tryz.t218.desc) (.node 214 (tS Tryz.t214.desc) (.node 206 (tS Tryz.t206.desc) .leaf .leaf) .leaf) (.node 222 (tF Tryz.t222.desc) (.node 220 ⟨Tryz.t3.desc,1,8,.int .i64 0,[]⟩ .leaf .leaf) .leaf)) (.node 235 (tF Tryz.t235.desc) (.node 233 ⟨Tryz.t233.desc,1,4,.int .u32 0,[]⟩ (.node 232 ⟨Tryz.t232.desc,20,160,.agg #[.int .u64 0,.int .u64 0,.int .u64 0,.int .u64 0,.int .u64 0,.int .u64 0,.int .u64 0,.int .u64 0,.int .u64 0,.int .u64 0,.int .u64 0,.int .u64 0,.int .u64 0,.int .u64 0,.int .u64 0,.int .u64 0,.int .u64 0,.int .u64 0,.int .u64 0,.int .u64 0],[]⟩ .leaf .leaf) .leaf) (.node 237 (tF Tryz.t237.desc) (.node 236 ⟨Tryz.t236.desc,1,8,.int .u64 0,[]⟩ .leaf .leaf) .leaf))) (.node 274 ti274 (.node 256 ⟨Tryz.t255.desc,3,48,.agg #[.string ⟨#[]⟩,.string ⟨#[]⟩,.nilIface],[]⟩ (.node 240 (tF Tryz.t240.desc) (.node 239 (tF Tryz.t239.desc) .leaf .leaf) .leaf) (.node 272 (tP Tryz.t272.desc) (.node 264 (tF Tryz.t264.desc) .leaf .leaf) .leaf)) (.node 282 ti282 (.node 277 ⟨Tryz.t277.desc,64,64,.agg #[.int .u8 0,.int .u8 0,.int .u8 0,.int .u8 0,.int .u8 0,.int .u8 0,.int .u8 0,.int .u8 0,.int .u8 0,.int .u8 0,.int .u8 0,.int .u8 0,.int .u8 0,.int .u8 0,.int .u8 0,.int .u8 0,.int .u8 0,.int .u8 0,.int .u8 0,.int .u8 0,.int .u8 0,.int .u8 0,.int .u8 0,.int .u8 0,.int .u8 0,.int .u8 0,.int .u8 0,.int .u8 0,.int .u8 0,.int .u8 0,.int .u8 0,.int .u8 0,.int .u8 0,.int .u8 0,.int .u8 0,.int .u8 0,.int .u8 0,.int .u8 0,.int .u8 0,.int .u8 0,.int .u8 0,.int .u8 0,.int .u8 0,.int .u8 0,.int .u8 0,.int .u8 0,.int .u8 0,.int .u8 0,.int .u8 0,.int .u8 0,.int .u8 0,.int .u8 0,.int .u8 0,.int .u8 0,.int .u8 0,.int .u8 0,.int .u8 0,.int .u8 0,.int .u8 0,.int .u8 0,.int .u8 0,.int .u8 0,.int .u8 0,.int .u8 0],[]⟩ (.node 276 ⟨Tryz.t276.desc,32,32,.agg #[.int .u8 0,.int .u8 0,.int .u8 0,.int .u8 0,.int .u8 0,.int .u8 0,.int .u8 0,.int .u8 0,.int .u8 0,.int .u8 0,.int .u8 0,.int .u8 0,.int .u8 0,.int .u8 0,.int .u8 0,.int .u8 0,.int .u8 0,.int .u8 0,.int .u8 0,.int .u8 0,.int .u8 0,.int .u8 0,.int .u8 0,.int .u8 0,.int .u8 0,.int .u8 0,.int .u8 0,.int .u8 0,.int .u8 0,.int .u8 0,.int .u8 0,.int .u8 0],[]⟩ .leaf .leaf) .leaf) (.node 285 (tF Tryz.t285.desc) (.node 283 ⟨Tryz.t283.desc,32,32,.agg #[.int .u8 0,.int .u8 0,.int .u8 0,.int .u8 0,.int .u8 0,.int .u8 0,.int .u8 0,.int .u8 0,.int .u8 0,.int .u8 0,.int .u8 0,.int .u8 0,.int .u8 0,.int .u8 0,.int .u8 0,.int .u8 0,.int .u8 0,.int .u8 0,.int .u8 0,.int .u8 0,.int .u8 0,.int .u8 0,.int .u8 0,.int .u8 0,.int .u8 0,.int .u8 0,.int .u8 0,.int .u8 0,.int .u8 0,.int .u8 0,.int .u8 0,.int .u8 0],[]⟩ .leaf .leaf) .leaf))))))
theorem tk:tt.Ok Tryz.prog:=⟨tO Tryz.t127 (by kernel_rfl) rfl Tryz.underlying127,⟨tO Tryz.t51 (by kernel_rfl) rfl Tryz.underlying51,⟨tO Tryz.t26 (by kernel_rfl) rfl Tryz.underlying26,⟨tO Tryz.t20 (by kernel_rfl) rfl Tryz.underlying20,⟨tO Tryz.t4 (by kernel_rfl) rfl Tryz.underlying4,⟨tO Tryz.t2 (by kernel_rfl) rfl Tryz.underlying2,⟨tO Tryz.t1 (by kernel_rfl) rfl Tryz.underlying1,trivial,trivial⟩,⟨tO Tryz.t3 (by kernel_rfl) rfl Tryz.underlying3,trivial,trivial⟩⟩,⟨tO Tryz.t9 (by kernel_rfl) rfl Tryz.underlying9,⟨tO Tryz.t5 (by kernel_rfl) rfl Tryz.underlying5,trivial,trivial⟩,trivial⟩⟩,⟨tO Tryz.t23 (by kernel_rfl) rfl Tryz.underlying23,⟨tO Tryz.t22 (by kernel_rfl) rfl Tryz.underlying22,⟨tO Tryz.t21 (by kernel_rfl) rfl Tryz.underlying21,trivial,trivial⟩,trivial⟩,⟨tO Tryz.t25 (by kernel_rfl) rfl Tryz.underlying25,⟨tO Tryz.t24 (by kernel_rfl) rfl Tryz.underlying24,trivial,trivial⟩,trivial⟩⟩⟩,⟨tO Tryz.t39 (by kernel_rfl) rfl Tryz.underlying39,⟨tO Tryz.t30 (by kernel_rfl) rfl Tryz.underlying30,⟨tO Tryz.t29 (by kernel_rfl) rfl Tryz.underlying29,⟨tO Tryz.t27 (by kernel_rfl) rfl Tryz.underlying27,trivial,trivial⟩,trivial⟩,⟨tO Tryz.t38 (by kernel_rfl) rfl Tryz.underlying38,⟨tO Tryz.t33 (by kernel_rfl) rfl Tryz.underlying33,trivial,trivial⟩,trivial⟩⟩,⟨tO Tryz.t43 (by kernel_rfl) rfl Tryz.underlying43,⟨tO Tryz.t41 (by kernel_rfl) rfl Tryz.underlying41,⟨tO Tryz.t40 (by kernel_rfl) rfl Tryz.underlying40,trivial,trivial⟩,trivial⟩,⟨tO Tryz.t50 (by kernel_rfl) rfl Tryz.underlying50,⟨ti49_ok,trivial,trivial⟩,trivial⟩⟩⟩⟩,⟨tO Tryz.t79 (by kernel_rfl) rfl Tryz.underlying79,⟨tO Tryz.t59 (by kernel_rfl) rfl Tryz.underlying59,⟨tO Tryz.t56 (by kernel_rfl) rfl Tryz.underlying56,⟨ti55_ok,⟨tO Tryz.t53 (by kernel_rfl) rfl Tryz.underlying53,trivial,trivial⟩,trivial⟩,⟨tO Tryz.t58 (by kernel_rfl) rfl Tryz.underlying58,⟨tO Tryz.t57 (by kernel_rfl) rfl Tryz.underlying57,trivial,trivial⟩,trivial⟩⟩,⟨tO Tryz.t65 (by kernel_rfl) rfl Tryz.underlying65,⟨tO Tryz.t63 (by kernel_rfl) rfl Tryz.underlying63,⟨tO Tryz.t61 (by kernel_rfl) rfl Tryz.underlying61,trivial,trivial⟩,trivial⟩,⟨ti76_ok,⟨tO Tryz.t69 (by kernel_rfl) rfl Tryz.underlying69,trivial,trivial⟩,trivial⟩⟩⟩,⟨tO Tryz.t97 (by kernel_rfl) rfl Tryz.underlying97,⟨tO Tryz.t87 (by kernel_rfl) rfl Tryz.underlying87,⟨tO Tryz.t85 (by kernel_rfl) rfl Tryz.underlying85,⟨tO Tryz.t82 (by kernel_rfl) rfl Tryz.underlying82,trivial,trivial⟩,trivial⟩,⟨tO Tryz.t92 (by kernel_rfl) rfl Tryz.underlying92,⟨tO Tryz.t88 (by kernel_rfl) rfl Tryz.underlying88,trivial,trivial⟩,trivial⟩⟩,⟨ti106_ok,⟨tO Tryz.t104 (by kernel_rfl) rfl Tryz.underlying104,⟨tO Tryz.t102 (by kernel_rfl) rfl Tryz.underlying102,trivial,trivial⟩,trivial⟩,⟨tO Tryz.t124 (by kernel_rfl) rfl Tryz.underlying124,⟨tO Tryz.t121 (by kernel_rfl) rfl Tryz.underlying121,trivial,trivial⟩,trivial⟩⟩⟩⟩⟩,⟨tO Tryz.t205 (by kernel_rfl) rfl Tryz.underlying205,⟨tO Tryz.t168 (by kernel_rfl) rfl Tryz.underlying168,⟨tO Tryz.t152 (by kernel_rfl) rfl Tryz.underlying152,⟨tO Tryz.t142 (by kernel_rfl) rfl Tryz.underlying142,⟨tO Tryz.t135 (by kernel_rfl) rfl Tryz.underlying135,⟨tO Tryz.t134 (by kernel_rfl) rfl Tryz.underlying134,trivial,trivial⟩,trivial⟩,⟨tO Tryz.t151 (by kernel_rfl) rfl Tryz.underlying151,⟨tO Tryz.t146 (by kernel_rfl) rfl Tryz.underlying146,trivial,trivial⟩,trivial⟩⟩,⟨tO Tryz.t161 (by kernel_rfl) rfl Tryz.underlying161,⟨tO Tryz.t156 (by kernel_rfl) rfl Tryz.underlying156,⟨tO Tryz.t154 (by kernel_rfl) rfl Tryz.underlying154,trivial,trivial⟩,trivial⟩,⟨tO Tryz.t165 (by kernel_rfl) rfl Tryz.underlying165,⟨tO Tryz.t163 (by kernel_rfl) rfl Tryz.underlying163,trivial,trivial⟩,trivial⟩⟩⟩,⟨tO Tryz.t189 (by kernel_rfl) rfl Tryz.underlying189,⟨tO Tryz.t174 (by kernel_rfl) rfl Tryz.underlying174,⟨tO Tryz.t172 (by kernel_rfl) rfl Tryz.underlying172,⟨tO Tryz.t170 (by kernel_rfl) rfl Tryz.underlying170,trivial,trivial⟩,trivial⟩,⟨tO Tryz.t184 (by kernel_rfl) rfl Tryz.underlying184,⟨tO Tryz.t182 (by kernel_rfl) rfl Tryz.underlying182,trivial,trivial⟩,trivial⟩⟩,⟨tO Tryz.t193 (by kernel_rfl) rfl Tryz.underlying193,⟨tO Tryz.t192 (by kernel_rfl) rfl Tryz.underlying192,⟨tO Tryz.t191 (by kernel_rfl) rfl Tryz.underlying191,trivial,trivial⟩,trivial⟩,⟨tO Tryz.t201 (by kernel_rfl) rfl Tryz.underlying201,⟨tO Tryz.t199 (by kernel_rfl) rfl Tryz.underlying199,trivial,trivial⟩,trivial⟩⟩⟩⟩,⟨tO Tryz.t238 (by kernel_rfl) rfl Tryz.underlying238,⟨tO Tryz.t223 (by kernel_rfl) rfl Tryz.underlying223,⟨tO Tryz.t218 (by kernel_rfl) rfl Tryz.underlying218,⟨tO Tryz.t214 (by kernel_rfl) rfl Tryz.underlying214,⟨tO Tryz.t206 (by kernel_rfl) rfl Tryz.underlying206,trivial,trivial⟩,trivial⟩,⟨tO Tryz.t222 (by kernel_rfl) rfl Tryz.underlying222,⟨tO Tryz.t220 (by kernel_rfl) rfl Tryz.underlying220,trivial,trivial⟩,trivial⟩⟩,⟨tO Tryz.t235 (by kernel_rfl) rfl Tryz.underlying235,⟨tO Tryz.t233 (by kernel_rfl) rfl Tryz.underlying233,⟨tO Tryz.t232 (by kernel_rfl) rfl Tryz.underlying232,trivial,trivial⟩,trivial⟩,⟨tO Tryz.t237 (by kernel_rfl) rfl Tryz.underlying237,⟨tO Tryz.t236 (by kernel_rfl) rfl Tryz.underlying236,trivial,trivial⟩,trivial⟩⟩⟩,⟨ti274_ok,⟨tO Tryz.t256 (by kernel_rfl) rfl Tryz.underlying256,⟨tO Tryz.t240 (by kernel_rfl) rfl Tryz.underlying240,⟨tO Tryz.t239 (by kernel_rfl) rfl Tryz.underlying239,trivial,trivial⟩,trivial⟩,⟨tO Tryz.t272 (by kernel_rfl) rfl Tryz.underlying272,⟨tO Tryz.t264 (by kernel_rfl) rfl Tryz.underlying264,trivial,trivial⟩,trivial⟩⟩,⟨ti282_ok,⟨tO Tryz.t277 (by kernel_rfl) rfl Tryz.underlying277,⟨tO Tryz.t276 (by kernel_rfl) rfl Tryz.underlying276,trivial,trivial⟩,trivial⟩,⟨tO Tryz.t285 (by kernel_rfl) rfl Tryz.underlying285,⟨tO Tryz.t283 (by kernel_rfl) rfl Tryz.underlying283,trivial,trivial⟩,trivial⟩⟩⟩⟩⟩⟩
end
end Go.Ab


namespace Go.Proofs.YtibojibdiibdgaaGreatDoor
noncomputable section
open Go Go.Ab
theorem mok:Tryz.prog.follows .mixedOrders=true:=by kernel_rfl
abbrev ac(n:Int):PV:= .val (.int .i64 n)
abbrev bu(b:Bool):PV:= .val (.bool b)
structure LVal where
 kind:Int
 int:Int
 text:List UInt8
 deriving DecidableEq
structure LCol where
 name:List UInt8
 kind:Int
 nullable:Bool
 deriving DecidableEq
inductive LExpr where
 |mk (kind:Int) (name:List UInt8) (index:Int) (value:LVal) (args:List LExpr)
def LExpr.kind:LExpr→Int| .mk k _ _ _ _=>k
def LExpr.name:LExpr→List UInt8| .mk _ n _ _ _=>n
def LExpr.index:LExpr→Int| .mk _ _ i _ _=>i
def LExpr.value:LExpr→LVal| .mk _ _ _ v _=>v
def LExpr.args:LExpr→List LExpr| .mk _ _ _ _ a=>a
structure LEnv where
 cols:List LCol
 row:List LVal
 params:List LVal
 vnames:List (List UInt8)
 vvals:List LVal
@[simp] def fe (v:LVal):List PV:=[ac v.kind,ac v.int,.str v.text]
@[simp] def encCol (c:LCol):List PV:=[.str c.name,ac c.kind,bu c.nullable]
mutual
def am:LExpr→List PV
 | .mk k n i v a=>[ac k,.str n,ac i,ac v.kind,ac v.int,.str v.text,.list 82 (lA a)]
def lA:List LExpr→List (List PV)
 |[]=>[]
 |e::r=>am e::lA r
end
theorem md:∀l,lA l=l.map am
 |[]=>rfl
 |e::r=>by simp[lA,md r]
def bN(e:LExpr):List PV:=[ac e.kind,.str e.name,ac e.index,ac e.value.kind,ac e.value.int,.str e.value.text,.list 82 (e.args.map am)]
theorem ck(e:LExpr):am e=bN e:=by
 cases e;simp[am,bN,md,LExpr.kind,LExpr.name,LExpr.index,LExpr.value,LExpr.args]
abbrev pvals(l:List LVal):PV:= .list 55 (l.map fe)
abbrev pcols(l:List LCol):PV:= .list 49 (l.map encCol)
abbrev pstrs(l:List (List UInt8)):PV:= .list 9 (l.map fun s=>[.str s])
@[simp] def encEnv (v:LEnv):List PV:=[pcols v.cols,pvals v.row,pvals v.params,pstrs v.vnames,pvals v.vvals]
def idxOf{α:Type}(p:α→Bool)(l:List α):Int:=match l.findIdx? p with
 |some i=>i
 |none=>-1
theorem gk{n:Int}(h1:-9223372036854775808≤n)(h2:n≤9223372036854775807):IntKind.i64.wrap n=n:=by
 simp only[IntKind.wrap,IntKind.bits,IntKind.signed];simp;omega
theorem pint_succ{j:Nat}(h:j<maxLen):ac (IntKind.i64.wrap ((j:Int)+1))=ac ((j+1:Nat):Int):=by
 rw[gk (by omega) (by simp[maxLen]at h;omega)];simp
theorem idxOf_any{α:Type}{p:α→Bool}{l:List α}:(decide (idxOf p l≥0))=l.any p:=by
 rw[Bool.eq_iff_iff];simp only[decide_eq_true_eq,List.any_eq_true];cases h:l.findIdx? p with
 |none=>
  have e:idxOf p l=-1:=by simp[idxOf,h]
  rw[List.findIdx?_eq_none_iff]at h;rw[e];constructor
  ·intro h';omega
  ·rintro⟨x,hx,hp⟩;rw[h x hx]at hp;cases hp
 |some i=>
  have e:idxOf p l=(i:Int):=by simp[idxOf,h]
  rw[List.findIdx?_eq_some_iff_getElem]at h;rw[e]
  exact⟨fun _=>⟨_,List.getElem_mem h.1,h.2.1⟩,fun _=>by omega⟩
abbrev Rq:=List LVal
abbrev Rz:=List (List LVal)
abbrev aB:Bool→List PV:=fun b=>[bu b]
abbrev aD:List UInt8→List PV:=fun s=>[.str s]
theorem natLt{n:Int}{m j:Nat}(hm:n≤2^62∧m=n.toNat)(h:decide ((j:Int)<n)=true):j<(List.range m).length:=by
 have:=of_decide_eq_true h
 simp;omega
theorem natGe{n:Int}{m j:Nat}(hm:n≤2^62∧m=n.toNat)(h:decide ((j:Int)<n)=false):(List.range m).length≤j:=by
 have:=of_decide_eq_false h
 simp;omega
theorem natX{m j x:Nat}(h:(List.range m)[j]? =some x):j=x:=by
 have:=zg.1 h
 obtain⟨h1,h2⟩:=this
 simpa using h2
theorem lF{n:Int}{m j:Nat}(hm:n≤2^62∧m=n.toNat)(h:j<(List.range m).length):ac (IntKind.i64.wrap ((j:Int)+1))=ac ((j+1:Nat):Int):=by
 rw[gk (by omega) (by simp at h;omega)];simp
structure LAggregateCall where
 name:List UInt8
 function:List UInt8
 args:List LExpr
@[simp] def aA (x:LAggregateCall):List PV:=[(.str x.name),(.str x.function),(.list 82 (x.args.map am))]
inductive LQuery where
 |mk (kind:Int) (table:List UInt8) (names:List (List UInt8)) (exprs:List LExpr) (aggregates:List LAggregateCall) (descending:List Bool) (count:Int) (offset:Int) (inputs:List LQuery)
def LQuery.kind:LQuery→Int| .mk a _ _ _ _ _ _ _ _=>a
def LQuery.table:LQuery→List UInt8| .mk _ a _ _ _ _ _ _ _=>a
def LQuery.names:LQuery→List (List UInt8)| .mk _ _ a _ _ _ _ _ _=>a
def LQuery.exprs:LQuery→List LExpr| .mk _ _ _ a _ _ _ _ _=>a
def LQuery.aggregates:LQuery→List LAggregateCall| .mk _ _ _ _ a _ _ _ _=>a
def LQuery.descending:LQuery→List Bool| .mk _ _ _ _ _ a _ _ _=>a
def LQuery.count:LQuery→Int| .mk _ _ _ _ _ _ a _ _=>a
def LQuery.offset:LQuery→Int| .mk _ _ _ _ _ _ _ a _=>a
def LQuery.inputs:LQuery→List LQuery| .mk _ _ _ _ _ _ _ _ a=>a
mutual
def ak:LQuery→List PV
 | .mk f0 f1 f2 f3 f4 f5 f6 f7 f8=>[(ac f0),(.str f1),(.list 9 (f2.map aD)),(.list 82 (f3.map am)),(.list 85 (f4.map aA)),(.list 4 (f5.map aB)),(ac f6),(ac f7),.list 29 (kD f8)]
def kD:List LQuery→List (List PV)
 |[]=>[]
 |e::r=>ak e::kD r
end
theorem lP:∀l,kD l=l.map ak
 |[]=>rfl
 |e::r=>by simp[kD,lP r]
def aE(x:LQuery):List PV:=[(ac x.kind),(.str x.table),(.list 9 (x.names.map aD)),(.list 82 (x.exprs.map am)),(.list 85 (x.aggregates.map aA)),(.list 4 (x.descending.map aB)),(ac x.count),(ac x.offset),(.list 29 (x.inputs.map ak))]
theorem dZ(x:LQuery):ak x=aE x:=by
 cases x;simp[ak,aE,lP,LQuery.kind,LQuery.table,LQuery.names,LQuery.exprs,LQuery.aggregates,LQuery.descending,LQuery.count,LQuery.offset,LQuery.inputs]
structure LLexerToken where
 kind:Int
 text:List UInt8
 number:Int
 offset:Int
 deriving DecidableEq
@[simp] def aO (x:LLexerToken):List PV:=[(ac x.kind),(.str x.text),(ac x.number),(ac x.offset)]
structure LQueryparserParser where
 tokens:List LLexerToken
 next:Int
 size:Int
 deriving DecidableEq
@[simp] def aa (x:LQueryparserParser):List PV:=[(.list 76 (x.tokens.map aO)),(ac x.next),(ac x.size)]
structure LQueryparserWrong where
 atF:Int
 deriving DecidableEq
@[simp] def encQueryparserWrong (x:LQueryparserWrong):List PV:=[(ac x.atF)]
end
end Go.Proofs.YtibojibdiibdgaaGreatDoor

namespace Go.Ab
noncomputable section
section
variable{P:Program}{Px:PV→Prop}{T:TT}
theorem detS_idxO(hT:T.Ok P){o:Oper}{ev:Operand→PV}{H:Heap}{t:TypeId}{x i:Operand}(ho:o.op= .indexAddr t x i){ti ei:TInfo}{e:TypeId}(hti:T.get t=some ti)(hd:ti.desc= .slice e)(hei:T.get e=some ei)
  {tag:Nat} {g:OwnRef} {len:Nat} (hx:ev x= .own tag g len) {k:IntKind} {j:Int} (hi:ev i= .val (.int k j)) (hj:0≤j∧j.toNat<len) (hb:∃b,g.blk=some b):DetS P o ev H (.optr tag g ei.size j.toNat 0):=by
 intro C M a w _ he;have hxr:=he x (by rw[ho];simp[Op.operands]);have hir:=he i (by rw[ho];simp[Op.operands]);rw[hx]at hxr;rw[hi]at hir;simp only[Rep]at hxr hir
 obtain⟨b,hb⟩:=hb
 have hu:=(hT.get hti).rund w;rw[hd]at hu;have hsz:=(hT.get hei).rsize w;have h2:j<(len:Int):=by omega
 refine⟨.pointer (some ⟨b,j.toNat*ei.size,none⟩),?_,?_⟩
 ·simp[execOp,ho,Instr.indexAt,hir,hxr.2,OwnRef.val,hb,asIntOf,hu,hj.1,h2,hsz,dS]
 ·simp only[Rep]
  exact⟨trivial,b,hb,by simp⟩
theorem lT{k:Nat}:∀{rows:List (List PV)} {j:Nat} {r:List PV},(∀q∈rows,q.length=k)→rows[j]? =some r→∀i p,r[i]? =some p→rows.flatten[j*k+i]? =some p
 |[],j,r,_,h,_,_,_=>by simp at h
 |q::rows,0,r,hl,h,i,p,hp=>by
  simp only[List.getElem?_cons_zero,zo]at h;subst h;simp only[List.flatten_cons,Nat.zero_mul,Nat.zero_add];rw[List.getElem?_append_left (zg.1 hp).1];exact hp
 |q::rows,j+1,r,hl,h,i,p,hp=>by
  have hq:=hl q (by simp)
  have:=lT (rows:=rows) (j:=j) (fun q hq=>hl q (by simp[hq])) (by simpa using h) i p hp
  simp only[List.flatten_cons];rw[List.getElem?_append_right (by rw[hq,Nat.add_mul];omega),hq,show(j+1)*k+i-k=j*k+i from by rw[Nat.add_mul];omega];exact this
theorem splice_seg{α:Type}(X Y Z cs:List α)(off:Nat)(h:off+cs.length≤Y.length):
  X++(Y.take off++cs++Y.drop (off+cs.length))++Z=(X++(Y++Z)).take (X.length+off)++cs++(X++(Y++Z)).drop (X.length+off+cs.length):=by
 rw[List.take_length_add_append,List.take_append_of_le_length (by omega),show X.length+off+cs.length=X.length+(off+cs.length)from by omega,List.drop_length_add_append,List.drop_append_of_le_length h];simp
theorem splice_take{α:Type}(l cs:List α)(p N:Nat)(h:p+cs.length≤N)(hN:N≤l.length):
  (l.take p++cs++l.drop (p+cs.length)).take N=(l.take N).take p++cs++(l.take N).drop (p+cs.length):=by
 obtain⟨U,hU⟩:∃U,U=l.take N:=⟨_,rfl⟩
 obtain⟨W,hW⟩:∃W,W=l.drop N:=⟨_,rfl⟩
 have hl:l=U++W:=by rw[hU,hW,List.take_append_drop]
 have hUl:U.length=N:=by rw[hU];simp;omega
 rw[←hU,hl,List.take_append_of_le_length (l₁:=U) (i:=p) (by omega),List.drop_append_of_le_length (l₁:=U) (i:=p+cs.length) (by omega)];rw[←List.append_assoc];have e:(U.take p++cs++U.drop (p+cs.length)).length=N:=by simp;omega
 rw[←e,List.take_left]
def setRow(rows:List (List PV))(row off:Nat)(cs:List PV):List (List PV):=rows.set row (splice (rows.getD row []) off cs)
theorem set_flat{k:Nat}:∀{rows:List (List PV)} {j:Nat} {q:List PV},(∀r∈rows,r.length=k)→q.length=k→j<rows.length→(rows.set j q).flatten=rows.flatten.take (j*k)++q++rows.flatten.drop (j*k+k)
 |[],j,q,_,_,h=>by simp at h
 |r::rows,0,q,hl,hq,_=>by
  have hr:=hl r (by simp);simp only[List.set_cons_zero,List.flatten_cons,Nat.zero_mul,List.take_zero,List.nil_append,Nat.zero_add];rw[←hr,List.drop_left]
 |r::rows,j+1,q,hl,hq,h=>by
  have hr:=hl r (by simp);have ih:=set_flat (rows:=rows) (j:=j) (q:=q) (fun r hr=>hl r (by simp[hr])) hq (by simpa using h);simp only[List.set_cons_succ,List.flatten_cons,ih];have e1:(j+1)*k=r.length+j*k:=by rw[Nat.add_mul,hr];omega
  have e2:r.length+j*k+k=r.length+(j*k+k):=by omega
  rw[e1,List.take_length_add_append,e2,List.drop_length_add_append];simp
theorem eff_storeO(hT:T.Ok P){o:Oper}{ev:Operand→PV}{H:Heap}{t:TypeId}{x y:Operand}(ho:o.op= .store t x y){ti:TInfo}(hti:T.get t=some ti){tag:Nat}{g:OwnRef}{k row off:Nat}(hx:ev x= .optr tag g k row off)
  {e:TypeId} {rows:List (List PV)} (hob:H.ob tag=some ⟨g,e,rows,true⟩) {ei:TInfo} (hei:T.get e=some ei) (hk:k=ei.size) (hrow:row<rows.length) {py:PV} (hy:PLe P (ev y) py) {cs:List PV} (hc:cw py=some cs) (hf:PV.frozL cs=true) (h1:cs.all PV.one=true) (hl:cs.length=ti.size) (hle:off+ti.size≤ei.size)
  {K:PV→Heap→Prop} (hK:K .any ⟨H.bx,upd H.ob tag (some ⟨g,e,setRow rows row off cs,true⟩)⟩):Eff P Px o ev H K:=by
 intro C M a w next Q hi he hn
 have hxr:=he x (by rw[ho];simp[Op.operands]);have hyr:=he y (by rw[ho];simp[Op.operands]);rw[hx]at hxr;simp only[Rep]at hxr
 obtain⟨_,b,hb,hv⟩:=hxr
 have hr:=gg hc (hy M _ hyr);have hone:=ay.oneCell h1 hr;have hrf:=ay.unslot hf hr;have hvs:(a.eval y).cells.size=ti.size:=by have:=hr.length;simp at this;omega
 obtain⟨i,g1,g2,g3,g4⟩:=hi.objs tag _ hob
 obtain⟨i',g5,g6,_,_⟩:=(hT.get hei).info
 simp only at g1 g2 g3 g4;rw[g1]at g5;cases g5;rcases g4 with⟨hn',_⟩|⟨b',cur,hb',hm,hcur,hcs,hlc,hcm,hcr,h1c,hw1,hw2⟩
 ·rw[hb]at hn';cases hn'
 rw[hb]at hb';cases hb';have hks:k=i.size:=by rw[hk,g6]
 subst hks;rw[←g6]at hle
 have hfit:row*i.size+i.size≤rows.length*i.size:=by
  have:=Nat.mul_le_mul_right i.size (show row+1≤rows.length from hrow)
  rw[Nat.add_mul]at this;omega
 have hcap:rows.length*i.size≤cur.size:=by rw[hcs];exact Nat.mul_le_mul_right _ hlc
 have hvl:(a.eval y).cells.toList.length=ti.size:=by simpa using hvs
 have hst:=run_storeCells_at P b (row*i.size+off) e (a.eval y).cells.toList 0 cur w hcur (by rw[hvl];omega) hone;simp only[Nat.add_zero]at hst
 have hrun:(execOp a.eval o).run P w= .ok .skip (w.setRow b (cur.toList.take (row*i.size+off)++(a.eval y).cells.toList++cur.toList.drop (row*i.size+off+(a.eval y).cells.toList.length)).toArray):=by
  simp only[execOp,ho,Instr.storeAt,hv,Instr.sureAddr,Sem.run_bind,Sem.run_pure,Result.andThen_ok,storeVar,(hT.get hti).rsize w,hvs];simp only[ne_eq,not_true_eq_false,if_false];rw[hst];rfl
 unfold Oper.wp;rw[hrun];have hgetD:rows.getD row []=rows[row]:=by simp[hrow]
 have hrl:(rows.getD row []).length=i.size:=by rw[hgetD];exact g3 _ (List.getElem_mem hrow)
 have hspl:(splice (rows.getD row []) off cs).length=i.size:=by
  unfold splice;rw[List.length_append,List.length_append,List.length_take,List.length_drop,hrl,hl];omega
 have hlens:∀r∈setRow rows row off cs,r.length=i.size:=by
  intro r hr';rcases List.mem_or_eq_of_mem_set hr' with h|h
  ·exact g3 r h
  ·rw[h];exact hspl
 have hlen:(setRow rows row off cs).length=rows.length:=by simp[setRow]
 have hflat:rows.flatten.length=rows.length*i.size:=by
  have:∀l:List (List PV),(∀q∈l,q.length=i.size)→l.flatten.length=l.length*i.size:=by
   intro l;induction l with
   |nil=>simp
   |cons q l ih=>intro hl;simp[ih fun q hq=>hl q (by simp[hq]),hl q (by simp),Nat.add_mul];omega
  exact this rows g3
 have hrl2:rows[row].length=i.size:=g3 _ (List.getElem_mem hrow)
 have hrowcells:(rows.flatten.drop (row*i.size)).take i.size=rows.getD row []:=by
  rw[hgetD];apply List.ext_getElem?;intro m;rw[List.getElem?_take];split
  ·rename_i hm';rw[List.getElem?_drop];have hml:m<rows[row].length:=by rw[hrl2];exact hm'
   have hcm':rows[row][m]? =some (rows[row][m]'hml):=ze hml;rw[hcm'];exact lT g3 (ze hrow) m _ hcm'
  ·rw[List.getElem?_eq_none (by rw[hrl2];omega)]
 have hpv:(setRow rows row off cs).flatten=splice rows.flatten (row*i.size+off) cs:=by
  unfold setRow;rw[set_flat g3 hspl hrow,←hrowcells];have hA:(rows.flatten.take (row*i.size)).length=row*i.size:=by rw[List.length_take,hflat];omega
  have hY:((rows.flatten.drop (row*i.size)).take i.size).length=i.size:=by rw[List.length_take,List.length_drop,hflat];omega
  have hdec:rows.flatten=rows.flatten.take (row*i.size)++((rows.flatten.drop (row*i.size)).take i.size++rows.flatten.drop (row*i.size+i.size)):=by
   rw[←List.drop_drop,List.take_append_drop,List.take_append_drop]
  have key:=splice_seg (rows.flatten.take (row*i.size)) ((rows.flatten.drop (row*i.size)).take i.size) (rows.flatten.drop (row*i.size+i.size)) cs off (by rw[hY,hl];omega);rw[←hdec,hA]at key;exact key
 have hvlist:(cur.toList.take (row*i.size+off)++(a.eval y).cells.toList++cur.toList.drop (row*i.size+off+(a.eval y).cells.toList.length)).take (rows.length*i.size)=
   (cur.toList.take (rows.length*i.size)).take (row*i.size+off)++(a.eval y).cells.toList++(cur.toList.take (rows.length*i.size)).drop (row*i.size+off+(a.eval y).cells.toList.length):=by
  exact splice_take cur.toList (a.eval y).cells.toList (row*i.size+off) (rows.length*i.size) (by rw[hvl];omega) (by simpa using hcap)
 refine hn undef _ _ M _ hK (Mem.le_refl M) (hi.set_obj tag _ hob b hb (setRow rows row off cs) true _ i g1 ?_ hlens ?_ ?_ hcm ?_ ?_ ?_ (fun _=>hw1 trivial) ?_) (by simp[Rep])
 ·rw[hlen];exact g2
 ·simp only[List.size_toArray,List.length_append,List.length_take,List.length_drop,Array.length_toList,hvl];omega
 ·rw[hlen];exact hlc
 ·rw[hlen,hpv];simp only;rw[hvlist];exact lN hcr hrf (row*i.size+off)
 ·rw[hlen];simp only;rw[hvlist];intro v hv';simp only[List.mem_append]at hv';rcases hv' with(h|h)|h
  ·exact h1c v (List.mem_of_mem_take h)
  ·exact hone v h
  ·exact h1c v (List.mem_of_mem_drop h)
 ·intro o' v' hm';rw[hw1 trivial o']at hm';cases hm'
 ·intro o' _;exact hw1 trivial o'
end
section
variable{P:Program}{Px:PV→Prop}{ops:Array Oper}{rest:List Oper}{o:Oper}{n:Nat}{s s':Nat→PV}{bx:Nat→Option Box}{ob:Nat→Option Obj}{K:PState→Prop}{T:TT}{rb:RB}{k:Nat}{L:List Nat}
theorem nj(hg:aN ops s o=some true){r:PV}(hd:DetS P o (evS s) ⟨bx,ob⟩ r)(hp:putD n s o.dst r=some s')(h:Ao P Px ops rest ⟨n,s',bx,ob⟩ K):Ao P Px ops (o::rest) ⟨n,s,bx,ob⟩ K:=
 fQ hg (fun C M a w next Q hi he hn=>by
  obtain⟨v,hrun,hr⟩:=hd C M a w hi he
  unfold Oper.wp;rw[hrun];exact hn v r ⟨bx,ob⟩ M w ⟨s',hp,h⟩ (Mem.le_refl M) hi hr)
theorem ny(ho:ops[k]? =some o)(hg:aN ops s o=some true)(hc:cj o.op= .det){r:PV}(hd:∀bx',DetS P o (evS s) ⟨bx',if rb.o o&&dK o.op then jH ob else fun _=>none⟩ r)(hp:putD n s o.dst r=some s')
  (h:Do P Px T rb ops L ⟨n,s',bx,ob⟩ K):Do P Px T rb ops (k::L) ⟨n,s,bx,ob⟩ K:=by
 refine⟨o,ho,true,hg,?_⟩
 simp only[if_true,hc]
 exact⟨r,s',.inr fun bx' _=>hd bx',hp,h⟩
theorem nl(hT:T.Ok P)(ho:ops[k]? =some o)(hg:aN ops s o=some true){t:TypeId}{x i:Operand}(hop:o.op= .indexAddr t x i){ti ei:TInfo}{e:TypeId}(hti:T.get t=some ti)(hd:ti.desc= .slice e)(hei:T.get e=some ei)
  {tag:Nat} {g:OwnRef} {len:Nat} (hx:evS s x= .own tag g len) {kk:IntKind} {j:Int} (hi:evS s i= .val (.int kk j)) (hj:0≤j∧j.toNat<len) (hb:∃b,g.blk=some b) (hp:putD n s o.dst (.optr tag g ei.size j.toNat 0)=some s') (h:Do P Px T rb ops L ⟨n,s',bx,ob⟩ K):
  Do P Px T rb ops (k::L) ⟨n,s,bx,ob⟩ K:=ny ho hg (by rw[hop];rfl) (fun _=>detS_idxO hT hop hti hd hei hx hi hj hb) hp h
theorem mf(hT:T.Ok P)(ho:ops[k]? =some o)(hg:aN ops s o=some true){t:TypeId}{x y:Operand}(hop:o.op= .store t x y)(hdst:o.dst=none){ti:TInfo}(hti:T.get t=some ti){tag:Nat}{g:OwnRef}{kz row off:Nat}(hx:evS s x= .optr tag g kz row off)
  {e:TypeId} {rows rows':List (List PV)} (hob:ob tag=some ⟨g,e,rows,true⟩) {ei:TInfo} (hei:T.get e=some ei) (hk:kz=ei.size) (hrow:row<rows.length) {py:PV} (hy:PLe P (evS s y) py) {cs:List PV} (hc:cw py=some cs) (hf:PV.frozL cs=true) (h1:cs.all PV.one=true) (hl:cs.length=ti.size) (hle:off+ti.size≤ei.size)
  (hr:setRow rows row off cs=rows') (h:Do P Px T rb ops L ⟨n,s,bx,upd ob tag (some ⟨g,e,rows',true⟩)⟩ K) (he1:rb.e1 o=true:=by rfl):Do P Px T rb ops (k::L) ⟨n,s,bx,ob⟩ K:=by
 subst hr
 refine⟨o,ho,true,hg,?_⟩
 simp only[if_true,hop,cj]
 exact⟨hdst,.inr ⟨he1,fun bx'=>eff_storeO hT hop hti hx hob hei hk hrow hy hc hf h1 hl hle ⟨rfl,h⟩⟩⟩
theorem idxLen{α β:Type}{f:α→β}{xs:List α}{j:Nat}{x:α}(h:xs[j]? =some x):j<(xs.map f).length:=by
 have:=(zg.1 h).1
 simpa using this
theorem idxBlk{α:Type}{f:α→List PV}{xs:List α}{j:Nat}{x:α}{g:OwnRef}(ho:xs.map f≠[]→∃b,g.blk=some b)(h:xs[j]? =some x):∃b,g.blk=some b:=by
 refine ho fun e=>?_
 have:=(zg.1 h).1
 rw[List.map_eq_nil_iff]at e;rw[e]at this;simp at this
theorem lv{α:Type}{f f':α→List PV}(hE:∀x,f' x=f x){xs ys:List α}{j off:Nat}{x v:α}{cs:List PV}(h:xs[j]? =some x)(hs:splice (f x) off cs=f v)(hy:xs.set j v=ys):setRow (xs.map f') j off cs=ys.map f':=by
 subst hy;have hlt:=(zg.1 h).1;unfold setRow;have e:(xs.map f').getD j []=f x:=by simp[h,hE]
 rw[e,hs,←hE v,List.map_set]
theorem set_len{α β:Type}{f:α→β}{xs ys:List α}{j:Nat}{v:α}(hy:xs.set j v=ys):(xs.map f).length=(ys.map f).length:=by subst hy;simp
theorem iw{fn:Func}{R:PV→Heap→Prop}{ks:List KI}{tag:Nat}{g:OwnRef}{e:TypeId}{rows:List (List PV)}{wr:Bool}(hob:ob tag=some ⟨g,e,rows,wr⟩)(h:(rows≠[]→∃b,g.blk=some b)→V P Px fn R ks ⟨n,s,bx,ob⟩):V P Px fn R ks ⟨n,s,bx,ob⟩:=fun C M a w hi=>by
 refine h (fun hne=>?_) C M a w hi
 obtain⟨_,_,_,_,h4⟩:=hi.2.objs tag _ hob
 rcases h4 with⟨_,h5,_⟩|⟨b,_,h5,_⟩
 ·exact absurd h5 hne
 ·exact⟨b,h5⟩
end
def fo(bx:Nat→Option Box)(m:List (Nat×Nat)):Nat→Option Box:=fun t=>match m.find? (fun p=>Nat.beq p.2 t)with
 |some p=>bx p.1
 |none=>none
def fH(ob:Nat→Option Obj)(m:List (Nat×Nat)):Nat→Option Obj:=fun t=>match m.find? (fun p=>Nat.beq p.2 t)with
 |some p=>ob p.1
 |none=>none
theorem beqC(a b:Nat):Nat.beq a b=Nat.beq b a:=by
 cases h:Nat.beq a b with
 |true=>rw[Nat.eq_of_beq_eq_true h];exact(Nat.beq_refl b).symm
 |false=>
  cases h':Nat.beq b a with
  |true=>rw[Nat.eq_of_beq_eq_true h']at h;rw[show Nat.beq a a=true from Nat.beq_refl a]at h;cases h
  |false=>rfl
theorem be(bx:Nat→Option Box):fo bx []=fun _=>none:=rfl
theorem bf(ob:Nat→Option Obj):fH ob []=fun _=>none:=rfl
theorem aU(bx:Nat→Option Box)(c k:Nat)(m:List (Nat×Nat)):fo bx ((c,k)::m)=upd (fo bx m) k (bx c):=by
 funext t;simp only[fo,upd,List.find?_cons];rw[beqC t k];cases Nat.beq k t<;>rfl
theorem lK(ob:Nat→Option Obj)(c k:Nat)(m:List (Nat×Nat)):fH ob ((c,k)::m)=upd (fH ob m) k (ob c):=by
 funext t;simp only[fH,upd,List.find?_cons];rw[beqC t k];cases Nat.beq k t<;>rfl
def fG(bx:Nat→Option Box)(m:List (Nat×Nat))(bx':Nat→Option Box):Nat→Option Box:=fun t=>match m.find? (fun p=>Nat.beq p.1 t)with
 |some p=>bx' p.2
 |none=>bx t
def gR(ob:Nat→Option Obj)(m:List (Nat×Nat))(ob':Nat→Option Obj):Nat→Option Obj:=fun t=>match m.find? (fun p=>Nat.beq p.1 t)with
 |some p=>ob' p.2
 |none=>ob t
def bc:List Nat→Bool
 |[]=>true
 |a::l=>l.all (fun b=>!Nat.beq a b)&&bc l
theorem fk{f:Nat×Nat→Nat}:∀{m:List (Nat×Nat)} {p:Nat×Nat},bc (m.map f)=true→p∈m→m.find? (fun q=>Nat.beq (f q) (f p))=some p
 |[],_,_,h=>by simp at h
 |q::m,p,hd,h=>by
  simp only[List.map_cons,bc,Bool.and_eq_true]at hd;rw[List.find?_cons];rcases List.mem_cons.1 h with rfl|h
  ·rw[show Nat.beq (f p) (f p)=true from Nat.beq_refl _]
  ·have hne:Nat.beq (f q) (f p)=false:=by
    have:=(List.all_eq_true.1 hd.1) (f p) (List.mem_map.2 ⟨p,h,rfl⟩)
    simpa using this
   rw[hne];exact fk hd.2 h
theorem ls{f:Nat×Nat→Nat}{m:List (Nat×Nat)}{t:Nat}{p:Nat×Nat}(h:m.find? (fun q=>Nat.beq (f q) t)=some p):p∈m∧f p=t:=
 ⟨List.mem_of_find?_eq_some h,by
  have:=List.find?_some h
  exact Nat.eq_of_beq_eq_true this⟩
def eE(H:Heap)(mb mo:List (Nat×Nat)):List Nat:=mb.filterMap (fun p=>(H.bx p.1).map Box.b)++mo.filterMap (fun p=>(H.ob p.1).bind fun x=>x.g.blk)
theorem kL{H:Heap}{mb mo:List (Nat×Nat)}{b:Nat}(h:b∈eE H mb mo):(∃p x,p∈mb∧H.bx p.1=some x∧x.b=b)∨∃p x,p∈mo∧H.ob p.1=some x∧x.g.blk=some b:=by
 simp only[eE,List.mem_append,List.mem_filterMap]at h;rcases h with⟨p,hp,h⟩|⟨p,hp,h⟩
 ·rw[Option.map_eq_some_iff]at h
  obtain⟨x,hx,rfl⟩:=h
  exact .inl ⟨p,x,hp,hx,rfl⟩
 ·rw[Option.bind_eq_some_iff]at h
  obtain⟨x,hx,h⟩:=h
  exact .inr ⟨p,x,hp,hx,h⟩
theorem ownOf_box{H:Heap}{mb mo:List (Nat×Nat)}{p:Nat×Nat}{x:Box}(hp:p∈mb)(hx:H.bx p.1=some x):x.b∈eE H mb mo:=by
 simp only[eE,List.mem_append,List.mem_filterMap];exact .inl ⟨p,hp,by rw[hx];rfl⟩
theorem ownOf_obj{H:Heap}{mb mo:List (Nat×Nat)}{p:Nat×Nat}{x:Obj}{b:Nat}(hp:p∈mo)(hx:H.ob p.1=some x)(hb:x.g.blk=some b):b∈eE H mb mo:=by
 simp only[eE,List.mem_append,List.mem_filterMap];exact .inr ⟨p,hp,by rw[hx];exact hb⟩
section
variable{P:Program}{Px:PV→Prop}{C:Ctx}{M:Mem}{H:Heap}{w:World}{mb mo:List (Nat×Nat)}
theorem jE{bx:Nat→Option Box}{m:List (Nat×Nat)}{t:Nat}{x:Box}(h:fo bx m t=some x):∃p,p∈m∧p.2=t∧bx p.1=some x:=by
 unfold fo at h;split at h
 ·rename_i p hp
  obtain⟨h1,h2⟩:=ls (f:=Prod.snd) hp
  exact⟨p,h1,h2,h⟩
 ·cases h
theorem jK{ob:Nat→Option Obj}{m:List (Nat×Nat)}{t:Nat}{x:Obj}(h:fH ob m t=some x):∃p,p∈m∧p.2=t∧ob p.1=some x:=by
 unfold fH at h;split at h
 ·rename_i p hp
  obtain⟨h1,h2⟩:=ls (f:=Prod.snd) hp
  exact⟨p,h1,h2,h⟩
 ·cases h
theorem fst_inj{m:List (Nat×Nat)}(hd:bc (m.map Prod.fst)=true){p q:Nat×Nat}(hp:p∈m)(hq:q∈m)(h:p.1=q.1):p=q:=by
 have h1:=fk (f:=Prod.fst) hd hp;have h2:=fk (f:=Prod.fst) hd hq;rw[h]at h1;rw[h1]at h2;exact Option.some.inj h2
theorem InvH.ownMine(h:InvH P C M H w):∀b∈eE H mb mo,C.mine b:=by
 intro b hb;rcases kL hb with⟨p,x,_,hx,rfl⟩|⟨p,x,_,hx,hb⟩
 ·exact(h.boxes _ _ hx).1
 ·obtain⟨_,_,_,_,h4⟩:=h.objs _ _ hx
  rcases h4 with⟨h5,_⟩|⟨b',_,h5,h6,_⟩
  ·rw[h5]at hb;cases hb
  ·rw[h5]at hb;cases hb;exact h6
theorem InvH.enterH(h:InvH P C M H w)(hb1:bc (mb.map Prod.fst)=true)(ho1:bc (mo.map Prod.fst)=true):InvH P ⟨w,eE H mb mo,M,h.gl h.ownMine,[]⟩ M ⟨fo H.bx mb,fH H.ob mo⟩ w:=by
 refine⟨h.mem,Mem.le_refl M,fun _ _ _ hm=>.inl hm,rfl,rfl,rfl,Nat.le_refl _,fun _ _ _=>rfl,?_,?_,?_,?_,?_⟩
 ·intro t x hx
  obtain⟨p,hp,_,hx⟩:=jE hx
  obtain⟨_,h2,h3⟩:=h.boxes _ _ hx
  exact⟨.inr (ownOf_box hp hx),h2,h3⟩
 ·intro t x hx
  obtain⟨p,hp,_,hx⟩:=jK hx
  obtain⟨i,h1,h2,h3,h4⟩:=h.objs _ _ hx
  refine⟨i,h1,h2,h3,?_⟩
  rcases h4 with h4|⟨b,cur,hb,_,h5⟩
  ·exact .inl h4
  ·exact .inr ⟨b,cur,hb,.inr (ownOf_obj hp hx hb),h5⟩
 ·intro t t' x x' hx hx' hb
  obtain⟨p,hp,e1,hy⟩:=jE hx
  obtain⟨q,hq,e2,hy'⟩:=jE hx'
  rw[←e1,←e2,fst_inj hb1 hp hq (h.dbox _ _ x x' hy hy' hb)]
 ·intro t t' x x' b hx hx' hb hb'
  obtain⟨p,hp,e1,hy⟩:=jK hx
  obtain⟨q,hq,e2,hy'⟩:=jK hx'
  rw[←e1,←e2,fst_inj ho1 hp hq (h.dobj _ _ x x' b hy hy' hb hb')]
 ·intro t t' x x' hx hx' hb
  obtain⟨p,hp,_,hy⟩:=jE hx
  obtain⟨q,hq,_,hy'⟩:=jK hx'
  exact h.dmix _ _ x x' hy hy' hb
theorem InvH.afterH{M':Mem}{H':Heap}{w':World}(h:InvH P C M H w)(_hb1:bc (mb.map Prod.fst)=true)(hb2:bc (mb.map Prod.snd)=true)(_ho1:bc (mo.map Prod.fst)=true)(ho2:bc (mo.map Prod.snd)=true)
  {hg:Gl w (eE H mb mo)} (h':InvH P ⟨w,eE H mb mo,M,hg,[]⟩ M' H' w'):InvH P C M' ⟨fG H.bx mb H'.bx,gR H.ob mo H'.ob⟩ w':=by
 have hown:∀b,b∈eE H mb mo→C.mine b:=by
  intro b hb;rcases kL hb with⟨p,x,_,hx,rfl⟩|⟨p,x,_,hx,hb⟩
  ·exact(h.boxes _ _ hx).1
  ·obtain⟨_,_,_,_,h4⟩:=h.objs _ _ hx
   rcases h4 with⟨h5,_⟩|⟨b',_,h5,h6,_⟩
   ·rw[h5]at hb;cases hb
   ·rw[h5]at hb;cases hb;exact h6
 have hup:∀b,(⟨w,eE H mb mo,M,hg,[]⟩:Ctx).mine b→C.mine b:=fun b hb=>by
  rcases hb with hb|hb
  ·exact .inl (Nat.le_trans h.size hb)
  ·exact hown b hb
 have hnone:∀b o,b<w.heap.size→b∉eE H mb mo→M b o=none→M' b o=none:=by
  intro b o hb hno hn;cases hm:M' b o with
  |none=>rfl
  |some v=>
   rcases h'.new b o v hm with h1|h1|h1
   ·rw[show M b o=some v from h1]at hn;cases hn
   ·exact absurd hb (Nat.not_lt.2 h1)
   ·exact absurd h1 hno
 have kb:∀t x,fG H.bx mb H'.bx t=some x→(∃p,p∈mb∧p.1=t∧H'.bx p.2=some x)∨((∀p∈mb,p.1≠t)∧H.bx t=some x):=by
  intro t x hx;unfold fG at hx;split at hx
  ·rename_i p hp
   obtain⟨h1,h2⟩:=ls (f:=Prod.fst) hp
   exact .inl ⟨p,h1,h2,hx⟩
  ·rename_i hp;rw[List.find?_eq_none]at hp;exact .inr ⟨fun p hp' e=>hp p hp' (by rw[e];exact Nat.beq_refl _),hx⟩
 have ko:∀t x,gR H.ob mo H'.ob t=some x→(∃p,p∈mo∧p.1=t∧H'.ob p.2=some x)∨((∀p∈mo,p.1≠t)∧H.ob t=some x):=by
  intro t x hx;unfold gR at hx;split at hx
  ·rename_i p hp
   obtain⟨h1,h2⟩:=ls (f:=Prod.fst) hp
   exact .inl ⟨p,h1,h2,hx⟩
  ·rename_i hp;rw[List.find?_eq_none]at hp;exact .inr ⟨fun p hp' e=>hp p hp' (by rw[e];exact Nat.beq_refl _),hx⟩
 -- what was kept is not among what was handed over
 have nb:∀t x,(∀p∈mb,p.1≠t)→H.bx t=some x→x.b∉eE H mb mo:=by
  intro t x hn hx hm;rcases kL hm with⟨p,y,hp,hy,e⟩|⟨p,y,hp,hy,e⟩
  ·exact hn p hp (h.dbox _ _ y x hy hx e)
  ·exact h.dmix _ _ x y hx hy e
 have no:∀t x b,(∀p∈mo,p.1≠t)→H.ob t=some x→x.g.blk=some b→b∉eE H mb mo:=by
  intro t x b hn hx hb hm;rcases kL hm with⟨p,y,hp,hy,e⟩|⟨p,y,hp,hy,e⟩
  ·exact h.dmix _ _ y x hy hx (by rw[hb,e])
  ·exact hn p hp (h.dobj _ _ y x b hy hx e hb)
 have mb':∀t x,H'.bx t=some x→w.heap.size≤x.b∨x.b∈eE H mb mo:=fun t x hx=>(h'.boxes t x hx).1
 have mo':∀t x b,H'.ob t=some x→x.g.blk=some b→w.heap.size≤b∨b∈eE H mb mo:=by
  intro t x b hx hb
  obtain⟨_,_,_,_,h4⟩:=h'.objs t x hx
  rcases h4 with⟨h5,_⟩|⟨b',_,h5,h6,_⟩
  ·rw[h5]at hb;cases hb
  ·rw[h5]at hb;cases hb;exact h6
 have bz:∀t x b,H.ob t=some x→x.g.blk=some b→b<w.heap.size:=fun t x b hx hb=>h.obj_lt hx hb
 have snd_eq:∀{m:List (Nat×Nat)},bc (m.map Prod.snd)=true→∀{p q:Nat×Nat},p∈m→q∈m→p.2=q.2→p=q:=by
  intro m hd p q hp hq e;have h1:=fk (f:=Prod.snd) hd hp;have h2:=fk (f:=Prod.snd) hd hq;rw[e]at h1;rw[h1]at h2;exact Option.some.inj h2
 refine⟨h'.mem,Mem.le_trans h.ext h'.ext,?_,h'.os.trans h.os,h'.tape.trans h.tape,h'.output.trans h.output,Nat.le_trans h.size h'.size,?_,?_,?_,?_,?_,?_⟩
 ·intro b o v hm;rcases h'.new b o v hm with h1|h1
  ·exact h.new b o v h1
  ·exact .inr (hup b h1)
 ·intro b hb hn
  have hno:b∉eE H mb mo:=fun hm=>by
   rcases hown b hm with h1|h1
   ·omega
   ·exact hn h1
  exact(h'.frame b (Nat.lt_of_lt_of_le hb h.size) hno).trans (h.frame b hb hn)
 ·intro t x hx;rcases kb t x hx with⟨p,hp,_,hx⟩|⟨hn,hx⟩
  ·obtain⟨h1,h2,h3⟩:=h'.boxes _ _ hx
   exact⟨hup _ h1,h2,h3⟩
  ·have hno:=nb t x hn hx
   exact(h.boxes t x hx).keep h'.ext (fun o ho=>hnone _ o (h.box_lt hx) hno ho) (h'.frame _ (h.box_lt hx) hno)
 ·intro t x hx;rcases ko t x hx with⟨p,hp,_,hx⟩|⟨hn,hx⟩
  ·obtain⟨i,h1,h2,h3,h4⟩:=h'.objs _ _ hx
   refine⟨i,h1,h2,h3,?_⟩
   rcases h4 with h4|⟨b,cur,h5,h6,h7⟩
   ·exact .inl h4
   ·exact .inr ⟨b,cur,h5,hup _ h6,h7⟩
  ·exact(h.objs t x hx).keep h'.ext (fun b o hb ho=>hnone _ o (h.obj_lt hx hb) (no t x b hn hx hb) ho) (fun b hb=>h'.frame _ (h.obj_lt hx hb) (no t x b hn hx hb))
 ·intro t t' x x' hx hx' hb;rcases kb t x hx with⟨p,hp,e,hx⟩|⟨hn,hx⟩<;>rcases kb t' x' hx' with⟨q,hq,e',hx'⟩|⟨hn',hx'⟩
  ·have:=snd_eq hb2 hp hq (h'.dbox _ _ x x' hx hx' hb)
   rw[←e,←e',this]
  ·rcases mb' _ _ hx with h1|h1
   ·have:=h.box_lt hx';omega
   ·exact absurd (hb▸h1) (nb t' x' hn' hx')
  ·rcases mb' _ _ hx' with h1|h1
   ·have:=h.box_lt hx;omega
   ·exact absurd (hb▸h1) (nb t x hn hx)
  ·exact h.dbox t t' x x' hx hx' hb
 ·intro t t' x x' b hx hx' hb hb';rcases ko t x hx with⟨p,hp,e,hx⟩|⟨hn,hx⟩<;>rcases ko t' x' hx' with⟨q,hq,e',hx'⟩|⟨hn',hx'⟩
  ·have:=snd_eq ho2 hp hq (h'.dobj _ _ x x' b hx hx' hb hb')
   rw[←e,←e',this]
  ·rcases mo' _ _ b hx hb with h1|h1
   ·have:=h.obj_lt hx' hb';omega
   ·exact absurd h1 (no t' x' b hn' hx' hb')
  ·rcases mo' _ _ b hx' hb' with h1|h1
   ·have:=h.obj_lt hx hb;omega
   ·exact absurd h1 (no t x b hn hx hb)
  ·exact h.dobj t t' x x' b hx hx' hb hb'
 ·intro t t' x x' hx hx' hb;rcases kb t x hx with⟨p,hp,e,hx⟩|⟨hn,hx⟩<;>rcases ko t' x' hx' with⟨q,hq,e',hx'⟩|⟨hn',hx'⟩
  ·exact h'.dmix _ _ x x' hx hx' hb
  ·rcases mb' _ _ hx with h1|h1
   ·have:=h.obj_lt hx' hb;omega
   ·exact no t' x' _ hn' hx' hb h1
  ·rcases mo' _ _ _ hx' hb with h1|h1
   ·have:=h.box_lt hx;omega
   ·exact nb t x hn hx h1
  ·exact h.dmix t t' x x' hx hx' hb
theorem eff_callH{o:Oper}{ev:Operand→PV}{H:Heap}{fx:Operand}{av0:Array Operand}{ts:Array TypeId}(ho:o.op= .call {callee:= .value fx,args:=av0,argTypes:=ts}){g:FuncId}{caps:List PV}
  (hf:ev fx= .fn g caps) (hcall:∀vs w,(callFunc g vs).run P w= .ok (.enter g vs) w) (mb mo:List (Nat×Nat)) (hb1:bc (mb.map Prod.fst)=true) (hb2:bc (mb.map Prod.snd)=true) (ho1:bc (mo.map Prod.fst)=true) (ho2:bc (mo.map Prod.snd)=true)
  {args:List PV} (hle:dQ P (av0.toList.map ev++caps) args) {R:PV→Heap→Prop} (hc:PH P g args ⟨fo H.bx mb,fH H.ob mo⟩ R)
  {K:PV→Heap→Prop} (hk:∀u H',R u H'→K u ⟨fG H.bx mb H'.bx,gR H.ob mo H'.ob⟩):Eff P Px o ev H K:=by
 intro C M a w next Q hi he hn
 have hfr:=he fx (by rw[ho];simp[Op.operands,Call.operands]);rw[hf]at hfr;simp only[Rep]at hfr
 obtain⟨cs,hv,hcaps⟩:=hfr
 have hargs:ay P M true (av0.toList.map ev) (av0.map a.eval).toList:=by
  simpa using iv av0.toList fun x hx=>he x (by rw[ho];simp_all[Op.operands,Call.operands])
 have hrep:=hle M _ (hargs.append hcaps)
 have hrun:(execOp a.eval o).run P w= .ok (.enter g (av0.map a.eval++cs)) w:=by
  simp[execOp,ho,resolve,hv,Deferred.ofValue,invoke,hcall]
 unfold Oper.wp;rw[hrun];simp only[Oper.upon]
 refine(hc w M (eE H mb mo) (hi.gl hi.ownMine) _ (hi.enterH hb1 ho1) (by simpa using hrep)).mono ?_
 rintro e w' ⟨v,u,H',M',rfl,hR,hi',hr⟩;exact hn v u _ M' w' (hk u H' hR) hi'.ext (hi.afterH hb1 hb2 ho1 ho2 hi') hr
end
section
variable{P:Program}{Px:PV→Prop}{ops:Array Oper}{rest:List Oper}{o:Oper}{n:Nat}{s s':Nat→PV}{bx bx1:Nat→Option Box}{ob ob1:Nat→Option Obj}{K:PState→Prop}{T:TT}{rb:RB}{k:Nat}{L:List Nat}
theorem bE(hg:aN ops s o=some true){fx:Operand}{av0:Array Operand}{ts:Array TypeId}(ho:o.op= .call {callee:= .value fx,args:=av0,argTypes:=ts}){g:FuncId}{caps:List PV}
  (hf:evS s fx= .fn g caps) (hcall:∀vs w,(callFunc g vs).run P w= .ok (.enter g vs) w) (mb mo:List (Nat×Nat)) (hb1:bc (mb.map Prod.fst)=true) (hb2:bc (mb.map Prod.snd)=true) (ho1:bc (mo.map Prod.fst)=true) (ho2:bc (mo.map Prod.snd)=true)
  {args:List PV} (hle:dQ P (av0.toList.map (evS s)++caps) args) {Hin:Heap} (hin:Hin=⟨fo bx mb,fH ob mo⟩) {R:PV→Heap→Prop} (hc:PH P g args Hin R)
  (h:∀u H',R u H'→∃s',putD n s o.dst u=some s'∧Ao P Px ops rest ⟨n,s',fG bx mb H'.bx,gR ob mo H'.ob⟩ K):Ao P Px ops (o::rest) ⟨n,s,bx,ob⟩ K:=
 fQ hg (eff_callH ho hf hcall mb mo hb1 hb2 ho1 ho2 hle (hin▸hc) h)
theorem jn.own{t t':Nat}{g:OwnRef}{l l':Nat}(h:l=l'):jn P (.own t g l) (.own t' g l'):=by
 subst h;intro M s x hx;simpa only[Rep]using hx
theorem jn.boxT{t t' b o:Nat}:jn P (.box t b o) (.box t' b o):=by
 intro M s x hx;simpa only[Rep]using hx
theorem jZ{fn:Func}{R:PV→Heap→Prop}{ks:List KI}{T:TT}(hT:T.Ok P){rs:Array ResultVar}(hres:fn.results=rs){ps:List PV}(h:il T ⟨n,s,bx,ob⟩ rs.toList ps){u:PV}(hu:PLe P (jC ps) u)(hR:R u ⟨bx,ob⟩):
  V P Px fn R (.code .ret::ks) ⟨n,s,bx,ob⟩:=cF hT hres h hu ⟨fun _ _ hx=>hx,fun _ _ hx=>hx⟩ hR
theorem eU{fn:Func}{R:PV→Heap→Prop}(hres:fn.results=#[]){u:PV}(hu:PLe P (.tup []) u)(hR:R u ⟨bx,ob⟩):V P Px fn R [] ⟨n,s,bx,ob⟩:=by
 intro C M a w hi;refine retP.ofN hi fun C w hi=>?_
 have hr:(results fn a.tmps).run P w= .ok (.tuple #[]) w:=by
  rw[lJ hres];simp
 exact⟨.tuple #[],hr,.tuple #[],u,⟨bx,ob⟩,M,rfl,hR,hi.2,hu M _ (by simp[Rep,ay])⟩
end
end
end Go.Ab

namespace Go.Ab
noncomputable section
open Classical in
def limN{β:Type}(F:Nat→Option β):Option β:=
 if h:∃r,∃n,∀m,n≤m→F m=some r then some h.choose else none
theorem ie{β:Type}{F:Nat→Option β}{r:β}(h:limN F=some r):∃n,F n=some r:=by
 unfold limN at h;split at h
 ·next hx=>
  obtain⟨n,hn⟩:=hx.choose_spec
  exact⟨n,by rw[hn n (Nat.le_refl n)];exact h⟩
 ·cases h
theorem jN{β:Type}{F:Nat→Option β}{r:β}(n:Nat)(h:∀m,n≤m→F m=some r):limN F=some r:=by
 have hx:∃r,∃n,∀m,n≤m→F m=some r:=⟨r,n,h⟩;unfold limN;rw[dif_pos hx]
 obtain⟨k,hk⟩:=hx.choose_spec
 have e1:=hk (max n k) (Nat.le_max_right n k);have e2:=h (max n k) (Nat.le_max_left n k);rw[←e1,e2]
end
end Go.Ab

namespace Go.Ab
noncomputable section
section
variable{P:Program}{Px:PV→Prop}{C:Ctx}{M:Mem}{H:Heap}{w:World}
theorem freeze_new(w:World)(cs:Array Value)(e:TypeId)(n:Nat):(w.alloc (.cells cs e)).freeze ⟨w.heap.size,n,none⟩ 1=w.alloc (.cells cs e (n,n+1)):=by
 unfold World.freeze World.alloc;simp only[Nat.one_ne_zero,if_false];congr 1;apply Array.ext
 ·simp
 ·intro i h1 h2;rw[Array.getElem_modify];split
  ·rename_i hi;subst hi;simp
  ·rename_i hi
   have:i<w.heap.size:=by simp at h2;omega
   simp[Array.getElem_push,this]
end
section
variable{P:Program}{Px:PV→Prop}{ops:Array Oper}{rest:List Oper}{o:Oper}{n:Nat}{s s':Nat→PV}{bx:Nat→Option Box}{ob:Nat→Option Obj}{K:PState→Prop}{T:TT}{rb:RB}{k:Nat}{L:List Nat}
end
end
end Go.Ab

namespace Go.Ab
noncomputable section
open Go.RowKit (Below)
abbrev pErr(b:Bool):PV:= .err b
section
variable{P:Program}{Px:PV→Prop}{T:TT}{rb:RB}{ops:Array Oper}{rest:List Oper}{L:List Nat}{k:Nat}{o:Oper}{n:Nat}{s s':Nat→PV}{bx:Nat→Option Box}{ob:Nat→Option Obj}{K:PState→Prop}
theorem rep_pErr{M:Mem}{q:Bool}{b:Bool}{x:Value}(h:Rep P M q (pErr b) x):(b=false∧x= .nilIface)∨(b=true∧∃t p,x= .iface t p):=by
 simpa only[pErr,Rep]using h
theorem gY(w:World)(d:Nat){t:TypeId}{ms:Array (String×TypeId)}(hu:P.underlying t=some (.interface ms))(b:Bool){v:Value}(hv:(b=false∧v= .nilIface)∨(b=true∧∃t p,v= .iface t p)):(Op.equalIn (d+1) t v .nilIface).run P w= .ok (!b) w:=by
 rcases hv with⟨rfl,rfl⟩|⟨rfl,t1,p1,rfl⟩<;>simp[Op.equalIn,run_underlying hu]
theorem run_eqlNil(w:World){t:TypeId}{ms:Array (String×TypeId)}(hu:P.underlying t=some (.interface ms))(b:Bool){v:Value}(hv:(b=false∧v= .nilIface)∨(b=true∧∃t p,v= .iface t p)):(binOp .eql t v .nilIface).run P w= .ok (.bool (!b)) w:=by
 have h:=gY w 9999 hu b hv;rcases hv with⟨rfl,rfl⟩|⟨rfl,t1,p1,rfl⟩
 ·simp only[binOp,Op.equal,Op.maxDepth];rw[Sem.run_bind,h];rfl
 ·simp only[binOp,Op.equal,Op.maxDepth];rw[Sem.run_bind,h];rfl
theorem detS_errN{t t':TypeId}{x:Operand}(ho:o.op= .binOp .eql t x (.const .nilIface) t'){ms:Array (String×TypeId)}(hu:P.underlying t=some (.interface ms)){ev:Operand→PV}{H:Heap}{b:Bool}(hx:ev x=pErr b):DetS P o ev H (.val (.bool (!b))):=by
 intro C M a w _ he;have hxr:=he x (by rw[ho];simp[Op.operands]);rw[hx]at hxr;have hv:=rep_pErr hxr
 refine⟨.bool (!b),?_,by simp only[Rep]⟩
 have hn:a.eval (.const .nilIface)= .nilIface:=rfl
 have hq:(eqGuard .eql t x (.const .nilIface) (a.eval x) .nilIface).run P w= .ok () w:=by
  rcases hv with⟨_,hv⟩|⟨_,t1,p1,hv⟩<;>rw[hv]<;>simp[eqGuard]
 simp only[execOp,ho,hn,Sem.run_bind,hq,Result.andThen_ok,run_eqlNil w hu b hv];rfl
theorem Do.errN(ho:ops[k]? =some o)(hg:aN ops s o=some true){t t':TypeId}{x:Operand}(hop:o.op= .binOp .eql t x (.const .nilIface) t'){ms:Array (String×TypeId)}(hu:P.underlying t=some (.interface ms)){b:Bool}(hx:evS s x=pErr b)
  (hp:putD n s o.dst (.val (.bool (!b)))=some s') (h:Do P Px T rb ops L ⟨n,s',bx,ob⟩ K):Do P Px T rb ops (k::L) ⟨n,s,bx,ob⟩ K:=ny ho hg (by rw[hop];rfl) (fun _=>detS_errN hop hu hx) hp h
end
section
variable{P:Program}{Px:PV→Prop}
theorem PFun.ff{f:FuncId}{args:List PV}{r:PV}
  (h:∀(w:World) (M:Mem) (vs:Array Value),GlW w→ay P M true args vs.toList→(∀b o v,M b o=some v→w.cell? ⟨b,o,none⟩=some v)→Calls P f vs w fun e w'=>∃v,e= .returned v∧Below w.heap.size w w'∧Rep P M true r v):
  bI P f args r:=by
 intro w M own hg vs hi ha;have hi0:InvH P ⟨w,own,M,hg,[]⟩ M Heap.empty w:=hi
 refine(h w M vs hg.1 ha hi.mem).mono ?_
 rintro e w' ⟨v,rfl,hb,hr⟩
 refine⟨v,r,Heap.empty,M,rfl,⟨rfl,rfl⟩,?_,hr⟩
 refine⟨fun b o v hm=>?_,Mem.le_refl _,fun _ _ _ h=>.inl h,hb.os,hb.tape,hb.output,hb.size,fun b hb' _=>hb.block b hb',fun _ _ h=>by simp[Heap.empty]at h,fun _ _ h=>by simp[Heap.empty]at h,
  fun _ _ _ _ h=>by simp[Heap.empty]at h,fun _ _ _ _ _ h=>by simp[Heap.empty]at h,fun _ _ _ _ h=>by simp[Heap.empty]at h⟩
 have h1:=hi0.mem b o v hm;have h2:=hb.block b (hi0.mem_lt hm);simpa only[World.cell?,h2]using h1
end
section
variable{P:Program}{Px:PV→Prop}{T:TT}{ops:Array Oper}{rest:List Oper}{o:Oper}{n:Nat}{s:Nat→PV}{bx:Nat→Option Box}{ob:Nat→Option Obj}{K:PState→Prop}
end
end
end Go.Ab

namespace Go.Proofs
noncomputable section
open Go.Shelf
def Tryz.lays156_ren:Go.Shelf.Ren:=⟨fun|156=>67|165=>99|166=>100|169=>101|240=>140|241=>141|276=>181|277=>182|n=>n,fun|31=>23|9=>9|3=>3|4=>4|0=>0|20=>20|72=>154|76=>147|70=>151|37=>152|75=>146|127=>191|164=>227|5=>5|80=>79|n=>n,fun|n=>n⟩
theorem Tryz.lays156:Go.Proofs.Lays.n156 Tryz.prog Tryz.lays156_ren:={
 mixed:=by kernel_rfl
 f156:=Tryz.func67.trans (congrArg some (by kernel_rfl))
 f165:=Tryz.func99.trans (congrArg some (by kernel_rfl))
 f166:=Tryz.func100.trans (congrArg some (by kernel_rfl))
 f169:=Tryz.func101.trans (congrArg some (by kernel_rfl))
 f240:=Tryz.func140.trans (congrArg some (by kernel_rfl))
 f241:=Tryz.func141.trans (congrArg some (by kernel_rfl))
 f276:=Tryz.func181.trans (congrArg some (by kernel_rfl))
 f277:=Tryz.func182.trans (congrArg some (by kernel_rfl))
 t0:=Tryz.underlying0
 a0:=Tryz.isAgg0
 z0:=Tryz.sizeOf0
 v0:=Tryz.zeroValue0
 t3:=Tryz.underlying3
 a3:=Tryz.isAgg3
 z3:=Tryz.sizeOf3
 v3:=Tryz.zeroValue3
 t4:=Tryz.underlying4
 a4:=Tryz.isAgg4
 z4:=Tryz.sizeOf4
 v4:=Tryz.zeroValue4
 t9:=Tryz.underlying9
 a9:=Tryz.isAgg9
 z9:=Tryz.sizeOf9
 v9:=Tryz.zeroValue9
 t20:=Tryz.underlying20
 a20:=Tryz.isAgg20
 z20:=Tryz.sizeOf20
 v20:=Tryz.zeroValue20
 t31:=Tryz.underlying23
 a31:=Tryz.isAgg23
 z31:=Tryz.sizeOf23
 v31:=Tryz.zeroValue23
 t37:=Tryz.underlying152
 a37:=Tryz.isAgg152
 z37:=Tryz.sizeOf152
 v37:=Tryz.zeroValue152
 t70:=Tryz.underlying151
 a70:=Tryz.isAgg151
 z70:=Tryz.sizeOf151
 v70:=Tryz.zeroValue151
 t72:=Tryz.underlying154
 a72:=Tryz.isAgg154
 z72:=Tryz.sizeOf154
 v72:=Tryz.zeroValue154
 t75:=Tryz.underlying146
 a75:=Tryz.isAgg146
 z75:=Tryz.sizeOf146
 v75:=Tryz.zeroValue146
 t76:=Tryz.underlying147
 a76:=Tryz.isAgg147
 z76:=Tryz.sizeOf147
 v76:=Tryz.zeroValue147
 t127:=Tryz.underlying191
 a127:=Tryz.isAgg191
 z127:=Tryz.sizeOf191
 v127:=Tryz.zeroValue191
 t164:=Tryz.underlying227
 a164:=Tryz.isAgg227
 z164:=Tryz.sizeOf227
 v164:=Tryz.zeroValue227}
theorem Tryz.Builder_Extra_156:Builder.Extra Tryz.prog Tryz.lays156_ren:={
 sizeBuilder:=by kernel_rfl
 liesBuilder:=by kernel_rfl
 t5:=Tryz.underlying5
 a5:=Tryz.isAgg5
 z5:=Tryz.sizeOf5
 v5:=Tryz.zeroValue5
 infoByte:=by kernel_rfl
 cellsByte:=by kernel_rfl
 sizeByte:=by kernel_rfl
 neB5:=by decide}
open Go.RowKit in
theorem Tryz.strings_Join_none(a:Option Addr)(c:Nat)(sep:ByteArray)(w:World):
  Calls Tryz.prog 67 #[.slice a 0 c,.string sep] w fun e w'=>e= .returned (.string ⟨#[]⟩)∧w'=w:=Any.strings_Join_none Tryz.lays156 Tryz.Builder_Extra_156 a c sep w
open Go.RowKit in
theorem Tryz.strings_Join(bk o c:Nat)(xs:List ByteArray)(sep:ByteArray)(w:World)(hcells:∀(j:Nat) x,xs[j]? =some x→w.cell? ⟨bk,o+j,none⟩=some (.string x))(hbk:bk<w.heap.size)(hN:xs.length≤140737488355328)(hcap:xs.length≤c)(hlen:(Lib.join (xs.map (·.data.toList)) sep.data.toList).length≤140737488355328):
  Calls Tryz.prog 67 #[.slice (some ⟨bk,o,none⟩) xs.length c,.string sep] w fun e w'=>e= .returned (.string ⟨(Lib.join (xs.map (·.data.toList)) sep.data.toList).toArray⟩)∧Below w.heap.size w w':=Any.strings_Join Tryz.lays156 Tryz.Builder_Extra_156 bk o c xs sep w hcells hbk hN hcap hlen
def Tryz.lays137_ren:Go.Shelf.Ren:=⟨fun|137=>96|217=>138|266=>179|n=>n,fun|9=>9|5=>5|3=>3|n=>n,fun|n=>n⟩
theorem Tryz.lays137:Go.Proofs.Lays.n137 Tryz.prog Tryz.lays137_ren:={
 mixed:=by kernel_rfl
 f137:=Tryz.func96.trans (congrArg some (by kernel_rfl))
 f217:=Tryz.func138.trans (congrArg some (by kernel_rfl))
 f266:=Tryz.func179.trans (congrArg some (by kernel_rfl))
 t3:=Tryz.underlying3
 a3:=Tryz.isAgg3
 z3:=Tryz.sizeOf3
 v3:=Tryz.zeroValue3
 t5:=Tryz.underlying5
 a5:=Tryz.isAgg5
 z5:=Tryz.sizeOf5
 v5:=Tryz.zeroValue5
 t9:=Tryz.underlying9
 a9:=Tryz.isAgg9
 z9:=Tryz.sizeOf9
 v9:=Tryz.zeroValue9}
open Go.RowKit in
theorem Tryz.strings_IndexByte(s:ByteArray)(c:Int)(w:World):
  Calls Tryz.prog 96 #[.string s,.int .u8 c] w fun e w'=>e= .returned (.int .i64 (Lib.indexByte s.data.toList c.toNat.toUInt8))∧w'=w:=Any.strings_IndexByte Tryz.lays137 s c w
def Tryz.laysM171_ren:Go.Shelf.Ren:=⟨fun|171=>31|243=>68|246=>102|283=>142|284=>143|285=>144|286=>145|129=>184|317=>183|318=>185|319=>186|320=>187|337=>213|338=>214|n=>n,fun|3=>3|9=>9|2=>2|4=>4|171=>192|0=>0|53=>193|37=>152|5=>5|173=>196|212=>232|51=>233|20=>20|213=>234|46=>236|232=>276|233=>277|n=>n,fun|17=>0|18=>4|19=>5|n=>n⟩
theorem Tryz.laysM171:Go.Proofs.LaysM.n171 Tryz.prog Tryz.laysM171_ren:={
 mixed:=by kernel_rfl
 f129:=Tryz.func184.trans (congrArg some (by kernel_rfl))
 f171:=Tryz.func31.trans (congrArg some (by kernel_rfl))
 f243:=Tryz.func68.trans (congrArg some (by kernel_rfl))
 f246:=Tryz.func102.trans (congrArg some (by kernel_rfl))
 f283:=Tryz.func142.trans (congrArg some (by kernel_rfl))
 f284:=Tryz.func143.trans (congrArg some (by kernel_rfl))
 f285:=Tryz.func144.trans (congrArg some (by kernel_rfl))
 f286:=Tryz.func145.trans (congrArg some (by kernel_rfl))
 f317:=Tryz.func183.trans (congrArg some (by kernel_rfl))
 f318:=Tryz.func185.trans (congrArg some (by kernel_rfl))
 f319:=Tryz.func186.trans (congrArg some (by kernel_rfl))
 f320:=Tryz.func187.trans (congrArg some (by kernel_rfl))
 f337:=Tryz.func213.trans (congrArg some (by kernel_rfl))
 f338:=Tryz.func214.trans (congrArg some (by kernel_rfl))
 t0:=Tryz.underlying0
 a0:=Tryz.isAgg0
 z0:=Tryz.sizeOf0
 v0:=Tryz.zeroValue0
 t2:=Tryz.underlying2
 a2:=Tryz.isAgg2
 z2:=Tryz.sizeOf2
 v2:=Tryz.zeroValue2
 t3:=Tryz.underlying3
 a3:=Tryz.isAgg3
 z3:=Tryz.sizeOf3
 v3:=Tryz.zeroValue3
 t4:=Tryz.underlying4
 a4:=Tryz.isAgg4
 z4:=Tryz.sizeOf4
 v4:=Tryz.zeroValue4
 t5:=Tryz.underlying5
 a5:=Tryz.isAgg5
 z5:=Tryz.sizeOf5
 v5:=Tryz.zeroValue5
 t9:=Tryz.underlying9
 a9:=Tryz.isAgg9
 z9:=Tryz.sizeOf9
 v9:=Tryz.zeroValue9
 t20:=Tryz.underlying20
 a20:=Tryz.isAgg20
 z20:=Tryz.sizeOf20
 v20:=Tryz.zeroValue20
 t37:=Tryz.underlying152
 a37:=Tryz.isAgg152
 z37:=Tryz.sizeOf152
 v37:=Tryz.zeroValue152
 t46:=Tryz.underlying236
 a46:=Tryz.isAgg236
 z46:=Tryz.sizeOf236
 v46:=Tryz.zeroValue236
 t51:=Tryz.underlying233
 a51:=Tryz.isAgg233
 z51:=Tryz.sizeOf233
 v51:=Tryz.zeroValue233
 t53:=Tryz.underlying193
 a53:=Tryz.isAgg193
 z53:=Tryz.sizeOf193
 v53:=Tryz.zeroValue193
 t171:=Tryz.underlying192
 a171:=Tryz.isAgg192
 z171:=Tryz.sizeOf192
 v171:=Tryz.zeroValue192
 t173:=Tryz.underlying196
 a173:=Tryz.isAgg196
 z173:=Tryz.sizeOf196
 v173:=Tryz.zeroValue196
 t212:=Tryz.underlying232
 a212:=Tryz.isAgg232
 z212:=Tryz.sizeOf232
 v212:=Tryz.zeroValue232
 t213:=Tryz.underlying234
 a213:=Tryz.isAgg234
 z213:=Tryz.sizeOf234
 t232:=Tryz.underlying276
 a232:=Tryz.isAgg276
 z232:=Tryz.sizeOf276
 v232:=Tryz.zeroValue276
 t233:=Tryz.underlying277
 a233:=Tryz.isAgg277
 z233:=Tryz.sizeOf277
 v233:=Tryz.zeroValue277
 g17:=by kernel_rfl
 g18:=by kernel_rfl
 g19:=by kernel_rfl
 i0:=by kernel_rfl
 i2:=by kernel_rfl
 i3:=by kernel_rfl
 i4:=by kernel_rfl
 i5:=by kernel_rfl
 i9:=by kernel_rfl
 i20:=by kernel_rfl
 i37:=by kernel_rfl
 i46:=by kernel_rfl
 i51:=by kernel_rfl
 i53:=by kernel_rfl
 i171:=by kernel_rfl
 i173:=by kernel_rfl
 i212:=by kernel_rfl
 i232:=by kernel_rfl
 i233:=by kernel_rfl
 m17:=by kernel_rfl
 m18:=by kernel_rfl
 m19:=by kernel_rfl}
open Go.RowKit Go.Sort Go.Lib in
theorem Tryz.strconv_Itoa(n:Int)(h0:-9223372036854775808≤n)(h1:n≤9223372036854775807)(w:World)(htab:Lib.TabIs Tryz.prog w "internal/strconv.uint64pow10" .u64 Lib.pow10Tab):
  Calls Tryz.prog 31 #[.int .i64 n] w fun e w'=>e= .returned (.string ⟨(Lib.itoa n).toArray⟩)∧∃k os,w'=grow (w.drewN k) os:=Any.strconv_Itoa Tryz.laysM171 n h0 h1 w htab
def Tryz.laysC172_ren:Go.Shelf.Ren:=⟨fun|172=>95|244=>136|245=>137|247=>174|279=>175|280=>176|281=>177|282=>178|287=>208|316=>209|171=>31|205=>210|321=>228|322=>229|243=>68|246=>102|283=>142|284=>143|285=>144|286=>145|129=>184|317=>183|318=>185|319=>186|320=>187|337=>213|338=>214|n=>n,fun|9=>9|3=>3|75=>146|76=>147|4=>4|5=>5|167=>220|37=>152|0=>0|85=>221|2=>2|168=>223|53=>193|175=>253|46=>236|210=>256|127=>191|145=>274|143=>272|21=>21|171=>192|173=>196|212=>232|51=>233|20=>20|213=>234|232=>276|233=>277|80=>79|n=>n,fun|15=>2|16=>3|17=>0|18=>4|19=>5|n=>n⟩
theorem Tryz.laysC172:Go.Proofs.LaysC.n172 Tryz.prog Tryz.laysC172_ren:={
 mixed:=by kernel_rfl
 f129:=Tryz.func184.trans (congrArg some (by kernel_rfl))
 f171:=Tryz.func31.trans (congrArg some (by kernel_rfl))
 f172:=Tryz.func95.trans (congrArg some (by kernel_rfl))
 f205:=Tryz.func210.trans (congrArg some (by kernel_rfl))
 f243:=Tryz.func68.trans (congrArg some (by kernel_rfl))
 f244:=Tryz.func136.trans (congrArg some (by kernel_rfl))
 f245:=Tryz.func137.trans (congrArg some (by kernel_rfl))
 f246:=Tryz.func102.trans (congrArg some (by kernel_rfl))
 f247:=Tryz.func174.trans (congrArg some (by kernel_rfl))
 f279:=Tryz.func175.trans (congrArg some (by kernel_rfl))
 f280:=Tryz.func176.trans (congrArg some (by kernel_rfl))
 f281:=Tryz.func177.trans (congrArg some (by kernel_rfl))
 f282:=Tryz.func178.trans (congrArg some (by kernel_rfl))
 f283:=Tryz.func142.trans (congrArg some (by kernel_rfl))
 f284:=Tryz.func143.trans (congrArg some (by kernel_rfl))
 f285:=Tryz.func144.trans (congrArg some (by kernel_rfl))
 f286:=Tryz.func145.trans (congrArg some (by kernel_rfl))
 f287:=Tryz.func208.trans (congrArg some (by kernel_rfl))
 f316:=Tryz.func209.trans (congrArg some (by kernel_rfl))
 f317:=Tryz.func183.trans (congrArg some (by kernel_rfl))
 f318:=Tryz.func185.trans (congrArg some (by kernel_rfl))
 f319:=Tryz.func186.trans (congrArg some (by kernel_rfl))
 f320:=Tryz.func187.trans (congrArg some (by kernel_rfl))
 f321:=Tryz.func228.trans (congrArg some (by kernel_rfl))
 f322:=Tryz.func229.trans (congrArg some (by kernel_rfl))
 f337:=Tryz.func213.trans (congrArg some (by kernel_rfl))
 f338:=Tryz.func214.trans (congrArg some (by kernel_rfl))
 t0:=Tryz.underlying0
 a0:=Tryz.isAgg0
 z0:=Tryz.sizeOf0
 v0:=Tryz.zeroValue0
 t2:=Tryz.underlying2
 a2:=Tryz.isAgg2
 z2:=Tryz.sizeOf2
 v2:=Tryz.zeroValue2
 t3:=Tryz.underlying3
 a3:=Tryz.isAgg3
 z3:=Tryz.sizeOf3
 v3:=Tryz.zeroValue3
 t4:=Tryz.underlying4
 a4:=Tryz.isAgg4
 z4:=Tryz.sizeOf4
 v4:=Tryz.zeroValue4
 t5:=Tryz.underlying5
 a5:=Tryz.isAgg5
 z5:=Tryz.sizeOf5
 v5:=Tryz.zeroValue5
 t9:=Tryz.underlying9
 a9:=Tryz.isAgg9
 z9:=Tryz.sizeOf9
 v9:=Tryz.zeroValue9
 t20:=Tryz.underlying20
 a20:=Tryz.isAgg20
 z20:=Tryz.sizeOf20
 v20:=Tryz.zeroValue20
 t21:=Tryz.underlying21
 a21:=Tryz.isAgg21
 z21:=Tryz.sizeOf21
 v21:=Tryz.zeroValue21
 t37:=Tryz.underlying152
 a37:=Tryz.isAgg152
 z37:=Tryz.sizeOf152
 v37:=Tryz.zeroValue152
 t46:=Tryz.underlying236
 a46:=Tryz.isAgg236
 z46:=Tryz.sizeOf236
 v46:=Tryz.zeroValue236
 t51:=Tryz.underlying233
 a51:=Tryz.isAgg233
 z51:=Tryz.sizeOf233
 v51:=Tryz.zeroValue233
 t53:=Tryz.underlying193
 a53:=Tryz.isAgg193
 z53:=Tryz.sizeOf193
 v53:=Tryz.zeroValue193
 t75:=Tryz.underlying146
 a75:=Tryz.isAgg146
 z75:=Tryz.sizeOf146
 v75:=Tryz.zeroValue146
 t76:=Tryz.underlying147
 a76:=Tryz.isAgg147
 z76:=Tryz.sizeOf147
 v76:=Tryz.zeroValue147
 t85:=Tryz.underlying221
 a85:=Tryz.isAgg221
 z85:=Tryz.sizeOf221
 v85:=Tryz.zeroValue221
 t127:=Tryz.underlying191
 a127:=Tryz.isAgg191
 z127:=Tryz.sizeOf191
 v127:=Tryz.zeroValue191
 t143:=Tryz.underlying272
 a143:=Tryz.isAgg272
 z143:=Tryz.sizeOf272
 v143:=Tryz.zeroValue272
 t145:=Tryz.underlying274
 a145:=Tryz.isAgg274
 z145:=Tryz.sizeOf274
 v145:=Tryz.zeroValue274
 t167:=Tryz.underlying220
 a167:=Tryz.isAgg220
 z167:=Tryz.sizeOf220
 v167:=Tryz.zeroValue220
 t168:=Tryz.underlying223
 a168:=Tryz.isAgg223
 z168:=Tryz.sizeOf223
 v168:=Tryz.zeroValue223
 t171:=Tryz.underlying192
 a171:=Tryz.isAgg192
 z171:=Tryz.sizeOf192
 v171:=Tryz.zeroValue192
 t173:=Tryz.underlying196
 a173:=Tryz.isAgg196
 z173:=Tryz.sizeOf196
 v173:=Tryz.zeroValue196
 t175:=Tryz.underlying253
 a175:=Tryz.isAgg253
 z175:=Tryz.sizeOf253
 v175:=Tryz.zeroValue253
 t210:=Tryz.underlying256
 a210:=Tryz.isAgg256
 z210:=Tryz.sizeOf256
 v210:=Tryz.zeroValue256
 t212:=Tryz.underlying232
 a212:=Tryz.isAgg232
 z212:=Tryz.sizeOf232
 v212:=Tryz.zeroValue232
 t213:=Tryz.underlying234
 a213:=Tryz.isAgg234
 z213:=Tryz.sizeOf234
 t232:=Tryz.underlying276
 a232:=Tryz.isAgg276
 z232:=Tryz.sizeOf276
 v232:=Tryz.zeroValue276
 t233:=Tryz.underlying277
 a233:=Tryz.isAgg277
 z233:=Tryz.sizeOf277
 v233:=Tryz.zeroValue277
 g15:=by kernel_rfl
 g16:=by kernel_rfl
 g17:=by kernel_rfl
 g18:=by kernel_rfl
 g19:=by kernel_rfl
 t80:=Tryz.underlying79
 a80:=Tryz.isAgg79
 z80:=Tryz.sizeOf79
 v80:=Tryz.zeroValue79
 i0:=by kernel_rfl
 i2:=by kernel_rfl
 i3:=by kernel_rfl
 i4:=by kernel_rfl
 i5:=by kernel_rfl
 i9:=by kernel_rfl
 i20:=by kernel_rfl
 i21:=by kernel_rfl
 i37:=by kernel_rfl
 i46:=by kernel_rfl
 i51:=by kernel_rfl
 i53:=by kernel_rfl
 i75:=by kernel_rfl
 i76:=by kernel_rfl
 i80:=by kernel_rfl
 i85:=by kernel_rfl
 i127:=by kernel_rfl
 i143:=by kernel_rfl
 i145:=by kernel_rfl
 i167:=by kernel_rfl
 i168:=by kernel_rfl
 i171:=by kernel_rfl
 i173:=by kernel_rfl
 i175:=by kernel_rfl
 i210:=by kernel_rfl
 i212:=by kernel_rfl
 i232:=by kernel_rfl
 i233:=by kernel_rfl
 m15:=by kernel_rfl
 m16:=by kernel_rfl
 m17:=by kernel_rfl
 m18:=by kernel_rfl
 m19:=by kernel_rfl
 c0:=by kernel_rfl
 c2:=by kernel_rfl
 c3:=by kernel_rfl
 c4:=by kernel_rfl
 c5:=by kernel_rfl
 c9:=by kernel_rfl
 c20:=by kernel_rfl
 c21:=by kernel_rfl
 c37:=by kernel_rfl
 c46:=by kernel_rfl
 c51:=by kernel_rfl
 c53:=by kernel_rfl
 c75:=by kernel_rfl
 c76:=by kernel_rfl
 c80:=by kernel_rfl
 c85:=by kernel_rfl
 c127:=by kernel_rfl
 c143:=by kernel_rfl
 c145:=by kernel_rfl
 c167:=by kernel_rfl
 c168:=by kernel_rfl
 c171:=by kernel_rfl
 c173:=by kernel_rfl
 c175:=by kernel_rfl
 c210:=by kernel_rfl
 c212:=by kernel_rfl
 c213:=by kernel_rfl
 c232:=by kernel_rfl
 c233:=by kernel_rfl}
open Go.RowKit in
theorem Tryz.strconv_Atoi_ok(s:ByteArray)(hmax:s.size≤9223372036854775806)(v:Int)(h:Lib.atoiAll s.data.toList= .ok v)(w:World):
  Calls Tryz.prog 95 #[.string s] w fun e w'=>e= .returned (.tuple #[.int .i64 v,.nilIface])∧(w'=w∨∃t,w'=Lib.bytesWorld w 5 t):=Any.strconv_Atoi_ok Tryz.laysC172 s hmax v h w
open Go.RowKit in
theorem Tryz.strconv_Atoi_syntax(s:ByteArray)(hlim:s.size≤281474976710656)(h:Lib.atoiAll s.data.toList=Lib.NumEnd.ofOption none)(ev:Value)(w:World)(hv:w.cell? ⟨2,0,none⟩=some ev)(hev:ev= .nilIface∨∃te pe,ev= .iface te pe):
  Calls Tryz.prog 95 #[.string s] w fun e w'=>∃N,e= .returned (.tuple #[.int .i64 (0),.iface 223 (.pointer (some ⟨N,0,none⟩))])∧w.heap.size≤N∧w'.heap[N]? =some (.cells #[.string ⟨#[65,116,111,105]⟩,.string s,ev] 256 (0,0))∧Below w.heap.size w w':=Any.strconv_Atoi_syntax Tryz.laysC172 s hlim h ev w hv hev
open Go.RowKit in
theorem Tryz.strconv_Atoi_range(s:ByteArray)(hlim:s.size≤281474976710656)(h:Lib.atoiAll s.data.toList= .range)(ev:Value)(w:World)(hv:w.cell? ⟨3,0,none⟩=some ev)(hev:ev= .nilIface∨∃te pe,ev= .iface te pe):
  Calls Tryz.prog 95 #[.string s] w fun e w'=>∃N,e= .returned (.tuple #[.int .i64 (Lib.atoiSat s.data.toList),.iface 223 (.pointer (some ⟨N,0,none⟩))])∧w.heap.size≤N∧w'.heap[N]? =some (.cells #[.string ⟨#[65,116,111,105]⟩,.string s,ev] 256 (0,0))∧Below w.heap.size w w':=Any.strconv_Atoi_range Tryz.laysC172 s hlim h ev w hv hev
def Tryz.lays143_ren:Go.Shelf.Ren:=⟨fun|143=>131|219=>170|217=>138|225=>205|224=>206|267=>207|266=>179|314=>227|n=>n,fun|9=>9|3=>3|4=>4|5=>5|46=>236|146=>269|51=>233|n=>n,fun|1=>1|n=>n⟩
theorem Tryz.lays143:Go.Proofs.Lays.n143 Tryz.prog Tryz.lays143_ren:={
 mixed:=by kernel_rfl
 f143:=Tryz.func131.trans (congrArg some (by kernel_rfl))
 f217:=Tryz.func138.trans (congrArg some (by kernel_rfl))
 f219:=Tryz.func170.trans (congrArg some (by kernel_rfl))
 f224:=Tryz.func206.trans (congrArg some (by kernel_rfl))
 f225:=Tryz.func205.trans (congrArg some (by kernel_rfl))
 f266:=Tryz.func179.trans (congrArg some (by kernel_rfl))
 f267:=Tryz.func207.trans (congrArg some (by kernel_rfl))
 f314:=Tryz.func227.trans (congrArg some (by kernel_rfl))
 t3:=Tryz.underlying3
 a3:=Tryz.isAgg3
 z3:=Tryz.sizeOf3
 v3:=Tryz.zeroValue3
 t4:=Tryz.underlying4
 a4:=Tryz.isAgg4
 z4:=Tryz.sizeOf4
 v4:=Tryz.zeroValue4
 t5:=Tryz.underlying5
 a5:=Tryz.isAgg5
 z5:=Tryz.sizeOf5
 v5:=Tryz.zeroValue5
 t9:=Tryz.underlying9
 a9:=Tryz.isAgg9
 z9:=Tryz.sizeOf9
 v9:=Tryz.zeroValue9
 t46:=Tryz.underlying236
 a46:=Tryz.isAgg236
 z46:=Tryz.sizeOf236
 v46:=Tryz.zeroValue236
 t51:=Tryz.underlying233
 a51:=Tryz.isAgg233
 z51:=Tryz.sizeOf233
 v51:=Tryz.zeroValue233
 t146:=Tryz.underlying269
 a146:=Tryz.isAgg269
 z146:=Tryz.sizeOf269
 v146:=Tryz.zeroValue269
 g1:=by kernel_rfl}
open Go.RowKit Go.Lib in
theorem Tryz.strings_Index_one(s:ByteArray)(c:UInt8)(w:World):
  Calls Tryz.prog 131 #[.string s,.string ⟨#[c]⟩] w fun e w'=>e= .returned (.int .i64 (Lib.indexByte s.data.toList c))∧w'=w:=Any.strings_Index_one Tryz.lays143 s c w
def Tryz.lays99_ren:Go.Shelf.Ren:=⟨fun|99=>64|206=>97|n=>n,fun|9=>9|4=>4|3=>3|n=>n,fun|n=>n⟩
theorem Tryz.lays99:Go.Proofs.Lays.n99 Tryz.prog Tryz.lays99_ren:={
 mixed:=by kernel_rfl
 f99:=Tryz.func64.trans (congrArg some (by kernel_rfl))
 f206:=Tryz.func97.trans (congrArg some (by kernel_rfl))
 t3:=Tryz.underlying3
 a3:=Tryz.isAgg3
 z3:=Tryz.sizeOf3
 v3:=Tryz.zeroValue3
 t4:=Tryz.underlying4
 a4:=Tryz.isAgg4
 z4:=Tryz.sizeOf4
 v4:=Tryz.zeroValue4
 t9:=Tryz.underlying9
 a9:=Tryz.isAgg9
 z9:=Tryz.sizeOf9
 v9:=Tryz.zeroValue9}
open Go.RowKit Go.Lib in
theorem Tryz.strings_HasPrefix(s p:ByteArray)(w:World):
  Calls Tryz.prog 64 #[.string s,.string p] w fun e w'=>e= .returned (.bool (Lib.hasPrefix s.data.toList p.data.toList))∧w'=w:=Any.strings_HasPrefix Tryz.lays99 s p w
def Tryz.lays155_ren:Go.Shelf.Ren:=⟨fun|155=>139|154=>180|138=>211|165=>99|143=>131|166=>100|197=>212|169=>101|195=>230|218=>231|240=>140|241=>141|219=>170|260=>232|276=>181|277=>182|217=>138|225=>205|224=>206|267=>207|266=>179|314=>227|n=>n,fun|9=>9|3=>3|4=>4|72=>154|0=>0|76=>147|105=>258|21=>21|5=>5|70=>151|20=>20|37=>152|75=>146|127=>191|164=>227|46=>236|119=>280|139=>283|138=>282|146=>269|51=>233|80=>79|n=>n,fun|1=>1|3=>6|4=>7|n=>n⟩
theorem Tryz.lays155:Go.Proofs.Lays.n155 Tryz.prog Tryz.lays155_ren:={
 mixed:=by kernel_rfl
 f138:=Tryz.func211.trans (congrArg some (by kernel_rfl))
 f143:=Tryz.func131.trans (congrArg some (by kernel_rfl))
 f154:=Tryz.func180.trans (congrArg some (by kernel_rfl))
 f155:=Tryz.func139.trans (congrArg some (by kernel_rfl))
 f165:=Tryz.func99.trans (congrArg some (by kernel_rfl))
 f166:=Tryz.func100.trans (congrArg some (by kernel_rfl))
 f169:=Tryz.func101.trans (congrArg some (by kernel_rfl))
 f195:=Tryz.func230.trans (congrArg some (by kernel_rfl))
 f197:=Tryz.func212.trans (congrArg some (by kernel_rfl))
 f217:=Tryz.func138.trans (congrArg some (by kernel_rfl))
 f218:=Tryz.func231.trans (congrArg some (by kernel_rfl))
 f219:=Tryz.func170.trans (congrArg some (by kernel_rfl))
 f224:=Tryz.func206.trans (congrArg some (by kernel_rfl))
 f225:=Tryz.func205.trans (congrArg some (by kernel_rfl))
 f240:=Tryz.func140.trans (congrArg some (by kernel_rfl))
 f241:=Tryz.func141.trans (congrArg some (by kernel_rfl))
 f260:=Tryz.func232.trans (congrArg some (by kernel_rfl))
 f266:=Tryz.func179.trans (congrArg some (by kernel_rfl))
 f267:=Tryz.func207.trans (congrArg some (by kernel_rfl))
 f276:=Tryz.func181.trans (congrArg some (by kernel_rfl))
 f277:=Tryz.func182.trans (congrArg some (by kernel_rfl))
 f314:=Tryz.func227.trans (congrArg some (by kernel_rfl))
 t0:=Tryz.underlying0
 a0:=Tryz.isAgg0
 z0:=Tryz.sizeOf0
 v0:=Tryz.zeroValue0
 t3:=Tryz.underlying3
 a3:=Tryz.isAgg3
 z3:=Tryz.sizeOf3
 v3:=Tryz.zeroValue3
 t4:=Tryz.underlying4
 a4:=Tryz.isAgg4
 z4:=Tryz.sizeOf4
 v4:=Tryz.zeroValue4
 t5:=Tryz.underlying5
 a5:=Tryz.isAgg5
 z5:=Tryz.sizeOf5
 v5:=Tryz.zeroValue5
 t9:=Tryz.underlying9
 a9:=Tryz.isAgg9
 z9:=Tryz.sizeOf9
 v9:=Tryz.zeroValue9
 t20:=Tryz.underlying20
 a20:=Tryz.isAgg20
 z20:=Tryz.sizeOf20
 v20:=Tryz.zeroValue20
 t21:=Tryz.underlying21
 a21:=Tryz.isAgg21
 z21:=Tryz.sizeOf21
 v21:=Tryz.zeroValue21
 t37:=Tryz.underlying152
 a37:=Tryz.isAgg152
 z37:=Tryz.sizeOf152
 v37:=Tryz.zeroValue152
 t46:=Tryz.underlying236
 a46:=Tryz.isAgg236
 z46:=Tryz.sizeOf236
 v46:=Tryz.zeroValue236
 t51:=Tryz.underlying233
 a51:=Tryz.isAgg233
 z51:=Tryz.sizeOf233
 v51:=Tryz.zeroValue233
 t70:=Tryz.underlying151
 a70:=Tryz.isAgg151
 z70:=Tryz.sizeOf151
 v70:=Tryz.zeroValue151
 t72:=Tryz.underlying154
 a72:=Tryz.isAgg154
 z72:=Tryz.sizeOf154
 v72:=Tryz.zeroValue154
 t75:=Tryz.underlying146
 a75:=Tryz.isAgg146
 z75:=Tryz.sizeOf146
 v75:=Tryz.zeroValue146
 t76:=Tryz.underlying147
 a76:=Tryz.isAgg147
 z76:=Tryz.sizeOf147
 v76:=Tryz.zeroValue147
 t105:=Tryz.underlying258
 a105:=Tryz.isAgg258
 z105:=Tryz.sizeOf258
 v105:=Tryz.zeroValue258
 t119:=Tryz.underlying280
 a119:=Tryz.isAgg280
 z119:=Tryz.sizeOf280
 t127:=Tryz.underlying191
 a127:=Tryz.isAgg191
 z127:=Tryz.sizeOf191
 v127:=Tryz.zeroValue191
 t138:=Tryz.underlying282
 a138:=Tryz.isAgg282
 z138:=Tryz.sizeOf282
 v138:=Tryz.zeroValue282
 t139:=Tryz.underlying283
 a139:=Tryz.isAgg283
 z139:=Tryz.sizeOf283
 v139:=Tryz.zeroValue283
 t146:=Tryz.underlying269
 a146:=Tryz.isAgg269
 z146:=Tryz.sizeOf269
 v146:=Tryz.zeroValue269
 t164:=Tryz.underlying227
 a164:=Tryz.isAgg227
 z164:=Tryz.sizeOf227
 v164:=Tryz.zeroValue227
 g1:=by kernel_rfl
 g3:=by kernel_rfl
 g4:=by kernel_rfl}
theorem Tryz.Builder_Extra_155:Builder.Extra Tryz.prog Tryz.lays155_ren:={
 sizeBuilder:=by kernel_rfl
 liesBuilder:=by kernel_rfl
 t5:=Tryz.underlying5
 a5:=Tryz.isAgg5
 z5:=Tryz.sizeOf5
 v5:=Tryz.zeroValue5
 infoByte:=by kernel_rfl
 cellsByte:=by kernel_rfl
 sizeByte:=by kernel_rfl
 neB5:=by decide}
open Go.RowKit Go.Lib in
theorem Tryz.strings_ReplaceAll(s old new:ByteArray)(m:Int)(w:World)(hs:s.size<4294967281)(hm:w.cell? ⟨1,0,none⟩=some (.int .i64 m))(h1:1≤old.size)(hlen:s.size+Lib.countB s old*new.size≤140737488355328):
  Calls Tryz.prog 139 #[.string s,.string old,.string new] w fun e w'=>
   e= .returned (.string ⟨(Lib.replaceAll s.data.toList old.data.toList new.data.toList).toArray⟩)∧Below w.heap.size w w':=Any.strings_ReplaceAll Tryz.lays155 Tryz.Builder_Extra_155 s old new m w hs hm h1 hlen
end
end Go.Proofs

namespace Go.Proofs.YtibojibdiibdgaaGreatDoor
noncomputable section
open Go Go.Ab
open Go.RowKit (Below)
theorem vs1{vs:Array Value}{x:Value}{xs:List Value}(h:vs.toList=x::xs)(hx:xs=[]):vs=#[x]:=by
 rw[←Array.toArray_toList (xs:=vs),h,hx]
theorem vs2{vs:Array Value}{x y:Value}{xs ys:List Value}(h:vs.toList=x::xs)(hx:xs=y::ys)(hy:ys=[]):vs=#[x,y]:=by
 rw[←Array.toArray_toList (xs:=vs),h,hx,hy]
theorem vs3{vs:Array Value}{x y z:Value}{xs ys zs:List Value}(h:vs.toList=x::xs)(hx:xs=y::ys)(hy:ys=z::zs)(hz:zs=[]):vs=#[x,y,z]:=by
 rw[←Array.toArray_toList (xs:=vs),h,hx,hy,hz]
theorem jQ(l:List UInt8):(ByteArray.mk l.toArray).data.toList=l:=by simp
theorem iJ(l:List UInt8):(ByteArray.mk l.toArray).size=l.length:=by simp[ByteArray.size]
def atoiL(l:List UInt8):Option (Int×Bool):=
 gL (l.length≤2^48) (match Lib.atoiAll l with| .ok v=>(v,false)| .range=>(Lib.atoiSat l,true)|_=>(0,true))
theorem W_atoi(l:List UInt8)(r:Int×Bool)(h:atoiL l=some r):bI Tryz.prog 95 [.str l] (.tup [ac r.1,pErr r.2]):=by
 obtain⟨hl,hr⟩:=iU h
 refine PFun.ff fun w M vs hg ha hm=>?_
 simp only[ay,Rep]at ha
 obtain⟨x,xs,hv,⟨rfl,_⟩,hxs⟩:=ha
 obtain rfl:=vs1 hv hxs;cases he:Lib.atoiAll l with
 |ok v=>
  rw[he]at hr;subst hr
  refine(Tryz.strconv_Atoi_ok ⟨l.toArray⟩ (by rw[iJ];omega) v (by rw[jQ];exact he) w).mono ?_
  rintro e w' ⟨rfl,hw⟩
  refine⟨_,rfl,?_,?_⟩
  ·rcases hw with rfl|⟨t,rfl⟩
   ·exact Below.refl _ _
   ·exact Lib.bytesWorld_below _ _ _
  ·simp only[Rep,ay]
   exact⟨_,rfl,_,_,rfl,rfl,_,_,rfl,.inl ⟨trivial,rfl⟩,rfl⟩
 |range=>
  rw[he]at hr;subst hr
  obtain⟨tp,p,hc⟩:=hg.1 3 (by simp[glI])
  refine(Tryz.strconv_Atoi_range ⟨l.toArray⟩ (by rw[iJ];omega) (by rw[jQ];exact he) _ w hc (.inr ⟨tp,p,rfl⟩)).mono ?_
  rintro e w' ⟨N,rfl,_,_,hb⟩
  refine⟨_,rfl,hb,?_⟩
  rw[jQ];simp only[Rep,ay]
  exact⟨_,rfl,_,_,rfl,rfl,_,_,rfl,.inr ⟨trivial,_,_,rfl⟩,rfl⟩
 |_=>
  rw[he]at hr;subst hr
  obtain⟨tp,p,hc⟩:=hg.1 2 (by simp[glI])
  refine(Tryz.strconv_Atoi_syntax ⟨l.toArray⟩ (by rw[iJ];omega) (by rw[jQ];exact he) _ w hc (.inr ⟨tp,p,rfl⟩)).mono ?_
  rintro e w' ⟨N,rfl,_,_,hb⟩
  refine⟨_,rfl,hb,?_⟩
  simp only[Rep,ay]
  exact⟨_,rfl,_,_,rfl,rfl,_,_,rfl,.inr ⟨trivial,_,_,rfl⟩,rfl⟩
theorem itoa_len(n:Int)(h0:-9223372036854775808≤n)(h1:n≤9223372036854775807):(Lib.itoa n).length≤21:=Lib.itoa_length_le n h0 h1
def iV(n:Int):Option (List UInt8):=gL (-9223372036854775808≤n∧n≤9223372036854775807) (Lib.itoa n)
set_option maxRecDepth 20000 in
theorem g_pow:Tryz.prog.globalNamed "internal/strconv.uint64pow10" =some 0:=by kernel_rfl
theorem W_itoa(n:Int)(r:List UInt8)(h:iV n=some r):bI Tryz.prog 31 [ac n] (.str r):=by
 obtain⟨⟨h0,h1⟩,rfl⟩:=iU h
 refine PFun.ff fun w M vs hg ha hm=>?_
 simp only[ay,Rep]at ha
 obtain⟨x,xs,hv,rfl,hxs⟩:=ha
 obtain rfl:=vs1 hv hxs
 have htab:Lib.TabIs Tryz.prog w "internal/strconv.uint64pow10" .u64 Lib.pow10Tab:=by
  obtain⟨t,fz,hc⟩:=hg.2.1 _ (List.mem_singleton.2 rfl)
  simp only[Lib.TabIs,World.var?,g_pow,Option.bind_some,hc];rfl
 refine(Tryz.strconv_Itoa n h0 h1 w htab).mono ?_
 rintro e w' ⟨rfl,k,os,rfl⟩
 refine⟨_,rfl,Lib.below_grow _ w (Nat.le_refl _) k os,?_⟩
 simp only[Rep]
 exact⟨trivial,Nat.le_trans (itoa_len n h0 h1) (by decide)⟩
def ly(l:List UInt8)(c:UInt8):Option Int:=some (Lib.indexByte l c)
theorem W_idxByte(l:List UInt8)(c:UInt8)(r:Int)(h:ly l c=some r):bI Tryz.prog 96 [.str l,.val (.int .u8 (c.toNat:Int))] (ac r):=by
 simp only[ly,zo]at h;subst h;refine PFun.ff fun w M vs hg ha hm=>?_
 simp only[ay,Rep]at ha
 obtain⟨x,xs,hv,⟨rfl,_⟩,y,ys,hxs,rfl,hys⟩:=ha
 obtain rfl:=vs2 hv hxs hys
 refine(Tryz.strings_IndexByte ⟨l.toArray⟩ (c.toNat:Int) w).mono ?_
 rintro e w' ⟨rfl,rfl⟩
 refine⟨_,rfl,Below.refl _ _,?_⟩
 simp[Rep]
def ix(l p:List UInt8):Option Bool:=some (p.isPrefixOf l)
theorem W_hasPrefix(l p:List UInt8)(r:Bool)(h:ix l p=some r):bI Tryz.prog 64 [.str l,.str p] (bu r):=by
 simp only[ix,zo]at h;subst h;refine PFun.ff fun w M vs hg ha hm=>?_
 simp only[ay,Rep]at ha
 obtain⟨x,xs,hv,⟨rfl,_⟩,y,ys,hxs,⟨rfl,_⟩,hys⟩:=ha
 obtain rfl:=vs2 hv hxs hys
 refine(Tryz.strings_HasPrefix ⟨l.toArray⟩ ⟨p.toArray⟩ w).mono ?_
 rintro e w' ⟨rfl,rfl⟩
 refine⟨_,rfl,Below.refl _ _,?_⟩
 simp[Rep,Lib.hasPrefix]
end
end Go.Proofs.YtibojibdiibdgaaGreatDoor

namespace Go.Ab
noncomputable section
section
variable{P:Program}{Px:PV→Prop}{T:TT}{ops:Array Oper}{rest:List Oper}{o:Oper}{n:Nat}{s:Nat→PV}{bx:Nat→Option Box}{ob:Nat→Option Obj}{K:PState→Prop}{fn:Func}{R:PV→Heap→Prop}{k:List KI}{st:PState}{rb:RB}{L:List Nat}{kk:Nat}
end
section
variable{P:Program}{Px:PV→Prop}{n:Nat}{s:Nat→PV}{bx:Nat→Option Box}{ob:Nat→Option Obj}{T:TT}
theorem Gh.eQ(hT:T.Ok P)(tag k otag:Nat){e:TypeId}{ei:TInfo}(hei:T.get e=some ei){b:Nat}{cells cells':List PV}(hb:bx tag=some ⟨b,cells⟩)(hk:cells[k]? =some (.val (.slice none 0 0)))
  (hf:dl (cells.set k (.own otag ⟨none,0⟩ 0))=some cells') (hok:okS cells=true:=by exact rfl):Gh P ⟨n,s,bx,ob⟩ ⟨n,s,upd bx tag (some ⟨b,cells'⟩),upd ob otag (some ⟨⟨none,0⟩,e,[],true⟩)⟩:=by
 rw[db,zo]at hf;subst hf;intro C M a w hi;have h1:=hi.2.nilobj hT otag hei
 refine⟨M,hi.1,?_⟩
 refine h1.recell (tag:=tag) hb (fun xs hx=>hx.set hk fun x hx=>?_) hok;simp only[Rep]at hx⊢
 exact⟨trivial,by rw[hx];rfl⟩
theorem HSub.updB{tag:Nat}{v:Option Box}(h:bx tag=none):HSub ⟨bx,ob⟩ ⟨upd bx tag v,ob⟩:=by
 refine⟨fun t x hx=>?_,fun _ _ hx=>hx⟩
 show upd bx tag v t=some x;rw[dE];split
 ·rename_i e;subst e;rw[show bx t=some x from hx]at h;cases h
 ·exact hx
end
section
variable{P:Program}{Px:PV→Prop}{C:Ctx}{M:Mem}{H:Heap}{w:World}
open Classical in
def ownAll(H:Heap)(w:World):List Nat:=(List.range w.heap.size).filter fun b=>decide ((∃t x,H.bx t=some x∧x.b=b)∨∃t x,H.ob t=some x∧x.g.blk=some b)
end
def Fr(ro:Option Nat):Fence:={Fence.wide with round:=ro}
section
variable{P:Program}{Px:PV→Prop}{ops:Array Oper}{Q Qx:Exit→Act→World→Prop}{ro:Option Nat}
end
section
variable{P:Program}{Px:PV→Prop}{ops:Array Oper}{Q Qx:Exit→Act→World→Prop}{ro:Option Nat}
end
section
variable{P:Program}{Px:PV→Prop}{lo:Nat}{G:PState→Prop}{st:PState}
end
section
variable{P:Program}{Px:PV→Prop}
end
section
variable{P:Program}{Px:PV→Prop}{ops:Array Oper}{rest:List Oper}{o:Oper}{n:Nat}{s s':Nat→PV}{bx:Nat→Option Box}{ob:Nat→Option Obj}{K:PState→Prop}{T:TT}{rb:RB}{k:Nat}{L:List Nat}
theorem detS_mkI(hT:T.Ok P){t:TypeId}{x:Operand}(ho:o.op= .makeInterface t x){ti:TInfo}(hti:T.get t=some ti)(hd:(match ti.desc with| .interface _=>true|_=>false)=false){ev:Operand→PV}{H:Heap}:DetS P o ev H (.ifc t (ev x)):=by
 intro C M a w _ he;have hxr:=he x (by rw[ho];simp[Op.operands])
 refine⟨.iface t (a.eval x),?_,by simp only[Rep];exact⟨_,rfl,hxr⟩⟩
 have hm:(Instr.makeInterface t (a.eval x)).run P w= .ok (.iface t (a.eval x)) w:=by
  simp only[Instr.makeInterface,Sem.run_bind,(hT.get hti).rund w,Result.andThen_ok];cases hq:ti.desc<;>rw[hq]at hd<;>first|rfl|cases hd
 simp only[execOp,ho,Sem.run_bind,hm,Result.andThen_ok];rfl
theorem Ao.mkI(hT:T.Ok P)(hg:aN ops s o=some true){t:TypeId}{x:Operand}(ho:o.op= .makeInterface t x){ti:TInfo}(hti:T.get t=some ti)(hd:(match ti.desc with| .interface _=>true|_=>false)=false)
  (hp:putD n s o.dst (.ifc t (evS s x))=some s') (h:Ao P Px ops rest ⟨n,s',bx,ob⟩ K):Ao P Px ops (o::rest) ⟨n,s,bx,ob⟩ K:=nj hg (detS_mkI hT ho hti hd) hp h
theorem nE(hop:ops[k]? =some o)(hg:aN ops s o=some true){fx:Operand}{av0:Array Operand}{ts:Array TypeId}(ho:o.op= .call {callee:= .value fx,args:=av0,argTypes:=ts}){g:FuncId}{caps:List PV}
  (hf:evS s fx= .fn g caps) (hcall:∀vs w,(callFunc g vs).run P w= .ok (.enter g vs) w) (hsx:rb.sx=true) (hna:mv rb ops=true) (mb mo:List (Nat×Nat)) (hb1:bc (mb.map Prod.fst)=true) (hb2:bc (mb.map Prod.snd)=true) (ho1:bc (mo.map Prod.fst)=true) (ho2:bc (mo.map Prod.snd)=true)
  {args:List PV} (hle:dQ P (av0.toList.map (evS s)++caps) args) {Hin:Heap} (hin:Hin=⟨fo bx mb,fH ob mo⟩) {R:PV→Heap→Prop} (hc:PH P g args Hin R)
  (h:∀u H',R u H'→∃s',putD n s o.dst u=some s'∧Do P Px T rb ops L ⟨n,s',fG bx mb H'.bx,gR ob mo H'.ob⟩ K) (hst:(mb.all fun p=>!rb.st p.1)=true:=by rfl):Do P Px T rb ops (k::L) ⟨n,s,bx,ob⟩ K:=by
 refine⟨o,hop,true,hg,?_⟩
 simp only[if_true,ho,cj];refine .inl ⟨hsx,hna,eff_callH ho hf hcall mb mo hb1 hb2 ho1 ho2 hle (hin▸hc) fun u H' hR=>⟨fun t ht=>?_,h u H' hR⟩⟩;show fG bx mb H'.bx t=bx t;unfold fG;split
 ·rename_i q hq;have h1:=List.all_eq_true.1 hst q (List.mem_of_find?_eq_some hq);have h2:=List.find?_some hq;rw[Nat.eq_of_beq_eq_true h2,ht]at h1;cases h1
 ·rfl
end
def mH:Op→Bool
 | .move _| .assign _| .load .. | .fieldAddr .. | .field .. | .unOp .. | .build .. | .extract .. | .nilCheck _| .convert .. | .makeFunc ..=>true
 | .binOp .quo _ _ _ _| .binOp .rem _ _ _ _| .binOp .shl _ _ _ _| .binOp .shr _ _ _ _=>false
 | .binOp ..=>true
 |_=>false
def qrun(T:TT)(ops:Array Oper)(n:Nat)(bx:Nat→Option Box):List Oper→(Nat→PV)→Option (List Oper×(Nat→PV))
 |[],s=>some ([],s)
 |o::l,s=>match mH o.op with
  |true=>match ec T ops n s bx o with
   |some s'=>qrun T ops n bx l s'
   |none=>some (o::l,s)
  |false=>some (o::l,s)
def qrun1(T:TT)(ops:Array Oper)(n:Nat)(bx:Nat→Option Box):List Oper→(Nat→PV)→Option (List Oper×(Nat→PV))
 |[],_=>none
 |o::l,s=>match mH o.op with
  |true=>match ec T ops n s bx o with
   |some s'=>qrun T ops n bx l s'
   |none=>none
  |false=>none
def drun(T:TT)(rb:RB)(ops:Array Oper)(n:Nat)(bx:Nat→Option Box):List Nat→(Nat→PV)→Option (List Nat×(Nat→PV))
 |[],s=>some ([],s)
 |k::l,s=>match(match ops[k]? with|some o=>mH o.op|none=>false)with
  |true=>match dstep T rb ops k n s bx with
   |some s'=>drun T rb ops n bx l s'
   |none=>some (k::l,s)
  |false=>some (k::l,s)
def drun1(T:TT)(rb:RB)(ops:Array Oper)(n:Nat)(bx:Nat→Option Box):List Nat→(Nat→PV)→Option (List Nat×(Nat→PV))
 |[],_=>none
 |k::l,s=>match(match ops[k]? with|some o=>mH o.op|none=>false)with
  |true=>match dstep T rb ops k n s bx with
   |some s'=>drun T rb ops n bx l s'
   |none=>none
  |false=>none
section
variable{P:Program}{Px:PV→Prop}{T:TT}{rb:RB}{ops:Array Oper}{n:Nat}{bx:Nat→Option Box}{ob:Nat→Option Obj}{K:PState→Prop}
theorem Ao.qr0(hT:T.Ok P){rest:List Oper}{s':Nat→PV}(h:Ao P Px ops rest ⟨n,s',bx,ob⟩ K):∀{l:List Oper} {s:Nat→PV},qrun T ops n bx l s=some (rest,s')→Ao P Px ops l ⟨n,s,bx,ob⟩ K:=by
 intro l;induction l with
 |nil=>intro s hq;simp only[qrun,zo,Prod.mk.injEq]at hq;obtain⟨rfl,rfl⟩:=hq;exact h
 |cons o l ih=>
  intro s hq;rw[qrun]at hq;split at hq
  ·split at hq
   ·exact ap hT (by assumption) (ih hq)
   ·cases hq;exact h
  ·cases hq;exact h
theorem Ao.qr{l rest:List Oper}{s s':Nat→PV}(hT:T.Ok P)(hq:qrun1 T ops n bx l s=some (rest,s'))(h:Ao P Px ops rest ⟨n,s',bx,ob⟩ K):Ao P Px ops l ⟨n,s,bx,ob⟩ K:=by
 cases l with
 |nil=>cases hq
 |cons o l=>
  rw[qrun1]at hq;split at hq
  ·split at hq
   ·exact ap hT (by assumption) (Ao.qr0 hT h hq)
   ·cases hq
  ·cases hq
theorem Do.qr0{rest:List Nat}{s':Nat→PV}(h:Do P Px T rb ops rest ⟨n,s',bx,ob⟩ K):∀{l:List Nat} {s:Nat→PV},drun T rb ops n bx l s=some (rest,s')→Do P Px T rb ops l ⟨n,s,bx,ob⟩ K:=by
 intro l;induction l with
 |nil=>intro s hq;simp only[drun,zo,Prod.mk.injEq]at hq;obtain⟨rfl,rfl⟩:=hq;exact h
 |cons o l ih=>
  intro s hq;rw[drun]at hq;split at hq
  ·split at hq
   ·exact bQ (by assumption) (ih hq)
   ·cases hq;exact h
  ·cases hq;exact h
theorem Do.qr{l rest:List Nat}{s s':Nat→PV}(hq:drun1 T rb ops n bx l s=some (rest,s'))(h:Do P Px T rb ops rest ⟨n,s',bx,ob⟩ K):Do P Px T rb ops l ⟨n,s,bx,ob⟩ K:=by
 cases l with
 |nil=>cases hq
 |cons o l=>
  rw[drun1]at hq;split at hq
  ·split at hq
   ·exact bQ (by assumption) (Do.qr0 h hq)
   ·cases hq
  ·cases hq
end
theorem go{p q:Prop}(k:q)(h:q→p:=by intro k;(repeat first|refine ah ?_|refine Ao.qr tk rfl ?_|refine af ?_|refine ae ?_|refine Do.qr rfl ?_|refine bP ?_|refine bU ?_|refine eI rfl ?_|refine aQ ?_|refine nL ?_ rfl|refine bK tk (zl _) ?_|refine av tk ?_|refine ap tk rfl ?_|refine ao tk ?_|refine mB rfl rfl rfl rfl rfl rfl (zl _) rfl ?_|refine dH ?_|refine bQ rfl ?_);exact k):p:=h k
def isLoop:Code→Bool
 | .loop _=>true
 |_=>false
theorem nL{P:Program}{Px:PV→Prop}{fn:Func}{R:PV→Heap→Prop}{k:List KI}{st:PState}{id:Nat}{c:Code}(h:V P Px fn R (.code c:: .blk id::k) st)(_hn:isLoop c=false):V P Px fn R (.code (.block id c)::k) st:=bs h
theorem lvR{σ β:Type}{fl fb:Flow σ β}{kk:σ→Option β}{v r:β}{G:Prop}(H:some (Flow.ret v)=some fb)(hg:G)(Hp:fl.thenR kk=some r)(e:fb= .ret v→G→fl= .ret v:=by intro e g;subst e;exact g):v=r:=by
 have:=e (aF H).symm hg;subst this;exact dW Hp
theorem lvJ{σ β:Type}{fl:Flow σ β}{kk:σ→Option β}{v r:β}(H:some (Flow.ret v)=some fl)(Hp:fl.thenR kk=some r):v=r:=by
 cases aF H;exact dW Hp
theorem ple{P:Program}{ps qs:List PV}(h:dQ P ps qs:=by(first|exact dQ.r|(refine dQ.of2 ?_;repeat(first|exact eO.nil|refine eO.cons ?_ ?_|exact jn.boxT|exact jn.of_eq rfl|exact jn.own rfl|exact jn.nil tk rfl|refine jn.agg ?_|refine jn.tup ?_)))):dQ P ps qs:=h
theorem ple1{P:Program}{p q:PV}(h:PLe P p q:=by(first|exact PLe.q rfl|(refine PLe.of2 ?_;repeat(first|exact eO.nil|refine eO.cons ?_ ?_|exact jn.boxT|exact jn.of_eq rfl|exact jn.own rfl|exact jn.nil tk rfl|refine jn.agg ?_|refine jn.tup ?_)))):PLe P p q:=h
section
variable{P:Program}{Px:PV→Prop}{T:TT}{rb:RB}{ops:Array Oper}{o:Oper}{rest:List Oper}{kk:Nat}{L:List Nat}{n:Nat}{s:Nat→PV}{bx:Nat→Option Box}{ob:Nat→Option Obj}{K:PState→Prop}
theorem nr{fx:Operand}{av0:Array Operand}{ts:Array TypeId}{g:FuncId}{caps:List PV}(hcall:∀vs w,(callFunc g vs).run P w= .ok (.enter g vs) w)(mb mo:List (Nat×Nat)){args:List PV}{Hin:Heap}{R:PV→Heap→Prop}(hc:PH P g args Hin R)
  (h:∀u H',R u H'→∃s',putD n s o.dst u=some s'∧Ao P Px ops rest ⟨n,s',fG bx mb H'.bx,gR ob mo H'.ob⟩ K)
  (ho:o.op= .call {callee:= .value fx,args:=av0,argTypes:=ts}:=by exact rfl) (hg:aN ops s o=some true:=by exact rfl) (hf:evS s fx= .fn g caps:=by exact rfl) (hb1:bc (mb.map Prod.fst)=true:=by exact rfl) (hb2:bc (mb.map Prod.snd)=true:=by exact rfl) (ho1:bc (mo.map Prod.fst)=true:=by exact rfl) (ho2:bc (mo.map Prod.snd)=true:=by exact rfl)
  (hle:dQ P (av0.toList.map (evS s)++caps) args:=by exact ple) (hin:Hin=⟨fo bx mb,fH ob mo⟩:=by((repeat rw[aU]);rw[be];(repeat rw[lK]);rw[bf];rfl)):Ao P Px ops (o::rest) ⟨n,s,bx,ob⟩ K:=
 bE hg ho hf hcall mb mo hb1 hb2 ho1 ho2 hle hin hc h
end
section
variable{P:Program}{Px:PV→Prop}{fn:Func}{R:PV→Heap→Prop}{k:List KI}{n:Nat}{s:Nat→PV}{bx:Nat→Option Box}{ob:Nat→Option Obj}{T:TT}
end
section
variable{P:Program}{Px:PV→Prop}{C:Ctx}{M:Mem}{H:Heap}{w:World}
theorem InvH.ren{bx:Nat→Option Box}{ob ob':Nat→Option Obj}(h:InvH P C M ⟨bx,ob⟩ w)(σ:Nat→Nat)(hσ:∀t x,ob' t=some x→ob (σ t)=some x)
  (hi:∀t t' x x',ob' t=some x→ob' t'=some x'→σ t=σ t'→t=t'):InvH P C M ⟨bx,ob'⟩ w:=
 ⟨h.mem,h.ext,h.new,h.os,h.tape,h.output,h.size,h.frame,h.boxes,fun t x hx=>h.objs _ x (hσ t x hx),h.dbox,
  fun t t' x x' b hx hx' hb hb'=>hi t t' x x' hx hx' (h.dobj _ _ x x' b (hσ t x hx) (hσ t' x' hx') hb hb'),fun t t' x x' hx hx'=>h.dmix t _ x x' hx (hσ t' x' hx')⟩
end
section
variable{P:Program}{Px:PV→Prop}{C:Ctx}{M:Mem}{H:Heap}{w:World}
end
def kE(t:TypeId)(e:Int):PV:= .ifc t (.agg [.val (.int .i64 e)])
@[reducible] def RX {α:Type} (r:Except Int α) (K:α→PV→Heap→Prop) (u:PV) (H:Heap):Prop:=match r with
 | .ok v=>K v u H
 | .error _=>False
def PX{α:Type}(t:TypeId)(r:Except Int α)(u:PV):Prop:=match r with
 | .ok _=>False
 | .error e=>u=kE t e
def bg{α β:Type}(x:Option (Except Int α))(f:α→Option (Except Int β)):Option (Except Int β):=match x with
 |some (.ok a)=>f a
 |some (.error e)=>some (.error e)
 |none=>none
def cZ{α σ β:Type}(x:Option (Except Int α))(f:α→Option (Flow σ (Except Int β))):Option (Flow σ (Except Int β)):=match x with
 |some (.ok a)=>f a
 |some (.error e)=>some (.ret (.error e))
 |none=>none
theorem bq{α β:Type}{x:Option (Except Int α)}{f:α→Option (Except Int β)}{r:Except Int β}(H:bg x f=some r):
  ∃y,x=some y∧(∀t u,PX t y u→PX t r u)∧(∀K u H',RX y K u H'→∃v,K v u H'∧f v=some r):=by
 rcases x with _|e|a
 ·cases H
 ·cases H;exact⟨_,rfl,fun t u h=>h,fun K u H' h=>h.elim⟩
 ·exact⟨_,rfl,fun t u h=>h.elim,fun K u H' h=>⟨a,h,H⟩⟩
theorem dP{α σ β:Type}{x:Option (Except Int α)}{f:α→Option (Flow σ (Except Int β))}{r:Flow σ (Except Int β)}(H:cZ x f=some r):
  ∃y,x=some y∧(∀e,y= .error e→some (Flow.ret (σ:=σ) (Except.error (α:=β) e))=some r)∧(∀K u H',RX y K u H'→∃v,K v u H'∧f v=some r):=by
 rcases x with _|e|a
 ·cases H
 ·exact⟨_,rfl,fun e' h=>(by cases h;exact H),fun K u H' h=>h.elim⟩
 ·exact⟨_,rfl,fun e' h=>(by cases h),fun K u H' h=>⟨a,h,H⟩⟩
theorem pxF{α β:Type}{y:Except Int α}{r:Except Int β}(h:∀e,y= .error e→Except.error e=r):∀t u,PX t y u→PX t r u:=by
 intro t u hu;cases y with
 |ok v=>exact hu.elim
 |error e=>rw[←h e rfl];exact hu
section
variable{P:Program}{Px:PV→Prop}{C:Ctx}{M:Mem}{H:Heap}{w:World}
theorem eff_callX{X:PV→Prop}{o:Oper}{ev:Operand→PV}{fx:Operand}{av0:Array Operand}{ts:Array TypeId}(ho:o.op= .call {callee:= .value fx,args:=av0,argTypes:=ts}){g:FuncId}{caps:List PV}
  (hf:ev fx= .fn g caps) (hcall:∀vs w,(callFunc g vs).run P w= .ok (.enter g vs) w) (mb mo:List (Nat×Nat)) (hb1:bc (mb.map Prod.fst)=true) (hb2:bc (mb.map Prod.snd)=true) (ho1:bc (mo.map Prod.fst)=true) (ho2:bc (mo.map Prod.snd)=true)
  {args:List PV} (hle:dQ P (av0.toList.map ev++caps) args) {R:PV→Heap→Prop} (hc:ba P g args ⟨fo H.bx mb,fH H.ob mo⟩ R X) (hX:∀u,X u→Px u)
  {K:PV→Heap→Prop} (hk:∀u H',R u H'→K u ⟨fG H.bx mb H'.bx,gR H.ob mo H'.ob⟩):Eff P Px o ev H K:=by
 intro C M a w next Q hi he hn
 have hfr:=he fx (by rw[ho];simp[Op.operands,Call.operands]);rw[hf]at hfr;simp only[Rep]at hfr
 obtain⟨cs,hv,hcaps⟩:=hfr
 have hargs:ay P M true (av0.toList.map ev) (av0.map a.eval).toList:=by
  simpa using iv av0.toList fun x hx=>he x (by rw[ho];simp_all[Op.operands,Call.operands])
 have hrep:=hle M _ (hargs.append hcaps)
 have hrun:(execOp a.eval o).run P w= .ok (.enter g (av0.map a.eval++cs)) w:=by
  simp[execOp,ho,resolve,hv,Deferred.ofValue,invoke,hcall]
 unfold Oper.wp;rw[hrun];simp only[Oper.upon]
 refine(hc w M (eE H mb mo) (hi.gl hi.ownMine) _ (hi.enterH hb1 ho1) (by simpa using hrep)).mono ?_
 rintro e w' (⟨v,u,H',M',rfl,hR,hi',hr⟩|⟨ch,rfl,v,u,M',hch,hx,hi',hr⟩)
 ·exact hn v u _ M' w' (hk u H' hR) hi'.ext (hi.afterH hb1 hb2 ho1 ho2 hi') hr
 ·exact Q.pan ch a w' rfl ⟨v,u,M',hch,hX u hx,(hi.afterH hb1 hb2 ho1 ho2 hi').less (fun _ _ h=>by cases h) (fun _ _ h=>by cases h),hr⟩
end
section
variable{P:Program}{Px:PV→Prop}{T:TT}{rb:RB}{ops:Array Oper}{o:Oper}{rest:List Oper}{k:Nat}{L:List Nat}{n:Nat}{s s':Nat→PV}{bx:Nat→Option Box}{ob:Nat→Option Obj}{K:PState→Prop}
theorem aP{X:PV→Prop}{fx:Operand}{av0:Array Operand}{ts:Array TypeId}{g:FuncId}{caps:List PV}(hcall:∀vs w,(callFunc g vs).run P w= .ok (.enter g vs) w)(mb mo:List (Nat×Nat)){args:List PV}{Hin:Heap}{R:PV→Heap→Prop}(hc:ba P g args Hin R X)(hX:∀u,X u→Px u)
  (h:∀u H',R u H'→∃s',putD n s o.dst u=some s'∧Ao P Px ops rest ⟨n,s',fG bx mb H'.bx,gR ob mo H'.ob⟩ K)
  (ho:o.op= .call {callee:= .value fx,args:=av0,argTypes:=ts}:=by exact rfl) (hg:aN ops s o=some true:=by exact rfl) (hf:evS s fx= .fn g caps:=by exact rfl) (hb1:bc (mb.map Prod.fst)=true:=by exact rfl) (hb2:bc (mb.map Prod.snd)=true:=by exact rfl) (ho1:bc (mo.map Prod.fst)=true:=by exact rfl) (ho2:bc (mo.map Prod.snd)=true:=by exact rfl)
  (hle:dQ P (av0.toList.map (evS s)++caps) args:=by exact ple) (hin:Hin=⟨fo bx mb,fH ob mo⟩:=by((repeat rw[aU]);rw[be];(repeat rw[lK]);rw[bf];rfl)):Ao P Px ops (o::rest) ⟨n,s,bx,ob⟩ K:=
 fQ hg (eff_callX ho hf hcall mb mo hb1 hb2 ho1 ho2 hle (hin▸hc) hX h)
theorem fU{X:PV→Prop}{fx:Operand}{av0:Array Operand}{ts:Array TypeId}{g:FuncId}{caps:List PV}(hcall:∀vs w,(callFunc g vs).run P w= .ok (.enter g vs) w)(mb mo:List (Nat×Nat)){args:List PV}{Hin:Heap}{R:PV→Heap→Prop}(hc:ba P g args Hin R X)(hX:∀u,X u→Px u)
  (h:∀u H',R u H'→∃s',putD n s o.dst u=some s'∧Do P Px T rb ops L ⟨n,s',fG bx mb H'.bx,gR ob mo H'.ob⟩ K)
  (hop:ops[k]? =some o:=by exact rfl) (ho:o.op= .call {callee:= .value fx,args:=av0,argTypes:=ts}:=by exact rfl) (hg:aN ops s o=some true:=by exact rfl) (hf:evS s fx= .fn g caps:=by exact rfl) (hsx:rb.sx=true:=by exact rfl) (hna:mv rb ops=true:=by exact rfl) (hb1:bc (mb.map Prod.fst)=true:=by exact rfl) (hb2:bc (mb.map Prod.snd)=true:=by exact rfl) (ho1:bc (mo.map Prod.fst)=true:=by exact rfl) (ho2:bc (mo.map Prod.snd)=true:=by exact rfl)
  (hle:dQ P (av0.toList.map (evS s)++caps) args:=by exact ple) (hin:Hin=⟨fo bx mb,fH ob mo⟩:=by((repeat rw[aU]);rw[be];(repeat rw[lK]);rw[bf];rfl)) (hst:(mb.all fun p=>!rb.st p.1)=true:=by exact rfl):Do P Px T rb ops (k::L) ⟨n,s,bx,ob⟩ K:=by
 refine⟨o,hop,true,hg,?_⟩
 simp only[if_true,ho,cj];refine .inl ⟨hsx,hna,eff_callX ho hf hcall mb mo hb1 hb2 ho1 ho2 hle (hin▸hc) hX fun u H' hR=>⟨fun t ht=>?_,h u H' hR⟩⟩;show fG bx mb H'.bx t=bx t;unfold fG;split
 ·rename_i q hq;have h1:=List.all_eq_true.1 hst q (List.mem_of_find?_eq_some hq);have h2:=List.find?_some hq;rw[Nat.eq_of_beq_eq_true h2,ht]at h1;cases h1
 ·rfl
theorem nJ{x:Operand}{t:TypeId}{p:PV}(hx:evS s x= .ifc t p)(hP:Px (.ifc t p))(ho:o.op= .panic x:=by exact rfl)(hg:aN ops s o=some true:=by exact rfl):Ao P Px ops (o::rest) ⟨n,s,bx,ob⟩ K:=by
 refine fQ hg (K:=K) ?_;intro C M a w next Q hi he hn
 have hr:=he x (by rw[ho];simp[Op.operands]);rw[hx]at hr;have hr':=hr;simp only[Rep]at hr
 obtain⟨v,hv,_⟩:=hr
 have hrun:(execOp a.eval o).run P w= .halt (.panic (.iface t v)) w:=by
  simp[execOp,ho,hv,Instr.panic]
 unfold Oper.wp;rw[hrun];rw[hv]at hr';exact Q.pan _ a w rfl ⟨_,_,M,rfl,hP,hi.less (fun _ _ h=>by cases h) (fun _ _ h=>by cases h),hr'⟩
end
section
variable{P:Program}{n:Nat}{s:Nat→PV}{bx:Nat→Option Box}{ob:Nat→Option Obj}
theorem Gh.mvO(t0 t1:Nat)(h1:ob t1=none):Gh P ⟨n,s,bx,ob⟩ ⟨n,s,bx,upd (upd ob t0 none) t1 (ob t0)⟩:=by
 intro C M a w hi
 have key:∀t x,upd (upd ob t0 none) t1 (ob t0) t=some x→ob (if t=t1 then t0 else t)=some x∧(t≠t1→t≠t0):=by
  intro t x hx;rw[dE]at hx;split at hx
  ·rename_i e;rw[zp e];exact⟨hx,fun h=>absurd e h⟩
  ·rename_i e;rw[dE]at hx;split at hx
   ·cases hx
   ·rename_i e';rw[zy e];exact⟨hx,fun _=>e'⟩
 refine⟨M,hi.1,hi.2.ren (fun t=>if t=t1 then t0 else t) (fun t x hx=>(key t x hx).1) (fun t t' x x' hx hx' e=>?_)⟩
 have k1:=(key t x hx).2;have k2:=(key t' x' hx').2;by_cases e1:t=t1<;>by_cases e2:t'=t1
 ·rw[e1,e2]
 ·rw[zp e1,zy e2]at e;exact absurd e.symm (k2 e2)
 ·rw[zy e1,zp e2]at e;exact absurd e (k1 e1)
 ·rw[zy e1,zy e2]at e;exact e
theorem Gh.freezeOB(tag k:Nat){tg:Nat}{g:OwnRef}{len:Nat}{e:TypeId}{rows:List (List PV)}{wr:Bool}{b:Nat}{cells cells':List PV}(hb:bx tag=some ⟨b,cells⟩)(hk:cells[k]? =some (.own tg g len))(hob:ob tg=some ⟨g,e,rows,wr⟩)(hlen:len=rows.length)
  (hf:dl (cells.set k (.list e rows))=some cells') (hok:okS cells=true:=by exact rfl):Gh P ⟨n,s,bx,ob⟩ ⟨n,s,upd bx tag (some ⟨b,cells'⟩),upd ob tg (some ⟨g,e,rows,false⟩)⟩:=by
 rw[db,zo]at hf;subst hf;subst hlen;intro C M a w hi
 obtain⟨M',hle,hi',hr⟩:=hi.2.freezeO (tag:=tg) hob
 refine⟨M',hi.1.mono hle,hi'.recell (tag:=tag) hb (fun xs hx=>hx.set hk fun x hx=>?_) hok⟩
 simp only[Rep]at hx;rw[hx.2];exact hr
end
theorem Eff.objF{P:Program}{Px:PV→Prop}{o:Oper}{ev:Operand→PV}{H:Heap}{K:PV→Heap→Prop}(h:Eff P Px o ev H fun u H'=>(∀tag (x:Obj),H'.ob tag=some x→x.rows≠[]→∃b,x.g.blk=some b)→K u H'):Eff P Px o ev H K:=
 fun C M a w next Q hi he hn=>h C M a w next Q hi he fun v u H' M' w' hK hle hi' hr=>hn v u H' M' w' (hK fun tag x hx hne=>by
  obtain⟨_,_,_,_,h4⟩:=hi'.objs tag _ hx
  rcases h4 with⟨_,h5,_⟩|⟨b,_,h5,_⟩
  ·exact absurd h5 hne
  ·exact⟨b,h5⟩) hle hi' hr
section
variable{P:Program}{Px:PV→Prop}{ops:Array Oper}{rest:List Oper}{o:Oper}{n:Nat}{s s':Nat→PV}{bx:Nat→Option Box}{ob:Nat→Option Obj}{K:PState→Prop}{T:TT}{rb:RB}{k:Nat}{L:List Nat}
theorem lr(hT:T.Ok P)(ho:ops[k]? =some o)(hg:aN ops s o=some true){x y:Operand}{t:TypeId}(hop:o.op= .call {callee:= .builtin .append,args:=#[x,y],argTypes:=#[t,t]}){d:Nat}(hdst:o.dst=some d)(hlt:Nat.blt d n=true){ti ei:TInfo}{e:TypeId}(hti:T.get t=some ti)(hd:ti.desc= .slice e)(hei:T.get e=some ei)
  (hz:Nat.beq ei.zero.cells.size ei.size=true) (hsz:Nat.blt 0 ei.size=true) {tag:Nat} {g:OwnRef} {len:Nat} {rows rows2 rows2' rows':List (List PV)} {wr:Bool} (hx:evS s x= .own tag g len) (hob:ob tag=some ⟨g,e,rows,wr⟩) (hlen:len=rows.length) (hy:evS s y= .list e rows2)
  (hle:dN P rows2 rows2') (hby:(rows.length+rows2'.length)*ei.bytes≤2^47) (hmx:rows.length+rows2'.length≤maxLen) (heq:rows++rows2'=rows') (h:∀g',(rows'≠[]→∃b,g'.blk=some b)→Do P Px T rb ops L ⟨n,upd s d (.own tag g' rows'.length),bx,upd ob tag (some ⟨g',e,rows',wr⟩)⟩ K):Do P Px T rb ops (k::L) ⟨n,s,bx,ob⟩ K:=by
 refine⟨o,ho,true,hg,?_⟩
 simp only[if_true,hop,cj];exact .inr fun bx'=>Eff.objF (kM hT hop hti hd hei hz hsz hx hob hlen hy hle hby hmx heq fun g' hF=>⟨rfl,fun hx=>by simp[jP]at hx,_,by simp[hdst,putD,hlt],h g' (hF tag _ (ef _ _ _))⟩)
end
end
end Go.Ab

namespace Go.Proofs.YtibojibdiibdgaaGreatDoor
noncomputable section
open Go Go.Ab
open Go.RowKit (Below)
def idx1(l sub:List UInt8):Option Int:=match sub with
 |[c]=>some (Lib.indexByte l c)
 |_=>none
theorem W_idx1(l sub:List UInt8)(r:Int)(h:idx1 l sub=some r):bI Tryz.prog 131 [.str l,.str sub] (ac r):=by
 match sub,h with
 |[c],h=>
  simp only[idx1,zo]at h;subst h;refine PFun.ff fun w M vs hg ha hm=>?_
  simp only[ay,Rep]at ha
  obtain⟨x,xs,hv,⟨rfl,_⟩,y,ys,hxs,⟨rfl,_⟩,hys⟩:=ha
  obtain rfl:=vs2 hv hxs hys
  refine(Tryz.strings_Index_one ⟨l.toArray⟩ c w).mono ?_
  rintro e w' ⟨rfl,rfl⟩
  refine⟨_,rfl,Below.refl _ _,?_⟩
  simp[Rep]
end
end Go.Proofs.YtibojibdiibdgaaGreatDoor

namespace Go.Proofs.YtibojibdiibdgaaGreatDoor
noncomputable section
open Go Go.Ab
attribute [local irreducible] V Ao Do Gh Eff PH IntKind.wrap
set_option maxRecDepth 4000
def bJ(rA:LQueryparserParser):Option (LLexerToken×LQueryparserParser):=
 cond (decide (rA.next<(rA.tokens.length:Int)))
  (ag (bl rA.tokens rA.next) fun(x21:LLexerToken)=>
  some (x21,rA))
  (some ((LLexerToken.mk 0 [] 0 rA.size),rA))
theorem cM(b_rA:Nat)(rA:LQueryparserParser)(r:LLexerToken×LQueryparserParser)(H:bJ rA=some r):
  PH Tryz.prog 84 [(.box 1500 b_rA 0)] ⟨upd (fun _=>none) 1500 (some ⟨b_rA,(aa rA)⟩),fun _=>none⟩ (fun u H=>u=(.agg (aO r.1))∧H=⟨upd (fun _=>none) 1500 (some ⟨b_rA,(aa r.2)⟩),fun _=>none⟩):=by
 unfold bJ at H;refine PH.br Tryz.func84 Tryz.ntmps84 ?_;refine ah (ae ?_);refine aW tk fun b2=>?_
 refine af (ah (ah (de tk mok ⟨true,false,[]⟩ [0,1,2,3,4,5,6,7,8,9] rfl (by decide+kernel) rfl (bA 3 rfl (dH ?_)))));refine bA 3 rfl (dH ?_);refine mB rfl rfl rfl rfl rfl rfl (zl _) rfl (bQ rfl (bP ?_));refine aT rfl H (fun H=>?_) (fun H=>?_)
 ·refine ah (de tk mok ⟨true,false,[22]⟩ [0,1,2,3,4,5,6,7,8,9,10] rfl (by decide+kernel) rfl (bA 3 rfl (dH ?_)));refine bA 3 rfl (dH ?_)
  obtain⟨x21,k21,H⟩:=dg H
  refine eC k21.1 (co (fun _=>rfl) k21.2) ?_;refine bQ rfl (fW rfl rfl rfl rfl rfl rfl rfl rfl rfl rfl rfl rfl (bP ?_));obtain rfl:=aF H;refine bD (st':=⟨28,upd (fun _=>.any) 2 (.box 2 b2 0),upd (upd (fun _=>none) 1500 (some ⟨b_rA,(aa rA)⟩)) 2 (some ⟨b2,(aO x21)⟩),fun _=>none⟩) (Gh.le (bF aV) (ab rfl (dQ.r) (ab rfl (dQ.r) ar)) aq) ?_;refine cF tk rfl (ps:=[(.agg (aO x21))]) ⟨_,_,rfl,⟨_,_,_,_,_,rfl,rfl,rfl,rfl⟩,rfl⟩ (PLe.q rfl) (HSub.updB rfl) ⟨rfl,rfl⟩
 refine aQ (ah (ae (au 3 tk rfl (av tk ?_))));refine ap tk rfl (ao tk ?_);refine af ?_;obtain rfl:=aF H;refine bD (st':=⟨28,upd (fun _=>.any) 2 (.box 2 b2 0),upd (upd (fun _=>none) 1500 (some ⟨b_rA,(aa rA)⟩)) 2 (some ⟨b2,[(ac 0),(.str []),(ac 0),(ac rA.size)]⟩),fun _=>none⟩) (Gh.le (bF aV) (ab rfl (dQ.r) (ab rfl (dQ.r) ar)) aq) ?_;refine cF tk rfl (ps:=[(.agg [(ac 0),(.str []),(ac 0),(ac rA.size)])]) ⟨_,_,rfl,⟨_,_,_,_,_,rfl,rfl,rfl,rfl⟩,rfl⟩ (PLe.q rfl) (HSub.updB rfl) ⟨rfl,rfl⟩
def bR(sA:List UInt8)(l:List LExpr):LExpr:=
 (LExpr.mk 5 sA 0 (LVal.mk 0 0 []) l)
theorem dw(sA:List UInt8)(l:List LExpr):
  bI Tryz.prog 171 [(.str sA),(.list 82 (l.map am))] (.agg (bN (bR sA l))):=by
 obtain⟨r,H⟩:∃r,bR sA l=r:=⟨_,rfl⟩
 rw[H];unfold bR at H;refine PH.br Tryz.func171 Tryz.ntmps171 ?_;refine ah (ae ?_);refine aW tk fun b4=>?_
 refine af (ah (ae (au 3 tk rfl (ao tk ?_))));refine af ?_;exact mG tk H rfl rfl rfl rfl rfl
def fF(b:Bool):LVal:=
 cond b
  ((LVal.mk 2 1 []))
  ((LVal.mk 2 0 []))
theorem mV(b:Bool):
  bI Tryz.prog 172 [(bu b)] (.agg (fe (fF b))):=by
 obtain⟨r,H⟩:∃r,fF b=r:=⟨_,rfl⟩
 rw[H];unfold fF at H;refine PH.br Tryz.func172 Tryz.ntmps172 ?_;refine ah (ae ?_);refine aW tk fun b2=>?_
 refine af (ah (aM 1 tk rfl ?_));refine aT rfl H (fun H=>?_) (fun H=>?_)
 ·refine ah (ae (ap tk rfl (ao tk ?_)));refine af ?_;exact mG tk H rfl rfl rfl rfl rfl
 refine aQ (ah (ae (ap tk rfl (ao tk ?_))));refine af ?_;exact mG tk H rfl rfl rfl rfl rfl
def cT(n:Int):LVal:=
 cond (decide (n<(-1000000000000)))
  ((LVal.mk 0 0 []))
  (cond (decide (n>(1000000000000:Int)))
   ((LVal.mk 0 0 []))
   ((LVal.mk 1 n [])))
theorem lM(n:Int):
  bI Tryz.prog 173 [(ac n)] (.agg (fe (cT n))):=by
 obtain⟨r,H⟩:∃r,cT n=r:=⟨_,rfl⟩
 rw[H];unfold cT at H;refine PH.br Tryz.func173 Tryz.ntmps173 ?_;refine ah (ae ?_);refine aW tk fun b2=>?_
 refine af (ah (ah (ae (au 3 tk rfl ?_))));refine cL rfl rfl rfl H (fun H=>?_) (fun H=>?_)
 ·refine au 3 tk rfl (af (hJ rfl (ah (ae (ap tk rfl (ao tk ?_))))));refine af ?_;exact mG tk H rfl rfl rfl rfl rfl
 refine au 3 tk rfl (af ?_);refine aT rfl H (fun H=>?_) (fun H=>?_)
 ·refine ah (ae (ap tk rfl (ao tk ?_)));refine af ?_;exact mG tk H rfl rfl rfl rfl rfl
 refine aQ (ah (ae (au 2 tk rfl (ao tk ?_))));refine af ?_;exact mG tk H rfl rfl rfl rfl rfl
def et(c:UInt8):Bool:=
 cond (decide ((c.toNat:Int)≥(97:Int)))
  (cond (decide ((c.toNat:Int)≤(122:Int)))
   (true)
   (cond (decide ((c.toNat:Int)≥(48:Int)))
    ((decide ((c.toNat:Int)≤(57:Int))))
    (false)))
  (cond (decide ((c.toNat:Int)≥(48:Int)))
   ((decide ((c.toNat:Int)≤(57:Int))))
   (false))
theorem jy(c:UInt8):
  bI Tryz.prog 57 [(.val (.int .u8 (c.toNat:Int)))] (bu (et c)):=by
 obtain⟨r,H⟩:∃r,et c=r:=⟨_,rfl⟩
 rw[H];unfold et at H;refine PH.br Tryz.func57 Tryz.ntmps57 ?_;refine aM 1 tk rfl (ah (ae (au 3 tk rfl ?_)));refine cL rfl rfl rfl H (fun H=>?_) (fun H=>?_)
 ·refine au 4 tk rfl ?_;refine cL rfl rfl rfl H (fun H=>?_) (fun H=>?_)
  ·refine au 8 tk rfl (af ?_);exact lD tk H rfl
  refine au 3 tk rfl ?_;refine cL rfl rfl rfl H (fun H=>?_) (fun H=>?_)
  ·refine au 5 tk rfl (af ?_);exact lD tk H rfl
  refine au 5 tk rfl (af ?_);exact lD tk H rfl
 refine au 7 tk rfl ?_;refine cL rfl rfl rfl H (fun H=>?_) (fun H=>?_)
 ·refine au 5 tk rfl (af ?_);exact lD tk H rfl
 refine au 5 tk rfl (af ?_);exact lD tk H rfl
def fX:(List (List UInt8)):=
 [[97,103,103,114,101,103,97,116,101],[97,110,100],[97,115],[98,121],[100,101,115,99],[101,108,115,101],[101,120,99,101,112,116],[102,97,108,115,101],[103,114,111,117,112],[105,102],[105,115],[106,111,105,110],[108,101,102,116],[108,101,110,103,116,104],[108,105,109,105,116],[110,111,116],[110,117,108,108],[111,102,102,115,101,116],[111,110],[111,114],[112,114,111,106,101,99,116],[115,99,97,110],[115,111,114,116],[116,104,101,110],[116,114,117,101],[117,110,105,111,110],[119,104,101,114,101]]
theorem mY:
  bI Tryz.prog 59 [] (.list 9 ((fX).map aD)):=by
 obtain⟨r,H⟩:∃r,fX=r:=⟨_,rfl⟩
 rw[H];unfold fX at H;refine PH.br Tryz.func59 Tryz.ntmps59 ?_;refine aM 1 tk rfl (ah (ae (nc (e:=9) (rows:=[[(.str [97,103,103,114,101,103,97,116,101])],[(.str [97,110,100])],[(.str [97,115])],[(.str [98,121])],[(.str [100,101,115,99])],[(.str [101,108,115,101])],[(.str [101,120,99,101,112,116])],[(.str [102,97,108,115,101])],[(.str [103,114,111,117,112])],[(.str [105,102])],[(.str [105,115])],[(.str [106,111,105,110])],[(.str [108,101,102,116])],[(.str [108,101,110,103,116,104])],[(.str [108,105,109,105,116])],[(.str [110,111,116])],[(.str [110,117,108,108])],[(.str [111,102,102,115,101,116])],[(.str [111,110])],[(.str [111,114])],[(.str [112,114,111,106,101,99,116])],[(.str [115,99,97,110])],[(.str [115,111,114,116])],[(.str [116,104,101,110])],[(.str [116,114,117,101])],[(.str [117,110,105,111,110])],[(.str [119,104,101,114,101])]]) tk rfl rfl rfl rfl (rows':=List.map aD ([[97,103,103,114,101,103,97,116,101],[97,110,100],[97,115],[98,121],[100,101,115,99],[101,108,115,101],[101,120,99,101,112,116],[102,97,108,115,101],[103,114,111,117,112],[105,102],[105,115],[106,111,105,110],[108,101,102,116],[108,101,110,103,116,104],[108,105,109,105,116],[110,111,116],[110,117,108,108],[111,102,102,115,101,116],[111,110],[111,114],[112,114,111,106,101,99,116],[115,99,97,110],[115,111,114,116],[116,104,101,110],[116,114,117,101],[117,110,105,111,110],[119,104,101,114,101]]:List (List UInt8))) (by kernel_rfl) (dN.refl _) rfl rfl (ap tk rfl (af ?_)))));exact lD tk H rfl
def cQ(sA:List (List UInt8))(v:List UInt8):Option (Int):=
 ag (aY (σ:=Unit) (ρ:=(Int)) (fun(j1:Nat) (x1:List UInt8) (_:Unit)=>
  cond (v==x1)
   (some (.ret (j1:Int)))
   (some (.next ()))) 0 sA ()) fun fl1=>fl1.thenR fun(_:Unit)=>
 some (-1)
theorem iA(sA:List (List UInt8))(v:List UInt8)(r:Int)(H:cQ sA v=some r):
  bI Tryz.prog 94 [(.list 9 (sA.map aD)),(.str v)] (ac r):=by
 unfold cQ at H;refine PH.br Tryz.func94 Tryz.ntmps94 ?_;refine aM 1 tk rfl (ah (ah (ae (ap tk rfl (bK tk (zl _) ?_)))));refine ap tk rfl (af ?_);refine mA tk 8 7 0 (fun s1 g1=>upd (fun _=>.any) 1 (.str v)) nB nO () H (fun fl1 Hp1 j1 s1 g1 hz1 hl1 x1 fb1 hx1 H hg1=>?_) (fun s1 g1 H=>?_)
 ·refine ah (bs (aM 2 tk rfl (ah (ae (au 3 tk rfl ?_)))));refine dI tk (zn j1) (gp (fun _=>rfl) hx1) ?_;refine au 2 tk rfl (af ?_);refine aT rfl H (fun H=>?_) (fun H=>?_)
  ·refine aM 2 tk rfl ?_;obtain rfl:=aF H;have e1:fl1= .ret _:=hg1;subst e1;obtain rfl:=dW Hp1;refine cD tk rfl (ps:=[(ac (j1:Int))]) ⟨_,_,rfl,rfl,rfl⟩ (PLe.q rfl)
  refine aQ (bU (eW 2 tk rfl ?_));exact gr () H hl1 hg1
 refine aM 1 tk rfl ?_;exact bm tk H rfl
theorem ig(xs:List (List UInt8))(v:(List UInt8)):cQ xs v=some (idxOf (fun x1=>(v==x1)) xs):=by
 unfold cQ;rw[mO (fun x1=>(v==x1)) (fun j _=>(j:Int)) xs 0 (fun k x hk=>by cases(v==x)<;>simp)];simp only[idxOf,Nat.zero_add];cases h:xs.findIdx? (fun x1=>(v==x1))with
 |none=>rfl
 |some i=>
  obtain⟨hi,_⟩:=List.findIdx?_eq_some_iff_getElem.1 h
  simp[hi]
def cU(c:UInt8):Bool:=
 cond (decide ((c.toNat:Int)≥(48:Int)))
  ((decide ((c.toNat:Int)≤(57:Int))))
  (false)
theorem jx(c:UInt8):
  bI Tryz.prog 60 [(.val (.int .u8 (c.toNat:Int)))] (bu (cU c)):=by
 obtain⟨r,H⟩:∃r,cU c=r:=⟨_,rfl⟩
 rw[H];unfold cU at H;refine PH.br Tryz.func60 Tryz.ntmps60 ?_;refine aM 1 tk rfl (ah (ae (au 3 tk rfl ?_)));refine cL rfl rfl rfl H (fun H=>?_) (fun H=>?_)
 ·refine au 4 tk rfl (af ?_);exact lD tk H rfl
 refine au 4 tk rfl (af ?_);exact lD tk H rfl
def fO(sA:List UInt8):Option (LLexerToken×Int×Bool):=
 ag (dJ (σ:=List UInt8×Int) (ρ:=(LLexerToken×Int×Bool)) (fun(s1:List UInt8×Int)=>
  cond (decide (s1.2<(sA.length:Int)))
   (ag (bl sA s1.2) fun(x23:UInt8)=>
   cond ((x23.toNat:Int) !=(39:Int))
    (ag (fj sA s1.2 (IntKind.i64.wrap (s1.2+(1:Int)))) fun(x30:List UInt8)=>
    ag (bj s1.1 x30) fun(x31:List UInt8)=>
    some (.next (x31,(IntKind.i64.wrap (s1.2+(1:Int))))))
    (ag (
     cond (decide ((IntKind.i64.wrap (s1.2+(1:Int)))<(sA.length:Int)))
      (ag (bl sA (IntKind.i64.wrap (s1.2+(1:Int)))) fun(x42:UInt8)=>
      some ((x42.toNat:Int)==(39:Int)))
      (some false)) fun(t4:Bool)=>
    cond t4
     (ag (bj s1.1 ([39]:List UInt8)) fun(x46:List UInt8)=>
     some (.next (x46,(IntKind.i64.wrap ((IntKind.i64.wrap (s1.2+(1:Int)))+(1:Int))))))
     (some (.ret ((LLexerToken.mk 4 s1.1 0 0),(IntKind.i64.wrap (s1.2+(1:Int))),(decide ((s1.1.length:Int)≤(24:Int))))))))
   (some (.brk (s1.1,s1.2)))) ([],1)) fun fl1=>fl1.thenR fun(s1:List UInt8×Int)=>
 some ((LLexerToken.mk 0 [] 0 0),0,false)
theorem W_lexer_quoted(sA:List UInt8)(r:LLexerToken×Int×Bool)(H:fO sA=some r):
  bI Tryz.prog 63 [(.str sA)] (.tup [(.agg (aO r.1)),(ac r.2.1),(bu r.2.2)]):=by
 unfold fO at H;refine PH.br Tryz.func63 Tryz.ntmps63 ?_;refine ah (ae ?_);refine aW tk fun b2=>?_
 refine au 2 tk rfl (af (aM 1 tk rfl (ah (aM 1 tk rfl ?_))))
 obtain⟨fl1,H1,Hp1⟩:=ax H
 refine fI (τ:=List UInt8×Int) (γ:=Unit) (fun s1 g1=>⟨50,upd (fun _=>.any) 2 (.box 2 b2 0),upd (fun _=>none) 2 (some ⟨b2,[(ac 0),(.str []),(ac 0),(ac 0)]⟩),fun _=>none⟩) (fun t=>fl1= .next t) ?_ (fun s1 g1 hn1=>?_)
 ·refine bs ?_;refine fV (fun s1 g1=>⟨50,upd (upd (upd (upd (fun _=>.any) 6 (ac s1.2)) 5 (.str s1.1)) 2 (.box 2 b2 0)) 0 (.str sA),upd (fun _=>none) 2 (some ⟨b2,[(ac 0),(.str []),(ac 0),(ac 0)]⟩),fun _=>none⟩) () H1 Gh.d (fun m1 s1 g1 hr1=>?_)
  obtain⟨fb1,H,hg1⟩:=eY hr1
  refine ah (aM 4 tk rfl ?_);refine aT rfl H (fun H=>?_) (fun H=>?_)
  ·refine aQ (ah (bs (bs (ah (ae (au 2 tk rfl ?_))))))
   obtain⟨x23,k23,H⟩:=dg H
   refine fD tk k23.1 k23.2 ?_;refine au 2 tk rfl (af ?_);refine aT rfl H (fun H=>?_) (fun H=>?_)
   ·refine ae (au 5 tk rfl ?_)
    obtain⟨x30,h30,H⟩:=ax H
    have k30:=fB h30;refine mK tk rfl rfl rfl rfl rfl rfl rfl k30.1 k30.2 rfl ?_
    obtain⟨x31,h31,H⟩:=ax H
    have k31:=aL h31;refine bi tk k31.1 k31.2 ?_;refine ap tk rfl (af (bU (bU (eW 3 tk rfl ?_))));obtain rfl:=aF H;refine eR (x31,(IntKind.i64.wrap (s1.2+(1:Int)))) () hg1 Gh.d
   refine ah ?_;refine jk (γ:=Unit) (fun t4 g4=>⟨50,upd (upd (upd (upd (upd (fun _=>.any) 32 (bu t4)) 6 (ac s1.2)) 5 (.str s1.1)) 2 (.box 2 b2 0)) 0 (.str sA),upd (fun _=>none) 2 (some ⟨b2,[(ac 0),(.str []),(ac 0),(ac 0)]⟩),fun _=>none⟩) H (fun _ H=>?_) (fun t4 g4 H=>?_)
   ·refine ae (au 6 tk rfl ?_);refine cL rfl rfl rfl H (fun H=>?_) (fun H=>?_)
    ·refine au 3 tk rfl ?_
     obtain⟨x42,k42,H⟩:=dg H
     refine fD tk k42.1 k42.2 ?_;refine au 3 tk rfl (af ?_);refine bX _ () (aF H) Gh.d
    refine au 7 tk rfl (af ?_);refine bX _ () (aF H) Gh.d
   refine aT rfl H (fun H=>?_) (fun H=>?_)
   ·refine ah (ae (ap tk rfl ?_))
    obtain⟨x46,h46,H⟩:=ax H
    have k46:=aL h46;refine bi tk k46.1 k46.2 ?_;refine ap tk rfl (af (eW 3 tk rfl (bU (bU (eW 3 tk rfl ?_)))));obtain rfl:=aF H;refine eR (x46,(IntKind.i64.wrap ((IntKind.i64.wrap (s1.2+(1:Int)))+(1:Int)))) () hg1 Gh.d
   refine ah (ae (au 7 tk rfl (ao tk ?_)));refine au 2 tk rfl (af ?_);obtain rfl:=aF H;have e1:fl1= .ret _:=hg1;subst e1;obtain rfl:=dW Hp1;refine cD tk rfl (ps:=[(.agg [(ac 4),(.str s1.1),(ac 0),(ac 0)]),(ac (IntKind.i64.wrap (s1.2+(1:Int)))),(bu (decide ((s1.1.length:Int)≤(24:Int))))]) ⟨_,_,rfl,⟨_,_,_,_,_,rfl,rfl,rfl,rfl⟩,_,_,rfl,rfl,_,_,rfl,rfl,rfl⟩ (PLe.q rfl)
  refine eI rfl ?_;obtain rfl:=aF H;refine bX (s1.1,s1.2) () hg1 Gh.d
 have H:=eG hn1 Hp1;refine ah (ae (ap tk rfl (ao tk ?_)));refine au 2 tk rfl (af ?_);obtain rfl:=aF H;refine cD tk rfl (ps:=[(.agg [(ac 0),(.str []),(ac 0),(ac 0)]),(ac 0),(bu false)]) ⟨_,_,rfl,⟨_,_,_,_,_,rfl,rfl,rfl,rfl⟩,_,_,rfl,rfl,_,_,rfl,rfl,rfl⟩ (PLe.q rfl)
def al(rA:LQueryparserParser)(sA:List UInt8):Option (Bool×LQueryparserParser):=
 ag (bJ rA) fun x7=>
 dv (
  cond (x7.1.kind==(2:Int))
   ((x7.1.text==sA))
   (cond (x7.1.kind==(5:Int))
    ((x7.1.text==sA))
    (false))) fun(t1:Bool)=>
 cond t1
  (some (true,(LQueryparserParser.mk x7.2.tokens (IntKind.i64.wrap (x7.2.next+(1:Int))) x7.2.size)))
  (some (false,x7.2))
theorem aC(b_rA:Nat)(rA:LQueryparserParser)(sA:List UInt8)(r:Bool×LQueryparserParser)(H:al rA sA=some r):
  PH Tryz.prog 52 [(.box 1500 b_rA 0),(.str sA)] ⟨upd (fun _=>none) 1500 (some ⟨b_rA,(aa rA)⟩),fun _=>none⟩ (fun u H=>u=(bu r.1)∧H=⟨upd (fun _=>none) 1500 (some ⟨b_rA,(aa r.2)⟩),fun _=>none⟩):=by
 unfold al at H;refine PH.br Tryz.func52 Tryz.ntmps52 ?_;refine aM 1 tk rfl (ah (ae (ap tk rfl ?_)))
 obtain⟨x7,h7,H⟩:=ax H
 have s7:=cM b_rA rA _ h7;refine bE (g:=84) rfl rfl rfl Tryz.call84 [(1500,1500)] [] rfl rfl rfl rfl (dQ.of2 (eO.cons jn.boxT eO.nil)) (by rw[aU,be,bf];rfl) s7 ?_;rintro u7 H7h ⟨rfl,rfl⟩
 refine⟨_,rfl,?_⟩
 refine aH (st':=⟨_,_,upd (fun _=>none) 1500 (some ⟨b_rA,(aa x7.2)⟩),fun _=>none⟩) (Gh.le (az _ _) (ab rfl (dQ.r) ar) aq) ?_;refine aW tk fun b5=>?_
 refine ao tk ?_;refine af (ah (ah ?_));refine ni (γ:=Unit) (fun t1 g1=>⟨29,upd (upd (fun _=>.any) 21 (bu t1)) 0 (.box 1500 b_rA 0),upd (fun _=>none) 1500 (some ⟨b_rA,(aa x7.2)⟩),fun _=>none⟩) H (fun _ H=>?_) (fun t1 g1 H=>?_)
 ·refine ae (ap tk rfl (av tk ?_));refine au 2 tk rfl ?_;refine cL rfl rfl rfl H (fun H=>?_) (fun H=>?_)
  ·refine au 6 tk rfl (av tk ?_);refine au 3 tk rfl (af ?_);refine bX _ () H Gh.d
  refine ap tk rfl (av tk ?_);refine au 3 tk rfl ?_;refine cL rfl rfl rfl H (fun H=>?_) (fun H=>?_)
  ·refine ap tk rfl (av tk ?_);refine au 3 tk rfl (af ?_);refine bX _ () H Gh.d
  refine au 5 tk rfl (af ?_);refine bX _ () H Gh.d
 refine aT rfl H (fun H=>?_) (fun H=>?_)
 ·refine ah (ae (au 3 tk rfl (av tk ?_)));refine au 3 tk rfl (ao tk ?_);refine af (aM 1 tk rfl ?_);obtain rfl:=aF H;refine bD (st':=⟨29,upd (fun _=>.any) 4 (bu true),upd (fun _=>none) 1500 (some ⟨b_rA,(aa (LQueryparserParser.mk x7.2.tokens (IntKind.i64.wrap (x7.2.next+(1:Int))) x7.2.size))⟩),fun _=>none⟩) (Gh.le (bF aV) (ab rfl (dQ.r) ar) aq) ?_;refine jZ tk rfl (ps:=[(bu true)]) ⟨_,_,rfl,rfl,rfl⟩ (PLe.q rfl) ⟨rfl,rfl⟩
 refine aQ (aM 1 tk rfl ?_);obtain rfl:=aF H;refine bD (st':=⟨29,upd (fun _=>.any) 4 (bu false),upd (fun _=>none) 1500 (some ⟨b_rA,(aa x7.2)⟩),fun _=>none⟩) (Gh.le (bF aV) (ab rfl (dQ.r) ar) aq) ?_;refine jZ tk rfl (ps:=[(bu false)]) ⟨_,_,rfl,rfl,rfl⟩ (PLe.q rfl) ⟨rfl,rfl⟩
def aR(rA:LQueryparserParser):Option (Except Int (LQueryparserParser)):=
 ag (bJ rA) fun x3=>
 some (.error x3.1.offset)
theorem bO(b_rA:Nat)(rA:LQueryparserParser)(r:Except Int (LQueryparserParser))(H:aR rA=some r):
  ba Tryz.prog 56 [(.box 1500 b_rA 0)] ⟨upd (fun _=>none) 1500 (some ⟨b_rA,(aa rA)⟩),fun _=>none⟩ (RX r (fun rv u H=>u=(.tup [])∧H=⟨upd (fun _=>none) 1500 (some ⟨b_rA,(aa rv)⟩),fun _=>none⟩)) (PX 106 r):=by
 unfold aR at H;refine ba.intro Tryz.func56 rfl Tryz.ntmps56 rfl ?_;refine ae (ap tk rfl ?_)
 obtain⟨x3,h3,H⟩:=ax H
 have s3:=cM b_rA rA _ h3;refine bE (g:=84) rfl rfl rfl Tryz.call84 [(1500,1500)] [] rfl rfl rfl rfl (dQ.of2 (eO.cons jn.boxT eO.nil)) (by rw[aU,be,bf];rfl) s3 ?_;rintro u3 H3h ⟨rfl,rfl⟩
 refine⟨_,rfl,?_⟩
 refine aH (st':=⟨_,_,upd (fun _=>none) 1500 (some ⟨b_rA,(aa x3.2)⟩),fun _=>none⟩) (Gh.le (az _ _) (ab rfl (dQ.r) ar) aq) ?_;refine au 2 tk rfl (Ao.mkI tk rfl rfl rfl rfl rfl ?_);obtain rfl:=aF H;exact nJ rfl rfl
def cz(sA:List (List UInt8))(v:List UInt8):Option (Bool):=
 ag (cQ sA v) fun x7=>
 some (decide (x7≥(0:Int)))
theorem gZ(sA:List (List UInt8))(v:List UInt8)(r:Bool)(H:cz sA v=some r):
  bI Tryz.prog 58 [(.list 9 (sA.map aD)),(.str v)] (bu r):=by
 unfold cz at H;refine PH.br Tryz.func58 Tryz.ntmps58 ?_;refine aM 1 tk rfl (ah (ae (au 2 tk rfl ?_)))
 obtain⟨x7,h7,H⟩:=ax H
 have s7:=iA sA v _ h7;refine aI Tryz.call94 (dQ.r) s7 ?_;refine au 2 tk rfl (af ?_);exact bm tk H rfl
theorem gJ(xs:List (List UInt8))(v:(List UInt8)):cz xs v=some (xs.any (fun x1=>(v==x1))):=by
 unfold cz;rw[ig,bPs,idxOf_any]
def fR(sA:List UInt8)(fromA:Int):Option (LLexerToken×Int×Bool):=
 ag (dJ (σ:=Int) (ρ:=Empty) (fun(s1:Int)=>
  cond (decide (s1<(sA.length:Int)))
   (ag (bl sA s1) fun(x19:UInt8)=>
   dv (cU x19) fun x20=>
   cond x20
    (some (.next (IntKind.i64.wrap (s1+(1:Int)))))
    (some (.brk s1)))
   (some (.brk s1))) fromA) fun fl1=>fl1.thenP fun(s1:Int)=>
 ag (fj sA fromA s1) fun(x28:List UInt8)=>
 ag (atoiL x28) fun x29=>
 cond (!x29.2)
  (cond (decide (x29.1≤(1000000000000:Int)))
   (ag (fj sA fromA s1) fun(x44:List UInt8)=>
   ag (iV x29.1) fun x40=>
   cond (x40==x44)
    (cond (s1==(sA.length:Int))
     (some ((LLexerToken.mk 3 [] x29.1 0),s1,true))
     (ag (bl sA s1) fun(x55:UInt8)=>
     dv (et x55) fun x56=>
     some ((LLexerToken.mk 3 [] x29.1 0),s1,(!x56))))
    (some ((LLexerToken.mk 3 [] x29.1 0),s1,false)))
   (some ((LLexerToken.mk 3 [] x29.1 0),s1,false)))
  (some ((LLexerToken.mk 3 [] x29.1 0),s1,false))
theorem W_lexer_number(sA:List UInt8)(fromA:Int)(r:LLexerToken×Int×Bool)(H:fR sA fromA=some r):
  bI Tryz.prog 61 [(.str sA),(ac fromA)] (.tup [(.agg (aO r.1)),(ac r.2.1),(bu r.2.2)]):=by
 unfold fR at H;refine PH.br Tryz.func61 Tryz.ntmps61 ?_;refine ah (ae ?_);refine aW tk fun b4=>?_
 refine au 2 tk rfl (af (aM 2 tk rfl (ah ?_)))
 obtain⟨fl1,H1,Hp1⟩:=ax H
 refine fI (τ:=Int) (γ:=Unit) (fun s1 g1=>⟨64,upd (upd (upd (upd (fun _=>.any) 7 (ac s1)) 4 (.box 4 b4 0)) 1 (ac fromA)) 0 (.str sA),upd (fun _=>none) 4 (some ⟨b4,[(ac 0),(.str []),(ac 0),(ac 0)]⟩),fun _=>none⟩) (fun t=>fl1= .next t) ?_ (fun s1 g1 hn1=>?_)
 ·refine bs ?_;refine fV (fun s1 g1=>⟨64,upd (upd (upd (upd (fun _=>.any) 7 (ac s1)) 4 (.box 4 b4 0)) 1 (ac fromA)) 0 (.str sA),upd (fun _=>none) 4 (some ⟨b4,[(ac 0),(.str []),(ac 0),(ac 0)]⟩),fun _=>none⟩) () H1 Gh.d (fun m1 s1 g1 hr1=>?_)
  obtain⟨fb1,H,hg1⟩:=eY hr1
  refine ah (ah (ae (au 5 tk rfl ?_)));refine cL rfl rfl rfl H (fun H=>?_) (fun H=>?_)
  ·refine au 2 tk rfl ?_
   obtain⟨x19,k19,H⟩:=dg H
   refine fD tk k19.1 k19.2 ?_
   obtain⟨x20,h20,H⟩:=fE H
   have s20:=jx x19;rw[h20]at s20;refine aI Tryz.call60 (dQ.r) s20 ?_;refine ap tk rfl (af ?_);refine aT rfl H (fun H=>?_) (fun H=>?_)
   ·refine aQ (bs (eW 3 tk rfl (bU ?_)));obtain rfl:=aF H;refine eR (IntKind.i64.wrap (s1+(1:Int))) () hg1 Gh.d
   refine eI rfl ?_;obtain rfl:=aF H;refine bX s1 () hg1 Gh.d
  refine au 5 tk rfl (af (jS rfl (eI rfl ?_)));obtain rfl:=aF H;refine bX s1 () hg1 Gh.d
 have H:=thenP_next hn1 Hp1;refine ah (ae (au 3 tk rfl ?_))
 obtain⟨x28,h28,H⟩:=ax H
 have k28:=fB h28;refine mK tk rfl rfl rfl rfl rfl rfl rfl k28.1 k28.2 rfl ?_
 obtain⟨x29,h29,H⟩:=ax H
 have s29:=W_atoi x28 _ h29;refine aI Tryz.call95 (dQ.r) s29 ?_;refine au 5 tk rfl (af (ah (de tk mok ⟨false,false,[]⟩ [0,1,2,3,4,5,6,7,9,10,11,12,8,13,14,15,16,17,18,19,20,21,22,23,24,25,26,27,28] rfl (by decide+kernel) rfl (bQ rfl (Do.errN rfl rfl rfl Tryz.underlying146 rfl rfl (bQ rfl ?_))))));refine fP H (fun H=>?_) (fun H=>?_)
 ·refine bA 4 rfl ?_;refine fP H (fun H=>?_) (fun H=>?_)
  ·refine bA 4 rfl ?_
   obtain⟨x44,h44,H⟩:=ax H
   have k44:=fB h44;refine ln rfl rfl rfl rfl rfl rfl rfl rfl k44.1 k44.2 rfl ?_
   obtain⟨x40,h40,H⟩:=ax H
   have s40:=W_itoa x29.1 _ h40;refine eH Tryz.call31 (dQ.r) s40 ?_;refine bA 3 rfl ?_;refine fP H (fun H=>?_) (fun H=>?_)
   ·refine bA 5 rfl ?_;refine fP H (fun H=>?_) (fun H=>?_)
    ·refine bA 8 rfl (bP (ah (ae (au 4 tk rfl (ao tk ?_)))));refine au 2 tk rfl (af ?_);obtain rfl:=aF H;refine cD tk rfl (ps:=[(.agg [(ac 3),(.str []),(ac x29.1),(ac 0)]),(ac s1),(bu true)]) ⟨_,_,rfl,⟨_,_,_,_,_,rfl,rfl,rfl,rfl⟩,_,_,rfl,rfl,_,_,rfl,rfl,rfl⟩ (PLe.q rfl)
    refine bA 2 rfl ?_
    obtain⟨x55,k55,H⟩:=dg H
    refine nA rfl rfl rfl rfl rfl rfl rfl k55.1 k55.2 rfl ?_
    obtain⟨x56,h56,H⟩:=fE H
    have s56:=jy x55;rw[h56]at s56;refine eH Tryz.call57 (dQ.r) s56 ?_;refine bA 4 rfl (bP (ah (ae (au 4 tk rfl (ao tk ?_)))));refine au 2 tk rfl (af ?_);obtain rfl:=aF H;refine cD tk rfl (ps:=[(.agg [(ac 3),(.str []),(ac x29.1),(ac 0)]),(ac s1),(bu (!x56))]) ⟨_,_,rfl,⟨_,_,_,_,_,rfl,rfl,rfl,rfl⟩,_,_,rfl,rfl,_,_,rfl,rfl,rfl⟩ (PLe.q rfl)
   refine bA 13 rfl (bP (ah (ae (au 4 tk rfl (ao tk ?_)))));refine au 2 tk rfl (af ?_);obtain rfl:=aF H;refine cD tk rfl (ps:=[(.agg [(ac 3),(.str []),(ac x29.1),(ac 0)]),(ac s1),(bu false)]) ⟨_,_,rfl,⟨_,_,_,_,_,rfl,rfl,rfl,rfl⟩,_,_,rfl,rfl,_,_,rfl,rfl,rfl⟩ (PLe.q rfl)
  refine bA 22 rfl (bP (ah (ae (au 4 tk rfl (ao tk ?_)))));refine au 2 tk rfl (af ?_);obtain rfl:=aF H;refine cD tk rfl (ps:=[(.agg [(ac 3),(.str []),(ac x29.1),(ac 0)]),(ac s1),(bu false)]) ⟨_,_,rfl,⟨_,_,_,_,_,rfl,rfl,rfl,rfl⟩,_,_,rfl,rfl,_,_,rfl,rfl,rfl⟩ (PLe.q rfl)
 refine bA 26 rfl (bP (ah (ae (au 4 tk rfl (ao tk ?_)))));refine au 2 tk rfl (af ?_);obtain rfl:=aF H;refine cD tk rfl (ps:=[(.agg [(ac 3),(.str []),(ac x29.1),(ac 0)]),(ac s1),(bu false)]) ⟨_,_,rfl,⟨_,_,_,_,_,rfl,rfl,rfl,rfl⟩,_,_,rfl,rfl,_,_,rfl,rfl,rfl⟩ (PLe.q rfl)
def fg(sA:List UInt8):Option (LLexerToken×Int×Bool):=
 ag (
  cond (decide ((sA.length:Int)<(3:Int)))
   (some true)
   (ag (bl sA 1) fun(x11:UInt8)=>
   dv (cU x11) fun x12=>
   cond (!x12)
    (some true)
    (cond (decide ((sA.length:Int)>(3:Int)))
     (ag (bl sA 3) fun(x21:UInt8)=>
     dv (et x21) fun x22=>
     some x22)
     (some false)))) fun(t1:Bool)=>
 cond t1
  (some ((LLexerToken.mk 0 [] 0 0),0,false))
  (ag (bl sA 2) fun(x27:UInt8)=>
  ag (ly ([105,98,116]:List UInt8) x27) fun x28=>
  cond (decide (x28<(0:Int)))
   (some ((LLexerToken.mk 0 [] 0 0),0,false))
   (ag (bl sA 1) fun(x33:UInt8)=>
   ag (fj sA 2 3) fun(x37:List UInt8)=>
   some ((LLexerToken.mk 6 x37 (IntKind.i64.wrap (IntKind.u8.wrap ((x33.toNat:Int)-(48:Int)))) 0),3,true)))
theorem mZ(sA:List UInt8)(r:LLexerToken×Int×Bool)(H:fg sA=some r):
  bI Tryz.prog 62 [(.str sA)] (.tup [(.agg (aO r.1)),(ac r.2.1),(bu r.2.2)]):=by
 unfold fg at H;refine PH.br Tryz.func62 Tryz.ntmps62 ?_;refine ah (ae ?_);refine aW tk fun b2=>?_
 refine au 2 tk rfl (af (ah (ah ?_)));refine jk (γ:=Unit) (fun t1 g1=>⟨39,upd (upd (upd (fun _=>.any) 24 (bu t1)) 2 (.box 2 b2 0)) 0 (.str sA),upd (fun _=>none) 2 (some ⟨b2,[(ac 0),(.str []),(ac 0),(ac 0)]⟩),fun _=>none⟩) H (fun _ H=>?_) (fun t1 g1 H=>?_)
 ·refine ae (au 4 tk rfl ?_);refine cL rfl rfl rfl H (fun H=>?_) (fun H=>?_)
  ·refine au 15 tk rfl (af ?_);refine bX _ () (aF H) Gh.d
  refine ap tk rfl ?_
  obtain⟨x11,k11,H⟩:=dg H
  refine fD tk k11.1 k11.2 ?_
  obtain⟨x12,h12,H⟩:=fE H
  have s12:=jx x11;rw[h12]at s12;refine aI Tryz.call60 (dQ.r) s12 ?_;refine au 3 tk rfl ?_;refine cL rfl rfl rfl H (fun H=>?_) (fun H=>?_)
  ·refine au 9 tk rfl (af ?_);refine bX _ () (aF H) Gh.d
  refine au 4 tk rfl ?_;refine cL rfl rfl rfl H (fun H=>?_) (fun H=>?_)
  ·refine ap tk rfl ?_
   obtain⟨x21,k21,H⟩:=dg H
   refine fD tk k21.1 k21.2 ?_
   obtain⟨x22,h22,H⟩:=fE H
   have s22:=jy x21;rw[h22]at s22;refine aI Tryz.call57 (dQ.r) s22 ?_;refine au 2 tk rfl (af ?_);refine bX _ () (aF H) Gh.d
  refine au 5 tk rfl (af ?_);refine bX _ () (aF H) Gh.d
 refine aT rfl H (fun H=>?_) (fun H=>?_)
 ·refine ah (ae (ap tk rfl (ao tk ?_)));refine au 2 tk rfl (af ?_);obtain rfl:=aF H;refine cD tk rfl (ps:=[(.agg [(ac 0),(.str []),(ac 0),(ac 0)]),(ac 0),(bu false)]) ⟨_,_,rfl,⟨_,_,_,_,_,rfl,rfl,rfl,rfl⟩,_,_,rfl,rfl,_,_,rfl,rfl,rfl⟩ (PLe.q rfl)
 refine aQ (ah (ae (ap tk rfl ?_)))
 obtain⟨x27,k27,H⟩:=dg H
 refine fD tk k27.1 k27.2 ?_
 obtain⟨x28,h28,H⟩:=ax H
 have s28:=W_idxByte ([105,98,116]:List UInt8) x27 _ h28;refine aI Tryz.call96 (dQ.r) s28 ?_;refine ap tk rfl (af (ah (aM 2 tk rfl ?_)));refine aT rfl H (fun H=>?_) (fun H=>?_)
 ·refine ah (ae (ap tk rfl (ao tk ?_)));refine au 2 tk rfl (af ?_);obtain rfl:=aF H;refine cD tk rfl (ps:=[(.agg [(ac 0),(.str []),(ac 0),(ac 0)]),(ac 0),(bu false)]) ⟨_,_,rfl,⟨_,_,_,_,_,rfl,rfl,rfl,rfl⟩,_,_,rfl,rfl,_,_,rfl,rfl,rfl⟩ (PLe.q rfl)
 refine aQ (ah (de tk mok ⟨false,false,[]⟩ [0,1,2,3,4,5,6,7,8,9] rfl (by decide+kernel) rfl (bQ rfl ?_)))
 obtain⟨x33,k33,H⟩:=dg H
 refine nA rfl rfl rfl rfl rfl rfl rfl k33.1 k33.2 rfl (bA 3 rfl ?_)
 obtain⟨x37,h37,H⟩:=ax H
 have k37:=fB h37;refine ln rfl rfl rfl rfl rfl rfl rfl rfl k37.1 k37.2 rfl (bQ rfl (fW rfl rfl rfl rfl rfl rfl rfl rfl rfl rfl rfl rfl (bA 2 rfl (bP ?_))));obtain rfl:=aF H;refine cD tk rfl (ps:=[(.agg [(ac 6),(.str x37),(ac (IntKind.i64.wrap (IntKind.u8.wrap ((x33.toNat:Int)-(48:Int))))),(ac 0)]),(ac 3),(bu true)]) ⟨_,_,rfl,⟨_,_,_,_,_,rfl,rfl,rfl,rfl⟩,_,_,rfl,rfl,_,_,rfl,rfl,rfl⟩ (PLe.q rfl)
end
end Go.Proofs.YtibojibdiibdgaaGreatDoor
