/- procedureReturnEndsUpto_holds, part 7: the layer, the plain functions and what they compute; conditions as in the statement. -/
import Derived.Test.YtafdcemcgfbhcaaGreatDoorRef
set_option maxHeartbeats 4000000
namespace Go.Proofs.YtafdcemcgfbhcaaGreatDoor
noncomputable section
open Go Go.Ab Go.Proofs.Tryz
theorem LQuery.inputs_lt{q x:LQuery}(h:x∈q.inputs):SizeOf.sizeOf x<SizeOf.sizeOf q:=by
 cases q;simp only[LQuery.inputs]at h
 have:=List.sizeOf_lt_of_mem h
 simp only[LQuery.mk.sizeOf_spec];omega
theorem LQuery.ind{p:LQuery->Prop}(h:∀q:LQuery,(∀x∈q.inputs,p x)->p q):∀q,p q:=by
 intro q;generalize hn:SizeOf.sizeOf q=n;induction n using Nat.strongRecOn generalizing q with
 |_ n ih=>exact h q fun x hx=>ih _ (hn▸LQuery.inputs_lt hx) x Z
theorem qA{α:Type}{p:α->Nat->Prop}:∀(xs:List α),(∀x∈xs,∃N,∀n,N<=n->p x n)->∃N,∀n,N<=n->∀x∈xs,p x n
 |[],_=>⟨0,fun _ _ x hx=>by simp at hx⟩
 |y::xs,h=>by
  obtain⟨N,hN⟩:=h y (by simp)
  obtain⟨N',hN'⟩:=qA xs fun x hx=>h x (by simp[hx])
  refine⟨N+N',fun n hn x hx=>?_⟩
  rcases List.mem_cons.1 hx with rfl|hx
  ·exact hN n (by omega)
  ·exact hN' n (by omega) x hx
theorem jv{α σ ρ:Type}{step step':Nat->α->σ->Option (Flow σ ρ)}:∀(xs:List α) (j:Nat) (s:σ),(∀k x s,xs[k]? =some x->step (j+k) x s=step' (j+k) x s)->aN step j xs s=aN step' j xs s
 |[],_,_,_=>rfl
 |x::xs,j,s,h=>by
  have h0:=h 0 x s Z;rw[Nat.add_zero]at h0;rw[aN,aN,h0];split
  ·rfl
  ·exact jv xs (j+1) _ fun k y t hk=>by
    have:=h (k+1) y t (by simpa using hk)
    rwa [show j+(k+1)=j+1+k from by omega]at this
  ·rfl
  ·rfl
theorem eM{α:Type}{xs:List α}{k:Nat}{x:α}(h:xs[k]? =some x):x∈xs:=List.mem_of_getElem? h
theorem qc{γ β:Type}{F:Nat->γ->LQuery->Option β}{O:(γ->LQuery->Option β)->γ->LQuery->Option β}(hF:∀n,F (n+1)=O (F n))(c:γ)(q:LQuery)
  (hc:∀r r':γ->LQuery->Option β,(∀x∈q.inputs,r c x=r' c x)->O r c q=O r' c q) (hx:∀x∈q.inputs,∃v,ij (fun n=>F n c x)=some v) {r:β} (h:O (fun c q=>ij fun n=>F n c q) c q=some r):
  ij (fun n=>F n c q)=some r:=by
 obtain⟨N,hN⟩:=qA (p:=fun x n=>F n c x=ij fun n=>F n c x) q.inputs (fun x hm=>by
  obtain⟨v,hv⟩:=hx x hm
  obtain⟨N,hN⟩:=limN_ev hv
  exact⟨N,fun n hn=>by rw[hN n hn,hv]⟩)
 refine rW (N+1) fun m hm=>?_
 obtain⟨m,rfl⟩:∃k,m=k+1:=⟨m-1,by omega⟩
 rw[hF,hc _ (fun c q=>ij fun n=>F n c q) (hN m (by omega)),h]
def cY(q:LQuery):List LQuery:=q::(q.inputs.attach.map fun x=>cY x.1).flatten
termination_by SizeOf.sizeOf q
decreasing_by exact LQuery.inputs_lt x.2
theorem kH(q:LQuery):cY q=q::(q.inputs.map cY).flatten:=by
 rw[cY,List.attach_map_val (f:=cY)]
theorem flat_le{α β:Type}{f:α->List β}{xs:List α}{x:α}(h:x∈xs):(f x).length<=((xs.map f).flatten).length:=by
 induction xs with
 |nil=>simp at h
 |cons y xs ih=>
  simp only[List.map_cons,List.flatten_cons,List.length_append];rcases List.mem_cons.1 h with rfl|h
  ·omega
  ·have:=ih h;omega
theorem nC{q x:LQuery}(h:x∈q.inputs):(cY x).length+1<=(cY q).length:=by
 rw[kH q]
 have:=flat_le (f:=cY) h
 simp only[List.length_cons];omega
theorem bI{α:Type}{bytes:Nat}{xs ys:List α}(hb:bytes<=200)(h:xs.length+ys.length<=10000000):cJ bytes xs ys=some (xs++ys):=by
 refine appI_ok ?_ (by unfold maxLen;omega)
 have:(xs.length+ys.length)*bytes<=10000000*200:=Nat.mul_le_mul h hb
 omega
theorem take_flat{α β:Type}{f:α->List β}{xs:List α}{k:Nat}:(((xs.take k).map f).flatten).length<=((xs.map f).flatten).length:=by
 induction xs generalizing k with
 |nil=>simp
 |cons y xs ih=>
  cases k with
  |zero=>simp
  |succ k=>simp only[List.take_succ_cons,List.map_cons,List.flatten_cons,List.length_append];have:=ih (k:=k);omega
theorem nodes_ok:∀q:LQuery,(cY q).length<=10000000->kB q=some (cY q):=by
 refine LQuery.ind fun q ih hb=>?_
 refine qc (γ:=Unit) (F:=fun n _ q=>kv n q) (O:=fun r _ q=>kx (fun x=>r () x) q) (fun n=>rfl) () q ?_ (fun x hx=>⟨_,ih x hx (by have:=nC hx;omega)⟩) ?_
 ·intro r r' h;simp only[kx];congr 1;exact jv q.inputs 0 _ fun k x s hk=>by rw[h x (eM hk)]
 ·have hr:=rMa (step:=fun(_:Nat) (x1:LQuery) (s1:List LQuery)=>af (kB x1) fun x17=>af (cJ 160 s1 x17) fun(x18:List LQuery)=>some (Flow.next (ρ:=Empty) x18)) (xs:=q.inputs) (s:=[q])
   (fun k=>q::((q.inputs.take k).map cY).flatten) (by simp) (fun k x hk=>by
    have hx:=eM hk;rw[ih x hx (by have:=nC hx;omega),bPs,bI (by decide),bPs]
    ·rw[List.take_add_one,hk];simp
    ·have h1:(((q.inputs.take (k+1)).map cY).flatten).length<=((q.inputs.map cY).flatten).length:=take_flat;rw[List.take_add_one,hk]at h1;rw[kH]at hb;simp at h1 hb⊢;omega)
  simp only[kx];have e:∀x,(ij fun n=>kv n x)=kB x:=fun _=>rfl
  simp only[e];rw[hr,bPs,cI,List.take_length,kH]
def ec(a b:Int):Int:=if b>a then b else a
theorem se{a b c:Int}(h:a<=c)(h':b<=c):ec a b<=c:=by unfold ec;split<;>assumption
theorem jZ(a b:Int):a<=ec a b:=by unfold ec;split<;>omega
theorem pt(a b:Int):b<=ec a b:=by unfold ec;split<;>omega
def kl(q:LQuery):Int:=(q.inputs.attach.map fun x=>kl x.1).foldl ec 0+1
termination_by SizeOf.sizeOf q
decreasing_by exact LQuery.inputs_lt x.2
theorem tw(q:LQuery):kl q=(q.inputs.map kl).foldl ec 0+1:=by
 rw[kl,List.attach_map_val (f:=kl)]
theorem sZ:∀{l:List Int} {a c:Int},a<=c->(∀x∈l,x<=c)->l.foldl ec a<=c
 |[],_,_,h,_=>h
 |x::l,a,c,h,hl=>sZ (l:=l) (se h (hl x (by simp))) fun y hy=>hl y (by simp[hy])
theorem tf:∀{l:List Int} {a:Int},a<=l.foldl ec a/\∀x∈l,x<=l.foldl ec a
 |[],a=>⟨Int.le_refl a,by simp⟩
 |x::l,a=>by
  obtain⟨h1,h2⟩:=tf (l:=l) (a:=ec a x)
  simp only[List.foldl_cons]
  refine⟨Int.le_trans (jZ a x) h1,fun y hy=>?_⟩
  rcases List.mem_cons.1 hy with rfl|hy
  ·exact Int.le_trans (pt a y) h1
  ·exact h2 y hy
theorem depthQ_nodes:∀q:LQuery,1<=kl q/\kl q<=(cY q).length:=by
 refine LQuery.ind fun q ih=>?_
 rw[tw,kH]
 have h1:(q.inputs.map kl).foldl ec 0<=(((q.inputs.map cY).flatten).length:Nat):=sZ (by omega) fun x hx=>by
  obtain⟨y,hy,rfl⟩:=List.mem_map.1 hx
  have:=(ih y hy).2
  have:=flat_le (f:=cY) hy
  omega
 have h2:=(tf (l:=q.inputs.map kl) (a:=0)).1;simp only[List.length_cons];omega
theorem depth_ok:∀q:LQuery,(cY q).length<=10000000->lE q=some (kl q):=by
 refine LQuery.ind fun q ih hb=>?_
 refine qc (γ:=Unit) (F:=fun n _ q=>kA n q) (O:=fun r _ q=>kC (fun x=>r () x) q) (fun n=>rfl) () q ?_ (fun x hx=>⟨_,ih x hx (by have:=nC hx;omega)⟩) ?_
 ·intro r r' h;simp only[kC];congr 1;exact jv q.inputs 0 _ fun k x s hk=>by rw[h x (eM hk)]
 ·have hr:=rMa (step:=fun(_:Nat) (x1:LQuery) (s1:Int)=>af (lE x1) fun x15=>some (Flow.next (ρ:=Empty) (if x15>s1 then x15 else s1))) (xs:=q.inputs) (s:=0)
   (fun k=>((q.inputs.take k).map kl).foldl ec 0) (by simp) (fun k x hk=>by
    have hx:=eM hk;rw[ih x hx (by have:=nC hx;omega),bPs,List.take_add_one,hk];simp[ec])
  simp only[kC];have e:∀x,(ij fun n=>kA n x)=lE x:=fun _=>rfl
  simp only[e];rw[hr,bPs,cI,List.take_length,tw];have h:=depthQ_nodes q;rw[tw]at h;rw[wW (by omega) (by omega)]
def ow(n:Int):Int:=if 20001<n then 20001 else n
def jH(kind:Int)(s:Int×Int)(j:Nat)(x:Int×Int):Int×Int:=
 (ow (if j=0 then x.1 else if kind=6 then s.1+x.1 else if kind=4\/kind=5 then s.1*ec 1 x.1 else s.1),ec s.2 x.2)
def eZ(kind:Int):Nat->List (Int×Int)->Int×Int->Int×Int
 |_,[],s=>s
 |j,x::l,s=>eZ kind (j+1) l (jH kind s j x)
def bP(q:LQuery):Int×Int:=
 let s:=eZ q.kind 0 (q.inputs.attach.map fun x=>bP x.1) (0,0)
 if q.kind=1 then(24,ec s.2 24)else(s.1,ec s.2 s.1)
termination_by SizeOf.sizeOf q
decreasing_by exact LQuery.inputs_lt x.2
theorem ot(q:LQuery):bP q=if q.kind=1 then(24,ec (eZ q.kind 0 (q.inputs.map bP) (0,0)).2 24)else((eZ q.kind 0 (q.inputs.map bP) (0,0)).1,ec (eZ q.kind 0 (q.inputs.map bP) (0,0)).2 (eZ q.kind 0 (q.inputs.map bP) (0,0)).1):=by
 rw[bP,List.attach_map_val (f:=bP)]
def oW(s:Int×Int):Prop:=0<=s.1/\s.1<=20001/\0<=s.2/\s.2<=20001
theorem capI_b{n:Int}(h:0<=n):0<=ow n/\ow n<=20001:=by unfold ow;split<;>omega
theorem mostStep_r{kind:Int}{s x:Int×Int}{j:Nat}(hs:oW s)(hx:oW x):oW (jH kind s j x):=by
 obtain⟨a1,a2,a3,a4⟩:=hs
 obtain⟨b1,b2,b3,b4⟩:=hx
 unfold jH
 have h1:0<=(if j=0 then x.1 else if kind=6 then s.1+x.1 else if kind=4\/kind=5 then s.1*ec 1 x.1 else s.1):=by
  split
  ·exact b1
  ·split
   ·omega
   ·split
    ·exact Int.mul_nonneg a1 (Int.le_trans (by decide) (jZ 1 x.1))
    ·exact a1
 exact⟨(capI_b h1).1,(capI_b h1).2,Int.le_trans a3 (jZ _ _),se a4 b4⟩
theorem sf{kind:Int}:∀{l:List (Int×Int)} {j:Nat} {s:Int×Int},oW s->(∀x∈l,oW x)->oW (eZ kind j l s)
 |[],_,_,h,_=>h
 |x::l,j,s,h,hl=>sf (l:=l) (mostStep_r h (hl x (by simp))) fun y hy=>hl y (by simp[hy])
theorem mostQ_r:∀q:LQuery,oW (bP q):=by
 refine LQuery.ind fun q ih=>?_
 rw[ot]
 have h:oW (eZ q.kind 0 (q.inputs.map bP) (0,0)):=sf ⟨by decide,by decide,by decide,by decide⟩ fun x hx=>by
  obtain⟨y,hy,rfl⟩:=List.mem_map.1 hx
  exact ih y hy
 obtain⟨a1,a2,a3,a4⟩:=h
 split
 ·exact⟨show(0:Int)<=24 by decide,show(24:Int)<=20001 by decide,Int.le_trans a3 (jZ _ _),se a4 (by decide)⟩
 ·exact⟨a1,a2,Int.le_trans a3 (jZ _ _),se a4 a2⟩
theorem ug(kind:Int):∀(l:List (Int×Int)) (j:Nat) (s x:Int×Int),eZ kind j (l++[x]) s=jH kind (eZ kind j l s) (j+l.length) x
 |[],j,s,x=>by simp[eZ]
 |y::l,j,s,x=>by
  rw[List.cons_append,eZ,ug kind l (j+1),eZ];congr 1;simp;omega
theorem mostStep_run{kind:Int}{s x:Int×Int}{j:Nat}(hs:oW s)(hx:oW x):
  (cond ((j:Int)==(0:Int))
   (some (Flow.next (ρ:=Empty) ((if(20001:Int)<x.1 then(20001:Int)else x.1),(if x.2>s.2 then x.2 else s.2))))
   (cond (kind==(6:Int))
    (some (.next ((if(20001:Int)<(Iw (s.1+x.1))then(20001:Int)else(Iw (s.1+x.1))),(if x.2>s.2 then x.2 else s.2))))
    (letP (
     cond (kind==(4:Int))
      (true)
      ((kind==(5:Int)))) fun(t4:Bool)=>
    cond t4
     (some (.next ((if(20001:Int)<(Iw (s.1*(if x.1>(1:Int)then x.1 else(1:Int))))then(20001:Int)else(Iw (s.1*(if x.1>(1:Int)then x.1 else(1:Int))))),(if x.2>s.2 then x.2 else s.2))))
     (some (.next ((if(20001:Int)<s.1 then(20001:Int)else s.1),(if x.2>s.2 then x.2 else s.2)))))))=some (.next (jH kind s j x)):=by
 obtain⟨a1,a2,a3,a4⟩:=hs
 obtain⟨b1,b2,b3,b4⟩:=hx
 have hm:1<=ec 1 x.1/\ec 1 x.1<=20001:=⟨jZ _ _,se (by decide) b2⟩
 have hp:0<=s.1*ec 1 x.1/\s.1*ec 1 x.1<=20001*20001:=⟨Int.mul_nonneg a1 (by omega),Int.mul_le_mul a2 hm.2 (by omega) (by decide)⟩
 have hw1:Iw (s.1+x.1)=s.1+x.1:=wW (by omega) (by omega);have hw2:Iw (s.1*(if x.1>(1:Int)then x.1 else(1:Int)))=s.1*ec 1 x.1:=wW (by show _<=s.1*ec 1 x.1;omega) (by show s.1*ec 1 x.1<=_;omega);rw[hw1,hw2];unfold jH ow ec letP;by_cases h0:j=0
 ·subst h0;simp
 ·have:((j:Int)==(0:Int))=false:=by simp;omega
  rw[this];by_cases h6:kind=6
  ·subst h6;simp[h0]
  ·by_cases h4:kind=4
   ·subst h4;simp[h0]
   ·by_cases h5:kind=5
    ·subst h5;simp[h0]
    ·have e6:(kind==(6:Int))=false:=by simpa using h6
     have e4:(kind==(4:Int))=false:=by simpa using h4
     have e5:(kind==(5:Int))=false:=by simpa using h5
     simp[h0,h6,h4,h5,e6,e4,e5]
theorem most_ok:∀q:LQuery,nJ q=some (bP q):=by
 refine LQuery.ind fun q ih=>?_
 refine qc (γ:=Unit) (F:=fun n _ q=>la n q) (O:=fun r _ q=>lh (fun x=>r () x) q) (fun n=>rfl) () q ?_ (fun x hx=>⟨_,ih x hx⟩) ?_
 ·intro r r' h;simp only[lh];congr 1;exact jv q.inputs 0 _ fun k x s hk=>by rw[h x (eM hk)]
 ·simp only[lh];have e:∀x,(ij fun n=>la n x)=nJ x:=fun _=>rfl
  simp only[e]
  rw[rMa (xs:=q.inputs) (s:=(0,0)) (fun k=>eZ q.kind 0 ((q.inputs.take k).map bP) (0,0)) (by simp[eZ]) (fun k x hk=>by
    have hx:=eM hk
    rw[ih x hx,bPs,mostStep_run (sf ⟨by decide,by decide,by decide,by decide⟩ fun y hy=>by
     obtain⟨z,_,rfl⟩:=List.mem_map.1 hy
     exact mostQ_r z) (mostQ_r x),List.take_add_one,hk]
    have hk':=(zg.1 hk).1;simp only[Option.toList_some,List.map_append,List.map_cons,List.map_nil];rw[ug];congr 3;simp;omega)]
  rw[bPs,cI,List.take_length,ot];by_cases h1:q.kind=1
  ·simp[h1,ec]
  ·have:(q.kind==(1:Int))=false:=by simpa using h1
   simp[h1,this,ec]
theorem LExpr.args_lt{e x:LExpr}(h:x∈e.args):SizeOf.sizeOf x<SizeOf.sizeOf e:=by
 cases e;simp only[LExpr.args]at h
 have:=List.sizeOf_lt_of_mem h
 simp only[LExpr.mk.sizeOf_spec];omega
theorem LExpr.ind{p:LExpr->Prop}(h:∀e:LExpr,(∀x∈e.args,p x)->p e):∀e,p e:=by
 intro e;generalize hn:SizeOf.sizeOf e=n;induction n using Nat.strongRecOn generalizing e with
 |_ n ih=>exact h e fun x hx=>ih _ (hn▸LExpr.args_lt hx) x Z
def kG(e:LExpr):List (Nat×Int):=if e.kind=3/\0<=e.index/\e.index<8 then [(e.index.toNat,e.value.kind)]else []
def eV(e:LExpr):List (Nat×Int):=kG e++(e.args.attach.map fun x=>eV x.1).flatten
termination_by SizeOf.sizeOf e
decreasing_by exact LExpr.args_lt x.2
theorem sF(e:LExpr):eV e=kG e++(e.args.map eV).flatten:=by
 rw[eV,List.attach_map_val (f:=eV)]
abbrev PSt:=List Int×Bool×List Bool
def jB(out:List Int)(i:Nat):List Int:=out++List.replicate (i+1-out.length) 0
def fE(s:PSt)(p:Nat×Int):PSt:=
 ((jB s.1 p.1).set p.1 p.2,s.2.1||(s.2.2.getD p.1 false&&(jB s.1 p.1).getD p.1 0 !=p.2),s.2.2.set p.1 true)
def POk(s:PSt):Prop:=s.1.length<=8/\s.2.2.length=8
theorem oZ(out:List Int)(i:Nat):(jB out i).length=max out.length (i+1):=by simp[jB];omega
theorem pstep_ok{s:PSt}{p:Nat×Int}(h:POk s)(hp:p.1<8):POk (fE s p):=by
 refine⟨?_,by simp[fE,h.2]⟩
 show((jB s.1 p.1).set p.1 p.2).length<=8
 rw[List.length_set,oZ]
 have:=h.1
 omega
theorem nH:∀e:LExpr,∀p∈eV e,p.1<8:=by
 refine LExpr.ind fun e ih p hp=>?_
 rw[sF,List.mem_append]at hp;rcases hp with hp|hp
 ·unfold kG at hp;split at hp
  ·rename_i h;simp at hp;subst hp;simp;omega
  ·simp at hp
 ·obtain⟨l,hl,hp⟩:=List.mem_flatten.1 hp
  obtain⟨x,hx,rfl⟩:=List.mem_map.1 hl
  exact ih x hx p hp
theorem mX:∀{l:List (Nat×Int)} {s:PSt},POk s->(∀p∈l,p.1<8)->POk (l.foldl fE s)
 |[],_,h,_=>h
 |p::l,s,h,hl=>mX (l:=l) (pstep_ok h (hl p (by simp))) fun q hq=>hl q (by simp[hq])
theorem pad_while(i:Nat)(hi:i<8):∀(n:Nat) (out:List Int),i+1-out.length=n->out.length<=8->
  gq (σ:=List Int) (ρ:=Empty) (fun(s7:List Int)=>cond (decide ((s7.length:Int)<=(i:Int))) (af (cJ 8 s7 ([0]:List Int)) fun(x28:List Int)=>some (.next x28)) (some (.brk s7))) out=some (.next (jB out i))
 |0,out,hn,ho=>by
  refine mF (fl:= .brk out) ?_ ?_
  ·have:¬((out.length:Int)<=(i:Int)):=by omega
   simp[this]
  ·simp[jB,hn]
 |n+1,out,hn,ho=>by
  refine mF (fl:= .next (out++[0])) ?_ ?_
  ·have:(out.length:Int)<=(i:Int):=by omega
   simp only[this,decide_true,zc];rw[bI (by decide) (by simp;omega)];rfl
  ·have:=pad_while i hi n (out++[0]) (by simp;omega) (by simp;omega)
   simp only;rw[this];simp only[jB,List.length_append,List.length_singleton,List.append_assoc,hn];rw[show i+1-(out.length+1)=n from by omega,show(List.replicate (n+1) (0:Int))=[0]++List.replicate n 0 from Z]
theorem arrI_at{xs:List Bool}{i:Nat}(h:xs.length=8)(hi:i<8):arrI 8 xs (i:Int)=some (xs.getD i false):=by
 have:xs[i]? =some (xs.getD i false):=by rw[List.getD_eq_getElem?_getD,ze (by omega)];rfl
 exact arrI_eq (by omega) (by simpa using this)
theorem getI_at{xs:List Int}{i:Nat}(h:i<xs.length):aP xs (i:Int)=some (xs.getD i 0):=by
 have:xs[i]? =some (xs.getD i 0):=by rw[List.getD_eq_getElem?_getD,ze h];rfl
 exact ji this
theorem look_ok:∀e:LExpr,∃N,∀n,N<=n->∀s:PSt,POk s->dP n e s.1 s.2.1 s.2.2=some ((eV e).foldl fE s):=by
 refine LExpr.ind fun e ih=>?_
 obtain⟨N,hN⟩:=qA (p:=fun x n=>∀s:PSt,POk s->dP n x s.1 s.2.1 s.2.2=some ((eV x).foldl fE s)) e.args ih
 refine⟨N+1,fun n hn s hs=>?_⟩
 obtain⟨n,rfl⟩:∃k,n=k+1:=⟨n-1,by omega⟩
 rw[dP];simp only[iK];have h1:POk ((kG e).foldl fE s):=mX hs fun p hp=>nH e p (by rw[sF];simp[hp])
 have hloop:∀s:PSt,POk s->af (aN (σ:=List Int×Bool×List Bool) (ρ:=Empty) (fun(_:Nat) (x11:LExpr) (s11:List Int×Bool×List Bool)=>
   af (dP n x11 s11.1 s11.2.1 s11.2.2) fun x66=>some (.next (x66.1,x66.2.1,x66.2.2))) 0 e.args (s.1,s.2.1,s.2.2)) (fun fl11=>fl11.thenP fun(s11:List Int×Bool×List Bool)=>some (s11.1,s11.2.1,s11.2.2))=
   some (((e.args.map eV).flatten).foldl fE s):=by
  intro s hs
  rw[rMa (xs:=e.args) (s:=(s.1,s.2.1,s.2.2)) (fun k=>(((e.args.take k).map eV).flatten).foldl fE s) Z (fun k x hk=>by
   have hx:=eM hk
   have hok:POk ((((e.args.take k).map eV).flatten).foldl fE s):=mX hs fun p hp=>by
    obtain⟨l,hl,hp⟩:=List.mem_flatten.1 hp
    obtain⟨y,hy,rfl⟩:=List.mem_map.1 hl
    exact nH y p hp
   rw[hN n (by omega) x hx _ hok,bPs,List.take_add_one,hk];simp)]
  rw[bPs,cI,List.take_length]
 have key:(af (cond (letP (cond (e.kind==(3:Int)) (cond (decide (e.index>=(0:Int))) ((decide (e.index<(8:Int)))) (false)) (false)) fun(t1:Bool)=>t1)
   (af (gq (σ:=List Int) (ρ:=Empty) (fun(s7:List Int)=>cond (decide ((s7.length:Int)<=e.index)) (af (cJ 8 s7 ([0]:List Int)) fun(x28:List Int)=>some (.next x28)) (some (.brk s7))) s.1) fun fl7=>fl7.thenP fun(s7:List Int)=>
   af (cond s.2.1 (some true) (af (arrI 8 s.2.2 e.index) fun(x33:Bool)=>cond x33 (af (aP s7 e.index) fun(x39:Int)=>some (x39 !=e.value.kind)) (some false))) fun(t8:Bool)=>
   af (aP s7 e.index) fun(_:Int)=>letP (s7.set e.index.toNat e.value.kind) fun(y9:List Int)=>af (arrI 8 s.2.2 e.index) fun(_:Bool)=>letP (s.2.2.set e.index.toNat true) fun(y10:List Bool)=>some (y9,t8,y10))
   (some (s.1,s.2.1,s.2.2))) fun t=>some t)=some ((kG e).foldl fE s):=by
  unfold letP;by_cases hc:e.kind=3/\0<=e.index/\e.index<8
  ·obtain⟨hk,h0,h8⟩:=hc
   obtain⟨i,hi⟩:∃i:Nat,e.index=i:=⟨e.index.toNat,by omega⟩
   have hi8:i<8:=by omega
   have e0:(e.kind==(3:Int))=true:=by simpa using hk
   have e1:decide (e.index>=(0:Int))=true:=zt h0;have e2:decide (e.index<(8:Int))=true:=zt h8;rw[e0,e1,e2];simp only[zc];rw[hi,pad_while i hi8 _ s.1 Z hs.1];simp only[bPs,cI];have hl:i<(jB s.1 i).length:=by rw[oZ];omega
   rw[arrI_at hs.2 hi8,getI_at hl];simp only[bPs,Int.toNat_natCast];have hh:kG e=[(i,e.value.kind)]:=by unfold kG;rw[zp ⟨hk,h0,h8⟩,hi,Int.toNat_natCast]
   rw[hh];simp only[List.foldl_cons,List.foldl_nil,fE];cases hb:s.2.1<;>cases hc:s.2.2.getD i false<;>simp
  ·have hh:kG e=[]:=by unfold kG;rw[zy hc]
   rw[hh]
   have e0:(cond (e.kind==(3:Int)) (cond (decide (e.index>=(0:Int))) ((decide (e.index<(8:Int)))) (false)) (false))=false:=by
    by_cases a:e.kind=3
    ·by_cases b:0<=e.index
     ·have:¬e.index<8:=fun h=>hc ⟨a,b,h⟩
      simp[this]
     ·have:¬e.index>=0:=b
      simp[this]
    ·have:(e.kind==(3:Int))=false:=by simpa using a
     simp[this]
   rw[e0];rfl
 simp only[bM]at key⊢;rw[sF,List.foldl_append,<-hloop _ h1];generalize hg:(cond _ _ _:Option PSt)=o at key;cases o with
 |none=>cases key
 |some t=>
  simp only[bPs,zo]at key;subst key;rfl
theorem look_eq(e:LExpr){s:PSt}(h:POk s):gG e s.1 s.2.1 s.2.2=some ((eV e).foldl fE s):=by
 obtain⟨N,hN⟩:=look_ok e
 exact rW N fun n hn=>hN n hn s h
def ld(x:LQuery):List (Nat×Int):=(x.exprs.map eV).flatten++(x.aggregates.map fun a=>(a.args.map eV).flatten).flatten
def mt(q:LQuery):List (Nat×Int):=((cY q).map ld).flatten
theorem pW{x:LQuery}:∀p∈ld x,p.1<8:=by
 intro p hp;rcases List.mem_append.1 hp with hp|hp
 ·obtain⟨l,hl,hp⟩:=List.mem_flatten.1 hp
  obtain⟨e,_,rfl⟩:=List.mem_map.1 hl
  exact nH e p hp
 ·obtain⟨l,hl,hp⟩:=List.mem_flatten.1 hp
  obtain⟨a,_,rfl⟩:=List.mem_map.1 hl
  obtain⟨l,hl,hp⟩:=List.mem_flatten.1 hp
  obtain⟨e,_,rfl⟩:=List.mem_map.1 hl
  exact nH e p hp
theorem paramsQ_lt{q:LQuery}:∀p∈mt q,p.1<8:=by
 intro p hp
 obtain⟨l,hl,hp⟩:=List.mem_flatten.1 hp
 obtain⟨x,_,rfl⟩:=List.mem_map.1 hl
 exact pW p hp
theorem lookAll{l:List LExpr}{s:PSt}(h:POk s):aN (σ:=PSt) (ρ:=Empty) (fun(_:Nat) (x12:LExpr) (s12:PSt)=>
   af (gG x12 s12.1 s12.2.1 s12.2.2) fun x33=>some (.next (x33.1,x33.2.1,x33.2.2))) 0 l (s.1,s.2.1,s.2.2)=some (.next (((l.map eV).flatten).foldl fE s)):=by
 rw[rMa (xs:=l) (s:=(s.1,s.2.1,s.2.2)) (fun k=>(((l.take k).map eV).flatten).foldl fE s) Z (fun k x hk=>by
  have hok:POk ((((l.take k).map eV).flatten).foldl fE s):=mX h fun p hp=>by
   obtain⟨m,hm,hp⟩:=List.mem_flatten.1 hp
   obtain⟨y,hy,rfl⟩:=List.mem_map.1 hm
   exact nH y p hp
  rw[look_eq x hok,bPs,List.take_add_one,hk];simp),List.take_length]
def eN(q:LQuery):PSt:=(mt q).foldl fE ([],false,List.replicate 8 false)
theorem kinds_ok{q:LQuery}(hb:(cY q).length<=10000000):fc q=some (cond (eN q).2.1 ([],13) ((eN q).1,0)):=by
 unfold fc;rw[nodes_ok q hb,bPs]
 rw[rMa (xs:=cY q) (s:=([],false,List.replicate 8 false)) (fun k=>((((cY q).take k).map ld).flatten).foldl fE ([],false,List.replicate 8 false)) Z (fun k x hk=>by
  have hok:POk (((((cY q).take k).map ld).flatten).foldl fE ([],false,List.replicate 8 false)):=mX ⟨by simp,by simp⟩ fun p hp=>by
   obtain⟨m,hm,hp⟩:=List.mem_flatten.1 hp
   obtain⟨y,hy,rfl⟩:=List.mem_map.1 hm
   exact pW p hp
  rw[lookAll hok,bPs,cI]
  rw[show((((cY q).take (k+1)).map ld).flatten).foldl fE ([],false,List.replicate 8 false)=(ld x).foldl fE (((((cY q).take k).map ld).flatten).foldl fE ([],false,List.replicate 8 false))from by
   rw[List.take_add_one,hk];simp only[Option.toList_some,List.map_append,List.map_cons,List.map_nil,List.flatten_append,List.flatten_cons,List.flatten_nil,List.append_nil,List.foldl_append]]
  generalize(((((cY q).take k).map ld).flatten).foldl fE ([],false,List.replicate 8 false))=s at hok⊢
  have hok2:POk (((x.exprs.map eV).flatten).foldl fE s):=mX hok fun p hp=>pW (x:=x) p (by unfold ld;simp only[List.mem_append];exact .inl hp)
  rw[rMa (xs:=x.aggregates) (s:=((((x.exprs.map eV).flatten).foldl fE s).1,(((x.exprs.map eV).flatten).foldl fE s).2.1,(((x.exprs.map eV).flatten).foldl fE s).2.2))
   (fun k=>((((x.aggregates.take k).map fun a=>(a.args.map eV).flatten).flatten).foldl fE (((x.exprs.map eV).flatten).foldl fE s))) Z (fun k a ha=>by
    have hok3:POk ((((x.aggregates.take k).map fun a=>(a.args.map eV).flatten).flatten).foldl fE (((x.exprs.map eV).flatten).foldl fE s)):=mX hok2 fun p hp=>pW (x:=x) p (by
     unfold ld;simp only[List.mem_append]
     obtain⟨m,hm,hp⟩:=List.mem_flatten.1 hp
     obtain⟨y,hy,rfl⟩:=List.mem_map.1 hm
     exact .inr (List.mem_flatten.2 ⟨_,List.mem_map.2 ⟨y,List.mem_of_mem_take hy,rfl⟩,hp⟩))
    rw[lookAll hok3,bPs,cI,List.take_add_one,ha];simp)]
  rw[bPs,cI,List.take_length];unfold ld;rw[List.foldl_append])]
 rw[bPs,cI,List.take_length]
 show(cond (eN q).2.1 (some ([],13)) (some ((eN q).1,0)))=_
 cases(eN q).2.1<;>rfl
def rO(l:List (Nat×Int)):Prop:=∀i k k',(i,k)∈l->(i,k')∈l->k=k'
structure PInv(l:List (Nat×Int))(s:PSt):Prop where
 ok:POk s
 seen:∀i,i<8->(s.2.2.getD i false=true↔∃k,(i,k)∈l)
 len:∀i k,(i,k)∈l->i<s.1.length
 last:s.1.length=0\/∃k,(s.1.length-1,k)∈l
 zero:∀i,(∀k,(i,k)∉l)->s.1.getD i 0=0
 good:s.2.1=false->∀i k,(i,k)∈l->s.1.getD i 0=k
 bad:rO l->s.2.1=false
theorem qN(out:List Int)(i j:Nat):(jB out i).getD j 0=out.getD j 0:=by
 simp only[jB,List.getD_eq_getElem?_getD];by_cases h:j<out.length
 ·rw[List.getElem?_append_left h]
 ·rw[List.getElem?_append_right (by omega),List.getElem?_eq_none (l:=out) (by omega),List.getElem?_replicate];split<;>rfl
theorem PInv.init:PInv [] ([],false,List.replicate 8 false):=
 ⟨⟨by simp,by simp⟩,fun i hi=>by
  have:(List.replicate 8 false).getD i false=false:=by rw[List.getD_eq_getElem?_getD,List.getElem?_replicate];split<;>rfl
  exact⟨fun h=>(by rw[show(([],false,List.replicate 8 false):PSt).2.2=List.replicate 8 false from Z,this]at h;cases h),fun⟨k,hk⟩=>(by simp at hk)⟩,fun i k h=>by simp at h,.inl Z,fun i _=>by simp,fun _ i k h=>by simp at h,fun _=>rfl⟩
theorem PInv.step{l:List (Nat×Int)}{s:PSt}(h:PInv l s){p:Nat×Int}(hp:p.1<8):PInv (l++[p]) (fE s p):=by
 obtain⟨i,k⟩:=p
 simp only at hp
 have hset:∀(xs:List Int) (j:Nat) (v:Int),i<xs.length->(xs.set i v).getD j 0=if j=i then v else xs.getD j 0:=by
  intro xs j v hl;rw[List.getD_eq_getElem?_getD,List.getD_eq_getElem?_getD,List.getElem?_set];by_cases hji:i=j
  ·subst hji;simp[hl]
  ·have:j≠i:=fun h=>hji h.symm
   simp[hji,this]
 have hl1:i<(jB s.1 i).length:=by rw[oZ];omega
 refine⟨pstep_ok h.ok hp,fun j hj=>?_,fun j k' hm=>?_,?_,fun j hno=>?_,fun hb j k' hm=>?_,fun hk=>?_⟩
 ·show(s.2.2.set i true).getD j false=true↔_
  rw[List.getD_eq_getElem?_getD,List.getElem?_set];by_cases hji:i=j
  ·subst hji
   have:i<s.2.2.length:=by rw[h.ok.2];exact hp
   simp[this]
  ·have h1:=h.seen j hj;rw[List.getD_eq_getElem?_getD]at h1;have hji':j≠i:=fun h=>hji h.symm
   simp only[hji,if_false,h1,List.mem_append,List.mem_singleton,Prod.mk.injEq,hji',false_and,or_false]
 ·show j<((jB s.1 i).set i k).length;rw[List.length_set,oZ];rcases List.mem_append.1 hm with hm|hm
  ·have:=h.len j k' hm;omega
  ·simp at hm;omega
 ·show((jB s.1 i).set i k).length=0\/∃k',(((jB s.1 i).set i k).length-1,k')∈l++[(i,k)]
  rw[List.length_set,oZ];by_cases hle:s.1.length<=i+1
  ·right
   exact⟨k,by rw[show max s.1.length (i+1)-1=i from by omega];simp⟩
  ·rcases h.last with h0|⟨k',hk'⟩
   ·omega
   ·right
    exact⟨k',by rw[show max s.1.length (i+1)-1=s.1.length-1 from by omega];simp[hk']⟩
 ·show((jB s.1 i).set i k).getD j 0=0
  have hji:j≠i:=fun e=>hno k (by simp[e])
  rw[hset _ _ _ hl1,zy hji,qN];exact h.zero j fun k' hm=>hno k' (by simp[hm])
 ·have hb':s.2.1=false/\(s.2.2.getD i false&&(jB s.1 i).getD i 0 !=k)=false:=by
   have:(s.2.1||(s.2.2.getD i false&&(jB s.1 i).getD i 0 !=k))=false:=hb
   simpa using this
  show((jB s.1 i).set i k).getD j 0=k'
  rw[hset _ _ _ hl1];have hold:=h.good hb'.1;rcases List.mem_append.1 hm with hm1|hm
  ·by_cases hji:j=i
   ·subst hji;rw[zp Z];have hs:=(h.seen j hp).2 ⟨k',hm1⟩
    have:=hb'.2
    rw[hs,qN,hold j k' hm1]at this;simp at this;exact this.symm
   ·rw[zy hji,qN];exact hold j k' hm1
  ·simp at hm;rw[zp hm.1,hm.2]
 ·have h1:=h.bad fun i k k' a b=>hk i k k' (by simp[a]) (by simp[b])
  show(s.2.1||(s.2.2.getD i false&&(jB s.1 i).getD i 0 !=k))=false
  rw[h1,Bool.false_or,qN];cases hs:s.2.2.getD i false with
  |false=>rfl
  |true=>
   obtain⟨k',hk'⟩:=(h.seen i hp).1 hs
   rw[h.good h1 i k' hk',hk i k' k (by simp[hk']) (by simp)];simp
theorem PInv.fold:∀{r l:List (Nat×Int)} {s:PSt},PInv l s->(∀p∈r,p.1<8)->PInv (l++r) (r.foldl fE s)
 |[],l,s,h,_=>by simpa using h
 |p::r,l,s,h,hr=>by
  have:=PInv.fold (r:=r) (h.step (hr p (by simp))) fun q hq=>hr q (by simp[hq])
  simpa using this
theorem kinds_inv(q:LQuery):PInv (mt q) (eN q):=by
 have:=PInv.fold (r:=mt q) PInv.init paramsQ_lt
 rw[List.nil_append]at this;exact this
theorem kinds_bad{q:LQuery}:(eN q).2.1=false↔rO (mt q):=by
 have h:=kinds_inv q
 refine⟨fun hb i k k' a b=>?_,h.bad⟩
 rw[<-h.good hb i k a,<-h.good hb i k' b]
structure ArgsOk(l:List (Nat×Int))(args:Rq):Prop where
 kinds:rO l
 args:∀i k,(i,k)∈l->i<args.length/\(∀j x,j<=i->args[j]? =some x->kX x=true)/\(∀x,args[i]? =some x->k=0\/x.kind=k\/x.kind=0)
theorem args_ok{q:LQuery}(hb:(cY q).length<=10000000)(args:Rq):∃e,il q args=some e/\(e=0↔ArgsOk (mt q) args):=by
 unfold il;rw[kinds_ok hb,bPs];have h:=kinds_inv q;cases hbad:(eN q).2.1 with
 |true=>
  refine⟨13,by simp,?_⟩
  have:¬rO (mt q):=fun hk=>by rw[kinds_bad.2 hk]at hbad;cases hbad
  exact⟨fun h=>by omega,fun h=>absurd h.kinds this⟩
 |false=>
  simp only[zd];have hk:=kinds_bad.1 hbad;by_cases hl:args.length<(eN q).1.length
  ·refine⟨1,by simp[hl],fun h=>by omega,fun ha=>?_⟩
   rcases h.last with h0|⟨k,hm⟩
   ·omega
   ·have:=(ha.args _ _ hm).1;omega
  ·have hge:(eN q).1.length<=args.length:=by omega
   have hstep:∀k x,(eN q).1[k]? =some x->∃y,args[k]? =some y:=fun k x hx=>by
    have:=(zg.1 hx).1
    exact⟨args[k],ze (by omega)⟩
   let okAt:Nat->Int->Prop:=fun k x=>∀y,args[k]? =some y->kX y=true/\(x=0\/y.kind=x\/y.kind=0)
   obtain⟨fl,hfl,hres⟩:=fI (step:=fun(j1:Nat) (x1:Int) (_:Unit)=>af (aP args (j1:Int)) fun(x31:LVal)=>letP (kX x31) fun x33=>cond (!x33) (some (Flow.ret (σ:=Unit) (7:Int)))
     (cond (x1 !=(0:Int)) (af (aP args (j1:Int)) fun(x41:LVal)=>cond (x41.kind !=x1) (af (aP args (j1:Int)) fun(x50:LVal)=>cond (x50.kind !=(0:Int)) (some (.ret 7)) (some (.next ()))) (some (.next ()))) (some (.next ()))))
    (fun j _=>∀k x,k<j->(eN q).1[k]? =some x->okAt k x) (fun r=>r=7/\∃k x,(eN q).1[k]? =some x/\¬okAt k x) (eN q).1 0 () (fun k x hk=>by omega) (fun k x s hk hI=>by
     obtain⟨y,hy⟩:=hstep k x hk
     simp only[Nat.zero_add]at hI⊢;rw[ji hy];simp only[bPs,bM]
     have next:okAt k x->∀k' x',k'<k+1->(eN q).1[k']? =some x'->okAt k' x':=fun ho k' x' hk' hx'=>by
      by_cases he:k'=k
      ·subst he;rw[hk]at hx';cases hx';exact ho
      ·exact hI k' x' (by omega) hx'
     cases hv:kX y with
     |false=>exact⟨_,rfl,rfl,k,x,hk,fun ho=>by have:=(ho y hy).1;rw[hv]at this;cases this⟩
     |true=>
      simp only[Bool.not_true,zd];by_cases hx0:x=0
      ·refine⟨.next (),by simp[hx0],next fun z hz=>?_⟩
       rw[hy]at hz;cases hz;exact⟨hv,.inl hx0⟩
      ·have e0:(x !=(0:Int))=true:=by simpa using hx0
       rw[e0,zc];by_cases hyx:y.kind=x
       ·refine⟨.next (),by simp[hyx],next fun z hz=>?_⟩
        rw[hy]at hz;cases hz;exact⟨hv,.inr (.inl hyx)⟩
       ·have e1:(y.kind !=x)=true:=by simpa using hyx
        rw[e1,zc];by_cases hy0:y.kind=0
        ·refine⟨.next (),by simp[hy0],next fun z hz=>?_⟩
         rw[hy]at hz;cases hz;exact⟨hv,.inr (.inr hy0)⟩
        ·have e2:(y.kind !=(0:Int))=true:=by simpa using hy0
         refine⟨.ret 7,by simp[e2],rfl,k,x,hk,fun ho=>?_⟩
         rcases(ho y hy).2 with a|a|a
         ·exact hx0 a
         ·exact hyx a
         ·exact hy0 a)
   have e0:decide ((args.length:Int)<((eN q).1.length:Int))=false:=zf (by omega);simp only[bne_self_eq_false,zd,e0];rw[hfl,bPs]
   have hget:∀k,k<(eN q).1.length->(eN q).1[k]? =some ((eN q).1.getD k 0):=fun k hk=>by
    rw[List.getD_eq_getElem?_getD,ze hk];rfl
   cases fl with
   |brk s=>exact absurd hres (by simp)
   |next s=>
    refine⟨0,rfl,fun _=>⟨hk,fun i k hm=>?_⟩,fun _=>rfl⟩
    have hi:=h.len i k hm;simp only[Nat.zero_add]at hres
    refine⟨by omega,fun j x hj hx=>?_,fun x hx=>?_⟩
    ·exact((hres j _ (by omega) (hget j (by omega))) x hx).1
    ·have:=((hres i _ (by omega) (hget i (by omega))) x hx).2
     rwa [h.good hbad i k hm]at this
   |ret r=>
    obtain⟨rfl,k,x,hx,hno⟩:=hres
    refine⟨7,rfl,fun h=>by omega,fun ha=>absurd ?_ hno⟩
    intro y hy;have hkl:=(zg.1 hx).1;rcases h.last with h0|⟨k',hm⟩
    ·omega
    ·have hv:=(ha.args _ _ hm).2.1 k y (by omega) hy
     refine⟨hv,?_⟩
     by_cases hex:∃k2,(k,k2)∈mt q
     ·obtain⟨k2,hm2⟩:=hex
      have hg:=h.good hbad k k2 hm2
      have hxx:x=k2:=by
       rw[hget k hkl]at hx;rw[<-hg]
       exact(Option.some.inj hx).symm
      rw[hxx]
      exact(ha.args k k2 hm2).2.2 y hy
     ·left
      have:=h.zero k fun k2 hm2=>hex ⟨k2,hm2⟩
      rw[hget k hkl]at hx;rw[<-this]
      exact(Option.some.inj hx).symm
def Tot{α:Type}(o:Option α):Prop:=∃v,o=some v
theorem Tot.mk{α:Type}{v:α}:Tot (Option.some v):=⟨v,rfl⟩
theorem Tot.bind{α β:Type}{o:Option α}{k:α->Option β}(h:Tot o)(hk:∀v,o=some v->Tot (k v)):Tot (af o k):=by
 obtain⟨v,hv⟩:=h
 rw[hv];exact hk v hv
theorem Tot.cond{α:Type}{b:Bool}{x y:Option α}(hx:b=true->Tot x)(hy:b=false->Tot y):Tot (cond b x y):=by
 cases b
 ·exact hy Z
 ·exact hx Z
theorem Tot.letP{α β:Type}{a:α}{k:α->Option β}(h:Tot (k a)):Tot (letP a k):=h
theorem Tot.get{α:Type}{xs:List α}{i:Int}(h0:0<=i)(h:i<xs.length):Tot (aP xs i):=by
 have:i.toNat<xs.length:=by omega
 exact⟨xs[i.toNat],kY h0 (ze this)⟩
theorem Tot.sub{α:Type}{xs:List α}{a b:Int}(h:0<=a/\a<=b/\b<=xs.length):Tot (nK xs a b):=⟨_,rx h⟩
theorem Tot.range{α σ ρ:Type}{step:Nat->α->σ->Option (Flow σ ρ)}:∀(xs:List α) (j:Nat) (s:σ),(∀k x s,xs[k]? =some x->Tot (step (j+k) x s))->Tot (aN step j xs s)
 |[],_,s,_=>⟨.next s,rfl⟩
 |x::xs,j,s,h=>by
  obtain⟨fl,hfl⟩:=h 0 x s Z
  rw[Nat.add_zero]at hfl;rw[aN,hfl];cases fl with
  |next s'=>
   exact Tot.range xs (j+1) s' fun k y t hk=>by
    have:=h (k+1) y t (by simpa using hk)
    rwa [show j+(k+1)=j+1+k from by omega]at this
  |brk s'=>exact⟨_,rfl⟩
  |ret r=>exact⟨_,rfl⟩
theorem Tot.thenR{σ ρ:Type}{fl:Flow σ ρ}{k:σ->Option ρ}(h:∀s,(fl= .next s\/fl= .brk s)->Tot (k s)):Tot (fl.thenR k):=by
 cases fl with
 |next s=>exact h s (.inl Z)
 |brk s=>exact h s (.inr Z)
 |ret r=>exact⟨r,rfl⟩
theorem mm{a b:Int}(h:a≠b):(a !=b)=true:=by simpa using h
theorem pB{a b:Int}(h:a=b):(a !=b)=false:=by simp[h]
theorem dt{a b:Int}(h:a≠b):(a==b)=false:=by simpa using h
theorem lO{a b:Int}(h:a=b):(a==b)=true:=by simp[h]
theorem idxF{α:Type}{l:List α}{f:α->Option Bool}{p:α->Bool}(h:∀x∈l,f x=some (p x)):
  af (aN (σ:=Unit) (ρ:=Int) (fun(j1:Nat) (x1:α) (_:Unit)=>af (f x1) fun x16=>cond x16 (some (.ret (j1:Int))) (some (.next ()))) 0 l ()) (fun fl1=>fl1.thenR fun(_:Unit)=>some (-1))=some (bg p l):=by
 rw[rm p (fun j _=>(j:Int)) l 0 (fun k x hk=>by
  rw[h x (eM hk),bPs];cases p x<;>simp)]
 unfold bg;cases hf:l.findIdx? p with
 |none=>rfl
 |some i=>
  have hi:=(List.findIdx?_eq_some_iff_getElem.1 hf).1;simp only[ze hi];simp
theorem idxF2{α:Type}{l:List α}{p:α->Bool}:
  af (aN (σ:=Unit) (ρ:=Int) (fun(j1:Nat) (x1:α) (_:Unit)=>cond (p x1) (some (.ret (j1:Int))) (some (.next ()))) 0 l ()) (fun fl1=>fl1.thenR fun(_:Unit)=>some (-1))=some (bg p l):=idxF (f:=fun x=>some (p x)) fun _ _=>rfl
theorem idxOf_neg{α:Type}{p:α->Bool}{l:List α}:bg p l=-1\/0<=bg p l:=by
 unfold bg;cases l.findIdx? p with
 |none=>exact .inl Z
 |some i=>exact .inr (by simp)
theorem iT{α:Type}{p:α->Bool}{l:List α}(h:0<=bg p l):∃x,l[(bg p l).toNat]? =some x/\p x=true:=by
 unfold bg at h⊢;cases hf:l.findIdx? p with
 |none=>rw[hf]at h;simp at h
 |some i=>
  obtain⟨hi,hp,_⟩:=List.findIdx?_eq_some_iff_getElem.1 hf
  exact⟨l[i],by simp[hi],hp⟩
theorem qS(l:List LTable)(p:LTable->Bool):cn l (fun a=>some (p a))=some (bg p l):=idxF fun _ _=>rfl
theorem sR(l:List LCol)(p:LCol->Bool):bB l (fun a=>some (p a))=some (bg p l):=idxF fun _ _=>rfl
theorem nS(s:LSchema)(name:Rb):dS s name=some (ec 0 (bg (fun t=>cg t name) s.tables),decide (bg (fun t=>cg t name) s.tables>=0)):=by
 unfold dS;rw[qS,bPs];congr 2;unfold ec;split<;>split<;>omega
theorem findColumn_eq(t:LTable)(name:Rb):hC t name=some (ec 0 (bg (fun c=>eR c name) t.columns),decide (bg (fun c=>eR c name) t.columns>=0)):=by
 unfold hC;rw[sR,bPs];congr 2;unfold ec;split<;>split<;>omega
theorem oP{n:Int}(h:0<=n):ec 0 n=n:=by unfold ec;split<;>omega
theorem te(s:Rb):Tot (gA s):=by
 unfold gA;refine Tot.bind ?_ fun b hb=>?_
 ·refine Tot.cond (fun _=>Tot.mk) fun h1=>?_
  refine Tot.cond (fun _=>Tot.mk) fun h2=>?_
  have h1:=of_decide_eq_false h1;refine Tot.bind (Tot.get (by decide) (by omega)) fun x _=>?_
  refine Tot.cond (fun _=>?_) fun _=>Tot.mk
  exact Tot.bind (Tot.get (by decide) (by omega)) fun x _=>Tot.mk
 ·refine Tot.cond (fun _=>Tot.mk) fun h=>?_
  subst h
  have hl:(s.length:Int)<=12:=by
   by_cases h1:(s.length:Int)<1
   ·omega
   ·by_cases h2:(s.length:Int)>12
    ·rw[zf h1,zt h2]at hb;simp at hb
    ·omega
  refine Tot.bind ⟨(),dW (by omega)⟩ fun _ _=>?_
  refine Tot.bind (Tot.range _ _ _ fun k x _ _=>?_) fun fl _=>Tot.thenR fun _ _=>Tot.mk
  repeat' first|exact Tot.mk|refine Tot.cond (fun _=>?_) (fun _=>?_)
structure TableOk(t:LTable):Prop where
 pk:∀x∈t.primaryKey,0<=x/\x<t.columns.length
 six:t.columns.length<=6
 nn:∀(k:Nat) (x:Int),t.primaryKey[k]? =some x->(k:Int)<=x/\∀c,t.columns[x.toNat]? =some c->c.nullable=false
theorem TableOk.few{t:LTable}(h:TableOk t):t.primaryKey.length<=6:=by
 by_cases hc:t.primaryKey.length<=6
 ·exact hc
 ·have h6:t.primaryKey[6]? =some t.primaryKey[6]:=ze (by omega);have h1:=(h.nn 6 _ h6).1;have h2:=h.pk _ (List.mem_of_getElem? h6);have h3:=h.six;omega
theorem validTable(t:LTable)(hsm:t.primaryKey.length<=2^60):∃e,fY t=some e/\(e=0->TableOk t):=by
 unfold fY
 obtain⟨b,hb⟩:=te t.name
 rw[hb,bPs];cases b with
 |false=>exact⟨23,rfl,fun h=>by omega⟩
 |true=>
  simp only[Bool.not_true,zd];by_cases h0:(t.columns.length:Int)=0
  ·exact⟨3,by simp[h0],fun h=>by omega⟩
  by_cases h6:(t.columns.length:Int)>6
  ·have:((t.columns.length:Int)==0)=false:=by simpa using h0
   exact⟨2,by rw[this];simp[h6],fun h=>by omega⟩
  have e0:((t.columns.length:Int)==0)=false:=by simpa using h0
  rw[e0,zf h6];simp only[zd]
  obtain⟨fl,hfl,hr⟩:=fI (step:=fun(j1:Nat) (x1:LCol) (_:Unit)=>
    af (gA x1.name) fun x31=>cond (!x31) (some (Flow.ret (σ:=Unit) (23:Int)))
     (af (hC t x1.name) fun x37=>cond (decide (x37.1<(j1:Int))) (some (.ret 5)) (cond (decide (x1.kind<(1:Int))) (some (.ret 7)) (cond (decide (x1.kind>(3:Int))) (some (.ret 7)) (some (.next ())))))) (fun _ _=>True) (fun r=>r≠0) t.columns 0 () trivial (fun k x s hk _=>by
    obtain⟨b,hb⟩:=te x.name
    rw[hb,bPs,findColumn_eq,bPs];cases b with
    |false=>exact⟨_,rfl,by simp⟩
    |true=>
     simp only[Bool.not_true,zd];by_cases a1:ec 0 (bg (fun c=>eR c x.name) t.columns)<((0+k:Nat):Int)
     ·exact⟨.ret 5,by rw[zt a1];rfl,by simp⟩
     ·rw[zf a1];by_cases a2:x.kind<1
      ·exact⟨.ret 7,by rw[zt a2];rfl,by simp⟩
      ·rw[zf a2];by_cases a3:x.kind>3
       ·exact⟨.ret 7,by rw[zt a3];rfl,by simp⟩
       ·exact⟨.next (),by rw[zf a3];rfl,trivial⟩)
  rw[hfl,bPs];cases fl with
  |brk s=>exact absurd hr (by simp)
  |ret r=>exact⟨r,rfl,fun h=>absurd h hr⟩
  |next s=>
   rw[jR]
   obtain⟨fl,hfl,hr⟩:=fI (step:=fun(j2:Nat) (x2:Int) (_:Unit)=>
     cond (decide (x2<(0:Int))) (some (Flow.ret (σ:=Unit) (9:Int))) (cond (decide (x2>=(t.columns.length:Int))) (some (.ret 9))
      (af (aP t.columns x2) fun(x73:LCol)=>cond x73.nullable (some (.ret 9)) (cond (decide ((j2:Int)>(0:Int)))
       (af (aP t.primaryKey (Iw ((j2:Int)-(1:Int)))) fun(x86:Int)=>cond (decide (x2<=x86)) (some (.ret 9)) (some (.next ()))) (some (.next ())))))) (fun j _=>∀(k:Nat) (x:Int),k<j->t.primaryKey[k]? =some x->(0<=x/\x<t.columns.length)/\(k:Int)<=x/\∀c,t.columns[x.toNat]? =some c->c.nullable=false) (fun r=>r≠0) t.primaryKey 0 () (fun k x h=>by omega) (fun k x s hk hI=>by
     simp only[Nat.zero_add]at hI⊢;by_cases a1:x<0
     ·exact⟨.ret 9,by rw[zt a1];rfl,by simp⟩
     rw[zf a1];by_cases a2:x>=(t.columns.length:Int)
     ·exact⟨.ret 9,by rw[zt a2];rfl,by simp⟩
     rw[zf a2];simp only[zd]
     obtain⟨c,hc⟩:=Tot.get (xs:=t.columns) (i:=x) (by omega) (by omega)
     rw[hc,bPs]
     have next:c.nullable=false->(k:Int)<=x->∀(k':Nat) (x':Int),k'<k+1->t.primaryKey[k']? =some x'->(0<=x'/\x'<t.columns.length)/\(k':Int)<=x'/\∀c,t.columns[x'.toNat]? =some c->c.nullable=false:=fun hn hkx k' x' h1 h2=>by
      by_cases he:k'=k
      ·subst he;rw[hk]at h2;cases h2;exact⟨by omega,hkx,fun c' hc'=>by rw[(gIs hc).2]at hc';cases hc';exact hn⟩
      ·exact hI k' x' (by omega) h2
     cases hn:c.nullable with
     |true=>exact⟨_,rfl,by simp⟩
     |false=>
      simp only[zd];by_cases a3:(k:Int)>0
      ·rw[zt a3];have hkl:=(zg.1 hk).1;rw[wW (by omega) (by omega)]
       obtain⟨y,hy⟩:=Tot.get (xs:=t.primaryKey) (i:=(k:Int)-1) (by omega) (by omega)
       rw[zc,hy,bPs];by_cases a4:x<=y
       ·exact⟨.ret 9,by rw[zt a4];rfl,by simp⟩
       ·refine⟨.next (),by rw[zf a4];rfl,next hn ?_⟩
        have hy2:=(gIs hy).2;rw[show((k:Int)-1).toNat=k-1 from by omega]at hy2
        have:=(hI (k-1) y (by omega) hy2).2.1
        omega
      ·exact⟨.next (),by rw[zf a3];rfl,next hn (by omega)⟩)
   rw[hfl,bPs];cases fl with
   |brk s=>exact absurd hr (by simp)
   |ret r=>exact⟨r,rfl,fun h=>absurd h hr⟩
   |next s=>
    rw[jR];simp only[Nat.zero_add]at hr;by_cases hp:(t.primaryKey.length:Int)=0
    ·exact⟨9,by simp[hp],fun h=>by omega⟩
    ·have:((t.primaryKey.length:Int)==0)=false:=by simpa using hp
     refine⟨0,by rw[this];rfl,fun _=>⟨fun x hx=>?_,by omega,fun k x hk=>(hr k x (zg.1 hk).1 hk).2⟩⟩
     obtain⟨k,hk,rfl⟩:=List.mem_iff_getElem.1 hx
     exact(hr k _ hk (ze hk)).1
theorem fJ{α:Type}{xs:List α}{k:Nat}(h:k<xs.length):aP xs (k:Int)=some xs[k]:=ji (ze h)
theorem foreignKey_tot{s:LSchema}(hs:∀t∈s.tables,TableOk t)(fk:LF):Tot (fG s fk):=by
 unfold fG;rw[nS,nS];simp only[bPs,bM];generalize hi:bg (fun t=>cg t fk.table) s.tables=i;generalize hj:bg (fun t=>cg t fk.refTable) s.tables=j;by_cases h1:i>=0
 ·by_cases h2:j>=0
  ·rw[zt h1,zt h2];simp only[Bool.not_true,zd];rw[oP h1,oP h2]
   obtain⟨t,ht,_⟩:=iT (hi▸h1)
   obtain⟨u,hu,_⟩:=iT (hj▸h2)
   rw[hi]at ht;rw[hj]at hu;rw[kY h1 ht,kY h2 hu];simp only[bPs];refine Tot.cond (fun _=>Tot.mk) fun hl=>?_
   have hl:fk.columns.length=u.primaryKey.length:=by
    by_cases h:(fk.columns.length:Int)=(u.primaryKey.length:Int)
    ·omega
    ·simp[h]at hl
   refine Tot.bind (Tot.range _ _ _ fun k x st hk=>?_) fun fl _=>Tot.thenR fun _ _=>Tot.mk
   have hkl:=(zg.1 hk).1;by_cases a1:x<0
   ·rw[zt a1];exact Tot.mk
   ·rw[zf a1];by_cases a2:x>=(t.columns.length:Int)
    ·rw[zt a2];exact Tot.mk
    ·rw[zf a2];simp only[zd]
     obtain⟨c,hc⟩:=Tot.get (xs:=t.columns) (i:=x) (by omega) (by omega)
     rw[hc,bPs,Nat.zero_add,fJ (by omega),bPs];have hp:=(hs u (eM hu)).pk u.primaryKey[k] (List.getElem_mem _)
     obtain⟨d,hd⟩:=Tot.get (xs:=u.columns) (i:=u.primaryKey[k]) hp.1 hp.2
     rw[hd,bPs];exact Tot.cond (fun _=>Tot.mk) fun _=>Tot.mk
  ·rw[zf h2];simp only[Bool.not_false];cases decide (i>=0)<;>exact Tot.mk
 ·rw[zf h1];exact Tot.mk
theorem constraint_tot(s:LSchema)(c:LK):Tot (fH s c):=by
 unfold fH;rw[nS];simp only[bPs,bM];generalize hi:bg (fun t=>cg t c.table) s.tables=i;by_cases h1:i>=0
 ·rw[zt h1];simp only[Bool.not_true,zd];rw[oP h1]
  obtain⟨t,ht,_⟩:=iT (hi▸h1)
  rw[hi]at ht;rw[kY h1 ht,bPs];refine Tot.cond (fun _=>Tot.mk) fun hl=>?_
  by_cases a1:c.left<0
  ·rw[zt a1]at hl;cases hl
  rw[zf a1,zd]at hl;by_cases a2:c.left>=(t.columns.length:Int)
  ·rw[zt a2]at hl;cases hl
  rw[zf a2,zd]at hl
  obtain⟨x,hx⟩:=Tot.get (xs:=t.columns) (i:=c.left) (by omega) (by omega)
  rw[hx];refine Tot.cond (fun a3=>?_) fun _=>?_
  ·have a3:=of_decide_eq_true a3
   have a4:c.right<(t.columns.length:Int):=by
    rcases Int.lt_or_le c.right (t.columns.length:Int)with h|h
    ·exact h
    ·have e:decide (c.right>=(t.columns.length:Int))=true:=zt h;rw[e]at hl;revert hl
     cases((iP (LVal.mk 0 0 []) c.op (LVal.mk 0 0 [])).2 !=0)<;>cases decide (c.right< -1)<;>simp
   obtain⟨y,hy⟩:=Tot.get (xs:=t.columns) (i:=c.right) a3 a4
   rw[hy];simp only[bPs];exact Tot.cond (fun _=>Tot.mk) fun _=>Tot.mk
  ·rw[bPs];exact Tot.cond (fun _=>Tot.mk) fun _=>Tot.mk
 ·rw[zf h1];exact Tot.mk
theorem equalInts_tot(a b:List Int):Tot (gO a b):=by
 unfold gO;refine Tot.cond (fun _=>Tot.mk) fun h=>?_
 have h:a.length=b.length:=by
  by_cases h':(a.length:Int)=(b.length:Int)
  ·omega
  ·simp[h']at h
 refine Tot.bind (Tot.range _ _ _ fun k x s hk=>?_) fun fl _=>Tot.thenR fun _ _=>Tot.mk
 have hkl:=(zg.1 hk).1;rw[Nat.zero_add,fJ (by omega),bPs];exact Tot.cond (fun _=>Tot.mk) fun _=>Tot.mk
theorem fkIn_tot(l:List LF)(x:LF):Tot (co l (fun a0=>gZ a0 x)):=by
 unfold co dq;refine Tot.bind (Tot.bind (Tot.range _ _ _ fun k y s hk=>?_) fun fl _=>Tot.thenR fun _ _=>Tot.mk) fun _ _=>Tot.mk
 refine Tot.bind ?_ fun _ _=>Tot.cond (fun _=>Tot.mk) fun _=>Tot.mk
 unfold gZ;refine Tot.bind ?_ fun _ _=>Tot.mk
 unfold iz;refine Tot.cond (fun _=>Tot.bind (equalInts_tot _ _) fun _ _=>Tot.cond (fun _=>Tot.mk) fun _=>Tot.mk) fun _=>Tot.mk
theorem csIn_tot(l:List LK)(x:LK):Tot (cv l x):=by
 unfold cv dD;refine Tot.bind (Tot.bind (Tot.range _ _ _ fun k y s hk=>?_) fun fl _=>Tot.thenR fun _ _=>Tot.mk) fun _ _=>Tot.mk
 exact Tot.cond (fun _=>Tot.mk) fun _=>Tot.mk
def SmallS(s:LSchema):Prop:=∀t∈s.tables,t.primaryKey.length<=10000000
theorem validate_inv{s:LSchema}(hsm:∀t∈s.tables,t.primaryKey.length<=2^60):∃e,gg s=some e/\(e=0->s.tables.length<=6/\∀t∈s.tables,TableOk t):=by
 unfold gg;rw[bM];cases ht:(cond (decide ((s.tables.length:Int)>(6:Int))) true (cond (decide ((s.foreignKeys.length:Int)>(8:Int))) true (decide ((s.constraints.length:Int)>(8:Int)))))with
 |true=>exact⟨2,rfl,fun h=>by omega⟩
 |false=>
 rw[zd]
 have h6:s.tables.length<=6:=by
  by_cases h:(s.tables.length:Int)>6
  ·rw[zt h]at ht;cases ht
  ·omega
 obtain⟨fl,hfl,hr⟩:=fI (step:=fun(j2:Nat) (x2:LTable) (_:Unit)=>
   af (fY x2) fun x37=>cond (x37 !=(0:Int)) (some (Flow.ret (σ:=Unit) x37)) (cond (decide ((j2:Int)>(0:Int)))
     (af (aP s.tables (Iw ((j2:Int)-(1:Int)))) fun(x50:LTable)=>cond (Op.bytesLess x2.name x50.name||x2.name==x50.name) (some (.ret 6)) (some (.next ()))) (some (.next ())))) (fun j _=>∀k x,k<j->s.tables[k]? =some x->TableOk x) (fun r=>r≠0) s.tables 0 () (fun k x h=>by omega) (fun k x st hk hI=>by
    simp only[Nat.zero_add]at hI⊢
    obtain⟨e,he,hok⟩:=validTable x (hsm x (eM hk))
    rw[he,bPs];by_cases h0:e=0
    ·have next:∀k' x',k'<k+1->s.tables[k']? =some x'->TableOk x':=fun k' x' h1 h2=>by
      by_cases heq:k'=k
      ·subst heq;rw[hk]at h2;cases h2;exact hok h0
      ·exact hI k' x' (by omega) h2
     rw[show(e !=(0:Int))=false from by simp[h0],zd];by_cases a3:(k:Int)>0
     ·have hkl:=(zg.1 hk).1;rw[zt a3,wW (by omega) (by omega)]
      obtain⟨y,hy⟩:=Tot.get (xs:=s.tables) (i:=(k:Int)-1) (by omega) (by omega)
      rw[zc,hy,bPs]
      cases(Op.bytesLess x.name y.name||x.name==y.name)with
      |true=>exact⟨.ret 6,rfl,by simp⟩
      |false=>exact⟨.next (),rfl,next⟩
     ·exact⟨.next (),by rw[zf a3];rfl,next⟩
    ·exact⟨.ret e,by rw[show(e !=(0:Int))=true from by simp[h0]];rfl,h0⟩)
 rw[hfl,bPs];cases fl with
 |brk s=>exact absurd hr (by simp)
 |ret r=>exact⟨r,rfl,fun h=>absurd h hr⟩
 |next u=>
  rw[jR];simp only[Nat.zero_add]at hr
  have hok:∀t∈s.tables,TableOk t:=fun t ht=>by
   obtain⟨k,hk,rfl⟩:=List.mem_iff_getElem.1 ht
   exact hr k _ hk (ze hk)
  refine(show∀{o:Option Int},Tot o->∃e,o=some e/\(e=0->s.tables.length<=6/\∀t∈s.tables,TableOk t)from fun⟨e,h⟩=>⟨e,h,fun _=>⟨h6,hok⟩⟩) ?_
  refine Tot.bind (Tot.range _ _ _ fun k x st hk=>?_) fun fl _=>Tot.thenR fun _ _=>?_
  ·refine Tot.bind (foreignKey_tot hok x) fun e _=>Tot.cond (fun _=>Tot.mk) fun _=>?_
   have hkl:=(zg.1 hk).1;refine Tot.bind (Tot.sub ⟨by omega,by omega,by omega⟩) fun l _=>?_
   exact Tot.bind (fkIn_tot l x) fun _ _=>Tot.cond (fun _=>Tot.mk) fun _=>Tot.mk
  ·refine Tot.bind (Tot.range _ _ _ fun k x st hk=>?_) fun fl _=>Tot.thenR fun _ _=>Tot.mk
   refine Tot.bind (constraint_tot s x) fun e _=>Tot.cond (fun _=>Tot.mk) fun _=>?_
   have hkl:=(zg.1 hk).1;refine Tot.bind (Tot.sub ⟨by omega,by omega,by omega⟩) fun l _=>?_
   exact Tot.bind (csIn_tot l x) fun _ _=>Tot.cond (fun _=>Tot.mk) fun _=>Tot.mk
def rF(cols:List LCol)(row:Rq):Prop:=row.length=cols.length/\∀(i:Nat) (c:LCol) (x:LVal),cols[i]? =some c->row[i]? =some x->FitsK x c.kind c.nullable
theorem validate_valid{v:LVal}(h:dH v=0):kX v=true:=by
 obtain⟨k,n,t⟩:=v
 unfold dH letP at h;unfold kX;by_cases k0:k=0
 ·subst k0;by_cases hn:n=0
  ·subst hn;cases t with
   |nil=>rfl
   |cons c t=>simp at h
  ·simp[mm hn]at h
 ·have e0:(k==(0:Int))=false:=by simpa using k0
  simp only[e0,zd]at h;by_cases k1:k=1
  ·subst k1;cases t with
   |cons c t=>simp at h
   |nil=>
    by_cases a:n< -1000000000000
    ·simp[a]at h
    ·by_cases b:n>1000000000000
     ·simp[a,b]at h
     ·simp;omega
  ·by_cases k2:k=2
   ·subst k2;cases t with
    |cons c t=>simp at h
    |nil=>
     by_cases a:n=0
     ·simp[a]
     ·by_cases b:n=1
      ·simp[b]
      ·simp[mm a,mm b]at h
   ·by_cases k3:k=3
    ·subst k3;by_cases a:n=0
     ·subst a;by_cases b:(t.length:Int)>24
      ·simp[b]at h
      ·simp;omega
     ·simp[mm a]at h
    ·have e1:(k==(1:Int))=false:=by simpa using k1
     have e2:(k==(2:Int))=false:=by simpa using k2
     have e3:(k==(3:Int))=false:=by simpa using k3
     simp[e1,e2,e3]at h
theorem uV(t:LTable)(row:Rq):∃e,et t row=some e/\(e=0->rF t.columns row):=by
 unfold et;by_cases hl:(row.length:Int)=(t.columns.length:Int)
 ·have hl':row.length=t.columns.length:=by omega
  rw[show((row.length:Int) !=(t.columns.length:Int))=false from by simp[hl],zd]
  obtain⟨fl,hfl,hr⟩:=fI (step:=fun(j1:Nat) (x1:LVal) (_:Unit)=>letP (dH x1) fun x22=>cond (x22 !=(0:Int)) (some (Flow.ret (σ:=Unit) x22))
    (af (cond (x1.kind==(0:Int)) (af (aP t.columns (j1:Int)) fun(x33:LCol)=>some (!x33.nullable)) (some false)) fun(t3:Bool)=>cond t3 (some (.ret 8))
     (cond (x1.kind !=(0:Int)) (af (aP t.columns (j1:Int)) fun(x47:LCol)=>cond (x1.kind !=x47.kind) (some (.ret 7)) (some (.next ()))) (some (.next ())))))
   (fun j _=>∀(k:Nat) (c:LCol) (x:LVal),k<j->t.columns[k]? =some c->row[k]? =some x->FitsK x c.kind c.nullable) (fun r=>r≠0) row 0 () (fun k c x h=>by omega) (fun k x st hk hI=>by
    simp only[Nat.zero_add]at hI⊢;have hkl:=(zg.1 hk).1;rw[bM,fJ (xs:=t.columns) (by omega)];by_cases hv:dH x=0
    ·rw[show(dH x !=(0:Int))=false from by simp[hv],zd];have hvv:=validate_valid hv
     have next:FitsK x t.columns[k].kind t.columns[k].nullable->∀(k':Nat) (c:LCol) (x':LVal),k'<k+1->t.columns[k']? =some c->row[k']? =some x'->FitsK x' c.kind c.nullable:=fun hf k' c x' h1 h2 h3=>by
      by_cases heq:k'=k
      ·subst heq;rw[hk]at h3;rw[ze (by omega)]at h2;cases h2;cases h3;exact hf
      ·exact hI k' c x' (by omega) h2 h3
     by_cases hx:x.kind=0
     ·rw[show(x.kind==(0:Int))=true from by simp[hx],zc,bPs,bPs];cases hn:t.columns[k].nullable with
      |false=>exact⟨.ret 8,rfl,by simp⟩
      |true=>exact⟨.next (),by simp[hx],next ⟨hvv,.inr hx,fun _=>hn⟩⟩
     ·rw[show(x.kind==(0:Int))=false from by simp[hx],zd,bPs,zd,show(x.kind !=(0:Int))=true from by simp[hx],zc,bPs];by_cases hk':x.kind=t.columns[k].kind
      ·exact⟨.next (),by rw[pB hk'];rfl,next ⟨hvv,.inl hk',fun h=>absurd h hx⟩⟩
      ·exact⟨.ret 7,by rw[mm hk'];rfl,by simp⟩
    ·exact⟨.ret (dH x),by rw[show(dH x !=(0:Int))=true from by simp[hv]];rfl,hv⟩)
  rw[hfl,bPs];cases fl with
  |brk s=>exact absurd hr (by simp)
  |ret r=>exact⟨r,rfl,fun h=>absurd h hr⟩
  |next s=>
   simp only[Nat.zero_add]at hr
   exact⟨0,rfl,fun _=>⟨hl',fun i c x hc hx=>hr i c x (zg.1 hx).1 hc hx⟩⟩
 ·exact⟨3,by rw[show((row.length:Int) !=(t.columns.length:Int))=true from by simp[hl]];rfl,fun h=>by omega⟩
theorem uv(t:LTable)(row:Rq)(hsm:t.primaryKey.length<=10000000):∃k,cZ t row=some k/\k.length=t.primaryKey.length:=by
 unfold cZ
 obtain⟨fl,hfl,hr⟩:=fI (step:=fun(_:Nat) (x1:Int) (s1:Rq)=>
  letP (cond (decide (x1>=(0:Int))) ((decide (x1<(row.length:Int)))) (false)) fun(t6:Bool)=>
  af (cond t6 (af (aP row x1) fun(x27:LVal)=>some x27) (some (LVal.mk 0 0 []))) fun(t7:LVal)=>
  af (cJ 32 s1 ([t7]:Rq)) fun(x32:Rq)=>some (Flow.next (ρ:=Empty) x32)) (fun j s=>s.length=j) (fun _=>False) t.primaryKey 0 ([]:Rq) Z (fun k x s hk hI=>by
   have hI:s.length=k:=by simpa using hI
   have hkl:=(zg.1 hk).1;rw[bM]
   have ht:∃v,(cond (cond (decide (x>=(0:Int))) ((decide (x<(row.length:Int)))) (false)) (af (aP row x) fun(x27:LVal)=>some x27) (some (LVal.mk 0 0 [])))=some v:=by
    refine Tot.cond (fun h=>?_) fun _=>Tot.mk
    by_cases h0:x>=0
    ·rw[zt h0]at h;exact Tot.bind (Tot.get h0 (of_decide_eq_true h)) fun _ _=>Tot.mk
    ·rw[zf h0]at h;cases h
   obtain⟨v,hv⟩:=ht
   rw[hv,bPs,bI (by decide) (by simp;omega),bPs]
   exact⟨_,rfl,by simp[hI]⟩)
 rw[hfl,bPs];cases fl with
 |brk s=>exact absurd hr (by simp)
 |ret r=>exact r.elim
 |next s=>exact⟨s,rfl,by simpa using hr⟩
theorem qY(a b:Rq)(ha:a.length<=10000000):Tot (dC a b):=by
 unfold dC
 have hm:∃n:Nat,(if(b.length:Int)<(a.length:Int)then(b.length:Int)else(a.length:Int))=(n:Int)/\n<=a.length/\n<=b.length:=by
  split
  ·exact⟨b.length,rfl,by omega,by omega⟩
  ·exact⟨a.length,rfl,by omega,by omega⟩
 obtain⟨n,hn,h1,h2⟩:=hm
 rw[hn,pp (by omega),bPs];refine Tot.bind (Tot.range _ _ _ fun k x s hk=>?_) fun fl _=>Tot.thenR fun _ _=>Tot.mk
 have hkl:=(zg.1 hk).1;simp at hkl;rw[Nat.zero_add,fJ (by omega),fJ (by omega)];simp only[bPs,bM];exact Tot.cond (fun _=>Tot.mk) fun _=>Tot.mk
def KeyOrd(t:LTable)(rows:Rz):Prop:=∀(i:Nat) (p row:Rq),rows[i]? =some p->rows[i+1]? =some row->∃k1 k2 z,cZ t p=some k1/\cZ t row=some k2/\dC k1 k2=some z/\z<0
structure InstOk(s:LSchema)(st:List LW):Prop where
 len:st.length=s.tables.length
 ord:∀(i:Nat) (r:LW) (t:LTable),st[i]? =some r->s.tables[i]? =some t->KeyOrd t r.rows
 tab:∀(i:Nat) (r:LW) (t:LTable),st[i]? =some r->s.tables[i]? =some t->r.table=t.name/\r.rows.length<=24/\∀row∈r.rows,rF t.columns row
theorem conforms{s:LSchema}(hsm:SmallS s)(st:List LW):∃e,eH s st=some e/\(e=0->InstOk s st):=by
 unfold eH;by_cases hl:(st.length:Int)=(s.tables.length:Int)
 ·have hl':st.length=s.tables.length:=by omega
  rw[show((st.length:Int) !=(s.tables.length:Int))=false from by simp[hl],zd]
  let good:LW->LTable->Prop:=fun r t=>(r.table=t.name/\r.rows.length<=24/\∀row∈r.rows,rF t.columns row)/\KeyOrd t r.rows
  obtain⟨fl,hfl,hr⟩:=fI (step:=fun(j1:Nat) (x1:LW) (_:Unit)=>
   af (aP s.tables (j1:Int)) fun(x28:LTable)=>
   cond (!(x1.table==x28.name)) (some (Flow.ret (σ:=Unit) (3:Int))) (cond (decide ((x1.rows.length:Int)>(24:Int))) (some (.ret 2))
     (af (aN (σ:=Unit) (ρ:=(Int)) (fun(j3:Nat) (x3:Rq) (_:Unit)=>
      af (et x28 x3) fun x49=>cond (x49 !=(0:Int)) (some (.ret x49)) (cond ((j3:Int)==(0:Int)) (some (.next ()))
        (af (aP x1.rows (Iw ((j3:Int)-(1:Int)))) fun(x60:Rq)=>af (cZ x28 x60) fun x62=>af (cZ x28 x3) fun x65=>af (dC x62 x65) fun x66=>
        cond (x66==(0:Int)) (some (.ret 9)) (cond (decide (x66>(0:Int))) (some (.ret 6)) (some (.next ())))))) 0 x1.rows ()) fun fl3=>fl3.thenF fun(_:Unit)=>some (.next ()))))
   (fun j _=>∀(k:Nat) (r:LW) (t:LTable),k<j->st[k]? =some r->s.tables[k]? =some t->good r t) (fun r=>r≠0) st 0 () (fun k r t h=>by omega) (fun k r u hk hI=>by
    simp only[Nat.zero_add]at hI⊢;have hkl:=(zg.1 hk).1;have hkt:k<s.tables.length:=by omega
    rw[fJ hkt,bPs];by_cases hn:r.table=s.tables[k].name
    ·rw[show(!(r.table==s.tables[k].name))=false from by simp[hn],zd];by_cases h24:(r.rows.length:Int)>24
     ·exact⟨.ret 2,by rw[zt h24];rfl,by simp⟩
     ·rw[zf h24,zd];have hsk:=hsm s.tables[k] (List.getElem_mem _)
      obtain⟨fl,hfl,hr⟩:=fI (step:=fun(j3:Nat) (x3:Rq) (_:Unit)=>
       af (et s.tables[k] x3) fun x49=>cond (x49 !=(0:Int)) (some (Flow.ret (σ:=Unit) x49)) (cond ((j3:Int)==(0:Int)) (some (.next ()))
        (af (aP r.rows (Iw ((j3:Int)-(1:Int)))) fun(x60:Rq)=>af (cZ s.tables[k] x60) fun x62=>af (cZ s.tables[k] x3) fun x65=>af (dC x62 x65) fun x66=>
        cond (x66==(0:Int)) (some (.ret 9)) (cond (decide (x66>(0:Int))) (some (.ret 6)) (some (.next ())))))) (fun j _=>(∀i row,i<j->r.rows[i]? =some row->rF s.tables[k].columns row)/\∀(i:Nat) (p row:Rq),i+1<j->r.rows[i]? =some p->r.rows[i+1]? =some row->∃k1 k2 z,cZ s.tables[k] p=some k1/\cZ s.tables[k] row=some k2/\dC k1 k2=some z/\z<0) (fun r=>r≠0) r.rows 0 () ⟨fun i row h=>by omega,fun i p row h=>by omega⟩ (fun i row u hi hI2=>by
        simp only[Nat.zero_add]at hI2⊢;have hil:=(zg.1 hi).1
        obtain⟨e,he,hok⟩:=uV s.tables[k] row
        rw[he,bPs];by_cases h0:e=0
        ·rw[show(e !=(0:Int))=false from by simp[h0],zd]
         have next:∀i' row',i'<i+1->r.rows[i']? =some row'->rF s.tables[k].columns row':=fun i' row' h1 h2=>by
          by_cases heq:i'=i
          ·subst heq;rw[hi]at h2;cases h2;exact hok h0
          ·exact hI2.1 i' row' (by omega) h2
         by_cases hi0:i=0
         ·exact⟨.next (),by simp[hi0],next,fun i' p row' h1=>by omega⟩
         ·rw[show((i:Int)==(0:Int))=false from by simp;omega,zd,wW (by omega) (by omega)]
          obtain⟨p,hp⟩:=Tot.get (xs:=r.rows) (i:=(i:Int)-1) (by omega) (by omega)
          obtain⟨k1,hk1,hl1⟩:=uv s.tables[k] p hsk
          obtain⟨k2,hk2,_⟩:=uv s.tables[k] row hsk
          obtain⟨z,hz⟩:=qY k1 k2 (by omega)
          rw[hp,bPs,hk1,bPs,hk2,bPs,hz,bPs];by_cases z0:z=0
          ·exact⟨.ret 9,by rw[lO z0];rfl,by simp⟩
          ·by_cases z1:z>0
           ·exact⟨.ret 6,by rw[dt z0,zt z1];rfl,by simp⟩
           ·refine⟨.next (),by rw[dt z0,zf z1];rfl,next,fun i' p' row' h1 h2 h3=>?_⟩
            by_cases heq:i'+1=i
            ·subst heq;rw[hi]at h3;cases h3;have hp':=(gIs hp).2;rw[show(((i'+1:Nat):Int)-1).toNat=i' from by omega,h2]at hp';cases hp'
             exact⟨k1,k2,z,hk1,hk2,hz,by omega⟩
            ·exact hI2.2 i' p' row' (by omega) h2 h3
        ·exact⟨.ret e,by rw[show(e !=(0:Int))=true from by simp[h0]];rfl,h0⟩)
      rw[hfl,bPs];cases fl with
      |brk s=>exact absurd hr (by simp)
      |ret e=>exact⟨.ret e,rfl,hr⟩
      |next s'=>
       simp only[Nat.zero_add]at hr
       refine⟨.next (),rfl,fun k' r' t' h1 h2 h3=>?_⟩
       by_cases heq:k'=k
       ·subst heq;rw[hk]at h2;rw[ze hkt]at h3;cases h2;cases h3
        refine⟨⟨hn,by omega,fun row hrow=>?_⟩,fun i p row h2 h3=>hr.2 i p row (zg.1 h3).1 h2 h3⟩
        obtain⟨i,hi,rfl⟩:=List.mem_iff_getElem.1 hrow
        exact hr.1 i _ hi (ze hi)
       ·exact hI k' r' t' (by omega) h2 h3
    ·exact⟨.ret 3,by rw[show(!(r.table==s.tables[k].name))=true from by simp[hn]];rfl,by simp⟩)
  rw[hfl,bPs];cases fl with
  |brk s=>exact absurd hr (by simp)
  |ret r=>exact⟨r,rfl,fun h=>absurd h hr⟩
  |next u=>
   simp only[Nat.zero_add]at hr
   exact⟨0,rfl,fun _=>⟨hl',fun i r t h1 h2=>(hr i r t (zg.1 h1).1 h1 h2).2,fun i r t h1 h2=>(hr i r t (zg.1 h1).1 h1 h2).1⟩⟩
 ·exact⟨3,by rw[show((st.length:Int) !=(s.tables.length:Int))=true from by simp[hl]];rfl,fun h=>by omega⟩
theorem tW(l:List Int)(v:Int):ef l v=some (l.any fun x=>v==x):=by
 unfold ef iX;rw[idxF2 (p:=fun x=>v==x),bPs,jy]
theorem shape1(l:List Int)(q:LQuery):dU l q=some (l.any fun x=>q.kind==x):=by
 unfold dU;rw[tW,bPs]
def qx(k:Int):Nat:=if k=1 then 0 else if k=4\/k=5\/k=6\/k=7 then 2 else 1
def mB(q:LQuery):Bool:=
 decide (1<=q.kind)&&decide (q.kind<=10)&&decide (q.inputs.length=qx q.kind)&&(q.kind==1||q.table==[])&&(q.kind==3||q.kind==8||decide (q.names.length=0))&&
 (q.kind==8||decide (q.aggregates.length=0))&&(q.kind==9||decide (q.descending.length=0))&&(q.kind==10||(q.count==0&&q.offset==0))&&
 (if q.kind=2\/q.kind=4\/q.kind=5 then decide (q.exprs.length=1)
  else if q.kind=3\/q.kind=8 then decide (q.exprs.length=q.names.length)&&decide (0<q.exprs.length+q.aggregates.length)
  else if q.kind=9 then decide (q.exprs.length=q.descending.length)&&decide (0<q.exprs.length)
  else if q.kind=10 then decide (q.exprs.length=0)&&decide (q.count>=0)&&decide (q.offset>=0)
  else decide (q.exprs.length=0))
theorem natE(a b:Nat):((a:Int)==(b:Int))=decide (a=b):=by
 by_cases h:a=b
 ·simp[h]
 ·rw[zf h];exact dt (by omega)
theorem natNE(a b:Nat):((a:Int) !=(b:Int))= !decide (a=b):=by rw[bne,natE]
theorem natPos(a:Nat):decide ((a:Int)>0)= !decide (a=0):=by
 by_cases h:a=0
 ·simp[h]
 ·rw[zf h,zt (by omega)];rfl
theorem condSome{α:Type}(b:Bool)(x y:α):(cond b (some x) (some y))=some (cond b x y):=by cases b<;>rfl
theorem shape_eq(q:LQuery)(hs:q.exprs.length<=10000000/\q.aggregates.length<=10000000):lC q=some (mB q):=by
 unfold lC;simp only[shape1,bPs];by_cases k0:q.kind<1
 ·rw[zt k0];simp[mB,show ¬(1<=q.kind)from by omega]
 rw[zf k0];by_cases k10:q.kind>10
 ·rw[zt k10];simp[mB,show ¬(q.kind<=10)from by omega]
 rw[zf k10];have hw:Iw ((q.exprs.length:Int)+(q.aggregates.length:Int))=((q.exprs.length+q.aggregates.length:Nat):Int):=by rw[wW (by omega) (by omega)];simp
 rw[hw];have hk:q.kind=1\/q.kind=2\/q.kind=3\/q.kind=4\/q.kind=5\/q.kind=6\/q.kind=7\/q.kind=8\/q.kind=9\/q.kind=10:=by omega
 unfold mB;have e0:∀n:Nat,((n:Int)==0)=decide (n=0):=fun n=>natE n 0
 have e1:∀n:Nat,((n:Int)==1)=decide (n=1):=fun n=>natE n 1
 have n0:∀n:Nat,((n:Int) !=0)= !decide (n=0):=fun n=>natNE n 0
 have n1:∀n:Nat,((n:Int) !=1)= !decide (n=1):=fun n=>natNE n 1
 have n2:∀n:Nat,((n:Int) !=2)= !decide (n=2):=fun n=>natNE n 2
 have c0:(q.count !=0)= !(q.count==0):=rfl;have o0:(q.offset !=0)= !(q.offset==0):=rfl;have p0:decide (0<q.exprs.length)= !decide (q.exprs.length=0):=by rw[<-natPos];simp
 have p1:decide (0<q.exprs.length+q.aggregates.length)= !decide (q.exprs.length+q.aggregates.length=0):=by rw[<-natPos];simp;omega
 simp only[natPos,natE,e0,e1,c0,o0,p0,p1]
 generalize(q.table==[])=b1
 generalize decide (q.names.length=0)=b2;generalize decide (q.aggregates.length=0)=b3;generalize decide (q.descending.length=0)=b4
 generalize(q.count==0)=b5
 generalize(q.offset==0)=b6
 generalize decide (q.exprs.length=1)=b7;generalize decide (q.exprs.length=q.names.length)=b8;generalize decide (q.exprs.length+q.aggregates.length=0)=b9;generalize decide (q.exprs.length=q.descending.length)=b10;generalize decide (q.exprs.length=0)=b11;generalize decide (q.count>=0)=b12;generalize decide (q.offset>=0)=b13;generalize hL:q.inputs.length=L;rcases hk with h|h|h|h|h|h|h|h|h|h<;>rw[h]
 all_goals simp only[qx,aP,n0,n1,n2]
 all_goals simp[n0,n1,n2,condSome,Bool.and_assoc]
def e0Q(q:LQuery):LExpr:=q.exprs.headD (.mk 1 [] 0 .nul [])
def kd(a b:List LCol)(left:Bool):List LCol:=a++b.map fun x=>⟨x.name,x.kind,x.nullable||left⟩
def lL(kind:Int)(a b:List LCol):List LCol×Int:=
 if a.length=b.length/\a.map LCol.kind=b.map LCol.kind then(List.zipWith (fun x y=>⟨x.name,x.kind,x.nullable||(kind==6&&y.nullable)⟩) a b,0)else([],7)
def cP(vars cols:List LCol):List LExpr->Rs->List LCol×Int
 |e::es,n::ns=>if ep n=false then([],3)else if(fq cols vars e).2.2≠0 then([],(fq cols vars e).2.2)else if(fq cols vars e).1=0 then([],7)
  else if(cP vars cols es ns).2≠0 then([],(cP vars cols es ns).2)else(⟨n,(fq cols vars e).1,(fq cols vars e).2.1⟩::(cP vars cols es ns).1,0)
 |_,_=>([],0)
abbrev lD:Rb:=[99,111,117,110,116]
abbrev sSum:Rb:=[115,117,109]
abbrev sMin:Rb:=[109,105,110]
abbrev sMax:Rb:=[109,97,120]
def aggQ(vars cols:List LCol)(a:LA):Int×Int:=
 if ep a.name=false\/¬a.function∈[lD,sSum,sMin,sMax]\/1<a.args.length\/(a.args.length<1/\a.function≠lD)then(0,3)
 else match a.args with
  |[]=>(1,0)
  |e::_=>if(fq cols vars e).2.2≠0 then(0,(fq cols vars e).2.2)else if(fq cols vars e).1=0\/(a.function=sSum/\(fq cols vars e).1≠1)then(0,7)
   else if a.function=lD then(1,0)else((fq cols vars e).1,0)
def eP(vars cols:List LCol):List LA->List LCol×Int
 |[]=>([],0)
 |a::l=>if(aggQ vars cols a).2≠0 then([],(aggQ vars cols a).2)else if(eP vars cols l).2≠0 then([],(eP vars cols l).2)
  else(⟨a.name,(aggQ vars cols a).1,!(a.function==lD)⟩::(eP vars cols l).1,0)
def nA(vars cols:List LCol)(q:LQuery):List LCol×Int:=
 if(cP vars cols q.exprs q.names).2≠0 then([],(cP vars cols q.exprs q.names).2)
 else if(eP vars cols q.aggregates).2≠0 then([],(eP vars cols q.aggregates).2)
 else((cP vars cols q.exprs q.names).1++(eP vars cols q.aggregates).1,0)
def kw(vars cols:List LCol):List LExpr->Int
 |[]=>0
 |e::l=>if(fq cols vars e).2.2≠0 then(fq cols vars e).2.2 else kw vars cols l
def jD(c:LChecker)(q:LQuery)(ins:List (List LCol)):List LCol×Int:=
 if q.kind=1 then(match c.s.tables.find? fun t=>t.name==q.table with|some t=>(t.columns,0)|none=>([],4))
 else if q.kind=2 then(ins.getD 0 [],el c (ins.getD 0 []) (e0Q q))
 else if q.kind=4\/q.kind=5 then(kd (ins.getD 0 []) (ins.getD 1 []) (q.kind==5),el c (kd (ins.getD 0 []) (ins.getD 1 []) (q.kind==5)) (e0Q q))
 else if q.kind=6\/q.kind=7 then lL q.kind (ins.getD 0 []) (ins.getD 1 [])
 else if q.kind=3\/q.kind=8 then nA c.vars (ins.getD 0 []) q
 else if q.kind=9 then(if kw c.vars (ins.getD 0 []) q.exprs≠0 then([],kw c.vars (ins.getD 0 []) q.exprs)else(ins.getD 0 [],0))
 else(ins.getD 0 [],0)
theorem find_idx{α:Type}(p:α->Bool)(l:List α):(l.find? p=none/\bg p l=-1)\/∃x,l.find? p=some x/\0<=bg p l/\l[(bg p l).toNat]? =some x:=by
 induction l with
 |nil=>exact .inl ⟨rfl,rfl⟩
 |cons a l ih=>
  by_cases h:p a=true
  ·right
   exact⟨a,by simp[List.find?_cons,h],by unfold bg;simp[List.findIdx?_cons,h],by unfold bg;simp[List.findIdx?_cons,h]⟩
  ·have h:p a=false:=by simpa using h
   have hi:bg p (a::l)=if bg p l<0 then-1 else bg p l+1:=by
    unfold bg;simp only[List.findIdx?_cons,h,Bool.false_eq_true,if_false];cases l.findIdx? p with
    |none=>rfl
    |some i=>rw[zy (by simp only;omega)];simp
   rw[List.find?_cons,h,hi];rcases ih with⟨h1,h2⟩|⟨x,h1,h2,h3⟩
   ·left;exact⟨h1,by rw[h2];rfl⟩
   ·right
    refine⟨x,h1,by split<;>omega,?_⟩
    rw[zy (by omega),show(bg p l+1).toNat=(bg p l).toNat+1 from by omega,List.getElem?_cons_succ,h3]
theorem set_ok(kind:Int)(a b:List LCol):jx kind a b=some (lL kind a b):=by
 unfold jx lL;by_cases hl:a.length=b.length
 ·rw[natNE,zt hl];simp only[Bool.not_true,zd]
  let z:LCol->LCol->LCol:=fun x y=>⟨x.name,x.kind,x.nullable||(kind==6&&y.nullable)⟩
  obtain⟨fl,hfl,hr⟩:=fI (step:=fun(j1:Nat) (x1:LCol) (s1:List LCol)=>
   af (aP b (j1:Int)) fun(x29:LCol)=>cond (x1.kind !=x29.kind) (some (Flow.ret (([],7):List LCol×Int)))
    (cond x1.nullable (af (aP s1 (j1:Int)) fun(x51:LCol)=>letP (s1.set ((j1:Int).toNat) (LCol.mk x51.name x51.kind true)) fun(y8:List LCol)=>some (.next y8))
     (cond (kind==(6:Int)) (af (aP b (j1:Int)) fun(x46:LCol)=>af (aP s1 (j1:Int)) fun(x51:LCol)=>letP (s1.set ((j1:Int).toNat) (LCol.mk x51.name x51.kind x46.nullable)) fun(y9:List LCol)=>some (.next y9))
      (af (aP s1 (j1:Int)) fun(x51:LCol)=>letP (s1.set ((j1:Int).toNat) (LCol.mk x51.name x51.kind false)) fun(y10:List LCol)=>some (.next y10)))))
   (fun j s=>s=(List.zipWith z a b).take j++a.drop j/\(a.take j).map LCol.kind=(b.take j).map LCol.kind) (fun r=>r=([],7)/\a.map LCol.kind≠b.map LCol.kind) a 0 a ⟨by simp,rfl⟩ (fun k x s hk hI=>by
    simp only[Nat.zero_add]at hI⊢;have hka:=(zg.1 hk).1;have hxe:=(zg.1 hk).2;have hkb:k<b.length:=by omega
    rw[fJ hkb,bPs,bPs];by_cases hkk:x.kind=b[k].kind
    ·have hzl:((List.zipWith z a b).take k).length=k:=by simp;omega
     have hs:s[k]? =some x:=by
      rw[hI.1,List.getElem?_append_right (by omega),hzl,Nat.sub_self,List.getElem?_drop,Nat.add_zero,hk]
     have hkinds:(a.take (k+1)).map LCol.kind=(b.take (k+1)).map LCol.kind:=by
      rw[List.take_add_one,List.take_add_one,hk,ze hkb,List.map_append,List.map_append,hI.2];congr 1;show [x.kind]=[b[k].kind];rw[hkk]
     have hset:∀v:LCol,v=z x b[k]->s.set k v=(List.zipWith z a b).take (k+1)++a.drop (k+1):=by
      intro v hv;rw[hI.1,List.set_append_right _ _ (by omega),hzl,Nat.sub_self];rw[List.drop_eq_getElem_cons hka,List.set_cons_zero,List.take_add_one,List.append_assoc];congr 1;rw[List.getElem?_zipWith,hk,ze hkb];simp[hv]
     rw[pB hkk,zd,ji hs];simp only[bPs,bM,Int.toNat_natCast];cases hx:x.nullable with
     |true=>exact⟨_,rfl,hset _ (by simp[z,hx]),hkinds⟩
     |false=>
      by_cases h6:kind=6
      ·exact⟨.next _,by rw[lO h6];rfl,hset _ (by simp[z,hx,h6]),hkinds⟩
      ·exact⟨.next _,by rw[dt h6];rfl,hset _ (by simp[z,hx,h6]),hkinds⟩
    ·refine⟨.ret ([],7),by rw[mm hkk];rfl,rfl,fun he=>hkk ?_⟩
     have:=congrArg (fun l=>l[k]?) he
     simp only[List.getElem?_map,hk,ze hkb,Option.map_some,zo]at this;exact this)
  rw[hfl,bPs];cases fl with
  |brk s=>exact absurd hr (by simp)
  |ret r=>rw[hr.1,zy (fun h=>hr.2 h.2)];rfl
  |next s=>
   simp only[Nat.zero_add]at hr;rw[jR,hr.1,zp ⟨hl,by have:=hr.2;rwa [List.take_length,hl,List.take_length]at this⟩]
   have:(List.zipWith z a b).take a.length=List.zipWith z a b:=List.take_of_length_le (by simp;omega)
   rw[this,List.drop_length,List.append_nil]
 ·rw[natNE,zf hl,zy (fun h=>hl h.1)];rfl
theorem pY{α:Type}{l:List α}{d:α}(h:0<l.length):aP l 0=some (l.getD 0 d):=by
 cases l with
 |nil=>simp at h
 |cons a l=>rfl
theorem getD1{α:Type}{l:List α}{d:α}(h:1<l.length):aP l 1=some (l.getD 1 d):=by
 match l with
 |[]=>simp at h
 |[_]=>simp at h
 |a::b::l=>rfl
theorem e0_get{q:LQuery}(h:0<q.exprs.length):aP q.exprs 0=some (e0Q q):=by
 unfold e0Q;cases hq:q.exprs with
 |nil=>rw[hq]at h;simp at h
 |cons a l=>rfl
theorem containsS(l:Rs)(v:Rb):cw l v=some (decide (v∈l)):=by
 unfold cw fh;rw[idxF2 (p:=fun x=>v==x),bPs,jy];congr 1;by_cases h:v∈l
 ·rw[zt h,List.any_eq_true];exact⟨v,h,by simp⟩
 ·rw[zf h,List.any_eq_false];intro x hx he;exact h (by simp at he;rwa [he])
theorem agg_eq(c:LChecker)(cols:List LCol)(a:LA):hJ c cols a=some (aggQ c.vars cols a):=by
 unfold hJ aggQ;simp only[bM,containsS,bPs];by_cases h1:ep a.name=false
 ·simp[h1]
 have h1':ep a.name=true:=by simpa using h1
 by_cases h2:a.function∈[lD,sSum,sMin,sMax]
 ·rw[zt (show a.function∈([[99,111,117,110,116],[115,117,109],[109,105,110],[109,97,120]]:Rs)from h2)];cases ha:a.args with
  |nil=>
   by_cases h3:a.function=lD
   ·simp[h1',h3]
   ·have h3':(a.function==([99,111,117,110,116]:Rb))=false:=by simpa using h3
    simp[h1',h3,h2,h3']
  |cons e l=>
   cases l with
   |cons e2 l=>
    have:(1:Int)<(l.length:Int)+1+1:=by omega
    simp[h1',h2,this]
   |nil=>
    simp only[h1',Bool.not_true,zd,List.length_singleton];have hno:¬(True=False\/¬a.function∈[lD,sSum,sMin,sMax]\/1<1\/(1<1/\a.function≠lD)):=by simp[h2]
    simp only[aP];by_cases h4:(fq cols c.vars e).2.2=0
    ·by_cases h5:(fq cols c.vars e).1=0
     ·simp[h2,h4,h5]
     ·by_cases h6:a.function=sSum
      ·by_cases h7:(fq cols c.vars e).1=1
       ·simp[h2,h4,h6,h7]
       ·simp[h2,h4,h5,h6,h7,mm h7]
      ·have h6':(a.function==([115,117,109]:Rb))=false:=by simpa using h6
       by_cases h8:a.function=lD
       ·simp[h2,h4,h5,h8,dt h5]
       ·have h8':(a.function==([99,111,117,110,116]:Rb))=false:=by simpa using h8
        simp[h2,h4,h5,h6,h8,h6',h8',dt h5]
    ·simp[h2,h4,mm h4]
 ·rw[zf (show ¬a.function∈([[99,111,117,110,116],[115,117,109],[109,105,110],[109,97,120]]:Rs)from h2)];simp[h1',h2]
theorem namedE_run(vars cols:List LCol)(names:Rs):∀(es:List LExpr) (j:Nat) (s:List LCol),es.length+j=names.length->s.length+es.length<=10000000->
  ∀k:List LCol->Option (List LCol×Int),af (aN (σ:=List LCol) (ρ:=((List LCol)×Int)) (fun(j1:Nat) (x1:LExpr) (s1:List LCol)=>
  letP (fq cols vars x1) fun x31=>
  af (aP names (j1:Int)) fun(x39:Rb)=>
  letP (ep x39) fun x41=>
  cond (!x41)
   (some (.ret ([],3)))
   (cond (x31.2.2 !=(0:Int))
    (some (.ret ([],x31.2.2)))
    (cond (x31.1==(0:Int))
     (some (.ret ([],7)))
     (af (aP names (j1:Int)) fun(x54:Rb)=>
     af (cJ 32 s1 ([(LCol.mk x54 x31.1 x31.2.1)]:List LCol)) fun(x60:List LCol)=>
     some (.next x60))))) j es s) (fun fl1=>fl1.thenR k)=if(cP vars cols es (names.drop j)).2≠0 then some ([],(cP vars cols es (names.drop j)).2)else k (s++(cP vars cols es (names.drop j)).1)
 |[],j,s,_,_,k=>by simp[aN,cP]
 |e::es,j,s,hl,hb,k=>by
  have hj:j<names.length:=by simp at hl;omega
  rw[aN,List.drop_eq_getElem_cons hj,cP,bM,fJ hj,bPs,bM];cases h1:ep names[j]with
  |false=>simp
  |true=>
   simp only[Bool.not_true,zd,Bool.true_eq_false,if_false];by_cases h2:(fq cols vars e).2.2=0
   ·rw[pB h2,zd];simp only[h2,ne_eq,not_true_eq_false,if_false];by_cases h3:(fq cols vars e).1=0
    ·rw[lO h3];simp[h3]
    ·rw[dt h3,zd,bPs,bI (by decide) (by simp at hb⊢;omega),bPs];simp only[h3,if_false];rw[namedE_run vars cols names es (j+1) _ (by simp at hl;omega) (by simp at hb⊢;omega) k];by_cases h4:(cP vars cols es (names.drop (j+1))).2=0
     ·simp[h4]
     ·simp[h4]
   ·rw[mm h2];simp[h2]
theorem namedA_run(c:LChecker)(cols:List LCol):∀(l:List LA) (j:Nat) (s:List LCol),s.length+l.length<=10000000->
  af (aN (σ:=List LCol) (ρ:=((List LCol)×Int)) (fun(_:Nat) (x2:LA) (s2:List LCol)=>
  af (hJ c cols x2) fun x73=>
  cond (x73.2 !=(0:Int))
   (some (.ret ([],x73.2)))
   (af (cJ 32 s2 ([(LCol.mk x2.name x73.1 (!(x2.function==([99,111,117,110,116]:Rb))))]:List LCol)) fun(x88:List LCol)=>
   some (.next x88))) j l s) (fun fl2=>fl2.thenR fun(s2:List LCol)=>some (s2,0))=some (if(eP c.vars cols l).2≠0 then([],(eP c.vars cols l).2)else(s++(eP c.vars cols l).1,0))
 |[],j,s,_=>by simp[aN,eP]
 |a::l,j,s,hb=>by
  rw[aN,eP,agg_eq,bPs];by_cases h1:(aggQ c.vars cols a).2=0
  ·rw[pB h1,zd,bI (by decide) (by simp at hb⊢;omega),bPs];simp only[h1,ne_eq,not_true_eq_false,if_false];rw[namedA_run c cols l (j+1) _ (by simp at hb⊢;omega)];by_cases h4:(eP c.vars cols l).2=0
   ·simp[h4]
   ·simp[h4]
  ·rw[mm h1];simp[h1]
theorem named_eq(c:LChecker)(q:LQuery)(cols:List LCol)(hl:q.exprs.length=q.names.length)(hb:q.exprs.length<=1000000/\q.aggregates.length<=1000000):fB c q cols=some (nA c.vars cols q):=by
 unfold fB nA;rw[namedE_run c.vars cols q.names q.exprs 0 [] (by omega) (by simp;omega),List.drop_zero];by_cases h:(cP c.vars cols q.exprs q.names).2=0
 ·have hlen:∀(es:List LExpr) (ns:Rs),(cP c.vars cols es ns).1.length<=es.length:=by
   intro es;induction es with
   |nil=>intro ns;simp[cP]
   |cons e es ih=>
    intro ns;cases ns with
    |nil=>simp[cP]
    |cons n ns=>
     simp only[cP];split
     ·simp
     ·split
      ·simp
      ·split
       ·simp
       ·split
        ·simp
        ·have:=ih ns;simp;omega
  simp only[h,ne_eq,not_true_eq_false,if_false,List.nil_append];rw[namedA_run c cols q.aggregates 0 _ (by have:=hlen q.exprs q.names;omega)]
 ·simp[h]
structure SmallQ(q:LQuery):Prop where
 nodes:(cY q).length<=10000000
 here:∀x∈cY q,x.exprs.length<=1000000/\x.aggregates.length<=1000000
theorem mem_nodes{q x y:LQuery}(h:x∈q.inputs)(hy:y∈cY x):y∈cY q:=by
 rw[kH];exact List.mem_cons_of_mem _ (List.mem_flatten.2 ⟨_,List.mem_map.2 ⟨x,h,rfl⟩,hy⟩)
theorem self_nodes(q:LQuery):q∈cY q:=by rw[kH];exact List.mem_cons_self
theorem SmallQ.sub{q x:LQuery}(h:SmallQ q)(hx:x∈q.inputs):SmallQ x:=
 ⟨by have:=nC hx;have:=h.nodes;omega,fun y hy=>h.here y (mem_nodes hx hy)⟩
theorem SmallQ.self{q:LQuery}(h:SmallQ q):q.exprs.length<=1000000/\q.aggregates.length<=1000000:=h.here q (self_nodes q)
structure ShapeOk(q:LQuery):Prop where
 kind:1<=q.kind/\q.kind<=10
 arity:q.inputs.length=qx q.kind
 one:q.kind=2\/q.kind=4\/q.kind=5->q.exprs.length=1
 named:q.kind=3\/q.kind=8->q.exprs.length=q.names.length
 aggs:q.kind≠8->q.aggregates=[]
 sorted:q.kind=9->q.exprs.length=q.descending.length
 limit:q.kind=10->0<=q.count/\0<=q.offset
theorem shape_ok{q:LQuery}(h:mB q=true):ShapeOk q:=by
 unfold mB at h;simp only[Bool.and_eq_true,decide_eq_true_eq]at h
 obtain⟨⟨⟨⟨⟨⟨⟨⟨h1,h2⟩,h3⟩,h4⟩,h5⟩,h6⟩,h7⟩,h8⟩,h9⟩:=h
 refine⟨⟨h1,h2⟩,h3,fun hk=>?_,fun hk=>?_,fun hk=>?_,fun hk=>?_,fun hk=>?_⟩
 ·rw[zp hk]at h9;simpa using h9
 ·rw[zy (by omega),zp hk]at h9;simp at h9;exact h9.1
 ·have:(q.kind==8)=false:=dt hk
  rw[this]at h6;simp at h6;exact h6
 ·rw[zy (by omega),zy (by omega),zp hk]at h9;simp at h9;exact h9.1
 ·rw[zy (by omega),zy (by omega),zy (by omega),zp hk]at h9;simp at h9;omega
theorem join_run(left:Bool):∀(b:List LCol) (j:Nat) (a:List LCol),a.length+b.length<=10000000->
  aN (σ:=List LCol) (ρ:=Empty) (fun(_:Nat) (x2:LCol) (s2:List LCol)=>cond x2.nullable
          (af (cJ 32 s2 ([(LCol.mk x2.name x2.kind true)]:List LCol)) fun(x76:List LCol)=>some (.next x76))
          (af (cJ 32 s2 ([(LCol.mk x2.name x2.kind left)]:List LCol)) fun(x76:List LCol)=>some (.next x76))) j b a=some (.next (kd a b left))
 |[],j,a,_=>by simp[aN,kd]
 |x::b,j,a,h=>by
  have step:(cond x.nullable (af (cJ 32 a ([(LCol.mk x.name x.kind true)]:List LCol)) fun(x76:List LCol)=>some (Flow.next (ρ:=Empty) x76))
    (af (cJ 32 a ([(LCol.mk x.name x.kind left)]:List LCol)) fun(x76:List LCol)=>some (.next x76)))=some (.next (a++[⟨x.name,x.kind,x.nullable||left⟩])):=by
   rw[bI (by decide) (by simp at h⊢;omega),bI (by decide) (by simp at h⊢;omega)];cases x.nullable<;>simp
  rw[aN,step];simp only;rw[join_run left b (j+1) _ (by simp at h⊢;omega)];simp[kd]
theorem sort_run(vars cols:List LCol)(ins:List (List LCol))(h0:aP ins 0=some cols):∀(es:List LExpr) (j:Nat) (k:Unit->Option (List LCol×Int)),
  af (aN (σ:=Unit) (ρ:=((List LCol)×Int)) (fun(_:Nat) (x5:LExpr) (_:Unit)=>af (aP ins 0) fun(x122:List LCol)=>letP (fq x122 vars x5) fun x127=>cond (x127.2.2 !=(0:Int)) (some (.ret ([],x127.2.2))) (some (.next ()))) j es ()) (fun fl5=>fl5.thenR k)=
   if kw vars cols es≠0 then some ([],kw vars cols es)else k ()
 |[],j,k=>by simp[aN,kw]
 |e::es,j,k=>by
  rw[aN,kw,h0,bPs,bM];by_cases h:(fq cols vars e).2.2=0
  ·rw[pB h,zd];simp only[h,ne_eq,not_true_eq_false,if_false];rw[<-h0];exact sort_run vars cols ins h0 es (j+1) k
  ·rw[mm h];simp[h]
theorem out_eq{c:LChecker}{q:LQuery}{ins:List (List LCol)}(hs:ShapeOk q)(hsm:SmallQ q)(hl:ins.length=q.inputs.length)(hb:∀l∈ins,l.length<=20):ja c q ins=some (jD c q ins):=by
 obtain⟨hk,ha,h1,hn,_,_,_⟩:=hs
 have hself:=hsm.self
 have hi:∀i,i<ins.length->(ins.getD i []).length<=20:=fun i hi=>by
  rw[List.getD_eq_getElem?_getD,ze hi];exact hb _ (List.getElem_mem hi)
 have e0:q.exprs.length=1->aP q.exprs 0=some (e0Q q):=fun h=>e0_get (by omega)
 unfold ja jD;have kk:q.kind=1\/q.kind=2\/q.kind=3\/q.kind=4\/q.kind=5\/q.kind=6\/q.kind=7\/q.kind=8\/q.kind=9\/q.kind=10:=by omega
 rcases kk with h|h|h|h|h|h|h|h|h|h
 ·rw[h,qS];simp only[bPs];rcases find_idx (fun a0=>fw a0 q) c.s.tables with⟨f1,f2⟩|⟨t,f1,f2,f3⟩
  ·have f1':c.s.tables.find? (fun t=>t.name==q.table)=none:=f1;rw[f2,f1'];rfl
  ·have f1':c.s.tables.find? (fun t=>t.name==q.table)=some t:=f1;rw[f1',zf (show ¬bg (fun a0=>fw a0 q) c.s.tables<0 from by omega),kY f2 f3];rfl
 all_goals rw[h]at ha
 all_goals simp only[qx]at ha
 ·have g0:aP ins 0=some (ins.getD 0 []):=pY (by simp at ha;omega);rw[h,g0,e0 (h1 (.inl h))];simp[bM]
 ·have g0:aP ins 0=some (ins.getD 0 []):=pY (by simp at ha;omega);rw[h,g0];simp only[bPs];rw[named_eq c q _ (hn (.inl h)) hself];simp[bM]
 ·have g0:aP ins 0=some (ins.getD 0 []):=pY (by simp at ha;omega);have g1:aP ins 1=some (ins.getD 1 []):=getD1 (by simp at ha;omega);rw[h,g0,g1,e0 (h1 (.inr (.inl h)))];simp only[bPs];rw[join_run ((4:Int)==5) _ 0 _ (by have:=hi 0 (by simp at ha;omega);have:=hi 1 (by simp at ha;omega);omega)];simp[bM]
 ·have g0:aP ins 0=some (ins.getD 0 []):=pY (by simp at ha;omega);have g1:aP ins 1=some (ins.getD 1 []):=getD1 (by simp at ha;omega);rw[h,g0,g1,e0 (h1 (.inr (.inr h)))];simp only[bPs];rw[join_run ((5:Int)==5) _ 0 _ (by have:=hi 0 (by simp at ha;omega);have:=hi 1 (by simp at ha;omega);omega)];simp[bM]
 ·have g0:aP ins 0=some (ins.getD 0 []):=pY (by simp at ha;omega);have g1:aP ins 1=some (ins.getD 1 []):=getD1 (by simp at ha;omega);rw[h,g0,g1];simp only[bPs,set_ok];simp[bM]
 ·have g0:aP ins 0=some (ins.getD 0 []):=pY (by simp at ha;omega);have g1:aP ins 1=some (ins.getD 1 []):=getD1 (by simp at ha;omega);rw[h,g0,g1];simp only[bPs,set_ok];simp[bM]
 ·have g0:aP ins 0=some (ins.getD 0 []):=pY (by simp at ha;omega);rw[h,g0];simp only[bPs];rw[named_eq c q _ (hn (.inr h)) hself];simp[bM]
 ·have g0:aP ins 0=some (ins.getD 0 []):=pY (by simp at ha;omega);rw[h,sort_run c.vars _ ins g0,g0];simp only[bM,bPs];by_cases hse:kw c.vars (ins.getD 0 []) q.exprs=0
  ·simp only[hse,ne_eq,not_true_eq_false,if_false];rfl
  ·simp only[hse,ne_eq,not_false_eq_true,if_true];rfl
 ·have g0:aP ins 0=some (ins.getD 0 []):=pY (by simp at ha;omega);rw[h,g0];simp[bM]
def eE:List (List LCol×Int)->List (List LCol)×Int
 |[]=>([],0)
 |r::l=>if r.2≠0 then([],r.2)else if(eE l).2≠0 then([],(eE l).2)else(r.1::(eE l).1,0)
def qu(c:LChecker)(q:LQuery)(ins:List (List LCol×Int)):List LCol×Int:=
 if mB q=false then([],3)else if(eE ins).2≠0 then([],(eE ins).2)
 else if(jD c q (eE ins).1).2≠0 then([],(jD c q (eE ins).1).2)
 else if 20<(jD c q (eE ins).1).1.length then([],2)
 else if((jD c q (eE ins).1).1.map LCol.name).Nodup then((jD c q (eE ins).1).1,0)else([],23)
def gz(c:LChecker)(q:LQuery):List LCol×Int:=qu c q (q.inputs.attach.map fun x=>gz c x.1)
termination_by SizeOf.sizeOf q
decreasing_by exact LQuery.inputs_lt x.2
theorem colsQ_eq(c:LChecker)(q:LQuery):gz c q=qu c q (q.inputs.map (gz c)):=by
 rw[gz,List.attach_map_val (f:=gz c)]
theorem uU(f:LQuery->Option (List LCol×Int))(g:LQuery->List LCol×Int):∀(l:List LQuery) (j:Nat) (s:List (List LCol)),(∀x∈l,f x=some (g x))->s.length+l.length<=10000000->∀k:List (List LCol)->Option (List LCol×Int),
  af (aN (σ:=List (List LCol)) (ρ:=((List LCol)×Int)) (fun(_:Nat) (x1:LQuery) (s1:List (List LCol))=>af (f x1) fun x28=>cond (x28.2 !=(0:Int)) (some (.ret ([],x28.2)))
    (af (cJ 24 s1 ([x28.1]:List (List LCol))) fun(x37:List (List LCol))=>some (.next x37))) j l s) (fun fl1=>fl1.thenR k)=
   if(eE (l.map g)).2≠0 then some ([],(eE (l.map g)).2)else k (s++(eE (l.map g)).1)
 |[],j,s,_,_,k=>by simp[aN,eE]
 |x::l,j,s,h,hb,k=>by
  rw[aN,h x (by simp),bPs,List.map_cons,eE];by_cases h1:(g x).2=0
  ·rw[pB h1,zd,bI (by decide) (by simp at hb⊢;omega),bPs];simp only[h1,ne_eq,not_true_eq_false,if_false];rw[uU f g l (j+1) _ (fun y hy=>h y (by simp[hy])) (by simp at hb⊢;omega) k];by_cases h2:(eE (l.map g)).2=0
   ·simp[h2]
   ·simp[h2]
  ·rw[mm h1];simp[h1]
theorem sI:∀{l:List (List LCol×Int)},(eE l).2=0->(∀r∈l,r.2=0)/\(eE l).1=l.map (·.1)
 |[],_=>⟨by simp,rfl⟩
 |r::l,h=>by
  simp only[eE]at h⊢;by_cases h1:r.2=0
  ·by_cases h2:(eE l).2=0
   ·obtain⟨a,b⟩:=sI h2
    refine⟨fun x hx=>?_,by simp[h1,h2,b]⟩
    rcases List.mem_cons.1 hx with rfl|hx
    ·exact h1
    ·exact a x hx
   ·simp[h1,h2]at h
  ·simp[h1]at h
theorem dup_run(out:List LCol):af (aN (σ:=Unit) (ρ:=((List LCol)×Int)) (fun(j2:Nat) (x2:LCol) (_:Unit)=>
     af (nK out 0 (j2:Int)) fun(x61:List LCol)=>
     af (cp x61 (fun a0=>some (cG a0 x2))) fun x63=>
     cond x63 (some (.ret ([],23))) (some (.next ()))) 0 out ()) (fun fl2=>fl2.thenR fun(_:Unit)=>some (out,0))=some (if(out.map LCol.name).Nodup then(out,0)else([],23)):=by
 obtain⟨fl,hfl,hr⟩:=fI (step:=fun(j2:Nat) (x2:LCol) (_:Unit)=>
     af (nK out 0 (j2:Int)) fun(x61:List LCol)=>
     af (cp x61 (fun a0=>some (cG a0 x2))) fun x63=>
     cond x63 (some (Flow.ret (([],23):List LCol×Int))) (some (.next ())))
  (fun j _=>((out.take j).map LCol.name).Nodup) (fun r=>r=([],23)/\¬(out.map LCol.name).Nodup) out 0 () (by simp) (fun k x s hk hI=>by
   simp only[Nat.zero_add]at hI⊢;have hkl:=(zg.1 hk).1;rw[rx ⟨by omega,by omega,by omega⟩,bPs];unfold cp;rw[sR,bPs,bPs,jy];simp only[Int.toNat_natCast,Int.toNat_zero,List.drop_zero];cases ha:(out.take k).any fun a0=>cG a0 x with
   |true=>
    refine⟨_,rfl,rfl,fun hnd=>?_⟩
    obtain⟨y,hy,he⟩:=List.any_eq_true.1 ha
    have he:y.name=x.name:=by simpa[cG]using he
    obtain⟨i,hi,hyi⟩:=List.mem_take_iff_getElem.1 hy
    have hii:i<k:=by omega
    rw[List.nodup_iff_pairwise_ne,List.pairwise_iff_getElem]at hnd;refine hnd i k (by simp;omega) (by simpa using hkl) hii ?_;simp only[List.getElem_map];rw[(zg.1 hk).2,hyi,he]
   |false=>
    refine⟨_,rfl,?_⟩
    simp only;rw[List.take_add_one,hk,List.map_append,List.nodup_append]
    refine⟨hI,by simp,fun a ha' b hb hab=>?_⟩
    simp at hb;subst hb;subst hab
    obtain⟨y,hy,he⟩:=List.mem_map.1 ha'
    have:=List.any_eq_false.1 ha y hy
    exact this (by simpa[cG]using he))
 rw[hfl,bPs];cases fl with
 |brk s=>exact absurd hr (by simp)
 |ret r=>rw[pU,hr.1,zy hr.2]
 |next s=>
  simp only[Nat.zero_add,List.take_length]at hr;rw[jR,zp hr]
theorem jT(c:LChecker)(q:LQuery):(gz c q).1.length<=20:=by
 rw[colsQ_eq];unfold qu
 repeat' split
 all_goals first|(simp;done)|(simp only;omega)
theorem cols_ok(c:LChecker):∀q:LQuery,SmallQ q->fL c q=some (gz c q):=by
 refine LQuery.ind fun q ih hsm=>?_
 refine qc (γ:=LChecker) (F:=fun n c q=>fK n c q) (O:=fun r c q=>fM r c q) (fun n=>rfl) c q ?_ (fun x hx=>⟨_,ih x hx (hsm.sub hx)⟩) ?_
 ·intro r r' h;simp only[fM];congr 1;funext b;congr 2;exact jv q.inputs 0 _ fun k x s hk=>by rw[h x (eM hk)]
 ·have e:∀c x,(ij fun n=>fK n c x)=fL c x:=fun _ _=>rfl
  simp only[fM,e];have hself:=hsm.self;rw[shape_eq q ⟨by omega,by omega⟩,bPs,colsQ_eq];unfold qu;cases hs:mB q with
  |false=>rfl
  |true=>
   have hok:=shape_ok hs;have hin:q.inputs.length<=2:=by rw[hok.arity];unfold qx;split<;>(try split)<;>omega
   simp only[Bool.not_true,zd,Bool.true_eq_false,if_false];rw[uU (fL c) (gz c) q.inputs 0 [] (fun x hx=>ih x hx (hsm.sub hx)) (by simp;omega),List.nil_append];by_cases h1:(eE (q.inputs.map (gz c))).2=0
   ·obtain⟨a,b⟩:=sI h1
    simp only[h1,ne_eq,not_true_eq_false,if_false]
    rw[out_eq hok hsm (by rw[b];simp) (fun l hl=>by
     rw[b]at hl
     obtain⟨r,hr,rfl⟩:=List.mem_map.1 hl
     obtain⟨x,_,rfl⟩:=List.mem_map.1 hr
     exact jT c x),bPs]
    generalize jD c q (eE (q.inputs.map (gz c))).1=o;by_cases h2:o.2=0
    ·rw[pB h2,zd];simp only[h2,not_true_eq_false,if_false];by_cases h3:20<o.1.length
     ·rw[zt (show(o.1.length:Int)>20 from by omega),zp h3];rfl
     ·rw[zf (show ¬(o.1.length:Int)>20 from by omega),zy h3,zd];exact dup_run o.1
    ·rw[mm h2];simp[h2]
   ·simp[h1]
theorem whileM_by{σ ρ:Type}{step:σ->Option (Flow σ ρ)}(I:σ->Prop)(μ:σ->Nat)(Q:σ->Prop)(R:ρ->Prop)(hs:∀s,I s->∃fl,step s=some fl/\(match fl with| .next s'=>I s'/\μ s'<μ s| .brk s'=>Q s'| .ret r=>R r)):
  ∀s,I s->∃fl,gq step s=some fl/\(match fl with| .next s'=>Q s'| .brk _=>False| .ret r=>R r):=by
 intro s;generalize hn:μ s=n;induction n using Nat.strongRecOn generalizing s with
 |_ n ih=>
  intro hI
  obtain⟨fl,h1,h2⟩:=hs s hI
  cases fl with
  |next s'=>
   obtain⟨fl,h3,h4⟩:=ih (μ s') (hn▸h2.2) s' Z h2.1
   exact⟨fl,mF h1 h3,h4⟩
  |brk s'=>exact⟨.next s',mF h1 Z,h2⟩
  |ret r=>exact⟨.ret r,mF h1 Z,h2⟩
theorem gW{σ β:Type}{step:σ->Option (Flow σ Empty)}{k:σ->Option β}{R:β->Prop}{s:σ}(I:σ->Prop)(μ:σ->Nat)(Q:σ->Prop)(h0:I s)
  (hs:∀s,I s->∃fl,step s=some fl/\(match fl with| .next s'=>I s'/\μ s'<μ s| .brk s'=>Q s'| .ret _=>False)) (hk:∀s',Q s'->∃r,k s'=some r/\R r):
  ∃r,af (gq step s) (fun fl=>fl.thenP k)=some r/\R r:=by
 obtain⟨fl,h1,h2⟩:=whileM_by (step:=step) I μ Q (fun _=>False) (fun s hI=>by
  obtain⟨fl,h1,h2⟩:=hs s hI
  refine⟨fl,h1,?_⟩
  cases fl with
  |next s'=>exact h2
  |brk s'=>exact h2
  |ret r=>exact r.elim) s h0
 cases fl with
 |next s'=>rw[h1];exact hk s' h2
 |brk s'=>exact absurd h2 (by simp)
 |ret r=>exact r.elim
theorem mid_eq{n:Int}(h0:0<=n)(h1:n<=4611686018427387904):Iw (Int.fdiv (IntKind.u64.wrap (Iw n)) (2^1))=n/2:=by
 have h3:Iw n=n:=wW (by omega) (by omega)
 have h2:IntKind.u64.wrap n=n:=by
  simp only[IntKind.wrap,IntKind.bits,IntKind.signed];simp;omega
 rw[h3,h2,show(2:Int)^1=2 from Z,Int.fdiv_eq_ediv_of_nonneg _ (by decide)];exact wW (by omega) (by omega)
section
variable{α:Type}
theorem swap_perm{l:List α}{i j:Nat}{x y:α}(hi:l[i]? =some x)(hj:l[j]? =some y):((l.set i y).set j x).Perm l:=by
 have hil:=(zg.1 hi).1;have hjl:=(zg.1 hj).1;have hx:=(zg.1 hi).2;have hy:=(zg.1 hj).2;rw[<-hx,<-hy];exact List.set_set_perm hil hjl
end
section
abbrev Rows:=Rz
abbrev Cmp:=Rq->Rq->Option Int
structure SrtOk(cmp:Cmp)(d0 d:Rows):Prop where
 perm:d.Perm d0
 small:d0.length<=1000000
 tot:∀x∈d0,∀y∈d0,Tot (cmp x y)
variable{cmp:Cmp}{d0:Rows}
theorem SrtOk.len{d:Rows}(h:SrtOk cmp d0 d):d.length=d0.length:=h.perm.length_eq
theorem SrtOk.cm{d:Rows}(h:SrtOk cmp d0 d){x y:Rq}(hx:x∈d)(hy:y∈d):Tot (cmp x y):=h.tot x (h.perm.mem_iff.1 hx) y (h.perm.mem_iff.1 hy)
theorem SrtOk.swap{d:Rows}(h:SrtOk cmp d0 d){i j:Nat}{x y:Rq}(hi:d[i]? =some x)(hj:d[j]? =some y):SrtOk cmp d0 ((d.set i y).set j x):=⟨(swap_perm hi hj).trans h.perm,h.small,h.tot⟩
theorem SrtOk.get{d:Rows}(h:SrtOk cmp d0 d){i:Int}(h0:0<=i)(h1:i<d0.length):∃x,aP d i=some x/\d[i.toNat]? =some x/\x∈d:=by
 have hl:=h.len
 have:i.toNat<d.length:=by omega
 exact⟨d[i.toNat],kY h0 (ze this),ze this,List.getElem_mem _⟩
theorem getI_set{α:Type}{l:List α}{i j:Int}{x y:α}(h0:0<=j)(hj:l[j.toNat]? =some y):∃z,aP (l.set i.toNat x) j=some z:=by
 have hl:=(zg.1 hj).1
 exact⟨_,kY h0 (ze (by simpa using hl))⟩
theorem ux{β:Type}{d:Rows}(h:SrtOk cmp d0 d){i j:Int}(hi0:0<=i)(hi1:i<d0.length)(hj0:0<=j)(hj1:j<d0.length):∃d',SrtOk cmp d0 d'/\∀k:Rows->Option β,
  (af (aP d j) fun(x28:Rq)=>af (aP d i) fun(x34:Rq)=>af (aP d i) fun(_:Rq)=>letP (d.set i.toNat x28) fun(y6:Rows)=>af (aP y6 j) fun(_:Rq)=>letP (y6.set j.toNat x34) fun(y7:Rows)=>k y7)=k d':=by
 obtain⟨y,hy,hy',_⟩:=h.get hj0 hj1
 obtain⟨x,hx,hx',_⟩:=h.get hi0 hi1
 obtain⟨z,hz⟩:=getI_set (i:=i) (x:=y) hj0 hy'
 refine⟨_,h.swap hx' hy',fun k=>?_⟩
 rw[hy,hx];simp only[bPs,bM];rw[hz,bPs]
theorem tX{d:Rows}(h:SrtOk cmp d0 d){a b:Int}(ha:0<=a/\a<=d0.length)(hb:b<=d0.length):∃d',cQ d a b cmp=some d'/\SrtOk cmp d0 d':=by
 have hs:=h.small;unfold cQ;rw[wW (by omega) (by omega)];refine gW (fun s=>SrtOk cmp d0 s.1/\a<s.2) (fun s=>(b-s.2).toNat) (fun s=>SrtOk cmp d0 s.1) ⟨h,by show a<a+1;omega⟩ (fun s hI=>?_) (fun s hq=>⟨_,rfl,hq⟩)
 obtain⟨h1,h2⟩:=hI
 by_cases hlt:s.2<b
 ·rw[zt hlt,zc];refine gW (fun t=>SrtOk cmp d0 t.1/\a<=t.2/\t.2<b) (fun t=>(t.2-a).toNat) (fun t=>SrtOk cmp d0 t.1) ⟨h1,by show a<=s.2;omega,hlt⟩ (fun t hI=>?_) (fun t hq=>⟨_,rfl,?_⟩)
  ·obtain⟨g1,g2,g3⟩:=hI
   by_cases hgt:t.2>a
   ·rw[zt hgt,zc,wW (by omega) (by omega)]
    obtain⟨x,hx,hx',hxm⟩:=g1.get (i:=t.2) (by omega) (by omega)
    obtain⟨y,hy,hy',hym⟩:=g1.get (i:=t.2-1) (by omega) (by omega)
    obtain⟨c,hc⟩:=g1.cm hxm hym
    obtain⟨d',hd',hsw⟩:=ux (β:=Flow (Rows×Int) Empty) g1 (i:=t.2) (j:=t.2-1) (by omega) (by omega) (by omega) (by omega)
    rw[hx,bPs,hy,bPs,hc,bPs,bPs];by_cases hneg:c<0
    ·rw[zt hneg]
     have:=hsw (fun y31=>some (.next (y31,t.2-1)))
     rw[hx,hy]at this
     refine⟨.next (d',t.2-1),?_,⟨hd',by show a<=t.2-1;omega,by show t.2-1<b;omega⟩,by show(t.2-1-a).toNat<(t.2-a).toNat;omega⟩
     rw[zc];simp only;rw[hy,hx];exact this
    ·rw[zf hneg]
     exact⟨_,rfl,g1⟩
   ·rw[zf hgt]
    exact⟨_,rfl,g1⟩
  ·show(SrtOk cmp d0 t.1/\a<Iw (s.2+1))/\(b-Iw (s.2+1)).toNat<(b-s.2).toNat
   rw[wW (by omega) (by omega)]
   exact⟨⟨hq,by omega⟩,by omega⟩
 ·rw[zf hlt]
  exact⟨_,rfl,h1⟩
theorem qB{d:Rows}(h:SrtOk cmp d0 d){a b n:Int}(ha:0<=a)(hb:0<=b)(hn:n<=d0.length)(ha':a+n<=d0.length)(hb':b+n<=d0.length):∃d',cM d a b n cmp=some d'/\SrtOk cmp d0 d':=by
 have hs:=h.small;unfold cM;refine gW (fun s=>SrtOk cmp d0 s.1/\0<=s.2) (fun s=>(n-s.2).toNat) (fun s=>SrtOk cmp d0 s.1) ⟨h,by show(0:Int)<=0;omega⟩ (fun s hI=>?_) (fun s hq=>⟨_,rfl,hq⟩)
 obtain⟨h1,h2⟩:=hI
 by_cases hlt:s.2<n
 ·rw[zt hlt,zc,wW (n:=b+s.2) (by omega) (by omega),wW (n:=a+s.2) (by omega) (by omega),wW (n:=s.2+1) (by omega) (by omega)]
  obtain⟨d',hd',hsw⟩:=ux (β:=Flow (Rows×Int) Empty) h1 (i:=a+s.2) (j:=b+s.2) (by omega) (by omega) (by omega) (by omega)
  exact⟨_,hsw _,⟨hd',by show 0<=s.2+1;omega⟩,by show(n-(s.2+1)).toNat<(n-s.2).toNat;omega⟩
 ·rw[zf hlt]
  exact⟨_,rfl,h1⟩
theorem rotate_ok{d:Rows}(h:SrtOk cmp d0 d){a m b:Int}(ha:0<=a)(hm:a<m)(hb:m<b)(hb':b<=d0.length):∃d',dV d a m b cmp=some d'/\SrtOk cmp d0 d':=by
 have hs:=h.small;unfold dV;rw[wW (n:=m-a) (by omega) (by omega),wW (n:=b-m) (by omega) (by omega)];refine gW (fun s=>SrtOk cmp d0 s.1/\0<s.2.1/\0<s.2.2/\s.2.1<=m-a/\s.2.2<=b-m) (fun s=>(s.2.1+s.2.2).toNat) (fun s=>SrtOk cmp d0 s.1/\0<s.2.1/\s.2.1<=m-a/\s.2.1<=b-m) ⟨h,by show 0<m-a;omega,by show 0<b-m;omega,Int.le_refl _,Int.le_refl _⟩ (fun s hI=>?_) (fun s hq=>?_)
 ·obtain⟨h1,h2,h3,h4,h5⟩:=hI
  by_cases hne:s.2.1=s.2.2
  ·rw[pB hne]
   exact⟨_,rfl,h1,h2,h4,by show s.2.1<=b-m;omega⟩
  ·rw[mm hne,zc,wW (n:=m-s.2.1) (by omega) (by omega)];by_cases hgt:s.2.1>s.2.2
   ·rw[zt hgt,zc]
    obtain⟨d',e,hd'⟩:=qB h1 (a:=m-s.2.1) (b:=m) (n:=s.2.2) (by omega) (by omega) (by omega) (by omega) (by omega)
    rw[e,bPs,dW (by rw[hd'.len,h1.len]),bPs,wW (by omega) (by omega)]
    exact⟨_,rfl,⟨hd',by show 0<s.2.1-s.2.2;omega,h3,by show s.2.1-s.2.2<=m-a;omega,h5⟩,by show(s.2.1-s.2.2+s.2.2).toNat<(s.2.1+s.2.2).toNat;omega⟩
   ·rw[zf hgt,zd,wW (n:=m+s.2.2) (by omega) (by omega),wW (n:=m+s.2.2-s.2.1) (by omega) (by omega)]
    obtain⟨d',e,hd'⟩:=qB h1 (a:=m-s.2.1) (b:=m+s.2.2-s.2.1) (n:=s.2.1) (by omega) (by omega) (by omega) (by omega) (by omega)
    rw[e,bPs,dW (by rw[hd'.len,h1.len]),bPs,wW (by omega) (by omega)]
    exact⟨_,rfl,⟨hd',h2,by show 0<s.2.2-s.2.1;omega,h4,by show s.2.2-s.2.1<=b-m;omega⟩,by show(s.2.1+(s.2.2-s.2.1)).toNat<(s.2.1+s.2.2).toNat;omega⟩
 ·obtain⟨h1,h2,h3,h4⟩:=hq
  rw[wW (n:=m-s.2.1) (by omega) (by omega)]
  obtain⟨d',e,hd'⟩:=qB h1 (a:=m-s.2.1) (b:=m) (n:=s.2.1) (by omega) (by omega) (by omega) (by omega) (by omega)
  rw[e,bPs,dW (by rw[hd'.len,h1.len]),bPs]
  exact⟨_,rfl,hd'⟩
def LeO{β:Type}(o o':Option β):Prop:=∀r,o=some r->o'=some r
theorem LeO.refl{β:Type}(o:Option β):LeO o o:=fun _ h=>h
theorem LeO.bind{β γ:Type}{o o':Option β}{k k':β->Option γ}(h:LeO o o')(hk:∀v,LeO (k v) (k' v)):LeO (af o k) (af o' k'):=by
 intro r hr;cases o with
 |none=>cases hr
 |some v=>rw[h v Z];exact hk v r hr
theorem LeO.cond{β:Type}{b:Bool}{x x' y y':Option β}(hx:LeO x x')(hy:LeO y y'):LeO (cond b x y) (cond b x' y'):=by
 cases b
 ·exact hy
 ·exact hx
theorem LeO.thenP{σ β:Type}{fl:Flow σ Empty}{k k':σ->Option β}(hk:∀s,LeO (k s) (k' s)):LeO (fl.thenP k) (fl.thenP k'):=by
 cases fl with
 |next s=>exact hk s
 |brk s=>exact hk s
 |ret r=>exact r.elim
theorem symMerge_mono{r r':Rows->Int->Int->Int->Option Rows}(h:∀d a m b,LeO (r d a m b) (r' d a m b))(d:Rows)(a m b:Int):LeO (cW r d a m b cmp) (cW r' d a m b cmp):=by
 unfold cW;simp only[bM];refine LeO.cond (LeO.refl _) (LeO.cond (LeO.refl _) (LeO.bind (LeO.refl _) fun fl=>LeO.thenP fun s=>LeO.bind (LeO.refl _) fun t=>LeO.bind (LeO.cond (LeO.bind (h _ _ _ _) fun _=>LeO.refl _) (LeO.refl _)) fun u=>LeO.cond (LeO.cond (LeO.bind (h _ _ _ _) fun _=>LeO.refl _) (LeO.refl _)) (LeO.refl _)))
theorem tc:∀(n:Nat) (d:Rows) (a m b:Int),LeO (bC n d a m b cmp) (bC (n+1) d a m b cmp)
 |0,d,a,m,b=>fun r h=>by simp[bC]at h
 |n+1,d,a,m,b=>by
  rw[bC,bC];exact symMerge_mono (fun d a m b=>tc n d a m b) d a m b
theorem uf{n:Nat}{d:Rows}{a m b:Int}{r:Rows}(h:bC n d a m b cmp=some r):fQ d a m b cmp=some r:=by
 refine rW n fun k hk=>?_
 obtain⟨j,rfl⟩:∃j,k=n+j:=⟨k-n,by omega⟩
 clear hk;induction j with
 |zero=>exact h
 |succ j ih=>exact tc (n+j) d a m b r ih
theorem oX:∀(n:Nat) {d:Rows} (_:SrtOk cmp d0 d) {a m b:Int},0<=a->a<m->m<b->b<=d0.length->(b-a).toNat<n->∃d',bC n d a m b cmp=some d'/\SrtOk cmp d0 d'
 |0,_,_,_,_,_,_,_,_,_,hn=>by omega
 |n+1,d,h,a,m,b,ha,hm,hb,hb',hn=>by
  have hs:=h.small;rw[bC];unfold cW;rw[wW (n:=m-a) (by omega) (by omega),wW (n:=b-m) (by omega) (by omega)];by_cases h1:m-a=1
  ·rw[lO h1,zc];refine gW (fun s=>SrtOk cmp d0 s.1/\m<=s.2.1/\s.2.1<=s.2.2/\s.2.2<=b) (fun s=>(s.2.2-s.2.1).toNat) (fun s=>SrtOk cmp d0 s.1/\m<=s.2.1/\s.2.1<=b) ⟨h,Int.le_refl _,by show m<=b;omega,Int.le_refl _⟩ (fun s hI=>?_) (fun s hq=>?_)
   ·obtain⟨g1,g2,g3,g4⟩:=hI
    by_cases hlt:s.2.1<s.2.2
    ·rw[zt hlt,zc,mid_eq (n:=s.2.1+s.2.2) (by omega) (by omega)]
     obtain⟨x,hx,_,hxm⟩:=g1.get (i:=(s.2.1+s.2.2)/2) (by omega) (by omega)
     obtain⟨y,hy,_,hym⟩:=g1.get (i:=a) (by omega) (by omega)
     obtain⟨c,hc⟩:=g1.cm hxm hym
     rw[hx,bPs,hy,bPs,hc,bPs];by_cases hneg:c<0
     ·rw[zt hneg,zc,wW (by omega) (by omega)]
      exact⟨_,rfl,⟨g1,by show m<=(s.2.1+s.2.2)/2+1;omega,by show(s.2.1+s.2.2)/2+1<=s.2.2;omega,g4⟩,by show(s.2.2-((s.2.1+s.2.2)/2+1)).toNat<(s.2.2-s.2.1).toNat;omega⟩
     ·rw[zf hneg,zd]
      exact⟨_,rfl,⟨g1,g2,by show s.2.1<=(s.2.1+s.2.2)/2;omega,by show(s.2.1+s.2.2)/2<=b;omega⟩,by show((s.2.1+s.2.2)/2-s.2.1).toNat<(s.2.2-s.2.1).toNat;omega⟩
    ·rw[zf hlt]
     exact⟨_,rfl,g1,g2,by show s.2.1<=b;omega⟩
   ·obtain⟨g1,g2,g3⟩:=hq
    rw[wW (n:=s.2.1-1) (by omega) (by omega)];refine gW (fun t=>SrtOk cmp d0 t.1/\a<=t.2) (fun t=>(s.2.1-t.2).toNat) (fun t=>SrtOk cmp d0 t.1) ⟨g1,Int.le_refl _⟩ (fun t hI=>?_) (fun t hq=>⟨_,rfl,hq⟩)
    obtain⟨k1,k2⟩:=hI
    by_cases hlt:t.2<s.2.1-1
    ·rw[zt hlt,zc,wW (n:=t.2+1) (by omega) (by omega)]
     obtain⟨d',hd',hsw⟩:=ux (β:=Flow (Rows×Int) Empty) k1 (i:=t.2) (j:=t.2+1) (by omega) (by omega) (by omega) (by omega)
     exact⟨_,hsw _,⟨hd',by show a<=t.2+1;omega⟩,by show(s.2.1-(t.2+1)).toNat<(s.2.1-t.2).toNat;omega⟩
    ·rw[zf hlt]
     exact⟨_,rfl,k1⟩
  ·rw[dt h1,zd];by_cases h2:b-m=1
   ·rw[lO h2,zc];refine gW (fun s=>SrtOk cmp d0 s.1/\a<=s.2.1/\s.2.1<=s.2.2/\s.2.2<=m) (fun s=>(s.2.2-s.2.1).toNat) (fun s=>SrtOk cmp d0 s.1/\a<=s.2.1/\s.2.1<=m) ⟨h,Int.le_refl _,by show a<=m;omega,Int.le_refl _⟩ (fun s hI=>?_) (fun s hq=>?_)
    ·obtain⟨g1,g2,g3,g4⟩:=hI
     by_cases hlt:s.2.1<s.2.2
     ·rw[zt hlt,zc,mid_eq (n:=s.2.1+s.2.2) (by omega) (by omega)]
      obtain⟨x,hx,_,hxm⟩:=g1.get (i:=m) (by omega) (by omega)
      obtain⟨y,hy,_,hym⟩:=g1.get (i:=(s.2.1+s.2.2)/2) (by omega) (by omega)
      obtain⟨c,hc⟩:=g1.cm hxm hym
      rw[hx,bPs,hy,bPs,hc,bPs];by_cases hneg:c<0
      ·rw[zt hneg]
       exact⟨_,rfl,⟨g1,g2,by show s.2.1<=(s.2.1+s.2.2)/2;omega,by show(s.2.1+s.2.2)/2<=m;omega⟩,by show((s.2.1+s.2.2)/2-s.2.1).toNat<(s.2.2-s.2.1).toNat;omega⟩
      ·rw[zf hneg,Bool.not_false,zc,wW (by omega) (by omega)]
       exact⟨_,rfl,⟨g1,by show a<=(s.2.1+s.2.2)/2+1;omega,by show(s.2.1+s.2.2)/2+1<=s.2.2;omega,g4⟩,by show(s.2.2-((s.2.1+s.2.2)/2+1)).toNat<(s.2.2-s.2.1).toNat;omega⟩
     ·rw[zf hlt]
      exact⟨_,rfl,g1,g2,by show s.2.1<=m;omega⟩
    ·obtain⟨g1,g2,g3⟩:=hq
     refine gW (fun t=>SrtOk cmp d0 t.1/\a<=t.2/\t.2<=m) (fun t=>(t.2-a).toNat) (fun t=>SrtOk cmp d0 t.1) ⟨g1,by show a<=m;omega,Int.le_refl _⟩ (fun t hI=>?_) (fun t hq=>⟨_,rfl,hq⟩)
     obtain⟨k1,k2,k3⟩:=hI
     by_cases hlt:t.2>s.2.1
     ·rw[zt hlt,zc,wW (n:=t.2-1) (by omega) (by omega)]
      obtain⟨d',hd',hsw⟩:=ux (β:=Flow (Rows×Int) Empty) k1 (i:=t.2) (j:=t.2-1) (by omega) (by omega) (by omega) (by omega)
      exact⟨_,hsw _,⟨hd',by show a<=t.2-1;omega,by show t.2-1<=m;omega⟩,by show(t.2-1-a).toNat<(t.2-a).toNat;omega⟩
     ·rw[zf hlt]
      exact⟨_,rfl,k1⟩
   ·rw[dt h2,zd];simp only[bM];rw[mid_eq (n:=a+b) (by omega) (by omega)];generalize hmid:(a+b)/2=mid;have b1:2*mid<=a+b/\a+b<=2*mid+1:=by omega
    rw[wW (n:=mid+m) (by omega) (by omega),wW (n:=mid+m-b) (by omega) (by omega),wW (n:=mid+m-1) (by omega) (by omega)]
    obtain⟨lo,hi,e1,l1,l2,l3,l4,l5,l6⟩:∃lo hi:Int,(cond (decide (m>mid)) ((d,mid+m-b,mid)) ((d,a,m)):Rows×Int×Int)=(d,lo,hi)/\a<=lo/\lo<=hi/\hi<=m/\mid+m-lo<=b/\m<=mid+m-hi/\hi<=mid:=by
     by_cases hgt:m>mid
     ·exact⟨mid+m-b,mid,by rw[zt hgt];rfl,by omega,by omega,by omega,by omega,by omega,by omega⟩
     ·exact⟨a,m,by rw[zf hgt];rfl,by omega,by omega,by omega,by omega,by omega,by omega⟩
    rw[e1];refine gW (fun s=>SrtOk cmp d0 s.1/\lo<=s.2.1/\s.2.1<=s.2.2/\s.2.2<=hi) (fun s=>(s.2.2-s.2.1).toNat) (fun s=>SrtOk cmp d0 s.1/\lo<=s.2.1/\s.2.1<=hi) ⟨h,Int.le_refl _,l2,Int.le_refl _⟩ (fun s hI=>?_) (fun s hq=>?_)
    ·obtain⟨g1,g2,g3,g4⟩:=hI
     by_cases hlt:s.2.1<s.2.2
     ·rw[zt hlt,zc,mid_eq (n:=s.2.1+s.2.2) (by omega) (by omega)];generalize hc:(s.2.1+s.2.2)/2=c;have c1:s.2.1<=c/\c<s.2.2:=by omega
      rw[wW (n:=mid+m-1-c) (by omega) (by omega)]
      obtain⟨x,hx,_,hxm⟩:=g1.get (i:=mid+m-1-c) (by omega) (by omega)
      obtain⟨y,hy,_,hym⟩:=g1.get (i:=c) (by omega) (by omega)
      obtain⟨v,hv⟩:=g1.cm hxm hym
      rw[hx,bPs,hy,bPs,hv,bPs];by_cases hneg:v<0
      ·rw[zt hneg]
       exact⟨_,rfl,⟨g1,g2,by show s.2.1<=c;omega,by show c<=hi;omega⟩,by show(c-s.2.1).toNat<(s.2.2-s.2.1).toNat;omega⟩
      ·rw[zf hneg,Bool.not_false,zc,wW (by omega) (by omega)]
       exact⟨_,rfl,⟨g1,by show lo<=c+1;omega,by show c+1<=s.2.2;omega,g4⟩,by show(s.2.2-(c+1)).toNat<(s.2.2-s.2.1).toNat;omega⟩
     ·rw[zf hlt]
      exact⟨_,rfl,g1,g2,by show s.2.1<=hi;omega⟩
    ·obtain⟨g1,g2,g3⟩:=hq
     rw[wW (n:=mid+m-s.2.1) (by omega) (by omega)]
     -- the rotation
     obtain⟨t,ht,hto⟩:∃t,(af (cond ((cond (decide (s.2.1<m)) ((s.1,decide (m<mid+m-s.2.1))) ((s.1,false)):Rows×Bool)).2
       (af (dV ((cond (decide (s.2.1<m)) ((s.1,decide (m<mid+m-s.2.1))) ((s.1,false)):Rows×Bool)).1 s.2.1 m (mid+m-s.2.1) cmp) fun x191=>af (fg (x191.length=((cond (decide (s.2.1<m)) ((s.1,decide (m<mid+m-s.2.1))) ((s.1,false)):Rows×Bool)).1.length) ()) fun(_:Unit)=>some x191)
       (some ((cond (decide (s.2.1<m)) ((s.1,decide (m<mid+m-s.2.1))) ((s.1,false)):Rows×Bool)).1)) some)=some t/\SrtOk cmp d0 t:=by
      by_cases c1:s.2.1<m
      ·by_cases c2:m<mid+m-s.2.1
       ·rw[zt c1,zt c2];simp only[zc]
        obtain⟨d',e,hd'⟩:=rotate_ok g1 (a:=s.2.1) (m:=m) (b:=mid+m-s.2.1) (by omega) c1 c2 (by omega)
        rw[e,bPs,dW (by rw[hd'.len,g1.len])]
        exact⟨_,rfl,hd'⟩
       ·rw[zt c1,zf c2]
        exact⟨_,rfl,g1⟩
      ·rw[zf c1]
       exact⟨_,rfl,g1⟩
     have ht':=ht;generalize hcc:(cond ((cond (decide (s.2.1<m)) ((s.1,decide (m<mid+m-s.2.1))) ((s.1,false)):Rows×Bool)).2 _ _:Option Rows)=o at ht⊢;cases o with
     |none=>cases ht
     |some t0=>
      simp only[bPs,zo]at ht;subst ht;rw[bPs];clear hcc ht'
      obtain⟨u,hu,huo⟩:∃u,(af (cond ((cond (decide (a<s.2.1)) ((t0,decide (s.2.1<mid))) ((t0,false)):Rows×Bool)).2
        (af (bC n ((cond (decide (a<s.2.1)) ((t0,decide (s.2.1<mid))) ((t0,false)):Rows×Bool)).1 a s.2.1 mid cmp) fun x205=>af (fg (x205.length=((cond (decide (a<s.2.1)) ((t0,decide (s.2.1<mid))) ((t0,false)):Rows×Bool)).1.length) ()) fun(_:Unit)=>some x205)
        (some ((cond (decide (a<s.2.1)) ((t0,decide (s.2.1<mid))) ((t0,false)):Rows×Bool)).1)) some)=some u/\SrtOk cmp d0 u:=by
       by_cases c1:a<s.2.1
       ·by_cases c2:s.2.1<mid
        ·rw[zt c1,zt c2];simp only[zc]
         obtain⟨d',e,hd'⟩:=oX n hto (a:=a) (m:=s.2.1) (b:=mid) ha c1 c2 (by omega) (by omega)
         rw[e,bPs,dW (by rw[hd'.len,hto.len])]
         exact⟨_,rfl,hd'⟩
        ·rw[zt c1,zf c2]
         exact⟨_,rfl,hto⟩
       ·rw[zf c1]
        exact⟨_,rfl,hto⟩
      generalize hcc:(cond ((cond (decide (a<s.2.1)) ((t0,decide (s.2.1<mid))) ((t0,false)):Rows×Bool)).2 _ _:Option Rows)=o at hu⊢;cases o with
      |none=>cases hu
      |some u0=>
       simp only[bPs,zo]at hu;subst hu;rw[bPs];by_cases c1:mid<mid+m-s.2.1
       ·rw[zt c1,zc];by_cases c2:mid+m-s.2.1<b
        ·rw[zt c2,zc]
         obtain⟨d',e,hd'⟩:=oX n huo (a:=mid) (m:=mid+m-s.2.1) (b:=b) (by omega) c1 c2 hb' (by omega)
         rw[e,bPs,dW (by rw[hd'.len,huo.len])]
         exact⟨_,rfl,hd'⟩
        ·rw[zf c2]
         exact⟨_,rfl,huo⟩
       ·rw[zf c1]
        exact⟨_,rfl,huo⟩
theorem stable_ok{d:Rows}(h:SrtOk cmp d0 d):∃d',eX d (d0.length:Int) cmp=some d'/\SrtOk cmp d0 d':=by
 have hs:=h.small;unfold eX;refine gW (fun s=>SrtOk cmp d0 s.1/\0<=s.2.1/\s.2.1<=s.2.2/\s.2.2<=s.2.1+20/\s.2.1<=d0.length) (fun s=>(d0.length+20-s.2.2).toNat) (fun s=>SrtOk cmp d0 s.1/\0<=s.2.1/\s.2.1<=d0.length) ⟨h,by show(0:Int)<=0;omega,by show(0:Int)<=20;omega,by show(20:Int)<=0+20;omega,by show(0:Int)<=d0.length;omega⟩ (fun s hI=>?_) (fun s hq=>?_)
 ·obtain⟨g1,g2,g3,g4,g5⟩:=hI
  by_cases hle:s.2.2<=(d0.length:Int)
  ·rw[zt hle,zc]
   obtain⟨d',e,hd'⟩:=tX g1 (a:=s.2.1) (b:=s.2.2) ⟨g2,by omega⟩ hle
   rw[e,bPs,dW (by rw[hd'.len,g1.len]),bPs,wW (by omega) (by omega)]
   exact⟨_,rfl,⟨hd',by show 0<=s.2.2;omega,by show s.2.2<=s.2.2+20;omega,by show s.2.2+20<=s.2.2+20;omega,hle⟩,by show((d0.length:Int)+20-(s.2.2+20)).toNat<((d0.length:Int)+20-s.2.2).toNat;omega⟩
  ·rw[zf hle]
   exact⟨_,rfl,g1,g2,g5⟩
 ·obtain⟨g1,g2,g3⟩:=hq
  obtain⟨d',e,hd'⟩:=tX g1 (a:=s.2.1) (b:=(d0.length:Int)) ⟨g2,by omega⟩ (Int.le_refl _)
  rw[e,bPs,dW (by rw[hd'.len,g1.len]),bPs];clear e g1 g2 g3 s h;refine gW (fun s=>SrtOk cmp d0 s.1/\20<=s.2) (fun s=>(d0.length-s.2).toNat) (fun s=>SrtOk cmp d0 s.1) ⟨hd',by show(20:Int)<=20;omega⟩ (fun s hI=>?_) (fun s hq=>⟨_,rfl,hq⟩)
  obtain⟨g1,g2⟩:=hI
  by_cases hlt:s.2<(d0.length:Int)
  ·rw[zt hlt,zc,wW (n:=2*s.2) (by omega) (by omega)];refine gW (fun t=>SrtOk cmp d0 t.1/\0<=t.2.1/\t.2.2=t.2.1+2*s.2/\t.2.1<=d0.length) (fun t=>(d0.length+2*s.2-t.2.2).toNat) (fun t=>SrtOk cmp d0 t.1/\0<=t.2.1/\t.2.1<=d0.length) ⟨g1,by show(0:Int)<=0;omega,by show 2*s.2=0+2*s.2;omega,by show(0:Int)<=d0.length;omega⟩ (fun t hI=>?_) (fun t hq=>?_)
   ·obtain⟨k1,k2,k3,k4⟩:=hI
    by_cases hle:t.2.2<=(d0.length:Int)
    ·rw[zt hle,zc,wW (n:=t.2.1+s.2) (by omega) (by omega)]
     obtain⟨d'',e,hd''⟩:=oX ((t.2.2-t.2.1).toNat+1) k1 (a:=t.2.1) (m:=t.2.1+s.2) (b:=t.2.2) k2 (by omega) (by omega) hle (by omega)
     rw[uf e,bPs,dW (by rw[hd''.len,k1.len]),bPs,wW (by omega) (by omega)]
     exact⟨_,rfl,⟨hd'',by show 0<=t.2.2;omega,by show t.2.2+2*s.2=t.2.2+2*s.2;omega,hle⟩,by show((d0.length:Int)+2*s.2-(t.2.2+2*s.2)).toNat<((d0.length:Int)+2*s.2-t.2.2).toNat;omega⟩
    ·rw[zf hle]
     exact⟨_,rfl,k1,k2,k4⟩
   ·obtain⟨k1,k2,k3⟩:=hq
    rw[wW (n:=t.2.1+s.2) (by omega) (by omega),wW (n:=s.2*2) (by omega) (by omega)];by_cases hm:t.2.1+s.2<(d0.length:Int)
    ·rw[zt hm,zc]
     obtain⟨d'',e,hd''⟩:=oX ((d0.length-t.2.1).toNat+1) k1 (a:=t.2.1) (m:=t.2.1+s.2) (b:=(d0.length:Int)) k2 (by omega) (by omega) (Int.le_refl _) (by omega)
     rw[uf e,bPs,dW (by rw[hd''.len,k1.len]),bPs]
     exact⟨_,rfl,⟨hd'',by show 20<=s.2*2;omega⟩,by show((d0.length:Int)-s.2*2).toNat<((d0.length:Int)-s.2).toNat;omega⟩
    ·rw[zf hm,zd]
     exact⟨_,rfl,⟨k1,by show 20<=s.2*2;omega⟩,by show((d0.length:Int)-s.2*2).toNat<((d0.length:Int)-s.2).toNat;omega⟩
  ·rw[zf hlt]
   exact⟨_,rfl,g1⟩
theorem sortStable_ok{d:Rows}(hs:d.length<=1000000)(ht:∀x∈d,∀y∈d,Tot (cmp x y)):∃d',du d cmp=some d'/\d'.Perm d:=by
 unfold du
 obtain⟨d',e,hd'⟩:=stable_ok (cmp:=cmp) (d0:=d) (d:=d) ⟨List.Perm.refl _,hs,ht⟩
 rw[e,bPs,dW hd'.len,bPs]
 exact⟨d',rfl,hd'.perm⟩
end
theorem sS(r:LRun)(cols:List LCol)(x:Rq)(l:List LExpr)(hl:l.length<=10000000):eg r cols x l=some (l.map fun e=>dY (bK r cols x) e):=by
 unfold eg
 rw[nG (xs:=l) (fun e=>dY (bK r cols x) e) (fun k e hk=>by
  have:=(zg.1 hk).1
  rw[bM,bM,bI (by decide) (by simp;omega),bPs])]
 rfl
theorem compare_tot(a b:Rq)(ds:List Bool):Tot (jd a b ds):=by
 unfold jd;refine Tot.bind (Tot.range _ _ _ fun k x s hk=>?_) fun fl _=>Tot.thenR fun _ _=>Tot.mk
 rw[Nat.zero_add];by_cases h1:(k:Int)>=(b.length:Int)
 ·rw[zt h1];exact Tot.mk
 ·rw[zf h1,zd,fJ (by omega)];simp only[bPs,bM];refine Tot.cond (fun _=>Tot.mk) fun _=>?_
  refine Tot.cond (fun h=>?_) fun _=>Tot.cond (fun _=>Tot.mk) fun _=>Tot.mk
  have h:=of_decide_eq_true h;rw[fJ (by omega),bPs];exact Tot.cond (fun _=>Tot.cond (fun _=>Tot.mk) fun _=>Tot.mk) fun _=>Tot.cond (fun _=>Tot.mk) fun _=>Tot.mk
theorem sort_ok(r:LRun)(q:LQuery)(cols:List LCol)(l:Rows)(hs:l.length<=1000000)(he:q.exprs.length<=1000000):∃l',gF r q cols l=some l'/\l'.Perm l:=by
 unfold gF
 obtain⟨l',e,hp⟩:=sortStable_ok (cmp:=fun a0 a1=>gI a0 a1 r cols q) hs (fun x _ y _=>by
  show Tot (gI x y r cols q);unfold gI;rw[sS r cols x q.exprs (by omega),sS r cols y q.exprs (by omega),bPs,bPs];exact Tot.bind (compare_tot _ _ _) fun _ _=>Tot.mk)
 rw[e,bPs,dW hp.length_eq,bPs]
 exact⟨l',rfl,hp⟩
theorem val_eq(x y:LVal):(x.kind==y.kind&&(x.int==y.int&&(x.text==y.text&&true)))=decide (x=y):=by
 obtain⟨a,b,c⟩:=x
 obtain⟨a',b',c'⟩:=y
 by_cases h:(⟨a,b,c⟩:LVal)=⟨a',b',c'⟩
 ·rw[zt h];cases h;simp
 ·rw[zf h];by_cases h1:a=a'
  ·by_cases h2:b=b'
   ·have h3:c≠c':=fun h3=>h (by rw[h1,h2,h3])
    have:(c==c')=false:=by simpa using h3
    simp[this]
   ·simp[dt h2]
  ·simp[dt h1]
theorem equalRow(x y:Rq):cf x y=some (decide (x=y)):=by
 unfold cf;by_cases hl:x.length=y.length
 ·rw[natNE,zt hl,Bool.not_true,zd]
  obtain⟨fl,hfl,hr⟩:=fI (step:=fun(j1:Nat) (x1:LVal) (_:Unit)=>af (aP y (j1:Int)) fun(x22:LVal)=>cond (!(x1.kind==x22.kind&&(x1.int==x22.int&&(x1.text==x22.text&&true)))) (some (Flow.ret false)) (some (.next ())))
   (fun j _=>x.take j=y.take j) (fun r=>r=false/\x≠y) x 0 () (by simp) (fun k v s hk hI=>by
    simp only[Nat.zero_add]at hI⊢;have hkl:=(zg.1 hk).1;rw[fJ (by omega),bPs,val_eq];by_cases hv:v=y[k]
    ·rw[zt hv]
     refine⟨_,rfl,?_⟩
     simp only;rw[List.take_add_one,List.take_add_one,hk,ze (by omega),hI,hv]
    ·rw[zf hv]
     refine⟨_,rfl,rfl,fun he=>hv ?_⟩
     subst he
     exact(zg.1 hk).2.symm)
  rw[hfl,bPs];cases fl with
  |brk s=>exact absurd hr (by simp)
  |ret r=>rw[pU,hr.1,zf hr.2]
  |next s=>
   simp only[Nat.zero_add,List.take_length]at hr;rw[hl,List.take_length]at hr;rw[jR,zt hr]
 ·rw[natNE,zf hl,zf (fun h=>hl (by rw[h]))];rfl
theorem idxO(l:Rows)(p:Rq->Bool)(f:Rq->Option Bool)(hf:∀x∈l,f x=some (p x))(hl:l.length<=10000000):bT l f=some (bg p l,l):=by
 unfold bT;rw[pp (by omega),bPs,Int.toNat_natCast]
 obtain⟨fl,hfl,hr⟩:=fI (step:=fun(j1:Nat) (_:Nat) (s1:Rows)=>af (aP s1 (j1:Int)) fun(x14:Rq)=>af (f x14) fun x16=>cond x16 (some (Flow.ret ((j1:Int),s1))) (some (.next s1)))
  (fun j s=>s=l/\∀x∈l.take j,p x=false) (fun r=>r=(bg p l,l)) (List.range l.length) 0 l ⟨rfl,by simp⟩ (fun k v s hk hI=>by
   simp only[Nat.zero_add]at hI⊢;have hkl:=(zg.1 hk).1;simp at hkl
   obtain⟨rfl,hI⟩:=hI
   rw[fJ hkl,bPs,hf _ (List.getElem_mem hkl),bPs];cases hp:p s[k]with
   |true=>exact⟨_,rfl,by simp only;rw[oD hkl hI hp]⟩
   |false=>
    refine⟨_,rfl,rfl,fun x hx=>?_⟩
    rw[List.take_add_one,ze hkl,List.mem_append]at hx;rcases hx with hx|hx
    ·exact hI x hx
    ·simp at hx;rw[hx];exact hp)
 rw[hfl,bPs];cases fl with
 |brk s=>exact absurd hr (by simp)
 |ret r=>rw[pU,hr]
 |next s=>
  simp only[Nat.zero_add,List.length_range,List.take_length]at hr;rw[jR,hr.1,kL hr.2]
theorem deleteFunc_eq(l:Rows)(p:Rq->Bool)(f:Rq->Option Bool)(hf:∀x∈l,f x=some (p x))(hl:l.length<=1000000):dR l f=some (l.filter fun x=>!p x):=by
 unfold dR;rw[idxO l p f hf (by omega),bPs];simp only;rw[dW trivial,bPs];by_cases hneg:bg p l=-1
 ·rw[lO hneg,zc];congr 1
  symm
  rw[List.filter_eq_self];intro x hx
  have:decide (bg p l>=0)=false:=by rw[hneg];rfl
  rw[jy]at this
  have:=List.any_eq_false.1 this x hx
  simpa using this
 ·rw[dt hneg,zd];have h0:0<=bg p l:=by rcases idxOf_neg (p:=p) (l:=l)with h|h;exact absurd h hneg;exact h
  obtain⟨i,hi⟩:∃i:Nat,bg p l=i:=⟨(bg p l).toNat,by omega⟩
  have hil:i<l.length:=by have:=tL h0;omega
  have hpre:(l.take i).filter (fun x=>!p x)=l.take i:=by
   rw[List.filter_eq_self];intro x hx
   have:l.findIdx? p=some i:=by
    unfold bg at hi;cases hq:l.findIdx? p with
    |none=>rw[hq]at hi;simp at hi
    |some j=>rw[hq]at hi;exact congrArg some (by have hi:(j:Int)=(i:Int):=hi;omega)
   obtain⟨_,_,hlt⟩:=List.findIdx?_eq_some_iff_getElem.1 this
   obtain⟨j,hj,rfl⟩:=List.mem_take_iff_getElem.1 hx
   simp[hlt j (by omega)]
  have hpi:p l[i]=true:=by
   obtain⟨x,hx,hp⟩:=iT h0
   rw[hi,Int.toNat_natCast,ze hil]at hx;cases hx;exact hp
  rw[hi,wW (n:=(i:Int)+1) (by omega) (by omega)]
  obtain⟨r,hr,hq⟩:=gW (step:=fun(s1:Rows×Int×Int)=>
   cond (decide (s1.2.2<(s1.1.length:Int)))
    (af (aP s1.1 s1.2.2) fun(x24:Rq)=>af (f x24) fun x28=>cond (!x28) (af (aP s1.1 s1.2.1) fun(_:Rq)=>letP (s1.1.set s1.2.1.toNat x24) fun(y4:Rows)=>some (.next (y4,(Iw (s1.2.1+(1:Int))),(Iw (s1.2.2+(1:Int))))))
     (some (.next (s1.1,s1.2.1,(Iw (s1.2.2+(1:Int)))))))
    (some (.brk (s1.1,s1.2.1,s1.2.2)))) (s:=(l,(i:Int),(i:Int)+1)) (k:=fun(s1:Rows×Int×Int)=>af (pC s1.1 s1.2.1) fun(y5:Rows)=>af (pC y5 s1.2.1) fun(y6:Rows)=>some y6) (R:=fun r=>r=l.filter fun x=>!p x)
   (fun s=>∃a j:Nat,s.2.1=a/\s.2.2=j/\a<j/\j<=l.length/\s.1.length=l.length/\s.1.take a=(l.take j).filter (fun x=>!p x)/\s.1.drop j=l.drop j) (fun s=>(l.length-s.2.2).toNat)
   (fun s=>∃a:Nat,s.2.1=a/\a<=s.1.length/\s.1.take a=l.filter fun x=>!p x)
   ⟨i,i+1,rfl,by show(i:Int)+1=((i+1:Nat):Int);omega,by omega,by omega,rfl,by
    show l.take i=_;rw[List.take_add_one,ze hil,List.filter_append,hpre];simp[hpi],rfl⟩
   (fun s hI=>by
    obtain⟨a,j,h1,h2,h3,h4,h5,h6,h7⟩:=hI
    obtain⟨d,s1,s2⟩:=s
    simp only at h1 h2 h5 h6 h7⊢;subst h1;subst h2;by_cases hlt:j<l.length
    ·rw[zt (show(j:Int)<(d.length:Int)from by omega),zc,fJ (by omega),bPs]
     have hdj:d[j]? =l[j]?:=by
      have:=congrArg (fun q=>q[0]?) h7
      simpa using this
     have hdje:d[j]=l[j]:=by
      rw[ze (by omega),ze hlt]at hdj;exact Option.some.inj hdj
     have hdrop:∀e:Rows,e.drop j=l.drop j->e.drop (j+1)=l.drop (j+1):=fun e he=>by
      rw[<-List.drop_drop,<-List.drop_drop,he]
     rw[hdje,hf _ (List.getElem_mem hlt),bPs,wW (n:=(j:Int)+1) (by omega) (by omega),wW (n:=(a:Int)+1) (by omega) (by omega)];cases hp:p l[j]with
     |true=>
      refine⟨_,rfl,⟨a,j+1,rfl,by show(j:Int)+1=((j+1:Nat):Int);omega,by omega,by omega,h5,?_,hdrop d h7⟩,by show((l.length:Int)-((j:Int)+1)).toNat<((l.length:Int)-(j:Int)).toNat;omega⟩
      show d.take a=_;rw[h6,List.take_add_one,ze hlt,List.filter_append];simp[hp]
     |false=>
      simp only[Bool.not_false,zc];rw[fJ (by omega),bPs,bM,Int.toNat_natCast]
      refine⟨_,rfl,⟨a+1,j+1,by show(a:Int)+1=((a+1:Nat):Int);omega,by show(j:Int)+1=((j+1:Nat):Int);omega,by omega,by omega,by show(d.set a l[j]).length=l.length;simp[h5],?_,?_⟩,by show((l.length:Int)-((j:Int)+1)).toNat<((l.length:Int)-(j:Int)).toNat;omega⟩
      ·show(d.set a l[j]).take (a+1)=_
       rw[List.take_add_one,List.getElem?_set_self (by omega),List.take_set_of_le (by omega),h6,List.take_add_one,ze hlt,List.filter_append];simp[hp]
      ·show(d.set a l[j]).drop (j+1)=_
       rw[List.drop_set_of_lt (by omega)];exact hdrop d h7
    ·rw[zf (show ¬(j:Int)<(d.length:Int)from by omega)]
     refine⟨_,rfl,a,rfl,by show a<=d.length;omega,?_⟩
     show d.take a=_;rw[h6,List.take_of_length_le (by omega)])
   (fun s hq=>by
    obtain⟨a,h1,h2,h3⟩:=hq
    rw[h1];unfold pC;rw[zp ⟨by omega,by simpa using h2⟩,bPs,Int.toNat_natCast,zp ⟨by omega,by simp;omega⟩,bPs,List.take_take,Nat.min_self]
    exact⟨_,rfl,h3⟩)
  rw[<-hq];exact hr
def mO:Rows->Rows->Rows
 |[],_=>[]
 |x::a,left=>if x∈left then mO a (left.erase x)else x::mO a left
theorem erase_idx{α:Type}[BEq α][LawfulBEq α][DecidableEq α]{l:List α}{x:α}{i:Nat}(h:l.findIdx? (fun y=>decide (x=y))=some i):l.take i++l.drop (i+1)=l.erase x:=by
 induction l generalizing i with
 |nil=>simp at h
 |cons a l ih=>
  rw[List.findIdx?_cons]at h;by_cases hx:x=a
  ·subst hx;simp at h;subst h;simp
  ·have e:decide (x=a)=false:=zf hx;rw[e]at h;simp only[Bool.false_eq_true,if_false,Option.map_eq_some_iff]at h
   obtain⟨j,hj,rfl⟩:=h
   have hne:(a==x)=false:=by simp;exact fun h=>hx h.symm
   rw[List.erase_cons,hne];simp[ih hj]
theorem less_run:∀(a:Rows) (j:Nat) (left out:Rows),left.length<=1000000->out.length+a.length<=1000000->
  aN (σ:=Rows×Rows) (ρ:=Empty) (fun(_:Nat) (x1:Rq) (s1:Rows×Rows)=>
  af (bT s1.1 (fun a0=>jV a0 x1)) fun x20=>
  af (fg (x20.2.length=s1.1.length) ()) fun(_:Unit)=>
  cond (decide (x20.1>=(0:Int)))
   (af (nL x20.2 x20.1 (Iw (x20.1+(1:Int)))) fun x27=>
   some (.next (x27,s1.2)))
   (af (cJ 24 s1.2 ([x1]:Rz)) fun(x31:Rz)=>
   some (.next (x20.2,x31)))) j a (left,out)=some (.next ((a.foldl (fun l x=>l.erase x) left),out++mO a left))
 |[],j,left,out,_,_=>by simp[aN,mO]
 |x::a,j,left,out,hl,ho=>by
  rw[aN,idxO left (fun y=>decide (x=y)) _ (fun y _=>by unfold jV;rw[equalRow];rfl) (by omega),bPs];simp only;rw[dW trivial,bPs,mO,List.foldl_cons];by_cases hx:x∈left
  ·have hany:decide (bg (fun y=>decide (x=y)) left>=0)=true:=by rw[jy,List.any_eq_true];exact⟨x,hx,by simp⟩
   rw[hany,zc,zp hx];have h0:=of_decide_eq_true hany;unfold bg at h0⊢;cases hq:left.findIdx? (fun y=>decide (x=y))with
   |none=>rw[hq]at h0;simp at h0
   |some i=>
    have hil:=(List.findIdx?_eq_some_iff_getElem.1 hq).1;simp only;rw[wW (by omega) (by omega)]
    have hd:nL left (i:Int) ((i:Int)+1)=some (left.erase x):=by
     unfold nL;rw[zp ⟨by omega,by omega,by omega⟩,show((i:Int)).toNat=i from Z,show((i:Int)+1).toNat=i+1 from by omega,erase_idx hq]
    rw[hd,bPs];exact less_run a (j+1) (left.erase x) out (by have:=List.length_erase_le (a:=x) (l:=left);omega) (by simp at ho;omega)
  ·have hany:decide (bg (fun y=>decide (x=y)) left>=0)=false:=by
    rw[jy,List.any_eq_false];intro y hy he
    have:x=y:=by simpa using he
    exact hx (this▸hy)
   rw[hany,zd,zy hx,bI (by decide) (by simp at ho⊢;omega),bPs];simp only;rw[less_run a (j+1) left _ hl (by simp at ho⊢;omega),List.erase_of_not_mem hx];simp
theorem less_eq(a b:Rows)(ha:a.length<=1000000)(hb:b.length<=1000000):ml a b=some (mO a b):=by
 unfold ml;rw[less_run a 0 b [] hb (by simpa using ha),bPs,cI];rfl
theorem tN:∀(a b:Rows),(mO a b).Sublist a
 |[],_=>by simp[mO]
 |x::a,b=>by
  rw[mO];split
  ·exact(tN a _).cons x
  ·exact(tN a b).cons_cons x
theorem concat2(x y:Rq)(hx:x.length<=1000000)(hy:y.length<=1000000):bZ [x,y]=some (x++y):=by
 unfold bZ;simp only[aN,Int.zero_add];rw[wW (n:=(x.length:Int)) (by omega) (by omega),zf (show ¬(x.length:Int)<0 from by omega)];simp only[zd];rw[wW (n:=(x.length:Int)+(y.length:Int)) (by omega) (by omega),zf (show ¬(x.length:Int)+(y.length:Int)<0 from by omega)];simp only[zd,bPs,cI];rw[growI_ok ⟨by omega,by omega,by unfold maxLen;omega⟩,bPs,bI (by decide) (by simp;omega),bPs];simp only[List.nil_append];rw[bI (by decide) (by omega)];rfl
def je(f:Rq->Bool)(x:Rq)(b:Rows):Rows:=(b.map fun y=>x++y).filter f
def padR(f:Rq->Bool)(left:Bool)(pad x:Rq)(b:Rows):Rows:=if left=true/\je f x b=[]then [x++pad]else je f x b
def lx(f:Rq->Bool)(left:Bool)(pad:Rq)(a b:Rows):Rows:=(a.map fun x=>padR f left pad x b).flatten
theorem match_run(f:Rq->Bool)(e:LExpr)(r:LRun)(cols:List LCol)(ex:List LExpr)(he:aP ex 0=some e)(hf:∀z,kW (dY (bK r cols z) e)=f z)(x:Rq)(hx:x.length<=1000)
  (b:Rows) (out:Rows) (found:Bool) (hb:∀y∈b,y.length<=1000) (ho:out.length+b.length<=1000000):
  aN (σ:=Rows×Bool) (ρ:=Empty) (fun(_:Nat) (x6:Rq) (s6:Rows×Bool)=>
   af (bZ ([x,x6]:Rows)) fun x58=>
   af (aP ex 0) fun(x65:LExpr)=>
   letP (bK r cols x58) fun x62=>
   letP (dY x62 x65) fun x67=>
   letP (kW x67) fun x68=>
   cond x68
    (af (cJ 24 s6.1 ([x58]:Rows)) fun(x72:Rows)=>some (.next (x72,true)))
    (some (.next (s6.1,s6.2)))) 0 b (out,found)=some (.next (out++je f x b,found|| !(je f x b).isEmpty)):=by
 rw[rMa (xs:=b) (s:=(out,found)) (fun k=>(out++je f x (b.take k),found|| !(je f x (b.take k)).isEmpty)) (by simp[je]) (fun k y hk=>by
  have hkl:=(zg.1 hk).1;have hm:(je f x (b.take k)).length<=k:=by unfold je;exact Nat.le_trans (List.length_filter_le _ _) (by simp;omega)
  have hs:je f x (b.take (k+1))=je f x (b.take k)++if f (x++y)then [x++y]else []:=by
   unfold je;rw[List.take_add_one,hk,List.map_append,List.filter_append];cases h:f (x++y)<;>simp[h]
  rw[concat2 x y (by omega) (by have:=hb y (eM hk);omega),bPs,he,bPs,hs];simp only[bM,hf];cases hz:f (x++y)with
  |true=>
   rw[zc,bI (by decide) (by simp;omega),bPs];simp
  |false=>simp),List.take_length]
theorem padR_len(f:Rq->Bool)(left:Bool)(pad x:Rq)(b:Rows):(padR f left pad x b).length<=max 1 b.length:=by
 unfold padR;split
 ·simp;omega
 ·have:(je f x b).length<=b.length:=by
   unfold je;exact Nat.le_trans (List.length_filter_le _ _) (by simp)
  omega
theorem tG(f:Rq->Bool)(left:Bool)(pad:Rq)(a b:Rows):(lx f left pad a b).length<=a.length*max 1 b.length:=by
 unfold lx;induction a with
 |nil=>simp
 |cons x a ih=>
  have:=padR_len f left pad x b
  simp only[List.map_cons,List.flatten_cons,List.length_append,List.length_cons,Nat.add_mul,Nat.one_mul];omega
def fS(key:Rq->Rq):Rows->Rows->Rows
 |ks,[]=>ks
 |ks,x::l=>fS key (if key x∈ks then ks else ks++[key x]) l
theorem keysF_app(key:Rq->Rq):∀(l l' ks:Rows),fS key ks (l++l')=fS key (fS key ks l) l'
 |[],_,_=>rfl
 |x::l,l',ks=>by rw[List.cons_append,fS,keysF_app key l l',fS]
theorem uW(key:Rq->Rq):∀(l ks:Rows),ks.Nodup->(fS key ks l).Nodup
 |[],_,h=>h
 |x::l,ks,h=>by
  rw[fS];refine uW key l _ ?_;split
  ·exact h
  ·rename_i hx;rw[List.nodup_append]
   exact⟨h,by simp,fun a ha b hb hab=>by simp at hb;exact hx (hb▸hab▸ha)⟩
theorem qL(key:Rq->Rq):∀(l ks:Rows) (k:Rq),k∈fS key ks l↔k∈ks\/∃x∈l,key x=k
 |[],ks,k=>by simp[fS]
 |x::l,ks,k=>by
  rw[fS,qL key l];split
  ·rename_i h;constructor
   ·rintro(h1|⟨y,hy,e⟩)
    ·exact .inl h1
    ·exact .inr ⟨y,by simp[hy],e⟩
   ·rintro(h1|⟨y,hy,e⟩)
    ·exact .inl h1
    ·rcases List.mem_cons.1 hy with rfl|hy
     ·exact .inl (e▸h)
     ·exact .inr ⟨y,hy,e⟩
  ·constructor
   ·rintro(h1|⟨y,hy,e⟩)
    ·rcases List.mem_append.1 h1 with h1|h1
     ·exact .inl h1
     ·exact .inr ⟨x,by simp,by simp at h1;exact h1.symm⟩
    ·exact .inr ⟨y,by simp[hy],e⟩
   ·rintro(h1|⟨y,hy,e⟩)
    ·exact .inl (by simp[h1])
    ·rcases List.mem_cons.1 hy with rfl|hy
     ·exact .inl (by simp[e])
     ·exact .inr ⟨y,hy,e⟩
theorem qU(key:Rq->Rq):∀(l ks:Rows),(fS key ks l).length<=ks.length+l.length
 |[],_=>by simp[fS]
 |x::l,ks=>by
  rw[fS]
  have:=qU key l (if key x∈ks then ks else ks++[key x])
  split at this
  ·rename_i h;rw[zp h];simp;omega
  ·rename_i h;rw[zy h];simp at this⊢;omega
def gu(key:Rq->Rq)(l:Rows)(k:Rq):Rows:=l.filter fun x=>decide (key x=k)
theorem group_run(key:Rq->Rq)(q:LQuery)(r:LRun)(cols:List LCol)(hk:∀x,eg r cols x q.exprs=some (key x))(ks0:Rows)(hn:ks0.Nodup)(l:Rows)(hl:l.length<=1000000)(hks:ks0.length<=1):
  aN (σ:=Rows×List Rows) (ρ:=Empty) (fun(_:Nat) (x2:Rq) (s2:Rows×List Rows)=>
  af (eg r cols x2 q.exprs) fun x38=>
  af (bT s2.1 (fun a0=>hO a0 x38)) fun x41=>
  af (fg (x41.2.length=s2.1.length) ()) fun(_:Unit)=>
  af (
   cond (decide (x41.1<(0:Int)))
    (af (cJ 24 x41.2 ([x38]:Rows)) fun(x49:Rows)=>
    af (cJ 24 s2.2 ([[]]:List Rows)) fun(x52:List Rows)=>
    some (x49,x52,(x41.2.length:Int)))
    (some (x41.2,s2.2,x41.1))) fun(t7:Rows×List Rows×Int)=>
  af (aP t7.2.1 t7.2.2) fun(x57:Rows)=>
  af (cJ 24 x57 ([x2]:Rows)) fun(x61:Rows)=>
  af (aP t7.2.1 t7.2.2) fun(_:Rows)=>
  letP (t7.2.1.set t7.2.2.toNat x61) fun(y8:List Rows)=>
  some (.next (t7.1,y8))) 0 l (ks0,ks0.map fun _=>[])=some (.next (fS key ks0 l,(fS key ks0 l).map (gu key l))):=by
 rw[rMa (xs:=l) (s:=(ks0,ks0.map fun _=>[])) (fun k=>(fS key ks0 (l.take k),(fS key ks0 (l.take k)).map (gu key (l.take k)))) (by
  show(ks0,ks0.map (gu key []))=_
  congr 1) (fun k x hkx=>by
   have hkl:=(zg.1 hkx).1;have hlen:=qU key (l.take k) ks0;have hlen2:(fS key ks0 (l.take k)).length<=1+k:=by simp at hlen;omega
   have hnd:=uW key (l.take k) ks0 hn;have hmem:∀y∈l.take k,key y∈fS key ks0 (l.take k):=fun y hy=>(qL key _ _ _).2 (.inr ⟨y,hy,rfl⟩)
   have hsucc:l.take (k+1)=l.take k++[x]:=by rw[List.take_add_one,hkx];rfl
   rw[hsucc,keysF_app];generalize hK:fS key ks0 (l.take k)=K at*
   have hgl:∀kk,(gu key (l.take k) kk).length<=k:=fun kk=>by
    unfold gu;exact Nat.le_trans (List.length_filter_le _ _) (by simp;omega)
   rw[hk x,bPs,idxO K (fun y=>decide (key x=y)) _ (fun y _=>by unfold hO;rw[equalRow];rfl) (by omega),bPs];simp only;rw[dW trivial,bPs]
   have hg:∀kk,gu key (l.take k++[x]) kk=gu key (l.take k) kk++if key x=kk then [x]else []:=fun kk=>by
    unfold gu;rw[List.filter_append];congr 1;by_cases h:key x=kk<;>simp[h]
   by_cases hx:key x∈K
   ·have hany:decide (bg (fun y=>decide (key x=y)) K<0)=false:=by
     have:decide (bg (fun y=>decide (key x=y)) K>=0)=true:=by rw[jy,List.any_eq_true];exact⟨_,hx,by simp⟩
     have:=of_decide_eq_true this
     exact zf (by omega)
    have h0:0<=bg (fun y=>decide (key x=y)) K:=by have:=of_decide_eq_false hany;omega
    obtain⟨i,hi⟩:∃i:Nat,bg (fun y=>decide (key x=y)) K=i:=⟨(bg (fun y=>decide (key x=y)) K).toNat,by omega⟩
    obtain⟨z,hz,hzk⟩:=iT h0
    rw[hi,Int.toNat_natCast]at hz;have hzk:key x=z:=by simpa using hzk
    subst hzk;have hiK:=(zg.1 hz).1;rw[hany,zd,bPs,hi];simp only;have hgi:(K.map (gu key (l.take k)))[i]? =some (gu key (l.take k) (key x)):=by rw[List.getElem?_map,hz];rfl
    rw[ji hgi,bPs,bI (by decide) (by have:=hgl (key x);simp;omega),bPs,bPs,bM,Int.toNat_natCast];congr 3
    ·simp[fS,hx]
    ·have hkk:fS key K [x]=K:=by simp[fS,hx]
     rw[hkk];apply List.ext_getElem?;intro j;rw[List.getElem?_set,List.getElem?_map];by_cases hij:i=j
     ·subst hij;rw[zp Z,zp (by simpa using hiK),List.getElem?_map,hz,Option.map_some,hg,zp Z]
     ·rw[zy hij,List.getElem?_map];cases hj:K[j]? with
      |none=>rfl
      |some w=>
       simp only[Option.map_some]
       have hne:key x≠w:=fun he=>by
        subst he;have hjK:=(zg.1 hj).1;rw[List.nodup_iff_pairwise_ne,List.pairwise_iff_getElem]at hnd;have e1:=(zg.1 hz).2;have e2:=(zg.1 hj).2;rcases Nat.lt_or_gt_of_ne hij with h|h
        ·exact hnd i j hiK hjK h (by rw[e1,e2])
        ·exact hnd j i hjK hiK h (by rw[e1,e2])
       rw[hg,zy hne,List.append_nil]
   ·have hany:decide (bg (fun y=>decide (key x=y)) K<0)=true:=by
     have:decide (bg (fun y=>decide (key x=y)) K>=0)=false:=by
      rw[jy,List.any_eq_false];intro y hy he
      have:key x=y:=by simpa using he
      exact hx (this▸hy)
     have:=of_decide_eq_false this
     exact zt (by omega)
    rw[hany,zc,bI (by decide) (by simp;omega),bPs,bI (by decide) (by simp;omega),bPs,bPs];simp only
    have hgi:(K.map (gu key (l.take k))++[[]])[K.length]? =some []:=by
     rw[List.getElem?_append_right (by simp),zl,Nat.sub_self];rfl
    rw[ji hgi,bPs,bI (by decide) (by simp),bPs,bPs,bM,Int.toNat_natCast];have hkk:fS key K [x]=K++[key x]:=by simp[fS,hx]
    rw[hkk];congr 3
    have hold:gu key (l.take k) (key x)=[]:=by
     unfold gu;rw[List.filter_eq_nil_iff];intro y hy he
     have:key y=key x:=by simpa using he
     exact hx (this▸hmem y hy)
    rw[List.map_append,List.set_append_right _ _ (by simp),zl,Nat.sub_self];congr 1
    ·apply List.map_congr_left;intro w hw;have hne:key x≠w:=fun he=>hx (he▸hw)
     rw[hg,zy hne,List.append_nil]
    ·simp[hg,hold])]
 rw[List.take_length]
def rK(op:Rb)(s:Int×LVal)(v:LVal):Int×LVal:=(Iw (s.1+v.int),if(op=sMin/\mQ v s.2=true)\/(op=sMax/\mQ s.2 v=true)then v else s.2)
def computeQ(op:Rb)(l:Rq):LVal:=
 if op=lD then jL l.length else match l with
  |[]=>.nul
  |v::_=>if op=sSum then jL (l.foldl (rK op) (0,v)).1 else(l.foldl (rK op) (0,v)).2
theorem compute_eq(op:Rb)(l:Rq):gB op l=some (computeQ op l):=by
 unfold gB computeQ;by_cases h1:op=lD
 ·subst h1;rfl
 ·have e1:(op==([99,111,117,110,116]:Rb))=false:=by simpa using h1
  rw[e1,zd,zy h1];cases l with
  |nil=>rfl
  |cons v l=>
   have e2:(((v::l).length:Int)==0)=false:=dt (by simp;omega);rw[e2,zd];have e3:aP (v::l) 0=some v:=rfl;rw[e3,bPs]
   rw[rangeM_fold (xs:=v::l) (rK op) (fun k x _=>by
    generalize(((v::l).take k).foldl (rK op) (0,v))=s
    unfold rK;by_cases m:op=sMin
    ·subst m;simp only[bM];cases mQ x s.2<;>simp
    ·have em:(op==([109,105,110]:Rb))=false:=by simpa using m
     rw[em,zd];by_cases n:op=sMax
     ·subst n;simp only[bM];cases mQ s.2 x<;>simp
     ·have en:(op==([109,97,120]:Rb))=false:=by simpa using n
      rw[en,zd];simp[m,n]),bPs,cI]
   by_cases h2:op=sSum
   ·subst h2;rfl
   ·have e4:(op==([115,117,109]:Rb))=false:=by simpa using h2
    rw[e4,zd];simp only;rw[zy h2]
def aggR(r:LRun)(cols:List LCol)(a:LA)(l:Rows):LVal:=match a.args with
 |[]=>jL l.length
 |e::_=>computeQ a.function ((l.map fun x=>dY (bK r cols x) e).filter fun v=>v.kind !=0)
theorem aggR_eq(r:LRun)(cols:List LCol)(a:LA)(l:Rows)(hl:l.length<=1000000):kF r a cols l=some (aggR r cols a l):=by
 unfold kF aggR;cases ha:a.args with
 |nil=>rfl
 |cons e es=>
  have e2:(((e::es).length:Int)==0)=false:=dt (by simp;omega);rw[e2,zd]
  rw[rMa (xs:=l) (s:=[]) (fun k=>((l.take k).map fun x=>dY (bK r cols x) e).filter fun v=>v.kind !=0) Z (fun k x hk=>by
   have hkl:=(zg.1 hk).1;have e3:aP (e::es) 0=some e:=rfl;rw[e3];simp only[bPs,bM];have hb:(((l.take k).map fun x=>dY (bK r cols x) e).filter fun v=>v.kind !=0).length<=k:=Nat.le_trans (List.length_filter_le _ _) (by simp;omega);rw[List.take_add_one,hk,List.map_append,List.filter_append];cases hv:(dY (bK r cols x) e).kind !=0 with
   |true=>
    rw[zc,bI (by decide) (by simp at hb⊢;omega),bPs];simp[hv]
   |false=>simp[hv]),bPs,cI,List.take_length,compute_eq]
  rfl
def po(r:LRun)(cols:List LCol)(q:LQuery)(l:Rows):Rows:=
 (fS (fun x=>q.exprs.map fun e=>dY (bK r cols x) e) (if q.exprs=[]then [[]]else []) l).map fun k=>
  k++q.aggregates.map fun a=>aggR r cols a (gu (fun x=>q.exprs.map fun e=>dY (bK r cols x) e) l k)
theorem group_eq(r:LRun)(cols:List LCol)(q:LQuery)(l:Rows)(hl:l.length<=999999)(he:q.exprs.length<=1000000)(ha:q.aggregates.length<=1000000):jK r q cols l=some (po r cols q l):=by
 unfold jK po;generalize hkey:(fun x=>q.exprs.map fun e=>dY (bK r cols x) e)=key;have hk:∀x,eg r cols x q.exprs=some (key x):=fun x=>by rw[sS r cols x q.exprs (by omega),<-hkey]
 have hinit:(cond ((q.exprs.length:Int)==(0:Int)) (([[]],[[]])) (([],[])):Rows×List Rows)=((if q.exprs=[]then [[]]else []),((if q.exprs=[]then [[]]else []):Rows).map fun _=>[]):=by
  cases q.exprs with
  |nil=>rfl
  |cons e es=>rw[show(((e::es).length:Int)==0)=false from dt (by simp;omega)];rfl
 rw[bM,hinit];generalize hks:(if q.exprs=[]then [[]]else []:Rows)=ks0;have hks1:ks0.length<=1:=by rw[<-hks];split<;>simp
 have hks2:ks0.Nodup:=by rw[<-hks];split<;>simp
 rw[group_run key q r cols hk ks0 hks2 l (by omega) hks1,bPs,cI];generalize hK:fS key ks0 l=K;have hKl:K.length<=1000000:=by rw[<-hK];have:=qU key l ks0;omega
 simp only;rw[dW (by rw[zl];omega),bPs,pp (by omega),bPs,Int.toNat_natCast]
 have hgl:∀kk,(gu key l kk).length<=1000000:=fun kk=>by
  unfold gu;exact Nat.le_trans (List.length_filter_le _ _) (by omega)
 have hkl:∀k∈K,k.length<=1000000:=fun k hkm=>by
  rw[<-hK]at hkm
  rcases(qL key l ks0 k).1 hkm with h|⟨x,_,rfl⟩
  ·rw[<-hks]at h;split at h
   ·simp at h;subst h;simp
   ·simp at h
  ·rw[<-hkey];simpa using he
 rw[rMa (xs:=List.range K.length) (s:=[]) (fun j=>(K.take j).map fun k=>k++q.aggregates.map fun a=>aggR r cols a (gu key l k)) Z (fun j n hj=>by
  obtain⟨hjl,hjn⟩:=zg.1 hj
  simp at hjl;rw[fJ hjl,bPs];have hg:(K.map (gu key l))[j]? =some (gu key l K[j]):=by rw[List.getElem?_map,ze hjl];rfl
  rw[rMa (xs:=q.aggregates) (s:=K[j]) (fun i=>K[j]++(q.aggregates.take i).map fun a=>aggR r cols a (gu key l K[j])) (by simp) (fun i a hi=>by
   have hil:=(zg.1 hi).1;have hkj:=hkl K[j] (List.getElem_mem hjl);rw[ji hg,bPs,aggR_eq r cols a _ (hgl _),bPs,bI (by decide) (by simp;omega),bPs,List.take_add_one,hi];simp),bPs,cI,bI (by decide) (by simp;omega),bPs,List.take_length]
  congr 2;rw[List.take_add_one,ze hjl,List.map_append];rfl),bPs,cI]
 simp
theorem idxOC(l:(List LCol))(p:LCol->Bool)(f:LCol->Option Bool)(hf:∀x∈l,f x=some (p x))(hl:l.length<=10000000):cS l f=some (bg p l,l):=by
 unfold cS;rw[pp (by omega),bPs,Int.toNat_natCast]
 obtain⟨fl,hfl,hr⟩:=fI (step:=fun(j1:Nat) (_:Nat) (s1:(List LCol))=>af (aP s1 (j1:Int)) fun(x14:LCol)=>af (f x14) fun x16=>cond x16 (some (Flow.ret ((j1:Int),s1))) (some (.next s1)))
  (fun j s=>s=l/\∀x∈l.take j,p x=false) (fun r=>r=(bg p l,l)) (List.range l.length) 0 l ⟨rfl,by simp⟩ (fun k v s hk hI=>by
   simp only[Nat.zero_add]at hI⊢;have hkl:=(zg.1 hk).1;simp at hkl
   obtain⟨rfl,hI⟩:=hI
   rw[fJ hkl,bPs,hf _ (List.getElem_mem hkl),bPs];cases hp:p s[k]with
   |true=>exact⟨_,rfl,by simp only;rw[oD hkl hI hp]⟩
   |false=>
    refine⟨_,rfl,rfl,fun x hx=>?_⟩
    rw[List.take_add_one,ze hkl,List.mem_append]at hx;rcases hx with hx|hx
    ·exact hI x hx
    ·simp at hx;rw[hx];exact hp)
 rw[hfl,bPs];cases fl with
 |brk s=>exact absurd hr (by simp)
 |ret r=>rw[pU,hr]
 |next s=>
  simp only[Nat.zero_add,List.length_range,List.take_length]at hr;rw[jR,hr.1,kL hr.2]
theorem deleteCol_eq(l:(List LCol))(p:LCol->Bool)(f:LCol->Option Bool)(hf:∀x∈l,f x=some (p x))(hl:l.length<=1000000):cX l f=some (l.filter fun x=>!p x):=by
 unfold cX;rw[idxOC l p f hf (by omega),bPs];simp only;rw[dW trivial,bPs];by_cases hneg:bg p l=-1
 ·rw[lO hneg,zc];congr 1
  symm
  rw[List.filter_eq_self];intro x hx
  have:decide (bg p l>=0)=false:=by rw[hneg];rfl
  rw[jy]at this
  have:=List.any_eq_false.1 this x hx
  simpa using this
 ·rw[dt hneg,zd];have h0:0<=bg p l:=by rcases idxOf_neg (p:=p) (l:=l)with h|h;exact absurd h hneg;exact h
  obtain⟨i,hi⟩:∃i:Nat,bg p l=i:=⟨(bg p l).toNat,by omega⟩
  have hil:i<l.length:=by have:=tL h0;omega
  have hpre:(l.take i).filter (fun x=>!p x)=l.take i:=by
   rw[List.filter_eq_self];intro x hx
   have:l.findIdx? p=some i:=by
    unfold bg at hi;cases hq:l.findIdx? p with
    |none=>rw[hq]at hi;simp at hi
    |some j=>rw[hq]at hi;exact congrArg some (by have hi:(j:Int)=(i:Int):=hi;omega)
   obtain⟨_,_,hlt⟩:=List.findIdx?_eq_some_iff_getElem.1 this
   obtain⟨j,hj,rfl⟩:=List.mem_take_iff_getElem.1 hx
   simp[hlt j (by omega)]
  have hpi:p l[i]=true:=by
   obtain⟨x,hx,hp⟩:=iT h0
   rw[hi,Int.toNat_natCast,ze hil]at hx;cases hx;exact hp
  rw[hi,wW (n:=(i:Int)+1) (by omega) (by omega)]
  obtain⟨r,hr,hq⟩:=gW (step:=fun(s1:(List LCol)×Int×Int)=>
   cond (decide (s1.2.2<(s1.1.length:Int)))
    (af (aP s1.1 s1.2.2) fun(x24:LCol)=>af (f x24) fun x28=>cond (!x28) (af (aP s1.1 s1.2.1) fun(_:LCol)=>letP (s1.1.set s1.2.1.toNat x24) fun(y4:(List LCol))=>some (.next (y4,(Iw (s1.2.1+(1:Int))),(Iw (s1.2.2+(1:Int))))))
     (some (.next (s1.1,s1.2.1,(Iw (s1.2.2+(1:Int)))))))
    (some (.brk (s1.1,s1.2.1,s1.2.2)))) (s:=(l,(i:Int),(i:Int)+1)) (k:=fun(s1:(List LCol)×Int×Int)=>af (pC s1.1 s1.2.1) fun(y5:(List LCol))=>af (pC y5 s1.2.1) fun(y6:(List LCol))=>some y6) (R:=fun r=>r=l.filter fun x=>!p x)
   (fun s=>∃a j:Nat,s.2.1=a/\s.2.2=j/\a<j/\j<=l.length/\s.1.length=l.length/\s.1.take a=(l.take j).filter (fun x=>!p x)/\s.1.drop j=l.drop j) (fun s=>(l.length-s.2.2).toNat)
   (fun s=>∃a:Nat,s.2.1=a/\a<=s.1.length/\s.1.take a=l.filter fun x=>!p x)
   ⟨i,i+1,rfl,by show(i:Int)+1=((i+1:Nat):Int);omega,by omega,by omega,rfl,by
    show l.take i=_;rw[List.take_add_one,ze hil,List.filter_append,hpre];simp[hpi],rfl⟩
   (fun s hI=>by
    obtain⟨a,j,h1,h2,h3,h4,h5,h6,h7⟩:=hI
    obtain⟨d,s1,s2⟩:=s
    simp only at h1 h2 h5 h6 h7⊢;subst h1;subst h2;by_cases hlt:j<l.length
    ·rw[zt (show(j:Int)<(d.length:Int)from by omega),zc,fJ (by omega),bPs]
     have hdj:d[j]? =l[j]?:=by
      have:=congrArg (fun q=>q[0]?) h7
      simpa using this
     have hdje:d[j]=l[j]:=by
      rw[ze (by omega),ze hlt]at hdj;exact Option.some.inj hdj
     have hdrop:∀e:(List LCol),e.drop j=l.drop j->e.drop (j+1)=l.drop (j+1):=fun e he=>by
      rw[<-List.drop_drop,<-List.drop_drop,he]
     rw[hdje,hf _ (List.getElem_mem hlt),bPs,wW (n:=(j:Int)+1) (by omega) (by omega),wW (n:=(a:Int)+1) (by omega) (by omega)];cases hp:p l[j]with
     |true=>
      refine⟨_,rfl,⟨a,j+1,rfl,by show(j:Int)+1=((j+1:Nat):Int);omega,by omega,by omega,h5,?_,hdrop d h7⟩,by show((l.length:Int)-((j:Int)+1)).toNat<((l.length:Int)-(j:Int)).toNat;omega⟩
      show d.take a=_;rw[h6,List.take_add_one,ze hlt,List.filter_append];simp[hp]
     |false=>
      simp only[Bool.not_false,zc];rw[fJ (by omega),bPs,bM,Int.toNat_natCast]
      refine⟨_,rfl,⟨a+1,j+1,by show(a:Int)+1=((a+1:Nat):Int);omega,by show(j:Int)+1=((j+1:Nat):Int);omega,by omega,by omega,by show(d.set a l[j]).length=l.length;simp[h5],?_,?_⟩,by show((l.length:Int)-((j:Int)+1)).toNat<((l.length:Int)-(j:Int)).toNat;omega⟩
      ·show(d.set a l[j]).take (a+1)=_
       rw[List.take_add_one,List.getElem?_set_self (by omega),List.take_set_of_le (by omega),h6,List.take_add_one,ze hlt,List.filter_append];simp[hp]
      ·show(d.set a l[j]).drop (j+1)=_
       rw[List.drop_set_of_lt (by omega)];exact hdrop d h7
    ·rw[zf (show ¬(j:Int)<(d.length:Int)from by omega)]
     refine⟨_,rfl,a,rfl,by show a<=d.length;omega,?_⟩
     show d.take a=_;rw[h6,List.take_of_length_le (by omega)])
   (fun s hq=>by
    obtain⟨a,h1,h2,h3⟩:=hq
    rw[h1];unfold pC;rw[zp ⟨by omega,by simpa using h2⟩,bPs,Int.toNat_natCast,zp ⟨by omega,by simp;omega⟩,bPs,List.take_take,Nat.min_self]
    exact⟨_,rfl,h3⟩)
  rw[<-hq];exact hr
def SizeOk(q:LQuery):Prop:=(cY q).length<=24/\kl q<=12/\(bP q).2<=20000
instance(q:LQuery):Decidable (SizeOk q):=by unfold SizeOk;infer_instance
theorem check_eq{s:LSchema}{vars:List LCol}{q:LQuery}(h:SmallQ q):∃cs e,hZ s vars q=some (cs,e)/\(e=0↔SizeOk q/\rO (mt q)/\(gz ⟨s,vars⟩ q).2=0)/\(e=0->cs=(gz ⟨s,vars⟩ q).1):=by
 unfold hZ;rw[nodes_ok q h.nodes,bPs];by_cases h1:(cY q).length<=24
 ·rw[zf (show ¬((cY q).length:Int)>24 from by omega),zd,depth_ok q h.nodes,bPs];by_cases h2:kl q<=12
  ·rw[zf (show ¬kl q>12 from by omega),zd];unfold gV;rw[most_ok,bPs,bPs];by_cases h3:(bP q).2<=20000
   ·rw[zf (show ¬(bP q).2>20000 from by omega),bPs,zd,kinds_ok h.nodes,bPs];cases hb:(eN q).2.1 with
    |true=>
     refine⟨[],13,rfl,⟨fun h=>by omega,fun hh=>?_⟩,fun h=>by omega⟩
     rw[kinds_bad.2 hh.2.1]at hb;cases hb
    |false=>
     have hk:=kinds_bad.1 hb;simp only[zd];rw[cols_ok _ q h]
     refine⟨(gz ⟨s,vars⟩ q).1,(gz ⟨s,vars⟩ q).2,rfl,⟨fun h0=>⟨⟨h1,h2,h3⟩,hk,h0⟩,fun hh=>hh.2.2⟩,fun _=>rfl⟩
   ·rw[zt (show(bP q).2>20000 from by omega)]
    exact⟨[],2,rfl,⟨fun h=>by omega,fun hh=>absurd hh.1.2.2 h3⟩,fun h=>by omega⟩
  ·rw[zt (show kl q>12 from by omega)]
   exact⟨[],2,rfl,⟨fun h=>by omega,fun hh=>absurd hh.1.2.1 h2⟩,fun h=>by omega⟩
 ·rw[zt (show((cY q).length:Int)>24 from by omega)]
  exact⟨[],2,rfl,⟨fun h=>by omega,fun hh=>absurd hh.1.1 h1⟩,fun h=>by omega⟩
structure TinyQ(q:LQuery):Prop where
 nodes:(cY q).length<=2000000
 here:∀x∈cY q,x.exprs.length<=1000000/\x.aggregates.length<=1000000
theorem TinyQ.small{q:LQuery}(h:TinyQ q):SmallQ q:=⟨by have:=h.nodes;omega,h.here⟩
theorem tT{H:Type}:∀ds:List (DataW H),(ds.map (fun d=>Rows.uptoBulk d)).sum=Rows.uptoBulkAll ds
 |[]=>by simp[Rows.uptoBulkAll]
 |d::ds=>by simp only[List.map_cons,List.sum_cons,Rows.uptoBulkAll,tT ds]
theorem bulk_is:IsBulk (fun _ d=>Rows.uptoBulk d) where
 one:=by
  intro H d;cases d with
  |lit l=>cases l<;>simp[Rows.uptoBulk]
  |nil=>simp[Rows.uptoBulk]
  |ptr d=>simp[Rows.uptoBulk]
  |slice elems spare=>simp[Rows.uptoBulk]
  |agg parts=>simp[Rows.uptoBulk]
  |iface t d=>simp[Rows.uptoBulk]
  |map entries=>simp[Rows.uptoBulk]
  |held h=>simp[Rows.uptoBulk]
 str:=by intro H l;simp[Rows.uptoBulk]
 slice:=by intro H a b;rw[tT];simp only[Rows.uptoBulk];omega
 agg:=by intro H a;rw[tT];simp only[Rows.uptoBulk];omega
theorem lc{r:List PV}:∀{rs:List (List PV)},r∈rs->bN r<=gR rs
 |x::rs,h=>by
  simp only[gR];rcases List.mem_cons.1 h with rfl|h
  ·omega
  ·have:=lc h;omega
theorem nR{α:Type}{f:α->List PV}{k:Nat}(hf:∀x,k<=bN (f x)):∀l:List α,k*l.length<=gR (l.map f)
 |[]=>by simp
 |x::l=>by
  have:=nR hf l
  have:=hf x
  simp only[List.map_cons,gR,List.length_cons,Nat.mul_add];omega
theorem expr_pos(e:LExpr):2<=bN (ft e):=by
 cases e;simp only[ft,bN,PV.bulk];omega
theorem call_pos(c:LA):2<=bN (oS c):=by
 simp only[oS,bN,PV.bulk];omega
theorem smallS_bulk{s:LSchema}{n:Nat}(hn:n<=10000000)(h:bN (cy s)<=n):SmallS s:=by
 intro t ht
 have h1:gR (s.tables.map bv)<=bN (cy s):=by
  simp only[cy,bN,PV.bulk];omega
 have h2:=lc (List.mem_map_of_mem (f:=bv) ht)
 have h3:gR (t.primaryKey.map bQ)<=bN (bv t):=by
  simp only[bv,bN,PV.bulk];omega
 have h4:=nR (f:=bQ) (k:=1) (fun x=>by simp[bN,PV.bulk]) t.primaryKey;omega
theorem nodes_bulk:∀q:LQuery,(cY q).length+1<=bN (dv q)/\∀x∈cY q,2*x.exprs.length<=bN (dv q)/\2*x.aggregates.length<=bN (dv q):=by
 apply LQuery.ind;intro q ih;have e:bN (dv q)=bN (aY q):=by rw[cN]
 have hr:gR (q.inputs.map dv)+8<=bN (aY q):=by
  simp only[aY,bN,PV.bulk];omega
 have hsum:∀l:List LQuery,(∀x∈l,x∈q.inputs)->((l.map cY).flatten).length+l.length<=gR (l.map dv):=by
  intro l;induction l with
  |nil=>intro _;simp
  |cons x l ihl=>
   intro hm;have h1:=(ih x (hm x (by simp))).1;have h2:=ihl (fun y hy=>hm y (by simp[hy]));simp only[List.map_cons,List.flatten_cons,List.length_append,List.length_cons,gR];omega
 have h0:=hsum q.inputs (fun _ h=>h);rw[e]
 refine⟨?_,fun x hx=>?_⟩
 ·rw[kH];simp only[List.length_cons];omega
 ·rw[kH]at hx;rcases List.mem_cons.1 hx with rfl|hx
  ·have h1:=nR expr_pos x.exprs;have h2:=nR call_pos x.aggregates;constructor
   ·simp only[aY,bN,PV.bulk];omega
   ·simp only[aY,bN,PV.bulk];omega
  ·simp only[List.mem_flatten,List.mem_map]at hx
   obtain⟨l,⟨y,hy,rfl⟩,hx⟩:=hx
   have h1:=(ih y hy).2 x hx;have h2:=lc (List.mem_map_of_mem (f:=dv) hy);omega
theorem tiny_bulk{q:LQuery}{n:Nat}(hn:n<=1048576)(h:bN (aY q)<=n):TinyQ q:=by
 rw[<-cN]at h
 have:=nodes_bulk q
 exact⟨by omega,fun x hx=>by have:=this.2 x hx;omega⟩
theorem qX{β:Type}{F:Nat->Option β}{v:Option β}(n:Nat)(h:∀m,n<=m->F m=v):ij F=v:=by
 cases v with
 |some r=>exact rW n h
 |none=>
  cases hl:ij F with
  |none=>rfl
  |some r=>
   obtain⟨k,hk⟩:=limN_ev hl
   have:=hk (max n k) (Nat.le_max_right n k)
   rw[h _ (Nat.le_max_left n k)]at this;cases this
theorem st_lt{l:List LS}{s:LS}(h:s∈l):SizeOf.sizeOf s.body<SizeOf.sizeOf l/\SizeOf.sizeOf s.elseF<SizeOf.sizeOf l:=by
 have:=List.sizeOf_lt_of_mem h
 cases s;simp only[LS.body,LS.elseF,LS.mk.sizeOf_spec]at this⊢;omega
theorem rZ{p:List LS->Prop}(h:∀l:List LS,(∀s∈l,p s.body/\p s.elseF)->p l):∀l,p l:=by
 intro l;generalize hn:SizeOf.sizeOf l=n;induction n using Nat.strongRecOn generalizing l with
 |_ n ih=>exact h l fun s hs=>⟨ih _ (hn▸(st_lt hs).1) _ Z,ih _ (hn▸(st_lt hs).2) _ Z⟩
def iB(l:List LS):Nat:=(l.attach.map fun s=>1+iB s.1.body+iB s.1.elseF).sum
termination_by SizeOf.sizeOf l
decreasing_by
 ·exact(st_lt s.2).1
 ·exact(st_lt s.2).2
theorem ru(l:List LS):iB l=(l.map fun s=>1+iB s.body+iB s.elseF).sum:=by
 rw[iB,List.attach_map_val (f:=fun s:LS=>1+iB s.body+iB s.elseF)]
theorem sum_mem{α:Type}{f:α->Nat}:∀{l:List α} {x:α},x∈l->f x<=(l.map f).sum
 |y::l,x,h=>by
  simp only[List.map_cons,List.sum_cons];rcases List.mem_cons.1 h with rfl|h
  ·omega
  ·have:=sum_mem (f:=f) h;omega
theorem cntS_mem{l:List LS}{s:LS}(h:s∈l):1+iB s.body+iB s.elseF<=iB l:=by
 rw[ru l];exact sum_mem (f:=fun s:LS=>1+iB s.body+iB s.elseF) h
theorem sum_take{α:Type}{f:α->Nat}:∀{l:List α} {k:Nat},((l.take k).map f).sum<=(l.map f).sum
 |[],k=>by simp
 |y::l,0=>by simp
 |y::l,k+1=>by simp only[List.take_succ_cons,List.map_cons,List.sum_cons];have:=sum_take (f:=f) (l:=l) (k:=k);omega
theorem cntS_take{l:List LS}{k:Nat}{x:LS}(hk:l[k]? =some x):iB (l.take (k+1))=iB (l.take k)+(1+iB x.body+iB x.elseF)/\iB (l.take (k+1))<=iB l:=by
 rw[ru (l.take (k+1)),ru (l.take k),ru l]
 refine⟨?_,sum_take⟩
 rw[List.take_add_one,hk];simp
theorem stmts_both:∀l:List LS,(∃N,∀n,N<=n->dJ n l=cd l)/\cd l=dK cd l:=by
 refine rZ fun l ih=>?_
 obtain⟨N,hN⟩:=qA (p:=fun(s:LS) n=>dJ n s.body=cd s.body/\dJ n s.elseF=cd s.elseF) l (fun s hs=>by
  obtain⟨⟨⟨a,ha⟩,_⟩,⟨⟨b,hb⟩,_⟩⟩:=ih s hs
  exact⟨a+b,fun n hn=>⟨ha n (by omega),hb n (by omega)⟩⟩)
 have key:∀n,N+1<=n->dJ n l=dK cd l:=by
  intro n hn
  obtain⟨n,rfl⟩:∃k,n=k+1:=⟨n-1,by omega⟩
  show dK (fun b0=>dJ n b0) l=_;simp only[dK];congr 1
  exact jv l 0 _ fun k s t hk=>by
   obtain⟨h1,h2⟩:=hN n (by omega) s (eM hk)
   simp only[h1,h2]
 have e:cd l=dK cd l:=qX (N+1) key
 exact⟨⟨N+1,fun n hn=>by rw[key n hn,e]⟩,e⟩
theorem depth_both:∀l:List LS,(∃N,∀n,N<=n->fo n l=eh l)/\eh l=fp eh l:=by
 refine rZ fun l ih=>?_
 obtain⟨N,hN⟩:=qA (p:=fun(s:LS) n=>fo n s.body=eh s.body/\fo n s.elseF=eh s.elseF) l (fun s hs=>by
  obtain⟨⟨⟨a,ha⟩,_⟩,⟨⟨b,hb⟩,_⟩⟩:=ih s hs
  exact⟨a+b,fun n hn=>⟨ha n (by omega),hb n (by omega)⟩⟩)
 have key:∀n,N+1<=n->fo n l=fp eh l:=by
  intro n hn
  obtain⟨n,rfl⟩:∃k,n=k+1:=⟨n-1,by omega⟩
  show fp (fun b0=>fo n b0) l=_;simp only[fp];congr 1
  exact jv l 0 _ fun k s t hk=>by
   obtain⟨h1,h2⟩:=hN n (by omega) s (eM hk)
   simp only[h1,h2]
 have e:eh l=fp eh l:=qX (N+1) key
 exact⟨⟨N+1,fun n hn=>by rw[key n hn,e]⟩,e⟩
theorem body_both:∀l:List LS,(∃N,∀n,N<=n->∀c vars,ck n c vars l=bw c vars l)/\
  (∀c vars,bw c vars l=dr bw bY c vars l)/\
  ∀s∈l,∀c vars,bY c vars s=cz bw bY c vars s:=by
 refine rZ fun l ih=>?_
 have hs:∀s∈l,(∃N,∀n,N<=n->∀c vars,cB n c vars s=bY c vars s)/\∀c vars,bY c vars s=cz bw bY c vars s:=by
  intro s hsm
  obtain⟨⟨⟨a,ha⟩,_,_⟩,⟨⟨b,hb⟩,_,_⟩⟩:=ih s hsm
  have key:∀n,a+b+1<=n->∀c vars,cB n c vars s=cz bw bY c vars s:=by
   intro n hn c vars
   obtain⟨n,rfl⟩:∃k,n=k+1:=⟨n-1,by omega⟩
   show cz (fun b0 b1 b2=>ck n b0 b1 b2) (fun b0 b1 b2=>cB n b0 b1 b2) c vars s=_;have h1:∀v,ck n c v s.body=bw c v s.body:=fun v=>ha n (by omega) c v
   have h2:∀v,ck n c v s.elseF=bw c v s.elseF:=fun v=>hb n (by omega) c v
   simp only[cz,h1,h2]
  have e:∀c vars,bY c vars s=cz bw bY c vars s:=fun c vars=>qX _ (fun m hm=>key m hm c vars)
  exact⟨⟨a+b+1,fun n hn c vars=>by rw[key n hn,e]⟩,e⟩
 obtain⟨N,hN⟩:=qA (p:=fun(s:LS) n=>∀c vars,cB n c vars s=bY c vars s) l (fun s h=>(hs s h).1)
 have key:∀n,N+1<=n->∀c vars,ck n c vars l=dr bw bY c vars l:=by
  intro n hn c vars
  obtain⟨n,rfl⟩:∃k,n=k+1:=⟨n-1,by omega⟩
  show dr (fun b0 b1 b2=>ck n b0 b1 b2) (fun b0 b1 b2=>cB n b0 b1 b2) c vars l=_;simp only[dr];congr 1
  exact jv l 0 _ fun k s t hk=>by
   have h1:=hN n (by omega) s (eM hk);simp only[h1]
 have e:∀c vars,bw c vars l=dr bw bY c vars l:=fun c vars=>qX (N+1) (fun m hm=>key m hm c vars)
 exact⟨⟨N+1,fun n hn c vars=>by rw[key n hn,e]⟩,e,fun s h=>(hs s h).2⟩
theorem stmts_ok:∀l:List LS,iB l<=1000000->∃r,cd l=some r/\r.length=iB l:=by
 refine rZ fun l ih hc=>?_
 rw[(stmts_both l).2];simp only[dK]
 obtain⟨fl,h1,h2⟩:=fI (step:=fun(_:Nat) (x1:LS) (s1:List LS)=>
  af (cJ 192 s1 ([x1]:List LS)) fun(x15:List LS)=>
  af (cd x1.body) fun x19=>
  af (cJ 192 x15 x19) fun(x20:List LS)=>
  af (cd x1.elseF) fun x24=>
  af (cJ 192 x20 x24) fun(x25:List LS)=>
  some (Flow.next (ρ:=Empty) x25)) (fun j (s:List LS)=>s.length=iB (l.take j)) (fun _=>False) l 0 [] (by rw[List.take_zero,ru];rfl) (fun k x s hk hI=>by
   simp only[Nat.zero_add]at hI⊢;have hx:=eM hk;have hm:=cntS_mem hx
   obtain⟨h3,h4⟩:=cntS_take hk
   obtain⟨r1,e1,l1⟩:=(ih x hx).1 (by omega)
   obtain⟨r2,e2,l2⟩:=(ih x hx).2 (by omega)
   refine⟨.next (((s++[x])++r1)++r2),?_,?_⟩
   ·rw[bI (by decide) (by simp;omega),bPs,e1,bPs,bI (by decide) (by simp;omega),bPs,e2,bPs,bI (by decide) (by simp;omega),bPs]
   ·simp only[List.length_append,List.length_cons,List.length_nil];omega)
 rw[h1,bPs];cases fl with
 |next s=>exact⟨s,rfl,by simpa using h2⟩
 |brk s=>exact absurd h2 (by simp)
 |ret r=>exact r.elim
theorem depth_tot:∀l:List LS,Tot (eh l):=by
 refine rZ fun l ih=>?_
 rw[(depth_both l).2];simp only[fp];refine Tot.bind (Tot.range _ _ _ fun k x s hk=>?_) fun fl _=>?_
 ·exact Tot.bind (ih x (eM hk)).1 fun _ _=>Tot.bind (ih x (eM hk)).2 fun _ _=>Tot.mk
 ·cases fl with
  |next s=>exact Tot.mk
  |brk s=>exact Tot.mk
  |ret r=>exact r.elim
theorem shapeP1(l:List Int)(s:LS):ce l s=some (l.any fun x=>s.kind==x):=by
 unfold ce;rw[tW,bPs]
theorem shapeP_tot(s:LS):Tot (gS s):=by
 unfold gS;simp only[shapeP1,bPs];refine Tot.letP ?_
 repeat' (first|exact Tot.mk|refine Tot.cond (fun _=>?_) (fun _=>?_)|refine Tot.bind ?_ (fun _ _=>?_))
structure ShapeP(s:LS):Prop where
 one:s.kind=1\/s.kind=2->s.exprs.length=1
 query:s.kind=3\/s.kind=7->s.query.length=1
 wher:s.kind=5\/s.kind=6->s.whereF.length=1
 upd:s.kind=5->s.exprs.length=s.names.length
 del:s.kind=6->s.exprs.length=0
 code:s.kind=8->1<=s.code/\s.code<=100
theorem orE{a:Bool}{y:Option Bool}(h:cond a (some a) y=some false):a=false/\y=some false:=by
 cases a
 ·exact⟨rfl,h⟩
 ·cases h
theorem orT{a b:Bool}(h:cond a (some true) (some b)=some false):a=false/\b=false:=by
 cases a
 ·exact⟨rfl,Option.some.inj h⟩
 ·cases h
theorem cond_someB{b:Bool}{x y:Option Bool}(h:cond b x y=some true):(b=true/\x=some true)\/(b=false/\y=some true):=by
 cases b
 ·exact .inr ⟨rfl,h⟩
 ·exact .inl ⟨rfl,h⟩
theorem shapeP_ok{s:LS}(h:gS s=some true):ShapeP s:=by
 unfold gS at h;simp only[shapeP1,bPs,bM]at h
 obtain⟨t7,hX,hE⟩:=aq h
 cases t7 with
 |true=>cases hE
 |false=>
 obtain⟨_,h1⟩:=orE hX
 obtain⟨_,h2⟩:=orE h1
 obtain⟨_,h3⟩:=orE h2
 obtain⟨t8,h4,h5⟩:=aq h3
 obtain⟨rfl,h6⟩:=orE h5
 obtain⟨q1,_⟩:=orT h4
 obtain⟨t9,h7,h8⟩:=aq h6
 obtain⟨rfl,_⟩:=orE h8
 obtain⟨w1,_⟩:=orT h7
 simp only[List.any_cons,List.any_nil,Bool.or_false,zd]at q1 w1 hE
 refine⟨?_,?_,?_,?_,?_,?_⟩
 ·intro k;rw[show(s.kind==1||s.kind==2)=true from by simpa using k,zc]at hE
  have:=Option.some.inj hE
  simp at this;omega
 ·intro k;rw[show(s.kind==3||s.kind==7)=true from by simpa using k]at q1;simp at q1;omega
 ·intro k;rw[show(s.kind==5||s.kind==6)=true from by simpa using k]at w1;simp at w1;omega
 ·intro k;rw[k,show((5:Int)==1||(5:Int)==2)=false from Z,zd,show((5:Int)==5)=true from Z,zc]at hE
  obtain⟨a,_⟩|⟨_,a⟩:=cond_someB hE
  ·have:(s.exprs.length:Int)=s.names.length:=by simpa using a
   omega
  ·cases a
 ·intro k;rw[k,show((6:Int)==1||(6:Int)==2)=false from Z,zd,show((6:Int)==5)=false from Z,zd,show((6:Int)==8)=false from Z,zd,show((6:Int)==4)=false from Z,zd]at hE
  have:(s.exprs.length:Int)=0:=by simpa using Option.some.inj hE
  omega
 ·intro k;rw[k,show((8:Int)==1||(8:Int)==2)=false from Z,zd,show((8:Int)==5)=false from Z,zd,show((8:Int)==8)=true from Z,zc]at hE
  obtain⟨a,b⟩|⟨_,a⟩:=cond_someB hE
  ·exact⟨by simpa using a,by simpa using Option.some.inj b⟩
  ·cases a
theorem set_tot{vars:List LCol}{x:LCol}(hl:vars.length<=100000):∃v,jA vars x=some v/\v.length<=vars.length+1:=by
 unfold jA;rw[deleteCol_eq vars (fun a=>gU a x) _ (fun a _=>rfl) (by omega),bPs];have hf:=List.length_filter_le (fun a=>!gU a x) vars;rw[bI (by decide) (by simp only[List.length_cons,List.length_nil];omega),bPs]
 exact⟨_,rfl,by simp only[List.length_append,List.length_cons,List.length_nil];omega⟩
theorem given_tot{c:LC}{q:LQuery}(h:(cY q).length<=10000000):Tot (fe c q):=by
 unfold fe;rw[kinds_ok h,bPs];refine Tot.bind (Tot.range _ _ _ fun k x s hk=>?_) fun fl _=>Tot.thenR fun _ _=>Tot.mk
 refine Tot.cond (fun _=>Tot.cond (fun _=>Tot.mk) fun h=>?_) fun _=>Tot.mk
 refine Tot.bind (Tot.get (by omega) (by simpa using h)) fun _ _=>Tot.cond (fun _=>Tot.mk) fun _=>Tot.mk
theorem rj(c:LC)(cols vars:List LCol)(e:LExpr):Tot (ed c cols vars e):=by
 unfold ed;refine Tot.letP (Tot.cond (fun _=>Tot.mk) fun _=>Tot.bind (given_tot ?_) fun _ _=>Tot.cond (fun _=>Tot.mk) fun _=>Tot.mk);rw[kH];simp[LQuery.inputs]
theorem pred_tot(c:LC)(cols vars:List LCol)(e:LExpr):Tot (ek c cols vars e):=by
 unfold ek;exact Tot.bind (rj c cols vars e) fun _ _=>Tot.cond (fun _=>Tot.cond (fun _=>Tot.cond (fun _=>Tot.mk) fun _=>Tot.mk) fun _=>Tot.mk) fun _=>Tot.mk
theorem vr(l:Rs)(v:Rb):Tot (cw l v):=by
 unfold cw fh;refine Tot.bind (Tot.bind (Tot.range _ _ _ fun k x s hk=>?_) fun fl _=>Tot.thenR fun _ _=>Tot.mk) fun _ _=>Tot.mk
 exact Tot.cond (fun _=>Tot.mk) fun _=>Tot.mk
theorem sJ{rows:Rows}(h:rows.length<=1000000):it rows=some rows:=by
 unfold it
 rw[rMa (xs:=rows) (s:=[]) (fun k=>rows.take k) Z (fun i y hi=>by
  have:=(zg.1 hi).1
  rw[bI (by decide) (by simp;omega),bPs,List.take_add_one,hi];rfl),bPs,cI,List.take_length]
def gP(cols:List LCol)(row:Rq):Prop:=row.length=cols.length
structure RunOk(r:LRun):Prop where
 inst:InstOk r.s r.st
theorem sh{c:LChecker}{q:LQuery}(h:(gz c q).2=0):mB q=true/\(∀x∈q.inputs,(gz c x).2=0)/\(jD c q (q.inputs.map fun x=>(gz c x).1)).2=0/\(gz c q).1=(jD c q (q.inputs.map fun x=>(gz c x).1)).1/\((gz c q).1.map LCol.name).Nodup:=by
 rw[colsQ_eq]at h⊢;unfold qu at h⊢;by_cases h1:mB q=false
 ·simp[h1]at h
 rw[zy h1]at h⊢;by_cases h2:(eE (q.inputs.map (gz c))).2=0
 ·obtain⟨a,b⟩:=sI h2
  have e:(q.inputs.map (gz c)).map (·.1)=q.inputs.map fun x=>(gz c x).1:=by rw[List.map_map];rfl
  rw[e]at b;rw[b]at h⊢;rw[zy (by simpa using h2)]at h⊢;by_cases h3:(jD c q (q.inputs.map fun x=>(gz c x).1)).2=0
  ·rw[zy (by simpa using h3)]at h⊢;by_cases h4:20<(jD c q (q.inputs.map fun x=>(gz c x).1)).1.length
   ·rw[zp h4]at h;simp at h
   ·rw[zy h4]at h⊢;by_cases h5:((jD c q (q.inputs.map fun x=>(gz c x).1)).1.map LCol.name).Nodup
    ·rw[zp h5]at h⊢
     exact⟨by simpa using h1,fun x hx=>a _ (List.mem_map.2 ⟨x,hx,rfl⟩),h3,rfl,h5⟩
    ·rw[zy h5]at h;simp at h
  ·rw[zp h3]at h;exact absurd h h3
 ·rw[zp h2]at h;exact absurd h h2
theorem oJ(vars cols:List LCol):∀(es:List LExpr) (ns:Rs),es.length=ns.length->(cP vars cols es ns).2=0->
  (cP vars cols es ns).1.length=es.length/\∀(i:Nat) (e:LExpr),es[i]? =some e->(fq cols vars e).2.2=0/\∃c,(cP vars cols es ns).1[i]? =some c/\c.kind=(fq cols vars e).1/\c.nullable=(fq cols vars e).2.1
 |[],ns,_,_=>by simp[cP]
 |e::es,[],h,_=>by simp at h
 |e::es,n::ns,hl,h=>by
  simp only[cP]at h⊢;by_cases h1:ep n=false
  ·simp[h1]at h
  rw[zy h1]at h⊢;by_cases h2:(fq cols vars e).2.2=0
  ·rw[zy (by simpa using h2)]at h⊢;by_cases h3:(fq cols vars e).1=0
   ·rw[zp h3]at h;simp at h
   ·rw[zy h3]at h⊢;by_cases h4:(cP vars cols es ns).2=0
    ·rw[zy (by simpa using h4)]
     obtain⟨a,b⟩:=oJ vars cols es ns (by simpa using hl) h4
     refine⟨by simp[a],fun i e' hi=>?_⟩
     cases i with
     |zero=>simp at hi;subst hi;exact⟨h2,_,rfl,rfl,rfl⟩
     |succ i=>simpa using b i e' (by simpa using hi)
    ·rw[zp h4]at h;exact absurd h h4
  ·rw[zp h2]at h;exact absurd h h2
theorem sV(vars cols:List LCol):∀l:List LA,(eP vars cols l).2=0->
  (eP vars cols l).1.length=l.length/\∀(i:Nat) (a:LA),l[i]? =some a->(aggQ vars cols a).2=0/\∃c,(eP vars cols l).1[i]? =some c/\c.kind=(aggQ vars cols a).1/\c.nullable= !(a.function==lD)
 |[],_=>by simp[eP]
 |a::l,h=>by
  simp only[eP]at h⊢;by_cases h1:(aggQ vars cols a).2=0
  ·rw[zy (by simpa using h1)]at h⊢;by_cases h2:(eP vars cols l).2=0
   ·rw[zy (by simpa using h2)]
    obtain⟨x,y⟩:=sV vars cols l h2
    refine⟨by simp[x],fun i b hi=>?_⟩
    cases i with
    |zero=>simp at hi;subst hi;exact⟨h1,_,rfl,rfl,rfl⟩
    |succ i=>simpa using y i b (by simpa using hi)
   ·rw[zp h2]at h;exact absurd h h2
  ·rw[zp h1]at h;exact absurd h h1
theorem gP.append{a b:List LCol}{x y:Rq}(h:gP a x)(h':gP b y):gP (a++b) (x++y):=by
 unfold gP at h h'⊢;rw[List.length_append,List.length_append,h,h']
theorem capI_eq{n:Int}(h:ow n<=20000):ow n=n:=by
 unfold ow at h⊢;by_cases hc:20001<n
 ·rw[zp hc]at h;omega
 ·rw[zy hc]
theorem iM{q:LQuery}(h:(bP q).2<=20000):(bP q).1<=(bP q).2/\∀x∈q.inputs,(bP x).2<=20000:=by
 have key:∀(l:List (Int×Int)) (j:Nat) (s:Int×Int),s.2<=(eZ q.kind j l s).2/\∀x∈l,x.2<=(eZ q.kind j l s).2:=by
  intro l;induction l with
  |nil=>intro j s;exact⟨Int.le_refl _,by simp⟩
  |cons y l ih=>
   intro j s
   obtain⟨h1,h2⟩:=ih (j+1) (jH q.kind s j y)
   rw[eZ];have h3:s.2<=(jH q.kind s j y).2:=jZ _ _;have h4:y.2<=(jH q.kind s j y).2:=pt _ _
   refine⟨by omega,fun x hx=>?_⟩
   rcases List.mem_cons.1 hx with rfl|hx
   ·omega
   ·exact h2 x hx
 have hk:=key (q.inputs.map bP) 0 (0,0);rw[ot]at h⊢;by_cases h1:q.kind=1
 ·rw[zp h1]at h⊢
  refine⟨pt _ _,fun x hx=>?_⟩
  have:=hk.2 (bP x) (List.mem_map.2 ⟨x,hx,rfl⟩)
  have:=jZ (eZ q.kind 0 (q.inputs.map bP) (0,0)).2 24
  simp only at h;omega
 ·rw[zy h1]at h⊢
  refine⟨pt _ _,fun x hx=>?_⟩
  have:=hk.2 (bP x) (List.mem_map.2 ⟨x,hx,rfl⟩)
  have:=jZ (eZ q.kind 0 (q.inputs.map bP) (0,0)).2 (eZ q.kind 0 (q.inputs.map bP) (0,0)).1
  simp only at h;omega
theorem most_scan{q:LQuery}(h:q.kind=1):(bP q).1=24:=by rw[ot,zp h]
theorem qy{q x:LQuery}(h:(bP q).2<=20000)(hk:q.kind≠1)(hi:q.inputs=[x]):(bP q).1=(bP x).1:=by
 have hm:=iM h;have hx:=hm.2 x (by rw[hi];simp);have hx1:=(iM hx).1;rw[ot,zy hk,hi];show ow (bP x).1=_;unfold ow;rw[zy (by omega)]
theorem oz{q x y:LQuery}(h:(bP q).2<=20000)(hk:q.kind≠1)(hi:q.inputs=[x,y]):(bP q).1=(if q.kind=6 then(bP x).1+(bP y).1 else if q.kind=4\/q.kind=5 then(bP x).1*ec 1 (bP y).1 else(bP x).1):=by
 have hm:=iM h;have hx:=hm.2 x (by rw[hi];simp);have hx1:=(iM hx).1;have h1:=hm.1;have hc:ow (bP x).1=(bP x).1:=by unfold ow;rw[zy (by omega)]
 have e:(bP q).1=ow (if q.kind=6 then(bP x).1+(bP y).1 else if q.kind=4\/q.kind=5 then(bP x).1*ec 1 (bP y).1 else(bP x).1):=by
  rw[ot,zy hk,hi]
  show(jH q.kind (jH q.kind (0,0) 0 (bP x)) 1 (bP y)).1=_
  unfold jH;simp[hc]
 rw[e];exact capI_eq (by rw[<-e];omega)
def bE(r:LRun)(q:LQuery):List LCol:=(gz ⟨r.s,r.vars⟩ q).1
theorem mu{r:LRun}{q:LQuery}(h:SmallQ q):im r q=some (bE r q):=by
 unfold im;rw[cols_ok _ q h];rfl
def iY(r:LRun)(cols:List LCol)(q:LQuery)(x:Rq):Bool:=kW (dY (bK r cols x) (e0Q q))
def rQ(q:LQuery)(l:Rows):Rows:=(l.take (q.offset.toNat+q.count.toNat)).drop q.offset.toNat
def eU(r:LRun)(q:LQuery)(cs:List (List LCol))(ins:List Rows):Rows:=
 if q.kind=1 then(match r.st.find? fun x=>x.table==q.table with|some x=>x.rows|none=>[])
 else if q.kind=4\/q.kind=5 then lx (iY r (cs.getD 0 []++cs.getD 1 []) q) (q.kind==5) (List.replicate (cs.getD 1 []).length .nul) (ins.getD 0 []) (ins.getD 1 [])
 else if q.kind=6 then ins.getD 0 []++ins.getD 1 []
 else if q.kind=7 then mO (ins.getD 0 []) (ins.getD 1 [])
 else if q.kind=2 then(ins.getD 0 []).filter (iY r (cs.getD 0 []) q)
 else if q.kind=3 then(ins.getD 0 []).map fun x=>q.exprs.map fun e=>dY (bK r (cs.getD 0 []) x) e
 else if q.kind=8 then po r (cs.getD 0 []) q (ins.getD 0 [])
 else if q.kind=9 then(gF r q (cs.getD 0 []) (ins.getD 0 [])).getD []
 else rQ q (ins.getD 0 [])
def bu(r:LRun)(q:LQuery):Rows:=eU r q (q.inputs.map (bE r)) (q.inputs.attach.map fun x=>bu r x.1)
termination_by SizeOf.sizeOf q
decreasing_by exact LQuery.inputs_lt x.2
theorem fy(r:LRun)(q:LQuery):bu r q=eU r q (q.inputs.map (bE r)) (q.inputs.map (bu r)):=by
 rw[bu,List.attach_map_val (f:=bu r)]
theorem find_st{s:LSchema}{st:List LW}(h:InstOk s st)(name:Rb):∀t,s.tables.find? (fun t=>t.name==name)=some t->∃x,st.find? (fun x=>x.table==name)=some x/\x.rows.length<=24/\∀row∈x.rows,gP t.columns row:=by
 obtain⟨hl,ho,ht⟩:=h
 intro t hf;generalize s.tables=ts at*;induction ts generalizing st with
 |nil=>simp at hf
 |cons a ts ih=>
  cases st with
  |nil=>simp at hl
  |cons r st=>
   obtain⟨h1,h2,h3⟩:=ht 0 r a Z Z
   rw[List.find?_cons]at hf⊢;rw[h1];cases hn:a.name==name with
   |true=>
    rw[hn]at hf;simp at hf;subst hf
    exact⟨r,rfl,h2,fun row hrow=>(h3 row hrow).1⟩
   |false=>
    rw[hn]at hf;simp only at hf⊢;exact ih (by simpa using hl) (fun i r' t' a b=>ho (i+1) r' t' (by simpa using a) (by simpa using b)) (fun i r' t' a b=>ht (i+1) r' t' (by simpa using a) (by simpa using b)) hf
structure RowsOk(r:LRun)(q:LQuery):Prop where
 pos:1<=(bP q).1
 len:((bu r q).length:Int)<=(bP q).1
 fits:∀row∈bu r q,gP (bE r q) row
structure QOk(r:LRun)(q:LQuery):Prop where
 small:SmallQ q
 cols:(gz ⟨r.s,r.vars⟩ q).2=0
 most:(bP q).2<=20000
theorem QOk.sub{r:LRun}{q x:LQuery}(h:QOk r q)(hx:x∈q.inputs):QOk r x:=
 ⟨h.small.sub hx,(sh h.cols).2.1 x hx,(iM h.most).2 x hx⟩
theorem joinR_mem{f:Rq->Bool}{left:Bool}{pad row:Rq}{a b:Rows}(h:row∈lx f left pad a b):∃x∈a,(∃y∈b,row=x++y)\/(left=true/\row=x++pad):=by
 unfold lx at h
 obtain⟨l,hl,hr⟩:=List.mem_flatten.1 h
 obtain⟨x,hx,rfl⟩:=List.mem_map.1 hl
 refine⟨x,hx,?_⟩
 unfold padR at hr;split at hr
 ·rename_i hc;simp at hr;exact .inr ⟨hc.1,hr⟩
 ·unfold je at hr
  obtain⟨y,hy,rfl⟩:=List.mem_map.1 (List.mem_filter.1 hr).1
  exact .inl ⟨y,hy,rfl⟩
theorem two{q:LQuery}(h:q.inputs.length=2):∃x y,q.inputs=[x,y]:=by
 match hq:q.inputs,h with
 |[x,y],_=>exact⟨x,y,rfl⟩
theorem one{q:LQuery}(h:q.inputs.length=1):∃x,q.inputs=[x]:=by
 match hq:q.inputs,h with
 |[x],_=>exact⟨x,rfl⟩
theorem colsR_out{r:LRun}{q:LQuery}(h:QOk r q):(jD ⟨r.s,r.vars⟩ q (q.inputs.map (bE r))).2=0/\bE r q=(jD ⟨r.s,r.vars⟩ q (q.inputs.map (bE r))).1:=by
 obtain⟨_,_,h3,h4,_⟩:=sh h.cols
 exact⟨h3,h4⟩
theorem set_fits{kind:Int}{a b:List LCol}{row:Rq}(h:(lL kind a b).2=0)(hr:gP a row\/gP b row):gP (lL kind a b).1 row:=by
 unfold lL gP at*;by_cases hc:a.length=b.length/\a.map LCol.kind=b.map LCol.kind
 ·rw[zp hc];rcases hr with hr|hr<;>simp[hr,hc.1]
 ·rw[zy hc]at h;simp at h
theorem join_fits{a b:List LCol}{left:Bool}{x y:Rq}(hx:gP a x)(hy:gP b y):gP (kd a b left) (x++y):=by
 unfold kd;exact hx.append (by unfold gP at hy⊢;rw[zl,hy])
theorem pad_fits{a b:List LCol}{x:Rq}(hx:gP a x):gP (kd a b true) (x++List.replicate b.length .nul):=by
 unfold kd;exact hx.append (by unfold gP;simp)
theorem rows_fit{r:LRun}(hr:RunOk r):∀q:LQuery,QOk r q->RowsOk r q:=by
 refine LQuery.ind fun q ih h=>?_
 have hs:=shape_ok (sh h.cols).1
 obtain⟨ho,hcol⟩:=colsR_out h
 have hself:=h.small.self;have hm:=(iM h.most).1;have kk:q.kind=1\/q.kind=2\/q.kind=3\/q.kind=4\/q.kind=5\/q.kind=6\/q.kind=7\/q.kind=8\/q.kind=9\/q.kind=10:=by have:=hs.kind;omega
 have hall:∀x∈q.inputs,RowsOk r x:=fun x hx=>ih x hx (h.sub hx)
 rcases kk with k|k|k|k|k|k|k|k|k|k
 ·--scan
  have hmq:=most_scan k;unfold jD at ho hcol;rw[zp k]at ho hcol;cases hf:r.s.tables.find? (fun t=>t.name==q.table)with
  |none=>rw[hf]at ho;simp at ho
  |some t=>
   rw[hf]at hcol
   obtain⟨x,hx,hl,hfit⟩:=find_st hr.inst q.table t hf
   have e:bu r q=x.rows:=by rw[fy];unfold eU;rw[zp k,hx]
   exact⟨by omega,by rw[e];omega,by rw[e,hcol];exact hfit⟩
 all_goals have har:=hs.arity
 all_goals rw[k]at har
 all_goals simp only[qx]at har
 ·--filter
  obtain⟨x,hi⟩:=one (q:=q) (by simpa using har)
  have hx:=hall x (by rw[hi];simp);have hmq:=qy h.most (by omega) hi;rw[hi]at hcol ho;unfold jD at ho hcol;rw[zy (by omega),zp k]at ho hcol;have e:bu r q=(bu r x).filter (iY r (bE r x) q):=by rw[fy,hi];unfold eU;rw[zy (by omega),zy (by omega),zy (by omega),zy (by omega),zp k];rfl
  have hcx:bE r q=bE r x:=hcol
  have:=List.length_filter_le (iY r (bE r x) q) (bu r x)
  refine⟨by rw[hmq];exact hx.pos,by rw[hmq,e];have:=hx.len;omega,fun row hrow=>?_⟩
  rw[e]at hrow;rw[hcx];exact hx.fits row (List.mem_filter.1 hrow).1
 ·--project
  obtain⟨x,hi⟩:=one (q:=q) (by simpa using har)
  have hx:=hall x (by rw[hi];simp);have hmq:=qy h.most (by omega) hi;rw[hi]at hcol ho;unfold jD at ho hcol;rw[zy (by omega),zy (by omega),zy (by omega),zy (by omega),zp (.inl k)]at ho hcol;have e:bu r q=(bu r x).map fun y=>q.exprs.map fun e=>dY (bK r (bE r x) y) e:=by rw[fy,hi];unfold eU;rw[zy (by omega),zy (by omega),zy (by omega),zy (by omega),zy (by omega),zp k];rfl
  have hag:q.aggregates=[]:=hs.aggs (by omega);change (nA r.vars (bE r x) q).2=0 at ho;change bE r q=(nA r.vars (bE r x) q).1 at hcol;unfold nA at ho hcol;by_cases hn:(cP r.vars (bE r x) q.exprs q.names).2=0
  ·rw[zy (by simpa using hn),hag]at hcol;simp only[eP,ne_eq,not_true_eq_false,if_false,List.append_nil]at hcol
   obtain⟨hl,hinv⟩:=oJ r.vars (bE r x) q.exprs q.names (hs.named (.inl k)) hn
   refine⟨by rw[hmq];exact hx.pos,by rw[hmq,e];simpa using hx.len,fun row hrow=>?_⟩
   rw[e]at hrow
   obtain⟨y,hy,rfl⟩:=List.mem_map.1 hrow
   rw[hcol];unfold gP;rw[zl,hl]
  ·rw[zp hn]at ho;exact absurd ho hn
 ·--inner join
  obtain⟨x,y,hi⟩:=two (q:=q) (by simpa using har)
  have hx:=hall x (by rw[hi];simp);have hy:=hall y (by rw[hi];simp);have hmq:=oz h.most (by omega) hi;rw[zy (by omega),zp (.inl k)]at hmq;rw[hi]at hcol ho;unfold jD at ho hcol;rw[zy (by omega),zy (by omega),zp (.inl k)]at ho hcol;have e:bu r q=lx (iY r (bE r x++bE r y) q) (q.kind==5) (List.replicate (bE r y).length .nul) (bu r x) (bu r y):=by rw[fy,hi];unfold eU;rw[zy (by omega),zp (.inl k)];rfl
  have hcx:bE r q=kd (bE r x) (bE r y) (q.kind==5):=hcol;have hb:=tG (iY r (bE r x++bE r y) q) (q.kind==5) (List.replicate (bE r y).length .nul) (bu r x) (bu r y);have hxl:=hx.len;have hyl:=hy.len;have hpos:=hx.pos;have h1m:1<=ec 1 (bP y).1/\((max 1 (bu r y).length:Nat):Int)<=ec 1 (bP y).1:=⟨jZ _ _,by have:=jZ 1 (bP y).1;have:=pt 1 (bP y).1;omega⟩
  refine⟨?_,?_,fun row hrow=>?_⟩
  ·rw[hmq];exact Int.le_trans hpos (by have:=Int.mul_le_mul_of_nonneg_left h1m.1 (show 0<=(bP x).1 by omega);omega)
  ·rw[e,hmq]
   have h2:(((bu r x).length*max 1 (bu r y).length:Nat):Int)<=(bP x).1*ec 1 (bP y).1:=by
    rw[Int.natCast_mul];exact Int.mul_le_mul hxl h1m.2 (by omega) (by omega)
   omega
  ·rw[e]at hrow;rw[hcx]
   obtain⟨u,hu,⟨v,hv,rfl⟩|⟨hl,rfl⟩⟩:=joinR_mem hrow
   ·exact join_fits (hx.fits u hu) (hy.fits v hv)
   ·rw[hl];exact pad_fits (hx.fits u hu)
 ·--left join
  obtain⟨x,y,hi⟩:=two (q:=q) (by simpa using har)
  have hx:=hall x (by rw[hi];simp);have hy:=hall y (by rw[hi];simp);have hmq:=oz h.most (by omega) hi;rw[zy (by omega),zp (.inr k)]at hmq;rw[hi]at hcol ho;unfold jD at ho hcol;rw[zy (by omega),zy (by omega),zp (.inr k)]at ho hcol;have e:bu r q=lx (iY r (bE r x++bE r y) q) (q.kind==5) (List.replicate (bE r y).length .nul) (bu r x) (bu r y):=by rw[fy,hi];unfold eU;rw[zy (by omega),zp (.inr k)];rfl
  have hcx:bE r q=kd (bE r x) (bE r y) (q.kind==5):=hcol;have hb:=tG (iY r (bE r x++bE r y) q) (q.kind==5) (List.replicate (bE r y).length .nul) (bu r x) (bu r y);have hxl:=hx.len;have hyl:=hy.len;have hpos:=hx.pos;have h1m:1<=ec 1 (bP y).1/\((max 1 (bu r y).length:Nat):Int)<=ec 1 (bP y).1:=⟨jZ _ _,by have:=jZ 1 (bP y).1;have:=pt 1 (bP y).1;omega⟩
  refine⟨?_,?_,fun row hrow=>?_⟩
  ·rw[hmq];exact Int.le_trans hpos (by have:=Int.mul_le_mul_of_nonneg_left h1m.1 (show 0<=(bP x).1 by omega);omega)
  ·rw[e,hmq]
   have h2:(((bu r x).length*max 1 (bu r y).length:Nat):Int)<=(bP x).1*ec 1 (bP y).1:=by
    rw[Int.natCast_mul];exact Int.mul_le_mul hxl h1m.2 (by omega) (by omega)
   omega
  ·rw[e]at hrow;rw[hcx]
   obtain⟨u,hu,⟨v,hv,rfl⟩|⟨hl,rfl⟩⟩:=joinR_mem hrow
   ·exact join_fits (hx.fits u hu) (hy.fits v hv)
   ·rw[hl];exact pad_fits (hx.fits u hu)
 ·--union
  obtain⟨x,y,hi⟩:=two (q:=q) (by simpa using har)
  have hx:=hall x (by rw[hi];simp);have hy:=hall y (by rw[hi];simp);have hmq:=oz h.most (by omega) hi;rw[zp k]at hmq;rw[hi]at hcol ho;unfold jD at ho hcol;rw[zy (by omega),zy (by omega),zy (by omega),zp (.inl k)]at ho hcol;have e:bu r q=bu r x++bu r y:=by rw[fy,hi];unfold eU;rw[zy (by omega),zy (by omega),zp k];rfl
  change (lL q.kind (bE r x) (bE r y)).2=0 at ho;change bE r q=(lL q.kind (bE r x) (bE r y)).1 at hcol
  have:=hx.len
  have:=hy.len
  have:=hx.pos
  have:=hy.pos
  refine⟨by omega,by rw[e,hmq];simp;omega,fun row hrow=>?_⟩
  rw[e]at hrow;rw[hcol];rcases List.mem_append.1 hrow with hrow|hrow
  ·exact set_fits ho (.inl (hx.fits row hrow))
  ·exact set_fits ho (.inr (hy.fits row hrow))
 ·--difference
  obtain⟨x,y,hi⟩:=two (q:=q) (by simpa using har)
  have hx:=hall x (by rw[hi];simp);have hmq:=oz h.most (by omega) hi;rw[zy (by omega),zy (by omega)]at hmq;rw[hi]at hcol ho;unfold jD at ho hcol;rw[zy (by omega),zy (by omega),zy (by omega),zp (.inr k)]at ho hcol;have e:bu r q=mO (bu r x) (bu r y):=by rw[fy,hi];unfold eU;rw[zy (by omega),zy (by omega),zy (by omega),zp k];rfl
  change (lL q.kind (bE r x) (bE r y)).2=0 at ho;change bE r q=(lL q.kind (bE r x) (bE r y)).1 at hcol;have hsub:=tN (bu r x) (bu r y)
  have:=hsub.length_le
  have:=hx.len
  have:=hx.pos
  refine⟨by omega,by rw[e,hmq];omega,fun row hrow=>?_⟩
  rw[e]at hrow;rw[hcol];exact set_fits ho (.inl (hx.fits row (hsub.subset hrow)))
 ·--aggregation
  obtain⟨x,hi⟩:=one (q:=q) (by simpa using har)
  have hx:=hall x (by rw[hi];simp);have hmq:=qy h.most (by omega) hi;rw[hi]at hcol ho;unfold jD at ho hcol;rw[zy (by omega),zy (by omega),zy (by omega),zy (by omega),zp (.inr k)]at ho hcol;have e:bu r q=po r (bE r x) q (bu r x):=by rw[fy,hi];unfold eU;rw[zy (by omega),zy (by omega),zy (by omega),zy (by omega),zy (by omega),zy (by omega),zp k];rfl
  change (nA r.vars (bE r x) q).2=0 at ho;change bE r q=(nA r.vars (bE r x) q).1 at hcol;have hxl:=hx.len;have hxp:=hx.pos;have hxm:=(iM h.most).2 x (by rw[hi];simp);have hxm1:=(iM hxm).1;unfold nA at ho hcol;by_cases hn:(cP r.vars (bE r x) q.exprs q.names).2=0
  ·rw[zy (by simpa using hn)]at hcol ho;by_cases hg:(eP r.vars (bE r x) q.aggregates).2=0
   ·rw[zy (by simpa using hg)]at hcol
    obtain⟨hl,hinv⟩:=oJ r.vars (bE r x) q.exprs q.names (hs.named (.inr k)) hn
    obtain⟨hl2,hinv2⟩:=sV r.vars (bE r x) q.aggregates hg
    have hkeys:=qU (fun x_1=>q.exprs.map fun e=>dY (bK r (bE r x) x_1) e) (bu r x) (if q.exprs=[]then [[]]else [])
    have hlen:((po r (bE r x) q (bu r x)).length:Int)<=(bP x).1:=by
     unfold po;rw[zl];by_cases hee:q.exprs=[]
     ·--without keys there is one group
      have:∀(l ks:Rows),ks=[[]]->fS (fun x_1=>q.exprs.map fun e=>dY (bK r (bE r x) x_1) e) ks l=[[]]:=by
       intro l;induction l with
       |nil=>intro ks hk;simpa[fS]using hk
       |cons z l ih2=>
        intro ks hk;rw[fS];refine ih2 _ ?_;rw[zp (by rw[hk,hee];simp),hk]
      rw[this _ _ (by rw[zp hee])];simp;omega
     ·rw[zy hee]at hkeys⊢;simp at hkeys;omega
    refine⟨by rw[hmq];exact hxp,by rw[hmq,e];exact hlen,fun row hrow=>?_⟩
    rw[e]at hrow;rw[hcol];unfold po at hrow
    obtain⟨kk,hkk,rfl⟩:=List.mem_map.1 hrow
    refine gP.append ?_ ?_
    ·rcases(qL _ _ _ _).1 hkk with hk0|⟨y,hy,rfl⟩
     ·split at hk0
      ·rename_i hee;simp at hk0;subst hk0;rw[hee]at hl⊢;unfold gP;simpa using hl.symm
      ·simp at hk0
     ·unfold gP;rw[zl,hl]
    ·unfold gP;simp[hl2]
   ·rw[zp hg]at ho;exact absurd ho hg
  ·rw[zp hn]at ho;exact absurd ho hn
 ·--sort
  obtain⟨x,hi⟩:=one (q:=q) (by simpa using har)
  have hx:=hall x (by rw[hi];simp);have hmq:=qy h.most (by omega) hi;rw[hi]at hcol ho;unfold jD at ho hcol;rw[zy (by omega),zy (by omega),zy (by omega),zy (by omega),zy (by omega),zp k]at ho hcol;have hxm:=(iM h.most).2 x (by rw[hi];simp);have hxm1:=(iM hxm).1;have hxl:=hx.len
  obtain⟨l',hsort,hperm⟩:=sort_ok r q (bE r x) (bu r x) (by omega) hself.1
  have e:bu r q=l':=by rw[fy,hi];unfold eU;rw[zy (by omega),zy (by omega),zy (by omega),zy (by omega),zy (by omega),zy (by omega),zy (by omega),zp k];show(gF r q (bE r x) (bu r x)).getD []=l';rw[hsort];rfl
  have hcx:bE r q=bE r x:=by
   by_cases hse:kw r.vars (bE r x) q.exprs=0
   ·exact hcol.trans (by show(if kw r.vars (bE r x) q.exprs≠0 then _ else _:List LCol×Int).1=_;rw[zy (by simpa using hse)];rfl)
   ·exact absurd (by
     have:(if kw r.vars (bE r x) q.exprs≠0 then(([],kw r.vars (bE r x) q.exprs):List LCol×Int)else(bE r x,0)).2=0:=ho
     rw[zp hse]at this;exact this) hse
  refine⟨by rw[hmq];exact hx.pos,by rw[hmq,e,hperm.length_eq];exact hxl,fun row hrow=>?_⟩
  rw[e]at hrow;rw[hcx];exact hx.fits row (hperm.mem_iff.1 hrow)
 ·--limit
  obtain⟨x,hi⟩:=one (q:=q) (by simpa using har)
  have hx:=hall x (by rw[hi];simp);have hmq:=qy h.most (by omega) hi;rw[hi]at hcol ho;unfold jD at ho hcol;rw[zy (by omega),zy (by omega),zy (by omega),zy (by omega),zy (by omega),zy (by omega)]at ho hcol;have hcx:bE r q=bE r x:=hcol;have e:bu r q=rQ q (bu r x):=by rw[fy,hi];unfold eU;rw[zy (by omega),zy (by omega),zy (by omega),zy (by omega),zy (by omega),zy (by omega),zy (by omega),zy (by omega)];rfl
  have hsub:(rQ q (bu r x)).Sublist (bu r x):=(List.drop_sublist _ _).trans (List.take_sublist _ _)
  have:=hsub.length_le
  have:=hx.len
  refine⟨by rw[hmq];exact hx.pos,by rw[hmq,e];omega,fun row hrow=>?_⟩
  rw[e]at hrow;rw[hcx];exact hx.fits row (hsub.subset hrow)
theorem rowLen{cols:List LCol}{row:Rq}(h:gP cols row)(hc:cols.length<=20):row.length<=20:=by rw[show row.length=cols.length from h];exact hc
theorem scan_run(st:List LW)(name:Rb):af (aN (σ:=Unit) (ρ:=(Rows)) (fun(_:Nat) (x1:LW) (_:Unit)=>cond (x1.table==name) (some (.ret x1.rows)) (some (.next ()))) 0 st ()) (fun fl1=>fl1.thenR fun(_:Unit)=>some [])=
  some (match st.find? fun x=>x.table==name with|some x=>x.rows|none=>[]):=by
 rw[rm (fun x:LW=>x.table==name) (fun _ x=>x.rows) st 0 (fun k x _=>by cases x.table==name<;>rfl)];rcases find_idx (fun x:LW=>x.table==name) st with⟨h1,h2⟩|⟨x,h1,h2,h3⟩
 ·rw[h1];unfold bg at h2;cases hf:st.findIdx? (fun x=>x.table==name)with
  |none=>rfl
  |some i=>rw[hf]at h2;simp only at h2;omega
 ·rw[h1];unfold bg at h2 h3;cases hf:st.findIdx? (fun x=>x.table==name)with
  |none=>rw[hf]at h2;simp at h2
  |some i=>
   rw[hf]at h3;simp only[Int.toNat_natCast]at h3;simp only[h3];rfl
theorem limit_run(l:Rows)(q:LQuery)(hl:l.length<=1000000)(hc:0<=q.count)(ho:0<=q.offset):
  nK l (if(l.length:Int)<q.offset then(l.length:Int)else q.offset) (Iw ((if(l.length:Int)<q.offset then(l.length:Int)else q.offset)+(if(Iw ((l.length:Int)-(if(l.length:Int)<q.offset then(l.length:Int)else q.offset)))<q.count then(Iw ((l.length:Int)-(if(l.length:Int)<q.offset then(l.length:Int)else q.offset)))else q.count)))=some (rQ q l):=by
 obtain⟨o,ho'⟩:∃o:Nat,q.offset=o:=⟨q.offset.toNat,by omega⟩
 obtain⟨c,hc'⟩:∃c:Nat,q.count=c:=⟨q.count.toNat,by omega⟩
 unfold rQ;rw[ho',hc',Int.toNat_natCast,Int.toNat_natCast];by_cases h1:(l.length:Int)<(o:Int)
 ·rw[zp h1,wW (n:=(l.length:Int)-(l.length:Int)) (by omega) (by omega)];have e:(if(l.length:Int)-(l.length:Int)<(c:Int)then(l.length:Int)-(l.length:Int)else(c:Int))=0:=by split<;>omega
  rw[e,wW (by omega) (by omega),rx ⟨by omega,by omega,by omega⟩];congr 1;rw[List.drop_of_length_le (by simp only[List.length_take];omega)]
  symm
  exact List.drop_of_length_le (by simp only[List.length_take];omega)
 ·rw[zy h1,wW (n:=(l.length:Int)-(o:Int)) (by omega) (by omega)];by_cases h2:(l.length:Int)-(o:Int)<(c:Int)
  ·rw[zp h2,wW (by omega) (by omega),rx ⟨by omega,by omega,by omega⟩];rw[Int.toNat_natCast,List.take_of_length_le (i:=((o:Int)+((l.length:Int)-(o:Int))).toNat) (by omega),List.take_of_length_le (i:=o+c) (by omega)]
  ·rw[zy h2,wW (by omega) (by omega),rx ⟨by omega,by omega,by omega⟩];rw[Int.toNat_natCast,show((o:Int)+(c:Int)).toNat=o+c from by omega]
theorem join_run2(r:LRun)(q:LQuery)(ca cb:List LCol)(e:LExpr)(he:aP q.exprs 0=some e)(hee:e=e0Q q)(a b:Rows)(ha:∀x∈a,x.length<=20)(hb:∀x∈b,x.length<=20)(hcb:cb.length<=20)(hsz:a.length*max 1 b.length<=30000)(hk:q.kind=4\/q.kind=5):
  af (aN (σ:=List LCol×Rows) (ρ:=Empty) (fun(_:Nat) (x1:Rq) (s1:List LCol×Rows)=>
  af (aN (σ:=Rows×Bool) (ρ:=Empty) (fun(_:Nat) (x6:Rq) (s6:Rows×Bool)=>
   af (bZ ([x1,x6]:Rows)) fun x58=>
   af (aP q.exprs 0) fun(x65:LExpr)=>
   letP (bK r s1.1 x58) fun x62=>
   letP (dY x62 x65) fun x67=>
   letP (kW x67) fun x68=>
   cond x68
    (af (cJ 24 s6.1 ([x58]:Rows)) fun(x72:Rows)=>
    some (.next (x72,true)))
    (some (.next (s6.1,s6.2)))) 0 b (s1.2,false)) fun fl6=>fl6.thenP fun(s6:Rows×Bool)=>
  letP (
   cond (!s6.2)
    ((q.kind==(5:Int)))
    (false)) fun(t7:Bool)=>
  cond t7
   (af (oO 32 (cb.length:Int)) fun(_:Unit)=>
   af (bZ ([x1,(List.replicate (cb.length:Int).toNat (LVal.mk 0 0 []))]:Rows)) fun x87=>
   af (cJ 24 s6.1 ([x87]:Rows)) fun(x89:Rows)=>
   some (.next (s1.1,x89)))
   (some (.next (s1.1,s6.1)))) 0 a (ca++cb,[])) (fun fl1=>fl1.thenP fun(s1:List LCol×Rows)=>some s1.2)=some (lx (iY r (ca++cb) q) (q.kind==5) (List.replicate cb.length .nul) a b):=by
 have hpl:∀k,k<=a.length->(lx (iY r (ca++cb) q) (q.kind==5) (List.replicate cb.length .nul) (a.take k) b).length<=30000:=fun k hk=>by
  have h1:=tG (iY r (ca++cb) q) (q.kind==5) (List.replicate cb.length .nul) (a.take k) b;rw[List.length_take,Nat.min_eq_left hk]at h1;exact Nat.le_trans h1 (Nat.le_trans (Nat.mul_le_mul_right _ hk) hsz)
 rw[rMa (xs:=a) (s:=(ca++cb,[])) (fun k=>(ca++cb,lx (iY r (ca++cb) q) (q.kind==5) (List.replicate cb.length .nul) (a.take k) b)) Z (fun k x hkx=>by
  have hkl:=(zg.1 hkx).1;have hxm:=eM hkx
  have hbl:b.length<=30000:=by
   have h1:1*max 1 b.length<=a.length*max 1 b.length:=Nat.mul_le_mul_right _ (by omega);omega
  have h2:=hpl k (by omega);simp only;rw[match_run (iY r (ca++cb) q) e r (ca++cb) q.exprs he (fun z=>by rw[hee];rfl) x (by have:=ha x hxm;omega) b _ false (fun y hy=>by have:=hb y hy;omega) (by omega),bPs,cI]
  have hs:lx (iY r (ca++cb) q) (q.kind==5) (List.replicate cb.length .nul) (a.take (k+1)) b=lx (iY r (ca++cb) q) (q.kind==5) (List.replicate cb.length .nul) (a.take k) b++padR (iY r (ca++cb) q) (q.kind==5) (List.replicate cb.length .nul) x b:=by
   unfold lx;rw[List.take_add_one,hkx,List.map_append,List.flatten_append];simp
  rw[hs];simp only[bM,Bool.false_or];have hml:(je (iY r (ca++cb) q) x b).length<=30000:=by unfold je;exact Nat.le_trans (List.length_filter_le _ _) (by simpa using hbl)
  cases hm:je (iY r (ca++cb) q) x b with
  |nil=>
   by_cases h5:q.kind=5
   ·have e5:(q.kind==5)=true:=lO h5;simp only[e5,List.isEmpty_nil,Bool.not_true,Bool.not_false,zc];rw[growI_ok ⟨by omega,by omega,by unfold maxLen;omega⟩,bPs,concat2 x _ (by have:=ha x hxm;omega) (by simp;omega),bPs];rw[e5]at h2;rw[bI (by decide) (by simp at h2⊢;omega),bPs];unfold padR;rw[zp ⟨rfl,hm⟩];simp[LVal.nul]
   ·have e5:(q.kind==5)=false:=dt h5;simp only[e5,List.isEmpty_nil,Bool.not_true,Bool.not_false,zc,zd];unfold padR;rw[zy (by simp),hm]
  |cons z zs=>
   simp only[List.isEmpty_cons,Bool.not_false,Bool.not_true,zd];unfold padR;rw[zy (by rw[hm];simp),hm])]
 rw[bPs,cI,List.take_length]
theorem rows_ev{r:LRun}(hr:RunOk r):∀q:LQuery,QOk r q->∃N,∀n,N<=n->fN n r q=some (bu r q):=by
 refine LQuery.ind fun q ih h=>?_
 have hs:=shape_ok (sh h.cols).1
 obtain⟨ho,hcol⟩:=colsR_out h
 have hself:=h.small.self;have hm:=(iM h.most).1
 obtain⟨N,hN⟩:=qA (p:=fun x n=>fN n r x=some (bu r x)) q.inputs (fun x hx=>ih x hx (h.sub hx))
 have hall:∀x∈q.inputs,RowsOk r x:=fun x hx=>rows_fit hr x (h.sub hx)
 have hsz:∀x∈q.inputs,(bu r x).length<=20000:=fun x hx=>by
  have h1:=(hall x hx).len;have h2:=(iM h.most).2 x hx;have h3:=(iM h2).1;omega
 have hrow:∀x∈q.inputs,∀row∈bu r x,row.length<=20:=fun x hx row hrow=>rowLen ((hall x hx).fits row hrow) (jT _ x)
 refine⟨N+2,fun n hn=>?_⟩
 obtain⟨n,rfl⟩:∃k,n=k+2:=⟨n-2,by omega⟩
 rw[fN];simp only[lr];have kk:q.kind=1\/q.kind=2\/q.kind=3\/q.kind=4\/q.kind=5\/q.kind=6\/q.kind=7\/q.kind=8\/q.kind=9\/q.kind=10:=by have:=hs.kind;omega
 rcases kk with k|k|k|k|k|k|k|k|k|k
 ·rw[lO k,zc,scan_run,fy];unfold eU
  rw[zp k]<;>
   rfl
 all_goals have har:=hs.arity
 all_goals rw[k]at har
 all_goals simp only[qx]at har
 ·--filter
  obtain⟨x,hi⟩:=one (q:=q) (by simpa using har)
  have hxm:x∈q.inputs:=by rw[hi];simp
  have e:bu r q=(bu r x).filter (iY r (bE r x) q):=by rw[fy,hi];unfold eU;rw[zy (by omega),zy (by omega),zy (by omega),zy (by omega),zp k];rfl
  have hx:=hN (n+1) (by omega) x hxm;rw[k,hi,e];simp only[aP,bM];simp only[show((2:Int)==1)=false from Z,show((2:Int)==4)=false from Z,show((2:Int)==5)=false from Z,show((2:Int)==6)=false from Z,show((2:Int)==7)=false from Z,show((2:Int)==2)=true from Z,zd,zc,Int.le_refl,if_true,Int.toNat_zero,List.getElem?_cons_zero,bPs];rw[hx,bPs,mu (h.small.sub hxm),bPs]
  rw[deleteFunc_eq (bu r x) (fun a=>!iY r (bE r x) q a) _ (fun a _=>by
   unfold js;rw[e0_get (by rw[hs.one (.inl k)];omega)];rfl) (by have:=hsz x hxm;omega),bPs]
  simp
 ·--project
  obtain⟨x,hi⟩:=one (q:=q) (by simpa using har)
  have hxm:x∈q.inputs:=by rw[hi];simp
  have e:bu r q=(bu r x).map fun y=>q.exprs.map fun e=>dY (bK r (bE r x) y) e:=by rw[fy,hi];unfold eU;rw[zy (by omega),zy (by omega),zy (by omega),zy (by omega),zy (by omega),zp k];rfl
  have hx:=hN (n+1) (by omega) x hxm;rw[k,hi,e];simp only[aP,bM];simp only[show((3:Int)==1)=false from Z,show((3:Int)==4)=false from Z,show((3:Int)==5)=false from Z,show((3:Int)==6)=false from Z,show((3:Int)==7)=false from Z,show((3:Int)==2)=false from Z,show((3:Int)==3)=true from Z,zd,zc,Int.le_refl,if_true,Int.toNat_zero,List.getElem?_cons_zero,bPs];rw[hx,bPs,mu (h.small.sub hxm),bPs]
  rw[nG (xs:=bu r x) (fun y=>q.exprs.map fun e=>dY (bK r (bE r x) y) e) (fun i y hy=>by
   have hil:=(zg.1 hy).1
   have:=hsz x hxm
   rw[sS r _ _ _ (by omega),bPs,bI (by decide) (by simp;omega),bPs]),bPs,cI]
 ·--inner join
  obtain⟨x,y,hi⟩:=two (q:=q) (by simpa using har)
  have hxm:x∈q.inputs:=by rw[hi];simp
  have hym:y∈q.inputs:=by rw[hi];simp
  have hmq:=oz h.most (by omega) hi;rw[zy (by omega),zp (.inl k)]at hmq;have e:bu r q=lx (iY r (bE r x++bE r y) q) (q.kind==5) (List.replicate (bE r y).length .nul) (bu r x) (bu r y):=by rw[fy,hi];unfold eU;rw[zy (by omega),zp (.inl k)];rfl
  have hx:=hN n (by omega) x hxm;have hy:=hN n (by omega) y hym
  have hprod:(bu r x).length*max 1 (bu r y).length<=30000:=by
   have h1m:((max 1 (bu r y).length:Nat):Int)<=ec 1 (bP y).1:=by have:=jZ 1 (bP y).1;have:=pt 1 (bP y).1;have:=(hall y hym).len;omega
   have h2:(((bu r x).length*max 1 (bu r y).length:Nat):Int)<=(bP x).1*ec 1 (bP y).1:=by
    rw[Int.natCast_mul];exact Int.mul_le_mul (hall x hxm).len h1m (by omega) (by have:=(hall x hxm).pos;omega)
   have:=h.most
   omega
  rw[dt (show q.kind≠1 by omega),lO k];simp only[zd,zc,bM];rw[iq];simp only[kf];rw[hi];have g0:aP [x,y] 0=some x:=rfl;have g1:aP [x,y] 1=some y:=rfl;simp only[g0,g1,bPs];rw[hx,hy];simp only[bPs];rw[mu (h.small.sub hxm),mu (h.small.sub hym)];simp only[bPs];rw[bI (by decide) (by have:=jT ⟨r.s,r.vars⟩ x;have:=jT ⟨r.s,r.vars⟩ y;unfold bE;omega),bPs];have he1:q.exprs.length=1:=hs.one (.inr (.inl k));rw[join_run2 r q (bE r x) (bE r y) (e0Q q) (e0_get (by omega)) Z (bu r x) (bu r y) (hrow x hxm) (hrow y hym) (jT _ y) hprod (.inl k),bPs,e]
 ·--left join
  obtain⟨x,y,hi⟩:=two (q:=q) (by simpa using har)
  have hxm:x∈q.inputs:=by rw[hi];simp
  have hym:y∈q.inputs:=by rw[hi];simp
  have hmq:=oz h.most (by omega) hi;rw[zy (by omega),zp (.inr k)]at hmq;have e:bu r q=lx (iY r (bE r x++bE r y) q) (q.kind==5) (List.replicate (bE r y).length .nul) (bu r x) (bu r y):=by rw[fy,hi];unfold eU;rw[zy (by omega),zp (.inr k)];rfl
  have hx:=hN n (by omega) x hxm;have hy:=hN n (by omega) y hym
  have hprod:(bu r x).length*max 1 (bu r y).length<=30000:=by
   have h1m:((max 1 (bu r y).length:Nat):Int)<=ec 1 (bP y).1:=by have:=jZ 1 (bP y).1;have:=pt 1 (bP y).1;have:=(hall y hym).len;omega
   have h2:(((bu r x).length*max 1 (bu r y).length:Nat):Int)<=(bP x).1*ec 1 (bP y).1:=by
    rw[Int.natCast_mul];exact Int.mul_le_mul (hall x hxm).len h1m (by omega) (by have:=(hall x hxm).pos;omega)
   have:=h.most
   omega
  rw[dt (show q.kind≠1 by omega),dt (show q.kind≠4 by omega),lO k];simp only[zd,zc,bM];rw[iq];simp only[kf];rw[hi];have g0:aP [x,y] 0=some x:=rfl;have g1:aP [x,y] 1=some y:=rfl;simp only[g0,g1,bPs];rw[hx,hy];simp only[bPs];rw[mu (h.small.sub hxm),mu (h.small.sub hym)];simp only[bPs];rw[bI (by decide) (by have:=jT ⟨r.s,r.vars⟩ x;have:=jT ⟨r.s,r.vars⟩ y;unfold bE;omega),bPs];have he1:q.exprs.length=1:=hs.one (.inr (.inr k));rw[join_run2 r q (bE r x) (bE r y) (e0Q q) (e0_get (by omega)) Z (bu r x) (bu r y) (hrow x hxm) (hrow y hym) (jT _ y) hprod (.inr k),bPs,e]
 ·--union
  obtain⟨x,y,hi⟩:=two (q:=q) (by simpa using har)
  have hxm:x∈q.inputs:=by rw[hi];simp
  have hym:y∈q.inputs:=by rw[hi];simp
  have e:bu r q=bu r x++bu r y:=by rw[fy,hi];unfold eU;rw[zy (by omega),zy (by omega),zp k];rfl
  have hx:=hN (n+1) (by omega) x hxm;have hy:=hN (n+1) (by omega) y hym;rw[dt (show q.kind≠1 by omega),dt (show q.kind≠4 by omega),dt (show q.kind≠5 by omega),lO k,hi];have g0:aP [x,y] 0=some x:=rfl;have g1:aP [x,y] 1=some y:=rfl;simp only[zd,zc,bM,g0,g1,bPs]
  have:=hsz x hxm
  have:=hsz y hym
  rw[hx,hy];simp only[bPs];rw[bI (by decide) (by omega),bPs,e]
 ·--difference
  obtain⟨x,y,hi⟩:=two (q:=q) (by simpa using har)
  have hxm:x∈q.inputs:=by rw[hi];simp
  have hym:y∈q.inputs:=by rw[hi];simp
  have e:bu r q=mO (bu r x) (bu r y):=by rw[fy,hi];unfold eU;rw[zy (by omega),zy (by omega),zy (by omega),zp k];rfl
  have hx:=hN (n+1) (by omega) x hxm;have hy:=hN (n+1) (by omega) y hym;rw[dt (show q.kind≠1 by omega),dt (show q.kind≠4 by omega),dt (show q.kind≠5 by omega),dt (show q.kind≠6 by omega),lO k,hi];have g0:aP [x,y] 0=some x:=rfl;have g1:aP [x,y] 1=some y:=rfl;simp only[zd,zc,bM,g0,g1,bPs]
  have:=hsz x hxm
  have:=hsz y hym
  rw[hx,hy];simp only[bPs];rw[less_eq _ _ (by omega) (by omega),bPs,e]
 ·--aggregation
  obtain⟨x,hi⟩:=one (q:=q) (by simpa using har)
  have hxm:x∈q.inputs:=by rw[hi];simp
  have e:bu r q=po r (bE r x) q (bu r x):=by rw[fy,hi];unfold eU;rw[zy (by omega),zy (by omega),zy (by omega),zy (by omega),zy (by omega),zy (by omega),zp k];rfl
  have hx:=hN (n+1) (by omega) x hxm;rw[dt (show q.kind≠1 by omega),dt (show q.kind≠4 by omega),dt (show q.kind≠5 by omega),dt (show q.kind≠6 by omega),dt (show q.kind≠7 by omega),dt (show q.kind≠2 by omega),dt (show q.kind≠3 by omega),lO k,hi];have g0:aP [x] 0=some x:=rfl;simp only[zd,zc,bM,g0,bPs];rw[hx,bPs,mu (h.small.sub hxm),bPs]
  have:=hsz x hxm
  rw[group_eq r _ q _ (by omega) hself.1 hself.2,bPs,e]
 ·--sort
  obtain⟨x,hi⟩:=one (q:=q) (by simpa using har)
  have hxm:x∈q.inputs:=by rw[hi];simp
  have:=hsz x hxm
  obtain⟨l',hsort,_⟩:=sort_ok r q (bE r x) (bu r x) (by omega) hself.1
  have e:bu r q=l':=by rw[fy,hi];unfold eU;rw[zy (by omega),zy (by omega),zy (by omega),zy (by omega),zy (by omega),zy (by omega),zy (by omega),zp k];show(gF r q (bE r x) (bu r x)).getD []=l';rw[hsort];rfl
  have hx:=hN (n+1) (by omega) x hxm;rw[dt (show q.kind≠1 by omega),dt (show q.kind≠4 by omega),dt (show q.kind≠5 by omega),dt (show q.kind≠6 by omega),dt (show q.kind≠7 by omega),dt (show q.kind≠2 by omega),dt (show q.kind≠3 by omega),dt (show q.kind≠8 by omega),lO k,hi];have g0:aP [x] 0=some x:=rfl;simp only[zd,zc,bM,g0,bPs];rw[hx,bPs,mu (h.small.sub hxm),bPs,hsort,bPs,e]
 ·--limit
  obtain⟨x,hi⟩:=one (q:=q) (by simpa using har)
  have hxm:x∈q.inputs:=by rw[hi];simp
  have e:bu r q=rQ q (bu r x):=by rw[fy,hi];unfold eU;rw[zy (by omega),zy (by omega),zy (by omega),zy (by omega),zy (by omega),zy (by omega),zy (by omega),zy (by omega)];rfl
  have hx:=hN (n+1) (by omega) x hxm;rw[dt (show q.kind≠1 by omega),dt (show q.kind≠4 by omega),dt (show q.kind≠5 by omega),dt (show q.kind≠6 by omega),dt (show q.kind≠7 by omega),dt (show q.kind≠2 by omega),dt (show q.kind≠3 by omega),dt (show q.kind≠8 by omega),dt (show q.kind≠9 by omega),hi];have g0:aP [x] 0=some x:=rfl;simp only[zd,zc,bM,g0,bPs];rw[hx,bPs,mu (h.small.sub hxm),bPs]
  have:=hsz x hxm
  rw[limit_run _ q (by omega) (hs.limit k).1 (hs.limit k).2,bPs,e]
theorem rows_eq{r:LRun}(hr:RunOk r){q:LQuery}(h:QOk r q):mS r q=some (bu r q):=by
 obtain⟨N,hN⟩:=rows_ev hr q h
 exact rW N hN
theorem within_tot{s:LSchema}(hs:SmallS s)(st:List LW){q:LQuery}(hq:SmallQ q)(args:Rq){vars:List LCol}(vals:Rq)(hv:vars.length<=100000):
  ∃res e,ic s st q args vars vals=some (res,e)/\(e=0->res.columns.length<=20/\res.rows.length<=20000/\∀row∈res.rows,row.length=res.columns.length):=by
 unfold ic
 obtain⟨cs,e,hc,he,hcs⟩:=check_eq (s:=s) (vars:=vars) hq
 obtain⟨g,hg,_⟩:=args_ok hq.nodes args
 obtain⟨f,hf,hfo⟩:=conforms hs st
 rw[hc,bPs];by_cases e0:e=0
 ·rw[pB e0,zd,hg,bPs];by_cases g0:g=0
  ·rw[pB g0,zd,hf,bPs];by_cases f0:f=0
   ·rw[pB f0,zd]
    obtain⟨hsz,_,hco⟩:=he.1 e0
    have hok:∀names,QOk (LRun.mk s st args vars names vals) q:=fun names=>⟨hq,hco,hsz.2.2⟩
    have hr:∀names,RunOk (LRun.mk s st args vars names vals):=fun names=>⟨hfo f0⟩
    rw[nG (xs:=vars) LCol.name (fun k x hk=>by
     have:=(zg.1 hk).1
     rw[bI (by decide) (by simp;omega),bPs]),bPs,cI]
    have hrows:=rows_fit (hr (vars.map LCol.name)) q (hok _)
    have hlen:(bu (LRun.mk s st args vars (vars.map LCol.name) vals) q).length<=20000:=by
     have h1:=hrows.len;have h3:=(iM hsz.2.2).1
     have:=hsz.2.2
     omega
    rw[rows_eq (hr _) (hok _),bPs]
    rw[nG (xs:=bu (LRun.mk s st args vars (vars.map LCol.name) vals) q) id (fun k x hk=>by
     have:=(zg.1 hk).1
     rw[bI (by decide) (by simp;omega),bPs];rfl),bPs,cI]
    refine⟨_,_,rfl,fun _=>⟨?_,by simpa using hlen,fun row hrow=>?_⟩⟩
    ·show cs.length<=20;rw[hcs e0];exact jT _ _
    ·show row.length=cs.length;rw[hcs e0];exact hrows.fits row (by simpa using hrow)
   ·rw[mm f0,zc]
    exact⟨_,_,rfl,fun h=>absurd h f0⟩
  ·rw[mm g0,zc]
   exact⟨_,_,rfl,fun h=>absurd h g0⟩
 ·rw[mm e0,zc]
  exact⟨_,_,rfl,fun h=>absurd h e0⟩
theorem vd{t:LTable}(hsm:t.primaryKey.length<=10000000)(rows:Rows)(hl:rows.length<=100000)(key:Rq):
  ∃(i:Nat) (b:Bool),iO t rows key=some ((i:Int),b,rows)/\i<=rows.length/\(b=true->i<rows.length):=by
 unfold iO;rw[pp (by omega),bPs,Int.toNat_natCast]
 obtain⟨fl,hfl,hr⟩:=fI (step:=fun(j1:Nat) (_:Nat) (s1:Rz)=>
  af (aP s1 (j1:Int)) fun(x16:Rq)=>
  af (cZ t x16) fun x20=>
  af (dC x20 key) fun x22=>
  cond (decide (x22>=(0:Int)))
   (some (Flow.ret (σ:=Rz) ((j1:Int),(x22==(0:Int)),s1)))
   (some (.next s1))) (fun _ s=>s=rows) (fun r=>∃(i:Nat) (b:Bool),r=((i:Int),b,rows)/\i<rows.length) (List.range rows.length) 0 rows Z (fun k z s hk hI=>by
    have hkl:=(zg.1 hk).1;simp only[List.length_range]at hkl;simp only[Nat.zero_add]at hI⊢;subst hI
    obtain⟨k1,h1,l1⟩:=uv t s[k] hsm
    obtain⟨z,hz⟩:=qY k1 key (by rw[l1];exact hsm)
    rw[fJ hkl,bPs,h1,bPs,hz,bPs];cases decide (z>=0)with
    |true=>exact⟨_,rfl,k,_,rfl,hkl⟩
    |false=>exact⟨_,rfl,rfl⟩)
 rw[hfl,bPs];cases fl with
 |brk s=>exact absurd hr (by simp)
 |ret r=>
  obtain⟨i,b,rfl,hi⟩:=hr
  exact⟨i,b,rfl,by omega,fun _=>hi⟩
 |next s=>
  simp only at hr;rw[hr]
  exact⟨rows.length,false,rfl,Nat.le_refl _,fun h=>by cases h⟩
theorem upsert_tot{t:LTable}(hsm:t.primaryKey.length<=10000000)(rows:Rows)(hl:rows.length<=1000)(row:Rq):
  ∃rs,iS t rows row=some rs/\rs.length<=rows.length+1/\∀x∈rs,x∈rows\/x=row:=by
 unfold iS
 obtain⟨k,hk,_⟩:=uv t row hsm
 obtain⟨i,b,hf,hi,hb⟩:=vd hsm rows (by omega) k
 rw[sJ (by omega),bPs,hk,bPs,hf,bPs,dW Z,bPs];cases b with
 |true=>
  have hi:=hb Z;simp only[zc];rw[fJ hi,bPs,bM,Int.toNat_natCast]
  exact⟨_,rfl,by rw[List.length_set];omega,fun x hx=>(List.mem_or_eq_of_mem_set hx)⟩
 |false=>
  simp only[zd];unfold insI;rw[zp ⟨by omega,by omega,by omega⟩,Int.toNat_natCast]
  refine⟨_,rfl,by simp;omega,fun x hx=>?_⟩
  rcases List.mem_append.1 hx with h|h
  ·exact .inl (List.mem_of_mem_take h)
  ·rcases List.mem_cons.1 h with rfl|h
   ·exact .inr Z
   ·exact .inl (List.mem_of_mem_drop h)
theorem delete_tot{t:LTable}(hsm:t.primaryKey.length<=10000000)(rows:Rows)(hl:rows.length<=1000)(key:Rq):
  ∃rs b,iQ t rows key=some (rs,b)/\rs.length<=rows.length/\∀x∈rs,x∈rows:=by
 unfold iQ
 obtain⟨i,b,hf,hi,hb⟩:=vd hsm rows (by omega) key
 rw[sJ (by omega),bPs,hf,bPs,dW Z,bPs];cases b with
 |false=>exact⟨_,_,rfl,Nat.le_refl _,fun x hx=>hx⟩
 |true=>
  have hi:=hb Z;simp only[Bool.not_true,zd];rw[wW (by omega) (by omega)];unfold nL;rw[zp ⟨by omega,by omega,by omega⟩,bPs]
  refine⟨_,_,rfl,?_,fun x hx=>?_⟩
  ·simp;omega
  ·rcases List.mem_append.1 hx with h|h
   ·exact List.mem_of_mem_take h
   ·exact List.mem_of_mem_drop h
def Ok{α:Type}(o:Option α)(P:α->Prop):Prop:=∃v,o=some v/\P v
theorem Ok.mk{α:Type}{v:α}{P:α->Prop}(h:P v):Ok (some v) P:=⟨v,rfl,h⟩
theorem Ok.tot{α:Type}{o:Option α}(h:Tot o):Ok o fun _=>True:=by
 obtain⟨v,e⟩:=h
 exact⟨v,e,trivial⟩
theorem Ok.mono{α:Type}{o:Option α}{P Q:α->Prop}(h:Ok o P)(k:∀v,P v->Q v):Ok o Q:=by
 obtain⟨v,e,hv⟩:=h
 exact⟨v,e,k v hv⟩
theorem Ok.bind{α β:Type}{o:Option α}{k:α->Option β}{P:α->Prop}{Q:β->Prop}(h:Ok o P)(hk:∀v,P v->Ok (k v) Q):Ok (af o k) Q:=by
 obtain⟨v,rfl,hv⟩:=h
 exact hk v hv
theorem Ok.cond{α:Type}{b:Bool}{x y:Option α}{Q:α->Prop}(hx:b=true->Ok x Q)(hy:b=false->Ok y Q):Ok (cond b x y) Q:=by
 cases b
 ·exact hy Z
 ·exact hx Z
theorem Ok.letP{α β:Type}{a:α}{k:α->Option β}{Q:β->Prop}(h:Ok (k a) Q):Ok (letP a k) Q:=h
def oN{σ ρ:Type}(N B:σ->Prop)(Q:ρ->Prop):Flow σ ρ->Prop
 | .next s=>N s
 | .brk s=>B s
 | .ret r=>Q r
theorem Ok.range{α σ ρ:Type}{step:Nat->α->σ->Option (Flow σ ρ)}{I:Nat->σ->Prop}{B:σ->Prop}{Q:ρ->Prop}:∀{xs:List α} {j:Nat} {s:σ},I j s->
  (∀k x s,xs[k]? =some x->I (j+k) s->Ok (step (j+k) x s) (oN (I (j+k+1)) B Q))->Ok (aN step j xs s) (oN (fun s=>I (j+xs.length) s\/B s) (fun _=>False) Q)
 |[],j,s,h,_=>⟨.next s,rfl,.inl (by simpa using h)⟩
 |x::xs,j,s,h,hs=>by
  obtain⟨fl,h1,h2⟩:=hs 0 x s Z (by simpa using h)
  rw[Nat.add_zero]at h1 h2;cases fl with
  |next s'=>
   obtain⟨fl,h3,h4⟩:=Ok.range (step:=step) (I:=I) (B:=B) (Q:=Q) (xs:=xs) (j:=j+1) (s:=s') h2 (fun k y t hk hI=>by
    have:=hs (k+1) y t (by simpa using hk) (by rw[show j+(k+1)=j+1+k from by omega];exact hI)
    rw[show j+(k+1)=j+1+k from by omega]at this;exact this)
   refine⟨fl,by rw[aN,h1];exact h3,?_⟩
   rw[show j+(x::xs).length=j+1+xs.length from by simp;omega];exact h4
  |brk s'=>exact⟨.next s',by rw[aN,h1],.inr h2⟩
  |ret r=>exact⟨.ret r,by rw[aN,h1],h2⟩
theorem Ok.thenR{σ ρ:Type}{fl:Flow σ ρ}{k:σ->Option ρ}{N B:σ->Prop}{Q R:ρ->Prop}(h:oN N B Q fl)(hk:∀s,N s\/B s->Ok (k s) R)(hr:∀r,Q r->R r):Ok (fl.thenR k) R:=by
 cases fl with
 |next s=>exact hk s (.inl h)
 |brk s=>exact hk s (.inr h)
 |ret r=>exact⟨r,rfl,hr r h⟩
theorem Ok.thenF{σ τ ρ:Type}{fl:Flow σ ρ}{k:σ->Option (Flow τ ρ)}{N B:σ->Prop}{Q Q':ρ->Prop}{N' B':τ->Prop}(h:oN N B Q fl)(hk:∀s,N s\/B s->Ok (k s) (oN N' B' Q'))(hr:∀r,Q r->Q' r):Ok (fl.thenF k) (oN N' B' Q'):=by
 cases fl with
 |next s=>exact hk s (.inl h)
 |brk s=>exact hk s (.inr h)
 |ret r=>exact⟨.ret r,rfl,hr r h⟩
theorem Ok.thenP{σ τ:Type}{fl:Flow σ Empty}{k:σ->Option τ}{N B:σ->Prop}{Q:Empty->Prop}{R:τ->Prop}(h:oN N B Q fl)(hk:∀s,N s\/B s->Ok (k s) R):Ok (fl.thenP k) R:=by
 cases fl with
 |next s=>exact hk s (.inl h)
 |brk s=>exact hk s (.inr h)
 |ret r=>exact r.elim
theorem Ok.get{α:Type}{xs:List α}{i:Int}(h0:0<=i)(h:i<xs.length):Ok (aP xs i) fun x=>xs[i.toNat]? =some x:=by
 obtain⟨x,hx⟩:=Tot.get h0 h
 exact⟨x,hx,(gIs hx).2⟩
structure WriteOk(S:LSchema)(x:LS):Prop where
 tab:0<=bg (fun t:LTable=>t.name==x.table) S.tables
 names:x.kind=5->∀t,S.tables[(bg (fun t:LTable=>t.name==x.table) S.tables).toNat]? =some t->∀n∈x.names,0<=bg (fun c:LCol=>c.name==n) t.columns
inductive GoodL(S:LSchema):List LS->Prop
 |mk {l:List LS} (h1:∀s∈l,ShapeP s) (h2:∀s∈l,s.kind=4\/s.kind=5\/s.kind=6->WriteOk S s) (h3:∀s∈l,s.kind=2->GoodL S s.body) (h4:∀s∈l,s.kind=2->GoodL S s.elseF)
   (h5:∀s∈l,s.kind=3->GoodL S s.body):GoodL S l
structure GoodS(S:LSchema)(s:LS):Prop where
 shape:ShapeP s
 write:s.kind=4\/s.kind=5\/s.kind=6->WriteOk S s
 yes:s.kind=2->GoodL S s.body
 no:s.kind=2->GoodL S s.elseF
 each:s.kind=3->GoodL S s.body
theorem GoodL.of{S:LSchema}{l:List LS}(h:∀s∈l,GoodS S s):GoodL S l:=
 ⟨fun s hs=>(h s hs).shape,fun s hs=>(h s hs).write,fun s hs=>(h s hs).yes,fun s hs=>(h s hs).no,fun s hs=>(h s hs).each⟩
theorem GoodL.at{S:LSchema}{l:List LS}(h:GoodL S l):∀s∈l,GoodS S s:=by
 cases h with
 |mk h1 h2 h3 h4 h5=>exact fun s hs=>⟨h1 s hs,h2 s hs,h3 s hs,h4 s hs,h5 s hs⟩
theorem write_ok(c:LC)(vars:List LCol){s:LS}(hs:ShapeP s)(hk:s.kind=4\/s.kind=5\/s.kind=6):Ok (gp c vars s) fun e=>e=0->WriteOk c.s s:=by
 unfold gp;refine Ok.bind (P:=fun tb=>tb.2=true->0<=bg (fun t:LTable=>t.name==s.table) c.s.tables/\c.s.tables[(bg (fun t:LTable=>t.name==s.table) c.s.tables).toNat]? =some tb.1) ?_ fun tb htb=>?_
 ·unfold iy;rw[qS,bPs];refine Ok.cond (fun _=>Ok.mk fun h=>by cases h) fun h=>?_
  have h0:0<=bg (fun a0=>eO a0 s.table) c.s.tables:=by simpa using h
  obtain⟨x,hx,_⟩:=iT h0
  rw[kY h0 hx,bPs];exact Ok.mk fun _=>⟨h0,hx⟩
 refine Ok.cond (fun _=>Ok.mk fun h=>absurd h (by decide)) fun hf=>?_
 obtain⟨hi,hget⟩:=htb (by simpa using hf)
 refine Ok.bind (P:=oN (fun _=>True) (fun _=>False) fun r=>r≠0) ?_ fun fl hfl=>Ok.thenR hfl (fun _ _=>?_) fun r hr h=>absurd h hr
 ·refine Ok.cond (fun h=>?_) fun _=>Ok.mk trivial
  have h4:s.kind≠4:=by simpa using h
  have hw:=hs.wher (by omega);refine Ok.bind (Ok.get (by omega) (by omega)) fun _ _=>Ok.bind (Ok.tot (pred_tot c _ vars _)) fun x _=>Ok.cond (fun h=>Ok.mk ?_) fun _=>Ok.mk trivial
  show x≠0;simpa using h
 refine Ok.letP (Ok.cond (fun _=>Ok.mk fun h=>absurd h (by decide)) fun ht=>?_);refine Ok.bind (Ok.range (I:=fun j _=>s.kind=5->∀k n,k<j->s.names[k]? =some n->0<=bg (fun a:LCol=>a.name==n) tb.1.columns) (B:=fun _=>False) (Q:=fun r=>r≠0) (fun _ k n h=>absurd h (by omega)) fun j x u hj hI=>?_) fun fl hfl=>Ok.thenR hfl (fun u hu=>Ok.mk fun _=>?_) fun r hr h=>absurd h hr
 ·simp only[Nat.zero_add]at hI⊢;have hjl:=(zg.1 hj).1;refine Ok.bind (P:=oN (fun t=>0<=t.1/\t.1<(tb.1.columns.length:Int)/\(s.kind=5->∀n,s.names[j]? =some n->0<=bg (fun a:LCol=>a.name==n) tb.1.columns)) (fun _=>False) fun r=>r≠0) ?_ fun fl5 h5=>Ok.thenF h5 (fun t ht=>?_) fun _ h=>h
  ·refine Ok.cond (fun h5=>?_) fun h5=>Ok.mk ?_
   ·have k5:s.kind=5:=by simpa using h5
    have hn:j<s.names.length:=by rw[<-hs.upd k5];exact hjl
    have hg:aP s.names (j:Int)=some s.names[j]:=kY (by omega) (by simp[hn])
    have hix:bB tb.1.columns (fun a0=>eK a0 s (j:Int))=some (bg (fun a=>a.name==s.names[j]) tb.1.columns):=idxF fun a _=>by
     unfold eK;rw[hg,bPs]
    rw[hix,bPs];refine Ok.cond (fun _=>Ok.mk (show(23:Int)≠0 from by decide)) fun h0=>?_
    have h0':0<=bg (fun a:LCol=>a.name==s.names[j]) tb.1.columns:=by simpa using h0
    obtain⟨x76,h76⟩:=Tot.sub (xs:=s.names) (a:=0) (b:=(j:Int)) ⟨by omega,by omega,by omega⟩
    rw[h76,bPs,hg,bPs];refine Ok.bind (Ok.tot (vr x76 s.names[j])) fun _ _=>Ok.cond (fun _=>Ok.mk (show(9:Int)≠0 from by decide)) fun _=>?_
    rw[tW,bPs];refine Ok.cond (fun _=>Ok.mk (show(9:Int)≠0 from by decide)) fun _=>Ok.mk ?_
    obtain⟨y,hy,_⟩:=iT (p:=fun a:LCol=>a.name==s.names[j]) (l:=tb.1.columns) h0'
    have:=(zg.1 hy).1
    refine⟨h0',by show bg _ _<_;omega,fun _ n hnn=>?_⟩
    rw[ze hn]at hnn;cases hnn;exact h0'
   ·have k5:s.kind≠5:=by simpa using h5
    have h6:s.kind≠6:=fun e=>by have:=hs.del e;omega
    have h4:s.kind=4:=by omega
    rw[lO h4,zc]at ht
    have:(s.exprs.length:Int)=tb.1.columns.length:=by simpa using ht
    exact⟨by show(0:Int)<=(j:Int);omega,by show(j:Int)<_;omega,fun e=>absurd e k5⟩
  ·obtain⟨a,b,hc⟩:=ht.resolve_right id
   have nxt:s.kind=5->∀k n,k<j+1->s.names[k]? =some n->0<=bg (fun a:LCol=>a.name==n) tb.1.columns:=by
    intro k5 k n hkj hkn;by_cases hkk:k<j
    ·exact hI k5 k n hkk hkn
    ·rw[show k=j from by omega]at hkn;exact hc k5 n hkn
   refine Ok.bind (Ok.tot (rj c t.2 vars x)) fun v _=>Ok.cond (fun h=>Ok.mk ?_) fun _=>Ok.cond (fun _=>Ok.bind (Ok.get a b) fun _ _=>Ok.cond (fun _=>Ok.mk (show(7:Int)≠0 from by decide)) fun _=>Ok.mk nxt) fun _=>Ok.mk nxt
   show v.2.2≠0;simpa using h
 ·refine⟨hi,fun k5 t hgt n hn=>?_⟩
  rw[hget]at hgt;cases hgt;have hu:=(hu.resolve_right id).resolve_right id;simp only[Nat.zero_add]at hu
  obtain⟨k,hk,rfl⟩:=List.mem_iff_getElem.1 hn
  exact hu k5 k _ (by rw[hs.upd k5];exact hk) (ze hk)
theorem query_bulk{s:LS}{q:LQuery}(hb:bN (ax s)<=1048576)(hq:q∈s.query):TinyQ q:=by
 rw[dQ]at hb;have h1:=lc (List.mem_map_of_mem (f:=dv) hq);simp only[aC,bN,PV.bulk]at hb;rw[cN]at h1;exact tiny_bulk (n:=1048576) (by omega) (by omega)
theorem body_bulk{s x:LS}(hb:bN (ax s)<=1048576)(hx:x∈s.body\/x∈s.elseF):bN (ax x)<=1048576:=by
 rw[dQ]at hb;simp only[aC,bN,PV.bulk]at hb;rcases hx with hx|hx
 ·have h1:=lc (List.mem_map_of_mem (f:=ax) hx);omega
 ·have h1:=lc (List.mem_map_of_mem (f:=ax) hx);omega
theorem stmt_ok{c:LC}{s:LS}(hs:ShapeP s)(hb:bN (ax s)<=1048576){vars:List LCol}(hl:vars.length+21*(1+iB s.body+iB s.elseF)<=10000)
  (h1:∀v:List LCol,v.length+21*iB s.body<=10000->Ok (bw c v s.body) fun r=>r.2=0->GoodL c.s s.body) (h2:∀v:List LCol,v.length+21*iB s.elseF<=10000->Ok (bw c v s.elseF) fun r=>r.2=0->GoodL c.s s.elseF):
  Ok (cz bw bY c vars s) fun r=>r.1.length<=vars.length+1/\(r.2=0->GoodS c.s s):=by
 have bad:∀e:Int,e≠0->(([]:List LCol),e).1.length<=vars.length+1/\((([]:List LCol),e).2=0->GoodS c.s s):=fun e he=>⟨by simp,fun h=>absurd h he⟩
 unfold cz;by_cases k1:s.kind=1
 ·have good:GoodS c.s s:=⟨hs,fun h=>by omega,fun h=>by omega,fun h=>by omega,fun h=>by omega⟩
  rw[lO k1,zc];refine Ok.bind (Ok.get (by omega) (by have:=hs.one (.inl k1);omega)) fun x _=>Ok.bind (Ok.tot (rj c ([]:List LCol) vars x)) fun y _=>Ok.letP ?_
  refine Ok.cond (fun _=>Ok.mk (bad _ (by decide))) fun _=>Ok.cond (fun h=>Ok.mk (bad _ (by simpa using h))) fun _=>Ok.cond (fun _=>Ok.mk (bad _ (by decide))) fun _=>?_
  obtain⟨v,hv,hvl⟩:=set_tot (vars:=vars) (x:=LCol.mk s.name y.1 y.2.1) (by omega)
  rw[hv,bPs];exact Ok.mk ⟨hvl,fun _=>good⟩
 rw[dt k1,zd];by_cases k2:s.kind=2
 ·rw[lO k2,zc];refine Ok.bind (Ok.get (by omega) (by have:=hs.one (.inr k2);omega)) fun x _=>Ok.bind (Ok.tot (pred_tot c ([]:List LCol) vars x)) fun y _=>Ok.cond (fun h=>Ok.mk (bad _ (by simpa using h))) fun _=>?_
  refine Ok.bind (h1 vars (by omega)) fun a ha=>Ok.cond (fun h=>Ok.mk (bad _ (by simpa using h))) fun ha0=>Ok.bind (h2 vars (by omega)) fun b hb'=>Ok.mk ⟨by simp,fun h=>?_⟩
  exact⟨hs,fun h=>by omega,fun _=>ha (by simpa using ha0),fun _=>hb' h,fun h=>by omega⟩
 rw[dt k2,zd,bM];by_cases k3:s.kind=3\/s.kind=7
 ·have e3:(cond (s.kind==(3:Int)) (s.kind==(3:Int)) (s.kind==(7:Int)))=true:=by rcases k3 with k|k<;>rw[k]<;>rfl
  rw[e3,zc]
  obtain⟨x,hx⟩:=Tot.get (xs:=s.query) (i:=0) (by omega) (by have:=hs.query k3;omega)
  have hxm:x∈s.query:=eM (gIs hx).2;have ht:=query_bulk hb hxm
  obtain⟨cs,e,hc,_,hcs⟩:=check_eq (s:=c.s) (vars:=vars) ht.small
  obtain⟨g,hg⟩:=given_tot (c:=c) (q:=x) (by have:=ht.nodes;omega)
  rw[hx,bPs,hc,bPs];refine Ok.cond (fun h=>Ok.mk (bad _ (by simpa using h))) fun he=>?_
  have he:e=0:=by simpa using he
  have hcl:cs.length<=20:=by rw[hcs he];exact jT _ _
  rw[bPs,hg,bPs];refine Ok.cond (fun h=>Ok.mk (bad _ (by simpa using h))) fun _=>?_
  refine Ok.bind (Ok.range (I:=fun j t=>t.length<=vars.length+j) (B:=fun _=>False) (Q:=fun _=>False) (by omega) fun k y t hk hI=>?_) fun fl hfl=>Ok.thenP hfl fun t ht=>?_
  ·have hkl:k<cs.length:=(zg.1 hk).1;have hI:t.length<=vars.length+(0+k):=hI
   obtain⟨v,hv,hvl⟩:=set_tot (vars:=t) (x:=y) (by omega)
   rw[hv,bPs];exact Ok.mk (show v.length<=_ by omega)
  ·have ht:t.length<=vars.length+(0+cs.length):=(ht.resolve_right id).resolve_right id;refine Ok.bind (h1 t (by omega)) fun b hb'=>Ok.mk ⟨by simp,fun h=>?_⟩
   exact⟨hs,fun h=>by omega,fun h=>by omega,fun h=>by omega,fun _=>hb' h⟩
 have e3:(cond (s.kind==(3:Int)) (s.kind==(3:Int)) (s.kind==(7:Int)))=false:=by rw[dt (fun e=>k3 (.inl e)),zd,dt (fun e=>k3 (.inr e))]
 rw[e3,zd,bM];by_cases k4:s.kind=4\/s.kind=5\/s.kind=6
 ·have e4:(cond (s.kind==(4:Int)) (s.kind==(4:Int)) (cond (s.kind==(5:Int)) (s.kind==(5:Int)) (s.kind==(6:Int))))=true:=by rcases k4 with k|k|k<;>rw[k]<;>rfl
  rw[e4,zc];refine Ok.bind (write_ok c vars hs k4) fun w hw=>Ok.mk ⟨by simp,fun h=>?_⟩
  exact⟨hs,fun _=>hw h,fun h=>by omega,fun h=>by omega,fun h=>by omega⟩
 ·have e4:(cond (s.kind==(4:Int)) (s.kind==(4:Int)) (cond (s.kind==(5:Int)) (s.kind==(5:Int)) (s.kind==(6:Int))))=false:=by
   rw[dt (fun e=>k4 (.inl e)),zd,dt (fun e=>k4 (.inr (.inl e))),zd,dt (fun e=>k4 (.inr (.inr e)))]
  rw[e4,zd];exact Ok.mk ⟨by simp,fun _=>⟨hs,fun h=>absurd h k4,fun h=>absurd h k2,fun h=>absurd h k2,fun h=>absurd (.inl h) k3⟩⟩
theorem body_ok(c:LC):∀l:List LS,(∀s∈l,bN (ax s)<=1048576)->∀vars:List LCol,vars.length+21*iB l<=10000->Ok (bw c vars l) fun r=>r.2=0->GoodL c.s l:=by
 refine rZ fun l ih hb vars hl=>?_
 rw[(body_both l).2.1];unfold dr;refine Ok.bind (Ok.range (I:=fun j t=>t.length+21*iB l<=vars.length+21*iB l+iB (l.take j)/\∀s∈l.take j,GoodS c.s s) (B:=fun _=>False) (Q:=fun r=>r.2≠0) ⟨by omega,by simp⟩ fun k x t hk hI=>?_) fun fl hfl=>Ok.thenR hfl (fun t ht=>Ok.mk fun _=>?_) fun r hr h=>absurd h hr
 ·simp only[Nat.zero_add]at hI⊢;have hx:=eM hk
  obtain⟨b,hbs⟩:=shapeP_tot x
  rw[hbs,bPs];cases b with
  |false=>exact Ok.mk (show(3:Int)≠0 from by decide)
  |true=>
   have hsh:=shapeP_ok hbs
   obtain⟨c1,c2⟩:=cntS_take hk
   have hm:=cntS_mem hx
   have hst:=stmt_ok (c:=c) (vars:=t) hsh (hb x hx) (by have:=hI.1;omega)
    (fun v hv=>(ih x hx).1 (fun y hy=>body_bulk (hb x hx) (.inl hy)) v hv) (fun v hv=>(ih x hx).2 (fun y hy=>body_bulk (hb x hx) (.inr hy)) v hv)
   rw[<-(body_both l).2.2 x hx]at hst;simp only[Bool.not_true,zd];refine Ok.bind hst fun v hv=>Ok.cond (fun h=>Ok.mk (show v.2≠0 by simpa using h)) fun h=>Ok.mk ⟨by have:=hI.1;have:=hv.1;omega,?_⟩
   intro y hy;rw[List.take_add_one,hk,List.mem_append]at hy;rcases hy with hy|hy
   ·exact hI.2 y hy
   ·simp at hy;rw[hy];exact hv.2 (by simpa using h)
 ·have ht:=(ht.resolve_right id).resolve_right id;simp only[Nat.zero_add,List.take_length]at ht;exact GoodL.of ht.2
end
end Go.Proofs.YtafdcemcgfbhcaaGreatDoor
