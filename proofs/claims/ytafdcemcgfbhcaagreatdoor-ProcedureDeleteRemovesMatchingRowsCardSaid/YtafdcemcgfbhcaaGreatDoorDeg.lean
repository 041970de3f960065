/- procedureDeleteRemovesMatchingRows_holds, part 7: the layer, the plain functions and what they compute; conditions as in the statement. -/
import Derived.Test.YtafdcemcgfbhcaaGreatDoorDef
set_option maxHeartbeats 4000000
namespace Go.Proofs.YtafdcemcgfbhcaaGreatDoor
noncomputable section
open Go Go.Ab
theorem val_eq(x y:LVal):(x.kind==y.kind&&(x.int==y.int&&(x.text==y.text&&true)))=decide (x=y):=by
 obtain⟨a,b,c⟩:=x
 obtain⟨a',b',c'⟩:=y
 by_cases h:(⟨a,b,c⟩:LVal)=⟨a',b',c'⟩
 ·rw[zt h];cases h;simp
 ·rw[zf h];by_cases h1:a=a'
  ·by_cases h2:b=b'
   ·have h3:c≠c':=fun h3=>h (by rw[h1,h2,h3])
    have:(c==c')=false:=by simpa using h3
    simp[this]
   ·simp[cP h2]
  ·simp[cP h1]
theorem equalRow(x y:Rq):bW x y=some (decide (x=y)):=by
 unfold bW;by_cases hl:x.length=y.length
 ·rw[natNE,zt hl,Bool.not_true,zd]
  obtain⟨fl,hfl,hr⟩:=eX (step:=fun(j1:Nat) (x1:LVal) (_:Unit)=>ag (getI y (j1:Int)) fun(x22:LVal)=>cond (!(x1.kind==x22.kind&&(x1.int==x22.int&&(x1.text==x22.text&&true)))) (some (Flow.ret false)) (some (.next ())))
   (fun j _=>x.take j=y.take j) (fun r=>r=false∧x≠y) x 0 () (by simp) (fun k v s hk hI=>by
    simp only[Nat.zero_add]at hI⊢;have hkl:=(zg.1 hk).1;rw[eP (by omega),bPs,val_eq];by_cases hv:v=y[k]
    ·rw[zt hv]
     refine⟨_,rfl,?_⟩
     simp only;rw[List.take_add_one,List.take_add_one,hk,ze (by omega),hI,hv]
    ·rw[zf hv]
     refine⟨_,rfl,rfl,fun he=>hv ?_⟩
     subst he
     exact(zg.1 hk).2.symm)
  rw[hfl,bPs];cases fl with
  |brk s=>exact absurd hr (by simp)
  |ret r=>rw[ss,hr.1,zf hr.2]
  |next s=>
   simp only[Nat.zero_add,List.take_length]at hr;rw[hl,List.take_length]at hr;rw[cV,zt hr]
 ·rw[natNE,zf hl,zf (fun h=>hl (by rw[h]))];rfl
theorem idxO(l:Rows)(p:Rq→Bool)(f:Rq→Option Bool)(hf:∀x∈l,f x=some (p x))(hl:l.length≤10000000):bI l f=some (bf p l,l):=by
 unfold bI;rw[lL (by omega),bPs,Int.toNat_natCast]
 obtain⟨fl,hfl,hr⟩:=eX (step:=fun(j1:Nat) (_:Nat) (s1:Rows)=>ag (getI s1 (j1:Int)) fun(x14:Rq)=>ag (f x14) fun x16=>cond x16 (some (Flow.ret ((j1:Int),s1))) (some (.next s1)))
  (fun j s=>s=l∧∀x∈l.take j,p x=false) (fun r=>r=(bf p l,l)) (List.range l.length) 0 l ⟨rfl,by simp⟩ (fun k v s hk hI=>by
   simp only[Nat.zero_add]at hI⊢;have hkl:=(zg.1 hk).1;simp at hkl
   obtain⟨rfl,hI⟩:=hI
   rw[eP hkl,bPs,hf _ (List.getElem_mem hkl),bPs];cases hp:p s[k]with
   |true=>exact⟨_,rfl,by simp only;rw[qw hkl hI hp]⟩
   |false=>
    refine⟨_,rfl,rfl,fun x hx=>?_⟩
    rw[List.take_add_one,ze hkl,List.mem_append]at hx;rcases hx with hx|hx
    ·exact hI x hx
    ·simp at hx;rw[hx];exact hp)
 rw[hfl,bPs];cases fl with
 |brk s=>exact absurd hr (by simp)
 |ret r=>rw[ss,hr]
 |next s=>
  simp only[Nat.zero_add,List.length_range,List.take_length]at hr;rw[cV,hr.1,kV hr.2]
theorem deleteFunc_eq(l:Rows)(p:Rq→Bool)(f:Rq→Option Bool)(hf:∀x∈l,f x=some (p x))(hl:l.length≤1000000):dv l f=some (l.filter fun x=>!p x):=by
 unfold dv;rw[idxO l p f hf (by omega),bPs];simp only;rw[dY trivial,bPs];by_cases hneg:bf p l=-1
 ·rw[kT hneg,zc];congr 1
  symm
  rw[List.filter_eq_self];intro x hx
  have:decide (bf p l≥0)=false:=by rw[hneg];rfl
  rw[jF]at this
  have:=List.any_eq_false.1 this x hx
  simpa using this
 ·rw[cP hneg,zd];have h0:0≤bf p l:=by rcases idxOf_neg (p:=p) (l:=l)with h|h;exact absurd h hneg;exact h
  obtain⟨i,hi⟩:∃i:Nat,bf p l=i:=⟨(bf p l).toNat,by omega⟩
  have hil:i<l.length:=by have:=qx h0;omega
  have hpre:(l.take i).filter (fun x=>!p x)=l.take i:=by
   rw[List.filter_eq_self];intro x hx
   have:l.findIdx? p=some i:=by
    unfold bf at hi;cases hq:l.findIdx? p with
    |none=>rw[hq]at hi;simp at hi
    |some j=>rw[hq]at hi;exact congrArg some (by have hi:(j:Int)=(i:Int):=hi;omega)
   obtain⟨_,_,hlt⟩:=List.findIdx?_eq_some_iff_getElem.1 this
   obtain⟨j,hj,rfl⟩:=List.mem_take_iff_getElem.1 hx
   simp[hlt j (by omega)]
  have hpi:p l[i]=true:=by
   obtain⟨x,hx,hp⟩:=lK h0
   rw[hi,Int.toNat_natCast,ze hil]at hx;cases hx;exact hp
  rw[hi,bB (n:=(i:Int)+1) (by omega) (by omega)]
  obtain⟨r,hr,hq⟩:=hC (step:=fun(s1:Rows×Int×Int)=>
   cond (decide (s1.2.2<(s1.1.length:Int)))
    (ag (getI s1.1 s1.2.2) fun(x24:Rq)=>ag (f x24) fun x28=>cond (!x28) (ag (getI s1.1 s1.2.1) fun(_:Rq)=>letP (s1.1.set s1.2.1.toNat x24) fun(y4:Rows)=>some (.next (y4,(IntKind.i64.wrap (s1.2.1+(1:Int))),(IntKind.i64.wrap (s1.2.2+(1:Int))))))
     (some (.next (s1.1,s1.2.1,(IntKind.i64.wrap (s1.2.2+(1:Int)))))))
    (some (.brk (s1.1,s1.2.1,s1.2.2)))) (s:=(l,(i:Int),(i:Int)+1)) (k:=fun(s1:Rows×Int×Int)=>ag (cutI s1.1 s1.2.1) fun(y5:Rows)=>ag (cutI y5 s1.2.1) fun(y6:Rows)=>some y6) (R:=fun r=>r=l.filter fun x=>!p x)
   (fun s=>∃a j:Nat,s.2.1=a∧s.2.2=j∧a<j∧j≤l.length∧s.1.length=l.length∧s.1.take a=(l.take j).filter (fun x=>!p x)∧s.1.drop j=l.drop j) (fun s=>(l.length-s.2.2).toNat)
   (fun s=>∃a:Nat,s.2.1=a∧a≤s.1.length∧s.1.take a=l.filter fun x=>!p x)
   ⟨i,i+1,rfl,by show(i:Int)+1=((i+1:Nat):Int);omega,by omega,by omega,rfl,by
    show l.take i=_;rw[List.take_add_one,ze hil,List.filter_append,hpre];simp[hpi],rfl⟩
   (fun s hI=>by
    obtain⟨a,j,h1,h2,h3,h4,h5,h6,h7⟩:=hI
    obtain⟨d,s1,s2⟩:=s
    simp only at h1 h2 h5 h6 h7⊢;subst h1;subst h2;by_cases hlt:j<l.length
    ·rw[zt (show(j:Int)<(d.length:Int)from by omega),zc,eP (by omega),bPs]
     have hdj:d[j]?=l[j]?:=by
      have:=congrArg (fun q=>q[0]?) h7
      simpa using this
     have hdje:d[j]=l[j]:=by
      rw[ze (by omega),ze hlt]at hdj;exact Option.some.inj hdj
     have hdrop:∀e:Rows,e.drop j=l.drop j→e.drop (j+1)=l.drop (j+1):=fun e he=>by
      rw[←List.drop_drop,←List.drop_drop,he]
     rw[hdje,hf _ (List.getElem_mem hlt),bPs,bB (n:=(j:Int)+1) (by omega) (by omega),bB (n:=(a:Int)+1) (by omega) (by omega)];cases hp:p l[j]with
     |true=>
      refine⟨_,rfl,⟨a,j+1,rfl,by show(j:Int)+1=((j+1:Nat):Int);omega,by omega,by omega,h5,?_,hdrop d h7⟩,by show((l.length:Int)-((j:Int)+1)).toNat<((l.length:Int)-(j:Int)).toNat;omega⟩
      show d.take a=_;rw[h6,List.take_add_one,ze hlt,List.filter_append];simp[hp]
     |false=>
      simp only[Bool.not_false,zc];rw[eP (by omega),bPs,bp,Int.toNat_natCast]
      refine⟨_,rfl,⟨a+1,j+1,by show(a:Int)+1=((a+1:Nat):Int);omega,by show(j:Int)+1=((j+1:Nat):Int);omega,by omega,by omega,by show(d.set a l[j]).length=l.length;simp[h5],?_,?_⟩,by show((l.length:Int)-((j:Int)+1)).toNat<((l.length:Int)-(j:Int)).toNat;omega⟩
      ·show(d.set a l[j]).take (a+1)=_
       rw[List.take_add_one,List.getElem?_set_self (by omega),List.take_set_of_le (by omega),h6,List.take_add_one,ze hlt,List.filter_append];simp[hp]
      ·show(d.set a l[j]).drop (j+1)=_
       rw[List.drop_set_of_lt (by omega)];exact hdrop d h7
    ·rw[zf (show ¬(j:Int)<(d.length:Int)from by omega)]
     refine⟨_,rfl,a,rfl,by show a≤d.length;omega,?_⟩
     show d.take a=_;rw[h6,List.take_of_length_le (by omega)])
   (fun s hq=>by
    obtain⟨a,h1,h2,h3⟩:=hq
    rw[h1];unfold cutI;rw[zp ⟨by omega,by simpa using h2⟩,bPs,Int.toNat_natCast,zp ⟨by omega,by simp;omega⟩,bPs,List.take_take,Nat.min_self]
    exact⟨_,rfl,h3⟩)
  rw[←hq];exact hr
def mB:Rows→Rows→Rows
 |[],_=>[]
 |x::a,left=>if x∈left then mB a (left.erase x)else x::mB a left
theorem erase_idx{α:Type}[BEq α][LawfulBEq α][DecidableEq α]{l:List α}{x:α}{i:Nat}(h:l.findIdx? (fun y=>decide (x=y))=some i):l.take i++l.drop (i+1)=l.erase x:=by
 induction l generalizing i with
 |nil=>simp at h
 |cons a l ih=>
  rw[List.findIdx?_cons]at h;by_cases hx:x=a
  ·subst hx;simp at h;subst h;simp
  ·have e:decide (x=a)=false:=zf hx;rw[e]at h;simp only[Bool.false_eq_true,if_false,Option.map_eq_some_iff]at h
   obtain⟨j,hj,rfl⟩:=h
   have hne:(a==x)=false:=by simp;exact fun h=>hx h.symm
   rw[List.erase_cons,hne];simp[ih hj]
theorem less_run:∀(a:Rows) (j:Nat) (left out:Rows),left.length≤1000000→out.length+a.length≤1000000→
  aG (σ:=Rows×Rows) (ρ:=Empty) (fun(_:Nat) (x1:Rq) (s1:Rows×Rows)=>
  ag (bI s1.1 (fun a0=>jH a0 x1)) fun x20=>
  ag (eY (x20.2.length=s1.1.length) ()) fun(_:Unit)=>
  cond (decide (x20.1≥(0:Int)))
   (ag (delI x20.2 x20.1 (IntKind.i64.wrap (x20.1+(1:Int)))) fun x27=>
   some (.next (x27,s1.2)))
   (ag (db 24 s1.2 ([x1]:Rz)) fun(x31:Rz)=>
   some (.next (x20.2,x31)))) j a (left,out)=some (.next ((a.foldl (fun l x=>l.erase x) left),out++mB a left))
 |[],j,left,out,_,_=>by simp[aG,mB]
 |x::a,j,left,out,hl,ho=>by
  rw[aG,idxO left (fun y=>decide (x=y)) _ (fun y _=>by unfold jH;rw[equalRow];rfl) (by omega),bPs];simp only;rw[dY trivial,bPs,mB,List.foldl_cons];by_cases hx:x∈left
  ·have hany:decide (bf (fun y=>decide (x=y)) left≥0)=true:=by rw[jF,List.any_eq_true];exact⟨x,hx,by simp⟩
   rw[hany,zc,zp hx];have h0:=of_decide_eq_true hany;unfold bf at h0⊢;cases hq:left.findIdx? (fun y=>decide (x=y))with
   |none=>rw[hq]at h0;simp at h0
   |some i=>
    have hil:=(List.findIdx?_eq_some_iff_getElem.1 hq).1;simp only;rw[bB (by omega) (by omega)]
    have hd:delI left (i:Int) ((i:Int)+1)=some (left.erase x):=by
     unfold delI;rw[zp ⟨by omega,by omega,by omega⟩,show((i:Int)).toNat=i from rfl,show((i:Int)+1).toNat=i+1 from by omega,erase_idx hq]
    rw[hd,bPs];exact less_run a (j+1) (left.erase x) out (by have:=List.length_erase_le (a:=x) (l:=left);omega) (by simp at ho;omega)
  ·have hany:decide (bf (fun y=>decide (x=y)) left≥0)=false:=by
    rw[jF,List.any_eq_false];intro y hy he
    have:x=y:=by simpa using he
    exact hx (this▸hy)
   rw[hany,zd,zy hx,bM (by decide) (by simp at ho⊢;omega),bPs];simp only;rw[less_run a (j+1) left _ hl (by simp at ho⊢;omega),List.erase_of_not_mem hx];simp
theorem less_eq(a b:Rows)(ha:a.length≤1000000)(hb:b.length≤1000000):lG a b=some (mB a b):=by
 unfold lG;rw[less_run a 0 b [] hb (by simpa using ha),bPs,bT];rfl
theorem sV:∀(a b:Rows),(mB a b).Sublist a
 |[],_=>by simp[mB]
 |x::a,b=>by
  rw[mB];split
  ·exact(sV a _).cons x
  ·exact(sV a b).cons_cons x
theorem concat2(x y:Rq)(hx:x.length≤1000000)(hy:y.length≤1000000):bS [x,y]=some (x++y):=by
 unfold bS;simp only[aG,Int.zero_add];rw[bB (n:=(x.length:Int)) (by omega) (by omega),zf (show ¬(x.length:Int)<0 from by omega)];simp only[zd];rw[bB (n:=(x.length:Int)+(y.length:Int)) (by omega) (by omega),zf (show ¬(x.length:Int)+(y.length:Int)<0 from by omega)];simp only[zd,bPs,bT];rw[growI_ok ⟨by omega,by omega,by unfold maxLen;omega⟩,bPs,bM (by decide) (by simp;omega),bPs];simp only[List.nil_append];rw[bM (by decide) (by omega)];rfl
def iK(f:Rq→Bool)(x:Rq)(b:Rows):Rows:=(b.map fun y=>x++y).filter f
def padR(f:Rq→Bool)(left:Bool)(pad x:Rq)(b:Rows):Rows:=if left=true∧iK f x b=[]then [x++pad]else iK f x b
def kU(f:Rq→Bool)(left:Bool)(pad:Rq)(a b:Rows):Rows:=(a.map fun x=>padR f left pad x b).flatten
theorem match_run(f:Rq→Bool)(e:LExpr)(r:LRun)(cols:List LCol)(ex:List LExpr)(he:getI ex 0=some e)(hf:∀z,gU (cn (bw r cols z) e)=f z)(x:Rq)(hx:x.length≤1000)
  (b:Rows) (out:Rows) (found:Bool) (hb:∀y∈b,y.length≤1000) (ho:out.length+b.length≤1000000):
  aG (σ:=Rows×Bool) (ρ:=Empty) (fun(_:Nat) (x6:Rq) (s6:Rows×Bool)=>
   ag (bS ([x,x6]:Rows)) fun x58=>
   ag (getI ex 0) fun(x65:LExpr)=>
   letP (bw r cols x58) fun x62=>
   letP (cn x62 x65) fun x67=>
   letP (gU x67) fun x68=>
   cond x68
    (ag (db 24 s6.1 ([x58]:Rows)) fun(x72:Rows)=>some (.next (x72,true)))
    (some (.next (s6.1,s6.2)))) 0 b (out,found)=some (.next (out++iK f x b,found|| !(iK f x b).isEmpty)):=by
 rw[rMa (xs:=b) (s:=(out,found)) (fun k=>(out++iK f x (b.take k),found|| !(iK f x (b.take k)).isEmpty)) (by simp[iK]) (fun k y hk=>by
  have hkl:=(zg.1 hk).1;have hm:(iK f x (b.take k)).length≤k:=by unfold iK;exact Nat.le_trans (List.length_filter_le _ _) (by simp;omega)
  have hs:iK f x (b.take (k+1))=iK f x (b.take k)++if f (x++y)then [x++y]else []:=by
   unfold iK;rw[List.take_add_one,hk,List.map_append,List.filter_append];cases h:f (x++y)<;>simp[h]
  rw[concat2 x y (by omega) (by have:=hb y (eH hk);omega),bPs,he,bPs,hs];simp only[bp,hf];cases hz:f (x++y)with
  |true=>
   rw[zc,bM (by decide) (by simp;omega),bPs];simp
  |false=>simp),List.take_length]
theorem padR_len(f:Rq→Bool)(left:Bool)(pad x:Rq)(b:Rows):(padR f left pad x b).length≤max 1 b.length:=by
 unfold padR;split
 ·simp;omega
 ·have:(iK f x b).length≤b.length:=by
   unfold iK;exact Nat.le_trans (List.length_filter_le _ _) (by simp)
  omega
theorem tJ(f:Rq→Bool)(left:Bool)(pad:Rq)(a b:Rows):(kU f left pad a b).length≤a.length*max 1 b.length:=by
 unfold kU;induction a with
 |nil=>simp
 |cons x a ih=>
  have:=padR_len f left pad x b
  simp only[List.map_cons,List.flatten_cons,List.length_append,List.length_cons,Nat.add_mul,Nat.one_mul];omega
def fj(key:Rq→Rq):Rows→Rows→Rows
 |ks,[]=>ks
 |ks,x::l=>fj key (if key x∈ks then ks else ks++[key x]) l
theorem keysF_app(key:Rq→Rq):∀(l l' ks:Rows),fj key ks (l++l')=fj key (fj key ks l) l'
 |[],_,_=>rfl
 |x::l,l',ks=>by rw[List.cons_append,fj,keysF_app key l l',fj]
theorem uy(key:Rq→Rq):∀(l ks:Rows),ks.Nodup→(fj key ks l).Nodup
 |[],_,h=>h
 |x::l,ks,h=>by
  rw[fj];refine uy key l _ ?_;split
  ·exact h
  ·rename_i hx;rw[List.nodup_append]
   exact⟨h,by simp,fun a ha b hb hab=>by simp at hb;exact hx (hb▸hab▸ha)⟩
theorem qR(key:Rq→Rq):∀(l ks:Rows) (k:Rq),k∈fj key ks l↔k∈ks∨∃x∈l,key x=k
 |[],ks,k=>by simp[fj]
 |x::l,ks,k=>by
  rw[fj,qR key l];split
  ·rename_i h;constructor
   ·rintro(h1|⟨y,hy,e⟩)
    ·exact .inl h1
    ·exact .inr ⟨y,by simp[hy],e⟩
   ·rintro(h1|⟨y,hy,e⟩)
    ·exact .inl h1
    ·rcases List.mem_cons.1 hy with rfl|hy
     ·exact .inl (e▸h)
     ·exact .inr ⟨y,hy,e⟩
  ·constructor
   ·rintro(h1|⟨y,hy,e⟩)
    ·rcases List.mem_append.1 h1 with h1|h1
     ·exact .inl h1
     ·exact .inr ⟨x,by simp,by simp at h1;exact h1.symm⟩
    ·exact .inr ⟨y,by simp[hy],e⟩
   ·rintro(h1|⟨y,hy,e⟩)
    ·exact .inl (by simp[h1])
    ·rcases List.mem_cons.1 hy with rfl|hy
     ·exact .inl (by simp[e])
     ·exact .inr ⟨y,hy,e⟩
theorem qP(key:Rq→Rq):∀(l ks:Rows),(fj key ks l).length≤ks.length+l.length
 |[],_=>by simp[fj]
 |x::l,ks=>by
  rw[fj]
  have:=qP key l (if key x∈ks then ks else ks++[key x])
  split at this
  ·rename_i h;rw[zp h];simp;omega
  ·rename_i h;rw[zy h];simp at this⊢;omega
def fy(key:Rq→Rq)(l:Rows)(k:Rq):Rows:=l.filter fun x=>decide (key x=k)
theorem group_run(key:Rq→Rq)(q:LQuery)(r:LRun)(cols:List LCol)(hk:∀x,dJ r cols x q.exprs=some (key x))(ks0:Rows)(hn:ks0.Nodup)(l:Rows)(hl:l.length≤1000000)(hks:ks0.length≤1):
  aG (σ:=Rows×List Rows) (ρ:=Empty) (fun(_:Nat) (x2:Rq) (s2:Rows×List Rows)=>
  ag (dJ r cols x2 q.exprs) fun x38=>
  ag (bI s2.1 (fun a0=>gC a0 x38)) fun x41=>
  ag (eY (x41.2.length=s2.1.length) ()) fun(_:Unit)=>
  ag (
   cond (decide (x41.1<(0:Int)))
    (ag (db 24 x41.2 ([x38]:Rows)) fun(x49:Rows)=>
    ag (db 24 s2.2 ([[]]:List Rows)) fun(x52:List Rows)=>
    some (x49,x52,(x41.2.length:Int)))
    (some (x41.2,s2.2,x41.1))) fun(t7:Rows×List Rows×Int)=>
  ag (getI t7.2.1 t7.2.2) fun(x57:Rows)=>
  ag (db 24 x57 ([x2]:Rows)) fun(x61:Rows)=>
  ag (getI t7.2.1 t7.2.2) fun(_:Rows)=>
  letP (t7.2.1.set t7.2.2.toNat x61) fun(y8:List Rows)=>
  some (.next (t7.1,y8))) 0 l (ks0,ks0.map fun _=>[])=some (.next (fj key ks0 l,(fj key ks0 l).map (fy key l))):=by
 rw[rMa (xs:=l) (s:=(ks0,ks0.map fun _=>[])) (fun k=>(fj key ks0 (l.take k),(fj key ks0 (l.take k)).map (fy key (l.take k)))) (by
  show(ks0,ks0.map (fy key []))=_
  congr 1) (fun k x hkx=>by
   have hkl:=(zg.1 hkx).1;have hlen:=qP key (l.take k) ks0;have hlen2:(fj key ks0 (l.take k)).length≤1+k:=by simp at hlen;omega
   have hnd:=uy key (l.take k) ks0 hn;have hmem:∀y∈l.take k,key y∈fj key ks0 (l.take k):=fun y hy=>(qR key _ _ _).2 (.inr ⟨y,hy,rfl⟩)
   have hsucc:l.take (k+1)=l.take k++[x]:=by rw[List.take_add_one,hkx];rfl
   rw[hsucc,keysF_app];generalize hK:fj key ks0 (l.take k)=K at*
   have hgl:∀kk,(fy key (l.take k) kk).length≤k:=fun kk=>by
    unfold fy;exact Nat.le_trans (List.length_filter_le _ _) (by simp;omega)
   rw[hk x,bPs,idxO K (fun y=>decide (key x=y)) _ (fun y _=>by unfold gC;rw[equalRow];rfl) (by omega),bPs];simp only;rw[dY trivial,bPs]
   have hg:∀kk,fy key (l.take k++[x]) kk=fy key (l.take k) kk++if key x=kk then [x]else []:=fun kk=>by
    unfold fy;rw[List.filter_append];congr 1;by_cases h:key x=kk<;>simp[h]
   by_cases hx:key x∈K
   ·have hany:decide (bf (fun y=>decide (key x=y)) K<0)=false:=by
     have:decide (bf (fun y=>decide (key x=y)) K≥0)=true:=by rw[jF,List.any_eq_true];exact⟨_,hx,by simp⟩
     have:=of_decide_eq_true this
     exact zf (by omega)
    have h0:0≤bf (fun y=>decide (key x=y)) K:=by have:=of_decide_eq_false hany;omega
    obtain⟨i,hi⟩:∃i:Nat,bf (fun y=>decide (key x=y)) K=i:=⟨(bf (fun y=>decide (key x=y)) K).toNat,by omega⟩
    obtain⟨z,hz,hzk⟩:=lK h0
    rw[hi,Int.toNat_natCast]at hz;have hzk:key x=z:=by simpa using hzk
    subst hzk;have hiK:=(zg.1 hz).1;rw[hany,zd,bPs,hi];simp only;have hgi:(K.map (fy key (l.take k)))[i]?=some (fy key (l.take k) (key x)):=by rw[List.getElem?_map,hz];rfl
    rw[gK hgi,bPs,bM (by decide) (by have:=hgl (key x);simp;omega),bPs,bPs,bp,Int.toNat_natCast];congr 3
    ·simp[fj,hx]
    ·have hkk:fj key K [x]=K:=by simp[fj,hx]
     rw[hkk];apply List.ext_getElem?;intro j;rw[List.getElem?_set,List.getElem?_map];by_cases hij:i=j
     ·subst hij;rw[zp rfl,zp (by simpa using hiK),List.getElem?_map,hz,Option.map_some,hg,zp rfl]
     ·rw[zy hij,List.getElem?_map];cases hj:K[j]? with
      |none=>rfl
      |some w=>
       simp only[Option.map_some]
       have hne:key x≠w:=fun he=>by
        subst he;have hjK:=(zg.1 hj).1;rw[List.nodup_iff_pairwise_ne,List.pairwise_iff_getElem]at hnd;have e1:=(zg.1 hz).2;have e2:=(zg.1 hj).2;rcases Nat.lt_or_gt_of_ne hij with h|h
        ·exact hnd i j hiK hjK h (by rw[e1,e2])
        ·exact hnd j i hjK hiK h (by rw[e1,e2])
       rw[hg,zy hne,List.append_nil]
   ·have hany:decide (bf (fun y=>decide (key x=y)) K<0)=true:=by
     have:decide (bf (fun y=>decide (key x=y)) K≥0)=false:=by
      rw[jF,List.any_eq_false];intro y hy he
      have:key x=y:=by simpa using he
      exact hx (this▸hy)
     have:=of_decide_eq_false this
     exact zt (by omega)
    rw[hany,zc,bM (by decide) (by simp;omega),bPs,bM (by decide) (by simp;omega),bPs,bPs];simp only
    have hgi:(K.map (fy key (l.take k))++[[]])[K.length]?=some []:=by
     rw[List.getElem?_append_right (by simp),zl,Nat.sub_self];rfl
    rw[gK hgi,bPs,bM (by decide) (by simp),bPs,bPs,bp,Int.toNat_natCast];have hkk:fj key K [x]=K++[key x]:=by simp[fj,hx]
    rw[hkk];congr 3
    have hold:fy key (l.take k) (key x)=[]:=by
     unfold fy;rw[List.filter_eq_nil_iff];intro y hy he
     have:key y=key x:=by simpa using he
     exact hx (this▸hmem y hy)
    rw[List.map_append,List.set_append_right _ _ (by simp),zl,Nat.sub_self];congr 1
    ·apply List.map_congr_left;intro w hw;have hne:key x≠w:=fun he=>hx (he▸hw)
     rw[hg,zy hne,List.append_nil]
    ·simp[hg,hold])]
 rw[List.take_length]
def md(op:List UInt8)(s:Int×LVal)(v:LVal):Int×LVal:=(IntKind.i64.wrap (s.1+v.int),if(op=sMin∧mF v s.2=true)∨(op=sMax∧mF s.2 v=true)then v else s.2)
def rP(op:List UInt8)(l:Rq):LVal:=
 if op=iI then gp l.length else match l with
  |[]=>.nul
  |v::_=>if op=sSum then gp (l.foldl (md op) (0,v)).1 else(l.foldl (md op) (0,v)).2
theorem compute_eq(op:List UInt8)(l:Rq):fZ op l=some (rP op l):=by
 unfold fZ rP;by_cases h1:op=iI
 ·subst h1;rfl
 ·have e1:(op==([99,111,117,110,116]:List UInt8))=false:=by simpa using h1
  rw[e1,zd,zy h1];cases l with
  |nil=>rfl
  |cons v l=>
   have e2:(((v::l).length:Int)==0)=false:=cP (by simp;omega);rw[e2,zd];have e3:getI (v::l) 0=some v:=rfl;rw[e3,bPs]
   rw[oG (xs:=v::l) (md op) (fun k x _=>by
    generalize(((v::l).take k).foldl (md op) (0,v))=s
    unfold md;by_cases m:op=sMin
    ·subst m;simp only[bp];cases mF x s.2<;>simp
    ·have em:(op==([109,105,110]:List UInt8))=false:=by simpa using m
     rw[em,zd];by_cases n:op=sMax
     ·subst n;simp only[bp];cases mF s.2 x<;>simp
     ·have en:(op==([109,97,120]:List UInt8))=false:=by simpa using n
      rw[en,zd];simp[m,n]),bPs,bT]
   by_cases h2:op=sSum
   ·subst h2;rfl
   ·have e4:(op==([115,117,109]:List UInt8))=false:=by simpa using h2
    rw[e4,zd];simp only;rw[zy h2]
def aggR(r:LRun)(cols:List LCol)(a:LAggregateCall)(l:Rows):LVal:=match a.args with
 |[]=>gp l.length
 |e::_=>rP a.function ((l.map fun x=>cn (bw r cols x) e).filter fun v=>v.kind !=0)
theorem aggR_eq(r:LRun)(cols:List LCol)(a:LAggregateCall)(l:Rows)(hl:l.length≤1000000):kt r a cols l=some (aggR r cols a l):=by
 unfold kt aggR;cases ha:a.args with
 |nil=>rfl
 |cons e es=>
  have e2:(((e::es).length:Int)==0)=false:=cP (by simp;omega);rw[e2,zd]
  rw[rMa (xs:=l) (s:=[]) (fun k=>((l.take k).map fun x=>cn (bw r cols x) e).filter fun v=>v.kind !=0) rfl (fun k x hk=>by
   have hkl:=(zg.1 hk).1;have e3:getI (e::es) 0=some e:=rfl;rw[e3];simp only[bPs,bp];have hb:(((l.take k).map fun x=>cn (bw r cols x) e).filter fun v=>v.kind !=0).length≤k:=Nat.le_trans (List.length_filter_le _ _) (by simp;omega);rw[List.take_add_one,hk,List.map_append,List.filter_append];cases hv:(cn (bw r cols x) e).kind !=0 with
   |true=>
    rw[zc,bM (by decide) (by simp at hb⊢;omega),bPs];simp[hv]
   |false=>simp[hv]),bPs,bT,List.take_length,compute_eq]
  rfl
def oR(r:LRun)(cols:List LCol)(q:LQuery)(l:Rows):Rows:=
 (fj (fun x=>q.exprs.map fun e=>cn (bw r cols x) e) (if q.exprs=[]then [[]]else []) l).map fun k=>
  k++q.aggregates.map fun a=>aggR r cols a (fy (fun x=>q.exprs.map fun e=>cn (bw r cols x) e) l k)
theorem group_eq(r:LRun)(cols:List LCol)(q:LQuery)(l:Rows)(hl:l.length≤999999)(he:q.exprs.length≤1000000)(ha:q.aggregates.length≤1000000):jw r q cols l=some (oR r cols q l):=by
 unfold jw oR;generalize hkey:(fun x=>q.exprs.map fun e=>cn (bw r cols x) e)=key;have hk:∀x,dJ r cols x q.exprs=some (key x):=fun x=>by rw[rF r cols x q.exprs (by omega),←hkey]
 have hinit:(cond ((q.exprs.length:Int)==(0:Int)) (([[]],[[]])) (([],[])):Rows×List Rows)=((if q.exprs=[]then [[]]else []),((if q.exprs=[]then [[]]else []):Rows).map fun _=>[]):=by
  cases q.exprs with
  |nil=>rfl
  |cons e es=>rw[show(((e::es).length:Int)==0)=false from cP (by simp;omega)];rfl
 rw[bp,hinit];generalize hks:(if q.exprs=[]then [[]]else []:Rows)=ks0;have hks1:ks0.length≤1:=by rw[←hks];split<;>simp
 have hks2:ks0.Nodup:=by rw[←hks];split<;>simp
 rw[group_run key q r cols hk ks0 hks2 l (by omega) hks1,bPs,bT];generalize hK:fj key ks0 l=K;have hKl:K.length≤1000000:=by rw[←hK];have:=qP key l ks0;omega
 simp only;rw[dY (by rw[zl];omega),bPs,lL (by omega),bPs,Int.toNat_natCast]
 have hgl:∀kk,(fy key l kk).length≤1000000:=fun kk=>by
  unfold fy;exact Nat.le_trans (List.length_filter_le _ _) (by omega)
 have hkl:∀k∈K,k.length≤1000000:=fun k hkm=>by
  rw[←hK]at hkm
  rcases(qR key l ks0 k).1 hkm with h|⟨x,_,rfl⟩
  ·rw[←hks]at h;split at h
   ·simp at h;subst h;simp
   ·simp at h
  ·rw[←hkey];simpa using he
 rw[rMa (xs:=List.range K.length) (s:=[]) (fun j=>(K.take j).map fun k=>k++q.aggregates.map fun a=>aggR r cols a (fy key l k)) rfl (fun j n hj=>by
  obtain⟨hjl,hjn⟩:=zg.1 hj
  simp at hjl;rw[eP hjl,bPs];have hg:(K.map (fy key l))[j]?=some (fy key l K[j]):=by rw[List.getElem?_map,ze hjl];rfl
  rw[rMa (xs:=q.aggregates) (s:=K[j]) (fun i=>K[j]++(q.aggregates.take i).map fun a=>aggR r cols a (fy key l K[j])) (by simp) (fun i a hi=>by
   have hil:=(zg.1 hi).1;have hkj:=hkl K[j] (List.getElem_mem hjl);rw[gK hg,bPs,aggR_eq r cols a _ (hgl _),bPs,bM (by decide) (by simp;omega),bPs,List.take_add_one,hi];simp),bPs,bT,bM (by decide) (by simp;omega),bPs,List.take_length]
  congr 2;rw[List.take_add_one,ze hjl,List.map_append];rfl),bPs,bT]
 simp
def lS(x:LVal):LVal:=if et x=true then x else .nul
theorem typed_args{cols vars:List LCol}{e:LExpr}(h:(dA cols vars e).2.2=0):e.kind=5∧(∀a∈e.args,(dA cols vars a).2.2=0)∨e.kind≠5∧e.args=[]:=by
 rw[rG]at h;by_cases c0:e.kind≠5∧0<e.args.length
 ·rw[zp c0]at h;simp[gG]at h
 rw[zy c0]at h;by_cases c5:e.kind=5
 ·refine .inl ⟨c5,fun a ha=>?_⟩;simp only[c5]at h;have h':(kg e.name e.index e.value (e.args.map (dA cols vars))).2.2=0:=by simpa using h
  unfold kg at h';split at h'
  ·simp[gG]at h'
  ·split at h'
   ·rename_i r hf
    have:=List.find?_some hf
    simp[gG]at h';simp[h']at this
   ·rename_i hf
    have:=List.find?_eq_none.1 hf (dA cols vars a) (List.mem_map.2 ⟨a,ha,rfl⟩)
    simpa using this
 ·refine .inr ⟨c5,?_⟩;rw[←List.length_eq_zero_iff];omega
theorem eval_clean{cols vars:List LCol}{v:LEnv}:∀e:LExpr,(dA cols vars e).2.2=0→(∀i k,(i,k)∈cM e→∀x,v.params[i]?=some x→et x=true)→cn v e=cn {v with params:=v.params.map lS} e:=by
 refine LExpr.ind fun e ih h hp=>?_
 have hsub:∀a∈e.args,∀i k,(i,k)∈cM a→(i,k)∈cM e:=fun a ha i k hm=>by
  rw[nk];exact List.mem_append_right _ (List.mem_flatten.2 ⟨_,List.mem_map.2 ⟨a,ha,rfl⟩,hm⟩)
 rw[ot,ot {v with params:=v.params.map lS}];by_cases k1:(e.kind==1)=true
 ·simp[k1]
 by_cases k2:(e.kind==2)=true
 ·simp[k1,k2]
 by_cases k3:(e.kind==3)=true
 ·rw[zy k1,zy k2,zp k3,zy k1,zy k2,zp k3];have hk3:e.kind=3:=by simpa using k3
  have hta:=typed_args h
  have hr:¬(e.index<0∨e.index≥8):=by
   intro hbad;rw[rG,zy (by intro hc;rcases hta with⟨a,_⟩|⟨_,b⟩;exact hc.1 a;rw[b]at hc;simp at hc),zy k1,zp k3,zp (by rcases hbad with hb|hb;exact .inl hb;exact .inr (.inl hb))]at h;simp[gG]at h
  have hm:(e.index.toNat,e.value.kind)∈cM e:=by
   rw[nk];refine List.mem_append_left _ ?_;unfold jE;rw[zp ⟨hk3,by omega,by omega⟩];simp
  have hget:∀i:Nat,i<v.params.length→i=e.index.toNat→(v.params.map lS).getD i .nul=v.params.getD i .nul:=fun i hi he=>by
   rw[List.getD_eq_getElem?_getD,List.getD_eq_getElem?_getD,List.getElem?_map,ze hi];simp only[Option.map_some,Option.getD_some];unfold lS;rw[zp (hp _ _ hm v.params[i] (by rw[←he];exact ze hi))]
  by_cases hlt:e.index.toNat<v.params.length
  ·show _=if 0≤e.index∧e.index<((v.params.map lS).length:Nat)∧((v.params.map lS).getD e.index.toNat .nul).kind=e.value.kind then(v.params.map lS).getD e.index.toNat .nul else .nul
   rw[hget _ hlt rfl,zl]
  ·have:¬(0≤e.index∧e.index<(v.params.length:Int)):=by omega
   show _=if 0≤e.index∧e.index<((v.params.map lS).length:Nat)∧((v.params.map lS).getD e.index.toNat .nul).kind=e.value.kind then(v.params.map lS).getD e.index.toNat .nul else .nul
   rw[zl,zy (fun hc=>this ⟨hc.1,hc.2.1⟩),zy (fun hc=>this ⟨hc.1,hc.2.1⟩)]
 by_cases k4:(e.kind==4)=true
 ·simp[k1,k2,k3,k4]
 by_cases k5:(e.kind==5)=true
 ·rw[zy k1,zy k2,zy k3,zy k4,zp k5,zy k1,zy k2,zy k3,zy k4,zp k5];rcases typed_args h with⟨_,ha⟩|⟨hn,_⟩
  ·congr 1;apply List.map_congr_left;intro a hm;exact ih a hm (ha a hm) fun i k hik=>hp i k (hsub a hm i k hik)
  ·exact absurd (by simpa using k5) hn
 ·simp[k1,k2,k3,k4,k5]
structure RunOk(r:LRun):Prop where
 vars:r.vars=[]
 names:r.names=[]
 vals:r.vals=[]
 inst:InstOk r.s r.st
def ol(r:LRun)(l:List (Nat×Int)):Prop:=∀i k,(i,k)∈l→∀x,r.args[i]?=some x→et x=true
theorem tH{r:LRun}(hr:RunOk r){cols:List LCol}{row:Rq}(hrow:dQ cols row){e:LExpr}(ht:(cZ cols r.vars e).2.2=0)(hp:ol r (cM e)):
  fO (cn (bw r cols row) e) (cZ cols r.vars e).1 (cZ cols r.vars e).2.1:=by
 have hk:(dA cols r.vars e).2.2=0:=by
  unfold cZ at ht;split at ht
  ·simp[gG]at ht
  ·exact ht
 rw[eval_clean (cols:=cols) (vars:=r.vars) e hk (fun i k hm x hx=>hp i k hm x hx)];refine type_sound (cols:=cols) (vars:=r.vars) ⟨rfl,hrow.1,hrow.2,?_,?_,?_,?_⟩ e ht
 ·intro x hx
  obtain⟨y,_,rfl⟩:=List.mem_map.1 hx
  unfold lS;split
  ·assumption
  ·rfl
 ·show r.names=_;rw[hr.names,hr.vars];rfl
 ·show r.vals.length=_;rw[hr.vals,hr.vars];rfl
 ·intro i c x hc;rw[hr.vars]at hc;simp at hc
theorem oi{c:LChecker}{q:LQuery}(h:(fq c q).2=0):mh q=true∧(∀x∈q.inputs,(fq c x).2=0)∧(ja c q (q.inputs.map fun x=>(fq c x).1)).2=0∧(fq c q).1=(ja c q (q.inputs.map fun x=>(fq c x).1)).1∧((fq c q).1.map LCol.name).Nodup:=by
 rw[colsQ_eq]at h⊢;unfold qh at h⊢;by_cases h1:mh q=false
 ·simp[h1]at h
 rw[zy h1]at h⊢;by_cases h2:(dV (q.inputs.map (fq c))).2=0
 ·obtain⟨a,b⟩:=rH h2
  have e:(q.inputs.map (fq c)).map (·.1)=q.inputs.map fun x=>(fq c x).1:=by rw[List.map_map];rfl
  rw[e]at b;rw[b]at h⊢;rw[zy (by simpa using h2)]at h⊢;by_cases h3:(ja c q (q.inputs.map fun x=>(fq c x).1)).2=0
  ·rw[zy (by simpa using h3)]at h⊢;by_cases h4:20<(ja c q (q.inputs.map fun x=>(fq c x).1)).1.length
   ·rw[zp h4]at h;simp at h
   ·rw[zy h4]at h⊢;by_cases h5:((ja c q (q.inputs.map fun x=>(fq c x).1)).1.map LCol.name).Nodup
    ·rw[zp h5]at h⊢
     exact⟨by simpa using h1,fun x hx=>a _ (List.mem_map.2 ⟨x,hx,rfl⟩),h3,rfl,h5⟩
    ·rw[zy h5]at h;simp at h
  ·rw[zp h3]at h;exact absurd h h3
 ·rw[zp h2]at h;exact absurd h h2
theorem nR(vars cols:List LCol):∀(es:List LExpr) (ns:List (List UInt8)),es.length=ns.length→(cw vars cols es ns).2=0→
  (cw vars cols es ns).1.length=es.length∧∀(i:Nat) (e:LExpr),es[i]?=some e→(cZ cols vars e).2.2=0∧∃c,(cw vars cols es ns).1[i]?=some c∧c.kind=(cZ cols vars e).1∧c.nullable=(cZ cols vars e).2.1
 |[],ns,_,_=>by simp[cw]
 |e::es,[],h,_=>by simp at h
 |e::es,n::ns,hl,h=>by
  simp only[cw]at h⊢;by_cases h1:dG n=false
  ·simp[h1]at h
  rw[zy h1]at h⊢;by_cases h2:(cZ cols vars e).2.2=0
  ·rw[zy (by simpa using h2)]at h⊢;by_cases h3:(cZ cols vars e).1=0
   ·rw[zp h3]at h;simp at h
   ·rw[zy h3]at h⊢;by_cases h4:(cw vars cols es ns).2=0
    ·rw[zy (by simpa using h4)]
     obtain⟨a,b⟩:=nR vars cols es ns (by simpa using hl) h4
     refine⟨by simp[a],fun i e' hi=>?_⟩
     cases i with
     |zero=>simp at hi;subst hi;exact⟨h2,_,rfl,rfl,rfl⟩
     |succ i=>simpa using b i e' (by simpa using hi)
    ·rw[zp h4]at h;exact absurd h h4
  ·rw[zp h2]at h;exact absurd h h2
theorem sD(vars cols:List LCol):∀l:List LAggregateCall,(ee vars cols l).2=0→
  (ee vars cols l).1.length=l.length∧∀(i:Nat) (a:LAggregateCall),l[i]?=some a→(pg vars cols a).2=0∧∃c,(ee vars cols l).1[i]?=some c∧c.kind=(pg vars cols a).1∧c.nullable= !(a.function==iI)
 |[],_=>by simp[ee]
 |a::l,h=>by
  simp only[ee]at h⊢;by_cases h1:(pg vars cols a).2=0
  ·rw[zy (by simpa using h1)]at h⊢;by_cases h2:(ee vars cols l).2=0
   ·rw[zy (by simpa using h2)]
    obtain⟨x,y⟩:=sD vars cols l h2
    refine⟨by simp[x],fun i b hi=>?_⟩
    cases i with
    |zero=>simp at hi;subst hi;exact⟨h1,_,rfl,rfl,rfl⟩
    |succ i=>simpa using y i b (by simpa using hi)
   ·rw[zp h2]at h;exact absurd h h2
  ·rw[zp h1]at h;exact absurd h h1
theorem dQ.append{a b:List LCol}{x y:Rq}(h:dQ a x)(h':dQ b y):dQ (a++b) (x++y):=by
 refine⟨by simp[h.1,h'.1],fun i c v hc hv=>?_⟩
 by_cases hi:i<a.length
 ·rw[List.getElem?_append_left hi]at hc;rw[List.getElem?_append_left (by rw[h.1];exact hi)]at hv;exact h.2 i c v hc hv
 ·rw[List.getElem?_append_right (by omega)]at hc;rw[List.getElem?_append_right (by rw[h.1];omega),h.1]at hv;exact h'.2 _ c v hc hv
theorem dQ.map{cols:List LCol}{es:List LExpr}{f:LExpr→LVal}(hl:cols.length=es.length)(h:∀(i:Nat) (e:LExpr) (c:LCol),es[i]?=some e→cols[i]?=some c→fO (f e) c.kind c.nullable):dQ cols (es.map f):=by
 refine⟨by simp[hl],fun i c x hc hx=>?_⟩
 rw[List.getElem?_map,Option.map_eq_some_iff]at hx
 obtain⟨e,he,rfl⟩:=hx
 exact h i e c he hc
theorem fO.weak{x:LVal}{k:Int}{nl nl':Bool}(h:fO x k nl)(hn:nl=true→nl'=true):fO x k nl':=⟨h.1,h.2.1,fun h0=>hn (h.2.2 h0)⟩
theorem int_fits(n:Int):fO (gp n) 1 true:=by
 unfold gp;by_cases h1:n< -1000000000000
 ·rw[zt h1];exact iS rfl
 ·rw[zf h1];by_cases h2:n>1000000000000
  ·rw[zt h2];exact iS rfl
  ·rw[zf h2]
   refine⟨?_,.inl rfl,fun h=>by simp at h⟩
   unfold et;simp;omega
theorem int_small{n:Int}(h0:0≤n)(h1:n≤1000000000000)(nl:Bool):fO (gp n) 1 nl:=by
 have h:=int_fits n
 refine⟨h.1,h.2.1,fun hk=>?_⟩
 unfold gp at hk;rw[zf (show ¬n< -1000000000000 from by omega),zf (show ¬n>1000000000000 from by omega)]at hk;simp at hk
theorem uE(op:List UInt8):∀(l:Rq) (s:Int×LVal),(l.foldl (md op) s).2=s.2∨(l.foldl (md op) s).2∈l
 |[],s=>.inl rfl
 |v::l,s=>by
  rw[List.foldl_cons];rcases uE op l (md op s v)with h|h
  ·rw[h];unfold md;simp only;split
   ·exact .inr (by simp)
   ·exact .inl rfl
  ·exact .inr (by simp[h])
theorem agg_fits{r:LRun}(hr:RunOk r){cols:List LCol}{a:LAggregateCall}{l:Rows}(ha:(pg r.vars cols a).2=0)(hl:∀row∈l,dQ cols row)(hb:l.length≤1000000)(hp:ol r ((a.args.map cM).flatten)):
  fO (aggR r cols a l) (pg r.vars cols a).1 (!(a.function==iI)):=by
 unfold pg at ha⊢;unfold aggR;by_cases h1:dG a.name=false∨¬a.function∈[iI,sSum,sMin,sMax]∨1<a.args.length∨(a.args.length<1∧a.function≠iI)
 ·rw[zp h1]at ha;simp at ha
 rw[zy h1]at ha⊢;have hfn:a.function∈[iI,sSum,sMin,sMax]:=Decidable.byContradiction fun h=>h1 (.inr (.inl h))
 cases hargs:a.args with
 |nil=>exact int_small (by omega) (by omega) _
 |cons e es=>
  rw[hargs]at ha hp;simp only at ha⊢;have hpe:ol r (cM e):=fun i k hm=>hp i k (by simp[hm])
  by_cases h2:(cZ cols r.vars e).2.2=0
  ·rw[zy (by simpa using h2)]at ha⊢;by_cases h3:(cZ cols r.vars e).1=0∨(a.function=sSum∧(cZ cols r.vars e).1≠1)
   ·rw[zp h3]at ha;simp at ha
   rw[zy h3];generalize hv:((l.map fun x=>cn (bw r cols x) e).filter fun v=>v.kind !=0)=vals;have hvl:vals.length≤1000000:=by rw[←hv];exact Nat.le_trans (List.length_filter_le _ _) (by simpa using hb)
   have hvf:∀v∈vals,fO v (cZ cols r.vars e).1 true:=fun v hm=>by
    rw[←hv]at hm
    have:=(List.mem_filter.1 hm).1
    obtain⟨x,hx,rfl⟩:=List.mem_map.1 this
    exact(tH hr (hl x hx) h2 hpe).weak fun _=>rfl
   unfold rP;by_cases h4:a.function=iI
   ·rw[zp h4,zp h4];exact int_small (by omega) (by omega) _
   ·rw[zy h4,zy h4];have hc:(a.function==iI)=false:=by simpa using h4
    rw[hc];cases vals with
    |nil=>exact iS rfl
    |cons v vs=>
     simp only;by_cases h5:a.function=sSum
     ·rw[zp h5]
      have:(cZ cols r.vars e).1=1:=Decidable.byContradiction fun h=>h3 (.inr ⟨h5,h⟩)
      rw[this];exact int_fits _
     ·rw[zy h5];rcases uE a.function (v::vs) (0,v)with h|h
      ·rw[h];exact hvf v (by simp)
      ·exact hvf _ h
  ·rw[zp h2]at ha;exact absurd ha h2
theorem capI_eq{n:Int}(h:nT n≤20000):nT n=n:=by
 unfold nT at h⊢;by_cases hc:20001<n
 ·rw[zp hc]at h;omega
 ·rw[zy hc]
theorem gL{q:LQuery}(h:(bF q).2≤20000):(bF q).1≤(bF q).2∧∀x∈q.inputs,(bF x).2≤20000:=by
 have key:∀(l:List (Int×Int)) (j:Nat) (s:Int×Int),s.2≤(eE q.kind j l s).2∧∀x∈l,x.2≤(eE q.kind j l s).2:=by
  intro l;induction l with
  |nil=>intro j s;exact⟨Int.le_refl _,by simp⟩
  |cons y l ih=>
   intro j s
   obtain⟨h1,h2⟩:=ih (j+1) (jr q.kind s j y)
   rw[eE];have h3:s.2≤(jr q.kind s j y).2:=jT _ _;have h4:y.2≤(jr q.kind s j y).2:=pe _ _
   refine⟨by omega,fun x hx=>?_⟩
   rcases List.mem_cons.1 hx with rfl|hx
   ·omega
   ·exact h2 x hx
 have hk:=key (q.inputs.map bF) 0 (0,0);rw[ow]at h⊢;by_cases h1:q.kind=1
 ·rw[zp h1]at h⊢
  refine⟨pe _ _,fun x hx=>?_⟩
  have:=hk.2 (bF x) (List.mem_map.2 ⟨x,hx,rfl⟩)
  have:=jT (eE q.kind 0 (q.inputs.map bF) (0,0)).2 24
  simp only at h;omega
 ·rw[zy h1]at h⊢
  refine⟨pe _ _,fun x hx=>?_⟩
  have:=hk.2 (bF x) (List.mem_map.2 ⟨x,hx,rfl⟩)
  have:=jT (eE q.kind 0 (q.inputs.map bF) (0,0)).2 (eE q.kind 0 (q.inputs.map bF) (0,0)).1
  simp only at h;omega
theorem most_scan{q:LQuery}(h:q.kind=1):(bF q).1=24:=by rw[ow,zp h]
theorem qi{q x:LQuery}(h:(bF q).2≤20000)(hk:q.kind≠1)(hi:q.inputs=[x]):(bF q).1=(bF x).1:=by
 have hm:=gL h;have hx:=hm.2 x (by rw[hi];simp);have hx1:=(gL hx).1;rw[ow,zy hk,hi];show nT (bF x).1=_;unfold nT;rw[zy (by omega)]
theorem nV{q x y:LQuery}(h:(bF q).2≤20000)(hk:q.kind≠1)(hi:q.inputs=[x,y]):(bF q).1=(if q.kind=6 then(bF x).1+(bF y).1 else if q.kind=4∨q.kind=5 then(bF x).1*dI 1 (bF y).1 else(bF x).1):=by
 have hm:=gL h;have hx:=hm.2 x (by rw[hi];simp);have hx1:=(gL hx).1;have h1:=hm.1;have hc:nT (bF x).1=(bF x).1:=by unfold nT;rw[zy (by omega)]
 have e:(bF q).1=nT (if q.kind=6 then(bF x).1+(bF y).1 else if q.kind=4∨q.kind=5 then(bF x).1*dI 1 (bF y).1 else(bF x).1):=by
  rw[ow,zy hk,hi]
  show(jr q.kind (jr q.kind (0,0) 0 (bF x)) 1 (bF y)).1=_
  unfold jr;simp[hc]
 rw[e];exact capI_eq (by rw[←e];omega)
def bu(r:LRun)(q:LQuery):List LCol:=(fq ⟨r.s,r.vars⟩ q).1
theorem lY{r:LRun}{q:LQuery}(h:SmallQ q):gJ r q=some (bu r q):=by
 unfold gJ;rw[cols_ok _ q h];rfl
def io(r:LRun)(cols:List LCol)(q:LQuery)(x:Rq):Bool:=gU (cn (bw r cols x) (e0Q q))
def rr(q:LQuery)(l:Rows):Rows:=(l.take (q.offset.toNat+q.count.toNat)).drop q.offset.toNat
def dN(r:LRun)(q:LQuery)(cs:List (List LCol))(ins:List Rows):Rows:=
 if q.kind=1 then(match r.st.find? fun x=>x.table==q.table with|some x=>x.rows|none=>[])
 else if q.kind=4∨q.kind=5 then kU (io r (cs.getD 0 []++cs.getD 1 []) q) (q.kind==5) (List.replicate (cs.getD 1 []).length .nul) (ins.getD 0 []) (ins.getD 1 [])
 else if q.kind=6 then ins.getD 0 []++ins.getD 1 []
 else if q.kind=7 then mB (ins.getD 0 []) (ins.getD 1 [])
 else if q.kind=2 then(ins.getD 0 []).filter (io r (cs.getD 0 []) q)
 else if q.kind=3 then(ins.getD 0 []).map fun x=>q.exprs.map fun e=>cn (bw r (cs.getD 0 []) x) e
 else if q.kind=8 then oR r (cs.getD 0 []) q (ins.getD 0 [])
 else if q.kind=9 then(fR r q (cs.getD 0 []) (ins.getD 0 [])).getD []
 else rr q (ins.getD 0 [])
def bq(r:LRun)(q:LQuery):Rows:=dN r q (q.inputs.map (bu r)) (q.inputs.attach.map fun x=>bq r x.1)
termination_by SizeOf.sizeOf q
decreasing_by exact LQuery.inputs_lt x.2
theorem ek(r:LRun)(q:LQuery):bq r q=dN r q (q.inputs.map (bu r)) (q.inputs.map (bq r)):=by
 rw[bq,List.attach_map_val (f:=bq r)]
theorem find_st{s:LSchema}{st:List LRelation}(h:InstOk s st)(name:List UInt8):∀t,s.tables.find? (fun t=>t.name==name)=some t→∃x,st.find? (fun x=>x.table==name)=some x∧x.rows.length≤24∧∀row∈x.rows,dQ t.columns row:=by
 obtain⟨hl,ho,ht⟩:=h
 intro t hf;generalize s.tables=ts at*;induction ts generalizing st with
 |nil=>simp at hf
 |cons a ts ih=>
  cases st with
  |nil=>simp at hl
  |cons r st=>
   obtain⟨h1,h2,h3⟩:=ht 0 r a rfl rfl
   rw[List.find?_cons]at hf⊢;rw[h1];cases hn:a.name==name with
   |true=>
    rw[hn]at hf;simp at hf;subst hf
    exact⟨r,rfl,h2,h3⟩
   |false=>
    rw[hn]at hf;simp only at hf⊢;exact ih (by simpa using hl) (fun i r' t' a b=>ho (i+1) r' t' (by simpa using a) (by simpa using b)) (fun i r' t' a b=>ht (i+1) r' t' (by simpa using a) (by simpa using b)) hf
structure RowsOk(r:LRun)(q:LQuery):Prop where
 pos:1≤(bF q).1
 len:((bq r q).length:Int)≤(bF q).1
 fits:∀row∈bq r q,dQ (bu r q) row
structure QOk(r:LRun)(q:LQuery):Prop where
 small:SmallQ q
 cols:(fq ⟨r.s,r.vars⟩ q).2=0
 most:(bF q).2≤20000
 params:ol r (ji q)
theorem params_sub{q x:LQuery}(h:x∈q.inputs):∀p∈ji x,p∈ji q:=by
 intro p hp
 obtain⟨l,hl,hp⟩:=List.mem_flatten.1 hp
 obtain⟨y,hy,rfl⟩:=List.mem_map.1 hl
 exact List.mem_flatten.2 ⟨_,List.mem_map.2 ⟨y,mem_nodes h hy,rfl⟩,hp⟩
theorem QOk.sub{r:LRun}{q x:LQuery}(h:QOk r q)(hx:x∈q.inputs):QOk r x:=
 ⟨h.small.sub hx,(oi h.cols).2.1 x hx,(gL h.most).2 x hx,fun i k hm=>h.params i k (params_sub hx _ hm)⟩
theorem QOk.expr{r:LRun}{q:LQuery}(h:QOk r q){e:LExpr}(he:e∈q.exprs):ol r (cM e):=fun i k hm=>h.params i k (List.mem_flatten.2 ⟨jJ q,List.mem_map.2 ⟨q,rQ q,rfl⟩,List.mem_append_left _ (List.mem_flatten.2 ⟨_,List.mem_map.2 ⟨e,he,rfl⟩,hm⟩)⟩)
theorem QOk.agg{r:LRun}{q:LQuery}(h:QOk r q){a:LAggregateCall}(ha:a∈q.aggregates):ol r ((a.args.map cM).flatten):=fun i k hm=>h.params i k (List.mem_flatten.2 ⟨jJ q,List.mem_map.2 ⟨q,rQ q,rfl⟩,List.mem_append_right _ (List.mem_flatten.2 ⟨_,List.mem_map.2 ⟨a,ha,rfl⟩,hm⟩)⟩)
theorem joinR_mem{f:Rq→Bool}{left:Bool}{pad row:Rq}{a b:Rows}(h:row∈kU f left pad a b):∃x∈a,(∃y∈b,row=x++y)∨(left=true∧row=x++pad):=by
 unfold kU at h
 obtain⟨l,hl,hr⟩:=List.mem_flatten.1 h
 obtain⟨x,hx,rfl⟩:=List.mem_map.1 hl
 refine⟨x,hx,?_⟩
 unfold padR at hr;split at hr
 ·rename_i hc;simp at hr;exact .inr ⟨hc.1,hr⟩
 ·unfold iK at hr
  obtain⟨y,hy,rfl⟩:=List.mem_map.1 (List.mem_filter.1 hr).1
  exact .inl ⟨y,hy,rfl⟩
theorem two{q:LQuery}(h:q.inputs.length=2):∃x y,q.inputs=[x,y]:=by
 match hq:q.inputs,h with
 |[x,y],_=>exact⟨x,y,rfl⟩
theorem one{q:LQuery}(h:q.inputs.length=1):∃x,q.inputs=[x]:=by
 match hq:q.inputs,h with
 |[x],_=>exact⟨x,rfl⟩
theorem colsR_out{r:LRun}{q:LQuery}(h:QOk r q):(ja ⟨r.s,r.vars⟩ q (q.inputs.map (bu r))).2=0∧bu r q=(ja ⟨r.s,r.vars⟩ q (q.inputs.map (bu r))).1:=by
 obtain⟨_,_,h3,h4,_⟩:=oi h.cols
 exact⟨h3,h4⟩
theorem set_fits{kind:Int}{a b:List LCol}{row:Rq}(h:(lu kind a b).2=0)(hr:dQ a row∨(kind=6∧dQ b row)):dQ (lu kind a b).1 row:=by
 unfold lu at h⊢;by_cases hc:a.length=b.length∧a.map LCol.kind=b.map LCol.kind
 ·rw[zp hc]
  refine⟨?_,fun i c x hci hx=>?_⟩
  ·rcases hr with hr|⟨_,hr⟩
   ·simp[hr.1,hc.1]
   ·simp[hr.1,hc.1]
  ·rw[List.getElem?_zipWith]at hci;cases ha:a[i]? with
   |none=>rw[ha]at hci;simp at hci
   |some u=>
    cases hb:b[i]? with
    |none=>rw[ha,hb]at hci;simp at hci
    |some v=>
     rw[ha,hb]at hci;simp only[zo]at hci;subst hci
     have hk:u.kind=v.kind:=by
      have:=congrArg (fun l=>l[i]?) hc.2
      simpa[ha,hb]using this
     rcases hr with hr|⟨h6,hr⟩
     ·exact(hr.2 i u x ha hx).weak fun hn=>by simp[hn]
     ·have:=hr.2 i v x hb hx
      rw[←hk]at this;exact this.weak fun hn=>by simp[hn,h6]
 ·rw[zy hc]at h;simp at h
theorem join_fits{a b:List LCol}{left:Bool}{x y:Rq}(hx:dQ a x)(hy:dQ b y):dQ (jR a b left) (x++y):=by
 unfold jR;refine hx.append ⟨by simp[hy.1],fun i c v hc hv=>?_⟩;rw[List.getElem?_map,Option.map_eq_some_iff]at hc
 obtain⟨d,hd,rfl⟩:=hc
 exact(hy.2 i d v hd hv).weak fun hn=>by simp[hn]
theorem pad_fits{a b:List LCol}{x:Rq}(hx:dQ a x):dQ (jR a b true) (x++List.replicate b.length .nul):=by
 unfold jR;refine hx.append ⟨by simp,fun i c v hc hv=>?_⟩;rw[List.getElem?_map,Option.map_eq_some_iff]at hc
 obtain⟨d,hd,rfl⟩:=hc
 rw[List.getElem?_replicate]at hv;split at hv
 ·cases hv;exact iS (by simp)
 ·cases hv
theorem rows_fit{r:LRun}(hr:RunOk r):∀q:LQuery,QOk r q→RowsOk r q:=by
 refine LQuery.ind fun q ih h=>?_
 have hs:=shape_ok (oi h.cols).1
 obtain⟨ho,hcol⟩:=colsR_out h
 have hself:=h.small.self;have hm:=(gL h.most).1;have kk:q.kind=1∨q.kind=2∨q.kind=3∨q.kind=4∨q.kind=5∨q.kind=6∨q.kind=7∨q.kind=8∨q.kind=9∨q.kind=10:=by have:=hs.kind;omega
 have hall:∀x∈q.inputs,RowsOk r x:=fun x hx=>ih x hx (h.sub hx)
 rcases kk with k|k|k|k|k|k|k|k|k|k
 ·--scan
  have hmq:=most_scan k;unfold ja at ho hcol;rw[zp k]at ho hcol;cases hf:r.s.tables.find? (fun t=>t.name==q.table)with
  |none=>rw[hf]at ho;simp at ho
  |some t=>
   rw[hf]at hcol
   obtain⟨x,hx,hl,hfit⟩:=find_st hr.inst q.table t hf
   have e:bq r q=x.rows:=by rw[ek];unfold dN;rw[zp k,hx]
   exact⟨by omega,by rw[e];omega,by rw[e,hcol];exact hfit⟩
 all_goals have har:=hs.arity
 all_goals rw[k]at har
 all_goals simp only[qr]at har
 ·--filter
  obtain⟨x,hi⟩:=one (q:=q) (by simpa using har)
  have hx:=hall x (by rw[hi];simp);have hmq:=qi h.most (by omega) hi;rw[hi]at hcol ho;unfold ja at ho hcol;rw[zy (by omega),zp k]at ho hcol;have e:bq r q=(bq r x).filter (io r (bu r x) q):=by rw[ek,hi];unfold dN;rw[zy (by omega),zy (by omega),zy (by omega),zy (by omega),zp k];rfl
  have hcx:bu r q=bu r x:=hcol
  have:=List.length_filter_le (io r (bu r x) q) (bq r x)
  refine⟨by rw[hmq];exact hx.pos,by rw[hmq,e];have:=hx.len;omega,fun row hrow=>?_⟩
  rw[e]at hrow;rw[hcx];exact hx.fits row (List.mem_filter.1 hrow).1
 ·--project
  obtain⟨x,hi⟩:=one (q:=q) (by simpa using har)
  have hx:=hall x (by rw[hi];simp);have hmq:=qi h.most (by omega) hi;rw[hi]at hcol ho;unfold ja at ho hcol;rw[zy (by omega),zy (by omega),zy (by omega),zy (by omega),zp (.inl k)]at ho hcol;have e:bq r q=(bq r x).map fun y=>q.exprs.map fun e=>cn (bw r (bu r x) y) e:=by rw[ek,hi];unfold dN;rw[zy (by omega),zy (by omega),zy (by omega),zy (by omega),zy (by omega),zp k];rfl
  have hag:q.aggregates=[]:=hs.aggs (by omega);change (np r.vars (bu r x) q).2=0 at ho;change bu r q=(np r.vars (bu r x) q).1 at hcol;unfold np at ho hcol;by_cases hn:(cw r.vars (bu r x) q.exprs q.names).2=0
  ·rw[zy (by simpa using hn),hag]at hcol;simp only[ee,ne_eq,not_true_eq_false,if_false,List.append_nil]at hcol
   obtain⟨hl,hinv⟩:=nR r.vars (bu r x) q.exprs q.names (hs.named (.inl k)) hn
   refine⟨by rw[hmq];exact hx.pos,by rw[hmq,e];simpa using hx.len,fun row hrow=>?_⟩
   rw[e]at hrow
   obtain⟨y,hy,rfl⟩:=List.mem_map.1 hrow
   rw[hcol];refine dQ.map hl fun i e' c he hc=>?_
   obtain⟨ht,d,hd,hk,hnl⟩:=hinv i e' he
   rw[hc]at hd;cases hd;rw[hk,hnl];exact tH hr (hx.fits y hy) ht (h.expr (eH he))
  ·rw[zp hn]at ho;exact absurd ho hn
 ·--inner join
  obtain⟨x,y,hi⟩:=two (q:=q) (by simpa using har)
  have hx:=hall x (by rw[hi];simp);have hy:=hall y (by rw[hi];simp);have hmq:=nV h.most (by omega) hi;rw[zy (by omega),zp (.inl k)]at hmq;rw[hi]at hcol ho;unfold ja at ho hcol;rw[zy (by omega),zy (by omega),zp (.inl k)]at ho hcol;have e:bq r q=kU (io r (bu r x++bu r y) q) (q.kind==5) (List.replicate (bu r y).length .nul) (bq r x) (bq r y):=by rw[ek,hi];unfold dN;rw[zy (by omega),zp (.inl k)];rfl
  have hcx:bu r q=jR (bu r x) (bu r y) (q.kind==5):=hcol;have hb:=tJ (io r (bu r x++bu r y) q) (q.kind==5) (List.replicate (bu r y).length .nul) (bq r x) (bq r y);have hxl:=hx.len;have hyl:=hy.len;have hpos:=hx.pos;have h1m:1≤dI 1 (bF y).1∧((max 1 (bq r y).length:Nat):Int)≤dI 1 (bF y).1:=⟨jT _ _,by have:=jT 1 (bF y).1;have:=pe 1 (bF y).1;omega⟩
  refine⟨?_,?_,fun row hrow=>?_⟩
  ·rw[hmq];exact Int.le_trans hpos (by have:=Int.mul_le_mul_of_nonneg_left h1m.1 (show 0≤(bF x).1 by omega);omega)
  ·rw[e,hmq]
   have h2:(((bq r x).length*max 1 (bq r y).length:Nat):Int)≤(bF x).1*dI 1 (bF y).1:=by
    rw[Int.natCast_mul];exact Int.mul_le_mul hxl h1m.2 (by omega) (by omega)
   omega
  ·rw[e]at hrow;rw[hcx]
   obtain⟨u,hu,⟨v,hv,rfl⟩|⟨hl,rfl⟩⟩:=joinR_mem hrow
   ·exact join_fits (hx.fits u hu) (hy.fits v hv)
   ·rw[hl];exact pad_fits (hx.fits u hu)
 ·--left join
  obtain⟨x,y,hi⟩:=two (q:=q) (by simpa using har)
  have hx:=hall x (by rw[hi];simp);have hy:=hall y (by rw[hi];simp);have hmq:=nV h.most (by omega) hi;rw[zy (by omega),zp (.inr k)]at hmq;rw[hi]at hcol ho;unfold ja at ho hcol;rw[zy (by omega),zy (by omega),zp (.inr k)]at ho hcol;have e:bq r q=kU (io r (bu r x++bu r y) q) (q.kind==5) (List.replicate (bu r y).length .nul) (bq r x) (bq r y):=by rw[ek,hi];unfold dN;rw[zy (by omega),zp (.inr k)];rfl
  have hcx:bu r q=jR (bu r x) (bu r y) (q.kind==5):=hcol;have hb:=tJ (io r (bu r x++bu r y) q) (q.kind==5) (List.replicate (bu r y).length .nul) (bq r x) (bq r y);have hxl:=hx.len;have hyl:=hy.len;have hpos:=hx.pos;have h1m:1≤dI 1 (bF y).1∧((max 1 (bq r y).length:Nat):Int)≤dI 1 (bF y).1:=⟨jT _ _,by have:=jT 1 (bF y).1;have:=pe 1 (bF y).1;omega⟩
  refine⟨?_,?_,fun row hrow=>?_⟩
  ·rw[hmq];exact Int.le_trans hpos (by have:=Int.mul_le_mul_of_nonneg_left h1m.1 (show 0≤(bF x).1 by omega);omega)
  ·rw[e,hmq]
   have h2:(((bq r x).length*max 1 (bq r y).length:Nat):Int)≤(bF x).1*dI 1 (bF y).1:=by
    rw[Int.natCast_mul];exact Int.mul_le_mul hxl h1m.2 (by omega) (by omega)
   omega
  ·rw[e]at hrow;rw[hcx]
   obtain⟨u,hu,⟨v,hv,rfl⟩|⟨hl,rfl⟩⟩:=joinR_mem hrow
   ·exact join_fits (hx.fits u hu) (hy.fits v hv)
   ·rw[hl];exact pad_fits (hx.fits u hu)
 ·--union
  obtain⟨x,y,hi⟩:=two (q:=q) (by simpa using har)
  have hx:=hall x (by rw[hi];simp);have hy:=hall y (by rw[hi];simp);have hmq:=nV h.most (by omega) hi;rw[zp k]at hmq;rw[hi]at hcol ho;unfold ja at ho hcol;rw[zy (by omega),zy (by omega),zy (by omega),zp (.inl k)]at ho hcol;have e:bq r q=bq r x++bq r y:=by rw[ek,hi];unfold dN;rw[zy (by omega),zy (by omega),zp k];rfl
  change (lu q.kind (bu r x) (bu r y)).2=0 at ho;change bu r q=(lu q.kind (bu r x) (bu r y)).1 at hcol
  have:=hx.len
  have:=hy.len
  have:=hx.pos
  have:=hy.pos
  refine⟨by omega,by rw[e,hmq];simp;omega,fun row hrow=>?_⟩
  rw[e]at hrow;rw[hcol];rcases List.mem_append.1 hrow with hrow|hrow
  ·exact set_fits ho (.inl (hx.fits row hrow))
  ·exact set_fits ho (.inr ⟨k,hy.fits row hrow⟩)
 ·--difference
  obtain⟨x,y,hi⟩:=two (q:=q) (by simpa using har)
  have hx:=hall x (by rw[hi];simp);have hmq:=nV h.most (by omega) hi;rw[zy (by omega),zy (by omega)]at hmq;rw[hi]at hcol ho;unfold ja at ho hcol;rw[zy (by omega),zy (by omega),zy (by omega),zp (.inr k)]at ho hcol;have e:bq r q=mB (bq r x) (bq r y):=by rw[ek,hi];unfold dN;rw[zy (by omega),zy (by omega),zy (by omega),zp k];rfl
  change (lu q.kind (bu r x) (bu r y)).2=0 at ho;change bu r q=(lu q.kind (bu r x) (bu r y)).1 at hcol;have hsub:=sV (bq r x) (bq r y)
  have:=hsub.length_le
  have:=hx.len
  have:=hx.pos
  refine⟨by omega,by rw[e,hmq];omega,fun row hrow=>?_⟩
  rw[e]at hrow;rw[hcol];exact set_fits ho (.inl (hx.fits row (hsub.subset hrow)))
 ·--aggregation
  obtain⟨x,hi⟩:=one (q:=q) (by simpa using har)
  have hx:=hall x (by rw[hi];simp);have hmq:=qi h.most (by omega) hi;rw[hi]at hcol ho;unfold ja at ho hcol;rw[zy (by omega),zy (by omega),zy (by omega),zy (by omega),zp (.inr k)]at ho hcol;have e:bq r q=oR r (bu r x) q (bq r x):=by rw[ek,hi];unfold dN;rw[zy (by omega),zy (by omega),zy (by omega),zy (by omega),zy (by omega),zy (by omega),zp k];rfl
  change (np r.vars (bu r x) q).2=0 at ho;change bu r q=(np r.vars (bu r x) q).1 at hcol;have hxl:=hx.len;have hxp:=hx.pos;have hxm:=(gL h.most).2 x (by rw[hi];simp);have hxm1:=(gL hxm).1;unfold np at ho hcol;by_cases hn:(cw r.vars (bu r x) q.exprs q.names).2=0
  ·rw[zy (by simpa using hn)]at hcol ho;by_cases hg:(ee r.vars (bu r x) q.aggregates).2=0
   ·rw[zy (by simpa using hg)]at hcol
    obtain⟨hl,hinv⟩:=nR r.vars (bu r x) q.exprs q.names (hs.named (.inr k)) hn
    obtain⟨hl2,hinv2⟩:=sD r.vars (bu r x) q.aggregates hg
    have hkeys:=qP (fun x_1=>q.exprs.map fun e=>cn (bw r (bu r x) x_1) e) (bq r x) (if q.exprs=[]then [[]]else [])
    have hlen:((oR r (bu r x) q (bq r x)).length:Int)≤(bF x).1:=by
     unfold oR;rw[zl];by_cases hee:q.exprs=[]
     ·--without keys there is one group
      have:∀(l ks:Rows),ks=[[]]→fj (fun x_1=>q.exprs.map fun e=>cn (bw r (bu r x) x_1) e) ks l=[[]]:=by
       intro l;induction l with
       |nil=>intro ks hk;simpa[fj]using hk
       |cons z l ih2=>
        intro ks hk;rw[fj];refine ih2 _ ?_;rw[zp (by rw[hk,hee];simp),hk]
      rw[this _ _ (by rw[zp hee])];simp;omega
     ·rw[zy hee]at hkeys⊢;simp at hkeys;omega
    refine⟨by rw[hmq];exact hxp,by rw[hmq,e];exact hlen,fun row hrow=>?_⟩
    rw[e]at hrow;rw[hcol];unfold oR at hrow
    obtain⟨kk,hkk,rfl⟩:=List.mem_map.1 hrow
    refine dQ.append ?_ ?_
    ·rcases(qR _ _ _ _).1 hkk with hk0|⟨y,hy,rfl⟩
     ·split at hk0
      ·rename_i hee;simp at hk0;subst hk0;rw[hee]at hl⊢
       exact⟨by simpa using hl.symm,fun i c v hc hv=>by simp at hv⟩
      ·simp at hk0
     ·refine dQ.map hl fun i e' c he hc=>?_
      obtain⟨ht,d,hd,hk,hnl⟩:=hinv i e' he
      rw[hc]at hd;cases hd;rw[hk,hnl];exact tH hr (hx.fits y hy) ht (h.expr (eH he))
    ·refine⟨by simp[hl2],fun i c v hc hv=>?_⟩
     rw[List.getElem?_map,Option.map_eq_some_iff]at hv
     obtain⟨a,ha,rfl⟩:=hv
     obtain⟨hq,d,hd,hk,hnl⟩:=hinv2 i a ha
     rw[hc]at hd;cases hd;rw[hk,hnl];refine agg_fits hr hq (fun row hrow=>hx.fits row (List.mem_filter.1 hrow).1) ?_ (h.agg (eH ha));unfold fy;exact Nat.le_trans (List.length_filter_le _ _) (by omega)
   ·rw[zp hg]at ho;exact absurd ho hg
  ·rw[zp hn]at ho;exact absurd ho hn
 ·--sort
  obtain⟨x,hi⟩:=one (q:=q) (by simpa using har)
  have hx:=hall x (by rw[hi];simp);have hmq:=qi h.most (by omega) hi;rw[hi]at hcol ho;unfold ja at ho hcol;rw[zy (by omega),zy (by omega),zy (by omega),zy (by omega),zy (by omega),zp k]at ho hcol;have hxm:=(gL h.most).2 x (by rw[hi];simp);have hxm1:=(gL hxm).1;have hxl:=hx.len
  obtain⟨l',hsort,hperm⟩:=sort_ok r q (bu r x) (bq r x) (by omega) hself.1
  have e:bq r q=l':=by rw[ek,hi];unfold dN;rw[zy (by omega),zy (by omega),zy (by omega),zy (by omega),zy (by omega),zy (by omega),zy (by omega),zp k];show(fR r q (bu r x) (bq r x)).getD []=l';rw[hsort];rfl
  have hcx:bu r q=bu r x:=by
   by_cases hse:kl r.vars (bu r x) q.exprs=0
   ·exact hcol.trans (by show(if kl r.vars (bu r x) q.exprs≠0 then _ else _:List LCol×Int).1=_;rw[zy (by simpa using hse)];rfl)
   ·exact absurd (by
     have:(if kl r.vars (bu r x) q.exprs≠0 then(([],kl r.vars (bu r x) q.exprs):List LCol×Int)else(bu r x,0)).2=0:=ho
     rw[zp hse]at this;exact this) hse
  refine⟨by rw[hmq];exact hx.pos,by rw[hmq,e,hperm.length_eq];exact hxl,fun row hrow=>?_⟩
  rw[e]at hrow;rw[hcx];exact hx.fits row (hperm.mem_iff.1 hrow)
 ·--limit
  obtain⟨x,hi⟩:=one (q:=q) (by simpa using har)
  have hx:=hall x (by rw[hi];simp);have hmq:=qi h.most (by omega) hi;rw[hi]at hcol ho;unfold ja at ho hcol;rw[zy (by omega),zy (by omega),zy (by omega),zy (by omega),zy (by omega),zy (by omega)]at ho hcol;have hcx:bu r q=bu r x:=hcol;have e:bq r q=rr q (bq r x):=by rw[ek,hi];unfold dN;rw[zy (by omega),zy (by omega),zy (by omega),zy (by omega),zy (by omega),zy (by omega),zy (by omega),zy (by omega)];rfl
  have hsub:(rr q (bq r x)).Sublist (bq r x):=(List.drop_sublist _ _).trans (List.take_sublist _ _)
  have:=hsub.length_le
  have:=hx.len
  refine⟨by rw[hmq];exact hx.pos,by rw[hmq,e];omega,fun row hrow=>?_⟩
  rw[e]at hrow;rw[hcx];exact hx.fits row (hsub.subset hrow)
theorem rowLen{cols:List LCol}{row:Rq}(h:dQ cols row)(hc:cols.length≤20):row.length≤20:=by rw[h.1];exact hc
theorem scan_run(st:List LRelation)(name:List UInt8):ag (aG (σ:=Unit) (ρ:=(Rows)) (fun(_:Nat) (x1:LRelation) (_:Unit)=>cond (x1.table==name) (some (.ret x1.rows)) (some (.next ()))) 0 st ()) (fun fl1=>fl1.thenR fun(_:Unit)=>some [])=
  some (match st.find? fun x=>x.table==name with|some x=>x.rows|none=>[]):=by
 rw[qX (fun x:LRelation=>x.table==name) (fun _ x=>x.rows) st 0 (fun k x _=>by cases x.table==name<;>rfl)];rcases find_idx (fun x:LRelation=>x.table==name) st with⟨h1,h2⟩|⟨x,h1,h2,h3⟩
 ·rw[h1];unfold bf at h2;cases hf:st.findIdx? (fun x=>x.table==name)with
  |none=>rfl
  |some i=>rw[hf]at h2;simp only at h2;omega
 ·rw[h1];unfold bf at h2 h3;cases hf:st.findIdx? (fun x=>x.table==name)with
  |none=>rw[hf]at h2;simp at h2
  |some i=>
   rw[hf]at h3;simp only[Int.toNat_natCast]at h3;simp only[h3];rfl
theorem limit_run(l:Rows)(q:LQuery)(hl:l.length≤1000000)(hc:0≤q.count)(ho:0≤q.offset):
  mX l (if(l.length:Int)<q.offset then(l.length:Int)else q.offset) (IntKind.i64.wrap ((if(l.length:Int)<q.offset then(l.length:Int)else q.offset)+(if(IntKind.i64.wrap ((l.length:Int)-(if(l.length:Int)<q.offset then(l.length:Int)else q.offset)))<q.count then(IntKind.i64.wrap ((l.length:Int)-(if(l.length:Int)<q.offset then(l.length:Int)else q.offset)))else q.count)))=some (rr q l):=by
 obtain⟨o,ho'⟩:∃o:Nat,q.offset=o:=⟨q.offset.toNat,by omega⟩
 obtain⟨c,hc'⟩:∃c:Nat,q.count=c:=⟨q.count.toNat,by omega⟩
 unfold rr;rw[ho',hc',Int.toNat_natCast,Int.toNat_natCast];by_cases h1:(l.length:Int)<(o:Int)
 ·rw[zp h1,bB (n:=(l.length:Int)-(l.length:Int)) (by omega) (by omega)];have e:(if(l.length:Int)-(l.length:Int)<(c:Int)then(l.length:Int)-(l.length:Int)else(c:Int))=0:=by split<;>omega
  rw[e,bB (by omega) (by omega),rD ⟨by omega,by omega,by omega⟩];congr 1;rw[List.drop_of_length_le (by simp only[List.length_take];omega)]
  symm
  exact List.drop_of_length_le (by simp only[List.length_take];omega)
 ·rw[zy h1,bB (n:=(l.length:Int)-(o:Int)) (by omega) (by omega)];by_cases h2:(l.length:Int)-(o:Int)<(c:Int)
  ·rw[zp h2,bB (by omega) (by omega),rD ⟨by omega,by omega,by omega⟩];rw[Int.toNat_natCast,List.take_of_length_le (i:=((o:Int)+((l.length:Int)-(o:Int))).toNat) (by omega),List.take_of_length_le (i:=o+c) (by omega)]
  ·rw[zy h2,bB (by omega) (by omega),rD ⟨by omega,by omega,by omega⟩];rw[Int.toNat_natCast,show((o:Int)+(c:Int)).toNat=o+c from by omega]
theorem join_run2(r:LRun)(q:LQuery)(ca cb:List LCol)(e:LExpr)(he:getI q.exprs 0=some e)(hee:e=e0Q q)(a b:Rows)(ha:∀x∈a,x.length≤20)(hb:∀x∈b,x.length≤20)(hcb:cb.length≤20)(hsz:a.length*max 1 b.length≤30000)(hk:q.kind=4∨q.kind=5):
  ag (aG (σ:=List LCol×Rows) (ρ:=Empty) (fun(_:Nat) (x1:Rq) (s1:List LCol×Rows)=>
  ag (aG (σ:=Rows×Bool) (ρ:=Empty) (fun(_:Nat) (x6:Rq) (s6:Rows×Bool)=>
   ag (bS ([x1,x6]:Rows)) fun x58=>
   ag (getI q.exprs 0) fun(x65:LExpr)=>
   letP (bw r s1.1 x58) fun x62=>
   letP (cn x62 x65) fun x67=>
   letP (gU x67) fun x68=>
   cond x68
    (ag (db 24 s6.1 ([x58]:Rows)) fun(x72:Rows)=>
    some (.next (x72,true)))
    (some (.next (s6.1,s6.2)))) 0 b (s1.2,false)) fun fl6=>fl6.thenP fun(s6:Rows×Bool)=>
  letP (
   cond (!s6.2)
    ((q.kind==(5:Int)))
    (false)) fun(t7:Bool)=>
  cond t7
   (ag (qL 32 (cb.length:Int)) fun(_:Unit)=>
   ag (bS ([x1,(List.replicate (cb.length:Int).toNat (LVal.mk 0 0 []))]:Rows)) fun x87=>
   ag (db 24 s6.1 ([x87]:Rows)) fun(x89:Rows)=>
   some (.next (s1.1,x89)))
   (some (.next (s1.1,s6.1)))) 0 a (ca++cb,[])) (fun fl1=>fl1.thenP fun(s1:List LCol×Rows)=>some s1.2)=some (kU (io r (ca++cb) q) (q.kind==5) (List.replicate cb.length .nul) a b):=by
 have hpl:∀k,k≤a.length→(kU (io r (ca++cb) q) (q.kind==5) (List.replicate cb.length .nul) (a.take k) b).length≤30000:=fun k hk=>by
  have h1:=tJ (io r (ca++cb) q) (q.kind==5) (List.replicate cb.length .nul) (a.take k) b;rw[List.length_take,Nat.min_eq_left hk]at h1;exact Nat.le_trans h1 (Nat.le_trans (Nat.mul_le_mul_right _ hk) hsz)
 rw[rMa (xs:=a) (s:=(ca++cb,[])) (fun k=>(ca++cb,kU (io r (ca++cb) q) (q.kind==5) (List.replicate cb.length .nul) (a.take k) b)) rfl (fun k x hkx=>by
  have hkl:=(zg.1 hkx).1;have hxm:=eH hkx
  have hbl:b.length≤30000:=by
   have h1:1*max 1 b.length≤a.length*max 1 b.length:=Nat.mul_le_mul_right _ (by omega);omega
  have h2:=hpl k (by omega);simp only;rw[match_run (io r (ca++cb) q) e r (ca++cb) q.exprs he (fun z=>by rw[hee];rfl) x (by have:=ha x hxm;omega) b _ false (fun y hy=>by have:=hb y hy;omega) (by omega),bPs,bT]
  have hs:kU (io r (ca++cb) q) (q.kind==5) (List.replicate cb.length .nul) (a.take (k+1)) b=kU (io r (ca++cb) q) (q.kind==5) (List.replicate cb.length .nul) (a.take k) b++padR (io r (ca++cb) q) (q.kind==5) (List.replicate cb.length .nul) x b:=by
   unfold kU;rw[List.take_add_one,hkx,List.map_append,List.flatten_append];simp
  rw[hs];simp only[bp,Bool.false_or];have hml:(iK (io r (ca++cb) q) x b).length≤30000:=by unfold iK;exact Nat.le_trans (List.length_filter_le _ _) (by simpa using hbl)
  cases hm:iK (io r (ca++cb) q) x b with
  |nil=>
   by_cases h5:q.kind=5
   ·have e5:(q.kind==5)=true:=kT h5;simp only[e5,List.isEmpty_nil,Bool.not_true,Bool.not_false,zc];rw[growI_ok ⟨by omega,by omega,by unfold maxLen;omega⟩,bPs,concat2 x _ (by have:=ha x hxm;omega) (by simp;omega),bPs];rw[e5]at h2;rw[bM (by decide) (by simp at h2⊢;omega),bPs];unfold padR;rw[zp ⟨rfl,hm⟩];simp[LVal.nul]
   ·have e5:(q.kind==5)=false:=cP h5;simp only[e5,List.isEmpty_nil,Bool.not_true,Bool.not_false,zc,zd];unfold padR;rw[zy (by simp),hm]
  |cons z zs=>
   simp only[List.isEmpty_cons,Bool.not_false,Bool.not_true,zd];unfold padR;rw[zy (by rw[hm];simp),hm])]
 rw[bPs,bT,List.take_length]
theorem rows_ev{r:LRun}(hr:RunOk r):∀q:LQuery,QOk r q→∃N,∀n,N≤n→fp n r q=some (bq r q):=by
 refine LQuery.ind fun q ih h=>?_
 have hs:=shape_ok (oi h.cols).1
 obtain⟨ho,hcol⟩:=colsR_out h
 have hself:=h.small.self;have hm:=(gL h.most).1
 obtain⟨N,hN⟩:=ev_all (p:=fun x n=>fp n r x=some (bq r x)) q.inputs (fun x hx=>ih x hx (h.sub hx))
 have hall:∀x∈q.inputs,RowsOk r x:=fun x hx=>rows_fit hr x (h.sub hx)
 have hsz:∀x∈q.inputs,(bq r x).length≤20000:=fun x hx=>by
  have h1:=(hall x hx).len;have h2:=(gL h.most).2 x hx;have h3:=(gL h2).1;omega
 have hrow:∀x∈q.inputs,∀row∈bq r x,row.length≤20:=fun x hx row hrow=>rowLen ((hall x hx).fits row hrow) (kQ _ x)
 refine⟨N+2,fun n hn=>?_⟩
 obtain⟨n,rfl⟩:∃k,n=k+2:=⟨n-2,by omega⟩
 rw[fp];simp only[kY];have kk:q.kind=1∨q.kind=2∨q.kind=3∨q.kind=4∨q.kind=5∨q.kind=6∨q.kind=7∨q.kind=8∨q.kind=9∨q.kind=10:=by have:=hs.kind;omega
 rcases kk with k|k|k|k|k|k|k|k|k|k
 ·rw[kT k,zc,scan_run,ek];unfold dN
  rw[zp k]<;>
   rfl
 all_goals have har:=hs.arity
 all_goals rw[k]at har
 all_goals simp only[qr]at har
 ·--filter
  obtain⟨x,hi⟩:=one (q:=q) (by simpa using har)
  have hxm:x∈q.inputs:=by rw[hi];simp
  have e:bq r q=(bq r x).filter (io r (bu r x) q):=by rw[ek,hi];unfold dN;rw[zy (by omega),zy (by omega),zy (by omega),zy (by omega),zp k];rfl
  have hx:=hN (n+1) (by omega) x hxm;rw[k,hi,e];simp only[getI,bp];simp only[show((2:Int)==1)=false from rfl,show((2:Int)==4)=false from rfl,show((2:Int)==5)=false from rfl,show((2:Int)==6)=false from rfl,show((2:Int)==7)=false from rfl,show((2:Int)==2)=true from rfl,zd,zc,Int.le_refl,if_true,Int.toNat_zero,List.getElem?_cons_zero,bPs];rw[hx,bPs,lY (h.small.sub hxm),bPs]
  rw[deleteFunc_eq (bq r x) (fun a=>!io r (bu r x) q a) _ (fun a _=>by
   unfold iV;rw[e0_get (by rw[hs.one (.inl k)];omega)];rfl) (by have:=hsz x hxm;omega),bPs]
  simp
 ·--project
  obtain⟨x,hi⟩:=one (q:=q) (by simpa using har)
  have hxm:x∈q.inputs:=by rw[hi];simp
  have e:bq r q=(bq r x).map fun y=>q.exprs.map fun e=>cn (bw r (bu r x) y) e:=by rw[ek,hi];unfold dN;rw[zy (by omega),zy (by omega),zy (by omega),zy (by omega),zy (by omega),zp k];rfl
  have hx:=hN (n+1) (by omega) x hxm;rw[k,hi,e];simp only[getI,bp];simp only[show((3:Int)==1)=false from rfl,show((3:Int)==4)=false from rfl,show((3:Int)==5)=false from rfl,show((3:Int)==6)=false from rfl,show((3:Int)==7)=false from rfl,show((3:Int)==2)=false from rfl,show((3:Int)==3)=true from rfl,zd,zc,Int.le_refl,if_true,Int.toNat_zero,List.getElem?_cons_zero,bPs];rw[hx,bPs,lY (h.small.sub hxm),bPs]
  rw[mY (xs:=bq r x) (fun y=>q.exprs.map fun e=>cn (bw r (bu r x) y) e) (fun i y hy=>by
   have hil:=(zg.1 hy).1
   have:=hsz x hxm
   rw[rF r _ _ _ (by omega),bPs,bM (by decide) (by simp;omega),bPs]),bPs,bT]
 ·--inner join
  obtain⟨x,y,hi⟩:=two (q:=q) (by simpa using har)
  have hxm:x∈q.inputs:=by rw[hi];simp
  have hym:y∈q.inputs:=by rw[hi];simp
  have hmq:=nV h.most (by omega) hi;rw[zy (by omega),zp (.inl k)]at hmq;have e:bq r q=kU (io r (bu r x++bu r y) q) (q.kind==5) (List.replicate (bu r y).length .nul) (bq r x) (bq r y):=by rw[ek,hi];unfold dN;rw[zy (by omega),zp (.inl k)];rfl
  have hx:=hN n (by omega) x hxm;have hy:=hN n (by omega) y hym
  have hprod:(bq r x).length*max 1 (bq r y).length≤30000:=by
   have h1m:((max 1 (bq r y).length:Nat):Int)≤dI 1 (bF y).1:=by have:=jT 1 (bF y).1;have:=pe 1 (bF y).1;have:=(hall y hym).len;omega
   have h2:(((bq r x).length*max 1 (bq r y).length:Nat):Int)≤(bF x).1*dI 1 (bF y).1:=by
    rw[Int.natCast_mul];exact Int.mul_le_mul (hall x hxm).len h1m (by omega) (by have:=(hall x hxm).pos;omega)
   have:=h.most
   omega
  rw[cP (show q.kind≠1 by omega),kT k];simp only[zd,zc,bp];rw[gM];simp only[jW];rw[hi];have g0:getI [x,y] 0=some x:=rfl;have g1:getI [x,y] 1=some y:=rfl;simp only[g0,g1,bPs];rw[hx,hy];simp only[bPs];rw[lY (h.small.sub hxm),lY (h.small.sub hym)];simp only[bPs];rw[bM (by decide) (by have:=kQ ⟨r.s,r.vars⟩ x;have:=kQ ⟨r.s,r.vars⟩ y;unfold bu;omega),bPs];have he1:q.exprs.length=1:=hs.one (.inr (.inl k));rw[join_run2 r q (bu r x) (bu r y) (e0Q q) (e0_get (by omega)) rfl (bq r x) (bq r y) (hrow x hxm) (hrow y hym) (kQ _ y) hprod (.inl k),bPs,e]
 ·--left join
  obtain⟨x,y,hi⟩:=two (q:=q) (by simpa using har)
  have hxm:x∈q.inputs:=by rw[hi];simp
  have hym:y∈q.inputs:=by rw[hi];simp
  have hmq:=nV h.most (by omega) hi;rw[zy (by omega),zp (.inr k)]at hmq;have e:bq r q=kU (io r (bu r x++bu r y) q) (q.kind==5) (List.replicate (bu r y).length .nul) (bq r x) (bq r y):=by rw[ek,hi];unfold dN;rw[zy (by omega),zp (.inr k)];rfl
  have hx:=hN n (by omega) x hxm;have hy:=hN n (by omega) y hym
  have hprod:(bq r x).length*max 1 (bq r y).length≤30000:=by
   have h1m:((max 1 (bq r y).length:Nat):Int)≤dI 1 (bF y).1:=by have:=jT 1 (bF y).1;have:=pe 1 (bF y).1;have:=(hall y hym).len;omega
   have h2:(((bq r x).length*max 1 (bq r y).length:Nat):Int)≤(bF x).1*dI 1 (bF y).1:=by
    rw[Int.natCast_mul];exact Int.mul_le_mul (hall x hxm).len h1m (by omega) (by have:=(hall x hxm).pos;omega)
   have:=h.most
   omega
  rw[cP (show q.kind≠1 by omega),cP (show q.kind≠4 by omega),kT k];simp only[zd,zc,bp];rw[gM];simp only[jW];rw[hi];have g0:getI [x,y] 0=some x:=rfl;have g1:getI [x,y] 1=some y:=rfl;simp only[g0,g1,bPs];rw[hx,hy];simp only[bPs];rw[lY (h.small.sub hxm),lY (h.small.sub hym)];simp only[bPs];rw[bM (by decide) (by have:=kQ ⟨r.s,r.vars⟩ x;have:=kQ ⟨r.s,r.vars⟩ y;unfold bu;omega),bPs];have he1:q.exprs.length=1:=hs.one (.inr (.inr k));rw[join_run2 r q (bu r x) (bu r y) (e0Q q) (e0_get (by omega)) rfl (bq r x) (bq r y) (hrow x hxm) (hrow y hym) (kQ _ y) hprod (.inr k),bPs,e]
 ·--union
  obtain⟨x,y,hi⟩:=two (q:=q) (by simpa using har)
  have hxm:x∈q.inputs:=by rw[hi];simp
  have hym:y∈q.inputs:=by rw[hi];simp
  have e:bq r q=bq r x++bq r y:=by rw[ek,hi];unfold dN;rw[zy (by omega),zy (by omega),zp k];rfl
  have hx:=hN (n+1) (by omega) x hxm;have hy:=hN (n+1) (by omega) y hym;rw[cP (show q.kind≠1 by omega),cP (show q.kind≠4 by omega),cP (show q.kind≠5 by omega),kT k,hi];have g0:getI [x,y] 0=some x:=rfl;have g1:getI [x,y] 1=some y:=rfl;simp only[zd,zc,bp,g0,g1,bPs]
  have:=hsz x hxm
  have:=hsz y hym
  rw[hx,hy];simp only[bPs];rw[bM (by decide) (by omega),bPs,e]
 ·--difference
  obtain⟨x,y,hi⟩:=two (q:=q) (by simpa using har)
  have hxm:x∈q.inputs:=by rw[hi];simp
  have hym:y∈q.inputs:=by rw[hi];simp
  have e:bq r q=mB (bq r x) (bq r y):=by rw[ek,hi];unfold dN;rw[zy (by omega),zy (by omega),zy (by omega),zp k];rfl
  have hx:=hN (n+1) (by omega) x hxm;have hy:=hN (n+1) (by omega) y hym;rw[cP (show q.kind≠1 by omega),cP (show q.kind≠4 by omega),cP (show q.kind≠5 by omega),cP (show q.kind≠6 by omega),kT k,hi];have g0:getI [x,y] 0=some x:=rfl;have g1:getI [x,y] 1=some y:=rfl;simp only[zd,zc,bp,g0,g1,bPs]
  have:=hsz x hxm
  have:=hsz y hym
  rw[hx,hy];simp only[bPs];rw[less_eq _ _ (by omega) (by omega),bPs,e]
 ·--aggregation
  obtain⟨x,hi⟩:=one (q:=q) (by simpa using har)
  have hxm:x∈q.inputs:=by rw[hi];simp
  have e:bq r q=oR r (bu r x) q (bq r x):=by rw[ek,hi];unfold dN;rw[zy (by omega),zy (by omega),zy (by omega),zy (by omega),zy (by omega),zy (by omega),zp k];rfl
  have hx:=hN (n+1) (by omega) x hxm;rw[cP (show q.kind≠1 by omega),cP (show q.kind≠4 by omega),cP (show q.kind≠5 by omega),cP (show q.kind≠6 by omega),cP (show q.kind≠7 by omega),cP (show q.kind≠2 by omega),cP (show q.kind≠3 by omega),kT k,hi];have g0:getI [x] 0=some x:=rfl;simp only[zd,zc,bp,g0,bPs];rw[hx,bPs,lY (h.small.sub hxm),bPs]
  have:=hsz x hxm
  rw[group_eq r _ q _ (by omega) hself.1 hself.2,bPs,e]
 ·--sort
  obtain⟨x,hi⟩:=one (q:=q) (by simpa using har)
  have hxm:x∈q.inputs:=by rw[hi];simp
  have:=hsz x hxm
  obtain⟨l',hsort,_⟩:=sort_ok r q (bu r x) (bq r x) (by omega) hself.1
  have e:bq r q=l':=by rw[ek,hi];unfold dN;rw[zy (by omega),zy (by omega),zy (by omega),zy (by omega),zy (by omega),zy (by omega),zy (by omega),zp k];show(fR r q (bu r x) (bq r x)).getD []=l';rw[hsort];rfl
  have hx:=hN (n+1) (by omega) x hxm;rw[cP (show q.kind≠1 by omega),cP (show q.kind≠4 by omega),cP (show q.kind≠5 by omega),cP (show q.kind≠6 by omega),cP (show q.kind≠7 by omega),cP (show q.kind≠2 by omega),cP (show q.kind≠3 by omega),cP (show q.kind≠8 by omega),kT k,hi];have g0:getI [x] 0=some x:=rfl;simp only[zd,zc,bp,g0,bPs];rw[hx,bPs,lY (h.small.sub hxm),bPs,hsort,bPs,e]
 ·--limit
  obtain⟨x,hi⟩:=one (q:=q) (by simpa using har)
  have hxm:x∈q.inputs:=by rw[hi];simp
  have e:bq r q=rr q (bq r x):=by rw[ek,hi];unfold dN;rw[zy (by omega),zy (by omega),zy (by omega),zy (by omega),zy (by omega),zy (by omega),zy (by omega),zy (by omega)];rfl
  have hx:=hN (n+1) (by omega) x hxm;rw[cP (show q.kind≠1 by omega),cP (show q.kind≠4 by omega),cP (show q.kind≠5 by omega),cP (show q.kind≠6 by omega),cP (show q.kind≠7 by omega),cP (show q.kind≠2 by omega),cP (show q.kind≠3 by omega),cP (show q.kind≠8 by omega),cP (show q.kind≠9 by omega),hi];have g0:getI [x] 0=some x:=rfl;simp only[zd,zc,bp,g0,bPs];rw[hx,bPs,lY (h.small.sub hxm),bPs]
  have:=hsz x hxm
  rw[limit_run _ q (by omega) (hs.limit k).1 (hs.limit k).2,bPs,e]
theorem rows_eq{r:LRun}(hr:RunOk r){q:LQuery}(h:QOk r q):mO r q=some (bq r q):=by
 obtain⟨N,hN⟩:=rows_ev hr q h
 exact oq N hN
def SizeOk(q:LQuery):Prop:=(da q).length≤24∧ik q≤12∧(bF q).2≤20000
instance(q:LQuery):Decidable (SizeOk q):=by unfold SizeOk;infer_instance
theorem check_eq{s:LSchema}{vars:List LCol}{q:LQuery}(h:SmallQ q):∃cs e,gD s vars q=some (cs,e)∧(e=0↔SizeOk q∧pO (ji q)∧(fq ⟨s,vars⟩ q).2=0)∧(e=0→cs=(fq ⟨s,vars⟩ q).1):=by
 unfold gD;rw[nodes_ok q h.nodes,bPs];by_cases h1:(da q).length≤24
 ·rw[zf (show ¬((da q).length:Int)>24 from by omega),zd,depth_ok q h.nodes,bPs];by_cases h2:ik q≤12
  ·rw[zf (show ¬ik q>12 from by omega),zd];unfold gw;rw[most_ok,bPs,bPs];by_cases h3:(bF q).2≤20000
   ·rw[zf (show ¬(bF q).2>20000 from by omega),bPs,zd,kinds_ok h.nodes,bPs];cases hb:(ec q).2.1 with
    |true=>
     refine⟨[],13,rfl,⟨fun h=>by omega,fun hh=>?_⟩,fun h=>by omega⟩
     rw[kinds_bad.2 hh.2.1]at hb;cases hb
    |false=>
     have hk:=kinds_bad.1 hb;simp only[zd];rw[cols_ok _ q h]
     refine⟨(fq ⟨s,vars⟩ q).1,(fq ⟨s,vars⟩ q).2,rfl,⟨fun h0=>⟨⟨h1,h2,h3⟩,hk,h0⟩,fun hh=>hh.2.2⟩,fun _=>rfl⟩
   ·rw[zt (show(bF q).2>20000 from by omega)]
    exact⟨[],2,rfl,⟨fun h=>by omega,fun hh=>absurd hh.1.2.2 h3⟩,fun h=>by omega⟩
  ·rw[zt (show ik q>12 from by omega)]
   exact⟨[],2,rfl,⟨fun h=>by omega,fun hh=>absurd hh.1.2.1 h2⟩,fun h=>by omega⟩
 ·rw[zt (show((da q).length:Int)>24 from by omega)]
  exact⟨[],2,rfl,⟨fun h=>by omega,fun hh=>absurd hh.1.1 h1⟩,fun h=>by omega⟩
abbrev mC(s:LSchema)(st:List LRelation)(args:Rq):LRun:=LRun.mk s st args [] [] []
structure Runs(s:LSchema)(st:List LRelation)(q:LQuery)(args:Rq):Prop where
 size:SizeOk q
 kinds:pO (ji q)
 cols:(fq ⟨s,[]⟩ q).2=0
 inst:cr s st=some 0
 args:ArgsOk (ji q) args
theorem Runs.instOk{s:LSchema}{st:List LRelation}{q:LQuery}{args:Rq}(h:Runs s st q args)(hs:nI s):InstOk s st:=by
 obtain⟨e,he,hok⟩:=conforms hs st
 rw[h.inst]at he;cases he;exact hok rfl
theorem Runs.qok{s:LSchema}{st:List LRelation}{q:LQuery}{args:Rq}(h:Runs s st q args)(hq:SmallQ q):QOk (mC s st args) q:=
 ⟨hq,h.cols,h.size.2.2,fun i k hm x hx=>(h.args.args i k hm).2.1 i x (Nat.le_refl _) hx⟩
theorem Runs.sub{s:LSchema}{st:List LRelation}{q x:LQuery}{args:Rq}(h:Runs s st q args)(hx:x∈q.inputs):Runs s st x args:=by
 have hp:=params_sub hx
 refine⟨⟨?_,?_,(gL h.size.2.2).2 x hx⟩,fun i k k' a b=>h.kinds i k k' (hp _ a) (hp _ b),(oi h.cols).2.1 x hx,h.inst,h.args.sub hp⟩
 ·have:=lW hx;have:=h.size.1;omega
 ·have:=depthQ_sub hx;have:=h.size.2.1;omega
theorem runs_tot{s:LSchema}(hs:nI s)(st:List LRelation){q:LQuery}(hq:SmallQ q)(args:Rq):∃b,jQ s st q args=some b∧(b=true→Runs s st q args):=by
 unfold jQ kE;rw[size_ok,bPs]
 obtain⟨v,hv⟩:=validate_tot hs
 obtain⟨cs,e,hc,he,_⟩:=check_eq (s:=s) (vars:=[]) hq
 obtain⟨f,hf,_⟩:=conforms hs st
 obtain⟨g,hg,hga⟩:=args_ok hq.nodes args
 unfold mA;rw[hv,hc,hf,hg];simp only[bPs];by_cases c1:nH q 400<0
 ·rw[zt c1];exact⟨false,rfl,fun h=>by cases h⟩
 rw[zf c1,zd,bPs];by_cases c2:v=0
 ·rw[gv c2,zd,bPs];by_cases c3:e=0
  ·rw[kT c3,zc];by_cases c4:(args.length:Int)≤20
   ·rw[zt c4,zc];by_cases c5:f=0
    ·rw[kT c5,zc]
     refine⟨g==0,rfl,fun hg0=>?_⟩
     have hg0:g=0:=by simpa using hg0
     obtain⟨a,b,c⟩:=he.1 c3
     exact⟨a,b,c,by rw[hf,c5],hga.1 hg0⟩
    ·rw[cP c5];exact⟨false,rfl,fun h=>by cases h⟩
   ·rw[zf c4];exact⟨false,rfl,fun h=>by cases h⟩
  ·rw[cP c3];exact⟨false,rfl,fun h=>by cases h⟩
 ·rw[kf c2];exact⟨false,rfl,fun h=>by cases h⟩
theorem evaluate_eq{s:LSchema}(hs:nI s){st:List LRelation}{q:LQuery}(hq:SmallQ q){args:Rq}(h:Runs s st q args):
  iq s st q args=some (LResult.mk (bu (mC s st args) q) (bq (mC s st args) q),true):=by
 unfold iq kS iU
 obtain⟨cs,e,hc,he,hcs⟩:=check_eq (s:=s) (vars:=[]) hq
 obtain⟨g,hg,hga⟩:=args_ok hq.nodes args
 have e0:=he.2 ⟨h.size,h.kinds,h.cols⟩;have g0:=hga.2 h.args;have hr:RunOk (mC s st args):=⟨rfl,rfl,rfl,h.instOk hs⟩;have hok:=rows_fit hr q (h.qok hq)
 have hlen:(bq (mC s st args) q).length≤20000:=by
  have h1:=hok.len;have h2:=h.size.2.2;have h3:=(gL h2).1;omega
 rw[hc,hg,h.inst];simp only[bPs];rw[gv e0,gv g0,zd,zd];simp only[aG,bPs,bT,bne_self_eq_false,zd];rw[rows_eq hr (h.qok hq),bPs]
 rw[mY (xs:=bq (mC s st args) q) id (fun k x hk=>by
  have:=(zg.1 hk).1
  rw[bM (by decide) (by simp;omega),bPs];rfl),bPs,bT,bPs,bPs,hcs e0]
 simp[bu]
theorem mR(a b:Int):bP a b=if a<b then-1 else if b<a then 1 else 0:=by
 unfold bP;by_cases h1:a<b
 ·simp[h1]
 ·by_cases h2:b<a
  ·simp[h1,h2]
  ·simp[h1,h2]
theorem cmpB_eq:∀a b:List UInt8,Lib.compareBytes a b=0→a=b
 |[],[],_=>rfl
 |[],_::_,h=>by simp[Lib.compareBytes]at h
 |_::_,[],h=>by simp[Lib.compareBytes]at h
 |a::la,b::lb,h=>by
  simp only[Lib.compareBytes,UInt8.lt_iff_toNat_lt]at h;split at h
  ·cases h
  ·split at h
   ·cases h
   ·rename_i h1 h2;rw[UInt8.toNat_inj.1 (by omega:a.toNat=b.toNat),cmpB_eq la lb h]
theorem cmpB_refl:∀a:List UInt8,Lib.compareBytes a a=0
 |[]=>rfl
 |a::la=>by simp only[Lib.compareBytes,UInt8.lt_iff_toNat_lt];rw[zy (by omega),zy (by omega)];exact cmpB_refl la
theorem cmpB_trans:∀a b c:List UInt8,Lib.compareBytes a b<0→Lib.compareBytes b c<0→Lib.compareBytes a c<0
 |[],[],_,h,_=>by simp[Lib.compareBytes]at h
 |_::_,[],_,h,_=>by simp[Lib.compareBytes]at h
 |_,_::_,[],_,h=>by simp[Lib.compareBytes]at h
 |[],_::_,_::_,_,_=>by simp[Lib.compareBytes]
 |a::la,b::lb,c::lc,h,h'=>by
  simp only[Lib.compareBytes,UInt8.lt_iff_toNat_lt]at h h'⊢;by_cases h1:a.toNat<c.toNat
  ·rw[zp h1];decide
  ·rw[zy h1];by_cases h2:a.toNat<b.toNat
   ·rw[zy (by omega),zp (by omega)]at h';exact absurd h' (by decide)
   ·rw[zy h2]at h;by_cases h3:b.toNat<a.toNat
    ·rw[zp h3]at h;exact absurd h (by decide)
    ·rw[zy h3]at h;rw[zy (by omega)];rw[zy (by omega)]at h';by_cases h4:c.toNat<b.toNat
     ·rw[zp h4]at h';exact absurd h' (by decide)
     ·rw[zy h4]at h';exact cmpB_trans la lb lc h h'
def LtV(a b:LVal):Prop:=a.kind<b.kind∨(a.kind=b.kind∧(a.int<b.int∨(a.int=b.int∧Lib.compareBytes a.text b.text<0)))
theorem ltV_trans{a b c:LVal}(h:LtV a b)(h':LtV b c):LtV a c:=by
 unfold LtV at h h'⊢;rcases h with h|⟨h1,h|⟨h2,h⟩⟩<;>rcases h' with h'|⟨h1',h'|⟨h2',h'⟩⟩
 all_goals first|(left;omega)|(right;refine⟨by omega,?_⟩;first|(left;omega)|(right;exact⟨by omega,cmpB_trans _ _ _ h h'⟩))
theorem oL(a b:LVal):cC a b=if bP a.kind b.kind≠0 then bP a.kind b.kind else if bP a.int b.int≠0 then bP a.int b.int else Lib.compareBytes a.text b.text:=by
 unfold cC jx dT;simp only[bp];by_cases h1:bP a.kind b.kind=0
 ·rw[gv h1,zd,zy (fun h=>h h1)];by_cases h2:bP a.int b.int=0
  ·rw[gv h2,zd,zy (fun h=>h h2)]
  ·rw[kf h2,zc,zp h2]
 ·rw[kf h1,zc,zp h1]
theorem compare_lt{a b:LVal}(h:cC a b<0):LtV a b:=by
 rw[oL,mR,mR]at h;unfold LtV;by_cases h1:a.kind<b.kind
 ·exact .inl h1
 ·by_cases h2:b.kind<a.kind
  ·simp[h1,h2]at h
  ·right
   refine⟨by omega,?_⟩
   simp only[h1,h2,if_false,ne_eq,not_true_eq_false]at h;by_cases h3:a.int<b.int
   ·exact .inl h3
   ·by_cases h4:b.int<a.int
    ·simp[h3,h4]at h
    ·right
     refine⟨by omega,?_⟩
     simpa[h3,h4]using h
theorem compare_zero{a b:LVal}(h:cC a b=0):a=b:=by
 rw[oL,mR,mR]at h;by_cases h1:a.kind<b.kind
 ·simp[h1]at h
 ·by_cases h2:b.kind<a.kind
  ·simp[h1,h2]at h
  ·simp only[h1,h2,if_false,ne_eq,not_true_eq_false]at h;by_cases h3:a.int<b.int
   ·simp[h3]at h
   ·by_cases h4:b.int<a.int
    ·simp[h3,h4]at h
    ·simp only[h3,h4,if_false,not_true_eq_false]at h;have h5:=cmpB_eq _ _ h;cases a;cases b;simp only[LVal.mk.injEq]at h1 h2 h3 h4 h5⊢
     exact⟨by omega,by omega,h5⟩
def nJ(a b:Rq):Prop:=∃(j:Nat) (x y:LVal),a[j]?=some x∧b[j]?=some y∧(∀i,i<j→a[i]?=b[i]?)∧LtV x y
theorem ltRow_trans{a b c:Rq}(h:nJ a b)(h':nJ b c):nJ a c:=by
 obtain⟨j,x,y,h1,h2,h3,h4⟩:=h
 obtain⟨k,x',y',h1',h2',h3',h4'⟩:=h'
 rcases Nat.lt_trichotomy j k with hjk|hjk|hjk
 ·exact⟨j,x,y,h1,(h3' j hjk).symm.trans h2,fun i hi=>(h3 i hi).trans (h3' i (by omega)),h4⟩
 ·subst hjk;rw[h2]at h1';cases h1'
  exact⟨j,x,y',h1,h2',fun i hi=>(h3 i hi).trans (h3' i hi),ltV_trans h4 h4'⟩
 ·exact⟨k,x',y',(h3 k hjk).trans h1',h2',fun i hi=>(h3 i (by omega)).trans (h3' i hi),h4'⟩
theorem compareRows_lt{a b:Rq}{z:Int}(hl:a.length=b.length)(ha:a.length≤10000000)(h:bL a b=some z)(hz:z<0):nJ a b:=by
 unfold bL at h;rw[zy (by omega),lL (by omega),bPs,Int.toNat_natCast]at h
 obtain⟨fl,hfl,hr⟩:=eX (step:=fun(j1:Nat) (_:Nat) (_:Unit)=>
  ag (getI a (j1:Int)) fun(x17:LVal)=>
  ag (getI b (j1:Int)) fun(x21:LVal)=>
  letP (cC x17 x21) fun x23=>
  cond (x23 !=(0:Int))
   (some (Flow.ret (σ:=Unit) x23))
   (some (.next ()))) (fun j _=>∀i,i<j→a[i]?=b[i]?) (fun r=>r<0→nJ a b) (List.range a.length) 0 () (fun i h=>by omega) (fun k x s hk hI=>by
    have hkl:=(zg.1 hk).1;simp at hkl;simp only[Nat.zero_add]at hI⊢;rw[eP (by omega),eP (by omega)];simp only[bPs,bp];by_cases h0:cC a[k] b[k]=0
    ·refine⟨.next (),by simp[h0],fun i hi=>?_⟩
     by_cases he:i=k
     ·subst he;rw[ze (by omega),ze (by omega),compare_zero h0]
     ·exact hI i (by omega)
    ·exact⟨.ret (cC a[k] b[k]),by rw[kf h0];rfl,fun hz=>⟨k,_,_,ze (by omega),ze (by omega),hI,compare_lt hz⟩⟩)
 rw[hfl,bPs]at h;cases fl with
 |brk s=>exact absurd hr (by simp)
 |ret r=>
  have:r=z:=by simpa[Flow.thenR]using h
  exact hr (by omega)
 |next s=>
  simp only[Flow.thenR,bp,mR,hl,zo]at h;rw[zy (by omega),zy (by omega)]at h;omega
def jn(t:LTable)(row:Rq):Rq:=t.primaryKey.map fun k:Int=>if 0≤k∧k<row.length then row.getD k.toNat (LVal.mk 0 0 [])else LVal.mk 0 0 []
theorem key_eq{t:LTable}(hsm:t.primaryKey.length≤10000000)(row:Rq):ck t row=some (jn t row):=by
 unfold ck
 rw[mY (fun k:Int=>if 0≤k∧k<row.length then row.getD k.toNat (LVal.mk 0 0 [])else LVal.mk 0 0 []) (fun k x hk=>by
  have hkl:=(zg.1 hk).1;rw[bp];by_cases h:0≤x∧x<row.length
  ·haveI:Inhabited LVal:=⟨LVal.mk 0 0 []⟩
   obtain⟨v,hv,hv'⟩:=getI_lt (xs:=row) h.1 h.2
   rw[zp h,zt (show x≥0 from h.1),zc,zt h.2,zc,hv,bPs,bPs,bM (by decide) (by simp;omega),bPs];rw[show row.getD x.toNat (LVal.mk 0 0 [])=v from by rw[List.getD_eq_getElem?_getD,hv'];rfl]
  ·rw[zy h]
   have hc:(cond (decide (x≥(0:Int))) (decide (x<(row.length:Int))) false)=false:=by
    by_cases h0:x≥0
    ·rw[zt h0,zc];exact zf fun h1=>h ⟨h0,h1⟩
    ·rw[zf h0];rfl
   rw[hc,zd,bPs,bM (by decide) (by simp;omega),bPs]),bPs,bT]
 rfl
theorem keys_lt{t:LTable}(hsm:t.primaryKey.length≤10000000){rows:Rz}(h:KeyOrd t rows):∀(d i:Nat) (p q:Rq),rows[i]?=some p→rows[i+d+1]?=some q→nJ (jn t p) (jn t q):=by
 have one:∀(i:Nat) (p q:Rq),rows[i]?=some p→rows[i+1]?=some q→nJ (jn t p) (jn t q):=by
  intro i p q hp hq
  obtain⟨k1,k2,z,h1,h2,h3,h4⟩:=h i p q hp hq
  rw[key_eq hsm]at h1 h2;cases h1;cases h2;exact compareRows_lt (by simp[jn]) (by simpa[jn]using hsm) h3 h4
 intro d;induction d with
 |zero=>intro i p q hp hq;exact one i p q hp hq
 |succ d ih=>
  intro i p q hp hq;have hl:=(zg.1 hq).1;have hm:rows[i+d+1]?=some rows[i+d+1]:=ze (by omega);exact ltRow_trans (ih i p _ hp hm) (one (i+d+1) _ q hm (by rw[←hq];congr 1))
theorem mP(a:Int):bP a a=0:=by rw[mR,zy (by omega),zy (by omega)]
theorem sQ(a:LVal):cC a a=0:=by
 rw[oL,mP,mP,zy (fun h=>h rfl),zy (fun h=>h rfl),cmpB_refl]
theorem compare_of_lt{a b:LVal}(h:LtV a b):cC a b<0:=by
 rw[oL];rcases h with h|⟨h1,h|⟨h2,h⟩⟩
 ·have e:bP a.kind b.kind=-1:=by rw[mR,zp h]
  rw[e,zp (by decide)];decide
 ·have e:bP a.int b.int=-1:=by rw[mR,zp h]
  rw[h1,mP,zy (fun h=>h rfl),e,zp (by decide)];decide
 ·rw[h1,h2,mP,mP,zy (fun h=>h rfl),zy (fun h=>h rfl)];exact h
theorem cmpRows_self{a:Rq}(ha:a.length≤10000000):bL a a=some 0:=by
 unfold bL
 rw[zy (by omega),lL (by omega),bPs,Int.toNat_natCast,rMa (s:=()) (fun _=>()) rfl (fun k x hk=>by
  have hkl:=(zg.1 hk).1;simp at hkl;rw[eP (by omega)];simp only[bPs,bp,sQ];rfl),bPs,cV,bp,mP]
theorem cmpRows_lt{a b:Rq}(hl:a.length=b.length)(ha:a.length≤10000000)(h:nJ a b):∃z,bL a b=some z∧z<0:=by
 obtain⟨j,x,y,hx,hy,hpre,hlt⟩:=h
 have hja:=(zg.1 hx).1;unfold bL;rw[zy (by omega),lL (by omega),bPs,Int.toNat_natCast]
 obtain⟨fl,hfl,hr⟩:=eX (step:=fun(j1:Nat) (_:Nat) (_:Unit)=>
  ag (getI a (j1:Int)) fun(x17:LVal)=>
  ag (getI b (j1:Int)) fun(x21:LVal)=>
  letP (cC x17 x21) fun x23=>
  cond (x23 !=(0:Int))
   (some (Flow.ret (σ:=Unit) x23))
   (some (.next ()))) (fun k _=>k≤j) (fun r=>r<0) (List.range a.length) 0 () (Nat.zero_le _) (fun k z s hk hI=>by
    have hkl:=(zg.1 hk).1;simp at hkl;simp only[Nat.zero_add]at hI⊢;rw[eP (by omega),eP (by omega)];simp only[bPs,bp];by_cases hkj:k=j
    ·subst hkj;have e1:a[k]=x:=by rw[ze hja]at hx;exact Option.some.inj hx
     have e2:b[k]=y:=by rw[ze (by omega)]at hy;exact Option.some.inj hy
     have hc:=compare_of_lt hlt
     exact⟨.ret (cC x y),by rw[e1,e2,kf (by omega)];rfl,hc⟩
    ·have e:a[k]=b[k]:=by
      have:=hpre k (by omega)
      rw[ze (by omega),ze (by omega)]at this;exact Option.some.inj this
     exact⟨.next (),by rw[e,sQ];rfl,by omega⟩)
 rw[hfl,bPs];cases fl with
 |brk s=>exact absurd hr (by simp)
 |ret r=>exact⟨r,rfl,hr⟩
 |next s=>simp at hr;omega
def Srt(t:LTable)(rows:Rows):Prop:=rows.Pairwise fun p q=>nJ (jn t p) (jn t q)
theorem lf(t:LTable)(p:Rq):(jn t p).length=t.primaryKey.length:=by simp[jn]
theorem srt_of{t:LTable}(hsm:t.primaryKey.length≤10000000){rows:Rows}(h:KeyOrd t rows):Srt t rows:=by
 unfold Srt;rw[List.pairwise_iff_getElem];intro i j hi hj hij;exact keys_lt hsm h (j-i-1) i rows[i] rows[j] (ze hi) (by rw[show i+(j-i-1)+1=j from by omega];exact ze hj)
theorem Srt.ord{t:LTable}(hsm:t.primaryKey.length≤10000000){rows:Rows}(h:Srt t rows):KeyOrd t rows:=by
 intro i p q hp hq;have hi:=(zg.1 hp);have hj:=(zg.1 hq)
 have hlt:nJ (jn t p) (jn t q):=by
  rw[←hi.2,←hj.2]
  exact(List.pairwise_iff_getElem.1 h) i (i+1) hi.1 hj.1 (by omega)
 obtain⟨z,hz,hz0⟩:=cmpRows_lt (by rw[lf,lf]) (by rw[lf];exact hsm) hlt
 exact⟨_,_,z,key_eq hsm p,key_eq hsm q,hz,hz0⟩
theorem clone_rows{rows:Rows}(h:rows.length≤1000000):iR rows=some rows:=by
 unfold iR
 rw[rMa (xs:=rows) (s:=[]) (fun k=>rows.take k) rfl (fun i y hi=>by
  have:=(zg.1 hi).1
  rw[bM (by decide) (by simp;omega),bPs,List.take_add_one,hi];rfl),bPs,bT,List.take_length]
theorem findRow_at{t:LTable}(hsm:t.primaryKey.length≤10000000){A B:Rows}{row:Rq}(h:Srt t (A++row::B))(hl:(A++row::B).length≤1000000):jv t (A++row::B) (jn t row)=some ((A.length:Int),true,A++row::B):=by
 unfold jv;rw[lL (by omega),bPs,Int.toNat_natCast]
 obtain⟨fl,hfl,hr⟩:=eX (step:=fun(j1:Nat) (_:Nat) (s1:Rz)=>
  ag (getI s1 (j1:Int)) fun(x16:Rq)=>
  ag (ck t x16) fun x20=>
  ag (bL x20 (jn t row)) fun x22=>
  cond (decide (x22≥(0:Int)))
   (some (Flow.ret (σ:=Rz) ((j1:Int),(x22==(0:Int)),s1)))
   (some (.next s1))) (fun k s=>k≤A.length∧s=A++row::B) (fun r=>r=((A.length:Int),true,A++row::B)) (List.range (A++row::B).length) 0 (A++row::B) ⟨Nat.zero_le _,rfl⟩ (fun k z s hk hI=>by
    have hkl:=(zg.1 hk).1;simp only[List.length_range]at hkl;simp only[Nat.zero_add]at hI⊢
    obtain⟨hI,rfl⟩:=hI
    rw[eP hkl,bPs,key_eq hsm,bPs];by_cases hkj:k=A.length
    ·subst hkj;have e:(A++row::B)[A.length]=row:=by simp
     rw[e,cmpRows_self (by rw[lf];exact hsm),bPs]
     exact⟨_,rfl,rfl⟩
    ·have hlt:nJ (jn t (A++row::B)[k]) (jn t row):=by
      have hj:A.length<(A++row::B).length:=by simp
      have:=(List.pairwise_iff_getElem.1 h) k A.length hkl hj (by omega)
      rwa [show(A++row::B)[A.length]=row from by simp]at this
     obtain⟨z,hz,hz0⟩:=cmpRows_lt (by rw[lf,lf]) (by rw[lf];exact hsm) hlt
     rw[hz,bPs,zf (by omega)]
     exact⟨_,rfl,by omega,rfl⟩)
 rw[hfl,bPs];cases fl with
 |brk s=>exact absurd hr (by simp)
 |ret r=>rw[hr];rfl
 |next s=>simp at hr;omega
theorem delete_at{t:LTable}(hsm:t.primaryKey.length≤10000000){A B:Rows}{row:Rq}(h:Srt t (A++row::B))(hl:(A++row::B).length≤1000000):iy t (A++row::B) (jn t row)=some (A++B,true):=by
 unfold iy;have hA:A.length+1≤(A++row::B).length:=by simp
 rw[clone_rows hl,bPs,findRow_at hsm h hl,bPs,dY rfl,bPs];simp only[Bool.not_true,zd];rw[bB (by omega) (by omega)];unfold delI;rw[zp ⟨by omega,by omega,by omega⟩,bPs];congr 2;rw[Int.toNat_natCast,show((A.length:Int)+1).toNat=A.length+1 from by omega];simp
theorem uD{v:LVal}(h:et v=true):cA v=0:=by
 obtain⟨k,n,t⟩:=v
 unfold et at h;unfold cA letP;by_cases k0:k=0
 ·subst k0;simp at h;simp[h]
 ·have e0:(k==(0:Int))=false:=by simpa using k0
  simp only[zy k0]at h;simp only[e0,zd];by_cases k1:k=1
  ·subst k1;simp at h
   obtain⟨⟨h1,h2⟩,h3⟩:=h
   subst h1;simp[show ¬n< -1000000000000 from by omega,show ¬1000000000000<n from by omega]
  ·rw[zy k1]at h;by_cases k2:k=2
   ·subst k2;simp at h
    obtain⟨h1,h2|h2⟩:=h<;>subst h1<;>subst h2<;>decide
   ·rw[zy k2]at h;by_cases k3:k=3
    ·subst k3;simp at h
     obtain⟨h1,h2⟩:=h
     subst h1;simp[show ¬(24:Int)<(t.length:Int)from by omega]
    ·rw[zy k3]at h;cases h
theorem conformsRow_of{t:LTable}{row:Rq}(h:dQ t.columns row):dq t row=some 0:=by
 unfold dq
 obtain⟨hl,hf⟩:=h
 rw[gv (by omega),zd,rMa (s:=()) (fun _=>()) rfl (fun k x hk=>by
  have hkl:=(zg.1 hk).1;have hc:k<t.columns.length:=by omega
  obtain⟨h1,h2,h3⟩:=hf k _ x (ze hc) hk
  rw[bp,uD h1,gv rfl,zd,eP hc];simp only[bPs];by_cases hx:x.kind=0
  ·rw[kT hx,zc,bPs,h3 hx,gv hx];rfl
  ·rw[cP hx,zd,bPs,zd,kf hx,zc];rcases h2 with h2|h2
   ·rw[gv h2];rfl
   ·exact absurd h2 hx),bPs,cV]
theorem uI{s:LSchema}(_hsm:nI s){st:List LRelation}(h:InstOk s st):cr s st=some 0:=by
 unfold cr
 obtain⟨hl,ho,ht⟩:=h
 rw[gv (by omega),zd,rMa (s:=()) (fun _=>()) rfl (fun k x hk=>by
  have hkl:=(zg.1 hk).1;have hc:k<s.tables.length:=by omega
  obtain⟨h1,h2,h3⟩:=ht k x _ hk (ze hc)
  have hk2:=ho k x _ hk (ze hc);rw[eP hc,bPs,h1];simp only[beq_self_eq_true,Bool.not_true,zd]
  rw[zf (by omega),zd,rMa (s:=()) (fun _=>()) rfl (fun i row hi=>by
   have hil:=(zg.1 hi).1;rw[conformsRow_of (h3 row (eH hi)),bPs,gv rfl,zd];by_cases h0:i=0
   ·subst h0;rfl
   ·rw[cP (by omega),zd,bB (by omega) (by omega)]
    obtain⟨p,hp⟩:=Tot.get (xs:=x.rows) (i:=(i:Int)-1) (by omega) (by omega)
    have hp2:=(gIs hp).2;rw[show((i:Int)-1).toNat=i-1 from by omega]at hp2
    obtain⟨k1,k2,z,e1,e2,e3,e4⟩:=hk2 (i-1) p row hp2 (by rw[show i-1+1=i from by omega];exact hi)
    rw[hp,bPs,e1,bPs,e2,bPs,e3,bPs,cP (by omega),zd,zf (by omega)];rfl),bPs,thenF_nextS]),bPs,cV]
theorem key_valid{t:LTable}(hok:TableOk t){row:Rq}(h:dQ t.columns row):il t (jn t row)=some 0:=by
 unfold il
 rw[gv (by rw[lf]),zd,rMa (s:=()) (fun _=>()) rfl (fun k x hk=>by
  have hkl:=(zg.1 hk).1;rw[lf]at hkl;have hpk:t.primaryKey[k]?=some t.primaryKey[k]:=ze hkl;generalize t.primaryKey[k]=c at hpk
  obtain⟨c0,c1⟩:=hok.pk c (eH hpk)
  have hnn:=(hok.nn k c hpk).2
  obtain⟨hl,hf⟩:=h
  have hcc:t.columns[c.toNat]?=some t.columns[c.toNat]:=ze (by omega);generalize t.columns[c.toNat]=cl at hcc;have hrr:row[c.toNat]?=some row[c.toNat]:=ze (by omega)
  have hx:x=row[c.toNat]:=by
   unfold jn at hk;rw[List.getElem?_map,hpk]at hk;simp only[Option.map_some,zo]at hk;rw[zp ⟨c0,by omega⟩]at hk;rw[←hk,List.getD_eq_getElem?_getD,hrr];rfl
  rw[←hx]at hrr
  obtain⟨h1,h2,h3⟩:=hf _ cl x hcc hrr
  rw[bp,uD h1,gv rfl,zd,gK hpk,bPs,kP c0 hcc,bPs];have hk0:x.kind≠0:=fun h0=>by rw[hnn cl hcc]at h3;exact absurd (h3 h0) (by decide)
  rw[gv (h2.resolve_right hk0)];rfl),bPs,cV]
def lx(t:LTable)(name:List UInt8)(row:Rq):LChange:=LChange.mk 2 name (jn t row) []
structure IsAt(s:LSchema)(name:List UInt8)(i:Nat)(t:LTable):Prop where
 get:s.tables[i]?=some t
 idx:bf (fun t=>t.name==name) s.tables=(i:Int)
section
variable{s:LSchema}{name:List UInt8}{i:Nat}{t:LTable}
theorem IsAt.find(h:IsAt s name i t):cT s name=some ((i:Int),true):=by
 have e:bf (fun t=>cN t name) s.tables=(i:Int):=h.idx;rw[mZ,e,oI (by omega),zt (by omega)]
theorem IsAt.getI(h:IsAt s name i t):Ab.getI s.tables (i:Int)=some t:=gK h.get
theorem validate_del(h:IsAt s name i t)(hok:TableOk t){row:Rq}(hrow:dQ t.columns row):iA s (lx t name row)=some 0:=by
 unfold iA;rw[show lx t name row=LChange.mk 2 name (jn t row) []from rfl];dsimp only
 rw[show((2:Int)==1)=false from rfl,zd,show((2:Int)==2)=true from rfl,zc,show(decide (((([]:Rq).length:Nat):Int)>0))=false from rfl,zd,
  show((2:Int) !=1)=true from rfl,zc,bPs,show((2:Int) !=2)=false from rfl,zd,h.find,bPs]
 simp only[Bool.not_true,zd];rw[h.getI,bPs,key_valid hok hrow,bPs]
def qC(sA:LSchema)(_:Nat)(x1:LChange)(s1:List LRelation):Option (Flow (List LRelation) ((List LRelation)×Int)):=
 ag (iA sA x1) fun x42=>
 cond (x42 !=(0:Int))
  (some (.ret ([],x42)))
  (ag (cT sA x1.table) fun x50=>
  ag (getI sA.tables x50.1) fun(x56:LTable)=>
  cond (x1.kind==(1:Int))
   (none)
   (ag (getI s1 x50.1) fun(x87:LRelation)=>
   ag (iy x56 x87.rows x1.key) fun x92=>
   ag (getI s1 x50.1) fun(x95:LRelation)=>
   letP (s1.set x50.1.toNat (LRelation.mk x95.table x92.1)) fun(y4:List LRelation)=>
   cond (!x92.2)
    (some (.ret ([],9)))
    (some (.next y4))))
theorem del_step(h:IsAt s name i t)(hok:TableOk t)(hsm:t.primaryKey.length≤10000000){tb:List UInt8}{A B:Rows}{row:Rq}{S:List LRelation}(hS:S[i]?=some ⟨tb,A++row::B⟩)(hs:Srt t (A++row::B))(hl:(A++row::B).length≤24)
  (hrow:dQ t.columns row) (j:Nat):qC s j (lx t name row) S=some (.next (S.set i ⟨tb,A++B⟩)):=by
 unfold qC;rw[validate_del h hok hrow,bPs,gv rfl,zd,show(lx t name row).table=name from rfl,h.find,bPs];simp only;rw[h.getI,bPs,show(lx t name row).kind=2 from rfl,show((2:Int)==1)=false from rfl,zd,gK hS,bPs];simp only;rw[show(lx t name row).key=jn t row from rfl,delete_at hsm hs (by omega),bPs,bPs];simp only[bp,Bool.not_true,zd,Int.toNat_natCast]
theorem del_loop(h:IsAt s name i t)(hok:TableOk t)(hsm:t.primaryKey.length≤10000000)(tb:List UInt8)(p:Rq→Bool)(C:Rows):∀(B A:Rows) (j:Nat) (S:List LRelation),S[i]?=some ⟨tb,A++B++C⟩→Srt t (A++B++C)→(A++B++C).length≤24→(∀row∈B,dQ t.columns row)→
  aG (qC s) j ((B.filter p).map (lx t name)) S=some (.next (S.set i ⟨tb,A++B.filter (fun x=>!p x)++C⟩))
 |[],A,j,S,hS,_,_,_=>by
  have hi:=zg.1 hS;have e:S.set i ⟨tb,A++[]++C⟩=S:=by rw[←hi.2,List.set_getElem_self]
  show some (Flow.next S)=some (.next (S.set i ⟨tb,A++[]++C⟩));rw[e]
 |b::B,A,j,S,hS,hs,hl,hf=>by
  by_cases hp:p b=true
  ·rw[List.filter_cons_of_pos hp,List.map_cons,List.filter_cons_of_neg (by simp[hp])];have hS1:S[i]?=some ⟨tb,A++b::(B++C)⟩:=by rw[hS];simp
   have hs1:Srt t (A++b::(B++C)):=by simpa using hs
   have hl1:(A++b::(B++C)).length≤24:=by simpa using hl
   have h1:=del_step h hok hsm hS1 hs1 hl1 (hf b (by simp)) j;simp only[aG,h1];have hi:=(zg.1 hS).1
   have hsub:(A++B++C).Sublist (A++b::(B++C)):=by
    rw[List.append_assoc];exact List.Sublist.append (List.Sublist.refl A) (List.sublist_cons_self _ _)
   have:=del_loop h hok hsm tb p C B A (j+1) (S.set i ⟨tb,A++(B++C)⟩) (by rw[List.getElem?_set_self hi,List.append_assoc]) (hs1.sublist hsub) (Nat.le_trans hsub.length_le hl1) fun r hr=>hf r (by simp[hr])
   rw[List.set_set]at this;exact this
  ·rw[List.filter_cons_of_neg hp,List.filter_cons_of_pos (by simpa using hp)]
   have:=del_loop h hok hsm tb p C B (A++[b]) j S (by rw[hS];simp) (by simpa using hs) (by simpa using hl) fun r hr=>hf r (by simp[hr])
   rw[this];simp
theorem inst_set{st:List LRelation}(hI:InstOk s st)(hsm:nI s)(ht:s.tables[i]?=some t){r:LRelation}(hr:st[i]?=some r){rows:Rows}(hsub:rows.Sublist r.rows):InstOk s (st.set i ⟨r.table,rows⟩):=by
 obtain⟨hl,ho,htab⟩:=hI
 have hsmt:=hsm t (eH ht)
 have key:∀(k:Nat) (r':LRelation) (t':LTable),(st.set i ⟨r.table,rows⟩)[k]?=some r'→s.tables[k]?=some t'→(k=i∧r'=⟨r.table,rows⟩∧t'=t)∨st[k]?=some r':=by
  intro k r' t' h1 h2;by_cases hk:k=i
  ·subst hk;rw[List.getElem?_set_self (zg.1 hr).1]at h1;rw[ht]at h2;cases h1;cases h2;exact .inl ⟨rfl,rfl,rfl⟩
  ·rw[List.getElem?_set_ne (Ne.symm hk)]at h1;exact .inr h1
 refine⟨by rw[List.length_set];exact hl,fun k r' t' h1 h2=>?_,fun k r' t' h1 h2=>?_⟩
 ·rcases key k r' t' h1 h2 with⟨rfl,rfl,rfl⟩|h
  ·exact Srt.ord hsmt ((srt_of hsmt (ho k r t' hr ht)).sublist hsub)
  ·exact ho k r' t' h h2
 ·rcases key k r' t' h1 h2 with⟨rfl,rfl,rfl⟩|h
  ·obtain⟨a,b,c⟩:=htab k r t' hr ht
   exact⟨a,Nat.le_trans hsub.length_le b,fun row hrow=>c row (hsub.subset hrow)⟩
  ·exact htab k r' t' h h2
theorem clone_st{st:List LRelation}(hI:InstOk s st)(h6:s.tables.length≤6):gO st=some st:=by
 unfold gO;have hl:=hI.len
 rw[rMa (xs:=st) (s:=[]) (fun k=>st.take k) rfl (fun k x hk=>by
  have hkl:=(zg.1 hk).1;have hx:=(hI.tab k x s.tables[k] hk (ze (by omega))).2.1;rw[clone_rows (by omega),bPs,bM (by decide) (by simp;omega),bPs,List.take_add_one,hk];rfl),bPs,bT,List.take_length]
structure Base(s:LSchema)(st:List LRelation):Prop where
 val:eg s=some 0
 six:s.tables.length≤6
 tabs:∀t∈s.tables,TableOk t
 inst:InstOk s st
theorem Base.small{st:List LRelation}(h:Base s st):nI s:=fun t ht=>by have:=(h.tabs t ht).few;omega
theorem Base.set{st:List LRelation}(h:Base s st)(ht:s.tables[i]?=some t){r:LRelation}(hr:st[i]?=some r){rows:Rows}(hsub:rows.Sublist r.rows):Base s (st.set i ⟨r.table,rows⟩):=
 ⟨h.val,h.six,h.tabs,inst_set h.inst h.small ht hr hsub⟩
theorem apply_del{st:List LRelation}(hb:Base s st)(h:IsAt s name i t){tb:List UInt8}{A B C:Rows}(hr:st[i]?=some ⟨tb,A++B++C⟩)(p:Rq→Bool):
  iP s st ((B.filter p).map (lx t name))=some (st.set i ⟨tb,A++B.filter (fun x=>!p x)++C⟩,0):=by
 have hok:=hb.tabs t (eH h.get);have hsm:=hb.small t (eH h.get)
 obtain⟨_,h24,hfit⟩:=hb.inst.tab i _ t hr h.get
 have hsrt:=srt_of hsm (hb.inst.ord i _ t hr h.get);have h24:(A++B++C).length≤24:=h24;have hBl:B.length≤24:=by simp at h24;omega
 have hfl:(B.filter p).length≤24:=Nat.le_trans (List.length_filter_le _ _) hBl
 have e:∀cs,iP s st cs=ag (eg s) fun x19=>cond (x19 !=(0:Int)) (some ([],x19)) (ag (cr s st) fun x25=>cond (x25 !=(0:Int)) (some ([],x25)) (cond (decide ((cs.length:Int)>(24:Int))) (some ([],2))
   (ag (gO st) fun x33=>ag (aG (qC s) 0 cs x33) fun fl1=>fl1.thenR fun(s1:List LRelation)=>some (s1,0)))):=fun _=>rfl
 rw[e,hb.val,bPs,gv rfl,zd,uI hb.small hb.inst,bPs,gv rfl,zd,zf (by rw[zl];omega),zd,clone_st hb.inst hb.six,bPs,
  del_loop h hok hsm tb p C B A 0 st hr hsrt h24 fun row hrow=>hfit row (by simp[hrow]),bPs,cV]
theorem apply_one{st:List LRelation}(hb:Base s st)(h:IsAt s name i t){tb:List UInt8}{A C:Rows}{row:Rq}(hr:st[i]?=some ⟨tb,A++row::C⟩):
  iP s st [lx t name row]=some (st.set i ⟨tb,A++C⟩,0):=by
 have:=apply_del hb h (tb:=tb) (B:=[row]) (A:=A) (C:=C) (by rw[hr];simp) fun _=>true
 simpa using this
def gu(name:List UInt8)(p:LExpr):LProcedureStatement:=LProcedureStatement.mk 6 0 [] name [] [] [p] [] [] []
def fw(s:LSchema)(st:List LRelation)(ch:List LChange)(left:Int):LProcedureRun:=LProcedureRun.mk s st [] [] [] ch [] left false
def isP(t:LTable)(p:LExpr)(row:Rq):Bool:=gU (cn (LEnv.mk t.columns row [] [] []) p)
theorem eval_run(st:List LRelation)(ch:List LChange)(left:Int)(cols:List LCol)(row:Rq)(e:LExpr):ie (fw s st ch left) cols row e=some (cn (LEnv.mk cols row [] [] []) e,fw s st ch left):=by
 unfold ie;simp only[fw,aG,bPs,bT,bp]
theorem write_del{st:List LRelation}(hb:Base s st)(h:IsAt s name i t){tb:List UInt8}{A C:Rows}{row:Rq}(hr:st[i]?=some ⟨tb,A++row::C⟩){ch:List LChange}(hch:ch.length<24)(left:Int):
  gX (fw s st ch left) (lx t name row)=some (0,fw s (st.set i ⟨tb,A++C⟩) (ch++[lx t name row]) left):=by
 unfold gX;simp only[fw];rw[cP (by omega),zd,apply_one hb h hr,bPs];simp only;rw[gv rfl,zd,bM (by decide) (by simp;omega),bPs]
theorem key_loop(hok:TableOk t){row:Rq}(hrow:row.length=t.columns.length):
  aG (σ:=Rq) (ρ:=Empty) (fun(_:Nat) (x4:Int) (s4:Rq)=>ag (getI row x4) fun(x69:LVal)=>ag (db 32 s4 ([x69]:Rq)) fun(x72:Rq)=>some (.next x72)) 0 t.primaryKey []=some (.next (jn t row)):=by
 rw[mY (fun k:Int=>if 0≤k∧k<row.length then row.getD k.toNat (LVal.mk 0 0 [])else LVal.mk 0 0 []) (fun k x hk=>by
  have hkl:=(zg.1 hk).1
  have:=hok.few
  obtain⟨h0,h1⟩:=hok.pk x (eH hk)
  haveI:Inhabited LVal:=⟨LVal.mk 0 0 []⟩
  obtain⟨v,hv,hv'⟩:=getI_lt (xs:=row) h0 (by omega)
  rw[hv,bPs,bM (by decide) (by simp;omega),bPs,zp ⟨h0,by omega⟩];rw[show row.getD x.toNat (LVal.mk 0 0 [])=v from by rw[List.getD_eq_getElem?_getD,hv'];rfl])]
 rfl
theorem rows_del{st:List LRelation}(hb:Base s st)(h:IsAt s name i t){r:LRelation}(hr:st[i]?=some r)(p:LExpr)(left:Int):
  it (fw s st [] left) (gu name p)=some (0,fw s (st.set i ⟨r.table,r.rows.filter fun x=>!isP t p x⟩) ((r.rows.filter (isP t p)).map (lx t name)) left):=by
 have hok:=hb.tabs t (eH h.get)
 obtain⟨hi1,hi2⟩:=zg.1 hr
 obtain⟨_,h24,hfit⟩:=hb.inst.tab i r t hr h.get
 unfold it;rw[qM,show bf (fun a0=>fD a0 (gu name p)) (fw s st [] left).s.tables=(i:Int)from h.idx,bPs];rw[show Ab.getI (fw s st [] left).s.tables (i:Int)=some t from h.getI,bPs,show Ab.getI (fw s st [] left).st (i:Int)=some r from gK hr,bPs]
 let S:Nat→LProcedureRun:=fun k=>fw s (st.set i ⟨r.table,(r.rows.take k).filter (fun x=>!isP t p x)++r.rows.drop k⟩) (((r.rows.take k).filter (isP t p)).map (lx t name)) left
 rw[rMa (xs:=r.rows) (s:=fw s st [] left) S (by
  show fw s (st.set i ⟨r.table,r.rows⟩) [] left=fw s st [] left;rw[show(⟨r.table,r.rows⟩:LRelation)=st[i]from hi2.symm,List.set_getElem_self]) (fun k x hk=>by
  have hkl:=(zg.1 hk).1;have hx:=hfit x (eH hk);have hdrop:r.rows.drop k=x::r.rows.drop (k+1):=by rw[List.drop_eq_getElem_cons hkl,(zg.1 hk).2]
  have htake:r.rows.take (k+1)=r.rows.take k++[x]:=by rw[List.take_add_one,hk];rfl
  rw[show Ab.getI (gu name p).whereF (0:Int)=some p from rfl,bPs,eval_run,bPs];simp only[bp];rw[show gU (cn (LEnv.mk t.columns x [] [] []) p)=isP t p x from rfl];cases hp:isP t p x with
  |false=>
   simp only[Bool.not_false,zc,S];rw[hdrop,htake,List.filter_append,List.filter_append,List.filter_cons_of_pos (by simp[hp]),List.filter_cons_of_neg (by simp[hp])];simp
  |true=>
   simp only[Bool.not_true,zd];rw[key_loop hok hx.1,bPs,bT,show((gu name p).kind==(5:Int))=false from rfl,zd]
   have hsub:((r.rows.take k).filter (fun x=>!isP t p x)++r.rows.drop k).Sublist r.rows:=by
    have:=List.Sublist.append (List.filter_sublist (p:=fun x=>!isP t p x) (l:=r.rows.take k)) (List.Sublist.refl (r.rows.drop k))
    rwa [List.take_append_drop]at this
   have hb2:=hb.set h.get hr hsub
   have hch:(((r.rows.take k).filter (isP t p)).map (lx t name)).length<24:=by
    rw[zl]
    have:=List.length_filter_le (isP t p) (r.rows.take k)
    rw[List.length_take]at this;omega
   have hget:(st.set i ⟨r.table,(r.rows.take k).filter (fun x=>!isP t p x)++r.rows.drop k⟩)[i]?=some ⟨r.table,(r.rows.take k).filter (fun x=>!isP t p x)++x::r.rows.drop (k+1)⟩:=by
    rw[List.getElem?_set_self hi1,hdrop]
   rw[show LChange.mk 2 (gu name p).table (jn t x) []=lx t name x from rfl,write_del hb2 h hget hch left,bPs];simp only[bne_self_eq_false,zd,S];rw[htake,List.filter_append,List.filter_append,List.filter_cons_of_neg (by simp[hp]),List.filter_cons_of_pos (by simp[hp]),List.set_set];simp),bPs,cV]
 simp only[S];rw[List.take_length,List.drop_length,List.append_nil]
theorem body_del{st:List LRelation}(hb:Base s st)(h:IsAt s name i t){r:LRelation}(hr:st[i]?=some r)(p:LExpr):
  hZ (fw s st [] 400) [gu name p]=some (0,fw s (st.set i ⟨r.table,r.rows.filter fun x=>!isP t p x⟩) ((r.rows.filter (isP t p)).map (lx t name)) 399):=by
 have hw:IntKind.i64.wrap ((400:Int)-1)=399:=by decide
 have hs:ii (fw s st [] 399) (gu name p)=some (0,fw s (st.set i ⟨r.table,r.rows.filter fun x=>!isP t p x⟩) ((r.rows.filter (isP t p)).map (lx t name)) 399):=by
  unfold ii
  rw[show(gu name p).kind=6 from rfl,show((6:Int)==1)=false from rfl,zd,show((6:Int)==2)=false from rfl,zd,bp,show(cond ((6:Int)==3) ((6:Int)==3) ((6:Int)==7))=false from rfl,zd,
   show((6:Int)==4)=false from rfl,zd,bp,show(cond ((6:Int)==5) ((6:Int)==5) ((6:Int)==6))=true from rfl,zc,rows_del hb h hr p 399,bPs]
 unfold hZ;simp only[aG]
 rw[show(fw s st [] 400).stopped=false from rfl,zd,show(fw s st [] 400).left=400 from rfl,hw,show decide ((399:Int)<0)=false from rfl,zd,
  show LProcedureRun.mk (fw s st [] 400).s (fw s st [] 400).st (fw s st [] 400).args (fw s st [] 400).vars (fw s st [] 400).vals (fw s st [] 400).changes (fw s st [] 400).results 399 false=fw s st [] 399 from rfl,hs,bPs]
 simp only[bne_self_eq_false,zd,bPs,cV]
end
theorem shapeP1(l:List Int)(s:LProcedureStatement):bV l s=some (l.any fun x=>s.kind==x):=by
 unfold bV;rw[containsI,bPs]
theorem shapeP_tot(s:LProcedureStatement):Tot (ju s):=by
 unfold ju;simp only[shapeP1,bPs];refine Tot.letP ?_
 repeat' (first|exact Tot.mk|refine Tot.cond (fun _=>?_) (fun _=>?_)|refine Tot.bind ?_ (fun _ _=>?_))
theorem given_tot{c:LProcedureChecker}{q:LQuery}(h:(da q).length≤10000000):Tot (fI c q):=by
 unfold fI;rw[kinds_ok h,bPs];refine Tot.bind (Tot.range _ _ _ fun k x s hk=>?_) fun fl _=>Tot.thenR fun _ _=>Tot.mk
 refine Tot.cond (fun _=>Tot.cond (fun _=>Tot.mk) fun h=>?_) fun _=>Tot.mk
 refine Tot.bind (Tot.get (by omega) (by simpa using h)) fun _ _=>Tot.cond (fun _=>Tot.mk) fun _=>Tot.mk
theorem pred_tot(c:LProcedureChecker)(cols vars:List LCol)(e:LExpr):Tot (eJ c cols vars e):=by
 have h:Tot (ep c cols vars e):=by
  unfold ep;refine Tot.letP (Tot.cond (fun _=>Tot.mk) fun _=>Tot.bind (given_tot ?_) fun _ _=>Tot.cond (fun _=>Tot.mk) fun _=>Tot.mk);rw[kr];simp[LQuery.inputs]
 unfold eJ;exact Tot.bind h fun _ _=>Tot.cond (fun _=>Tot.cond (fun _=>Tot.cond (fun _=>Tot.mk) fun _=>Tot.mk) fun _=>Tot.mk) fun _=>Tot.mk
theorem stmts1(name:List UInt8)(p:LExpr):gF [gu name p]=some [gu name p]:=by
 unfold gF;refine oq 2 fun m hm=>?_
 obtain⟨k,rfl⟩:∃k,m=k+2:=⟨m-2,by omega⟩
 have h0:fE (k+1) []=some []:=rfl;show gE (fun b0=>fE (k+1) b0) [gu name p]=_;unfold gE;simp only[aG];rw[bM (by decide) (by simp),bPs,show(gu name p).body=[]from rfl,show(gu name p).elseF=[]from rfl,h0,bPs,bM (by decide) (by simp),bPs,bPs,bM (by decide) (by simp)];rfl
theorem depth1(name:List UInt8)(p:LExpr):kF [gu name p]=some 1:=by
 unfold kF;refine oq 2 fun m hm=>?_
 obtain⟨k,rfl⟩:∃k,m=k+2:=⟨m-2,by omega⟩
 have h0:iz (k+1) []=some 0:=rfl;show jt (fun b0=>iz (k+1) b0) [gu name p]=_;unfold jt;simp only[aG];rw[show(gu name p).body=[]from rfl,show(gu name p).elseF=[]from rfl,h0,bPs,bPs];decide
theorem isAt_of{s:LSchema}{name:List UInt8}(h:0≤bf (fun t:LTable=>t.name==name) s.tables):∃i t,IsAt s name i t:=by
 obtain⟨t,ht,_⟩:=lK h
 exact⟨_,t,ht,by omega⟩
theorem check_del(s:LSchema)(name:List UInt8)(p:LExpr):∃e,fF s (LProcedureProcedure.mk [] [gu name p])=some e∧(e=0→∃i t,IsAt s name i t):=by
 unfold fF;simp only
 rw[stmts1,bPs,show decide (((([gu name p]:List LProcedureStatement).length:Nat):Int)>40)=false from rfl,zd,depth1,bPs,show decide ((1:Int)>6)=false from rfl,zd,bPs,
  show decide (((([]:List Int).length:Nat):Int)>8)=false from rfl,zd]
 simp only[aG,bPs,cV];unfold iu
 obtain⟨b,hsh⟩:=shapeP_tot (gu name p)
 simp only[aG,hsh,bPs];cases b with
 |false=>exact⟨3,rfl,fun h=>by omega⟩
 |true=>
  simp only[Bool.not_true,zd]
  have hst:∃e,gc (LProcedureChecker.mk s []) [] (gu name p)=some ([],e)∧(e=0→∃i t,IsAt s name i t):=by
   unfold gc
   rw[show(gu name p).kind=6 from rfl,show((6:Int)==1)=false from rfl,zd,show((6:Int)==2)=false from rfl,zd,bp,show(cond ((6:Int)==3) ((6:Int)==3) ((6:Int)==7))=false from rfl,zd,
    bp,show(cond ((6:Int)==4) ((6:Int)==4) (cond ((6:Int)==5) ((6:Int)==5) ((6:Int)==6)))=true from rfl,zc]
   unfold hM hJ;rw[qM,bPs,show(fun a=>ef a (gu name p).table)=(fun t:LTable=>t.name==name)from rfl];simp only;by_cases h0:0≤bf (fun t:LTable=>t.name==name) s.tables
   ·obtain⟨t,ht,_⟩:=lK h0
    rw[zf (by omega),zd,kP h0 ht,bPs,bPs];simp only[Bool.not_true,zd]
    obtain⟨e,he⟩:=pred_tot (LProcedureChecker.mk s []) t.columns [] p
    rw[show((gu name p).kind !=(4:Int))=true from rfl,zc,show getI (gu name p).whereF (0:Int)=some p from rfl,bPs,he,bPs];by_cases e0:e=0
    ·rw[gv e0,zd,bPs,cV,show((gu name p).kind==(4:Int))=false from rfl,zd,bPs,show(gu name p).exprs=[]from rfl]
     exact⟨0,rfl,fun _=>isAt_of h0⟩
    ·rw[kf e0,zc]
     exact⟨e,rfl,fun h=>absurd h e0⟩
   ·rw[zt (by omega),zc,bPs]
    exact⟨4,rfl,fun h=>by omega⟩
  obtain⟨e,he,hi⟩:=hst
  refine⟨e,?_,hi⟩
  rw[he,bPs];by_cases e0:e=0
  ·subst e0;rfl
  ·simp only[kf e0,zc,bPs];rfl
theorem eqRows_self(x:Rq):bW x x=some true:=by
 unfold bW
 rw[gv rfl,zd,rMa (s:=()) (fun _=>()) rfl (fun k v hk=>by
  rw[gK hk,bPs];simp),bPs,cV]
theorem eqRel_self(x:Rows):jM x x=some true:=by
 unfold jM cv iY
 rw[gv rfl,zd,rMa (s:=()) (fun _=>()) rfl (fun k v hk=>by
  rw[gK hk,bPs];dsimp only;rw[eqRows_self,bPs,bPs];rfl),bPs,cV,bPs]
theorem eqInst_self(x:List LRelation):jL x x=some true:=by
 unfold jL bO je
 rw[gv rfl,zd,rMa (s:=()) (fun _=>()) rfl (fun k v hk=>by
  rw[gK hk,bPs];dsimp only;rw[beq_self_eq_true,zc,eqRel_self,bPs,bPs];rfl),bPs,cV,bPs]
def kG(name:List UInt8):LQuery:=LQuery.mk 1 name [] [] [] [] 0 0 []
def notE(p:LExpr):LExpr:=LExpr.mk 5 [105,102] 0 (LVal.mk 0 0 []) [p,LExpr.mk 1 [] 0 (gm false) [],LExpr.mk 1 [] 0 (gm true) []]
def pG(name:List UInt8)(p:LExpr):LQuery:=LQuery.mk 2 [] [] [notE p] [] [] 0 0 [kG name]
theorem notE_eval(v:LEnv)(p:LExpr):gU (cn v (notE p))= !gU (cn v p):=by
 rw[ot,show(notE p).kind=5 from rfl,show((5:Int)==1)=false from rfl,show((5:Int)==2)=false from rfl,show((5:Int)==3)=false from rfl,show((5:Int)==4)=false from rfl,show((5:Int)==5)=true from rfl,
  show(notE p).name=[105,102]from rfl,show(notE p).args=[p,LExpr.mk 1 [] 0 (gm false) [],LExpr.mk 1 [] 0 (gm true) []]from rfl]
 simp only[List.map_cons,List.map_nil];have e1:∀b,cn v (LExpr.mk 1 [] 0 (gm b) [])=gm b:=fun b=>by rw[ot];rfl
 rw[e1,e1];generalize cn v p=x;show gU (bD [105,102] [x,gm false,gm true])=_
 have e2:bD [105,102] [x,gm false,gm true]=if gU x then gm false else gm true:=by
  unfold bD;rw[show bQ [105,102]=some 3 from rfl];rfl
 rw[e2];cases gU x<;>rfl
theorem uA{α:Type}{p:α→Bool}{l:List α}{i:Nat}{x:α}(h:bf p l=(i:Int))(hx:l[i]?=some x):l.find? p=some x:=by
 rcases find_idx p l with⟨_,h2⟩|⟨y,h1,_,h3⟩
 ·omega
 ·rw[h,Int.toNat_natCast,hx]at h3;cases h3;exact h1
theorem idx_map{α β:Type}{p:α→Bool}{q:β→Bool}:∀{l:List α} {m:List β},l.length=m.length→(∀(k:Nat) (x:α) (y:β),l[k]?=some x→m[k]?=some y→p x=q y)→bf p l=bf q m
 |[],[],_,_=>rfl
 |a::l,b::m,hl,h=>by
  have h0:=h 0 a b rfl rfl;have ih:=idx_map (p:=p) (q:=q) (l:=l) (m:=m) (by simpa using hl) fun k x y hx hy=>h (k+1) x y (by simpa using hx) (by simpa using hy)
  unfold bf at ih⊢;rw[List.findIdx?_cons,List.findIdx?_cons,h0];cases hq:q b with
  |true=>rfl
  |false=>
   revert ih;cases List.findIdx? p l<;>cases List.findIdx? q m<;>simp<;>omega
 |[],_::_,hl,_=>by simp at hl
 |_::_,[],hl,_=>by simp at hl
theorem stay_rows{s:LSchema}{st:List LRelation}{name:List UInt8}{i:Nat}{t:LTable}(hI:InstOk s st)(h:IsAt s name i t){r:LRelation}(hr:st[i]?=some r){p:LExpr}(hq:Runs s st (pG name p) []):
  bq (mC s st []) (pG name p)=r.rows.filter fun x=>!isP t p x:=by
 have hsc:bq (mC s st []) (kG name)=r.rows:=by
  rw[ek];unfold dN;rw[zp (show(kG name).kind=1 from rfl)]
  have hidx:bf (fun x:LRelation=>x.table==name) st=(i:Int):=by
   rw[←h.idx];refine idx_map hI.len fun k x y hx hy=>?_
   rw[(hI.tab k x y hx hy).1]
  have e:(mC s st []).st.find? (fun x=>x.table==(kG name).table)=some r:=uA hidx hr;rw[e]
 have hcs:bu (mC s st []) (kG name)=t.columns:=by
  have hsub:=hq.sub (x:=kG name) (by show kG name∈[kG name];simp);have h4:=(oi hsub.cols).2.2.2.1;unfold bu;have h5:(fq ⟨(mC s st []).s,(mC s st []).vars⟩ (kG name)).1=(fq ⟨s,[]⟩ (kG name)).1:=rfl;rw[h5,h4];unfold ja;rw[zp (show(kG name).kind=1 from rfl)];have e:(LChecker.mk s []).s.tables.find? (fun t=>t.name==(kG name).table)=some t:=uA h.idx h.get;rw[e]
 rw[ek];unfold dN;rw[show(pG name p).kind=2 from rfl,zy (show ¬(2:Int)=1 by decide),zy (show ¬((2:Int)=4∨(2:Int)=5) by decide),zy (show ¬(2:Int)=6 by decide),zy (show ¬(2:Int)=7 by decide),zp rfl];have e1:(pG name p).inputs=[kG name]:=rfl;rw[e1];simp only[List.map_cons,List.map_nil,List.getD_cons_zero];rw[hsc,hcs];congr 1;funext x;unfold io isP;exact notE_eval _ p
theorem run_del{s:LSchema}{st:List LRelation}(hb:Base s st){name:List UInt8}{p:LExpr}(hck:fF s (LProcedureProcedure.mk [] [gu name p])=some 0){i:Nat}{t:LTable}(h:IsAt s name i t){r:LRelation}(hr:st[i]?=some r):
  kv s st (LProcedureProcedure.mk [] [gu name p]) []=some ((r.rows.filter (isP t p)).map (lx t name),[],0):=by
 unfold kv;rw[hck,bPs,gv rfl,zd];simp only;rw[show decide (((([]:Rq).length:Nat):Int)<((([]:List Int).length:Nat):Int))=false from rfl,zd];simp only[aG,bPs,cV];rw[uI hb.small hb.inst,bPs,gv rfl,zd,show mX ([]:Rq) 0 ((([]:List Int).length:Nat):Int)=some []from rfl,bPs]
 have:=body_del hb h hr p
 unfold fw at this;rw[this,bPs];rfl
theorem deleteRows_law{s:LSchema}(hpk:∀t∈s.tables,t.primaryKey.length≤2^60)(st:List LRelation)(name:List UInt8)(p:LExpr):cX s st name p=some true:=by
 unfold cX;rw[bp,show(!sampleV)=false from rfl,zd,bp];by_cases hn:jc p 100<0
 ·rw[zt hn];rfl
 rw[zf hn,zd];have hS:LProcedureStatement.mk 6 0 [] name [] [] [p] [] [] []=gu name p:=rfl;rw[hS]
 have hcall:∃b,ip s st (LProcedureProcedure.mk [] [gu name p])=some b∧(b=true→Base s st∧fF s (LProcedureProcedure.mk [] [gu name p])=some 0∧∃i t,IsAt s name i t):=by
  unfold ip;simp only;rw[stmts1,bPs,show decide (((([gu name p]:List LProcedureStatement).length:Nat):Int)≤40)=true from rfl,zc]
  obtain⟨v,hv,hvok⟩:=sP hpk
  rw[hv,bPs];by_cases v0:v=0
  ·rw[kT v0,zc]
   obtain⟨h6,hT⟩:=hvok v0
   have hsm:nI s:=fun t ht=>by have:=(hT t ht).few;omega
   obtain⟨f,hf,hfok⟩:=conforms hsm st
   rw[hf,bPs];by_cases f0:f=0
   ·rw[kT f0,zc]
    obtain⟨e,he,hat⟩:=check_del s name p
    rw[he,bPs]
    refine⟨e==0,rfl,fun h0=>?_⟩
    have e0:e=0:=by simpa using h0
    exact⟨⟨by rw[hv,v0],h6,hT,hfok f0⟩,by rw[e0],hat e0⟩
   ·rw[cP f0];exact⟨false,rfl,fun h=>by cases h⟩
  ·rw[cP v0];exact⟨false,rfl,fun h=>by cases h⟩
 obtain⟨b,hb,hbt⟩:=hcall
 rw[hb,bPs,bPs];cases b with
 |false=>rfl
 |true=>
  obtain⟨hB,hck,i,t,hat⟩:=hbt rfl
  have hi:i<st.length:=by
   have:=(zg.1 hat.get).1
   have:=hB.inst.len
   omega
  have hr:st[i]?=some st[i]:=ze hi;generalize st[i]=r at hr;have hr2:st[i]?=some ⟨r.table,[]++r.rows++[]⟩:=by rw[hr];simp
  simp only[Bool.not_true,zd];rw[run_del hB hck hat hr,bPs];simp only;rw[apply_del hB hat hr2 (isP t p),bPs];simp only[List.nil_append,List.append_nil];rw[gv rfl,bp,zd,zd,bp,bp,bp];have hQ:iZ (LExpr.mk 5 [105,102] 0 (LVal.mk 0 0 []) [p,(LExpr.mk 1 [] 0 (gm false) []),(LExpr.mk 1 [] 0 (gm true) [])]) (LQuery.mk 1 name [] [] [] [] 0 0 [])=pG name p:=rfl;rw[hQ]
  have hsq:SmallQ (pG name p):=by
   have e:da (pG name p)=[pG name p,kG name]:=by
    rw[kr,show(pG name p).inputs=[kG name]from rfl];simp only[List.map_cons,List.map_nil,List.flatten_cons,List.flatten_nil];rw[kr,show(kG name).inputs=[]from rfl];rfl
   refine⟨by rw[e];simp,fun x hx=>?_⟩
   rw[e]at hx;rcases List.mem_cons.1 hx with rfl|hx
   ·exact⟨by show [notE p].length≤_;simp,by show([]:List LAggregateCall).length≤_;simp⟩
   ·rw[List.mem_singleton.1 hx]
    exact⟨by show([]:List LExpr).length≤_;simp,by show([]:List LAggregateCall).length≤_;simp⟩
  obtain⟨b2,hb2,hruns⟩:=runs_tot hB.small st hsq []
  rw[hb2,bPs];cases b2 with
  |false=>rfl
  |true=>
   have hrn:=hruns rfl;simp only[Bool.not_true,zd];rw[evaluate_eq hB.small hsq hrn,bPs,hat.find,bPs];simp only[Bool.not_true,zd,bp];rw[clone_st hB.inst hB.six,bPs,gK hr,bPs,Int.toNat_natCast,stay_rows hB.inst hat hr hrn,eqInst_self,bPs]
theorem fitsR_mem{r:List PV}:∀{rs:List (List PV)},qH tt rs→r∈rs→kd tt r
 |[],_,h=>by simp at h
 |x::rs,hf,h=>by
  simp only[qH]at hf;rcases List.mem_cons.1 h with rfl|h
  ·exact hf.1
  ·exact fitsR_mem hf.2 h
theorem pk_of{s:LSchema}{ps:List PV}(h:kd tt (.agg (bJ s)::ps)):∀t∈s.tables,t.primaryKey.length≤2^60:=by
 intro t ht;simp only[kd]at h;have h1:=h.1;simp only[PV.fits,bJ,kd]at h1;have h3:=fitsR_mem h1.1.2.2 (List.mem_map_of_mem ht);simp only[bc,kd,PV.fits]at h3
 obtain⟨i,h4,_,h5⟩:∃i,tt.get 3=some i∧i.size=1∧i.bytes=8:=⟨_,rfl,rfl,rfl⟩
 have h6:=h3.2.2.1.2.1 i h4;rw[zl,h5]at h6;omega
theorem own_knob:ownKnob Tryz.prog.godebug=none:=by kernel_rfl
theorem laid_out:laidOutB Tryz.prog=true:=by kernel_rfl
def lawTypes:List TypeId:=[26,22,95,9,61,93,3,4,29,23,145,24,151,69,28,86,62,54,71,37]
theorem lawTypes_ok:lawTypes.all (okT Tryz.prog lawTypes)=true:=by kernel_rfl
theorem lawTypes_info:∀t∈lawTypes,∃i,Tryz.prog.info? t=some i∧i.bytes=Tryz.prog.bytesOf t∧i.size=Tryz.prog.cellsOf t:=infos_of (by kernel_rfl)
theorem sh9{n:Nat}{pvs:List PV}(h:Sh Tryz.prog n 9 pvs):∃v:List UInt8,pvs=[.str v]:=by
 cases n with
 |zero=>simp[Sh]at h
 |succ n=>simp only[Sh,Tryz.underlying9]at h;obtain⟨m,rfl,_⟩:=h;exact⟨m,rfl⟩
theorem sh3{n:Nat}{pvs:List PV}(h:Sh Tryz.prog n 3 pvs):∃v:Int,pvs=[al v]:=by
 cases n with
 |zero=>simp[Sh]at h
 |succ n=>simp only[Sh,Tryz.underlying3]at h;obtain⟨m,rfl,_⟩:=h;exact⟨m,rfl⟩
theorem sh4{n:Nat}{pvs:List PV}(h:Sh Tryz.prog n 4 pvs):∃v:Bool,pvs=[aB v]:=by
 cases n with
 |zero=>simp[Sh]at h
 |succ n=>simp only[Sh,Tryz.underlying4]at h;obtain⟨m,rfl⟩:=h;exact⟨m,rfl⟩
theorem sh93{n:Nat}{pvs:List PV}(h:Sh Tryz.prog n 93 pvs):∃v:LCol,pvs=aF v:=by
 cases n with
 |zero=>simp[Sh]at h
 |succ n=>
  simp only[Sh,Tryz.underlying93,List.map_cons,List.map_nil,iN]at h
  obtain⟨p0,r0,rfl,h0,p1,r1,rfl,h1,p2,r2,rfl,h2,rfl⟩:=h
  obtain⟨v0,rfl⟩:=sh9 h0
  obtain⟨v1,rfl⟩:=sh3 h1
  obtain⟨v2,rfl⟩:=sh4 h2
  exact⟨LCol.mk v0 v1 v2,rfl⟩
theorem sh61{n:Nat}{pvs:List PV}(h:Sh Tryz.prog n 61 pvs):∃v:List LCol,pvs=[.list 93 (v.map aF)]:=by
 cases n with
 |zero=>simp[Sh]at h
 |succ n=>
  simp only[Sh,Tryz.underlying61]at h
  obtain⟨rows,rfl,hr⟩:=h
  obtain⟨xs,rfl⟩:=mj (f:=aF) (fun r hq=>sh93 (hr r hq))
  exact⟨xs,rfl⟩
theorem sh29{n:Nat}{pvs:List PV}(h:Sh Tryz.prog n 29 pvs):∃v:List Int,pvs=[.list 3 (v.map bH)]:=by
 cases n with
 |zero=>simp[Sh]at h
 |succ n=>
  simp only[Sh,Tryz.underlying29]at h
  obtain⟨rows,rfl,hr⟩:=h
  obtain⟨xs,rfl⟩:=mj (f:=bH) (fun r hq=>let⟨v,e⟩:=sh3 (hr r hq);⟨v,e⟩)
  exact⟨xs,rfl⟩
theorem sh95{n:Nat}{pvs:List PV}(h:Sh Tryz.prog n 95 pvs):∃v:LTable,pvs=bc v:=by
 cases n with
 |zero=>simp[Sh]at h
 |succ n=>
  simp only[Sh,Tryz.underlying95,List.map_cons,List.map_nil,iN]at h
  obtain⟨p0,r0,rfl,h0,p1,r1,rfl,h1,p2,r2,rfl,h2,rfl⟩:=h
  obtain⟨v0,rfl⟩:=sh9 h0
  obtain⟨v1,rfl⟩:=sh61 h1
  obtain⟨v2,rfl⟩:=sh29 h2
  exact⟨LTable.mk v0 v1 v2,rfl⟩
theorem sh22{n:Nat}{pvs:List PV}(h:Sh Tryz.prog n 22 pvs):∃v:List LTable,pvs=[.list 95 (v.map bc)]:=by
 cases n with
 |zero=>simp[Sh]at h
 |succ n=>
  simp only[Sh,Tryz.underlying22]at h
  obtain⟨rows,rfl,hr⟩:=h
  obtain⟨xs,rfl⟩:=mj (f:=bc) (fun r hq=>sh95 (hr r hq))
  exact⟨xs,rfl⟩
theorem sh145{n:Nat}{pvs:List PV}(h:Sh Tryz.prog n 145 pvs):∃v:LForeignKey,pvs=ct v:=by
 cases n with
 |zero=>simp[Sh]at h
 |succ n=>
  simp only[Sh,Tryz.underlying145,List.map_cons,List.map_nil,iN]at h
  obtain⟨p0,r0,rfl,h0,p1,r1,rfl,h1,p2,r2,rfl,h2,rfl⟩:=h
  obtain⟨v0,rfl⟩:=sh9 h0
  obtain⟨v1,rfl⟩:=sh29 h1
  obtain⟨v2,rfl⟩:=sh9 h2
  exact⟨LForeignKey.mk v0 v1 v2,rfl⟩
theorem sh23{n:Nat}{pvs:List PV}(h:Sh Tryz.prog n 23 pvs):∃v:List LForeignKey,pvs=[.list 145 (v.map ct)]:=by
 cases n with
 |zero=>simp[Sh]at h
 |succ n=>
  simp only[Sh,Tryz.underlying23]at h
  obtain⟨rows,rfl,hr⟩:=h
  obtain⟨xs,rfl⟩:=mj (f:=ct) (fun r hq=>sh145 (hr r hq))
  exact⟨xs,rfl⟩
theorem sh69{n:Nat}{pvs:List PV}(h:Sh Tryz.prog n 69 pvs):∃v:LVal,pvs=ae v:=by
 cases n with
 |zero=>simp[Sh]at h
 |succ n=>
  simp only[Sh,Tryz.underlying69,List.map_cons,List.map_nil,iN]at h
  obtain⟨p0,r0,rfl,h0,p1,r1,rfl,h1,p2,r2,rfl,h2,rfl⟩:=h
  obtain⟨v0,rfl⟩:=sh3 h0
  obtain⟨v1,rfl⟩:=sh3 h1
  obtain⟨v2,rfl⟩:=sh9 h2
  exact⟨LVal.mk v0 v1 v2,rfl⟩
theorem sh151{n:Nat}{pvs:List PV}(h:Sh Tryz.prog n 151 pvs):∃v:LConstraint,pvs=cF v:=by
 cases n with
 |zero=>simp[Sh]at h
 |succ n=>
  simp only[Sh,Tryz.underlying151,List.map_cons,List.map_nil,iN]at h
  obtain⟨p0,r0,rfl,h0,p1,r1,rfl,h1,p2,r2,rfl,h2,p3,r3,rfl,h3,p4,r4,rfl,h4,rfl⟩:=h
  obtain⟨v0,rfl⟩:=sh9 h0
  obtain⟨v1,rfl⟩:=sh3 h1
  obtain⟨v2,rfl⟩:=sh9 h2
  obtain⟨v3,rfl⟩:=sh3 h3
  obtain⟨v4,rfl⟩:=sh69 h4
  exact⟨LConstraint.mk v0 v1 v2 v3 v4,rfl⟩
theorem sh24{n:Nat}{pvs:List PV}(h:Sh Tryz.prog n 24 pvs):∃v:List LConstraint,pvs=[.list 151 (v.map cF)]:=by
 cases n with
 |zero=>simp[Sh]at h
 |succ n=>
  simp only[Sh,Tryz.underlying24]at h
  obtain⟨rows,rfl,hr⟩:=h
  obtain⟨xs,rfl⟩:=mj (f:=cF) (fun r hq=>sh151 (hr r hq))
  exact⟨xs,rfl⟩
theorem sh26{n:Nat}{pvs:List PV}(h:Sh Tryz.prog n 26 pvs):∃v:LSchema,pvs=bJ v:=by
 cases n with
 |zero=>simp[Sh]at h
 |succ n=>
  simp only[Sh,Tryz.underlying26,List.map_cons,List.map_nil,iN]at h
  obtain⟨p0,r0,rfl,h0,p1,r1,rfl,h1,p2,r2,rfl,h2,rfl⟩:=h
  obtain⟨v0,rfl⟩:=sh22 h0
  obtain⟨v1,rfl⟩:=sh23 h1
  obtain⟨v2,rfl⟩:=sh24 h2
  exact⟨LSchema.mk v0 v1 v2,rfl⟩
theorem sh54{n:Nat}{pvs:List PV}(h:Sh Tryz.prog n 54 pvs):∃v:Rq,pvs=[.list 69 (v.map ae)]:=by
 cases n with
 |zero=>simp[Sh]at h
 |succ n=>
  simp only[Sh,Tryz.underlying54]at h
  obtain⟨rows,rfl,hr⟩:=h
  obtain⟨xs,rfl⟩:=mj (f:=ae) (fun r hq=>sh69 (hr r hq))
  exact⟨xs,rfl⟩
theorem sh62{n:Nat}{pvs:List PV}(h:Sh Tryz.prog n 62 pvs):∃v:Rz,pvs=[.list 54 (v.map (am 69 ae))]:=by
 cases n with
 |zero=>simp[Sh]at h
 |succ n=>
  simp only[Sh,Tryz.underlying62]at h
  obtain⟨rows,rfl,hr⟩:=h
  obtain⟨xs,rfl⟩:=mj (f:=(am 69 ae)) (fun r hq=>let⟨v,e⟩:=sh54 (hr r hq);⟨v,e⟩)
  exact⟨xs,rfl⟩
theorem sh86{n:Nat}{pvs:List PV}(h:Sh Tryz.prog n 86 pvs):∃v:LRelation,pvs=aI v:=by
 cases n with
 |zero=>simp[Sh]at h
 |succ n=>
  simp only[Sh,Tryz.underlying86,List.map_cons,List.map_nil,iN]at h
  obtain⟨p0,r0,rfl,h0,p1,r1,rfl,h1,rfl⟩:=h
  obtain⟨v0,rfl⟩:=sh9 h0
  obtain⟨v1,rfl⟩:=sh62 h1
  exact⟨LRelation.mk v0 v1,rfl⟩
theorem sh28{n:Nat}{pvs:List PV}(h:Sh Tryz.prog n 28 pvs):∃v:List LRelation,pvs=[.list 86 (v.map aI)]:=by
 cases n with
 |zero=>simp[Sh]at h
 |succ n=>
  simp only[Sh,Tryz.underlying28]at h
  obtain⟨rows,rfl,hr⟩:=h
  obtain⟨xs,rfl⟩:=mj (f:=aI) (fun r hq=>sh86 (hr r hq))
  exact⟨xs,rfl⟩
theorem sh71{n:Nat}{pvs:List PV}(h:Sh Tryz.prog n 71 pvs):∃v:LExpr,pvs=dL v:=by
 induction n generalizing pvs with
 |zero=>simp[Sh]at h
 |succ n ih=>
  simp only[Sh,Tryz.underlying71,List.map_cons,List.map_nil,iN]at h
  obtain⟨p0,r0,rfl,h0,p1,r1,rfl,h1,p2,r2,rfl,h2,p3,r3,rfl,h3,p4,r4,rfl,h4,rfl⟩:=h
  obtain⟨v0,rfl⟩:=sh3 h0
  obtain⟨v1,rfl⟩:=sh9 h1
  obtain⟨v2,rfl⟩:=sh3 h2
  obtain⟨v3,rfl⟩:=sh69 h3
  cases n with
  |zero=>simp[Sh]at h4
  |succ n=>
  simp only[Sh,Tryz.underlying37]at h4
  obtain⟨rows,rfl,hr4⟩:=h4
  obtain⟨v4,rfl⟩:=rowsUp (f:=dL) (rfl) ih hr4
  exact⟨LExpr.mk v0 v1 v2 v3 v4,by rw[cx];rfl⟩
theorem law_args:∀args,ArgsSh Tryz.prog Tryz.f5.params.toList args→aJ Tryz.prog 5 args (.val (.bool true)):=by
 intro args h;rw[Tryz.params5]at h;simp only[ArgsSh]at h
 obtain⟨n0,p0,r0,rfl,h0,n1,p1,r1,rfl,h1,n2,p2,r2,rfl,h2,n3,p3,r3,rfl,h3,rfl⟩:=h
 obtain⟨v0,rfl⟩:=sh26 h0
 obtain⟨v1,rfl⟩:=sh28 h1
 obtain⟨v2,rfl⟩:=sh9 h2
 obtain⟨v3,rfl⟩:=sh71 h3
 have e0:mz Tryz.prog 26 (bJ v0)= .agg (bJ v0):=by simp only[mz,Tryz.underlying26]
 rw[e0];have e1:mz Tryz.prog 28 [.list 86 (v1.map aI)]= .list 86 (v1.map aI):=by simp only[mz,Tryz.underlying28];rfl
 rw[e1];have e2:mz Tryz.prog 9 [.str v2]= .str v2:=by simp only[mz,Tryz.underlying9];rfl
 rw[e2];have e3:mz Tryz.prog 71 (dL v3)= .agg (dL v3):=by simp only[mz,Tryz.underlying71]
 rw[cx]at e3;rw[cx v3,e3];refine gq.fits tk fun hf=>?_
 exact ke v0 v1 v2 v3 true (deleteRows_law (pk_of hf) v1 v2 v3)
set_option maxRecDepth 100000 in
theorem law_wf:(fun(P:Program) (f:FuncId) (fn:Func) (s:ChangeSpec) (c:OpenClaim)=>(P.funcs.size,f,fn.params.size,s.name,c.func,c.wf (OpenSpec.ofChange s)).2.2.2.2.2) Tryz.prog 5 Tryz.f5 (OpenSpec.ofChange Rows.procedureDeleteRemovesMatchingRowsSpec).bare Rows.procedureDeleteRemovesMatchingRowsRow=true:=by kernel_rfl
set_option maxRecDepth 100000 in
theorem law_laid:(fun(P:Program) (f:FuncId) (fn:Func) (s:ChangeSpec) (c:OpenClaim)=>(P.funcs.size,f,fn.params.size,s.name,c.func,laidOutB P).2.2.2.2.2) Tryz.prog 5 Tryz.f5 (OpenSpec.ofChange Rows.procedureDeleteRemovesMatchingRowsSpec).bare Rows.procedureDeleteRemovesMatchingRowsRow=true:=by kernel_rfl
set_option maxRecDepth 100000 in
theorem law_mapsRowed:(fun(P:Program) (f:FuncId) (fn:Func) (s:ChangeSpec) (c:OpenClaim)=>(P.funcs.size,f,fn.params.size,s.name,c.func,mapsRowed P).2.2.2.2.2) Tryz.prog 5 Tryz.f5 (OpenSpec.ofChange Rows.procedureDeleteRemovesMatchingRowsSpec).bare Rows.procedureDeleteRemovesMatchingRowsRow=true:=by kernel_rfl
set_option maxRecDepth 100000 in
theorem law_rr:(fun(P:Program) (f:FuncId) (fn:Func) (s:ChangeSpec) (c:OpenClaim)=>(P.funcs.size,f,fn.params.size,s.name,c.func,fn.params.all (P.readableRec ·)).2.2.2.2.2) Tryz.prog 5 Tryz.f5 (OpenSpec.ofChange Rows.procedureDeleteRemovesMatchingRowsSpec).bare Rows.procedureDeleteRemovesMatchingRowsRow=true:=by kernel_rfl
set_option maxRecDepth 100000 in
theorem law_nt:(fun(P:Program) (f:FuncId) (fn:Func) (s:ChangeSpec) (c:OpenClaim)=>(P.funcs.size,f,fn.params.size,s.name,c.func,namedTie P c.named s.vars).2.2.2.2.2) Tryz.prog 5 Tryz.f5 (OpenSpec.ofChange Rows.procedureDeleteRemovesMatchingRowsSpec).bare Rows.procedureDeleteRemovesMatchingRowsRow=true:=by kernel_rfl
set_option maxRecDepth 100000 in
theorem law_st:(fun(P:Program) (f:FuncId) (fn:Func) (s:ChangeSpec) (c:OpenClaim)=>(P.funcs.size,f,fn.params.size,s.name,c.func,(c.stops==[])&&(P.stops==[])&&(c.knobs==[])&&(P.stopKnobs==[])).2.2.2.2.2) Tryz.prog 5 Tryz.f5 (OpenSpec.ofChange Rows.procedureDeleteRemovesMatchingRowsSpec).bare Rows.procedureDeleteRemovesMatchingRowsRow=true:=by kernel_rfl
set_option maxRecDepth 100000 in
theorem law_inPlace:(fun(P:Program) (f:FuncId) (fn:Func) (s:ChangeSpec) (c:OpenClaim)=>(P.funcs.size,f,fn.params.size,s.name,c.func,c.inPlace==P.inPlace f).2.2.2.2.2) Tryz.prog 5 Tryz.f5 (OpenSpec.ofChange Rows.procedureDeleteRemovesMatchingRowsSpec).bare Rows.procedureDeleteRemovesMatchingRowsRow=true:=by kernel_rfl
set_option maxRecDepth 100000 in
theorem law_unf:(fun(P:Program) (f:FuncId) (fn:Func) (s:ChangeSpec) (c:OpenClaim)=>(P.funcs.size,f,fn.params.size,s.name,c.func,c.unfollowed==P.unfollowed f).2.2.2.2.2) Tryz.prog 5 Tryz.f5 (OpenSpec.ofChange Rows.procedureDeleteRemovesMatchingRowsSpec).bare Rows.procedureDeleteRemovesMatchingRowsRow=true:=by kernel_rfl
set_option maxRecDepth 100000 in
theorem law_rec:(fun(P:Program) (f:FuncId) (fn:Func) (s:ChangeSpec) (c:OpenClaim)=>(P.funcs.size,f,fn.params.size,s.name,c.func,c.recurses==P.recurses f).2.2.2.2.2) Tryz.prog 5 Tryz.f5 (OpenSpec.ofChange Rows.procedureDeleteRemovesMatchingRowsSpec).bare Rows.procedureDeleteRemovesMatchingRowsRow=true:=by kernel_rfl
set_option maxRecDepth 100000 in
theorem law_named:(fun(P:Program) (f:FuncId) (fn:Func) (s:ChangeSpec) (c:OpenClaim)=>(P.funcs.size,f,fn.params.size,s.name,c.func,c.named==P.varsNamed f).2.2.2.2.2) Tryz.prog 5 Tryz.f5 (OpenSpec.ofChange Rows.procedureDeleteRemovesMatchingRowsSpec).bare Rows.procedureDeleteRemovesMatchingRowsRow=true:=by kernel_rfl
set_option maxRecDepth 100000 in
theorem law_maps:(fun(P:Program) (f:FuncId) (fn:Func) (s:ChangeSpec) (c:OpenClaim)=>(P.funcs.size,f,fn.params.size,s.name,c.func,(c.maps==(fn.params.toList++s.plain.varTypes P).any (P.mapsRec ·))&&(c.ifaces==(fn.params.toList++s.plain.varTypes P).any (P.ifacesRec ·))&&(c.mapsOut==P.mapsAmong fn.resultTypes.toList)).2.2.2.2.2) Tryz.prog 5 Tryz.f5 (OpenSpec.ofChange Rows.procedureDeleteRemovesMatchingRowsSpec).bare Rows.procedureDeleteRemovesMatchingRowsRow=true:=by kernel_rfl
set_option maxRecDepth 100000 in
theorem law_loops:(fun(P:Program) (f:FuncId) (fn:Func) (s:ChangeSpec) (c:OpenClaim)=>(P.funcs.size,f,fn.params.size,s.name,c.func,(c.loops==(fn.params.toList++s.plain.varTypes P).any (P.loopsFrom ·))).2.2.2.2.2) Tryz.prog 5 Tryz.f5 (OpenSpec.ofChange Rows.procedureDeleteRemovesMatchingRowsSpec).bare Rows.procedureDeleteRemovesMatchingRowsRow=true:=by kernel_rfl
set_option maxRecDepth 100000 in
theorem law_wide:(fun(P:Program) (f:FuncId) (fn:Func) (s:ChangeSpec) (c:OpenClaim)=>(P.funcs.size,f,fn.params.size,s.name,c.func,(c.wideKeys==(fn.params.toList++s.plain.varTypes P++fn.resultTypes.toList).any (P.wideKeysFrom ·))).2.2.2.2.2) Tryz.prog 5 Tryz.f5 (OpenSpec.ofChange Rows.procedureDeleteRemovesMatchingRowsSpec).bare Rows.procedureDeleteRemovesMatchingRowsRow=true:=by kernel_rfl
set_option maxRecDepth 100000 in
theorem law_rest1:(fun(P:Program) (f:FuncId) (fn:Func) (s:ChangeSpec) (c:OpenClaim)=>(P.funcs.size,f,fn.params.size,s.name,c.func,s.vars.all (P.varReadable ·)&&fn.resultTypes.all (fun t=>P.readableRec t&&decide (t<P.types.size))&&(c.ifacesOut==fn.resultTypes.toList.any (P.ifacesRec ·))&&(c.loopsOut==fn.resultTypes.toList.any (P.loopsFrom ·))).2.2.2.2.2) Tryz.prog 5 Tryz.f5 (OpenSpec.ofChange Rows.procedureDeleteRemovesMatchingRowsSpec).bare Rows.procedureDeleteRemovesMatchingRowsRow=true:=by kernel_rfl
set_option maxRecDepth 100000 in
theorem law_plainKeys:(fun(P:Program) (f:FuncId) (fn:Func) (s:ChangeSpec) (c:OpenClaim)=>(P.funcs.size,f,fn.params.size,s.name,c.func,c.plainKeys==P.plainKeys).2.2.2.2.2) Tryz.prog 5 Tryz.f5 (OpenSpec.ofChange Rows.procedureDeleteRemovesMatchingRowsSpec).bare Rows.procedureDeleteRemovesMatchingRowsRow=true:=by kernel_rfl
set_option maxRecDepth 100000 in
theorem law_rest2:(fun(P:Program) (f:FuncId) (fn:Func) (s:ChangeSpec) (c:OpenClaim)=>(P.funcs.size,f,fn.params.size,s.name,c.func,c.shortTexts.isNone&&P.stopsHeard&&P.mayEnter&&(c.lifted==P.liftsFinal)&&(P.make==some c.make)).2.2.2.2.2) Tryz.prog 5 Tryz.f5 (OpenSpec.ofChange Rows.procedureDeleteRemovesMatchingRowsSpec).bare Rows.procedureDeleteRemovesMatchingRowsRow=true:=by kernel_rfl
set_option maxRecDepth 100000 in
theorem law_kinds:(fun(P:Program) (f:FuncId) (fn:Func) (s:ChangeSpec) (c:OpenClaim)=>(P.funcs.size,f,fn.params.size,s.name,c.func,(c.kinds==(if c.domain.isEmpty then []else fn.params.toList.map fun t=>match P.underlying t with|some (.int k)=>some k|_=>none))&&(c.pinned==c.pinnedBy)).2.2.2.2.2) Tryz.prog 5 Tryz.f5 (OpenSpec.ofChange Rows.procedureDeleteRemovesMatchingRowsSpec).bare Rows.procedureDeleteRemovesMatchingRowsRow=true:=by kernel_rfl
set_option maxRecDepth 100000 in
theorem law_veil:(fun(P:Program) (f:FuncId) (fn:Func) (s:ChangeSpec) (c:OpenClaim)=>(P.funcs.size,f,fn.params.size,s.name,c.func,(c.veiled==(fn.params.toList++s.plain.varTypes P++fn.resultTypes.toList).any (P.veiledRec ·))&&c.veiledFits P fn.params.toList (fn.params.toList++s.plain.varTypes P++fn.resultTypes.toList)).2.2.2.2.2) Tryz.prog 5 Tryz.f5 (OpenSpec.ofChange Rows.procedureDeleteRemovesMatchingRowsSpec).bare Rows.procedureDeleteRemovesMatchingRowsRow=true:=by kernel_rfl
set_option maxRecDepth 100000 in
theorem law_facts:joinedFacts Tryz.prog 5 Tryz.f5 (OpenSpec.ofChange Rows.procedureDeleteRemovesMatchingRowsSpec).bare Rows.procedureDeleteRemovesMatchingRowsRow=true:=joined_of law_wf law_laid law_mapsRowed law_rr law_nt law_st law_inPlace law_unf law_rec law_named law_maps law_loops law_wide law_rest1 law_plainKeys law_rest2 law_kinds law_veil
theorem gl_all(W:World):Gl W []:=by
 refine⟨⟨?_,?_,?_⟩,?_⟩
 ·intro b hb;simp[glI]at hb
 ·intro b hb;simp[glT]at hb
 ·intro b hb;simp[glN]at hb
 ·intro b hb;simp[glB,glI,glT,glN]at hb
def putVar(h:Array Go.Obj)(g:Nat)(cs:Array Value):Array Go.Obj:=h.modify g fun
 | .cells _ t fz=>.cells cs t fz
 |o=>o
def lowBlk:Nat:=(World.holding Tryz.prog default ⟨#[],#[],[]⟩).heap.size
def sS(os:Os):World:=
 let w0:=World.holding Tryz.prog os ⟨#[.cells #[.string ⟨#[118,97,108,117,101,32,111,117,116,32,111,102,32,114,97,110,103,101]⟩] 342,.cells #[.string ⟨#[105,110,118,97,108,105,100,32,115,121,110,116,97,120]⟩] 342],#[],[]⟩
 {w0 with heap:=(putVar (putVar (putVar (putVar (putVar w0.heap 4 #[.int .u8 0,.int .u8 1,.int .u8 28,.int .u8 2,.int .u8 29,.int .u8 14,.int .u8 24,.int .u8 3,.int .u8 30,.int .u8 22,.int .u8 20,.int .u8 15,.int .u8 25,.int .u8 17,.int .u8 4,.int .u8 8,.int .u8 31,.int .u8 27,.int .u8 13,.int .u8 23,.int .u8 21,.int .u8 19,.int .u8 16,.int .u8 7,.int .u8 26,.int .u8 12,.int .u8 18,.int .u8 6,.int .u8 11,.int .u8 5,.int .u8 10,.int .u8 9]) 5 #[.int .u8 0,.int .u8 1,.int .u8 56,.int .u8 2,.int .u8 57,.int .u8 49,.int .u8 28,.int .u8 3,.int .u8 61,.int .u8 58,.int .u8 42,.int .u8 50,.int .u8 38,.int .u8 29,.int .u8 17,.int .u8 4,.int .u8 62,.int .u8 47,.int .u8 59,.int .u8 36,.int .u8 45,.int .u8 43,.int .u8 51,.int .u8 22,.int .u8 53,.int .u8 39,.int .u8 33,.int .u8 30,.int .u8 24,.int .u8 18,.int .u8 12,.int .u8 5,.int .u8 63,.int .u8 55,.int .u8 48,.int .u8 27,.int .u8 60,.int .u8 41,.int .u8 37,.int .u8 16,.int .u8 46,.int .u8 35,.int .u8 44,.int .u8 21,.int .u8 52,.int .u8 32,.int .u8 23,.int .u8 11,.int .u8 54,.int .u8 26,.int .u8 40,.int .u8 15,.int .u8 34,.int .u8 20,.int .u8 31,.int .u8 10,.int .u8 25,.int .u8 14,.int .u8 19,.int .u8 9,.int .u8 13,.int .u8 8,.int .u8 7,.int .u8 6]) 3 #[.int .u64 1,.int .u64 10,.int .u64 100,.int .u64 1000,.int .u64 10000,.int .u64 100000,.int .u64 1000000,.int .u64 10000000,.int .u64 100000000,.int .u64 1000000000,.int .u64 10000000000,.int .u64 100000000000,.int .u64 1000000000000,.int .u64 10000000000000,.int .u64 100000000000000,.int .u64 1000000000000000,.int .u64 10000000000000000,.int .u64 100000000000000000,.int .u64 1000000000000000000,.int .u64 10000000000000000000]) 2 #[.iface 340 (.pointer (some ⟨lowBlk,0,none⟩))]) 1 #[.iface 340 (.pointer (some ⟨lowBlk+1,0,none⟩))])}
set_option maxRecDepth 100000 in
theorem laid_met(os:Os):laidMet Tryz.prog Rows.procedureDeleteRemovesMatchingRowsRow.laid ((sS os).forCall (fun _ _=>0) ⟨#[],#[.agg #[.slice none 0 0,.slice none 0 0,.slice none 0 0],.slice none 0 0,.string ⟨#[]⟩,.agg #[.int .i64 0,.string ⟨#[]⟩,.int .i64 0,.int .i64 0,.int .i64 0,.string ⟨#[]⟩,.slice none 0 0]],[]⟩).memory:=
 laidMet_of_run' 8 (by kernel_rfl) (by kernel_rfl)
theorem law_reads(os:Os){H:Type}(enc:TypeId×Value→H):∃nz,DataW.whole enc Tryz.prog ((sS os).forCall (fun _ _=>0) ⟨#[],#[.agg #[.slice none 0 0,.slice none 0 0,.slice none 0 0],.slice none 0 0,.string ⟨#[]⟩,.agg #[.int .i64 0,.string ⟨#[]⟩,.int .i64 0,.int .i64 0,.int .i64 0,.string ⟨#[]⟩,.slice none 0 0]],[]⟩).memory Tryz.f5.params.toList (OpenSpec.ofChange Rows.procedureDeleteRemovesMatchingRowsSpec).vars false (#[.agg #[.slice none 0 0,.slice none 0 0,.slice none 0 0],.slice none 0 0,.string ⟨#[]⟩,.agg #[.int .i64 0,.string ⟨#[]⟩,.int .i64 0,.int .i64 0,.int .i64 0,.string ⟨#[]⟩,.slice none 0 0]]:Array Value).toList 8=some ([.agg [.nil,.nil,.nil],.nil,.lit (.string []),.agg [.lit (.int .i64 0),.lit (.string []),.lit (.int .i64 0),.agg [.lit (.int .i64 0),.lit (.int .i64 0),.lit (.string [])],.nil]],[],nz):=
 ⟨[],by kernel_rfl⟩
set_option maxRecDepth 100000 in
theorem law_lifted(os:Os)(started:os.Started)(H:Type)(enc:TypeId×Value→H)(F:Stop.Interp):
  ReturnsInHanded {} Tryz.checked os 5 .any ((OpenSpec.ofChange Rows.procedureDeleteRemovesMatchingRowsSpec).preRow enc Tryz.prog Tryz.f5 Rows.procedureDeleteRemovesMatchingRowsRow.domain false Rows.procedureDeleteRemovesMatchingRowsRow.laid) (((OpenSpec.ofChange Rows.procedureDeleteRemovesMatchingRowsSpec).at F).post enc Tryz.prog Tryz.f5 false true false false):=by
 obtain⟨nz,hx⟩:=law_reads os enc
 refine returnsInHanded_of_row (C:=Tryz.checked) (s:=OpenSpec.ofChange Rows.procedureDeleteRemovesMatchingRowsSpec) own_knob started (by kernel_rfl) Tryz.func5
  (witness_row_at (enc:=enc) (C:=Tryz.checked) false (sS os) #[.agg #[.slice none 0 0,.slice none 0 0,.slice none 0 0],.slice none 0 0,.string ⟨#[]⟩,.agg #[.int .i64 0,.string ⟨#[]⟩,.int .i64 0,.int .i64 0,.int .i64 0,.string ⟨#[]⟩,.slice none 0 0]] rfl (by kernel_rfl) (by kernel_rfl) (by kernel_rfl)
   (OpenSpec.preRow_of_cond 8 hx (by kernel_rfl) (fun k hk=>by cases hk) (by kernel_rfl) (laid_met os))) ?_
 intro W base args ds gs before hval hW _ _ hsz _ _ _;refine law_calls (s:=Rows.procedureDeleteRemovesMatchingRowsSpec) laid_out (tb:=4) rfl ?_ rfl Tryz.underlying4 ?_ lawTypes_ok lawTypes_info ?_ law_args hval hW (gl_all W) hsz
 ·rw[Tryz.params5];intro t ht;simp only[List.mem_cons,List.mem_nil_iff,or_false]at ht;rcases ht with rfl|rfl|rfl|rfl<;>exact⟨by kernel_rfl,of_decide_eq_true (by kernel_rfl)⟩
 ·intro ds hlen;rw[Tryz.params5]at hlen
  match ds,hlen with
  |[d0,d1,d2,d3],_=>rfl
 ·rw[Tryz.params5];intro t ht;simp only[List.mem_cons,List.mem_nil_iff,or_false]at ht;rcases ht with rfl|rfl|rfl|rfl<;>simp[lawTypes]
theorem law_said:Rows.ProcedureDeleteRemovesMatchingRowsSaid:=
 OpenClaim.holds_of_cond 5 Tryz.f5 rfl rfl rfl rfl rfl rfl rfl ⟨rfl,rfl,rfl,rfl,rfl⟩ rfl rfl rfl rfl rfl (by kernel_rfl) Tryz.func5 law_facts
  (of_decide_eq_true (by kernel_rfl)) (by unfold Func.isWrapper;first|(rw[zp (by decide+kernel)];kernel_rfl)|(rw[zy (by decide+kernel)];exact⟨rfl,rfl⟩))
  (fun os started H enc _ F=>by rw[OpenClaim.pre_eq_preRow];exact law_lifted os started H enc F)
theorem law_plain(f:FuncId)(fn:Func)(hf:Tryz.pinned.checked.prog.funcNamed "stemma/stemkeep3.ProcedureDeleteRemovesMatchingRows" =some f)(hfn:Tryz.pinned.checked.prog.funcs[f]?=some fn):
  true=Tryz.pinned.checked.prog.looks []∧∀(j:Nat) t,fn.params[j]?=some t→Tryz.pinned.checked.prog.wantsStandIn t=false:=by
 obtain rfl:f=5:=Option.some.inj ((show Tryz.prog.funcNamed "stemma/stemkeep3.ProcedureDeleteRemovesMatchingRows" =some 5 by kernel_rfl).symm.trans hf)|>.symm;obtain rfl:fn=Tryz.f5:=(Option.some.inj (Tryz.func5.symm.trans hfn)).symm
 refine⟨by kernel_rfl,fun j t ht=>?_⟩
 have hall:(Tryz.f5.params.toList.all fun u=>!Tryz.prog.wantsStandIn u)=true:=by kernel_rfl
 have hm:t∈Tryz.f5.params.toList:=by simpa using Array.mem_of_getElem? ht
 exact(show Tryz.prog.wantsStandIn t=false by simpa using List.all_eq_true.1 hall t hm)
theorem procedureDeleteRemovesMatchingRows_holds:Rows.ProcedureDeleteRemovesMatchingRowsCardSaid:=
 Claim7.holds_tied_plain_at .later [] _ _ _ _ law_said (fun _ h=>by cases h) (by kernel_rfl) (fun _ h=>by cases h) procedureDeleteRemovesMatchingRows_row_tie rfl ⟨rfl,rfl⟩ (by kernel_rfl) rfl law_plain (by kernel_rfl)
end
end Go.Proofs.YtafdcemcgfbhcaaGreatDoor
