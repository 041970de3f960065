/- procedureSequenceUpto_holds, part 7: the layer, the plain functions and what they compute; conditions as in the statement. -/
import Derived.Test.YtafdcemcgfbhcaaGreatDoorSef
set_option maxHeartbeats 4000000
namespace Go.Proofs.YtafdcemcgfbhcaaGreatDoor
noncomputable section
open Go Go.Ab Go.Proofs.Tryz
theorem val_eq(x y:LVal):(x.kind==y.kind&&(x.int==y.int&&(x.text==y.text&&true)))=decide (x=y):=by
 obtain⟨a,b,c⟩:=x
 obtain⟨a',b',c'⟩:=y
 by_cases h:(⟨a,b,c⟩:LVal)=⟨a',b',c'⟩
 ·rw[zt h];cases h;simp
 ·rw[zf h];by_cases h1:a=a'
  ·by_cases h2:b=b'
   ·have h3:c≠c':=fun h3=>h (by rw[h1,h2,h3])
    have:(c==c')=false:=by simpa using h3
    simp[this]
   ·simp[ci h2]
  ·simp[ci h1]
theorem equalRow(x y:Rq):bN x y=some (decide (x=y)):=by
 unfold bN;by_cases hl:x.length=y.length
 ·rw[natNE,zt hl,Bool.not_true,zd]
  obtain⟨fl,hfl,hr⟩:=eI (step:=fun(j1:Nat) (x1:LVal) (_:Unit)=>aa (ax y (j1:Int)) fun(x22:LVal)=>cond (!(x1.kind==x22.kind&&(x1.int==x22.int&&(x1.text==x22.text&&true)))) (some (Flow.ret false)) (some (.next ())))
   (fun j _=>x.take j=y.take j) (fun r=>r=false/\x≠y) x 0 () (by simp) (fun k v s hk hI=>by
    simp only[Nat.zero_add]at hI⊢;have hkl:=(zg.1 hk).1;rw[dG (by omega),bPs,val_eq];by_cases hv:v=y[k]
    ·rw[zt hv]
     refine⟨_,rfl,?_⟩
     simp only;rw[List.take_add_one,List.take_add_one,hk,ze (by omega),hI,hv]
    ·rw[zf hv]
     refine⟨_,rfl,rfl,fun he=>hv ?_⟩
     subst he
     exact(zg.1 hk).2.symm)
  rw[hfl,bPs];cases fl with
  |brk s=>exact absurd hr (by simp)
  |ret r=>rw[pp,hr.1,zf hr.2]
  |next s=>
   simp only[Nat.zero_add,List.take_length]at hr;rw[hl,List.take_length]at hr;rw[fX,zt hr]
 ·rw[natNE,zf hl,zf (fun h=>hl (by rw[h]))];rfl
theorem idxO(l:Rows)(p:Rq->Bool)(f:Rq->Option Bool)(hf:∀x∈l,f x=some (p x))(hl:l.length<=10000000):bH l f=some (aL p l,l):=by
 unfold bH;rw[lD (by omega),bPs,Int.toNat_natCast]
 obtain⟨fl,hfl,hr⟩:=eI (step:=fun(j1:Nat) (_:Nat) (s1:Rows)=>aa (ax s1 (j1:Int)) fun(x14:Rq)=>aa (f x14) fun x16=>cond x16 (some (Flow.ret ((j1:Int),s1))) (some (.next s1)))
  (fun j s=>s=l/\∀x∈l.take j,p x=false) (fun r=>r=(aL p l,l)) (List.range l.length) 0 l ⟨rfl,by simp⟩ (fun k v s hk hI=>by
   simp only[Nat.zero_add]at hI⊢;have hkl:=(zg.1 hk).1;simp at hkl
   obtain⟨rfl,hI⟩:=hI
   rw[dG hkl,bPs,hf _ (List.getElem_mem hkl),bPs];cases hp:p s[k]with
   |true=>exact⟨_,rfl,by simp only;rw[pG hkl hI hp]⟩
   |false=>
    refine⟨_,rfl,rfl,fun x hx=>?_⟩
    rw[List.take_add_one,ze hkl,List.mem_append]at hx;rcases hx with hx|hx
    ·exact hI x hx
    ·simp at hx;rw[hx];exact hp)
 rw[hfl,bPs];cases fl with
 |brk s=>exact absurd hr (by simp)
 |ret r=>rw[pp,hr]
 |next s=>
  simp only[Nat.zero_add,List.length_range,List.take_length]at hr;rw[fX,hr.1,lK hr.2]
theorem deleteFunc_eq(l:Rows)(p:Rq->Bool)(f:Rq->Option Bool)(hf:∀x∈l,f x=some (p x))(hl:l.length<=1000000):ee l f=some (l.filter fun x=>!p x):=by
 unfold ee;rw[idxO l p f hf (by omega),bPs];simp only;rw[dM trivial,bPs];by_cases hneg:aL p l=-1
 ·rw[jI hneg,zc];congr 1
  symm
  rw[List.filter_eq_self];intro x hx
  have:decide (aL p l>=0)=false:=by rw[hneg];rfl
  rw[kl]at this
  have:=List.any_eq_false.1 this x hx
  simpa using this
 ·rw[ci hneg,zd];have h0:0<=aL p l:=by rcases idxOf_neg (p:=p) (l:=l)with h|h;exact absurd h hneg;exact h
  obtain⟨i,hi⟩:∃i:Nat,aL p l=i:=⟨(aL p l).toNat,by omega⟩
  have hil:i<l.length:=by have:=vl h0;omega
  have hpre:(l.take i).filter (fun x=>!p x)=l.take i:=by
   rw[List.filter_eq_self];intro x hx
   have:l.findIdx? p=some i:=by
    unfold aL at hi;cases hq:l.findIdx? p with
    |none=>rw[hq]at hi;simp at hi
    |some j=>rw[hq]at hi;exact congrArg some (by have hi:(j:Int)=(i:Int):=hi;omega)
   obtain⟨_,_,hlt⟩:=List.findIdx?_eq_some_iff_getElem.1 this
   obtain⟨j,hj,rfl⟩:=List.mem_take_iff_getElem.1 hx
   simp[hlt j (by omega)]
  have hpi:p l[i]=true:=by
   obtain⟨x,hx,hp⟩:=jH h0
   rw[hi,Int.toNat_natCast,ze hil]at hx;cases hx;exact hp
  rw[hi,Ww (n:=(i:Int)+1) (by omega) (by omega)]
  obtain⟨r,hr,hq⟩:=iG (step:=fun(s1:Rows×Int×Int)=>
   cond (decide (s1.2.2<(s1.1.length:Int)))
    (aa (ax s1.1 s1.2.2) fun(x24:Rq)=>aa (f x24) fun x28=>cond (!x28) (aa (ax s1.1 s1.2.1) fun(_:Rq)=>letP (s1.1.set s1.2.1.toNat x24) fun(y4:Rows)=>some (.next (y4,(Iw (s1.2.1+(1:Int))),(Iw (s1.2.2+(1:Int))))))
     (some (.next (s1.1,s1.2.1,(Iw (s1.2.2+(1:Int)))))))
    (some (.brk (s1.1,s1.2.1,s1.2.2)))) (s:=(l,(i:Int),(i:Int)+1)) (k:=fun(s1:Rows×Int×Int)=>aa (qG s1.1 s1.2.1) fun(y5:Rows)=>aa (qG y5 s1.2.1) fun(y6:Rows)=>some y6) (R:=fun r=>r=l.filter fun x=>!p x)
   (fun s=>∃a j:Nat,s.2.1=a/\s.2.2=j/\a<j/\j<=l.length/\s.1.length=l.length/\s.1.take a=(l.take j).filter (fun x=>!p x)/\s.1.drop j=l.drop j) (fun s=>(l.length-s.2.2).toNat)
   (fun s=>∃a:Nat,s.2.1=a/\a<=s.1.length/\s.1.take a=l.filter fun x=>!p x)
   ⟨i,i+1,rfl,by show(i:Int)+1=((i+1:Nat):Int);omega,by omega,by omega,rfl,by
    show l.take i=_;rw[List.take_add_one,ze hil,List.filter_append,hpre];simp[hpi],rfl⟩
   (fun s hI=>by
    obtain⟨a,j,h1,h2,h3,h4,h5,h6,h7⟩:=hI
    obtain⟨d,s1,s2⟩:=s
    simp only at h1 h2 h5 h6 h7⊢;subst h1;subst h2;by_cases hlt:j<l.length
    ·rw[zt (show(j:Int)<(d.length:Int)from by omega),zc,dG (by omega),bPs]
     have hdj:d[j]? =l[j]?:=by
      have:=congrArg (fun q=>q[0]?) h7
      simpa using this
     have hdje:d[j]=l[j]:=by
      rw[ze (by omega),ze hlt]at hdj;exact Option.some.inj hdj
     have hdrop:∀e:Rows,e.drop j=l.drop j->e.drop (j+1)=l.drop (j+1):=fun e he=>by
      rw[<-List.drop_drop,<-List.drop_drop,he]
     rw[hdje,hf _ (List.getElem_mem hlt),bPs,Ww (n:=(j:Int)+1) (by omega) (by omega),Ww (n:=(a:Int)+1) (by omega) (by omega)];cases hp:p l[j]with
     |true=>
      refine⟨_,rfl,⟨a,j+1,rfl,by show(j:Int)+1=((j+1:Nat):Int);omega,by omega,by omega,h5,?_,hdrop d h7⟩,by show((l.length:Int)-((j:Int)+1)).toNat<((l.length:Int)-(j:Int)).toNat;omega⟩
      show d.take a=_;rw[h6,List.take_add_one,ze hlt,List.filter_append];simp[hp]
     |false=>
      simp only[Bool.not_false,zc];rw[dG (by omega),bPs,aX,Int.toNat_natCast]
      refine⟨_,rfl,⟨a+1,j+1,by show(a:Int)+1=((a+1:Nat):Int);omega,by show(j:Int)+1=((j+1:Nat):Int);omega,by omega,by omega,by show(d.set a l[j]).length=l.length;simp[h5],?_,?_⟩,by show((l.length:Int)-((j:Int)+1)).toNat<((l.length:Int)-(j:Int)).toNat;omega⟩
      ·show(d.set a l[j]).take (a+1)=_
       rw[List.take_add_one,List.getElem?_set_self (by omega),List.take_set_of_le (by omega),h6,List.take_add_one,ze hlt,List.filter_append];simp[hp]
      ·show(d.set a l[j]).drop (j+1)=_
       rw[List.drop_set_of_lt (by omega)];exact hdrop d h7
    ·rw[zf (show ¬(j:Int)<(d.length:Int)from by omega)]
     refine⟨_,rfl,a,rfl,by show a<=d.length;omega,?_⟩
     show d.take a=_;rw[h6,List.take_of_length_le (by omega)])
   (fun s hq=>by
    obtain⟨a,h1,h2,h3⟩:=hq
    rw[h1];unfold qG;rw[zp ⟨by omega,by simpa using h2⟩,bPs,Int.toNat_natCast,zp ⟨by omega,by simp;omega⟩,bPs,List.take_take,Nat.min_self]
    exact⟨_,rfl,h3⟩)
  rw[<-hq];exact hr
def nV:Rows->Rows->Rows
 |[],_=>[]
 |x::a,left=>if x∈left then nV a (left.erase x)else x::nV a left
theorem erase_idx{α:Type}[BEq α][LawfulBEq α][DecidableEq α]{l:List α}{x:α}{i:Nat}(h:l.findIdx? (fun y=>decide (x=y))=some i):l.take i++l.drop (i+1)=l.erase x:=by
 induction l generalizing i with
 |nil=>simp at h
 |cons a l ih=>
  rw[List.findIdx?_cons]at h;by_cases hx:x=a
  ·subst hx;simp at h;subst h;simp
  ·have e:decide (x=a)=false:=zf hx;rw[e]at h;simp only[Bool.false_eq_true,if_false,Option.map_eq_some_iff]at h
   obtain⟨j,hj,rfl⟩:=h
   have hne:(a==x)=false:=by simp;exact fun h=>hx h.symm
   rw[List.erase_cons,hne];simp[ih hj]
theorem less_run:∀(a:Rows) (j:Nat) (left out:Rows),left.length<=1000000->out.length+a.length<=1000000->
  au (σ:=Rows×Rows) (ρ:=Empty) (fun(_:Nat) (x1:Rq) (s1:Rows×Rows)=>
  aa (bH s1.1 (fun a0=>kT a0 x1)) fun x20=>
  aa (fF (x20.2.length=s1.1.length) ()) fun(_:Unit)=>
  cond (decide (x20.1>=(0:Int)))
   (aa (oM x20.2 x20.1 (Iw (x20.1+(1:Int)))) fun x27=>
   some (.next (x27,s1.2)))
   (aa (cE 24 s1.2 ([x1]:Rz)) fun(x31:Rz)=>
   some (.next (x20.2,x31)))) j a (left,out)=some (.next ((a.foldl (fun l x=>l.erase x) left),out++nV a left))
 |[],j,left,out,_,_=>by simp[au,nV]
 |x::a,j,left,out,hl,ho=>by
  rw[au,idxO left (fun y=>decide (x=y)) _ (fun y _=>by unfold kT;rw[equalRow];rfl) (by omega),bPs];simp only;rw[dM trivial,bPs,nV,List.foldl_cons];by_cases hx:x∈left
  ·have hany:decide (aL (fun y=>decide (x=y)) left>=0)=true:=by rw[kl,List.any_eq_true];exact⟨x,hx,by simp⟩
   rw[hany,zc,zp hx];have h0:=of_decide_eq_true hany;unfold aL at h0⊢;cases hq:left.findIdx? (fun y=>decide (x=y))with
   |none=>rw[hq]at h0;simp at h0
   |some i=>
    have hil:=(List.findIdx?_eq_some_iff_getElem.1 hq).1;simp only;rw[Ww (by omega) (by omega)]
    have hd:oM left (i:Int) ((i:Int)+1)=some (left.erase x):=by
     unfold oM;rw[zp ⟨by omega,by omega,by omega⟩,show((i:Int)).toNat=i from Z,show((i:Int)+1).toNat=i+1 from by omega,erase_idx hq]
    rw[hd,bPs];exact less_run a (j+1) (left.erase x) out (by have:=List.length_erase_le (a:=x) (l:=left);omega) (by simp at ho;omega)
  ·have hany:decide (aL (fun y=>decide (x=y)) left>=0)=false:=by
    rw[kl,List.any_eq_false];intro y hy he
    have:x=y:=by simpa using he
    exact hx (this▸hy)
   rw[hany,zd,zy hx,aS (by decide) (by simp at ho⊢;omega),bPs];simp only;rw[less_run a (j+1) left _ hl (by simp at ho⊢;omega),List.erase_of_not_mem hx];simp
theorem less_eq(a b:Rows)(ha:a.length<=1000000)(hb:b.length<=1000000):mZ a b=some (nV a b):=by
 unfold mZ;rw[less_run a 0 b [] hb (by simpa using ha),bPs,bQ];rfl
theorem vc:∀(a b:Rows),(nV a b).Sublist a
 |[],_=>by simp[nV]
 |x::a,b=>by
  rw[nV];split
  ·exact(vc a _).cons x
  ·exact(vc a b).cons_cons x
theorem concat2(x y:Rq)(hx:x.length<=1000000)(hy:y.length<=1000000):bX [x,y]=some (x++y):=by
 unfold bX;simp only[au,Int.zero_add];rw[Ww (n:=(x.length:Int)) (by omega) (by omega),zf (show ¬(x.length:Int)<0 from by omega)];simp only[zd];rw[Ww (n:=(x.length:Int)+(y.length:Int)) (by omega) (by omega),zf (show ¬(x.length:Int)+(y.length:Int)<0 from by omega)];simp only[zd,bPs,bQ];rw[tX ⟨by omega,by omega,by unfold maxLen;omega⟩,bPs,aS (by decide) (by simp;omega),bPs];simp only[List.nil_append];rw[aS (by decide) (by omega)];rfl
def jN(f:Rq->Bool)(x:Rq)(b:Rows):Rows:=(b.map fun y=>x++y).filter f
def padR(f:Rq->Bool)(left:Bool)(pad x:Rq)(b:Rows):Rows:=if left=true/\jN f x b=[]then [x++pad]else jN f x b
def mr(f:Rq->Bool)(left:Bool)(pad:Rq)(a b:Rows):Rows:=(a.map fun x=>padR f left pad x b).flatten
theorem match_run(f:Rq->Bool)(e:LExpr)(r:LRun)(cols:List LCol)(ex:List LExpr)(he:ax ex 0=some e)(hf:∀z,ma (er (bs r cols z) e)=f z)(x:Rq)(hx:x.length<=1000)
  (b:Rows) (out:Rows) (found:Bool) (hb:∀y∈b,y.length<=1000) (ho:out.length+b.length<=1000000):
  au (σ:=Rows×Bool) (ρ:=Empty) (fun(_:Nat) (x6:Rq) (s6:Rows×Bool)=>
   aa (bX ([x,x6]:Rows)) fun x58=>
   aa (ax ex 0) fun(x65:LExpr)=>
   letP (bs r cols x58) fun x62=>
   letP (er x62 x65) fun x67=>
   letP (ma x67) fun x68=>
   cond x68
    (aa (cE 24 s6.1 ([x58]:Rows)) fun(x72:Rows)=>some (.next (x72,true)))
    (some (.next (s6.1,s6.2)))) 0 b (out,found)=some (.next (out++jN f x b,found|| !(jN f x b).isEmpty)):=by
 rw[rMa (xs:=b) (s:=(out,found)) (fun k=>(out++jN f x (b.take k),found|| !(jN f x (b.take k)).isEmpty)) (by simp[jN]) (fun k y hk=>by
  have hkl:=(zg.1 hk).1;have hm:(jN f x (b.take k)).length<=k:=by unfold jN;exact Nat.le_trans (List.length_filter_le _ _) (by simp;omega)
  have hs:jN f x (b.take (k+1))=jN f x (b.take k)++if f (x++y)then [x++y]else []:=by
   unfold jN;rw[List.take_add_one,hk,List.map_append,List.filter_append];cases h:f (x++y)<;>simp[h]
  rw[concat2 x y (by omega) (by have:=hb y (cV hk);omega),bPs,he,bPs,hs];simp only[aX,hf];cases hz:f (x++y)with
  |true=>
   rw[zc,aS (by decide) (by simp;omega),bPs];simp
  |false=>simp),List.take_length]
theorem padR_len(f:Rq->Bool)(left:Bool)(pad x:Rq)(b:Rows):(padR f left pad x b).length<=max 1 b.length:=by
 unfold padR;split
 ·simp;omega
 ·have:(jN f x b).length<=b.length:=by
   unfold jN;exact Nat.le_trans (List.length_filter_le _ _) (by simp)
  omega
theorem uU(f:Rq->Bool)(left:Bool)(pad:Rq)(a b:Rows):(mr f left pad a b).length<=a.length*max 1 b.length:=by
 unfold mr;induction a with
 |nil=>simp
 |cons x a ih=>
  have:=padR_len f left pad x b
  simp only[List.map_cons,List.flatten_cons,List.length_append,List.length_cons,Nat.add_mul,Nat.one_mul];omega
def gw(key:Rq->Rq):Rows->Rows->Rows
 |ks,[]=>ks
 |ks,x::l=>gw key (if key x∈ks then ks else ks++[key x]) l
theorem keysF_app(key:Rq->Rq):∀(l l' ks:Rows),gw key ks (l++l')=gw key (gw key ks l) l'
 |[],_,_=>rfl
 |x::l,l',ks=>by rw[List.cons_append,gw,keysF_app key l l',gw]
theorem wj(key:Rq->Rq):∀(l ks:Rows),ks.Nodup->(gw key ks l).Nodup
 |[],_,h=>h
 |x::l,ks,h=>by
  rw[gw];refine wj key l _ ?_;split
  ·exact h
  ·rename_i hx;rw[List.nodup_append]
   exact⟨h,by simp,fun a ha b hb hab=>by simp at hb;exact hx (hb▸hab▸ha)⟩
theorem su(key:Rq->Rq):∀(l ks:Rows) (k:Rq),k∈gw key ks l↔k∈ks\/∃x∈l,key x=k
 |[],ks,k=>by simp[gw]
 |x::l,ks,k=>by
  rw[gw,su key l];split
  ·rename_i h;constructor
   ·rintro(h1|⟨y,hy,e⟩)
    ·exact .inl h1
    ·exact .inr ⟨y,by simp[hy],e⟩
   ·rintro(h1|⟨y,hy,e⟩)
    ·exact .inl h1
    ·rcases List.mem_cons.1 hy with rfl|hy
     ·exact .inl (e▸h)
     ·exact .inr ⟨y,hy,e⟩
  ·constructor
   ·rintro(h1|⟨y,hy,e⟩)
    ·rcases List.mem_append.1 h1 with h1|h1
     ·exact .inl h1
     ·exact .inr ⟨x,by simp,by simp at h1;exact h1.symm⟩
    ·exact .inr ⟨y,by simp[hy],e⟩
   ·rintro(h1|⟨y,hy,e⟩)
    ·exact .inl (by simp[h1])
    ·rcases List.mem_cons.1 hy with rfl|hy
     ·exact .inl (by simp[e])
     ·exact .inr ⟨y,hy,e⟩
theorem sv(key:Rq->Rq):∀(l ks:Rows),(gw key ks l).length<=ks.length+l.length
 |[],_=>by simp[gw]
 |x::l,ks=>by
  rw[gw]
  have:=sv key l (if key x∈ks then ks else ks++[key x])
  split at this
  ·rename_i h;rw[zp h];simp;omega
  ·rename_i h;rw[zy h];simp at this⊢;omega
def hZ(key:Rq->Rq)(l:Rows)(k:Rq):Rows:=l.filter fun x=>decide (key x=k)
theorem group_run(key:Rq->Rq)(q:LQuery)(r:LRun)(cols:List LCol)(hk:∀x,eB r cols x q.exprs=some (key x))(ks0:Rows)(hn:ks0.Nodup)(l:Rows)(hl:l.length<=1000000)(hks:ks0.length<=1):
  au (σ:=Rows×List Rows) (ρ:=Empty) (fun(_:Nat) (x2:Rq) (s2:Rows×List Rows)=>
  aa (eB r cols x2 q.exprs) fun x38=>
  aa (bH s2.1 (fun a0=>iL a0 x38)) fun x41=>
  aa (fF (x41.2.length=s2.1.length) ()) fun(_:Unit)=>
  aa (
   cond (decide (x41.1<(0:Int)))
    (aa (cE 24 x41.2 ([x38]:Rows)) fun(x49:Rows)=>
    aa (cE 24 s2.2 ([[]]:List Rows)) fun(x52:List Rows)=>
    some (x49,x52,(x41.2.length:Int)))
    (some (x41.2,s2.2,x41.1))) fun(t7:Rows×List Rows×Int)=>
  aa (ax t7.2.1 t7.2.2) fun(x57:Rows)=>
  aa (cE 24 x57 ([x2]:Rows)) fun(x61:Rows)=>
  aa (ax t7.2.1 t7.2.2) fun(_:Rows)=>
  letP (t7.2.1.set t7.2.2.toNat x61) fun(y8:List Rows)=>
  some (.next (t7.1,y8))) 0 l (ks0,ks0.map fun _=>[])=some (.next (gw key ks0 l,(gw key ks0 l).map (hZ key l))):=by
 rw[rMa (xs:=l) (s:=(ks0,ks0.map fun _=>[])) (fun k=>(gw key ks0 (l.take k),(gw key ks0 (l.take k)).map (hZ key (l.take k)))) (by
  show(ks0,ks0.map (hZ key []))=_
  congr 1) (fun k x hkx=>by
   have hkl:=(zg.1 hkx).1;have hlen:=sv key (l.take k) ks0;have hlen2:(gw key ks0 (l.take k)).length<=1+k:=by simp at hlen;omega
   have hnd:=wj key (l.take k) ks0 hn;have hmem:∀y∈l.take k,key y∈gw key ks0 (l.take k):=fun y hy=>(su key _ _ _).2 (.inr ⟨y,hy,rfl⟩)
   have hsucc:l.take (k+1)=l.take k++[x]:=by rw[List.take_add_one,hkx];rfl
   rw[hsucc,keysF_app];generalize hK:gw key ks0 (l.take k)=K at*
   have hgl:∀kk,(hZ key (l.take k) kk).length<=k:=fun kk=>by
    unfold hZ;exact Nat.le_trans (List.length_filter_le _ _) (by simp;omega)
   rw[hk x,bPs,idxO K (fun y=>decide (key x=y)) _ (fun y _=>by unfold iL;rw[equalRow];rfl) (by omega),bPs];simp only;rw[dM trivial,bPs]
   have hg:∀kk,hZ key (l.take k++[x]) kk=hZ key (l.take k) kk++if key x=kk then [x]else []:=fun kk=>by
    unfold hZ;rw[List.filter_append];congr 1;by_cases h:key x=kk<;>simp[h]
   by_cases hx:key x∈K
   ·have hany:decide (aL (fun y=>decide (key x=y)) K<0)=false:=by
     have:decide (aL (fun y=>decide (key x=y)) K>=0)=true:=by rw[kl,List.any_eq_true];exact⟨_,hx,by simp⟩
     have:=of_decide_eq_true this
     exact zf (by omega)
    have h0:0<=aL (fun y=>decide (key x=y)) K:=by have:=of_decide_eq_false hany;omega
    obtain⟨i,hi⟩:∃i:Nat,aL (fun y=>decide (key x=y)) K=i:=⟨(aL (fun y=>decide (key x=y)) K).toNat,by omega⟩
    obtain⟨z,hz,hzk⟩:=jH h0
    rw[hi,Int.toNat_natCast]at hz;have hzk:key x=z:=by simpa using hzk
    subst hzk;have hiK:=(zg.1 hz).1;rw[hany,zd,bPs,hi];simp only;have hgi:(K.map (hZ key (l.take k)))[i]? =some (hZ key (l.take k) (key x)):=by rw[List.getElem?_map,hz];rfl
    rw[gp hgi,bPs,aS (by decide) (by have:=hgl (key x);simp;omega),bPs,bPs,aX,Int.toNat_natCast];congr 3
    ·simp[gw,hx]
    ·have hkk:gw key K [x]=K:=by simp[gw,hx]
     rw[hkk];apply List.ext_getElem?;intro j;rw[List.getElem?_set,List.getElem?_map];by_cases hij:i=j
     ·subst hij;rw[zp Z,zp (by simpa using hiK),List.getElem?_map,hz,Option.map_some,hg,zp Z]
     ·rw[zy hij,List.getElem?_map];cases hj:K[j]? with
      |none=>rfl
      |some w=>
       simp only[Option.map_some]
       have hne:key x≠w:=fun he=>by
        subst he;have hjK:=(zg.1 hj).1;rw[List.nodup_iff_pairwise_ne,List.pairwise_iff_getElem]at hnd;have e1:=(zg.1 hz).2;have e2:=(zg.1 hj).2;rcases Nat.lt_or_gt_of_ne hij with h|h
        ·exact hnd i j hiK hjK h (by rw[e1,e2])
        ·exact hnd j i hjK hiK h (by rw[e1,e2])
       rw[hg,zy hne,List.append_nil]
   ·have hany:decide (aL (fun y=>decide (key x=y)) K<0)=true:=by
     have:decide (aL (fun y=>decide (key x=y)) K>=0)=false:=by
      rw[kl,List.any_eq_false];intro y hy he
      have:key x=y:=by simpa using he
      exact hx (this▸hy)
     have:=of_decide_eq_false this
     exact zt (by omega)
    rw[hany,zc,aS (by decide) (by simp;omega),bPs,aS (by decide) (by simp;omega),bPs,bPs];simp only
    have hgi:(K.map (hZ key (l.take k))++[[]])[K.length]? =some []:=by
     rw[List.getElem?_append_right (by simp),zl,Nat.sub_self];rfl
    rw[gp hgi,bPs,aS (by decide) (by simp),bPs,bPs,aX,Int.toNat_natCast];have hkk:gw key K [x]=K++[key x]:=by simp[gw,hx]
    rw[hkk];congr 3
    have hold:hZ key (l.take k) (key x)=[]:=by
     unfold hZ;rw[List.filter_eq_nil_iff];intro y hy he
     have:key y=key x:=by simpa using he
     exact hx (this▸hmem y hy)
    rw[List.map_append,List.set_append_right _ _ (by simp),zl,Nat.sub_self];congr 1
    ·apply List.map_congr_left;intro w hw;have hne:key x≠w:=fun he=>hx (he▸hw)
     rw[hg,zy hne,List.append_nil]
    ·simp[hg,hold])]
 rw[List.take_length]
def tB(op:Rb)(s:Int×LVal)(v:LVal):Int×LVal:=(Iw (s.1+v.int),if(op=sMin/\nW v s.2=true)\/(op=sMax/\nW s.2 v=true)then v else s.2)
def computeQ(op:Rb)(l:Rq):LVal:=
 if op=mC then kL l.length else match l with
  |[]=>.nul
  |v::_=>if op=sSum then kL (l.foldl (tB op) (0,v)).1 else(l.foldl (tB op) (0,v)).2
theorem compute_eq(op:Rb)(l:Rq):ig op l=some (computeQ op l):=by
 unfold ig computeQ;by_cases h1:op=mC
 ·subst h1;rfl
 ·have e1:(op==([99,111,117,110,116]:Rb))=false:=by simpa using h1
  rw[e1,zd,zy h1];cases l with
  |nil=>rfl
  |cons v l=>
   have e2:(((v::l).length:Int)==0)=false:=ci (by simp;omega);rw[e2,zd];have e3:ax (v::l) 0=some v:=rfl;rw[e3,bPs]
   rw[rangeM_fold (xs:=v::l) (tB op) (fun k x _=>by
    generalize(((v::l).take k).foldl (tB op) (0,v))=s
    unfold tB;by_cases m:op=sMin
    ·subst m;simp only[aX];cases nW x s.2<;>simp
    ·have em:(op==([109,105,110]:Rb))=false:=by simpa using m
     rw[em,zd];by_cases n:op=sMax
     ·subst n;simp only[aX];cases nW s.2 x<;>simp
     ·have en:(op==([109,97,120]:Rb))=false:=by simpa using n
      rw[en,zd];simp[m,n]),bPs,bQ]
   by_cases h2:op=sSum
   ·subst h2;rfl
   ·have e4:(op==([115,117,109]:Rb))=false:=by simpa using h2
    rw[e4,zd];simp only;rw[zy h2]
def aggR(r:LRun)(cols:List LCol)(a:LA)(l:Rows):LVal:=match a.args with
 |[]=>kL l.length
 |e::_=>computeQ a.function ((l.map fun x=>er (bs r cols x) e).filter fun v=>v.kind !=0)
theorem aggR_eq(r:LRun)(cols:List LCol)(a:LA)(l:Rows)(hl:l.length<=1000000):lG r a cols l=some (aggR r cols a l):=by
 unfold lG aggR;cases ha:a.args with
 |nil=>rfl
 |cons e es=>
  have e2:(((e::es).length:Int)==0)=false:=ci (by simp;omega);rw[e2,zd]
  rw[rMa (xs:=l) (s:=[]) (fun k=>((l.take k).map fun x=>er (bs r cols x) e).filter fun v=>v.kind !=0) Z (fun k x hk=>by
   have hkl:=(zg.1 hk).1;have e3:ax (e::es) 0=some e:=rfl;rw[e3];simp only[bPs,aX];have hb:(((l.take k).map fun x=>er (bs r cols x) e).filter fun v=>v.kind !=0).length<=k:=Nat.le_trans (List.length_filter_le _ _) (by simp;omega);rw[List.take_add_one,hk,List.map_append,List.filter_append];cases hv:(er (bs r cols x) e).kind !=0 with
   |true=>
    rw[zc,aS (by decide) (by simp at hb⊢;omega),bPs];simp[hv]
   |false=>simp[hv]),bPs,bQ,List.take_length,compute_eq]
  rfl
def qo(r:LRun)(cols:List LCol)(q:LQuery)(l:Rows):Rows:=
 (gw (fun x=>q.exprs.map fun e=>er (bs r cols x) e) (if q.exprs=[]then [[]]else []) l).map fun k=>
  k++q.aggregates.map fun a=>aggR r cols a (hZ (fun x=>q.exprs.map fun e=>er (bs r cols x) e) l k)
theorem group_eq(r:LRun)(cols:List LCol)(q:LQuery)(l:Rows)(hl:l.length<=999999)(he:q.exprs.length<=1000000)(ha:q.aggregates.length<=1000000):kH r q cols l=some (qo r cols q l):=by
 unfold kH qo;generalize hkey:(fun x=>q.exprs.map fun e=>er (bs r cols x) e)=key;have hk:∀x,eB r cols x q.exprs=some (key x):=fun x=>by rw[ur r cols x q.exprs (by omega),<-hkey]
 have hinit:(cond ((q.exprs.length:Int)==(0:Int)) (([[]],[[]])) (([],[])):Rows×List Rows)=((if q.exprs=[]then [[]]else []),((if q.exprs=[]then [[]]else []):Rows).map fun _=>[]):=by
  cases q.exprs with
  |nil=>rfl
  |cons e es=>rw[show(((e::es).length:Int)==0)=false from ci (by simp;omega)];rfl
 rw[aX,hinit];generalize hks:(if q.exprs=[]then [[]]else []:Rows)=ks0;have hks1:ks0.length<=1:=by rw[<-hks];split<;>simp
 have hks2:ks0.Nodup:=by rw[<-hks];split<;>simp
 rw[group_run key q r cols hk ks0 hks2 l (by omega) hks1,bPs,bQ];generalize hK:gw key ks0 l=K;have hKl:K.length<=1000000:=by rw[<-hK];have:=sv key l ks0;omega
 simp only;rw[dM (by rw[zl];omega),bPs,lD (by omega),bPs,Int.toNat_natCast]
 have hgl:∀kk,(hZ key l kk).length<=1000000:=fun kk=>by
  unfold hZ;exact Nat.le_trans (List.length_filter_le _ _) (by omega)
 have hkl:∀k∈K,k.length<=1000000:=fun k hkm=>by
  rw[<-hK]at hkm
  rcases(su key l ks0 k).1 hkm with h|⟨x,_,rfl⟩
  ·rw[<-hks]at h;split at h
   ·simp at h;subst h;simp
   ·simp at h
  ·rw[<-hkey];simpa using he
 rw[rMa (xs:=List.range K.length) (s:=[]) (fun j=>(K.take j).map fun k=>k++q.aggregates.map fun a=>aggR r cols a (hZ key l k)) Z (fun j n hj=>by
  obtain⟨hjl,hjn⟩:=zg.1 hj
  simp at hjl;rw[dG hjl,bPs];have hg:(K.map (hZ key l))[j]? =some (hZ key l K[j]):=by rw[List.getElem?_map,ze hjl];rfl
  rw[rMa (xs:=q.aggregates) (s:=K[j]) (fun i=>K[j]++(q.aggregates.take i).map fun a=>aggR r cols a (hZ key l K[j])) (by simp) (fun i a hi=>by
   have hil:=(zg.1 hi).1;have hkj:=hkl K[j] (List.getElem_mem hjl);rw[gp hg,bPs,aggR_eq r cols a _ (hgl _),bPs,aS (by decide) (by simp;omega),bPs,List.take_add_one,hi];simp),bPs,bQ,aS (by decide) (by simp;omega),bPs,List.take_length]
  congr 2;rw[List.take_add_one,ze hjl,List.map_append];rfl),bPs,bQ]
 simp
theorem idxOC(l:(List LCol))(p:LCol->Bool)(f:LCol->Option Bool)(hf:∀x∈l,f x=some (p x))(hl:l.length<=10000000):cW l f=some (aL p l,l):=by
 unfold cW;rw[lD (by omega),bPs,Int.toNat_natCast]
 obtain⟨fl,hfl,hr⟩:=eI (step:=fun(j1:Nat) (_:Nat) (s1:(List LCol))=>aa (ax s1 (j1:Int)) fun(x14:LCol)=>aa (f x14) fun x16=>cond x16 (some (Flow.ret ((j1:Int),s1))) (some (.next s1)))
  (fun j s=>s=l/\∀x∈l.take j,p x=false) (fun r=>r=(aL p l,l)) (List.range l.length) 0 l ⟨rfl,by simp⟩ (fun k v s hk hI=>by
   simp only[Nat.zero_add]at hI⊢;have hkl:=(zg.1 hk).1;simp at hkl
   obtain⟨rfl,hI⟩:=hI
   rw[dG hkl,bPs,hf _ (List.getElem_mem hkl),bPs];cases hp:p s[k]with
   |true=>exact⟨_,rfl,by simp only;rw[pG hkl hI hp]⟩
   |false=>
    refine⟨_,rfl,rfl,fun x hx=>?_⟩
    rw[List.take_add_one,ze hkl,List.mem_append]at hx;rcases hx with hx|hx
    ·exact hI x hx
    ·simp at hx;rw[hx];exact hp)
 rw[hfl,bPs];cases fl with
 |brk s=>exact absurd hr (by simp)
 |ret r=>rw[pp,hr]
 |next s=>
  simp only[Nat.zero_add,List.length_range,List.take_length]at hr;rw[fX,hr.1,lK hr.2]
theorem deleteCol_eq(l:(List LCol))(p:LCol->Bool)(f:LCol->Option Bool)(hf:∀x∈l,f x=some (p x))(hl:l.length<=1000000):dg l f=some (l.filter fun x=>!p x):=by
 unfold dg;rw[idxOC l p f hf (by omega),bPs];simp only;rw[dM trivial,bPs];by_cases hneg:aL p l=-1
 ·rw[jI hneg,zc];congr 1
  symm
  rw[List.filter_eq_self];intro x hx
  have:decide (aL p l>=0)=false:=by rw[hneg];rfl
  rw[kl]at this
  have:=List.any_eq_false.1 this x hx
  simpa using this
 ·rw[ci hneg,zd];have h0:0<=aL p l:=by rcases idxOf_neg (p:=p) (l:=l)with h|h;exact absurd h hneg;exact h
  obtain⟨i,hi⟩:∃i:Nat,aL p l=i:=⟨(aL p l).toNat,by omega⟩
  have hil:i<l.length:=by have:=vl h0;omega
  have hpre:(l.take i).filter (fun x=>!p x)=l.take i:=by
   rw[List.filter_eq_self];intro x hx
   have:l.findIdx? p=some i:=by
    unfold aL at hi;cases hq:l.findIdx? p with
    |none=>rw[hq]at hi;simp at hi
    |some j=>rw[hq]at hi;exact congrArg some (by have hi:(j:Int)=(i:Int):=hi;omega)
   obtain⟨_,_,hlt⟩:=List.findIdx?_eq_some_iff_getElem.1 this
   obtain⟨j,hj,rfl⟩:=List.mem_take_iff_getElem.1 hx
   simp[hlt j (by omega)]
  have hpi:p l[i]=true:=by
   obtain⟨x,hx,hp⟩:=jH h0
   rw[hi,Int.toNat_natCast,ze hil]at hx;cases hx;exact hp
  rw[hi,Ww (n:=(i:Int)+1) (by omega) (by omega)]
  obtain⟨r,hr,hq⟩:=iG (step:=fun(s1:(List LCol)×Int×Int)=>
   cond (decide (s1.2.2<(s1.1.length:Int)))
    (aa (ax s1.1 s1.2.2) fun(x24:LCol)=>aa (f x24) fun x28=>cond (!x28) (aa (ax s1.1 s1.2.1) fun(_:LCol)=>letP (s1.1.set s1.2.1.toNat x24) fun(y4:(List LCol))=>some (.next (y4,(Iw (s1.2.1+(1:Int))),(Iw (s1.2.2+(1:Int))))))
     (some (.next (s1.1,s1.2.1,(Iw (s1.2.2+(1:Int)))))))
    (some (.brk (s1.1,s1.2.1,s1.2.2)))) (s:=(l,(i:Int),(i:Int)+1)) (k:=fun(s1:(List LCol)×Int×Int)=>aa (qG s1.1 s1.2.1) fun(y5:(List LCol))=>aa (qG y5 s1.2.1) fun(y6:(List LCol))=>some y6) (R:=fun r=>r=l.filter fun x=>!p x)
   (fun s=>∃a j:Nat,s.2.1=a/\s.2.2=j/\a<j/\j<=l.length/\s.1.length=l.length/\s.1.take a=(l.take j).filter (fun x=>!p x)/\s.1.drop j=l.drop j) (fun s=>(l.length-s.2.2).toNat)
   (fun s=>∃a:Nat,s.2.1=a/\a<=s.1.length/\s.1.take a=l.filter fun x=>!p x)
   ⟨i,i+1,rfl,by show(i:Int)+1=((i+1:Nat):Int);omega,by omega,by omega,rfl,by
    show l.take i=_;rw[List.take_add_one,ze hil,List.filter_append,hpre];simp[hpi],rfl⟩
   (fun s hI=>by
    obtain⟨a,j,h1,h2,h3,h4,h5,h6,h7⟩:=hI
    obtain⟨d,s1,s2⟩:=s
    simp only at h1 h2 h5 h6 h7⊢;subst h1;subst h2;by_cases hlt:j<l.length
    ·rw[zt (show(j:Int)<(d.length:Int)from by omega),zc,dG (by omega),bPs]
     have hdj:d[j]? =l[j]?:=by
      have:=congrArg (fun q=>q[0]?) h7
      simpa using this
     have hdje:d[j]=l[j]:=by
      rw[ze (by omega),ze hlt]at hdj;exact Option.some.inj hdj
     have hdrop:∀e:(List LCol),e.drop j=l.drop j->e.drop (j+1)=l.drop (j+1):=fun e he=>by
      rw[<-List.drop_drop,<-List.drop_drop,he]
     rw[hdje,hf _ (List.getElem_mem hlt),bPs,Ww (n:=(j:Int)+1) (by omega) (by omega),Ww (n:=(a:Int)+1) (by omega) (by omega)];cases hp:p l[j]with
     |true=>
      refine⟨_,rfl,⟨a,j+1,rfl,by show(j:Int)+1=((j+1:Nat):Int);omega,by omega,by omega,h5,?_,hdrop d h7⟩,by show((l.length:Int)-((j:Int)+1)).toNat<((l.length:Int)-(j:Int)).toNat;omega⟩
      show d.take a=_;rw[h6,List.take_add_one,ze hlt,List.filter_append];simp[hp]
     |false=>
      simp only[Bool.not_false,zc];rw[dG (by omega),bPs,aX,Int.toNat_natCast]
      refine⟨_,rfl,⟨a+1,j+1,by show(a:Int)+1=((a+1:Nat):Int);omega,by show(j:Int)+1=((j+1:Nat):Int);omega,by omega,by omega,by show(d.set a l[j]).length=l.length;simp[h5],?_,?_⟩,by show((l.length:Int)-((j:Int)+1)).toNat<((l.length:Int)-(j:Int)).toNat;omega⟩
      ·show(d.set a l[j]).take (a+1)=_
       rw[List.take_add_one,List.getElem?_set_self (by omega),List.take_set_of_le (by omega),h6,List.take_add_one,ze hlt,List.filter_append];simp[hp]
      ·show(d.set a l[j]).drop (j+1)=_
       rw[List.drop_set_of_lt (by omega)];exact hdrop d h7
    ·rw[zf (show ¬(j:Int)<(d.length:Int)from by omega)]
     refine⟨_,rfl,a,rfl,by show a<=d.length;omega,?_⟩
     show d.take a=_;rw[h6,List.take_of_length_le (by omega)])
   (fun s hq=>by
    obtain⟨a,h1,h2,h3⟩:=hq
    rw[h1];unfold qG;rw[zp ⟨by omega,by simpa using h2⟩,bPs,Int.toNat_natCast,zp ⟨by omega,by simp;omega⟩,bPs,List.take_take,Nat.min_self]
    exact⟨_,rfl,h3⟩)
  rw[<-hq];exact hr
def SizeOk(q:LQuery):Prop:=(dl q).length<=24/\kV q<=12/\(bw q).2<=20000
instance(q:LQuery):Decidable (SizeOk q):=by unfold SizeOk;infer_instance
theorem check_eq{s:LSchema}{vars:List LCol}{q:LQuery}(h:SmallQ q):∃cs e,iJ s vars q=some (cs,e)/\(e=0↔SizeOk q/\tj (ny q)/\(ia ⟨s,vars⟩ q).2=0)/\(e=0->cs=(ia ⟨s,vars⟩ q).1):=by
 unfold iJ;rw[nodes_ok q h.nodes,bPs];by_cases h1:(dl q).length<=24
 ·rw[zf (show ¬((dl q).length:Int)>24 from by omega),zd,depth_ok q h.nodes,bPs];by_cases h2:kV q<=12
  ·rw[zf (show ¬kV q>12 from by omega),zd];unfold iF;rw[most_ok,bPs,bPs];by_cases h3:(bw q).2<=20000
   ·rw[zf (show ¬(bw q).2>20000 from by omega),bPs,zd,kinds_ok h.nodes,bPs];cases hb:(eX q).2.1 with
    |true=>
     refine⟨[],13,rfl,⟨fun h=>by omega,fun hh=>?_⟩,fun h=>by omega⟩
     rw[kinds_bad.2 hh.2.1]at hb;cases hb
    |false=>
     have hk:=kinds_bad.1 hb;simp only[zd];rw[cols_ok _ q h]
     refine⟨(ia ⟨s,vars⟩ q).1,(ia ⟨s,vars⟩ q).2,rfl,⟨fun h0=>⟨⟨h1,h2,h3⟩,hk,h0⟩,fun hh=>hh.2.2⟩,fun _=>rfl⟩
   ·rw[zt (show(bw q).2>20000 from by omega)]
    exact⟨[],2,rfl,⟨fun h=>by omega,fun hh=>absurd hh.1.2.2 h3⟩,fun h=>by omega⟩
  ·rw[zt (show kV q>12 from by omega)]
   exact⟨[],2,rfl,⟨fun h=>by omega,fun hh=>absurd hh.1.2.1 h2⟩,fun h=>by omega⟩
 ·rw[zt (show((dl q).length:Int)>24 from by omega)]
  exact⟨[],2,rfl,⟨fun h=>by omega,fun hh=>absurd hh.1.1 h1⟩,fun h=>by omega⟩
structure TinyQ(q:LQuery):Prop where
 nodes:(dl q).length<=2000000
 here:∀x∈dl q,x.exprs.length<=1000000/\x.aggregates.length<=1000000
theorem TinyQ.small{q:LQuery}(h:TinyQ q):SmallQ q:=⟨by have:=h.nodes;omega,h.here⟩
theorem sm{H:Type}:∀ds:List (DataW H),(ds.map (fun d=>Rows.uptoBulk d)).sum=Rows.uptoBulkAll ds
 |[]=>by simp[Rows.uptoBulkAll]
 |d::ds=>by simp only[List.map_cons,List.sum_cons,Rows.uptoBulkAll,sm ds]
theorem bulk_is:IsBulk (fun _ d=>Rows.uptoBulk d) where
 one:=by
  intro H d;cases d with
  |lit l=>cases l<;>simp[Rows.uptoBulk]
  |nil=>simp[Rows.uptoBulk]
  |ptr d=>simp[Rows.uptoBulk]
  |slice elems spare=>simp[Rows.uptoBulk]
  |agg parts=>simp[Rows.uptoBulk]
  |iface t d=>simp[Rows.uptoBulk]
  |map entries=>simp[Rows.uptoBulk]
  |held h=>simp[Rows.uptoBulk]
 str:=by intro H l;simp[Rows.uptoBulk]
 slice:=by intro H a b;rw[sm];simp only[Rows.uptoBulk];omega
 agg:=by intro H a;rw[sm];simp only[Rows.uptoBulk];omega
theorem kp{r:List PV}:∀{rs:List (List PV)},r∈rs->aT r<=cO rs
 |x::rs,h=>by
  simp only[cO];rcases List.mem_cons.1 h with rfl|h
  ·omega
  ·have:=kp h;omega
theorem li{α:Type}{f:α->List PV}{k:Nat}(hf:∀x,k<=aT (f x)):∀l:List α,k*l.length<=cO (l.map f)
 |[]=>by simp
 |x::l=>by
  have:=li hf l
  have:=hf x
  simp only[List.map_cons,cO,List.length_cons,Nat.mul_add];omega
theorem expr_pos(e:LExpr):2<=aT (eJ e):=by
 cases e;simp only[eJ,aT,PV.bulk];omega
theorem call_pos(c:LA):2<=aT (nz c):=by
 simp only[nz,aT,PV.bulk];omega
theorem smallS_bulk{s:LSchema}{n:Nat}(hn:n<=10000000)(h:aT (cf s)<=n):pi s:=by
 intro t ht
 have h1:cO (s.tables.map bq)<=aT (cf s):=by
  simp only[cf,aT,PV.bulk];omega
 have h2:=kp (List.mem_map_of_mem (f:=bq) ht)
 have h3:cO (t.primaryKey.map bv)<=aT (bq t):=by
  simp only[bq,aT,PV.bulk];omega
 have h4:=li (f:=bv) (k:=1) (fun x=>by simp[aT,PV.bulk]) t.primaryKey;omega
theorem nodes_bulk:∀q:LQuery,(dl q).length+1<=aT (db q)/\∀x∈dl q,2*x.exprs.length<=aT (db q)/\2*x.aggregates.length<=aT (db q):=by
 apply LQuery.ind;intro q ih;have e:aT (db q)=aT (aH q):=by rw[cF]
 have hr:cO (q.inputs.map db)+8<=aT (aH q):=by
  simp only[aH,aT,PV.bulk];omega
 have hsum:∀l:List LQuery,(∀x∈l,x∈q.inputs)->((l.map dl).flatten).length+l.length<=cO (l.map db):=by
  intro l;induction l with
  |nil=>intro _;simp
  |cons x l ihl=>
   intro hm;have h1:=(ih x (hm x (by simp))).1;have h2:=ihl (fun y hy=>hm y (by simp[hy]));simp only[List.map_cons,List.flatten_cons,List.length_append,List.length_cons,cO];omega
 have h0:=hsum q.inputs (fun _ h=>h);rw[e]
 refine⟨?_,fun x hx=>?_⟩
 ·rw[lJ];simp only[List.length_cons];omega
 ·rw[lJ]at hx;rcases List.mem_cons.1 hx with rfl|hx
  ·have h1:=li expr_pos x.exprs;have h2:=li call_pos x.aggregates;constructor
   ·simp only[aH,aT,PV.bulk];omega
   ·simp only[aH,aT,PV.bulk];omega
  ·simp only[List.mem_flatten,List.mem_map]at hx
   obtain⟨l,⟨y,hy,rfl⟩,hx⟩:=hx
   have h1:=(ih y hy).2 x hx;have h2:=kp (List.mem_map_of_mem (f:=db) hy);omega
theorem tiny_bulk{q:LQuery}{n:Nat}(hn:n<=1048576)(h:aT (aH q)<=n):TinyQ q:=by
 rw[<-cF]at h
 have:=nodes_bulk q
 exact⟨by omega,fun x hx=>by have:=this.2 x hx;omega⟩
theorem ml{β:Type}{F:Nat->Option β}{v:Option β}(n:Nat)(h:∀m,n<=m->F m=v):iO F=v:=by
 cases v with
 |some r=>exact tI n h
 |none=>
  cases hl:iO F with
  |none=>rfl
  |some r=>
   obtain⟨k,hk⟩:=limN_ev hl
   have:=hk (max n k) (Nat.le_max_right n k)
   rw[h _ (Nat.le_max_left n k)]at this;cases this
theorem st_lt{l:List LS}{s:LS}(h:s∈l):SizeOf.sizeOf s.body<SizeOf.sizeOf l/\SizeOf.sizeOf s.elseF<SizeOf.sizeOf l:=by
 have:=List.sizeOf_lt_of_mem h
 cases s;simp only[LS.body,LS.elseF,LS.mk.sizeOf_spec]at this⊢;omega
theorem mA{p:List LS->Prop}(h:∀l:List LS,(∀s∈l,p s.body/\p s.elseF)->p l):∀l,p l:=by
 intro l;generalize hn:SizeOf.sizeOf l=n;induction n using Nat.strongRecOn generalizing l with
 |_ n ih=>exact h l fun s hs=>⟨ih _ (hn▸(st_lt hs).1) _ Z,ih _ (hn▸(st_lt hs).2) _ Z⟩
def dX(l:List LS):Nat:=(l.attach.map fun s=>1+dX s.1.body+dX s.1.elseF).sum
termination_by SizeOf.sizeOf l
decreasing_by
 ·exact(st_lt s.2).1
 ·exact(st_lt s.2).2
theorem mj(l:List LS):dX l=(l.map fun s=>1+dX s.body+dX s.elseF).sum:=by
 rw[dX,List.attach_map_val (f:=fun s:LS=>1+dX s.body+dX s.elseF)]
theorem sum_mem{α:Type}{f:α->Nat}:∀{l:List α} {x:α},x∈l->f x<=(l.map f).sum
 |y::l,x,h=>by
  simp only[List.map_cons,List.sum_cons];rcases List.mem_cons.1 h with rfl|h
  ·omega
  ·have:=sum_mem (f:=f) h;omega
theorem rJ{l:List LS}{s:LS}(h:s∈l):1+dX s.body+dX s.elseF<=dX l:=by
 rw[mj l];exact sum_mem (f:=fun s:LS=>1+dX s.body+dX s.elseF) h
theorem sum_take{α:Type}{f:α->Nat}:∀{l:List α} {k:Nat},((l.take k).map f).sum<=(l.map f).sum
 |[],k=>by simp
 |y::l,0=>by simp
 |y::l,k+1=>by simp only[List.take_succ_cons,List.map_cons,List.sum_cons];have:=sum_take (f:=f) (l:=l) (k:=k);omega
theorem sg{l:List LS}{k:Nat}{x:LS}(hk:l[k]? =some x):dX (l.take (k+1))=dX (l.take k)+(1+dX x.body+dX x.elseF)/\dX (l.take (k+1))<=dX l:=by
 rw[mj (l.take (k+1)),mj (l.take k),mj l]
 refine⟨?_,sum_take⟩
 rw[List.take_add_one,hk];simp
theorem stmts_both:∀l:List LS,(∃N,∀n,N<=n->dV n l=bD l)/\bD l=dB bD l:=by
 refine mA fun l ih=>?_
 obtain⟨N,hN⟩:=qm (p:=fun(s:LS) n=>dV n s.body=bD s.body/\dV n s.elseF=bD s.elseF) l (fun s hs=>by
  obtain⟨⟨⟨a,ha⟩,_⟩,⟨⟨b,hb⟩,_⟩⟩:=ih s hs
  exact⟨a+b,fun n hn=>⟨ha n (by omega),hb n (by omega)⟩⟩)
 have key:∀n,N+1<=n->dV n l=dB bD l:=by
  intro n hn
  obtain⟨n,rfl⟩:∃k,n=k+1:=⟨n-1,by omega⟩
  show dB (fun b0=>dV n b0) l=_;simp only[dB];congr 1
  exact js l 0 _ fun k s t hk=>by
   obtain⟨h1,h2⟩:=hN n (by omega) s (cV hk)
   simp only[h1,h2]
 have e:bD l=dB bD l:=ml (N+1) key
 exact⟨⟨N+1,fun n hn=>by rw[key n hn,e]⟩,e⟩
theorem depth_both:∀l:List LS,(∃N,∀n,N<=n->fH n l=ez l)/\ez l=fJ ez l:=by
 refine mA fun l ih=>?_
 obtain⟨N,hN⟩:=qm (p:=fun(s:LS) n=>fH n s.body=ez s.body/\fH n s.elseF=ez s.elseF) l (fun s hs=>by
  obtain⟨⟨⟨a,ha⟩,_⟩,⟨⟨b,hb⟩,_⟩⟩:=ih s hs
  exact⟨a+b,fun n hn=>⟨ha n (by omega),hb n (by omega)⟩⟩)
 have key:∀n,N+1<=n->fH n l=fJ ez l:=by
  intro n hn
  obtain⟨n,rfl⟩:∃k,n=k+1:=⟨n-1,by omega⟩
  show fJ (fun b0=>fH n b0) l=_;simp only[fJ];congr 1
  exact js l 0 _ fun k s t hk=>by
   obtain⟨h1,h2⟩:=hN n (by omega) s (cV hk)
   simp only[h1,h2]
 have e:ez l=fJ ez l:=ml (N+1) key
 exact⟨⟨N+1,fun n hn=>by rw[key n hn,e]⟩,e⟩
theorem body_both:∀l:List LS,(∃N,∀n,N<=n->∀c vars,cn n c vars l=be c vars l)/\
  (∀c vars,be c vars l=dD be bV c vars l)/\
  ∀s∈l,∀c vars,bV c vars s=cA be bV c vars s:=by
 refine mA fun l ih=>?_
 have hs:∀s∈l,(∃N,∀n,N<=n->∀c vars,cz n c vars s=bV c vars s)/\∀c vars,bV c vars s=cA be bV c vars s:=by
  intro s hsm
  obtain⟨⟨⟨a,ha⟩,_,_⟩,⟨⟨b,hb⟩,_,_⟩⟩:=ih s hsm
  have key:∀n,a+b+1<=n->∀c vars,cz n c vars s=cA be bV c vars s:=by
   intro n hn c vars
   obtain⟨n,rfl⟩:∃k,n=k+1:=⟨n-1,by omega⟩
   show cA (fun b0 b1 b2=>cn n b0 b1 b2) (fun b0 b1 b2=>cz n b0 b1 b2) c vars s=_;have h1:∀v,cn n c v s.body=be c v s.body:=fun v=>ha n (by omega) c v
   have h2:∀v,cn n c v s.elseF=be c v s.elseF:=fun v=>hb n (by omega) c v
   simp only[cA,h1,h2]
  have e:∀c vars,bV c vars s=cA be bV c vars s:=fun c vars=>ml _ (fun m hm=>key m hm c vars)
  exact⟨⟨a+b+1,fun n hn c vars=>by rw[key n hn,e]⟩,e⟩
 obtain⟨N,hN⟩:=qm (p:=fun(s:LS) n=>∀c vars,cz n c vars s=bV c vars s) l (fun s h=>(hs s h).1)
 have key:∀n,N+1<=n->∀c vars,cn n c vars l=dD be bV c vars l:=by
  intro n hn c vars
  obtain⟨n,rfl⟩:∃k,n=k+1:=⟨n-1,by omega⟩
  show dD (fun b0 b1 b2=>cn n b0 b1 b2) (fun b0 b1 b2=>cz n b0 b1 b2) c vars l=_;simp only[dD];congr 1
  exact js l 0 _ fun k s t hk=>by
   have h1:=hN n (by omega) s (cV hk);simp only[h1]
 have e:∀c vars,be c vars l=dD be bV c vars l:=fun c vars=>ml (N+1) (fun m hm=>key m hm c vars)
 exact⟨⟨N+1,fun n hn c vars=>by rw[key n hn,e]⟩,e,fun s h=>(hs s h).2⟩
theorem stmts_ok:∀l:List LS,dX l<=1000000->∃r,bD l=some r/\r.length=dX l:=by
 refine mA fun l ih hc=>?_
 rw[(stmts_both l).2];simp only[dB]
 obtain⟨fl,h1,h2⟩:=eI (step:=fun(_:Nat) (x1:LS) (s1:List LS)=>
  aa (cE 192 s1 ([x1]:List LS)) fun(x15:List LS)=>
  aa (bD x1.body) fun x19=>
  aa (cE 192 x15 x19) fun(x20:List LS)=>
  aa (bD x1.elseF) fun x24=>
  aa (cE 192 x20 x24) fun(x25:List LS)=>
  some (Flow.next (ρ:=Empty) x25)) (fun j (s:List LS)=>s.length=dX (l.take j)) (fun _=>False) l 0 [] (by rw[List.take_zero,mj];rfl) (fun k x s hk hI=>by
   simp only[Nat.zero_add]at hI⊢;have hx:=cV hk;have hm:=rJ hx
   obtain⟨h3,h4⟩:=sg hk
   obtain⟨r1,e1,l1⟩:=(ih x hx).1 (by omega)
   obtain⟨r2,e2,l2⟩:=(ih x hx).2 (by omega)
   refine⟨.next (((s++[x])++r1)++r2),?_,?_⟩
   ·rw[aS (by decide) (by simp;omega),bPs,e1,bPs,aS (by decide) (by simp;omega),bPs,e2,bPs,aS (by decide) (by simp;omega),bPs]
   ·simp only[List.length_append,List.length_cons,List.length_nil];omega)
 rw[h1,bPs];cases fl with
 |next s=>exact⟨s,rfl,by simpa using h2⟩
 |brk s=>exact absurd h2 (by simp)
 |ret r=>exact r.elim
theorem depth_tot:∀l:List LS,Tot (ez l):=by
 refine mA fun l ih=>?_
 rw[(depth_both l).2];simp only[fJ];refine Tot.bind (Tot.range _ _ _ fun k x s hk=>?_) fun fl _=>?_
 ·exact Tot.bind (ih x (cV hk)).1 fun _ _=>Tot.bind (ih x (cV hk)).2 fun _ _=>Tot.mk
 ·cases fl with
  |next s=>exact Tot.mk
  |brk s=>exact Tot.mk
  |ret r=>exact r.elim
theorem shapeP1(l:List Int)(s:LS):bY l s=some (l.any fun x=>s.kind==x):=by
 unfold bY;rw[vb,bPs]
theorem shapeP_tot(s:LS):Tot (iE s):=by
 unfold iE;simp only[shapeP1,bPs];refine Tot.letP ?_
 repeat' (first|exact Tot.mk|refine Tot.cond (fun _=>?_) (fun _=>?_)|refine Tot.bind ?_ (fun _ _=>?_))
structure ShapeP(s:LS):Prop where
 one:s.kind=1\/s.kind=2->s.exprs.length=1
 query:s.kind=3\/s.kind=7->s.query.length=1
 wher:s.kind=5\/s.kind=6->s.whereF.length=1
 upd:s.kind=5->s.exprs.length=s.names.length
 del:s.kind=6->s.exprs.length=0
 code:s.kind=8->1<=s.code/\s.code<=100
theorem orE{a:Bool}{y:Option Bool}(h:cond a (some a) y=some false):a=false/\y=some false:=by
 cases a
 ·exact⟨rfl,h⟩
 ·cases h
theorem orT{a b:Bool}(h:cond a (some true) (some b)=some false):a=false/\b=false:=by
 cases a
 ·exact⟨rfl,Option.some.inj h⟩
 ·cases h
theorem cond_someB{b:Bool}{x y:Option Bool}(h:cond b x y=some true):(b=true/\x=some true)\/(b=false/\y=some true):=by
 cases b
 ·exact .inr ⟨rfl,h⟩
 ·exact .inl ⟨rfl,h⟩
theorem shapeP_ok{s:LS}(h:iE s=some true):ShapeP s:=by
 unfold iE at h;simp only[shapeP1,bPs,aX]at h
 obtain⟨t7,hX,hE⟩:=aA h
 cases t7 with
 |true=>cases hE
 |false=>
 obtain⟨_,h1⟩:=orE hX
 obtain⟨_,h2⟩:=orE h1
 obtain⟨_,h3⟩:=orE h2
 obtain⟨t8,h4,h5⟩:=aA h3
 obtain⟨rfl,h6⟩:=orE h5
 obtain⟨q1,_⟩:=orT h4
 obtain⟨t9,h7,h8⟩:=aA h6
 obtain⟨rfl,_⟩:=orE h8
 obtain⟨w1,_⟩:=orT h7
 simp only[List.any_cons,List.any_nil,Bool.or_false,zd]at q1 w1 hE
 refine⟨?_,?_,?_,?_,?_,?_⟩
 ·intro k;rw[show(s.kind==1||s.kind==2)=true from by simpa using k,zc]at hE
  have:=Option.some.inj hE
  simp at this;omega
 ·intro k;rw[show(s.kind==3||s.kind==7)=true from by simpa using k]at q1;simp at q1;omega
 ·intro k;rw[show(s.kind==5||s.kind==6)=true from by simpa using k]at w1;simp at w1;omega
 ·intro k;rw[k,show((5:Int)==1||(5:Int)==2)=false from Z,zd,show((5:Int)==5)=true from Z,zc]at hE
  obtain⟨a,_⟩|⟨_,a⟩:=cond_someB hE
  ·have:(s.exprs.length:Int)=s.names.length:=by simpa using a
   omega
  ·cases a
 ·intro k;rw[k,show((6:Int)==1||(6:Int)==2)=false from Z,zd,show((6:Int)==5)=false from Z,zd,show((6:Int)==8)=false from Z,zd,show((6:Int)==4)=false from Z,zd]at hE
  have:(s.exprs.length:Int)=0:=by simpa using Option.some.inj hE
  omega
 ·intro k;rw[k,show((8:Int)==1||(8:Int)==2)=false from Z,zd,show((8:Int)==5)=false from Z,zd,show((8:Int)==8)=true from Z,zc]at hE
  obtain⟨a,b⟩|⟨_,a⟩:=cond_someB hE
  ·exact⟨by simpa using a,by simpa using Option.some.inj b⟩
  ·cases a
theorem set_tot{vars:List LCol}{x:LCol}(hl:vars.length<=100000):∃v,kv vars x=some v/\v.length<=vars.length+1:=by
 unfold kv;rw[deleteCol_eq vars (fun a=>iC a x) _ (fun a _=>rfl) (by omega),bPs];have hf:=List.length_filter_le (fun a=>!iC a x) vars;rw[aS (by decide) (by simp only[List.length_cons,List.length_nil];omega),bPs]
 exact⟨_,rfl,by simp only[List.length_append,List.length_cons,List.length_nil];omega⟩
theorem given_tot{c:LC}{q:LQuery}(h:(dl q).length<=10000000):Tot (fy c q):=by
 unfold fy;rw[kinds_ok h,bPs];refine Tot.bind (Tot.range _ _ _ fun k x s hk=>?_) fun fl _=>Tot.thenR fun _ _=>Tot.mk
 refine Tot.cond (fun _=>Tot.cond (fun _=>Tot.mk) fun h=>?_) fun _=>Tot.mk
 refine Tot.bind (Tot.get (by omega) (by simpa using h)) fun _ _=>Tot.cond (fun _=>Tot.mk) fun _=>Tot.mk
theorem sP(c:LC)(cols vars:List LCol)(e:LExpr):Tot (et c cols vars e):=by
 unfold et;refine Tot.letP (Tot.cond (fun _=>Tot.mk) fun _=>Tot.bind (given_tot ?_) fun _ _=>Tot.cond (fun _=>Tot.mk) fun _=>Tot.mk);rw[lJ];simp[LQuery.inputs]
theorem pred_tot(c:LC)(cols vars:List LCol)(e:LExpr):Tot (eD c cols vars e):=by
 unfold eD;exact Tot.bind (sP c cols vars e) fun _ _=>Tot.cond (fun _=>Tot.cond (fun _=>Tot.cond (fun _=>Tot.mk) fun _=>Tot.mk) fun _=>Tot.mk) fun _=>Tot.mk
theorem wH(l:Rs)(v:Rb):Tot (cy l v):=by
 unfold cy fD;refine Tot.bind (Tot.bind (Tot.range _ _ _ fun k x s hk=>?_) fun fl _=>Tot.thenR fun _ _=>Tot.mk) fun _ _=>Tot.mk
 exact Tot.cond (fun _=>Tot.mk) fun _=>Tot.mk
theorem pw{rows:Rows}(h:rows.length<=1000000):iU rows=some rows:=by
 unfold iU
 rw[rMa (xs:=rows) (s:=[]) (fun k=>rows.take k) Z (fun i y hi=>by
  have:=(zg.1 hi).1
  rw[aS (by decide) (by simp;omega),bPs,List.take_add_one,hi];rfl),bPs,bQ,List.take_length]
def ix(cols:List LCol)(row:Rq):Prop:=row.length=cols.length
structure RunOk(r:LRun):Prop where
 inst:InstOk r.s r.st
theorem uv{c:LChecker}{q:LQuery}(h:(ia c q).2=0):nQ q=true/\(∀x∈q.inputs,(ia c x).2=0)/\(kC c q (q.inputs.map fun x=>(ia c x).1)).2=0/\(ia c q).1=(kC c q (q.inputs.map fun x=>(ia c x).1)).1/\((ia c q).1.map LCol.name).Nodup:=by
 rw[colsQ_eq]at h⊢;unfold rI at h⊢;by_cases h1:nQ q=false
 ·simp[h1]at h
 rw[zy h1]at h⊢;by_cases h2:(eN (q.inputs.map (ia c))).2=0
 ·obtain⟨a,b⟩:=ul h2
  have e:(q.inputs.map (ia c)).map (·.1)=q.inputs.map fun x=>(ia c x).1:=by rw[List.map_map];rfl
  rw[e]at b;rw[b]at h⊢;rw[zy (by simpa using h2)]at h⊢;by_cases h3:(kC c q (q.inputs.map fun x=>(ia c x).1)).2=0
  ·rw[zy (by simpa using h3)]at h⊢;by_cases h4:20<(kC c q (q.inputs.map fun x=>(ia c x).1)).1.length
   ·rw[zp h4]at h;simp at h
   ·rw[zy h4]at h⊢;by_cases h5:((kC c q (q.inputs.map fun x=>(ia c x).1)).1.map LCol.name).Nodup
    ·rw[zp h5]at h⊢
     exact⟨by simpa using h1,fun x hx=>a _ (List.mem_map.2 ⟨x,hx,rfl⟩),h3,rfl,h5⟩
    ·rw[zy h5]at h;simp at h
  ·rw[zp h3]at h;exact absurd h h3
 ·rw[zp h2]at h;exact absurd h h2
theorem pO(vars cols:List LCol):∀(es:List LExpr) (ns:Rs),es.length=ns.length->(cS vars cols es ns).2=0->
  (cS vars cols es ns).1.length=es.length/\∀(i:Nat) (e:LExpr),es[i]? =some e->(fI cols vars e).2.2=0/\∃c,(cS vars cols es ns).1[i]? =some c/\c.kind=(fI cols vars e).1/\c.nullable=(fI cols vars e).2.1
 |[],ns,_,_=>by simp[cS]
 |e::es,[],h,_=>by simp at h
 |e::es,n::ns,hl,h=>by
  simp only[cS]at h⊢;by_cases h1:eE n=false
  ·simp[h1]at h
  rw[zy h1]at h⊢;by_cases h2:(fI cols vars e).2.2=0
  ·rw[zy (by simpa using h2)]at h⊢;by_cases h3:(fI cols vars e).1=0
   ·rw[zp h3]at h;simp at h
   ·rw[zy h3]at h⊢;by_cases h4:(cS vars cols es ns).2=0
    ·rw[zy (by simpa using h4)]
     obtain⟨a,b⟩:=pO vars cols es ns (by simpa using hl) h4
     refine⟨by simp[a],fun i e' hi=>?_⟩
     cases i with
     |zero=>simp at hi;subst hi;exact⟨h2,_,rfl,rfl,rfl⟩
     |succ i=>simpa using b i e' (by simpa using hi)
    ·rw[zp h4]at h;exact absurd h h4
  ·rw[zp h2]at h;exact absurd h h2
theorem uA(vars cols:List LCol):∀l:List LA,(eW vars cols l).2=0->
  (eW vars cols l).1.length=l.length/\∀(i:Nat) (a:LA),l[i]? =some a->(aggQ vars cols a).2=0/\∃c,(eW vars cols l).1[i]? =some c/\c.kind=(aggQ vars cols a).1/\c.nullable= !(a.function==mC)
 |[],_=>by simp[eW]
 |a::l,h=>by
  simp only[eW]at h⊢;by_cases h1:(aggQ vars cols a).2=0
  ·rw[zy (by simpa using h1)]at h⊢;by_cases h2:(eW vars cols l).2=0
   ·rw[zy (by simpa using h2)]
    obtain⟨x,y⟩:=uA vars cols l h2
    refine⟨by simp[x],fun i b hi=>?_⟩
    cases i with
    |zero=>simp at hi;subst hi;exact⟨h1,_,rfl,rfl,rfl⟩
    |succ i=>simpa using y i b (by simpa using hi)
   ·rw[zp h2]at h;exact absurd h h2
  ·rw[zp h1]at h;exact absurd h h1
theorem ix.append{a b:List LCol}{x y:Rq}(h:ix a x)(h':ix b y):ix (a++b) (x++y):=by
 unfold ix at h h'⊢;rw[List.length_append,List.length_append,h,h']
theorem capI_eq{n:Int}(h:pH n<=20000):pH n=n:=by
 unfold pH at h⊢;by_cases hc:20001<n
 ·rw[zp hc]at h;omega
 ·rw[zy hc]
theorem jp{q:LQuery}(h:(bw q).2<=20000):(bw q).1<=(bw q).2/\∀x∈q.inputs,(bw x).2<=20000:=by
 have key:∀(l:List (Int×Int)) (j:Nat) (s:Int×Int),s.2<=(fu q.kind j l s).2/\∀x∈l,x.2<=(fu q.kind j l s).2:=by
  intro l;induction l with
  |nil=>intro j s;exact⟨Int.le_refl _,by simp⟩
  |cons y l ih=>
   intro j s
   obtain⟨h1,h2⟩:=ih (j+1) (kF q.kind s j y)
   rw[fu];have h3:s.2<=(kF q.kind s j y).2:=ll _ _;have h4:y.2<=(kF q.kind s j y).2:=qz _ _
   refine⟨by omega,fun x hx=>?_⟩
   rcases List.mem_cons.1 hx with rfl|hx
   ·omega
   ·exact h2 x hx
 have hk:=key (q.inputs.map bw) 0 (0,0);rw[qa]at h⊢;by_cases h1:q.kind=1
 ·rw[zp h1]at h⊢
  refine⟨qz _ _,fun x hx=>?_⟩
  have:=hk.2 (bw x) (List.mem_map.2 ⟨x,hx,rfl⟩)
  have:=ll (fu q.kind 0 (q.inputs.map bw) (0,0)).2 24
  simp only at h;omega
 ·rw[zy h1]at h⊢
  refine⟨qz _ _,fun x hx=>?_⟩
  have:=hk.2 (bw x) (List.mem_map.2 ⟨x,hx,rfl⟩)
  have:=ll (fu q.kind 0 (q.inputs.map bw) (0,0)).2 (fu q.kind 0 (q.inputs.map bw) (0,0)).1
  simp only at h;omega
theorem most_scan{q:LQuery}(h:q.kind=1):(bw q).1=24:=by rw[qa,zp h]
theorem rM{q x:LQuery}(h:(bw q).2<=20000)(hk:q.kind≠1)(hi:q.inputs=[x]):(bw q).1=(bw x).1:=by
 have hm:=jp h;have hx:=hm.2 x (by rw[hi];simp);have hx1:=(jp hx).1;rw[qa,zy hk,hi];show pH (bw x).1=_;unfold pH;rw[zy (by omega)]
theorem pV{q x y:LQuery}(h:(bw q).2<=20000)(hk:q.kind≠1)(hi:q.inputs=[x,y]):(bw q).1=(if q.kind=6 then(bw x).1+(bw y).1 else if q.kind=4\/q.kind=5 then(bw x).1*eu 1 (bw y).1 else(bw x).1):=by
 have hm:=jp h;have hx:=hm.2 x (by rw[hi];simp);have hx1:=(jp hx).1;have h1:=hm.1;have hc:pH (bw x).1=(bw x).1:=by unfold pH;rw[zy (by omega)]
 have e:(bw q).1=pH (if q.kind=6 then(bw x).1+(bw y).1 else if q.kind=4\/q.kind=5 then(bw x).1*eu 1 (bw y).1 else(bw x).1):=by
  rw[qa,zy hk,hi]
  show(kF q.kind (kF q.kind (0,0) 0 (bw x)) 1 (bw y)).1=_
  unfold kF;simp[hc]
 rw[e];exact capI_eq (by rw[<-e];omega)
def bi(r:LRun)(q:LQuery):List LCol:=(ia ⟨r.s,r.vars⟩ q).1
theorem nC{r:LRun}{q:LQuery}(h:SmallQ q):jb r q=some (bi r q):=by
 unfold jb;rw[cols_ok _ q h];rfl
def jJ(r:LRun)(cols:List LCol)(q:LQuery)(x:Rq):Bool:=ma (er (bs r cols x) (e0Q q))
def tz(q:LQuery)(l:Rows):Rows:=(l.take (q.offset.toNat+q.count.toNat)).drop q.offset.toNat
def fh(r:LRun)(q:LQuery)(cs:List (List LCol))(ins:List Rows):Rows:=
 if q.kind=1 then(match r.st.find? fun x=>x.table==q.table with|some x=>x.rows|none=>[])
 else if q.kind=4\/q.kind=5 then mr (jJ r (cs.getD 0 []++cs.getD 1 []) q) (q.kind==5) (List.replicate (cs.getD 1 []).length .nul) (ins.getD 0 []) (ins.getD 1 [])
 else if q.kind=6 then ins.getD 0 []++ins.getD 1 []
 else if q.kind=7 then nV (ins.getD 0 []) (ins.getD 1 [])
 else if q.kind=2 then(ins.getD 0 []).filter (jJ r (cs.getD 0 []) q)
 else if q.kind=3 then(ins.getD 0 []).map fun x=>q.exprs.map fun e=>er (bs r (cs.getD 0 []) x) e
 else if q.kind=8 then qo r (cs.getD 0 []) q (ins.getD 0 [])
 else if q.kind=9 then(iq r q (cs.getD 0 []) (ins.getD 0 [])).getD []
 else tz q (ins.getD 0 [])
def bc(r:LRun)(q:LQuery):Rows:=fh r q (q.inputs.map (bi r)) (q.inputs.attach.map fun x=>bc r x.1)
termination_by SizeOf.sizeOf q
decreasing_by exact LQuery.inputs_lt x.2
theorem fM(r:LRun)(q:LQuery):bc r q=fh r q (q.inputs.map (bi r)) (q.inputs.map (bc r)):=by
 rw[bc,List.attach_map_val (f:=bc r)]
theorem find_st{s:LSchema}{st:List LW}(h:InstOk s st)(name:Rb):∀t,s.tables.find? (fun t=>t.name==name)=some t->∃x,st.find? (fun x=>x.table==name)=some x/\x.rows.length<=24/\∀row∈x.rows,ix t.columns row:=by
 obtain⟨hl,ho,ht⟩:=h
 intro t hf;generalize s.tables=ts at*;induction ts generalizing st with
 |nil=>simp at hf
 |cons a ts ih=>
  cases st with
  |nil=>simp at hl
  |cons r st=>
   obtain⟨h1,h2,h3⟩:=ht 0 r a Z Z
   rw[List.find?_cons]at hf⊢;rw[h1];cases hn:a.name==name with
   |true=>
    rw[hn]at hf;simp at hf;subst hf
    exact⟨r,rfl,h2,fun row hrow=>(h3 row hrow).1⟩
   |false=>
    rw[hn]at hf;simp only at hf⊢;exact ih (by simpa using hl) (fun i r' t' a b=>ho (i+1) r' t' (by simpa using a) (by simpa using b)) (fun i r' t' a b=>ht (i+1) r' t' (by simpa using a) (by simpa using b)) hf
structure RowsOk(r:LRun)(q:LQuery):Prop where
 pos:1<=(bw q).1
 len:((bc r q).length:Int)<=(bw q).1
 fits:∀row∈bc r q,ix (bi r q) row
structure QOk(r:LRun)(q:LQuery):Prop where
 small:SmallQ q
 cols:(ia ⟨r.s,r.vars⟩ q).2=0
 most:(bw q).2<=20000
theorem QOk.sub{r:LRun}{q x:LQuery}(h:QOk r q)(hx:x∈q.inputs):QOk r x:=
 ⟨h.small.sub hx,(uv h.cols).2.1 x hx,(jp h.most).2 x hx⟩
theorem joinR_mem{f:Rq->Bool}{left:Bool}{pad row:Rq}{a b:Rows}(h:row∈mr f left pad a b):∃x∈a,(∃y∈b,row=x++y)\/(left=true/\row=x++pad):=by
 unfold mr at h
 obtain⟨l,hl,hr⟩:=List.mem_flatten.1 h
 obtain⟨x,hx,rfl⟩:=List.mem_map.1 hl
 refine⟨x,hx,?_⟩
 unfold padR at hr;split at hr
 ·rename_i hc;simp at hr;exact .inr ⟨hc.1,hr⟩
 ·unfold jN at hr
  obtain⟨y,hy,rfl⟩:=List.mem_map.1 (List.mem_filter.1 hr).1
  exact .inl ⟨y,hy,rfl⟩
theorem two{q:LQuery}(h:q.inputs.length=2):∃x y,q.inputs=[x,y]:=by
 match hq:q.inputs,h with
 |[x,y],_=>exact⟨x,y,rfl⟩
theorem one{q:LQuery}(h:q.inputs.length=1):∃x,q.inputs=[x]:=by
 match hq:q.inputs,h with
 |[x],_=>exact⟨x,rfl⟩
theorem colsR_out{r:LRun}{q:LQuery}(h:QOk r q):(kC ⟨r.s,r.vars⟩ q (q.inputs.map (bi r))).2=0/\bi r q=(kC ⟨r.s,r.vars⟩ q (q.inputs.map (bi r))).1:=by
 obtain⟨_,_,h3,h4,_⟩:=uv h.cols
 exact⟨h3,h4⟩
theorem set_fits{kind:Int}{a b:List LCol}{row:Rq}(h:(mH kind a b).2=0)(hr:ix a row\/ix b row):ix (mH kind a b).1 row:=by
 unfold mH ix at*;by_cases hc:a.length=b.length/\a.map LCol.kind=b.map LCol.kind
 ·rw[zp hc];rcases hr with hr|hr<;>simp[hr,hc.1]
 ·rw[zy hc]at h;simp at h
theorem join_fits{a b:List LCol}{left:Bool}{x y:Rq}(hx:ix a x)(hy:ix b y):ix (ld a b left) (x++y):=by
 unfold ld;exact hx.append (by unfold ix at hy⊢;rw[zl,hy])
theorem pad_fits{a b:List LCol}{x:Rq}(hx:ix a x):ix (ld a b true) (x++List.replicate b.length .nul):=by
 unfold ld;exact hx.append (by unfold ix;simp)
theorem rows_fit{r:LRun}(hr:RunOk r):∀q:LQuery,QOk r q->RowsOk r q:=by
 refine LQuery.ind fun q ih h=>?_
 have hs:=shape_ok (uv h.cols).1
 obtain⟨ho,hcol⟩:=colsR_out h
 have hself:=h.small.self;have hm:=(jp h.most).1;have kk:q.kind=1\/q.kind=2\/q.kind=3\/q.kind=4\/q.kind=5\/q.kind=6\/q.kind=7\/q.kind=8\/q.kind=9\/q.kind=10:=by have:=hs.kind;omega
 have hall:∀x∈q.inputs,RowsOk r x:=fun x hx=>ih x hx (h.sub hx)
 rcases kk with k|k|k|k|k|k|k|k|k|k
 ·--scan
  have hmq:=most_scan k;unfold kC at ho hcol;rw[zp k]at ho hcol;cases hf:r.s.tables.find? (fun t=>t.name==q.table)with
  |none=>rw[hf]at ho;simp at ho
  |some t=>
   rw[hf]at hcol
   obtain⟨x,hx,hl,hfit⟩:=find_st hr.inst q.table t hf
   have e:bc r q=x.rows:=by rw[fM];unfold fh;rw[zp k,hx]
   exact⟨by omega,by rw[e];omega,by rw[e,hcol];exact hfit⟩
 all_goals have har:=hs.arity
 all_goals rw[k]at har
 all_goals simp only[ru]at har
 ·--filter
  obtain⟨x,hi⟩:=one (q:=q) (by simpa using har)
  have hx:=hall x (by rw[hi];simp);have hmq:=rM h.most (by omega) hi;rw[hi]at hcol ho;unfold kC at ho hcol;rw[zy (by omega),zp k]at ho hcol;have e:bc r q=(bc r x).filter (jJ r (bi r x) q):=by rw[fM,hi];unfold fh;rw[zy (by omega),zy (by omega),zy (by omega),zy (by omega),zp k];rfl
  have hcx:bi r q=bi r x:=hcol
  have:=List.length_filter_le (jJ r (bi r x) q) (bc r x)
  refine⟨by rw[hmq];exact hx.pos,by rw[hmq,e];have:=hx.len;omega,fun row hrow=>?_⟩
  rw[e]at hrow;rw[hcx];exact hx.fits row (List.mem_filter.1 hrow).1
 ·--project
  obtain⟨x,hi⟩:=one (q:=q) (by simpa using har)
  have hx:=hall x (by rw[hi];simp);have hmq:=rM h.most (by omega) hi;rw[hi]at hcol ho;unfold kC at ho hcol;rw[zy (by omega),zy (by omega),zy (by omega),zy (by omega),zp (.inl k)]at ho hcol;have e:bc r q=(bc r x).map fun y=>q.exprs.map fun e=>er (bs r (bi r x) y) e:=by rw[fM,hi];unfold fh;rw[zy (by omega),zy (by omega),zy (by omega),zy (by omega),zy (by omega),zp k];rfl
  have hag:q.aggregates=[]:=hs.aggs (by omega);change (oS r.vars (bi r x) q).2=0 at ho;change bi r q=(oS r.vars (bi r x) q).1 at hcol;unfold oS at ho hcol;by_cases hn:(cS r.vars (bi r x) q.exprs q.names).2=0
  ·rw[zy (by simpa using hn),hag]at hcol;simp only[eW,ne_eq,not_true_eq_false,if_false,List.append_nil]at hcol
   obtain⟨hl,hinv⟩:=pO r.vars (bi r x) q.exprs q.names (hs.named (.inl k)) hn
   refine⟨by rw[hmq];exact hx.pos,by rw[hmq,e];simpa using hx.len,fun row hrow=>?_⟩
   rw[e]at hrow
   obtain⟨y,hy,rfl⟩:=List.mem_map.1 hrow
   rw[hcol];unfold ix;rw[zl,hl]
  ·rw[zp hn]at ho;exact absurd ho hn
 ·--inner join
  obtain⟨x,y,hi⟩:=two (q:=q) (by simpa using har)
  have hx:=hall x (by rw[hi];simp);have hy:=hall y (by rw[hi];simp);have hmq:=pV h.most (by omega) hi;rw[zy (by omega),zp (.inl k)]at hmq;rw[hi]at hcol ho;unfold kC at ho hcol;rw[zy (by omega),zy (by omega),zp (.inl k)]at ho hcol;have e:bc r q=mr (jJ r (bi r x++bi r y) q) (q.kind==5) (List.replicate (bi r y).length .nul) (bc r x) (bc r y):=by rw[fM,hi];unfold fh;rw[zy (by omega),zp (.inl k)];rfl
  have hcx:bi r q=ld (bi r x) (bi r y) (q.kind==5):=hcol;have hb:=uU (jJ r (bi r x++bi r y) q) (q.kind==5) (List.replicate (bi r y).length .nul) (bc r x) (bc r y);have hxl:=hx.len;have hyl:=hy.len;have hpos:=hx.pos;have h1m:1<=eu 1 (bw y).1/\((max 1 (bc r y).length:Nat):Int)<=eu 1 (bw y).1:=⟨ll _ _,by have:=ll 1 (bw y).1;have:=qz 1 (bw y).1;omega⟩
  refine⟨?_,?_,fun row hrow=>?_⟩
  ·rw[hmq];exact Int.le_trans hpos (by have:=Int.mul_le_mul_of_nonneg_left h1m.1 (show 0<=(bw x).1 by omega);omega)
  ·rw[e,hmq]
   have h2:(((bc r x).length*max 1 (bc r y).length:Nat):Int)<=(bw x).1*eu 1 (bw y).1:=by
    rw[Int.natCast_mul];exact Int.mul_le_mul hxl h1m.2 (by omega) (by omega)
   omega
  ·rw[e]at hrow;rw[hcx]
   obtain⟨u,hu,⟨v,hv,rfl⟩|⟨hl,rfl⟩⟩:=joinR_mem hrow
   ·exact join_fits (hx.fits u hu) (hy.fits v hv)
   ·rw[hl];exact pad_fits (hx.fits u hu)
 ·--left join
  obtain⟨x,y,hi⟩:=two (q:=q) (by simpa using har)
  have hx:=hall x (by rw[hi];simp);have hy:=hall y (by rw[hi];simp);have hmq:=pV h.most (by omega) hi;rw[zy (by omega),zp (.inr k)]at hmq;rw[hi]at hcol ho;unfold kC at ho hcol;rw[zy (by omega),zy (by omega),zp (.inr k)]at ho hcol;have e:bc r q=mr (jJ r (bi r x++bi r y) q) (q.kind==5) (List.replicate (bi r y).length .nul) (bc r x) (bc r y):=by rw[fM,hi];unfold fh;rw[zy (by omega),zp (.inr k)];rfl
  have hcx:bi r q=ld (bi r x) (bi r y) (q.kind==5):=hcol;have hb:=uU (jJ r (bi r x++bi r y) q) (q.kind==5) (List.replicate (bi r y).length .nul) (bc r x) (bc r y);have hxl:=hx.len;have hyl:=hy.len;have hpos:=hx.pos;have h1m:1<=eu 1 (bw y).1/\((max 1 (bc r y).length:Nat):Int)<=eu 1 (bw y).1:=⟨ll _ _,by have:=ll 1 (bw y).1;have:=qz 1 (bw y).1;omega⟩
  refine⟨?_,?_,fun row hrow=>?_⟩
  ·rw[hmq];exact Int.le_trans hpos (by have:=Int.mul_le_mul_of_nonneg_left h1m.1 (show 0<=(bw x).1 by omega);omega)
  ·rw[e,hmq]
   have h2:(((bc r x).length*max 1 (bc r y).length:Nat):Int)<=(bw x).1*eu 1 (bw y).1:=by
    rw[Int.natCast_mul];exact Int.mul_le_mul hxl h1m.2 (by omega) (by omega)
   omega
  ·rw[e]at hrow;rw[hcx]
   obtain⟨u,hu,⟨v,hv,rfl⟩|⟨hl,rfl⟩⟩:=joinR_mem hrow
   ·exact join_fits (hx.fits u hu) (hy.fits v hv)
   ·rw[hl];exact pad_fits (hx.fits u hu)
 ·--union
  obtain⟨x,y,hi⟩:=two (q:=q) (by simpa using har)
  have hx:=hall x (by rw[hi];simp);have hy:=hall y (by rw[hi];simp);have hmq:=pV h.most (by omega) hi;rw[zp k]at hmq;rw[hi]at hcol ho;unfold kC at ho hcol;rw[zy (by omega),zy (by omega),zy (by omega),zp (.inl k)]at ho hcol;have e:bc r q=bc r x++bc r y:=by rw[fM,hi];unfold fh;rw[zy (by omega),zy (by omega),zp k];rfl
  change (mH q.kind (bi r x) (bi r y)).2=0 at ho;change bi r q=(mH q.kind (bi r x) (bi r y)).1 at hcol
  have:=hx.len
  have:=hy.len
  have:=hx.pos
  have:=hy.pos
  refine⟨by omega,by rw[e,hmq];simp;omega,fun row hrow=>?_⟩
  rw[e]at hrow;rw[hcol];rcases List.mem_append.1 hrow with hrow|hrow
  ·exact set_fits ho (.inl (hx.fits row hrow))
  ·exact set_fits ho (.inr (hy.fits row hrow))
 ·--difference
  obtain⟨x,y,hi⟩:=two (q:=q) (by simpa using har)
  have hx:=hall x (by rw[hi];simp);have hmq:=pV h.most (by omega) hi;rw[zy (by omega),zy (by omega)]at hmq;rw[hi]at hcol ho;unfold kC at ho hcol;rw[zy (by omega),zy (by omega),zy (by omega),zp (.inr k)]at ho hcol;have e:bc r q=nV (bc r x) (bc r y):=by rw[fM,hi];unfold fh;rw[zy (by omega),zy (by omega),zy (by omega),zp k];rfl
  change (mH q.kind (bi r x) (bi r y)).2=0 at ho;change bi r q=(mH q.kind (bi r x) (bi r y)).1 at hcol;have hsub:=vc (bc r x) (bc r y)
  have:=hsub.length_le
  have:=hx.len
  have:=hx.pos
  refine⟨by omega,by rw[e,hmq];omega,fun row hrow=>?_⟩
  rw[e]at hrow;rw[hcol];exact set_fits ho (.inl (hx.fits row (hsub.subset hrow)))
 ·--aggregation
  obtain⟨x,hi⟩:=one (q:=q) (by simpa using har)
  have hx:=hall x (by rw[hi];simp);have hmq:=rM h.most (by omega) hi;rw[hi]at hcol ho;unfold kC at ho hcol;rw[zy (by omega),zy (by omega),zy (by omega),zy (by omega),zp (.inr k)]at ho hcol;have e:bc r q=qo r (bi r x) q (bc r x):=by rw[fM,hi];unfold fh;rw[zy (by omega),zy (by omega),zy (by omega),zy (by omega),zy (by omega),zy (by omega),zp k];rfl
  change (oS r.vars (bi r x) q).2=0 at ho;change bi r q=(oS r.vars (bi r x) q).1 at hcol;have hxl:=hx.len;have hxp:=hx.pos;have hxm:=(jp h.most).2 x (by rw[hi];simp);have hxm1:=(jp hxm).1;unfold oS at ho hcol;by_cases hn:(cS r.vars (bi r x) q.exprs q.names).2=0
  ·rw[zy (by simpa using hn)]at hcol ho;by_cases hg:(eW r.vars (bi r x) q.aggregates).2=0
   ·rw[zy (by simpa using hg)]at hcol
    obtain⟨hl,hinv⟩:=pO r.vars (bi r x) q.exprs q.names (hs.named (.inr k)) hn
    obtain⟨hl2,hinv2⟩:=uA r.vars (bi r x) q.aggregates hg
    have hkeys:=sv (fun x_1=>q.exprs.map fun e=>er (bs r (bi r x) x_1) e) (bc r x) (if q.exprs=[]then [[]]else [])
    have hlen:((qo r (bi r x) q (bc r x)).length:Int)<=(bw x).1:=by
     unfold qo;rw[zl];by_cases hee:q.exprs=[]
     ·--without keys there is one group
      have:∀(l ks:Rows),ks=[[]]->gw (fun x_1=>q.exprs.map fun e=>er (bs r (bi r x) x_1) e) ks l=[[]]:=by
       intro l;induction l with
       |nil=>intro ks hk;simpa[gw]using hk
       |cons z l ih2=>
        intro ks hk;rw[gw];refine ih2 _ ?_;rw[zp (by rw[hk,hee];simp),hk]
      rw[this _ _ (by rw[zp hee])];simp;omega
     ·rw[zy hee]at hkeys⊢;simp at hkeys;omega
    refine⟨by rw[hmq];exact hxp,by rw[hmq,e];exact hlen,fun row hrow=>?_⟩
    rw[e]at hrow;rw[hcol];unfold qo at hrow
    obtain⟨kk,hkk,rfl⟩:=List.mem_map.1 hrow
    refine ix.append ?_ ?_
    ·rcases(su _ _ _ _).1 hkk with hk0|⟨y,hy,rfl⟩
     ·split at hk0
      ·rename_i hee;simp at hk0;subst hk0;rw[hee]at hl⊢;unfold ix;simpa using hl.symm
      ·simp at hk0
     ·unfold ix;rw[zl,hl]
    ·unfold ix;simp[hl2]
   ·rw[zp hg]at ho;exact absurd ho hg
  ·rw[zp hn]at ho;exact absurd ho hn
 ·--sort
  obtain⟨x,hi⟩:=one (q:=q) (by simpa using har)
  have hx:=hall x (by rw[hi];simp);have hmq:=rM h.most (by omega) hi;rw[hi]at hcol ho;unfold kC at ho hcol;rw[zy (by omega),zy (by omega),zy (by omega),zy (by omega),zy (by omega),zp k]at ho hcol;have hxm:=(jp h.most).2 x (by rw[hi];simp);have hxm1:=(jp hxm).1;have hxl:=hx.len
  obtain⟨l',hsort,hperm⟩:=sort_ok r q (bi r x) (bc r x) (by omega) hself.1
  have e:bc r q=l':=by rw[fM,hi];unfold fh;rw[zy (by omega),zy (by omega),zy (by omega),zy (by omega),zy (by omega),zy (by omega),zy (by omega),zp k];show(iq r q (bi r x) (bc r x)).getD []=l';rw[hsort];rfl
  have hcx:bi r q=bi r x:=by
   by_cases hse:lu r.vars (bi r x) q.exprs=0
   ·exact hcol.trans (by show(if lu r.vars (bi r x) q.exprs≠0 then _ else _:List LCol×Int).1=_;rw[zy (by simpa using hse)];rfl)
   ·exact absurd (by
     have:(if lu r.vars (bi r x) q.exprs≠0 then(([],lu r.vars (bi r x) q.exprs):List LCol×Int)else(bi r x,0)).2=0:=ho
     rw[zp hse]at this;exact this) hse
  refine⟨by rw[hmq];exact hx.pos,by rw[hmq,e,hperm.length_eq];exact hxl,fun row hrow=>?_⟩
  rw[e]at hrow;rw[hcx];exact hx.fits row (hperm.mem_iff.1 hrow)
 ·--limit
  obtain⟨x,hi⟩:=one (q:=q) (by simpa using har)
  have hx:=hall x (by rw[hi];simp);have hmq:=rM h.most (by omega) hi;rw[hi]at hcol ho;unfold kC at ho hcol;rw[zy (by omega),zy (by omega),zy (by omega),zy (by omega),zy (by omega),zy (by omega)]at ho hcol;have hcx:bi r q=bi r x:=hcol;have e:bc r q=tz q (bc r x):=by rw[fM,hi];unfold fh;rw[zy (by omega),zy (by omega),zy (by omega),zy (by omega),zy (by omega),zy (by omega),zy (by omega),zy (by omega)];rfl
  have hsub:(tz q (bc r x)).Sublist (bc r x):=(List.drop_sublist _ _).trans (List.take_sublist _ _)
  have:=hsub.length_le
  have:=hx.len
  refine⟨by rw[hmq];exact hx.pos,by rw[hmq,e];omega,fun row hrow=>?_⟩
  rw[e]at hrow;rw[hcx];exact hx.fits row (hsub.subset hrow)
theorem rowLen{cols:List LCol}{row:Rq}(h:ix cols row)(hc:cols.length<=20):row.length<=20:=by rw[show row.length=cols.length from h];exact hc
theorem scan_run(st:List LW)(name:Rb):aa (au (σ:=Unit) (ρ:=(Rows)) (fun(_:Nat) (x1:LW) (_:Unit)=>cond (x1.table==name) (some (.ret x1.rows)) (some (.next ()))) 0 st ()) (fun fl1=>fl1.thenR fun(_:Unit)=>some [])=
  some (match st.find? fun x=>x.table==name with|some x=>x.rows|none=>[]):=by
 rw[sU (fun x:LW=>x.table==name) (fun _ x=>x.rows) st 0 (fun k x _=>by cases x.table==name<;>rfl)];rcases find_idx (fun x:LW=>x.table==name) st with⟨h1,h2⟩|⟨x,h1,h2,h3⟩
 ·rw[h1];unfold aL at h2;cases hf:st.findIdx? (fun x=>x.table==name)with
  |none=>rfl
  |some i=>rw[hf]at h2;simp only at h2;omega
 ·rw[h1];unfold aL at h2 h3;cases hf:st.findIdx? (fun x=>x.table==name)with
  |none=>rw[hf]at h2;simp at h2
  |some i=>
   rw[hf]at h3;simp only[Int.toNat_natCast]at h3;simp only[h3];rfl
theorem limit_run(l:Rows)(q:LQuery)(hl:l.length<=1000000)(hc:0<=q.count)(ho:0<=q.offset):
  oq l (if(l.length:Int)<q.offset then(l.length:Int)else q.offset) (Iw ((if(l.length:Int)<q.offset then(l.length:Int)else q.offset)+(if(Iw ((l.length:Int)-(if(l.length:Int)<q.offset then(l.length:Int)else q.offset)))<q.count then(Iw ((l.length:Int)-(if(l.length:Int)<q.offset then(l.length:Int)else q.offset)))else q.count)))=some (tz q l):=by
 obtain⟨o,ho'⟩:∃o:Nat,q.offset=o:=⟨q.offset.toNat,by omega⟩
 obtain⟨c,hc'⟩:∃c:Nat,q.count=c:=⟨q.count.toNat,by omega⟩
 unfold tz;rw[ho',hc',Int.toNat_natCast,Int.toNat_natCast];by_cases h1:(l.length:Int)<(o:Int)
 ·rw[zp h1,Ww (n:=(l.length:Int)-(l.length:Int)) (by omega) (by omega)];have e:(if(l.length:Int)-(l.length:Int)<(c:Int)then(l.length:Int)-(l.length:Int)else(c:Int))=0:=by split<;>omega
  rw[e,Ww (by omega) (by omega),te ⟨by omega,by omega,by omega⟩];congr 1;rw[List.drop_of_length_le (by simp only[List.length_take];omega)]
  symm
  exact List.drop_of_length_le (by simp only[List.length_take];omega)
 ·rw[zy h1,Ww (n:=(l.length:Int)-(o:Int)) (by omega) (by omega)];by_cases h2:(l.length:Int)-(o:Int)<(c:Int)
  ·rw[zp h2,Ww (by omega) (by omega),te ⟨by omega,by omega,by omega⟩];rw[Int.toNat_natCast,List.take_of_length_le (i:=((o:Int)+((l.length:Int)-(o:Int))).toNat) (by omega),List.take_of_length_le (i:=o+c) (by omega)]
  ·rw[zy h2,Ww (by omega) (by omega),te ⟨by omega,by omega,by omega⟩];rw[Int.toNat_natCast,show((o:Int)+(c:Int)).toNat=o+c from by omega]
theorem join_run2(r:LRun)(q:LQuery)(ca cb:List LCol)(e:LExpr)(he:ax q.exprs 0=some e)(hee:e=e0Q q)(a b:Rows)(ha:∀x∈a,x.length<=20)(hb:∀x∈b,x.length<=20)(hcb:cb.length<=20)(hsz:a.length*max 1 b.length<=30000)(hk:q.kind=4\/q.kind=5):
  aa (au (σ:=List LCol×Rows) (ρ:=Empty) (fun(_:Nat) (x1:Rq) (s1:List LCol×Rows)=>
  aa (au (σ:=Rows×Bool) (ρ:=Empty) (fun(_:Nat) (x6:Rq) (s6:Rows×Bool)=>
   aa (bX ([x1,x6]:Rows)) fun x58=>
   aa (ax q.exprs 0) fun(x65:LExpr)=>
   letP (bs r s1.1 x58) fun x62=>
   letP (er x62 x65) fun x67=>
   letP (ma x67) fun x68=>
   cond x68
    (aa (cE 24 s6.1 ([x58]:Rows)) fun(x72:Rows)=>
    some (.next (x72,true)))
    (some (.next (s6.1,s6.2)))) 0 b (s1.2,false)) fun fl6=>fl6.thenP fun(s6:Rows×Bool)=>
  letP (
   cond (!s6.2)
    ((q.kind==(5:Int)))
    (false)) fun(t7:Bool)=>
  cond t7
   (aa (nT 32 (cb.length:Int)) fun(_:Unit)=>
   aa (bX ([x1,(List.replicate (cb.length:Int).toNat (LVal.mk 0 0 []))]:Rows)) fun x87=>
   aa (cE 24 s6.1 ([x87]:Rows)) fun(x89:Rows)=>
   some (.next (s1.1,x89)))
   (some (.next (s1.1,s6.1)))) 0 a (ca++cb,[])) (fun fl1=>fl1.thenP fun(s1:List LCol×Rows)=>some s1.2)=some (mr (jJ r (ca++cb) q) (q.kind==5) (List.replicate cb.length .nul) a b):=by
 have hpl:∀k,k<=a.length->(mr (jJ r (ca++cb) q) (q.kind==5) (List.replicate cb.length .nul) (a.take k) b).length<=30000:=fun k hk=>by
  have h1:=uU (jJ r (ca++cb) q) (q.kind==5) (List.replicate cb.length .nul) (a.take k) b;rw[List.length_take,Nat.min_eq_left hk]at h1;exact Nat.le_trans h1 (Nat.le_trans (Nat.mul_le_mul_right _ hk) hsz)
 rw[rMa (xs:=a) (s:=(ca++cb,[])) (fun k=>(ca++cb,mr (jJ r (ca++cb) q) (q.kind==5) (List.replicate cb.length .nul) (a.take k) b)) Z (fun k x hkx=>by
  have hkl:=(zg.1 hkx).1;have hxm:=cV hkx
  have hbl:b.length<=30000:=by
   have h1:1*max 1 b.length<=a.length*max 1 b.length:=Nat.mul_le_mul_right _ (by omega);omega
  have h2:=hpl k (by omega);simp only;rw[match_run (jJ r (ca++cb) q) e r (ca++cb) q.exprs he (fun z=>by rw[hee];rfl) x (by have:=ha x hxm;omega) b _ false (fun y hy=>by have:=hb y hy;omega) (by omega),bPs,bQ]
  have hs:mr (jJ r (ca++cb) q) (q.kind==5) (List.replicate cb.length .nul) (a.take (k+1)) b=mr (jJ r (ca++cb) q) (q.kind==5) (List.replicate cb.length .nul) (a.take k) b++padR (jJ r (ca++cb) q) (q.kind==5) (List.replicate cb.length .nul) x b:=by
   unfold mr;rw[List.take_add_one,hkx,List.map_append,List.flatten_append];simp
  rw[hs];simp only[aX,Bool.false_or];have hml:(jN (jJ r (ca++cb) q) x b).length<=30000:=by unfold jN;exact Nat.le_trans (List.length_filter_le _ _) (by simpa using hbl)
  cases hm:jN (jJ r (ca++cb) q) x b with
  |nil=>
   by_cases h5:q.kind=5
   ·have e5:(q.kind==5)=true:=jI h5;simp only[e5,List.isEmpty_nil,Bool.not_true,Bool.not_false,zc];rw[tX ⟨by omega,by omega,by unfold maxLen;omega⟩,bPs,concat2 x _ (by have:=ha x hxm;omega) (by simp;omega),bPs];rw[e5]at h2;rw[aS (by decide) (by simp at h2⊢;omega),bPs];unfold padR;rw[zp ⟨rfl,hm⟩];simp[LVal.nul]
   ·have e5:(q.kind==5)=false:=ci h5;simp only[e5,List.isEmpty_nil,Bool.not_true,Bool.not_false,zc,zd];unfold padR;rw[zy (by simp),hm]
  |cons z zs=>
   simp only[List.isEmpty_cons,Bool.not_false,Bool.not_true,zd];unfold padR;rw[zy (by rw[hm];simp),hm])]
 rw[bPs,bQ,List.take_length]
theorem rows_ev{r:LRun}(hr:RunOk r):∀q:LQuery,QOk r q->∃N,∀n,N<=n->gz n r q=some (bc r q):=by
 refine LQuery.ind fun q ih h=>?_
 have hs:=shape_ok (uv h.cols).1
 obtain⟨ho,hcol⟩:=colsR_out h
 have hself:=h.small.self;have hm:=(jp h.most).1
 obtain⟨N,hN⟩:=qm (p:=fun x n=>gz n r x=some (bc r x)) q.inputs (fun x hx=>ih x hx (h.sub hx))
 have hall:∀x∈q.inputs,RowsOk r x:=fun x hx=>rows_fit hr x (h.sub hx)
 have hsz:∀x∈q.inputs,(bc r x).length<=20000:=fun x hx=>by
  have h1:=(hall x hx).len;have h2:=(jp h.most).2 x hx;have h3:=(jp h2).1;omega
 have hrow:∀x∈q.inputs,∀row∈bc r x,row.length<=20:=fun x hx row hrow=>rowLen ((hall x hx).fits row hrow) (kO _ x)
 refine⟨N+2,fun n hn=>?_⟩
 obtain⟨n,rfl⟩:∃k,n=k+2:=⟨n-2,by omega⟩
 rw[gz];simp only[mw];have kk:q.kind=1\/q.kind=2\/q.kind=3\/q.kind=4\/q.kind=5\/q.kind=6\/q.kind=7\/q.kind=8\/q.kind=9\/q.kind=10:=by have:=hs.kind;omega
 rcases kk with k|k|k|k|k|k|k|k|k|k
 ·rw[jI k,zc,scan_run,fM];unfold fh
  rw[zp k]<;>
   rfl
 all_goals have har:=hs.arity
 all_goals rw[k]at har
 all_goals simp only[ru]at har
 ·--filter
  obtain⟨x,hi⟩:=one (q:=q) (by simpa using har)
  have hxm:x∈q.inputs:=by rw[hi];simp
  have e:bc r q=(bc r x).filter (jJ r (bi r x) q):=by rw[fM,hi];unfold fh;rw[zy (by omega),zy (by omega),zy (by omega),zy (by omega),zp k];rfl
  have hx:=hN (n+1) (by omega) x hxm;rw[k,hi,e];simp only[ax,aX];simp only[show((2:Int)==1)=false from Z,show((2:Int)==4)=false from Z,show((2:Int)==5)=false from Z,show((2:Int)==6)=false from Z,show((2:Int)==7)=false from Z,show((2:Int)==2)=true from Z,zd,zc,Int.le_refl,if_true,Int.toNat_zero,List.getElem?_cons_zero,bPs];rw[hx,bPs,nC (h.small.sub hxm),bPs]
  rw[deleteFunc_eq (bc r x) (fun a=>!jJ r (bi r x) q a) _ (fun a _=>by
   unfold kt;rw[e0_get (by rw[hs.one (.inl k)];omega)];rfl) (by have:=hsz x hxm;omega),bPs]
  simp
 ·--project
  obtain⟨x,hi⟩:=one (q:=q) (by simpa using har)
  have hxm:x∈q.inputs:=by rw[hi];simp
  have e:bc r q=(bc r x).map fun y=>q.exprs.map fun e=>er (bs r (bi r x) y) e:=by rw[fM,hi];unfold fh;rw[zy (by omega),zy (by omega),zy (by omega),zy (by omega),zy (by omega),zp k];rfl
  have hx:=hN (n+1) (by omega) x hxm;rw[k,hi,e];simp only[ax,aX];simp only[show((3:Int)==1)=false from Z,show((3:Int)==4)=false from Z,show((3:Int)==5)=false from Z,show((3:Int)==6)=false from Z,show((3:Int)==7)=false from Z,show((3:Int)==2)=false from Z,show((3:Int)==3)=true from Z,zd,zc,Int.le_refl,if_true,Int.toNat_zero,List.getElem?_cons_zero,bPs];rw[hx,bPs,nC (h.small.sub hxm),bPs]
  rw[np (xs:=bc r x) (fun y=>q.exprs.map fun e=>er (bs r (bi r x) y) e) (fun i y hy=>by
   have hil:=(zg.1 hy).1
   have:=hsz x hxm
   rw[ur r _ _ _ (by omega),bPs,aS (by decide) (by simp;omega),bPs]),bPs,bQ]
 ·--inner join
  obtain⟨x,y,hi⟩:=two (q:=q) (by simpa using har)
  have hxm:x∈q.inputs:=by rw[hi];simp
  have hym:y∈q.inputs:=by rw[hi];simp
  have hmq:=pV h.most (by omega) hi;rw[zy (by omega),zp (.inl k)]at hmq;have e:bc r q=mr (jJ r (bi r x++bi r y) q) (q.kind==5) (List.replicate (bi r y).length .nul) (bc r x) (bc r y):=by rw[fM,hi];unfold fh;rw[zy (by omega),zp (.inl k)];rfl
  have hx:=hN n (by omega) x hxm;have hy:=hN n (by omega) y hym
  have hprod:(bc r x).length*max 1 (bc r y).length<=30000:=by
   have h1m:((max 1 (bc r y).length:Nat):Int)<=eu 1 (bw y).1:=by have:=ll 1 (bw y).1;have:=qz 1 (bw y).1;have:=(hall y hym).len;omega
   have h2:(((bc r x).length*max 1 (bc r y).length:Nat):Int)<=(bw x).1*eu 1 (bw y).1:=by
    rw[Int.natCast_mul];exact Int.mul_le_mul (hall x hxm).len h1m (by omega) (by have:=(hall x hxm).pos;omega)
   have:=h.most
   omega
  rw[ci (show q.kind≠1 by omega),jI k];simp only[zd,zc,aX];rw[iX];simp only[kX];rw[hi];have g0:ax [x,y] 0=some x:=rfl;have g1:ax [x,y] 1=some y:=rfl;simp only[g0,g1,bPs];rw[hx,hy];simp only[bPs];rw[nC (h.small.sub hxm),nC (h.small.sub hym)];simp only[bPs];rw[aS (by decide) (by have:=kO ⟨r.s,r.vars⟩ x;have:=kO ⟨r.s,r.vars⟩ y;unfold bi;omega),bPs];have he1:q.exprs.length=1:=hs.one (.inr (.inl k));rw[join_run2 r q (bi r x) (bi r y) (e0Q q) (e0_get (by omega)) Z (bc r x) (bc r y) (hrow x hxm) (hrow y hym) (kO _ y) hprod (.inl k),bPs,e]
 ·--left join
  obtain⟨x,y,hi⟩:=two (q:=q) (by simpa using har)
  have hxm:x∈q.inputs:=by rw[hi];simp
  have hym:y∈q.inputs:=by rw[hi];simp
  have hmq:=pV h.most (by omega) hi;rw[zy (by omega),zp (.inr k)]at hmq;have e:bc r q=mr (jJ r (bi r x++bi r y) q) (q.kind==5) (List.replicate (bi r y).length .nul) (bc r x) (bc r y):=by rw[fM,hi];unfold fh;rw[zy (by omega),zp (.inr k)];rfl
  have hx:=hN n (by omega) x hxm;have hy:=hN n (by omega) y hym
  have hprod:(bc r x).length*max 1 (bc r y).length<=30000:=by
   have h1m:((max 1 (bc r y).length:Nat):Int)<=eu 1 (bw y).1:=by have:=ll 1 (bw y).1;have:=qz 1 (bw y).1;have:=(hall y hym).len;omega
   have h2:(((bc r x).length*max 1 (bc r y).length:Nat):Int)<=(bw x).1*eu 1 (bw y).1:=by
    rw[Int.natCast_mul];exact Int.mul_le_mul (hall x hxm).len h1m (by omega) (by have:=(hall x hxm).pos;omega)
   have:=h.most
   omega
  rw[ci (show q.kind≠1 by omega),ci (show q.kind≠4 by omega),jI k];simp only[zd,zc,aX];rw[iX];simp only[kX];rw[hi];have g0:ax [x,y] 0=some x:=rfl;have g1:ax [x,y] 1=some y:=rfl;simp only[g0,g1,bPs];rw[hx,hy];simp only[bPs];rw[nC (h.small.sub hxm),nC (h.small.sub hym)];simp only[bPs];rw[aS (by decide) (by have:=kO ⟨r.s,r.vars⟩ x;have:=kO ⟨r.s,r.vars⟩ y;unfold bi;omega),bPs];have he1:q.exprs.length=1:=hs.one (.inr (.inr k));rw[join_run2 r q (bi r x) (bi r y) (e0Q q) (e0_get (by omega)) Z (bc r x) (bc r y) (hrow x hxm) (hrow y hym) (kO _ y) hprod (.inr k),bPs,e]
 ·--union
  obtain⟨x,y,hi⟩:=two (q:=q) (by simpa using har)
  have hxm:x∈q.inputs:=by rw[hi];simp
  have hym:y∈q.inputs:=by rw[hi];simp
  have e:bc r q=bc r x++bc r y:=by rw[fM,hi];unfold fh;rw[zy (by omega),zy (by omega),zp k];rfl
  have hx:=hN (n+1) (by omega) x hxm;have hy:=hN (n+1) (by omega) y hym;rw[ci (show q.kind≠1 by omega),ci (show q.kind≠4 by omega),ci (show q.kind≠5 by omega),jI k,hi];have g0:ax [x,y] 0=some x:=rfl;have g1:ax [x,y] 1=some y:=rfl;simp only[zd,zc,aX,g0,g1,bPs]
  have:=hsz x hxm
  have:=hsz y hym
  rw[hx,hy];simp only[bPs];rw[aS (by decide) (by omega),bPs,e]
 ·--difference
  obtain⟨x,y,hi⟩:=two (q:=q) (by simpa using har)
  have hxm:x∈q.inputs:=by rw[hi];simp
  have hym:y∈q.inputs:=by rw[hi];simp
  have e:bc r q=nV (bc r x) (bc r y):=by rw[fM,hi];unfold fh;rw[zy (by omega),zy (by omega),zy (by omega),zp k];rfl
  have hx:=hN (n+1) (by omega) x hxm;have hy:=hN (n+1) (by omega) y hym;rw[ci (show q.kind≠1 by omega),ci (show q.kind≠4 by omega),ci (show q.kind≠5 by omega),ci (show q.kind≠6 by omega),jI k,hi];have g0:ax [x,y] 0=some x:=rfl;have g1:ax [x,y] 1=some y:=rfl;simp only[zd,zc,aX,g0,g1,bPs]
  have:=hsz x hxm
  have:=hsz y hym
  rw[hx,hy];simp only[bPs];rw[less_eq _ _ (by omega) (by omega),bPs,e]
 ·--aggregation
  obtain⟨x,hi⟩:=one (q:=q) (by simpa using har)
  have hxm:x∈q.inputs:=by rw[hi];simp
  have e:bc r q=qo r (bi r x) q (bc r x):=by rw[fM,hi];unfold fh;rw[zy (by omega),zy (by omega),zy (by omega),zy (by omega),zy (by omega),zy (by omega),zp k];rfl
  have hx:=hN (n+1) (by omega) x hxm;rw[ci (show q.kind≠1 by omega),ci (show q.kind≠4 by omega),ci (show q.kind≠5 by omega),ci (show q.kind≠6 by omega),ci (show q.kind≠7 by omega),ci (show q.kind≠2 by omega),ci (show q.kind≠3 by omega),jI k,hi];have g0:ax [x] 0=some x:=rfl;simp only[zd,zc,aX,g0,bPs];rw[hx,bPs,nC (h.small.sub hxm),bPs]
  have:=hsz x hxm
  rw[group_eq r _ q _ (by omega) hself.1 hself.2,bPs,e]
 ·--sort
  obtain⟨x,hi⟩:=one (q:=q) (by simpa using har)
  have hxm:x∈q.inputs:=by rw[hi];simp
  have:=hsz x hxm
  obtain⟨l',hsort,_⟩:=sort_ok r q (bi r x) (bc r x) (by omega) hself.1
  have e:bc r q=l':=by rw[fM,hi];unfold fh;rw[zy (by omega),zy (by omega),zy (by omega),zy (by omega),zy (by omega),zy (by omega),zy (by omega),zp k];show(iq r q (bi r x) (bc r x)).getD []=l';rw[hsort];rfl
  have hx:=hN (n+1) (by omega) x hxm;rw[ci (show q.kind≠1 by omega),ci (show q.kind≠4 by omega),ci (show q.kind≠5 by omega),ci (show q.kind≠6 by omega),ci (show q.kind≠7 by omega),ci (show q.kind≠2 by omega),ci (show q.kind≠3 by omega),ci (show q.kind≠8 by omega),jI k,hi];have g0:ax [x] 0=some x:=rfl;simp only[zd,zc,aX,g0,bPs];rw[hx,bPs,nC (h.small.sub hxm),bPs,hsort,bPs,e]
 ·--limit
  obtain⟨x,hi⟩:=one (q:=q) (by simpa using har)
  have hxm:x∈q.inputs:=by rw[hi];simp
  have e:bc r q=tz q (bc r x):=by rw[fM,hi];unfold fh;rw[zy (by omega),zy (by omega),zy (by omega),zy (by omega),zy (by omega),zy (by omega),zy (by omega),zy (by omega)];rfl
  have hx:=hN (n+1) (by omega) x hxm;rw[ci (show q.kind≠1 by omega),ci (show q.kind≠4 by omega),ci (show q.kind≠5 by omega),ci (show q.kind≠6 by omega),ci (show q.kind≠7 by omega),ci (show q.kind≠2 by omega),ci (show q.kind≠3 by omega),ci (show q.kind≠8 by omega),ci (show q.kind≠9 by omega),hi];have g0:ax [x] 0=some x:=rfl;simp only[zd,zc,aX,g0,bPs];rw[hx,bPs,nC (h.small.sub hxm),bPs]
  have:=hsz x hxm
  rw[limit_run _ q (by omega) (hs.limit k).1 (hs.limit k).2,bPs,e]
theorem rows_eq{r:LRun}(hr:RunOk r){q:LQuery}(h:QOk r q):oe r q=some (bc r q):=by
 obtain⟨N,hN⟩:=rows_ev hr q h
 exact tI N hN
theorem within_tot{s:LSchema}(hs:pi s)(st:List LW){q:LQuery}(hq:SmallQ q)(args:Rq){vars:List LCol}(vals:Rq)(hv:vars.length<=100000):
  ∃res e,iP s st q args vars vals=some (res,e)/\(e=0->res.columns.length<=20/\res.rows.length<=20000/\∀row∈res.rows,row.length=res.columns.length):=by
 unfold iP
 obtain⟨cs,e,hc,he,hcs⟩:=check_eq (s:=s) (vars:=vars) hq
 obtain⟨g,hg,_⟩:=args_ok hq.nodes args
 obtain⟨f,hf,hfo⟩:=conforms hs st
 rw[hc,bPs];by_cases e0:e=0
 ·rw[iB e0,zd,hg,bPs];by_cases g0:g=0
  ·rw[iB g0,zd,hf,bPs];by_cases f0:f=0
   ·rw[iB f0,zd]
    obtain⟨hsz,_,hco⟩:=he.1 e0
    have hok:∀names,QOk (LRun.mk s st args vars names vals) q:=fun names=>⟨hq,hco,hsz.2.2⟩
    have hr:∀names,RunOk (LRun.mk s st args vars names vals):=fun names=>⟨hfo f0⟩
    rw[np (xs:=vars) LCol.name (fun k x hk=>by
     have:=(zg.1 hk).1
     rw[aS (by decide) (by simp;omega),bPs]),bPs,bQ]
    have hrows:=rows_fit (hr (vars.map LCol.name)) q (hok _)
    have hlen:(bc (LRun.mk s st args vars (vars.map LCol.name) vals) q).length<=20000:=by
     have h1:=hrows.len;have h3:=(jp hsz.2.2).1
     have:=hsz.2.2
     omega
    rw[rows_eq (hr _) (hok _),bPs]
    rw[np (xs:=bc (LRun.mk s st args vars (vars.map LCol.name) vals) q) id (fun k x hk=>by
     have:=(zg.1 hk).1
     rw[aS (by decide) (by simp;omega),bPs];rfl),bPs,bQ]
    refine⟨_,_,rfl,fun _=>⟨?_,by simpa using hlen,fun row hrow=>?_⟩⟩
    ·show cs.length<=20;rw[hcs e0];exact kO _ _
    ·show row.length=cs.length;rw[hcs e0];exact hrows.fits row (by simpa using hrow)
   ·rw[jk f0,zc]
    exact⟨_,_,rfl,fun h=>absurd h f0⟩
  ·rw[jk g0,zc]
   exact⟨_,_,rfl,fun h=>absurd h g0⟩
 ·rw[jk e0,zc]
  exact⟨_,_,rfl,fun h=>absurd h e0⟩
theorem sK{t:LTable}(hsm:t.primaryKey.length<=10000000)(rows:Rows)(hl:rows.length<=100000)(key:Rq):
  ∃(i:Nat) (b:Bool),gQ t rows key=some ((i:Int),b,rows)/\i<=rows.length/\(b=true->i<rows.length):=by
 unfold gQ;rw[lD (by omega),bPs,Int.toNat_natCast]
 obtain⟨fl,hfl,hr⟩:=eI (step:=fun(j1:Nat) (_:Nat) (s1:Rz)=>
  aa (ax s1 (j1:Int)) fun(x16:Rq)=>
  aa (cu t x16) fun x20=>
  aa (bM x20 key) fun x22=>
  cond (decide (x22>=(0:Int)))
   (some (Flow.ret (σ:=Rz) ((j1:Int),(x22==(0:Int)),s1)))
   (some (.next s1))) (fun _ s=>s=rows) (fun r=>∃(i:Nat) (b:Bool),r=((i:Int),b,rows)/\i<rows.length) (List.range rows.length) 0 rows Z (fun k z s hk hI=>by
    have hkl:=(zg.1 hk).1;simp only[List.length_range]at hkl;simp only[Nat.zero_add]at hI⊢;subst hI
    obtain⟨k1,h1,l1⟩:=vF t s[k] hsm
    obtain⟨z,hz⟩:=oT k1 key (by rw[l1];exact hsm)
    rw[dG hkl,bPs,h1,bPs,hz,bPs];cases decide (z>=0)with
    |true=>exact⟨_,rfl,k,_,rfl,hkl⟩
    |false=>exact⟨_,rfl,rfl⟩)
 rw[hfl,bPs];cases fl with
 |brk s=>exact absurd hr (by simp)
 |ret r=>
  obtain⟨i,b,rfl,hi⟩:=hr
  exact⟨i,b,rfl,by omega,fun _=>hi⟩
 |next s=>
  simp only at hr;rw[hr]
  exact⟨rows.length,false,rfl,Nat.le_refl _,fun h=>by cases h⟩
theorem upsert_tot{t:LTable}(hsm:t.primaryKey.length<=10000000)(rows:Rows)(hl:rows.length<=1000)(row:Rq):
  ∃rs,gT t rows row=some rs/\rs.length<=rows.length+1/\∀x∈rs,x∈rows\/x=row:=by
 unfold gT
 obtain⟨k,hk,_⟩:=vF t row hsm
 obtain⟨i,b,hf,hi,hb⟩:=sK hsm rows (by omega) k
 rw[pw (by omega),bPs,hk,bPs,hf,bPs,dM Z,bPs];cases b with
 |true=>
  have hi:=hb Z;simp only[zc];rw[dG hi,bPs,aX,Int.toNat_natCast]
  exact⟨_,rfl,by rw[List.length_set];omega,fun x hx=>(List.mem_or_eq_of_mem_set hx)⟩
 |false=>
  simp only[zd];unfold insI;rw[zp ⟨by omega,by omega,by omega⟩,Int.toNat_natCast]
  refine⟨_,rfl,by simp;omega,fun x hx=>?_⟩
  rcases List.mem_append.1 hx with h|h
  ·exact .inl (List.mem_of_mem_take h)
  ·rcases List.mem_cons.1 h with rfl|h
   ·exact .inr Z
   ·exact .inl (List.mem_of_mem_drop h)
theorem delete_tot{t:LTable}(hsm:t.primaryKey.length<=10000000)(rows:Rows)(hl:rows.length<=1000)(key:Rq):
  ∃rs b,gO t rows key=some (rs,b)/\rs.length<=rows.length/\∀x∈rs,x∈rows:=by
 unfold gO
 obtain⟨i,b,hf,hi,hb⟩:=sK hsm rows (by omega) key
 rw[pw (by omega),bPs,hf,bPs,dM Z,bPs];cases b with
 |false=>exact⟨_,_,rfl,Nat.le_refl _,fun x hx=>hx⟩
 |true=>
  have hi:=hb Z;simp only[Bool.not_true,zd];rw[Ww (by omega) (by omega)];unfold oM;rw[zp ⟨by omega,by omega,by omega⟩,bPs]
  refine⟨_,_,rfl,?_,fun x hx=>?_⟩
  ·simp;omega
  ·rcases List.mem_append.1 hx with h|h
   ·exact List.mem_of_mem_take h
   ·exact List.mem_of_mem_drop h
def Ok{α:Type}(o:Option α)(P:α->Prop):Prop:=∃v,o=some v/\P v
theorem Ok.mk{α:Type}{v:α}{P:α->Prop}(h:P v):Ok (some v) P:=⟨v,rfl,h⟩
theorem Ok.tot{α:Type}{o:Option α}(h:Tot o):Ok o fun _=>True:=by
 obtain⟨v,e⟩:=h
 exact⟨v,e,trivial⟩
theorem Ok.mono{α:Type}{o:Option α}{P Q:α->Prop}(h:Ok o P)(k:∀v,P v->Q v):Ok o Q:=by
 obtain⟨v,e,hv⟩:=h
 exact⟨v,e,k v hv⟩
theorem Ok.bind{α β:Type}{o:Option α}{k:α->Option β}{P:α->Prop}{Q:β->Prop}(h:Ok o P)(hk:∀v,P v->Ok (k v) Q):Ok (aa o k) Q:=by
 obtain⟨v,rfl,hv⟩:=h
 exact hk v hv
theorem Ok.cond{α:Type}{b:Bool}{x y:Option α}{Q:α->Prop}(hx:b=true->Ok x Q)(hy:b=false->Ok y Q):Ok (cond b x y) Q:=by
 cases b
 ·exact hy Z
 ·exact hx Z
theorem Ok.letP{α β:Type}{a:α}{k:α->Option β}{Q:β->Prop}(h:Ok (k a) Q):Ok (letP a k) Q:=h
def lV{σ ρ:Type}(N B:σ->Prop)(Q:ρ->Prop):Flow σ ρ->Prop
 | .next s=>N s
 | .brk s=>B s
 | .ret r=>Q r
theorem Ok.range{α σ ρ:Type}{step:Nat->α->σ->Option (Flow σ ρ)}{I:Nat->σ->Prop}{B:σ->Prop}{Q:ρ->Prop}:∀{xs:List α} {j:Nat} {s:σ},I j s->
  (∀k x s,xs[k]? =some x->I (j+k) s->Ok (step (j+k) x s) (lV (I (j+k+1)) B Q))->Ok (au step j xs s) (lV (fun s=>I (j+xs.length) s\/B s) (fun _=>False) Q)
 |[],j,s,h,_=>⟨.next s,rfl,.inl (by simpa using h)⟩
 |x::xs,j,s,h,hs=>by
  obtain⟨fl,h1,h2⟩:=hs 0 x s Z (by simpa using h)
  rw[Nat.add_zero]at h1 h2;cases fl with
  |next s'=>
   obtain⟨fl,h3,h4⟩:=Ok.range (step:=step) (I:=I) (B:=B) (Q:=Q) (xs:=xs) (j:=j+1) (s:=s') h2 (fun k y t hk hI=>by
    have:=hs (k+1) y t (by simpa using hk) (by rw[show j+(k+1)=j+1+k from by omega];exact hI)
    rw[show j+(k+1)=j+1+k from by omega]at this;exact this)
   refine⟨fl,by rw[au,h1];exact h3,?_⟩
   rw[show j+(x::xs).length=j+1+xs.length from by simp;omega];exact h4
  |brk s'=>exact⟨.next s',by rw[au,h1],.inr h2⟩
  |ret r=>exact⟨.ret r,by rw[au,h1],h2⟩
theorem Ok.thenR{σ ρ:Type}{fl:Flow σ ρ}{k:σ->Option ρ}{N B:σ->Prop}{Q R:ρ->Prop}(h:lV N B Q fl)(hk:∀s,N s\/B s->Ok (k s) R)(hr:∀r,Q r->R r):Ok (fl.thenR k) R:=by
 cases fl with
 |next s=>exact hk s (.inl h)
 |brk s=>exact hk s (.inr h)
 |ret r=>exact⟨r,rfl,hr r h⟩
theorem Ok.thenF{σ τ ρ:Type}{fl:Flow σ ρ}{k:σ->Option (Flow τ ρ)}{N B:σ->Prop}{Q Q':ρ->Prop}{N' B':τ->Prop}(h:lV N B Q fl)(hk:∀s,N s\/B s->Ok (k s) (lV N' B' Q'))(hr:∀r,Q r->Q' r):Ok (fl.thenF k) (lV N' B' Q'):=by
 cases fl with
 |next s=>exact hk s (.inl h)
 |brk s=>exact hk s (.inr h)
 |ret r=>exact⟨.ret r,rfl,hr r h⟩
theorem Ok.thenP{σ τ:Type}{fl:Flow σ Empty}{k:σ->Option τ}{N B:σ->Prop}{Q:Empty->Prop}{R:τ->Prop}(h:lV N B Q fl)(hk:∀s,N s\/B s->Ok (k s) R):Ok (fl.thenP k) R:=by
 cases fl with
 |next s=>exact hk s (.inl h)
 |brk s=>exact hk s (.inr h)
 |ret r=>exact r.elim
theorem Ok.get{α:Type}{xs:List α}{i:Int}(h0:0<=i)(h:i<xs.length):Ok (ax xs i) fun x=>xs[i.toNat]? =some x:=by
 obtain⟨x,hx⟩:=Tot.get h0 h
 exact⟨x,hx,(gIs hx).2⟩
structure WriteOk(S:LSchema)(x:LS):Prop where
 tab:0<=aL (fun t:LTable=>t.name==x.table) S.tables
 names:x.kind=5->∀t,S.tables[(aL (fun t:LTable=>t.name==x.table) S.tables).toNat]? =some t->∀n∈x.names,0<=aL (fun c:LCol=>c.name==n) t.columns
inductive GoodL(S:LSchema):List LS->Prop
 |mk {l:List LS} (h1:∀s∈l,ShapeP s) (h2:∀s∈l,s.kind=4\/s.kind=5\/s.kind=6->WriteOk S s) (h3:∀s∈l,s.kind=2->GoodL S s.body) (h4:∀s∈l,s.kind=2->GoodL S s.elseF)
   (h5:∀s∈l,s.kind=3->GoodL S s.body):GoodL S l
structure GoodS(S:LSchema)(s:LS):Prop where
 shape:ShapeP s
 write:s.kind=4\/s.kind=5\/s.kind=6->WriteOk S s
 yes:s.kind=2->GoodL S s.body
 no:s.kind=2->GoodL S s.elseF
 each:s.kind=3->GoodL S s.body
theorem GoodL.of{S:LSchema}{l:List LS}(h:∀s∈l,GoodS S s):GoodL S l:=
 ⟨fun s hs=>(h s hs).shape,fun s hs=>(h s hs).write,fun s hs=>(h s hs).yes,fun s hs=>(h s hs).no,fun s hs=>(h s hs).each⟩
theorem GoodL.at{S:LSchema}{l:List LS}(h:GoodL S l):∀s∈l,GoodS S s:=by
 cases h with
 |mk h1 h2 h3 h4 h5=>exact fun s hs=>⟨h1 s hs,h2 s hs,h3 s hs,h4 s hs,h5 s hs⟩
theorem write_ok(c:LC)(vars:List LCol){s:LS}(hs:ShapeP s)(hk:s.kind=4\/s.kind=5\/s.kind=6):Ok (gZ c vars s) fun e=>e=0->WriteOk c.s s:=by
 unfold gZ;refine Ok.bind (P:=fun tb=>tb.2=true->0<=aL (fun t:LTable=>t.name==s.table) c.s.tables/\c.s.tables[(aL (fun t:LTable=>t.name==s.table) c.s.tables).toNat]? =some tb.1) ?_ fun tb htb=>?_
 ·unfold jh;rw[sq,bPs];refine Ok.cond (fun _=>Ok.mk fun h=>by cases h) fun h=>?_
  have h0:0<=aL (fun a0=>fa a0 s.table) c.s.tables:=by simpa using h
  obtain⟨x,hx,_⟩:=jH h0
  rw[ls h0 hx,bPs];exact Ok.mk fun _=>⟨h0,hx⟩
 refine Ok.cond (fun _=>Ok.mk fun h=>absurd h (by decide)) fun hf=>?_
 obtain⟨hi,hget⟩:=htb (by simpa using hf)
 refine Ok.bind (P:=lV (fun _=>True) (fun _=>False) fun r=>r≠0) ?_ fun fl hfl=>Ok.thenR hfl (fun _ _=>?_) fun r hr h=>absurd h hr
 ·refine Ok.cond (fun h=>?_) fun _=>Ok.mk trivial
  have h4:s.kind≠4:=by simpa using h
  have hw:=hs.wher (by omega);refine Ok.bind (Ok.get (by omega) (by omega)) fun _ _=>Ok.bind (Ok.tot (pred_tot c _ vars _)) fun x _=>Ok.cond (fun h=>Ok.mk ?_) fun _=>Ok.mk trivial
  show x≠0;simpa using h
 refine Ok.letP (Ok.cond (fun _=>Ok.mk fun h=>absurd h (by decide)) fun ht=>?_);refine Ok.bind (Ok.range (I:=fun j _=>s.kind=5->∀k n,k<j->s.names[k]? =some n->0<=aL (fun a:LCol=>a.name==n) tb.1.columns) (B:=fun _=>False) (Q:=fun r=>r≠0) (fun _ k n h=>absurd h (by omega)) fun j x u hj hI=>?_) fun fl hfl=>Ok.thenR hfl (fun u hu=>Ok.mk fun _=>?_) fun r hr h=>absurd h hr
 ·simp only[Nat.zero_add]at hI⊢;have hjl:=(zg.1 hj).1;refine Ok.bind (P:=lV (fun t=>0<=t.1/\t.1<(tb.1.columns.length:Int)/\(s.kind=5->∀n,s.names[j]? =some n->0<=aL (fun a:LCol=>a.name==n) tb.1.columns)) (fun _=>False) fun r=>r≠0) ?_ fun fl5 h5=>Ok.thenF h5 (fun t ht=>?_) fun _ h=>h
  ·refine Ok.cond (fun h5=>?_) fun h5=>Ok.mk ?_
   ·have k5:s.kind=5:=by simpa using h5
    have hn:j<s.names.length:=by rw[<-hs.upd k5];exact hjl
    have hg:ax s.names (j:Int)=some s.names[j]:=ls (by omega) (by simp[hn])
    have hix:bf tb.1.columns (fun a0=>eV a0 s (j:Int))=some (aL (fun a=>a.name==s.names[j]) tb.1.columns):=idxF fun a _=>by
     unfold eV;rw[hg,bPs]
    rw[hix,bPs];refine Ok.cond (fun _=>Ok.mk (show(23:Int)≠0 from by decide)) fun h0=>?_
    have h0':0<=aL (fun a:LCol=>a.name==s.names[j]) tb.1.columns:=by simpa using h0
    obtain⟨x76,h76⟩:=Tot.sub (xs:=s.names) (a:=0) (b:=(j:Int)) ⟨by omega,by omega,by omega⟩
    rw[h76,bPs,hg,bPs];refine Ok.bind (Ok.tot (wH x76 s.names[j])) fun _ _=>Ok.cond (fun _=>Ok.mk (show(9:Int)≠0 from by decide)) fun _=>?_
    rw[vb,bPs];refine Ok.cond (fun _=>Ok.mk (show(9:Int)≠0 from by decide)) fun _=>Ok.mk ?_
    obtain⟨y,hy,_⟩:=jH (p:=fun a:LCol=>a.name==s.names[j]) (l:=tb.1.columns) h0'
    have:=(zg.1 hy).1
    refine⟨h0',by show aL _ _<_;omega,fun _ n hnn=>?_⟩
    rw[ze hn]at hnn;cases hnn;exact h0'
   ·have k5:s.kind≠5:=by simpa using h5
    have h6:s.kind≠6:=fun e=>by have:=hs.del e;omega
    have h4:s.kind=4:=by omega
    rw[jI h4,zc]at ht
    have:(s.exprs.length:Int)=tb.1.columns.length:=by simpa using ht
    exact⟨by show(0:Int)<=(j:Int);omega,by show(j:Int)<_;omega,fun e=>absurd e k5⟩
  ·obtain⟨a,b,hc⟩:=ht.resolve_right id
   have nxt:s.kind=5->∀k n,k<j+1->s.names[k]? =some n->0<=aL (fun a:LCol=>a.name==n) tb.1.columns:=by
    intro k5 k n hkj hkn;by_cases hkk:k<j
    ·exact hI k5 k n hkk hkn
    ·rw[show k=j from by omega]at hkn;exact hc k5 n hkn
   refine Ok.bind (Ok.tot (sP c t.2 vars x)) fun v _=>Ok.cond (fun h=>Ok.mk ?_) fun _=>Ok.cond (fun _=>Ok.bind (Ok.get a b) fun _ _=>Ok.cond (fun _=>Ok.mk (show(7:Int)≠0 from by decide)) fun _=>Ok.mk nxt) fun _=>Ok.mk nxt
   show v.2.2≠0;simpa using h
 ·refine⟨hi,fun k5 t hgt n hn=>?_⟩
  rw[hget]at hgt;cases hgt;have hu:=(hu.resolve_right id).resolve_right id;simp only[Nat.zero_add]at hu
  obtain⟨k,hk,rfl⟩:=List.mem_iff_getElem.1 hn
  exact hu k5 k _ (by rw[hs.upd k5];exact hk) (ze hk)
theorem query_bulk{s:LS}{q:LQuery}(hb:aT (af s)<=1048576)(hq:q∈s.query):TinyQ q:=by
 rw[cx]at hb;have h1:=kp (List.mem_map_of_mem (f:=db) hq);simp only[am,aT,PV.bulk]at hb;rw[cF]at h1;exact tiny_bulk (n:=1048576) (by omega) (by omega)
theorem sF{s x:LS}(hb:aT (af s)<=1048576)(hx:x∈s.body\/x∈s.elseF):aT (af x)<=1048576:=by
 rw[cx]at hb;simp only[am,aT,PV.bulk]at hb;rcases hx with hx|hx
 ·have h1:=kp (List.mem_map_of_mem (f:=af) hx);omega
 ·have h1:=kp (List.mem_map_of_mem (f:=af) hx);omega
theorem stmt_ok{c:LC}{s:LS}(hs:ShapeP s)(hb:aT (af s)<=1048576){vars:List LCol}(hl:vars.length+21*(1+dX s.body+dX s.elseF)<=10000)
  (h1:∀v:List LCol,v.length+21*dX s.body<=10000->Ok (be c v s.body) fun r=>r.2=0->GoodL c.s s.body) (h2:∀v:List LCol,v.length+21*dX s.elseF<=10000->Ok (be c v s.elseF) fun r=>r.2=0->GoodL c.s s.elseF):
  Ok (cA be bV c vars s) fun r=>r.1.length<=vars.length+1/\(r.2=0->GoodS c.s s):=by
 have bad:∀e:Int,e≠0->(([]:List LCol),e).1.length<=vars.length+1/\((([]:List LCol),e).2=0->GoodS c.s s):=fun e he=>⟨by simp,fun h=>absurd h he⟩
 unfold cA;by_cases k1:s.kind=1
 ·have good:GoodS c.s s:=⟨hs,fun h=>by omega,fun h=>by omega,fun h=>by omega,fun h=>by omega⟩
  rw[jI k1,zc];refine Ok.bind (Ok.get (by omega) (by have:=hs.one (.inl k1);omega)) fun x _=>Ok.bind (Ok.tot (sP c ([]:List LCol) vars x)) fun y _=>Ok.letP ?_
  refine Ok.cond (fun _=>Ok.mk (bad _ (by decide))) fun _=>Ok.cond (fun h=>Ok.mk (bad _ (by simpa using h))) fun _=>Ok.cond (fun _=>Ok.mk (bad _ (by decide))) fun _=>?_
  obtain⟨v,hv,hvl⟩:=set_tot (vars:=vars) (x:=LCol.mk s.name y.1 y.2.1) (by omega)
  rw[hv,bPs];exact Ok.mk ⟨hvl,fun _=>good⟩
 rw[ci k1,zd];by_cases k2:s.kind=2
 ·rw[jI k2,zc];refine Ok.bind (Ok.get (by omega) (by have:=hs.one (.inr k2);omega)) fun x _=>Ok.bind (Ok.tot (pred_tot c ([]:List LCol) vars x)) fun y _=>Ok.cond (fun h=>Ok.mk (bad _ (by simpa using h))) fun _=>?_
  refine Ok.bind (h1 vars (by omega)) fun a ha=>Ok.cond (fun h=>Ok.mk (bad _ (by simpa using h))) fun ha0=>Ok.bind (h2 vars (by omega)) fun b hb'=>Ok.mk ⟨by simp,fun h=>?_⟩
  exact⟨hs,fun h=>by omega,fun _=>ha (by simpa using ha0),fun _=>hb' h,fun h=>by omega⟩
 rw[ci k2,zd,aX];by_cases k3:s.kind=3\/s.kind=7
 ·have e3:(cond (s.kind==(3:Int)) (s.kind==(3:Int)) (s.kind==(7:Int)))=true:=by rcases k3 with k|k<;>rw[k]<;>rfl
  rw[e3,zc]
  obtain⟨x,hx⟩:=Tot.get (xs:=s.query) (i:=0) (by omega) (by have:=hs.query k3;omega)
  have hxm:x∈s.query:=cV (gIs hx).2;have ht:=query_bulk hb hxm
  obtain⟨cs,e,hc,_,hcs⟩:=check_eq (s:=c.s) (vars:=vars) ht.small
  obtain⟨g,hg⟩:=given_tot (c:=c) (q:=x) (by have:=ht.nodes;omega)
  rw[hx,bPs,hc,bPs];refine Ok.cond (fun h=>Ok.mk (bad _ (by simpa using h))) fun he=>?_
  have he:e=0:=by simpa using he
  have hcl:cs.length<=20:=by rw[hcs he];exact kO _ _
  rw[bPs,hg,bPs];refine Ok.cond (fun h=>Ok.mk (bad _ (by simpa using h))) fun _=>?_
  refine Ok.bind (Ok.range (I:=fun j t=>t.length<=vars.length+j) (B:=fun _=>False) (Q:=fun _=>False) (by omega) fun k y t hk hI=>?_) fun fl hfl=>Ok.thenP hfl fun t ht=>?_
  ·have hkl:k<cs.length:=(zg.1 hk).1;have hI:t.length<=vars.length+(0+k):=hI
   obtain⟨v,hv,hvl⟩:=set_tot (vars:=t) (x:=y) (by omega)
   rw[hv,bPs];exact Ok.mk (show v.length<=_ by omega)
  ·have ht:t.length<=vars.length+(0+cs.length):=(ht.resolve_right id).resolve_right id;refine Ok.bind (h1 t (by omega)) fun b hb'=>Ok.mk ⟨by simp,fun h=>?_⟩
   exact⟨hs,fun h=>by omega,fun h=>by omega,fun h=>by omega,fun _=>hb' h⟩
 have e3:(cond (s.kind==(3:Int)) (s.kind==(3:Int)) (s.kind==(7:Int)))=false:=by rw[ci (fun e=>k3 (.inl e)),zd,ci (fun e=>k3 (.inr e))]
 rw[e3,zd,aX];by_cases k4:s.kind=4\/s.kind=5\/s.kind=6
 ·have e4:(cond (s.kind==(4:Int)) (s.kind==(4:Int)) (cond (s.kind==(5:Int)) (s.kind==(5:Int)) (s.kind==(6:Int))))=true:=by rcases k4 with k|k|k<;>rw[k]<;>rfl
  rw[e4,zc];refine Ok.bind (write_ok c vars hs k4) fun w hw=>Ok.mk ⟨by simp,fun h=>?_⟩
  exact⟨hs,fun _=>hw h,fun h=>by omega,fun h=>by omega,fun h=>by omega⟩
 ·have e4:(cond (s.kind==(4:Int)) (s.kind==(4:Int)) (cond (s.kind==(5:Int)) (s.kind==(5:Int)) (s.kind==(6:Int))))=false:=by
   rw[ci (fun e=>k4 (.inl e)),zd,ci (fun e=>k4 (.inr (.inl e))),zd,ci (fun e=>k4 (.inr (.inr e)))]
  rw[e4,zd];exact Ok.mk ⟨by simp,fun _=>⟨hs,fun h=>absurd h k4,fun h=>absurd h k2,fun h=>absurd h k2,fun h=>absurd (.inl h) k3⟩⟩
theorem body_ok(c:LC):∀l:List LS,(∀s∈l,aT (af s)<=1048576)->∀vars:List LCol,vars.length+21*dX l<=10000->Ok (be c vars l) fun r=>r.2=0->GoodL c.s l:=by
 refine mA fun l ih hb vars hl=>?_
 rw[(body_both l).2.1];unfold dD;refine Ok.bind (Ok.range (I:=fun j t=>t.length+21*dX l<=vars.length+21*dX l+dX (l.take j)/\∀s∈l.take j,GoodS c.s s) (B:=fun _=>False) (Q:=fun r=>r.2≠0) ⟨by omega,by simp⟩ fun k x t hk hI=>?_) fun fl hfl=>Ok.thenR hfl (fun t ht=>Ok.mk fun _=>?_) fun r hr h=>absurd h hr
 ·simp only[Nat.zero_add]at hI⊢;have hx:=cV hk
  obtain⟨b,hbs⟩:=shapeP_tot x
  rw[hbs,bPs];cases b with
  |false=>exact Ok.mk (show(3:Int)≠0 from by decide)
  |true=>
   have hsh:=shapeP_ok hbs
   obtain⟨c1,c2⟩:=sg hk
   have hm:=rJ hx
   have hst:=stmt_ok (c:=c) (vars:=t) hsh (hb x hx) (by have:=hI.1;omega)
    (fun v hv=>(ih x hx).1 (fun y hy=>sF (hb x hx) (.inl hy)) v hv) (fun v hv=>(ih x hx).2 (fun y hy=>sF (hb x hx) (.inr hy)) v hv)
   rw[<-(body_both l).2.2 x hx]at hst;simp only[Bool.not_true,zd];refine Ok.bind hst fun v hv=>Ok.cond (fun h=>Ok.mk (show v.2≠0 by simpa using h)) fun h=>Ok.mk ⟨by have:=hI.1;have:=hv.1;omega,?_⟩
   intro y hy;rw[List.take_add_one,hk,List.mem_append]at hy;rcases hy with hy|hy
   ·exact hI.2 y hy
   ·simp at hy;rw[hy];exact hv.2 (by simpa using h)
 ·have ht:=(ht.resolve_right id).resolve_right id;simp only[Nat.zero_add,List.take_length]at ht;exact GoodL.of ht.2
structure InstLen(s:LSchema)(st:List LW):Prop where
 len:st.length=s.tables.length
 tab:∀(i:Nat) (r:LW) (t:LTable),st[i]? =some r->s.tables[i]? =some t->r.rows.length<=24/\∀row∈r.rows,row.length=t.columns.length
theorem InstOk.lens{s:LSchema}{st:List LW}(h:InstOk s st):InstLen s st:=
 ⟨h.len,fun i r t h1 h2=>⟨(h.tab i r t h1 h2).2.1,fun row hr=>((h.tab i r t h1 h2).2.2 row hr).1⟩⟩
theorem InstLen.set{s:LSchema}{st:List LW}(h:InstLen s st){i:Nat}{t:LTable}(ht:s.tables[i]? =some t){r:LW}(hr:st[i]? =some r){rows:Rows}(h24:rows.length<=24)(hl:∀row∈rows,row.length=t.columns.length):
  InstLen s (st.set i ⟨r.table,rows⟩):=by
 refine⟨by rw[List.length_set];exact h.len,fun k r' t' h1 h2=>?_⟩
 by_cases hk:k=i
 ·subst hk;rw[List.getElem?_set_self (zg.1 hr).1]at h1;rw[ht]at h2;cases h1;cases h2
  exact⟨h24,hl⟩
 ·rw[List.getElem?_set_ne (Ne.symm hk)]at h1;exact h.tab k r' t' h1 h2
theorem InstLen.at{s:LSchema}{st:List LW}(h:InstLen s st){i:Nat}{t:LTable}(ht:s.tables[i]? =some t):∃r,st[i]? =some r/\r.rows.length<=24/\∀row∈r.rows,row.length=t.columns.length:=by
 have hi:=(zg.1 ht).1;have hi2:i<st.length:=by have:=h.len;omega
 have hr:st[i]? =some st[i]:=ze hi2
 exact⟨_,hr,h.tab i _ t hr ht⟩
structure BaseS(s:LSchema):Prop where
 val:gS s=some 0
 six:s.tables.length<=6
 tabs:∀t∈s.tables,TableOk t
theorem BaseS.small{s:LSchema}(h:BaseS s):pi s:=fun t ht=>by have:=(h.tabs t ht).few;omega
theorem clone_st{s:LSchema}{st:List LW}(hI:InstLen s st)(h6:s.tables.length<=6):jV st=some st:=by
 unfold jV;have hl:=hI.len
 rw[rMa (xs:=st) (s:=[]) (fun k=>st.take k) Z (fun k x hk=>by
  have hkl:=(zg.1 hk).1;have hx:=(hI.tab k x s.tables[k] hk (ze (by omega))).1;rw[pw (by omega),bPs,aS (by decide) (by simp;omega),bPs,List.take_add_one,hk];rfl),bPs,bQ,List.take_length]
theorem validKey_tot{t:LTable}(h:TableOk t)(key:Rq):Tot (jo t key):=by
 unfold jo;refine Tot.cond (fun _=>Tot.mk) fun hl=>?_
 have hl:key.length=t.primaryKey.length:=by
  have:(key.length:Int)=t.primaryKey.length:=by simpa using hl
  omega
 refine Tot.bind (Tot.range _ _ _ fun k x s hk=>?_) fun fl _=>Tot.thenR fun _ _=>Tot.mk
 have hkl:=(zg.1 hk).1;have hkp:k<t.primaryKey.length:=by omega
 rw[Nat.zero_add,dG hkp,bPs]
 obtain⟨a,b⟩:=h.pk t.primaryKey[k] (List.getElem_mem _)
 exact Tot.letP (Tot.cond (fun _=>Tot.mk) fun _=>Tot.bind (Tot.get a b) fun _ _=>Tot.cond (fun _=>Tot.mk) fun _=>Tot.mk)
theorem vt{s:LSchema}(h:BaseS s)(c:LChange):Ok (gP s c) fun e=>e=0->∃(i:Nat) (t:LTable),s.tables[i]? =some t/\dH s c.table=some ((i:Int),true)/\(c.kind=1->c.row.length=t.columns.length):=by
 unfold gP;refine Ok.letP (Ok.cond (fun _=>Ok.mk fun h=>absurd h (by decide)) fun _=>?_);rw[pz,bPs];refine Ok.cond (fun _=>Ok.mk fun h=>absurd h (by decide)) fun hf=>?_
 have h0:0<=aL (fun t=>cd t c.table) s.tables:=by simpa using hf
 obtain⟨t,ht,_⟩:=jH h0
 have hg:ax s.tables (aL (fun t=>cd t c.table) s.tables)=some t:=ls h0 ht;rw[qe h0,zt (show aL (fun t=>cd t c.table) s.tables>=0 from h0)];have e:aL (fun t=>cd t c.table) s.tables=((aL (fun t=>cd t c.table) s.tables).toNat:Int):=by omega
 refine Ok.cond (fun h1=>?_) fun h1=>?_
 ·simp only;rw[hg,bPs]
  obtain⟨f,hf,hfit⟩:=sS t c.row
  rw[hf,bPs];exact Ok.mk fun h0=>⟨_,t,ht,by rw[<-e],fun _=>(hfit h0).1⟩
 ·simp only;rw[hg,bPs];refine Ok.bind (Ok.tot (validKey_tot (h.tabs t (cV ht)) c.key)) fun x _=>Ok.mk fun _=>⟨_,t,ht,by rw[<-e],fun k=>?_⟩
  rw[k]at h1;cases h1
def kh(sA:LSchema)(_:Nat)(x1:LChange)(s1:List LW):Option (Flow (List LW) ((List LW)×Int)):=
 aa (gP sA x1) fun x42=>
 cond (x42 !=(0:Int))
  (some (.ret ([],x42)))
  (aa (dH sA x1.table) fun x50=>
  aa (ax sA.tables x50.1) fun(x56:LTable)=>
  cond (x1.kind==(1:Int))
   (aa (ax s1 x50.1) fun(x66:LW)=>
   aa (gT x56 x66.rows x1.row) fun x71=>
   aa (ax s1 x50.1) fun(x72:LW)=>
   letP (s1.set x50.1.toNat (LW.mk x72.table x71)) fun(y6:List LW)=>
   aa (ax y6 x50.1) fun(x76:LW)=>
   cond (decide ((x76.rows.length:Int)>(24:Int)))
    (some (.ret ([],2)))
    (some (.next y6)))
   (aa (ax s1 x50.1) fun(x87:LW)=>
   aa (gO x56 x87.rows x1.key) fun x92=>
   aa (ax s1 x50.1) fun(x95:LW)=>
   letP (s1.set x50.1.toNat (LW.mk x95.table x92.1)) fun(y7:List LW)=>
   cond (!x92.2)
    (some (.ret ([],9)))
    (some (.next y7))))
theorem apply_is(s:LSchema)(st:List LW)(cs:List LChange):kR s st cs=aa (gS s) fun x19=>cond (x19 !=(0:Int)) (some ([],x19)) (aa (du s st) fun x25=>cond (x25 !=(0:Int)) (some ([],x25)) (cond (decide ((cs.length:Int)>(24:Int))) (some ([],2))
   (aa (jV st) fun x33=>aa (au (kh s) 0 cs x33) fun fl1=>fl1.thenR fun(s1:List LW)=>some (s1,0)))):=rfl
theorem step_ok{s:LSchema}(hb:BaseS s)(j:Nat)(c:LChange){S:List LW}(hS:InstLen s S):Ok (kh s j c S) (lV (InstLen s) (fun _=>False) fun r=>r.2≠0):=by
 unfold kh;refine Ok.bind (vt hb c) fun e he=>Ok.cond (fun h=>Ok.mk (show e≠0 by simpa using h)) fun h=>?_
 obtain⟨i,t,ht,hf,hrow⟩:=he (by simpa using h)
 obtain⟨r,hr,h24,hlen⟩:=hS.at ht
 have hsm:=hb.small t (cV ht);rw[hf,bPs];simp only[Int.toNat_natCast];rw[gp ht,bPs];refine Ok.cond (fun h1=>?_) fun h1=>?_
 ·obtain⟨rs,hrs,hl,hm⟩:=upsert_tot hsm r.rows (by omega) c.row
  rw[gp hr,bPs,hrs,bPs,bPs,aX,gp (List.getElem?_set_self (zg.1 hr).1),bPs];refine Ok.cond (fun _=>Ok.mk (show(2:Int)≠0 from by decide)) fun h2=>Ok.mk (hS.set ht hr ?_ fun row hrw=>?_)
  ·have:¬(rs.length:Int)>24:=by simpa using h2
   omega
  ·rcases hm row hrw with h|rfl
   ·exact hlen row h
   ·exact hrow (by simpa using h1)
 ·obtain⟨rs,b,hrs,hl,hm⟩:=delete_tot hsm r.rows (by omega) c.key
  rw[gp hr,bPs,hrs,bPs,bPs,aX];exact Ok.cond (fun _=>Ok.mk (show(9:Int)≠0 from by decide)) fun _=>Ok.mk (hS.set ht hr (show rs.length<=24 by omega) fun row hrw=>hlen row (hm row hrw))
theorem apply_one{s:LSchema}(hb:BaseS s){st:List LW}(hS:InstLen s st)(c:LChange):Ok (kR s st [c]) fun x=>x.2=0->InstLen s x.1/\kh s 0 c st=some (.next x.1):=by
 rw[apply_is,hb.val,bPs,iB Z,zd]
 obtain⟨f,hf,_⟩:=conforms hb.small st
 rw[hf,bPs];refine Ok.cond (fun h=>Ok.mk fun h0=>absurd h0 (by simpa using h)) fun _=>?_
 rw[show decide ((([c]:List LChange).length:Int)>24)=false from Z,zd,clone_st hS hb.six,bPs]
 obtain⟨fl,h1,h2⟩:=step_ok hb 0 c hS
 simp only[au,h1];cases fl with
 |next S'=>exact Ok.mk fun _=>⟨h2,rfl⟩
 |brk S'=>exact h2.elim
 |ret r=>exact Ok.mk fun h=>absurd h h2
theorem wg{α σ ρ:Type}{step:Nat->α->σ->Option (Flow σ ρ)}(hj:∀j x s,step j x s=step 0 x s):∀{xs:List α} {j:Nat} {s t u:σ} {y:α},au step j xs s=some (.next t)->(∀j x s s',step j x s≠some (.brk s'))->step 0 y t=some (.next u)->au step j (xs++[y]) s=some (.next u)
 |[],j,s,t,u,y,h,_,h2=>by
  simp only[au,zo,Flow.next.injEq]at h;subst h;simp only[List.nil_append,au];rw[hj,h2]
 |x::xs,j,s,t,u,y,h,hb,h2=>by
  rw[List.cons_append];simp only[au]at h⊢;cases hx:step j x s with
  |none=>rw[hx]at h;cases h
  |some fl=>
   rw[hx]at h;cases fl with
   |next s'=>exact wg hj h hb h2
   |brk s'=>exact absurd hx (hb _ _ _ _)
   |ret r=>cases h
theorem step_brk(s:LSchema)(j:Nat)(c:LChange)(S S':List LW):kh s j c S≠some (.brk S'):=by
 intro h;unfold kh at h
 obtain⟨e,_,h⟩:=aA h
 cases he:(e !=(0:Int))with
 |true=>rw[he]at h;cases h
 |false=>
  rw[he,zd]at h
  obtain⟨f,_,h⟩:=aA h
  obtain⟨t,_,h⟩:=aA h
  cases hk:(c.kind==(1:Int))with
  |true=>
   rw[hk,zc]at h
   obtain⟨_,_,h⟩:=aA h
   obtain⟨_,_,h⟩:=aA h
   obtain⟨_,_,h⟩:=aA h
   rw[aX]at h
   obtain⟨r,_,h⟩:=aA h
   cases hd:decide ((r.rows.length:Int)>(24:Int))with
   |true=>rw[hd]at h;cases h
   |false=>rw[hd]at h;cases h
  |false=>
   rw[hk,zd]at h
   obtain⟨_,_,h⟩:=aA h
   obtain⟨x,_,h⟩:=aA h
   obtain⟨_,_,h⟩:=aA h
   rw[aX]at h;cases hd:(!x.2)with
   |true=>rw[hd]at h;cases h
   |false=>rw[hd]at h;cases h
structure Inv(s:LSchema)(st0:List LW)(T:Rs)(n:Nat)(r:LR):Prop where
 sch:r.s=s
 vals:r.vals.length=r.vars.length
 few:r.vars.length<=n
 st:InstLen s r.st
 ch:au (kh s) 0 r.changes st0=some (.next r.st)
 chl:r.changes.length<=24
 tab:∀c∈r.changes,c.table∈T
 res:r.results.length<=8
 left:0<=r.left/\r.left<=400
section
variable{s:LSchema}{st0:List LW}{T:Rs}{n:Nat}{r:LR}
theorem Inv.mono{m:Nat}(h:Inv s st0 T n r)(hm:n<=m):Inv s st0 T m r:=
 ⟨h.sch,h.vals,Nat.le_trans h.few hm,h.st,h.ch,h.chl,h.tab,h.res,h.left⟩
theorem Inv.vars{m:Nat}{q:LR}(h:Inv s st0 T n r)(hq:Inv s st0 T m q):Inv s st0 T n (LR.mk q.s q.st q.args r.vars r.vals q.changes q.results q.left q.stopped):=
 ⟨hq.sch,h.vals,h.few,hq.st,hq.ch,hq.chl,hq.tab,hq.res,hq.left⟩
theorem tf(h:Inv s st0 T n r)(hn:n<=100000)(cols:List LCol)(row:Rq)(e:LExpr):∃v,cp r cols row e=some (v,r):=by
 unfold cp
 rw[np (xs:=r.vars) LCol.name (fun k x hk=>by
  have:=(zg.1 hk).1
  have:=h.few
  rw[aS (by decide) (by simp;omega),bPs]),bPs,bQ,aX]
 exact⟨_,rfl⟩
theorem set_is(hI:Inv s st0 T n r)(hn:n<=100000)(c:LCol)(v:LVal):Ok (dO r c v) (Inv s st0 T (n+1)):=by
 unfold dO;have hf:=hI.few;have hv:=hI.vals;rw[uo,bPs];refine Ok.cond (fun h=>?_) fun _=>?_
 ·have h0:0<=aL (fun a=>fO a c) r.vars:=by simpa using h
  obtain⟨x,hx,_⟩:=jH h0
  have hlt:=(zg.1 hx).1;clear hx h;generalize aL (fun a=>fO a c) r.vars=z at h0 hlt;rw[Ww (by omega) (by omega)];unfold oM;rw[zp ⟨by omega,by omega,by omega⟩,bPs,zp ⟨by omega,by omega,by omega⟩,bPs,aS (by decide) (by simp;omega),bPs,aS (by decide) (by simp;omega),bPs];exact Ok.mk ⟨hI.sch,by simp;omega,by simp;omega,hI.st,hI.ch,hI.chl,hI.tab,hI.res,hI.left⟩
 ·rw[aS (by decide) (by simp;omega),bPs,aS (by decide) (by simp;omega),bPs];exact Ok.mk ⟨hI.sch,by simp;omega,by simp;omega,hI.st,hI.ch,hI.chl,hI.tab,hI.res,hI.left⟩
theorem write_is(hb:BaseS s)(hI:Inv s st0 T n r){c:LChange}(hc:c.table∈T):Ok (de r c) fun x=>x.1=0->Inv s st0 T n x.2:=by
 unfold de;refine Ok.cond (fun _=>Ok.mk fun h=>absurd h (show ¬(2:Int)=0 from by decide)) fun h24=>?_
 have h24:¬(r.changes.length:Int)=24:=by simpa using h24
 have hl:=hI.chl;rw[hI.sch];refine Ok.bind (apply_one hb hI.st c) fun y hy=>Ok.cond (fun h=>Ok.mk fun h0=>absurd h0 (by simpa using h)) fun h=>?_
 obtain⟨h1,h2⟩:=hy (by simpa using h)
 rw[aS (by decide) (by simp;omega),bPs];refine Ok.mk fun _=>⟨rfl,hI.vals,hI.few,h1,wg (fun _ _ _=>rfl) hI.ch (step_brk s) h2,by simp;omega,fun d hd=>?_,hI.res,hI.left⟩
 rcases List.mem_append.1 hd with hd|hd
 ·exact hI.tab d hd
 ·rw[List.mem_singleton.1 hd];exact hc
theorem rows_is(hb:BaseS s)(hI:Inv s st0 T n r)(hn:n<=100000){x:LS}(hg:GoodS s x)(hk:x.kind=5\/x.kind=6)(hT:x.table∈T):Ok (dT r x) fun y=>y.1=0->Inv s st0 T n y.2:=by
 unfold dT;have hw:=hg.write (by omega);rw[sq,bPs,hI.sch,show aL (fun a0=>gK a0 x) s.tables=aL (fun t:LTable=>t.name==x.table) s.tables from Z];have h0:=hw.tab
 obtain⟨t,ht,_⟩:=jH h0
 have hnames:=fun k5=>hw.names k5 t ht
 clear hw;generalize aL (fun t:LTable=>t.name==x.table) s.tables=z at h0 ht
 obtain⟨i,rfl⟩:∃i:Nat,z=(i:Int):=⟨z.toNat,by omega⟩
 rw[Int.toNat_natCast]at ht
 obtain⟨rel,hr,_,hlen⟩:=hI.st.at ht
 have hok:=hb.tabs t (cV ht);rw[gp ht,bPs,gp hr,bPs];refine Ok.bind (Ok.range (I:=fun _ r'=>Inv s st0 T n r') (B:=fun _=>False) (Q:=fun y=>y.1≠0) hI fun k row r1 hk1 hI1=>?_) fun fl hfl=>Ok.thenR hfl (fun r1 h1=>Ok.mk fun _=>(h1.resolve_right id).resolve_right id) fun y hy h=>absurd h hy
 have hrow:=hlen row (cV hk1);refine Ok.bind (Ok.get (by omega) (by have:=hg.shape.wher hk;omega)) fun e _=>?_
 obtain⟨v,hv⟩:=tf hI1 hn t.columns row e
 rw[hv,bPs];refine Ok.letP (Ok.cond (fun _=>Ok.mk hI1) fun _=>?_);refine Ok.bind (Ok.range (I:=fun j l=>l.length<=j) (B:=fun _=>False) (Q:=fun _=>True) (Nat.le_refl 0) fun j p l hj hl=>?_) fun fl hfl=>Ok.thenP hfl fun key _=>?_
 ·obtain⟨a,b⟩:=hok.pk p (cV hj)
  have hjl:=(zg.1 hj).1
  have:=hok.few
  refine Ok.bind (Ok.get a (by omega)) fun y _=>?_
  rw[aS (by decide) (by simp;omega),bPs];exact Ok.mk (show(l++[y]).length<=_ by simp;omega)
 refine Ok.bind (P:=fun q=>Inv s st0 T n q.1) ?_ fun y hy=>?_
 ·refine Ok.cond (fun h5=>?_) fun _=>Ok.mk hI1
  have k5:x.kind=5:=by simpa using h5
  refine Ok.bind (Ok.range (I:=fun _ q=>Inv s st0 T n q.1/\q.2.length=t.columns.length) (B:=fun _=>False) (Q:=fun _=>True) ⟨hI1,hrow⟩ fun j e q hj hq=>?_) fun fl hfl=>Ok.thenP hfl fun q hq=>Ok.mk ((hq.resolve_right id).resolve_right id).1
  rw[Nat.zero_add];have hn':j<x.names.length:=by rw[<-hg.shape.upd k5];exact(zg.1 hj).1
  have hix:bf t.columns (fun a0=>gM a0 x (j:Int))=some (aL (fun a=>a.name==x.names[j]) t.columns):=idxF fun a _=>by
   unfold gM;rw[dG hn',bPs]
  have hi0:=hnames k5 x.names[j] (List.getElem_mem _)
  obtain⟨y,hy,_⟩:=jH hi0
  have hyl:=(zg.1 hy).1
  obtain⟨w,hw⟩:=tf hq.1 hn t.columns row e
  rw[hix,bPs,hw,bPs];refine Ok.bind (Ok.get hi0 (by have:=hq.2;omega)) fun _ _=>Ok.letP (Ok.mk ⟨hq.1,?_⟩)
  rw[List.length_set];exact hq.2
 ·exact Ok.bind (write_is hb hy hT) fun z hz=>Ok.cond (fun h=>Ok.mk (show z.1≠0 by simpa using h)) fun h=>Ok.mk (hz (by simpa using h))
end
theorem iY:∀l:List LS,(∃N,∀n,N<=n->∀r,bS n r l=aw r l)/\(∃N,∀n,N<=n->∀r,bT n r l=aJ r l)/\
  (∀r,aw r l=eF aw aR aJ aP r l)/\
  (∀r,aJ r l=dL aw aR aJ aP r l)/\
  (∀s∈l,∀r,aR r s=ce aw aR aJ aP r s)/\
  ∀s∈l,∀r,aP r s=bL aw aR aJ aP r s:=by
 refine mA fun l ih=>?_
 have ask:∀s∈l,(∃N,∀n,N<=n->∀r,cB n r s=aP r s)/\∀r,aP r s=bL aw aR aJ aP r s:=by
  intro s hs
  obtain⟨⟨⟨a,ha⟩,_⟩,_⟩:=ih s hs
  have key:∀n,a+1<=n->∀r,cB n r s=bL aw aR aJ aP r s:=by
   intro n hn r
   obtain⟨n,rfl⟩:∃k,n=k+1:=⟨n-1,by omega⟩
   show bL (fun b0 b1=>bS n b0 b1) _ _ _ r s=_;have h1:∀r,bS n r s.body=aw r s.body:=fun r=>ha n (by omega) r
   simp only[bL,h1]
  have e:∀r,aP r s=_:=fun r=>ml _ (fun m hm=>key m hm r)
  exact⟨⟨a+1,fun n hn r=>by rw[key n hn,e]⟩,e⟩
 have stm:∀s∈l,(∃N,∀n,N<=n->∀r,cr n r s=aR r s)/\∀r,aR r s=ce aw aR aJ aP r s:=by
  intro s hs
  obtain⟨⟨_,⟨a,ha⟩,_⟩,⟨_,⟨b,hb⟩,_⟩⟩:=ih s hs
  obtain⟨⟨c,hc⟩,_⟩:=ask s hs
  have key:∀n,a+b+c+1<=n->∀r,cr n r s=ce aw aR aJ aP r s:=by
   intro n hn r
   obtain⟨n,rfl⟩:∃k,n=k+1:=⟨n-1,by omega⟩
   show ce _ _ (fun b0 b1=>bT n b0 b1) (fun b0 b1=>cB n b0 b1) r s=_;have h1:∀r,bT n r s.body=aJ r s.body:=fun r=>ha n (by omega) r
   have h2:∀r,bT n r s.elseF=aJ r s.elseF:=fun r=>hb n (by omega) r
   have h3:∀r,cB n r s=aP r s:=fun r=>hc n (by omega) r
   simp only[ce,h1,h2,h3]
  have e:∀r,aR r s=_:=fun r=>ml _ (fun m hm=>key m hm r)
  exact⟨⟨a+b+c+1,fun n hn r=>by rw[key n hn,e]⟩,e⟩
 obtain⟨N,hN⟩:=qm (p:=fun(s:LS) n=>∀r,cr n r s=aR r s) l (fun s h=>(stm s h).1)
 have key:∀n,N+1<=n->∀r,bS n r l=eF aw aR aJ aP r l:=by
  intro n hn r
  obtain⟨n,rfl⟩:∃k,n=k+1:=⟨n-1,by omega⟩
  show eF _ (fun b0 b1=>cr n b0 b1) _ _ r l=_;simp only[eF];congr 1
  exact js l 0 _ fun k s t hk=>by
   have h1:=hN n (by omega) s (cV hk);simp only[h1]
 have e:∀r,aw r l=_:=fun r=>ml (N+1) (fun m hm=>key m hm r)
 have key2:∀n,N+2<=n->∀r,bT n r l=dL aw aR aJ aP r l:=by
  intro n hn r
  obtain⟨n,rfl⟩:∃k,n=k+1:=⟨n-1,by omega⟩
  show dL (fun b0 b1=>bS n b0 b1) _ _ _ r l=_;have h1:∀r,bS n r l=aw r l:=fun r=>by rw[key n (by omega),e]
  simp only[dL,h1]
 have e2:∀r,aJ r l=_:=fun r=>ml (N+2) (fun m hm=>key2 m hm r)
 exact⟨⟨N+1,fun n hn r=>by rw[key n hn,e]⟩,⟨N+2,fun n hn r=>by rw[key2 n hn,e2]⟩,e,e2,fun s h=>(stm s h).2,fun s h=>(ask s h).2⟩
def gA(l:List LS):List LS:=(l.attach.map fun s=>s.1::(gA s.1.body++gA s.1.elseF)).flatten
termination_by SizeOf.sizeOf l
decreasing_by
 ·exact(st_lt s.2).1
 ·exact(st_lt s.2).2
theorem pK(l:List LS):gA l=(l.map fun s=>s::(gA s.body++gA s.elseF)).flatten:=by
 rw[gA,List.attach_map_val (f:=fun s:LS=>s::(gA s.body++gA s.elseF))]
theorem flatS_mem{l:List LS}{s:LS}(h:s∈l):s∈gA l/\(∀x∈gA s.body,x∈gA l)/\∀x∈gA s.elseF,x∈gA l:=by
 have key:∀x∈s::(gA s.body++gA s.elseF),x∈gA l:=fun x hx=>by
  rw[pK l];exact List.mem_flatten.2 ⟨_,List.mem_map.2 ⟨s,h,rfl⟩,hx⟩
 exact⟨key s (by simp),fun x hx=>key x (by simp[hx]),fun x hx=>key x (by simp[hx])⟩
theorem rV(l:List LS):l.length<=dX l:=by
 rw[mj];induction l with
 |nil=>simp
 |cons x l ih=>simp only[List.length_cons,List.map_cons,List.sum_cons];omega
theorem exprs_bulk{s:LS}(hb:aT (af s)<=1048576):s.exprs.length<=1048576:=by
 rw[cx]at hb;have h1:=li expr_pos s.exprs;simp only[am,aT,PV.bulk]at hb;omega
section
variable{s:LSchema}{st0:List LW}{T:Rs}{n:Nat}{r:LR}{x:LS}
theorem ask_is(hb:BaseS s)(hI:Inv s st0 T n r)(hg:GoodS s x)(hbk:aT (af x)<=1048576)(hk:x.kind=3\/x.kind=7)(hn:n+21*(1+dX x.body)<=10000)
  (hbody:x.kind=3->∀m q,m+21*dX x.body<=10000->Inv s st0 T m q->Ok (aw q x.body) fun y=>y.1=0->Inv s st0 T (m+x.body.length) y.2):
  Ok (bL aw aR aJ aP r x) fun y=>y.1=0->Inv s st0 T n y.2:=by
 unfold bL
 obtain⟨q,hq⟩:=Tot.get (xs:=x.query) (i:=0) (by omega) (by have:=hg.shape.query hk;omega)
 have hqm:q∈x.query:=cV (gIs hq).2;have ht:=query_bulk hbk hqm;have hv:=hI.few
 obtain⟨res,e,hw,hres⟩:=within_tot hb.small r.st ht.small r.args r.vals (vars:=r.vars) (by omega)
 rw[hq,bPs,hI.sch,hw,bPs];refine Ok.cond (fun h=>Ok.mk fun h0=>absurd h0 (by simpa using h)) fun he=>?_
 obtain⟨hc20,_,hrows⟩:=hres (by simpa using he)
 refine Ok.cond (fun _=>Ok.cond (fun _=>Ok.mk fun h=>absurd h (show ¬(2:Int)=0 from by decide)) fun h8=>?_) fun h7=>?_
 ·have h8:¬(r.results.length:Int)=8:=by simpa using h8
  have:=hI.res
  rw[aS (by decide) (by simp;omega),bPs];exact Ok.mk fun _=>⟨rfl,hI.vals,hI.few,hI.st,hI.ch,hI.chl,hI.tab,by simp;omega,hI.left⟩
 ·have k3:x.kind=3:=by
   have:¬x.kind=7:=by simpa using h7
   omega
  have hbl:=rV x.body;refine Ok.bind (Ok.range (I:=fun _ q=>Inv s st0 T (n+20+x.body.length) q) (B:=fun q=>Inv s st0 T (n+20+x.body.length) q) (Q:=fun y=>y.1≠0) (hI.mono (by omega)) fun k row q hk hIq=>?_) fun fl hfl=>Ok.thenR hfl (fun q h1=>Ok.mk fun _=>?_) fun y hy h=>absurd h hy
  ·refine Ok.cond (fun _=>Ok.mk hIq) fun _=>?_
   have hrow:=hrows row (cV hk);refine Ok.bind (Ok.range (I:=fun j q=>Inv s st0 T (n+j) q) (B:=fun _=>False) (Q:=fun _=>True) (hI.vars hIq) fun j c q2 hj hI2=>?_) fun fl hfl=>Ok.thenP hfl fun q2 h2=>?_
   ·have hjl:j<res.columns.length:=(zg.1 hj).1;simp only[Nat.zero_add]at hI2⊢;rw[dG (by omega),bPs];exact Ok.bind (set_is hI2 (by omega) c _) fun q3 h3=>Ok.mk h3
   ·have h2:Inv s st0 T (n+(0+res.columns.length)) q2:=(h2.resolve_right id).resolve_right id;refine Ok.bind (hbody k3 (n+20) q2 (by omega) (h2.mono (by omega))) fun y hy=>Ok.cond (fun h=>Ok.mk (show y.1≠0 by simpa using h)) fun h=>Ok.mk (hy (by simpa using h))
  ·have h1:Inv s st0 T (n+20+x.body.length) q:=by rcases h1 with(h|h)|h;exact h;exact h;exact h.elim
   exact hI.vars h1
theorem inner_is{l:List LS}(hI:Inv s st0 T n r){m:Nat}(h:Ok (aw r l) fun y=>y.1=0->Inv s st0 T m y.2):Ok (aJ r l) fun y=>y.1=0->Inv s st0 T n y.2:=by
 rw[(iY l).2.2.2.1 r];unfold dL;exact Ok.bind h fun y hy=>Ok.mk fun h0=>hI.vars (hy h0)
theorem stmt_is(hb:BaseS s)(hI:Inv s st0 T n r)(hg:GoodS s x)(hbk:aT (af x)<=1048576)(hn:n+21*(1+dX x.body+dX x.elseF)<=10000)(hT:x.kind=4\/x.kind=5\/x.kind=6->x.table∈T)
  (hask:∀q,aP q x=bL aw aR aJ aP q x)
  (hbody:x.kind=2\/x.kind=3->∀m q,m+21*dX x.body<=10000->Inv s st0 T m q->Ok (aw q x.body) fun y=>y.1=0->Inv s st0 T (m+x.body.length) y.2)
  (helse:x.kind=2->∀m q,m+21*dX x.elseF<=10000->Inv s st0 T m q->Ok (aw q x.elseF) fun y=>y.1=0->Inv s st0 T (m+x.elseF.length) y.2):
  Ok (ce aw aR aJ aP r x) fun y=>y.1=0->Inv s st0 T (n+1) y.2:=by
 unfold ce;have up:∀{q},Inv s st0 T n q->Inv s st0 T (n+1) q:=fun h=>h.mono (by omega)
 by_cases k1:x.kind=1
 ·rw[jI k1,zc]
  obtain⟨e,he⟩:=Tot.get (xs:=x.exprs) (i:=0) (by omega) (by have:=hg.shape.one (.inl k1);omega)
  obtain⟨v,hv⟩:=tf hI (by omega) ([]:List LCol) ([]:Rq) e
  rw[he,bPs,aX,bPs,hv,bPs];exact Ok.bind (set_is hI (by omega) _ _) fun q hq=>Ok.mk fun _=>hq
 rw[ci k1,zd];by_cases k2:x.kind=2
 ·rw[jI k2,zc]
  obtain⟨e,he⟩:=Tot.get (xs:=x.exprs) (i:=0) (by omega) (by have:=hg.shape.one (.inr k2);omega)
  obtain⟨v,hv⟩:=tf hI (by omega) ([]:List LCol) ([]:Rq) e
  rw[he,bPs,hv,bPs];refine Ok.letP (Ok.cond (fun _=>?_) fun _=>?_)
  ·exact Ok.bind (inner_is hI (hbody (.inl k2) n r (by omega) hI)) fun y hy=>Ok.mk fun h=>up (hy h)
  ·exact Ok.bind (inner_is hI (helse k2 n r (by omega) hI)) fun y hy=>Ok.mk fun h=>up (hy h)
 rw[ci k2,zd,aX];by_cases k3:x.kind=3\/x.kind=7
 ·have e3:(cond (x.kind==(3:Int)) (x.kind==(3:Int)) (x.kind==(7:Int)))=true:=by rcases k3 with k|k<;>rw[k]<;>rfl
  rw[e3,zc,hask];exact Ok.bind (ask_is hb hI hg hbk k3 (by omega) fun k=>hbody (.inr k)) fun y hy=>Ok.mk fun h=>up (hy h)
 have e3:(cond (x.kind==(3:Int)) (x.kind==(3:Int)) (x.kind==(7:Int)))=false:=by rw[ci (fun e=>k3 (.inl e)),zd,ci (fun e=>k3 (.inr e))]
 rw[e3,zd];by_cases k4:x.kind=4
 ·rw[jI k4,zc];have hxl:=exprs_bulk hbk;refine Ok.bind (Ok.range (I:=fun j q=>q.1.length<=j/\Inv s st0 T n q.2) (B:=fun _=>False) (Q:=fun _=>True) ⟨Nat.le_refl 0,hI⟩ fun j e q hj hq=>?_) fun fl hfl=>Ok.thenP hfl fun q hq=>?_
  ·have hjl:=(zg.1 hj).1
   obtain⟨v,hv⟩:=tf hq.2 (by omega) ([]:List LCol) ([]:Rq) e
   have:=hq.1
   rw[hv,bPs,aS (by decide) (by simp;omega),bPs];exact Ok.mk ⟨by simp;omega,hq.2⟩
  ·have hq:=((hq.resolve_right id).resolve_right id).2;exact Ok.bind (write_is hb hq (hT (.inl k4))) fun y hy=>Ok.mk fun h=>up (hy h)
 rw[ci k4,zd,aX];by_cases k5:x.kind=5\/x.kind=6
 ·have e5:(cond (x.kind==(5:Int)) (x.kind==(5:Int)) (x.kind==(6:Int)))=true:=by rcases k5 with k|k<;>rw[k]<;>rfl
  rw[e5,zc];exact Ok.bind (rows_is hb hI (by omega) hg k5 (hT (.inr k5))) fun y hy=>Ok.mk fun h=>up (hy h)
 have e5:(cond (x.kind==(5:Int)) (x.kind==(5:Int)) (x.kind==(6:Int)))=false:=by rw[ci (fun e=>k5 (.inl e)),zd,ci (fun e=>k5 (.inr e))]
 rw[e5,zd];refine Ok.cond (fun h8=>?_) fun _=>Ok.cond (fun _=>Ok.mk fun _=>?_) fun _=>Ok.mk fun _=>up hI
 ·have hc:=hg.shape.code (by simpa using h8);refine Ok.letP (Ok.mk fun h=>?_);have h:gm x.code=0:=h;unfold gm at h;rw[Ww (by omega) (by omega)]at h;omega
 ·exact⟨hI.sch,hI.vals,Nat.le_succ_of_le hI.few,hI.st,hI.ch,hI.chl,hI.tab,hI.res,hI.left⟩
theorem run_is(hb:BaseS s):∀l:List LS,(∀x∈l,aT (af x)<=1048576)->GoodL s l->(∀x∈gA l,x.kind=4\/x.kind=5\/x.kind=6->x.table∈T)->
  ∀n r,n+21*dX l<=10000->Inv s st0 T n r->Ok (aw r l) fun y=>y.1=0->Inv s st0 T (n+l.length) y.2:=by
 refine mA fun l ih hbk hg hT n r hn hI=>?_
 rw[(iY l).2.2.1 r];unfold eF;refine Ok.bind (Ok.range (I:=fun j q=>Inv s st0 T (n+j) q) (B:=fun _=>False) (Q:=fun y=>y.1=0->Inv s st0 T (n+l.length) y.2) hI fun k x q hk hIq=>?_) fun fl hfl=>Ok.thenR hfl (fun q h1=>Ok.mk fun _=>?_) fun y hy=>hy
 ·have hkl:=(zg.1 hk).1;have hx:=cV hk;have hcl:=rV l;simp only[Nat.zero_add]at hIq⊢;have hlf:=hIq.left;refine Ok.cond (fun _=>Ok.mk fun _=>hIq.mono (by omega)) fun _=>?_
  rw[Ww (by omega) (by omega)];refine Ok.cond (fun _=>Ok.mk fun h=>absurd h (show ¬(2:Int)=0 from by decide)) fun hneg=>?_
  have hneg:¬q.left-1<0:=by simpa using hneg
  have hI2:Inv s st0 T (n+k) (LR.mk q.s q.st q.args q.vars q.vals q.changes q.results (q.left-1) q.stopped):=
   ⟨hIq.sch,hIq.vals,hIq.few,hIq.st,hIq.ch,hIq.chl,hIq.tab,hIq.res,by show 0<=q.left-1/\q.left-1<=400;omega⟩
  have hm:=rJ hx
  obtain⟨c1,c2⟩:=sg hk
  have hkc:k<=dX (l.take k):=by have:=rV (l.take k);rw[List.length_take]at this;omega
  obtain⟨f1,f2,f3⟩:=flatS_mem hx
  have hgx:=hg.at x hx;rw[(iY l).2.2.2.2.1 x hx];refine Ok.bind (stmt_is hb hI2 hgx (hbk x hx) (by omega) (hT x f1) ((iY l).2.2.2.2.2 x hx) (fun hk2 m q hm hq=>?_) fun hk2 m q hm hq=>?_) fun y hy=>Ok.cond (fun h=>Ok.mk fun h0=>absurd h0 (by simpa using h)) fun h=>Ok.mk (hy (by simpa using h))
  ·refine(ih x hx).1 (fun y hy=>sF (hbk x hx) (.inl hy)) ?_ (fun y hy=>hT y (f2 y hy)) m q hm hq
   rcases hk2 with h|h
   ·exact hgx.yes h
   ·exact hgx.each h
  ·exact(ih x hx).2 (fun y hy=>sF (hbk x hx) (.inr hy)) (hgx.no hk2) (fun y hy=>hT y (f3 y hy)) m q hm hq
 ·have h1:=(h1.resolve_right id).resolve_right id;rw[Nat.zero_add]at h1;exact h1
end
theorem cntS_app(a b:List LS):dX (a++b)=dX a+dX b:=by
 rw[mj,mj a,mj b];simp
theorem cnt_bulk:∀l:List LS,2*dX l<=cO (l.map af):=by
 refine mA fun l ih=>?_
 rw[mj]
 have key:∀m:List LS,(∀x∈m,x∈l)->2*(m.map fun s=>1+dX s.body+dX s.elseF).sum<=cO (m.map af):=by
  intro m;induction m with
  |nil=>intro _;simp[cO]
  |cons x m ihm=>
   intro hm;have h0:=ihm fun y hy=>hm y (by simp[hy])
   obtain⟨h1,h2⟩:=ih x (hm x (by simp))
   have h3:2+cO (x.body.map af)+cO (x.elseF.map af)<=aT (af x):=by
    rw[cx];simp only[am,aT,PV.bulk];omega
   simp only[List.map_cons,List.sum_cons,cO];omega
 exact key l fun _ h=>h
structure kU(s:LSchema)(st:List LW)(p:LP):Prop where
 base:BaseS s
 inst:InstOk s st
 conf:du s st=some 0
 check:gR s p=some 0
 good:GoodL s p.body
 cnt:dX p.body<=40
theorem check_is{s:LSchema}{p:LP}(hbb:∀x∈p.body,aT (af x)<=1048576)(hc:dX p.body<=1000000):Ok (gR s p) fun e=>e=0->GoodL s p.body/\dX p.body<=40:=by
 obtain⟨fl,hs,hl⟩:=stmts_ok p.body hc
 unfold gR;refine Ok.bind (P:=fun b=>b=false->dX p.body<=40) ?_ fun b h40=>Ok.cond (fun _=>Ok.mk fun h=>absurd h (show ¬(2:Int)=0 from by decide)) fun hf=>?_
 ·rw[hs,bPs];refine Ok.cond (fun _=>Ok.mk fun h=>by cases h) fun h=>Ok.bind (Ok.tot (depth_tot p.body)) fun _ _=>Ok.cond (fun _=>Ok.mk fun h=>by cases h) fun _=>Ok.mk fun _=>?_
  have:¬(fl.length:Int)>40:=by simpa using h
  omega
 ·have h40:=h40 hf;refine Ok.bind (Ok.range (I:=fun _ _=>True) (B:=fun _=>False) (Q:=fun r=>r≠0) trivial fun k x u hk _=>?_) fun fl hfl=>Ok.thenR hfl (fun u _=>?_) fun r hr h=>absurd h hr
  ·exact Ok.cond (fun _=>Ok.mk (show(1:Int)≠0 from by decide)) fun _=>Ok.cond (fun _=>Ok.mk (show(1:Int)≠0 from by decide)) fun _=>Ok.mk trivial
  ·refine Ok.bind (body_ok (LC.mk s p.parameters) p.body hbb [] (by simp;omega)) fun y hy=>Ok.mk fun h=>⟨hy h,h40⟩
theorem wo{s:LSchema}(hs:pi s)(st:List LW){p:LP}(hbb:∀x∈p.body,aT (af x)<=1048576)(hc:dX p.body<=1000000):Ok (it s st p) fun b=>b=true->kU s st p:=by
 unfold it
 obtain⟨fl,hfl,_⟩:=stmts_ok p.body hc
 obtain⟨v,hv,hvok⟩:=validate_inv (s:=s) fun t ht=>by have:=hs t ht;omega
 obtain⟨f,hf,hfok⟩:=conforms hs st
 obtain⟨e,he,hck⟩:=check_is (s:=s) hbb hc
 rw[hfl,bPs];refine Ok.cond (fun _=>?_) fun _=>Ok.mk fun h=>by cases h
 rw[hv,bPs];refine Ok.cond (fun v0=>?_) fun _=>Ok.mk fun h=>by cases h
 rw[hf,bPs];refine Ok.cond (fun f0=>?_) fun _=>Ok.mk fun h=>by cases h
 rw[he,bPs];refine Ok.mk fun e0=>?_
 have v0:v=0:=by simpa using v0
 have f0:f=0:=by simpa using f0
 have e0:e=0:=by simpa using e0
 obtain⟨h6,ht⟩:=hvok v0
 exact⟨⟨by rw[hv,v0],h6,ht⟩,hfok f0,by rw[hf,f0],by rw[he,e0],(hck e0).1,(hck e0).2⟩
def nF(s:LSchema)(st:List LW)(a:Rq):LR:=LR.mk s st a [] [] [] [] 400 false
def allT(l:List LS):Rs:=(gA l).map LS.table
theorem body0{s:LSchema}{st:List LW}{p:LP}(h:kU s st p)(hbb:∀x∈p.body,aT (af x)<=1048576)(a:Rq):
  Ok (aw (nF s st a) p.body) fun y=>y.1=0->∃n,Inv s st (allT p.body) n y.2:=
 (run_is h.base p.body hbb h.good (T:=allT p.body) (fun x hx _=>List.mem_map_of_mem hx) 0 (nF s st a) (by have:=h.cnt;omega) ⟨rfl,rfl,Nat.le_refl 0,h.inst.lens,rfl,by simp[nF],by simp[nF],by simp[nF],by simp[nF]⟩).mono fun y hy h0=>⟨_,hy h0⟩
theorem eqRow_self(x:Rq):bN x x=some true:=by
 unfold bN
 rw[iB Z,zd,rMa (s:=()) (fun _=>()) Z (fun k v hk=>by
  rw[gp hk,bPs];simp),bPs,fX]
theorem wG(x:LChange):fv x x=some true:=by
 unfold fv;rw[beq_self_eq_true,zc,beq_self_eq_true,zc,eqRow_self,bPs,zc,eqRow_self,bPs]
theorem eqChanges_self(x:List LChange):bA x x (fun a0 a1=>fv a0 a1)=some true:=by
 unfold bA
 rw[iB Z,zd,rMa (s:=()) (fun _=>()) Z (fun k v hk=>by
  rw[gp hk,bPs];dsimp only;rw[wG,bPs];rfl),bPs,fX]
theorem concat2S{a b:List LS}(h:a.length+b.length<=1100000):bu [a,b]=some (a++b):=by
 unfold bu;simp only[au];rw[Ww (n:=0+(a.length:Int)) (by omega) (by omega),zf (by omega),zd];dsimp only;rw[Ww (n:=0+(a.length:Int)+(b.length:Int)) (by omega) (by omega),zf (by omega),zd];dsimp only;rw[bPs,bQ,tX ⟨by omega,by omega,by unfold maxLen;omega⟩,bPs,aS (by decide) (by simp;omega),bPs];dsimp only;rw[aS (by decide) (by simp;omega),bPs];dsimp only;rw[bPs,bQ,List.nil_append]
theorem mf(a b:Int):bp a b=if a<b then-1 else if b<a then 1 else 0:=by
 unfold bp;by_cases h1:a<b
 ·simp[h1]
 ·by_cases h2:b<a
  ·simp[h1,h2]
  ·simp[h1,h2]
theorem cmpB_eq:∀a b:Rb,Lib.compareBytes a b=0->a=b
 |[],[],_=>rfl
 |[],_::_,h=>by simp[Lib.compareBytes]at h
 |_::_,[],h=>by simp[Lib.compareBytes]at h
 |a::la,b::lb,h=>by
  simp only[Lib.compareBytes,UInt8.lt_iff_toNat_lt]at h;split at h
  ·cases h
  ·split at h
   ·cases h
   ·rename_i h1 h2;rw[UInt8.toNat_inj.1 (by omega:a.toNat=b.toNat),cmpB_eq la lb h]
theorem cmpB_refl:∀a:Rb,Lib.compareBytes a a=0
 |[]=>rfl
 |a::la=>by simp only[Lib.compareBytes,UInt8.lt_iff_toNat_lt];rw[zy (by omega),zy (by omega)];exact cmpB_refl la
theorem cmpB_trans:∀a b c:Rb,Lib.compareBytes a b<0->Lib.compareBytes b c<0->Lib.compareBytes a c<0
 |[],[],_,h,_=>by simp[Lib.compareBytes]at h
 |_::_,[],_,h,_=>by simp[Lib.compareBytes]at h
 |_,_::_,[],_,h=>by simp[Lib.compareBytes]at h
 |[],_::_,_::_,_,_=>by simp[Lib.compareBytes]
 |a::la,b::lb,c::lc,h,h'=>by
  simp only[Lib.compareBytes,UInt8.lt_iff_toNat_lt]at h h'⊢;by_cases h1:a.toNat<c.toNat
  ·rw[zp h1];decide
  ·rw[zy h1];by_cases h2:a.toNat<b.toNat
   ·rw[zy (by omega),zp (by omega)]at h';exact absurd h' (by decide)
   ·rw[zy h2]at h;by_cases h3:b.toNat<a.toNat
    ·rw[zp h3]at h;exact absurd h (by decide)
    ·rw[zy h3]at h;rw[zy (by omega)];rw[zy (by omega)]at h';by_cases h4:c.toNat<b.toNat
     ·rw[zp h4]at h';exact absurd h' (by decide)
     ·rw[zy h4]at h';exact cmpB_trans la lb lc h h'
def LtV(a b:LVal):Prop:=a.kind<b.kind\/(a.kind=b.kind/\(a.int<b.int\/(a.int=b.int/\Lib.compareBytes a.text b.text<0)))
theorem ltV_trans{a b c:LVal}(h:LtV a b)(h':LtV b c):LtV a c:=by
 unfold LtV at h h'⊢;rcases h with h|⟨h1,h|⟨h2,h⟩⟩<;>rcases h' with h'|⟨h1',h'|⟨h2',h'⟩⟩
 all_goals first|(left;omega)|(right;refine⟨by omega,?_⟩;first|(left;omega)|(right;exact⟨by omega,cmpB_trans _ _ _ h h'⟩))
theorem mM(a b:LVal):bP a b=if bp a.kind b.kind≠0 then bp a.kind b.kind else if bp a.int b.int≠0 then bp a.int b.int else Lib.compareBytes a.text b.text:=by
 unfold bP kI eP;simp only[aX];by_cases h1:bp a.kind b.kind=0
 ·rw[iB h1,zd,zy (fun h=>h h1)];by_cases h2:bp a.int b.int=0
  ·rw[iB h2,zd,zy (fun h=>h h2)]
  ·rw[jk h2,zc,zp h2]
 ·rw[jk h1,zc,zp h1]
theorem us{a b:LVal}(h:bP a b<0):LtV a b:=by
 rw[mM,mf,mf]at h;unfold LtV;by_cases h1:a.kind<b.kind
 ·exact .inl h1
 ·by_cases h2:b.kind<a.kind
  ·simp[h1,h2]at h
  ·right
   refine⟨by omega,?_⟩
   simp only[h1,h2,if_false,ne_eq,not_true_eq_false]at h;by_cases h3:a.int<b.int
   ·exact .inl h3
   ·by_cases h4:b.int<a.int
    ·simp[h3,h4]at h
    ·right
     refine⟨by omega,?_⟩
     simpa[h3,h4]using h
theorem uO{a b:LVal}(h:bP a b=0):a=b:=by
 rw[mM,mf,mf]at h;by_cases h1:a.kind<b.kind
 ·simp[h1]at h
 ·by_cases h2:b.kind<a.kind
  ·simp[h1,h2]at h
  ·simp only[h1,h2,if_false,ne_eq,not_true_eq_false]at h;by_cases h3:a.int<b.int
   ·simp[h3]at h
   ·by_cases h4:b.int<a.int
    ·simp[h3,h4]at h
    ·simp only[h3,h4,if_false,not_true_eq_false]at h;have h5:=cmpB_eq _ _ h;cases a;cases b;simp only[LVal.mk.injEq]at h1 h2 h3 h4 h5⊢
     exact⟨by omega,by omega,h5⟩
def jY(a b:Rq):Prop:=∃(j:Nat) (x y:LVal),a[j]? =some x/\b[j]? =some y/\(∀i,i<j->a[i]? =b[i]?)/\LtV x y
theorem wx{a b c:Rq}(h:jY a b)(h':jY b c):jY a c:=by
 obtain⟨j,x,y,h1,h2,h3,h4⟩:=h
 obtain⟨k,x',y',h1',h2',h3',h4'⟩:=h'
 rcases Nat.lt_trichotomy j k with hjk|hjk|hjk
 ·exact⟨j,x,y,h1,(h3' j hjk).symm.trans h2,fun i hi=>(h3 i hi).trans (h3' i (by omega)),h4⟩
 ·subst hjk;rw[h2]at h1';cases h1'
  exact⟨j,x,y',h1,h2',fun i hi=>(h3 i hi).trans (h3' i hi),ltV_trans h4 h4'⟩
 ·exact⟨k,x',y',(h3 k hjk).trans h1',h2',fun i hi=>(h3 i (by omega)).trans (h3' i hi),h4'⟩
theorem compareRows_lt{a b:Rq}{z:Int}(hl:a.length=b.length)(ha:a.length<=10000000)(h:bM a b=some z)(hz:z<0):jY a b:=by
 unfold bM at h;rw[zy (by omega),lD (by omega),bPs,Int.toNat_natCast]at h
 obtain⟨fl,hfl,hr⟩:=eI (step:=fun(j1:Nat) (_:Nat) (_:Unit)=>
  aa (ax a (j1:Int)) fun(x17:LVal)=>
  aa (ax b (j1:Int)) fun(x21:LVal)=>
  letP (bP x17 x21) fun x23=>
  cond (x23 !=(0:Int))
   (some (Flow.ret (σ:=Unit) x23))
   (some (.next ()))) (fun j _=>∀i,i<j->a[i]? =b[i]?) (fun r=>r<0->jY a b) (List.range a.length) 0 () (fun i h=>by omega) (fun k x s hk hI=>by
    have hkl:=(zg.1 hk).1;simp at hkl;simp only[Nat.zero_add]at hI⊢;rw[dG (by omega),dG (by omega)];simp only[bPs,aX];by_cases h0:bP a[k] b[k]=0
    ·refine⟨.next (),by simp[h0],fun i hi=>?_⟩
     by_cases he:i=k
     ·subst he;rw[ze (by omega),ze (by omega),uO h0]
     ·exact hI i (by omega)
    ·exact⟨.ret (bP a[k] b[k]),by rw[jk h0];rfl,fun hz=>⟨k,_,_,ze (by omega),ze (by omega),hI,us hz⟩⟩)
 rw[hfl,bPs]at h;cases fl with
 |brk s=>exact absurd hr (by simp)
 |ret r=>
  have:r=z:=by simpa[Flow.thenR]using h
  exact hr (by omega)
 |next s=>
  simp only[Flow.thenR,aX,mf,hl,zo]at h;rw[zy (by omega),zy (by omega)]at h;omega
def kg(t:LTable)(row:Rq):Rq:=t.primaryKey.map fun k:Int=>if 0<=k/\k<row.length then row.getD k.toNat (LVal.mk 0 0 [])else LVal.mk 0 0 []
theorem key_eq{t:LTable}(hsm:t.primaryKey.length<=10000000)(row:Rq):cu t row=some (kg t row):=by
 unfold cu
 rw[np (fun k:Int=>if 0<=k/\k<row.length then row.getD k.toNat (LVal.mk 0 0 [])else LVal.mk 0 0 []) (fun k x hk=>by
  have hkl:=(zg.1 hk).1;rw[aX];by_cases h:0<=x/\x<row.length
  ·haveI:Inhabited LVal:=⟨LVal.mk 0 0 []⟩
   obtain⟨v,hv,hv'⟩:=getI_lt (xs:=row) h.1 h.2
   rw[zp h,zt (show x>=0 from h.1),zc,zt h.2,zc,hv,bPs,bPs,aS (by decide) (by simp;omega),bPs];rw[show row.getD x.toNat (LVal.mk 0 0 [])=v from by rw[List.getD_eq_getElem?_getD,hv'];rfl]
  ·rw[zy h]
   have hc:(cond (decide (x>=(0:Int))) (decide (x<(row.length:Int))) false)=false:=by
    by_cases h0:x>=0
    ·rw[zt h0,zc];exact zf fun h1=>h ⟨h0,h1⟩
    ·rw[zf h0];rfl
   rw[hc,zd,bPs,aS (by decide) (by simp;omega),bPs]),bPs,bQ]
 rfl
theorem keys_lt{t:LTable}(hsm:t.primaryKey.length<=10000000){rows:Rz}(h:KeyOrd t rows):∀(d i:Nat) (p q:Rq),rows[i]? =some p->rows[i+d+1]? =some q->jY (kg t p) (kg t q):=by
 have one:∀(i:Nat) (p q:Rq),rows[i]? =some p->rows[i+1]? =some q->jY (kg t p) (kg t q):=by
  intro i p q hp hq
  obtain⟨k1,k2,z,h1,h2,h3,h4⟩:=h i p q hp hq
  rw[key_eq hsm]at h1 h2;cases h1;cases h2;exact compareRows_lt (by simp[kg]) (by simpa[kg]using hsm) h3 h4
 intro d;induction d with
 |zero=>intro i p q hp hq;exact one i p q hp hq
 |succ d ih=>
  intro i p q hp hq;have hl:=(zg.1 hq).1;have hm:rows[i+d+1]? =some rows[i+d+1]:=ze (by omega);exact wx (ih i p _ hp hm) (one (i+d+1) _ q hm (by rw[<-hq];congr 1))
theorem qC(a:Int):bp a a=0:=by rw[mf,zy (by omega),zy (by omega)]
theorem compare_self(a:LVal):bP a a=0:=by
 rw[mM,qC,qC,zy (fun h=>h Z),zy (fun h=>h Z),cmpB_refl]
theorem compare_of_lt{a b:LVal}(h:LtV a b):bP a b<0:=by
 rw[mM];rcases h with h|⟨h1,h|⟨h2,h⟩⟩
 ·have e:bp a.kind b.kind=-1:=by rw[mf,zp h]
  rw[e,zp (by decide)];decide
 ·have e:bp a.int b.int=-1:=by rw[mf,zp h]
  rw[h1,qC,zy (fun h=>h Z),e,zp (by decide)];decide
 ·rw[h1,h2,qC,qC,zy (fun h=>h Z),zy (fun h=>h Z)];exact h
theorem cmpRows_lt{a b:Rq}(hl:a.length=b.length)(ha:a.length<=10000000)(h:jY a b):∃z,bM a b=some z/\z<0:=by
 obtain⟨j,x,y,hx,hy,hpre,hlt⟩:=h
 have hja:=(zg.1 hx).1;unfold bM;rw[zy (by omega),lD (by omega),bPs,Int.toNat_natCast]
 obtain⟨fl,hfl,hr⟩:=eI (step:=fun(j1:Nat) (_:Nat) (_:Unit)=>
  aa (ax a (j1:Int)) fun(x17:LVal)=>
  aa (ax b (j1:Int)) fun(x21:LVal)=>
  letP (bP x17 x21) fun x23=>
  cond (x23 !=(0:Int))
   (some (Flow.ret (σ:=Unit) x23))
   (some (.next ()))) (fun k _=>k<=j) (fun r=>r<0) (List.range a.length) 0 () (Nat.zero_le _) (fun k z s hk hI=>by
    have hkl:=(zg.1 hk).1;simp at hkl;simp only[Nat.zero_add]at hI⊢;rw[dG (by omega),dG (by omega)];simp only[bPs,aX];by_cases hkj:k=j
    ·subst hkj;have e1:a[k]=x:=by rw[ze hja]at hx;exact Option.some.inj hx
     have e2:b[k]=y:=by rw[ze (by omega)]at hy;exact Option.some.inj hy
     have hc:=compare_of_lt hlt
     exact⟨.ret (bP x y),by rw[e1,e2,jk (by omega)];rfl,hc⟩
    ·have e:a[k]=b[k]:=by
      have:=hpre k (by omega)
      rw[ze (by omega),ze (by omega)]at this;exact Option.some.inj this
     exact⟨.next (),by rw[e,compare_self];rfl,by omega⟩)
 rw[hfl,bPs];cases fl with
 |brk s=>exact absurd hr (by simp)
 |ret r=>exact⟨r,rfl,hr⟩
 |next s=>simp at hr;omega
def Srt(t:LTable)(rows:Rows):Prop:=rows.Pairwise fun p q=>jY (kg t p) (kg t q)
theorem og(t:LTable)(p:Rq):(kg t p).length=t.primaryKey.length:=by simp[kg]
theorem srt_of{t:LTable}(hsm:t.primaryKey.length<=10000000){rows:Rows}(h:KeyOrd t rows):Srt t rows:=by
 unfold Srt;rw[List.pairwise_iff_getElem];intro i j hi hj hij;exact keys_lt hsm h (j-i-1) i rows[i] rows[j] (ze hi) (by rw[show i+(j-i-1)+1=j from by omega];exact ze hj)
theorem Srt.ord{t:LTable}(hsm:t.primaryKey.length<=10000000){rows:Rows}(h:Srt t rows):KeyOrd t rows:=by
 intro i p q hp hq;have hi:=(zg.1 hp);have hj:=(zg.1 hq)
 have hlt:jY (kg t p) (kg t q):=by
  rw[<-hi.2,<-hj.2]
  exact(List.pairwise_iff_getElem.1 h) i (i+1) hi.1 hj.1 (by omega)
 obtain⟨z,hz,hz0⟩:=cmpRows_lt (by rw[og,og]) (by rw[og];exact hsm) hlt
 exact⟨_,_,z,key_eq hsm p,key_eq hsm q,hz,hz0⟩
theorem validate_of{v:LVal}(h:kY v=true):da v=0:=by
 obtain⟨k,n,t⟩:=v
 unfold kY at h;unfold da letP;by_cases k0:k=0
 ·subst k0;simp at h;simp[h]
 ·have e0:(k==(0:Int))=false:=by simpa using k0
  simp only[zy k0]at h;simp only[e0,zd];by_cases k1:k=1
  ·subst k1;simp at h
   obtain⟨⟨h1,h2⟩,h3⟩:=h
   subst h1;simp[show ¬n< -1000000000000 from by omega,show ¬1000000000000<n from by omega]
  ·rw[zy k1]at h;by_cases k2:k=2
   ·subst k2;simp at h
    obtain⟨h1,h2|h2⟩:=h<;>subst h1<;>subst h2<;>decide
   ·rw[zy k2]at h;by_cases k3:k=3
    ·subst k3;simp at h
     obtain⟨h1,h2⟩:=h
     subst h1;simp[show ¬(24:Int)<(t.length:Int)from by omega]
    ·rw[zy k3]at h;cases h
theorem conformsRow_of{t:LTable}{row:Rq}(h:oD t.columns row):dC t row=some 0:=by
 unfold dC
 obtain⟨hl,hf⟩:=h
 rw[iB (by omega),zd,rMa (s:=()) (fun _=>()) Z (fun k x hk=>by
  have hkl:=(zg.1 hk).1;have hc:k<t.columns.length:=by omega
  obtain⟨h1,h2,h3⟩:=hf k _ x (ze hc) hk
  rw[aX,validate_of h1,iB Z,zd,dG hc];simp only[bPs];by_cases hx:x.kind=0
  ·rw[jI hx,zc,bPs,h3 hx,iB hx];rfl
  ·rw[ci hx,zd,bPs,zd,jk hx,zc];rcases h2 with h2|h2
   ·rw[iB h2];rfl
   ·exact absurd h2 hx),bPs,fX]
theorem conforms_of{s:LSchema}(_hsm:pi s){st:List LW}(h:InstOk s st):du s st=some 0:=by
 unfold du
 obtain⟨hl,ho,ht⟩:=h
 rw[iB (by omega),zd,rMa (s:=()) (fun _=>()) Z (fun k x hk=>by
  have hkl:=(zg.1 hk).1;have hc:k<s.tables.length:=by omega
  obtain⟨h1,h2,h3⟩:=ht k x _ hk (ze hc)
  have hk2:=ho k x _ hk (ze hc);rw[dG hc,bPs,h1];simp only[beq_self_eq_true,Bool.not_true,zd]
  rw[zf (by omega),zd,rMa (s:=()) (fun _=>()) Z (fun i row hi=>by
   have hil:=(zg.1 hi).1;rw[conformsRow_of (h3 row (cV hi)),bPs,iB Z,zd];by_cases h0:i=0
   ·subst h0;rfl
   ·rw[ci (by omega),zd,Ww (by omega) (by omega)]
    obtain⟨p,hp⟩:=Tot.get (xs:=x.rows) (i:=(i:Int)-1) (by omega) (by omega)
    have hp2:=(gIs hp).2;rw[show((i:Int)-1).toNat=i-1 from by omega]at hp2
    obtain⟨k1,k2,z,e1,e2,e3,e4⟩:=hk2 (i-1) p row hp2 (by rw[show i-1+1=i from by omega];exact hi)
    rw[hp,bPs,e1,bPs,e2,bPs,e3,bPs,ci (by omega),zd,zf (by omega)];rfl),bPs,wu]),bPs,fX]
theorem cmpI_swap{a b:Int}:bp a b=-bp b a:=by
 rw[mf,mf];by_cases h1:a<b
 ·rw[zp h1,zy (by omega),zp h1]
 ·rw[zy h1];by_cases h2:b<a
  ·rw[zp h2,zp h2];rfl
  ·rw[zy h2,zy h2,zy h1];rfl
theorem cmpB_swap:∀a b:Rb,Lib.compareBytes a b=-Lib.compareBytes b a
 |[],[]=>rfl
 |[],_::_=>by simp[Lib.compareBytes]
 |_::_,[]=>by simp[Lib.compareBytes]
 |a::la,b::lb=>by
  simp only[Lib.compareBytes,UInt8.lt_iff_toNat_lt];by_cases h1:a.toNat<b.toNat
  ·rw[zp h1,zy (by omega),zp h1]
  ·rw[zy h1];by_cases h2:b.toNat<a.toNat
   ·rw[zp h2,zp h2];rfl
   ·rw[zy h2,zy h2,zy h1];exact cmpB_swap la lb
theorem compare_swap(a b:LVal):bP a b=-bP b a:=by
 rw[mM,mM b a,cmpI_swap (a:=a.kind),cmpI_swap (a:=a.int),cmpB_swap a.text];generalize bp b.kind a.kind=x;generalize bp b.int a.int=y;by_cases h1:x=0
 ·rw[zy (show ¬(-x≠0)from by omega),zy (show ¬(x≠0)from by omega)];by_cases h2:y=0
  ·rw[zy (show ¬(-y≠0)from by omega),zy (show ¬(y≠0)from by omega)]
  ·rw[zp (show-y≠0 from by omega),zp h2]
 ·rw[zp (show-x≠0 from by omega),zp h1]
theorem cmpRows_is{a b:Rq}{z:Int}(hl:a.length=b.length)(ha:a.length<=10000000)(h:bM a b=some z):(z<0/\jY a b)\/(z=0/\a=b)\/(0<z/\jY b a):=by
 unfold bM at h;rw[zy (by omega),lD (by omega),bPs,Int.toNat_natCast]at h
 obtain⟨fl,hfl,hr⟩:=eI (step:=fun(j1:Nat) (_:Nat) (_:Unit)=>
  aa (ax a (j1:Int)) fun(x17:LVal)=>
  aa (ax b (j1:Int)) fun(x21:LVal)=>
  letP (bP x17 x21) fun x23=>
  cond (x23 !=(0:Int))
   (some (Flow.ret (σ:=Unit) x23))
   (some (.next ()))) (fun j _=>∀i,i<j->a[i]? =b[i]?) (fun r=>(r<0/\jY a b)\/(0<r/\jY b a)) (List.range a.length) 0 () (fun i h=>by omega) (fun k x s hk hI=>by
    have hkl:=(zg.1 hk).1;simp at hkl;simp only[Nat.zero_add]at hI⊢;rw[dG (by omega),dG (by omega)];simp only[bPs,aX];by_cases h0:bP a[k] b[k]=0
    ·refine⟨.next (),by simp[h0],fun i hi=>?_⟩
     by_cases he:i=k
     ·subst he;rw[ze (by omega),ze (by omega),uO h0]
     ·exact hI i (by omega)
    ·refine⟨.ret (bP a[k] b[k]),by rw[jk h0];rfl,?_⟩
     have g1:a[k]? =some a[k]:=ze (by omega);have g2:b[k]? =some b[k]:=ze (by omega);by_cases hn:bP a[k] b[k]<0
     ·exact .inl ⟨hn,k,_,_,g1,g2,hI,us hn⟩
     ·exact .inr ⟨by omega,k,_,_,g2,g1,fun i hi=>(hI i hi).symm,us (by rw[compare_swap];omega)⟩)
 rw[hfl,bPs]at h;cases fl with
 |brk s=>exact absurd hr (by simp)
 |ret r=>
  have e:r=z:=by simpa[Flow.thenR]using h
  rw[e]at hr;rcases hr with hr|hr
  ·exact .inl hr
  ·exact .inr (.inr hr)
 |next s=>
  simp only[Flow.thenR,aX,mf,hl,zo]at h;rw[zy (by omega),zy (by omega)]at h;simp only[Nat.zero_add,List.length_range]at hr;refine .inr (.inl ⟨h.symm,List.ext_getElem? fun i=>?_⟩);by_cases hi:i<a.length
  ·exact hr i hi
  ·rw[List.getElem?_eq_none (by omega),List.getElem?_eq_none (by omega)]
theorem find_is{t:LTable}(hsm:t.primaryKey.length<=10000000){rows:Rows}(hl:rows.length<=100000){key:Rq}(hk:key.length=t.primaryKey.length):
  ∃(i:Nat) (b:Bool),gQ t rows key=some ((i:Int),b,rows)/\i<=rows.length/\(∀x∈rows.take i,jY (kg t x) key)/\(b=true->∃x,rows[i]? =some x/\kg t x=key)/\(b=false->∀x,rows[i]? =some x->jY key (kg t x)):=by
 unfold gQ;rw[lD (by omega),bPs,Int.toNat_natCast]
 obtain⟨fl,hfl,hr⟩:=eI (step:=fun(j1:Nat) (_:Nat) (s1:Rz)=>
  aa (ax s1 (j1:Int)) fun(x16:Rq)=>
  aa (cu t x16) fun x20=>
  aa (bM x20 key) fun x22=>
  cond (decide (x22>=(0:Int)))
   (some (Flow.ret (σ:=Rz) ((j1:Int),(x22==(0:Int)),s1)))
   (some (.next s1))) (fun j s=>s=rows/\∀x∈rows.take j,jY (kg t x) key)
   (fun r=>∃(i:Nat) (b:Bool),r=((i:Int),b,rows)/\i<=rows.length/\(∀x∈rows.take i,jY (kg t x) key)/\(b=true->∃x,rows[i]? =some x/\kg t x=key)/\(b=false->∀x,rows[i]? =some x->jY key (kg t x))) (List.range rows.length) 0 rows ⟨rfl,by simp⟩ (fun k z s hkr hI=>by
    have hkl:=(zg.1 hkr).1;simp only[List.length_range]at hkl;simp only[Nat.zero_add]at hI⊢
    obtain⟨rfl,hI⟩:=hI
    have hg:s[k]? =some s[k]:=ze hkl
    obtain⟨z,hz⟩:=oT (kg t s[k]) key (by rw[og];exact hsm)
    have hc:=cmpRows_is (by rw[og,hk]) (by rw[og];exact hsm) hz;rw[dG hkl,bPs,key_eq hsm,bPs,hz,bPs];by_cases h0:z>=0
    ·rw[zt h0]
     refine⟨_,rfl,k,_,rfl,by omega,hI,fun hb=>⟨_,hg,?_⟩,fun hb x hx=>?_⟩
     ·have:z=0:=by simpa using hb
      rcases hc with hc|hc|hc
      ·omega
      ·exact hc.2
      ·omega
     ·have:¬z=0:=by simpa using hb
      rw[hg]at hx;cases hx;rcases hc with hc|hc|hc
      ·omega
      ·omega
      ·exact hc.2
    ·rw[zf h0]
     refine⟨_,rfl,rfl,fun x hx=>?_⟩
     rw[List.take_add_one,hg,List.mem_append]at hx;rcases hx with hx|hx
     ·exact hI x hx
     ·simp at hx;rw[hx];rcases hc with hc|hc|hc
      ·exact hc.2
      ·omega
      ·omega)
 rw[hfl,bPs];cases fl with
 |brk s=>exact absurd hr (by simp)
 |ret r=>
  obtain⟨i,b,rfl,h⟩:=hr
  exact⟨i,b,rfl,h⟩
 |next s=>
  simp only[Nat.zero_add,List.length_range]at hr
  obtain⟨rfl,hr⟩:=hr
  exact⟨s.length,false,rfl,Nat.le_refl _,hr,fun h=>(by cases h),fun _ x hx=>by rw[List.getElem?_eq_none (Nat.le_refl _)]at hx;cases hx⟩
theorem pair_set{α:Type}{R:α->α->Prop}{l:List α}(h:l.Pairwise R){i:Nat}{x:α}(h1:∀y∈l.take i,R y x)(h2:∀y∈l.drop (i+1),R x y):(l.take i++x::l.drop (i+1)).Pairwise R:=by
 rw[List.pairwise_append]
 refine⟨h.sublist (List.take_sublist _ _),?_,fun a ha b hb=>?_⟩
 ·rw[List.pairwise_cons]
  exact⟨h2,h.sublist (List.drop_sublist _ _)⟩
 ·rcases List.mem_cons.1 hb with rfl|hb
  ·exact h1 a ha
  ·have h3:(l.take i++l.drop i).Pairwise R:=by rw[List.take_append_drop];exact h
   have h4:b∈l.drop i:=by
    have:l.drop (i+1)=(l.drop i).drop 1:=by rw[List.drop_drop]
    rw[this]at hb;exact List.mem_of_mem_drop hb
   exact(List.pairwise_append.1 h3).2.2 a ha b h4
theorem pair_ins{α:Type}{R:α->α->Prop}{l:List α}(h:l.Pairwise R){i:Nat}{x:α}(h1:∀y∈l.take i,R y x)(h2:∀y∈l.drop i,R x y):(l.take i++x::l.drop i).Pairwise R:=by
 have h3:(l.take i++l.drop i).Pairwise R:=by rw[List.take_append_drop];exact h
 rw[List.pairwise_append]
 refine⟨h.sublist (List.take_sublist _ _),?_,fun a ha b hb=>?_⟩
 ·rw[List.pairwise_cons]
  exact⟨h2,h.sublist (List.drop_sublist _ _)⟩
 ·rcases List.mem_cons.1 hb with rfl|hb
  ·exact h1 a ha
  ·exact(List.pairwise_append.1 h3).2.2 a ha b hb
theorem srt_drop{t:LTable}{rows:Rows}(h:Srt t rows){i:Nat}{x:Rq}(hx:rows[i]? =some x):∀y∈rows.drop (i+1),jY (kg t x) (kg t y):=by
 intro y hy;have hi:=zg.1 hx;have e:rows.drop i=x::rows.drop (i+1):=by rw[List.drop_eq_getElem_cons hi.1,hi.2]
 have h1:(rows.drop i).Pairwise fun p q=>jY (kg t p) (kg t q):=h.sublist (List.drop_sublist _ _)
 rw[e,List.pairwise_cons]at h1;exact h1.1 y hy
theorem upsert_srt{t:LTable}(hsm:t.primaryKey.length<=10000000){rows rs:Rows}(hl:rows.length<=1000){row:Rq}(hs:Srt t rows)(h:gT t rows row=some rs):Srt t rs:=by
 obtain⟨i,b,hf,hi,h1,h2,h3⟩:=find_is hsm (rows:=rows) (by omega) (key:=kg t row) (og t row)
 unfold gT at h;rw[pw (by omega),bPs,key_eq hsm,bPs,hf,bPs,dM Z,bPs]at h;cases b with
 |true=>
  obtain⟨x,hx,hk⟩:=h2 Z
  have hil:=zg.1 hx;simp only[zc]at h;rw[dG hil.1,bPs,aX,Int.toNat_natCast]at h;cases h;rw[List.set_eq_take_append_cons_drop,zp hil.1];exact pair_set hs h1 (fun y hy=>by have:=srt_drop hs hx y hy;rw[hk]at this;exact this)
 |false=>
  simp only[zd]at h
  obtain⟨_,rfl⟩:=insI_some h
  rw[Int.toNat_natCast];refine pair_ins hs h1 fun y hy=>?_
  cases hx:rows[i]? with
  |none=>rw[List.drop_eq_nil_of_le (List.getElem?_eq_none_iff.1 hx)]at hy;simp at hy
  |some x=>
   have hil:=zg.1 hx;have hlt:=h3 Z x hx;rw[List.drop_eq_getElem_cons hil.1,hil.2]at hy;rcases List.mem_cons.1 hy with rfl|hy
   ·exact hlt
   ·exact wx hlt (srt_drop hs hx y hy)
theorem delete_sub{t:LTable}(hsm:t.primaryKey.length<=10000000){rows rs:Rows}(hl:rows.length<=1000){key:Rq}{b:Bool}(h:gO t rows key=some (rs,b)):rs.Sublist rows:=by
 obtain⟨i,c,hf,_,_⟩:=sK hsm rows (by omega) key
 unfold gO at h;rw[pw (by omega),bPs,hf,bPs,dM Z,bPs]at h;cases c with
 |false=>
  simp only[Bool.not_false,zc,zo,Prod.mk.injEq]at h;rw[<-h.1];exact List.Sublist.refl _
 |true=>
  simp only[Bool.not_true,zd]at h
  obtain⟨ys,hy,h⟩:=aA h
  obtain⟨h1,h2,_,rfl⟩:=sf hy
  simp only[zo,Prod.mk.injEq]at h;rw[<-h.1]
  have:=List.Sublist.append (List.Sublist.refl (rows.take (i:Int).toNat)) (List.drop_sublist_drop_left rows (show(i:Int).toNat<=(Iw ((i:Int)+1)).toNat by omega))
  rwa [List.take_append_drop]at this
theorem inst_set2{s:LSchema}{st:List LW}(hI:InstOk s st)(hsm:pi s){i:Nat}{t:LTable}(ht:s.tables[i]? =some t){r:LW}(hr:st[i]? =some r){rows:Rows}(h1:Srt t rows)(h2:rows.length<=24)(h3:∀row∈rows,oD t.columns row):InstOk s (st.set i ⟨r.table,rows⟩):=by
 obtain⟨hl,ho,htab⟩:=hI
 have key:∀(k:Nat) (r':LW) (t':LTable),(st.set i ⟨r.table,rows⟩)[k]? =some r'->s.tables[k]? =some t'->(k=i/\r'=⟨r.table,rows⟩/\t'=t)\/st[k]? =some r':=by
  intro k r' t' h1 h2;by_cases hk:k=i
  ·subst hk;rw[List.getElem?_set_self (zg.1 hr).1]at h1;rw[ht]at h2;cases h1;cases h2;exact .inl ⟨rfl,rfl,rfl⟩
  ·rw[List.getElem?_set_ne (Ne.symm hk)]at h1;exact .inr h1
 refine⟨by rw[List.length_set];exact hl,fun k r' t' g1 g2=>?_,fun k r' t' g1 g2=>?_⟩
 ·rcases key k r' t' g1 g2 with⟨rfl,rfl,rfl⟩|h
  ·exact Srt.ord (hsm _ (cV ht)) h1
  ·exact ho k r' t' h g2
 ·rcases key k r' t' g1 g2 with⟨rfl,rfl,rfl⟩|h
  ·exact⟨(htab _ r _ hr ht).1,h2,h3⟩
  ·exact htab k r' t' h g2
def Two{α β:Type}(o:Option α)(o':Option β)(P:α->β->Prop):Prop:=∀v w,o=some v->o'=some w->P v w
theorem Two.mk{α β:Type}{v:α}{w:β}{P:α->β->Prop}(h:P v w):Two (some v) (some w) P:=fun _ _ h1 h2=>by cases h1;cases h2;exact h
theorem Two.bind{α α' β β':Type}{o:Option α}{o':Option α'}{k:α->Option β}{k':α'->Option β'}{P:α->α'->Prop}{Q:β->β'->Prop}(h:Two o o' P)(hk:∀v w,P v w->Two (k v) (k' w) Q):Two (aa o k) (aa o' k') Q:=by
 intro v w h1 h2
 obtain⟨a,ha,h1⟩:=aA h1
 obtain⟨b,hb,h2⟩:=aA h2
 exact hk a b (h a b ha hb) v w h1 h2
theorem Two.bindS{α β β':Type}{o:Option α}{k:α->Option β}{k':α->Option β'}{Q:β->β'->Prop}(hk:∀v,Two (k v) (k' v) Q):Two (aa o k) (aa o k') Q:=by
 intro v w h1 h2
 obtain⟨a,ha,h1⟩:=aA h1
 obtain⟨b,hb,h2⟩:=aA h2
 rw[ha]at hb;cases hb;exact hk a v w h1 h2
theorem Two.cond{α β:Type}{b:Bool}{x y:Option α}{x' y':Option β}{Q:α->β->Prop}(hx:b=true->Two x x' Q)(hy:b=false->Two y y' Q):Two (cond b x y) (cond b x' y') Q:=by
 cases b
 ·exact hy Z
 ·exact hx Z
theorem Two.letP{α β β':Type}{a:α}{k:α->Option β}{k':α->Option β'}{Q:β->β'->Prop}(h:Two (k a) (k' a) Q):Two (letP a k) (letP a k') Q:=h
def sE{σ τ ρ ρ':Type}(N:σ->τ->Prop)(Q:ρ->ρ'->Prop)(X:ρ'->Prop)(f:Flow σ ρ)(f':Flow τ ρ'):Prop:=
 (∃z,f'= .ret z/\X z)\/(∃s t,f= .next s/\f'= .next t/\N s t)\/(∃s t,f= .brk s/\f'= .brk t/\N s t)\/∃y z,f= .ret y/\f'= .ret z/\Q y z
theorem sE.nx{σ τ ρ ρ':Type}{N:σ->τ->Prop}{Q:ρ->ρ'->Prop}{X:ρ'->Prop}{s:σ}{t:τ}(h:N s t):sE N Q X (.next s) (.next t):= .inr (.inl ⟨s,t,rfl,rfl,h⟩)
theorem sE.bk{σ τ ρ ρ':Type}{N:σ->τ->Prop}{Q:ρ->ρ'->Prop}{X:ρ'->Prop}{s:σ}{t:τ}(h:N s t):sE N Q X (.brk s) (.brk t):= .inr (.inr (.inl ⟨s,t,rfl,rfl,h⟩))
theorem sE.rt{σ τ ρ ρ':Type}{N:σ->τ->Prop}{Q:ρ->ρ'->Prop}{X:ρ'->Prop}{y:ρ}{z:ρ'}(h:Q y z):sE N Q X (.ret y) (.ret z):= .inr (.inr (.inr ⟨y,z,rfl,rfl,h⟩))
theorem Two.range{α σ τ ρ ρ':Type}{step:Nat->α->σ->Option (Flow σ ρ)}{step':Nat->α->τ->Option (Flow τ ρ')}{N:σ->τ->Prop}{Q:ρ->ρ'->Prop}{X:ρ'->Prop}:∀{xs:List α} {j:Nat} {s:σ} {t:τ},N s t->
  (∀k x s t,xs[k]? =some x->N s t->Two (step (j+k) x s) (step' (j+k) x t) (sE N Q X))->Two (au step j xs s) (au step' j xs t) (sE N Q X)
 |[],j,s,t,h,_=>Two.mk (sE.nx h)
 |x::xs,j,s,t,h,hs=>by
  intro v w h1 h2;simp only[au]at h1 h2;have hst:=hs 0 x s t Z h;rw[Nat.add_zero]at hst;cases e1:step j x s with
  |none=>rw[e1]at h1;cases h1
  |some f=>
   cases e2:step' j x t with
   |none=>rw[e2]at h2;cases h2
   |some f'=>
    rw[e1]at h1;rw[e2]at h2;rcases hst f f' e1 e2 with⟨z,rfl,hz⟩|⟨s',t',rfl,rfl,hn⟩|⟨s',t',rfl,rfl,hn⟩|⟨y,z,rfl,rfl,hq⟩
    ·cases h2;exact .inl ⟨z,rfl,hz⟩
    ·exact Two.range (step:=step) (step':=step') (xs:=xs) (j:=j+1) hn (fun k y s t hk hN=>by
      have:=hs (k+1) y s t (by simpa using hk) hN
      rw[show j+(k+1)=j+1+k from by omega]at this;exact this) v w h1 h2
    ·cases h1;cases h2;exact sE.nx hn
    ·cases h1;cases h2;exact sE.rt hq
theorem Two.thenR{σ τ ρ ρ':Type}{f:Flow σ ρ}{f':Flow τ ρ'}{k:σ->Option ρ}{k':τ->Option ρ'}{N:σ->τ->Prop}{Q R:ρ->ρ'->Prop}{X:ρ'->Prop}(h:sE N Q X f f')(hk:∀s t,N s t->Two (k s) (k' t) R)(hq:∀y z,Q y z->R y z)(hx:∀y z,X z->R y z):
  Two (f.thenR k) (f'.thenR k') R:=by
 rcases h with⟨z,rfl,hz⟩|⟨s',t',rfl,rfl,hn⟩|⟨s',t',rfl,rfl,hn⟩|⟨y,z,rfl,rfl,h⟩
 ·intro v w _ h2;cases h2;exact hx v z hz
 ·exact hk s' t' hn
 ·exact hk s' t' hn
 ·exact Two.mk (hq y z h)
theorem Two.thenP{σ τ α β:Type}{f:Flow σ Empty}{f':Flow τ Empty}{k:σ->Option α}{k':τ->Option β}{N:σ->τ->Prop}{Q:Empty->Empty->Prop}{X:Empty->Prop}{R:α->β->Prop}(h:sE N Q X f f')(hk:∀s t,N s t->Two (k s) (k' t) R):Two (f.thenP k) (f'.thenP k') R:=by
 rcases h with⟨z,rfl,_⟩|⟨s',t',rfl,rfl,hn⟩|⟨s',t',rfl,rfl,hn⟩|⟨y,_,rfl,_,_⟩
 ·exact z.elim
 ·exact hk s' t' hn
 ·exact hk s' t' hn
 ·exact y.elim
theorem Two.thenS{σ α β:Type}{f:Flow σ Empty}{k:σ->Option α}{k':σ->Option β}{R:α->β->Prop}(hk:∀s,Two (k s) (k' s) R):Two (f.thenP k) (f.thenP k') R:=by
 cases f with
 |next s=>exact hk s
 |brk s=>exact hk s
 |ret r=>exact r.elim
section
variable(C:List LChange)(D:List LResult)(d:Int)
def up(r:LR):LR:=LR.mk r.s r.st r.args r.vars r.vals (C++r.changes) (D++r.results) (r.left-d) r.stopped
structure Up(r q:LR):Prop where
 eq:q=up C D d r
 ch:(C++r.changes).length<=24
 res:(D++r.results).length<=8
 left:0<=r.left-d/\r.left<=400
def Sim(y z:Int×LR):Prop:=z.1=2\/(z.1=y.1/\(y.1=0->Up C D d y.2 z.2))
end
section
variable{C:List LChange}{D:List LResult}{d:Int}{r q:LR}
abbrev Two2:Int×LR->Prop:=fun z=>z.1=2
theorem Sim.after{v w:Int×LR}(h:Sim C D d v w):Two (cond (v.1 !=(0:Int)) (some (Flow.ret (σ:=LR) (v.1,v.2))) (some (.next v.2))) (cond (w.1 !=(0:Int)) (some (Flow.ret (σ:=LR) (w.1,w.2))) (some (.next w.2))) (sE (Up C D d) (Sim C D d) Two2):=by
 rcases h with h|⟨h1,h2⟩
 ·rw[jk (a:=w.1) (by omega),zc];intro v' w' _ e;cases e;exact .inl ⟨_,rfl,h⟩
 ·rw[h1];refine Two.cond (fun h=>Two.mk (sE.rt (.inr ⟨h1▸rfl,fun h0=>h2 h0⟩))) fun h=>Two.mk (sE.nx (h2 (by simpa using h)))
theorem rO(h:Up C D d r q)(cols:List LCol)(row:Rq)(e:LExpr):Two (cp r cols row e) (cp q cols row e) fun v w=>w.1=v.1/\v.2=r/\w.2=q:=by
 obtain⟨rfl,_,_,_⟩:=h
 unfold cp;exact Two.bindS fun fl=>Two.thenS fun s=>Two.letP (Two.mk ⟨rfl,rfl,rfl⟩)
theorem set_two(h:Up C D d r q)(c:LCol)(v:LVal):Two (dO r c v) (dO q c v) (Up C D d):=by
 obtain⟨rfl,h1,h2,h3⟩:=h
 unfold dO;refine Two.bindS fun i=>Two.cond (fun _=>?_) fun _=>?_
 ·exact Two.bindS fun a=>Two.bindS fun b=>Two.bindS fun x=>Two.bindS fun y=>Two.mk ⟨rfl,h1,h2,h3⟩
 ·exact Two.bindS fun x=>Two.bindS fun y=>Two.mk ⟨rfl,h1,h2,h3⟩
theorem write_two(h:Up C D d r q)(c:LChange):Two (de r c) (de q c) (Sim C D d):=by
 obtain⟨rfl,h1,h2,h3⟩:=h
 unfold de;have hl:(C++r.changes).length=C.length+r.changes.length:=List.length_append;by_cases h24:((C++r.changes).length:Int)=24
 ·intro v w _ e;rw[show(up C D d r).changes=C++r.changes from Z,jI h24,zc]at e;cases e;exact .inl Z
 ·rw[show(up C D d r).changes=C++r.changes from Z,ci h24,ci (by omega),zd,zd];refine Two.bindS fun x=>Two.cond (fun h=>Two.mk (.inr ⟨rfl,fun h0=>absurd h0 (by simpa using h)⟩)) fun _=>?_
  rw[aS (by decide) (by simp;omega),aS (by decide) (by simp;omega),bPs,bPs];exact Two.mk (.inr ⟨rfl,fun _=>⟨by simp[up,List.append_assoc],by simp only[List.length_append,List.length_cons,List.length_nil];omega,h2,h3⟩⟩)
theorem rows_two(h:Up C D d r q)(x:LS):Two (dT r x) (dT q x) (Sim C D d):=by
 have hs:q.s=r.s:=by rw[h.eq];rfl
 have hst:q.st=r.st:=by rw[h.eq];rfl
 unfold dT;rw[hs,hst];refine Two.bindS fun i=>Two.bindS fun t=>Two.bindS fun rel=>Two.bind (Two.range (N:=Up C D d) (Q:=Sim C D d) (X:=Two2) h fun k row r1 q1 _ h1=>?_) fun f f' hf=>Two.thenR hf (fun s t hN=>Two.mk (.inr ⟨rfl,fun _=>hN⟩)) (fun _ _ h=>h) (fun _ _ h=>.inl h)
 refine Two.bindS fun e=>Two.bind (rO h1 t.columns row e) ?_
 rintro⟨v1,v2⟩ ⟨w1,w2⟩ ⟨e1,e2,e3⟩
 simp only at e1 e2 e3;subst e1 e2 e3;refine Two.letP (Two.cond (fun _=>Two.mk (sE.nx h1)) fun _=>Two.bindS fun fl=>Two.thenS fun key=>?_);refine Two.bind (P:=fun y z=>Up C D d y.1 z.1/\y.2=z.2) ?_ ?_
 ·refine Two.cond (fun _=>?_) fun _=>Two.mk ⟨h1,rfl⟩
  refine Two.bind (Two.range (N:=fun s t=>Up C D d s.1 t.1/\s.2=t.2) (Q:=fun _ _=>True) (X:=fun _=>True) ⟨h1,rfl⟩ fun j e s t _ hN=>?_) fun f f' hf=>Two.thenP hf fun s t hN=>Two.mk ⟨hN.1,by rw[hN.2]⟩
  obtain⟨s1,s2⟩:=s
  obtain⟨t1,t2⟩:=t
  obtain⟨hU,e2⟩:=hN
  simp only at hU e2;subst e2;refine Two.bindS fun a=>Two.bind (rO hU _ _ e) ?_
  rintro⟨v1,v2⟩ ⟨w1,w2⟩ ⟨e1,e2,e3⟩
  simp only at e1 e2 e3;subst e1 e2 e3;exact Two.bindS fun _=>Two.letP (Two.mk (sE.nx ⟨hU,rfl⟩))
 ·rintro⟨y1,y2⟩ ⟨z1,z2⟩ ⟨hU,e2⟩
  simp only at hU e2;subst e2;exact Two.bind (write_two hU _) fun v w hs=>hs.after
theorem inner_two(h:Up C D d r q){l:List LS}(hb:Two (aw r l) (aw q l) (Sim C D d)):Two (aJ r l) (aJ q l) (Sim C D d):=by
 rw[(iY l).2.2.2.1 r,(iY l).2.2.2.1 q];unfold dL;refine Two.bind hb fun v w hs=>Two.mk ?_
 rcases hs with hs|⟨h1,h2⟩
 ·exact .inl hs
 ·refine .inr ⟨h1,fun h0=>?_⟩;have hu:=h2 h0
  exact⟨by rw[hu.eq,h.eq];rfl,hu.ch,hu.res,hu.left⟩
theorem ask_two(h:Up C D d r q)(x:LS)(hb:∀r q,Up C D d r q->Two (aw r x.body) (aw q x.body) (Sim C D d)):
  Two (bL aw aR aJ aP r x) (bL aw aR aJ aP q x) (Sim C D d):=by
 have hU:=h
 obtain⟨rfl,h1,h2,h3⟩:=h
 unfold bL;have hl:(D++r.results).length=D.length+r.results.length:=List.length_append;refine Two.bindS fun qq=>Two.bindS fun e=>Two.cond (fun h=>Two.mk (.inr ⟨rfl,fun h0=>absurd h0 (by simpa using h)⟩)) fun _=>Two.cond (fun _=>?_) fun _=>?_
 ·by_cases h8:((D++r.results).length:Int)=8
  ·intro v w _ e;rw[show(up C D d r).results=D++r.results from Z,jI h8,zc]at e;cases e;exact .inl Z
  ·rw[show(up C D d r).results=D++r.results from Z,ci h8,ci (by omega),zd,zd,aS (by decide) (by simp;omega),aS (by decide) (by simp;omega),bPs,bPs];exact Two.mk (.inr ⟨rfl,fun _=>⟨by simp[up,List.append_assoc],h1,by simp only[List.length_append,List.length_cons,List.length_nil];omega,h3⟩⟩)
 ·refine Two.bind (Two.range (N:=Up C D d) (Q:=Sim C D d) (X:=Two2) hU fun k row r1 q1 _ hN=>?_) fun f f' hf=>Two.thenR hf (fun s t hN=>Two.mk (.inr ⟨rfl,fun _=>⟨by rw[hN.eq];rfl,hN.ch,hN.res,hN.left⟩⟩)) (fun _ _ h=>h) (fun _ _ h=>.inl h)
  rw[show q1.stopped=r1.stopped from by rw[hN.eq];rfl];refine Two.cond (fun _=>Two.mk (sE.bk hN)) fun _=>?_
  refine Two.bind (Two.range (N:=Up C D d) (Q:=fun _ _=>True) (X:=fun _=>True) ⟨by rw[hN.eq];rfl,hN.ch,hN.res,hN.left⟩ fun j c s t _ hs=>?_) fun f f' hf=>Two.thenP hf fun s t hs=>?_
  ·exact Two.bindS fun v=>Two.bind (set_two hs c v) fun a b hab=>Two.mk (sE.nx hab)
  ·exact Two.bind (hb s t hs) fun v w hvw=>hvw.after
theorem stmt_two(h:Up C D d r q)(x:LS)(hask:∀q,aP q x=bL aw aR aJ aP q x)
  (hb:∀r q,Up C D d r q->Two (aw r x.body) (aw q x.body) (Sim C D d)) (he:∀r q,Up C D d r q->Two (aw r x.elseF) (aw q x.elseF) (Sim C D d)):
  Two (ce aw aR aJ aP r x) (ce aw aR aJ aP q x) (Sim C D d):=by
 unfold ce;have hvars:q.vars=r.vars:=by rw[h.eq];rfl
 have same:∀{v w:Int×LR},Sim C D d v w->Sim C D d (v.1,v.2) (w.1,w.2):=fun h=>h
 refine Two.cond (fun _=>?_) fun _=>Two.cond (fun _=>?_) fun _=>Two.letP (Two.cond (fun _=>?_) fun _=>Two.cond (fun _=>?_) fun _=>Two.letP (Two.cond (fun _=>?_) fun _=>Two.cond (fun _=>?_) fun _=>Two.cond (fun _=>?_) fun _=>Two.mk (.inr ⟨rfl,fun _=>h⟩)))
 ·rw[hvars];refine Two.bindS fun e=>Two.letP (Two.bindS fun e2=>Two.bind (rO h _ _ e2) ?_)
  rintro⟨v1,v2⟩ ⟨w1,w2⟩ ⟨e1,e2,e3⟩
  simp only at e1 e2 e3;subst e1 e2 e3;exact Two.bind (set_two h _ _) fun a b hab=>Two.mk (.inr ⟨rfl,fun _=>hab⟩)
 ·refine Two.bindS fun e=>Two.bind (rO h _ _ e) ?_
  rintro⟨v1,v2⟩ ⟨w1,w2⟩ ⟨e1,e2,e3⟩
  simp only at e1 e2 e3;subst e1 e2 e3;refine Two.letP (Two.cond (fun _=>?_) fun _=>?_)
  ·exact Two.bind (inner_two h (hb _ _ h)) fun v w hs=>Two.mk (same hs)
  ·exact Two.bind (inner_two h (he _ _ h)) fun v w hs=>Two.mk (same hs)
 ·rw[hask r,hask q];exact Two.bind (ask_two h x hb) fun v w hs=>Two.mk (same hs)
 ·refine Two.bind (Two.range (N:=fun s t=>s.1=t.1/\Up C D d s.2 t.2) (Q:=fun _ _=>True) (X:=fun _=>True) ⟨rfl,h⟩ fun j e s t _ hN=>?_) fun f f' hf=>Two.thenP hf fun s t hN=>?_
  ·obtain⟨s1,s2⟩:=s
   obtain⟨t1,t2⟩:=t
   obtain⟨e2,hU⟩:=hN
   simp only at hU e2;subst e2;refine Two.bind (rO hU _ _ e) ?_
   rintro⟨v1,v2⟩ ⟨w1,w2⟩ ⟨e1,e2,e3⟩
   simp only at e1 e2 e3;subst e1 e2 e3;exact Two.bindS fun y=>Two.mk (sE.nx ⟨rfl,hU⟩)
  ·obtain⟨s1,s2⟩:=s
   obtain⟨t1,t2⟩:=t
   obtain⟨e2,hU⟩:=hN
   simp only at hU e2;subst e2;exact Two.bind (write_two hU _) fun v w hs=>Two.mk (same hs)
 ·exact Two.bind (rows_two h x) fun v w hs=>Two.mk (same hs)
 ·exact Two.letP (Two.mk (.inr ⟨rfl,fun _=>h⟩))
 ·exact Two.mk (.inr ⟨rfl,fun _=>⟨by rw[h.eq];rfl,h.ch,h.res,h.left⟩⟩)
theorem body_two(hd:0<=d):∀(l:List LS) (r q:LR),Up C D d r q->Two (aw r l) (aw q l) (Sim C D d):=by
 refine mA fun l ih r q h=>?_
 rw[(iY l).2.2.1 r,(iY l).2.2.1 q];unfold eF;refine Two.bind (Two.range (N:=Up C D d) (Q:=Sim C D d) (X:=Two2) h fun k x r1 q1 hk hN=>?_) fun f f' hf=>Two.thenR hf (fun s t hN=>Two.mk (.inr ⟨rfl,fun _=>hN⟩)) (fun _ _ h=>h) (fun _ _ h=>.inl h)
 have hx:=cV hk
 obtain⟨rfl,h1,h2,h3⟩:=hN
 rw[show(up C D d r1).stopped=r1.stopped from Z,show(up C D d r1).left=r1.left-d from Z,Ww (n:=r1.left-1) (by omega) (by omega),Ww (n:=r1.left-d-1) (by omega) (by omega)];refine Two.cond (fun _=>Two.mk (sE.rt (.inr ⟨rfl,fun _=>⟨rfl,h1,h2,h3⟩⟩))) fun _=>?_
 by_cases hl:r1.left-d-1<0
 ·rw[zt hl,zc];intro v w _ e;cases e;exact .inl ⟨_,rfl,rfl⟩
 ·rw[zf hl,zf (by omega),zd,zd,(iY l).2.2.2.2.1 x hx,(iY l).2.2.2.2.1 x hx]
  have hU:Up C D d (LR.mk r1.s r1.st r1.args r1.vars r1.vals r1.changes r1.results (r1.left-1) r1.stopped) (LR.mk (up C D d r1).s (up C D d r1).st (up C D d r1).args (up C D d r1).vars (up C D d r1).vals (up C D d r1).changes (up C D d r1).results (r1.left-d-1) r1.stopped):=by
   refine⟨?_,h1,h2,?_⟩
   ·simp only[up];congr 1;omega
   ·show 0<=r1.left-1-d/\r1.left-1<=400;omega
  exact Two.bind (stmt_two hU x ((iY l).2.2.2.2.2 x hx) (ih x hx).1 (ih x hx).2) fun v w hs=>Sim.after hs
end
def gV(_:Nat)(x1:LS)(s1:LR):Option (Flow LR (Int×LR)):=
 cond s1.stopped
  (some (.ret (0,s1)))
  (cond (decide ((Iw (s1.left-(1:Int)))<(0:Int)))
   (some (.ret (2,(LR.mk s1.s s1.st s1.args s1.vars s1.vals s1.changes s1.results (Iw (s1.left-(1:Int))) s1.stopped))))
   (aa (aR (LR.mk s1.s s1.st s1.args s1.vars s1.vals s1.changes s1.results (Iw (s1.left-(1:Int))) s1.stopped) x1) fun x32=>
   cond (x32.1 !=(0:Int))
    (some (.ret (x32.1,x32.2)))
    (some (.next x32.2))))
theorem qT(r:LR)(l:List LS):aw r l=aa (au gV 0 l r) fun fl1=>fl1.thenR fun(s1:LR)=>some (0,s1):=(iY l).2.2.1 r
theorem step_any(j:Nat)(x:LS)(r:LR):gV j x r=gV 0 x r:=rfl
theorem step_nobrk(j:Nat)(x:LS)(r q:LR):gV j x r≠some (.brk q):=by
 intro h;unfold gV at h;cases hs:r.stopped with
 |true=>rw[hs]at h;cases h
 |false=>
  rw[hs,zd]at h;cases hd:decide ((Iw (r.left-(1:Int)))<(0:Int))with
  |true=>rw[hd]at h;cases h
  |false=>
   rw[hd,zd]at h
   obtain⟨v,_,h⟩:=aA h
   cases hv:(v.1 !=(0:Int))with
   |true=>rw[hv]at h;cases h
   |false=>rw[hv]at h;cases h
theorem sk:∀(l:List LS) (j:Nat) (r:LR),au gV j l r=au gV 0 l r
 |[],_,_=>rfl
 |x::l,j,r=>by
  simp only[au];rw[step_any j];cases gV 0 x r with
  |none=>rfl
  |some f=>
   cases f with
   |next q=>exact(sk l (j+1) q).trans (sk l (0+1) q).symm
   |brk q=>rfl
   |ret y=>rfl
theorem steps_app(b:List LS):∀(a:List LS) (r:LR),au gV 0 (a++b) r=aa (au gV 0 a r) fun fl=>fl.thenF fun q=>au gV 0 b q
 |[],r=>rfl
 |x::a,r=>by
  rw[List.cons_append];simp only[au];cases hx:gV 0 x r with
  |none=>rfl
  |some f=>
   cases f with
   |next q=>
    show au gV (0+1) (a++b) q=aa (au gV (0+1) a q) _;rw[sk,sk a,steps_app b a q]
   |brk q=>exact absurd hx (step_nobrk _ _ _ _)
   |ret y=>rfl
def gG{α:Type}(o:Option α)(P:α->Prop):Prop:=∀v,o=some v->P v
theorem gG.mk{α:Type}{v:α}{P:α->Prop}(h:P v):gG (some v) P:=fun _ e=>by cases e;exact h
theorem gG.bind{α β:Type}{o:Option α}{k:α->Option β}{P:α->Prop}{Q:β->Prop}(h:gG o P)(hk:∀v,P v->gG (k v) Q):gG (aa o k) Q:=by
 intro v h1
 obtain⟨a,ha,h1⟩:=aA h1
 exact hk a (h a ha) v h1
theorem gG.any{α β:Type}{o:Option α}{k:α->Option β}{Q:β->Prop}(hk:∀v,gG (k v) Q):gG (aa o k) Q:=gG.bind (P:=fun _=>True) (fun _ _=>trivial) fun v _=>hk v
theorem gG.cond{α:Type}{b:Bool}{x y:Option α}{Q:α->Prop}(hx:b=true->gG x Q)(hy:b=false->gG y Q):gG (cond b x y) Q:=by
 cases b
 ·exact hy Z
 ·exact hx Z
theorem gG.range{α σ ρ:Type}{step:Nat->α->σ->Option (Flow σ ρ)}{N B:σ->Prop}{Q:ρ->Prop}:∀{xs:List α} {j:Nat} {s:σ},N s->(∀k x s,xs[k]? =some x->N s->gG (step (j+k) x s) (lV N B Q))->gG (au step j xs s) (lV (fun s=>N s\/B s) (fun _=>False) Q)
 |[],j,s,h,_=>gG.mk (.inl h)
 |x::xs,j,s,h,hs=>by
  intro v h1;simp only[au]at h1;have hst:=hs 0 x s Z h;rw[Nat.add_zero]at hst;cases e1:step j x s with
  |none=>rw[e1]at h1;cases h1
  |some f=>
   rw[e1]at h1;have hf:=hst f e1;cases f with
   |next s'=>
    exact gG.range (step:=step) (xs:=xs) (j:=j+1) (s:=s') hf (fun k y s hk hN=>by
     have:=hs (k+1) y s (by simpa using hk) hN
     rw[show j+(k+1)=j+1+k from by omega]at this;exact this) v h1
   |brk s'=>cases h1;exact .inr hf
   |ret r=>cases h1;exact hf
theorem gG.thenR{σ ρ:Type}{fl:Flow σ ρ}{k:σ->Option ρ}{N B:σ->Prop}{Q R:ρ->Prop}(h:lV N B Q fl)(hk:∀s,N s\/B s->gG (k s) R)(hr:∀r,Q r->R r):gG (fl.thenR k) R:=by
 cases fl with
 |next s=>exact hk s (.inl h)
 |brk s=>exact hk s (.inr h)
 |ret r=>exact gG.mk (hr r h)
theorem gG.thenP{σ τ:Type}{fl:Flow σ Empty}{k:σ->Option τ}{N B:σ->Prop}{Q:Empty->Prop}{R:τ->Prop}(h:lV N B Q fl)(hk:∀s,N s\/B s->gG (k s) R):gG (fl.thenP k) R:=by
 cases fl with
 |next s=>exact hk s (.inl h)
 |brk s=>exact hk s (.inr h)
 |ret r=>exact r.elim
theorem gG.thenS{σ τ:Type}{fl:Flow σ Empty}{k:σ->Option τ}{R:τ->Prop}(hk:∀s,gG (k s) R):gG (fl.thenP k) R:=by
 cases fl with
 |next s=>exact hk s
 |brk s=>exact hk s
 |ret r=>exact r.elim
structure Ka(r q:LR):Prop where
 args:q.args=r.args
 stopped:q.stopped=r.stopped
structure Kp(r q:LR):Prop where
 args:q.args=r.args
 stopped:q.stopped=r.stopped
 vars:q.vars=r.vars
 vals:q.vals=r.vals
section
variable{r r0:LR}
theorem vN(r:LR)(cols:List LCol)(row:Rq)(e:LExpr):gG (cp r cols row e) fun v=>v.2=r:=by
 unfold cp;exact gG.any fun fl=>gG.thenS fun s=>gG.mk Z
theorem set_kp(h:Ka r0 r)(c:LCol)(v:LVal):gG (dO r c v) (Ka r0):=by
 unfold dO;exact gG.any fun i=>gG.cond (fun _=>gG.any fun a=>gG.any fun b=>gG.any fun x=>gG.any fun y=>gG.mk ⟨h.args,h.stopped⟩) fun _=>gG.any fun x=>gG.any fun y=>gG.mk ⟨h.args,h.stopped⟩
theorem write_kp(h:Kp r0 r)(c:LChange):gG (de r c) fun v=>Kp r0 v.2:=by
 unfold de;exact gG.cond (fun _=>gG.mk h) fun _=>gG.any fun x=>gG.cond (fun _=>gG.mk h) fun _=>gG.any fun y=>gG.mk ⟨h.args,h.stopped,h.vars,h.vals⟩
theorem rows_kp(h:Kp r0 r)(x:LS):gG (dT r x) fun v=>Kp r0 v.2:=by
 unfold dT;refine gG.any fun i=>gG.any fun t=>gG.any fun rel=>gG.bind (gG.range (N:=Kp r0) (B:=fun _=>False) (Q:=fun y=>Kp r0 y.2) h fun k row r1 _ h1=>?_) fun f hf=>gG.thenR hf (fun s hs=>gG.mk ((hs.resolve_right id).resolve_right id)) fun _ h=>h
 refine gG.any fun e=>gG.bind (vN r1 t.columns row e) ?_
 rintro⟨v1,v2⟩ e2
 simp only at e2;subst e2;refine gG.cond (fun _=>gG.mk h1) fun _=>gG.any fun fl=>gG.thenS fun key=>?_
 refine gG.bind (P:=fun y=>Kp r0 y.1) ?_ fun y hy=>?_
 ·refine gG.cond (fun _=>?_) fun _=>gG.mk h1
  refine gG.bind (gG.range (N:=fun s=>Kp r0 s.1) (B:=fun _=>False) (Q:=fun _=>True) h1 fun j e s _ hN=>?_) fun f hf=>gG.thenP hf fun s hs=>gG.mk ((hs.resolve_right id).resolve_right id)
  refine gG.any fun a=>gG.bind (vN s.1 _ _ e) ?_
  rintro⟨v1,v2⟩ e2
  simp only at e2;rw[e2];exact gG.any fun _=>gG.mk hN
 ·exact gG.bind (write_kp hy _) fun v hv=>gG.cond (fun _=>gG.mk hv) fun _=>gG.mk hv
theorem ask_kp(h:Kp r0 r)(x:LS)(hb:∀q,Ka r0 q->gG (aw q x.body) fun v=>v.1=0->Ka r0 v.2):
  gG (bL aw aR aJ aP r x) fun v=>v.1=0->Kp r0 v.2:=by
 unfold bL;refine gG.any fun q=>gG.any fun e=>gG.cond (fun _=>gG.mk fun _=>h) fun _=>gG.cond (fun _=>gG.cond (fun _=>gG.mk fun _=>h) fun _=>gG.any fun y=>gG.mk fun _=>⟨h.args,h.stopped,h.vars,h.vals⟩) fun _=>?_
 refine gG.bind (gG.range (N:=Ka r0) (B:=Ka r0) (Q:=fun y=>y.1≠0) ⟨h.args,h.stopped⟩ fun k row r1 _ h1=>?_) fun f hf=>gG.thenR hf (fun s hs=>gG.mk fun _=>?_) fun y hy h0=>absurd h0 hy
 ·refine gG.cond (fun _=>gG.mk h1) fun _=>?_
  refine gG.bind (gG.range (N:=Ka r0) (B:=fun _=>False) (Q:=fun _=>True) ⟨h1.args,h1.stopped⟩ fun j c s _ hs=>?_) fun f hf=>gG.thenP hf fun s hs=>?_
  ·exact gG.any fun v=>gG.bind (set_kp hs c v) fun a ha=>gG.mk ha
  ·exact gG.bind (hb s ((hs.resolve_right id).resolve_right id)) fun v hv=>gG.cond (fun h=>gG.mk (show v.1≠0 by simpa using h)) fun h=>gG.mk (hv (by simpa using h))
 ·have hs:Ka r0 s:=by rcases hs with(h|h)|h;exact h;exact h;exact h.elim
  exact⟨hs.args,hs.stopped,h.vars,h.vals⟩
def Calm(l:List LS):Prop:=∀x∈gA l,x.kind≠1/\x.kind≠9
theorem inner_kp{l:List LS}(h:Kp r0 r)(hb:gG (aw r l) fun v=>v.1=0->Ka r0 v.2):gG (aJ r l) fun v=>v.1=0->Kp r0 v.2:=by
 rw[(iY l).2.2.2.1 r];unfold dL;exact gG.bind hb fun v hv=>gG.mk fun h0=>⟨(hv h0).args,(hv h0).stopped,h.vars,h.vals⟩
theorem stmt_kp(h:Kp r0 r)(x:LS)(hx:x.kind≠1/\x.kind≠9)(hask:∀q,aP q x=bL aw aR aJ aP q x)
  (hb:∀q,Ka r0 q->gG (aw q x.body) fun v=>v.1=0->Ka r0 v.2) (he:∀q,Ka r0 q->gG (aw q x.elseF) fun v=>v.1=0->Ka r0 v.2):
  gG (ce aw aR aJ aP r x) fun v=>v.1=0->Kp r0 v.2:=by
 unfold ce;have ha:Ka r0 r:=⟨h.args,h.stopped⟩;rw[ci hx.1,zd];refine gG.cond (fun _=>?_) fun _=>gG.cond (fun _=>?_) fun _=>gG.cond (fun _=>?_) fun _=>gG.cond (fun _=>?_) fun _=>gG.cond (fun _=>gG.mk fun _=>h) fun _=>?_
 ·refine gG.any fun e=>gG.bind (vN r _ _ e) ?_
  rintro⟨v1,v2⟩ e2
  simp only at e2;subst e2;refine gG.cond (fun _=>?_) fun _=>?_
  ·exact gG.bind (inner_kp h (hb _ ha)) fun v hv=>gG.mk hv
  ·exact gG.bind (inner_kp h (he _ ha)) fun v hv=>gG.mk hv
 ·rw[hask r];exact gG.bind (ask_kp h x hb) fun v hv=>gG.mk hv
 ·refine gG.bind (gG.range (N:=fun s=>Kp r0 s.2) (B:=fun _=>False) (Q:=fun _=>True) h fun j e s _ hN=>?_) fun f hf=>gG.thenP hf fun s hs=>?_
  ·refine gG.bind (vN s.2 _ _ e) ?_
   rintro⟨v1,v2⟩ e2
   simp only at e2;rw[e2];exact gG.any fun y=>gG.mk hN
  ·exact gG.bind (write_kp ((hs.resolve_right id).resolve_right id) _) fun v hv=>gG.mk fun _=>hv
 ·exact gG.bind (rows_kp h x) fun v hv=>gG.mk fun _=>hv
 ·rw[ci hx.2,zd];exact gG.mk fun _=>h
theorem steps_kp:∀l:List LS,Calm l->∀(r0 r:LR),Kp r0 r->gG (au gV 0 l r) (lV (Kp r0) (fun _=>False) fun y=>y.1=0->r0.stopped=true/\Kp r0 y.2):=by
 refine mA fun l ih hc r0 r h=>?_
 have hbody:∀m,(Calm m->∀(r0 r:LR),Kp r0 r->gG (au gV 0 m r) (lV (Kp r0) (fun _=>False) fun y=>y.1=0->r0.stopped=true/\Kp r0 y.2))->Calm m->∀r0 q,Ka r0 q->gG (aw q m) fun v=>v.1=0->Ka r0 v.2:=by
  intro m hm hcm r0 q hq;rw[qT];refine gG.bind (hm hcm q q ⟨rfl,rfl,rfl,rfl⟩) fun fl hfl=>gG.thenR hfl (fun s hs=>gG.mk fun _=>?_) fun y hy h0=>?_
  ·have hs:=hs.resolve_right id
   exact⟨hs.args.trans hq.args,hs.stopped.trans hq.stopped⟩
  ·exact⟨(hy h0).2.args.trans hq.args,(hy h0).2.stopped.trans hq.stopped⟩
 have key:=gG.range (step:=gV) (N:=Kp r0) (B:=fun _=>False) (Q:=fun y=>y.1=0->r0.stopped=true/\Kp r0 y.2) (xs:=l) (j:=0) h fun k x r1 hk h1=>by
  have hx:=cV hk
  obtain⟨f1,f2,f3⟩:=flatS_mem hx
  unfold gV;refine gG.cond (fun hs=>gG.mk fun _=>⟨by rw[<-h1.stopped];exact hs,h1⟩) fun _=>gG.cond (fun _=>gG.mk fun h0=>absurd h0 (show ¬(2:Int)=0 from by decide)) fun _=>?_
  rw[(iY l).2.2.2.2.1 x hx];have hK:Kp r0 (LR.mk r1.s r1.st r1.args r1.vars r1.vals r1.changes r1.results (Iw (r1.left-(1:Int))) r1.stopped):=⟨h1.args,h1.stopped,h1.vars,h1.vals⟩;refine gG.bind (stmt_kp hK x (hc x f1) ((iY l).2.2.2.2.2 x hx) (hbody _ (ih x hx).1 (fun y hy=>hc y (f2 y hy)) r0) (hbody _ (ih x hx).2 (fun y hy=>hc y (f3 y hy)) r0)) fun v hv=>gG.cond (fun h=>gG.mk fun h0=>absurd h0 (by simpa using h)) fun h=>gG.mk (hv (by simpa using h))
 intro v hv
 have:=key v hv
 cases v with
 |next s=>exact this.resolve_right id
 |brk s=>exact this.elim
 |ret y=>exact this
end
theorem change_fits{s:LSchema}{c:LChange}{i:Nat}{t:LTable}(ht:s.tables[i]? =some t)(hf:dH s c.table=some ((i:Int),true))(hk:c.kind=1)(h:gP s c=some 0):oD t.columns c.row:=by
 unfold gP at h;rw[aX]at h
 cases hb:(cond (c.kind==(1:Int)) (cond (decide ((c.key.length:Int)>(0:Int))) (true) (cond (c.kind==(2:Int)) (cond (decide ((c.row.length:Int)>(0:Int))) (true) (cond (c.kind !=(1:Int)) ((c.kind !=(2:Int))) (false))) (cond (c.kind !=(1:Int)) ((c.kind !=(2:Int))) (false))))
   (cond (c.kind==(2:Int)) (cond (decide ((c.row.length:Int)>(0:Int))) (true) (cond (c.kind !=(1:Int)) ((c.kind !=(2:Int))) (false))) (cond (c.kind !=(1:Int)) ((c.kind !=(2:Int))) (false))))with
 |true=>rw[hb]at h;cases h
 |false=>
  rw[hb,zd,hf,bPs]at h;simp only[Bool.not_true,zd]at h;rw[jI hk,zc,gp ht,bPs]at h
  obtain⟨e,he,hfit⟩:=sS t c.row
  rw[he,bPs]at h;cases h;exact hfit Z
theorem step_inst{s:LSchema}(hb:BaseS s){j:Nat}{c:LChange}{S S':List LW}(hS:InstOk s S)(h:kh s j c S=some (.next S')):InstOk s S':=by
 unfold kh at h
 obtain⟨e,he,h⟩:=aA h
 obtain⟨e',he',hv⟩:=vt hb c
 rw[he]at he';cases he';by_cases h0:e=0
 ·rw[iB h0,zd]at h
  obtain⟨i,t,ht,hf,_⟩:=hv h0
  obtain⟨r,hr,h24,_⟩:=hS.lens.at ht
  have hsm:=hb.small t (cV ht)
  obtain⟨_,_,hfit⟩:=hS.tab i r t hr ht
  have hsrt:=srt_of hsm (hS.ord i r t hr ht);rw[hf,bPs]at h;simp only[Int.toNat_natCast]at h;rw[gp ht,bPs,gp hr]at h;by_cases hk:c.kind=1
  ·rw[jI hk,zc,bPs]at h
   obtain⟨rs,hrs,h⟩:=aA h
   rw[bPs,aX,gp (List.getElem?_set_self (zg.1 hr).1),bPs]at h
   obtain⟨rs',hrs',_,hm⟩:=upsert_tot hsm r.rows (by omega) c.row
   rw[hrs]at hrs';cases hrs';by_cases h2:(rs.length:Int)>24
   ·rw[zt h2]at h;cases h
   ·rw[zf h2]at h;cases h;refine inst_set2 hS hb.small ht hr (upsert_srt hsm (by omega) hsrt hrs) (by omega) fun row hrow=>?_
    rcases hm row hrow with hx|rfl
    ·exact hfit row hx
    ·exact change_fits ht hf hk (by rw[he,h0])
  ·rw[ci hk,zd,bPs]at h
   obtain⟨⟨rs,b⟩,hrs,h⟩:=aA h
   rw[bPs,aX]at h;cases b with
   |false=>cases h
   |true=>
    cases h;have hsub:=delete_sub hsm (by omega) hrs;exact inst_set2 hS hb.small ht hr (hsrt.sublist hsub) (Nat.le_trans hsub.length_le h24) fun row hrow=>hfit row (hsub.subset hrow)
 ·rw[jk h0,zc]at h;cases h
theorem steps_inst{s:LSchema}(hb:BaseS s):∀{cs:List LChange} {j:Nat} {S S':List LW},InstOk s S->au (kh s) j cs S=some (.next S')->InstOk s S'
 |[],j,S,S',h,e=>by cases e;exact h
 |c::cs,j,S,S',h,e=>by
  simp only[au]at e;cases hc:kh s j c S with
  |none=>rw[hc]at e;cases e
  |some f=>
   rw[hc]at e;cases f with
   |next S1=>exact steps_inst hb (step_inst hb h hc) e
   |brk S1=>exact absurd hc (step_brk s j c S S1)
   |ret r=>cases e
theorem flatS_app(a b:List LS):gA (a++b)=gA a++gA b:=by
 rw[pK,pK a,pK b];simp
theorem stmts_are:∀l:List LS,dX l<=1000000->bD l=some (gA l)/\(gA l).length=dX l:=by
 refine mA fun l ih hc=>?_
 rw[(stmts_both l).2];simp only[dB]
 have key:∀k,k<=l.length->(((l.take k).map fun s=>s::(gA s.body++gA s.elseF)).flatten).length=dX (l.take k):=by
  intro k hk;rw[mj,List.length_flatten,List.map_map];congr 1;refine List.map_congr_left fun s hs=>?_
  have hs':=List.mem_of_mem_take hs;have hm:=rJ hs';have h1:=((ih s hs').1 (by omega)).2;have h2:=((ih s hs').2 (by omega)).2;simp only[Function.comp,List.length_cons,List.length_append,h1,h2];omega
 rw[rMa (xs:=l) (s:=([]:List LS)) (fun k=>((l.take k).map fun s=>s::(gA s.body++gA s.elseF)).flatten) Z (fun k x hk=>by
  have hx:=cV hk;have hm:=rJ hx
  obtain⟨h3,h4⟩:=sg hk
  obtain⟨e1,l1⟩:=(ih x hx).1 (by omega)
  obtain⟨e2,l2⟩:=(ih x hx).2 (by omega)
  have hkl:=(zg.1 hk).1;have hl:=key k (by omega);rw[aS (by decide) (by rw[hl];simp;omega),bPs,e1,bPs,aS (by decide) (by rw[List.length_append,hl];simp;omega),bPs,e2,bPs,aS (by decide) (by rw[List.length_append,List.length_append,hl];simp;omega),bPs];rw[List.take_add_one,hk,List.map_append,List.flatten_append];simp),bPs,bQ,List.take_length,<-pK]
 refine⟨rfl,?_⟩
 have:=key l.length (Nat.le_refl _)
 rw[List.take_length,<-pK]at this;exact this
theorem calm_is(l:List LS):∃b,bF (gA l) (fun a0=>some (bt a0))=some b/\(b=false->Calm l):=by
 unfold bF ct;rw[idxF (p:=fun a0=>bt a0) fun _ _=>rfl,bPs]
 refine⟨_,rfl,fun hb x hx=>?_⟩
 have h0:¬aL (fun a0=>bt a0) (gA l)>=0:=by simpa using hb
 have hn:bt x=false:=by
  cases hq:bt x with
  |false=>rfl
  |true=>
   exfalso;rcases find_idx (fun a0=>bt a0) (gA l)with⟨h1,_⟩|⟨y,_,h2,_⟩
   ·exact absurd hq (by simpa using List.find?_eq_none.1 h1 x hx)
   ·exact h0 h2
 unfold bt at hn;by_cases k1:x.kind=1
 ·rw[jI k1]at hn;cases hn
 ·rw[ci k1,zd]at hn
  exact⟨k1,by simpa using hn⟩
theorem concat2C{a b:List LChange}(h:a.length+b.length<=1000):dP [a,b]=some (a++b):=by
 unfold dP;simp only[au];rw[Ww (n:=0+(a.length:Int)) (by omega) (by omega),zf (by omega),zd];dsimp only;rw[Ww (n:=0+(a.length:Int)+(b.length:Int)) (by omega) (by omega),zf (by omega),zd];dsimp only;rw[bPs,bQ,tX ⟨by omega,by omega,by unfold maxLen;omega⟩,bPs,aS (by decide) (by simp;omega),bPs];dsimp only;rw[aS (by decide) (by simp;omega),bPs];dsimp only;rw[bPs,bQ,List.nil_append]
def outR(y:Int×LR):List LChange×List LResult×Int:=if y.1=0 then(y.2.changes,y.2.results,0)else([],[],y.1)
theorem Run_nil{s:LSchema}{st:List LW}{p:LP}(hp:p.parameters=[])(h:kU s st p){y:Int×LR}(hy:aw (nF s st []) p.body=some y):jr s st p []=some (outR y):=by
 unfold jr;rw[h.check,bPs,iB Z,zd,hp,show decide (((([]:Rq).length:Nat):Int)<((([]:List Int).length:Nat):Int))=false from Z,zd];simp only[au,bPs,fX];rw[h.conf,bPs,iB Z,zd,show oq ([]:Rq) 0 ((([]:List Int).length:Nat):Int)=some []from Z,bPs,show LR.mk s st [] [] [] [] [] 400 false=nF s st []from Z,hy,bPs];unfold outR;by_cases h0:y.1=0
 ·rw[iB h0,zd,zp h0]
 ·rw[jk h0,zc,zy h0]
theorem out_code(y:Int×LR):(outR y).2.2=y.1:=by
 unfold outR;split
 ·rename_i h;exact h.symm
 ·rfl
theorem sequence_law{s:LSchema}(hs:pi s)(st:List LW){p q:LP}(hbs:cO (p.body.map af)+cO (q.body.map af)<=1048576)(hps:p.parameters.length+q.parameters.length<=1048576):
  fC s st p q=some true:=by
 suffices Ok (fC s st p q) fun b=>b=true by
  obtain⟨b,e,rfl⟩:=this
  exact e
 unfold fC;have hb1:cO (p.body.map af)<=1048576:=by omega
 have hb2:cO (q.body.map af)<=1048576:=by omega
 have hc1:=cnt_bulk p.body;have hc2:=cnt_bulk q.body;have hl1:=rV p.body;have hl2:=rV q.body;have hm1:∀x∈p.body,aT (af x)<=1048576:=fun x hx=>Nat.le_trans (kp (List.mem_map_of_mem hx)) hb1
 have hm2:∀x∈q.body,aT (af x)<=1048576:=fun x hx=>Nat.le_trans (kp (List.mem_map_of_mem hx)) hb2
 have hm3:∀x∈p.body++q.body,aT (af x)<=1048576:=fun x hx=>by
  rcases List.mem_append.1 hx with h|h
  ·exact hm1 x h
  ·exact hm2 x h
 have hc3:dX (p.body++q.body)<=1000000:=by rw[cntS_app];omega
 rw[aX,show(!sampleV)=false from Z,zd];refine Ok.bind (P:=fun b=>b=false->(p.parameters=[]/\q.parameters=[])/\kU s st p/\kU s st q/\Calm (p.body++q.body)) ?_ fun b hbt=>Ok.cond (fun _=>Ok.mk Z) fun hf=>?_
 ·rw[Ww (by omega) (by omega)];refine Ok.cond (fun _=>Ok.mk fun h=>by cases h) fun h0=>?_
  have h0:¬((p.parameters.length:Int)+(q.parameters.length:Int))>0:=by simpa using h0
  refine Ok.bind (wo hs st hm1 (by omega)) fun b hbp=>Ok.cond (fun _=>Ok.mk fun h=>by cases h) fun h1=>?_
  refine Ok.bind (wo hs st hm2 (by omega)) fun b hbq=>Ok.cond (fun _=>Ok.mk fun h=>by cases h) fun h2=>?_
  obtain⟨b,hb,hcalm⟩:=calm_is (p.body++q.body)
  rw[concat2S (by omega),bPs,(stmts_are _ hc3).1,bPs,hb,bPs];exact Ok.mk fun h=>⟨⟨List.length_eq_zero_iff.1 (by omega),List.length_eq_zero_iff.1 (by omega)⟩,hbp (by simpa using h1),hbq (by simpa using h2),hcalm h⟩
 obtain⟨⟨hp,hq⟩,q1,q2,hcalm⟩:=hbt hf
 have hcp:Calm p.body:=fun x hx=>hcalm x (by rw[flatS_app];exact List.mem_append_left _ hx)
 rw[concat2S (by omega),bPs]
 obtain⟨e,he,hck⟩:=check_is (s:=s) (p:=⟨[],p.body++q.body⟩) hm3 hc3
 rw[he,bPs];by_cases e0:e=0
 ·rw[iB e0,zd];have q3:kU s st ⟨[],p.body++q.body⟩:=⟨q1.base,q1.inst,q1.conf,by rw[he,e0],(hck e0).1,(hck e0).2⟩
  obtain⟨y1,hy1,hI1⟩:=body0 q1 hm1 []
  obtain⟨y3,hy3,hI3⟩:=body0 q3 hm3 []
  rw[Run_nil hp q1 hy1,bPs,Run_nil Z q3 hy3,bPs,out_code,out_code];have hs1:=hy1;rw[qT]at hs1
  obtain⟨fl,hfl,hs1⟩:=aA hs1
  have hkp:=steps_kp p.body hcp (nF s st []) (nF s st []) ⟨rfl,rfl,rfl,rfl⟩ fl hfl;have hs3:=hy3;rw[qT,show(LP.mk [] (p.body++q.body)).body=p.body++q.body from Z,steps_app,hfl,bPs]at hs3;cases fl with
  |brk r1=>exact hkp.elim
  |ret y=>
   cases hs1;rw[thenF_retS,bPs,pp]at hs3;cases hs3;by_cases h0:y1.1=0
   ·have:=(hkp h0).1
    cases this
   ·rw[jk h0,zc];exact Ok.mk (by simp)
  |next r1=>
   cases hs1;have hkp:Kp (nF s st []) r1:=hkp;rw[wu]at hs3
   obtain⟨n,hr1⟩:=hI1 Z
   have hr1:Inv s st (allT p.body) n r1:=hr1;have hmid:InstOk s r1.st:=steps_inst q1.base q1.inst hr1.ch;have hr24:=hr1.chl;rw[iB Z,zd];rw[show(outR ((0:Int),r1)).1=r1.changes from Z,apply_is,q1.base.val,bPs,iB Z,zd,q1.conf,bPs,iB Z,zd,zf (by omega),zd,clone_st q1.inst.lens q1.base.six,bPs,hr1.ch,bPs,fX,bPs,iB Z,zd];have q4:kU s r1.st q:=⟨q2.base,hmid,conforms_of q2.base.small hmid,q2.check,q2.good,q2.cnt⟩
   obtain⟨y2,hy2,hI2⟩:=body0 q4 hm2 []
   rw[Run_nil hq q4 hy2,bPs,out_code]
   have hU:Up r1.changes r1.results (400-r1.left) (nF s r1.st []) r1:=by
    have hlf:=hr1.left
    refine⟨?_,by simp[nF];exact hr24,by simp[nF];exact hr1.res,by show 0<=(400:Int)-(400-r1.left)/\(400:Int)<=400;omega⟩
    obtain⟨a1,a2,a3,a4⟩:=hkp
    have a0:=hr1.sch
    obtain⟨x1,x2,x3,x4,x5,x6,x7,x8,x9⟩:=r1
    simp only[nF]at a0 a1 a2 a3 a4;subst a0 a1 a2 a3 a4;simp only[up,nF,List.append_nil];congr 1;omega
   have hb3:aw r1 q.body=some y3:=by rw[qT];exact hs3
   have hsim:=body_two (by have:=hr1.left;omega) q.body _ _ hU y2 y3 hy2 hb3;by_cases h2:y2.1=0
   ·rw[iB h2,zd];rcases hsim with h3|⟨h3,h4⟩
    ·rw[jk (a:=y3.1) (by omega),zc];exact Ok.mk (by simpa using h3)
    ·have hu:=h4 h2;rw[iB (by omega),zd];have hch:y3.2.changes=r1.changes++y2.2.changes:=by rw[hu.eq];rfl
     have hre:y3.2.results=r1.results++y2.2.results:=by rw[hu.eq];rfl
     have hl:=hu.ch;have hl8:=hu.res;rw[show(outR y2).1=y2.2.changes from by unfold outR;rw[zp h2],show(outR y3).1=y3.2.changes from by unfold outR;rw[zp (by omega)],show(outR y3).2.1=y3.2.results from by unfold outR;rw[zp (by omega)]];rw[concat2C (by rw[<-List.length_append];omega),bPs,hre,zt (by omega),zc,hch,eqChanges_self,bPs];exact Ok.mk Z
   ·rw[jk h2,zc];rcases hsim with h3|⟨h3,_⟩
    ·refine Ok.cond (fun _=>Ok.mk Z) fun _=>Ok.mk (by simpa using h3)
    ·rw[jI h3,zc];exact Ok.mk Z
 ·rw[jk e0,zc];exact Ok.mk Z
theorem own_knob:ownKnob prog.godebug=none:=by kernel_rfl
theorem laid_out:laidOutB prog=true:=by kernel_rfl
def lawTypes:List TypeId:=[26,22,95,9,61,93,3,4,29,23,145,24,151,69,28,86,62,54,32,30,40,36,37,71,38,76,73,210,74]
theorem lawTypes_ok:lawTypes.all (okT prog lawTypes)=true:=by kernel_rfl
theorem lawTypes_info:∀t∈lawTypes,∃i,prog.info? t=some i/\i.bytes=prog.bytesOf t/\i.size=prog.cellsOf t:=infos_of (by kernel_rfl)
theorem sh9{n:Nat}{pvs:List PV}(h:Sh prog n 9 pvs):∃v:Rb,pvs=[.str v]:=by
 cases n with
 |zero=>simp[Sh]at h
 |succ n=>simp only[Sh,underlying9]at h;obtain⟨m,rfl,_⟩:=h;exact⟨m,rfl⟩
theorem sh3{n:Nat}{pvs:List PV}(h:Sh prog n 3 pvs):∃v:Int,pvs=[ac v]:=by
 cases n with
 |zero=>simp[Sh]at h
 |succ n=>simp only[Sh,underlying3]at h;obtain⟨m,rfl,_⟩:=h;exact⟨m,rfl⟩
theorem sh4{n:Nat}{pvs:List PV}(h:Sh prog n 4 pvs):∃v:Bool,pvs=[az v]:=by
 cases n with
 |zero=>simp[Sh]at h
 |succ n=>simp only[Sh,underlying4]at h;obtain⟨m,rfl⟩:=h;exact⟨m,rfl⟩
theorem sh93{n:Nat}{pvs:List PV}(h:Sh prog n 93 pvs):∃v:LCol,pvs=ap v:=by
 cases n with
 |zero=>simp[Sh]at h
 |succ n=>
  simp only[Sh,underlying93,List.map_cons,List.map_nil,iz]at h
  obtain⟨p0,r0,rfl,h0,p1,r1,rfl,h1,p2,r2,rfl,h2,rfl⟩:=h
  obtain⟨v0,rfl⟩:=sh9 h0
  obtain⟨v1,rfl⟩:=sh3 h1
  obtain⟨v2,rfl⟩:=sh4 h2
  exact⟨LCol.mk v0 v1 v2,rfl⟩
theorem sh61{n:Nat}{pvs:List PV}(h:Sh prog n 61 pvs):∃v:List LCol,pvs=[.list 93 (v.map ap)]:=by
 cases n with
 |zero=>simp[Sh]at h
 |succ n=>
  simp only[Sh,underlying61]at h
  obtain⟨rows,rfl,hr⟩:=h
  obtain⟨xs,rfl⟩:=kG (f:=ap) (fun r hq=>sh93 (hr r hq))
  exact⟨xs,rfl⟩
theorem sh29{n:Nat}{pvs:List PV}(h:Sh prog n 29 pvs):∃v:List Int,pvs=[.list 3 (v.map bv)]:=by
 cases n with
 |zero=>simp[Sh]at h
 |succ n=>
  simp only[Sh,underlying29]at h
  obtain⟨rows,rfl,hr⟩:=h
  obtain⟨xs,rfl⟩:=kG (f:=bv) (fun r hq=>let⟨v,e⟩:=sh3 (hr r hq);⟨v,e⟩)
  exact⟨xs,rfl⟩
theorem sh95{n:Nat}{pvs:List PV}(h:Sh prog n 95 pvs):∃v:LTable,pvs=bq v:=by
 cases n with
 |zero=>simp[Sh]at h
 |succ n=>
  simp only[Sh,underlying95,List.map_cons,List.map_nil,iz]at h
  obtain⟨p0,r0,rfl,h0,p1,r1,rfl,h1,p2,r2,rfl,h2,rfl⟩:=h
  obtain⟨v0,rfl⟩:=sh9 h0
  obtain⟨v1,rfl⟩:=sh61 h1
  obtain⟨v2,rfl⟩:=sh29 h2
  exact⟨LTable.mk v0 v1 v2,rfl⟩
theorem sh22{n:Nat}{pvs:List PV}(h:Sh prog n 22 pvs):∃v:List LTable,pvs=[.list 95 (v.map bq)]:=by
 cases n with
 |zero=>simp[Sh]at h
 |succ n=>
  simp only[Sh,underlying22]at h
  obtain⟨rows,rfl,hr⟩:=h
  obtain⟨xs,rfl⟩:=kG (f:=bq) (fun r hq=>sh95 (hr r hq))
  exact⟨xs,rfl⟩
theorem sh145{n:Nat}{pvs:List PV}(h:Sh prog n 145 pvs):∃v:LF,pvs=jX v:=by
 cases n with
 |zero=>simp[Sh]at h
 |succ n=>
  simp only[Sh,underlying145,List.map_cons,List.map_nil,iz]at h
  obtain⟨p0,r0,rfl,h0,p1,r1,rfl,h1,p2,r2,rfl,h2,rfl⟩:=h
  obtain⟨v0,rfl⟩:=sh9 h0
  obtain⟨v1,rfl⟩:=sh29 h1
  obtain⟨v2,rfl⟩:=sh9 h2
  exact⟨LF.mk v0 v1 v2,rfl⟩
theorem sh23{n:Nat}{pvs:List PV}(h:Sh prog n 23 pvs):∃v:List LF,pvs=[.list 145 (v.map jX)]:=by
 cases n with
 |zero=>simp[Sh]at h
 |succ n=>
  simp only[Sh,underlying23]at h
  obtain⟨rows,rfl,hr⟩:=h
  obtain⟨xs,rfl⟩:=kG (f:=jX) (fun r hq=>sh145 (hr r hq))
  exact⟨xs,rfl⟩
theorem sh69{n:Nat}{pvs:List PV}(h:Sh prog n 69 pvs):∃v:LVal,pvs=ab v:=by
 cases n with
 |zero=>simp[Sh]at h
 |succ n=>
  simp only[Sh,underlying69,List.map_cons,List.map_nil,iz]at h
  obtain⟨p0,r0,rfl,h0,p1,r1,rfl,h1,p2,r2,rfl,h2,rfl⟩:=h
  obtain⟨v0,rfl⟩:=sh3 h0
  obtain⟨v1,rfl⟩:=sh3 h1
  obtain⟨v2,rfl⟩:=sh9 h2
  exact⟨LVal.mk v0 v1 v2,rfl⟩
theorem sh151{n:Nat}{pvs:List PV}(h:Sh prog n 151 pvs):∃v:LK,pvs=ln v:=by
 cases n with
 |zero=>simp[Sh]at h
 |succ n=>
  simp only[Sh,underlying151,List.map_cons,List.map_nil,iz]at h
  obtain⟨p0,r0,rfl,h0,p1,r1,rfl,h1,p2,r2,rfl,h2,p3,r3,rfl,h3,p4,r4,rfl,h4,rfl⟩:=h
  obtain⟨v0,rfl⟩:=sh9 h0
  obtain⟨v1,rfl⟩:=sh3 h1
  obtain⟨v2,rfl⟩:=sh9 h2
  obtain⟨v3,rfl⟩:=sh3 h3
  obtain⟨v4,rfl⟩:=sh69 h4
  exact⟨LK.mk v0 v1 v2 v3 v4,rfl⟩
theorem sh24{n:Nat}{pvs:List PV}(h:Sh prog n 24 pvs):∃v:List LK,pvs=[.list 151 (v.map ln)]:=by
 cases n with
 |zero=>simp[Sh]at h
 |succ n=>
  simp only[Sh,underlying24]at h
  obtain⟨rows,rfl,hr⟩:=h
  obtain⟨xs,rfl⟩:=kG (f:=ln) (fun r hq=>sh151 (hr r hq))
  exact⟨xs,rfl⟩
theorem sh26{n:Nat}{pvs:List PV}(h:Sh prog n 26 pvs):∃v:LSchema,pvs=cf v:=by
 cases n with
 |zero=>simp[Sh]at h
 |succ n=>
  simp only[Sh,underlying26,List.map_cons,List.map_nil,iz]at h
  obtain⟨p0,r0,rfl,h0,p1,r1,rfl,h1,p2,r2,rfl,h2,rfl⟩:=h
  obtain⟨v0,rfl⟩:=sh22 h0
  obtain⟨v1,rfl⟩:=sh23 h1
  obtain⟨v2,rfl⟩:=sh24 h2
  exact⟨LSchema.mk v0 v1 v2,rfl⟩
theorem sh54{n:Nat}{pvs:List PV}(h:Sh prog n 54 pvs):∃v:Rq,pvs=[.list 69 (v.map ab)]:=by
 cases n with
 |zero=>simp[Sh]at h
 |succ n=>
  simp only[Sh,underlying54]at h
  obtain⟨rows,rfl,hr⟩:=h
  obtain⟨xs,rfl⟩:=kG (f:=ab) (fun r hq=>sh69 (hr r hq))
  exact⟨xs,rfl⟩
theorem sh62{n:Nat}{pvs:List PV}(h:Sh prog n 62 pvs):∃v:Rz,pvs=[.list 54 (v.map rRr)]:=by
 cases n with
 |zero=>simp[Sh]at h
 |succ n=>
  simp only[Sh,underlying62]at h
  obtain⟨rows,rfl,hr⟩:=h
  obtain⟨xs,rfl⟩:=kG (f:=rRr) (fun r hq=>let⟨v,e⟩:=sh54 (hr r hq);⟨v,e⟩)
  exact⟨xs,rfl⟩
theorem sh86{n:Nat}{pvs:List PV}(h:Sh prog n 86 pvs):∃v:LW,pvs=bE v:=by
 cases n with
 |zero=>simp[Sh]at h
 |succ n=>
  simp only[Sh,underlying86,List.map_cons,List.map_nil,iz]at h
  obtain⟨p0,r0,rfl,h0,p1,r1,rfl,h1,rfl⟩:=h
  obtain⟨v0,rfl⟩:=sh9 h0
  obtain⟨v1,rfl⟩:=sh62 h1
  exact⟨LW.mk v0 v1,rfl⟩
theorem sh28{n:Nat}{pvs:List PV}(h:Sh prog n 28 pvs):∃v:List LW,pvs=[.list 86 (v.map bE)]:=by
 cases n with
 |zero=>simp[Sh]at h
 |succ n=>
  simp only[Sh,underlying28]at h
  obtain⟨rows,rfl,hr⟩:=h
  obtain⟨xs,rfl⟩:=kG (f:=bE) (fun r hq=>sh86 (hr r hq))
  exact⟨xs,rfl⟩
theorem sh36{n:Nat}{pvs:List PV}(h:Sh prog n 36 pvs):∃v:Rs,pvs=[.list 9 (v.map nE)]:=by
 cases n with
 |zero=>simp[Sh]at h
 |succ n=>
  simp only[Sh,underlying36]at h
  obtain⟨rows,rfl,hr⟩:=h
  obtain⟨xs,rfl⟩:=kG (f:=nE) (fun r hq=>let⟨v,e⟩:=sh9 (hr r hq);⟨v,e⟩)
  exact⟨xs,rfl⟩
theorem sh71{n:Nat}{pvs:List PV}(h:Sh prog n 71 pvs):∃v:LExpr,pvs=eJ v:=by
 induction n generalizing pvs with
 |zero=>simp[Sh]at h
 |succ n ih=>
  simp only[Sh,underlying71,List.map_cons,List.map_nil,iz]at h
  obtain⟨p0,r0,rfl,h0,p1,r1,rfl,h1,p2,r2,rfl,h2,p3,r3,rfl,h3,p4,r4,rfl,h4,rfl⟩:=h
  obtain⟨v0,rfl⟩:=sh3 h0
  obtain⟨v1,rfl⟩:=sh9 h1
  obtain⟨v2,rfl⟩:=sh3 h2
  obtain⟨v3,rfl⟩:=sh69 h3
  cases n with
  |zero=>simp[Sh]at h4
  |succ n=>
  simp only[Sh,underlying37]at h4
  obtain⟨rows,rfl,hr4⟩:=h4
  obtain⟨v4,rfl⟩:=rowsUp (f:=eJ) (rfl) ih hr4
  exact⟨LExpr.mk v0 v1 v2 v3 v4,by rw[cQ];rfl⟩
theorem sh37{n:Nat}{pvs:List PV}(h:Sh prog n 37 pvs):∃v:List LExpr,pvs=[.list 71 (v.map eJ)]:=by
 cases n with
 |zero=>simp[Sh]at h
 |succ n=>
  simp only[Sh,underlying37]at h
  obtain⟨rows,rfl,hr⟩:=h
  obtain⟨xs,rfl⟩:=kG (f:=eJ) (fun r hq=>sh71 (hr r hq))
  exact⟨xs,rfl⟩
theorem sh210{n:Nat}{pvs:List PV}(h:Sh prog n 210 pvs):∃v:LA,pvs=nz v:=by
 cases n with
 |zero=>simp[Sh]at h
 |succ n=>
  simp only[Sh,underlying210,List.map_cons,List.map_nil,iz]at h
  obtain⟨p0,r0,rfl,h0,p1,r1,rfl,h1,p2,r2,rfl,h2,rfl⟩:=h
  obtain⟨v0,rfl⟩:=sh9 h0
  obtain⟨v1,rfl⟩:=sh9 h1
  obtain⟨v2,rfl⟩:=sh37 h2
  exact⟨LA.mk v0 v1 v2,rfl⟩
theorem sh73{n:Nat}{pvs:List PV}(h:Sh prog n 73 pvs):∃v:List LA,pvs=[.list 210 (v.map nz)]:=by
 cases n with
 |zero=>simp[Sh]at h
 |succ n=>
  simp only[Sh,underlying73]at h
  obtain⟨rows,rfl,hr⟩:=h
  obtain⟨xs,rfl⟩:=kG (f:=nz) (fun r hq=>sh210 (hr r hq))
  exact⟨xs,rfl⟩
theorem sh74{n:Nat}{pvs:List PV}(h:Sh prog n 74 pvs):∃v:List Bool,pvs=[.list 4 (v.map rBool)]:=by
 cases n with
 |zero=>simp[Sh]at h
 |succ n=>
  simp only[Sh,underlying74]at h
  obtain⟨rows,rfl,hr⟩:=h
  obtain⟨xs,rfl⟩:=kG (f:=rBool) (fun r hq=>let⟨v,e⟩:=sh4 (hr r hq);⟨v,e⟩)
  exact⟨xs,rfl⟩
theorem sh76{n:Nat}{pvs:List PV}(h:Sh prog n 76 pvs):∃v:LQuery,pvs=db v:=by
 induction n generalizing pvs with
 |zero=>simp[Sh]at h
 |succ n ih=>
  simp only[Sh,underlying76,List.map_cons,List.map_nil,iz]at h
  obtain⟨p0,r0,rfl,h0,p1,r1,rfl,h1,p2,r2,rfl,h2,p3,r3,rfl,h3,p4,r4,rfl,h4,p5,r5,rfl,h5,p6,r6,rfl,h6,p7,r7,rfl,h7,p8,r8,rfl,h8,rfl⟩:=h
  obtain⟨v0,rfl⟩:=sh3 h0
  obtain⟨v1,rfl⟩:=sh9 h1
  obtain⟨v2,rfl⟩:=sh36 h2
  obtain⟨v3,rfl⟩:=sh37 h3
  obtain⟨v4,rfl⟩:=sh73 h4
  obtain⟨v5,rfl⟩:=sh74 h5
  obtain⟨v6,rfl⟩:=sh3 h6
  obtain⟨v7,rfl⟩:=sh3 h7
  cases n with
  |zero=>simp[Sh]at h8
  |succ n=>
  simp only[Sh,underlying38]at h8
  obtain⟨rows,rfl,hr8⟩:=h8
  obtain⟨v8,rfl⟩:=rowsUp (f:=db) (rfl) ih hr8
  exact⟨LQuery.mk v0 v1 v2 v3 v4 v5 v6 v7 v8,by rw[cF];rfl⟩
theorem sh38{n:Nat}{pvs:List PV}(h:Sh prog n 38 pvs):∃v:List LQuery,pvs=[.list 76 (v.map db)]:=by
 cases n with
 |zero=>simp[Sh]at h
 |succ n=>
  simp only[Sh,underlying38]at h
  obtain⟨rows,rfl,hr⟩:=h
  obtain⟨xs,rfl⟩:=kG (f:=db) (fun r hq=>sh76 (hr r hq))
  exact⟨xs,rfl⟩
theorem sh40{n:Nat}{pvs:List PV}(h:Sh prog n 40 pvs):∃v:LS,pvs=af v:=by
 induction n generalizing pvs with
 |zero=>simp[Sh]at h
 |succ n ih=>
  simp only[Sh,underlying40,List.map_cons,List.map_nil,iz]at h
  obtain⟨p0,r0,rfl,h0,p1,r1,rfl,h1,p2,r2,rfl,h2,p3,r3,rfl,h3,p4,r4,rfl,h4,p5,r5,rfl,h5,p6,r6,rfl,h6,p7,r7,rfl,h7,p8,r8,rfl,h8,p9,r9,rfl,h9,rfl⟩:=h
  obtain⟨v0,rfl⟩:=sh3 h0
  obtain⟨v1,rfl⟩:=sh3 h1
  obtain⟨v2,rfl⟩:=sh9 h2
  obtain⟨v3,rfl⟩:=sh9 h3
  obtain⟨v4,rfl⟩:=sh36 h4
  obtain⟨v5,rfl⟩:=sh37 h5
  obtain⟨v6,rfl⟩:=sh37 h6
  obtain⟨v7,rfl⟩:=sh38 h7
  cases n with
  |zero=>simp[Sh]at h8
  |succ n=>
  simp only[Sh,underlying30]at h8
  obtain⟨rows,rfl,hr8⟩:=h8
  obtain⟨v8,rfl⟩:=rowsUp (f:=af) (rfl) ih hr8
  simp only[Sh,underlying30]at h9
  obtain⟨rows,rfl,hr9⟩:=h9
  obtain⟨v9,rfl⟩:=rowsUp (f:=af) (rfl) ih hr9
  exact⟨LS.mk v0 v1 v2 v3 v4 v5 v6 v7 v8 v9,by rw[cx];rfl⟩
theorem sh30{n:Nat}{pvs:List PV}(h:Sh prog n 30 pvs):∃v:List LS,pvs=[.list 40 (v.map af)]:=by
 cases n with
 |zero=>simp[Sh]at h
 |succ n=>
  simp only[Sh,underlying30]at h
  obtain⟨rows,rfl,hr⟩:=h
  obtain⟨xs,rfl⟩:=kG (f:=af) (fun r hq=>sh40 (hr r hq))
  exact⟨xs,rfl⟩
theorem sh32{n:Nat}{pvs:List PV}(h:Sh prog n 32 pvs):∃v:LP,pvs=bn v:=by
 cases n with
 |zero=>simp[Sh]at h
 |succ n=>
  simp only[Sh,underlying32,List.map_cons,List.map_nil,iz]at h
  obtain⟨p0,r0,rfl,h0,p1,r1,rfl,h1,rfl⟩:=h
  obtain⟨v0,rfl⟩:=sh29 h0
  obtain⟨v1,rfl⟩:=sh30 h1
  exact⟨LP.mk v0 v1,rfl⟩
theorem law_args:∀args,ArgsSh prog Tryz.f3.params.toList args->aT args<=1048576->aC prog 3 args (.val (.bool true)):=by
 intro args h hN;rw[params3]at h;simp only[ArgsSh]at h
 obtain⟨n0,p0,r0,rfl,h0,n1,p1,r1,rfl,h1,n2,p2,r2,rfl,h2,n3,p3,r3,rfl,h3,rfl⟩:=h
 obtain⟨v0,rfl⟩:=sh26 h0
 obtain⟨v1,rfl⟩:=sh28 h1
 obtain⟨v2,rfl⟩:=sh32 h2
 obtain⟨v3,rfl⟩:=sh32 h3
 have e0:my prog 26 (cf v0)= .agg (cf v0):=by simp only[my,underlying26]
 rw[e0]at hN⊢;have e1:my prog 28 [.list 86 (v1.map bE)]= .list 86 (v1.map bE):=by simp only[my,underlying28];rfl
 rw[e1]at hN⊢;have e2:my prog 32 (bn v2)= .agg (bn v2):=by simp only[my,underlying32]
 rw[e2]at hN⊢;have e3:my prog 32 (bn v3)= .agg (bn v3):=by simp only[my,underlying32]
 rw[e3]at hN⊢;simp only[aT,PV.bulk]at hN;have hs0:pi v0:=smallS_bulk (n:=1048576) (by omega) (by omega);have g2:cO (v2.parameters.map bv)+cO (v2.body.map af)<=aT (bn v2):=by simp only[bn,aT,PV.bulk];omega
 have g3:cO (v3.parameters.map bv)+cO (v3.body.map af)<=aT (bn v3):=by simp only[bn,aT,PV.bulk];omega
 have f2:=li (f:=bv) (k:=1) (fun x=>by simp[aT,PV.bulk]) v2.parameters;have f3:=li (f:=bv) (k:=1) (fun x=>by simp[aT,PV.bulk]) v3.parameters;have hb:cO (v2.body.map af)+cO (v3.body.map af)<=1048576:=by omega
 have hp:v2.parameters.length+v3.parameters.length<=1048576:=by omega
 exact pB v0 v1 v2 v3 true (sequence_law hs0 v1 hb hp)
abbrev LLF(X:Program->FuncId->Func->ChangeSpec->OpenClaim->Bool):Bool:=X prog 3 Tryz.f3 (Rows.OpenSpec.upto Rows.procedureSequenceSpec).bare Rows.procedureSequenceUptoRow
set_option maxRecDepth 100000 in
theorem law_wf:LLF (fun P f fn s c=>c.wf (OpenSpec.ofChange s))=true:=by kernel_rfl
set_option maxRecDepth 100000 in
theorem law_laid:LLF (fun P f fn s c=>laidOutB P)=true:=by kernel_rfl
set_option maxRecDepth 100000 in
theorem law_mapsRowed:LLF (fun P f fn s c=>mapsRowed P)=true:=by kernel_rfl
set_option maxRecDepth 100000 in
theorem law_rr:LLF (fun P f fn s c=>fn.params.all (P.readableRec ·))=true:=by kernel_rfl
set_option maxRecDepth 100000 in
theorem law_nt:LLF (fun P f fn s c=>namedTie P c.named s.vars)=true:=by kernel_rfl
set_option maxRecDepth 100000 in
theorem law_st:LLF (fun P f fn s c=>(c.stops==[])&&(P.stops==[])&&(c.knobs==[])&&(P.stopKnobs==[]))=true:=by kernel_rfl
set_option maxRecDepth 100000 in
theorem law_inPlace:LLF (fun P f fn s c=>c.inPlace==P.inPlace f)=true:=by kernel_rfl
set_option maxRecDepth 100000 in
theorem law_unf:LLF (fun P f fn s c=>c.unfollowed==P.unfollowed f)=true:=by kernel_rfl
set_option maxRecDepth 100000 in
theorem law_rec:LLF (fun P f fn s c=>c.recurses==P.recurses f)=true:=by kernel_rfl
set_option maxRecDepth 100000 in
theorem law_named:LLF (fun P f fn s c=>c.named==P.varsNamed f)=true:=by kernel_rfl
set_option maxRecDepth 100000 in
theorem law_maps:LLF (fun P f fn s c=>(c.maps==(fn.params.toList++s.plain.varTypes P).any (P.mapsRec ·))&&(c.ifaces==(fn.params.toList++s.plain.varTypes P).any (P.ifacesRec ·))&&(c.mapsOut==P.mapsAmong fn.resultTypes.toList))=true:=by kernel_rfl
set_option maxRecDepth 100000 in
theorem law_loops:LLF (fun P f fn s c=>(c.loops==(fn.params.toList++s.plain.varTypes P).any (P.loopsFrom ·)))=true:=by kernel_rfl
set_option maxRecDepth 100000 in
theorem law_wide:LLF (fun P f fn s c=>(c.wideKeys==(fn.params.toList++s.plain.varTypes P++fn.resultTypes.toList).any (P.wideKeysFrom ·)))=true:=by kernel_rfl
set_option maxRecDepth 100000 in
theorem law_rest1:LLF (fun P f fn s c=>s.vars.all (P.varReadable ·)&&fn.resultTypes.all (fun t=>P.readableRec t&&decide (t<P.types.size))&&(c.ifacesOut==fn.resultTypes.toList.any (P.ifacesRec ·))&&(c.loopsOut==fn.resultTypes.toList.any (P.loopsFrom ·)))=true:=by kernel_rfl
set_option maxRecDepth 100000 in
theorem law_plainKeys:LLF (fun P f fn s c=>c.plainKeys==P.plainKeys)=true:=by kernel_rfl
set_option maxRecDepth 100000 in
theorem law_rest2:LLF (fun P f fn s c=>c.shortTexts.isNone&&P.stopsHeard&&P.mayEnter&&(c.lifted==P.liftsFinal)&&(P.make==some c.make))=true:=by kernel_rfl
set_option maxRecDepth 100000 in
theorem law_kinds:LLF (fun P f fn s c=>(c.kinds==(if c.domain.isEmpty then []else fn.params.toList.map fun t=>match P.underlying t with|some (.int k)=>some k|_=>none))&&(c.pinned==c.pinnedBy))=true:=by kernel_rfl
set_option maxRecDepth 100000 in
theorem law_veil:LLF (fun P f fn s c=>(c.veiled==(fn.params.toList++s.plain.varTypes P++fn.resultTypes.toList).any (P.veiledRec ·))&&c.veiledFits P fn.params.toList (fn.params.toList++s.plain.varTypes P++fn.resultTypes.toList))=true:=by kernel_rfl
set_option maxRecDepth 100000 in
theorem law_facts:joinedFacts prog 3 Tryz.f3 (Rows.OpenSpec.upto Rows.procedureSequenceSpec).bare Rows.procedureSequenceUptoRow=true:=joined_of law_wf law_laid law_mapsRowed law_rr law_nt law_st law_inPlace law_unf law_rec law_named law_maps law_loops law_wide law_rest1 law_plainKeys law_rest2 law_kinds law_veil
theorem gl_all(W:World):Gl W []:=by
 refine⟨⟨?_,?_,?_⟩,?_⟩
 ·intro b hb;simp[glI]at hb
 ·intro b hb;simp[glT]at hb
 ·intro b hb;simp[glN]at hb
 ·intro b hb;simp[glB,glI,glT,glN]at hb
def putVar(h:Array Go.Obj)(g:Nat)(cs:Array Value):Array Go.Obj:=h.modify g fun
 | .cells _ t fz=>.cells cs t fz
 |o=>o
def lowBlk:Nat:=(World.holding prog default ⟨#[],#[],[]⟩).heap.size
def vk(os:Os):World:=
 let w0:=World.holding prog os ⟨#[.cells #[.string ⟨#[118,97,108,117,101,32,111,117,116,32,111,102,32,114,97,110,103,101]⟩] 342,.cells #[.string ⟨#[105,110,118,97,108,105,100,32,115,121,110,116,97,120]⟩] 342],#[],[]⟩
 {w0 with heap:=(putVar (putVar (putVar (putVar (putVar w0.heap 4 #[.int .u8 0,.int .u8 1,.int .u8 28,.int .u8 2,.int .u8 29,.int .u8 14,.int .u8 24,.int .u8 3,.int .u8 30,.int .u8 22,.int .u8 20,.int .u8 15,.int .u8 25,.int .u8 17,.int .u8 4,.int .u8 8,.int .u8 31,.int .u8 27,.int .u8 13,.int .u8 23,.int .u8 21,.int .u8 19,.int .u8 16,.int .u8 7,.int .u8 26,.int .u8 12,.int .u8 18,.int .u8 6,.int .u8 11,.int .u8 5,.int .u8 10,.int .u8 9]) 5 #[.int .u8 0,.int .u8 1,.int .u8 56,.int .u8 2,.int .u8 57,.int .u8 49,.int .u8 28,.int .u8 3,.int .u8 61,.int .u8 58,.int .u8 42,.int .u8 50,.int .u8 38,.int .u8 29,.int .u8 17,.int .u8 4,.int .u8 62,.int .u8 47,.int .u8 59,.int .u8 36,.int .u8 45,.int .u8 43,.int .u8 51,.int .u8 22,.int .u8 53,.int .u8 39,.int .u8 33,.int .u8 30,.int .u8 24,.int .u8 18,.int .u8 12,.int .u8 5,.int .u8 63,.int .u8 55,.int .u8 48,.int .u8 27,.int .u8 60,.int .u8 41,.int .u8 37,.int .u8 16,.int .u8 46,.int .u8 35,.int .u8 44,.int .u8 21,.int .u8 52,.int .u8 32,.int .u8 23,.int .u8 11,.int .u8 54,.int .u8 26,.int .u8 40,.int .u8 15,.int .u8 34,.int .u8 20,.int .u8 31,.int .u8 10,.int .u8 25,.int .u8 14,.int .u8 19,.int .u8 9,.int .u8 13,.int .u8 8,.int .u8 7,.int .u8 6]) 3 #[.int .u64 1,.int .u64 10,.int .u64 100,.int .u64 1000,.int .u64 10000,.int .u64 100000,.int .u64 1000000,.int .u64 10000000,.int .u64 100000000,.int .u64 1000000000,.int .u64 10000000000,.int .u64 100000000000,.int .u64 1000000000000,.int .u64 10000000000000,.int .u64 100000000000000,.int .u64 1000000000000000,.int .u64 10000000000000000,.int .u64 100000000000000000,.int .u64 1000000000000000000,.int .u64 10000000000000000000]) 2 #[.iface 340 (.pointer (some ⟨lowBlk,0,none⟩))]) 1 #[.iface 340 (.pointer (some ⟨lowBlk+1,0,none⟩))])}
set_option maxRecDepth 100000 in
theorem laid_met(os:Os):laidMet prog Rows.procedureSequenceUptoRow.laid ((vk os).forCall (fun _ _=>0) ⟨#[],#[.agg #[.slice none 0 0,.slice none 0 0,.slice none 0 0],.slice none 0 0,.agg #[.slice none 0 0,.slice none 0 0],.agg #[.slice none 0 0,.slice none 0 0]],[]⟩).memory:=
 laidMet_of_run' 8 (by kernel_rfl) (by kernel_rfl)
theorem law_reads(os:Os){H:Type}(enc:TypeId×Value->H):∃oQ,DataW.whole enc prog ((vk os).forCall (fun _ _=>0) ⟨#[],#[.agg #[.slice none 0 0,.slice none 0 0,.slice none 0 0],.slice none 0 0,.agg #[.slice none 0 0,.slice none 0 0],.agg #[.slice none 0 0,.slice none 0 0]],[]⟩).memory Tryz.f3.params.toList (Rows.OpenSpec.upto Rows.procedureSequenceSpec).vars false (#[.agg #[.slice none 0 0,.slice none 0 0,.slice none 0 0],.slice none 0 0,.agg #[.slice none 0 0,.slice none 0 0],.agg #[.slice none 0 0,.slice none 0 0]]:Array Value).toList 8=some ([.agg [.nil,.nil,.nil],.nil,.agg [.nil,.nil],.agg [.nil,.nil]],[],oQ):=
 ⟨[],by kernel_rfl⟩
set_option maxRecDepth 100000 in
theorem law_lifted(os:Os)(started:os.Started)(H:Type)(enc:TypeId×Value->H)(F:Stop.Interp):
  ReturnsInHanded {} checked os 3 .any ((Rows.OpenSpec.upto Rows.procedureSequenceSpec).preRow enc prog Tryz.f3 Rows.procedureSequenceUptoRow.domain false Rows.procedureSequenceUptoRow.laid) (((Rows.OpenSpec.upto Rows.procedureSequenceSpec).at F).post enc prog Tryz.f3 false true false false):=by
 obtain⟨oQ,hx⟩:=law_reads os enc
 refine returnsInHanded_of_row (C:=checked) (s:=Rows.OpenSpec.upto Rows.procedureSequenceSpec) own_knob started (by kernel_rfl) func3
  (witness_row_at (enc:=enc) (C:=checked) false (vk os) #[.agg #[.slice none 0 0,.slice none 0 0,.slice none 0 0],.slice none 0 0,.agg #[.slice none 0 0,.slice none 0 0],.agg #[.slice none 0 0,.slice none 0 0]] Z (by kernel_rfl) (by kernel_rfl) (by kernel_rfl)
   (OpenSpec.preRow_of_cond 8 hx (by kernel_rfl) (fun k hk=>by obtain rfl:=Option.some.inj hk;kernel_rfl) (by kernel_rfl) (laid_met os))) ?_
 intro W base args ds gs before hval hW _ hk hsz _ _ _
 have hN:((ds++gs).map (fun d=>Rows.uptoBulk d)).sum<=1048576:=by
  rw[sm];exact of_decide_eq_true (hk Rows.uptoSmall Z)
 refine law_callsB (s:=Rows.procedureSequenceSpec) (tb:=4) bulk_is laid_out Z ?_ Z underlying4 ?_ lawTypes_ok lawTypes_info ?_ law_args hval hW (gl_all W) hsz hN
 ·rw[params3];intro t ht;simp only[List.mem_cons,List.mem_nil_iff,or_false]at ht;rcases ht with rfl|rfl|rfl|rfl<;>exact⟨by kernel_rfl,of_decide_eq_true (by kernel_rfl)⟩
 ·intro ds hlen;rw[params3]at hlen
  match ds,hlen with
  |[d0,d1,d2,d3],_=>rfl
 ·rw[params3];intro t ht;simp only[List.mem_cons,List.mem_nil_iff,or_false]at ht;rcases ht with rfl|rfl|rfl|rfl<;>simp[lawTypes]
theorem law_said:Rows.ProcedureSequenceUptoSaid:=
 OpenClaim.holds_of_cond 3 Tryz.f3 Z Z Z Z Z Z Z ⟨rfl,rfl,rfl,rfl,rfl⟩ Z Z Z Z Z (by kernel_rfl) func3 law_facts
  (of_decide_eq_true (by kernel_rfl)) (by unfold Func.isWrapper;first|(rw[zp (by decide+kernel)];kernel_rfl)|(rw[zy (by decide+kernel)];exact⟨rfl,rfl⟩))
  (fun os started H enc _ F=>by rw[OpenClaim.pre_eq_preRow];exact law_lifted os started H enc F)
theorem law_plain(f:FuncId)(fn:Func)(hf:Tryz.pinned.checked.prog.funcNamed "stemma/stemkeep3.ProcedureSequence" =some f)(hfn:Tryz.pinned.checked.prog.funcs[f]? =some fn):
  true=Tryz.pinned.checked.prog.looks []/\∀(j:Nat) t,fn.params[j]? =some t->Tryz.pinned.checked.prog.wantsStandIn t=false:=by
 obtain rfl:f=3:=Option.some.inj ((show prog.funcNamed "stemma/stemkeep3.ProcedureSequence" =some 3 by kernel_rfl).symm.trans hf)|>.symm;obtain rfl:fn=Tryz.f3:=(Option.some.inj (func3.symm.trans hfn)).symm
 refine⟨by kernel_rfl,fun j t ht=>?_⟩
 have hall:(Tryz.f3.params.toList.all fun u=>!prog.wantsStandIn u)=true:=by kernel_rfl
 have hm:t∈Tryz.f3.params.toList:=by simpa using Array.mem_of_getElem? ht
 exact(show prog.wantsStandIn t=false by simpa using List.all_eq_true.1 hall t hm)
theorem procedureSequenceUpto_holds:Rows.ProcedureSequenceUptoCardSaid:=
 Claim7.holds_tied_plain_at .later [] _ _ _ _ law_said (fun _ h=>by cases h) (by kernel_rfl) (fun _ h=>by cases h) procedureSequenceUpto_row_tie Z ⟨rfl,rfl⟩ (by kernel_rfl) Z law_plain (by kernel_rfl)
end
end Go.Proofs.YtafdcemcgfbhcaaGreatDoor
