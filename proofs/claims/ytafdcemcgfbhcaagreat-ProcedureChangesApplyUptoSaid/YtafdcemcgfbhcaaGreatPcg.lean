/- procedureChangesApplyUpto_holds, part 7: the layer, the plain functions and what they compute; conditions as in the statement. -/
import Derived.Test.YtafdcemcgfbhcaaGreatPcf
set_option maxHeartbeats 4000000
namespace Go.Proofs.YtafdcemcgfbhcaaGreat
noncomputable section
open Go Go.Ab Go.Proofs.Tryz
theorem whileM_by{σ ρ:Type}{step:σ->Option (Flow σ ρ)}(I:σ->Prop)(μ:σ->Nat)(Q:σ->Prop)(R:ρ->Prop)(hs:∀s,I s->∃fl,step s=some fl/\(match fl with| .next s'=>I s'/\μ s'<μ s| .brk s'=>Q s'| .ret r=>R r)):
  ∀s,I s->∃fl,dg step s=some fl/\(match fl with| .next s'=>Q s'| .brk _=>False| .ret r=>R r):=by
 intro s;generalize hn:μ s=n;induction n using Nat.strongRecOn generalizing s with
 |_ n ih=>
  intro hI
  obtain⟨fl,h1,h2⟩:=hs s hI
  cases fl with
  |next s'=>
   obtain⟨fl,h3,h4⟩:=ih (μ s') (hn▸h2.2) s' Z h2.1
   exact⟨fl,mW h1 h3,h4⟩
  |brk s'=>exact⟨.next s',mW h1 Z,h2⟩
  |ret r=>exact⟨.ret r,mW h1 Z,h2⟩
theorem ij{σ β:Type}{step:σ->Option (Flow σ Empty)}{k:σ->Option β}{R:β->Prop}{s:σ}(I:σ->Prop)(μ:σ->Nat)(Q:σ->Prop)(h0:I s)
  (hs:∀s,I s->∃fl,step s=some fl/\(match fl with| .next s'=>I s'/\μ s'<μ s| .brk s'=>Q s'| .ret _=>False)) (hk:∀s',Q s'->∃r,k s'=some r/\R r):
  ∃r,ae (dg step s) (fun fl=>fl.thenP k)=some r/\R r:=by
 obtain⟨fl,h1,h2⟩:=whileM_by (step:=step) I μ Q (fun _=>False) (fun s hI=>by
  obtain⟨fl,h1,h2⟩:=hs s hI
  refine⟨fl,h1,?_⟩
  cases fl with
  |next s'=>exact h2
  |brk s'=>exact h2
  |ret r=>exact r.elim) s h0
 cases fl with
 |next s'=>rw[h1];exact hk s' h2
 |brk s'=>exact absurd h2 (by simp)
 |ret r=>exact r.elim
theorem mid_eq{n:Int}(h0:0<=n)(h1:n<=4611686018427387904):iw (Int.fdiv (IntKind.u64.wrap (iw n)) (2^1))=n/2:=by
 have h3:iw n=n:=wW (by omega) (by omega)
 have h2:IntKind.u64.wrap n=n:=by
  simp only[IntKind.wrap,IntKind.bits,IntKind.signed];simp;omega
 rw[h3,h2,show(2:Int)^1=2 from Z,Int.fdiv_eq_ediv_of_nonneg _ (by decide)];exact wW (by omega) (by omega)
section
variable{α:Type}
theorem swap_perm{l:List α}{i j:Nat}{x y:α}(hi:l[i]? =some x)(hj:l[j]? =some y):((l.set i y).set j x).Perm l:=by
 have hil:=(zg.1 hi).1;have hjl:=(zg.1 hj).1;have hx:=(zg.1 hi).2;have hy:=(zg.1 hj).2;rw[<-hx,<-hy];exact List.set_set_perm hil hjl
end
section
abbrev Rows:=Rz
abbrev Cmp:=Rq->Rq->Option Int
structure SrtOk(cmp:Cmp)(d0 d:Rows):Prop where
 perm:d.Perm d0
 small:d0.length<=1000000
 tot:∀x∈d0,∀y∈d0,Tot (cmp x y)
variable{cmp:Cmp}{d0:Rows}
theorem SrtOk.len{d:Rows}(h:SrtOk cmp d0 d):d.length=d0.length:=h.perm.length_eq
theorem SrtOk.cm{d:Rows}(h:SrtOk cmp d0 d){x y:Rq}(hx:x∈d)(hy:y∈d):Tot (cmp x y):=h.tot x (h.perm.mem_iff.1 hx) y (h.perm.mem_iff.1 hy)
theorem SrtOk.swap{d:Rows}(h:SrtOk cmp d0 d){i j:Nat}{x y:Rq}(hi:d[i]? =some x)(hj:d[j]? =some y):SrtOk cmp d0 ((d.set i y).set j x):=⟨(swap_perm hi hj).trans h.perm,h.small,h.tot⟩
theorem SrtOk.get{d:Rows}(h:SrtOk cmp d0 d){i:Int}(h0:0<=i)(h1:i<d0.length):∃x,aG d i=some x/\d[i.toNat]? =some x/\x∈d:=by
 have hl:=h.len
 have:i.toNat<d.length:=by omega
 exact⟨d[i.toNat],lw h0 (ze this),ze this,List.getElem_mem _⟩
theorem getI_set{α:Type}{l:List α}{i j:Int}{x y:α}(h0:0<=j)(hj:l[j.toNat]? =some y):∃z,aG (l.set i.toNat x) j=some z:=by
 have hl:=(zg.1 hj).1
 exact⟨_,lw h0 (ze (by simpa using hl))⟩
theorem tW{β:Type}{d:Rows}(h:SrtOk cmp d0 d){i j:Int}(hi0:0<=i)(hi1:i<d0.length)(hj0:0<=j)(hj1:j<d0.length):∃d',SrtOk cmp d0 d'/\∀k:Rows->Option β,
  (ae (aG d j) fun(x28:Rq)=>ae (aG d i) fun(x34:Rq)=>ae (aG d i) fun(_:Rq)=>letP (d.set i.toNat x28) fun(y6:Rows)=>ae (aG y6 j) fun(_:Rq)=>letP (y6.set j.toNat x34) fun(y7:Rows)=>k y7)=k d':=by
 obtain⟨y,hy,hy',_⟩:=h.get hj0 hj1
 obtain⟨x,hx,hx',_⟩:=h.get hi0 hi1
 obtain⟨z,hz⟩:=getI_set (i:=i) (x:=y) hj0 hy'
 refine⟨_,h.swap hx' hy',fun k=>?_⟩
 rw[hy,hx];simp only[bPs,bV];rw[hz,bPs]
theorem tJ{d:Rows}(h:SrtOk cmp d0 d){a b:Int}(ha:0<=a/\a<=d0.length)(hb:b<=d0.length):∃d',du d a b cmp=some d'/\SrtOk cmp d0 d':=by
 have hs:=h.small;unfold du;rw[wW (by omega) (by omega)];refine ij (fun s=>SrtOk cmp d0 s.1/\a<s.2) (fun s=>(b-s.2).toNat) (fun s=>SrtOk cmp d0 s.1) ⟨h,by show a<a+1;omega⟩ (fun s hI=>?_) (fun s hq=>⟨_,rfl,hq⟩)
 obtain⟨h1,h2⟩:=hI
 by_cases hlt:s.2<b
 ·rw[zt hlt,zc];refine ij (fun t=>SrtOk cmp d0 t.1/\a<=t.2/\t.2<b) (fun t=>(t.2-a).toNat) (fun t=>SrtOk cmp d0 t.1) ⟨h1,by show a<=s.2;omega,hlt⟩ (fun t hI=>?_) (fun t hq=>⟨_,rfl,?_⟩)
  ·obtain⟨g1,g2,g3⟩:=hI
   by_cases hgt:t.2>a
   ·rw[zt hgt,zc,wW (by omega) (by omega)]
    obtain⟨x,hx,hx',hxm⟩:=g1.get (i:=t.2) (by omega) (by omega)
    obtain⟨y,hy,hy',hym⟩:=g1.get (i:=t.2-1) (by omega) (by omega)
    obtain⟨c,hc⟩:=g1.cm hxm hym
    obtain⟨d',hd',hsw⟩:=tW (β:=Flow (Rows×Int) Empty) g1 (i:=t.2) (j:=t.2-1) (by omega) (by omega) (by omega) (by omega)
    rw[hx,bPs,hy,bPs,hc,bPs,bPs];by_cases hneg:c<0
    ·rw[zt hneg]
     have:=hsw (fun y31=>some (.next (y31,t.2-1)))
     rw[hx,hy]at this
     refine⟨.next (d',t.2-1),?_,⟨hd',by show a<=t.2-1;omega,by show t.2-1<b;omega⟩,by show(t.2-1-a).toNat<(t.2-a).toNat;omega⟩
     rw[zc];simp only;rw[hy,hx];exact this
    ·rw[zf hneg]
     exact⟨_,rfl,g1⟩
   ·rw[zf hgt]
    exact⟨_,rfl,g1⟩
  ·show(SrtOk cmp d0 t.1/\a<iw (s.2+1))/\(b-iw (s.2+1)).toNat<(b-s.2).toNat
   rw[wW (by omega) (by omega)]
   exact⟨⟨hq,by omega⟩,by omega⟩
 ·rw[zf hlt]
  exact⟨_,rfl,h1⟩
theorem qf{d:Rows}(h:SrtOk cmp d0 d){a b n:Int}(ha:0<=a)(hb:0<=b)(hn:n<=d0.length)(ha':a+n<=d0.length)(hb':b+n<=d0.length):∃d',dp d a b n cmp=some d'/\SrtOk cmp d0 d':=by
 have hs:=h.small;unfold dp;refine ij (fun s=>SrtOk cmp d0 s.1/\0<=s.2) (fun s=>(n-s.2).toNat) (fun s=>SrtOk cmp d0 s.1) ⟨h,by show(0:Int)<=0;omega⟩ (fun s hI=>?_) (fun s hq=>⟨_,rfl,hq⟩)
 obtain⟨h1,h2⟩:=hI
 by_cases hlt:s.2<n
 ·rw[zt hlt,zc,wW (n:=b+s.2) (by omega) (by omega),wW (n:=a+s.2) (by omega) (by omega),wW (n:=s.2+1) (by omega) (by omega)]
  obtain⟨d',hd',hsw⟩:=tW (β:=Flow (Rows×Int) Empty) h1 (i:=a+s.2) (j:=b+s.2) (by omega) (by omega) (by omega) (by omega)
  exact⟨_,hsw _,⟨hd',by show 0<=s.2+1;omega⟩,by show(n-(s.2+1)).toNat<(n-s.2).toNat;omega⟩
 ·rw[zf hlt]
  exact⟨_,rfl,h1⟩
theorem rotate_ok{d:Rows}(h:SrtOk cmp d0 d){a m b:Int}(ha:0<=a)(hm:a<m)(hb:m<b)(hb':b<=d0.length):∃d',er d a m b cmp=some d'/\SrtOk cmp d0 d':=by
 have hs:=h.small;unfold er;rw[wW (n:=m-a) (by omega) (by omega),wW (n:=b-m) (by omega) (by omega)];refine ij (fun s=>SrtOk cmp d0 s.1/\0<s.2.1/\0<s.2.2/\s.2.1<=m-a/\s.2.2<=b-m) (fun s=>(s.2.1+s.2.2).toNat) (fun s=>SrtOk cmp d0 s.1/\0<s.2.1/\s.2.1<=m-a/\s.2.1<=b-m) ⟨h,by show 0<m-a;omega,by show 0<b-m;omega,Int.le_refl _,Int.le_refl _⟩ (fun s hI=>?_) (fun s hq=>?_)
 ·obtain⟨h1,h2,h3,h4,h5⟩:=hI
  by_cases hne:s.2.1=s.2.2
  ·rw[pB hne]
   exact⟨_,rfl,h1,h2,h4,by show s.2.1<=b-m;omega⟩
  ·rw[mt hne,zc,wW (n:=m-s.2.1) (by omega) (by omega)];by_cases hgt:s.2.1>s.2.2
   ·rw[zt hgt,zc]
    obtain⟨d',e,hd'⟩:=qf h1 (a:=m-s.2.1) (b:=m) (n:=s.2.2) (by omega) (by omega) (by omega) (by omega) (by omega)
    rw[e,bPs,el (by rw[hd'.len,h1.len]),bPs,wW (by omega) (by omega)]
    exact⟨_,rfl,⟨hd',by show 0<s.2.1-s.2.2;omega,h3,by show s.2.1-s.2.2<=m-a;omega,h5⟩,by show(s.2.1-s.2.2+s.2.2).toNat<(s.2.1+s.2.2).toNat;omega⟩
   ·rw[zf hgt,zd,wW (n:=m+s.2.2) (by omega) (by omega),wW (n:=m+s.2.2-s.2.1) (by omega) (by omega)]
    obtain⟨d',e,hd'⟩:=qf h1 (a:=m-s.2.1) (b:=m+s.2.2-s.2.1) (n:=s.2.1) (by omega) (by omega) (by omega) (by omega) (by omega)
    rw[e,bPs,el (by rw[hd'.len,h1.len]),bPs,wW (by omega) (by omega)]
    exact⟨_,rfl,⟨hd',h2,by show 0<s.2.2-s.2.1;omega,h4,by show s.2.2-s.2.1<=b-m;omega⟩,by show(s.2.1+(s.2.2-s.2.1)).toNat<(s.2.1+s.2.2).toNat;omega⟩
 ·obtain⟨h1,h2,h3,h4⟩:=hq
  rw[wW (n:=m-s.2.1) (by omega) (by omega)]
  obtain⟨d',e,hd'⟩:=qf h1 (a:=m-s.2.1) (b:=m) (n:=s.2.1) (by omega) (by omega) (by omega) (by omega) (by omega)
  rw[e,bPs,el (by rw[hd'.len,h1.len]),bPs]
  exact⟨_,rfl,hd'⟩
def LeO{β:Type}(o o':Option β):Prop:=∀r,o=some r->o'=some r
theorem LeO.refl{β:Type}(o:Option β):LeO o o:=fun _ h=>h
theorem LeO.bind{β γ:Type}{o o':Option β}{k k':β->Option γ}(h:LeO o o')(hk:∀v,LeO (k v) (k' v)):LeO (ae o k) (ae o' k'):=by
 intro r hr;cases o with
 |none=>cases hr
 |some v=>rw[h v Z];exact hk v r hr
theorem LeO.cond{β:Type}{b:Bool}{x x' y y':Option β}(hx:LeO x x')(hy:LeO y y'):LeO (cond b x y) (cond b x' y'):=by
 cases b
 ·exact hy
 ·exact hx
theorem LeO.thenP{σ β:Type}{fl:Flow σ Empty}{k k':σ->Option β}(hk:∀s,LeO (k s) (k' s)):LeO (fl.thenP k) (fl.thenP k'):=by
 cases fl with
 |next s=>exact hk s
 |brk s=>exact hk s
 |ret r=>exact r.elim
theorem symMerge_mono{r r':Rows->Int->Int->Int->Option Rows}(h:∀d a m b,LeO (r d a m b) (r' d a m b))(d:Rows)(a m b:Int):LeO (dw r d a m b cmp) (dw r' d a m b cmp):=by
 unfold dw;simp only[bV];refine LeO.cond (LeO.refl _) (LeO.cond (LeO.refl _) (LeO.bind (LeO.refl _) fun fl=>LeO.thenP fun s=>LeO.bind (LeO.refl _) fun t=>LeO.bind (LeO.cond (LeO.bind (h _ _ _ _) fun _=>LeO.refl _) (LeO.refl _)) fun u=>LeO.cond (LeO.cond (LeO.bind (h _ _ _ _) fun _=>LeO.refl _) (LeO.refl _)) (LeO.refl _)))
theorem sO:∀(n:Nat) (d:Rows) (a m b:Int),LeO (bP n d a m b cmp) (bP (n+1) d a m b cmp)
 |0,d,a,m,b=>fun r h=>by simp[bP]at h
 |n+1,d,a,m,b=>by
  rw[bP,bP];exact symMerge_mono (fun d a m b=>sO n d a m b) d a m b
theorem tv{n:Nat}{d:Rows}{a m b:Int}{r:Rows}(h:bP n d a m b cmp=some r):fY d a m b cmp=some r:=by
 refine rO n fun k hk=>?_
 obtain⟨j,rfl⟩:∃j,k=n+j:=⟨k-n,by omega⟩
 clear hk;induction j with
 |zero=>exact h
 |succ j ih=>exact sO (n+j) d a m b r ih
theorem oU:∀(n:Nat) {d:Rows} (_:SrtOk cmp d0 d) {a m b:Int},0<=a->a<m->m<b->b<=d0.length->(b-a).toNat<n->∃d',bP n d a m b cmp=some d'/\SrtOk cmp d0 d'
 |0,_,_,_,_,_,_,_,_,_,hn=>by omega
 |n+1,d,h,a,m,b,ha,hm,hb,hb',hn=>by
  have hs:=h.small;rw[bP];unfold dw;rw[wW (n:=m-a) (by omega) (by omega),wW (n:=b-m) (by omega) (by omega)];by_cases h1:m-a=1
  ·rw[ld h1,zc];refine ij (fun s=>SrtOk cmp d0 s.1/\m<=s.2.1/\s.2.1<=s.2.2/\s.2.2<=b) (fun s=>(s.2.2-s.2.1).toNat) (fun s=>SrtOk cmp d0 s.1/\m<=s.2.1/\s.2.1<=b) ⟨h,Int.le_refl _,by show m<=b;omega,Int.le_refl _⟩ (fun s hI=>?_) (fun s hq=>?_)
   ·obtain⟨g1,g2,g3,g4⟩:=hI
    by_cases hlt:s.2.1<s.2.2
    ·rw[zt hlt,zc,mid_eq (n:=s.2.1+s.2.2) (by omega) (by omega)]
     obtain⟨x,hx,_,hxm⟩:=g1.get (i:=(s.2.1+s.2.2)/2) (by omega) (by omega)
     obtain⟨y,hy,_,hym⟩:=g1.get (i:=a) (by omega) (by omega)
     obtain⟨c,hc⟩:=g1.cm hxm hym
     rw[hx,bPs,hy,bPs,hc,bPs];by_cases hneg:c<0
     ·rw[zt hneg,zc,wW (by omega) (by omega)]
      exact⟨_,rfl,⟨g1,by show m<=(s.2.1+s.2.2)/2+1;omega,by show(s.2.1+s.2.2)/2+1<=s.2.2;omega,g4⟩,by show(s.2.2-((s.2.1+s.2.2)/2+1)).toNat<(s.2.2-s.2.1).toNat;omega⟩
     ·rw[zf hneg,zd]
      exact⟨_,rfl,⟨g1,g2,by show s.2.1<=(s.2.1+s.2.2)/2;omega,by show(s.2.1+s.2.2)/2<=b;omega⟩,by show((s.2.1+s.2.2)/2-s.2.1).toNat<(s.2.2-s.2.1).toNat;omega⟩
    ·rw[zf hlt]
     exact⟨_,rfl,g1,g2,by show s.2.1<=b;omega⟩
   ·obtain⟨g1,g2,g3⟩:=hq
    rw[wW (n:=s.2.1-1) (by omega) (by omega)];refine ij (fun t=>SrtOk cmp d0 t.1/\a<=t.2) (fun t=>(s.2.1-t.2).toNat) (fun t=>SrtOk cmp d0 t.1) ⟨g1,Int.le_refl _⟩ (fun t hI=>?_) (fun t hq=>⟨_,rfl,hq⟩)
    obtain⟨k1,k2⟩:=hI
    by_cases hlt:t.2<s.2.1-1
    ·rw[zt hlt,zc,wW (n:=t.2+1) (by omega) (by omega)]
     obtain⟨d',hd',hsw⟩:=tW (β:=Flow (Rows×Int) Empty) k1 (i:=t.2) (j:=t.2+1) (by omega) (by omega) (by omega) (by omega)
     exact⟨_,hsw _,⟨hd',by show a<=t.2+1;omega⟩,by show(s.2.1-(t.2+1)).toNat<(s.2.1-t.2).toNat;omega⟩
    ·rw[zf hlt]
     exact⟨_,rfl,k1⟩
  ·rw[dm h1,zd];by_cases h2:b-m=1
   ·rw[ld h2,zc];refine ij (fun s=>SrtOk cmp d0 s.1/\a<=s.2.1/\s.2.1<=s.2.2/\s.2.2<=m) (fun s=>(s.2.2-s.2.1).toNat) (fun s=>SrtOk cmp d0 s.1/\a<=s.2.1/\s.2.1<=m) ⟨h,Int.le_refl _,by show a<=m;omega,Int.le_refl _⟩ (fun s hI=>?_) (fun s hq=>?_)
    ·obtain⟨g1,g2,g3,g4⟩:=hI
     by_cases hlt:s.2.1<s.2.2
     ·rw[zt hlt,zc,mid_eq (n:=s.2.1+s.2.2) (by omega) (by omega)]
      obtain⟨x,hx,_,hxm⟩:=g1.get (i:=m) (by omega) (by omega)
      obtain⟨y,hy,_,hym⟩:=g1.get (i:=(s.2.1+s.2.2)/2) (by omega) (by omega)
      obtain⟨c,hc⟩:=g1.cm hxm hym
      rw[hx,bPs,hy,bPs,hc,bPs];by_cases hneg:c<0
      ·rw[zt hneg]
       exact⟨_,rfl,⟨g1,g2,by show s.2.1<=(s.2.1+s.2.2)/2;omega,by show(s.2.1+s.2.2)/2<=m;omega⟩,by show((s.2.1+s.2.2)/2-s.2.1).toNat<(s.2.2-s.2.1).toNat;omega⟩
      ·rw[zf hneg,Bool.not_false,zc,wW (by omega) (by omega)]
       exact⟨_,rfl,⟨g1,by show a<=(s.2.1+s.2.2)/2+1;omega,by show(s.2.1+s.2.2)/2+1<=s.2.2;omega,g4⟩,by show(s.2.2-((s.2.1+s.2.2)/2+1)).toNat<(s.2.2-s.2.1).toNat;omega⟩
     ·rw[zf hlt]
      exact⟨_,rfl,g1,g2,by show s.2.1<=m;omega⟩
    ·obtain⟨g1,g2,g3⟩:=hq
     refine ij (fun t=>SrtOk cmp d0 t.1/\a<=t.2/\t.2<=m) (fun t=>(t.2-a).toNat) (fun t=>SrtOk cmp d0 t.1) ⟨g1,by show a<=m;omega,Int.le_refl _⟩ (fun t hI=>?_) (fun t hq=>⟨_,rfl,hq⟩)
     obtain⟨k1,k2,k3⟩:=hI
     by_cases hlt:t.2>s.2.1
     ·rw[zt hlt,zc,wW (n:=t.2-1) (by omega) (by omega)]
      obtain⟨d',hd',hsw⟩:=tW (β:=Flow (Rows×Int) Empty) k1 (i:=t.2) (j:=t.2-1) (by omega) (by omega) (by omega) (by omega)
      exact⟨_,hsw _,⟨hd',by show a<=t.2-1;omega,by show t.2-1<=m;omega⟩,by show(t.2-1-a).toNat<(t.2-a).toNat;omega⟩
     ·rw[zf hlt]
      exact⟨_,rfl,k1⟩
   ·rw[dm h2,zd];simp only[bV];rw[mid_eq (n:=a+b) (by omega) (by omega)];generalize hmid:(a+b)/2=mid;have b1:2*mid<=a+b/\a+b<=2*mid+1:=by omega
    rw[wW (n:=mid+m) (by omega) (by omega),wW (n:=mid+m-b) (by omega) (by omega),wW (n:=mid+m-1) (by omega) (by omega)]
    obtain⟨lo,hi,e1,l1,l2,l3,l4,l5,l6⟩:∃lo hi:Int,(cond (decide (m>mid)) ((d,mid+m-b,mid)) ((d,a,m)):Rows×Int×Int)=(d,lo,hi)/\a<=lo/\lo<=hi/\hi<=m/\mid+m-lo<=b/\m<=mid+m-hi/\hi<=mid:=by
     by_cases hgt:m>mid
     ·exact⟨mid+m-b,mid,by rw[zt hgt];rfl,by omega,by omega,by omega,by omega,by omega,by omega⟩
     ·exact⟨a,m,by rw[zf hgt];rfl,by omega,by omega,by omega,by omega,by omega,by omega⟩
    rw[e1];refine ij (fun s=>SrtOk cmp d0 s.1/\lo<=s.2.1/\s.2.1<=s.2.2/\s.2.2<=hi) (fun s=>(s.2.2-s.2.1).toNat) (fun s=>SrtOk cmp d0 s.1/\lo<=s.2.1/\s.2.1<=hi) ⟨h,Int.le_refl _,l2,Int.le_refl _⟩ (fun s hI=>?_) (fun s hq=>?_)
    ·obtain⟨g1,g2,g3,g4⟩:=hI
     by_cases hlt:s.2.1<s.2.2
     ·rw[zt hlt,zc,mid_eq (n:=s.2.1+s.2.2) (by omega) (by omega)];generalize hc:(s.2.1+s.2.2)/2=c;have c1:s.2.1<=c/\c<s.2.2:=by omega
      rw[wW (n:=mid+m-1-c) (by omega) (by omega)]
      obtain⟨x,hx,_,hxm⟩:=g1.get (i:=mid+m-1-c) (by omega) (by omega)
      obtain⟨y,hy,_,hym⟩:=g1.get (i:=c) (by omega) (by omega)
      obtain⟨v,hv⟩:=g1.cm hxm hym
      rw[hx,bPs,hy,bPs,hv,bPs];by_cases hneg:v<0
      ·rw[zt hneg]
       exact⟨_,rfl,⟨g1,g2,by show s.2.1<=c;omega,by show c<=hi;omega⟩,by show(c-s.2.1).toNat<(s.2.2-s.2.1).toNat;omega⟩
      ·rw[zf hneg,Bool.not_false,zc,wW (by omega) (by omega)]
       exact⟨_,rfl,⟨g1,by show lo<=c+1;omega,by show c+1<=s.2.2;omega,g4⟩,by show(s.2.2-(c+1)).toNat<(s.2.2-s.2.1).toNat;omega⟩
     ·rw[zf hlt]
      exact⟨_,rfl,g1,g2,by show s.2.1<=hi;omega⟩
    ·obtain⟨g1,g2,g3⟩:=hq
     rw[wW (n:=mid+m-s.2.1) (by omega) (by omega)]
     -- the rotation
     obtain⟨t,ht,hto⟩:∃t,(ae (cond ((cond (decide (s.2.1<m)) ((s.1,decide (m<mid+m-s.2.1))) ((s.1,false)):Rows×Bool)).2
       (ae (er ((cond (decide (s.2.1<m)) ((s.1,decide (m<mid+m-s.2.1))) ((s.1,false)):Rows×Bool)).1 s.2.1 m (mid+m-s.2.1) cmp) fun x191=>ae (cF (x191.length=((cond (decide (s.2.1<m)) ((s.1,decide (m<mid+m-s.2.1))) ((s.1,false)):Rows×Bool)).1.length) ()) fun(_:Unit)=>some x191)
       (some ((cond (decide (s.2.1<m)) ((s.1,decide (m<mid+m-s.2.1))) ((s.1,false)):Rows×Bool)).1)) some)=some t/\SrtOk cmp d0 t:=by
      by_cases c1:s.2.1<m
      ·by_cases c2:m<mid+m-s.2.1
       ·rw[zt c1,zt c2];simp only[zc]
        obtain⟨d',e,hd'⟩:=rotate_ok g1 (a:=s.2.1) (m:=m) (b:=mid+m-s.2.1) (by omega) c1 c2 (by omega)
        rw[e,bPs,el (by rw[hd'.len,g1.len])]
        exact⟨_,rfl,hd'⟩
       ·rw[zt c1,zf c2]
        exact⟨_,rfl,g1⟩
      ·rw[zf c1]
       exact⟨_,rfl,g1⟩
     have ht':=ht;generalize hcc:(cond ((cond (decide (s.2.1<m)) ((s.1,decide (m<mid+m-s.2.1))) ((s.1,false)):Rows×Bool)).2 _ _:Option Rows)=o at ht⊢;cases o with
     |none=>cases ht
     |some t0=>
      simp only[bPs,zo]at ht;subst ht;rw[bPs];clear hcc ht'
      obtain⟨u,hu,huo⟩:∃u,(ae (cond ((cond (decide (a<s.2.1)) ((t0,decide (s.2.1<mid))) ((t0,false)):Rows×Bool)).2
        (ae (bP n ((cond (decide (a<s.2.1)) ((t0,decide (s.2.1<mid))) ((t0,false)):Rows×Bool)).1 a s.2.1 mid cmp) fun x205=>ae (cF (x205.length=((cond (decide (a<s.2.1)) ((t0,decide (s.2.1<mid))) ((t0,false)):Rows×Bool)).1.length) ()) fun(_:Unit)=>some x205)
        (some ((cond (decide (a<s.2.1)) ((t0,decide (s.2.1<mid))) ((t0,false)):Rows×Bool)).1)) some)=some u/\SrtOk cmp d0 u:=by
       by_cases c1:a<s.2.1
       ·by_cases c2:s.2.1<mid
        ·rw[zt c1,zt c2];simp only[zc]
         obtain⟨d',e,hd'⟩:=oU n hto (a:=a) (m:=s.2.1) (b:=mid) ha c1 c2 (by omega) (by omega)
         rw[e,bPs,el (by rw[hd'.len,hto.len])]
         exact⟨_,rfl,hd'⟩
        ·rw[zt c1,zf c2]
         exact⟨_,rfl,hto⟩
       ·rw[zf c1]
        exact⟨_,rfl,hto⟩
      generalize hcc:(cond ((cond (decide (a<s.2.1)) ((t0,decide (s.2.1<mid))) ((t0,false)):Rows×Bool)).2 _ _:Option Rows)=o at hu⊢;cases o with
      |none=>cases hu
      |some u0=>
       simp only[bPs,zo]at hu;subst hu;rw[bPs];by_cases c1:mid<mid+m-s.2.1
       ·rw[zt c1,zc];by_cases c2:mid+m-s.2.1<b
        ·rw[zt c2,zc]
         obtain⟨d',e,hd'⟩:=oU n huo (a:=mid) (m:=mid+m-s.2.1) (b:=b) (by omega) c1 c2 hb' (by omega)
         rw[e,bPs,el (by rw[hd'.len,huo.len])]
         exact⟨_,rfl,hd'⟩
        ·rw[zf c2]
         exact⟨_,rfl,huo⟩
       ·rw[zf c1]
        exact⟨_,rfl,huo⟩
theorem stable_ok{d:Rows}(h:SrtOk cmp d0 d):∃d',fg d (d0.length:Int) cmp=some d'/\SrtOk cmp d0 d':=by
 have hs:=h.small;unfold fg;refine ij (fun s=>SrtOk cmp d0 s.1/\0<=s.2.1/\s.2.1<=s.2.2/\s.2.2<=s.2.1+20/\s.2.1<=d0.length) (fun s=>(d0.length+20-s.2.2).toNat) (fun s=>SrtOk cmp d0 s.1/\0<=s.2.1/\s.2.1<=d0.length) ⟨h,by show(0:Int)<=0;omega,by show(0:Int)<=20;omega,by show(20:Int)<=0+20;omega,by show(0:Int)<=d0.length;omega⟩ (fun s hI=>?_) (fun s hq=>?_)
 ·obtain⟨g1,g2,g3,g4,g5⟩:=hI
  by_cases hle:s.2.2<=(d0.length:Int)
  ·rw[zt hle,zc]
   obtain⟨d',e,hd'⟩:=tJ g1 (a:=s.2.1) (b:=s.2.2) ⟨g2,by omega⟩ hle
   rw[e,bPs,el (by rw[hd'.len,g1.len]),bPs,wW (by omega) (by omega)]
   exact⟨_,rfl,⟨hd',by show 0<=s.2.2;omega,by show s.2.2<=s.2.2+20;omega,by show s.2.2+20<=s.2.2+20;omega,hle⟩,by show((d0.length:Int)+20-(s.2.2+20)).toNat<((d0.length:Int)+20-s.2.2).toNat;omega⟩
  ·rw[zf hle]
   exact⟨_,rfl,g1,g2,g5⟩
 ·obtain⟨g1,g2,g3⟩:=hq
  obtain⟨d',e,hd'⟩:=tJ g1 (a:=s.2.1) (b:=(d0.length:Int)) ⟨g2,by omega⟩ (Int.le_refl _)
  rw[e,bPs,el (by rw[hd'.len,g1.len]),bPs];clear e g1 g2 g3 s h;refine ij (fun s=>SrtOk cmp d0 s.1/\20<=s.2) (fun s=>(d0.length-s.2).toNat) (fun s=>SrtOk cmp d0 s.1) ⟨hd',by show(20:Int)<=20;omega⟩ (fun s hI=>?_) (fun s hq=>⟨_,rfl,hq⟩)
  obtain⟨g1,g2⟩:=hI
  by_cases hlt:s.2<(d0.length:Int)
  ·rw[zt hlt,zc,wW (n:=2*s.2) (by omega) (by omega)];refine ij (fun t=>SrtOk cmp d0 t.1/\0<=t.2.1/\t.2.2=t.2.1+2*s.2/\t.2.1<=d0.length) (fun t=>(d0.length+2*s.2-t.2.2).toNat) (fun t=>SrtOk cmp d0 t.1/\0<=t.2.1/\t.2.1<=d0.length) ⟨g1,by show(0:Int)<=0;omega,by show 2*s.2=0+2*s.2;omega,by show(0:Int)<=d0.length;omega⟩ (fun t hI=>?_) (fun t hq=>?_)
   ·obtain⟨k1,k2,k3,k4⟩:=hI
    by_cases hle:t.2.2<=(d0.length:Int)
    ·rw[zt hle,zc,wW (n:=t.2.1+s.2) (by omega) (by omega)]
     obtain⟨d'',e,hd''⟩:=oU ((t.2.2-t.2.1).toNat+1) k1 (a:=t.2.1) (m:=t.2.1+s.2) (b:=t.2.2) k2 (by omega) (by omega) hle (by omega)
     rw[tv e,bPs,el (by rw[hd''.len,k1.len]),bPs,wW (by omega) (by omega)]
     exact⟨_,rfl,⟨hd'',by show 0<=t.2.2;omega,by show t.2.2+2*s.2=t.2.2+2*s.2;omega,hle⟩,by show((d0.length:Int)+2*s.2-(t.2.2+2*s.2)).toNat<((d0.length:Int)+2*s.2-t.2.2).toNat;omega⟩
    ·rw[zf hle]
     exact⟨_,rfl,k1,k2,k4⟩
   ·obtain⟨k1,k2,k3⟩:=hq
    rw[wW (n:=t.2.1+s.2) (by omega) (by omega),wW (n:=s.2*2) (by omega) (by omega)];by_cases hm:t.2.1+s.2<(d0.length:Int)
    ·rw[zt hm,zc]
     obtain⟨d'',e,hd''⟩:=oU ((d0.length-t.2.1).toNat+1) k1 (a:=t.2.1) (m:=t.2.1+s.2) (b:=(d0.length:Int)) k2 (by omega) (by omega) (Int.le_refl _) (by omega)
     rw[tv e,bPs,el (by rw[hd''.len,k1.len]),bPs]
     exact⟨_,rfl,⟨hd'',by show 20<=s.2*2;omega⟩,by show((d0.length:Int)-s.2*2).toNat<((d0.length:Int)-s.2).toNat;omega⟩
    ·rw[zf hm,zd]
     exact⟨_,rfl,⟨k1,by show 20<=s.2*2;omega⟩,by show((d0.length:Int)-s.2*2).toNat<((d0.length:Int)-s.2).toNat;omega⟩
  ·rw[zf hlt]
   exact⟨_,rfl,g1⟩
theorem sortStable_ok{d:Rows}(hs:d.length<=1000000)(ht:∀x∈d,∀y∈d,Tot (cmp x y)):∃d',dK d cmp=some d'/\d'.Perm d:=by
 unfold dK
 obtain⟨d',e,hd'⟩:=stable_ok (cmp:=cmp) (d0:=d) (d:=d) ⟨List.Perm.refl _,hs,ht⟩
 rw[e,bPs,el hd'.len,bPs]
 exact⟨d',rfl,hd'.perm⟩
end
theorem sE(r:LRun)(cols:List LCol)(x:Rq)(l:List LExpr)(hl:l.length<=10000000):eB r cols x l=some (l.map fun e=>et (bY r cols x) e):=by
 unfold eB
 rw[nP (xs:=l) (fun e=>et (bY r cols x) e) (fun k e hk=>by
  have:=(zg.1 hk).1
  rw[bV,bV,cd (by decide) (by simp;omega),bPs])]
 rfl
theorem compare_tot(a b:Rq)(ds:List Bool):Tot (js a b ds):=by
 unfold js;refine Tot.bind (Tot.range _ _ _ fun k x s hk=>?_) fun fl _=>Tot.thenR fun _ _=>Tot.mk
 rw[Nat.zero_add];by_cases h1:(k:Int)>=(b.length:Int)
 ·rw[zt h1];exact Tot.mk
 ·rw[zf h1,zd,fI (by omega)];simp only[bPs,bV];refine Tot.cond (fun _=>Tot.mk) fun _=>?_
  refine Tot.cond (fun h=>?_) fun _=>Tot.cond (fun _=>Tot.mk) fun _=>Tot.mk
  have h:=of_decide_eq_true h;rw[fI (by omega),bPs];exact Tot.cond (fun _=>Tot.cond (fun _=>Tot.mk) fun _=>Tot.mk) fun _=>Tot.cond (fun _=>Tot.mk) fun _=>Tot.mk
theorem sort_ok(r:LRun)(q:LQuery)(cols:List LCol)(l:Rows)(hs:l.length<=1000000)(he:q.exprs.length<=1000000):∃l',gU r q cols l=some l'/\l'.Perm l:=by
 unfold gU
 obtain⟨l',e,hp⟩:=sortStable_ok (cmp:=fun a0 a1=>gR a0 a1 r cols q) hs (fun x _ y _=>by
  show Tot (gR x y r cols q);unfold gR;rw[sE r cols x q.exprs (by omega),sE r cols y q.exprs (by omega),bPs,bPs];exact Tot.bind (compare_tot _ _ _) fun _ _=>Tot.mk)
 rw[e,bPs,el hp.length_eq,bPs]
 exact⟨l',rfl,hp⟩
theorem val_eq(x y:LVal):(x.kind==y.kind&&(x.int==y.int&&(x.text==y.text&&true)))=decide (x=y):=by
 obtain⟨a,b,c⟩:=x
 obtain⟨a',b',c'⟩:=y
 by_cases h:(⟨a,b,c⟩:LVal)=⟨a',b',c'⟩
 ·rw[zt h];cases h;simp
 ·rw[zf h];by_cases h1:a=a'
  ·by_cases h2:b=b'
   ·have h3:c≠c':=fun h3=>h (by rw[h1,h2,h3])
    have:(c==c')=false:=by simpa using h3
    simp[this]
   ·simp[dm h2]
  ·simp[dm h1]
theorem equalRow(x y:Rq):cZ x y=some (decide (x=y)):=by
 unfold cZ;by_cases hl:x.length=y.length
 ·rw[natNE,zt hl,Bool.not_true,zd]
  obtain⟨fl,hfl,hr⟩:=gv (step:=fun(j1:Nat) (x1:LVal) (_:Unit)=>ae (aG y (j1:Int)) fun(x22:LVal)=>cond (!(x1.kind==x22.kind&&(x1.int==x22.int&&(x1.text==x22.text&&true)))) (some (Flow.ret false)) (some (.next ())))
   (fun j _=>x.take j=y.take j) (fun r=>r=false/\x≠y) x 0 () (by simp) (fun k v s hk hI=>by
    simp only[Nat.zero_add]at hI⊢;have hkl:=(zg.1 hk).1;rw[fI (by omega),bPs,val_eq];by_cases hv:v=y[k]
    ·rw[zt hv]
     refine⟨_,rfl,?_⟩
     simp only;rw[List.take_add_one,List.take_add_one,hk,ze (by omega),hI,hv]
    ·rw[zf hv]
     refine⟨_,rfl,rfl,fun he=>hv ?_⟩
     subst he
     exact(zg.1 hk).2.symm)
  rw[hfl,bPs];cases fl with
  |brk s=>exact absurd hr (by simp)
  |ret r=>rw[pW,hr.1,zf hr.2]
  |next s=>
   simp only[Nat.zero_add,List.take_length]at hr;rw[hl,List.take_length]at hr;rw[kg,zt hr]
 ·rw[natNE,zf hl,zf (fun h=>hl (by rw[h]))];rfl
theorem idxO(l:Rows)(p:Rq->Bool)(f:Rq->Option Bool)(hf:∀x∈l,f x=some (p x))(hl:l.length<=10000000):cr l f=some (br p l,l):=by
 unfold cr;rw[pw (by omega),bPs,Int.toNat_natCast]
 obtain⟨fl,hfl,hr⟩:=gv (step:=fun(j1:Nat) (_:Nat) (s1:Rows)=>ae (aG s1 (j1:Int)) fun(x14:Rq)=>ae (f x14) fun x16=>cond x16 (some (Flow.ret ((j1:Int),s1))) (some (.next s1)))
  (fun j s=>s=l/\∀x∈l.take j,p x=false) (fun r=>r=(br p l,l)) (List.range l.length) 0 l ⟨rfl,by simp⟩ (fun k v s hk hI=>by
   simp only[Nat.zero_add]at hI⊢;have hkl:=(zg.1 hk).1;simp at hkl
   obtain⟨rfl,hI⟩:=hI
   rw[fI hkl,bPs,hf _ (List.getElem_mem hkl),bPs];cases hp:p s[k]with
   |true=>exact⟨_,rfl,by simp only;rw[oE hkl hI hp]⟩
   |false=>
    refine⟨_,rfl,rfl,fun x hx=>?_⟩
    rw[List.take_add_one,ze hkl,List.mem_append]at hx;rcases hx with hx|hx
    ·exact hI x hx
    ·simp at hx;rw[hx];exact hp)
 rw[hfl,bPs];cases fl with
 |brk s=>exact absurd hr (by simp)
 |ret r=>rw[pW,hr]
 |next s=>
  simp only[Nat.zero_add,List.length_range,List.take_length]at hr;rw[kg,hr.1,kV hr.2]
theorem deleteFunc_eq(l:Rows)(p:Rq->Bool)(f:Rq->Option Bool)(hf:∀x∈l,f x=some (p x))(hl:l.length<=1000000):ef l f=some (l.filter fun x=>!p x):=by
 unfold ef;rw[idxO l p f hf (by omega),bPs];simp only;rw[el trivial,bPs];by_cases hneg:br p l=-1
 ·rw[ld hneg,zc];congr 1
  symm
  rw[List.filter_eq_self];intro x hx
  have:decide (br p l>=0)=false:=by rw[hneg];rfl
  rw[jB]at this
  have:=List.any_eq_false.1 this x hx
  simpa using this
 ·rw[dm hneg,zd];have h0:0<=br p l:=by rcases idxOf_neg (p:=p) (l:=l)with h|h;exact absurd h hneg;exact h
  obtain⟨i,hi⟩:∃i:Nat,br p l=i:=⟨(br p l).toNat,by omega⟩
  have hil:i<l.length:=by have:=ta h0;omega
  have hpre:(l.take i).filter (fun x=>!p x)=l.take i:=by
   rw[List.filter_eq_self];intro x hx
   have:l.findIdx? p=some i:=by
    unfold br at hi;cases hq:l.findIdx? p with
    |none=>rw[hq]at hi;simp at hi
    |some j=>rw[hq]at hi;exact congrArg some (by have hi:(j:Int)=(i:Int):=hi;omega)
   obtain⟨_,_,hlt⟩:=List.findIdx?_eq_some_iff_getElem.1 this
   obtain⟨j,hj,rfl⟩:=List.mem_take_iff_getElem.1 hx
   simp[hlt j (by omega)]
  have hpi:p l[i]=true:=by
   obtain⟨x,hx,hp⟩:=ji h0
   rw[hi,Int.toNat_natCast,ze hil]at hx;cases hx;exact hp
  rw[hi,wW (n:=(i:Int)+1) (by omega) (by omega)]
  obtain⟨r,hr,hq⟩:=ij (step:=fun(s1:Rows×Int×Int)=>
   cond (decide (s1.2.2<(s1.1.length:Int)))
    (ae (aG s1.1 s1.2.2) fun(x24:Rq)=>ae (f x24) fun x28=>cond (!x28) (ae (aG s1.1 s1.2.1) fun(_:Rq)=>letP (s1.1.set s1.2.1.toNat x24) fun(y4:Rows)=>some (.next (y4,(iw (s1.2.1+(1:Int))),(iw (s1.2.2+(1:Int))))))
     (some (.next (s1.1,s1.2.1,(iw (s1.2.2+(1:Int)))))))
    (some (.brk (s1.1,s1.2.1,s1.2.2)))) (s:=(l,(i:Int),(i:Int)+1)) (k:=fun(s1:Rows×Int×Int)=>ae (nk s1.1 s1.2.1) fun(y5:Rows)=>ae (nk y5 s1.2.1) fun(y6:Rows)=>some y6) (R:=fun r=>r=l.filter fun x=>!p x)
   (fun s=>∃a j:Nat,s.2.1=a/\s.2.2=j/\a<j/\j<=l.length/\s.1.length=l.length/\s.1.take a=(l.take j).filter (fun x=>!p x)/\s.1.drop j=l.drop j) (fun s=>(l.length-s.2.2).toNat)
   (fun s=>∃a:Nat,s.2.1=a/\a<=s.1.length/\s.1.take a=l.filter fun x=>!p x)
   ⟨i,i+1,rfl,by show(i:Int)+1=((i+1:Nat):Int);omega,by omega,by omega,rfl,by
    show l.take i=_;rw[List.take_add_one,ze hil,List.filter_append,hpre];simp[hpi],rfl⟩
   (fun s hI=>by
    obtain⟨a,j,h1,h2,h3,h4,h5,h6,h7⟩:=hI
    obtain⟨d,s1,s2⟩:=s
    simp only at h1 h2 h5 h6 h7⊢;subst h1;subst h2;by_cases hlt:j<l.length
    ·rw[zt (show(j:Int)<(d.length:Int)from by omega),zc,fI (by omega),bPs]
     have hdj:d[j]? =l[j]?:=by
      have:=congrArg (fun q=>q[0]?) h7
      simpa using this
     have hdje:d[j]=l[j]:=by
      rw[ze (by omega),ze hlt]at hdj;exact Option.some.inj hdj
     have hdrop:∀e:Rows,e.drop j=l.drop j->e.drop (j+1)=l.drop (j+1):=fun e he=>by
      rw[<-List.drop_drop,<-List.drop_drop,he]
     rw[hdje,hf _ (List.getElem_mem hlt),bPs,wW (n:=(j:Int)+1) (by omega) (by omega),wW (n:=(a:Int)+1) (by omega) (by omega)];cases hp:p l[j]with
     |true=>
      refine⟨_,rfl,⟨a,j+1,rfl,by show(j:Int)+1=((j+1:Nat):Int);omega,by omega,by omega,h5,?_,hdrop d h7⟩,by show((l.length:Int)-((j:Int)+1)).toNat<((l.length:Int)-(j:Int)).toNat;omega⟩
      show d.take a=_;rw[h6,List.take_add_one,ze hlt,List.filter_append];simp[hp]
     |false=>
      simp only[Bool.not_false,zc];rw[fI (by omega),bPs,bV,Int.toNat_natCast]
      refine⟨_,rfl,⟨a+1,j+1,by show(a:Int)+1=((a+1:Nat):Int);omega,by show(j:Int)+1=((j+1:Nat):Int);omega,by omega,by omega,by show(d.set a l[j]).length=l.length;simp[h5],?_,?_⟩,by show((l.length:Int)-((j:Int)+1)).toNat<((l.length:Int)-(j:Int)).toNat;omega⟩
      ·show(d.set a l[j]).take (a+1)=_
       rw[List.take_add_one,List.getElem?_set_self (by omega),List.take_set_of_le (by omega),h6,List.take_add_one,ze hlt,List.filter_append];simp[hp]
      ·show(d.set a l[j]).drop (j+1)=_
       rw[List.drop_set_of_lt (by omega)];exact hdrop d h7
    ·rw[zf (show ¬(j:Int)<(d.length:Int)from by omega)]
     refine⟨_,rfl,a,rfl,by show a<=d.length;omega,?_⟩
     show d.take a=_;rw[h6,List.take_of_length_le (by omega)])
   (fun s hq=>by
    obtain⟨a,h1,h2,h3⟩:=hq
    rw[h1];unfold nk;rw[zp ⟨by omega,by simpa using h2⟩,bPs,Int.toNat_natCast,zp ⟨by omega,by simp;omega⟩,bPs,List.take_take,Nat.min_self]
    exact⟨_,rfl,h3⟩)
  rw[<-hq];exact hr
def ni:Rows->Rows->Rows
 |[],_=>[]
 |x::a,left=>if x∈left then ni a (left.erase x)else x::ni a left
theorem erase_idx{α:Type}[BEq α][LawfulBEq α][DecidableEq α]{l:List α}{x:α}{i:Nat}(h:l.findIdx? (fun y=>decide (x=y))=some i):l.take i++l.drop (i+1)=l.erase x:=by
 induction l generalizing i with
 |nil=>simp at h
 |cons a l ih=>
  rw[List.findIdx?_cons]at h;by_cases hx:x=a
  ·subst hx;simp at h;subst h;simp
  ·have e:decide (x=a)=false:=zf hx;rw[e]at h;simp only[Bool.false_eq_true,if_false,Option.map_eq_some_iff]at h
   obtain⟨j,hj,rfl⟩:=h
   have hne:(a==x)=false:=by simp;exact fun h=>hx h.symm
   rw[List.erase_cons,hne];simp[ih hj]
theorem less_run:∀(a:Rows) (j:Nat) (left out:Rows),left.length<=1000000->out.length+a.length<=1000000->
  aU (σ:=Rows×Rows) (ρ:=Empty) (fun(_:Nat) (x1:Rq) (s1:Rows×Rows)=>
  ae (cr s1.1 (fun a0=>km a0 x1)) fun x20=>
  ae (cF (x20.2.length=s1.1.length) ()) fun(_:Unit)=>
  cond (decide (x20.1>=(0:Int)))
   (ae (nN x20.2 x20.1 (iw (x20.1+(1:Int)))) fun x27=>
   some (.next (x27,s1.2)))
   (ae (dq 24 s1.2 ([x1]:Rz)) fun(x31:Rz)=>
   some (.next (x20.2,x31)))) j a (left,out)=some (.next ((a.foldl (fun l x=>l.erase x) left),out++ni a left))
 |[],j,left,out,_,_=>by simp[aU,ni]
 |x::a,j,left,out,hl,ho=>by
  rw[aU,idxO left (fun y=>decide (x=y)) _ (fun y _=>by unfold km;rw[equalRow];rfl) (by omega),bPs];simp only;rw[el trivial,bPs,ni,List.foldl_cons];by_cases hx:x∈left
  ·have hany:decide (br (fun y=>decide (x=y)) left>=0)=true:=by rw[jB,List.any_eq_true];exact⟨x,hx,by simp⟩
   rw[hany,zc,zp hx];have h0:=of_decide_eq_true hany;unfold br at h0⊢;cases hq:left.findIdx? (fun y=>decide (x=y))with
   |none=>rw[hq]at h0;simp at h0
   |some i=>
    have hil:=(List.findIdx?_eq_some_iff_getElem.1 hq).1;simp only;rw[wW (by omega) (by omega)]
    have hd:nN left (i:Int) ((i:Int)+1)=some (left.erase x):=by
     unfold nN;rw[zp ⟨by omega,by omega,by omega⟩,show((i:Int)).toNat=i from Z,show((i:Int)+1).toNat=i+1 from by omega,erase_idx hq]
    rw[hd,bPs];exact less_run a (j+1) (left.erase x) out (by have:=List.length_erase_le (a:=x) (l:=left);omega) (by simp at ho;omega)
  ·have hany:decide (br (fun y=>decide (x=y)) left>=0)=false:=by
    rw[jB,List.any_eq_false];intro y hy he
    have:x=y:=by simpa using he
    exact hx (this▸hy)
   rw[hany,zd,zy hx,cd (by decide) (by simp at ho⊢;omega),bPs];simp only;rw[less_run a (j+1) left _ hl (by simp at ho⊢;omega),List.erase_of_not_mem hx];simp
theorem less_eq(a b:Rows)(ha:a.length<=1000000)(hb:b.length<=1000000):mB a b=some (ni a b):=by
 unfold mB;rw[less_run a 0 b [] hb (by simpa using ha),bPs,dl];rfl
theorem tC:∀(a b:Rows),(ni a b).Sublist a
 |[],_=>by simp[ni]
 |x::a,b=>by
  rw[ni];split
  ·exact(tC a _).cons x
  ·exact(tC a b).cons_cons x
theorem concat2(x y:Rq)(hx:x.length<=1000000)(hy:y.length<=1000000):cB [x,y]=some (x++y):=by
 unfold cB;simp only[aU,Int.zero_add];rw[wW (n:=(x.length:Int)) (by omega) (by omega),zf (show ¬(x.length:Int)<0 from by omega)];simp only[zd];rw[wW (n:=(x.length:Int)+(y.length:Int)) (by omega) (by omega),zf (show ¬(x.length:Int)+(y.length:Int)<0 from by omega)];simp only[zd,bPs,dl];rw[growI_ok ⟨by omega,by omega,by unfold maxLen;omega⟩,bPs,cd (by decide) (by simp;omega),bPs];simp only[List.nil_append];rw[cd (by decide) (by omega)];rfl
def ju(f:Rq->Bool)(x:Rq)(b:Rows):Rows:=(b.map fun y=>x++y).filter f
def padR(f:Rq->Bool)(left:Bool)(pad x:Rq)(b:Rows):Rows:=if left=true/\ju f x b=[]then [x++pad]else ju f x b
def lM(f:Rq->Bool)(left:Bool)(pad:Rq)(a b:Rows):Rows:=(a.map fun x=>padR f left pad x b).flatten
theorem match_run(f:Rq->Bool)(e:LExpr)(r:LRun)(cols:List LCol)(ex:List LExpr)(he:aG ex 0=some e)(hf:∀z,lu (et (bY r cols z) e)=f z)(x:Rq)(hx:x.length<=1000)
  (b:Rows) (out:Rows) (found:Bool) (hb:∀y∈b,y.length<=1000) (ho:out.length+b.length<=1000000):
  aU (σ:=Rows×Bool) (ρ:=Empty) (fun(_:Nat) (x6:Rq) (s6:Rows×Bool)=>
   ae (cB ([x,x6]:Rows)) fun x58=>
   ae (aG ex 0) fun(x65:LExpr)=>
   letP (bY r cols x58) fun x62=>
   letP (et x62 x65) fun x67=>
   letP (lu x67) fun x68=>
   cond x68
    (ae (dq 24 s6.1 ([x58]:Rows)) fun(x72:Rows)=>some (.next (x72,true)))
    (some (.next (s6.1,s6.2)))) 0 b (out,found)=some (.next (out++ju f x b,found|| !(ju f x b).isEmpty)):=by
 rw[rMa (xs:=b) (s:=(out,found)) (fun k=>(out++ju f x (b.take k),found|| !(ju f x (b.take k)).isEmpty)) (by simp[ju]) (fun k y hk=>by
  have hkl:=(zg.1 hk).1;have hm:(ju f x (b.take k)).length<=k:=by unfold ju;exact Nat.le_trans (List.length_filter_le _ _) (by simp;omega)
  have hs:ju f x (b.take (k+1))=ju f x (b.take k)++if f (x++y)then [x++y]else []:=by
   unfold ju;rw[List.take_add_one,hk,List.map_append,List.filter_append];cases h:f (x++y)<;>simp[h]
  rw[concat2 x y (by omega) (by have:=hb y (ek hk);omega),bPs,he,bPs,hs];simp only[bV,hf];cases hz:f (x++y)with
  |true=>
   rw[zc,cd (by decide) (by simp;omega),bPs];simp
  |false=>simp),List.take_length]
theorem padR_len(f:Rq->Bool)(left:Bool)(pad x:Rq)(b:Rows):(padR f left pad x b).length<=max 1 b.length:=by
 unfold padR;split
 ·simp;omega
 ·have:(ju f x b).length<=b.length:=by
   unfold ju;exact Nat.le_trans (List.length_filter_le _ _) (by simp)
  omega
theorem tI(f:Rq->Bool)(left:Bool)(pad:Rq)(a b:Rows):(lM f left pad a b).length<=a.length*max 1 b.length:=by
 unfold lM;induction a with
 |nil=>simp
 |cons x a ih=>
  have:=padR_len f left pad x b
  simp only[List.map_cons,List.flatten_cons,List.length_append,List.length_cons,Nat.add_mul,Nat.one_mul];omega
def fW(key:Rq->Rq):Rows->Rows->Rows
 |ks,[]=>ks
 |ks,x::l=>fW key (if key x∈ks then ks else ks++[key x]) l
theorem keysF_app(key:Rq->Rq):∀(l l' ks:Rows),fW key ks (l++l')=fW key (fW key ks l) l'
 |[],_,_=>rfl
 |x::l,l',ks=>by rw[List.cons_append,fW,keysF_app key l l',fW]
theorem uB(key:Rq->Rq):∀(l ks:Rows),ks.Nodup->(fW key ks l).Nodup
 |[],_,h=>h
 |x::l,ks,h=>by
  rw[fW];refine uB key l _ ?_;split
  ·exact h
  ·rename_i hx;rw[List.nodup_append]
   exact⟨h,by simp,fun a ha b hb hab=>by simp at hb;exact hx (hb▸hab▸ha)⟩
theorem qU(key:Rq->Rq):∀(l ks:Rows) (k:Rq),k∈fW key ks l↔k∈ks\/∃x∈l,key x=k
 |[],ks,k=>by simp[fW]
 |x::l,ks,k=>by
  rw[fW,qU key l];split
  ·rename_i h;constructor
   ·rintro(h1|⟨y,hy,e⟩)
    ·exact .inl h1
    ·exact .inr ⟨y,by simp[hy],e⟩
   ·rintro(h1|⟨y,hy,e⟩)
    ·exact .inl h1
    ·rcases List.mem_cons.1 hy with rfl|hy
     ·exact .inl (e▸h)
     ·exact .inr ⟨y,hy,e⟩
  ·constructor
   ·rintro(h1|⟨y,hy,e⟩)
    ·rcases List.mem_append.1 h1 with h1|h1
     ·exact .inl h1
     ·exact .inr ⟨x,by simp,by simp at h1;exact h1.symm⟩
    ·exact .inr ⟨y,by simp[hy],e⟩
   ·rintro(h1|⟨y,hy,e⟩)
    ·exact .inl (by simp[h1])
    ·rcases List.mem_cons.1 hy with rfl|hy
     ·exact .inl (by simp[e])
     ·exact .inr ⟨y,hy,e⟩
theorem qN(key:Rq->Rq):∀(l ks:Rows),(fW key ks l).length<=ks.length+l.length
 |[],_=>by simp[fW]
 |x::l,ks=>by
  rw[fW]
  have:=qN key l (if key x∈ks then ks else ks++[key x])
  split at this
  ·rename_i h;rw[zp h];simp;omega
  ·rename_i h;rw[zy h];simp at this⊢;omega
def gH(key:Rq->Rq)(l:Rows)(k:Rq):Rows:=l.filter fun x=>decide (key x=k)
theorem group_run(key:Rq->Rq)(q:LQuery)(r:LRun)(cols:List LCol)(hk:∀x,eB r cols x q.exprs=some (key x))(ks0:Rows)(hn:ks0.Nodup)(l:Rows)(hl:l.length<=1000000)(hks:ks0.length<=1):
  aU (σ:=Rows×List Rows) (ρ:=Empty) (fun(_:Nat) (x2:Rq) (s2:Rows×List Rows)=>
  ae (eB r cols x2 q.exprs) fun x38=>
  ae (cr s2.1 (fun a0=>ip a0 x38)) fun x41=>
  ae (cF (x41.2.length=s2.1.length) ()) fun(_:Unit)=>
  ae (
   cond (decide (x41.1<(0:Int)))
    (ae (dq 24 x41.2 ([x38]:Rows)) fun(x49:Rows)=>
    ae (dq 24 s2.2 ([[]]:List Rows)) fun(x52:List Rows)=>
    some (x49,x52,(x41.2.length:Int)))
    (some (x41.2,s2.2,x41.1))) fun(t7:Rows×List Rows×Int)=>
  ae (aG t7.2.1 t7.2.2) fun(x57:Rows)=>
  ae (dq 24 x57 ([x2]:Rows)) fun(x61:Rows)=>
  ae (aG t7.2.1 t7.2.2) fun(_:Rows)=>
  letP (t7.2.1.set t7.2.2.toNat x61) fun(y8:List Rows)=>
  some (.next (t7.1,y8))) 0 l (ks0,ks0.map fun _=>[])=some (.next (fW key ks0 l,(fW key ks0 l).map (gH key l))):=by
 rw[rMa (xs:=l) (s:=(ks0,ks0.map fun _=>[])) (fun k=>(fW key ks0 (l.take k),(fW key ks0 (l.take k)).map (gH key (l.take k)))) (by
  show(ks0,ks0.map (gH key []))=_
  congr 1) (fun k x hkx=>by
   have hkl:=(zg.1 hkx).1;have hlen:=qN key (l.take k) ks0;have hlen2:(fW key ks0 (l.take k)).length<=1+k:=by simp at hlen;omega
   have hnd:=uB key (l.take k) ks0 hn;have hmem:∀y∈l.take k,key y∈fW key ks0 (l.take k):=fun y hy=>(qU key _ _ _).2 (.inr ⟨y,hy,rfl⟩)
   have hsucc:l.take (k+1)=l.take k++[x]:=by rw[List.take_add_one,hkx];rfl
   rw[hsucc,keysF_app];generalize hK:fW key ks0 (l.take k)=K at*
   have hgl:∀kk,(gH key (l.take k) kk).length<=k:=fun kk=>by
    unfold gH;exact Nat.le_trans (List.length_filter_le _ _) (by simp;omega)
   rw[hk x,bPs,idxO K (fun y=>decide (key x=y)) _ (fun y _=>by unfold ip;rw[equalRow];rfl) (by omega),bPs];simp only;rw[el trivial,bPs]
   have hg:∀kk,gH key (l.take k++[x]) kk=gH key (l.take k) kk++if key x=kk then [x]else []:=fun kk=>by
    unfold gH;rw[List.filter_append];congr 1;by_cases h:key x=kk<;>simp[h]
   by_cases hx:key x∈K
   ·have hany:decide (br (fun y=>decide (key x=y)) K<0)=false:=by
     have:decide (br (fun y=>decide (key x=y)) K>=0)=true:=by rw[jB,List.any_eq_true];exact⟨_,hx,by simp⟩
     have:=of_decide_eq_true this
     exact zf (by omega)
    have h0:0<=br (fun y=>decide (key x=y)) K:=by have:=of_decide_eq_false hany;omega
    obtain⟨i,hi⟩:∃i:Nat,br (fun y=>decide (key x=y)) K=i:=⟨(br (fun y=>decide (key x=y)) K).toNat,by omega⟩
    obtain⟨z,hz,hzk⟩:=ji h0
    rw[hi,Int.toNat_natCast]at hz;have hzk:key x=z:=by simpa using hzk
    subst hzk;have hiK:=(zg.1 hz).1;rw[hany,zd,bPs,hi];simp only;have hgi:(K.map (gH key (l.take k)))[i]? =some (gH key (l.take k) (key x)):=by rw[List.getElem?_map,hz];rfl
    rw[jw hgi,bPs,cd (by decide) (by have:=hgl (key x);simp;omega),bPs,bPs,bV,Int.toNat_natCast];congr 3
    ·simp[fW,hx]
    ·have hkk:fW key K [x]=K:=by simp[fW,hx]
     rw[hkk];apply List.ext_getElem?;intro j;rw[List.getElem?_set,List.getElem?_map];by_cases hij:i=j
     ·subst hij;rw[zp Z,zp (by simpa using hiK),List.getElem?_map,hz,Option.map_some,hg,zp Z]
     ·rw[zy hij,List.getElem?_map];cases hj:K[j]? with
      |none=>rfl
      |some w=>
       simp only[Option.map_some]
       have hne:key x≠w:=fun he=>by
        subst he;have hjK:=(zg.1 hj).1;rw[List.nodup_iff_pairwise_ne,List.pairwise_iff_getElem]at hnd;have e1:=(zg.1 hz).2;have e2:=(zg.1 hj).2;rcases Nat.lt_or_gt_of_ne hij with h|h
        ·exact hnd i j hiK hjK h (by rw[e1,e2])
        ·exact hnd j i hjK hiK h (by rw[e1,e2])
       rw[hg,zy hne,List.append_nil]
   ·have hany:decide (br (fun y=>decide (key x=y)) K<0)=true:=by
     have:decide (br (fun y=>decide (key x=y)) K>=0)=false:=by
      rw[jB,List.any_eq_false];intro y hy he
      have:key x=y:=by simpa using he
      exact hx (this▸hy)
     have:=of_decide_eq_false this
     exact zt (by omega)
    rw[hany,zc,cd (by decide) (by simp;omega),bPs,cd (by decide) (by simp;omega),bPs,bPs];simp only
    have hgi:(K.map (gH key (l.take k))++[[]])[K.length]? =some []:=by
     rw[List.getElem?_append_right (by simp),zl,Nat.sub_self];rfl
    rw[jw hgi,bPs,cd (by decide) (by simp),bPs,bPs,bV,Int.toNat_natCast];have hkk:fW key K [x]=K++[key x]:=by simp[fW,hx]
    rw[hkk];congr 3
    have hold:gH key (l.take k) (key x)=[]:=by
     unfold gH;rw[List.filter_eq_nil_iff];intro y hy he
     have:key y=key x:=by simpa using he
     exact hx (this▸hmem y hy)
    rw[List.map_append,List.set_append_right _ _ (by simp),zl,Nat.sub_self];congr 1
    ·apply List.map_congr_left;intro w hw;have hne:key x≠w:=fun he=>hx (he▸hw)
     rw[hg,zy hne,List.append_nil]
    ·simp[hg,hold])]
 rw[List.take_length]
def rH(op:Rb)(s:Int×LVal)(v:LVal):Int×LVal:=(iw (s.1+v.int),if(op=sMin/\ng v s.2=true)\/(op=sMax/\ng s.2 v=true)then v else s.2)
def computeQ(op:Rb)(l:Rq):LVal:=
 if op=lW then kd l.length else match l with
  |[]=>.nul
  |v::_=>if op=sSum then kd (l.foldl (rH op) (0,v)).1 else(l.foldl (rH op) (0,v)).2
theorem compute_eq(op:Rb)(l:Rq):gM op l=some (computeQ op l):=by
 unfold gM computeQ;by_cases h1:op=lW
 ·subst h1;rfl
 ·have e1:(op==([99,111,117,110,116]:Rb))=false:=by simpa using h1
  rw[e1,zd,zy h1];cases l with
  |nil=>rfl
  |cons v l=>
   have e2:(((v::l).length:Int)==0)=false:=dm (by simp;omega);rw[e2,zd];have e3:aG (v::l) 0=some v:=rfl;rw[e3,bPs]
   rw[rangeM_fold (xs:=v::l) (rH op) (fun k x _=>by
    generalize(((v::l).take k).foldl (rH op) (0,v))=s
    unfold rH;by_cases m:op=sMin
    ·subst m;simp only[bV];cases ng x s.2<;>simp
    ·have em:(op==([109,105,110]:Rb))=false:=by simpa using m
     rw[em,zd];by_cases n:op=sMax
     ·subst n;simp only[bV];cases ng s.2 x<;>simp
     ·have en:(op==([109,97,120]:Rb))=false:=by simpa using n
      rw[en,zd];simp[m,n]),bPs,dl]
   by_cases h2:op=sSum
   ·subst h2;rfl
   ·have e4:(op==([115,117,109]:Rb))=false:=by simpa using h2
    rw[e4,zd];simp only;rw[zy h2]
def aggR(r:LRun)(cols:List LCol)(a:LAggregateCall)(l:Rows):LVal:=match a.args with
 |[]=>kd l.length
 |e::_=>computeQ a.function ((l.map fun x=>et (bY r cols x) e).filter fun v=>v.kind !=0)
theorem aggR_eq(r:LRun)(cols:List LCol)(a:LAggregateCall)(l:Rows)(hl:l.length<=1000000):kU r a cols l=some (aggR r cols a l):=by
 unfold kU aggR;cases ha:a.args with
 |nil=>rfl
 |cons e es=>
  have e2:(((e::es).length:Int)==0)=false:=dm (by simp;omega);rw[e2,zd]
  rw[rMa (xs:=l) (s:=[]) (fun k=>((l.take k).map fun x=>et (bY r cols x) e).filter fun v=>v.kind !=0) Z (fun k x hk=>by
   have hkl:=(zg.1 hk).1;have e3:aG (e::es) 0=some e:=rfl;rw[e3];simp only[bPs,bV];have hb:(((l.take k).map fun x=>et (bY r cols x) e).filter fun v=>v.kind !=0).length<=k:=Nat.le_trans (List.length_filter_le _ _) (by simp;omega);rw[List.take_add_one,hk,List.map_append,List.filter_append];cases hv:(et (bY r cols x) e).kind !=0 with
   |true=>
    rw[zc,cd (by decide) (by simp at hb⊢;omega),bPs];simp[hv]
   |false=>simp[hv]),bPs,dl,List.take_length,compute_eq]
  rfl
def pr(r:LRun)(cols:List LCol)(q:LQuery)(l:Rows):Rows:=
 (fW (fun x=>q.exprs.map fun e=>et (bY r cols x) e) (if q.exprs=[]then [[]]else []) l).map fun k=>
  k++q.aggregates.map fun a=>aggR r cols a (gH (fun x=>q.exprs.map fun e=>et (bY r cols x) e) l k)
theorem group_eq(r:LRun)(cols:List LCol)(q:LQuery)(l:Rows)(hl:l.length<=999999)(he:q.exprs.length<=1000000)(ha:q.aggregates.length<=1000000):jX r q cols l=some (pr r cols q l):=by
 unfold jX pr;generalize hkey:(fun x=>q.exprs.map fun e=>et (bY r cols x) e)=key;have hk:∀x,eB r cols x q.exprs=some (key x):=fun x=>by rw[sE r cols x q.exprs (by omega),<-hkey]
 have hinit:(cond ((q.exprs.length:Int)==(0:Int)) (([[]],[[]])) (([],[])):Rows×List Rows)=((if q.exprs=[]then [[]]else []),((if q.exprs=[]then [[]]else []):Rows).map fun _=>[]):=by
  cases q.exprs with
  |nil=>rfl
  |cons e es=>rw[show(((e::es).length:Int)==0)=false from dm (by simp;omega)];rfl
 rw[bV,hinit];generalize hks:(if q.exprs=[]then [[]]else []:Rows)=ks0;have hks1:ks0.length<=1:=by rw[<-hks];split<;>simp
 have hks2:ks0.Nodup:=by rw[<-hks];split<;>simp
 rw[group_run key q r cols hk ks0 hks2 l (by omega) hks1,bPs,dl];generalize hK:fW key ks0 l=K;have hKl:K.length<=1000000:=by rw[<-hK];have:=qN key l ks0;omega
 simp only;rw[el (by rw[zl];omega),bPs,pw (by omega),bPs,Int.toNat_natCast]
 have hgl:∀kk,(gH key l kk).length<=1000000:=fun kk=>by
  unfold gH;exact Nat.le_trans (List.length_filter_le _ _) (by omega)
 have hkl:∀k∈K,k.length<=1000000:=fun k hkm=>by
  rw[<-hK]at hkm
  rcases(qU key l ks0 k).1 hkm with h|⟨x,_,rfl⟩
  ·rw[<-hks]at h;split at h
   ·simp at h;subst h;simp
   ·simp at h
  ·rw[<-hkey];simpa using he
 rw[rMa (xs:=List.range K.length) (s:=[]) (fun j=>(K.take j).map fun k=>k++q.aggregates.map fun a=>aggR r cols a (gH key l k)) Z (fun j n hj=>by
  obtain⟨hjl,hjn⟩:=zg.1 hj
  simp at hjl;rw[fI hjl,bPs];have hg:(K.map (gH key l))[j]? =some (gH key l K[j]):=by rw[List.getElem?_map,ze hjl];rfl
  rw[rMa (xs:=q.aggregates) (s:=K[j]) (fun i=>K[j]++(q.aggregates.take i).map fun a=>aggR r cols a (gH key l K[j])) (by simp) (fun i a hi=>by
   have hil:=(zg.1 hi).1;have hkj:=hkl K[j] (List.getElem_mem hjl);rw[jw hg,bPs,aggR_eq r cols a _ (hgl _),bPs,cd (by decide) (by simp;omega),bPs,List.take_add_one,hi];simp),bPs,dl,cd (by decide) (by simp;omega),bPs,List.take_length]
  congr 2;rw[List.take_add_one,ze hjl,List.map_append];rfl),bPs,dl]
 simp
def SizeOk(q:LQuery):Prop:=(dz q).length<=24/\ku q<=12/\(ck q).2<=20000
instance(q:LQuery):Decidable (SizeOk q):=by unfold SizeOk;infer_instance
theorem check_eq{s:LSchema}{vars:List LCol}{q:LQuery}(h:SmallQ q):∃cs e,ir s vars q=some (cs,e)/\(e=0↔SizeOk q/\rQ (mR q)/\(gK ⟨s,vars⟩ q).2=0)/\(e=0->cs=(gK ⟨s,vars⟩ q).1):=by
 unfold ir;rw[nodes_ok q h.nodes,bPs];by_cases h1:(dz q).length<=24
 ·rw[zf (show ¬((dz q).length:Int)>24 from by omega),zd,depth_ok q h.nodes,bPs];by_cases h2:ku q<=12
  ·rw[zf (show ¬ku q>12 from by omega),zd];unfold ik;rw[most_ok,bPs,bPs];by_cases h3:(ck q).2<=20000
   ·rw[zf (show ¬(ck q).2>20000 from by omega),bPs,zd,kinds_ok h.nodes,bPs];cases hb:(eU q).2.1 with
    |true=>
     refine⟨[],13,rfl,⟨fun h=>by omega,fun hh=>?_⟩,fun h=>by omega⟩
     rw[kinds_bad.2 hh.2.1]at hb;cases hb
    |false=>
     have hk:=kinds_bad.1 hb;simp only[zd];rw[cols_ok _ q h]
     refine⟨(gK ⟨s,vars⟩ q).1,(gK ⟨s,vars⟩ q).2,rfl,⟨fun h0=>⟨⟨h1,h2,h3⟩,hk,h0⟩,fun hh=>hh.2.2⟩,fun _=>rfl⟩
   ·rw[zt (show(ck q).2>20000 from by omega)]
    exact⟨[],2,rfl,⟨fun h=>by omega,fun hh=>absurd hh.1.2.2 h3⟩,fun h=>by omega⟩
  ·rw[zt (show ku q>12 from by omega)]
   exact⟨[],2,rfl,⟨fun h=>by omega,fun hh=>absurd hh.1.2.1 h2⟩,fun h=>by omega⟩
 ·rw[zt (show((dz q).length:Int)>24 from by omega)]
  exact⟨[],2,rfl,⟨fun h=>by omega,fun hh=>absurd hh.1.1 h1⟩,fun h=>by omega⟩
structure TinyQ(q:LQuery):Prop where
 nodes:(dz q).length<=2000000
 here:∀x∈dz q,x.exprs.length<=1000000/\x.aggregates.length<=1000000
theorem TinyQ.small{q:LQuery}(h:TinyQ q):SmallQ q:=⟨by have:=h.nodes;omega,h.here⟩
theorem tE{H:Type}:∀ds:List (DataW H),(ds.map (fun d=>Rows.uptoBulk d)).sum=Rows.uptoBulkAll ds
 |[]=>by simp[Rows.uptoBulkAll]
 |d::ds=>by simp only[List.map_cons,List.sum_cons,Rows.uptoBulkAll,tE ds]
theorem bulk_is:IsBulk (fun _ d=>Rows.uptoBulk d) where
 one:=by
  intro H d;cases d with
  |lit l=>cases l<;>simp[Rows.uptoBulk]
  |nil=>simp[Rows.uptoBulk]
  |ptr d=>simp[Rows.uptoBulk]
  |slice elems spare=>simp[Rows.uptoBulk]
  |agg parts=>simp[Rows.uptoBulk]
  |iface t d=>simp[Rows.uptoBulk]
  |map entries=>simp[Rows.uptoBulk]
  |held h=>simp[Rows.uptoBulk]
 str:=by intro H l;simp[Rows.uptoBulk]
 slice:=by intro H a b;rw[tE];simp only[Rows.uptoBulk];omega
 agg:=by intro H a;rw[tE];simp only[Rows.uptoBulk];omega
theorem lq{r:List PV}:∀{rs:List (List PV)},r∈rs->bT r<=ic rs
 |x::rs,h=>by
  simp only[ic];rcases List.mem_cons.1 h with rfl|h
  ·omega
  ·have:=lq h;omega
theorem mr{α:Type}{f:α->List PV}{k:Nat}(hf:∀x,k<=bT (f x)):∀l:List α,k*l.length<=ic (l.map f)
 |[]=>by simp
 |x::l=>by
  have:=mr hf l
  have:=hf x
  simp only[List.map_cons,ic,List.length_cons,Nat.mul_add];omega
theorem expr_pos(e:LExpr):2<=bT (fJ e):=by
 cases e;simp only[fJ,bT,PV.bulk];omega
theorem call_pos(c:LAggregateCall):2<=bT (oW c):=by
 simp only[oW,bT,PV.bulk];omega
theorem smallS_bulk{s:LSchema}{n:Nat}(hn:n<=10000000)(h:bT (da s)<=n):SmallS s:=by
 intro t ht
 have h1:ic (s.tables.map bM)<=bT (da s):=by
  simp only[da,bT,PV.bulk];omega
 have h2:=lq (List.mem_map_of_mem (f:=bM) ht)
 have h3:ic (t.primaryKey.map cq)<=bT (bM t):=by
  simp only[bM,bT,PV.bulk];omega
 have h4:=mr (f:=cq) (k:=1) (fun x=>by simp[bT,PV.bulk]) t.primaryKey;omega
theorem nodes_bulk:∀q:LQuery,(dz q).length+1<=bT (dI q)/\∀x∈dz q,2*x.exprs.length<=bT (dI q)/\2*x.aggregates.length<=bT (dI q):=by
 apply LQuery.ind;intro q ih;have e:bT (dI q)=bT (bg q):=by rw[dd]
 have hr:ic (q.inputs.map dI)+8<=bT (bg q):=by
  simp only[bg,bT,PV.bulk];omega
 have hsum:∀l:List LQuery,(∀x∈l,x∈q.inputs)->((l.map dz).flatten).length+l.length<=ic (l.map dI):=by
  intro l;induction l with
  |nil=>intro _;simp
  |cons x l ihl=>
   intro hm;have h1:=(ih x (hm x (by simp))).1;have h2:=ihl (fun y hy=>hm y (by simp[hy]));simp only[List.map_cons,List.flatten_cons,List.length_append,List.length_cons,ic];omega
 have h0:=hsum q.inputs (fun _ h=>h);rw[e]
 refine⟨?_,fun x hx=>?_⟩
 ·rw[kS];simp only[List.length_cons];omega
 ·rw[kS]at hx;rcases List.mem_cons.1 hx with rfl|hx
  ·have h1:=mr expr_pos x.exprs;have h2:=mr call_pos x.aggregates;constructor
   ·simp only[bg,bT,PV.bulk];omega
   ·simp only[bg,bT,PV.bulk];omega
  ·simp only[List.mem_flatten,List.mem_map]at hx
   obtain⟨l,⟨y,hy,rfl⟩,hx⟩:=hx
   have h1:=(ih y hy).2 x hx;have h2:=lq (List.mem_map_of_mem (f:=dI) hy);omega
theorem tiny_bulk{q:LQuery}{n:Nat}(hn:n<=1048576)(h:bT (bg q)<=n):TinyQ q:=by
 rw[<-dd]at h
 have:=nodes_bulk q
 exact⟨by omega,fun x hx=>by have:=this.2 x hx;omega⟩
theorem idxOC(l:(List LCol))(p:LCol->Bool)(f:LCol->Option Bool)(hf:∀x∈l,f x=some (p x))(hl:l.length<=10000000):dv l f=some (br p l,l):=by
 unfold dv;rw[pw (by omega),bPs,Int.toNat_natCast]
 obtain⟨fl,hfl,hr⟩:=gv (step:=fun(j1:Nat) (_:Nat) (s1:(List LCol))=>ae (aG s1 (j1:Int)) fun(x14:LCol)=>ae (f x14) fun x16=>cond x16 (some (Flow.ret ((j1:Int),s1))) (some (.next s1)))
  (fun j s=>s=l/\∀x∈l.take j,p x=false) (fun r=>r=(br p l,l)) (List.range l.length) 0 l ⟨rfl,by simp⟩ (fun k v s hk hI=>by
   simp only[Nat.zero_add]at hI⊢;have hkl:=(zg.1 hk).1;simp at hkl
   obtain⟨rfl,hI⟩:=hI
   rw[fI hkl,bPs,hf _ (List.getElem_mem hkl),bPs];cases hp:p s[k]with
   |true=>exact⟨_,rfl,by simp only;rw[oE hkl hI hp]⟩
   |false=>
    refine⟨_,rfl,rfl,fun x hx=>?_⟩
    rw[List.take_add_one,ze hkl,List.mem_append]at hx;rcases hx with hx|hx
    ·exact hI x hx
    ·simp at hx;rw[hx];exact hp)
 rw[hfl,bPs];cases fl with
 |brk s=>exact absurd hr (by simp)
 |ret r=>rw[pW,hr]
 |next s=>
  simp only[Nat.zero_add,List.length_range,List.take_length]at hr;rw[kg,hr.1,kV hr.2]
theorem deleteCol_eq(l:(List LCol))(p:LCol->Bool)(f:LCol->Option Bool)(hf:∀x∈l,f x=some (p x))(hl:l.length<=1000000):dB l f=some (l.filter fun x=>!p x):=by
 unfold dB;rw[idxOC l p f hf (by omega),bPs];simp only;rw[el trivial,bPs];by_cases hneg:br p l=-1
 ·rw[ld hneg,zc];congr 1
  symm
  rw[List.filter_eq_self];intro x hx
  have:decide (br p l>=0)=false:=by rw[hneg];rfl
  rw[jB]at this
  have:=List.any_eq_false.1 this x hx
  simpa using this
 ·rw[dm hneg,zd];have h0:0<=br p l:=by rcases idxOf_neg (p:=p) (l:=l)with h|h;exact absurd h hneg;exact h
  obtain⟨i,hi⟩:∃i:Nat,br p l=i:=⟨(br p l).toNat,by omega⟩
  have hil:i<l.length:=by have:=ta h0;omega
  have hpre:(l.take i).filter (fun x=>!p x)=l.take i:=by
   rw[List.filter_eq_self];intro x hx
   have:l.findIdx? p=some i:=by
    unfold br at hi;cases hq:l.findIdx? p with
    |none=>rw[hq]at hi;simp at hi
    |some j=>rw[hq]at hi;exact congrArg some (by have hi:(j:Int)=(i:Int):=hi;omega)
   obtain⟨_,_,hlt⟩:=List.findIdx?_eq_some_iff_getElem.1 this
   obtain⟨j,hj,rfl⟩:=List.mem_take_iff_getElem.1 hx
   simp[hlt j (by omega)]
  have hpi:p l[i]=true:=by
   obtain⟨x,hx,hp⟩:=ji h0
   rw[hi,Int.toNat_natCast,ze hil]at hx;cases hx;exact hp
  rw[hi,wW (n:=(i:Int)+1) (by omega) (by omega)]
  obtain⟨r,hr,hq⟩:=ij (step:=fun(s1:(List LCol)×Int×Int)=>
   cond (decide (s1.2.2<(s1.1.length:Int)))
    (ae (aG s1.1 s1.2.2) fun(x24:LCol)=>ae (f x24) fun x28=>cond (!x28) (ae (aG s1.1 s1.2.1) fun(_:LCol)=>letP (s1.1.set s1.2.1.toNat x24) fun(y4:(List LCol))=>some (.next (y4,(iw (s1.2.1+(1:Int))),(iw (s1.2.2+(1:Int))))))
     (some (.next (s1.1,s1.2.1,(iw (s1.2.2+(1:Int)))))))
    (some (.brk (s1.1,s1.2.1,s1.2.2)))) (s:=(l,(i:Int),(i:Int)+1)) (k:=fun(s1:(List LCol)×Int×Int)=>ae (nk s1.1 s1.2.1) fun(y5:(List LCol))=>ae (nk y5 s1.2.1) fun(y6:(List LCol))=>some y6) (R:=fun r=>r=l.filter fun x=>!p x)
   (fun s=>∃a j:Nat,s.2.1=a/\s.2.2=j/\a<j/\j<=l.length/\s.1.length=l.length/\s.1.take a=(l.take j).filter (fun x=>!p x)/\s.1.drop j=l.drop j) (fun s=>(l.length-s.2.2).toNat)
   (fun s=>∃a:Nat,s.2.1=a/\a<=s.1.length/\s.1.take a=l.filter fun x=>!p x)
   ⟨i,i+1,rfl,by show(i:Int)+1=((i+1:Nat):Int);omega,by omega,by omega,rfl,by
    show l.take i=_;rw[List.take_add_one,ze hil,List.filter_append,hpre];simp[hpi],rfl⟩
   (fun s hI=>by
    obtain⟨a,j,h1,h2,h3,h4,h5,h6,h7⟩:=hI
    obtain⟨d,s1,s2⟩:=s
    simp only at h1 h2 h5 h6 h7⊢;subst h1;subst h2;by_cases hlt:j<l.length
    ·rw[zt (show(j:Int)<(d.length:Int)from by omega),zc,fI (by omega),bPs]
     have hdj:d[j]? =l[j]?:=by
      have:=congrArg (fun q=>q[0]?) h7
      simpa using this
     have hdje:d[j]=l[j]:=by
      rw[ze (by omega),ze hlt]at hdj;exact Option.some.inj hdj
     have hdrop:∀e:(List LCol),e.drop j=l.drop j->e.drop (j+1)=l.drop (j+1):=fun e he=>by
      rw[<-List.drop_drop,<-List.drop_drop,he]
     rw[hdje,hf _ (List.getElem_mem hlt),bPs,wW (n:=(j:Int)+1) (by omega) (by omega),wW (n:=(a:Int)+1) (by omega) (by omega)];cases hp:p l[j]with
     |true=>
      refine⟨_,rfl,⟨a,j+1,rfl,by show(j:Int)+1=((j+1:Nat):Int);omega,by omega,by omega,h5,?_,hdrop d h7⟩,by show((l.length:Int)-((j:Int)+1)).toNat<((l.length:Int)-(j:Int)).toNat;omega⟩
      show d.take a=_;rw[h6,List.take_add_one,ze hlt,List.filter_append];simp[hp]
     |false=>
      simp only[Bool.not_false,zc];rw[fI (by omega),bPs,bV,Int.toNat_natCast]
      refine⟨_,rfl,⟨a+1,j+1,by show(a:Int)+1=((a+1:Nat):Int);omega,by show(j:Int)+1=((j+1:Nat):Int);omega,by omega,by omega,by show(d.set a l[j]).length=l.length;simp[h5],?_,?_⟩,by show((l.length:Int)-((j:Int)+1)).toNat<((l.length:Int)-(j:Int)).toNat;omega⟩
      ·show(d.set a l[j]).take (a+1)=_
       rw[List.take_add_one,List.getElem?_set_self (by omega),List.take_set_of_le (by omega),h6,List.take_add_one,ze hlt,List.filter_append];simp[hp]
      ·show(d.set a l[j]).drop (j+1)=_
       rw[List.drop_set_of_lt (by omega)];exact hdrop d h7
    ·rw[zf (show ¬(j:Int)<(d.length:Int)from by omega)]
     refine⟨_,rfl,a,rfl,by show a<=d.length;omega,?_⟩
     show d.take a=_;rw[h6,List.take_of_length_le (by omega)])
   (fun s hq=>by
    obtain⟨a,h1,h2,h3⟩:=hq
    rw[h1];unfold nk;rw[zp ⟨by omega,by simpa using h2⟩,bPs,Int.toNat_natCast,zp ⟨by omega,by simp;omega⟩,bPs,List.take_take,Nat.min_self]
    exact⟨_,rfl,h3⟩)
  rw[<-hq];exact hr
theorem lI{β:Type}{F:Nat->Option β}{v:Option β}(n:Nat)(h:∀m,n<=m->F m=v):ia F=v:=by
 cases v with
 |some r=>exact rO n h
 |none=>
  cases hl:ia F with
  |none=>rfl
  |some r=>
   obtain⟨k,hk⟩:=limN_ev hl
   have:=hk (max n k) (Nat.le_max_right n k)
   rw[h _ (Nat.le_max_left n k)]at this;cases this
theorem st_lt{l:List LProcedureStatement}{s:LProcedureStatement}(h:s∈l):SizeOf.sizeOf s.body<SizeOf.sizeOf l/\SizeOf.sizeOf s.elseF<SizeOf.sizeOf l:=by
 have:=List.sizeOf_lt_of_mem h
 cases s;simp only[LProcedureStatement.body,LProcedureStatement.elseF,LProcedureStatement.mk.sizeOf_spec]at this⊢;omega
theorem qu{p:List LProcedureStatement->Prop}(h:∀l:List LProcedureStatement,(∀s∈l,p s.body/\p s.elseF)->p l):∀l,p l:=by
 intro l;generalize hn:SizeOf.sizeOf l=n;induction n using Nat.strongRecOn generalizing l with
 |_ n ih=>exact h l fun s hs=>⟨ih _ (hn▸(st_lt hs).1) _ Z,ih _ (hn▸(st_lt hs).2) _ Z⟩
def gE(l:List LProcedureStatement):Nat:=(l.attach.map fun s=>1+gE s.1.body+gE s.1.elseF).sum
termination_by SizeOf.sizeOf l
decreasing_by
 ·exact(st_lt s.2).1
 ·exact(st_lt s.2).2
theorem rI(l:List LProcedureStatement):gE l=(l.map fun s=>1+gE s.body+gE s.elseF).sum:=by
 rw[gE,List.attach_map_val (f:=fun s:LProcedureStatement=>1+gE s.body+gE s.elseF)]
theorem sum_mem{α:Type}{f:α->Nat}:∀{l:List α} {x:α},x∈l->f x<=(l.map f).sum
 |y::l,x,h=>by
  simp only[List.map_cons,List.sum_cons];rcases List.mem_cons.1 h with rfl|h
  ·omega
  ·have:=sum_mem (f:=f) h;omega
theorem cntS_mem{l:List LProcedureStatement}{s:LProcedureStatement}(h:s∈l):1+gE s.body+gE s.elseF<=gE l:=by
 rw[rI l];exact sum_mem (f:=fun s:LProcedureStatement=>1+gE s.body+gE s.elseF) h
theorem sum_take{α:Type}{f:α->Nat}:∀{l:List α} {k:Nat},((l.take k).map f).sum<=(l.map f).sum
 |[],k=>by simp
 |y::l,0=>by simp
 |y::l,k+1=>by simp only[List.take_succ_cons,List.map_cons,List.sum_cons];have:=sum_take (f:=f) (l:=l) (k:=k);omega
theorem cntS_take{l:List LProcedureStatement}{k:Nat}{x:LProcedureStatement}(hk:l[k]? =some x):gE (l.take (k+1))=gE (l.take k)+(1+gE x.body+gE x.elseF)/\gE (l.take (k+1))<=gE l:=by
 rw[rI (l.take (k+1)),rI (l.take k),rI l]
 refine⟨?_,sum_take⟩
 rw[List.take_add_one,hk];simp
theorem stmts_both:∀l:List LProcedureStatement,(∃N,∀n,N<=n->dV n l=dc l)/\dc l=eH dc l:=by
 refine qu fun l ih=>?_
 obtain⟨N,hN⟩:=pj (p:=fun(s:LProcedureStatement) n=>dV n s.body=dc s.body/\dV n s.elseF=dc s.elseF) l (fun s hs=>by
  obtain⟨⟨⟨a,ha⟩,_⟩,⟨⟨b,hb⟩,_⟩⟩:=ih s hs
  exact⟨a+b,fun n hn=>⟨ha n (by omega),hb n (by omega)⟩⟩)
 have key:∀n,N+1<=n->dV n l=eH dc l:=by
  intro n hn
  obtain⟨n,rfl⟩:∃k,n=k+1:=⟨n-1,by omega⟩
  show eH (fun b0=>dV n b0) l=_;simp only[eH];congr 1
  exact iZ l 0 _ fun k s t hk=>by
   obtain⟨h1,h2⟩:=hN n (by omega) s (ek hk)
   simp only[h1,h2]
 have e:dc l=eH dc l:=lI (N+1) key
 exact⟨⟨N+1,fun n hn=>by rw[key n hn,e]⟩,e⟩
theorem depth_both:∀l:List LProcedureStatement,(∃N,∀n,N<=n->fC n l=eC l)/\eC l=fE eC l:=by
 refine qu fun l ih=>?_
 obtain⟨N,hN⟩:=pj (p:=fun(s:LProcedureStatement) n=>fC n s.body=eC s.body/\fC n s.elseF=eC s.elseF) l (fun s hs=>by
  obtain⟨⟨⟨a,ha⟩,_⟩,⟨⟨b,hb⟩,_⟩⟩:=ih s hs
  exact⟨a+b,fun n hn=>⟨ha n (by omega),hb n (by omega)⟩⟩)
 have key:∀n,N+1<=n->fC n l=fE eC l:=by
  intro n hn
  obtain⟨n,rfl⟩:∃k,n=k+1:=⟨n-1,by omega⟩
  show fE (fun b0=>fC n b0) l=_;simp only[fE];congr 1
  exact iZ l 0 _ fun k s t hk=>by
   obtain⟨h1,h2⟩:=hN n (by omega) s (ek hk)
   simp only[h1,h2]
 have e:eC l=fE eC l:=lI (N+1) key
 exact⟨⟨N+1,fun n hn=>by rw[key n hn,e]⟩,e⟩
theorem body_both:∀l:List LProcedureStatement,(∃N,∀n,N<=n->∀c vars,cK n c vars l=bN c vars l)/\
  (∀c vars,bN c vars l=dJ bN cx c vars l)/\
  ∀s∈l,∀c vars,cx c vars s=cX bN cx c vars s:=by
 refine qu fun l ih=>?_
 have hs:∀s∈l,(∃N,∀n,N<=n->∀c vars,db n c vars s=cx c vars s)/\∀c vars,cx c vars s=cX bN cx c vars s:=by
  intro s hsm
  obtain⟨⟨⟨a,ha⟩,_,_⟩,⟨⟨b,hb⟩,_,_⟩⟩:=ih s hsm
  have key:∀n,a+b+1<=n->∀c vars,db n c vars s=cX bN cx c vars s:=by
   intro n hn c vars
   obtain⟨n,rfl⟩:∃k,n=k+1:=⟨n-1,by omega⟩
   show cX (fun b0 b1 b2=>cK n b0 b1 b2) (fun b0 b1 b2=>db n b0 b1 b2) c vars s=_;have h1:∀v,cK n c v s.body=bN c v s.body:=fun v=>ha n (by omega) c v
   have h2:∀v,cK n c v s.elseF=bN c v s.elseF:=fun v=>hb n (by omega) c v
   simp only[cX,h1,h2]
  have e:∀c vars,cx c vars s=cX bN cx c vars s:=fun c vars=>lI _ (fun m hm=>key m hm c vars)
  exact⟨⟨a+b+1,fun n hn c vars=>by rw[key n hn,e]⟩,e⟩
 obtain⟨N,hN⟩:=pj (p:=fun(s:LProcedureStatement) n=>∀c vars,db n c vars s=cx c vars s) l (fun s h=>(hs s h).1)
 have key:∀n,N+1<=n->∀c vars,cK n c vars l=dJ bN cx c vars l:=by
  intro n hn c vars
  obtain⟨n,rfl⟩:∃k,n=k+1:=⟨n-1,by omega⟩
  show dJ (fun b0 b1 b2=>cK n b0 b1 b2) (fun b0 b1 b2=>db n b0 b1 b2) c vars l=_;simp only[dJ];congr 1
  exact iZ l 0 _ fun k s t hk=>by
   have h1:=hN n (by omega) s (ek hk);simp only[h1]
 have e:∀c vars,bN c vars l=dJ bN cx c vars l:=fun c vars=>lI (N+1) (fun m hm=>key m hm c vars)
 exact⟨⟨N+1,fun n hn c vars=>by rw[key n hn,e]⟩,e,fun s h=>(hs s h).2⟩
theorem depth_tot:∀l:List LProcedureStatement,Tot (eC l):=by
 refine qu fun l ih=>?_
 rw[(depth_both l).2];simp only[fE];refine Tot.bind (Tot.range _ _ _ fun k x s hk=>?_) fun fl _=>?_
 ·exact Tot.bind (ih x (ek hk)).1 fun _ _=>Tot.bind (ih x (ek hk)).2 fun _ _=>Tot.mk
 ·cases fl with
  |next s=>exact Tot.mk
  |brk s=>exact Tot.mk
  |ret r=>exact r.elim
theorem shapeP1(l:List Int)(s:LProcedureStatement):cC l s=some (l.any fun x=>s.kind==x):=by
 unfold cC;rw[tH,bPs]
theorem shapeP_tot(s:LProcedureStatement):Tot (ig s):=by
 unfold ig;simp only[shapeP1,bPs];refine Tot.letP ?_
 repeat' (first|exact Tot.mk|refine Tot.cond (fun _=>?_) (fun _=>?_)|refine Tot.bind ?_ (fun _ _=>?_))
structure ShapeP(s:LProcedureStatement):Prop where
 one:s.kind=1\/s.kind=2->s.exprs.length=1
 query:s.kind=3\/s.kind=7->s.query.length=1
 wher:s.kind=5\/s.kind=6->s.whereF.length=1
 upd:s.kind=5->s.exprs.length=s.names.length
 del:s.kind=6->s.exprs.length=0
 code:s.kind=8->1<=s.code/\s.code<=100
theorem orE{a:Bool}{y:Option Bool}(h:cond a (some a) y=some false):a=false/\y=some false:=by
 cases a
 ·exact⟨rfl,h⟩
 ·cases h
theorem orT{a b:Bool}(h:cond a (some true) (some b)=some false):a=false/\b=false:=by
 cases a
 ·exact⟨rfl,Option.some.inj h⟩
 ·cases h
theorem cond_someB{b:Bool}{x y:Option Bool}(h:cond b x y=some true):(b=true/\x=some true)\/(b=false/\y=some true):=by
 cases b
 ·exact .inr ⟨rfl,h⟩
 ·exact .inl ⟨rfl,h⟩
theorem shapeP_ok{s:LProcedureStatement}(h:ig s=some true):ShapeP s:=by
 unfold ig at h;simp only[shapeP1,bPs,bV]at h
 obtain⟨t7,hX,hE⟩:=am h
 cases t7 with
 |true=>cases hE
 |false=>
 obtain⟨_,h1⟩:=orE hX
 obtain⟨_,h2⟩:=orE h1
 obtain⟨_,h3⟩:=orE h2
 obtain⟨t8,h4,h5⟩:=am h3
 obtain⟨rfl,h6⟩:=orE h5
 obtain⟨q1,_⟩:=orT h4
 obtain⟨t9,h7,h8⟩:=am h6
 obtain⟨rfl,_⟩:=orE h8
 obtain⟨w1,_⟩:=orT h7
 simp only[List.any_cons,List.any_nil,Bool.or_false,zd]at q1 w1 hE
 refine⟨?_,?_,?_,?_,?_,?_⟩
 ·intro k;rw[show(s.kind==1||s.kind==2)=true from by simpa using k,zc]at hE
  have:=Option.some.inj hE
  simp at this;omega
 ·intro k;rw[show(s.kind==3||s.kind==7)=true from by simpa using k]at q1;simp at q1;omega
 ·intro k;rw[show(s.kind==5||s.kind==6)=true from by simpa using k]at w1;simp at w1;omega
 ·intro k;rw[k,show((5:Int)==1||(5:Int)==2)=false from Z,zd,show((5:Int)==5)=true from Z,zc]at hE
  obtain⟨a,_⟩|⟨_,a⟩:=cond_someB hE
  ·have:(s.exprs.length:Int)=s.names.length:=by simpa using a
   omega
  ·cases a
 ·intro k;rw[k,show((6:Int)==1||(6:Int)==2)=false from Z,zd,show((6:Int)==5)=false from Z,zd,show((6:Int)==8)=false from Z,zd,show((6:Int)==4)=false from Z,zd]at hE
  have:(s.exprs.length:Int)=0:=by simpa using Option.some.inj hE
  omega
 ·intro k;rw[k,show((8:Int)==1||(8:Int)==2)=false from Z,zd,show((8:Int)==5)=false from Z,zd,show((8:Int)==8)=true from Z,zc]at hE
  obtain⟨a,b⟩|⟨_,a⟩:=cond_someB hE
  ·exact⟨by simpa using a,by simpa using Option.some.inj b⟩
  ·cases a
theorem set_tot{vars:List LCol}{x:LCol}(hl:vars.length<=100000):∃v,jM vars x=some v/\v.length<=vars.length+1:=by
 unfold jM;rw[deleteCol_eq vars (fun a=>ib a x) _ (fun a _=>rfl) (by omega),bPs];have hf:=List.length_filter_le (fun a=>!ib a x) vars;rw[cd (by decide) (by simp only[List.length_cons,List.length_nil];omega),bPs]
 exact⟨_,rfl,by simp only[List.length_append,List.length_cons,List.length_nil];omega⟩
theorem given_tot{c:LProcedureChecker}{q:LQuery}(h:(dz q).length<=10000000):Tot (ft c q):=by
 unfold ft;rw[kinds_ok h,bPs];refine Tot.bind (Tot.range _ _ _ fun k x s hk=>?_) fun fl _=>Tot.thenR fun _ _=>Tot.mk
 refine Tot.cond (fun _=>Tot.cond (fun _=>Tot.mk) fun h=>?_) fun _=>Tot.mk
 refine Tot.bind (Tot.get (by omega) (by simpa using h)) fun _ _=>Tot.cond (fun _=>Tot.mk) fun _=>Tot.mk
theorem rc(c:LProcedureChecker)(cols vars:List LCol)(e:LExpr):Tot (eu c cols vars e):=by
 unfold eu;refine Tot.letP (Tot.cond (fun _=>Tot.mk) fun _=>Tot.bind (given_tot ?_) fun _ _=>Tot.cond (fun _=>Tot.mk) fun _=>Tot.mk);rw[kS];simp[LQuery.inputs]
theorem pred_tot(c:LProcedureChecker)(cols vars:List LCol)(e:LExpr):Tot (eD c cols vars e):=by
 unfold eD;exact Tot.bind (rc c cols vars e) fun _ _=>Tot.cond (fun _=>Tot.cond (fun _=>Tot.cond (fun _=>Tot.mk) fun _=>Tot.mk) fun _=>Tot.mk) fun _=>Tot.mk
theorem uO(l:Rs)(v:Rb):Tot (cD l v):=by
 unfold cD fw;refine Tot.bind (Tot.bind (Tot.range _ _ _ fun k x s hk=>?_) fun fl _=>Tot.thenR fun _ _=>Tot.mk) fun _ _=>Tot.mk
 exact Tot.cond (fun _=>Tot.mk) fun _=>Tot.mk
def hP(cols:List LCol)(row:Rq):Prop:=row.length=cols.length
structure RunOk(r:LRun):Prop where
 inst:InstOk r.s r.st
theorem sy{c:LChecker}{q:LQuery}(h:(gK c q).2=0):nc q=true/\(∀x∈q.inputs,(gK c x).2=0)/\(jU c q (q.inputs.map fun x=>(gK c x).1)).2=0/\(gK c q).1=(jU c q (q.inputs.map fun x=>(gK c x).1)).1/\((gK c q).1.map LCol.name).Nodup:=by
 rw[colsQ_eq]at h⊢;unfold qo at h⊢;by_cases h1:nc q=false
 ·simp[h1]at h
 rw[zy h1]at h⊢;by_cases h2:(eN (q.inputs.map (gK c))).2=0
 ·obtain⟨a,b⟩:=sn h2
  have e:(q.inputs.map (gK c)).map (·.1)=q.inputs.map fun x=>(gK c x).1:=by rw[List.map_map];rfl
  rw[e]at b;rw[b]at h⊢;rw[zy (by simpa using h2)]at h⊢;by_cases h3:(jU c q (q.inputs.map fun x=>(gK c x).1)).2=0
  ·rw[zy (by simpa using h3)]at h⊢;by_cases h4:20<(jU c q (q.inputs.map fun x=>(gK c x).1)).1.length
   ·rw[zp h4]at h;simp at h
   ·rw[zy h4]at h⊢;by_cases h5:((jU c q (q.inputs.map fun x=>(gK c x).1)).1.map LCol.name).Nodup
    ·rw[zp h5]at h⊢
     exact⟨by simpa using h1,fun x hx=>a _ (List.mem_map.2 ⟨x,hx,rfl⟩),h3,rfl,h5⟩
    ·rw[zy h5]at h;simp at h
  ·rw[zp h3]at h;exact absurd h h3
 ·rw[zp h2]at h;exact absurd h h2
theorem oG(vars cols:List LCol):∀(es:List LExpr) (ns:Rs),es.length=ns.length->(dt vars cols es ns).2=0->
  (dt vars cols es ns).1.length=es.length/\∀(i:Nat) (e:LExpr),es[i]? =some e->(fD cols vars e).2.2=0/\∃c,(dt vars cols es ns).1[i]? =some c/\c.kind=(fD cols vars e).1/\c.nullable=(fD cols vars e).2.1
 |[],ns,_,_=>by simp[dt]
 |e::es,[],h,_=>by simp at h
 |e::es,n::ns,hl,h=>by
  simp only[dt]at h⊢;by_cases h1:eE n=false
  ·simp[h1]at h
  rw[zy h1]at h⊢;by_cases h2:(fD cols vars e).2.2=0
  ·rw[zy (by simpa using h2)]at h⊢;by_cases h3:(fD cols vars e).1=0
   ·rw[zp h3]at h;simp at h
   ·rw[zy h3]at h⊢;by_cases h4:(dt vars cols es ns).2=0
    ·rw[zy (by simpa using h4)]
     obtain⟨a,b⟩:=oG vars cols es ns (by simpa using hl) h4
     refine⟨by simp[a],fun i e' hi=>?_⟩
     cases i with
     |zero=>simp at hi;subst hi;exact⟨h2,_,rfl,rfl,rfl⟩
     |succ i=>simpa using b i e' (by simpa using hi)
    ·rw[zp h4]at h;exact absurd h h4
  ·rw[zp h2]at h;exact absurd h h2
theorem sL(vars cols:List LCol):∀l:List LAggregateCall,(eS vars cols l).2=0->
  (eS vars cols l).1.length=l.length/\∀(i:Nat) (a:LAggregateCall),l[i]? =some a->(aggQ vars cols a).2=0/\∃c,(eS vars cols l).1[i]? =some c/\c.kind=(aggQ vars cols a).1/\c.nullable= !(a.function==lW)
 |[],_=>by simp[eS]
 |a::l,h=>by
  simp only[eS]at h⊢;by_cases h1:(aggQ vars cols a).2=0
  ·rw[zy (by simpa using h1)]at h⊢;by_cases h2:(eS vars cols l).2=0
   ·rw[zy (by simpa using h2)]
    obtain⟨x,y⟩:=sL vars cols l h2
    refine⟨by simp[x],fun i b hi=>?_⟩
    cases i with
    |zero=>simp at hi;subst hi;exact⟨h1,_,rfl,rfl,rfl⟩
    |succ i=>simpa using y i b (by simpa using hi)
   ·rw[zp h2]at h;exact absurd h h2
  ·rw[zp h1]at h;exact absurd h h1
theorem hP.append{a b:List LCol}{x y:Rq}(h:hP a x)(h':hP b y):hP (a++b) (x++y):=by
 unfold hP at h h'⊢;rw[List.length_append,List.length_append,h,h']
theorem capI_eq{n:Int}(h:oN n<=20000):oN n=n:=by
 unfold oN at h⊢;by_cases hc:20001<n
 ·rw[zp hc]at h;omega
 ·rw[zy hc]
theorem iX{q:LQuery}(h:(ck q).2<=20000):(ck q).1<=(ck q).2/\∀x∈q.inputs,(ck x).2<=20000:=by
 have key:∀(l:List (Int×Int)) (j:Nat) (s:Int×Int),s.2<=(fo q.kind j l s).2/\∀x∈l,x.2<=(fo q.kind j l s).2:=by
  intro l;induction l with
  |nil=>intro j s;exact⟨Int.le_refl _,by simp⟩
  |cons y l ih=>
   intro j s
   obtain⟨h1,h2⟩:=ih (j+1) (jT q.kind s j y)
   rw[fo];have h3:s.2<=(jT q.kind s j y).2:=kv _ _;have h4:y.2<=(jT q.kind s j y).2:=pm _ _
   refine⟨by omega,fun x hx=>?_⟩
   rcases List.mem_cons.1 hx with rfl|hx
   ·omega
   ·exact h2 x hx
 have hk:=key (q.inputs.map ck) 0 (0,0);rw[oO]at h⊢;by_cases h1:q.kind=1
 ·rw[zp h1]at h⊢
  refine⟨pm _ _,fun x hx=>?_⟩
  have:=hk.2 (ck x) (List.mem_map.2 ⟨x,hx,rfl⟩)
  have:=kv (fo q.kind 0 (q.inputs.map ck) (0,0)).2 24
  simp only at h;omega
 ·rw[zy h1]at h⊢
  refine⟨pm _ _,fun x hx=>?_⟩
  have:=hk.2 (ck x) (List.mem_map.2 ⟨x,hx,rfl⟩)
  have:=kv (fo q.kind 0 (q.inputs.map ck) (0,0)).2 (fo q.kind 0 (q.inputs.map ck) (0,0)).1
  simp only at h;omega
theorem most_scan{q:LQuery}(h:q.kind=1):(ck q).1=24:=by rw[oO,zp h]
theorem qc{q x:LQuery}(h:(ck q).2<=20000)(hk:q.kind≠1)(hi:q.inputs=[x]):(ck q).1=(ck x).1:=by
 have hm:=iX h;have hx:=hm.2 x (by rw[hi];simp);have hx1:=(iX hx).1;rw[oO,zy hk,hi];show oN (ck x).1=_;unfold oN;rw[zy (by omega)]
theorem oJ{q x y:LQuery}(h:(ck q).2<=20000)(hk:q.kind≠1)(hi:q.inputs=[x,y]):(ck q).1=(if q.kind=6 then(ck x).1+(ck y).1 else if q.kind=4\/q.kind=5 then(ck x).1*ew 1 (ck y).1 else(ck x).1):=by
 have hm:=iX h;have hx:=hm.2 x (by rw[hi];simp);have hx1:=(iX hx).1;have h1:=hm.1;have hc:oN (ck x).1=(ck x).1:=by unfold oN;rw[zy (by omega)]
 have e:(ck q).1=oN (if q.kind=6 then(ck x).1+(ck y).1 else if q.kind=4\/q.kind=5 then(ck x).1*ew 1 (ck y).1 else(ck x).1):=by
  rw[oO,zy hk,hi]
  show(jT q.kind (jT q.kind (0,0) 0 (ck x)) 1 (ck y)).1=_
  unfold jT;simp[hc]
 rw[e];exact capI_eq (by rw[<-e];omega)
def bQ(r:LRun)(q:LQuery):List LCol:=(gK ⟨r.s,r.vars⟩ q).1
theorem mL{r:LRun}{q:LQuery}(h:SmallQ q):iD r q=some (bQ r q):=by
 unfold iD;rw[cols_ok _ q h];rfl
def jo(r:LRun)(cols:List LCol)(q:LQuery)(x:Rq):Bool:=lu (et (bY r cols x) (e0Q q))
def rN(q:LQuery)(l:Rows):Rows:=(l.take (q.offset.toNat+q.count.toNat)).drop q.offset.toNat
def eZ(r:LRun)(q:LQuery)(cs:List (List LCol))(ins:List Rows):Rows:=
 if q.kind=1 then(match r.st.find? fun x=>x.table==q.table with|some x=>x.rows|none=>[])
 else if q.kind=4\/q.kind=5 then lM (jo r (cs.getD 0 []++cs.getD 1 []) q) (q.kind==5) (List.replicate (cs.getD 1 []).length .nul) (ins.getD 0 []) (ins.getD 1 [])
 else if q.kind=6 then ins.getD 0 []++ins.getD 1 []
 else if q.kind=7 then ni (ins.getD 0 []) (ins.getD 1 [])
 else if q.kind=2 then(ins.getD 0 []).filter (jo r (cs.getD 0 []) q)
 else if q.kind=3 then(ins.getD 0 []).map fun x=>q.exprs.map fun e=>et (bY r (cs.getD 0 []) x) e
 else if q.kind=8 then pr r (cs.getD 0 []) q (ins.getD 0 [])
 else if q.kind=9 then(gU r q (cs.getD 0 []) (ins.getD 0 [])).getD []
 else rN q (ins.getD 0 [])
def bK(r:LRun)(q:LQuery):Rows:=eZ r q (q.inputs.map (bQ r)) (q.inputs.attach.map fun x=>bK r x.1)
termination_by SizeOf.sizeOf q
decreasing_by exact LQuery.inputs_lt x.2
theorem fL(r:LRun)(q:LQuery):bK r q=eZ r q (q.inputs.map (bQ r)) (q.inputs.map (bK r)):=by
 rw[bK,List.attach_map_val (f:=bK r)]
theorem find_st{s:LSchema}{st:List LRelation}(h:InstOk s st)(name:Rb):∀t,s.tables.find? (fun t=>t.name==name)=some t->∃x,st.find? (fun x=>x.table==name)=some x/\x.rows.length<=24/\∀row∈x.rows,hP t.columns row:=by
 obtain⟨hl,ho,ht⟩:=h
 intro t hf;generalize s.tables=ts at*;induction ts generalizing st with
 |nil=>simp at hf
 |cons a ts ih=>
  cases st with
  |nil=>simp at hl
  |cons r st=>
   obtain⟨h1,h2,h3⟩:=ht 0 r a Z Z
   rw[List.find?_cons]at hf⊢;rw[h1];cases hn:a.name==name with
   |true=>
    rw[hn]at hf;simp at hf;subst hf
    exact⟨r,rfl,h2,fun row hrow=>(h3 row hrow).1⟩
   |false=>
    rw[hn]at hf;simp only at hf⊢;exact ih (by simpa using hl) (fun i r' t' a b=>ho (i+1) r' t' (by simpa using a) (by simpa using b)) (fun i r' t' a b=>ht (i+1) r' t' (by simpa using a) (by simpa using b)) hf
structure RowsOk(r:LRun)(q:LQuery):Prop where
 pos:1<=(ck q).1
 len:((bK r q).length:Int)<=(ck q).1
 fits:∀row∈bK r q,hP (bQ r q) row
structure QOk(r:LRun)(q:LQuery):Prop where
 small:SmallQ q
 cols:(gK ⟨r.s,r.vars⟩ q).2=0
 most:(ck q).2<=20000
theorem QOk.sub{r:LRun}{q x:LQuery}(h:QOk r q)(hx:x∈q.inputs):QOk r x:=
 ⟨h.small.sub hx,(sy h.cols).2.1 x hx,(iX h.most).2 x hx⟩
theorem joinR_mem{f:Rq->Bool}{left:Bool}{pad row:Rq}{a b:Rows}(h:row∈lM f left pad a b):∃x∈a,(∃y∈b,row=x++y)\/(left=true/\row=x++pad):=by
 unfold lM at h
 obtain⟨l,hl,hr⟩:=List.mem_flatten.1 h
 obtain⟨x,hx,rfl⟩:=List.mem_map.1 hl
 refine⟨x,hx,?_⟩
 unfold padR at hr;split at hr
 ·rename_i hc;simp at hr;exact .inr ⟨hc.1,hr⟩
 ·unfold ju at hr
  obtain⟨y,hy,rfl⟩:=List.mem_map.1 (List.mem_filter.1 hr).1
  exact .inl ⟨y,hy,rfl⟩
theorem two{q:LQuery}(h:q.inputs.length=2):∃x y,q.inputs=[x,y]:=by
 match hq:q.inputs,h with
 |[x,y],_=>exact⟨x,y,rfl⟩
theorem one{q:LQuery}(h:q.inputs.length=1):∃x,q.inputs=[x]:=by
 match hq:q.inputs,h with
 |[x],_=>exact⟨x,rfl⟩
theorem colsR_out{r:LRun}{q:LQuery}(h:QOk r q):(jU ⟨r.s,r.vars⟩ q (q.inputs.map (bQ r))).2=0/\bQ r q=(jU ⟨r.s,r.vars⟩ q (q.inputs.map (bQ r))).1:=by
 obtain⟨_,_,h3,h4,_⟩:=sy h.cols
 exact⟨h3,h4⟩
theorem set_fits{kind:Int}{a b:List LCol}{row:Rq}(h:(lX kind a b).2=0)(hr:hP a row\/hP b row):hP (lX kind a b).1 row:=by
 unfold lX hP at*;by_cases hc:a.length=b.length/\a.map LCol.kind=b.map LCol.kind
 ·rw[zp hc];rcases hr with hr|hr<;>simp[hr,hc.1]
 ·rw[zy hc]at h;simp at h
theorem join_fits{a b:List LCol}{left:Bool}{x y:Rq}(hx:hP a x)(hy:hP b y):hP (kA a b left) (x++y):=by
 unfold kA;exact hx.append (by unfold hP at hy⊢;rw[zl,hy])
theorem pad_fits{a b:List LCol}{x:Rq}(hx:hP a x):hP (kA a b true) (x++List.replicate b.length .nul):=by
 unfold kA;exact hx.append (by unfold hP;simp)
theorem rows_fit{r:LRun}(hr:RunOk r):∀q:LQuery,QOk r q->RowsOk r q:=by
 refine LQuery.ind fun q ih h=>?_
 have hs:=shape_ok (sy h.cols).1
 obtain⟨ho,hcol⟩:=colsR_out h
 have hself:=h.small.self;have hm:=(iX h.most).1;have kk:q.kind=1\/q.kind=2\/q.kind=3\/q.kind=4\/q.kind=5\/q.kind=6\/q.kind=7\/q.kind=8\/q.kind=9\/q.kind=10:=by have:=hs.kind;omega
 have hall:∀x∈q.inputs,RowsOk r x:=fun x hx=>ih x hx (h.sub hx)
 rcases kk with k|k|k|k|k|k|k|k|k|k
 ·--scan
  have hmq:=most_scan k;unfold jU at ho hcol;rw[zp k]at ho hcol;cases hf:r.s.tables.find? (fun t=>t.name==q.table)with
  |none=>rw[hf]at ho;simp at ho
  |some t=>
   rw[hf]at hcol
   obtain⟨x,hx,hl,hfit⟩:=find_st hr.inst q.table t hf
   have e:bK r q=x.rows:=by rw[fL];unfold eZ;rw[zp k,hx]
   exact⟨by omega,by rw[e];omega,by rw[e,hcol];exact hfit⟩
 all_goals have har:=hs.arity
 all_goals rw[k]at har
 all_goals simp only[qg]at har
 ·--filter
  obtain⟨x,hi⟩:=one (q:=q) (by simpa using har)
  have hx:=hall x (by rw[hi];simp);have hmq:=qc h.most (by omega) hi;rw[hi]at hcol ho;unfold jU at ho hcol;rw[zy (by omega),zp k]at ho hcol;have e:bK r q=(bK r x).filter (jo r (bQ r x) q):=by rw[fL,hi];unfold eZ;rw[zy (by omega),zy (by omega),zy (by omega),zy (by omega),zp k];rfl
  have hcx:bQ r q=bQ r x:=hcol
  have:=List.length_filter_le (jo r (bQ r x) q) (bK r x)
  refine⟨by rw[hmq];exact hx.pos,by rw[hmq,e];have:=hx.len;omega,fun row hrow=>?_⟩
  rw[e]at hrow;rw[hcx];exact hx.fits row (List.mem_filter.1 hrow).1
 ·--project
  obtain⟨x,hi⟩:=one (q:=q) (by simpa using har)
  have hx:=hall x (by rw[hi];simp);have hmq:=qc h.most (by omega) hi;rw[hi]at hcol ho;unfold jU at ho hcol;rw[zy (by omega),zy (by omega),zy (by omega),zy (by omega),zp (.inl k)]at ho hcol;have e:bK r q=(bK r x).map fun y=>q.exprs.map fun e=>et (bY r (bQ r x) y) e:=by rw[fL,hi];unfold eZ;rw[zy (by omega),zy (by omega),zy (by omega),zy (by omega),zy (by omega),zp k];rfl
  have hag:q.aggregates=[]:=hs.aggs (by omega);change (og r.vars (bQ r x) q).2=0 at ho;change bQ r q=(og r.vars (bQ r x) q).1 at hcol;unfold og at ho hcol;by_cases hn:(dt r.vars (bQ r x) q.exprs q.names).2=0
  ·rw[zy (by simpa using hn),hag]at hcol;simp only[eS,ne_eq,not_true_eq_false,if_false,List.append_nil]at hcol
   obtain⟨hl,hinv⟩:=oG r.vars (bQ r x) q.exprs q.names (hs.named (.inl k)) hn
   refine⟨by rw[hmq];exact hx.pos,by rw[hmq,e];simpa using hx.len,fun row hrow=>?_⟩
   rw[e]at hrow
   obtain⟨y,hy,rfl⟩:=List.mem_map.1 hrow
   rw[hcol];unfold hP;rw[zl,hl]
  ·rw[zp hn]at ho;exact absurd ho hn
 ·--inner join
  obtain⟨x,y,hi⟩:=two (q:=q) (by simpa using har)
  have hx:=hall x (by rw[hi];simp);have hy:=hall y (by rw[hi];simp);have hmq:=oJ h.most (by omega) hi;rw[zy (by omega),zp (.inl k)]at hmq;rw[hi]at hcol ho;unfold jU at ho hcol;rw[zy (by omega),zy (by omega),zp (.inl k)]at ho hcol;have e:bK r q=lM (jo r (bQ r x++bQ r y) q) (q.kind==5) (List.replicate (bQ r y).length .nul) (bK r x) (bK r y):=by rw[fL,hi];unfold eZ;rw[zy (by omega),zp (.inl k)];rfl
  have hcx:bQ r q=kA (bQ r x) (bQ r y) (q.kind==5):=hcol;have hb:=tI (jo r (bQ r x++bQ r y) q) (q.kind==5) (List.replicate (bQ r y).length .nul) (bK r x) (bK r y);have hxl:=hx.len;have hyl:=hy.len;have hpos:=hx.pos;have h1m:1<=ew 1 (ck y).1/\((max 1 (bK r y).length:Nat):Int)<=ew 1 (ck y).1:=⟨kv _ _,by have:=kv 1 (ck y).1;have:=pm 1 (ck y).1;omega⟩
  refine⟨?_,?_,fun row hrow=>?_⟩
  ·rw[hmq];exact Int.le_trans hpos (by have:=Int.mul_le_mul_of_nonneg_left h1m.1 (show 0<=(ck x).1 by omega);omega)
  ·rw[e,hmq]
   have h2:(((bK r x).length*max 1 (bK r y).length:Nat):Int)<=(ck x).1*ew 1 (ck y).1:=by
    rw[Int.natCast_mul];exact Int.mul_le_mul hxl h1m.2 (by omega) (by omega)
   omega
  ·rw[e]at hrow;rw[hcx]
   obtain⟨u,hu,⟨v,hv,rfl⟩|⟨hl,rfl⟩⟩:=joinR_mem hrow
   ·exact join_fits (hx.fits u hu) (hy.fits v hv)
   ·rw[hl];exact pad_fits (hx.fits u hu)
 ·--left join
  obtain⟨x,y,hi⟩:=two (q:=q) (by simpa using har)
  have hx:=hall x (by rw[hi];simp);have hy:=hall y (by rw[hi];simp);have hmq:=oJ h.most (by omega) hi;rw[zy (by omega),zp (.inr k)]at hmq;rw[hi]at hcol ho;unfold jU at ho hcol;rw[zy (by omega),zy (by omega),zp (.inr k)]at ho hcol;have e:bK r q=lM (jo r (bQ r x++bQ r y) q) (q.kind==5) (List.replicate (bQ r y).length .nul) (bK r x) (bK r y):=by rw[fL,hi];unfold eZ;rw[zy (by omega),zp (.inr k)];rfl
  have hcx:bQ r q=kA (bQ r x) (bQ r y) (q.kind==5):=hcol;have hb:=tI (jo r (bQ r x++bQ r y) q) (q.kind==5) (List.replicate (bQ r y).length .nul) (bK r x) (bK r y);have hxl:=hx.len;have hyl:=hy.len;have hpos:=hx.pos;have h1m:1<=ew 1 (ck y).1/\((max 1 (bK r y).length:Nat):Int)<=ew 1 (ck y).1:=⟨kv _ _,by have:=kv 1 (ck y).1;have:=pm 1 (ck y).1;omega⟩
  refine⟨?_,?_,fun row hrow=>?_⟩
  ·rw[hmq];exact Int.le_trans hpos (by have:=Int.mul_le_mul_of_nonneg_left h1m.1 (show 0<=(ck x).1 by omega);omega)
  ·rw[e,hmq]
   have h2:(((bK r x).length*max 1 (bK r y).length:Nat):Int)<=(ck x).1*ew 1 (ck y).1:=by
    rw[Int.natCast_mul];exact Int.mul_le_mul hxl h1m.2 (by omega) (by omega)
   omega
  ·rw[e]at hrow;rw[hcx]
   obtain⟨u,hu,⟨v,hv,rfl⟩|⟨hl,rfl⟩⟩:=joinR_mem hrow
   ·exact join_fits (hx.fits u hu) (hy.fits v hv)
   ·rw[hl];exact pad_fits (hx.fits u hu)
 ·--union
  obtain⟨x,y,hi⟩:=two (q:=q) (by simpa using har)
  have hx:=hall x (by rw[hi];simp);have hy:=hall y (by rw[hi];simp);have hmq:=oJ h.most (by omega) hi;rw[zp k]at hmq;rw[hi]at hcol ho;unfold jU at ho hcol;rw[zy (by omega),zy (by omega),zy (by omega),zp (.inl k)]at ho hcol;have e:bK r q=bK r x++bK r y:=by rw[fL,hi];unfold eZ;rw[zy (by omega),zy (by omega),zp k];rfl
  change (lX q.kind (bQ r x) (bQ r y)).2=0 at ho;change bQ r q=(lX q.kind (bQ r x) (bQ r y)).1 at hcol
  have:=hx.len
  have:=hy.len
  have:=hx.pos
  have:=hy.pos
  refine⟨by omega,by rw[e,hmq];simp;omega,fun row hrow=>?_⟩
  rw[e]at hrow;rw[hcol];rcases List.mem_append.1 hrow with hrow|hrow
  ·exact set_fits ho (.inl (hx.fits row hrow))
  ·exact set_fits ho (.inr (hy.fits row hrow))
 ·--difference
  obtain⟨x,y,hi⟩:=two (q:=q) (by simpa using har)
  have hx:=hall x (by rw[hi];simp);have hmq:=oJ h.most (by omega) hi;rw[zy (by omega),zy (by omega)]at hmq;rw[hi]at hcol ho;unfold jU at ho hcol;rw[zy (by omega),zy (by omega),zy (by omega),zp (.inr k)]at ho hcol;have e:bK r q=ni (bK r x) (bK r y):=by rw[fL,hi];unfold eZ;rw[zy (by omega),zy (by omega),zy (by omega),zp k];rfl
  change (lX q.kind (bQ r x) (bQ r y)).2=0 at ho;change bQ r q=(lX q.kind (bQ r x) (bQ r y)).1 at hcol;have hsub:=tC (bK r x) (bK r y)
  have:=hsub.length_le
  have:=hx.len
  have:=hx.pos
  refine⟨by omega,by rw[e,hmq];omega,fun row hrow=>?_⟩
  rw[e]at hrow;rw[hcol];exact set_fits ho (.inl (hx.fits row (hsub.subset hrow)))
 ·--aggregation
  obtain⟨x,hi⟩:=one (q:=q) (by simpa using har)
  have hx:=hall x (by rw[hi];simp);have hmq:=qc h.most (by omega) hi;rw[hi]at hcol ho;unfold jU at ho hcol;rw[zy (by omega),zy (by omega),zy (by omega),zy (by omega),zp (.inr k)]at ho hcol;have e:bK r q=pr r (bQ r x) q (bK r x):=by rw[fL,hi];unfold eZ;rw[zy (by omega),zy (by omega),zy (by omega),zy (by omega),zy (by omega),zy (by omega),zp k];rfl
  change (og r.vars (bQ r x) q).2=0 at ho;change bQ r q=(og r.vars (bQ r x) q).1 at hcol;have hxl:=hx.len;have hxp:=hx.pos;have hxm:=(iX h.most).2 x (by rw[hi];simp);have hxm1:=(iX hxm).1;unfold og at ho hcol;by_cases hn:(dt r.vars (bQ r x) q.exprs q.names).2=0
  ·rw[zy (by simpa using hn)]at hcol ho;by_cases hg:(eS r.vars (bQ r x) q.aggregates).2=0
   ·rw[zy (by simpa using hg)]at hcol
    obtain⟨hl,hinv⟩:=oG r.vars (bQ r x) q.exprs q.names (hs.named (.inr k)) hn
    obtain⟨hl2,hinv2⟩:=sL r.vars (bQ r x) q.aggregates hg
    have hkeys:=qN (fun x_1=>q.exprs.map fun e=>et (bY r (bQ r x) x_1) e) (bK r x) (if q.exprs=[]then [[]]else [])
    have hlen:((pr r (bQ r x) q (bK r x)).length:Int)<=(ck x).1:=by
     unfold pr;rw[zl];by_cases hee:q.exprs=[]
     ·--without keys there is one group
      have:∀(l ks:Rows),ks=[[]]->fW (fun x_1=>q.exprs.map fun e=>et (bY r (bQ r x) x_1) e) ks l=[[]]:=by
       intro l;induction l with
       |nil=>intro ks hk;simpa[fW]using hk
       |cons z l ih2=>
        intro ks hk;rw[fW];refine ih2 _ ?_;rw[zp (by rw[hk,hee];simp),hk]
      rw[this _ _ (by rw[zp hee])];simp;omega
     ·rw[zy hee]at hkeys⊢;simp at hkeys;omega
    refine⟨by rw[hmq];exact hxp,by rw[hmq,e];exact hlen,fun row hrow=>?_⟩
    rw[e]at hrow;rw[hcol];unfold pr at hrow
    obtain⟨kk,hkk,rfl⟩:=List.mem_map.1 hrow
    refine hP.append ?_ ?_
    ·rcases(qU _ _ _ _).1 hkk with hk0|⟨y,hy,rfl⟩
     ·split at hk0
      ·rename_i hee;simp at hk0;subst hk0;rw[hee]at hl⊢;unfold hP;simpa using hl.symm
      ·simp at hk0
     ·unfold hP;rw[zl,hl]
    ·unfold hP;simp[hl2]
   ·rw[zp hg]at ho;exact absurd ho hg
  ·rw[zp hn]at ho;exact absurd ho hn
 ·--sort
  obtain⟨x,hi⟩:=one (q:=q) (by simpa using har)
  have hx:=hall x (by rw[hi];simp);have hmq:=qc h.most (by omega) hi;rw[hi]at hcol ho;unfold jU at ho hcol;rw[zy (by omega),zy (by omega),zy (by omega),zy (by omega),zy (by omega),zp k]at ho hcol;have hxm:=(iX h.most).2 x (by rw[hi];simp);have hxm1:=(iX hxm).1;have hxl:=hx.len
  obtain⟨l',hsort,hperm⟩:=sort_ok r q (bQ r x) (bK r x) (by omega) hself.1
  have e:bK r q=l':=by rw[fL,hi];unfold eZ;rw[zy (by omega),zy (by omega),zy (by omega),zy (by omega),zy (by omega),zy (by omega),zy (by omega),zp k];show(gU r q (bQ r x) (bK r x)).getD []=l';rw[hsort];rfl
  have hcx:bQ r q=bQ r x:=by
   by_cases hse:kJ r.vars (bQ r x) q.exprs=0
   ·exact hcol.trans (by show(if kJ r.vars (bQ r x) q.exprs≠0 then _ else _:List LCol×Int).1=_;rw[zy (by simpa using hse)];rfl)
   ·exact absurd (by
     have:(if kJ r.vars (bQ r x) q.exprs≠0 then(([],kJ r.vars (bQ r x) q.exprs):List LCol×Int)else(bQ r x,0)).2=0:=ho
     rw[zp hse]at this;exact this) hse
  refine⟨by rw[hmq];exact hx.pos,by rw[hmq,e,hperm.length_eq];exact hxl,fun row hrow=>?_⟩
  rw[e]at hrow;rw[hcx];exact hx.fits row (hperm.mem_iff.1 hrow)
 ·--limit
  obtain⟨x,hi⟩:=one (q:=q) (by simpa using har)
  have hx:=hall x (by rw[hi];simp);have hmq:=qc h.most (by omega) hi;rw[hi]at hcol ho;unfold jU at ho hcol;rw[zy (by omega),zy (by omega),zy (by omega),zy (by omega),zy (by omega),zy (by omega)]at ho hcol;have hcx:bQ r q=bQ r x:=hcol;have e:bK r q=rN q (bK r x):=by rw[fL,hi];unfold eZ;rw[zy (by omega),zy (by omega),zy (by omega),zy (by omega),zy (by omega),zy (by omega),zy (by omega),zy (by omega)];rfl
  have hsub:(rN q (bK r x)).Sublist (bK r x):=(List.drop_sublist _ _).trans (List.take_sublist _ _)
  have:=hsub.length_le
  have:=hx.len
  refine⟨by rw[hmq];exact hx.pos,by rw[hmq,e];omega,fun row hrow=>?_⟩
  rw[e]at hrow;rw[hcx];exact hx.fits row (hsub.subset hrow)
theorem rowLen{cols:List LCol}{row:Rq}(h:hP cols row)(hc:cols.length<=20):row.length<=20:=by rw[show row.length=cols.length from h];exact hc
theorem scan_run(st:List LRelation)(name:Rb):ae (aU (σ:=Unit) (ρ:=(Rows)) (fun(_:Nat) (x1:LRelation) (_:Unit)=>cond (x1.table==name) (some (.ret x1.rows)) (some (.next ()))) 0 st ()) (fun fl1=>fl1.thenR fun(_:Unit)=>some [])=
  some (match st.find? fun x=>x.table==name with|some x=>x.rows|none=>[]):=by
 rw[rg (fun x:LRelation=>x.table==name) (fun _ x=>x.rows) st 0 (fun k x _=>by cases x.table==name<;>rfl)];rcases find_idx (fun x:LRelation=>x.table==name) st with⟨h1,h2⟩|⟨x,h1,h2,h3⟩
 ·rw[h1];unfold br at h2;cases hf:st.findIdx? (fun x=>x.table==name)with
  |none=>rfl
  |some i=>rw[hf]at h2;simp only at h2;omega
 ·rw[h1];unfold br at h2 h3;cases hf:st.findIdx? (fun x=>x.table==name)with
  |none=>rw[hf]at h2;simp at h2
  |some i=>
   rw[hf]at h3;simp only[Int.toNat_natCast]at h3;simp only[h3];rfl
theorem limit_run(l:Rows)(q:LQuery)(hl:l.length<=1000000)(hc:0<=q.count)(ho:0<=q.offset):
  nZ l (if(l.length:Int)<q.offset then(l.length:Int)else q.offset) (iw ((if(l.length:Int)<q.offset then(l.length:Int)else q.offset)+(if(iw ((l.length:Int)-(if(l.length:Int)<q.offset then(l.length:Int)else q.offset)))<q.count then(iw ((l.length:Int)-(if(l.length:Int)<q.offset then(l.length:Int)else q.offset)))else q.count)))=some (rN q l):=by
 obtain⟨o,ho'⟩:∃o:Nat,q.offset=o:=⟨q.offset.toNat,by omega⟩
 obtain⟨c,hc'⟩:∃c:Nat,q.count=c:=⟨q.count.toNat,by omega⟩
 unfold rN;rw[ho',hc',Int.toNat_natCast,Int.toNat_natCast];by_cases h1:(l.length:Int)<(o:Int)
 ·rw[zp h1,wW (n:=(l.length:Int)-(l.length:Int)) (by omega) (by omega)];have e:(if(l.length:Int)-(l.length:Int)<(c:Int)then(l.length:Int)-(l.length:Int)else(c:Int))=0:=by split<;>omega
  rw[e,wW (by omega) (by omega),rF ⟨by omega,by omega,by omega⟩];congr 1;rw[List.drop_of_length_le (by simp only[List.length_take];omega)]
  symm
  exact List.drop_of_length_le (by simp only[List.length_take];omega)
 ·rw[zy h1,wW (n:=(l.length:Int)-(o:Int)) (by omega) (by omega)];by_cases h2:(l.length:Int)-(o:Int)<(c:Int)
  ·rw[zp h2,wW (by omega) (by omega),rF ⟨by omega,by omega,by omega⟩];rw[Int.toNat_natCast,List.take_of_length_le (i:=((o:Int)+((l.length:Int)-(o:Int))).toNat) (by omega),List.take_of_length_le (i:=o+c) (by omega)]
  ·rw[zy h2,wW (by omega) (by omega),rF ⟨by omega,by omega,by omega⟩];rw[Int.toNat_natCast,show((o:Int)+(c:Int)).toNat=o+c from by omega]
theorem join_run2(r:LRun)(q:LQuery)(ca cb:List LCol)(e:LExpr)(he:aG q.exprs 0=some e)(hee:e=e0Q q)(a b:Rows)(ha:∀x∈a,x.length<=20)(hb:∀x∈b,x.length<=20)(hcb:cb.length<=20)(hsz:a.length*max 1 b.length<=30000)(hk:q.kind=4\/q.kind=5):
  ae (aU (σ:=List LCol×Rows) (ρ:=Empty) (fun(_:Nat) (x1:Rq) (s1:List LCol×Rows)=>
  ae (aU (σ:=Rows×Bool) (ρ:=Empty) (fun(_:Nat) (x6:Rq) (s6:Rows×Bool)=>
   ae (cB ([x1,x6]:Rows)) fun x58=>
   ae (aG q.exprs 0) fun(x65:LExpr)=>
   letP (bY r s1.1 x58) fun x62=>
   letP (et x62 x65) fun x67=>
   letP (lu x67) fun x68=>
   cond x68
    (ae (dq 24 s6.1 ([x58]:Rows)) fun(x72:Rows)=>
    some (.next (x72,true)))
    (some (.next (s6.1,s6.2)))) 0 b (s1.2,false)) fun fl6=>fl6.thenP fun(s6:Rows×Bool)=>
  letP (
   cond (!s6.2)
    ((q.kind==(5:Int)))
    (false)) fun(t7:Bool)=>
  cond t7
   (ae (qE 32 (cb.length:Int)) fun(_:Unit)=>
   ae (cB ([x1,(List.replicate (cb.length:Int).toNat (LVal.mk 0 0 []))]:Rows)) fun x87=>
   ae (dq 24 s6.1 ([x87]:Rows)) fun(x89:Rows)=>
   some (.next (s1.1,x89)))
   (some (.next (s1.1,s6.1)))) 0 a (ca++cb,[])) (fun fl1=>fl1.thenP fun(s1:List LCol×Rows)=>some s1.2)=some (lM (jo r (ca++cb) q) (q.kind==5) (List.replicate cb.length .nul) a b):=by
 have hpl:∀k,k<=a.length->(lM (jo r (ca++cb) q) (q.kind==5) (List.replicate cb.length .nul) (a.take k) b).length<=30000:=fun k hk=>by
  have h1:=tI (jo r (ca++cb) q) (q.kind==5) (List.replicate cb.length .nul) (a.take k) b;rw[List.length_take,Nat.min_eq_left hk]at h1;exact Nat.le_trans h1 (Nat.le_trans (Nat.mul_le_mul_right _ hk) hsz)
 rw[rMa (xs:=a) (s:=(ca++cb,[])) (fun k=>(ca++cb,lM (jo r (ca++cb) q) (q.kind==5) (List.replicate cb.length .nul) (a.take k) b)) Z (fun k x hkx=>by
  have hkl:=(zg.1 hkx).1;have hxm:=ek hkx
  have hbl:b.length<=30000:=by
   have h1:1*max 1 b.length<=a.length*max 1 b.length:=Nat.mul_le_mul_right _ (by omega);omega
  have h2:=hpl k (by omega);simp only;rw[match_run (jo r (ca++cb) q) e r (ca++cb) q.exprs he (fun z=>by rw[hee];rfl) x (by have:=ha x hxm;omega) b _ false (fun y hy=>by have:=hb y hy;omega) (by omega),bPs,dl]
  have hs:lM (jo r (ca++cb) q) (q.kind==5) (List.replicate cb.length .nul) (a.take (k+1)) b=lM (jo r (ca++cb) q) (q.kind==5) (List.replicate cb.length .nul) (a.take k) b++padR (jo r (ca++cb) q) (q.kind==5) (List.replicate cb.length .nul) x b:=by
   unfold lM;rw[List.take_add_one,hkx,List.map_append,List.flatten_append];simp
  rw[hs];simp only[bV,Bool.false_or];have hml:(ju (jo r (ca++cb) q) x b).length<=30000:=by unfold ju;exact Nat.le_trans (List.length_filter_le _ _) (by simpa using hbl)
  cases hm:ju (jo r (ca++cb) q) x b with
  |nil=>
   by_cases h5:q.kind=5
   ·have e5:(q.kind==5)=true:=ld h5;simp only[e5,List.isEmpty_nil,Bool.not_true,Bool.not_false,zc];rw[growI_ok ⟨by omega,by omega,by unfold maxLen;omega⟩,bPs,concat2 x _ (by have:=ha x hxm;omega) (by simp;omega),bPs];rw[e5]at h2;rw[cd (by decide) (by simp at h2⊢;omega),bPs];unfold padR;rw[zp ⟨rfl,hm⟩];simp[LVal.nul]
   ·have e5:(q.kind==5)=false:=dm h5;simp only[e5,List.isEmpty_nil,Bool.not_true,Bool.not_false,zc,zd];unfold padR;rw[zy (by simp),hm]
  |cons z zs=>
   simp only[List.isEmpty_cons,Bool.not_false,Bool.not_true,zd];unfold padR;rw[zy (by rw[hm];simp),hm])]
 rw[bPs,dl,List.take_length]
theorem rows_ev{r:LRun}(hr:RunOk r):∀q:LQuery,QOk r q->∃N,∀n,N<=n->gg n r q=some (bK r q):=by
 refine LQuery.ind fun q ih h=>?_
 have hs:=shape_ok (sy h.cols).1
 obtain⟨ho,hcol⟩:=colsR_out h
 have hself:=h.small.self;have hm:=(iX h.most).1
 obtain⟨N,hN⟩:=pj (p:=fun x n=>gg n r x=some (bK r x)) q.inputs (fun x hx=>ih x hx (h.sub hx))
 have hall:∀x∈q.inputs,RowsOk r x:=fun x hx=>rows_fit hr x (h.sub hx)
 have hsz:∀x∈q.inputs,(bK r x).length<=20000:=fun x hx=>by
  have h1:=(hall x hx).len;have h2:=(iX h.most).2 x hx;have h3:=(iX h2).1;omega
 have hrow:∀x∈q.inputs,∀row∈bK r x,row.length<=20:=fun x hx row hrow=>rowLen ((hall x hx).fits row hrow) (ki _ x)
 refine⟨N+2,fun n hn=>?_⟩
 obtain⟨n,rfl⟩:∃k,n=k+2:=⟨n-2,by omega⟩
 rw[gg];simp only[lQ];have kk:q.kind=1\/q.kind=2\/q.kind=3\/q.kind=4\/q.kind=5\/q.kind=6\/q.kind=7\/q.kind=8\/q.kind=9\/q.kind=10:=by have:=hs.kind;omega
 rcases kk with k|k|k|k|k|k|k|k|k|k
 ·rw[ld k,zc,scan_run,fL];unfold eZ
  rw[zp k]<;>
   rfl
 all_goals have har:=hs.arity
 all_goals rw[k]at har
 all_goals simp only[qg]at har
 ·--filter
  obtain⟨x,hi⟩:=one (q:=q) (by simpa using har)
  have hxm:x∈q.inputs:=by rw[hi];simp
  have e:bK r q=(bK r x).filter (jo r (bQ r x) q):=by rw[fL,hi];unfold eZ;rw[zy (by omega),zy (by omega),zy (by omega),zy (by omega),zp k];rfl
  have hx:=hN (n+1) (by omega) x hxm;rw[k,hi,e];simp only[aG,bV];simp only[show((2:Int)==1)=false from Z,show((2:Int)==4)=false from Z,show((2:Int)==5)=false from Z,show((2:Int)==6)=false from Z,show((2:Int)==7)=false from Z,show((2:Int)==2)=true from Z,zd,zc,Int.le_refl,if_true,Int.toNat_zero,List.getElem?_cons_zero,bPs];rw[hx,bPs,mL (h.small.sub hxm),bPs]
  rw[deleteFunc_eq (bK r x) (fun a=>!jo r (bQ r x) q a) _ (fun a _=>by
   unfold jD;rw[e0_get (by rw[hs.one (.inl k)];omega)];rfl) (by have:=hsz x hxm;omega),bPs]
  simp
 ·--project
  obtain⟨x,hi⟩:=one (q:=q) (by simpa using har)
  have hxm:x∈q.inputs:=by rw[hi];simp
  have e:bK r q=(bK r x).map fun y=>q.exprs.map fun e=>et (bY r (bQ r x) y) e:=by rw[fL,hi];unfold eZ;rw[zy (by omega),zy (by omega),zy (by omega),zy (by omega),zy (by omega),zp k];rfl
  have hx:=hN (n+1) (by omega) x hxm;rw[k,hi,e];simp only[aG,bV];simp only[show((3:Int)==1)=false from Z,show((3:Int)==4)=false from Z,show((3:Int)==5)=false from Z,show((3:Int)==6)=false from Z,show((3:Int)==7)=false from Z,show((3:Int)==2)=false from Z,show((3:Int)==3)=true from Z,zd,zc,Int.le_refl,if_true,Int.toNat_zero,List.getElem?_cons_zero,bPs];rw[hx,bPs,mL (h.small.sub hxm),bPs]
  rw[nP (xs:=bK r x) (fun y=>q.exprs.map fun e=>et (bY r (bQ r x) y) e) (fun i y hy=>by
   have hil:=(zg.1 hy).1
   have:=hsz x hxm
   rw[sE r _ _ _ (by omega),bPs,cd (by decide) (by simp;omega),bPs]),bPs,dl]
 ·--inner join
  obtain⟨x,y,hi⟩:=two (q:=q) (by simpa using har)
  have hxm:x∈q.inputs:=by rw[hi];simp
  have hym:y∈q.inputs:=by rw[hi];simp
  have hmq:=oJ h.most (by omega) hi;rw[zy (by omega),zp (.inl k)]at hmq;have e:bK r q=lM (jo r (bQ r x++bQ r y) q) (q.kind==5) (List.replicate (bQ r y).length .nul) (bK r x) (bK r y):=by rw[fL,hi];unfold eZ;rw[zy (by omega),zp (.inl k)];rfl
  have hx:=hN n (by omega) x hxm;have hy:=hN n (by omega) y hym
  have hprod:(bK r x).length*max 1 (bK r y).length<=30000:=by
   have h1m:((max 1 (bK r y).length:Nat):Int)<=ew 1 (ck y).1:=by have:=kv 1 (ck y).1;have:=pm 1 (ck y).1;have:=(hall y hym).len;omega
   have h2:(((bK r x).length*max 1 (bK r y).length:Nat):Int)<=(ck x).1*ew 1 (ck y).1:=by
    rw[Int.natCast_mul];exact Int.mul_le_mul (hall x hxm).len h1m (by omega) (by have:=(hall x hxm).pos;omega)
   have:=h.most
   omega
  rw[dm (show q.kind≠1 by omega),ld k];simp only[zd,zc,bV];rw[iA];simp only[kx];rw[hi];have g0:aG [x,y] 0=some x:=rfl;have g1:aG [x,y] 1=some y:=rfl;simp only[g0,g1,bPs];rw[hx,hy];simp only[bPs];rw[mL (h.small.sub hxm),mL (h.small.sub hym)];simp only[bPs];rw[cd (by decide) (by have:=ki ⟨r.s,r.vars⟩ x;have:=ki ⟨r.s,r.vars⟩ y;unfold bQ;omega),bPs];have he1:q.exprs.length=1:=hs.one (.inr (.inl k));rw[join_run2 r q (bQ r x) (bQ r y) (e0Q q) (e0_get (by omega)) Z (bK r x) (bK r y) (hrow x hxm) (hrow y hym) (ki _ y) hprod (.inl k),bPs,e]
 ·--left join
  obtain⟨x,y,hi⟩:=two (q:=q) (by simpa using har)
  have hxm:x∈q.inputs:=by rw[hi];simp
  have hym:y∈q.inputs:=by rw[hi];simp
  have hmq:=oJ h.most (by omega) hi;rw[zy (by omega),zp (.inr k)]at hmq;have e:bK r q=lM (jo r (bQ r x++bQ r y) q) (q.kind==5) (List.replicate (bQ r y).length .nul) (bK r x) (bK r y):=by rw[fL,hi];unfold eZ;rw[zy (by omega),zp (.inr k)];rfl
  have hx:=hN n (by omega) x hxm;have hy:=hN n (by omega) y hym
  have hprod:(bK r x).length*max 1 (bK r y).length<=30000:=by
   have h1m:((max 1 (bK r y).length:Nat):Int)<=ew 1 (ck y).1:=by have:=kv 1 (ck y).1;have:=pm 1 (ck y).1;have:=(hall y hym).len;omega
   have h2:(((bK r x).length*max 1 (bK r y).length:Nat):Int)<=(ck x).1*ew 1 (ck y).1:=by
    rw[Int.natCast_mul];exact Int.mul_le_mul (hall x hxm).len h1m (by omega) (by have:=(hall x hxm).pos;omega)
   have:=h.most
   omega
  rw[dm (show q.kind≠1 by omega),dm (show q.kind≠4 by omega),ld k];simp only[zd,zc,bV];rw[iA];simp only[kx];rw[hi];have g0:aG [x,y] 0=some x:=rfl;have g1:aG [x,y] 1=some y:=rfl;simp only[g0,g1,bPs];rw[hx,hy];simp only[bPs];rw[mL (h.small.sub hxm),mL (h.small.sub hym)];simp only[bPs];rw[cd (by decide) (by have:=ki ⟨r.s,r.vars⟩ x;have:=ki ⟨r.s,r.vars⟩ y;unfold bQ;omega),bPs];have he1:q.exprs.length=1:=hs.one (.inr (.inr k));rw[join_run2 r q (bQ r x) (bQ r y) (e0Q q) (e0_get (by omega)) Z (bK r x) (bK r y) (hrow x hxm) (hrow y hym) (ki _ y) hprod (.inr k),bPs,e]
 ·--union
  obtain⟨x,y,hi⟩:=two (q:=q) (by simpa using har)
  have hxm:x∈q.inputs:=by rw[hi];simp
  have hym:y∈q.inputs:=by rw[hi];simp
  have e:bK r q=bK r x++bK r y:=by rw[fL,hi];unfold eZ;rw[zy (by omega),zy (by omega),zp k];rfl
  have hx:=hN (n+1) (by omega) x hxm;have hy:=hN (n+1) (by omega) y hym;rw[dm (show q.kind≠1 by omega),dm (show q.kind≠4 by omega),dm (show q.kind≠5 by omega),ld k,hi];have g0:aG [x,y] 0=some x:=rfl;have g1:aG [x,y] 1=some y:=rfl;simp only[zd,zc,bV,g0,g1,bPs]
  have:=hsz x hxm
  have:=hsz y hym
  rw[hx,hy];simp only[bPs];rw[cd (by decide) (by omega),bPs,e]
 ·--difference
  obtain⟨x,y,hi⟩:=two (q:=q) (by simpa using har)
  have hxm:x∈q.inputs:=by rw[hi];simp
  have hym:y∈q.inputs:=by rw[hi];simp
  have e:bK r q=ni (bK r x) (bK r y):=by rw[fL,hi];unfold eZ;rw[zy (by omega),zy (by omega),zy (by omega),zp k];rfl
  have hx:=hN (n+1) (by omega) x hxm;have hy:=hN (n+1) (by omega) y hym;rw[dm (show q.kind≠1 by omega),dm (show q.kind≠4 by omega),dm (show q.kind≠5 by omega),dm (show q.kind≠6 by omega),ld k,hi];have g0:aG [x,y] 0=some x:=rfl;have g1:aG [x,y] 1=some y:=rfl;simp only[zd,zc,bV,g0,g1,bPs]
  have:=hsz x hxm
  have:=hsz y hym
  rw[hx,hy];simp only[bPs];rw[less_eq _ _ (by omega) (by omega),bPs,e]
 ·--aggregation
  obtain⟨x,hi⟩:=one (q:=q) (by simpa using har)
  have hxm:x∈q.inputs:=by rw[hi];simp
  have e:bK r q=pr r (bQ r x) q (bK r x):=by rw[fL,hi];unfold eZ;rw[zy (by omega),zy (by omega),zy (by omega),zy (by omega),zy (by omega),zy (by omega),zp k];rfl
  have hx:=hN (n+1) (by omega) x hxm;rw[dm (show q.kind≠1 by omega),dm (show q.kind≠4 by omega),dm (show q.kind≠5 by omega),dm (show q.kind≠6 by omega),dm (show q.kind≠7 by omega),dm (show q.kind≠2 by omega),dm (show q.kind≠3 by omega),ld k,hi];have g0:aG [x] 0=some x:=rfl;simp only[zd,zc,bV,g0,bPs];rw[hx,bPs,mL (h.small.sub hxm),bPs]
  have:=hsz x hxm
  rw[group_eq r _ q _ (by omega) hself.1 hself.2,bPs,e]
 ·--sort
  obtain⟨x,hi⟩:=one (q:=q) (by simpa using har)
  have hxm:x∈q.inputs:=by rw[hi];simp
  have:=hsz x hxm
  obtain⟨l',hsort,_⟩:=sort_ok r q (bQ r x) (bK r x) (by omega) hself.1
  have e:bK r q=l':=by rw[fL,hi];unfold eZ;rw[zy (by omega),zy (by omega),zy (by omega),zy (by omega),zy (by omega),zy (by omega),zy (by omega),zp k];show(gU r q (bQ r x) (bK r x)).getD []=l';rw[hsort];rfl
  have hx:=hN (n+1) (by omega) x hxm;rw[dm (show q.kind≠1 by omega),dm (show q.kind≠4 by omega),dm (show q.kind≠5 by omega),dm (show q.kind≠6 by omega),dm (show q.kind≠7 by omega),dm (show q.kind≠2 by omega),dm (show q.kind≠3 by omega),dm (show q.kind≠8 by omega),ld k,hi];have g0:aG [x] 0=some x:=rfl;simp only[zd,zc,bV,g0,bPs];rw[hx,bPs,mL (h.small.sub hxm),bPs,hsort,bPs,e]
 ·--limit
  obtain⟨x,hi⟩:=one (q:=q) (by simpa using har)
  have hxm:x∈q.inputs:=by rw[hi];simp
  have e:bK r q=rN q (bK r x):=by rw[fL,hi];unfold eZ;rw[zy (by omega),zy (by omega),zy (by omega),zy (by omega),zy (by omega),zy (by omega),zy (by omega),zy (by omega)];rfl
  have hx:=hN (n+1) (by omega) x hxm;rw[dm (show q.kind≠1 by omega),dm (show q.kind≠4 by omega),dm (show q.kind≠5 by omega),dm (show q.kind≠6 by omega),dm (show q.kind≠7 by omega),dm (show q.kind≠2 by omega),dm (show q.kind≠3 by omega),dm (show q.kind≠8 by omega),dm (show q.kind≠9 by omega),hi];have g0:aG [x] 0=some x:=rfl;simp only[zd,zc,bV,g0,bPs];rw[hx,bPs,mL (h.small.sub hxm),bPs]
  have:=hsz x hxm
  rw[limit_run _ q (by omega) (hs.limit k).1 (hs.limit k).2,bPs,e]
theorem rows_eq{r:LRun}(hr:RunOk r){q:LQuery}(h:QOk r q):nr r q=some (bK r q):=by
 obtain⟨N,hN⟩:=rows_ev hr q h
 exact rO N hN
theorem within_tot{s:LSchema}(hs:SmallS s)(st:List LRelation){q:LQuery}(hq:SmallQ q)(args:Rq){vars:List LCol}(vals:Rq)(hv:vars.length<=100000):
  ∃res e,iv s st q args vars vals=some (res,e)/\(e=0->res.columns.length<=20/\res.rows.length<=20000/\∀row∈res.rows,row.length=res.columns.length):=by
 unfold iv
 obtain⟨cs,e,hc,he,hcs⟩:=check_eq (s:=s) (vars:=vars) hq
 obtain⟨g,hg,_⟩:=args_ok hq.nodes args
 obtain⟨f,hf,hfo⟩:=conforms hs st
 rw[hc,bPs];by_cases e0:e=0
 ·rw[pB e0,zd,hg,bPs];by_cases g0:g=0
  ·rw[pB g0,zd,hf,bPs];by_cases f0:f=0
   ·rw[pB f0,zd]
    obtain⟨hsz,_,hco⟩:=he.1 e0
    have hok:∀names,QOk (LRun.mk s st args vars names vals) q:=fun names=>⟨hq,hco,hsz.2.2⟩
    have hr:∀names,RunOk (LRun.mk s st args vars names vals):=fun names=>⟨hfo f0⟩
    rw[nP (xs:=vars) LCol.name (fun k x hk=>by
     have:=(zg.1 hk).1
     rw[cd (by decide) (by simp;omega),bPs]),bPs,dl]
    have hrows:=rows_fit (hr (vars.map LCol.name)) q (hok _)
    have hlen:(bK (LRun.mk s st args vars (vars.map LCol.name) vals) q).length<=20000:=by
     have h1:=hrows.len;have h3:=(iX hsz.2.2).1
     have:=hsz.2.2
     omega
    rw[rows_eq (hr _) (hok _),bPs]
    rw[nP (xs:=bK (LRun.mk s st args vars (vars.map LCol.name) vals) q) id (fun k x hk=>by
     have:=(zg.1 hk).1
     rw[cd (by decide) (by simp;omega),bPs];rfl),bPs,dl]
    refine⟨_,_,rfl,fun _=>⟨?_,by simpa using hlen,fun row hrow=>?_⟩⟩
    ·show cs.length<=20;rw[hcs e0];exact ki _ _
    ·show row.length=cs.length;rw[hcs e0];exact hrows.fits row (by simpa using hrow)
   ·rw[mt f0,zc]
    exact⟨_,_,rfl,fun h=>absurd h f0⟩
  ·rw[mt g0,zc]
   exact⟨_,_,rfl,fun h=>absurd h g0⟩
 ·rw[mt e0,zc]
  exact⟨_,_,rfl,fun h=>absurd h e0⟩
theorem ss{rows:Rows}(h:rows.length<=1000000):iE rows=some rows:=by
 unfold iE
 rw[rMa (xs:=rows) (s:=[]) (fun k=>rows.take k) Z (fun i y hi=>by
  have:=(zg.1 hi).1
  rw[cd (by decide) (by simp;omega),bPs,List.take_add_one,hi];rfl),bPs,dl,List.take_length]
theorem ux{t:LTable}(hsm:t.primaryKey.length<=10000000)(rows:Rows)(hl:rows.length<=100000)(key:Rq):
  ∃(i:Nat) (b:Bool),jd t rows key=some ((i:Int),b,rows)/\i<=rows.length/\(b=true->i<rows.length):=by
 unfold jd;rw[pw (by omega),bPs,Int.toNat_natCast]
 obtain⟨fl,hfl,hr⟩:=gv (step:=fun(j1:Nat) (_:Nat) (s1:Rz)=>
  ae (aG s1 (j1:Int)) fun(x16:Rq)=>
  ae (dA t x16) fun x20=>
  ae (dO x20 key) fun x22=>
  cond (decide (x22>=(0:Int)))
   (some (Flow.ret (σ:=Rz) ((j1:Int),(x22==(0:Int)),s1)))
   (some (.next s1))) (fun _ s=>s=rows) (fun r=>∃(i:Nat) (b:Bool),r=((i:Int),b,rows)/\i<rows.length) (List.range rows.length) 0 rows Z (fun k z s hk hI=>by
    have hkl:=(zg.1 hk).1;simp only[List.length_range]at hkl;simp only[Nat.zero_add]at hI⊢;subst hI
    obtain⟨k1,h1,l1⟩:=tL t s[k] hsm
    obtain⟨z,hz⟩:=qP k1 key (by rw[l1];exact hsm)
    rw[fI hkl,bPs,h1,bPs,hz,bPs];cases decide (z>=0)with
    |true=>exact⟨_,rfl,k,_,rfl,hkl⟩
    |false=>exact⟨_,rfl,rfl⟩)
 rw[hfl,bPs];cases fl with
 |brk s=>exact absurd hr (by simp)
 |ret r=>
  obtain⟨i,b,rfl,hi⟩:=hr
  exact⟨i,b,rfl,by omega,fun _=>hi⟩
 |next s=>
  simp only at hr;rw[hr]
  exact⟨rows.length,false,rfl,Nat.le_refl _,fun h=>by cases h⟩
theorem upsert_tot{t:LTable}(hsm:t.primaryKey.length<=10000000)(rows:Rows)(hl:rows.length<=1000)(row:Rq):
  ∃rs,jg t rows row=some rs/\rs.length<=rows.length+1/\∀x∈rs,x∈rows\/x=row:=by
 unfold jg
 obtain⟨k,hk,_⟩:=tL t row hsm
 obtain⟨i,b,hf,hi,hb⟩:=ux hsm rows (by omega) k
 rw[ss (by omega),bPs,hk,bPs,hf,bPs,el Z,bPs];cases b with
 |true=>
  have hi:=hb Z;simp only[zc];rw[fI hi,bPs,bV,Int.toNat_natCast]
  exact⟨_,rfl,by rw[List.length_set];omega,fun x hx=>(List.mem_or_eq_of_mem_set hx)⟩
 |false=>
  simp only[zd];unfold insI;rw[zp ⟨by omega,by omega,by omega⟩,Int.toNat_natCast]
  refine⟨_,rfl,by simp;omega,fun x hx=>?_⟩
  rcases List.mem_append.1 hx with h|h
  ·exact .inl (List.mem_of_mem_take h)
  ·rcases List.mem_cons.1 h with rfl|h
   ·exact .inr Z
   ·exact .inl (List.mem_of_mem_drop h)
theorem delete_tot{t:LTable}(hsm:t.primaryKey.length<=10000000)(rows:Rows)(hl:rows.length<=1000)(key:Rq):
  ∃rs b,jb t rows key=some (rs,b)/\rs.length<=rows.length/\∀x∈rs,x∈rows:=by
 unfold jb
 obtain⟨i,b,hf,hi,hb⟩:=ux hsm rows (by omega) key
 rw[ss (by omega),bPs,hf,bPs,el Z,bPs];cases b with
 |false=>exact⟨_,_,rfl,Nat.le_refl _,fun x hx=>hx⟩
 |true=>
  have hi:=hb Z;simp only[Bool.not_true,zd];rw[wW (by omega) (by omega)];unfold nN;rw[zp ⟨by omega,by omega,by omega⟩,bPs]
  refine⟨_,_,rfl,?_,fun x hx=>?_⟩
  ·simp;omega
  ·rcases List.mem_append.1 hx with h|h
   ·exact List.mem_of_mem_take h
   ·exact List.mem_of_mem_drop h
def Ok{α:Type}(o:Option α)(P:α->Prop):Prop:=∃v,o=some v/\P v
theorem Ok.mk{α:Type}{v:α}{P:α->Prop}(h:P v):Ok (some v) P:=⟨v,rfl,h⟩
theorem Ok.tot{α:Type}{o:Option α}(h:Tot o):Ok o fun _=>True:=by
 obtain⟨v,e⟩:=h
 exact⟨v,e,trivial⟩
theorem Ok.bind{α β:Type}{o:Option α}{k:α->Option β}{P:α->Prop}{Q:β->Prop}(h:Ok o P)(hk:∀v,P v->Ok (k v) Q):Ok (ae o k) Q:=by
 obtain⟨v,rfl,hv⟩:=h
 exact hk v hv
theorem Ok.cond{α:Type}{b:Bool}{x y:Option α}{Q:α->Prop}(hx:b=true->Ok x Q)(hy:b=false->Ok y Q):Ok (cond b x y) Q:=by
 cases b
 ·exact hy Z
 ·exact hx Z
theorem Ok.letP{α β:Type}{a:α}{k:α->Option β}{Q:β->Prop}(h:Ok (k a) Q):Ok (letP a k) Q:=h
def oS{σ ρ:Type}(N B:σ->Prop)(Q:ρ->Prop):Flow σ ρ->Prop
 | .next s=>N s
 | .brk s=>B s
 | .ret r=>Q r
theorem Ok.range{α σ ρ:Type}{step:Nat->α->σ->Option (Flow σ ρ)}{I:Nat->σ->Prop}{B:σ->Prop}{Q:ρ->Prop}:∀{xs:List α} {j:Nat} {s:σ},I j s->
  (∀k x s,xs[k]? =some x->I (j+k) s->Ok (step (j+k) x s) (oS (I (j+k+1)) B Q))->Ok (aU step j xs s) (oS (fun s=>I (j+xs.length) s\/B s) (fun _=>False) Q)
 |[],j,s,h,_=>⟨.next s,rfl,.inl (by simpa using h)⟩
 |x::xs,j,s,h,hs=>by
  obtain⟨fl,h1,h2⟩:=hs 0 x s Z (by simpa using h)
  rw[Nat.add_zero]at h1 h2;cases fl with
  |next s'=>
   obtain⟨fl,h3,h4⟩:=Ok.range (step:=step) (I:=I) (B:=B) (Q:=Q) (xs:=xs) (j:=j+1) (s:=s') h2 (fun k y t hk hI=>by
    have:=hs (k+1) y t (by simpa using hk) (by rw[show j+(k+1)=j+1+k from by omega];exact hI)
    rw[show j+(k+1)=j+1+k from by omega]at this;exact this)
   refine⟨fl,by rw[aU,h1];exact h3,?_⟩
   rw[show j+(x::xs).length=j+1+xs.length from by simp;omega];exact h4
  |brk s'=>exact⟨.next s',by rw[aU,h1],.inr h2⟩
  |ret r=>exact⟨.ret r,by rw[aU,h1],h2⟩
theorem Ok.thenR{σ ρ:Type}{fl:Flow σ ρ}{k:σ->Option ρ}{N B:σ->Prop}{Q R:ρ->Prop}(h:oS N B Q fl)(hk:∀s,N s\/B s->Ok (k s) R)(hr:∀r,Q r->R r):Ok (fl.thenR k) R:=by
 cases fl with
 |next s=>exact hk s (.inl h)
 |brk s=>exact hk s (.inr h)
 |ret r=>exact⟨r,rfl,hr r h⟩
theorem Ok.thenF{σ τ ρ:Type}{fl:Flow σ ρ}{k:σ->Option (Flow τ ρ)}{N B:σ->Prop}{Q Q':ρ->Prop}{N' B':τ->Prop}(h:oS N B Q fl)(hk:∀s,N s\/B s->Ok (k s) (oS N' B' Q'))(hr:∀r,Q r->Q' r):Ok (fl.thenF k) (oS N' B' Q'):=by
 cases fl with
 |next s=>exact hk s (.inl h)
 |brk s=>exact hk s (.inr h)
 |ret r=>exact⟨.ret r,rfl,hr r h⟩
theorem Ok.thenP{σ τ:Type}{fl:Flow σ Empty}{k:σ->Option τ}{N B:σ->Prop}{Q:Empty->Prop}{R:τ->Prop}(h:oS N B Q fl)(hk:∀s,N s\/B s->Ok (k s) R):Ok (fl.thenP k) R:=by
 cases fl with
 |next s=>exact hk s (.inl h)
 |brk s=>exact hk s (.inr h)
 |ret r=>exact r.elim
theorem Ok.get{α:Type}{xs:List α}{i:Int}(h0:0<=i)(h:i<xs.length):Ok (aG xs i) fun x=>xs[i.toNat]? =some x:=by
 obtain⟨x,hx⟩:=Tot.get h0 h
 exact⟨x,hx,(gIs hx).2⟩
structure WriteOk(S:LSchema)(x:LProcedureStatement):Prop where
 tab:0<=br (fun t:LTable=>t.name==x.table) S.tables
 names:x.kind=5->∀t,S.tables[(br (fun t:LTable=>t.name==x.table) S.tables).toNat]? =some t->∀n∈x.names,0<=br (fun c:LCol=>c.name==n) t.columns
inductive GoodL(S:LSchema):List LProcedureStatement->Prop
 |mk {l:List LProcedureStatement} (h1:∀s∈l,ShapeP s) (h2:∀s∈l,s.kind=4\/s.kind=5\/s.kind=6->WriteOk S s) (h3:∀s∈l,s.kind=2->GoodL S s.body) (h4:∀s∈l,s.kind=2->GoodL S s.elseF)
   (h5:∀s∈l,s.kind=3->GoodL S s.body):GoodL S l
structure GoodS(S:LSchema)(s:LProcedureStatement):Prop where
 shape:ShapeP s
 write:s.kind=4\/s.kind=5\/s.kind=6->WriteOk S s
 yes:s.kind=2->GoodL S s.body
 no:s.kind=2->GoodL S s.elseF
 each:s.kind=3->GoodL S s.body
theorem GoodL.of{S:LSchema}{l:List LProcedureStatement}(h:∀s∈l,GoodS S s):GoodL S l:=
 ⟨fun s hs=>(h s hs).shape,fun s hs=>(h s hs).write,fun s hs=>(h s hs).yes,fun s hs=>(h s hs).no,fun s hs=>(h s hs).each⟩
theorem GoodL.at{S:LSchema}{l:List LProcedureStatement}(h:GoodL S l):∀s∈l,GoodS S s:=by
 cases h with
 |mk h1 h2 h3 h4 h5=>exact fun s hs=>⟨h1 s hs,h2 s hs,h3 s hs,h4 s hs,h5 s hs⟩
theorem write_ok(c:LProcedureChecker)(vars:List LCol){s:LProcedureStatement}(hs:ShapeP s)(hk:s.kind=4\/s.kind=5\/s.kind=6):Ok (gC c vars s) fun e=>e=0->WriteOk c.s s:=by
 unfold gC;refine Ok.bind (P:=fun tb=>tb.2=true->0<=br (fun t:LTable=>t.name==s.table) c.s.tables/\c.s.tables[(br (fun t:LTable=>t.name==s.table) c.s.tables).toNat]? =some tb.1) ?_ fun tb htb=>?_
 ·unfold iM;rw[qH,bPs];refine Ok.cond (fun _=>Ok.mk fun h=>by cases h) fun h=>?_
  have h0:0<=br (fun a0=>eW a0 s.table) c.s.tables:=by simpa using h
  obtain⟨x,hx,_⟩:=ji h0
  rw[lw h0 hx,bPs];exact Ok.mk fun _=>⟨h0,hx⟩
 refine Ok.cond (fun _=>Ok.mk fun h=>absurd h (by decide)) fun hf=>?_
 obtain⟨hi,hget⟩:=htb (by simpa using hf)
 refine Ok.bind (P:=oS (fun _=>True) (fun _=>False) fun r=>r≠0) ?_ fun fl hfl=>Ok.thenR hfl (fun _ _=>?_) fun r hr h=>absurd h hr
 ·refine Ok.cond (fun h=>?_) fun _=>Ok.mk trivial
  have h4:s.kind≠4:=by simpa using h
  have hw:=hs.wher (by omega);refine Ok.bind (Ok.get (by omega) (by omega)) fun _ _=>Ok.bind (Ok.tot (pred_tot c _ vars _)) fun x _=>Ok.cond (fun h=>Ok.mk ?_) fun _=>Ok.mk trivial
  show x≠0;simpa using h
 refine Ok.letP (Ok.cond (fun _=>Ok.mk fun h=>absurd h (by decide)) fun ht=>?_);refine Ok.bind (Ok.range (I:=fun j _=>s.kind=5->∀k n,k<j->s.names[k]? =some n->0<=br (fun a:LCol=>a.name==n) tb.1.columns) (B:=fun _=>False) (Q:=fun r=>r≠0) (fun _ k n h=>absurd h (by omega)) fun j x u hj hI=>?_) fun fl hfl=>Ok.thenR hfl (fun u hu=>Ok.mk fun _=>?_) fun r hr h=>absurd h hr
 ·simp only[Nat.zero_add]at hI⊢;have hjl:=(zg.1 hj).1;refine Ok.bind (P:=oS (fun t=>0<=t.1/\t.1<(tb.1.columns.length:Int)/\(s.kind=5->∀n,s.names[j]? =some n->0<=br (fun a:LCol=>a.name==n) tb.1.columns)) (fun _=>False) fun r=>r≠0) ?_ fun fl5 h5=>Ok.thenF h5 (fun t ht=>?_) fun _ h=>h
  ·refine Ok.cond (fun h5=>?_) fun h5=>Ok.mk ?_
   ·have k5:s.kind=5:=by simpa using h5
    have hn:j<s.names.length:=by rw[<-hs.upd k5];exact hjl
    have hg:aG s.names (j:Int)=some s.names[j]:=lw (by omega) (by simp[hn])
    have hix:bO tb.1.columns (fun a0=>eX a0 s (j:Int))=some (br (fun a=>a.name==s.names[j]) tb.1.columns):=idxF fun a _=>by
     unfold eX;rw[hg,bPs]
    rw[hix,bPs];refine Ok.cond (fun _=>Ok.mk (show(23:Int)≠0 from by decide)) fun h0=>?_
    have h0':0<=br (fun a:LCol=>a.name==s.names[j]) tb.1.columns:=by simpa using h0
    obtain⟨x76,h76⟩:=Tot.sub (xs:=s.names) (a:=0) (b:=(j:Int)) ⟨by omega,by omega,by omega⟩
    rw[h76,bPs,hg,bPs];refine Ok.bind (Ok.tot (uO x76 s.names[j])) fun _ _=>Ok.cond (fun _=>Ok.mk (show(9:Int)≠0 from by decide)) fun _=>?_
    rw[tH,bPs];refine Ok.cond (fun _=>Ok.mk (show(9:Int)≠0 from by decide)) fun _=>Ok.mk ?_
    obtain⟨y,hy,_⟩:=ji (p:=fun a:LCol=>a.name==s.names[j]) (l:=tb.1.columns) h0'
    have:=(zg.1 hy).1
    refine⟨h0',by show br _ _<_;omega,fun _ n hnn=>?_⟩
    rw[ze hn]at hnn;cases hnn;exact h0'
   ·have k5:s.kind≠5:=by simpa using h5
    have h6:s.kind≠6:=fun e=>by have:=hs.del e;omega
    have h4:s.kind=4:=by omega
    rw[ld h4,zc]at ht
    have:(s.exprs.length:Int)=tb.1.columns.length:=by simpa using ht
    exact⟨by show(0:Int)<=(j:Int);omega,by show(j:Int)<_;omega,fun e=>absurd e k5⟩
  ·obtain⟨a,b,hc⟩:=ht.resolve_right id
   have nxt:s.kind=5->∀k n,k<j+1->s.names[k]? =some n->0<=br (fun a:LCol=>a.name==n) tb.1.columns:=by
    intro k5 k n hkj hkn;by_cases hkk:k<j
    ·exact hI k5 k n hkk hkn
    ·rw[show k=j from by omega]at hkn;exact hc k5 n hkn
   refine Ok.bind (Ok.tot (rc c t.2 vars x)) fun v _=>Ok.cond (fun h=>Ok.mk ?_) fun _=>Ok.cond (fun _=>Ok.bind (Ok.get a b) fun _ _=>Ok.cond (fun _=>Ok.mk (show(7:Int)≠0 from by decide)) fun _=>Ok.mk nxt) fun _=>Ok.mk nxt
   show v.2.2≠0;simpa using h
 ·refine⟨hi,fun k5 t hgt n hn=>?_⟩
  rw[hget]at hgt;cases hgt;have hu:=(hu.resolve_right id).resolve_right id;simp only[Nat.zero_add]at hu
  obtain⟨k,hk,rfl⟩:=List.mem_iff_getElem.1 hn
  exact hu k5 k _ (by rw[hs.upd k5];exact hk) (ze hk)
theorem query_bulk{s:LProcedureStatement}{q:LQuery}(hb:bT (aH s)<=1048576)(hq:q∈s.query):TinyQ q:=by
 rw[dr]at hb;have h1:=lq (List.mem_map_of_mem (f:=dI) hq);simp only[aE,bT,PV.bulk]at hb;rw[dd]at h1;exact tiny_bulk (n:=1048576) (by omega) (by omega)
theorem qL{s x:LProcedureStatement}(hb:bT (aH s)<=1048576)(hx:x∈s.body\/x∈s.elseF):bT (aH x)<=1048576:=by
 rw[dr]at hb;simp only[aE,bT,PV.bulk]at hb;rcases hx with hx|hx
 ·have h1:=lq (List.mem_map_of_mem (f:=aH) hx);omega
 ·have h1:=lq (List.mem_map_of_mem (f:=aH) hx);omega
theorem stmt_ok{c:LProcedureChecker}{s:LProcedureStatement}(hs:ShapeP s)(hb:bT (aH s)<=1048576){vars:List LCol}(hl:vars.length+21*(1+gE s.body+gE s.elseF)<=10000)
  (h1:∀v:List LCol,v.length+21*gE s.body<=10000->Ok (bN c v s.body) fun r=>r.2=0->GoodL c.s s.body) (h2:∀v:List LCol,v.length+21*gE s.elseF<=10000->Ok (bN c v s.elseF) fun r=>r.2=0->GoodL c.s s.elseF):
  Ok (cX bN cx c vars s) fun r=>r.1.length<=vars.length+1/\(r.2=0->GoodS c.s s):=by
 have bad:∀e:Int,e≠0->(([]:List LCol),e).1.length<=vars.length+1/\((([]:List LCol),e).2=0->GoodS c.s s):=fun e he=>⟨by simp,fun h=>absurd h he⟩
 unfold cX;by_cases k1:s.kind=1
 ·have good:GoodS c.s s:=⟨hs,fun h=>by omega,fun h=>by omega,fun h=>by omega,fun h=>by omega⟩
  rw[ld k1,zc];refine Ok.bind (Ok.get (by omega) (by have:=hs.one (.inl k1);omega)) fun x _=>Ok.bind (Ok.tot (rc c ([]:List LCol) vars x)) fun y _=>Ok.letP ?_
  refine Ok.cond (fun _=>Ok.mk (bad _ (by decide))) fun _=>Ok.cond (fun h=>Ok.mk (bad _ (by simpa using h))) fun _=>Ok.cond (fun _=>Ok.mk (bad _ (by decide))) fun _=>?_
  obtain⟨v,hv,hvl⟩:=set_tot (vars:=vars) (x:=LCol.mk s.name y.1 y.2.1) (by omega)
  rw[hv,bPs];exact Ok.mk ⟨hvl,fun _=>good⟩
 rw[dm k1,zd];by_cases k2:s.kind=2
 ·rw[ld k2,zc];refine Ok.bind (Ok.get (by omega) (by have:=hs.one (.inr k2);omega)) fun x _=>Ok.bind (Ok.tot (pred_tot c ([]:List LCol) vars x)) fun y _=>Ok.cond (fun h=>Ok.mk (bad _ (by simpa using h))) fun _=>?_
  refine Ok.bind (h1 vars (by omega)) fun a ha=>Ok.cond (fun h=>Ok.mk (bad _ (by simpa using h))) fun ha0=>Ok.bind (h2 vars (by omega)) fun b hb'=>Ok.mk ⟨by simp,fun h=>?_⟩
  exact⟨hs,fun h=>by omega,fun _=>ha (by simpa using ha0),fun _=>hb' h,fun h=>by omega⟩
 rw[dm k2,zd,bV];by_cases k3:s.kind=3\/s.kind=7
 ·have e3:(cond (s.kind==(3:Int)) (s.kind==(3:Int)) (s.kind==(7:Int)))=true:=by rcases k3 with k|k<;>rw[k]<;>rfl
  rw[e3,zc]
  obtain⟨x,hx⟩:=Tot.get (xs:=s.query) (i:=0) (by omega) (by have:=hs.query k3;omega)
  have hxm:x∈s.query:=ek (gIs hx).2;have ht:=query_bulk hb hxm
  obtain⟨cs,e,hc,_,hcs⟩:=check_eq (s:=c.s) (vars:=vars) ht.small
  obtain⟨g,hg⟩:=given_tot (c:=c) (q:=x) (by have:=ht.nodes;omega)
  rw[hx,bPs,hc,bPs];refine Ok.cond (fun h=>Ok.mk (bad _ (by simpa using h))) fun he=>?_
  have he:e=0:=by simpa using he
  have hcl:cs.length<=20:=by rw[hcs he];exact ki _ _
  rw[bPs,hg,bPs];refine Ok.cond (fun h=>Ok.mk (bad _ (by simpa using h))) fun _=>?_
  refine Ok.bind (Ok.range (I:=fun j t=>t.length<=vars.length+j) (B:=fun _=>False) (Q:=fun _=>False) (by omega) fun k y t hk hI=>?_) fun fl hfl=>Ok.thenP hfl fun t ht=>?_
  ·have hkl:k<cs.length:=(zg.1 hk).1;have hI:t.length<=vars.length+(0+k):=hI
   obtain⟨v,hv,hvl⟩:=set_tot (vars:=t) (x:=y) (by omega)
   rw[hv,bPs];exact Ok.mk (show v.length<=_ by omega)
  ·have ht:t.length<=vars.length+(0+cs.length):=(ht.resolve_right id).resolve_right id;refine Ok.bind (h1 t (by omega)) fun b hb'=>Ok.mk ⟨by simp,fun h=>?_⟩
   exact⟨hs,fun h=>by omega,fun h=>by omega,fun h=>by omega,fun _=>hb' h⟩
 have e3:(cond (s.kind==(3:Int)) (s.kind==(3:Int)) (s.kind==(7:Int)))=false:=by rw[dm (fun e=>k3 (.inl e)),zd,dm (fun e=>k3 (.inr e))]
 rw[e3,zd,bV];by_cases k4:s.kind=4\/s.kind=5\/s.kind=6
 ·have e4:(cond (s.kind==(4:Int)) (s.kind==(4:Int)) (cond (s.kind==(5:Int)) (s.kind==(5:Int)) (s.kind==(6:Int))))=true:=by rcases k4 with k|k|k<;>rw[k]<;>rfl
  rw[e4,zc];refine Ok.bind (write_ok c vars hs k4) fun w hw=>Ok.mk ⟨by simp,fun h=>?_⟩
  exact⟨hs,fun _=>hw h,fun h=>by omega,fun h=>by omega,fun h=>by omega⟩
 ·have e4:(cond (s.kind==(4:Int)) (s.kind==(4:Int)) (cond (s.kind==(5:Int)) (s.kind==(5:Int)) (s.kind==(6:Int))))=false:=by
   rw[dm (fun e=>k4 (.inl e)),zd,dm (fun e=>k4 (.inr (.inl e))),zd,dm (fun e=>k4 (.inr (.inr e)))]
  rw[e4,zd];exact Ok.mk ⟨by simp,fun _=>⟨hs,fun h=>absurd h k4,fun h=>absurd h k2,fun h=>absurd h k2,fun h=>absurd (.inl h) k3⟩⟩
theorem body_ok(c:LProcedureChecker):∀l:List LProcedureStatement,(∀s∈l,bT (aH s)<=1048576)->∀vars:List LCol,vars.length+21*gE l<=10000->Ok (bN c vars l) fun r=>r.2=0->GoodL c.s l:=by
 refine qu fun l ih hb vars hl=>?_
 rw[(body_both l).2.1];unfold dJ;refine Ok.bind (Ok.range (I:=fun j t=>t.length+21*gE l<=vars.length+21*gE l+gE (l.take j)/\∀s∈l.take j,GoodS c.s s) (B:=fun _=>False) (Q:=fun r=>r.2≠0) ⟨by omega,by simp⟩ fun k x t hk hI=>?_) fun fl hfl=>Ok.thenR hfl (fun t ht=>Ok.mk fun _=>?_) fun r hr h=>absurd h hr
 ·simp only[Nat.zero_add]at hI⊢;have hx:=ek hk
  obtain⟨b,hbs⟩:=shapeP_tot x
  rw[hbs,bPs];cases b with
  |false=>exact Ok.mk (show(3:Int)≠0 from by decide)
  |true=>
   have hsh:=shapeP_ok hbs
   obtain⟨c1,c2⟩:=cntS_take hk
   have hm:=cntS_mem hx
   have hst:=stmt_ok (c:=c) (vars:=t) hsh (hb x hx) (by have:=hI.1;omega)
    (fun v hv=>(ih x hx).1 (fun y hy=>qL (hb x hx) (.inl hy)) v hv) (fun v hv=>(ih x hx).2 (fun y hy=>qL (hb x hx) (.inr hy)) v hv)
   rw[<-(body_both l).2.2 x hx]at hst;simp only[Bool.not_true,zd];refine Ok.bind hst fun v hv=>Ok.cond (fun h=>Ok.mk (show v.2≠0 by simpa using h)) fun h=>Ok.mk ⟨by have:=hI.1;have:=hv.1;omega,?_⟩
   intro y hy;rw[List.take_add_one,hk,List.mem_append]at hy;rcases hy with hy|hy
   ·exact hI.2 y hy
   ·simp at hy;rw[hy];exact hv.2 (by simpa using h)
 ·have ht:=(ht.resolve_right id).resolve_right id;simp only[Nat.zero_add,List.take_length]at ht;exact GoodL.of ht.2
structure InstLen(s:LSchema)(st:List LRelation):Prop where
 len:st.length=s.tables.length
 tab:∀(i:Nat) (r:LRelation) (t:LTable),st[i]? =some r->s.tables[i]? =some t->r.rows.length<=24/\∀row∈r.rows,row.length=t.columns.length
theorem InstOk.lens{s:LSchema}{st:List LRelation}(h:InstOk s st):InstLen s st:=
 ⟨h.len,fun i r t h1 h2=>⟨(h.tab i r t h1 h2).2.1,fun row hr=>((h.tab i r t h1 h2).2.2 row hr).1⟩⟩
theorem InstLen.set{s:LSchema}{st:List LRelation}(h:InstLen s st){i:Nat}{t:LTable}(ht:s.tables[i]? =some t){r:LRelation}(hr:st[i]? =some r){rows:Rows}(h24:rows.length<=24)(hl:∀row∈rows,row.length=t.columns.length):
  InstLen s (st.set i ⟨r.table,rows⟩):=by
 refine⟨by rw[List.length_set];exact h.len,fun k r' t' h1 h2=>?_⟩
 by_cases hk:k=i
 ·subst hk;rw[List.getElem?_set_self (zg.1 hr).1]at h1;rw[ht]at h2;cases h1;cases h2
  exact⟨h24,hl⟩
 ·rw[List.getElem?_set_ne (Ne.symm hk)]at h1;exact h.tab k r' t' h1 h2
theorem InstLen.at{s:LSchema}{st:List LRelation}(h:InstLen s st){i:Nat}{t:LTable}(ht:s.tables[i]? =some t):∃r,st[i]? =some r/\r.rows.length<=24/\∀row∈r.rows,row.length=t.columns.length:=by
 have hi:=(zg.1 ht).1;have hi2:i<st.length:=by have:=h.len;omega
 have hr:st[i]? =some st[i]:=ze hi2
 exact⟨_,hr,h.tab i _ t hr ht⟩
structure BaseS(s:LSchema):Prop where
 val:gw s=some 0
 six:s.tables.length<=6
 tabs:∀t∈s.tables,TableOk t
theorem BaseS.small{s:LSchema}(h:BaseS s):SmallS s:=fun t ht=>by have:=(h.tabs t ht).few;omega
theorem clone_st{s:LSchema}{st:List LRelation}(hI:InstLen s st)(h6:s.tables.length<=6):jy st=some st:=by
 unfold jy;have hl:=hI.len
 rw[rMa (xs:=st) (s:=[]) (fun k=>st.take k) Z (fun k x hk=>by
  have hkl:=(zg.1 hk).1;have hx:=(hI.tab k x s.tables[k] hk (ze (by omega))).1;rw[ss (by omega),bPs,cd (by decide) (by simp;omega),bPs,List.take_add_one,hk];rfl),bPs,dl,List.take_length]
theorem validKey_tot{t:LTable}(h:TableOk t)(key:Rq):Tot (iT t key):=by
 unfold iT;refine Tot.cond (fun _=>Tot.mk) fun hl=>?_
 have hl:key.length=t.primaryKey.length:=by
  have:(key.length:Int)=t.primaryKey.length:=by simpa using hl
  omega
 refine Tot.bind (Tot.range _ _ _ fun k x s hk=>?_) fun fl _=>Tot.thenR fun _ _=>Tot.mk
 have hkl:=(zg.1 hk).1;have hkp:k<t.primaryKey.length:=by omega
 rw[Nat.zero_add,fI hkp,bPs]
 obtain⟨a,b⟩:=h.pk t.primaryKey[k] (List.getElem_mem _)
 exact Tot.letP (Tot.cond (fun _=>Tot.mk) fun _=>Tot.bind (Tot.get a b) fun _ _=>Tot.cond (fun _=>Tot.mk) fun _=>Tot.mk)
theorem change_valid{s:LSchema}(h:BaseS s)(c:LChange):Ok (jc s c) fun e=>e=0->∃(i:Nat) (t:LTable),s.tables[i]? =some t/\dZ s c.table=some ((i:Int),true)/\(c.kind=1->c.row.length=t.columns.length):=by
 unfold jc;refine Ok.letP (Ok.cond (fun _=>Ok.mk fun h=>absurd h (by decide)) fun _=>?_);rw[oq,bPs];refine Ok.cond (fun _=>Ok.mk fun h=>absurd h (by decide)) fun hf=>?_
 have h0:0<=br (fun t=>cE t c.table) s.tables:=by simpa using hf
 obtain⟨t,ht,_⟩:=ji h0
 have hg:aG s.tables (br (fun t=>cE t c.table) s.tables)=some t:=lw h0 ht;rw[oZ h0,zt (show br (fun t=>cE t c.table) s.tables>=0 from h0)];have e:br (fun t=>cE t c.table) s.tables=((br (fun t=>cE t c.table) s.tables).toNat:Int):=by omega
 refine Ok.cond (fun h1=>?_) fun h1=>?_
 ·simp only;rw[hg,bPs]
  obtain⟨f,hf,hfit⟩:=uq t c.row
  rw[hf,bPs];exact Ok.mk fun h0=>⟨_,t,ht,by rw[<-e],fun _=>(hfit h0).1⟩
 ·simp only;rw[hg,bPs];refine Ok.bind (Ok.tot (validKey_tot (h.tabs t (ek ht)) c.key)) fun x _=>Ok.mk fun _=>⟨_,t,ht,by rw[<-e],fun k=>?_⟩
  rw[k]at h1;cases h1
def mE(sA:LSchema)(_:Nat)(x1:LChange)(s1:List LRelation):Option (Flow (List LRelation) ((List LRelation)×Int)):=
 ae (jc sA x1) fun x42=>
 cond (x42 !=(0:Int))
  (some (.ret ([],x42)))
  (ae (dZ sA x1.table) fun x50=>
  ae (aG sA.tables x50.1) fun(x56:LTable)=>
  cond (x1.kind==(1:Int))
   (ae (aG s1 x50.1) fun(x66:LRelation)=>
   ae (jg x56 x66.rows x1.row) fun x71=>
   ae (aG s1 x50.1) fun(x72:LRelation)=>
   letP (s1.set x50.1.toNat (LRelation.mk x72.table x71)) fun(y6:List LRelation)=>
   ae (aG y6 x50.1) fun(x76:LRelation)=>
   cond (decide ((x76.rows.length:Int)>(24:Int)))
    (some (.ret ([],2)))
    (some (.next y6)))
   (ae (aG s1 x50.1) fun(x87:LRelation)=>
   ae (jb x56 x87.rows x1.key) fun x92=>
   ae (aG s1 x50.1) fun(x95:LRelation)=>
   letP (s1.set x50.1.toNat (LRelation.mk x95.table x92.1)) fun(y7:List LRelation)=>
   cond (!x92.2)
    (some (.ret ([],9)))
    (some (.next y7))))
theorem apply_is(s:LSchema)(st:List LRelation)(cs:List LChange):kl s st cs=ae (gw s) fun x19=>cond (x19 !=(0:Int)) (some ([],x19)) (ae (eR s st) fun x25=>cond (x25 !=(0:Int)) (some ([],x25)) (cond (decide ((cs.length:Int)>(24:Int))) (some ([],2))
   (ae (jy st) fun x33=>ae (aU (mE s) 0 cs x33) fun fl1=>fl1.thenR fun(s1:List LRelation)=>some (s1,0)))):=rfl
theorem step_ok{s:LSchema}(hb:BaseS s)(j:Nat)(c:LChange){S:List LRelation}(hS:InstLen s S):Ok (mE s j c S) (oS (InstLen s) (fun _=>False) fun r=>r.2≠0):=by
 unfold mE;refine Ok.bind (change_valid hb c) fun e he=>Ok.cond (fun h=>Ok.mk (show e≠0 by simpa using h)) fun h=>?_
 obtain⟨i,t,ht,hf,hrow⟩:=he (by simpa using h)
 obtain⟨r,hr,h24,hlen⟩:=hS.at ht
 have hsm:=hb.small t (ek ht);rw[hf,bPs];simp only[Int.toNat_natCast];rw[jw ht,bPs];refine Ok.cond (fun h1=>?_) fun h1=>?_
 ·obtain⟨rs,hrs,hl,hm⟩:=upsert_tot hsm r.rows (by omega) c.row
  rw[jw hr,bPs,hrs,bPs,bPs,bV,jw (List.getElem?_set_self (zg.1 hr).1),bPs];refine Ok.cond (fun _=>Ok.mk (show(2:Int)≠0 from by decide)) fun h2=>Ok.mk (hS.set ht hr ?_ fun row hrw=>?_)
  ·have:¬(rs.length:Int)>24:=by simpa using h2
   omega
  ·rcases hm row hrw with h|rfl
   ·exact hlen row h
   ·exact hrow (by simpa using h1)
 ·obtain⟨rs,b,hrs,hl,hm⟩:=delete_tot hsm r.rows (by omega) c.key
  rw[jw hr,bPs,hrs,bPs,bPs,bV];exact Ok.cond (fun _=>Ok.mk (show(9:Int)≠0 from by decide)) fun _=>Ok.mk (hS.set ht hr (show rs.length<=24 by omega) fun row hrw=>hlen row (hm row hrw))
theorem apply_one{s:LSchema}(hb:BaseS s){st:List LRelation}(hS:InstLen s st)(c:LChange):Ok (kl s st [c]) fun x=>x.2=0->InstLen s x.1/\mE s 0 c st=some (.next x.1):=by
 rw[apply_is,hb.val,bPs,pB Z,zd]
 obtain⟨f,hf,_⟩:=conforms hb.small st
 rw[hf,bPs];refine Ok.cond (fun h=>Ok.mk fun h0=>absurd h0 (by simpa using h)) fun _=>?_
 rw[show decide ((([c]:List LChange).length:Int)>24)=false from Z,zd,clone_st hS hb.six,bPs]
 obtain⟨fl,h1,h2⟩:=step_ok hb 0 c hS
 simp only[aU,h1];cases fl with
 |next S'=>exact Ok.mk fun _=>⟨h2,rfl⟩
 |brk S'=>exact h2.elim
 |ret r=>exact Ok.mk fun h=>absurd h h2
theorem un{α σ ρ:Type}{step:Nat->α->σ->Option (Flow σ ρ)}(hj:∀j x s,step j x s=step 0 x s):∀{xs:List α} {j:Nat} {s t u:σ} {y:α},aU step j xs s=some (.next t)->(∀j x s s',step j x s≠some (.brk s'))->step 0 y t=some (.next u)->aU step j (xs++[y]) s=some (.next u)
 |[],j,s,t,u,y,h,_,h2=>by
  simp only[aU,zo,Flow.next.injEq]at h;subst h;simp only[List.nil_append,aU];rw[hj,h2]
 |x::xs,j,s,t,u,y,h,hb,h2=>by
  rw[List.cons_append];simp only[aU]at h⊢;cases hx:step j x s with
  |none=>rw[hx]at h;cases h
  |some fl=>
   rw[hx]at h;cases fl with
   |next s'=>exact un hj h hb h2
   |brk s'=>exact absurd hx (hb _ _ _ _)
   |ret r=>cases h
theorem step_brk(s:LSchema)(j:Nat)(c:LChange)(S S':List LRelation):mE s j c S≠some (.brk S'):=by
 intro h;unfold mE at h
 obtain⟨e,_,h⟩:=am h
 cases he:(e !=(0:Int))with
 |true=>rw[he]at h;cases h
 |false=>
  rw[he,zd]at h
  obtain⟨f,_,h⟩:=am h
  obtain⟨t,_,h⟩:=am h
  cases hk:(c.kind==(1:Int))with
  |true=>
   rw[hk,zc]at h
   obtain⟨_,_,h⟩:=am h
   obtain⟨_,_,h⟩:=am h
   obtain⟨_,_,h⟩:=am h
   rw[bV]at h
   obtain⟨r,_,h⟩:=am h
   cases hd:decide ((r.rows.length:Int)>(24:Int))with
   |true=>rw[hd]at h;cases h
   |false=>rw[hd]at h;cases h
  |false=>
   rw[hk,zd]at h
   obtain⟨_,_,h⟩:=am h
   obtain⟨x,_,h⟩:=am h
   obtain⟨_,_,h⟩:=am h
   rw[bV]at h;cases hd:(!x.2)with
   |true=>rw[hd]at h;cases h
   |false=>rw[hd]at h;cases h
structure Inv(s:LSchema)(st0:List LRelation)(T:Rs)(n:Nat)(r:LProcedureRun):Prop where
 sch:r.s=s
 vals:r.vals.length=r.vars.length
 few:r.vars.length<=n
 st:InstLen s r.st
 ch:aU (mE s) 0 r.changes st0=some (.next r.st)
 chl:r.changes.length<=24
 tab:∀c∈r.changes,c.table∈T
 res:r.results.length<=8
 left:0<=r.left/\r.left<=400
section
variable{s:LSchema}{st0:List LRelation}{T:Rs}{n:Nat}{r:LProcedureRun}
theorem Inv.mono{m:Nat}(h:Inv s st0 T n r)(hm:n<=m):Inv s st0 T m r:=
 ⟨h.sch,h.vals,Nat.le_trans h.few hm,h.st,h.ch,h.chl,h.tab,h.res,h.left⟩
theorem Inv.vars{m:Nat}{q:LProcedureRun}(h:Inv s st0 T n r)(hq:Inv s st0 T m q):Inv s st0 T n (LProcedureRun.mk q.s q.st q.args r.vars r.vals q.changes q.results q.left q.stopped):=
 ⟨hq.sch,h.vals,h.few,hq.st,hq.ch,hq.chl,hq.tab,hq.res,hq.left⟩
theorem rP(h:Inv s st0 T n r)(hn:n<=100000)(cols:List LCol)(row:Rq)(e:LExpr):∃v,eG r cols row e=some (v,r):=by
 unfold eG
 rw[nP (xs:=r.vars) LCol.name (fun k x hk=>by
  have:=(zg.1 hk).1
  have:=h.few
  rw[cd (by decide) (by simp;omega),bPs]),bPs,dl,bV]
 exact⟨_,rfl⟩
theorem set_is(hI:Inv s st0 T n r)(hn:n<=100000)(c:LCol)(v:LVal):Ok (im r c v) (Inv s st0 T (n+1)):=by
 unfold im;have hf:=hI.few;have hv:=hI.vals;rw[sC,bPs];refine Ok.cond (fun h=>?_) fun _=>?_
 ·have h0:0<=br (fun a=>fG a c) r.vars:=by simpa using h
  obtain⟨x,hx,_⟩:=ji h0
  have hlt:=(zg.1 hx).1;clear hx h;generalize br (fun a=>fG a c) r.vars=z at h0 hlt;rw[wW (by omega) (by omega)];unfold nN;rw[zp ⟨by omega,by omega,by omega⟩,bPs,zp ⟨by omega,by omega,by omega⟩,bPs,cd (by decide) (by simp;omega),bPs,cd (by decide) (by simp;omega),bPs];exact Ok.mk ⟨hI.sch,by simp;omega,by simp;omega,hI.st,hI.ch,hI.chl,hI.tab,hI.res,hI.left⟩
 ·rw[cd (by decide) (by simp;omega),bPs,cd (by decide) (by simp;omega),bPs];exact Ok.mk ⟨hI.sch,by simp;omega,by simp;omega,hI.st,hI.ch,hI.chl,hI.tab,hI.res,hI.left⟩
theorem write_is(hb:BaseS s)(hI:Inv s st0 T n r){c:LChange}(hc:c.table∈T):Ok (gI r c) fun x=>x.1=0->Inv s st0 T n x.2:=by
 unfold gI;refine Ok.cond (fun _=>Ok.mk fun h=>absurd h (show ¬(2:Int)=0 from by decide)) fun h24=>?_
 have h24:¬(r.changes.length:Int)=24:=by simpa using h24
 have hl:=hI.chl;rw[hI.sch];refine Ok.bind (apply_one hb hI.st c) fun y hy=>Ok.cond (fun h=>Ok.mk fun h0=>absurd h0 (by simpa using h)) fun h=>?_
 obtain⟨h1,h2⟩:=hy (by simpa using h)
 rw[cd (by decide) (by simp;omega),bPs];refine Ok.mk fun _=>⟨rfl,hI.vals,hI.few,h1,un (fun _ _ _=>rfl) hI.ch (step_brk s) h2,by simp;omega,fun d hd=>?_,hI.res,hI.left⟩
 rcases List.mem_append.1 hd with hd|hd
 ·exact hI.tab d hd
 ·rw[List.mem_singleton.1 hd];exact hc
theorem rows_is(hb:BaseS s)(hI:Inv s st0 T n r)(hn:n<=100000){x:LProcedureStatement}(hg:GoodS s x)(hk:x.kind=5\/x.kind=6)(hT:x.table∈T):Ok (iS r x) fun y=>y.1=0->Inv s st0 T n y.2:=by
 unfold iS;have hw:=hg.write (by omega);rw[qH,bPs,hI.sch,show br (fun a0=>gu a0 x) s.tables=br (fun t:LTable=>t.name==x.table) s.tables from Z];have h0:=hw.tab
 obtain⟨t,ht,_⟩:=ji h0
 have hnames:=fun k5=>hw.names k5 t ht
 clear hw;generalize br (fun t:LTable=>t.name==x.table) s.tables=z at h0 ht
 obtain⟨i,rfl⟩:∃i:Nat,z=(i:Int):=⟨z.toNat,by omega⟩
 rw[Int.toNat_natCast]at ht
 obtain⟨rel,hr,_,hlen⟩:=hI.st.at ht
 have hok:=hb.tabs t (ek ht);rw[jw ht,bPs,jw hr,bPs];refine Ok.bind (Ok.range (I:=fun _ r'=>Inv s st0 T n r') (B:=fun _=>False) (Q:=fun y=>y.1≠0) hI fun k row r1 hk1 hI1=>?_) fun fl hfl=>Ok.thenR hfl (fun r1 h1=>Ok.mk fun _=>(h1.resolve_right id).resolve_right id) fun y hy h=>absurd h hy
 have hrow:=hlen row (ek hk1);refine Ok.bind (Ok.get (by omega) (by have:=hg.shape.wher hk;omega)) fun e _=>?_
 obtain⟨v,hv⟩:=rP hI1 hn t.columns row e
 rw[hv,bPs];refine Ok.letP (Ok.cond (fun _=>Ok.mk hI1) fun _=>?_);refine Ok.bind (Ok.range (I:=fun j l=>l.length<=j) (B:=fun _=>False) (Q:=fun _=>True) (Nat.le_refl 0) fun j p l hj hl=>?_) fun fl hfl=>Ok.thenP hfl fun key _=>?_
 ·obtain⟨a,b⟩:=hok.pk p (ek hj)
  have hjl:=(zg.1 hj).1
  have:=hok.few
  refine Ok.bind (Ok.get a (by omega)) fun y _=>?_
  rw[cd (by decide) (by simp;omega),bPs];exact Ok.mk (show(l++[y]).length<=_ by simp;omega)
 refine Ok.bind (P:=fun q=>Inv s st0 T n q.1) ?_ fun y hy=>?_
 ·refine Ok.cond (fun h5=>?_) fun _=>Ok.mk hI1
  have k5:x.kind=5:=by simpa using h5
  refine Ok.bind (Ok.range (I:=fun _ q=>Inv s st0 T n q.1/\q.2.length=t.columns.length) (B:=fun _=>False) (Q:=fun _=>True) ⟨hI1,hrow⟩ fun j e q hj hq=>?_) fun fl hfl=>Ok.thenP hfl fun q hq=>Ok.mk ((hq.resolve_right id).resolve_right id).1
  rw[Nat.zero_add];have hn':j<x.names.length:=by rw[<-hg.shape.upd k5];exact(zg.1 hj).1
  have hix:bO t.columns (fun a0=>gq a0 x (j:Int))=some (br (fun a=>a.name==x.names[j]) t.columns):=idxF fun a _=>by
   unfold gq;rw[fI hn',bPs]
  have hi0:=hnames k5 x.names[j] (List.getElem_mem _)
  obtain⟨y,hy,_⟩:=ji hi0
  have hyl:=(zg.1 hy).1
  obtain⟨w,hw⟩:=rP hq.1 hn t.columns row e
  rw[hix,bPs,hw,bPs];refine Ok.bind (Ok.get hi0 (by have:=hq.2;omega)) fun _ _=>Ok.letP (Ok.mk ⟨hq.1,?_⟩)
  rw[List.length_set];exact hq.2
 ·exact Ok.bind (write_is hb hy hT) fun z hz=>Ok.cond (fun h=>Ok.mk (show z.1≠0 by simpa using h)) fun h=>Ok.mk (hz (by simpa using h))
end
theorem se:∀l:List LProcedureStatement,(∃N,∀n,N<=n->∀r,cw n r l=bC r l)/\(∃N,∀n,N<=n->∀r,cz n r l=bU r l)/\
  (∀r,bC r l=fh bC co bU cn r l)/\
  (∀r,bU r l=eV bC co bU cn r l)/\
  (∀s∈l,∀r,co r s=dU bC co bU cn r s)/\
  ∀s∈l,∀r,cn r s=dP bC co bU cn r s:=by
 refine qu fun l ih=>?_
 have ask:∀s∈l,(∃N,∀n,N<=n->∀r,de n r s=cn r s)/\∀r,cn r s=dP bC co bU cn r s:=by
  intro s hs
  obtain⟨⟨⟨a,ha⟩,_⟩,_⟩:=ih s hs
  have key:∀n,a+1<=n->∀r,de n r s=dP bC co bU cn r s:=by
   intro n hn r
   obtain⟨n,rfl⟩:∃k,n=k+1:=⟨n-1,by omega⟩
   show dP (fun b0 b1=>cw n b0 b1) _ _ _ r s=_;have h1:∀r,cw n r s.body=bC r s.body:=fun r=>ha n (by omega) r
   simp only[dP,h1]
  have e:∀r,cn r s=_:=fun r=>lI _ (fun m hm=>key m hm r)
  exact⟨⟨a+1,fun n hn r=>by rw[key n hn,e]⟩,e⟩
 have stm:∀s∈l,(∃N,∀n,N<=n->∀r,cQ n r s=co r s)/\∀r,co r s=dU bC co bU cn r s:=by
  intro s hs
  obtain⟨⟨_,⟨a,ha⟩,_⟩,⟨_,⟨b,hb⟩,_⟩⟩:=ih s hs
  obtain⟨⟨c,hc⟩,_⟩:=ask s hs
  have key:∀n,a+b+c+1<=n->∀r,cQ n r s=dU bC co bU cn r s:=by
   intro n hn r
   obtain⟨n,rfl⟩:∃k,n=k+1:=⟨n-1,by omega⟩
   show dU _ _ (fun b0 b1=>cz n b0 b1) (fun b0 b1=>de n b0 b1) r s=_;have h1:∀r,cz n r s.body=bU r s.body:=fun r=>ha n (by omega) r
   have h2:∀r,cz n r s.elseF=bU r s.elseF:=fun r=>hb n (by omega) r
   have h3:∀r,de n r s=cn r s:=fun r=>hc n (by omega) r
   simp only[dU,h1,h2,h3]
  have e:∀r,co r s=_:=fun r=>lI _ (fun m hm=>key m hm r)
  exact⟨⟨a+b+c+1,fun n hn r=>by rw[key n hn,e]⟩,e⟩
 obtain⟨N,hN⟩:=pj (p:=fun(s:LProcedureStatement) n=>∀r,cQ n r s=co r s) l (fun s h=>(stm s h).1)
 have key:∀n,N+1<=n->∀r,cw n r l=fh bC co bU cn r l:=by
  intro n hn r
  obtain⟨n,rfl⟩:∃k,n=k+1:=⟨n-1,by omega⟩
  show fh _ (fun b0 b1=>cQ n b0 b1) _ _ r l=_;simp only[fh];congr 1
  exact iZ l 0 _ fun k s t hk=>by
   have h1:=hN n (by omega) s (ek hk);simp only[h1]
 have e:∀r,bC r l=_:=fun r=>lI (N+1) (fun m hm=>key m hm r)
 have key2:∀n,N+2<=n->∀r,cz n r l=eV bC co bU cn r l:=by
  intro n hn r
  obtain⟨n,rfl⟩:∃k,n=k+1:=⟨n-1,by omega⟩
  show eV (fun b0 b1=>cw n b0 b1) _ _ _ r l=_;have h1:∀r,cw n r l=bC r l:=fun r=>by rw[key n (by omega),e]
  simp only[eV,h1]
 have e2:∀r,bU r l=_:=fun r=>lI (N+2) (fun m hm=>key2 m hm r)
 exact⟨⟨N+1,fun n hn r=>by rw[key n hn,e]⟩,⟨N+2,fun n hn r=>by rw[key2 n hn,e2]⟩,e,e2,fun s h=>(stm s h).2,fun s h=>(ask s h).2⟩
def kT(l:List LProcedureStatement):List LProcedureStatement:=(l.attach.map fun s=>s.1::(kT s.1.body++kT s.1.elseF)).flatten
termination_by SizeOf.sizeOf l
decreasing_by
 ·exact(st_lt s.2).1
 ·exact(st_lt s.2).2
theorem flatS_eq(l:List LProcedureStatement):kT l=(l.map fun s=>s::(kT s.body++kT s.elseF)).flatten:=by
 rw[kT,List.attach_map_val (f:=fun s:LProcedureStatement=>s::(kT s.body++kT s.elseF))]
theorem flatS_mem{l:List LProcedureStatement}{s:LProcedureStatement}(h:s∈l):s∈kT l/\(∀x∈kT s.body,x∈kT l)/\∀x∈kT s.elseF,x∈kT l:=by
 have key:∀x∈s::(kT s.body++kT s.elseF),x∈kT l:=fun x hx=>by
  rw[flatS_eq l];exact List.mem_flatten.2 ⟨_,List.mem_map.2 ⟨s,h,rfl⟩,hx⟩
 exact⟨key s (by simp),fun x hx=>key x (by simp[hx]),fun x hx=>key x (by simp[hx])⟩
theorem cntS_len(l:List LProcedureStatement):l.length<=gE l:=by
 rw[rI];induction l with
 |nil=>simp
 |cons x l ih=>simp only[List.length_cons,List.map_cons,List.sum_cons];omega
theorem exprs_bulk{s:LProcedureStatement}(hb:bT (aH s)<=1048576):s.exprs.length<=1048576:=by
 rw[dr]at hb;have h1:=mr expr_pos s.exprs;simp only[aE,bT,PV.bulk]at hb;omega
section
variable{s:LSchema}{st0:List LRelation}{T:Rs}{n:Nat}{r:LProcedureRun}{x:LProcedureStatement}
theorem ask_is(hb:BaseS s)(hI:Inv s st0 T n r)(hg:GoodS s x)(hbk:bT (aH x)<=1048576)(hk:x.kind=3\/x.kind=7)(hn:n+21*(1+gE x.body)<=10000)
  (hbody:x.kind=3->∀m q,m+21*gE x.body<=10000->Inv s st0 T m q->Ok (bC q x.body) fun y=>y.1=0->Inv s st0 T (m+x.body.length) y.2):
  Ok (dP bC co bU cn r x) fun y=>y.1=0->Inv s st0 T n y.2:=by
 unfold dP
 obtain⟨q,hq⟩:=Tot.get (xs:=x.query) (i:=0) (by omega) (by have:=hg.shape.query hk;omega)
 have hqm:q∈x.query:=ek (gIs hq).2;have ht:=query_bulk hbk hqm;have hv:=hI.few
 obtain⟨res,e,hw,hres⟩:=within_tot hb.small r.st ht.small r.args r.vals (vars:=r.vars) (by omega)
 rw[hq,bPs,hI.sch,hw,bPs];refine Ok.cond (fun h=>Ok.mk fun h0=>absurd h0 (by simpa using h)) fun he=>?_
 obtain⟨hc20,_,hrows⟩:=hres (by simpa using he)
 refine Ok.cond (fun _=>Ok.cond (fun _=>Ok.mk fun h=>absurd h (show ¬(2:Int)=0 from by decide)) fun h8=>?_) fun h7=>?_
 ·have h8:¬(r.results.length:Int)=8:=by simpa using h8
  have:=hI.res
  rw[cd (by decide) (by simp;omega),bPs];exact Ok.mk fun _=>⟨rfl,hI.vals,hI.few,hI.st,hI.ch,hI.chl,hI.tab,by simp;omega,hI.left⟩
 ·have k3:x.kind=3:=by
   have:¬x.kind=7:=by simpa using h7
   omega
  have hbl:=cntS_len x.body;refine Ok.bind (Ok.range (I:=fun _ q=>Inv s st0 T (n+20+x.body.length) q) (B:=fun q=>Inv s st0 T (n+20+x.body.length) q) (Q:=fun y=>y.1≠0) (hI.mono (by omega)) fun k row q hk hIq=>?_) fun fl hfl=>Ok.thenR hfl (fun q h1=>Ok.mk fun _=>?_) fun y hy h=>absurd h hy
  ·refine Ok.cond (fun _=>Ok.mk hIq) fun _=>?_
   have hrow:=hrows row (ek hk);refine Ok.bind (Ok.range (I:=fun j q=>Inv s st0 T (n+j) q) (B:=fun _=>False) (Q:=fun _=>True) (hI.vars hIq) fun j c q2 hj hI2=>?_) fun fl hfl=>Ok.thenP hfl fun q2 h2=>?_
   ·have hjl:j<res.columns.length:=(zg.1 hj).1;simp only[Nat.zero_add]at hI2⊢;rw[fI (by omega),bPs];exact Ok.bind (set_is hI2 (by omega) c _) fun q3 h3=>Ok.mk h3
   ·have h2:Inv s st0 T (n+(0+res.columns.length)) q2:=(h2.resolve_right id).resolve_right id;refine Ok.bind (hbody k3 (n+20) q2 (by omega) (h2.mono (by omega))) fun y hy=>Ok.cond (fun h=>Ok.mk (show y.1≠0 by simpa using h)) fun h=>Ok.mk (hy (by simpa using h))
  ·have h1:Inv s st0 T (n+20+x.body.length) q:=by rcases h1 with(h|h)|h;exact h;exact h;exact h.elim
   exact hI.vars h1
theorem inner_is{l:List LProcedureStatement}(hI:Inv s st0 T n r){m:Nat}(h:Ok (bC r l) fun y=>y.1=0->Inv s st0 T m y.2):Ok (bU r l) fun y=>y.1=0->Inv s st0 T n y.2:=by
 rw[(se l).2.2.2.1 r];unfold eV;exact Ok.bind h fun y hy=>Ok.mk fun h0=>hI.vars (hy h0)
theorem stmt_is(hb:BaseS s)(hI:Inv s st0 T n r)(hg:GoodS s x)(hbk:bT (aH x)<=1048576)(hn:n+21*(1+gE x.body+gE x.elseF)<=10000)(hT:x.kind=4\/x.kind=5\/x.kind=6->x.table∈T)
  (hask:∀q,cn q x=dP bC co bU cn q x)
  (hbody:x.kind=2\/x.kind=3->∀m q,m+21*gE x.body<=10000->Inv s st0 T m q->Ok (bC q x.body) fun y=>y.1=0->Inv s st0 T (m+x.body.length) y.2)
  (helse:x.kind=2->∀m q,m+21*gE x.elseF<=10000->Inv s st0 T m q->Ok (bC q x.elseF) fun y=>y.1=0->Inv s st0 T (m+x.elseF.length) y.2):
  Ok (dU bC co bU cn r x) fun y=>y.1=0->Inv s st0 T (n+1) y.2:=by
 unfold dU;have up:∀{q},Inv s st0 T n q->Inv s st0 T (n+1) q:=fun h=>h.mono (by omega)
 by_cases k1:x.kind=1
 ·rw[ld k1,zc]
  obtain⟨e,he⟩:=Tot.get (xs:=x.exprs) (i:=0) (by omega) (by have:=hg.shape.one (.inl k1);omega)
  obtain⟨v,hv⟩:=rP hI (by omega) ([]:List LCol) ([]:Rq) e
  rw[he,bPs,bV,bPs,hv,bPs];exact Ok.bind (set_is hI (by omega) _ _) fun q hq=>Ok.mk fun _=>hq
 rw[dm k1,zd];by_cases k2:x.kind=2
 ·rw[ld k2,zc]
  obtain⟨e,he⟩:=Tot.get (xs:=x.exprs) (i:=0) (by omega) (by have:=hg.shape.one (.inr k2);omega)
  obtain⟨v,hv⟩:=rP hI (by omega) ([]:List LCol) ([]:Rq) e
  rw[he,bPs,hv,bPs];refine Ok.letP (Ok.cond (fun _=>?_) fun _=>?_)
  ·exact Ok.bind (inner_is hI (hbody (.inl k2) n r (by omega) hI)) fun y hy=>Ok.mk fun h=>up (hy h)
  ·exact Ok.bind (inner_is hI (helse k2 n r (by omega) hI)) fun y hy=>Ok.mk fun h=>up (hy h)
 rw[dm k2,zd,bV];by_cases k3:x.kind=3\/x.kind=7
 ·have e3:(cond (x.kind==(3:Int)) (x.kind==(3:Int)) (x.kind==(7:Int)))=true:=by rcases k3 with k|k<;>rw[k]<;>rfl
  rw[e3,zc,hask];exact Ok.bind (ask_is hb hI hg hbk k3 (by omega) fun k=>hbody (.inr k)) fun y hy=>Ok.mk fun h=>up (hy h)
 have e3:(cond (x.kind==(3:Int)) (x.kind==(3:Int)) (x.kind==(7:Int)))=false:=by rw[dm (fun e=>k3 (.inl e)),zd,dm (fun e=>k3 (.inr e))]
 rw[e3,zd];by_cases k4:x.kind=4
 ·rw[ld k4,zc];have hxl:=exprs_bulk hbk;refine Ok.bind (Ok.range (I:=fun j q=>q.1.length<=j/\Inv s st0 T n q.2) (B:=fun _=>False) (Q:=fun _=>True) ⟨Nat.le_refl 0,hI⟩ fun j e q hj hq=>?_) fun fl hfl=>Ok.thenP hfl fun q hq=>?_
  ·have hjl:=(zg.1 hj).1
   obtain⟨v,hv⟩:=rP hq.2 (by omega) ([]:List LCol) ([]:Rq) e
   have:=hq.1
   rw[hv,bPs,cd (by decide) (by simp;omega),bPs];exact Ok.mk ⟨by simp;omega,hq.2⟩
  ·have hq:=((hq.resolve_right id).resolve_right id).2;exact Ok.bind (write_is hb hq (hT (.inl k4))) fun y hy=>Ok.mk fun h=>up (hy h)
 rw[dm k4,zd,bV];by_cases k5:x.kind=5\/x.kind=6
 ·have e5:(cond (x.kind==(5:Int)) (x.kind==(5:Int)) (x.kind==(6:Int)))=true:=by rcases k5 with k|k<;>rw[k]<;>rfl
  rw[e5,zc];exact Ok.bind (rows_is hb hI (by omega) hg k5 (hT (.inr k5))) fun y hy=>Ok.mk fun h=>up (hy h)
 have e5:(cond (x.kind==(5:Int)) (x.kind==(5:Int)) (x.kind==(6:Int)))=false:=by rw[dm (fun e=>k5 (.inl e)),zd,dm (fun e=>k5 (.inr e))]
 rw[e5,zd];refine Ok.cond (fun h8=>?_) fun _=>Ok.cond (fun _=>Ok.mk fun _=>?_) fun _=>Ok.mk fun _=>up hI
 ·have hc:=hg.shape.code (by simpa using h8);refine Ok.letP (Ok.mk fun h=>?_);have h:fT x.code=0:=h;unfold fT at h;rw[wW (by omega) (by omega)]at h;omega
 ·exact⟨hI.sch,hI.vals,Nat.le_succ_of_le hI.few,hI.st,hI.ch,hI.chl,hI.tab,hI.res,hI.left⟩
theorem run_is(hb:BaseS s):∀l:List LProcedureStatement,(∀x∈l,bT (aH x)<=1048576)->GoodL s l->(∀x∈kT l,x.kind=4\/x.kind=5\/x.kind=6->x.table∈T)->
  ∀n r,n+21*gE l<=10000->Inv s st0 T n r->Ok (bC r l) fun y=>y.1=0->Inv s st0 T (n+l.length) y.2:=by
 refine qu fun l ih hbk hg hT n r hn hI=>?_
 rw[(se l).2.2.1 r];unfold fh;refine Ok.bind (Ok.range (I:=fun j q=>Inv s st0 T (n+j) q) (B:=fun _=>False) (Q:=fun y=>y.1=0->Inv s st0 T (n+l.length) y.2) hI fun k x q hk hIq=>?_) fun fl hfl=>Ok.thenR hfl (fun q h1=>Ok.mk fun _=>?_) fun y hy=>hy
 ·have hkl:=(zg.1 hk).1;have hx:=ek hk;have hcl:=cntS_len l;simp only[Nat.zero_add]at hIq⊢;have hlf:=hIq.left;refine Ok.cond (fun _=>Ok.mk fun _=>hIq.mono (by omega)) fun _=>?_
  rw[wW (by omega) (by omega)];refine Ok.cond (fun _=>Ok.mk fun h=>absurd h (show ¬(2:Int)=0 from by decide)) fun hneg=>?_
  have hneg:¬q.left-1<0:=by simpa using hneg
  have hI2:Inv s st0 T (n+k) (LProcedureRun.mk q.s q.st q.args q.vars q.vals q.changes q.results (q.left-1) q.stopped):=
   ⟨hIq.sch,hIq.vals,hIq.few,hIq.st,hIq.ch,hIq.chl,hIq.tab,hIq.res,by show 0<=q.left-1/\q.left-1<=400;omega⟩
  have hm:=cntS_mem hx
  obtain⟨c1,c2⟩:=cntS_take hk
  have hkc:k<=gE (l.take k):=by have:=cntS_len (l.take k);rw[List.length_take]at this;omega
  obtain⟨f1,f2,f3⟩:=flatS_mem hx
  have hgx:=hg.at x hx;rw[(se l).2.2.2.2.1 x hx];refine Ok.bind (stmt_is hb hI2 hgx (hbk x hx) (by omega) (hT x f1) ((se l).2.2.2.2.2 x hx) (fun hk2 m q hm hq=>?_) fun hk2 m q hm hq=>?_) fun y hy=>Ok.cond (fun h=>Ok.mk fun h0=>absurd h0 (by simpa using h)) fun h=>Ok.mk (hy (by simpa using h))
  ·refine(ih x hx).1 (fun y hy=>qL (hbk x hx) (.inl hy)) ?_ (fun y hy=>hT y (f2 y hy)) m q hm hq
   rcases hk2 with h|h
   ·exact hgx.yes h
   ·exact hgx.each h
  ·exact(ih x hx).2 (fun y hy=>qL (hbk x hx) (.inr hy)) (hgx.no hk2) (fun y hy=>hT y (f3 y hy)) m q hm hq
 ·have h1:=(h1.resolve_right id).resolve_right id;rw[Nat.zero_add]at h1;exact h1
end
end
end Go.Proofs.YtafdcemcgfbhcaaGreat

namespace Go.Proofs.YtafdcemcgfbhcaaGreat
noncomputable section
open Go Go.Ab Go.Proofs.Tryz
open Go.Sort (swp insInner insOuter insertionSort siftDown heapBuild heapPop heapSort scanUp scanDown partLoop partition partEqLoop partitionEqual scanSorted shiftDown shiftUp partialIns partialInsertionSort reverseLoop reverseRange size_swp SWO PermIn SortedIn Below permIn_refl permIn_trans swp_permIn)
abbrev Strs:=Rs
theorem letC{β:Type}{x y:Rb}(k:Bool->β):letP (cM x y) k=k (Op.bytesLess x y):=by
 have h:cM x y=Op.bytesLess x y:=by
  unfold cM jH;simp[bV]
 rw[bV,h]
section
variable{α:Type}[Inhabited α]{v:α->Rb}{lt:α->α->Bool}
def rpZ(v:α->Rb)(A:Array α):Strs:=A.toList.map v
structure CmpIsZ(v:α->Rb)(lt:α->α->Bool):Prop where
 is:∀x y,Op.bytesLess (v x) (v y)=lt x y
theorem ex_eq{β:Type}{o:Option β}{x:β}(h:∃r,o=some r/\r=x):o=some x:=by
 obtain⟨r,h1,rfl⟩:=h
 exact h1
theorem while_runR{σ β:Type}{step:σ->Option (Flow σ β)}{k:σ->Option β}{R:β->Prop}{s:σ}(I:σ->Prop)(μ:σ->Nat)(Q:σ->Prop)(h0:I s)
  (hs:∀s,I s->∃fl,step s=some fl/\(match fl with| .next s'=>I s'/\μ s'<μ s| .brk s'=>Q s'| .ret r=>R r)) (hk:∀s',Q s'->∃r,k s'=some r/\R r):
  ∃r,ae (dg step s) (fun fl=>fl.thenR k)=some r/\R r:=by
 obtain⟨fl,h1,h2⟩:=whileM_by (step:=step) I μ Q R hs s h0
 cases fl with
 |next s'=>rw[h1];exact hk s' h2
 |brk s'=>exact absurd h2 (by simp)
 |ret r=>exact⟨r,by rw[h1];rfl,h2⟩
theorem wrapN{z:Int}{n:Nat}(h:z=n:=by omega)(hn:n<=1000000000:=by omega):iw z=(n:Int):=by rw[h];exact wW (by omega) (by omega)
omit [Inhabited α]in
theorem rp_lenZ(A:Array α):(rpZ v A).length=A.size:=by simp[rpZ]
theorem rp_getZ{A:Array α}{n:Nat}(h:n<A.size):aG (rpZ v A) (n:Int)=some (v A[n]!):=by
 rw[fI (by rw[rp_lenZ];exact h)];simp[rpZ,getElem!_pos A n h]
omit [Inhabited α]in
theorem rp_setZ(A:Array α)(n:Nat)(x:α):(rpZ v A).set n (v x)=rpZ v (A.setIfInBounds n x):=by simp[rpZ]
theorem rp_swapZ{β:Type}{A:Array α}{i j:Nat}(hi:i<A.size)(hj:j<A.size)(k:Strs->Option β):
  (ae (aG (rpZ v A) (j:Int)) fun(x:Rb)=>ae (aG (rpZ v A) (i:Int)) fun(y:Rb)=>ae (aG (rpZ v A) (i:Int)) fun(_:Rb)=>letP ((rpZ v A).set ((i:Int)).toNat x) fun(z:Strs)=>ae (aG z (j:Int)) fun(_:Rb)=>letP (z.set ((j:Int)).toNat y) fun(w:Strs)=>k w)=k (rpZ v (swp A i j)):=by
 rw[rp_getZ hj,rp_getZ hi];simp only[bPs,bV,Int.toNat_natCast];rw[rp_setZ,rp_getZ (A:=A.setIfInBounds i A[j]!) (by simpa using hj),bPs,rp_setZ];rfl
theorem insInner_size(a:Nat):∀(j:Nat) (D:Array α),(insInner lt a j D).size=D.size
 |0,D=>rfl
 |j+1,D=>by
  rw[insInner];split
  ·rw[insInner_size a j,size_swp]
  ·rfl
theorem ins_simZ(hC:CmpIsZ v lt){A:Array α}{a b:Nat}(hs:A.size<=1048575)(ha:a<=A.size)(hb:b<=A.size):gN (rpZ v A) (a:Int) (b:Int)=some (rpZ v (insertionSort lt A a b)):=by
 unfold gN;rw[wrapN (z:=(a:Int)+1) (n:=a+1)];refine ex_eq (ij (fun s=>∃(D:Array α) (i:Nat),s=(rpZ v D,(i:Int))/\D.size=A.size/\a<i/\insOuter lt a b i D=insertionSort lt A a b) (fun s=>((b:Int)-s.2).toNat) (fun s=>s.1=rpZ v (insertionSort lt A a b)) ⟨A,a+1,rfl,rfl,by omega,rfl⟩ (fun s hI=>?_) (fun s hq=>⟨_,rfl,hq⟩))
 obtain⟨D,i,rfl,hD,hai,hO⟩:=hI
 dsimp only;rw[insOuter]at hO;by_cases hlt:i<b
 ·rw[zt (show(i:Int)<(b:Int)from by omega),zc];rw[zp hlt]at hO;refine ij (fun t=>∃(E:Array α) (j:Nat),t=(rpZ v E,(j:Int))/\E.size=A.size/\j<b/\a<=j/\insInner lt a j E=insInner lt a i D) (fun t=>t.2.toNat) (fun t=>t.1=rpZ v (insInner lt a i D)) ⟨D,i,rfl,hD,hlt,by omega,rfl⟩ (fun t hI=>?_) (fun t hq=>⟨_,rfl,?_⟩)
  ·obtain⟨E,j,rfl,hE,hjb,haj,hO2⟩:=hI
   dsimp only;by_cases hgt:a<j
   ·obtain⟨k,rfl⟩:∃k,j=k+1:=⟨j-1,by omega⟩
    rw[zt (show((k+1:Nat):Int)>(a:Int)from by omega),zc,wrapN (z:=((k+1:Nat):Int)-1) (n:=k)];have hl:=hC.is E[k+1]! E[k]!;rw[insInner]at hO2;have hsw:=rp_swapZ (v:=v) (A:=E) (i:=k+1) (j:=k) (β:=Flow (Strs×Int) Empty) (by omega) (by omega) (fun y=>some (.next (y,(k:Int))));rw[rp_getZ (by omega),bPs,rp_getZ (by omega),bPs,letC,bPs,hl];cases hx:lt E[k+1]! E[k]! with
    |true=>
     rw[hx]at hO2;dsimp only;rw[zc]
     refine⟨_,hsw,⟨swp E (k+1) k,k,rfl,by rw[size_swp];exact hE,by omega,by omega,?_⟩,by show((k:Int)).toNat<(((k+1:Nat):Int)).toNat;omega⟩
     rw[<-hO2,zp (by simp;omega)]
    |false=>
     rw[hx]at hO2
     refine⟨_,rfl,?_⟩
     show rpZ v E=rpZ v _;rw[<-hO2,zy (by simp)]
   ·rw[zf (show ¬(j:Int)>(a:Int)from by omega),zd]
    refine⟨_,rfl,?_⟩
    show rpZ v E=rpZ v _;rw[<-hO2];cases j with
    |zero=>rfl
    |succ k=>rw[insInner,zy (by simp;omega)]
  ·have e:=wrapN (z:=(i:Int)+1) (n:=i+1)
   show(∃(D:Array α) (j:Nat),(t.1,iw ((i:Int)+1))=(rpZ v D,(j:Int))/\_)/\((b:Int)-iw ((i:Int)+1)).toNat<((b:Int)-(i:Int)).toNat
   rw[e]
   exact⟨⟨insInner lt a i D,i+1,by rw[hq],by rw[insInner_size];exact hD,by omega,hO⟩,by omega⟩
 ·rw[zf (show ¬(i:Int)<(b:Int)from by omega),zd];rw[zy hlt]at hO
  exact⟨_,rfl,by show rpZ v D=_;rw[hO]⟩
theorem siftDown_size(hi first:Nat):∀(n root:Nat) (D:Array α),hi-root<=n->(siftDown lt hi first root D).size=D.size
 |0,root,D,hn=>by
  rw[siftDown,dif_pos (by omega)]
 |n+1,root,D,hn=>by
  rw[siftDown];split
  ·rfl
  ·split
   ·split
    ·rfl
    ·split
     ·rw[siftDown_size hi first n _ _ (by omega),size_swp]
     ·rfl
   ·split
    ·rfl
    ·rw[siftDown_size hi first n _ _ (by omega),size_swp]
theorem sift_simZ(hC:CmpIsZ v lt){A:Array α}{lo hi first:Nat}(hs:A.size<=1048575)(hh:first+hi<=A.size)(hl:lo<=A.size):gn (rpZ v A) (lo:Int) (hi:Int) (first:Int)=some (rpZ v (siftDown lt hi first lo A)):=by
 unfold gn;refine ex_eq (while_runR (fun s=>∃(D:Array α) (r:Nat),s=(rpZ v D,(r:Int))/\D.size=A.size/\r<=1048575/\siftDown lt hi first r D=siftDown lt hi first lo A) (fun s=>((hi:Int)-s.2).toNat) (fun s=>s.1=rpZ v (siftDown lt hi first lo A)) ⟨A,lo,rfl,rfl,by omega,rfl⟩ (fun s hI=>?_) (fun s hq=>⟨_,rfl,hq⟩))
 obtain⟨D,r,rfl,hD,hr,hO⟩:=hI
 dsimp only;rw[wrapN (z:=2*(r:Int)) (n:=2*r),wrapN (z:=((2*r:Nat):Int)+1) (n:=2*r+1),wrapN (z:=((2*r+1:Nat):Int)+1) (n:=2*r+2)];rw[siftDown]at hO;by_cases hge:2*r+1>=hi
 ·rw[zt (show((2*r+1:Nat):Int)>=(hi:Int)from by omega),zc];rw[dif_pos hge]at hO
  exact⟨_,rfl,by show rpZ v D=_;rw[hO]⟩
 ·rw[zf (show ¬((2*r+1:Nat):Int)>=(hi:Int)from by omega),zd,wrapN (z:=(first:Int)+((2*r+1:Nat):Int)) (n:=first+(2*r+1)),wrapN (z:=((first+(2*r+1):Nat):Int)+1) (n:=first+(2*r+1)+1) (by omega) (by omega),wrapN (z:=(first:Int)+(r:Int)) (n:=first+r)];rw[dif_neg hge]at hO
  -- which child
  obtain⟨ch,h1,h2,h3⟩:∃ch:Nat,ch<hi/\r<ch/\(ae (cond (decide (((2*r+2:Nat):Int)<(hi:Int)))
     (ae (aG (rpZ v D) ((first+(2*r+1):Nat):Int)) fun(x29:Rb)=>ae (aG (rpZ v D) ((first+(2*r+1)+1:Nat):Int)) fun(x36:Rb)=>letP (cM x29 x36) fun x38=>some (rpZ v D,x38))
     (some (rpZ v D,false))) fun(t10:Strs×Bool)=>some (cond t10.2 ((t10.1,((2*r+2:Nat):Int))) ((t10.1,((2*r+1:Nat):Int)))))=some (rpZ v D,(ch:Int))/\
    (if !lt D[first+r]! D[first+ch]! then D else siftDown lt hi first ch (swp D (first+r) (first+ch)))=siftDown lt hi first lo A:=by
   by_cases hc1:2*r+2<hi
   ·have hl:=hC.is D[first+(2*r+1)]! D[first+(2*r+1)+1]!;rw[zt (show((2*r+2:Nat):Int)<(hi:Int)from by omega),zc,rp_getZ (by omega),bPs,rp_getZ (by omega),bPs,letC,bPs,hl];cases hx:lt D[first+(2*r+1)]! D[first+(2*r+1)+1]! with
    |true=>
     refine⟨2*r+2,hc1,by omega,rfl,?_⟩
     rw[zp (by rw[hx];simp;omega)]at hO;rw[<-hO];split<;>rfl
    |false=>
     refine⟨2*r+1,by omega,by omega,rfl,?_⟩
     rw[zy (by rw[hx];simp)]at hO;exact hO
   ·rw[zf (show ¬((2*r+2:Nat):Int)<(hi:Int)from by omega),zd,bPs]
    refine⟨2*r+1,by omega,by omega,rfl,?_⟩
    rw[zy (by simp;omega)]at hO;exact hO
  generalize hq:(cond (decide (((2*r+2:Nat):Int)<(hi:Int))) _ _:Option (Strs×Bool))=o at h3⊢;cases o with
  |none=>exact absurd h3.1 (by simp[ae])
  |some t10=>
   obtain⟨h3,h4⟩:=h3
   rw[bPs,zo]at h3;rw[bPs,bV,h3];dsimp only;rw[wrapN (z:=(first:Int)+(ch:Int)) (n:=first+ch)];have hl:=hC.is D[first+r]! D[first+ch]!;have hsw:=rp_swapZ (v:=v) (A:=D) (i:=first+r) (j:=first+ch) (β:=Flow (Strs×Int) Strs) (by omega) (by omega) (fun y=>some (.next (y,(ch:Int))));rw[hsw,rp_getZ (by omega),bPs,rp_getZ (by omega),bPs,letC,hl];cases hx:lt D[first+r]! D[first+ch]! with
   |true=>
    rw[hx]at h4
    exact⟨_,rfl,⟨swp D (first+r) (first+ch),ch,rfl,by rw[size_swp];exact hD,by omega,h4⟩,by show((hi:Int)-(ch:Int)).toNat<((hi:Int)-(r:Int)).toNat;omega⟩
   |false=>
    rw[hx]at h4
    exact⟨_,rfl,by show rpZ v D=_;rw[<-h4];rfl⟩
theorem heap_simZ(hC:CmpIsZ v lt){A:Array α}{a b:Nat}(hs:A.size<=1048575)(hab:a<=b)(hb:b<=A.size):iN (rpZ v A) (a:Int) (b:Int)=some (rpZ v (heapSort lt A a b)):=by
 unfold iN
 have e0:iw (Int.tdiv (iw (((b-a:Nat):Int)-1)) 2)=(((b-a-1)/2+1:Nat):Int)-1:=by
  rw[wW (n:=((b-a:Nat):Int)-1) (by omega) (by omega)];by_cases h:b-a=0
  ·rw[h];rfl
  ·rw[Int.tdiv_eq_ediv_of_nonneg (by omega),wW (by omega) (by omega)];omega
 rw[wrapN (z:=(b:Int)-(a:Int)) (n:=b-a),e0,wW (n:=((b-a:Nat):Int)-1) (by omega) (by omega)];unfold heapSort;refine ex_eq (ij (fun s=>∃(D:Array α) (k:Nat),s=(rpZ v D,(k:Int)-1)/\D.size=A.size/\k<=b-a+1/\heapBuild lt (b-a) a k D=heapBuild lt (b-a) a ((b-a-1)/2+1) A) (fun s=>(s.2+1).toNat) (fun s=>∃D:Array α,D.size=A.size/\s.1=rpZ v D/\D=heapBuild lt (b-a) a ((b-a-1)/2+1) A) ⟨A,(b-a-1)/2+1,rfl,rfl,by omega,rfl⟩ (fun s hI=>?_) (fun s hq=>?_))
 ·obtain⟨D,k,rfl,hD,hk,hO⟩:=hI
  dsimp only;cases k with
  |zero=>
   rw[zf (by omega),zd]
   exact⟨_,rfl,D,hD,rfl,hO⟩
  |succ k=>
   rw[zt (by omega),zc,show((k+1:Nat):Int)-1=(k:Int)from by omega,sift_simZ hC (by omega) (by omega) (by omega),bPs,el (by rw[rp_lenZ,rp_lenZ,siftDown_size _ _ _ _ _ (Nat.le_refl _)]),bPs,wW (by omega) (by omega)]
   exact⟨_,rfl,⟨_,k,rfl,by rw[siftDown_size _ _ _ _ _ (Nat.le_refl _)];exact hD,by omega,hO⟩,by show((k:Int)-1+1).toNat<((k:Int)+1).toNat;omega⟩
 ·obtain⟨D,hD,h1,h2⟩:=hq
  rw[h1,<-h2];clear h1 h2 e0;refine ij (fun s=>∃(E:Array α) (k:Nat),s=(rpZ v E,(k:Int)-1)/\E.size=A.size/\k<=b-a/\heapPop lt a k E=heapPop lt a (b-a) D) (fun s=>(s.2+1).toNat) (fun s=>s.1=rpZ v (heapPop lt a (b-a) D)) ⟨D,b-a,rfl,hD,Nat.le_refl _,rfl⟩ (fun s hI=>?_) (fun s hq=>⟨_,rfl,hq⟩)
  obtain⟨E,k,rfl,hE,hk,hO⟩:=hI
  dsimp only;cases k with
  |zero=>
   rw[zf (by omega),zd]
   exact⟨_,rfl,by show rpZ v E=_;rw[<-hO];rfl⟩
  |succ k=>
   rw[zt (by omega),zc,show((k+1:Nat):Int)-1=(k:Int)from by omega,wrapN (z:=(a:Int)+(k:Int)) (n:=a+k)];rw[rp_swapZ (by omega) (by omega)];have hz:(swp E a (a+k)).size=A.size:=by rw[size_swp];exact hE
   have hsf:=sift_simZ (lo:=0) (hi:=k) (first:=a) hC (A:=swp E a (a+k)) (by omega) (by omega) (by omega);rw[show((0:Nat):Int)=0 from Z]at hsf;rw[hsf,bPs,el (by rw[rp_lenZ,rp_lenZ,siftDown_size _ _ _ _ _ (Nat.le_refl _)]),bPs,wW (by omega) (by omega)]
   exact⟨_,rfl,⟨_,k,rfl,by rw[siftDown_size _ _ _ _ _ (Nat.le_refl _)];exact hz,by omega,hO⟩,by show((k:Int)-1+1).toNat<((k:Int)+1).toNat;omega⟩
theorem reverse_simZ{A:Array α}{a b:Nat}(hs:A.size<=1048575)(hab:a<b)(hb:b<=A.size):hC (rpZ v A) (a:Int) (b:Int)=some (rpZ v (reverseRange A a b)):=by
 unfold hC;rw[wrapN (z:=(b:Int)-1) (n:=b-1)];refine ex_eq (ij (fun s=>∃(D:Array α) (i j:Nat),s=(rpZ v D,(i:Int),(j:Int))/\D.size=A.size/\i<=j+1/\j<b/\reverseLoop i j D=reverseRange A a b) (fun s=>(s.2.2-s.2.1).toNat) (fun s=>s.1=rpZ v (reverseRange A a b)) ⟨A,a,b-1,rfl,rfl,by omega,by omega,rfl⟩ (fun s hI=>?_) (fun s hq=>⟨_,rfl,hq⟩))
 obtain⟨D,i,j,rfl,hD,hij,hjb,hO⟩:=hI
 dsimp only;rw[reverseLoop]at hO;by_cases hlt:i<j
 ·rw[zt (by omega),zc,wrapN (z:=(i:Int)+1) (n:=i+1),wrapN (z:=(j:Int)-1) (n:=j-1),rp_swapZ (by omega) (by omega)];rw[zp hlt]at hO
  exact⟨_,rfl,⟨swp D i j,i+1,j-1,rfl,by rw[size_swp];exact hD,by omega,by omega,hO⟩,by show(((j-1:Nat):Int)-((i+1:Nat):Int)).toNat<((j:Int)-(i:Int)).toNat;omega⟩
 ·rw[zf (by omega),zd];rw[zy hlt]at hO
  exact⟨_,rfl,by show rpZ v D=_;rw[hO]⟩
theorem up_runZ{step:Strs×Int->Option (Flow (Strs×Int) Empty)}{p:α->Bool}{D:Array α}{j:Nat}
  (hst:∀i:Nat,step (rpZ v D,(i:Int))=if i<=j&&p D[i]! then some (.next (rpZ v D,((i+1:Nat):Int)))else some (.brk (rpZ v D,(i:Int)))) (i:Nat):dg step (rpZ v D,(i:Int))=some (.next (rpZ v D,((scanUp p D j i:Nat):Int))):=by
 generalize hn:j+1-i=n;induction n generalizing i with
 |zero=>
  rw[scanUp,zy (by simp;omega)];exact mW (by rw[hst,zy (by simp;omega)]) Z
 |succ n ih=>
  rw[scanUp];by_cases h:(decide (i<=j)&&p D[i]!)=true
  ·rw[zp h];exact mW (by rw[hst,zp h]) (ih (i+1) (by omega))
  ·rw[zy h];exact mW (by rw[hst,zy h]) Z
theorem down_runZ{step:Strs×Int->Option (Flow (Strs×Int) Empty)}{p:α->Bool}{D:Array α}{i:Nat}(hi:0<i)
  (hst:∀j:Nat,j<D.size->step (rpZ v D,(j:Int))=if i<=j&&p D[j]! then some (.next (rpZ v D,(j:Int)-1))else some (.brk (rpZ v D,(j:Int)))):∀j:Nat,j<D.size->dg step (rpZ v D,(j:Int))=some (.next (rpZ v D,((scanDown p D i j:Nat):Int)))
 |0,hj=>by
  rw[scanDown];exact mW (by rw[hst 0 hj,zy (by simp;omega)]) Z
 |j+1,hj=>by
  have ih:=down_runZ hi hst j (by omega);rw[scanDown];by_cases h:(decide (i<=j+1)&&p D[j+1]!)=true
  ·rw[zp h];exact mW (fl:= .next (rpZ v D,(j:Int))) (by rw[hst _ hj,zp h,show((j+1:Nat):Int)-1=(j:Int)from by omega]) ih
  ·rw[zy h];exact mW (by rw[hst _ hj,zy h]) Z
theorem scan_facts(p q:α->Bool)(hq:∀x,q x= !p x)(d:Array α){i j:Nat}(hi:0<i)(hij:i<=j+1):
  i<=scanUp p d j i/\scanUp p d j i<=j+1/\scanDown q d (scanUp p d j i) j<=j/\scanUp p d j i<=scanDown q d (scanUp p d j i) j+1/\(¬scanUp p d j i>scanDown q d (scanUp p d j i) j->scanUp p d j i<scanDown q d (scanUp p d j i) j):=by
 obtain⟨u1,u2,_,u4⟩:=Go.Sort.scanUp_spec p d j _ i Z
 obtain⟨w1,w2,_,w4⟩:=Go.Sort.scanDown_spec q d (scanUp p d j i) j
 have hu:=u2 hij
 refine⟨u1,hu,w1,w2 hu,fun h=>?_⟩
 have f1:=u4 (by omega);have f2:=w4 (by omega) (by omega);rw[hq]at f2;rcases Nat.lt_or_ge (scanUp p d j i) (scanDown q d (scanUp p d j i) j)with h'|h'
 ·exact h'
 ·have e:scanUp p d j i=scanDown q d (scanUp p d j i) j:=by omega
  rw[<-e,f1]at f2;cases f2
theorem upStepZ(hC:CmpIsZ v lt){D:Array α}{a j i:Nat}(hs:D.size<=1048575)(ha:a<D.size)(hj:j<D.size):
  (cond (decide ((i:Int)<=(j:Int))) (ae (aG (rpZ v D) (i:Int)) fun(x39:Rb)=>ae (aG (rpZ v D) (a:Int)) fun(x43:Rb)=>letP (cM x39 x43) fun x45=>cond x45 (some (.next (rpZ v D,(iw ((i:Int)+(1:Int)))))) (some (.brk (rpZ v D,(i:Int))))) (some (.brk (rpZ v D,(i:Int)))):Option (Flow (Strs×Int) Empty))=if(decide (i<=j)&&(fun x=>lt x D[a]!) D[i]!)=true then some (.next (rpZ v D,((i+1:Nat):Int)))else some (.brk (rpZ v D,(i:Int))):=by
 by_cases h:i<=j
 ·rw[zt (show(i:Int)<=(j:Int)from by omega),zc,rp_getZ (by omega),bPs,rp_getZ ha,bPs];have hl:=hC.is D[i]! D[a]!;rw[letC,hl,wrapN (z:=(i:Int)+1) (n:=i+1)];cases hx:lt D[i]! D[a]!<;>simp[hx,h]
 ·rw[zf (show ¬(i:Int)<=(j:Int)from by omega),zd,zy (by simp[h])]
theorem downStepZ(hC:CmpIsZ v lt){D:Array α}{a j i:Nat}(hs:D.size<=1048575)(ha:a<D.size)(hj:j<D.size):
  (cond (decide ((i:Int)<=(j:Int))) (ae (aG (rpZ v D) (j:Int)) fun(x39:Rb)=>ae (aG (rpZ v D) (a:Int)) fun(x43:Rb)=>letP (cM x39 x43) fun x45=>cond (!x45) (some (.next (rpZ v D,(iw ((j:Int)-(1:Int)))))) (some (.brk (rpZ v D,(j:Int))))) (some (.brk (rpZ v D,(j:Int)))):Option (Flow (Strs×Int) Empty))=if(decide (i<=j)&&(fun x=>!lt x D[a]!) D[j]!)=true then some (.next (rpZ v D,(j:Int)-1))else some (.brk (rpZ v D,(j:Int))):=by
 by_cases h:i<=j
 ·rw[zt (show(i:Int)<=(j:Int)from by omega),zc,rp_getZ (by omega),bPs,rp_getZ ha,bPs];have hl:=hC.is D[j]! D[a]!;rw[letC,hl,wW (n:=(j:Int)-1) (by omega) (by omega)];cases hx:lt D[j]! D[a]!<;>simp[hx,h]
 ·rw[zf (show ¬(i:Int)<=(j:Int)from by omega),zd,zy (by simp[h])]
theorem upStepEZ(hC:CmpIsZ v lt){D:Array α}{a j i:Nat}(hs:D.size<=1048575)(ha:a<D.size)(hj:j<D.size):
  (cond (decide ((i:Int)<=(j:Int))) (ae (aG (rpZ v D) (a:Int)) fun(x39:Rb)=>ae (aG (rpZ v D) (i:Int)) fun(x43:Rb)=>letP (cM x39 x43) fun x45=>cond (!x45) (some (.next (rpZ v D,(iw ((i:Int)+(1:Int)))))) (some (.brk (rpZ v D,(i:Int))))) (some (.brk (rpZ v D,(i:Int)))):Option (Flow (Strs×Int) Empty))=if(decide (i<=j)&&(fun x=>!lt D[a]! x) D[i]!)=true then some (.next (rpZ v D,((i+1:Nat):Int)))else some (.brk (rpZ v D,(i:Int))):=by
 by_cases h:i<=j
 ·rw[zt (show(i:Int)<=(j:Int)from by omega),zc,rp_getZ ha,bPs,rp_getZ (by omega),bPs];have hl:=hC.is D[a]! D[i]!;rw[letC,hl,wrapN (z:=(i:Int)+1) (n:=i+1)];cases hx:lt D[a]! D[i]!<;>simp[hx,h]
 ·rw[zf (show ¬(i:Int)<=(j:Int)from by omega),zd,zy (by simp[h])]
theorem downStepEZ(hC:CmpIsZ v lt){D:Array α}{a j i:Nat}(hs:D.size<=1048575)(ha:a<D.size)(hj:j<D.size):
  (cond (decide ((i:Int)<=(j:Int))) (ae (aG (rpZ v D) (a:Int)) fun(x39:Rb)=>ae (aG (rpZ v D) (j:Int)) fun(x43:Rb)=>letP (cM x39 x43) fun x45=>cond x45 (some (.next (rpZ v D,(iw ((j:Int)-(1:Int)))))) (some (.brk (rpZ v D,(j:Int))))) (some (.brk (rpZ v D,(j:Int)))):Option (Flow (Strs×Int) Empty))=if(decide (i<=j)&&(fun x=>lt D[a]! x) D[j]!)=true then some (.next (rpZ v D,(j:Int)-1))else some (.brk (rpZ v D,(j:Int))):=by
 by_cases h:i<=j
 ·rw[zt (show(i:Int)<=(j:Int)from by omega),zc,rp_getZ ha,bPs,rp_getZ (by omega),bPs];have hl:=hC.is D[a]! D[j]!;rw[letC,hl,wW (n:=(j:Int)-1) (by omega) (by omega)];cases hx:lt D[a]! D[j]!<;>simp[hx,h]
 ·rw[zf (show ¬(i:Int)<=(j:Int)from by omega),zd,zy (by simp[h])]
theorem part_simZ(hC:CmpIsZ v lt){A:Array α}{a b p:Nat}(hs:A.size<=1048575)(hap:a<=p)(hpb:p<b)(hb:b<=A.size):iB (rpZ v A) (a:Int) (b:Int) (p:Int)=some (((partition lt A a b p).1:Int),(partition lt A a b p).2.1,rpZ v (partition lt A a b p).2.2):=by
 unfold iB partition;rw[rp_swapZ (by omega) (by omega)];have hB:(swp A a p).size=A.size:=size_swp _ _ _;generalize swp A a p=B at hB⊢;dsimp only;rw[wrapN (z:=(b:Int)-1) (n:=b-1),wrapN (z:=(a:Int)+1) (n:=a+1)];rw[up_runZ (v:=v) (p:=fun x=>lt x B[a]!) (D:=B) (j:=b-1) (fun i=>upStepZ hC (by omega) (by omega) (by omega)) (a+1),bPs,dl]
 obtain⟨f1,f2,f3,f4,f5⟩:=scan_facts (fun x=>lt x B[a]!) (fun x=>!lt x B[a]!) (fun _=>Z) B (i:=a+1) (j:=b-1) (by omega) (by omega)
 generalize scanUp (fun x=>lt x B[a]!) B (b-1) (a+1)=i3 at f1 f2 f3 f4 f5⊢;dsimp only;rw[down_runZ (v:=v) (p:=fun x=>!lt x B[a]!) (D:=B) (i:=i3) (by omega) (fun j hj=>downStepZ hC (by omega) (by omega) hj) (b-1) (by omega),bPs,dl];generalize scanDown (fun x=>!lt x B[a]!) B i3 (b-1)=j4 at f3 f4 f5⊢;dsimp only;by_cases hgt:i3>j4
 ·rw[zt (show(i3:Int)>(j4:Int)from by omega),zc,zp hgt,rp_swapZ (by omega) (by omega)]
 ·rw[zf (show ¬(i3:Int)>(j4:Int)from by omega),zd,zy hgt,rp_swapZ (by omega) (by omega)];have hlt:=f5 hgt;have hCs:(swp B i3 j4).size=A.size:=by rw[size_swp];exact hB
  generalize swp B i3 j4=C at hCs⊢;rw[wrapN (z:=(i3:Int)+1) (n:=i3+1),wrapN (z:=(j4:Int)-1) (n:=j4-1)];refine ex_eq (ij (fun s=>∃(D:Array α) (i j:Nat),s=(rpZ v D,(i:Int),(j:Int))/\D.size=A.size/\a<i/\i<=j+1/\j<b/\partLoop lt a i j D=partLoop lt a (i3+1) (j4-1) C) (fun s=>(s.2.2+1-s.2.1).toNat) (fun s=>∃(D:Array α) (j:Nat),s.1=rpZ v D/\s.2.2=(j:Int)/\D.size=A.size/\j<b/\(j,D)=partLoop lt a (i3+1) (j4-1) C) ⟨C,i3+1,j4-1,rfl,hCs,by omega,by omega,by omega,rfl⟩ (fun s hI=>?_) (fun s hq=>?_))
  ·obtain⟨D,i,j,rfl,hD,hai,hij,hjb,hO⟩:=hI
   dsimp only;rw[up_runZ (v:=v) (p:=fun x=>lt x D[a]!) (D:=D) (j:=j) (fun i=>upStepZ hC (by omega) (by omega) (by omega)) i,bPs,dl];rw[Go.Sort.partLoop_eq]at hO
   obtain⟨g1,g2,g3,g4,g5⟩:=scan_facts (fun x=>lt x D[a]!) (fun x=>!lt x D[a]!) (fun _=>Z) D (i:=i) (j:=j) (by omega) (by omega)
   generalize scanUp (fun x=>lt x D[a]!) D j i=i5 at g1 g2 g3 g4 g5 hO⊢;dsimp only;rw[down_runZ (v:=v) (p:=fun x=>!lt x D[a]!) (D:=D) (i:=i5) (by omega) (fun j hj=>downStepZ hC (by omega) (by omega) hj) j (by omega),bPs,dl];generalize scanDown (fun x=>!lt x D[a]!) D i5 j=j5 at g3 g4 g5 hO⊢;dsimp only;by_cases hgt:i5>j5
   ·rw[zt (show(i5:Int)>(j5:Int)from by omega),zc];rw[zp hgt]at hO
    exact⟨_,rfl,D,j5,rfl,rfl,hD,by omega,hO⟩
   ·have hl5:=g5 hgt;rw[zf (show ¬(i5:Int)>(j5:Int)from by omega),zd,rp_swapZ (by omega) (by omega),wrapN (z:=(i5:Int)+1) (n:=i5+1),wrapN (z:=(j5:Int)-1) (n:=j5-1)];rw[zy hgt]at hO
    exact⟨_,rfl,⟨swp D i5 j5,i5+1,j5-1,rfl,by rw[size_swp];exact hD,by omega,by omega,by omega,hO⟩,by show(((j5-1:Nat):Int)+1-((i5+1:Nat):Int)).toNat<((j:Int)+1-(i:Int)).toNat;omega⟩
  ·obtain⟨D,j,h1,h2,hD,hjb,h3⟩:=hq
   rw[h1,h2,<-h3,rp_swapZ (by omega) (by omega)]
   exact⟨_,rfl,rfl⟩
theorem partEq_simZ(hC:CmpIsZ v lt){A:Array α}{a b p:Nat}(hs:A.size<=1048575)(hap:a<=p)(hpb:p<b)(hb:b<=A.size):gG (rpZ v A) (a:Int) (b:Int) (p:Int)=some (((partitionEqual lt A a b p).1:Int),rpZ v (partitionEqual lt A a b p).2):=by
 unfold gG partitionEqual;rw[rp_swapZ (by omega) (by omega)];have hB:(swp A a p).size=A.size:=size_swp _ _ _;generalize swp A a p=B at hB⊢;rw[wrapN (z:=(b:Int)-1) (n:=b-1),wrapN (z:=(a:Int)+1) (n:=a+1)];refine ex_eq (ij (fun s=>∃(D:Array α) (i j:Nat),s=(rpZ v D,(i:Int),(j:Int))/\D.size=A.size/\a<i/\i<=j+1/\j<b/\partEqLoop lt a i j D=partEqLoop lt a (a+1) (b-1) B) (fun s=>(s.2.2+1-s.2.1).toNat) (fun s=>∃(D:Array α) (i:Nat),s.1=rpZ v D/\s.2.1=(i:Int)/\(i,D)=partEqLoop lt a (a+1) (b-1) B) ⟨B,a+1,b-1,rfl,hB,by omega,by omega,by omega,rfl⟩ (fun s hI=>?_) (fun s hq=>?_))
 ·obtain⟨D,i,j,rfl,hD,hai,hij,hjb,hO⟩:=hI
  dsimp only;rw[up_runZ (v:=v) (p:=fun x=>!lt D[a]! x) (D:=D) (j:=j) (fun i=>upStepEZ hC (by omega) (by omega) (by omega)) i,bPs,dl];rw[Go.Sort.partEqLoop_eq]at hO
  obtain⟨g1,g2,g3,g4,g5⟩:=scan_facts (fun x=>!lt D[a]! x) (fun x=>lt D[a]! x) (fun _=>by simp) D (i:=i) (j:=j) (by omega) (by omega)
  generalize scanUp (fun x=>!lt D[a]! x) D j i=i5 at g1 g2 g3 g4 g5 hO⊢;dsimp only;rw[down_runZ (v:=v) (p:=fun x=>lt D[a]! x) (D:=D) (i:=i5) (by omega) (fun j hj=>downStepEZ hC (by omega) (by omega) hj) j (by omega),bPs,dl];generalize scanDown (fun x=>lt D[a]! x) D i5 j=j5 at g3 g4 g5 hO⊢;dsimp only;by_cases hgt:i5>j5
  ·rw[zt (show(i5:Int)>(j5:Int)from by omega),zc];rw[zp hgt]at hO
   exact⟨_,rfl,D,i5,rfl,rfl,hO⟩
  ·have hl5:=g5 hgt;rw[zf (show ¬(i5:Int)>(j5:Int)from by omega),zd,rp_swapZ (by omega) (by omega),wrapN (z:=(i5:Int)+1) (n:=i5+1),wrapN (z:=(j5:Int)-1) (n:=j5-1)];rw[zy hgt]at hO
   exact⟨_,rfl,⟨swp D i5 j5,i5+1,j5-1,rfl,by rw[size_swp];exact hD,by omega,by omega,by omega,hO⟩,by show(((j5-1:Nat):Int)+1-((i5+1:Nat):Int)).toNat<((j:Int)+1-(i:Int)).toNat;omega⟩
 ·obtain⟨D,i,h1,h2,h3⟩:=hq
  rw[h1,h2,<-h3]
  exact⟨_,rfl,rfl⟩
theorem bind_ex{β γ:Type}{o:Option β}{k:β->Option γ}{R:γ->Prop}{P:β->Prop}(h:∃t,o=some t/\P t)(hk:∀t,P t->∃r,k t=some r/\R r):∃r,ae o k=some r/\R r:=by
 obtain⟨t,rfl,ht⟩:=h
 exact hk t ht
theorem sorted_runZ(hC:CmpIsZ v lt){D:Array α}{b:Nat}(hs:D.size<=1048575)(hb:b<=D.size):∀(n i:Nat),b-i<=n->0<i->i<=b->dg (σ:=Strs×Int) (ρ:=Empty) (fun(s52:Strs×Int)=>cond (decide (s52.2<(b:Int)))
     (ae (aG s52.1 s52.2) fun(x26:Rb)=>
     ae (aG s52.1 (iw (s52.2-(1:Int)))) fun(x31:Rb)=>
     letP (cM x26 x31) fun x33=>
     cond (!x33)
      (some (.next (s52.1,(iw (s52.2+(1:Int))))))
      (some (.brk (s52.1,s52.2))))
     (some (.brk (s52.1,s52.2)))) (rpZ v D,(i:Int))=some (.next (rpZ v D,((scanSorted lt D b i:Nat):Int)))/\i<=scanSorted lt D b i/\scanSorted lt D b i<=b:=by
 intro n;induction n with
 |zero=>
  intro i hn h0 hi;rw[scanSorted,zy (by simp;omega)]
  refine⟨mW (fl:= .brk (rpZ v D,(i:Int))) ?_ Z,Nat.le_refl _,hi⟩
  dsimp only;rw[zf (by omega),zd]
 |succ n ih=>
  intro i hn h0 hi;rw[scanSorted];by_cases hlt:i<b
  ·have hl:=hC.is D[i]! D[i-1]!;cases hx:lt D[i]! D[i-1]! with
   |true=>
    rw[zy (by simp)]
    refine⟨mW (fl:= .brk (rpZ v D,(i:Int))) ?_ Z,Nat.le_refl _,hi⟩
    dsimp only;rw[zt (by omega),zc,wrapN (z:=(i:Int)-1) (n:=i-1),rp_getZ (by omega),bPs,rp_getZ (by omega),bPs,letC,hl,hx];rfl
   |false=>
    rw[zp (by simp[hlt])]
    obtain⟨e1,e2,e3⟩:=ih (i+1) (by omega) (by omega) (by omega)
    refine⟨mW (fl:= .next (rpZ v D,((i+1:Nat):Int))) ?_ e1,by omega,e3⟩
    dsimp only;rw[zt (by omega),zc,wrapN (z:=(i:Int)-1) (n:=i-1),wrapN (z:=(i:Int)+1) (n:=i+1),rp_getZ (by omega),bPs,rp_getZ (by omega),bPs,letC,hl,hx];rfl
  ·rw[zy (by simp[hlt])]
   refine⟨mW (fl:= .brk (rpZ v D,(i:Int))) ?_ Z,Nat.le_refl _,hi⟩
   dsimp only;rw[zf (by omega),zd]
theorem shiftDown_size:∀(j:Nat) (D:Array α),(shiftDown lt j D).size=D.size
 |0,D=>rfl
 |j+1,D=>by
  rw[shiftDown];split
  ·rfl
  ·rw[shiftDown_size j,size_swp]
theorem shiftUp_size(b:Nat):∀(n j:Nat) (D:Array α),b-j<=n->(shiftUp lt b j D).size=D.size
 |0,j,D,h=>by rw[shiftUp,zy (by omega)]
 |n+1,j,D,h=>by
  rw[shiftUp];split
  ·split
   ·rfl
   ·rw[shiftUp_size b n _ _ (by omega),size_swp]
  ·rfl
theorem sd_runZ{β:Type}{Q:β->Prop}(hC:CmpIsZ v lt){A:Array α}{j:Nat}(hs:A.size<=1048575)(hj:j<A.size){k:Strs×Int->Option β}(hk:∀z,∃r,k (rpZ v (shiftDown lt j A),z)=some r/\Q r):
  ∃r,ae (dg (σ:=Strs×Int) (ρ:=Empty) (fun(s63:Strs×Int)=>
              cond (decide (s63.2>=(1:Int)))
                (ae (aG s63.1 s63.2) fun(x75:Rb)=>
                ae (aG s63.1 (iw (s63.2-(1:Int)))) fun(x80:Rb)=>
                letP (cM x75 x80) fun x82=>
                cond (!x82)
                  (some (.brk (s63.1,s63.2)))
                  (ae (aG s63.1 (iw (s63.2-(1:Int)))) fun(x93:Rb)=>
                  ae (aG s63.1 s63.2) fun(x97:Rb)=>
                  ae (aG s63.1 s63.2) fun(_:Rb)=>
                  letP (s63.1.set s63.2.toNat x93) fun(y68:Strs)=>
                  ae (aG y68 (iw (s63.2-(1:Int)))) fun(_:Rb)=>
                  letP (y68.set ((iw (s63.2-(1:Int))).toNat) x97) fun(y69:Strs)=>
                  some (.next (y69,(iw (s63.2-(1:Int)))))))
                (some (.brk (s63.1,s63.2)))) (rpZ v A,(j:Int))) (fun fl63=>fl63.thenP k)=some r/\Q r:=by
 refine ij (fun s=>∃(D:Array α) (i:Nat),s=(rpZ v D,(i:Int))/\D.size=A.size/\i<A.size/\shiftDown lt i D=shiftDown lt j A) (fun s=>s.2.toNat) (fun s=>s.1=rpZ v (shiftDown lt j A)) ⟨A,j,rfl,rfl,hj,rfl⟩ (fun s hI=>?_) (fun s hq=>?_)
 ·obtain⟨D,i,rfl,hD,hi,hO⟩:=hI
  dsimp only;cases i with
  |zero=>
   rw[zf (by omega),zd]
   exact⟨_,rfl,by show rpZ v D=_;rw[<-hO];rfl⟩
  |succ i=>
   have hl:=hC.is D[i+1]! D[i]!;rw[zt (by omega),zc,wrapN (z:=((i+1:Nat):Int)-1) (n:=i),rp_swapZ (by omega) (by omega),rp_getZ (by omega),bPs,rp_getZ (by omega),bPs,letC,hl];rw[shiftDown]at hO;cases hx:lt D[i+1]! D[i]! with
   |true=>
    rw[hx,zy (by simp)]at hO
    exact⟨_,rfl,⟨swp D (i+1) i,i,rfl,by rw[size_swp];exact hD,by omega,hO⟩,by show((i:Int)).toNat<(((i+1:Nat):Int)).toNat;omega⟩
   |false=>
    rw[hx,zp (by simp)]at hO
    exact⟨_,rfl,by show rpZ v D=_;rw[hO]⟩
 ·obtain⟨s1,s2⟩:=s
  dsimp only at hq;rw[hq];exact hk s2
theorem su_runZ{β:Type}{Q:β->Prop}(hC:CmpIsZ v lt){A:Array α}{b j:Nat}(hs:A.size<=1048575)(hb:b<=A.size)(hj:0<j)(hjb:j<=b){k:Strs×Int->Option β}(hk:∀z,∃r,k (rpZ v (shiftUp lt b j A),z)=some r/\Q r):
  ∃r,ae (dg (σ:=Strs×Int) (ρ:=Empty) (fun(s70:Strs×Int)=>
       cond (decide (s70.2<(b:Int)))
        (ae (aG s70.1 s70.2) fun(x115:Rb)=>
        ae (aG s70.1 (iw (s70.2-(1:Int)))) fun(x120:Rb)=>
        letP (cM x115 x120) fun x122=>
        cond (!x122)
         (some (.brk (s70.1,s70.2)))
         (ae (aG s70.1 (iw (s70.2-(1:Int)))) fun(x133:Rb)=>
         ae (aG s70.1 s70.2) fun(x137:Rb)=>
         ae (aG s70.1 s70.2) fun(_:Rb)=>
         letP (s70.1.set s70.2.toNat x133) fun(y75:Strs)=>
         ae (aG y75 (iw (s70.2-(1:Int)))) fun(_:Rb)=>
         letP (y75.set ((iw (s70.2-(1:Int))).toNat) x137) fun(y76:Strs)=>
         some (.next (y76,(iw (s70.2+(1:Int)))))))
        (some (.brk (s70.1,s70.2)))) (rpZ v A,(j:Int))) (fun fl70=>fl70.thenP k)=some r/\Q r:=by
 refine ij (fun s=>∃(D:Array α) (i:Nat),s=(rpZ v D,(i:Int))/\D.size=A.size/\0<i/\i<=b/\shiftUp lt b i D=shiftUp lt b j A) (fun s=>((b:Int)-s.2).toNat) (fun s=>s.1=rpZ v (shiftUp lt b j A)) ⟨A,j,rfl,rfl,hj,hjb,rfl⟩ (fun s hI=>?_) (fun s hq=>?_)
 ·obtain⟨D,i,rfl,hD,h0,hi,hO⟩:=hI
  dsimp only;rw[shiftUp]at hO;by_cases hlt:i<b
  ·have hl:=hC.is D[i]! D[i-1]!;rw[zt (by omega),zc,wrapN (z:=(i:Int)-1) (n:=i-1),wrapN (z:=(i:Int)+1) (n:=i+1),rp_swapZ (by omega) (by omega),rp_getZ (by omega),bPs,rp_getZ (by omega),bPs,letC,hl];rw[zp hlt]at hO;cases hx:lt D[i]! D[i-1]! with
   |true=>
    rw[hx,zy (by simp)]at hO
    exact⟨_,rfl,⟨swp D i (i-1),i+1,rfl,by rw[size_swp];exact hD,by omega,by omega,hO⟩,by show((b:Int)-((i+1:Nat):Int)).toNat<((b:Int)-(i:Int)).toNat;omega⟩
   |false=>
    rw[hx,zp (by simp)]at hO
    exact⟨_,rfl,by show rpZ v D=_;rw[hO]⟩
  ·rw[zf (by omega),zd];rw[zy hlt]at hO
   exact⟨_,rfl,by show rpZ v D=_;rw[hO]⟩
 ·obtain⟨s1,s2⟩:=s
  dsimp only at hq;rw[hq];exact hk s2
theorem pis_simZ(hC:CmpIsZ v lt){A:Array α}{a b:Nat}(hs:A.size<=1048575)(hab:a<b)(hb:b<=A.size):fA (rpZ v A) (a:Int) (b:Int)=some ((partialInsertionSort lt A a b).2,rpZ v (partialInsertionSort lt A a b).1):=by
 unfold fA;rw[wrapN (z:=(a:Int)+1) (n:=a+1),wrapN (z:=(b:Int)-(a:Int)) (n:=b-a)];refine ex_eq (while_runR (fun s=>∃(D:Array α) (i m:Nat),s=(rpZ v D,(i:Int),(5:Int)-(m:Int))/\D.size=A.size/\m<=5/\a<i/\i<=b/\partialIns lt a b m i D=partialInsertionSort lt A a b) (fun s=>(5-s.2.2).toNat) (fun s=>s.1=rpZ v (partialInsertionSort lt A a b).1/\(partialInsertionSort lt A a b).2=false) ⟨A,a+1,5,rfl,rfl,by omega,by omega,by omega,rfl⟩ (fun s hI=>?_) (fun s hq=>⟨_,rfl,by rw[hq.1,hq.2]⟩))
 obtain⟨D,i,m,rfl,hD,hm,hai,hib,hO⟩:=hI
 dsimp only;cases m with
 |zero=>
  rw[zf (by omega),zd];rw[partialIns]at hO
  exact⟨_,rfl,by show rpZ v D=_;rw[<-hO],by rw[<-hO]⟩
 |succ m=>
  rw[zt (by omega),zc]
  obtain⟨e1,e2,e3⟩:=sorted_runZ hC (D:=D) (b:=b) (by omega) (by omega) _ i (Nat.le_refl _) (by omega) hib
  rw[e1,bPs,dl];clear e1;rw[Go.Sort.partialIns_succ]at hO;unfold Go.Sort.fixDown Go.Sort.fixUp at hO;generalize scanSorted lt D b i=i2 at e2 e3 hO⊢;dsimp only;by_cases h1:i2=b
  ·rw[ld (show(i2:Int)=(b:Int)from by omega),zc];rw[zp h1]at hO
   exact⟨_,rfl,by rw[<-hO]⟩
  ·rw[dm (show ¬(i2:Int)=(b:Int)from by omega),zd];rw[zy h1]at hO;by_cases h2:b-a<50
   ·rw[zt (by omega),zc];rw[zp h2]at hO
    exact⟨_,rfl,by rw[<-hO]⟩
   ·rw[zf (by omega),zd];rw[zy h2]at hO;rw[wrapN (z:=(i2:Int)-1) (n:=i2-1),wrapN (z:=(i2:Int)-(a:Int)) (n:=i2-a),wrapN (z:=(b:Int)-(i2:Int)) (n:=b-i2),wrapN (z:=(i2:Int)+1) (n:=i2+1),rp_swapZ (by omega) (by omega)];have hE:(swp D i2 (i2-1)).size=A.size:=by rw[size_swp];exact hD
    generalize swp D i2 (i2-1)=E at hE hO⊢;refine bind_ex (P:=fun t=>t=rpZ v (if i2-a>=2 then shiftDown lt (i2-1) E else E)) ?_ (fun t ht=>?_)
    ·by_cases h3:i2-a>=2
     ·rw[zt (by omega),zc,zp h3];exact sd_runZ hC (by omega) (by omega) (fun z=>⟨_,rfl,rfl⟩)
     ·rw[zf (by omega),zd,zy h3]
      exact⟨_,rfl,rfl⟩
    ·subst ht
     have hG:(if i2-a>=2 then shiftDown lt (i2-1) E else E).size=A.size:=by
      split
      ·rw[shiftDown_size];exact hE
      ·exact hE
     generalize(if i2-a>=2 then shiftDown lt (i2-1) E else E)=G at hG hO⊢
     rw[wW (n:=(5:Int)-((m+1:Nat):Int)+1) (by omega) (by omega),show(5:Int)-((m+1:Nat):Int)+1=5-(m:Int)from by omega];by_cases h4:b-i2>=2
     ·rw[zt (by omega),zc];rw[zp h4]at hO;exact su_runZ hC (by omega) (by omega) (by omega) (by omega) (fun z=>⟨_,rfl,⟨_,i2,m,rfl,by rw[shiftUp_size b _ _ _ (Nat.le_refl _)];exact hG,by omega,by omega,e3,hO⟩,by show(5-((5:Int)-(m:Int))).toNat<(5-((5:Int)-((m+1:Nat):Int))).toNat;omega⟩)
     ·rw[zf (by omega),zd];rw[zy h4]at hO
      exact⟨_,rfl,⟨G,i2,m,rfl,hG,by omega,by omega,e3,hO⟩,by show(5-((5:Int)-(m:Int))).toNat<(5-((5:Int)-((m+1:Nat):Int))).toNat;omega⟩
theorem order2_okZ(hC:CmpIsZ v lt){A:Array α}{a b:Nat}(ha:a<A.size)(hb:b<A.size)(sw:Int):∃(x y:Nat) (sw':Int),fy (rpZ v A) (a:Int) (b:Int) sw=some ((x:Int),(y:Int),rpZ v A,sw')/\((x=a/\y=b)\/(x=b/\y=a)):=by
 unfold fy;rw[rp_getZ hb,bPs,rp_getZ ha,bPs,letC,hC.is];cases lt A[b]! A[a]!
 ·exact⟨a,b,_,rfl,.inl ⟨rfl,rfl⟩⟩
 ·exact⟨b,a,_,rfl,.inr ⟨rfl,rfl⟩⟩
theorem median_okZ(hC:CmpIsZ v lt){A:Array α}{a b c:Nat}(ha:a<A.size)(hb:b<A.size)(hc:c<A.size)(sw:Int):∃(m:Nat) (sw':Int),fu (rpZ v A) (a:Int) (b:Int) (c:Int) sw=some ((m:Int),rpZ v A,sw')/\(m=a\/m=b\/m=c):=by
 unfold fu
 obtain⟨x1,y1,w1,e1,h1⟩:=order2_okZ hC ha hb sw
 rw[e1,bPs,el Z,bPs]
 obtain⟨x2,y2,w2,e2,h2⟩:=order2_okZ hC (a:=y1) (b:=c) (by omega) hc w1
 dsimp only;rw[e2,bPs,el Z,bPs]
 obtain⟨x3,y3,w3,e3,h3⟩:=order2_okZ hC (A:=A) (a:=x1) (b:=x2) (by omega) (by omega) w2
 dsimp only;rw[e3,bPs,el Z,bPs]
 exact⟨y3,w3,rfl,by omega⟩
theorem adjacent_okZ(hC:CmpIsZ v lt){A:Array α}{a:Nat}(hs:A.size<=1048575)(h0:0<a)(ha:a+1<A.size)(sw:Int):∃(m:Nat) (sw':Int),dT (rpZ v A) (a:Int) sw=some ((m:Int),rpZ v A,sw')/\a<=m+1/\m<=a+1:=by
 unfold dT;rw[wrapN (z:=(a:Int)-1) (n:=a-1),wrapN (z:=(a:Int)+1) (n:=a+1)]
 obtain⟨m,w,e,h⟩:=median_okZ hC (A:=A) (a:=a-1) (b:=a) (c:=a+1) (by omega) (by omega) ha sw
 rw[e,bPs,el Z,bPs]
 exact⟨m,w,rfl,by omega,by omega⟩
theorem pivot_okZ(hC:CmpIsZ v lt){A:Array α}{a b:Nat}(hs:A.size<=1048575)(hab:a+12<b)(hb:b<=A.size):∃r,ie (rpZ v A) (a:Int) (b:Int)=some r/\∃(p:Nat) (h:Int),r=((p:Int),h,rpZ v A)/\a<=p/\p<b:=by
 unfold ie;rw[wrapN (z:=(b:Int)-(a:Int)) (n:=b-a),zt (show((b-a:Nat):Int)>=8 from by omega),zc,Int.tdiv_eq_ediv_of_nonneg (by omega)];rw[wrapN (z:=((b-a:Nat):Int)/4) (n:=(b-a)/4)];generalize hq:(b-a)/4=q;have hq1:4*q<=b-a/\b-a<4*q+4:=by omega
 clear hq;rw[wrapN (z:=(q:Int)*1) (n:=q),wrapN (z:=(q:Int)*2) (n:=2*q),wrapN (z:=(q:Int)*3) (n:=3*q),wrapN (z:=(a:Int)+(q:Int)) (n:=a+q),wrapN (z:=(a:Int)+((2*q:Nat):Int)) (n:=a+2*q),wrapN (z:=(a:Int)+((3*q:Nat):Int)) (n:=a+3*q)];refine bind_ex (P:=fun t=>∃(p:Nat) (w:Int),t=(rpZ v A,(p:Int),w)/\a<=p/\p<b) ?_ (fun t ht=>?_)
 ·by_cases h:b-a>=50
  ·rw[zt (by omega),zc]
   obtain⟨m1,w1,e1,h1⟩:=adjacent_okZ hC (A:=A) (a:=a+q) hs (by omega) (by omega) 0
   rw[e1,bPs,el Z,bPs];dsimp only
   obtain⟨m2,w2,e2,h2⟩:=adjacent_okZ hC (A:=A) (a:=a+2*q) hs (by omega) (by omega) w1
   rw[e2,bPs,el Z,bPs];dsimp only
   obtain⟨m3,w3,e3,h3⟩:=adjacent_okZ hC (A:=A) (a:=a+3*q) hs (by omega) (by omega) w2
   rw[e3,bPs,el Z,bPs];dsimp only
   obtain⟨m,w',e,h⟩:=median_okZ hC (A:=A) (a:=m1) (b:=m2) (c:=m3) (by omega) (by omega) (by omega) w3
   rw[e,bPs,el Z,bPs]
   exact⟨_,rfl,m,w',rfl,by omega,by omega⟩
  ·rw[zf (by omega),zd]
   obtain⟨m,w',e,h⟩:=median_okZ hC (A:=A) (a:=a+q) (b:=a+2*q) (c:=a+3*q) (by omega) (by omega) (by omega) 0
   rw[e,bPs,el Z,bPs]
   exact⟨_,rfl,m,w',rfl,by omega,by omega⟩
 ·obtain⟨p,w,rfl,h1,h2⟩:=ht
  dsimp only;cases w==0 with
  |true=>exact⟨_,rfl,p,_,rfl,h1,h2⟩
  |false=>
   cases w==12 with
   |true=>exact⟨_,rfl,p,_,rfl,h1,h2⟩
   |false=>exact⟨_,rfl,p,_,rfl,h1,h2⟩
theorem u64_id{n:Nat}(h:n<18446744073709551616):IntKind.u64.wrap (n:Int)=(n:Int):=by
 simp only[IntKind.wrap,IntKind.bits,IntKind.signed];simp;omega
theorem and_small{m:Nat}(x:Int):∃o:Nat,andI .u64 x (m:Int)=(o:Int)/\o<=m:=by
 refine⟨(BitVec.ofInt 64 x&&&BitVec.ofInt 64 (m:Int)).toNat,?_,?_⟩
 ·unfold andI;show IntKind.u64.wrap (((BitVec.ofInt 64 x&&&BitVec.ofInt 64 (m:Int)).toNat:Nat):Int)=_;exact u64_id (BitVec.isLt _)
 ·rw[BitVec.toNat_and];refine Nat.le_trans Nat.and_le_right ?_;rw[BitVec.ofInt_natCast,BitVec.toNat_ofNat];exact Nat.mod_le _ _
def lenTab:Rb:=[0,1,2,2,3,3,3,3,4,4,4,4,4,4,4,4,5,5,5,5,5,5,5,5,5,5,5,5,5,5,5,5,6,6,6,6,6,6,6,6,6,6,6,6,6,6,6,6,6,6,6,6,6,6,6,6,6,6,6,6,6,6,6,6,7,7,7,7,7,7,7,7,7,7,7,7,7,7,7,7,7,7,7,7,7,7,7,7,7,7,7,7,7,7,7,7,7,7,7,7,7,7,7,7,7,7,7,7,7,7,7,7,7,7,7,7,7,7,7,7,7,7,7,7,7,7,7,7,8,8,8,8,8,8,8,8,8,8,8,8,8,8,8,8,8,8,8,8,8,8,8,8,8,8,8,8,8,8,8,8,8,8,8,8,8,8,8,8,8,8,8,8,8,8,8,8,8,8,8,8,8,8,8,8,8,8,8,8,8,8,8,8,8,8,8,8,8,8,8,8,8,8,8,8,8,8,8,8,8,8,8,8,8,8,8,8,8,8,8,8,8,8,8,8,8,8,8,8,8,8,8,8,8,8,8,8,8,8,8,8,8,8,8,8,8,8,8,8,8,8,8,8,8,8,8,8]
theorem tab_ok:∀y:Fin 256,∃z,lenTab[y.val]? =some z/\2^z.toNat<=max 1 (2*y.val)/\z.toNat<=8/\y.val<2^z.toNat:=by
 have h:∀y:Fin 256,(match lenTab[y.val]? with|some z=>decide (2^z.toNat<=max 1 (2*y.val)/\z.toNat<=8/\y.val<2^z.toNat)|none=>false)=true:=by decide+kernel
 intro y;have hy:=h y;cases hz:lenTab[y.val]? with
 |none=>rw[hz]at hy;cases hy
 |some z=>rw[hz]at hy;exact⟨z,rfl,of_decide_eq_true hy⟩
theorem tab_get{y:Nat}(hy:y<256):∃z:UInt8,aG lenTab ((u8of (y:Int)).toNat:Int)=some z/\2^z.toNat<=max 1 (2*y)/\z.toNat<=8/\y<2^z.toNat:=by
 obtain⟨z,h1,h2⟩:=tab_ok ⟨y,hy⟩
 refine⟨z,?_,h2⟩
 have e:((u8of (y:Int)).toNat:Int)=(y:Int):=by
  rw[<-u8of_eq];simp only[IntKind.wrap,IntKind.bits,IntKind.signed];simp;omega
 rw[e];exact jw h1
set_option maxRecDepth 10000 in
theorem len_ok{x:Nat}(hx:x<=1048575):∃n:Nat,ml (x:Int)=some (n:Int)/\2^n<=max 1 (2*x)/\n<=20/\x<2^n:=by
 unfold ml mT;simp only[bV]
 change∃n:Nat,(ae (ae (aG lenTab _) _) _:Option Int)=_/\_
 rw[zf (show ¬(x:Int)>=4294967296 from by omega),zd]
 have key:∀(y k:Nat),y<256->k<=12+4->∃z:Nat,(ae (ae (aG lenTab ((u8of (y:Int)).toNat:Int)) fun(x22:UInt8)=>some (iw ((k:Int)+iw (x22.toNat:Int)))) fun x7=>some x7)=some ((k+z:Nat):Int)/\2^z<=max 1 (2*y)/\z<=8/\y<2^z:=fun y k hy hk=>by
  obtain⟨z,h1,h2,h3,h4⟩:=tab_get hy
  refine⟨z.toNat,?_,h2,h3,h4⟩
  rw[h1,bPs,bPs,wW (n:=(z.toNat:Int)) (by omega) (by omega),wW (by omega) (by omega)];simp
 by_cases h1:x>=65536
 ·rw[zt (show(x:Int)>=65536 from by omega),zc]
  have e:Int.fdiv (x:Int) (2^16)=((x/65536:Nat):Int):=by
   rw[Int.fdiv_eq_ediv_of_nonneg _ (by decide)];rfl
  dsimp only;rw[e,zf (show ¬((x/65536:Nat):Int)>=256 from by omega),zd];dsimp only;rw[show iw ((0:Int)+16)=((16:Nat):Int)from by decide+kernel]
  obtain⟨z,e1,h2,h3,h4⟩:=key (x/65536) 16 (by omega) (by omega)
  refine⟨16+z,e1,?_,?_,?_⟩
  ·rw[Nat.pow_add]
   have:(2:Nat)^16=65536:=by decide
   omega
  ·have:2^z<=2*(x/65536):=by omega
   have hz : 2 ^ z < 2 ^ 5 := by have : (2 : Nat) ^ 5 = 32 := by decide
                                 omega
   have:=(Nat.pow_lt_pow_iff_right (by omega:1<2)).1 hz
   omega
  ·rw[Nat.pow_add]
   have:(2:Nat)^16=65536:=by decide
   omega
 ·rw[zf (show ¬(x:Int)>=65536 from by omega),zd];dsimp only;by_cases h2:x>=256
  ·rw[zt (show(x:Int)>=256 from by omega),zc]
   have e:Int.fdiv (x:Int) (2^8)=((x/256:Nat):Int):=by
    rw[Int.fdiv_eq_ediv_of_nonneg _ (by decide)];rfl
   dsimp only;rw[e,show iw ((0:Int)+8)=((8:Nat):Int)from by decide+kernel]
   obtain⟨z,e1,h2,h3,h4⟩:=key (x/256) 8 (by omega) (by omega)
   refine⟨8+z,e1,?_,by omega,?_⟩
   ·rw[Nat.pow_add]
    have:(2:Nat)^8=256:=by decide
    omega
   ·rw[Nat.pow_add]
    have:(2:Nat)^8=256:=by decide
    omega
  ·rw[zf (show ¬(x:Int)>=256 from by omega),zd];dsimp only
   obtain⟨z,e1,h2,h3,h4⟩:=key x 0 (by omega) (by omega)
   refine⟨z,?_,h2,by omega,h4⟩
   rw[show((0:Nat):Int)=0 from Z]at e1;rw[show((z:Nat):Int)=((0+z:Nat):Int)from by simp];exact e1
theorem next_ok(r:Int):∃x r',lc r=some (x,r'):=⟨_,_,rfl⟩
theorem pow_ok{x:Nat}(h0:0<x)(hx:x<=1048575):∃n:Nat,kG (x:Int)=some (n:Int)/\0<n/\n<=2*x:=by
 unfold kG
 obtain⟨n,e,h1,h2,_⟩:=len_ok hx
 have hp:0<2^n:=Nat.pow_pos (by omega);have hp2:2^n<=2*x:=by omega
 rw[u64_id (by omega),e,bPs]
 refine⟨2^n,?_,hp,hp2⟩
 unfold shlI;rw[zp (by omega),bPs,Int.toNat_natCast,show min n IntKind.u64.bits=n from by show min n 64=n;omega,Int.one_mul,show((2:Int)^n)=((2^n:Nat):Int)from by simp,u64_id (by omega)]
theorem break_okZ{A:Array α}{a b:Nat}(hs:A.size<=1048575)(hab:a+12<b)(hb:b<=A.size):∃r,gO (rpZ v A) (a:Int) (b:Int)=some r/\∃A',r=rpZ v A'/\PermIn a b A A':=by
 unfold gO;rw[wrapN (z:=(b:Int)-(a:Int)) (n:=b-a),zt (show((b-a:Nat):Int)>=8 from by omega),zc,Int.tdiv_eq_ediv_of_nonneg (by omega)];rw[wrapN (z:=((b-a:Nat):Int)/4) (n:=(b-a)/4)]
 obtain⟨M,eM,hM0,hM⟩:=pow_ok (x:=b-a) (by omega) (by omega)
 rw[eM,bPs];generalize hq:(b-a)/4=q;have hq1:4*q<=b-a/\b-a<4*q+4:=by omega
 clear hq;rw[wrapN (z:=(q:Int)*2) (n:=2*q),wrapN (z:=(a:Int)+((2*q:Nat):Int)) (n:=a+2*q),wrapN (z:=((a+2*q:Nat):Int)-1) (n:=a+2*q-1),wrapN (z:=((a+2*q:Nat):Int)+1) (n:=a+2*q+1),show(M:Int)-1=((M-1:Nat):Int)from by omega,u64_id (n:=M-1) (by omega)];refine ij (fun s=>∃(D:Array α) (i:Nat) (r:Int),s=(rpZ v D,(i:Int),r)/\a<=i/\i<=a+2*q+2/\PermIn a b A D) (fun s=>(((a+2*q+2:Nat):Int)-s.2.1).toNat) (fun s=>∃D:Array α,s.1=rpZ v D/\PermIn a b A D) ⟨A,a+2*q-1,_,rfl,by omega,by omega,permIn_refl _ _ _⟩ (fun s hI=>?_) (fun s hq=>?_)
 ·obtain⟨D,i,r,rfl,hai,hi,hP⟩:=hI
  have hD:=hP.1;dsimp only;by_cases hle:i<=a+2*q+1
  ·rw[zt (by omega),zc]
   obtain⟨x,r',e⟩:=next_ok r
   rw[e,bPs];dsimp only
   obtain⟨o,eo,ho⟩:=and_small (m:=M-1) x
   rw[eo,wrapN (z:=(o:Int)) (n:=o) Z (by omega),bV]
   obtain⟨t,ht,hlt⟩:∃t:Nat,(cond (decide ((o:Int)>=((b-a:Nat):Int))) ((rpZ v D,(iw ((o:Int)-((b-a:Nat):Int))))) ((rpZ v D,(o:Int))):Strs×Int)=(rpZ v D,(t:Int))/\t<b-a:=by
    by_cases h:o>=b-a
    ·rw[zt (by omega),zc,wrapN (z:=(o:Int)-((b-a:Nat):Int)) (n:=o-(b-a))]
     exact⟨_,rfl,by omega⟩
    ·rw[zf (by omega),zd]
     exact⟨_,rfl,by omega⟩
   rw[ht];dsimp only;rw[wrapN (z:=(a:Int)+(t:Int)) (n:=a+t),rp_swapZ (by omega) (by omega),wrapN (z:=(i:Int)+1) (n:=i+1)]
   exact⟨_,rfl,⟨swp D i (a+t),i+1,r',rfl,by omega,by omega,permIn_trans _ _ _ _ _ hP (swp_permIn D a b i (a+t) hai (by omega) (by omega) (by omega) (by omega))⟩,by show(((a+2*q+2:Nat):Int)-((i+1:Nat):Int)).toNat<(((a+2*q+2:Nat):Int)-(i:Int)).toNat;omega⟩
  ·rw[zf (by omega),zd]
   exact⟨_,rfl,D,rfl,hP⟩
 ·obtain⟨D,h1,h2⟩:=hq
  exact⟨_,rfl,D,h1,h2⟩
theorem LeO.whileM{σ ρ:Type}{st st':σ->Option (Flow σ ρ)}(h:∀s,LeO (st s) (st' s))(s:σ):LeO (dg st s) (dg st' s):=by
 intro r hr;rw[whileM_iff]at hr⊢
 obtain⟨n,hn⟩:=hr
 refine⟨n,?_⟩
 induction n generalizing s with
 |zero=>simp[kD]at hn
 |succ n ih=>
  simp only[kD]at hn⊢;cases hs:st s with
  |none=>rw[hs]at hn;cases hn
  |some fl=>
   rw[h s fl hs];rw[hs]at hn;cases fl with
   |next s'=>exact ih s' hn
   |brk s'=>exact hn
   |ret x=>exact hn
theorem LeO.thenF{σ τ ρ:Type}{fl:Flow σ ρ}{k k':σ->Option (Flow τ ρ)}(hk:∀s,LeO (k s) (k' s)):LeO (fl.thenF k) (fl.thenF k'):=by
 cases fl with
 |next s=>exact hk s
 |brk s=>exact hk s
 |ret r=>exact LeO.refl _
theorem pdq_monoZ{r r':Strs->Int->Int->Int->Option Strs}(h:∀d a b l,LeO (r d a b l) (r' d a b l))(d:Strs)(a b l:Int):LeO (iQ r d a b l) (iQ r' d a b l):=by
 unfold iQ;simp only[bV];refine LeO.bind (LeO.whileM (fun s=>LeO.cond (LeO.refl _) (LeO.cond (LeO.refl _) (LeO.bind (LeO.refl _) fun t=>LeO.bind (LeO.refl _) fun u=>LeO.bind (LeO.refl _) fun _=>LeO.bind (LeO.refl _) fun w=>LeO.bind (LeO.refl _) fun fl=>LeO.thenF fun x=>LeO.bind (LeO.refl _) fun y=>LeO.cond (LeO.refl _) (LeO.bind (LeO.refl _) fun z=>LeO.bind (LeO.refl _) fun _=>LeO.cond (LeO.bind (h _ _ _ _) fun _=>LeO.refl _) (LeO.bind (h _ _ _ _) fun _=>LeO.refl _))))) _) fun fl=>LeO.refl _
theorem pdq_stepZ:∀(n:Nat) (d:Strs) (a b l:Int),LeO (gB n d a b l) (gB (n+1) d a b l)
 |0,d,a,b,l=>fun r h=>by simp[gB]at h
 |n+1,d,a,b,l=>by
  rw[gB,gB];exact pdq_monoZ (fun d a b l=>pdq_stepZ n d a b l) d a b l
theorem pdq_limZ{n:Nat}{d:Strs}{a b l:Int}{r:Strs}(h:gB n d a b l=some r):kN d a b l=some r:=by
 refine rO n fun k hk=>?_
 obtain⟨j,rfl⟩:∃j,k=n+j:=⟨k-n,by omega⟩
 clear hk;induction j with
 |zero=>exact h
 |succ j ih=>exact pdq_stepZ (n+j) d a b l r ih
theorem pdq_okZ(hC:CmpIsZ v lt)(hS:SWO lt):∀(n:Nat) {A:Array α} {a b lim:Nat},A.size<=1048575->a<=b->b<=A.size->lim<=1048575->Below lt a b A->b-a<n->
  ∃r,gB n (rpZ v A) (a:Int) (b:Int) (lim:Int)=some r/\∃A',r=rpZ v A'/\PermIn a b A A'/\SortedIn lt a b A'
 |0,_,_,_,_,_,_,_,_,_,hn=>by omega
 |n+1,A,a,b,lim,hs,hab,hb,hlim,hB,hn=>by
  rw[gB];unfold iQ;refine while_runR (fun s=>∃(D:Array α) (x y l:Nat) (wb wp:Bool),s=(rpZ v D,(x:Int),(y:Int),(l:Int),wb,wp)/\D.size=A.size/\x<=y/\y<=A.size/\l<=1048575/\Below lt x y D/\y-x<=b-a/\∀R,PermIn x y D R->SortedIn lt x y R->PermIn a b A R/\SortedIn lt a b R) (fun s=>(s.2.2.1-s.2.1).toNat) (fun _=>False) ⟨A,a,b,lim,true,true,rfl,rfl,hab,hb,hlim,hB,Nat.le_refl _,fun R h1 h2=>⟨h1,h2⟩⟩ (fun s hI=>?_) (fun s hq=>hq.elim)
  obtain⟨D,x,y,l,wb,wp,rfl,hD,hxy,hy,hl,hBD,hle,hfin⟩:=hI
  dsimp only;rw[wrapN (z:=(y:Int)-(x:Int)) (n:=y-x)];by_cases h12:y-x<=12
  ·rw[zt (by omega),zc,ins_simZ hC (by omega) (by omega) (by omega),bPs];have hi:=Go.Sort.insertionSort_holds (lt:=lt) hS D x y hxy (by omega);rw[el (by rw[rp_lenZ,rp_lenZ,hi.1.1]),bPs]
   exact⟨_,rfl,_,rfl,hfin _ hi.1 hi.2⟩
  rw[zf (by omega),zd];by_cases h0:l=0
  ·rw[ld (show(l:Int)=0 from by omega),zc,heap_simZ hC (by omega) hxy (by omega),bPs];have hi:=Go.Sort.heapSort_holds (lt:=lt) hS D x y hxy (by omega);rw[el (by rw[rp_lenZ,rp_lenZ,hi.1.1]),bPs]
   exact⟨_,rfl,_,rfl,hfin _ hi.1 hi.2⟩
  rw[dm (show ¬(l:Int)=0 from by omega),zd]
  -- broken patterns
  refine bind_ex (P:=fun t=>∃(D1:Array α) (l1:Nat),t=(rpZ v D1,(l1:Int))/\l1<=1048575/\PermIn x y D D1) ?_ (fun t ht=>?_)
  ·cases wb with
   |true=>exact⟨_,rfl,D,l,rfl,hl,permIn_refl _ _ _⟩
   |false=>
    rw[Bool.not_false,zc]
    obtain⟨r,e,D1,rfl,hP⟩:=break_okZ (v:=v) (A:=D) (a:=x) (b:=y) (by omega) (by omega) (by omega)
    rw[e,bPs,el (by rw[rp_lenZ,rp_lenZ,hP.1]),bPs,wrapN (z:=(l:Int)-1) (n:=l-1)]
    exact⟨_,rfl,D1,l-1,rfl,by omega,hP⟩
  obtain⟨D1,l1,rfl,hl1,hP1⟩:=ht
  have hD1:=hP1.1;have hB1:Below lt x y D1:=hBD.perm (by omega) hP1;dsimp only
  obtain⟨r,e,p,h,rfl,hp1,hp2⟩:=pivot_okZ hC (A:=D1) (a:=x) (b:=y) (by omega) (by omega) (by omega)
  rw[e,bPs,el Z,bPs];dsimp only
  -- turned round
  refine bind_ex (P:=fun t=>∃(D2:Array α) (p2:Nat) (h2:Int),t=(rpZ v D2,(p2:Int),h2)/\x<=p2/\p2<y/\PermIn x y D1 D2) ?_ (fun t ht=>?_)
  ·cases h==2 with
   |true=>
    have hr:=Go.Sort.reverseRange_holds D1 x y hxy (by omega);rw[zc,reverse_simZ (by omega) (by omega) (by omega),bPs,el (by rw[rp_lenZ,rp_lenZ,hr.1]),bPs,wrapN (z:=(y:Int)-1) (n:=y-1),wrapN (z:=(p:Int)-(x:Int)) (n:=p-x),wrapN (z:=((y-1:Nat):Int)-((p-x:Nat):Int)) (n:=y-1-(p-x))]
    exact⟨_,rfl,_,_,_,rfl,by omega,by omega,hr⟩
   |false=>exact⟨_,rfl,D1,p,h,rfl,hp1,hp2,permIn_refl _ _ _⟩
  obtain⟨D2,p2,h2,rfl,hq1,hq2,hP2⟩:=ht
  have hD2:=hP2.1;have hB2:Below lt x y D2:=hB1.perm (by omega) hP2;rw[bV]
  obtain⟨bb,hbb⟩:∃bb:Bool,(cond wb (cond wp ((rpZ v D2,(h2==(1:Int)))) ((rpZ v D2,false))) ((rpZ v D2,false)):Strs×Bool)=(rpZ v D2,bb):=by
   cases wb
   ·exact⟨_,rfl⟩
   ·cases wp
    ·exact⟨_,rfl⟩
    ·exact⟨_,rfl⟩
  dsimp only;rw[hbb]
  -- insertion in part
  refine bind_ex (P:=fun fl=>(∃D3,fl= .next (rpZ v D3)/\PermIn x y D2 D3)\/∃D3,fl= .ret (rpZ v D3)/\PermIn x y D2 D3/\SortedIn lt x y D3) ?_ (fun fl hfl=>?_)
  ·cases bb with
   |false=>exact⟨_,rfl,.inl ⟨D2,rfl,permIn_refl _ _ _⟩⟩
   |true=>
    have hi:=Go.Sort.partialInsertionSort_holds (lt:=lt) hS D2 x y (by omega) (by omega) hB2;dsimp only;rw[zc,pis_simZ hC (by omega) (by omega) (by omega),bPs];dsimp only;rw[el (by rw[rp_lenZ,rp_lenZ,hi.1.1]),bPs];cases hx:(partialInsertionSort lt D2 x y).2 with
    |true=>exact⟨_,rfl,.inr ⟨_,rfl,hi.1,hi.2 hx⟩⟩
    |false=>exact⟨_,rfl,.inl ⟨_,rfl,hi.1⟩⟩
  rcases hfl with⟨D3,rfl,hP3⟩|⟨D3,rfl,hP3,hS3⟩
  rotate_left
  ·exact⟨_,rfl,D3,rfl,hfin _ (permIn_trans _ _ _ _ _ (permIn_trans _ _ _ _ _ hP1 hP2) hP3) hS3⟩
  rw[thenF_nextS];have hD3:=hP3.1;have hB3:Below lt x y D3:=hB2.perm (by omega) hP3;have hP:PermIn x y D D3:=permIn_trans _ _ _ _ _ (permIn_trans _ _ _ _ _ hP1 hP2) hP3;have hfin3:∀R,PermIn x y D3 R->SortedIn lt x y R->PermIn a b A R/\SortedIn lt a b R:=fun R h1 h2=>hfin R (permIn_trans _ _ _ _ _ hP h1) h2
  -- many that are equal?
  refine bind_ex (P:=fun t=>∃bb:Bool,t=(rpZ v D3,bb)/\(bb=true->0<x/\lt D3[x-1]! D3[p2]! =false)) ?_ (fun t ht=>?_)
  ·by_cases hx:0<x
   ·have hlc:=hC.is D3[x-1]! D3[p2]!;rw[zt (by omega),zc,wrapN (z:=(x:Int)-1) (n:=x-1),rp_getZ (by omega),bPs,rp_getZ (by omega),bPs,letC,hlc]
    exact⟨_,rfl,_,rfl,fun h=>⟨hx,by simpa using h⟩⟩
   ·rw[zf (by omega),zd]
    exact⟨_,rfl,false,rfl,fun h=>by cases h⟩
  obtain⟨bb,rfl,hbb⟩:=ht
  dsimp only;cases bb with
  |true=>
   rw[zc,partEq_simZ hC (by omega) hq1 hq2 (by omega),bPs]
   obtain⟨hx0,hnl⟩:=hbb Z
   obtain⟨k1,k2,k3,k4,k5⟩:=Go.Sort.round_eq hS (Go.Sort.partitionEqual_holds lt) hx0 hq1 hq2 (by omega) hB3 hnl (mid:=(partitionEqual lt D3 x y p2).1) (d4:=(partitionEqual lt D3 x y p2).2) Z
   dsimp only;rw[el (by rw[rp_lenZ,rp_lenZ,k3]),bPs]
   exact⟨_,rfl,⟨_,_,y,l1,wb,wp,rfl,by omega,k2,hy,hl1,k4,by omega,fun R h1 h2=>hfin3 R (k5 R h1 h2).1 (k5 R h1 h2).2⟩,by show((y:Int)-((partitionEqual lt D3 x y p2).1:Int)).toNat<((y:Int)-(x:Int)).toNat;omega⟩
  |false=>
   rw[zd,part_simZ hC (by omega) hq1 hq2 (by omega),bPs]
   obtain⟨k1,k2,k3,k4,k5,k6,k7⟩:=Go.Sort.round_part hS (Go.Sort.partition_holds lt) hq1 hq2 (by omega) hB3 (mid:=(partition lt D3 x y p2).1) (ap:=(partition lt D3 x y p2).2.1) (d4:=(partition lt D3 x y p2).2.2) Z
   dsimp only;rw[el (by rw[rp_lenZ,rp_lenZ,k3]),bPs]
   generalize(partition lt D3 x y p2).1=mid at k1 k2 k4 k5 k6 k7⊢
   generalize(partition lt D3 x y p2).2.1=ap at⊢
   generalize(partition lt D3 x y p2).2.2=D4 at k3 k4 k5 k6 k7⊢
   rw[wrapN (z:=(mid:Int)-(x:Int)) (n:=mid-x),wrapN (z:=(y:Int)-(mid:Int)) (n:=y-mid),wrapN (z:=(mid:Int)+1) (n:=mid+1)];by_cases hlt:mid-x<y-mid
   ·rw[zt (by omega),zc]
    obtain⟨r,e,L,rfl,hL1,hL2⟩:=pdq_okZ hC hS n (A:=D4) (a:=x) (b:=mid) (lim:=l1) (by omega) k1 (by omega) hl1 k4 (by omega)
    rw[e,bPs,el (by rw[rp_lenZ,rp_lenZ,hL1.1]),bPs]
    obtain⟨m1,m2⟩:=k6 L hL1 hL2
    have hLs:=hL1.1
    exact⟨_,rfl,⟨L,mid+1,y,l1,_,_,rfl,by omega,by omega,hy,hl1,m1,by omega,fun R h1 h2=>hfin3 R (m2 R h1 h2).1 (m2 R h1 h2).2⟩,by show((y:Int)-((mid+1:Nat):Int)).toNat<((y:Int)-(x:Int)).toNat;omega⟩
   ·rw[zf (by omega),zd]
    obtain⟨r,e,L,rfl,hL1,hL2⟩:=pdq_okZ hC hS n (A:=D4) (a:=mid+1) (b:=y) (lim:=l1) (by omega) (by omega) (by omega) hl1 k5 (by omega)
    rw[e,bPs,el (by rw[rp_lenZ,rp_lenZ,hL1.1]),bPs]
    obtain⟨m1,m2⟩:=k7 L hL1 hL2
    have hLs:=hL1.1
    exact⟨_,rfl,⟨L,x,mid,l1,_,_,rfl,by omega,k1,by omega,hl1,m1,by omega,fun R h1 h2=>hfin3 R (m2 R h1 h2).1 (m2 R h1 h2).2⟩,by show((mid:Int)-(x:Int)).toNat<((y:Int)-(x:Int)).toNat;omega⟩
theorem sortFunc_okZ(hC:CmpIsZ v lt)(hS:SWO lt){A:Array α}(hs:A.size<=1048575):∃A',gY (rpZ v A)=some (rpZ v A')/\PermIn 0 A.size A A'/\SortedIn lt 0 A.size A':=by
 unfold gY;rw[rp_lenZ]
 obtain⟨n,e,_,hn,_⟩:=len_ok (x:=A.size) hs
 rw[u64_id (by omega),e,bPs]
 obtain⟨r,e2,A',rfl,h1,h2⟩:=pdq_okZ hC hS (A.size+1) (A:=A) (a:=0) (b:=A.size) (lim:=n) hs (Nat.zero_le _) (Nat.le_refl _) (by omega) (.inl Z) (by omega)
 have e3:=pdq_limZ e2;rw[show((0:Nat):Int)=0 from Z]at e3;rw[e3,bPs,el (by rw[rp_lenZ,h1.1]),bPs]
 exact⟨A',rfl,h1,h2⟩
end
end
end Go.Proofs.YtafdcemcgfbhcaaGreat

namespace Go.Proofs.YtafdcemcgfbhcaaGreat
noncomputable section
open Go Go.Ab Go.Proofs.Tryz
open Go.Sort (SWO PermIn SortedIn)
structure STO{α:Type}(lt:α->α->Bool):Prop where
 irrefl:∀x,lt x x=false
 trans:∀x y z,lt x y=true->lt y z=true->lt x z=true
 tri:∀x y,lt x y=false->lt y x=false->x=y
theorem STO.swo{α:Type}{lt:α->α->Bool}(h:STO lt):SWO lt where
 irrefl:=h.irrefl
 trans:=h.trans
 ntrans:=fun x y z h1 h2=>by
  cases hxz:lt x z with
  |false=>rfl
  |true=>
   cases hyx:lt y x with
   |true=>rw[h.trans y x z hyx hxz]at h2;cases h2
   |false=>
    have:=h.tri x y h1 hyx
    subst this;rw[hxz]at h2;cases h2
theorem bytes_sto:STO Op.bytesLess where
 irrefl:=fun x=>by
  induction x with
  |nil=>rfl
  |cons a x ih=>simp[Op.bytesLess,ih]
 trans:=fun x=>by
  induction x with
  |nil=>
   intro y z h1 h2;cases y with
   |nil=>cases z with
    |nil=>exact h2
    |cons c z=>rfl
   |cons b y=>cases z with
    |nil=>simp[Op.bytesLess]at h2
    |cons c z=>rfl
  |cons a x ih=>
   intro y z h1 h2;cases y with
   |nil=>simp[Op.bytesLess]at h1
   |cons b y=>cases z with
    |nil=>simp[Op.bytesLess]at h2
    |cons c z=>
     simp only[Op.bytesLess,Bool.or_eq_true,decide_eq_true_eq,Bool.and_eq_true,beq_iff_eq,UInt8.lt_iff_toNat_lt]at h1 h2⊢;rcases h1 with h1|⟨e1,h1⟩
     ·rcases h2 with h2|⟨e2,h2⟩
      ·exact .inl (by omega)
      ·exact .inl (by rw[<-e2];exact h1)
     ·rcases h2 with h2|⟨e2,h2⟩
      ·exact .inl (by rw[e1];exact h2)
      ·exact .inr ⟨e1.trans e2,ih y z h1 h2⟩
 tri:=fun x=>by
  induction x with
  |nil=>
   intro y h1 h2;cases y with
   |nil=>rfl
   |cons b y=>simp[Op.bytesLess]at h1
  |cons a x ih=>
   intro y h1 h2;cases y with
   |nil=>simp[Op.bytesLess]at h2
   |cons b y=>
    simp only[Op.bytesLess,Bool.or_eq_false_iff,decide_eq_false_iff_not,Bool.and_eq_false_iff,UInt8.lt_iff_toNat_lt]at h1 h2;have e:a=b:=UInt8.toNat_inj.1 (by omega);subst e;have h3:Op.bytesLess x y=false:=by rcases h1.2 with h|h;simp at h;exact h
    have h4:Op.bytesLess y x=false:=by rcases h2.2 with h|h;simp at h;exact h
    rw[ih y h3 h4]
theorem beqTLP{x y:Rb}(h:x=y):(x==y)=true:=by simp[h]
theorem beqFLP{x y:Rb}(h:¬x=y):(x==y)=false:=by simpa using h
theorem getS_okP{α:Type}{xs:List α}{l h:Nat}{j:Int}{n:Nat}{x:α}(h0:0<=j)(hn:l+j.toNat=n)(h1:n<h)(hx:xs[n]? =some x):getS xs l h j=some x:=by
 unfold getS;rw[zp ⟨h0,by omega⟩,hn,hx]
theorem cut_okP{α:Type}{xs:List α}{k:Nat}(h:k<=xs.length):nk xs (k:Int)=some (xs.take k):=by
 unfold nk;rw[zp ⟨by omega,by simpa using h⟩,Int.toNat_natCast]
def AdjNe(l:Strs):Prop:=∀(p:Nat) (x y:Rb),l[p]? =some x->l[p+1]? =some y->x≠y
theorem AdjNe.app{l:Strs}{z:Rb}(h:AdjNe l)(hz:∀x,l[l.length-1]? =some x->x≠z):AdjNe (l++[z]):=by
 intro p x y hx hy;by_cases hp:p+1<l.length
 ·rw[List.getElem?_append_left (by omega)]at hx;rw[List.getElem?_append_left hp]at hy;exact h p x y hx hy
 ·have h1:=(zg.1 hy).1;simp at h1;have h2:p+1=l.length:=by omega
  rw[List.getElem?_append_right (by omega),h2]at hy;simp at hy;rw[List.getElem?_append_left (by omega)]at hx;rw[<-hy];exact hz x (by rw[<-hx];congr 1;omega)
theorem compactN(A:Strs)(hs:A.length<=1048575):∃r,go A=some r/\r.Sublist A/\(∀x∈A,x∈r)/\AdjNe r:=by
 unfold go;by_cases h2:A.length<2
 ·rw[zt (by omega),zc]
  exact⟨_,rfl,List.Sublist.refl _,fun x h=>h,fun p x y _ hy=>by have:=(zg.1 hy).1;omega⟩
 ·rw[zf (by omega),zd];refine while_runR (fun s=>∃i:Nat,s=(A,(i:Int))/\1<=i/\AdjNe (A.take i)) (fun s=>((A.length:Int)-s.2).toNat) (fun s=>s.1=A/\AdjNe A) ⟨1,rfl,Nat.le_refl _,fun p x y _ hy=>by have:=(zg.1 hy).1;simp at this;omega⟩ (fun s hI=>?_) (fun s hq=>⟨_,rfl,by rw[hq.1];exact⟨List.Sublist.refl _,fun x h=>h,hq.2⟩⟩)
  obtain⟨k0,rfl,hk0,hadj0⟩:=hI
  dsimp only;by_cases hlt:k0<A.length
  ·rw[zt (by omega),zc,wrapN (z:=(k0:Int)-1) (n:=k0-1),wrapN (z:=(k0:Int)+1) (n:=k0+1),fI hlt,bPs,fI (show k0-1<A.length by omega),bPs];by_cases he:A[k0]=A[k0-1]
   ·rw[beqTLP he,zc,cut_okP (by omega),bPs];refine ij (fun s=>∃(D:Strs) (k j:Nat),s=(D,(k:Int),(j:Int))/\D.length=A.length/\k0<=k/\1<=j/\k+1<=k0+j/\k0+j<=A.length/\(∀p,k<=p->D[p]? =A[p]?)/\(D.take k).Sublist (A.take (k0+j))/\(∀x∈A.take (k0+j),x∈D.take k)/\AdjNe (D.take k)/\D[k-1]? =A[k0+j-1]?) (fun s=>((A.length:Int)-s.2.2).toNat) (fun s=>∃(D:Strs) (k:Nat),s.1=D/\s.2.1=(k:Int)/\k<=D.length/\(D.take k).Sublist A/\(∀x∈A,x∈D.take k)/\AdjNe (D.take k)) ⟨A,k0,1,rfl,rfl,Nat.le_refl _,Nat.le_refl _,by omega,by omega,fun _ _=>rfl,?_,fun x hx=>?_,hadj0,by rw[ze (show k0-1<A.length by omega),show k0+1-1=k0 from Z,ze hlt,he]⟩ (fun s hI=>?_) (fun s hq=>?_)
    ·rw[List.take_add_one];exact List.sublist_append_left _ _
    ·rw[List.take_add_one,ze hlt,he]at hx;rcases List.mem_append.1 hx with hx|hx
     ·exact hx
     ·simp at hx;rw[hx];exact List.mem_take_iff_getElem.2 ⟨k0-1,by omega,rfl⟩
    ·obtain⟨D,k,j,rfl,hD,hk,hj,hkj,hjl,hsame,hsub,hmem,hadj,hlast⟩:=hI
     dsimp only;rw[zl,Int.toNat_natCast];by_cases hl2:k0+j<A.length
     ·have e1:D[k0+j]? =some A[k0+j]:=by rw[hsame _ (by omega),ze hl2]
      have e2:D[k0+j-1]? =some A[k0+j-1]:=by rw[hsame _ (by omega),ze (by omega)]
      rw[zt (by omega),zc,wrapN (z:=(j:Int)-1) (n:=j-1),wrapN (z:=(j:Int)+1) (n:=j+1),wrapN (z:=(k:Int)+1) (n:=k+1),getS_okP (n:=k0+j) (by omega) (by omega) hl2 e1,bPs,getS_okP (n:=k0+j-1) (by omega) (by omega) (by omega) e2,bPs]
      have htake:A.take (k0+(j+1))=A.take (k0+j)++[A[k0+j]]:=by
       rw[show k0+(j+1)=k0+j+1 from Z,List.take_add_one,ze hl2];rfl
      by_cases heq:A[k0+j]=A[k0+j-1]
      ·rw[beqTLP heq,Bool.not_true,zd]
       refine⟨_,rfl,⟨D,k,j+1,rfl,hD,hk,by omega,by omega,by omega,hsame,?_,fun x hx=>?_,hadj,by rw[hlast,show k0+(j+1)-1=k0+j from Z,ze hl2,heq,ze (show k0+j-1<A.length by omega)]⟩,by show((A.length:Int)-((j+1:Nat):Int)).toNat<((A.length:Int)-(j:Int)).toNat;omega⟩
       ·rw[htake];exact hsub.trans (List.sublist_append_left _ _)
       ·rw[htake]at hx;rcases List.mem_append.1 hx with hx|hx
        ·exact hmem x hx
        ·simp at hx;rw[hx,heq];exact hmem _ (List.mem_take_iff_getElem.2 ⟨k0+j-1,by omega,rfl⟩)
      ·rw[beqFLP heq,Bool.not_false,zc,bPs,fI (show k<D.length by omega),bPs,bV,Int.toNat_natCast]
       have ht2:(D.set k A[k0+j]).take (k+1)=D.take k++[A[k0+j]]:=by
        rw[List.take_add_one,List.getElem?_set_self (by omega),List.take_set_of_le (Nat.le_refl _)];rfl
       refine⟨_,rfl,⟨D.set k A[k0+j],k+1,j+1,rfl,by simpa using hD,by omega,by omega,by omega,by omega,fun p hp=>?_,?_,fun x hx=>?_,by rw[ht2];exact hadj.app fun x hx e=>heq (by
        have hkl:(D.take k).length=k:=by simp;omega
        rw[hkl,List.getElem?_take_of_lt (by omega),hlast,ze (show k0+j-1<A.length by omega)]at hx;rw[<-e,<-Option.some.inj hx]),by rw[show k+1-1=k from Z,List.getElem?_set_self (by omega),show k0+(j+1)-1=k0+j from Z,ze hl2]⟩,by show((A.length:Int)-((j+1:Nat):Int)).toNat<((A.length:Int)-(j:Int)).toNat;omega⟩
       ·rw[List.getElem?_set_ne (by omega)];exact hsame p (by omega)
       ·rw[ht2,htake];exact List.Sublist.append hsub (List.Sublist.refl _)
       ·rw[htake]at hx;rw[ht2];rcases List.mem_append.1 hx with hx|hx
        ·exact List.mem_append_left _ (hmem x hx)
        ·exact List.mem_append_right _ hx
     ·rw[zf (by omega),zd];have hz:k0+j=A.length:=by omega
      rw[hz,List.take_length]at hsub hmem
      exact⟨_,rfl,D,k,rfl,rfl,by omega,hsub,hmem,hadj⟩
    ·obtain⟨D,k,q1,q2,hkl,hsub,hmem,hadj⟩:=hq
     rw[q1,q2,cut_okP hkl,bPs,cut_okP (by simp;omega),bPs,List.take_take,Nat.min_self]
     exact⟨_,rfl,hsub,hmem,hadj⟩
   ·rw[beqFLP he,zd]
    exact⟨_,rfl,⟨k0+1,rfl,by omega,by
     rw[List.take_add_one,ze hlt]
     exact hadj0.app fun x hx e=>he (by
      have hkl:(A.take k0).length=k0:=by simp;omega
      rw[hkl,List.getElem?_take_of_lt (by omega),ze (show k0-1<A.length by omega)]at hx;rw[<-e,<-Option.some.inj hx])⟩,by show((A.length:Int)-((k0+1:Nat):Int)).toNat<((A.length:Int)-(k0:Int)).toNat;omega⟩
  ·rw[zf (by omega),zd]
   exact⟨_,rfl,rfl,by rw[List.take_of_length_le (by omega)]at hadj0;exact hadj0⟩
theorem nodup_of{l:Strs}(hs:l.Pairwise fun x y=>Op.bytesLess y x=false)(ha:AdjNe l):l.Nodup:=by
 refine List.pairwise_iff_getElem.2 fun i j hi hj hij e=>?_
 by_cases h:i+1=j
 ·subst h;exact ha i _ _ (ze hi) (ze hj) e
 ·have h1:=List.pairwise_iff_getElem.1 hs i (i+1) hi (by omega) (by omega);have h2:=List.pairwise_iff_getElem.1 hs (i+1) j (by omega) hj (by omega);rw[<-e]at h2;exact ha i _ _ (ze hi) (ze (by omega)) (bytes_sto.tri _ _ h2 h1)
theorem sorted_set{T:Strs}(hT:T.length<=1048575):∃s r,gY T=some s/\s.length=T.length/\go s=some r/\r.Nodup/\(∀x,x∈r↔x∈T)/\r.length<=T.length:=by
 have mk:rpZ (fun x:Rb=>x) T.toArray=T:=by unfold rpZ;simp
 obtain⟨A',e,hP,hS⟩:=sortFunc_okZ (v:=fun x:Rb=>x) (lt:=Op.bytesLess) ⟨fun _ _=>rfl⟩ bytes_sto.swo (A:=T.toArray) (by simpa using hT)
 rw[mk]at e;have mk2:rpZ (fun x:Rb=>x) A'=A'.toList:=by unfold rpZ;simp
 rw[mk2]at e;have hz:A'.toList.length=T.length:=by have:=hP.1;simpa using this
 have hperm:A'.toList.Perm T:=by
  have h3:=hP.2.2;have z1:T.toArray.extract 0 T.toArray.size=T.toArray:=by simp
  have z2:A'.extract 0 T.toArray.size=A':=by rw[<-hP.1];simp
  rw[z1,z2]at h3;exact h3
 obtain⟨r,er,hsub,hmem,hadj⟩:=compactN A'.toList (by omega)
 have hsrt:A'.toList.Pairwise fun x y=>Op.bytesLess y x=false:=by
  rw[List.pairwise_iff_getElem];intro i j hi hj hij;have hj2:j<A'.size:=by simpa using hj
  have:=hS i j (Nat.zero_le _) hij (by rw[<-hP.1];exact hj2)
  rw[getElem!_pos A' j hj2,getElem!_pos A' i (by omega)]at this;simpa using this
 refine⟨A'.toList,r,e,hz,er,nodup_of (hsrt.sublist hsub) hadj,fun x=>⟨fun h=>hperm.mem_iff.1 (hsub.subset h),fun h=>hmem x (hperm.mem_iff.2 h)⟩,by rw[<-hz];exact hsub.length_le⟩
end
end Go.Proofs.YtafdcemcgfbhcaaGreat
