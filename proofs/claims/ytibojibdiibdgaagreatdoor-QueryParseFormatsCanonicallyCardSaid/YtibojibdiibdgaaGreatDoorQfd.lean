/- queryParseFormatsCanonically_holds, part 4: the layer, the plain functions and what they compute; conditions as in the statement. -/
import Derived.Test.YtibojibdiibdgaaGreatDoorQfc
set_option maxHeartbeats 4000000
namespace Go.Proofs.YtibojibdiibdgaaGreatDoor
noncomputable section
open Go Go.Ab
attribute [local irreducible] V Ao Do Gh Eff PH IntKind.wrap
set_option maxRecDepth 4000
def dD(rA:LQueryparserParser)(qA:LQuery):Option (Except Int (LQueryparserParser×LQuery)):=
 bg (eS rA) fun x3=>
 bg (dF x3.2) fun x5=>
 some (.ok (x5,x3.1))
theorem kT(b_rA:Nat)(b_qA:Nat)(b_c0:Nat)(rA:LQueryparserParser)(qA:LQuery)(r:Except Int (LQueryparserParser×LQuery))(H:dD rA qA=some r):
  ba Tryz.prog 21 [(.box 1700 b_c0 0),(.box 1501 b_qA 0)] ⟨upd (upd (upd (fun _=>none) 1700 (some ⟨b_c0,[(.box 1500 b_rA 0)]⟩)) 1501 (some ⟨b_qA,(aE qA)⟩)) 1500 (some ⟨b_rA,(aa rA)⟩),fun _=>none⟩ (RX r (fun rv u H=>u=(.tup [])∧H=⟨upd (upd (upd (fun _=>none) 1700 (some ⟨b_c0,[(.box 1500 b_rA 0)]⟩)) 1501 (some ⟨b_qA,(aE rv.2)⟩)) 1500 (some ⟨b_rA,(aa rv.1)⟩),fun _=>none⟩)) (PX 106 r):=by
 unfold dD at H;refine ba.intro Tryz.func21 rfl Tryz.ntmps21 rfl ?_;refine ah (ae (av tk ?_))
 obtain⟨y3,h3,X3,H⟩:=bq H
 have s3:=jp b_rA rA _ h3;refine aP Tryz.call22 [(1500,1500)] [] s3 (X3 _) ?_;rintro u3 H3h hR3
 obtain⟨x3,⟨rfl,rfl⟩,H⟩:=H _ _ _ hR3
 refine⟨_,rfl,?_⟩
 refine aH (st':=⟨_,_,upd (upd (upd (fun _=>none) 1700 (some ⟨b_c0,[(.box 1500 b_rA 0)]⟩)) 1501 (some ⟨b_qA,(aE qA)⟩)) 1500 (some ⟨b_rA,(aa x3.2)⟩),fun _=>none⟩) (Gh.le (az _ _) (ab rfl (dQ.r) (ab rfl (dQ.r) (ab rfl (dQ.r) ar))) aq) ?_;refine ao tk ?_;refine af (ae (av tk ?_))
 obtain⟨y5,h5,X5,H⟩:=bq H
 have s5:=kr b_rA x3.2 _ h5;refine aP Tryz.call23 [(1500,1500)] [] s5 (X5 _) ?_;rintro u5 H5h hR5
 obtain⟨x5,⟨rfl,rfl⟩,H⟩:=H _ _ _ hR5
 refine⟨_,rfl,?_⟩
 refine aH (st':=⟨_,_,upd (upd (upd (fun _=>none) 1700 (some ⟨b_c0,[(.box 1500 b_rA 0)]⟩)) 1501 (some ⟨b_qA,(aE x3.1)⟩)) 1500 (some ⟨b_rA,(aa x5)⟩),fun _=>none⟩) (Gh.le (az _ _) (ab rfl (dQ.r) (ab rfl (dQ.r) (ab rfl (dQ.r) ar))) aq) ?_;refine af ?_;obtain rfl:=aF H;refine bD (st':=⟨6,fun _=>.any,upd (upd (upd (fun _=>none) 1700 (some ⟨b_c0,[(.box 1500 b_rA 0)]⟩)) 1501 (some ⟨b_qA,(aE x3.1)⟩)) 1500 (some ⟨b_rA,(aa x5)⟩),fun _=>none⟩) (Gh.le aV (ab rfl (dQ.r) (ab rfl (dQ.r) (ab rfl (dQ.r) ar))) aq) ?_;refine eU rfl (PLe.q rfl) ⟨rfl,rfl⟩
end
end Go.Proofs.YtibojibdiibdgaaGreatDoor

namespace Go.Proofs.YtibojibdiibdgaaGreatDoor
noncomputable section
open Go Go.Ab
noncomputable abbrev inn(c:UInt8):Bool:=et c
noncomputable abbrev dig(c:UInt8):Bool:=cU c
def low(c:UInt8):Bool:=cond (decide ((c.toNat:Int)≥(97:Int))) (decide ((c.toNat:Int)≤(122:Int))) false
theorem wrapS{n:Nat}(h:n<1000000000):IntKind.i64.wrap ((n:Int)+1)=((n+1:Nat):Int):=by
 rw[gk (by omega) (by omega)];omega
theorem scan(p:UInt8→Bool)(s:List UInt8)(hs:s.length≤100000):∀(m k:Nat),k+m=s.length→
  dJ (σ:=Int) (ρ:=Empty) (fun(s1:Int)=>cond (decide (s1<(s.length:Int))) (ag (bl s s1) fun(x:UInt8)=>dv (p x) fun y=>cond y (some (.next (IntKind.i64.wrap (s1+(1:Int))))) (some (.brk s1))) (some (.brk s1))) (k:Int)
   =some (.next ((k+((s.drop k).takeWhile p).length:Nat):Int))
 |0,k,h=>by
  refine bM (fl:= .brk (k:Int)) ?_ ?_
  ·simp only[show ¬((k:Int)<(s.length:Int))from by omega,decide_false,zd]
  ·simp only;rw[List.drop_eq_nil_of_le (by omega)];simp
 |m+1,k,h=>by
  have hk:k<s.length:=by omega
  have hg:bl s (k:Int)=some s[k]:=eg (ze hk);have hd:s.drop k=s[k]::s.drop (k+1):=List.drop_eq_getElem_cons hk;cases hp:p s[k]with
  |true=>
   refine bM (fl:= .next ((k+1:Nat):Int)) ?_ ?_
   ·simp only[show((k:Int)<(s.length:Int))from by omega,decide_true,zc,hg,ag,dv,hp,wrapS (show k<1000000000 by omega)]
   ·simp only;rw[scan p s hs m (k+1) (by omega),hd,List.takeWhile_cons,zp hp,List.length_cons];congr 2;omega
  |false=>
   refine bM (fl:= .brk (k:Int)) ?_ ?_
   ·simp only[show((k:Int)<(s.length:Int))from by omega,decide_true,zc,hg,ag,dv,hp,zd]
   ·simp only;rw[hd,List.takeWhile_cons,zy (by simp[hp])];simp
def cE:List UInt8→Option (List UInt8×Nat)
 |[]=>none
 |[c]=>if c=39 then some ([],1)else none
 |c::d::r=>if c=39 then(if d=39 then(cE r).map fun x=>(39::x.1,x.2+2)else some ([],1))else(cE (d::r)).map fun x=>(c::x.1,x.2+1)
theorem u8_ne{c:UInt8}:((c.toNat:Int) !=(39:Int))= !decide (c=39):=by
 by_cases h:c=39
 ·subst h;rfl
 ·have:c.toNat≠39:=fun e=>h (UInt8.toNat_inj.1 e)
  simp[h];omega
theorem u8_eq(c d:UInt8):((c.toNat:Int)==(d.toNat:Int))=decide (c=d):=by
 by_cases h:c=d
 ·subst h;simp
 ·have:c.toNat≠d.toNat:=fun e=>h (UInt8.toNat_inj.1 e)
  simp[h];omega
noncomputable abbrev ec(s:List UInt8):List UInt8×Int→Option (Flow (List UInt8×Int) (LLexerToken×Int×Bool)):=fun(s1:List UInt8×Int)=>
  cond (decide (s1.2<(s.length:Int)))
   (ag (bl s s1.2) fun(x23:UInt8)=>
   cond ((x23.toNat:Int) !=(39:Int))
    (ag (fj s s1.2 (IntKind.i64.wrap (s1.2+(1:Int)))) fun(x30:List UInt8)=>
    ag (bj s1.1 x30) fun(x31:List UInt8)=>
    some (.next (x31,(IntKind.i64.wrap (s1.2+(1:Int))))))
    (ag (
     cond (decide ((IntKind.i64.wrap (s1.2+(1:Int)))<(s.length:Int)))
      (ag (bl s (IntKind.i64.wrap (s1.2+(1:Int)))) fun(x42:UInt8)=>
      some ((x42.toNat:Int)==(39:Int)))
      (some false)) fun(t4:Bool)=>
    cond t4
     (ag (bj s1.1 ([39]:List UInt8)) fun(x46:List UInt8)=>
     some (.next (x46,(IntKind.i64.wrap ((IntKind.i64.wrap (s1.2+(1:Int)))+(1:Int))))))
     (some (.ret ((LLexerToken.mk 4 s1.1 0 0),(IntKind.i64.wrap (s1.2+(1:Int))),(decide ((s1.1.length:Int)≤(24:Int))))))))
   (some (.brk (s1.1,s1.2)))
theorem sub1{s:List UInt8}{k:Nat}(hk:k<s.length):fj s (k:Int) ((k+1:Nat):Int)=some [s[k]]:=by
 rw[lj ⟨by omega,by omega,by omega⟩];simp only[Int.toNat_natCast];rw[List.take_succ_eq_append_getElem hk,List.drop_append_of_le_length (by simp;omega)];simp
theorem qloop(s:List UInt8)(hs:s.length≤100000):∀(m k:Nat) (out:List UInt8),k+m=s.length→out.length≤k→
  (∀t n,cE (s.drop k)=some (t,n)→dJ (ec s) (out,(k:Int))=some (.ret (LLexerToken.mk 4 (out++t) 0 0,((k+n:Nat):Int),decide (((out++t).length:Int)≤24))))∧
  (cE (s.drop k)=none→∃st,dJ (ec s) (out,(k:Int))=some (.next st)):=by
 intro m;induction m using Nat.strongRecOn with
 |_ m ih=>
  intro k out h ho;rcases Nat.lt_or_ge k s.length with hk|hk
  ·have hg:bl s (k:Int)=some s[k]:=eg (ze hk);have hd:s.drop k=s[k]::s.drop (k+1):=List.drop_eq_getElem_cons hk;have hlt:decide ((k:Int)<(s.length:Int))=true:=zt (by omega);have hmx:out.length+2≤dB:=Nat.le_trans (show out.length+2≤200000 by omega) (by decide);by_cases hc:s[k]=39
   ·rcases Nat.lt_or_ge (k+1) s.length with hk1|hk1
    ·have hg1:bl s ((k+1:Nat):Int)=some s[k+1]:=eg (ze hk1);have hd1:s.drop (k+1)=s[k+1]::s.drop (k+2):=List.drop_eq_getElem_cons hk1;have hlt1:decide ((((k+1:Nat):Int))<(s.length:Int))=true:=zt (by omega);by_cases hc1:s[k+1]=39
     ·have hst:ec s (out,(k:Int))=some (.next (out++[39],((k+2:Nat):Int))):=by
       simp only[ec,hlt,zc,hg,ag,u8_ne,hc,decide_true,Bool.not_true,zd,wrapS (show k<1000000000 by omega),hlt1,hg1,hc1];rw[ia (by simpa using by omega),wrapS (show k+1<1000000000 by omega)];rfl
      obtain⟨i1,i2⟩:=ih (m-2) (by omega) (k+2) (out++[39]) (by omega) (by simp;omega)
      have hq:cE (s.drop k)=(cE (s.drop (k+2))).map fun x=>(39::x.1,x.2+2):=by
       rw[hd,hd1,cE,zp hc,zp hc1]
      refine⟨fun t n hr=>?_,fun hr=>?_⟩
      ·rw[hq]at hr;cases hx:cE (s.drop (k+2))with
       |none=>rw[hx]at hr;cases hr
       |some x=>
        rw[hx]at hr;simp only[Option.map_some,zo,Prod.mk.injEq]at hr
        obtain⟨rfl,rfl⟩:=hr
        refine bM hst ?_;simp only;rw[i1 x.1 x.2 hx];simp only[List.append_assoc,List.cons_append,List.nil_append];congr 4;omega
      ·rw[hq]at hr;have hx:cE (s.drop (k+2))=none:=by simpa using hr
       obtain⟨st,hst'⟩:=i2 hx
       exact⟨st,bM hst hst'⟩
     ·have hst:ec s (out,(k:Int))=some (.ret (LLexerToken.mk 4 out 0 0,((k+1:Nat):Int),decide ((out.length:Int)≤24))):=by
       simp only[ec,hlt,zc,hg,ag,u8_ne,hc,decide_true,Bool.not_true,zd,wrapS (show k<1000000000 by omega),hlt1,hg1];rw[show((s[k+1].toNat:Int)==(39:Int))=false from by rw[show(39:Int)=((39:UInt8).toNat:Int)from rfl,u8_eq,zf hc1]];rfl
      have hq:cE (s.drop k)=some ([],1):=by
       rw[hd,hd1,cE,zp hc,zy hc1]
      refine⟨fun t n hr=>?_,fun hr=>?_⟩
      ·rw[hq]at hr;simp only[zo,Prod.mk.injEq]at hr
       obtain⟨rfl,rfl⟩:=hr
       refine bM hst ?_;simp
      ·rw[hq]at hr;cases hr
    ·have hst:ec s (out,(k:Int))=some (.ret (LLexerToken.mk 4 out 0 0,((k+1:Nat):Int),decide ((out.length:Int)≤24))):=by
      have hlt1:decide ((((k+1:Nat):Int))<(s.length:Int))=false:=zf (by omega);simp only[ec,hlt,zc,hg,ag,u8_ne,hc,decide_true,Bool.not_true,zd,wrapS (show k<1000000000 by omega),hlt1]
     have hq:cE (s.drop k)=some ([],1):=by
      rw[hd,List.drop_eq_nil_of_le hk1,cE,zp hc]
     refine⟨fun t n hr=>?_,fun hr=>?_⟩
     ·rw[hq]at hr;simp only[zo,Prod.mk.injEq]at hr
      obtain⟨rfl,rfl⟩:=hr
      refine bM hst ?_;simp
     ·rw[hq]at hr;cases hr
   ·have hst:ec s (out,(k:Int))=some (.next (out++[s[k]],((k+1:Nat):Int))):=by
     simp only[ec,hlt,zc,hg,ag,u8_ne,hc,decide_false,Bool.not_false,wrapS (show k<1000000000 by omega),sub1 hk];rw[ia (by simpa using by omega)]
    obtain⟨i1,i2⟩:=ih (m-1) (by omega) (k+1) (out++[s[k]]) (by omega) (by simp;omega)
    have hq:cE (s.drop k)=(cE (s.drop (k+1))).map fun x=>(s[k]::x.1,x.2+1):=by
     rw[hd];cases hr:s.drop (k+1)with
     |nil=>simp[cE,hc]
     |cons d r=>rw[cE,zy hc]
    refine⟨fun t n hr=>?_,fun hr=>?_⟩
    ·rw[hq]at hr;cases hx:cE (s.drop (k+1))with
     |none=>rw[hx]at hr;cases hr
     |some x=>
      rw[hx]at hr;simp only[Option.map_some,zo,Prod.mk.injEq]at hr
      obtain⟨rfl,rfl⟩:=hr
      refine bM hst ?_;simp only;rw[i1 x.1 x.2 hx];simp only[List.append_assoc,List.cons_append,List.nil_append];congr 4;omega
    ·rw[hq]at hr;have hx:cE (s.drop (k+1))=none:=by simpa using hr
     obtain⟨st,hst'⟩:=i2 hx
     exact⟨st,bM hst hst'⟩
  ·rw[List.drop_eq_nil_of_le hk]
   refine⟨fun t n hr=>(by cases hr),fun _=>⟨(out,(k:Int)),bM (fl:= .brk (out,(k:Int))) ?_ rfl⟩⟩
   simp only[ec,show ¬((k:Int)<(s.length:Int))from by omega,decide_false,zd]
def numV(d:List UInt8):Int×Bool:=match Lib.atoiAll d with
 | .ok v=>(v,decide (v≤1000000000000)&&(Lib.itoa v==d))
 | .range=>(Lib.atoiSat d,false)
 |_=>(0,false)
def gP:List UInt8→Bool
 |[]=>true
 |x::_=>!inn x
def bad:LLexerToken×Nat×Bool:=(LLexerToken.mk 0 [] 0 0,0,false)
def gv:List UInt8→LLexerToken×Nat×Bool
 |_::d::k::r=>if dig d&&gP r&&decide (k=105∨k=98∨k=116)then(LLexerToken.mk 6 [k] ((d.toNat:Int)-48) 0,3,true)else bad
 |_=>bad
def lk:List (List UInt8):=[[124,124],[60,61],[40],[41],[44],[124],[43],[45],[42],[61],[60],[36]]
def bH:List UInt8→LLexerToken×Nat×Bool
 |[]=>bad
 |c::r=>
  if low c then
   (LLexerToken.mk (if fX.any ((c::r.takeWhile inn)==·)then 2 else 1) (c::r.takeWhile inn) 0 0,1+(r.takeWhile inn).length,fX.any ((c::r.takeWhile inn)==·)||decide (1+(r.takeWhile inn).length≤12))
  else if dig c then
   (LLexerToken.mk 3 [] (numV ((c::r).takeWhile dig)).1 0,((c::r).takeWhile dig).length,(numV ((c::r).takeWhile dig)).2&&gP ((c::r).drop ((c::r).takeWhile dig).length))
  else if c=63 then gv (c::r)
  else if c=39 then(match cE r with
   |some (t,n)=>(LLexerToken.mk 4 t 0 0,1+n,decide (t.length≤24))
   |none=>bad)
  else match lk.find? (·.isPrefixOf (c::r))with
   |some x=>(LLexerToken.mk 5 x 0 0,x.length,true)
   |none=>bad
theorem iP{α:Type}(p:α→Bool):∀l:List α,l.take (l.takeWhile p).length=l.takeWhile p
 |[]=>rfl
 |a::l=>by
  rw[List.takeWhile_cons];cases p a with
  |true=>simp[iP p l]
  |false=>simp
theorem gW{α:Type}(p:α→Bool)(l:List α):(l.takeWhile p).length≤l.length:=(List.takeWhile_sublist p).length_le
theorem atoi_ok{d:List UInt8}(h:d.length≤100000):atoiL d=some (match Lib.atoiAll d with| .ok v=>(v,false)| .range=>(Lib.atoiSat d,true)|_=>(0,true)):=by
 unfold atoiL;exact jG (by omega)
theorem number_eq(s:List UInt8)(hs:s.length≤100000):
  fR s 0=some (LLexerToken.mk 3 [] (numV (s.takeWhile dig)).1 0,((s.takeWhile dig).length:Int),(numV (s.takeWhile dig)).2&&gP (s.drop (s.takeWhile dig).length)):=by
 have hsc:=scan dig s hs s.length 0 (by omega);rw[Nat.zero_add,List.drop_zero,Int.natCast_zero]at hsc;have hn:=gW dig s
 have hsub:fj s 0 ((s.takeWhile dig).length:Int)=some (s.takeWhile dig):=by
  rw[lj ⟨by omega,by omega,by omega⟩];simp[iP]
 unfold fR;rw[hsc];simp only[ag,Flow.thenP,hsub];rw[atoi_ok (by omega)];simp only[numV];cases ha:Lib.atoiAll (s.takeWhile dig)with
 |ok v=>
  have hb:=Lib.atoiAll_bounds ha;simp only[Bool.not_false,zc];by_cases hv:v≤1000000000000
  ·simp only[hv,decide_true,zc,Bool.true_and];rw[show iV v=some (Lib.itoa v)from jG (by omega)];simp only;cases he:(Lib.itoa v==s.takeWhile dig)with
   |false=>rfl
   |true=>
    simp only[zc,Bool.true_and];rcases Nat.lt_or_ge (s.takeWhile dig).length s.length with hl|hl
    ·have hg:bl s ((s.takeWhile dig).length:Int)=some s[(s.takeWhile dig).length]:=eg (ze hl);have hd:s.drop (s.takeWhile dig).length=s[(s.takeWhile dig).length]::s.drop ((s.takeWhile dig).length+1):=List.drop_eq_getElem_cons hl;rw[show(((s.takeWhile dig).length:Int)==(s.length:Int))=false from by simp;omega,hg,hd];rfl
    ·rw[show(((s.takeWhile dig).length:Int)==(s.length:Int))=true from by simp;omega,List.drop_eq_nil_of_le hl];rfl
  ·simp only[hv,decide_false,zd,Bool.false_and]
 |_=>rfl
theorem idx_ibt(k:UInt8):(decide (Lib.indexByte [105,98,116] k<0))= !decide (k=105∨k=98∨k=116):=by
 simp only[Lib.indexByte];by_cases h1:k=105
 ·subst h1;rfl
 ·by_cases h2:k=98
  ·subst h2;rfl
  ·by_cases h3:k=116
   ·subst h3;rfl
   ·have e1:((105:UInt8)==k)=false:=by simpa using fun e=>h1 e.symm
    have e2:((98:UInt8)==k)=false:=by simpa using fun e=>h2 e.symm
    have e3:((116:UInt8)==k)=false:=by simpa using fun e=>h3 e.symm
    simp[e1,e2,e3,h1,h2,h3]
theorem hO{c:UInt8}(h:dig c=true):48≤c.toNat∧c.toNat≤57:=by
 unfold dig cU at h;cases h1:decide ((c.toNat:Int)≥48)with
 |false=>rw[h1]at h;cases h
 |true=>
  rw[h1]at h;simp only[zc,decide_eq_true_eq]at h h1;omega
theorem digit_wrap{c:UInt8}(h:dig c=true):IntKind.i64.wrap (IntKind.u8.wrap ((c.toNat:Int)-48))=(c.toNat:Int)-48:=by
 obtain⟨h1,h2⟩:=hO h
 have e:IntKind.u8.wrap ((c.toNat:Int)-48)=(c.toNat:Int)-48:=by
  simp only[IntKind.wrap,IntKind.bits,IntKind.signed];simp;omega
 rw[e,gk (by omega) (by omega)]
theorem argument_eq(s:List UInt8)(hs:s.length≤100000):fg s=some ((gv s).1,((gv s).2.1:Int),(gv s).2.2):=by
 unfold fg
 match s,hs with
 |[],_=>rfl
 |[_],_=>rfl
 |[_,_],_=>rfl
 |a::d::k::r,hs=>
  have g1:bl (a::d::k::r) (1:Int)=some d:=rfl;have g2:bl (a::d::k::r) (2:Int)=some k:=rfl;have h3:decide (((a::d::k::r).length:Int)<3)=false:=zf (by simp only[List.length_cons];omega)
  have hsub:fj (a::d::k::r) 2 3=some [k]:=by
   rw[lj ⟨by omega,by omega,by simp only[List.length_cons];omega⟩];rfl
  simp only[h3,zd,g1,g2,bPs,dv,hsub,ly];cases hd:dig d with
  |false=>simp[gv,hd,bad]
  |true=>
   have hd':cU d=true:=hd
   have key:(cond (decide (((a::d::k::r).length:Int)>3)) (ag (bl (a::d::k::r) (3:Int)) fun x21=>some (et x21)) (some false))=some (!gP r):=by
    cases r with
    |nil=>rfl
    |cons x r=>
     rw[show decide (((a::d::k::x::r).length:Int)>3)=true from zt (by simp only[List.length_cons];omega)];simp only[zc,gP,Bool.not_not];rfl
   simp only[hd',Bool.not_true,zd,key,idx_ibt,bPs];cases hi:gP r with
   |false=>simp[gv,hd,hi,bad]
   |true=>
    simp only[Bool.not_true,zd];by_cases hk:k=105∨k=98∨k=116
    ·simp only[hk,decide_true,Bool.not_true,zd,digit_wrap hd];simp[gv,hd,hi,hk]
    ·simp only[hk,decide_false,Bool.not_false,zc];simp[gv,hd,hi,hk,bad]
theorem quoted_eq(c:UInt8)(r:List UInt8)(hs:(c::r).length≤100000):
  fO (c::r)=some (match cE r with|some (t,n)=>(LLexerToken.mk 4 t 0 0,((1+n:Nat):Int),decide (t.length≤24))|none=>(LLexerToken.mk 0 [] 0 0,0,false)):=by
 unfold fO
 obtain⟨h1,h2⟩:=qloop (c::r) hs r.length 1 [] (by simp;omega) (by simp)
 cases hq:cE r with
 |none=>
  obtain⟨st,hst⟩:=h2 (by simpa using hq)
  simp only[Int.natCast_one]at hst;rw[hst];rfl
 |some x=>
  have:=h1 x.1 x.2 (by simpa using hq)
  simp only[Int.natCast_one]at this;rw[this];simp only[ag,Flow.thenR,List.nil_append];congr 4;exact propext (by omega)
theorem find_range{ρ:Type}(p:List UInt8→Bool)(out:List UInt8→ρ)(L:List (List UInt8))(s:List UInt8):∀(xs:List Nat) (j:Nat),(∀i,i<xs.length→j+i<L.length)→j+xs.length=L.length→
  aY (σ:=Unit) (ρ:=ρ) (fun(j4:Nat) (_:Nat) (_:Unit)=>ag (bl L (j4:Int)) fun(x:List UInt8)=>ag (ix s x) fun y=>cond y (some (.ret (out x))) (some (.next ()))) j xs ()=
   some (match(L.drop j).find? (·.isPrefixOf s)with|some x=>.ret (out x)|none=>.next ())
 |[],j,_,h=>by
  rw[List.drop_eq_nil_of_le (by simp at h;omega)];rfl
 |x::xs,j,hi,h=>by
  have hj:j<L.length:=by have:=hi 0 (by simp);omega
  have hg:bl L (j:Int)=some L[j]:=eg (ze hj);rw[List.drop_eq_getElem_cons hj,List.find?_cons,aY,hg];simp only[ag,ix];cases hp:List.isPrefixOf L[j] s with
  |true=>rfl
  |false=>
   simp only[zd];exact find_range p out L s xs (j+1) (fun i hi'=>by have:=hi (i+1) (by simp;omega);omega) (by simp at h;omega)
theorem one_eq(s:List UInt8)(hn:s≠[])(hs:s.length≤100000):gm s=some ((bH s).1,((bH s).2.1:Int),(bH s).2.2):=by
 match s,hn with
 |c::r,_=>
  have g0:bl (c::r) (0:Int)=some c:=rfl;unfold gm;rw[g0];simp only[ag,dv];cases hl:low c with
  |true=>
   have hl':(cond (decide ((c.toNat:Int)≥(97:Int))) (decide ((c.toNat:Int)≤(122:Int))) false)=true:=hl;have hsc:=scan inn (c::r) hs r.length 1 (by simp;omega);simp only[List.drop_succ_cons,List.drop_zero,Int.natCast_one,dv]at hsc;have hw:=gW inn r
   have hsub:fj (c::r) 0 ((1+(r.takeWhile inn).length:Nat):Int)=some (c::r.takeWhile inn):=by
    rw[lj ⟨by omega,by omega,by simp only[List.length_cons];omega⟩];simp[Nat.add_comm 1,iP]
   simp only[hl',zc,ag]at hsc⊢;rw[hsc];simp only[Flow.thenP,hsub,gJ];simp only[bH,hl,if_true];cases hk:fX.any ((c::r.takeWhile inn)==·)with
   |true=>rfl
   |false=>
    simp only[zd,Bool.false_or,Bool.false_eq_true,if_false];rw[show((1:Int)==2)=false from rfl];simp only[zd];congr 3;rw[decide_eq_decide];omega
  |false=>
   have hl':(cond (decide ((c.toNat:Int)≥(97:Int))) (decide ((c.toNat:Int)≤(122:Int))) false)=false:=hl;simp only[hl',zd];cases hd:dig c with
   |true=>
    have hd':cU c=true:=hd;simp only[hd',zc,number_eq (c::r) hs];simp only[bH,hl,hd,Bool.false_eq_true,if_false,if_true]
   |false=>
    have hd':cU c=false:=hd;simp only[hd',zd];by_cases h1:c=63
    ·rw[show((c.toNat:Int)==(63:Int))=true from by rw[show(63:Int)=((63:UInt8).toNat:Int)from rfl,u8_eq,zt h1]];simp only[zc,argument_eq (c::r) hs];simp only[bH,hl,hd,h1,Bool.false_eq_true,if_false,if_true];subst h1;simp[hl,hd]
    ·rw[show((c.toNat:Int)==(63:Int))=false from by rw[show(63:Int)=((63:UInt8).toNat:Int)from rfl,u8_eq,zf h1]];simp only[zd];by_cases h2:c=39
     ·rw[show((c.toNat:Int)==(39:Int))=true from by rw[show(39:Int)=((39:UInt8).toNat:Int)from rfl,u8_eq,zt h2]];simp only[zc,quoted_eq c r hs]
      have:bH (c::r)=(match cE r with|some (t,n)=>(LLexerToken.mk 4 t 0 0,1+n,decide (t.length≤24))|none=>bad):=by
       simp only[bH,hl,hd,h1,h2,Bool.false_eq_true,if_false,if_true];subst h2;simp[hl,hd]
      rw[this];cases cE r with
      |none=>rfl
      |some x=>rfl
     ·rw[show((c.toNat:Int)==(39:Int))=false from by rw[show(39:Int)=((39:UInt8).toNat:Int)from rfl,u8_eq,zf h2]];simp only[zd];rw[show iq ((([[124,124],[60,61],[40],[41],[44],[124],[43],[45],[42],[61],[60],[36]]:List (List UInt8)).length:Nat):Int)=some 12 from rfl];simp only
      have:=find_range (fun _=>true) (fun x=>(LLexerToken.mk 5 x 0 0,(x.length:Int),true)) lk (c::r) (List.range 12) 0 (by simp[lk]) (by simp[lk])
      simp only[ag,lk,List.drop_zero]at this;rw[this]
      have ho:bH (c::r)=(match lk.find? (·.isPrefixOf (c::r))with|some x=>(LLexerToken.mk 5 x 0 0,x.length,true)|none=>bad):=by
       simp only[bH,hl,hd,h1,h2,Bool.false_eq_true,if_false]
      rw[ho];simp only[lk];cases List.find? (fun x=>x.isPrefixOf (c::r)) [[124,124],[60,61],[40],[41],[44],[124],[43],[45],[42],[61],[60],[36]]with
      |none=>rfl
      |some x=>rfl
def ws(c:UInt8):Bool:=decide (c=32∨c=10)
def ci:Nat→Nat→List UInt8→List LLexerToken×Option Nat
 |0,_,_=>([],none)
 |_+1,_,[]=>([],none)
 |f+1,off,c::r=>
  if ws c then ci f (off+1) r
  else if(bH (c::r)).2.2 then
   (LLexerToken.mk (bH (c::r)).1.kind (bH (c::r)).1.text (bH (c::r)).1.number (off:Int)::(ci f (off+(bH (c::r)).2.1) ((c::r).drop (bH (c::r)).2.1)).1,
    (ci f (off+(bH (c::r)).2.1) ((c::r).drop (bH (c::r)).2.1)).2)
  else([],some off)
theorem lC(s:List UInt8)(h:(gv s).2.2=true):∃a d k r,s=a::d::k::r∧dig d=true∧gP r=true∧(k=105∨k=98∨k=116)∧gv s=(LLexerToken.mk 6 [k] ((d.toNat:Int)-48) 0,3,true):=by
 match s with
 |[]=>simp[gv,bad]at h
 |[_]=>simp[gv,bad]at h
 |[_,_]=>simp[gv,bad]at h
 |a::d::k::r=>
  simp only[gv]at h⊢;split at h
  ·rename_i hc;simp only[Bool.and_eq_true,decide_eq_true_eq]at hc
   exact⟨a,d,k,r,rfl,hc.1.1,hc.1.2,hc.2,by rw[zp (by simp[hc.1.1,hc.1.2,hc.2])]⟩
  ·simp[bad]at h
theorem lX:∀(r:List UInt8) {t:List UInt8} {n:Nat},cE r=some (t,n)→1≤n∧n≤r.length
 |[],t,n,h=>by simp[cE]at h
 |[c],t,n,h=>by
  simp only[cE]at h;split at h
  ·simp only[zo,Prod.mk.injEq]at h;simp[←h.2]
  ·cases h
 |c::d::r,t,n,h=>by
  simp only[cE]at h;split at h
  ·split at h
   ·cases hq:cE r with
    |none=>rw[hq]at h;cases h
    |some x=>
     rw[hq]at h;simp only[Option.map_some,zo,Prod.mk.injEq]at h
     have:=lX r (t:=x.1) (n:=x.2) hq
     simp only[List.length_cons];omega
   ·simp only[zo,Prod.mk.injEq]at h;simp[←h.2]
  ·cases hq:cE (d::r)with
   |none=>rw[hq]at h;cases h
   |some x=>
    rw[hq]at h;simp only[Option.map_some,zo,Prod.mk.injEq]at h
    have:=lX (d::r) (t:=x.1) (n:=x.2) hq
    simp only[List.length_cons]at this⊢;omega
theorem punct_pos{x:List UInt8}{s:List UInt8}(h:lk.find? (·.isPrefixOf s)=some x):1≤x.length∧x.length≤s.length:=by
 have h1:=List.find?_some h;have h2:=List.mem_of_find?_eq_some h
 have h3:1≤x.length:=by
  simp only[lk,List.mem_cons,List.mem_nil_iff,or_false]at h2;rcases h2 with rfl|rfl|rfl|rfl|rfl|rfl|rfl|rfl|rfl|rfl|rfl|rfl<;>decide
 exact⟨h3,(List.isPrefixOf_iff_prefix.1 h1).length_le⟩
theorem mu(c:UInt8)(r:List UInt8)(h:(bH (c::r)).2.2=true):1≤(bH (c::r)).2.1∧(bH (c::r)).2.1≤(c::r).length:=by
 have hw:=gW inn r;have hw2:=gW dig (c::r);simp only[bH]at h⊢;split
 ·simp only[List.length_cons];omega
 ·rename_i hl;simp only[hl,if_false]at h;split
  ·rename_i hd
   refine⟨?_,hw2⟩
   rw[List.takeWhile_cons,zp hd];simp
  ·rename_i hd;simp only[hd,if_false]at h;split
   ·rename_i h1;simp only[h1,if_true]at h;subst h1
    obtain⟨a,d,k,r',e,_,_,_,e2⟩:=lC _ h
    rw[e2,e];simp only[List.length_cons];omega
   ·rename_i h1;simp only[h1,if_false]at h;split
    ·rename_i h2;simp only[h2,if_true]at h;cases hq:cE r with
     |none=>rw[hq]at h;cases h
     |some x=>
      have:=lX r (t:=x.1) (n:=x.2) hq
      simp only[List.length_cons];omega
    ·rename_i h2;simp only[h2,if_false]at h;cases hq:lk.find? (·.isPrefixOf (c::r))with
     |none=>rw[hq]at h;cases h
     |some x=>exact punct_pos hq
theorem ws_eq(c:UInt8):(cond ((c.toNat:Int)==(32:Int)) (some true) (some ((c.toNat:Int)==(10:Int))))=some (ws c):=by
 rw[show((c.toNat:Int)==(32:Int))=decide (c=32)from by rw[show(32:Int)=((32:UInt8).toNat:Int)from rfl,u8_eq],
  show((c.toNat:Int)==(10:Int))=decide (c=10)from by rw[show(10:Int)=((10:UInt8).toNat:Int)from rfl,u8_eq]]
 unfold ws;by_cases h1:c=32<;>by_cases h2:c=10<;>simp[h1,h2]
noncomputable abbrev tstep(s:List UInt8):List LLexerToken×Int→Option (Flow (List LLexerToken×Int) ((List LLexerToken)×Int×Int)):=fun(s1:List LLexerToken×Int)=>
   cond (decide (s1.2<(s.length:Int)))
    (ag (
     ag (bl s s1.2) fun(x19:UInt8)=>
     cond ((x19.toNat:Int)==(32:Int))
      (some true)
      (ag (bl s s1.2) fun(x24:UInt8)=>
      some ((x24.toNat:Int)==(10:Int)))) fun(t4:Bool)=>
    cond t4
     (some (.next (s1.1,(IntKind.i64.wrap (s1.2+(1:Int))))))
     (ag (fj s s1.2 (s.length:Int)) fun(x32:List UInt8)=>
     ag (gm x32) fun x33=>
     cond (!x33.2.2)
      (some (.ret ([],s1.2,22)))
      (ag (dY 40 s1.1 ([(LLexerToken.mk x33.1.kind x33.1.text x33.1.number s1.2)]:List LLexerToken)) fun(x45:List LLexerToken)=>
      some (.next (x45,(IntKind.i64.wrap (s1.2+x33.2.1)))))))
    (some (.brk (s1.1,s1.2)))
theorem tloop(s:List UInt8)(hs:s.length≤4000):∀(m k f:Nat) (out:List LLexerToken),k+m=s.length→m<f→out.length≤k→
  dJ (tstep s) (out,(k:Int))=some (match ci f k (s.drop k)with|(l,none)=>.next (out++l,(s.length:Int))|(_,some at_)=>.ret ([],(at_:Int),22)):=by
 intro m;induction m using Nat.strongRecOn with
 |_ m ih=>
  intro k f out h hf ho
  obtain⟨f,rfl⟩:∃g,f=g+1:=⟨f-1,by omega⟩
  rcases Nat.lt_or_ge k s.length with hk|hk
  ·have hg:bl s (k:Int)=some s[k]:=eg (ze hk);have hd:s.drop k=s[k]::s.drop (k+1):=List.drop_eq_getElem_cons hk;have hlt:decide ((k:Int)<(s.length:Int))=true:=zt (by omega)
   have hsub:fj s (k:Int) (s.length:Int)=some (s[k]::s.drop (k+1)):=by
    rw[lj ⟨by omega,by omega,by omega⟩];simp only[Int.toNat_natCast,List.take_length,hd]
   cases hw:ws s[k]with
   |true=>
    have hst:tstep s (out,(k:Int))=some (.next (out,((k+1:Nat):Int))):=by
     simp only[tstep,hlt,zc,hg,bPs,ws_eq,hw,wrapS (show k<1000000000 by omega)]
    refine bM hst ?_;simp only;rw[ih (m-1) (by omega) (k+1) f out (by omega) (by omega) (by omega),hd,ci,zp hw]
   |false=>
    have h1:=one_eq (s[k]::s.drop (k+1)) (List.cons_ne_nil _ _) (by rw[←hd,List.length_drop];omega);rw[hd,ci,zy (by simp[hw])];cases ho2:(bH (s[k]::s.drop (k+1))).2.2 with
    |false=>
     have hst:tstep s (out,(k:Int))=some (.ret ([],(k:Int),22)):=by
      simp only[tstep,hlt,zc,hg,bPs,ws_eq,hw,zd,hsub,h1,ho2,Bool.not_false]
     refine bM hst ?_;simp
    |true=>
     obtain⟨n1,n2⟩:=mu _ _ ho2
     have hlen:(s[k]::s.drop (k+1)).length=m:=by rw[←hd,List.length_drop];omega
     rw[hlen]at n2
     have hst:tstep s (out,(k:Int))=some (.next (out++[LLexerToken.mk (bH (s[k]::s.drop (k+1))).1.kind (bH (s[k]::s.drop (k+1))).1.text (bH (s[k]::s.drop (k+1))).1.number (k:Int)],((k+(bH (s[k]::s.drop (k+1))).2.1:Nat):Int))):=by
      simp only[tstep,hlt,zc,hg,bPs,ws_eq,hw,zd,hsub,h1,ho2,Bool.not_true];rw[appI_ok (by simp;omega) (by simp[maxLen];omega)];simp only[bPs];rw[gk (by omega) (by omega)];rfl
     refine bM hst ?_;simp only;rw[ih (m-(bH (s[k]::s.drop (k+1))).2.1) (by omega) (k+(bH (s[k]::s.drop (k+1))).2.1) f _ (by omega) (by omega) (by rw[List.length_append,List.length_singleton];omega)]
     have hdd:s.drop (k+(bH (s[k]::s.drop (k+1))).2.1)=(s[k]::s.drop (k+1)).drop (bH (s[k]::s.drop (k+1))).2.1:=by
      rw[←hd,List.drop_drop]
     rw[hdd];simp only[if_true];generalize ci f (k+(bH (s[k]::s.drop (k+1))).2.1) ((s[k]::s.drop (k+1)).drop (bH (s[k]::s.drop (k+1))).2.1)=z
     obtain⟨l,e⟩:=z
     cases e with
     |none=>simp
     |some x=>simp
  ·have hk':k=s.length:=by omega
   refine bM (fl:= .brk (out,(k:Int))) ?_ ?_
   ·simp only[tstep,show ¬((k:Int)<(s.length:Int))from by omega,decide_false,zd]
   ·rw[List.drop_eq_nil_of_le hk];simp[ci,hk']
def lexT(s:List UInt8):List LLexerToken×Option Nat:=ci (s.length+1) 0 s
theorem kR(s:List UInt8)(hs:s.length≤4000):cA s=some (match lexT s with|(l,none)=>(l,0,0)|(_,some at_)=>([],(at_:Int),22)):=by
 unfold cA;rw[show decide ((s.length:Int)>4000)=false from zf (by omega)]
 have:=tloop s hs s.length 0 (s.length+1) [] (by omega) (by omega) (by simp)
 simp only[Int.natCast_zero,List.drop_zero]at this;simp only[zd];rw[this];unfold lexT;generalize ci (s.length+1) 0 s=z
 obtain⟨l,e⟩:=z
 cases e with
 |none=>rfl
 |some x=>rfl
theorem tokenize_long(s:List UInt8)(hs:4000<s.length):cA s=some ([],0,2):=by
 unfold cA;rw[show decide ((s.length:Int)>4000)=true from zt (by omega)];rfl
def Asc:Nat→Nat→List LLexerToken→Prop
 |_,_,[]=>True
 |lo,hi,t::l=>(∃o:Nat,t.offset=(o:Int)∧lo≤o∧o<hi∧Asc (o+1) hi l)
theorem toks_asc:∀(f off:Nat) (s:List UInt8),Asc off (off+s.length) (ci f off s).1
 |0,_,_=>by simp[ci,Asc]
 |f+1,off,[]=>by simp[ci,Asc]
 |f+1,off,c::r=>by
  rw[ci];split
  ·have:=toks_asc f (off+1) r
   rw[show off+(c::r).length=off+1+r.length from by simp;omega];exact Asc.lower this (by omega)
  ·split
   ·rename_i h
    obtain⟨h1,h2⟩:=mu c r h
    have:=toks_asc f (off+(bH (c::r)).2.1) ((c::r).drop (bH (c::r)).2.1)
    rw[List.length_drop,show off+(bH (c::r)).2.1+((c::r).length-(bH (c::r)).2.1)=off+(c::r).length from by omega]at this
    exact⟨off,rfl,Nat.le_refl _,by simp,Asc.lower this (by omega)⟩
   ·simp[Asc]
where
 Asc.lower:∀{lo lo' hi:Nat} {l:List LLexerToken},Asc lo hi l→lo'≤lo→Asc lo' hi l
  |_,_,_,[],_,_=>trivial
  |_,_,_,_::_,⟨o,h1,h2,h3,h4⟩,hle=>⟨o,h1,by omega,h3,h4⟩
theorem kq:∀(f off:Nat) (s:List UInt8),(ci f off s).1.length≤s.length
 |0,_,_=>by simp[ci]
 |f+1,off,[]=>by simp[ci]
 |f+1,off,c::r=>by
  rw[ci];split
  ·have:=kq f (off+1) r
   simp only[List.length_cons];omega
  ·split
   ·rename_i h
    obtain⟨h1,h2⟩:=mu c r h
    have:=kq f (off+(bH (c::r)).2.1) ((c::r).drop (bH (c::r)).2.1)
    rw[List.length_drop]at this;simp only[List.length_cons]at this h2⊢;omega
   ·simp
def esc:List UInt8→List UInt8
 |[]=>[]
 |c::r=>if c=39 then 39::39::esc r else c::esc r
theorem esc_len:∀s:List UInt8,(esc s).length≤2*s.length
 |[]=>by simp[esc]
 |c::r=>by
  have:=esc_len r
  simp only[esc];split<;>simp only[List.length_cons]<;>omega
theorem mz(c:UInt8)(r:List UInt8):Lib.index (c::r) [39]=if c=39 then 0 else if Lib.index r [39]==-1 then-1 else Lib.index r [39]+1:=by
 rw[Lib.index];by_cases h:c=39
 ·subst h;simp[List.isPrefixOf]
 ·have e:List.isPrefixOf [39] (c::r)=false:=by
   simp only[List.isPrefixOf,Bool.and_true];simpa using fun e=>h e.symm
  rw[e,zy (by simp),zy h]
theorem index_nil_q:Lib.index [] [39]=-1:=rfl
theorem count_q:∀(c:UInt8) (r:List UInt8),Lib.count (c::r) [39]=(if c=39 then 1 else 0)+Lib.count r [39]:=by
 intro c r;by_cases h:c=39
 ·have hi:Lib.index (c::r) [39]=((0:Nat):Int):=by rw[mz,zp h];rfl
  rw[Lib.count_hit (by simp) hi,zp h];rfl
 ·rw[zy h];have h0:=mz c r;rw[zy h]at h0;by_cases hm:Lib.index r [39]=-1
  ·rw[hm]at h0;rw[Lib.count_miss hm,Lib.count_miss (by rw[h0];rfl)]
  ·have hge:=Lib.index_ge r [39]
   obtain⟨i,hi⟩:∃i:Nat,Lib.index r [39]=(i:Int):=⟨(Lib.index r [39]).toNat,by omega⟩
   have hb:(Lib.index r [39]==-1)=false:=by simpa using hm
   rw[hb]at h0;simp only[Bool.false_eq_true,if_false]at h0;rw[hi]at h0;have h1:Lib.index (c::r) [39]=((i+1:Nat):Int):=by rw[h0];omega
   rw[Lib.count_hit (by simp) h1,Lib.count_hit (by simp) hi];simp
theorem replaceK_q(c:UInt8)(r:List UInt8)(h:c≠39):∀k,Lib.replaceK [39] [39,39] k (c::r)=c::Lib.replaceK [39] [39,39] k r
 |0=>rfl
 |k+1=>by
  have h0:=mz c r;rw[zy h]at h0;by_cases hm:Lib.index r [39]=-1
  ·rw[hm]at h0;rw[Lib.replaceK,Lib.replaceK,h0,hm];rfl
  ·have hge:=Lib.index_ge r [39]
   obtain⟨i,hi⟩:∃i:Nat,Lib.index r [39]=(i:Int):=⟨(Lib.index r [39]).toNat,by omega⟩
   have hb:(Lib.index r [39]==-1)=false:=by simpa using hm
   rw[hb]at h0;simp only[Bool.false_eq_true,if_false]at h0;rw[hi]at h0;have h1:Lib.index (c::r) [39]=((i+1:Nat):Int):=by rw[h0];omega
   rw[Lib.replaceK_hit _ _ _ _ _ h1,Lib.replaceK_hit _ _ _ _ _ hi];simp[Nat.add_right_comm]
theorem kp:∀s:List UInt8,Lib.replaceK [39] [39,39] (Lib.count s [39]) s=esc s
 |[]=>by rw[Lib.count_miss index_nil_q];rfl
 |c::r=>by
  by_cases h:c=39
  ·have hi:Lib.index (c::r) [39]=((0:Nat):Int):=by rw[mz,zp h];rfl
   rw[count_q,zp h,Nat.add_comm,Lib.replaceK_hit _ _ _ _ _ hi,esc,zp h];simp[kp r]
  ·rw[count_q,zy h,Nat.zero_add,replaceK_q c r h,esc,zy h,kp r]
theorem replaceAll_esc(s:List UInt8):Lib.replaceAll s [39] [39,39]=esc s:=by
 unfold Lib.replaceAll Lib.replace Lib.replaceNum;rw[show(([39]:List UInt8)==[39,39])=false from rfl];simp only[Bool.false_eq_true,if_false];rw[zp (.inl (by decide))];exact kp s
def noQ:List UInt8→Prop
 |[]=>True
 |c::_=>c≠39
theorem qspan_esc(r:List UInt8)(hr:noQ r):∀s:List UInt8,cE (esc s++39::r)=some (s,(esc s).length+1)
 |[]=>by
  cases r with
  |nil=>rfl
  |cons d r=>
   have hd:d≠39:=hr;simp only[esc,List.nil_append,cE,if_true,zy hd];rfl
 |c::s=>by
  have ih:=qspan_esc r hr s;by_cases h:c=39
  ·subst h;simp only[esc,if_true,List.cons_append,cE,ih,Option.map_some,List.length_cons]
  ·simp only[esc,zy h,List.cons_append,List.length_cons];cases ht:esc s++39::r with
   |nil=>simp at ht
   |cons d t=>
    rw[ht]at ih;simp only[cE,zy h,ih,Option.map_some]
theorem oneS_quote(s r:List UInt8)(hr:noQ r):bH (39::(esc s++39::r))=(LLexerToken.mk 4 s 0 0,(esc s).length+2,decide (s.length≤24)):=by
 have e1:low 39=false:=by rfl
 have e2:dig 39=false:=by rfl
 simp only[bH,e1,e2,Bool.false_eq_true,if_false,if_true,qspan_esc r hr s];rw[zy (by decide)];simp only[Prod.mk.injEq,true_and,and_true];omega
def cn(t:LLexerToken):List UInt8:=
 if t.kind=3 then Lib.itoa t.number else if t.kind=6 then 63::(Lib.itoa t.number++t.text)else if t.kind=4 then 39::(esc t.text++[39])else t.text
def gE(t:LLexerToken):LLexerToken:=LLexerToken.mk t.kind t.text t.number 0
def sp:List UInt8→Prop
 |[]=>True
 |c::_=>c=32
theorem sp_noInn{r:List UInt8}(h:sp r):gP r=true:=by
 cases r with
 |nil=>rfl
 |cons c r=>obtain rfl:c=32:=h;rfl
structure Good(t:LLexerToken):Prop where
 kind:t.kind=1∨t.kind=2∨t.kind=3∨t.kind=4∨t.kind=5∨t.kind=6
 num:-9223372036854775808≤t.number∧t.number≤9223372036854775807
 text:t.text.length≤4000
 len:(cn t).length≤4000
 head:∃c x,cn t=c::x∧ws c=false
 one:∀r,sp r→bH (cn t++r)=(gE t,(cn t).length,true)
theorem low_ws{c:UInt8}(h:low c=true):ws c=false:=by
 unfold ws;by_cases h1:c=32
 ·subst h1;cases h
 ·by_cases h2:c=10
  ·subst h2;cases h
  ·simp[h1,h2]
theorem dig_ws{c:UInt8}(h:dig c=true):ws c=false:=by
 unfold ws;by_cases h1:c=32
 ·subst h1;cases h
 ·by_cases h2:c=10
  ·subst h2;cases h
  ·simp[h1,h2]
theorem itoa_digit{d:UInt8}(h:dig d=true):Lib.itoa ((d.toNat:Int)-48)=[d]:=by
 obtain⟨h1,h2⟩:=hO h
 have e:(d.toNat:Int)-48=((d.toNat-48:Nat):Int):=by omega
 rw[e,Lib.itoa_nonneg,Lib.decDigits,dif_pos (by omega)];congr 1;apply UInt8.toNat_inj.1;rw[UInt8.toNat_ofNat'];omega
theorem toks_text(t:LLexerToken)(h:Good t)(r:List UInt8)(hr:sp r)(f off:Nat):ci (f+1) off (cn t++r)=(LLexerToken.mk t.kind t.text t.number (off:Int)::(ci f (off+(cn t).length) r).1,(ci f (off+(cn t).length) r).2):=by
 obtain⟨c,x,hx,hw⟩:=h.head
 have h1:=h.one r hr;have hd:(cn t++r).drop (cn t).length=r:=List.drop_left' rfl;rw[hx,List.cons_append]at h1 hd⊢;rw[ci,zy (by simp[hw]),h1];simp only[if_true,gE,hd]
theorem lw:∀(f f' off off':Nat) (s:List UInt8),s.length<f→s.length<f'→(ci f off s).1.map gE=(ci f' off' s).1.map gE∧((ci f off s).2.isNone=(ci f' off' s).2.isNone)
 |0,_,_,_,_,h,_=>by omega
 |_,0,_,_,_,_,h=>by omega
 |f+1,f'+1,off,off',[],_,_=>by simp[ci]
 |f+1,f'+1,off,off',c::r,h,h'=>by
  simp only[List.length_cons]at h h';rw[ci,ci];split
  ·exact lw f f' _ _ r (by omega) (by omega)
  ·split
   ·rename_i h1;have hl:=mu c r h1
    have hd:((c::r).drop (bH (c::r)).2.1).length<f∧((c::r).drop (bH (c::r)).2.1).length<f':=by
     rw[List.length_drop,List.length_cons];omega
    have ih:=lw f f' (off+(bH (c::r)).2.1) (off'+(bH (c::r)).2.1) ((c::r).drop (bH (c::r)).2.1) hd.1 hd.2
    exact⟨by simp only[List.map_cons,ih.1];rfl,ih.2⟩
   ·simp
def tz(s:List UInt8):Option (List LLexerToken):=if(ci (s.length+1) 0 s).2.isNone then some ((ci (s.length+1) 0 s).1.map gE)else none
theorem tz_nil:tz []=some []:=by simp[tz,ci]
theorem tz_sp(r:List UInt8):tz (32::r)=tz r:=by
 unfold tz
 have e:ci ((32::r).length+1) 0 (32::r)=ci (r.length+1) 1 r:=by
  rw[List.length_cons,ci,zp (by decide)]
 rw[e];have h:=lw (r.length+1) (r.length+1) 1 0 r (by omega) (by omega);rw[h.1,h.2]
theorem jY{c:UInt8}{w r:List UInt8}{t:LLexerToken}(hw:ws c=false)(h:bH (c::w++r)=(t,(c::w).length,true)):tz (c::w++r)=(tz r).map (gE t::·):=by
 unfold tz
 have e:ci ((c::w++r).length+1) 0 (c::w++r)=(LLexerToken.mk t.kind t.text t.number (0:Nat)::(ci (c::w++r).length (0+(c::w).length) r).1,(ci (c::w++r).length (0+(c::w).length) r).2):=by
  rw[List.cons_append]at h⊢;rw[ci,zy (by simp[hw]),h,zp rfl];simp only[List.length_cons];rw[show(c::(w++r)).drop (w.length+1)=r from by simp]
 rw[e];have h2:=lw (c::w++r).length (r.length+1) (0+(c::w).length) 0 r (by simp;omega) (by omega);simp only[List.map_cons,h2.1,h2.2]
 cases(ci (r.length+1) 0 r).2.isNone<;>rfl
theorem tz_tk{s:List UInt8}{ts:List LLexerToken}(h:tz s=some ts):∃l,lexT s=(l,none)∧l.map gE=ts:=by
 unfold tz at h;split at h
 ·rename_i hn
  exact⟨(ci (s.length+1) 0 s).1,Prod.ext rfl (Option.isNone_iff_eq_none.1 hn),Option.some.inj h⟩
 ·cases h
def sepc:List UInt8→Prop
 |[]=>True
 |c::_=>c=32∨c=40∨c=41∨c=44
def Lx(s:List UInt8)(ts:List LLexerToken):Prop:=∀r,sepc r→tz (s++r)=(tz r).map (ts++·)
def Ly(s:List UInt8)(ts:List LLexerToken):Prop:=∀r,tz (s++r)=(tz r).map (ts++·)
theorem mL{o:Option (List LLexerToken)}{x y:List LLexerToken}:((o.map (y++·)).map (x++·))=o.map ((x++y)++·):=by
 cases o<;>simp
theorem Ly.app{a b:List UInt8}{x y:List LLexerToken}(h:Ly a x)(h':Ly b y):Ly (a++b) (x++y):=fun r=>by rw[List.append_assoc,h,h',mL]
theorem Ly.appX{a b:List UInt8}{x y:List LLexerToken}(h:Ly a x)(h':Lx b y):Lx (a++b) (x++y):=fun r hr=>by rw[List.append_assoc,h,h' r hr,mL]
theorem Ly.lx{a:List UInt8}{x:List LLexerToken}(h:Ly a x):Lx a x:=fun r _=>h r
def Sp:List UInt8→Prop
 |[]=>False
 |c::_=>c=32∨c=40∨c=41∨c=44
theorem Sp.app{b:List UInt8}(h:Sp b)(r:List UInt8):sepc (b++r):=by
 cases b with
 |nil=>exact h.elim
 |cons c b=>exact h
theorem Lx.app{a b:List UInt8}{x y:List LLexerToken}(h:Lx a x)(h':Ly b y)(hs:Sp b):Ly (a++b) (x++y):=fun r=>by rw[List.append_assoc,h _ (hs.app r),h',mL]
theorem Lx.appX{a b:List UInt8}{x y:List LLexerToken}(h:Lx a x)(h':Lx b y)(hs:Sp b):Lx (a++b) (x++y):=fun r hr=>by rw[List.append_assoc,h _ (hs.app r),h' r hr,mL]
theorem Ly.nil:Ly [] []:=fun r=>by cases h:tz r<;>simp[h]
theorem Ly.sp:Ly [32] []:=fun r=>by
 show tz (32::r)=_;rw[tz_sp];cases tz r<;>simp
theorem jm{r:List UInt8}(h:sepc r):gP r=true:=by
 cases r with
 |nil=>rfl
 |cons c r=>rcases h with rfl|rfl|rfl|rfl<;>rfl
theorem sep_noQ{r:List UInt8}(h:sepc r):noQ r:=by
 cases r with
 |nil=>trivial
 |cons c r=>rcases h with rfl|rfl|rfl|rfl<;>show _≠_<;>decide
theorem gS(p:UInt8→Bool):∀(x r:List UInt8),x.all p=true→(∀c r',r=c::r'→p c=false)→(x++r).takeWhile p=x
 |[],r,_,hr=>by
  cases r with
  |nil=>rfl
  |cons c r=>simp[hr c r rfl]
 |a::x,r,hx,hr=>by
  simp only[List.all_cons,Bool.and_eq_true]at hx;rw[List.cons_append,List.takeWhile_cons,zp hx.1,gS p x r hx.2 hr]
theorem noInn_inn{r:List UInt8}(h:gP r=true):∀c r',r=c::r'→inn c=false:=by
 intro c r' e;subst e;simpa[gP]using h
def isKw(s:List UInt8):Bool:=fX.any (s==·)
def jd:List UInt8→Bool
 |[]=>false
 |c::x=>low c&&x.all inn
def fw(s:List UInt8):Prop:=jd s=true∧isKw s=false∧s.length≤12
abbrev tI(s:List UInt8):LLexerToken:=⟨1,s,0,0⟩
abbrev tK(s:List UInt8):LLexerToken:=⟨2,s,0,0⟩
abbrev tN(n:Int):LLexerToken:=⟨3,[],n,0⟩
abbrev tS(s:List UInt8):LLexerToken:=⟨4,s,0,0⟩
abbrev tP(s:List UInt8):LLexerToken:=⟨5,s,0,0⟩
abbrev tA(s:List UInt8)(n:Int):LLexerToken:=⟨6,s,n,0⟩
theorem oneS_word{c:UInt8}{x r:List UInt8}(hc:low c=true)(hx:x.all inn=true)(hr:gP r=true)(hk:isKw (c::x)=true∨(c::x).length≤12):bH (c::x++r)=(⟨if isKw (c::x)then 2 else 1,c::x,0,0⟩,(c::x).length,true):=by
 have e:(x++r).takeWhile inn=x:=gS inn x r hx (noInn_inn hr);simp only[List.cons_append,bH,hc,if_true,e,isKw,List.length_cons,Nat.add_comm 1];congr 2;rcases hk with hk|hk
 ·simp only[isKw]at hk;rw[hk];rfl
 ·simp only[List.length_cons]at hk;simp[hk]
theorem lx_kw{s:List UInt8}(h1:jd s=true)(h2:isKw s=true):Lx s [tK s]:=by
 intro r hr;cases s with
 |nil=>simp[jd]at h1
 |cons c x=>
  simp only[jd,Bool.and_eq_true]at h1
  have:=oneS_word h1.1 h1.2 (jm hr) (.inl h2)
  rw[h2,zp rfl]at this;rw[jY (low_ws h1.1) this];rfl
theorem kI{s:List UInt8}(h:fw s):Lx s [tI s]:=by
 intro r hr
 obtain⟨h1,h2,h3⟩:=h
 cases s with
 |nil=>simp[jd]at h1
 |cons c x=>
  simp only[jd,Bool.and_eq_true]at h1
  have:=oneS_word h1.1 h1.2 (jm hr) (.inr h3)
  rw[h2,zy (by simp)]at this;rw[jY (low_ws h1.1) this];rfl
theorem lx_str{s:List UInt8}(h:s.length≤24):Lx (39::(esc s++[39])) [tS s]:=by
 intro r hr;have h1:=oneS_quote s r (sep_noQ hr);rw[zt h]at h1;have e:39::(esc s++[39])++r=39::(esc s++39::r):=by simp
 have:=jY (c:=39) (w:=esc s++[39]) (r:=r) (t:=tS s) (by decide) (by rw[e,h1];simp)
 rw[this];rfl
theorem lx_par{k:UInt8}{d:UInt8}(hd:dig d=true)(hk:k=105∨k=98∨k=116):Lx [63,d,k] [tA [k] ((d.toNat:Int)-48)]:=by
 intro r hr
 have h1:bH ([63,d,k]++r)=(tA [k] ((d.toNat:Int)-48),3,true):=by
  have e1:low 63=false:=by rfl
  have e2:dig 63=false:=by rfl
  simp only[List.cons_append,List.nil_append,bH,e1,e2,Bool.false_eq_true,if_false,if_true,gv];rw[jm hr];rcases hk with rfl|rfl|rfl<;>simp[hd]
 rw[jY (c:=63) (w:=[d,k]) (by decide) h1];rfl
theorem dig_of{k:Nat}(h:k<10):dig (UInt8.ofNat (48+k))=true∧(UInt8.ofNat (48+k)).toNat=48+k:=by
 have e:(UInt8.ofNat (48+k)).toNat=48+k:=by rw[UInt8.toNat_ofNat'];omega
 refine⟨?_,e⟩
 simp only[dig,cU,e];rw[zt (show((48+k:Nat):Int)≥48 by omega),zt (show((48+k:Nat):Int)≤57 by omega)];rfl
theorem dec_dig:∀u:Nat,(Lib.decDigits u).all dig=true∧Lib.decDigits u≠[]:=by
 intro u;induction u using Nat.strongRecOn with
 |_ u ih=>
  rw[Lib.decDigits];split
  ·exact⟨by simpa using(dig_of (k:=u) (by omega)).1,by simp⟩
  ·have h:=ih (u/10) (by omega)
   exact⟨by rw[List.all_append,h.1];simpa using(dig_of (k:=u%10) (by omega)).1,by simp⟩
theorem parse_app:∀(a r:List UInt8) (acc v:Nat),Lib.parseUint10 acc a= .ok v→Lib.parseUint10 acc (a++r)=Lib.parseUint10 v r
 |[],r,acc,v,h=>by simp only[Lib.parseUint10]at h;injection h with h;rw[List.nil_append,h]
 |c::a,r,acc,v,h=>by
  rw[List.cons_append,Lib.parseUint10];rw[Lib.parseUint10]at h;split at h
  ·rename_i h1;rw[zp h1];split at h
   ·cases h
   ·rename_i h2;rw[zy h2];split at h
    ·cases h
    ·rename_i h3;rw[zy h3];exact parse_app a r _ v h
  ·cases h
theorem parse_dec:∀u:Nat,u≤1000000000000→Lib.parseUint10 0 (Lib.decDigits u)= .ok u:=by
 intro u;induction u using Nat.strongRecOn with
 |_ u ih=>
  intro hu;rw[Lib.decDigits];split
  ·rename_i h
   have:=(dig_of (k:=u) h).2
   simp only[Lib.parseUint10,this];rw[zp ⟨by omega,by omega⟩,zy (by omega),zy (by omega)];congr 1;omega
  ·have h1:=ih (u/10) (by omega) (by omega);rw[parse_app _ _ _ _ h1]
   have:=(dig_of (k:=u%10) (by omega)).2
   simp only[Lib.parseUint10,this];rw[zp ⟨by omega,by omega⟩,zy (by omega),zy (by omega)];congr 1;omega
theorem numV_dec{u:Nat}(hu:u≤1000000000000):numV (Lib.decDigits u)=((u:Int),true):=by
 have hd:=dec_dig u;have hp:=parse_dec u hu;have hit:Lib.itoa (u:Int)=Lib.decDigits u:=Lib.itoa_nonneg u
 obtain⟨c,r,e⟩:∃c r,Lib.decDigits u=c::r:=by
  cases h:Lib.decDigits u with
  |nil=>exact absurd h hd.2
  |cons c r=>exact⟨c,r,rfl⟩
 have hc:dig c=true:=by have:=hd.1;rw[e,List.all_cons,Bool.and_eq_true]at this;exact this.1
 have hr:=hO hc
 have ha:Lib.atoiAll (Lib.decDigits u)= .ok (u:Int):=by
  rw[e]at hp⊢;unfold Lib.atoiAll;simp only;rw[zy (by omega)];unfold Lib.parseMag;rw[zy (by simp),hp];simp only;rw[zy (by omega),zy (by omega),zy (by omega)]
 simp only[numV,ha];rw[zt (by omega),hit];simp
theorem lx_num{n:Int}(h0:0≤n)(h1:n≤1000000000000):Lx (Lib.itoa n) [tN n]:=by
 intro r hr
 obtain⟨u,rfl⟩:∃u:Nat,n=(u:Int):=⟨n.toNat,by omega⟩
 rw[Lib.itoa_nonneg];have hd:=dec_dig u;have hv:=numV_dec (u:=u) (by omega)
 obtain⟨c,x,e⟩:∃c r,Lib.decDigits u=c::r:=by
  cases h:Lib.decDigits u with
  |nil=>exact absurd h hd.2
  |cons c r=>exact⟨c,r,rfl⟩
 have hc:dig c=true:=by have:=hd.1;rw[e,List.all_cons,Bool.and_eq_true]at this;exact this.1
 have hx:(c::x).all dig=true:=by rw[←e];exact hd.1
 have hl:low c=false:=by
  have:=hO hc
  unfold low;rw[zf (by omega)];rfl
 have hn:∀c' r',r=c'::r'→dig c'=false:=by
  intro c' r' e'
  have:=noInn_inn (jm hr) c' r' e'
  subst e';rcases hr with rfl|rfl|rfl|rfl<;>rfl
 have htw:(c::x++r).takeWhile dig=c::x:=gS dig (c::x) r hx hn;rw[e]at hv⊢
 have h1:bH (c::x++r)=(tN (u:Int),(c::x).length,true):=by
  simp only[List.cons_append]at htw⊢;simp only[bH,hl,hc,Bool.false_eq_true,if_false,if_true,htw,hv];rw[show(c::(x++r)).drop (c::x).length=r from by simp,jm hr];rfl
 rw[jY (dig_ws hc) h1];rfl
theorem ly_p{x:List UInt8}(c:UInt8)(w:List UInt8)(e:x=c::w)(hw:ws c=false)(h:∀r,bH (c::w++r)=(tP (c::w),(c::w).length,true)):Ly x [tP x]:=fun r=>by
 subst e;rw[jY hw (h r)];rfl
theorem ly_lp:Ly [40] [tP [40]]:=ly_p 40 [] rfl rfl fun _=>rfl
theorem ly_rp:Ly [41] [tP [41]]:=ly_p 41 [] rfl rfl fun _=>rfl
theorem ly_cm:Ly [44] [tP [44]]:=ly_p 44 [] rfl rfl fun _=>rfl
theorem ly_mi:Ly [45] [tP [45]]:=ly_p 45 [] rfl rfl fun _=>rfl
theorem ly_do:Ly [36] [tP [36]]:=ly_p 36 [] rfl rfl fun _=>rfl
theorem lx_p{x:List UInt8}(c:UInt8)(w:List UInt8)(e:x=c::w)(hw:ws c=false)(h:∀r,sepc r→bH (c::w++r)=(tP (c::w),(c::w).length,true)):Lx x [tP x]:=fun r hr=>by
 subst e;rw[jY hw (h r hr)];rfl
theorem lx_bar:Lx [124] [tP [124]]:=lx_p 124 [] rfl rfl fun r hr=>by
 cases r with
 |nil=>rfl
 |cons c r=>rcases hr with rfl|rfl|rfl|rfl<;>rfl
abbrev Tok:=LLexerToken
abbrev Res(α:Type):=Except (List Tok) (α×List Tok)
inductive PT (α:Type) where
 |rt (a:α)
 |fl
 |acc (f:Tok→Bool) (y:Tok→PT α) (n:PT α)
 |out
open PT
section
variable{α β:Type}
def PT.run:PT α→List Tok→Option (Res α)
 | .rt a,t=>some (.ok (a,t))
 | .fl,t=>some (.error t)
 | .acc _ _ n,[]=>n.run []
 | .acc f y n,x::r=>bif f x then(y x).run r else n.run (x::r)
 | .out,_=>none
def PT.bd:PT α→(α→PT β)→PT β
 | .rt a,g=>g a
 | .fl,_=>.fl
 | .acc f y n,g=>.acc f (fun x=>(y x).bd g) (n.bd g)
 | .out,_=>.out
theorem PT.run_bd(g:α→PT β):∀(p:PT α) (t:List Tok),(p.bd g).run t=match p.run t with
  |none=>none
  |some (.error r)=>some (.error r)
  |some (.ok (a,r))=>(g a).run r
 | .rt a,t=>by simp[bd,run]
 | .fl,t=>by simp[bd,run]
 | .acc f y n,[]=>by simp only[bd,run];exact run_bd g n []
 | .acc f y n,x::r=>by
  simp only[bd,run];cases f x with
  |true=>simp only[zc];exact run_bd g (y x) r
  |false=>simp only[zd];exact run_bd g n (x::r)
 | .out,t=>by simp[bd,run]
theorem PT.bd_bd{γ:Type}(f:α→PT β)(g:β→PT γ):∀p:PT α,(p.bd f).bd g=p.bd fun a=>(f a).bd g
 | .rt a=>rfl
 | .fl=>rfl
 | .acc c y n=>by simp only[bd,bd_bd f g n,fun x=>bd_bd f g (y x)]
 | .out=>rfl
theorem PT.run_suf:∀(p:PT α) (t:List Tok) {s:Res α},p.run t=some s→match s with
  | .ok (_,r)=>r<:+t
  | .error r=>r<:+t
 | .rt a,t,s,h=>by simp only[run,zo]at h;subst h;exact List.suffix_refl _
 | .fl,t,s,h=>by simp only[run,zo]at h;subst h;exact List.suffix_refl _
 | .acc f y n,[],s,h=>run_suf n [] (by simpa only[run]using h)
 | .acc f y n,x::r,s,h=>by
  simp only[run]at h;cases hf:f x with
  |true=>
   rw[hf,zc]at h
   have:=run_suf (y x) r h
   cases s with
   |error e=>exact this.trans (List.suffix_cons _ _)
   |ok v=>exact this.trans (List.suffix_cons _ _)
  |false=>rw[hf,zd]at h;exact run_suf n (x::r) h
 | .out,t,s,h=>by simp[run]at h
def PT.St(N:Nat)(p p':PT α):Prop:=∀t:List Tok,t.length≤N→∃s,p.run t=some s∧p'.run t=some s
def PT.Con:PT α→Prop
 | .rt _=>False
 | .fl=>True
 | .acc _ _ n=>n.Con
 | .out=>True
theorem PT.Con.bd{g:α→PT β}:∀{p:PT α},p.Con→(p.bd g).Con
 | .rt _,h=>h.elim
 | .fl,_=>trivial
 | .acc _ _ n,h=>Con.bd (p:=n) h
 | .out,_=>trivial
theorem PT.Con.lt:∀{p:PT α} (_:p.Con) {t r:List Tok} {a:α},p.run t=some (.ok (a,r))→r.length<t.length
 | .rt _,h,_,_,_,_=>h.elim
 | .fl,_,_,_,_,e=>by simp[run]at e
 | .acc f y n,h,[],r,a,e=>Con.lt (p:=n) h (by simpa only[run]using e)
 | .acc f y n,h,x::t,r,a,e=>by
  simp only[run]at e;cases hf:f x with
  |true=>
   rw[hf,zc]at e
   have:=(run_suf (y x) t e).length_le
   simp only[List.length_cons];omega
  |false=>rw[hf,zd]at e;exact Con.lt (p:=n) h e
 | .out,_,_,_,_,e=>by simp[run]at e
theorem PT.St.rt{N:Nat}(a:α):St N (.rt a) (.rt a):=fun _ _=>⟨_,rfl,rfl⟩
theorem PT.St.fl{N:Nat}:St N (.fl:PT α) .fl:=fun _ _=>⟨_,rfl,rfl⟩
theorem PT.St.mono{N N':Nat}{p p':PT α}(h:St N p p')(hn:N'≤N):St N' p p':=fun t ht=>h t (by omega)
theorem PT.St.acc{N:Nat}{f:Tok→Bool}{y y':Tok→PT α}{n n':PT α}(hy:∀x,f x=true→0<N→St (N-1) (y x) (y' x))(hn:St N n n'):St N (.acc f y n) (.acc f y' n'):=by
 intro t ht;cases t with
 |nil=>exact hn [] ht
 |cons x r=>
  simp only[List.length_cons]at ht;simp only[run];cases hf:f x with
  |true=>simp only[zc];exact hy x hf (by omega) r (by omega)
  |false=>simp only[zd];exact hn (x::r) (by simp only[List.length_cons];omega)
theorem PT.St.bd{N:Nat}{p p':PT α}{g g':α→PT β}(h:St N p p')(hg:∀a,St N (g a) (g' a)):St N (p.bd g) (p'.bd g'):=by
 intro t ht
 obtain⟨s,h1,h2⟩:=h t ht
 rw[run_bd,run_bd,h1,h2];cases s with
 |error r=>exact⟨_,rfl,rfl⟩
 |ok v=>exact hg v.1 v.2 (by have:=(run_suf p t h1).length_le;omega)
theorem PT.St.bdC{N:Nat}{p p':PT α}{g g':α→PT β}(h:St N p p')(hc:p.Con)(hg:∀a,0<N→St (N-1) (g a) (g' a)):St N (p.bd g) (p'.bd g'):=by
 intro t ht
 obtain⟨s,h1,h2⟩:=h t ht
 rw[run_bd,run_bd,h1,h2];cases s with
 |error r=>exact⟨_,rfl,rfl⟩
 |ok v=>have:=hc.lt h1;exact hg v.1 (by omega) v.2 (by omega)
def PT.All(φ:α→Prop):PT α→Prop
 | .rt a=>φ a
 | .fl=>True
 | .acc _ y n=>(∀x,(y x).All φ)∧n.All φ
 | .out=>True
theorem PT.All.bd{φ:β→Prop}{g:α→PT β}(h:∀a,(g a).All φ):∀p:PT α,(p.bd g).All φ
 | .rt a=>h a
 | .fl=>trivial
 | .acc _ y n=>⟨fun x=>All.bd h (y x),All.bd h n⟩
 | .out=>trivial
theorem PT.All.run{φ:α→Prop}:∀{p:PT α} (_:p.All φ) {t r:List Tok} {a:α},p.run t=some (.ok (a,r))→φ a
 | .rt a,h,t,r,b,e=>by simp only[PT.run,zo,Except.ok.injEq,Prod.mk.injEq]at e;rw[←e.1];exact h
 | .fl,_,_,_,_,e=>by simp[PT.run]at e
 | .acc f y n,h,[],r,a,e=>All.run (p:=n) h.2 (by simpa only[PT.run]using e)
 | .acc f y n,h,x::t,r,a,e=>by
  simp only[PT.run]at e;cases hf:f x with
  |true=>rw[hf,zc]at e;exact All.run (h.1 x) e
  |false=>rw[hf,zd]at e;exact All.run (p:=n) h.2 e
 | .out,_,_,_,_,e=>by simp[PT.run]at e
end
def hit(s:List UInt8)(x:Tok):Bool:=cond (x.kind==2) (x.text==s) (cond (x.kind==5) (x.text==s) false)
section
variable{α:Type}
def kw(s:List UInt8)(y n:PT α):PT α:= .acc (hit s) (fun _=>y) n
def ex(s:List UInt8)(y:PT α):PT α:=kw s y .fl
def idt(y:List UInt8→PT α):PT α:= .acc (fun x=>x.kind==1) (fun x=>y x.text) .fl
def num(y:Int→PT α):PT α:= .acc (fun x=>x.kind==3) (fun x=>y x.number) .fl
def num1(y:Int→PT α):PT α:= .acc (fun x=>x.kind==3&& !(x.number==0)) (fun x=>y x.number) .fl
end
def litT:PT LVal:=
 kw [110,117,108,108] (.rt ⟨0,0,[]⟩) (kw [116,114,117,101] (.rt (fF true)) (kw [102,97,108,115,101] (.rt (fF false)) (kw [45] (num1 fun n=>.rt (cT (IntKind.i64.wrap (0-n))))
  (.acc (fun x=>x.kind==4) (fun x=>.rt ⟨3,0,x.text⟩) (num fun n=>.rt (cT n))))))
def kG(s:List UInt8):Int:=match idx1 [63,105,98,116] s with|some k=>k|none=>0
def gV(B:PT LExpr):PT LExpr:=
 .acc (fun x=>x.kind==1) (fun x=>.rt (LExpr.mk 2 x.text 0 (LVal.mk 0 0 []) [])) (.acc (fun x=>x.kind==6) (fun x=>.rt (LExpr.mk 3 [] x.number (LVal.mk (kG x.text) 0 []) []))
  (kw [36] (idt fun s=>.rt (LExpr.mk 4 s 0 (LVal.mk 0 0 []) [])) (kw [40] B (litT.bd fun v=>.rt (LExpr.mk 1 [] 0 v [])))))
def opE(s:List UInt8)(l:List LExpr):LExpr:=LExpr.mk 5 s 0 (LVal.mk 0 0 []) l
def unB(E:PT LExpr)(s:List UInt8)(n:PT LExpr):PT LExpr:=kw s (E.bd fun e=>ex [41] (.rt (opE s [e]))) n
def binB(E:PT LExpr)(a:LExpr)(s:List UInt8)(n:PT LExpr):PT LExpr:=kw s (E.bd fun b=>ex [41] (.rt (opE s [a,b]))) n
def bins:List (List UInt8):=[[43],[45],[42],[61],[60,61],[60],[97,110,100],[111,114],[124,124]]
def eB(E:PT LExpr):PT LExpr:=
 unB E [110,111,116] (unB E [108,101,110,103,116,104] (kw [105,102] (E.bd fun a=>ex [116,104,101,110] (E.bd fun b=>ex [101,108,115,101] (E.bd fun c=>ex [41] (.rt (opE [105,102] [a,b,c])))))
  (E.bd fun a=>kw [105,115] (ex [110,117,108,108] (ex [41] (.rt (opE [105,115,32,110,117,108,108] [a])))) (bins.foldr (binB E a) .fl))))
mutual
def eT:Nat→PT LExpr
 |0=>.out
 |m+1=>gV (bT m)
def bT:Nat→PT LExpr
 |0=>.out
 |m+1=>eB (eT m)
end
def commas(one:LQuery→PT LQuery):Nat→LQuery→PT LQuery
 |0,_=>.out
 |n+1,q=>kw [44] ((one q).bd (commas one n)) (.rt q)
def lst(one:LQuery→PT LQuery)(n:Nat)(q:LQuery):PT LQuery:=(one q).bd (commas one n)
def eA(E:PT LExpr)(q:LQuery):PT LQuery:=
 E.bd fun e=>ex [97,115] (idt fun s=>.rt (LQuery.mk q.kind q.table (q.names++[s]) (q.exprs++[e]) q.aggregates q.descending q.count q.offset q.inputs))
def gc(E:PT LExpr)(q:LQuery):PT LQuery:=
 idt fun f=>ex [40] (PT.bd (kw [41] (.rt []) (E.bd fun e=>ex [41] (.rt [e]))) fun l=>ex [97,115] (idt fun s=>.rt (LQuery.mk q.kind q.table q.names q.exprs (q.aggregates++[LAggregateCall.mk s f l]) q.descending q.count q.offset q.inputs)))
def gD(E:PT LExpr)(q:LQuery):PT LQuery:=
 E.bd fun e=>PT.bd (kw [100,101,115,99] (.rt true) (.rt false)) fun d=>.rt (LQuery.mk q.kind q.table q.names (q.exprs++[e]) q.aggregates (q.descending++[d]) q.count q.offset q.inputs)
def jU(E:PT LExpr)(n:Nat)(q:LQuery):PT LQuery:=
 kw [98,121] ((lst (eA E) n q).bd fun q=>kw [97,103,103,114,101,103,97,116,101] (lst (gc E) n q) (.rt q)) (kw [97,103,103,114,101,103,97,116,101] (lst (gc E) n q) .fl)
abbrev qmk(k:Int)(q:LQuery):LQuery:=LQuery.mk k [] [] [] [] [] 0 0 [q]
def jf(E:PT LExpr)(n:Nat)(S2:LQuery→PT LQuery)(I:PT LQuery)(q:LQuery):PT LQuery:=
 kw [119,104,101,114,101] (E.bd fun e=>.rt (LQuery.mk 2 [] [] [e] [] [] 0 0 [q])) (kw [112,114,111,106,101,99,116] (lst (eA E) n (qmk 3 q)) (kw [106,111,105,110] (S2 (qmk 4 q)) (kw [108,101,102,116] (ex [106,111,105,110] (S2 (qmk 5 q)))
  (kw [117,110,105,111,110] (I.bd fun r=>.rt (LQuery.mk 6 [] [] [] [] [] 0 0 [q,r])) (kw [101,120,99,101,112,116] (I.bd fun r=>.rt (LQuery.mk 7 [] [] [] [] [] 0 0 [q,r])) (kw [103,114,111,117,112] (jU E n (qmk 8 q))
   (kw [115,111,114,116] (lst (gD E) n (qmk 9 q)) (kw [108,105,109,105,116] (num fun c=>kw [111,102,102,115,101,116] (num1 fun o=>.rt (LQuery.mk 10 [] [] [] [] [] c o [q])) (.rt (LQuery.mk 10 [] [] [] [] [] c 0 [q]))) .fl))))))))
def jO(E:PT LExpr)(I:PT LQuery)(q:LQuery):PT LQuery:=
 I.bd fun r=>ex [111,110] (E.bd fun e=>.rt (LQuery.mk q.kind q.table q.names [e] q.aggregates q.descending q.count q.offset (q.inputs++[r])))
def innerB(Q:PT LQuery):PT LQuery:=ex [40] (Q.bd fun q=>ex [41] (.rt q))
def dT(S:LQuery→PT LQuery):Nat→LQuery→PT LQuery
 |0,_=>.out
 |n+1,q=>kw [124] ((S q).bd (dT S n)) (.rt q)
def queryB(Q:PT LQuery)(S:LQuery→PT LQuery)(n:Nat):PT LQuery:=
 PT.bd (kw [40] (Q.bd fun q=>ex [41] (.rt q)) (ex [115,99,97,110] (idt fun s=>.rt (LQuery.mk 1 s [] [] [] [] 0 0 [])))) (dT S n)
def cg:Nat:=20000
def eM:PT LExpr:=eT cg
mutual
def qT:Nat→PT LQuery
 |0=>.out
 |m+1=>queryB (qT m) (fun q=>sT m q) cg
def sT:Nat→LQuery→PT LQuery
 |0,_=>.out
 |m+1,q=>jf eM cg (fun q=>s2T m q) (iT m) q
def s2T:Nat→LQuery→PT LQuery
 |0,_=>.out
 |m+1,q=>jO eM (iT m) q
def iT:Nat→PT LQuery
 |0=>.out
 |m+1=>innerB (qT m)
end
def qM:PT LQuery:=qT cg
open PT
section
variable{α:Type}{N:Nat}
theorem St.kw{s:List UInt8}{y y' n n':PT α}(hy:0<N→St (N-1) y y')(hn:St N n n'):St N (kw s y n) (kw s y' n'):=St.acc (fun _ _ h=>hy h) hn
theorem St.ex{s:List UInt8}{y y':PT α}(hy:0<N→St (N-1) y y'):St N (ex s y) (ex s y'):=St.kw hy St.fl
theorem St.idt{y y':List UInt8→PT α}(hy:∀s,0<N→St (N-1) (y s) (y' s)):St N (idt y) (idt y'):=St.acc (fun _ _ h=>hy _ h) St.fl
theorem St.num{y y':Int→PT α}(hy:∀s,0<N→St (N-1) (y s) (y' s)):St N (num y) (num y'):=St.acc (fun _ _ h=>hy _ h) St.fl
theorem St.num1{y y':Int→PT α}(hy:∀s,0<N→St (N-1) (y s) (y' s)):St N (num1 y) (num1 y'):=St.acc (fun _ _ h=>hy _ h) St.fl
end
theorem litT_st{N:Nat}:St N litT litT:=by
 unfold litT;exact St.kw (fun _=>St.rt _) (St.kw (fun _=>St.rt _) (St.kw (fun _=>St.rt _) (St.kw (fun _=>St.num1 fun _ _=>St.rt _) (St.acc (fun _ _ _=>St.rt _) (St.num fun _ _=>St.rt _)))))
theorem exprB_st{N:Nat}{B B':PT LExpr}(h:0<N→St (N-1) B B'):St N (gV B) (gV B'):=by
 unfold gV;exact St.acc (fun _ _ _=>St.rt _) (St.acc (fun _ _ _=>St.rt _) (St.kw (fun _=>St.idt fun _ _=>St.rt _) (St.kw h (St.bd litT_st fun _=>St.rt _))))
theorem binB_st{N:Nat}{E E':PT LExpr}(h:St N E E')(a:LExpr):∀l:List (List UInt8),St N (l.foldr (binB E a) .fl) (l.foldr (binB E' a) .fl)
 |[]=>St.fl
 |s::l=>St.kw (fun _=>St.bd (h.mono (by omega)) fun _=>St.ex fun _=>St.rt _) (binB_st h a l)
theorem bracketB_st{N:Nat}{E E':PT LExpr}(h:St N E E'):St N (eB E) (eB E'):=by
 have k:∀{M},M≤N→St M E E':=fun hm=>h.mono hm
 unfold eB
 refine St.kw (fun _=>St.bd (k (by omega)) fun _=>St.ex fun _=>St.rt _) (St.kw (fun _=>St.bd (k (by omega)) fun _=>St.ex fun _=>St.rt _) (St.kw (fun _=>St.bd (k (by omega)) fun _=>St.ex fun _=>St.bd (k (by omega)) fun _=>St.ex fun _=>St.bd (k (by omega)) fun _=>St.ex fun _=>St.rt _)
  (St.bd h fun a=>St.kw (fun _=>St.ex fun _=>St.ex fun _=>St.rt _) (binB_st h a _))))
theorem eb_st:∀N:Nat,(∀m m',2*N+2≤m→2*N+2≤m'→St N (eT m) (eT m'))∧∀m m',2*N+3≤m→2*N+3≤m'→St N (bT m) (bT m'):=by
 intro N;induction N using Nat.strongRecOn with
 |_ N ih=>
  have he:∀m m',2*N+2≤m→2*N+2≤m'→St N (eT m) (eT m'):=by
   intro m m' h h'
   obtain⟨k,rfl⟩:∃k,m=k+1:=⟨m-1,by omega⟩
   obtain⟨k',rfl⟩:∃k,m'=k+1:=⟨m'-1,by omega⟩
   rw[eT,eT];exact exprB_st fun h0=>(ih (N-1) (by omega)).2 k k' (by omega) (by omega)
  refine⟨he,fun m m' h h'=>?_⟩
  obtain⟨k,rfl⟩:∃k,m=k+1:=⟨m-1,by omega⟩
  obtain⟨k',rfl⟩:∃k,m'=k+1:=⟨m'-1,by omega⟩
  rw[bT,bT];exact bracketB_st (he k k' (by omega) (by omega))
theorem eM_st{N:Nat}(h:N≤4000):St N eM eM:=(eb_st N).1 _ _ (by unfold cg;omega) (by unfold cg;omega)
theorem eM_st2{N m:Nat}(h:N≤4000)(hm:cg≤m):St N eM (eT m):=(eb_st N).1 _ _ (by unfold cg;omega) (by unfold cg at hm;omega)
theorem commas_st{one one':LQuery→PT LQuery}{K:Nat}(h:∀q N,N≤K→St N (one q) (one' q)):∀N n n' q,N≤K→N<n→N<n'→St N (commas one n q) (commas one' n' q)
 |N,0,_,_,_,hn,_=>by omega
 |N,_,0,_,_,_,hn=>by omega
 |N,n+1,n'+1,q,hk,hn,hn'=>by
  rw[commas,commas];exact St.kw (fun h0=>St.bd (h q _ (by omega)) fun q=>commas_st h (N-1) n n' q (by omega) (by omega) (by omega)) (St.rt _)
theorem lst_st{one one':LQuery→PT LQuery}{N n n':Nat}(h:∀q M,M≤N→St M (one q) (one' q))(q:LQuery)(hn:N<n)(hn':N<n'):St N (lst one n q) (lst one' n' q):=
 St.bd (h q N (Nat.le_refl _)) fun q=>commas_st h N n n' q (Nat.le_refl _) hn hn'
theorem namedB_st{E E':PT LExpr}{N:Nat}(h:St N E E')(q:LQuery):St N (eA E q) (eA E' q):=St.bd h fun _=>St.ex fun _=>St.idt fun _ _=>St.rt _
theorem aggB_st{E E':PT LExpr}{N:Nat}(h:St N E E')(q:LQuery):St N (gc E q) (gc E' q):=
 St.idt fun _ _=>St.ex fun _=>St.bd (St.kw (fun _=>St.rt _) (St.bd (h.mono (by omega)) fun _=>St.ex fun _=>St.rt _)) fun _=>St.ex fun _=>St.idt fun _ _=>St.rt _
theorem sortB_st{E E':PT LExpr}{N:Nat}(h:St N E E')(q:LQuery):St N (gD E q) (gD E' q):=St.bd h fun _=>St.bd (St.kw (fun _=>St.rt _) (St.rt _)) fun _=>St.rt _
theorem groupB_st{E E':PT LExpr}{N n n':Nat}(h:St N E E')(q:LQuery)(hn:N<n)(hn':N<n'):St N (jU E n q) (jU E' n' q):=by
 have ha:∀q M,M≤N→St M (gc E q) (gc E' q):=fun q M hM=>aggB_st (h.mono hM) q
 have hm:∀q M,M≤N→St M (eA E q) (eA E' q):=fun q M hM=>namedB_st (h.mono hM) q
 exact St.kw (fun _=>St.bd (lst_st (fun q M hM=>hm q M (by omega)) q (by omega) (by omega)) fun q=>St.kw (fun _=>lst_st (fun q M hM=>ha q M (by omega)) q (by omega) (by omega)) (St.rt _)) (St.kw (fun _=>lst_st (fun q M hM=>ha q M (by omega)) q (by omega) (by omega)) St.fl)
theorem stageB_st{E E':PT LExpr}{N n n':Nat}{S2 S2':LQuery→PT LQuery}{I I':PT LQuery}(h:St N E E')(hn:N<n)(hn':N<n')(h2:∀q,0<N→St (N-1) (S2 q) (S2' q))(hI:0<N→St (N-1) I I')(q:LQuery):St N (jf E n S2 I q) (jf E' n' S2' I' q):=by
 have k:∀{M},M≤N→St M E E':=fun hm=>h.mono hm
 unfold jf
 refine St.kw (fun _=>St.bd (k (by omega)) fun _=>St.rt _) (St.kw (fun _=>lst_st (fun q M hM=>namedB_st (k (by omega)) q) _ (by omega) (by omega)) (St.kw (fun h0=>h2 _ h0) (St.kw (fun h0=>St.ex fun _=>(h2 _ h0).mono (by omega))
  (St.kw (fun h0=>St.bd (hI h0) fun _=>St.rt _) (St.kw (fun h0=>St.bd (hI h0) fun _=>St.rt _) (St.kw (fun h0=>groupB_st (k (by omega)) _ (by omega) (by omega))
   (St.kw (fun _=>lst_st (fun q M hM=>sortB_st (k (by omega)) q) _ (by omega) (by omega)) (St.kw (fun _=>St.num fun _ _=>St.kw (fun _=>St.num1 fun _ _=>St.rt _) (St.rt _)) St.fl))))))))
theorem secondB_st{E E':PT LExpr}{N:Nat}{I I':PT LQuery}(h:St N E E')(hI:St N I I')(q:LQuery):St N (jO E I q) (jO E' I' q):=St.bd hI fun _=>St.ex fun _=>St.bd (h.mono (by omega)) fun _=>St.rt _
theorem innerB_st{N:Nat}{Q Q':PT LQuery}(h:0<N→St (N-1) Q Q'):St N (innerB Q) (innerB Q'):=St.ex fun h0=>St.bd (h h0) fun _=>St.ex fun _=>St.rt _
theorem stages_st{S S':LQuery→PT LQuery}{K:Nat}(h:∀q N,N≤K→St N (S q) (S' q)):∀N n n' q,N≤K+1→N<n→N<n'→St N (dT S n q) (dT S' n' q)
 |N,0,_,_,_,hn,_=>by omega
 |N,_,0,_,_,_,hn=>by omega
 |N,n+1,n'+1,q,hk,hn,hn'=>by
  rw[dT,dT];exact St.kw (fun h0=>St.bd (h q _ (by omega)) fun q=>stages_st h (N-1) n n' q (by omega) (by omega) (by omega)) (St.rt _)
theorem queryB_st{N n n':Nat}{Q Q':PT LQuery}{S S':LQuery→PT LQuery}(hQ:0<N→St (N-1) Q Q')(hS:∀q M,M+1≤N→St M (S q) (S' q))(hn:N<n)(hn':N<n'):St N (queryB Q S n) (queryB Q' S' n'):=by
 refine St.bdC (St.kw (fun h0=>St.bd (hQ h0) fun _=>St.ex fun _=>St.rt _) (St.ex fun _=>St.idt fun _ _=>St.rt _)) trivial fun q h0=>?_
 exact stages_st (K:=N-1) (fun q M hM=>hS q M (by omega)) _ _ _ q (by omega) (by omega) (by omega)
theorem q_st:∀N:Nat,N≤4000→(∀m m',4*N+1≤m→4*N+1≤m'→St N (qT m) (qT m'))∧(∀m m',4*N+2≤m→4*N+2≤m'→St N (iT m) (iT m'))∧(∀m m' q,4*N+3≤m→4*N+3≤m'→St N (s2T m q) (s2T m' q))∧(∀m m' q,4*N+4≤m→4*N+4≤m'→St N (sT m q) (sT m' q)):=by
 intro N;induction N using Nat.strongRecOn with
 |_ N ih=>
  intro hN;have hb:N<cg:=by unfold cg;omega
  have hq:∀m m',4*N+1≤m→4*N+1≤m'→St N (qT m) (qT m'):=by
   intro m m' h h'
   obtain⟨k,rfl⟩:∃k,m=k+1:=⟨m-1,by omega⟩
   obtain⟨k',rfl⟩:∃k,m'=k+1:=⟨m'-1,by omega⟩
   rw[qT,qT];exact queryB_st (fun h0=>(ih (N-1) (by omega) (by omega)).1 k k' (by omega) (by omega)) (fun q M hM=>(ih M (by omega) (by omega)).2.2.2 k k' q (by omega) (by omega)) hb hb
  have hi:∀m m',4*N+2≤m→4*N+2≤m'→St N (iT m) (iT m'):=by
   intro m m' h h'
   obtain⟨k,rfl⟩:∃k,m=k+1:=⟨m-1,by omega⟩
   obtain⟨k',rfl⟩:∃k,m'=k+1:=⟨m'-1,by omega⟩
   rw[iT,iT];exact innerB_st fun h0=>(ih (N-1) (by omega) (by omega)).1 k k' (by omega) (by omega)
  have h2:∀m m' q,4*N+3≤m→4*N+3≤m'→St N (s2T m q) (s2T m' q):=by
   intro m m' q h h'
   obtain⟨k,rfl⟩:∃k,m=k+1:=⟨m-1,by omega⟩
   obtain⟨k',rfl⟩:∃k,m'=k+1:=⟨m'-1,by omega⟩
   rw[s2T,s2T];exact secondB_st (eM_st hN) (hi k k' (by omega) (by omega)) q
  refine⟨hq,hi,h2,fun m m' q h h'=>?_⟩
  obtain⟨k,rfl⟩:∃k,m=k+1:=⟨m-1,by omega⟩
  obtain⟨k',rfl⟩:∃k,m'=k+1:=⟨m'-1,by omega⟩
  rw[sT,sT];exact stageB_st (eM_st hN) hb hb (fun q h0=>(ih (N-1) (by omega) (by omega)).2.2.1 k k' q (by omega) (by omega)) (fun h0=>(ih (N-1) (by omega) (by omega)).2.1 k k' (by omega) (by omega)) q
theorem qM_st{N m:Nat}(h:N≤4000)(hm:cg≤m):St N qM (qT m):=(q_st N h).1 _ _ (by unfold cg;omega) (by unfold cg at hm;omega)
end
end Go.Proofs.YtibojibdiibdgaaGreatDoor

namespace Go.Proofs.YtibojibdiibdgaaGreatDoor
noncomputable section
open Go Go.Ab PT
section
variable(T:List Tok)(sz:Int)
def stt(t:List Tok):LQueryparserParser:=⟨T,((T.length-t.length:Nat):Int),sz⟩
def off:List Tok→Int
 |[]=>sz
 |x::_=>x.offset
def cv{α β:Type}(mk:α→LQueryparserParser→β):Res α→Except Int β
 | .ok (a,r)=>.ok (mk a (stt T sz r))
 | .error r=>.error (off sz r)
def Im{α β:Type}(mk:α→LQueryparserParser→β)(o:Option (Except Int β))(c:Option (Res α)):Prop:=∀s,c=some s→o=some (cv T sz mk s)
def hd(sz:Int):List Tok→Tok
 |[]=>⟨0,[],0,sz⟩
 |x::_=>x
end
def TkOk(x:Tok):Prop:=x.kind=6→∃c,x.text=[c]
section
variable{T:List Tok}{sz:Int}(hT:T.length≤4000)
section
include hT
theorem wrapT{t:List Tok}{x:Tok}(h:x::t<:+T):IntKind.i64.wrap ((stt T sz (x::t)).next+1)=(stt T sz t).next:=by
 have:=h.length_le
 simp only[List.length_cons,stt]at this⊢;rw[gk (by omega) (by omega)];omega
theorem adv{t:List Tok}{x:Tok}(h:x::t<:+T):LQueryparserParser.mk (stt T sz (x::t)).tokens (IntKind.i64.wrap ((stt T sz (x::t)).next+1)) (stt T sz (x::t)).size=stt T sz t:=by
 rw[wrapT hT h];rfl
theorem bck{t:List Tok}{x:Tok}(h:x::t<:+T):LQueryparserParser.mk (stt T sz t).tokens (IntKind.i64.wrap ((stt T sz t).next-1)) (stt T sz t).size=stt T sz (x::t):=by
 have:=h.length_le
 simp only[List.length_cons,stt]at this⊢;rw[gk (by omega) (by omega)];congr 1;omega
end
theorem jM{t:List Tok}(h:t<:+T):bJ (stt T sz t)=some (hd sz t,stt T sz t):=by
 unfold bJ;have hl:=h.length_le;cases t with
 |nil=>
  rw[show decide ((stt T sz []).next<((stt T sz []).tokens.length:Int))=false from by simp[stt]];rfl
 |cons x r=>
  simp only[List.length_cons]at hl;rw[show decide ((stt T sz (x::r)).next<((stt T sz (x::r)).tokens.length:Int))=true from zt (by simp only[stt,List.length_cons];omega)]
  have hg:bl (stt T sz (x::r)).tokens (stt T sz (x::r)).next=some x:=by
   have e:T.drop (T.length-(x::r).length)=x::r:=(List.suffix_iff_eq_drop.1 h).symm;simp only[stt];rw[eg (x:=x)]
   have:=congrArg (fun l=>l[0]?) e
   simpa only[List.getElem?_drop,Nat.add_zero,List.getElem?_cons_zero]using this
  rw[zc,hg];rfl
theorem gH{t:List Tok}(h:t<:+T):aR (stt T sz t)=some (.error (off sz t)):=by
 unfold aR;rw[jM h];cases t<;>rfl
include hT in
theorem gB{t:List Tok}(h:t<:+T)(s:List UInt8):al (stt T sz t) s=some (match t with
  |[]=>(false,stt T sz [])
  |x::r=>bif hit s x then(true,stt T sz r)else(false,stt T sz (x::r))):=by
 unfold al;rw[jM h];cases t with
 |nil=>rfl
 |cons x r=>
  show(bif hit s x then some (true,_)else some (false,_))=_
  rw[adv hT h];cases hs:hit s x<;>simp only[hs,zc,zd]
include hT in
theorem expect_eq{t:List Tok}(h:t<:+T)(s:List UInt8):aG (stt T sz t) s=some (match t with
  |[]=>.error sz
  |x::r=>bif hit s x then .ok (stt T sz r)else .error x.offset):=by
 unfold aG;rw[gB hT h];cases t with
 |nil=>show bg (aR (stt T sz [])) _=_;rw[gH h];rfl
 |cons x r=>
  cases hs:hit s x with
  |true=>simp only[hs,zc];rfl
  |false=>simp only[hs,zd];show bg (aR (stt T sz (x::r))) _=_;rw[gH h];rfl
include hT in
theorem ident_eq{t:List Tok}(h:t<:+T):bh (stt T sz t)=some (match t with
  |[]=>.error sz
  |x::r=>bif x.kind==1 then .ok (x.text,stt T sz r)else .error x.offset):=by
 unfold bh;rw[jM h];cases t with
 |nil=>
  show ag (cZ (aR (stt T sz [])) _) _=_;rw[gH h];rfl
 |cons x r=>
  simp only[ag,hd];cases hs:x.kind==1 with
  |true=>rw[show(x.kind !=1)=false from by simp[bne,hs]];simp only[zc,zd];show some (Except.ok (x.text,_))=_;rw[adv hT h]
  |false=>rw[show(x.kind !=1)=true from by simp[bne,hs]];simp only[zc,zd];rw[gH h];rfl
include hT in
theorem number_eqP{t:List Tok}(h:t<:+T):bG (stt T sz t)=some (match t with
  |[]=>.error sz
  |x::r=>bif x.kind==3 then .ok (x.number,stt T sz r)else .error x.offset):=by
 unfold bG;rw[jM h];cases t with
 |nil=>
  show ag (cZ (aR (stt T sz [])) _) _=_;rw[gH h];rfl
 |cons x r=>
  simp only[ag,hd];cases hs:x.kind==3 with
  |true=>rw[show(x.kind !=3)=false from by simp[bne,hs]];simp only[zc,zd];show some (Except.ok (x.number,_))=_;rw[adv hT h]
  |false=>rw[show(x.kind !=3)=true from by simp[bne,hs]];simp only[zc,zd];rw[gH h];rfl
section
variable{α β γ δ:Type}{mk:α→LQueryparserParser→β}{t:List Tok}{s:List UInt8}
theorem Im.rt{a:α}{b:β}(h:b=mk a (stt T sz t)):Im T sz mk (some (.ok b)) ((PT.rt a).run t):=fun s hs=>by
 simp only[run,zo]at hs;subst hs;rw[h];rfl
theorem Im.fl{k:LQueryparserParser→Option (Except Int β)}(h:t<:+T):Im T sz mk (bg (aR (stt T sz t)) k) ((.fl:PT α).run t):=fun s hs=>by
 simp only[run,zo]at hs;subst hs;rw[gH h];rfl
include hT in
theorem Im.kW{k:Bool×LQueryparserParser→Option (Except Int β)}{y n:PT α}(h:t<:+T)(hy:∀r,r<:+T→r.length<t.length→Im T sz mk (k (true,stt T sz r)) (y.run r))(hn:Im T sz mk (k (false,stt T sz t)) (n.run t)):
  Im T sz mk (ag (al (stt T sz t) s) k) ((kw s y n).run t):=by
 rw[gB hT h];cases t with
 |nil=>exact hn
 |cons x r=>
  simp only[ag,kw,run];cases hs:hit s x with
  |true=>simp only[zc];exact hy r ((List.suffix_cons x r).trans h) (by simp)
  |false=>simp only[zd];exact hn
include hT in
theorem Im.kC{A B:Bool×LQueryparserParser→Option (Except Int β)}{y n:PT α}(h:t<:+T)(hy:∀r,r<:+T→r.length<t.length→Im T sz mk (A (true,stt T sz r)) (y.run r))(hn:Im T sz mk (B (false,stt T sz t)) (n.run t)):
  Im T sz mk (ag (al (stt T sz t) s) fun x=>cond x.1 (A x) (B x)) ((kw s y n).run t):=Im.kW (k:=fun x=>cond x.1 (A x) (B x)) hT h hy hn
include hT in
theorem Im.kN{A B:Bool×LQueryparserParser→Option (Except Int β)}{y n:PT α}(h:t<:+T)(hy:∀r,r<:+T→r.length<t.length→Im T sz mk (A (true,stt T sz r)) (y.run r))(hn:Im T sz mk (B (false,stt T sz t)) (n.run t)):
  Im T sz mk (ag (al (stt T sz t) s) fun x=>cond (!x.1) (B x) (A x)) ((kw s y n).run t):=Im.kW (k:=fun x=>cond (!x.1) (B x) (A x)) hT h hy hn
include hT in
theorem Im.eX{k:LQueryparserParser→Option (Except Int β)}{y:PT α}(h:t<:+T)(hy:∀r,r<:+T→Im T sz mk (k (stt T sz r)) (y.run r)):Im T sz mk (bg (aG (stt T sz t) s) k) ((ex s y).run t):=by
 intro v hv;rw[expect_eq hT h];cases t with
 |nil=>simp only[ex,kw,run,zo]at hv;subst hv;rfl
 |cons x r=>
  simp only[ex,kw,run]at hv⊢;cases hs:hit s x with
  |true=>rw[hs,zc]at hv;exact hy r ((List.suffix_cons x r).trans h) v hv
  |false=>rw[hs,zd]at hv;simp only[zo]at hv;subst hv;rfl
include hT in
theorem Im.iD{k:List UInt8×LQueryparserParser→Option (Except Int β)}{y:List UInt8→PT α}(h:t<:+T)(hy:∀a r,r<:+T→r.length<t.length→Im T sz mk (k (a,stt T sz r)) ((y a).run r)):Im T sz mk (bg (bh (stt T sz t)) k) ((idt y).run t):=by
 intro v hv;rw[ident_eq hT h];cases t with
 |nil=>simp only[idt,run,zo]at hv;subst hv;rfl
 |cons x r=>
  simp only[idt,run]at hv⊢;cases hs:x.kind==1 with
  |true=>rw[hs,zc]at hv;exact hy x.text r ((List.suffix_cons x r).trans h) (by simp) v hv
  |false=>rw[hs,zd]at hv;simp only[zo]at hv;subst hv;rfl
include hT in
theorem Im.nU{k:Int×LQueryparserParser→Option (Except Int β)}{y:Int→PT α}(h:t<:+T)(hy:∀a r,r<:+T→Im T sz mk (k (a,stt T sz r)) ((y a).run r)):Im T sz mk (bg (bG (stt T sz t)) k) ((num y).run t):=by
 intro v hv;rw[number_eqP hT h];cases t with
 |nil=>simp only[num,run,zo]at hv;subst hv;rfl
 |cons x r=>
  simp only[num,run]at hv⊢;cases hs:x.kind==3 with
  |true=>rw[hs,zc]at hv;exact hy x.number r ((List.suffix_cons x r).trans h) v hv
  |false=>rw[hs,zd]at hv;simp only[zo]at hv;subst hv;rfl
include hT in
theorem Im.n1{B:Int×LQueryparserParser→Option (Except Int β)}{C:Int×LQueryparserParser→LQueryparserParser→Option (Except Int β)}{y:Int→PT α}(h:t<:+T)(hy:∀a r,r<:+T→Im T sz mk (B (a,stt T sz r)) ((y a).run r)):
  Im T sz mk (bg (bG (stt T sz t)) fun x=>cond (x.1==0) (bg (aR (LQueryparserParser.mk x.2.tokens (IntKind.i64.wrap (x.2.next-(1:Int))) x.2.size)) (C x)) (B x)) ((num1 y).run t):=by
 intro v hv;rw[number_eqP hT h];cases t with
 |nil=>simp only[num1,run,zo]at hv;subst hv;rfl
 |cons x r=>
  simp only[num1,run]at hv⊢;cases hs:x.kind==3 with
  |true=>
   simp only[hs,Bool.true_and]at hv;simp only[zc,bg];cases h0:x.number==0 with
   |true=>
    simp only[h0,Bool.not_true,zd,zo]at hv;subst hv;simp only[zc];rw[bck hT h,gH h];rfl
   |false=>
    simp only[h0,Bool.not_false,zc]at hv;simp only[zd];exact hy x.number r ((List.suffix_cons x r).trans h) v hv
  |false=>simp only[hs,Bool.false_and,zd,zo]at hv;subst hv;rfl
theorem Im.bd{mk':γ→LQueryparserParser→δ}{o:Option (Except Int β)}{p:PT α}{k:β→Option (Except Int δ)}{g:α→PT γ}(h:Im T sz mk o (p.run t))(ht:t<:+T)(hg:∀a r,r<:+T→r.length≤t.length→p.run t=some (.ok (a,r))→Im T sz mk' (k (mk a (stt T sz r))) ((g a).run r)):Im T sz mk' (bg o k) ((p.bd g).run t):=by
 intro v hv;rw[run_bd]at hv;cases hp:p.run t with
 |none=>rw[hp]at hv;cases hv
 |some s=>
  rw[hp]at hv;rw[h s hp];have hs:=run_suf p t hp;cases s with
  |error r=>simp only[zo]at hv;subst hv;rfl
  |ok w=>exact hg w.1 w.2 (hs.trans ht) hs.length_le hp v hv
theorem Im.look(c:Int)(h0:((0:Int)==c)=false){A B:Option (Except Int β)}{y:Tok→PT α}{n:PT α}(hy:∀x r,t=x::r→(x.kind==c)=true→Im T sz mk A ((y x).run r))(hn:Im T sz mk B (n.run t)):Im T sz mk (cond ((hd sz t).kind==c) A B) ((PT.acc (fun x=>x.kind==c) y n).run t):=by
 cases t with
 |nil=>simp only[hd,h0,zd];exact hn
 |cons x r=>
  simp only[hd,run];cases hs:x.kind==c with
  |true=>exact hy x r rfl hs
  |false=>exact hn
def ImR{α β σ:Type}(T:List Tok)(sz:Int)(mk:α→LQueryparserParser→β)(o:Option (Flow σ (Except Int β)))(c:Option (Res α)):Prop:=∀s,c=some s→o=some (.ret (cv T sz mk s))
theorem ImR.rt{σ:Type}{a:α}{b:β}(h:b=mk a (stt T sz t)):ImR (σ:=σ) T sz mk (some (.ret (.ok b))) ((PT.rt a).run t):=fun s hs=>by
 simp only[run,zo]at hs;subst hs;rw[h];rfl
theorem ImR.bd{σ:Type}{mk':γ→LQueryparserParser→δ}{o:Option (Except Int β)}{p:PT α}{k:β→Option (Flow σ (Except Int δ))}{g:α→PT γ}(h:Im T sz mk o (p.run t))(ht:t<:+T)(hg:∀a r,r<:+T→ImR T sz mk' (k (mk a (stt T sz r))) ((g a).run r)):ImR T sz mk' (cZ o k) ((p.bd g).run t):=by
 intro v hv;rw[run_bd]at hv;cases hp:p.run t with
 |none=>rw[hp]at hv;cases hv
 |some s=>
  rw[hp]at hv;rw[h s hp];have hs:=run_suf p t hp;cases s with
  |error r=>simp only[zo]at hv;subst hv;rfl
  |ok w=>exact hg w.1 w.2 (hs.trans ht) v hv
include hT in
theorem ImR.eX{σ:Type}{k:LQueryparserParser→Option (Flow σ (Except Int β))}{y:PT α}(h:t<:+T)(hy:∀r,r<:+T→ImR T sz mk (k (stt T sz r)) (y.run r)):ImR T sz mk (cZ (aG (stt T sz t) s) k) ((ex s y).run t):=by
 intro v hv;rw[expect_eq hT h];cases t with
 |nil=>simp only[ex,kw,run,zo]at hv;subst hv;rfl
 |cons x r=>
  simp only[ex,kw,run]at hv⊢;cases hs:hit s x with
  |true=>rw[hs,zc]at hv;exact hy r ((List.suffix_cons x r).trans h) v hv
  |false=>rw[hs,zd]at hv;simp only[zo]at hv;subst hv;rfl
include hT in
theorem Im.words(L:List (List UInt8)){F:List UInt8→Bool×LQueryparserParser→Option (Flow LQueryparserParser (Except Int β))}{g:LQueryparserParser→Option (Except Int β)}{Y:List UInt8→PT α}{n:PT α}(h:t<:+T)(hL:L.length≤100)
  (hF:∀x r,r<:+T→ImR T sz mk (F x (true,stt T sz r)) ((Y x).run r)) (hn:Im T sz mk (g (stt T sz t)) (n.run t)):
  Im T sz mk (ag (iq (L.length:Int)) fun(m:Nat)=>ag (aY (σ:=LQueryparserParser) (ρ:=(Except Int β)) (fun(j:Nat) (_:Nat) (s1:LQueryparserParser)=>ag (bl L (j:Int)) fun(x:List UInt8)=>ag (al s1 x) fun y=>cond y.1 (F x y) (some (.next y.2))) 0 (List.range m) (stt T sz t)) fun fl=>fl.thenR g)
   ((L.foldr (fun s n=>kw s (Y s) n) n).run t):=by
 rw[show iq (L.length:Int)=some L.length from by unfold iq;rw[zp (by omega)];rfl];simp only[ag]
 have key:∀(l:List (List UInt8)) (xs:List Nat) (j:Nat),xs.length=l.length→(∀i x,l[i]? =some x→L[j+i]? =some x)→∀v,(l.foldr (fun s n=>kw s (Y s) n) n).run t=some v→
   ag (aY (σ:=LQueryparserParser) (ρ:=(Except Int β)) (fun(j:Nat) (_:Nat) (s1:LQueryparserParser)=>ag (bl L (j:Int)) fun(x:List UInt8)=>ag (al s1 x) fun y=>cond y.1 (F x y) (some (.next y.2))) j xs (stt T sz t)) (fun fl=>fl.thenR g)=some (cv T sz mk v):=by
  intro l;induction l with
  |nil=>
   intro xs j hx _ v hv;obtain rfl:xs=[]:=List.eq_nil_of_length_eq_zero hx;exact hn v hv
  |cons w l ih=>
   intro xs j hx hl v hv
   obtain⟨i,xs,rfl⟩:∃i ys,xs=i::ys:=by cases xs with|nil=>simp at hx|cons i ys=>exact⟨i,ys,rfl⟩
   have hg:bl L (j:Int)=some w:=eg (by simpa using hl 0 w rfl);rw[aY];simp only[hg,ag];rw[gB hT h];simp only[List.foldr_cons,kw]at hv
   have next:(l.foldr (fun s n=>PT.acc (hit s) (fun _=>Y s) n) n).run t=some v→ag (aY (σ:=LQueryparserParser) (ρ:=(Except Int β)) (fun(j:Nat) (_:Nat) (s1:LQueryparserParser)=>ag (bl L (j:Int)) fun(x:List UInt8)=>ag (al s1 x) fun y=>cond y.1 (F x y) (some (.next y.2))) (j+1) xs (stt T sz t)) (fun fl=>fl.thenR g)=some (cv T sz mk v):=
    ih xs (j+1) (by simpa using hx) (fun i x hi=>by have:=hl (i+1) x (by simpa using hi);rwa [show j+1+i=j+(i+1)from by omega]) v
   cases t with
   |nil=>exact next (by simpa only[run]using hv)
   |cons x r=>
    simp only[run]at hv;cases hs:hit w x with
    |true=>
     rw[hs,zc]at hv;simp only[hs,zc];rw[hF w r ((List.suffix_cons x r).trans h) v hv];rfl
    |false=>
     rw[hs,zd]at hv;simp only[hs,zd];exact next hv
 exact key L (List.range L.length) 0 (by simp) (fun i x hi=>by simpa using hi)
end
end
section
variable{T:List Tok}{sz:Int}(hT:T.length≤4000)
theorem bindX_id{α:Type}(o:Option (Except Int α)):bg o (fun x=>some (Except.ok x))=o:=by
 rcases o with _|e|a<;>rfl
theorem joinX{α β:Type}{σ:Type}(o:Option (Except Int α))(k:α→Option (Flow σ (Except Int β)))(g:σ→Option (Except Int β)):(ag (cZ o k) fun fl=>fl.thenR g)=bg o fun a=>ag (k a) fun fl=>fl.thenR g:=by
 rcases o with _|e|a<;>rfl
theorem joinN{β:Type}{σ:Type}(v:σ)(g:σ→Option (Except Int β)):(ag (some (Flow.next (ρ:=Except Int β) v)) fun fl=>fl.thenR g)=g v:=rfl
include hT in
theorem value_im{t:List Tok}(h:t<:+T):Im T sz (fun a p=>(a,p)) (dt (stt T sz t)) (litT.run t):=by
 unfold dt litT;rw[jM h,bPs];refine Im.kC hT h (fun r hr _=>Im.rt rfl) ?_;refine Im.kC hT h (fun r hr _=>Im.rt rfl) ?_;refine Im.kC hT h (fun r hr _=>Im.rt rfl) ?_;refine Im.kC hT h (fun r hr _=>?_) ?_
 ·exact Im.n1 hT hr fun a r' hr'=>Im.rt rfl
 ·refine Im.look 4 rfl (fun x r e h6=>?_) ?_
  ·subst e;exact Im.rt (congrArg (Prod.mk _) (adv hT h))
  ·exact Im.nU hT h fun a r hr=>Im.rt rfl
include hT in
theorem exprO_im(hk:∀x∈T,TkOk x){f g:LQueryparserParser→Option (Except Int (LExpr×LQueryparserParser))}{B:PT LExpr}{t:List Tok}(h:t<:+T)(hB:∀r,r<:+T→Im T sz (fun a p=>(a,p)) (g (stt T sz r)) (B.run r)):Im T sz (fun a p=>(a,p)) (dz f g (stt T sz t)) ((gV B).run t):=by
 unfold dz gV;rw[jM h,bPs];refine Im.look 1 rfl (fun x r e h6=>?_) ?_
 ·subst e;exact Im.rt (congrArg (Prod.mk _) (adv hT h))
 refine Im.look 6 rfl (fun x r e h6=>?_) ?_
 ·subst e
  obtain⟨c,hc⟩:=hk x (h.subset (by simp)) (by simpa using h6)
  rw[show idx1 ([63,105,98,116]:List UInt8) (hd sz (x::r)).text=some (kG x.text)from by simp only[hd,kG,hc,idx1]];exact Im.rt (congrArg (Prod.mk _) (adv hT h))
 refine Im.kC hT h (fun r hr _=>?_) ?_
 ·exact Im.iD hT hr fun a r' hr' _=>Im.rt rfl
 refine Im.kC hT h (fun r hr _=>?_) ?_
 ·intro v hv;rw[show(fun x48:LExpr×LQueryparserParser=>some (Except.ok (ε:=Int) (x48.1,x48.2)))=fun x=>some (Except.ok x)from rfl,bindX_id];exact hB r hr v hv
 ·exact Im.bd (value_im hT h) h fun a r hr _ _=>Im.rt rfl
include hT in
theorem bracketO_im{f g:LQueryparserParser→Option (Except Int (LExpr×LQueryparserParser))}{E:PT LExpr}(hE:∀r,r<:+T→Im T sz (fun a p=>(a,p)) (f (stt T sz r)) (E.run r)){t:List Tok}(h:t<:+T):Im T sz (fun a p=>(a,p)) (cX f g (stt T sz t)) ((eB E).run t):=by
 unfold cX eB;refine Im.words hT (Y:=fun s=>E.bd fun e=>ex [41] (.rt (opE s [e]))) [[110,111,116],[108,101,110,103,116,104]] h (by decide) (fun x r hr=>?_) ?_
 ·exact ImR.bd (hE r hr) hr fun a r' hr'=>ImR.eX hT hr' fun r2 hr2=>ImR.rt rfl
 refine Im.kC hT h (fun r hr _=>?_) ?_
 ·refine Im.bd (hE r hr) hr fun a r hr _ _=>Im.eX hT hr fun r hr=>Im.bd (hE r hr) hr fun b r hr _ _=>Im.eX hT hr fun r hr=>Im.bd (hE r hr) hr fun c r hr _ _=>Im.eX hT hr fun r hr=>Im.rt rfl
 refine Im.bd (hE t h) h fun a r hr _ _=>?_
 refine Im.kC hT hr (fun r hr _=>?_) ?_
 ·exact Im.eX hT hr fun r hr=>Im.eX hT hr fun r hr=>Im.rt rfl
 ·refine Im.words hT (Y:=fun s=>E.bd fun b=>ex [41] (.rt (opE s [a,b]))) _ hr (by decide) (fun x r hr=>?_) ?_
  ·exact ImR.bd (hE r hr) hr fun a r' hr'=>ImR.eX hT hr' fun r2 hr2=>ImR.rt rfl
  ·exact Im.fl hr
include hT in
theorem eb_im(hk:∀x∈T,TkOk x):∀m:Nat,(∀t,t<:+T→Im T sz (fun a p=>(a,p)) (bZ m (stt T sz t)) ((eT m).run t))∧∀t,t<:+T→Im T sz (fun a p=>(a,p)) (cd m (stt T sz t)) ((bT m).run t)
 |0=>⟨fun t _ s h=>by simp[eT,run]at h,fun t _ s h=>by simp[bT,run]at h⟩
 |m+1=>by
  obtain⟨h1,h2⟩:=eb_im hk m
  refine⟨fun t ht=>?_,fun t ht=>?_⟩
  ·rw[bZ,eT];exact exprO_im hT hk ht h2
  ·rw[cd,bT];exact bracketO_im hT h1 ht
include hT in
theorem lc(hk:∀x∈T,TkOk x){t:List Tok}(h:t<:+T):Im T sz (fun a p=>(a,p)) (cq (stt T sz t)) (eM.run t):=by
 intro s hs;refine jN cg fun m hm=>?_
 have hl:=h.length_le
 obtain⟨s',h1,h2⟩:=eM_st2 (N:=t.length) (by omega) hm t (Nat.le_refl _)
 rw[hs,zo]at h1;subst h1
 exact((eb_im hT hk m).1 t h) s h2
def qsz(q:LQuery):Nat:=q.names.length+q.exprs.length+q.aggregates.length+q.descending.length
def Qok(q:LQuery)(n:Nat):Prop:=qsz q+2*n≤10000
theorem app_set{α:Type}{b:Nat}{l:List α}{z:α}{β:Type}(k:List α→Option β)(hb:b≤1000)(h:l.length≤10000)(x:α):(ag (dY b l [z]) fun y=>ag (bl y (l.length:Int)) fun _=>dv (y.set ((l.length:Int).toNat) x) k)=k (l++[x]):=by
 have h1:dY b l [z]=some (l++[z]):=by
  unfold dY;rw[zp ⟨by have:(l.length+[z].length)*b≤10001*1000:=Nat.mul_le_mul (by simpa using h) hb;omega,by simp[maxLen];omega⟩]
 rw[h1,bPs,eg (x:=z) (by simp),bPs];simp[dv]
theorem ft{α:Type}{b:Nat}{l:List α}{β:Type}(k:List α→Option β)(hb:b≤1000)(h:l.length≤10000)(x:α):ag (dY b l [x]) k=k (l++[x]):=by
 have h1:dY b l [x]=some (l++[x]):=by
  unfold dY;rw[zp ⟨by have:(l.length+[x].length)*b≤10001*1000:=Nat.mul_le_mul (by simpa using h) hb;omega,by simp[maxLen];omega⟩]
 rw[h1,bPs]
include hT in
theorem named_im(hk:∀x∈T,TkOk x){q:LQuery}{t:List Tok}(h:t<:+T)(hq:Qok q t.length):Im T sz (fun a p=>(p,a)) (cI (stt T sz t) q) ((eA eM q).run t):=by
 unfold cI eA;unfold Qok qsz at hq;refine Im.bd (lc hT hk h) h fun e r hr _ _=>?_
 rw[app_set _ (by decide) (by omega)];refine Im.eX hT hr fun r hr=>Im.iD hT hr fun s r hr _=>?_
 rw[ft _ (by decide) (by omega)];exact Im.rt rfl
include hT in
theorem sort_im(hk:∀x∈T,TkOk x){q:LQuery}{t:List Tok}(h:t<:+T)(hq:Qok q t.length):Im T sz (fun a p=>(p,a)) (ce (stt T sz t) q) ((gD eM q).run t):=by
 unfold ce gD;unfold Qok qsz at hq;refine Im.bd (lc hT hk h) h fun e r hr _ _=>?_
 rw[app_set _ (by decide) (by omega)];refine Im.kW (n:= .rt _) (y:= .rt _) hT hr (fun r hr _=>?_) ?_
 ·rw[ft _ (by decide) (by omega)];exact Im.rt rfl
 ·rw[ft _ (by decide) (by omega)];exact Im.rt rfl
include hT in
theorem agg_im(hk:∀x∈T,TkOk x){q:LQuery}{t:List Tok}(h:t<:+T)(hq:Qok q t.length):Im T sz (fun a p=>(p,a)) (cb (stt T sz t) q) ((gc eM q).run t):=by
 unfold cb gc;unfold Qok qsz at hq;refine Im.iD hT h fun f r hr _=>Im.eX hT hr fun r hr=>?_
 have fin:∀l r,r<:+T→Im T sz (fun a p=>(p,a)) (bg (aG (stt T sz r) ([97,115]:List UInt8)) fun x18=>bg (bh x18) fun x20=>ag (dY 56 q.aggregates ([(LAggregateCall.mk x20.1 f l)]:List LAggregateCall)) fun(x29:List LAggregateCall)=>
   some (.ok (x20.2,(LQuery.mk q.kind q.table q.names q.exprs x29 q.descending q.count q.offset q.inputs))))
   ((ex [97,115] (idt fun s=>.rt (LQuery.mk q.kind q.table q.names q.exprs (q.aggregates++[LAggregateCall.mk s f l]) q.descending q.count q.offset q.inputs))).run r):=by
  intro l r hr;refine Im.eX hT hr fun r hr=>Im.iD hT hr fun s r hr _=>?_
  rw[ft _ (by decide) (by omega)];exact Im.rt rfl
 refine Im.kW hT (n:=PT.bd _ _) (y:=PT.bd _ _) hr (fun r hr _=>?_) ?_
 ·exact fin [] r hr
 ·simp only[Bool.not_false,zc];rw[joinX,bd_bd];refine Im.bd (lc hT hk hr) hr fun e r hr _ _=>?_
  rw[joinX];exact Im.eX hT hr fun r hr=>fin [e] r hr
theorem eT_con(m:Nat):(eT m).Con:=by
 cases m with
 |zero=>rw[eT];trivial
 |succ m=>rw[eT];exact trivial
theorem All.eX{α:Type}{φ:α→Prop}{s:List UInt8}{y:PT α}(h:All φ y):All φ (ex s y):=⟨fun _=>h,trivial⟩
theorem All.iD{α:Type}{φ:α→Prop}{y:List UInt8→PT α}(h:∀s,All φ (y s)):All φ (idt y):=⟨fun _=>h _,trivial⟩
theorem named_ok{q q':LQuery}{t r:List Tok}(h:(eA eM q).run t=some (.ok (q',r))):qsz q'≤qsz q+2∧r.length<t.length:=
 ⟨All.run (φ:=fun q'=>qsz q'≤qsz q+2) (All.bd (fun e=>All.eX (All.iD fun s=>by simp[All,qsz,LQuery.names,LQuery.exprs,LQuery.aggregates,LQuery.descending];omega)) eM) h,Con.lt (Con.bd (eT_con _)) h⟩
theorem sort_ok{q q':LQuery}{t r:List Tok}(h:(gD eM q).run t=some (.ok (q',r))):qsz q'≤qsz q+2∧r.length<t.length:=
 ⟨All.run (φ:=fun q'=>qsz q'≤qsz q+2) (All.bd (fun e=>All.bd (fun d=>by simp[All,qsz,LQuery.names,LQuery.exprs,LQuery.aggregates,LQuery.descending];omega) _) eM) h,Con.lt (Con.bd (eT_con _)) h⟩
theorem agg_ok{q q':LQuery}{t r:List Tok}(h:(gc eM q).run t=some (.ok (q',r))):qsz q'≤qsz q+2∧r.length<t.length:=
 ⟨All.run (φ:=fun q'=>qsz q'≤qsz q+2) (All.iD fun f=>All.eX (All.bd (fun l=>All.eX (All.iD fun s=>by simp[All,qsz,LQuery.names,LQuery.exprs,LQuery.aggregates,LQuery.descending];omega)) _)) h,Con.lt (show Con (idt _)from trivial) h⟩
noncomputable abbrev cstep(one:LQueryparserParser→LQuery→Option (Except Int (LQueryparserParser×LQuery))):LQueryparserParser×LQuery→Option (Flow (LQueryparserParser×LQuery) (Except Int (LQueryparserParser×LQuery))):=fun(s1:LQueryparserParser×LQuery)=>
  ag (al s1.1 ([44]:List UInt8)) fun x7=>
  cond x7.1
   (cZ (one x7.2 s1.2) fun x9=>
   some (.next (x9.1,x9.2)))
   (some (.brk (x7.2,s1.2)))
section
variable{one:LQueryparserParser→LQuery→Option (Except Int (LQueryparserParser×LQuery))}{oneT:LQuery→PT LQuery}(h1:∀t q,t<:+T→Qok q t.length→Im T sz (fun a p=>(p,a)) (one (stt T sz t) q) ((oneT q).run t))
 (h2:∀(q:LQuery) (t:List Tok) (q':LQuery) (r:List Tok),(oneT q).run t=some (.ok (q',r))→qsz q'≤qsz q+2∧r.length<t.length)
include hT h1 h2
theorem commas_im:∀(n:Nat) (q:LQuery) (t:List Tok),t<:+T→Qok q t.length→∀s,(commas oneT n q).run t=some s→dJ (cstep one) (stt T sz t,q)=some (match s with| .ok (q',r)=>.next (stt T sz r,q')| .error r=>.ret (.error (off sz r)))
 |0,q,t,_,_,s,h=>by simp[commas,run]at h
 |n+1,q,[],ht,hq,s,h=>by
  simp only[commas,kw,run,zo]at h;subst h;refine bM (fl:= .brk (stt T sz [],q)) ?_ rfl;show ag (al (stt T sz []) _) _=_;rw[gB hT ht];rfl
 |n+1,q,x::r,ht,hq,s,h=>by
  simp only[commas,kw,run]at h;have hr:=(List.suffix_cons x r).trans ht;cases hs:hit [44] x with
  |false=>
   simp only[hs,zd,run,zo]at h;subst h;refine bM (fl:= .brk (stt T sz (x::r),q)) ?_ rfl;show ag (al (stt T sz (x::r)) _) _=_;rw[gB hT ht];simp only[hs,zd];rfl
  |true=>
   simp only[hs,zc]at h;rw[run_bd]at h;have hq1:Qok q r.length:=by unfold Qok at hq⊢;simp only[List.length_cons]at hq;omega
   cases ho:(oneT q).run r with
   |none=>rw[ho]at h;cases h
   |some w=>
    have hi:=h1 r q hr hq1 w ho;rw[ho]at h;cases w with
    |error e=>
     simp only[zo]at h;subst h;refine bM (fl:= .ret (.error (off sz e))) ?_ rfl;show ag (al (stt T sz (x::r)) _) _=_;rw[gB hT ht];simp only[hs,zc,ag];rw[hi];rfl
    |ok w=>
     obtain⟨q',r'⟩:=w
     have h3:=h2 q r q' r' ho;have hr':r'<:+T:=(run_suf (oneT q) r ho).trans hr;refine bM (fl:= .next (stt T sz r',q')) ?_ (commas_im n q' r' hr' (by unfold Qok at hq1⊢;omega) s h);show ag (al (stt T sz (x::r)) _) _=_;rw[gB hT ht];simp only[hs,zc,ag];rw[hi];rfl
theorem lst_im{n:Nat}{q:LQuery}{t:List Tok}(ht:t<:+T)(hq:Qok q t.length):Im T sz (fun a p=>(p,a)) (bg (one (stt T sz t) q) fun x5=>ag (dJ (cstep one) (x5.1,x5.2)) fun fl1=>fl1.thenR fun(s1:LQueryparserParser×LQuery)=>some (.ok (s1.1,s1.2))) ((lst oneT n q).run t):=by
 refine Im.bd (h1 t q ht hq) ht fun q' r hr hl ho s hs=>?_
 have h3:=h2 q t q' r ho;rw[commas_im hT h1 h2 n q' r hr (by unfold Qok at hq⊢;omega) s hs,bPs];rcases s with e|⟨q2,r2⟩<;>rfl
end
end
end
end Go.Proofs.YtibojibdiibdgaaGreatDoor

namespace Go.Ab
noncomputable section
section
variable{P:Program}{Px:PV→Prop}{T:TT}{ops:Array Oper}{rest:List Oper}{o:Oper}{n:Nat}{s s':Nat→PV}{bx:Nat→Option Box}{ob:Nat→Option Obj}{K:PState→Prop}
theorem detS_neI{t t':TypeId}{x:Operand}(ho:o.op= .binOp .neq t x (.const .nilIface) t'){ms:Array (String×TypeId)}(hu:P.underlying t=some (.interface ms)){ev:Operand→PV}{H:Heap}{t1:TypeId}{p:PV}(hx:ev x= .ifc t1 p):DetS P o ev H (.val (.bool true)):=by
 intro C M a w _ he;have hxr:=he x (by rw[ho];simp[Op.operands]);rw[hx]at hxr;simp only[Rep]at hxr
 obtain⟨v,hv,_⟩:=hxr
 refine⟨.bool true,?_,by simp only[Rep]⟩
 have hn:a.eval (.const .nilIface)= .nilIface:=rfl;have hq:(eqGuard .neq t x (.const .nilIface) (a.eval x) .nilIface).run P w= .ok () w:=by rw[hv];simp[eqGuard]
 have h:=gY w 9999 hu true (.inr ⟨rfl,t1,v,hv⟩)
 have h2:(binOp .neq t (a.eval x) .nilIface).run P w= .ok (.bool true) w:=by
  rw[hv]at h⊢;simp only[binOp,Op.equal,Op.maxDepth];rw[Sem.run_bind,h];rfl
 simp only[execOp,ho,hn,Sem.run_bind,hq,Result.andThen_ok,h2];rfl
theorem Ao.neI{t t':TypeId}{x:Operand}{ms:Array (String×TypeId)}(hu:P.underlying t=some (.interface ms)){t1:TypeId}{p:PV}(ho:o.op= .binOp .neq t x (.const .nilIface) t')(hg:aN ops s o=some true)(hx:evS s x= .ifc t1 p)
  (hp:putD n s o.dst (.val (.bool true))=some s') (h:Ao P Px ops rest ⟨n,s',bx,ob⟩ K):Ao P Px ops (o::rest) ⟨n,s,bx,ob⟩ K:=nj hg (detS_neI ho hu hx) hp h
theorem detS_asJ(hT:T.Ok P){t t':TypeId}{x:Operand}(ho:o.op= .typeAssert x t t' true){ti:TInfo}(hti:T.get t'=some ti)(hd:(match ti.desc with| .interface _=>true|_=>false)=false){p:PV}{ev:Operand→PV}{H:Heap}(hx:ev x= .ifc t' p):DetS P o ev H (.tup [p,.val (.bool true)]):=by
 intro C M a w _ he;have hxr:=he x (by rw[ho];simp[Op.operands]);rw[hx]at hxr;simp only[Rep]at hxr
 obtain⟨v,hv,hr⟩:=hxr
 refine⟨.tuple #[v,.bool true],?_,by simp only[Rep,ay];exact⟨_,rfl,v,_,rfl,hr,_,_,rfl,rfl,rfl⟩⟩
 have hm:(Instr.typeAssert (a.eval x) t t' true).run P w= .ok (.tuple #[v,.bool true]) w:=by
  rw[hv];simp only[Instr.typeAssert,Sem.run_bind,(hT.get hti).rund w,Result.andThen_ok];cases hq:ti.desc<;>rw[hq]at hd<;>first|(simp;done)|cases hd
 simp only[execOp,ho,Sem.run_bind,hm,Result.andThen_ok];rfl
theorem Ao.asJ(hT:T.Ok P){t t':TypeId}{x:Operand}{ti:TInfo}{p:PV}(ho:o.op= .typeAssert x t t' true)(hg:aN ops s o=some true)(hti:T.get t'=some ti)(hd:(match ti.desc with| .interface _=>true|_=>false)=false)(hx:evS s x= .ifc t' p)
  (hp:putD n s o.dst (.tup [p,.val (.bool true)])=some s') (h:Ao P Px ops rest ⟨n,s',bx,ob⟩ K):Ao P Px ops (o::rest) ⟨n,s,bx,ob⟩ K:=nj hg (detS_asJ hT ho hti hd hx) hp h
end
section
variable{P:Program}{ops:Array Oper}{rest:List Oper}{o:Oper}{C:Ctx}{M:Mem}{a:Act}{w w':World}{Q:Exit→Act→World→Prop}{n:Nat}{s:Nat→PV}{ds:List Deferred}
theorem jR{id:Nat}{st:PState}(hi:dM P C M st a w)(h:Ao P nPx ops ops.toList st fun st'=>∀M a w,dM P C M st' a w→Q .normal a w):(Code.region id ops false).wp P Q a w:=
 wp_region_list (h C M a w (PanQ.no Q) hi fun _ M' a' w' hk hi'=>hk M' a' w' hi')
theorem kB(hs:gF P ds M n s a)(hg:aN ops s o=some true)(h:o.wp P a w (wpList P ops Q rest) Q):wpList P ops Q (o::rest) a w:=by
 simp only[wpList,ip hs hg,if_true];exact .inl h
theorem dM.init{nt:Nat}{args:List PV}{H:Heap}{vs:Array Value}(hargs:Nat.ble args.length nt=true)(hi:InvH P C M H w)(hd:C.ds=[])(ha:ay P M true args vs.toList):dM P C M ⟨nt,iZ args,H.bx,H.ob⟩ {tmps:=vs++Array.replicate (nt-vs.size) undef,defers:=[]} w:=by
 have hl:=ha.length;have hle:=Nat.le_of_ble_eq_true hargs
 refine⟨⟨?_,hd.symm,fun t=>?_⟩,hi⟩
 ·simp at hl;simp;omega
 ·simp only[iZ];cases hp:args[t]? with
  |none=>simp[Rep]
  |some p=>
   obtain⟨x,hx,hr⟩:=ha.get t p hp
   have hlt:t<vs.size:=by
    have:=(zg.1 hx).1
    simpa using this
   have:(vs++Array.replicate (nt-vs.size) undef)[t]? =some x:=by
    rw[Array.getElem?_append_left hlt,←Array.getElem?_toList];exact hx
   simpa[this]using hr
theorem call_pan{X:PV→Prop}{H:Heap}{ev:Operand→PV}{fx:Operand}{av0:Array Operand}{ts:Array TypeId}{next:Act→World→Prop}(ho:o.op= .call {callee:= .value fx,args:=av0,argTypes:=ts}){g:FuncId}{caps:List PV}
  (hf:ev fx= .fn g caps) (hcall:∀vs w,(callFunc g vs).run P w= .ok (.enter g vs) w) (mb mo:List (Nat×Nat)) (hb1:bc (mb.map Prod.fst)=true) (hb2:bc (mb.map Prod.snd)=true) (ho1:bc (mo.map Prod.fst)=true) (ho2:bc (mo.map Prod.snd)=true)
  {args:List PV} (hle:dQ P (av0.toList.map ev++caps) args) {R:PV→Heap→Prop} (hc:ba P g args ⟨fo H.bx mb,fH H.ob mo⟩ R X) (hi:InvH P C M H w) (he:∀x∈o.op.operands,Rep P M true (ev x) (a.eval x))
  (hn:∀v u H' M' w',R u H'→M.le M'→InvH P C M' ⟨fG H.bx mb H'.bx,gR H.ob mo H'.ob⟩ w'→Rep P M' true u v→next (a.put o.dst v) w')
  (hp:∀v u M' w',X u→M.le M'→InvH P C M' ⟨fG H.bx mb fun _=>none,gR H.ob mo fun _=>none⟩ w'→Rep P M' true u v→Q (.panic [{v:=v,recovered:=false}]) a w'):o.wp P a w next Q:=by
 have hfr:=he fx (by rw[ho];simp[Op.operands,Call.operands]);rw[hf]at hfr;simp only[Rep]at hfr
 obtain⟨cs,hv,hcaps⟩:=hfr
 have hargs:ay P M true (av0.toList.map ev) (av0.map a.eval).toList:=by
  simpa using iv av0.toList fun x hx=>he x (by rw[ho];simp_all[Op.operands,Call.operands])
 have hrep:=hle M _ (hargs.append hcaps)
 have hrun:(execOp a.eval o).run P w= .ok (.enter g (av0.map a.eval++cs)) w:=by
  simp[execOp,ho,resolve,hv,Deferred.ofValue,invoke,hcall]
 unfold Oper.wp;rw[hrun];simp only[Oper.upon]
 refine(hc w M (eE H mb mo) (hi.gl hi.ownMine) _ (hi.enterH hb1 ho1) (by simpa using hrep)).mono ?_
 rintro e w' (⟨v,u,H',M',rfl,hR,hi',hr⟩|⟨ch,rfl,v,u,M',rfl,hx,hi',hr⟩)
 ·exact hn v u H' M' w' hR hi'.ext (hi.afterH hb1 hb2 ho1 ho2 hi') hr
 ·exact hp v u M' w' hx hi'.ext (hi.afterH hb1 hb2 ho1 ho2 hi') hr
end
section
variable{P:Program}{ops:Array Oper}{Q:Exit→Act→List Frame→World→Prop}{i:Nat}{rest:List Nat}{o:Oper}{a:Act}{cs cs':List Frame}{w w':World}{v:Value}
theorem opsR_some(ho:ops[i]? =some o)(hg:o.guard=none)(hr:(execOp a.eval o).run P w= .ok .recover w')(hn:recoverD cs=some (v,cs'))(h:wpOpsS P ops Q rest (a.put o.dst v) cs' w'):wpOpsS P ops Q (i::rest) a cs w:=by
 simp only[wpOpsS,ho,Region.wanted,hg,if_true,hr,hn];exact h
theorem opsR_none(ho:ops[i]? =some o)(hg:o.guard=none)(hr:(execOp a.eval o).run P w= .ok .recover w')(hn:recoverD cs=none)(h:wpOpsS P ops Q rest (a.put o.dst .nilIface) cs w'):wpOpsS P ops Q (i::rest) a cs w:=by
 simp only[wpOpsS,ho,Region.wanted,hg,if_true,hr,hn];exact h
theorem jI(ho:ops[i]? =some o)(hg:o.guard=none)(hr:(execOp a.eval o).run P w= .ok (.value v) w')(h:wpOpsS P ops Q rest (a.put o.dst v) cs w'):wpOpsS P ops Q (i::rest) a cs w:=by
 simp only[wpOpsS,ho,Region.wanted,hg,if_true,hr,Oper.upon];exact h
end
end
end Go.Ab

namespace Go.Proofs.YtibojibdiibdgaaGreatDoor
noncomputable section
open Go Go.Ab
attribute [local irreducible] V Ao Do Gh Eff PH IntKind.wrap
set_option maxRecDepth 4000
theorem catch_idle(cs:Array Value)(w:World):CallsD Tryz.prog 51 cs .returning w fun e u w'=>(∃v,e= .returned v)∧u= .returning∧w'=w:=by
 refine callsD_of_wpS Tryz.func51 rfl fun c₀ fs hu=>?_
 have h18:18≤(cs++Array.replicate (Tryz.f51.ntmps-cs.size) undef).size:=by
  have:Tryz.f51.ntmps=18:=rfl
  rw[this];simp;omega
 generalize(cs++Array.replicate (Tryz.f51.ntmps-cs.size) undef)=t0 at h18⊢
 have hrec:recoverD (c₀::fs)=none:=by simp[recoverD,hu]
 refine wpS_seq (wpS_region ?_);show wpOpsS _ _ _ [0,1] _ _ _;refine opsR_none rfl rfl rfl hrec (jI rfl rfl rfl ?_);show Code.wpS _ _ _ _ _ _;refine wpS_seq (wpS_region ?_);show wpOpsS _ _ _ [0,1] _ _ _
 have hp:∀{a:Act} {t t':TypeId} {x:Operand} {o:Oper} (ho:o.op= .binOp .neq t x (.const .nilIface) t') {ms:Array (String×TypeId)} (hu:Tryz.prog.underlying t=some (.interface ms)) (he:a.eval x= .nilIface),(execOp a.eval o).run Tryz.prog w= .ok (.value (.bool false)) w:=by
  intro a t t' x o ho ms hu he;have h:=gY (P:=Tryz.prog) w 9999 hu false (v:= .nilIface) (.inl ⟨rfl,rfl⟩)
  have h2:(binOp .neq t .nilIface .nilIface).run Tryz.prog w= .ok (.bool false) w:=by
   simp only[binOp,Op.equal,Op.maxDepth];rw[Sem.run_bind,h];rfl
  have hq:(eqGuard .neq t x (.const .nilIface) .nilIface .nilIface).run Tryz.prog w= .ok () w:=by simp[eqGuard]
  have hn:a.eval (.const .nilIface)= .nilIface:=rfl;simp only[execOp,ho,he,hn,Sem.run_bind,hq,Result.andThen_ok,h2];rfl
 refine jI rfl rfl rfl (jI (v:= .bool false) (w':=w) rfl rfl (hp rfl Tryz.underlying20 ?_) ?_)
 ·simp[Act.eval,Act.put,show 5<t0.size by omega,show 2<t0.size by omega,show 6<t0.size by omega]
 show Code.wpS _ _ _ _ _ _;refine wpS_cond (t:=false) ?_ ?_
 ·simp[Act.eval,Act.put,show 5<t0.size by omega,show 2<t0.size by omega,show 7<t0.size by omega]
 ·refine wpS_of_wp (wp_skip ?_)
  refine⟨by simp[Act.put],.returning,?_,.tuple #[],?_,⟨_,rfl⟩,rfl,rfl⟩
  ·rw[←hu]
  ·simp[results]
theorem catch_pan{C:Ctx}{M:Mem}{H:Heap}{w:World}{b4 b5:Nat}{v:Value}{e:Int}(hi:InvH Tryz.prog C M H w)(h4:H.bx 4=some ⟨b4,[ac 0]⟩)(h5:H.bx 5=some ⟨b5,[ac 0]⟩)(hv:Rep Tryz.prog M true (kE 106 e) v){cs:Array Value}(hcs:ay Tryz.prog M true [.box 4 b4 0,.box 5 b5 0] cs.toList):
  CallsD Tryz.prog 51 cs (.panicking [{v:=v,recovered:=false}]) w fun en u' w'=>(∃x,en= .returned x)∧u'= .panicking [{v:=v,recovered:=true}]∧∃M' H',InvH Tryz.prog C M' H' w'∧H'.ob=H.ob∧H'.bx 4=some ⟨b4,[ac e]⟩∧H'.bx 5=some ⟨b5,[ac 22]⟩:=by
 refine callsD_of_wpS Tryz.func51 rfl fun c₀ fs hu=>?_
 have hs:=dM.init (P:=Tryz.prog) (C:=⟨C.w0,C.own0,C.M0,C.gl,[]⟩) (nt:=18) (args:=[.box 4 b4 0,.box 5 b5 0]) (vs:=cs) rfl (hi.reds []) rfl hcs;rw[show Tryz.f51.ntmps=18 from rfl]
 generalize(cs++Array.replicate (18-cs.size) undef)=t0 at hs⊢
 refine wpS_seq (wpS_region ?_);show wpOpsS _ _ _ [0,1] _ _ _;have hrec:recoverD (c₀::fs)=some (v,{c₀ with mode:= .panicking [{v:=v,recovered:=true}]}::fs):=by simp[recoverD,hu]
 refine opsR_some rfl rfl rfl hrec (jI (w':=w) rfl rfl rfl ?_);show Code.wpS _ _ _ _ _ _;have h1:=hs.1.putD (dst:=some 5) (s':=upd (iZ [.box 4 b4 0,.box 5 b5 0]) 5 (kE 106 e)) rfl hv;have h2:=h1.putD (dst:=some 2) (s':=upd (upd (iZ [.box 4 b4 0,.box 5 b5 0]) 5 (kE 106 e)) 2 (kE 106 e)) rfl (h1.2.2 5);have hi2:dM Tryz.prog ⟨C.w0,C.own0,C.M0,C.gl,[]⟩ M ⟨18,upd (upd (iZ [.box 4 b4 0,.box 5 b5 0]) 5 (kE 106 e)) 2 (kE 106 e),H.bx,H.ob⟩ _ w:=⟨h2,hs.2⟩;clear h1 h2 hs;refine wpS_of_wp (wp_seq (jR hi2 ?_));refine ap tk rfl (Ao.neI Tryz.underlying20 rfl rfl rfl rfl ?_);refine af fun M1 a1 w1 hi3=>?_
 show Code.wp _ _ _ _ _;refine wp_cond (t:=true) (by have h7:Rep Tryz.prog M1 true (.val (.bool true)) (a1.eval (.tmp 7)):=hi3.1.ev (.tmp 7);simpa only[Rep]using h7) ?_;simp only[if_true];refine wp_seq (jR hi3 ?_);refine ap tk rfl (Ao.asJ tk rfl rfl rfl rfl rfl rfl (au 3 tk rfl ?_));refine aW tk fun b3=>?_
 refine ao tk ?_;refine ap tk rfl ?_;refine af fun M2 a2 w2 hi4=>?_
 show Code.wp _ _ _ _ _;refine wp_seq (wp_seq (jR hi4 ?_));refine au 2 tk rfl ?_;refine af fun M3 a3 w3 hi5=>?_
 show Code.wp _ _ _ _ _;refine wp_cond (t:=false) (by have h7:Rep Tryz.prog M3 true (.val (.bool false)) (a3.eval (.tmp 14)):=hi5.1.ev (.tmp 14);simpa only[Rep]using h7) ?_;simp only[Bool.false_eq_true,if_false];refine wp_skip ?_;show Code.wp _ _ _ _ _;refine jR hi5 (ap tk rfl (av tk ?_));refine nD tk rfl rfl rfl rfl rfl h4 rfl rfl rfl rfl rfl (nD tk rfl rfl rfl rfl rfl h5 rfl rfl rfl rfl rfl ?_);refine af fun M4 a4 w4 hi6=>?_
 refine⟨hi6.1.2.1,_,rfl,.tuple #[],by simp[results],⟨_,rfl⟩,rfl,M4,_,hi6.2.reds C.ds,rfl,rfl,rfl⟩
def TryR(b_r b_q b_c:Nat)(r:Except Int (LQueryparserParser×LQuery))(u:PV)(H:Heap):Prop:=match r with
 | .ok v=>u= .tup [ac 0,ac 0]∧H=⟨upd (upd (upd (fun _=>none) 1700 (some ⟨b_c,[(.box 1500 b_r 0)]⟩)) 1501 (some ⟨b_q,(aE v.2)⟩)) 1500 (some ⟨b_r,(aa v.1)⟩),fun _=>none⟩
 | .error e=>u= .tup [ac e,ac 22]∧H=Heap.empty
theorem jV(b_r b_q b_c:Nat)(rA:LQueryparserParser)(qA:LQuery)(r:Except Int (LQueryparserParser×LQuery))(H:dD rA qA=some r):
  PH Tryz.prog 20 [.box 1500 b_r 0,.fn 21 [.box 1700 b_c 0,.box 1501 b_q 0]] ⟨upd (upd (upd (fun _=>none) 1700 (some ⟨b_c,[(.box 1500 b_r 0)]⟩)) 1501 (some ⟨b_q,(aE qA)⟩)) 1500 (some ⟨b_r,(aa rA)⟩),fun _=>none⟩ (TryR b_r b_q b_c r):=by
 unfold PH;intro w M own hg vs hi ha;have hcl:=kT b_r b_q b_c rA qA r H
 obtain⟨S0,hS⟩:∃S,S=iZ [.box 1500 b_r 0,.fn 21 [.box 1700 b_c 0,.box 1501 b_q 0]]:=⟨_,rfl⟩
 obtain⟨B0,hB⟩:∃B:Nat→Option Box,B=upd (upd (upd (fun _=>none) 1700 (some ⟨b_c,[(.box 1500 b_r 0)]⟩)) 1501 (some ⟨b_q,(aE qA)⟩)) 1500 (some ⟨b_r,(aa rA)⟩):=⟨_,rfl⟩
 refine calls_of_wp_defers Tryz.func20 rfl ?_;have hs:=dM.init (P:=Tryz.prog) (nt:=9) rfl hi rfl ha;rw[show Tryz.f20.ntmps=9 from rfl]
 generalize(vs++Array.replicate (9-vs.size) undef)=t0 at hs⊢
 replace hs:dM Tryz.prog ⟨w,own,M,hg,[]⟩ M ⟨9,S0,B0,fun _=>none⟩ {tmps:=t0,defers:=[]} w:=by rw[hS,hB];exact hs
 refine wp_seq (jR hs ?_);refine aW tk fun b4=>?_
 refine aW tk fun b5=>?_
 refine af fun M1 a1 w1 hi1=>?_
 replace hi1:dM Tryz.prog ⟨w,own,M,hg,[]⟩ M1 ⟨9,upd (upd S0 4 (.box 4 b4 0)) 5 (.box 5 b5 0),upd (upd B0 4 (some ⟨b4,[ac 0]⟩)) 5 (some ⟨b5,[ac 0]⟩),fun _=>none⟩ a1 w1:=hi1;show Code.wp _ _ _ _ _;refine wp_seq (wp_region_list ?_);show wpList _ _ _ [_,_] _ _;refine kB hi1.1 rfl ?_
 have e1:∀(o:Oper) (ho:o.op= .makeFunc (.func 51) #[] #[.tmp 4,.tmp 5]) (a:Act) (w:World),(execOp a.eval o).run Tryz.prog w= .ok (.value (.func (.func 51) #[] #[a.eval (.tmp 4),a.eval (.tmp 5)])) w:=by
  intro o ho a w;simp[execOp,ho,Instr.makeFunc]
 unfold Oper.wp;rw[e1 _ rfl];simp only[Oper.upon]
 have h6:gF Tryz.prog [] M1 9 (upd (upd (upd S0 4 (.box 4 b4 0)) 5 (.box 5 b5 0)) 6 (.fn 51 [.box 4 b4 0,.box 5 b5 0])) _:=hi1.1.putD (dst:=some 6) (p:= .fn 51 [.box 4 b4 0,.box 5 b5 0]) (v:= .func (.func 51) #[] #[a1.eval (.tmp 4),a1.eval (.tmp 5)]) rfl (by
  have k4:Rep Tryz.prog M1 true (.box 4 b4 0) (a1.eval (.tmp 4)):=hi1.1.ev (.tmp 4);have k5:Rep Tryz.prog M1 true (.box 5 b5 0) (a1.eval (.tmp 5)):=hi1.1.ev (.tmp 5);simp only[Rep,ay]at k4 k5⊢
  exact⟨_,rfl,_,_,rfl,k4,_,_,rfl,k5,rfl⟩)
 refine kB h6 rfl ?_
 have e2:∀(o:Oper) (ho:o.op= .defer {callee:= .value (.tmp 6),args:=#[],argTypes:=#[]}) (cs:Array Value) (a:Act) (w:World) (hf:a.eval (.tmp 6)= .func (.func 51) #[] cs),(execOp a.eval o).run Tryz.prog w= .ok (.defer {target:= .fn (.func 51) cs,args:=#[]}) w:=by
  intro o ho cs a w hf;simp[execOp,ho,resolve,hf,Deferred.ofValue]
 have k6:Rep Tryz.prog M1 true (.fn 51 [.box 4 b4 0,.box 5 b5 0]) _:=h6.ev (.tmp 6);simp only[Rep]at k6
 obtain⟨cs,k7,k8⟩:=k6
 unfold Oper.wp;rw[e2 _ rfl cs _ _ k7];simp only[Oper.upon];have hi2:dM Tryz.prog ⟨w,own,M,hg,[{target:= .fn (.func 51) cs,args:=#[]}]⟩ M1 ⟨9,upd (upd (upd S0 4 (.box 4 b4 0)) 5 (.box 5 b5 0)) 6 (.fn 51 [.box 4 b4 0,.box 5 b5 0]),upd (upd B0 4 (some ⟨b4,[ac 0]⟩)) 5 (some ⟨b5,[ac 0]⟩),fun _=>none⟩ {tmps:=(a1.put (some 6) (.func (.func 51) #[] #[a1.eval (.tmp 4),a1.eval (.tmp 5)])).tmps,defers:=[{target:= .fn (.func 51) cs,args:=#[]}]} w1:=⟨⟨h6.1,rfl,h6.2.2⟩,hi1.2.reds _⟩;rw[show(a1.put (some 6) (.func (.func 51) #[] #[a1.eval (.tmp 4),a1.eval (.tmp 5)])).defers=[]from h6.2.1]
 refine(?_:∀M1 a2 w1,dM Tryz.prog ⟨w,own,M,hg,[{target:= .fn (.func 51) cs,args:=#[]}]⟩ M1 ⟨9,upd (upd (upd S0 4 (.box 4 b4 0)) 5 (.box 5 b5 0)) 6 (.fn 51 [.box 4 b4 0,.box 5 b5 0]),upd (upd B0 4 (some ⟨b4,[ac 0]⟩)) 5 (some ⟨b5,[ac 0]⟩),fun _=>none⟩ a2 w1→ay Tryz.prog M1 true [.box 4 b4 0,.box 5 b5 0] cs.toList→Code.wp Tryz.prog _ _ a2 w1) _ _ _ hi2 k8
 clear hi2 h6 k7 k8 e1 e2 hi1 hs hi ha;intro M1 a2 w1 hi2 k8;refine wp_seq (wp_region_list ?_);show wpList _ _ _ [_,_] _ _;refine kB hi2.1 rfl ?_
 have e3:∀(o:Oper) (ho:o.op= .move (.tmp 1)) (a:Act) (w:World),(execOp a.eval o).run Tryz.prog w= .ok (.value (a.eval (.tmp 1))) w:=by
  intro o ho a w;simp[execOp,ho]
 unfold Oper.wp;rw[e3 _ rfl];simp only[Oper.upon]
 have h7:=hi2.1.putD (dst:=some 7) (s':=upd (upd (upd (upd S0 4 (.box 4 b4 0)) 5 (.box 5 b5 0)) 6 (.fn 51 [.box 4 b4 0,.box 5 b5 0])) 7 (.fn 21 [.box 1700 b_c 0,.box 1501 b_q 0])) rfl (by
  have k1:=hi2.1.ev (.tmp 1);rw[hS]at k1;exact k1)
 generalize ha3:Act.put _ (some 7) _=a3 at h7⊢;refine kB h7 rfl ?_
 have e:(⟨upd (upd (upd (fun _=>none) 1700 (some ⟨b_c,[(.box 1500 b_r 0)]⟩)) 1501 (some ⟨b_q,(aE qA)⟩)) 1500 (some ⟨b_r,(aa rA)⟩),fun _=>none⟩:Heap)=⟨fo (upd (upd B0 4 (some ⟨b4,[ac 0]⟩)) 5 (some ⟨b5,[ac 0]⟩)) [(1500,1500),(1501,1501),(1700,1700)],fH (fun _=>none) []⟩:=by
  rw[hB,aU,aU,aU,be,bf];rfl
 rw[e]at hcl;refine call_pan (H:=⟨upd (upd B0 4 (some ⟨b4,[ac 0]⟩)) 5 (some ⟨b5,[ac 0]⟩),fun _=>none⟩) (ev:=evS _) (fx:= .tmp 7) rfl rfl Tryz.call21 [(1500,1500),(1501,1501),(1700,1700)] [] rfl rfl rfl rfl (dQ.r) hcl hi2.2 (fun x _=>h7.ev x) ?_ ?_
 ·intro v u H' M' w' hR hle hi' hr;cases r with
  |error e=>exact hR.elim
  |ok rv=>
   obtain⟨rfl,rfl⟩:=hR
   have h8:=(h7.mono hle).putD (dst:=some 8) (s':=upd (upd (upd (upd (upd S0 4 (.box 4 b4 0)) 5 (.box 5 b5 0)) 6 (.fn 51 [.box 4 b4 0,.box 5 b5 0])) 7 (.fn 21 [.box 1700 b_c 0,.box 1501 b_q 0])) 8 (.tup [])) rfl hr;have hi3:dM Tryz.prog ⟨w,own,M,hg,[{target:= .fn (.func 51) cs,args:=#[]}]⟩ M' ⟨9,_,_,_⟩ _ w':=⟨h8,hi'⟩;show Code.wp _ _ _ _ _;refine wp_seq (jR hi3 ?_);refine ao tk ?_;refine ao tk ?_;refine af fun M4 a4 w4 hi4=>?_
   show Code.wp _ _ _ _ _;refine wp_ret ?_;show Leaves _ _ _ _ a4.defers .returning w4;rw[show a4.defers=_ from hi4.1.2.1];refine leaves_cons (f:=51) (args:=#[]++cs) (by simp) (Tryz.call51 _ _) ((catch_idle _ w4).mono ?_);rintro e u' w5 ⟨⟨x,rfl⟩,rfl,rfl⟩
   obtain⟨x,h1,h2⟩:=kQ (P:=Tryz.prog) tk (fn:=Tryz.f20) (ps:=[ac 0,ac 0]) rfl ⟨ac 0,_,rfl,⟨_,4,b4,0,_,rfl,rfl,rfl,rfl⟩,ac 0,[],rfl,⟨_,5,b5,0,_,rfl,rfl,rfl,rfl⟩,rfl⟩ hi4
   refine⟨x,h1,x,_,_,M4,rfl,⟨rfl,rfl⟩,(hi4.2.reds []).less ?_ ?_,h2⟩
   ·intro t x hx;simp only[dE]at hx;split at hx
    ·rename_i h;subst h;exact hx
    ·split at hx
     ·rename_i h;subst h;exact hx
     ·split at hx
      ·rename_i h;subst h;exact hx
      ·cases hx
   ·exact fun _ _ h=>by cases h
 ·intro v u M' w' hX hle hi' hr;cases r with
  |ok rv=>exact hX.elim
  |error e=>
   replace hX:u=kE 106 e:=hX;subst hX;show Leaves _ _ _ _ a3.defers (.panicking _) w';rw[show a3.defers=_ from h7.2.1];refine leaves_cons (f:=51) (args:=#[]++cs) (by simp) (Tryz.call51 _ _) ((catch_pan hi' (b4:=b4) (b5:=b5) rfl rfl hr (by simpa using ay.mono hle k8)).mono ?_);rintro en u' w5 ⟨⟨x,rfl⟩,rfl,M5,H5,hi5,_,h4,h5⟩
   have hi6:dM Tryz.prog ⟨w,own,M,hg,[{target:= .fn (.func 51) cs,args:=#[]}]⟩ M5 ⟨9,upd (upd (fun _=>.any) 4 (.box 4 b4 0)) 5 (.box 5 b5 0),H5.bx,H5.ob⟩ a3 w5:=by
    refine⟨⟨h7.1,h7.2.1,fun t=>?_⟩,hi5.reds _⟩
    have k4:Rep Tryz.prog M1 true (.box 4 b4 0) (a3.tmps.getD 4 undef):=h7.2.2 4;have k5:Rep Tryz.prog M1 true (.box 5 b5 0) (a3.tmps.getD 5 undef):=h7.2.2 5;show Rep _ _ _ (upd (upd (fun _=>PV.any) 4 (.box 4 b4 0)) 5 (.box 5 b5 0) t) _;rw[dE,dE];split
    ·rename_i h;subst h;simpa only[Rep]using k5
    ·split
     ·rename_i h;subst h;simpa only[Rep]using k4
     ·simp only[Rep]
   obtain⟨x,h1,h2⟩:=kQ (P:=Tryz.prog) tk (fn:=Tryz.f20) (ps:=[ac e,ac 22]) rfl ⟨ac e,_,rfl,⟨_,4,b4,0,_,rfl,rfl,h4,rfl⟩,ac 22,[],rfl,⟨_,5,b5,0,_,rfl,rfl,h5,rfl⟩,rfl⟩ hi6
   exact⟨x,h1,x,_,_,M5,rfl,⟨rfl,rfl⟩,(hi5.reds []).less (fun _ _ h=>by cases h) (fun _ _ h=>by cases h),h2⟩
def NewR(s:List UInt8)(x:List LLexerToken×Int×Int)(u:PV)(H:Heap):Prop:=
 if x.2.2=0 then∃b,u= .tup [.box 1500 b 0,ac 0,ac 0]∧H=⟨upd (fun _=>none) 22 (some ⟨b,aa ⟨x.1,0,s.length⟩⟩),fun _=>none⟩
 else u= .tup [.val (.pointer none),ac x.2.1,ac x.2.2]∧H=Heap.empty
theorem kv(s:List UInt8)(x:List LLexerToken×Int×Int)(H:cA s=some x):PH Tryz.prog 19 [.str s] Heap.empty (NewR s x):=by
 refine PH.br Tryz.func19 Tryz.ntmps19 ?_;refine aM 3 tk rfl (ah (ae (ap tk rfl (aI Tryz.call8 (dQ.r) (kg s x H) ?_))));refine au 7 tk rfl (af (ah (aM 2 tk rfl ?_)));refine kl rfl (fun h=>?_) (fun h=>?_)
 ·have h0:¬x.2.2=0:=by simpa using h
  refine aM 5 tk rfl (cF tk rfl (ps:=[.val (.pointer none),ac x.2.1,ac x.2.2]) ⟨_,_,rfl,rfl,_,_,rfl,rfl,_,_,rfl,rfl,rfl⟩ (PLe.q rfl) (HSub.empty _) ?_);unfold NewR;rw[zy h0]
  exact⟨rfl,rfl⟩
 ·have h0:x.2.2=0:=by simpa using h
  refine aQ (ah (ae (au 4 tk rfl ?_)));refine nf rfl rfl rfl rfl rfl fun b=>?_
  refine au 3 tk rfl (af (jZ tk rfl (ps:=[.box 22 b 0,ac 0,ac 0]) ⟨_,_,rfl,rfl,_,_,rfl,rfl,_,_,rfl,rfl,rfl⟩ (PLe.of2 (jn.tup (eO.cons (jn.boxT (t':=1500)) (eO.refl _)))) ?_));unfold NewR;rw[zp h0]
  exact⟨b,rfl,rfl⟩
def q0:LQuery:= .mk 0 [] [] [] [] [] 0 0 []
def bY(s:List UInt8):Option (LQuery×Int×Int):=
 ag (cA s) fun x=>
 cond (x.2.2==0)
  (ag (dD ⟨x.1,0,s.length⟩ q0) fun y=>
  some (match y with| .ok v=>(v.2,0,0)| .error e=>(q0,e,22)))
  (some (q0,x.2.1,x.2.2))
theorem giveB_new{bx:Nat→Option Box}{a b:Nat}(h:bx a=none):(fun _=>none)=fo bx [(a,b)]:=by
 funext t;simp only[fo,List.find?_cons,List.find?_nil];split
 ·rename_i p hp;split at hp
  ·cases hp;exact h.symm
  ·cases hp
 ·rfl
theorem iH(s:List UInt8)(r:LQuery×Int×Int)(H:bY s=some r):bI Tryz.prog 7 [.str s] (.tup [.agg (aE r.1),ac r.2.1,ac r.2.2]):=by
 unfold bY at H
 obtain⟨x,hx,H⟩:=ax H
 refine PH.br Tryz.func7 Tryz.ntmps7 ?_;refine ah (ae ?_);refine aW tk fun b2=>?_
 refine au 2 tk rfl (af (ah (ae (ap tk rfl ?_))));refine nr Tryz.call19 [(1500,22)] [] (kv s x hx) ?_ (hin:=by rw[←giveB_new rfl];rfl);intro u H1 hR;unfold NewR at hR;by_cases h0:x.2.2=0
 ·rw[zp h0]at hR
  obtain⟨b,rfl,rfl⟩:=hR
  refine⟨_,rfl,?_⟩
  refine au 4 tk rfl ?_;refine aW tk fun b5=>?_
  refine ao tk ?_;refine au 2 tk rfl (af ?_);refine bD (st':=⟨_,_,upd (upd (upd (fun _=>none) 2 (some ⟨b2,aE q0⟩)) 1500 (some ⟨b,aa ⟨x.1,0,s.length⟩⟩)) 5 (some ⟨b5,[.box 1500 b 0]⟩),fun _=>none⟩) (Gh.le (az _ _) (ab rfl (dQ.r) (ab rfl (dQ.r) (ab rfl ple ar))) aq) ?_;refine ah (aM 2 tk rfl (jS rfl (aQ (ah (ae ?_)))));refine aW tk fun b8=>?_
  refine af ?_;refine bD (st':=⟨_,_,upd (upd (upd (upd (fun _=>none) 2 (some ⟨b2,aE q0⟩)) 1500 (some ⟨b,aa ⟨x.1,0,s.length⟩⟩)) 5 (some ⟨b5,[.box 1500 b 0]⟩)) 8 (some ⟨b8,aE q0⟩),fun _=>none⟩) (Gh.le (az _ _) (ab rfl ple (ab rfl (dQ.r) (ab rfl (dQ.r) (ab rfl (dQ.r) ar)))) aq) ?_;rw[h0]at H
  obtain⟨y,hy,H⟩:=ax H
  have hw:=jV b b8 b5 _ _ _ hy;refine ah (ae (av tk ?_));refine ap tk rfl ?_;refine nr Tryz.call20 [(1500,1500),(8,1501),(5,1700)] [] hw ?_ (hle:=dQ.of2 (eO.cons (jn.of_eq rfl) (eO.cons (jn.fn (eO.cons jn.boxT (eO.cons jn.boxT eO.nil))) eO.nil)));intro u H2 hR2;cases y with
  |ok v=>
   obtain⟨rfl,rfl⟩:=hR2
   obtain rfl:=aF H
   refine⟨_,rfl,?_⟩
   refine au 5 tk rfl (af ?_);refine bD (st':=⟨_,_,upd (upd (fun _=>none) 2 (some ⟨b2,aE q0⟩)) 8 (some ⟨b8,aE v.2⟩),fun _=>none⟩) (Gh.le (az _ _) (ab rfl (dQ.r) (ab rfl (dQ.r) ar)) aq) ?_;refine ah (aM 2 tk rfl (jS rfl (aQ (ah (ae (av tk ?_))))));refine ao tk ?_;refine au 2 tk rfl (af ?_);refine cD tk rfl (ps:=[.agg (aE v.2),ac 0,ac 0]) ⟨_,_,rfl,⟨_,_,_,_,_,rfl,rfl,rfl,rfl⟩,_,_,rfl,rfl,_,_,rfl,rfl,rfl⟩ (PLe.q rfl)
  |error e=>
   obtain⟨rfl,rfl⟩:=hR2
   obtain rfl:=aF H
   refine⟨_,rfl,?_⟩
   refine au 5 tk rfl (af ?_);refine bD (st':=⟨_,_,upd (fun _=>none) 2 (some ⟨b2,aE q0⟩),fun _=>none⟩) (Gh.le (az _ _) (ab rfl (dQ.r) ar) aq) ?_;refine ah (aM 2 tk rfl (hJ rfl (ah (ae (au 3 tk rfl (ao tk ?_))))));refine au 2 tk rfl (af ?_);refine cD tk rfl (ps:=[.agg [ac 0,.str [],.val (.slice none 0 0),.val (.slice none 0 0),.val (.slice none 0 0),.val (.slice none 0 0),ac 0,ac 0,.val (.slice none 0 0)],ac e,ac 22]) ⟨_,_,rfl,⟨_,_,_,_,_,rfl,rfl,rfl,rfl⟩,_,_,rfl,rfl,_,_,rfl,rfl,rfl⟩ ple1
 ·rw[zy h0]at hR
  obtain⟨rfl,rfl⟩:=hR
  refine⟨_,rfl,?_⟩
  refine au 4 tk rfl ?_;refine aW tk fun b5=>?_
  refine ao tk ?_;refine au 2 tk rfl (af ?_);refine bD (st':=⟨_,_,upd (fun _=>none) 2 (some ⟨b2,aE q0⟩),fun _=>none⟩) (Gh.le (az _ _) (ab rfl ple ar) aq) ?_;have h1:(x.2.2==0)=false:=by simpa using h0
  rw[h1]at H;obtain rfl:=aF H;refine ah (aM 2 tk rfl ?_);refine kl rfl (fun h=>?_) (fun h=>absurd (by simpa using h) h0);refine ah (ae (au 3 tk rfl (ao tk ?_)));refine au 2 tk rfl (af ?_);refine cD tk rfl (ps:=[.agg [ac 0,.str [],.val (.slice none 0 0),.val (.slice none 0 0),.val (.slice none 0 0),.val (.slice none 0 0),ac 0,ac 0,.val (.slice none 0 0)],ac x.2.1,ac x.2.2]) ⟨_,_,rfl,⟨_,_,_,_,_,rfl,rfl,rfl,rfl⟩,_,_,rfl,rfl,_,_,rfl,rfl,rfl⟩ ple1
end
end Go.Proofs.YtibojibdiibdgaaGreatDoor

namespace Go.Proofs.YtibojibdiibdgaaGreatDoor
noncomputable section
open Go Go.Ab PT
section
variable{T:List Tok}{sz:Int}(hT:T.length≤4000)(hk:∀x∈T,TkOk x)
theorem mt{α β:Type}(o:Option (Except Int (α×β))):(bg o fun x=>some (.ok (x.1,x.2)))=o:=bindX_id o
theorem Qok.mono{q:LQuery}{n m:Nat}(h:Qok q n)(hm:m≤n):Qok q m:=by unfold Qok at h⊢;omega
theorem qmk_ok(k:Int)(q:LQuery){n:Nat}(h:n≤4000):Qok (qmk k q) n:=by
 simp[Qok,qsz,LQuery.names,LQuery.exprs,LQuery.aggregates,LQuery.descending];omega
theorem Im.flip{α:Type}{o:Option (Except Int (LQueryparserParser×α))}{c:Option (Res α)}(h:Im T sz (fun a p=>(p,a)) o c):Im T sz (fun a p=>(a,p)) (bg o fun x=>some (.ok (x.2,x.1))) c:=fun s hs=>by
 rw[h s hs];rcases s with e|⟨a,r⟩<;>rfl
include hT hk
theorem list134_im{q:LQuery}{t:List Tok}(h:t<:+T)(hq:Qok q t.length):Im T sz (fun a p=>(p,a)) (cP (stt T sz t) q) ((lst (eA eM) cg q).run t):=by
 unfold cP;refine lst_im (one:=cx) hT (fun t q ht hq=>?_) (fun q t q' r=>named_ok) h hq;unfold cx;rw[mt];exact named_im hT hk ht hq
theorem list87_im{q:LQuery}{t:List Tok}(h:t<:+T)(hq:Qok q t.length):Im T sz (fun a p=>(p,a)) (cV (stt T sz t) q) ((lst (eA eM) cg q).run t):=by
 unfold cV;refine lst_im (one:=cu) hT (fun t q ht hq=>?_) (fun q t q' r=>named_ok) h hq;unfold cu;rw[mt];exact named_im hT hk ht hq
theorem list92_im{q:LQuery}{t:List Tok}(h:t<:+T)(hq:Qok q t.length):Im T sz (fun a p=>(p,a)) (cW (stt T sz t) q) ((lst (gD eM) cg q).run t):=by
 unfold cW;exact lst_im (one:=ce) hT (fun t q ht hq=>sort_im hT hk ht hq) (fun q t q' r=>sort_ok) h hq
theorem list135_im{q:LQuery}{t:List Tok}(h:t<:+T)(hq:Qok q t.length):Im T sz (fun a p=>(p,a)) (cO (stt T sz t) q) ((lst (gc eM) cg q).run t):=by
 unfold cO;exact lst_im (one:=cb) hT (fun t q ht hq=>agg_im hT hk ht hq) (fun q t q' r=>agg_ok) h hq
omit hT hk in
theorem lst_qok{oneT:LQuery→PT LQuery}(h2:∀(q:LQuery) (t:List Tok) (q':LQuery) (r:List Tok),(oneT q).run t=some (.ok (q',r))→qsz q'≤qsz q+2∧r.length<t.length):∀(n:Nat) (q:LQuery) (t:List Tok),Qok q t.length→∀q' r,(commas oneT n q).run t=some (.ok (q',r))→Qok q' r.length
 |0,q,t,_,q',r,h=>by simp[commas,run]at h
 |n+1,q,[],hq,q',r,h=>by
  simp only[commas,kw,run,zo,Except.ok.injEq,Prod.mk.injEq]at h;rw[←h.1,←h.2];exact hq
 |n+1,q,x::t,hq,q',r,h=>by
  simp only[commas,kw,run]at h;cases hs:hit [44] x with
  |false=>simp only[hs,zd,zo,Except.ok.injEq,Prod.mk.injEq]at h;rw[←h.1,←h.2];exact hq
  |true=>
   simp only[hs,zc]at h;rw[run_bd]at h;cases ho:(oneT q).run t with
   |none=>rw[ho]at h;cases h
   |some w=>
    rw[ho]at h;cases w with
    |error e=>simp at h
    |ok w=>
     have h3:=h2 q t w.1 w.2 ho;exact lst_qok h2 n w.1 w.2 (by unfold Qok at hq⊢;simp only[List.length_cons]at hq;omega) q' r h
omit hT hk in
theorem lst_qok1{oneT:LQuery→PT LQuery}(h2:∀(q:LQuery) (t:List Tok) (q':LQuery) (r:List Tok),(oneT q).run t=some (.ok (q',r))→qsz q'≤qsz q+2∧r.length<t.length){n:Nat}{q:LQuery}{t:List Tok}(hq:Qok q t.length){q' r}(h:(lst oneT n q).run t=some (.ok (q',r))):Qok q' r.length:=by
 unfold lst at h;rw[run_bd]at h;cases ho:(oneT q).run t with
 |none=>rw[ho]at h;cases h
 |some w=>
  rw[ho]at h;cases w with
  |error e=>simp at h
  |ok w=>
   have h3:=h2 q t w.1 w.2 ho;exact lst_qok h2 n w.1 w.2 (by unfold Qok at hq⊢;omega) q' r h
theorem group_im{q:LQuery}{t:List Tok}(h:t<:+T)(hq:Qok q t.length):Im T sz (fun a p=>(p,a)) (dh (stt T sz t) q) ((jU eM cg q).run t):=by
 unfold dh jU;refine Im.kW hT h (fun r hr hl=>?_) ?_
 ·simp only[zc];rw[joinX];have hq':Qok q r.length:=by unfold Qok at hq⊢;omega
  refine Im.bd (list134_im hT hk hr hq') hr fun q' r' hr' hl' ho=>?_
  rw[joinN];have hq2:=lst_qok1 (fun q t q' r=>named_ok) hq' ho;refine Im.kN hT hr' (fun r2 hr2 hl2=>?_) ?_
  ·rw[mt];exact list135_im hT hk hr2 (hq2.mono (Nat.le_of_lt hl2))
  ·exact Im.rt rfl
 ·simp only[zd];rw[joinN];refine Im.kN hT h (fun r2 hr2 hl2=>?_) ?_
  ·rw[mt];exact list135_im hT hk hr2 (hq.mono (Nat.le_of_lt hl2))
  ·exact Im.fl h
theorem stageO_im{f1:LQueryparserParser→Option (Except Int (LQuery×LQueryparserParser))}{f2:LQueryparserParser→LQuery→Option (Except Int (LQuery×LQueryparserParser))}{f3:LQueryparserParser→LQuery→Option (Except Int (LQueryparserParser×LQuery))}{f4:LQueryparserParser→Option (Except Int (LQuery×LQueryparserParser))}
  {S2:LQuery→PT LQuery} {I:PT LQuery} (h3:∀t q,t<:+T→q.inputs.length≤10→Im T sz (fun a p=>(p,a)) (f3 (stt T sz t) q) ((S2 q).run t)) (h4:∀t,t<:+T→Im T sz (fun a p=>(a,p)) (f4 (stt T sz t)) (I.run t)) {q:LQuery} {t:List Tok} (h:t<:+T):
  Im T sz (fun a p=>(a,p)) (dp f1 f2 f3 f4 (stt T sz t) q) ((jf eM cg S2 I q).run t):=by
 have hl:∀{r:List Tok},r<:+T→r.length≤4000:=fun hr=>Nat.le_trans hr.length_le hT
 unfold dp jf;refine Im.kC hT h (fun r hr _=>Im.bd (lc hT hk hr) hr fun e r hr _ _=>Im.rt rfl) ?_;refine Im.kC hT h (fun r hr _=>Im.flip (list87_im hT hk hr (qmk_ok 3 q (hl hr)))) ?_;refine Im.kC hT h (fun r hr _=>Im.flip (h3 r _ hr (by simp[LQuery.inputs]))) ?_;refine Im.kC hT h (fun r hr _=>Im.eX hT hr fun r hr=>Im.flip (h3 r _ hr (by simp[LQuery.inputs]))) ?_;refine Im.kC hT h (fun r hr _=>Im.bd (h4 r hr) hr fun e r hr _ _=>?_) ?_
 ·rw[ft _ (by decide) (by simp)];exact Im.rt rfl
 refine Im.kC hT h (fun r hr _=>Im.bd (h4 r hr) hr fun e r hr _ _=>?_) ?_
 ·rw[ft _ (by decide) (by simp)];exact Im.rt rfl
 refine Im.kC hT h (fun r hr _=>Im.flip (group_im hT hk hr (qmk_ok 8 q (hl hr)))) ?_;refine Im.kC hT h (fun r hr _=>Im.flip (list92_im hT hk hr (qmk_ok 9 q (hl hr)))) ?_;refine Im.kC hT h (fun r hr _=>Im.nU hT hr fun c r hr=>Im.kC hT hr (fun r hr _=>Im.n1 hT hr fun o r hr=>Im.rt rfl) (Im.rt rfl)) ?_;exact Im.fl h
theorem secondO_im{f1:LQueryparserParser→Option (Except Int (LQuery×LQueryparserParser))}{f2:LQueryparserParser→LQuery→Option (Except Int (LQuery×LQueryparserParser))}{f3:LQueryparserParser→LQuery→Option (Except Int (LQueryparserParser×LQuery))}{f4:LQueryparserParser→Option (Except Int (LQuery×LQueryparserParser))}
  {I:PT LQuery} (h4:∀t,t<:+T→Im T sz (fun a p=>(a,p)) (f4 (stt T sz t)) (I.run t)) {q:LQuery} (hq:q.inputs.length≤10) {t:List Tok} (h:t<:+T):
  Im T sz (fun a p=>(p,a)) (dc f1 f2 f3 f4 (stt T sz t) q) ((jO eM I q).run t):=by
 unfold dc jO;refine Im.bd (h4 t h) h fun e r hr _ _=>?_
 rw[app_set _ (by decide) (by omega)];exact Im.eX hT hr fun r hr=>Im.bd (lc hT hk hr) hr fun e r hr _ _=>Im.rt rfl
omit hk in
theorem innerO_im{f1:LQueryparserParser→Option (Except Int (LQuery×LQueryparserParser))}{f2:LQueryparserParser→LQuery→Option (Except Int (LQuery×LQueryparserParser))}{f3:LQueryparserParser→LQuery→Option (Except Int (LQueryparserParser×LQuery))}{f4:LQueryparserParser→Option (Except Int (LQuery×LQueryparserParser))}
  {Q:PT LQuery} (h1:∀t,t<:+T→Im T sz (fun a p=>(a,p)) (f1 (stt T sz t)) (Q.run t)) {t:List Tok} (h:t<:+T):
  Im T sz (fun a p=>(a,p)) (dr f1 f2 f3 f4 (stt T sz t)) ((innerB Q).run t):=by
 unfold dr innerB;exact Im.eX hT h fun r hr=>Im.bd (h1 r hr) hr fun e r hr _ _=>Im.eX hT hr fun r hr=>Im.rt rfl
omit hk in
theorem stages_im{f2:LQueryparserParser→LQuery→Option (Except Int (LQuery×LQueryparserParser))}{S:LQuery→PT LQuery}(h2:∀t q,t<:+T→Im T sz (fun a p=>(a,p)) (f2 (stt T sz t) q) ((S q).run t)):∀(n:Nat) (q:LQuery) (t:List Tok),t<:+T→∀s,(dT S n q).run t=some s→
  dJ (σ:=LQueryparserParser×LQuery) (ρ:=(Except Int (LQuery×LQueryparserParser))) (fun(s2:LQueryparserParser×LQuery)=>
   ag (al s2.1 ([124]:List UInt8)) fun x16=>cond x16.1 (cZ (f2 x16.2 s2.2) fun x19=>some (.next (x19.2,x19.1))) (some (.brk (x16.2,s2.2)))) (stt T sz t,q)=some (match s with| .ok (q',r)=>.next (stt T sz r,q')| .error r=>.ret (.error (off sz r)))
 |0,q,t,_,s,h=>by simp[dT,run]at h
 |n+1,q,[],ht,s,h=>by
  simp only[dT,kw,run,zo]at h;subst h;refine bM (fl:= .brk (stt T sz [],q)) ?_ rfl;show ag (al (stt T sz []) _) _=_;rw[gB hT ht];rfl
 |n+1,q,x::r,ht,s,h=>by
  simp only[dT,kw,run]at h;have hr:=(List.suffix_cons x r).trans ht;cases hs:hit [124] x with
  |false=>
   simp only[hs,zd,zo]at h;subst h;refine bM (fl:= .brk (stt T sz (x::r),q)) ?_ rfl;show ag (al (stt T sz (x::r)) _) _=_;rw[gB hT ht];simp only[hs,zd];rfl
  |true=>
   simp only[hs,zc]at h;rw[run_bd]at h;cases ho:(S q).run r with
   |none=>rw[ho]at h;cases h
   |some w=>
    have hi:=h2 r q hr w ho;rw[ho]at h;cases w with
    |error e=>
     simp only[zo]at h;subst h;refine bM (fl:= .ret (.error (off sz e))) ?_ rfl;show ag (al (stt T sz (x::r)) _) _=_;rw[gB hT ht];simp only[hs,zc,ag];rw[hi];rfl
    |ok w=>
     obtain⟨q',r'⟩:=w
     have hr':r'<:+T:=(run_suf (S q) r ho).trans hr;refine bM (fl:= .next (stt T sz r',q')) ?_ (stages_im h2 n q' r' hr' s h);show ag (al (stt T sz (x::r)) _) _=_;rw[gB hT ht];simp only[hs,zc,ag];rw[hi];rfl
omit hk in
theorem queryO_im{f1:LQueryparserParser→Option (Except Int (LQuery×LQueryparserParser))}{f2:LQueryparserParser→LQuery→Option (Except Int (LQuery×LQueryparserParser))}{f3:LQueryparserParser→LQuery→Option (Except Int (LQueryparserParser×LQuery))}{f4:LQueryparserParser→Option (Except Int (LQuery×LQueryparserParser))}
  {Q:PT LQuery} {S:LQuery→PT LQuery} (h1:∀t,t<:+T→Im T sz (fun a p=>(a,p)) (f1 (stt T sz t)) (Q.run t)) (h2:∀t q,t<:+T→Im T sz (fun a p=>(a,p)) (f2 (stt T sz t) q) ((S q).run t)) {n:Nat} {t:List Tok} (h:t<:+T):
  Im T sz (fun a p=>(a,p)) (dq f1 f2 f3 f4 (stt T sz t)) ((queryB Q S n).run t):=by
 unfold dq queryB
 have fin:∀q r,r<:+T→Im T sz (fun a p=>(a,p)) (ag (dJ (σ:=LQueryparserParser×LQuery) (ρ:=(Except Int (LQuery×LQueryparserParser))) (fun(s2:LQueryparserParser×LQuery)=>
   ag (al s2.1 ([124]:List UInt8)) fun x16=>cond x16.1 (cZ (f2 x16.2 s2.2) fun x19=>some (.next (x19.2,x19.1))) (some (.brk (x16.2,s2.2)))) (stt T sz r,q)) fun fl2=>fl2.thenR fun(s2:LQueryparserParser×LQuery)=>some (.ok (s2.2,s2.1))) ((dT S n q).run r):=by
  intro q r hr s hs;rw[stages_im hT h2 n q r hr s hs,bPs];rcases s with e|⟨q',r'⟩<;>rfl
 refine Im.kW (y:=PT.bd (Q.bd fun q=>ex [41] (.rt q)) (dT S n)) (n:=PT.bd _ (dT S n)) hT h (fun r hr _=>?_) ?_
 ·simp only[zc];rw[joinX,bd_bd];refine Im.bd (h1 r hr) hr fun q r hr _ _=>?_
  rw[joinX];exact Im.eX hT hr fun r hr=>fin q r hr
 ·simp only[zd];rw[joinX];refine Im.eX (y:=PT.bd _ _) hT h fun r hr=>?_
  rw[joinX];exact Im.iD (y:=fun s=>PT.bd _ _) hT hr fun s r hr _=>fin _ r hr
theorem q_im:∀m:Nat,(∀t,t<:+T→Im T sz (fun a p=>(a,p)) (bp m (stt T sz t)) ((qT m).run t))∧(∀t q,t<:+T→Im T sz (fun a p=>(a,p)) (bC m (stt T sz t) q) ((sT m q).run t))∧
   (∀t q,t<:+T→q.inputs.length≤10→Im T sz (fun a p=>(p,a)) (bv m (stt T sz t) q) ((s2T m q).run t))∧∀t,t<:+T→Im T sz (fun a p=>(a,p)) (bB m (stt T sz t)) ((iT m).run t)
 |0=>⟨fun t _ s h=>by simp[qT,run]at h,fun t q _ s h=>by simp[sT,run]at h,fun t q _ _ s h=>by simp[s2T,run]at h,fun t _ s h=>by simp[iT,run]at h⟩
 |m+1=>by
  obtain⟨h1,h2,h3,h4⟩:=q_im m
  refine⟨fun t ht=>?_,fun t q ht=>?_,fun t q ht hq=>?_,fun t ht=>?_⟩
  ·rw[bp,qT];exact queryO_im hT h1 h2 ht
  ·rw[bC,sT];exact stageO_im hT hk h3 h4 ht
  ·rw[bv,s2T];exact secondO_im hT hk h4 hq ht
  ·rw[bB,iT];exact innerO_im hT h1 ht
theorem query_im{t:List Tok}(h:t<:+T):Im T sz (fun a p=>(a,p)) (eS (stt T sz t)) (qM.run t):=by
 intro s hs;refine jN cg fun m hm=>?_
 have hl:=h.length_le
 obtain⟨s',h1,h2⟩:=qM_st (N:=t.length) (by omega) hm t (Nat.le_refl _)
 rw[hs,zo]at h1;subst h1
 exact((q_im hT hk m).1 t h) s h2
end
theorem parse1_eq{T:List Tok}(sz:Int)(hT:T.length≤4000)(hk:∀x∈T,TkOk x):∃s,qM.run T=some s∧dD ⟨T,0,sz⟩ q0=some (match s with
  | .ok (q,[])=>.ok (⟨T,(T.length:Int),sz⟩,q)
  | .ok (_,x::_)=>.error x.offset
  | .error r=>.error (off sz r)):=by
 obtain⟨s,h1,_⟩:=qM_st (N:=T.length) hT (Nat.le_refl _) T (Nat.le_refl _)
 refine⟨s,h1,?_⟩
 have hq:=query_im hT hk (sz:=sz) (List.suffix_refl T) s h1;have hs:=run_suf qM T h1;rw[show stt T sz T=⟨T,0,sz⟩from by simp[stt]]at hq;unfold dD;rw[hq];cases s with
 |error r=>rfl
 |ok v=>
  obtain⟨q,r⟩:=v
  have hl:=hs.length_le;show bg (dF (stt T sz r)) _=_;unfold dF;cases r with
  |nil=>
   rw[show decide ((stt T sz []).next<((stt T sz []).tokens.length:Int))=false from by simp[stt]];rfl
  |cons x r=>
   simp only[List.length_cons]at hl;rw[show decide ((stt T sz (x::r)).next<((stt T sz (x::r)).tokens.length:Int))=true from zt (by simp only[stt,List.length_cons];omega),zc,gH hs];rfl
inductive FV:LVal→List UInt8→List Tok→Prop
 |null:FV ⟨0,0,[]⟩ [110,117,108,108] [tK [110,117,108,108]]
 |tru:FV ⟨2,1,[]⟩ [116,114,117,101] [tK [116,114,117,101]]
 |fal:FV ⟨2,0,[]⟩ [102,97,108,115,101] [tK [102,97,108,115,101]]
 |txt (s:List UInt8) (h:s.length≤24):FV ⟨3,0,s⟩ (39::(esc s++[39])) [tS s]
 |pos (n:Int) (h0:0≤n) (h1:n≤1000000000000):FV ⟨1,n,[]⟩ (Lib.itoa n) [tN n]
 |neg (n:Int) (h0:0<n) (h1:n≤1000000000000):FV ⟨1,-n,[]⟩ ([45]++Lib.itoa n) [tP [45],tN n]
inductive OpT:List UInt8→Tok→Prop
 |add:OpT [43] (tP [43])
 |sub:OpT [45] (tP [45])
 |mul:OpT [42] (tP [42])
 |eq:OpT [61] (tP [61])
 |le:OpT [60,61] (tP [60,61])
 |lt:OpT [60] (tP [60])
 |and:OpT [97,110,100] (tK [97,110,100])
 |or:OpT [111,114] (tK [111,114])
 |cat:OpT [124,124] (tP [124,124])
inductive FE:LExpr→List UInt8→List Tok→Prop
 |col (s:List UInt8) (h:fw s):FE (LExpr.mk 2 s 0 (LVal.mk 0 0 []) []) s [tI s]
 |par (d k:UInt8) (hd:dig d=true) (hk:k=105∨k=98∨k=116):FE (LExpr.mk 3 [] ((d.toNat:Int)-48) (LVal.mk (kG [k]) 0 []) []) [63,d,k] [tA [k] ((d.toNat:Int)-48)]
 |var (s:List UInt8) (h:fw s):FE (LExpr.mk 4 s 0 (LVal.mk 0 0 []) []) ([36]++s) [tP [36],tI s]
 |lit {v:LVal} {s:List UInt8} {ts:List Tok} (h:FV v s ts):FE (LExpr.mk 1 [] 0 v []) s ts
 |un {a:LExpr} {sa:List UInt8} {ta:List Tok} (s:List UInt8) (hs:s=[110,111,116]∨s=[108,101,110,103,116,104]) (h:FE a sa ta):FE (opE s [a]) ([40]++(s++([32]++(sa++[41])))) ([tP [40]]++([tK s]++(ta++[tP [41]])))
 |isn {a:LExpr} {sa:List UInt8} {ta:List Tok} (h:FE a sa ta):FE (opE [105,115,32,110,117,108,108] [a]) ([40]++(sa++([32]++([105,115]++([32]++([110,117,108,108]++[41])))))) ([tP [40]]++(ta++([tK [105,115]]++([tK [110,117,108,108]]++[tP [41]]))))
 |bin {a b:LExpr} {sa sb:List UInt8} {ta tb:List Tok} (s:List UInt8) (t:Tok) (hs:OpT s t) (ha:FE a sa ta) (hb:FE b sb tb):FE (opE s [a,b]) ([40]++(sa++([32]++(s++([32]++(sb++[41])))))) ([tP [40]]++(ta++([t]++(tb++[tP [41]]))))
 |ite {a b c:LExpr} {sa sb sc:List UInt8} {ta tb tc:List Tok} (ha:FE a sa ta) (hb:FE b sb tb) (hc:FE c sc tc):FE (opE [105,102] [a,b,c])
   ([40]++([105,102]++([32]++(sa++([32]++([116,104,101,110]++([32]++(sb++([32]++([101,108,115,101]++([32]++(sc++[41]))))))))))))
   ([tP [40]]++([tK [105,102]]++(ta++([tK [116,104,101,110]]++(tb++([tK [101,108,115,101]]++(tc++[tP [41]])))))))
theorem kwx{s:List UInt8}(h1:jd s=true:=by rfl)(h2:isKw s=true:=by rfl):Lx s [tK s]:=lx_kw h1 h2
theorem FV.lx{v:LVal}{s:List UInt8}{ts:List Tok}(h:FV v s ts):Lx s ts:=by
 cases h with
 |null=>exact kwx
 |tru=>exact kwx
 |fal=>exact kwx
 |txt s h=>exact lx_str h
 |pos n h0 h1=>exact lx_num h0 h1
 |neg n h0 h1=>exact ly_mi.appX (lx_num (by omega) h1)
theorem OpT.lx{s:List UInt8}{t:Tok}(h:OpT s t):Lx s [t]:=by
 cases h with
 |and=>exact kwx
 |or=>exact kwx
 |add=>exact lx_p 43 [] rfl rfl fun r hr=>rfl
 |sub=>exact lx_p 45 [] rfl rfl fun r hr=>rfl
 |mul=>exact lx_p 42 [] rfl rfl fun r hr=>rfl
 |eq=>exact lx_p 61 [] rfl rfl fun r hr=>rfl
 |le=>exact lx_p 60 [61] rfl rfl fun r hr=>rfl
 |cat=>exact lx_p 124 [124] rfl rfl fun r hr=>rfl
 |lt=>
  exact lx_p 60 [] rfl rfl fun r hr=>by
   cases r with
   |nil=>rfl
   |cons c r=>rcases hr with rfl|rfl|rfl|rfl<;>rfl
theorem sp1{b:List UInt8}:Sp ([32]++b):= .inl rfl
theorem sp2:Sp [41]:= .inr (.inr (.inl rfl))
theorem spL{b:List UInt8}{y:List Tok}(h:Ly b y):Ly ([32]++b) y:=by simpa using Ly.sp.app h
theorem spX{b:List UInt8}{y:List Tok}(h:Lx b y):Lx ([32]++b) y:=by simpa using Ly.sp.appX h
theorem FE.lx{e:LExpr}{s:List UInt8}{ts:List Tok}(h:FE e s ts):Lx s ts:=by
 induction h with
 |col s h=>exact kI h
 |par d k hd hk=>exact lx_par hd hk
 |var s h=>exact ly_do.appX (kI h)
 |lit h=>exact h.lx
 |un s hs h ih=>
  refine(ly_lp.app ((show Lx s [tK s]from ?_).app (spL (ih.app ly_rp sp2)) sp1)).lx
  rcases hs with rfl|rfl
  ·exact kwx
  ·exact kwx
 |isn h ih=>exact(ly_lp.app (ih.app (spL (Lx.app kwx (spL (Lx.app kwx ly_rp sp2)) sp1)) sp1)).lx
 |bin s t hs ha hb iha ihb=>exact(ly_lp.app (iha.app (spL (hs.lx.app (spL (ihb.app ly_rp sp2)) sp1)) sp1)).lx
 |ite ha hb hc iha ihb ihc=>exact(ly_lp.app (Lx.app kwx (spL (iha.app (spL (Lx.app kwx (spL (ihb.app (spL (Lx.app kwx (spL (ihc.app ly_rp sp2)) sp1)) sp1)) sp1)) sp1)) sp1)).lx
theorem FV.run{v:LVal}{s:List UInt8}{ts:List Tok}(h:FV v s ts)(r:List Tok):litT.run (ts++r)=some (.ok (v,r)):=by
 cases h with
 |null=>rfl
 |tru=>rfl
 |fal=>rfl
 |txt s h=>rfl
 |pos n h0 h1=>
  show some (Except.ok (cT n,r))=_;unfold cT;rw[zf (by omega),zf (by omega)];rfl
 |neg n h0 h1=>
  have e:(n==0)=false:=by simpa using(by omega:¬n=0)
  show(bif (true&& !(n==0))then some (Except.ok (cT (IntKind.i64.wrap (0-n)),r))else some (.error (tN n::r)))=_
  rw[e,gk (by omega) (by omega),Int.zero_sub];unfold cT;rw[zf (by omega),zf (by omega)];rfl
def NoOp(x:Tok):Prop:=hit [110,111,116] x=false∧hit [108,101,110,103,116,104] x=false∧hit [105,102] x=false∧hit [41] x=false
theorem FE.head{e:LExpr}{s:List UInt8}{ts:List Tok}(h:FE e s ts):∃x t,ts=x::t∧NoOp x:=by
 cases h with
 |col s h=>exact⟨_,_,rfl,rfl,rfl,rfl,rfl⟩
 |par d k hd hk=>exact⟨_,_,rfl,rfl,rfl,rfl,rfl⟩
 |var s h=>exact⟨_,_,rfl,rfl,rfl,rfl,rfl⟩
 |lit h=>cases h<;>exact⟨_,_,rfl,rfl,rfl,rfl,rfl⟩
 |un s hs h=>exact⟨_,_,rfl,rfl,rfl,rfl,rfl⟩
 |isn h=>exact⟨_,_,rfl,rfl,rfl,rfl,rfl⟩
 |bin s t hs ha hb=>exact⟨_,_,rfl,rfl,rfl,rfl,rfl⟩
 |ite ha hb hc=>exact⟨_,_,rfl,rfl,rfl,rfl,rfl⟩
theorem lq{α:Type}{s:List UInt8}{x:Tok}{y:PT α}{r:List Tok}(h:hit s x=true):(ex s y).run (x::r)=y.run r:=by
 simp[ex,kw,PT.run,h]
theorem dX{α β:Type}{p:PT α}{g:α→PT β}{t r:List Tok}{a:α}(h:p.run t=some (.ok (a,r))):(p.bd g).run t=(g a).run r:=by
 rw[run_bd,h]
theorem kF{B:PT LExpr}{t:List Tok}:(gV B).run (tP [40]::t)=B.run t:=rfl
theorem lit_run{B:PT LExpr}{v:LVal}{s:List UInt8}{ts:List Tok}(h:FV v s ts)(r:List Tok):(gV B).run (ts++r)=some (.ok (LExpr.mk 1 [] 0 v [],r)):=by
 have e:(gV B).run (ts++r)=(litT.bd fun v=>.rt (LExpr.mk 1 [] 0 v [])).run (ts++r):=by cases h<;>rfl
 rw[e,dX (h.run r)];rfl
theorem mW{E:PT LExpr}{x:Tok}{t:List Tok}(h:NoOp x):(eB E).run (x::t)=(E.bd fun a=>kw [105,115] (ex [110,117,108,108] (ex [41] (.rt (opE [105,115,32,110,117,108,108] [a])))) (bins.foldr (binB E a) .fl)).run (x::t):=by
 obtain⟨h1,h2,h3,_⟩:=h
 simp[eB,unB,kw,PT.run,h1,h2,h3]
theorem bins_run{E:PT LExpr}{a:LExpr}{s:List UInt8}{t:Tok}(h:OpT s t)(Y:PT LExpr)(r:List Tok):(kw [105,115] Y (bins.foldr (binB E a) .fl)).run (t::r)=(E.bd fun b=>ex [41] (.rt (opE s [a,b]))).run r:=by
 cases h<;>rfl
theorem FE.parse{e:LExpr}{s:List UInt8}{ts:List Tok}(h:FE e s ts):∃N,∀m,N≤m→∀r,(eT m).run (ts++r)=some (.ok (e,r)):=by
 have up:∀{m k:Nat},k+1≤m→∃j,m=j+1∧k≤j:=fun {m k} h=>⟨m-1,by omega,by omega⟩
 induction h with
 |col s h=>exact⟨1,fun m hm r=>by obtain⟨j,rfl,_⟩:=up (k:=0) hm;rw[eT];rfl⟩
 |par d k hd hk=>exact⟨1,fun m hm r=>by obtain⟨j,rfl,_⟩:=up (k:=0) hm;rw[eT];rfl⟩
 |var s h=>exact⟨1,fun m hm r=>by obtain⟨j,rfl,_⟩:=up (k:=0) hm;rw[eT];rfl⟩
 |lit h=>exact⟨1,fun m hm r=>by obtain⟨j,rfl,_⟩:=up (k:=0) hm;rw[eT];exact lit_run h r⟩
 | @un a sa ta s hs h ih=>
  obtain⟨N,hN⟩:=ih
  refine⟨N+2,fun m hm r=>?_⟩
  obtain⟨j,rfl,hj⟩:=up (k:=N+1) hm
  obtain⟨j,rfl,hj⟩:=up hj
  have e:[tP [40]]++([tK s]++(ta++[tP [41]]))++r=tP [40]::tK s::(ta++(tP [41]::r)):=by simp
  rw[e,eT,kF,bT]
  have e2:(eB (eT j)).run (tK s::(ta++(tP [41]::r)))=((eT j).bd fun e=>ex [41] (.rt (opE s [e]))).run (ta++(tP [41]::r)):=by
   rcases hs with rfl|rfl<;>rfl
  rw[e2,dX (hN j (by omega) _),lq rfl];rfl
 | @isn a sa ta h ih=>
  obtain⟨N,hN⟩:=ih
  obtain⟨x,t,ht,hx⟩:=h.head
  refine⟨N+2,fun m hm r=>?_⟩
  obtain⟨j,rfl,hj⟩:=up (k:=N+1) hm
  obtain⟨j,rfl,hj⟩:=up hj
  have e:[tP [40]]++(ta++([tK [105,115]]++([tK [110,117,108,108]]++[tP [41]])))++r=tP [40]::(ta++(tK [105,115]::tK [110,117,108,108]::tP [41]::r)):=by simp
  rw[e,eT,kF,bT];have e2:=hN j (by omega) (tK [105,115]::tK [110,117,108,108]::tP [41]::r);rw[ht,List.cons_append]at e2⊢;rw[mW hx,dX e2];rfl
 | @bin a b sa sb ta tb s t hs ha hb iha ihb=>
  obtain⟨N,hN⟩:=iha
  obtain⟨N',hN'⟩:=ihb
  obtain⟨x,t',ht,hx⟩:=ha.head
  refine⟨N+N'+2,fun m hm r=>?_⟩
  obtain⟨j,rfl,hj⟩:=up (k:=N+N'+1) hm
  obtain⟨j,rfl,hj⟩:=up hj
  have e:[tP [40]]++(ta++([t]++(tb++[tP [41]])))++r=tP [40]::(ta++(t::(tb++(tP [41]::r)))):=by simp
  rw[e,eT,kF,bT];have e2:=hN j (by omega) (t::(tb++(tP [41]::r)));rw[ht,List.cons_append]at e2⊢;rw[mW hx,dX e2,bins_run hs,dX (hN' j (by omega) _),lq rfl];rfl
 | @ite a b c sa sb sc ta tb tc ha hb hc iha ihb ihc=>
  obtain⟨N,hN⟩:=iha
  obtain⟨N',hN'⟩:=ihb
  obtain⟨N2,hN2⟩:=ihc
  refine⟨N+N'+N2+2,fun m hm r=>?_⟩
  obtain⟨j,rfl,hj⟩:=up (k:=N+N'+N2+1) hm
  obtain⟨j,rfl,hj⟩:=up hj
  have e:[tP [40]]++([tK [105,102]]++(ta++([tK [116,104,101,110]]++(tb++([tK [101,108,115,101]]++(tc++[tP [41]]))))))++r=tP [40]::tK [105,102]::(ta++(tK [116,104,101,110]::(tb++(tK [101,108,115,101]::(tc++(tP [41]::r)))))):=by simp
  rw[e,eT,kF,bT];have e2:∀t,(eB (eT j)).run (tK [105,102]::t)=((eT j).bd fun a=>ex [116,104,101,110] ((eT j).bd fun b=>ex [101,108,115,101] ((eT j).bd fun c=>ex [41] (.rt (opE [105,102] [a,b,c]))))).run t:=fun t=>rfl
  rw[e2,dX (hN j (by omega) _),lq rfl,dX (hN' j (by omega) _),lq rfl,dX (hN2 j (by omega) _),lq rfl];rfl
theorem FE.parseM{e:LExpr}{s:List UInt8}{ts:List Tok}(h:FE e s ts){r:List Tok}(hr:(ts++r).length≤4000):eM.run (ts++r)=some (.ok (e,r)):=by
 obtain⟨N,hN⟩:=h.parse
 obtain⟨v,h1,h2⟩:=eM_st2 (m:=N+cg) hr (by omega) (ts++r) (Nat.le_refl _)
 rw[hN (N+cg) (by omega) r]at h2;rw[h1,h2]
def jt:List (List Tok)→List Tok
 |[]=>[]
 |x::r=>x++(r.map ([tP [44]]++·)).flatten
inductive FN:List LExpr→List (List UInt8)→List (List UInt8)→List (List Tok)→Prop
 |nil:FN [] [] [] []
 |cons {e:LExpr} {s:List UInt8} {ts:List Tok} {n:List UInt8} {es ns ss tss} (h:FE e s ts) (hn:fw n) (h':FN es ns ss tss):FN (e::es) (n::ns) ((s++([32]++([97,115]++([32]++n))))::ss) ((ts++([tK [97,115]]++[tI n]))::tss)
inductive FA:List LAggregateCall→List (List UInt8)→List (List Tok)→Prop
 |nil:FA [] [] []
 |none {f n:List UInt8} {gs ss tss} (hf:fw f) (hn:fw n) (h':FA gs ss tss):FA (LAggregateCall.mk n f []::gs) ((f++([40]++([41]++([32]++([97,115]++([32]++n))))))::ss) (([tI f]++([tP [40]]++([tP [41]]++([tK [97,115]]++[tI n]))))::tss)
 |one {f n:List UInt8} {e:LExpr} {s:List UInt8} {ts:List Tok} {gs ss tss} (hf:fw f) (hn:fw n) (h:FE e s ts) (h':FA gs ss tss):FA (LAggregateCall.mk n f [e]::gs) ((f++([40]++(s++([41]++([32]++([97,115]++([32]++n)))))))::ss) (([tI f]++([tP [40]]++(ts++([tP [41]]++([tK [97,115]]++[tI n])))))::tss)
inductive FO:List LExpr→List Bool→List (List UInt8)→List (List Tok)→Prop
 |nil:FO [] [] [] []
 |up {e:LExpr} {s:List UInt8} {ts:List Tok} {es ds ss tss} (h:FE e s ts) (h':FO es ds ss tss):FO (e::es) (false::ds) (s::ss) (ts::tss)
 |down {e:LExpr} {s:List UInt8} {ts:List Tok} {es ds ss tss} (h:FE e s ts) (h':FO es ds ss tss):FO (e::es) (true::ds) ((s++([32]++[100,101,115,99]))::ss) ((ts++[tK [100,101,115,99]])::tss)
abbrev bt(s s':List UInt8):List UInt8:=s++([32]++([124]++([32]++s')))
abbrev bk(t t':List Tok):List Tok:=t++([tP [124]]++t')
abbrev inS(s:List UInt8):List UInt8:=[40]++(s++[41])
abbrev inT(t:List Tok):List Tok:=[tP [40]]++(t++[tP [41]])
inductive FQ:LQuery→List UInt8→List Tok→Prop
 |scan (s:List UInt8) (h:fw s):FQ (LQuery.mk 1 s [] [] [] [] 0 0 []) ([115,99,97,110]++([32]++s)) ([tK [115,99,97,110]]++[tI s])
 |filt {q:LQuery} {s:List UInt8} {ts:List Tok} {e:LExpr} {s':List UInt8} {ts':List Tok} (hq:FQ q s ts) (h:FE e s' ts'):FQ (LQuery.mk 2 [] [] [e] [] [] 0 0 [q]) (bt s ([119,104,101,114,101]++([32]++s'))) (bk ts ([tK [119,104,101,114,101]]++ts'))
 |proj {q:LQuery} {s:List UInt8} {ts:List Tok} {es ns ss tss} (hq:FQ q s ts) (h:FN es ns ss tss) (h0:es≠[]):FQ (LQuery.mk 3 [] ns es [] [] 0 0 [q]) (bt s ([112,114,111,106,101,99,116]++([32]++Lib.join ss [44,32]))) (bk ts ([tK [112,114,111,106,101,99,116]]++jt tss))
 |join {q r:LQuery} {s sr:List UInt8} {ts tr:List Tok} {e:LExpr} {s':List UInt8} {ts':List Tok} (hq:FQ q s ts) (hr:FQ r sr tr) (h:FE e s' ts'):FQ (LQuery.mk 4 [] [] [e] [] [] 0 0 [q,r]) (bt s ([106,111,105,110]++([32]++(inS sr++([32]++([111,110]++([32]++s'))))))) (bk ts ([tK [106,111,105,110]]++(inT tr++([tK [111,110]]++ts'))))
 |left {q r:LQuery} {s sr:List UInt8} {ts tr:List Tok} {e:LExpr} {s':List UInt8} {ts':List Tok} (hq:FQ q s ts) (hr:FQ r sr tr) (h:FE e s' ts'):FQ (LQuery.mk 5 [] [] [e] [] [] 0 0 [q,r]) (bt s ([108,101,102,116]++([32]++([106,111,105,110]++([32]++(inS sr++([32]++([111,110]++([32]++s'))))))))) (bk ts ([tK [108,101,102,116]]++([tK [106,111,105,110]]++(inT tr++([tK [111,110]]++ts')))))
 |union {q r:LQuery} {s sr:List UInt8} {ts tr:List Tok} (hq:FQ q s ts) (hr:FQ r sr tr):FQ (LQuery.mk 6 [] [] [] [] [] 0 0 [q,r]) (bt s ([117,110,105,111,110]++([32]++inS sr))) (bk ts ([tK [117,110,105,111,110]]++inT tr))
 |except {q r:LQuery} {s sr:List UInt8} {ts tr:List Tok} (hq:FQ q s ts) (hr:FQ r sr tr):FQ (LQuery.mk 7 [] [] [] [] [] 0 0 [q,r]) (bt s ([101,120,99,101,112,116]++([32]++inS sr))) (bk ts ([tK [101,120,99,101,112,116]]++inT tr))
 |grp1 {q:LQuery} {s:List UInt8} {ts:List Tok} {es ns ss tss} (hq:FQ q s ts) (h:FN es ns ss tss) (h0:es≠[]):FQ (LQuery.mk 8 [] ns es [] [] 0 0 [q]) (bt s ([103,114,111,117,112]++([32]++([98,121]++([32]++Lib.join ss [44,32]))))) (bk ts ([tK [103,114,111,117,112]]++([tK [98,121]]++jt tss)))
 |grp2 {q:LQuery} {s:List UInt8} {ts:List Tok} {gs ss tss} (hq:FQ q s ts) (h:FA gs ss tss) (h0:gs≠[]):FQ (LQuery.mk 8 [] [] [] gs [] 0 0 [q]) (bt s ([103,114,111,117,112]++([32]++([97,103,103,114,101,103,97,116,101]++([32]++Lib.join ss [44,32]))))) (bk ts ([tK [103,114,111,117,112]]++([tK [97,103,103,114,101,103,97,116,101]]++jt tss)))
 |grp3 {q:LQuery} {s:List UInt8} {ts:List Tok} {es ns ss tss gs ss' tss'} (hq:FQ q s ts) (h:FN es ns ss tss) (h0:es≠[]) (h':FA gs ss' tss') (h0':gs≠[]):FQ (LQuery.mk 8 [] ns es gs [] 0 0 [q])
   (bt s ([103,114,111,117,112]++([32]++([98,121]++([32]++(Lib.join ss [44,32]++([32]++([97,103,103,114,101,103,97,116,101]++([32]++Lib.join ss' [44,32]))))))))) (bk ts ([tK [103,114,111,117,112]]++([tK [98,121]]++(jt tss++([tK [97,103,103,114,101,103,97,116,101]]++jt tss')))))
 |sort {q:LQuery} {s:List UInt8} {ts:List Tok} {es ds ss tss} (hq:FQ q s ts) (h:FO es ds ss tss) (h0:es≠[]):FQ (LQuery.mk 9 [] [] es [] ds 0 0 [q]) (bt s ([115,111,114,116]++([32]++Lib.join ss [44,32]))) (bk ts ([tK [115,111,114,116]]++jt tss))
 |lim0 {q:LQuery} {s:List UInt8} {ts:List Tok} (c:Int) (hq:FQ q s ts) (h0:0≤c) (h1:c≤1000000000000):FQ (LQuery.mk 10 [] [] [] [] [] c 0 [q]) (bt s ([108,105,109,105,116]++([32]++Lib.itoa c))) (bk ts ([tK [108,105,109,105,116]]++[tN c]))
 |lim {q:LQuery} {s:List UInt8} {ts:List Tok} (c o:Int) (hq:FQ q s ts) (h0:0≤c) (h1:c≤1000000000000) (h2:0<o) (h3:o≤1000000000000):FQ (LQuery.mk 10 [] [] [] [] [] c o [q]) (bt s ([108,105,109,105,116]++([32]++(Lib.itoa c++([32]++([111,102,102,115,101,116]++([32]++Lib.itoa o))))))) (bk ts ([tK [108,105,109,105,116]]++([tN c]++([tK [111,102,102,115,101,116]]++[tN o]))))
inductive LL:List (List UInt8)→List (List Tok)→Prop
 |nil:LL [] []
 |cons {s ts ss tss} (h:Lx s ts) (h':LL ss tss):LL (s::ss) (ts::tss)
theorem ly_sep:Ly [44,32] [tP [44]]:=by simpa using ly_cm.app Ly.sp
theorem LL.tail{ss tss}(h:LL ss tss):Lx (Lib.joinTail [44,32] ss) ((tss.map ([tP [44]]++·)).flatten):=by
 induction h with
 |nil=>exact Ly.nil.lx
 | @cons s ts ss tss h h' ih=>
  have e:Lib.joinTail [44,32] (s::ss)=[44,32]++(s++Lib.joinTail [44,32] ss):=by simp[Lib.joinTail]
  rw[e,List.map_cons,List.flatten_cons,List.append_assoc];refine ly_sep.appX ?_;cases h' with
  |nil=>simpa[Lib.joinTail]using h
  |cons h1 h2=>exact h.appX ih (by simp[Lib.joinTail,Sp])
theorem LL.join{ss tss}(h:LL ss tss):Lx (Lib.join ss [44,32]) (jt tss):=by
 cases h with
 |nil=>exact Ly.nil.lx
 | @cons s ts ss tss h h'=>
  rw[Lib.join_cons];show Lx _ (ts++_);cases h' with
  |nil=>simpa[Lib.joinTail]using h
  |cons h1 h2=>exact h.appX (LL.cons h1 h2).tail (by simp[Lib.joinTail,Sp])
theorem FN.ll{es ns ss tss}(h:FN es ns ss tss):LL ss tss:=by
 induction h with
 |nil=>exact .nil
 |cons h hn h' ih=>exact .cons (h.lx.appX (spX (Lx.appX kwx (spX (kI hn)) sp1)) sp1) ih
theorem sp3{b:List UInt8}:Sp ([40]++b):= .inr (.inl rfl)
theorem sp4{b:List UInt8}:Sp ([41]++b):= .inr (.inr (.inl rfl))
theorem FA.ll{gs ss tss}(h:FA gs ss tss):LL ss tss:=by
 induction h with
 |nil=>exact .nil
 |none hf hn h' ih=>exact .cons ((kI hf).appX (ly_lp.appX (ly_rp.appX (spX (Lx.appX kwx (spX (kI hn)) sp1)))) sp3) ih
 |one hf hn h h' ih=>exact .cons ((kI hf).appX (ly_lp.appX (h.lx.appX (ly_rp.appX (spX (Lx.appX kwx (spX (kI hn)) sp1))) sp4)) sp3) ih
theorem FO.ll{es ds ss tss}(h:FO es ds ss tss):LL ss tss:=by
 induction h with
 |nil=>exact .nil
 |up h h' ih=>exact .cons h.lx ih
 |down h h' ih=>exact .cons (h.lx.appX (spX kwx) sp1) ih
theorem gQ{s s':List UInt8}{ts ts':List Tok}(h:Lx s ts)(h':Lx s' ts'):Lx (bt s s') (bk ts ts'):=h.appX (spX (lx_bar.appX (spX h') sp1)) sp1
theorem in_ly{s:List UInt8}{ts:List Tok}(h:Lx s ts):Ly (inS s) (inT ts):=ly_lp.app (h.app ly_rp sp2)
theorem FQ.lx{q:LQuery}{s:List UInt8}{ts:List Tok}(h:FQ q s ts):Lx s ts:=by
 induction h with
 |scan s h=>exact Lx.appX kwx (spX (kI h)) sp1
 |filt hq h ih=>exact gQ ih (Lx.appX kwx (spX h.lx) sp1)
 |proj hq h h0 ih=>exact gQ ih (Lx.appX kwx (spX h.ll.join) sp1)
 |join hq hr h ih ihr=>exact gQ ih (Lx.appX kwx (spX ((in_ly ihr).appX (spX (Lx.appX kwx (spX h.lx) sp1)))) sp1)
 |left hq hr h ih ihr=>exact gQ ih (Lx.appX kwx (spX (Lx.appX kwx (spX ((in_ly ihr).appX (spX (Lx.appX kwx (spX h.lx) sp1)))) sp1)) sp1)
 |union hq hr ih ihr=>exact gQ ih (Lx.appX kwx (spX (in_ly ihr).lx) sp1)
 |except hq hr ih ihr=>exact gQ ih (Lx.appX kwx (spX (in_ly ihr).lx) sp1)
 |grp1 hq h h0 ih=>exact gQ ih (Lx.appX kwx (spX (Lx.appX kwx (spX h.ll.join) sp1)) sp1)
 |grp2 hq h h0 ih=>exact gQ ih (Lx.appX kwx (spX (Lx.appX kwx (spX h.ll.join) sp1)) sp1)
 |grp3 hq h h0 h' h0' ih=>exact gQ ih (Lx.appX kwx (spX (Lx.appX kwx (spX (h.ll.join.appX (spX (Lx.appX kwx (spX h'.ll.join) sp1)) sp1)) sp1)) sp1)
 |sort hq h h0 ih=>exact gQ ih (Lx.appX kwx (spX h.ll.join) sp1)
 |lim0 c hq h0 h1 ih=>exact gQ ih (Lx.appX kwx (spX (lx_num h0 h1)) sp1)
 |lim c o hq h0 h1 h2 h3 ih=>exact gQ ih (Lx.appX kwx (spX ((lx_num h0 h1).appX (spX (Lx.appX kwx (spX (lx_num (by omega) h3)) sp1)) sp1)) sp1)
inductive Stop:List Tok→Prop
 |nil:Stop []
 |bar (t:List Tok):Stop (tP [124]::t)
 |rp (t:List Tok):Stop (tP [41]::t)
theorem Stop.kw{α:Type}{r:List Tok}(h:Stop r)(s:List UInt8)(h1:([124]==s)=false:=by rfl)(h2:([41]==s)=false:=by rfl)(y n:PT α):(kw s y n).run r=n.run r:=by
 cases h with
 |nil=>rfl
 |bar t=>
  have:hit s (tP [124])=false:=h1
  simp[Go.Proofs.YtibojibdiibdgaaGreatDoor.kw,PT.run,this]
 |rp t=>
  have:hit s (tP [41])=false:=h2
  simp[Go.Proofs.YtibojibdiibdgaaGreatDoor.kw,PT.run,this]
inductive IT(one:LQuery→PT LQuery):LQuery→List (List Tok)→LQuery→Prop
 |nil (q:LQuery):IT one q [] q
 |cons {q q1 q2:LQuery} {ts:List Tok} {tss:List (List Tok)} (h:∀r,(ts++r).length≤4000→(r=[]∨∃x t,r=x::t∧(x=tP [44]∨x=tP [124]∨x=tP [41]∨x=tK [97,103,103,114,101,103,97,116,101]))→(one q).run (ts++r)=some (.ok (q1,r))) (h':IT one q1 tss q2):IT one q (ts::tss) q2
def Behind(r:List Tok):Prop:=r=[]∨∃x t,r=x::t∧(x=tP [124]∨x=tP [41]∨x=tK [97,103,103,114,101,103,97,116,101])
theorem Stop.behind{r:List Tok}(h:Stop r):Behind r:=by
 cases h with
 |nil=>exact .inl rfl
 |bar t=>exact .inr ⟨_,t,rfl,.inl rfl⟩
 |rp t=>exact .inr ⟨_,t,rfl,.inr (.inl rfl)⟩
theorem IT.commas{one:LQuery→PT LQuery}{q q2:LQuery}{tss:List (List Tok)}(h:IT one q tss q2):∀(n:Nat) (r:List Tok),tss.length<n→Behind r→((tss.map ([tP [44]]++·)).flatten++r).length≤4000→(commas one n q).run ((tss.map ([tP [44]]++·)).flatten++r)=some (.ok (q2,r)):=by
 induction h with
 |nil q=>
  intro n r hn hb hl
  obtain⟨n,rfl⟩:∃k,n=k+1:=⟨n-1,by simp at hn;omega⟩
  rw[Go.Proofs.YtibojibdiibdgaaGreatDoor.commas];rcases hb with rfl|⟨x,t,rfl,rfl|rfl|rfl⟩<;>rfl
 | @cons q q1 q2 ts tss h h' ih=>
  intro n r hn hb hl
  obtain⟨n,rfl⟩:∃k,n=k+1:=⟨n-1,by simp at hn;omega⟩
  rw[Go.Proofs.YtibojibdiibdgaaGreatDoor.commas];have e:((ts::tss).map ([tP [44]]++·)).flatten++r=tP [44]::(ts++((tss.map ([tP [44]]++·)).flatten++r)):=by simp
  rw[e]at hl⊢;simp only[List.length_cons]at hl hn
  have h1:=h ((tss.map ([tP [44]]++·)).flatten++r) (by omega) (by
   cases tss with
   |nil=>rcases hb with rfl|⟨x,t,rfl,hx⟩
            ·exact .inl rfl
            ·exact .inr ⟨x,t,rfl,.inr hx⟩
   |cons a tss=>exact .inr ⟨_,_,rfl,.inl rfl⟩)
  have e2:∀t,(Go.Proofs.YtibojibdiibdgaaGreatDoor.kw [44] ((one q).bd (Go.Proofs.YtibojibdiibdgaaGreatDoor.commas one n)) (.rt q)).run (tP [44]::t)=((one q).bd (Go.Proofs.YtibojibdiibdgaaGreatDoor.commas one n)).run t:=fun t=>rfl
  rw[e2,dX h1];exact ih n r (by omega) hb (by simp only[List.length_append]at hl⊢;omega)
theorem IT.lst{one:LQuery→PT LQuery}{q q2:LQuery}{tss:List (List Tok)}(h:IT one q tss q2)(h0:tss≠[]){n:Nat}{r:List Tok}(hn:tss.length<n)(hb:Behind r)(hl:(jt tss++r).length≤4000):(lst one n q).run (jt tss++r)=some (.ok (q2,r)):=by
 cases h with
 |nil=>exact absurd rfl h0
 | @cons q q1 q2 ts tss h h'=>
  unfold Go.Proofs.YtibojibdiibdgaaGreatDoor.lst;simp only[jt,List.append_assoc]at hl⊢
  have h1:=h ((tss.map ([tP [44]]++·)).flatten++r) hl (by
   cases tss with
   |nil=>rcases hb with rfl|⟨x,t,rfl,hx⟩
            ·exact .inl rfl
            ·exact .inr ⟨x,t,rfl,.inr hx⟩
   |cons a tss=>exact .inr ⟨_,_,rfl,.inl rfl⟩)
  rw[dX h1];exact h'.commas n r (by simp only[List.length_cons]at hn;omega) hb (by simp only[List.length_append]at hl⊢;omega)
theorem FN.it{es ns ss tss}(h:FN es ns ss tss):∀(q:LQuery),IT (eA eM) q tss (LQuery.mk q.kind q.table (q.names++ns) (q.exprs++es) q.aggregates q.descending q.count q.offset q.inputs):=by
 induction h with
 |nil=>intro q;cases q;simp only[List.append_nil];exact .nil _
 | @cons e s ts n es ns ss tss h hn h' ih=>
  intro q;refine .cons (q1:=LQuery.mk q.kind q.table (q.names++[n]) (q.exprs++[e]) q.aggregates q.descending q.count q.offset q.inputs) (fun r hl _=>?_) ?_
  ·unfold eA;rw[List.append_assoc]at hl⊢;rw[dX (h.parseM hl)];rfl
  ·have:=ih (LQuery.mk q.kind q.table (q.names++[n]) (q.exprs++[e]) q.aggregates q.descending q.count q.offset q.inputs)
   simpa[LQuery.kind,LQuery.table,LQuery.names,LQuery.exprs,LQuery.aggregates,LQuery.descending,LQuery.count,LQuery.offset,LQuery.inputs]using this
theorem FO.it{es ds ss tss}(h:FO es ds ss tss):∀(q:LQuery),IT (gD eM) q tss (LQuery.mk q.kind q.table q.names (q.exprs++es) q.aggregates (q.descending++ds) q.count q.offset q.inputs):=by
 induction h with
 |nil=>intro q;cases q;simp only[List.append_nil];exact .nil _
 | @up e s ts es ds ss tss h h' ih=>
  intro q;refine .cons (q1:=LQuery.mk q.kind q.table q.names (q.exprs++[e]) q.aggregates (q.descending++[false]) q.count q.offset q.inputs) (fun r hl hb=>?_) ?_
  ·unfold gD;rw[dX (h.parseM hl)];rcases hb with rfl|⟨x,t,rfl,rfl|rfl|rfl|rfl⟩<;>rfl
  ·have:=ih (LQuery.mk q.kind q.table q.names (q.exprs++[e]) q.aggregates (q.descending++[false]) q.count q.offset q.inputs)
   simpa[LQuery.kind,LQuery.table,LQuery.names,LQuery.exprs,LQuery.aggregates,LQuery.descending,LQuery.count,LQuery.offset,LQuery.inputs]using this
 | @down e s ts es ds ss tss h h' ih=>
  intro q;refine .cons (q1:=LQuery.mk q.kind q.table q.names (q.exprs++[e]) q.aggregates (q.descending++[true]) q.count q.offset q.inputs) (fun r hl hb=>?_) ?_
  ·unfold gD;rw[List.append_assoc]at hl⊢;rw[dX (h.parseM hl)];rfl
  ·have:=ih (LQuery.mk q.kind q.table q.names (q.exprs++[e]) q.aggregates (q.descending++[true]) q.count q.offset q.inputs)
   simpa[LQuery.kind,LQuery.table,LQuery.names,LQuery.exprs,LQuery.aggregates,LQuery.descending,LQuery.count,LQuery.offset,LQuery.inputs]using this
theorem agg_none{E:PT LExpr}(q:LQuery)(f n:List UInt8)(r:List Tok):(gc E q).run (([tI f]++([tP [40]]++([tP [41]]++([tK [97,115]]++[tI n]))))++r)=some (.ok (LQuery.mk q.kind q.table q.names q.exprs (q.aggregates++[LAggregateCall.mk n f []]) q.descending q.count q.offset q.inputs,r)):=rfl
theorem agg_one{E:PT LExpr}(q:LQuery){e:LExpr}{f n:List UInt8}{ts r:List Tok}{x:Tok}{t:List Tok}(ht:ts=x::t)(hx:hit [41] x=false)(h:E.run (ts++(tP [41]::tK [97,115]::tI n::r))=some (.ok (e,tP [41]::tK [97,115]::tI n::r))):(gc E q).run (tI f::tP [40]::(ts++(tP [41]::tK [97,115]::tI n::r)))=some (.ok (LQuery.mk q.kind q.table q.names q.exprs (q.aggregates++[LAggregateCall.mk n f [e]]) q.descending q.count q.offset q.inputs,r)):=by
 show((PT.bd (kw [41] (.rt []) (E.bd fun e=>ex [41] (.rt [e]))) fun l=>ex [97,115] (idt fun s=>.rt (LQuery.mk q.kind q.table q.names q.exprs (q.aggregates++[LAggregateCall.mk s f l]) q.descending q.count q.offset q.inputs)))).run (ts++(tP [41]::tK [97,115]::tI n::r))=_
 have h2:(kw [41] (.rt []) (E.bd fun e=>ex [41] (.rt [e]))).run (ts++(tP [41]::tK [97,115]::tI n::r))=some (.ok ([e],tK [97,115]::tI n::r)):=by
  have h3:(kw [41] (.rt []) (E.bd fun e=>ex [41] (.rt [e]))).run (ts++(tP [41]::tK [97,115]::tI n::r))=(E.bd fun e=>ex [41] (.rt [e])).run (ts++(tP [41]::tK [97,115]::tI n::r)):=by
   rw[ht,List.cons_append];simp[kw,PT.run,hx]
  rw[h3,dX h];rfl
 rw[dX h2];rfl
theorem FA.it{gs ss tss}(h:FA gs ss tss):∀(q:LQuery),IT (gc eM) q tss (LQuery.mk q.kind q.table q.names q.exprs (q.aggregates++gs) q.descending q.count q.offset q.inputs):=by
 induction h with
 |nil=>intro q;cases q;simp only[List.append_nil];exact .nil _
 | @none f n gs ss tss hf hn h' ih=>
  intro q;refine .cons (q1:=LQuery.mk q.kind q.table q.names q.exprs (q.aggregates++[LAggregateCall.mk n f []]) q.descending q.count q.offset q.inputs) (fun r hl hb=>agg_none q f n r) ?_
  have:=ih (LQuery.mk q.kind q.table q.names q.exprs (q.aggregates++[LAggregateCall.mk n f []]) q.descending q.count q.offset q.inputs)
  simpa[LQuery.kind,LQuery.table,LQuery.names,LQuery.exprs,LQuery.aggregates,LQuery.descending,LQuery.count,LQuery.offset,LQuery.inputs]using this
 | @one f n e s ts gs ss tss hf hn h h' ih=>
  intro q;refine .cons (q1:=LQuery.mk q.kind q.table q.names q.exprs (q.aggregates++[LAggregateCall.mk n f [e]]) q.descending q.count q.offset q.inputs) (fun r hl hb=>?_) ?_
  ·obtain⟨x,t,ht,hx⟩:=h.head
   have e1:[tI f]++([tP [40]]++(ts++([tP [41]]++([tK [97,115]]++[tI n]))))++r=tI f::tP [40]::(ts++(tP [41]::tK [97,115]::tI n::r)):=by simp
   rw[e1]at hl⊢;exact agg_one q ht hx.2.2.2 (h.parseM (by simp only[List.length_cons,List.length_append]at hl⊢;omega))
  ·have:=ih (LQuery.mk q.kind q.table q.names q.exprs (q.aggregates++[LAggregateCall.mk n f [e]]) q.descending q.count q.offset q.inputs)
   simpa[LQuery.kind,LQuery.table,LQuery.names,LQuery.exprs,LQuery.aggregates,LQuery.descending,LQuery.count,LQuery.offset,LQuery.inputs]using this
theorem jt_len:∀{tss:List (List Tok)},(∀t∈tss,t≠[])→tss.length≤(jt tss).length
 |[],_=>by simp[jt]
 |x::tss,h=>by
  have h1:0<x.length:=List.length_pos_iff.2 (h x (by simp))
  have:tss.length≤((tss.map ([tP [44]]++·)).flatten).length:=by
   clear h;induction tss with
   |nil=>simp
   |cons a t ih=>simp only[List.map_cons,List.flatten_cons,List.length_append,List.length_cons,List.length_nil];omega
  simp only[jt,List.length_append,List.length_cons];omega
theorem FE.ne{e:LExpr}{s:List UInt8}{ts:List Tok}(h:FE e s ts):ts≠[]:=by
 obtain⟨x,t,ht,_⟩:=h.head
 rw[ht];simp
theorem FN.ne{es ns ss tss}(h:FN es ns ss tss):(∀t∈tss,t≠[])∧(es≠[]→tss≠[]):=by
 induction h with
 |nil=>exact⟨by simp,fun h=>absurd rfl h⟩
 |cons h hn h' ih=>exact⟨fun t ht=>(List.mem_cons.1 ht).elim (fun e=>by rw[e];simp) (ih.1 t),by simp⟩
theorem FA.ne{gs ss tss}(h:FA gs ss tss):(∀t∈tss,t≠[])∧(gs≠[]→tss≠[]):=by
 induction h with
 |nil=>exact⟨by simp,fun h=>absurd rfl h⟩
 |none hf hn h' ih=>exact⟨fun t ht=>(List.mem_cons.1 ht).elim (fun e=>by rw[e];simp) (ih.1 t),by simp⟩
 |one hf hn h h' ih=>exact⟨fun t ht=>(List.mem_cons.1 ht).elim (fun e=>by rw[e];simp) (ih.1 t),by simp⟩
theorem FO.ne{es ds ss tss}(h:FO es ds ss tss):(∀t∈tss,t≠[])∧(es≠[]→tss≠[]):=by
 induction h with
 |nil=>exact⟨by simp,fun h=>absurd rfl h⟩
 |up h h' ih=>exact⟨fun t ht=>(List.mem_cons.1 ht).elim (fun e=>by rw[e];exact h.ne) (ih.1 t),by simp⟩
 |down h h' ih=>exact⟨fun t ht=>(List.mem_cons.1 ht).elim (fun e=>by rw[e];simp) (ih.1 t),by simp⟩
def srcB(Q:PT LQuery):PT LQuery:=kw [40] (Q.bd fun q=>ex [41] (.rt q)) (ex [115,99,97,110] (idt fun s=>.rt (LQuery.mk 1 s [] [] [] [] 0 0 [])))
theorem stage_go{S:LQuery→PT LQuery}{q q':LQuery}{ts' r:List Tok}{n:Nat}(h:(S q).run (ts'++r)=some (.ok (q',r))):(dT S (n+1) q).run (tP [124]::(ts'++r))=(dT S n q').run r:=by
 show((S q).bd (dT S n)).run (ts'++r)=_
 rw[dX h]
def Claim(q:LQuery)(ts:List Tok):Prop:=∃N k,k≤ts.length∧∀m,N≤m→∀n,k≤n→∀r,Stop r→(ts++r).length≤4000→((srcB (qT m)).bd (dT (fun q=>sT m q) n)).run (ts++r)=(dT (fun q=>sT m q) (n-k) q).run r
theorem Claim.parse{q:LQuery}{ts:List Tok}(h:Claim q ts):∃N,∀m,N≤m→∀r,(∃t,r=tP [41]::t)∨r=[]→(ts++r).length≤4000→(qT m).run (ts++r)=some (.ok (q,r)):=by
 obtain⟨N,k,hk,h⟩:=h
 refine⟨N+1,fun m hm r hr hl=>?_⟩
 obtain⟨m,rfl⟩:∃j,m=j+1:=⟨m-1,by omega⟩
 have hl':ts.length≤4000:=by simp only[List.length_append]at hl;omega
 have hs:Stop r:=by
  rcases hr with⟨t,rfl⟩|rfl
  ·exact .rp t
  ·exact .nil
 have h1:=h m (by omega) cg (by unfold cg;omega) r hs hl;rw[qT];refine h1.trans ?_
 obtain⟨j,hj⟩:∃j,cg-k=j+1:=⟨cg-k-1,by unfold cg;omega⟩
 rw[hj];rcases hr with⟨t,rfl⟩|rfl<;>rfl
theorem Claim.stage{q q':LQuery}{ts ts':List Tok}(h:Claim q ts)(h':∃N,∀m,N≤m→∀r,Stop r→(ts'++r).length≤4000→(sT m q).run (ts'++r)=some (.ok (q',r))):Claim q' (bk ts ts'):=by
 obtain⟨N,k,hk,h⟩:=h
 obtain⟨N',h'⟩:=h'
 refine⟨N+N',k+1,by simp;omega,fun m hm n hn r hr hl=>?_⟩
 have e:bk ts ts'++r=ts++(tP [124]::(ts'++r)):=by simp
 rw[e]at hl⊢;rw[h m (by omega) n (by omega) _ (.bar _) hl]
 obtain⟨j,hj⟩:∃j,n-k=j+1:=⟨n-k-1,by omega⟩
 rw[hj,stage_go (h' m (by omega) r hr (by simp only[List.length_append,List.length_cons]at hl⊢;omega)),show n-(k+1)=j from by omega]
theorem up1{m k:Nat}(h:k+1≤m):∃j,m=j+1∧k≤j:=⟨m-1,by omega,by omega⟩
theorem big_lt{n:Nat}(h:n≤4000):n<cg:=by unfold cg;omega
theorem kX{tss:List (List Tok)}{r:List Tok}(h:∀t∈tss,t≠[])(hl:(jt tss++r).length≤4000):tss.length<cg:=by
 have:=jt_len h
 simp only[List.length_append]at hl;exact big_lt (by omega)
theorem mq{q:LQuery}{ts:List Tok}(h:Claim q ts):∃N,∀m,N≤m→∀r,(inT ts++r).length≤4000→(iT m).run (inT ts++r)=some (.ok (q,r)):=by
 obtain⟨N,hN⟩:=h.parse
 refine⟨N+1,fun m hm r hl=>?_⟩
 obtain⟨j,rfl,hj⟩:=up1 hm
 have e:inT ts++r=tP [40]::(ts++(tP [41]::r)):=by simp
 rw[e]at hl⊢;rw[iT]
 show((qT j).bd fun q=>ex [41] (.rt q)).run (ts++(tP [41]::r))=_
 rw[dX (hN j hj _ (.inl ⟨_,rfl⟩) (by simp only[List.length_cons]at hl⊢;omega))];rfl
theorem second_run{q r0:LQuery}{tr:List Tok}{e:LExpr}{s':List UInt8}{ts':List Tok}(h:Claim r0 tr)(he:FE e s' ts'):∃N,∀m,N≤m→∀r,(inT tr++([tK [111,110]]++ts')++r).length≤4000→(s2T m q).run (inT tr++([tK [111,110]]++ts')++r)=some (.ok (LQuery.mk q.kind q.table q.names [e] q.aggregates q.descending q.count q.offset (q.inputs++[r0]),r)):=by
 obtain⟨N,hN⟩:=mq h
 refine⟨N+1,fun m hm r hl=>?_⟩
 obtain⟨j,rfl,hj⟩:=up1 hm
 have e1:inT tr++([tK [111,110]]++ts')++r=inT tr++(tK [111,110]::(ts'++r)):=by simp
 rw[e1]at hl⊢;rw[s2T];unfold jO;rw[dX (hN j hj _ hl),lq rfl,dX (he.parseM (by simp only[List.length_append,List.length_cons]at hl⊢;omega))];rfl
theorem FQ.claim{q:LQuery}{s:List UInt8}{ts:List Tok}(h:FQ q s ts):Claim q ts:=by
 induction h with
 |scan s h=>exact⟨0,0,by simp,fun m hm n hn r hr hl=>rfl⟩
 |filt hq h ih=>
  rename_i q s ts e s' ts';refine ih.stage ⟨1,fun m hm r hr hl=>?_⟩
  obtain⟨j,rfl,_⟩:=up1 (k:=0) hm
  rw[sT]
  show(eM.bd _).run (ts'++r)=_
  rw[dX (h.parseM (by simp only[List.length_append,List.length_cons,List.length_nil]at hl⊢;omega))];rfl
 |proj hq h h0 ih=>
  rename_i q s ts es ns ss tss;refine ih.stage ⟨1,fun m hm r hr hl=>?_⟩
  obtain⟨j,rfl,_⟩:=up1 (k:=0) hm
  rw[sT]
  show(lst (eA eM) cg (qmk 3 q)).run (jt tss++r)=_
  have hl':(jt tss++r).length≤4000:=by simp only[List.length_append,List.length_cons,List.length_nil]at hl⊢;omega
  rw[(h.it (qmk 3 q)).lst (h.ne.2 h0) (kX h.ne.1 hl') hr.behind hl'];simp[LQuery.kind,LQuery.table,LQuery.names,LQuery.exprs,LQuery.aggregates,LQuery.descending,LQuery.count,LQuery.offset,LQuery.inputs]
 |join hq hr h ih ihr=>
  rename_i q r0 s sr ts tr e s' ts'
  obtain⟨N,hN⟩:=second_run (q:=qmk 4 q) ihr h
  refine ih.stage ⟨N+1,fun m hm r hr hl=>?_⟩
  obtain⟨j,rfl,hj⟩:=up1 hm
  rw[sT]
  show(s2T j (qmk 4 q)).run (inT tr++([tK [111,110]]++ts')++r)=_
  rw[hN j hj r (by simp only[List.length_append,List.length_cons,List.length_nil]at hl⊢;omega)];rfl
 |left hq hr h ih ihr=>
  rename_i q r0 s sr ts tr e s' ts'
  obtain⟨N,hN⟩:=second_run (q:=qmk 5 q) ihr h
  refine ih.stage ⟨N+1,fun m hm r hr hl=>?_⟩
  obtain⟨j,rfl,hj⟩:=up1 hm
  rw[sT]
  show(s2T j (qmk 5 q)).run (inT tr++([tK [111,110]]++ts')++r)=_
  rw[hN j hj r (by simp only[List.length_append,List.length_cons,List.length_nil]at hl⊢;omega)];rfl
 |union hq hr ih ihr=>
  rename_i q r0 s sr ts tr
  obtain⟨N,hN⟩:=mq ihr
  refine ih.stage ⟨N+1,fun m hm r hr hl=>?_⟩
  obtain⟨j,rfl,hj⟩:=up1 hm
  rw[sT]
  show((iT j).bd _).run (inT tr++r)=_
  rw[dX (hN j hj r (by simp only[List.length_append,List.length_cons,List.length_nil]at hl⊢;omega))];rfl
 |except hq hr ih ihr=>
  rename_i q r0 s sr ts tr
  obtain⟨N,hN⟩:=mq ihr
  refine ih.stage ⟨N+1,fun m hm r hr hl=>?_⟩
  obtain⟨j,rfl,hj⟩:=up1 hm
  rw[sT]
  show((iT j).bd _).run (inT tr++r)=_
  rw[dX (hN j hj r (by simp only[List.length_append,List.length_cons,List.length_nil]at hl⊢;omega))];rfl
 |grp1 hq h h0 ih=>
  rename_i q s ts es ns ss tss;refine ih.stage ⟨1,fun m hm r hr hl=>?_⟩
  obtain⟨j,rfl,_⟩:=up1 (k:=0) hm
  rw[sT]
  show((lst (eA eM) cg (qmk 8 q)).bd fun q=>kw [97,103,103,114,101,103,97,116,101] (lst (gc eM) cg q) (.rt q)).run (jt tss++r)=_
  have hl':(jt tss++r).length≤4000:=by simp only[List.length_append,List.length_cons,List.length_nil]at hl⊢;omega
  rw[dX ((h.it (qmk 8 q)).lst (h.ne.2 h0) (kX h.ne.1 hl') hr.behind hl'),hr.kw [97,103,103,114,101,103,97,116,101]];simp[PT.run,LQuery.kind,LQuery.table,LQuery.names,LQuery.exprs,LQuery.aggregates,LQuery.descending,LQuery.count,LQuery.offset,LQuery.inputs]
 |grp2 hq h h0 ih=>
  rename_i q s ts gs ss tss;refine ih.stage ⟨1,fun m hm r hr hl=>?_⟩
  obtain⟨j,rfl,_⟩:=up1 (k:=0) hm
  rw[sT]
  show(lst (gc eM) cg (qmk 8 q)).run (jt tss++r)=_
  have hl':(jt tss++r).length≤4000:=by simp only[List.length_append,List.length_cons,List.length_nil]at hl⊢;omega
  rw[(h.it (qmk 8 q)).lst (h.ne.2 h0) (kX h.ne.1 hl') hr.behind hl'];simp[LQuery.kind,LQuery.table,LQuery.names,LQuery.exprs,LQuery.aggregates,LQuery.descending,LQuery.count,LQuery.offset,LQuery.inputs]
 |grp3 hq h h0 h' h0' ih=>
  rename_i q s ts es ns ss tss gs ss' tss';refine ih.stage ⟨1,fun m hm r hr hl=>?_⟩
  obtain⟨j,rfl,_⟩:=up1 (k:=0) hm
  rw[sT];have e1:[tK [103,114,111,117,112]]++([tK [98,121]]++(jt tss++([tK [97,103,103,114,101,103,97,116,101]]++jt tss')))++r=tK [103,114,111,117,112]::tK [98,121]::(jt tss++(tK [97,103,103,114,101,103,97,116,101]::(jt tss'++r))):=by simp
  rw[e1]at hl⊢
  show((lst (eA eM) cg (qmk 8 q)).bd fun q=>kw [97,103,103,114,101,103,97,116,101] (lst (gc eM) cg q) (.rt q)).run (jt tss++(tK [97,103,103,114,101,103,97,116,101]::(jt tss'++r)))=_
  have hl':(jt tss++(tK [97,103,103,114,101,103,97,116,101]::(jt tss'++r))).length≤4000:=by simp only[List.length_append,List.length_cons]at hl⊢;omega
  have hl2:(jt tss'++r).length≤4000:=by simp only[List.length_append,List.length_cons]at hl⊢;omega
  rw[dX ((h.it (qmk 8 q)).lst (h.ne.2 h0) (kX h.ne.1 hl') (.inr ⟨_,_,rfl,.inr (.inr rfl)⟩) hl')]
  show(lst (gc eM) cg _).run (jt tss'++r)=_
  rw[(h'.it _).lst (h'.ne.2 h0') (kX h'.ne.1 hl2) hr.behind hl2];simp[LQuery.kind,LQuery.table,LQuery.names,LQuery.exprs,LQuery.aggregates,LQuery.descending,LQuery.count,LQuery.offset,LQuery.inputs]
 |sort hq h h0 ih=>
  rename_i q s ts es ds ss tss;refine ih.stage ⟨1,fun m hm r hr hl=>?_⟩
  obtain⟨j,rfl,_⟩:=up1 (k:=0) hm
  rw[sT]
  show(lst (gD eM) cg (qmk 9 q)).run (jt tss++r)=_
  have hl':(jt tss++r).length≤4000:=by simp only[List.length_append,List.length_cons,List.length_nil]at hl⊢;omega
  rw[(h.it (qmk 9 q)).lst (h.ne.2 h0) (kX h.ne.1 hl') hr.behind hl'];simp[LQuery.kind,LQuery.table,LQuery.names,LQuery.exprs,LQuery.aggregates,LQuery.descending,LQuery.count,LQuery.offset,LQuery.inputs]
 |lim0 c hq h0 h1 ih=>
  rename_i q s ts;refine ih.stage ⟨1,fun m hm r hr hl=>?_⟩
  obtain⟨j,rfl,_⟩:=up1 (k:=0) hm
  rw[sT]
  show(kw [111,102,102,115,101,116] _ (.rt (LQuery.mk 10 [] [] [] [] [] c 0 [q]))).run r=_
  rw[hr.kw [111,102,102,115,101,116]];rfl
 |lim c o hq h0 h1 h2 h3 ih=>
  rename_i q s ts;refine ih.stage ⟨1,fun m hm r hr hl=>?_⟩
  obtain⟨j,rfl,_⟩:=up1 (k:=0) hm
  rw[sT];have e:(o==0)=false:=by simpa using(by omega:¬o=0)
  show(bif (true&& !(o==0))then some (Except.ok (LQuery.mk 10 [] [] [] [] [] c o [q],r))else some (.error (tN o::r)))=_
  rw[e];rfl
theorem FQ.parseM{q:LQuery}{s:List UInt8}{ts:List Tok}(h:FQ q s ts)(hl:ts.length≤4000):qM.run ts=some (.ok (q,[])):=by
 obtain⟨N,hN⟩:=h.claim.parse
 obtain⟨v,h1,h2⟩:=qM_st (m:=N+cg) hl (by omega) ts (Nat.le_refl _)
 have h3:=hN (N+cg) (by omega) [] (.inr rfl) (by simpa using hl);rw[List.append_nil,h2]at h3;rw[h1,h3]
end
end Go.Proofs.YtibojibdiibdgaaGreatDoor

namespace Go.Cx
noncomputable section
open Go Go.Ab
inductive DV where
 |bad
 |v (x:Value)
 |s (l:List UInt8)
 |a (l:List DV)
 |t (l:List DV)
 |p (id off:Nat)
 |l (id off row len:Nat)
 |e (id off:Nat)
 |f (g:FuncId) (caps:List DV)
 |i (t:TypeId) (d:DV)
inductive Tr (α:Type) where
 |nil
 |node (l:Tr α) (v:Option α) (r:Tr α)
def Tr.get{α:Type}:Tr α→Nat→Option α
 | .nil,_=>none
 | .node l v r,k=>bif Nat.beq k 0 then v else bif Nat.beq (k%2) 1 then l.get (k/2)else r.get (k/2-1)
def Tr.set{α:Type}:Nat→Tr α→Nat→α→Tr α
 |0,_,_,_=>.nil
 |n+1,.nil,k,x=>bif Nat.beq k 0 then .node .nil (some x) .nil else bif Nat.beq (k%2) 1 then .node (Tr.set n .nil (k/2) x) none .nil else .node .nil none (Tr.set n .nil (k/2-1) x)
 |n+1,.node l v r,k,x=>bif Nat.beq k 0 then .node l (some x) r else bif Nat.beq (k%2) 1 then .node (Tr.set n l (k/2) x) v r else .node l v (Tr.set n r (k/2-1) x)
structure Blk where
 e:TypeId
 sz:Nat
 cap:Option Nat
 wr:Bool
 cells:List DV
structure Hp where
 h:Tr (Option Blk)
 nx:Nat
def cK(h:Tr (Option Blk))(id:Nat):Option Blk:=match h.get id with
 |some b=>b
 |none=>none
def const1:Value→DV
 | .string x=>.s x.data.toList
 |x=>.v x
def constD:Value→DV
 | .agg cs=>.a (cs.toList.map const1)
 |x=>const1 x
def evD(s:Tr DV):Operand→DV
 | .tmp t=>(s.get t).getD .bad
 | .const x=>constD x
 | .global _=>.bad
 | .func g=>.f g []
def DV.one:DV→Bool
 | .v x=>x.oneCell'
 | .bad| .a _| .t _=>false
 |_=>true
def jW:DV→Option (List DV)
 | .a l=>bif l.all DV.one then some l else none
 |d=>bif d.one then some [d]else none
def readD(ti:TInfo)(off:Nat)(cells:List DV):Option DV:=
 bif iy ti.desc then(bif Nat.ble (off+ti.size) cells.length then some (.a ((cells.drop off).take ti.size))else none)
 else cells[off]?
def gn(cells:List DV)(off:Nat)(new:List DV):List DV:=cells.take off++new++cells.drop (off+new.length)
def iX(place:Nat→Option (Nat×Nat))(cells:List DV):List (Nat×DV)→Option (List DV)
 |[]=>some cells
 |(i,p)::r=>match place i,jW p with
  |some (off,size),some cs=>bif Nat.beq cs.length size&&Nat.ble (off+size) cells.length then iX place (gn cells off cs) r else none
  |_,_=>none
def gC(ti:TInfo):List DV:=ti.zero.cells.toList.map const1
def partsD(ev:Operand→DV)(ps:Array (Nat×Operand)):List (Nat×DV):=ps.toList.map fun p=>(p.1,ev p.2)
def buildD(T:TT)(t:TypeId)(parts:List (Nat×DV)):Option DV:=
 match T.get t with
 |some ti=>match ti.desc with
  | .struct fs=>match im T fs.toList with
   |some l=>(iX (fun(i:Nat)=>l[i]?) (gC ti) parts).map .a
   |none=>none
  |_=>none
 |none=>none
def mc:TypeDesc→DV→DV→Option Bool
 | .int _,.v (.int k a),.v (.int k' b)=>bif decide (k=k')then some (a==b)else none
 | .bool,.v (.bool a),.v (.bool b)=>some (a==b)
 | .string,.s a,.s b=>some (a==b)
 |_,_,_=>none
def gz(T:TT):List (Nat×Nat)→List DV→List DV→Option Bool
 |[],_,_=>some true
 |(t,off)::r,xs,ys=>match T.get t,xs[off]?,ys[off]? with
  |some ti,some p,some q=>match mc ti.desc p q,gz T r xs ys with
   |some b,some c=>some (b&&c)
   |_,_=>none
  |_,_,_=>none
def binD(T:TT)(op:BinOp)(t:TypeId)(p q:DV):Option DV:=
 match p,q with
 | .v (.int k a),.v (.int k' b)=>
  bif decide (k=k')then
   match op with
   | .add=>some (.v (.int k (k.wrap (a+b))))
   | .sub=>some (.v (.int k (k.wrap (a-b))))
   | .mul=>some (.v (.int k (k.wrap (a*b))))
   | .quo=>if b=0 then none else some (.v (.int k (k.wrap (a.tdiv b))))
   | .rem=>if b=0 then none else some (.v (.int k (a.tmod b)))
   |op=>(cmpInt op a b).map fun c=>.v (.bool c)
  else none
 | .s a,.s b=>match op with
  | .add=>if a.length+b.length≤dB then some (.s (a++b))else none
  |op=>(cmpStr op a b).map fun c=>.v (.bool c)
 | .v (.bool a),.v (.bool b)=>match T.get t,op with
  |some ⟨.bool,_,_,_,_⟩,.eql=>some (.v (.bool (a==b)))
  |some ⟨.bool,_,_,_,_⟩,.neq=>some (.v (.bool (!(a==b))))
  |_,_=>none
 | .a xs,.a ys=>match T.get t with
  |some ti=>bif ti.eqf.isEmpty then none else
   match op with
   | .eql=>(gz T ti.eqf xs ys).map fun c=>.v (.bool c)
   | .neq=>(gz T ti.eqf xs ys).map fun c=>.v (.bool (!c))
   |_=>none
  |none=>none
 |_,_=>none
def nilD(T:TT)(op:BinOp)(t:TypeId)(y:Operand)(p:DV):Option DV:=
 match y,p with
 | .const .nilIface,.v .nilIface=>match T.get t with
  |some ti=>match ti.desc,op with
   | .interface _,.eql=>some (.v (.bool true))
   | .interface _,.neq=>some (.v (.bool false))
   |_,_=>none
  |none=>none
 | .const (.slice none 0 0),p=>match T.get t with
  |some ti=>match ti.desc,op,p with
   | .slice _,.eql,.v (.slice none 0 0)=>some (.v (.bool true))
   | .slice _,.eql,.l _ _ _ _=>some (.v (.bool false))
   | .slice _,.eql,.e _ _=>some (.v (.bool false))
   |_,_,_=>none
  |none=>none
 |_,_=>none
def ke(p:Option DV)(dflt:Nat):Option Int:=
 match p with
 |none=>some dflt
 |some (.v (.int _ n))=>some n
 |_=>none
def sliceD(T:TT)(d:TypeDesc)(p:DV)(lo hi:Option DV):Option DV:=
 match d,p with
 | .string,.s l=>match ke lo 0,ke hi l.length with
  |some a,some b=>if 0≤a∧a≤b∧b≤l.length then some (.s ((l.take b.toNat).drop a.toNat))else none
  |_,_=>none
 | .slice e,.l id off row len=>match ke lo 0,ke hi len,T.get e with
   |some a,some b,some ei=>if 0≤a∧a≤b∧b≤len∧(a<len∨a=0)then some (.l id (off+a.toNat*ei.size) (row+a.toNat) (b.toNat-a.toNat))else none
   |_,_,_=>none
 |_,_=>none
def isZ:Option Operand→Bool
 |some (.const (.int .i64 n))=>n==0
 |_=>false
def emptyD(T:TT)(d:TypeDesc)(p:DV):Option DV:=
 match d with
 | .slice e=>match T.get e,p with
  |some _,.l id off _ _=>some (.e id off)
  |some _,.e id off=>some (.e id off)
  |some _,.v (.slice none 0 0)=>some p
  |_,_=>none
 |_=>none
def offD:DV→Nat→Option DV
 | .p id off,n=>some (.p id (off+n))
 |_,_=>none
def js:DV→Option Nat
 | .l _ _ _ n=>some n
 | .e _ _=>some 0
 | .v (.slice none 0 0)=>some 0
 |_=>none
def loadD(h:Tr (Option Blk))(ti:TInfo):DV→Option DV
 | .p id off=>match cK h id with
  |some b=>readD ti off b.cells
  |none=>none
 |_=>none
def noNilD:DV→Bool
 | .p _ _| .f _ _=>true
 |_=>false
def callD(T:TT)(c:Call)(ev:Operand→DV):Option DV:=
 match c.callee,c.args.toList,c.argTypes.toList with
 | .builtin .len,[x],t::_=>match T.get t with
  |some ti=>match ti.desc,ev x with
   | .string,.s l=>some (.v (.int .i64 l.length))
   | .slice _,p=>(js p).bind fun n=>some (.v (.int .i64 n))
   |_,_=>none
  |none=>none
 | .builtin .min,[x,y],_=>match ev x,ev y with
  | .v (.int k a),.v (.int _ b)=>some (.v (.int k (if b<a then b else a)))
  |_,_=>none
 | .builtin .max,[x,y],_=>match ev x,ev y with
  | .v (.int k a),.v (.int _ b)=>some (.v (.int k (if b>a then b else a)))
  |_,_=>none
 |_,_,_=>none
def ek(T:TT)(h:Tr (Option Blk))(op:Op)(ev:Operand→DV):Option DV:=
 match op with
 | .move x| .assign x=>some (ev x)
 | .pick c a b=>match ev c with
  | .v (.bool true)=>some (ev a)
  | .v (.bool false)=>some (ev b)
  |_=>none
 | .load t x=>match T.get t with
  |some ti=>loadD h ti (ev x)
  |none=>none
 | .fieldAddr t x f=>match T.get t with
  |some ti=>match ti.desc with
   | .struct fs=>match fs[f]? with
    |some fd=>match T.get fd.type with
     |some fi=>bif Nat.beq fi.size 0 then none else offD (ev x) fd.offset
     |none=>none
    |none=>none
   |_=>none
  |none=>none
 | .field t x f=>match T.get t with
  |some ti=>match ti.desc with
   | .struct fs=>match fs[f]? with
    |some fd=>match T.get fd.type,ev x with
     |some fi,.a cells=>readD fi fd.offset cells
     |_,_=>none
    |none=>none
   |_=>none
  |none=>none
 | .indexAddr t x i=>match T.get t,ev x,ev i with
  |some ti,.l id off _ len,.v (.int _ n)=>match ti.desc with
   | .slice e=>match T.get e with
    |some ei=>if 0≤n∧n<len then some (.p id (off+n.toNat*ei.size))else none
    |none=>none
   |_=>none
  |some ti,.p id off,.v (.int _ n)=>match ti.desc with
   | .array len e=>match T.get e with
    |some ei=>if 0≤n∧n<len then some (.p id (off+n.toNat*ei.size))else none
    |none=>none
   |_=>none
  |_,_,_=>none
 | .index t x i=>match T.get t,ev x,ev i with
  |some ti,.s l,.v (.int _ n)=>match ti.desc with
   | .string=>if 0≤n then(l[n.toNat]?).map fun c=>.v (.int .u8 c.toNat)else none
   |_=>none
  |_,_,_=>none
 | .binOp op t x y _=>match nilD T op t y (ev x)with
  |some r=>some r
  |none=>binD T op t (ev x) (ev y)
 | .unOp op _ x=>match op,ev x with
  | .not,.v (.bool b)=>some (.v (.bool (!b)))
  | .neg,.v (.int k n)=>some (.v (.int k (k.wrap (0-n))))
  |_,_=>none
 | .convert src dst x=>match T.get src,T.get dst,ev x with
  |some _,some ti,.v (.int _ n)=>match ti.desc with
   | .int k=>some (.v (.int k (k.wrap n)))
   |_=>none
  |some _,some ti,.s l=>match ti.desc with
   | .string=>some (.s l)
   |_=>none
  |_,_,_=>none
 | .extract x i=>match ev x with
  | .t vs=>vs[i]?
  |_=>none
 | .build t ps=>buildD T t (partsD ev ps)
 | .slice t x lo hi mx=>match T.get t with
  |some ti=>match mx with
   |none=>sliceD T ti.desc (ev x) (lo.map ev) (hi.map ev)
   |some m=>bif isZ lo&&isZ hi&&isZ (some m)then emptyD T ti.desc (ev x)else none
  |none=>none
 | .makeFunc (.func f) first caps=>bif first.isEmpty then some (.f f (caps.toList.map ev))else none
 | .nilCheck x=>bif noNilD (ev x)then some (ev x)else none
 | .call c=>callD T c ev
 |_=>none
def iO(n:Nat)(l:List DV):List DV:=match n with
 |0=>[]
 |n+1=>l++iO n l
def newD(H:Hp)(b:Blk):Hp:=⟨H.h.set 24 H.nx (some b),H.nx+1⟩
def srcD(h:Tr (Option Blk))(size:Nat):DV→Option (List DV)
 | .l id off _ len=>match cK h id with
  |some b=>bif Nat.ble (off+len*size) b.cells.length then some ((b.cells.drop off).take (len*size))else none
  |none=>none
 | .v (.slice none 0 0)| .e _ _=>some []
 |_=>none
def appendD(H:Hp)(e:TypeId)(size bytes:Nat)(x:DV)(new:List DV)(n:Nat):Option (DV×Hp):=
 bif Nat.beq n 0 then(match js x with|some _=>some (x,H)|none=>none)else
 match x with
 | .v (.slice none 0 0)| .e _ _=>bif Nat.ble (n*bytes) 1000000&&Nat.ble n 1000000 then some (.l H.nx 0 0 n,newD H ⟨e,size,none,true,new⟩)else none
 | .l id off row len=>match cK H.h id with
  |some b=>
   bif b.wr&&Nat.beq b.e e&&Nat.beq b.sz size&&Nat.beq off 0&&Nat.beq row 0&&Nat.beq b.cells.length (len*size)&&Nat.ble ((len+n)*bytes) 1000000&&Nat.ble (len+n) 1000000 then
    some (.l H.nx 0 0 (len+n),newD ⟨H.h.set 24 id none,H.nx⟩ ⟨e,size,none,true,b.cells++new⟩)
   else none
  |none=>none
 |_=>none
def gM(T:TT)(op:Op)(ev:Operand→DV)(id:Nat):Option (DV×Blk):=
 match op with
 | .alloc t=>match T.get t with
  |some ti=>some (.p id 0,⟨t,0,none,true,gC ti⟩)
  |none=>none
 | .box t x=>match jW (ev x)with
  |some cs=>some (.p id 0,⟨t,0,none,true,cs⟩)
  |none=>none
 | .buildSlice t n ps=>match T.get t with
  |some ti=>match ti.desc with
   | .slice e=>match T.get e with
    |some ei=>bif Nat.ble (n*ei.bytes) 1000000&&Nat.blt 0 ei.size&&Nat.ble (n*ei.size) 1000000&&Nat.beq ei.zero.cells.size ei.size then match iX (fun i=>some (i*ei.size,ei.size)) (iO n (gC ei)) (partsD ev ps)with
      |some cs=>some (.l id 0 0 n,⟨e,ei.size,some n,true,cs⟩)
      |none=>none
     else none
    |none=>none
   |_=>none
  |none=>none
 |_=>none
def gu(T:TT)(H:Hp)(op:Op)(ev:Operand→DV):Option (DV×Hp):=
 match op with
 | .store t x y=>match T.get t,ev x,jW (ev y)with
  |some ti,.p id off,some cs=>match cK H.h id with
   |some b=>bif b.wr&&Nat.beq cs.length ti.size&&Nat.ble (off+ti.size) b.cells.length then some (.bad,⟨H.h.set 24 id (some ⟨b.e,b.sz,b.cap,b.wr,gn b.cells off cs⟩),H.nx⟩)else none
   |none=>none
  |_,_,_=>none
 | .convert src dst x=>match T.get src,T.get dst,ev x with
  |some si,some ti,.s l=>match si.desc,ti.desc with
   | .string,.slice e=>match T.get e with
    |some ei=>match ei.desc with
     | .int .u8=>bif Nat.beq ei.size 1&&Nat.ble l.length 1000000 then some (.l H.nx 0 0 l.length,newD H ⟨e,1,none,false,l.map fun c=>.v (.int .u8 c.toNat)⟩)else none
     |_=>none
    |none=>none
   |_,_=>none
  |_,_,_=>none
 | .call ⟨.builtin .clear,av0,ts⟩=>match av0.toList,ts.toList with
  |[x],[t]=>match T.get t,ev x with
   |some ti,.l id off _ n=>match ti.desc,cK H.h id with
    | .slice e,some b=>match T.get e with
     |some ei=>bif Nat.beq n 0 then some (.t [],H)else bif b.wr&&(gC ei).all DV.one&&Nat.beq ei.zero.cells.size ei.size&&Nat.ble (off+n*ei.size) b.cells.length then
       some (.t [],⟨H.h.set 24 id (some ⟨b.e,b.sz,b.cap,b.wr,gn b.cells off (iO n (gC ei))⟩),H.nx⟩)else none
     |none=>none
    |_,_=>none
   |_,_=>none
  |_,_=>none
 | .call ⟨.builtin .append,av0,ts⟩=>match av0.toList,ts.toList with
  |[x,y],[t,t']=>bif Nat.beq t t' then match T.get t with
   |some ti=>match ti.desc with
    | .slice e=>match T.get e with
     |some ei=>match srcD H.h ei.size (ev y),js (ev y)with
      |some new,some n=>bif Nat.blt 0 ei.size&&Nat.beq ei.zero.cells.size ei.size&&new.all DV.one then appendD H e ei.size ei.bytes (ev x) new n else none
      |_,_=>none
     |none=>none
    |_=>none
   |none=>none
   else none
  |_,_=>none
 |_=>none
def loudD(T:TT)(H:Hp)(op:Op)(ev:Operand→DV):Option (DV×Hp):=
 match gM T op ev H.nx with
 |some (d,b)=>some (d,newD H b)
 |none=>gu T H op ev
def isLoud:Op→Bool
 | .alloc _| .box _ _| .store _ _ _| .buildSlice _ _ _| .makeSlice _ _ _| .defer _=>true
 | .convert _ _ _=>true
 | .call ⟨.builtin .len,_,_⟩| .call ⟨.builtin .min,_,_⟩| .call ⟨.builtin .max,_,_⟩=>false
 | .call _=>true
 |_=>false
structure St where
 n:Nat
 s:Tr DV
 H:Hp
 df:List (FuncId×List DV)
abbrev ew:=FuncId→List DV→Hp→Option (DV×Hp)
def oneD(T:TT)(call:ew)(op:Op)(ev:Operand→DV)(H:Hp):Option (DV×Hp):=
 match ek T H.h op ev with
 |some r=>some (r,H)
 |none=>match loudD T H op ev with
  |some x=>some x
  |none=>match op with
   | .call ⟨.value fx,av0,_⟩=>match ev fx with
    | .f g caps=>call g (av0.toList.map ev++caps) H
    |_=>none
   |_=>none
def cC(ops:Array Oper)(s:Tr DV)(o:Oper):Option Bool:=
 match o.guard with
 |none=>some true
 |some (j,want)=>match(ops[j]?).bind (·.dst)with
  |some d=>match s.get d with
   |some (.v (.bool b))=>some (b==want)
   |some (.t [])=>some false
   |_=>none
  |none=>none
def eD(n:Nat)(s:Tr DV)(dst:Option Tmp)(d:DV):Option (Tr DV):=match dst with
 |none=>some s
 |some k=>bif Nat.blt k n then some (s.set 16 k d)else none
def headD:DV→Bool
 | .v (.int _ n)=>match n with
  | .ofNat k=>Nat.beq k k
  | .negSucc k=>Nat.beq k k
 |_=>true
def stepD(T:TT)(call:ew)(ops:Array Oper)(o:Oper)(st:St):Option St:=
 match cC ops st.s o with
 |some true=>match o.op with
  | .defer ⟨.value fx,av0,_⟩=>bif av0.isEmpty then(match evD st.s fx with
    | .f g caps=>(eD st.n st.s o.dst (.t [])).map fun s=>⟨st.n,s,st.H,(g,caps)::st.df⟩
    |_=>none)else none
  |op=>match oneD T call op (evD st.s) st.H with
   |some (d,H)=>bif headD d then(eD st.n st.s o.dst d).map fun s=>⟨st.n,s,H,st.df⟩else none
   |none=>none
 |some false=>(eD st.n st.s o.dst (.t [])).map fun s=>⟨st.n,s,st.H,st.df⟩
 |none=>none
def opsD(T:TT)(call:ew)(ops:Array Oper):List Oper→St→Option St
 |[],st=>some st
 |o::r,st=>match stepD T call ops o st with
  |some st'=>opsD T call ops r st'
  |none=>none
inductive Ex where
 |nm|rt|ex (j:Nat)
def resD(T:TT)(st:St):ResultVar→Option DV
 | .tmp t=>match st.s.get t with
  |some .bad=>none
  |x=>x
 | .cell a t=>match T.get t,st.s.get a with
  |some ti,some d=>loadD st.H.h ti d
  |_,_=>none
def hZ(T:TT)(st:St):List ResultVar→Option (List DV)
 |[]=>some []
 |r::rs=>match resD T st r,hZ T st rs with
  |some d,some ds=>some (d::ds)
  |_,_=>none
def tupD:List DV→DV
 |[d]=>d
 |ds=>.t ds
def jz(l:List DV):Tr DV:=(l.foldl (fun(x:Tr DV×Nat) d=>(x.1.set 16 x.2 d,x.2+1)) (.nil,0)).1
def eqVal:Value→Value→Bool
 | .int k a,.int k' b=>decide (k=k')&&(a==b)
 | .bool a,.bool b=>a==b
 | .slice none n c,.slice none n' c'=>Nat.beq n n'&&Nat.beq c c'
 | .pointer none,.pointer none=>true
 | .nilIface,.nilIface=>true
 | .nilFunc,.nilFunc=>true
 |_,_=>false
mutual
def eqV:DV→DV→Bool
 | .v x,.v y=>eqVal x y
 | .s a,.s b=>a==b
 | .a l,.a l'=>eqVL l l'
 | .t l,.t l'=>eqVL l l'
 | .p i o,.p i' o'=>Nat.beq i i'&&Nat.beq o o'
 | .l i o r n,.l i' o' r' n'=>Nat.beq i i'&&Nat.beq o o'&&Nat.beq r r'&&Nat.beq n n'
 | .e i o,.e i' o'=>Nat.beq i i'&&Nat.beq o o'
 | .f g l,.f g' l'=>Nat.beq g g'&&eqVL l l'
 |_,_=>false
def eqVL:List DV→List DV→Bool
 |[],[]=>true
 |x::xs,y::ys=>eqV x y&&eqVL xs ys
 |_,_=>false
end
def my:Op→Bool
 | .store _ _ _=>true
 |_=>false
def fM(o:Oper):Bool:=match o.op with| .alloc _| .box _ _| .buildSlice _ _ _=>true|_=>false
def dC(o:Oper):Bool:=isLoud o.op&& !fM o
structure DS where
 st:St
 pd:List (Nat×Blk)
def gK(nx0:Nat)(H:Hp)(l:List (Nat×Blk)):Hp:=l.foldl (fun H x=>⟨H.h.set 24 (nx0+x.1) (some x.2),H.nx⟩) H
def stepR(T:TT)(call:ew)(ops:Array Oper)(b:Array Nat)(nx0 i:Nat)(o:Oper)(ds:DS):Option DS:=
 bif fM o then match cC ops ds.st.s o with
  |some true=>match gM T o.op (evD ds.st.s) (nx0+i)with
   |some (d,k)=>(eD ds.st.n ds.st.s o.dst d).map fun s=>⟨⟨ds.st.n,s,ds.st.H,ds.st.df⟩,ds.pd++[(i,k)]⟩
   |none=>none
  |some false=>(eD ds.st.n ds.st.s o.dst (.t [])).map fun s=>⟨⟨ds.st.n,s,ds.st.H,ds.st.df⟩,ds.pd⟩
  |none=>none
 else bif dC o then match stepD T call ops o ⟨ds.st.n,ds.st.s,gK nx0 ds.st.H (ds.pd.filter fun x=>(b.getD i 0).testBit x.1),ds.st.df⟩with
  |some st'=>some ⟨st',ds.pd.filter fun x=>!(b.getD i 0).testBit x.1⟩
  |none=>none
 else match cC ops ds.st.s o with
  |some true=>match ek T ds.st.H.h o.op (evD ds.st.s)with
   |some d=>bif headD d then(eD ds.st.n ds.st.s o.dst d).map fun s=>⟨⟨ds.st.n,s,ds.st.H,ds.st.df⟩,ds.pd⟩else none
   |none=>none
  |some false=>(eD ds.st.n ds.st.s o.dst (.t [])).map fun s=>⟨⟨ds.st.n,s,ds.st.H,ds.st.df⟩,ds.pd⟩
  |none=>none
def traceR(T:TT)(call:ew)(ops:Array Oper)(b:Array Nat)(nx0:Nat):Nat→List Oper→DS→Option (List DS)
 |_,[],ds=>some [ds]
 |i,o::r,ds=>match stepR T call ops b nx0 i o ds with
  |some ds'=>match traceR T call ops b nx0 (i+1) r ds' with
   |some l=>some (ds::l)
   |none=>none
  |none=>none
def pairsOk(ops:Array Oper)(b:Array Nat):Bool:=
 (List.range ops.size).all fun j=>(List.range j).all fun i=>(b.getD j 0).testBit i||match ops[i]?,ops[j]? with
  |some x,some y=>x.apart ops y
  |_,_=>false
def unord(ops:Array Oper)(b:Array Nat):List (Nat×Nat):=
 (List.range ops.size).flatMap fun j=>((List.range j).filter fun i=>!(b.getD j 0).testBit i&&(match ops[i]?,ops[j]? with
  |some x,some y=>dC x&&dC y
  |_,_=>false)).map fun i=>(i,j)
def edgesOk(ops:Array Oper):Bool:=(List.range ops.size).all fun j=>match ops[j]? with
 |some o=>o.after.all fun e=>!Region.binds .any e||Nat.blt e.on j
 |none=>true
def bL(ops:Array Oper)(j:Nat):Bool:=match ops[j]? with|some y=>dC y|none=>false
def mF(ops:Array Oper)(b:Array Nat):List (Nat×List Nat):=
 (List.range ops.size).filterMap fun i=>match ops[i]? with
  |some o=>bif dK o.op then some (i,(0::(((List.range ops.size).filter (bL ops)).map (·+1))).filter fun k=>
    (List.range ops.size).all fun j=>!bL ops j||(bif Nat.blt j k then !(b.getD j 0).testBit i else !(b.getD i 0).testBit j))else none
  |none=>none
def pairAt(ops:Array Oper)(b:Array Nat)(i j:Nat):Bool:=
 (List.range ops.size).all fun k=>match ops[k]? with
  |some o=>(!dC o||Nat.blt k i||Nat.beq k i||Nat.beq k j)&&(!(fM o||dK o.op)||((b.getD i 0).testBit k&&(b.getD j 0).testBit k))&&
    (!(Nat.beq k i||Nat.beq k j)||(o.guard.isNone&&my o.op))
  |none=>true
def staticOk(ops:Array Oper):Bool:=iI ops (Region.before ops)&&edgesOk ops&&pairsOk ops (Region.before ops)&&ops.all (fun o=>match o.op with| .defer _=>false|_=>true)
def addrOf(o:Oper)(s:Tr DV):Option Nat:=match o.op with
 | .store _ x _=>match evD s x with
  | .p id _=>some id
  |_=>none
 |_=>none
def swapD(T:TT)(ops:Array Oper)(tr:List DS)(i j:Nat):Bool:=
 match ops[i]?,ops[j]?,tr[i]?,tr[j]? with
 |some x,some y,some di,some dj=>match addrOf x di.st.s,addrOf y dj.st.s,gu T di.st.H y.op (evD dj.st.s)with
  |some a,some c,some (_,H3)=>di.pd.isEmpty&& !(Nat.beq a c)&&Nat.blt a 1000000&&Nat.blt c 1000000&&(gu T H3 x.op (evD di.st.s)).isSome
  |_,_,_=>false
 |_,_,_,_=>false
def mw(T:TT)(ops:Array Oper)(tr:List DS):Bool:=
 match unord ops (Region.before ops)with
 |[]=>true
 |[(i,j)]=>pairAt ops (Region.before ops) i j&&swapD T ops tr i j
 |_=>false
def loadOk(T:TT)(ops:Array Oper)(tr:List DS)(i:Nat)(ks:List Nat):Bool:=
 match ops[i]?,tr[i]? with
 |some o,some ds=>match cC ops ds.st.s o with
  |some true=>match ek T ds.st.H.h o.op (evD ds.st.s)with
   |some d=>ks.all fun k=>match tr[k]? with
    |some ds'=>match ek T ds'.st.H.h o.op (evD ds.st.s)with
     |some d'=>eqV d d'
     |none=>false
    |none=>false
   |none=>false
  |some false=>true
  |none=>false
 |_,_=>false
def drawD(T:TT)(call:ew)(ops:Array Oper)(st:St):Option St:=
 bif staticOk ops then
  match traceR T call ops (Region.before ops) st.H.nx 0 ops.toList ⟨⟨st.n,st.s,⟨st.H.h,st.H.nx+ops.size⟩,st.df⟩,[]⟩with
  |some tr=>bif (mF ops (Region.before ops)).all (fun x=>loadOk T ops tr x.1 x.2)&&mw T ops tr then
    match tr[ops.size]? with
    |some ds=>some ⟨ds.st.n,ds.st.s,gK st.H.nx ds.st.H ds.pd,ds.st.df⟩
    |none=>none
   else none
  |none=>none
 else none
def iu(P:Program)(T:TT)(D:FuncId→Bool)(run:Code→St→Option (Ex×St)):ew:=fun g args H=>
 match P.funcs[g]? with
 |some fn=>match fn.body with
  |some c=>bif Nat.ble args.length fn.ntmps then
    match run c ⟨fn.ntmps,jz args,H,[]⟩with
    |some (.nm,st)|some (.rt,st)=>bif st.df.all fun x=>D x.1 then(hZ T st fn.results.toList).map fun ds=>(tupD ds,st.H)else none
    |_=>none
   else none
  |none=>none
 |none=>none
def eh(P:Program)(T:TT)(D:FuncId→Bool):Nat→Code→St→Option (Ex×St)
 |0,_,_=>none
 |n+1,c,st=>match c with
  | .skip=>some (.nm,st)
  | .region _ ops false=>(opsD T (iu P T D (eh P T D n)) ops ops.toList st).map fun s=>(.nm,s)
  | .region _ ops true=>(drawD T (iu P T D (eh P T D n)) ops st).map fun s=>(.nm,s)
  | .seq x y=>match eh P T D n x st with
   |some (.nm,st')=>eh P T D n y st'
   |r=>r
  | .cond c x y=>match evD st.s c with
   | .v (.bool true)=>eh P T D n x st
   | .v (.bool false)=>eh P T D n y st
   |_=>none
  | .block id c=>match eh P T D n c st with
   |some (.ex j,st')=>bif Nat.beq j id then some (.nm,st')else some (.ex j,st')
   |r=>r
  | .loop x=>match eh P T D n x st with
   |some (.nm,st')=>eh P T D n (.loop x) st'
   |r=>r
  | .exit id=>some (.ex id,st)
  | .ret=>some (.rt,st)
  |_=>none
end
end Go.Cx

namespace Go.Cx
noncomputable section
open Go Go.Ab
open Go.RowKit (Below)
abbrev Be:=Nat→Option (Nat×Nat)
def Be.le(β β':Be):Prop:=∀k x,β k=some x→β' k=some x
theorem Be.rfl'{β:Be}:β.le β:=fun _ _ h=>h
theorem Be.trans{β β' β'':Be}(h:β.le β')(h':β'.le β''):β.le β'':=fun k x e=>h' k x (h k x e)
structure Ext(β β':Be)(nx nx':Nat):Prop where
 le:β.le β'
 old:∀id,id<nx→β' id=β id
 nx:nx≤nx'
theorem Ext.rfl'{β:Be}{n:Nat}:Ext β β n n:=⟨Be.rfl',fun _ _=>rfl,Nat.le_refl _⟩
theorem Ext.trans{β β' β'':Be}{n n' n'':Nat}(h:Ext β β' n n')(h':Ext β' β'' n' n''):Ext β β'' n n'':=
 ⟨Be.trans h.le h'.le,fun id hid=>(h'.old id (Nat.lt_of_lt_of_le hid h.nx)).trans (h.old id hid),Nat.le_trans h.nx h'.nx⟩
mutual
def R(β:Be):DV→Value→Prop
 | .bad,_=>True
 | .v x,y=>y=x
 | .s l,y=>y= .string ⟨l.toArray⟩
 | .a ds,y=>∃cs:Array Value,y= .agg cs∧RL β ds cs.toList
 | .t ds,y=>∃cs:Array Value,y= .tuple cs∧RL β ds cs.toList
 | .p id off,y=>∃b c,β id=some (b,c)∧y= .pointer (some ⟨b,off,none⟩)
 | .l id off row len,y=>∃b c,β id=some (b,c)∧row+len≤c∧y= .slice (some ⟨b,off,none⟩) len (c-row)
 | .e id off,y=>∃b c,β id=some (b,c)∧y= .slice (some ⟨b,off,none⟩) 0 0
 | .f g caps,y=>∃cs:Array Value,y= .func (.func g) #[] cs∧RL β caps cs.toList
 | .i _ _,_=>False
def RL(β:Be):List DV→List Value→Prop
 |[],vs=>vs=[]
 |d::ds,vs=>∃x xs,vs=x::xs∧R β d x∧RL β ds xs
end
section
variable{β β':Be}
mutual
theorem R.mono(h:β.le β'):∀{d:DV} {y:Value},R β d y→R β' d y
 | .bad,_,_=>by simp only[R]
 | .v _,_,e=>by simpa only[R]using e
 | .s _,_,e=>by simpa only[R]using e
 | .a ds,_,e=>by
  simp only[R]at e⊢
  obtain⟨cs,h1,h2⟩:=e
  exact⟨cs,h1,RL.mono h h2⟩
 | .t ds,_,e=>by
  simp only[R]at e⊢
  obtain⟨cs,h1,h2⟩:=e
  exact⟨cs,h1,RL.mono h h2⟩
 | .p id off,_,e=>by
  simp only[R]at e⊢
  obtain⟨b,c,h1,h2⟩:=e
  exact⟨b,c,h _ _ h1,h2⟩
 | .l id off row len,_,e=>by
  simp only[R]at e⊢
  obtain⟨b,c,h1,h2⟩:=e
  exact⟨b,c,h _ _ h1,h2⟩
 | .e id off,_,e=>by
  simp only[R]at e⊢
  obtain⟨b,c,h1,h2⟩:=e
  exact⟨b,c,h _ _ h1,h2⟩
 | .f g caps,_,e=>by
  simp only[R]at e⊢
  obtain⟨cs,h1,h2⟩:=e
  exact⟨cs,h1,RL.mono h h2⟩
 | .i _ _,_,e=>by simp only[R]at e
theorem RL.mono(h:β.le β'):∀{ds:List DV} {ys:List Value},RL β ds ys→RL β' ds ys
 |[],_,e=>by simpa only[RL]using e
 |d::ds,_,e=>by
  simp only[RL]at e⊢
  obtain⟨x,xs,h1,h2,h3⟩:=e
  exact⟨x,xs,h1,R.mono h h2,RL.mono h h3⟩
end
theorem RL.length:∀{ps:List DV} {xs:List Value},RL β ps xs→xs.length=ps.length
 |[],_,h=>by simp only[RL]at h;simp[h]
 |p::ps,_,h=>by
  simp only[RL]at h
  obtain⟨x,xs,rfl,_,h3⟩:=h
  simp[RL.length h3]
theorem RL.get:∀{ps:List DV} {xs:List Value},RL β ps xs→∀(j:Nat) (p:DV),ps[j]? =some p→∃x,xs[j]? =some x∧R β p x
 |[],_,_,j,p,hp=>by simp at hp
 |q::ps,_,h,j,p,hp=>by
  simp only[RL]at h
  obtain⟨x,xs,rfl,h2,h3⟩:=h
  cases j with
  |zero=>simp at hp;subst hp;exact⟨x,rfl,h2⟩
  |succ j=>simpa using RL.get h3 j p (by simpa using hp)
theorem RL.append:∀{ps qs:List DV} {xs ys:List Value},RL β ps xs→RL β qs ys→RL β (ps++qs) (xs++ys)
 |[],_,_,_,h,h'=>by simp only[RL]at h;subst h;simpa using h'
 |p::ps,_,_,_,h,h'=>by
  simp only[RL]at h
  obtain⟨x,xs,rfl,h2,h3⟩:=h
  simp only[List.cons_append,RL]
  exact⟨x,_,rfl,h2,RL.append h3 h'⟩
theorem RL.take:∀{ps:List DV} {xs:List Value} (n:Nat),RL β ps xs→RL β (ps.take n) (xs.take n)
 |[],_,n,h=>by simp only[RL]at h;subst h;simp[RL]
 |p::ps,_,0,h=>by simp[RL]
 |p::ps,_,n+1,h=>by
  simp only[RL]at h
  obtain⟨x,xs,rfl,h2,h3⟩:=h
  simp only[List.take_succ_cons,RL]
  exact⟨x,_,rfl,h2,RL.take n h3⟩
theorem RL.drop:∀{ps:List DV} {xs:List Value} (n:Nat),RL β ps xs→RL β (ps.drop n) (xs.drop n)
 |[],_,n,h=>by simp only[RL]at h;subst h;simp[RL]
 |p::ps,_,0,h=>by simpa using h
 |p::ps,_,n+1,h=>by
  simp only[RL]at h
  obtain⟨x,xs,rfl,h2,h3⟩:=h
  simp only[List.drop_succ_cons];exact RL.drop n h3
theorem R.const1(x:Value):R β (const1 x) x:=by
 cases x<;>simp[Cx.const1,R]
theorem ir(l:List Value):RL β (l.map Cx.const1) l:=by
 induction l with
 |nil=>simp[RL]
 |cons v l ih=>simp only[List.map_cons,RL];exact⟨v,l,rfl,R.const1 v,ih⟩
theorem R.const(x:Value):R β (constD x) x:=by
 cases x
 case agg cs=>simp only[constD,R];exact⟨cs,rfl,ir cs.toList⟩
 all_goals (simp only[constD];exact R.const1 _)
theorem R.oneCell{d:DV}{x:Value}(h1:d.one=true)(h:R β d x):x.oneCell'=true:=by
 cases d with
 |bad=>simp[DV.one]at h1
 |v y=>simp only[R]at h;subst h;simpa[DV.one]using h1
 |s l=>simp only[R]at h;rw[h];rfl
 |a l=>simp[DV.one]at h1
 |t l=>simp[DV.one]at h1
 |p i o=>simp only[R]at h;obtain⟨b,c,_,rfl⟩:=h;rfl
 |l i o r n=>simp only[R]at h;obtain⟨b,c,_,_,rfl⟩:=h;rfl
 |e i o=>simp only[R]at h;obtain⟨b,c,_,rfl⟩:=h;rfl
 |f g cs=>simp only[R]at h;obtain⟨c,rfl,_⟩:=h;rfl
 |i t d=>simp only[R]at h
theorem RL.oneCell:∀{ps:List DV} {xs:List Value},ps.all DV.one=true→RL β ps xs→∀x∈xs,x.oneCell'=true
 |[],_,_,h=>by simp only[RL]at h;subst h;simp
 |p::ps,_,h1,h=>by
  simp only[RL]at h
  obtain⟨x,xs,rfl,h2,h3⟩:=h
  simp only[List.all_cons,Bool.and_eq_true]at h1;intro y hy;rcases List.mem_cons.1 hy with rfl|hy
  ·exact R.oneCell h1.1 h2
  ·exact RL.oneCell h1.2 h3 y hy
theorem kn{d:DV}{x:Value}{cs:List DV}(h:jW d=some cs)(hr:R β d x):RL β cs x.cells.toList∧∀y∈x.cells.toList,y.oneCell'=true:=by
 have single:d.one=true→x.cells=#[x]∧x.oneCell'=true:=by
  intro h1
  have:=R.oneCell h1 hr
  refine⟨?_,this⟩
  cases x<;>simp_all[Value.oneCell',Value.cells]
 cases d with
 |a l=>
  simp only[jW]at h;cases ho:l.all DV.one with
  |false=>simp[ho]at h
  |true=>
   simp only[ho,zc,zo]at h;subst h;simp only[R]at hr
   obtain⟨c,rfl,hc⟩:=hr
   exact⟨hc,RL.oneCell ho hc⟩
 |_=>
  simp only[jW]at h;cases ho:DV.one _ with
  |false=>rw[ho]at h;simp at h
  |true=>
   rw[ho]at h;simp only[zc,zo]at h;subst h;rw[(single ho).1];simp only[RL]
   exact⟨⟨x,[],rfl,hr,rfl⟩,by simpa using(single ho).2⟩
theorem mR{cells new:List DV}{cs ns:List Value}(hc:RL β cells cs)(hn:RL β new ns)(off:Nat):
  RL β (gn cells off new) (cs.take off++ns++cs.drop (off+ns.length)):=by
 unfold gn;rw[hn.length]
 exact((hc.take off).append hn).append (hc.drop _)
theorem lI{cells new:List DV}{off:Nat}(h:off+new.length≤cells.length):(gn cells off new).length=cells.length:=by
 simp only[gn,List.length_append,List.length_take,List.length_drop];omega
theorem kP{place:Nat→Option (Nat×Nat)}:∀{parts:List (Nat×DV)} {vals:List (Nat×Value)} {cells out:List DV} {cs:Array Value},
  iX place cells parts=some out→RL β cells cs.toList→parts.map (·.1)=vals.map (·.1)→RL β (parts.map (·.2)) (vals.map (·.2))→
  ∃cs',Instr.fill place cs vals=some cs'∧RL β out cs'.toList∧((∀x∈cs.toList,x.oneCell'=true)→∀x∈cs'.toList,x.oneCell'=true)
 |[],vals,cells,out,cs,h,hc,hi,hv=>by
  simp only[iX,zo]at h;subst h
  have:vals=[]:=by cases vals<;>simp_all
  subst this
  exact⟨cs,rfl,hc,id⟩
 |(i,p)::r,[],cells,out,cs,h,hc,hi,hv=>by simp at hi
 |(i,p)::r,(j,v)::vs,cells,out,cs,h,hc,hi,hv=>by
  simp only[List.map_cons,List.cons.injEq]at hi
  obtain⟨rfl,hi⟩:=hi
  simp only[List.map_cons,RL]at hv
  obtain⟨x,xs,hxe,hpx,hrest⟩:=hv
  simp only[List.cons.injEq]at hxe
  obtain⟨rfl,rfl⟩:=hxe
  simp only[iX]at h;split at h
  ·rename_i off size pc hpl hpc;cases hb:(Nat.beq pc.length size&&Nat.ble (off+size) cells.length)with
   |false=>simp[hb]at h
   |true=>
    simp only[hb,zc]at h;simp only[Bool.and_eq_true]at hb;have h1:pc.length=size:=Nat.eq_of_beq_eq_true hb.1;have h2:off+size≤cells.length:=Nat.le_of_ble_eq_true hb.2
    obtain⟨hpcr,hpone⟩:=kn hpc hpx
    have hvl:v.cells.size=size:=by have:=hpcr.length;simp at this;omega
    have hcl:cs.size=cells.length:=by have:=hc.length;simpa using this
    have hfold:=kd off v.cells.toList 0 cs (by simp;omega)
    have hz:v.cells.zipIdx.foldl (fun cs (c,j)=>cs.setIfInBounds (off+j) c) cs=(v.cells.toList.zipIdx 0).foldl (fun cs (c,j)=>cs.setIfInBounds (off+j) c) cs:=by
     rw[←Array.foldl_toList];simp
    have hrep:RL β (gn cells off pc) (v.cells.zipIdx.foldl (fun cs (c,j)=>cs.setIfInBounds (off+j) c) cs).toList:=by
     rw[hz,hfold];simpa using mR hc hpcr off
    obtain⟨cs',hf,ho,hone⟩:=kP h hrep hi hrest
    refine⟨cs',?_,ho,fun hall=>hone ?_⟩
    ·simp only[Instr.fill,hpl];rw[zy (by simp[hvl];omega)];exact hf
    ·rw[hz,hfold];intro y hy;simp only[Nat.add_zero,List.mem_append]at hy;rcases hy with(hy|hy)|hy
     ·exact hall y (List.mem_of_mem_take hy)
     ·exact hpone y hy
     ·exact hall y (List.mem_of_mem_drop hy)
  ·cases h
theorem partsD_rep{ev:Operand→DV}{ρ:Operand→Value}(ps:List (Nat×Operand))(h:∀x∈ps.map (·.2),R β (ev x) (ρ x)):
  (ps.map fun p=>(p.1,ev p.2)).map (·.1)=(ps.map fun p=>(p.1,ρ p.2)).map (·.1)∧RL β ((ps.map fun p=>(p.1,ev p.2)).map (·.2)) ((ps.map fun p=>(p.1,ρ p.2)).map (·.2)):=by
 induction ps with
 |nil=>simp[RL]
 |cons p ps ih=>
  have ih':=ih fun x hx=>h x (by simp only[List.map_cons,List.mem_cons];exact .inr hx)
  refine⟨by simp,?_⟩
  simp only[List.map_cons,RL]
  exact⟨_,_,rfl,h p.2 (by simp),ih'.2⟩
theorem buildD_sound{P:Program}{T:TT}(hT:T.Ok P){ev:Operand→DV}{ρ:Operand→Value}(w:World){t:TypeId}{ps:Array (Nat×Operand)}{r:DV}
  (h:buildD T t (partsD ev ps)=some r) (he:∀x∈ps.toList.map (·.2),R β (ev x) (ρ x)):
  ∃v,(Instr.build t (ps.map fun p=>(p.1,ρ p.2))).run P w= .ok v w∧R β r v:=by
 unfold buildD at h;split at h
 ·rename_i ti hti;have hk:=hT.get hti;split at h
  ·rename_i fs hfs;split at h
   ·rename_i l hl;cases hf:iX (fun(i:Nat)=>l[i]?) (gC ti) (partsD ev ps)with
    |none=>simp[hf]at h
    |some out=>
     simp only[hf,Option.map_some,zo]at h;subst h
     obtain⟨h1,h2⟩:=partsD_rep (β:=β) ps.toList he
     have hu:=hk.rund w;rw[hfs]at hu
     obtain⟨cs',hfill,hrep,_⟩:=kP (cs:=ti.zero.cells) (vals:=ps.toList.map fun(p:Nat×Operand)=>(p.1,ρ p.2)) hf (ir _) h1 h2
     refine⟨.agg cs',?_,by simp only[R];exact⟨cs',rfl,hrep⟩⟩
     have hpl:(fs.mapM fun f=>(do pure (f.offset,←sizeOf f.type):Sem (Nat×Nat))).run P w= .ok l.toArray w:=by
      rw[Array.mapM_eq_mapM_toList,Sem.run_map,lG hT w hl];rfl
     have hgl:(fun(i:Nat)=>l.toArray[i]?)=fun(i:Nat)=>l[i]?:=by funext i;simp
     simp only[Instr.build,Sem.run_bind,hk.rzero w,Result.andThen_ok,hu,hpl,Array.toList_map];have e3:Instr.fill (fun(i:Nat)=>l.toArray[i]?) ti.zero.cells (ps.toList.map fun p=>(p.1,ρ p.2))=some cs':=by rw[hgl];exact hfill
     rw[e3];rfl
   ·cases h
  ·cases h
 ·cases h
end
theorem Tr.get_set{α:Type}:∀(n:Nat) (t:Tr α) (k:Nat) (x:α) (j:Nat),(Tr.set n t k x).get j=none∨(j=k∧(Tr.set n t k x).get j=some x)∨(j≠k∧(Tr.set n t k x).get j=t.get j)
 |0,_,_,_,_=>.inl rfl
 |n+1,t,k,x,j=>by
  have key:∀(l:Tr α) (v:Option α) (r:Tr α),t.get j=(Tr.node l v r).get j→Tr.set (n+1) t k x=(bif Nat.beq k 0 then .node l (some x) r else bif Nat.beq (k%2) 1 then .node (Tr.set n l (k/2) x) v r else .node l v (Tr.set n r (k/2-1) x))→
    (Tr.set (n+1) t k x).get j=none∨(j=k∧(Tr.set (n+1) t k x).get j=some x)∨(j≠k∧(Tr.set (n+1) t k x).get j=t.get j):=by
   intro l v r ht hs;rw[hs,ht];cases h0:Nat.beq k 0 with
   |true=>
    have hk:=Nat.eq_of_beq_eq_true h0;simp only[zc,Tr.get];cases g0:Nat.beq j 0 with
    |true=>
     have hj:=Nat.eq_of_beq_eq_true g0;exact .inr (.inl ⟨by omega,rfl⟩)
    |false=>
     have hj:=Nat.ne_of_beq_eq_false g0;exact .inr (.inr ⟨by omega,rfl⟩)
   |false=>
    have hk:=Nat.ne_of_beq_eq_false h0;cases h1:Nat.beq (k%2) 1 with
    |true=>
     have hk1:=Nat.eq_of_beq_eq_true h1;simp only[zd,zc,Tr.get];cases g0:Nat.beq j 0 with
     |true=>
      have hj:=Nat.eq_of_beq_eq_true g0;exact .inr (.inr ⟨by omega,rfl⟩)
     |false=>
      have hj:=Nat.ne_of_beq_eq_false g0;cases g1:Nat.beq (j%2) 1 with
      |true=>
       have hj1:=Nat.eq_of_beq_eq_true g1;simp only[zd,zc];rcases Tr.get_set n l (k/2) x (j/2)with h|⟨h,e⟩|⟨h,e⟩
       ·exact .inl h
       ·exact .inr (.inl ⟨by omega,e⟩)
       ·exact .inr (.inr ⟨by omega,e⟩)
      |false=>
       have hj1:=Nat.ne_of_beq_eq_false g1;simp only[zd];exact .inr (.inr ⟨fun e=>hj1 (e▸hk1),trivial⟩)
    |false=>
     have hk1:=Nat.ne_of_beq_eq_false h1;simp only[zd,Tr.get];cases g0:Nat.beq j 0 with
     |true=>
      have hj:=Nat.eq_of_beq_eq_true g0;exact .inr (.inr ⟨by omega,rfl⟩)
     |false=>
      have hj:=Nat.ne_of_beq_eq_false g0;cases g1:Nat.beq (j%2) 1 with
      |true=>
       have hj1:=Nat.eq_of_beq_eq_true g1;simp only[zd,zc];exact .inr (.inr ⟨fun e=>hk1 (e▸hj1),trivial⟩)
      |false=>
       have hj1:=Nat.ne_of_beq_eq_false g1;simp only[zd];rcases Tr.get_set n r (k/2-1) x (j/2-1)with h|⟨h,e⟩|⟨h,e⟩
       ·exact .inl h
       ·exact .inr (.inl ⟨by omega,e⟩)
       ·exact .inr (.inr ⟨by omega,e⟩)
  cases t with
  |nil=>
   refine key .nil none .nil ?_ rfl;simp only[Tr.get];cases Nat.beq j 0<;>cases Nat.beq (j%2) 1<;>rfl
  |node l v r=>exact key l v r rfl rfl
theorem ee{h:Tr (Option Blk)}{id:Nat}{x:Option Blk}{j:Nat}{k:Blk}(e:cK (h.set 24 id x) j=some k):(j=id∧x=some k)∨(j≠id∧cK h j=some k):=by
 unfold cK at e⊢;rcases Tr.get_set 24 h id x j with hn|⟨rfl,hs⟩|⟨hne,hs⟩
 ·rw[hn]at e;cases e
 ·rw[hs]at e;exact .inl ⟨rfl,e⟩
 ·rw[hs]at e;exact .inr ⟨hne,e⟩
def Tr.fits{α:Type}:Nat→Tr α→Prop
 |_,.nil=>True
 |0,.node _ _ _=>False
 |n+1,.node l _ r=>l.fits n∧r.fits n
theorem Tr.set_fits{α:Type}:∀(n:Nat) (t:Tr α) (k:Nat) (x:α),t.fits n→(Tr.set n t k x).fits n
 |0,_,_,_,_=>by simp[Tr.set,Tr.fits]
 |n+1,.nil,k,x,_=>by
  simp only[Tr.set]
  cases Nat.beq k 0<;>cases Nat.beq (k%2) 1<;>simp only[zc,zd,Tr.fits]<;>
   first|exact⟨trivial,trivial⟩|exact⟨Tr.set_fits n .nil _ x (by simp[Tr.fits]),trivial⟩|exact⟨trivial,Tr.set_fits n .nil _ x (by simp[Tr.fits])⟩|(cases n<;>simp[Tr.fits])
 |n+1,.node l v r,k,x,h=>by
  simp only[Tr.fits]at h;simp only[Tr.set]
  cases Nat.beq k 0<;>cases Nat.beq (k%2) 1<;>simp only[zc,zd,Tr.fits]<;>
   first|exact h|exact⟨Tr.set_fits n l _ x h.1,h.2⟩|exact⟨h.1,Tr.set_fits n r _ x h.2⟩
theorem Tr.get_same{α:Type}:∀(n:Nat) (t:Tr α) (k:Nat) (x:α),k+1<2^n→(Tr.set n t k x).get k=some x
 |0,_,k,_,h=>by simp at h
 |n+1,t,k,x,h=>by
  have key:∀(l:Tr α) (v:Option α) (r:Tr α),((bif Nat.beq k 0 then Tr.node l (some x) r else bif Nat.beq (k%2) 1 then .node (Tr.set n l (k/2) x) v r else .node l v (Tr.set n r (k/2-1) x)):Tr α).get k=some x:=by
   intro l v r;have hp:2^(n+1)=2*2^n:=by rw[Nat.pow_succ];omega
   cases h0:Nat.beq k 0 with
   |true=>simp[Tr.get,h0]
   |false=>
    have hk:=Nat.ne_of_beq_eq_false h0;cases h1:Nat.beq (k%2) 1 with
    |true=>
     have hk1:=Nat.eq_of_beq_eq_true h1;simp only[zd,zc,Tr.get,h0,h1];exact Tr.get_same n l (k/2) x (by omega)
    |false=>
     have:=Nat.ne_of_beq_eq_false h1
     simp only[zd,Tr.get,h0,h1];exact Tr.get_same n r (k/2-1) x (by omega)
  cases t with
  |nil=>exact key .nil none .nil
  |node l v r=>exact key l v r
theorem Tr.get_other{α:Type}:∀(n:Nat) (t:Tr α) (k:Nat) (x:α) (j:Nat),t.fits n→j≠k→(k+1<2^n)→(Tr.set n t k x).get j=t.get j
 |0,_,k,_,_,_,_,h=>by simp at h
 |n+1,t,k,x,j,hf,hj,h=>by
  have hp:2^(n+1)=2*2^n:=by rw[Nat.pow_succ];omega
  have key:∀(l:Tr α) (v:Option α) (r:Tr α),l.fits n→r.fits n→((bif Nat.beq k 0 then Tr.node l (some x) r else bif Nat.beq (k%2) 1 then .node (Tr.set n l (k/2) x) v r else .node l v (Tr.set n r (k/2-1) x)):Tr α).get j=(Tr.node l v r).get j:=by
   intro l v r hl hr;cases h0:Nat.beq k 0 with
   |true=>
    have hk:=Nat.eq_of_beq_eq_true h0;have g0:Nat.beq j 0=false:=by cases g:Nat.beq j 0 with|false=>rfl|true=>exact absurd (Nat.eq_of_beq_eq_true g) (by omega)
    simp[Tr.get,g0]
   |false=>
    have hk:=Nat.ne_of_beq_eq_false h0;cases h1:Nat.beq (k%2) 1 with
    |true=>
     have hk1:=Nat.eq_of_beq_eq_true h1;simp only[zd,zc,Tr.get];cases g0:Nat.beq j 0 with
     |true=>rfl
     |false=>
      cases g1:Nat.beq (j%2) 1 with
      |true=>
       have hj1:=Nat.eq_of_beq_eq_true g1;simp only[zd,zc];exact Tr.get_other n l (k/2) x (j/2) hl (by omega) (by omega)
      |false=>rfl
    |false=>
     have hk1:=Nat.ne_of_beq_eq_false h1;simp only[zd,Tr.get];cases g0:Nat.beq j 0 with
     |true=>rfl
     |false=>
      have hj0:=Nat.ne_of_beq_eq_false g0;cases g1:Nat.beq (j%2) 1 with
      |true=>rfl
      |false=>
       have hj1:=Nat.ne_of_beq_eq_false g1;simp only[zd];exact Tr.get_other n r (k/2-1) x (j/2-1) hr (by omega) (by omega)
  cases t with
  |nil=>
   have e:=key .nil none .nil (by cases n<;>simp[Tr.fits]) (by cases n<;>simp[Tr.fits])
   have e2:(Tr.node .nil none .nil:Tr α).get j=(Tr.nil:Tr α).get j:=by
    simp only[Tr.get];cases Nat.beq j 0<;>cases Nat.beq (j%2) 1<;>rfl
   exact e.trans e2
  |node l v r=>
   simp only[Tr.fits]at hf;exact key l v r hf.1 hf.2
def BOk(β:Be)(w:World)(id:Nat)(k:Blk):Prop:=
 ∃b c arr fz,β id=some (b,c)∧w.heap[b]? =some (.cells arr k.e fz)∧(k.wr=true→fz=(0,0))∧k.cells.length≤arr.size∧RL β k.cells (arr.toList.take k.cells.length)∧
  (∀m,k.cap=some m→c=m)∧(k.sz≠0→arr.size=c*k.sz)
structure WR(W0:World)(B:Nat→Option Go.Obj)(β:Be)(H:Hp)(w:World):Prop where
 os:w.os=W0.os
 tape:w.tape=W0.tape
 output:w.output=W0.output
 size:W0.heap.size≤w.heap.size
 prot:∀b o,B b=some o→w.heap[b]? =some o
 dom:∀id b c,β id=some (b,c)→id<H.nx∧b<w.heap.size
 blk:∀id k,cK H.h id=some k→BOk β w id k
 own:∀id k b c,cK H.h id=some k→β id=some (b,c)→B b=none
 inj:∀id id' k k' b c c',cK H.h id=some k→cK H.h id'=some k'→β id=some (b,c)→β id'=some (b,c')→id=id'
 fit:H.h.fits 24
structure Fr(w w':World)(b:Nat):Prop where
 os:w'.os=w.os
 tape:w'.tape=w.tape
 output:w'.output=w.output
 size:w.heap.size≤w'.heap.size
 other:∀b',b'≠b→b'<w.heap.size→w'.heap[b']? =w.heap[b']?
theorem Fr.setRow(w:World)(b:Nat)(arr:Array Value):Fr w (w.setRow b arr) b:=
 ⟨rfl,rfl,rfl,by simp,fun b' h _=>setRow_other w b b' _ h⟩
theorem Fr.alloc(w:World)(hd:World)(hdw:hd=w∨hd=w.drew)(o:Go.Obj):Fr w (hd.alloc o) w.heap.size:=by
 have e1:hd.heap=w.heap:=by rcases hdw with rfl|rfl<;>rfl
 have hsz:hd.heap.size=w.heap.size:=by rw[e1]
 refine⟨by rcases hdw with rfl|rfl<;>rfl,by rcases hdw with rfl|rfl<;>rfl,by rcases hdw with rfl|rfl<;>rfl,?_,fun b' _ hb'=>?_⟩
 ·rw[jB,hsz];omega
 ·rw[heap_alloc_old hd _ (by rw[hsz];exact hb'),e1]
def updB(β:Be)(k:Nat)(x:Nat×Nat):Be:=fun j=>if j=k then some x else β j
section
variable{W0:World}{B:Nat→Option Go.Obj}{β:Be}{H:Hp}{w:World}
theorem WR.drew(hw:WR W0 B β H w):WR W0 B β H w.drew:=
 ⟨hw.os,hw.tape,hw.output,hw.size,hw.prot,hw.dom,hw.blk,hw.own,hw.inj,hw.fit⟩
theorem WR.fresh(hw:WR W0 B β H w):B w.heap.size=none:=by
 cases h:B w.heap.size with
 |none=>rfl
 |some o=>
  have:=(Array.getElem?_eq_some_iff.1 (hw.prot _ _ h)).1
  exact absurd this (Nat.lt_irrefl _)
theorem le_upd{id:Nat}(hid:β id=none)(x:Nat×Nat):β.le (updB β id x):=by
 intro j y hj;simp only[updB];by_cases e:j=id
 ·subst e;rw[hid]at hj;cases hj
 ·rw[zy e];exact hj
theorem ext_upd{id:Nat}(hid:β id=none)(x:Nat×Nat):Ext β (updB β id x) id (id+1):=
 ⟨le_upd hid x,fun j hj=>by simp only[updB];rw[zy (by omega)],Nat.le_succ _⟩
theorem WR.nx_none(hw:WR W0 B β H w):β H.nx=none:=by
 cases h:β H.nx with
 |none=>rfl
 |some x=>exact absurd (hw.dom _ x.1 x.2 h).1 (Nat.lt_irrefl _)
theorem WR.put(hw:WR W0 B β H w){w':World}{b c id nx:Nat}{arr:Array Value}{fz:Nat×Nat}{k:Blk}(hid:β id=none)(hnx:H.nx≤nx)(hlt:id<nx)(hlook:∀k,cK H.h id≠some k)(hB:B b=none)(hfree:∀j k c,cK H.h j=some k→β j≠some (b,c))
  (hf:Fr w w' b) (hnew:w'.heap[b]? =some (.cells arr k.e fz))
  (hfz:k.wr=true→fz=(0,0)) (hlen:k.cells.length≤arr.size) (hr:RL β k.cells (arr.toList.take k.cells.length)) (hc:∀m,k.cap=some m→c=m) (hs:k.sz≠0→arr.size=c*k.sz):
  WR W0 B (updB β id (b,c)) ⟨H.h.set 24 id (some k),nx⟩ w':=by
 have hle:=le_upd hid (b,c);have hbl:b<w'.heap.size:=(Array.getElem?_eq_some_iff.1 hnew).1
 have same:∀j b' c',j≠id→updB β id (b,c) j=some (b',c')→β j=some (b',c'):=by
  intro j b' c' hj h;simpa only[updB,zy hj]using h
 have new:∀b' c',updB β id (b,c) id=some (b',c')→b'=b∧c'=c:=by
  intro b' c' h;simp only[updB,if_true,zo,Prod.mk.injEq]at h
  exact⟨h.1.symm,h.2.symm⟩
 refine⟨hf.os.trans hw.os,hf.tape.trans hw.tape,hf.output.trans hw.output,Nat.le_trans hw.size hf.size,?_,?_,?_,?_,?_,Tr.set_fits _ _ _ _ hw.fit⟩
 ·intro b' o hb';have h1:=hw.prot b' o hb';rw[hf.other b' (fun e=>by rw[e,hB]at hb';cases hb') (Array.getElem?_eq_some_iff.1 h1).1];exact h1
 ·intro j b' c' hj;show j<nx∧_;by_cases e:j=id
  ·subst e
   obtain⟨rfl,rfl⟩:=new _ _ hj
   exact⟨hlt,hbl⟩
  ·obtain⟨h1,h2⟩:=hw.dom j b' c' (same j b' c' e hj)
   exact⟨by omega,Nat.lt_of_lt_of_le h2 hf.size⟩
 ·intro j k' hj;rcases ee hj with⟨rfl,e⟩|⟨hne,e⟩
  ·cases e
   exact⟨b,c,arr,fz,by simp[updB],hnew,hfz,hlen,hr.mono hle,hc,hs⟩
  ·obtain⟨b',c',arr',fz',h1,h2,h3,h4,h5,h6,h7⟩:=hw.blk j k' e
   have hb':b'≠b:=fun eb=>hfree j k' c' e (by rw[h1,eb])
   exact⟨b',c',arr',fz',hle _ _ h1,(hf.other b' hb' (hw.dom j b' c' h1).2).trans h2,h3,h4,h5.mono hle,h6,h7⟩
 ·intro j k' b' c' hj h1;rcases ee hj with⟨e,_⟩|⟨e,hk⟩
  ·rw[e]at h1
   obtain⟨rfl,_⟩:=new _ _ h1
   exact hB
  ·exact hw.own j k' b' c' hk (same j _ _ e h1)
 ·intro j j' k1 k2 b1 c1 c2 hj hj' h1 h2;rcases ee hj with⟨e,_⟩|⟨e,hk⟩<;>rcases ee hj' with⟨e',_⟩|⟨e',hk'⟩
  ·rw[e,e']
  ·rw[e]at h1
   obtain⟨rfl,_⟩:=new _ _ h1
   exact absurd (same j' _ _ e' h2) (hfree j' k2 c2 hk')
  ·rw[e']at h2
   obtain⟨rfl,_⟩:=new _ _ h2
   exact absurd (same j _ _ e h1) (hfree j k1 c1 hk)
  ·exact hw.inj j j' k1 k2 b1 c1 c2 hk hk' (same j _ _ e h1) (same j' _ _ e' h2)
theorem WR.nlook(hw:WR W0 B β H w){id:Nat}(hid:β id=none):∀k,cK H.h id≠some k:=by
 intro k h
 obtain⟨b,c,_,_,h1,_⟩:=hw.blk id k h
 rw[hid]at h1;cases h1
theorem WR.new(hw:WR W0 B β H w)(hd:World)(hdw:hd=w∨hd=w.drew){c:Nat}{arr:Array Value}{fz:Nat×Nat}{k:Blk}(hfz:k.wr=true→fz=(0,0))(hlen:k.cells.length≤arr.size)
  (hr:RL β k.cells (arr.toList.take k.cells.length)) (hc:∀m,k.cap=some m→c=m) (hs:k.sz≠0→arr.size=c*k.sz):
  Ext β (updB β H.nx (w.heap.size,c)) H.nx (H.nx+1)∧WR W0 B (updB β H.nx (w.heap.size,c)) (newD H k) (hd.alloc (.cells arr k.e fz)):=by
 refine⟨ext_upd hw.nx_none _,hw.put hw.nx_none (Nat.le_succ _) (Nat.lt_succ_self _) (hw.nlook hw.nx_none) hw.fresh (fun j k c _ h=>absurd (hw.dom j _ _ h).2 (Nat.lt_irrefl _)) (Fr.alloc w hd hdw _) ?_ hfz hlen hr hc hs⟩
 have e1:hd.heap.size=w.heap.size:=by rcases hdw with rfl|rfl<;>rfl
 rw[←e1];exact heap_alloc_new hd _
theorem WR.write(hw:WR W0 B β H w){id b c:Nat}{k:Blk}(hid:cK H.h id=some k)(hβ:β id=some (b,c)){arr:Array Value}{cells:List DV}(hcur:∃cur,w.heap[b]? =some (.cells cur k.e (0,0))∧cur.size=arr.size)
  (hlen:cells.length≤arr.size) (hr:RL β cells (arr.toList.take cells.length)):WR W0 B β ⟨H.h.set 24 id (some ⟨k.e,k.sz,k.cap,k.wr,cells⟩),H.nx⟩ (w.setRow b arr):=by
 obtain⟨cur,hcur,hsz⟩:=hcur
 have old:∀j k',cK (H.h.set 24 id (some ⟨k.e,k.sz,k.cap,k.wr,cells⟩)) j=some k'→∃k'',cK H.h j=some k'':=by
  intro j k' hj;rcases ee hj with⟨rfl,e⟩|⟨_,e⟩
  ·exact⟨k,hid⟩
  ·exact⟨k',e⟩
 refine⟨hw.os,hw.tape,hw.output,by simpa using hw.size,fun b' o hb'=>?_,fun j b' c' hj=>?_,fun j k' hj=>?_,fun j k' b' c' hj h1=>?_,fun j j' k1 k2 b1 c1 c2 hj hj' h1 h2=>?_,Tr.set_fits _ _ _ _ hw.fit⟩
 ·have hne:b'≠b:=fun e=>by
   rw[e,hw.own id k b c hid hβ]at hb';cases hb'
  rw[setRow_other w b b' _ hne];exact hw.prot b' o hb'
 ·simpa using hw.dom j b' c' hj
 ·obtain⟨b0,c0,arr0,fz0,g1,g2,g3,g4,g5,g6,g7⟩:=hw.blk id k hid
  rw[hβ]at g1;cases g1;rw[hcur]at g2;cases g2;rcases ee hj with⟨rfl,e⟩|⟨hne,e⟩
  ·cases e
   exact⟨b,c,arr,(0,0),hβ,setRow_heap w b cur arr _ _ hcur,fun _=>rfl,hlen,hr,g6,fun h=>by rw[←hsz];exact g7 h⟩
  ·obtain⟨b',c',arr',fz',h1,h2,h3⟩:=hw.blk j k' e
   have hb':b'≠b:=fun eb=>hne (hw.inj j id k' k b c' c e hid (by rw[h1,eb]) hβ)
   exact⟨b',c',arr',fz',h1,(setRow_other w b b' _ hb').trans h2,h3⟩
 ·obtain⟨k'',hk''⟩:=old j k' hj
  exact hw.own j k'' b' c' hk'' h1
 ·obtain⟨k1',hk1⟩:=old j k1 hj
  obtain⟨k2',hk2⟩:=old j' k2 hj'
  exact hw.inj j j' k1' k2' b1 c1 c2 hk1 hk2 h1 h2
theorem WR.less(hw:WR W0 B β H w){H':Hp}(hl:∀id k,cK H'.h id=some k→cK H.h id=some k)(hnx:H.nx≤H'.nx)(hf:H'.h.fits 24):WR W0 B β H' w:=
 ⟨hw.os,hw.tape,hw.output,hw.size,hw.prot,fun id b c h=>⟨Nat.lt_of_lt_of_le (hw.dom id b c h).1 hnx,(hw.dom id b c h).2⟩,fun j k' hj=>hw.blk j k' (hl _ _ hj),fun j k b c hj=>hw.own j k b c (hl _ _ hj),
  fun j j' k1 k2 b1 c1 c2 hj hj'=>hw.inj j j' k1 k2 b1 c1 c2 (hl _ _ hj) (hl _ _ hj'),hf⟩
theorem look_drop{h:Tr (Option Blk)}{id j:Nat}{k:Blk}(e:cK (h.set 24 id none) j=some k):j≠id∧cK h j=some k:=by
 rcases ee e with⟨_,e1⟩|⟨hne,e1⟩
 ·cases e1
 ·exact⟨hne,e1⟩
theorem WR.drop(hw:WR W0 B β H w)(id:Nat):WR W0 B β ⟨H.h.set 24 id none,H.nx⟩ w:=
 hw.less (fun _ _ h=>(look_drop h).2) (Nat.le_refl _) (Tr.set_fits _ _ _ _ hw.fit)
theorem WR.cell(hw:WR W0 B β H w){id b c:Nat}{k:Blk}(hid:cK H.h id=some k)(hβ:β id=some (b,c)):
  ∃xs:List Value,RL β k.cells xs∧∀(j:Nat) (x:Value),xs[j]? =some x→w.cell? ⟨b,j,none⟩=some x:=by
 obtain⟨b0,c0,arr,fz,g1,g2,g3,g4,g5,_⟩:=hw.blk id k hid
 rw[hβ]at g1;cases g1
 refine⟨_,g5,fun j x hj=>?_⟩
 rw[cell_of_row w b j arr k.e fz g2];rw[List.getElem?_take]at hj;split at hj
 ·simpa using hj
 ·cases hj
end
end
end Go.Cx
