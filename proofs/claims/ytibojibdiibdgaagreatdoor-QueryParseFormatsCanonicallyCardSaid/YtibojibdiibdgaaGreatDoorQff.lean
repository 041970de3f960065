/- queryParseFormatsCanonically_holds, part 6: the layer, the plain functions and what they compute; conditions as in the statement. -/
import Derived.Test.YtibojibdiibdgaaGreatDoorQfe
set_option maxHeartbeats 4000000
namespace Go.Proofs.YtibojibdiibdgaaGreatDoor
noncomputable section
open Go Go.Ab PT
inductive LB:List (List UInt8)→List (List Tok)→Prop
 |nil:LB [] []
 |cons {s ts ss tss} (h:s.length≤60*ts.length) (h':LB ss tss):LB (s::ss) (ts::tss)
theorem LB.tail{ss tss}(h:LB ss tss):(Lib.joinTail [44,32] ss).length≤60*((tss.map ([tP [44]]++·)).flatten).length∧ss.length=tss.length:=by
 induction h with
 |nil=>exact⟨by simp[Lib.joinTail],rfl⟩
 | @cons s ts ss tss h h' ih=>
  have e:Lib.joinTail [44,32] (s::ss)=[44,32]++(s++Lib.joinTail [44,32] ss):=by simp[Lib.joinTail]
  rw[e]
  refine⟨?_,by simp[ih.2]⟩
  simp only[List.map_cons,List.flatten_cons,List.length_append,List.length_cons,List.length_nil];omega
theorem LB.join{ss tss}(h:LB ss tss):(Lib.join ss [44,32]).length≤60*(jt tss).length∧ss.length=tss.length:=by
 cases h with
 |nil=>exact⟨by simp[Lib.join_nil],rfl⟩
 | @cons s ts ss tss h h'=>
  have:=h'.tail
  rw[Lib.join_cons]
  refine⟨?_,by simp[this.2]⟩
  simp only[jt,List.length_append];omega
theorem fw.len{s:List UInt8}(h:fw s):s.length≤12:=h.2.2
theorem FN.lb{es ns ss tss}(h:FN es ns ss tss):LB ss tss:=by
 induction h with
 |nil=>exact .nil
 |cons h hn h' ih=>exact .cons (by have:=h.len;have:=hn.len;simp only[List.length_append,List.length_cons,List.length_nil];omega) ih
theorem FA.lb{gs ss tss}(h:FA gs ss tss):LB ss tss:=by
 induction h with
 |nil=>exact .nil
 |none hf hn h' ih=>exact .cons (by have:=hf.len;have:=hn.len;simp only[List.length_append,List.length_cons,List.length_nil];omega) ih
 |one hf hn h h' ih=>exact .cons (by have:=h.len;have:=hf.len;have:=hn.len;simp only[List.length_append,List.length_cons,List.length_nil];omega) ih
theorem FO.lb{es ds ss tss}(h:FO es ds ss tss):LB ss tss:=by
 induction h with
 |nil=>exact .nil
 |up h h' ih=>exact .cons h.len ih
 |down h h' ih=>exact .cons (by have:=h.len;simp only[List.length_append,List.length_cons,List.length_nil];omega) ih
theorem FQ.len{q:LQuery}{s:List UInt8}{ts:List Tok}(h:FQ q s ts):s.length≤60*ts.length:=by
 induction h with
 |scan s h=>have:=h.len;simp only[List.length_append,List.length_cons,List.length_nil];omega
 |filt hq h ih=>have:=h.len;simp only[List.length_append,List.length_cons,List.length_nil];omega
 |proj hq h h0 ih=>have:=h.lb.join.1;simp only[List.length_append,List.length_cons,List.length_nil];omega
 |join hq hr h ih ihr=>have:=h.len;simp only[List.length_append,List.length_cons,List.length_nil];omega
 |left hq hr h ih ihr=>have:=h.len;simp only[List.length_append,List.length_cons,List.length_nil];omega
 |union hq hr ih ihr=>simp only[List.length_append,List.length_cons,List.length_nil];omega
 |except hq hr ih ihr=>simp only[List.length_append,List.length_cons,List.length_nil];omega
 |grp1 hq h h0 ih=>have:=h.lb.join.1;simp only[List.length_append,List.length_cons,List.length_nil];omega
 |grp2 hq h h0 ih=>have:=h.lb.join.1;simp only[List.length_append,List.length_cons,List.length_nil];omega
 |grp3 hq h h0 h' h0' ih=>have:=h.lb.join.1;have:=h'.lb.join.1;simp only[List.length_append,List.length_cons,List.length_nil];omega
 |sort hq h h0 ih=>have:=h.lb.join.1;simp only[List.length_append,List.length_cons,List.length_nil];omega
 |lim0 c hq h0 h1 ih=>have:=gq h0 h1;simp only[List.length_append,List.length_cons,List.length_nil];omega
 |lim c o hq h0 h1 h2 h3 ih=>have:=gq h0 h1;have:=gq (n:=o) (by omega) h3;simp only[List.length_append,List.length_cons,List.length_nil];omega
theorem mem_tail{tss:List (List Tok)}{t:List Tok}(h:t∈tss):t.length≤((tss.map ([tP [44]]++·)).flatten).length:=by
 induction tss with
 |nil=>simp at h
 |cons a l ih=>
  simp only[List.map_cons,List.flatten_cons,List.length_append,List.length_cons,List.length_nil];rcases List.mem_cons.1 h with rfl|h
  ·omega
  ·have:=ih h;omega
theorem mem_jt{tss:List (List Tok)}{t:List Tok}(h:t∈tss):t.length≤(jt tss).length:=by
 cases tss with
 |nil=>simp at h
 |cons x tss=>
  simp only[jt,List.length_append];rcases List.mem_cons.1 h with rfl|h
  ·omega
  ·have:=mem_tail h;omega
noncomputable abbrev nstep(names:List (List UInt8)):Nat→LExpr→List (List UInt8)→Option (Flow (List (List UInt8)) Empty):=fun(j1:Nat) (x1:LExpr) (s1:List (List UInt8))=>
  cond (decide ((j1:Int)<(names.length:Int)))
   (ag (bl names (j1:Int)) fun(x26:List UInt8)=>
   ag (cJ x1) fun x21=>
   ag (bj x21 ([32,97,115,32]:List UInt8)) fun(x22:List UInt8)=>
   ag (bj x22 x26) fun(x28:List UInt8)=>
   ag (dY 16 s1 ([x28]:List (List UInt8))) fun(x30:List (List UInt8))=>
   some (.next x30))
   (some (.next s1))
theorem FN.go{es ns ss tss}(h:FN es ns ss tss):∀(pre:List (List UInt8)) (acc:List (List UInt8)),(∀t∈tss,t.length≤5000)→acc.length+tss.length≤9000→aY (nstep (pre++ns)) pre.length es acc=some (.next (acc++ss)):=by
 induction h with
 |nil=>intro pre acc _ _;simp[aY]
 | @cons e s ts n es ns ss tss h hn h' ih=>
  intro pre acc ht hl;simp only[List.length_cons]at hl;have h1:=ht _ (List.mem_cons_self ..);simp only[List.length_append]at h1;have hs:=h.len;have hnl:=hn.len
  have hr:nstep (pre++n::ns) pre.length e acc=some (.next (acc++[s++([32]++([97,115]++([32]++n)))])):=by
   unfold nstep;rw[zt (by simp only[List.length_append,List.length_cons];omega),zc,eg (x:=n) (by simp),bPs,h.fmt (by omega),bPs];refine bn (by simp;omega) (bn (by simp;omega) ?_);rw[ft _ (by decide) (by omega)];simp
  rw[aY,hr]
  have:=ih (pre++[n]) (acc++[s++([32]++([97,115]++([32]++n)))]) (fun t hx=>ht t (by simp[hx])) (by simp;omega)
  simp only[List.append_assoc,List.cons_append,List.nil_append,List.length_append,List.length_cons,List.length_nil]at this⊢;exact this
theorem FN.fmt{es ns ss tss}(h:FN es ns ss tss)(hl:(jt tss).length≤5000)(q:LQuery)(he:q.exprs=es)(hn:q.names=ns):cR q=some (Lib.join ss [44,32]):=by
 have hb:=h.lb.join;have hc:=jt_len h.ne.1
 have:=h.go [] [] (fun t ht=>by have:=mem_jt ht;omega) (by simp;omega)
 unfold cR;rw[he,hn];simp only[List.nil_append,List.length_nil]at this;rw[this];exact join_e (by omega) (by omega) rfl
noncomputable abbrev sstep(ds:List Bool):Nat→LExpr→List (List UInt8)→Option (Flow (List (List UInt8)) Empty):=fun(j1:Nat) (x1:LExpr) (s1:List (List UInt8))=>
  ag (cJ x1) fun x16=>
  ag (
   cond (decide ((j1:Int)<(ds.length:Int)))
    (ag (bl ds (j1:Int)) fun(x26:Bool)=>
    some x26)
    (some false)) fun(t6:Bool)=>
  ag (
   cond t6
    (ag (bj x16 ([32,100,101,115,99]:List UInt8)) fun(x30:List UInt8)=>
    some x30)
    (some x16)) fun(t7:List UInt8)=>
  ag (dY 16 s1 ([t7]:List (List UInt8))) fun(x34:List (List UInt8))=>
  some (.next x34)
theorem FO.go{es ds ss tss}(h:FO es ds ss tss):∀(pre:List Bool) (acc:List (List UInt8)),(∀t∈tss,t.length≤5000)→acc.length+tss.length≤9000→aY (sstep (pre++ds)) pre.length es acc=some (.next (acc++ss)):=by
 induction h with
 |nil=>intro pre acc _ _;simp[aY]
 | @up e s ts es ds ss tss h h' ih=>
  intro pre acc ht hl;simp only[List.length_cons]at hl;have h1:=ht _ (List.mem_cons_self ..)
  have hr:sstep (pre++false::ds) pre.length e acc=some (.next (acc++[s])):=by
   unfold sstep;rw[h.fmt (by omega),bPs,zt (by simp only[List.length_append,List.length_cons];omega),zc,eg (x:=false) (by simp)];simp only[bPs,zd];rw[ft _ (by decide) (by omega)]
  rw[aY,hr]
  have:=ih (pre++[false]) (acc++[s]) (fun t hx=>ht t (by simp[hx])) (by simp;omega)
  simp only[List.append_assoc,List.cons_append,List.nil_append,List.length_append,List.length_cons,List.length_nil]at this⊢;exact this
 | @down e s ts es ds ss tss h h' ih=>
  intro pre acc ht hl;simp only[List.length_cons]at hl;have h1:=ht _ (List.mem_cons_self ..);simp only[List.length_append]at h1;have hs:=h.len
  have hr:sstep (pre++true::ds) pre.length e acc=some (.next (acc++[s++([32]++[100,101,115,99])])):=by
   unfold sstep;rw[h.fmt (by omega),bPs,zt (by simp only[List.length_append,List.length_cons];omega),zc,eg (x:=true) (by simp)];simp only[bPs,zc];rw[ia (by unfold dB;simp;omega)];simp only[bPs];rw[ft _ (by decide) (by omega)];rfl
  rw[aY,hr]
  have:=ih (pre++[true]) (acc++[s++([32]++[100,101,115,99])]) (fun t hx=>ht t (by simp[hx])) (by simp;omega)
  simp only[List.append_assoc,List.cons_append,List.nil_append,List.length_append,List.length_cons,List.length_nil]at this⊢;exact this
theorem FO.fmt{es ds ss tss}(h:FO es ds ss tss)(hl:(jt tss).length≤5000)(q:LQuery)(he:q.exprs=es)(hd:q.descending=ds):el q=some (Lib.join ss [44,32]):=by
 have hb:=h.lb.join;have hc:=jt_len h.ne.1
 have:=h.go [] [] (fun t ht=>by have:=mem_jt ht;omega) (by simp;omega)
 unfold el;rw[he,hd];simp only[List.nil_append,List.length_nil]at this;rw[this];exact join_e (by omega) (by omega) rfl
noncomputable abbrev gstep:Nat→LAggregateCall→List (List UInt8)→Option (Flow (List (List UInt8)) Empty):=fun(_:Nat) (x2:LAggregateCall) (s2:List (List UInt8))=>
  ag (
   cond (decide ((x2.args.length:Int)>(0:Int)))
    (ag (bl x2.args 0) fun(x28:LExpr)=>
    ag (cJ x28) fun x30=>
    some x30)
    (some [])) fun(t5:List UInt8)=>
  ag (bj x2.function ([40]:List UInt8)) fun(x34:List UInt8)=>
  ag (bj x34 t5) fun(x36:List UInt8)=>
  ag (bj x36 ([41,32,97,115,32]:List UInt8)) fun(x37:List UInt8)=>
  ag (bj x37 x2.name) fun(x40:List UInt8)=>
  ag (dY 16 s2 ([x40]:List (List UInt8))) fun(x42:List (List UInt8))=>
  some (.next x42)
theorem FA.go{gs ss tss}(h:FA gs ss tss):∀(j:Nat) (acc:List (List UInt8)),(∀t∈tss,t.length≤5000)→acc.length+tss.length≤9000→aY gstep j gs acc=some (.next (acc++ss)):=by
 induction h with
 |nil=>intro j acc _ _;simp[aY]
 | @none f n gs ss tss hf hn h' ih=>
  intro j acc ht hl;simp only[List.length_cons]at hl;have hfl:=hf.len;have hnl:=hn.len
  have hr:gstep j (LAggregateCall.mk n f []) acc=some (.next (acc++[f++([40]++([41]++([32]++([97,115]++([32]++n)))))])):=by
   show ag (bj f [40]) _=_;refine bn (by simp;omega) (bn (by simp;omega) (bn (by simp;omega) (bn (by simp;omega) ?_)));rw[ft _ (by decide) (by omega)];simp
  rw[aY,hr]
  have:=ih (j+1) (acc++[f++([40]++([41]++([32]++([97,115]++([32]++n)))))]) (fun t hx=>ht t (by simp[hx])) (by simp;omega)
  simp only[List.append_assoc,List.cons_append,List.nil_append]at this⊢;exact this
 | @one f n e s ts gs ss tss hf hn h h' ih=>
  intro j acc ht hl;simp only[List.length_cons]at hl;have h1:=ht _ (List.mem_cons_self ..);simp only[List.length_append]at h1;have hs:=h.len;have hfl:=hf.len;have hnl:=hn.len
  have hr:gstep j (LAggregateCall.mk n f [e]) acc=some (.next (acc++[f++([40]++(s++([41]++([32]++([97,115]++([32]++n))))))])):=by
   have e1:(ag (cond (decide ((([e]:List LExpr).length:Int)>(0:Int))) (ag (bl [e] 0) fun(x28:LExpr)=>ag (cJ x28) fun x30=>some x30) (some ([]:List UInt8))) fun t5=>some t5)=some s:=by
    show(ag (ag (cJ e) fun x30=>some x30) fun t5=>some t5)=some s
    rw[h.fmt (by omega)];rfl
   show ag (ag (cJ e) fun x30=>some x30) _=_;rw[h.fmt (by omega)];simp only[bPs];refine bn (by simp;omega) (bn (by simp;omega) (bn (by simp;omega) (bn (by simp;omega) ?_)));rw[ft _ (by decide) (by omega)];simp
  rw[aY,hr]
  have:=ih (j+1) (acc++[f++([40]++(s++([41]++([32]++([97,115]++([32]++n))))))]) (fun t hx=>ht t (by simp[hx])) (by simp;omega)
  simp only[List.append_assoc,List.cons_append,List.nil_append]at this⊢;exact this
theorem FA.fmt{gs ss tss}(h:FA gs ss tss)(hl:(jt tss).length≤5000)(t1:List UInt8)(ht:t1.length≤1000000):(ag (aY gstep 0 gs []) fun fl2=>fl2.thenP fun(s2:List (List UInt8))=>
 cond (decide ((s2.length:Int)>(0:Int)))
  (ag (jA s2 ([44,32]:List UInt8)) fun x49=>
  ag (bj ([32,97,103,103,114,101,103,97,116,101,32]:List UInt8) x49) fun(x50:List UInt8)=>
  ag (bj t1 x50) fun(x51:List UInt8)=>
  some x51)
  (some t1))=some (if gs=[]then t1 else t1++([32]++([97,103,103,114,101,103,97,116,101]++([32]++Lib.join ss [44,32])))):=by
 have hb:=h.lb.join;have hc:=jt_len h.ne.1;rw[h.go 0 [] (fun t ht=>by have:=mem_jt ht;omega) (by simp;omega),bPs];simp only[Flow.thenP,List.nil_append];by_cases h0:gs=[]
 ·subst h0;cases h;rfl
 ·have:tss≠[]:=h.ne.2 h0
  have h2:0<tss.length:=List.length_pos_iff.2 this;rw[zy h0,zt (by omega),zc];refine join_e (by omega) (by omega) (bn (by simp;omega) (bn (by simp;omega) ?_));simp
theorem getI_0{α:Type}(x:α)(l:List α):bl (x::l) 0=some x:=rfl
theorem len_ne{α:Type}(x:α)(l:List α):((((x::l).length:Nat):Int)==0)=false:=by
 simp only[List.length_cons,beq_eq_false_iff_ne,ne_eq];omega
theorem fv{q:LQuery}{s:List UInt8}{rest:List LQuery}{rec:LQuery→Option (List UInt8)}{k:List UInt8→Option (List UInt8)}{r:List UInt8}(h:rec q=some s)(hl:s.length≤1000000)(hk:k (s++[32,124,32])=some r):
  (cond ((((q::rest).length:Nat):Int)==0) (some []) (ag (bl (q::rest) 0) fun(x18:LQuery)=>ag (rec x18) fun x20=>ag (bj x20 ([32,124,32]:List UInt8)) k))=some r:=by
 rw[len_ne,zd,getI_0,bPs,h,bPs];exact bn (by simp;omega) hk
theorem fmt1{F:LQuery→Option (List UInt8)}{q r:LQuery}{k:Int}{es:List LExpr}{sr:List UInt8}{G:LQuery→Option (List UInt8)}(h:F r=some sr)(hl:sr.length≤1000000):eF F G (LQuery.mk k [] [] es [] [] 0 0 [q,r])=some (inS sr):=by
 show ag (F r) _=_;rw[h,bPs];refine bn (by simp;omega) (bn (by simp;omega) ?_);simp
theorem fmt2{e:LExpr}{s:List UInt8}{ts:List Tok}(h:FE e s ts)(hl:ts.length≤5000){k:Int}{l:List LQuery}:du (LQuery.mk k [] [] [e] [] [] 0 0 l)=some s:=by
 show ag (cJ e) _=_;rw[h.fmt (by omega),bPs]
theorem itoaL_e{β:Type}{n:Int}{k:List UInt8→Option β}{r:β}(h0:0≤n)(h1:n≤1000000000000)(hk:k (Lib.itoa n)=some r):ag (iV n) k=some r:=by
 unfold iV gL;rw[zp ⟨by omega,by omega⟩,bPs,hk]
theorem group_go{q:LQuery}{gs:List LAggregateCall}{ss tss}{t1:List UInt8}(hg:FA gs ss tss)(hq:q.aggregates=gs)(hl:(jt tss).length≤5000)(ht:t1.length≤1000000)
  (h1:cond (decide ((q.exprs.length:Int)>(0:Int))) (ag (cR q) fun x13=>ag (bj ([32,98,121,32]:List UInt8) x13) fun(x14:List UInt8)=>some x14) (some [])=some t1):ez q=some (if gs=[]then t1 else t1++([32]++([97,103,103,114,101,103,97,116,101]++([32]++Lib.join ss [44,32])))):=by
 unfold ez;rw[h1,bPs,hq];exact hg.fmt hl t1 ht
theorem by_go{q:LQuery}{es:List LExpr}{ns ss tss}(h:FN es ns ss tss)(h0:es≠[])(he:q.exprs=es)(hn:q.names=ns)(hl:(jt tss).length≤5000):cond (decide ((q.exprs.length:Int)>(0:Int))) (ag (cR q) fun x13=>ag (bj ([32,98,121,32]:List UInt8) x13) fun(x14:List UInt8)=>some x14) (some [])=some ([32,98,121,32]++Lib.join ss [44,32]):=by
 have hpos:0<es.length:=List.length_pos_iff.2 h0;have h2:=h.lb.join.1;rw[zt (show(q.exprs.length:Int)>0 from by rw[he];omega),zc,h.fmt hl q he hn,bPs];exact bn (by simp;omega) rfl
theorem FQ.fmtF{q:LQuery}{s:List UInt8}{ts:List Tok}(h:FQ q s ts):ts.length≤5000→∃N,∀m,N≤m→aX m q=some s:=by
 induction h with
 |scan s h=>
  refine fun _=>⟨1,fun m hm=>?_⟩
  obtain⟨j,rfl,_⟩:=up1 (k:=0) hm
  have:=h.len
  rw[aX];refine bn (by simp[LQuery.table];omega) ?_;simp[LQuery.table]
 | @filt q s ts e s' ts' hq h ih=>
  intro hl;simp only[List.length_append,List.length_cons,List.length_nil]at hl
  obtain⟨N,hN⟩:=ih (by omega)
  refine⟨N+1,fun m hm=>?_⟩
  obtain⟨j,rfl,hj⟩:=up1 hm
  have h1:=hq.len;have h2:=h.len;rw[aX];unfold bw;simp only[LQuery.kind,LQuery.inputs,Int.reduceBEq,zd];refine fv (hN j hj) (by omega) ?_;simp only[zc];refine bn (by simp;omega) ?_;rw[fmt2 h (by omega),bPs];refine bn (by simp;omega) ?_;simp
 | @proj q s ts es ns ss tss hq h h0 ih=>
  intro hl;simp only[List.length_append,List.length_cons,List.length_nil]at hl
  obtain⟨N,hN⟩:=ih (by omega)
  refine⟨N+1,fun m hm=>?_⟩
  obtain⟨j,rfl,hj⟩:=up1 hm
  have h1:=hq.len;have h2:=h.lb.join.1;rw[aX];unfold bw;simp only[LQuery.kind,LQuery.inputs,Int.reduceBEq,zd];refine fv (hN j hj) (by omega) ?_;simp only[zc];refine bn (by simp;omega) ?_;rw[h.fmt (by omega) _ rfl rfl,bPs];refine bn (by simp;omega) ?_;simp
 | @join q r s sr ts tr e s' ts' hq hr h ih ihr=>
  intro hl;simp only[List.length_append,List.length_cons,List.length_nil]at hl
  obtain⟨N,hN⟩:=ih (by omega)
  obtain⟨N',hN'⟩:=ihr (by omega)
  refine⟨N+N'+2,fun m hm=>?_⟩
  obtain⟨j,rfl,hj⟩:=up1 (k:=N+N'+1) hm
  have h1:=hq.len;have h2:=h.len;have h3:=hr.len;rw[aX];unfold bw;simp only[LQuery.kind,LQuery.inputs,Int.reduceBEq,zd];refine fv (hN j (by omega)) (by omega) ?_;simp only[zc];refine bn (by simp;omega) ?_
  obtain⟨i,rfl,hi⟩:=up1 (k:=N+N') hj
  rw[cf,fmt1 (hN' i (by omega)) (by omega),bPs];refine bn (by simp;omega) (bn (by simp;omega) ?_);rw[fmt2 h (by omega),bPs];refine bn (by simp;omega) ?_;simp
 | @left q r s sr ts tr e s' ts' hq hr h ih ihr=>
  intro hl;simp only[List.length_append,List.length_cons,List.length_nil]at hl
  obtain⟨N,hN⟩:=ih (by omega)
  obtain⟨N',hN'⟩:=ihr (by omega)
  refine⟨N+N'+2,fun m hm=>?_⟩
  obtain⟨j,rfl,hj⟩:=up1 (k:=N+N'+1) hm
  have h1:=hq.len;have h2:=h.len;have h3:=hr.len;rw[aX];unfold bw;simp only[LQuery.kind,LQuery.inputs,Int.reduceBEq,zd];refine fv (hN j (by omega)) (by omega) ?_;simp only[zc];refine bn (by simp;omega) ?_
  obtain⟨i,rfl,hi⟩:=up1 (k:=N+N') hj
  rw[cf,fmt1 (hN' i (by omega)) (by omega),bPs];refine bn (by simp;omega) (bn (by simp;omega) ?_);rw[fmt2 h (by omega),bPs];refine bn (by simp;omega) ?_;simp
 | @union q r s sr ts tr hq hr ih ihr=>
  intro hl;simp only[List.length_append,List.length_cons,List.length_nil]at hl
  obtain⟨N,hN⟩:=ih (by omega)
  obtain⟨N',hN'⟩:=ihr (by omega)
  refine⟨N+N'+2,fun m hm=>?_⟩
  obtain⟨j,rfl,hj⟩:=up1 (k:=N+N'+1) hm
  have h1:=hq.len;have h3:=hr.len;rw[aX];unfold bw;simp only[LQuery.kind,LQuery.inputs,Int.reduceBEq,zd];refine fv (hN j (by omega)) (by omega) ?_;simp only[zc];refine bn (by simp;omega) ?_
  obtain⟨i,rfl,hi⟩:=up1 (k:=N+N') hj
  rw[cf,fmt1 (hN' i (by omega)) (by omega),bPs];refine bn (by simp;omega) ?_;simp
 | @except q r s sr ts tr hq hr ih ihr=>
  intro hl;simp only[List.length_append,List.length_cons,List.length_nil]at hl
  obtain⟨N,hN⟩:=ih (by omega)
  obtain⟨N',hN'⟩:=ihr (by omega)
  refine⟨N+N'+2,fun m hm=>?_⟩
  obtain⟨j,rfl,hj⟩:=up1 (k:=N+N'+1) hm
  have h1:=hq.len;have h3:=hr.len;rw[aX];unfold bw;simp only[LQuery.kind,LQuery.inputs,Int.reduceBEq,zd];refine fv (hN j (by omega)) (by omega) ?_;simp only[zc];refine bn (by simp;omega) ?_
  obtain⟨i,rfl,hi⟩:=up1 (k:=N+N') hj
  rw[cf,fmt1 (hN' i (by omega)) (by omega),bPs];refine bn (by simp;omega) ?_;simp
 | @grp1 q s ts es ns ss tss hq h h0 ih=>
  intro hl;simp only[List.length_append,List.length_cons,List.length_nil]at hl
  obtain⟨N,hN⟩:=ih (by omega)
  refine⟨N+1,fun m hm=>?_⟩
  obtain⟨j,rfl,hj⟩:=up1 hm
  have h1:=hq.len;have h2:=h.lb.join.1;have hpos:0<es.length:=List.length_pos_iff.2 h0;rw[aX];unfold bw;simp only[LQuery.kind,LQuery.inputs,Int.reduceBEq,zd];refine fv (hN j hj) (by omega) ?_;simp only[zc];refine bn (by simp;omega) ?_;rw[group_go .nil rfl (by simp[jt]) (by simp;omega) (by_go h h0 rfl rfl (by omega))];simp only[bPs,if_true];refine bn (by simp;omega) ?_;simp
 | @grp2 q s ts gs ss tss hq h h0 ih=>
  intro hl;simp only[List.length_append,List.length_cons,List.length_nil]at hl
  obtain⟨N,hN⟩:=ih (by omega)
  refine⟨N+1,fun m hm=>?_⟩
  obtain⟨j,rfl,hj⟩:=up1 hm
  have h1:=hq.len;have h2:=h.lb.join.1;rw[aX];unfold bw;simp only[LQuery.kind,LQuery.inputs,Int.reduceBEq,zd];refine fv (hN j hj) (by omega) ?_;simp only[zc];refine bn (by simp;omega) ?_;rw[group_go (t1:=[]) h rfl (by omega) (by simp) rfl];simp only[bPs,zy h0];refine bn (by simp;omega) ?_;simp
 | @grp3 q s ts es ns ss tss gs ss' tss' hq h h0 h' h0' ih=>
  intro hl;simp only[List.length_append,List.length_cons,List.length_nil]at hl
  obtain⟨N,hN⟩:=ih (by omega)
  refine⟨N+1,fun m hm=>?_⟩
  obtain⟨j,rfl,hj⟩:=up1 hm
  have h1:=hq.len;have h2:=h.lb.join.1;have h3:=h'.lb.join.1;have hpos:0<es.length:=List.length_pos_iff.2 h0;rw[aX];unfold bw;simp only[LQuery.kind,LQuery.inputs,Int.reduceBEq,zd];refine fv (hN j hj) (by omega) ?_;simp only[zc];refine bn (by simp;omega) ?_;rw[group_go h' rfl (by omega) (by simp;omega) (by_go h h0 rfl rfl (by omega))];simp only[bPs,zy h0'];refine bn (by simp;omega) ?_;simp
 | @sort q s ts es ds ss tss hq h h0 ih=>
  intro hl;simp only[List.length_append,List.length_cons,List.length_nil]at hl
  obtain⟨N,hN⟩:=ih (by omega)
  refine⟨N+1,fun m hm=>?_⟩
  obtain⟨j,rfl,hj⟩:=up1 hm
  have h1:=hq.len;have h2:=h.lb.join.1;rw[aX];unfold bw;simp only[LQuery.kind,LQuery.inputs,Int.reduceBEq,zd];refine fv (hN j hj) (by omega) ?_;simp only[zc];refine bn (by simp;omega) ?_;rw[h.fmt (by omega) _ rfl rfl,bPs];refine bn (by simp;omega) ?_;simp
 | @lim0 q s ts c hq h0 h1 ih=>
  intro hl;simp only[List.length_append,List.length_cons,List.length_nil]at hl
  obtain⟨N,hN⟩:=ih (by omega)
  refine⟨N+1,fun m hm=>?_⟩
  obtain⟨j,rfl,hj⟩:=up1 hm
  have h2:=hq.len;have h3:=gq h0 h1;rw[aX];unfold bw;simp only[LQuery.kind,LQuery.inputs,LQuery.count,LQuery.offset,Int.reduceBEq,zd];refine fv (hN j hj) (by omega) ?_;refine itoaL_e h0 h1 (bn (by simp;omega) (bn (by simp;omega) ?_));rw[show((0:Int) !=0)=false from rfl];simp
 | @lim q s ts c o hq h0 h1 h2 h3 ih=>
  intro hl;simp only[List.length_append,List.length_cons,List.length_nil]at hl
  obtain⟨N,hN⟩:=ih (by omega)
  refine⟨N+1,fun m hm=>?_⟩
  obtain⟨j,rfl,hj⟩:=up1 hm
  have h4:=hq.len;have h5:=gq h0 h1;have h6:=gq (n:=o) (by omega) h3;rw[aX];unfold bw;simp only[LQuery.kind,LQuery.inputs,LQuery.count,LQuery.offset,Int.reduceBEq,zd];refine fv (hN j hj) (by omega) ?_;refine itoaL_e h0 h1 (bn (by simp;omega) (bn (by simp;omega) ?_));rw[show(o !=0)=true from by simpa using(by omega:¬o=0),zc];refine itoaL_e (by omega) h3 (bn (by simp;omega) (bn (by simp;omega) ?_));simp
theorem FQ.fmt{q:LQuery}{s:List UInt8}{ts:List Tok}(h:FQ q s ts)(hl:ts.length≤5000):eV q=some s:=by
 obtain⟨N,hN⟩:=h.fmtF hl
 exact jN N hN
def PT.AllG{α:Type}(G:Tok→Prop)(φ:α→Nat→Prop):PT α→Nat→Prop
 | .rt a,k=>φ a k
 | .fl,_=>True
 | .acc f y n,k=>(∀x,G x→f x=true→(y x).AllG G φ (k+1))∧n.AllG G φ k
 | .out,_=>True
section
variable{α β:Type}{G:Tok→Prop}
theorem PT.AllG.bd{ψ:α→Nat→Prop}{φ:β→Nat→Prop}{g:α→PT β}(hg:∀a j,ψ a j→(g a).AllG G φ j):∀{p:PT α} {k:Nat},p.AllG G ψ k→(p.bd g).AllG G φ k
 | .rt a,k,h=>hg a k h
 | .fl,_,_=>trivial
 | .acc _ y n,_,h=>⟨fun x hx hf=>AllG.bd (p:=y x) hg (h.1 x hx hf),AllG.bd hg (p:=n) h.2⟩
 | .out,_,_=>trivial
theorem PT.AllG.run{φ:α→Nat→Prop}:∀{p:PT α} {k:Nat} (_:p.AllG G φ k) {t r:List Tok} {a:α},(∀x∈t,G x)→p.run t=some (.ok (a,r))→φ a (k+(t.length-r.length))
 | .rt a,k,h,t,r,b,_,e=>by
  simp only[PT.run,zo,Except.ok.injEq,Prod.mk.injEq]at e;rw[←e.1,←e.2,Nat.sub_self];exact h
 | .fl,_,_,_,_,_,_,e=>by simp[PT.run]at e
 | .acc f y n,k,h,[],r,a,hg,e=>AllG.run (p:=n) h.2 hg (by simpa only[PT.run]using e)
 | .acc f y n,k,h,x::t,r,a,hg,e=>by
  simp only[PT.run]at e;cases hf:f x with
  |true=>
   rw[hf,zc]at e;have h1:=AllG.run (h.1 x (hg x (by simp)) hf) (fun y hy=>hg y (by simp[hy])) e;have h2:=(run_suf (y x) t e).length_le
   rwa [show k+((x::t).length-r.length)=k+1+(t.length-r.length)from by simp only[List.length_cons];omega]
  |false=>rw[hf,zd]at e;exact AllG.run (p:=n) h.2 hg e
 | .out,_,_,_,_,_,_,e=>by simp[PT.run]at e
theorem PT.AllG.mono{φ ψ:α→Nat→Prop}(h:∀a j,φ a j→ψ a j):∀{p:PT α} {k:Nat},p.AllG G φ k→p.AllG G ψ k
 | .rt a,k,h1=>h a k h1
 | .fl,_,_=>trivial
 | .acc _ y n,_,h1=>⟨fun x hx hf=>AllG.mono h (p:=y x) (h1.1 x hx hf),AllG.mono h (p:=n) h1.2⟩
 | .out,_,_=>trivial
end
def TkG(x:Tok):Prop:=(x.kind=1→fw x.text)∧(x.kind=3→0≤x.number∧x.number≤1000000000000)∧(x.kind=4→x.text.length≤24)∧(x.kind=6→∃d k:UInt8,dig d=true∧(k=105∨k=98∨k=116)∧x.text=[k]∧x.number=(d.toNat:Int)-48)
section
variable{α:Type}{φ:α→Nat→Prop}{k:Nat}
theorem AllG.kW{s:List UInt8}{y n:PT α}(hy:y.AllG TkG φ (k+1))(hn:n.AllG TkG φ k):(kw s y n).AllG TkG φ k:=⟨fun _ _ _=>hy,hn⟩
theorem AllG.eX{s:List UInt8}{y:PT α}(hy:y.AllG TkG φ (k+1)):(ex s y).AllG TkG φ k:=⟨fun _ _ _=>hy,trivial⟩
theorem AllG.iD{y:List UInt8→PT α}(hy:∀s,fw s→(y s).AllG TkG φ (k+1)):(idt y).AllG TkG φ k:=⟨fun x hx hf=>hy x.text (hx.1 (by simpa using hf)),trivial⟩
theorem AllG.nU{y:Int→PT α}(hy:∀n,0≤n→n≤1000000000000→(y n).AllG TkG φ (k+1)):(num y).AllG TkG φ k:=⟨fun x hx hf=>(fun h=>hy x.number h.1 h.2) (hx.2.1 (by simpa using hf)),trivial⟩
theorem AllG.n1{y:Int→PT α}(hy:∀n,0<n→n≤1000000000000→(y n).AllG TkG φ (k+1)):(num1 y).AllG TkG φ k:=⟨fun x hx hf=>by
 simp only[Bool.and_eq_true,beq_iff_eq,Bool.not_eq_true',beq_eq_false_iff_ne,ne_eq]at hf;have h:=hx.2.1 hf.1;exact hy x.number (by have:=hf.2;omega) h.2,trivial⟩
end
theorem int_in{n:Int}(h0:0≤n)(h1:n≤1000000000000):cT n=⟨1,n,[]⟩:=by
 unfold cT;rw[zf (by omega),zf (by omega)];rfl
def PV1(k:Nat)(v:LVal)(j:Nat):Prop:=∃s ts,FV v s ts∧k+ts.length≤j
theorem lit_all(k:Nat):litT.AllG TkG (PV1 k) k:=by
 unfold litT;refine AllG.kW ⟨_,_,.null,by simp⟩ (AllG.kW ⟨_,_,.tru,by simp⟩ (AllG.kW ⟨_,_,.fal,by simp⟩ (AllG.kW ?_ ⟨fun x hx hf=>?_,?_⟩)))
 ·refine AllG.n1 fun n h0 h1=>?_
  have:cT (IntKind.i64.wrap (0-n))=⟨1,-n,[]⟩:=by
   rw[gk (by omega) (by omega),Int.zero_sub];unfold cT;rw[zf (by omega),zf (by omega)];rfl
  show PV1 k _ _;rw[this]
  exact⟨_,_,.neg n h0 h1,by simp⟩
 ·exact⟨_,_,.txt x.text (hx.2.2.1 (by simpa using hf)),by simp⟩
 ·refine AllG.nU fun n h0 h1=>?_
  show PV1 k _ _;rw[int_in h0 h1]
  exact⟨_,_,.pos n h0 h1,by simp⟩
def PE1(k:Nat)(e:LExpr)(j:Nat):Prop:=∃s ts,FE e s ts∧k+ts.length≤j
theorem expr_all{B:PT LExpr}(hB:∀k,B.AllG TkG (PE1 k) (k+1))(k:Nat):(gV B).AllG TkG (PE1 k) k:=by
 unfold gV
 refine⟨fun x hx hf=>?_,fun x hx hf=>?_,AllG.kW ?_ (AllG.kW (hB k) ?_)⟩
 ·exact⟨_,_,.col x.text (hx.1 (by simpa using hf)),by simp⟩
 ·obtain⟨d,c,h1,h2,h3,h4⟩:=hx.2.2.2 (by simpa using hf)
  show PE1 k _ _;rw[h3,h4]
  exact⟨_,_,.par d c h1 h2,by simp⟩
 ·exact AllG.iD fun s hs=>⟨_,_,.var s hs,by simp⟩
 ·exact(lit_all k).bd fun v j hv=>by
   obtain⟨s,ts,h,hl⟩:=hv
   exact⟨s,ts,.lit h,hl⟩
theorem bins_all{E:PT LExpr}(hE:∀k,E.AllG TkG (PE1 k) k){a:LExpr}{k k0:Nat}(ha:∃s ts,FE a s ts∧k0+1+ts.length≤k)(l:List (List UInt8))(hl:∀s∈l,∃t,OpT s t):(l.foldr (binB E a) .fl).AllG TkG (PE1 k0) k:=by
 induction l with
 |nil=>trivial
 |cons s l ih=>
  obtain⟨t,ht⟩:=hl s (by simp)
  refine AllG.kW ((hE (k+1)).bd fun b j hb=>AllG.eX ?_) (ih fun s hs=>hl s (by simp[hs]))
  obtain⟨sa,ta,h1,h2⟩:=ha
  obtain⟨sb,tb,h3,h4⟩:=hb
  exact⟨_,_,.bin s t ht h1 h3,by simp only[List.length_append,List.length_cons,List.length_nil];omega⟩
theorem bracket_all{E:PT LExpr}(hE:∀k,E.AllG TkG (PE1 k) k)(k:Nat):(eB E).AllG TkG (PE1 k) (k+1):=by
 unfold eB;refine AllG.kW ((hE _).bd fun a j ha=>AllG.eX ?_) (AllG.kW ((hE _).bd fun a j ha=>AllG.eX ?_) (AllG.kW ((hE _).bd fun a j ha=>AllG.eX ((hE _).bd fun b j' hb=>AllG.eX ((hE _).bd fun c j2 hc=>AllG.eX ?_))) ?_))
 ·obtain⟨sa,ta,h1,h2⟩:=ha
  exact⟨_,_,.un _ (.inl rfl) h1,by simp only[List.length_append,List.length_cons,List.length_nil];omega⟩
 ·obtain⟨sa,ta,h1,h2⟩:=ha
  exact⟨_,_,.un _ (.inr rfl) h1,by simp only[List.length_append,List.length_cons,List.length_nil];omega⟩
 ·obtain⟨sa,ta,h1,h2⟩:=ha
  obtain⟨sb,tb,h3,h4⟩:=hb
  obtain⟨sc,tc,h5,h6⟩:=hc
  exact⟨_,_,.ite h1 h3 h5,by simp only[List.length_append,List.length_cons,List.length_nil];omega⟩
 refine(hE (k+1)).bd fun a j ha=>AllG.kW (AllG.eX (AllG.eX ?_)) (bins_all hE (a:=a) ha bins ?_)
 ·obtain⟨sa,ta,h1,h2⟩:=ha
  exact⟨_,_,.isn h1,by simp only[List.length_append,List.length_cons,List.length_nil];omega⟩
 ·intro s hs;simp only[bins,List.mem_cons,List.mem_nil_iff,or_false]at hs;rcases hs with rfl|rfl|rfl|rfl|rfl|rfl|rfl|rfl|rfl
  ·exact⟨_,.add⟩
  ·exact⟨_,.sub⟩
  ·exact⟨_,.mul⟩
  ·exact⟨_,.eq⟩
  ·exact⟨_,.le⟩
  ·exact⟨_,.lt⟩
  ·exact⟨_,.and⟩
  ·exact⟨_,.or⟩
  ·exact⟨_,.cat⟩
theorem eb_all:∀m:Nat,(∀k,(eT m).AllG TkG (PE1 k) k)∧∀k,(bT m).AllG TkG (PE1 k) (k+1)
 |0=>⟨fun k=>by rw[eT];trivial,fun k=>by rw[bT];trivial⟩
 |m+1=>by
  obtain⟨h1,h2⟩:=eb_all m
  exact⟨fun k=>by rw[eT];exact expr_all h2 k,fun k=>by rw[bT];exact bracket_all h1 k⟩
theorem km(k:Nat):eM.AllG TkG (PE1 k) k:=(eb_all cg).1 k
theorem kZ{tss:List (List Tok)}(t:List Tok)(h:tss≠[]):(jt (tss++[t])).length=(jt tss).length+1+t.length:=by
 cases tss with
 |nil=>exact absurd rfl h
 |cons x l=>simp[jt];omega
theorem jt_one(t:List Tok):(jt [t]).length=t.length:=by simp[jt]
theorem FN.snoc{es ns ss tss}(h:FN es ns ss tss){e:LExpr}{s:List UInt8}{ts:List Tok}{n:List UInt8}(he:FE e s ts)(hn:fw n):FN (es++[e]) (ns++[n]) (ss++[s++([32]++([97,115]++([32]++n)))]) (tss++[ts++([tK [97,115]]++[tI n])]):=by
 induction h with
 |nil=>exact .cons he hn .nil
 |cons h1 h2 h3 ih=>exact .cons h1 h2 ih
theorem FA.snoc0{gs ss tss}(h:FA gs ss tss){f n:List UInt8}(hf:fw f)(hn:fw n):FA (gs++[LAggregateCall.mk n f []]) (ss++[f++([40]++([41]++([32]++([97,115]++([32]++n)))))]) (tss++[[tI f]++([tP [40]]++([tP [41]]++([tK [97,115]]++[tI n])))]):=by
 induction h with
 |nil=>exact .none hf hn .nil
 |none h1 h2 h3 ih=>exact .none h1 h2 ih
 |one h1 h2 h3 h4 ih=>exact .one h1 h2 h3 ih
theorem FA.snoc1{gs ss tss}(h:FA gs ss tss){f n:List UInt8}{e:LExpr}{s:List UInt8}{ts:List Tok}(hf:fw f)(hn:fw n)(he:FE e s ts):FA (gs++[LAggregateCall.mk n f [e]]) (ss++[f++([40]++(s++([41]++([32]++([97,115]++([32]++n))))))]) (tss++[[tI f]++([tP [40]]++(ts++([tP [41]]++([tK [97,115]]++[tI n]))))]):=by
 induction h with
 |nil=>exact .one hf hn he .nil
 |none h1 h2 h3 ih=>exact .none h1 h2 ih
 |one h1 h2 h3 h4 ih=>exact .one h1 h2 h3 ih
theorem FO.snocU{es ds ss tss}(h:FO es ds ss tss){e:LExpr}{s:List UInt8}{ts:List Tok}(he:FE e s ts):FO (es++[e]) (ds++[false]) (ss++[s]) (tss++[ts]):=by
 induction h with
 |nil=>exact .up he .nil
 |up h1 h2 ih=>exact .up h1 ih
 |down h1 h2 ih=>exact .down h1 ih
theorem FO.snocD{es ds ss tss}(h:FO es ds ss tss){e:LExpr}{s:List UInt8}{ts:List Tok}(he:FE e s ts):FO (es++[e]) (ds++[true]) (ss++[s++([32]++[100,101,115,99])]) (tss++[ts++[tK [100,101,115,99]]]):=by
 induction h with
 |nil=>exact .down he .nil
 |up h1 h2 ih=>exact .up h1 ih
 |down h1 h2 ih=>exact .down h1 ih
theorem lst_all{one:LQuery→PT LQuery}{ψ:LQuery→Nat→Prop}{q0:LQuery}{k:Nat}(h0:(one q0).AllG TkG ψ k)(h1:∀q j,ψ q j→(one q).AllG TkG ψ (j+1))(n:Nat):(lst one n q0).AllG TkG ψ k:=by
 have hc:∀(n:Nat) (q:LQuery) (j:Nat),ψ q j→(commas one n q).AllG TkG ψ j:=by
  intro n;induction n with
  |zero=>intro q j _;trivial
  |succ n ih=>intro q j hq;exact AllG.kW ((h1 q j hq).bd ih) hq
 exact h0.bd fun q j hq=>hc n q j hq
def PN(k0:Int)(q:LQuery)(k:Nat)(q':LQuery)(j:Nat):Prop:=∃es ns ss tss,q'=LQuery.mk k0 [] ns es [] [] 0 0 [q]∧FN es ns ss tss∧es≠[]∧k+(jt tss).length≤j
theorem named_all{k0:Int}{q:LQuery}(k:Nat):(lst (eA eM) cg (qmk k0 q)).AllG TkG (PN k0 q k) k:=by
 refine lst_all ?_ (fun q' j hq=>?_) _
 ·refine(km k).bd fun e j he=>AllG.eX (AllG.iD fun n hn=>?_)
  obtain⟨s,ts,h1,h2⟩:=he
  exact⟨[e],[n],_,_,rfl,.cons h1 hn .nil,by simp,by rw[jt_one];simp only[List.length_append,List.length_cons,List.length_nil];omega⟩
 ·obtain⟨es,ns,ss,tss,rfl,h,h0,hl⟩:=hq
  refine(km (j+1)).bd fun e j' he=>AllG.eX (AllG.iD fun n hn=>?_)
  obtain⟨s,ts,h1,h2⟩:=he
  exact⟨_,_,_,_,rfl,h.snoc h1 hn,by simp,by rw[kZ _ (h.ne.2 h0)];simp only[List.length_append,List.length_cons,List.length_nil];omega⟩
def PS(q:LQuery)(k:Nat)(q':LQuery)(j:Nat):Prop:=∃es ds ss tss,q'=LQuery.mk 9 [] [] es [] ds 0 0 [q]∧FO es ds ss tss∧es≠[]∧k+(jt tss).length≤j
theorem sort_all{q:LQuery}(k:Nat):(lst (gD eM) cg (qmk 9 q)).AllG TkG (PS q k) k:=by
 refine lst_all ?_ (fun q' j hq=>?_) _
 ·refine(km k).bd fun e j he=>?_
  obtain⟨s,ts,h1,h2⟩:=he
  refine(show PT.AllG TkG (PS q k) (kw [100,101,115,99] (.rt _) (.rt _)) j from AllG.kW ?_ ?_)
  ·exact⟨[e],[true],_,_,rfl,.down h1 .nil,by simp,by rw[jt_one];simp only[List.length_append,List.length_cons,List.length_nil];omega⟩
  ·exact⟨[e],[false],_,_,rfl,.up h1 .nil,by simp,by rw[jt_one];omega⟩
 ·obtain⟨es,ds,ss,tss,rfl,h,h0,hl⟩:=hq
  refine(km (j+1)).bd fun e j' he=>?_
  obtain⟨s,ts,h1,h2⟩:=he
  refine(show PT.AllG TkG (PS q k) (kw [100,101,115,99] (.rt _) (.rt _)) j' from AllG.kW ?_ ?_)
  ·exact⟨_,_,_,_,rfl,h.snocD h1,by simp,by rw[kZ _ (h.ne.2 h0)];simp only[List.length_append,List.length_cons,List.length_nil];omega⟩
  ·exact⟨_,_,_,_,rfl,h.snocU h1,by simp,by rw[kZ _ (h.ne.2 h0)];omega⟩
def PA(q:LQuery)(ns:List (List UInt8))(es:List LExpr)(k:Nat)(q':LQuery)(j:Nat):Prop:=∃gs ss tss,q'=LQuery.mk 8 [] ns es gs [] 0 0 [q]∧FA gs ss tss∧gs≠[]∧k+(jt tss).length≤j
theorem agg_arg{k:Nat}{ψ:List LExpr→Nat→Prop}(h0:ψ [] (k+1))(h1:∀e j s ts,FE e s ts→k+ts.length≤j→ψ [e] (j+1)):(kw [41] (.rt []) (eM.bd fun e=>ex [41] (.rt [e]))).AllG TkG ψ k:=
 AllG.kW h0 ((km k).bd fun e j he=>AllG.eX (by obtain⟨s,ts,h,hl⟩:=he;exact h1 e j s ts h hl))
theorem agg_all{q:LQuery}{ns:List (List UInt8)}{es:List LExpr}(k:Nat):(lst (gc eM) cg (LQuery.mk 8 [] ns es [] [] 0 0 [q])).AllG TkG (PA q ns es k) k:=by
 refine lst_all ?_ (fun q' j hq=>?_) _
 ·refine AllG.iD fun f hf=>AllG.eX ((agg_arg (k:=k+1+1) (ψ:=fun l j=>(l=[]∧k+3≤j)∨∃e s ts,l=[e]∧FE e s ts∧k+3+ts.length≤j) (.inl ⟨rfl,by omega⟩) fun e j s ts h hl=>.inr ⟨e,s,ts,rfl,h,by omega⟩).bd fun l j hl=>AllG.eX (AllG.iD fun n hn=>?_))
  rcases hl with⟨rfl,hl⟩|⟨e,s,ts,rfl,h,hl⟩
  ·exact⟨_,_,_,rfl,FA.nil.snoc0 hf hn,by simp[LQuery.aggregates],by simp only[List.nil_append];rw[jt_one];simp only[List.length_append,List.length_cons,List.length_nil];omega⟩
  ·exact⟨_,_,_,rfl,FA.nil.snoc1 hf hn h,by simp[LQuery.aggregates],by simp only[List.nil_append];rw[jt_one];simp only[List.length_append,List.length_cons,List.length_nil];omega⟩
 ·obtain⟨gs,ss,tss,rfl,h,h0,hl⟩:=hq
  refine AllG.iD fun f hf=>AllG.eX ((agg_arg (k:=j+1+1+1) (ψ:=fun l j'=>(l=[]∧j+4≤j')∨∃e s ts,l=[e]∧FE e s ts∧j+4+ts.length≤j') (.inl ⟨rfl,by omega⟩) fun e j' s ts h hl=>.inr ⟨e,s,ts,rfl,h,by omega⟩).bd fun l j' hl'=>AllG.eX (AllG.iD fun n hn=>?_))
  rcases hl' with⟨rfl,hl'⟩|⟨e,s,ts,rfl,he,hl'⟩
  ·exact⟨_,_,_,rfl,h.snoc0 hf hn,by simp[LQuery.aggregates],by rw[kZ _ (h.ne.2 h0)];simp only[List.length_append,List.length_cons,List.length_nil];omega⟩
  ·exact⟨_,_,_,rfl,h.snoc1 hf hn he,by simp[LQuery.aggregates],by rw[kZ _ (h.ne.2 h0)];simp only[List.length_append,List.length_cons,List.length_nil];omega⟩
def PQ1(k:Nat)(q:LQuery)(j:Nat):Prop:=∃s ts,FQ q s ts∧k+ts.length≤j
theorem stage_all{S2:LQuery→PT LQuery}{I:PT LQuery}{q:LQuery}{s:List UInt8}{ts:List Tok}(hq:FQ q s ts){k0 k:Nat}(hk:k0+ts.length+1≤k)
  (hI:∀j,I.AllG TkG (fun r j'=>∃s ts,FQ r s ts∧j+2+ts.length≤j') j) (hS:∀c j,(S2 (qmk c q)).AllG TkG (fun q' j'=>∃r sr tr e se te,q'=LQuery.mk c [] [] [e] [] [] 0 0 [q,r]∧FQ r sr tr∧FE e se te∧j+3+tr.length+te.length≤j') j):
  (jf eM cg S2 I q).AllG TkG (PQ1 k0) k:=by
 unfold jf
 refine AllG.kW ((km _).bd fun e j he=>?_) (AllG.kW ((named_all (k+1)).mono fun q' j h=>?_) (AllG.kW ((hS 4 (k+1)).mono fun q' j h=>?_) (AllG.kW (AllG.eX ((hS 5 (k+1+1)).mono fun q' j h=>?_))
  (AllG.kW ((hI (k+1)).bd fun r j hr=>?_) (AllG.kW ((hI (k+1)).bd fun r j hr=>?_) (AllG.kW ?_ (AllG.kW ((sort_all (k+1)).mono fun q' j h=>?_) (AllG.kW (AllG.nU fun c h0 h1=>AllG.kW (AllG.n1 fun o h2 h3=>?_) ?_) trivial))))))))
 ·obtain⟨s',ts',h1,h2⟩:=he
  exact⟨_,_,.filt hq h1,by simp only[List.length_append,List.length_cons,List.length_nil];omega⟩
 ·obtain⟨es,ns,ss,tss,rfl,h1,h2,h3⟩:=h
  exact⟨_,_,.proj hq h1 h2,by simp only[List.length_append,List.length_cons,List.length_nil];omega⟩
 ·obtain⟨r,sr,tr,e,se,te,rfl,h1,h2,h3⟩:=h
  exact⟨_,_,.join hq h1 h2,by simp only[List.length_append,List.length_cons,List.length_nil];omega⟩
 ·obtain⟨r,sr,tr,e,se,te,rfl,h1,h2,h3⟩:=h
  exact⟨_,_,.left hq h1 h2,by simp only[List.length_append,List.length_cons,List.length_nil];omega⟩
 ·obtain⟨sr,tr,h1,h2⟩:=hr
  exact⟨_,_,.union hq h1,by simp only[List.length_append,List.length_cons,List.length_nil];omega⟩
 ·obtain⟨sr,tr,h1,h2⟩:=hr
  exact⟨_,_,.except hq h1,by simp only[List.length_append,List.length_cons,List.length_nil];omega⟩
 ·unfold jU;refine AllG.kW ((named_all (k+1+1)).bd fun q' j h=>?_) (AllG.kW ((agg_all (k+1+1)).mono fun q' j h=>?_) trivial)
  ·obtain⟨es,ns,ss,tss,rfl,h1,h2,h3⟩:=h
   refine AllG.kW ((agg_all (j+1)).mono fun q' j' h=>?_) ⟨_,_,.grp1 hq h1 h2,by simp only[List.length_append,List.length_cons,List.length_nil];omega⟩
   obtain⟨gs,ss',tss',rfl,h4,h5,h6⟩:=h
   exact⟨_,_,.grp3 hq h1 h2 h4 h5,by simp only[List.length_append,List.length_cons,List.length_nil];omega⟩
  ·obtain⟨gs,ss',tss',rfl,h4,h5,h6⟩:=h
   exact⟨_,_,.grp2 hq h4 h5,by simp only[List.length_append,List.length_cons,List.length_nil];omega⟩
 ·obtain⟨es,ds,ss,tss,rfl,h1,h2,h3⟩:=h
  exact⟨_,_,.sort hq h1 h2,by simp only[List.length_append,List.length_cons,List.length_nil];omega⟩
 ·exact⟨_,_,.lim c o hq h0 h1 h2 h3,by simp only[List.length_append,List.length_cons,List.length_nil];omega⟩
 ·exact⟨_,_,.lim0 c hq h0 h1,by simp only[List.length_append,List.length_cons,List.length_nil];omega⟩
theorem q_all:∀m:Nat,(∀k,(qT m).AllG TkG (PQ1 k) k)∧(∀q s ts k0 k,FQ q s ts→k0+ts.length+1≤k→(sT m q).AllG TkG (PQ1 k0) k)∧
  (∀q c j,(s2T m (qmk c q)).AllG TkG (fun q' j'=>∃r sr tr e se te,q'=LQuery.mk c [] [] [e] [] [] 0 0 [q,r]∧FQ r sr tr∧FE e se te∧j+3+tr.length+te.length≤j') j)∧∀j,(iT m).AllG TkG (fun r j'=>∃s ts,FQ r s ts∧j+2+ts.length≤j') j
 |0=>⟨fun k=>by rw[qT];trivial,fun q s ts k0 k _ _=>by rw[sT];trivial,fun q c j=>by rw[s2T];trivial,fun j=>by rw[iT];trivial⟩
 |m+1=>by
  obtain⟨h1,h2,h3,h4⟩:=q_all m
  refine⟨fun k=>?_,fun q s ts k0 k hq hk=>?_,fun q c j=>?_,fun j=>?_⟩
  ·rw[qT]
   have hs:∀(n:Nat) (q:LQuery) (j:Nat),PQ1 k q j→(dT (fun q=>sT m q) n q).AllG TkG (PQ1 k) j:=by
    intro n;induction n with
    |zero=>intro q j _;trivial
    |succ n ih=>
     intro q j hq
     obtain⟨s,ts,hq1,hl⟩:=hq
     exact AllG.kW ((h2 q s ts k (j+1) hq1 (by omega)).bd ih) ⟨s,ts,hq1,hl⟩
   refine PT.AllG.bd (ψ:=PQ1 k) (fun q j hq=>hs cg q j hq) ?_;refine AllG.kW ((h1 (k+1)).bd fun q j hq=>AllG.eX ?_) (AllG.eX (AllG.iD fun s hs=>⟨_,_,.scan s hs,by simp⟩))
   obtain⟨s,ts,hq1,hl⟩:=hq
   exact⟨s,ts,hq1,by omega⟩
  ·rw[sT];exact stage_all hq hk h4 (h3 q)
  ·rw[s2T]
   refine(h4 j).bd fun r j' hr=>AllG.eX ((km _).bd fun e j2 he=>?_)
   obtain⟨sr,tr,h5,h6⟩:=hr
   obtain⟨se,te,h7,h8⟩:=he
   exact⟨r,sr,tr,e,se,te,rfl,h5,h7,by omega⟩
  ·rw[iT];refine AllG.eX ((h1 (j+1)).bd fun q j' hq=>AllG.eX ?_)
   obtain⟨s,ts,h5,h6⟩:=hq
   exact⟨s,ts,h5,by omega⟩
theorem parsed_good{t r:List Tok}{q:LQuery}(ht:∀x∈t,TkG x)(h:qM.run t=some (.ok (q,r))):∃s ts,FQ q s ts∧ts.length≤t.length:=by
 obtain⟨s,ts,h1,h2⟩:=((q_all cg).1 0).run ht h
 exact⟨s,ts,h1,by omega⟩
end
end Go.Proofs.YtibojibdiibdgaaGreatDoor

namespace Go.Proofs.YtibojibdiibdgaaGreatDoor
noncomputable section
open Go Go.Ab
theorem bne_own{a:Int}:(a !=a)=false:=by simp
theorem indQ{p:LQuery→Prop}(h:∀q:LQuery,(∀x∈q.inputs,p x)→p q):∀q,p q:=by
 intro q;generalize hn:SizeOf.sizeOf q=n;induction n using Nat.strongRecOn generalizing q with
 |_ n ih=>
  refine h q fun x hx=>ih _ (hn▸ ?_) x rfl
  cases q;simp only[LQuery.inputs]at hx
  have:=List.sizeOf_lt_of_mem hx
  simp;omega
theorem indE{p:LExpr→Prop}(h:∀e:LExpr,(∀x∈e.args,p x)→p e):∀e,p e:=by
 intro e;generalize hn:SizeOf.sizeOf e=n;induction n using Nat.strongRecOn generalizing e with
 |_ n ih=>
  refine h e fun x hx=>ih _ (hn▸ ?_) x rfl
  cases e;simp only[LExpr.args]at hx
  have:=List.sizeOf_lt_of_mem hx
  simp;omega
theorem evs_all{α:Type}{p:α→Nat→Prop}:∀(xs:List α),(∀x∈xs,∃N,∀n,N≤n→p x n)→∃N,∀n,N≤n→∀x∈xs,p x n
 |[],_=>⟨0,fun _ _ x hx=>by simp at hx⟩
 |y::xs,h=>by
  obtain⟨N,hN⟩:=h y (by simp)
  obtain⟨N',hN'⟩:=evs_all xs fun x hx=>h x (by simp[hx])
  refine⟨N+N',fun n hn x hx=>?_⟩
  rcases List.mem_cons.1 hx with rfl|hx
  ·exact hN n (by omega)
  ·exact hN' n (by omega) x hx
theorem eqOwn{α:Type}{xs:List α}{f:α→α→Option Bool}(h:∀x∈xs,f x x=some true):
  (cond ((xs.length:Int) !=(xs.length:Int)) (some false) (ag (aY (σ:=Unit) (ρ:=Bool) (fun(j1:Nat) (x1:α) (_:Unit)=>
   ag (bl xs (j1:Int)) fun(x24:α)=>
   ag (f x1 x24) fun x29=>
   cond (!x29)
    (some (.ret false))
    (some (.next ()))) 0 xs ()) fun fl1=>fl1.thenR fun(_:Unit)=>some true))=some true:=by
 rw[bne_own,zd,rMa (xs:=xs) (fun _=>()) rfl (fun k x hk=>by rw[eg hk,bPs,h x ((List.mem_of_getElem? hk)),bPs];rfl)];rfl
theorem eqOwn2{α:Type}[BEq α][ReflBEq α](xs:List α):
  (cond ((xs.length:Int) !=(xs.length:Int)) (some false) (ag (aY (σ:=Unit) (ρ:=Bool) (fun(j1:Nat) (x1:α) (_:Unit)=>
   ag (bl xs (j1:Int)) fun(x24:α)=>
   cond (!(x1==x24))
    (some (.ret false))
    (some (.next ()))) 0 xs ()) fun fl1=>fl1.thenR fun(_:Unit)=>some true))=some true:=by
 rw[bne_own,zd,rMa (xs:=xs) (fun _=>()) rfl (fun k x hk=>by rw[eg hk,bPs,BEq.rfl];rfl)];rfl
theorem exprOwn_ev(e:LExpr):∃N,∀n,N≤n→eN n e e=some true:=by
 induction e using indE with
 |_ e ih=>
  obtain⟨N,hN⟩:=evs_all (p:=fun x n=>eN n x x=some true) e.args ih
  refine⟨N+1,fun n hn=>?_⟩
  obtain⟨n,rfl⟩:∃k,n=k+1:=⟨n-1,by omega⟩
  rw[eN];unfold ij
  have hl:aJ e.args e.args (fun a0 a1=>eN n a0 a1)=some true:=by
   unfold aJ;exact eqOwn fun x hx=>hN n (by omega) x hx
  dsimp only;rw[hl];simp only[BEq.rfl,Bool.and_true,zc,bPs]
theorem exprOwn(e:LExpr):fm e e=some true:=by
 obtain⟨N,hN⟩:=exprOwn_ev e
 exact jN N hN
theorem exprsOwn(l:List LExpr):aJ l l (fun a0 a1=>fm a0 a1)=some true:=by
 unfold aJ;exact eqOwn fun x _=>exprOwn x
theorem callOwn(x:LAggregateCall):ej x x=some true:=by
 unfold ej;rw[exprsOwn];simp only[BEq.rfl,zc,bPs]
theorem queryOwn_ev:∀q:LQuery,∃N,∀n,N≤n→er n q q=some true:=by
 refine indQ fun q ih=>?_
 obtain⟨N,hN⟩:=evs_all (p:=fun x n=>er n x x=some true) q.inputs ih
 refine⟨N+1,fun n hn=>?_⟩
 obtain⟨n,rfl⟩:∃k,n=k+1:=⟨n-1,by omega⟩
 rw[er];unfold gO
 have h1:cN q.names q.names=some true:=by
  unfold cN;exact eqOwn2 q.names
 have h2:dA q.descending q.descending=some true:=by
  unfold dA;exact eqOwn2 q.descending
 have h3:aK q.aggregates q.aggregates (fun a0 a1=>ej a0 a1)=some true:=by
  unfold aK;exact eqOwn fun x _=>callOwn x
 have h4:aZ q.inputs q.inputs (fun a0 a1=>er n a0 a1)=some true:=by
  unfold aZ;exact eqOwn fun x hx=>hN n (by omega) x hx
 dsimp only;rw[h1,h2,exprsOwn,h3,h4];simp only[BEq.rfl,zc,bPs]
theorem queryOwn(q:LQuery):ju q q=some true:=by
 obtain⟨N,hN⟩:=queryOwn_ev q
 exact jN N hN
end
end Go.Proofs.YtibojibdiibdgaaGreatDoor

namespace Go.Proofs.YtibojibdiibdgaaGreatDoor
noncomputable section
open Go Go.Ab PT
theorem one_tk(c:UInt8)(r:List UInt8)(h:(bH (c::r)).2.2=true):TkOk (bH (c::r)).1:=by
 intro h6;simp only[bH]at h h6⊢;split at h6
 ·rename_i hl;simp only at h6;split at h6<;>simp at h6
 ·rename_i hl;rw[zy hl]at h⊢;split at h6
  ·simp at h6
  ·rename_i hd;rw[zy hd]at h⊢;split at h6
   ·rename_i ha;rw[zp ha]at h⊢
    obtain⟨a,d,k,r',_,_,_,_,e⟩:=lC (c::r) h
    rw[e]
    exact⟨k,rfl⟩
   ·rename_i ha;split at h6
    ·split at h6<;>simp[bad]at h6
    ·split at h6<;>simp[bad]at h6
theorem toks_tk:∀(f off:Nat) (s:List UInt8),∀x∈(ci f off s).1,TkOk x
 |0,_,_,x,h=>by simp[ci]at h
 |f+1,off,[],x,h=>by simp[ci]at h
 |f+1,off,c::r,x,h=>by
  rw[ci]at h;split at h
  ·exact toks_tk f _ _ x h
  ·split at h
   ·rename_i h1;rcases List.mem_cons.1 h with e|h
    ·subst e;exact one_tk c r h1
    ·exact toks_tk f _ _ x h
   ·simp at h
theorem parse_long{s:List UInt8}(h:4000<s.length):bY s=some (q0,0,2):=by
 unfold bY;rw[tokenize_long s h];rfl
theorem parse_bad{s:List UInt8}{l:List Tok}{p:Nat}(hs:s.length≤4000)(h:lexT s=(l,some p)):bY s=some (q0,(p:Int),22):=by
 unfold bY;rw[kR s hs,h];rfl
def outP(s:List UInt8):Res LQuery→LQuery×Int×Int
 | .ok (q,[])=>(q,0,0)
 | .ok (_,x::_)=>(q0,x.offset,22)
 | .error r=>(q0,off (s.length:Int) r,22)
theorem parse_good{s:List UInt8}{l:List Tok}(hs:s.length≤4000)(h:lexT s=(l,none)):∃v,qM.run l=some v∧bY s=some (outP s v):=by
 have h1:=kq (s.length+1) 0 s;have h2:=toks_tk (s.length+1) 0 s;rw[show ci (s.length+1) 0 s=(l,none)from h]at h1 h2
 obtain⟨v,h3,h4⟩:=parse1_eq (T:=l) (s.length:Int) (by simp only at h1;omega) h2
 refine⟨v,h3,?_⟩
 unfold bY;rw[kR s hs,h,bPs];simp only[beq_self_eq_true,zc];rw[h4];rcases v with e|⟨q,_|⟨x,r⟩⟩<;>rfl
def PT.Blind{α:Type}:PT α→Prop
 | .rt _=>True
 | .fl=>True
 | .acc f y n=>(∀x,f (gE x)=f x∧y (gE x)=y x∧(y x).Blind)∧n.Blind
 | .out=>True
def stripR{α:Type}:Res α→Res α
 | .ok (a,r)=>.ok (a,r.map gE)
 | .error r=>.error (r.map gE)
section
variable{α β:Type}
theorem PT.Blind.run:∀{p:PT α} (_:p.Blind) (t:List Tok),p.run (t.map gE)=(p.run t).map stripR
 | .rt a,_,t=>rfl
 | .fl,_,t=>rfl
 | .acc f y n,h,[]=>by simp only[List.map_nil,PT.run];exact Blind.run (p:=n) h.2 []
 | .acc f y n,h,x::t=>by
  obtain⟨h1,h2,h3⟩:=h.1 x
  simp only[List.map_cons,PT.run,h1,h2];cases f x with
  |true=>simp only[zc];exact Blind.run h3 t
  |false=>simp only[zd];exact Blind.run (p:=n) h.2 (x::t)
 | .out,_,t=>rfl
theorem PT.Blind.bd{g:α→PT β}(hg:∀a,(g a).Blind):∀{p:PT α},p.Blind→(p.bd g).Blind
 | .rt a,_=>hg a
 | .fl,_=>trivial
 | .acc _ y n,h=>⟨fun x=>⟨(h.1 x).1,congrArg (fun q=>PT.bd q g) (h.1 x).2.1,Blind.bd (p:=y x) hg (h.1 x).2.2⟩,Blind.bd (p:=n) hg h.2⟩
 | .out,_=>trivial
theorem Blind.kW{s:List UInt8}{y n:PT α}(hy:y.Blind)(hn:n.Blind):(kw s y n).Blind:=⟨fun _=>⟨rfl,rfl,hy⟩,hn⟩
theorem Blind.eX{s:List UInt8}{y:PT α}(hy:y.Blind):(ex s y).Blind:=⟨fun _=>⟨rfl,rfl,hy⟩,trivial⟩
theorem Blind.iD{y:List UInt8→PT α}(hy:∀s,(y s).Blind):(idt y).Blind:=⟨fun x=>⟨rfl,rfl,hy x.text⟩,trivial⟩
theorem Blind.nU{y:Int→PT α}(hy:∀s,(y s).Blind):(num y).Blind:=⟨fun x=>⟨rfl,rfl,hy x.number⟩,trivial⟩
theorem Blind.n1{y:Int→PT α}(hy:∀s,(y s).Blind):(num1 y).Blind:=⟨fun x=>⟨rfl,rfl,hy x.number⟩,trivial⟩
theorem Blind.rt(a:α):(PT.rt a).Blind:=trivial
end
theorem lit_bl:litT.Blind:=Blind.kW (Blind.rt _) (Blind.kW (Blind.rt _) (Blind.kW (Blind.rt _) (Blind.kW (Blind.n1 fun _=>Blind.rt _) ⟨fun _=>⟨rfl,rfl,Blind.rt _⟩,Blind.nU fun _=>Blind.rt _⟩)))
theorem expr_bl{B:PT LExpr}(h:B.Blind):(gV B).Blind:=⟨fun _=>⟨rfl,rfl,Blind.rt _⟩,⟨fun _=>⟨rfl,rfl,Blind.rt _⟩,Blind.kW (Blind.iD fun _=>Blind.rt _) (Blind.kW h (Blind.bd (fun _=>Blind.rt _) lit_bl))⟩⟩
theorem bins_bl{E:PT LExpr}(h:E.Blind)(a:LExpr):∀l:List (List UInt8),(l.foldr (binB E a) .fl).Blind
 |[]=>trivial
 |s::l=>Blind.kW (Blind.bd (fun _=>Blind.eX (Blind.rt _)) h) (bins_bl h a l)
theorem bracket_bl{E:PT LExpr}(h:E.Blind):(eB E).Blind:=
 Blind.kW (Blind.bd (fun _=>Blind.eX (Blind.rt _)) h) (Blind.kW (Blind.bd (fun _=>Blind.eX (Blind.rt _)) h) (Blind.kW (Blind.bd (fun _=>Blind.eX (Blind.bd (fun _=>Blind.eX (Blind.bd (fun _=>Blind.eX (Blind.rt _)) h)) h)) h)
  (Blind.bd (fun a=>Blind.kW (Blind.eX (Blind.eX (Blind.rt _))) (bins_bl h a _)) h)))
theorem eb_bl:∀m:Nat,(eT m).Blind∧(bT m).Blind
 |0=>⟨by rw[eT];trivial,by rw[bT];trivial⟩
 |m+1=>⟨by rw[eT];exact expr_bl (eb_bl m).2,by rw[bT];exact bracket_bl (eb_bl m).1⟩
theorem eM_bl:eM.Blind:=(eb_bl cg).1
theorem lst_bl{one:LQuery→PT LQuery}(h:∀q,(one q).Blind)(n:Nat)(q:LQuery):(lst one n q).Blind:=by
 have hc:∀(n:Nat) (q:LQuery),(commas one n q).Blind:=by
  intro n;induction n with
  |zero=>intro q;trivial
  |succ n ih=>intro q;exact Blind.kW (Blind.bd ih (h q)) (Blind.rt _)
 exact Blind.bd (hc n) (h q)
theorem named_bl(q:LQuery):(eA eM q).Blind:=Blind.bd (fun _=>Blind.eX (Blind.iD fun _=>Blind.rt _)) eM_bl
theorem agg_bl(q:LQuery):(gc eM q).Blind:=Blind.iD fun _=>Blind.eX (Blind.bd (fun _=>Blind.eX (Blind.iD fun _=>Blind.rt _)) (Blind.kW (Blind.rt _) (Blind.bd (fun _=>Blind.eX (Blind.rt _)) eM_bl)))
theorem sort_bl(q:LQuery):(gD eM q).Blind:=Blind.bd (fun _=>Blind.bd (fun _=>Blind.rt _) (Blind.kW (Blind.rt _) (Blind.rt _))) eM_bl
theorem group_bl(q:LQuery):(jU eM cg q).Blind:=Blind.kW (Blind.bd (fun q=>Blind.kW (lst_bl agg_bl _ q) (Blind.rt _)) (lst_bl named_bl _ q)) (Blind.kW (lst_bl agg_bl _ q) trivial)
theorem q_bl:∀m:Nat,(qT m).Blind∧(∀q,(sT m q).Blind)∧(∀q,(s2T m q).Blind)∧(iT m).Blind
 |0=>⟨by rw[qT];trivial,fun q=>by rw[sT];trivial,fun q=>by rw[s2T];trivial,by rw[iT];trivial⟩
 |m+1=>by
  obtain⟨h1,h2,h3,h4⟩:=q_bl m
  refine⟨?_,fun q=>?_,fun q=>?_,?_⟩
  ·rw[qT]
   have hs:∀(n:Nat) (q:LQuery),(dT (fun q=>sT m q) n q).Blind:=by
    intro n;induction n with
    |zero=>intro q;trivial
    |succ n ih=>intro q;exact Blind.kW (Blind.bd ih (h2 q)) (Blind.rt _)
   exact Blind.bd (hs cg) (Blind.kW (Blind.bd (fun _=>Blind.eX (Blind.rt _)) h1) (Blind.eX (Blind.iD fun _=>Blind.rt _)))
  ·rw[sT];exact Blind.kW (Blind.bd (fun _=>Blind.rt _) eM_bl) (Blind.kW (lst_bl named_bl _ _) (Blind.kW (h3 _) (Blind.kW (Blind.eX (h3 _)) (Blind.kW (Blind.bd (fun _=>Blind.rt _) h4) (Blind.kW (Blind.bd (fun _=>Blind.rt _) h4) (Blind.kW (group_bl _) (Blind.kW (lst_bl sort_bl _ _) (Blind.kW (Blind.nU fun _=>Blind.kW (Blind.n1 fun _=>Blind.rt _) (Blind.rt _)) trivial))))))))
  ·rw[s2T];exact Blind.bd (fun _=>Blind.eX (Blind.bd (fun _=>Blind.rt _) eM_bl)) h4
  ·rw[iT];exact Blind.eX (Blind.bd (fun _=>Blind.eX (Blind.rt _)) h1)
theorem qM_bl:qM.Blind:=(q_bl cg).1
theorem lS(p:UInt8→Bool):∀l:List UInt8,(l.takeWhile p).all p=true
 |[]=>rfl
 |c::l=>by
  rw[List.takeWhile_cons];split
  ·rename_i h;rw[List.all_cons,h,lS p l];rfl
  ·rfl
theorem one_tkg(c:UInt8)(r:List UInt8)(h:(bH (c::r)).2.2=true):TkG (bH (c::r)).1:=by
 cases hl:low c with
 |true=>
  simp only[bH,hl,if_true]at h⊢
  refine⟨fun h1=>?_,fun h1=>?_,fun h1=>?_,fun h1=>?_⟩
  ·simp only at h1;split at h1
   ·simp at h1
   ·rename_i hk;have hk':isKw (c::r.takeWhile inn)=false:=Bool.eq_false_iff.2 hk
    refine⟨by simp only[jd,hl,lS];rfl,hk',?_⟩
    rw[show fX.any ((c::r.takeWhile inn)==·)=false from hk',Bool.false_or,decide_eq_true_eq]at h;simp only[List.length_cons];omega
  ·simp only at h1;split at h1<;>simp at h1
  ·simp only at h1;split at h1<;>simp at h1
  ·simp only at h1;split at h1<;>simp at h1
 |false=>
  cases hd:dig c with
  |true=>
   simp only[bH,hl,hd,Bool.false_eq_true,if_false,if_true,Bool.and_eq_true]at h⊢
   refine⟨fun h1=>by simp at h1,fun _=>?_,fun h1=>by simp at h1,fun h1=>by simp at h1⟩
   have hv:=h.1;have e:(c::r).takeWhile dig=c::r.takeWhile dig:=by rw[List.takeWhile_cons,zp hd]
   rw[e]at hv⊢;unfold numV at hv⊢;split at hv
   ·rename_i v hv1;simp only[hv1];simp only[Bool.and_eq_true,decide_eq_true_eq,beq_iff_eq]at hv
    refine⟨?_,hv.1⟩
    by_cases h0:0≤v
    ·exact h0
    ·have h2:=hv.2;unfold Lib.itoa at h2;rw[zp (by omega)]at h2;simp only[List.cons.injEq]at h2;rw[←h2.1]at hd;cases hd
   ·simp at hv
   ·simp at hv
  |false=>
   by_cases h63:c=63
   ·have e:bH (c::r)=gv (c::r):=by simp only[bH,hl,hd,Bool.false_eq_true,if_false,zp h63]
    rw[e]at h⊢
    obtain⟨a,d,k,r',_,h2,_,h4,e2⟩:=lC (c::r) h
    rw[e2]
    refine⟨fun h1=>by simp at h1,fun h1=>by simp at h1,fun h1=>by simp at h1,fun _=>⟨d,k,h2,h4,rfl,rfl⟩⟩
   ·by_cases h39:c=39
    ·have e:bH (c::r)=(match cE r with|some (t,n)=>(LLexerToken.mk 4 t 0 0,1+n,decide (t.length≤24))|none=>bad):=by
      simp only[bH,hl,hd,Bool.false_eq_true,if_false,zy h63,zp h39];rfl
     rw[e]at h⊢;split
     ·rename_i t n ht;rw[ht]at h
      refine⟨fun h1=>by simp at h1,fun h1=>by simp at h1,fun _=>by simpa using h,fun h1=>by simp at h1⟩
     ·rename_i ht;rw[ht]at h;simp[bad]at h
    ·have e:bH (c::r)=(match lk.find? (·.isPrefixOf (c::r))with|some x=>(LLexerToken.mk 5 x 0 0,x.length,true)|none=>bad):=by
      simp only[bH,hl,hd,Bool.false_eq_true,if_false,zy h63,zy h39];rfl
     rw[e]at h⊢;split
     ·exact⟨fun h1=>by simp at h1,fun h1=>by simp at h1,fun h1=>by simp at h1,fun h1=>by simp at h1⟩
     ·rename_i hx;rw[hx]at h;simp[bad]at h
theorem toks_tkg:∀(f off:Nat) (s:List UInt8),∀x∈(ci f off s).1,TkG x
 |0,_,_,x,h=>by simp[ci]at h
 |f+1,off,[],x,h=>by simp[ci]at h
 |f+1,off,c::r,x,h=>by
  rw[ci]at h;split at h
  ·exact toks_tkg f _ _ x h
  ·split at h
   ·rename_i h1;rcases List.mem_cons.1 h with e|h
    ·subst e;exact one_tkg c r h1
    ·exact toks_tkg f _ _ x h
   ·simp at h
theorem FQ.text{q:LQuery}{s:List UInt8}{ts:List Tok}(h:FQ q s ts)(hs:s.length≤4000):bY s=some (q,0,0):=by
 have h1:=h.lx [] trivial;rw[List.append_nil,tz_nil]at h1;simp only[Option.map_some,List.append_nil]at h1
 obtain⟨l,h2,h3⟩:=tz_tk h1
 obtain⟨v,h4,h5⟩:=parse_good hs h2
 have hl:=kq (s.length+1) 0 s;rw[show ci (s.length+1) 0 s=(l,none)from h2]at hl;replace hl:l.length≤s.length:=hl;have hm:=congrArg List.length h3;rw[zl]at hm;replace hm:l.length=ts.length:=hm;have h6:=h.parseM (by omega);rw[←h3,qM_bl.run,h4,Option.map_some,zo]at h6;rw[h5];rcases v with e|⟨a,r⟩
 ·simp[stripR]at h6
 ·simp only[stripR,Except.ok.injEq,Prod.mk.injEq,List.map_eq_nil_iff]at h6;rw[h6.1,h6.2];rfl
theorem canon_law(s:List UInt8):ct s=some true:=by
 unfold ct;rw[show sampleV=true from rfl];simp only[dv,Bool.not_true,zd];by_cases hs:s.length≤4000
 case neg=>
  rw[parse_long (by omega)];rfl
 rcases h:lexT s with⟨l,_|p⟩
 case some=>
  rw[parse_bad hs h];rfl
 obtain⟨v,h1,h2⟩:=parse_good hs h
 rw[h2,bPs];rcases v with e|⟨q,_|⟨x,r⟩⟩
 ·rfl
 ·have hg:=toks_tkg (s.length+1) 0 s;have hl:=kq (s.length+1) 0 s;rw[show ci (s.length+1) 0 s=(l,none)from h]at hg hl
  obtain⟨s',ts,h3,h4⟩:=parsed_good hg h1
  replace hl:l.length≤s.length:=hl;replace h4:ts.length≤l.length:=h4;simp only[outP];rw[show(((0:Int) !=0)=false)from rfl];simp only[zd];have hf:=h3.fmt (by omega);rw[hf,bPs];by_cases hs':s'.length≤4000
  ·rw[show decide ((s'.length:Int)>4000)=false from zf (by omega),zd,h3.text hs',bPs];simp only[beq_self_eq_true,zc];rw[queryOwn,bPs,zc,hf,bPs];simp
  ·rw[show decide ((s'.length:Int)>4000)=true from zt (by omega)];rfl
 ·rfl
end
end Go.Proofs.YtibojibdiibdgaaGreatDoor

namespace Go.Proofs.YtibojibdiibdgaaGreatDoor
noncomputable section
open Go Go.Ab
theorem own_knob:ownKnob Tryz.prog.godebug=none:=by kernel_rfl
theorem laid_out:laidOutB Tryz.prog=true:=by kernel_rfl
def lO:List TypeId:=[9]
theorem lawTypes_ok:lO.all (okT Tryz.prog lO)=true:=by kernel_rfl
set_option maxRecDepth 100000 in
theorem lawTypes_info:∀t∈lO,∃i,Tryz.prog.info? t=some i∧i.bytes=Tryz.prog.bytesOf t∧i.size=Tryz.prog.cellsOf t:=by
 intro t ht;simp only[lO,List.mem_cons,List.mem_nil_iff,or_false]at ht;rcases ht with rfl<;>exact⟨_,rfl,rfl,rfl⟩
theorem sh9{n:Nat}{pvs:List PV}(h:Sh Tryz.prog n 9 pvs):∃v:List UInt8,pvs=[.str v]∧v.length≤2^47:=by
 cases n with
 |zero=>simp[Sh]at h
 |succ n=>simp only[Sh,Tryz.underlying9]at h;obtain⟨m,rfl,hm⟩:=h;exact⟨m,rfl,hm⟩
theorem law_args:∀args,ArgsSh Tryz.prog Tryz.f4.params.toList args→bI Tryz.prog 4 args (.val (.bool true)):=by
 intro args h;rw[Tryz.params4]at h;simp only[ArgsSh]at h
 obtain⟨n0,p0,r0,rfl,h0,rfl⟩:=h
 obtain⟨v0,rfl,hv0⟩:=sh9 h0
 have key:=gd v0 true (canon_law v0);have e0:argPV Tryz.prog 9 [.str v0]= .str v0:=by simp only[argPV,Tryz.underlying9];rfl
 rw[e0];exact key
theorem star_name: "*" ++ "errors.errorString" = "*errors.errorString" :=by decide
theorem rowEP(u:TypeId)(h:Tryz.prog.typeName? 3 u=some "*errors.errorString"):u=272:=
 typeName_ptr_named (nm:= "errors.errorString") (by rw[star_name];kernel_rfl) (by kernel_rfl) (by decide) u (by rw[star_name];exact h)
theorem gl_of{W:World}(hL:laidMet Tryz.prog Rows.queryParseFormatsCanonicallyRow.laid W)(hs:W.ShapedOpen Tryz.prog):Gl W []:=by
 have h0:laidMet Tryz.prog Rows.queryParseFormatsCanonicallyRow.laid W:=hL
 have hp:Lib.TabIs Tryz.prog W "internal/strconv.uint64pow10" .u64 Lib.pow10Tab:=
  Lib.tabIs_of_head (t:=232) (e:=193) (n:=20) (g:=0) (by kernel_rfl) (by kernel_rfl) Tryz.underlying232 Tryz.underlying193 (by kernel_rfl) (by kernel_rfl) h0.tail.tail
 obtain⟨a1,s1,hr,_⟩:=laid_sentinel (g:=3) (ti:=146) (tp:=272) (te:=274) (ts:=9) h0.tail.tail.tail.tail (by kernel_rfl) (by kernel_rfl) Tryz.underlying146 rowEP Tryz.underlying272 Tryz.underlying274 rfl rfl Tryz.underlying9 (by kernel_rfl) (by kernel_rfl)
 obtain⟨a2,s2,hy,_⟩:=laid_sentinel (g:=2) (ti:=146) (tp:=272) (te:=274) (ts:=9) h0.tail.tail.tail.tail.tail (by kernel_rfl) (by kernel_rfl) Tryz.underlying146 rowEP Tryz.underlying272 Tryz.underlying274 rfl rfl Tryz.underlying9 (by kernel_rfl) (by kernel_rfl)
 have cr:W.cell? ⟨3,0,none⟩=some (.iface 272 (.pointer (some a1))):=by simpa using World.var?_cell (g:=3) (by kernel_rfl) hr 0
 have cy:W.cell? ⟨2,0,none⟩=some (.iface 272 (.pointer (some a2))):=by simpa using World.var?_cell (g:=2) (by kernel_rfl) hy 0
 obtain⟨m,cm⟩:=cell_of_shapedOpen_int (g:=1) (zero:=#[.int .i64 0]) (t:=3) hs (of_decide_eq_true (by kernel_rfl)) (by kernel_rfl) rfl (by kernel_rfl) (by kernel_rfl) Tryz.underlying3
 have cm':W.cell? ⟨1,0,none⟩=some (.int .i64 m):=cm
 have ht:∃t fz,W.heap[0]? =some (.cells (Lib.pow10Tab.map fun v=>Value.int .u64 v).toArray t fz):=by
  simp only[Lib.TabIs,World.var?,g_pow,Option.bind_some]at hp;split at hp
  ·rename_i cs t fz hc
   exact⟨t,fz,by rw[hc,Option.some.inj hp]⟩
  ·cases hp
 refine⟨⟨?_,?_,?_⟩,?_⟩
 ·intro b hb;simp only[glI,List.mem_cons,List.mem_nil_iff,or_false]at hb;rcases hb with rfl|rfl
  ·exact⟨_,_,cy⟩
  ·exact⟨_,_,cr⟩
 ·intro x hx;simp only[glT,List.mem_singleton]at hx;subst hx;exact ht
 ·intro b hb;simp only[glN,List.mem_singleton]at hb;subst hb
  exact⟨m,cm'⟩
 ·intro b hb
  refine⟨?_,by simp⟩
  simp only[glB,glI,glT,glN,List.map_cons,List.map_nil,List.cons_append,List.nil_append,List.append_nil,List.mem_cons,List.mem_nil_iff,or_false]at hb
  obtain⟨t,fz,ht⟩:=ht
  rcases hb with rfl|rfl|rfl|rfl
  ·exact Lib.lt_of_cell cy
  ·exact Lib.lt_of_cell cr
  ·exact(Array.getElem?_eq_some_iff.1 ht).1
  ·exact Lib.lt_of_cell cm'
def jT(h:Array Go.Obj)(g:Nat)(cs:Array Value):Array Go.Obj:=h.modify g fun
 | .cells _ t fz=>.cells cs t fz
 |o=>o
def utf8FirstCells:Array Value:=match(Go.Pinned.utf8First:DataW Unit)with
 | .agg l=>(l.filterMap fun d=>match d with| .lit (.int k n)=>some (Value.int k n)|_=>none).toArray
 |_=>#[]
def lowBlk:Nat:=(World.holding Tryz.prog default ⟨#[],#[],[]⟩).heap.size
def ml(os:Os):World:=
 let w0:=World.holding Tryz.prog os ⟨#[.cells #[.string ⟨#[118,97,108,117,101,32,111,117,116,32,111,102,32,114,97,110,103,101]⟩] 274,.cells #[.string ⟨#[105,110,118,97,108,105,100,32,115,121,110,116,97,120]⟩] 274],#[],[]⟩
 {w0 with heap:=(jT (jT (jT (jT (jT (jT (jT w0.heap 4 #[.int .u8 0,.int .u8 1,.int .u8 28,.int .u8 2,.int .u8 29,.int .u8 14,.int .u8 24,.int .u8 3,.int .u8 30,.int .u8 22,.int .u8 20,.int .u8 15,.int .u8 25,.int .u8 17,.int .u8 4,.int .u8 8,.int .u8 31,.int .u8 27,.int .u8 13,.int .u8 23,.int .u8 21,.int .u8 19,.int .u8 16,.int .u8 7,.int .u8 26,.int .u8 12,.int .u8 18,.int .u8 6,.int .u8 11,.int .u8 5,.int .u8 10,.int .u8 9]) 5 #[.int .u8 0,.int .u8 1,.int .u8 56,.int .u8 2,.int .u8 57,.int .u8 49,.int .u8 28,.int .u8 3,.int .u8 61,.int .u8 58,.int .u8 42,.int .u8 50,.int .u8 38,.int .u8 29,.int .u8 17,.int .u8 4,.int .u8 62,.int .u8 47,.int .u8 59,.int .u8 36,.int .u8 45,.int .u8 43,.int .u8 51,.int .u8 22,.int .u8 53,.int .u8 39,.int .u8 33,.int .u8 30,.int .u8 24,.int .u8 18,.int .u8 12,.int .u8 5,.int .u8 63,.int .u8 55,.int .u8 48,.int .u8 27,.int .u8 60,.int .u8 41,.int .u8 37,.int .u8 16,.int .u8 46,.int .u8 35,.int .u8 44,.int .u8 21,.int .u8 52,.int .u8 32,.int .u8 23,.int .u8 11,.int .u8 54,.int .u8 26,.int .u8 40,.int .u8 15,.int .u8 34,.int .u8 20,.int .u8 31,.int .u8 10,.int .u8 25,.int .u8 14,.int .u8 19,.int .u8 9,.int .u8 13,.int .u8 8,.int .u8 7,.int .u8 6]) 0 #[.int .u64 1,.int .u64 10,.int .u64 100,.int .u64 1000,.int .u64 10000,.int .u64 100000,.int .u64 1000000,.int .u64 10000000,.int .u64 100000000,.int .u64 1000000000,.int .u64 10000000000,.int .u64 100000000000,.int .u64 1000000000000,.int .u64 10000000000000,.int .u64 100000000000000,.int .u64 1000000000000000,.int .u64 10000000000000000,.int .u64 100000000000000000,.int .u64 1000000000000000000,.int .u64 10000000000000000000]) 7 #[.int .u8 128,.int .u8 191,.int .u8 160,.int .u8 191,.int .u8 128,.int .u8 159,.int .u8 144,.int .u8 191,.int .u8 128,.int .u8 143,.int .u8 0,.int .u8 0,.int .u8 0,.int .u8 0,.int .u8 0,.int .u8 0,.int .u8 0,.int .u8 0,.int .u8 0,.int .u8 0,.int .u8 0,.int .u8 0,.int .u8 0,.int .u8 0,.int .u8 0,.int .u8 0,.int .u8 0,.int .u8 0,.int .u8 0,.int .u8 0,.int .u8 0,.int .u8 0]) 3 #[.iface 272 (.pointer (some ⟨lowBlk,0,none⟩))]) 2 #[.iface 272 (.pointer (some ⟨lowBlk+1,0,none⟩))]) 6 (utf8FirstCells))}
set_option maxRecDepth 100000 in
theorem laid_met(os:Os):laidMet Tryz.prog Rows.queryParseFormatsCanonicallyRow.laid ((ml os).forCall (fun _ _=>0) ⟨#[],#[.string ⟨#[]⟩],[]⟩).memory:=
 laidMet_of_run' 8 (by kernel_rfl) (by kernel_rfl)
theorem law_reads(os:Os){H:Type}(enc:TypeId×Value→H):∃im,DataW.whole enc Tryz.prog ((ml os).forCall (fun _ _=>0) ⟨#[],#[.string ⟨#[]⟩],[]⟩).memory Tryz.f4.params.toList Rows.queryParseFormatsCanonicallySpec.vars false #[Value.string ⟨#[]⟩].toList 8=some ([.lit (.string [])],[],im):=
 ⟨[],by kernel_rfl⟩
set_option maxRecDepth 100000 in
theorem law_lifted(os:Os)(started:os.Started)(H:Type)(enc:TypeId×Value→H)(F:Stop.Interp):
  ReturnsInHanded {} Tryz.checked os 4 .any ((OpenSpec.ofChange Rows.queryParseFormatsCanonicallySpec).preRow enc Tryz.prog Tryz.f4 Rows.queryParseFormatsCanonicallyRow.domain false Rows.queryParseFormatsCanonicallyRow.laid) (((OpenSpec.ofChange Rows.queryParseFormatsCanonicallySpec).at F).post enc Tryz.prog Tryz.f4 false true false false):=by
 obtain⟨im,hx⟩:=law_reads os enc
 refine returnsInHanded_of_row (C:=Tryz.checked) (s:=OpenSpec.ofChange Rows.queryParseFormatsCanonicallySpec) own_knob started (by kernel_rfl) Tryz.func4
  (witness_row_at (enc:=enc) (C:=Tryz.checked) false (ml os) #[.string ⟨#[]⟩] rfl (by kernel_rfl) (by kernel_rfl) (by kernel_rfl)
   (OpenSpec.preRow_of_cond 8 hx (by kernel_rfl) (fun k hk=>by cases hk) (by kernel_rfl) (laid_met os))) ?_
 intro W base args ds gs before hval hW _ _ hsz hL hsh _;refine law_calls (s:=Rows.queryParseFormatsCanonicallySpec) laid_out (tb:=4) rfl ?_ rfl Tryz.underlying4 ?_ lawTypes_ok lawTypes_info ?_ law_args hval hW (gl_of hL hsh) hsz
 ·rw[Tryz.params4];intro t ht;simp only[List.mem_cons,List.mem_nil_iff,or_false]at ht;rcases ht with rfl<;>exact⟨by kernel_rfl,of_decide_eq_true (by kernel_rfl)⟩
 ·intro ds hlen;rw[Tryz.params4]at hlen
  match ds,hlen with
  |[d0],_=>rfl
 ·rw[Tryz.params4];intro t ht;simp only[List.mem_cons,List.mem_nil_iff,or_false]at ht;rcases ht with rfl<;>simp[lO]
theorem law_said:Rows.QueryParseFormatsCanonicallySaid:=
 OpenClaim.holds_of_cond 4 Tryz.f4 rfl rfl rfl rfl rfl rfl rfl ⟨rfl,rfl,rfl,rfl,rfl⟩ rfl rfl rfl rfl rfl (by kernel_rfl) Tryz.func4 (by kernel_rfl)
  (of_decide_eq_true (by kernel_rfl)) (by unfold Func.isWrapper;first|(rw[zp (by decide+kernel)];kernel_rfl)|(rw[zy (by decide+kernel)];exact⟨rfl,rfl⟩))
  (fun os started H enc _ F=>by rw[OpenClaim.pre_eq_preRow];exact law_lifted os started H enc F)
theorem law_plain(f:FuncId)(fn:Func)(hf:Tryz.pinned.checked.prog.funcNamed "stemma/stemkeep3.QueryParseFormatsCanonically" =some f)(hfn:Tryz.pinned.checked.prog.funcs[f]? =some fn):
  true=Tryz.pinned.checked.prog.looks []∧∀(j:Nat) t,fn.params[j]? =some t→Tryz.pinned.checked.prog.wantsStandIn t=false:=by
 obtain rfl:f=4:=Option.some.inj ((show Tryz.prog.funcNamed "stemma/stemkeep3.QueryParseFormatsCanonically" =some 4 by kernel_rfl).symm.trans hf)|>.symm;obtain rfl:fn=Tryz.f4:=(Option.some.inj (Tryz.func4.symm.trans hfn)).symm
 refine⟨by kernel_rfl,fun j t ht=>?_⟩
 rw[Tryz.params4]at ht;obtain rfl:t=9:=by simpa using Array.mem_of_getElem? ht
 exact(show Tryz.prog.wantsStandIn 9=false by kernel_rfl)
theorem queryParseFormatsCanonically_holds:Rows.QueryParseFormatsCanonicallyCardSaid:=
 Claim7.holds_tied_plain_at .later [] _ _ _ _ law_said (fun _ h=>by cases h) (by kernel_rfl) (fun _ h=>by cases h) queryParseFormatsCanonically_row_tie rfl ⟨rfl,rfl⟩ (by kernel_rfl) rfl law_plain (by kernel_rfl)
end
end Go.Proofs.YtibojibdiibdgaaGreatDoor
