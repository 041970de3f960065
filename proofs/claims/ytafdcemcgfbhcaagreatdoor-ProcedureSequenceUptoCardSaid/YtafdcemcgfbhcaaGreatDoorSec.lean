/- procedureSequenceUpto_holds, part 3: the layer, the plain functions and what they compute; conditions as in the statement. -/
import Derived.Test.YtafdcemcgfbhcaaGreatDoorSeb
set_option maxHeartbeats 4000000
namespace Go.Ab
noncomputable section
section
variable{P:Program}{T:TT}
theorem detS_idxO(hT:T.Ok P){o:Oper}{ev:Operand->PV}{H:Heap}{t:TypeId}{x i:Operand}(ho:o.op= .indexAddr t x i){ti ei:TInfo}{e:TypeId}(hti:T.get t=some ti)(hd:ti.desc= .slice e)(hei:T.get e=some ei)
  {tag:Nat} {g:OwnRef} {len:Nat} (hx:ev x= .own tag g len) {k:IntKind} {j:Int} (hi:ev i= .val (.int k j)) (hj:0<=j/\j.toNat<len) (hb:∃b,g.blk=some b):DetS P o ev H (.optr tag g ei.size j.toNat 0):=by
 intro C M a w _ he;have hxr:=he x (by rw[ho];simp[Op.operands]);have hir:=he i (by rw[ho];simp[Op.operands]);rw[hx]at hxr;rw[hi]at hir;simp only[Rep]at hxr hir
 obtain⟨b,hb⟩:=hb
 have hu:=(hT.get hti).rund w;rw[hd]at hu;have hsz:=(hT.get hei).rsize w;have h2:j<(len:Int):=by omega
 refine⟨.pointer (some ⟨b,j.toNat*ei.size,none⟩),?_,?_⟩
 ·simp[execOp,ho,Instr.indexAt,hir,hxr.2,OwnRef.val,hb,asIntOf,hu,hj.1,h2,hsz,dS]
 ·simp only[Rep]
  exact⟨trivial,b,hb,by simp⟩
theorem qI{k:Nat}:∀{rows:List (List PV)} {j:Nat} {r:List PV},(∀q∈rows,q.length=k)->rows[j]? =some r->∀i p,r[i]? =some p->rows.flatten[j*k+i]? =some p
 |[],j,r,_,h,_,_,_=>by simp at h
 |q::rows,0,r,hl,h,i,p,hp=>by
  simp only[List.getElem?_cons_zero,zo]at h;subst h;simp only[List.flatten_cons,Nat.zero_mul,Nat.zero_add];rw[List.getElem?_append_left (zg.1 hp).1];exact hp
 |q::rows,j+1,r,hl,h,i,p,hp=>by
  have hq:=hl q (by simp)
  have:=qI (rows:=rows) (j:=j) (fun q hq=>hl q (by simp[hq])) (by simpa using h) i p hp
  simp only[List.flatten_cons];rw[List.getElem?_append_right (by rw[hq,Nat.add_mul];omega),hq,show(j+1)*k+i-k=j*k+i from by rw[Nat.add_mul];omega];exact this
theorem detS_loadO(hT:T.Ok P){o:Oper}{ev:Operand->PV}{H:Heap}{t:TypeId}{x:Operand}(ho:o.op= .load t x){ti:TInfo}(hti:T.get t=some ti){tag:Nat}{g:OwnRef}{k row off:Nat}(hx:ev x= .optr tag g k row off)
  {e:TypeId} {rows:List (List PV)} {wr:Bool} (hob:H.ob tag=some ⟨g,e,rows,wr⟩) {ei:TInfo} (hei:T.get e=some ei) (hk:k=ei.size) {cells:List PV} (hr:rows[row]? =some cells) {r:PV} (hc:jf ti off cells=some r):DetS P o ev H r:=by
 intro C M a w hi he;have hxr:=he x (by rw[ho];simp[Op.operands]);rw[hx]at hxr;simp only[Rep]at hxr
 obtain⟨_,b,hb,hv⟩:=hxr
 obtain⟨i,h1,h2,h3,h4⟩:=hi.objs tag _ hob
 obtain⟨i',h5,h6,_,_⟩:=(hT.get hei).info
 simp only at h1 h3 h4;rw[h1]at h5;cases h5;rcases h4 with⟨hn,_⟩|⟨b',cur,hb',hm,hcur,hcs,hlc,hcm,hcr,h1c,_,_⟩
 ·rw[hb]at hn;cases hn
 ·rw[hb]at hb';cases hb';have hlt:row<rows.length:=(zg.1 hr).1;have hcl:cells.length=i.size:=h3 cells (List.mem_of_getElem? hr);have hks:k=i.size:=by rw[hk,h6]
  subst hks
  -- the cells of that row
  have hflat:rows.flatten.length=rows.length*i.size:=by
   have:∀l:List (List PV),(∀q∈l,q.length=i.size)->l.flatten.length=l.length*i.size:=by
    intro l;induction l with
    |nil=>simp
    |cons q l ih=>intro hl;simp[ih fun q hq=>hl q (by simp[hq]),hl q (by simp),Nat.add_mul];omega
   exact this rows h3
  have hseg:av P M false cells ((cur.toList.take (rows.length*i.size)).drop (row*i.size)|>.take i.size):=by
   have h7:=(hcr.drop (row*i.size)).take i.size
   have e1:(rows.flatten.drop (row*i.size)).take i.size=cells:=by
    apply List.ext_getElem?;intro m;rw[List.getElem?_take];split
    ·rename_i hm;rw[List.getElem?_drop];have hcm:cells[m]? =some cells[m]:=ze (by omega);rw[hcm];exact qI h3 hr m _ hcm
    ·rw[List.getElem?_eq_none (by omega)]
   rwa [e1]at h7
  obtain⟨v,h8,h9⟩:=pR (hT.get hti) w b (row*i.size) off cells _ hseg (fun j y hj=>by
   rw[cell_of_row w b (row*i.size+j) cur e (0,0) hcur];rw[List.getElem?_take]at hj;split at hj
   ·rw[List.getElem?_drop,List.getElem?_take]at hj;split at hj
    ·simpa using hj
    ·cases hj
   ·cases hj) hc
  refine⟨v,?_,h9.slot⟩
  simp[execOp,ho,hv,Instr.loadAt,Instr.sureAddr,h8]
theorem splice_seg{α:Type}(X Y Zq cs:List α)(off:Nat)(h:off+cs.length<=Y.length):
  X++(Y.take off++cs++Y.drop (off+cs.length))++Zq=(X++(Y++Zq)).take (X.length+off)++cs++(X++(Y++Zq)).drop (X.length+off+cs.length):=by
 rw[List.take_length_add_append,List.take_append_of_le_length (by omega),show X.length+off+cs.length=X.length+(off+cs.length)from by omega,List.drop_length_add_append,List.drop_append_of_le_length h];simp
theorem splice_take{α:Type}(l cs:List α)(p N:Nat)(h:p+cs.length<=N)(hN:N<=l.length):
  (l.take p++cs++l.drop (p+cs.length)).take N=(l.take N).take p++cs++(l.take N).drop (p+cs.length):=by
 obtain⟨Uq,hU⟩:∃Uq,Uq=l.take N:=⟨_,rfl⟩
 obtain⟨W,hW⟩:∃W,W=l.drop N:=⟨_,rfl⟩
 have hl:l=Uq++W:=by rw[hU,hW,List.take_append_drop]
 have hUl:Uq.length=N:=by rw[hU];simp;omega
 rw[<-hU,hl,List.take_append_of_le_length (l₁:=Uq) (i:=p) (by omega),List.drop_append_of_le_length (l₁:=Uq) (i:=p+cs.length) (by omega)];rw[<-List.append_assoc];have e:(Uq.take p++cs++Uq.drop (p+cs.length)).length=N:=by simp;omega
 rw[<-e,List.take_left]
def setRow(rows:List (List PV))(row off:Nat)(cs:List PV):List (List PV):=rows.set row (splice (rows.getD row []) off cs)
theorem set_flat{k:Nat}:∀{rows:List (List PV)} {j:Nat} {q:List PV},(∀r∈rows,r.length=k)->q.length=k->j<rows.length->(rows.set j q).flatten=rows.flatten.take (j*k)++q++rows.flatten.drop (j*k+k)
 |[],j,q,_,_,h=>by simp at h
 |r::rows,0,q,hl,hq,_=>by
  have hr:=hl r (by simp);simp only[List.set_cons_zero,List.flatten_cons,Nat.zero_mul,List.take_zero,List.nil_append,Nat.zero_add];rw[<-hr,List.drop_left]
 |r::rows,j+1,q,hl,hq,h=>by
  have hr:=hl r (by simp);have ih:=set_flat (rows:=rows) (j:=j) (q:=q) (fun r hr=>hl r (by simp[hr])) hq (by simpa using h);simp only[List.set_cons_succ,List.flatten_cons,ih];have e1:(j+1)*k=r.length+j*k:=by rw[Nat.add_mul,hr];omega
  have e2:r.length+j*k+k=r.length+(j*k+k):=by omega
  rw[e1,List.take_length_add_append,e2,List.drop_length_add_append];simp
theorem eff_storeO(hT:T.Ok P){o:Oper}{ev:Operand->PV}{H:Heap}{t:TypeId}{x y:Operand}(ho:o.op= .store t x y){ti:TInfo}(hti:T.get t=some ti){tag:Nat}{g:OwnRef}{k row off:Nat}(hx:ev x= .optr tag g k row off)
  {e:TypeId} {rows:List (List PV)} (hob:H.ob tag=some ⟨g,e,rows,true⟩) {ei:TInfo} (hei:T.get e=some ei) (hk:k=ei.size) (hrow:row<rows.length) {py:PV} (hy:PLe P (ev y) py) {cs:List PV} (hc:eo py=some cs) (hf:PV.frozL cs=true) (h1:cs.all PV.one=true) (hl:cs.length=ti.size) (hle:off+ti.size<=ei.size)
  {K:PV->Heap->Prop} (hK:K .any ⟨H.bx,upd H.ob tag (some ⟨g,e,setRow rows row off cs,true⟩)⟩):Eff P o ev H K:=by
 intro C M a w next Q hi he hn
 have hxr:=he x (by rw[ho];simp[Op.operands]);have hyr:=he y (by rw[ho];simp[Op.operands]);rw[hx]at hxr;simp only[Rep]at hxr
 obtain⟨_,b,hb,hv⟩:=hxr
 have hr:=mE hc (hy M _ hyr);have hone:=av.oneCell h1 hr;have hrf:=av.unslot hf hr;have hvs:(a.eval y).cells.size=ti.size:=by have:=hr.length;simp at this;omega
 obtain⟨i,g1,g2,g3,g4⟩:=hi.objs tag _ hob
 obtain⟨i',g5,g6,_,_⟩:=(hT.get hei).info
 simp only at g1 g2 g3 g4;rw[g1]at g5;cases g5;rcases g4 with⟨hn',_⟩|⟨b',cur,hb',hm,hcur,hcs,hlc,hcm,hcr,h1c,hw1,hw2⟩
 ·rw[hb]at hn';cases hn'
 rw[hb]at hb';cases hb';have hks:k=i.size:=by rw[hk,g6]
 subst hks;rw[<-g6]at hle
 have hfit:row*i.size+i.size<=rows.length*i.size:=by
  have:=Nat.mul_le_mul_right i.size (show row+1<=rows.length from hrow)
  rw[Nat.add_mul]at this;omega
 have hcap:rows.length*i.size<=cur.size:=by rw[hcs];exact Nat.mul_le_mul_right _ hlc
 have hvl:(a.eval y).cells.toList.length=ti.size:=by simpa using hvs
 have hst:=run_storeCells_at P b (row*i.size+off) e (a.eval y).cells.toList 0 cur w hcur (by rw[hvl];omega) hone;simp only[Nat.add_zero]at hst
 have hrun:(execOp a.eval o).run P w= .ok .skip (w.setRow b (cur.toList.take (row*i.size+off)++(a.eval y).cells.toList++cur.toList.drop (row*i.size+off+(a.eval y).cells.toList.length)).toArray):=by
  simp only[execOp,ho,Instr.storeAt,hv,Instr.sureAddr,Sem.run_bind,Sem.run_pure,Result.andThen_ok,storeVar,(hT.get hti).rsize w,hvs];simp only[ne_eq,not_true_eq_false,if_false];rw[hst];rfl
 unfold Oper.wp;rw[hrun];have hgetD:rows.getD row []=rows[row]:=by simp[hrow]
 have hrl:(rows.getD row []).length=i.size:=by rw[hgetD];exact g3 _ (List.getElem_mem hrow)
 have hspl:(splice (rows.getD row []) off cs).length=i.size:=by
  unfold splice;rw[List.length_append,List.length_append,List.length_take,List.length_drop,hrl,hl];omega
 have hlens:∀r∈setRow rows row off cs,r.length=i.size:=by
  intro r hr';rcases List.mem_or_eq_of_mem_set hr' with h|h
  ·exact g3 r h
  ·rw[h];exact hspl
 have hlen:(setRow rows row off cs).length=rows.length:=by simp[setRow]
 have hflat:rows.flatten.length=rows.length*i.size:=by
  have:∀l:List (List PV),(∀q∈l,q.length=i.size)->l.flatten.length=l.length*i.size:=by
   intro l;induction l with
   |nil=>simp
   |cons q l ih=>intro hl;simp[ih fun q hq=>hl q (by simp[hq]),hl q (by simp),Nat.add_mul];omega
  exact this rows g3
 have hrl2:rows[row].length=i.size:=g3 _ (List.getElem_mem hrow)
 have hrowcells:(rows.flatten.drop (row*i.size)).take i.size=rows.getD row []:=by
  rw[hgetD];apply List.ext_getElem?;intro m;rw[List.getElem?_take];split
  ·rename_i hm';rw[List.getElem?_drop];have hml:m<rows[row].length:=by rw[hrl2];exact hm'
   have hcm':rows[row][m]? =some (rows[row][m]'hml):=ze hml;rw[hcm'];exact qI g3 (ze hrow) m _ hcm'
  ·rw[List.getElem?_eq_none (by rw[hrl2];omega)]
 have hpv:(setRow rows row off cs).flatten=splice rows.flatten (row*i.size+off) cs:=by
  unfold setRow;rw[set_flat g3 hspl hrow,<-hrowcells];have hA:(rows.flatten.take (row*i.size)).length=row*i.size:=by rw[List.length_take,hflat];omega
  have hY:((rows.flatten.drop (row*i.size)).take i.size).length=i.size:=by rw[List.length_take,List.length_drop,hflat];omega
  have hdec:rows.flatten=rows.flatten.take (row*i.size)++((rows.flatten.drop (row*i.size)).take i.size++rows.flatten.drop (row*i.size+i.size)):=by
   rw[<-List.drop_drop,List.take_append_drop,List.take_append_drop]
  have key:=splice_seg (rows.flatten.take (row*i.size)) ((rows.flatten.drop (row*i.size)).take i.size) (rows.flatten.drop (row*i.size+i.size)) cs off (by rw[hY,hl];omega);rw[<-hdec,hA]at key;exact key
 have hvlist:(cur.toList.take (row*i.size+off)++(a.eval y).cells.toList++cur.toList.drop (row*i.size+off+(a.eval y).cells.toList.length)).take (rows.length*i.size)=
   (cur.toList.take (rows.length*i.size)).take (row*i.size+off)++(a.eval y).cells.toList++(cur.toList.take (rows.length*i.size)).drop (row*i.size+off+(a.eval y).cells.toList.length):=by
  exact splice_take cur.toList (a.eval y).cells.toList (row*i.size+off) (rows.length*i.size) (by rw[hvl];omega) (by simpa using hcap)
 refine hn undef _ _ M _ hK (Mem.le_refl M) (hi.set_obj tag _ hob b hb (setRow rows row off cs) true _ i g1 ?_ hlens ?_ ?_ hcm ?_ ?_ ?_ (fun _=>hw1 trivial) ?_) (by simp[Rep])
 ·rw[hlen];exact g2
 ·simp only[List.size_toArray,List.length_append,List.length_take,List.length_drop,Array.length_toList,hvl];omega
 ·rw[hlen];exact hlc
 ·rw[hlen,hpv];simp only;rw[hvlist];exact ud hcr hrf (row*i.size+off)
 ·rw[hlen];simp only;rw[hvlist];intro v hv';simp only[List.mem_append]at hv';rcases hv' with(h|h)|h
  ·exact h1c v (List.mem_of_mem_take h)
  ·exact hone v h
  ·exact h1c v (List.mem_of_mem_drop h)
 ·intro o' v' hm';rw[hw1 trivial o']at hm';cases hm'
 ·intro o' _;exact hw1 trivial o'
end
section
variable{P:Program}{ops:Array Oper}{rest:List Oper}{o:Oper}{n:Nat}{s s':Nat->PV}{bx:Nat->Option Box}{ob:Nat->Option Obj}{K:PState->Prop}{T:TT}{rb:RB}{k:Nat}{L:List Nat}
theorem vK(hg:aF ops s o=some true){r:PV}(hd:DetS P o (evS s) ⟨bx,ob⟩ r)(hp:putD n s o.dst r=some s')(h:Ao P ops rest ⟨n,s',bx,ob⟩ K):Ao P ops (o::rest) ⟨n,s,bx,ob⟩ K:=
 ff hg (fun C M a w next Q hi he hn=>by
  obtain⟨v,hrun,hr⟩:=hd C M a w hi he
  unfold Oper.wp;rw[hrun];exact hn v r ⟨bx,ob⟩ M w ⟨s',hp,h⟩ (Mem.le_refl M) hi hr)
theorem vM(ho:ops[k]? =some o)(hg:aF ops s o=some true)(hc:dW o.op= .det){r:PV}(hd:∀bx',DetS P o (evS s) ⟨bx',if rb.o o&&ij o.op then oZ ob else fun _=>none⟩ r)(hp:putD n s o.dst r=some s')
  (h:Do P T rb ops L ⟨n,s',bx,ob⟩ K):Do P T rb ops (k::L) ⟨n,s,bx,ob⟩ K:=by
 refine⟨o,ho,true,hg,?_⟩
 simp only[if_true,hc]
 exact⟨r,s',.inr fun bx' _=>hd bx',hp,h⟩
theorem Ao.idxO(hT:T.Ok P)(hg:aF ops s o=some true){t:TypeId}{x i:Operand}(ho:o.op= .indexAddr t x i){ti ei:TInfo}{e:TypeId}(hti:T.get t=some ti)(hd:ti.desc= .slice e)(hei:T.get e=some ei)
  {tag:Nat} {g:OwnRef} {len:Nat} (hx:evS s x= .own tag g len) {kk:IntKind} {j:Int} (hi:evS s i= .val (.int kk j)) (hj:0<=j/\j.toNat<len) (hb:∃b,g.blk=some b) (hp:putD n s o.dst (.optr tag g ei.size j.toNat 0)=some s') (h:Ao P ops rest ⟨n,s',bx,ob⟩ K):
  Ao P ops (o::rest) ⟨n,s,bx,ob⟩ K:=vK hg (detS_idxO hT ho hti hd hei hx hi hj hb) hp h
theorem jT{t:TypeId}{x i:Operand}{ti ei:TInfo}{e:TypeId}{tag:Nat}{g:OwnRef}{len:Nat}{kk:IntKind}{j:Int}(hT:T.Ok P)(hj:0<=j/\j.toNat<len)(hb:∃b,g.blk=some b)(h:Ao P ops rest ⟨n,s',bx,ob⟩ K)(hg:aF ops s o=some true:=by exact Z)(ho:o.op= .indexAddr t x i:=by exact Z)(hti:T.get t=some ti:=by exact Z)(hd:ti.desc= .slice e:=by exact Z)(hei:T.get e=some ei:=by exact Z)(hx:evS s x= .own tag g len:=by exact Z)(hi:evS s i= .val (.int kk j):=by exact Z)(hp:putD n s o.dst (.optr tag g ei.size j.toNat 0)=some s':=by exact Z):Ao P ops (o::rest) ⟨n,s,bx,ob⟩ K:=Ao.idxO hT hg ho hti hd hei hx hi hj hb hp h
theorem Do.idxO(hT:T.Ok P)(ho:ops[k]? =some o)(hg:aF ops s o=some true){t:TypeId}{x i:Operand}(hop:o.op= .indexAddr t x i){ti ei:TInfo}{e:TypeId}(hti:T.get t=some ti)(hd:ti.desc= .slice e)(hei:T.get e=some ei)
  {tag:Nat} {g:OwnRef} {len:Nat} (hx:evS s x= .own tag g len) {kk:IntKind} {j:Int} (hi:evS s i= .val (.int kk j)) (hj:0<=j/\j.toNat<len) (hb:∃b,g.blk=some b) (hp:putD n s o.dst (.optr tag g ei.size j.toNat 0)=some s') (h:Do P T rb ops L ⟨n,s',bx,ob⟩ K):
  Do P T rb ops (k::L) ⟨n,s,bx,ob⟩ K:=vM ho hg (by rw[hop];rfl) (fun _=>detS_idxO hT hop hti hd hei hx hi hj hb) hp h
theorem cZ{t:TypeId}{x i:Operand}{ti ei:TInfo}{e:TypeId}{tag:Nat}{g:OwnRef}{len:Nat}{kk:IntKind}{j:Int}(hT:T.Ok P)(hj:0<=j/\j.toNat<len)(hb:∃b,g.blk=some b)(h:Do P T rb ops L ⟨n,s',bx,ob⟩ K)(ho:ops[k]? =some o:=by exact Z)(hg:aF ops s o=some true:=by exact Z)(hop:o.op= .indexAddr t x i:=by exact Z)(hti:T.get t=some ti:=by exact Z)(hd:ti.desc= .slice e:=by exact Z)(hei:T.get e=some ei:=by exact Z)(hx:evS s x= .own tag g len:=by exact Z)(hi:evS s i= .val (.int kk j):=by exact Z)(hp:putD n s o.dst (.optr tag g ei.size j.toNat 0)=some s':=by exact Z):Do P T rb ops (k::L) ⟨n,s,bx,ob⟩ K:=Do.idxO hT ho hg hop hti hd hei hx hi hj hb hp h
theorem oj(hT:T.Ok P)(hg:aF ops s o=some true){t:TypeId}{x:Operand}(ho:o.op= .load t x){ti:TInfo}(hti:T.get t=some ti){tag:Nat}{g:OwnRef}{kz row off:Nat}(hx:evS s x= .optr tag g kz row off)
  {e:TypeId} {rows:List (List PV)} {wr:Bool} (hob:ob tag=some ⟨g,e,rows,wr⟩) {ei:TInfo} (hei:T.get e=some ei) (hk:kz=ei.size) {cells:List PV} (hr:rows[row]? =some cells) {r:PV} (hc:jf ti off cells=some r) (hp:putD n s o.dst r=some s') (h:Ao P ops rest ⟨n,s',bx,ob⟩ K):
  Ao P ops (o::rest) ⟨n,s,bx,ob⟩ K:=vK hg (detS_loadO hT ho hti hx hob hei hk hr hc) hp h
theorem gC(hT:T.Ok P)(ho:ops[k]? =some o)(hro:rb.o o=true)(hg:aF ops s o=some true){t:TypeId}{x:Operand}(hop:o.op= .load t x){ti:TInfo}(hti:T.get t=some ti){tag:Nat}{g:OwnRef}{kz row off:Nat}(hx:evS s x= .optr tag g kz row off)
  {e:TypeId} {rows:List (List PV)} {wr:Bool} (hob:ob tag=some ⟨g,e,rows,wr⟩) {ei:TInfo} (hei:T.get e=some ei) (hk:kz=ei.size) {cells:List PV} (hr:rows[row]? =some cells) {r:PV} (hc:jf ti off cells=some r) (hp:putD n s o.dst r=some s') (h:Do P T rb ops L ⟨n,s',bx,ob⟩ K) (hst:Nat.ble 1000000000000000 tag=false:=by rfl):
  Do P T rb ops (k::L) ⟨n,s,bx,ob⟩ K:=by
 refine vM ho hg (by rw[hop];rfl) (fun bx'=>?_) hp h
 have:(rb.o o&&ij o.op)=true:=by rw[hro,hop];rfl
 rw[this];exact detS_loadO hT hop hti hx ((statO_of hst).trans hob) hei hk hr hc
theorem ou(hT:T.Ok P)(hg:aF ops s o=some true){t:TypeId}{x y:Operand}(ho:o.op= .store t x y)(hdst:o.dst=none){ti:TInfo}(hti:T.get t=some ti){tag:Nat}{g:OwnRef}{kz row off:Nat}(hx:evS s x= .optr tag g kz row off)
  {e:TypeId} {rows rows':List (List PV)} (hob:ob tag=some ⟨g,e,rows,true⟩) {ei:TInfo} (hei:T.get e=some ei) (hk:kz=ei.size) (hrow:row<rows.length) {py:PV} (hy:PLe P (evS s y) py) {cs:List PV} (hc:eo py=some cs) (hf:PV.frozL cs=true) (h1:cs.all PV.one=true) (hl:cs.length=ti.size) (hle:off+ti.size<=ei.size)
  (hr:setRow rows row off cs=rows') (h:Ao P ops rest ⟨n,s,bx,upd ob tag (some ⟨g,e,rows',true⟩)⟩ K):Ao P ops (o::rest) ⟨n,s,bx,ob⟩ K:=by
 subst hr;exact ff hg (eff_storeO hT ho hti hx hob hei hk hrow hy hc hf h1 hl hle ⟨s,by simp[hdst,putD],h⟩)
theorem je(hT:T.Ok P)(ho:ops[k]? =some o)(hg:aF ops s o=some true){t:TypeId}{x y:Operand}(hop:o.op= .store t x y)(hdst:o.dst=none){ti:TInfo}(hti:T.get t=some ti){tag:Nat}{g:OwnRef}{kz row off:Nat}(hx:evS s x= .optr tag g kz row off)
  {e:TypeId} {rows rows':List (List PV)} (hob:ob tag=some ⟨g,e,rows,true⟩) {ei:TInfo} (hei:T.get e=some ei) (hk:kz=ei.size) (hrow:row<rows.length) {py:PV} (hy:PLe P (evS s y) py) {cs:List PV} (hc:eo py=some cs) (hf:PV.frozL cs=true) (h1:cs.all PV.one=true) (hl:cs.length=ti.size) (hle:off+ti.size<=ei.size)
  (hr:setRow rows row off cs=rows') (h:Do P T rb ops L ⟨n,s,bx,upd ob tag (some ⟨g,e,rows',true⟩)⟩ K):Do P T rb ops (k::L) ⟨n,s,bx,ob⟩ K:=by
 subst hr
 refine⟨o,ho,true,hg,?_⟩
 simp only[if_true,hop,dW]
 exact⟨hdst,.inr fun bx'=>eff_storeO hT hop hti hx hob hei hk hrow hy hc hf h1 hl hle ⟨rfl,h⟩⟩
theorem Do.storeOQ{t:TypeId}{x y:Operand}{ti:TInfo}{tag:Nat}{g:OwnRef}{kz row off:Nat}{e:TypeId}{rows rows':List (List PV)}{ei:TInfo}{py:PV}{cs:List PV}(hT:T.Ok P)(hrow:row<rows.length)(hy:PLe P (evS s y) py)(hle:off+ti.size<=ei.size)(hr:setRow rows row off cs=rows')(h:Do P T rb ops L ⟨n,s,bx,upd ob tag (some ⟨g,e,rows',true⟩)⟩ K)(ho:ops[k]? =some o:=by exact Z)(hg:aF ops s o=some true:=by exact Z)(hop:o.op= .store t x y:=by exact Z)(hdst:o.dst=none:=by exact Z)(hti:T.get t=some ti:=by exact Z)(hx:evS s x= .optr tag g kz row off:=by exact Z)(hob:ob tag=some ⟨g,e,rows,true⟩:=by exact Z)(hei:T.get e=some ei:=by exact Z)(hk:kz=ei.size:=by exact Z)(hc:eo py=some cs:=by exact Z)(hf:PV.frozL cs=true:=by exact Z)(h1:cs.all PV.one=true:=by exact Z)(hl:cs.length=ti.size:=by exact Z):Do P T rb ops (k::L) ⟨n,s,bx,ob⟩ K:=je hT ho hg hop hdst hti hx hob hei hk hrow hy hc hf h1 hl hle hr h
theorem dz{α β:Type}{f:α->β}{xs:List α}{j:Nat}{x:α}(h:xs[j]? =some x):j<(xs.map f).length:=by
 have:=(zg.1 h).1
 simpa using this
theorem tl{α β:Type}{f:α->β}{xs:List α}{j:Nat}{x:α}{l:Nat}(hl:l=(xs.map f).length)(h:xs[j]? =some x):j<l:=hl▸dz h
theorem dv{α:Type}{f:α->List PV}{xs:List α}{j:Nat}{x:α}{g:OwnRef}(ho:xs.map f≠[]->∃b,g.blk=some b)(h:xs[j]? =some x):∃b,g.blk=some b:=by
 refine ho fun e=>?_
 have:=(zg.1 h).1
 rw[List.map_eq_nil_iff]at e;rw[e]at this;simp at this
theorem eT{α:Type}{f f':α->List PV}(hE:∀x,f' x=f x){xs ys:List α}{j off:Nat}{x v:α}{cs:List PV}(h:xs[j]? =some x)(hs:splice (f x) off cs=f v)(hy:xs.set j v=ys):setRow (xs.map f') j off cs=ys.map f':=by
 subst hy;have hlt:=(zg.1 h).1;unfold setRow;have e:(xs.map f').getD j []=f x:=by simp[h,hE]
 rw[e,hs,<-hE v,List.map_set]
theorem eZ{α β:Type}{f:α->β}{xs ys:List α}{j:Nat}{v:α}(hy:xs.set j v=ys):(xs.map f).length=(ys.map f).length:=by subst hy;simp
theorem ii{fn:Func}{R:PV->Heap->Prop}{ks:List KI}{tag:Nat}{g:OwnRef}{e:TypeId}{rows:List (List PV)}{wr:Bool}(hob:ob tag=some ⟨g,e,rows,wr⟩)(h:(rows≠[]->∃b,g.blk=some b)->V P fn R ks ⟨n,s,bx,ob⟩):V P fn R ks ⟨n,s,bx,ob⟩:=fun C M a w hi=>by
 refine h (fun hne=>?_) C M a w hi
 obtain⟨_,_,_,_,h4⟩:=hi.2.objs tag _ hob
 rcases h4 with⟨_,h5,_⟩|⟨b,_,h5,_⟩
 ·exact absurd h5 hne
 ·exact⟨b,h5⟩
end
def pg(bx:Nat->Option Box)(m:List (Nat×Nat)):Nat->Option Box:=fun t=>match m.find? (fun p=>Nat.beq p.2 t)with
 |some p=>bx p.1
 |none=>none
def nU(ob:Nat->Option Obj)(m:List (Nat×Nat)):Nat->Option Obj:=fun t=>match m.find? (fun p=>Nat.beq p.2 t)with
 |some p=>ob p.1
 |none=>none
theorem beqC(a b:Nat):Nat.beq a b=Nat.beq b a:=by
 cases h:Nat.beq a b with
 |true=>rw[Nat.eq_of_beq_eq_true h];exact(Nat.beq_refl b).symm
 |false=>
  cases h':Nat.beq b a with
  |true=>rw[Nat.eq_of_beq_eq_true h']at h;rw[show Nat.beq a a=true from Nat.beq_refl a]at h;cases h
  |false=>rfl
theorem dI(bx:Nat->Option Box):pg bx []=fun _=>none:=rfl
theorem cP(ob:Nat->Option Obj):nU ob []=fun _=>none:=rfl
theorem dU(bx:Nat->Option Box)(c k:Nat)(m:List (Nat×Nat)):pg bx ((c,k)::m)=upd (pg bx m) k (bx c):=by
 funext t;simp only[pg,upd,List.find?_cons];rw[beqC t k];cases Nat.beq k t<;>rfl
theorem bB(ob:Nat->Option Obj)(c k:Nat)(m:List (Nat×Nat)):nU ob ((c,k)::m)=upd (nU ob m) k (ob c):=by
 funext t;simp only[nU,upd,List.find?_cons];rw[beqC t k];cases Nat.beq k t<;>rfl
def rc(bx:Nat->Option Box)(m:List (Nat×Nat))(bx':Nat->Option Box):Nat->Option Box:=fun t=>match m.find? (fun p=>Nat.beq p.1 t)with
 |some p=>bx' p.2
 |none=>bx t
def nX(ob:Nat->Option Obj)(m:List (Nat×Nat))(ob':Nat->Option Obj):Nat->Option Obj:=fun t=>match m.find? (fun p=>Nat.beq p.1 t)with
 |some p=>ob' p.2
 |none=>ob t
def cK:List Nat->Bool
 |[]=>true
 |a::l=>l.all (fun b=>!Nat.beq a b)&&cK l
theorem lk{f:Nat×Nat->Nat}:∀{m:List (Nat×Nat)} {p:Nat×Nat},cK (m.map f)=true->p∈m->m.find? (fun q=>Nat.beq (f q) (f p))=some p
 |[],_,_,h=>by simp at h
 |q::m,p,hd,h=>by
  simp only[List.map_cons,cK,Bool.and_eq_true]at hd;rw[List.find?_cons];rcases List.mem_cons.1 h with rfl|h
  ·rw[show Nat.beq (f p) (f p)=true from Nat.beq_refl _]
  ·have hne:Nat.beq (f q) (f p)=false:=by
    have:=(List.all_eq_true.1 hd.1) (f p) (List.mem_map.2 ⟨p,h,rfl⟩)
    simpa using this
   rw[hne];exact lk hd.2 h
theorem tQ{f:Nat×Nat->Nat}{m:List (Nat×Nat)}{t:Nat}{p:Nat×Nat}(h:m.find? (fun q=>Nat.beq (f q) t)=some p):p∈m/\f p=t:=
 ⟨List.mem_of_find?_eq_some h,by
  have:=List.find?_some h
  exact Nat.eq_of_beq_eq_true this⟩
def kM(H:Heap)(mb mo:List (Nat×Nat)):List Nat:=mb.filterMap (fun p=>(H.bx p.1).map Box.b)++mo.filterMap (fun p=>(H.ob p.1).bind fun x=>x.g.blk)
theorem se{H:Heap}{mb mo:List (Nat×Nat)}{b:Nat}(h:b∈kM H mb mo):(∃p x,p∈mb/\H.bx p.1=some x/\x.b=b)\/∃p x,p∈mo/\H.ob p.1=some x/\x.g.blk=some b:=by
 simp only[kM,List.mem_append,List.mem_filterMap]at h;rcases h with⟨p,hp,h⟩|⟨p,hp,h⟩
 ·rw[Option.map_eq_some_iff]at h
  obtain⟨x,hx,rfl⟩:=h
  exact .inl ⟨p,x,hp,hx,rfl⟩
 ·rw[Option.bind_eq_some_iff]at h
  obtain⟨x,hx,h⟩:=h
  exact .inr ⟨p,x,hp,hx,h⟩
theorem ownOf_box{H:Heap}{mb mo:List (Nat×Nat)}{p:Nat×Nat}{x:Box}(hp:p∈mb)(hx:H.bx p.1=some x):x.b∈kM H mb mo:=by
 simp only[kM,List.mem_append,List.mem_filterMap];exact .inl ⟨p,hp,by rw[hx];rfl⟩
theorem ownOf_obj{H:Heap}{mb mo:List (Nat×Nat)}{p:Nat×Nat}{x:Obj}{b:Nat}(hp:p∈mo)(hx:H.ob p.1=some x)(hb:x.g.blk=some b):b∈kM H mb mo:=by
 simp only[kM,List.mem_append,List.mem_filterMap];exact .inr ⟨p,hp,by rw[hx];exact hb⟩
section
variable{P:Program}{C:Ctx}{M:Mem}{H:Heap}{w:World}{mb mo:List (Nat×Nat)}
theorem qW{bx:Nat->Option Box}{m:List (Nat×Nat)}{t:Nat}{x:Box}(h:pg bx m t=some x):∃p,p∈m/\p.2=t/\bx p.1=some x:=by
 unfold pg at h;split at h
 ·rename_i p hp
  obtain⟨h1,h2⟩:=tQ (f:=Prod.snd) hp
  exact⟨p,h1,h2,h⟩
 ·cases h
theorem qL{ob:Nat->Option Obj}{m:List (Nat×Nat)}{t:Nat}{x:Obj}(h:nU ob m t=some x):∃p,p∈m/\p.2=t/\ob p.1=some x:=by
 unfold nU at h;split at h
 ·rename_i p hp
  obtain⟨h1,h2⟩:=tQ (f:=Prod.snd) hp
  exact⟨p,h1,h2,h⟩
 ·cases h
theorem fst_inj{m:List (Nat×Nat)}(hd:cK (m.map Prod.fst)=true){p q:Nat×Nat}(hp:p∈m)(hq:q∈m)(h:p.1=q.1):p=q:=by
 have h1:=lk (f:=Prod.fst) hd hp;have h2:=lk (f:=Prod.fst) hd hq;rw[h]at h1;rw[h1]at h2;exact Option.some.inj h2
theorem InvH.ownMine(h:InvH P C M H w):∀b∈kM H mb mo,C.mine b:=by
 intro b hb;rcases se hb with⟨p,x,_,hx,rfl⟩|⟨p,x,_,hx,hb⟩
 ·exact(h.boxes _ _ hx).1
 ·obtain⟨_,_,_,_,h4⟩:=h.objs _ _ hx
  rcases h4 with⟨h5,_⟩|⟨b',_,h5,h6,_⟩
  ·rw[h5]at hb;cases hb
  ·rw[h5]at hb;cases hb;exact h6
theorem InvH.enterH(h:InvH P C M H w)(hb1:cK (mb.map Prod.fst)=true)(ho1:cK (mo.map Prod.fst)=true):InvH P ⟨w,kM H mb mo,M,h.gl h.ownMine,[]⟩ M ⟨pg H.bx mb,nU H.ob mo⟩ w:=by
 refine⟨h.mem,Mem.le_refl M,fun _ _ _ hm=>.inl hm,rfl,rfl,rfl,Nat.le_refl _,fun _ _ _=>rfl,?_,?_,?_,?_,?_⟩
 ·intro t x hx
  obtain⟨p,hp,_,hx⟩:=qW hx
  obtain⟨_,h2,h3⟩:=h.boxes _ _ hx
  exact⟨.inr (ownOf_box hp hx),h2,h3⟩
 ·intro t x hx
  obtain⟨p,hp,_,hx⟩:=qL hx
  obtain⟨i,h1,h2,h3,h4⟩:=h.objs _ _ hx
  refine⟨i,h1,h2,h3,?_⟩
  rcases h4 with h4|⟨b,cur,hb,_,h5⟩
  ·exact .inl h4
  ·exact .inr ⟨b,cur,hb,.inr (ownOf_obj hp hx hb),h5⟩
 ·intro t t' x x' hx hx' hb
  obtain⟨p,hp,e1,hy⟩:=qW hx
  obtain⟨q,hq,e2,hy'⟩:=qW hx'
  rw[<-e1,<-e2,fst_inj hb1 hp hq (h.dbox _ _ x x' hy hy' hb)]
 ·intro t t' x x' b hx hx' hb hb'
  obtain⟨p,hp,e1,hy⟩:=qL hx
  obtain⟨q,hq,e2,hy'⟩:=qL hx'
  rw[<-e1,<-e2,fst_inj ho1 hp hq (h.dobj _ _ x x' b hy hy' hb hb')]
 ·intro t t' x x' hx hx' hb
  obtain⟨p,hp,_,hy⟩:=qW hx
  obtain⟨q,hq,_,hy'⟩:=qL hx'
  exact h.dmix _ _ x x' hy hy' hb
theorem InvH.afterH{M':Mem}{H':Heap}{w':World}(h:InvH P C M H w)(_hb1:cK (mb.map Prod.fst)=true)(hb2:cK (mb.map Prod.snd)=true)(_ho1:cK (mo.map Prod.fst)=true)(ho2:cK (mo.map Prod.snd)=true)
  {hg:Gl w (kM H mb mo)} (h':InvH P ⟨w,kM H mb mo,M,hg,[]⟩ M' H' w'):InvH P C M' ⟨rc H.bx mb H'.bx,nX H.ob mo H'.ob⟩ w':=by
 have hown:∀b,b∈kM H mb mo->C.mine b:=by
  intro b hb;rcases se hb with⟨p,x,_,hx,rfl⟩|⟨p,x,_,hx,hb⟩
  ·exact(h.boxes _ _ hx).1
  ·obtain⟨_,_,_,_,h4⟩:=h.objs _ _ hx
   rcases h4 with⟨h5,_⟩|⟨b',_,h5,h6,_⟩
   ·rw[h5]at hb;cases hb
   ·rw[h5]at hb;cases hb;exact h6
 have hup:∀b,(⟨w,kM H mb mo,M,hg,[]⟩:Ctx).mine b->C.mine b:=fun b hb=>by
  rcases hb with hb|hb
  ·exact .inl (Nat.le_trans h.size hb)
  ·exact hown b hb
 have hnone:∀b o,b<w.heap.size->b∉kM H mb mo->M b o=none->M' b o=none:=by
  intro b o hb hno hn;cases hm:M' b o with
  |none=>rfl
  |some v=>
   rcases h'.new b o v hm with h1|h1|h1
   ·rw[show M b o=some v from h1]at hn;cases hn
   ·exact absurd hb (Nat.not_lt.2 h1)
   ·exact absurd h1 hno
 have kb:∀t x,rc H.bx mb H'.bx t=some x->(∃p,p∈mb/\p.1=t/\H'.bx p.2=some x)\/((∀p∈mb,p.1≠t)/\H.bx t=some x):=by
  intro t x hx;unfold rc at hx;split at hx
  ·rename_i p hp
   obtain⟨h1,h2⟩:=tQ (f:=Prod.fst) hp
   exact .inl ⟨p,h1,h2,hx⟩
  ·rename_i hp;rw[List.find?_eq_none]at hp;exact .inr ⟨fun p hp' e=>hp p hp' (by rw[e];exact Nat.beq_refl _),hx⟩
 have ko:∀t x,nX H.ob mo H'.ob t=some x->(∃p,p∈mo/\p.1=t/\H'.ob p.2=some x)\/((∀p∈mo,p.1≠t)/\H.ob t=some x):=by
  intro t x hx;unfold nX at hx;split at hx
  ·rename_i p hp
   obtain⟨h1,h2⟩:=tQ (f:=Prod.fst) hp
   exact .inl ⟨p,h1,h2,hx⟩
  ·rename_i hp;rw[List.find?_eq_none]at hp;exact .inr ⟨fun p hp' e=>hp p hp' (by rw[e];exact Nat.beq_refl _),hx⟩
 -- what was kept is not among what was handed over
 have nb:∀t x,(∀p∈mb,p.1≠t)->H.bx t=some x->x.b∉kM H mb mo:=by
  intro t x hn hx hm;rcases se hm with⟨p,y,hp,hy,e⟩|⟨p,y,hp,hy,e⟩
  ·exact hn p hp (h.dbox _ _ y x hy hx e)
  ·exact h.dmix _ _ x y hx hy e
 have no:∀t x b,(∀p∈mo,p.1≠t)->H.ob t=some x->x.g.blk=some b->b∉kM H mb mo:=by
  intro t x b hn hx hb hm;rcases se hm with⟨p,y,hp,hy,e⟩|⟨p,y,hp,hy,e⟩
  ·exact h.dmix _ _ y x hy hx (by rw[hb,e])
  ·exact hn p hp (h.dobj _ _ y x b hy hx e hb)
 have mb':∀t x,H'.bx t=some x->w.heap.size<=x.b\/x.b∈kM H mb mo:=fun t x hx=>(h'.boxes t x hx).1
 have mo':∀t x b,H'.ob t=some x->x.g.blk=some b->w.heap.size<=b\/b∈kM H mb mo:=by
  intro t x b hx hb
  obtain⟨_,_,_,_,h4⟩:=h'.objs t x hx
  rcases h4 with⟨h5,_⟩|⟨b',_,h5,h6,_⟩
  ·rw[h5]at hb;cases hb
  ·rw[h5]at hb;cases hb;exact h6
 have bz:∀t x b,H.ob t=some x->x.g.blk=some b->b<w.heap.size:=fun t x b hx hb=>h.obj_lt hx hb
 have snd_eq:∀{m:List (Nat×Nat)},cK (m.map Prod.snd)=true->∀{p q:Nat×Nat},p∈m->q∈m->p.2=q.2->p=q:=by
  intro m hd p q hp hq e;have h1:=lk (f:=Prod.snd) hd hp;have h2:=lk (f:=Prod.snd) hd hq;rw[e]at h1;rw[h1]at h2;exact Option.some.inj h2
 refine⟨h'.mem,Mem.le_trans h.ext h'.ext,?_,h'.os.trans h.os,h'.tape.trans h.tape,h'.output.trans h.output,Nat.le_trans h.size h'.size,?_,?_,?_,?_,?_,?_⟩
 ·intro b o v hm;rcases h'.new b o v hm with h1|h1
  ·exact h.new b o v h1
  ·exact .inr (hup b h1)
 ·intro b hb hn
  have hno:b∉kM H mb mo:=fun hm=>by
   rcases hown b hm with h1|h1
   ·omega
   ·exact hn h1
  exact(h'.frame b (Nat.lt_of_lt_of_le hb h.size) hno).trans (h.frame b hb hn)
 ·intro t x hx;rcases kb t x hx with⟨p,hp,_,hx⟩|⟨hn,hx⟩
  ·obtain⟨h1,h2,h3⟩:=h'.boxes _ _ hx
   exact⟨hup _ h1,h2,h3⟩
  ·have hno:=nb t x hn hx
   exact(h.boxes t x hx).keep h'.ext (fun o ho=>hnone _ o (h.box_lt hx) hno ho) (h'.frame _ (h.box_lt hx) hno)
 ·intro t x hx;rcases ko t x hx with⟨p,hp,_,hx⟩|⟨hn,hx⟩
  ·obtain⟨i,h1,h2,h3,h4⟩:=h'.objs _ _ hx
   refine⟨i,h1,h2,h3,?_⟩
   rcases h4 with h4|⟨b,cur,h5,h6,h7⟩
   ·exact .inl h4
   ·exact .inr ⟨b,cur,h5,hup _ h6,h7⟩
  ·exact(h.objs t x hx).keep h'.ext (fun b o hb ho=>hnone _ o (h.obj_lt hx hb) (no t x b hn hx hb) ho) (fun b hb=>h'.frame _ (h.obj_lt hx hb) (no t x b hn hx hb))
 ·intro t t' x x' hx hx' hb;rcases kb t x hx with⟨p,hp,e,hx⟩|⟨hn,hx⟩<;>rcases kb t' x' hx' with⟨q,hq,e',hx'⟩|⟨hn',hx'⟩
  ·have:=snd_eq hb2 hp hq (h'.dbox _ _ x x' hx hx' hb)
   rw[<-e,<-e',this]
  ·rcases mb' _ _ hx with h1|h1
   ·have:=h.box_lt hx';omega
   ·exact absurd (hb▸h1) (nb t' x' hn' hx')
  ·rcases mb' _ _ hx' with h1|h1
   ·have:=h.box_lt hx;omega
   ·exact absurd (hb▸h1) (nb t x hn hx)
  ·exact h.dbox t t' x x' hx hx' hb
 ·intro t t' x x' b hx hx' hb hb';rcases ko t x hx with⟨p,hp,e,hx⟩|⟨hn,hx⟩<;>rcases ko t' x' hx' with⟨q,hq,e',hx'⟩|⟨hn',hx'⟩
  ·have:=snd_eq ho2 hp hq (h'.dobj _ _ x x' b hx hx' hb hb')
   rw[<-e,<-e',this]
  ·rcases mo' _ _ b hx hb with h1|h1
   ·have:=h.obj_lt hx' hb';omega
   ·exact absurd h1 (no t' x' b hn' hx' hb')
  ·rcases mo' _ _ b hx' hb' with h1|h1
   ·have:=h.obj_lt hx hb;omega
   ·exact absurd h1 (no t x b hn hx hb)
  ·exact h.dobj t t' x x' b hx hx' hb hb'
 ·intro t t' x x' hx hx' hb;rcases kb t x hx with⟨p,hp,e,hx⟩|⟨hn,hx⟩<;>rcases ko t' x' hx' with⟨q,hq,e',hx'⟩|⟨hn',hx'⟩
  ·exact h'.dmix _ _ x x' hx hx' hb
  ·rcases mb' _ _ hx with h1|h1
   ·have:=h.obj_lt hx' hb;omega
   ·exact no t' x' _ hn' hx' hb h1
  ·rcases mo' _ _ _ hx' hb with h1|h1
   ·have:=h.box_lt hx;omega
   ·exact nb t x hn hx h1
  ·exact h.dmix t t' x x' hx hx' hb
theorem vh{o:Oper}{ev:Operand->PV}{H:Heap}{fx:Operand}{av0:Array Operand}{ts:Array TypeId}(ho:o.op= .call {callee:= .value fx,args:=av0,argTypes:=ts}){g:FuncId}{caps:List PV}
  (hf:ev fx= .fn g caps) (hcall:∀vs w,(callFunc g vs).run P w= .ok (.enter g vs) w) (mb mo:List (Nat×Nat)) (hb1:cK (mb.map Prod.fst)=true) (hb2:cK (mb.map Prod.snd)=true) (ho1:cK (mo.map Prod.fst)=true) (ho2:cK (mo.map Prod.snd)=true)
  {args:List PV} (hle:ip P (av0.toList.map ev++caps) args) {R:PV->Heap->Prop} (hc:PH P g args ⟨pg H.bx mb,nU H.ob mo⟩ R)
  {K:PV->Heap->Prop} (hk:∀u H',R u H'->K u ⟨rc H.bx mb H'.bx,nX H.ob mo H'.ob⟩):Eff P o ev H K:=by
 intro C M a w next Q hi he hn
 have hfr:=he fx (by rw[ho];simp[Op.operands,Call.operands]);rw[hf]at hfr;simp only[Rep]at hfr
 obtain⟨cs,hv,hcaps⟩:=hfr
 have hargs:av P M true (av0.toList.map ev) (av0.map a.eval).toList:=by
  simpa using rj av0.toList fun x hx=>he x (by rw[ho];simp_all[Op.operands,Call.operands])
 have hrep:=hle M _ (hargs.append hcaps)
 have hrun:(execOp a.eval o).run P w= .ok (.enter g (av0.map a.eval++cs)) w:=by
  simp[execOp,ho,resolve,hv,Deferred.ofValue,invoke,hcall]
 unfold Oper.wp;rw[hrun];simp only[Oper.upon]
 refine(hc w M (kM H mb mo) (hi.gl hi.ownMine) _ (hi.enterH hb1 ho1) (by simpa using hrep)).mono ?_
 rintro e w' ⟨v,u,H',M',rfl,hR,hi',hr⟩;exact hn v u _ M' w' (hk u H' hR) hi'.ext (hi.afterH hb1 hb2 ho1 ho2 hi') hr
end
section
variable{P:Program}{ops:Array Oper}{rest:List Oper}{o:Oper}{n:Nat}{s s':Nat->PV}{bx bx1:Nat->Option Box}{ob ob1:Nat->Option Obj}{K:PState->Prop}{T:TT}{rb:RB}{k:Nat}{L:List Nat}
theorem fL(hg:aF ops s o=some true){fx:Operand}{av0:Array Operand}{ts:Array TypeId}(ho:o.op= .call {callee:= .value fx,args:=av0,argTypes:=ts}){g:FuncId}{caps:List PV}
  (hf:evS s fx= .fn g caps) (hcall:∀vs w,(callFunc g vs).run P w= .ok (.enter g vs) w) (mb mo:List (Nat×Nat)) (hb1:cK (mb.map Prod.fst)=true) (hb2:cK (mb.map Prod.snd)=true) (ho1:cK (mo.map Prod.fst)=true) (ho2:cK (mo.map Prod.snd)=true)
  {args:List PV} (hle:ip P (av0.toList.map (evS s)++caps) args) {Hin:Heap} (hin:Hin=⟨pg bx mb,nU ob mo⟩) {R:PV->Heap->Prop} (hc:PH P g args Hin R)
  (h:∀u H',R u H'->∃s',putD n s o.dst u=some s'/\Ao P ops rest ⟨n,s',rc bx mb H'.bx,nX ob mo H'.ob⟩ K):Ao P ops (o::rest) ⟨n,s,bx,ob⟩ K:=
 ff hg (vh ho hf hcall mb mo hb1 hb2 ho1 ho2 hle (hin▸hc) h)
theorem PLe2.own{t t':Nat}{g:OwnRef}{l l':Nat}(h:l=l'):PLe2 P (.own t g l) (.own t' g l'):=by
 subst h;intro M s x hx;simpa only[Rep]using hx
theorem PLe2.boxT{t t' b o:Nat}:PLe2 P (.box t b o) (.box t' b o):=by
 intro M s x hx;simpa only[Rep]using hx
theorem rr{fn:Func}{R:PV->Heap->Prop}{ks:List KI}{T:TT}(hT:T.Ok P){rs:Array ResultVar}(hres:fn.results=rs){ps:List PV}(h:pm T ⟨n,s,bx,ob⟩ rs.toList ps){u:PV}(hu:PLe P (nZ ps) u)(hR:R u ⟨bx,ob⟩):
  V P fn R (.code .ret::ks) ⟨n,s,bx,ob⟩:=xp hT hres h hu ⟨fun _ _ hx=>hx,fun _ _ hx=>hx⟩ hR
theorem mW{fn:Func}{R:PV->Heap->Prop}(hres:fn.results=#[]){u:PV}(hu:PLe P (.tup []) u)(hR:R u ⟨bx,ob⟩):V P fn R [] ⟨n,s,bx,ob⟩:=by
 intro C M a w hi;refine retP.ofN hi fun C w hi=>?_
 have hr:(results fn a.tmps).run P w= .ok (.tuple #[]) w:=by
  rw[tU hres];simp
 exact⟨.tuple #[],hr,.tuple #[],u,⟨bx,ob⟩,M,rfl,hR,hi.2,hu M _ (by simp[Rep,av])⟩
end
end
end Go.Ab

namespace Go.Ab
noncomputable section
open Classical in
def iO{β:Type}(F:Nat->Option β):Option β:=
 if h:∃r,∃n,∀m,n<=m->F m=some r then some h.choose else none
theorem kd{β:Type}{F:Nat->Option β}{r:β}(h:iO F=some r):∃n,F n=some r:=by
 unfold iO at h;split at h
 ·next hx=>
  obtain⟨n,hn⟩:=hx.choose_spec
  exact⟨n,by rw[hn n (Nat.le_refl n)];exact h⟩
 ·cases h
theorem tI{β:Type}{F:Nat->Option β}{r:β}(n:Nat)(h:∀m,n<=m->F m=some r):iO F=some r:=by
 have hx:∃r,∃n,∀m,n<=m->F m=some r:=⟨r,n,h⟩;unfold iO;rw[dif_pos hx]
 obtain⟨k,hk⟩:=hx.choose_spec
 have e1:=hk (max n k) (Nat.le_max_right n k);have e2:=h (max n k) (Nat.le_max_left n k);rw[<-e1,e2]
theorem limN_ev{β:Type}{F:Nat->Option β}{r:β}(h:iO F=some r):∃n,∀m,n<=m->F m=some r:=by
 unfold iO at h;split at h
 ·next hx=>
  obtain⟨n,hn⟩:=hx.choose_spec
  exact⟨n,fun m hm=>by rw[hn m hm];exact h⟩
 ·cases h
end
end Go.Ab

namespace Go.Ab
noncomputable section
def qG{α:Type}(xs:List α)(m:Int):Option (List α):=if 0<=m/\m.toNat<=xs.length then some (xs.take m.toNat)else none
theorem sj{α:Type}{xs ys:List α}{m:Int}(h:qG xs m=some ys):0<=m/\m.toNat<=xs.length/\ys=xs.take m.toNat:=by
 unfold qG at h;split at h
 ·rename_i h0;exact⟨h0.1,h0.2,(Option.some.inj h).symm⟩
 ·cases h
theorem vy{α:Type}{f:α->List PV}{xs ys:List α}{j:Nat}{x:α}{g:OwnRef}(ho:xs.map f≠[]->∃b,g.blk=some b)(hl:(xs.map f).length=(ys.map f).length)(h:ys[j]? =some x):∃b,g.blk=some b:=by
 refine ho fun e=>?_
 have:=(zg.1 h).1
 have h0:ys.length=0:=by
  rw[e]at hl;simpa using hl.symm
 omega
def oM{α:Type}(xs:List α)(i j:Int):Option (List α):=if 0<=i/\i<=j/\j.toNat<=xs.length then some (xs.take i.toNat++xs.drop j.toNat)else none
theorem sf{α:Type}{xs ys:List α}{i j:Int}(h:oM xs i j=some ys):0<=i/\i<=j/\j.toNat<=xs.length/\ys=xs.take i.toNat++xs.drop j.toNat:=by
 unfold oM at h;split at h
 ·rename_i h0;exact⟨h0.1,h0.2.1,h0.2.2,(Option.some.inj h).symm⟩
 ·cases h
def OwnRef.sub(g:OwnRef)(k lo hi mx:Nat):Value:= .slice (if mx=lo then g.blk.map (fun b=>⟨b,0,none⟩)else(g.blk.map fun b=>(⟨b,0,none⟩:Addr)).map (·.add (lo*k))) (hi-lo) (mx-lo)
section
variable{P:Program}{T:TT}
def lT(ev:Operand->PV)(o:Option Operand)(dflt n:Nat):Prop:=match o with
 |none=>n=dflt
 |some x=>∃kk z,ev x= .val (.int kk z)/\z=(n:Int)
theorem detS_subV(hT:T.Ok P){o:Oper}{ev:Operand->PV}{H:Heap}{t:TypeId}{x:Operand}{lo hi mx:Option Operand}(ho:o.op= .slice t x lo hi mx){ti ei:TInfo}{e:TypeId}(hti:T.get t=some ti)(hd:ti.desc= .slice e)(hei:T.get e=some ei)
  {tag:Nat} {g:OwnRef} {len:Nat} (hx:ev x= .own tag g len) {l h m:Nat} (hl:lT ev lo 0 l) (hh:lT ev hi len h) (hm:lT ev mx g.cap m) (hs:mx.isSome=true->hi.isSome=true) (h1:l<=h) (h2:h<=m) (h3:m<=g.cap):
  DetS P o ev H (.val (g.sub ei.size l h m)):=by
 intro C M a w _ he;have hxr:=he x (by rw[ho];cases lo<;>cases hi<;>cases mx<;>simp[Op.operands]);rw[hx]at hxr;simp only[Rep]at hxr;have hu:=(hT.get hti).und;rw[hd]at hu
 refine⟨g.sub ei.size l h m,?_,by simp only[Rep]⟩
 have hbnd:∀(z y:Nat) (kk:IntKind) (c:BoundsCode),z<=y->(Instr.sliceBound (.int kk (z:Int)) y c).run P w= .ok z w:=by
  intro z y kk c hzy
  have:(0:Int)<=(z:Int)/\(z:Int)<=(y:Int):=⟨by omega,by omega⟩
  simp[Instr.sliceBound,asIntOf,hzy]
 have get:∀y,y∈lo\/y∈hi\/y∈mx->Rep P M true (ev y) (a.eval y):=by
  intro y hy;refine he y ?_;rw[ho];clear he hl hh hm hs ho;cases lo<;>cases hi<;>cases mx<;>simp[Op.operands]at hy⊢<;>(first|exact .inr (hy.imp Eq.symm Eq.symm)|exact .inr (hy.imp Eq.symm (Or.imp Eq.symm Eq.symm))|exact .inr hy.symm|(rcases hy with h|h|h<;>simp[h])|(rcases hy with h|h<;>simp[h]))
 have hsz:=(hT.get hei).rsize w
 have key:∀(lv hv mv:Option Value),(match lv with|none=>l=0|some v=>∃kk,v= .int kk (l:Int))->(match hv with|none=>h=len|some v=>∃kk,v= .int kk (h:Int))->
   (match mv with|none=>m=g.cap|some v=>∃kk,v= .int kk (m:Int))->(mv.isSome=true->hv.isSome=true)->(Instr.slice t (g.val len) lv hv mv).run P w= .ok (g.sub ei.size l h m) w:=by
  intro lv hv mv p1 p2 p3 p4
  have b:(Instr.sliceBounds true len g.cap lv hv mv).run P w= .ok (l,h,m) w:=by
   cases mv with
   |none=>
    simp only at p3;subst p3;cases hv with
    |none=>
     simp only at p2;subst p2;cases lv with
     |none=>simp only at p1;subst p1;simp[Instr.sliceBounds]
     |some v=>obtain⟨kk,rfl⟩:=p1;simp[Instr.sliceBounds,hbnd _ _ _ _ h1]
    |some v'=>
     obtain⟨kk',rfl⟩:=p2
     cases lv with
     |none=>simp only at p1;subst p1;simp[Instr.sliceBounds,hbnd _ _ _ _ h2]
     |some v=>obtain⟨kk,rfl⟩:=p1;simp[Instr.sliceBounds,hbnd _ _ _ _ h1,hbnd _ _ _ _ h2]
   |some v2=>
    obtain⟨k2,rfl⟩:=p3
    cases hv with
    |none=>exact absurd (p4 Z) (by simp)
    |some v'=>
     obtain⟨kk',rfl⟩:=p2
     cases lv with
     |none=>simp only at p1;subst p1;simp[Instr.sliceBounds,hbnd _ _ _ _ h2,hbnd _ _ _ _ h3]
     |some v=>obtain⟨kk,rfl⟩:=p1;simp[Instr.sliceBounds,hbnd _ _ _ _ h1,hbnd _ _ _ _ h2,hbnd _ _ _ _ h3]
  simp only[Instr.slice,OwnRef.val,run_underlying hu,Sem.run_bind,Result.andThen_ok,b,hsz];rfl
 have gl:∀(oo:Option Operand) (df n:Nat),(∀y,y∈oo->Rep P M true (ev y) (a.eval y))->lT ev oo df n->(match oo.map a.eval with|none=>n=df|some v=>∃kk,v= .int kk (n:Int)):=by
  intro oo df n hr ha;cases oo with
  |none=>exact ha
  |some y=>
   obtain⟨kk,z,e1,rfl⟩:=ha
   have:=hr y Z
   rw[e1]at this;simp only[Rep]at this
   exact⟨kk,this⟩
 have:=key (lo.map a.eval) (hi.map a.eval) (mx.map a.eval) (gl lo 0 l (fun y hy=>get y (.inl hy)) hl) (gl hi len h (fun y hy=>get y (.inr (.inl hy))) hh) (gl mx g.cap m (fun y hy=>get y (.inr (.inr hy))) hm) (by simpa using hs)
 simp only[execOp,ho,Instr.sliceAt,hxr.2];rw[Sem.run_bind,Sem.run_bind,run_underlying hu];simp only[Result.andThen_ok];rw[this];rfl
theorem eff_appendIn(hT:T.Ok P){o:Oper}{ev:Operand->PV}{H:Heap}{x y:Operand}{t:TypeId}(ho:o.op= .call {callee:= .builtin .append,args:=#[x,y],argTypes:=#[t,t]}){ti ei:TInfo}{e:TypeId}(hti:T.get t=some ti)(hd:ti.desc= .slice e)(hei:T.get e=some ei)
  {tag:Nat} {g:OwnRef} {rows:List (List PV)} (hob:H.ob tag=some ⟨g,e,rows,true⟩) {p q:Nat} (hpq:p<=q) (hq:q<=rows.length) (hx:ev x= .val (g.sub ei.size 0 p g.cap)) (hy:ev y= .val (g.sub ei.size q rows.length g.cap))
  {K:PV->Heap->Prop} (hk:K (.own tag g (rows.take p++rows.drop q).length) ⟨H.bx,upd H.ob tag (some ⟨g,e,rows.take p++rows.drop q,true⟩)⟩):Eff P o ev H K:=by
 intro C M a w next Q hi he hn
 have hxr:=he x (by rw[ho];simp[Op.operands,Call.operands]);have hyr:=he y (by rw[ho];simp[Op.operands,Call.operands]);rw[hx]at hxr;rw[hy]at hyr;simp only[Rep]at hxr hyr
 obtain⟨i,g1,g2,g3,g4⟩:=hi.objs tag _ hob
 obtain⟨i',g5,g6,_,_⟩:=(hT.get hei).info
 simp only at g1 g2 g3 g4;rw[g1]at g5;cases g5;have hu:=(hT.get hti).und;rw[hd]at hu
 have hbase:(if g.cap=0 then g.blk.map (fun b=>(⟨b,0,none⟩:Addr))else(g.blk.map fun b=>(⟨b,0,none⟩:Addr)).map (·.add (0*ei.size)))=g.blk.map fun b=>⟨b,0,none⟩:=by
  split
  ·rfl
  ·rw[Nat.zero_mul];cases g.blk<;>simp[Addr.add]
 have hlen:(rows.take p++rows.drop q).length=p+(rows.length-q):=by simp;omega
 have fin:∀w',(Builtin.append_ #[t,t] o.type #[g.sub ei.size 0 p g.cap,g.sub ei.size q rows.length g.cap]).run P w= .ok (g.val (p+(rows.length-q))) w'->
   InvH P C M ⟨H.bx,upd H.ob tag (some ⟨g,e,rows.take p++rows.drop q,true⟩)⟩ w'->Oper.wp P o a w next Q:=by
  intro w' hr hi'
  have hrun':(execOp a.eval o).run P w= .ok (.value (g.val (rows.take p++rows.drop q).length)) w':=by
   rw[hlen];simp only[execOp,ho,resolve,Sem.run_bind,Sem.run_pure,Result.andThen_ok,invoke,builtin,List.map_toArray,List.map_cons,List.map_nil,hxr,hyr];rw[hr];rfl
  unfold Oper.wp;rw[hrun'];exact hn _ _ _ M w' hk (Mem.le_refl M) hi' (by simp[Rep])
 have hcap:rows.length<=g.cap:=by
  rcases g4 with⟨_,b,_⟩|⟨_,_,_,_,_,_,h9,_⟩
  ·rw[b];simp
  ·exact h9
 by_cases h0:rows.length-q=0
 ·refine fin w ?_ ?_
  ·have e1:g.sub ei.size 0 p g.cap= .slice (g.blk.map fun b=>⟨b,0,none⟩) p g.cap:=by unfold OwnRef.sub;rw[hbase];simp
   have e2:g.sub ei.size q rows.length g.cap= .slice (if g.cap=q then g.blk.map (fun b=>⟨b,0,none⟩)else(g.blk.map fun b=>(⟨b,0,none⟩:Addr)).map (·.add (q*ei.size))) 0 (g.cap-q):=by unfold OwnRef.sub;rw[h0]
   rw[e1,e2,pj (w:=w) t o.type e i hu g1 _ _ p g.cap _ (by omega),h0];rfl
  ·have e1:rows.take p++rows.drop q=rows.take p:=by rw[List.drop_of_length_le (by omega)];simp
   rw[e1];exact hi.cutO hob p
 ·rcases g4 with⟨_,hn',_⟩|⟨b,cur,hb,hm,hcur,hcs,hlc,hcm,hcr,h1c,hw1,hw2⟩
  ·rw[hn']at h0;simp at h0
  ·have hqc:¬g.cap=q:=by omega
   have hcs2:cur.toList.length=g.cap*i.size:=by rw[Array.length_toList];exact hcs
   have e1:g.sub ei.size 0 p g.cap= .slice (some ⟨b,0,none⟩) p g.cap:=by unfold OwnRef.sub;rw[hbase,hb];simp
   have e2:g.sub ei.size q rows.length g.cap= .slice (some ⟨b,q*i.size,none⟩) (rows.length-q) (g.cap-q):=by unfold OwnRef.sub;rw[zy hqc,hb,g6];simp[dS]
   have hflat:∀l:List (List PV),(∀r∈l,r.length=i.size)->l.flatten.length=l.length*i.size:=by
    intro l;induction l with
    |nil=>simp
    |cons r l ih=>intro hl;simp[ih fun r hr=>hl r (by simp[hr]),hl r (by simp),Nat.add_mul];omega
   have hold:(cur.toList.take (rows.length*i.size)).length=rows.length*i.size:=by rw[hcr.length,hflat rows g3]
   have hcl:rows.length*i.size<=cur.size:=by rw[hcs];exact Nat.mul_le_mul_right _ hlc
   have hmulq:q*i.size<=rows.length*i.size:=Nat.mul_le_mul_right _ hq;have hmulp:p*i.size<=q*i.size:=Nat.mul_le_mul_right _ hpq
   obtain⟨news,hnews⟩:∃news,news=(cur.toList.take (rows.length*i.size)).drop (q*i.size):=⟨_,rfl⟩
   have hnl:news.length=(rows.length-q)*i.size:=by rw[hnews,List.length_drop,hold,Nat.sub_mul]
   have hac:∀j u,news[j]? =some u->w.cell? ((⟨b,q*i.size,none⟩:Addr).add j)=some u:=by
    intro j u hj;rw[dS,cell_of_row w b (q*i.size+j) cur e (0,0) hcur];rw[hnews,List.getElem?_drop,List.getElem?_take]at hj;split at hj
    ·simpa using hj
    ·cases hj
   have hone:∀u∈news,u.oneCell'=true:=fun u hu'=>h1c u (by rw[hnews]at hu';exact List.mem_of_mem_drop hu')
   have hsum:(p+(rows.length-q))*i.size=p*i.size+(rows.length-q)*i.size:=Nat.add_mul _ _ _;have hsub:(rows.length-q)*i.size=rows.length*i.size-q*i.size:=Nat.sub_mul _ _ _;have hfit:p*i.size+news.length<=cur.size:=by rw[hnl];omega
   have hr:=run_append_room (P:=P) w t o.type e i hu g1 b p g.cap cur hcur ⟨b,q*i.size,none⟩ (rows.length-q) (g.cap-q) news hnl hac hone (by omega) hfit
   have htk:(rows.take p).flatten=rows.flatten.take (p*i.size):=by
    have e3:rows.flatten=(rows.take p).flatten++(rows.drop p).flatten:=by rw[<-List.flatten_append,List.take_append_drop]
    have e4:(rows.take p).flatten.length=p*i.size:=by rw[hflat _ fun r hr=>g3 r (List.mem_of_mem_take hr),List.length_take,Nat.min_eq_left (by omega)]
    rw[e3,<-e4,List.take_left]
   have hdk:(rows.drop q).flatten=rows.flatten.drop (q*i.size):=by
    have e3:rows.flatten=(rows.take q).flatten++(rows.drop q).flatten:=by rw[<-List.flatten_append,List.take_append_drop]
    have e4:(rows.take q).flatten.length=q*i.size:=by rw[hflat _ fun r hr=>g3 r (List.mem_of_mem_take hr),List.length_take,Nat.min_eq_left (by omega)]
    rw[e3,<-e4,List.drop_left]
   have hcp:cur.toList.take (p*i.size)=(cur.toList.take (rows.length*i.size)).take (p*i.size):=by rw[List.take_take,Nat.min_eq_left (by omega)]
   have hlist:(cur.toList.take (p*i.size)++news++cur.toList.drop (p*i.size+news.length)).take ((p+(rows.length-q))*i.size)=cur.toList.take (p*i.size)++news:=by
    rw[show(p+(rows.length-q))*i.size=(cur.toList.take (p*i.size)++news).length from by
     rw[List.length_append,List.length_take,hnl,hsum,Array.length_toList,Nat.min_eq_left (by omega)]]
    exact List.take_left
   refine fin (w.setRow b (cur.toList.take (p*i.size)++news++cur.toList.drop (p*i.size+news.length)).toArray) (by rw[e1,e2,hr];simp[OwnRef.val,hb]) (hi.set_obj tag _ hob b hb (rows.take p++rows.drop q) true (cur.toList.take (p*i.size)++news++cur.toList.drop (p*i.size+news.length)).toArray i g1 ?_ ?_ ?_ ?_ hcm ?_ ?_ ?_ (fun _=>hw1 trivial) (fun o' _=>hw1 trivial o'))
   ·rw[hlen];exact Nat.le_trans (Nat.mul_le_mul_right _ (by omega)) g2
   ·intro r hr';rcases List.mem_append.1 hr' with h|h
    ·exact g3 r (List.mem_of_mem_take h)
    ·exact g3 r (List.mem_of_mem_drop h)
   ·have e9:(cur.toList.take (p*i.size)++news++cur.toList.drop (p*i.size+news.length)).length=g.cap*i.size:=by
     rw[List.length_append,List.length_append,List.length_take,List.length_drop,hcs2]
     have:p*i.size+news.length<=g.cap*i.size:=by rw[<-hcs];exact hfit
     omega
    simpa using e9
   ·rw[hlen];exact(by omega:p+(rows.length-q)<=g.cap)
   ·rw[hlen];simp only;rw[hlist,List.flatten_append,htk,hdk,hcp,hnews]
    exact(hcr.take _).append (hcr.drop _)
   ·rw[hlen];simp only;rw[hlist];intro v hv;rcases List.mem_append.1 hv with h|h
    ·rw[hcp]at h;exact h1c v (List.mem_of_mem_take h)
    ·exact hone v h
   ·intro o' v' hm';rw[hw1 trivial o']at hm';cases hm'
theorem eff_clearB(hT:T.Ok P){o:Oper}{ev:Operand->PV}{H:Heap}{x:Operand}{t:TypeId}(ho:o.op= .call {callee:= .builtin .clear,args:=#[x],argTypes:=#[t]}){ti ei:TInfo}{e:TypeId}(hti:T.get t=some ti)(hd:ti.desc= .slice e)(hei:T.get e=some ei)
  (hz:Nat.beq ei.zero.cells.size ei.size=true) (h1:(cq ei).all PV.one=true) {tag:Nat} {g:OwnRef} {rows:List (List PV)} (hob:H.ob tag=some ⟨g,e,rows,true⟩) {p q m:Nat} (hp:rows.length<=p) (hpq:p<=q) (hq:q<=m) (hm:m<=g.cap)
  (hx:ev x= .val (g.sub ei.size p q m)) {K:PV->Heap->Prop} (hk:K (.tup []) H):Eff P o ev H K:=by
 intro C M a w next Q hi he hn
 have hxr:=he x (by rw[ho];simp[Op.operands,Call.operands]);rw[hx]at hxr;simp only[Rep]at hxr
 obtain⟨i,g1,g2,g3,g4⟩:=hi.objs tag _ hob
 obtain⟨i',g5,g6,_,hzero⟩:=(hT.get hei).info
 simp only at g1 g2 g3 g4;rw[g1]at g5;cases g5;have hu:=(hT.get hti).und;rw[hd]at hu;have hself:upd H.ob tag (some ⟨g,e,rows,true⟩)=H.ob:=uf _ _ _ hob
 have fin:∀w',(Builtin.clear_ #[t] o.type #[g.sub ei.size p q m]).run P w= .ok (.tuple #[]) w'->InvH P C M ⟨H.bx,upd H.ob tag (some ⟨g,e,rows,true⟩)⟩ w'->Oper.wp P o a w next Q:=by
  intro w' hr hi'
  have hrun':(execOp a.eval o).run P w= .ok (.value (.tuple #[])) w':=by
   simp only[execOp,ho,resolve,Sem.run_bind,Sem.run_pure,Result.andThen_ok,invoke,builtin,List.map_toArray,List.map_cons,List.map_nil,hxr];rw[hr];rfl
  unfold Oper.wp;rw[hrun'];rw[hself]at hi';exact hn _ _ _ M w' hk (Mem.le_refl M) hi' (by simp[Rep,av])
 by_cases h0:q-p=0
 ·refine fin w ?_ (by rw[hself];exact hi);unfold OwnRef.sub;rw[h0];split<;>(cases g.blk<;>simp[Builtin.clear_,run_underlying hu])
 ·rcases g4 with⟨_,hn',hc0⟩|⟨b,cur,hb,hmn,hcur,hcs,hlc,hcm,hcr,h1c,hw1,hw2⟩
  ·omega
  ·have hz1:=Nat.eq_of_beq_eq_true hz;have hcs':cur.size=g.cap*i.size:=hcs;have hcs2:cur.toList.length=g.cap*i.size:=by rw[Array.length_toList];exact hcs
   have e1:g.sub ei.size p q m= .slice (some ⟨b,p*i.size,none⟩) (q-p) (m-p):=by unfold OwnRef.sub;rw[zy (by omega),hb,g6];simp[dS]
   have hzl:(cq ei).length=i.size:=by simp[cq,hz1,g6]
   have hzc:(Builtin.zeroCells ei.zero.cells (q-p)).toList=(List.replicate (q-p) ei.zero.cells.toList).flatten:=by
    unfold Builtin.zeroCells;exact nc ei.zero.cells (q-p)
   have hzs:(Builtin.zeroCells ei.zero.cells (q-p)).toList.length=(q-p)*i.size:=by rw[hzc];simp[hz1,g6]
   have hrep:av P M false (List.replicate (q-p) (cq ei)).flatten (List.replicate (q-p) ei.zero.cells.toList).flatten:=mK (mq _) (q-p)
   have hone:∀v∈(Builtin.zeroCells ei.zero.cells (q-p)).toList,v.oneCell'=true:=by
    rw[hzc];refine av.oneCell ?_ hrep;rw[List.all_eq_true];intro x hx;rw[List.mem_flatten]at hx
    obtain⟨l,hl,hx⟩:=hx
    rw[List.eq_of_mem_replicate hl]at hx;exact List.all_eq_true.1 h1 x hx
   have hmq:q*i.size<=g.cap*i.size:=Nat.mul_le_mul_right _ (by omega);have hmp:rows.length*i.size<=p*i.size:=Nat.mul_le_mul_right _ hp;have hsub:(q-p)*i.size=q*i.size-p*i.size:=Nat.sub_mul _ _ _;have hpq':p*i.size<=q*i.size:=Nat.mul_le_mul_right _ hpq;have hst:=run_storeCells_at P b (p*i.size) e (Builtin.zeroCells ei.zero.cells (q-p)).toList 0 cur w hcur (by rw[hzs];omega) hone;simp only[Nat.add_zero]at hst
   obtain⟨k,hk1⟩:∃k,q-p=k+1:=⟨q-p-1,by omega⟩
   have htake:(cur.toList.take (p*i.size)++(Builtin.zeroCells ei.zero.cells (q-p)).toList++cur.toList.drop (p*i.size+(Builtin.zeroCells ei.zero.cells (q-p)).toList.length)).take (rows.length*i.size)=cur.toList.take (rows.length*i.size):=by
    rw[List.append_assoc,List.take_append_of_le_length (by rw[List.length_take,hcs2];omega),List.take_take,Nat.min_eq_left hmp]
   refine fin _ ?_ (hi.set_obj tag _ hob b hb rows true (cur.toList.take (p*i.size)++(Builtin.zeroCells ei.zero.cells (q-p)).toList++cur.toList.drop (p*i.size+(Builtin.zeroCells ei.zero.cells (q-p)).toList.length)).toArray i g1 g2 g3 ?_ hlc hcm ?_ ?_ ?_ (fun _=>hw1 trivial) (fun o' _=>hw1 trivial o'))
   ·rw[e1];have hzv:(zeroValue e).run P w= .ok ei.zero w:=by simp[zeroValue,typeInfo,g1,hzero]
    rw[hk1]at hst⊢;simp[Builtin.clear_,run_underlying hu,hzv];rw[hst];simp
   ·have e9:(cur.toList.take (p*i.size)++(Builtin.zeroCells ei.zero.cells (q-p)).toList++cur.toList.drop (p*i.size+(Builtin.zeroCells ei.zero.cells (q-p)).toList.length)).length=g.cap*i.size:=by
     rw[List.length_append,List.length_append,List.length_take,List.length_drop,hcs2,hzs];omega
    simpa using e9
   ·simp only;rw[htake];exact hcr
   ·simp only;rw[htake];exact h1c
   ·intro o' v' hm';rw[hw1 trivial o']at hm';cases hm'
end
section
variable{P:Program}{ops:Array Oper}{rest:List Oper}{o:Oper}{n:Nat}{s s':Nat->PV}{bx:Nat->Option Box}{ob:Nat->Option Obj}{K:PState->Prop}{T:TT}{rb:RB}{k:Nat}{L:List Nat}
theorem jU(hT:T.Ok P)(hg:aF ops s o=some true){t:TypeId}{x:Operand}{lo hi mx:Option Operand}(ho:o.op= .slice t x lo hi mx){ti ei:TInfo}{e:TypeId}(hti:T.get t=some ti)(hd:ti.desc= .slice e)(hei:T.get e=some ei)
  {tag:Nat} {g:OwnRef} {len:Nat} (hx:evS s x= .own tag g len) {l h m:Nat} (hl:lT (evS s) lo 0 l) (hh:lT (evS s) hi len h) (hm:lT (evS s) mx g.cap m) (hs:mx.isSome=true->hi.isSome=true) (h1:l<=h) (h2:h<=m) (h3:m<=g.cap)
  (hp:putD n s o.dst (.val (g.sub ei.size l h m))=some s') (hr:Ao P ops rest ⟨n,s',bx,ob⟩ K):Ao P ops (o::rest) ⟨n,s,bx,ob⟩ K:=
 vK hg (detS_subV hT ho hti hd hei hx hl hh hm hs h1 h2 h3) hp hr
theorem Ao.subVQ{t:TypeId}{x:Operand}{lo hi mx:Option Operand}{ti ei:TInfo}{e:TypeId}{tag:Nat}{g:OwnRef}{len:Nat}{l h m:Nat}(hT:T.Ok P)(hl:lT (evS s) lo 0 l)(hh:lT (evS s) hi len h)(hm:lT (evS s) mx g.cap m)(hs:mx.isSome=true->hi.isSome=true)(h1:l<=h)(h2:h<=m)(h3:m<=g.cap)(hr:Ao P ops rest ⟨n,s',bx,ob⟩ K)(hg:aF ops s o=some true:=by exact Z)(ho:o.op= .slice t x lo hi mx:=by exact Z)(hti:T.get t=some ti:=by exact Z)(hd:ti.desc= .slice e:=by exact Z)(hei:T.get e=some ei:=by exact Z)(hx:evS s x= .own tag g len:=by exact Z)(hp:putD n s o.dst (.val (g.sub ei.size l h m))=some s':=by exact Z):Ao P ops (o::rest) ⟨n,s,bx,ob⟩ K:=jU hT hg ho hti hd hei hx hl hh hm hs h1 h2 h3 hp hr
theorem lY(hT:T.Ok P)(ho:ops[k]? =some o)(hg:aF ops s o=some true){t:TypeId}{x:Operand}{lo hi mx:Option Operand}(hop:o.op= .slice t x lo hi mx){ti ei:TInfo}{e:TypeId}(hti:T.get t=some ti)(hd:ti.desc= .slice e)(hei:T.get e=some ei)
  {tag:Nat} {g:OwnRef} {len:Nat} (hx:evS s x= .own tag g len) {l h m:Nat} (hl:lT (evS s) lo 0 l) (hh:lT (evS s) hi len h) (hm:lT (evS s) mx g.cap m) (hs:mx.isSome=true->hi.isSome=true) (h1:l<=h) (h2:h<=m) (h3:m<=g.cap)
  (hp:putD n s o.dst (.val (g.sub ei.size l h m))=some s') (hr:Do P T rb ops L ⟨n,s',bx,ob⟩ K):Do P T rb ops (k::L) ⟨n,s,bx,ob⟩ K:=
 vM ho hg (by rw[hop];rfl) (fun _=>detS_subV hT hop hti hd hei hx hl hh hm hs h1 h2 h3) hp hr
theorem Do.subVQ{t:TypeId}{x:Operand}{lo hi mx:Option Operand}{ti ei:TInfo}{e:TypeId}{tag:Nat}{g:OwnRef}{len:Nat}{l h m:Nat}(hT:T.Ok P)(hl:lT (evS s) lo 0 l)(hh:lT (evS s) hi len h)(hs:mx.isSome=true->hi.isSome=true)(h1:l<=h)(h2:h<=m)(h3:m<=g.cap)(hr:Do P T rb ops L ⟨n,s',bx,ob⟩ K)(ho:ops[k]? =some o:=by exact Z)(hg:aF ops s o=some true:=by exact Z)(hop:o.op= .slice t x lo hi mx:=by exact Z)(hti:T.get t=some ti:=by exact Z)(hd:ti.desc= .slice e:=by exact Z)(hei:T.get e=some ei:=by exact Z)(hx:evS s x= .own tag g len:=by exact Z)(hm:lT (evS s) mx g.cap m:=by exact Z)(hp:putD n s o.dst (.val (g.sub ei.size l h m))=some s':=by exact Z):Do P T rb ops (k::L) ⟨n,s,bx,ob⟩ K:=lY hT ho hg hop hti hd hei hx hl hh hm hs h1 h2 h3 hp hr
theorem qv(hT:T.Ok P)(hg:aF ops s o=some true){x:Operand}{t:TypeId}(ho:o.op= .call {callee:= .builtin .clear,args:=#[x],argTypes:=#[t]})(hdst:o.dst=none){ti ei:TInfo}{e:TypeId}(hti:T.get t=some ti)(hd:ti.desc= .slice e)(hei:T.get e=some ei)
  (hz:Nat.beq ei.zero.cells.size ei.size=true) (h1:(cq ei).all PV.one=true) {tag:Nat} {g:OwnRef} {rows:List (List PV)} (hob:ob tag=some ⟨g,e,rows,true⟩) {p q m:Nat} (hp:rows.length<=p) (hpq:p<=q) (hq:q<=m) (hm:m<=g.cap)
  (hx:evS s x= .val (g.sub ei.size p q m)) (h:Ao P ops rest ⟨n,s,bx,ob⟩ K):Ao P ops (o::rest) ⟨n,s,bx,ob⟩ K:=
 ff hg (eff_clearB hT ho hti hd hei hz h1 hob hp hpq hq hm hx ⟨s,by simp[hdst,putD],h⟩)
theorem wI(hg:aF ops s o=some true){t t':TypeId}{x y:Operand}(ho:o.op= .binOp .shr t x y t'){kk k2:IntKind}{a b:Int}(hx:evS s x= .val (.int kk a))(hy:evS s y= .val (.int k2 b))(hb:0<=b){m:Nat}(hm:min b.toNat kk.bits=m)
  (hp:putD n s o.dst (.val (.int kk (a.fdiv (2^m))))=some s') (h:Ao P ops rest ⟨n,s',bx,ob⟩ K):Ao P ops (o::rest) ⟨n,s,bx,ob⟩ K:=by
 refine ff hg (fun C M a' w next Q hi he hn=>?_);have hxr:=he x (by rw[ho];simp[Op.operands]);have hyr:=he y (by rw[ho];simp[Op.operands]);rw[show(⟨n,s,bx,ob⟩:PState).s=s from Z,hx]at hxr;rw[show(⟨n,s,bx,ob⟩:PState).s=s from Z,hy]at hyr;simp only[Rep]at hxr hyr;subst hm
 have hrun:(execOp a'.eval o).run P w= .ok (.value (.int kk (a.fdiv (2^(min b.toNat kk.bits))))) w:=by
  have h2:(eqGuard .shr t x y (.int kk a) (.int k2 b)).run P w= .ok () w:=by simp[eqGuard]
  have hb':¬b<0:=by omega
  simp only[execOp,ho,hxr,hyr,Sem.run_bind,h2,Result.andThen_ok,binOp,Op.shift,zy hb'];rfl
 unfold Oper.wp;rw[hrun];exact hn _ _ ⟨bx,ob⟩ M w ⟨s',hp,h⟩ (Mem.le_refl M) hi (by simp only[Rep])
theorem lz{tag:Nat}{g:OwnRef}{e:TypeId}{rows:List (List PV)}{wr:Bool}(hob:ob tag=some ⟨g,e,rows,wr⟩)(h:(rows≠[]->∃b,g.blk=some b)->Ao P ops rest ⟨n,s,bx,ob⟩ K):Ao P ops rest ⟨n,s,bx,ob⟩ K:=fun C M a w Q hi hq=>by
 refine h (fun hne=>?_) C M a w Q hi hq
 obtain⟨_,_,_,_,h4⟩:=hi.2.objs tag _ hob
 rcases h4 with⟨_,h5,_⟩|⟨b,_,h5,_⟩
 ·exact absurd h5 hne
 ·exact⟨b,h5⟩
theorem rB{fn:Func}{R:PV->Heap->Prop}{ks:List KI}{tag:Nat}{g:OwnRef}{e:TypeId}{rows:List (List PV)}{wr:Bool}(hob:ob tag=some ⟨g,e,rows,wr⟩)(h:rows.length<=g.cap->V P fn R ks ⟨n,s,bx,ob⟩):V P fn R ks ⟨n,s,bx,ob⟩:=fun C M a w hi=>by
 refine h ?_ C M a w hi
 obtain⟨_,_,_,_,h4⟩:=hi.2.objs tag _ hob
 rcases h4 with⟨_,h5,h6⟩|⟨b,_,h5,_,_,_,h6,h7,_⟩
 ·simp only at h5;rw[h5];simp
 ·exact h6
theorem xk{tag:Nat}{g:OwnRef}{e:TypeId}{rows:List (List PV)}{wr:Bool}(hob:ob tag=some ⟨g,e,rows,wr⟩)(h:rows.length<=g.cap->Ao P ops rest ⟨n,s,bx,ob⟩ K):Ao P ops rest ⟨n,s,bx,ob⟩ K:=fun C M a w Q hi hq=>by
 refine h ?_ C M a w Q hi hq
 obtain⟨_,_,_,_,h4⟩:=hi.2.objs tag _ hob
 rcases h4 with⟨_,h5,h6⟩|⟨b,_,h5,_,_,_,h6,h7,_⟩
 ·simp only at h5;rw[h5];simp
 ·exact h6
theorem Gh.cutO{st:PState}{tag:Nat}{g:OwnRef}{e:TypeId}{rows rows':List (List PV)}(hob:st.ob tag=some ⟨g,e,rows,true⟩)(m:Nat)(hr:rows.take m=rows'):Gh P st ⟨st.n,st.s,st.bx,upd st.ob tag (some ⟨g,e,rows',true⟩)⟩:=by
 subst hr;intro C M a w hi
 exact⟨M,hi.1,hi.2.cutO hob m⟩
theorem sV(hT:T.Ok P)(ho:ops[k]? =some o)(hg:aF ops s o=some true){x y:Operand}{t:TypeId}(hop:o.op= .call {callee:= .builtin .append,args:=#[x,y],argTypes:=#[t,t]}){ti ei:TInfo}{e:TypeId}(hti:T.get t=some ti)(hd:ti.desc= .slice e)(hei:T.get e=some ei)
  {tag:Nat} {g:OwnRef} {rows rows':List (List PV)} (hob:ob tag=some ⟨g,e,rows,true⟩) {p q:Nat} (hpq:p<=q) (hq:q<=rows.length) (hx:evS s x= .val (g.sub ei.size 0 p g.cap)) (hy:evS s y= .val (g.sub ei.size q rows.length g.cap)) (hr:rows.take p++rows.drop q=rows')
  (hp:putD n s o.dst (.own tag g rows'.length)=some s') (h:Do P T rb ops L ⟨n,s',bx,upd ob tag (some ⟨g,e,rows',true⟩)⟩ K):Do P T rb ops (k::L) ⟨n,s,bx,ob⟩ K:=by
 subst hr
 refine⟨o,ho,true,hg,?_⟩
 simp only[if_true,hop,dW];exact .inr fun bx'=>eff_appendIn hT hop hti hd hei hob hpq hq hx hy ⟨rfl,fun hx=>by simp[pU]at hx,s',hp,h⟩
theorem xm(hT:T.Ok P)(hg:aF ops s o=some true){t:TypeId}{x y:Operand}(ho:o.op= .slice t x none (some y) none){ti:TInfo}{e:TypeId}(hti:T.get t=some ti)(hd:ti.desc= .slice e){ei:TInfo}(hei:T.get e=some ei)
  {tag:Nat} {g:OwnRef} {len:Nat} {rows rows':List (List PV)} (hx:evS s x= .own tag g len) (hob:ob tag=some ⟨g,e,rows,true⟩) {kk:IntKind} {m:Int} (hy:evS s y= .val (.int kk m)) (hm:0<=m/\m.toNat<=rows.length) (hr:rows.take m.toNat=rows') {d:Nat} (hdst:o.dst=some d) (hlt:Nat.blt d n=true)
  (h:Ao P ops rest ⟨n,upd s d (.own tag g rows'.length),bx,upd ob tag (some ⟨g,e,rows',true⟩)⟩ K):Ao P ops (o::rest) ⟨n,s,bx,ob⟩ K:=by
 subst hr;refine ff hg (fun C M a w next Q hi he hn=>?_);have hxr:=he x (by rw[ho];simp[Op.operands]);have hyr:=he y (by rw[ho];simp[Op.operands]);rw[show(⟨n,s,bx,ob⟩:PState).s=s from Z,hx]at hxr;rw[show(⟨n,s,bx,ob⟩:PState).s=s from Z,hy]at hyr;simp only[Rep]at hxr hyr;have hu:=(hT.get hti).und;rw[hd]at hu
 have hcap:rows.length<=g.cap:=by
  obtain⟨i,_,_,_,h4⟩:=hi.objs tag _ hob
  rcases h4 with⟨_,b,_⟩|⟨_,_,_,_,_,_,h9,_⟩
  ·simp only at b;rw[b];simp
  ·exact h9
 have hmc:m<=(g.cap:Int):=by omega
 have hl2:(rows.take m.toNat).length=m.toNat:=by simp;omega
 have hrun:(execOp a.eval o).run P w= .ok (.value (g.val (rows.take m.toNat).length)) w:=by
  rw[hl2];simp only[execOp,ho,Sem.run_bind,Sem.run_pure,Option.map_some,Option.map_none,hxr.2,hyr,OwnRef.val];cases hb:g.blk with
  |none=>simp[Instr.sliceAt,Instr.slice,run_underlying hu,Instr.sliceBounds,Instr.sliceBound,asIntOf,(hT.get hei).rsize w,hm.1,hmc]
  |some b=>
   have e0:(⟨b,0,none⟩:Addr).add 0=⟨b,0,none⟩:=by rw[dS]
   simp[Instr.sliceAt,Instr.slice,run_underlying hu,Instr.sliceBounds,Instr.sliceBound,asIntOf,(hT.get hei).rsize w,hm.1,hmc,e0]
 unfold Oper.wp;rw[hrun];exact hn _ (.own tag g (rows.take m.toNat).length) ⟨bx,upd ob tag (some ⟨g,e,rows.take m.toNat,true⟩)⟩ M w ⟨_,by simp[hdst,putD,hlt],h⟩ (Mem.le_refl M) (hi.cutO hob m.toNat) (by simp[Rep])
end
def pF(T:TT):List (Nat×Nat)->List PV->List PV->Option Bool
 |[],_,_=>some true
 |(t,off)::r,xs,ys=>match T.get t with
  |some ti=>match(bif ti.eqf.isEmpty then(match xs[off]?,ys[off]? with|some p,some q=>ua ti.desc p q|_,_=>none)else nr T ti.eqf ((xs.drop off).take ti.size) ((ys.drop off).take ti.size)),pF T r xs ys with
   |some b,some c=>some (b&&c)
   |_,_=>none
  |none=>none
section
variable{P:Program}{T:TT}
theorem tJ(hT:T.Ok P)(w:World){M:Mem}{d:Nat}{xs ys:List PV}{cs ds:Array Value}(hx:av P M true xs cs.toList)(hy:av P M true ys ds.toList):
  ∀(fs:List Field) (eqf:List (Nat×Nat)) (b:Bool),dN fs eqf->pF T eqf xs ys=some b->(Op.eqFields (d+2) cs ds fs).run P w= .ok b w
 |[],[],b,_,h=>by simp only[pF,zo]at h;subst h;simp[Op.eqFields]
 |f::fs,(t,o)::r,b,hm,h=>by
  simp only[dN]at hm
  obtain⟨hn,rfl,rfl,hm⟩:=hm
  simp only[pF]at h;split at h
  ·rename_i ti hti;split at h
   ·rename_i b1 b2 h1 h2;simp only[zo]at h;subst h;have ih:=tJ hT w (d:=d) hx hy fs r b2 hm h2;cases he:ti.eqf.isEmpty with
    |true=>
     simp only[he,zc]at h1;split at h1
     ·rename_i p q hp hq
      obtain⟨x,hx1,hx2⟩:=hx.get _ _ hp
      obtain⟨y,hy1,hy2⟩:=hy.get _ _ hq
      obtain⟨hag,heq⟩:=tu w (d:=d+1) (hT.get hti) hx2 hy2 h1
      have hpx:∀(c:Array Value) (z:Value),c.toList[f.offset]? =some z->(part f.type c f.offset).run P w= .ok z w:=by
       intro c z hz;rw[Array.getElem?_toList]at hz;simp[part,(hT.get hti).ragg w,hag,hz]
      simp only[Op.eqFields,zp (show f.name≠ "_" from hn),Sem.run_bind,hpx _ _ hx1,hpx _ _ hy1,Result.andThen_ok,heq];cases b1<;>simp[ih]
     ·cases h1
    |false=>
     simp only[he,zd]at h1
     obtain⟨k1,k2,k3,k4⟩:=(hT.get hti).eqs (by intro h0;simp[h0]at he)
     have hag:mF ti.desc=true:=by
      have hu:=(hT.get hti).und;rw[k4]at hu;rw[<-Option.some.inj hu];rfl
     have hpx:∀(c:Array Value),(part f.type c f.offset).run P w= .ok (.agg (c.extract f.offset (f.offset+ti.size))) w:=by
      intro c;simp[part,(hT.get hti).ragg w,hag,(hT.get hti).rsize w]
     have hsub:∀(zs:List PV) (c:Array Value),av P M true zs c.toList->av P M true ((zs.drop f.offset).take ti.size) (c.extract f.offset (f.offset+ti.size)).toList:=by
      intro zs c hz
      have e:(c.extract f.offset (f.offset+ti.size)).toList=(c.toList.drop f.offset).take ti.size:=by
       rw[Array.toList_extract];simp[List.extract_eq_take_drop]
      rw[e]
      exact(hz.drop _).take _
     have heq:(Op.equalIn (d+2) f.type (.agg (cs.extract f.offset (f.offset+ti.size))) (.agg (ds.extract f.offset (f.offset+ti.size)))).run P w= .ok b1 w:=by
      rw[run_equalIn_agg w (d+1) f.type _ _ k4 k1];exact nY hT w (d:=d) (hsub _ _ hx) (hsub _ _ hy) _ _ b1 k3 h1
     simp only[Op.eqFields,zp (show f.name≠ "_" from hn),Sem.run_bind,hpx,Result.andThen_ok,heq];cases b1<;>simp[ih]
   ·cases h
  ·cases h
 |[],_::_,b,hm,_=>by simp[dN]at hm
 |_::_,[],b,hm,_=>by simp[dN]at hm
theorem detS_eqNest(hT:T.Ok P){o:Oper}{ev:Operand->PV}{H:Heap}{t t':TypeId}{x y:Operand}(ho:o.op= .binOp .eql t x y t'){xs ys:List PV}(hx:ev x= .agg xs)(hy:ev y= .agg ys)(h1:P.stoodInHeld t=false)(h2:P.eqGuardType P.depth t=false)
  {eqf:List (Nat×Nat)} (h3:dN (P.fieldsOf t).toList eqf) (h4:P.underlying t=some (.struct (P.fieldsOf t))) {b:Bool} (hb:pF T eqf xs ys=some b):DetS P o ev H (.val (.bool b)):=by
 intro C M a w _ he;have hxr:=he x (by rw[ho];simp[Op.operands]);have hyr:=he y (by rw[ho];simp[Op.operands]);rw[hx]at hxr;rw[hy]at hyr;simp only[Rep]at hxr hyr
 obtain⟨cs,ex,hc⟩:=hxr
 obtain⟨ds,ey,hd⟩:=hyr
 refine⟨.bool b,?_,by simp only[Rep]⟩
 have key:(binOp .eql t (.agg cs) (.agg ds)).run P w= .ok (.bool b) w:=by
  rw[run_eql_struct w t cs ds,show(10000:Nat)=9997+2+1 from Z,run_equalIn_agg w (9997+2) t cs ds h4 h1,tJ hT w (d:=9997) hc hd _ _ b h3 hb];rfl
 have hg:=run_eqGuard_agg (P:=P) w .eql t x y cs ds h2;simp only[execOp,ho,ex,ey];simp only[Sem.run_bind,hg,Result.andThen_ok,key];rfl
end
section
variable{P:Program}{ops:Array Oper}{rest:List Oper}{o:Oper}{n:Nat}{s s':Nat->PV}{bx:Nat->Option Box}{ob:Nat->Option Obj}{K:PState->Prop}{T:TT}{rb:RB}{k:Nat}{L:List Nat}
theorem xD(hT:T.Ok P)(ho:ops[k]? =some o)(hg:aF ops s o=some true){t t':TypeId}{x y:Operand}(hop:o.op= .binOp .eql t x y t'){xs ys:List PV}(hx:evS s x= .agg xs)(hy:evS s y= .agg ys)(h1:P.stoodInHeld t=false)(h2:P.eqGuardType P.depth t=false)
  {eqf:List (Nat×Nat)} (h3:dN (P.fieldsOf t).toList eqf) (h4:P.underlying t=some (.struct (P.fieldsOf t))) {b:Bool} (hb:pF T eqf xs ys=some b) (hp:putD n s o.dst (.val (.bool b))=some s') (h:Do P T rb ops L ⟨n,s',bx,ob⟩ K):Do P T rb ops (k::L) ⟨n,s,bx,ob⟩ K:=
 vM ho hg (by rw[hop];rfl) (fun _=>detS_eqNest hT hop hx hy h1 h2 h3 h4 hb) hp h
end
section
variable{P:Program}{C:Ctx}{M:Mem}{H:Heap}{w:World}
theorem InvH.alloc_part(h:InvH P C M H w)(pre cs:Array Value)(e:TypeId)(fz:Nat×Nat)(hp:∀(o:Nat) (v:Value),pre[o]? =some v->cs[o]? =some v):InvH P C (M.add w.heap.size pre) H (w.alloc (.cells cs e fz)):=by
 have hle:=h.add_le pre
 refine⟨?_,Mem.le_trans h.ext hle,?_,h.os,h.tape,h.output,?_,?_,?_,?_,h.dbox,h.dobj,h.dmix⟩
 ·intro b o v hm;by_cases hb:b=w.heap.size
  ·subst hb;rw[cell_of_row (w.alloc (.cells cs e fz)) w.heap.size o cs e fz (heap_alloc_new w _)];exact hp o v (by simpa[Mem.add]using hm)
  ·simp only[Mem.add,hb,if_false]at hm;rw[pQ w _ (h.mem_lt hm)];exact h.mem b o v hm
 ·intro b o v hm;by_cases hb:b=w.heap.size
  ·exact .inr (.inl (hb▸h.size))
  ·simp only[Mem.add,hb,if_false]at hm;exact h.new b o v hm
 ·rw[oW];exact Nat.le_succ_of_le h.size
 ·intro b hb hn;rw[heap_alloc_old w _ (Nat.lt_of_lt_of_le hb h.size)];exact h.frame b hb hn
 ·intro t x hx;have hlt:=h.box_lt hx
  exact(h.boxes t x hx).keep hle (fun o ho=>by simp[Mem.add,Nat.ne_of_lt hlt,ho]) (heap_alloc_old w _ hlt)
 ·intro t x hx
  exact(h.objs t x hx).keep hle (fun b o hb ho=>by simp[Mem.add,Nat.ne_of_lt (h.obj_lt hx hb),ho]) (fun b hb=>heap_alloc_old w _ (h.obj_lt hx hb))
theorem freeze_new(w:World)(cs:Array Value)(e:TypeId)(n:Nat):(w.alloc (.cells cs e)).freeze ⟨w.heap.size,n,none⟩ 1=w.alloc (.cells cs e (n,n+1)):=by
 unfold World.freeze World.alloc;simp only[Nat.one_ne_zero,if_false];congr 1;apply Array.ext
 ·simp
 ·intro i h1 h2;rw[Array.getElem_modify];split
  ·rename_i hi;subst hi;simp
  ·rename_i hi
   have:i<w.heap.size:=by simp at h2;omega
   simp[Array.getElem_push,this]
end
section
variable{P:Program}{ops:Array Oper}{rest:List Oper}{o:Oper}{n:Nat}{s s':Nat->PV}{bx:Nat->Option Box}{ob:Nat->Option Obj}{K:PState->Prop}{T:TT}{rb:RB}{k:Nat}{L:List Nat}
theorem byteRows_rep(M:Mem)(xs:Rb):av P M false (nj xs).flatten (xs.map fun c=>Value.int .u8 c.toNat):=by
 induction xs with
 |nil=>simp[nj,av]
 |cons c xs ih=>simp only[nj,List.map_cons,List.flatten_cons,List.cons_append,List.nil_append,av,Rep];exact⟨_,_,rfl,rfl,ih⟩
theorem Ao.s2b(hT:T.Ok P)(hg:aF ops s o=some true){src dst e:TypeId}{x:Operand}(ho:o.op= .convert src dst x){si di ei:TInfo}(hsi:T.get src=some si)(hsd:si.desc= .string)(hdi:T.get dst=some di)(hdd:di.desc= .slice e)(hei:T.get e=some ei)(hed:ei.desc= .int .u8)(hes:ei.size=1)(heb:ei.bytes=1)
  {xs:Rb} (hx:evS s x= .str xs) (hl:xs.length<=2^47) (hp:putD n s o.dst (.list e (nj xs))=some s') (h:Ao P ops rest ⟨n,s',bx,ob⟩ K):Ao P ops (o::rest) ⟨n,s,bx,ob⟩ K:=by
 refine ff hg (fun C M a w next Q hi he hn=>?_);have hxr:=he x (by rw[ho];simp[Op.operands]);rw[show(⟨n,s,bx,ob⟩:PState).s=s from Z,hx]at hxr;simp only[Rep]at hxr;have hs:=(hT.get hsi).und;have hd:=(hT.get hdi).und;have hee:=(hT.get hei).und;rw[hsd]at hs;rw[hdd]at hd;rw[hed]at hee
 obtain⟨i,hinf,hsz,hby,_⟩:=(hT.get hei).info
 have hge:=grownCap_ge w xs.length 0 e;have hml:xs.length<=maxLen:=by unfold maxLen;omega
 have hgm:grownCap w xs.length 0 e<=maxLen:=grownCap_le_maxLen w xs.length 0 e hml
 obtain⟨pre,hpre⟩:∃pre:Array Value,pre=xs.toArray.map fun b=>Value.int .u8 b.toNat:=⟨_,rfl⟩
 obtain⟨cs,hcs⟩:∃cs:Array Value,cs=pre++Array.replicate (grownCap w xs.length 0 e-xs.length) (.int .u8 0):=⟨_,rfl⟩
 have hrun:(execOp a.eval o).run P w= .ok (.value (.slice (some ⟨w.heap.size,0,none⟩) xs.length (grownCap w xs.length 0 e))) (w.drew.alloc (.cells cs e (cs.size,cs.size+1))):=by
  have hz:(ByteArray.mk xs.toArray).size=xs.length:=by simp[ByteArray.size]
  have key:(Conv.stringToBytes e ⟨xs.toArray⟩).run P w= .ok (.slice (some ⟨w.heap.size,0,none⟩) xs.length (grownCap w xs.length 0 e)) (w.drew.alloc (.cells cs e (cs.size,cs.size+1))):=by
   have hmk:∀w0:World,(markStringish ⟨w0.heap.size,0,none⟩).run P (w0.alloc (.cells cs e))= .ok () (w0.alloc (.cells cs e (cs.size,cs.size+1))):=by
    intro w0;have hsh:(w0.alloc (.cells cs e)).shape? w0.heap.size=some (e,cs.size):=by unfold World.shape?;rw[heap_alloc_new]
    unfold markStringish;simp only[Sem.run_bind,run_shape,Result.andThen_ok,hsh];rw[run_freeze,freeze_new]
   have hm0:=hmk w.drew;subst hcs;subst hpre;unfold Conv.stringToBytes;simp only[Sem.run_bind,hz,run_choose,Question.forced];simp[newRow];simp[grownCap]at hm0⊢;rw[hm0];simp
  simp only[execOp,ho,hxr.1,convert,Sem.run_bind,run_underlying hs,run_underlying hd,run_underlying hee,Result.andThen_ok,key];rfl
 unfold Oper.wp;rw[hrun];have hle:=(show InvH P C M ⟨bx,ob⟩ w.drew from hi.drew).add_le pre;have hi':=(show InvH P C M ⟨bx,ob⟩ w.drew from hi.drew).alloc_part pre cs e (cs.size,cs.size+1) (fun o v hv=>by rw[hcs,Array.getElem?_append_left (Array.getElem?_eq_some_iff.1 hv).1];exact hv);refine hn _ (.list e (nj xs)) ⟨bx,ob⟩ (M.add w.drew.heap.size pre) _ ⟨s',hp,h⟩ hle hi' ?_;simp only[Rep];have hbl:(nj xs).length=xs.length:=by simp[nj]
 refine⟨_,grownCap w xs.length 0 e,i,by rw[hbl],by rw[hbl];exact hge,hgm,hinf,by rw[hbl,hby,heb];omega,fun _=>⟨_,_,rfl,?_⟩⟩
 refine dZ.of_flat (fun r hr=>?_) (vf (show InvH P C M ⟨bx,ob⟩ w.drew from hi.drew) (nj xs).flatten pre ?_ ?_)
 ·obtain⟨c,_,rfl⟩:=List.mem_map.1 hr
  rw[hsz,hes];rfl
 ·rw[hpre];intro v hv;simp at hv
  obtain⟨c,_,rfl⟩:=hv
  rfl
 ·rw[hpre];simpa using byteRows_rep M xs
theorem xK(hT:T.Ok P)(hg:aF ops s o=some true){x:Operand}{t:TypeId}(ho:o.op= .makeSlice t x x){d:Nat}(hdst:o.dst=some d)(hlt:Nat.blt d n=true){ti ei:TInfo}{e:TypeId}(hti:T.get t=some ti)(hd:ti.desc= .slice e)(hei:T.get e=some ei)
  (hz:Nat.beq ei.zero.cells.size ei.size=true) (h1:(cq ei).all PV.one=true) {kk:IntKind} {m:Int} (hx:evS s x= .val (.int kk m)) (hm:0<=m) (hby:m.toNat*ei.bytes<=2^47) (hmx:m.toNat<=maxLen) {rows:List (List PV)} (hr:List.replicate m.toNat (cq ei)=rows)
  (h:∀g,Ao P ops rest ⟨n,upd s d (.own d g rows.length),bx,upd ob d (some ⟨g,e,rows,true⟩)⟩ K):Ao P ops (o::rest) ⟨n,s,bx,ob⟩ K:=by
 subst hr;refine ff hg (fun C M a w next Q hi he hn=>?_);have hxr:=he x (by rw[ho];simp[Op.operands]);rw[show(⟨n,s,bx,ob⟩:PState).s=s from Z,hx]at hxr;simp only[Rep]at hxr;have hu:=(hT.get hti).und;rw[hd]at hu
 obtain⟨i,hinf,hs,hbs,hzero⟩:=(hT.get hei).info
 have hz1:=Nat.eq_of_beq_eq_true hz
 obtain⟨k,hk⟩:∃k:Nat,k=m.toNat:=⟨_,rfl⟩
 rw[<-hk]at hby hmx h;have hkm:m=(k:Int):=by omega
 subst hkm;have hby2:k*i.bytes<=2^47:=by rw[hbs];exact hby
 have hbi:(i.bytes:Int)*(k:Int)<=281474976710656:=by
  have:((k*i.bytes:Nat):Int)<=((2^47:Nat):Int):=Int.ofNat_le.2 hby2
  rw[Int.natCast_mul]at this;rw[Int.mul_comm];omega
 have hrun:(execOp a.eval o).run P w= .ok (.value (.slice (some ⟨w.heap.size,0,none⟩) k k)) (w.alloc (.cells (madeCells ei.zero.cells (k*i.size)) e)):=by
  have:=run_make w t e i ei.zero hu hinf hzero kk kk (k:Int) (k:Int) (by omega) (by omega) hbi (by unfold maxLen at hmx;omega)
  simp only[Int.toNat_natCast]at this;simp only[execOp,ho,hxr,Sem.run_bind,this];rfl
 unfold Oper.wp;rw[hrun];have hzl:(cq ei).length=i.size:=by simp[cq,hz1,hs]
 have hmc:(madeCells ei.zero.cells (k*i.size)).toList=(List.replicate k ei.zero.cells.toList).flatten:=by
  rw[hs,<-hz1];exact nc ei.zero.cells k
 have hrep:av P M false (List.replicate k (cq ei)).flatten (List.replicate k ei.zero.cells.toList).flatten:=mK (mq _) k
 have htake:(madeCells ei.zero.cells (k*i.size)).toList.take ((List.replicate k (cq ei)).length*i.size)=(List.replicate k ei.zero.cells.toList).flatten:=by
  rw[List.length_replicate,List.take_of_length_le (by simp[size_madeCells]),hmc]
 refine hn _ (.own d ⟨some w.heap.size,k⟩ (List.replicate k (cq ei)).length) _ M _ ⟨_,by simp[hdst,putD,hlt],h ⟨some w.heap.size,k⟩⟩ (Mem.le_refl M)
  ((show InvH P C M ⟨bx,ob⟩ w from hi).alloc_obj d e (List.replicate k (cq ei)) true _ _ i hinf ?_ ?_ ?_ ?_ hmx ?_ ?_) ?_
 ·rw[List.length_replicate];exact hby2
 ·intro r hr;rw[List.eq_of_mem_replicate hr];exact hzl
 ·rw[size_madeCells]
 ·rw[List.length_replicate];exact Nat.le_refl _
 ·rw[htake];exact hrep
 ·rw[htake];refine av.oneCell ?_ hrep;rw[List.all_flatten];rw[List.all_eq_true];intro r hr;rw[List.eq_of_mem_replicate hr];exact h1
 ·simp[Rep,OwnRef.val]
theorem Ao.ext(hg:aF ops s o=some true){fx:Operand}{av0:Array Operand}{ts:Array TypeId}(ho:o.op= .call {callee:= .value fx,args:=av0,argTypes:=ts}){g:FuncId}(hf:evS s fx= .fn g []){r:PV}
  (hcall:∀(M:Mem) (vs:Array Value) (w:World),av P M true (av0.toList.map (evS s)) vs.toList->∃v,(callFunc g vs).run P w= .ok (.value v) w/\Rep P M true r v)
  (hp:putD n s o.dst r=some s') (h:Ao P ops rest ⟨n,s',bx,ob⟩ K):Ao P ops (o::rest) ⟨n,s,bx,ob⟩ K:=by
 refine ff hg (fun C M a w next Q hi he hn=>?_);have hfr:=he fx (by rw[ho];simp[Op.operands,Call.operands]);rw[show(⟨n,s,bx,ob⟩:PState).s=s from Z,hf]at hfr;simp only[Rep]at hfr
 obtain⟨cs,hv,hcaps⟩:=hfr
 have hargs:av P M true (av0.toList.map (evS s)) (av0.map a.eval).toList:=by
  simpa using rj av0.toList fun x hx=>he x (by rw[ho];simp_all[Op.operands,Call.operands])
 have hc0:cs=#[]:=by
  simp only[av]at hcaps;exact Array.toList_eq_nil_iff.1 hcaps
 subst hc0
 obtain⟨v,hrun,hr⟩:=hcall M (av0.map a.eval) w hargs
 have hrun':(execOp a.eval o).run P w= .ok (.value v) w:=by
  simp[execOp,ho,resolve,hv,Deferred.ofValue,invoke,hrun]
 unfold Oper.wp;rw[hrun'];exact hn v r ⟨bx,ob⟩ M w ⟨s',hp,h⟩ (Mem.le_refl M) hi hr
theorem Ao.cmpS(hg:aF ops s o=some true){fx x y:Operand}{ts:Array TypeId}(ho:o.op= .call {callee:= .value fx,args:=#[x,y],argTypes:=ts}){g:FuncId}(hf:evS s fx= .fn g []){fn:Func}(h1:P.funcs[g]? =some fn)(h2:(fn.name== "runtime.NumGoroutine")=false)(h3:fn.body.isNone=true)(h4:Extern.findNext fn=none)(h5:Extern.find fn=some Extern.BytealgCompare.compare)
  {a b:Rb} (hx:evS s x= .str a) (hy:evS s y= .str b) (hp:putD n s o.dst (.val (.int .i64 (Lib.compareBytes a b)))=some s') (h:Ao P ops rest ⟨n,s',bx,ob⟩ K):Ao P ops (o::rest) ⟨n,s,bx,ob⟩ K:=by
 refine Ao.ext hg ho hf (fun M vs w hr=>?_) hp h;simp only[List.map_cons,List.map_nil,hx,hy,av,Rep]at hr
 obtain⟨v1,l1,e1,⟨r1,_⟩,v2,l2,e2,⟨r2,_⟩,e3⟩:=hr
 subst e3 e2 r1 r2
 have hvs:vs=#[.string ⟨a.toArray⟩,.string ⟨b.toArray⟩]:=by
  apply Array.toList_inj.1;rw[e1]
 subst hvs
 refine⟨.int .i64 (Lib.compareBytes a b),?_,by simp only[Rep]⟩
 rw[run_callFunc_extern h1 h2 h3 h4 h5,Lib.run_compareString];rfl
end
def arrI{α:Type}(n:Nat)(xs:List α)(i:Int):Option α:=if 0<=i/\i<n then xs[i.toNat]? else none
theorem arrI_some{α:Type}{n:Nat}{xs:List α}{i:Int}{x:α}(h:arrI n xs i=some x):(0<=i/\i<n)/\xs[i.toNat]? =some x:=by
 unfold arrI at h;split at h
 ·rename_i h0;exact⟨h0,h⟩
 ·cases h
theorem arrI_eq{α:Type}{n:Nat}{xs:List α}{i:Int}{x:α}(h0:0<=i/\i<n)(h:xs[i.toNat]? =some x):arrI n xs i=some x:=by
 unfold arrI;rw[zp h0,h]
theorem splice_map{α:Type}(f:α->PV)(xs:List α)(k:Nat)(v:α){ys:List α}(hk:k<xs.length)(hy:xs.set k v=ys):splice (xs.map f) k [f v]=ys.map f:=by
 subst hy;unfold splice;rw[List.map_set,List.length_singleton];have hk':k<(xs.map f).length:=by simpa using hk
 rw[List.set_eq_take_append_cons_drop,zp hk',List.append_assoc];rfl
section
variable{P:Program}{ops:Array Oper}{rest:List Oper}{o:Oper}{n:Nat}{s s':Nat->PV}{bx:Nat->Option Box}{ob:Nat->Option Obj}{K:PState->Prop}{T:TT}{rb:RB}{k:Nat}{L:List Nat}
theorem um(p:PV)(l:List PV):okS (p::l)=false↔∃a g b,p= .optr a g 99 77 b:=by
 constructor
 ·intro h;unfold okS at h;split at h
  ·rename_i a g b _ e;simp only[List.cons.injEq]at e
   exact⟨a,g,b,e.1⟩
  ·cases h
 ·rintro⟨a,g,b,rfl⟩
  rfl
theorem okS_head{p:PV}{l:List PV}:okS (p::l)=okS [p]:=by
 cases h:okS [p]with
 |false=>exact(um p l).2 ((um p []).1 h)
 |true=>
  cases h':okS (p::l)with
  |true=>rfl
  |false=>rw[(um p []).2 ((um p l).1 h')]at h;cases h
theorem okS_map{α:Type}{f:α->PV}(hf:∀x,okS [f x]=true):∀l:List α,okS (l.map f)=true
 |[]=>rfl
 |x::l=>by rw[List.map_cons,okS_head];exact hf x
theorem vB(l:List Int):okS (l.map fun x=>PV.val (.int .i64 x))=true:=okS_map (fun _=>Z) l
theorem tL(l:List Bool):okS (l.map fun x=>PV.val (.bool x))=true:=okS_map (fun _=>Z) l
theorem vz(l:Rs):okS (l.map PV.str)=true:=okS_map (fun _=>Z) l
theorem xl(ho:ops[k]? =some o)(hg:aF ops s o=some true){t:TypeId}{x i:Operand}(hop:o.op= .indexAddr t x i){ti ei:TInfo}{e:TypeId}{len:Nat}(hti:T.get t=some ti)(hd:ti.desc= .array len e)(hei:T.get e=some ei)(hes:ei.size=1)
  {tag b:Nat} (hx:evS s x= .box tag b 0) {kk:IntKind} {j:Int} (hi:evS s i= .val (.int kk j)) (hj:0<=j/\j<len) (hp:putD n s o.dst (.box tag b j.toNat)=some s') (h:Do P T rb ops L ⟨n,s',bx,ob⟩ K):Do P T rb ops (k::L) ⟨n,s,bx,ob⟩ K:=by
 refine wN ho hg (by rw[hop];rfl) (r:= .box tag b j.toNat) ?_ hp h;rw[hop];simp[jQ,kD,hti,hx,hi,hd,hei,hj,hes]
theorem xE(hT:T.Ok P)(hg:aF ops s o=some true){t:TypeId}{x:Operand}(ho:o.op= .load t x){ti:TInfo}(hti:T.get t=some ti)(hta:mF ti.desc=false){tag b off:Nat}{cells:List PV}
  (hx:evS s x= .box tag b off) (hb:bx tag=some ⟨b,cells⟩) {r:PV} (hr:cells[off]? =some r) (hp:putD n s o.dst r=some s') (h:Ao P ops rest ⟨n,s',bx,ob⟩ K) (hok:okS cells=true:=by first|rfl|exact vB _|exact tL _|exact vz _):Ao P ops (o::rest) ⟨n,s,bx,ob⟩ K:=
 Ao.lB hT hg ho hti hx hb (by simp[eU,hok,jf,hta,hr,jS]) hp h
theorem xH(ho:ops[k]? =some o)(hrb:rb.b o=true)(hg:aF ops s o=some true){t:TypeId}{x:Operand}(hop:o.op= .load t x){ti:TInfo}(hti:T.get t=some ti)(hta:mF ti.desc=false){tag b off:Nat}{cells:List PV}
  (hx:evS s x= .box tag b off) (hb:bx tag=some ⟨b,cells⟩) {r:PV} (hr:cells[off]? =some r) (hp:putD n s o.dst r=some s') (h:Do P T rb ops L ⟨n,s',bx,ob⟩ K) (hok:okS cells=true:=by first|rfl|exact vB _|exact tL _|exact vz _):Do P T rb ops (k::L) ⟨n,s,bx,ob⟩ K:=
 Do.lB ho hrb hg hop hti hx hb (by simp[eU,hok,jf,hta,hr,jS]) hp h
theorem xC(hT:T.Ok P)(hg:aF ops s o=some true){t:TypeId}{x y:Operand}(ho:o.op= .store t x y)(hd:o.dst=none){ti:TInfo}(hti:T.get t=some ti)(hts:ti.size=1){tag b off:Nat}{cells cells':List PV}(hx:evS s x= .box tag b off)(hb:bx tag=some ⟨b,cells⟩)
  {p:PV} (hc:eo (evS s y)=some [p]) (h1:PV.one p=true) (hk:off<cells.length) (hs:splice cells off [p]=cells') (h:Ao P ops rest ⟨n,s,upd bx tag (some ⟨b,cells'⟩),ob⟩ K) (hok:okS cells=true:=by first|rfl|exact vB _|exact tL _|exact vz _):Ao P ops (o::rest) ⟨n,s,bx,ob⟩ K:=
 Ao.sB hT hg ho hd hti hx hb (cs:=[p]) (by simp[hc,eH]) (by simp[h1]) (by rw[hts];rfl) (by rw[hts,hok,Bool.true_and];exact Nat.ble_eq.mpr hk) (by rw[eH,hs]) h
theorem xz(ho:ops[k]? =some o)(hg:aF ops s o=some true){t:TypeId}{x y:Operand}(hop:o.op= .store t x y)(hd:o.dst=none){ti:TInfo}(hti:T.get t=some ti)(hts:ti.size=1){tag b off:Nat}{cells cells':List PV}(hx:evS s x= .box tag b off)(hb:bx tag=some ⟨b,cells⟩)
  {p:PV} (hc:eo (evS s y)=some [p]) (h1:PV.one p=true) (hk:off<cells.length) (hs:splice cells off [p]=cells') (h:Do P T rb ops L ⟨n,s,upd bx tag (some ⟨b,cells'⟩),ob⟩ K) (hok:okS cells=true:=by first|rfl|exact vB _|exact tL _|exact vz _) (hso:rb.so=false:=by rfl):Do P T rb ops (k::L) ⟨n,s,bx,ob⟩ K:=
 ib ho hg hop hd hti hx hb (cs:=[p]) (by simp[hc,eH]) (by simp[h1]) (by rw[hts];rfl) (by rw[hts,hok,Bool.true_and];exact Nat.ble_eq.mpr hk) (by rw[eH,hs]) h hso
end
def br:Nat:=100000
def dw(n c:Nat):Nat:=max n (min c maxLen)
def kN(b n c:Nat):Value:=bif Nat.beq (dw n c) 0 then .slice none 0 0 else .slice (some ⟨b,0,none⟩) n (dw n c)
def gD(gf:Nat->OwnRef)(rss:List (List (List PV)))(c:Nat):List PV:=rss.mapIdx (fun i rs=>PV.own (br+i) (gf i) rs.length)++List.replicate (dw rss.length c-rss.length) (.val (.slice none 0 0))
def ky(b:Nat)(gf:Nat->OwnRef)(rss:List (List (List PV)))(c:Nat):Option Box:=bif Nat.beq (dw rss.length c) 0 then none else some ⟨b,gD gf rss c⟩
def fU(e:TypeId)(gf:Nat->OwnRef)(rss:List (List (List PV)))(ob:Nat->Option Obj):Nat->Option Obj:=fun t=>
 bif Nat.ble br t then(rss[t-br]?).map (fun rs=>⟨gf (t-br),e,rs,true⟩)else ob t
theorem okS_of{l:List PV}(h:∀p∈l,∀a g b,p≠ .optr a g 99 77 b):okS l=true:=by
 unfold okS;split
 ·rename_i a g b _;exact absurd Z (h _ (by simp) a g b)
 ·rfl
theorem tE(gf:Nat->OwnRef)(rss:List (List (List PV)))(c:Nat):okS (gD gf rss c)=true:=okS_of fun p hp a g b e=>by
 subst e;unfold gD at hp;rcases List.mem_append.1 hp with hp|hp
 ·obtain⟨i,hi,h⟩:=List.mem_mapIdx.1 hp
  cases h
 ·cases(List.mem_replicate.1 hp).2
theorem lF(n c:Nat):n<=dw n c:=Nat.le_max_left _ _
theorem famCap_le{n:Nat}(c:Nat)(h:n<=maxLen):dw n c<=maxLen:=Nat.max_le.2 ⟨h,Nat.min_le_right _ _⟩
theorem mm{n c:Nat}(h:n<=c)(h':c<=maxLen):dw n c=c:=by unfold dw;rw[Nat.min_eq_left h',Nat.max_eq_right h]
theorem beq_pos{n:Nat}(h:0<n):Nat.beq n 0=false:=by
 cases n with
 |zero=>omega
 |succ n=>rfl
theorem ot{b n c:Nat}(h:0<dw n c):kN b n c= .slice (some ⟨b,0,none⟩) n (dw n c):=by simp[kN,beq_pos h]
theorem famV_zero{b n c:Nat}(h:dw n c=0):kN b n c= .slice none 0 0:=by simp[kN,h]
theorem tM{b:Nat}{gf:Nat->OwnRef}{rss:List (List (List PV))}{c:Nat}(h:0<dw rss.length c):ky b gf rss c=some ⟨b,gD gf rss c⟩:=by simp[ky,beq_pos h]
theorem famB_zero{b:Nat}{gf:Nat->OwnRef}{rss:List (List (List PV))}{c:Nat}(h:dw rss.length c=0):ky b gf rss c=none:=by simp[ky,h]
theorem ft{e:TypeId}{gf:Nat->OwnRef}{rss:List (List (List PV))}{ob:Nat->Option Obj}{i:Nat}{rs:List (List PV)}(h:rss[i]? =some rs):fU e gf rss ob (br+i)=some ⟨gf i,e,rs,true⟩:=by
 have:Nat.ble br (br+i)=true:=by rw[Nat.ble_eq];exact Nat.le_add_right _ _
 simp[fU,this,h]
theorem vv{b:Nat}{gf:Nat->OwnRef}{rss:List (List (List PV))}{c i:Nat}{rs:List (List PV)}(h:rss[i]? =some rs):ky b gf rss c=some ⟨b,gD gf rss c⟩:=by
 have hl:=(zg.1 h).1;exact tM (Nat.lt_of_lt_of_le (by omega) (lF _ _))
theorem famCells_get{gf:Nat->OwnRef}{rss:List (List (List PV))}{c i:Nat}{rs:List (List PV)}(h:rss[i]? =some rs):(gD gf rss c)[i]? =some (.own (br+i) (gf i) rs.length):=by
 have hl:=(zg.1 h).1;unfold gD;rw[List.getElem?_append_left (by simpa using hl)];simp[h]
theorem rl{gf:Nat->OwnRef}{rss:List (List (List PV))}{c:Nat}:(gD gf rss c).length=dw rss.length c:=by
 have:=lF rss.length c
 simp[gD];omega
theorem flat_single{α β:Type}(f:α->β)(l:List α):(l.map fun r=>[f r]).flatten=l.map f:=by
 induction l with
 |nil=>rfl
 |cons a l ih=>simp[ih]
theorem splice_one(cells:List PV)(k:Nat)(v:PV)(hk:k<cells.length):splice cells k [v]=cells.set k v:=by
 unfold splice;rw[List.length_singleton,List.set_eq_take_append_cons_drop,zp hk,List.append_assoc];rfl
theorem famCells_set{gf:Nat->OwnRef}{rss:List (List (List PV))}{c i:Nat}{rs rs':List (List PV)}(h:rss[i]? =some rs)(g:OwnRef):
  splice (gD gf rss c) i [.own (br+i) g rs'.length]=gD (upd gf i g) (rss.set i rs') c:=by
 have hl:=(zg.1 h).1;rw[splice_one _ _ _ (by rw[rl];exact Nat.lt_of_lt_of_le hl (lF _ _))];unfold gD;rw[List.set_append_left _ _ (by simpa using hl),List.length_set];congr 1;apply List.ext_getElem?;intro j;simp only[List.getElem?_set,List.length_mapIdx,List.getElem?_mapIdx];by_cases hj:i=j
 ·subst hj;simp[hl,ie]
 ·have:j≠i:=fun h=>hj h.symm
  simp[hj,gE _ _ this]
theorem oF{α:Type}{f:Nat->α}{t:Nat}{v:α}{i:Nat}(h:t<100000):upd f t v (br+i)=f (br+i):=gE _ _ (by unfold br;omega)
theorem famO_low{e:TypeId}{gf:Nat->OwnRef}{rss:List (List (List PV))}{ob:Nat->Option Obj}{t:Nat}(h:t<br):fU e gf rss ob t=ob t:=by
 have:Nat.ble br t=false:=by
  cases hb:Nat.ble br t with
  |false=>rfl
  |true=>have:=Nat.le_of_ble_eq_true hb;omega
 simp[fU,this]
theorem famO_set{e:TypeId}{gf:Nat->OwnRef}{rss:List (List (List PV))}{ob:Nat->Option Obj}{i:Nat}{rs':List (List PV)}{g:OwnRef}(hl:i<rss.length):
  ∀j rs,(rss.set i rs')[j]? =some rs->upd (fU e gf rss ob) (br+i) (some ⟨g,e,rs',true⟩) (br+j)=some ⟨upd gf i g j,e,rs,true⟩:=by
 intro j rs h;rw[List.getElem?_set]at h;by_cases hj:i=j
 ·subst hj;simp only[if_true,hl]at h;cases h;rw[ie,ie]
 ·have h1:br+j≠br+i:=by omega
  rw[zy hj]at h;rw[gE _ _ h1,ft h,gE _ _ (fun h=>hj h.symm)]
theorem famB_put{b c i:Nat}{gf2:Nat->OwnRef}{rss rss2:List (List (List PV))}{rs rs':List (List PV)}(h:rss[i]? =some rs)(hz:rss2=rss.set i rs'):(some ⟨b,gD gf2 (rss.set i rs') c⟩:Option Box)=ky b gf2 rss2 c:=by
 subst hz
 exact(vv (i:=i) (rs:=rs') (by rw[List.getElem?_set];simp[(zg.1 h).1])).symm
theorem famO_put{e:TypeId}{gf:Nat->OwnRef}{rss rss2:List (List (List PV))}{ob:Nat->Option Obj}{i:Nat}{rs0 rs':List (List PV)}{g:OwnRef}(h:rss[i]? =some rs0)(hz:rss2=rss.set i rs'):
  ∀j rs,rss2[j]? =some rs->upd (fU e gf rss ob) (br+i) (some ⟨g,e,rs',true⟩) (br+j)=some ⟨upd gf i g j,e,rs,true⟩:=by
 subst hz;exact famO_set (zg.1 h).1
theorem jF(ob ob':Nat->Option Obj)(t:Nat):nX ob [] ob' t=ob t:=rfl
theorem jg{ob ob':Nat->Option Obj}{a k i:Nat}{m:List (Nat×Nat)}(h:a<100000):nX ob ((a,k)::m) ob' (br+i)=nX ob m ob' (br+i):=by
 unfold nX;rw[List.find?_cons]
 have:Nat.beq a (br+i)=false:=by
  cases hb:Nat.beq a (br+i)with
  |false=>rfl
  |true=>have:=Nat.eq_of_beq_eq_true hb;unfold br at this;omega
 simp only[this]
section
variable{P:Program}{bx bx':Nat->Option Box}{ob ob':Nat->Option Obj}
theorem xq{e:TypeId}{gf:Nat->OwnRef}(h:OLe ob ob'):OLe ob (fU e gf [] ob'):=fun t x hx=>by
 unfold fU at hx;cases hq:Nat.ble br t with
 |true=>rw[hq]at hx;simp at hx
 |false=>rw[hq]at hx;exact h t x hx
theorem md{e:TypeId}{gf:Nat->OwnRef}{rss:List (List (List PV))}(h:∀i rs,rss[i]? =some rs->ob (br+i)=some ⟨gf i,e,rs,true⟩)(h':OLe ob ob'):OLe ob (fU e gf rss ob'):=by
 intro t x hx;unfold fU at hx;cases hb:Nat.ble br t with
 |false=>rw[hb]at hx;exact h' t x hx
 |true=>
  rw[hb]at hx;have hle:=Nat.le_of_ble_eq_true hb;simp only[zc,Option.map_eq_some_iff]at hx
  obtain⟨rs,h1,rfl⟩:=hx
  have:=h _ _ h1
  rwa [show br+(t-br)=t from by omega]at this
theorem famNil_le(e:TypeId)(gf:Nat->OwnRef)(ob:Nat->Option Obj):∀t x,fU e gf [] ob t=some x->ob t=some x:=md (fun i rs h=>by simp at h) (xI ob)
theorem mI{t b c:Nat}{gf:Nat->OwnRef}{rss:List (List (List PV))}(h:bx t=ky b gf rss c)(h':BLe P bx bx'):BLe P bx (upd bx' t (ky b gf rss c)):=fun u x hx=>by
 rw[fB]at hx;split at hx
 ·rename_i e;subst e;rw[<-h]at hx;exact⟨x,hx,rfl,ip.refl P _,.inr Z⟩
 ·exact h' u x hx
theorem xr{t b:Nat}{gf:Nat->OwnRef}(h':BLe P bx bx'):BLe P bx (upd bx' t (ky b gf [] 0)):=fun u x hx=>by
 rw[fB]at hx;split at hx
 ·rw[famB_zero (by simp[dw])]at hx;cases hx
 ·exact h' u x hx
end
theorem InvH.famNil{P:Program}{C:Ctx}{M:Mem}{w:World}{bx:Nat->Option Box}{ob:Nat->Option Obj}(e:TypeId)(gf:Nat->OwnRef)(h:InvH P C M ⟨bx,ob⟩ w):InvH P C M ⟨bx,fU e gf [] ob⟩ w:=
 h.less (fun _ _ hx=>hx) (famNil_le e gf ob)
section
variable{P:Program}{C:Ctx}{M:Mem}{H:Heap}{w:World}
theorem InvH.freezeAll{bx:Nat->Option Box}{ob:Nat->Option Obj}{e:TypeId}{gf:Nat->OwnRef}{rss:List (List (List PV))}(h:InvH P C M ⟨bx,fU e gf rss ob⟩ w):∀n,n<=rss.length->
  ∃M' ob',M.le M'/\InvH P C M' ⟨bx,ob'⟩ w/\(∀t,t<br->ob' t=ob t)/\(∀i,n<=i->ob' (br+i)=fU e gf rss ob (br+i))/\
   ∀i rs,i<n->rss[i]? =some rs->Rep P M' true (.list e rs) ((gf i).val rs.length)
 |0,_=>⟨M,_,Mem.le_refl M,h,fun t ht=>famO_low ht,fun i _=>rfl,fun i rs hi=>by omega⟩
 |n+1,hn=>by
  obtain⟨M1,ob1,hle1,h1,ha,hb,hc⟩:=InvH.freezeAll h n (by omega)
  obtain⟨rs,hrs⟩:∃rs,rss[n]? =some rs:=⟨rss[n],ze (by omega)⟩
  have hx:=hb n (Nat.le_refl n);rw[ft hrs]at hx
  obtain⟨M2,hle2,h2,hr⟩:=h1.freezeO (tag:=br+n) (x:=⟨gf n,e,rs,true⟩) hx
  refine⟨M2,_,Mem.le_trans hle1 hle2,h2,fun t ht=>?_,fun i hi=>?_,fun i rs' hi hrs'=>?_⟩
  ·rw[gE _ _ (by omega)];exact ha t ht
  ·rw[gE _ _ (by omega)];exact hb i (by omega)
  ·by_cases hin:i=n
   ·subst hin;rw[hrs]at hrs';cases hrs';exact hr
   ·exact Rep.mono hle2 (hc i rs' (by omega) hrs')
theorem InvH.freezeFam{bx:Nat->Option Box}{ob:Nat->Option Obj}{t e e' b c:Nat}{gf:Nat->OwnRef}{rss:List (List (List PV))}(h:InvH P C M ⟨bx,fU e gf rss ob⟩ w)(hb:bx t=ky b gf rss c)
  {T:TT} (hT:T.Ok P) {ei:TInfo} (hei:T.get e'=some ei) (hsz:ei.size=1) (hby:rss.length*ei.bytes<=2^47) (hmx:rss.length<=maxLen):
  ∃M',M.le M'/\InvH P C M' ⟨upd bx t none,fU e gf [] ob⟩ w/\Rep P M' true (.list e' (rss.map fun rs=>[.list e rs])) (kN b rss.length c):=by
 obtain⟨M1,ob1,hle1,h1,ha,_,hc⟩:=h.freezeAll rss.length (Nat.le_refl _)
 obtain⟨i,hi,hs,hbs,_⟩:=(hT.get hei).info
 have hless:∀{M:Mem} {bx:Nat->Option Box},InvH P C M ⟨bx,ob1⟩ w->InvH P C M ⟨bx,fU e gf [] ob⟩ w:=fun h=>h.less (fun _ _ hx=>hx) (fun u x hx=>by
  have hx:fU e gf [] ob u=some x:=hx;unfold fU at hx;cases hq:Nat.ble br u with
  |true=>rw[hq]at hx;simp at hx
  |false=>
   rw[hq]at hx
   have:u<br:=by
    rcases Nat.lt_or_ge u br with h|h
    ·exact h
    ·rw[show Nat.ble br u=true from by rw[Nat.ble_eq];exact h]at hq;cases hq
   show ob1 u=some x;rw[ha u this];exact hx)
 rcases Nat.eq_zero_or_pos (dw rss.length c)with h0|h0
 ·have hnil:rss=[]:=List.length_eq_zero_iff.1 (by have:=lF rss.length c;omega);subst hnil
  refine⟨M1,hle1,(hless h1).less (fun u x hx=>?_) (fun _ _ hx=>hx),?_⟩
  ·simp only[fB]at hx;split at hx
   ·cases hx
   ·exact hx
  ·rw[famV_zero h0];simp only[Rep]
   exact⟨none,0,i,by simp,by simp,by simp,hi,by simp,by simp⟩
 ·rw[tM h0]at hb
  -- the box,its slices frozen
  obtain⟨hmine,⟨cs,e0,hcs,hr⟩,hnone⟩:=(h1.boxes t _ hb).cells (tE _ _ _)
  let cells':List PV:=rss.map (fun rs=>PV.list e rs)++List.replicate (dw rss.length c-rss.length) (.val (.slice none 0 0))
  have hr':av P M1 true cells' cs.toList:=by
   have key:∀(l:List (List (List PV))) (k:Nat) (r:List PV) (xs:List Value),(∀j rs,l[j]? =some rs->Rep P M1 true (.list e rs) ((gf (k+j)).val rs.length))->
     av P M1 true (l.mapIdx (fun j rs=>PV.own (br+(k+j)) (gf (k+j)) rs.length)++r) xs->av P M1 true (l.map (fun rs=>PV.list e rs)++r) xs:=by
    intro l;induction l with
    |nil=>intro k r xs _ h;simpa using h
    |cons a l ih=>
     intro k r xs hl h;simp only[List.mapIdx_cons,List.cons_append,av,List.map_cons]at h⊢
     obtain⟨x,ys,rfl,hx,hy⟩:=h
     refine⟨x,ys,rfl,?_,ih (k+1) r ys (fun j rs hj=>?_) ?_⟩
     ·simp only[Rep,Nat.add_zero]at hx;rw[hx.2];exact hl 0 a Z
     ·have:=hl (j+1) rs (by simpa using hj)
      rwa [show k+(j+1)=k+1+j from by omega]at this
     ·have e:(fun(j:Nat) (rs:List (List PV))=>PV.own (br+(k+(j+1))) (gf (k+(j+1))) rs.length)=fun j rs=>PV.own (br+(k+1+j)) (gf (k+1+j)) rs.length:=by
       funext j rs;rw[show k+(j+1)=k+1+j from by omega]
      rw[<-e];exact hy
   refine key rss 0 _ _ (fun j rs hj=>?_) ?_
   ·rw[Nat.zero_add];exact hc j rs (zg.1 hj).1 hj
   ·simpa[gD]using hr
  have h2:InvH P C M1 ⟨upd bx t (some ⟨b,cells'⟩),ob1⟩ w:=by
   have key:∀u x,upd bx t (some ⟨b,cells'⟩) u=some x->(u=t/\x=⟨b,cells'⟩)\/(u≠t/\bx u=some x):=by
    intro u x hx;rw[fB]at hx;split at hx
    ·rename_i e;exact .inl ⟨e,(Option.some.inj hx).symm⟩
    ·rename_i e;exact .inr ⟨e,hx⟩
   refine⟨h1.mem,h1.ext,h1.new,h1.os,h1.tape,h1.output,h1.size,h1.frame,fun u x hx=>?_,h1.objs,fun u u' x x' hx hx' hbb=>?_,h1.dobj,fun u u' x x' hx hx' hbb=>?_⟩
   ·rcases key u x hx with⟨_,rfl⟩|⟨_,hx⟩
    ·exact⟨hmine,⟨_,hcs,hr'⟩,hnone⟩
    ·exact h1.boxes u x hx
   ·rcases key u x hx with⟨q1,q2⟩|⟨_,hy⟩<;>rcases key u' x' hx' with⟨q3,q4⟩|⟨_,hy'⟩
    ·rw[q1,q3]
    ·subst q1;subst q2;exact h1.dbox _ u' _ x' hb hy' hbb
    ·subst q3;subst q4;exact h1.dbox u _ x _ hy hb hbb
    ·exact h1.dbox u u' x x' hy hy' hbb
   ·rcases key u x hx with⟨q1,q2⟩|⟨_,hy⟩
    ·subst q1;subst q2;exact h1.dmix _ u' _ x' hb hx' hbb
    ·exact h1.dmix u u' x x' hy hx' hbb
  have hfl:∀l:List PV,(∀p∈l,p.froz=true)->PV.frozL l=true:=by
   intro l;induction l with
   |nil=>intro _;rfl
   |cons a l ih=>intro h;simp[PV.frozL,h a (by simp),ih fun p hp=>h p (by simp[hp])]
  obtain⟨M2,hle2,h3,hra⟩:=h2.freezeB (tag:=t) (x:=⟨b,cells'⟩) (ie _ _ _) (hfl _ (fun p hp=>by
    rcases List.mem_append.1 hp with hp|hp
    ·obtain⟨rs,_,rfl⟩:=List.mem_map.1 hp;rfl
    ·rw[List.eq_of_mem_replicate hp];rfl)) (List.all_eq_true.2 fun p hp=>by
    rcases List.mem_append.1 hp with hp|hp
    ·obtain⟨rs,_,rfl⟩:=List.mem_map.1 hp;rfl
    ·rw[List.eq_of_mem_replicate hp];rfl)
  refine⟨M2,Mem.le_trans hle1 hle2,(hless h3).less (fun u x hx=>?_) (fun _ _ hx=>hx),?_⟩
  ·simp only[fB]at hx⊢;split at hx
   ·cases hx
   ·rename_i q;simp only[zy q];exact hx
  ·rw[ot h0];simp only[Rep]
   refine⟨some ⟨b,0,none⟩,dw rss.length c,i,by simp,by simpa using lF _ _,famCap_le _ hmx,hi,by rw[zl,hbs];exact hby,fun _=>⟨b,0,rfl,?_⟩⟩
   have hs1:i.size=1:=by rw[hs];exact hsz
   rw[hs1];refine dZ.of_flat (fun r hr=>?_) ?_
   ·obtain⟨rs,_,rfl⟩:=List.mem_map.1 hr;rfl
   ·rw[flat_single]
    have:=eg.take rss.length hra
    have e2:(cells').take rss.length=rss.map (fun rs=>PV.list e rs):=by
     show(rss.map (fun rs=>PV.list e rs)++_).take rss.length=_
     rw[List.take_append_of_le_length (by simp)];exact List.take_of_length_le (by simp)
    rw[e2]at this;exact this
end
section
variable{P:Program}{T:TT}{w:World}{C:Ctx}{M:Mem}
theorem wz(t ty e e0:TypeId)(i:TypeInfo)(ht:P.underlying t=some (.slice e))(hi:P.info? e=some i)
  (g sLen sCap:Nat) (cur:Array Value) (hg:w.heap[g]? =some (.cells cur e0 (0,0)))
  (a:Addr) (m c:Nat) (news:List Value) (hl:news.length=m*i.size) (hnews:∀j u,news[j]? =some u->w.cell? (a.add j)=some u) (h1:∀u∈news,u.oneCell'=true)
  (hroom:sLen+m<=sCap) (hfit:sLen*i.size+news.length<=cur.size):
  (Builtin.append_ #[t,t] ty #[.slice (some ⟨g,0,none⟩) sLen sCap,.slice (some a) m c]).run P w=
   .ok (.slice (some ⟨g,0,none⟩) (sLen+m) sCap) (w.setRow g (cur.toList.take (sLen*i.size)++news++cur.toList.drop (sLen*i.size+news.length)).toArray):=by
 have hf:=run_firstCells_some (P:=P) w i.size m a m c news hl hnews;have hst:=run_storeCells_at P g (sLen*i.size) e0 news 0 cur w hg (by simpa using hfit) h1;simp only[Nat.add_zero]at hst;simp[Builtin.append_,run_underlying ht,sizeOf,typeInfo,hi,Builtin.lenOf,hroom,hf,Addr.add_lit,hst]
theorem repNils{k:Nat}{P:Program}{M:Mem}:av P M true (List.replicate k (.val (.slice none 0 0))) (List.replicate k (Value.slice none 0 0)):=by
 induction k with
 |zero=>simp[av]
 |succ k ih=>simp only[List.replicate_succ,av];exact⟨_,_,rfl,by simp[Rep],ih⟩
theorem zeroNils(k:Nat):(Builtin.zeroCells #[Value.slice none 0 0] k).toList=List.replicate k (Value.slice none 0 0):=by
 unfold Builtin.zeroCells;rw[nc];induction k with
 |zero=>rfl
 |succ k ih=>rw[List.replicate_succ,List.flatten_cons,ih];rfl
def ni(gf:Nat->OwnRef)(rss:List (List (List PV))):List PV:=rss.mapIdx fun i rs=>PV.own (br+i) (gf i) rs.length
theorem qR{gf:Nat->OwnRef}{rss:List (List (List PV))}:(ni gf rss).length=rss.length:=by simp[ni]
theorem sL{gf:Nat->OwnRef}{rss:List (List (List PV))}{c:Nat}:gD gf rss c=ni gf rss++List.replicate (dw rss.length c-rss.length) (.val (.slice none 0 0)):=rfl
theorem po{gf:Nat->OwnRef}{rss:List (List (List PV))}{c:Nat}{g:OwnRef}:gD (upd gf rss.length g) (rss++[[]]) c=
  ni gf rss++(.own (br+rss.length) g 0::List.replicate (dw (rss.length+1) c-(rss.length+1)) (.val (.slice none 0 0))):=by
 have h:ni (upd gf rss.length g) (rss++[[]])=ni gf rss++[.own (br+rss.length) g 0]:=by
  unfold ni;rw[List.mapIdx_append];congr 1
  ·apply List.ext_getElem?;intro j;simp only[List.getElem?_mapIdx];by_cases hj:j<rss.length
   ·rw[gE _ _ (by omega)]
   ·rw[List.getElem?_eq_none (by omega)];rfl
  ·simp[ie]
 rw[sL,h];simp
theorem ue{bx:Nat->Option Box}{ob:Nat->Option Obj}{t0 b e c:Nat}{gf:Nat->OwnRef}{rss:List (List (List PV))}(hT:T.Ok P){ei2:TInfo}(hei2:T.get e=some ei2)
  (h:InvH P C M ⟨upd bx t0 (some ⟨b,gD (upd gf rss.length ⟨none,0⟩) (rss++[[]]) c⟩),fU e gf rss ob⟩ w):
  InvH P C M ⟨upd bx t0 (ky b (upd gf rss.length ⟨none,0⟩) (rss++[[]]) c),fU e (upd gf rss.length ⟨none,0⟩) (rss++[[]]) ob⟩ w:=by
 rw[tM (Nat.lt_of_lt_of_le (by simp) (lF _ _))]
 refine(h.nilobj hT (br+rss.length) hei2).less (fun _ _ hx=>hx) (fun t x hx=>?_)
 have hx:fU e (upd gf rss.length ⟨none,0⟩) (rss++[[]]) ob t=some x:=hx;unfold fU at hx;cases hq:Nat.ble br t with
 |false=>
  rw[hq]at hx
  have ht:t<br:=by
   rcases Nat.lt_or_ge t br with h|h
   ·exact h
   ·rw[show Nat.ble br t=true from by rw[Nat.ble_eq];exact h]at hq;cases hq
  show upd (fU e gf rss ob) _ _ t=some x;rw[gE _ _ (by omega),famO_low ht];exact hx
 |true=>
  rw[hq]at hx;have hle:=Nat.le_of_ble_eq_true hq;simp only[zc,Option.map_eq_some_iff]at hx
  obtain⟨rs,h1,rfl⟩:=hx
  show upd (fU e gf rss ob) _ _ t=_;by_cases hj:t=br+rss.length
  ·subst hj;rw[ie];rw[show br+rss.length-br=rss.length from by omega]at h1⊢;simp at h1;rw[ie,<-h1]
  ·rw[gE _ _ hj];have h2:=(zg.1 h1).1;simp at h2;have h3:t-br<rss.length:=by omega
   rw[List.getElem?_append_left h3]at h1
   have:=ft (e:=e) (gf:=gf) (ob:=ob) h1
   rw[show br+(t-br)=t from by omega]at this;rw[this,gE _ _ (by omega)]
theorem appendFam_core{bx:Nat->Option Box}{ob:Nat->Option Obj}{t0 b e e' c:Nat}{gf:Nat->OwnRef}{rss:List (List (List PV))}(hi:InvH P C M ⟨bx,fU e gf rss ob⟩ w)(hb:bx t0=ky b gf rss c)(hT:T.Ok P)
  {t ty:TypeId} {ti ei ei2:TInfo} (hti:T.get t=some ti) (hd:ti.desc= .slice e') (hei:T.get e'=some ei) (hsz:ei.size=1) (hz:ei.zero.cells=#[.slice none 0 0]) (hei2:T.get e=some ei2)
  {v:Value} (hv:Rep P M true (.list e' [[.val (.slice none 0 0)]]) v) (hby:(rss.length+1)*ei.bytes<=2^47) (hmx:rss.length+1<=maxLen):
  ∃b' c' w',(Builtin.append_ #[t,t] ty #[kN b rss.length c,v]).run P w= .ok (kN b' (rss.length+1) c') w'/\
   InvH P C M ⟨upd bx t0 (ky b' (upd gf rss.length ⟨none,0⟩) (rss++[[]]) c'),fU e (upd gf rss.length ⟨none,0⟩) (rss++[[]]) ob⟩ w':=by
 obtain⟨i,sa,c0,news,hinf,rfl,_,hnl,_,hcells,hrep,hone⟩:=list_src hi hv
 obtain⟨i',hinf',hs,hbs,hzero⟩:=(hT.get hei).info
 rw[hinf]at hinf';cases hinf';have hs1:i.size=1:=by rw[hs];exact hsz
 have hnews:news=[.slice none 0 0]:=by
  simp only[List.flatten_cons,List.flatten_nil,List.append_nil,av,Rep]at hrep
  obtain⟨x,xs,rfl,rfl,rfl⟩:=hrep
  rfl
 subst hnews;have hu:=(hT.get hti).und;rw[hd]at hu
 obtain⟨a,rfl,hac⟩:=hcells (by simp)
 have h63:((rss.length+1:Nat):Int)<=9223372036854775807:=by unfold maxLen at hmx;omega
 have hby':(rss.length+1)*i.bytes<=140737488355328:=by rw[hbs];exact hby
 have hcap:=lF rss.length c;rcases Nat.eq_zero_or_pos (dw rss.length c)with h0|h0
 ·have hnil:rss=[]:=List.length_eq_zero_iff.1 (by omega);subst hnil;have hg:=run_append_nil (P:=P) w t ty e' i ei.zero hu hinf hzero a 1 c0 [.slice none 0 0] hnl hac (by omega) (by simp) (by simp at hby';omega);have hge:=grownCap_ge w 1 0 e';have hgm:grownCap w 1 0 e'<=maxLen:=grownCap_le_maxLen w 1 0 e' (by simpa using hmx)
  refine⟨w.heap.size,grownCap w 1 0 e',_,?_,ue hT hei2 ((show InvH P C M _ w.drew from hi.drew).alloc_box t0 _ (#[.slice none 0 0]++Builtin.zeroCells ei.zero.cells (grownCap w 1 0 e'-1)) e' ?_)⟩
  ·rw[famV_zero h0];simp only[List.length_singleton];rw[hg,ot (by show 0<dw 1 _;rw[mm hge hgm];omega)];show _=Result.ok (Value.slice _ 1 (dw 1 _)) _;rw[mm hge hgm]
  ·rw[po];simp only[List.length_nil,ni,List.mapIdx_nil,List.nil_append,av]
   refine⟨.slice none 0 0,(Builtin.zeroCells ei.zero.cells (grownCap w 1 0 e'-1)).toList,by rw[Array.toList_append];rfl,by simp[Rep,OwnRef.val],?_⟩
   rw[hz,zeroNils];show av P M true (List.replicate (dw 1 _-1) _) _;rw[mm hge hgm];exact repNils
 ·rw[tM h0]at hb
  obtain⟨hmine,⟨cur,e0,hcur,hr⟩,hnone⟩:=(hi.boxes t0 _ hb).cells (tE _ _ _)
  have hsize:cur.size=dw rss.length c:=by
   have:=hr.length
   rw[rl]at this;simpa using this
  have hl2:ni gf rss=(gD gf rss c).take rss.length:=by
   rw[sL,List.take_append_of_le_length (by rw[qR];exact Nat.le_refl _),<-qR (gf:=gf) (rss:=rss),List.take_length]
  have hrt:av P M true (ni gf rss) (cur.toList.take rss.length):=by rw[hl2];exact hr.take _
  by_cases hroom:rss.length+1<=dw rss.length c
  ·have hr2:=wz (P:=P) (w:=w) t ty e' e0 i hu hinf b rss.length (dw rss.length c) cur hcur a 1 c0 [.slice none 0 0] hnl hac hone hroom (by rw[hs1];simp;omega);have hce:dw (rss.length+1) (dw rss.length c)=dw rss.length c:=mm hroom (famCap_le _ (by omega))
   refine⟨b,dw rss.length c,_,?_,ue hT hei2 (hi.set_box t0 _ hb (tE _ _ _) _ (cur.toList.take (rss.length*i.size)++[Value.slice none 0 0]++cur.toList.drop (rss.length*i.size+[Value.slice none 0 0].length)).toArray ?_)⟩
   ·rw[ot h0];simp only[List.length_singleton];rw[hr2,ot (by rw[hce];exact h0),hce];rfl
   ·rw[po,hce];simp only[hs1,Nat.mul_one,List.append_assoc];refine hrt.append ?_;simp only[List.singleton_append,av,List.length_singleton]
    refine⟨_,_,rfl,by simp[Rep,OwnRef.val],?_⟩
    have:=hr.drop (rss.length+1)
    rw[sL,List.drop_append,qR,List.drop_of_length_le (by rw[qR];omega),List.nil_append,List.drop_replicate]at this
    rwa [show dw rss.length c-rss.length-(rss.length+1-rss.length)=dw rss.length c-(rss.length+1)from by omega]at this
  ·have holdlen:(cur.toList.take rss.length).length=rss.length*i.size:=by rw[hs1];simp;omega
   have holds:∀(j:Nat) (v:Value),(cur.toList.take rss.length)[j]? =some v->w.cell? ((⟨b,0,none⟩:Addr).add j)=some v:=by
    intro j v hj;rw[dS,cell_of_row w b (0+j) cur e0 (0,0) hcur];rw[List.getElem?_take]at hj;split at hj
    ·simpa using hj
    ·cases hj
   have hr2:=run_append_grow (P:=P) w t ty e' i ei.zero hu hinf hzero ⟨b,0,none⟩ rss.length (dw rss.length c) _ holdlen holds a 1 c0 [.slice none 0 0] hnl hac (by omega) h63 (growslice_fits (by omega) hby');have hge:=grownCap_ge w (rss.length+1) (dw rss.length c) e';have hgm:grownCap w (rss.length+1) (dw rss.length c) e'<=maxLen:=grownCap_le_maxLen w _ _ e' hmx
   refine⟨w.heap.size,grownCap w (rss.length+1) (dw rss.length c) e',_,?_,ue hT hei2 ((show InvH P C M _ w.drew from hi.drew).alloc_box t0 _ ((cur.toList.take rss.length).toArray++#[.slice none 0 0]++Builtin.zeroCells ei.zero.cells (grownCap w (rss.length+1) (dw rss.length c) e'-(rss.length+1))) e' ?_)⟩
   ·rw[ot h0];simp only[List.length_singleton];rw[hr2,ot (by rw[mm hge hgm];omega),mm hge hgm]
   ·rw[po];simp only[Array.toList_append,List.append_assoc];refine hrt.append ?_;simp only[List.singleton_append,av]
    refine⟨_,_,rfl,by simp[Rep,OwnRef.val],?_⟩
    rw[hz,zeroNils,mm hge hgm];exact repNils
end
section
variable{P:Program}{T:TT}{ops:Array Oper}{rest:List Oper}{o:Oper}{n:Nat}{s s':Nat->PV}{bx:Nat->Option Box}{ob:Nat->Option Obj}{K:PState->Prop}
theorem xu(t0 e:Nat)(hT:T.Ok P)(hg:aF ops s o=some true){x y:Operand}{t:TypeId}(ho:o.op= .call {callee:= .builtin .append,args:=#[x,y],argTypes:=#[t,t]}){d:Nat}(hdst:o.dst=some d)(hlt:Nat.blt d n=true){ti ei ei2:TInfo}{e':TypeId}
  (hti:T.get t=some ti) (hd:ti.desc= .slice e') (hei:T.get e'=some ei) (hsz:ei.size=1) (hz:ei.zero.cells=#[.slice none 0 0]) (hei2:T.get e=some ei2) {b c m:Nat} {gf:Nat->OwnRef} {rss:List (List (List PV))} (hx:evS s x= .val (kN b m c)) (hm:m=rss.length)
  (hy:evS s y= .list e' [[.val (.slice none 0 0)]]) (hb:bx t0=ky b gf rss c) (hby:(rss.length+1)*ei.bytes<=2^47) (hmx:rss.length+1<=maxLen)
  (h:∀b' c',Ao P ops rest ⟨n,upd s d (.val (kN b' (m+1) c')),upd bx t0 (ky b' (upd gf m ⟨none,0⟩) (rss++[[]]) c'),fU e (upd gf m ⟨none,0⟩) (rss++[[]]) ob⟩ K):
  Ao P ops (o::rest) ⟨n,s,bx,fU e gf rss ob⟩ K:=by
 subst hm;refine ff hg (K:=K) ?_;intro C M a w next Q hi he hn
 have hxr:=he x (by rw[ho];simp[Op.operands,Call.operands]);have hyr:=he y (by rw[ho];simp[Op.operands,Call.operands]);rw[hx]at hxr;rw[hy]at hyr;simp only[Rep]at hxr
 obtain⟨b',c',w',hrun,hi'⟩:=appendFam_core (ty:=o.type) hi hb hT hti hd hei hsz hz hei2 hyr hby hmx
 have hrun':(execOp a.eval o).run P w= .ok (.value (kN b' (rss.length+1) c')) w':=by
  simp only[execOp,ho,resolve,Sem.run_bind,Sem.run_pure,Result.andThen_ok,invoke,builtin,List.map_toArray,List.map_cons,List.map_nil,hxr];rw[hrun];rfl
 unfold Oper.wp;rw[hrun'];exact hn _ (.val (kN b' (rss.length+1) c')) _ M w' ⟨_,by simp[hdst,putD,hlt],h b' c'⟩ (Mem.le_refl M) hi' (by simp[Rep])
theorem wU(t0:Nat)(hT:T.Ok P)(hg:aF ops s o=some true){t:TypeId}{x i:Operand}(ho:o.op= .indexAddr t x i){ti ei:TInfo}{e':TypeId}(hti:T.get t=some ti)(hd:ti.desc= .slice e')(hei:T.get e'=some ei)(hes:ei.size=1)
  {b c m:Nat} (hx:evS s x= .val (kN b m c)) {kk:IntKind} {j:Int} (hi:evS s i= .val (.int kk j)) (hj:0<=j/\j.toNat<m) (hp:putD n s o.dst (.box t0 b j.toNat)=some s') (h:Ao P ops rest ⟨n,s',bx,ob⟩ K):Ao P ops (o::rest) ⟨n,s,bx,ob⟩ K:=by
 have hpos:0<dw m c:=Nat.lt_of_lt_of_le (by omega) (lF _ _);rw[ot hpos]at hx;refine vK hg ?_ hp h;intro C M a w hiv he;have hxr:=he x (by rw[ho];simp[Op.operands]);have hir:=he i (by rw[ho];simp[Op.operands]);rw[hx]at hxr;rw[hi]at hir;simp only[Rep]at hxr hir;have hu:=(hT.get hti).rund w;rw[hd]at hu;have hsz:=(hT.get hei).rsize w
 refine⟨.pointer (some ⟨b,j.toNat,none⟩),?_,by simp[Rep]⟩
 have h2:j<(m:Int):=by omega
 simp[execOp,ho,Instr.indexAt,hir,hxr,asIntOf,hu,hj.1,h2,hsz,hes,dS]
theorem xw(t0 e:Nat)(hT:T.Ok P)(hg:aF ops s o=some true){t e':TypeId}{ps:Array (Nat×Operand)}(ho:o.op= .buildSlice t 1 ps){d:Nat}(hdst:o.dst=some d)(hlt:Nat.blt d n=true){ti ei2:TInfo}(hti:T.get t=some ti)(hd:ti.desc= .slice e')
  (hr:mD T e' 1 (jd (evS s) ps)=some [[.val (.slice none 0 0)]]) (hei2:T.get e=some ei2)
  (h:∀b' c',Ao P ops rest ⟨n,upd s d (.val (kN b' 1 c')),upd bx t0 (ky b' (fun _=>⟨none,0⟩) [[]] c'),fU e (fun _=>⟨none,0⟩) [[]] ob⟩ K):
  Ao P ops (o::rest) ⟨n,s,bx,ob⟩ K:=by
 refine ff hg (K:=K) ?_;intro C M a w next Q hi he hn
 obtain⟨i,cs,hinf,hrun,hrep,hone,hlen,hrl,hcs,hby,hn16⟩:=bs_run hT hti hd hr w (fun x hx=>he x (by rw[ho];simpa[Op.operands]using hx))
 unfold Oper.wp
 have hrun':(execOp a.eval o).run P w= .ok (.value (kN w.heap.size 1 1)) (w.alloc (.cells cs e')):=by
  simp only[execOp,ho,Sem.run_bind,hrun];rfl
 rw[hrun'];simp only[List.flatten_cons,List.flatten_nil,List.append_nil,av,Rep]at hrep
 obtain⟨x,xs,hcc,rfl,rfl⟩:=hrep
 have h0:InvH P C M ⟨bx,fU e (fun _=>⟨none,0⟩) [] ob⟩ w:=InvH.famNil e _ hi;have hg0:upd (fun _=>(⟨none,0⟩:OwnRef)) 0 ⟨none,0⟩=fun _=>⟨none,0⟩:=by funext t;rw[fB];split<;>rfl
 have hrc:av P M true (gD (upd (fun _=>(⟨none,0⟩:OwnRef)) ([]:List (List (List PV))).length ⟨none,0⟩) ([]++[[]]) 1) cs.toList:=by
  rw[po,hcc];simp only[List.length_nil,ni,List.mapIdx_nil,List.nil_append,av];have e1:dw (0+1) 1=1:=mm (Nat.le_refl _) (by unfold maxLen;omega);rw[e1]
  exact⟨_,_,rfl,by simp[Rep,OwnRef.val],by simp[av]⟩
 have h2:=h0.alloc_box t0 _ cs e' hrc;have h1:=ue (b:=w.heap.size) (c:=1) (t0:=t0) (gf:=fun _=>(⟨none,0⟩:OwnRef)) (rss:=[]) hT hei2 h2;simp only[List.length_nil,hg0,List.nil_append]at h1;exact hn _ (.val (kN w.heap.size 1 1)) _ M _ ⟨_,by simp[hdst,putD,hlt],h w.heap.size 1⟩ (Mem.le_refl M) h1 (by simp[Rep])
theorem xf{fn:Func}{R:PV->Heap->Prop}{ks:List KI}(d t0:Nat)(hT:T.Ok P){e e' b c m:Nat}{ei:TInfo}(hei:T.get e'=some ei)(hes:ei.size=1){gf:Nat->OwnRef}{rss:List (List (List PV))}{rows:List (List PV)}(hs:s d= .val (kN b m c))(hm:m=rss.length)
  (hb:bx t0=ky b gf rss c) (hby:rss.length*ei.bytes<=2^47) (hmx:rss.length<=maxLen) (hrows:rows=rss.map fun rs=>[.list e rs]) (h:V P fn R ks ⟨n,upd s d (.list e' rows),upd bx t0 none,fU e gf [] ob⟩):V P fn R ks ⟨n,s,bx,fU e gf rss ob⟩:=by
 subst hm;subst hrows;refine cv ?_ h;intro C M a w hi
 obtain⟨M',hle,hi',hr⟩:=hi.2.freezeFam hb hT hei hes hby hmx
 refine⟨M',⟨hi.1.1,hi.1.2.1,fun t=>?_⟩,hi'⟩
 have:=hi.1.2.2 t
 simp only at this;simp only[fB];split
 ·rename_i e;subst e;rw[hs]at this;simp only[Rep]at this;rw[this];exact hr
 ·exact Rep.mono hle this
end
section
variable{P:Program}{T:TT}{ops:Array Oper}{rest:List Oper}{o:Oper}{n:Nat}{s:Nat->PV}{bx:Nat->Option Box}{ob:Nat->Option Obj}{K:PState->Prop}{fn:Func}{R:PV->Heap->Prop}{k:List KI}{st:PState}{rb:RB}{L:List Nat}{kk:Nat}
theorem PLe.valOwn(P:Program)(tag:Nat)(g:OwnRef)(len:Nat):PLe P (.val (g.val len)) (.own tag g len):=fun M x h=>by
 simp only[Rep]at h⊢
 exact⟨trivial,h⟩
theorem PLe.ownVal(P:Program)(tag:Nat)(g:OwnRef)(len:Nat):PLe P (.own tag g len) (.val (g.val len)):=fun M x h=>by
 simp only[Rep]at h⊢;exact h.2
end
section
variable{P:Program}{n:Nat}{s:Nat->PV}{bx:Nat->Option Box}{ob:Nat->Option Obj}{T:TT}
theorem Gh.nilOB(hT:T.Ok P)(tag k otag:Nat){e:TypeId}{ei:TInfo}(hei:T.get e=some ei){b:Nat}{cells cells':List PV}(hb:bx tag=some ⟨b,cells⟩)(hk:cells[k]? =some (.val (.slice none 0 0)))
  (hf:gF (cells.set k (.own otag ⟨none,0⟩ 0))=some cells') (hok:okS cells=true:=by exact Z):Gh P ⟨n,s,bx,ob⟩ ⟨n,s,upd bx tag (some ⟨b,cells'⟩),upd ob otag (some ⟨⟨none,0⟩,e,[],true⟩)⟩:=by
 rw[eH,zo]at hf;subst hf;intro C M a w hi;have h1:=hi.2.nilobj hT otag hei
 refine⟨M,hi.1,?_⟩
 refine h1.recell (tag:=tag) hb (fun xs hx=>hx.set hk fun x hx=>?_) hok;simp only[Rep]at hx⊢
 exact⟨trivial,by rw[hx];rfl⟩
theorem HSub.updB{tag:Nat}{v:Option Box}(h:bx tag=none):HSub ⟨bx,ob⟩ ⟨upd bx tag v,ob⟩:=by
 refine⟨fun t x hx=>?_,fun _ _ hx=>hx⟩
 show upd bx tag v t=some x;rw[fB];split
 ·rename_i e;subst e;rw[show bx t=some x from hx]at h;cases h
 ·exact hx
end
section
variable{P:Program}{C:Ctx}{M:Mem}{H:Heap}{w:World}
open Classical in
def ownAll(H:Heap)(w:World):List Nat:=(List.range w.heap.size).filter fun b=>decide ((∃t x,H.bx t=some x/\x.b=b)\/∃t x,H.ob t=some x/\x.g.blk=some b)
end
def Fr(ro:Option Nat):Fence:={Fence.wide with round:=ro}
section
variable{P:Program}{ops:Array Oper}{Q Qx:Exit->Act->World->Prop}{ro:Option Nat}
end
section
variable{P:Program}{ops:Array Oper}{Q Qx:Exit->Act->World->Prop}{ro:Option Nat}
end
section
variable{P:Program}{lo:Nat}{G:PState->Prop}{st:PState}
end
section
variable{P:Program}
end
section
variable{P:Program}{ops:Array Oper}{rest:List Oper}{o:Oper}{n:Nat}{s s':Nat->PV}{bx:Nat->Option Box}{ob:Nat->Option Obj}{K:PState->Prop}{T:TT}{rb:RB}{k:Nat}{L:List Nat}
theorem qF(hop:ops[k]? =some o)(hg:aF ops s o=some true){fx:Operand}{av0:Array Operand}{ts:Array TypeId}(ho:o.op= .call {callee:= .value fx,args:=av0,argTypes:=ts}){g:FuncId}{caps:List PV}
  (hf:evS s fx= .fn g caps) (hcall:∀vs w,(callFunc g vs).run P w= .ok (.enter g vs) w) (hsx:rb.sx=true) (hna:noAlloc ops=true) (mb mo:List (Nat×Nat)) (hb1:cK (mb.map Prod.fst)=true) (hb2:cK (mb.map Prod.snd)=true) (ho1:cK (mo.map Prod.fst)=true) (ho2:cK (mo.map Prod.snd)=true)
  {args:List PV} (hle:ip P (av0.toList.map (evS s)++caps) args) {Hin:Heap} (hin:Hin=⟨pg bx mb,nU ob mo⟩) {R:PV->Heap->Prop} (hc:PH P g args Hin R)
  (h:∀u H',R u H'->∃s',putD n s o.dst u=some s'/\Do P T rb ops L ⟨n,s',rc bx mb H'.bx,nX ob mo H'.ob⟩ K) (hst:(mb.all fun p=>!rb.st p.1)=true:=by rfl):Do P T rb ops (k::L) ⟨n,s,bx,ob⟩ K:=by
 refine⟨o,hop,true,hg,?_⟩
 simp only[if_true,ho,dW];refine .inl ⟨hsx,hna,vh ho hf hcall mb mo hb1 hb2 ho1 ho2 hle (hin▸hc) fun u H' hR=>⟨fun t ht=>?_,h u H' hR⟩⟩;show rc bx mb H'.bx t=bx t;unfold rc;split
 ·rename_i q hq;have h1:=List.all_eq_true.1 hst q (List.mem_of_find?_eq_some hq);have h2:=List.find?_some hq;rw[Nat.eq_of_beq_eq_true h2,ht]at h1;cases h1
 ·rfl
end
section
variable{P:Program}{ops:Array Oper}{rest:List Oper}{o:Oper}{n:Nat}{s s':Nat->PV}{bx:Nat->Option Box}{ob:Nat->Option Obj}{K:PState->Prop}{T:TT}{rb:RB}{k:Nat}{L:List Nat}
theorem wy(hop:ops[k]? =some o)(hg:aF ops s o=some true){fx:Operand}{av0:Array Operand}{ts:Array TypeId}(ho:o.op= .call {callee:= .value fx,args:=av0,argTypes:=ts}){g:FuncId}{caps:List PV}
  (hf:evS s fx= .fn g caps) (hcall:∀vs w,(callFunc g vs).run P w= .ok (.enter g vs) w) (hpc:rb.pc=false) (mo:List (Nat×Nat)) (ho1:cK (mo.map Prod.fst)=true) (ho2:cK (mo.map Prod.snd)=true)
  {args:List PV} (hle:ip P (av0.toList.map (evS s)++caps) args) {Hin:Heap} (hin:Hin=⟨fun _=>none,nU ob mo⟩) {R:PV->Heap->Prop} (hc:PH P g args Hin R)
  (h:∀u H',R u H'->∃q s',PLe P u q/\putD n s o.dst q=some s'/\Do P T rb ops L ⟨n,s',bx,nX ob mo H'.ob⟩ K):Do P T rb ops (k::L) ⟨n,s,bx,ob⟩ K:=by
 refine⟨o,hop,true,hg,?_⟩
 simp only[if_true,ho,dW];right;intro bx' C M a w next Q hi he hn
 refine vh (K:=fun u H=>∃q s',PLe P u q/\putD n s o.dst q=some s'/\H.bx=bx'/\Do P T rb ops L ⟨n,s',bx,H.ob⟩ K) ho hf hcall [] mo Z Z ho1 ho2 hle (hin▸hc) (fun u H' hR=>?_) C M a w next Q hi he ?_
 ·obtain⟨q,s',h1,h2,h3⟩:=h u H' hR
  exact⟨q,s',h1,h2,rfl,h3⟩
 ·rintro v u H' M' w' ⟨q,s',h1,h2,h3,h4⟩ hM hi' hr;exact hn v q H' M' w' ⟨h3,fun hx=>(by rw[hpc,Bool.false_and]at hx;cases hx),s',h2,h4⟩ hM hi' (h1 _ _ hr)
end
def vO:Op->Bool
 | .move _| .assign _| .load .. | .fieldAddr .. | .field .. | .unOp .. | .build .. | .extract .. | .nilCheck _| .convert .. | .makeFunc ..=>true
 | .binOp .quo _ _ _ _| .binOp .rem _ _ _ _| .binOp .shl _ _ _ _| .binOp .shr _ _ _ _=>false
 | .binOp ..=>true
 |_=>false
def qrun(T:TT)(ops:Array Oper)(n:Nat)(bx:Nat->Option Box):List Oper->(Nat->PV)->Option (List Oper×(Nat->PV))
 |[],s=>some ([],s)
 |o::l,s=>match vO o.op with
  |true=>match pl T ops n s bx o with
   |some s'=>qrun T ops n bx l s'
   |none=>some (o::l,s)
  |false=>some (o::l,s)
def qrun1(T:TT)(ops:Array Oper)(n:Nat)(bx:Nat->Option Box):List Oper->(Nat->PV)->Option (List Oper×(Nat->PV))
 |[],_=>none
 |o::l,s=>match vO o.op with
  |true=>match pl T ops n s bx o with
   |some s'=>qrun T ops n bx l s'
   |none=>none
  |false=>none
def drun(T:TT)(rb:RB)(ops:Array Oper)(n:Nat)(bx:Nat->Option Box):List Nat->(Nat->PV)->Option (List Nat×(Nat->PV))
 |[],s=>some ([],s)
 |k::l,s=>match(match ops[k]? with|some o=>vO o.op|none=>false)with
  |true=>match dstep T rb ops k n s bx with
   |some s'=>drun T rb ops n bx l s'
   |none=>some (k::l,s)
  |false=>some (k::l,s)
def drun1(T:TT)(rb:RB)(ops:Array Oper)(n:Nat)(bx:Nat->Option Box):List Nat->(Nat->PV)->Option (List Nat×(Nat->PV))
 |[],_=>none
 |k::l,s=>match(match ops[k]? with|some o=>vO o.op|none=>false)with
  |true=>match dstep T rb ops k n s bx with
   |some s'=>drun T rb ops n bx l s'
   |none=>none
  |false=>none
section
variable{P:Program}{T:TT}{rb:RB}{ops:Array Oper}{n:Nat}{bx:Nat->Option Box}{ob:Nat->Option Obj}{K:PState->Prop}
theorem Ao.qr0(hT:T.Ok P){rest:List Oper}{s':Nat->PV}(h:Ao P ops rest ⟨n,s',bx,ob⟩ K):∀{l:List Oper} {s:Nat->PV},qrun T ops n bx l s=some (rest,s')->Ao P ops l ⟨n,s,bx,ob⟩ K:=by
 intro l;induction l with
 |nil=>intro s hq;simp only[qrun,zo,Prod.mk.injEq]at hq;obtain⟨rfl,rfl⟩:=hq;exact h
 |cons o l ih=>
  intro s hq;rw[qrun]at hq;split at hq
  ·split at hq
   ·exact aD hT (by assumption) (ih hq)
   ·cases hq;exact h
  ·cases hq;exact h
theorem Ao.qr{l rest:List Oper}{s s':Nat->PV}(hT:T.Ok P)(hq:qrun1 T ops n bx l s=some (rest,s'))(h:Ao P ops rest ⟨n,s',bx,ob⟩ K):Ao P ops l ⟨n,s,bx,ob⟩ K:=by
 cases l with
 |nil=>cases hq
 |cons o l=>
  rw[qrun1]at hq;split at hq
  ·split at hq
   ·exact aD hT (by assumption) (Ao.qr0 hT h hq)
   ·cases hq
  ·cases hq
theorem Do.qr0{rest:List Nat}{s':Nat->PV}(h:Do P T rb ops rest ⟨n,s',bx,ob⟩ K):∀{l:List Nat} {s:Nat->PV},drun T rb ops n bx l s=some (rest,s')->Do P T rb ops l ⟨n,s,bx,ob⟩ K:=by
 intro l;induction l with
 |nil=>intro s hq;simp only[drun,zo,Prod.mk.injEq]at hq;obtain⟨rfl,rfl⟩:=hq;exact h
 |cons o l ih=>
  intro s hq;rw[drun]at hq;split at hq
  ·split at hq
   ·exact jm (by assumption) (ih hq)
   ·cases hq;exact h
  ·cases hq;exact h
theorem Do.qr{l rest:List Nat}{s s':Nat->PV}(hq:drun1 T rb ops n bx l s=some (rest,s'))(h:Do P T rb ops rest ⟨n,s',bx,ob⟩ K):Do P T rb ops l ⟨n,s,bx,ob⟩ K:=by
 cases l with
 |nil=>cases hq
 |cons o l=>
  rw[drun1]at hq;split at hq
  ·split at hq
   ·exact jm (by assumption) (Do.qr0 h hq)
   ·cases hq
  ·cases hq
end
theorem go{p q:Prop}(k:q)(h:q->p:=by intro k;(repeat first|refine al ?_|refine Ao.qr U Z ?_|refine ao ?_|refine ah ?_|refine Do.qr Z ?_|refine dE ?_|refine el ?_|refine bd Z ?_|refine aE ?_|refine xa ?_ Z|refine ic U (zl _) ?_|refine iQ U ?_|refine aD U Z ?_|refine aK U ?_|refine xj Z Z Z Z Z Z (zl _) Z ?_|refine kP ?_|refine jm Z ?_);exact k):p:=h k
theorem gB{p q:Prop}(k:q)(h:q->p:=by intro k;(repeat first|refine al ?_|refine Ao.qr U Z ?_|refine ao ?_|refine ah ?_|refine Do.qr Z ?_|refine dE ?_|refine el ?_|refine bd Z ?_|refine aE ?_|refine xa ?_ Z|refine ic U (zl _) ?_|refine iQ U ?_|refine aD U Z ?_|refine aK U ?_|refine xj Z Z Z Z Z Z (zl _) Z ?_|refine kP ?_|refine jm Z ?_|refine bC ?_);exact k):p:=h k
def isLoop:Code->Bool
 | .loop _=>true
 |_=>false
theorem xa{P:Program}{fn:Func}{R:PV->Heap->Prop}{k:List KI}{st:PState}{id:Nat}{c:Code}(h:V P fn R (.code c:: .blk id::k) st)(_hn:isLoop c=false):V P fn R (.code (.block id c)::k) st:=aG h
theorem aB{P:Program}{ops:Array Oper}{o:Oper}{rest:List Oper}{n:Nat}{s:Nat->PV}{bx:Nat->Option Box}{ob:Nat->Option Obj}{K:PState->Prop}{α β:Type}{x:Option α}{f:α->Option β}{r:β}{en:α->PV}{S':PV->Nat->PV}{fx:Operand}{av0:Array Operand}{ts:Array TypeId}{g:FuncId}{caps:List PV}
  (hcall:∀vs w,(callFunc g vs).run P w= .ok (.enter g vs) w) {args:List PV} (hle:ip P (av0.toList.map (evS s)++caps) args) (hc:∀y,x=some y->aC P g args (en y)) (H:aa x f=some r)
  (h:∀y,f y=some r->Ao P ops rest ⟨n,S' (en y),bx,ob⟩ K) (ho:o.op= .call {callee:= .value fx,args:=av0,argTypes:=ts}:=by exact Z) (hg:aF ops s o=some true:=by exact Z) (hf:evS s fx= .fn g caps:=by exact Z) (hp:∀u,putD n s o.dst u=some (S' u):=by intro u;exact Z):Ao P ops (o::rest) ⟨n,s,bx,ob⟩ K:=by
 obtain⟨y,hy,H⟩:=aA H
 exact uc hg ho hf hcall hle (hc y hy) (hp _) (h y H)
theorem bU{P:Program}{T:TT}{rb:RB}{ops:Array Oper}{o:Oper}{kk:Nat}{L:List Nat}{n:Nat}{s:Nat->PV}{bx:Nat->Option Box}{ob:Nat->Option Obj}{K:PState->Prop}{α β:Type}{x:Option α}{f:α->Option β}{r:β}{en:α->PV}{S':PV->Nat->PV}{fx:Operand}{av0:Array Operand}{ts:Array TypeId}{g:FuncId}{caps:List PV}
  (hcall:∀vs w,(callFunc g vs).run P w= .ok (.enter g vs) w) {args:List PV} (hle:ip P (av0.toList.map (evS s)++caps) args) (hc:∀y,x=some y->aC P g args (en y)) (H:aa x f=some r)
  (h:∀y,f y=some r->Do P T rb ops L ⟨n,S' (en y),bx,ob⟩ K) (hk:ops[kk]? =some o:=by exact Z) (ho:o.op= .call {callee:= .value fx,args:=av0,argTypes:=ts}:=by exact Z) (hg:aF ops s o=some true:=by exact Z) (hf:evS s fx= .fn g caps:=by exact Z) (hp:∀u,putD n s o.dst u=some (S' u):=by intro u;exact Z):Do P T rb ops (kk::L) ⟨n,s,bx,ob⟩ K:=by
 obtain⟨y,hy,H⟩:=aA H
 exact wX hk hg ho hf hcall hle (hc y hy) (hp _) (h y H)
theorem lvR{σ β:Type}{fl fb:Flow σ β}{kk:σ->Option β}{v r:β}{G:Prop}(H:some (Flow.ret v)=some fb)(hg:G)(Hp:fl.thenR kk=some r)(e:fb= .ret v->G->fl= .ret v:=by intro e g;subst e;exact g):v=r:=by
 have:=e (ay H).symm hg;subst this;exact thenR_ret Hp
theorem lvF{σ τ β:Type}{fl fb:Flow σ β}{kk:σ->Option (Flow τ β)}{v:β}{r:Flow τ β}{G:Prop}(H:some (Flow.ret v)=some fb)(hg:G)(Hp:fl.thenF kk=some r)(e:fb= .ret v->G->fl= .ret v:=by intro e g;subst e;exact g):some (Flow.ret (σ:=τ) v)=some r:=by
 have:=e (ay H).symm hg;subst this;exact congrArg some (thenF_ret Hp).symm
theorem lvJ{σ β:Type}{fl:Flow σ β}{kk:σ->Option β}{v r:β}(H:some (Flow.ret v)=some fl)(Hp:fl.thenR kk=some r):v=r:=by
 cases ay H;exact thenR_ret Hp
theorem lvK{σ τ β:Type}{fl:Flow σ β}{kk:σ->Option (Flow τ β)}{v:β}{r:Flow τ β}(H:some (Flow.ret v)=some fl)(Hp:fl.thenF kk=some r):some (Flow.ret (σ:=τ) v)=some r:=by
 cases ay H;exact congrArg some (thenF_ret Hp).symm
theorem bG{P:Program}{fn:Func}{R:PV->Heap->Prop}{k:List KI}{st:PState}{c:Operand}{x y:Code}{b:Bool}(hc:evS st.s c= .val (.bool b)){α β:Type}{A B r:α}{v w:β}(H:(bif b then A else B)=r)(e:A=r->v=w)(hf:B=r->V P fn R (.code y::k) st)
  (ht:v=w->V P fn R (.code x::k) st:=by(intro e;refine go ?_;first|exact pW U e Z|exact vD U e Z Z Z Z Z)):V P fn R (.code (.cond c x y)::k) st:=aI hc H (fun h=>ht (e h)) hf
theorem na{P:Program}{fn:Func}{R:PV->Heap->Prop}{k:List KI}{st:PState}{c:Operand}{x y:Code}{b:Bool}(hc:evS st.s c= .val (.bool b)){α β:Type}{A B r:α}{v v' w w':β}(H:(bif b then A else B)=r)(e:A=r->v=w)(e':B=r->v'=w')
  (ht:v=w->V P fn R (.code x::k) st:=by(intro e;refine go ?_;first|exact pW U e Z|exact vD U e Z Z Z Z Z))
  (hf:v'=w'->V P fn R (.code y::k) st:=by(intro e;refine go ?_;first|exact pW U e Z|exact vD U e Z Z Z Z Z)):V P fn R (.code (.cond c x y)::k) st:=aI hc H (fun h=>ht (e h)) (fun h=>hf (e' h))
theorem wA{P:Program}{fn:Func}{R:PV->Heap->Prop}{k:List KI}{st:PState}{c:Operand}{x y:Code}{b:Bool}(hc:evS st.s c= .val (.bool b)){α:Type}{A B r:α}(H:(bif b then A else B)=r)(hf:B=r->V P fn R (.code y::k) st)
  (ht:A=r->V P fn R (.code x::k) st:=by(intro H;refine go ?_;exact cJ () H (by assumption) (by assumption))):V P fn R (.code (.cond c x y)::k) st:=aI hc H ht hf
theorem ple{P:Program}{ps qs:List PV}(h:ip P ps qs:=by(first|exact ip.r|(refine ip.of2 ?_;repeat(first|exact ku.nil|refine ku.cons ?_ ?_|exact PLe2.boxT|exact PLe2.of_eq Z|exact PLe2.own Z|exact PLe2.nil U Z|refine PLe2.agg ?_|refine PLe2.tup ?_)))):ip P ps qs:=h
theorem gr{P:Program}{p q:PV}(h:PLe P p q:=by(first|exact PLe.q Z|(refine PLe.of2 ?_;repeat(first|exact ku.nil|refine ku.cons ?_ ?_|exact PLe2.boxT|exact PLe2.of_eq Z|exact PLe2.own Z|exact PLe2.nil U Z|refine PLe2.agg ?_|refine PLe2.tup ?_)))):PLe P p q:=h
section
variable{P:Program}{T:TT}{rb:RB}{ops:Array Oper}{o:Oper}{rest:List Oper}{kk:Nat}{L:List Nat}{n:Nat}{s:Nat->PV}{bx:Nat->Option Box}{ob:Nat->Option Obj}{K:PState->Prop}
theorem ec{α β:Type}{f f':α->List PV}{xs:List α}{i:Int}{kf:α->Option β}{r:β}{S':PV->Nat->PV}{t:TypeId}{x y:Operand}{ti:TInfo}{e:TypeId}{k:IntKind}(hT:T.Ok P)(hE:∀x,f' x=f x)(H:aa (ax xs i) kf=some r)(h:∀x,kf x=some r->Ao P ops rest ⟨n,S' (.ptr (f x)),bx,ob⟩ K)
  (ho:o.op= .indexAddr t x y:=by exact Z) (hg:aF ops s o=some true:=by exact Z) (hti:T.get t=some ti:=by exact Z) (hd:ti.desc= .slice e:=by exact Z) (hx:evS s x= .list e (xs.map f'):=by exact Z) (hi:evS s y= .val (.int k i):=by exact Z) (hp:∀u,putD n s o.dst u=some (S' u):=by intro u;exact Z):Ao P ops (o::rest) ⟨n,s,bx,ob⟩ K:=by
 obtain⟨a,q,H⟩:=eC H
 exact qx hT hg ho hti hd hx hi q.1 (dJ hE q.2) (hp _) (h a H)
theorem bl{α β:Type}{f f':α->List PV}{xs:List α}{i:Int}{kf:α->Option β}{r:β}{S':PV->Nat->PV}{t:TypeId}{x y:Operand}{ti:TInfo}{e:TypeId}{k:IntKind}(hE:∀x,f' x=f x)(H:aa (ax xs i) kf=some r)(h:∀x,kf x=some r->Do P T rb ops L ⟨n,S' (.ptr (f x)),bx,ob⟩ K)
  (hk:ops[kk]? =some o:=by exact Z) (ho:o.op= .indexAddr t x y:=by exact Z) (hg:aF ops s o=some true:=by exact Z) (hti:T.get t=some ti:=by exact Z) (hd:ti.desc= .slice e:=by exact Z) (hx:evS s x= .list e (xs.map f'):=by exact Z) (hi:evS s y= .val (.int k i):=by exact Z) (hp:∀u,putD n s o.dst u=some (S' u):=by intro u;exact Z):Do P T rb ops (kk::L) ⟨n,s,bx,ob⟩ K:=by
 obtain⟨a,q,H⟩:=eC H
 exact wW hk hg ho hti hd hx hi q.1 (dJ hE q.2) (hp _) (h a H)
theorem gU{fx:Operand}{av0:Array Operand}{ts:Array TypeId}{g:FuncId}{caps:List PV}(hcall:∀vs w,(callFunc g vs).run P w= .ok (.enter g vs) w)(mb mo:List (Nat×Nat)){args:List PV}{Hin:Heap}{R:PV->Heap->Prop}(hc:PH P g args Hin R)
  (h:∀u H',R u H'->∃s',putD n s o.dst u=some s'/\Ao P ops rest ⟨n,s',rc bx mb H'.bx,nX ob mo H'.ob⟩ K)
  (ho:o.op= .call {callee:= .value fx,args:=av0,argTypes:=ts}:=by exact Z) (hg:aF ops s o=some true:=by exact Z) (hf:evS s fx= .fn g caps:=by exact Z) (hb1:cK (mb.map Prod.fst)=true:=by exact Z) (hb2:cK (mb.map Prod.snd)=true:=by exact Z) (ho1:cK (mo.map Prod.fst)=true:=by exact Z) (ho2:cK (mo.map Prod.snd)=true:=by exact Z)
  (hle:ip P (av0.toList.map (evS s)++caps) args:=by exact ple) (hin:Hin=⟨pg bx mb,nU ob mo⟩:=by((repeat rw[dU]);rw[dI];(repeat rw[bB]);rw[cP];rfl)):Ao P ops (o::rest) ⟨n,s,bx,ob⟩ K:=
 fL hg ho hf hcall mb mo hb1 hb2 ho1 ho2 hle hin hc h
theorem fm{α β:Type}{f:α->List PV}{xs ys:List α}{b:Nat}{kf:List α->Option β}{r:β}{x y:Operand}{t:TypeId}{d:Nat}{ti ei:TInfo}{e:TypeId}{tag:Nat}{g:OwnRef}{len:Nat}{rows2:List (List PV)}{wr:Bool}(hT:T.Ok P)(H:aa (cE b xs ys) kf=some r)
  (h:∀zs g',kf zs=some r->Ao P ops rest ⟨n,upd s d (.own tag g' (zs.map f).length),bx,upd ob tag (some ⟨g',e,zs.map f,wr⟩)⟩ K)
  (ho:o.op= .call {callee:= .builtin .append,args:=#[x,y],argTypes:=#[t,t]}:=by exact Z) (hg:aF ops s o=some true:=by exact Z) (hdst:o.dst=some d:=by exact Z) (hlt:Nat.blt d n=true:=by exact Z) (hti:T.get t=some ti:=by exact Z) (hd:ti.desc= .slice e:=by exact Z) (hei:T.get e=some ei:=by exact Z)
  (hz:Nat.beq ei.zero.cells.size ei.size=true:=by exact Z) (hsz:Nat.blt 0 ei.size=true:=by exact Z) (hx:evS s x= .own tag g len:=by exact Z) (hob:ob tag=some ⟨g,e,xs.map f,wr⟩:=by exact Z) (hlen:len=(xs.map f).length:=by exact Z) (hy:evS s y= .list e rows2:=by exact Z) (hb:ei.bytes=b:=by exact Z) (hle:iW P rows2 (ys.map f):=by exact iW.refl _):Ao P ops (o::rest) ⟨n,s,bx,ob⟩ K:=by
 subst hb
 obtain⟨zs,hq,H'⟩:=aA H
 have k:=fZ hq;exact lE hT hg ho hdst hlt hti hd hei hz hsz hx hob hlen hy hle (jD k.1) (jC k.2.1) (jz k.2.2) fun g'=>h zs g' H'
theorem eA(bx':Nat->Option Box)(ob':Nat->Option Obj)(h:Ao P ops rest ⟨n,s,bx',ob'⟩ K)(hb:BLe P bx bx':=by((repeat refine aZ Z (ip.r) ?_);exact aV))(ho:OLe ob ob':=by((repeat refine bJ ?_);exact aU)):Ao P ops rest ⟨n,s,bx,ob⟩ K:=
 iT (Gh.le (il _ _) hb ho) h
end
section
variable{P:Program}{fn:Func}{R:PV->Heap->Prop}{k:List KI}{n:Nat}{s:Nat->PV}{bx:Nat->Option Box}{ob:Nat->Option Obj}{T:TT}
theorem bK(rb:RB)(L:List Nat){id:Nat}{ops:Array Oper}(h:Do P T rb ops L ⟨n,s,bx,ob⟩ fun st'=>V P fn R k st')(hT:T.Ok P:=by exact U)(hmix:P.follows .mixedOrders=true:=by exact mok)(hL:L.length=ops.size:=by exact Z)
  (hok:drawOk rb ops L=true:=by decide+kernel) (hal:(ops.toList.all fun o=>match o.op with| .alloc t=>(match o.dst with|some d=>Nat.blt d n&&(bx d).isNone&&(T.get t).isSome|none=>false)|_=>true)=true:=by exact Z):V P fn R (.code (.region id ops true)::k) ⟨n,s,bx,ob⟩:=iA hT hmix rb L hL hok hal h
theorem gH{ps:List PV}{r:PV}(hT:T.Ok P)(h:resT s fn.results.toList=some ps)(hu:PLe P (nZ ps) r):V P fn (fun u H=>u=r/\H=Heap.empty) (.code .ret::k) ⟨n,s,bx,ob⟩:=lH hT Z (tZ h) hu
theorem hO{ps:List PV}{u:PV}(hT:T.Ok P)(h:resT s fn.results.toList=some ps)(hR:R u ⟨bx,ob⟩)(hu:PLe P (nZ ps) u:=by exact gr):V P fn R (.code .ret::k) ⟨n,s,bx,ob⟩:=rr hT Z (tZ h) hu hR
end
theorem fS{p:Prop}(h:p:=by(refine go ?_;exact V.rS U H Z)):p:=h
theorem fN{p:Prop}(h:p:=by(refine go ?_;exact cJ () H (by assumption) (by assumption))):p:=h
theorem fA{p:Prop}(h:p:=by(refine go ?_;first|exact fc _ () H Gh.d|exact fc _ () (ay H) Gh.d)):p:=h
theorem fE{p:Prop}{α:Type}{v w:α}(e:v=w)(h:v=w->p:=by intro e;refine go ?_;exact pW U e Z):p:=h e
theorem ut{l:List (List PV)}(p:Nat)(h:∀r∈l,r.length=1):(l.take p).flatten=l.flatten.take p:=by
 induction l generalizing p with
 |nil=>simp
 |cons r l ih=>
  cases p with
  |zero=>simp
  |succ p=>
   match r,h r (by simp)with
   |[z],_=>simp[ih p fun r hr=>h r (List.mem_cons_of_mem _ hr)]
theorem flat1_drop{l:List (List PV)}(p:Nat)(h:∀r∈l,r.length=1):(l.drop p).flatten=l.flatten.drop p:=by
 induction l generalizing p with
 |nil=>simp
 |cons r l ih=>
  cases p with
  |zero=>simp
  |succ p=>
   match r,h r (by simp)with
   |[z],_=>simp[ih p fun r hr=>h r (List.mem_cons_of_mem _ hr)]
theorem uR{l:List (List PV)}(h:∀r∈l,r.length=1):l.flatten.length=l.length:=by
 induction l with
 |nil=>rfl
 |cons r l ih=>rw[List.flatten_cons,List.length_append,h r (by simp),ih fun r hr=>h r (List.mem_cons_of_mem _ hr),List.length_cons];omega
section
variable{P:Program}{T:TT}
theorem eff_copyO(hT:T.Ok P){o:Oper}{ev:Operand->PV}{H:Heap}{x y:Operand}{t t':TypeId}(ho:o.op= .call {callee:= .builtin .copy,args:=#[x,y],argTypes:=#[t,t']}){ti ei:TInfo}{e:TypeId}(hti:T.get t=some ti)(hd:ti.desc= .slice e)(hei:T.get e=some ei)(hes:ei.size=1)
  {tag tag2:Nat} {g g2:OwnRef} {rows rows2:List (List PV)} {wr2:Bool} (hob:H.ob tag=some ⟨g,e,rows,true⟩) (hob2:H.ob tag2=some ⟨g2,e,rows2,wr2⟩) {p h m q h2 m2:Nat}
  (hx:ev x= .val (g.sub ei.size p h m)) (hy:ev y= .val (g2.sub ei.size q h2 m2)) (hp:p<=rows.length) {cnt:Nat} (hc0:0<cnt) (hcnt:Nat.min (h2-q) (h-p)=cnt) (hq2:q+cnt<=rows2.length) (hpc:p+cnt<=g.cap) (hm:h<=m) (hm2:h2<=m2)
  {rows':List (List PV)} (hrows:rows.take p++(rows2.drop q).take cnt++rows.drop (p+cnt)=rows') (hby:rows'.length*ei.bytes<=2^47)
  {K:PV->Heap->Prop} (hk:K (.val (.int .i64 cnt)) ⟨H.bx,upd H.ob tag (some ⟨g,e,rows',true⟩)⟩):Eff P o ev H K:=by
 intro C M a w next Q hi he hn
 have hxr:=he x (by rw[ho];simp[Op.operands,Call.operands]);have hyr:=he y (by rw[ho];simp[Op.operands,Call.operands]);rw[hx]at hxr;rw[hy]at hyr;simp only[Rep]at hxr hyr
 obtain⟨i,g1,gg2,g3,g4⟩:=hi.objs tag _ hob
 obtain⟨i2,f1,_,f3,f4⟩:=hi.objs tag2 _ hob2
 obtain⟨i',g5,g6,gb,_⟩:=(hT.get hei).info
 simp only at g1 gg2 g3 g4 f1 f3 f4;rw[g1]at g5;cases g5;rw[g1]at f1;cases f1;have hi1:i.size=1:=by rw[g6,hes]
 have hu:=(hT.get hti).und;rw[hd]at hu;have hmin1:cnt<=h2-q:=by rw[<-hcnt];exact Nat.min_le_left _ _
 have hmin2:cnt<=h-p:=by rw[<-hcnt];exact Nat.min_le_right _ _
 rcases f4 with⟨_,f5,_⟩|⟨b2,cur2,fb2,_,fcur2,fcs2,flc2,_,fcr2,f1c2,_⟩
 ·rw[f5]at hq2;simp at hq2;omega
 rcases g4 with⟨_,g7,g8⟩|⟨b,cur,hb,_,hcur,hcs,hlc,hcm,hcr,h1c,hw1,hw2⟩
 ·rw[g8]at hpc;simp at hpc;omega
 rw[hi1,Nat.mul_one]at hcs hcr h1c fcs2 fcr2 f1c2;have g3':∀r∈rows,r.length=1:=fun r hr=>by rw[g3 r hr,hi1]
 have f3':∀r∈rows2,r.length=1:=fun r hr=>by rw[f3 r hr,hi1]
 have ex:g.sub ei.size p h m= .slice (some ⟨b,p,none⟩) (h-p) (m-p):=by
  unfold OwnRef.sub;rw[zy (by omega),hb,hes];simp[dS]
 have ey:g2.sub ei.size q h2 m2= .slice (some ⟨b2,q,none⟩) (h2-q) (m2-q):=by
  unfold OwnRef.sub;rw[zy (by omega),fb2,hes];simp[dS]
 obtain⟨news,hnews⟩:∃news,news=((cur2.toList.take rows2.length).drop q).take cnt:=⟨_,rfl⟩
 have hold2:(cur2.toList.take rows2.length).length=rows2.length:=by rw[fcr2.length,uR f3']
 have hnl:news.length=cnt:=by rw[hnews,List.length_take,List.length_drop,hold2];omega
 have hsrc:∀j v,news[j]? =some v->w.cell? ((⟨b2,q,none⟩:Addr).add j)=some v:=by
  intro j u hj;rw[dS,cell_of_row w b2 (q+j) cur2 e (0,0) fcur2];rw[hnews,List.getElem?_take]at hj;split at hj
  ·rw[List.getElem?_drop,List.getElem?_take]at hj;split at hj
   ·simpa using hj
   ·cases hj
  ·cases hj
 have hone:∀u∈news,u.oneCell'=true:=fun u hu'=>f1c2 u (by rw[hnews]at hu';exact List.mem_of_mem_drop (List.mem_of_mem_take hu'))
 have hrun:=run_copy_row (P:=P) w t t' o.type e b p (h-p) (m-p) ⟨b2,q,none⟩ (h2-q) (m2-q) cur e news hu (by rw[g1];simp[hi1]) hcur (by rw[hnl];exact hcnt.symm) hsrc (by rw[hnl,hcs];exact hpc) hone
 have hrun':(execOp a.eval o).run P w= .ok (.value (.int .i64 cnt)) (w.setRow b (cur.toList.take p++news++cur.toList.drop (p+news.length)).toArray):=by
  simp only[execOp,ho,resolve,Sem.run_bind,Sem.run_pure,Result.andThen_ok,invoke,builtin,List.map_toArray,List.map_cons,List.map_nil,hxr,hyr];rw[ex,ey,hrun,hnl];rfl
 unfold Oper.wp;rw[hrun'];have hold:(cur.toList.take rows.length).length=rows.length:=by rw[hcr.length,uR g3']
 have hcl:rows.length<=cur.toList.length:=by rw[List.length_take]at hold;omega
 have hcs':cur.toList.length=g.cap:=by rw[Array.length_toList];exact hcs
 have hrl:rows'.length=max rows.length (p+cnt):=by
  rw[<-hrows];simp only[List.length_append,List.length_take,List.length_drop];omega
 have hseg:((rows2.drop q).take cnt).flatten=(rows2.flatten.drop q).take cnt:=by
  rw[ut _ fun r hr=>f3' r (List.mem_of_mem_drop hr),flat1_drop _ f3']
 have hlist:(cur.toList.take p++news++cur.toList.drop (p+news.length)).take rows'.length=(cur.toList.take rows.length).take p++news++(cur.toList.take rows.length).drop (p+cnt):=by
  rw[hnl,hrl,List.take_append,List.take_of_length_le (by rw[List.length_append,hnl,List.length_take];omega),List.length_append,hnl,List.length_take,Nat.min_eq_left (by omega),List.take_take,Nat.min_eq_left hp];congr 1;rw[List.drop_take];congr 1;omega
 have hrep:av P M false rows'.flatten ((cur.toList.take rows.length).take p++news++(cur.toList.take rows.length).drop (p+cnt)):=by
  rw[<-hrows,List.flatten_append,List.flatten_append,ut _ g3',flat1_drop _ g3',hseg,hnews]
  exact((hcr.take _).append ((fcr2.drop _).take _)).append (hcr.drop _)
 refine hn _ _ _ M _ hk (Mem.le_refl M) (hi.set_obj tag _ hob b hb rows' true (cur.toList.take p++news++cur.toList.drop (p+news.length)).toArray i g1 (by rw[gb];exact hby) ?_ ?_ ?_ hcm ?_ ?_ ?_ (fun _=>hw1 trivial) (fun o' _=>hw1 trivial o')) (by simp[Rep])
 ·intro r hr;rw[hi1];rw[<-hrows]at hr;rcases List.mem_append.1 hr with hr|hr
  ·rcases List.mem_append.1 hr with hr|hr
   ·exact g3' r (List.mem_of_mem_take hr)
   ·exact f3' r (List.mem_of_mem_drop (List.mem_of_mem_take hr))
  ·exact g3' r (List.mem_of_mem_drop hr)
 ·rw[hi1,Nat.mul_one];simp only[List.size_toArray,List.length_append,List.length_take,List.length_drop,hnl,hcs'];omega
 ·rw[hrl];simp only;omega
 ·rw[hi1,Nat.mul_one];simp only;rw[hlist];exact hrep
 ·rw[hi1,Nat.mul_one];simp only;rw[hlist];intro v hv;rcases List.mem_append.1 hv with hv|hv
  ·rcases List.mem_append.1 hv with hv|hv
   ·exact h1c v (List.mem_of_mem_take hv)
   ·exact hone v hv
  ·exact h1c v (List.mem_of_mem_drop hv)
 ·intro o' v' hm';rw[hw1 trivial o']at hm';cases hm'
theorem eff_appendCM(hT:T.Ok P){o:Oper}{ev:Operand->PV}{H:Heap}{x y:Operand}{t u:TypeId}(ho:o.op= .call {callee:= .builtin .append,args:=#[x,y],argTypes:=#[t,u]}){ti ei ui:TInfo}{e:TypeId}(hti:T.get t=some ti)(hd:ti.desc= .slice e)(hei:T.get e=some ei)(hes:ei.size=1)
  (hui:T.get u=some ui) {kn:IntKind} (hud:ui.desc= .int kn) (hz:Nat.beq ei.zero.cells.size ei.size=true) (hz1:(cq ei).all PV.one=true) {tag:Nat} {g:OwnRef} {rows:List (List PV)} {wr:Bool} (hob:H.ob tag=some ⟨g,e,rows,wr⟩) {j k:Nat} {kk:IntKind}
  (hx:ev x= .val (g.sub ei.size 0 j g.cap)) (hy:ev y= .val (.int kk k)) (hj:j<=rows.length) (hk:0<k) (hgrow:g.cap<j+k) (hby:(j+k)*ei.bytes<=2^47) (hmx:j+k<=maxLen) (d:Nat)
  {K:PV->Heap->Prop} (hK:∀g',K (.own d g' (rows.take j++List.replicate k (cq ei)).length) ⟨H.bx,upd H.ob d (some ⟨g',e,rows.take j++List.replicate k (cq ei),true⟩)⟩):Eff P o ev H K:=by
 intro C M a w next Q hi he hn
 have hxr:=he x (by rw[ho];simp[Op.operands,Call.operands]);have hyr:=he y (by rw[ho];simp[Op.operands,Call.operands]);rw[hx]at hxr;rw[hy]at hyr;simp only[Rep]at hxr hyr
 obtain⟨i,g1,gg2,g3,g4⟩:=hi.objs tag _ hob
 obtain⟨i',g5,g6,gb,hzero⟩:=(hT.get hei).info
 simp only at g1 gg2 g3 g4;rw[g1]at g5;cases g5;have hi1:i.size=1:=by rw[g6,hes]
 have hu:=(hT.get hti).und;rw[hd]at hu;have hu2:=(hT.get hui).und;rw[hud]at hu2;have hzs:=Nat.eq_of_beq_eq_true hz;have g3':∀r∈rows,r.length=1:=fun r hr=>by rw[g3 r hr,hi1]
 -- what stood before
 obtain⟨olds,hold,hol,holr,hol1⟩:∃olds:List Value,(Builtin.firstCells i.size j (g.sub ei.size 0 j g.cap)).run P w.drew= .ok olds.toArray w.drew/\olds.length=j/\av P M false (rows.take j).flatten olds/\∀v∈olds,v.oneCell'=true:=by
  rcases g4 with⟨g7,g8,g9⟩|⟨b,cur,hb,_,hcur,hcs,hlc,hcm,hcr,h1c,_⟩
  ·have hj0:j=0:=by rw[g8]at hj;simpa using hj
   subst hj0
   refine⟨[],?_,rfl,by simp[av],by simp⟩
   unfold OwnRef.sub;rw[g7];simp only[Option.map_none];split<;>exact run_firstCells_none _ _ _ _ _
  ·rw[hi1,Nat.mul_one]at hcs hcr h1c;have hold:(cur.toList.take rows.length).length=rows.length:=by rw[hcr.length,uR g3']
   refine⟨(cur.toList.take rows.length).take j,?_,by rw[List.length_take,hold];omega,by rw[ut _ g3'];exact hcr.take _,fun v hv=>h1c v (List.mem_of_mem_take hv)⟩
   have ex:g.sub ei.size 0 j g.cap= .slice (some ⟨b,0,none⟩) j g.cap:=by
    unfold OwnRef.sub;rw[hb];simp[dS]
   rw[ex,hi1];refine run_firstCells_some (P:=P) (w:=w.drew) 1 j ⟨b,0,none⟩ j g.cap _ (by rw[List.length_take,hold];omega) fun q v hq=>?_
   have:w.cell? ((⟨b,0,none⟩:Addr).add q)=some v:=by
    rw[dS,cell_of_row w b (0+q) cur e (0,0) hcur];rw[List.getElem?_take]at hq;split at hq
    ·rw[List.getElem?_take]at hq;split at hq
     ·simpa using hq
     ·cases hq
    ·cases hq
   exact this
 obtain⟨base,ex⟩:∃base,g.sub ei.size 0 j g.cap= .slice base j g.cap:=⟨_,by unfold OwnRef.sub;rw[Nat.sub_zero,Nat.sub_zero]⟩
 rw[ex]at hold;have hrun:=Lib.run_append_grow_zeros (P:=P) w t u o.type e i ei.zero kk kn hu hu2 g1 hzero base j g.cap olds hold k hk (by omega) hgrow (by unfold maxLen at hmx;omega) (by rw[gb];have:=Nat.mul_le_mul_right ei.bytes (show k<=j+k by omega);omega) (growslice_fits hgrow (by rw[gb];exact hby))
 have hrun':(execOp a.eval o).run P w= .ok (.value (.slice (some ⟨w.heap.size,0,none⟩) (j+k) (grownCap w (j+k) g.cap e))) (w.drew.alloc (.cells (olds.toArray++Builtin.zeroCells ei.zero.cells k++Builtin.zeroCells ei.zero.cells (grownCap w (j+k) g.cap e-(j+k))) e)):=by
  simp only[execOp,ho,resolve,Sem.run_bind,Sem.run_pure,Result.andThen_ok,invoke,builtin,List.map_toArray,List.map_cons,List.map_nil,hxr,hyr];rw[ex,hrun];rfl
 unfold Oper.wp;rw[hrun'];have hge:=grownCap_ge w (j+k) g.cap e;have hgm:grownCap w (j+k) g.cap e<=maxLen:=grownCap_le_maxLen w _ _ e hmx;have hrl:(rows.take j++List.replicate k (cq ei)).length=j+k:=by rw[List.length_append,List.length_take,List.length_replicate];omega
 have hzl:(cq ei).length=i.size:=by simp[cq,hzs,g6]
 have hzc:(Builtin.zeroCells ei.zero.cells k).toList=(List.replicate k ei.zero.cells.toList).flatten:=by
  unfold Builtin.zeroCells;exact nc ei.zero.cells k
 have hzsz:(Builtin.zeroCells ei.zero.cells k).toList.length=k:=by rw[hzc];simp[hzs,hes]
 have hrep:av P M false (List.replicate k (cq ei)).flatten (List.replicate k ei.zero.cells.toList).flatten:=mK (mq _) k
 have htake:((olds.toArray++Builtin.zeroCells ei.zero.cells k++Builtin.zeroCells ei.zero.cells (grownCap w (j+k) g.cap e-(j+k))).toList.take ((rows.take j++List.replicate k (cq ei)).length*i.size))=olds++(List.replicate k ei.zero.cells.toList).flatten:=by
  rw[hrl,hi1,Nat.mul_one,Array.toList_append,Array.toList_append,<-hzc];rw[show j+k=(olds.toArray.toList++(Builtin.zeroCells ei.zero.cells k).toList).length from by rw[List.length_append,hzsz];simp[hol]];exact List.take_left
 refine hn _ (.own d ⟨some w.heap.size,grownCap w (j+k) g.cap e⟩ (rows.take j++List.replicate k (cq ei)).length) _ M _ (hK ⟨some w.heap.size,grownCap w (j+k) g.cap e⟩) (Mem.le_refl M)
  ((show InvH P C M H w.drew from hi.drew).alloc_obj d e (rows.take j++List.replicate k (cq ei)) true _ _ i g1 ?_ ?_ ?_ ?_ hgm ?_ ?_) ?_
 ·rw[hrl,gb];exact hby
 ·intro r hr;rcases List.mem_append.1 hr with hr|hr
  ·exact g3 r (List.mem_of_mem_take hr)
  ·rw[List.eq_of_mem_replicate hr];exact hzl
 ·simp only[Array.size_append,size_zeroCells,hzs,hes,hi1,Nat.mul_one,List.size_toArray,hol];omega
 ·rw[hrl];exact hge
 ·rw[htake,List.flatten_append];exact holr.append hrep
 ·rw[htake];intro v hv;rcases List.mem_append.1 hv with hv|hv
  ·exact hol1 v hv
  ·refine av.oneCell ?_ hrep v hv;rw[List.all_eq_true]at hz1⊢;intro p hp
   obtain⟨l,hl,hp⟩:=List.mem_flatten.1 hp
   rw[List.eq_of_mem_replicate hl]at hp;exact hz1 p hp
 ·simp[Rep,OwnRef.val,hrl]
theorem eff_overlaps(hT:T.Ok P){o:Oper}{ev:Operand->PV}{H:Heap}{fx x y:Operand}{ts:Array TypeId}(ho:o.op= .call {callee:= .value fx,args:=#[x,y],argTypes:=ts}){f:FuncId}(hf:ev fx= .fn f []){fn:Func}(h1:P.funcs[f]? =some fn)(h2:(fn.name== "runtime.NumGoroutine")=false)(h3:fn.body.isNone=true)(h4:Extern.findNext fn=none)
  {tS tR:TypeId} (h5:Extern.find fn=some (Extern.SlicesOverlaps.overlaps #[tS,tS] #[tR])) {ti ei:TInfo} {e:TypeId} (hti:T.get tS=some ti) (hd:ti.desc= .slice e) (hei:T.get e=some ei) {tag tag2:Nat} (hne:tag2≠tag) {g g2:OwnRef} {rows rows2:List (List PV)} {wr wr2:Bool} {e2:TypeId}
  (hob:H.ob tag=some ⟨g,e,rows,wr⟩) (hob2:H.ob tag2=some ⟨g2,e2,rows2,wr2⟩) (hr:0<rows.length) (hr2:0<rows2.length) (hsz:ei.size=1) {ke k p hh m:Nat} (hx:ev x= .own tag2 g2 ke) (hy:ev y= .val (g.sub k p hh m))
  {K:PV->Heap->Prop} (hK:K (.val (.bool false)) H):Eff P o ev H K:=by
 intro C M a w next Q hi he hn
 have hfr:=he fx (by rw[ho];simp[Op.operands,Call.operands]);have hxr:=he x (by rw[ho];simp[Op.operands,Call.operands]);have hyr:=he y (by rw[ho];simp[Op.operands,Call.operands]);rw[hf]at hfr;rw[hx]at hxr;rw[hy]at hyr;simp only[Rep]at hfr hxr hyr
 obtain⟨cs,hv,hcaps⟩:=hfr
 have hc0:cs=#[]:=by
  simp only[av]at hcaps;exact Array.toList_eq_nil_iff.1 hcaps
 subst hc0
 obtain⟨i,g1,_,_,g4⟩:=hi.objs tag _ hob
 obtain⟨i2,f1,_,_,f4⟩:=hi.objs tag2 _ hob2
 obtain⟨i',g5,g6,_,_⟩:=(hT.get hei).info
 simp only at g1 g4 f1 f4;rw[g1]at g5;cases g5;have hi1:i.size=1:=by rw[g6,hsz]
 have hu:=(hT.get hti).und;rw[hd]at hu;rcases g4 with⟨_,g8,_⟩|⟨b,cur,hb,_,hcur,hcs,hlc,_⟩
 ·rw[g8]at hr;simp at hr
 rcases f4 with⟨_,g8,_⟩|⟨b2,cur2,hb2,_,hcur2,_⟩
 ·rw[g8]at hr2;simp at hr2
 have hbb:b2≠b:=fun e=>hne (hi.dobj tag2 tag _ _ b2 hob2 hob hb2 (by rw[e];exact hb))
 have ey:∃off,g.sub k p hh m= .slice (some ⟨b,off,none⟩) (hh-p) (m-p):=by
  unfold OwnRef.sub;rw[hb];split
  ·exact⟨0,rfl⟩
  ·exact⟨p*k,by simp[dS]⟩
 obtain⟨off,ey⟩:=ey
 have ex:g2.val ke= .slice (some ⟨b2,0,none⟩) ke g2.cap:=by unfold OwnRef.val;rw[hb2];rfl
 have hrun:=Lib.run_overlaps_apart (P:=P) w tS tR e hu ei.size (fun w=>(hT.get hei).rsize w) ⟨b2,0,none⟩ ⟨b,off,none⟩ ke g2.cap (hh-p) (m-p) hbb e2 e cur2.size cur.size
  (by unfold World.shape?;simp only;rw[hcur2]) (by unfold World.shape?;simp only;rw[hcur]) (by rw[hcs,hi1];omega) (by unfold World.frozen?;simp only;rw[hcur2];simp) (by unfold World.frozen?;simp only;rw[hcur2];simp)
 have hrun':(execOp a.eval o).run P w= .ok (.value (.bool false)) w:=by
  have hcall:(callFunc f #[g2.val ke,g.sub k p hh m]).run P w= .ok (.value (.bool false)) w:=by
   rw[run_callFunc_extern h1 h2 h3 h4 h5,ex,ey,hrun];rfl
  simp[execOp,ho,resolve,hv,Deferred.ofValue,invoke,hxr.2,hyr,hcall]
 unfold Oper.wp;rw[hrun'];exact hn _ _ _ M w hK (Mem.le_refl M) hi (by simp[Rep])
end
section
variable{P:Program}{T:TT}{ops:Array Oper}{rest:List Oper}{o:Oper}{n:Nat}{s s':Nat->PV}{bx:Nat->Option Box}{ob:Nat->Option Obj}{K:PState->Prop}{rb:RB}{kk:Nat}{L:List Nat}
theorem xe(hT:T.Ok P)(hg:aF ops s o=some true){x y:Operand}{t t':TypeId}(ho:o.op= .call {callee:= .builtin .copy,args:=#[x,y],argTypes:=#[t,t']}){ti ei:TInfo}{e:TypeId}(hti:T.get t=some ti)(hd:ti.desc= .slice e)(hei:T.get e=some ei)(hes:ei.size=1)
  {tag tag2:Nat} {g g2:OwnRef} {rows rows2:List (List PV)} {wr2:Bool} (hob:ob tag=some ⟨g,e,rows,true⟩) (hob2:ob tag2=some ⟨g2,e,rows2,wr2⟩) {p h m q h2 m2:Nat}
  (hx:evS s x= .val (g.sub ei.size p h m)) (hy:evS s y= .val (g2.sub ei.size q h2 m2)) (hp:p<=rows.length) {cnt:Nat} (hc0:0<cnt) (hcnt:Nat.min (h2-q) (h-p)=cnt) (hq2:q+cnt<=rows2.length) (hpc:p+cnt<=g.cap) (hm:h<=m) (hm2:h2<=m2)
  {rows':List (List PV)} (hrows:rows.take p++(rows2.drop q).take cnt++rows.drop (p+cnt)=rows') (hby:rows'.length*ei.bytes<=2^47) (hpd:putD n s o.dst (.val (.int .i64 cnt))=some s')
  (hK:Ao P ops rest ⟨n,s',bx,upd ob tag (some ⟨g,e,rows',true⟩)⟩ K):Ao P ops (o::rest) ⟨n,s,bx,ob⟩ K:=
 ff hg (eff_copyO hT ho hti hd hei hes hob hob2 hx hy hp hc0 hcnt hq2 hpc hm hm2 hrows hby ⟨s',hpd,hK⟩)
theorem wZ(hT:T.Ok P)(hop:ops[kk]? =some o)(hg:aF ops s o=some true){x y:Operand}{t t':TypeId}(ho:o.op= .call {callee:= .builtin .copy,args:=#[x,y],argTypes:=#[t,t']}){ti ei:TInfo}{e:TypeId}(hti:T.get t=some ti)(hd:ti.desc= .slice e)(hei:T.get e=some ei)(hes:ei.size=1)
  {tag tag2:Nat} {g g2:OwnRef} {rows rows2:List (List PV)} {wr2:Bool} (hob:ob tag=some ⟨g,e,rows,true⟩) (hob2:ob tag2=some ⟨g2,e,rows2,wr2⟩) {p h m q h2 m2:Nat}
  (hx:evS s x= .val (g.sub ei.size p h m)) (hy:evS s y= .val (g2.sub ei.size q h2 m2)) (hp:p<=rows.length) {cnt:Nat} (hc0:0<cnt) (hcnt:Nat.min (h2-q) (h-p)=cnt) (hq2:q+cnt<=rows2.length) (hpc:p+cnt<=g.cap) (hm:h<=m) (hm2:h2<=m2)
  {rows':List (List PV)} (hrows:rows.take p++(rows2.drop q).take cnt++rows.drop (p+cnt)=rows') (hby:rows'.length*ei.bytes<=2^47) (hpd:putD n s o.dst (.val (.int .i64 cnt))=some s')
  (hK:Do P T rb ops L ⟨n,s',bx,upd ob tag (some ⟨g,e,rows',true⟩)⟩ K):Do P T rb ops (kk::L) ⟨n,s,bx,ob⟩ K:=by
 refine⟨o,hop,true,hg,?_⟩
 simp only[if_true,ho,dW];right;intro bx';exact eff_copyO hT ho hti hd hei hes (H:=⟨bx',ob⟩) hob hob2 hx hy hp hc0 hcnt hq2 hpc hm hm2 hrows hby ⟨rfl,fun hh=>(by simp[pU]at hh),s',hpd,hK⟩
theorem xi(hT:T.Ok P)(hg:aF ops s o=some true){x y:Operand}{t u:TypeId}(ho:o.op= .call {callee:= .builtin .append,args:=#[x,y],argTypes:=#[t,u]}){ti ei ui:TInfo}{e:TypeId}(hti:T.get t=some ti)(hd:ti.desc= .slice e)(hei:T.get e=some ei)(hes:ei.size=1)
  (hui:T.get u=some ui) {kn:IntKind} (hud:ui.desc= .int kn) (hz:Nat.beq ei.zero.cells.size ei.size=true) (hz1:(cq ei).all PV.one=true) {tag:Nat} {g:OwnRef} {rows:List (List PV)} {wr:Bool} (hob:ob tag=some ⟨g,e,rows,wr⟩) {j k:Nat} {kq:IntKind}
  (hx:evS s x= .val (g.sub ei.size 0 j g.cap)) (hy:evS s y= .val (.int kq k)) (hj:j<=rows.length) (hk:0<k) (hgrow:g.cap<j+k) (hby:(j+k)*ei.bytes<=2^47) (hmx:j+k<=maxLen) {d:Nat} (hdst:o.dst=some d) (hlt:Nat.blt d n=true)
  (hK:∀g',Ao P ops rest ⟨n,upd s d (.own d g' (rows.take j++List.replicate k (cq ei)).length),bx,upd ob d (some ⟨g',e,rows.take j++List.replicate k (cq ei),true⟩)⟩ K):Ao P ops (o::rest) ⟨n,s,bx,ob⟩ K:=
 ff hg (eff_appendCM hT ho hti hd hei hes hui hud hz hz1 hob hx hy hj hk hgrow hby hmx d fun g'=>⟨_,by simp[hdst,putD,hlt],hK g'⟩)
theorem xg(hT:T.Ok P)(hg:aF ops s o=some true){fx x y:Operand}{ts:Array TypeId}(ho:o.op= .call {callee:= .value fx,args:=#[x,y],argTypes:=ts}){f:FuncId}(hf:evS s fx= .fn f []){fn:Func}(h1:P.funcs[f]? =some fn)(h2:(fn.name== "runtime.NumGoroutine")=false)(h3:fn.body.isNone=true)(h4:Extern.findNext fn=none)
  {tS tR:TypeId} (h5:Extern.find fn=some (Extern.SlicesOverlaps.overlaps #[tS,tS] #[tR])) {ti ei:TInfo} {e:TypeId} (hti:T.get tS=some ti) (hd:ti.desc= .slice e) (hei:T.get e=some ei) {tag tag2:Nat} (hne:tag2≠tag) {g g2:OwnRef} {rows rows2:List (List PV)} {wr wr2:Bool} {e2:TypeId}
  (hob:ob tag=some ⟨g,e,rows,wr⟩) (hob2:ob tag2=some ⟨g2,e2,rows2,wr2⟩) (hr:0<rows.length) (hr2:0<rows2.length) (hsz:ei.size=1) {ke k p hh m:Nat} (hx:evS s x= .own tag2 g2 ke) (hy:evS s y= .val (g.sub k p hh m))
  (hpd:putD n s o.dst (.val (.bool false))=some s') (hK:Ao P ops rest ⟨n,s',bx,ob⟩ K):Ao P ops (o::rest) ⟨n,s,bx,ob⟩ K:=
 ff hg (eff_overlaps hT ho hf h1 h2 h3 h4 h5 hti hd hei hne hob hob2 hr hr2 hsz hx hy ⟨s',hpd,hK⟩)
end
theorem OwnRef.sub_val(g:OwnRef)(k len:Nat):g.sub k 0 len g.cap=g.val len:=by
 unfold OwnRef.sub OwnRef.val;split
 ·simp
 ·cases g.blk<;>simp[dS]
section
variable{P:Program}{T:TT}{ops:Array Oper}{rest:List Oper}{o:Oper}{n:Nat}{s s':Nat->PV}{bx:Nat->Option Box}{ob:Nat->Option Obj}{K:PState->Prop}
theorem PLe.ownSub{tag:Nat}{g:OwnRef}{len k:Nat}:PLe P (.own tag g len) (.val (g.sub k 0 len g.cap)):=by rw[OwnRef.sub_val];exact PLe.ownVal P tag g len
theorem PLe.subOwn{tag:Nat}{g:OwnRef}{len k:Nat}:PLe P (.val (g.sub k 0 len g.cap)) (.own tag g len):=by rw[OwnRef.sub_val];exact PLe.valOwn P tag g len
theorem Ao.capO(hT:T.Ok P)(hg:aF ops s o=some true){x:Operand}{t:TypeId}{ts:List TypeId}(ho:o.op= .call {callee:= .builtin .cap,args:=#[x],argTypes:=(t::ts).toArray}){ti:TInfo}{e:TypeId}(hti:T.get t=some ti)(hd:ti.desc= .slice e)
  {tag:Nat} {g:OwnRef} {len:Nat} (hx:evS s x= .own tag g len) (hp:putD n s o.dst (.val (.int .i64 g.cap))=some s') (h:Ao P ops rest ⟨n,s',bx,ob⟩ K):Ao P ops (o::rest) ⟨n,s,bx,ob⟩ K:=by
 refine ff hg (fun C M a w next Q hi he hn=>?_);have hxr:=he x (by rw[ho];simp[Op.operands,Call.operands]);rw[show(⟨n,s,bx,ob⟩:PState).s=s from Z,hx]at hxr;simp only[Rep]at hxr;have hu:=(hT.get hti).und;rw[hd]at hu
 have hrun:(execOp a.eval o).run P w= .ok (.value (.int .i64 g.cap)) w:=by
  simp only[execOp,ho,resolve,Sem.run_bind,Sem.run_pure,Result.andThen_ok,invoke,builtin,List.map_toArray,List.map_cons,List.map_nil,hxr.2,OwnRef.val];simp[Builtin.cap_,run_underlying hu,goInt]
 unfold Oper.wp;rw[hrun];exact hn _ _ ⟨bx,ob⟩ M w ⟨s',hp,h⟩ (Mem.le_refl M) hi (by simp[Rep])
end
end
end Go.Ab

namespace Go.Proofs.YtafdcemcgfbhcaaGreatDoor
noncomputable section
open Go Go.Ab Go.Proofs.Tryz
attribute [local irreducible] V Ao Do Gh Eff PH IntKind.wrap
set_option maxRecDepth 4000
theorem ins_eq{α:Type}{l:List α}{i:Nat}(hi:i<l.length)(r:α)(z:α):(((l.take i++List.replicate (l.length+1-i) z).take i++[r]++(l.take i++List.replicate (l.length+1-i) z).drop (i+1)).take (i+1)++(l.drop i).take (l.length-i)++((l.take i++List.replicate (l.length+1-i) z).take i++[r]++(l.take i++List.replicate (l.length+1-i) z).drop (i+1)).drop (i+1+(l.length-i)))=l.take i++r::l.drop i:=by
 have e1:(l.take i).length=i:=by rw[List.length_take];omega
 have e2:(l.take i++List.replicate (l.length+1-i) z).take i=l.take i:=by rw[List.take_append_of_le_length (by omega),List.take_of_length_le (by omega)]
 rw[e2];have e3:(l.take i++[r]).length=i+1:=by simp;omega
 have e4:((l.take i++[r])++(l.take i++List.replicate (l.length+1-i) z).drop (i+1)).take (i+1)=l.take i++[r]:=by rw[List.take_append_of_le_length (by omega),List.take_of_length_le (by omega)]
 have e5:((l.take i++[r])++(l.take i++List.replicate (l.length+1-i) z).drop (i+1)).drop (i+1+(l.length-i))=[]:=by
  apply List.drop_eq_nil_of_le;simp only[List.length_append,List.length_drop,List.length_take,List.length_replicate,List.length_singleton];omega
 rw[e4,e5,List.append_nil,List.take_of_length_le (l:=l.drop i) (by simp),List.append_assoc];rfl
theorem ins_in{α:Type}{l:List α}{i:Nat}(hi:i<l.length)(r:α):((l.take (i+1)++(l.drop i).take (l.length-i)++l.drop (i+1+(l.length-i))).take i++([r].drop 0).take 1++(l.take (i+1)++(l.drop i).take (l.length-i)++l.drop (i+1+(l.length-i))).drop (i+1))=l.take i++r::l.drop i:=by
 have e1:(l.take (i+1)).length=i+1:=by rw[List.length_take];omega
 have e2:l.drop (i+1+(l.length-i))=[]:=List.drop_eq_nil_of_le (by omega);rw[e2,List.append_nil,List.take_of_length_le (l:=l.drop i) (by simp),List.take_append_of_le_length (by omega),List.take_take,Nat.min_eq_left (by omega),List.drop_append,e1,Nat.sub_self,List.drop_of_length_le (l:=l.take (i+1)) (by omega)];simp
set_option maxHeartbeats 8000000 in
theorem insert_row{m:Nat}{rows:List (List PV)}{g1 g2:OwnRef}{r:List PV}{i:Nat}(hi:i<=rows.length)(hby:(rows.length+1)*24<=2^47)(hmx:rows.length+1<=maxLen)(hrl:[r].map List.length=[[PV.any]].map List.length):
  PH prog 87 [.own 1 g1 rows.length,ac i,.own 2 g2 1] ⟨fun _=>none,upd (upd (fun _=>none) 1 (some ⟨g1,54,rows,true⟩)) 2 (some ⟨g2,54,[r],true⟩)⟩ (lf m 54 (rows.take i++r::rows.drop i)):=by
 have hw1:IntKind.i64.wrap ((rows.length:Int)+1)=((rows.length+1:Nat):Int):=by rw[aO (by omega) (by unfold maxLen at hmx;omega)];rfl
 have hw1':IntKind.i64.wrap ((rows.length:Int)+((1:Nat):Int))=((rows.length+1:Nat):Int):=hw1;have hw2':IntKind.i64.wrap ((i:Int)+((1:Nat):Int))=((i+1:Nat):Int):=by rw[aO (by omega) (by unfold maxLen at hmx;omega)];rfl
 have hw2:IntKind.i64.wrap ((i:Int)+1)=((i+1:Nat):Int):=by rw[aO (by omega) (by unfold maxLen at hmx;omega)];rfl
 refine PH.ak func87 ntmps87 ?_;refine rB (tag:=1) Z (fun hcap=>?_);refine dp 1 U Z (al (ah (cC 2 U Z (jU (l:=i) (h:=rows.length) (m:=g1.cap) U Z Z Z Z Z Z ⟨_,_,rfl,rfl⟩ Z Z (by decide) hi hcap (Nat.le_refl _) Z (ao (al (ah (aD U Z (eO U Z ?_)))))))));refine aD U Z (ao (al (dp 2 U Z (bj Z (aE (al (ah (aD U Z (eO U Z ?_)))))))));refine aD U Z (ao (al (dp 3 U Z ?_)));refine aY Z (fun h=>?_) (fun h=>?_)
 ·have hin:i=rows.length:=by
   have h:(i:Int)=rows.length:=by simpa using h
   omega
  subst hin;refine cD 2 Z Z Z (al (ah (cC 2 U Z ?_)));refine xh (rows2':=[r]) (rows':=rows++[r]) U Z Z (iW.refl _) hby hmx Z fun g'=>?_
  refine aD U Z (ao ?_);exact wL U Z Z Z Z (by rw[List.take_length,List.drop_length])
 refine aE ?_
 have hlt:i<rows.length:=by
  have:¬(i:Int)=rows.length:=by simpa using h
  omega
 refine al (al (ah (cC 4 U Z (Ao.capO U Z Z Z Z Z Z (aD U Z (ao ?_))))));refine aY Z (fun h2=>?_) (fun h2=>?_)
 ·have hg:g1.cap<rows.length+1:=by
   have h2:IntKind.i64.wrap ((rows.length:Int)+1)>(g1.cap:Int):=by simpa using h2
   rw[hw1]at h2;omega
  refine al (ah (cC 2 U Z (jU (l:=0) (h:=i) (m:=g1.cap) U Z Z Z Z Z Z Z ⟨_,_,rfl,rfl⟩ Z (by decide) (Nat.zero_le _) (by omega) (Nat.le_refl _) Z (cC 5 U Z ?_))));refine jA 39 (q:=ac ((rows.length+1-i:Nat):Int)) Z (PLe.q (congrArg ac (by rw[hw1',aO (by omega) (by unfold maxLen at hmx;omega)];omega))) ?_;refine xi (tag:=1) (k:=rows.length+1-i) U Z Z Z Z Z Z Z Z Z Z Z Z Z hi (by omega) (by omega) (by rw[show i+(rows.length+1-i)=rows.length+1 by omega];exact hby) (by omega) Z Z fun g3=>?_
  refine aD U Z (ao ?_);have hL':∀z:List PV,(rows.take i++List.replicate (rows.length+1-i) z).length=rows.length+1:=fun z=>by rw[List.length_append,List.length_take,List.length_replicate];omega
  refine rB (tag:=40) Z (fun hcap3=>?_);rw[hL']at hcap3;refine rB (tag:=2) Z (fun hcap2=>?_);refine al (ah (cC 2 U Z (jU (l:=i) (h:=rows.length+1) (m:=g3.cap) U Z Z Z Z Z Z ⟨_,_,rfl,rfl⟩ (hL' _).symm Z (by decide) (by omega) hcap3 (Nat.le_refl _) Z (aD U Z (jA 44 (q:= .val (g2.sub 1 0 1 g2.cap)) Z PLe.ownSub ?_)))));refine xe (tag:=40) (tag2:=2) (p:=i) (q:=0) (cnt:=1) U Z Z Z Z Z Z Z Z Z Z (by rw[hL'];omega) (by decide) (by simp[Nat.min_def];omega) (by simp) (by omega) hcap3 hcap2 Z (by simp only[List.length_append,List.length_take,List.length_drop,List.length_replicate,List.length_singleton];refine Nat.le_trans (Nat.mul_le_mul_right _ ?_) hby;omega) Z ?_;refine ao (al (iA U mok ⟨false,false,[]⟩ [0,1,2,3,4,5,6,7,8] Z (by decide+kernel) Z (oa 4 Z (lY (l:=i+1) (h:=rows.length+1) (m:=g3.cap) U Z Z Z Z Z Z Z ⟨_,_,rfl,hw2'⟩ (hL' _).symm Z (by decide) (by omega) hcap3 (Nat.le_refl _) Z (oa 2 Z (lY (l:=i) (h:=rows.length) (m:=g1.cap) U Z Z Z Z Z Z Z ⟨_,_,rfl,rfl⟩ Z Z (by decide) hi hcap (Nat.le_refl _) Z ?_))))));refine wZ (tag:=40) (tag2:=1) (p:=i+1) (q:=i) (cnt:=rows.length-i) U Z Z Z Z Z Z Z Z Z Z Z (by simp only[List.length_append,List.length_take,List.length_drop,List.length_replicate,List.length_singleton];omega) (by omega) (by simp only[Nat.min_def];split<;>omega) (by omega) (by omega) hcap3 hcap Z (by simp only[List.length_append,List.length_take,List.length_drop,List.length_replicate,List.length_singleton];refine Nat.le_trans (Nat.mul_le_mul_right _ ?_) hby;omega) Z ?_;refine dE (dp 2 U Z ?_);exact wL U Z Z Z (by simp only[List.length_append,List.length_take,List.length_drop,List.length_replicate,List.length_singleton];omega) (ins_eq hlt r _)
 have hg:rows.length+1<=g1.cap:=by
  have h2:¬IntKind.i64.wrap ((rows.length:Int)+1)>(g1.cap:Int):=by simpa using h2
  rw[hw1]at h2;omega
 refine aE (al (ah (cC 4 U Z (jU (l:=0) (h:=rows.length+1) (m:=g1.cap) U Z Z Z Z Z Z Z ⟨_,_,rfl,hw1'⟩ Z (by decide) (Nat.zero_le _) hg (Nat.le_refl _) Z (aD U Z (ao (V.cast 0 (q:= .own 1 g1 (rows.length+1)) Z PLe.subOwn ?_)))))));refine rB (tag:=2) Z (fun hcap2=>?_);refine al (al (ah (cC 5 U Z (jU (l:=i+1) (h:=rows.length+1) (m:=g1.cap) U Z Z Z Z Z Z ⟨_,_,rfl,hw2'⟩ Z Z (by decide) (by omega) hg (Nat.le_refl _) Z ?_))));refine xg (tag:=1) (tag2:=2) U Z Z Z func131 Z Z Z Z Z Z Z (by decide) Z Z (by omega) (by simp) Z Z Z Z ?_;refine aD U Z (ao (bO Z (al (iA U mok ⟨false,false,[]⟩ [0,1,2,3,4,5,6,7,8] Z (by decide+kernel) Z (oa 4 Z (lY (l:=i+1) (h:=rows.length+1) (m:=g1.cap) U Z Z Z Z Z Z Z ⟨_,_,rfl,hw2'⟩ Z Z (by decide) (by omega) hg (Nat.le_refl _) Z (oa 2 Z (lY (l:=i) (h:=rows.length+1) (m:=g1.cap) U Z Z Z Z Z Z Z ⟨_,_,rfl,rfl⟩ Z Z (by decide) (by omega) hg (Nat.le_refl _) Z ?_))))))));refine wZ (tag:=1) (tag2:=1) (p:=i+1) (q:=i) (cnt:=rows.length-i) U Z Z Z Z Z Z Z Z Z Z Z (by omega) (by omega) (by simp only[Nat.min_def];split<;>omega) (by omega) (by omega) hg hg Z (by simp only[List.length_append,List.length_take,List.length_drop];refine Nat.le_trans (Nat.mul_le_mul_right _ ?_) hby;omega) Z ?_;refine dE (al (ah (cC 2 U Z (jU (l:=i) (h:=rows.length+1) (m:=g1.cap) U Z Z Z Z Z Z ⟨_,_,rfl,rfl⟩ Z Z (by decide) (by omega) hg (Nat.le_refl _) Z (aD U Z (jA 81 (q:= .val (g2.sub 1 0 1 g2.cap)) Z PLe.ownSub ?_))))));refine xe (tag:=1) (tag2:=2) (p:=i) (q:=0) (cnt:=1) U Z Z Z Z Z Z Z Z Z Z (by simp only[List.length_append,List.length_take,List.length_drop];omega) (by decide) (by simp only[Nat.min_def];split<;>omega) (by simp) (by omega) hg hcap2 Z (by simp only[List.length_append,List.length_take,List.length_drop,List.length_singleton];refine Nat.le_trans (Nat.mul_le_mul_right _ ?_) hby;omega) Z ?_;refine ao (dp 2 U Z ?_);exact wL U Z Z Z (by rw[ins_in hlt];simp only[List.length_append,List.length_take,List.length_cons,List.length_drop];omega) (ins_in hlt r)
def insI{α:Type}(xs:List α)(i:Int)(r:α):Option (List α):=if 0<=i/\i<=xs.length/\xs.length<1000000 then some (xs.take i.toNat++r::xs.drop i.toNat)else none
theorem insI_some{α:Type}{xs ys:List α}{i:Int}{r:α}(h:insI xs i r=some ys):(0<=i/\i<=xs.length/\xs.length<1000000)/\ys=xs.take i.toNat++r::xs.drop i.toNat:=by
 unfold insI at h;split at h
 ·rename_i hc;exact⟨hc,(Option.some.inj h).symm⟩
 ·cases h
end
end Go.Proofs.YtafdcemcgfbhcaaGreatDoor

namespace Go.Cx
noncomputable section
open Go Go.Ab
inductive DV where
 |bad
 |v (x:Value)
 |s (l:Rb)
 |a (l:List DV)
 |t (l:List DV)
 |p (id off:Nat)
 |l (id off row len:Nat)
 |e (id off:Nat)
 |f (g:FuncId) (caps:List DV)
 |i (t:TypeId) (d:DV)
inductive Tr (α:Type) where
 |nil
 |node (l:Tr α) (v:Option α) (r:Tr α)
def Tr.get{α:Type}:Tr α->Nat->Option α
 | .nil,_=>none
 | .node l v r,k=>bif Nat.beq k 0 then v else bif Nat.beq (k%2) 1 then l.get (k/2)else r.get (k/2-1)
def Tr.set{α:Type}:Nat->Tr α->Nat->α->Tr α
 |0,_,_,_=>.nil
 |n+1,.nil,k,x=>bif Nat.beq k 0 then .node .nil (some x) .nil else bif Nat.beq (k%2) 1 then .node (Tr.set n .nil (k/2) x) none .nil else .node .nil none (Tr.set n .nil (k/2-1) x)
 |n+1,.node l v r,k,x=>bif Nat.beq k 0 then .node l (some x) r else bif Nat.beq (k%2) 1 then .node (Tr.set n l (k/2) x) v r else .node l v (Tr.set n r (k/2-1) x)
structure Blk where
 e:TypeId
 sz:Nat
 cap:Option Nat
 wr:Bool
 cells:List DV
structure Hp where
 h:Tr (Option Blk)
 nx:Nat
def fp(h:Tr (Option Blk))(id:Nat):Option Blk:=match h.get id with
 |some b=>b
 |none=>none
def const1:Value->DV
 | .string x=>.s x.data.toList
 |x=>.v x
def constD:Value->DV
 | .agg cs=>.a (cs.toList.map const1)
 |x=>const1 x
def evD(s:Tr DV):Operand->DV
 | .tmp t=>(s.get t).getD .bad
 | .const x=>constD x
 | .global _=>.bad
 | .func g=>.f g []
def DV.one:DV->Bool
 | .v x=>x.oneCell'
 | .bad| .a _| .t _=>false
 |_=>true
def rF:DV->Option (List DV)
 | .a l=>bif l.all DV.one then some l else none
 |d=>bif d.one then some [d]else none
def readD(ti:TInfo)(off:Nat)(cells:List DV):Option DV:=
 bif mF ti.desc then(bif Nat.ble (off+ti.size) cells.length then some (.a ((cells.drop off).take ti.size))else none)
 else cells[off]?
def mN(cells:List DV)(off:Nat)(new:List DV):List DV:=cells.take off++new++cells.drop (off+new.length)
def qh(place:Nat->Option (Nat×Nat))(cells:List DV):List (Nat×DV)->Option (List DV)
 |[]=>some cells
 |(i,p)::r=>match place i,rF p with
  |some (off,size),some cs=>bif Nat.beq cs.length size&&Nat.ble (off+size) cells.length then qh place (mN cells off cs) r else none
  |_,_=>none
def nv(ti:TInfo):List DV:=ti.zero.cells.toList.map const1
def partsD(ev:Operand->DV)(ps:Array (Nat×Operand)):List (Nat×DV):=ps.toList.map fun p=>(p.1,ev p.2)
def buildD(T:TT)(t:TypeId)(parts:List (Nat×DV)):Option DV:=
 match T.get t with
 |some ti=>match ti.desc with
  | .struct fs=>match oQ T fs.toList with
   |some l=>(qh (fun(i:Nat)=>l[i]?) (nv ti) parts).map .a
   |none=>none
  |_=>none
 |none=>none
def vg:TypeDesc->DV->DV->Option Bool
 | .int _,.v (.int k a),.v (.int k' b)=>bif decide (k=k')then some (a==b)else none
 | .bool,.v (.bool a),.v (.bool b)=>some (a==b)
 | .string,.s a,.s b=>some (a==b)
 |_,_,_=>none
def mY(T:TT):List (Nat×Nat)->List DV->List DV->Option Bool
 |[],_,_=>some true
 |(t,off)::r,xs,ys=>match T.get t,xs[off]?,ys[off]? with
  |some ti,some p,some q=>match vg ti.desc p q,mY T r xs ys with
   |some b,some c=>some (b&&c)
   |_,_=>none
  |_,_,_=>none
def binD(T:TT)(op:BinOp)(t:TypeId)(p q:DV):Option DV:=
 match p,q with
 | .v (.int k a),.v (.int k' b)=>
  bif decide (k=k')then
   match op with
   | .add=>some (.v (.int k (k.wrap (a+b))))
   | .sub=>some (.v (.int k (k.wrap (a-b))))
   | .mul=>some (.v (.int k (k.wrap (a*b))))
   | .quo=>if b=0 then none else some (.v (.int k (k.wrap (a.tdiv b))))
   | .rem=>if b=0 then none else some (.v (.int k (a.tmod b)))
   |op=>(cmpInt op a b).map fun c=>.v (.bool c)
  else none
 | .s a,.s b=>match op with
  | .add=>if a.length+b.length<=jO then some (.s (a++b))else none
  |op=>(cmpStr op a b).map fun c=>.v (.bool c)
 | .v (.bool a),.v (.bool b)=>match T.get t,op with
  |some ⟨.bool,_,_,_,_⟩,.eql=>some (.v (.bool (a==b)))
  |some ⟨.bool,_,_,_,_⟩,.neq=>some (.v (.bool (!(a==b))))
  |_,_=>none
 | .a xs,.a ys=>match T.get t with
  |some ti=>bif ti.eqf.isEmpty then none else
   match op with
   | .eql=>(mY T ti.eqf xs ys).map fun c=>.v (.bool c)
   | .neq=>(mY T ti.eqf xs ys).map fun c=>.v (.bool (!c))
   |_=>none
  |none=>none
 |_,_=>none
def nilD(T:TT)(op:BinOp)(t:TypeId)(y:Operand)(p:DV):Option DV:=
 match y,p with
 | .const .nilIface,.v .nilIface=>match T.get t with
  |some ti=>match ti.desc,op with
   | .interface _,.eql=>some (.v (.bool true))
   | .interface _,.neq=>some (.v (.bool false))
   |_,_=>none
  |none=>none
 | .const (.slice none 0 0),p=>match T.get t with
  |some ti=>match ti.desc,op,p with
   | .slice _,.eql,.v (.slice none 0 0)=>some (.v (.bool true))
   | .slice _,.eql,.l _ _ _ _=>some (.v (.bool false))
   | .slice _,.eql,.e _ _=>some (.v (.bool false))
   |_,_,_=>none
  |none=>none
 |_,_=>none
def rL(p:Option DV)(dflt:Nat):Option Int:=
 match p with
 |none=>some dflt
 |some (.v (.int _ n))=>some n
 |_=>none
def sliceD(T:TT)(d:TypeDesc)(p:DV)(lo hi:Option DV):Option DV:=
 match d,p with
 | .string,.s l=>match rL lo 0,rL hi l.length with
  |some a,some b=>if 0<=a/\a<=b/\b<=l.length then some (.s ((l.take b.toNat).drop a.toNat))else none
  |_,_=>none
 | .slice e,.l id off row len=>match rL lo 0,rL hi len,T.get e with
   |some a,some b,some ei=>if 0<=a/\a<=b/\b<=len/\(a<len\/a=0)then some (.l id (off+a.toNat*ei.size) (row+a.toNat) (b.toNat-a.toNat))else none
   |_,_,_=>none
 |_,_=>none
def isZ:Option Operand->Bool
 |some (.const (.int .i64 n))=>n==0
 |_=>false
def emptyD(T:TT)(d:TypeDesc)(p:DV):Option DV:=
 match d with
 | .slice e=>match T.get e,p with
  |some _,.l id off _ _=>some (.e id off)
  |some _,.e id off=>some (.e id off)
  |some _,.v (.slice none 0 0)=>some p
  |_,_=>none
 |_=>none
def offD:DV->Nat->Option DV
 | .p id off,n=>some (.p id (off+n))
 |_,_=>none
def qH:DV->Option Nat
 | .l _ _ _ n=>some n
 | .e _ _=>some 0
 | .v (.slice none 0 0)=>some 0
 |_=>none
def loadD(h:Tr (Option Blk))(ti:TInfo):DV->Option DV
 | .p id off=>match fp h id with
  |some b=>readD ti off b.cells
  |none=>none
 |_=>none
def noNilD:DV->Bool
 | .p _ _| .f _ _=>true
 |_=>false
def callD(T:TT)(c:Call)(ev:Operand->DV):Option DV:=
 match c.callee,c.args.toList,c.argTypes.toList with
 | .builtin .len,[x],t::_=>match T.get t with
  |some ti=>match ti.desc,ev x with
   | .string,.s l=>some (.v (.int .i64 l.length))
   | .slice _,p=>(qH p).bind fun n=>some (.v (.int .i64 n))
   |_,_=>none
  |none=>none
 | .builtin .min,[x,y],_=>match ev x,ev y with
  | .v (.int k a),.v (.int _ b)=>some (.v (.int k (if b<a then b else a)))
  |_,_=>none
 | .builtin .max,[x,y],_=>match ev x,ev y with
  | .v (.int k a),.v (.int _ b)=>some (.v (.int k (if b>a then b else a)))
  |_,_=>none
 |_,_,_=>none
def jv(T:TT)(h:Tr (Option Blk))(op:Op)(ev:Operand->DV):Option DV:=
 match op with
 | .move x| .assign x=>some (ev x)
 | .pick c a b=>match ev c with
  | .v (.bool true)=>some (ev a)
  | .v (.bool false)=>some (ev b)
  |_=>none
 | .load t x=>match T.get t with
  |some ti=>loadD h ti (ev x)
  |none=>none
 | .fieldAddr t x f=>match T.get t with
  |some ti=>match ti.desc with
   | .struct fs=>match fs[f]? with
    |some fd=>match T.get fd.type with
     |some fi=>bif Nat.beq fi.size 0 then none else offD (ev x) fd.offset
     |none=>none
    |none=>none
   |_=>none
  |none=>none
 | .field t x f=>match T.get t with
  |some ti=>match ti.desc with
   | .struct fs=>match fs[f]? with
    |some fd=>match T.get fd.type,ev x with
     |some fi,.a cells=>readD fi fd.offset cells
     |_,_=>none
    |none=>none
   |_=>none
  |none=>none
 | .indexAddr t x i=>match T.get t,ev x,ev i with
  |some ti,.l id off _ len,.v (.int _ n)=>match ti.desc with
   | .slice e=>match T.get e with
    |some ei=>if 0<=n/\n<len then some (.p id (off+n.toNat*ei.size))else none
    |none=>none
   |_=>none
  |some ti,.p id off,.v (.int _ n)=>match ti.desc with
   | .array len e=>match T.get e with
    |some ei=>if 0<=n/\n<len then some (.p id (off+n.toNat*ei.size))else none
    |none=>none
   |_=>none
  |_,_,_=>none
 | .index t x i=>match T.get t,ev x,ev i with
  |some ti,.s l,.v (.int _ n)=>match ti.desc with
   | .string=>if 0<=n then(l[n.toNat]?).map fun c=>.v (.int .u8 c.toNat)else none
   |_=>none
  |_,_,_=>none
 | .binOp op t x y _=>match nilD T op t y (ev x)with
  |some r=>some r
  |none=>binD T op t (ev x) (ev y)
 | .unOp op _ x=>match op,ev x with
  | .not,.v (.bool b)=>some (.v (.bool (!b)))
  | .neg,.v (.int k n)=>some (.v (.int k (k.wrap (0-n))))
  |_,_=>none
 | .convert src dst x=>match T.get src,T.get dst,ev x with
  |some _,some ti,.v (.int _ n)=>match ti.desc with
   | .int k=>some (.v (.int k (k.wrap n)))
   |_=>none
  |some _,some ti,.s l=>match ti.desc with
   | .string=>some (.s l)
   |_=>none
  |_,_,_=>none
 | .extract x i=>match ev x with
  | .t vs=>vs[i]?
  |_=>none
 | .build t ps=>buildD T t (partsD ev ps)
 | .slice t x lo hi mx=>match T.get t with
  |some ti=>match mx with
   |none=>sliceD T ti.desc (ev x) (lo.map ev) (hi.map ev)
   |some m=>bif isZ lo&&isZ hi&&isZ (some m)then emptyD T ti.desc (ev x)else none
  |none=>none
 | .makeFunc (.func f) first caps=>bif first.isEmpty then some (.f f (caps.toList.map ev))else none
 | .nilCheck x=>bif noNilD (ev x)then some (ev x)else none
 | .call c=>callD T c ev
 |_=>none
def qb(n:Nat)(l:List DV):List DV:=match n with
 |0=>[]
 |n+1=>l++qb n l
def newD(H:Hp)(b:Blk):Hp:=⟨H.h.set 24 H.nx (some b),H.nx+1⟩
def srcD(h:Tr (Option Blk))(size:Nat):DV->Option (List DV)
 | .l id off _ len=>match fp h id with
  |some b=>bif Nat.ble (off+len*size) b.cells.length then some ((b.cells.drop off).take (len*size))else none
  |none=>none
 | .v (.slice none 0 0)| .e _ _=>some []
 |_=>none
def appendD(H:Hp)(e:TypeId)(size bytes:Nat)(x:DV)(new:List DV)(n:Nat):Option (DV×Hp):=
 bif Nat.beq n 0 then(match qH x with|some _=>some (x,H)|none=>none)else
 match x with
 | .v (.slice none 0 0)| .e _ _=>bif Nat.ble (n*bytes) 1000000&&Nat.ble n 1000000 then some (.l H.nx 0 0 n,newD H ⟨e,size,none,true,new⟩)else none
 | .l id off row len=>match fp H.h id with
  |some b=>
   bif b.wr&&Nat.beq b.e e&&Nat.beq b.sz size&&Nat.beq off 0&&Nat.beq row 0&&Nat.beq b.cells.length (len*size)&&Nat.ble ((len+n)*bytes) 1000000&&Nat.ble (len+n) 1000000 then
    some (.l H.nx 0 0 (len+n),newD ⟨H.h.set 24 id none,H.nx⟩ ⟨e,size,none,true,b.cells++new⟩)
   else none
  |none=>none
 |_=>none
def nI(T:TT)(op:Op)(ev:Operand->DV)(id:Nat):Option (DV×Blk):=
 match op with
 | .alloc t=>match T.get t with
  |some ti=>some (.p id 0,⟨t,0,none,true,nv ti⟩)
  |none=>none
 | .box t x=>match rF (ev x)with
  |some cs=>some (.p id 0,⟨t,0,none,true,cs⟩)
  |none=>none
 | .buildSlice t n ps=>match T.get t with
  |some ti=>match ti.desc with
   | .slice e=>match T.get e with
    |some ei=>bif Nat.ble (n*ei.bytes) 1000000&&Nat.blt 0 ei.size&&Nat.ble (n*ei.size) 1000000&&Nat.beq ei.zero.cells.size ei.size then match qh (fun i=>some (i*ei.size,ei.size)) (qb n (nv ei)) (partsD ev ps)with
      |some cs=>some (.l id 0 0 n,⟨e,ei.size,some n,true,cs⟩)
      |none=>none
     else none
    |none=>none
   |_=>none
  |none=>none
 |_=>none
def nk(T:TT)(H:Hp)(op:Op)(ev:Operand->DV):Option (DV×Hp):=
 match op with
 | .store t x y=>match T.get t,ev x,rF (ev y)with
  |some ti,.p id off,some cs=>match fp H.h id with
   |some b=>bif b.wr&&Nat.beq cs.length ti.size&&Nat.ble (off+ti.size) b.cells.length then some (.bad,⟨H.h.set 24 id (some ⟨b.e,b.sz,b.cap,b.wr,mN b.cells off cs⟩),H.nx⟩)else none
   |none=>none
  |_,_,_=>none
 | .convert src dst x=>match T.get src,T.get dst,ev x with
  |some si,some ti,.s l=>match si.desc,ti.desc with
   | .string,.slice e=>match T.get e with
    |some ei=>match ei.desc with
     | .int .u8=>bif Nat.beq ei.size 1&&Nat.ble l.length 1000000 then some (.l H.nx 0 0 l.length,newD H ⟨e,1,none,false,l.map fun c=>.v (.int .u8 c.toNat)⟩)else none
     |_=>none
    |none=>none
   |_,_=>none
  |_,_,_=>none
 | .call ⟨.builtin .clear,av0,ts⟩=>match av0.toList,ts.toList with
  |[x],[t]=>match T.get t,ev x with
   |some ti,.l id off _ n=>match ti.desc,fp H.h id with
    | .slice e,some b=>match T.get e with
     |some ei=>bif Nat.beq n 0 then some (.t [],H)else bif b.wr&&(nv ei).all DV.one&&Nat.beq ei.zero.cells.size ei.size&&Nat.ble (off+n*ei.size) b.cells.length then
       some (.t [],⟨H.h.set 24 id (some ⟨b.e,b.sz,b.cap,b.wr,mN b.cells off (qb n (nv ei))⟩),H.nx⟩)else none
     |none=>none
    |_,_=>none
   |_,_=>none
  |_,_=>none
 | .call ⟨.builtin .append,av0,ts⟩=>match av0.toList,ts.toList with
  |[x,y],[t,t']=>bif Nat.beq t t' then match T.get t with
   |some ti=>match ti.desc with
    | .slice e=>match T.get e with
     |some ei=>match srcD H.h ei.size (ev y),qH (ev y)with
      |some new,some n=>bif Nat.blt 0 ei.size&&Nat.beq ei.zero.cells.size ei.size&&new.all DV.one then appendD H e ei.size ei.bytes (ev x) new n else none
      |_,_=>none
     |none=>none
    |_=>none
   |none=>none
   else none
  |_,_=>none
 |_=>none
def loudD(T:TT)(H:Hp)(op:Op)(ev:Operand->DV):Option (DV×Hp):=
 match nI T op ev H.nx with
 |some (d,b)=>some (d,newD H b)
 |none=>nk T H op ev
def isLoud:Op->Bool
 | .alloc _| .box _ _| .store _ _ _| .buildSlice _ _ _| .makeSlice _ _ _| .defer _=>true
 | .convert _ _ _=>true
 | .call ⟨.builtin .len,_,_⟩| .call ⟨.builtin .min,_,_⟩| .call ⟨.builtin .max,_,_⟩=>false
 | .call _=>true
 |_=>false
structure St where
 n:Nat
 s:Tr DV
 H:Hp
 df:List (FuncId×List DV)
abbrev jK:=FuncId->List DV->Hp->Option (DV×Hp)
def oneD(T:TT)(call:jK)(op:Op)(ev:Operand->DV)(H:Hp):Option (DV×Hp):=
 match jv T H.h op ev with
 |some r=>some (r,H)
 |none=>match loudD T H op ev with
  |some x=>some x
  |none=>match op with
   | .call ⟨.value fx,av0,_⟩=>match ev fx with
    | .f g caps=>call g (av0.toList.map ev++caps) H
    |_=>none
   |_=>none
def fe(ops:Array Oper)(s:Tr DV)(o:Oper):Option Bool:=
 match o.guard with
 |none=>some true
 |some (j,want)=>match(ops[j]?).bind (·.dst)with
  |some d=>match s.get d with
   |some (.v (.bool b))=>some (b==want)
   |some (.t [])=>some false
   |_=>none
  |none=>none
def jR(n:Nat)(s:Tr DV)(dst:Option Tmp)(d:DV):Option (Tr DV):=match dst with
 |none=>some s
 |some k=>bif Nat.blt k n then some (s.set 16 k d)else none
def headD:DV->Bool
 | .v (.int _ n)=>match n with
  | .ofNat k=>Nat.beq k k
  | .negSucc k=>Nat.beq k k
 |_=>true
def stepD(T:TT)(call:jK)(ops:Array Oper)(o:Oper)(st:St):Option St:=
 match fe ops st.s o with
 |some true=>match o.op with
  | .defer ⟨.value fx,av0,_⟩=>bif av0.isEmpty then(match evD st.s fx with
    | .f g caps=>(jR st.n st.s o.dst (.t [])).map fun s=>⟨st.n,s,st.H,(g,caps)::st.df⟩
    |_=>none)else none
  |op=>match oneD T call op (evD st.s) st.H with
   |some (d,H)=>bif headD d then(jR st.n st.s o.dst d).map fun s=>⟨st.n,s,H,st.df⟩else none
   |none=>none
 |some false=>(jR st.n st.s o.dst (.t [])).map fun s=>⟨st.n,s,st.H,st.df⟩
 |none=>none
def opsD(T:TT)(call:jK)(ops:Array Oper):List Oper->St->Option St
 |[],st=>some st
 |o::r,st=>match stepD T call ops o st with
  |some st'=>opsD T call ops r st'
  |none=>none
inductive Ex where
 |nm|rt|ex (j:Nat)
def resD(T:TT)(st:St):ResultVar->Option DV
 | .tmp t=>match st.s.get t with
  |some .bad=>none
  |x=>x
 | .cell a t=>match T.get t,st.s.get a with
  |some ti,some d=>loadD st.H.h ti d
  |_,_=>none
def oG(T:TT)(st:St):List ResultVar->Option (List DV)
 |[]=>some []
 |r::rs=>match resD T st r,oG T st rs with
  |some d,some ds=>some (d::ds)
  |_,_=>none
def tupD:List DV->DV
 |[d]=>d
 |ds=>.t ds
def qS(l:List DV):Tr DV:=(l.foldl (fun(x:Tr DV×Nat) d=>(x.1.set 16 x.2 d,x.2+1)) (.nil,0)).1
def eqVal:Value->Value->Bool
 | .int k a,.int k' b=>decide (k=k')&&(a==b)
 | .bool a,.bool b=>a==b
 | .slice none n c,.slice none n' c'=>Nat.beq n n'&&Nat.beq c c'
 | .pointer none,.pointer none=>true
 | .nilIface,.nilIface=>true
 | .nilFunc,.nilFunc=>true
 |_,_=>false
mutual
def eqV:DV->DV->Bool
 | .v x,.v y=>eqVal x y
 | .s a,.s b=>a==b
 | .a l,.a l'=>eqVL l l'
 | .t l,.t l'=>eqVL l l'
 | .p i o,.p i' o'=>Nat.beq i i'&&Nat.beq o o'
 | .l i o r n,.l i' o' r' n'=>Nat.beq i i'&&Nat.beq o o'&&Nat.beq r r'&&Nat.beq n n'
 | .e i o,.e i' o'=>Nat.beq i i'&&Nat.beq o o'
 | .f g l,.f g' l'=>Nat.beq g g'&&eqVL l l'
 |_,_=>false
def eqVL:List DV->List DV->Bool
 |[],[]=>true
 |x::xs,y::ys=>eqV x y&&eqVL xs ys
 |_,_=>false
end
def vH:Op->Bool
 | .store _ _ _=>true
 |_=>false
def lX(o:Oper):Bool:=match o.op with| .alloc _| .box _ _| .buildSlice _ _ _=>true|_=>false
def gW(o:Oper):Bool:=isLoud o.op&& !lX o
structure DS where
 st:St
 pd:List (Nat×Blk)
def nN(nx0:Nat)(H:Hp)(l:List (Nat×Blk)):Hp:=l.foldl (fun H x=>⟨H.h.set 24 (nx0+x.1) (some x.2),H.nx⟩) H
def stepR(T:TT)(call:jK)(ops:Array Oper)(b:Array Nat)(nx0 i:Nat)(o:Oper)(ds:DS):Option DS:=
 bif lX o then match fe ops ds.st.s o with
  |some true=>match nI T o.op (evD ds.st.s) (nx0+i)with
   |some (d,k)=>(jR ds.st.n ds.st.s o.dst d).map fun s=>⟨⟨ds.st.n,s,ds.st.H,ds.st.df⟩,ds.pd++[(i,k)]⟩
   |none=>none
  |some false=>(jR ds.st.n ds.st.s o.dst (.t [])).map fun s=>⟨⟨ds.st.n,s,ds.st.H,ds.st.df⟩,ds.pd⟩
  |none=>none
 else bif gW o then match stepD T call ops o ⟨ds.st.n,ds.st.s,nN nx0 ds.st.H (ds.pd.filter fun x=>(b.getD i 0).testBit x.1),ds.st.df⟩with
  |some st'=>some ⟨st',ds.pd.filter fun x=>!(b.getD i 0).testBit x.1⟩
  |none=>none
 else match fe ops ds.st.s o with
  |some true=>match jv T ds.st.H.h o.op (evD ds.st.s)with
   |some d=>bif headD d then(jR ds.st.n ds.st.s o.dst d).map fun s=>⟨⟨ds.st.n,s,ds.st.H,ds.st.df⟩,ds.pd⟩else none
   |none=>none
  |some false=>(jR ds.st.n ds.st.s o.dst (.t [])).map fun s=>⟨⟨ds.st.n,s,ds.st.H,ds.st.df⟩,ds.pd⟩
  |none=>none
def traceR(T:TT)(call:jK)(ops:Array Oper)(b:Array Nat)(nx0:Nat):Nat->List Oper->DS->Option (List DS)
 |_,[],ds=>some [ds]
 |i,o::r,ds=>match stepR T call ops b nx0 i o ds with
  |some ds'=>match traceR T call ops b nx0 (i+1) r ds' with
   |some l=>some (ds::l)
   |none=>none
  |none=>none
def pairsOk(ops:Array Oper)(b:Array Nat):Bool:=
 (List.range ops.size).all fun j=>(List.range j).all fun i=>(b.getD j 0).testBit i||match ops[i]?,ops[j]? with
  |some x,some y=>x.apart ops y
  |_,_=>false
def unord(ops:Array Oper)(b:Array Nat):List (Nat×Nat):=
 (List.range ops.size).flatMap fun j=>((List.range j).filter fun i=>!(b.getD j 0).testBit i&&(match ops[i]?,ops[j]? with
  |some x,some y=>gW x&&gW y
  |_,_=>false)).map fun i=>(i,j)
def edgesOk(ops:Array Oper):Bool:=(List.range ops.size).all fun j=>match ops[j]? with
 |some o=>o.after.all fun e=>!Region.binds .any e||Nat.blt e.on j
 |none=>true
def cT(ops:Array Oper)(j:Nat):Bool:=match ops[j]? with|some y=>gW y|none=>false
def vA(ops:Array Oper)(b:Array Nat):List (Nat×List Nat):=
 (List.range ops.size).filterMap fun i=>match ops[i]? with
  |some o=>bif ij o.op then some (i,(0::(((List.range ops.size).filter (cT ops)).map (·+1))).filter fun k=>
    (List.range ops.size).all fun j=>!cT ops j||(bif Nat.blt j k then !(b.getD j 0).testBit i else !(b.getD i 0).testBit j))else none
  |none=>none
def pairAt(ops:Array Oper)(b:Array Nat)(i j:Nat):Bool:=
 (List.range ops.size).all fun k=>match ops[k]? with
  |some o=>(!gW o||Nat.blt k i||Nat.beq k i||Nat.beq k j)&&(!(lX o||ij o.op)||((b.getD i 0).testBit k&&(b.getD j 0).testBit k))&&
    (!(Nat.beq k i||Nat.beq k j)||(o.guard.isNone&&vH o.op))
  |none=>true
def staticOk(ops:Array Oper):Bool:=pJ ops (Region.before ops)&&edgesOk ops&&pairsOk ops (Region.before ops)&&ops.all (fun o=>match o.op with| .defer _=>false|_=>true)
def addrOf(o:Oper)(s:Tr DV):Option Nat:=match o.op with
 | .store _ x _=>match evD s x with
  | .p id _=>some id
  |_=>none
 |_=>none
def swapD(T:TT)(ops:Array Oper)(tr:List DS)(i j:Nat):Bool:=
 match ops[i]?,ops[j]?,tr[i]?,tr[j]? with
 |some x,some y,some di,some dj=>match addrOf x di.st.s,addrOf y dj.st.s,nk T di.st.H y.op (evD dj.st.s)with
  |some a,some c,some (_,H3)=>di.pd.isEmpty&& !(Nat.beq a c)&&Nat.blt a 1000000&&Nat.blt c 1000000&&(nk T H3 x.op (evD di.st.s)).isSome
  |_,_,_=>false
 |_,_,_,_=>false
def vC(T:TT)(ops:Array Oper)(tr:List DS):Bool:=
 match unord ops (Region.before ops)with
 |[]=>true
 |[(i,j)]=>pairAt ops (Region.before ops) i j&&swapD T ops tr i j
 |_=>false
def loadOk(T:TT)(ops:Array Oper)(tr:List DS)(i:Nat)(ks:List Nat):Bool:=
 match ops[i]?,tr[i]? with
 |some o,some ds=>match fe ops ds.st.s o with
  |some true=>match jv T ds.st.H.h o.op (evD ds.st.s)with
   |some d=>ks.all fun k=>match tr[k]? with
    |some ds'=>match jv T ds'.st.H.h o.op (evD ds.st.s)with
     |some d'=>eqV d d'
     |none=>false
    |none=>false
   |none=>false
  |some false=>true
  |none=>false
 |_,_=>false
def drawD(T:TT)(call:jK)(ops:Array Oper)(st:St):Option St:=
 bif staticOk ops then
  match traceR T call ops (Region.before ops) st.H.nx 0 ops.toList ⟨⟨st.n,st.s,⟨st.H.h,st.H.nx+ops.size⟩,st.df⟩,[]⟩with
  |some tr=>bif (vA ops (Region.before ops)).all (fun x=>loadOk T ops tr x.1 x.2)&&vC T ops tr then
    match tr[ops.size]? with
    |some ds=>some ⟨ds.st.n,ds.st.s,nN st.H.nx ds.st.H ds.pd,ds.st.df⟩
    |none=>none
   else none
  |none=>none
 else none
def oV(P:Program)(T:TT)(D:FuncId->Bool)(run:Code->St->Option (Ex×St)):jK:=fun g args H=>
 match P.funcs[g]? with
 |some fn=>match fn.body with
  |some c=>bif Nat.ble args.length fn.ntmps then
    match run c ⟨fn.ntmps,qS args,H,[]⟩with
    |some (.nm,st)|some (.rt,st)=>bif st.df.all fun x=>D x.1 then(oG T st fn.results.toList).map fun ds=>(tupD ds,st.H)else none
    |_=>none
   else none
  |none=>none
 |none=>none
def jx(P:Program)(T:TT)(D:FuncId->Bool):Nat->Code->St->Option (Ex×St)
 |0,_,_=>none
 |n+1,c,st=>match c with
  | .skip=>some (.nm,st)
  | .region _ ops false=>(opsD T (oV P T D (jx P T D n)) ops ops.toList st).map fun s=>(.nm,s)
  | .region _ ops true=>(drawD T (oV P T D (jx P T D n)) ops st).map fun s=>(.nm,s)
  | .seq x y=>match jx P T D n x st with
   |some (.nm,st')=>jx P T D n y st'
   |r=>r
  | .cond c x y=>match evD st.s c with
   | .v (.bool true)=>jx P T D n x st
   | .v (.bool false)=>jx P T D n y st
   |_=>none
  | .block id c=>match jx P T D n c st with
   |some (.ex j,st')=>bif Nat.beq j id then some (.nm,st')else some (.ex j,st')
   |r=>r
  | .loop x=>match jx P T D n x st with
   |some (.nm,st')=>jx P T D n (.loop x) st'
   |r=>r
  | .exit id=>some (.ex id,st)
  | .ret=>some (.rt,st)
  |_=>none
end
end Go.Cx

namespace Go.Cx
noncomputable section
open Go Go.Ab
open Go.RowKit (Below)
abbrev Be:=Nat->Option (Nat×Nat)
def Be.le(β β':Be):Prop:=∀k x,β k=some x->β' k=some x
theorem Be.rfl'{β:Be}:β.le β:=fun _ _ h=>h
theorem Be.trans{β β' β'':Be}(h:β.le β')(h':β'.le β''):β.le β'':=fun k x e=>h' k x (h k x e)
structure Ext(β β':Be)(nx nx':Nat):Prop where
 le:β.le β'
 old:∀id,id<nx->β' id=β id
 nx:nx<=nx'
theorem Ext.rfl'{β:Be}{n:Nat}:Ext β β n n:=⟨Be.rfl',fun _ _=>rfl,Nat.le_refl _⟩
theorem Ext.trans{β β' β'':Be}{n n' n'':Nat}(h:Ext β β' n n')(h':Ext β' β'' n' n''):Ext β β'' n n'':=
 ⟨Be.trans h.le h'.le,fun id hid=>(h'.old id (Nat.lt_of_lt_of_le hid h.nx)).trans (h.old id hid),Nat.le_trans h.nx h'.nx⟩
mutual
def R(β:Be):DV->Value->Prop
 | .bad,_=>True
 | .v x,y=>y=x
 | .s l,y=>y= .string ⟨l.toArray⟩
 | .a ds,y=>∃cs:Array Value,y= .agg cs/\RL β ds cs.toList
 | .t ds,y=>∃cs:Array Value,y= .tuple cs/\RL β ds cs.toList
 | .p id off,y=>∃b c,β id=some (b,c)/\y= .pointer (some ⟨b,off,none⟩)
 | .l id off row len,y=>∃b c,β id=some (b,c)/\row+len<=c/\y= .slice (some ⟨b,off,none⟩) len (c-row)
 | .e id off,y=>∃b c,β id=some (b,c)/\y= .slice (some ⟨b,off,none⟩) 0 0
 | .f g caps,y=>∃cs:Array Value,y= .func (.func g) #[] cs/\RL β caps cs.toList
 | .i _ _,_=>False
def RL(β:Be):List DV->List Value->Prop
 |[],vs=>vs=[]
 |d::ds,vs=>∃x xs,vs=x::xs/\R β d x/\RL β ds xs
end
section
variable{β β':Be}
mutual
theorem R.mono(h:β.le β'):∀{d:DV} {y:Value},R β d y->R β' d y
 | .bad,_,_=>by simp only[R]
 | .v _,_,e=>by simpa only[R]using e
 | .s _,_,e=>by simpa only[R]using e
 | .a ds,_,e=>by
  simp only[R]at e⊢
  obtain⟨cs,h1,h2⟩:=e
  exact⟨cs,h1,RL.mono h h2⟩
 | .t ds,_,e=>by
  simp only[R]at e⊢
  obtain⟨cs,h1,h2⟩:=e
  exact⟨cs,h1,RL.mono h h2⟩
 | .p id off,_,e=>by
  simp only[R]at e⊢
  obtain⟨b,c,h1,h2⟩:=e
  exact⟨b,c,h _ _ h1,h2⟩
 | .l id off row len,_,e=>by
  simp only[R]at e⊢
  obtain⟨b,c,h1,h2⟩:=e
  exact⟨b,c,h _ _ h1,h2⟩
 | .e id off,_,e=>by
  simp only[R]at e⊢
  obtain⟨b,c,h1,h2⟩:=e
  exact⟨b,c,h _ _ h1,h2⟩
 | .f g caps,_,e=>by
  simp only[R]at e⊢
  obtain⟨cs,h1,h2⟩:=e
  exact⟨cs,h1,RL.mono h h2⟩
 | .i _ _,_,e=>by simp only[R]at e
theorem RL.mono(h:β.le β'):∀{ds:List DV} {ys:List Value},RL β ds ys->RL β' ds ys
 |[],_,e=>by simpa only[RL]using e
 |d::ds,_,e=>by
  simp only[RL]at e⊢
  obtain⟨x,xs,h1,h2,h3⟩:=e
  exact⟨x,xs,h1,R.mono h h2,RL.mono h h3⟩
end
theorem RL.length:∀{ps:List DV} {xs:List Value},RL β ps xs->xs.length=ps.length
 |[],_,h=>by simp only[RL]at h;simp[h]
 |p::ps,_,h=>by
  simp only[RL]at h
  obtain⟨x,xs,rfl,_,h3⟩:=h
  simp[RL.length h3]
theorem RL.get:∀{ps:List DV} {xs:List Value},RL β ps xs->∀(j:Nat) (p:DV),ps[j]? =some p->∃x,xs[j]? =some x/\R β p x
 |[],_,_,j,p,hp=>by simp at hp
 |q::ps,_,h,j,p,hp=>by
  simp only[RL]at h
  obtain⟨x,xs,rfl,h2,h3⟩:=h
  cases j with
  |zero=>simp at hp;subst hp;exact⟨x,rfl,h2⟩
  |succ j=>simpa using RL.get h3 j p (by simpa using hp)
theorem RL.append:∀{ps qs:List DV} {xs ys:List Value},RL β ps xs->RL β qs ys->RL β (ps++qs) (xs++ys)
 |[],_,_,_,h,h'=>by simp only[RL]at h;subst h;simpa using h'
 |p::ps,_,_,_,h,h'=>by
  simp only[RL]at h
  obtain⟨x,xs,rfl,h2,h3⟩:=h
  simp only[List.cons_append,RL]
  exact⟨x,_,rfl,h2,RL.append h3 h'⟩
theorem RL.take:∀{ps:List DV} {xs:List Value} (n:Nat),RL β ps xs->RL β (ps.take n) (xs.take n)
 |[],_,n,h=>by simp only[RL]at h;subst h;simp[RL]
 |p::ps,_,0,h=>by simp[RL]
 |p::ps,_,n+1,h=>by
  simp only[RL]at h
  obtain⟨x,xs,rfl,h2,h3⟩:=h
  simp only[List.take_succ_cons,RL]
  exact⟨x,_,rfl,h2,RL.take n h3⟩
theorem RL.drop:∀{ps:List DV} {xs:List Value} (n:Nat),RL β ps xs->RL β (ps.drop n) (xs.drop n)
 |[],_,n,h=>by simp only[RL]at h;subst h;simp[RL]
 |p::ps,_,0,h=>by simpa using h
 |p::ps,_,n+1,h=>by
  simp only[RL]at h
  obtain⟨x,xs,rfl,h2,h3⟩:=h
  simp only[List.drop_succ_cons];exact RL.drop n h3
theorem R.const1(x:Value):R β (const1 x) x:=by
 cases x<;>simp[Cx.const1,R]
theorem oY(l:List Value):RL β (l.map Cx.const1) l:=by
 induction l with
 |nil=>simp[RL]
 |cons v l ih=>simp only[List.map_cons,RL];exact⟨v,l,rfl,R.const1 v,ih⟩
theorem R.const(x:Value):R β (constD x) x:=by
 cases x
 case agg cs=>simp only[constD,R];exact⟨cs,rfl,oY cs.toList⟩
 all_goals (simp only[constD];exact R.const1 _)
theorem R.oneCell{d:DV}{x:Value}(h1:d.one=true)(h:R β d x):x.oneCell'=true:=by
 cases d with
 |bad=>simp[DV.one]at h1
 |v y=>simp only[R]at h;subst h;simpa[DV.one]using h1
 |s l=>simp only[R]at h;rw[h];rfl
 |a l=>simp[DV.one]at h1
 |t l=>simp[DV.one]at h1
 |p i o=>simp only[R]at h;obtain⟨b,c,_,rfl⟩:=h;rfl
 |l i o r n=>simp only[R]at h;obtain⟨b,c,_,_,rfl⟩:=h;rfl
 |e i o=>simp only[R]at h;obtain⟨b,c,_,rfl⟩:=h;rfl
 |f g cs=>simp only[R]at h;obtain⟨c,rfl,_⟩:=h;rfl
 |i t d=>simp only[R]at h
theorem RL.oneCell:∀{ps:List DV} {xs:List Value},ps.all DV.one=true->RL β ps xs->∀x∈xs,x.oneCell'=true
 |[],_,_,h=>by simp only[RL]at h;subst h;simp
 |p::ps,_,h1,h=>by
  simp only[RL]at h
  obtain⟨x,xs,rfl,h2,h3⟩:=h
  simp only[List.all_cons,Bool.and_eq_true]at h1;intro y hy;rcases List.mem_cons.1 hy with rfl|hy
  ·exact R.oneCell h1.1 h2
  ·exact RL.oneCell h1.2 h3 y hy
theorem rN{d:DV}{x:Value}{cs:List DV}(h:rF d=some cs)(hr:R β d x):RL β cs x.cells.toList/\∀y∈x.cells.toList,y.oneCell'=true:=by
 have single:d.one=true->x.cells=#[x]/\x.oneCell'=true:=by
  intro h1
  have:=R.oneCell h1 hr
  refine⟨?_,this⟩
  cases x<;>simp_all[Value.oneCell',Value.cells]
 cases d with
 |a l=>
  simp only[rF]at h;cases ho:l.all DV.one with
  |false=>simp[ho]at h
  |true=>
   simp only[ho,zc,zo]at h;subst h;simp only[R]at hr
   obtain⟨c,rfl,hc⟩:=hr
   exact⟨hc,RL.oneCell ho hc⟩
 |_=>
  simp only[rF]at h;cases ho:DV.one _ with
  |false=>rw[ho]at h;simp at h
  |true=>
   rw[ho]at h;simp only[zc,zo]at h;subst h;rw[(single ho).1];simp only[RL]
   exact⟨⟨x,[],rfl,hr,rfl⟩,by simpa using(single ho).2⟩
theorem wt{cells new:List DV}{cs ns:List Value}(hc:RL β cells cs)(hn:RL β new ns)(off:Nat):
  RL β (mN cells off new) (cs.take off++ns++cs.drop (off+ns.length)):=by
 unfold mN;rw[hn.length]
 exact((hc.take off).append hn).append (hc.drop _)
theorem uh{cells new:List DV}{off:Nat}(h:off+new.length<=cells.length):(mN cells off new).length=cells.length:=by
 simp only[mN,List.length_append,List.length_take,List.length_drop];omega
theorem sT{place:Nat->Option (Nat×Nat)}:∀{parts:List (Nat×DV)} {vals:List (Nat×Value)} {cells out:List DV} {cs:Array Value},
  qh place cells parts=some out->RL β cells cs.toList->parts.map (·.1)=vals.map (·.1)->RL β (parts.map (·.2)) (vals.map (·.2))->
  ∃cs',Instr.fill place cs vals=some cs'/\RL β out cs'.toList/\((∀x∈cs.toList,x.oneCell'=true)->∀x∈cs'.toList,x.oneCell'=true)
 |[],vals,cells,out,cs,h,hc,hi,hv=>by
  simp only[qh,zo]at h;subst h
  have:vals=[]:=by cases vals<;>simp_all
  subst this
  exact⟨cs,rfl,hc,id⟩
 |(i,p)::r,[],cells,out,cs,h,hc,hi,hv=>by simp at hi
 |(i,p)::r,(j,v)::vs,cells,out,cs,h,hc,hi,hv=>by
  simp only[List.map_cons,List.cons.injEq]at hi
  obtain⟨rfl,hi⟩:=hi
  simp only[List.map_cons,RL]at hv
  obtain⟨x,xs,hxe,hpx,hrest⟩:=hv
  simp only[List.cons.injEq]at hxe
  obtain⟨rfl,rfl⟩:=hxe
  simp only[qh]at h;split at h
  ·rename_i off size pc hpl hpc;cases hb:(Nat.beq pc.length size&&Nat.ble (off+size) cells.length)with
   |false=>simp[hb]at h
   |true=>
    simp only[hb,zc]at h;simp only[Bool.and_eq_true]at hb;have h1:pc.length=size:=Nat.eq_of_beq_eq_true hb.1;have h2:off+size<=cells.length:=Nat.le_of_ble_eq_true hb.2
    obtain⟨hpcr,hpone⟩:=rN hpc hpx
    have hvl:v.cells.size=size:=by have:=hpcr.length;simp at this;omega
    have hcl:cs.size=cells.length:=by have:=hc.length;simpa using this
    have hfold:=rx off v.cells.toList 0 cs (by simp;omega)
    have hz:v.cells.zipIdx.foldl (fun cs (c,j)=>cs.setIfInBounds (off+j) c) cs=(v.cells.toList.zipIdx 0).foldl (fun cs (c,j)=>cs.setIfInBounds (off+j) c) cs:=by
     rw[<-Array.foldl_toList];simp
    have hrep:RL β (mN cells off pc) (v.cells.zipIdx.foldl (fun cs (c,j)=>cs.setIfInBounds (off+j) c) cs).toList:=by
     rw[hz,hfold];simpa using wt hc hpcr off
    obtain⟨cs',hf,ho,hone⟩:=sT h hrep hi hrest
    refine⟨cs',?_,ho,fun hall=>hone ?_⟩
    ·simp only[Instr.fill,hpl];rw[zy (by simp[hvl];omega)];exact hf
    ·rw[hz,hfold];intro y hy;simp only[Nat.add_zero,List.mem_append]at hy;rcases hy with(hy|hy)|hy
     ·exact hall y (List.mem_of_mem_take hy)
     ·exact hpone y hy
     ·exact hall y (List.mem_of_mem_drop hy)
  ·cases h
theorem partsD_rep{ev:Operand->DV}{ρ:Operand->Value}(ps:List (Nat×Operand))(h:∀x∈ps.map (·.2),R β (ev x) (ρ x)):
  (ps.map fun p=>(p.1,ev p.2)).map (·.1)=(ps.map fun p=>(p.1,ρ p.2)).map (·.1)/\RL β ((ps.map fun p=>(p.1,ev p.2)).map (·.2)) ((ps.map fun p=>(p.1,ρ p.2)).map (·.2)):=by
 induction ps with
 |nil=>simp[RL]
 |cons p ps ih=>
  have ih':=ih fun x hx=>h x (by simp only[List.map_cons,List.mem_cons];exact .inr hx)
  refine⟨by simp,?_⟩
  simp only[List.map_cons,RL]
  exact⟨_,_,rfl,h p.2 (by simp),ih'.2⟩
theorem buildD_sound{P:Program}{T:TT}(hT:T.Ok P){ev:Operand->DV}{ρ:Operand->Value}(w:World){t:TypeId}{ps:Array (Nat×Operand)}{r:DV}
  (h:buildD T t (partsD ev ps)=some r) (he:∀x∈ps.toList.map (·.2),R β (ev x) (ρ x)):
  ∃v,(Instr.build t (ps.map fun p=>(p.1,ρ p.2))).run P w= .ok v w/\R β r v:=by
 unfold buildD at h;split at h
 ·rename_i ti hti;have hk:=hT.get hti;split at h
  ·rename_i fs hfs;split at h
   ·rename_i l hl;cases hf:qh (fun(i:Nat)=>l[i]?) (nv ti) (partsD ev ps)with
    |none=>simp[hf]at h
    |some out=>
     simp only[hf,Option.map_some,zo]at h;subst h
     obtain⟨h1,h2⟩:=partsD_rep (β:=β) ps.toList he
     have hu:=hk.rund w;rw[hfs]at hu
     obtain⟨cs',hfill,hrep,_⟩:=sT (cs:=ti.zero.cells) (vals:=ps.toList.map fun(p:Nat×Operand)=>(p.1,ρ p.2)) hf (oY _) h1 h2
     refine⟨.agg cs',?_,by simp only[R];exact⟨cs',rfl,hrep⟩⟩
     have hpl:(fs.mapM fun f=>(do pure (f.offset,<-sizeOf f.type):Sem (Nat×Nat))).run P w= .ok l.toArray w:=by
      rw[Array.mapM_eq_mapM_toList,Sem.run_map,tY hT w hl];rfl
     have hgl:(fun(i:Nat)=>l.toArray[i]?)=fun(i:Nat)=>l[i]?:=by funext i;simp
     simp only[Instr.build,Sem.run_bind,hk.rzero w,Result.andThen_ok,hu,hpl,Array.toList_map];have e3:Instr.fill (fun(i:Nat)=>l.toArray[i]?) ti.zero.cells (ps.toList.map fun p=>(p.1,ρ p.2))=some cs':=by rw[hgl];exact hfill
     rw[e3];rfl
   ·cases h
  ·cases h
 ·cases h
end
theorem Tr.get_set{α:Type}:∀(n:Nat) (t:Tr α) (k:Nat) (x:α) (j:Nat),(Tr.set n t k x).get j=none\/(j=k/\(Tr.set n t k x).get j=some x)\/(j≠k/\(Tr.set n t k x).get j=t.get j)
 |0,_,_,_,_=>.inl Z
 |n+1,t,k,x,j=>by
  have key:∀(l:Tr α) (v:Option α) (r:Tr α),t.get j=(Tr.node l v r).get j->Tr.set (n+1) t k x=(bif Nat.beq k 0 then .node l (some x) r else bif Nat.beq (k%2) 1 then .node (Tr.set n l (k/2) x) v r else .node l v (Tr.set n r (k/2-1) x))->
    (Tr.set (n+1) t k x).get j=none\/(j=k/\(Tr.set (n+1) t k x).get j=some x)\/(j≠k/\(Tr.set (n+1) t k x).get j=t.get j):=by
   intro l v r ht hs;rw[hs,ht];cases h0:Nat.beq k 0 with
   |true=>
    have hk:=Nat.eq_of_beq_eq_true h0;simp only[zc,Tr.get];cases g0:Nat.beq j 0 with
    |true=>
     have hj:=Nat.eq_of_beq_eq_true g0;exact .inr (.inl ⟨by omega,rfl⟩)
    |false=>
     have hj:=Nat.ne_of_beq_eq_false g0;exact .inr (.inr ⟨by omega,rfl⟩)
   |false=>
    have hk:=Nat.ne_of_beq_eq_false h0;cases h1:Nat.beq (k%2) 1 with
    |true=>
     have hk1:=Nat.eq_of_beq_eq_true h1;simp only[zd,zc,Tr.get];cases g0:Nat.beq j 0 with
     |true=>
      have hj:=Nat.eq_of_beq_eq_true g0;exact .inr (.inr ⟨by omega,rfl⟩)
     |false=>
      have hj:=Nat.ne_of_beq_eq_false g0;cases g1:Nat.beq (j%2) 1 with
      |true=>
       have hj1:=Nat.eq_of_beq_eq_true g1;simp only[zd,zc];rcases Tr.get_set n l (k/2) x (j/2)with h|⟨h,e⟩|⟨h,e⟩
       ·exact .inl h
       ·exact .inr (.inl ⟨by omega,e⟩)
       ·exact .inr (.inr ⟨by omega,e⟩)
      |false=>
       have hj1:=Nat.ne_of_beq_eq_false g1;simp only[zd];exact .inr (.inr ⟨fun e=>hj1 (e▸hk1),trivial⟩)
    |false=>
     have hk1:=Nat.ne_of_beq_eq_false h1;simp only[zd,Tr.get];cases g0:Nat.beq j 0 with
     |true=>
      have hj:=Nat.eq_of_beq_eq_true g0;exact .inr (.inr ⟨by omega,rfl⟩)
     |false=>
      have hj:=Nat.ne_of_beq_eq_false g0;cases g1:Nat.beq (j%2) 1 with
      |true=>
       have hj1:=Nat.eq_of_beq_eq_true g1;simp only[zd,zc];exact .inr (.inr ⟨fun e=>hk1 (e▸hj1),trivial⟩)
      |false=>
       have hj1:=Nat.ne_of_beq_eq_false g1;simp only[zd];rcases Tr.get_set n r (k/2-1) x (j/2-1)with h|⟨h,e⟩|⟨h,e⟩
       ·exact .inl h
       ·exact .inr (.inl ⟨by omega,e⟩)
       ·exact .inr (.inr ⟨by omega,e⟩)
  cases t with
  |nil=>
   refine key .nil none .nil ?_ Z;simp only[Tr.get];cases Nat.beq j 0<;>cases Nat.beq (j%2) 1<;>rfl
  |node l v r=>exact key l v r Z Z
theorem ju{h:Tr (Option Blk)}{id:Nat}{x:Option Blk}{j:Nat}{k:Blk}(e:fp (h.set 24 id x) j=some k):(j=id/\x=some k)\/(j≠id/\fp h j=some k):=by
 unfold fp at e⊢;rcases Tr.get_set 24 h id x j with hn|⟨rfl,hs⟩|⟨hne,hs⟩
 ·rw[hn]at e;cases e
 ·rw[hs]at e;exact .inl ⟨rfl,e⟩
 ·rw[hs]at e;exact .inr ⟨hne,e⟩
def Tr.fits{α:Type}:Nat->Tr α->Prop
 |_,.nil=>True
 |0,.node _ _ _=>False
 |n+1,.node l _ r=>l.fits n/\r.fits n
theorem Tr.set_fits{α:Type}:∀(n:Nat) (t:Tr α) (k:Nat) (x:α),t.fits n->(Tr.set n t k x).fits n
 |0,_,_,_,_=>by simp[Tr.set,Tr.fits]
 |n+1,.nil,k,x,_=>by
  simp only[Tr.set]
  cases Nat.beq k 0<;>cases Nat.beq (k%2) 1<;>simp only[zc,zd,Tr.fits]<;>
   first|exact⟨trivial,trivial⟩|exact⟨Tr.set_fits n .nil _ x (by simp[Tr.fits]),trivial⟩|exact⟨trivial,Tr.set_fits n .nil _ x (by simp[Tr.fits])⟩|(cases n<;>simp[Tr.fits])
 |n+1,.node l v r,k,x,h=>by
  simp only[Tr.fits]at h;simp only[Tr.set]
  cases Nat.beq k 0<;>cases Nat.beq (k%2) 1<;>simp only[zc,zd,Tr.fits]<;>
   first|exact h|exact⟨Tr.set_fits n l _ x h.1,h.2⟩|exact⟨h.1,Tr.set_fits n r _ x h.2⟩
theorem Tr.get_same{α:Type}:∀(n:Nat) (t:Tr α) (k:Nat) (x:α),k+1<2^n->(Tr.set n t k x).get k=some x
 |0,_,k,_,h=>by simp at h
 |n+1,t,k,x,h=>by
  have key:∀(l:Tr α) (v:Option α) (r:Tr α),((bif Nat.beq k 0 then Tr.node l (some x) r else bif Nat.beq (k%2) 1 then .node (Tr.set n l (k/2) x) v r else .node l v (Tr.set n r (k/2-1) x)):Tr α).get k=some x:=by
   intro l v r;have hp:2^(n+1)=2*2^n:=by rw[Nat.pow_succ];omega
   cases h0:Nat.beq k 0 with
   |true=>simp[Tr.get,h0]
   |false=>
    have hk:=Nat.ne_of_beq_eq_false h0;cases h1:Nat.beq (k%2) 1 with
    |true=>
     have hk1:=Nat.eq_of_beq_eq_true h1;simp only[zd,zc,Tr.get,h0,h1];exact Tr.get_same n l (k/2) x (by omega)
    |false=>
     have:=Nat.ne_of_beq_eq_false h1
     simp only[zd,Tr.get,h0,h1];exact Tr.get_same n r (k/2-1) x (by omega)
  cases t with
  |nil=>exact key .nil none .nil
  |node l v r=>exact key l v r
theorem Tr.get_other{α:Type}:∀(n:Nat) (t:Tr α) (k:Nat) (x:α) (j:Nat),t.fits n->j≠k->(k+1<2^n)->(Tr.set n t k x).get j=t.get j
 |0,_,k,_,_,_,_,h=>by simp at h
 |n+1,t,k,x,j,hf,hj,h=>by
  have hp:2^(n+1)=2*2^n:=by rw[Nat.pow_succ];omega
  have key:∀(l:Tr α) (v:Option α) (r:Tr α),l.fits n->r.fits n->((bif Nat.beq k 0 then Tr.node l (some x) r else bif Nat.beq (k%2) 1 then .node (Tr.set n l (k/2) x) v r else .node l v (Tr.set n r (k/2-1) x)):Tr α).get j=(Tr.node l v r).get j:=by
   intro l v r hl hr;cases h0:Nat.beq k 0 with
   |true=>
    have hk:=Nat.eq_of_beq_eq_true h0;have g0:Nat.beq j 0=false:=by cases g:Nat.beq j 0 with|false=>rfl|true=>exact absurd (Nat.eq_of_beq_eq_true g) (by omega)
    simp[Tr.get,g0]
   |false=>
    have hk:=Nat.ne_of_beq_eq_false h0;cases h1:Nat.beq (k%2) 1 with
    |true=>
     have hk1:=Nat.eq_of_beq_eq_true h1;simp only[zd,zc,Tr.get];cases g0:Nat.beq j 0 with
     |true=>rfl
     |false=>
      cases g1:Nat.beq (j%2) 1 with
      |true=>
       have hj1:=Nat.eq_of_beq_eq_true g1;simp only[zd,zc];exact Tr.get_other n l (k/2) x (j/2) hl (by omega) (by omega)
      |false=>rfl
    |false=>
     have hk1:=Nat.ne_of_beq_eq_false h1;simp only[zd,Tr.get];cases g0:Nat.beq j 0 with
     |true=>rfl
     |false=>
      have hj0:=Nat.ne_of_beq_eq_false g0;cases g1:Nat.beq (j%2) 1 with
      |true=>rfl
      |false=>
       have hj1:=Nat.ne_of_beq_eq_false g1;simp only[zd];exact Tr.get_other n r (k/2-1) x (j/2-1) hr (by omega) (by omega)
  cases t with
  |nil=>
   have e:=key .nil none .nil (by cases n<;>simp[Tr.fits]) (by cases n<;>simp[Tr.fits])
   have e2:(Tr.node .nil none .nil:Tr α).get j=(Tr.nil:Tr α).get j:=by
    simp only[Tr.get];cases Nat.beq j 0<;>cases Nat.beq (j%2) 1<;>rfl
   exact e.trans e2
  |node l v r=>
   simp only[Tr.fits]at hf;exact key l v r hf.1 hf.2
def BOk(β:Be)(w:World)(id:Nat)(k:Blk):Prop:=
 ∃b c arr fz,β id=some (b,c)/\w.heap[b]? =some (.cells arr k.e fz)/\(k.wr=true->fz=(0,0))/\k.cells.length<=arr.size/\RL β k.cells (arr.toList.take k.cells.length)/\
  (∀m,k.cap=some m->c=m)/\(k.sz≠0->arr.size=c*k.sz)
structure WR(W0:World)(B:Nat->Option Go.Obj)(β:Be)(H:Hp)(w:World):Prop where
 os:w.os=W0.os
 tape:w.tape=W0.tape
 output:w.output=W0.output
 size:W0.heap.size<=w.heap.size
 prot:∀b o,B b=some o->w.heap[b]? =some o
 dom:∀id b c,β id=some (b,c)->id<H.nx/\b<w.heap.size
 blk:∀id k,fp H.h id=some k->BOk β w id k
 own:∀id k b c,fp H.h id=some k->β id=some (b,c)->B b=none
 inj:∀id id' k k' b c c',fp H.h id=some k->fp H.h id'=some k'->β id=some (b,c)->β id'=some (b,c')->id=id'
 fit:H.h.fits 24
structure Fr(w w':World)(b:Nat):Prop where
 os:w'.os=w.os
 tape:w'.tape=w.tape
 output:w'.output=w.output
 size:w.heap.size<=w'.heap.size
 other:∀b',b'≠b->b'<w.heap.size->w'.heap[b']? =w.heap[b']?
theorem Fr.setRow(w:World)(b:Nat)(arr:Array Value):Fr w (w.setRow b arr) b:=
 ⟨rfl,rfl,rfl,by simp,fun b' h _=>setRow_other w b b' _ h⟩
theorem Fr.alloc(w:World)(hd:World)(hdw:hd=w\/hd=w.drew)(o:Go.Obj):Fr w (hd.alloc o) w.heap.size:=by
 have e1:hd.heap=w.heap:=by rcases hdw with rfl|rfl<;>rfl
 have hsz:hd.heap.size=w.heap.size:=by rw[e1]
 refine⟨by rcases hdw with rfl|rfl<;>rfl,by rcases hdw with rfl|rfl<;>rfl,by rcases hdw with rfl|rfl<;>rfl,?_,fun b' _ hb'=>?_⟩
 ·rw[oW,hsz];omega
 ·rw[heap_alloc_old hd _ (by rw[hsz];exact hb'),e1]
def updB(β:Be)(k:Nat)(x:Nat×Nat):Be:=fun j=>if j=k then some x else β j
section
variable{W0:World}{B:Nat->Option Go.Obj}{β:Be}{H:Hp}{w:World}
theorem WR.drew(hw:WR W0 B β H w):WR W0 B β H w.drew:=
 ⟨hw.os,hw.tape,hw.output,hw.size,hw.prot,hw.dom,hw.blk,hw.own,hw.inj,hw.fit⟩
theorem WR.fresh(hw:WR W0 B β H w):B w.heap.size=none:=by
 cases h:B w.heap.size with
 |none=>rfl
 |some o=>
  have:=(Array.getElem?_eq_some_iff.1 (hw.prot _ _ h)).1
  exact absurd this (Nat.lt_irrefl _)
theorem le_upd{id:Nat}(hid:β id=none)(x:Nat×Nat):β.le (updB β id x):=by
 intro j y hj;simp only[updB];by_cases e:j=id
 ·subst e;rw[hid]at hj;cases hj
 ·rw[zy e];exact hj
theorem ext_upd{id:Nat}(hid:β id=none)(x:Nat×Nat):Ext β (updB β id x) id (id+1):=
 ⟨le_upd hid x,fun j hj=>by simp only[updB];rw[zy (by omega)],Nat.le_succ _⟩
theorem WR.nx_none(hw:WR W0 B β H w):β H.nx=none:=by
 cases h:β H.nx with
 |none=>rfl
 |some x=>exact absurd (hw.dom _ x.1 x.2 h).1 (Nat.lt_irrefl _)
theorem WR.put(hw:WR W0 B β H w){w':World}{b c id nx:Nat}{arr:Array Value}{fz:Nat×Nat}{k:Blk}(hid:β id=none)(hnx:H.nx<=nx)(hlt:id<nx)(hlook:∀k,fp H.h id≠some k)(hB:B b=none)(hfree:∀j k c,fp H.h j=some k->β j≠some (b,c))
  (hf:Fr w w' b) (hnew:w'.heap[b]? =some (.cells arr k.e fz))
  (hfz:k.wr=true->fz=(0,0)) (hlen:k.cells.length<=arr.size) (hr:RL β k.cells (arr.toList.take k.cells.length)) (hc:∀m,k.cap=some m->c=m) (hs:k.sz≠0->arr.size=c*k.sz):
  WR W0 B (updB β id (b,c)) ⟨H.h.set 24 id (some k),nx⟩ w':=by
 have hle:=le_upd hid (b,c);have hbl:b<w'.heap.size:=(Array.getElem?_eq_some_iff.1 hnew).1
 have same:∀j b' c',j≠id->updB β id (b,c) j=some (b',c')->β j=some (b',c'):=by
  intro j b' c' hj h;simpa only[updB,zy hj]using h
 have new:∀b' c',updB β id (b,c) id=some (b',c')->b'=b/\c'=c:=by
  intro b' c' h;simp only[updB,if_true,zo,Prod.mk.injEq]at h
  exact⟨h.1.symm,h.2.symm⟩
 refine⟨hf.os.trans hw.os,hf.tape.trans hw.tape,hf.output.trans hw.output,Nat.le_trans hw.size hf.size,?_,?_,?_,?_,?_,Tr.set_fits _ _ _ _ hw.fit⟩
 ·intro b' o hb';have h1:=hw.prot b' o hb';rw[hf.other b' (fun e=>by rw[e,hB]at hb';cases hb') (Array.getElem?_eq_some_iff.1 h1).1];exact h1
 ·intro j b' c' hj;show j<nx/\_;by_cases e:j=id
  ·subst e
   obtain⟨rfl,rfl⟩:=new _ _ hj
   exact⟨hlt,hbl⟩
  ·obtain⟨h1,h2⟩:=hw.dom j b' c' (same j b' c' e hj)
   exact⟨by omega,Nat.lt_of_lt_of_le h2 hf.size⟩
 ·intro j k' hj;rcases ju hj with⟨rfl,e⟩|⟨hne,e⟩
  ·cases e
   exact⟨b,c,arr,fz,by simp[updB],hnew,hfz,hlen,hr.mono hle,hc,hs⟩
  ·obtain⟨b',c',arr',fz',h1,h2,h3,h4,h5,h6,h7⟩:=hw.blk j k' e
   have hb':b'≠b:=fun eb=>hfree j k' c' e (by rw[h1,eb])
   exact⟨b',c',arr',fz',hle _ _ h1,(hf.other b' hb' (hw.dom j b' c' h1).2).trans h2,h3,h4,h5.mono hle,h6,h7⟩
 ·intro j k' b' c' hj h1;rcases ju hj with⟨e,_⟩|⟨e,hk⟩
  ·rw[e]at h1
   obtain⟨rfl,_⟩:=new _ _ h1
   exact hB
  ·exact hw.own j k' b' c' hk (same j _ _ e h1)
 ·intro j j' k1 k2 b1 c1 c2 hj hj' h1 h2;rcases ju hj with⟨e,_⟩|⟨e,hk⟩<;>rcases ju hj' with⟨e',_⟩|⟨e',hk'⟩
  ·rw[e,e']
  ·rw[e]at h1
   obtain⟨rfl,_⟩:=new _ _ h1
   exact absurd (same j' _ _ e' h2) (hfree j' k2 c2 hk')
  ·rw[e']at h2
   obtain⟨rfl,_⟩:=new _ _ h2
   exact absurd (same j _ _ e h1) (hfree j k1 c1 hk)
  ·exact hw.inj j j' k1 k2 b1 c1 c2 hk hk' (same j _ _ e h1) (same j' _ _ e' h2)
theorem WR.nlook(hw:WR W0 B β H w){id:Nat}(hid:β id=none):∀k,fp H.h id≠some k:=by
 intro k h
 obtain⟨b,c,_,_,h1,_⟩:=hw.blk id k h
 rw[hid]at h1;cases h1
theorem WR.new(hw:WR W0 B β H w)(hd:World)(hdw:hd=w\/hd=w.drew){c:Nat}{arr:Array Value}{fz:Nat×Nat}{k:Blk}(hfz:k.wr=true->fz=(0,0))(hlen:k.cells.length<=arr.size)
  (hr:RL β k.cells (arr.toList.take k.cells.length)) (hc:∀m,k.cap=some m->c=m) (hs:k.sz≠0->arr.size=c*k.sz):
  Ext β (updB β H.nx (w.heap.size,c)) H.nx (H.nx+1)/\WR W0 B (updB β H.nx (w.heap.size,c)) (newD H k) (hd.alloc (.cells arr k.e fz)):=by
 refine⟨ext_upd hw.nx_none _,hw.put hw.nx_none (Nat.le_succ _) (Nat.lt_succ_self _) (hw.nlook hw.nx_none) hw.fresh (fun j k c _ h=>absurd (hw.dom j _ _ h).2 (Nat.lt_irrefl _)) (Fr.alloc w hd hdw _) ?_ hfz hlen hr hc hs⟩
 have e1:hd.heap.size=w.heap.size:=by rcases hdw with rfl|rfl<;>rfl
 rw[<-e1];exact heap_alloc_new hd _
theorem WR.write(hw:WR W0 B β H w){id b c:Nat}{k:Blk}(hid:fp H.h id=some k)(hβ:β id=some (b,c)){arr:Array Value}{cells:List DV}(hcur:∃cur,w.heap[b]? =some (.cells cur k.e (0,0))/\cur.size=arr.size)
  (hlen:cells.length<=arr.size) (hr:RL β cells (arr.toList.take cells.length)):WR W0 B β ⟨H.h.set 24 id (some ⟨k.e,k.sz,k.cap,k.wr,cells⟩),H.nx⟩ (w.setRow b arr):=by
 obtain⟨cur,hcur,hsz⟩:=hcur
 have old:∀j k',fp (H.h.set 24 id (some ⟨k.e,k.sz,k.cap,k.wr,cells⟩)) j=some k'->∃k'',fp H.h j=some k'':=by
  intro j k' hj;rcases ju hj with⟨rfl,e⟩|⟨_,e⟩
  ·exact⟨k,hid⟩
  ·exact⟨k',e⟩
 refine⟨hw.os,hw.tape,hw.output,by simpa using hw.size,fun b' o hb'=>?_,fun j b' c' hj=>?_,fun j k' hj=>?_,fun j k' b' c' hj h1=>?_,fun j j' k1 k2 b1 c1 c2 hj hj' h1 h2=>?_,Tr.set_fits _ _ _ _ hw.fit⟩
 ·have hne:b'≠b:=fun e=>by
   rw[e,hw.own id k b c hid hβ]at hb';cases hb'
  rw[setRow_other w b b' _ hne];exact hw.prot b' o hb'
 ·simpa using hw.dom j b' c' hj
 ·obtain⟨b0,c0,arr0,fz0,g1,g2,g3,g4,g5,g6,g7⟩:=hw.blk id k hid
  rw[hβ]at g1;cases g1;rw[hcur]at g2;cases g2;rcases ju hj with⟨rfl,e⟩|⟨hne,e⟩
  ·cases e
   exact⟨b,c,arr,(0,0),hβ,setRow_heap w b cur arr _ _ hcur,fun _=>rfl,hlen,hr,g6,fun h=>by rw[<-hsz];exact g7 h⟩
  ·obtain⟨b',c',arr',fz',h1,h2,h3⟩:=hw.blk j k' e
   have hb':b'≠b:=fun eb=>hne (hw.inj j id k' k b c' c e hid (by rw[h1,eb]) hβ)
   exact⟨b',c',arr',fz',h1,(setRow_other w b b' _ hb').trans h2,h3⟩
 ·obtain⟨k'',hk''⟩:=old j k' hj
  exact hw.own j k'' b' c' hk'' h1
 ·obtain⟨k1',hk1⟩:=old j k1 hj
  obtain⟨k2',hk2⟩:=old j' k2 hj'
  exact hw.inj j j' k1' k2' b1 c1 c2 hk1 hk2 h1 h2
theorem WR.less(hw:WR W0 B β H w){H':Hp}(hl:∀id k,fp H'.h id=some k->fp H.h id=some k)(hnx:H.nx<=H'.nx)(hf:H'.h.fits 24):WR W0 B β H' w:=
 ⟨hw.os,hw.tape,hw.output,hw.size,hw.prot,fun id b c h=>⟨Nat.lt_of_lt_of_le (hw.dom id b c h).1 hnx,(hw.dom id b c h).2⟩,fun j k' hj=>hw.blk j k' (hl _ _ hj),fun j k b c hj=>hw.own j k b c (hl _ _ hj),
  fun j j' k1 k2 b1 c1 c2 hj hj'=>hw.inj j j' k1 k2 b1 c1 c2 (hl _ _ hj) (hl _ _ hj'),hf⟩
theorem look_drop{h:Tr (Option Blk)}{id j:Nat}{k:Blk}(e:fp (h.set 24 id none) j=some k):j≠id/\fp h j=some k:=by
 rcases ju e with⟨_,e1⟩|⟨hne,e1⟩
 ·cases e1
 ·exact⟨hne,e1⟩
theorem WR.drop(hw:WR W0 B β H w)(id:Nat):WR W0 B β ⟨H.h.set 24 id none,H.nx⟩ w:=
 hw.less (fun _ _ h=>(look_drop h).2) (Nat.le_refl _) (Tr.set_fits _ _ _ _ hw.fit)
theorem WR.cell(hw:WR W0 B β H w){id b c:Nat}{k:Blk}(hid:fp H.h id=some k)(hβ:β id=some (b,c)):
  ∃xs:List Value,RL β k.cells xs/\∀(j:Nat) (x:Value),xs[j]? =some x->w.cell? ⟨b,j,none⟩=some x:=by
 obtain⟨b0,c0,arr,fz,g1,g2,g3,g4,g5,_⟩:=hw.blk id k hid
 rw[hβ]at g1;cases g1
 refine⟨_,g5,fun j x hj=>?_⟩
 rw[cell_of_row w b j arr k.e fz g2];rw[List.getElem?_take]at hj;split at hj
 ·simpa using hj
 ·cases hj
end
end
end Go.Cx
