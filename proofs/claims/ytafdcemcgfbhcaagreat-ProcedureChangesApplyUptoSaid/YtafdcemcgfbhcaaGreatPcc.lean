/- procedureChangesApplyUpto_holds, part 3: the layer, the plain functions and what they compute; conditions as in the statement. -/
import Derived.Test.YtafdcemcgfbhcaaGreatPcb
set_option maxHeartbeats 4000000
namespace Go.Ab
noncomputable section
section
variable{P:Program}{T:TT}
theorem detS_idxO(hT:T.Ok P){o:Oper}{ev:Operand->PV}{H:Heap}{t:TypeId}{x i:Operand}(ho:o.op= .indexAddr t x i){ti ei:TInfo}{e:TypeId}(hti:T.get t=some ti)(hd:ti.desc= .slice e)(hei:T.get e=some ei)
  {tag:Nat} {g:OwnRef} {len:Nat} (hx:ev x= .own tag g len) {k:IntKind} {j:Int} (hi:ev i= .val (.int k j)) (hj:0<=j/\j.toNat<len) (hb:∃b,g.blk=some b):DetS P o ev H (.optr tag g ei.size j.toNat 0):=by
 intro C M a w _ he;have hxr:=he x (by rw[ho];simp[Op.operands]);have hir:=he i (by rw[ho];simp[Op.operands]);rw[hx]at hxr;rw[hi]at hir;simp only[Rep]at hxr hir
 obtain⟨b,hb⟩:=hb
 have hu:=(hT.get hti).rund w;rw[hd]at hu;have hsz:=(hT.get hei).rsize w;have h2:j<(len:Int):=by omega
 refine⟨.pointer (some ⟨b,j.toNat*ei.size,none⟩),?_,?_⟩
 ·simp[execOp,ho,Instr.indexAt,hir,hxr.2,OwnRef.val,hb,asIntOf,hu,hj.1,h2,hsz,fa]
 ·simp only[Rep]
  exact⟨trivial,b,hb,by simp⟩
theorem pE{k:Nat}:∀{rows:List (List PV)} {j:Nat} {r:List PV},(∀q∈rows,q.length=k)->rows[j]? =some r->∀i p,r[i]? =some p->rows.flatten[j*k+i]? =some p
 |[],j,r,_,h,_,_,_=>by simp at h
 |q::rows,0,r,hl,h,i,p,hp=>by
  simp only[List.getElem?_cons_zero,zo]at h;subst h;simp only[List.flatten_cons,Nat.zero_mul,Nat.zero_add];rw[List.getElem?_append_left (zg.1 hp).1];exact hp
 |q::rows,j+1,r,hl,h,i,p,hp=>by
  have hq:=hl q (by simp)
  have:=pE (rows:=rows) (j:=j) (fun q hq=>hl q (by simp[hq])) (by simpa using h) i p hp
  simp only[List.flatten_cons];rw[List.getElem?_append_right (by rw[hq,Nat.add_mul];omega),hq,show(j+1)*k+i-k=j*k+i from by rw[Nat.add_mul];omega];exact this
theorem detS_loadO(hT:T.Ok P){o:Oper}{ev:Operand->PV}{H:Heap}{t:TypeId}{x:Operand}(ho:o.op= .load t x){ti:TInfo}(hti:T.get t=some ti){tag:Nat}{g:OwnRef}{k row off:Nat}(hx:ev x= .optr tag g k row off)
  {e:TypeId} {rows:List (List PV)} {wr:Bool} (hob:H.ob tag=some ⟨g,e,rows,wr⟩) {ei:TInfo} (hei:T.get e=some ei) (hk:k=ei.size) {cells:List PV} (hr:rows[row]? =some cells) {r:PV} (hc:il ti off cells=some r):DetS P o ev H r:=by
 intro C M a w hi he;have hxr:=he x (by rw[ho];simp[Op.operands]);rw[hx]at hxr;simp only[Rep]at hxr
 obtain⟨_,b,hb,hv⟩:=hxr
 obtain⟨i,h1,h2,h3,h4⟩:=hi.objs tag _ hob
 obtain⟨i',h5,h6,_,_⟩:=(hT.get hei).info
 simp only at h1 h3 h4;rw[h1]at h5;cases h5;rcases h4 with⟨hn,_⟩|⟨b',cur,hb',hm,hcur,hcs,hlc,hcm,hcr,h1c,_,_⟩
 ·rw[hb]at hn;cases hn
 ·rw[hb]at hb';cases hb';have hlt:row<rows.length:=(zg.1 hr).1;have hcl:cells.length=i.size:=h3 cells (List.mem_of_getElem? hr);have hks:k=i.size:=by rw[hk,h6]
  subst hks
  -- the cells of that row
  have hflat:rows.flatten.length=rows.length*i.size:=by
   have:∀l:List (List PV),(∀q∈l,q.length=i.size)->l.flatten.length=l.length*i.size:=by
    intro l;induction l with
    |nil=>simp
    |cons q l ih=>intro hl;simp[ih fun q hq=>hl q (by simp[hq]),hl q (by simp),Nat.add_mul];omega
   exact this rows h3
  have hseg:aN P M false cells ((cur.toList.take (rows.length*i.size)).drop (row*i.size)|>.take i.size):=by
   have h7:=(hcr.drop (row*i.size)).take i.size
   have e1:(rows.flatten.drop (row*i.size)).take i.size=cells:=by
    apply List.ext_getElem?;intro m;rw[List.getElem?_take];split
    ·rename_i hm;rw[List.getElem?_drop];have hcm:cells[m]? =some cells[m]:=ze (by omega);rw[hcm];exact pE h3 hr m _ hcm
    ·rw[List.getElem?_eq_none (by omega)]
   rwa [e1]at h7
  obtain⟨v,h8,h9⟩:=oM (hT.get hti) w b (row*i.size) off cells _ hseg (fun j y hj=>by
   rw[cell_of_row w b (row*i.size+j) cur e (0,0) hcur];rw[List.getElem?_take]at hj;split at hj
   ·rw[List.getElem?_drop,List.getElem?_take]at hj;split at hj
    ·simpa using hj
    ·cases hj
   ·cases hj) hc
  refine⟨v,?_,h9.slot⟩
  simp[execOp,ho,hv,Instr.loadAt,Instr.sureAddr,h8]
theorem splice_seg{α:Type}(X Y Zq cs:List α)(off:Nat)(h:off+cs.length<=Y.length):
  X++(Y.take off++cs++Y.drop (off+cs.length))++Zq=(X++(Y++Zq)).take (X.length+off)++cs++(X++(Y++Zq)).drop (X.length+off+cs.length):=by
 rw[List.take_length_add_append,List.take_append_of_le_length (by omega),show X.length+off+cs.length=X.length+(off+cs.length)from by omega,List.drop_length_add_append,List.drop_append_of_le_length h];simp
theorem splice_take{α:Type}(l cs:List α)(p N:Nat)(h:p+cs.length<=N)(hN:N<=l.length):
  (l.take p++cs++l.drop (p+cs.length)).take N=(l.take N).take p++cs++(l.take N).drop (p+cs.length):=by
 obtain⟨U,hU⟩:∃U,U=l.take N:=⟨_,rfl⟩
 obtain⟨W,hW⟩:∃W,W=l.drop N:=⟨_,rfl⟩
 have hl:l=U++W:=by rw[hU,hW,List.take_append_drop]
 have hUl:U.length=N:=by rw[hU];simp;omega
 rw[<-hU,hl,List.take_append_of_le_length (l₁:=U) (i:=p) (by omega),List.drop_append_of_le_length (l₁:=U) (i:=p+cs.length) (by omega)];rw[<-List.append_assoc];have e:(U.take p++cs++U.drop (p+cs.length)).length=N:=by simp;omega
 rw[<-e,List.take_left]
def setRow(rows:List (List PV))(row off:Nat)(cs:List PV):List (List PV):=rows.set row (gT (rows.getD row []) off cs)
theorem set_flat{k:Nat}:∀{rows:List (List PV)} {j:Nat} {q:List PV},(∀r∈rows,r.length=k)->q.length=k->j<rows.length->(rows.set j q).flatten=rows.flatten.take (j*k)++q++rows.flatten.drop (j*k+k)
 |[],j,q,_,_,h=>by simp at h
 |r::rows,0,q,hl,hq,_=>by
  have hr:=hl r (by simp);simp only[List.set_cons_zero,List.flatten_cons,Nat.zero_mul,List.take_zero,List.nil_append,Nat.zero_add];rw[<-hr,List.drop_left]
 |r::rows,j+1,q,hl,hq,h=>by
  have hr:=hl r (by simp);have ih:=set_flat (rows:=rows) (j:=j) (q:=q) (fun r hr=>hl r (by simp[hr])) hq (by simpa using h);simp only[List.set_cons_succ,List.flatten_cons,ih];have e1:(j+1)*k=r.length+j*k:=by rw[Nat.add_mul,hr];omega
  have e2:r.length+j*k+k=r.length+(j*k+k):=by omega
  rw[e1,List.take_length_add_append,e2,List.drop_length_add_append];simp
theorem eff_storeO(hT:T.Ok P){o:Oper}{ev:Operand->PV}{H:Heap}{t:TypeId}{x y:Operand}(ho:o.op= .store t x y){ti:TInfo}(hti:T.get t=some ti){tag:Nat}{g:OwnRef}{k row off:Nat}(hx:ev x= .optr tag g k row off)
  {e:TypeId} {rows:List (List PV)} (hob:H.ob tag=some ⟨g,e,rows,true⟩) {ei:TInfo} (hei:T.get e=some ei) (hk:k=ei.size) (hrow:row<rows.length) {py:PV} (hy:PLe P (ev y) py) {cs:List PV} (hc:eo py=some cs) (hf:PV.frozL cs=true) (h1:cs.all PV.one=true) (hl:cs.length=ti.size) (hle:off+ti.size<=ei.size)
  {K:PV->Heap->Prop} (hK:K .any ⟨H.bx,upd H.ob tag (some ⟨g,e,setRow rows row off cs,true⟩)⟩):Eff P o ev H K:=by
 intro C M a w next Q hi he hn
 have hxr:=he x (by rw[ho];simp[Op.operands]);have hyr:=he y (by rw[ho];simp[Op.operands]);rw[hx]at hxr;simp only[Rep]at hxr
 obtain⟨_,b,hb,hv⟩:=hxr
 have hr:=lU hc (hy M _ hyr);have hone:=aN.oneCell h1 hr;have hrf:=aN.unslot hf hr;have hvs:(a.eval y).cells.size=ti.size:=by have:=hr.length;simp at this;omega
 obtain⟨i,g1,g2,g3,g4⟩:=hi.objs tag _ hob
 obtain⟨i',g5,g6,_,_⟩:=(hT.get hei).info
 simp only at g1 g2 g3 g4;rw[g1]at g5;cases g5;rcases g4 with⟨hn',_⟩|⟨b',cur,hb',hm,hcur,hcs,hlc,hcm,hcr,h1c,hw1,hw2⟩
 ·rw[hb]at hn';cases hn'
 rw[hb]at hb';cases hb';have hks:k=i.size:=by rw[hk,g6]
 subst hks;rw[<-g6]at hle
 have hfit:row*i.size+i.size<=rows.length*i.size:=by
  have:=Nat.mul_le_mul_right i.size (show row+1<=rows.length from hrow)
  rw[Nat.add_mul]at this;omega
 have hcap:rows.length*i.size<=cur.size:=by rw[hcs];exact Nat.mul_le_mul_right _ hlc
 have hvl:(a.eval y).cells.toList.length=ti.size:=by simpa using hvs
 have hst:=run_storeCells_at P b (row*i.size+off) e (a.eval y).cells.toList 0 cur w hcur (by rw[hvl];omega) hone;simp only[Nat.add_zero]at hst
 have hrun:(execOp a.eval o).run P w= .ok .skip (w.setRow b (cur.toList.take (row*i.size+off)++(a.eval y).cells.toList++cur.toList.drop (row*i.size+off+(a.eval y).cells.toList.length)).toArray):=by
  simp only[execOp,ho,Instr.storeAt,hv,Instr.sureAddr,Sem.run_bind,Sem.run_pure,Result.andThen_ok,storeVar,(hT.get hti).rsize w,hvs];simp only[ne_eq,not_true_eq_false,if_false];rw[hst];rfl
 unfold Oper.wp;rw[hrun];have hgetD:rows.getD row []=rows[row]:=by simp[hrow]
 have hrl:(rows.getD row []).length=i.size:=by rw[hgetD];exact g3 _ (List.getElem_mem hrow)
 have hspl:(gT (rows.getD row []) off cs).length=i.size:=by
  unfold gT;rw[List.length_append,List.length_append,List.length_take,List.length_drop,hrl,hl];omega
 have hlens:∀r∈setRow rows row off cs,r.length=i.size:=by
  intro r hr';rcases List.mem_or_eq_of_mem_set hr' with h|h
  ·exact g3 r h
  ·rw[h];exact hspl
 have hlen:(setRow rows row off cs).length=rows.length:=by simp[setRow]
 have hflat:rows.flatten.length=rows.length*i.size:=by
  have:∀l:List (List PV),(∀q∈l,q.length=i.size)->l.flatten.length=l.length*i.size:=by
   intro l;induction l with
   |nil=>simp
   |cons q l ih=>intro hl;simp[ih fun q hq=>hl q (by simp[hq]),hl q (by simp),Nat.add_mul];omega
  exact this rows g3
 have hrl2:rows[row].length=i.size:=g3 _ (List.getElem_mem hrow)
 have hrowcells:(rows.flatten.drop (row*i.size)).take i.size=rows.getD row []:=by
  rw[hgetD];apply List.ext_getElem?;intro m;rw[List.getElem?_take];split
  ·rename_i hm';rw[List.getElem?_drop];have hml:m<rows[row].length:=by rw[hrl2];exact hm'
   have hcm':rows[row][m]? =some (rows[row][m]'hml):=ze hml;rw[hcm'];exact pE g3 (ze hrow) m _ hcm'
  ·rw[List.getElem?_eq_none (by rw[hrl2];omega)]
 have hpv:(setRow rows row off cs).flatten=gT rows.flatten (row*i.size+off) cs:=by
  unfold setRow;rw[set_flat g3 hspl hrow,<-hrowcells];have hA:(rows.flatten.take (row*i.size)).length=row*i.size:=by rw[List.length_take,hflat];omega
  have hY:((rows.flatten.drop (row*i.size)).take i.size).length=i.size:=by rw[List.length_take,List.length_drop,hflat];omega
  have hdec:rows.flatten=rows.flatten.take (row*i.size)++((rows.flatten.drop (row*i.size)).take i.size++rows.flatten.drop (row*i.size+i.size)):=by
   rw[<-List.drop_drop,List.take_append_drop,List.take_append_drop]
  have key:=splice_seg (rows.flatten.take (row*i.size)) ((rows.flatten.drop (row*i.size)).take i.size) (rows.flatten.drop (row*i.size+i.size)) cs off (by rw[hY,hl];omega);rw[<-hdec,hA]at key;exact key
 have hvlist:(cur.toList.take (row*i.size+off)++(a.eval y).cells.toList++cur.toList.drop (row*i.size+off+(a.eval y).cells.toList.length)).take (rows.length*i.size)=
   (cur.toList.take (rows.length*i.size)).take (row*i.size+off)++(a.eval y).cells.toList++(cur.toList.take (rows.length*i.size)).drop (row*i.size+off+(a.eval y).cells.toList.length):=by
  exact splice_take cur.toList (a.eval y).cells.toList (row*i.size+off) (rows.length*i.size) (by rw[hvl];omega) (by simpa using hcap)
 refine hn undef _ _ M _ hK (Mem.le_refl M) (hi.set_obj tag _ hob b hb (setRow rows row off cs) true _ i g1 ?_ hlens ?_ ?_ hcm ?_ ?_ ?_ (fun _=>hw1 trivial) ?_) (by simp[Rep])
 ·rw[hlen];exact g2
 ·simp only[List.size_toArray,List.length_append,List.length_take,List.length_drop,Array.length_toList,hvl];omega
 ·rw[hlen];exact hlc
 ·rw[hlen,hpv];simp only;rw[hvlist];exact su hcr hrf (row*i.size+off)
 ·rw[hlen];simp only;rw[hvlist];intro v hv';simp only[List.mem_append]at hv';rcases hv' with(h|h)|h
  ·exact h1c v (List.mem_of_mem_take h)
  ·exact hone v h
  ·exact h1c v (List.mem_of_mem_drop h)
 ·intro o' v' hm';rw[hw1 trivial o']at hm';cases hm'
 ·intro o' _;exact hw1 trivial o'
end
section
variable{P:Program}{ops:Array Oper}{rest:List Oper}{o:Oper}{n:Nat}{s s':Nat->PV}{bx:Nat->Option Box}{ob:Nat->Option Obj}{K:PState->Prop}{T:TT}{rb:RB}{k:Nat}{L:List Nat}
theorem oB(hg:ba ops s o=some true){r:PV}(hd:DetS P o (evS s) ⟨bx,ob⟩ r)(hp:putD n s o.dst r=some s')(h:Ao P ops rest ⟨n,s',bx,ob⟩ K):Ao P ops (o::rest) ⟨n,s,bx,ob⟩ K:=
 eO hg (fun C M a w next Q hi he hn=>by
  obtain⟨v,hrun,hr⟩:=hd C M a w hi he
  unfold Oper.wp;rw[hrun];exact hn v r ⟨bx,ob⟩ M w ⟨s',hp,h⟩ (Mem.le_refl M) hi hr)
theorem nA(ho:ops[k]? =some o)(hg:ba ops s o=some true)(hc:dW o.op= .det){r:PV}(hd:∀bx',DetS P o (evS s) ⟨bx',if rb.o o&&lE o.op then ol ob else fun _=>none⟩ r)(hp:putD n s o.dst r=some s')
  (h:Do P T rb ops L ⟨n,s',bx,ob⟩ K):Do P T rb ops (k::L) ⟨n,s,bx,ob⟩ K:=by
 refine⟨o,ho,true,hg,?_⟩
 simp only[if_true,hc]
 exact⟨r,s',.inr fun bx' _=>hd bx',hp,h⟩
theorem Ao.idxO(hT:T.Ok P)(hg:ba ops s o=some true){t:TypeId}{x i:Operand}(ho:o.op= .indexAddr t x i){ti ei:TInfo}{e:TypeId}(hti:T.get t=some ti)(hd:ti.desc= .slice e)(hei:T.get e=some ei)
  {tag:Nat} {g:OwnRef} {len:Nat} (hx:evS s x= .own tag g len) {kk:IntKind} {j:Int} (hi:evS s i= .val (.int kk j)) (hj:0<=j/\j.toNat<len) (hb:∃b,g.blk=some b) (hp:putD n s o.dst (.optr tag g ei.size j.toNat 0)=some s') (h:Ao P ops rest ⟨n,s',bx,ob⟩ K):
  Ao P ops (o::rest) ⟨n,s,bx,ob⟩ K:=oB hg (detS_idxO hT ho hti hd hei hx hi hj hb) hp h
theorem iV{t:TypeId}{x i:Operand}{ti ei:TInfo}{e:TypeId}{tag:Nat}{g:OwnRef}{len:Nat}{kk:IntKind}{j:Int}(hT:T.Ok P)(hj:0<=j/\j.toNat<len)(hb:∃b,g.blk=some b)(h:Ao P ops rest ⟨n,s',bx,ob⟩ K)(hg:ba ops s o=some true:=by exact Z)(ho:o.op= .indexAddr t x i:=by exact Z)(hti:T.get t=some ti:=by exact Z)(hd:ti.desc= .slice e:=by exact Z)(hei:T.get e=some ei:=by exact Z)(hx:evS s x= .own tag g len:=by exact Z)(hi:evS s i= .val (.int kk j):=by exact Z)(hp:putD n s o.dst (.optr tag g ei.size j.toNat 0)=some s':=by exact Z):Ao P ops (o::rest) ⟨n,s,bx,ob⟩ K:=Ao.idxO hT hg ho hti hd hei hx hi hj hb hp h
theorem Do.idxO(hT:T.Ok P)(ho:ops[k]? =some o)(hg:ba ops s o=some true){t:TypeId}{x i:Operand}(hop:o.op= .indexAddr t x i){ti ei:TInfo}{e:TypeId}(hti:T.get t=some ti)(hd:ti.desc= .slice e)(hei:T.get e=some ei)
  {tag:Nat} {g:OwnRef} {len:Nat} (hx:evS s x= .own tag g len) {kk:IntKind} {j:Int} (hi:evS s i= .val (.int kk j)) (hj:0<=j/\j.toNat<len) (hb:∃b,g.blk=some b) (hp:putD n s o.dst (.optr tag g ei.size j.toNat 0)=some s') (h:Do P T rb ops L ⟨n,s',bx,ob⟩ K):
  Do P T rb ops (k::L) ⟨n,s,bx,ob⟩ K:=nA ho hg (by rw[hop];rfl) (fun _=>detS_idxO hT hop hti hd hei hx hi hj hb) hp h
theorem aT{t:TypeId}{x i:Operand}{ti ei:TInfo}{e:TypeId}{tag:Nat}{g:OwnRef}{len:Nat}{kk:IntKind}{j:Int}(hT:T.Ok P)(hj:0<=j/\j.toNat<len)(hb:∃b,g.blk=some b)(h:Do P T rb ops L ⟨n,s',bx,ob⟩ K)(ho:ops[k]? =some o:=by exact Z)(hg:ba ops s o=some true:=by exact Z)(hop:o.op= .indexAddr t x i:=by exact Z)(hti:T.get t=some ti:=by exact Z)(hd:ti.desc= .slice e:=by exact Z)(hei:T.get e=some ei:=by exact Z)(hx:evS s x= .own tag g len:=by exact Z)(hi:evS s i= .val (.int kk j):=by exact Z)(hp:putD n s o.dst (.optr tag g ei.size j.toNat 0)=some s':=by exact Z):Do P T rb ops (k::L) ⟨n,s,bx,ob⟩ K:=Do.idxO hT ho hg hop hti hd hei hx hi hj hb hp h
theorem vF(hT:T.Ok P)(hg:ba ops s o=some true){t:TypeId}{x:Operand}(ho:o.op= .load t x){ti:TInfo}(hti:T.get t=some ti){tag:Nat}{g:OwnRef}{kz row off:Nat}(hx:evS s x= .optr tag g kz row off)
  {e:TypeId} {rows:List (List PV)} {wr:Bool} (hob:ob tag=some ⟨g,e,rows,wr⟩) {ei:TInfo} (hei:T.get e=some ei) (hk:kz=ei.size) {cells:List PV} (hr:rows[row]? =some cells) {r:PV} (hc:il ti off cells=some r) (hp:putD n s o.dst r=some s') (h:Ao P ops rest ⟨n,s',bx,ob⟩ K):
  Ao P ops (o::rest) ⟨n,s,bx,ob⟩ K:=oB hg (detS_loadO hT ho hti hx hob hei hk hr hc) hp h
theorem lJ{t:TypeId}{x:Operand}{ti:TInfo}{tag:Nat}{g:OwnRef}{kz row off:Nat}{e:TypeId}{rows:List (List PV)}{wr:Bool}{ei:TInfo}{cells:List PV}{r:PV}(hT:T.Ok P)(hr:rows[row]? =some cells)(h:Ao P ops rest ⟨n,s',bx,ob⟩ K)(hg:ba ops s o=some true:=by exact Z)(ho:o.op= .load t x:=by exact Z)(hti:T.get t=some ti:=by exact Z)(hx:evS s x= .optr tag g kz row off:=by exact Z)(hob:ob tag=some ⟨g,e,rows,wr⟩:=by exact Z)(hei:T.get e=some ei:=by exact Z)(hk:kz=ei.size:=by exact Z)(hc:il ti off cells=some r:=by exact Z)(hp:putD n s o.dst r=some s':=by exact Z):Ao P ops (o::rest) ⟨n,s,bx,ob⟩ K:=vF hT hg ho hti hx hob hei hk hr hc hp h
theorem bo(hT:T.Ok P)(ho:ops[k]? =some o)(hro:rb.o o=true)(hg:ba ops s o=some true){t:TypeId}{x:Operand}(hop:o.op= .load t x){ti:TInfo}(hti:T.get t=some ti){tag:Nat}{g:OwnRef}{kz row off:Nat}(hx:evS s x= .optr tag g kz row off)
  {e:TypeId} {rows:List (List PV)} {wr:Bool} (hob:ob tag=some ⟨g,e,rows,wr⟩) {ei:TInfo} (hei:T.get e=some ei) (hk:kz=ei.size) {cells:List PV} (hr:rows[row]? =some cells) {r:PV} (hc:il ti off cells=some r) (hp:putD n s o.dst r=some s') (h:Do P T rb ops L ⟨n,s',bx,ob⟩ K) (hst:Nat.ble 1000000000000000 tag=false:=by rfl):
  Do P T rb ops (k::L) ⟨n,s,bx,ob⟩ K:=by
 refine nA ho hg (by rw[hop];rfl) (fun bx'=>?_) hp h
 have:(rb.o o&&lE o.op)=true:=by rw[hro,hop];rfl
 rw[this];exact detS_loadO hT hop hti hx ((statO_of hst).trans hob) hei hk hr hc
theorem mA(hT:T.Ok P)(hg:ba ops s o=some true){t:TypeId}{x y:Operand}(ho:o.op= .store t x y)(hdst:o.dst=none){ti:TInfo}(hti:T.get t=some ti){tag:Nat}{g:OwnRef}{kz row off:Nat}(hx:evS s x= .optr tag g kz row off)
  {e:TypeId} {rows rows':List (List PV)} (hob:ob tag=some ⟨g,e,rows,true⟩) {ei:TInfo} (hei:T.get e=some ei) (hk:kz=ei.size) (hrow:row<rows.length) {py:PV} (hy:PLe P (evS s y) py) {cs:List PV} (hc:eo py=some cs) (hf:PV.frozL cs=true) (h1:cs.all PV.one=true) (hl:cs.length=ti.size) (hle:off+ti.size<=ei.size)
  (hr:setRow rows row off cs=rows') (h:Ao P ops rest ⟨n,s,bx,upd ob tag (some ⟨g,e,rows',true⟩)⟩ K):Ao P ops (o::rest) ⟨n,s,bx,ob⟩ K:=by
 subst hr;exact eO hg (eff_storeO hT ho hti hx hob hei hk hrow hy hc hf h1 hl hle ⟨s,by simp[hdst,putD],h⟩)
theorem cg(hT:T.Ok P)(ho:ops[k]? =some o)(hg:ba ops s o=some true){t:TypeId}{x y:Operand}(hop:o.op= .store t x y)(hdst:o.dst=none){ti:TInfo}(hti:T.get t=some ti){tag:Nat}{g:OwnRef}{kz row off:Nat}(hx:evS s x= .optr tag g kz row off)
  {e:TypeId} {rows rows':List (List PV)} (hob:ob tag=some ⟨g,e,rows,true⟩) {ei:TInfo} (hei:T.get e=some ei) (hk:kz=ei.size) (hrow:row<rows.length) {py:PV} (hy:PLe P (evS s y) py) {cs:List PV} (hc:eo py=some cs) (hf:PV.frozL cs=true) (h1:cs.all PV.one=true) (hl:cs.length=ti.size) (hle:off+ti.size<=ei.size)
  (hr:setRow rows row off cs=rows') (h:Do P T rb ops L ⟨n,s,bx,upd ob tag (some ⟨g,e,rows',true⟩)⟩ K):Do P T rb ops (k::L) ⟨n,s,bx,ob⟩ K:=by
 subst hr
 refine⟨o,ho,true,hg,?_⟩
 simp only[if_true,hop,dW]
 exact⟨hdst,.inr fun bx'=>eff_storeO hT hop hti hx hob hei hk hrow hy hc hf h1 hl hle ⟨rfl,h⟩⟩
theorem Do.storeOQ{t:TypeId}{x y:Operand}{ti:TInfo}{tag:Nat}{g:OwnRef}{kz row off:Nat}{e:TypeId}{rows rows':List (List PV)}{ei:TInfo}{py:PV}{cs:List PV}(hT:T.Ok P)(hrow:row<rows.length)(hy:PLe P (evS s y) py)(hle:off+ti.size<=ei.size)(hr:setRow rows row off cs=rows')(h:Do P T rb ops L ⟨n,s,bx,upd ob tag (some ⟨g,e,rows',true⟩)⟩ K)(ho:ops[k]? =some o:=by exact Z)(hg:ba ops s o=some true:=by exact Z)(hop:o.op= .store t x y:=by exact Z)(hdst:o.dst=none:=by exact Z)(hti:T.get t=some ti:=by exact Z)(hx:evS s x= .optr tag g kz row off:=by exact Z)(hob:ob tag=some ⟨g,e,rows,true⟩:=by exact Z)(hei:T.get e=some ei:=by exact Z)(hk:kz=ei.size:=by exact Z)(hc:eo py=some cs:=by exact Z)(hf:PV.frozL cs=true:=by exact Z)(h1:cs.all PV.one=true:=by exact Z)(hl:cs.length=ti.size:=by exact Z):Do P T rb ops (k::L) ⟨n,s,bx,ob⟩ K:=cg hT ho hg hop hdst hti hx hob hei hk hrow hy hc hf h1 hl hle hr h
theorem bh{α β:Type}{f:α->β}{xs:List α}{j:Nat}{x:α}(h:xs[j]? =some x):j<(xs.map f).length:=by
 have:=(zg.1 h).1
 simpa using this
theorem gJ{α β:Type}{f:α->β}{xs:List α}{j:Nat}{x:α}{l:Nat}(hl:l=(xs.map f).length)(h:xs[j]? =some x):j<l:=hl▸bh h
theorem bf{α:Type}{f:α->List PV}{xs:List α}{j:Nat}{x:α}{g:OwnRef}(ho:xs.map f≠[]->∃b,g.blk=some b)(h:xs[j]? =some x):∃b,g.blk=some b:=by
 refine ho fun e=>?_
 have:=(zg.1 h).1
 rw[List.map_eq_nil_iff]at e;rw[e]at this;simp at this
theorem bD{α:Type}{f f':α->List PV}(hE:∀x,f' x=f x){xs ys:List α}{j off:Nat}{x v:α}{cs:List PV}(h:xs[j]? =some x)(hs:gT (f x) off cs=f v)(hy:xs.set j v=ys):setRow (xs.map f') j off cs=ys.map f':=by
 subst hy;have hlt:=(zg.1 h).1;unfold setRow;have e:(xs.map f').getD j []=f x:=by simp[h,hE]
 rw[e,hs,<-hE v,List.map_set]
theorem bt{α β:Type}{f:α->β}{xs ys:List α}{j:Nat}{v:α}(hy:xs.set j v=ys):(xs.map f).length=(ys.map f).length:=by subst hy;simp
theorem cA{fn:Func}{R:PV->Heap->Prop}{ks:List KI}{tag:Nat}{g:OwnRef}{e:TypeId}{rows:List (List PV)}{wr:Bool}(hob:ob tag=some ⟨g,e,rows,wr⟩)(h:(rows≠[]->∃b,g.blk=some b)->V P fn R ks ⟨n,s,bx,ob⟩):V P fn R ks ⟨n,s,bx,ob⟩:=fun C M a w hi=>by
 refine h (fun hne=>?_) C M a w hi
 obtain⟨_,_,_,_,h4⟩:=hi.2.objs tag _ hob
 rcases h4 with⟨_,h5,_⟩|⟨b,_,h5,_⟩
 ·exact absurd h5 hne
 ·exact⟨b,h5⟩
end
def pd(bx:Nat->Option Box)(m:List (Nat×Nat)):Nat->Option Box:=fun t=>match m.find? (fun p=>Nat.beq p.2 t)with
 |some p=>bx p.1
 |none=>none
def oj(ob:Nat->Option Obj)(m:List (Nat×Nat)):Nat->Option Obj:=fun t=>match m.find? (fun p=>Nat.beq p.2 t)with
 |some p=>ob p.1
 |none=>none
theorem beqC(a b:Nat):Nat.beq a b=Nat.beq b a:=by
 cases h:Nat.beq a b with
 |true=>rw[Nat.eq_of_beq_eq_true h];exact(Nat.beq_refl b).symm
 |false=>
  cases h':Nat.beq b a with
  |true=>rw[Nat.eq_of_beq_eq_true h']at h;rw[show Nat.beq a a=true from Nat.beq_refl a]at h;cases h
  |false=>rfl
theorem bq(bx:Nat->Option Box):pd bx []=fun _=>none:=rfl
theorem bn(ob:Nat->Option Obj):oj ob []=fun _=>none:=rfl
theorem cf(bx:Nat->Option Box)(c k:Nat)(m:List (Nat×Nat)):pd bx ((c,k)::m)=upd (pd bx m) k (bx c):=by
 funext t;simp only[pd,upd,List.find?_cons];rw[beqC t k];cases Nat.beq k t<;>rfl
theorem aW(ob:Nat->Option Obj)(c k:Nat)(m:List (Nat×Nat)):oj ob ((c,k)::m)=upd (oj ob m) k (ob c):=by
 funext t;simp only[oj,upd,List.find?_cons];rw[beqC t k];cases Nat.beq k t<;>rfl
def qM(bx:Nat->Option Box)(m:List (Nat×Nat))(bx':Nat->Option Box):Nat->Option Box:=fun t=>match m.find? (fun p=>Nat.beq p.1 t)with
 |some p=>bx' p.2
 |none=>bx t
def oc(ob:Nat->Option Obj)(m:List (Nat×Nat))(ob':Nat->Option Obj):Nat->Option Obj:=fun t=>match m.find? (fun p=>Nat.beq p.1 t)with
 |some p=>ob' p.2
 |none=>ob t
def dL:List Nat->Bool
 |[]=>true
 |a::l=>l.all (fun b=>!Nat.beq a b)&&dL l
theorem kw{f:Nat×Nat->Nat}:∀{m:List (Nat×Nat)} {p:Nat×Nat},dL (m.map f)=true->p∈m->m.find? (fun q=>Nat.beq (f q) (f p))=some p
 |[],_,_,h=>by simp at h
 |q::m,p,hd,h=>by
  simp only[List.map_cons,dL,Bool.and_eq_true]at hd;rw[List.find?_cons];rcases List.mem_cons.1 h with rfl|h
  ·rw[show Nat.beq (f p) (f p)=true from Nat.beq_refl _]
  ·have hne:Nat.beq (f q) (f p)=false:=by
    have:=(List.all_eq_true.1 hd.1) (f p) (List.mem_map.2 ⟨p,h,rfl⟩)
    simpa using this
   rw[hne];exact kw hd.2 h
theorem sk{f:Nat×Nat->Nat}{m:List (Nat×Nat)}{t:Nat}{p:Nat×Nat}(h:m.find? (fun q=>Nat.beq (f q) t)=some p):p∈m/\f p=t:=
 ⟨List.mem_of_find?_eq_some h,by
  have:=List.find?_some h
  exact Nat.eq_of_beq_eq_true this⟩
def jZ(H:Heap)(mb mo:List (Nat×Nat)):List Nat:=mb.filterMap (fun p=>(H.bx p.1).map Box.b)++mo.filterMap (fun p=>(H.ob p.1).bind fun x=>x.g.blk)
theorem qI{H:Heap}{mb mo:List (Nat×Nat)}{b:Nat}(h:b∈jZ H mb mo):(∃p x,p∈mb/\H.bx p.1=some x/\x.b=b)\/∃p x,p∈mo/\H.ob p.1=some x/\x.g.blk=some b:=by
 simp only[jZ,List.mem_append,List.mem_filterMap]at h;rcases h with⟨p,hp,h⟩|⟨p,hp,h⟩
 ·rw[Option.map_eq_some_iff]at h
  obtain⟨x,hx,rfl⟩:=h
  exact .inl ⟨p,x,hp,hx,rfl⟩
 ·rw[Option.bind_eq_some_iff]at h
  obtain⟨x,hx,h⟩:=h
  exact .inr ⟨p,x,hp,hx,h⟩
theorem ownOf_box{H:Heap}{mb mo:List (Nat×Nat)}{p:Nat×Nat}{x:Box}(hp:p∈mb)(hx:H.bx p.1=some x):x.b∈jZ H mb mo:=by
 simp only[jZ,List.mem_append,List.mem_filterMap];exact .inl ⟨p,hp,by rw[hx];rfl⟩
theorem ownOf_obj{H:Heap}{mb mo:List (Nat×Nat)}{p:Nat×Nat}{x:Obj}{b:Nat}(hp:p∈mo)(hx:H.ob p.1=some x)(hb:x.g.blk=some b):b∈jZ H mb mo:=by
 simp only[jZ,List.mem_append,List.mem_filterMap];exact .inr ⟨p,hp,by rw[hx];exact hb⟩
section
variable{P:Program}{C:Ctx}{M:Mem}{H:Heap}{w:World}{mb mo:List (Nat×Nat)}
theorem pL{bx:Nat->Option Box}{m:List (Nat×Nat)}{t:Nat}{x:Box}(h:pd bx m t=some x):∃p,p∈m/\p.2=t/\bx p.1=some x:=by
 unfold pd at h;split at h
 ·rename_i p hp
  obtain⟨h1,h2⟩:=sk (f:=Prod.snd) hp
  exact⟨p,h1,h2,h⟩
 ·cases h
theorem qb{ob:Nat->Option Obj}{m:List (Nat×Nat)}{t:Nat}{x:Obj}(h:oj ob m t=some x):∃p,p∈m/\p.2=t/\ob p.1=some x:=by
 unfold oj at h;split at h
 ·rename_i p hp
  obtain⟨h1,h2⟩:=sk (f:=Prod.snd) hp
  exact⟨p,h1,h2,h⟩
 ·cases h
theorem fst_inj{m:List (Nat×Nat)}(hd:dL (m.map Prod.fst)=true){p q:Nat×Nat}(hp:p∈m)(hq:q∈m)(h:p.1=q.1):p=q:=by
 have h1:=kw (f:=Prod.fst) hd hp;have h2:=kw (f:=Prod.fst) hd hq;rw[h]at h1;rw[h1]at h2;exact Option.some.inj h2
theorem InvH.ownMine(h:InvH P C M H w):∀b∈jZ H mb mo,C.mine b:=by
 intro b hb;rcases qI hb with⟨p,x,_,hx,rfl⟩|⟨p,x,_,hx,hb⟩
 ·exact(h.boxes _ _ hx).1
 ·obtain⟨_,_,_,_,h4⟩:=h.objs _ _ hx
  rcases h4 with⟨h5,_⟩|⟨b',_,h5,h6,_⟩
  ·rw[h5]at hb;cases hb
  ·rw[h5]at hb;cases hb;exact h6
theorem InvH.enterH(h:InvH P C M H w)(hb1:dL (mb.map Prod.fst)=true)(ho1:dL (mo.map Prod.fst)=true):InvH P ⟨w,jZ H mb mo,M,h.gl h.ownMine,[]⟩ M ⟨pd H.bx mb,oj H.ob mo⟩ w:=by
 refine⟨h.mem,Mem.le_refl M,fun _ _ _ hm=>.inl hm,rfl,rfl,rfl,Nat.le_refl _,fun _ _ _=>rfl,?_,?_,?_,?_,?_⟩
 ·intro t x hx
  obtain⟨p,hp,_,hx⟩:=pL hx
  obtain⟨_,h2,h3⟩:=h.boxes _ _ hx
  exact⟨.inr (ownOf_box hp hx),h2,h3⟩
 ·intro t x hx
  obtain⟨p,hp,_,hx⟩:=qb hx
  obtain⟨i,h1,h2,h3,h4⟩:=h.objs _ _ hx
  refine⟨i,h1,h2,h3,?_⟩
  rcases h4 with h4|⟨b,cur,hb,_,h5⟩
  ·exact .inl h4
  ·exact .inr ⟨b,cur,hb,.inr (ownOf_obj hp hx hb),h5⟩
 ·intro t t' x x' hx hx' hb
  obtain⟨p,hp,e1,hy⟩:=pL hx
  obtain⟨q,hq,e2,hy'⟩:=pL hx'
  rw[<-e1,<-e2,fst_inj hb1 hp hq (h.dbox _ _ x x' hy hy' hb)]
 ·intro t t' x x' b hx hx' hb hb'
  obtain⟨p,hp,e1,hy⟩:=qb hx
  obtain⟨q,hq,e2,hy'⟩:=qb hx'
  rw[<-e1,<-e2,fst_inj ho1 hp hq (h.dobj _ _ x x' b hy hy' hb hb')]
 ·intro t t' x x' hx hx' hb
  obtain⟨p,hp,_,hy⟩:=pL hx
  obtain⟨q,hq,_,hy'⟩:=qb hx'
  exact h.dmix _ _ x x' hy hy' hb
theorem InvH.afterH{M':Mem}{H':Heap}{w':World}(h:InvH P C M H w)(_hb1:dL (mb.map Prod.fst)=true)(hb2:dL (mb.map Prod.snd)=true)(_ho1:dL (mo.map Prod.fst)=true)(ho2:dL (mo.map Prod.snd)=true)
  {hg:Gl w (jZ H mb mo)} (h':InvH P ⟨w,jZ H mb mo,M,hg,[]⟩ M' H' w'):InvH P C M' ⟨qM H.bx mb H'.bx,oc H.ob mo H'.ob⟩ w':=by
 have hown:∀b,b∈jZ H mb mo->C.mine b:=by
  intro b hb;rcases qI hb with⟨p,x,_,hx,rfl⟩|⟨p,x,_,hx,hb⟩
  ·exact(h.boxes _ _ hx).1
  ·obtain⟨_,_,_,_,h4⟩:=h.objs _ _ hx
   rcases h4 with⟨h5,_⟩|⟨b',_,h5,h6,_⟩
   ·rw[h5]at hb;cases hb
   ·rw[h5]at hb;cases hb;exact h6
 have hup:∀b,(⟨w,jZ H mb mo,M,hg,[]⟩:Ctx).mine b->C.mine b:=fun b hb=>by
  rcases hb with hb|hb
  ·exact .inl (Nat.le_trans h.size hb)
  ·exact hown b hb
 have hnone:∀b o,b<w.heap.size->b∉jZ H mb mo->M b o=none->M' b o=none:=by
  intro b o hb hno hn;cases hm:M' b o with
  |none=>rfl
  |some v=>
   rcases h'.new b o v hm with h1|h1|h1
   ·rw[show M b o=some v from h1]at hn;cases hn
   ·exact absurd hb (Nat.not_lt.2 h1)
   ·exact absurd h1 hno
 have kb:∀t x,qM H.bx mb H'.bx t=some x->(∃p,p∈mb/\p.1=t/\H'.bx p.2=some x)\/((∀p∈mb,p.1≠t)/\H.bx t=some x):=by
  intro t x hx;unfold qM at hx;split at hx
  ·rename_i p hp
   obtain⟨h1,h2⟩:=sk (f:=Prod.fst) hp
   exact .inl ⟨p,h1,h2,hx⟩
  ·rename_i hp;rw[List.find?_eq_none]at hp;exact .inr ⟨fun p hp' e=>hp p hp' (by rw[e];exact Nat.beq_refl _),hx⟩
 have ko:∀t x,oc H.ob mo H'.ob t=some x->(∃p,p∈mo/\p.1=t/\H'.ob p.2=some x)\/((∀p∈mo,p.1≠t)/\H.ob t=some x):=by
  intro t x hx;unfold oc at hx;split at hx
  ·rename_i p hp
   obtain⟨h1,h2⟩:=sk (f:=Prod.fst) hp
   exact .inl ⟨p,h1,h2,hx⟩
  ·rename_i hp;rw[List.find?_eq_none]at hp;exact .inr ⟨fun p hp' e=>hp p hp' (by rw[e];exact Nat.beq_refl _),hx⟩
 -- what was kept is not among what was handed over
 have nb:∀t x,(∀p∈mb,p.1≠t)->H.bx t=some x->x.b∉jZ H mb mo:=by
  intro t x hn hx hm;rcases qI hm with⟨p,y,hp,hy,e⟩|⟨p,y,hp,hy,e⟩
  ·exact hn p hp (h.dbox _ _ y x hy hx e)
  ·exact h.dmix _ _ x y hx hy e
 have no:∀t x b,(∀p∈mo,p.1≠t)->H.ob t=some x->x.g.blk=some b->b∉jZ H mb mo:=by
  intro t x b hn hx hb hm;rcases qI hm with⟨p,y,hp,hy,e⟩|⟨p,y,hp,hy,e⟩
  ·exact h.dmix _ _ y x hy hx (by rw[hb,e])
  ·exact hn p hp (h.dobj _ _ y x b hy hx e hb)
 have mb':∀t x,H'.bx t=some x->w.heap.size<=x.b\/x.b∈jZ H mb mo:=fun t x hx=>(h'.boxes t x hx).1
 have mo':∀t x b,H'.ob t=some x->x.g.blk=some b->w.heap.size<=b\/b∈jZ H mb mo:=by
  intro t x b hx hb
  obtain⟨_,_,_,_,h4⟩:=h'.objs t x hx
  rcases h4 with⟨h5,_⟩|⟨b',_,h5,h6,_⟩
  ·rw[h5]at hb;cases hb
  ·rw[h5]at hb;cases hb;exact h6
 have bz:∀t x b,H.ob t=some x->x.g.blk=some b->b<w.heap.size:=fun t x b hx hb=>h.obj_lt hx hb
 have snd_eq:∀{m:List (Nat×Nat)},dL (m.map Prod.snd)=true->∀{p q:Nat×Nat},p∈m->q∈m->p.2=q.2->p=q:=by
  intro m hd p q hp hq e;have h1:=kw (f:=Prod.snd) hd hp;have h2:=kw (f:=Prod.snd) hd hq;rw[e]at h1;rw[h1]at h2;exact Option.some.inj h2
 refine⟨h'.mem,Mem.le_trans h.ext h'.ext,?_,h'.os.trans h.os,h'.tape.trans h.tape,h'.output.trans h.output,Nat.le_trans h.size h'.size,?_,?_,?_,?_,?_,?_⟩
 ·intro b o v hm;rcases h'.new b o v hm with h1|h1
  ·exact h.new b o v h1
  ·exact .inr (hup b h1)
 ·intro b hb hn
  have hno:b∉jZ H mb mo:=fun hm=>by
   rcases hown b hm with h1|h1
   ·omega
   ·exact hn h1
  exact(h'.frame b (Nat.lt_of_lt_of_le hb h.size) hno).trans (h.frame b hb hn)
 ·intro t x hx;rcases kb t x hx with⟨p,hp,_,hx⟩|⟨hn,hx⟩
  ·obtain⟨h1,h2,h3⟩:=h'.boxes _ _ hx
   exact⟨hup _ h1,h2,h3⟩
  ·have hno:=nb t x hn hx
   exact(h.boxes t x hx).keep h'.ext (fun o ho=>hnone _ o (h.box_lt hx) hno ho) (h'.frame _ (h.box_lt hx) hno)
 ·intro t x hx;rcases ko t x hx with⟨p,hp,_,hx⟩|⟨hn,hx⟩
  ·obtain⟨i,h1,h2,h3,h4⟩:=h'.objs _ _ hx
   refine⟨i,h1,h2,h3,?_⟩
   rcases h4 with h4|⟨b,cur,h5,h6,h7⟩
   ·exact .inl h4
   ·exact .inr ⟨b,cur,h5,hup _ h6,h7⟩
  ·exact(h.objs t x hx).keep h'.ext (fun b o hb ho=>hnone _ o (h.obj_lt hx hb) (no t x b hn hx hb) ho) (fun b hb=>h'.frame _ (h.obj_lt hx hb) (no t x b hn hx hb))
 ·intro t t' x x' hx hx' hb;rcases kb t x hx with⟨p,hp,e,hx⟩|⟨hn,hx⟩<;>rcases kb t' x' hx' with⟨q,hq,e',hx'⟩|⟨hn',hx'⟩
  ·have:=snd_eq hb2 hp hq (h'.dbox _ _ x x' hx hx' hb)
   rw[<-e,<-e',this]
  ·rcases mb' _ _ hx with h1|h1
   ·have:=h.box_lt hx';omega
   ·exact absurd (hb▸h1) (nb t' x' hn' hx')
  ·rcases mb' _ _ hx' with h1|h1
   ·have:=h.box_lt hx;omega
   ·exact absurd (hb▸h1) (nb t x hn hx)
  ·exact h.dbox t t' x x' hx hx' hb
 ·intro t t' x x' b hx hx' hb hb';rcases ko t x hx with⟨p,hp,e,hx⟩|⟨hn,hx⟩<;>rcases ko t' x' hx' with⟨q,hq,e',hx'⟩|⟨hn',hx'⟩
  ·have:=snd_eq ho2 hp hq (h'.dobj _ _ x x' b hx hx' hb hb')
   rw[<-e,<-e',this]
  ·rcases mo' _ _ b hx hb with h1|h1
   ·have:=h.obj_lt hx' hb';omega
   ·exact absurd h1 (no t' x' b hn' hx' hb')
  ·rcases mo' _ _ b hx' hb' with h1|h1
   ·have:=h.obj_lt hx hb;omega
   ·exact absurd h1 (no t x b hn hx hb)
  ·exact h.dobj t t' x x' b hx hx' hb hb'
 ·intro t t' x x' hx hx' hb;rcases kb t x hx with⟨p,hp,e,hx⟩|⟨hn,hx⟩<;>rcases ko t' x' hx' with⟨q,hq,e',hx'⟩|⟨hn',hx'⟩
  ·exact h'.dmix _ _ x x' hx hx' hb
  ·rcases mb' _ _ hx with h1|h1
   ·have:=h.obj_lt hx' hb;omega
   ·exact no t' x' _ hn' hx' hb h1
  ·rcases mo' _ _ _ hx' hb with h1|h1
   ·have:=h.box_lt hx;omega
   ·exact nb t x hn hx h1
  ·exact h.dmix t t' x x' hx hx' hb
theorem tD{o:Oper}{ev:Operand->PV}{H:Heap}{fx:Operand}{av0:Array Operand}{ts:Array TypeId}(ho:o.op= .call {callee:= .value fx,args:=av0,argTypes:=ts}){g:FuncId}{caps:List PV}
  (hf:ev fx= .fn g caps) (hcall:∀vs w,(callFunc g vs).run P w= .ok (.enter g vs) w) (mb mo:List (Nat×Nat)) (hb1:dL (mb.map Prod.fst)=true) (hb2:dL (mb.map Prod.snd)=true) (ho1:dL (mo.map Prod.fst)=true) (ho2:dL (mo.map Prod.snd)=true)
  {args:List PV} (hle:jt P (av0.toList.map ev++caps) args) {R:PV->Heap->Prop} (hc:PH P g args ⟨pd H.bx mb,oj H.ob mo⟩ R)
  {K:PV->Heap->Prop} (hk:∀u H',R u H'->K u ⟨qM H.bx mb H'.bx,oc H.ob mo H'.ob⟩):Eff P o ev H K:=by
 intro C M a w next Q hi he hn
 have hfr:=he fx (by rw[ho];simp[Op.operands,Call.operands]);rw[hf]at hfr;simp only[Rep]at hfr
 obtain⟨cs,hv,hcaps⟩:=hfr
 have hargs:aN P M true (av0.toList.map ev) (av0.map a.eval).toList:=by
  simpa using pS av0.toList fun x hx=>he x (by rw[ho];simp_all[Op.operands,Call.operands])
 have hrep:=hle M _ (hargs.append hcaps)
 have hrun:(execOp a.eval o).run P w= .ok (.enter g (av0.map a.eval++cs)) w:=by
  simp[execOp,ho,resolve,hv,Deferred.ofValue,invoke,hcall]
 unfold Oper.wp;rw[hrun];simp only[Oper.upon]
 refine(hc w M (jZ H mb mo) (hi.gl hi.ownMine) _ (hi.enterH hb1 ho1) (by simpa using hrep)).mono ?_
 rintro e w' ⟨v,u,H',M',rfl,hR,hi',hr⟩;exact hn v u _ M' w' (hk u H' hR) hi'.ext (hi.afterH hb1 hb2 ho1 ho2 hi') hr
end
section
variable{P:Program}{ops:Array Oper}{rest:List Oper}{o:Oper}{n:Nat}{s s':Nat->PV}{bx bx1:Nat->Option Box}{ob ob1:Nat->Option Obj}{K:PState->Prop}{T:TT}{rb:RB}{k:Nat}{L:List Nat}
theorem bB(hg:ba ops s o=some true){fx:Operand}{av0:Array Operand}{ts:Array TypeId}(ho:o.op= .call {callee:= .value fx,args:=av0,argTypes:=ts}){g:FuncId}{caps:List PV}
  (hf:evS s fx= .fn g caps) (hcall:∀vs w,(callFunc g vs).run P w= .ok (.enter g vs) w) (mb mo:List (Nat×Nat)) (hb1:dL (mb.map Prod.fst)=true) (hb2:dL (mb.map Prod.snd)=true) (ho1:dL (mo.map Prod.fst)=true) (ho2:dL (mo.map Prod.snd)=true)
  {args:List PV} (hle:jt P (av0.toList.map (evS s)++caps) args) {Hin:Heap} (hin:Hin=⟨pd bx mb,oj ob mo⟩) {R:PV->Heap->Prop} (hc:PH P g args Hin R)
  (h:∀u H',R u H'->∃s',putD n s o.dst u=some s'/\Ao P ops rest ⟨n,s',qM bx mb H'.bx,oc ob mo H'.ob⟩ K):Ao P ops (o::rest) ⟨n,s,bx,ob⟩ K:=
 eO hg (tD ho hf hcall mb mo hb1 hb2 ho1 ho2 hle (hin▸hc) h)
theorem pD.own{t t':Nat}{g:OwnRef}{l l':Nat}(h:l=l'):pD P (.own t g l) (.own t' g l'):=by
 subst h;intro M s x hx;simpa only[Rep]using hx
theorem pD.boxT{t t' b o:Nat}:pD P (.box t b o) (.box t' b o):=by
 intro M s x hx;simpa only[Rep]using hx
theorem cl{fn:Func}{R:PV->Heap->Prop}{ks:List KI}{T:TT}(hT:T.Ok P){rs:Array ResultVar}(hres:fn.results=rs){ps:List PV}(h:nS T ⟨n,s,bx,ob⟩ rs.toList ps){u:PV}(hu:PLe P (oT ps) u)(hR:R u ⟨bx,ob⟩):
  V P fn R (.code .ret::ks) ⟨n,s,bx,ob⟩:=vp hT hres h hu ⟨fun _ _ hx=>hx,fun _ _ hx=>hx⟩ hR
theorem iO{fn:Func}{R:PV->Heap->Prop}(hres:fn.results=#[]){u:PV}(hu:PLe P (.tup []) u)(hR:R u ⟨bx,ob⟩):V P fn R [] ⟨n,s,bx,ob⟩:=by
 intro C M a w hi;refine retP.ofN hi fun C w hi=>?_
 have hr:(results fn a.tmps).run P w= .ok (.tuple #[]) w:=by
  rw[results_eq hres];simp
 exact⟨.tuple #[],hr,.tuple #[],u,⟨bx,ob⟩,M,rfl,hR,hi.2,hu M _ (by simp[Rep,aN])⟩
end
end
end Go.Ab

namespace Go.Ab
noncomputable section
open Classical in
def ia{β:Type}(F:Nat->Option β):Option β:=
 if h:∃r,∃n,∀m,n<=m->F m=some r then some h.choose else none
theorem jh{β:Type}{F:Nat->Option β}{r:β}(h:ia F=some r):∃n,F n=some r:=by
 unfold ia at h;split at h
 ·next hx=>
  obtain⟨n,hn⟩:=hx.choose_spec
  exact⟨n,by rw[hn n (Nat.le_refl n)];exact h⟩
 ·cases h
theorem rO{β:Type}{F:Nat->Option β}{r:β}(n:Nat)(h:∀m,n<=m->F m=some r):ia F=some r:=by
 have hx:∃r,∃n,∀m,n<=m->F m=some r:=⟨r,n,h⟩;unfold ia;rw[dif_pos hx]
 obtain⟨k,hk⟩:=hx.choose_spec
 have e1:=hk (max n k) (Nat.le_max_right n k);have e2:=h (max n k) (Nat.le_max_left n k);rw[<-e1,e2]
theorem limN_ev{β:Type}{F:Nat->Option β}{r:β}(h:ia F=some r):∃n,∀m,n<=m->F m=some r:=by
 unfold ia at h;split at h
 ·next hx=>
  obtain⟨n,hn⟩:=hx.choose_spec
  exact⟨n,fun m hm=>by rw[hn m hm];exact h⟩
 ·cases h
end
end Go.Ab

namespace Go.Ab
noncomputable section
def nk{α:Type}(xs:List α)(m:Int):Option (List α):=if 0<=m/\m.toNat<=xs.length then some (xs.take m.toNat)else none
theorem mz{α:Type}{xs ys:List α}{m:Int}(h:nk xs m=some ys):0<=m/\m.toNat<=xs.length/\ys=xs.take m.toNat:=by
 unfold nk at h;split at h
 ·rename_i h0;exact⟨h0.1,h0.2,(Option.some.inj h).symm⟩
 ·cases h
theorem gX{α:Type}{f:α->List PV}{xs ys:List α}{j:Nat}{x:α}{g:OwnRef}(ho:xs.map f≠[]->∃b,g.blk=some b)(hl:(xs.map f).length=(ys.map f).length)(h:ys[j]? =some x):∃b,g.blk=some b:=by
 refine ho fun e=>?_
 have:=(zg.1 h).1
 have h0:ys.length=0:=by
  rw[e]at hl;simpa using hl.symm
 omega
def nN{α:Type}(xs:List α)(i j:Int):Option (List α):=if 0<=i/\i<=j/\j.toNat<=xs.length then some (xs.take i.toNat++xs.drop j.toNat)else none
theorem tu{α:Type}{xs ys:List α}{i j:Int}(h:nN xs i j=some ys):0<=i/\i<=j/\j.toNat<=xs.length/\ys=xs.take i.toNat++xs.drop j.toNat:=by
 unfold nN at h;split at h
 ·rename_i h0;exact⟨h0.1,h0.2.1,h0.2.2,(Option.some.inj h).symm⟩
 ·cases h
def OwnRef.sub(g:OwnRef)(k lo hi mx:Nat):Value:= .slice (if mx=lo then g.blk.map (fun b=>⟨b,0,none⟩)else(g.blk.map fun b=>(⟨b,0,none⟩:Addr)).map (·.add (lo*k))) (hi-lo) (mx-lo)
section
variable{P:Program}{T:TT}
def lj(ev:Operand->PV)(o:Option Operand)(dflt n:Nat):Prop:=match o with
 |none=>n=dflt
 |some x=>∃kk z,ev x= .val (.int kk z)/\z=(n:Int)
theorem detS_subV(hT:T.Ok P){o:Oper}{ev:Operand->PV}{H:Heap}{t:TypeId}{x:Operand}{lo hi mx:Option Operand}(ho:o.op= .slice t x lo hi mx){ti ei:TInfo}{e:TypeId}(hti:T.get t=some ti)(hd:ti.desc= .slice e)(hei:T.get e=some ei)
  {tag:Nat} {g:OwnRef} {len:Nat} (hx:ev x= .own tag g len) {l h m:Nat} (hl:lj ev lo 0 l) (hh:lj ev hi len h) (hm:lj ev mx g.cap m) (hs:mx.isSome=true->hi.isSome=true) (h1:l<=h) (h2:h<=m) (h3:m<=g.cap):
  DetS P o ev H (.val (g.sub ei.size l h m)):=by
 intro C M a w _ he;have hxr:=he x (by rw[ho];cases lo<;>cases hi<;>cases mx<;>simp[Op.operands]);rw[hx]at hxr;simp only[Rep]at hxr;have hu:=(hT.get hti).und;rw[hd]at hu
 refine⟨g.sub ei.size l h m,?_,by simp only[Rep]⟩
 have hbnd:∀(z y:Nat) (kk:IntKind) (c:BoundsCode),z<=y->(Instr.sliceBound (.int kk (z:Int)) y c).run P w= .ok z w:=by
  intro z y kk c hzy
  have:(0:Int)<=(z:Int)/\(z:Int)<=(y:Int):=⟨by omega,by omega⟩
  simp[Instr.sliceBound,asIntOf,hzy]
 have get:∀y,y∈lo\/y∈hi\/y∈mx->Rep P M true (ev y) (a.eval y):=by
  intro y hy;refine he y ?_;rw[ho];clear he hl hh hm hs ho;cases lo<;>cases hi<;>cases mx<;>simp[Op.operands]at hy⊢<;>(first|exact .inr (hy.imp Eq.symm Eq.symm)|exact .inr (hy.imp Eq.symm (Or.imp Eq.symm Eq.symm))|exact .inr hy.symm|(rcases hy with h|h|h<;>simp[h])|(rcases hy with h|h<;>simp[h]))
 have hsz:=(hT.get hei).rsize w
 have key:∀(lv hv mv:Option Value),(match lv with|none=>l=0|some v=>∃kk,v= .int kk (l:Int))->(match hv with|none=>h=len|some v=>∃kk,v= .int kk (h:Int))->
   (match mv with|none=>m=g.cap|some v=>∃kk,v= .int kk (m:Int))->(mv.isSome=true->hv.isSome=true)->(Instr.slice t (g.val len) lv hv mv).run P w= .ok (g.sub ei.size l h m) w:=by
  intro lv hv mv p1 p2 p3 p4
  have b:(Instr.sliceBounds true len g.cap lv hv mv).run P w= .ok (l,h,m) w:=by
   cases mv with
   |none=>
    simp only at p3;subst p3;cases hv with
    |none=>
     simp only at p2;subst p2;cases lv with
     |none=>simp only at p1;subst p1;simp[Instr.sliceBounds]
     |some v=>obtain⟨kk,rfl⟩:=p1;simp[Instr.sliceBounds,hbnd _ _ _ _ h1]
    |some v'=>
     obtain⟨kk',rfl⟩:=p2
     cases lv with
     |none=>simp only at p1;subst p1;simp[Instr.sliceBounds,hbnd _ _ _ _ h2]
     |some v=>obtain⟨kk,rfl⟩:=p1;simp[Instr.sliceBounds,hbnd _ _ _ _ h1,hbnd _ _ _ _ h2]
   |some v2=>
    obtain⟨k2,rfl⟩:=p3
    cases hv with
    |none=>exact absurd (p4 Z) (by simp)
    |some v'=>
     obtain⟨kk',rfl⟩:=p2
     cases lv with
     |none=>simp only at p1;subst p1;simp[Instr.sliceBounds,hbnd _ _ _ _ h2,hbnd _ _ _ _ h3]
     |some v=>obtain⟨kk,rfl⟩:=p1;simp[Instr.sliceBounds,hbnd _ _ _ _ h1,hbnd _ _ _ _ h2,hbnd _ _ _ _ h3]
  simp only[Instr.slice,OwnRef.val,run_underlying hu,Sem.run_bind,Result.andThen_ok,b,hsz];rfl
 have gl:∀(oo:Option Operand) (df n:Nat),(∀y,y∈oo->Rep P M true (ev y) (a.eval y))->lj ev oo df n->(match oo.map a.eval with|none=>n=df|some v=>∃kk,v= .int kk (n:Int)):=by
  intro oo df n hr ha;cases oo with
  |none=>exact ha
  |some y=>
   obtain⟨kk,z,e1,rfl⟩:=ha
   have:=hr y Z
   rw[e1]at this;simp only[Rep]at this
   exact⟨kk,this⟩
 have:=key (lo.map a.eval) (hi.map a.eval) (mx.map a.eval) (gl lo 0 l (fun y hy=>get y (.inl hy)) hl) (gl hi len h (fun y hy=>get y (.inr (.inl hy))) hh) (gl mx g.cap m (fun y hy=>get y (.inr (.inr hy))) hm) (by simpa using hs)
 simp only[execOp,ho,Instr.sliceAt,hxr.2];rw[Sem.run_bind,Sem.run_bind,run_underlying hu];simp only[Result.andThen_ok];rw[this];rfl
theorem eff_appendIn(hT:T.Ok P){o:Oper}{ev:Operand->PV}{H:Heap}{x y:Operand}{t:TypeId}(ho:o.op= .call {callee:= .builtin .append,args:=#[x,y],argTypes:=#[t,t]}){ti ei:TInfo}{e:TypeId}(hti:T.get t=some ti)(hd:ti.desc= .slice e)(hei:T.get e=some ei)
  {tag:Nat} {g:OwnRef} {rows:List (List PV)} (hob:H.ob tag=some ⟨g,e,rows,true⟩) {p q:Nat} (hpq:p<=q) (hq:q<=rows.length) (hx:ev x= .val (g.sub ei.size 0 p g.cap)) (hy:ev y= .val (g.sub ei.size q rows.length g.cap))
  {K:PV->Heap->Prop} (hk:K (.own tag g (rows.take p++rows.drop q).length) ⟨H.bx,upd H.ob tag (some ⟨g,e,rows.take p++rows.drop q,true⟩)⟩):Eff P o ev H K:=by
 intro C M a w next Q hi he hn
 have hxr:=he x (by rw[ho];simp[Op.operands,Call.operands]);have hyr:=he y (by rw[ho];simp[Op.operands,Call.operands]);rw[hx]at hxr;rw[hy]at hyr;simp only[Rep]at hxr hyr
 obtain⟨i,g1,g2,g3,g4⟩:=hi.objs tag _ hob
 obtain⟨i',g5,g6,_,_⟩:=(hT.get hei).info
 simp only at g1 g2 g3 g4;rw[g1]at g5;cases g5;have hu:=(hT.get hti).und;rw[hd]at hu
 have hbase:(if g.cap=0 then g.blk.map (fun b=>(⟨b,0,none⟩:Addr))else(g.blk.map fun b=>(⟨b,0,none⟩:Addr)).map (·.add (0*ei.size)))=g.blk.map fun b=>⟨b,0,none⟩:=by
  split
  ·rfl
  ·rw[Nat.zero_mul];cases g.blk<;>simp[Addr.add]
 have hlen:(rows.take p++rows.drop q).length=p+(rows.length-q):=by simp;omega
 have fin:∀w',(Builtin.append_ #[t,t] o.type #[g.sub ei.size 0 p g.cap,g.sub ei.size q rows.length g.cap]).run P w= .ok (g.val (p+(rows.length-q))) w'->
   InvH P C M ⟨H.bx,upd H.ob tag (some ⟨g,e,rows.take p++rows.drop q,true⟩)⟩ w'->Oper.wp P o a w next Q:=by
  intro w' hr hi'
  have hrun':(execOp a.eval o).run P w= .ok (.value (g.val (rows.take p++rows.drop q).length)) w':=by
   rw[hlen];simp only[execOp,ho,resolve,Sem.run_bind,Sem.run_pure,Result.andThen_ok,invoke,builtin,List.map_toArray,List.map_cons,List.map_nil,hxr,hyr];rw[hr];rfl
  unfold Oper.wp;rw[hrun'];exact hn _ _ _ M w' hk (Mem.le_refl M) hi' (by simp[Rep])
 have hcap:rows.length<=g.cap:=by
  rcases g4 with⟨_,b,_⟩|⟨_,_,_,_,_,_,h9,_⟩
  ·rw[b];simp
  ·exact h9
 by_cases h0:rows.length-q=0
 ·refine fin w ?_ ?_
  ·have e1:g.sub ei.size 0 p g.cap= .slice (g.blk.map fun b=>⟨b,0,none⟩) p g.cap:=by unfold OwnRef.sub;rw[hbase];simp
   have e2:g.sub ei.size q rows.length g.cap= .slice (if g.cap=q then g.blk.map (fun b=>⟨b,0,none⟩)else(g.blk.map fun b=>(⟨b,0,none⟩:Addr)).map (·.add (q*ei.size))) 0 (g.cap-q):=by unfold OwnRef.sub;rw[h0]
   rw[e1,e2,qJ (w:=w) t o.type e i hu g1 _ _ p g.cap _ (by omega),h0];rfl
  ·have e1:rows.take p++rows.drop q=rows.take p:=by rw[List.drop_of_length_le (by omega)];simp
   rw[e1];exact hi.cutO hob p
 ·rcases g4 with⟨_,hn',_⟩|⟨b,cur,hb,hm,hcur,hcs,hlc,hcm,hcr,h1c,hw1,hw2⟩
  ·rw[hn']at h0;simp at h0
  ·have hqc:¬g.cap=q:=by omega
   have hcs2:cur.toList.length=g.cap*i.size:=by rw[Array.length_toList];exact hcs
   have e1:g.sub ei.size 0 p g.cap= .slice (some ⟨b,0,none⟩) p g.cap:=by unfold OwnRef.sub;rw[hbase,hb];simp
   have e2:g.sub ei.size q rows.length g.cap= .slice (some ⟨b,q*i.size,none⟩) (rows.length-q) (g.cap-q):=by unfold OwnRef.sub;rw[zy hqc,hb,g6];simp[fa]
   have hflat:∀l:List (List PV),(∀r∈l,r.length=i.size)->l.flatten.length=l.length*i.size:=by
    intro l;induction l with
    |nil=>simp
    |cons r l ih=>intro hl;simp[ih fun r hr=>hl r (by simp[hr]),hl r (by simp),Nat.add_mul];omega
   have hold:(cur.toList.take (rows.length*i.size)).length=rows.length*i.size:=by rw[hcr.length,hflat rows g3]
   have hcl:rows.length*i.size<=cur.size:=by rw[hcs];exact Nat.mul_le_mul_right _ hlc
   have hmulq:q*i.size<=rows.length*i.size:=Nat.mul_le_mul_right _ hq;have hmulp:p*i.size<=q*i.size:=Nat.mul_le_mul_right _ hpq
   obtain⟨news,hnews⟩:∃news,news=(cur.toList.take (rows.length*i.size)).drop (q*i.size):=⟨_,rfl⟩
   have hnl:news.length=(rows.length-q)*i.size:=by rw[hnews,List.length_drop,hold,Nat.sub_mul]
   have hac:∀j u,news[j]? =some u->w.cell? ((⟨b,q*i.size,none⟩:Addr).add j)=some u:=by
    intro j u hj;rw[fa,cell_of_row w b (q*i.size+j) cur e (0,0) hcur];rw[hnews,List.getElem?_drop,List.getElem?_take]at hj;split at hj
    ·simpa using hj
    ·cases hj
   have hone:∀u∈news,u.oneCell'=true:=fun u hu'=>h1c u (by rw[hnews]at hu';exact List.mem_of_mem_drop hu')
   have hsum:(p+(rows.length-q))*i.size=p*i.size+(rows.length-q)*i.size:=Nat.add_mul _ _ _;have hsub:(rows.length-q)*i.size=rows.length*i.size-q*i.size:=Nat.sub_mul _ _ _;have hfit:p*i.size+news.length<=cur.size:=by rw[hnl];omega
   have hr:=run_append_room (P:=P) w t o.type e i hu g1 b p g.cap cur hcur ⟨b,q*i.size,none⟩ (rows.length-q) (g.cap-q) news hnl hac hone (by omega) hfit
   have htk:(rows.take p).flatten=rows.flatten.take (p*i.size):=by
    have e3:rows.flatten=(rows.take p).flatten++(rows.drop p).flatten:=by rw[<-List.flatten_append,List.take_append_drop]
    have e4:(rows.take p).flatten.length=p*i.size:=by rw[hflat _ fun r hr=>g3 r (List.mem_of_mem_take hr),List.length_take,Nat.min_eq_left (by omega)]
    rw[e3,<-e4,List.take_left]
   have hdk:(rows.drop q).flatten=rows.flatten.drop (q*i.size):=by
    have e3:rows.flatten=(rows.take q).flatten++(rows.drop q).flatten:=by rw[<-List.flatten_append,List.take_append_drop]
    have e4:(rows.take q).flatten.length=q*i.size:=by rw[hflat _ fun r hr=>g3 r (List.mem_of_mem_take hr),List.length_take,Nat.min_eq_left (by omega)]
    rw[e3,<-e4,List.drop_left]
   have hcp:cur.toList.take (p*i.size)=(cur.toList.take (rows.length*i.size)).take (p*i.size):=by rw[List.take_take,Nat.min_eq_left (by omega)]
   have hlist:(cur.toList.take (p*i.size)++news++cur.toList.drop (p*i.size+news.length)).take ((p+(rows.length-q))*i.size)=cur.toList.take (p*i.size)++news:=by
    rw[show(p+(rows.length-q))*i.size=(cur.toList.take (p*i.size)++news).length from by
     rw[List.length_append,List.length_take,hnl,hsum,Array.length_toList,Nat.min_eq_left (by omega)]]
    exact List.take_left
   refine fin (w.setRow b (cur.toList.take (p*i.size)++news++cur.toList.drop (p*i.size+news.length)).toArray) (by rw[e1,e2,hr];simp[OwnRef.val,hb]) (hi.set_obj tag _ hob b hb (rows.take p++rows.drop q) true (cur.toList.take (p*i.size)++news++cur.toList.drop (p*i.size+news.length)).toArray i g1 ?_ ?_ ?_ ?_ hcm ?_ ?_ ?_ (fun _=>hw1 trivial) (fun o' _=>hw1 trivial o'))
   ·rw[hlen];exact Nat.le_trans (Nat.mul_le_mul_right _ (by omega)) g2
   ·intro r hr';rcases List.mem_append.1 hr' with h|h
    ·exact g3 r (List.mem_of_mem_take h)
    ·exact g3 r (List.mem_of_mem_drop h)
   ·have e9:(cur.toList.take (p*i.size)++news++cur.toList.drop (p*i.size+news.length)).length=g.cap*i.size:=by
     rw[List.length_append,List.length_append,List.length_take,List.length_drop,hcs2]
     have:p*i.size+news.length<=g.cap*i.size:=by rw[<-hcs];exact hfit
     omega
    simpa using e9
   ·rw[hlen];exact(by omega:p+(rows.length-q)<=g.cap)
   ·rw[hlen];simp only;rw[hlist,List.flatten_append,htk,hdk,hcp,hnews]
    exact(hcr.take _).append (hcr.drop _)
   ·rw[hlen];simp only;rw[hlist];intro v hv;rcases List.mem_append.1 hv with h|h
    ·rw[hcp]at h;exact h1c v (List.mem_of_mem_take h)
    ·exact hone v h
   ·intro o' v' hm';rw[hw1 trivial o']at hm';cases hm'
theorem eff_clearB(hT:T.Ok P){o:Oper}{ev:Operand->PV}{H:Heap}{x:Operand}{t:TypeId}(ho:o.op= .call {callee:= .builtin .clear,args:=#[x],argTypes:=#[t]}){ti ei:TInfo}{e:TypeId}(hti:T.get t=some ti)(hd:ti.desc= .slice e)(hei:T.get e=some ei)
  (hz:Nat.beq ei.zero.cells.size ei.size=true) (h1:(cP ei).all PV.one=true) {tag:Nat} {g:OwnRef} {rows:List (List PV)} (hob:H.ob tag=some ⟨g,e,rows,true⟩) {p q m:Nat} (hp:rows.length<=p) (hpq:p<=q) (hq:q<=m) (hm:m<=g.cap)
  (hx:ev x= .val (g.sub ei.size p q m)) {K:PV->Heap->Prop} (hk:K (.tup []) H):Eff P o ev H K:=by
 intro C M a w next Q hi he hn
 have hxr:=he x (by rw[ho];simp[Op.operands,Call.operands]);rw[hx]at hxr;simp only[Rep]at hxr
 obtain⟨i,g1,g2,g3,g4⟩:=hi.objs tag _ hob
 obtain⟨i',g5,g6,_,hzero⟩:=(hT.get hei).info
 simp only at g1 g2 g3 g4;rw[g1]at g5;cases g5;have hu:=(hT.get hti).und;rw[hd]at hu;have hself:upd H.ob tag (some ⟨g,e,rows,true⟩)=H.ob:=sh _ _ _ hob
 have fin:∀w',(Builtin.clear_ #[t] o.type #[g.sub ei.size p q m]).run P w= .ok (.tuple #[]) w'->InvH P C M ⟨H.bx,upd H.ob tag (some ⟨g,e,rows,true⟩)⟩ w'->Oper.wp P o a w next Q:=by
  intro w' hr hi'
  have hrun':(execOp a.eval o).run P w= .ok (.value (.tuple #[])) w':=by
   simp only[execOp,ho,resolve,Sem.run_bind,Sem.run_pure,Result.andThen_ok,invoke,builtin,List.map_toArray,List.map_cons,List.map_nil,hxr];rw[hr];rfl
  unfold Oper.wp;rw[hrun'];rw[hself]at hi';exact hn _ _ _ M w' hk (Mem.le_refl M) hi' (by simp[Rep,aN])
 by_cases h0:q-p=0
 ·refine fin w ?_ (by rw[hself];exact hi);unfold OwnRef.sub;rw[h0];split<;>(cases g.blk<;>simp[Builtin.clear_,run_underlying hu])
 ·rcases g4 with⟨_,hn',hc0⟩|⟨b,cur,hb,hmn,hcur,hcs,hlc,hcm,hcr,h1c,hw1,hw2⟩
  ·omega
  ·have hz1:=Nat.eq_of_beq_eq_true hz;have hcs':cur.size=g.cap*i.size:=hcs;have hcs2:cur.toList.length=g.cap*i.size:=by rw[Array.length_toList];exact hcs
   have e1:g.sub ei.size p q m= .slice (some ⟨b,p*i.size,none⟩) (q-p) (m-p):=by unfold OwnRef.sub;rw[zy (by omega),hb,g6];simp[fa]
   have hzl:(cP ei).length=i.size:=by simp[cP,hz1,g6]
   have hzc:(Builtin.zeroCells ei.zero.cells (q-p)).toList=(List.replicate (q-p) ei.zero.cells.toList).flatten:=by
    unfold Builtin.zeroCells;exact oK ei.zero.cells (q-p)
   have hzs:(Builtin.zeroCells ei.zero.cells (q-p)).toList.length=(q-p)*i.size:=by rw[hzc];simp[hz1,g6]
   have hrep:aN P M false (List.replicate (q-p) (cP ei)).flatten (List.replicate (q-p) ei.zero.cells.toList).flatten:=mc (lP _) (q-p)
   have hone:∀v∈(Builtin.zeroCells ei.zero.cells (q-p)).toList,v.oneCell'=true:=by
    rw[hzc];refine aN.oneCell ?_ hrep;rw[List.all_eq_true];intro x hx;rw[List.mem_flatten]at hx
    obtain⟨l,hl,hx⟩:=hx
    rw[List.eq_of_mem_replicate hl]at hx;exact List.all_eq_true.1 h1 x hx
   have hmq:q*i.size<=g.cap*i.size:=Nat.mul_le_mul_right _ (by omega);have hmp:rows.length*i.size<=p*i.size:=Nat.mul_le_mul_right _ hp;have hsub:(q-p)*i.size=q*i.size-p*i.size:=Nat.sub_mul _ _ _;have hpq':p*i.size<=q*i.size:=Nat.mul_le_mul_right _ hpq;have hst:=run_storeCells_at P b (p*i.size) e (Builtin.zeroCells ei.zero.cells (q-p)).toList 0 cur w hcur (by rw[hzs];omega) hone;simp only[Nat.add_zero]at hst
   obtain⟨k,hk1⟩:∃k,q-p=k+1:=⟨q-p-1,by omega⟩
   have htake:(cur.toList.take (p*i.size)++(Builtin.zeroCells ei.zero.cells (q-p)).toList++cur.toList.drop (p*i.size+(Builtin.zeroCells ei.zero.cells (q-p)).toList.length)).take (rows.length*i.size)=cur.toList.take (rows.length*i.size):=by
    rw[List.append_assoc,List.take_append_of_le_length (by rw[List.length_take,hcs2];omega),List.take_take,Nat.min_eq_left hmp]
   refine fin _ ?_ (hi.set_obj tag _ hob b hb rows true (cur.toList.take (p*i.size)++(Builtin.zeroCells ei.zero.cells (q-p)).toList++cur.toList.drop (p*i.size+(Builtin.zeroCells ei.zero.cells (q-p)).toList.length)).toArray i g1 g2 g3 ?_ hlc hcm ?_ ?_ ?_ (fun _=>hw1 trivial) (fun o' _=>hw1 trivial o'))
   ·rw[e1];have hzv:(zeroValue e).run P w= .ok ei.zero w:=by simp[zeroValue,typeInfo,g1,hzero]
    rw[hk1]at hst⊢;simp[Builtin.clear_,run_underlying hu,hzv];rw[hst];simp
   ·have e9:(cur.toList.take (p*i.size)++(Builtin.zeroCells ei.zero.cells (q-p)).toList++cur.toList.drop (p*i.size+(Builtin.zeroCells ei.zero.cells (q-p)).toList.length)).length=g.cap*i.size:=by
     rw[List.length_append,List.length_append,List.length_take,List.length_drop,hcs2,hzs];omega
    simpa using e9
   ·simp only;rw[htake];exact hcr
   ·simp only;rw[htake];exact h1c
   ·intro o' v' hm';rw[hw1 trivial o']at hm';cases hm'
end
section
variable{P:Program}{ops:Array Oper}{rest:List Oper}{o:Oper}{n:Nat}{s s':Nat->PV}{bx:Nat->Option Box}{ob:Nat->Option Obj}{K:PState->Prop}{T:TT}{rb:RB}{k:Nat}{L:List Nat}
theorem iJ(hT:T.Ok P)(hg:ba ops s o=some true){t:TypeId}{x:Operand}{lo hi mx:Option Operand}(ho:o.op= .slice t x lo hi mx){ti ei:TInfo}{e:TypeId}(hti:T.get t=some ti)(hd:ti.desc= .slice e)(hei:T.get e=some ei)
  {tag:Nat} {g:OwnRef} {len:Nat} (hx:evS s x= .own tag g len) {l h m:Nat} (hl:lj (evS s) lo 0 l) (hh:lj (evS s) hi len h) (hm:lj (evS s) mx g.cap m) (hs:mx.isSome=true->hi.isSome=true) (h1:l<=h) (h2:h<=m) (h3:m<=g.cap)
  (hp:putD n s o.dst (.val (g.sub ei.size l h m))=some s') (hr:Ao P ops rest ⟨n,s',bx,ob⟩ K):Ao P ops (o::rest) ⟨n,s,bx,ob⟩ K:=
 oB hg (detS_subV hT ho hti hd hei hx hl hh hm hs h1 h2 h3) hp hr
theorem Ao.subVQ{t:TypeId}{x:Operand}{lo hi mx:Option Operand}{ti ei:TInfo}{e:TypeId}{tag:Nat}{g:OwnRef}{len:Nat}{l h m:Nat}(hT:T.Ok P)(hl:lj (evS s) lo 0 l)(hh:lj (evS s) hi len h)(hs:mx.isSome=true->hi.isSome=true)(h1:l<=h)(h2:h<=m)(h3:m<=g.cap)(hr:Ao P ops rest ⟨n,s',bx,ob⟩ K)(hg:ba ops s o=some true:=by exact Z)(ho:o.op= .slice t x lo hi mx:=by exact Z)(hti:T.get t=some ti:=by exact Z)(hd:ti.desc= .slice e:=by exact Z)(hei:T.get e=some ei:=by exact Z)(hx:evS s x= .own tag g len:=by exact Z)(hm:lj (evS s) mx g.cap m:=by exact Z)(hp:putD n s o.dst (.val (g.sub ei.size l h m))=some s':=by exact Z):Ao P ops (o::rest) ⟨n,s,bx,ob⟩ K:=iJ hT hg ho hti hd hei hx hl hh hm hs h1 h2 h3 hp hr
theorem lp(hT:T.Ok P)(ho:ops[k]? =some o)(hg:ba ops s o=some true){t:TypeId}{x:Operand}{lo hi mx:Option Operand}(hop:o.op= .slice t x lo hi mx){ti ei:TInfo}{e:TypeId}(hti:T.get t=some ti)(hd:ti.desc= .slice e)(hei:T.get e=some ei)
  {tag:Nat} {g:OwnRef} {len:Nat} (hx:evS s x= .own tag g len) {l h m:Nat} (hl:lj (evS s) lo 0 l) (hh:lj (evS s) hi len h) (hm:lj (evS s) mx g.cap m) (hs:mx.isSome=true->hi.isSome=true) (h1:l<=h) (h2:h<=m) (h3:m<=g.cap)
  (hp:putD n s o.dst (.val (g.sub ei.size l h m))=some s') (hr:Do P T rb ops L ⟨n,s',bx,ob⟩ K):Do P T rb ops (k::L) ⟨n,s,bx,ob⟩ K:=
 nA ho hg (by rw[hop];rfl) (fun _=>detS_subV hT hop hti hd hei hx hl hh hm hs h1 h2 h3) hp hr
theorem Do.subVQ{t:TypeId}{x:Operand}{lo hi mx:Option Operand}{ti ei:TInfo}{e:TypeId}{tag:Nat}{g:OwnRef}{len:Nat}{l h m:Nat}(hT:T.Ok P)(hl:lj (evS s) lo 0 l)(hh:lj (evS s) hi len h)(hs:mx.isSome=true->hi.isSome=true)(h1:l<=h)(h2:h<=m)(h3:m<=g.cap)(hr:Do P T rb ops L ⟨n,s',bx,ob⟩ K)(ho:ops[k]? =some o:=by exact Z)(hg:ba ops s o=some true:=by exact Z)(hop:o.op= .slice t x lo hi mx:=by exact Z)(hti:T.get t=some ti:=by exact Z)(hd:ti.desc= .slice e:=by exact Z)(hei:T.get e=some ei:=by exact Z)(hx:evS s x= .own tag g len:=by exact Z)(hm:lj (evS s) mx g.cap m:=by exact Z)(hp:putD n s o.dst (.val (g.sub ei.size l h m))=some s':=by exact Z):Do P T rb ops (k::L) ⟨n,s,bx,ob⟩ K:=lp hT ho hg hop hti hd hei hx hl hh hm hs h1 h2 h3 hp hr
theorem nE(hT:T.Ok P)(hg:ba ops s o=some true){x:Operand}{t:TypeId}(ho:o.op= .call {callee:= .builtin .clear,args:=#[x],argTypes:=#[t]})(hdst:o.dst=none){ti ei:TInfo}{e:TypeId}(hti:T.get t=some ti)(hd:ti.desc= .slice e)(hei:T.get e=some ei)
  (hz:Nat.beq ei.zero.cells.size ei.size=true) (h1:(cP ei).all PV.one=true) {tag:Nat} {g:OwnRef} {rows:List (List PV)} (hob:ob tag=some ⟨g,e,rows,true⟩) {p q m:Nat} (hp:rows.length<=p) (hpq:p<=q) (hq:q<=m) (hm:m<=g.cap)
  (hx:evS s x= .val (g.sub ei.size p q m)) (h:Ao P ops rest ⟨n,s,bx,ob⟩ K):Ao P ops (o::rest) ⟨n,s,bx,ob⟩ K:=
 eO hg (eff_clearB hT ho hti hd hei hz h1 hob hp hpq hq hm hx ⟨s,by simp[hdst,putD],h⟩)
theorem qq(hg:ba ops s o=some true){t t':TypeId}{x y:Operand}(ho:o.op= .binOp .shr t x y t'){kk k2:IntKind}{a b:Int}(hx:evS s x= .val (.int kk a))(hy:evS s y= .val (.int k2 b))(hb:0<=b){m:Nat}(hm:min b.toNat kk.bits=m)
  (hp:putD n s o.dst (.val (.int kk (a.fdiv (2^m))))=some s') (h:Ao P ops rest ⟨n,s',bx,ob⟩ K):Ao P ops (o::rest) ⟨n,s,bx,ob⟩ K:=by
 refine eO hg (fun C M a' w next Q hi he hn=>?_);have hxr:=he x (by rw[ho];simp[Op.operands]);have hyr:=he y (by rw[ho];simp[Op.operands]);rw[show(⟨n,s,bx,ob⟩:PState).s=s from Z,hx]at hxr;rw[show(⟨n,s,bx,ob⟩:PState).s=s from Z,hy]at hyr;simp only[Rep]at hxr hyr;subst hm
 have hrun:(execOp a'.eval o).run P w= .ok (.value (.int kk (a.fdiv (2^(min b.toNat kk.bits))))) w:=by
  have h2:(eqGuard .shr t x y (.int kk a) (.int k2 b)).run P w= .ok () w:=by simp[eqGuard]
  have hb':¬b<0:=by omega
  simp only[execOp,ho,hxr,hyr,Sem.run_bind,h2,Result.andThen_ok,binOp,Op.shift,zy hb'];rfl
 unfold Oper.wp;rw[hrun];exact hn _ _ ⟨bx,ob⟩ M w ⟨s',hp,h⟩ (Mem.le_refl M) hi (by simp only[Rep])
theorem jJ{tag:Nat}{g:OwnRef}{e:TypeId}{rows:List (List PV)}{wr:Bool}(hob:ob tag=some ⟨g,e,rows,wr⟩)(h:(rows≠[]->∃b,g.blk=some b)->Ao P ops rest ⟨n,s,bx,ob⟩ K):Ao P ops rest ⟨n,s,bx,ob⟩ K:=fun C M a w Q hi hq=>by
 refine h (fun hne=>?_) C M a w Q hi hq
 obtain⟨_,_,_,_,h4⟩:=hi.2.objs tag _ hob
 rcases h4 with⟨_,h5,_⟩|⟨b,_,h5,_⟩
 ·exact absurd h5 hne
 ·exact⟨b,h5⟩
theorem qd{fn:Func}{R:PV->Heap->Prop}{ks:List KI}{tag:Nat}{g:OwnRef}{e:TypeId}{rows:List (List PV)}{wr:Bool}(hob:ob tag=some ⟨g,e,rows,wr⟩)(h:rows.length<=g.cap->V P fn R ks ⟨n,s,bx,ob⟩):V P fn R ks ⟨n,s,bx,ob⟩:=fun C M a w hi=>by
 refine h ?_ C M a w hi
 obtain⟨_,_,_,_,h4⟩:=hi.2.objs tag _ hob
 rcases h4 with⟨_,h5,h6⟩|⟨b,_,h5,_,_,_,h6,h7,_⟩
 ·simp only at h5;rw[h5];simp
 ·exact h6
theorem tV{tag:Nat}{g:OwnRef}{e:TypeId}{rows:List (List PV)}{wr:Bool}(hob:ob tag=some ⟨g,e,rows,wr⟩)(h:rows.length<=g.cap->Ao P ops rest ⟨n,s,bx,ob⟩ K):Ao P ops rest ⟨n,s,bx,ob⟩ K:=fun C M a w Q hi hq=>by
 refine h ?_ C M a w Q hi hq
 obtain⟨_,_,_,_,h4⟩:=hi.2.objs tag _ hob
 rcases h4 with⟨_,h5,h6⟩|⟨b,_,h5,_,_,_,h6,h7,_⟩
 ·simp only at h5;rw[h5];simp
 ·exact h6
theorem Gh.cutO{st:PState}{tag:Nat}{g:OwnRef}{e:TypeId}{rows rows':List (List PV)}(hob:st.ob tag=some ⟨g,e,rows,true⟩)(m:Nat)(hr:rows.take m=rows'):Gh P st ⟨st.n,st.s,st.bx,upd st.ob tag (some ⟨g,e,rows',true⟩)⟩:=by
 subst hr;intro C M a w hi
 exact⟨M,hi.1,hi.2.cutO hob m⟩
theorem rd(hT:T.Ok P)(ho:ops[k]? =some o)(hg:ba ops s o=some true){x y:Operand}{t:TypeId}(hop:o.op= .call {callee:= .builtin .append,args:=#[x,y],argTypes:=#[t,t]}){ti ei:TInfo}{e:TypeId}(hti:T.get t=some ti)(hd:ti.desc= .slice e)(hei:T.get e=some ei)
  {tag:Nat} {g:OwnRef} {rows rows':List (List PV)} (hob:ob tag=some ⟨g,e,rows,true⟩) {p q:Nat} (hpq:p<=q) (hq:q<=rows.length) (hx:evS s x= .val (g.sub ei.size 0 p g.cap)) (hy:evS s y= .val (g.sub ei.size q rows.length g.cap)) (hr:rows.take p++rows.drop q=rows')
  (hp:putD n s o.dst (.own tag g rows'.length)=some s') (h:Do P T rb ops L ⟨n,s',bx,upd ob tag (some ⟨g,e,rows',true⟩)⟩ K):Do P T rb ops (k::L) ⟨n,s,bx,ob⟩ K:=by
 subst hr
 refine⟨o,ho,true,hg,?_⟩
 simp only[if_true,hop,dW];exact .inr fun bx'=>eff_appendIn hT hop hti hd hei hob hpq hq hx hy ⟨rfl,fun hx=>by simp[oD]at hx,s',hp,h⟩
theorem uS(hT:T.Ok P)(hg:ba ops s o=some true){t:TypeId}{x y:Operand}(ho:o.op= .slice t x none (some y) none){ti:TInfo}{e:TypeId}(hti:T.get t=some ti)(hd:ti.desc= .slice e){ei:TInfo}(hei:T.get e=some ei)
  {tag:Nat} {g:OwnRef} {len:Nat} {rows rows':List (List PV)} (hx:evS s x= .own tag g len) (hob:ob tag=some ⟨g,e,rows,true⟩) {kk:IntKind} {m:Int} (hy:evS s y= .val (.int kk m)) (hm:0<=m/\m.toNat<=rows.length) (hr:rows.take m.toNat=rows') {d:Nat} (hdst:o.dst=some d) (hlt:Nat.blt d n=true)
  (h:Ao P ops rest ⟨n,upd s d (.own tag g rows'.length),bx,upd ob tag (some ⟨g,e,rows',true⟩)⟩ K):Ao P ops (o::rest) ⟨n,s,bx,ob⟩ K:=by
 subst hr;refine eO hg (fun C M a w next Q hi he hn=>?_);have hxr:=he x (by rw[ho];simp[Op.operands]);have hyr:=he y (by rw[ho];simp[Op.operands]);rw[show(⟨n,s,bx,ob⟩:PState).s=s from Z,hx]at hxr;rw[show(⟨n,s,bx,ob⟩:PState).s=s from Z,hy]at hyr;simp only[Rep]at hxr hyr;have hu:=(hT.get hti).und;rw[hd]at hu
 have hcap:rows.length<=g.cap:=by
  obtain⟨i,_,_,_,h4⟩:=hi.objs tag _ hob
  rcases h4 with⟨_,b,_⟩|⟨_,_,_,_,_,_,h9,_⟩
  ·simp only at b;rw[b];simp
  ·exact h9
 have hmc:m<=(g.cap:Int):=by omega
 have hl2:(rows.take m.toNat).length=m.toNat:=by simp;omega
 have hrun:(execOp a.eval o).run P w= .ok (.value (g.val (rows.take m.toNat).length)) w:=by
  rw[hl2];simp only[execOp,ho,Sem.run_bind,Sem.run_pure,Option.map_some,Option.map_none,hxr.2,hyr,OwnRef.val];cases hb:g.blk with
  |none=>simp[Instr.sliceAt,Instr.slice,run_underlying hu,Instr.sliceBounds,Instr.sliceBound,asIntOf,(hT.get hei).rsize w,hm.1,hmc]
  |some b=>
   have e0:(⟨b,0,none⟩:Addr).add 0=⟨b,0,none⟩:=by rw[fa]
   simp[Instr.sliceAt,Instr.slice,run_underlying hu,Instr.sliceBounds,Instr.sliceBound,asIntOf,(hT.get hei).rsize w,hm.1,hmc,e0]
 unfold Oper.wp;rw[hrun];exact hn _ (.own tag g (rows.take m.toNat).length) ⟨bx,upd ob tag (some ⟨g,e,rows.take m.toNat,true⟩)⟩ M w ⟨_,by simp[hdst,putD,hlt],h⟩ (Mem.le_refl M) (hi.cutO hob m.toNat) (by simp[Rep])
end
def oL(T:TT):List (Nat×Nat)->List PV->List PV->Option Bool
 |[],_,_=>some true
 |(t,off)::r,xs,ys=>match T.get t with
  |some ti=>match(bif ti.eqf.isEmpty then(match xs[off]?,ys[off]? with|some p,some q=>sg ti.desc p q|_,_=>none)else mI T ti.eqf ((xs.drop off).take ti.size) ((ys.drop off).take ti.size)),oL T r xs ys with
   |some b,some c=>some (b&&c)
   |_,_=>none
  |none=>none
section
variable{P:Program}{T:TT}
theorem ry(hT:T.Ok P)(w:World){M:Mem}{d:Nat}{xs ys:List PV}{cs ds:Array Value}(hx:aN P M true xs cs.toList)(hy:aN P M true ys ds.toList):
  ∀(fs:List Field) (eqf:List (Nat×Nat)) (b:Bool),gd fs eqf->oL T eqf xs ys=some b->(Op.eqFields (d+2) cs ds fs).run P w= .ok b w
 |[],[],b,_,h=>by simp only[oL,zo]at h;subst h;simp[Op.eqFields]
 |f::fs,(t,o)::r,b,hm,h=>by
  simp only[gd]at hm
  obtain⟨hn,rfl,rfl,hm⟩:=hm
  simp only[oL]at h;split at h
  ·rename_i ti hti;split at h
   ·rename_i b1 b2 h1 h2;simp only[zo]at h;subst h;have ih:=ry hT w (d:=d) hx hy fs r b2 hm h2;cases he:ti.eqf.isEmpty with
    |true=>
     simp only[he,zc]at h1;split at h1
     ·rename_i p q hp hq
      obtain⟨x,hx1,hx2⟩:=hx.get _ _ hp
      obtain⟨y,hy1,hy2⟩:=hy.get _ _ hq
      obtain⟨hag,heq⟩:=rm w (d:=d+1) (hT.get hti) hx2 hy2 h1
      have hpx:∀(c:Array Value) (z:Value),c.toList[f.offset]? =some z->(part f.type c f.offset).run P w= .ok z w:=by
       intro c z hz;rw[Array.getElem?_toList]at hz;simp[part,(hT.get hti).ragg w,hag,hz]
      simp only[Op.eqFields,zp (show f.name≠ "_" from hn),Sem.run_bind,hpx _ _ hx1,hpx _ _ hy1,Result.andThen_ok,heq];cases b1<;>simp[ih]
     ·cases h1
    |false=>
     simp only[he,zd]at h1
     obtain⟨k1,k2,k3,k4⟩:=(hT.get hti).eqs (by intro h0;simp[h0]at he)
     have hag:pn ti.desc=true:=by
      have hu:=(hT.get hti).und;rw[k4]at hu;rw[<-Option.some.inj hu];rfl
     have hpx:∀(c:Array Value),(part f.type c f.offset).run P w= .ok (.agg (c.extract f.offset (f.offset+ti.size))) w:=by
      intro c;simp[part,(hT.get hti).ragg w,hag,(hT.get hti).rsize w]
     have hsub:∀(zs:List PV) (c:Array Value),aN P M true zs c.toList->aN P M true ((zs.drop f.offset).take ti.size) (c.extract f.offset (f.offset+ti.size)).toList:=by
      intro zs c hz
      have e:(c.extract f.offset (f.offset+ti.size)).toList=(c.toList.drop f.offset).take ti.size:=by
       rw[Array.toList_extract];simp[List.extract_eq_take_drop]
      rw[e]
      exact(hz.drop _).take _
     have heq:(Op.equalIn (d+2) f.type (.agg (cs.extract f.offset (f.offset+ti.size))) (.agg (ds.extract f.offset (f.offset+ti.size)))).run P w= .ok b1 w:=by
      rw[run_equalIn_agg w (d+1) f.type _ _ k4 k1];exact nh hT w (d:=d) (hsub _ _ hx) (hsub _ _ hy) _ _ b1 k3 h1
     simp only[Op.eqFields,zp (show f.name≠ "_" from hn),Sem.run_bind,hpx,Result.andThen_ok,heq];cases b1<;>simp[ih]
   ·cases h
  ·cases h
 |[],_::_,b,hm,_=>by simp[gd]at hm
 |_::_,[],b,hm,_=>by simp[gd]at hm
theorem detS_eqNest(hT:T.Ok P){o:Oper}{ev:Operand->PV}{H:Heap}{t t':TypeId}{x y:Operand}(ho:o.op= .binOp .eql t x y t'){xs ys:List PV}(hx:ev x= .agg xs)(hy:ev y= .agg ys)(h1:P.stoodInHeld t=false)(h2:P.eqGuardType P.depth t=false)
  {eqf:List (Nat×Nat)} (h3:gd (P.fieldsOf t).toList eqf) (h4:P.underlying t=some (.struct (P.fieldsOf t))) {b:Bool} (hb:oL T eqf xs ys=some b):DetS P o ev H (.val (.bool b)):=by
 intro C M a w _ he;have hxr:=he x (by rw[ho];simp[Op.operands]);have hyr:=he y (by rw[ho];simp[Op.operands]);rw[hx]at hxr;rw[hy]at hyr;simp only[Rep]at hxr hyr
 obtain⟨cs,ex,hc⟩:=hxr
 obtain⟨ds,ey,hd⟩:=hyr
 refine⟨.bool b,?_,by simp only[Rep]⟩
 have key:(binOp .eql t (.agg cs) (.agg ds)).run P w= .ok (.bool b) w:=by
  rw[run_eql_struct w t cs ds,show(10000:Nat)=9997+2+1 from Z,run_equalIn_agg w (9997+2) t cs ds h4 h1,ry hT w (d:=9997) hc hd _ _ b h3 hb];rfl
 have hg:=run_eqGuard_agg (P:=P) w .eql t x y cs ds h2;simp only[execOp,ho,ex,ey];simp only[Sem.run_bind,hg,Result.andThen_ok,key];rfl
end
section
variable{P:Program}{ops:Array Oper}{rest:List Oper}{o:Oper}{n:Nat}{s s':Nat->PV}{bx:Nat->Option Box}{ob:Nat->Option Obj}{K:PState->Prop}{T:TT}{rb:RB}{k:Nat}{L:List Nat}
theorem vA(hT:T.Ok P)(ho:ops[k]? =some o)(hg:ba ops s o=some true){t t':TypeId}{x y:Operand}(hop:o.op= .binOp .eql t x y t'){xs ys:List PV}(hx:evS s x= .agg xs)(hy:evS s y= .agg ys)(h1:P.stoodInHeld t=false)(h2:P.eqGuardType P.depth t=false)
  {eqf:List (Nat×Nat)} (h3:gd (P.fieldsOf t).toList eqf) (h4:P.underlying t=some (.struct (P.fieldsOf t))) {b:Bool} (hb:oL T eqf xs ys=some b) (hp:putD n s o.dst (.val (.bool b))=some s') (h:Do P T rb ops L ⟨n,s',bx,ob⟩ K):Do P T rb ops (k::L) ⟨n,s,bx,ob⟩ K:=
 nA ho hg (by rw[hop];rfl) (fun _=>detS_eqNest hT hop hx hy h1 h2 h3 h4 hb) hp h
end
section
variable{P:Program}{C:Ctx}{M:Mem}{H:Heap}{w:World}
theorem InvH.alloc_part(h:InvH P C M H w)(pre cs:Array Value)(e:TypeId)(fz:Nat×Nat)(hp:∀(o:Nat) (v:Value),pre[o]? =some v->cs[o]? =some v):InvH P C (M.add w.heap.size pre) H (w.alloc (.cells cs e fz)):=by
 have hle:=h.add_le pre
 refine⟨?_,Mem.le_trans h.ext hle,?_,h.os,h.tape,h.output,?_,?_,?_,?_,h.dbox,h.dobj,h.dmix⟩
 ·intro b o v hm;by_cases hb:b=w.heap.size
  ·subst hb;rw[cell_of_row (w.alloc (.cells cs e fz)) w.heap.size o cs e fz (heap_alloc_new w _)];exact hp o v (by simpa[Mem.add]using hm)
  ·simp only[Mem.add,hb,if_false]at hm;rw[oH w _ (h.mem_lt hm)];exact h.mem b o v hm
 ·intro b o v hm;by_cases hb:b=w.heap.size
  ·exact .inr (.inl (hb▸h.size))
  ·simp only[Mem.add,hb,if_false]at hm;exact h.new b o v hm
 ·rw[sD];exact Nat.le_succ_of_le h.size
 ·intro b hb hn;rw[heap_alloc_old w _ (Nat.lt_of_lt_of_le hb h.size)];exact h.frame b hb hn
 ·intro t x hx;have hlt:=h.box_lt hx
  exact(h.boxes t x hx).keep hle (fun o ho=>by simp[Mem.add,Nat.ne_of_lt hlt,ho]) (heap_alloc_old w _ hlt)
 ·intro t x hx
  exact(h.objs t x hx).keep hle (fun b o hb ho=>by simp[Mem.add,Nat.ne_of_lt (h.obj_lt hx hb),ho]) (fun b hb=>heap_alloc_old w _ (h.obj_lt hx hb))
theorem freeze_new(w:World)(cs:Array Value)(e:TypeId)(n:Nat):(w.alloc (.cells cs e)).freeze ⟨w.heap.size,n,none⟩ 1=w.alloc (.cells cs e (n,n+1)):=by
 unfold World.freeze World.alloc;simp only[Nat.one_ne_zero,if_false];congr 1;apply Array.ext
 ·simp
 ·intro i h1 h2;rw[Array.getElem_modify];split
  ·rename_i hi;subst hi;simp
  ·rename_i hi
   have:i<w.heap.size:=by simp at h2;omega
   simp[Array.getElem_push,this]
end
section
variable{P:Program}{ops:Array Oper}{rest:List Oper}{o:Oper}{n:Nat}{s s':Nat->PV}{bx:Nat->Option Box}{ob:Nat->Option Obj}{K:PState->Prop}{T:TT}{rb:RB}{k:Nat}{L:List Nat}
theorem byteRows_rep(M:Mem)(xs:Rb):aN P M false (mF xs).flatten (xs.map fun c=>Value.int .u8 c.toNat):=by
 induction xs with
 |nil=>simp[mF,aN]
 |cons c xs ih=>simp only[mF,List.map_cons,List.flatten_cons,List.cons_append,List.nil_append,aN,Rep];exact⟨_,_,rfl,rfl,ih⟩
theorem Ao.s2b(hT:T.Ok P)(hg:ba ops s o=some true){src dst e:TypeId}{x:Operand}(ho:o.op= .convert src dst x){si di ei:TInfo}(hsi:T.get src=some si)(hsd:si.desc= .string)(hdi:T.get dst=some di)(hdd:di.desc= .slice e)(hei:T.get e=some ei)(hed:ei.desc= .int .u8)(hes:ei.size=1)(heb:ei.bytes=1)
  {xs:Rb} (hx:evS s x= .str xs) (hl:xs.length<=2^47) (hp:putD n s o.dst (.list e (mF xs))=some s') (h:Ao P ops rest ⟨n,s',bx,ob⟩ K):Ao P ops (o::rest) ⟨n,s,bx,ob⟩ K:=by
 refine eO hg (fun C M a w next Q hi he hn=>?_);have hxr:=he x (by rw[ho];simp[Op.operands]);rw[show(⟨n,s,bx,ob⟩:PState).s=s from Z,hx]at hxr;simp only[Rep]at hxr;have hs:=(hT.get hsi).und;have hd:=(hT.get hdi).und;have hee:=(hT.get hei).und;rw[hsd]at hs;rw[hdd]at hd;rw[hed]at hee
 obtain⟨i,hinf,hsz,hby,_⟩:=(hT.get hei).info
 have hge:=grownCap_ge w xs.length 0 e;have hml:xs.length<=maxLen:=by unfold maxLen;omega
 have hgm:grownCap w xs.length 0 e<=maxLen:=grownCap_le_maxLen w xs.length 0 e hml
 obtain⟨pre,hpre⟩:∃pre:Array Value,pre=xs.toArray.map fun b=>Value.int .u8 b.toNat:=⟨_,rfl⟩
 obtain⟨cs,hcs⟩:∃cs:Array Value,cs=pre++Array.replicate (grownCap w xs.length 0 e-xs.length) (.int .u8 0):=⟨_,rfl⟩
 have hrun:(execOp a.eval o).run P w= .ok (.value (.slice (some ⟨w.heap.size,0,none⟩) xs.length (grownCap w xs.length 0 e))) (w.drew.alloc (.cells cs e (cs.size,cs.size+1))):=by
  have hz:(ByteArray.mk xs.toArray).size=xs.length:=by simp[ByteArray.size]
  have key:(Conv.stringToBytes e ⟨xs.toArray⟩).run P w= .ok (.slice (some ⟨w.heap.size,0,none⟩) xs.length (grownCap w xs.length 0 e)) (w.drew.alloc (.cells cs e (cs.size,cs.size+1))):=by
   have hmk:∀w0:World,(markStringish ⟨w0.heap.size,0,none⟩).run P (w0.alloc (.cells cs e))= .ok () (w0.alloc (.cells cs e (cs.size,cs.size+1))):=by
    intro w0;have hsh:(w0.alloc (.cells cs e)).shape? w0.heap.size=some (e,cs.size):=by unfold World.shape?;rw[heap_alloc_new]
    unfold markStringish;simp only[Sem.run_bind,run_shape,Result.andThen_ok,hsh];rw[run_freeze,freeze_new]
   have hm0:=hmk w.drew;subst hcs;subst hpre;unfold Conv.stringToBytes;simp only[Sem.run_bind,hz,run_choose,Question.forced];simp[newRow];simp[grownCap]at hm0⊢;rw[hm0];simp
  simp only[execOp,ho,hxr.1,convert,Sem.run_bind,run_underlying hs,run_underlying hd,run_underlying hee,Result.andThen_ok,key];rfl
 unfold Oper.wp;rw[hrun];have hle:=(show InvH P C M ⟨bx,ob⟩ w.drew from hi.drew).add_le pre;have hi':=(show InvH P C M ⟨bx,ob⟩ w.drew from hi.drew).alloc_part pre cs e (cs.size,cs.size+1) (fun o v hv=>by rw[hcs,Array.getElem?_append_left (Array.getElem?_eq_some_iff.1 hv).1];exact hv);refine hn _ (.list e (mF xs)) ⟨bx,ob⟩ (M.add w.drew.heap.size pre) _ ⟨s',hp,h⟩ hle hi' ?_;simp only[Rep];have hbl:(mF xs).length=xs.length:=by simp[mF]
 refine⟨_,grownCap w xs.length 0 e,i,by rw[hbl],by rw[hbl];exact hge,hgm,hinf,by rw[hbl,hby,heb];omega,fun _=>⟨_,_,rfl,?_⟩⟩
 refine dR.of_flat (fun r hr=>?_) (tf (show InvH P C M ⟨bx,ob⟩ w.drew from hi.drew) (mF xs).flatten pre ?_ ?_)
 ·obtain⟨c,_,rfl⟩:=List.mem_map.1 hr
  rw[hsz,hes];rfl
 ·rw[hpre];intro v hv;simp at hv
  obtain⟨c,_,rfl⟩:=hv
  rfl
 ·rw[hpre];simpa using byteRows_rep M xs
theorem vH(hT:T.Ok P)(hg:ba ops s o=some true){x:Operand}{t:TypeId}(ho:o.op= .makeSlice t x x){d:Nat}(hdst:o.dst=some d)(hlt:Nat.blt d n=true){ti ei:TInfo}{e:TypeId}(hti:T.get t=some ti)(hd:ti.desc= .slice e)(hei:T.get e=some ei)
  (hz:Nat.beq ei.zero.cells.size ei.size=true) (h1:(cP ei).all PV.one=true) {kk:IntKind} {m:Int} (hx:evS s x= .val (.int kk m)) (hm:0<=m) (hby:m.toNat*ei.bytes<=2^47) (hmx:m.toNat<=maxLen) {rows:List (List PV)} (hr:List.replicate m.toNat (cP ei)=rows)
  (h:∀g,Ao P ops rest ⟨n,upd s d (.own d g rows.length),bx,upd ob d (some ⟨g,e,rows,true⟩)⟩ K):Ao P ops (o::rest) ⟨n,s,bx,ob⟩ K:=by
 subst hr;refine eO hg (fun C M a w next Q hi he hn=>?_);have hxr:=he x (by rw[ho];simp[Op.operands]);rw[show(⟨n,s,bx,ob⟩:PState).s=s from Z,hx]at hxr;simp only[Rep]at hxr;have hu:=(hT.get hti).und;rw[hd]at hu
 obtain⟨i,hinf,hs,hbs,hzero⟩:=(hT.get hei).info
 have hz1:=Nat.eq_of_beq_eq_true hz
 obtain⟨k,hk⟩:∃k:Nat,k=m.toNat:=⟨_,rfl⟩
 rw[<-hk]at hby hmx h;have hkm:m=(k:Int):=by omega
 subst hkm;have hby2:k*i.bytes<=2^47:=by rw[hbs];exact hby
 have hbi:(i.bytes:Int)*(k:Int)<=281474976710656:=by
  have:((k*i.bytes:Nat):Int)<=((2^47:Nat):Int):=Int.ofNat_le.2 hby2
  rw[Int.natCast_mul]at this;rw[Int.mul_comm];omega
 have hrun:(execOp a.eval o).run P w= .ok (.value (.slice (some ⟨w.heap.size,0,none⟩) k k)) (w.alloc (.cells (madeCells ei.zero.cells (k*i.size)) e)):=by
  have:=run_make w t e i ei.zero hu hinf hzero kk kk (k:Int) (k:Int) (by omega) (by omega) hbi (by unfold maxLen at hmx;omega)
  simp only[Int.toNat_natCast]at this;simp only[execOp,ho,hxr,Sem.run_bind,this];rfl
 unfold Oper.wp;rw[hrun];have hzl:(cP ei).length=i.size:=by simp[cP,hz1,hs]
 have hmc:(madeCells ei.zero.cells (k*i.size)).toList=(List.replicate k ei.zero.cells.toList).flatten:=by
  rw[hs,<-hz1];exact oK ei.zero.cells k
 have hrep:aN P M false (List.replicate k (cP ei)).flatten (List.replicate k ei.zero.cells.toList).flatten:=mc (lP _) k
 have htake:(madeCells ei.zero.cells (k*i.size)).toList.take ((List.replicate k (cP ei)).length*i.size)=(List.replicate k ei.zero.cells.toList).flatten:=by
  rw[List.length_replicate,List.take_of_length_le (by simp[size_madeCells]),hmc]
 refine hn _ (.own d ⟨some w.heap.size,k⟩ (List.replicate k (cP ei)).length) _ M _ ⟨_,by simp[hdst,putD,hlt],h ⟨some w.heap.size,k⟩⟩ (Mem.le_refl M)
  ((show InvH P C M ⟨bx,ob⟩ w from hi).alloc_obj d e (List.replicate k (cP ei)) true _ _ i hinf ?_ ?_ ?_ ?_ hmx ?_ ?_) ?_
 ·rw[List.length_replicate];exact hby2
 ·intro r hr;rw[List.eq_of_mem_replicate hr];exact hzl
 ·rw[size_madeCells]
 ·rw[List.length_replicate];exact Nat.le_refl _
 ·rw[htake];exact hrep
 ·rw[htake];refine aN.oneCell ?_ hrep;rw[List.all_flatten];rw[List.all_eq_true];intro r hr;rw[List.eq_of_mem_replicate hr];exact h1
 ·simp[Rep,OwnRef.val]
theorem Ao.ext(hg:ba ops s o=some true){fx:Operand}{av0:Array Operand}{ts:Array TypeId}(ho:o.op= .call {callee:= .value fx,args:=av0,argTypes:=ts}){g:FuncId}(hf:evS s fx= .fn g []){r:PV}
  (hcall:∀(M:Mem) (vs:Array Value) (w:World),aN P M true (av0.toList.map (evS s)) vs.toList->∃v,(callFunc g vs).run P w= .ok (.value v) w/\Rep P M true r v)
  (hp:putD n s o.dst r=some s') (h:Ao P ops rest ⟨n,s',bx,ob⟩ K):Ao P ops (o::rest) ⟨n,s,bx,ob⟩ K:=by
 refine eO hg (fun C M a w next Q hi he hn=>?_);have hfr:=he fx (by rw[ho];simp[Op.operands,Call.operands]);rw[show(⟨n,s,bx,ob⟩:PState).s=s from Z,hf]at hfr;simp only[Rep]at hfr
 obtain⟨cs,hv,hcaps⟩:=hfr
 have hargs:aN P M true (av0.toList.map (evS s)) (av0.map a.eval).toList:=by
  simpa using pS av0.toList fun x hx=>he x (by rw[ho];simp_all[Op.operands,Call.operands])
 have hc0:cs=#[]:=by
  simp only[aN]at hcaps;exact Array.toList_eq_nil_iff.1 hcaps
 subst hc0
 obtain⟨v,hrun,hr⟩:=hcall M (av0.map a.eval) w hargs
 have hrun':(execOp a.eval o).run P w= .ok (.value v) w:=by
  simp[execOp,ho,resolve,hv,Deferred.ofValue,invoke,hrun]
 unfold Oper.wp;rw[hrun'];exact hn v r ⟨bx,ob⟩ M w ⟨s',hp,h⟩ (Mem.le_refl M) hi hr
theorem Ao.cmpS(hg:ba ops s o=some true){fx x y:Operand}{ts:Array TypeId}(ho:o.op= .call {callee:= .value fx,args:=#[x,y],argTypes:=ts}){g:FuncId}(hf:evS s fx= .fn g []){fn:Func}(h1:P.funcs[g]? =some fn)(h2:(fn.name== "runtime.NumGoroutine")=false)(h3:fn.body.isNone=true)(h4:Extern.findNext fn=none)(h5:Extern.find fn=some Extern.BytealgCompare.compare)
  {a b:Rb} (hx:evS s x= .str a) (hy:evS s y= .str b) (hp:putD n s o.dst (.val (.int .i64 (Lib.compareBytes a b)))=some s') (h:Ao P ops rest ⟨n,s',bx,ob⟩ K):Ao P ops (o::rest) ⟨n,s,bx,ob⟩ K:=by
 refine Ao.ext hg ho hf (fun M vs w hr=>?_) hp h;simp only[List.map_cons,List.map_nil,hx,hy,aN,Rep]at hr
 obtain⟨v1,l1,e1,⟨r1,_⟩,v2,l2,e2,⟨r2,_⟩,e3⟩:=hr
 subst e3 e2 r1 r2
 have hvs:vs=#[.string ⟨a.toArray⟩,.string ⟨b.toArray⟩]:=by
  apply Array.toList_inj.1;rw[e1]
 subst hvs
 refine⟨.int .i64 (Lib.compareBytes a b),?_,by simp only[Rep]⟩
 rw[run_callFunc_extern h1 h2 h3 h4 h5,Lib.run_compareString];rfl
end
def arrI{α:Type}(n:Nat)(xs:List α)(i:Int):Option α:=if 0<=i/\i<n then xs[i.toNat]? else none
theorem arrI_some{α:Type}{n:Nat}{xs:List α}{i:Int}{x:α}(h:arrI n xs i=some x):(0<=i/\i<n)/\xs[i.toNat]? =some x:=by
 unfold arrI at h;split at h
 ·rename_i h0;exact⟨h0,h⟩
 ·cases h
theorem arrI_eq{α:Type}{n:Nat}{xs:List α}{i:Int}{x:α}(h0:0<=i/\i<n)(h:xs[i.toNat]? =some x):arrI n xs i=some x:=by
 unfold arrI;rw[zp h0,h]
theorem splice_map{α:Type}(f:α->PV)(xs:List α)(k:Nat)(v:α){ys:List α}(hk:k<xs.length)(hy:xs.set k v=ys):gT (xs.map f) k [f v]=ys.map f:=by
 subst hy;unfold gT;rw[List.map_set,List.length_singleton];have hk':k<(xs.map f).length:=by simpa using hk
 rw[List.set_eq_take_append_cons_drop,zp hk',List.append_assoc];rfl
section
variable{P:Program}{ops:Array Oper}{rest:List Oper}{o:Oper}{n:Nat}{s s':Nat->PV}{bx:Nat->Option Box}{ob:Nat->Option Obj}{K:PState->Prop}{T:TT}{rb:RB}{k:Nat}{L:List Nat}
theorem sm(p:PV)(l:List PV):okS (p::l)=false↔∃a g b,p= .optr a g 99 77 b:=by
 constructor
 ·intro h;unfold okS at h;split at h
  ·rename_i a g b _ e;simp only[List.cons.injEq]at e
   exact⟨a,g,b,e.1⟩
  ·cases h
 ·rintro⟨a,g,b,rfl⟩
  rfl
theorem okS_head{p:PV}{l:List PV}:okS (p::l)=okS [p]:=by
 cases h:okS [p]with
 |false=>exact(sm p l).2 ((sm p []).1 h)
 |true=>
  cases h':okS (p::l)with
  |true=>rfl
  |false=>rw[(sm p []).2 ((sm p l).1 h')]at h;cases h
theorem okS_map{α:Type}{f:α->PV}(hf:∀x,okS [f x]=true):∀l:List α,okS (l.map f)=true
 |[]=>rfl
 |x::l=>by rw[List.map_cons,okS_head];exact hf x
theorem tN(l:List Int):okS (l.map fun x=>PV.val (.int .i64 x))=true:=okS_map (fun _=>Z) l
theorem rX(l:List Bool):okS (l.map fun x=>PV.val (.bool x))=true:=okS_map (fun _=>Z) l
theorem tU(l:Rs):okS (l.map PV.str)=true:=okS_map (fun _=>Z) l
theorem vl(ho:ops[k]? =some o)(hg:ba ops s o=some true){t:TypeId}{x i:Operand}(hop:o.op= .indexAddr t x i){ti ei:TInfo}{e:TypeId}{len:Nat}(hti:T.get t=some ti)(hd:ti.desc= .array len e)(hei:T.get e=some ei)(hes:ei.size=1)
  {tag b:Nat} (hx:evS s x= .box tag b 0) {kk:IntKind} {j:Int} (hi:evS s i= .val (.int kk j)) (hj:0<=j/\j<len) (hp:putD n s o.dst (.box tag b j.toNat)=some s') (h:Do P T rb ops L ⟨n,s',bx,ob⟩ K):Do P T rb ops (k::L) ⟨n,s,bx,ob⟩ K:=by
 refine uQ ho hg (by rw[hop];rfl) (r:= .box tag b j.toNat) ?_ hp h;rw[hop];simp[jv,jC,hti,hx,hi,hd,hei,hj,hes]
theorem vG(hT:T.Ok P)(hg:ba ops s o=some true){t:TypeId}{x:Operand}(ho:o.op= .load t x){ti:TInfo}(hti:T.get t=some ti)(hta:pn ti.desc=false){tag b off:Nat}{cells:List PV}
  (hx:evS s x= .box tag b off) (hb:bx tag=some ⟨b,cells⟩) {r:PV} (hr:cells[off]? =some r) (hp:putD n s o.dst r=some s') (h:Ao P ops rest ⟨n,s',bx,ob⟩ K) (hok:okS cells=true:=by first|rfl|exact tN _|exact rX _|exact tU _):Ao P ops (o::rest) ⟨n,s,bx,ob⟩ K:=
 Ao.lB hT hg ho hti hx hb (by simp[eT,hok,il,hta,hr,jx]) hp h
theorem vB(ho:ops[k]? =some o)(hrb:rb.b o=true)(hg:ba ops s o=some true){t:TypeId}{x:Operand}(hop:o.op= .load t x){ti:TInfo}(hti:T.get t=some ti)(hta:pn ti.desc=false){tag b off:Nat}{cells:List PV}
  (hx:evS s x= .box tag b off) (hb:bx tag=some ⟨b,cells⟩) {r:PV} (hr:cells[off]? =some r) (hp:putD n s o.dst r=some s') (h:Do P T rb ops L ⟨n,s',bx,ob⟩ K) (hok:okS cells=true:=by first|rfl|exact tN _|exact rX _|exact tU _):Do P T rb ops (k::L) ⟨n,s,bx,ob⟩ K:=
 Do.lB ho hrb hg hop hti hx hb (by simp[eT,hok,il,hta,hr,jx]) hp h
theorem vw(hT:T.Ok P)(hg:ba ops s o=some true){t:TypeId}{x y:Operand}(ho:o.op= .store t x y)(hd:o.dst=none){ti:TInfo}(hti:T.get t=some ti)(hts:ti.size=1){tag b off:Nat}{cells cells':List PV}(hx:evS s x= .box tag b off)(hb:bx tag=some ⟨b,cells⟩)
  {p:PV} (hc:eo (evS s y)=some [p]) (h1:PV.one p=true) (hk:off<cells.length) (hs:gT cells off [p]=cells') (h:Ao P ops rest ⟨n,s,upd bx tag (some ⟨b,cells'⟩),ob⟩ K) (hok:okS cells=true:=by first|rfl|exact tN _|exact rX _|exact tU _):Ao P ops (o::rest) ⟨n,s,bx,ob⟩ K:=
 Ao.sB hT hg ho hd hti hx hb (cs:=[p]) (by simp[hc,eI]) (by simp[h1]) (by rw[hts];rfl) (by rw[hts,hok,Bool.true_and];exact Nat.ble_eq.mpr hk) (by rw[eI,hs]) h
theorem vu(ho:ops[k]? =some o)(hg:ba ops s o=some true){t:TypeId}{x y:Operand}(hop:o.op= .store t x y)(hd:o.dst=none){ti:TInfo}(hti:T.get t=some ti)(hts:ti.size=1){tag b off:Nat}{cells cells':List PV}(hx:evS s x= .box tag b off)(hb:bx tag=some ⟨b,cells⟩)
  {p:PV} (hc:eo (evS s y)=some [p]) (h1:PV.one p=true) (hk:off<cells.length) (hs:gT cells off [p]=cells') (h:Do P T rb ops L ⟨n,s,upd bx tag (some ⟨b,cells'⟩),ob⟩ K) (hok:okS cells=true:=by first|rfl|exact tN _|exact rX _|exact tU _) (hso:rb.so=false:=by rfl):Do P T rb ops (k::L) ⟨n,s,bx,ob⟩ K:=
 fM ho hg hop hd hti hx hb (cs:=[p]) (by simp[hc,eI]) (by simp[h1]) (by rw[hts];rfl) (by rw[hts,hok,Bool.true_and];exact Nat.ble_eq.mpr hk) (by rw[eI,hs]) h hso
end
def bX:Nat:=100000
def dG(n c:Nat):Nat:=max n (min c maxLen)
def ke(b n c:Nat):Value:=bif Nat.beq (dG n c) 0 then .slice none 0 0 else .slice (some ⟨b,0,none⟩) n (dG n c)
def fZ(gf:Nat->OwnRef)(rss:List (List (List PV)))(c:Nat):List PV:=rss.mapIdx (fun i rs=>PV.own (bX+i) (gf i) rs.length)++List.replicate (dG rss.length c-rss.length) (.val (.slice none 0 0))
def jV(b:Nat)(gf:Nat->OwnRef)(rss:List (List (List PV)))(c:Nat):Option Box:=bif Nat.beq (dG rss.length c) 0 then none else some ⟨b,fZ gf rss c⟩
def fK(e:TypeId)(gf:Nat->OwnRef)(rss:List (List (List PV)))(ob:Nat->Option Obj):Nat->Option Obj:=fun t=>
 bif Nat.ble bX t then(rss[t-bX]?).map (fun rs=>⟨gf (t-bX),e,rs,true⟩)else ob t
theorem okS_of{l:List PV}(h:∀p∈l,∀a g b,p≠ .optr a g 99 77 b):okS l=true:=by
 unfold okS;split
 ·rename_i a g b _;exact absurd Z (h _ (by simp) a g b)
 ·rfl
theorem rz(gf:Nat->OwnRef)(rss:List (List (List PV)))(c:Nat):okS (fZ gf rss c)=true:=okS_of fun p hp a g b e=>by
 subst e;unfold fZ at hp;rcases List.mem_append.1 hp with hp|hp
 ·obtain⟨i,hi,h⟩:=List.mem_mapIdx.1 hp
  cases h
 ·cases(List.mem_replicate.1 hp).2
theorem kQ(n c:Nat):n<=dG n c:=Nat.le_max_left _ _
theorem famCap_le{n:Nat}(c:Nat)(h:n<=maxLen):dG n c<=maxLen:=Nat.max_le.2 ⟨h,Nat.min_le_right _ _⟩
theorem lH{n c:Nat}(h:n<=c)(h':c<=maxLen):dG n c=c:=by unfold dG;rw[Nat.min_eq_left h',Nat.max_eq_right h]
theorem beq_pos{n:Nat}(h:0<n):Nat.beq n 0=false:=by
 cases n with
 |zero=>omega
 |succ n=>rfl
theorem nq{b n c:Nat}(h:0<dG n c):ke b n c= .slice (some ⟨b,0,none⟩) n (dG n c):=by simp[ke,beq_pos h]
theorem famV_zero{b n c:Nat}(h:dG n c=0):ke b n c= .slice none 0 0:=by simp[ke,h]
theorem rV{b:Nat}{gf:Nat->OwnRef}{rss:List (List (List PV))}{c:Nat}(h:0<dG rss.length c):jV b gf rss c=some ⟨b,fZ gf rss c⟩:=by simp[jV,beq_pos h]
theorem famB_zero{b:Nat}{gf:Nat->OwnRef}{rss:List (List (List PV))}{c:Nat}(h:dG rss.length c=0):jV b gf rss c=none:=by simp[jV,h]
theorem fp{e:TypeId}{gf:Nat->OwnRef}{rss:List (List (List PV))}{ob:Nat->Option Obj}{i:Nat}{rs:List (List PV)}(h:rss[i]? =some rs):fK e gf rss ob (bX+i)=some ⟨gf i,e,rs,true⟩:=by
 have:Nat.ble bX (bX+i)=true:=by rw[Nat.ble_eq];exact Nat.le_add_right _ _
 simp[fK,this,h]
theorem tl{b:Nat}{gf:Nat->OwnRef}{rss:List (List (List PV))}{c i:Nat}{rs:List (List PV)}(h:rss[i]? =some rs):jV b gf rss c=some ⟨b,fZ gf rss c⟩:=by
 have hl:=(zg.1 h).1;exact rV (Nat.lt_of_lt_of_le (by omega) (kQ _ _))
theorem famCells_get{gf:Nat->OwnRef}{rss:List (List (List PV))}{c i:Nat}{rs:List (List PV)}(h:rss[i]? =some rs):(fZ gf rss c)[i]? =some (.own (bX+i) (gf i) rs.length):=by
 have hl:=(zg.1 h).1;unfold fZ;rw[List.getElem?_append_left (by simpa using hl)];simp[h]
theorem qe{gf:Nat->OwnRef}{rss:List (List (List PV))}{c:Nat}:(fZ gf rss c).length=dG rss.length c:=by
 have:=kQ rss.length c
 simp[fZ];omega
theorem flat_single{α β:Type}(f:α->β)(l:List α):(l.map fun r=>[f r]).flatten=l.map f:=by
 induction l with
 |nil=>rfl
 |cons a l ih=>simp[ih]
theorem splice_one(cells:List PV)(k:Nat)(v:PV)(hk:k<cells.length):gT cells k [v]=cells.set k v:=by
 unfold gT;rw[List.length_singleton,List.set_eq_take_append_cons_drop,zp hk,List.append_assoc];rfl
theorem famCells_set{gf:Nat->OwnRef}{rss:List (List (List PV))}{c i:Nat}{rs rs':List (List PV)}(h:rss[i]? =some rs)(g:OwnRef):
  gT (fZ gf rss c) i [.own (bX+i) g rs'.length]=fZ (upd gf i g) (rss.set i rs') c:=by
 have hl:=(zg.1 h).1;rw[splice_one _ _ _ (by rw[qe];exact Nat.lt_of_lt_of_le hl (kQ _ _))];unfold fZ;rw[List.set_append_left _ _ (by simpa using hl),List.length_set];congr 1;apply List.ext_getElem?;intro j;simp only[List.getElem?_set,List.length_mapIdx,List.getElem?_mapIdx];by_cases hj:i=j
 ·subst hj;simp[hl,gQ]
 ·have:j≠i:=fun h=>hj h.symm
  simp[hj,gk _ _ this]
theorem nF{α:Type}{f:Nat->α}{t:Nat}{v:α}{i:Nat}(h:t<100000):upd f t v (bX+i)=f (bX+i):=gk _ _ (by unfold bX;omega)
theorem famO_low{e:TypeId}{gf:Nat->OwnRef}{rss:List (List (List PV))}{ob:Nat->Option Obj}{t:Nat}(h:t<bX):fK e gf rss ob t=ob t:=by
 have:Nat.ble bX t=false:=by
  cases hb:Nat.ble bX t with
  |false=>rfl
  |true=>have:=Nat.le_of_ble_eq_true hb;omega
 simp[fK,this]
theorem famO_set{e:TypeId}{gf:Nat->OwnRef}{rss:List (List (List PV))}{ob:Nat->Option Obj}{i:Nat}{rs':List (List PV)}{g:OwnRef}(hl:i<rss.length):
  ∀j rs,(rss.set i rs')[j]? =some rs->upd (fK e gf rss ob) (bX+i) (some ⟨g,e,rs',true⟩) (bX+j)=some ⟨upd gf i g j,e,rs,true⟩:=by
 intro j rs h;rw[List.getElem?_set]at h;by_cases hj:i=j
 ·subst hj;simp only[if_true,hl]at h;cases h;rw[gQ,gQ]
 ·have h1:bX+j≠bX+i:=by omega
  rw[zy hj]at h;rw[gk _ _ h1,fp h,gk _ _ (fun h=>hj h.symm)]
theorem famB_put{b c i:Nat}{gf2:Nat->OwnRef}{rss rss2:List (List (List PV))}{rs rs':List (List PV)}(h:rss[i]? =some rs)(hz:rss2=rss.set i rs'):(some ⟨b,fZ gf2 (rss.set i rs') c⟩:Option Box)=jV b gf2 rss2 c:=by
 subst hz
 exact(tl (i:=i) (rs:=rs') (by rw[List.getElem?_set];simp[(zg.1 h).1])).symm
theorem famO_put{e:TypeId}{gf:Nat->OwnRef}{rss rss2:List (List (List PV))}{ob:Nat->Option Obj}{i:Nat}{rs0 rs':List (List PV)}{g:OwnRef}(h:rss[i]? =some rs0)(hz:rss2=rss.set i rs'):
  ∀j rs,rss2[j]? =some rs->upd (fK e gf rss ob) (bX+i) (some ⟨g,e,rs',true⟩) (bX+j)=some ⟨upd gf i g j,e,rs,true⟩:=by
 subst hz;exact famO_set (zg.1 h).1
theorem jl(ob ob':Nat->Option Obj)(t:Nat):oc ob [] ob' t=ob t:=rfl
theorem iH{ob ob':Nat->Option Obj}{a k i:Nat}{m:List (Nat×Nat)}(h:a<100000):oc ob ((a,k)::m) ob' (bX+i)=oc ob m ob' (bX+i):=by
 unfold oc;rw[List.find?_cons]
 have:Nat.beq a (bX+i)=false:=by
  cases hb:Nat.beq a (bX+i)with
  |false=>rfl
  |true=>have:=Nat.eq_of_beq_eq_true hb;unfold bX at this;omega
 simp only[this]
section
variable{P:Program}{bx bx':Nat->Option Box}{ob ob':Nat->Option Obj}
theorem vn{e:TypeId}{gf:Nat->OwnRef}(h:OLe ob ob'):OLe ob (fK e gf [] ob'):=fun t x hx=>by
 unfold fK at hx;cases hq:Nat.ble bX t with
 |true=>rw[hq]at hx;simp at hx
 |false=>rw[hq]at hx;exact h t x hx
theorem lx{e:TypeId}{gf:Nat->OwnRef}{rss:List (List (List PV))}(h:∀i rs,rss[i]? =some rs->ob (bX+i)=some ⟨gf i,e,rs,true⟩)(h':OLe ob ob'):OLe ob (fK e gf rss ob'):=by
 intro t x hx;unfold fK at hx;cases hb:Nat.ble bX t with
 |false=>rw[hb]at hx;exact h' t x hx
 |true=>
  rw[hb]at hx;have hle:=Nat.le_of_ble_eq_true hb;simp only[zc,Option.map_eq_some_iff]at hx
  obtain⟨rs,h1,rfl⟩:=hx
  have:=h _ _ h1
  rwa [show bX+(t-bX)=t from by omega]at this
theorem famNil_le(e:TypeId)(gf:Nat->OwnRef)(ob:Nat->Option Obj):∀t x,fK e gf [] ob t=some x->ob t=some x:=lx (fun i rs h=>by simp at h) (vC ob)
theorem lY{t b c:Nat}{gf:Nat->OwnRef}{rss:List (List (List PV))}(h:bx t=jV b gf rss c)(h':BLe P bx bx'):BLe P bx (upd bx' t (jV b gf rss c)):=fun u x hx=>by
 rw[fv]at hx;split at hx
 ·rename_i e;subst e;rw[<-h]at hx;exact⟨x,hx,rfl,jt.refl P _,.inr Z⟩
 ·exact h' u x hx
theorem vm{t b:Nat}{gf:Nat->OwnRef}(h':BLe P bx bx'):BLe P bx (upd bx' t (jV b gf [] 0)):=fun u x hx=>by
 rw[fv]at hx;split at hx
 ·rw[famB_zero (by simp[dG])]at hx;cases hx
 ·exact h' u x hx
end
theorem InvH.famNil{P:Program}{C:Ctx}{M:Mem}{w:World}{bx:Nat->Option Box}{ob:Nat->Option Obj}(e:TypeId)(gf:Nat->OwnRef)(h:InvH P C M ⟨bx,ob⟩ w):InvH P C M ⟨bx,fK e gf [] ob⟩ w:=
 h.less (fun _ _ hx=>hx) (famNil_le e gf ob)
section
variable{P:Program}{C:Ctx}{M:Mem}{H:Heap}{w:World}
theorem InvH.freezeAll{bx:Nat->Option Box}{ob:Nat->Option Obj}{e:TypeId}{gf:Nat->OwnRef}{rss:List (List (List PV))}(h:InvH P C M ⟨bx,fK e gf rss ob⟩ w):∀n,n<=rss.length->
  ∃M' ob',M.le M'/\InvH P C M' ⟨bx,ob'⟩ w/\(∀t,t<bX->ob' t=ob t)/\(∀i,n<=i->ob' (bX+i)=fK e gf rss ob (bX+i))/\
   ∀i rs,i<n->rss[i]? =some rs->Rep P M' true (.list e rs) ((gf i).val rs.length)
 |0,_=>⟨M,_,Mem.le_refl M,h,fun t ht=>famO_low ht,fun i _=>rfl,fun i rs hi=>by omega⟩
 |n+1,hn=>by
  obtain⟨M1,ob1,hle1,h1,ha,hb,hc⟩:=InvH.freezeAll h n (by omega)
  obtain⟨rs,hrs⟩:∃rs,rss[n]? =some rs:=⟨rss[n],ze (by omega)⟩
  have hx:=hb n (Nat.le_refl n);rw[fp hrs]at hx
  obtain⟨M2,hle2,h2,hr⟩:=h1.freezeO (tag:=bX+n) (x:=⟨gf n,e,rs,true⟩) hx
  refine⟨M2,_,Mem.le_trans hle1 hle2,h2,fun t ht=>?_,fun i hi=>?_,fun i rs' hi hrs'=>?_⟩
  ·rw[gk _ _ (by omega)];exact ha t ht
  ·rw[gk _ _ (by omega)];exact hb i (by omega)
  ·by_cases hin:i=n
   ·subst hin;rw[hrs]at hrs';cases hrs';exact hr
   ·exact Rep.mono hle2 (hc i rs' (by omega) hrs')
theorem InvH.freezeFam{bx:Nat->Option Box}{ob:Nat->Option Obj}{t e e' b c:Nat}{gf:Nat->OwnRef}{rss:List (List (List PV))}(h:InvH P C M ⟨bx,fK e gf rss ob⟩ w)(hb:bx t=jV b gf rss c)
  {T:TT} (hT:T.Ok P) {ei:TInfo} (hei:T.get e'=some ei) (hsz:ei.size=1) (hby:rss.length*ei.bytes<=2^47) (hmx:rss.length<=maxLen):
  ∃M',M.le M'/\InvH P C M' ⟨upd bx t none,fK e gf [] ob⟩ w/\Rep P M' true (.list e' (rss.map fun rs=>[.list e rs])) (ke b rss.length c):=by
 obtain⟨M1,ob1,hle1,h1,ha,_,hc⟩:=h.freezeAll rss.length (Nat.le_refl _)
 obtain⟨i,hi,hs,hbs,_⟩:=(hT.get hei).info
 have hless:∀{M:Mem} {bx:Nat->Option Box},InvH P C M ⟨bx,ob1⟩ w->InvH P C M ⟨bx,fK e gf [] ob⟩ w:=fun h=>h.less (fun _ _ hx=>hx) (fun u x hx=>by
  have hx:fK e gf [] ob u=some x:=hx;unfold fK at hx;cases hq:Nat.ble bX u with
  |true=>rw[hq]at hx;simp at hx
  |false=>
   rw[hq]at hx
   have:u<bX:=by
    rcases Nat.lt_or_ge u bX with h|h
    ·exact h
    ·rw[show Nat.ble bX u=true from by rw[Nat.ble_eq];exact h]at hq;cases hq
   show ob1 u=some x;rw[ha u this];exact hx)
 rcases Nat.eq_zero_or_pos (dG rss.length c)with h0|h0
 ·have hnil:rss=[]:=List.length_eq_zero_iff.1 (by have:=kQ rss.length c;omega);subst hnil
  refine⟨M1,hle1,(hless h1).less (fun u x hx=>?_) (fun _ _ hx=>hx),?_⟩
  ·simp only[fv]at hx;split at hx
   ·cases hx
   ·exact hx
  ·rw[famV_zero h0];simp only[Rep]
   exact⟨none,0,i,by simp,by simp,by simp,hi,by simp,by simp⟩
 ·rw[rV h0]at hb
  -- the box,its slices frozen
  obtain⟨hmine,⟨cs,e0,hcs,hr⟩,hnone⟩:=(h1.boxes t _ hb).cells (rz _ _ _)
  let cells':List PV:=rss.map (fun rs=>PV.list e rs)++List.replicate (dG rss.length c-rss.length) (.val (.slice none 0 0))
  have hr':aN P M1 true cells' cs.toList:=by
   have key:∀(l:List (List (List PV))) (k:Nat) (r:List PV) (xs:List Value),(∀j rs,l[j]? =some rs->Rep P M1 true (.list e rs) ((gf (k+j)).val rs.length))->
     aN P M1 true (l.mapIdx (fun j rs=>PV.own (bX+(k+j)) (gf (k+j)) rs.length)++r) xs->aN P M1 true (l.map (fun rs=>PV.list e rs)++r) xs:=by
    intro l;induction l with
    |nil=>intro k r xs _ h;simpa using h
    |cons a l ih=>
     intro k r xs hl h;simp only[List.mapIdx_cons,List.cons_append,aN,List.map_cons]at h⊢
     obtain⟨x,ys,rfl,hx,hy⟩:=h
     refine⟨x,ys,rfl,?_,ih (k+1) r ys (fun j rs hj=>?_) ?_⟩
     ·simp only[Rep,Nat.add_zero]at hx;rw[hx.2];exact hl 0 a Z
     ·have:=hl (j+1) rs (by simpa using hj)
      rwa [show k+(j+1)=k+1+j from by omega]at this
     ·have e:(fun(j:Nat) (rs:List (List PV))=>PV.own (bX+(k+(j+1))) (gf (k+(j+1))) rs.length)=fun j rs=>PV.own (bX+(k+1+j)) (gf (k+1+j)) rs.length:=by
       funext j rs;rw[show k+(j+1)=k+1+j from by omega]
      rw[<-e];exact hy
   refine key rss 0 _ _ (fun j rs hj=>?_) ?_
   ·rw[Nat.zero_add];exact hc j rs (zg.1 hj).1 hj
   ·simpa[fZ]using hr
  have h2:InvH P C M1 ⟨upd bx t (some ⟨b,cells'⟩),ob1⟩ w:=by
   have key:∀u x,upd bx t (some ⟨b,cells'⟩) u=some x->(u=t/\x=⟨b,cells'⟩)\/(u≠t/\bx u=some x):=by
    intro u x hx;rw[fv]at hx;split at hx
    ·rename_i e;exact .inl ⟨e,(Option.some.inj hx).symm⟩
    ·rename_i e;exact .inr ⟨e,hx⟩
   refine⟨h1.mem,h1.ext,h1.new,h1.os,h1.tape,h1.output,h1.size,h1.frame,fun u x hx=>?_,h1.objs,fun u u' x x' hx hx' hbb=>?_,h1.dobj,fun u u' x x' hx hx' hbb=>?_⟩
   ·rcases key u x hx with⟨_,rfl⟩|⟨_,hx⟩
    ·exact⟨hmine,⟨_,hcs,hr'⟩,hnone⟩
    ·exact h1.boxes u x hx
   ·rcases key u x hx with⟨q1,q2⟩|⟨_,hy⟩<;>rcases key u' x' hx' with⟨q3,q4⟩|⟨_,hy'⟩
    ·rw[q1,q3]
    ·subst q1;subst q2;exact h1.dbox _ u' _ x' hb hy' hbb
    ·subst q3;subst q4;exact h1.dbox u _ x _ hy hb hbb
    ·exact h1.dbox u u' x x' hy hy' hbb
   ·rcases key u x hx with⟨q1,q2⟩|⟨_,hy⟩
    ·subst q1;subst q2;exact h1.dmix _ u' _ x' hb hx' hbb
    ·exact h1.dmix u u' x x' hy hx' hbb
  have hfl:∀l:List PV,(∀p∈l,p.froz=true)->PV.frozL l=true:=by
   intro l;induction l with
   |nil=>intro _;rfl
   |cons a l ih=>intro h;simp[PV.frozL,h a (by simp),ih fun p hp=>h p (by simp[hp])]
  obtain⟨M2,hle2,h3,hra⟩:=h2.freezeB (tag:=t) (x:=⟨b,cells'⟩) (gQ _ _ _) (hfl _ (fun p hp=>by
    rcases List.mem_append.1 hp with hp|hp
    ·obtain⟨rs,_,rfl⟩:=List.mem_map.1 hp;rfl
    ·rw[List.eq_of_mem_replicate hp];rfl)) (List.all_eq_true.2 fun p hp=>by
    rcases List.mem_append.1 hp with hp|hp
    ·obtain⟨rs,_,rfl⟩:=List.mem_map.1 hp;rfl
    ·rw[List.eq_of_mem_replicate hp];rfl)
  refine⟨M2,Mem.le_trans hle1 hle2,(hless h3).less (fun u x hx=>?_) (fun _ _ hx=>hx),?_⟩
  ·simp only[fv]at hx⊢;split at hx
   ·cases hx
   ·rename_i q;simp only[zy q];exact hx
  ·rw[nq h0];simp only[Rep]
   refine⟨some ⟨b,0,none⟩,dG rss.length c,i,by simp,by simpa using kQ _ _,famCap_le _ hmx,hi,by rw[zl,hbs];exact hby,fun _=>⟨b,0,rfl,?_⟩⟩
   have hs1:i.size=1:=by rw[hs];exact hsz
   rw[hs1];refine dR.of_flat (fun r hr=>?_) ?_
   ·obtain⟨rs,_,rfl⟩:=List.mem_map.1 hr;rfl
   ·rw[flat_single]
    have:=dN.take rss.length hra
    have e2:(cells').take rss.length=rss.map (fun rs=>PV.list e rs):=by
     show(rss.map (fun rs=>PV.list e rs)++_).take rss.length=_
     rw[List.take_append_of_le_length (by simp)];exact List.take_of_length_le (by simp)
    rw[e2]at this;exact this
end
section
variable{P:Program}{T:TT}{w:World}{C:Ctx}{M:Mem}
theorem uE(t ty e e0:TypeId)(i:TypeInfo)(ht:P.underlying t=some (.slice e))(hi:P.info? e=some i)
  (g sLen sCap:Nat) (cur:Array Value) (hg:w.heap[g]? =some (.cells cur e0 (0,0)))
  (a:Addr) (m c:Nat) (news:List Value) (hl:news.length=m*i.size) (hnews:∀j u,news[j]? =some u->w.cell? (a.add j)=some u) (h1:∀u∈news,u.oneCell'=true)
  (hroom:sLen+m<=sCap) (hfit:sLen*i.size+news.length<=cur.size):
  (Builtin.append_ #[t,t] ty #[.slice (some ⟨g,0,none⟩) sLen sCap,.slice (some a) m c]).run P w=
   .ok (.slice (some ⟨g,0,none⟩) (sLen+m) sCap) (w.setRow g (cur.toList.take (sLen*i.size)++news++cur.toList.drop (sLen*i.size+news.length)).toArray):=by
 have hf:=run_firstCells_some (P:=P) w i.size m a m c news hl hnews;have hst:=run_storeCells_at P g (sLen*i.size) e0 news 0 cur w hg (by simpa using hfit) h1;simp only[Nat.add_zero]at hst;simp[Builtin.append_,run_underlying ht,sizeOf,typeInfo,hi,Builtin.lenOf,hroom,hf,Addr.add_lit,hst]
theorem repNils{k:Nat}{P:Program}{M:Mem}:aN P M true (List.replicate k (.val (.slice none 0 0))) (List.replicate k (Value.slice none 0 0)):=by
 induction k with
 |zero=>simp[aN]
 |succ k ih=>simp only[List.replicate_succ,aN];exact⟨_,_,rfl,by simp[Rep],ih⟩
theorem zeroNils(k:Nat):(Builtin.zeroCells #[Value.slice none 0 0] k).toList=List.replicate k (Value.slice none 0 0):=by
 unfold Builtin.zeroCells;rw[oK];induction k with
 |zero=>rfl
 |succ k ih=>rw[List.replicate_succ,List.flatten_cons,ih];rfl
def mp(gf:Nat->OwnRef)(rss:List (List (List PV))):List PV:=rss.mapIdx fun i rs=>PV.own (bX+i) (gf i) rs.length
theorem pQ{gf:Nat->OwnRef}{rss:List (List (List PV))}:(mp gf rss).length=rss.length:=by simp[mp]
theorem ra{gf:Nat->OwnRef}{rss:List (List (List PV))}{c:Nat}:fZ gf rss c=mp gf rss++List.replicate (dG rss.length c-rss.length) (.val (.slice none 0 0)):=rfl
theorem nV{gf:Nat->OwnRef}{rss:List (List (List PV))}{c:Nat}{g:OwnRef}:fZ (upd gf rss.length g) (rss++[[]]) c=
  mp gf rss++(.own (bX+rss.length) g 0::List.replicate (dG (rss.length+1) c-(rss.length+1)) (.val (.slice none 0 0))):=by
 have h:mp (upd gf rss.length g) (rss++[[]])=mp gf rss++[.own (bX+rss.length) g 0]:=by
  unfold mp;rw[List.mapIdx_append];congr 1
  ·apply List.ext_getElem?;intro j;simp only[List.getElem?_mapIdx];by_cases hj:j<rss.length
   ·rw[gk _ _ (by omega)]
   ·rw[List.getElem?_eq_none (by omega)];rfl
  ·simp[gQ]
 rw[ra,h];simp
theorem rW{bx:Nat->Option Box}{ob:Nat->Option Obj}{t0 b e c:Nat}{gf:Nat->OwnRef}{rss:List (List (List PV))}(hT:T.Ok P){ei2:TInfo}(hei2:T.get e=some ei2)
  (h:InvH P C M ⟨upd bx t0 (some ⟨b,fZ (upd gf rss.length ⟨none,0⟩) (rss++[[]]) c⟩),fK e gf rss ob⟩ w):
  InvH P C M ⟨upd bx t0 (jV b (upd gf rss.length ⟨none,0⟩) (rss++[[]]) c),fK e (upd gf rss.length ⟨none,0⟩) (rss++[[]]) ob⟩ w:=by
 rw[rV (Nat.lt_of_lt_of_le (by simp) (kQ _ _))]
 refine(h.nilobj hT (bX+rss.length) hei2).less (fun _ _ hx=>hx) (fun t x hx=>?_)
 have hx:fK e (upd gf rss.length ⟨none,0⟩) (rss++[[]]) ob t=some x:=hx;unfold fK at hx;cases hq:Nat.ble bX t with
 |false=>
  rw[hq]at hx
  have ht:t<bX:=by
   rcases Nat.lt_or_ge t bX with h|h
   ·exact h
   ·rw[show Nat.ble bX t=true from by rw[Nat.ble_eq];exact h]at hq;cases hq
  show upd (fK e gf rss ob) _ _ t=some x;rw[gk _ _ (by omega),famO_low ht];exact hx
 |true=>
  rw[hq]at hx;have hle:=Nat.le_of_ble_eq_true hq;simp only[zc,Option.map_eq_some_iff]at hx
  obtain⟨rs,h1,rfl⟩:=hx
  show upd (fK e gf rss ob) _ _ t=_;by_cases hj:t=bX+rss.length
  ·subst hj;rw[gQ];rw[show bX+rss.length-bX=rss.length from by omega]at h1⊢;simp at h1;rw[gQ,<-h1]
  ·rw[gk _ _ hj];have h2:=(zg.1 h1).1;simp at h2;have h3:t-bX<rss.length:=by omega
   rw[List.getElem?_append_left h3]at h1
   have:=fp (e:=e) (gf:=gf) (ob:=ob) h1
   rw[show bX+(t-bX)=t from by omega]at this;rw[this,gk _ _ (by omega)]
theorem appendFam_core{bx:Nat->Option Box}{ob:Nat->Option Obj}{t0 b e e' c:Nat}{gf:Nat->OwnRef}{rss:List (List (List PV))}(hi:InvH P C M ⟨bx,fK e gf rss ob⟩ w)(hb:bx t0=jV b gf rss c)(hT:T.Ok P)
  {t ty:TypeId} {ti ei ei2:TInfo} (hti:T.get t=some ti) (hd:ti.desc= .slice e') (hei:T.get e'=some ei) (hsz:ei.size=1) (hz:ei.zero.cells=#[.slice none 0 0]) (hei2:T.get e=some ei2)
  {v:Value} (hv:Rep P M true (.list e' [[.val (.slice none 0 0)]]) v) (hby:(rss.length+1)*ei.bytes<=2^47) (hmx:rss.length+1<=maxLen):
  ∃b' c' w',(Builtin.append_ #[t,t] ty #[ke b rss.length c,v]).run P w= .ok (ke b' (rss.length+1) c') w'/\
   InvH P C M ⟨upd bx t0 (jV b' (upd gf rss.length ⟨none,0⟩) (rss++[[]]) c'),fK e (upd gf rss.length ⟨none,0⟩) (rss++[[]]) ob⟩ w':=by
 obtain⟨i,sa,c0,news,hinf,rfl,_,hnl,_,hcells,hrep,hone⟩:=list_src hi hv
 obtain⟨i',hinf',hs,hbs,hzero⟩:=(hT.get hei).info
 rw[hinf]at hinf';cases hinf';have hs1:i.size=1:=by rw[hs];exact hsz
 have hnews:news=[.slice none 0 0]:=by
  simp only[List.flatten_cons,List.flatten_nil,List.append_nil,aN,Rep]at hrep
  obtain⟨x,xs,rfl,rfl,rfl⟩:=hrep
  rfl
 subst hnews;have hu:=(hT.get hti).und;rw[hd]at hu
 obtain⟨a,rfl,hac⟩:=hcells (by simp)
 have h63:((rss.length+1:Nat):Int)<=9223372036854775807:=by unfold maxLen at hmx;omega
 have hby':(rss.length+1)*i.bytes<=140737488355328:=by rw[hbs];exact hby
 have hcap:=kQ rss.length c;rcases Nat.eq_zero_or_pos (dG rss.length c)with h0|h0
 ·have hnil:rss=[]:=List.length_eq_zero_iff.1 (by omega);subst hnil;have hg:=run_append_nil (P:=P) w t ty e' i ei.zero hu hinf hzero a 1 c0 [.slice none 0 0] hnl hac (by omega) (by simp) (by simp at hby';omega);have hge:=grownCap_ge w 1 0 e';have hgm:grownCap w 1 0 e'<=maxLen:=grownCap_le_maxLen w 1 0 e' (by simpa using hmx)
  refine⟨w.heap.size,grownCap w 1 0 e',_,?_,rW hT hei2 ((show InvH P C M _ w.drew from hi.drew).alloc_box t0 _ (#[.slice none 0 0]++Builtin.zeroCells ei.zero.cells (grownCap w 1 0 e'-1)) e' ?_)⟩
  ·rw[famV_zero h0];simp only[List.length_singleton];rw[hg,nq (by show 0<dG 1 _;rw[lH hge hgm];omega)];show _=Result.ok (Value.slice _ 1 (dG 1 _)) _;rw[lH hge hgm]
  ·rw[nV];simp only[List.length_nil,mp,List.mapIdx_nil,List.nil_append,aN]
   refine⟨.slice none 0 0,(Builtin.zeroCells ei.zero.cells (grownCap w 1 0 e'-1)).toList,by rw[Array.toList_append];rfl,by simp[Rep,OwnRef.val],?_⟩
   rw[hz,zeroNils];show aN P M true (List.replicate (dG 1 _-1) _) _;rw[lH hge hgm];exact repNils
 ·rw[rV h0]at hb
  obtain⟨hmine,⟨cur,e0,hcur,hr⟩,hnone⟩:=(hi.boxes t0 _ hb).cells (rz _ _ _)
  have hsize:cur.size=dG rss.length c:=by
   have:=hr.length
   rw[qe]at this;simpa using this
  have hl2:mp gf rss=(fZ gf rss c).take rss.length:=by
   rw[ra,List.take_append_of_le_length (by rw[pQ];exact Nat.le_refl _),<-pQ (gf:=gf) (rss:=rss),List.take_length]
  have hrt:aN P M true (mp gf rss) (cur.toList.take rss.length):=by rw[hl2];exact hr.take _
  by_cases hroom:rss.length+1<=dG rss.length c
  ·have hr2:=uE (P:=P) (w:=w) t ty e' e0 i hu hinf b rss.length (dG rss.length c) cur hcur a 1 c0 [.slice none 0 0] hnl hac hone hroom (by rw[hs1];simp;omega);have hce:dG (rss.length+1) (dG rss.length c)=dG rss.length c:=lH hroom (famCap_le _ (by omega))
   refine⟨b,dG rss.length c,_,?_,rW hT hei2 (hi.set_box t0 _ hb (rz _ _ _) _ (cur.toList.take (rss.length*i.size)++[Value.slice none 0 0]++cur.toList.drop (rss.length*i.size+[Value.slice none 0 0].length)).toArray ?_)⟩
   ·rw[nq h0];simp only[List.length_singleton];rw[hr2,nq (by rw[hce];exact h0),hce];rfl
   ·rw[nV,hce];simp only[hs1,Nat.mul_one,List.append_assoc];refine hrt.append ?_;simp only[List.singleton_append,aN,List.length_singleton]
    refine⟨_,_,rfl,by simp[Rep,OwnRef.val],?_⟩
    have:=hr.drop (rss.length+1)
    rw[ra,List.drop_append,pQ,List.drop_of_length_le (by rw[pQ];omega),List.nil_append,List.drop_replicate]at this
    rwa [show dG rss.length c-rss.length-(rss.length+1-rss.length)=dG rss.length c-(rss.length+1)from by omega]at this
  ·have holdlen:(cur.toList.take rss.length).length=rss.length*i.size:=by rw[hs1];simp;omega
   have holds:∀(j:Nat) (v:Value),(cur.toList.take rss.length)[j]? =some v->w.cell? ((⟨b,0,none⟩:Addr).add j)=some v:=by
    intro j v hj;rw[fa,cell_of_row w b (0+j) cur e0 (0,0) hcur];rw[List.getElem?_take]at hj;split at hj
    ·simpa using hj
    ·cases hj
   have hr2:=run_append_grow (P:=P) w t ty e' i ei.zero hu hinf hzero ⟨b,0,none⟩ rss.length (dG rss.length c) _ holdlen holds a 1 c0 [.slice none 0 0] hnl hac (by omega) h63 (growslice_fits (by omega) hby');have hge:=grownCap_ge w (rss.length+1) (dG rss.length c) e';have hgm:grownCap w (rss.length+1) (dG rss.length c) e'<=maxLen:=grownCap_le_maxLen w _ _ e' hmx
   refine⟨w.heap.size,grownCap w (rss.length+1) (dG rss.length c) e',_,?_,rW hT hei2 ((show InvH P C M _ w.drew from hi.drew).alloc_box t0 _ ((cur.toList.take rss.length).toArray++#[.slice none 0 0]++Builtin.zeroCells ei.zero.cells (grownCap w (rss.length+1) (dG rss.length c) e'-(rss.length+1))) e' ?_)⟩
   ·rw[nq h0];simp only[List.length_singleton];rw[hr2,nq (by rw[lH hge hgm];omega),lH hge hgm]
   ·rw[nV];simp only[Array.toList_append,List.append_assoc];refine hrt.append ?_;simp only[List.singleton_append,aN]
    refine⟨_,_,rfl,by simp[Rep,OwnRef.val],?_⟩
    rw[hz,zeroNils,lH hge hgm];exact repNils
end
section
variable{P:Program}{T:TT}{ops:Array Oper}{rest:List Oper}{o:Oper}{n:Nat}{s s':Nat->PV}{bx:Nat->Option Box}{ob:Nat->Option Obj}{K:PState->Prop}
theorem vv(t0 e:Nat)(hT:T.Ok P)(hg:ba ops s o=some true){x y:Operand}{t:TypeId}(ho:o.op= .call {callee:= .builtin .append,args:=#[x,y],argTypes:=#[t,t]}){d:Nat}(hdst:o.dst=some d)(hlt:Nat.blt d n=true){ti ei ei2:TInfo}{e':TypeId}
  (hti:T.get t=some ti) (hd:ti.desc= .slice e') (hei:T.get e'=some ei) (hsz:ei.size=1) (hz:ei.zero.cells=#[.slice none 0 0]) (hei2:T.get e=some ei2) {b c m:Nat} {gf:Nat->OwnRef} {rss:List (List (List PV))} (hx:evS s x= .val (ke b m c)) (hm:m=rss.length)
  (hy:evS s y= .list e' [[.val (.slice none 0 0)]]) (hb:bx t0=jV b gf rss c) (hby:(rss.length+1)*ei.bytes<=2^47) (hmx:rss.length+1<=maxLen)
  (h:∀b' c',Ao P ops rest ⟨n,upd s d (.val (ke b' (m+1) c')),upd bx t0 (jV b' (upd gf m ⟨none,0⟩) (rss++[[]]) c'),fK e (upd gf m ⟨none,0⟩) (rss++[[]]) ob⟩ K):
  Ao P ops (o::rest) ⟨n,s,bx,fK e gf rss ob⟩ K:=by
 subst hm;refine eO hg (K:=K) ?_;intro C M a w next Q hi he hn
 have hxr:=he x (by rw[ho];simp[Op.operands,Call.operands]);have hyr:=he y (by rw[ho];simp[Op.operands,Call.operands]);rw[hx]at hxr;rw[hy]at hyr;simp only[Rep]at hxr
 obtain⟨b',c',w',hrun,hi'⟩:=appendFam_core (ty:=o.type) hi hb hT hti hd hei hsz hz hei2 hyr hby hmx
 have hrun':(execOp a.eval o).run P w= .ok (.value (ke b' (rss.length+1) c')) w':=by
  simp only[execOp,ho,resolve,Sem.run_bind,Sem.run_pure,Result.andThen_ok,invoke,builtin,List.map_toArray,List.map_cons,List.map_nil,hxr];rw[hrun];rfl
 unfold Oper.wp;rw[hrun'];exact hn _ (.val (ke b' (rss.length+1) c')) _ M w' ⟨_,by simp[hdst,putD,hlt],h b' c'⟩ (Mem.le_refl M) hi' (by simp[Rep])
theorem uW(t0:Nat)(hT:T.Ok P)(hg:ba ops s o=some true){t:TypeId}{x i:Operand}(ho:o.op= .indexAddr t x i){ti ei:TInfo}{e':TypeId}(hti:T.get t=some ti)(hd:ti.desc= .slice e')(hei:T.get e'=some ei)(hes:ei.size=1)
  {b c m:Nat} (hx:evS s x= .val (ke b m c)) {kk:IntKind} {j:Int} (hi:evS s i= .val (.int kk j)) (hj:0<=j/\j.toNat<m) (hp:putD n s o.dst (.box t0 b j.toNat)=some s') (h:Ao P ops rest ⟨n,s',bx,ob⟩ K):Ao P ops (o::rest) ⟨n,s,bx,ob⟩ K:=by
 have hpos:0<dG m c:=Nat.lt_of_lt_of_le (by omega) (kQ _ _);rw[nq hpos]at hx;refine oB hg ?_ hp h;intro C M a w hiv he;have hxr:=he x (by rw[ho];simp[Op.operands]);have hir:=he i (by rw[ho];simp[Op.operands]);rw[hx]at hxr;rw[hi]at hir;simp only[Rep]at hxr hir;have hu:=(hT.get hti).rund w;rw[hd]at hu;have hsz:=(hT.get hei).rsize w
 refine⟨.pointer (some ⟨b,j.toNat,none⟩),?_,by simp[Rep]⟩
 have h2:j<(m:Int):=by omega
 simp[execOp,ho,Instr.indexAt,hir,hxr,asIntOf,hu,hj.1,h2,hsz,hes,fa]
theorem vq(t0 e:Nat)(hT:T.Ok P)(hg:ba ops s o=some true){t e':TypeId}{ps:Array (Nat×Operand)}(ho:o.op= .buildSlice t 1 ps){d:Nat}(hdst:o.dst=some d)(hlt:Nat.blt d n=true){ti ei2:TInfo}(hti:T.get t=some ti)(hd:ti.desc= .slice e')
  (hr:lR T e' 1 (iG (evS s) ps)=some [[.val (.slice none 0 0)]]) (hei2:T.get e=some ei2)
  (h:∀b' c',Ao P ops rest ⟨n,upd s d (.val (ke b' 1 c')),upd bx t0 (jV b' (fun _=>⟨none,0⟩) [[]] c'),fK e (fun _=>⟨none,0⟩) [[]] ob⟩ K):
  Ao P ops (o::rest) ⟨n,s,bx,ob⟩ K:=by
 refine eO hg (K:=K) ?_;intro C M a w next Q hi he hn
 obtain⟨i,cs,hinf,hrun,hrep,hone,hlen,hrl,hcs,hby,hn16⟩:=bs_run hT hti hd hr w (fun x hx=>he x (by rw[ho];simpa[Op.operands]using hx))
 unfold Oper.wp
 have hrun':(execOp a.eval o).run P w= .ok (.value (ke w.heap.size 1 1)) (w.alloc (.cells cs e')):=by
  simp only[execOp,ho,Sem.run_bind,hrun];rfl
 rw[hrun'];simp only[List.flatten_cons,List.flatten_nil,List.append_nil,aN,Rep]at hrep
 obtain⟨x,xs,hcc,rfl,rfl⟩:=hrep
 have h0:InvH P C M ⟨bx,fK e (fun _=>⟨none,0⟩) [] ob⟩ w:=InvH.famNil e _ hi;have hg0:upd (fun _=>(⟨none,0⟩:OwnRef)) 0 ⟨none,0⟩=fun _=>⟨none,0⟩:=by funext t;rw[fv];split<;>rfl
 have hrc:aN P M true (fZ (upd (fun _=>(⟨none,0⟩:OwnRef)) ([]:List (List (List PV))).length ⟨none,0⟩) ([]++[[]]) 1) cs.toList:=by
  rw[nV,hcc];simp only[List.length_nil,mp,List.mapIdx_nil,List.nil_append,aN];have e1:dG (0+1) 1=1:=lH (Nat.le_refl _) (by unfold maxLen;omega);rw[e1]
  exact⟨_,_,rfl,by simp[Rep,OwnRef.val],by simp[aN]⟩
 have h2:=h0.alloc_box t0 _ cs e' hrc;have h1:=rW (b:=w.heap.size) (c:=1) (t0:=t0) (gf:=fun _=>(⟨none,0⟩:OwnRef)) (rss:=[]) hT hei2 h2;simp only[List.length_nil,hg0,List.nil_append]at h1;exact hn _ (.val (ke w.heap.size 1 1)) _ M _ ⟨_,by simp[hdst,putD,hlt],h w.heap.size 1⟩ (Mem.le_refl M) h1 (by simp[Rep])
theorem vh{fn:Func}{R:PV->Heap->Prop}{ks:List KI}(d t0:Nat)(hT:T.Ok P){e e' b c m:Nat}{ei:TInfo}(hei:T.get e'=some ei)(hes:ei.size=1){gf:Nat->OwnRef}{rss:List (List (List PV))}{rows:List (List PV)}(hs:s d= .val (ke b m c))(hm:m=rss.length)
  (hb:bx t0=jV b gf rss c) (hby:rss.length*ei.bytes<=2^47) (hmx:rss.length<=maxLen) (hrows:rows=rss.map fun rs=>[.list e rs]) (h:V P fn R ks ⟨n,upd s d (.list e' rows),upd bx t0 none,fK e gf [] ob⟩):V P fn R ks ⟨n,s,bx,fK e gf rss ob⟩:=by
 subst hm;subst hrows;refine bZ ?_ h;intro C M a w hi
 obtain⟨M',hle,hi',hr⟩:=hi.2.freezeFam hb hT hei hes hby hmx
 refine⟨M',⟨hi.1.1,hi.1.2.1,fun t=>?_⟩,hi'⟩
 have:=hi.1.2.2 t
 simp only at this;simp only[fv];split
 ·rename_i e;subst e;rw[hs]at this;simp only[Rep]at this;rw[this];exact hr
 ·exact Rep.mono hle this
end
def shlI(k:IntKind)(a b:Int):Option Int:=if 0<=b then some (k.wrap (a*2^(min b.toNat k.bits)))else none
theorem shlI_some{k:IntKind}{a b x:Int}(h:shlI k a b=some x):0<=b/\x=k.wrap (a*2^(min b.toNat k.bits)):=by
 unfold shlI at h;split at h
 ·rename_i h0;exact⟨h0,(Option.some.inj h).symm⟩
 ·cases h
def andI(k:IntKind)(a b:Int):Int:=k.wrap (BitVec.ofInt k.bits a&&&BitVec.ofInt k.bits b).toNat
def jQ(k:IntKind)(a b:Int):Int:=k.wrap (BitVec.ofInt k.bits a^^^BitVec.ofInt k.bits b).toNat
section
variable{P:Program}{T:TT}{rb:RB}{ops:Array Oper}{rest:List Oper}{L:List Nat}{k:Nat}{o:Oper}{n:Nat}{s s':Nat->PV}{bx:Nat->Option Box}{ob:Nat->Option Obj}{K:PState->Prop}
theorem qh{bop:BinOp}{t t':TypeId}{x y:Operand}(ho:o.op= .binOp bop t x y t'){ev:Operand->PV}{H:Heap}{kk k2:IntKind}{a b r:Int}(hx:ev x= .val (.int kk a))(hy:ev y= .val (.int k2 b))
  (hq:(bop matches .eql| .neq)=false) (hr:∀w,(binOp bop t (.int kk a) (.int k2 b)).run P w= .ok (.int kk r) w):DetS P o ev H (.val (.int kk r)):=by
 intro C M a' w hi he;have hxr:=he x (by rw[ho];simp[Op.operands]);have hyr:=he y (by rw[ho];simp[Op.operands]);rw[hx]at hxr;rw[hy]at hyr;simp only[Rep]at hxr hyr
 refine⟨.int kk r,?_,by simp only[Rep]⟩
 have h2:(eqGuard bop t x y (.int kk a) (.int k2 b)).run P w= .ok () w:=by
  cases bop<;>first|(exact absurd hq (by decide))|simp[eqGuard]
 simp only[execOp,ho,hxr,hyr,Sem.run_bind,h2,Result.andThen_ok,hr w];rfl
theorem run_shl{t:TypeId}{kk k2:IntKind}{a b r:Int}(h:shlI kk a b=some r)(w:World):(binOp .shl t (.int kk a) (.int k2 b)).run P w= .ok (.int kk r) w:=by
 obtain⟨hb,rfl⟩:=shlI_some h
 have hb':¬b<0:=by omega
 simp only[binOp,Op.shift,zy hb'];rfl
theorem run_shr{t:TypeId}{kk k2:IntKind}{a b:Int}(hb:0<=b){m:Nat}(hm:min b.toNat kk.bits=m)(w:World):(binOp .shr t (.int kk a) (.int k2 b)).run P w= .ok (.int kk (a.fdiv (2^m))) w:=by
 subst hm;have hb':¬b<0:=by omega
 simp only[binOp,Op.shift,zy hb'];rfl
theorem run_xor{t:TypeId}{kk:IntKind}{a b:Int}(w:World):(binOp .xor t (.int kk a) (.int kk b)).run P w= .ok (.int kk (jQ kk a b)) w:=by
 simp only[binOp,Op.intBits,ne_eq,not_true_eq_false,if_false];rfl
theorem run_and{t:TypeId}{kk:IntKind}{a b:Int}(w:World):(binOp .and t (.int kk a) (.int kk b)).run P w= .ok (.int kk (andI kk a b)) w:=by
 simp only[binOp,Op.intBits,ne_eq,not_true_eq_false,if_false];rfl
theorem Ao.shl(hg:ba ops s o=some true){t t':TypeId}{x y:Operand}(ho:o.op= .binOp .shl t x y t'){kk k2:IntKind}{a b r:Int}(hx:evS s x= .val (.int kk a))(hy:evS s y= .val (.int k2 b))(hr:shlI kk a b=some r)
  (hp:putD n s o.dst (.val (.int kk r))=some s') (h:Ao P ops rest ⟨n,s',bx,ob⟩ K):Ao P ops (o::rest) ⟨n,s,bx,ob⟩ K:=oB hg (qh ho hx hy Z (run_shl hr)) hp h
theorem Ao.and(hg:ba ops s o=some true){t t':TypeId}{x y:Operand}(ho:o.op= .binOp .and t x y t'){kk:IntKind}{a b:Int}(hx:evS s x= .val (.int kk a))(hy:evS s y= .val (.int kk b))
  (hp:putD n s o.dst (.val (.int kk (andI kk a b)))=some s') (h:Ao P ops rest ⟨n,s',bx,ob⟩ K):Ao P ops (o::rest) ⟨n,s,bx,ob⟩ K:=oB hg (qh ho hx hy Z run_and) hp h
theorem vt(ho:ops[k]? =some o)(hg:ba ops s o=some true){t t':TypeId}{x y:Operand}(hop:o.op= .binOp .shl t x y t'){kk k2:IntKind}{a b r:Int}(hx:evS s x= .val (.int kk a))(hy:evS s y= .val (.int k2 b))(hr:shlI kk a b=some r)
  (hp:putD n s o.dst (.val (.int kk r))=some s') (h:Do P T rb ops L ⟨n,s',bx,ob⟩ K):Do P T rb ops (k::L) ⟨n,s,bx,ob⟩ K:=nA ho hg (by rw[hop];rfl) (fun _=>qh hop hx hy Z (run_shl hr)) hp h
theorem Do.shr(ho:ops[k]? =some o)(hg:ba ops s o=some true){t t':TypeId}{x y:Operand}(hop:o.op= .binOp .shr t x y t'){kk k2:IntKind}{a b:Int}(hx:evS s x= .val (.int kk a))(hy:evS s y= .val (.int k2 b))(hb:0<=b){m:Nat}(hm:min b.toNat kk.bits=m)
  (hp:putD n s o.dst (.val (.int kk (a.fdiv (2^m))))=some s') (h:Do P T rb ops L ⟨n,s',bx,ob⟩ K):Do P T rb ops (k::L) ⟨n,s,bx,ob⟩ K:=nA ho hg (by rw[hop];rfl) (fun _=>qh hop hx hy Z (run_shr hb hm)) hp h
theorem vd(ho:ops[k]? =some o)(hg:ba ops s o=some true){t t':TypeId}{x y:Operand}(hop:o.op= .binOp .xor t x y t'){kk:IntKind}{a b:Int}(hx:evS s x= .val (.int kk a))(hy:evS s y= .val (.int kk b))
  (hp:putD n s o.dst (.val (.int kk (jQ kk a b)))=some s') (h:Do P T rb ops L ⟨n,s',bx,ob⟩ K):Do P T rb ops (k::L) ⟨n,s,bx,ob⟩ K:=nA ho hg (by rw[hop];rfl) (fun _=>qh hop hx hy Z run_xor) hp h
theorem detS_idxS(hT:T.Ok P){o:Oper}{ev:Operand->PV}{H:Heap}{t:TypeId}{x i:Operand}(ho:o.op= .indexAddr t x i){ti ei:TInfo}{e:TypeId}(hti:T.get t=some ti)(hd:ti.desc= .slice e)(hei:T.get e=some ei)
  (tag:Nat) {g:OwnRef} {z l h m:Nat} (hx:ev x= .val (g.sub z l h m)) (hz:z=ei.size) {k:IntKind} {j:Int} (hi:ev i= .val (.int k j)) (hj:0<=j/\l+j.toNat<h) (hm:h<=m) (hb:∃b,g.blk=some b):DetS P o ev H (.optr tag g ei.size (l+j.toNat) 0):=by
 subst hz;intro C M a w _ he;have hxr:=he x (by rw[ho];simp[Op.operands]);have hir:=he i (by rw[ho];simp[Op.operands]);rw[hx]at hxr;rw[hi]at hir;simp only[Rep]at hxr hir
 obtain⟨b,hb⟩:=hb
 have hu:=(hT.get hti).rund w;rw[hd]at hu;have hsz:=(hT.get hei).rsize w;have h2:j<((h-l:Nat):Int):=by omega
 have hml:¬m=l:=by omega
 refine⟨.pointer (some ⟨b,(l+j.toNat)*ei.size,none⟩),?_,?_⟩
 ·simp[execOp,ho,Instr.indexAt,hir,hxr,OwnRef.sub,hb,hml,asIntOf,hu,hj.1,h2,hsz,fa,Nat.add_mul]
 ·simp only[Rep]
  exact⟨trivial,b,hb,by simp⟩
theorem Ao.idxV(hT:T.Ok P)(hg:ba ops s o=some true){t:TypeId}{x i:Operand}(ho:o.op= .indexAddr t x i){ti ei:TInfo}{e:TypeId}(hti:T.get t=some ti)(hd:ti.desc= .slice e)(hei:T.get e=some ei)
  (tag:Nat) {g:OwnRef} {z l h m:Nat} (hx:evS s x= .val (g.sub z l h m)) (hz:z=ei.size) {kk:IntKind} {j:Int} (hi:evS s i= .val (.int kk j)) (hj:0<=j/\l+j.toNat<h) (hm:h<=m) (hb:∃b,g.blk=some b) (hp:putD n s o.dst (.optr tag g ei.size (l+j.toNat) 0)=some s') (hr:Ao P ops rest ⟨n,s',bx,ob⟩ K):
  Ao P ops (o::rest) ⟨n,s,bx,ob⟩ K:=oB hg (detS_idxS hT ho hti hd hei tag hx hz hi hj hm hb) hp hr
theorem vj(hT:T.Ok P)(ho:ops[k]? =some o)(hg:ba ops s o=some true){t:TypeId}{x i:Operand}(hop:o.op= .indexAddr t x i){ti ei:TInfo}{e:TypeId}(hti:T.get t=some ti)(hd:ti.desc= .slice e)(hei:T.get e=some ei)
  (tag:Nat) {g:OwnRef} {z l h m:Nat} (hx:evS s x= .val (g.sub z l h m)) (hz:z=ei.size) {kk:IntKind} {j:Int} (hi:evS s i= .val (.int kk j)) (hj:0<=j/\l+j.toNat<h) (hm:h<=m) (hb:∃b,g.blk=some b) (hp:putD n s o.dst (.optr tag g ei.size (l+j.toNat) 0)=some s') (hr:Do P T rb ops L ⟨n,s',bx,ob⟩ K):
  Do P T rb ops (k::L) ⟨n,s,bx,ob⟩ K:=nA ho hg (by rw[hop];rfl) (fun _=>detS_idxS hT hop hti hd hei tag hx hz hi hj hm hb) hp hr
theorem Ao.lenV(hT:T.Ok P)(hg:ba ops s o=some true){x:Operand}{t:TypeId}{ts:List TypeId}(ho:o.op= .call {callee:= .builtin .len,args:=#[x],argTypes:=(t::ts).toArray}){ti:TInfo}{e:TypeId}(hti:T.get t=some ti)(hd:ti.desc= .slice e){g:OwnRef}{z l h m:Nat}
  (hx:evS s x= .val (g.sub z l h m)) (hp:putD n s o.dst (.val (.int .i64 ((h-l:Nat):Int)))=some s') (hr:Ao P ops rest ⟨n,s',bx,ob⟩ K):Ao P ops (o::rest) ⟨n,s,bx,ob⟩ K:=by
 refine eO hg (fun C M a w next Q hi he hn=>?_);have hxr:=he x (by rw[ho];simp[Op.operands,Call.operands]);rw[show(⟨n,s,bx,ob⟩:PState).s=s from Z,hx]at hxr;simp only[Rep]at hxr;have hu:=(hT.get hti).und;rw[hd]at hu
 have hrun:(execOp a.eval o).run P w= .ok (.value (.int .i64 ((h-l:Nat):Int))) w:=by
  simp only[execOp,ho,resolve,Sem.run_bind,Sem.run_pure,Result.andThen_ok,invoke,builtin,List.map_toArray,List.map_cons,List.map_nil,hxr,OwnRef.sub];simp[Builtin.len_,run_underlying hu,goInt]
 unfold Oper.wp;rw[hrun];exact hn _ _ ⟨bx,ob⟩ M w ⟨s',hp,hr⟩ (Mem.le_refl M) hi (by simp only[Rep])
def getS{α:Type}(xs:List α)(l h:Nat)(j:Int):Option α:=if 0<=j/\l+j.toNat<h then xs[l+j.toNat]? else none
theorem getSE{α β:Type}{xs:List α}{l h:Nat}{j:Int}{k:α->Option β}{r:β}(H:ae (getS xs l h j) k=some r):∃a,((0<=j/\l+j.toNat<h)/\xs[l+j.toNat]? =some a)/\k a=some r:=by
 obtain⟨a,h1,h2⟩:=am H
 unfold getS at h1;split at h1
 ·rename_i h0;exact⟨a,⟨h0,h1⟩,h2⟩
 ·cases h1
theorem rowsGetN{α:Type}{f f':α->List PV}(hE:∀x,f x=f' x){xs:List α}{j:Nat}{x:α}(h:xs[j]? =some x):(xs.map f)[j]? =some (f' x):=by
 rw[List.getElem?_map,h,Option.map_some,hE]
end
section
variable{P:Program}{T:TT}{ops:Array Oper}{rest:List Oper}{o:Oper}{n:Nat}{s:Nat->PV}{bx:Nat->Option Box}{ob:Nat->Option Obj}{K:PState->Prop}{fn:Func}{R:PV->Heap->Prop}{k:List KI}{st:PState}{rb:RB}{L:List Nat}{kk:Nat}
theorem PLe.valOwn(P:Program)(tag:Nat)(g:OwnRef)(len:Nat):PLe P (.val (g.val len)) (.own tag g len):=fun M x h=>by
 simp only[Rep]at h⊢
 exact⟨trivial,h⟩
theorem PLe.ownVal(P:Program)(tag:Nat)(g:OwnRef)(len:Nat):PLe P (.own tag g len) (.val (g.val len)):=fun M x h=>by
 simp only[Rep]at h⊢;exact h.2
end
section
variable{P:Program}{n:Nat}{s:Nat->PV}{bx:Nat->Option Box}{ob:Nat->Option Obj}{T:TT}
theorem Gh.nilOB(hT:T.Ok P)(tag k otag:Nat){e:TypeId}{ei:TInfo}(hei:T.get e=some ei){b:Nat}{cells cells':List PV}(hb:bx tag=some ⟨b,cells⟩)(hk:cells[k]? =some (.val (.slice none 0 0)))
  (hf:gj (cells.set k (.own otag ⟨none,0⟩ 0))=some cells') (hok:okS cells=true:=by exact Z):Gh P ⟨n,s,bx,ob⟩ ⟨n,s,upd bx tag (some ⟨b,cells'⟩),upd ob otag (some ⟨⟨none,0⟩,e,[],true⟩)⟩:=by
 rw[eI,zo]at hf;subst hf;intro C M a w hi;have h1:=hi.2.nilobj hT otag hei
 refine⟨M,hi.1,?_⟩
 refine h1.recell (tag:=tag) hb (fun xs hx=>hx.set hk fun x hx=>?_) hok;simp only[Rep]at hx⊢
 exact⟨trivial,by rw[hx];rfl⟩
theorem HSub.updB{tag:Nat}{v:Option Box}(h:bx tag=none):HSub ⟨bx,ob⟩ ⟨upd bx tag v,ob⟩:=by
 refine⟨fun t x hx=>?_,fun _ _ hx=>hx⟩
 show upd bx tag v t=some x;rw[fv];split
 ·rename_i e;subst e;rw[show bx t=some x from hx]at h;cases h
 ·exact hx
end
section
variable{P:Program}
end
section
variable{P:Program}{ops:Array Oper}{rest:List Oper}{o:Oper}{n:Nat}{s s':Nat->PV}{bx:Nat->Option Box}{ob:Nat->Option Obj}{K:PState->Prop}{T:TT}{rb:RB}{k:Nat}{L:List Nat}
theorem pl(hop:ops[k]? =some o)(hg:ba ops s o=some true){fx:Operand}{av0:Array Operand}{ts:Array TypeId}(ho:o.op= .call {callee:= .value fx,args:=av0,argTypes:=ts}){g:FuncId}{caps:List PV}
  (hf:evS s fx= .fn g caps) (hcall:∀vs w,(callFunc g vs).run P w= .ok (.enter g vs) w) (hsx:rb.sx=true) (hna:noAlloc ops=true) (mb mo:List (Nat×Nat)) (hb1:dL (mb.map Prod.fst)=true) (hb2:dL (mb.map Prod.snd)=true) (ho1:dL (mo.map Prod.fst)=true) (ho2:dL (mo.map Prod.snd)=true)
  {args:List PV} (hle:jt P (av0.toList.map (evS s)++caps) args) {Hin:Heap} (hin:Hin=⟨pd bx mb,oj ob mo⟩) {R:PV->Heap->Prop} (hc:PH P g args Hin R)
  (h:∀u H',R u H'->∃s',putD n s o.dst u=some s'/\Do P T rb ops L ⟨n,s',qM bx mb H'.bx,oc ob mo H'.ob⟩ K) (hst:(mb.all fun p=>!rb.st p.1)=true:=by rfl):Do P T rb ops (k::L) ⟨n,s,bx,ob⟩ K:=by
 refine⟨o,hop,true,hg,?_⟩
 simp only[if_true,ho,dW];refine .inl ⟨hsx,hna,tD ho hf hcall mb mo hb1 hb2 ho1 ho2 hle (hin▸hc) fun u H' hR=>⟨fun t ht=>?_,h u H' hR⟩⟩;show qM bx mb H'.bx t=bx t;unfold qM;split
 ·rename_i q hq;have h1:=List.all_eq_true.1 hst q (List.mem_of_find?_eq_some hq);have h2:=List.find?_some hq;rw[Nat.eq_of_beq_eq_true h2,ht]at h1;cases h1
 ·rfl
end
section
variable{P:Program}{ops:Array Oper}{rest:List Oper}{o:Oper}{n:Nat}{s s':Nat->PV}{bx:Nat->Option Box}{ob:Nat->Option Obj}{K:PState->Prop}{T:TT}{rb:RB}{k:Nat}{L:List Nat}
theorem uG(hop:ops[k]? =some o)(hg:ba ops s o=some true){fx:Operand}{av0:Array Operand}{ts:Array TypeId}(ho:o.op= .call {callee:= .value fx,args:=av0,argTypes:=ts}){g:FuncId}{caps:List PV}
  (hf:evS s fx= .fn g caps) (hcall:∀vs w,(callFunc g vs).run P w= .ok (.enter g vs) w) (hpc:rb.pc=false) (mo:List (Nat×Nat)) (ho1:dL (mo.map Prod.fst)=true) (ho2:dL (mo.map Prod.snd)=true)
  {args:List PV} (hle:jt P (av0.toList.map (evS s)++caps) args) {Hin:Heap} (hin:Hin=⟨fun _=>none,oj ob mo⟩) {R:PV->Heap->Prop} (hc:PH P g args Hin R)
  (h:∀u H',R u H'->∃q s',PLe P u q/\putD n s o.dst q=some s'/\Do P T rb ops L ⟨n,s',bx,oc ob mo H'.ob⟩ K):Do P T rb ops (k::L) ⟨n,s,bx,ob⟩ K:=by
 refine⟨o,hop,true,hg,?_⟩
 simp only[if_true,ho,dW];right;intro bx' C M a w next Q hi he hn
 refine tD (K:=fun u H=>∃q s',PLe P u q/\putD n s o.dst q=some s'/\H.bx=bx'/\Do P T rb ops L ⟨n,s',bx,H.ob⟩ K) ho hf hcall [] mo Z Z ho1 ho2 hle (hin▸hc) (fun u H' hR=>?_) C M a w next Q hi he ?_
 ·obtain⟨q,s',h1,h2,h3⟩:=h u H' hR
  exact⟨q,s',h1,h2,rfl,h3⟩
 ·rintro v u H' M' w' ⟨q,s',h1,h2,h3,h4⟩ hM hi' hr;exact hn v q H' M' w' ⟨h3,fun hx=>(by rw[hpc,Bool.false_and]at hx;cases hx),s',h2,h4⟩ hM hi' (h1 _ _ hr)
end
theorem rU{l:List (List PV)}(p:Nat)(h:∀r∈l,r.length=1):(l.take p).flatten=l.flatten.take p:=by
 induction l generalizing p with
 |nil=>simp
 |cons r l ih=>
  cases p with
  |zero=>simp
  |succ p=>
   match r,h r (by simp)with
   |[z],_=>simp[ih p fun r hr=>h r (List.mem_cons_of_mem _ hr)]
theorem flat1_drop{l:List (List PV)}(p:Nat)(h:∀r∈l,r.length=1):(l.drop p).flatten=l.flatten.drop p:=by
 induction l generalizing p with
 |nil=>simp
 |cons r l ih=>
  cases p with
  |zero=>simp
  |succ p=>
   match r,h r (by simp)with
   |[z],_=>simp[ih p fun r hr=>h r (List.mem_cons_of_mem _ hr)]
theorem tm{l:List (List PV)}(h:∀r∈l,r.length=1):l.flatten.length=l.length:=by
 induction l with
 |nil=>rfl
 |cons r l ih=>rw[List.flatten_cons,List.length_append,h r (by simp),ih fun r hr=>h r (List.mem_cons_of_mem _ hr),List.length_cons];omega
section
variable{P:Program}{T:TT}
theorem eff_copyO(hT:T.Ok P){o:Oper}{ev:Operand->PV}{H:Heap}{x y:Operand}{t t':TypeId}(ho:o.op= .call {callee:= .builtin .copy,args:=#[x,y],argTypes:=#[t,t']}){ti ei:TInfo}{e:TypeId}(hti:T.get t=some ti)(hd:ti.desc= .slice e)(hei:T.get e=some ei)(hes:ei.size=1)
  {tag tag2:Nat} {g g2:OwnRef} {rows rows2:List (List PV)} {wr2:Bool} (hob:H.ob tag=some ⟨g,e,rows,true⟩) (hob2:H.ob tag2=some ⟨g2,e,rows2,wr2⟩) {p h m q h2 m2:Nat}
  (hx:ev x= .val (g.sub ei.size p h m)) (hy:ev y= .val (g2.sub ei.size q h2 m2)) (hp:p<=rows.length) {cnt:Nat} (hc0:0<cnt) (hcnt:Nat.min (h2-q) (h-p)=cnt) (hq2:q+cnt<=rows2.length) (hpc:p+cnt<=g.cap) (hm:h<=m) (hm2:h2<=m2)
  {rows':List (List PV)} (hrows:rows.take p++(rows2.drop q).take cnt++rows.drop (p+cnt)=rows') (hby:rows'.length*ei.bytes<=2^47)
  {K:PV->Heap->Prop} (hk:K (.val (.int .i64 cnt)) ⟨H.bx,upd H.ob tag (some ⟨g,e,rows',true⟩)⟩):Eff P o ev H K:=by
 intro C M a w next Q hi he hn
 have hxr:=he x (by rw[ho];simp[Op.operands,Call.operands]);have hyr:=he y (by rw[ho];simp[Op.operands,Call.operands]);rw[hx]at hxr;rw[hy]at hyr;simp only[Rep]at hxr hyr
 obtain⟨i,g1,gg2,g3,g4⟩:=hi.objs tag _ hob
 obtain⟨i2,f1,_,f3,f4⟩:=hi.objs tag2 _ hob2
 obtain⟨i',g5,g6,gb,_⟩:=(hT.get hei).info
 simp only at g1 gg2 g3 g4 f1 f3 f4;rw[g1]at g5;cases g5;rw[g1]at f1;cases f1;have hi1:i.size=1:=by rw[g6,hes]
 have hu:=(hT.get hti).und;rw[hd]at hu;have hmin1:cnt<=h2-q:=by rw[<-hcnt];exact Nat.min_le_left _ _
 have hmin2:cnt<=h-p:=by rw[<-hcnt];exact Nat.min_le_right _ _
 rcases f4 with⟨_,f5,_⟩|⟨b2,cur2,fb2,_,fcur2,fcs2,flc2,_,fcr2,f1c2,_⟩
 ·rw[f5]at hq2;simp at hq2;omega
 rcases g4 with⟨_,g7,g8⟩|⟨b,cur,hb,_,hcur,hcs,hlc,hcm,hcr,h1c,hw1,hw2⟩
 ·rw[g8]at hpc;simp at hpc;omega
 rw[hi1,Nat.mul_one]at hcs hcr h1c fcs2 fcr2 f1c2;have g3':∀r∈rows,r.length=1:=fun r hr=>by rw[g3 r hr,hi1]
 have f3':∀r∈rows2,r.length=1:=fun r hr=>by rw[f3 r hr,hi1]
 have ex:g.sub ei.size p h m= .slice (some ⟨b,p,none⟩) (h-p) (m-p):=by
  unfold OwnRef.sub;rw[zy (by omega),hb,hes];simp[fa]
 have ey:g2.sub ei.size q h2 m2= .slice (some ⟨b2,q,none⟩) (h2-q) (m2-q):=by
  unfold OwnRef.sub;rw[zy (by omega),fb2,hes];simp[fa]
 obtain⟨news,hnews⟩:∃news,news=((cur2.toList.take rows2.length).drop q).take cnt:=⟨_,rfl⟩
 have hold2:(cur2.toList.take rows2.length).length=rows2.length:=by rw[fcr2.length,tm f3']
 have hnl:news.length=cnt:=by rw[hnews,List.length_take,List.length_drop,hold2];omega
 have hsrc:∀j v,news[j]? =some v->w.cell? ((⟨b2,q,none⟩:Addr).add j)=some v:=by
  intro j u hj;rw[fa,cell_of_row w b2 (q+j) cur2 e (0,0) fcur2];rw[hnews,List.getElem?_take]at hj;split at hj
  ·rw[List.getElem?_drop,List.getElem?_take]at hj;split at hj
   ·simpa using hj
   ·cases hj
  ·cases hj
 have hone:∀u∈news,u.oneCell'=true:=fun u hu'=>f1c2 u (by rw[hnews]at hu';exact List.mem_of_mem_drop (List.mem_of_mem_take hu'))
 have hrun:=run_copy_row (P:=P) w t t' o.type e b p (h-p) (m-p) ⟨b2,q,none⟩ (h2-q) (m2-q) cur e news hu (by rw[g1];simp[hi1]) hcur (by rw[hnl];exact hcnt.symm) hsrc (by rw[hnl,hcs];exact hpc) hone
 have hrun':(execOp a.eval o).run P w= .ok (.value (.int .i64 cnt)) (w.setRow b (cur.toList.take p++news++cur.toList.drop (p+news.length)).toArray):=by
  simp only[execOp,ho,resolve,Sem.run_bind,Sem.run_pure,Result.andThen_ok,invoke,builtin,List.map_toArray,List.map_cons,List.map_nil,hxr,hyr];rw[ex,ey,hrun,hnl];rfl
 unfold Oper.wp;rw[hrun'];have hold:(cur.toList.take rows.length).length=rows.length:=by rw[hcr.length,tm g3']
 have hcl:rows.length<=cur.toList.length:=by rw[List.length_take]at hold;omega
 have hcs':cur.toList.length=g.cap:=by rw[Array.length_toList];exact hcs
 have hrl:rows'.length=max rows.length (p+cnt):=by
  rw[<-hrows];simp only[List.length_append,List.length_take,List.length_drop];omega
 have hseg:((rows2.drop q).take cnt).flatten=(rows2.flatten.drop q).take cnt:=by
  rw[rU _ fun r hr=>f3' r (List.mem_of_mem_drop hr),flat1_drop _ f3']
 have hlist:(cur.toList.take p++news++cur.toList.drop (p+news.length)).take rows'.length=(cur.toList.take rows.length).take p++news++(cur.toList.take rows.length).drop (p+cnt):=by
  rw[hnl,hrl,List.take_append,List.take_of_length_le (by rw[List.length_append,hnl,List.length_take];omega),List.length_append,hnl,List.length_take,Nat.min_eq_left (by omega),List.take_take,Nat.min_eq_left hp];congr 1;rw[List.drop_take];congr 1;omega
 have hrep:aN P M false rows'.flatten ((cur.toList.take rows.length).take p++news++(cur.toList.take rows.length).drop (p+cnt)):=by
  rw[<-hrows,List.flatten_append,List.flatten_append,rU _ g3',flat1_drop _ g3',hseg,hnews]
  exact((hcr.take _).append ((fcr2.drop _).take _)).append (hcr.drop _)
 refine hn _ _ _ M _ hk (Mem.le_refl M) (hi.set_obj tag _ hob b hb rows' true (cur.toList.take p++news++cur.toList.drop (p+news.length)).toArray i g1 (by rw[gb];exact hby) ?_ ?_ ?_ hcm ?_ ?_ ?_ (fun _=>hw1 trivial) (fun o' _=>hw1 trivial o')) (by simp[Rep])
 ·intro r hr;rw[hi1];rw[<-hrows]at hr;rcases List.mem_append.1 hr with hr|hr
  ·rcases List.mem_append.1 hr with hr|hr
   ·exact g3' r (List.mem_of_mem_take hr)
   ·exact f3' r (List.mem_of_mem_drop (List.mem_of_mem_take hr))
  ·exact g3' r (List.mem_of_mem_drop hr)
 ·rw[hi1,Nat.mul_one];simp only[List.size_toArray,List.length_append,List.length_take,List.length_drop,hnl,hcs'];omega
 ·rw[hrl];simp only;omega
 ·rw[hi1,Nat.mul_one];simp only;rw[hlist];exact hrep
 ·rw[hi1,Nat.mul_one];simp only;rw[hlist];intro v hv;rcases List.mem_append.1 hv with hv|hv
  ·rcases List.mem_append.1 hv with hv|hv
   ·exact h1c v (List.mem_of_mem_take hv)
   ·exact hone v hv
  ·exact h1c v (List.mem_of_mem_drop hv)
 ·intro o' v' hm';rw[hw1 trivial o']at hm';cases hm'
theorem eff_appendCM(hT:T.Ok P){o:Oper}{ev:Operand->PV}{H:Heap}{x y:Operand}{t u:TypeId}(ho:o.op= .call {callee:= .builtin .append,args:=#[x,y],argTypes:=#[t,u]}){ti ei ui:TInfo}{e:TypeId}(hti:T.get t=some ti)(hd:ti.desc= .slice e)(hei:T.get e=some ei)(hes:ei.size=1)
  (hui:T.get u=some ui) {kn:IntKind} (hud:ui.desc= .int kn) (hz:Nat.beq ei.zero.cells.size ei.size=true) (hz1:(cP ei).all PV.one=true) {tag:Nat} {g:OwnRef} {rows:List (List PV)} {wr:Bool} (hob:H.ob tag=some ⟨g,e,rows,wr⟩) {j k:Nat} {kk:IntKind}
  (hx:ev x= .val (g.sub ei.size 0 j g.cap)) (hy:ev y= .val (.int kk k)) (hj:j<=rows.length) (hk:0<k) (hgrow:g.cap<j+k) (hby:(j+k)*ei.bytes<=2^47) (hmx:j+k<=maxLen) (d:Nat)
  {K:PV->Heap->Prop} (hK:∀g',K (.own d g' (rows.take j++List.replicate k (cP ei)).length) ⟨H.bx,upd H.ob d (some ⟨g',e,rows.take j++List.replicate k (cP ei),true⟩)⟩):Eff P o ev H K:=by
 intro C M a w next Q hi he hn
 have hxr:=he x (by rw[ho];simp[Op.operands,Call.operands]);have hyr:=he y (by rw[ho];simp[Op.operands,Call.operands]);rw[hx]at hxr;rw[hy]at hyr;simp only[Rep]at hxr hyr
 obtain⟨i,g1,gg2,g3,g4⟩:=hi.objs tag _ hob
 obtain⟨i',g5,g6,gb,hzero⟩:=(hT.get hei).info
 simp only at g1 gg2 g3 g4;rw[g1]at g5;cases g5;have hi1:i.size=1:=by rw[g6,hes]
 have hu:=(hT.get hti).und;rw[hd]at hu;have hu2:=(hT.get hui).und;rw[hud]at hu2;have hzs:=Nat.eq_of_beq_eq_true hz;have g3':∀r∈rows,r.length=1:=fun r hr=>by rw[g3 r hr,hi1]
 -- what stood before
 obtain⟨olds,hold,hol,holr,hol1⟩:∃olds:List Value,(Builtin.firstCells i.size j (g.sub ei.size 0 j g.cap)).run P w.drew= .ok olds.toArray w.drew/\olds.length=j/\aN P M false (rows.take j).flatten olds/\∀v∈olds,v.oneCell'=true:=by
  rcases g4 with⟨g7,g8,g9⟩|⟨b,cur,hb,_,hcur,hcs,hlc,hcm,hcr,h1c,_⟩
  ·have hj0:j=0:=by rw[g8]at hj;simpa using hj
   subst hj0
   refine⟨[],?_,rfl,by simp[aN],by simp⟩
   unfold OwnRef.sub;rw[g7];simp only[Option.map_none];split<;>exact run_firstCells_none _ _ _ _ _
  ·rw[hi1,Nat.mul_one]at hcs hcr h1c;have hold:(cur.toList.take rows.length).length=rows.length:=by rw[hcr.length,tm g3']
   refine⟨(cur.toList.take rows.length).take j,?_,by rw[List.length_take,hold];omega,by rw[rU _ g3'];exact hcr.take _,fun v hv=>h1c v (List.mem_of_mem_take hv)⟩
   have ex:g.sub ei.size 0 j g.cap= .slice (some ⟨b,0,none⟩) j g.cap:=by
    unfold OwnRef.sub;rw[hb];simp[fa]
   rw[ex,hi1];refine run_firstCells_some (P:=P) (w:=w.drew) 1 j ⟨b,0,none⟩ j g.cap _ (by rw[List.length_take,hold];omega) fun q v hq=>?_
   have:w.cell? ((⟨b,0,none⟩:Addr).add q)=some v:=by
    rw[fa,cell_of_row w b (0+q) cur e (0,0) hcur];rw[List.getElem?_take]at hq;split at hq
    ·rw[List.getElem?_take]at hq;split at hq
     ·simpa using hq
     ·cases hq
    ·cases hq
   exact this
 obtain⟨base,ex⟩:∃base,g.sub ei.size 0 j g.cap= .slice base j g.cap:=⟨_,by unfold OwnRef.sub;rw[Nat.sub_zero,Nat.sub_zero]⟩
 rw[ex]at hold;have hrun:=Lib.run_append_grow_zeros (P:=P) w t u o.type e i ei.zero kk kn hu hu2 g1 hzero base j g.cap olds hold k hk (by omega) hgrow (by unfold maxLen at hmx;omega) (by rw[gb];have:=Nat.mul_le_mul_right ei.bytes (show k<=j+k by omega);omega) (growslice_fits hgrow (by rw[gb];exact hby))
 have hrun':(execOp a.eval o).run P w= .ok (.value (.slice (some ⟨w.heap.size,0,none⟩) (j+k) (grownCap w (j+k) g.cap e))) (w.drew.alloc (.cells (olds.toArray++Builtin.zeroCells ei.zero.cells k++Builtin.zeroCells ei.zero.cells (grownCap w (j+k) g.cap e-(j+k))) e)):=by
  simp only[execOp,ho,resolve,Sem.run_bind,Sem.run_pure,Result.andThen_ok,invoke,builtin,List.map_toArray,List.map_cons,List.map_nil,hxr,hyr];rw[ex,hrun];rfl
 unfold Oper.wp;rw[hrun'];have hge:=grownCap_ge w (j+k) g.cap e;have hgm:grownCap w (j+k) g.cap e<=maxLen:=grownCap_le_maxLen w _ _ e hmx;have hrl:(rows.take j++List.replicate k (cP ei)).length=j+k:=by rw[List.length_append,List.length_take,List.length_replicate];omega
 have hzl:(cP ei).length=i.size:=by simp[cP,hzs,g6]
 have hzc:(Builtin.zeroCells ei.zero.cells k).toList=(List.replicate k ei.zero.cells.toList).flatten:=by
  unfold Builtin.zeroCells;exact oK ei.zero.cells k
 have hzsz:(Builtin.zeroCells ei.zero.cells k).toList.length=k:=by rw[hzc];simp[hzs,hes]
 have hrep:aN P M false (List.replicate k (cP ei)).flatten (List.replicate k ei.zero.cells.toList).flatten:=mc (lP _) k
 have htake:((olds.toArray++Builtin.zeroCells ei.zero.cells k++Builtin.zeroCells ei.zero.cells (grownCap w (j+k) g.cap e-(j+k))).toList.take ((rows.take j++List.replicate k (cP ei)).length*i.size))=olds++(List.replicate k ei.zero.cells.toList).flatten:=by
  rw[hrl,hi1,Nat.mul_one,Array.toList_append,Array.toList_append,<-hzc];rw[show j+k=(olds.toArray.toList++(Builtin.zeroCells ei.zero.cells k).toList).length from by rw[List.length_append,hzsz];simp[hol]];exact List.take_left
 refine hn _ (.own d ⟨some w.heap.size,grownCap w (j+k) g.cap e⟩ (rows.take j++List.replicate k (cP ei)).length) _ M _ (hK ⟨some w.heap.size,grownCap w (j+k) g.cap e⟩) (Mem.le_refl M)
  ((show InvH P C M H w.drew from hi.drew).alloc_obj d e (rows.take j++List.replicate k (cP ei)) true _ _ i g1 ?_ ?_ ?_ ?_ hgm ?_ ?_) ?_
 ·rw[hrl,gb];exact hby
 ·intro r hr;rcases List.mem_append.1 hr with hr|hr
  ·exact g3 r (List.mem_of_mem_take hr)
  ·rw[List.eq_of_mem_replicate hr];exact hzl
 ·simp only[Array.size_append,size_zeroCells,hzs,hes,hi1,Nat.mul_one,List.size_toArray,hol];omega
 ·rw[hrl];exact hge
 ·rw[htake,List.flatten_append];exact holr.append hrep
 ·rw[htake];intro v hv;rcases List.mem_append.1 hv with hv|hv
  ·exact hol1 v hv
  ·refine aN.oneCell ?_ hrep v hv;rw[List.all_eq_true]at hz1⊢;intro p hp
   obtain⟨l,hl,hp⟩:=List.mem_flatten.1 hp
   rw[List.eq_of_mem_replicate hl]at hp;exact hz1 p hp
 ·simp[Rep,OwnRef.val,hrl]
theorem eff_overlaps(hT:T.Ok P){o:Oper}{ev:Operand->PV}{H:Heap}{fx x y:Operand}{ts:Array TypeId}(ho:o.op= .call {callee:= .value fx,args:=#[x,y],argTypes:=ts}){f:FuncId}(hf:ev fx= .fn f []){fn:Func}(h1:P.funcs[f]? =some fn)(h2:(fn.name== "runtime.NumGoroutine")=false)(h3:fn.body.isNone=true)(h4:Extern.findNext fn=none)
  {tS tR:TypeId} (h5:Extern.find fn=some (Extern.SlicesOverlaps.overlaps #[tS,tS] #[tR])) {ti ei:TInfo} {e:TypeId} (hti:T.get tS=some ti) (hd:ti.desc= .slice e) (hei:T.get e=some ei) {tag tag2:Nat} (hne:tag2≠tag) {g g2:OwnRef} {rows rows2:List (List PV)} {wr wr2:Bool} {e2:TypeId}
  (hob:H.ob tag=some ⟨g,e,rows,wr⟩) (hob2:H.ob tag2=some ⟨g2,e2,rows2,wr2⟩) (hr:0<rows.length) (hr2:0<rows2.length) (hsz:ei.size=1) {jG k p hh m:Nat} (hx:ev x= .own tag2 g2 jG) (hy:ev y= .val (g.sub k p hh m))
  {K:PV->Heap->Prop} (hK:K (.val (.bool false)) H):Eff P o ev H K:=by
 intro C M a w next Q hi he hn
 have hfr:=he fx (by rw[ho];simp[Op.operands,Call.operands]);have hxr:=he x (by rw[ho];simp[Op.operands,Call.operands]);have hyr:=he y (by rw[ho];simp[Op.operands,Call.operands]);rw[hf]at hfr;rw[hx]at hxr;rw[hy]at hyr;simp only[Rep]at hfr hxr hyr
 obtain⟨cs,hv,hcaps⟩:=hfr
 have hc0:cs=#[]:=by
  simp only[aN]at hcaps;exact Array.toList_eq_nil_iff.1 hcaps
 subst hc0
 obtain⟨i,g1,_,_,g4⟩:=hi.objs tag _ hob
 obtain⟨i2,f1,_,_,f4⟩:=hi.objs tag2 _ hob2
 obtain⟨i',g5,g6,_,_⟩:=(hT.get hei).info
 simp only at g1 g4 f1 f4;rw[g1]at g5;cases g5;have hi1:i.size=1:=by rw[g6,hsz]
 have hu:=(hT.get hti).und;rw[hd]at hu;rcases g4 with⟨_,g8,_⟩|⟨b,cur,hb,_,hcur,hcs,hlc,_⟩
 ·rw[g8]at hr;simp at hr
 rcases f4 with⟨_,g8,_⟩|⟨b2,cur2,hb2,_,hcur2,_⟩
 ·rw[g8]at hr2;simp at hr2
 have hbb:b2≠b:=fun e=>hne (hi.dobj tag2 tag _ _ b2 hob2 hob hb2 (by rw[e];exact hb))
 have ey:∃off,g.sub k p hh m= .slice (some ⟨b,off,none⟩) (hh-p) (m-p):=by
  unfold OwnRef.sub;rw[hb];split
  ·exact⟨0,rfl⟩
  ·exact⟨p*k,by simp[fa]⟩
 obtain⟨off,ey⟩:=ey
 have ex:g2.val jG= .slice (some ⟨b2,0,none⟩) jG g2.cap:=by unfold OwnRef.val;rw[hb2];rfl
 have hrun:=Lib.run_overlaps_apart (P:=P) w tS tR e hu ei.size (fun w=>(hT.get hei).rsize w) ⟨b2,0,none⟩ ⟨b,off,none⟩ jG g2.cap (hh-p) (m-p) hbb e2 e cur2.size cur.size
  (by unfold World.shape?;simp only;rw[hcur2]) (by unfold World.shape?;simp only;rw[hcur]) (by rw[hcs,hi1];omega) (by unfold World.frozen?;simp only;rw[hcur2];simp) (by unfold World.frozen?;simp only;rw[hcur2];simp)
 have hrun':(execOp a.eval o).run P w= .ok (.value (.bool false)) w:=by
  have hcall:(callFunc f #[g2.val jG,g.sub k p hh m]).run P w= .ok (.value (.bool false)) w:=by
   rw[run_callFunc_extern h1 h2 h3 h4 h5,ex,ey,hrun];rfl
  simp[execOp,ho,resolve,hv,Deferred.ofValue,invoke,hxr.2,hyr,hcall]
 unfold Oper.wp;rw[hrun'];exact hn _ _ _ M w hK (Mem.le_refl M) hi (by simp[Rep])
end
section
variable{P:Program}{T:TT}{ops:Array Oper}{rest:List Oper}{o:Oper}{n:Nat}{s s':Nat->PV}{bx:Nat->Option Box}{ob:Nat->Option Obj}{K:PState->Prop}{rb:RB}{kk:Nat}{L:List Nat}
theorem va(hT:T.Ok P)(hg:ba ops s o=some true){x y:Operand}{t t':TypeId}(ho:o.op= .call {callee:= .builtin .copy,args:=#[x,y],argTypes:=#[t,t']}){ti ei:TInfo}{e:TypeId}(hti:T.get t=some ti)(hd:ti.desc= .slice e)(hei:T.get e=some ei)(hes:ei.size=1)
  {tag tag2:Nat} {g g2:OwnRef} {rows rows2:List (List PV)} {wr2:Bool} (hob:ob tag=some ⟨g,e,rows,true⟩) (hob2:ob tag2=some ⟨g2,e,rows2,wr2⟩) {p h m q h2 m2:Nat}
  (hx:evS s x= .val (g.sub ei.size p h m)) (hy:evS s y= .val (g2.sub ei.size q h2 m2)) (hp:p<=rows.length) {cnt:Nat} (hc0:0<cnt) (hcnt:Nat.min (h2-q) (h-p)=cnt) (hq2:q+cnt<=rows2.length) (hpc:p+cnt<=g.cap) (hm:h<=m) (hm2:h2<=m2)
  {rows':List (List PV)} (hrows:rows.take p++(rows2.drop q).take cnt++rows.drop (p+cnt)=rows') (hby:rows'.length*ei.bytes<=2^47) (hpd:putD n s o.dst (.val (.int .i64 cnt))=some s')
  (hK:Ao P ops rest ⟨n,s',bx,upd ob tag (some ⟨g,e,rows',true⟩)⟩ K):Ao P ops (o::rest) ⟨n,s,bx,ob⟩ K:=
 eO hg (eff_copyO hT ho hti hd hei hes hob hob2 hx hy hp hc0 hcnt hq2 hpc hm hm2 hrows hby ⟨s',hpd,hK⟩)
theorem uZ(hT:T.Ok P)(hop:ops[kk]? =some o)(hg:ba ops s o=some true){x y:Operand}{t t':TypeId}(ho:o.op= .call {callee:= .builtin .copy,args:=#[x,y],argTypes:=#[t,t']}){ti ei:TInfo}{e:TypeId}(hti:T.get t=some ti)(hd:ti.desc= .slice e)(hei:T.get e=some ei)(hes:ei.size=1)
  {tag tag2:Nat} {g g2:OwnRef} {rows rows2:List (List PV)} {wr2:Bool} (hob:ob tag=some ⟨g,e,rows,true⟩) (hob2:ob tag2=some ⟨g2,e,rows2,wr2⟩) {p h m q h2 m2:Nat}
  (hx:evS s x= .val (g.sub ei.size p h m)) (hy:evS s y= .val (g2.sub ei.size q h2 m2)) (hp:p<=rows.length) {cnt:Nat} (hc0:0<cnt) (hcnt:Nat.min (h2-q) (h-p)=cnt) (hq2:q+cnt<=rows2.length) (hpc:p+cnt<=g.cap) (hm:h<=m) (hm2:h2<=m2)
  {rows':List (List PV)} (hrows:rows.take p++(rows2.drop q).take cnt++rows.drop (p+cnt)=rows') (hby:rows'.length*ei.bytes<=2^47) (hpd:putD n s o.dst (.val (.int .i64 cnt))=some s')
  (hK:Do P T rb ops L ⟨n,s',bx,upd ob tag (some ⟨g,e,rows',true⟩)⟩ K):Do P T rb ops (kk::L) ⟨n,s,bx,ob⟩ K:=by
 refine⟨o,hop,true,hg,?_⟩
 simp only[if_true,ho,dW];right;intro bx';exact eff_copyO hT ho hti hd hei hes (H:=⟨bx',ob⟩) hob hob2 hx hy hp hc0 hcnt hq2 hpc hm hm2 hrows hby ⟨rfl,fun hh=>(by simp[oD]at hh),s',hpd,hK⟩
theorem vf(hT:T.Ok P)(hg:ba ops s o=some true){x y:Operand}{t u:TypeId}(ho:o.op= .call {callee:= .builtin .append,args:=#[x,y],argTypes:=#[t,u]}){ti ei ui:TInfo}{e:TypeId}(hti:T.get t=some ti)(hd:ti.desc= .slice e)(hei:T.get e=some ei)(hes:ei.size=1)
  (hui:T.get u=some ui) {kn:IntKind} (hud:ui.desc= .int kn) (hz:Nat.beq ei.zero.cells.size ei.size=true) (hz1:(cP ei).all PV.one=true) {tag:Nat} {g:OwnRef} {rows:List (List PV)} {wr:Bool} (hob:ob tag=some ⟨g,e,rows,wr⟩) {j k:Nat} {kq:IntKind}
  (hx:evS s x= .val (g.sub ei.size 0 j g.cap)) (hy:evS s y= .val (.int kq k)) (hj:j<=rows.length) (hk:0<k) (hgrow:g.cap<j+k) (hby:(j+k)*ei.bytes<=2^47) (hmx:j+k<=maxLen) {d:Nat} (hdst:o.dst=some d) (hlt:Nat.blt d n=true)
  (hK:∀g',Ao P ops rest ⟨n,upd s d (.own d g' (rows.take j++List.replicate k (cP ei)).length),bx,upd ob d (some ⟨g',e,rows.take j++List.replicate k (cP ei),true⟩)⟩ K):Ao P ops (o::rest) ⟨n,s,bx,ob⟩ K:=
 eO hg (eff_appendCM hT ho hti hd hei hes hui hud hz hz1 hob hx hy hj hk hgrow hby hmx d fun g'=>⟨_,by simp[hdst,putD,hlt],hK g'⟩)
theorem vg(hT:T.Ok P)(hg:ba ops s o=some true){fx x y:Operand}{ts:Array TypeId}(ho:o.op= .call {callee:= .value fx,args:=#[x,y],argTypes:=ts}){f:FuncId}(hf:evS s fx= .fn f []){fn:Func}(h1:P.funcs[f]? =some fn)(h2:(fn.name== "runtime.NumGoroutine")=false)(h3:fn.body.isNone=true)(h4:Extern.findNext fn=none)
  {tS tR:TypeId} (h5:Extern.find fn=some (Extern.SlicesOverlaps.overlaps #[tS,tS] #[tR])) {ti ei:TInfo} {e:TypeId} (hti:T.get tS=some ti) (hd:ti.desc= .slice e) (hei:T.get e=some ei) {tag tag2:Nat} (hne:tag2≠tag) {g g2:OwnRef} {rows rows2:List (List PV)} {wr wr2:Bool} {e2:TypeId}
  (hob:ob tag=some ⟨g,e,rows,wr⟩) (hob2:ob tag2=some ⟨g2,e2,rows2,wr2⟩) (hr:0<rows.length) (hr2:0<rows2.length) (hsz:ei.size=1) {jG k p hh m:Nat} (hx:evS s x= .own tag2 g2 jG) (hy:evS s y= .val (g.sub k p hh m))
  (hpd:putD n s o.dst (.val (.bool false))=some s') (hK:Ao P ops rest ⟨n,s',bx,ob⟩ K):Ao P ops (o::rest) ⟨n,s,bx,ob⟩ K:=
 eO hg (eff_overlaps hT ho hf h1 h2 h3 h4 h5 hti hd hei hne hob hob2 hr hr2 hsz hx hy ⟨s',hpd,hK⟩)
end
theorem OwnRef.sub_val(g:OwnRef)(k len:Nat):g.sub k 0 len g.cap=g.val len:=by
 unfold OwnRef.sub OwnRef.val;split
 ·simp
 ·cases g.blk<;>simp[fa]
section
variable{P:Program}{T:TT}{ops:Array Oper}{rest:List Oper}{o:Oper}{n:Nat}{s s':Nat->PV}{bx:Nat->Option Box}{ob:Nat->Option Obj}{K:PState->Prop}
theorem PLe.ownSub{tag:Nat}{g:OwnRef}{len k:Nat}:PLe P (.own tag g len) (.val (g.sub k 0 len g.cap)):=by rw[OwnRef.sub_val];exact PLe.ownVal P tag g len
theorem PLe.subOwn{tag:Nat}{g:OwnRef}{len k:Nat}:PLe P (.val (g.sub k 0 len g.cap)) (.own tag g len):=by rw[OwnRef.sub_val];exact PLe.valOwn P tag g len
theorem Ao.capO(hT:T.Ok P)(hg:ba ops s o=some true){x:Operand}{t:TypeId}{ts:List TypeId}(ho:o.op= .call {callee:= .builtin .cap,args:=#[x],argTypes:=(t::ts).toArray}){ti:TInfo}{e:TypeId}(hti:T.get t=some ti)(hd:ti.desc= .slice e)
  {tag:Nat} {g:OwnRef} {len:Nat} (hx:evS s x= .own tag g len) (hp:putD n s o.dst (.val (.int .i64 g.cap))=some s') (h:Ao P ops rest ⟨n,s',bx,ob⟩ K):Ao P ops (o::rest) ⟨n,s,bx,ob⟩ K:=by
 refine eO hg (fun C M a w next Q hi he hn=>?_);have hxr:=he x (by rw[ho];simp[Op.operands,Call.operands]);rw[show(⟨n,s,bx,ob⟩:PState).s=s from Z,hx]at hxr;simp only[Rep]at hxr;have hu:=(hT.get hti).und;rw[hd]at hu
 have hrun:(execOp a.eval o).run P w= .ok (.value (.int .i64 g.cap)) w:=by
  simp only[execOp,ho,resolve,Sem.run_bind,Sem.run_pure,Result.andThen_ok,invoke,builtin,List.map_toArray,List.map_cons,List.map_nil,hxr.2,OwnRef.val];simp[Builtin.cap_,run_underlying hu,goInt]
 unfold Oper.wp;rw[hrun];exact hn _ _ ⟨bx,ob⟩ M w ⟨s',hp,h⟩ (Mem.le_refl M) hi (by simp[Rep])
end
end
end Go.Ab

namespace Go.Proofs.YtafdcemcgfbhcaaGreat
noncomputable section
open Go Go.Ab Go.Proofs.Tryz
attribute [local irreducible] V Ao Do Gh Eff PH IntKind.wrap
set_option maxRecDepth 4000
theorem ins_eq{α:Type}{l:List α}{i:Nat}(hi:i<l.length)(r:α)(z:α):(((l.take i++List.replicate (l.length+1-i) z).take i++[r]++(l.take i++List.replicate (l.length+1-i) z).drop (i+1)).take (i+1)++(l.drop i).take (l.length-i)++((l.take i++List.replicate (l.length+1-i) z).take i++[r]++(l.take i++List.replicate (l.length+1-i) z).drop (i+1)).drop (i+1+(l.length-i)))=l.take i++r::l.drop i:=by
 have e1:(l.take i).length=i:=by rw[List.length_take];omega
 have e2:(l.take i++List.replicate (l.length+1-i) z).take i=l.take i:=by rw[List.take_append_of_le_length (by omega),List.take_of_length_le (by omega)]
 rw[e2];have e3:(l.take i++[r]).length=i+1:=by simp;omega
 have e4:((l.take i++[r])++(l.take i++List.replicate (l.length+1-i) z).drop (i+1)).take (i+1)=l.take i++[r]:=by rw[List.take_append_of_le_length (by omega),List.take_of_length_le (by omega)]
 have e5:((l.take i++[r])++(l.take i++List.replicate (l.length+1-i) z).drop (i+1)).drop (i+1+(l.length-i))=[]:=by
  apply List.drop_eq_nil_of_le;simp only[List.length_append,List.length_drop,List.length_take,List.length_replicate,List.length_singleton];omega
 rw[e4,e5,List.append_nil,List.take_of_length_le (l:=l.drop i) (by simp),List.append_assoc];rfl
theorem ins_in{α:Type}{l:List α}{i:Nat}(hi:i<l.length)(r:α):((l.take (i+1)++(l.drop i).take (l.length-i)++l.drop (i+1+(l.length-i))).take i++([r].drop 0).take 1++(l.take (i+1)++(l.drop i).take (l.length-i)++l.drop (i+1+(l.length-i))).drop (i+1))=l.take i++r::l.drop i:=by
 have e1:(l.take (i+1)).length=i+1:=by rw[List.length_take];omega
 have e2:l.drop (i+1+(l.length-i))=[]:=List.drop_eq_nil_of_le (by omega);rw[e2,List.append_nil,List.take_of_length_le (l:=l.drop i) (by simp),List.take_append_of_le_length (by omega),List.take_take,Nat.min_eq_left (by omega),List.drop_append,e1,Nat.sub_self,List.drop_of_length_le (l:=l.take (i+1)) (by omega)];simp
set_option maxHeartbeats 8000000 in
theorem insert_row{m:Nat}{rows:List (List PV)}{g1 g2:OwnRef}{r:List PV}{i:Nat}(hi:i<=rows.length)(hby:(rows.length+1)*24<=2^47)(hmx:rows.length+1<=maxLen)(hrl:[r].map List.length=[[PV.any]].map List.length):
  PH prog 51 [.own 1 g1 rows.length,ah i,.own 2 g2 1] ⟨fun _=>none,upd (upd (fun _=>none) 1 (some ⟨g1,46,rows,true⟩)) 2 (some ⟨g2,46,[r],true⟩)⟩ (lN m 46 (rows.take i++r::rows.drop i)):=by
 have hw1:IntKind.i64.wrap ((rows.length:Int)+1)=((rows.length+1:Nat):Int):=by rw[bI (by omega) (by unfold maxLen at hmx;omega)];rfl
 have hw1':IntKind.i64.wrap ((rows.length:Int)+((1:Nat):Int))=((rows.length+1:Nat):Int):=hw1;have hw2':IntKind.i64.wrap ((i:Int)+((1:Nat):Int))=((i+1:Nat):Int):=by rw[bI (by omega) (by unfold maxLen at hmx;omega)];rfl
 have hw2:IntKind.i64.wrap ((i:Int)+1)=((i+1:Nat):Int):=by rw[bI (by omega) (by unfold maxLen at hmx;omega)];rfl
 refine PH.au func51 ntmps51 ?_;refine qd (tag:=1) Z (fun hcap=>?_);refine ak 1 tk Z (aa (ab (ag 2 tk Z (iJ (l:=i) (h:=rows.length) (m:=g1.cap) tk Z Z Z Z Z Z ⟨_,_,rfl,rfl⟩ Z Z (by decide) hi hcap (Nat.le_refl _) Z (ac (aa (ab (ai tk Z (eg tk Z ?_)))))))));refine ai tk Z (ac (aa (ak 2 tk Z (bH Z (al (aa (ab (ai tk Z (eg tk Z ?_)))))))));refine ai tk Z (ac (aa (ak 3 tk Z ?_)));refine bJ Z (fun h=>?_) (fun h=>?_)
 ·have hin:i=rows.length:=by
   have h:(i:Int)=rows.length:=by simpa using h
   omega
  subst hin;refine cT 2 Z Z Z (aa (ab (ag 2 tk Z ?_)));refine ve (rows2':=[r]) (rows':=rows++[r]) tk (gP.refl _) hby hmx Z fun g'=>?_
  refine ai tk Z (ac ?_);exact uM tk Z Z Z Z (by rw[List.take_length,List.drop_length])
 refine al ?_
 have hlt:i<rows.length:=by
  have:¬(i:Int)=rows.length:=by simpa using h
  omega
 refine aa (aa (ab (ag 4 tk Z (Ao.capO tk Z Z Z Z Z Z (ai tk Z (ac ?_))))));refine bJ Z (fun h2=>?_) (fun h2=>?_)
 ·have hg:g1.cap<rows.length+1:=by
   have h2:IntKind.i64.wrap ((rows.length:Int)+1)>(g1.cap:Int):=by simpa using h2
   rw[hw1]at h2;omega
  refine aa (ab (ag 2 tk Z (iJ (l:=0) (h:=i) (m:=g1.cap) tk Z Z Z Z Z Z Z ⟨_,_,rfl,rfl⟩ Z (by decide) (Nat.zero_le _) (by omega) (Nat.le_refl _) Z (ag 5 tk Z ?_))));refine je 39 (q:=ah ((rows.length+1-i:Nat):Int)) Z (PLe.q (congrArg ah (by rw[hw1',bI (by omega) (by unfold maxLen at hmx;omega)];omega))) ?_;refine vf (tag:=1) (k:=rows.length+1-i) tk Z Z Z Z Z Z Z Z Z Z Z Z Z hi (by omega) (by omega) (by rw[show i+(rows.length+1-i)=rows.length+1 by omega];exact hby) (by omega) Z Z fun g3=>?_
  refine ai tk Z (ac ?_);have hL':∀z:List PV,(rows.take i++List.replicate (rows.length+1-i) z).length=rows.length+1:=fun z=>by rw[List.length_append,List.length_take,List.length_replicate];omega
  refine qd (tag:=40) Z (fun hcap3=>?_);rw[hL']at hcap3;refine qd (tag:=2) Z (fun hcap2=>?_);refine aa (ab (ag 2 tk Z (iJ (l:=i) (h:=rows.length+1) (m:=g3.cap) tk Z Z Z Z Z Z ⟨_,_,rfl,rfl⟩ (hL' _).symm Z (by decide) (by omega) hcap3 (Nat.le_refl _) Z (ai tk Z (je 44 (q:= .val (g2.sub 1 0 1 g2.cap)) Z PLe.ownSub ?_)))));refine va (tag:=40) (tag2:=2) (p:=i) (q:=0) (cnt:=1) tk Z Z Z Z Z Z Z Z Z Z (by rw[hL'];omega) (by decide) (by simp[Nat.min_def];omega) (by simp) (by omega) hcap3 hcap2 Z (by simp only[List.length_append,List.length_take,List.length_drop,List.length_replicate,List.length_singleton];refine Nat.le_trans (Nat.mul_le_mul_right _ ?_) hby;omega) Z ?_;refine ac (aa (aX tk mok ⟨false,false,[]⟩ [0,1,2,3,4,5,6,7,8] Z (by decide+kernel) Z (az 4 Z (lp (l:=i+1) (h:=rows.length+1) (m:=g3.cap) tk Z Z Z Z Z Z Z ⟨_,_,rfl,hw2'⟩ (hL' _).symm Z (by decide) (by omega) hcap3 (Nat.le_refl _) Z (az 2 Z (lp (l:=i) (h:=rows.length) (m:=g1.cap) tk Z Z Z Z Z Z Z ⟨_,_,rfl,rfl⟩ Z Z (by decide) hi hcap (Nat.le_refl _) Z ?_))))));refine uZ (tag:=40) (tag2:=1) (p:=i+1) (q:=i) (cnt:=rows.length-i) tk Z Z Z Z Z Z Z Z Z Z Z (by simp only[List.length_append,List.length_take,List.length_drop,List.length_replicate,List.length_singleton];omega) (by omega) (by simp only[Nat.min_def];split<;>omega) (by omega) (by omega) hcap3 hcap Z (by simp only[List.length_append,List.length_take,List.length_drop,List.length_replicate,List.length_singleton];refine Nat.le_trans (Nat.mul_le_mul_right _ ?_) hby;omega) Z ?_;refine aQ (ak 2 tk Z ?_);exact uM tk Z Z Z (by simp only[List.length_append,List.length_take,List.length_drop,List.length_replicate,List.length_singleton];omega) (ins_eq hlt r _)
 have hg:rows.length+1<=g1.cap:=by
  have h2:¬IntKind.i64.wrap ((rows.length:Int)+1)>(g1.cap:Int):=by simpa using h2
  rw[hw1]at h2;omega
 refine al (aa (ab (ag 4 tk Z (iJ (l:=0) (h:=rows.length+1) (m:=g1.cap) tk Z Z Z Z Z Z Z ⟨_,_,rfl,hw1'⟩ Z (by decide) (Nat.zero_le _) hg (Nat.le_refl _) Z (ai tk Z (ac (V.cast 0 (q:= .own 1 g1 (rows.length+1)) Z PLe.subOwn ?_)))))));refine qd (tag:=2) Z (fun hcap2=>?_);refine aa (aa (ab (ag 5 tk Z (iJ (l:=i+1) (h:=rows.length+1) (m:=g1.cap) tk Z Z Z Z Z Z ⟨_,_,rfl,hw2'⟩ Z Z (by decide) (by omega) hg (Nat.le_refl _) Z ?_))));refine vg (tag:=1) (tag2:=2) tk Z Z Z func76 Z Z Z Z Z Z Z (by decide) Z Z (by omega) (by simp) Z Z Z Z ?_;refine ai tk Z (ac (ct Z (aa (aX tk mok ⟨false,false,[]⟩ [0,1,2,3,4,5,6,7,8] Z (by decide+kernel) Z (az 4 Z (lp (l:=i+1) (h:=rows.length+1) (m:=g1.cap) tk Z Z Z Z Z Z Z ⟨_,_,rfl,hw2'⟩ Z Z (by decide) (by omega) hg (Nat.le_refl _) Z (az 2 Z (lp (l:=i) (h:=rows.length+1) (m:=g1.cap) tk Z Z Z Z Z Z Z ⟨_,_,rfl,rfl⟩ Z Z (by decide) (by omega) hg (Nat.le_refl _) Z ?_))))))));refine uZ (tag:=1) (tag2:=1) (p:=i+1) (q:=i) (cnt:=rows.length-i) tk Z Z Z Z Z Z Z Z Z Z Z (by omega) (by omega) (by simp only[Nat.min_def];split<;>omega) (by omega) (by omega) hg hg Z (by simp only[List.length_append,List.length_take,List.length_drop];refine Nat.le_trans (Nat.mul_le_mul_right _ ?_) hby;omega) Z ?_;refine aQ (aa (ab (ag 2 tk Z (iJ (l:=i) (h:=rows.length+1) (m:=g1.cap) tk Z Z Z Z Z Z ⟨_,_,rfl,rfl⟩ Z Z (by decide) (by omega) hg (Nat.le_refl _) Z (ai tk Z (je 81 (q:= .val (g2.sub 1 0 1 g2.cap)) Z PLe.ownSub ?_))))));refine va (tag:=1) (tag2:=2) (p:=i) (q:=0) (cnt:=1) tk Z Z Z Z Z Z Z Z Z Z (by simp only[List.length_append,List.length_take,List.length_drop];omega) (by decide) (by simp only[Nat.min_def];split<;>omega) (by simp) (by omega) hg hcap2 Z (by simp only[List.length_append,List.length_take,List.length_drop,List.length_singleton];refine Nat.le_trans (Nat.mul_le_mul_right _ ?_) hby;omega) Z ?_;refine ac (ak 2 tk Z ?_);exact uM tk Z Z Z (by rw[ins_in hlt];simp only[List.length_append,List.length_take,List.length_cons,List.length_drop];omega) (ins_in hlt r)
def insI{α:Type}(xs:List α)(i:Int)(r:α):Option (List α):=if 0<=i/\i<=xs.length/\xs.length<1000000 then some (xs.take i.toNat++r::xs.drop i.toNat)else none
theorem insI_some{α:Type}{xs ys:List α}{i:Int}{r:α}(h:insI xs i r=some ys):(0<=i/\i<=xs.length/\xs.length<1000000)/\ys=xs.take i.toNat++r::xs.drop i.toNat:=by
 unfold insI at h;split at h
 ·rename_i hc;exact⟨hc,(Option.some.inj h).symm⟩
 ·cases h
def cS(n:Int):LVal:=
 (LVal.mk 1 n [])
theorem dM(n:Int):
  aY prog 12 [(ah n)] (.agg (af (cS n))):=by
 obtain⟨r,H⟩:∃r,cS n=r:=⟨_,rfl⟩
 rw[H];unfold cS at H;refine PH.au func12 ntmps12 ?_;refine aa (ab ?_);refine bm tk fun b2=>?_
 refine ac (aa (ab (ag 2 tk Z (ay tk ?_))));refine ac ?_;exact tX tk H Z Z Z Z Z
@[reducible] def iw (n:Int):Int:=IntKind.i64.wrap n
theorem wW{n:Int}(h1:-9223372036854775808<=n)(h2:n<=9223372036854775807):iw n=n:=bI h1 h2
def eH(rec15:(List LProcedureStatement)->Option ((List LProcedureStatement)))(l:List LProcedureStatement):Option ((List LProcedureStatement)):=
 ae (aU (σ:=List LProcedureStatement) (ρ:=Empty) (fun(_:Nat) (x1:LProcedureStatement) (s1:List LProcedureStatement)=>
  ae (dq 192 s1 ([x1]:List LProcedureStatement)) fun(x15:List LProcedureStatement)=>
  ae (rec15 x1.body) fun x19=>
  ae (dq 192 x15 x19) fun(x20:List LProcedureStatement)=>
  ae (rec15 x1.elseF) fun x24=>
  ae (dq 192 x20 x24) fun(x25:List LProcedureStatement)=>
  some (.next x25)) 0 l []) fun fl1=>fl1.thenP fun(s1:List LProcedureStatement)=>
 some s1
theorem qC(rec15:(List LProcedureStatement)->Option ((List LProcedureStatement)))(hrec15:∀a0 r,rec15 a0=some r->aY prog 15 [(.list 66 (a0.map aH))] (.list 66 (r.map aH)))(l:List LProcedureStatement)(r:(List LProcedureStatement))(H:eH rec15 l=some r):
  aY prog 15 [(.list 66 (l.map aH))] (.list 66 (r.map aH)):=by
 unfold eH at H;refine PH.au func15 ntmps15 ?_;refine ak 1 tk Z (ak 1 tk Z (aa (aa (ab (ai tk Z (aI tk (zl _) ?_))))));refine ai tk Z (ac (hZ tk 3 15 (e:=66) Z Z ?_));refine gc (γ:=OwnRef) tk 8 7 6 (fun s1 g1=>upd (fun _=>.any) 3 (.own 15 g1 (s1.map aH).length)) nB (fun s1 g1=>upd (fun _=>none) 15 (some ⟨g1,66,(s1.map aH),true⟩)) (⟨none,0⟩) H (fun fl1 Hp1 j1 s1 g1 hz1 hl1 x1 fb1 hx1 H hg1=>?_) (fun s1 g1 H=>?_)
 ·refine aa (av (aa (ab (be tk (zn j1) (bA dr hx1) ?_))));refine ai tk Z ?_;refine bm tk fun b5=>?_
  refine ay tk ?_;refine ac (aa (ab (ai tk Z (aJ tk ?_))));refine cy tk (rows':=List.map aH ([x1]:List LProcedureStatement)) (gP.trans (b:=List.map aE [x1]) (gP.refl _) (gP.of_eq (ny dr [x1]))) ?_
  obtain⟨x15,h15,H⟩:=am H
  have k15:=cj h15;refine cv (rows2':=List.map aH ([x1]:List LProcedureStatement)) (rows':=List.map aH x15) tk Z Z Z Z Z Z Z Z Z Z Z Z Z (gP.refl _) (cU k15.1) (cW k15.2.1) (cV k15.2.2) fun g15=>?_
  refine ai tk Z (ac (aa (ab (ag 2 tk Z (aJ tk ?_)))))
  obtain⟨x19,h19,H⟩:=am H
  have s19:=hrec15 x1.body _ h19;refine aj call15 (jt.r) s19 ?_
  obtain⟨x20,h20,H⟩:=am H
  have k20:=cj h20;refine cv (rows2':=List.map aH x19) (rows':=List.map aH x20) tk Z Z Z Z Z Z Z Z Z Z Z Z Z (gP.refl _) (cU k20.1) (cW k20.2.1) (cV k20.2.2) fun g20=>?_
  refine ai tk Z (ac (ab (ag 2 tk Z (aJ tk ?_))))
  obtain⟨x24,h24,H⟩:=am H
  have s24:=hrec15 x1.elseF _ h24;refine aj call15 (jt.r) s24 ?_
  obtain⟨x25,h25,H⟩:=am H
  have k25:=cj h25;refine cv (rows2':=List.map aH x24) (rows':=List.map aH x25) tk Z Z Z Z Z Z Z Z Z Z Z Z Z (gP.refl _) (cU k25.1) (cW k25.2.1) (cV k25.2.2) fun g25=>?_
  refine ai tk Z (ac (aM (bc 2 tk Z ?_)));exact bv g25 H hl1 hg1
 refine ak 2 tk Z (cT 2 Z Z Z ?_);exact bi tk H Z
def dV:Nat->(List LProcedureStatement)->Option ((List LProcedureStatement))
 |0,_=>none
 |n+1,v0=>eH (fun b0=>dV n b0) v0
theorem qy  (n:Nat):(∀a0 r,dV n a0=some r->aY prog 15 [(.list 66 (a0.map aH))] (.list 66 (r.map aH))):=by
 induction n with
 |zero=>exact(by intros;rename_i h;exact absurd (show(none:Option _)=some _ from h) (by simp))
 |succ n ih=>
  exact(fun v0 r h=>qC (fun b0=>dV n b0) ih v0  r h)
def dc(l:List LProcedureStatement):Option ((List LProcedureStatement)):=ia fun n=>dV n l
theorem kZ(l:List LProcedureStatement)(r:(List LProcedureStatement))(H:dc l=some r):
  aY prog 15 [(.list 66 (l.map aH))] (.list 66 (r.map aH)):=by
 obtain⟨n,h⟩:=jh H
 exact(qy  n) l r h
def fE(rec42:(List LProcedureStatement)->Option (Int))(l:List LProcedureStatement):Option (Int):=
 ae (aU (σ:=Int) (ρ:=Empty) (fun(_:Nat) (x1:LProcedureStatement) (s1:Int)=>
  ae (rec42 x1.body) fun x15=>
  ae (rec42 x1.elseF) fun x18=>
  some (.next (if(iw ((1:Int)+(if x18>x15 then x18 else x15)))>s1 then(iw ((1:Int)+(if x18>x15 then x18 else x15)))else s1))) 0 l 0) fun fl1=>fl1.thenP fun(s1:Int)=>
 some s1
theorem tc(rec42:(List LProcedureStatement)->Option (Int))(hrec42:∀a0 r,rec42 a0=some r->aY prog 42 [(.list 66 (a0.map aH))] (ah r))(l:List LProcedureStatement)(r:Int)(H:fE rec42 l=some r):
  aY prog 42 [(.list 66 (l.map aH))] (ah r):=by
 unfold fE at H;refine PH.au func42 ntmps42 ?_;refine ak 1 tk Z (ak 1 tk Z (aa (aa (ab (ai tk Z (aI tk (zl _) ?_))))));refine ai tk Z (ac ?_);refine gc tk 8 7 6 (fun s1 g1=>upd (fun _=>.any) 3 (ah s1)) nB nO () H (fun fl1 Hp1 j1 s1 g1 hz1 hl1 x1 fb1 hx1 H hg1=>?_) (fun s1 g1 H=>?_)
 ·refine aa (av (aa (ab (be tk (zn j1) (bA dr hx1) ?_))));refine ai tk Z ?_;refine bm tk fun b5=>?_
  refine ay tk ?_;refine ac (aX tk mok ⟨true,false,[]⟩ [0,1,2,4,5,3,6,7,8,9,10] Z (by decide+kernel) Z (az 2 Z (bd ?_)));refine bw Z (bd ?_)
  obtain⟨x15,h15,H⟩:=am H
  have s15:=hrec42 x1.body _ h15;refine aS call42 (jt.r) s15 ?_
  obtain⟨x18,h18,H⟩:=am H
  have s18:=hrec42 x1.elseF _ h18;refine aS call42 (jt.r) s18 ?_;refine az 4 Z (aQ (aM (bc 2 tk Z ?_)));exact bv () H hl1 hg1
 refine ak 2 tk Z ?_;exact bi tk H Z
def fC:Nat->(List LProcedureStatement)->Option (Int)
 |0,_=>none
 |n+1,v0=>fE (fun b0=>fC n b0) v0
theorem te  (n:Nat):(∀a0 r,fC n a0=some r->aY prog 42 [(.list 66 (a0.map aH))] (ah r)):=by
 induction n with
 |zero=>exact(by intros;rename_i h;exact absurd (show(none:Option _)=some _ from h) (by simp))
 |succ n ih=>
  exact(fun v0 r h=>tc (fun b0=>fC n b0) ih v0  r h)
def eC(l:List LProcedureStatement):Option (Int):=ia fun n=>fC n l
theorem tZ(l:List LProcedureStatement)(r:Int)(H:eC l=some r):
  aY prog 42 [(.list 66 (l.map aH))] (ah r):=by
 obtain⟨n,h⟩:=jh H
 exact(te  n) l r h
def jp(sA:List Int)(v:Int):Option (Int):=
 ae (aU (σ:=Unit) (ρ:=(Int)) (fun(j1:Nat) (x1:Int) (_:Unit)=>
  cond (v==x1)
   (some (.ret (j1:Int)))
   (some (.next ()))) 0 sA ()) fun fl1=>fl1.thenR fun(_:Unit)=>
 some (-1)
theorem qz(sA:List Int)(v:Int)(r:Int)(H:jp sA v=some r):
  aY prog 119 [(.list 3 (sA.map cq)),(ah v)] (ah r):=by
 unfold jp at H;refine PH.au func119 ntmps119 ?_;refine ak 1 tk Z (aa (aa (ab (ai tk Z (aI tk (zl _) ?_)))));refine ai tk Z (ac ?_);refine ff tk 8 7 0 (fun s1 g1=>upd (fun _=>.any) 1 (ah v)) nB nO () H (fun fl1 Hp1 j1 s1 g1 hz1 hl1 x1 fb1 hx1 H hg1=>?_) (fun s1 g1 H=>?_)
 ·refine aa (av (ak 2 tk Z (aa (ab (ag 3 tk Z ?_)))));refine be tk (zn j1) (bA (fun _=>Z) hx1) ?_;refine ag 2 tk Z (ac ?_);refine aF Z H (fun H=>?_) (fun H=>?_)
  ·refine ak 2 tk Z ?_;obtain rfl:=aq H;have e1:fl1= .ret _:=hg1;subst e1;obtain rfl:=aZ Hp1;refine bl tk Z (ps:=[(ah (j1:Int))]) ⟨_,_,rfl,rfl,rfl⟩ (PLe.q Z)
  refine al (aM (bc 2 tk Z ?_));exact bv () H hl1 hg1
 refine ak 1 tk Z ?_;exact bi tk H Z
def bO(sA:List LCol)(f:LCol->Option (Bool)):Option (Int):=
 ae (aU (σ:=Unit) (ρ:=(Int)) (fun(j1:Nat) (x1:LCol) (_:Unit)=>
  ae (f x1) fun x16=>
  cond x16
   (some (.ret (j1:Int)))
   (some (.next ()))) 0 sA ()) fun fl1=>fl1.thenR fun(_:Unit)=>
 some (-1)
theorem dF{g_f:FuncId}{caps_f:List PV}(sA:List LCol)(f:LCol->Option (Bool))(hg_f:∀(vs:Array Value) (w:World),(callFunc g_f vs).run prog w= .ok (.enter g_f vs) w)(hp_f:∀a0 r,f a0=some r->aY prog g_f ((.agg (aB a0))::caps_f) (aK r))(r:Int)(H:bO sA f=some r):
  aY prog 89 [(.list 53 (sA.map aB)),(.fn g_f caps_f)] (ah r):=by
 unfold bO at H;refine PH.au func89 ntmps89 ?_;refine ak 1 tk Z (aa (aa (ab (ai tk Z (aI tk (zl _) ?_)))));refine ai tk Z (ac ?_);refine ff tk 8 7 0 (fun s1 g1=>upd (fun _=>.any) 1 (.fn g_f caps_f)) nB nO () H (fun fl1 Hp1 j1 s1 g1 hz1 hl1 x1 fb1 hx1 H hg1=>?_) (fun s1 g1 H=>?_)
 ·refine aa (av (ak 2 tk Z (aa (ab (ag 3 tk Z ?_)))));refine be tk (zn j1) (bA (fun _=>Z) hx1) ?_;refine ai tk Z ?_
  obtain⟨x16,h16,H⟩:=am H
  refine aj hg_f (jt.r) (hp_f _ _ h16) ?_;refine ac ?_;refine aF Z H (fun H=>?_) (fun H=>?_)
  ·refine ak 2 tk Z ?_;obtain rfl:=aq H;have e1:fl1= .ret _:=hg1;subst e1;obtain rfl:=aZ Hp1;refine bl tk Z (ps:=[(ah (j1:Int))]) ⟨_,_,rfl,rfl,rfl⟩ (PLe.q Z)
  refine al (aM (bc 2 tk Z ?_));exact bv () H hl1 hg1
 refine ak 1 tk Z ?_;exact bi tk H Z
def dv(sA:List LCol)(f:LCol->Option (Bool)):Option (Int×(List LCol)):=
 ae (nQ (sA.length:Int)) fun(n1:Nat)=>
 ae (aU (σ:=List LCol) (ρ:=(Int×(List LCol))) (fun(j1:Nat) (_:Nat) (s1:List LCol)=>
  ae (aG s1 (j1:Int)) fun(x14:LCol)=>
  ae (f x14) fun x16=>
  cond x16
   (some (.ret ((j1:Int),s1)))
   (some (.next s1))) 0 (List.range n1) sA) fun fl1=>fl1.thenR fun(s1:List LCol)=>
 some ((-1),s1)
theorem lh(g_sA:OwnRef){g_f:FuncId}{caps_f:List PV}(sA:List LCol)(f:LCol->Option (Bool))(hg_f:∀(vs:Array Value) (w:World),(callFunc g_f vs).run prog w= .ok (.enter g_f vs) w)(hp_f:∀a0 r,f a0=some r->aY prog g_f ((.agg (aB a0))::caps_f) (aK r))(r:Int×(List LCol))(H:dv sA f=some r):
  PH prog 89 [(.own 0 g_sA (sA.map aB).length),(.fn g_f caps_f)] ⟨fun _=>none,upd (fun _=>none) 0 (some ⟨g_sA,53,(sA.map aB),true⟩)⟩ (fun u H=>u=(ah r.1)/\H=⟨fun _=>none,upd (fun _=>none) 0 (some ⟨g_sA,53,(r.2.map aB),true⟩)⟩):=by
 unfold dv at H;refine PH.au func89 ntmps89 ?_;refine ak 1 tk Z (aa (aa (ab (ai tk Z (eg tk (zl _) ?_)))));refine ai tk Z (ac ?_)
 obtain⟨n1,hs1,H⟩:=am H
 have hz1:=mY hs1
 obtain⟨fl1,H1,Hp1⟩:=am H
 refine dj (τ:=List LCol) (γ:=Unit) (fun s1 g1=>⟨19,upd (fun _=>.any) 0 (.own 0 g_sA (s1.map aB).length),fun _=>none,upd (fun _=>none) 0 (some ⟨g_sA,53,(s1.map aB),true⟩)⟩) (fun t=>fl1= .next t) ?_ (fun s1 g1 hn1=>?_)
 ·refine av ?_;refine iU (fun j1 s1 g1=>⟨19,upd (upd (upd (upd (fun _=>.any) 8 (ah (j1:Int))) 7 (ah (sA.length:Int))) 1 (.fn g_f caps_f)) 0 (.own 0 g_sA (s1.map aB).length),fun _=>none,upd (fun _=>none) 0 (some ⟨g_sA,53,(s1.map aB),true⟩)⟩) () H1 Gh.d (fun j1 s1 g1 hj1 hr1=>?_);refine ak 1 tk Z (aa ?_);refine bJ Z (fun h=>?_) (fun h=>?_)
  ·have hl1:=natLt hz1 h
   obtain⟨x1,fb1,hx1,H,hg1⟩:=rMc hl1 hr1
   obtain rfl:=natX hx1;refine al (aa (av (ak 2 tk Z (aa (ab (ag 3 tk Z ?_))))))
   obtain⟨x14,k14,H⟩:=aV H
   refine jJ (tag:=0) Z (fun ho0=>?_);refine iV tk ⟨k14.1,(bh k14.2)⟩ (bf ho0 k14.2) ?_;refine lJ tk (aC (fun _=>Z) k14.2) ?_
   obtain⟨x16,h16,H⟩:=am H
   refine aj hg_f (jt.r) (hp_f _ _ h16) ?_;refine ac ?_;refine aF Z H (fun H=>?_) (fun H=>?_)
   ·refine ak 2 tk Z ?_;obtain rfl:=aq H;have e1:fl1= .ret _:=hg1;subst e1;obtain rfl:=aZ Hp1;refine bZ (st':=⟨19,upd (fun _=>.any) 4 (ah (j1:Int)),fun _=>none,upd (fun _=>none) 0 (some ⟨g_sA,53,(s1.map aB),true⟩)⟩) (Gh.le (ao aL) aw (aD ax)) ?_;refine cl tk Z (ps:=[(ah (j1:Int))]) ⟨_,_,rfl,rfl,rfl⟩ (PLe.q Z) ⟨rfl,rfl⟩
   refine al (aM (bc 2 tk Z ?_));exact bv () H hl1 hg1 (Gh.le (ao (ao (ao (bp (PLe.q (nT hz1 hl1)) aL)))) aw (aD ax))
  have hn1:=rMd (natGe hz1 h) hr1;refine bj Z ?_;refine aP s1 g1 hn1 Gh.d
 have H:=iW hn1 Hp1;refine ak 1 tk Z ?_;obtain rfl:=aq H;refine bZ (st':=⟨19,upd (fun _=>.any) 4 (ah (-1)),fun _=>none,upd (fun _=>none) 0 (some ⟨g_sA,53,(s1.map aB),true⟩)⟩) (Gh.le (ao aL) aw (aD ax)) ?_;refine cl tk Z (ps:=[(ah (-1))]) ⟨_,_,rfl,rfl,rfl⟩ (PLe.q Z) ⟨rfl,rfl⟩
def fw(sA:Rs)(v:Rb):Option (Int):=
 ae (aU (σ:=Unit) (ρ:=(Int)) (fun(j1:Nat) (x1:Rb) (_:Unit)=>
  cond (v==x1)
   (some (.ret (j1:Int)))
   (some (.next ()))) 0 sA ()) fun fl1=>fl1.thenR fun(_:Unit)=>
 some (-1)
theorem ou(sA:Rs)(v:Rb)(r:Int)(H:fw sA v=some r):
  aY prog 31 [(.list 9 (sA.map aA)),(.str v)] (ah r):=by
 unfold fw at H;refine PH.au func31 ntmps31 ?_;refine ak 1 tk Z (aa (aa (ab (ai tk Z (aI tk (zl _) ?_)))));refine ai tk Z (ac ?_);refine ff tk 8 7 0 (fun s1 g1=>upd (fun _=>.any) 1 (.str v)) nB nO () H (fun fl1 Hp1 j1 s1 g1 hz1 hl1 x1 fb1 hx1 H hg1=>?_) (fun s1 g1 H=>?_)
 ·refine aa (av (ak 2 tk Z (aa (ab (ag 3 tk Z ?_)))));refine be tk (zn j1) (bA (fun _=>Z) hx1) ?_;refine ag 2 tk Z (ac ?_);refine aF Z H (fun H=>?_) (fun H=>?_)
  ·refine ak 2 tk Z ?_;obtain rfl:=aq H;have e1:fl1= .ret _:=hg1;subst e1;obtain rfl:=aZ Hp1;refine bl tk Z (ps:=[(ah (j1:Int))]) ⟨_,_,rfl,rfl,rfl⟩ (PLe.q Z)
  refine al (aM (bc 2 tk Z ?_));exact bv () H hl1 hg1
 refine ak 1 tk Z ?_;exact bi tk H Z
def iR(rec139:LExpr->(List Int)->Bool->(List Bool)->Option ((List Int)×Bool×(List Bool)))(e:LExpr)(c0:List Int)(c1:Bool)(c2:List Bool):Option ((List Int)×Bool×(List Bool)):=
 letP (
  cond (e.kind==(3:Int))
   (cond (decide (e.index>=(0:Int)))
    ((decide (e.index<(8:Int))))
    (false))
   (false)) fun(t1:Bool)=>
 ae (
  cond t1
   (ae (dg (σ:=List Int) (ρ:=Empty) (fun(s7:List Int)=>
    cond (decide ((s7.length:Int)<=e.index))
     (ae (dq 8 s7 ([0]:List Int)) fun(x28:List Int)=>
     some (.next x28))
     (some (.brk s7))) c0) fun fl7=>fl7.thenP fun(s7:List Int)=>
   ae (
    cond c1
     (some true)
     (ae (arrI 8 c2 e.index) fun(x33:Bool)=>
     cond x33
      (ae (aG s7 e.index) fun(x39:Int)=>
      some (x39 !=e.value.kind))
      (some false))) fun(t8:Bool)=>
   ae (aG s7 e.index) fun(_:Int)=>
   letP (s7.set e.index.toNat e.value.kind) fun(y9:List Int)=>
   ae (arrI 8 c2 e.index) fun(_:Bool)=>
   letP (c2.set e.index.toNat true) fun(y10:List Bool)=>
   some (y9,t8,y10))
   (some (c0,c1,c2))) fun(t6:List Int×Bool×List Bool)=>
 ae (aU (σ:=List Int×Bool×List Bool) (ρ:=Empty) (fun(_:Nat) (x11:LExpr) (s11:List Int×Bool×List Bool)=>
  ae (rec139 x11 s11.1 s11.2.1 s11.2.2) fun x66=>
  some (.next (x66.1,x66.2.1,x66.2.2))) 0 e.args (t6.1,t6.2.1,t6.2.2)) fun fl11=>fl11.thenP fun(s11:List Int×Bool×List Bool)=>
 some (s11.1,s11.2.1,s11.2.2)
theorem pZ(b_c0:Nat)(g_c0:OwnRef)(b_c1:Nat)(b_c2:Nat)(b_c3:Nat)(rec139:LExpr->(List Int)->Bool->(List Bool)->Option ((List Int)×Bool×(List Bool)))(hrec139:∀bq0 gq0 bq1 bq2 bq3 a0 a1 a2 a3 r,rec139 a0 a1 a2 a3=some r->PH prog 139 [(.agg (gZ a0)),(.box 1000 bq0 0),(.box 1001 bq1 0),(.box 1002 bq2 0),(.box 1003 bq3 0)] ⟨upd (upd (upd (upd (fun _=>none) 1003 (some ⟨bq3,[(.fn 139 [(.box 1000 bq0 0),(.box 1001 bq1 0),(.box 1002 bq2 0),(.box 1003 bq3 0)])]⟩)) 1002 (some ⟨bq2,(List.map aK a3)⟩)) 1001 (some ⟨bq1,[(aK a2)]⟩)) 1000 (some ⟨bq0,[(.own 1100 gq0 (a1.map cq).length)]⟩),upd (fun _=>none) 1100 (some ⟨gq0,3,(a1.map cq),true⟩)⟩ (fun u H=>∃gz0,u=(.tup [])/\H=⟨upd (upd (upd (upd (fun _=>none) 1003 (some ⟨bq3,[(.fn 139 [(.box 1000 bq0 0),(.box 1001 bq1 0),(.box 1002 bq2 0),(.box 1003 bq3 0)])]⟩)) 1002 (some ⟨bq2,(List.map aK r.2.2)⟩)) 1001 (some ⟨bq1,[(aK r.2.1)]⟩)) 1000 (some ⟨bq0,[(.own 1100 gz0 (r.1.map cq).length)]⟩),upd (fun _=>none) 1100 (some ⟨gz0,3,(r.1.map cq),true⟩)⟩))(e:LExpr)(c0:List Int)(c1:Bool)(c2:List Bool)(r:(List Int)×Bool×(List Bool))(H:iR rec139 e c0 c1 c2=some r):
  PH prog 139 [(.agg (gZ e)),(.box 1000 b_c0 0),(.box 1001 b_c1 0),(.box 1002 b_c2 0),(.box 1003 b_c3 0)] ⟨upd (upd (upd (upd (fun _=>none) 1003 (some ⟨b_c3,[(.fn 139 [(.box 1000 b_c0 0),(.box 1001 b_c1 0),(.box 1002 b_c2 0),(.box 1003 b_c3 0)])]⟩)) 1002 (some ⟨b_c2,(List.map aK c2)⟩)) 1001 (some ⟨b_c1,[(aK c1)]⟩)) 1000 (some ⟨b_c0,[(.own 1100 g_c0 (c0.map cq).length)]⟩),upd (fun _=>none) 1100 (some ⟨g_c0,3,(c0.map cq),true⟩)⟩ (fun u H=>∃gz0,u=(.tup [])/\H=⟨upd (upd (upd (upd (fun _=>none) 1003 (some ⟨b_c3,[(.fn 139 [(.box 1000 b_c0 0),(.box 1001 b_c1 0),(.box 1002 b_c2 0),(.box 1003 b_c3 0)])]⟩)) 1002 (some ⟨b_c2,(List.map aK r.2.2)⟩)) 1001 (some ⟨b_c1,[(aK r.2.1)]⟩)) 1000 (some ⟨b_c0,[(.own 1100 gz0 (r.1.map cq).length)]⟩),upd (fun _=>none) 1100 (some ⟨gz0,3,(r.1.map cq),true⟩)⟩):=by
 unfold iR at H;refine PH.au func139 ntmps139 ?_;refine aa (ab (aO ?_));refine ac (aa (aa ?_));refine ed (γ:=Unit) (fun t1 g1=>⟨68,upd (upd (upd (upd (upd (upd (fun _=>.any) 20 (aK t1)) 5 (.ptr (gZ e))) 4 (.box 1003 b_c3 0)) 3 (.box 1002 b_c2 0)) 2 (.box 1001 b_c1 0)) 1 (.box 1000 b_c0 0),upd (upd (upd (upd (fun _=>none) 1003 (some ⟨b_c3,[(.fn 139 [(.box 1000 b_c0 0),(.box 1001 b_c1 0),(.box 1002 b_c2 0),(.box 1003 b_c3 0)])]⟩)) 1002 (some ⟨b_c2,(List.map aK c2)⟩)) 1001 (some ⟨b_c1,[(aK c1)]⟩)) 1000 (some ⟨b_c0,[(.own 1100 g_c0 (c0.map cq).length)]⟩),upd (fun _=>none) 1100 (some ⟨g_c0,3,(c0.map cq),true⟩)⟩) H (fun _ H=>?_) (fun t1 g1 H=>?_)
 ·refine ab (ag 4 tk Z ?_);refine bu Z Z Z H (fun H=>?_) (fun H=>?_)
  ·refine ag 5 tk Z ?_;refine bu Z Z Z H (fun H=>?_) (fun H=>?_)
   ·refine ag 4 tk Z (ac ?_);refine aP _ () H Gh.d
   refine ag 4 tk Z (ac ?_);refine aP _ () H Gh.d
  refine ag 9 tk Z (ac ?_);refine aP _ () H Gh.d
 refine ee (γ:=OwnRef) (fun t6 g6=>⟨68,upd (upd (upd (upd (upd (fun _=>.any) 5 (.ptr (gZ e))) 4 (.box 1003 b_c3 0)) 3 (.box 1002 b_c2 0)) 2 (.box 1001 b_c1 0)) 1 (.box 1000 b_c0 0),upd (upd (upd (upd (fun _=>none) 1003 (some ⟨b_c3,[(.fn 139 [(.box 1000 b_c0 0),(.box 1001 b_c1 0),(.box 1002 b_c2 0),(.box 1003 b_c3 0)])]⟩)) 1002 (some ⟨b_c2,(List.map aK t6.2.2)⟩)) 1001 (some ⟨b_c1,[(aK t6.2.1)]⟩)) 1000 (some ⟨b_c0,[(.own 1100 g6 (t6.1.map cq).length)]⟩),upd (fun _=>none) 1100 (some ⟨g6,3,(t6.1.map cq),true⟩)⟩) H (fun _ H=>?_) (fun t6 g6 H=>?_)
 ·refine aF Z H (fun H=>?_) (fun H=>?_)
  ·refine aa ?_
   obtain⟨fl7,H7,Hp7⟩:=am H
   refine dj (τ:=List Int) (γ:=OwnRef) (fun s7 g7=>⟨68,upd (upd (upd (upd (upd (fun _=>.any) 5 (.ptr (gZ e))) 4 (.box 1003 b_c3 0)) 3 (.box 1002 b_c2 0)) 2 (.box 1001 b_c1 0)) 1 (.box 1000 b_c0 0),upd (upd (upd (upd (fun _=>none) 1003 (some ⟨b_c3,[(.fn 139 [(.box 1000 b_c0 0),(.box 1001 b_c1 0),(.box 1002 b_c2 0),(.box 1003 b_c3 0)])]⟩)) 1002 (some ⟨b_c2,(List.map aK c2)⟩)) 1001 (some ⟨b_c1,[(aK c1)]⟩)) 1000 (some ⟨b_c0,[(.own 1100 g7 (s7.map cq).length)]⟩),upd (fun _=>none) 1100 (some ⟨g7,3,(s7.map cq),true⟩)⟩) (fun t=>fl7= .next t) ?_ (fun s7 g7 hn7=>?_)
   ·refine av ?_;refine cO (fun s7 g7=>⟨68,upd (upd (upd (upd (upd (fun _=>.any) 5 (.ptr (gZ e))) 4 (.box 1003 b_c3 0)) 3 (.box 1002 b_c2 0)) 2 (.box 1001 b_c1 0)) 1 (.box 1000 b_c0 0),upd (upd (upd (upd (fun _=>none) 1003 (some ⟨b_c3,[(.fn 139 [(.box 1000 b_c0 0),(.box 1001 b_c1 0),(.box 1002 b_c2 0),(.box 1003 b_c3 0)])]⟩)) 1002 (some ⟨b_c2,(List.map aK c2)⟩)) 1001 (some ⟨b_c1,[(aK c1)]⟩)) 1000 (some ⟨b_c0,[(.own 1100 g7 (s7.map cq).length)]⟩),upd (fun _=>none) 1100 (some ⟨g7,3,(s7.map cq),true⟩)⟩) g_c0 H7 Gh.d (fun m7 s7 g7 hr7=>?_)
    obtain⟨fb7,H,hg7⟩:=cp hr7
    refine aa (aa (ab (aJ tk ?_)));refine eg tk (zl _) ?_;refine ag 3 tk Z (ac ?_);refine aF Z H (fun H=>?_) (fun H=>?_)
    ·refine al (av (ab (aJ tk ?_)));refine cy tk (rows':=List.map cq ([0]:List Int)) (gP.refl _) ?_
     obtain⟨x28,h28,H⟩:=am H
     have k28:=cj h28;refine cv (rows2':=List.map cq ([0]:List Int)) (rows':=List.map cq x28) tk Z Z Z Z Z Z Z Z Z Z Z Z Z (gP.refl _) (cU k28.1) (cW k28.2.1) (cV k28.2.2) fun g28=>?_
     refine ay tk ?_;refine ac (aM ?_);obtain rfl:=aq H;refine ce x28 g28 hg7 Gh.d
    refine bj Z ?_;obtain rfl:=aq H;refine aP s7 g7 hg7 Gh.d
   have H:=ci hn7 Hp7;refine aa ?_;refine ee (γ:=Unit) (fun t8 g8=>⟨68,upd (upd (upd (upd (upd (fun _=>.any) 5 (.ptr (gZ e))) 4 (.box 1003 b_c3 0)) 3 (.box 1002 b_c2 0)) 2 (.box 1001 b_c1 0)) 1 (.box 1000 b_c0 0),upd (upd (upd (upd (fun _=>none) 1003 (some ⟨b_c3,[(.fn 139 [(.box 1000 b_c0 0),(.box 1001 b_c1 0),(.box 1002 b_c2 0),(.box 1003 b_c3 0)])]⟩)) 1002 (some ⟨b_c2,(List.map aK c2)⟩)) 1001 (some ⟨b_c1,[(aK t8)]⟩)) 1000 (some ⟨b_c0,[(.own 1100 g7 (s7.map cq).length)]⟩),upd (fun _=>none) 1100 (some ⟨g7,3,(s7.map cq),true⟩)⟩) H (fun _ H=>?_) (fun t8 g8 H=>?_)
   ·refine cA (tag:=1100) Z (fun ho1100=>?_);refine aX tk mok ⟨true,true,[32,38,43]⟩ [0,1,2,3,4,5,6,7,8,9,10,11,12,13,14,15,16,17,18] Z (by decide+kernel) Z (bd ?_);refine bw Z ?_;refine gi H (fun H=>?_) (fun H=>?_)
    ·refine az 16 Z (fM Z Z Z Z Z Z Z Z Z Z Z Z (aQ ?_));refine aP _ () (aq H) Gh.d
    refine az 2 Z ?_
    obtain⟨x33,h33,H⟩:=am H
    have k33:=arrI_some h33;refine vl Z Z Z Z Z Z Z Z Z k33.1 Z ?_;refine vB Z Z Z Z Z Z Z Z (by rw[List.getElem?_map,k33.2];rfl) Z ?_;refine bw Z ?_;refine gi H (fun H=>?_) (fun H=>?_)
    ·refine bd ?_;refine az 2 Z ?_
     obtain⟨x39,k39,H⟩:=aV H
     refine aT tk ⟨k39.1,(bh k39.2)⟩ (bf ho1100 k39.2) ?_;refine bo tk Z Z Z Z Z Z Z Z Z (aC (fun _=>Z) k39.2) Z Z ?_;refine az 6 Z (fM Z Z Z Z Z Z Z Z Z Z Z Z (aQ ?_));refine aP _ () (aq H) Gh.d
    refine az 11 Z (fM Z Z Z Z Z Z Z Z Z Z Z Z (aQ ?_));refine aP _ () (aq H) Gh.d
   refine cA (tag:=1100) Z (fun ho1100=>?_);refine aX tk mok ⟨true,false,[49,51,54]⟩ [0,1,2,3,4,5,6,7,8,9,10,11] Z (by decide+kernel) Z (bd ?_);refine az 7 Z ?_
   obtain⟨x55,k55,H⟩:=aV H
   refine aT tk ⟨k55.1,(bh k55.2)⟩ (bf ho1100 k55.2) ?_
   obtain⟨y9,hy9,H⟩:=bF H
   refine cg tk Z Z Z Z Z Z Z Z Z (by rw[zl];exact(zg.1 k55.2).1) (PLe.refl _ _) Z Z Z Z (by decide) (bD (fun _=>Z) k55.2 Z hy9) ?_
   obtain⟨x56,h56,H⟩:=am H
   have k56:=arrI_some h56;refine vl Z Z Z Z Z Z Z Z Z k56.1 Z ?_
   obtain⟨y10,hy10,H⟩:=bF H
   refine vu Z Z Z Z Z Z Z Z Z Z (by rw[zl];exact(zg.1 k56.2).1) (splice_map aK _ _ _ (zg.1 k56.2).1 hy10) ?_;refine aQ ?_;refine aP _ g7 (aq H) (Gh.le (ao (ao (ao (ao (ao aL))))) (aR Z (jt.of2 (jN.cons (pD.of_eq (congrArg (PV.own 1100 g7) (bt (f:=cq) hy9))) jN.nil)) (aR Z (jt.r) (aR Z (jt.r) (aR Z (jt.r) aw)))) (aD ax))
  refine al ?_;refine aP _ g_c0 (aq H) Gh.d
 refine aa (ab (ag 2 tk Z (aI tk (zl _) ?_)));refine ai tk Z (ac ?_);refine gc (γ:=OwnRef) tk 60 59 58 (fun s11 g11=>upd (upd (upd (upd (fun _=>.any) 4 (.box 1003 b_c3 0)) 3 (.box 1002 b_c2 0)) 2 (.box 1001 b_c1 0)) 1 (.box 1000 b_c0 0)) (fun s11 g11=>upd (upd (upd (upd (fun _=>none) 1003 (some ⟨b_c3,[(.fn 139 [(.box 1000 b_c0 0),(.box 1001 b_c1 0),(.box 1002 b_c2 0),(.box 1003 b_c3 0)])]⟩)) 1002 (some ⟨b_c2,(List.map aK s11.2.2)⟩)) 1001 (some ⟨b_c1,[(aK s11.2.1)]⟩)) 1000 (some ⟨b_c0,[(.own 1100 g11 (s11.1.map cq).length)]⟩)) (fun s11 g11=>upd (fun _=>none) 1100 (some ⟨g11,3,(s11.1.map cq),true⟩)) g6 H (fun fl11 Hp11 j11 s11 g11 hz11 hl11 x11 fb11 hx11 H hg11=>?_) (fun s11 g11 H=>?_)
 ·refine aa (av (aa (ab (be tk (zn j11) (bA dh hx11) ?_))));refine ai tk Z ?_;refine bm tk fun b7=>?_
  refine ay tk ?_;refine ac (ab (aJ tk ?_));refine aJ tk ?_
  obtain⟨x66,h66,H⟩:=am H
  have s66:=hrec139 b_c0 g11 b_c1 b_c2 b_c3 x11 s11.1 s11.2.1 s11.2.2 _ h66;refine bS (st':=⟨_,_,upd (upd (upd (upd (upd (fun _=>none) 1003 (some ⟨b_c3,[(.fn 139 [(.box 1000 b_c0 0),(.box 1001 b_c1 0),(.box 1002 b_c2 0),(.box 1003 b_c3 0)])]⟩)) 1002 (some ⟨b_c2,(List.map aK s11.2.2)⟩)) 1001 (some ⟨b_c1,[(aK s11.2.1)]⟩)) 1000 (some ⟨b_c0,[(.own 1100 g11 (s11.1.map cq).length)]⟩)) 7 (some ⟨b7,(gZ x11)⟩),upd (fun _=>none) 1100 (some ⟨g11,3,(s11.1.map cq),true⟩)⟩) (Gh.le (bs _ _) (aR Z (jt.r) (aR Z (jt.of2 (jN.cons (pD.own Z) jN.nil)) (aR Z (jt.r) (aR Z (jt.r) (aR Z (jt.of2 (jN.cons (pD.fn (jN.cons pD.boxT (jN.cons pD.boxT (jN.cons pD.boxT (jN.cons pD.boxT jN.nil))))) jN.nil)) aw))))) (aD ax)) ?_;refine bB (g:=139) Z Z Z call139 [(1000,1000),(1001,1001),(1002,1002),(1003,1003)] [(1100,1100)] Z Z Z Z (jt.of2 (jN.cons (pD.of_eq Z) (jN.cons pD.boxT (jN.cons pD.boxT (jN.cons pD.boxT (jN.cons pD.boxT jN.nil)))))) (by rw[cf,cf,cf,cf,bq,aW,bn];rfl) s66 ?_;rintro u66 H66h ⟨gz66_0,rfl,rfl⟩
  refine⟨_,rfl,?_⟩
  refine bS (st':=⟨_,_,upd (upd (upd (upd (upd (fun _=>none) 1003 (some ⟨b_c3,[(.fn 139 [(.box 1000 b_c0 0),(.box 1001 b_c1 0),(.box 1002 b_c2 0),(.box 1003 b_c3 0)])]⟩)) 1002 (some ⟨b_c2,(List.map aK x66.2.2)⟩)) 1001 (some ⟨b_c1,[(aK x66.2.1)]⟩)) 1000 (some ⟨b_c0,[(.own 1100 gz66_0 (x66.1.map cq).length)]⟩)) 7 (some ⟨b7,(gZ x11)⟩),upd (fun _=>none) 1100 (some ⟨gz66_0,3,(x66.1.map cq),true⟩)⟩) (Gh.le (bs _ _) (aR Z (jt.r) (aR Z (jt.of2 (jN.cons (pD.own Z) jN.nil)) (aR Z (jt.r) (aR Z (jt.r) (aR Z (jt.of2 (jN.cons (pD.fn (jN.cons pD.boxT (jN.cons pD.boxT (jN.cons pD.boxT (jN.cons pD.boxT jN.nil))))) jN.nil)) aw))))) (aD ax)) ?_;refine ac (aM (bc 2 tk Z ?_));exact bv gz66_0 H hl11 hg11
 obtain rfl:=aq H;refine bZ (st':=⟨68,fun _=>.any,upd (upd (upd (upd (fun _=>none) 1003 (some ⟨b_c3,[(.fn 139 [(.box 1000 b_c0 0),(.box 1001 b_c1 0),(.box 1002 b_c2 0),(.box 1003 b_c3 0)])]⟩)) 1002 (some ⟨b_c2,(List.map aK s11.2.2)⟩)) 1001 (some ⟨b_c1,[(aK s11.2.1)]⟩)) 1000 (some ⟨b_c0,[(.own 1100 g11 (s11.1.map cq).length)]⟩),upd (fun _=>none) 1100 (some ⟨g11,3,(s11.1.map cq),true⟩)⟩) (Gh.le aL (aR Z (jt.of2 (jN.cons (pD.own Z) jN.nil)) (aR Z (jt.r) (aR Z (jt.r) (aR Z (jt.r) aw)))) (aD ax)) ?_;refine iO Z (PLe.q Z) ⟨_,rfl,rfl⟩
def ec:Nat->LExpr->(List Int)->Bool->(List Bool)->Option ((List Int)×Bool×(List Bool))
 |0,_,_,_,_=>none
 |n+1,v0,v1,v2,v3=>iR (fun b0 b1 b2 b3=>ec n b0 b1 b2 b3) v0 v1 v2 v3
theorem pK  (n:Nat):(∀bq0 gq0 bq1 bq2 bq3 a0 a1 a2 a3 r,ec n a0 a1 a2 a3=some r->PH prog 139 [(.agg (gZ a0)),(.box 1000 bq0 0),(.box 1001 bq1 0),(.box 1002 bq2 0),(.box 1003 bq3 0)] ⟨upd (upd (upd (upd (fun _=>none) 1003 (some ⟨bq3,[(.fn 139 [(.box 1000 bq0 0),(.box 1001 bq1 0),(.box 1002 bq2 0),(.box 1003 bq3 0)])]⟩)) 1002 (some ⟨bq2,(List.map aK a3)⟩)) 1001 (some ⟨bq1,[(aK a2)]⟩)) 1000 (some ⟨bq0,[(.own 1100 gq0 (a1.map cq).length)]⟩),upd (fun _=>none) 1100 (some ⟨gq0,3,(a1.map cq),true⟩)⟩ (fun u H=>∃gz0,u=(.tup [])/\H=⟨upd (upd (upd (upd (fun _=>none) 1003 (some ⟨bq3,[(.fn 139 [(.box 1000 bq0 0),(.box 1001 bq1 0),(.box 1002 bq2 0),(.box 1003 bq3 0)])]⟩)) 1002 (some ⟨bq2,(List.map aK r.2.2)⟩)) 1001 (some ⟨bq1,[(aK r.2.1)]⟩)) 1000 (some ⟨bq0,[(.own 1100 gz0 (r.1.map cq).length)]⟩),upd (fun _=>none) 1100 (some ⟨gz0,3,(r.1.map cq),true⟩)⟩)):=by
 induction n with
 |zero=>exact(by intros;rename_i h;exact absurd (show(none:Option _)=some _ from h) (by simp))
 |succ n ih=>
  exact(fun bq0 gq0 bq1 bq2 bq3 v0 v1 v2 v3 r h=>pZ bq0 gq0 bq1 bq2 bq3 (fun b0 b1 b2 b3=>ec n b0 b1 b2 b3) ih v0 v1 v2 v3  r h)
def gS(e:LExpr)(c0:List Int)(c1:Bool)(c2:List Bool):Option ((List Int)×Bool×(List Bool)):=ia fun n=>ec n e c0 c1 c2
theorem mw(b_c0:Nat)(g_c0:OwnRef)(b_c1:Nat)(b_c2:Nat)(b_c3:Nat)(e:LExpr)(c0:List Int)(c1:Bool)(c2:List Bool)(r:(List Int)×Bool×(List Bool))(H:gS e c0 c1 c2=some r):
  PH prog 139 [(.agg (gZ e)),(.box 1000 b_c0 0),(.box 1001 b_c1 0),(.box 1002 b_c2 0),(.box 1003 b_c3 0)] ⟨upd (upd (upd (upd (fun _=>none) 1003 (some ⟨b_c3,[(.fn 139 [(.box 1000 b_c0 0),(.box 1001 b_c1 0),(.box 1002 b_c2 0),(.box 1003 b_c3 0)])]⟩)) 1002 (some ⟨b_c2,(List.map aK c2)⟩)) 1001 (some ⟨b_c1,[(aK c1)]⟩)) 1000 (some ⟨b_c0,[(.own 1100 g_c0 (c0.map cq).length)]⟩),upd (fun _=>none) 1100 (some ⟨g_c0,3,(c0.map cq),true⟩)⟩ (fun u H=>∃gz0,u=(.tup [])/\H=⟨upd (upd (upd (upd (fun _=>none) 1003 (some ⟨b_c3,[(.fn 139 [(.box 1000 b_c0 0),(.box 1001 b_c1 0),(.box 1002 b_c2 0),(.box 1003 b_c3 0)])]⟩)) 1002 (some ⟨b_c2,(List.map aK r.2.2)⟩)) 1001 (some ⟨b_c1,[(aK r.2.1)]⟩)) 1000 (some ⟨b_c0,[(.own 1100 gz0 (r.1.map cq).length)]⟩),upd (fun _=>none) 1100 (some ⟨gz0,3,(r.1.map cq),true⟩)⟩):=by
 obtain⟨n,h⟩:=jh H
 exact(pK  n) b_c0 g_c0 b_c1 b_c2 b_c3 e c0 c1 c2 r h
def kL(rec53:LQuery->Option ((List LQuery)))(q:LQuery):Option ((List LQuery)):=
 ae (aU (σ:=List LQuery) (ρ:=Empty) (fun(_:Nat) (x1:LQuery) (s1:List LQuery)=>
  ae (rec53 x1) fun x17=>
  ae (dq 160 s1 x17) fun(x18:List LQuery)=>
  some (.next x18)) 0 q.inputs [q]) fun fl1=>fl1.thenP fun(s1:List LQuery)=>
 some s1
theorem WO_query_Nodes{m:Nat}(rec53:LQuery->Option ((List LQuery)))(hrec53:∀m a0 r,rec53 a0=some r->jr prog 53 [(.agg (bg a0))] (lN m 91 (r.map dI)))(q:LQuery)(r:(List LQuery))(H:kL rec53 q=some r):
  jr prog 53 [(.agg (bg q))] (lN m 91 (r.map dI)):=by
 unfold kL at H;refine PH.au func53 ntmps53 ?_;refine aa (ab (aO ?_));refine ai tk Z (ac (aa (ab (ai tk Z ?_))));refine oA (rows':=List.map dI ([q]:List LQuery)) tk Z Z Z Z Z Z Z (congrArg (List.map List.length) (ny dd ([q]:List LQuery))).symm Z (jN.trans (b:=(List.map bg ([q]:List LQuery)).flatten) (jN.refl _) (jN.of_eq (congrArg List.flatten (ny dd ([q]:List LQuery))))) fun g7=>?_
 refine ai tk Z (ac (aa (aa (ab (ag 2 tk Z (aI tk (zl _) ?_))))));refine ai tk Z (ac ?_);refine gc (γ:=OwnRef) tk 11 10 9 (fun s1 g1=>upd (fun _=>.any) 3 (.own 7 g1 (s1.map dI).length)) nB (fun s1 g1=>upd (fun _=>none) 7 (some ⟨g1,91,(s1.map dI),true⟩)) g7 H (fun fl1 Hp1 j1 s1 g1 hz1 hl1 x1 fb1 hx1 H hg1=>?_) (fun s1 g1 H=>?_)
 ·refine aa (av (aa (ab (be tk (zn j1) (bA dd hx1) ?_))));refine ai tk Z ?_;refine bm tk fun b5=>?_
  refine ay tk ?_;refine ac (ab (ai tk Z (aJ tk ?_)))
  obtain⟨x17,h17,H⟩:=am H
  have s17:=hrec53 17 x1 _ h17;refine aj call53 (jt.r) (PFun.iw s17) ?_
  obtain⟨x18,h18,H⟩:=am H
  have k18:=cj h18;refine cv (rows2':=List.map dI x17) (rows':=List.map dI x18) tk Z Z Z Z Z Z Z Z Z Z Z Z Z (gP.refl _) (cU k18.1) (cW k18.2.1) (cV k18.2.2) fun g18=>?_
  refine ai tk Z (ac (aM (bc 2 tk Z ?_)));exact bv g18 H hl1 hg1
 refine ak 2 tk Z ?_;obtain rfl:=aq H;refine jI tk Z
def kI:Nat->LQuery->Option ((List LQuery))
 |0,_=>none
 |n+1,v0=>kL (fun b0=>kI n b0) v0
theorem WF_query_Nodes  (n:Nat):(∀m a0 r,kI n a0=some r->jr prog 53 [(.agg (bg a0))] (lN m 91 (r.map dI))):=by
 induction n with
 |zero=>exact(by intros;rename_i h;exact absurd (show(none:Option _)=some _ from h) (by simp))
 |succ n ih=>
  exact(fun m v0 r h=>WO_query_Nodes (m:=m) (fun b0=>kI n b0) ih v0  r h)
def jR(q:LQuery):Option ((List LQuery)):=ia fun n=>kI n q
theorem pC{m:Nat}(q:LQuery)(r:(List LQuery))(H:jR q=some r):
  jr prog 53 [(.agg (bg q))] (lN m 91 (r.map dI)):=by
 obtain⟨n,h⟩:=jh H
 exact(WF_query_Nodes  n) m q r h
theorem nD{m:Nat}(xs:List LCol):jr prog 104 [.list 53 (xs.map aB)] (lN m 53 (xs.map aB)):=by
 refine PH.au func104 ntmps104 ?_;refine iI tk 0 Z Z (fun hz hb=>?_);refine ak 1 tk Z (aa (aa (ab (ai tk Z ?_))));refine sd tk Z Z Z Z Z Z Z (fun b hn=>?_);refine ac ?_;refine bJ Z (fun h=>?_) (fun h=>?_)
 ·refine ak 1 tk Z (hZ tk 2 902 (e:=53) Z Z ?_);refine jI tk (hn h).symm
 ·refine al (aa (ab ?_));refine oA (rows':=[]) tk Z Z Z Z Z Z Z Z Z (jN.refl _) fun g=>?_
  refine ai tk Z ?_;refine cv (rows2':=xs.map aB) (rows':=xs.map aB) tk Z Z Z Z Z Z Z Z Z Z Z Z Z (gP.refl _) (by simpa using hb) (by simpa using hz) Z fun g'=>?_
  refine ai tk Z (ac ?_);refine jI tk Z
def ib(c:LCol)(c0:LCol):Bool:=
 (c.name==c0.name)
theorem uk(c:LCol)(c0:LCol):
  aY prog 122 [(.agg (aB c)),(.ptr (aB c0))] (aK (ib c c0)):=by
 obtain⟨r,H⟩:∃r,ib c c0=r:=⟨_,rfl⟩
 rw[H];unfold ib at H;refine PH.au func122 ntmps122 ?_;refine aa (ab (aO ?_));refine ai tk Z (ac (ak 6 tk Z ?_));exact eA tk H Z
def kK(rec123:LQuery->Option (Int))(q:LQuery):Option (Int):=
 ae (aU (σ:=Int) (ρ:=Empty) (fun(_:Nat) (x1:LQuery) (s1:Int)=>
  ae (rec123 x1) fun x15=>
  some (.next (if x15>s1 then x15 else s1))) 0 q.inputs 0) fun fl1=>fl1.thenP fun(s1:Int)=>
 some (iw (s1+(1:Int)))
theorem WO_query_depth(rec123:LQuery->Option (Int))(hrec123:∀a0 r,rec123 a0=some r->aY prog 123 [(.agg (bg a0))] (ah r))(q:LQuery)(r:Int)(H:kK rec123 q=some r):
  aY prog 123 [(.agg (bg q))] (ah r):=by
 unfold kK at H;refine PH.au func123 ntmps123 ?_;refine aa (ab (aO ?_));refine ai tk Z (ac (ak 1 tk Z (aa (aa (ab (ag 2 tk Z (aI tk (zl _) ?_)))))));refine ai tk Z (ac ?_);refine gc tk 9 8 7 (fun s1 g1=>upd (fun _=>.any) 3 (ah s1)) nB nO () H (fun fl1 Hp1 j1 s1 g1 hz1 hl1 x1 fb1 hx1 H hg1=>?_) (fun s1 g1 H=>?_)
 ·refine aa (av (aa (ab (be tk (zn j1) (bA dd hx1) ?_))));refine ai tk Z ?_;refine bm tk fun b5=>?_
  refine ay tk ?_;refine ac (ab (ai tk Z (aJ tk ?_)))
  obtain⟨x15,h15,H⟩:=am H
  have s15:=hrec123 x1 _ h15;refine aj call123 (jt.r) s15 ?_;refine ag 2 tk Z (ac (aM (bc 2 tk Z ?_)));exact bv () H hl1 hg1
 refine ak 3 tk Z ?_;exact bi tk H Z
def kH:Nat->LQuery->Option (Int)
 |0,_=>none
 |n+1,v0=>kK (fun b0=>kH n b0) v0
theorem WF_query_depth  (n:Nat):(∀a0 r,kH n a0=some r->aY prog 123 [(.agg (bg a0))] (ah r)):=by
 induction n with
 |zero=>exact(by intros;rename_i h;exact absurd (show(none:Option _)=some _ from h) (by simp))
 |succ n ih=>
  exact(fun v0 r h=>WO_query_depth (fun b0=>kH n b0) ih v0  r h)
def lV(q:LQuery):Option (Int):=ia fun n=>kH n q
theorem W_query_depth(q:LQuery)(r:Int)(H:lV q=some r):
  aY prog 123 [(.agg (bg q))] (ah r):=by
 obtain⟨n,h⟩:=jh H
 exact(WF_query_depth  n) q r h
def ls(rec138:LQuery->Option (Int×Int))(q:LQuery):Option (Int×Int):=
 ae (aU (σ:=Int×Int) (ρ:=Empty) (fun(j1:Nat) (x1:LQuery) (s1:Int×Int)=>
  ae (rec138 x1) fun x20=>
  cond ((j1:Int)==(0:Int))
   (some (.next ((if(20001:Int)<x20.1 then(20001:Int)else x20.1),(if x20.2>s1.2 then x20.2 else s1.2))))
   (cond (q.kind==(6:Int))
    (some (.next ((if(20001:Int)<(iw (s1.1+x20.1))then(20001:Int)else(iw (s1.1+x20.1))),(if x20.2>s1.2 then x20.2 else s1.2))))
    (letP (
     cond (q.kind==(4:Int))
      (true)
      ((q.kind==(5:Int)))) fun(t4:Bool)=>
    cond t4
     (some (.next ((if(20001:Int)<(iw (s1.1*(if x20.1>(1:Int)then x20.1 else(1:Int))))then(20001:Int)else(iw (s1.1*(if x20.1>(1:Int)then x20.1 else(1:Int))))),(if x20.2>s1.2 then x20.2 else s1.2))))
     (some (.next ((if(20001:Int)<s1.1 then(20001:Int)else s1.1),(if x20.2>s1.2 then x20.2 else s1.2))))))) 0 q.inputs (0,0)) fun fl1=>fl1.thenP fun(s1:Int×Int)=>
 cond (q.kind==(1:Int))
  (some (24,(if(24:Int)>s1.2 then(24:Int)else s1.2)))
  (some (s1.1,(if s1.1>s1.2 then s1.1 else s1.2)))
theorem WO_query_most(rec138:LQuery->Option (Int×Int))(hrec138:∀a0 r,rec138 a0=some r->aY prog 138 [(.agg (bg a0))] (.tup [(ah r.1),(ah r.2)]))(q:LQuery)(r:Int×Int)(H:ls rec138 q=some r):
  aY prog 138 [(.agg (bg q))] (.tup [(ah r.1),(ah r.2)]):=by
 unfold ls at H;refine PH.au func138 ntmps138 ?_;refine aa (ab (aO ?_));refine ag 2 tk Z (ac (ak 2 tk Z (aa (aa (ab (ag 2 tk Z (aI tk (zl _) ?_)))))));refine ai tk Z (ac ?_);refine gc tk 13 12 11 (fun s1 g1=>upd (upd (upd (fun _=>.any) 5 (ah s1.2)) 4 (ah s1.1)) 1 (.ptr (bg q))) nB nO () H (fun fl1 Hp1 j1 s1 g1 hz1 hl1 x1 fb1 hx1 H hg1=>?_) (fun s1 g1 H=>?_)
 ·refine aa (av (aa (ab (ai tk Z (be tk (zn j1) (bA dd hx1) ?_)))));refine ai tk Z ?_;refine bm tk fun b7=>?_
  refine ai tk Z (ay tk ?_);refine ac (aa (ab (aJ tk ?_)))
  obtain⟨x20,h20,H⟩:=am H
  have s20:=hrec138 x1 _ h20;refine aj call138 (jt.r) s20 ?_;refine ag 5 tk Z (ac (ak 4 tk Z (aa (av (ak 3 tk Z ?_)))));refine aF Z H (fun H=>?_) (fun H=>?_)
  ·refine bc 2 tk Z (aM (bc 3 tk Z (aM (bc 2 tk Z ?_))));exact bv () H hl1 hg1
  refine ak 4 tk Z ?_;refine aF Z H (fun H=>?_) (fun H=>?_)
  ·refine bc 4 tk Z (aM (bc 3 tk Z (aM (bc 2 tk Z ?_))));exact bv () H hl1 hg1
  refine aa ?_;refine ed (γ:=Unit) (fun t4 g4=>⟨60,upd (upd (upd (upd (upd (upd (upd (upd (fun _=>.any) 37 (aK t4)) 13 (ah (j1:Int))) 12 (ah (q.inputs.length:Int))) 11 (.list 91 (q.inputs.map dI))) 8 (ah x20.1)) 5 (ah (if x20.2>s1.2 then x20.2 else s1.2))) 4 (ah s1.1)) 1 (.ptr (bg q)),fun _=>none,fun _=>none⟩) H (fun _ H=>?_) (fun t4 g4 H=>?_)
  ·refine ab (ag 4 tk Z ?_);refine bu Z Z Z H (fun H=>?_) (fun H=>?_)
   ·refine ag 5 tk Z (ac ?_);refine aP _ () H Gh.d
   refine ag 5 tk Z (ac ?_);refine aP _ () H Gh.d
  refine aF Z H (fun H=>?_) (fun H=>?_)
  ·refine bc 5 tk Z (aM (bc 3 tk Z (aM (bc 2 tk Z ?_))));exact bv () H hl1 hg1
  refine al (aM (bc 3 tk Z (aM (bc 2 tk Z ?_))));exact bv () H hl1 hg1
 refine aa (ak 3 tk Z ?_);refine aF Z H (fun H=>?_) (fun H=>?_)
 ·refine bc 1 tk Z (ak 6 tk Z ?_);exact bi tk H Z
 refine al (ak 6 tk Z ?_);exact bi tk H Z
def lD:Nat->LQuery->Option (Int×Int)
 |0,_=>none
 |n+1,v0=>ls (fun b0=>lD n b0) v0
theorem WF_query_most  (n:Nat):(∀a0 r,lD n a0=some r->aY prog 138 [(.agg (bg a0))] (.tup [(ah r.1),(ah r.2)])):=by
 induction n with
 |zero=>exact(by intros;rename_i h;exact absurd (show(none:Option _)=some _ from h) (by simp))
 |succ n ih=>
  exact(fun v0 r h=>WO_query_most (fun b0=>lD n b0) ih v0  r h)
def nX(q:LQuery):Option (Int×Int):=ia fun n=>lD n q
theorem W_query_most(q:LQuery)(r:Int×Int)(H:nX q=some r):
  aY prog 138 [(.agg (bg q))] (.tup [(ah r.1),(ah r.2)]):=by
 obtain⟨n,h⟩:=jh H
 exact(WF_query_most  n) q r h
def fF(t:LTable)(c0:LQuery):Bool:=
 (t.name==c0.table)
theorem ru(t:LTable)(c0:LQuery):
  aY prog 167 [(.agg (bM t)),(.ptr (bg c0))] (aK (fF t c0)):=by
 obtain⟨r,H⟩:∃r,fF t c0=r:=⟨_,rfl⟩
 rw[H];unfold fF at H;refine PH.au func167 ntmps167 ?_;refine aa (ab (aO ?_));refine ai tk Z (ac (ak 6 tk Z ?_));exact eA tk H Z
def cI(sA:List LTable)(f:LTable->Option (Bool)):Option (Int):=
 ae (aU (σ:=Unit) (ρ:=(Int)) (fun(j1:Nat) (x1:LTable) (_:Unit)=>
  ae (f x1) fun x16=>
  cond x16
   (some (.ret (j1:Int)))
   (some (.next ()))) 0 sA ()) fun fl1=>fl1.thenR fun(_:Unit)=>
 some (-1)
theorem eM{g_f:FuncId}{caps_f:List PV}(sA:List LTable)(f:LTable->Option (Bool))(hg_f:∀(vs:Array Value) (w:World),(callFunc g_f vs).run prog w= .ok (.enter g_f vs) w)(hp_f:∀a0 r,f a0=some r->aY prog g_f ((.agg (bM a0))::caps_f) (aK r))(r:Int)(H:cI sA f=some r):
  aY prog 47 [(.list 56 (sA.map bM)),(.fn g_f caps_f)] (ah r):=by
 unfold cI at H;refine PH.au func47 ntmps47 ?_;refine ak 1 tk Z (aa (aa (ab (ai tk Z (aI tk (zl _) ?_)))));refine ai tk Z (ac ?_);refine ff tk 8 7 0 (fun s1 g1=>upd (fun _=>.any) 1 (.fn g_f caps_f)) nB nO () H (fun fl1 Hp1 j1 s1 g1 hz1 hl1 x1 fb1 hx1 H hg1=>?_) (fun s1 g1 H=>?_)
 ·refine aa (av (ak 2 tk Z (aa (ab (ag 3 tk Z ?_)))));refine be tk (zn j1) (bA (fun _=>Z) hx1) ?_;refine ai tk Z ?_
  obtain⟨x16,h16,H⟩:=am H
  refine aj hg_f (jt.r) (hp_f _ _ h16) ?_;refine ac ?_;refine aF Z H (fun H=>?_) (fun H=>?_)
  ·refine ak 2 tk Z ?_;obtain rfl:=aq H;have e1:fl1= .ret _:=hg1;subst e1;obtain rfl:=aZ Hp1;refine bl tk Z (ps:=[(ah (j1:Int))]) ⟨_,_,rfl,rfl,rfl⟩ (PLe.q Z)
  refine al (aM (bc 2 tk Z ?_));exact bv () H hl1 hg1
 refine ak 1 tk Z ?_;exact bi tk H Z
def dk(y:LCol)(c0:LCol):Bool:=
 (y.name==c0.name)
theorem pN(y:LCol)(c0:LCol):
  aY prog 143 [(.agg (aB y)),(.ptr (aB c0))] (aK (dk y c0)):=by
 obtain⟨r,H⟩:∃r,dk y c0=r:=⟨_,rfl⟩
 rw[H];unfold dk at H;refine PH.au func143 ntmps143 ?_;refine aa (ab (aO ?_));refine ai tk Z (ac (ak 6 tk Z ?_));exact eA tk H Z
def eW(t:LTable)(c0:Rb):Bool:=
 (t.name==c0)
theorem ph(t:LTable)(c0:Rb):
  aY prog 144 [(.agg (bM t)),(.ptr [(.str c0)])] (aK (eW t c0)):=by
 obtain⟨r,H⟩:∃r,eW t c0=r:=⟨_,rfl⟩
 rw[H];unfold eW at H;refine PH.au func144 ntmps144 ?_;refine aa (ab (aO ?_));refine ai tk Z (ac (ak 5 tk Z ?_));exact eA tk H Z
def eX(y:LCol)(c0:LProcedureStatement)(c1:Int):Option (Bool):=
 ae (aG c0.names c1) fun(x10:Rb)=>
 some (y.name==x10)
theorem pq(y:LCol)(c0:LProcedureStatement)(c1:Int)(r:Bool)(H:eX y c0 c1=some r):
  aY prog 128 [(.agg (aB y)),(.ptr (aE c0)),(.ptr [(ah c1)])] (aK r):=by
 unfold eX at H;refine PH.au func128 ntmps128 ?_;refine aa (ab (aO ?_));refine ai tk Z (ac (aa (aX tk mok ⟨false,false,[]⟩ [0,1,2,3,4,5,6,7,8] Z (by decide+kernel) Z (az 5 Z ?_))))
 obtain⟨x10,k10,H⟩:=aV H
 refine bE k10.1 (aC (fun _=>Z) k10.2) ?_;refine az 3 Z (aQ ?_);exact bi tk H Z
def dS(v:LVal):Int:=
 cond (v.kind==(0:Int))
  (cond (v.int !=(0:Int))
   (3)
   (cond (!(v.text==([]:Rb)))
    (3)
    (0)))
  (letP (
   cond (v.kind==(1:Int))
    ((v.kind==(1:Int)))
    ((v.kind==(2:Int)))) fun(t1:Bool)=>
  cond t1
   (cond (!(v.text==([]:Rb)))
    (3)
    (cond (v.kind==(2:Int))
     (cond (v.int !=(0:Int))
      (cond (v.int !=(1:Int))
       (1)
       (cond (decide (v.int<(-1000000000000)))
        (1)
        (cond (decide (v.int>(1000000000000:Int)))
         (1)
         (0))))
      (cond (decide (v.int<(-1000000000000)))
       (1)
       (cond (decide (v.int>(1000000000000:Int)))
        (1)
        (0))))
     (cond (decide (v.int<(-1000000000000)))
      (1)
      (cond (decide (v.int>(1000000000000:Int)))
       (1)
       (0)))))
   (cond (v.kind==(3:Int))
    (cond (v.int !=(0:Int))
     (3)
     (cond (decide ((v.text.length:Int)>(24:Int)))
      (2)
      (0)))
    (7)))
theorem nw(v:LVal):
  aY prog 61 [(.agg (af v))] (ah (dS v)):=by
 obtain⟨r,H⟩:∃r,dS v=r:=⟨_,rfl⟩
 rw[H];unfold dS at H;refine PH.au func61 ntmps61 ?_;refine aa (ab (aO ?_));refine ai tk Z (ac (aa (ak 2 tk Z (av (ak 2 tk Z ?_)))));refine aF Z H (fun H=>?_) (fun H=>?_)
 ·refine aa (ab (ag 4 tk Z ?_));refine bu Z Z Z H (fun H=>?_) (fun H=>?_)
  ·refine ag 4 tk Z (ac (ct Z (ak 1 tk Z ?_)));exact eA tk H Z
  refine ag 4 tk Z (ac ?_);refine aF Z H (fun H=>?_) (fun H=>?_)
  ·refine ak 1 tk Z ?_;exact eA tk H Z
  refine al (aM (ak 1 tk Z ?_));exact eA tk H Z
 refine aa (ak 2 tk Z ?_);refine ed (γ:=Unit) (fun t1 g1=>⟨53,upd (upd (upd (fun _=>.any) 15 (aK t1)) 4 (ah v.kind)) 1 (.ptr (af v)),fun _=>none,fun _=>none⟩) H (fun _ H=>?_) (fun t1 g1 H=>?_)
 ·refine aF Z H (fun H=>?_) (fun H=>?_)
  ·refine al ?_;refine aP _ () H Gh.d
  refine bc 2 tk Z ?_;refine aP _ () H Gh.d
 refine aF Z H (fun H=>?_) (fun H=>?_)
 ·refine aa (ak 3 tk Z ?_);refine aF Z H (fun H=>?_) (fun H=>?_)
  ·refine ak 1 tk Z ?_;exact eA tk H Z
  refine al (aa (ab (ag 4 tk Z ?_)));refine bu Z Z Z H (fun H=>?_) (fun H=>?_)
  ·refine ag 5 tk Z ?_;refine bu Z Z Z H (fun H=>?_) (fun H=>?_)
   ·refine ag 5 tk Z ?_;refine bu Z Z Z H (fun H=>?_) (fun H=>?_)
    ·refine ag 9 tk Z (ac (ct Z (ak 1 tk Z ?_)));exact eA tk H Z
    refine ag 5 tk Z ?_;refine bu Z Z Z H (fun H=>?_) (fun H=>?_)
    ·refine ag 4 tk Z (ac (ct Z (ak 1 tk Z ?_)));exact eA tk H Z
    refine ag 4 tk Z (ac ?_);refine aF Z H (fun H=>?_) (fun H=>?_)
    ·refine ak 1 tk Z ?_;exact eA tk H Z
    refine al (aM (ak 1 tk Z ?_));exact eA tk H Z
   refine ag 10 tk Z ?_;refine bu Z Z Z H (fun H=>?_) (fun H=>?_)
   ·refine ag 4 tk Z (ac (ct Z (ak 1 tk Z ?_)));exact eA tk H Z
   refine ag 4 tk Z (ac ?_);refine aF Z H (fun H=>?_) (fun H=>?_)
   ·refine ak 1 tk Z ?_;exact eA tk H Z
   refine al (aM (ak 1 tk Z ?_));exact eA tk H Z
  refine ag 15 tk Z ?_;refine bu Z Z Z H (fun H=>?_) (fun H=>?_)
  ·refine ag 4 tk Z (ac (ct Z (ak 1 tk Z ?_)));exact eA tk H Z
  refine ag 4 tk Z (ac ?_);refine aF Z H (fun H=>?_) (fun H=>?_)
  ·refine ak 1 tk Z ?_;exact eA tk H Z
  refine al (aM (ak 1 tk Z ?_));exact eA tk H Z
 refine ak 2 tk Z ?_;refine aF Z H (fun H=>?_) (fun H=>?_)
 ·refine aa (ak 3 tk Z ?_);refine aF Z H (fun H=>?_) (fun H=>?_)
  ·refine ak 1 tk Z ?_;exact eA tk H Z
  refine al (ak 4 tk Z ?_);refine aF Z H (fun H=>?_) (fun H=>?_)
  ·refine ak 1 tk Z ?_;exact eA tk H Z
  refine al (aM (ak 1 tk Z ?_));exact eA tk H Z
 refine ak 1 tk Z ?_;exact eA tk H Z
def dA(t:LTable)(row:Rq):Option (Rq):=
 ae (aU (σ:=Rq) (ρ:=Empty) (fun(_:Nat) (x1:Int) (s1:Rq)=>
  letP (
   cond (decide (x1>=(0:Int)))
    ((decide (x1<(row.length:Int))))
    (false)) fun(t6:Bool)=>
  ae (
   cond t6
    (ae (aG row x1) fun(x27:LVal)=>
    some x27)
    (some (LVal.mk 0 0 []))) fun(t7:LVal)=>
  ae (dq 32 s1 ([t7]:Rq)) fun(x32:Rq)=>
  some (.next x32)) 0 t.primaryKey []) fun fl1=>fl1.thenP fun(s1:Rq)=>
 some s1
theorem mP(t:LTable)(row:Rq)(r:Rq)(H:dA t row=some r):
  aY prog 41 [(.agg (bM t)),(.list 58 (row.map af))] (.list 58 (r.map af)):=by
 unfold dA at H;refine PH.au func41 ntmps41 ?_;refine aa (ab (aO ?_));refine ai tk Z (ac (ak 1 tk Z (aa (aa (ab (ag 2 tk Z (aI tk (zl _) ?_)))))));refine ai tk Z (ac (hZ tk 5 32 (e:=58) Z Z ?_));refine gc (γ:=OwnRef) tk 12 11 10 (fun s1 g1=>upd (upd (fun _=>.any) 5 (.own 32 g1 (s1.map af).length)) 1 (.list 58 (row.map af))) nB (fun s1 g1=>upd (fun _=>none) 32 (some ⟨g1,58,(s1.map af),true⟩)) (⟨none,0⟩) H (fun fl1 Hp1 j1 s1 g1 hz1 hl1 x1 fb1 hx1 H hg1=>?_) (fun s1 g1 H=>?_)
 ·refine aa (av (aa (ab ?_)));refine be tk (zn j1) (bA (fun _=>Z) hx1) ?_;refine ag 2 tk Z (ac (aa (ab (ai tk Z ?_))));refine bm tk fun b8=>?_
  refine ay tk ?_;refine ac (aa (aa ?_));refine ed (γ:=Unit) (fun t6 g6=>⟨35,upd (upd (upd (upd (upd (upd (upd (upd (fun _=>.any) 24 (aK t6)) 12 (ah (j1:Int))) 11 (ah (t.primaryKey.length:Int))) 10 (.list 3 (t.primaryKey.map cq))) 8 (.box 8 b8 0)) 7 (ah x1)) 5 (.own 32 g1 (s1.map af).length)) 1 (.list 58 (row.map af)),upd (fun _=>none) 8 (some ⟨b8,[(ah 0),(ah 0),(.str [])]⟩),upd (fun _=>none) 32 (some ⟨g1,58,(s1.map af),true⟩)⟩) H (fun _ H=>?_) (fun t6 g6 H=>?_)
  ·refine ab (ag 3 tk Z ?_);refine bu Z Z Z H (fun H=>?_) (fun H=>?_)
   ·refine ag 2 tk Z (aI tk (zl _) ?_);refine ag 2 tk Z (ac ?_);refine aP _ () H Gh.d
   refine ag 5 tk Z (ac ?_);refine aP _ () H Gh.d
  refine ee (γ:=Unit) (fun t7 g7=>⟨35,upd (upd (upd (upd (upd (upd (fun _=>.any) 12 (ah (j1:Int))) 11 (ah (t.primaryKey.length:Int))) 10 (.list 3 (t.primaryKey.map cq))) 8 (.box 8 b8 0)) 5 (.own 32 g1 (s1.map af).length)) 1 (.list 58 (row.map af)),upd (fun _=>none) 8 (some ⟨b8,(af t7)⟩),upd (fun _=>none) 32 (some ⟨g1,58,(s1.map af),true⟩)⟩) H (fun _ H=>?_) (fun t7 g7 H=>?_)
  ·refine aF Z H (fun H=>?_) (fun H=>?_)
   ·refine ab (ag 2 tk Z ?_)
    obtain⟨x27,k27,H⟩:=aV H
    refine be tk k27.1 (aC (fun _=>Z) k27.2) ?_;refine ai tk Z (ay tk ?_);refine ac ?_;refine aP _ () (aq H) Gh.d
   refine al ?_;refine aP _ () (aq H) Gh.d
  refine ab (ai tk Z (aJ tk ?_));refine cy tk (rows':=List.map af ([t7]:Rq)) (gP.refl _) ?_
  obtain⟨x32,h32,H⟩:=am H
  have k32:=cj h32;refine cv (rows2':=List.map af ([t7]:Rq)) (rows':=List.map af x32) tk Z Z Z Z Z Z Z Z Z Z Z Z Z (gP.refl _) (cU k32.1) (cW k32.2.1) (cV k32.2.2) fun g32=>?_
  refine ai tk Z (ac (aM (bc 2 tk Z ?_)));exact bv g32 H hl1 hg1
 refine ak 2 tk Z (cT 4 Z Z Z ?_);exact bi tk H Z
def iu(a:Int)(b:Int):Int:=
 cond (decide (a<b))
  ((-1))
  (cond (decide (a>b))
   (1)
   (0))
theorem me(a:Int)(b:Int):
  aY prog 64 [(ah a),(ah b)] (ah (iu a b)):=by
 obtain⟨r,H⟩:∃r,iu a b=r:=⟨_,rfl⟩
 rw[H];unfold iu at H;refine PH.au func64 ntmps64 ?_;refine ak 1 tk Z (aa (av (ak 4 tk Z ?_)));refine aF Z H (fun H=>?_) (fun H=>?_)
 ·refine ak 1 tk Z ?_;exact eA tk H Z
 refine ak 4 tk Z ?_;refine aF Z H (fun H=>?_) (fun H=>?_)
 ·refine ak 1 tk Z ?_;exact eA tk H Z
 refine al (aM (ak 1 tk Z ?_));exact eA tk H Z
def fV(a:Rb)(b:Rb):Int:=
 (Lib.compareBytes a b)
theorem nu(a:Rb)(b:Rb):
  aY prog 118 [(.str a),(.str b)] (ah (fV a b)):=by
 obtain⟨r,H⟩:∃r,fV a b=r:=⟨_,rfl⟩
 rw[H];unfold fV at H;refine PH.au func118 ntmps118 ?_;refine ak 1 tk Z (aa (ab (ag 2 tk Z ?_)));refine Ao.cmpS (g:=137) Z Z Z func137 (by kernel_rfl) (by kernel_rfl) (by kernel_rfl) (by kernel_rfl) Z Z Z ?_;refine ai tk Z (ac ?_);exact eA tk H Z
theorem clone_20{m:Nat}(xs:Rq):jr prog 20 [.list 58 (xs.map af)] (lN m 58 (xs.map af)):=by
 refine PH.au func20 ntmps20 ?_;refine iI tk 0 Z Z (fun hz hb=>?_);refine ak 1 tk Z (aa (aa (ab (ai tk Z ?_))));refine sd tk Z Z Z Z Z Z Z (fun b hn=>?_);refine ac ?_;refine bJ Z (fun h=>?_) (fun h=>?_)
 ·refine ak 1 tk Z (hZ tk 2 902 (e:=58) Z Z ?_);refine jI tk (hn h).symm
 ·refine al (aa (ab ?_));refine oA (rows':=[]) tk Z Z Z Z Z Z Z Z Z (jN.refl _) fun g=>?_
  refine ai tk Z ?_;refine cv (rows2':=xs.map af) (rows':=xs.map af) tk Z Z Z Z Z Z Z Z Z Z Z Z Z (gP.refl _) (by simpa using hb) (by simpa using hz) Z fun g'=>?_
  refine ai tk Z (ac ?_);refine jI tk Z
def jk(sA:Rq)(f:LVal->Option (Bool)):Option (Int):=
 ae (aU (σ:=Unit) (ρ:=(Int)) (fun(j1:Nat) (x1:LVal) (_:Unit)=>
  ae (f x1) fun x16=>
  cond x16
   (some (.ret (j1:Int)))
   (some (.next ()))) 0 sA ()) fun fl1=>fl1.thenR fun(_:Unit)=>
 some (-1)
theorem sM{g_f:FuncId}{caps_f:List PV}(sA:Rq)(f:LVal->Option (Bool))(hg_f:∀(vs:Array Value) (w:World),(callFunc g_f vs).run prog w= .ok (.enter g_f vs) w)(hp_f:∀a0 r,f a0=some r->aY prog g_f ((.agg (af a0))::caps_f) (aK r))(r:Int)(H:jk sA f=some r):
  aY prog 173 [(.list 58 (sA.map af)),(.fn g_f caps_f)] (ah r):=by
 unfold jk at H;refine PH.au func173 ntmps173 ?_;refine ak 1 tk Z (aa (aa (ab (ai tk Z (aI tk (zl _) ?_)))));refine ai tk Z (ac ?_);refine ff tk 8 7 0 (fun s1 g1=>upd (fun _=>.any) 1 (.fn g_f caps_f)) nB nO () H (fun fl1 Hp1 j1 s1 g1 hz1 hl1 x1 fb1 hx1 H hg1=>?_) (fun s1 g1 H=>?_)
 ·refine aa (av (ak 2 tk Z (aa (ab (ag 3 tk Z ?_)))));refine be tk (zn j1) (bA (fun _=>Z) hx1) ?_;refine ai tk Z ?_
  obtain⟨x16,h16,H⟩:=am H
  refine aj hg_f (jt.r) (hp_f _ _ h16) ?_;refine ac ?_;refine aF Z H (fun H=>?_) (fun H=>?_)
  ·refine ak 2 tk Z ?_;obtain rfl:=aq H;have e1:fl1= .ret _:=hg1;subst e1;obtain rfl:=aZ Hp1;refine bl tk Z (ps:=[(ah (j1:Int))]) ⟨_,_,rfl,rfl,rfl⟩ (PLe.q Z)
  refine al (aM (bc 2 tk Z ?_));exact bv () H hl1 hg1
 refine ak 1 tk Z ?_;exact bi tk H Z
def kd(n:Int):LVal:=
 cond (decide (n<(-1000000000000)))
  ((LVal.mk 0 0 []))
  (cond (decide (n>(1000000000000:Int)))
   ((LVal.mk 0 0 []))
   ((LVal.mk 1 n [])))
theorem sf(n:Int):
  aY prog 177 [(ah n)] (.agg (af (kd n))):=by
 obtain⟨r,H⟩:∃r,kd n=r:=⟨_,rfl⟩
 rw[H];unfold kd at H;refine PH.au func177 ntmps177 ?_;refine aa (ab ?_);refine bm tk fun b2=>?_
 refine ac (aa (aa (ab (ag 3 tk Z ?_))));refine bu Z Z Z H (fun H=>?_) (fun H=>?_)
 ·refine ag 3 tk Z (ac (ct Z (aa (ab (ai tk Z (ay tk ?_))))));refine ac ?_;exact tX tk H Z Z Z Z Z
 refine ag 3 tk Z (ac ?_);refine aF Z H (fun H=>?_) (fun H=>?_)
 ·refine aa (ab (ai tk Z (ay tk ?_)));refine ac ?_;exact tX tk H Z Z Z Z Z
 refine al (aa (ab (ag 2 tk Z (ay tk ?_))));refine ac ?_;exact tX tk H Z Z Z Z Z
def fG(x:LCol)(c0:LCol):Bool:=
 (x.name==c0.name)
theorem rx(x:LCol)(c0:LCol):
  aY prog 103 [(.agg (aB x)),(.ptr (aB c0))] (aK (fG x c0)):=by
 obtain⟨r,H⟩:∃r,fG x c0=r:=⟨_,rfl⟩
 rw[H];unfold fG at H;refine PH.au func103 ntmps103 ?_;refine aa (ab (aO ?_));refine ai tk Z (ac (ak 6 tk Z ?_));exact eA tk H Z
theorem W_delete_105(g_s:OwnRef)(xs:List LCol)(i j:Int)(r:List LCol)(h:nN xs i j=some r):PH prog 105 [(.own 0 g_s (xs.map aB).length),(ah i),(ah j)] ⟨fun _=>none,upd (fun _=>none) 0 (some ⟨g_s,53,(xs.map aB),true⟩)⟩ (fun u H=>u= .own 0 g_s (r.map aB).length/\H=⟨fun _=>none,upd (fun _=>none) 0 (some ⟨g_s,53,(r.map aB),true⟩)⟩):=by
 obtain⟨hi,hij,hj,hr⟩:=tu h
 have hjl:j.toNat<=(xs.map aB).length:=by rw[zl];exact hj
 have hij':i.toNat<=j.toNat:=by omega
 have ei:i=(i.toNat:Int):=by omega
 have ej:j=(j.toNat:Int):=by omega
 refine PH.au func105 ntmps105 ?_;refine qd (tag:=0) Z (fun hc=>?_);refine ak 1 tk Z (aa (ab (ag 4 tk Z (eg tk (m:=(xs.map aB).length) Z ?_))));refine iJ (l:=i.toNat) (h:=j.toNat) (m:=(xs.map aB).length) tk Z Z Z Z Z Z ⟨_,_,rfl,ei⟩ ⟨_,_,rfl,ej⟩ ⟨_,_,rfl,rfl⟩ (by decide) hij' hjl hc Z (ac (aa (ak 3 tk Z ?_)));refine bJ Z (fun h=>?_) (fun h=>?_)
 ·have he:i=j:=by simpa using h
  have hx:r=xs:=by rw[hr,he,List.take_append_drop]
  subst hx;refine ak 2 tk Z ?_;refine bZ (st':=⟨33,upd (fun _=>.any) 6 (.own 0 g_s (r.map aB).length),fun _=>none,upd (fun _=>none) 0 (some ⟨g_s,53,r.map aB,true⟩)⟩) (Gh.le (ao aL) aw (aD ax)) ?_;refine cl tk Z (ps:=[.own 0 g_s (r.map aB).length]) ⟨_,_,rfl,rfl,rfl⟩ (PLe.q Z) ⟨rfl,rfl⟩
 ·refine al (aa (ab (ai tk Z (eg tk (m:=(xs.map aB).length) Z ?_))));refine ai tk Z (ac (aa (aX tk mok ⟨false,false,[]⟩ [0,1,2,3,4,5,6,7] Z (by decide+kernel) Z (az 2 Z (lp (l:=0) (h:=i.toNat) (m:=g_s.cap) tk Z Z Z Z Z Z Z Z ⟨_,_,rfl,ei⟩ Z (by decide) (Nat.zero_le _) (by omega) (Nat.le_refl _) Z (az 2 Z (lp (l:=j.toNat) (h:=(xs.map aB).length) (m:=g_s.cap) tk Z Z Z Z Z Z Z ⟨_,_,rfl,ej⟩ Z Z (by decide) hjl hc (Nat.le_refl _) Z (rd (rows':=r.map aB) (tag:=0) (p:=i.toNat) (q:=j.toNat) tk Z Z Z Z Z Z Z hij' hjl Z Z (by rw[hr,List.map_append,List.map_take,List.map_drop]) Z (bw Z (aQ ?_))))))))));have hrl:(r.map aB).length<=(xs.map aB).length:=by rw[hr];simp;omega
  refine aa (ab (ag 2 tk Z (eg tk (m:=(r.map aB).length) Z ?_)));refine ai tk Z (iJ (l:=(r.map aB).length) (h:=(xs.map aB).length) (m:=g_s.cap) tk Z Z Z Z Z Z ⟨_,_,rfl,rfl⟩ ⟨_,_,rfl,rfl⟩ Z (by decide) hrl hc (Nat.le_refl _) Z (nE (tag:=0) (rows:=List.map aB r) tk Z Z Z Z Z Z Z Z Z (p:=(r.map aB).length) (q:=(xs.map aB).length) (m:=g_s.cap) (Nat.le_refl _) hrl hc (Nat.le_refl _) Z (ac (ak 2 tk Z ?_))));refine bZ (st':=⟨33,upd (fun _=>.any) 6 (.own 0 g_s (r.map aB).length),fun _=>none,upd (fun _=>none) 0 (some ⟨g_s,53,r.map aB,true⟩)⟩) (Gh.le (ao aL) aw (aD ax)) ?_;refine cl tk Z (ps:=[.own 0 g_s (r.map aB).length]) ⟨_,_,rfl,rfl,rfl⟩ (PLe.q Z) ⟨rfl,rfl⟩
theorem W_delete_106(g_s:OwnRef)(xs:Rq)(i j:Int)(r:Rq)(h:nN xs i j=some r):PH prog 106 [(.own 0 g_s (xs.map af).length),(ah i),(ah j)] ⟨fun _=>none,upd (fun _=>none) 0 (some ⟨g_s,58,(xs.map af),true⟩)⟩ (fun u H=>u= .own 0 g_s (r.map af).length/\H=⟨fun _=>none,upd (fun _=>none) 0 (some ⟨g_s,58,(r.map af),true⟩)⟩):=by
 obtain⟨hi,hij,hj,hr⟩:=tu h
 have hjl:j.toNat<=(xs.map af).length:=by rw[zl];exact hj
 have hij':i.toNat<=j.toNat:=by omega
 have ei:i=(i.toNat:Int):=by omega
 have ej:j=(j.toNat:Int):=by omega
 refine PH.au func106 ntmps106 ?_;refine qd (tag:=0) Z (fun hc=>?_);refine ak 1 tk Z (aa (ab (ag 4 tk Z (eg tk (m:=(xs.map af).length) Z ?_))));refine iJ (l:=i.toNat) (h:=j.toNat) (m:=(xs.map af).length) tk Z Z Z Z Z Z ⟨_,_,rfl,ei⟩ ⟨_,_,rfl,ej⟩ ⟨_,_,rfl,rfl⟩ (by decide) hij' hjl hc Z (ac (aa (ak 3 tk Z ?_)));refine bJ Z (fun h=>?_) (fun h=>?_)
 ·have he:i=j:=by simpa using h
  have hx:r=xs:=by rw[hr,he,List.take_append_drop]
  subst hx;refine ak 2 tk Z ?_;refine bZ (st':=⟨33,upd (fun _=>.any) 6 (.own 0 g_s (r.map af).length),fun _=>none,upd (fun _=>none) 0 (some ⟨g_s,58,r.map af,true⟩)⟩) (Gh.le (ao aL) aw (aD ax)) ?_;refine cl tk Z (ps:=[.own 0 g_s (r.map af).length]) ⟨_,_,rfl,rfl,rfl⟩ (PLe.q Z) ⟨rfl,rfl⟩
 ·refine al (aa (ab (ai tk Z (eg tk (m:=(xs.map af).length) Z ?_))));refine ai tk Z (ac (aa (aX tk mok ⟨false,false,[]⟩ [0,1,2,3,4,5,6,7] Z (by decide+kernel) Z (az 2 Z (lp (l:=0) (h:=i.toNat) (m:=g_s.cap) tk Z Z Z Z Z Z Z Z ⟨_,_,rfl,ei⟩ Z (by decide) (Nat.zero_le _) (by omega) (Nat.le_refl _) Z (az 2 Z (lp (l:=j.toNat) (h:=(xs.map af).length) (m:=g_s.cap) tk Z Z Z Z Z Z Z ⟨_,_,rfl,ej⟩ Z Z (by decide) hjl hc (Nat.le_refl _) Z (rd (rows':=r.map af) (tag:=0) (p:=i.toNat) (q:=j.toNat) tk Z Z Z Z Z Z Z hij' hjl Z Z (by rw[hr,List.map_append,List.map_take,List.map_drop]) Z (bw Z (aQ ?_))))))))));have hrl:(r.map af).length<=(xs.map af).length:=by rw[hr];simp;omega
  refine aa (ab (ag 2 tk Z (eg tk (m:=(r.map af).length) Z ?_)));refine ai tk Z (iJ (l:=(r.map af).length) (h:=(xs.map af).length) (m:=g_s.cap) tk Z Z Z Z Z Z ⟨_,_,rfl,rfl⟩ ⟨_,_,rfl,rfl⟩ Z (by decide) hrl hc (Nat.le_refl _) Z (nE (tag:=0) (rows:=List.map af r) tk Z Z Z Z Z Z Z Z Z (p:=(r.map af).length) (q:=(xs.map af).length) (m:=g_s.cap) (Nat.le_refl _) hrl hc (Nat.le_refl _) Z (ac (ak 2 tk Z ?_))));refine bZ (st':=⟨33,upd (fun _=>.any) 6 (.own 0 g_s (r.map af).length),fun _=>none,upd (fun _=>none) 0 (some ⟨g_s,58,r.map af,true⟩)⟩) (Gh.le (ao aL) aw (aD ax)) ?_;refine cl tk Z (ps:=[.own 0 g_s (r.map af).length]) ⟨_,_,rfl,rfl,rfl⟩ (PLe.q Z) ⟨rfl,rfl⟩
theorem grow_188{m:Nat}{u:Unit}(n:Int)(h:qE 32 n=some u):jr prog 188 [.val (.slice none 0 0),ah n] (lN m 58 []):=by
 have hn:=growI_some h
 have hw:iw (n-iw ((0:Int)-0))=n:=by
  have e0:iw ((0:Int)-0)=0:=wW (by omega) (by omega);rw[e0,Int.sub_zero,wW (by omega) (by unfold maxLen at hn;omega)]
 refine PH.au func188 ntmps188 ?_;refine ak 1 tk Z (aa (ak 2 tk Z ?_));refine bJ Z (fun h=>?_) (fun h=>?_)
 ·exfalso;have:=of_decide_eq_true h;omega
 refine al (aa (aa (ab (ag 2 tk Z (vk tk Z Z Z Z Z Z (ag 4 tk Z (je 14 (q:=ah n) Z (PLe.q (congrArg ah hw)) (ai tk Z (ac (ak 2 tk Z ?_))))))))));refine bJ Z (fun h=>?_) (fun h=>?_)
 ·refine ab (ag 2 tk Z (vk tk Z Z Z Z Z Z (Ao.subN tk Z Z Z Z Z Z Z Z (ai tk Z ?_))));refine uT tk Z Z Z Z Z Z Z Z Z Z Z Z Z Z Z (of_decide_eq_true h) hn.2.1 hn.2.2 fun g=>?_
  refine ag 2 tk Z (Ao.cutO tk Z Z Z Z Z Z Z Z Z ⟨Int.le_refl 0,Nat.zero_le _⟩ Z Z Z (ai tk Z (ac (ak 2 tk Z ?_))));refine jI tk Z
 ·refine al (ak 2 tk Z (hZ tk 4 904 (e:=58) Z Z ?_));refine jI tk Z
def bY(rA:LRun)(cols:List LCol)(row:Rq):LEnv:=
 (LEnv.mk cols row rA.args rA.names rA.vals)
theorem mm(rA:LRun)(cols:List LCol)(row:Rq):
  aY prog 162 [(.agg (eP rA)),(.list 53 (cols.map aB)),(.list 58 (row.map af))] (.agg (encEnv (bY rA cols row))):=by
 obtain⟨r,H⟩:∃r,bY rA cols row=r:=⟨_,rfl⟩
 rw[H];unfold bY at H;refine PH.au func162 ntmps162 ?_;refine aa (ab (aO ?_));refine bm tk fun b6=>?_
 refine ac (aa (ab (ag 9 tk Z (ay tk ?_))));refine ac ?_;exact tX tk H Z Z Z Z Z
theorem qO{m:Nat}(xs:Rz):jr prog 157 [.list 46 (xs.map (ap 58 af))] (lN m 46 (xs.map (ap 58 af))):=by
 refine PH.au func157 ntmps157 ?_;refine iI tk 0 Z Z (fun hz hb=>?_);refine ak 1 tk Z (aa (aa (ab (ai tk Z ?_))));refine sd tk Z Z Z Z Z Z Z (fun b hn=>?_);refine ac ?_;refine bJ Z (fun h=>?_) (fun h=>?_)
 ·refine ak 1 tk Z (hZ tk 2 902 (e:=46) Z Z ?_);refine jI tk (hn h).symm
 ·refine al (aa (ab ?_));refine oA (rows':=[]) tk Z Z Z Z Z Z Z Z Z (jN.refl _) fun g=>?_
  refine ai tk Z ?_;refine cv (rows2':=xs.map (ap 58 af)) (rows':=xs.map (ap 58 af)) tk Z Z Z Z Z Z Z Z Z Z Z Z Z (gP.refl _) (by simpa using hb) (by simpa using hz) Z fun g'=>?_
  refine ai tk Z (ac ?_);refine jI tk Z
def cZ(s1A:Rq)(s2A:Rq):Option (Bool):=
 cond ((s1A.length:Int) !=(s2A.length:Int))
  (some false)
  (ae (aU (σ:=Unit) (ρ:=(Bool)) (fun(j1:Nat) (x1:LVal) (_:Unit)=>
   ae (aG s2A (j1:Int)) fun(x22:LVal)=>
   cond (!(x1.kind==x22.kind&&(x1.int==x22.int&&(x1.text==x22.text&&true))))
    (some (.ret false))
    (some (.next ()))) 0 s1A ()) fun fl1=>fl1.thenR fun(_:Unit)=>
  some true)
theorem fX(s1A:Rq)(s2A:Rq)(r:Bool)(H:cZ s1A s2A=some r):
  aY prog 14 [(.list 58 (s1A.map af)),(.list 58 (s2A.map af))] (aK r):=by
 unfold cZ at H;refine PH.au func14 ntmps14 ?_;refine ak 1 tk Z (aa (aa (ab (ai tk Z (aI tk (zl _) ?_)))));refine ai tk Z (aI tk (zl _) ?_);refine ai tk Z (ac ?_);refine aF Z H (fun H=>?_) (fun H=>?_)
 ·refine ak 1 tk Z ?_;exact bi tk H Z
 refine al (aa (aa (ab (ai tk Z (aI tk (zl _) ?_)))));refine ai tk Z (ac ?_);refine ff tk 13 12 0 (fun s1 g1=>upd (fun _=>.any) 1 (.list 58 (s2A.map af))) nB nO () H (fun fl1 Hp1 j1 s1 g1 hz1 hl1 x1 fb1 hx1 H hg1=>?_) (fun s1 g1 H=>?_)
 ·refine aa (av (ak 2 tk Z (aa (aX tk mok ⟨false,false,[]⟩ [0,1,2,3,4,5,6,7,8] Z (by decide+kernel) Z (az 2 Z ?_)))));refine bE (zn j1) (bA (fun _=>Z) hx1) ?_;refine az 3 Z ?_
  obtain⟨x22,k22,H⟩:=aV H
  refine bE k22.1 (aC (fun _=>Z) k22.2) ?_;refine az 2 Z (aQ ?_);refine aF Z H (fun H=>?_) (fun H=>?_)
  ·refine ak 1 tk Z ?_;obtain rfl:=aq H;have e1:fl1= .ret _:=hg1;subst e1;obtain rfl:=aZ Hp1;refine bl tk Z (ps:=[(aK false)]) ⟨_,_,rfl,rfl,rfl⟩ (PLe.q Z)
  refine al (aM (bc 2 tk Z ?_));exact bv () H hl1 hg1
 refine ak 1 tk Z ?_;exact bi tk H Z
end
end Go.Proofs.YtafdcemcgfbhcaaGreat
