/- queryParseFormatsCanonically_holds, part 1: the layer, the plain functions and what they compute; conditions as in the statement. -/
import Derived.Test.YtibojibdiibdgaaGreatDoorCards
import Derived.Test.YtibojibdiibdgaaGreatDoorTie
import Derived.WalkKit
import Derived.Laws.StructEq
import Derived.Laws.Concat
import Derived.Tactics
import Derived.RangeFuncRecord
import Derived.ProofKit
import Derived.SizedLaws
import Derived.Laws.BytesArg
import Derived.Laws.Cover3
import Derived.Test.YtibojibdiibdgaaGreatDoorProg
import Derived.KernelRfl
import Derived.Lib.Bytealg
import Derived.Laws.MakeOwn
import Derived.Below
import Derived.Shelf.Strings.OnBuilder
import Derived.Shelf.Small.Strs
import Derived.Shelf.LaysM
import Derived.Shelf.Strconv.Itoa3
import Derived.Shelf.LaysC
import Derived.Shelf.Strconv.AtoiAll
import Derived.Shelf.Strings.Search3
import Derived.Shelf.Strings.Prefix
import Derived.Shelf.Strings.Replace
import Derived.Lib.AppendIntMem
import Derived.Lib.ItoaLen
import Derived.RangeFuncSeq
import Derived.OrdersIn
import Derived.TacticsIn
import Derived.Lib.ItoaMem
import Derived.Recover
import Derived.LoopN
import Derived.Defers
import Derived.OpenShut
import Derived.Deep.DeepHandedRow
import Derived.Lib.LaidTab
import Derived.Stop.LaidErr
import Derived.Shelf.Vars
set_option maxHeartbeats 4000000
namespace Go.Ab
noncomputable section
theorem zl{α β:Type}{l:List α}(f:α→β):(l.map f).length=l.length:=List.length_map f
theorem zg{α:Type}{l:List α}{i:Nat}{a:α}:l[i]? =some a↔∃h:i<l.length,l[i]=a:=List.getElem?_eq_some_iff
theorem zo{α:Type}(a b:α):(some a=some b)=(a=b):=Option.some.injEq a b
theorem ze{α:Type}{l:List α}{i:Nat}(h:i<l.length):l[i]? =some l[i]:=List.getElem?_eq_getElem h
theorem zf{p:Prop}[Decidable p](h:¬p):decide p=false:=decide_eq_false h
theorem zt{p:Prop}[Decidable p](h:p):decide p=true:=decide_eq_true h
theorem zn(n:Nat):0≤(n:Int):=Int.natCast_nonneg n
theorem zy{c:Prop}{h:Decidable c}(hn:¬c){α:Sort _}{t e:α}:ite c t e=e:=if_neg hn
theorem zp{c:Prop}{h:Decidable c}(hc:c){α:Sort _}{t e:α}:ite c t e=t:=if_pos hc
theorem zc{α:Sort _}(a b:α):cond true a b=a:=rfl
theorem zd{α:Sort _}(a b:α):cond false a b=b:=rfl
structure OwnRef where
 blk:Option Nat
 cap:Nat
def OwnRef.val(g:OwnRef)(len:Nat):Value:= .slice (g.blk.map fun b=>⟨b,0,none⟩) len g.cap
inductive PV where
 |any
 |val (v:Value)
 |str (l:List UInt8)
 |list (e:TypeId) (rows:List (List PV))
 |agg (cells:List PV)
 |tup (vs:List PV)
 |ptr (cells:List PV)
 |fn (f:FuncId) (caps:List PV)
 |box (tag b off:Nat)
 |own (tag:Nat) (g:OwnRef) (len:Nat)
 |optr (tag:Nat) (g:OwnRef) (k row off:Nat)
 |err (b:Bool)
 |ifc (t:TypeId) (p:PV)
abbrev Mem:=Nat→Nat→Option Value
def dB:Nat:=2^61
mutual
def Rep(P:Program)(M:Mem)(s:Bool):PV→Value→Prop
 | .any,_=>s=true
 | .val v,x=>x=v
 | .str l,x=>x= .string ⟨l.toArray⟩∧l.length≤dB
 | .list e rows,x=>∃a c i,x= .slice a rows.length c∧rows.length≤c∧c≤maxLen∧P.info? e=some i∧
   rows.length*i.bytes≤2^47∧(rows≠[]→∃b o,a=some ⟨b,o,none⟩∧ca P M i.size b o rows)
 | .agg cells,x=>∃cs:Array Value,x= .agg cs∧ay P M s cells cs.toList
 | .tup vs,x=>∃cs:Array Value,x= .tuple cs∧ay P M s vs cs.toList
 | .ptr cells,x=>∃b o,x= .pointer (some ⟨b,o,none⟩)∧bW P M b o cells
 | .fn f caps,x=>∃cs:Array Value,x= .func (.func f) #[] cs∧ay P M s caps cs.toList
 | .box _ b off,x=>s=true∧x= .pointer (some ⟨b,off,none⟩)
 | .own _ g len,x=>s=true∧x=g.val len
 | .optr _ g k row off,x=>s=true∧∃b,g.blk=some b∧x= .pointer (some ⟨b,row*k+off,none⟩)
 | .err b,x=>(b=false∧x= .nilIface)∨(b=true∧∃t p,x= .iface t p)
 | .ifc t p,x=>∃v,x= .iface t v∧Rep P M s p v
def ay(P:Program)(M:Mem)(s:Bool):List PV→List Value→Prop
 |[],vs=>vs=[]
 |p::ps,vs=>∃x xs,vs=x::xs∧Rep P M s p x∧ay P M s ps xs
def bW(P:Program)(M:Mem)(b:Nat):Nat→List PV→Prop
 |_,[]=>True
 |o,p::ps=>(∃x,M b o=some x∧x.oneCell'=true∧Rep P M false p x)∧bW P M b (o+1) ps
def ca(P:Program)(M:Mem)(k b:Nat):Nat→List (List PV)→Prop
 |_,[]=>True
 |o,r::rs=>r.length=k∧bW P M b o r∧ca P M k b (o+k) rs
end
def Mem.le(M M':Mem):Prop:=∀b o v,M b o=some v→M' b o=some v
theorem Mem.le_refl(M:Mem):M.le M:=fun _ _ _ h=>h
theorem Mem.le_trans{M M' M'':Mem}(h:M.le M')(h':M'.le M''):M.le M'':=fun b o v x=>h' b o v (h b o v x)
section mono
variable{P:Program}{Px:PV→Prop}{M M':Mem}
mutual
theorem Rep.mono(hle:M.le M'){s:Bool}:∀{p:PV} {x:Value},Rep P M s p x→Rep P M' s p x
 | .any,_,h=>by simpa only[Rep]using h
 | .val _,_,h=>by simpa only[Rep]using h
 | .str _,_,h=>by simpa only[Rep]using h
 | .list e rows,x,h=>by
  simp only[Rep]at h⊢
  obtain⟨a,c,i,h1,h2,h3,h4,h5,h6⟩:=h
  exact⟨a,c,i,h1,h2,h3,h4,h5,fun hne=>let⟨b,o,e1,e2⟩:=h6 hne;⟨b,o,e1,ca.mono hle e2⟩⟩
 | .agg cells,x,h=>by
  simp only[Rep]at h⊢
  obtain⟨cs,h1,h2⟩:=h
  exact⟨cs,h1,ay.mono hle h2⟩
 | .tup cells,x,h=>by
  simp only[Rep]at h⊢
  obtain⟨cs,h1,h2⟩:=h
  exact⟨cs,h1,ay.mono hle h2⟩
 | .ptr cells,x,h=>by
  simp only[Rep]at h⊢
  obtain⟨b,o,h1,h2⟩:=h
  exact⟨b,o,h1,bW.mono hle h2⟩
 | .fn f caps,x,h=>by
  simp only[Rep]at h⊢
  obtain⟨cs,h1,h2⟩:=h
  exact⟨cs,h1,ay.mono hle h2⟩
 | .box _ _ _,_,h=>by simpa only[Rep]using h
 | .own _ _ _,_,h=>by simpa only[Rep]using h
 | .optr _ _ _ _ _,_,h=>by simpa only[Rep]using h
 | .err _,_,h=>by simpa only[Rep]using h
 | .ifc _ p,x,h=>by
  simp only[Rep]at h⊢
  obtain⟨v,h1,h2⟩:=h
  exact⟨v,h1,Rep.mono hle h2⟩
theorem ay.mono(hle:M.le M'){s:Bool}:∀{ps:List PV} {xs:List Value},ay P M s ps xs→ay P M' s ps xs
 |[],_,h=>by simpa only[ay]using h
 |p::ps,_,h=>by
  simp only[ay]at h⊢
  obtain⟨x,xs,h1,h2,h3⟩:=h
  exact⟨x,xs,h1,Rep.mono hle h2,ay.mono hle h3⟩
theorem bW.mono(hle:M.le M'){b:Nat}:∀{o:Nat} {ps:List PV},bW P M b o ps→bW P M' b o ps
 |_,[],_=>by simp only[bW]
 |o,p::ps,h=>by
  simp only[bW]at h⊢
  obtain⟨⟨x,h1,h0,h2⟩,h3⟩:=h
  exact⟨⟨x,hle _ _ _ h1,h0,Rep.mono hle h2⟩,bW.mono hle h3⟩
theorem ca.mono(hle:M.le M'){k b:Nat}:∀{o:Nat} {rs:List (List PV)},ca P M k b o rs→ca P M' k b o rs
 |_,[],_=>by simp only[ca]
 |o,r::rs,h=>by
  simp only[ca]at h⊢
  exact⟨h.1,bW.mono hle h.2.1,ca.mono hle h.2.2⟩
end
end mono
section slot
variable{P:Program}{Px:PV→Prop}{M:Mem}
mutual
theorem Rep.slot:∀{p:PV} {x:Value},Rep P M false p x→Rep P M true p x
 | .any,_,_=>by simp only[Rep]
 | .val _,_,h=>by simpa only[Rep]using h
 | .str _,_,h=>by simpa only[Rep]using h
 | .list _ _,_,h=>by simpa only[Rep]using h
 | .agg cells,x,h=>by
  simp only[Rep]at h⊢
  obtain⟨cs,h1,h2⟩:=h
  exact⟨cs,h1,ay.slot h2⟩
 | .tup cells,x,h=>by
  simp only[Rep]at h⊢
  obtain⟨cs,h1,h2⟩:=h
  exact⟨cs,h1,ay.slot h2⟩
 | .ptr _,_,h=>by simpa only[Rep]using h
 | .fn f caps,x,h=>by
  simp only[Rep]at h⊢
  obtain⟨cs,h1,h2⟩:=h
  exact⟨cs,h1,ay.slot h2⟩
 | .box _ _ _,_,h=>by simp[Rep]at h
 | .own _ _ _,_,h=>by simp[Rep]at h
 | .optr _ _ _ _ _,_,h=>by simp[Rep]at h
 | .err _,_,h=>by simpa only[Rep]using h
 | .ifc _ p,x,h=>by
  simp only[Rep]at h⊢
  obtain⟨v,h1,h2⟩:=h
  exact⟨v,h1,Rep.slot h2⟩
theorem ay.slot:∀{ps:List PV} {xs:List Value},ay P M false ps xs→ay P M true ps xs
 |[],_,h=>by simpa only[ay]using h
 |p::ps,_,h=>by
  simp only[ay]at h⊢
  obtain⟨x,xs,h1,h2,h3⟩:=h
  exact⟨x,xs,h1,Rep.slot h2,ay.slot h3⟩
end
theorem ay.length{s:Bool}:∀{ps:List PV} {xs:List Value},ay P M s ps xs→xs.length=ps.length
 |[],_,h=>by simp only[ay]at h;simp[h]
 |p::ps,_,h=>by
  simp only[ay]at h
  obtain⟨x,xs,rfl,_,h3⟩:=h
  simp[ay.length h3]
theorem ay.get{s:Bool}:∀{ps:List PV} {xs:List Value},ay P M s ps xs→∀(j:Nat) (p:PV),ps[j]? =some p→∃x,xs[j]? =some x∧Rep P M s p x
 |[],_,_,j,p,hp=>by simp at hp
 |q::ps,_,h,j,p,hp=>by
  simp only[ay]at h
  obtain⟨x,xs,rfl,h2,h3⟩:=h
  cases j with
  |zero=>simp at hp;subst hp;exact⟨x,rfl,h2⟩
  |succ j=>simpa using ay.get h3 j p (by simpa using hp)
theorem ay.append{s:Bool}:∀{ps qs:List PV} {xs ys:List Value},ay P M s ps xs→ay P M s qs ys→ay P M s (ps++qs) (xs++ys)
 |[],_,_,_,h,h'=>by simp only[ay]at h;subst h;simpa using h'
 |p::ps,_,_,_,h,h'=>by
  simp only[ay]at h
  obtain⟨x,xs,rfl,h2,h3⟩:=h
  simp only[List.cons_append,ay]
  exact⟨x,_,rfl,h2,ay.append h3 h'⟩
theorem ay.take{s:Bool}:∀{ps:List PV} {xs:List Value} (n:Nat),ay P M s ps xs→ay P M s (ps.take n) (xs.take n)
 |[],_,n,h=>by simp only[ay]at h;subst h;simp[ay]
 |p::ps,_,0,h=>by simp[ay]
 |p::ps,_,n+1,h=>by
  simp only[ay]at h
  obtain⟨x,xs,rfl,h2,h3⟩:=h
  simp only[List.take_succ_cons,ay]
  exact⟨x,_,rfl,h2,ay.take n h3⟩
theorem ay.drop{s:Bool}:∀{ps:List PV} {xs:List Value} (n:Nat),ay P M s ps xs→ay P M s (ps.drop n) (xs.drop n)
 |[],_,n,h=>by simp only[ay]at h;subst h;simp[ay]
 |p::ps,_,0,h=>by simpa using h
 |p::ps,_,n+1,h=>by
  simp only[ay]at h
  obtain⟨x,xs,rfl,h2,h3⟩:=h
  simp only[List.drop_succ_cons];exact ay.drop n h3
theorem bW.get{b:Nat}:∀{o:Nat} {ps:List PV},bW P M b o ps→∀(j:Nat) (p:PV),ps[j]? =some p→∃x,M b (o+j)=some x∧x.oneCell'=true∧Rep P M false p x
 |_,[],_,j,p,hp=>by simp at hp
 |o,q::ps,h,j,p,hp=>by
  simp only[bW]at h;cases j with
  |zero=>simp at hp;subst hp;exact h.1
  |succ j=>
   have:=bW.get h.2 j p (by simpa using hp)
   rw[show o+(j+1)=o+1+j from by omega];exact this
theorem bW.drop{b:Nat}:∀{o:Nat} {ps:List PV} (n:Nat),bW P M b o ps→bW P M b (o+n) (ps.drop n)
 |_,[],n,_=>by simp[bW]
 |o,q::ps,0,h=>by simpa using h
 |o,q::ps,n+1,h=>by
  simp only[bW]at h;rw[show o+(n+1)=o+1+n from by omega];simpa using bW.drop n h.2
theorem bW.take{b:Nat}:∀{o:Nat} {ps:List PV} (n:Nat),bW P M b o ps→bW P M b o (ps.take n)
 |_,[],n,_=>by simp[bW]
 |o,q::ps,0,h=>by simp[bW]
 |o,q::ps,n+1,h=>by
  simp only[bW,List.take_succ_cons]at h⊢
  exact⟨h.1,bW.take n h.2⟩
theorem bW.vals{b:Nat}:∀{o:Nat} {ps:List PV},bW P M b o ps→
  ∃xs:List Value,ay P M false ps xs∧(∀x∈xs,x.oneCell'=true)∧∀(j:Nat) (x:Value),xs[j]? =some x→M b (o+j)=some x
 |_,[],_=>⟨[],by simp[ay],by simp,by simp⟩
 |o,q::ps,h=>by
  simp only[bW]at h
  obtain⟨⟨x,h1,h0,h2⟩,h3⟩:=h
  obtain⟨xs,h4,h6,h5⟩:=bW.vals h3
  refine⟨x::xs,by simp only[ay];exact⟨x,xs,rfl,h2,h4⟩,by simpa using⟨h0,h6⟩,fun j y hy=>?_⟩
  cases j with
  |zero=>simp at hy;subst hy;exact h1
  |succ j=>
   rw[show o+(j+1)=o+1+j from by omega];exact h5 j y (by simpa using hy)
theorem ca.get{k b:Nat}:∀{o:Nat} {rs:List (List PV)},ca P M k b o rs→∀(j:Nat) (r:List PV),rs[j]? =some r→r.length=k∧bW P M b (o+j*k) r
 |_,[],_,j,r,hr=>by simp at hr
 |o,q::rs,h,j,r,hr=>by
  simp only[ca]at h;cases j with
  |zero=>simp at hr;subst hr;exact⟨h.1,by simpa using h.2.1⟩
  |succ j=>
   have:=ca.get h.2.2 j r (by simpa using hr)
   rw[show o+(j+1)*k=o+k+j*k from by rw[Nat.add_mul];omega];exact this
theorem ca.drop{k b:Nat}:∀{o:Nat} {rs:List (List PV)} (n:Nat),ca P M k b o rs→ca P M k b (o+n*k) (rs.drop n)
 |_,[],n,_=>by simp[ca]
 |o,q::rs,0,h=>by simpa using h
 |o,q::rs,n+1,h=>by
  simp only[ca]at h;rw[show o+(n+1)*k=o+k+n*k from by rw[Nat.add_mul];omega];simpa using ca.drop n h.2.2
theorem ca.take{k b:Nat}:∀{o:Nat} {rs:List (List PV)} (n:Nat),ca P M k b o rs→ca P M k b o (rs.take n)
 |_,[],n,_=>by simp[ca]
 |o,q::rs,0,h=>by simp[ca]
 |o,q::rs,n+1,h=>by
  simp only[ca,List.take_succ_cons]at h⊢
  exact⟨h.1,h.2.1,ca.take n h.2.2⟩
theorem ca.flat{k b:Nat}:∀{o:Nat} {rs:List (List PV)},ca P M k b o rs→bW P M b o rs.flatten∧rs.flatten.length=rs.length*k
 |_,[],_=>by simp[bW]
 |o,q::rs,h=>by
  simp only[ca]at h
  obtain⟨h1,h2⟩:=ca.flat h.2.2
  constructor
  ·simp only[List.flatten_cons]
   have aux:∀(o:Nat) (l:List PV),bW P M b o l→bW P M b (o+l.length) rs.flatten→bW P M b o (l++rs.flatten):=by
    intro o l;induction l generalizing o with
    |nil=>intro _ h;simpa using h
    |cons x l ih=>
     intro hl hr;simp only[bW,List.cons_append,List.length_cons]at hl hr⊢
     exact⟨hl.1,ih (o+1) hl.2 (by rw[show o+1+l.length=o+(l.length+1)from by omega];exact hr)⟩
   exact aux o q h.2.1 (by rw[h.1];exact h1)
  ·simp[h2,h.1,Nat.add_mul];omega
theorem ca.lens{k b:Nat}:∀{o:Nat} {rs:List (List PV)},ca P M k b o rs→∀r∈rs,r.length=k
 |_,[],_=>by simp
 |o,q::rs,h=>by
  simp only[ca]at h;intro r hr;rcases List.mem_cons.1 hr with rfl|hr
  ·exact h.1
  ·exact ca.lens h.2.2 r hr
theorem ca.of_flat{k b:Nat}:∀{o:Nat} {rs:List (List PV)},(∀r∈rs,r.length=k)→bW P M b o rs.flatten→ca P M k b o rs
 |_,[],_,_=>by simp[ca]
 |o,q::rs,hl,h=>by
  simp only[ca,List.flatten_cons]at h⊢;have hq:=hl q (by simp);have h1:=bW.take q.length h;have h2:=bW.drop q.length h;simp at h1 h2;rw[hq]at h2
  exact⟨hq,h1,ca.of_flat (fun r hr=>hl r (by simp[hr])) h2⟩
end slot
def PV.one:PV→Bool
 | .val v=>v.oneCell'
 | .any| .agg _| .tup _=>false
 |_=>true
theorem Rep.oneCell{P:Program}{M:Mem}{s:Bool}{p:PV}{x:Value}(h1:p.one=true)(h:Rep P M s p x):x.oneCell'=true:=by
 cases p with
 |any=>simp[PV.one]at h1
 |val v=>simp only[Rep]at h;subst h;simpa[PV.one]using h1
 |str l=>simp only[Rep]at h;rw[h.1];rfl
 |list e rows=>simp only[Rep]at h;obtain⟨a,c,i,rfl,_⟩:=h;rfl
 |agg cs=>simp[PV.one]at h1
 |tup cs=>simp[PV.one]at h1
 |ptr cs=>simp only[Rep]at h;obtain⟨b,o,rfl,_⟩:=h;rfl
 |fn f cs=>simp only[Rep]at h;obtain⟨c,rfl,_⟩:=h;rfl
 |box t b o=>simp only[Rep]at h;obtain⟨_,rfl⟩:=h;rfl
 |own t g l=>simp only[Rep]at h;obtain⟨_,rfl⟩:=h;rfl
 |optr t g k r o=>simp only[Rep]at h;obtain⟨_,b,_,rfl⟩:=h;rfl
 |err b=>simp only[Rep]at h;rcases h with⟨_,rfl⟩|⟨_,_,_,rfl⟩<;>rfl
 |ifc t p=>simp only[Rep]at h;obtain⟨_,rfl,_⟩:=h;rfl
theorem ay.oneCell{P:Program}{M:Mem}{s:Bool}:∀{ps:List PV} {xs:List Value},ps.all PV.one=true→ay P M s ps xs→∀x∈xs,x.oneCell'=true
 |[],_,_,h=>by simp only[ay]at h;subst h;simp
 |p::ps,_,h1,h=>by
  simp only[ay]at h
  obtain⟨x,xs,rfl,h2,h3⟩:=h
  simp only[List.all_cons,Bool.and_eq_true]at h1;intro y hy;rcases List.mem_cons.1 hy with rfl|hy
  ·exact Rep.oneCell h1.1 h2
  ·exact ay.oneCell h1.2 h3 y hy
structure Box where
 b:Nat
 cells:List PV
structure Obj where
 g:OwnRef
 e:TypeId
 rows:List (List PV)
 wr:Bool
structure Heap where
 bx:Nat→Option Box
 ob:Nat→Option Obj
def Heap.empty:Heap:=⟨fun _=>none,fun _=>none⟩
def upd{α:Type}(f:Nat→α)(k:Nat)(v:α):Nat→α:=fun t=>bif Nat.beq t k then v else f t
theorem ef{α:Type}(f:Nat→α)(k:Nat)(v:α):upd f k v k=v:=by simp[upd]
theorem eK{α:Type}(f:Nat→α){k t:Nat}(v:α)(h:t≠k):upd f k v t=f t:=by
 have:Nat.beq t k=false:=by cases hb:Nat.beq t k with
  |false=>rfl
  |true=>exact absurd (Nat.eq_of_beq_eq_true hb) h
 simp[upd,this]
theorem dE{α:Type}(f:Nat→α)(k t:Nat)(v:α):upd f k v t=if t=k then v else f t:=by
 by_cases h:t=k
 ·subst h;simp[ef]
 ·simp[eK f v h,h]
theorem upd_comm{α:Type}(f:Nat→α){k l:Nat}(v w:α)(h:k≠l):upd (upd f k v) l w=upd (upd f l w) k v:=by
 funext t;simp only[dE];by_cases h1:t=l
 ·subst h1;simp[Ne.symm h]
 ·simp[h1]
def glI:List Nat:=[2,3]
def glT:List (Nat×IntKind×List Int):=[(0,.u64,[1,10,100,1000,10000,100000,1000000,10000000,100000000,1000000000,10000000000,100000000000,1000000000000,10000000000000,100000000000000,1000000000000000,10000000000000000,100000000000000000,1000000000000000000,10000000000000000000])]
def glN:List Nat:=[1]
def GlW(w:World):Prop:=(∀b∈glI,∃tp p,w.cell? ⟨b,0,none⟩=some (.iface tp p))∧(∀x∈glT,∃t fz,w.heap[x.1]? =some (.cells (x.2.2.map fun v=>Value.int x.2.1 v).toArray t fz))∧∀b∈glN,∃m,w.cell? ⟨b,0,none⟩=some (.int .i64 m)
def glB:List Nat:=glI++glT.map (·.1)++glN
def Gl(w:World)(own:List Nat):Prop:=GlW w∧∀b∈glB,b<w.heap.size∧b∉own
theorem GlW.same{w w':World}(h:GlW w)(hs:∀b∈glB,w'.heap[b]? =w.heap[b]?):GlW w':=by
 have hc:∀b∈glB,w'.cell? ⟨b,0,none⟩=w.cell? ⟨b,0,none⟩:=fun b hb=>by simp only[World.cell?,hs b hb]
 refine⟨fun b hb=>?_,fun x hx=>?_,fun b hb=>?_⟩
 ·rw[hc b (by simp[glB,hb])];exact h.1 b hb
 ·rw[hs x.1 (by simp only[glB,List.mem_append,List.mem_map];exact .inl (.inr ⟨x,hx,rfl⟩))];exact h.2.1 x hx
 ·rw[hc b (by simp[glB,hb])];exact h.2.2 b hb
structure Ctx where
 w0:World
 own0:List Nat
 M0:Mem
 gl:Gl w0 own0
 ds:List Deferred
def Ctx.mine(C:Ctx)(b:Nat):Prop:=C.w0.heap.size≤b∨b∈C.own0
def entsV(es:Array MapEntry):Value:= .tuple (es.map fun e=>.tuple #[e.key,e.val])
def markPV:PV:= .optr 0 ⟨none,0⟩ 99 77 0
def okS:List PV→Bool
 | .optr _ _ 99 77 _::_=>false
 |_=>true
def ik(P:Program)(M:Mem)(cells:List PV):Go.Obj→Prop
 | .cells cs _ (0,0)=>ay P M true cells cs.toList
 | .map es _=>∃ps,cells=markPV::ps∧ay P M true ps [entsV es]
 |_=>False
def ja(P:Program)(C:Ctx)(M:Mem)(w:World)(x:Box):Prop:=
 C.mine x.b∧(∃o,w.heap[x.b]? =some o∧ik P M x.cells o)∧∀o,M x.b o=none
theorem ik.mono{P:Program}{M M':Mem}(hle:M.le M'){cells:List PV}{o:Go.Obj}(h:ik P M cells o):ik P M' cells o:=by
 unfold ik at h⊢;split at h
 ·exact ay.mono hle h
 ·obtain⟨ps,h1,h2⟩:=h;exact⟨ps,h1,ay.mono hle h2⟩
 ·exact h
theorem ik.le{P:Program}{M:Mem}{cells cells':List PV}{o:Go.Obj}(h:ik P M cells o)(hle:∀vs,ay P M true cells vs→ay P M true cells' vs)(hm:okS cells=true∨cells'=cells):ik P M cells' o:=by
 unfold ik at h⊢;split at h
 ·exact hle _ h
 ·rcases hm with hm|rfl
  ·obtain⟨ps,h1,_⟩:=h;subst h1;cases hm
  ·exact h
 ·exact h
theorem ik.cells{P:Program}{M:Mem}{cells:List PV}{o:Go.Obj}(h:ik P M cells o)(hok:okS cells=true):∃cs e,o= .cells cs e (0,0)∧ay P M true cells cs.toList:=by
 unfold ik at h;split at h
 ·exact⟨_,_,rfl,h⟩
 ·obtain⟨ps,h1,_⟩:=h;subst h1;cases hok
 ·exact h.elim
theorem ja.cells{P:Program}{C:Ctx}{M:Mem}{w:World}{x:Box}(h:ja P C M w x)(hok:okS x.cells=true):
  C.mine x.b∧(∃cs e,w.heap[x.b]? =some (.cells cs e (0,0))∧ay P M true x.cells cs.toList)∧∀o,M x.b o=none:=by
 obtain⟨h1,⟨o,h2,h3⟩,h5⟩:=h
 obtain⟨cs,e,rfl,h4⟩:=h3.cells hok
 exact⟨h1,⟨cs,e,h2,h4⟩,h5⟩
def ObjOk(P:Program)(C:Ctx)(M:Mem)(w:World)(x:Obj):Prop:=
 (∃i,P.info? x.e=some i∧x.rows.length*i.bytes≤2^47∧(∀r∈x.rows,r.length=i.size)∧
  ((x.g.blk=none∧x.rows=[]∧x.g.cap=0)∨
   ∃b cur,x.g.blk=some b∧C.mine b∧w.heap[b]? =some (.cells cur x.e (0,0))∧cur.size=x.g.cap*i.size∧
   x.rows.length≤x.g.cap∧x.g.cap≤maxLen∧ay P M false x.rows.flatten (cur.toList.take (x.rows.length*i.size))∧
   (∀v∈cur.toList.take (x.rows.length*i.size),v.oneCell'=true)∧
   (x.wr=true→∀o,M b o=none)∧∀o,x.rows.length*i.size≤o→M b o=none))
structure InvH(P:Program)(C:Ctx)(M:Mem)(H:Heap)(w:World):Prop where
 mem:∀b o v,M b o=some v→w.cell? ⟨b,o,none⟩=some v
 ext:C.M0.le M
 new:∀b o v,M b o=some v→C.M0 b o=some v∨C.mine b
 os:w.os=C.w0.os
 tape:w.tape=C.w0.tape
 output:w.output=C.w0.output
 size:C.w0.heap.size≤w.heap.size
 frame:∀b,b<C.w0.heap.size→b∉C.own0→w.heap[b]? =C.w0.heap[b]?
 boxes:∀t x,H.bx t=some x→ja P C M w x
 objs:∀t x,H.ob t=some x→ObjOk P C M w x
 dbox:∀t t' x x',H.bx t=some x→H.bx t'=some x'→x.b=x'.b→t=t'
 dobj:∀t t' x x' b,H.ob t=some x→H.ob t'=some x'→x.g.blk=some b→x'.g.blk=some b→t=t'
 dmix:∀t t' x x',H.bx t=some x→H.ob t'=some x'→x'.g.blk≠some x.b
section
variable{P:Program}{Px:PV→Prop}{C:Ctx}{M:Mem}{H:Heap}{w:World}
theorem InvH.gl(h:InvH P C M H w){own:List Nat}(ho:∀b∈own,C.mine b):Gl w own:=
 ⟨C.gl.1.same fun b hb=>h.frame b (C.gl.2 b hb).1 (C.gl.2 b hb).2,fun b hb=>⟨Nat.lt_of_lt_of_le (C.gl.2 b hb).1 h.size,fun hx=>by
  have h1:=C.gl.2 b hb;rcases ho b hx with h2|h2
  ·exact absurd h1.1 (Nat.not_lt.2 h2)
  ·exact h1.2 h2⟩⟩
theorem InvH.mem_lt(h:InvH P C M H w){b o:Nat}{v:Value}(hm:M b o=some v):b<w.heap.size:=
 block_lt_of_cell (h.mem b o v hm)
theorem InvH.fresh(h:InvH P C M H w)(o:Nat):M w.heap.size o=none:=by
 cases hm:M w.heap.size o with
 |none=>rfl
 |some v=>exact absurd (h.mem_lt hm) (Nat.lt_irrefl _)
theorem InvH.box_lt(h:InvH P C M H w){t:Nat}{x:Box}(hx:H.bx t=some x):x.b<w.heap.size:=by
 obtain⟨_,⟨o,hc,_⟩,_⟩:=h.boxes t x hx
 exact(Array.getElem?_eq_some_iff.1 hc).1
theorem InvH.obj_lt(h:InvH P C M H w){t:Nat}{x:Obj}(hx:H.ob t=some x){b:Nat}(hb:x.g.blk=some b):b<w.heap.size:=by
 obtain⟨i,_,_,_,hn|⟨b',cur,hb',_,hc,_⟩⟩:=h.objs t x hx
 ·rw[hn.1]at hb;cases hb
 ·rw[hb']at hb;cases hb;exact(Array.getElem?_eq_some_iff.1 hc).1
theorem InvH.drew(h:InvH P C M H w):InvH P C M H {w with drawn:=w.drawn+1}:=⟨h.mem,h.ext,h.new,h.os,h.tape,h.output,h.size,h.frame,h.boxes,h.objs,h.dbox,h.dobj,h.dmix⟩
theorem InvH.less(h:InvH P C M H w){H':Heap}(hb:∀t x,H'.bx t=some x→H.bx t=some x)(ho:∀t x,H'.ob t=some x→H.ob t=some x):InvH P C M H' w:=
 ⟨h.mem,h.ext,h.new,h.os,h.tape,h.output,h.size,h.frame,fun t x hx=>h.boxes t x (hb t x hx),fun t x hx=>h.objs t x (ho t x hx),
  fun t t' x x' hx hx'=>h.dbox t t' x x' (hb _ _ hx) (hb _ _ hx'),fun t t' x x' b hx hx'=>h.dobj t t' x x' b (ho _ _ hx) (ho _ _ hx'),
  fun t t' x x' hx hx'=>h.dmix t t' x x' (hb _ _ hx) (ho _ _ hx')⟩
theorem ja.keep{M':Mem}{w':World}{x:Box}(h:ja P C M w x)(hle:M.le M')(hn:∀o,M x.b o=none→M' x.b o=none)(hw:w'.heap[x.b]? =w.heap[x.b]?):ja P C M' w' x:=by
 obtain⟨h1,⟨o,h2,h3⟩,h4⟩:=h
 exact⟨h1,⟨o,hw.trans h2,h3.mono hle⟩,fun o=>hn o (h4 o)⟩
theorem ObjOk.keep{M':Mem}{w':World}{x:Obj}(h:ObjOk P C M w x)(hle:M.le M')(hn:∀b o,x.g.blk=some b→M b o=none→M' b o=none)(hw:∀b,x.g.blk=some b→w'.heap[b]? =w.heap[b]?):ObjOk P C M' w' x:=by
 obtain⟨i,h1,h2,h3,h4⟩:=h
 refine⟨i,h1,h2,h3,?_⟩
 rcases h4 with h4|⟨b,cur,hb,h5,h6,h7,h8,h9,h10,h13,h11,h12⟩
 ·exact .inl h4
 ·exact .inr ⟨b,cur,hb,h5,(hw b hb).trans h6,h7,h8,h9,ay.mono hle h10,h13,fun hr o=>hn b o hb (h11 hr o),fun o ho=>hn b o hb (h12 o ho)⟩
def Mem.add(M:Mem)(b:Nat)(cs:Array Value):Mem:=fun k o=>if k=b then cs[o]? else M k o
theorem lp(w:World)(o:Go.Obj){b k:Nat}(h:b<w.heap.size):(w.alloc o).cell? ⟨b,k,none⟩=w.cell? ⟨b,k,none⟩:=by
 have:=heap_alloc_old w o h
 simp[World.cell?,this]
theorem InvH.add_le(h:InvH P C M H w)(cs:Array Value):M.le (M.add w.heap.size cs):=by
 intro b o v hm
 have:=h.mem_lt hm
 simp[Mem.add,Nat.ne_of_lt this,hm]
theorem jB(w:World)(o:Go.Obj):(w.alloc o).heap.size=w.heap.size+1:=by show(w.heap.push o).size=_;simp
theorem InvH.alloc_frozen(h:InvH P C M H w)(cs:Array Value)(e:TypeId):InvH P C (M.add w.heap.size cs) H (w.alloc (.cells cs e)):=by
 have hle:=h.add_le cs
 refine⟨?_,Mem.le_trans h.ext hle,?_,h.os,h.tape,h.output,?_,?_,?_,?_,h.dbox,h.dobj,h.dmix⟩
 ·intro b o v hm;by_cases hb:b=w.heap.size
  ·subst hb;rw[cell_of_row (w.alloc (.cells cs e)) w.heap.size o cs e (0,0) (heap_alloc_new w _)];simpa[Mem.add]using hm
  ·simp only[Mem.add,hb,if_false]at hm;rw[lp w _ (h.mem_lt hm)];exact h.mem b o v hm
 ·intro b o v hm;by_cases hb:b=w.heap.size
  ·exact .inr (.inl (hb▸h.size))
  ·simp only[Mem.add,hb,if_false]at hm;exact h.new b o v hm
 ·rw[jB];exact Nat.le_succ_of_le h.size
 ·intro b hb hn;rw[heap_alloc_old w _ (Nat.lt_of_lt_of_le hb h.size)];exact h.frame b hb hn
 ·intro t x hx;have hlt:=h.box_lt hx
  exact(h.boxes t x hx).keep hle (fun o ho=>by simp[Mem.add,Nat.ne_of_lt hlt,ho]) (heap_alloc_old w _ hlt)
 ·intro t x hx
  exact(h.objs t x hx).keep hle (fun b o hb ho=>by simp[Mem.add,Nat.ne_of_lt (h.obj_lt hx hb),ho]) (fun b hb=>heap_alloc_old w _ (h.obj_lt hx hb))
theorem InvH.alloc_plain(h:InvH P C M H w)(o:Go.Obj):InvH P C M H (w.alloc o):=by
 refine⟨?_,h.ext,h.new,h.os,h.tape,h.output,?_,?_,?_,?_,h.dbox,h.dobj,h.dmix⟩
 ·intro b k v hm;rw[lp w _ (h.mem_lt hm)];exact h.mem b k v hm
 ·rw[jB];exact Nat.le_succ_of_le h.size
 ·intro b hb hn;rw[heap_alloc_old w _ (Nat.lt_of_lt_of_le hb h.size)];exact h.frame b hb hn
 ·intro t x hx
  exact(h.boxes t x hx).keep (Mem.le_refl M) (fun o ho=>ho) (heap_alloc_old w _ (h.box_lt hx))
 ·intro t x hx
  exact(h.objs t x hx).keep (Mem.le_refl M) (fun b o hb ho=>ho) (fun b hb=>heap_alloc_old w _ (h.obj_lt hx hb))
theorem InvH.alloc_box(h:InvH P C M H w)(tag:Nat)(cells:List PV)(cs:Array Value)(e:TypeId)(hr:ay P M true cells cs.toList):
  InvH P C M ⟨upd H.bx tag (some ⟨w.heap.size,cells⟩),H.ob⟩ (w.alloc (.cells cs e)):=by
 have h':=h.alloc_plain (.cells cs e)
 have key:∀t x,upd H.bx tag (some ⟨w.heap.size,cells⟩) t=some x→(t=tag∧x=⟨w.heap.size,cells⟩)∨(t≠tag∧H.bx t=some x):=by
  intro t x hx;by_cases ht:t=tag
  ·subst ht;rw[ef]at hx;exact .inl ⟨rfl,(Option.some.inj hx).symm⟩
  ·rw[eK _ _ ht]at hx;exact .inr ⟨ht,hx⟩
 refine⟨h'.mem,h'.ext,h'.new,h'.os,h'.tape,h'.output,h'.size,h'.frame,?_,h'.objs,?_,h'.dobj,?_⟩
 ·intro t x hx;rcases key t x hx with⟨_,rfl⟩|⟨_,hx⟩
  ·exact⟨.inl h.size,⟨_,heap_alloc_new w _,hr⟩,h.fresh⟩
  ·exact h'.boxes t x hx
 ·intro t t' x x' hx hx' hb;rcases key t x hx with⟨h1,h2⟩|⟨_,hy⟩<;>rcases key t' x' hx' with⟨h3,h4⟩|⟨_,hy'⟩
  ·rw[h1,h3]
  ·subst h2;exact absurd (h.box_lt hy') (by rw[←hb];exact Nat.lt_irrefl _)
  ·subst h4;exact absurd (h.box_lt hy) (by rw[hb];exact Nat.lt_irrefl _)
  ·exact h.dbox t t' x x' hy hy' hb
 ·intro t t' x x' hx hx' hb;rcases key t x hx with⟨_,h2⟩|⟨_,hy⟩
  ·subst h2;exact Nat.lt_irrefl _ (h.obj_lt hx' hb)
  ·exact h.dmix t t' x x' hy hx' hb
theorem InvH.alloc_obj(h:InvH P C M H w)(tag:Nat)(e:TypeId)(rows:List (List PV))(wr:Bool)(cap:Nat)(cs:Array Value)(i:TypeInfo)(hi:P.info? e=some i)
  (hby:rows.length*i.bytes≤2^47) (hl:∀r∈rows,r.length=i.size) (hs:cs.size=cap*i.size) (hc:rows.length≤cap) (hm:cap≤maxLen)
  (hr:ay P M false rows.flatten (cs.toList.take (rows.length*i.size))) (h1c:∀v∈cs.toList.take (rows.length*i.size),v.oneCell'=true):
  InvH P C M ⟨H.bx,upd H.ob tag (some ⟨⟨some w.heap.size,cap⟩,e,rows,wr⟩)⟩ (w.alloc (.cells cs e)):=by
 have h':=h.alloc_plain (.cells cs e)
 have key:∀t x,upd H.ob tag (some ⟨⟨some w.heap.size,cap⟩,e,rows,wr⟩) t=some x→(t=tag∧x=⟨⟨some w.heap.size,cap⟩,e,rows,wr⟩)∨(t≠tag∧H.ob t=some x):=by
  intro t x hx;by_cases ht:t=tag
  ·subst ht;rw[ef]at hx;exact .inl ⟨rfl,(Option.some.inj hx).symm⟩
  ·rw[eK _ _ ht]at hx;exact .inr ⟨ht,hx⟩
 refine⟨h'.mem,h'.ext,h'.new,h'.os,h'.tape,h'.output,h'.size,h'.frame,h'.boxes,?_,h'.dbox,?_,?_⟩
 ·intro t x hx;rcases key t x hx with⟨_,rfl⟩|⟨_,hx⟩
  ·exact⟨i,hi,hby,hl,.inr ⟨w.heap.size,cs,rfl,.inl h.size,heap_alloc_new w _,hs,hc,hm,hr,h1c,fun _=>h.fresh,fun o _=>h.fresh o⟩⟩
  ·exact h'.objs t x hx
 ·intro t t' x x' b hx hx' hb hb';rcases key t x hx with⟨h1,h2⟩|⟨_,hy⟩<;>rcases key t' x' hx' with⟨h3,h4⟩|⟨_,hy'⟩
  ·rw[h1,h3]
  ·subst h2;cases hb;exact absurd (h.obj_lt hy' hb') (Nat.lt_irrefl _)
  ·subst h4;cases hb';exact absurd (h.obj_lt hy hb) (Nat.lt_irrefl _)
  ·exact h.dobj t t' x x' b hy hy' hb hb'
 ·intro t t' x x' hx hx' hb;rcases key t' x' hx' with⟨_,h4⟩|⟨_,hy'⟩
  ·subst h4;have hb':w.heap.size=x.b:=by simpa using hb
   exact Nat.lt_irrefl _ (hb'▸h.box_lt hx)
  ·exact h.dmix t t' x x' hx hy' hb
theorem lg(w:World)(g:Nat)(cs:Array Value){b k:Nat}(h:b≠g):(w.setRow g cs).cell? ⟨b,k,none⟩=w.cell? ⟨b,k,none⟩:=by
 have:=setRow_other w g b cs h
 simp[World.cell?,this]
theorem InvH.set_box(h:InvH P C M H w)(tag:Nat)(x:Box)(hx:H.bx tag=some x)(hok:okS x.cells=true)(cells:List PV)(cs:Array Value)(hr:ay P M true cells cs.toList):
  InvH P C M ⟨upd H.bx tag (some ⟨x.b,cells⟩),H.ob⟩ (w.setRow x.b cs):=by
 obtain⟨hmine,⟨old,e,hold,_⟩,hnone⟩:=(h.boxes tag x hx).cells hok
 have key:∀t y,upd H.bx tag (some ⟨x.b,cells⟩) t=some y→(t=tag∧y=⟨x.b,cells⟩)∨(t≠tag∧H.bx t=some y):=by
  intro t y hy;by_cases ht:t=tag
  ·subst ht;rw[ef]at hy;exact .inl ⟨rfl,(Option.some.inj hy).symm⟩
  ·rw[eK _ _ ht]at hy;exact .inr ⟨ht,hy⟩
 refine⟨?_,h.ext,h.new,h.os,h.tape,h.output,?_,?_,?_,?_,?_,h.dobj,?_⟩
 ·intro b o v hm;have hne:b≠x.b:=fun e=>by rw[e,hnone]at hm;cases hm
  rw[lg w _ _ hne];exact h.mem b o v hm
 ·simpa using h.size
 ·intro b hb hn
  have hne:b≠x.b:=fun e=>by
   rcases hmine with hm|hm
   ·omega
   ·exact hn (e▸hm)
  rw[setRow_other w _ b _ hne];exact h.frame b hb hn
 ·intro t y hy;rcases key t y hy with⟨_,rfl⟩|⟨ht,hy⟩
  ·exact⟨hmine,⟨_,setRow_heap w x.b old cs e _ hold,hr⟩,hnone⟩
  ·exact(h.boxes t y hy).keep (Mem.le_refl M) (fun o ho=>ho) (setRow_other w _ _ _ fun e=>ht (h.dbox t tag y x hy hx e))
 ·intro t y hy
  exact(h.objs t y hy).keep (Mem.le_refl M) (fun b o hb ho=>ho) (fun b hb=>setRow_other w _ _ _ fun e=>h.dmix tag t x y hx hy (e▸hb))
 ·intro t t' y y' hy hy' hb;rcases key t y hy with⟨h1,h2⟩|⟨_,hz⟩<;>rcases key t' y' hy' with⟨h3,h4⟩|⟨_,hz'⟩
  ·rw[h1,h3]
  ·subst h1;subst h2;exact h.dbox _ t' x y' hx hz' hb
  ·subst h3;subst h4;exact h.dbox t _ y x hz hx hb
  ·exact h.dbox t t' y y' hz hz' hb
 ·intro t t' y y' hy hy' hb;rcases key t y hy with⟨h1,h2⟩|⟨_,hz⟩
  ·subst h1;subst h2;exact h.dmix _ t' x y' hx hy' hb
  ·exact h.dmix t t' y y' hz hy' hb
theorem InvH.set_obj(h:InvH P C M H w)(tag:Nat)(x:Obj)(hx:H.ob tag=some x)(b:Nat)(hb:x.g.blk=some b)(rows:List (List PV))(wr:Bool)(cs:Array Value)(i:TypeInfo)
  (hi:P.info? x.e=some i) (hby:rows.length*i.bytes≤2^47) (hl:∀r∈rows,r.length=i.size) (hs:cs.size=x.g.cap*i.size) (hc:rows.length≤x.g.cap) (hm:x.g.cap≤maxLen)
  (hr:ay P M false rows.flatten (cs.toList.take (rows.length*i.size))) (h1c:∀v∈cs.toList.take (rows.length*i.size),v.oneCell'=true)
  (hkeep:∀o v,M b o=some v→cs[o]? =some v) (hwr:wr=true→∀o,M b o=none) (hlen:∀o,rows.length*i.size≤o→M b o=none):
  InvH P C M ⟨H.bx,upd H.ob tag (some ⟨x.g,x.e,rows,wr⟩)⟩ (w.setRow b cs):=by
 obtain⟨i',hi',_,_,hn|⟨b',cur,hb',hmine,hold,_⟩⟩:=h.objs tag x hx
 ·rw[hn.1]at hb;cases hb
 rw[hb]at hb';cases hb'
 have key:∀t y,upd H.ob tag (some ⟨x.g,x.e,rows,wr⟩) t=some y→(t=tag∧y=⟨x.g,x.e,rows,wr⟩)∨(t≠tag∧H.ob t=some y):=by
  intro t y hy;by_cases ht:t=tag
  ·subst ht;rw[ef]at hy;exact .inl ⟨rfl,(Option.some.inj hy).symm⟩
  ·rw[eK _ _ ht]at hy;exact .inr ⟨ht,hy⟩
 refine⟨?_,h.ext,h.new,h.os,h.tape,h.output,?_,?_,?_,?_,h.dbox,?_,?_⟩
 ·intro k o v hm;by_cases hk:k=b
  ·subst hk;rw[cell_of_row (w.setRow k cs) k o cs x.e (0,0) (setRow_heap w k cur cs _ _ hold)];exact hkeep o v hm
  ·rw[lg w _ _ hk];exact h.mem k o v hm
 ·simpa using h.size
 ·intro k hk hn
  have hne:k≠b:=fun e=>by
   rcases hmine with hm|hm
   ·omega
   ·exact hn (e▸hm)
  rw[setRow_other w _ k _ hne];exact h.frame k hk hn
 ·intro t y hy
  exact(h.boxes t y hy).keep (Mem.le_refl M) (fun o ho=>ho) (setRow_other w _ _ _ fun e=>h.dmix t tag y x hy hx (e▸hb))
 ·intro t y hy;rcases key t y hy with⟨_,rfl⟩|⟨ht,hy⟩
  ·exact⟨i,hi,hby,hl,.inr ⟨b,cs,hb,hmine,setRow_heap w b cur cs _ _ hold,hs,hc,hm,hr,h1c,hwr,hlen⟩⟩
  ·exact(h.objs t y hy).keep (Mem.le_refl M) (fun k o hk ho=>ho) (fun k hk=>setRow_other w _ _ _ fun e=>ht (h.dobj t tag y x b hy hx (e▸hk) hb))
 ·intro t t' y y' k hy hy' hk hk';rcases key t y hy with⟨h1,h2⟩|⟨_,hz⟩<;>rcases key t' y' hy' with⟨h3,h4⟩|⟨_,hz'⟩
  ·rw[h1,h3]
  ·subst h1;subst h2;exact h.dobj _ t' x y' k hx hz' hk hk'
  ·subst h3;subst h4;exact h.dobj t _ y x k hz hx hk hk'
  ·exact h.dobj t t' y y' k hz hz' hk hk'
 ·intro t t' y y' hy hy' hk;rcases key t' y' hy' with⟨h1,h2⟩|⟨_,hz'⟩
  ·subst h1;subst h2;exact h.dmix t _ y x hy hx hk
  ·exact h.dmix t t' y y' hy hz' hk
end
structure PState where
 n:Nat
 s:Nat→PV
 bx:Nat→Option Box
 ob:Nat→Option Obj
def PState.heap(st:PState):Heap:=⟨st.bx,st.ob⟩
def gF(P:Program)(ds:List Deferred)(M:Mem)(n:Nat)(s:Nat→PV)(a:Act):Prop:=
 a.tmps.size=n∧a.defers=ds∧∀t,Rep P M true (s t) (a.tmps.getD t undef)
def dM(P:Program)(C:Ctx)(M:Mem)(st:PState)(a:Act)(w:World):Prop:=
 gF P C.ds M st.n st.s a∧InvH P C M st.heap w
def constPV:Value→PV
 | .string s=>bif Nat.ble s.data.toList.length dB then .str s.data.toList else .val (.string s)
 |v=>.val v
def evS(s:Nat→PV):Operand→PV
 | .tmp t=>s t
 | .const v=>constPV v
 | .global _=>.any
 | .func f=>.fn f []
theorem Rep.constPV{P:Program}{M:Mem}{b:Bool}(v:Value):Rep P M b (constPV v) v:=by
 cases v
 case string x=>
  simp only[Ab.constPV];cases h:Nat.ble x.data.toList.length dB
  ·simp[Rep]
  ·simp only[zc,Rep]
   exact⟨by simp,by simpa[Nat.ble_eq]using h⟩
 all_goals simp[Ab.constPV,Rep]
theorem gF.ev{P:Program}{ds:List Deferred}{M:Mem}{n:Nat}{s:Nat→PV}{a:Act}(h:gF P ds M n s a)(x:Operand):Rep P M true (evS s x) (a.eval x):=by
 cases x with
 |tmp t=>exact h.2.2 t
 |const v=>exact Rep.constPV v
 |global g=>simp[evS,Rep]
 |func f=>simp only[evS,Act.eval,Rep];exact⟨#[],rfl,by simp[ay]⟩
theorem gF.mono{P:Program}{ds:List Deferred}{M M':Mem}{n:Nat}{s:Nat→PV}{a:Act}(h:gF P ds M n s a)(hle:M.le M'):gF P ds M' n s a:=
 ⟨h.1,h.2.1,fun t=>Rep.mono hle (h.2.2 t)⟩
theorem gF.put{P:Program}{ds:List Deferred}{M:Mem}{n:Nat}{s:Nat→PV}{a:Act}(h:gF P ds M n s a){d:Nat}(hd:d<n){p:PV}{v:Value}(hr:Rep P M true p v):
  gF P ds M n (upd s d p) (a.put (some d) v):=by
 refine⟨by simp[Act.put,h.1],by simp[Act.put,h.2.1],fun t=>?_⟩
 by_cases ht:t=d
 ·subst ht;rw[ef];simpa[Act.put,h.1,hd]using hr
 ·rw[eK _ _ ht]
  have:=h.2.2 t
  simp only[Array.getD_eq_getD_getElem?]at this⊢;simpa[Act.put,Array.getElem?_setIfInBounds_ne (Ne.symm ht)]using this
def putD(n:Nat)(s:Nat→PV)(dst:Option Tmp)(p:PV):Option (Nat→PV):=
 match dst with
 |none=>some s
 |some d=>bif Nat.blt d n then some (upd s d p)else none
theorem gF.putD{P:Program}{ds:List Deferred}{M:Mem}{n:Nat}{s s':Nat→PV}{a:Act}(h:gF P ds M n s a){dst:Option Tmp}{p:PV}{v:Value}(hs:putD n s dst p=some s')(hr:Rep P M true p v):
  gF P ds M n s' (a.put dst v):=by
 cases dst with
 |none=>simp only[Ab.putD,zo]at hs;subst hs;exact h
 |some d=>
  simp only[Ab.putD]at hs;cases hb:Nat.blt d n with
  |false=>simp[hb]at hs
  |true=>
   simp only[hb,zc,zo]at hs;subst hs;exact h.put (by simpa[Nat.blt_eq]using hb) hr
def PanP(P:Program)(Px:PV→Prop)(C:Ctx)(ch:List PanicEntry)(w:World):Prop:=
 ∃v u M',ch=[{v:=v,recovered:=false}]∧Px u∧InvH P C M' Heap.empty w∧Rep P M' true u v
structure PanQ (P:Program) (Px:PV→Prop) (C:Ctx) (ds:List Deferred) where
 f:Exit→Act→World→Prop
 pan:∀ch a w,a.defers=ds→PanP P Px C ch w→f (.panic ch) a w
def PanQ.cast{P:Program}{Px:PV→Prop}{C:Ctx}{ds ds':List Deferred}(Q:PanQ P Px C ds)(h:ds'=ds):PanQ P Px C ds':=⟨Q.f,fun ch a w hd=>Q.pan ch a w (hd.trans h)⟩
def nPx:PV→Prop:=fun _=>False
def PanQ.no{P:Program}{C:Ctx}{ds:List Deferred}(f:Exit→Act→World→Prop):PanQ P nPx C ds:=⟨f,fun _ _ _ _ ⟨_,_,_,_,h,_⟩=>h.elim⟩
def Eff(P:Program)(Px:PV→Prop)(o:Oper)(ev:Operand→PV)(H:Heap)(K:PV→Heap→Prop):Prop:=
 ∀C M a w (next:Act→World→Prop) (Q:PanQ P Px C a.defers),InvH P C M H w→(∀x∈o.op.operands,Rep P M true (ev x) (a.eval x))→
  (∀v u H' M' w',K u H'→M.le M'→InvH P C M' H' w'→Rep P M' true u v→next (a.put o.dst v) w')→o.wp P a w next Q.f
theorem Eff.mono{P:Program}{Px:PV→Prop}{o:Oper}{ev:Operand→PV}{H:Heap}{K K':PV→Heap→Prop}(h:Eff P Px o ev H K)(hk:∀u H',K u H'→K' u H'):Eff P Px o ev H K':=
 fun C M a w next Q hi he hn=>h C M a w next Q hi he fun v u H' M' w' hK=>hn v u H' M' w' (hk u H' hK)
structure TInfo where
 desc:TypeDesc
 size:Nat
 bytes:Nat
 zero:Value
 eqf:List (Nat×Nat)
inductive TT where
 |leaf
 |node (k:Nat) (v:TInfo) (l r:TT)
def TT.get:TT→Nat→Option TInfo
 | .leaf,_=>none
 | .node k v l r,t=>bif Nat.beq t k then some v else bif Nat.blt t k then l.get t else r.get t
def cS:List Field→List (Nat×Nat)→Prop
 |[],[]=>True
 |f::fs,(t,o)::r=>f.name≠ "_" ∧f.type=t∧f.offset=o∧cS fs r
 |_,_=>False
structure TInfo.Ok(P:Program)(k:Nat)(v:TInfo):Prop where
 info:∃i,P.info? k=some i∧i.size=v.size∧i.bytes=v.bytes∧i.zero=some v.zero
 und:P.underlying k=some v.desc
 eqs:v.eqf≠[]→P.stoodInHeld k=false∧P.eqGuardType P.depth k=false∧cS (P.fieldsOf k).toList v.eqf∧P.underlying k=some (.struct (P.fieldsOf k))
def TT.Ok(P:Program):TT→Prop
 | .leaf=>True
 | .node k v l r=>v.Ok P k∧l.Ok P∧r.Ok P
theorem TT.Ok.get{P:Program}:∀{T:TT} (_:T.Ok P) {t:Nat} {v:TInfo},T.get t=some v→v.Ok P t
 | .leaf,_,t,v,h=>by simp[TT.get]at h
 | .node k u l r,hT,t,v,h=>by
  simp only[TT.get]at h;cases h1:Nat.beq t k with
  |true=>
   simp only[h1,zc,zo]at h;rw[Nat.eq_of_beq_eq_true h1,←h];exact hT.1
  |false=>
   simp only[h1,zd]at h;cases h2:Nat.blt t k with
   |true=>simp only[h2,zc]at h;exact TT.Ok.get hT.2.1 h
   |false=>simp only[h2,zd]at h;exact TT.Ok.get hT.2.2 h
def iy:TypeDesc→Bool
 | .struct _| .array _ _=>true
 |_=>false
section facts
variable{P:Program}{Px:PV→Prop}{k:Nat}{v:TInfo}(h:v.Ok P k)(w:World)
include h
theorem TInfo.Ok.rund:(underlying k).run P w= .ok v.desc w:=run_underlying h.und w
theorem TInfo.Ok.rsize:(sizeOf k).run P w= .ok v.size w:=by
 obtain⟨i,hi,hs,_⟩:=h.info
 simp[sizeOf,typeInfo,hi,hs]
theorem TInfo.Ok.rzero:(zeroValue k).run P w= .ok v.zero w:=by
 obtain⟨i,hi,_,_,hz⟩:=h.info
 simp[zeroValue,typeInfo,hi,hz]
theorem TInfo.Ok.ragg:(isAgg k).run P w= .ok (iy v.desc) w:=by
 unfold isAgg;rw[Sem.run_bind,h.rund w];cases v.desc<;>rfl
end facts
def head1:PV→Option PV
 | .any=>some .any
 | .val v=>some (.val v)
 | .str l=>some (.str l)
 | .list e r=>some (.list e r)
 | .agg cs=>some (.agg cs)
 | .tup cs=>some (.tup cs)
 | .ptr cs=>some (.ptr cs)
 | .fn f cs=>some (.fn f cs)
 | .box t b o=>some (.box t b o)
 | .own t g l=>some (.own t g l)
 | .optr t g k r o=>some (.optr t g k r o)
 | .err b=>some (.err b)
 | .ifc t p=>some (.ifc t p)
theorem head1_eq(p:PV):head1 p=some p:=by cases p<;>rfl
def dl:List PV→Option (List PV)
 |[]=>some []
 |p::ps=>match head1 p,dl ps with
  |some q,some qs=>some (q::qs)
  |_,_=>none
theorem db:∀l,dl l=some l
 |[]=>rfl
 |p::ps=>by simp[dl,head1_eq,db ps]
def iW:PV→Option PV
 | .any=>some .any
 | .val v=>some (.val v)
 | .str l=>some (.str l)
 | .list e r=>some (.list e r)
 | .agg cs=>match dl cs with
  |some l=>some (.agg l)
  |none=>none
 | .tup cs=>match dl cs with
  |some l=>some (.tup l)
  |none=>none
 | .ptr cs=>match dl cs with
  |some l=>some (.ptr l)
  |none=>none
 | .fn f cs=>some (.fn f cs)
 | .box t b o=>some (.box t b o)
 | .own t g l=>some (.own t g l)
 | .optr t g k r o=>some (.optr t g k r o)
 | .err b=>some (.err b)
 | .ifc t p=>some (.ifc t p)
theorem kh(p:PV):iW p=some p:=by cases p<;>simp[iW,db]
def fS(ti:TInfo)(off:Nat)(cells:List PV):Option PV:=
 bif iy ti.desc then(bif Nat.ble (off+ti.size) cells.length then some (.agg ((cells.drop off).take ti.size))else none)
 else cells[off]?
def dV(ti:TInfo)(off:Nat)(cells:List PV):Option PV:=bif okS cells then fS ti off cells else none
theorem readBox_some{ti:TInfo}{off:Nat}{cells:List PV}{r:PV}(h:dV ti off cells=some r):okS cells=true∧fS ti off cells=some r:=by
 unfold dV at h;cases hq:okS cells with
 |false=>rw[hq]at h;cases h
 |true=>rw[hq]at h;exact⟨rfl,h⟩
theorem dS(b o n:Nat):(⟨b,o,none⟩:Addr).add n=⟨b,o+n,none⟩:=by
 unfold Addr.add;split
 ·subst_vars;rfl
 ·rfl
theorem lh{P:Program}{M:Mem}{s:Bool}{k:Nat}{ti:TInfo}(hk:ti.Ok P k)(w:World)(b o off:Nat)(cells:List PV)(xs:List Value)
  (hrep:ay P M s cells xs) (hmem:∀(j:Nat) (x:Value),xs[j]? =some x→w.cell? ⟨b,o+j,none⟩=some x)
  {r:PV} (hr:fS ti off cells=some r):
  ∃v,(loadVar k ⟨b,o+off,none⟩).run P w= .ok v w∧Rep P M s r v:=by
 unfold fS at hr;cases hd:iy ti.desc with
 |true=>
  simp only[hd,zc]at hr;cases hl:Nat.ble (off+ti.size) cells.length with
  |false=>simp[hl]at hr
  |true=>
   simp only[hl,zc,zo]at hr;subst hr;have hle:off+ti.size≤cells.length:=Nat.le_of_ble_eq_true hl;have hx:xs.length=cells.length:=hrep.length;have hlen:((xs.drop off).take ti.size).length=ti.size:=by simp[hx];omega
   have hload:=run_loadCells_list (P:=P) w ⟨b,o+off,none⟩ ((xs.drop off).take ti.size) (fun j v hv=>by
    rw[dS];rw[List.getElem?_take]at hv;split at hv
    ·rw[List.getElem?_drop]at hv
     have:=hmem _ _ hv
     rwa [←Nat.add_assoc]at this
    ·cases hv)
   rw[hlen]at hload
   refine⟨.agg ((xs.drop off).take ti.size).toArray,?_,?_⟩
   ·simp[loadVar,hk.ragg w,hd,hk.rsize w,hload]
   ·simp only[Rep]
    exact⟨_,rfl,by simpa using(hrep.drop off).take ti.size⟩
 |false=>
  simp only[hd,zd]at hr
  obtain⟨x,hx,hrx⟩:=hrep.get off r hr
  refine⟨x,?_,hrx⟩
  simp[loadVar,hk.ragg w,hd,hmem off x hx]
def scalarEq:TypeDesc→PV→PV→Option Bool
 | .int _,.val (.int k a),.val (.int k' b)=>bif decide (k=k')then some (a==b)else none
 | .bool,.val (.bool a),.val (.bool b)=>some (a==b)
 | .string,.str a,.str b=>some (a==b)
 |_,_,_=>none
def ib(T:TT):List (Nat×Nat)→List PV→List PV→Option Bool
 |[],_,_=>some true
 |(t,off)::r,xs,ys=>match T.get t,xs[off]?,ys[off]? with
  |some ti,some p,some q=>match scalarEq ti.desc p q,ib T r xs ys with
   |some b,some c=>some (b&&c)
   |_,_=>none
  |_,_,_=>none
def cmpInt(op:BinOp)(a b:Int):Option Bool:=
 match op with
 | .eql=>some (a==b)
 | .neq=>some (a !=b)
 | .lss=>some (decide (a<b))
 | .leq=>some (decide (a≤b))
 | .gtr=>some (decide (a>b))
 | .geq=>some (decide (a≥b))
 |_=>none
def cmpStr(op:BinOp)(a b:List UInt8):Option Bool:=
 match op with
 | .eql=>some (a==b)
 | .neq=>some (!(a==b))
 | .lss=>some (Op.bytesLess a b)
 | .leq=>some (Op.bytesLess a b||a==b)
 | .gtr=>some (!(Op.bytesLess a b||a==b))
 | .geq=>some (!(Op.bytesLess a b))
 |_=>none
def qbin(T:TT)(op:BinOp)(t:TypeId)(p q:PV):Option PV:=
 match p,q with
 | .val (.int k a),.val (.int k' b)=>
  bif decide (k=k')then
   match op with
   | .add=>some (.val (.int k (k.wrap (a+b))))
   | .sub=>some (.val (.int k (k.wrap (a-b))))
   | .mul=>some (.val (.int k (k.wrap (a*b))))
   | .quo=>if b=0 then none else some (.val (.int k (k.wrap (a.tdiv b))))
   | .rem=>if b=0 then none else some (.val (.int k (a.tmod b)))
   |op=>(cmpInt op a b).map fun c=>.val (.bool c)
  else none
 | .str a,.str b=>match op with
  | .add=>if a.length+b.length≤dB then some (.str (a++b))else none
  |op=>(cmpStr op a b).map fun c=>.val (.bool c)
 | .val (.bool a),.val (.bool b)=>match T.get t,op with
  |some ⟨.bool,_,_,_,_⟩,.eql=>some (.val (.bool (a==b)))
  |some ⟨.bool,_,_,_,_⟩,.neq=>some (.val (.bool (!(a==b))))
  |_,_=>none
 | .agg xs,.agg ys=>match T.get t with
  |some ti=>bif ti.eqf.isEmpty then none else
   match op with
   | .eql=>(ib T ti.eqf xs ys).map fun c=>.val (.bool c)
   | .neq=>(ib T ti.eqf xs ys).map fun c=>.val (.bool (!c))
   |_=>none
  |none=>none
 |_,_=>none
section bin
variable{P:Program}{Px:PV→Prop}{T:TT}{M:Mem}(hT:T.Ok P)(w:World)
include hT
omit hT in
theorem scalarEq_sound{d:Nat}{t:TypeId}{ti:TInfo}(hti:ti.Ok P t){p q:PV}{x y:Value}(hp:Rep P M true p x)(hq:Rep P M true q y){b:Bool}(h:scalarEq ti.desc p q=some b):
  iy ti.desc=false∧(Op.equalIn (d+1) t x y).run P w= .ok b w:=by
 obtain⟨desc,size,bytes,zero,eqf⟩:=ti
 have hu:=hti.und;simp only at hu h⊢;unfold scalarEq at h;split at h
 ·rename_i k0 k a k' b';simp only[Rep]at hp hq;subst hp hq;cases hk:decide (k=k')with
  |false=>simp[hk]at h
  |true=>
   simp only[hk,zc,zo]at h
   have:=of_decide_eq_true hk
   subst this h
   exact⟨rfl,run_equalIn_int w d t k k0 a b' hu⟩
 ·simp only[Rep]at hp hq;subst hp hq;simp only[zo]at h;subst h
  exact⟨rfl,run_equalIn_bool' w d t _ _ hu⟩
 ·rename_i a b';simp only[Rep]at hp hq
  obtain⟨rfl,_⟩:=hp
  obtain⟨rfl,_⟩:=hq
  simp only[zo]at h;subst h
  refine⟨rfl,?_⟩
  have:=run_equalIn_string (P:=P) w d t ⟨a.toArray⟩ ⟨b'.toArray⟩ hu
  simpa using this
 ·cases h
theorem jv{d:Nat}{xs ys:List PV}{cs ds:Array Value}(hx:ay P M true xs cs.toList)(hy:ay P M true ys ds.toList):
  ∀(fs:List Field) (eqf:List (Nat×Nat)) (b:Bool),cS fs eqf→ib T eqf xs ys=some b→(Op.eqFields (d+1) cs ds fs).run P w= .ok b w
 |[],[],b,_,h=>by simp only[ib,zo]at h;subst h;simp[Op.eqFields]
 |f::fs,(t,o)::r,b,hm,h=>by
  simp only[cS]at hm
  obtain⟨hn,rfl,rfl,hm⟩:=hm
  simp only[ib]at h;split at h
  ·rename_i ti p q hti hp hq;split at h
   ·rename_i b1 b2 h1 h2;simp only[zo]at h;subst h
    obtain⟨x,hx1,hx2⟩:=hx.get _ _ hp
    obtain⟨y,hy1,hy2⟩:=hy.get _ _ hq
    obtain⟨hag,heq⟩:=scalarEq_sound w (d:=d) (hT.get hti) hx2 hy2 h1
    have hpx:∀(c:Array Value) (z:Value),c.toList[f.offset]? =some z→(part f.type c f.offset).run P w= .ok z w:=by
     intro c z hz;rw[Array.getElem?_toList]at hz;simp[part,(hT.get hti).ragg w,hag,hz]
    have ih:=jv (d:=d) hx hy fs r b2 hm h2;simp only[Op.eqFields,zp (show f.name≠ "_" from hn),Sem.run_bind,hpx _ _ hx1,hpx _ _ hy1,Result.andThen_ok,heq];cases b1<;>simp[ih]
   ·cases h
  ·cases h
 |[],_::_,b,hm,_=>by simp[cS]at hm
 |_::_,[],b,hm,_=>by simp[cS]at hm
theorem qbin_sound{op:BinOp}{t:TypeId}{p q r:PV}(h:qbin T op t p q=some r){x y:Value}(hp:Rep P M true p x)(hq:Rep P M true q y)(xo yo:Operand):
  ∃v,(do eqGuard op t xo yo x y;binOp op t x y:Sem Value).run P w= .ok v w∧Rep P M true r v:=by
 unfold qbin at h;split at h
 ·rename_i k a k' b;simp only[Rep]at hp hq;subst hp hq;cases hk:decide (k=k')with
  |false=>simp[hk]at h
  |true=>
   have:=of_decide_eq_true hk
   subst this;simp only[decide_true,zc]at h;have hg:(eqGuard op t xo yo (.int k a) (.int k b)).run P w= .ok () w:=by unfold eqGuard;split<;>simp
   rw[Sem.run_bind,hg,Result.andThen_ok]
   cases op<;>simp only[cmpInt,Option.map_some,Option.map_none,zo,reduceCtorEq]at h<;>
    (try split at h)<;>(try(simp only[zo,reduceCtorEq]at h))<;>(try subst h)<;>
    simp_all[binOp,Op.intArith,Op.intDiv,Op.intCmp,Rep]
 ·rename_i a b;simp only[Rep]at hp hq
  obtain⟨rfl,_⟩:=hp
  obtain⟨rfl,_⟩:=hq
  have hg:(eqGuard op t xo yo (.string ⟨a.toArray⟩) (.string ⟨b.toArray⟩)).run P w= .ok () w:=by unfold eqGuard;split<;>simp
  rw[Sem.run_bind,hg,Result.andThen_ok];have hs:∀l:List UInt8,(ByteArray.mk l.toArray).size=l.length:=fun l=>by simp[ByteArray.size]
  cases op<;>simp only[cmpStr,Option.map_some,Option.map_none,zo,reduceCtorEq]at h<;>
   (try split at h)<;>(try(simp only[zo,reduceCtorEq]at h))<;>(try subst h)<;>(try cases h)<;>
   simp[binOp,Op.stringOp,Rep]
  rename_i hle
  have h63:¬((9223372036854775807:Int)<(a.length:Int)+(b.length:Int)):=by
   unfold dB at hle;omega
  rw[hs,hs,zy h63,ByteArray.mk_append_mk];simp[hle]
 ·rename_i a b;simp only[Rep]at hp hq;subst hp hq;split at h
  ·rename_i hti;have hu:=(hT.get hti).und;simp only[zo]at h;subst h;have hg:(eqGuard .eql t xo yo (.bool a) (.bool b)).run P w= .ok () w:=by simp[eqGuard]
   rw[Sem.run_bind,hg,Result.andThen_ok]
   refine⟨.bool (a==b),?_,by simp only[Rep]⟩
   simp only[binOp,Op.equal,Op.maxDepth];rw[Sem.run_bind,run_equalIn_bool' w 9999 t a b hu];rfl
  ·rename_i hti;have hu:=(hT.get hti).und;simp only[zo]at h;subst h;have hg:(eqGuard .neq t xo yo (.bool a) (.bool b)).run P w= .ok () w:=by simp[eqGuard]
   rw[Sem.run_bind,hg,Result.andThen_ok]
   refine⟨.bool (!(a==b)),?_,by simp only[Rep]⟩
   simp only[binOp,Op.equal,Op.maxDepth];rw[Sem.run_bind,run_equalIn_bool' w 9999 t a b hu];rfl
  ·cases h
 ·rename_i xs ys;simp only[Rep]at hp hq
  obtain⟨cs,rfl,hc⟩:=hp
  obtain⟨ds,rfl,hd⟩:=hq
  split at h
  ·rename_i ti hti;cases he:ti.eqf.isEmpty with
   |true=>simp[he]at h
   |false=>
    simp only[he,zd]at h
    obtain⟨h1,h2,h3,h4⟩:=(hT.get hti).eqs (by intro h0;simp[h0]at he)
    rw[Sem.run_bind,run_eqGuard_agg w op t xo yo cs ds h2,Result.andThen_ok];split at h
    ·cases hb:ib T ti.eqf xs ys with
     |none=>simp[hb]at h
     |some b=>
      simp only[hb,Option.map_some,zo]at h;subst h
      refine⟨.bool b,?_,by simp only[Rep]⟩
      rw[run_eql_struct w t cs ds,show(10000:Nat)=9998+1+1 from rfl,run_equalIn_agg w (9998+1) t cs ds h4 h1,jv hT w (d:=9998) hc hd _ _ b h3 hb];rfl
    ·cases hb:ib T ti.eqf xs ys with
     |none=>simp[hb]at h
     |some b=>
      simp only[hb,Option.map_some,zo]at h;subst h
      refine⟨.bool (!b),?_,by simp only[Rep]⟩
      rw[run_neq_struct w t cs ds,show(10000:Nat)=9998+1+1 from rfl,run_equalIn_agg w (9998+1) t cs ds h4 h1,jv hT w (d:=9998) hc hd _ _ b h3 hb];rfl
    ·cases h
  ·cases h
 ·cases h
end bin
def cw:PV→Option (List PV)
 | .agg cs=>some cs
 | .val (.agg l)=>some (l.toList.map constPV)
 |p=>bif p.one then some [p]else none
theorem gg{P:Program}{M:Mem}{s:Bool}{p:PV}{x:Value}{cs:List PV}(h:cw p=some cs)(hr:Rep P M s p x):ay P M s cs x.cells.toList:=by
 have single:p.one=true→x.cells=#[x]:=by
  intro h1
  have:=Rep.oneCell h1 hr
  cases x<;>simp_all[Value.oneCell',Value.cells]
 cases p with
 |agg l=>
  simp only[cw,zo]at h;subst h;simp only[Rep]at hr
  obtain⟨c,rfl,hc⟩:=hr
  exact hc
 |val v=>
  cases v with
  |agg l=>
   simp only[cw,zo]at h;subst h;simp only[Rep]at hr;subst hr;show ay P M s (l.toList.map constPV) l.toList;generalize l.toList=z;induction z with
   |nil=>simp[ay]
   |cons v z ih=>simp only[List.map_cons,ay];exact⟨v,z,rfl,Rep.constPV v,ih⟩
  |_=>
   simp only[cw]at h;cases ho:PV.one _ with
   |false=>rw[ho]at h;simp at h
   |true=>
    rw[ho]at h;simp only[zc,zo]at h;subst h;rw[single ho];simp only[ay]
    exact⟨x,[],rfl,hr,rfl⟩
 |_=>
  simp only[cw]at h;cases ho:PV.one _ with
  |false=>rw[ho]at h;simp at h
  |true=>
   rw[ho]at h;simp only[zc,zo]at h;subst h;rw[single ho];simp only[ay]
   exact⟨x,[],rfl,hr,rfl⟩
def splice(cells:List PV)(off:Nat)(new:List PV):List PV:=cells.take off++new++cells.drop (off+new.length)
theorem lN{P:Program}{M:Mem}{s:Bool}{cells new:List PV}{cs ns:List Value}(hc:ay P M s cells cs)(hn:ay P M s new ns)(off:Nat):
  ay P M s (splice cells off new) (cs.take off++ns++cs.drop (off+ns.length)):=by
 unfold splice;rw[hn.length]
 exact((hc.take off).append hn).append (hc.drop _)
def gN(place:Nat→Option (Nat×Nat))(cells:List PV):List (Nat×PV)→Option (List PV)
 |[]=>some cells
 |(i,p)::r=>match place i,cw p with
  |some (off,size),some cs=>bif Nat.beq cs.length size&&Nat.ble (off+size) cells.length then gN place (splice cells off cs) r else none
  |_,_=>none
theorem kd(off:Nat):∀(xs:List Value) (k:Nat) (cur:Array Value),off+k+xs.length≤cur.size→
  ((xs.zipIdx k).foldl (fun cs (c,j)=>cs.setIfInBounds (off+j) c) cur).toList=cur.toList.take (off+k)++xs++cur.toList.drop (off+k+xs.length)
 |[],k,cur,_=>by simp
 |x::xs,k,cur,h=>by
  simp only[List.zipIdx_cons,List.foldl_cons]
  have:=kd off xs (k+1) (cur.setIfInBounds (off+k) x) (by simp at h⊢;omega)
  rw[this];have e:=list_seg_step cur.toList (off+k) x xs (by simp at h⊢;omega);simpa[Array.toList_setIfInBounds,Nat.add_assoc]using e
theorem kf{P:Program}{M:Mem}{s:Bool}{place:Nat→Option (Nat×Nat)}:∀{parts:List (Nat×PV)} {vals:List (Nat×Value)} {cells out:List PV} {cs:Array Value},
  gN place cells parts=some out→ay P M s cells cs.toList→parts.map (·.1)=vals.map (·.1)→ay P M s (parts.map (·.2)) (vals.map (·.2))→
  ∃cs',Instr.fill place cs vals=some cs'∧ay P M s out cs'.toList
 |[],vals,cells,out,cs,h,hc,hi,hv=>by
  simp only[gN,zo]at h;subst h
  have:vals=[]:=by cases vals<;>simp_all
  subst this
  exact⟨cs,rfl,hc⟩
 |(i,p)::r,[],cells,out,cs,h,hc,hi,hv=>by simp at hi
 |(i,p)::r,(j,v)::vs,cells,out,cs,h,hc,hi,hv=>by
  simp only[List.map_cons,List.cons.injEq]at hi
  obtain⟨rfl,hi⟩:=hi
  simp only[List.map_cons,ay]at hv
  obtain⟨x,xs,hxe,hpx,hrest⟩:=hv
  simp only[List.cons.injEq]at hxe
  obtain⟨rfl,rfl⟩:=hxe
  simp only[gN]at h;split at h
  ·rename_i off size pc hpl hpc;cases hb:(Nat.beq pc.length size&&Nat.ble (off+size) cells.length)with
   |false=>simp[hb]at h
   |true=>
    simp only[hb,zc]at h;simp only[Bool.and_eq_true]at hb;have h1:pc.length=size:=Nat.eq_of_beq_eq_true hb.1;have h2:off+size≤cells.length:=Nat.le_of_ble_eq_true hb.2;have hpcr:=gg hpc hpx;have hvl:v.cells.size=size:=by have:=hpcr.length;simp at this;omega
    have hcl:cs.size=cells.length:=by have:=hc.length;simpa using this
    have hfold:=kd off v.cells.toList 0 cs (by simp;omega)
    have hz:v.cells.zipIdx.foldl (fun cs (c,j)=>cs.setIfInBounds (off+j) c) cs=(v.cells.toList.zipIdx 0).foldl (fun cs (c,j)=>cs.setIfInBounds (off+j) c) cs:=by
     rw[←Array.foldl_toList];simp
    have hrep:ay P M s (splice cells off pc) (v.cells.zipIdx.foldl (fun cs (c,j)=>cs.setIfInBounds (off+j) c) cs).toList:=by
     rw[hz,hfold];simpa using lN hc hpcr off
    obtain⟨cs',hf,ho⟩:=kf h hrep hi hrest
    refine⟨cs',?_,ho⟩
    simp only[Instr.fill,hpl];rw[zy (by simp[hvl];omega)];exact hf
  ·cases h
def fy(ti:TInfo):List PV:=ti.zero.cells.toList.map constPV
theorem lz{P:Program}{M:Mem}{s:Bool}(l:List Value):ay P M s (l.map constPV) l:=by
 induction l with
 |nil=>simp[ay]
 |cons v l ih=>simp only[List.map_cons,ay];exact⟨v,l,rfl,Rep.constPV v,ih⟩
def im(T:TT):List Field→Option (List (Nat×Nat))
 |[]=>some []
 |f::fs=>match T.get f.type,im T fs with
  |some ti,some l=>some ((f.offset,ti.size)::l)
  |_,_=>none
theorem lG{P:Program}{T:TT}(hT:T.Ok P)(w:World):∀{fs:List Field} {l:List (Nat×Nat)},im T fs=some l→
  (fs.mapM fun f=>(do pure (f.offset,←sizeOf f.type):Sem (Nat×Nat))).run P w= .ok l w
 |[],l,h=>by simp only[im,zo]at h;subst h;simp
 |f::fs,l,h=>by
  simp only[im]at h;split at h
  ·rename_i ti l' h1 h2;simp only[zo]at h;subst h;have ih:=lG hT w h2;rw[List.mapM_cons];simp only[Sem.run_bind,(hT.get h1).rsize w,Result.andThen_ok,Sem.run_pure,ih]
  ·cases h
def ep(ev:Operand→PV)(ps:Array (Nat×Operand)):List (Nat×PV):=ps.toList.map fun p=>(p.1,ev p.2)
def buildPV(T:TT)(t:TypeId)(parts:List (Nat×PV)):Option PV:=
 match T.get t with
 |some ti=>match ti.desc with
  | .struct fs=>match im T fs.toList with
   |some l=>(gN (fun(i:Nat)=>l[i]?) (fy ti) parts).map .agg
   |none=>none
  |_=>none
 |none=>none
theorem mT{P:Program}{M:Mem}{s:Bool}{ev:Operand→PV}{ρ:Operand→Value}(ps:List (Nat×Operand))(h:∀x∈ps.map (·.2),Rep P M s (ev x) (ρ x)):
  (ps.map fun p=>(p.1,ev p.2)).map (·.1)=(ps.map fun p=>(p.1,ρ p.2)).map (·.1)∧ay P M s ((ps.map fun p=>(p.1,ev p.2)).map (·.2)) ((ps.map fun p=>(p.1,ρ p.2)).map (·.2)):=by
 induction ps with
 |nil=>simp[ay]
 |cons p ps ih=>
  have ih':=ih fun x hx=>h x (by simp only[List.map_cons,List.mem_cons];exact .inr hx)
  refine⟨by simp,?_⟩
  simp only[List.map_cons,ay]
  exact⟨_,_,rfl,h p.2 (by simp),ih'.2⟩
theorem map_pairs(ρ:Operand→Value)(ps:Array (Nat×Operand)):(ps.map fun(i,x)=>(i,ρ x))=ps.map fun p=>(p.1,ρ p.2):=rfl
theorem buildPV_sound{P:Program}{T:TT}(hT:T.Ok P){M:Mem}{s:Bool}{ev:Operand→PV}{ρ:Operand→Value}(w:World){t:TypeId}{ps:Array (Nat×Operand)}{r:PV}
  (h:buildPV T t (ep ev ps)=some r) (he:∀x∈ps.toList.map (·.2),Rep P M s (ev x) (ρ x)):
  ∃v,(Instr.build t (ps.map fun p=>(p.1,ρ p.2))).run P w= .ok v w∧Rep P M s r v:=by
 unfold buildPV at h;split at h
 ·rename_i ti hti;have hk:=hT.get hti;split at h
  ·rename_i fs hfs;split at h
   ·rename_i l hl;cases hf:gN (fun(i:Nat)=>l[i]?) (fy ti) (ep ev ps)with
    |none=>simp[hf]at h
    |some out=>
     simp only[hf,Option.map_some,zo]at h;subst h
     obtain⟨h1,h2⟩:=mT (P:=P) (M:=M) (s:=s) ps.toList he
     have hu:=hk.rund w;rw[hfs]at hu
     obtain⟨cs',hfill,hrep⟩:=kf (s:=s) (cs:=ti.zero.cells) (vals:=ps.toList.map fun(p:Nat×Operand)=>(p.1,ρ p.2)) hf (lz _) h1 h2
     refine⟨.agg cs',?_,by simp only[Rep];exact⟨cs',rfl,hrep⟩⟩
     have hpl:(fs.mapM fun f=>(do pure (f.offset,←sizeOf f.type):Sem (Nat×Nat))).run P w= .ok l.toArray w:=by
      rw[Array.mapM_eq_mapM_toList,Sem.run_map,lG hT w hl];rfl
     have hgl:(fun(i:Nat)=>l.toArray[i]?)=fun(i:Nat)=>l[i]?:=by funext i;simp
     simp only[Instr.build,Sem.run_bind,hk.rzero w,Result.andThen_ok,hu,hpl,Array.toList_map];have e3:Instr.fill (fun(i:Nat)=>l.toArray[i]?) ti.zero.cells (ps.toList.map fun p=>(p.1,ρ p.2))=some cs':=by rw[hgl];exact hfill
     rw[e3];rfl
   ·cases h
  ·cases h
 ·cases h
def mJ(p:PV)(n:Nat):Option PV:=
 match p with
 | .box tag b off=>some (.box tag b (off+n))
 | .ptr cells=>some (.ptr (cells.drop n))
 | .optr tag g k row off=>some (.optr tag g k row (off+n))
 |_=>none
def lenPV:PV→Option Nat
 | .list _ rows=>some rows.length
 | .own _ _ n=>some n
 | .str l=>some l.length
 | .val (.slice none n _)=>some n
 |_=>none
def gA(p:Option PV)(dflt:Nat):Option Int:=
 match p with
 |none=>some dflt
 |some (.val (.int _ n))=>some n
 |_=>none
def li(d:TypeDesc)(p:PV)(lo hi:Option PV):Option PV:=
 match d,p with
 | .string,.str l=>match gA lo 0,gA hi l.length with
  |some a,some b=>if 0≤a∧a≤b∧b≤l.length then some (.str ((l.take b.toNat).drop a.toNat))else none
  |_,_=>none
 | .slice e,.list e' rows=>bif Nat.beq e e' then
   match gA lo 0,gA hi rows.length with
   |some a,some b=>if 0≤a∧a≤b∧b≤rows.length then some (.list e' ((rows.take b.toNat).drop a.toNat))else none
   |_,_=>none
  else none
 |_,_=>none
def noNil:PV→Bool
 | .box _ _ _| .ptr _| .optr _ _ _ _ _| .fn _ _=>true
 |_=>false
def jc(T:TT)(c:Call)(ev:Operand→PV):Option PV:=
 match c.callee,c.args.toList,c.argTypes.toList with
 | .builtin .len,[x],t::_=>match T.get t with
  |some ti=>match ti.desc,ev x with
   | .string,.str l=>some (.val (.int .i64 l.length))
   | .slice _,p=>(lenPV p).bind fun n=>match p with
    | .str _=>none
    |_=>some (.val (.int .i64 n))
   |_,_=>none
  |none=>none
 | .builtin .min,[x,y],_=>match ev x,ev y with
  | .val (.int k a),.val (.int _ b)=>some (.val (.int k (if b<a then b else a)))
  |_,_=>none
 | .builtin .max,[x,y],_=>match ev x,ev y with
  | .val (.int k a),.val (.int _ b)=>some (.val (.int k (if b>a then b else a)))
  |_,_=>none
 |_,_,_=>none
def jg(bx:Nat→Option Box)(ti:TInfo):PV→Option PV
 | .ptr cells=>fS ti 0 cells
 | .box tag b off=>match bx tag with
  |some x=>if x.b=b then dV ti off x.cells else none
  |none=>none
 |_=>none
def eJ(T:TT)(bx:Nat→Option Box)(op:Op)(ev:Operand→PV):Option PV:=
 match op with
 | .move x| .assign x=>some (ev x)
 | .pick c a b=>match ev c with
  | .val (.bool true)=>some (ev a)
  | .val (.bool false)=>some (ev b)
  |_=>none
 | .load t x=>match T.get t with
  |some ti=>jg bx ti (ev x)
  |none=>none
 | .fieldAddr t x f=>match T.get t with
  |some ti=>match ti.desc with
   | .struct fs=>match fs[f]? with
    |some fd=>match T.get fd.type with
     |some fi=>bif Nat.beq fi.size 0 then none else mJ (ev x) fd.offset
     |none=>none
    |none=>none
   |_=>none
  |none=>none
 | .field t x f=>match T.get t with
  |some ti=>match ti.desc with
   | .struct fs=>match fs[f]? with
    |some fd=>match T.get fd.type,ev x with
     |some fi,.agg cells=>fS fi fd.offset cells
     |_,_=>none
    |none=>none
   |_=>none
  |none=>none
 | .indexAddr t x i=>match T.get t,ev x,ev i with
  |some ti,.list e rows,.val (.int _ n)=>match ti.desc with
   | .slice e'=>bif Nat.beq e e' then(if 0≤n then(rows[n.toNat]?).map .ptr else none)else none
   |_=>none
  |some ti,.box tag b off,.val (.int _ n)=>match ti.desc with
   | .array len e=>match T.get e with
    |some ei=>if 0≤n∧n<len then some (.box tag b (off+n.toNat*ei.size))else none
    |none=>none
   |_=>none
  |_,_,_=>none
 | .index t x i=>match T.get t,ev x,ev i with
  |some ti,.str l,.val (.int _ n)=>match ti.desc with
   | .string=>if 0≤n then(l[n.toNat]?).map fun c=>.val (.int .u8 c.toNat)else none
   |_=>none
  |_,_,_=>none
 | .binOp op t x y _=>qbin T op t (ev x) (ev y)
 | .unOp op _ x=>match op,ev x with
  | .not,.val (.bool b)=>some (.val (.bool (!b)))
  | .neg,.val (.int k n)=>some (.val (.int k (k.wrap (0-n))))
  |_,_=>none
 | .convert src dst x=>match T.get src,T.get dst,ev x with
  |some _,some ti,.val (.int _ n)=>match ti.desc with
   | .int k=>some (.val (.int k (k.wrap n)))
   |_=>none
  |some _,some ti,.str l=>match ti.desc with
   | .string=>some (.str l)
   |_=>none
  |_,_,_=>none
 | .extract x i=>match ev x with
  | .tup vs=>vs[i]?
  |_=>none
 | .build t ps=>buildPV T t (ep ev ps)
 | .slice t x lo hi none=>match T.get t with
  |some ti=>li ti.desc (ev x) (lo.map ev) (hi.map ev)
  |none=>none
 | .makeFunc (.func f) first caps=>bif first.isEmpty then(match dl (caps.toList.map ev)with|some l=>some (.fn f l)|none=>none)else none
 | .nilCheck x=>bif noNil (ev x)then some (ev x)else none
 | .call c=>jc T c ev
 |_=>none
def DetOk(P:Program)(o:Oper)(ev:Operand→PV)(H:Heap)(r:PV):Prop:=
 ∀(C:Ctx) (M:Mem) (a:Act) (w:World),InvH P C M H w→(∀x∈o.op.operands,Rep P M true (ev x) (a.eval x))→
  ∃v M' w',(execOp a.eval o).run P w= .ok (.value v) w'∧M.le M'∧InvH P C M' H w'∧Rep P M' true r v
theorem Eff.of_det{P:Program}{Px:PV→Prop}{o:Oper}{ev:Operand→PV}{H:Heap}{r:PV}(h:DetOk P o ev H r):Eff P Px o ev H fun u H'=>u=r∧H'=H:=by
 intro C M a w next Q hi he hn
 obtain⟨v,M',w',hrun,hle,hi',hr⟩:=h C M a w hi he
 unfold Oper.wp;rw[hrun];exact hn v r H M' w' ⟨rfl,rfl⟩ hle hi' hr
section
variable{P:Program}{Px:PV→Prop}{T:TT}(hT:T.Ok P)
include hT
theorem det_load{t:TypeId}{ti:TInfo}(hti:T.get t=some ti){C:Ctx}{M:Mem}{H:Heap}{w:World}(hi:InvH P C M H w){p r:PV}{v:Value}(hp:Rep P M true p v)
  (h:jg H.bx ti p=some r):∃u,(Instr.loadAt t v).run P w= .ok u w∧Rep P M true r u:=by
 have hk:=hT.get hti;cases p with
 |ptr cells=>
  simp only[Rep]at hp
  obtain⟨b,o,rfl,hat⟩:=hp
  obtain⟨xs,h1,_,h2⟩:=hat.vals
  obtain⟨u,h3,h4⟩:=lh hk w b o 0 cells xs h1 (fun j x hj=>hi.mem _ _ _ (h2 j x hj)) h
  exact⟨u,by simpa[Instr.loadAt,Instr.sureAddr]using h3,h4.slot⟩
 |box tag b off=>
  simp only[Rep]at hp
  obtain⟨_,rfl⟩:=hp
  simp only[jg]at h;split at h
  ·rename_i x hx;split at h
   ·rename_i hb;subst hb
    obtain⟨hok,h⟩:=readBox_some h
    obtain⟨_,⟨cs,e,hc,hr⟩,_⟩:=(hi.boxes tag x hx).cells hok
    obtain⟨u,h3,h4⟩:=lh hk w x.b 0 off x.cells cs.toList hr (fun j y hj=>by
     rw[cell_of_row w x.b (0+j) cs e (0,0) hc];simpa using hj) h
    exact⟨u,by simpa[Instr.loadAt,Instr.sureAddr]using h3,h4⟩
   ·cases h
  ·cases h
 |_=>cases h
omit hT in
theorem offAddr_sound{p r:PV}{n:Nat}(h:mJ p n=some r){M:Mem}{v:Value}(hp:Rep P M true p v):∃b o,v= .pointer (some ⟨b,o,none⟩)∧Rep P M true r (.pointer (some ⟨b,o+n,none⟩)):=by
 unfold mJ at h;split at h
 ·simp only[zo]at h;subst h;simp only[Rep]at hp⊢
  exact⟨_,_,hp.2,trivial,rfl⟩
 ·simp only[zo]at h;subst h;simp only[Rep]at hp⊢
  obtain⟨b,o,rfl,hat⟩:=hp
  exact⟨b,o,rfl,b,o+n,rfl,hat.drop n⟩
 ·simp only[zo]at h;subst h;simp only[Rep]at hp⊢
  obtain⟨_,b,hb,rfl⟩:=hp
  exact⟨b,_,rfl,trivial,b,hb,by rw[Nat.add_assoc]⟩
 ·cases h
theorem slicePV_sound{t:TypeId}{ti:TInfo}(hti:T.get t=some ti){p r:PV}{lo hi:Option PV}{ov oh:Option Value}(h:li ti.desc p lo hi=some r){M:Mem}(w:World){v:Value}(hp:Rep P M true p v)
  (h1:∀q,lo=some q→∃x,ov=some x∧Rep P M true q x) (h1':lo=none→ov=none) (h2:∀q,hi=some q→∃x,oh=some x∧Rep P M true q x) (h2':hi=none→oh=none):
  ∃u,(Instr.sliceAt t v ov oh none).run P w= .ok u w∧Rep P M true r u:=by
 have hk:=hT.get hti;have hu:=hk.rund w
 have bound:∀(q:Option PV) (o:Option Value) (d:Nat) (n:Int),gA q d=some n→(∀p,q=some p→∃x,o=some x∧Rep P M true p x)→(q=none→o=none)→
   (o=none∧n=d)∨∃k,o=some (.int k n):=by
  intro q o d n hb ha hn;cases q with
  |none=>simp only[gA,zo]at hb;exact .inl ⟨hn rfl,hb.symm⟩
  |some q=>
   obtain⟨x,rfl,hx⟩:=ha q rfl
   unfold gA at hb;split at hb
   ·rename_i hq;cases hq
   ·rename_i k n' hq;simp only[zo]at hq hb;subst hq hb;simp only[Rep]at hx;subst hx;exact .inr ⟨_,rfl⟩
   ·cases hb
 have sb:∀(k:IntKind) (n:Int) (y:Nat) (c:BoundsCode),0≤n→n≤y→(Instr.sliceBound (.int k n) y c).run P w= .ok n.toNat w:=by
  intro k n y c h0 hy;simp[Instr.sliceBound,asIntOf,h0,hy]
 unfold li at h;split at h
 ·rename_i l hd;simp only[Rep]at hp
  obtain⟨rfl,hml⟩:=hp
  split at h
  ·rename_i a b ha hb;split at h
   ·rename_i hc;simp only[zo]at h;subst h;have hz:(ByteArray.mk l.toArray).size=l.length:=by simp[ByteArray.size]
    have hbs:(Instr.sliceBounds false (ByteArray.mk l.toArray).size (ByteArray.mk l.toArray).size ov oh none).run P w= .ok (a.toNat,b.toNat,l.length) w:=by
     have e1:=bound lo ov 0 a ha h1 h1';have e2:=bound hi oh l.length b hb h2 h2';rw[hz];have b1:∀k c,(Instr.sliceBound (.int k b) l.length c).run P w= .ok b.toNat w:=fun k c=>sb k b _ c (by omega) hc.2.2
     have b2:∀k c,(Instr.sliceBound (.int k a) b.toNat c).run P w= .ok a.toNat w:=fun k c=>sb k a _ c hc.1 (by omega)
     rcases e1 with⟨rfl,rfl⟩|⟨k,rfl⟩<;>rcases e2 with⟨rfl,rfl⟩|⟨k',rfl⟩<;>simp_all[Instr.sliceBounds]
    refine⟨.string ((ByteArray.mk l.toArray).extract a.toNat b.toNat),?_,?_⟩
    ·rw[hd]at hu;simp[Instr.sliceAt,Instr.slice,hu,hbs]
    ·simp only[Rep]
     refine⟨?_,by simp;omega⟩
     congr 1;apply ByteArray.ext;simp[ByteArray.data_extract,List.extract_eq_take_drop,List.drop_take]
   ·cases h
  ·cases h
 ·rename_i e e' rows hd;cases he:Nat.beq e e' with
  |false=>simp[he]at h
  |true=>
   simp only[he,zc]at h
   have:=Nat.eq_of_beq_eq_true he
   subst this;simp only[Rep]at hp
   obtain⟨ad,c,i,rfl,hlc,hcm,hinf,hby,hrows⟩:=hp
   split at h
   ·rename_i a b ha hb;split at h
    ·rename_i hc;simp only[zo]at h;subst h
     have hbs:(Instr.sliceBounds true rows.length c ov oh none).run P w= .ok (a.toNat,b.toNat,c) w:=by
      have e1:=bound lo ov 0 a ha h1 h1';have e2:=bound hi oh rows.length b hb h2 h2';have b1:∀k cc,(Instr.sliceBound (.int k b) c cc).run P w= .ok b.toNat w:=fun k cc=>sb k b _ cc (by omega) (by omega)
      have b2:∀k cc,(Instr.sliceBound (.int k a) b.toNat cc).run P w= .ok a.toNat w:=fun k cc=>sb k a _ cc hc.1 (by omega)
      rcases e1 with⟨rfl,rfl⟩|⟨k,rfl⟩<;>rcases e2 with⟨rfl,rfl⟩|⟨k',rfl⟩<;>simp_all[Instr.sliceBounds]
     have hsz:(sizeOf e).run P w= .ok i.size w:=by simp[sizeOf,typeInfo,hinf]
     rw[hd]at hu;have hlen:((rows.take b.toNat).drop a.toNat).length=b.toNat-a.toNat:=by simp;omega
     refine⟨.slice (if c=a.toNat then ad else ad.map (·.add (a.toNat*i.size))) (b.toNat-a.toNat) (c-a.toNat),?_,?_⟩
     ·simp[Instr.sliceAt,Instr.slice,hu,hbs,hsz]
     ·simp only[Rep]
      refine⟨_,_,i,by rw[hlen],by rw[hlen];omega,by omega,hinf,?_,fun hne=>?_⟩
      ·rw[hlen];exact Nat.le_trans (Nat.mul_le_mul_right _ (by omega)) hby
      ·have hr0:rows≠[]:=by rintro rfl;simp at hne
       obtain⟨bb,oo,rfl,hrr⟩:=hrows hr0
       have hlt:a.toNat<rows.length:=by
        rcases Nat.lt_or_ge a.toNat rows.length with h|h
        ·exact h
        ·exfalso;apply hne;apply List.eq_nil_of_length_eq_zero;omega
       refine⟨bb,oo+a.toNat*i.size,?_,(hrr.take _).drop _⟩
       rw[zy (by omega)];simp[dS]
    ·cases h
   ·cases h
 ·cases h
end
section
variable{P:Program}{Px:PV→Prop}{T:TT}(hT:T.Ok P)
include hT
theorem det_fieldAddr{t:TypeId}{ti fi:TInfo}{fs:Array Field}{f:Nat}{fd:Field}(hti:T.get t=some ti)(hd:ti.desc= .struct fs)(hf:fs[f]? =some fd)(hfi:T.get fd.type=some fi)
  (hz:Nat.beq fi.size 0=false) {p r:PV} (h:mJ p fd.offset=some r) {M:Mem} (w:World) {v:Value} (hp:Rep P M true p v):
  ∃u,(Instr.fieldAt t v f).run P w= .ok u w∧Rep P M true r u:=by
 obtain⟨b,o,rfl,hr⟩:=offAddr_sound h hp
 refine⟨_,?_,hr⟩
 have hu:=(hT.get hti).rund w;rw[hd]at hu;have hz':fi.size≠0:=fun e=>by rw[e]at hz;cases hz
 simp[Instr.fieldAt,hu,hf,Instr.sureAddr,fieldPlace,(hT.get hfi).rsize w,hz',dS]
theorem det_part{k:Nat}{fi:TInfo}(hfi:T.get k=some fi){cells:List PV}{off:Nat}{r:PV}(h:fS fi off cells=some r){M:Mem}{s:Bool}(w:World){cs:Array Value}(hr:ay P M s cells cs.toList):
  ∃u,(part k cs off).run P w= .ok u w∧Rep P M s r u:=by
 have hk:=hT.get hfi;unfold fS at h;cases hd:iy fi.desc with
 |true=>
  simp only[hd,zc]at h;cases hl:Nat.ble (off+fi.size) cells.length with
  |false=>simp[hl]at h
  |true=>
   simp only[hl,zc,zo]at h;subst h
   refine⟨.agg (cs.extract off (off+fi.size)),?_,?_⟩
   ·simp[part,hk.ragg w,hd,hk.rsize w]
   ·simp only[Rep]
    refine⟨_,rfl,?_⟩
    have:=(hr.drop off).take fi.size
    simpa[List.extract_eq_take_drop]using this
 |false=>
  simp only[hd,zd]at h
  obtain⟨x,hx,hrx⟩:=hr.get off r h
  refine⟨x,?_,hrx⟩
  rw[Array.getElem?_toList]at hx;simp[part,hk.ragg w,hd,hx]
theorem callPV_sound{c:Call}{type:TypeId}{ev:Operand→PV}{ρ:Operand→Value}{r:PV}(h:jc T c ev=some r){M:Mem}(w:World)(he:∀x∈c.operands,Rep P M true (ev x) (ρ x)):
  ∃u,(do let d←resolve ρ c type;invoke d.target d.args:Sem Next).run P w= .ok (.value u) w∧Rep P M true r u:=by
 obtain⟨callee,args,argTypes⟩:=c
 have hargs:∀x∈args.toList,Rep P M true (ev x) (ρ x):=fun x hx=>he x (by simp only[Call.operands];cases callee<;>simp_all)
 unfold jc at h;simp only at h;split at h
 ·rename_i x t r' ha hat;have hx:=hargs x (by rw[ha];simp);have ha':args=#[x]:=by rw[←Array.toArray_toList (xs:=args),ha]
  have hat':argTypes[0]? =some t:=by rw[←Array.getElem?_toList,hat];rfl
  subst ha';split at h
  ·rename_i ti hti;have hu:=(hT.get hti).rund w;split at h
   ·rename_i l hd hl;simp only[zo]at h;subst h;rw[hl]at hx;simp only[Rep]at hx
    refine⟨.int .i64 l.length,?_,by simp only[Rep]⟩
    rw[hd]at hu;have hz:(ByteArray.mk l.toArray).size=l.length:=by simp[ByteArray.size]
    simp[resolve,invoke,builtin,Builtin.len_,hat',hu,hx.1,goInt,hz]
   ·rename_i e hd;have hu':=hu;rw[hd]at hu';cases hn:lenPV (ev x)with
    |none=>simp[hn]at h
    |some n=>
     simp only[hn,Option.bind_some]at h
     have hlen:∃ad c,ρ x= .slice ad n c:=by
      generalize ev x=p at*;unfold lenPV at hn;split at hn
      ·simp only[zo]at hn;subst hn;simp only[Rep]at hx
       obtain⟨ad,c,i,h1,_⟩:=hx
       exact⟨ad,c,h1⟩
      ·simp only[zo]at hn;subst hn;simp only[Rep]at hx
       exact⟨_,_,hx.2⟩
      ·simp at h
      ·simp only[zo]at hn;subst hn;simp only[Rep]at hx
       exact⟨_,_,hx⟩
      ·cases hn
     have hr:r= .val (.int .i64 n):=by
      generalize ev x=p at*;cases p<;>simp_all
     subst hr
     obtain⟨ad,c,hv⟩:=hlen
     refine⟨.int .i64 n,?_,by simp only[Rep]⟩
     simp[resolve,invoke,builtin,Builtin.len_,hat',hu',hv,goInt]
   ·cases h
  ·cases h
 ·rename_i x y ha;have hx:=hargs x (by rw[ha];simp);have hy:=hargs y (by rw[ha];simp);have ha':args=#[x,y]:=by rw[←Array.toArray_toList (xs:=args),ha]
  subst ha';split at h
  ·rename_i k a k' b h1 h2;simp only[zo]at h;subst h;rw[h1]at hx;rw[h2]at hy;simp only[Rep]at hx hy
   refine⟨.int k (if b<a then b else a),?_,by simp only[Rep]⟩
   simp[resolve,invoke,builtin,Builtin.min_,Builtin.min2,hx,hy]
  ·cases h
 ·rename_i x y ha;have hx:=hargs x (by rw[ha];simp);have hy:=hargs y (by rw[ha];simp);have ha':args=#[x,y]:=by rw[←Array.toArray_toList (xs:=args),ha]
  subst ha';split at h
  ·rename_i k a k' b h1 h2;simp only[zo]at h;subst h;rw[h1]at hx;rw[h2]at hy;simp only[Rep]at hx hy
   refine⟨.int k (if b>a then b else a),?_,by simp only[Rep]⟩
   simp[resolve,invoke,builtin,Builtin.max_,Builtin.max2,hx,hy]
  ·cases h
 ·cases h
omit hT in
theorem iv{M:Mem}{s:Bool}{ev:Operand→PV}{ρ:Operand→Value}(l:List Operand)(h:∀x∈l,Rep P M s (ev x) (ρ x)):ay P M s (l.map ev) (l.map ρ):=by
 induction l with
 |nil=>simp[ay]
 |cons x l ih=>
  simp only[List.map_cons,ay]
  exact⟨_,_,rfl,h x (by simp),ih fun y hy=>h y (by simp[hy])⟩
theorem det0_sound{o:Oper}{ev:Operand→PV}{H:Heap}{r:PV}(h:eJ T H.bx o.op ev=some r):DetOk P o ev H r:=by
 intro C M a w hi he
 suffices hs:∃v,(execOp a.eval o).run P w= .ok (.value v) w∧Rep P M true r v by
  obtain⟨v,h1,h2⟩:=hs
  exact⟨v,M,w,h1,Mem.le_refl M,hi,h2⟩
 obtain⟨dst,op,type,pos,after,guard⟩:=o
 simp only at he h;cases op<;>simp only[eJ,reduceCtorEq]at h<;>simp only[execOp,Op.operands]at he⊢
 case move x=>
  simp only[zo]at h;subst h
  exact⟨_,rfl,he x (by simp)⟩
 case assign x=>
  simp only[zo]at h;subst h
  exact⟨_,rfl,he x (by simp)⟩
 case pick c x y=>
  have hc:=he c (by simp);split at h
  ·rename_i hq;simp only[zo]at h;subst h;rw[hq]at hc;simp only[Rep]at hc
   exact⟨_,by simp[hc,asBool],he x (by simp)⟩
  ·rename_i hq;simp only[zo]at h;subst h;rw[hq]at hc;simp only[Rep]at hc
   exact⟨_,by simp[hc,asBool],he y (by simp)⟩
  ·cases h
 case load t x=>
  split at h
  ·rename_i ti hti
   obtain⟨u,h1,h2⟩:=det_load hT hti hi (he x (by simp)) h
   exact⟨u,by simp[h1],h2⟩
  ·cases h
 case fieldAddr t x f=>
  split at h
  ·rename_i ti hti;split at h
   ·rename_i fs hd;split at h
    ·rename_i fd hf;split at h
     ·rename_i fi hfi;cases hz:Nat.beq fi.size 0 with
      |true=>simp[hz]at h
      |false=>
       simp only[hz,zd]at h
       obtain⟨u,h1,h2⟩:=det_fieldAddr hT hti hd hf hfi hz h w (he x (by simp))
       exact⟨u,by simp[h1],h2⟩
     ·cases h
    ·cases h
   ·cases h
  ·cases h
 case field t x f=>
  split at h
  ·rename_i ti hti;split at h
   ·rename_i fs hd;split at h
    ·rename_i fd hf;split at h
     ·rename_i fi cells hfi hx;have hxr:=he x (by simp);rw[hx]at hxr;simp only[Rep]at hxr
      obtain⟨cs,hv,hcs⟩:=hxr
      obtain⟨u,h1,h2⟩:=det_part hT hfi h w hcs
      have hu:=(hT.get hti).rund w;rw[hd]at hu
      exact⟨u,by simp[Instr.field,hu,hf,hv,asAgg,h1],h2⟩
     ·cases h
    ·cases h
   ·cases h
  ·cases h
 case indexAddr t x i=>
  split at h
  ·rename_i ti e rows k n hti hx hn;have hu:=(hT.get hti).rund w;have hxr:=he x (by simp);have hnr:=he i (by simp);rw[hx]at hxr;rw[hn]at hnr;simp only[Rep]at hxr hnr
   obtain⟨ad,c,inf,hv,hlc,hcm,hinf,hby,hrows⟩:=hxr
   split at h
   ·rename_i e' hd;cases hb:Nat.beq e e' with
    |false=>simp[hb]at h
    |true=>
     have:=Nat.eq_of_beq_eq_true hb
     subst this;simp only[hb,zc]at h;split at h
     ·rename_i h0;cases hg:rows[n.toNat]? with
      |none=>simp[hg]at h
      |some row=>
       simp only[hg,Option.map_some,zo]at h;subst h;have hlt:n.toNat<rows.length:=(zg.1 hg).1
       obtain⟨b,o,rfl,hrr⟩:=hrows (by rintro rfl;simp at hlt)
       have hsz:(sizeOf e).run P w= .ok inf.size w:=by simp[sizeOf,typeInfo,hinf]
       rw[hd]at hu
       refine⟨.pointer (some ⟨b,o+n.toNat*inf.size,none⟩),?_,?_⟩
       ·have h2:n<(rows.length:Int):=by omega
        simp[Instr.indexAt,hnr,hv,asIntOf,hu,h0,h2,hsz,dS]
       ·simp only[Rep]
        exact⟨b,_,rfl,(hrr.get _ _ hg).2⟩
     ·cases h
   ·cases h
  ·rename_i ti tag b off k n hti hx hn;have hu:=(hT.get hti).rund w;have hxr:=he x (by simp);have hnr:=he i (by simp);rw[hx]at hxr;rw[hn]at hnr;simp only[Rep]at hxr hnr;split at h
   ·rename_i len e hd;split at h
    ·rename_i ei hei;split at h
     ·rename_i hc;simp only[zo]at h;subst h;rw[hd]at hu
      refine⟨.pointer (some ⟨b,off+n.toNat*ei.size,none⟩),?_,by simp[Rep]⟩
      simp[Instr.indexAt,hnr,hxr.2,asIntOf,hu,Instr.sureAddr,hc.1,hc.2,(hT.get hei).rsize w,dS]
     ·cases h
    ·cases h
   ·cases h
  ·cases h
 case index t x i=>
  split at h
  ·rename_i ti l k n hti hx hn;have hu:=(hT.get hti).rund w;have hxr:=he x (by simp);have hnr:=he i (by simp);rw[hx]at hxr;rw[hn]at hnr;simp only[Rep]at hxr hnr;split at h
   ·rename_i hd;rw[hd]at hu;split at h
    ·rename_i h0;cases hg:l[n.toNat]? with
     |none=>simp[hg]at h
     |some c=>
      simp only[hg,Option.map_some,zo]at h;subst h
      refine⟨.int .u8 c.toNat,?_,by simp only[Rep]⟩
      have hlt:n.toNat<l.length:=(zg.1 hg).1
      have hb:(ByteArray.mk l.toArray)[n.toNat]? =some c:=by
       have hz:(ByteArray.mk l.toArray).size=l.length:=by simp[ByteArray.size]
       rw[getElem?_pos _ _ (by rw[hz];exact hlt)]
       have:=(zg.1 hg).2
       show some ((l.toArray)[n.toNat]'_)=some c;simp[this]
      simp[Instr.index,hnr,hxr,asIntOf,hu,h0,hb]
    ·cases h
   ·cases h
  ·cases h
 case binOp op t x y u=>
  obtain⟨v,h1,h2⟩:=qbin_sound hT w h (he x (by simp)) (he y (by simp)) x y
  exact⟨v,by rw[Sem.run_bind,h1];rfl,h2⟩
 case unOp op t x=>
  have hx:=he x (by simp);split at h
  ·rename_i b hq;simp only[zo]at h;subst h;rw[hq]at hx;simp only[Rep]at hx
   exact⟨.bool (!b),by simp[hx,Op.unary],by simp only[Rep]⟩
  ·rename_i k n hq;simp only[zo]at h;subst h;rw[hq]at hx;simp only[Rep]at hx
   exact⟨.int k (k.wrap (0-n)),by simp[hx,Op.unary,Op.intArith],by simp only[Rep]⟩
  ·cases h
 case convert src dst x=>
  have hx:=he x (by simp);split at h
  ·rename_i si ti k n hsi hti hq;rw[hq]at hx;simp only[Rep]at hx;have hs:=(hT.get hsi).rund w;have hu:=(hT.get hti).rund w;split at h
   ·rename_i k' hd;simp only[zo]at h;subst h;rw[hd]at hu
    exact⟨.int k' (k'.wrap n),by simp[convert,hs,hu,hx,Conv.intToInt],by simp only[Rep]⟩
   ·cases h
  ·rename_i si ti l hsi hti hq;rw[hq]at hx;simp only[Rep]at hx;have hs:=(hT.get hsi).rund w;have hu:=(hT.get hti).rund w;split at h
   ·rename_i hd;simp only[zo]at h;subst h;rw[hd]at hu
    refine⟨.string ⟨l.toArray⟩,?_,by simp only[Rep];exact⟨trivial,hx.2⟩⟩
    simp only[convert,Sem.run_bind,hs,hu,hx.1,Result.andThen_ok];cases si.desc<;>rfl
   ·cases h
  ·cases h
 case extract x i=>
  have hx:=he x (by simp);split at h
  ·rename_i vs hq;rw[hq]at hx;simp only[Rep]at hx
   obtain⟨cs,hv,hcs⟩:=hx
   obtain⟨y,hy,hr⟩:=hcs.get i r h
   rw[Array.getElem?_toList]at hy
   exact⟨y,by simp[Instr.extract,hv,hy],hr⟩
  ·cases h
 case build t ps=>
  obtain⟨v,h1,h2⟩:=buildPV_sound (s:=true) (M:=M) (ev:=ev) (ρ:=a.eval) hT w h (fun x hx=>he x (by simpa using hx))
  refine⟨v,?_,h2⟩
  rw[Sem.run_bind,map_pairs,h1];rfl
 case slice t x lo hi' mx=>
  cases mx with
  |some m=>simp at h
  |none=>
   simp only at h;split at h
   ·rename_i ti hti
    obtain⟨u,h1,h2⟩:=slicePV_sound hT (ov:=lo.map a.eval) (oh:=hi'.map a.eval) hti h w (he x (by simp))
     (fun q hq=>by
      cases lo with
      |none=>cases hq
      |some y=>simp only[Option.map_some,zo]at hq;subst hq;exact⟨_,rfl,he y (by simp)⟩)
     (fun hq=>by cases lo<;>simp_all)
     (fun q hq=>by
      cases hi' with
      |none=>cases hq
      |some y=>simp only[Option.map_some,zo]at hq;subst hq;exact⟨_,rfl,he y (by simp)⟩)
     (fun hq=>by cases hi'<;>simp_all)
    exact⟨u,by simp[h1],h2⟩
   ·cases h
 case makeFunc fn first caps=>
  cases fn<;>simp only[reduceCtorEq]at h
  rename_i f;cases hf:first.isEmpty with
  |false=>simp[hf]at h
  |true=>
   simp only[hf,zc,db,zo]at h;subst h;have hfe:first=#[]:=by simpa using hf
   subst hfe
   refine⟨.func (.func f) #[] (caps.map a.eval),by simp[Instr.makeFunc],?_⟩
   simp only[Rep]
   exact⟨_,rfl,by simpa using iv caps.toList fun x hx=>he x (by simp_all)⟩
 case nilCheck x=>
  have hx:=he x (by simp);cases hn:noNil (ev x)with
  |false=>simp[hn]at h
  |true=>
   simp only[hn,zc,zo]at h;subst h
   refine⟨a.eval x,?_,hx⟩
   generalize ev x=p at*;cases p<;>simp only[noNil,reduceCtorEq]at hn<;>simp only[Rep]at hx
   ·obtain⟨b,o,hv,_⟩:=hx;rw[hv];rfl
   ·obtain⟨cs,hv,_⟩:=hx;rw[hv];rfl
   ·rw[hx.2];rfl
   ·obtain⟨_,b,_,hv⟩:=hx;rw[hv];rfl
 case call c=>exact callPV_sound hT h w he
end
mutual
def PV.froz:PV→Bool
 | .any| .box _ _ _| .own _ _ _| .optr _ _ _ _ _=>false
 | .agg cs| .tup cs| .fn _ cs=>PV.frozL cs
 | .ifc _ p=>p.froz
 |_=>true
def PV.frozL:List PV→Bool
 |[]=>true
 |p::ps=>p.froz&&PV.frozL ps
end
section
variable{P:Program}{Px:PV→Prop}{M:Mem}
mutual
theorem Rep.unslot:∀{p:PV} {x:Value},p.froz=true→Rep P M true p x→Rep P M false p x
 | .any,_,h,_=>by simp[PV.froz]at h
 | .val _,_,_,h=>by simpa only[Rep]using h
 | .str _,_,_,h=>by simpa only[Rep]using h
 | .list _ _,_,_,h=>by simpa only[Rep]using h
 | .agg cells,x,hf,h=>by
  simp only[Rep]at h⊢
  obtain⟨cs,h1,h2⟩:=h
  exact⟨cs,h1,ay.unslot (by simpa only[PV.froz]using hf) h2⟩
 | .tup cells,x,hf,h=>by
  simp only[Rep]at h⊢
  obtain⟨cs,h1,h2⟩:=h
  exact⟨cs,h1,ay.unslot (by simpa only[PV.froz]using hf) h2⟩
 | .ptr _,_,_,h=>by simpa only[Rep]using h
 | .fn f caps,x,hf,h=>by
  simp only[Rep]at h⊢
  obtain⟨cs,h1,h2⟩:=h
  exact⟨cs,h1,ay.unslot (by simpa only[PV.froz]using hf) h2⟩
 | .box _ _ _,_,h,_=>by simp[PV.froz]at h
 | .own _ _ _,_,h,_=>by simp[PV.froz]at h
 | .optr _ _ _ _ _,_,h,_=>by simp[PV.froz]at h
 | .err _,_,_,h=>by simpa only[Rep]using h
 | .ifc _ p,x,hf,h=>by
  simp only[Rep]at h⊢
  obtain⟨v,h1,h2⟩:=h
  exact⟨v,h1,Rep.unslot (by simpa only[PV.froz]using hf) h2⟩
theorem ay.unslot:∀{ps:List PV} {xs:List Value},PV.frozL ps=true→ay P M true ps xs→ay P M false ps xs
 |[],_,_,h=>by simpa only[ay]using h
 |p::ps,_,hf,h=>by
  simp only[ay]at h⊢;simp only[PV.frozL,Bool.and_eq_true]at hf
  obtain⟨x,xs,h1,h2,h3⟩:=h
  exact⟨x,xs,h1,Rep.unslot hf.1 h2,ay.unslot hf.2 h3⟩
end
end
abbrev kS:PV:= .tup []
def aN(ops:Array Oper)(s:Nat→PV)(o:Oper):Option Bool:=
 match o.guard with
 |none=>some true
 |some (j,want)=>match(ops[j]?).bind (·.dst)with
  |some d=>match s d with
   | .val (.bool b)=>some (b==want)
   | .tup []=>some false
   |_=>none
  |none=>none
theorem ip{P:Program}{ds:List Deferred}{M:Mem}{ops:Array Oper}{n:Nat}{s:Nat→PV}{a:Act}(h:gF P ds M n s a){o:Oper}{b:Bool}(hg:aN ops s o=some b):Region.wanted o (yielded ops a.tmps)=b:=by
 unfold aN at hg;unfold Region.wanted;split at hg
 ·rename_i hn;rw[hn];simpa using hg
 ·rename_i j want hn;rw[hn];split at hg
  ·rename_i d hd;split at hg
   ·rename_i c hc;simp only[zo]at hg
    have:=h.2.2 d
    rw[hc]at this;simp only[Rep]at this
    have hv:a.tmps[d]? =some (.bool c):=by
     cases ht:a.tmps[d]? with
     |none=>simp[ht,undef]at this
     |some v=>simpa[ht]using this
    simp[yielded,hd,hv,←hg]
   ·rename_i hc;simp only[zo]at hg;subst hg
    have:=h.2.2 d
    rw[hc]at this;simp only[Rep,ay]at this
    obtain⟨cs,h1,h2⟩:=this
    have hcs:cs=#[]:=by simpa using h2
    subst hcs
    have hy:yielded ops a.tmps j=none:=by
     simp only[yielded,hd];cases ht:a.tmps[d]? with
     |none=>simp[ht]
     |some v=>
      rw[Array.getD_eq_getD_getElem?,ht]at h1;simp only[Option.getD_some]at h1;subst h1;simp[ht]
    simp[hy]
   ·cases hg
  ·cases hg
def Ao(P:Program)(Px:PV→Prop)(ops:Array Oper)(rest:List Oper)(st:PState)(K:PState→Prop):Prop:=
 ∀C M a w (Q:PanQ P Px C C.ds),dM P C M st a w→(∀st' M' a' w',K st'→dM P C M' st' a' w'→Q.f Exit.normal a' w')→wpList P ops Q.f rest a w
def Gh(P:Program)(st st':PState):Prop:=∀C M a w,dM P C M st a w→∃M',dM P C M' st' a w
section
variable{P:Program}{Px:PV→Prop}{ops:Array Oper}{rest:List Oper}{o:Oper}{st:PState}{K:PState→Prop}
theorem af(h:K st):Ao P Px ops [] st K:=fun _ M a w _ hi hq=>hq st M a w h hi
theorem aH{st':PState}(hg:Gh P st st')(h:Ao P Px ops rest st' K):Ao P Px ops rest st K:=fun C M a w Q hi hq=>
 let⟨M',hi'⟩:=hg C M a w hi
 h C M' a w Q hi' hq
theorem Ao.skip{s':Nat→PV}(hg:aN ops st.s o=some false)(hp:putD st.n st.s o.dst kS=some s')(h:Ao P Px ops rest ⟨st.n,s',st.bx,st.ob⟩ K):Ao P Px ops (o::rest) st K:=by
 intro C M a w Q hi hq;simp only[wpList,ip hi.1 hg,Bool.false_eq_true,if_false];exact h C M _ w Q ⟨hi.1.putD hp (by simp[Rep,ay,undef]),hi.2⟩ hq
theorem fQ(hg:aN ops st.s o=some true)
  (he:Eff P Px o (evS st.s) st.heap fun u H'=>∃s',putD st.n st.s o.dst u=some s'∧Ao P Px ops rest ⟨st.n,s',H'.bx,H'.ob⟩ K):Ao P Px ops (o::rest) st K:=by
 intro C M a w Q hi hq;simp only[wpList,ip hi.1 hg,if_true];refine .inl (he C M a w _ (Q.cast hi.1.2.1) hi.2 (fun x _=>hi.1.ev x) ?_);intro v u H' M' w' ⟨s',hp,h⟩ hle hi' hr;exact h C M' _ w' Q ⟨(hi.1.mono hle).putD hp hr,hi'⟩ hq
def ec(T:TT)(ops:Array Oper)(n:Nat)(s:Nat→PV)(bx:Nat→Option Box)(o:Oper):Option (Nat→PV):=
 match aN ops s o with
 |some true=>match eJ T bx o.op (evS s)with
  |some r0=>match iW r0 with
   |some r=>putD n s o.dst r
   |none=>none
  |none=>none
 |some false=>putD n s o.dst kS
 |none=>none
end
section
variable{P:Program}{Px:PV→Prop}{ops:Array Oper}{rest:List Oper}{o:Oper}{n:Nat}{s s':Nat→PV}{bx:Nat→Option Box}{ob:Nat→Option Obj}{K:PState→Prop}
theorem jb{T:TT}(hT:T.Ok P)(hg:aN ops s o=some true){r:PV}(hd:eJ T bx o.op (evS s)=some r)(hp:putD n s o.dst r=some s')
  (h:Ao P Px ops rest ⟨n,s',bx,ob⟩ K):Ao P Px ops (o::rest) ⟨n,s,bx,ob⟩ K:=
 fQ hg ((Eff.of_det (det0_sound hT (H:=⟨bx,ob⟩) hd)).mono fun u H' ⟨hu,hH⟩=>by subst hu;subst hH;exact⟨s',hp,h⟩)
theorem ap{T:TT}(hT:T.Ok P)(hs:ec T ops n s bx o=some s')(h:Ao P Px ops rest ⟨n,s',bx,ob⟩ K):Ao P Px ops (o::rest) ⟨n,s,bx,ob⟩ K:=by
 unfold ec at hs;split at hs
 ·rename_i hg;split at hs
  ·rename_i r0 hd;rw[kh]at hs;exact jb hT hg hd hs h
  ·cases hs
 ·rename_i hg;exact Ao.skip hg hs h
 ·cases hs
theorem Ao.lB{T:TT}(hT:T.Ok P)(hg:aN ops s o=some true){t:TypeId}{x:Operand}(ho:o.op= .load t x){ti:TInfo}(hti:T.get t=some ti){tag b off:Nat}{cells:List PV}
  (hx:evS s x= .box tag b off) (hb:bx tag=some ⟨b,cells⟩) {r:PV} (hr:(dV ti off cells).bind iW=some r) (hp:putD n s o.dst r=some s')
  (h:Ao P Px ops rest ⟨n,s',bx,ob⟩ K):Ao P Px ops (o::rest) ⟨n,s,bx,ob⟩ K:=by
 have hr':dV ti off cells=some r:=by
  cases hq:dV ti off cells with
  |none=>simp[hq]at hr
  |some q=>rw[hq,Option.bind_some,kh]at hr;exact hr
 refine jb hT hg (r:=r) ?_ hp h;rw[ho];simp[eJ,hti,hx,jg,hb,hr']
theorem av{T:TT}{t:TypeId}{x:Operand}{ti:TInfo}{tag b off:Nat}{cells:List PV}{r:PV}(hT:T.Ok P)(h:Ao P Px ops rest ⟨n,s',bx,ob⟩ K)(hg:aN ops s o=some true:=by exact rfl)(ho:o.op= .load t x:=by exact rfl)(hti:T.get t=some ti:=by exact rfl)(hx:evS s x= .box tag b off:=by exact rfl)(hb:bx tag=some ⟨b,cells⟩:=by exact rfl)(hr:(dV ti off cells).bind iW=some r:=by exact rfl)(hp:putD n s o.dst r=some s':=by exact rfl):Ao P Px ops (o::rest) ⟨n,s,bx,ob⟩ K:=Ao.lB hT hg ho hti hx hb hr hp h
def kU(T:TT)(ops:Array Oper)(n:Nat)(bx:Nat→Option Box):Nat→List Oper→(Nat→PV)→Option (List Oper×(Nat→PV))
 |0,l,s=>some (l,s)
 |k+1,o::l,s=>match ec T ops n s bx o with
  |some s'=>kU T ops n bx k l s'
  |none=>none
 |_+1,[],_=>none
theorem au{T:TT}:∀(k:Nat) {l rest:List Oper} {s s':Nat→PV} (_:T.Ok P) (_:kU T ops n bx k l s=some (rest,s')) (_:Ao P Px ops rest ⟨n,s',bx,ob⟩ K),Ao P Px ops l ⟨n,s,bx,ob⟩ K
 |0,l,rest,s,s',hT,h,hk=>by
  simp only[kU,zo,Prod.mk.injEq]at h;rw[h.1,h.2];exact hk
 |k+1,[],rest,s,s',hT,h,hk=>by cases h
 |k+1,o::l,rest,s,s',hT,h,hk=>by
  rw[kU]at h;cases hq:ec T ops n s bx o with
  |none=>rw[hq]at h;cases h
  |some s1=>
   rw[hq]at h;exact ap hT hq (au k hT h hk)
theorem nG{j:Nat}{want b:Bool}{d:Nat}(_hg:o.guard=some (j,want))(_hd:(ops[j]?).bind (·.dst)=some d)(hs:s d= .val (.bool b))
  (ht:b=true→Ao P Px ops (o::rest) ⟨n,upd s d (.val (.bool true)),bx,ob⟩ K) (hf:b=false→Ao P Px ops (o::rest) ⟨n,upd s d (.val (.bool false)),bx,ob⟩ K):Ao P Px ops (o::rest) ⟨n,s,bx,ob⟩ K:=by
 have same:upd s d (.val (.bool b))=s:=by
  funext t;rw[dE];split
  ·rename_i h;subst h;exact hs.symm
  ·rfl
 cases b
 ·have:=hf rfl;rwa [same]at this
 ·have:=ht rfl;rwa [same]at this
end
section
variable{P:Program}{Px:PV→Prop}{T:TT}(hT:T.Ok P){o:Oper}{ev:Operand→PV}{H:Heap}
include hT
omit hT in
theorem repAt_add{M:Mem}{w:World}{C:Ctx}{H:Heap}(hi:InvH P C M H w)(ps:List PV)(cs:Array Value)(h1:∀v∈cs.toList,v.oneCell'=true)(hr:ay P M false ps cs.toList):
  bW P (M.add w.heap.size cs) w.heap.size 0 ps:=by
 have hr':=ay.mono (hi.add_le cs) hr
 have key:∀(ps:List PV) (xs:List Value) (o:Nat),(∀j x,xs[j]? =some x→cs[o+j]? =some x)→(∀v∈xs,v.oneCell'=true)→ay P (M.add w.heap.size cs) false ps xs→bW P (M.add w.heap.size cs) w.heap.size o ps:=by
  intro ps;induction ps with
  |nil=>intro xs o _ _ _;simp[bW]
  |cons p ps ih=>
   intro xs o hx h1 hr;simp only[ay]at hr
   obtain⟨x,ys,rfl,hp,hrest⟩:=hr
   simp only[bW]
   refine⟨⟨x,?_,h1 x (by simp),hp⟩,ih ys (o+1) (fun j y hy=>?_) (fun v hv=>h1 v (by simp[hv])) hrest⟩
   ·have:=hx 0 x rfl
    simpa[Mem.add]using this
   ·have:=hx (j+1) y (by simpa using hy)
    rwa [show o+1+j=o+(j+1)from by omega]
 exact key ps cs.toList 0 (fun j x hx=>by simpa using hx) h1 hr'
omit hT in
theorem eff_boxF{t:TypeId}{x:Operand}(ho:o.op= .box t x){cs:List PV}(hc:cw (ev x)=some cs)(hf:PV.frozL cs=true)(h1:cs.all PV.one=true){K:PV→Heap→Prop}(hk:K (.ptr cs) H):Eff P Px o ev H K:=by

 intro C M a w next Q hi he hn
 have hx:=he x (by rw[ho];simp[Op.operands]);have hr:=gg hc hx;have hone:=ay.oneCell h1 hr;have hr':=ay.unslot hf hr
 have hrun:(execOp a.eval o).run P w= .ok (.value (.pointer (some ⟨w.heap.size,0,none⟩))) (w.alloc (.cells (a.eval x).cells t)):=by
  simp[execOp,ho,Instr.box,newVar,newRow]
 unfold Oper.wp;rw[hrun];refine hn _ _ _ _ _ hk (hi.add_le _) (hi.alloc_frozen (a.eval x).cells t) ?_;simp only[Rep]
 exact⟨_,_,rfl,repAt_add hi cs _ hone hr'⟩
omit hT in
theorem eff_box{t:TypeId}{x:Operand}(ho:o.op= .box t x)(tag:Nat){cs:List PV}(hc:cw (ev x)=some cs){K:PV→Heap→Prop}
  (hk:∀b,K (.box tag b 0) ⟨upd H.bx tag (some ⟨b,cs⟩),H.ob⟩):Eff P Px o ev H K:=by

 intro C M a w next Q hi he hn
 have hx:=he x (by rw[ho];simp[Op.operands]);have hr:=gg hc hx
 have hrun:(execOp a.eval o).run P w= .ok (.value (.pointer (some ⟨w.heap.size,0,none⟩))) (w.alloc (.cells (a.eval x).cells t)):=by
  simp[execOp,ho,Instr.box,newVar,newRow]
 unfold Oper.wp;rw[hrun];exact hn _ _ _ _ _ (hk w.heap.size) (Mem.le_refl M) (hi.alloc_box tag cs _ t hr) (by simp[Rep])
theorem eff_alloc{t:TypeId}(ho:o.op= .alloc t)(tag:Nat){ti:TInfo}(hti:T.get t=some ti){cs:List PV}(hf:dl (fy ti)=some cs){K:PV→Heap→Prop}
  (hk:∀b,K (.box tag b 0) ⟨upd H.bx tag (some ⟨b,cs⟩),H.ob⟩):Eff P Px o ev H K:=by
 rw[db,zo]at hf;subst hf;intro C M a w next Q hi he hn
 have hrun:(execOp a.eval o).run P w= .ok (.value (.pointer (some ⟨w.heap.size,0,none⟩))) (w.alloc (.cells ti.zero.cells t)):=by
  simp[execOp,ho,Instr.alloc,(hT.get hti).rzero w,newVar,newRow]
 unfold Oper.wp;rw[hrun];exact hn _ _ _ _ _ (hk w.heap.size) (Mem.le_refl M) (hi.alloc_box tag _ _ t (lz _)) (by simp[Rep])
theorem lZ{t:TypeId}{x y:Operand}(ho:o.op= .store t x y){ti:TInfo}(hti:T.get t=some ti){tag b off:Nat}{cells:List PV}(hx:ev x= .box tag b off)(hb:H.bx tag=some ⟨b,cells⟩)
  {cs:List PV} (hc:cw (ev y)=some cs) (h1:cs.all PV.one=true) (hl:Nat.beq cs.length ti.size=true) (hle:(okS cells&&Nat.ble (off+ti.size) cells.length)=true)
  {cells':List PV} (hf:dl (splice cells off cs)=some cells') {K:PV→Heap→Prop} (hk:K .any ⟨upd H.bx tag (some ⟨b,cells'⟩),H.ob⟩):Eff P Px o ev H K:=by
 rw[db,zo]at hf;subst hf;have hl:=Nat.eq_of_beq_eq_true hl;rw[Bool.and_eq_true]at hle
 obtain⟨hok,hle⟩:=hle
 have hle:=Nat.le_of_ble_eq_true hle;intro C M a w next Q hi he hn
 have hxr:=he x (by rw[ho];simp[Op.operands]);have hyr:=he y (by rw[ho];simp[Op.operands]);rw[hx]at hxr;simp only[Rep]at hxr;have hr:=gg hc hyr;have hone:=ay.oneCell h1 hr
 obtain⟨_,⟨cur,e,hcur,hcr⟩,_⟩:=(hi.boxes tag _ hb).cells hok
 have hvs:(a.eval y).cells.size=ti.size:=by have:=hr.length;simp at this;omega
 have hcs:cur.size=cells.length:=by have:=hcr.length;simpa using this
 have hst:=run_storeCells_at P b off e (a.eval y).cells.toList 0 cur w hcur (by simp;omega) hone
 have hrun:(execOp a.eval o).run P w= .ok .skip (w.setRow b (cur.toList.take off++(a.eval y).cells.toList++cur.toList.drop (off+(a.eval y).cells.toList.length)).toArray):=by
  simp only[execOp,ho,Instr.storeAt,hxr.2,Instr.sureAddr,Sem.run_bind,Sem.run_pure,Result.andThen_ok,storeVar,(hT.get hti).rsize w,hvs];simp only[ne_eq,not_true_eq_false,if_false];simp only[Nat.add_zero]at hst;rw[hst];rfl
 unfold Oper.wp;rw[hrun];refine hn undef _ _ M _ hk (Mem.le_refl M) (hi.set_box tag _ hb hok _ _ ?_) (by simp[Rep]);simpa using lN hcr hr off
end
section
variable{P:Program}{Px:PV→Prop}{ops:Array Oper}{rest:List Oper}{o:Oper}{n:Nat}{s s':Nat→PV}{bx:Nat→Option Box}{ob:Nat→Option Obj}{K:PState→Prop}{T:TT}
theorem Ao.boxF(hg:aN ops s o=some true){t:TypeId}{x:Operand}(ho:o.op= .box t x){cs:List PV}(hc:(cw (evS s x)).bind dl=some cs)(hf:PV.frozL cs=true)(h1:cs.all PV.one=true)
  (hp:putD n s o.dst (.ptr cs)=some s') (h:Ao P Px ops rest ⟨n,s',bx,ob⟩ K):Ao P Px ops (o::rest) ⟨n,s,bx,ob⟩ K:=by
 have hc':cw (evS s x)=some cs:=by
  cases hq:cw (evS s x)with
  |none=>simp[hq]at hc
  |some q=>rw[hq,Option.bind_some,db]at hc;exact hc
 exact fQ hg (eff_boxF ho hc' hf h1 ⟨s',hp,h⟩)
theorem ed{t:TypeId}{x:Operand}{cs:List PV}(h:Ao P Px ops rest ⟨n,s',bx,ob⟩ K)(hg:aN ops s o=some true:=by exact rfl)(ho:o.op= .box t x:=by exact rfl)(hc:(cw (evS s x)).bind dl=some cs:=by exact rfl)(hf:PV.frozL cs=true:=by exact rfl)(h1:cs.all PV.one=true:=by exact rfl)(hp:putD n s o.dst (.ptr cs)=some s':=by exact rfl):Ao P Px ops (o::rest) ⟨n,s,bx,ob⟩ K:=Ao.boxF hg ho hc hf h1 hp h
theorem nf(hg:aN ops s o=some true){t:TypeId}{x:Operand}(ho:o.op= .box t x){d:Nat}(hd:o.dst=some d){cs:List PV}(hc:(cw (evS s x)).bind dl=some cs)(hlt:Nat.blt d n=true)
  (h:∀b,Ao P Px ops rest ⟨n,upd s d (.box d b 0),upd bx d (some ⟨b,cs⟩),ob⟩ K):Ao P Px ops (o::rest) ⟨n,s,bx,ob⟩ K:=by
 have hc':cw (evS s x)=some cs:=by
  cases hq:cw (evS s x)with
  |none=>simp[hq]at hc
  |some q=>rw[hq,Option.bind_some,db]at hc;exact hc
 exact fQ hg (eff_box ho d hc' fun b=>⟨_,by simp[hd,putD,hlt],h b⟩)
theorem nM(hT:T.Ok P)(hg:aN ops s o=some true){t:TypeId}(ho:o.op= .alloc t){d:Nat}(hd:o.dst=some d){ti:TInfo}(hti:T.get t=some ti){cs:List PV}(hc:dl (fy ti)=some cs)(hlt:Nat.blt d n=true)
  (h:∀b,Ao P Px ops rest ⟨n,upd s d (.box d b 0),upd bx d (some ⟨b,cs⟩),ob⟩ K):Ao P Px ops (o::rest) ⟨n,s,bx,ob⟩ K:=
 fQ hg (eff_alloc hT ho d hti hc fun b=>⟨_,by simp[hd,putD,hlt],h b⟩)
theorem aW{t:TypeId}{d:Nat}{ti:TInfo}{cs:List PV}(hT:T.Ok P)(h:∀b,Ao P Px ops rest ⟨n,upd s d (.box d b 0),upd bx d (some ⟨b,cs⟩),ob⟩ K)(hg:aN ops s o=some true:=by exact rfl)(ho:o.op= .alloc t:=by exact rfl)(hd:o.dst=some d:=by exact rfl)(hti:T.get t=some ti:=by exact rfl)(hc:dl (fy ti)=some cs:=by exact rfl)(hlt:Nat.blt d n=true:=by exact rfl):Ao P Px ops (o::rest) ⟨n,s,bx,ob⟩ K:=nM hT hg ho hd hti hc hlt h
theorem nD(hT:T.Ok P)(hg:aN ops s o=some true){t:TypeId}{x y:Operand}(ho:o.op= .store t x y)(hd:o.dst=none){ti:TInfo}(hti:T.get t=some ti){tag b off:Nat}{cells:List PV}(hx:evS s x= .box tag b off)(hb:bx tag=some ⟨b,cells⟩)
  {cs:List PV} (hc:(cw (evS s y)).bind dl=some cs) (h1:cs.all PV.one=true) (hl:Nat.beq cs.length ti.size=true) (hle:(okS cells&&Nat.ble (off+ti.size) cells.length)=true)
  {cells':List PV} (hf:dl (splice cells off cs)=some cells') (h:Ao P Px ops rest ⟨n,s,upd bx tag (some ⟨b,cells'⟩),ob⟩ K):Ao P Px ops (o::rest) ⟨n,s,bx,ob⟩ K:=by
 have hc':cw (evS s y)=some cs:=by
  cases hq:cw (evS s y)with
  |none=>simp[hq]at hc
  |some q=>rw[hq,Option.bind_some,db]at hc;exact hc
 exact fQ hg (lZ hT ho hti hx hb hc' h1 hl hle hf ⟨s,by simp[hd,putD],h⟩)
theorem ao{t:TypeId}{x y:Operand}{ti:TInfo}{tag b off:Nat}{cells:List PV}{cs:List PV}{cells':List PV}(hT:T.Ok P)(h:Ao P Px ops rest ⟨n,s,upd bx tag (some ⟨b,cells'⟩),ob⟩ K)(hg:aN ops s o=some true:=by exact rfl)(ho:o.op= .store t x y:=by exact rfl)(hd:o.dst=none:=by exact rfl)(hti:T.get t=some ti:=by exact rfl)(hx:evS s x= .box tag b off:=by exact rfl)(hb:bx tag=some ⟨b,cells⟩:=by exact rfl)(hc:(cw (evS s y)).bind dl=some cs:=by exact rfl)(h1:cs.all PV.one=true:=by exact rfl)(hl:Nat.beq cs.length ti.size=true:=by exact rfl)(hle:(okS cells&&Nat.ble (off+ti.size) cells.length)=true:=by exact rfl)(hf:dl (splice cells off cs)=some cells':=by exact rfl):Ao P Px ops (o::rest) ⟨n,s,bx,ob⟩ K:=nD hT hg ho hd hti hx hb hc h1 hl hle hf h
end
def PH(P:Program)(f:FuncId)(args:List PV)(Hin:Heap)(R:PV→Heap→Prop):Prop:=
 ∀(w:World) (M:Mem) (own:List Nat) (hg:Gl w own) (vs:Array Value),InvH P ⟨w,own,M,hg,[]⟩ M Hin w→ay P M true args vs.toList→
  Calls P f vs w fun e w'=>∃v u H' M',e= .returned v∧R u H'∧InvH P ⟨w,own,M,hg,[]⟩ M' H' w'∧Rep P M' true u v
def PCalls(P:Program)(f:FuncId)(args:List PV)(R:PV→Heap→Prop):Prop:=PH P f args Heap.empty R
def bI(P:Program)(f:FuncId)(args:List PV)(r:PV):Prop:=PCalls P f args fun u H=>u=r∧H=Heap.empty
def PLe(P:Program)(p q:PV):Prop:=∀M x,Rep P M true p x→Rep P M true q x
def dQ(P:Program)(ps qs:List PV):Prop:=∀M xs,ay P M true ps xs→ay P M true qs xs
theorem PLe.refl(P:Program)(p:PV):PLe P p p:=fun _ _ h=>h
theorem PLe.any(P:Program)(p:PV):PLe P p .any:=fun _ _ _=>by simp[Rep]
theorem dQ.r{P:Program}{ps:List PV}:dQ P ps ps:=fun _ _ h=>h
theorem dQ.refl(P:Program)(ps:List PV):dQ P ps ps:=fun _ _ h=>h
def Heap.over(H H':Heap):Heap:=
 ⟨fun t=>match H'.bx t with|some x=>some x|none=>H.bx t,fun t=>match H'.ob t with|some x=>some x|none=>H.ob t⟩
section
variable{P:Program}{Px:PV→Prop}
theorem InvH.enter{C:Ctx}{M:Mem}{H:Heap}{w:World}(h:InvH P C M H w):InvH P ⟨w,[],M,h.gl (by simp),[]⟩ M Heap.empty w:=
 ⟨h.mem,Mem.le_refl M,fun _ _ _ hm=>.inl hm,rfl,rfl,rfl,Nat.le_refl _,fun _ _ _=>rfl,fun _ _ hx=>by simp[Heap.empty]at hx,fun _ _ hx=>by simp[Heap.empty]at hx,
  fun _ _ _ _ hx=>by simp[Heap.empty]at hx,fun _ _ _ _ _ hx=>by simp[Heap.empty]at hx,fun _ _ _ _ hx=>by simp[Heap.empty]at hx⟩
theorem InvH.after{C:Ctx}{M M':Mem}{H H':Heap}{w w':World}(h:InvH P C M H w){hg:Gl w []}(h':InvH P ⟨w,[],M,hg,[]⟩ M' H' w'):InvH P C M' (H.over H') w':=by
 have hmine:∀b,(⟨w,[],M,hg,[]⟩:Ctx).mine b→w.heap.size≤b:=fun b hb=>by
  rcases hb with hb|hb
  ·exact hb
  ·simp at hb
 have hup:∀b,(⟨w,[],M,hg,[]⟩:Ctx).mine b→C.mine b:=fun b hb=>.inl (Nat.le_trans h.size (hmine b hb))
 have hfr:∀b,b<w.heap.size→w'.heap[b]? =w.heap[b]?:=fun b hb=>h'.frame b hb (by simp)
 have hnone:∀b o,b<w.heap.size→M b o=none→M' b o=none:=by
  intro b o hb hn;cases hm:M' b o with
  |none=>rfl
  |some v=>
   rcases h'.new b o v hm with h1|h1
   ·rw[show M b o=some v from h1]at hn;cases hn
   ·have:=hmine b h1;omega
 have kb:∀t x,(H.over H').bx t=some x→H'.bx t=some x∨H.bx t=some x:=by
  intro t x hx;simp only[Heap.over]at hx;split at hx
  ·rename_i y hy;exact .inl (by rw[hy];exact hx)
  ·exact .inr hx
 have ko:∀t x,(H.over H').ob t=some x→H'.ob t=some x∨H.ob t=some x:=by
  intro t x hx;simp only[Heap.over]at hx;split at hx
  ·rename_i y hy;exact .inl (by rw[hy];exact hx)
  ·exact .inr hx
 have nb:∀t x,H'.bx t=some x→w.heap.size≤x.b:=fun t x hx=>hmine _ (h'.boxes t x hx).1
 have no:∀t x b,H'.ob t=some x→x.g.blk=some b→w.heap.size≤b:=by
  intro t x b hx hb
  obtain⟨i,_,_,_,hn|⟨b',cur,hb',hm,_⟩⟩:=h'.objs t x hx
  ·rw[hn.1]at hb;cases hb
  ·rw[hb']at hb;cases hb;exact hmine _ hm
 refine⟨h'.mem,Mem.le_trans h.ext h'.ext,?_,h'.os.trans h.os,h'.tape.trans h.tape,h'.output.trans h.output,Nat.le_trans h.size h'.size,?_,?_,?_,?_,?_,?_⟩
 ·intro b o v hm;rcases h'.new b o v hm with h1|h1
  ·exact h.new b o v h1
  ·exact .inr (hup b h1)
 ·intro b hb hn
  exact(hfr b (Nat.lt_of_lt_of_le hb h.size)).trans (h.frame b hb hn)
 ·intro t x hx;rcases kb t x hx with hx|hx
  ·obtain⟨h1,h2,h3⟩:=h'.boxes t x hx
   exact⟨hup _ h1,h2,h3⟩
  ·exact(h.boxes t x hx).keep h'.ext (fun o ho=>hnone _ o (h.box_lt hx) ho) (hfr _ (h.box_lt hx))
 ·intro t x hx;rcases ko t x hx with hx|hx
  ·obtain⟨i,h1,h2,h3,h4⟩:=h'.objs t x hx
   refine⟨i,h1,h2,h3,?_⟩
   rcases h4 with h4|⟨b,cur,h5,h6,h7⟩
   ·exact .inl h4
   ·exact .inr ⟨b,cur,h5,hup _ h6,h7⟩
  ·exact(h.objs t x hx).keep h'.ext (fun b o hb ho=>hnone _ o (h.obj_lt hx hb) ho) (fun b hb=>hfr _ (h.obj_lt hx hb))
 ·intro t t' x x' hx hx' hb;rcases kb t x hx with hx|hx<;>rcases kb t' x' hx' with hx'|hx'
  ·exact h'.dbox t t' x x' hx hx' hb
  ·have:=nb t x hx;have:=h.box_lt hx';omega
  ·have:=nb t' x' hx';have:=h.box_lt hx;omega
  ·exact h.dbox t t' x x' hx hx' hb
 ·intro t t' x x' b hx hx' hb hb';rcases ko t x hx with hx|hx<;>rcases ko t' x' hx' with hx'|hx'
  ·exact h'.dobj t t' x x' b hx hx' hb hb'
  ·have:=no t x b hx hb;have:=h.obj_lt hx' hb';omega
  ·have:=no t' x' b hx' hb';have:=h.obj_lt hx hb;omega
  ·exact h.dobj t t' x x' b hx hx' hb hb'
 ·intro t t' x x' hx hx' hb;rcases kb t x hx with hx|hx<;>rcases ko t' x' hx' with hx'|hx'
  ·exact h'.dmix t t' x x' hx hx' hb
  ·have:=nb t x hx;have:=h.obj_lt hx' hb;omega
  ·have:=no t' x' _ hx' hb;have:=h.box_lt hx;omega
  ·exact h.dmix t t' x x' hx hx' hb
theorem eff_call{o:Oper}{ev:Operand→PV}{H:Heap}{fx:Operand}{av0:Array Operand}{ts:Array TypeId}(ho:o.op= .call {callee:= .value fx,args:=av0,argTypes:=ts}){g:FuncId}{caps:List PV}
  (hf:ev fx= .fn g caps) (hcall:∀vs w,(callFunc g vs).run P w= .ok (.enter g vs) w) {args:List PV} (hle:dQ P (av0.toList.map ev++caps) args) {R:PV→Heap→Prop} (hc:PCalls P g args R)
  {K:PV→Heap→Prop} (hk:∀u H',R u H'→K u (H.over H')):Eff P Px o ev H K:=by
 intro C M a w next Q hi he hn
 have hfr:=he fx (by rw[ho];simp[Op.operands,Call.operands]);rw[hf]at hfr;simp only[Rep]at hfr
 obtain⟨cs,hv,hcaps⟩:=hfr
 have hargs:ay P M true (av0.toList.map ev) (av0.map a.eval).toList:=by
  simpa using iv av0.toList fun x hx=>he x (by rw[ho];simp_all[Op.operands,Call.operands])
 have hrep:=hle M _ (hargs.append hcaps)
 have hrun:(execOp a.eval o).run P w= .ok (.enter g (av0.map a.eval++cs)) w:=by
  simp[execOp,ho,resolve,hv,Deferred.ofValue,invoke,hcall]
 unfold Oper.wp;rw[hrun];simp only[Oper.upon]
 refine(hc w M [] (hi.gl (by simp)) _ hi.enter (by simpa using hrep)).mono ?_
 rintro e w' ⟨v,u,H',M',rfl,hR,hi',hr⟩;exact hn v u _ M' w' (hk u H' hR) hi'.ext (hi.after hi') hr
theorem eff_callP{o:Oper}{ev:Operand→PV}{H:Heap}{fx:Operand}{av0:Array Operand}{ts:Array TypeId}(ho:o.op= .call {callee:= .value fx,args:=av0,argTypes:=ts}){g:FuncId}{caps:List PV}
  (hf:ev fx= .fn g caps) (hcall:∀vs w,(callFunc g vs).run P w= .ok (.enter g vs) w) {args:List PV} (hle:dQ P (av0.toList.map ev++caps) args) {r:PV} (hc:bI P g args r)
  {K:PV→Heap→Prop} (hk:K r H):Eff P Px o ev H K:=
 eff_call ho hf hcall hle hc fun u H' ⟨h1,h2⟩=>by subst h1;subst h2;exact hk
end
inductive KI where
 |code (c:Code)
 |blk (id:Nat)
 |stop (G:PState→Prop)
def markD(D:Nat):Deferred:={target:= .collected D,args:=#[]}
structure Reb(P:Program)(C C':Ctx):Prop where
 back:∀M H w,InvH P C' M H w→InvH P C M H w
 size:C.w0.heap.size≤C'.w0.heap.size
 own:∀b∈C'.own0,b<C.w0.heap.size→b∈C.own0
 frame:∀b,b<C.w0.heap.size→b∉C.own0→C'.w0.heap[b]? =C.w0.heap[b]?
 marks:∃ms:List Nat,C'.ds=ms.map markD++C.ds∧ms.Nodup∧∀D∈ms,C.w0.heap.size≤D∧D<C'.w0.heap.size∧D∉C'.own0∧C'.w0.heap[D]? =some (.deferred (some []))
theorem Reb.refl{P:Program}(C:Ctx):Reb P C C:=⟨fun _ _ _ h=>h,Nat.le_refl _,fun _ h _=>h,fun _ _ _=>rfl,[],rfl,List.nodup_nil,fun _ h=>absurd h (by simp)⟩
theorem Reb.trans{P:Program}{C C' C'':Ctx}(h:Reb P C C')(h':Reb P C' C''):Reb P C C'':=by
 obtain⟨ms,e1,e2,e3⟩:=h.marks
 obtain⟨ms',f1,f2,f3⟩:=h'.marks
 have hno:∀b,b<C'.w0.heap.size→b∉C'.own0→b∉C''.own0:=fun b hb hn hm=>hn (h'.own b hm hb)
 have hs:=h.size;have hs':=h'.size
 refine⟨fun M H w hi=>h.back M H w (h'.back M H w hi),by omega,fun b hb hl=>h.own b (h'.own b hb (by omega)) hl,fun b hb hn=>?_,ms'++ms,by rw[f1,e1];simp,?_,fun D hD=>?_⟩
 ·exact(h'.frame b (by omega) fun hm=>hn (h.own b hm hb)).trans (h.frame b hb hn)
 ·refine List.nodup_append.2 ⟨f2,e2,fun D hD E hE e=>?_⟩
  have:=(f3 D hD).1
  have:=(e3 E hE).2.1
  omega
 ·rcases List.mem_append.1 hD with hD|hD
  ·obtain⟨a,b,c,d⟩:=f3 D hD
   exact⟨by omega,b,c,d⟩
  ·obtain⟨a,b,c,d⟩:=e3 D hD
   exact⟨a,by omega,hno D b c,(h'.frame D b c).trans d⟩
def after(P:Program)(C:Ctx)(Qf:Exit→Act→World→Prop):List KI→Exit→Act→World→Prop
 |[],e,a,w=>Qf e a w
 | .code c::k,.normal,a,w=>c.wp P (after P C Qf k) a w
 | .code _::k,e,a,w=>after P C Qf k e a w
 | .blk id::k,.exit j,a,w=>if j=id then after P C Qf k .normal a w else after P C Qf k (.exit j) a w
 | .blk _::k,e,a,w=>after P C Qf k e a w
 | .stop G::_,.normal,a,w=>∃C' st M,Reb P C C'∧G st∧dM P C' M st a w
 | .stop _::k,e,a,w=>after P C Qf k e a w
def Post(P:Program)(C:Ctx)(R:PV→Heap→Prop)(e:Ending)(w:World):Prop:=
 ∃v u H' M',e= .returned v∧R u H'∧InvH P C M' H' w∧Rep P M' true u v
def Marks(C:Ctx)(a:Act)(w:World):Prop:=
 ∃ms:List Nat,a.defers=ms.map markD++C.ds∧ms.Nodup∧∀D∈ms,C.w0.heap.size≤D∧w.heap[D]? =some (.deferred (some []))
def retP(P:Program)(Px:PV→Prop)(fn:Func)(C:Ctx)(R:PV→Heap→Prop):Exit→Act→World→Prop
 | .panic ch,a,w=>Marks C a w∧PanP P Px C ch w
 | .normal,a,w| .ret,a,w=>Marks C a w∧∃st M,gF P a.defers M st.n st.s a∧InvH P C M st.heap w∧∀C' w',dM P C' M st a w'→∃v,(results fn a.tmps).run P w'= .ok v w'∧Post P C' R (.returned v) w'
 |_,_,_=>False
theorem retP.of{P:Program}{Px:PV→Prop}{fn:Func}{C:Ctx}{R:PV→Heap→Prop}{M:Mem}{st:PState}{a:Act}{w:World}(hi:dM P C M st a w)(h:∀C w,dM P C M st a w→∃v,(results fn a.tmps).run P w= .ok v w∧Post P C R (.returned v) w):retP P Px fn C R .ret a w:=
 ⟨⟨[],hi.1.2.1,List.nodup_nil,fun _ h=>absurd h (by simp)⟩,st,M,⟨hi.1.1,rfl,hi.1.2.2⟩,hi.2,h⟩
theorem retP.ofN{P:Program}{Px:PV→Prop}{fn:Func}{C:Ctx}{R:PV→Heap→Prop}{M:Mem}{st:PState}{a:Act}{w:World}(hi:dM P C M st a w)(h:∀C w,dM P C M st a w→∃v,(results fn a.tmps).run P w= .ok v w∧Post P C R (.returned v) w):retP P Px fn C R .normal a w:=retP.of (Px:=Px) hi h
theorem retP_conv{P:Program}{Px:PV→Prop}{fn:Func}{C C':Ctx}{R:PV→Heap→Prop}(h:Reb P C C'):∀(e:Exit) (a:Act) (w:World),retP P Px fn C' R e a w→retP P Px fn C R e a w:=by
 have key:∀(a:Act) (w:World),retP P Px fn C' R .ret a w→retP P Px fn C R .ret a w:=by
  rintro a w ⟨⟨ms',f1,f2,f3⟩,st,M,hs,hi,hr⟩
  obtain⟨ms,e1,e2,e3⟩:=h.marks
  have hz:=h.size
  refine⟨⟨ms'++ms,by rw[f1,e1];simp,?_,fun D hD=>?_⟩,st,M,hs,h.back _ _ _ hi,hr⟩
  ·refine List.nodup_append.2 ⟨f2,e2,fun D hD E hE e=>?_⟩
   have:=(f3 D hD).1
   have:=(e3 E hE).2.1
   omega
  ·rcases List.mem_append.1 hD with hD|hD
   ·exact⟨by have:=(f3 D hD).1;omega,(f3 D hD).2⟩
   ·obtain⟨a,b,c,d⟩:=e3 D hD
    exact⟨a,(hi.frame D b c).trans d⟩
 intro e a w he;cases e with
 |normal=>exact key a w he
 |ret=>exact key a w he
 |panic ch=>
  obtain⟨⟨ms',f1,f2,f3⟩,v,u,M,hc,hX,hi,hr⟩:=he
  obtain⟨ms,e1,e2,e3⟩:=h.marks
  have hz:=h.size
  refine⟨⟨ms'++ms,by rw[f1,e1];simp,?_,fun D hD=>?_⟩,v,u,M,hc,hX,h.back _ _ _ hi,hr⟩
  ·refine List.nodup_append.2 ⟨f2,e2,fun D hD E hE e=>?_⟩
   have:=(f3 D hD).1
   have:=(e3 E hE).2.1
   omega
  ·rcases List.mem_append.1 hD with hD|hD
   ·exact⟨by have:=(f3 D hD).1;omega,(f3 D hD).2⟩
   ·obtain⟨a,b,c,d⟩:=e3 D hD
    exact⟨a,(hi.frame D b c).trans d⟩
 |_=>exact he.elim
theorem fA{P:Program}{C C':Ctx}{Qf Qf':Exit→Act→World→Prop}(h:Reb P C C')(hQ:∀e a w,Qf' e a w→Qf e a w):∀(k:List KI) (e:Exit) (a:Act) (w:World),after P C' Qf' k e a w→after P C Qf k e a w
 |[],e,a,w,he=>hQ e a w he
 | .code c::k,e,a,w,he=>by
  cases e with
  |normal=>exact wp_mono (show c.wp P (after P C' Qf' k) a w from he) fun e a w=>fA h hQ k e a w
  |_=>exact fA h hQ k _ a w he
 | .blk id::k,e,a,w,he=>by
  cases e with
  |exit j=>
   simp only[after]at he⊢;split
   ·rename_i hj;rw[zp hj]at he;exact fA h hQ k _ a w he
   ·rename_i hj;rw[zy hj]at he;exact fA h hQ k _ a w he
  |_=>exact fA h hQ k _ a w he
 | .stop G::k,e,a,w,he=>by
  cases e with
  |normal=>
   obtain⟨C'',st,M,hr,hG,hi⟩:=he
   exact⟨C'',st,M,h.trans hr,hG,hi⟩
  |_=>exact fA h hQ k _ a w he
def V(P:Program)(Px:PV→Prop)(fn:Func)(R:PV→Heap→Prop)(k:List KI)(st:PState):Prop:=
 ∀C M a w,dM P C M st a w→after P C (retP P Px fn C R) k .normal a w
def iY(id:Nat):List KI→Option (List KI)
 |[]=>none
 | .blk j::k=>bif Nat.beq id j then some k else iY id k
 | .code _::k=>iY id k
 | .stop _::k=>iY id k
section
variable{P:Program}{Px:PV→Prop}{fn:Func}{R:PV→Heap→Prop}{k:List KI}{st:PState}
theorem ah{x y:Code}(h:V P Px fn R (.code x:: .code y::k) st):V P Px fn R (.code (.seq x y)::k) st:=by
 intro C M a w hi
 have:=h C M a w hi
 simp only[after]at this⊢;refine wp_seq (wp_mono this ?_);intro e a w he;cases e<;>exact he
theorem aQ(h:V P Px fn R k st):V P Px fn R (.code .skip::k) st:=fun C M a w hi=>wp_skip (h C M a w hi)
theorem bD{st':PState}(hg:Gh P st st')(h:V P Px fn R k st'):V P Px fn R k st:=fun C M a w hi=>
 let⟨M',hi'⟩:=hg C M a w hi
 h C M' a w hi'
theorem kJ{C:Ctx}{Qf:Exit→Act→World→Prop}{ch:List PanicEntry}:∀{k:List KI} {a:Act} {w:World},Qf (.panic ch) a w→after P C Qf k (.panic ch) a w
 |[],_,_,h=>h
 | .blk _::k,_,_,h=>by simp only[after];exact kJ h
 | .code _::k,_,_,h=>by simp only[after];exact kJ h
 | .stop _::k,_,_,h=>by simp only[after];exact kJ h
def VQ(P:Program)(Px:PV→Prop)(fn:Func)(R:PV→Heap→Prop)(k:List KI)(C:Ctx):PanQ P Px C C.ds:=
 ⟨after P C (retP P Px fn C R) k,fun _ _ _ hd hp=>kJ ⟨⟨[],hd,List.nodup_nil,fun _ h=>absurd h (by simp)⟩,hp⟩⟩
theorem ae{id:Nat}{ops:Array Oper}(h:Ao P Px ops ops.toList st fun st'=>V P Px fn R k st'):V P Px fn R (.code (.region id ops false)::k) st:=fun C M a w hi=>
 wp_region_list (h C M a w (VQ P Px fn R k C) hi fun _ M' a' w' hV hi'=>hV C M' a' w' hi')
theorem eW{id:Nat}{ops:Array Oper}{T:TT}{n:Nat}{s s':Nat→PV}{bx:Nat→Option Box}{ob:Nat→Option Obj}(j:Nat)(hT:T.Ok P)(hq:kU T ops n bx j ops.toList s=some ([],s'))(h:V P Px fn R k ⟨n,s',bx,ob⟩):V P Px fn R (.code (.region id ops false)::k) ⟨n,s,bx,ob⟩:=
 ae (au j hT hq (af h))
theorem aM{id:Nat}{ops:Array Oper}{y:Code}{T:TT}{n:Nat}{s s':Nat→PV}{bx:Nat→Option Box}{ob:Nat→Option Obj}(j:Nat)(hT:T.Ok P)(hq:kU T ops n bx j ops.toList s=some ([],s'))(h:V P Px fn R (.code y::k) ⟨n,s',bx,ob⟩):V P Px fn R (.code (.seq (.region id ops false) y)::k) ⟨n,s,bx,ob⟩:=
 ah (eW j hT hq h)
theorem mE{c:Operand}{x y:Code}{b:Bool}(hc:evS st.s c= .val (.bool b))(h:V P Px fn R (.code (if b then x else y)::k) st):V P Px fn R (.code (.cond c x y)::k) st:=fun C M a w hi=>by
 have:=hi.1.ev c
 rw[hc]at this;simp only[Rep]at this;exact wp_cond this (h C M a w hi)
theorem hJ{c:Operand}{x y:Code}(hc:evS st.s c= .val (.bool true))(h:V P Px fn R (.code x::k) st):V P Px fn R (.code (.cond c x y)::k) st:=mE hc h
theorem jS{c:Operand}{x y:Code}(hc:evS st.s c= .val (.bool false))(h:V P Px fn R (.code y::k) st):V P Px fn R (.code (.cond c x y)::k) st:=mE hc h
theorem kl{c:Operand}{x y:Code}{b:Bool}(hc:evS st.s c= .val (.bool b))(ht:b=true→V P Px fn R (.code x::k) st)(hf:b=false→V P Px fn R (.code y::k) st):V P Px fn R (.code (.cond c x y)::k) st:=by
 cases b
 ·exact mE hc (hf rfl)
 ·exact mE hc (ht rfl)
theorem bs{id:Nat}{c:Code}(h:V P Px fn R (.code c:: .blk id::k) st):V P Px fn R (.code (.block id c)::k) st:=fun C M a w hi=>by
 have:=h C M a w hi
 simp only[after]at this⊢;refine wp_block (wp_mono this ?_);intro e a w he;cases e with
 |exit j=>simpa only[Exit.inBlock,after]using he
 |_=>exact he
theorem bU{id:Nat}(h:V P Px fn R k st):V P Px fn R (.blk id::k) st:=fun C M a w hi=>h C M a w hi
theorem nF{G:PState→Prop}(h:G st):V P Px fn R (.stop G::k) st:=fun C M _ _ hi=>⟨C,st,M,.refl C,h,hi⟩
theorem nz{c:Code}{G G':PState→Prop}(hG:∀st,G st→G' st)(h:V P Px fn R (.code c:: .stop G::k) st):V P Px fn R (.code c:: .stop G'::k) st:=fun C M a w hi=>by
 have h1:=h C M a w hi;simp only[after]at h1⊢;refine wp_mono h1 ?_;intro e a' w' hq;cases e<;>first|exact hq|(obtain⟨C',s,M,r,x,y⟩:=hq;exact⟨C',s,M,r,hG s x,y⟩)
theorem kK{C:Ctx}{Qf:Exit→Act→World→Prop}{id:Nat}:∀{k k':List KI},iY id k=some k'→∀{a:Act} {w:World},after P C Qf k' .normal a w→after P C Qf k (.exit id) a w
 |[],k',h,_,_,_=>by simp[iY]at h
 | .blk j::k,k',h,a,w,hk=>by
  simp only[iY]at h;cases hb:Nat.beq id j with
  |true=>
   simp only[hb,zc,zo]at h;subst h
   have:=Nat.eq_of_beq_eq_true hb
   simp only[after,zp this];exact hk
  |false=>
   simp only[hb,zd]at h;have hne:id≠j:=fun e=>by subst e;simp at hb
   simp only[after,zy hne];exact kK h hk
 | .code _::k,k',h,a,w,hk=>by
  simp only[iY]at h;simp only[after];exact kK h hk
 | .stop _::k,k',h,a,w,hk=>by
  simp only[iY]at h;simp only[after];exact kK h hk
theorem eI{id:Nat}{k':List KI}(hp:iY id k=some k')(h:V P Px fn R k' st):V P Px fn R (.code (.exit id)::k) st:=fun C M a w hi=>
 wp_exit (kK hp (h C M a w hi))
def ResOk(T:TT)(st:PState):ResultVar→PV→Prop
 | .tmp t,p=>st.s t=p
 | .cell a t,p=>∃ti tag b off cells,T.get t=some ti∧st.s a= .box tag b off∧st.bx tag=some ⟨b,cells⟩∧dV ti off cells=some p
def resF(tmps:Array Value):ResultVar→Sem Value
 | .tmp t=>pure (tmps.getD t undef)
 | .cell c t=>do loadVar t (←asAddr (tmps.getD c undef))
theorem lJ{rs:Array ResultVar}(hres:fn.results=rs)(tmps:Array Value):
  results fn tmps=(do let vs←rs.mapM (resF tmps);pure (if h:vs.size=1 then vs[0]else .tuple vs)):=by
 unfold results;rw[hres]
 have:(fun x=>match x with
  |ResultVar.tmp t=>pure (tmps.getD t undef)
  |ResultVar.cell a t=>do loadVar t (←asAddr (tmps.getD a undef)))=resF tmps:=by
  funext x;cases x<;>rfl
 rw[←this];rfl
theorem ResOk.run{T:TT}(hT:T.Ok P){rv:ResultVar}{p:PV}(h:ResOk T st rv p){C:Ctx}{M:Mem}{a:Act}{w:World}(hi:dM P C M st a w):
  ∃v,(resF a.tmps rv).run P w= .ok v w∧Rep P M true p v:=by
 cases rv with
 |tmp t=>
  simp only[ResOk]at h
  have:=hi.1.2.2 t
  rw[h]at this
  exact⟨_,rfl,this⟩
 |cell c t=>
  obtain⟨ti,tag,b,off,cells,hti,hs,hb,hr⟩:=h
  have hp:=hi.1.2.2 c;rw[hs]at hp
  obtain⟨u,h1,h2⟩:=det_load hT hti hi.2 (p:= .box tag b off) hp (r:=p) (by simp[jg,PState.heap,hb,hr])
  refine⟨u,?_,h2⟩
  simp only[Rep]at hp;rw[hp.2]at h1;simp only[resF,hp.2,asAddr];exact h1
def jC:List PV→PV
 |[p]=>p
 |ps=>.tup ps
def il(T:TT)(st:PState):List ResultVar→List PV→Prop
 |[],ps=>ps=[]
 |r::rs,ps=>∃p qs,ps=p::qs∧ResOk T st r p∧il T st rs qs
theorem kQ{T:TT}(hT:T.Ok P){rs:Array ResultVar}(hres:fn.results=rs){ps:List PV}(h:il T st rs.toList ps){C:Ctx}{M:Mem}{a:Act}{w:World}(hi:dM P C M st a w):
  ∃v,(results fn a.tmps).run P w= .ok v w∧Rep P M true (jC ps) v:=by
 have key:∀(l:List ResultVar) (ps:List PV),il T st l ps→∃vs:List Value,(l.mapM (resF a.tmps)).run P w= .ok vs w∧ay P M true ps vs:=by
  intro l;induction l with
  |nil=>intro ps h;simp only[il]at h;subst h;exact⟨[],by simp,by simp[ay]⟩
  |cons r l ih=>
   intro ps h;simp only[il]at h
   obtain⟨p,qs,rfl,h1,h2⟩:=h
   obtain⟨v,hv,hr⟩:=h1.run hT hi
   obtain⟨vs,hvs,hrs⟩:=ih qs h2
   refine⟨v::vs,?_,by simp only[ay];exact⟨v,vs,rfl,hr,hrs⟩⟩
   rw[List.mapM_cons,Sem.run_bind,hv,Result.andThen_ok,Sem.run_bind,hvs];rfl
 obtain⟨vs,hvs,hrep⟩:=key rs.toList ps h
 have hm:(rs.mapM (resF a.tmps)).run P w= .ok vs.toArray w:=by
  rw[Array.mapM_eq_mapM_toList,Sem.run_map,hvs];rfl
 have hlen:=hrep.length
 refine⟨if h:vs.toArray.size=1 then vs.toArray[0]else .tuple vs.toArray,?_,?_⟩
 ·rw[lJ hres,Sem.run_bind,hm];rfl
 ·match ps,vs,hrep,hlen with
  |[],[],hrep,_=>simp[jC,Rep,ay]
  |[p],[v],hrep,_=>
   simp only[ay]at hrep
   obtain⟨x,xs,he,hx,_⟩:=hrep
   simp only[List.cons.injEq]at he;simpa[jC,he.1]using hx
  |p::q::ps,u::v::vs,hrep,_=>
   simp only[jC,Rep]
   exact⟨(u::v::vs).toArray,by simp,by simpa using hrep⟩
theorem kA{C:Ctx}{Qf:Exit→Act→World→Prop}:∀{k:List KI} {a:Act} {w:World},Qf .ret a w→after P C Qf k .ret a w
 |[],_,_,h=>h
 | .blk _::k,_,_,h=>by simp only[after];exact kA h
 | .code _::k,_,_,h=>by simp only[after];exact kA h
 | .stop _::k,_,_,h=>by simp only[after];exact kA h
def HSub(H' H:Heap):Prop:=(∀t x,H'.bx t=some x→H.bx t=some x)∧(∀t x,H'.ob t=some x→H.ob t=some x)
theorem HSub.empty(H:Heap):HSub Heap.empty H:=⟨fun _ _ h=>by simp[Heap.empty]at h,fun _ _ h=>by simp[Heap.empty]at h⟩
theorem cF{T:TT}(hT:T.Ok P){rs:Array ResultVar}(hres:fn.results=rs){ps:List PV}(h:il T st rs.toList ps){u:PV}(hu:PLe P (jC ps) u){H':Heap}(hH:HSub H' st.heap)(hR:R u H'):
  V P Px fn R (.code .ret::k) st:=by
 intro C M a w hi;refine wp_ret (kA (retP.of hi fun C w hi=>?_))
 obtain⟨v,hv,hr⟩:=kQ hT hres h hi
 exact⟨v,hv,v,u,H',M,rfl,hR,hi.2.less hH.1 hH.2,hu M v hr⟩
theorem PLe.q{p q:PV}(h:p=q):PLe P p q:=h▸PLe.refl P p
section
variable{n:Nat}{s:Nat→PV}{bx:Nat→Option Box}{ob:Nat→Option Obj}{r:PV}
theorem cD{T:TT}(hT:T.Ok P){rs:Array ResultVar}(hres:fn.results=rs){ps:List PV}(h:il T ⟨n,s,bx,ob⟩ rs.toList ps)(hu:PLe P (jC ps) r):
  V P Px fn (fun u H=>u=r∧H=Heap.empty) (.code .ret::k) ⟨n,s,bx,ob⟩:=
 cF hT hres h hu (HSub.empty _) ⟨rfl,rfl⟩
end
theorem wp_loop_by{P:Program}{Q:Exit→Act→World→Prop}{c:Code}(I:Nat→Act→World→Prop){n:Nat}{a:Act}{w:World}(h₀:I n a w)
  (round:∀n a w,I n a w→c.wp P (Exit.then (fun a' w'=>∃m,m<n∧I m a' w') Q) a w):(Code.loop c).wp P Q a w:=by
 intro b k cs
 have key:∀n a w,I n a w→∃e a' w',Q e a' w'∧Arrives P (lone (b.at a (.code c:: .inLoop c::k)) cs w) b k cs e a' w':=by
  intro n;induction n using Nat.strongRecOn with
  |_ n ih=>
   intro a w hI
   obtain⟨e,a₁,w₁,hq,harr⟩:=round n a w hI b (.inLoop c::k) cs
   cases e with
   |normal=>
    obtain⟨m,hlt,hI₁⟩:=hq
    obtain⟨e₂,a₂,w₂,hq₂,harr₂⟩:=ih m hlt a₁ w₁ hI₁
    exact⟨e₂,a₂,w₂,hq₂,.of_steps (Steps.trans harr (.one step_inLoop)) harr₂⟩
   |exit id=>exact⟨_,a₁,w₁,hq,.pass (x:= .inLoop c) rfl (fun _ _=>.inl (by simp)) harr⟩
   |goto l=>exact⟨_,a₁,w₁,hq,.pass (x:= .inLoop c) rfl (fun _ _=>.inl (by simp)) harr⟩
   |ret=>exact⟨_,a₁,w₁,hq,.pass (x:= .inLoop c) rfl (fun _ _=>.inl (by simp)) harr⟩
   |panic ch=>exact⟨_,a₁,w₁,hq,.pass (x:= .inLoop c) rfl (fun _ _=>.inl (by simp)) harr⟩
   |outgrown=>exact⟨_,a₁,w₁,hq,.pass (x:= .inLoop c) rfl (fun _ _=>.inl (by simp)) harr⟩
 obtain⟨e,a',w',hq,harr⟩:=key n a w h₀
 exact⟨e,a',w',hq,.of_steps (.one step_loop) harr⟩
theorem V.loop(I:Nat→PState→Prop){c:Code}{n:Nat}(h₀:I n st)(round:∀n st,I n st→V P Px fn R (.code c:: .stop (fun st'=>∃m,m<n∧I m st')::k) st):V P Px fn R (.code (.loop c)::k) st:=by
 intro C M a w hi;refine wp_loop_by (fun n a w=>∃C' st M,Reb P C C'∧I n st∧dM P C' M st a w) ⟨C,st,M,.refl C,h₀,hi⟩ ?_;rintro n a w ⟨C',st,M,hrb,hI,hi⟩
 have:=round n st hI C' M a w hi
 simp only[after]at this;refine wp_mono this ?_;intro e a w he;cases e with
 |normal=>
  obtain⟨C'',st',M',hrb',⟨m,hm,hI'⟩,hi'⟩:=he
  exact⟨m,hm,C'',st',M',hrb.trans hrb',hI',hi'⟩
 |_=>exact fA hrb (retP_conv hrb) k _ a w he
def Dead:Go.Obj→Prop
 | .cells ..=>False
 | .map ..=>False
 |_=>True
theorem dead_cell{w:World}{D:Nat}{o:Go.Obj}(hd:w.heap[D]? =some o)(ho:Dead o)(k:Nat):w.cell? ⟨D,k,none⟩=none:=by
 simp only[World.cell?,hd];cases o<;>first|rfl|exact ho.elim
theorem InvH.deadBox{C:Ctx}{M:Mem}{H:Heap}{w:World}(h:InvH P C M H w){D:Nat}{o:Go.Obj}(hd:w.heap[D]? =some o)(ho:Dead o){t:Nat}{x:Box}(hx:H.bx t=some x):x.b≠D:=by
 intro e
 obtain⟨_,⟨o',h1,h2⟩,_⟩:=h.boxes t x hx
 rw[e,hd]at h1;cases h1;cases o<;>first|exact ho|exact h2
theorem InvH.deadObj{C:Ctx}{M:Mem}{H:Heap}{w:World}(h:InvH P C M H w){D:Nat}{o:Go.Obj}(hd:w.heap[D]? =some o)(ho:Dead o){t b:Nat}{x:Obj}(hx:H.ob t=some x)(hb:x.g.blk=some b):b≠D:=by
 intro e
 obtain⟨i,_,_,_,hn|⟨b',cur,h1,_,h2,_⟩⟩:=h.objs t x hx
 ·rw[hn.1]at hb;cases hb
 ·rw[h1]at hb;cases hb;rw[e,hd]at h2;cases h2;exact ho
theorem InvH.putDead{C:Ctx}{M:Mem}{H:Heap}{w:World}(h:InvH P C M H w){D:Nat}{o0:Go.Obj}(hD:C.w0.heap.size≤D)(hd:w.heap[D]? =some o0)(hdead:Dead o0)(o:Go.Obj):InvH P C M H (w.putObj D o):=by
 have hh:∀b,b≠D→(w.putObj D o).heap[b]? =w.heap[b]?:=fun b hb=>World.putObj_heap_other hb
 have hm:∀b k v,w.cell? ⟨b,k,none⟩=some v→b≠D:=by
  intro b k v hv e;rw[e,dead_cell hd hdead]at hv;cases hv
 have hb:∀t x,H.bx t=some x→x.b≠D:=fun t x hx=>h.deadBox hd hdead hx
 have ho:∀t x,H.ob t=some x→∀b,x.g.blk=some b→b≠D:=fun t x hx b hb=>h.deadObj hd hdead hx hb
 refine⟨fun b k v hv=>?_,h.ext,h.new,h.os,h.tape,h.output,by rw[World.putObj_size];exact h.size,fun b hb' hn=>?_,fun t x hx=>?_,fun t x hx=>?_,h.dbox,h.dobj,h.dmix⟩
 ·have h1:=h.mem b k v hv;have h2:=hh b (hm b k v h1);simpa only[World.cell?,h2]using h1
 ·rw[hh b (by omega)];exact h.frame b hb' hn
 ·exact(h.boxes t x hx).keep (Mem.le_refl M) (fun _ h=>h) (hh _ (hb t x hx))
 ·exact(h.objs t x hx).keep (Mem.le_refl M) (fun _ _ _ h=>h) (fun b hb'=>hh _ (ho t x hx b hb'))
theorem InvH.reds{C:Ctx}{M:Mem}{H:Heap}{w:World}(h:InvH P C M H w)(ds:List Deferred):InvH P ⟨C.w0,C.own0,C.M0,C.gl,ds⟩ M H w:=
 ⟨h.mem,h.ext,h.new,h.os,h.tape,h.output,h.size,h.frame,h.boxes,h.objs,h.dbox,h.dobj,h.dmix⟩
def PostX(P:Program)(C:Ctx)(R:PV→Heap→Prop)(Px:PV→Prop)(e:Ending)(w:World):Prop:=Post P C R e w∨∃ch,e= .panicked ch∧PanP P Px C ch w
def ba(P:Program)(f:FuncId)(args:List PV)(Hin:Heap)(R:PV→Heap→Prop)(Px:PV→Prop):Prop:=
 ∀(w:World) (M:Mem) (own:List Nat) (hg:Gl w own) (vs:Array Value),InvH P ⟨w,own,M,hg,[]⟩ M Hin w→ay P M true args vs.toList→Calls P f vs w (PostX P ⟨w,own,M,hg,[]⟩ R Px)
theorem leaves_pan{C:Ctx}{fn:Func}{tmps:Array Value}{v:Value}{u:PV}{M:Mem}(hX:Px u)(hr:Rep P M true u v):∀(ms:List Nat) {w:World},ms.Nodup→(∀D∈ms,C.w0.heap.size≤D∧w.heap[D]? =some (.deferred (some [])))→InvH P C M Heap.empty w→LeavesInM Fence.wide 0 P fn tmps (PostX P C R Px) (ms.map markD) (.panicking [{v:=v,recovered:=false}]) w
 |[],w,_,_,hi=>.inr ⟨_,rfl,v,u,M,rfl,hX,hi,hr⟩
 |D::ms,w,h3,h2,hi=>by
  have hD:=h2 D (by simp);have hn:=List.nodup_cons.1 h3
  exact⟨by simp,.inl ⟨D,w.putObj D (.deferred none),rfl,run_takeDeferred hD.2,leaves_pan hX hr ms hn.2 (fun E hE=>⟨(h2 E (by simp[hE])).1,by rw[World.putObj_heap_other (fun e=>hn.1 (by rw[←e];exact hE))];exact(h2 E (by simp[hE])).2⟩) (hi.putDead hD.1 hD.2 trivial _)⟩⟩
theorem mg{C:Ctx}{a:Act}{st:PState}{M:Mem}(hs:gF P a.defers M st.n st.s a)(hr:∀C' w',dM P C' M st a w'→∃v,(results fn a.tmps).run P w'= .ok v w'∧Post P C' R (.returned v) w'):
  ∀(ms:List Nat) {w:World},ms.Nodup→(∀D∈ms,C.w0.heap.size≤D∧w.heap[D]? =some (.deferred (some [])))→InvH P C M st.heap w→LeavesInM Fence.wide 0 P fn a.tmps (PostX P C R Px) (ms.map markD) .returning w
 |[],w,_,_,hi=>by
  obtain⟨v,hv,v',u,H',M',e,hR,hi',hx⟩:=hr ⟨C.w0,C.own0,C.M0,C.gl,a.defers⟩ w ⟨hs,hi.reds _⟩
  exact⟨v,hv,.inl ⟨v',u,H',M',e,hR,hi'.reds C.ds,hx⟩⟩
 |D::ms,w,h3,h2,hi=>by
  have hD:=h2 D (by simp);have hn:=List.nodup_cons.1 h3
  exact⟨by simp,.inl ⟨D,w.putObj D (.deferred none),rfl,run_takeDeferred hD.2,mg hs hr ms hn.2 (fun E hE=>⟨(h2 E (by simp[hE])).1,by rw[World.putObj_heap_other (fun e=>hn.1 (by rw[←e];exact hE))];exact(h2 E (by simp[hE])).2⟩) (hi.putDead hD.1 hD.2 trivial _)⟩⟩
def iZ(args:List PV):Nat→PV:=fun t=>match args[t]? with|some p=>p|none=>.any
theorem ba.intro{f:FuncId}{c:Code}(hf:P.funcs[f]? =some fn)(hb:fn.body=some c){nt:Nat}(hn:fn.ntmps=nt){args:List PV}{Hin:Heap}(hargs:Nat.ble args.length nt=true)
  (h:V P Px fn R [.code c] ⟨nt,iZ args,Hin.bx,Hin.ob⟩):ba P f args Hin R Px:=by
 intro w M own hg vs hi ha;refine callsIn_wide.1 (callsIn_of_wp_marks (F:=Fence.wide) (n:=0) hf hb trivial (wpIn_wide.2 ?_));have hl:=ha.length;have hle:=Nat.le_of_ble_eq_true hargs;have hi':InvH P ⟨w,own,M,hg,[]⟩ M Hin w:=hi;refine wp_mono (h ⟨w,own,M,hg,[]⟩ M _ w ⟨⟨?_,rfl,fun t=>?_⟩,hi'⟩) (fun e a w' he=>?_)
 ·simp at hl;simp;omega
 ·simp only[iZ];cases hp:args[t]? with
  |none=>simp[Rep]
  |some p=>
   obtain⟨x,hx,hr⟩:=ha.get t p hp
   have hlt:t<vs.size:=by
    have:=(zg.1 hx).1
    simpa using this
   have:(vs++Array.replicate (fn.ntmps-vs.size) undef)[t]? =some x:=by
    rw[Array.getElem?_append_left hlt,←Array.getElem?_toList];exact hx
   simpa[this]using hr
 ·have key:∀{a:Act} {w':World},retP P Px fn ⟨w,own,M,hg,[]⟩ R .ret a w'→LeavesInM Fence.wide 0 P fn a.tmps (PostX P ⟨w,own,M,hg,[]⟩ R Px) a.defers .returning w':=fun⟨⟨ms,h1,h2,h3⟩,st,M',hs,hi,hr⟩=>by
   have:=mg (Px:=Px) hs hr ms h2 h3 hi
   rw[h1,List.append_nil];exact this
  cases e with
  |panic ch=>
   obtain⟨⟨ms,h1,h2,h3⟩,v,u,M',rfl,hX,hi,hr⟩:=he
   have:=leaves_pan (Px:=Px) (R:=R) (fn:=fn) (tmps:=a.tmps) hX hr ms h2 h3 hi
   show LeavesInM Fence.wide 0 P fn a.tmps _ a.defers _ _;rw[h1,List.append_nil];exact this
  |_=>first|exact key he|exact he.elim
theorem PH.intro{f:FuncId}{c:Code}(hf:P.funcs[f]? =some fn)(hb:fn.body=some c){nt:Nat}(hn:fn.ntmps=nt){args:List PV}{Hin:Heap}(hargs:Nat.ble args.length nt=true)
  (h:V P nPx fn R [.code c] ⟨nt,iZ args,Hin.bx,Hin.ob⟩):PH P f args Hin R:=fun w M own hg vs hi ha=>
 (ba.intro hf hb hn hargs h w M own hg vs hi ha).mono fun _ _ h=>h.elim id fun⟨_,_,_,_,_,_,hF,_⟩=>hF.elim
theorem PH.br{f:FuncId}{c:Code}{nt:Nat}{args:List PV}{Hin:Heap}(hf:P.funcs[f]? =some fn)(hn:fn.ntmps=nt)(h:V P nPx fn R [.code c] ⟨nt,iZ args,Hin.bx,Hin.ob⟩)(hb:fn.body=some c:=by exact rfl)(hargs:Nat.ble args.length nt=true:=by exact rfl):PH P f args Hin R:=PH.intro hf hb hn hargs h
end
def iz(k:Nat):Nat→List PV→List (List PV)
 |0,_=>[]
 |n+1,l=>l.take k::iz k n (l.drop k)
theorem mQ(k:Nat):∀(n:Nat) (l:List PV),l.length=n*k→(iz k n l).flatten=l∧(iz k n l).length=n∧∀r∈iz k n l,r.length=k
 |0,l,h=>by
  have:l=[]:=List.eq_nil_of_length_eq_zero (by simpa using h)
  subst this;simp[iz]
 |n+1,l,h=>by
  have hl:k≤l.length:=by rw[h,Nat.add_mul];omega
  obtain⟨h1,h2,h3⟩:=mQ k n (l.drop k) (by simp[h,Nat.add_mul])
  refine⟨by simp[iz,h1],by simp[iz,h2],fun r hr=>?_⟩
  simp only[iz,List.mem_cons]at hr;rcases hr with rfl|hr
  ·simp;omega
  ·exact h3 r hr
theorem ma{α:Type}(l:List α):∀(n j:Nat),j<n*l.length→(List.replicate n l).flatten[j]? =l[j%l.length]?
 |0,j,h=>by simp at h
 |n+1,j,h=>by
  simp only[List.replicate_succ,List.flatten_cons];by_cases hj:j<l.length
  ·rw[List.getElem?_append_left hj,Nat.mod_eq_of_lt hj]
  ·have hlen:l.length≤j:=by omega
   rw[List.getElem?_append_right hlen,ma l n (j-l.length) (by rw[Nat.add_mul]at h;omega)];rw[←Nat.mod_eq_sub_mod hlen]
theorem zeros_eq(z:Array Value)(n:Nat):((Array.range (n*z.size)).map (z[·%z.size]!)).toList=(List.replicate n z.toList).flatten:=by
 apply List.ext_getElem?;intro j;by_cases hj:j<n*z.size
 ·rw[ma z.toList n j (by simpa using hj)]
  have hz:0<z.size:=by
   rcases Nat.eq_zero_or_pos z.size with h|h
   ·rw[h]at hj;simp at hj
   ·exact h
  have hm:j%z.size<z.size:=Nat.mod_lt _ hz;simp[hj,hm]
 ·have h1:((Array.range (n*z.size)).map (z[·%z.size]!)).toList.length≤j:=by simp;omega
  have h2:(List.replicate n z.toList).flatten.length≤j:=by simp;omega
  rw[List.getElem?_eq_none h1,List.getElem?_eq_none h2]
theorem mS{P:Program}{M:Mem}{s:Bool}{ps:List PV}{xs:List Value}(h:ay P M s ps xs):∀n,ay P M s (List.replicate n ps).flatten (List.replicate n xs).flatten
 |0=>by simp[ay]
 |n+1=>by
  simp only[List.replicate_succ,List.flatten_cons];exact h.append (mS h n)
def gw(T:TT)(e:TypeId)(n:Nat)(parts:List (Nat×PV)):Option (List (List PV)):=
 match T.get e with
 |some ei=>match gN (fun i=>some (i*ei.size,ei.size)) (List.replicate n (fy ei)).flatten parts with
  |some out=>match dl out with
   |some out=>bif PV.frozL out&&out.all PV.one&&Nat.beq (fy ei).length ei.size&&Nat.blt 0 ei.size&&Nat.ble (n*ei.size) 16777216&&Nat.ble (n*ei.bytes) 140737488355328 then some (iz ei.size n out)else none
   |none=>none
  |none=>none
 |none=>none
section
variable{P:Program}{Px:PV→Prop}{T:TT}(hT:T.Ok P)
include hT
theorem bs_run{t e:TypeId}{ti:TInfo}(hti:T.get t=some ti)(hd:ti.desc= .slice e){n:Nat}{ps:Array (Nat×Operand)}{rows:List (List PV)}{ev:Operand→PV}{ρ:Operand→Value}(h:gw T e n (ep ev ps)=some rows)
  {M:Mem} (w:World) (he:∀x∈ps.toList.map (·.2),Rep P M true (ev x) (ρ x)):
  ∃i cs,P.info? e=some i∧(Instr.buildSlice t n (ps.map fun p=>(p.1,ρ p.2))).run P w= .ok (.slice (some ⟨w.heap.size,0,none⟩) n n) (w.alloc (.cells cs e))∧
   ay P M false rows.flatten cs.toList∧(∀v∈cs.toList,v.oneCell'=true)∧rows.length=n∧(∀r∈rows,r.length=i.size)∧cs.size=n*i.size∧n*i.bytes≤2^47∧n≤16777216:=by
 unfold gw at h;split at h
 ·rename_i ei hei;split at h
  ·rename_i out hf;rw[db]at h;simp only at h;generalize hc:(PV.frozL out&&out.all PV.one&&Nat.beq (fy ei).length ei.size&&Nat.blt 0 ei.size&&Nat.ble (n*ei.size) 16777216&&Nat.ble (n*ei.bytes) 140737488355328)=c at h;cases c with
   |false=>simp at h
   |true=>
    simp only[zc,zo]at h;subst h;simp only[Bool.and_eq_true]at hc
    obtain⟨⟨⟨⟨⟨c1,c2⟩,c3⟩,c6⟩,c4⟩,c5⟩:=hc
    have c3:=Nat.eq_of_beq_eq_true c3;have c4:=Nat.le_of_ble_eq_true c4;have c5:=Nat.le_of_ble_eq_true c5;have c6:0<ei.size:=by simpa[Nat.blt_eq]using c6
    obtain⟨i,hi,hs,hby,hz⟩:=(hT.get hei).info
    have hzl:ei.zero.cells.size=ei.size:=by simpa[fy]using c3
    obtain⟨h1,h2⟩:=mT (P:=P) (M:=M) (s:=true) ps.toList he
    have hinit:ay P M true (List.replicate n (fy ei)).flatten ((Array.range (n*ei.zero.cells.size)).map (ei.zero.cells[·%ei.zero.cells.size]!)).toList:=by
     rw[zeros_eq];exact mS (lz _) n
    obtain⟨cs,hfill,hrep⟩:=kf (s:=true) (vals:=ps.toList.map fun(p:Nat×Operand)=>(p.1,ρ p.2)) hf hinit h1 h2
    have hlen:out.length=n*ei.size:=by
     have hl:=hrep.length
     have hfl:∀{parts:List (Nat×PV)} {cells out:List PV},gN (fun i=>some (i*ei.size,ei.size)) cells parts=some out→out.length=cells.length:=by
      intro parts;induction parts with
      |nil=>intro cells out h;simp only[gN,zo]at h;rw[h]
      |cons q r ih=>
       intro cells out h
       obtain⟨j,p⟩:=q
       simp only[gN]at h;split at h
       ·rename_i off size pc hpl hpc;generalize hb:(Nat.beq pc.length size&&Nat.ble (off+size) cells.length)=b at h;cases b with
        |false=>simp at h
        |true=>
         simp only[zc]at h;simp only[Bool.and_eq_true]at hb;have h1:=Nat.eq_of_beq_eq_true hb.1;have h2:=Nat.le_of_ble_eq_true hb.2;rw[ih h];simp[splice];omega
       ·cases h
     rw[hfl hf];simp[c3]
    obtain⟨f1,f2,f3⟩:=mQ ei.size n out hlen
    have hone:=ay.oneCell c2 hrep;have hcs:cs.size=n*ei.size:=by have:=hrep.length;simp at this;omega
    refine⟨i,cs,hi,?_,by rw[f1];exact ay.unslot c1 hrep,hone,f2,by rw[hs];exact f3,by rw[hs];exact hcs,by rw[hby];exact c5,?_⟩
    ·have hu:=(hT.get hti).rund w;rw[hd]at hu;have hb:¬(n*ei.size>2^24):=by omega
     have hsz:=(hT.get hei).rsize w;have hzr:=(hT.get hei).rzero w;by_cases h0:n*ei.size=0
     ·have hn0:n=0:=by rcases Nat.mul_eq_zero.1 h0 with h|h<;>omega
      subst hn0;have e1:((Array.range (0*ei.zero.cells.size)).map (ei.zero.cells[·%ei.zero.cells.size]!))=#[]:=by simp
      rw[e1]at hfill;have e2:((Array.range (0*ei.size)).map ((#[]:Array Value)[·%(#[]:Array Value).size]!))=#[]:=by simp
      simp only[Instr.buildSlice,Sem.run_bind,hu,Result.andThen_ok,hsz,Array.toList_map];rw[zy hb,zp h0];simp only[Sem.run_bind,Sem.run_pure,Result.andThen_ok];rw[e2,hfill];simp[newRow]
     ·rw[hzl]at hfill;simp only[Instr.buildSlice,Sem.run_bind,hu,Result.andThen_ok,hsz,hb,if_false,h0,hzr,Sem.run_pure,Array.toList_map,hzl];rw[hfill];simp[newRow]
    ·have:=Nat.le_mul_of_pos_right n c6;omega
  ·cases h
 ·cases h
theorem eff_bsF{o:Oper}{ev:Operand→PV}{H:Heap}{t e:TypeId}{n:Nat}{ps:Array (Nat×Operand)}(ho:o.op= .buildSlice t n ps){ti:TInfo}(hti:T.get t=some ti)(hd:ti.desc= .slice e){rows:List (List PV)}
  (h:gw T e n (ep ev ps)=some rows):DetOk P o ev H (.list e rows):=by
 intro C M a w hi he
 obtain⟨i,cs,hinf,hrun,hrep,hone,hlen,hrl,hcs,hby,hn⟩:=bs_run hT hti hd h w (fun x hx=>he x (by rw[ho];simpa[Op.operands]using hx))
 have hle:=hi.add_le cs
 refine⟨.slice (some ⟨w.heap.size,0,none⟩) n n,M.add w.heap.size cs,w.alloc (.cells cs e),?_,hle,hi.alloc_frozen cs e,?_⟩
 ·simp only[execOp,ho,Sem.run_bind,hrun];rfl
 ·simp only[Rep]
  refine⟨_,n,i,by rw[hlen],by omega,by unfold maxLen;omega,hinf,by rw[hlen];exact hby,fun _=>⟨_,_,rfl,?_⟩⟩
  exact ca.of_flat hrl (repAt_add hi rows.flatten cs hone hrep)
theorem eff_bsO{o:Oper}{ev:Operand→PV}{H:Heap}{t e:TypeId}{n:Nat}{ps:Array (Nat×Operand)}(ho:o.op= .buildSlice t n ps)(tag:Nat){ti:TInfo}(hti:T.get t=some ti)(hd:ti.desc= .slice e){rows:List (List PV)}
  (h:gw T e n (ep ev ps)=some rows) {K:PV→Heap→Prop} (hk:∀g,K (.own tag g n) ⟨H.bx,upd H.ob tag (some ⟨g,e,rows,true⟩)⟩):Eff P Px o ev H K:=by
 intro C M a w next Q hi he hn
 obtain⟨i,cs,hinf,hrun,hrep,hone,hlen,hrl,hcs,hby,hn16⟩:=bs_run hT hti hd h w (fun x hx=>he x (by rw[ho];simpa[Op.operands]using hx))
 unfold Oper.wp
 have hrun':(execOp a.eval o).run P w= .ok (.value (.slice (some ⟨w.heap.size,0,none⟩) n n)) (w.alloc (.cells cs e)):=by
  simp only[execOp,ho,Sem.run_bind,hrun];rfl
 rw[hrun'];have htake:cs.toList.take (rows.length*i.size)=cs.toList:=List.take_of_length_le (by rw[hlen];simp[hcs]);refine hn _ _ _ M _ (hk ⟨some w.heap.size,n⟩) (Mem.le_refl M) (hi.alloc_obj tag e rows true n cs i hinf (by rw[hlen];exact hby) hrl hcs (by omega) (by unfold maxLen;omega) (by rw[htake];exact hrep) (by rw[htake];exact hone)) ?_;simp[Rep,OwnRef.val]
end
section
variable{P:Program}{Px:PV→Prop}{ops:Array Oper}{rest:List Oper}{o:Oper}{n:Nat}{s s':Nat→PV}{bx:Nat→Option Box}{ob:Nat→Option Obj}{K:PState→Prop}{T:TT}
theorem Ao.bsF(hT:T.Ok P)(hg:aN ops s o=some true){t e:TypeId}{m:Nat}{ps:Array (Nat×Operand)}(ho:o.op= .buildSlice t m ps){ti:TInfo}(hti:T.get t=some ti)(hd:ti.desc= .slice e){rows:List (List PV)}
  (hr:gw T e m (ep (evS s) ps)=some rows) (hp:putD n s o.dst (.list e rows)=some s') (h:Ao P Px ops rest ⟨n,s',bx,ob⟩ K):Ao P Px ops (o::rest) ⟨n,s,bx,ob⟩ K:=
 fQ hg ((Eff.of_det (eff_bsF hT (H:=⟨bx,ob⟩) ho hti hd hr)).mono fun u H' ⟨hu,hH⟩=>by subst hu;subst hH;exact⟨s',hp,h⟩)
theorem Ao.bsO(hT:T.Ok P)(hg:aN ops s o=some true){t e:TypeId}{m:Nat}{ps:Array (Nat×Operand)}(ho:o.op= .buildSlice t m ps){d:Nat}(hdst:o.dst=some d)(hlt:Nat.blt d n=true){ti:TInfo}(hti:T.get t=some ti)(hd:ti.desc= .slice e){rows:List (List PV)}
  (hr:gw T e m (ep (evS s) ps)=some rows) (h:∀g,Ao P Px ops rest ⟨n,upd s d (.own d g m),bx,upd ob d (some ⟨g,e,rows,true⟩)⟩ K):Ao P Px ops (o::rest) ⟨n,s,bx,ob⟩ K:=
 fQ hg (eff_bsO hT ho d hti hd hr fun g=>⟨_,by simp[hdst,putD,hlt],h g⟩)
theorem nN(hg:aN ops s o=some true){fx:Operand}{av0:Array Operand}{ts:Array TypeId}(ho:o.op= .call {callee:= .value fx,args:=av0,argTypes:=ts}){g:FuncId}{caps:List PV}
  (hf:evS s fx= .fn g caps) (hcall:∀vs w,(callFunc g vs).run P w= .ok (.enter g vs) w) {args:List PV} (hle:dQ P (av0.toList.map (evS s)++caps) args) {r:PV} (hc:bI P g args r)
  (hp:putD n s o.dst r=some s') (h:Ao P Px ops rest ⟨n,s',bx,ob⟩ K):Ao P Px ops (o::rest) ⟨n,s,bx,ob⟩ K:=
 fQ hg (eff_callP ho hf hcall hle hc ⟨s',hp,h⟩)
theorem aI{fx:Operand}{av0:Array Operand}{ts:Array TypeId}{g:FuncId}{caps:List PV}{args:List PV}{r:PV}(hcall:∀vs w,(callFunc g vs).run P w= .ok (.enter g vs) w)(hle:dQ P (av0.toList.map (evS s)++caps) args)(hc:bI P g args r)(h:Ao P Px ops rest ⟨n,s',bx,ob⟩ K)(hg:aN ops s o=some true:=by exact rfl)(ho:o.op= .call {callee:= .value fx,args:=av0,argTypes:=ts}:=by exact rfl)(hf:evS s fx= .fn g caps:=by exact rfl)(hp:putD n s o.dst r=some s':=by exact rfl):Ao P Px ops (o::rest) ⟨n,s,bx,ob⟩ K:=nN hg ho hf hcall hle hc hp h
theorem Ao.idx(hT:T.Ok P)(hg:aN ops s o=some true){t:TypeId}{x i:Operand}(ho:o.op= .indexAddr t x i){ti:TInfo}(hti:T.get t=some ti){e:TypeId}(hd:ti.desc= .slice e){rows:List (List PV)}(hx:evS s x= .list e rows){k:IntKind}{j:Int}
  (hi:evS s i= .val (.int k j)) {r:List PV} (h0:0≤j) (hr:rows[j.toNat]? =some r) (hp:putD n s o.dst (.ptr r)=some s') (h:Ao P Px ops rest ⟨n,s',bx,ob⟩ K):Ao P Px ops (o::rest) ⟨n,s,bx,ob⟩ K:=by
 refine jb hT hg (r:= .ptr r) ?_ hp h;rw[ho];simp[eJ,hti,hx,hi,hd,h0,hr]
theorem dI{t:TypeId}{x i:Operand}{ti:TInfo}{e:TypeId}{rows:List (List PV)}{k:IntKind}{j:Int}{r:List PV}(hT:T.Ok P)(h0:0≤j)(hr:rows[j.toNat]? =some r)(h:Ao P Px ops rest ⟨n,s',bx,ob⟩ K)(hg:aN ops s o=some true:=by exact rfl)(ho:o.op= .indexAddr t x i:=by exact rfl)(hti:T.get t=some ti:=by exact rfl)(hd:ti.desc= .slice e:=by exact rfl)(hx:evS s x= .list e rows:=by exact rfl)(hi:evS s i= .val (.int k j):=by exact rfl)(hp:putD n s o.dst (.ptr r)=some s':=by exact rfl):Ao P Px ops (o::rest) ⟨n,s,bx,ob⟩ K:=Ao.idx hT hg ho hti hd hx hi h0 hr hp h
theorem Ao.idxS(hT:T.Ok P)(hg:aN ops s o=some true){t:TypeId}{x i:Operand}(ho:o.op= .index t x i){ti:TInfo}(hti:T.get t=some ti)(hd:ti.desc= .string){l:List UInt8}(hx:evS s x= .str l){k:IntKind}{j:Int}
  (hi:evS s i= .val (.int k j)) {c:UInt8} (h0:0≤j) (hr:l[j.toNat]? =some c) (hp:putD n s o.dst (.val (.int .u8 c.toNat))=some s') (h:Ao P Px ops rest ⟨n,s',bx,ob⟩ K):Ao P Px ops (o::rest) ⟨n,s,bx,ob⟩ K:=by
 refine jb hT hg (r:= .val (.int .u8 c.toNat)) ?_ hp h;rw[ho];simp[eJ,hti,hx,hi,hd,h0,hr]
theorem fD{t:TypeId}{x i:Operand}{ti:TInfo}{l:List UInt8}{k:IntKind}{j:Int}{c:UInt8}(hT:T.Ok P)(h0:0≤j)(hr:l[j.toNat]? =some c)(h:Ao P Px ops rest ⟨n,s',bx,ob⟩ K)(hg:aN ops s o=some true:=by exact rfl)(ho:o.op= .index t x i:=by exact rfl)(hti:T.get t=some ti:=by exact rfl)(hd:ti.desc= .string:=by exact rfl)(hx:evS s x= .str l:=by exact rfl)(hi:evS s i= .val (.int k j):=by exact rfl)(hp:putD n s o.dst (.val (.int .u8 c.toNat))=some s':=by exact rfl):Ao P Px ops (o::rest) ⟨n,s,bx,ob⟩ K:=Ao.idxS hT hg ho hti hd hx hi h0 hr hp h
end
section
variable{P:Program}{Px:PV→Prop}{C:Ctx}{M:Mem}{H:Heap}{w:World}
theorem upd_self{α:Type}(f:Nat→α)(k:Nat)(v:α)(h:f k=v):upd f k v=f:=by
 funext t;rw[dE];split
 ·rename_i e;subst e;exact h.symm
 ·rfl
theorem list_src{e:TypeId}{rows:List (List PV)}{v:Value}(hi:InvH P C M H w)(h:Rep P M true (.list e rows) v):
  ∃i sa c news,P.info? e=some i∧v= .slice sa rows.length c∧rows.length*i.bytes≤2^47∧news.length=rows.length*i.size∧(∀r∈rows,r.length=i.size)∧
   (rows≠[]→∃a,sa=some a∧∀j x,news[j]? =some x→w.cell? (a.add j)=some x)∧ay P M false rows.flatten news∧∀x∈news,x.oneCell'=true:=by
 simp only[Rep]at h
 obtain⟨a,c,i,rfl,hlc,hcm,hinf,hby,hrows⟩:=h
 by_cases h0:rows=[]
 ·subst h0
  exact⟨i,a,c,[],hinf,rfl,hby,by simp,by simp,by simp,by simp[ay],by simp⟩
 ·obtain⟨b,o,rfl,hr⟩:=hrows h0
  obtain⟨hf,hl⟩:=hr.flat
  obtain⟨news,h1,h2,h3⟩:=hf.vals
  refine⟨i,_,c,news,hinf,rfl,hby,by rw[h1.length,hl],hr.lens,fun _=>⟨_,rfl,fun j x hj=>?_⟩,h1,h2⟩
  rw[dS];exact hi.mem _ _ _ (h3 j x hj)
theorem kx(t ty e:TypeId)(i:TypeInfo)(ht:P.underlying t=some (.slice e))(hi:P.info? e=some i)(base sa:Option Addr)(sLen sCap c:Nat)(hle:sLen≤sCap):
  (Builtin.append_ #[t,t] ty #[.slice base sLen sCap,.slice sa 0 c]).run P w= .ok (.slice base sLen sCap) w:=by
 cases base<;>cases sa<;>simp[Builtin.append_,run_underlying ht,sizeOf,typeInfo,hi,Builtin.lenOf,hle,Builtin.firstCells,loadCells,loadCellsFrom,storeCells]
theorem append_core(hi:InvH P C M H w){T:TT}(hT:T.Ok P){tag:Nat}{x:Obj}(hx:H.ob tag=some x){t ty:TypeId}{ti ei:TInfo}(hti:T.get t=some ti)(hd:ti.desc= .slice x.e)(hei:T.get x.e=some ei)
  (hz1:Nat.beq ei.zero.cells.size ei.size=true) (hsz:Nat.blt 0 ei.size=true) {rows:List (List PV)} {v:Value} (hv:Rep P M true (.list x.e rows) v) (hby:(x.rows.length+rows.length)*ei.bytes≤2^47) (hmx:x.rows.length+rows.length≤maxLen):
  ∃g w',(Builtin.append_ #[t,t] ty #[x.g.val x.rows.length,v]).run P w= .ok (g.val (x.rows++rows).length) w'∧InvH P C M ⟨H.bx,upd H.ob tag (some ⟨g,x.e,x.rows++rows,x.wr⟩)⟩ w':=by
 obtain⟨i,sa,c,news,hinf,rfl,hby2,hnl,hrl,hcells,hrep,hone⟩:=list_src hi hv
 obtain⟨i',hinf',hs,hbs,hzero⟩:=(hT.get hei).info
 rw[hinf]at hinf';cases hinf';have hz1:=Nat.eq_of_beq_eq_true hz1
 have hsz : 0 < i.size := by have : 0 < ei.size := by simpa [Nat.blt_eq] using hsz
                             omega
 have hu:=(hT.get hti).und;rw[hd]at hu
 obtain⟨i2,hinf2,hxb,hxl,hxx⟩:=hi.objs tag x hx
 rw[hinf]at hinf2;cases hinf2;have hby':(x.rows.length+rows.length)*i.bytes≤140737488355328:=by rw[hbs];exact hby
 by_cases h0:rows=[]
 ·subst h0
  have hle:x.rows.length≤x.g.cap:=by
   rcases hxx with⟨_,h2,_⟩|⟨b,cur,_,_,_,_,h5,_⟩
   ·simp[h2]
   ·exact h5
  refine⟨x.g,w,?_,?_⟩
  ·simpa[OwnRef.val]using kx (w:=w) t ty x.e i hu hinf (x.g.blk.map fun b=>⟨b,0,none⟩) sa x.rows.length x.g.cap c hle
  ·rw[List.append_nil,upd_self _ _ _ (by rw[hx])];exact hi
 ·obtain⟨a,rfl,hac⟩:=hcells h0
  have hm0:0<rows.length:=List.length_pos_iff.2 h0;have h63:((x.rows.length+rows.length:Nat):Int)≤9223372036854775807:=by unfold maxLen at hmx;omega
  have hflat:(x.rows++rows).flatten=x.rows.flatten++rows.flatten:=by simp
  have hfl:∀{l:List (List PV)},(∀r∈l,r.length=i.size)→l.flatten.length=l.length*i.size:=by
   intro l hl;induction l with
   |nil=>simp
   |cons r l ih=>simp[ih fun r hr=>hl r (by simp[hr]),hl r (by simp),Nat.add_mul];omega
  have hlens:∀r∈x.rows++rows,r.length=i.size:=fun r hr=>by
   rcases List.mem_append.1 hr with h|h
   ·exact hxl r h
   ·exact hrl r h
  rcases hxx with⟨hbn,hrn,hcn⟩|⟨b,cur,hb,hmine,hcur,hcs,hlc,hcm,hcr,hc1,hw1,hw2⟩
  ·have hg:=run_append_nil (P:=P) w t ty x.e i ei.zero hu hinf hzero a rows.length c news hnl hac hm0 (by rw[hrn]at h63;simpa using h63) (by rw[hrn]at hby';simp at hby';omega);have hge:=grownCap_ge w rows.length 0 x.e;have hgm:grownCap w rows.length 0 x.e≤maxLen:=grownCap_le_maxLen w rows.length 0 x.e (by rw[hrn]at hmx;simpa using hmx)
   have hlist:(news.toArray++Builtin.zeroCells ei.zero.cells (grownCap w rows.length 0 x.e-rows.length)).toList.take (rows.length*i.size)=news:=by
    simp only[Array.toList_append];rw[←hnl,List.take_left]
   refine⟨⟨some w.heap.size,grownCap w rows.length 0 x.e⟩,w.drew.alloc (.cells (news.toArray++Builtin.zeroCells ei.zero.cells (grownCap w rows.length 0 x.e-rows.length)) x.e),?_,(show InvH P C M H w.drew from hi.drew).alloc_obj tag x.e (x.rows++rows) x.wr _ (news.toArray++Builtin.zeroCells ei.zero.cells (grownCap w rows.length 0 x.e-rows.length)) i hinf ?_ hlens ?_ ?_ hgm ?_ ?_⟩
   ·have e1:x.g.val x.rows.length= .slice none 0 0:=by simp[OwnRef.val,hbn,hrn,hcn]
    rw[e1,hg];simp[OwnRef.val,hrn]
   ·simp only[List.length_append];exact hby'
   ·simp only[Array.size_append,List.size_toArray,size_zeroCells,hz1,hnl,←hs,←Nat.add_mul];congr 1;omega
   ·rw[hrn];simpa using hge
   ·rw[hrn];simp only[List.nil_append];rw[hlist];exact hrep
   ·rw[hrn];simp only[List.nil_append];rw[hlist];exact hone
  ·have hval:x.g.val x.rows.length= .slice (some ⟨b,0,none⟩) x.rows.length x.g.cap:=by simp[OwnRef.val,hb]
   have hxfl:=hfl hxl;have holdlen:(cur.toList.take (x.rows.length*i.size)).length=x.rows.length*i.size:=by rw[hcr.length,hxfl]
   by_cases hroom:x.rows.length+rows.length≤x.g.cap
   ·have hfit:x.rows.length*i.size+news.length≤cur.size:=by rw[hnl,hcs,←Nat.add_mul];exact Nat.mul_le_mul_right _ hroom
    have hr:=run_append_room (P:=P) w t ty x.e i hu hinf b x.rows.length x.g.cap cur hcur a rows.length c news hnl hac hone hroom hfit
    have hlist:(cur.toList.take (x.rows.length*i.size)++news++cur.toList.drop (x.rows.length*i.size+news.length)).take ((x.rows.length+rows.length)*i.size)=cur.toList.take (x.rows.length*i.size)++news:=by
     rw[show(x.rows.length+rows.length)*i.size=(cur.toList.take (x.rows.length*i.size)++news).length from by rw[List.length_append,holdlen,hnl,Nat.add_mul]];exact List.take_left
    refine⟨x.g,w.setRow b ((cur.toList.take (x.rows.length*i.size)++news++cur.toList.drop (x.rows.length*i.size+news.length)).toArray),?_,hi.set_obj tag x hx b hb (x.rows++rows) x.wr ((cur.toList.take (x.rows.length*i.size)++news++cur.toList.drop (x.rows.length*i.size+news.length)).toArray) i hinf ?_ hlens ?_ ?_ hcm ?_ ?_ ?_ hw1 ?_⟩
    ·rw[hval,hr];simp[OwnRef.val,hb]
    ·simp only[List.length_append];exact hby'
    ·simp only[List.size_toArray,List.length_append,holdlen,List.length_drop,Array.length_toList];omega
    ·simpa using hroom
    ·rw[hflat];simp only[List.length_append];rw[hlist];exact hcr.append hrep
    ·simp only[List.length_append];rw[hlist];intro v hv;rcases List.mem_append.1 hv with h|h
     ·exact hc1 v h
     ·exact hone v h
    ·intro o v hm
     have hlt:o<x.rows.length*i.size:=by
      rcases Nat.lt_or_ge o (x.rows.length*i.size)with h|h
      ·exact h
      ·rw[hw2 o h]at hm;cases hm
     have hcell:=hi.mem b o v hm;rw[cell_of_row w b o cur x.e (0,0) hcur]at hcell;simp only[List.getElem?_toArray,List.append_assoc];rw[List.getElem?_append_left (by rw[holdlen];exact hlt),List.getElem?_take,zp hlt];simpa using hcell
    ·intro o ho;simp only[List.length_append]at ho;exact hw2 o (Nat.le_trans (Nat.mul_le_mul_right _ (Nat.le_add_right _ _)) ho)
   ·have holds:∀(j:Nat) (v:Value),(cur.toList.take (x.rows.length*i.size))[j]? =some v→w.cell? ((⟨b,0,none⟩:Addr).add j)=some v:=by
     intro j v hj;rw[dS,cell_of_row w b (0+j) cur x.e (0,0) hcur];rw[List.getElem?_take]at hj;split at hj
     ·simpa using hj
     ·cases hj
    have hr:=run_append_grow (P:=P) w t ty x.e i ei.zero hu hinf hzero ⟨b,0,none⟩ x.rows.length x.g.cap _ holdlen holds a rows.length c news hnl hac (by omega) h63 (growslice_fits (by omega) hby');have hge:=grownCap_ge w (x.rows.length+rows.length) x.g.cap x.e;have hgm:grownCap w (x.rows.length+rows.length) x.g.cap x.e≤maxLen:=grownCap_le_maxLen w _ _ x.e hmx
    have hlist:((cur.toList.take (x.rows.length*i.size)).toArray++news.toArray++Builtin.zeroCells ei.zero.cells (grownCap w (x.rows.length+rows.length) x.g.cap x.e-(x.rows.length+rows.length))).toList.take ((x.rows.length+rows.length)*i.size)=cur.toList.take (x.rows.length*i.size)++news:=by
     simp only[Array.toList_append];rw[show(x.rows.length+rows.length)*i.size=(cur.toList.take (x.rows.length*i.size)++news).length from by rw[List.length_append,holdlen,hnl,Nat.add_mul]];exact List.take_left
    refine⟨⟨some w.heap.size,grownCap w (x.rows.length+rows.length) x.g.cap x.e⟩,w.drew.alloc (.cells ((cur.toList.take (x.rows.length*i.size)).toArray++news.toArray++Builtin.zeroCells ei.zero.cells (grownCap w (x.rows.length+rows.length) x.g.cap x.e-(x.rows.length+rows.length))) x.e),?_,(show InvH P C M H w.drew from hi.drew).alloc_obj tag x.e (x.rows++rows) x.wr _ ((cur.toList.take (x.rows.length*i.size)).toArray++news.toArray++Builtin.zeroCells ei.zero.cells (grownCap w (x.rows.length+rows.length) x.g.cap x.e-(x.rows.length+rows.length))) i hinf ?_ hlens ?_ ?_ hgm ?_ ?_⟩
    ·rw[hval,hr];simp[OwnRef.val]
    ·simp only[List.length_append];exact hby'
    ·simp only[Array.size_append,List.size_toArray,size_zeroCells,hz1,hnl,holdlen,←hs,←Nat.add_mul];congr 1;omega
    ·simpa using hge
    ·rw[hflat];simp only[List.length_append];rw[hlist];exact hcr.append hrep
    ·simp only[List.length_append];rw[hlist];intro v hv;rcases List.mem_append.1 hv with h|h
     ·exact hc1 v h
     ·exact hone v h
theorem InvH.nilobj(h:InvH P C M H w){T:TT}(hT:T.Ok P)(tag:Nat){e:TypeId}{ei:TInfo}(hei:T.get e=some ei):InvH P C M ⟨H.bx,upd H.ob tag (some ⟨⟨none,0⟩,e,[],true⟩)⟩ w:=by
 obtain⟨i,hi,_⟩:=(hT.get hei).info
 have key:∀t x,upd H.ob tag (some ⟨⟨none,0⟩,e,[],true⟩) t=some x→x=⟨⟨none,0⟩,e,[],true⟩∨H.ob t=some x:=by
  intro t x hx;rw[dE]at hx;split at hx
  ·exact .inl (Option.some.inj hx).symm
  ·exact .inr hx
 refine⟨h.mem,h.ext,h.new,h.os,h.tape,h.output,h.size,h.frame,h.boxes,?_,h.dbox,?_,?_⟩
 ·intro t x hx;rcases key t x hx with rfl|hx
  ·exact⟨i,hi,by simp,by simp,.inl ⟨rfl,rfl,rfl⟩⟩
  ·exact h.objs t x hx
 ·intro t t' x x' b hx hx' hb hb';rcases key t x hx with rfl|hy
  ·cases hb
  ·rcases key t' x' hx' with rfl|hy'
   ·cases hb'
   ·exact h.dobj t t' x x' b hy hy' hb hb'
 ·intro t t' x x' hx hx' hb;rcases key t' x' hx' with rfl|hy'
  ·cases hb
  ·exact h.dmix t t' x x' hx hy' hb
theorem eff_appendO{o:Oper}{ev:Operand→PV}{T:TT}(hT:T.Ok P){x y:Operand}{t:TypeId}(ho:o.op= .call {callee:= .builtin .append,args:=#[x,y],argTypes:=#[t,t]}){ti ei:TInfo}{e:TypeId}(hti:T.get t=some ti)(hd:ti.desc= .slice e)(hei:T.get e=some ei)
  (hz:Nat.beq ei.zero.cells.size ei.size=true) (hsz:Nat.blt 0 ei.size=true) {tag:Nat} {g:OwnRef} {len:Nat} {rows rows2:List (List PV)} {wr:Bool} (hx:ev x= .own tag g len) (hob:H.ob tag=some ⟨g,e,rows,wr⟩) (hlen:len=rows.length) (hy:ev y= .list e rows2)
  (hby:(rows.length+rows2.length)*ei.bytes≤2^47) (hmx:rows.length+rows2.length≤maxLen) {K:PV→Heap→Prop} (hk:∀g',K (.own tag g' (rows++rows2).length) ⟨H.bx,upd H.ob tag (some ⟨g',e,rows++rows2,wr⟩)⟩):Eff P Px o ev H K:=by
 subst hlen;intro C M a w next Q hi he hn
 have hxr:=he x (by rw[ho];simp[Op.operands,Call.operands]);have hyr:=he y (by rw[ho];simp[Op.operands,Call.operands]);rw[hx]at hxr;rw[hy]at hyr;simp only[Rep]at hxr
 obtain⟨g',w',hrun,hi'⟩:=append_core (ty:=o.type) hi hT hob hti hd hei hz hsz hyr hby hmx
 have hrun':(execOp a.eval o).run P w= .ok (.value (g'.val (rows++rows2).length)) w':=by
  simp only[execOp,ho,resolve,Sem.run_bind,Sem.run_pure,Result.andThen_ok,invoke,builtin,List.map_toArray,List.map_cons,List.map_nil,hxr.2];rw[hrun];rfl
 unfold Oper.wp;rw[hrun'];exact hn _ _ _ M w' (hk g') (Mem.le_refl M) hi' (by simp[Rep])
end
section
variable{P:Program}{Px:PV→Prop}{ops:Array Oper}{rest:List Oper}{o:Oper}{n:Nat}{s s':Nat→PV}{bx:Nat→Option Box}{ob:Nat→Option Obj}{K:PState→Prop}{T:TT}
end
section
variable{P:Program}{Px:PV→Prop}{C:Ctx}{M:Mem}{H:Heap}{w:World}
def Mem.addN(M:Mem)(b n:Nat)(cs:Array Value):Mem:=fun k o=>if k=b∧o<n then cs[o]? else M k o
theorem InvH.freezeO(h:InvH P C M H w){tag:Nat}{x:Obj}(hx:H.ob tag=some x):
  ∃M',M.le M'∧InvH P C M' ⟨H.bx,upd H.ob tag (some {x with wr:=false})⟩ w∧Rep P M' true (.list x.e x.rows) (x.g.val x.rows.length):=by
 obtain⟨i,hinf,hxb,hxl,hxx⟩:=h.objs tag x hx
 have key:∀t y,upd H.ob tag (some {x with wr:=false}) t=some y→(t=tag∧y={x with wr:=false})∨(t≠tag∧H.ob t=some y):=by
  intro t y hy;by_cases ht:t=tag
  ·subst ht;rw[ef]at hy;exact .inl ⟨rfl,(Option.some.inj hy).symm⟩
  ·rw[eK _ _ ht]at hy;exact .inr ⟨ht,hy⟩
 have dobj':∀t t' y y' k,upd H.ob tag (some {x with wr:=false}) t=some y→upd H.ob tag (some {x with wr:=false}) t'=some y'→y.g.blk=some k→y'.g.blk=some k→t=t':=by
  intro t t' y y' k hy hy' hk hk';rcases key t y hy with⟨h1,h2⟩|⟨_,hz⟩<;>rcases key t' y' hy' with⟨h3,h4⟩|⟨_,hz'⟩
  ·rw[h1,h3]
  ·subst h1;subst h2;exact h.dobj _ t' x y' k hx hz' hk hk'
  ·subst h3;subst h4;exact h.dobj t _ y x k hz hx hk hk'
  ·exact h.dobj t t' y y' k hz hz' hk hk'
 have dmix':∀t t' (y:Box) (y':Obj),H.bx t=some y→upd H.ob tag (some {x with wr:=false}) t'=some y'→y'.g.blk≠some y.b:=by
  intro t t' y y' hy hy' hk;rcases key t' y' hy' with⟨h1,h2⟩|⟨_,hz'⟩
  ·subst h1;subst h2;exact h.dmix t _ y x hy hx hk
  ·exact h.dmix t t' y y' hy hz' hk
 rcases hxx with⟨hbn,hrn,hcn⟩|⟨b,cur,hb,hmine,hcur,hcs,hlc,hcm,hcr,hc1,hw1,hw2⟩
 ·refine⟨M,Mem.le_refl M,⟨h.mem,h.ext,h.new,h.os,h.tape,h.output,h.size,h.frame,h.boxes,?_,h.dbox,dobj',dmix'⟩,?_⟩
  ·intro t y hy;rcases key t y hy with⟨_,rfl⟩|⟨_,hy⟩
   ·exact⟨i,hinf,hxb,hxl,.inl ⟨hbn,hrn,hcn⟩⟩
   ·exact h.objs t y hy
  ·simp only[Rep]
   exact⟨none,0,i,by simp[OwnRef.val,hbn,hcn],by simp[hrn],by simp,hinf,hxb,fun hne=>absurd hrn hne⟩
 ·have hsame:∀o v,M b o=some v→cur[o]? =some v:=fun o v hm=>by
   have:=h.mem b o v hm
   rwa [cell_of_row w b o cur x.e (0,0) hcur]at this
  have hle:M.le (M.addN b (x.rows.length*i.size) cur):=by
   intro k o v hm;simp only[Mem.addN];split
   ·rename_i hc;obtain⟨rfl,_⟩:=hc;exact hsame o v hm
   ·exact hm
  have hoth:∀k o,k≠b→M.addN b (x.rows.length*i.size) cur k o=M k o:=fun k o hk=>by simp[Mem.addN,hk]
  have hrows:ca P (M.addN b (x.rows.length*i.size) cur) i.size b 0 x.rows:=by
   refine ca.of_flat hxl ?_;have hcr':=ay.mono hle hcr
   have key2:∀(ps:List PV) (xs:List Value) (o:Nat),(∀j y,xs[j]? =some y→cur[o+j]? =some y∧o+j<x.rows.length*i.size)→(∀v∈xs,v.oneCell'=true)→ay P (M.addN b (x.rows.length*i.size) cur) false ps xs→bW P (M.addN b (x.rows.length*i.size) cur) b o ps:=by
    intro ps;induction ps with
    |nil=>intro xs o _ _ _;simp[bW]
    |cons p ps ih=>
     intro xs o hx h1 hr;simp only[ay]at hr
     obtain⟨y,ys,rfl,hp,hrest⟩:=hr
     simp only[bW]
     refine⟨⟨y,?_,h1 y (by simp),hp⟩,ih ys (o+1) (fun j z hz=>?_) (fun v hv=>h1 v (by simp[hv])) hrest⟩
     ·have:=hx 0 y rfl
      simp only[Nat.add_zero]at this;simp[Mem.addN,this.1,this.2]
     ·have:=hx (j+1) z (by simpa using hz)
      rwa [show o+1+j=o+(j+1)from by omega]
   refine key2 _ _ 0 (fun j y hy=>?_) hc1 hcr';rw[List.getElem?_take]at hy;split at hy
   ·rename_i hlt
    exact⟨by simpa using hy,by omega⟩
   ·cases hy
  refine⟨_,hle,⟨?_,Mem.le_trans h.ext hle,?_,h.os,h.tape,h.output,h.size,h.frame,?_,?_,h.dbox,dobj',dmix'⟩,?_⟩
  ·intro k o v hm;simp only[Mem.addN]at hm;split at hm
   ·rename_i hc;obtain⟨rfl,_⟩:=hc;rw[cell_of_row w k o cur x.e (0,0) hcur];exact hm
   ·exact h.mem k o v hm
  ·intro k o v hm;by_cases hk:k=b
   ·subst hk;exact .inr hmine
   ·rw[hoth k o hk]at hm;exact h.new k o v hm
  ·intro t y hy;have hne:y.b≠b:=fun e=>h.dmix t tag y x hy hx (by rw[hb,e])
   exact(h.boxes t y hy).keep hle (fun o ho=>by rw[hoth _ o hne];exact ho) rfl
  ·intro t y hy;rcases key t y hy with⟨_,rfl⟩|⟨ht,hy⟩
   ·refine⟨i,hinf,hxb,hxl,.inr ⟨b,cur,hb,hmine,hcur,hcs,hlc,hcm,ay.mono hle hcr,hc1,fun e=>by simp at e,fun o ho=>?_⟩⟩
    have:¬o<x.rows.length*i.size:=Nat.not_lt.2 ho
    simp only[Mem.addN,this,and_false,if_false];exact hw2 o ho
   ·exact(h.objs t y hy).keep hle (fun k o hk ho=>by rw[hoth k o fun e=>ht (h.dobj t tag y x b hy hx (e▸hk) hb)];exact ho) (fun _ _=>rfl)
  ·simp only[Rep]
   exact⟨_,_,i,by simp only[OwnRef.val,hb];rfl,hlc,hcm,hinf,hxb,fun _=>⟨b,0,rfl,hrows⟩⟩
theorem okS_froz{cells:List PV}(h:PV.frozL cells=true):okS cells=true:=by
 unfold okS;split
 ·simp[PV.frozL,PV.froz]at h
 ·rfl
theorem InvH.freezeB(h:InvH P C M H w){tag:Nat}{x:Box}(hx:H.bx tag=some x)(hf:PV.frozL x.cells=true)(h1:x.cells.all PV.one=true):
  ∃M',M.le M'∧InvH P C M' ⟨upd H.bx tag none,H.ob⟩ w∧bW P M' x.b 0 x.cells:=by
 obtain⟨hmine,⟨cs,e,hcs,hr⟩,hnone⟩:=(h.boxes tag x hx).cells (okS_froz hf)
 have hle:M.le (M.add x.b cs):=by
  intro k o v hm;have hk:k≠x.b:=fun e=>by rw[e,hnone]at hm;cases hm
  simp[Mem.add,hk,hm]
 have hoth:∀k o,k≠x.b→M.add x.b cs k o=M k o:=fun k o hk=>by simp[Mem.add,hk]
 have hbk:∀t y,upd H.bx tag none t=some y→t≠tag∧H.bx t=some y:=by
  intro t y hy;rw[dE]at hy;split at hy
  ·cases hy
  ·rename_i ht;exact⟨ht,hy⟩
 have hone:=ay.oneCell h1 hr;have hr':=ay.mono hle (ay.unslot hf hr)
 refine⟨_,hle,⟨?_,Mem.le_trans h.ext hle,?_,h.os,h.tape,h.output,h.size,h.frame,?_,?_,?_,h.dobj,?_⟩,?_⟩
 ·intro k o v hm;by_cases hk:k=x.b
  ·subst hk;rw[cell_of_row w x.b o cs e (0,0) hcs];simpa[Mem.add]using hm
  ·rw[hoth k o hk]at hm;exact h.mem k o v hm
 ·intro k o v hm;by_cases hk:k=x.b
  ·subst hk;exact .inr hmine
  ·rw[hoth k o hk]at hm;exact h.new k o v hm
 ·intro t y hy
  obtain⟨ht,hy⟩:=hbk t y hy
  exact(h.boxes t y hy).keep hle (fun o ho=>by rw[hoth _ o fun e=>ht (h.dbox t tag y x hy hx e)];exact ho) rfl
 ·intro t y hy
  exact(h.objs t y hy).keep hle (fun k o hk ho=>by rw[hoth k o fun e=>h.dmix tag t x y hx hy (e▸hk)];exact ho) (fun _ _=>rfl)
 ·intro t t' y y' hy hy' hb;exact h.dbox t t' y y' (hbk t y hy).2 (hbk t' y' hy').2 hb
 ·intro t t' y y' hy hy' hb;exact h.dmix t t' y y' (hbk t y hy).2 hy' hb
 ·have key2:∀(ps:List PV) (xs:List Value) (o:Nat),(∀j y,xs[j]? =some y→cs[o+j]? =some y)→(∀v∈xs,v.oneCell'=true)→ay P (M.add x.b cs) false ps xs→bW P (M.add x.b cs) x.b o ps:=by
   intro ps;induction ps with
   |nil=>intro xs o _ _ _;simp[bW]
   |cons p ps ih=>
    intro xs o hx h1 hr;simp only[ay]at hr
    obtain⟨y,ys,rfl,hp,hrest⟩:=hr
    simp only[bW]
    refine⟨⟨y,?_,h1 y (by simp),hp⟩,ih ys (o+1) (fun j z hz=>?_) (fun v hv=>h1 v (by simp[hv])) hrest⟩
    ·have:=hx 0 y rfl
     simpa[Mem.add]using this
    ·have:=hx (j+1) z (by simpa using hz)
     rwa [show o+1+j=o+(j+1)from by omega]
  exact key2 _ _ 0 (fun j y hy=>by simpa using hy) hone hr'
end
section
variable{P:Program}{Px:PV→Prop}{n:Nat}{s s':Nat→PV}{bx bx':Nat→Option Box}{ob ob':Nat→Option Obj}
def SLe(P:Program)(s s':Nat→PV):Prop:=∀t,PLe P (s t) (s' t)
theorem aV:SLe P s fun _=>.any:=fun _=>PLe.any P _
theorem az(P:Program)(s:Nat→PV):SLe P s s:=fun _=>PLe.refl P _
theorem kt{d:Nat}{p:PV}(h:PLe P (s d) p)(h':SLe P s s'):SLe P s (upd s' d p):=fun t=>by
 rw[dE];split
 ·rename_i e;subst e;exact h
 ·exact h' t
theorem bF{d:Nat}(h:SLe P s s'):SLe P s (upd s' d (s d)):=kt (fun _ _ h=>h) h
def BLe(P:Program)(bx bx':Nat→Option Box):Prop:=∀t x,bx' t=some x→∃y,bx t=some y∧y.b=x.b∧dQ P y.cells x.cells∧(okS y.cells=true∨x.cells=y.cells)
theorem ar:BLe P bx fun _=>none:=fun _ _ h=>by simp at h
theorem ab{d b:Nat}{cells cells':List PV}(h:bx d=some ⟨b,cells⟩)(hc:dQ P cells cells')(h':BLe P bx bx')(hm:okS cells=true∨cells'=cells:=by first|exact .inr rfl|exact .inl rfl):BLe P bx (upd bx' d (some ⟨b,cells'⟩)):=fun t x hx=>by
 rw[dE]at hx;split at hx
 ·rename_i e;subst e;cases hx;exact⟨_,h,rfl,hc,hm⟩
 ·exact h' t x hx
def OLe(ob ob':Nat→Option Obj):Prop:=∀t x,ob' t=some x→ob t=some x
theorem aq:OLe ob fun _=>none:=fun _ _ h=>by simp at h
theorem OLe.cons{d:Nat}{x:Obj}(h:ob d=some x)(h':OLe ob ob'):OLe ob (upd ob' d (some x)):=fun t y hy=>by
 rw[dE]at hy;split at hy
 ·rename_i e;subst e;cases hy;exact h
 ·exact h' t y hy
theorem aw{d:Nat}(h:OLe ob ob'):OLe ob (upd ob' d (ob d)):=fun t y hy=>by
 rw[dE]at hy;split at hy
 ·rename_i e;subst e;exact hy
 ·exact h t y hy
theorem Gh.le(hs:SLe P s s')(hb:BLe P bx bx')(ho:OLe ob ob'):Gh P ⟨n,s,bx,ob⟩ ⟨n,s',bx',ob'⟩:=by
 intro C M a w hi
 refine⟨M,⟨hi.1.1,hi.1.2.1,fun t=>hs t M _ (hi.1.2.2 t)⟩,?_⟩
 have h:=hi.2
 refine⟨h.mem,h.ext,h.new,h.os,h.tape,h.output,h.size,h.frame,?_,fun t x hx=>h.objs t x (ho t x hx),?_,fun t t' x x' b hx hx'=>h.dobj t t' x x' b (ho _ _ hx) (ho _ _ hx'),?_⟩
 ·intro t x hx
  obtain⟨y,hy,hyb,hyc,hym⟩:=hb t x hx
  obtain⟨h1,⟨o,h2,h3⟩,h4⟩:=h.boxes t y hy
  exact⟨hyb▸h1,⟨o,hyb▸h2,h3.le (fun vs=>hyc M vs) hym⟩,hyb▸h4⟩
 ·intro t t' x x' hx hx' hbb
  obtain⟨y,hy,hyb,_⟩:=hb t x hx
  obtain⟨y',hy',hyb',_⟩:=hb t' x' hx'
  exact h.dbox t t' y y' hy hy' (by rw[hyb,hyb'];exact hbb)
 ·intro t t' x x' hx hx' hbb
  obtain⟨y,hy,hyb,_⟩:=hb t x hx
  exact h.dmix t t' y x' hy (ho _ _ hx') (by rw[hyb];exact hbb)
theorem Gh.d{st st':PState}(h:Gh P st st':=by
  refine Gh.le ?_ ?_ ?_
  ·(repeat first|refine bF ?_|refine kt (PLe.q (pint_succ (by omega))) ?_);exact aV
  ·(repeat refine ab rfl (dQ.r) ?_);exact ar
  ·(repeat refine aw ?_);exact aq):Gh P st st':=h
theorem Gh.nilO{T:TT}(hT:T.Ok P)(d tag:Nat){e:TypeId}{ei:TInfo}(hei:T.get e=some ei)(hs:s d= .val (.slice none 0 0)):
  Gh P ⟨n,s,bx,ob⟩ ⟨n,upd s d (.own tag ⟨none,0⟩ 0),bx,upd ob tag (some ⟨⟨none,0⟩,e,[],true⟩)⟩:=by
 intro C M a w hi
 refine⟨M,⟨hi.1.1,hi.1.2.1,fun t=>?_⟩,hi.2.nilobj hT tag hei⟩
 simp only[dE]
 have:=hi.1.2.2 t
 simp only at this;split
 ·rename_i e;subst e;rw[hs]at this;simpa[Rep,OwnRef.val]using this
 ·exact this
theorem Gh.freezeO(d:Nat){tag:Nat}{g:OwnRef}{len:Nat}{e:TypeId}{rows:List (List PV)}{wr:Bool}(hs:s d= .own tag g len)(hob:ob tag=some ⟨g,e,rows,wr⟩)(hlen:len=rows.length):
  Gh P ⟨n,s,bx,ob⟩ ⟨n,upd s d (.list e rows),bx,upd ob tag (some ⟨g,e,rows,false⟩)⟩:=by
 subst hlen;intro C M a w hi
 obtain⟨M',hle,hi',hr⟩:=hi.2.freezeO (tag:=tag) hob
 refine⟨M',⟨hi.1.1,hi.1.2.1,fun t=>?_⟩,hi'⟩
 have:=hi.1.2.2 t
 simp only at this;simp only[dE];split
 ·rename_i e;subst e;rw[hs]at this;simp only[Rep]at this;rw[this.2];exact hr
 ·exact Rep.mono hle this
theorem Gh.freezeB(d:Nat){tag b:Nat}{cells:List PV}(hs:s d= .box tag b 0)(hb:bx tag=some ⟨b,cells⟩)(hf:PV.frozL cells=true)(h1:cells.all PV.one=true):
  Gh P ⟨n,s,bx,ob⟩ ⟨n,upd s d (.ptr cells),upd bx tag none,ob⟩:=by
 intro C M a w hi
 obtain⟨M',hle,hi',hr⟩:=hi.2.freezeB (tag:=tag) hb hf h1
 refine⟨M',⟨hi.1.1,hi.1.2.1,fun t=>?_⟩,hi'⟩
 have:=hi.1.2.2 t
 simp only at this;simp only[dE];split
 ·rename_i e;subst e;rw[hs]at this;simp only[Rep]at this⊢;exact⟨b,0,this.2,hr⟩
 ·exact Rep.mono hle this
end
section
variable{P:Program}{Px:PV→Prop}{fn:Func}{R:PV→Heap→Prop}{k:List KI}{n:Nat}{s:Nat→PV}{bx:Nat→Option Box}{ob:Nat→Option Obj}{T:TT}{st:PState}
theorem V.fact{Q:Prop}(d:Nat){p:PV}(hs:st.s d=p)(hq:∀M x,Rep P M true p x→Q)(h:Q→V P Px fn R k st):V P Px fn R k st:=fun C M a w hi=>by
 have:=hi.1.2.2 d
 rw[hs]at this;exact h (hq M _ this) C M a w hi
theorem Rep.listLen{M:Mem}{s:Bool}(hT:T.Ok P){e:TypeId}{rows:List (List PV)}{ei:TInfo}(hei:T.get e=some ei){x:Value}(h:Rep P M s (.list e rows) x):rows.length≤maxLen∧rows.length*ei.bytes≤2^47:=by
 simp only[Rep]at h
 obtain⟨a,c,i,_,h1,h2,h3,h4,_⟩:=h
 obtain⟨i',h5,_,h6,_⟩:=(hT.get hei).info
 rw[h3]at h5;cases h5
 exact⟨by omega,by rw[←h6];exact h4⟩
theorem V.lenF(hT:T.Ok P)(d:Nat){e:TypeId}{rows:List (List PV)}{ei:TInfo}(hei:T.get e=some ei)(hs:s d= .list e rows)(h:rows.length≤maxLen→rows.length*ei.bytes≤2^47→V P Px fn R k ⟨n,s,bx,ob⟩):V P Px fn R k ⟨n,s,bx,ob⟩:=
 V.fact (Q:=rows.length≤maxLen∧rows.length*ei.bytes≤2^47) d hs (fun _ _ hx=>hx.listLen hT hei) fun hq=>h hq.1 hq.2
theorem nC{X:Type}(F:X→PState)(Cnd:X→Prop)(m:X→Nat){c:Code}(x₀:X)(hc₀:Cnd x₀)(h₀:Gh P st (F x₀))
  (round:∀x,Cnd x→V P Px fn R (.code c:: .stop (fun st'=>∃y,m y<m x∧Cnd y∧st'=F y)::k) (F x)):V P Px fn R (.code (.loop c)::k) st:=
 bD h₀ (V.loop (fun i st=>∃x,m x=i∧Cnd x∧st=F x) ⟨x₀,rfl,hc₀,rfl⟩ (by
  rintro i st ⟨x,rfl,hx,rfl⟩
  have:=round x hx
  have e:(fun st'=>∃y,m y<m x∧Cnd y∧st'=F y)=(fun st'=>∃i,i<m x∧∃y,m y=i∧Cnd y∧st'=F y):=by
   funext st';apply propext;constructor
   ·rintro⟨y,h1,h2,h3⟩;exact⟨_,h1,y,rfl,h2,h3⟩
   ·rintro⟨i,h1,y,h2,h3,h4⟩;exact⟨y,by omega,h3,h4⟩
  rwa [e]at this))
end
section
variable{P:Program}{Px:PV→Prop}
open Classical in
def Ctx.hide(C:Ctx)(x:Nat){H:Heap}{M:Mem}{w:World}(hi:InvH P C M H w):Ctx:=
 ⟨w,(List.range w.heap.size).filter (fun b=>decide (C.mine b∧b≠x)),M,hi.gl (fun b hb=>by
  have:=(List.mem_filter.1 hb).2
  exact(of_decide_eq_true this).1),C.ds⟩
theorem Ctx.hide_mine{C:Ctx}{x:Nat}{H:Heap}{M:Mem}{w:World}(hi:InvH P C M H w){b:Nat}(h:C.mine b)(hb:b≠x):(C.hide x hi).mine b:=by
 classical
 by_cases hl:w.heap.size≤b
 ·exact .inl hl
 ·refine .inr (List.mem_filter.2 ⟨List.mem_range.2 (Nat.lt_of_not_le hl),?_⟩);exact zt ⟨h,hb⟩
theorem Ctx.mine_hide{C:Ctx}{x:Nat}{H:Heap}{M:Mem}{w:World}(hi:InvH P C M H w)(hx:x<w.heap.size){b:Nat}(h:(C.hide x hi).mine b):C.mine b∧b≠x:=by
 classical
 rcases h with h|h
 ·exact⟨.inl (Nat.le_trans hi.size h),fun e=>by subst e;exact absurd hx (Nat.not_lt.2 h)⟩
 ·exact of_decide_eq_true (List.mem_filter.1 h).2
theorem ja.ctx{C C':Ctx}{M:Mem}{w:World}{x:Box}(h:ja P C M w x)(hm:C'.mine x.b):ja P C' M w x:=⟨hm,h.2⟩
theorem ObjOk.ctx{C C':Ctx}{M:Mem}{w:World}{x:Obj}(h:ObjOk P C M w x)(hm:∀b,x.g.blk=some b→C.mine b→C'.mine b):ObjOk P C' M w x:=by
 obtain⟨i,h1,h2,h3,h4⟩:=h
 refine⟨i,h1,h2,h3,h4.imp id ?_⟩
 rintro⟨b,cur,e1,e2,e3⟩
 exact⟨b,cur,e1,hm b e1 e2,e3⟩
theorem ObjOk.mine{C:Ctx}{M:Mem}{w:World}{x:Obj}(h:ObjOk P C M w x){b:Nat}(hb:x.g.blk=some b):C.mine b:=by
 obtain⟨i,_,_,_,h4⟩:=h
 rcases h4 with⟨e,_⟩|⟨b',cur,e1,e2,_⟩
 ·rw[hb]at e;cases e
 ·rw[hb]at e1;cases e1;exact e2
theorem InvH.hide{C:Ctx}{M:Mem}{bx:Nat→Option Box}{ob:Nat→Option Obj}{w:World}{d:Nat}{x:Box}(hd:bx d=none)(hi:InvH P C M ⟨upd bx d (some x),ob⟩ w):
  InvH P (C.hide x.b hi) M ⟨bx,ob⟩ w:=by
 have hup:∀t y,bx t=some y→t≠d∧upd bx d (some x) t=some y:=by
  intro t y hy;have ht:t≠d:=fun e=>by subst e;rw[hd]at hy;cases hy
  exact⟨ht,by rw[eK _ _ ht];exact hy⟩
 have hxx:upd bx d (some x) d=some x:=ef _ _ _
 refine⟨hi.mem,Mem.le_refl _,fun b o v h=>.inl h,rfl,rfl,rfl,Nat.le_refl _,fun _ _ _=>rfl,?_,?_,?_,?_,?_⟩
 ·intro t y hy
  obtain⟨ht,h⟩:=hup t y hy
  have hb:=hi.boxes t y h;exact hb.ctx (Ctx.hide_mine hi hb.1 fun e=>ht (hi.dbox t d y x h hxx e))
 ·intro t y hy;have ho:=hi.objs t y hy;exact ho.ctx fun b hb hm=>Ctx.hide_mine hi hm fun e=>hi.dmix d t x y hxx hy (by rw[hb,e])
 ·exact fun t t' y y' h h'=>hi.dbox t t' y y' (hup t y h).2 (hup t' y' h').2
 ·exact hi.dobj
 ·exact fun t t' y y' h h'=>hi.dmix t t' y y' (hup t y h).2 h'
theorem InvH.unhideE{C:Ctx}{M:Mem}{H:Heap}{w:World}{x:Box}(hi:InvH P C M H w)(hx:ja P C M w x){M':Mem}{H':Heap}{w':World}(h:InvH P (C.hide x.b hi) M' H' w'):InvH P C M' H' w':=by
 have hlt:x.b<w.heap.size:=by
  obtain⟨_,⟨o,h1,_⟩,_⟩:=hx
  exact(Array.getElem?_eq_some_iff.1 h1).1
 refine⟨h.mem,Mem.le_trans hi.ext h.ext,?_,h.os.trans hi.os,h.tape.trans hi.tape,h.output.trans hi.output,Nat.le_trans hi.size h.size,?_,?_,?_,h.dbox,h.dobj,h.dmix⟩
 ·intro b o v hv;rcases h.new b o v hv with h1|h1
  ·exact hi.new b o v h1
  ·exact .inr (Ctx.mine_hide hi hlt h1).1
 ·intro b hb hn
  have hm:¬(C.hide x.b hi).mine b:=fun e=>by
   rcases(Ctx.mine_hide hi hlt e).1 with e1|e1
   ·exact absurd hb (Nat.not_lt.2 e1)
   ·exact hn e1
  exact(h.frame b (Nat.lt_of_lt_of_le hb hi.size) fun e=>hm (.inr e)).trans (hi.frame b hb hn)
 ·intro t y hy
  have:=h.boxes t y hy
  exact this.ctx (Ctx.mine_hide hi hlt this.1).1
 ·intro t y hy
  exact(h.objs t y hy).ctx fun b _ hm=>(Ctx.mine_hide hi hlt hm).1
theorem InvH.unhide{C:Ctx}{M:Mem}{H:Heap}{w:World}{d:Nat}{x:Box}(hi:InvH P C M H w)(hx:ja P C M w x){M':Mem}{H':Heap}{w':World}(h:InvH P (C.hide x.b hi) M' H' w'):InvH P C M' ⟨upd H'.bx d (some x),H'.ob⟩ w':=by
 have h0:=InvH.unhideE hi hx h
 have hlt:x.b<w.heap.size:=by
  obtain⟨_,⟨o,h1,_⟩,_⟩:=hx
  exact(Array.getElem?_eq_some_iff.1 h1).1
 have hnm:¬(C.hide x.b hi).mine x.b:=fun e=>(Ctx.mine_hide hi hlt e).2 rfl
 have hfx:w'.heap[x.b]? =w.heap[x.b]?:=h.frame x.b hlt fun e=>hnm (.inr e)
 have hbx:ja P C M' w' x:=by
  obtain⟨h1,⟨o,h2,h3⟩,h4⟩:=hx
  refine⟨h1,⟨o,hfx.trans h2,h3.mono h.ext⟩,fun o=>?_⟩
  cases hv:M' x.b o with
  |none=>rfl
  |some v=>
   rcases h.new x.b o v hv with e|e
   ·exact absurd (e.symm.trans (h4 o)) (by simp)
   ·exact absurd e hnm
 have key:∀t y,upd H'.bx d (some x) t=some y→(t=d∧y=x)∨(t≠d∧H'.bx t=some y):=by
  intro t y hy;by_cases ht:t=d
  ·subst ht;rw[ef]at hy;exact .inl ⟨rfl,(Option.some.inj hy).symm⟩
  ·rw[eK _ _ ht]at hy;exact .inr ⟨ht,hy⟩
 have hne:∀t y,H'.bx t=some y→y.b≠x.b:=fun t y hy e=>hnm (e▸(h.boxes t y hy).1)
 refine⟨h0.mem,h0.ext,h0.new,h0.os,h0.tape,h0.output,h0.size,h0.frame,?_,h0.objs,?_,h0.dobj,?_⟩
 ·intro t y hy;rcases key t y hy with⟨_,rfl⟩|⟨_,h1⟩
  ·exact hbx
  ·exact h0.boxes t y h1
 ·intro t t' y y' hy hy' e;rcases key t y hy with⟨e1,rfl⟩|⟨_,h1⟩<;>rcases key t' y' hy' with⟨e2,rfl⟩|⟨_,h2⟩
  ·rw[e1,e2]
  ·exact absurd e.symm (hne t' y' h2)
  ·exact absurd e (hne t y h1)
  ·exact h0.dbox t t' y y' h1 h2 e
 ·intro t t' y y' hy hy' e;rcases key t y hy with⟨_,rfl⟩|⟨_,h1⟩
  ·exact hnm ((h.objs t' y' hy').mine e)
  ·exact h0.dmix t t' y y' h1 hy' e
theorem Eff.frameBox{o:Oper}{ev:Operand→PV}{bx:Nat→Option Box}{ob:Nat→Option Obj}{K:PV→Heap→Prop}{d:Nat}{x:Box}(hd:bx d=none)(h:Eff P Px o ev ⟨bx,ob⟩ K):
  Eff P Px o ev ⟨upd bx d (some x),ob⟩ fun u H'=>∃H'',K u H''∧H'=⟨upd H''.bx d (some x),H''.ob⟩:=by
 intro C M a w next Q hi he hn
 have hx:ja P C M w x:=hi.boxes d x (ef _ _ _);refine h (C.hide x.b hi) M a w next ⟨Q.f,fun ch a' w' hd' hp=>Q.pan ch a' w' hd' ?_⟩ (InvH.hide hd hi) he fun v u H' M' w' hK hle h1 hr=>hn v u _ M' w' ⟨H',hK,rfl⟩ hle (InvH.unhide hi hx h1) hr
 obtain⟨v,u,M',e1,e2,e3,e4⟩:=hp
 exact⟨v,u,M',e1,e2,InvH.unhideE hi hx e3,e4⟩
end
def eu(T:TT)(bx:Nat→Option Box)(op:Op)(ev:Operand→PV):Option PV:=
 match op with
 | .buildSlice t n ps=>match T.get t with
  |some ti=>match ti.desc with
   | .slice e=>(gw T e n (ep ev ps)).map (.list e)
   |_=>none
  |none=>none
 |op=>eJ T bx op ev
theorem det1_sound{P:Program}{T:TT}(hT:T.Ok P){o:Oper}{ev:Operand→PV}{H:Heap}{r:PV}(h:eu T H.bx o.op ev=some r):DetOk P o ev H r:=by
 cases ho:o.op
 case buildSlice t n ps=>
  rw[ho]at h;simp only[eu]at h;split at h
  ·rename_i ti hti;split at h
   ·rename_i e hd;cases hr:gw T e n (ep ev ps)with
    |none=>simp[hr]at h
    |some rows=>
     simp only[hr,Option.map_some,zo]at h;subst h;exact eff_bsF hT ho hti hd hr
   ·cases h
  ·cases h
 all_goals (rw[ho]at h;exact det0_sound hT (by rw[ho];exact h))
theorem det1_congr{T:TT}{bx:Nat→Option Box}{op:Op}{ev ev':Operand→PV}(h:∀x∈op.operands,ev x=ev' x):eu T bx op ev=eu T bx op ev':=by
 have parts:∀ps:Array (Nat×Operand),(∀x∈ps.toList.map (·.2),ev x=ev' x)→ep ev ps=ep ev' ps:=by
  intro ps hp;unfold ep;apply List.map_congr_left;intro p hm;rw[hp p.2 (List.mem_map.2 ⟨p,hm,rfl⟩)]
 cases op
 case buildSlice t n ps=>simp only[eu];rw[parts ps fun x hx=>h x (by simpa[Op.operands]using hx)]
 case build t ps=>simp only[eu,eJ];rw[parts ps fun x hx=>h x (by simpa[Op.operands]using hx)]
 case makeFunc fn first caps=>
  have:caps.toList.map ev=caps.toList.map ev':=List.map_congr_left fun x hx=>h x (by simp[Op.operands];exact .inr (by simpa using hx))
  cases fn<;>simp only[eu,eJ,this]
 case slice t x lo hi mx=>
  have hx:=h x (by simp[Op.operands]);cases mx with
  |some m=>rfl
  |none=>
   have h1:lo.map ev=lo.map ev':=by
    cases lo with
    |none=>rfl
    |some y=>simp[h y (by simp[Op.operands])]
   have h2:hi.map ev=hi.map ev':=by
    cases hi with
    |none=>rfl
    |some y=>simp[h y (by simp[Op.operands])]
   simp only[eu,eJ,hx,h1,h2]
 case call c=>
  obtain⟨callee,args,argTypes⟩:=c
  have ha:∀x∈args.toList,ev x=ev' x:=fun x hx=>h x (by simp only[Op.operands,Call.operands];cases callee<;>simp_all)
  simp only[eu,eJ,jc];split
  ·rename_i x t r' e1 e2;rw[ha x (by rw[e1];simp)]
  ·rename_i x y e1;rw[ha x (by rw[e1];simp),ha y (by rw[e1];simp)]
  ·rename_i x y e1;rw[ha x (by rw[e1];simp),ha y (by rw[e1];simp)]
  ·rfl
 all_goals first
  |rfl
  |(simp only[Op.operands,List.mem_toArray,List.mem_cons,List.not_mem_nil,or_false,forall_eq_or_imp,forall_eq]at h;simp only[eu,eJ,h])
  |(simp only[Op.operands]at h;simp_all[eu,eJ])
theorem det1_mono{T:TT}{bx bx':Nat→Option Box}{op:Op}{ev:Operand→PV}{r:PV}(h:eu T bx op ev=some r)(hb:∀t x,bx t=some x→bx' t=some x):eu T bx' op ev=some r:=by
 cases op
 case load t x=>
  simp only[eu,eJ]at h⊢;split at h
  ·generalize ev x=p at h⊢;unfold jg at h⊢;split at h
   ·exact h
   ·split at h
    ·rename_i y hy;simp only[hb _ y hy];exact h
    ·cases h
   ·cases h
  ·cases h
 case makeFunc fn first caps=>cases fn<;>exact h
 case slice t x lo hi mx=>cases mx<;>exact h
 all_goals exact h
theorem det1_none{T:TT}{bx:Nat→Option Box}{op:Op}{ev:Operand→PV}{r:PV}(h:eu T (fun _=>none) op ev=some r):eu T bx op ev=some r:=
 det1_mono h fun t x hx=>by simp at hx
inductive Cls where
 |det|eff|alloc|store|solo|bad
 deriving DecidableEq
def cj:Op→Cls
 | .move _| .assign _| .pick .. | .load .. | .fieldAddr .. | .field .. | .indexAddr .. | .index .. | .binOp .. | .unOp .. | .convert .. | .extract .. | .build .. | .slice .. | .makeFunc .. | .nilCheck _| .buildSlice .. | .makeInterface .. | .typeAssert ..=>.det
 | .call {callee:= .builtin .len,.. }| .call {callee:= .builtin .min,.. }| .call {callee:= .builtin .max,.. }=>.det
 | .call {callee:= .value _,.. }| .call {callee:= .builtin .append,.. }| .call {callee:= .builtin .copy,.. }=>.eff
 | .alloc _=>.alloc
 | .store ..=>.store
 | .box ..=>.solo
 |_=>.bad
def dK:Op→Bool
 | .load ..=>true
 |_=>false
def EffX(P:Program)(Px:PV→Prop)(o:Oper)(ev:Operand→PV)(ob:Nat→Option Obj)(K:PV→(Nat→Option Obj)→Prop):Prop:=
 ∀bx,Eff P Px o ev ⟨bx,ob⟩ fun u H'=>H'.bx=bx∧K u H'.ob
theorem EffX.mono{P:Program}{Px:PV→Prop}{o:Oper}{ev:Operand→PV}{ob:Nat→Option Obj}{K K':PV→(Nat→Option Obj)→Prop}(h:EffX P Px o ev ob K)(hk:∀u ob',K u ob'→K' u ob'):EffX P Px o ev ob K':=
 fun bx=>(h bx).mono fun u _ ⟨h1,h2⟩=>⟨h1,hk u _ h2⟩
theorem Eff.congr{P:Program}{Px:PV→Prop}{o:Oper}{ev ev':Operand→PV}{H:Heap}{K:PV→Heap→Prop}(h:Eff P Px o ev H K)(he:∀x∈o.op.operands,ev x=ev' x):Eff P Px o ev' H K:=
 fun C M a w next Q hi hr hn=>h C M a w next Q hi (fun x hx=>by rw[he x hx];exact hr x hx) hn
theorem EffX.congr{P:Program}{Px:PV→Prop}{o:Oper}{ev ev':Operand→PV}{ob:Nat→Option Obj}{K:PV→(Nat→Option Obj)→Prop}(h:EffX P Px o ev ob K)(he:∀x∈o.op.operands,ev x=ev' x):EffX P Px o ev' ob K:=
 fun bx C M a w next Q hi hr hn=>h bx C M a w next Q hi (fun x hx=>by rw[he x hx];exact hr x hx) hn
def StoreOk(T:TT)(op:Op)(s:Nat→PV)(bx:Nat→Option Box)(K:(Nat→Option Box)→Prop):Prop:=
 ∃t x y ti tag b off cells cs,op= .store t x y∧T.get t=some ti∧evS s x= .box tag b off∧bx tag=some ⟨b,cells⟩∧cw (evS s y)=some cs∧cs.all PV.one=true∧cs.length=ti.size∧(okS cells&&Nat.ble (off+ti.size) cells.length)=true∧
  K (upd bx tag (some ⟨b,splice cells off cs⟩))
def DetS(P:Program)(o:Oper)(ev:Operand→PV)(H:Heap)(r:PV):Prop:=
 ∀(C:Ctx) (M:Mem) (a:Act) (w:World),InvH P C M H w→(∀x∈o.op.operands,Rep P M true (ev x) (a.eval x))→∃v,(execOp a.eval o).run P w= .ok (.value v) w∧Rep P M true r v
structure RB where
 box:Bool
 own:Bool
 fz:List Nat
def RB.fr(rb:RB)(o:Oper):Bool:=match o.dst with|some d=>rb.fz.any (Nat.beq d)|none=>false
def RB.pc(rb:RB):Bool:=rb.fz.any (Nat.beq 999999)
def jP:Op→Bool
 | .call {callee:= .value _,.. }=>true
 |_=>false
def RB.sl(rb:RB)(o:Oper):Bool:=dK o.op&&match o.dst with|some d=>rb.fz.any (Nat.beq (4000000+d))|none=>false
def RB.st(rb:RB)(t:Nat):Bool:=rb.fz.any (Nat.beq (3000000+t))
def RB.b(rb:RB)(o:Oper):Bool:=rb.box&& !rb.fr o&& !rb.sl o
def RB.vo(rb:RB)(o:Oper):Bool:=match o.dst with|some d=>rb.fz.any (Nat.beq (2000000+d))|none=>false
def RB.so(rb:RB):Bool:=rb.fz.any (Nat.beq 999998)
def RB.eo(rb:RB):Bool:=rb.fz.any (Nat.beq 999996)
def RB.es(rb:RB)(o:Oper):Bool:=match o.op with| .store _ (.tmp d) _=>rb.fz.any (Nat.beq (5000000+d))|_=>false
def RB.e0(rb:RB)(o:Oper):Bool:= !rb.eo|| !rb.es o
def RB.e1(rb:RB)(o:Oper):Bool:= !rb.eo||rb.es o
def RB.sx(rb:RB):Bool:=rb.fz.any (Nat.beq 999997)
def mv(rb:RB)(ops:Array Oper):Bool:=ops.toList.all fun o=>match cj o.op with| .alloc=>(match o.dst with|some d=>rb.st d|none=>false)|_=>true
theorem noAlloc_st{rb:RB}{ops:Array Oper}(h:mv rb ops=true){j:Nat}{y:Oper}(hy:ops[j]? =some y)(hc:cj y.op= .alloc){d:Nat}(hd:y.dst=some d):rb.st d=true:=by
 have:=List.all_eq_true.1 h y (by rw[←Array.getElem?_toList]at hy;exact List.mem_of_getElem? hy)
 simp only[hc,hd]at this;exact this
def RB.o(rb:RB)(o:Oper):Bool:=rb.own&& !rb.fr o&& !rb.vo o
def jH(ob:Nat→Option Obj):Nat→Option Obj:=fun t=>bif Nat.ble 1000000000000000 t then none else ob t
theorem statO_some{ob:Nat→Option Obj}{t:Nat}{x:Obj}(h:jH ob t=some x):ob t=some x:=by
 unfold jH at h;cases hb:Nat.ble 1000000000000000 t with
 |true=>rw[hb]at h;cases h
 |false=>rw[hb]at h;exact h
def DetX(P:Program)(T:TT)(rb:RB)(o:Oper)(ev:Operand→PV)(bx:Nat→Option Box)(ob:Nat→Option Obj)(r:PV):Prop:=
 eu T (if rb.b o then bx else fun _=>none) o.op ev=some r∨∀bx',(rb.sl o=true→∀t,rb.st t=true→bx' t=bx t)→DetS P o ev ⟨bx',if rb.o o&&dK o.op then jH ob else fun _=>none⟩ r
theorem DetS.congr{P:Program}{o:Oper}{ev ev':Operand→PV}{H:Heap}{r:PV}(h:DetS P o ev H r)(he:∀x∈o.op.operands,ev x=ev' x):DetS P o ev' H r:=
 fun C M a w hi hr=>h C M a w hi fun x hx=>by rw[he x hx];exact hr x hx
theorem DetX.congr{P:Program}{T:TT}{rb:RB}{o:Oper}{ev ev':Operand→PV}{bx:Nat→Option Box}{ob:Nat→Option Obj}{r:PV}(h:DetX P T rb o ev bx ob r)(he:∀x∈o.op.operands,ev x=ev' x):DetX P T rb o ev' bx ob r:=
 h.imp (fun h=>by rw[←det1_congr he];exact h) fun h bx' hq=>(h bx' hq).congr he
def fp(P:Program)(Px:PV→Prop)(T:TT)(rb:RB)(ops:Array Oper)(i:Nat)(st:PState)(K:PState→Prop):Prop:=
 ∃o,ops[i]? =some o∧∃g,aN ops st.s o=some g∧
  if g then
   match cj o.op with
   | .det=>∃r s',DetX P T rb o (evS st.s) st.bx st.ob r∧putD st.n st.s o.dst r=some s'∧K ⟨st.n,s',st.bx,st.ob⟩
   | .eff=>(rb.sx=true∧mv rb ops=true∧Eff P Px o (evS st.s) st.heap fun u H'=>(∀t,rb.st t=true→H'.bx t=st.bx t)∧∃s',putD st.n st.s o.dst u=some s'∧K ⟨st.n,s',H'.bx,H'.ob⟩)∨EffX P Px o (evS st.s) st.ob fun u ob'=>((rb.pc&&jP o.op)=true→jH ob'=jH st.ob)∧∃s',putD st.n st.s o.dst u=some s'∧K ⟨st.n,s',st.bx,ob'⟩
   | .alloc=>∃t d ti,o.op= .alloc t∧o.dst=some d∧T.get t=some ti∧d<st.n∧st.bx d=none∧∀b,K ⟨st.n,upd st.s d (.box d b 0),upd st.bx d (some ⟨b,fy ti⟩),st.ob⟩
   | .store=>o.dst=none∧((rb.so=false∧rb.e0 o=true)∧StoreOk T o.op st.s st.bx (fun bx'=>K ⟨st.n,st.s,bx',st.ob⟩)∨rb.e1 o=true∧EffX P Px o (evS st.s) st.ob fun _ ob'=>K ⟨st.n,st.s,st.bx,ob'⟩)
   | .solo=>∃t x d cs,o.op= .box t x∧o.dst=some d∧cw (evS st.s x)=some cs∧d<st.n∧∀b,K ⟨st.n,upd st.s d (.box d b 0),upd st.bx d (some ⟨b,cs⟩),st.ob⟩
   | .bad=>False
  else∃s',putD st.n st.s o.dst kS=some s'∧K ⟨st.n,s',st.bx,st.ob⟩
theorem fp.mono{P:Program}{Px:PV→Prop}{T:TT}{rb:RB}{ops:Array Oper}{i:Nat}{st:PState}{K K':PState→Prop}(h:fp P Px T rb ops i st K)(hk:∀st,K st→K' st):fp P Px T rb ops i st K':=by
 obtain⟨o,ho,g,hg,h⟩:=h
 refine⟨o,ho,g,hg,?_⟩
 cases g
 ·obtain⟨s',h1,h2⟩:=h
  exact⟨s',h1,hk _ h2⟩
 ·simp only[if_true]at h⊢;cases hc:cj o.op<;>rw[hc]at h<;>simp only at h⊢
  ·obtain⟨r,s',h1,h2,h3⟩:=h;exact⟨r,s',h1,h2,hk _ h3⟩
  ·rcases h with⟨h1,h2,h3⟩|h
   ·exact .inl ⟨h1,h2,h3.mono fun u H' ⟨e0,s',e1,e2⟩=>⟨e0,s',e1,hk _ e2⟩⟩
   ·exact .inr (h.mono fun u ob' ⟨hp,s',h1,h2⟩=>⟨hp,s',h1,hk _ h2⟩)
  ·obtain⟨t,d,ti,h1,h2,h3,h4,h5,h6⟩:=h;exact⟨t,d,ti,h1,h2,h3,h4,h5,fun b=>hk _ (h6 b)⟩
  ·obtain⟨h0,⟨hso,t,x,y,ti,tag,b,off,cells,cs,h1,h2,h3,h4,h5,h6,h7,h8,h9⟩|⟨hq,h⟩⟩:=h
   ·exact⟨h0,.inl ⟨hso,t,x,y,ti,tag,b,off,cells,cs,h1,h2,h3,h4,h5,h6,h7,h8,hk _ h9⟩⟩
   ·exact⟨h0,.inr ⟨hq,h.mono fun _ _ hK=>hk _ hK⟩⟩
  ·obtain⟨t,x,d,cs,h1,h2,h3,h4,h5⟩:=h;exact⟨t,x,d,cs,h1,h2,h3,h4,fun b=>hk _ (h5 b)⟩
theorem fp.sound{P:Program}{Px:PV→Prop}{T:TT}(hT:T.Ok P){rb:RB}{ops:Array Oper}{i:Nat}{st:PState}{K:PState→Prop}(h:fp P Px T rb ops i st K){C:Ctx}{M:Mem}{a:Act}{w:World}(hi:dM P C M st a w){Q:PanQ P Px C C.ds}:
  wpOp P ops Q.f i (fun a' w'=>∃st' M',K st'∧dM P C M' st' a' w') a w:=by
 obtain⟨o,ho,g,hg,h⟩:=h
 have hw:=ip hi.1 hg;unfold wpOp;simp only[ho,hw];cases g
 ·obtain⟨s',h1,h2⟩:=h
  simp only[Bool.false_eq_true,if_false]
  exact⟨_,M,h2,hi.1.putD h1 (by simp[Rep,ay,undef]),hi.2⟩
 ·simp only[if_true]at h⊢;refine .inl ?_;cases hc:cj o.op<;>rw[hc]at h<;>simp only at h
  ·obtain⟨r,s',h1,h2,h3⟩:=h
   have h1':DetOk P o (evS st.s) st.heap r:=by
    rcases h1 with h1|h1
    ·refine det1_sound hT ?_;cases hbb:rb.b o
     ·rw[hbb]at h1;exact det1_none h1
     ·rw[hbb]at h1;exact h1
    ·intro C M a w hi
     have h2:InvH P C M ⟨st.bx,if rb.o o&&dK o.op then jH st.ob else fun _=>none⟩ w:=hi.less (fun _ _ hx=>hx) (fun t x hx=>by
      show st.ob t=some x;split at hx
      ·exact statO_some hx
      ·cases hx)
     intro hr
     obtain⟨v,e1,e2⟩:=h1 st.bx (fun _ _ _=>rfl) C M a w h2 hr
     exact⟨v,M,w,e1,Mem.le_refl M,hi,e2⟩
   refine Eff.of_det h1' C M a w _ (Q.cast hi.1.2.1) hi.2 (fun x _=>hi.1.ev x) ?_;rintro v u H' M' w' ⟨rfl,rfl⟩ hle hi' hr
   exact⟨_,M',h3,(hi.1.mono hle).putD h2 hr,hi'⟩
  ·rcases h with⟨_,_,h⟩|h
   ·refine h C M a w _ (Q.cast hi.1.2.1) hi.2 (fun x _=>hi.1.ev x) ?_;rintro v u H' M' w' ⟨_,s',h1,h2⟩ hle hi' hr
    exact⟨_,M',h2,(hi.1.mono hle).putD h1 hr,hi'⟩
   refine h st.bx C M a w _ (Q.cast hi.1.2.1) hi.2 (fun x _=>hi.1.ev x) ?_;rintro v u H' M' w' ⟨hbx,_,s',h1,h2⟩ hle hi' hr
   refine⟨_,M',h2,(hi.1.mono hle).putD h1 hr,?_⟩
   show InvH P C M' ⟨st.bx,H'.ob⟩ w';rw[←hbx];exact hi'
  ·obtain⟨t,d,ti,h1,h2,h3,h4,h5,h6⟩:=h
   refine eff_alloc (o:=o) (H:=st.heap) (ev:=evS st.s) hT h1 d h3 (db _) (K:=fun u H'=>∃b,u= .box d b 0∧H'=⟨upd st.bx d (some ⟨b,fy ti⟩),st.ob⟩) (fun b=>⟨b,rfl,rfl⟩) C M a w _ (Q.cast hi.1.2.1) hi.2 (fun x _=>hi.1.ev x) ?_;rintro v u H' M' w' ⟨b,rfl,rfl⟩ hle hi' hr
   exact⟨_,M',h6 b,(hi.1.mono hle).putD (by rw[h2];exact(show putD st.n st.s (some d) (.box d b 0)=_ from by simp[putD,show Nat.blt d st.n=true from by rw[Nat.blt_eq];exact h4])) hr,hi'⟩
  ·obtain⟨h0,h⟩:=h
   rcases h with h|⟨_,h⟩
   case inr=>
    refine h st.bx C M a w _ (Q.cast hi.1.2.1) hi.2 (fun x _=>hi.1.ev x) ?_;rintro v u H' M' w' ⟨hbx,hK⟩ hle hi' hr
    refine⟨_,M',hK,(hi.1.mono hle).putD (p:= .any) (by simp[h0,putD]) (by simp[Rep]),?_⟩
    show InvH P C M' ⟨st.bx,H'.ob⟩ w';rw[←hbx];exact hi'
   obtain⟨_,t,x,y,ti,tag,b,off,cells,cs,h1,h2,h3,h4,h5,h6,h7,h8,h9⟩:=h
   refine lZ (o:=o) (H:=st.heap) (ev:=evS st.s) hT h1 h2 h3 h4 h5 h6 (by rw[h7];simp) h8 (db _) (K:=fun u H'=>H'=⟨upd st.bx tag (some ⟨b,splice cells off cs⟩),st.ob⟩) rfl C M a w _ (Q.cast hi.1.2.1) hi.2 (fun x _=>hi.1.ev x) ?_;rintro v u H' M' w' rfl hle hi' hr
   exact⟨_,M',h9,(hi.1.mono hle).putD (p:= .any) (by simp[h0,putD]) (by simp[Rep]),hi'⟩
  ·obtain⟨t,x,d,cs,h1,h2,h3,h4,h5⟩:=h
   refine eff_box (o:=o) (H:=st.heap) (ev:=evS st.s) h1 d h3 (K:=fun u H'=>∃b,u= .box d b 0∧H'=⟨upd st.bx d (some ⟨b,cs⟩),st.ob⟩) (fun b=>⟨b,rfl,rfl⟩) C M a w _ (Q.cast hi.1.2.1) hi.2 (fun x _=>hi.1.ev x) ?_;rintro v u H' M' w' ⟨b,rfl,rfl⟩ hle hi' hr
   exact⟨_,M',h5 b,(hi.1.mono hle).putD (by rw[h2];exact(show putD st.n st.s (some d) (.box d b 0)=_ from by simp[putD,show Nat.blt d st.n=true from by rw[Nat.blt_eq];exact h4])) hr,hi'⟩
def AB(P:Program)(Px:PV→Prop)(T:TT)(rb:RB)(ops:Array Oper)(K:PState→Prop):Nat→Array Bool→PState→Prop
 |0,listed,st=>Region.ready .any ops listed=[]∧K st
 |f+1,listed,st=>(Region.ready .any ops listed=[]→K st)∧∀i∈Region.ready .any ops listed,fp P Px T rb ops i st (AB P Px T rb ops K f (listed.setIfInBounds i true))
theorem AB.sound{P:Program}{Px:PV→Prop}{T:TT}(hT:T.Ok P){rb:RB}{ops:Array Oper}{K:PState→Prop}{C:Ctx}{Q:PanQ P Px C C.ds}(hq:∀st M a w,K st→dM P C M st a w→Q.f .normal a w):
  ∀(f:Nat) (listed:Array Bool) (st:PState) (M:Mem) (a:Act) (w:World),AB P Px T rb ops K f listed st→dM P C M st a w→wpAny P .any ops Q.f f listed a w
 |0,_,st,M,a,w,h,hi=>⟨h.1,hq st M a w h.2 hi⟩
 |f+1,_,st,M,a,w,h,hi=>⟨fun h0=>hq st M a w (h.1 h0) hi,fun i hr=>wpOp_mono (fun a' w' ⟨st',M',h1,h2⟩=>AB.sound hT hq f _ st' M' a' w' h1 h2) ((h.2 i hr).sound hT hi)⟩
theorem evS_upd{s:Nat→PV}{d:Nat}{p:PV}{x:Operand}(h:x≠ .tmp d):evS (upd s d p) x=evS s x:=by
 cases x with
 |tmp t=>simp only[evS];exact eK _ _ fun e=>h (by rw[e])
 |_=>rfl
theorem mem_looks{ops:Array Oper}{o:Oper}{d:Nat}(h:d∉o.looksAt ops):∀x∈o.op.operands,x≠ .tmp d:=by
 intro x hx e;subst e;apply h;simp only[Oper.looksAt,List.mem_append,List.mem_filterMap];exact .inl ⟨.tmp d,by simpa using hx,rfl⟩
theorem guardA_upd{ops:Array Oper}{s:Nat→PV}{o:Oper}{d:Nat}{p:PV}(h:d∉o.looksAt ops):aN ops (upd s d p) o=aN ops s o:=by
 unfold aN;split
 ·rfl
 ·rename_i j want hg;split
  ·rename_i e he
   have hne:e≠d:=by
    intro e';subst e';apply h;simp only[Oper.looksAt,List.mem_append];right;rw[hg];simp[he]
   rw[eK _ _ hne]
  ·rfl
def swapOk(rb:RB)(ops:Array Oper)(x y:Oper):Bool:=
 x.apart ops y&&(match cj x.op,cj y.op with
  | .det,.det=>true
  | .det,.alloc=>!rb.sl x
  | .det,.eff=>(!rb.sx&&(!(rb.o x&&dK x.op)||(rb.pc&&jP y.op)))||(rb.sx&&(!dK x.op||(!rb.b x&& !rb.o x)))
  | .det,.store=>!((rb.b x&& !rb.so||rb.o x)&&dK x.op)&& !rb.sl x
  | .alloc,.alloc=>true
  | .eff,.alloc=>true
  | .store,.store=>rb.eo&& !rb.es x&&rb.es y
  |_,_=>false)
theorem kH{n:Nat}{s s':Nat→PV}{dst:Option Tmp}{p:PV}(h:putD n s dst p=some s'):(dst=none∧s'=s)∨∃d,dst=some d∧d<n∧s'=upd s d p:=by
 cases dst with
 |none=>simp only[putD,zo]at h;exact .inl ⟨rfl,h.symm⟩
 |some d=>
  simp only[putD]at h;cases hb:Nat.blt d n with
  |false=>simp[hb]at h
  |true=>simp only[hb,zc,zo]at h;exact .inr ⟨d,rfl,by simpa[Nat.blt_eq]using hb,h.symm⟩
theorem gI{n d:Nat}{s:Nat→PV}{p:PV}(h:d<n):putD n s (some d) p=some (upd s d p):=by simp[putD,show Nat.blt d n=true from by rw[Nat.blt_eq];exact h]
section
variable{P:Program}{Px:PV→Prop}{T:TT}{rb:RB}{ops:Array Oper}
theorem swap{i j:Nat}{x y:Oper}(hx:ops[i]? =some x)(hy:ops[j]? =some y)(hsw:swapOk rb ops x y=true){st:PState}{K:PState→Prop}
  (haf:cj y.op= .alloc→y.guard=none∧∃t d ti,y.op= .alloc t∧y.dst=some d∧T.get t=some ti∧d<st.n∧st.bx d=none)
  (h:fp P Px T rb ops i st fun st2=>fp P Px T rb ops j st2 K):fp P Px T rb ops j st fun st2=>fp P Px T rb ops i st2 K:=by
 simp only[swapOk,Bool.and_eq_true]at hsw
 obtain⟨hap,hcl⟩:=hsw
 obtain⟨a1,a2,a3⟩:=Oper.apart_spec hap
 obtain⟨n,s,bx,ob⟩:=st
 obtain⟨x',hx',g,hg,h⟩:=h
 rw[hx]at hx';cases hx';simp only at hg h
 -- what the first operation writes,the second does not look at; and the other way round
 have ga:∀{d:Nat} {p:PV},x.dst=some d→∀s,aN ops (upd s d p) y=aN ops s y:=fun hd s=>guardA_upd (a1 _ hd)
 have gb:∀{d:Nat} {p:PV},y.dst=some d→∀s,aN ops (upd s d p) x=aN ops s x:=fun hd s=>guardA_upd (a3 _ hd)
 have ea:∀{d:Nat} {p:PV},x.dst=some d→∀s,∀z∈y.op.operands,evS (upd s d p) z=evS s z:=fun hd s z hz=>evS_upd (mem_looks (a1 _ hd) z hz)
 have eb:∀{d:Nat} {p:PV},y.dst=some d→∀s,∀z∈x.op.operands,evS (upd s d p) z=evS s z:=fun hd s z hz=>evS_upd (mem_looks (a3 _ hd) z hz)
 have pc:∀{s s1 s2:Nat→PV} {p q:PV},putD n s x.dst p=some s1→putD n s1 y.dst q=some s2→∃s3,putD n s y.dst q=some s3∧putD n s3 x.dst p=some s2:=by
  intro s s1 s2 p q h1 h2;rcases kH h1 with⟨e1,rfl⟩|⟨d,e1,hd,rfl⟩
  ·exact⟨s2,h2,by rw[e1];rfl⟩
  ·rcases kH h2 with⟨e2,rfl⟩|⟨d',e2,hd',rfl⟩
   ·exact⟨s,by rw[e2];rfl,by rw[e1];exact gI hd⟩
   ·refine⟨upd s d' q,by rw[e2];exact gI hd',?_⟩
    rw[e1,upd_comm s p q (fun e=>a2 d e1 (by rw[e2,e])),gI hd]
 have gx:∀{s s1:Nat→PV} {p:PV},putD n s x.dst p=some s1→aN ops s1 y=aN ops s y∧∀z∈y.op.operands,evS s1 z=evS s z:=by
  intro s s1 p h1;rcases kH h1 with⟨_,rfl⟩|⟨d,e1,_,rfl⟩
  ·exact⟨rfl,fun _ _=>rfl⟩
  ·exact⟨ga e1 s,ea e1 s⟩
 have gy:∀{s s1:Nat→PV} {p:PV},putD n s y.dst p=some s1→aN ops s1 x=aN ops s x∧∀z∈x.op.operands,evS s1 z=evS s z:=by
  intro s s1 p h1;rcases kH h1 with⟨_,rfl⟩|⟨d,e1,_,rfl⟩
  ·exact⟨rfl,fun _ _=>rfl⟩
  ·exact⟨gb e1 s,eb e1 s⟩
 -- a first operation that only puts a known value into its slot
 have simple:∀(r:PV) (s1:Nat→PV),putD n s x.dst r=some s1→fp P Px T rb ops j ⟨n,s1,bx,ob⟩ K→
   (∀(s3:Nat→PV) (bx3:Nat→Option Box) (ob3:Nat→Option Obj) (s4:Nat→PV),aN ops s3 x=aN ops s x→(∀z∈x.op.operands,evS s3 z=evS s z)→
    ((bx3=bx∧ob3=ob)∨(cj y.op= .eff∧((rb.sx=false∧bx3=bx∧((rb.pc&&jP y.op)=true→jH ob3=jH ob))∨(rb.sx=true∧∀t,rb.st t=true→bx3 t=bx t)))∨(cj y.op= .alloc∧ob3=ob∧∀t b,bx t=some b→bx3 t=some b)∨(cj y.op= .store∧(rb.so=true→bx3=bx)))→putD n s3 x.dst r=some s4→K ⟨n,s4,bx3,ob3⟩→fp P Px T rb ops i ⟨n,s3,bx3,ob3⟩ K)→
   fp P Px T rb ops j ⟨n,s,bx,ob⟩ fun st2=>fp P Px T rb ops i st2 K:=by
  intro r s1 h1 h2 redo
  obtain⟨y',hy',g',hg',h2⟩:=h2
  rw[hy]at hy';cases hy';simp only at hg' h2
  obtain⟨k1,k2⟩:=gx h1
  refine⟨y,hy,g',by rw[←k1];exact hg',?_⟩
  cases g'
  ·obtain⟨s2,h3,h4⟩:=h2
   obtain⟨s3,h5,h6⟩:=pc h1 h3
   obtain⟨k3,k4⟩:=gy h5
   exact⟨s3,h5,redo s3 bx ob s2 k3 k4 (.inl ⟨rfl,rfl⟩) h6 h4⟩
  ·simp only[if_true]at h2⊢;cases hc:cj y.op<;>rw[hc]at h2<;>simp only at h2⊢
   ·obtain⟨q,s2,h3,h4,h5⟩:=h2
    obtain⟨s3,h6,h7⟩:=pc h1 h4
    obtain⟨k3,k4⟩:=gy h6
    exact⟨q,s3,h3.congr k2,h6,redo s3 bx ob s2 k3 k4 (.inl ⟨rfl,rfl⟩) h7 h5⟩
   ·rcases h2 with⟨hs,hna,h2⟩|h2
    ·refine .inl ⟨hs,hna,(Eff.congr h2 k2).mono ?_⟩;rintro u H' ⟨h0,s2,h4,h5⟩
     obtain⟨s3,h6,h7⟩:=pc h1 h4
     obtain⟨k3,k4⟩:=gy h6
     exact⟨h0,s3,h6,redo s3 H'.bx H'.ob s2 k3 k4 (.inr (.inl ⟨hc,.inr ⟨hs,h0⟩⟩)) h7 h5⟩
    refine .inr ((h2.congr k2).mono ?_);rintro u ob' ⟨hp,s2,h4,h5⟩
    obtain⟨s3,h6,h7⟩:=pc h1 h4
    obtain⟨k3,k4⟩:=gy h6
    refine⟨hp,s3,h6,redo s3 bx ob' s2 k3 k4 (.inr (.inl ⟨hc,?_⟩)) h7 h5⟩
    cases hs:rb.sx with
    |false=>exact .inl ⟨rfl,rfl,hp⟩
    |true=>exact .inr ⟨rfl,fun _ _=>rfl⟩
   ·obtain⟨t,d,ti,e1,e2,e3,e4,e5,e6⟩:=h2
    refine⟨t,d,ti,e1,e2,e3,e4,e5,fun b=>?_⟩
    have h4:putD n s1 y.dst (.box d b 0)=some (upd s1 d (.box d b 0)):=by rw[e2];exact gI e4
    obtain⟨s3,h6,h7⟩:=pc h1 h4
    have h6':s3=upd s d (.box d b 0):=by rw[e2,gI e4]at h6;exact(Option.some.inj h6).symm
    obtain⟨k3,k4⟩:=gy h6
    subst h6';refine redo _ _ ob _ k3 k4 (.inr (.inr (.inl ⟨hc,rfl,fun t' b' hb'=>?_⟩))) h7 (e6 b);rw[eK _ _ (fun e=>by rw[e,e5]at hb';cases hb')];exact hb'
   ·obtain⟨h0,h2⟩:=h2
    rcases h2 with h2|⟨hq2,h2⟩
    case inr=>
     refine⟨h0,.inr ⟨hq2,(h2.congr k2).mono ?_⟩⟩
     intro u ob' hK;exact redo s bx ob' s1 rfl (fun _ _=>rfl) (.inr (.inr (.inr ⟨hc,fun _=>rfl⟩))) h1 hK
    obtain⟨hso,t,xx,yy,ti,tag,b,off,cells,cs,e1,e2,e3,e4,e5,e6,e7,e8,e9⟩:=h2
    have o1:xx∈y.op.operands:=by rw[e1];simp[Op.operands]
    have o2:yy∈y.op.operands:=by rw[e1];simp[Op.operands]
    refine⟨h0,.inl ⟨hso,t,xx,yy,ti,tag,b,off,cells,cs,e1,e2,by rw[←k2 xx o1];exact e3,e4,by rw[←k2 yy o2];exact e5,e6,e7,e8,?_⟩⟩
    exact redo s _ ob s1 rfl (fun _ _=>rfl) (.inr (.inr (.inr ⟨hc,fun h=>by rw[hso.1]at h;cases h⟩))) h1 e9
   ·rw[hc]at hcl;cases hx':cj x.op<;>rw[hx']at hcl<;>cases hcl
 cases g
 ·--shut out by its guard
  obtain⟨s1,h1,h2⟩:=h
  refine simple kS s1 h1 h2 fun s3 bx3 ob3 s4 k3 k4 _ h7 hK=>⟨x,hx,false,by simp only;rw[k3];exact hg,s4,h7,hK⟩
 ·simp only[if_true]at h;cases hc:cj x.op<;>rw[hc]at h hcl<;>simp only at h hcl
  ·obtain⟨r,s1,h0,h1,h2⟩:=h
   refine simple r s1 h1 h2 fun s3 bx3 ob3 s4 k3 k4 kb h7 hK=>⟨x,hx,true,by simp only;rw[k3];exact hg,?_⟩
   simp only[if_true,hc]
   refine⟨r,s4,?_,h7,hK⟩
   have h0':=h0.congr (ev':=evS s3) fun z hz=>(k4 z hz).symm
   have nold:∀bxx obb,dK x.op=false→DetX P T rb x (evS s3) bxx obb r:=by
    intro bxx obb hl;rcases h0' with h0|h0
    ·left
     have:∀b1 b2,eu T b1 x.op (evS s3)=eu T b2 x.op (evS s3):=by
      intro b1 b2;cases ho:x.op
      case load=>rw[ho]at hl;simp[dK]at hl
      case makeFunc fn _ _=>cases fn<;>rfl
      case slice _ _ _ _ mx=>cases mx<;>rfl
      all_goals rfl
     rw[this _ (if rb.b x then bx else fun _=>none)];exact h0
    ·right;intro bx' hq
     have:=h0 bx' (fun hs=>by simp[RB.sl,hl]at hs)
     rw[hl,Bool.and_false]at this⊢;exact this
   rcases kb with⟨rfl,rfl⟩|⟨kc,hp⟩|⟨ka,rfl,kb⟩|kb
   ·exact h0'
   ·rw[kc]at hcl;rcases hp with⟨hsx,rfl,hp⟩|⟨hsx,hst⟩
    case inr=>
     simp only[hsx,Bool.not_true,Bool.false_and,Bool.false_or,Bool.true_and]at hcl;cases hl:dK x.op
     ·exact nold _ _ hl
     ·rw[hl]at hcl;simp only[Bool.not_true,Bool.false_or,Bool.and_eq_true,Bool.not_eq_true']at hcl;rcases h0' with h0|h0
      ·left;rw[hcl.1]at h0⊢;exact h0
      ·right;intro bx' hq
       have:=h0 bx' (fun hs t ht=>(hq hs t ht).trans (hst t ht))
       rw[hcl.2]at this⊢;exact this
    simp only[hsx,Bool.not_false,Bool.true_and,Bool.false_and,Bool.or_false]at hcl;cases hpc:(rb.pc&&jP y.op)with
    |true=>exact h0'.imp id fun h bx' hq=>(by rw[hp hpc];exact h bx' hq)
    |false=>
    simp only[hpc,Bool.or_false,Bool.not_eq_true']at hcl;cases hl:dK x.op
    ·exact nold _ _ hl
    ·rcases h0' with h0|h0
     ·exact .inl h0
     ·right;intro bx' hq
      have:=h0 bx' hq
      rw[hcl]at this⊢;exact this
   ·rcases h0' with h0|h0
    ·left;cases h1:rb.b x
     ·rw[h1]at h0;exact h0
     ·rw[h1]at h0;exact det1_mono h0 kb
    ·rw[ka]at hcl;exact .inr fun bx' hq=>h0 bx' (fun hs=>by simp[hs]at hcl)
   ·obtain⟨kb,kso⟩:=kb
    rw[kb]at hcl;rw[Bool.and_eq_true,Bool.not_eq_true',Bool.not_eq_true']at hcl
    obtain⟨hcl,hnsl⟩:=hcl
    cases hl:dK x.op
    ·exact nold _ _ hl
    ·rw[hl,Bool.and_true]at hcl;simp only[Bool.or_eq_false_iff]at hcl;rcases h0' with h0|h0
     ·left;cases hs:rb.so with
      |true=>rw[kso hs];exact h0
      |false=>
       have hb:rb.b x=false:=by have:=hcl.1;rw[hs]at this;simpa using this
       rw[hb]at h0⊢;exact h0
     ·right;intro bx' hq
      have:=h0 bx' (fun hs=>by rw[hnsl]at hs;cases hs)
      rw[hcl.2]at this⊢;exact this
  ·--a call or an append,and a new variable
   have hya:cj y.op= .alloc:=by
    cases hy':cj y.op<;>rw[hy']at hcl<;>simp_all
   obtain⟨hgn,t,d,ti,e1,e2,e3,e4,e5⟩:=haf hya
   have hgt:∀s,aN ops s y=some true:=fun s=>by simp[aN,hgn]
   refine⟨y,hy,true,hgt _,?_⟩
   simp only[if_true,hya]
   refine⟨t,d,ti,e1,e2,e3,e4,e5,fun b=>?_⟩
   have hput:putD n s y.dst (.box d b 0)=some (upd s d (.box d b 0)):=by rw[e2];exact gI e4
   obtain⟨k3,k4⟩:=gy hput
   refine⟨x,hx,true,by simp only;rw[k3];exact hg,?_⟩
   simp only[if_true,hc];rcases h with⟨hs1,hs2,h⟩|h
   ·refine .inl ⟨hs1,hs2,(Eff.frameBox (bx:=bx) (ob:=ob) (d:=d) (x:=⟨b,fy ti⟩) e5 (h.congr fun z hz=>(k4 z hz).symm)).mono ?_⟩;rintro u _ ⟨H'',⟨hp,s1,h1,y',hy',g',hg',h2⟩,rfl⟩;rw[hy]at hy';cases hy';simp only at hg' h2;rw[hgt]at hg';cases hg';simp only[if_true,hya]at h2
    obtain⟨t',d',ti',f1,f2,f3,f4,f5,f6⟩:=h2
    rw[e2]at f2;cases f2;rw[e1]at f1;cases f1;rw[e3]at f3;cases f3;have h4:putD n s1 y.dst (.box d b 0)=some (upd s1 d (.box d b 0)):=by rw[e2];exact gI e4
    obtain⟨s3,h6,h7⟩:=pc h1 h4
    rw[hput]at h6;cases h6
    refine⟨fun tt htt=>?_,_,h7,f6 b⟩
    by_cases e:tt=d
    ·subst e;simp only[ef]
    ·simp only[eK _ _ e];exact hp tt htt
   ·refine .inr ((h.congr fun z hz=>(k4 z hz).symm).mono ?_);rintro u ob' ⟨hp,s1,h1,y',hy',g',hg',h2⟩;rw[hy]at hy';cases hy';simp only at hg' h2;rw[hgt]at hg';cases hg';simp only[if_true,hya]at h2
    obtain⟨t',d',ti',f1,f2,f3,f4,f5,f6⟩:=h2
    rw[e2]at f2;cases f2;rw[e1]at f1;cases f1;rw[e3]at f3;cases f3;have h4:putD n s1 y.dst (.box d b 0)=some (upd s1 d (.box d b 0)):=by rw[e2];exact gI e4
    obtain⟨s3,h6,h7⟩:=pc h1 h4
    rw[hput]at h6;cases h6
    exact⟨hp,_,h7,f6 b⟩
  ·--two new variables
   have hya:cj y.op= .alloc:=by
    cases hy':cj y.op<;>rw[hy']at hcl<;>simp_all
   obtain⟨hgn,t,d,ti,e1,e2,e3,e4,e5⟩:=haf hya
   have hgt:∀s,aN ops s y=some true:=fun s=>by simp[aN,hgn]
   obtain⟨tx,dx,tix,c1,c2,c3,c4,c5,c6⟩:=h
   have hne:dx≠d:=fun e=>a2 dx c2 (by rw[e2,e])
   refine⟨y,hy,true,hgt _,?_⟩
   simp only[if_true,hya]
   refine⟨t,d,ti,e1,e2,e3,e4,e5,fun b=>?_⟩
   have hput:putD n s y.dst (.box d b 0)=some (upd s d (.box d b 0)):=by rw[e2];exact gI e4
   obtain⟨k3,k4⟩:=gy hput
   refine⟨x,hx,true,by simp only;rw[k3];exact hg,?_⟩
   simp only[if_true,hc]
   refine⟨tx,dx,tix,c1,c2,c3,c4,by rw[eK _ _ hne];exact c5,fun bb=>?_⟩
   obtain⟨y',hy',g',hg',h2⟩:=c6 bb
   rw[hy]at hy';cases hy';simp only at hg' h2;rw[hgt]at hg';cases hg';simp only[if_true,hya]at h2
   obtain⟨t',d',ti',f1,f2,f3,f4,f5,f6⟩:=h2
   rw[e2]at f2;cases f2;rw[e1]at f1;cases f1;rw[e3]at f3;cases f3
   have:=f6 b
   rwa [upd_comm s _ _ hne,upd_comm bx _ _ hne]at this
  ·--a store into a variable,and one into a slice of the call's own
   have hya:cj y.op= .store:=by
    cases hy':cj y.op<;>rw[hy']at hcl<;>simp_all
   rw[hya]at hcl;simp only[Bool.and_eq_true,Bool.not_eq_true']at hcl
   obtain⟨⟨q1,q2⟩,q3⟩:=hcl
   obtain⟨h0,h⟩:=h
   rcases h with⟨hso,t,xx,yy,ti,tag,b,off,cells,cs,e1,e2,e3,e4,e5,e6,e7,e8,e9⟩|⟨hq,_⟩
   case inr=>simp[RB.e1,q1,q2]at hq
   obtain⟨y',hy',g',hg',h2⟩:=e9
   rw[hy]at hy';cases hy';have o1:xx∈x.op.operands:=by rw[e1];simp[Op.operands]
   have o2:yy∈x.op.operands:=by rw[e1];simp[Op.operands]
   refine⟨y,hy,g',hg',?_⟩
   cases g'
   ·obtain⟨s2,h3,h4⟩:=h2
    obtain⟨k3,k4⟩:=gy h3
    refine⟨s2,h3,x,hx,true,by simp only;rw[k3];exact hg,?_⟩
    simp only[if_true,hc]
    exact⟨h0,.inl ⟨hso,t,xx,yy,ti,tag,b,off,cells,cs,e1,e2,(k4 xx o1).trans e3,e4,by rw[k4 yy o2];exact e5,e6,e7,e8,h4⟩⟩
   ·simp only[if_true,hya]at h2⊢
    obtain⟨hy0,h2⟩:=h2
    rcases h2 with⟨⟨_,hey⟩,_⟩|⟨hq2,h2⟩
    ·simp[RB.e0,q1,q3]at hey
    ·refine⟨hy0,.inr ⟨hq2,h2.mono fun u ob' hK=>⟨x,hx,true,hg,?_⟩⟩⟩
     simp only[if_true,hc]
     exact⟨h0,.inl ⟨hso,t,xx,yy,ti,tag,b,off,cells,cs,e1,e2,e3,e4,e5,e6,e7,e8,hK⟩⟩
  ·cases hcl
def iM(T:TT)(ops:Array Oper)(listed:Array Bool)(st:PState):Prop:=
 ∀j y,ops[j]? =some y→listed.getD j true=false→cj y.op= .alloc→y.guard=none∧∃t d ti,y.op= .alloc t∧y.dst=some d∧T.get t=some ti∧d<st.n∧st.bx d=none
theorem getD_set_same{l:Array Bool}{i:Nat}(h:i<l.size):(l.setIfInBounds i true).getD i true=true:=by simp[h]
theorem fp.keep{i:Nat}{x:Oper}(hx:ops[i]? =some x){st:PState}{K:PState→Prop}{listed:Array Bool}(haf:iM T ops listed st)(hd:∀j y d,ops[j]? =some y→j≠i→cj y.op= .alloc→y.dst=some d→x.dst≠some d)
  (h:fp P Px T rb ops i st K):fp P Px T rb ops i st fun st'=>K st'∧iM T ops (listed.setIfInBounds i true) st':=by
 have less:∀j,(listed.setIfInBounds i true).getD j true=false→listed.getD j true=false∧j≠i:=by
  intro j hj;by_cases e:i=j
  ·subst e;rcases Nat.lt_or_ge i listed.size with h|h
   ·rw[getD_set_same h]at hj;cases hj
   ·rw[Array.getD_eq_getD_getElem?,Array.getElem?_eq_none (by simpa using h)]at hj;cases hj
  ·rw[getD_set_ne true e]at hj
   exact⟨hj,fun h=>e h.symm⟩
 have easy:∀s' ob',iM T ops (listed.setIfInBounds i true) ⟨st.n,s',st.bx,ob'⟩:=fun s' ob' j y hy hl hc=>haf j y hy (less j hl).1 hc
 obtain⟨x',hx',g,hg,h⟩:=h
 rw[hx]at hx';cases hx'
 refine⟨x,hx,g,hg,?_⟩
 cases g
 ·obtain⟨s',h1,h2⟩:=h
  exact⟨s',h1,h2,easy _ _⟩
 ·simp only[if_true]at h⊢;cases hc:cj x.op<;>rw[hc]at h<;>simp only at h⊢
  ·obtain⟨r,s',h1,h2,h3⟩:=h
   exact⟨r,s',h1,h2,h3,easy _ _⟩
  ·rcases h with⟨h1,h2,h3⟩|h
   ·exact .inl ⟨h1,h2,h3.mono fun u H' ⟨e0,s',e1,e2⟩=>⟨e0,s',e1,e2,fun j y hy hl hcy=>by
     obtain⟨hgn,t,d,ti,q1,q2,q3,q4,q5⟩:=haf j y hy (less j hl).1 hcy
     exact⟨hgn,t,d,ti,q1,q2,q3,q4,(e0 d (noAlloc_st h2 hy hcy q2)).trans q5⟩⟩⟩
   ·exact .inr (h.mono fun u ob' ⟨hp,s',h1,h2⟩=>⟨hp,s',h1,h2,easy _ _⟩)
  ·obtain⟨t,d,ti,h1,h2,h3,h4,h5,h6⟩:=h
   refine⟨t,d,ti,h1,h2,h3,h4,h5,fun b=>⟨h6 b,fun j y hy hl hcy=>?_⟩⟩
   obtain⟨hgn,t',d',ti',f1,f2,f3,f4,f5⟩:=haf j y hy (less j hl).1 hcy
   refine⟨hgn,t',d',ti',f1,f2,f3,f4,?_⟩
   simp only;rw[eK _ _ (fun e=>hd j y d' hy (less j hl).2 hcy f2 (by rw[h2,e]))];exact f5
  ·obtain⟨h0,h⟩:=h
   rcases h with h|⟨hq,h⟩
   case inr=>exact⟨h0,.inr ⟨hq,h.mono fun u ob' hK=>⟨hK,easy _ _⟩⟩⟩
   obtain⟨hso,t,xx,yy,ti,tag,b,off,cells,cs,e1,e2,e3,e4,e5,e6,e7,e8,e9⟩:=h
   refine⟨h0,.inl ⟨hso,t,xx,yy,ti,tag,b,off,cells,cs,e1,e2,e3,e4,e5,e6,e7,e8,e9,fun j y hy hl hcy=>?_⟩⟩
   obtain⟨hgn,t',d',ti',f1,f2,f3,f4,f5⟩:=haf j y hy (less j hl).1 hcy
   refine⟨hgn,t',d',ti',f1,f2,f3,f4,?_⟩
   simp only;rw[eK _ _ (fun e=>by rw[e,e4]at f5;cases f5)];exact f5
  ·obtain⟨t,xx,d,cs,h1,h2,h3,h4,h5⟩:=h
   refine⟨t,xx,d,cs,h1,h2,h3,h4,fun b=>⟨h5 b,fun j y hy hl hcy=>?_⟩⟩
   obtain⟨hgn,t',d',ti',f1,f2,f3,f4,f5⟩:=haf j y hy (less j hl).1 hcy
   refine⟨hgn,t',d',ti',f1,f2,f3,f4,?_⟩
   simp only;rw[eK _ _ (fun e=>hd j y d' hy (less j hl).2 hcy f2 (by rw[h2,e]))];exact f5
def lm(ops:Array Oper)(listed:Array Bool):Prop:=∀(j:Nat) (o:Oper),ops[j]? =some o→listed.getD j false=true→∀e∈o.after,Region.binds .any e=true→listed.getD e.on false=true
def masks(m:Array Nat)(o:Oper):Nat:=o.after.toList.foldr (fun e s=>if Region.binds .any e then(2^e.on|||m.getD e.on 0)|||s else s) 0
def iI(ops:Array Oper)(m:Array Nat):Bool:=(List.range ops.size).all fun j=>match ops[j]? with
 |some o=>Nat.beq (m.getD j 0|||masks m o) (masks m o)
 |none=>true
theorem mn{m:Array Nat}{k:Nat}:∀{l:List Edge},(l.foldr (fun e s=>if Region.binds .any e then(2^e.on|||m.getD e.on 0)|||s else s) 0).testBit k=true→
  ∃e∈l,Region.binds .any e=true∧(e.on=k∨(m.getD e.on 0).testBit k=true)
 |[],h=>by simp at h
 |e::l,h=>by
  simp only[List.foldr_cons]at h;split at h
  ·rename_i hb;rw[Nat.testBit_or,Nat.testBit_or,Bool.or_eq_true,Bool.or_eq_true]at h;rcases h with(h|h)|h
   ·rw[Nat.testBit_two_pow]at h
    exact⟨e,by simp,hb,.inl (by simpa using h)⟩
   ·exact⟨e,by simp,hb,.inr h⟩
   ·obtain⟨e',h1,h2⟩:=mn h
    exact⟨e',by simp[h1],h2⟩
  ·obtain⟨e',h1,h2⟩:=mn h
   exact⟨e',by simp[h1],h2⟩
theorem masks_step{m:Array Nat}(hm:iI ops m=true){j k:Nat}{o:Oper}(ho:ops[j]? =some o)(hk:(m.getD j 0).testBit k=true):∃e∈o.after,Region.binds .any e=true∧(e.on=k∨(m.getD e.on 0).testBit k=true):=by
 have hj:j<ops.size:=(Array.getElem?_eq_some_iff.1 ho).1;have h1:=(List.all_eq_true.1 hm) j (by simpa using hj);rw[ho]at h1;have h1:=Nat.eq_of_beq_eq_true h1;have h2:(m.getD j 0|||masks m o).testBit k=true:=by rw[Nat.testBit_or,hk];rfl
 rw[h1]at h2
 obtain⟨e,he,h3⟩:=mn h2
 exact⟨e,by simpa using he,h3⟩
theorem gT{m:Array Nat}(hm:iI ops m=true){listed:Array Bool}(hcl:lm ops listed)(hlt:∀(j:Nat) (o:Oper),ops[j]? =some o→∀e∈o.after,Region.binds .any e=true→e.on<j):
  ∀(j:Nat) (o:Oper) (k:Nat),ops[j]? =some o→(∀e∈o.after,Region.binds .any e=true→listed.getD e.on false=true)→(m.getD j 0).testBit k=true→listed.getD k false=true:=by
 intro j;induction j using Nat.strongRecOn with
 |_ j ih=>
  intro o k ho hall hk
  obtain⟨e,he,hb,h⟩:=masks_step hm ho hk
  have hl:=hall e he hb;rcases h with rfl|h
  ·exact hl
  ·have hej:=hlt j o ho e he hb;have hjs:j<ops.size:=(Array.getElem?_eq_some_iff.1 ho).1;have hes:e.on<ops.size:=Nat.lt_trans hej hjs;exact ih e.on hej ops[e.on] k (by simp[hes]) (fun e' he' hb'=>hcl e.on ops[e.on] (by simp[hes]) hl e' he' hb') h
theorem AB_first{m:Array Nat}(hm:iI ops m=true)(hlt:∀(j:Nat) (o:Oper),ops[j]? =some o→∀e∈o.after,Region.binds .any e=true→e.on<j)(hdst:∀(i j:Nat) (x y:Oper) (d:Nat),ops[i]? =some x→ops[j]? =some y→i≠j→cj y.op= .alloc→y.dst=some d→x.dst≠some d)
  {K:PState→Prop} {i:Nat} {x:Oper} (hx:ops[i]? =some x):∀(f:Nat) (listed:Array Bool) (st:PState),listed.toList.count false≤f+1→lm ops listed→iM T ops listed st→
   (∀j y,ops[j]? =some y→listed.getD j true=false→j≠i→(m.getD j 0).testBit i=false→swapOk rb ops x y=true)→i∈Region.ready .any ops listed→
   fp P Px T rb ops i st (AB P Px T rb ops K f (listed.setIfInBounds i true))→AB P Px T rb ops K (f+1) listed st:=by
 intro f;induction f with
 |zero=>
  intro listed st hcnt hcl haf hfree hr h
  refine⟨fun h0=>(by rw[h0]at hr;cases hr),fun j hj=>?_⟩
  by_cases hji:j=i
  ·subst hji;exact h
  ·exfalso;have h1:=(mem_ready.1 hr).1;have h2:=(mem_ready.1 hj).1
   have two:∀(l:List Bool) (a b:Nat),a≠b→l[a]? =some false→l[b]? =some false→2≤l.count false:=by
    intro l;induction l with
    |nil=>intro a b _ ha;simp at ha
    |cons c l ih=>
     intro a b hab ha hb;have one:∀(l:List Bool) (a:Nat),l[a]? =some false→1≤l.count false:=fun l a ha=>List.one_le_count_iff.2 (List.mem_of_getElem? ha)
     cases a with
     |zero=>
      cases b with
      |zero=>exact absurd rfl hab
      |succ b=>simp at ha;subst ha;have h9:=one l b (by simpa using hb);rw[List.count_cons];simp only[beq_self_eq_true,if_true];omega
     |succ a=>
      cases b with
      |zero=>simp at hb;subst hb;have h9:=one l a (by simpa using ha);rw[List.count_cons];simp only[beq_self_eq_true,if_true];omega
      |succ b=>
       have:=ih a b (by omega) (by simpa using ha) (by simpa using hb)
       rw[List.count_cons];omega
   have conv:∀k,listed.getD k true=false→listed.toList[k]? =some false:=by
    intro k hk;rw[Array.getD_eq_getD_getElem?]at hk;rw[Array.getElem?_toList];cases hq:listed[k]? with
    |none=>rw[hq]at hk;cases hk
    |some b=>rw[hq]at hk;simp at hk;rw[hk]
   have:=two listed.toList i j (fun e=>hji e.symm) (conv i h1) (conv j h2)
   omega
 |succ f ih=>
  intro listed st hcnt hcl haf hfree hr h
  refine⟨fun h0=>(by rw[h0]at hr;cases hr),fun j hj=>?_⟩
  by_cases hji:j=i
  ·subst hji;exact h
  ·obtain⟨hjun,y,hy,hall⟩:=mem_ready.1 hj
   have hiun:=(mem_ready.1 hr).1
   have hbit:(m.getD j 0).testBit i=false:=by
    cases hb:(m.getD j 0).testBit i with
    |false=>rfl
    |true=>
     have:=gT hm hcl hlt j y i hy hall hb
     rw[Array.getD_eq_getD_getElem?]at this hiun;cases hq:listed[i]? with
     |none=>rw[hq]at this;cases this
     |some b=>rw[hq]at this hiun;simp at this hiun;rw[this]at hiun;cases hiun
   have hsw:=hfree j y hy hjun hji hbit
   have h1:fp P Px T rb ops i st fun st2=>fp P Px T rb ops j st2 (AB P Px T rb ops K f ((listed.setIfInBounds i true).setIfInBounds j true)):=
    h.mono fun st2 h2=>h2.2 j (ready_mono hj hji)
   have h2:=swap hx hy hsw (haf j y hy hjun) h1;have h3:=fp.keep hy (listed:=listed) haf (fun k z d hz hk hc hd=>hdst j k y z d hy hz (fun e=>hk e.symm) hc hd) h2;refine h3.mono fun st2 ⟨h4,h5⟩=>?_
   rw[Array.setIfInBounds_comm _ _ (fun e=>hji e.symm)]at h4
   have hjs:j<listed.size:=by
    rcases Nat.lt_or_ge j listed.size with h|h
    ·exact h
    ·rw[Array.getD_eq_getD_getElem?,Array.getElem?_eq_none h]at hjun;cases hjun
   refine ih (listed.setIfInBounds j true) st2 ?_ ?_ h5 ?_ (ready_mono hr (fun e=>hji e.symm)) h4
   ·have hjf:listed.toList[j]'(by simpa using hjs)=false:=by
     rw[Array.getD_eq_getD_getElem?,Array.getElem?_eq_getElem hjs]at hjun;simpa using hjun
    have:=List.count_set (a:=true) (b:=false) (l:=listed.toList) (i:=j) (by simpa using hjs)
    rw[hjf]at this;have hpos:1≤listed.toList.count false:=List.one_le_count_iff.2 (hjf▸List.getElem_mem _);have e2:(listed.toList.set j true).count false=listed.toList.count false-1:=this.trans rfl;rw[Array.toList_setIfInBounds,e2];omega
   ·intro k o ho hk e he hb;by_cases hkj:j=k
    ·subst hkj;rw[hy]at ho;cases ho
     have:=hall e he hb
     by_cases hej:j=e.on
     ·rw[←hej];simp[hjs]
     ·rw[getD_set_ne false hej];exact this
    ·rw[getD_set_ne false hkj]at hk
     have:=hcl k o ho hk e he hb
     by_cases hej:j=e.on
     ·rw[←hej];simp[hjs]
     ·rw[getD_set_ne false hej];exact this
   ·intro k z hz hk hki hbk;by_cases hkj:j=k
    ·subst hkj;simp[hjs]at hk
    ·rw[getD_set_ne true hkj]at hk;exact hfree k z hz hk hki hbk
def Do(P:Program)(Px:PV→Prop)(T:TT)(rb:RB)(ops:Array Oper):List Nat→PState→(PState→Prop)→Prop
 |[],st,K=>K st
 |k::L,st,K=>fp P Px T rb ops k st fun st'=>Do P Px T rb ops L st' K
def la(rb:RB)(ops:Array Oper)(m:Array Nat):Array Bool→List Nat→Bool
 |listed,[]=>listed.all id
 |listed,k::L=>(match ops[k]? with
   |some x=>!listed.getD k true&&x.after.all (fun e=>!Region.binds .any e||listed.getD e.on false)&&
     (List.range ops.size).all fun j=>listed.getD j true||Nat.beq j k||(m.getD j 0).testBit k||(match ops[j]? with|some y=>swapOk rb ops x y|none=>true)
   |none=>false)&&la rb ops m (listed.setIfInBounds k true) L
def drawOk(rb:RB)(ops:Array Oper)(L:List Nat):Bool:=
 iI ops (Region.before ops)&&(List.range ops.size).all (fun j=>match ops[j]? with
  |some o=>o.after.all fun e=>!Region.binds .any e||Nat.blt e.on j
  |none=>true)&&
 (List.range ops.size).all (fun j=>match ops[j]? with
  |some y=>cj y.op != .alloc||(y.guard.isNone&&y.dst.isSome&&(List.range ops.size).all fun i=>Nat.beq i j||(match ops[i]? with|some x=>x.dst !=y.dst|none=>true))
  |none=>true)&&
 la rb ops (Region.before ops) (Array.replicate ops.size false) L
theorem AB_lex{m:Array Nat}(hm:iI ops m=true)(hlt:∀(j:Nat) (o:Oper),ops[j]? =some o→∀e∈o.after,Region.binds .any e=true→e.on<j)(hdst:∀(i j:Nat) (x y:Oper) (d:Nat),ops[i]? =some x→ops[j]? =some y→i≠j→cj y.op= .alloc→y.dst=some d→x.dst≠some d)
  {K:PState→Prop}:∀(L:List Nat) (listed:Array Bool) (st:PState),listed.size=ops.size→listed.toList.count false≤L.length→lm ops listed→iM T ops listed st→la rb ops m listed L=true→Do P Px T rb ops L st K→AB P Px T rb ops K L.length listed st
 |[],listed,st,hsz,hcnt,hcl,haf,hc,h=>by
  refine⟨?_,h⟩
  simp only[la]at hc;cases hr:Region.ready .any ops listed with
  |nil=>rfl
  |cons j r=>
   have hj:=(mem_ready.1 (show j∈Region.ready .any ops listed from by rw[hr];simp)).1;rw[Array.getD_eq_getD_getElem?]at hj;cases hq:listed[j]? with
   |none=>rw[hq]at hj;cases hj
   |some b=>
    rw[hq]at hj;simp at hj;subst hj
    have:=(Array.all_eq_true_iff_forall_mem.1 hc) false (Array.mem_of_getElem? hq)
    cases this
 |k::L,listed,st,hsz,hcnt,hcl,haf,hc,h=>by
  simp only[la,Bool.and_eq_true]at hc
  obtain⟨hk,hc'⟩:=hc
  cases hx:ops[k]? with
  |none=>rw[hx]at hk;cases hk
  |some x=>
   rw[hx]at hk;simp only[Bool.and_eq_true,Bool.not_eq_true']at hk
   obtain⟨⟨h1,h2⟩,h3⟩:=hk
   have hks:k<listed.size:=by
    rw[hsz];exact(Array.getElem?_eq_some_iff.1 hx).1
   have hall:∀e∈x.after,Region.binds .any e=true→listed.getD e.on false=true:=by
    intro e he hb
    have:=(Array.all_eq_true_iff_forall_mem.1 h2) e he
    rw[hb]at this;simpa using this
   have hr:k∈Region.ready .any ops listed:=mem_ready.2 ⟨h1,x,hx,hall⟩
   have hkf:listed.toList[k]'(by simpa using hks)=false:=by
    rw[Array.getD_eq_getD_getElem?,Array.getElem?_eq_getElem hks]at h1;simpa using h1
   have hcount:=List.count_set (a:=true) (b:=false) (l:=listed.toList) (i:=k) (by simpa using hks);rw[hkf]at hcount;have hpos:1≤listed.toList.count false:=List.one_le_count_iff.2 (hkf▸List.getElem_mem _)
   have hcl':lm ops (listed.setIfInBounds k true):=by
    intro j o ho hj e he hb;by_cases hkj:k=j
    ·subst hkj;rw[hx]at ho;cases ho
     have:=hall e he hb
     by_cases hej:k=e.on
     ·rw[←hej];simp[hks]
     ·rw[getD_set_ne false hej];exact this
    ·rw[getD_set_ne false hkj]at hj
     have:=hcl j o ho hj e he hb
     by_cases hej:k=e.on
     ·rw[←hej];simp[hks]
     ·rw[getD_set_ne false hej];exact this
   simp only[Do]at h;have h4:=fp.keep hx (listed:=listed) haf (fun j y d hy hj hcy hd=>hdst k j x y d hx hy (fun e=>hj e.symm) hcy hd) h;refine AB_first hm hlt hdst hx L.length listed st (by simpa using hcnt) hcl haf ?_ hr (h4.mono fun st' ⟨h5,h6⟩=>AB_lex hm hlt hdst L _ st' (by simpa using hsz) ?_ hcl' h6 hc' h5)
   ·intro j y hy hj hjk hb;have hjs:j<ops.size:=(Array.getElem?_eq_some_iff.1 hy).1
    have:=(List.all_eq_true.1 h3) j (by simpa using hjs)
    rw[hj,hb,hy]at this
    have hne:Nat.beq j k=false:=by cases hq:Nat.beq j k with
     |false=>rfl
     |true=>exact absurd (Nat.eq_of_beq_eq_true hq) hjk
    rw[hne]at this;simpa using this
   ·have e2:(listed.toList.set k true).count false=listed.toList.count false-1:=hcount.trans rfl;rw[Array.toList_setIfInBounds,e2];simp only[List.length_cons]at hcnt;omega
theorem draw_any{n:Nat}{s:Nat→PV}{bx:Nat→Option Box}{ob:Nat→Option Obj}(hT:T.Ok P)(rb:RB)(L:List Nat){ops:Array Oper}(hL:L.length=ops.size)
  (hok:drawOk rb ops L=true) (hal:(ops.toList.all fun o=>match o.op with| .alloc t=>(match o.dst with|some d=>Nat.blt d n&&(bx d).isNone&&(T.get t).isSome|none=>false)|_=>true)=true)
  {K:PState→Prop} (h:Do P Px T rb ops L ⟨n,s,bx,ob⟩ K) {C:Ctx} {M:Mem} {a:Act} {w:World} (hi:dM P C M ⟨n,s,bx,ob⟩ a w) {Q:PanQ P Px C C.ds} (hq:∀st M a w,K st→dM P C M st a w→Q.f .normal a w):wpAny P .any ops Q.f ops.size (Array.replicate ops.size false) a {w with drawn:=w.drawn+1}:=by
 simp only[drawOk,Bool.and_eq_true]at hok
 obtain⟨⟨⟨h1,h2⟩,h3⟩,h4⟩:=hok
 have hlt:∀(j:Nat) (o:Oper),ops[j]? =some o→∀e∈o.after,Region.binds .any e=true→e.on<j:=by
  intro j o ho e he hb;have hj:j<ops.size:=(Array.getElem?_eq_some_iff.1 ho).1
  have:=(List.all_eq_true.1 h2) j (by simpa using hj)
  rw[ho]at this
  have:=(Array.all_eq_true_iff_forall_mem.1 this) e he
  rw[hb]at this;simpa[Nat.blt_eq]using this
 have hdst:∀(i j:Nat) (x y:Oper) (d:Nat),ops[i]? =some x→ops[j]? =some y→i≠j→cj y.op= .alloc→y.dst=some d→x.dst≠some d:=by
  intro i j x y d hx hy hij hc hd e;have hj:j<ops.size:=(Array.getElem?_eq_some_iff.1 hy).1;have hi:i<ops.size:=(Array.getElem?_eq_some_iff.1 hx).1
  have:=(List.all_eq_true.1 h3) j (by simpa using hj)
  rw[hy]at this;simp only[hc,bne_self_eq_false,Bool.false_or,Bool.and_eq_true]at this
  have:=(List.all_eq_true.1 this.2) i (by simpa using hi)
  rw[hx]at this
  have hne:Nat.beq i j=false:=by cases hq:Nat.beq i j with
   |false=>rfl
   |true=>exact absurd (Nat.eq_of_beq_eq_true hq) hij
  simp only[hne,Bool.false_or]at this;simp[e,hd]at this
 have haf:iM T ops (Array.replicate ops.size false) ⟨n,s,bx,ob⟩:=by
  intro j y hy _ hc;have hj:j<ops.size:=(Array.getElem?_eq_some_iff.1 hy).1;have a1:=(List.all_eq_true.1 h3) j (by simpa using hj);rw[hy]at a1;simp only[hc,bne_self_eq_false,Bool.false_or,Bool.and_eq_true]at a1;have a2:=(List.all_eq_true.1 hal) y (by simpa using Array.mem_of_getElem? hy)
  have hop:∃t,y.op= .alloc t:=by
   cases ho:y.op<;>rw[ho]at hc<;>first
    |exact⟨_,rfl⟩
    |(simp[cj]at hc;done)
    |(unfold cj at hc;split at hc<;>simp_all)
  obtain⟨t,ht⟩:=hop
  rw[ht]at a2;simp only at a2;cases hd:y.dst with
  |none=>rw[hd]at a2;cases a2
  |some d=>
   rw[hd]at a2;simp only[Bool.and_eq_true,Option.isNone_iff_eq_none]at a2
   obtain⟨⟨b1,b2⟩,b3⟩:=a2
   obtain⟨ti,hti⟩:=Option.isSome_iff_exists.1 b3
   exact⟨by simpa using a1.1.1,t,d,ti,ht,rfl,hti,by simpa[Nat.blt_eq]using b1,b2⟩
 have hAB:=AB_lex (P:=P) h1 hlt hdst L (Array.replicate ops.size false) ⟨n,s,bx,ob⟩ (by simp) (by simp[hL]) (fun j o _ hj=>by
  rw[Array.getD_eq_getD_getElem?,Array.getElem?_replicate]at hj;split at hj<;>simp at hj) haf h4 h
 have hfin:=AB.sound hT (C:=C) (K:=K) (Q:=Q) hq L.length (Array.replicate ops.size false) _ M a _ hAB ⟨hi.1,hi.2.drew⟩;rw[hL]at hfin;exact hfin
theorem draw_wp{n:Nat}{s:Nat→PV}{bx:Nat→Option Box}{ob:Nat→Option Obj}(hT:T.Ok P)(hmix:P.follows .mixedOrders=true)(rb:RB)(L:List Nat){id:Nat}{ops:Array Oper}(hL:L.length=ops.size)
  (hok:drawOk rb ops L=true) (hal:(ops.toList.all fun o=>match o.op with| .alloc t=>(match o.dst with|some d=>Nat.blt d n&&(bx d).isNone&&(T.get t).isSome|none=>false)|_=>true)=true)
  {K:PState→Prop} (h:Do P Px T rb ops L ⟨n,s,bx,ob⟩ K) {C:Ctx} {M:Mem} {a:Act} {w:World} (hi:dM P C M ⟨n,s,bx,ob⟩ a w) {Q:PanQ P Px C C.ds} (hq:∀st M a w,K st→dM P C M st a w→Q.f .normal a w):(Code.region id ops true).wp P Q.f a w:=
 wp_region_any hmix (draw_any hT rb L hL hok hal h hi hq)
theorem de{fn:Func}{R:PV→Heap→Prop}{k:List KI}{n:Nat}{s:Nat→PV}{bx:Nat→Option Box}{ob:Nat→Option Obj}(hT:T.Ok P)(hmix:P.follows .mixedOrders=true)(rb:RB)(L:List Nat){id:Nat}{ops:Array Oper}(hL:L.length=ops.size)
  (hok:drawOk rb ops L=true) (hal:(ops.toList.all fun o=>match o.op with| .alloc t=>(match o.dst with|some d=>Nat.blt d n&&(bx d).isNone&&(T.get t).isSome|none=>false)|_=>true)=true)
  (h:Do P Px T rb ops L ⟨n,s,bx,ob⟩ fun st'=>V P Px fn R k st'):V P Px fn R (.code (.region id ops true)::k) ⟨n,s,bx,ob⟩:=fun C _ _ _ hi=>
 draw_wp (Q:=VQ P Px fn R k C) hT hmix rb L hL hok hal h hi fun _ M a w hV hi=>hV C M a w hi
end
end
end Go.Ab
