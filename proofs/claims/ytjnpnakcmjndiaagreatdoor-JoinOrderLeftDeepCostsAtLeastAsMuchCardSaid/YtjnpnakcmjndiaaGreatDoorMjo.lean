/- Closed evaluation, part A: relative values, a heap of own blocks, the evaluator. -/
import Derived.Test.YtjnpnakcmjndiaaGreatDoorMjb
import Derived.Test.YtjnpnakcmjndiaaGreatDoorMjd
import Derived.Below
namespace Go.Cx
open Go Go.Ab

inductive DV where
  | bad
  | v (x : Value)
  | s (l : List UInt8)
  | a (l : List DV)
  | t (l : List DV)
  | p (id off : Nat)
  | l (id off row len : Nat)
  | e (id off : Nat)
  | f (g : FuncId) (caps : List DV)
  | i (t : TypeId) (d : DV)

/-- A tree of slots: what lies at a number. -/
inductive Tr (α : Type) where
  | nil
  | node (l : Tr α) (v : Option α) (r : Tr α)

def Tr.get {α : Type} : Tr α → Nat → Option α
  | .nil, _ => none
  | .node l v r, k => bif Nat.beq k 0 then v else bif Nat.beq (k % 2) 1 then l.get (k / 2) else r.get (k / 2 - 1)

def Tr.set {α : Type} : Nat → Tr α → Nat → α → Tr α
  | 0, _, _, _ => .nil
  | n + 1, .nil, k, x => bif Nat.beq k 0 then .node .nil (some x) .nil else bif Nat.beq (k % 2) 1 then .node (Tr.set n .nil (k / 2) x) none .nil else .node .nil none (Tr.set n .nil (k / 2 - 1) x)
  | n + 1, .node l v r, k, x => bif Nat.beq k 0 then .node l (some x) r else bif Nat.beq (k % 2) 1 then .node (Tr.set n l (k / 2) x) v r else .node l v (Tr.set n r (k / 2 - 1) x)

/-- A block of the run's own: the type of its elements, how many cells a row has (0: it is no row of elements), how many rows there is room for, if that is known; what lies in its first cells. -/
structure Blk where
  e : TypeId
  sz : Nat
  cap : Option Nat
  wr : Bool
  cells : List DV

structure Hp where
  h : Tr (Option Blk)
  nx : Nat

def lookB (h : Tr (Option Blk)) (id : Nat) : Option Blk := match h.get id with
  | some b => b
  | none => none

/-- What stands in a slot that is not there. -/
def const1 : Value → DV
  | .string x => .s x.data.toList
  | x => .v x
def constD : Value → DV
  | .agg cs => .a (cs.toList.map const1)
  | x => const1 x

def evD (s : Tr DV) : Operand → DV
  | .tmp t => (s.get t).getD .bad
  | .const x => constD x
  | .global _ => .bad
  | .func g => .f g []

def DV.one : DV → Bool
  | .v x => x.oneCell'
  | .bad | .a _ | .t _ => false
  | _ => true

def cellsD : DV → Option (List DV)
  | .a l => bif l.all DV.one then some l else none
  | d => bif d.one then some [d] else none

def readD (ti : TInfo) (off : Nat) (cells : List DV) : Option DV :=
  bif isAggD ti.desc then (bif Nat.ble (off + ti.size) cells.length then some (.a ((cells.drop off).take ti.size)) else none)
  else cells[off]?

def spliceD (cells : List DV) (off : Nat) (new : List DV) : List DV := cells.take off ++ new ++ cells.drop (off + new.length)

def fillD (place : Nat → Option (Nat × Nat)) (cells : List DV) : List (Nat × DV) → Option (List DV)
  | [] => some cells
  | (i, p) :: r => match place i, cellsD p with
    | some (off, size), some cs => bif Nat.beq cs.length size && Nat.ble (off + size) cells.length then fillD place (spliceD cells off cs) r else none
    | _, _ => none

def zeroD (ti : TInfo) : List DV := ti.zero.cells.toList.map const1

def partsD (ev : Operand → DV) (ps : Array (Nat × Operand)) : List (Nat × DV) := ps.toList.map fun p => (p.1, ev p.2)

def buildD (T : TT) (t : TypeId) (parts : List (Nat × DV)) : Option DV :=
  match T.get t with
  | some ti => match ti.desc with
    | .struct fs => match places T fs.toList with
      | some l => (fillD (fun (i : Nat) => l[i]?) (zeroD ti) parts).map .a
      | none => none
    | _ => none
  | none => none

def scalarEqD : TypeDesc → DV → DV → Option Bool
  | .int _, .v (.int k a), .v (.int k' b) => bif decide (k = k') then some (a == b) else none
  | .bool, .v (.bool a), .v (.bool b) => some (a == b)
  | .string, .s a, .s b => some (a == b)
  | _, _, _ => none

def eqCellsD (T : TT) : List (Nat × Nat) → List DV → List DV → Option Bool
  | [], _, _ => some true
  | (t, off) :: r, xs, ys => match T.get t, xs[off]?, ys[off]? with
    | some ti, some p, some q => match scalarEqD ti.desc p q, eqCellsD T r xs ys with
      | some b, some c => some (b && c)
      | _, _ => none
    | _, _, _ => none

def binD (T : TT) (op : BinOp) (t : TypeId) (p q : DV) : Option DV :=
  match p, q with
  | .v (.int k a), .v (.int k' b) =>
    bif decide (k = k') then
      match op with
      | .add => some (.v (.int k (k.wrap (a + b))))
      | .sub => some (.v (.int k (k.wrap (a - b))))
      | .mul => some (.v (.int k (k.wrap (a * b))))
      | .quo => if b = 0 then none else some (.v (.int k (k.wrap (a.tdiv b))))
      | .rem => if b = 0 then none else some (.v (.int k (a.tmod b)))
      | op => (cmpInt op a b).map fun c => .v (.bool c)
    else none
  | .s a, .s b => match op with
    | .add => if a.length + b.length ≤ maxStr then some (.s (a ++ b)) else none
    | op => (cmpStr op a b).map fun c => .v (.bool c)
  | .v (.bool a), .v (.bool b) => match T.get t, op with
    | some ⟨.bool, _, _, _, _⟩, .eql => some (.v (.bool (a == b)))
    | some ⟨.bool, _, _, _, _⟩, .neq => some (.v (.bool (!(a == b))))
    | _, _ => none
  | .a xs, .a ys => match T.get t with
    | some ti => bif ti.eqf.isEmpty then none else
      match op with
      | .eql => (eqCellsD T ti.eqf xs ys).map fun c => .v (.bool c)
      | .neq => (eqCellsD T ti.eqf xs ys).map fun c => .v (.bool (!c))
      | _ => none
    | none => none
  | _, _ => none

/-- An error, or another value of an interface's type, held against nil. -/
def nilD (T : TT) (op : BinOp) (t : TypeId) (y : Operand) (p : DV) : Option DV :=
  match y, p with
  | .const .nilIface, .v .nilIface => match T.get t with
    | some ti => match ti.desc, op with
      | .interface _, .eql => some (.v (.bool true))
      | .interface _, .neq => some (.v (.bool false))
      | _, _ => none
    | none => none
  | .const (.slice none 0 0), p => match T.get t with
    | some ti => match ti.desc, op, p with
      | .slice _, .eql, .v (.slice none 0 0) => some (.v (.bool true))
      | .slice _, .eql, .l _ _ _ _ => some (.v (.bool false))
      | .slice _, .eql, .e _ _ => some (.v (.bool false))
      | _, _, _ => none
    | none => none
  | _, _ => none

def boundD (p : Option DV) (dflt : Nat) : Option Int :=
  match p with
  | none => some dflt
  | some (.v (.int _ n)) => some n
  | _ => none

def sliceD (T : TT) (d : TypeDesc) (p : DV) (lo hi : Option DV) : Option DV :=
  match d, p with
  | .string, .s l => match boundD lo 0, boundD hi l.length with
    | some a, some b => if 0 ≤ a ∧ a ≤ b ∧ b ≤ l.length then some (.s ((l.take b.toNat).drop a.toNat)) else none
    | _, _ => none
  | .slice e, .l id off row len => match boundD lo 0, boundD hi len, T.get e with
      | some a, some b, some ei => if 0 ≤ a ∧ a ≤ b ∧ b ≤ len ∧ (a < len ∨ a = 0) then some (.l id (off + a.toNat * ei.size) (row + a.toNat) (b.toNat - a.toNat)) else none
      | _, _, _ => none
  | _, _ => none

def isZ : Option Operand → Bool
  | some (.const (.int .i64 n)) => n == 0
  | _ => false

/-- The slice x[:0:0]. -/
def emptyD (T : TT) (d : TypeDesc) (p : DV) : Option DV :=
  match d with
  | .slice e => match T.get e, p with
    | some _, .l id off _ _ => some (.e id off)
    | some _, .e id off => some (.e id off)
    | some _, .v (.slice none 0 0) => some p
    | _, _ => none
  | _ => none

def offD : DV → Nat → Option DV
  | .p id off, n => some (.p id (off + n))
  | _, _ => none

def lenD : DV → Option Nat
  | .l _ _ _ n => some n
  | .e _ _ => some 0
  | .v (.slice none 0 0) => some 0
  | _ => none

def loadD (h : Tr (Option Blk)) (ti : TInfo) : DV → Option DV
  | .p id off => match lookB h id with
    | some b => readD ti off b.cells
    | none => none
  | _ => none

def noNilD : DV → Bool
  | .p _ _ | .f _ _ => true
  | _ => false

def callD (T : TT) (c : Call) (ev : Operand → DV) : Option DV :=
  match c.callee, c.args.toList, c.argTypes.toList with
  | .builtin .len, [x], t :: _ => match T.get t with
    | some ti => match ti.desc, ev x with
      | .string, .s l => some (.v (.int .i64 l.length))
      | .slice _, p => (lenD p).bind fun n => some (.v (.int .i64 n))
      | _, _ => none
    | none => none
  | .builtin .min, [x, y], _ => match ev x, ev y with
    | .v (.int k a), .v (.int _ b) => some (.v (.int k (if b < a then b else a)))
    | _, _ => none
  | .builtin .max, [x, y], _ => match ev x, ev y with
    | .v (.int k a), .v (.int _ b) => some (.v (.int k (if b > a then b else a)))
    | _, _ => none
  | _, _, _ => none

/-- The operations that leave the heap asQ it is. -/
def quietD (T : TT) (h : Tr (Option Blk)) (op : Op) (ev : Operand → DV) : Option DV :=
  match op with
  | .move x | .assign x => some (ev x)
  | .pick c a b => match ev c with
    | .v (.bool true) => some (ev a)
    | .v (.bool false) => some (ev b)
    | _ => none
  | .load t x => match T.get t with
    | some ti => loadD h ti (ev x)
    | none => none
  | .fieldAddr t x f => match T.get t with
    | some ti => match ti.desc with
      | .struct fs => match fs[f]? with
        | some fd => match T.get fd.type with
          | some fi => bif Nat.beq fi.size 0 then none else offD (ev x) fd.offset
          | none => none
        | none => none
      | _ => none
    | none => none
  | .field t x f => match T.get t with
    | some ti => match ti.desc with
      | .struct fs => match fs[f]? with
        | some fd => match T.get fd.type, ev x with
          | some fi, .a cells => readD fi fd.offset cells
          | _, _ => none
        | none => none
      | _ => none
    | none => none
  | .indexAddr t x i => match T.get t, ev x, ev i with
    | some ti, .l id off _ len, .v (.int _ n) => match ti.desc with
      | .slice e => match T.get e with
        | some ei => if 0 ≤ n ∧ n < len then some (.p id (off + n.toNat * ei.size)) else none
        | none => none
      | _ => none
    | some ti, .p id off, .v (.int _ n) => match ti.desc with
      | .array len e => match T.get e with
        | some ei => if 0 ≤ n ∧ n < len then some (.p id (off + n.toNat * ei.size)) else none
        | none => none
      | _ => none
    | _, _, _ => none
  | .index t x i => match T.get t, ev x, ev i with
    | some ti, .s l, .v (.int _ n) => match ti.desc with
      | .string => if 0 ≤ n then (l[n.toNat]?).map fun c => .v (.int .u8 c.toNat) else none
      | _ => none
    | _, _, _ => none
  | .binOp op t x y _ => match nilD T op t y (ev x) with
    | some r => some r
    | none => binD T op t (ev x) (ev y)
  | .unOp op _ x => match op, ev x with
    | .not, .v (.bool b) => some (.v (.bool (!b)))
    | .neg, .v (.int k n) => some (.v (.int k (k.wrap (0 - n))))
    | _, _ => none
  | .convert src dst x => match T.get src, T.get dst, ev x with
    | some _, some ti, .v (.int _ n) => match ti.desc with
      | .int k => some (.v (.int k (k.wrap n)))
      | _ => none
    | some _, some ti, .s l => match ti.desc with
      | .string => some (.s l)
      | _ => none
    | _, _, _ => none
  | .extract x i => match ev x with
    | .t vs => vs[i]?
    | _ => none
  | .build t ps => buildD T t (partsD ev ps)
  | .slice t x lo hi mx => match T.get t with
    | some ti => match mx with
      | none => sliceD T ti.desc (ev x) (lo.map ev) (hi.map ev)
      | some m => bif isZ lo && isZ hi && isZ (some m) then emptyD T ti.desc (ev x) else none
    | none => none
  | .makeFunc (.func f) first caps => bif first.isEmpty then some (.f f (caps.toList.map ev)) else none
  | .nilCheck x => bif noNilD (ev x) then some (ev x) else none
  | .call c => callD T c ev
  | _ => none

def repD (n : Nat) (l : List DV) : List DV := match n with
  | 0 => []
  | n + 1 => l ++ repD n l

def newD (H : Hp) (b : Blk) : Hp := ⟨H.h.set 24 H.nx (some b), H.nx + 1⟩

/-- The cells that an append takes of its second operand. -/
def srcD (h : Tr (Option Blk)) (size : Nat) : DV → Option (List DV)
  | .l id off _ len => match lookB h id with
    | some b => bif Nat.ble (off + len * size) b.cells.length then some ((b.cells.drop off).take (len * size)) else none
    | none => none
  | .v (.slice none 0 0) | .e _ _ => some []
  | _ => none

/-- An append to a slice: in its place where there is room for certain, else into a block of which it is not said whether it is new; the old one is given up. -/
def appendD (H : Hp) (e : TypeId) (size bytes : Nat) (x : DV) (new : List DV) (n : Nat) : Option (DV × Hp) :=
  bif Nat.beq n 0 then (match lenD x with | some _ => some (x, H) | none => none) else
  match x with
  | .v (.slice none 0 0) | .e _ _ => bif Nat.ble (n * bytes) 1000000 && Nat.ble n 1000000 then some (.l H.nx 0 0 n, newD H ⟨e, size, none, true, new⟩) else none
  | .l id off row len => match lookB H.h id with
    | some b =>
      bif b.wr && Nat.beq b.e e && Nat.beq b.sz size && Nat.beq off 0 && Nat.beq row 0 && Nat.beq b.cells.length (len * size) && Nat.ble ((len + n) * bytes) 1000000 && Nat.ble (len + n) 1000000 then
        some (.l H.nx 0 0 (len + n), newD ⟨H.h.set 24 id none, H.nx⟩ ⟨e, size, none, true, b.cells ++ new⟩)
      else none
    | none => none
  | _ => none

/-- A block that is new: its content comes of the operands alone. -/
def newBlk (T : TT) (op : Op) (ev : Operand → DV) (id : Nat) : Option (DV × Blk) :=
  match op with
  | .alloc t => match T.get t with
    | some ti => some (.p id 0, ⟨t, 0, none, true, zeroD ti⟩)
    | none => none
  | .box t x => match cellsD (ev x) with
    | some cs => some (.p id 0, ⟨t, 0, none, true, cs⟩)
    | none => none
  | .buildSlice t n ps => match T.get t with
    | some ti => match ti.desc with
      | .slice e => match T.get e with
        | some ei => bif Nat.ble (n * ei.bytes) 1000000 && Nat.blt 0 ei.size && Nat.ble (n * ei.size) 1000000 && Nat.beq ei.zero.cells.size ei.size then match fillD (fun i => some (i * ei.size, ei.size)) (repD n (zeroD ei)) (partsD ev ps) with
            | some cs => some (.l id 0 0 n, ⟨e, ei.size, some n, true, cs⟩)
            | none => none
          else none
        | none => none
      | _ => none
    | none => none
  | _ => none

/-- The operations that write memory. -/
def actD (T : TT) (H : Hp) (op : Op) (ev : Operand → DV) : Option (DV × Hp) :=
  match op with
  | .store t x y => match T.get t, ev x, cellsD (ev y) with
    | some ti, .p id off, some cs => match lookB H.h id with
      | some b => bif b.wr && Nat.beq cs.length ti.size && Nat.ble (off + ti.size) b.cells.length then some (.bad, ⟨H.h.set 24 id (some ⟨b.e, b.sz, b.cap, b.wr, spliceD b.cells off cs⟩), H.nx⟩) else none
      | none => none
    | _, _, _ => none
  | .convert src dst x => match T.get src, T.get dst, ev x with
    | some si, some ti, .s l => match si.desc, ti.desc with
      | .string, .slice e => match T.get e with
        | some ei => match ei.desc with
          | .int .u8 => bif Nat.beq ei.size 1 && Nat.ble l.length 1000000 then some (.l H.nx 0 0 l.length, newD H ⟨e, 1, none, false, l.map fun c => .v (.int .u8 c.toNat)⟩) else none
          | _ => none
        | none => none
      | _, _ => none
    | _, _, _ => none
  | .call ⟨.builtin .clear, asQ, ts⟩ => match asQ.toList, ts.toList with
    | [x], [t] => match T.get t, ev x with
      | some ti, .l id off _ n => match ti.desc, lookB H.h id with
        | .slice e, some b => match T.get e with
          | some ei => bif Nat.beq n 0 then some (.t [], H) else bif b.wr && (zeroD ei).all DV.one && Nat.beq ei.zero.cells.size ei.size && Nat.ble (off + n * ei.size) b.cells.length then
              some (.t [], ⟨H.h.set 24 id (some ⟨b.e, b.sz, b.cap, b.wr, spliceD b.cells off (repD n (zeroD ei))⟩), H.nx⟩) else none
          | none => none
        | _, _ => none
      | _, _ => none
    | _, _ => none
  | .call ⟨.builtin .append, asQ, ts⟩ => match asQ.toList, ts.toList with
    | [x, y], [t, t'] => bif Nat.beq t t' then match T.get t with
      | some ti => match ti.desc with
        | .slice e => match T.get e with
          | some ei => match srcD H.h ei.size (ev y), lenD (ev y) with
            | some new, some n => bif Nat.blt 0 ei.size && Nat.beq ei.zero.cells.size ei.size && new.all DV.one then appendD H e ei.size ei.bytes (ev x) new n else none
            | _, _ => none
          | none => none
        | _ => none
      | none => none
      else none
    | _, _ => none
  | _ => none

def loudD (T : TT) (H : Hp) (op : Op) (ev : Operand → DV) : Option (DV × Hp) :=
  match newBlk T op ev H.nx with
  | some (d, b) => some (d, newD H b)
  | none => actD T H op ev

def isLoud : Op → Bool
  | .alloc _ | .box _ _ | .store _ _ _ | .buildSlice _ _ _ | .makeSlice _ _ _ | .defer _ => true
  | .convert _ _ _ => true
  | .call ⟨.builtin .len, _, _⟩ | .call ⟨.builtin .min, _, _⟩ | .call ⟨.builtin .max, _, _⟩ => false
  | .call _ => true
  | _ => false

/-- What a step has come to. -/
structure St where
  n : Nat
  s : Tr DV
  H : Hp
  df : List (FuncId × List DV)

abbrev CallF := FuncId → List DV → Hp → Option (DV × Hp)

def oneD (T : TT) (call : CallF) (op : Op) (ev : Operand → DV) (H : Hp) : Option (DV × Hp) :=
  match quietD T H.h op ev with
  | some r => some (r, H)
  | none => match loudD T H op ev with
    | some x => some x
    | none => match op with
      | .call ⟨.value fx, asQ, _⟩ => match ev fx with
        | .f g caps => call g (asQ.toList.map ev ++ caps) H
        | _ => none
      | _ => none

def guardD (ops : Array Oper) (s : Tr DV) (o : Oper) : Option Bool :=
  match o.guard with
  | none => some true
  | some (j, want) => match (ops[j]?).bind (·.dst) with
    | some d => match s.get d with
      | some (.v (.bool b)) => some (b == want)
      | some (.t []) => some false
      | _ => none
    | none => none

def putS (n : Nat) (s : Tr DV) (dst : Option Tmp) (d : DV) : Option (Tr DV) := match dst with
  | none => some s
  | some k => bif Nat.blt k n then some (s.set 16 k d) else none

/-- A value, looked at down to its head: so that the kernel has it at hand. -/
def headD : DV → Bool
  | .v (.int _ n) => match n with
    | .ofNat k => Nat.beq k k
    | .negSucc k => Nat.beq k k
  | _ => true

def stepD (T : TT) (call : CallF) (ops : Array Oper) (o : Oper) (st : St) : Option St :=
  match guardD ops st.s o with
  | some true => match o.op with
    | .defer ⟨.value fx, asQ, _⟩ => bif asQ.isEmpty then (match evD st.s fx with
        | .f g caps => (putS st.n st.s o.dst (.t [])).map fun s => ⟨st.n, s, st.H, (g, caps) :: st.df⟩
        | _ => none) else none
    | op => match oneD T call op (evD st.s) st.H with
      | some (d, H) => bif headD d then (putS st.n st.s o.dst d).map fun s => ⟨st.n, s, H, st.df⟩ else none
      | none => none
  | some false => (putS st.n st.s o.dst (.t [])).map fun s => ⟨st.n, s, st.H, st.df⟩
  | none => none

def opsD (T : TT) (call : CallF) (ops : Array Oper) : List Oper → St → Option St
  | [], st => some st
  | o :: r, st => match stepD T call ops o st with
    | some st' => opsD T call ops r st'
    | none => none

inductive Ex where
  | nm | rt | ex (j : Nat)

def resD (T : TT) (st : St) : ResultVar → Option DV
  | .tmp t => match st.s.get t with
    | some .bad => none
    | x => x
  | .cell a t => match T.get t, st.s.get a with
    | some ti, some d => loadD st.H.h ti d
    | _, _ => none

def resAllD (T : TT) (st : St) : List ResultVar → Option (List DV)
  | [] => some []
  | r :: rs => match resD T st r, resAllD T st rs with
    | some d, some ds => some (d :: ds)
    | _, _ => none

def tupD : List DV → DV
  | [d] => d
  | ds => .t ds

def initT (l : List DV) : Tr DV := (l.foldl (fun (x : Tr DV × Nat) d => (x.1.set 16 x.2 d, x.2 + 1)) (.nil, 0)).1

end Go.Cx
/- Closed evaluation, part B: regions that draw their order, control, functions. -/
namespace Go.Cx
open Go Go.Ab

def eqVal : Value → Value → Bool
  | .int k a, .int k' b => decide (k = k') && (a == b)
  | .bool a, .bool b => a == b
  | .slice none n c, .slice none n' c' => Nat.beq n n' && Nat.beq c c'
  | .pointer none, .pointer none => true
  | .nilIface, .nilIface => true
  | .nilFunc, .nilFunc => true
  | _, _ => false

mutual
def eqV : DV → DV → Bool
  | .v x, .v y => eqVal x y
  | .s a, .s b => a == b
  | .a l, .a l' => eqVL l l'
  | .t l, .t l' => eqVL l l'
  | .p i o, .p i' o' => Nat.beq i i' && Nat.beq o o'
  | .l i o r n, .l i' o' r' n' => Nat.beq i i' && Nat.beq o o' && Nat.beq r r' && Nat.beq n n'
  | .e i o, .e i' o' => Nat.beq i i' && Nat.beq o o'
  | .f g l, .f g' l' => Nat.beq g g' && eqVL l l'
  | _, _ => false
def eqVL : List DV → List DV → Bool
  | [], [] => true
  | x :: xs, y :: ys => eqV x y && eqVL xs ys
  | _, _ => false
end

def isStore : Op → Bool
  | .store _ _ _ => true
  | _ => false

/-- A new block: it may be made early or late. -/
def isNewO (o : Oper) : Bool := match o.op with | .alloc _ | .box _ _ | .buildSlice _ _ _ => true | _ => false
/-- What looks at the heap and changes it. -/
def isActO (o : Oper) : Bool := isLoud o.op && !isNewO o

/-- A state on the way through a drawn region, and the new blocks (by the numbers of their steps) that no step has taken up yet. -/
structure DS where
  st : St
  pd : List (Nat × Blk)

def absorb (nx0 : Nat) (H : Hp) (l : List (Nat × Blk)) : Hp := l.foldl (fun H x => ⟨H.h.set 24 (nx0 + x.1) (some x.2), H.nx⟩) H

def stepR (T : TT) (call : CallF) (ops : Array Oper) (b : Array Nat) (nx0 i : Nat) (o : Oper) (ds : DS) : Option DS :=
  bif isNewO o then match guardD ops ds.st.s o with
    | some true => match newBlk T o.op (evD ds.st.s) (nx0 + i) with
      | some (d, k) => (putS ds.st.n ds.st.s o.dst d).map fun s => ⟨⟨ds.st.n, s, ds.st.H, ds.st.df⟩, ds.pd ++ [(i, k)]⟩
      | none => none
    | some false => (putS ds.st.n ds.st.s o.dst (.t [])).map fun s => ⟨⟨ds.st.n, s, ds.st.H, ds.st.df⟩, ds.pd⟩
    | none => none
  else bif isActO o then match stepD T call ops o ⟨ds.st.n, ds.st.s, absorb nx0 ds.st.H (ds.pd.filter fun x => (b.getD i 0).testBit x.1), ds.st.df⟩ with
    | some st' => some ⟨st', ds.pd.filter fun x => !(b.getD i 0).testBit x.1⟩
    | none => none
  else match guardD ops ds.st.s o with
    | some true => match quietD T ds.st.H.h o.op (evD ds.st.s) with
      | some d => bif headD d then (putS ds.st.n ds.st.s o.dst d).map fun s => ⟨⟨ds.st.n, s, ds.st.H, ds.st.df⟩, ds.pd⟩ else none
      | none => none
    | some false => (putS ds.st.n ds.st.s o.dst (.t [])).map fun s => ⟨⟨ds.st.n, s, ds.st.H, ds.st.df⟩, ds.pd⟩
    | none => none

def traceR (T : TT) (call : CallF) (ops : Array Oper) (b : Array Nat) (nx0 : Nat) : Nat → List Oper → DS → Option (List DS)
  | _, [], ds => some [ds]
  | i, o :: r, ds => match stepR T call ops b nx0 i o ds with
    | some ds' => match traceR T call ops b nx0 (i + 1) r ds' with
      | some l => some (ds :: l)
      | none => none
    | none => none

/-- Any two operations are ordered, or do not touch each other's slots. -/
def pairsOk (ops : Array Oper) (b : Array Nat) : Bool :=
  (List.range ops.size).all fun j => (List.range j).all fun i => (b.getD j 0).testBit i || match ops[i]?, ops[j]? with
    | some x, some y => x.apart ops y
    | _, _ => false

/-- The pairs of writing operations that are not ordered. -/
def unord (ops : Array Oper) (b : Array Nat) : List (Nat × Nat) :=
  (List.range ops.size).flatMap fun j => ((List.range j).filter fun i => !(b.getD j 0).testBit i && (match ops[i]?, ops[j]? with
    | some x, some y => isActO x && isActO y
    | _, _ => false)).map fun i => (i, j)

def edgesOk (ops : Array Oper) : Bool := (List.range ops.size).all fun j => match ops[j]? with
  | some o => o.after.all fun e => !Region.binds .any e || Nat.blt e.on j
  | none => true

def actAt (ops : Array Oper) (j : Nat) : Bool := match ops[j]? with | some y => isActO y | none => false

/-- The loads of a region, and behind how many steps each of them might be carried out (0, or just behind one that writes). -/
def loadsAt (ops : Array Oper) (b : Array Nat) : List (Nat × List Nat) :=
  (List.range ops.size).filterMap fun i => match ops[i]? with
    | some o => bif isLoad o.op then some (i, (0 :: (((List.range ops.size).filter (actAt ops)).map (· + 1))).filter fun k =>
        (List.range ops.size).all fun j => !actAt ops j || (bif Nat.blt j k then !(b.getD j 0).testBit i else !(b.getD i 0).testBit j)) else none
    | none => none

/-- Two stores at a region's end that are not ordered: all loads lie before both. -/
def pairAt (ops : Array Oper) (b : Array Nat) (i j : Nat) : Bool :=
  (List.range ops.size).all fun k => match ops[k]? with
    | some o => (!isActO o || Nat.blt k i || Nat.beq k i || Nat.beq k j) && (!(isNewO o || isLoad o.op) || ((b.getD i 0).testBit k && (b.getD j 0).testBit k)) &&
        (!(Nat.beq k i || Nat.beq k j) || (o.guard.isNone && isStore o.op))
    | none => true

def staticOk (ops : Array Oper) : Bool := masksOk ops (Region.before ops) && edgesOk ops && pairsOk ops (Region.before ops) && ops.all (fun o => match o.op with | .defer _ => false | _ => true)

def addrOf (o : Oper) (s : Tr DV) : Option Nat := match o.op with
  | .store _ x _ => match evD s x with
    | .p id _ => some id
    | _ => none
  | _ => none

/-- Two stores into different blocks: the one that stands behind comes first. -/
def swapD (T : TT) (ops : Array Oper) (tr : List DS) (i j : Nat) : Bool :=
  match ops[i]?, ops[j]?, tr[i]?, tr[j]? with
  | some x, some y, some di, some dj => match addrOf x di.st.s, addrOf y dj.st.s, actD T di.st.H y.op (evD dj.st.s) with
    | some a, some c, some (_, H3) => di.pd.isEmpty && !(Nat.beq a c) && Nat.blt a 1000000 && Nat.blt c 1000000 && (actD T H3 x.op (evD di.st.s)).isSome
    | _, _, _ => false
  | _, _, _, _ => false

def orderOk (T : TT) (ops : Array Oper) (tr : List DS) : Bool :=
  match unord ops (Region.before ops) with
  | [] => true
  | [(i, j)] => pairAt ops (Region.before ops) i j && swapD T ops tr i j
  | _ => false

/-- The load at i gives the same at each of these heaps. -/
def loadOk (T : TT) (ops : Array Oper) (tr : List DS) (i : Nat) (ks : List Nat) : Bool :=
  match ops[i]?, tr[i]? with
  | some o, some ds => match guardD ops ds.st.s o with
    | some true => match quietD T ds.st.H.h o.op (evD ds.st.s) with
      | some d => ks.all fun k => match tr[k]? with
        | some ds' => match quietD T ds'.st.H.h o.op (evD ds.st.s) with
          | some d' => eqV d d'
          | none => false
        | none => false
      | none => false
    | some false => true
    | none => false
  | _, _ => false

def drawD (T : TT) (call : CallF) (ops : Array Oper) (st : St) : Option St :=
  bif staticOk ops then
    match traceR T call ops (Region.before ops) st.H.nx 0 ops.toList ⟨⟨st.n, st.s, ⟨st.H.h, st.H.nx + ops.size⟩, st.df⟩, []⟩ with
    | some tr => bif (loadsAt ops (Region.before ops)).all (fun x => loadOk T ops tr x.1 x.2) && orderOk T ops tr then
        match tr[ops.size]? with
        | some ds => some ⟨ds.st.n, ds.st.s, absorb st.H.nx ds.st.H ds.pd, ds.st.df⟩
        | none => none
      else none
    | none => none
  else none

def callBy (P : Program) (T : TT) (D : FuncId → Bool) (run : Code → St → Option (Ex × St)) : CallF := fun g args H =>
  match P.funcs[g]? with
  | some fn => match fn.body with
    | some c => bif Nat.ble args.length fn.ntmps then
        match run c ⟨fn.ntmps, initT args, H, []⟩ with
        | some (.nm, st) | some (.rt, st) => bif st.df.all fun x => D x.1 then (resAllD T st fn.results.toList).map fun ds => (tupD ds, st.H) else none
        | _ => none
      else none
    | none => none
  | none => none

def runC (P : Program) (T : TT) (D : FuncId → Bool) : Nat → Code → St → Option (Ex × St)
  | 0, _, _ => none
  | n + 1, c, st => match c with
    | .skip => some (.nm, st)
    | .region _ ops false => (opsD T (callBy P T D (runC P T D n)) ops ops.toList st).map fun s => (.nm, s)
    | .region _ ops true => (drawD T (callBy P T D (runC P T D n)) ops st).map fun s => (.nm, s)
    | .seq x y => match runC P T D n x st with
      | some (.nm, st') => runC P T D n y st'
      | r => r
    | .cond c x y => match evD st.s c with
      | .v (.bool true) => runC P T D n x st
      | .v (.bool false) => runC P T D n y st
      | _ => none
    | .block id c => match runC P T D n c st with
      | some (.ex j, st') => bif Nat.beq j id then some (.nm, st') else some (.ex j, st')
      | r => r
    | .loop x => match runC P T D n x st with
      | some (.nm, st') => runC P T D n (.loop x) st'
      | r => r
    | .exit id => some (.ex id, st)
    | .ret => some (.rt, st)
    | _ => none

end Go.Cx
/- Closed evaluation, part C: what a relative value stands for; the heap of the run's own blocks, and how it is kept. -/
namespace Go.Cx
open Go Go.Ab
open Go.RowKit (Below)

abbrev Be := Nat → Option (Nat × Nat)
def Be.le (β β' : Be) : Prop := ∀ k x, β k = some x → β' k = some x
theorem Be.rfl' {β : Be} : β.le β := fun _ _ h => h
theorem Be.trans {β β' β'' : Be} (h : β.le β') (h' : β'.le β'') : β.le β'' := fun k x e => h' k x (h k x e)

/-- What is known of the numbers that are given out stays, and new numbers only are given. -/
structure Ext (β β' : Be) (nx nx' : Nat) : Prop where
  le : β.le β'
  old : ∀ id, id < nx → β' id = β id
  nx : nx ≤ nx'
theorem Ext.rfl' {β : Be} {n : Nat} : Ext β β n n := ⟨Be.rfl', fun _ _ => rfl, Nat.le_refl _⟩
theorem Ext.trans {β β' β'' : Be} {n n' n'' : Nat} (h : Ext β β' n n') (h' : Ext β' β'' n' n'') : Ext β β'' n n'' :=
  ⟨Be.trans h.le h'.le, fun id hid => (h'.old id (Nat.lt_of_lt_of_le hid h.nx)).trans (h.old id hid), Nat.le_trans h.nx h'.nx⟩

mutual
def R (β : Be) : DV → Value → Prop
  | .bad, _ => True
  | .v x, y => y = x
  | .s l, y => y = .string ⟨l.toArray⟩
  | .a ds, y => ∃ cs : Array Value, y = .agg cs ∧ RL β ds cs.toList
  | .t ds, y => ∃ cs : Array Value, y = .tuple cs ∧ RL β ds cs.toList
  | .p id off, y => ∃ b c, β id = some (b, c) ∧ y = .pointer (some ⟨b, off, none⟩)
  | .l id off row len, y => ∃ b c, β id = some (b, c) ∧ row + len ≤ c ∧ y = .slice (some ⟨b, off, none⟩) len (c - row)
  | .e id off, y => ∃ b c, β id = some (b, c) ∧ y = .slice (some ⟨b, off, none⟩) 0 0
  | .f g caps, y => ∃ cs : Array Value, y = .func (.func g) #[] cs ∧ RL β caps cs.toList
  | .i _ _, _ => False
def RL (β : Be) : List DV → List Value → Prop
  | [], vs => vs = []
  | d :: ds, vs => ∃ x xs, vs = x :: xs ∧ R β d x ∧ RL β ds xs
end

section
variable {β β' : Be}
mutual
theorem R.mono (h : β.le β') : ∀ {d : DV} {y : Value}, R β d y → R β' d y
  | .bad, _, _ => by simp only [R]
  | .v _, _, e => by simpa only [R] using e
  | .s _, _, e => by simpa only [R] using e
  | .a ds, _, e => by
    simp only [R] at e ⊢
    obtain ⟨cs, h1, h2⟩ := e
    exact ⟨cs, h1, RL.mono h h2⟩
  | .t ds, _, e => by
    simp only [R] at e ⊢
    obtain ⟨cs, h1, h2⟩ := e
    exact ⟨cs, h1, RL.mono h h2⟩
  | .p id off, _, e => by
    simp only [R] at e ⊢
    obtain ⟨b, c, h1, h2⟩ := e
    exact ⟨b, c, h _ _ h1, h2⟩
  | .l id off row len, _, e => by
    simp only [R] at e ⊢
    obtain ⟨b, c, h1, h2⟩ := e
    exact ⟨b, c, h _ _ h1, h2⟩
  | .e id off, _, e => by
    simp only [R] at e ⊢
    obtain ⟨b, c, h1, h2⟩ := e
    exact ⟨b, c, h _ _ h1, h2⟩
  | .f g caps, _, e => by
    simp only [R] at e ⊢
    obtain ⟨cs, h1, h2⟩ := e
    exact ⟨cs, h1, RL.mono h h2⟩
  | .i _ _, _, e => by simp only [R] at e
theorem RL.mono (h : β.le β') : ∀ {ds : List DV} {ys : List Value}, RL β ds ys → RL β' ds ys
  | [], _, e => by simpa only [RL] using e
  | d :: ds, _, e => by
    simp only [RL] at e ⊢
    obtain ⟨x, xs, h1, h2, h3⟩ := e
    exact ⟨x, xs, h1, R.mono h h2, RL.mono h h3⟩
end

theorem RL.length : ∀ {ps : List DV} {xs : List Value}, RL β ps xs → xs.length = ps.length
  | [], _, h => by simp only [RL] at h; simp [h]
  | p :: ps, _, h => by
    simp only [RL] at h
    obtain ⟨x, xs, rfl, _, h3⟩ := h
    simp [RL.length h3]

theorem RL.get : ∀ {ps : List DV} {xs : List Value}, RL β ps xs → ∀ (j : Nat) (p : DV), ps[j]? = some p → ∃ x, xs[j]? = some x ∧ R β p x
  | [], _, _, j, p, hp => by simp at hp
  | q :: ps, _, h, j, p, hp => by
    simp only [RL] at h
    obtain ⟨x, xs, rfl, h2, h3⟩ := h
    cases j with
    | zero => simp at hp; subst hp; exact ⟨x, rfl, h2⟩
    | succ j => simpa using RL.get h3 j p (by simpa using hp)

theorem RL.append : ∀ {ps qs : List DV} {xs ys : List Value}, RL β ps xs → RL β qs ys → RL β (ps ++ qs) (xs ++ ys)
  | [], _, _, _, h, h' => by simp only [RL] at h; subst h; simpa using h'
  | p :: ps, _, _, _, h, h' => by
    simp only [RL] at h
    obtain ⟨x, xs, rfl, h2, h3⟩ := h
    simp only [List.cons_append, RL]
    exact ⟨x, _, rfl, h2, RL.append h3 h'⟩

theorem RL.take : ∀ {ps : List DV} {xs : List Value} (n : Nat), RL β ps xs → RL β (ps.take n) (xs.take n)
  | [], _, n, h => by simp only [RL] at h; subst h; simp [RL]
  | p :: ps, _, 0, h => by simp [RL]
  | p :: ps, _, n + 1, h => by
    simp only [RL] at h
    obtain ⟨x, xs, rfl, h2, h3⟩ := h
    simp only [List.take_succ_cons, RL]
    exact ⟨x, _, rfl, h2, RL.take n h3⟩

theorem RL.drop : ∀ {ps : List DV} {xs : List Value} (n : Nat), RL β ps xs → RL β (ps.drop n) (xs.drop n)
  | [], _, n, h => by simp only [RL] at h; subst h; simp [RL]
  | p :: ps, _, 0, h => by simpa using h
  | p :: ps, _, n + 1, h => by
    simp only [RL] at h
    obtain ⟨x, xs, rfl, h2, h3⟩ := h
    simp only [List.drop_succ_cons]
    exact RL.drop n h3

theorem R.const1 (x : Value) : R β (const1 x) x := by
  cases x <;> simp [Cx.const1, R]

theorem consts_rep (l : List Value) : RL β (l.map Cx.const1) l := by
  induction l with
  | nil => simp [RL]
  | cons v l ih => simp only [List.map_cons, RL]; exact ⟨v, l, rfl, R.const1 v, ih⟩

theorem R.const (x : Value) : R β (constD x) x := by
  cases x
  case agg cs => simp only [constD, R]; exact ⟨cs, rfl, consts_rep cs.toList⟩
  all_goals (simp only [constD]; exact R.const1 _)

theorem R.oneCell {d : DV} {x : Value} (h1 : d.one = true) (h : R β d x) : x.oneCell' = true := by
  cases d with
  | bad => simp [DV.one] at h1
  | v y => simp only [R] at h; subst h; simpa [DV.one] using h1
  | s l => simp only [R] at h; rw [h]; rfl
  | a l => simp [DV.one] at h1
  | t l => simp [DV.one] at h1
  | p i o => simp only [R] at h; obtain ⟨b, c, _, rfl⟩ := h; rfl
  | l i o r n => simp only [R] at h; obtain ⟨b, c, _, _, rfl⟩ := h; rfl
  | e i o => simp only [R] at h; obtain ⟨b, c, _, rfl⟩ := h; rfl
  | f g cs => simp only [R] at h; obtain ⟨c, rfl, _⟩ := h; rfl
  | i t d => simp only [R] at h

theorem RL.oneCell : ∀ {ps : List DV} {xs : List Value}, ps.all DV.one = true → RL β ps xs → ∀ x ∈ xs, x.oneCell' = true
  | [], _, _, h => by simp only [RL] at h; subst h; simp
  | p :: ps, _, h1, h => by
    simp only [RL] at h
    obtain ⟨x, xs, rfl, h2, h3⟩ := h
    simp only [List.all_cons, Bool.and_eq_true] at h1
    intro y hy
    rcases List.mem_cons.1 hy with rfl | hy
    · exact R.oneCell h1.1 h2
    · exact RL.oneCell h1.2 h3 y hy

theorem cellsD_sound {d : DV} {x : Value} {cs : List DV} (h : cellsD d = some cs) (hr : R β d x) : RL β cs x.cells.toList ∧ ∀ y ∈ x.cells.toList, y.oneCell' = true := by
  have single : d.one = true → x.cells = #[x] ∧ x.oneCell' = true := by
    intro h1
    have := R.oneCell h1 hr
    refine ⟨?_, this⟩
    cases x <;> simp_all [Value.oneCell', Value.cells]
  cases d with
  | a l =>
    simp only [cellsD] at h
    cases ho : l.all DV.one with
    | false => simp [ho] at h
    | true =>
      simp only [ho, cond_true, Option.some.injEq] at h
      subst h
      simp only [R] at hr
      obtain ⟨c, rfl, hc⟩ := hr
      exact ⟨hc, RL.oneCell ho hc⟩
  | _ =>
    simp only [cellsD] at h
    cases ho : DV.one _ with
    | false => rw [ho] at h; simp at h
    | true =>
      rw [ho] at h
      simp only [cond_true, Option.some.injEq] at h
      subst h
      rw [(single ho).1]
      simp only [RL]
      exact ⟨⟨x, [], rfl, hr, rfl⟩, by simpa using (single ho).2⟩

theorem spliceD_rep {cells new : List DV} {cs ns : List Value} (hc : RL β cells cs) (hn : RL β new ns) (off : Nat) :
    RL β (spliceD cells off new) (cs.take off ++ ns ++ cs.drop (off + ns.length)) := by
  unfold spliceD
  rw [hn.length]
  exact ((hc.take off).append hn).append (hc.drop _)

theorem splice_len {cells new : List DV} {off : Nat} (h : off + new.length ≤ cells.length) : (spliceD cells off new).length = cells.length := by
  simp only [spliceD, List.length_append, List.length_take, List.length_drop]
  omega

theorem fillD_sound {place : Nat → Option (Nat × Nat)} : ∀ {parts : List (Nat × DV)} {vals : List (Nat × Value)} {cells out : List DV} {cs : Array Value},
    fillD place cells parts = some out → RL β cells cs.toList → parts.map (·.1) = vals.map (·.1) → RL β (parts.map (·.2)) (vals.map (·.2)) →
    ∃ cs', Instr.fill place cs vals = some cs' ∧ RL β out cs'.toList ∧ ((∀ x ∈ cs.toList, x.oneCell' = true) → ∀ x ∈ cs'.toList, x.oneCell' = true)
  | [], vals, cells, out, cs, h, hc, hi, hv => by
    simp only [fillD, Option.some.injEq] at h
    subst h
    have : vals = [] := by cases vals <;> simp_all
    subst this
    exact ⟨cs, rfl, hc, id⟩
  | (i, p) :: r, [], cells, out, cs, h, hc, hi, hv => by simp at hi
  | (i, p) :: r, (j, v) :: vs, cells, out, cs, h, hc, hi, hv => by
    simp only [List.map_cons, List.cons.injEq] at hi
    obtain ⟨rfl, hi⟩ := hi
    simp only [List.map_cons, RL] at hv
    obtain ⟨x, xs, hxe, hpx, hrest⟩ := hv
    simp only [List.cons.injEq] at hxe
    obtain ⟨rfl, rfl⟩ := hxe
    simp only [fillD] at h
    split at h
    · rename_i off size pc hpl hpc
      cases hb : (Nat.beq pc.length size && Nat.ble (off + size) cells.length) with
      | false => simp [hb] at h
      | true =>
        simp only [hb, cond_true] at h
        simp only [Bool.and_eq_true] at hb
        have h1 : pc.length = size := Nat.eq_of_beq_eq_true hb.1
        have h2 : off + size ≤ cells.length := Nat.le_of_ble_eq_true hb.2
        obtain ⟨hpcr, hpone⟩ := cellsD_sound hpc hpx
        have hvl : v.cells.size = size := by have := hpcr.length; simp at this; omega
        have hcl : cs.size = cells.length := by have := hc.length; simpa using this
        have hfold := foldl_set_eq off v.cells.toList 0 cs (by simp; omega)
        have hz : v.cells.zipIdx.foldl (fun cs (c, j) => cs.setIfInBounds (off + j) c) cs = (v.cells.toList.zipIdx 0).foldl (fun cs (c, j) => cs.setIfInBounds (off + j) c) cs := by
          rw [← Array.foldl_toList]
          simp
        have hrep : RL β (spliceD cells off pc) (v.cells.zipIdx.foldl (fun cs (c, j) => cs.setIfInBounds (off + j) c) cs).toList := by
          rw [hz, hfold]
          simpa using spliceD_rep hc hpcr off
        obtain ⟨cs', hf, ho, hone⟩ := fillD_sound h hrep hi hrest
        refine ⟨cs', ?_, ho, fun hall => hone ?_⟩
        · simp only [Instr.fill, hpl]
          rw [if_neg (by simp [hvl]; omega)]
          exact hf
        · rw [hz, hfold]
          intro y hy
          simp only [Nat.add_zero, List.mem_append] at hy
          rcases hy with (hy | hy) | hy
          · exact hall y (List.mem_of_mem_take hy)
          · exact hpone y hy
          · exact hall y (List.mem_of_mem_drop hy)
    · cases h

theorem partsD_rep {ev : Operand → DV} {ρ : Operand → Value} (ps : List (Nat × Operand)) (h : ∀ x ∈ ps.map (·.2), R β (ev x) (ρ x)) :
    (ps.map fun p => (p.1, ev p.2)).map (·.1) = (ps.map fun p => (p.1, ρ p.2)).map (·.1) ∧ RL β ((ps.map fun p => (p.1, ev p.2)).map (·.2)) ((ps.map fun p => (p.1, ρ p.2)).map (·.2)) := by
  induction ps with
  | nil => simp [RL]
  | cons p ps ih =>
    have ih' := ih fun x hx => h x (by simp only [List.map_cons, List.mem_cons]; exact .inr hx)
    refine ⟨by simp, ?_⟩
    simp only [List.map_cons, RL]
    exact ⟨_, _, rfl, h p.2 (by simp), ih'.2⟩

theorem buildD_sound {P : Program} {T : TT} (hT : T.Ok P) {ev : Operand → DV} {ρ : Operand → Value} (w : World) {t : TypeId} {ps : Array (Nat × Operand)} {r : DV}
    (h : buildD T t (partsD ev ps) = some r) (he : ∀ x ∈ ps.toList.map (·.2), R β (ev x) (ρ x)) :
    ∃ v, (Instr.build t (ps.map fun p => (p.1, ρ p.2))).run P w = .ok v w ∧ R β r v := by
  unfold buildD at h
  split at h
  · rename_i ti hti
    have hk := hT.get hti
    split at h
    · rename_i fs hfs
      split at h
      · rename_i l hl
        cases hf : fillD (fun (i : Nat) => l[i]?) (zeroD ti) (partsD ev ps) with
        | none => simp [hf] at h
        | some out =>
          simp only [hf, Option.map_some, Option.some.injEq] at h
          subst h
          obtain ⟨h1, h2⟩ := partsD_rep (β := β) ps.toList he
          have hu := hk.rund w
          rw [hfs] at hu
          obtain ⟨cs', hfill, hrep, _⟩ := fillD_sound (cs := ti.zero.cells) (vals := ps.toList.map fun (p : Nat × Operand) => (p.1, ρ p.2)) hf (consts_rep _) h1 h2
          refine ⟨.agg cs', ?_, by simp only [R]; exact ⟨cs', rfl, hrep⟩⟩
          have hpl : (fs.mapM fun f => (do pure (f.offset, ← sizeOf f.type) : Sem (Nat × Nat))).run P w = .ok l.toArray w := by
            rw [Array.mapM_eq_mapM_toList, Sem.run_map, places_run hT w hl]
            rfl
          have hgl : (fun (i : Nat) => l.toArray[i]?) = fun (i : Nat) => l[i]? := by funext i; simp
          simp only [Instr.build, Sem.run_bind, hk.rzero w, Result.andThen_ok, hu, hpl, Array.toList_map]
          have e3 : Instr.fill (fun (i : Nat) => l.toArray[i]?) ti.zero.cells (ps.toList.map fun p => (p.1, ρ p.2)) = some cs' := by rw [hgl]; exact hfill
          rw [e3]
          rfl
      · cases h
    · cases h
  · cases h
end

/-! Trees. -/
theorem Tr.get_set {α : Type} : ∀ (n : Nat) (t : Tr α) (k : Nat) (x : α) (j : Nat), (Tr.set n t k x).get j = none ∨ (j = k ∧ (Tr.set n t k x).get j = some x) ∨ (j ≠ k ∧ (Tr.set n t k x).get j = t.get j)
  | 0, _, _, _, _ => .inl rfl
  | n + 1, t, k, x, j => by
    have key : ∀ (l : Tr α) (v : Option α) (r : Tr α), t.get j = (Tr.node l v r).get j → Tr.set (n + 1) t k x = (bif Nat.beq k 0 then .node l (some x) r else bif Nat.beq (k % 2) 1 then .node (Tr.set n l (k / 2) x) v r else .node l v (Tr.set n r (k / 2 - 1) x)) →
        (Tr.set (n + 1) t k x).get j = none ∨ (j = k ∧ (Tr.set (n + 1) t k x).get j = some x) ∨ (j ≠ k ∧ (Tr.set (n + 1) t k x).get j = t.get j) := by
      intro l v r ht hs
      rw [hs, ht]
      cases h0 : Nat.beq k 0 with
      | true =>
        have hk := Nat.eq_of_beq_eq_true h0
        simp only [cond_true, Tr.get]
        cases g0 : Nat.beq j 0 with
        | true =>
          have hj := Nat.eq_of_beq_eq_true g0
          exact .inr (.inl ⟨by omega, rfl⟩)
        | false =>
          have hj := Nat.ne_of_beq_eq_false g0
          exact .inr (.inr ⟨by omega, rfl⟩)
      | false =>
        have hk := Nat.ne_of_beq_eq_false h0
        cases h1 : Nat.beq (k % 2) 1 with
        | true =>
          have hk1 := Nat.eq_of_beq_eq_true h1
          simp only [cond_false, cond_true, Tr.get]
          cases g0 : Nat.beq j 0 with
          | true =>
            have hj := Nat.eq_of_beq_eq_true g0
            exact .inr (.inr ⟨by omega, rfl⟩)
          | false =>
            have hj := Nat.ne_of_beq_eq_false g0
            cases g1 : Nat.beq (j % 2) 1 with
            | true =>
              have hj1 := Nat.eq_of_beq_eq_true g1
              simp only [cond_false, cond_true]
              rcases Tr.get_set n l (k / 2) x (j / 2) with h | ⟨h, e⟩ | ⟨h, e⟩
              · exact .inl h
              · exact .inr (.inl ⟨by omega, e⟩)
              · exact .inr (.inr ⟨by omega, e⟩)
            | false =>
              have hj1 := Nat.ne_of_beq_eq_false g1
              simp only [cond_false]
              exact .inr (.inr ⟨fun e => hj1 (e ▸ hk1), trivial⟩)
        | false =>
          have hk1 := Nat.ne_of_beq_eq_false h1
          simp only [cond_false, Tr.get]
          cases g0 : Nat.beq j 0 with
          | true =>
            have hj := Nat.eq_of_beq_eq_true g0
            exact .inr (.inr ⟨by omega, rfl⟩)
          | false =>
            have hj := Nat.ne_of_beq_eq_false g0
            cases g1 : Nat.beq (j % 2) 1 with
            | true =>
              have hj1 := Nat.eq_of_beq_eq_true g1
              simp only [cond_false, cond_true]
              exact .inr (.inr ⟨fun e => hk1 (e ▸ hj1), trivial⟩)
            | false =>
              have hj1 := Nat.ne_of_beq_eq_false g1
              simp only [cond_false]
              rcases Tr.get_set n r (k / 2 - 1) x (j / 2 - 1) with h | ⟨h, e⟩ | ⟨h, e⟩
              · exact .inl h
              · exact .inr (.inl ⟨by omega, e⟩)
              · exact .inr (.inr ⟨by omega, e⟩)
    cases t with
    | nil =>
      refine key .nil none .nil ?_ rfl
      simp only [Tr.get]
      cases Nat.beq j 0 <;> cases Nat.beq (j % 2) 1 <;> rfl
    | node l v r => exact key l v r rfl rfl

theorem look_set {h : Tr (Option Blk)} {id : Nat} {x : Option Blk} {j : Nat} {k : Blk} (e : lookB (h.set 24 id x) j = some k) : (j = id ∧ x = some k) ∨ (j ≠ id ∧ lookB h j = some k) := by
  unfold lookB at e ⊢
  rcases Tr.get_set 24 h id x j with hn | ⟨rfl, hs⟩ | ⟨hne, hs⟩
  · rw [hn] at e; cases e
  · rw [hs] at e; exact .inl ⟨rfl, e⟩
  · rw [hs] at e; exact .inr ⟨hne, e⟩

/-- How deep a tree is. -/
def Tr.fits {α : Type} : Nat → Tr α → Prop
  | _, .nil => True
  | 0, .node _ _ _ => False
  | n + 1, .node l _ r => l.fits n ∧ r.fits n

theorem Tr.set_fits {α : Type} : ∀ (n : Nat) (t : Tr α) (k : Nat) (x : α), t.fits n → (Tr.set n t k x).fits n
  | 0, _, _, _, _ => by simp [Tr.set, Tr.fits]
  | n + 1, .nil, k, x, _ => by
    simp only [Tr.set]
    cases Nat.beq k 0 <;> cases Nat.beq (k % 2) 1 <;> simp only [cond_true, cond_false, Tr.fits] <;>
      first | exact ⟨trivial, trivial⟩ | exact ⟨Tr.set_fits n .nil _ x (by simp [Tr.fits]), trivial⟩ | exact ⟨trivial, Tr.set_fits n .nil _ x (by simp [Tr.fits])⟩ | (cases n <;> simp [Tr.fits])
  | n + 1, .node l v r, k, x, h => by
    simp only [Tr.fits] at h
    simp only [Tr.set]
    cases Nat.beq k 0 <;> cases Nat.beq (k % 2) 1 <;> simp only [cond_true, cond_false, Tr.fits] <;>
      first | exact h | exact ⟨Tr.set_fits n l _ x h.1, h.2⟩ | exact ⟨h.1, Tr.set_fits n r _ x h.2⟩

/-- What is set is there. -/
theorem Tr.get_same {α : Type} : ∀ (n : Nat) (t : Tr α) (k : Nat) (x : α), k + 1 < 2 ^ n → (Tr.set n t k x).get k = some x
  | 0, _, k, _, h => by simp at h
  | n + 1, t, k, x, h => by
    have key : ∀ (l : Tr α) (v : Option α) (r : Tr α), ((bif Nat.beq k 0 then Tr.node l (some x) r else bif Nat.beq (k % 2) 1 then .node (Tr.set n l (k / 2) x) v r else .node l v (Tr.set n r (k / 2 - 1) x)) : Tr α).get k = some x := by
      intro l v r
      have hp : 2 ^ (n + 1) = 2 * 2 ^ n := by rw [Nat.pow_succ]; omega
      cases h0 : Nat.beq k 0 with
      | true => simp [Tr.get, h0]
      | false =>
        have hk := Nat.ne_of_beq_eq_false h0
        cases h1 : Nat.beq (k % 2) 1 with
        | true =>
          have hk1 := Nat.eq_of_beq_eq_true h1
          simp only [cond_false, cond_true, Tr.get, h0, h1]
          exact Tr.get_same n l (k / 2) x (by omega)
        | false =>
          have := Nat.ne_of_beq_eq_false h1
          simp only [cond_false, Tr.get, h0, h1]
          exact Tr.get_same n r (k / 2 - 1) x (by omega)
    cases t with
    | nil => exact key .nil none .nil
    | node l v r => exact key l v r

/-- What is not set stays. -/
theorem Tr.get_other {α : Type} : ∀ (n : Nat) (t : Tr α) (k : Nat) (x : α) (j : Nat), t.fits n → j ≠ k → (k + 1 < 2 ^ n) → (Tr.set n t k x).get j = t.get j
  | 0, _, k, _, _, _, _, h => by simp at h
  | n + 1, t, k, x, j, hf, hj, h => by
    have hp : 2 ^ (n + 1) = 2 * 2 ^ n := by rw [Nat.pow_succ]; omega
    have key : ∀ (l : Tr α) (v : Option α) (r : Tr α), l.fits n → r.fits n → ((bif Nat.beq k 0 then Tr.node l (some x) r else bif Nat.beq (k % 2) 1 then .node (Tr.set n l (k / 2) x) v r else .node l v (Tr.set n r (k / 2 - 1) x)) : Tr α).get j = (Tr.node l v r).get j := by
      intro l v r hl hr
      cases h0 : Nat.beq k 0 with
      | true =>
        have hk := Nat.eq_of_beq_eq_true h0
        have g0 : Nat.beq j 0 = false := by cases g : Nat.beq j 0 with | false => rfl | true => exact absurd (Nat.eq_of_beq_eq_true g) (by omega)
        simp [Tr.get, g0]
      | false =>
        have hk := Nat.ne_of_beq_eq_false h0
        cases h1 : Nat.beq (k % 2) 1 with
        | true =>
          have hk1 := Nat.eq_of_beq_eq_true h1
          simp only [cond_false, cond_true, Tr.get]
          cases g0 : Nat.beq j 0 with
          | true => rfl
          | false =>
            cases g1 : Nat.beq (j % 2) 1 with
            | true =>
              have hj1 := Nat.eq_of_beq_eq_true g1
              simp only [cond_false, cond_true]
              exact Tr.get_other n l (k / 2) x (j / 2) hl (by omega) (by omega)
            | false => rfl
        | false =>
          have hk1 := Nat.ne_of_beq_eq_false h1
          simp only [cond_false, Tr.get]
          cases g0 : Nat.beq j 0 with
          | true => rfl
          | false =>
            have hj0 := Nat.ne_of_beq_eq_false g0
            cases g1 : Nat.beq (j % 2) 1 with
            | true => rfl
            | false =>
              have hj1 := Nat.ne_of_beq_eq_false g1
              simp only [cond_false]
              exact Tr.get_other n r (k / 2 - 1) x (j / 2 - 1) hr (by omega) (by omega)
    cases t with
    | nil =>
      have e := key .nil none .nil (by cases n <;> simp [Tr.fits]) (by cases n <;> simp [Tr.fits])
      have e2 : (Tr.node .nil none .nil : Tr α).get j = (Tr.nil : Tr α).get j := by
        simp only [Tr.get]
        cases Nat.beq j 0 <;> cases Nat.beq (j % 2) 1 <;> rfl
      exact e.trans e2
    | node l v r =>
      simp only [Tr.fits] at hf
      exact key l v r hf.1 hf.2

/-! The world. -/
def BOk (β : Be) (w : World) (id : Nat) (k : Blk) : Prop :=
  ∃ b c arr fz, β id = some (b, c) ∧ w.heap[b]? = some (.cells arr k.e fz) ∧ (k.wr = true → fz = (0, 0)) ∧ k.cells.length ≤ arr.size ∧ RL β k.cells (arr.toList.take k.cells.length) ∧
    (∀ m, k.cap = some m → c = m) ∧ (k.sz ≠ 0 → arr.size = c * k.sz)

/-- W0: the world that the run began with. B: blocks that are not the run's to touch now. -/
structure WR (W0 : World) (B : Nat → Option Go.Obj) (β : Be) (H : Hp) (w : World) : Prop where
  os : w.os = W0.os
  tape : w.tape = W0.tape
  output : w.output = W0.output
  size : W0.heap.size ≤ w.heap.size
  prot : ∀ b o, B b = some o → w.heap[b]? = some o
  dom : ∀ id b c, β id = some (b, c) → id < H.nx ∧ b < w.heap.size
  blk : ∀ id k, lookB H.h id = some k → BOk β w id k
  own : ∀ id k b c, lookB H.h id = some k → β id = some (b, c) → B b = none
  inj : ∀ id id' k k' b c c', lookB H.h id = some k → lookB H.h id' = some k' → β id = some (b, c) → β id' = some (b, c') → id = id'
  fit : H.h.fits 24

/-- Nothing but one block is other than it was. -/
structure Fr (w w' : World) (b : Nat) : Prop where
  os : w'.os = w.os
  tape : w'.tape = w.tape
  output : w'.output = w.output
  size : w.heap.size ≤ w'.heap.size
  other : ∀ b', b' ≠ b → b' < w.heap.size → w'.heap[b']? = w.heap[b']?

theorem Fr.setRow (w : World) (b : Nat) (arr : Array Value) : Fr w (w.setRow b arr) b :=
  ⟨rfl, rfl, rfl, by simp, fun b' h _ => setRow_other w b b' _ h⟩

theorem Fr.alloc (w : World) (hd : World) (hdw : hd = w ∨ hd = w.drew) (o : Go.Obj) : Fr w (hd.alloc o) w.heap.size := by
  have e1 : hd.heap = w.heap := by rcases hdw with rfl | rfl <;> rfl
  have hsz : hd.heap.size = w.heap.size := by rw [e1]
  refine ⟨by rcases hdw with rfl | rfl <;> rfl, by rcases hdw with rfl | rfl <;> rfl, by rcases hdw with rfl | rfl <;> rfl, ?_, fun b' _ hb' => ?_⟩
  · rw [size_alloc, hsz]; omega
  · rw [heap_alloc_old hd _ (by rw [hsz]; exact hb'), e1]

def updB (β : Be) (k : Nat) (x : Nat × Nat) : Be := fun j => if j = k then some x else β j

section
variable {W0 : World} {B : Nat → Option Go.Obj} {β : Be} {H : Hp} {w : World}

theorem WR.drew (hw : WR W0 B β H w) : WR W0 B β H w.drew :=
  ⟨hw.os, hw.tape, hw.output, hw.size, hw.prot, hw.dom, hw.blk, hw.own, hw.inj, hw.fit⟩

theorem WR.fresh (hw : WR W0 B β H w) : B w.heap.size = none := by
  cases h : B w.heap.size with
  | none => rfl
  | some o =>
    have := (Array.getElem?_eq_some_iff.1 (hw.prot _ _ h)).1
    exact absurd this (Nat.lt_irrefl _)

theorem le_upd {id : Nat} (hid : β id = none) (x : Nat × Nat) : β.le (updB β id x) := by
  intro j y hj
  simp only [updB]
  by_cases e : j = id
  · subst e; rw [hid] at hj; cases hj
  · rw [if_neg e]; exact hj

theorem ext_upd {id : Nat} (hid : β id = none) (x : Nat × Nat) : Ext β (updB β id x) id (id + 1) :=
  ⟨le_upd hid x, fun j hj => by simp only [updB]; rw [if_neg (by omega)], Nat.le_succ _⟩

theorem WR.nx_none (hw : WR W0 B β H w) : β H.nx = none := by
  cases h : β H.nx with
  | none => rfl
  | some x => exact absurd (hw.dom _ x.1 x.2 h).1 (Nat.lt_irrefl _)

/-- A block of the run's own gets a number; it is not one that bears a number now. -/
theorem WR.put (hw : WR W0 B β H w) {w' : World} {b c id nx : Nat} {arr : Array Value} {fz : Nat × Nat} {k : Blk} (hid : β id = none) (hnx : H.nx ≤ nx) (hlt : id < nx) (hlook : ∀ k, lookB H.h id ≠ some k) (hB : B b = none) (hfree : ∀ j k c, lookB H.h j = some k → β j ≠ some (b, c))
    (hf : Fr w w' b) (hnew : w'.heap[b]? = some (.cells arr k.e fz))
    (hfz : k.wr = true → fz = (0, 0)) (hlen : k.cells.length ≤ arr.size) (hr : RL β k.cells (arr.toList.take k.cells.length)) (hc : ∀ m, k.cap = some m → c = m) (hs : k.sz ≠ 0 → arr.size = c * k.sz) :
    WR W0 B (updB β id (b, c)) ⟨H.h.set 24 id (some k), nx⟩ w' := by
  have hle := le_upd hid (b, c)
  have hbl : b < w'.heap.size := (Array.getElem?_eq_some_iff.1 hnew).1
  have same : ∀ j b' c', j ≠ id → updB β id (b, c) j = some (b', c') → β j = some (b', c') := by
    intro j b' c' hj h
    simpa only [updB, if_neg hj] using h
  have new : ∀ b' c', updB β id (b, c) id = some (b', c') → b' = b ∧ c' = c := by
    intro b' c' h
    simp only [updB, if_true, Option.some.injEq, Prod.mk.injEq] at h
    exact ⟨h.1.symm, h.2.symm⟩
  refine ⟨hf.os.trans hw.os, hf.tape.trans hw.tape, hf.output.trans hw.output, Nat.le_trans hw.size hf.size, ?_, ?_, ?_, ?_, ?_, Tr.set_fits _ _ _ _ hw.fit⟩
  · intro b' o hb'
    have h1 := hw.prot b' o hb'
    rw [hf.other b' (fun e => by rw [e, hB] at hb'; cases hb') (Array.getElem?_eq_some_iff.1 h1).1]
    exact h1
  · intro j b' c' hj
    show j < nx ∧ _
    by_cases e : j = id
    · subst e
      obtain ⟨rfl, rfl⟩ := new _ _ hj
      exact ⟨hlt, hbl⟩
    · obtain ⟨h1, h2⟩ := hw.dom j b' c' (same j b' c' e hj)
      exact ⟨by omega, Nat.lt_of_lt_of_le h2 hf.size⟩
  · intro j k' hj
    rcases look_set hj with ⟨rfl, e⟩ | ⟨hne, e⟩
    · cases e
      exact ⟨b, c, arr, fz, by simp [updB], hnew, hfz, hlen, hr.mono hle, hc, hs⟩
    · obtain ⟨b', c', arr', fz', h1, h2, h3, h4, h5, h6, h7⟩ := hw.blk j k' e
      have hb' : b' ≠ b := fun eb => hfree j k' c' e (by rw [h1, eb])
      exact ⟨b', c', arr', fz', hle _ _ h1, (hf.other b' hb' (hw.dom j b' c' h1).2).trans h2, h3, h4, h5.mono hle, h6, h7⟩
  · intro j k' b' c' hj h1
    rcases look_set hj with ⟨e, _⟩ | ⟨e, hk⟩
    · rw [e] at h1
      obtain ⟨rfl, _⟩ := new _ _ h1
      exact hB
    · exact hw.own j k' b' c' hk (same j _ _ e h1)
  · intro j j' k1 k2 b1 c1 c2 hj hj' h1 h2
    rcases look_set hj with ⟨e, _⟩ | ⟨e, hk⟩ <;> rcases look_set hj' with ⟨e', _⟩ | ⟨e', hk'⟩
    · rw [e, e']
    · rw [e] at h1
      obtain ⟨rfl, _⟩ := new _ _ h1
      exact absurd (same j' _ _ e' h2) (hfree j' k2 c2 hk')
    · rw [e'] at h2
      obtain ⟨rfl, _⟩ := new _ _ h2
      exact absurd (same j _ _ e h1) (hfree j k1 c1 hk)
    · exact hw.inj j j' k1 k2 b1 c1 c2 hk hk' (same j _ _ e h1) (same j' _ _ e' h2)

theorem WR.nlook (hw : WR W0 B β H w) {id : Nat} (hid : β id = none) : ∀ k, lookB H.h id ≠ some k := by
  intro k h
  obtain ⟨b, c, _, _, h1, _⟩ := hw.blk id k h
  rw [hid] at h1
  cases h1

/-- A block that is new. -/
theorem WR.new (hw : WR W0 B β H w) (hd : World) (hdw : hd = w ∨ hd = w.drew) {c : Nat} {arr : Array Value} {fz : Nat × Nat} {k : Blk} (hfz : k.wr = true → fz = (0, 0)) (hlen : k.cells.length ≤ arr.size)
    (hr : RL β k.cells (arr.toList.take k.cells.length)) (hc : ∀ m, k.cap = some m → c = m) (hs : k.sz ≠ 0 → arr.size = c * k.sz) :
    Ext β (updB β H.nx (w.heap.size, c)) H.nx (H.nx + 1) ∧ WR W0 B (updB β H.nx (w.heap.size, c)) (newD H k) (hd.alloc (.cells arr k.e fz)) := by
  refine ⟨ext_upd hw.nx_none _, hw.put hw.nx_none (Nat.le_succ _) (Nat.lt_succ_self _) (hw.nlook hw.nx_none) hw.fresh (fun j k c _ h => absurd (hw.dom j _ _ h).2 (Nat.lt_irrefl _)) (Fr.alloc w hd hdw _) ?_ hfz hlen hr hc hs⟩
  have e1 : hd.heap.size = w.heap.size := by rcases hdw with rfl | rfl <;> rfl
  rw [← e1]
  exact heap_alloc_new hd _

/-- A block is written. -/
theorem WR.write (hw : WR W0 B β H w) {id b c : Nat} {k : Blk} (hid : lookB H.h id = some k) (hβ : β id = some (b, c)) {arr : Array Value} {cells : List DV} (hcur : ∃ cur, w.heap[b]? = some (.cells cur k.e (0, 0)) ∧ cur.size = arr.size)
    (hlen : cells.length ≤ arr.size) (hr : RL β cells (arr.toList.take cells.length)) : WR W0 B β ⟨H.h.set 24 id (some ⟨k.e, k.sz, k.cap, k.wr, cells⟩), H.nx⟩ (w.setRow b arr) := by
  obtain ⟨cur, hcur, hsz⟩ := hcur
  have old : ∀ j k', lookB (H.h.set 24 id (some ⟨k.e, k.sz, k.cap, k.wr, cells⟩)) j = some k' → ∃ k'', lookB H.h j = some k'' := by
    intro j k' hj
    rcases look_set hj with ⟨rfl, e⟩ | ⟨_, e⟩
    · exact ⟨k, hid⟩
    · exact ⟨k', e⟩
  refine ⟨hw.os, hw.tape, hw.output, by simpa using hw.size, fun b' o hb' => ?_, fun j b' c' hj => ?_, fun j k' hj => ?_, fun j k' b' c' hj h1 => ?_, fun j j' k1 k2 b1 c1 c2 hj hj' h1 h2 => ?_, Tr.set_fits _ _ _ _ hw.fit⟩
  · have hne : b' ≠ b := fun e => by
      rw [e, hw.own id k b c hid hβ] at hb'
      cases hb'
    rw [setRow_other w b b' _ hne]
    exact hw.prot b' o hb'
  · simpa using hw.dom j b' c' hj
  · obtain ⟨b0, c0, arr0, fz0, g1, g2, g3, g4, g5, g6, g7⟩ := hw.blk id k hid
    rw [hβ] at g1
    cases g1
    rw [hcur] at g2
    cases g2
    rcases look_set hj with ⟨rfl, e⟩ | ⟨hne, e⟩
    · cases e
      exact ⟨b, c, arr, (0, 0), hβ, setRow_heap w b cur arr _ _ hcur, fun _ => rfl, hlen, hr, g6, fun h => by rw [← hsz]; exact g7 h⟩
    · obtain ⟨b', c', arr', fz', h1, h2, h3⟩ := hw.blk j k' e
      have hb' : b' ≠ b := fun eb => hne (hw.inj j id k' k b c' c e hid (by rw [h1, eb]) hβ)
      exact ⟨b', c', arr', fz', h1, (setRow_other w b b' _ hb').trans h2, h3⟩
  · obtain ⟨k'', hk''⟩ := old j k' hj
    exact hw.own j k'' b' c' hk'' h1
  · obtain ⟨k1', hk1⟩ := old j k1 hj
    obtain ⟨k2', hk2⟩ := old j' k2 hj'
    exact hw.inj j j' k1' k2' b1 c1 c2 hk1 hk2 h1 h2

/-- A heap that says no more. -/
theorem WR.less (hw : WR W0 B β H w) {H' : Hp} (hl : ∀ id k, lookB H'.h id = some k → lookB H.h id = some k) (hnx : H.nx ≤ H'.nx) (hf : H'.h.fits 24) : WR W0 B β H' w :=
  ⟨hw.os, hw.tape, hw.output, hw.size, hw.prot, fun id b c h => ⟨Nat.lt_of_lt_of_le (hw.dom id b c h).1 hnx, (hw.dom id b c h).2⟩, fun j k' hj => hw.blk j k' (hl _ _ hj), fun j k b c hj => hw.own j k b c (hl _ _ hj),
    fun j j' k1 k2 b1 c1 c2 hj hj' => hw.inj j j' k1 k2 b1 c1 c2 (hl _ _ hj) (hl _ _ hj'), hf⟩

theorem look_drop {h : Tr (Option Blk)} {id j : Nat} {k : Blk} (e : lookB (h.set 24 id none) j = some k) : j ≠ id ∧ lookB h j = some k := by
  rcases look_set e with ⟨_, e1⟩ | ⟨hne, e1⟩
  · cases e1
  · exact ⟨hne, e1⟩

/-- A block's number is given up. -/
theorem WR.drop (hw : WR W0 B β H w) (id : Nat) : WR W0 B β ⟨H.h.set 24 id none, H.nx⟩ w :=
  hw.less (fun _ _ h => (look_drop h).2) (Nat.le_refl _) (Tr.set_fits _ _ _ _ hw.fit)

/-- What lies in a block's cells. -/
theorem WR.cell (hw : WR W0 B β H w) {id b c : Nat} {k : Blk} (hid : lookB H.h id = some k) (hβ : β id = some (b, c)) :
    ∃ xs : List Value, RL β k.cells xs ∧ ∀ (j : Nat) (x : Value), xs[j]? = some x → w.cell? ⟨b, j, none⟩ = some x := by
  obtain ⟨b0, c0, arr, fz, g1, g2, g3, g4, g5, _⟩ := hw.blk id k hid
  rw [hβ] at g1
  cases g1
  refine ⟨_, g5, fun j x hj => ?_⟩
  rw [cell_of_row w b j arr k.e fz g2]
  rw [List.getElem?_take] at hj
  split at hj
  · simpa using hj
  · cases hj
end
end Go.Cx
