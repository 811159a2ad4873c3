/- Part 1 of the texts that the claim leans on: a judgement on the program over plain values, its soundness, and contracts of functions. -/
import Derived.Calls
import Derived.Laws.Sem
import Derived.Laws.Cells
import Derived.Laws.Entries
import Derived.Below
set_option linter.unusedVariables false
set_option linter.unusedSimpArgs false
set_option linter.unusedVariables false
namespace Go.Vm
open Go
inductive PV where
 | int (k : IntKind) (n : Int)
 | bool (b : Bool)
 | str (s : ByteArray)
 | flt (k : FloatKind) (bits : Nat)
 | nilsl
 | nilptr
 | nilmap
 | nilfn
 | nilif
 | sl (rows : List (List PV))
 deriving Inhabited
inductive SK where
 | exact
 | own (k pos n : Nat)
 deriving DecidableEq, Inhabited
inductive V where
 | p (x : PV)
 | sl (rows : List (List V)) (k : SK)
 | arr (id off len cap n : Nat)
 | ptr (id off : Nat)
 | ref (row : List V)
 | loc (t g off : Nat)
 | map (id : Nat)
 | fn (f : Fn) (caps : List V)
 | agg (cs : List V)
 | tup (vs : List V)
 | undef
 deriving Inhabited
inductive Ob where
 | cells (cs : List V)
 | map (es : List (PV × V × Nat)) (clock : Nat)
 | iter (m : Option Nat) (since : Nat) (seen : List Nat) (stepped : Nat)
 | dead
 deriving Inhabited
def Ob.live : Ob → Bool
 | .dead => false
 | _ => true
structure G where
 objs : List Ob
 toks : List Nat
 wo : Nat
 wt : Nat
 deriving Inhabited
structure St where
 nt : Nat
 tm : Nat → V
 rg : Nat → Option (Nat × List V)
 esc : Nat → Bool
 g : G
structure Env where
 P : Program
 glob : Nat → Option (List V)
 esc : FuncId → Nat → Bool
 prim : FuncId → List V → G → (V → G → Prop) → Prop
def upd {α : Type} (f : Nat → α) (t : Nat) (v : α) : Nat → α := fun x => if x = t then v else f x
def cst1 : Value → Option V
 | .int k n => some (.p (.int k n))
 | .bool b => some (.p (.bool b))
 | .string s => some (.p (.str s))
 | .float k b => some (.p (.flt k b))
 | .pointer none => some (.p .nilptr)
 | .map none => some (.p .nilmap)
 | .nilFunc => some (.p .nilfn)
 | .nilIface => some (.p .nilif)
 | .slice none 0 0 => some (.p .nilsl)
 | _ => none
def cstL : List Value → Option (List V)
 | [] => some []
 | v :: l => match cst1 v, cstL l with
  | some x, some xs => some (x :: xs)
  | _, _ => none
def cst : Value → Option V
 | .agg cs => (cstL cs.toList).map .agg
 | v => cst1 v
def cellsOf : V → List V
 | .agg cs => cs
 | v => [v]
def one : V → Bool
 | .agg _ | .tup _ | .undef | .loc .. | .ref _ => false
 | _ => true
section
variable (E : Env)
def St.ev (s : St) : Operand → Option V
 | .tmp t => some (s.tm t)
 | .const v => cst v
 | .global g => (E.glob g).map .ref
 | .func f => some (.fn (.func f) [])
def sz (t : TypeId) : Option Nat := (E.P.info? t).map (·.size)
def isag (t : TypeId) : Option Bool :=
 match E.P.underlying t with
 | some (.struct _) | some (.array _ _) => some true
 | some _ => some false
 | none => none
def elemOf (t : TypeId) : Option TypeId :=
 match E.P.underlying t with
 | some (.slice e) => some e
 | _ => none
def zeroOf (t : TypeId) : Option (List V) :=
 match E.P.info? t with
 | some i => match i.zero with
  | some v => cstL v.cells.toList
  | none => none
 | none => none
def zeroV (t : TypeId) : Option V :=
 match E.P.info? t with
 | some i => match i.zero with
  | some v => cst v
  | none => none
 | none => none
def mkv (ag : Bool) (cs : List V) : Option V :=
 if ag then some (.agg cs) else match cs with
  | [v] => some v
  | _ => none
def take? (cs : List V) (off n : Nat) : Option (List V) := if off + n ≤ cs.length then some ((cs.drop off).take n) else none
def St.loadCells (s : St) (a : V) (n : Nat) : Option (List V) :=
 match a with
 | .ref row => take? row 0 n
 | .loc t g off => match s.rg t with
  | some (g', cs) => if g = g' then take? cs off n else none
  | none => none
 | .ptr id off => match s.g.objs[id]? with
  | some (.cells cs) => take? cs off n
  | _ => none
 | _ => none
def St.loadV (s : St) (t : TypeId) (a : V) : Option V :=
 match isag E t with
 | some true => match sz E t with
  | some n => (s.loadCells a n).map .agg
  | none => none
 | some false => match s.loadCells a 1 with
  | some [v] => some v
  | _ => none
 | none => none
def put? (cs : List V) (off : Nat) (vs : List V) : Option (List V) :=
 if off + vs.length ≤ cs.length then some (cs.take off ++ vs ++ cs.drop (off + vs.length)) else none
def G.setObj (g : G) (id : Nat) (o : Ob) : G := { g with objs := g.objs.set id o, wo := min g.wo id }
def G.newObj (g : G) (o : Ob) : G := { g with objs := g.objs ++ [o] }
def St.storeCells (s : St) (a : V) (vs : List V) : Option St :=
 if vs.all one then
  match a with
  | .loc t g off => match s.rg t with
   | some (g', cs) => if g = g' then (put? cs off vs).map fun cs' => { s with rg := upd s.rg t (some (g, cs')) } else none
   | none => none
  | .ptr id off => match s.g.objs[id]? with
   | some (.cells cs) => (put? cs off vs).map fun cs' => { s with g := s.g.setObj id (.cells cs') }
   | _ => none
  | _ => none
 else none
def St.put (s : St) (dst : Option Tmp) (v : V) : Option St :=
 match dst with
 | some d => if d < s.nt then some { s with tm := upd s.tm d v } else none
 | none => some s
def St.newVar (s : St) (dst : Option Tmp) (cs : List V) : Option (V × St) :=
 match dst with
 | some d =>
  if cs.all one then
   if s.esc d then some (.ptr s.g.objs.length 0, { s with g := s.g.newObj (.cells cs) })
   else
    let g := match s.rg d with | some (g, _) => g + 1 | none => 0
    some (.loc d g 0, { s with rg := upd s.rg d (some (g, cs)) })
  else none
 | none => none
def fieldOf (t : TypeId) (f : Nat) : Option (Nat × Nat × Bool) :=
 match E.P.underlying t with
 | some (.struct fs) => match fs[f]? with
  | some x => match sz E x.type, isag E x.type with
   | some n, some ag => if n = 0 then none else some (x.offset, n, ag)
   | _, _ => none
  | none => none
 | _ => none
def addTo (a : V) (n : Nat) : Option V :=
 match a with
 | .ref row => if n ≤ row.length then some (.ref (row.drop n)) else none
 | .loc t g off => some (.loc t g (off + n))
 | .ptr id off => some (.ptr id (off + n))
 | _ => none
def fillIn (place : Nat → Option (Nat × Nat)) (cells : List V) : List (Nat × V) → Option (List V)
 | [] => some cells
 | (i, v) :: rest =>
  match place i with
  | none => none
  | some (off, n) =>
   let cs := cellsOf v
   if cs.length ≠ n then none else
   if cs.all one then
    match put? cells off cs with
    | some cells' => fillIn place cells' rest
    | none => none
   else none
def St.parts (s : St) : List (Nat × Operand) → Option (List (Nat × V))
 | [] => some []
 | (i, x) :: rest => match s.ev E x, s.parts rest with
  | some v, some vs => some ((i, v) :: vs)
  | _, _ => none
def chunks (n : Nat) : Nat → List V → List (List V)
 | 0, _ => []
 | k + 1, cs => cs.take n :: chunks n k (cs.drop n)
def bytesRows (s : ByteArray) : List (List V) := s.data.toList.map fun b => [.p (.int .u8 b.toNat)]
def St.rows (s : St) (n : Nat) : V → Option (List (List V))
 | .p .nilsl => some []
 | .p (.sl rows) => some (rows.map (·.map .p))
 | .p (.str b) => some (bytesRows b)
 | .sl rows _ => some rows
 | .arr id off len _ _ => match s.g.objs[id]? with
  | some (.cells cs) => (take? cs off (len * n)).map (chunks n len)
  | _ => none
 | _ => none
def lenOf (s : St) : TypeDesc → V → Option Nat
 | .slice _, .p .nilsl => some 0
 | .map _ _, .p .nilmap => some 0
 | .slice _, .p (.sl rows) => some rows.length
 | .string, .p (.str b) => some b.size
 | .slice _, .sl rows _ => some rows.length
 | .slice _, .arr _ _ len _ _ => some len
 | .map _ _, .map id => match s.g.objs[id]? with
  | some (.map es _) => some es.length
  | _ => none
 | _, _ => none
def rowOk (n : Nat) (r : List V) : Bool := r.length == n && r.all one
def St.big (s : St) : Option Tmp → Bool
 | some d => s.esc d
 | none => false
def St.append (s : St) (dst : Option Tmp) (elem : TypeId) (x y : V) : Option (V × St) :=
 match E.P.info? elem, zeroOf E elem with
 | some i, some z =>
  match s.rows i.size y with
  | some [] =>
   match x with
   | .p .nilsl | .p (.sl _) | .sl _ _ | .arr .. => some (x, s)
   | _ => none
  | some new =>
   if i.size = 0 ∨ i.bytes = 0 ∨ z.length ≠ i.size ∨ ¬ new.all (rowOk i.size) then none else
   match x with
   | .p .nilsl =>
    if new.length * i.bytes ≤ 2 ^ 47 then
     if s.big dst then
      if z.all one then some (.arr s.g.objs.length 0 new.length new.length i.size, { s with g := s.g.newObj (.cells new.flatten) }) else none
     else some (.sl new (.own s.g.toks.length new.length i.size), { s with g := { s.g with toks := s.g.toks ++ [new.length] } })
    else none
   | .sl rows .exact =>
    if (rows.length + new.length) * i.bytes ≤ 2 ^ 47 ∧ rows.all (rowOk i.size) then
     if s.big dst then
      if z.all one then some (.arr s.g.objs.length 0 (rows.length + new.length) (rows.length + new.length) i.size, { s with g := s.g.newObj (.cells (rows ++ new).flatten) }) else none
     else some (.sl (rows ++ new) (.own s.g.toks.length (rows.length + new.length) i.size), { s with g := { s.g with toks := s.g.toks ++ [rows.length + new.length] } })
    else none
   | .sl rows (.own k pos n) =>
    if (rows.length + new.length) * i.bytes ≤ 2 ^ 47 ∧ rows.all (rowOk i.size) ∧ s.g.toks[k]? = some pos ∧ n = i.size then
     some (.sl (rows ++ new) (.own k (pos + new.length) n), { s with g := { s.g with toks := s.g.toks.set k (pos + new.length), wt := min s.g.wt k } })
    else none
   | .arr id off len _ m => match s.g.objs[id]? with
    | some (.cells cs) =>
     if (len + new.length) * i.bytes ≤ 2 ^ 47 ∧ off = 0 ∧ m = i.size ∧ cs.length = len * m ∧ z.all one ∧ s.big dst = true then
      some (.arr s.g.objs.length 0 (len + new.length) (len + new.length) m, { s with g := (s.g.setObj id .dead).newObj (.cells (cs ++ new.flatten)) })
     else none
    | _ => none
   | _ => none
  | none => none
 | _, _ => none
def asNat (v : V) (most : Nat) : Option Nat :=
 match v with
 | .p (.int _ n) => if 0 ≤ n ∧ n ≤ most then some n.toNat else none
 | _ => none
def pvCells : List V → Option (List PV)
 | [] => some []
 | .p x :: l => (pvCells l).map (x :: ·)
 | _ => none
def pvRows : List (List V) → Option (List (List PV))
 | [] => some []
 | r :: l => match pvCells r, pvRows l with
  | some x, some xs => some (x :: xs)
  | _, _ => none
def headOk {α : Type} (n : Nat) : List (List α) → Bool
 | [] => true
 | r :: _ => r.length == n
def hiOf (hi : Option V) (most len : Nat) : Option Nat :=
 match hi with
 | some h => asNat h most
 | none => some len
def loOf (lo : Option V) (h : Nat) : Option Nat :=
 match lo with
 | some l => asNat l h
 | none => some 0
def St.slice (s : St) (t : TypeId) (x : V) (lo hi : Option V) : Option V :=
 match E.P.underlying t with
 | some .string => match x with
  | .p (.str b) => match hiOf hi b.size b.size with
   | some h => match loOf lo h with
    | some l => some (.p (.str (b.extract l h)))
    | none => none
   | none => none
  | _ => none
 | some (.slice e) => match sz E e with
  | some n => match x with
   | .p .nilsl => match hiOf hi 0 0 with
    | some h => match loOf lo h with
     | some _ => some (.p .nilsl)
     | none => none
    | none => none
   | .p (.sl rows) => match hiOf hi rows.length rows.length with
    | some h => match loOf lo h with
     | some l => if headOk n rows then some (.p (.sl ((rows.take h).drop l))) else none
     | none => none
    | none => none
   | .sl rows k => match hiOf hi rows.length rows.length with
    | some h => match loOf lo h with
     | some l =>
      if headOk n rows then
       if h = rows.length then
        match k with
        | .exact => some (.sl (rows.drop l) k)
        | .own _ _ m => if m = n then some (.sl (rows.drop l) k) else none
       else (pvRows ((rows.take h).drop l)).map fun r => .p (.sl r)
      else none
     | none => none
    | none => none
   | .arr id off len cap m => match hiOf hi cap len with
    | some h => match loOf lo h with
     | some l => if m = n then some (.arr id (off + l * n) (h - l) (cap - l) m) else none
     | none => none
    | none => none
   | _ => none
  | none => none
 | _ => none
def ibin (op : BinOp) (k : IntKind) (a b : Int) : Option PV :=
 match op with
 | .add => some (.int k (k.wrap (a + b)))
 | .sub => some (.int k (k.wrap (a - b)))
 | .mul => some (.int k (k.wrap (a * b)))
 | .quo => if b = 0 then none else some (.int k (k.wrap (a.tdiv b)))
 | .rem => if b = 0 then none else some (.int k (a.tmod b))
 | .and => some (.int k (k.wrap (BitVec.ofInt k.bits a &&& BitVec.ofInt k.bits b).toNat))
 | .or => some (.int k (k.wrap (BitVec.ofInt k.bits a ||| BitVec.ofInt k.bits b).toNat))
 | .xor => some (.int k (k.wrap (BitVec.ofInt k.bits a ^^^ BitVec.ofInt k.bits b).toNat))
 | .eql => some (.bool (a == b))
 | .neq => some (.bool (a != b))
 | .lss => some (.bool (a < b))
 | .leq => some (.bool (a ≤ b))
 | .gtr => some (.bool (a > b))
 | .geq => some (.bool (a ≥ b))
 | _ => none
def sbin (op : BinOp) (a b : ByteArray) : Option PV :=
 match op with
 | .add => if ((a.size + b.size : Nat) : Int) > IntKind.i64.max then none else some (.str (a ++ b))
 | .eql => some (.bool (a.toList == b.toList))
 | .neq => some (.bool (!(a.toList == b.toList)))
 | .lss => some (.bool (Op.bytesLess a.toList b.toList))
 | .leq => some (.bool (Op.bytesLess a.toList b.toList || a.toList == b.toList))
 | .gtr => some (.bool (!(Op.bytesLess a.toList b.toList || a.toList == b.toList)))
 | .geq => some (.bool (!(Op.bytesLess a.toList b.toList)))
 | _ => none
def shape : V → Option (Nat × Bool)
 | .p .nilsl => some (1, true)
 | .p (.sl _) => some (1, false)
 | .sl _ _ => some (1, false)
 | .arr _ _ _ _ _ => some (1, false)
 | .p .nilptr => some (2, true)
 | .ptr _ _ => some (2, false)
 | .p .nilmap => some (3, true)
 | .map _ => some (3, false)
 | .p .nilfn => some (4, true)
 | .fn _ _ => some (4, false)
 | _ => none
def shapeT : TypeDesc → Nat
 | .slice _ => 1
 | .pointer _ => 2
 | .map _ _ => 3
 | .func _ _ _ => 4
 | _ => 0
def bin (op : BinOp) (t : TypeId) (x y : V) : Option PV :=
 match x, y with
 | .p (.int k a), .p (.int k' b) =>
  match op with
  | .shl => if b < 0 then none else some (.int k (k.wrap (a * 2 ^ (min b.toNat k.bits))))
  | .shr => if b < 0 then none else some (.int k (a.fdiv (2 ^ (min b.toNat k.bits))))
  | _ => if k = k' then ibin op k a b else none
 | .p (.str a), .p (.str b) => sbin op a b
 | .p (.bool a), .p (.bool b) =>
  match E.P.underlying t with
  | some .bool => match op with
   | .eql => some (.bool (a == b))
   | .neq => some (.bool (!(a == b)))
   | _ => none
  | _ => none
 | x, y => match E.P.underlying t, shape x, shape y with
  | some d, some (k, a), some (k', b) => if k = k' ∧ k = shapeT d ∧ (a || b) = true then match op with
    | .eql => some (.bool (a && b))
    | .neq => some (.bool (!(a && b)))
    | _ => none
   else none
  | _, _, _ => none
def un (op : UnOp) (x : V) : Option PV :=
 match op, x with
 | .not, .p (.bool b) => some (.bool (!b))
 | .neg, .p (.int k n) => some (.int k (k.wrap (0 - n)))
 | _, _ => none
end
end Go.Vm
set_option linter.unusedVariables false
namespace Go.Vm
open Go
def keyEq : PV → PV → Bool
 | .int k a, .int k' b => k == k' && a == b
 | .str a, .str b => a == b
 | .bool a, .bool b => a == b
 | _, _ => false
def findKey (es : List (PV × V × Nat)) (k : PV) : Option V :=
 match es with
 | [] => none
 | e :: es => if keyEq k e.1 then some e.2.1 else findKey es k
def setKey (es : List (PV × V × Nat)) (k : PV) (v : V) : List (PV × V × Nat) :=
 match es with
 | [] => []
 | e :: es => if keyEq k e.1 then (k, v, e.2.2) :: es else e :: setKey es k v
def keyOk (d : TypeDesc) (k : PV) : Bool :=
 match d, k with
 | .int j, .int k' _ => j == k'
 | .string, .str _ => true
 | .bool, .bool _ => true
 | _, _ => false
def convT (src dst : TypeDesc) (x : V) : Option V :=
 match dst, x with
 | .int k, .p (.int _ n) => some (.p (.int k (k.wrap n)))
 | .string, .p (.str b) => match src with
  | .string => some x
  | _ => none
 | _, _ => none
def placesL (E : Env) : List Field → Option (List (Nat × Nat))
 | [] => some []
 | f :: l => match sz E f.type, placesL E l with
  | some n, some ps => some ((f.offset, n) :: ps)
  | _, _ => none
def bytesOf : List (List V) → Option (List UInt8)
 | [] => some []
 | [.p (.int .u8 n)] :: l => (bytesOf l).map (UInt8.ofNat n.toNat :: ·)
 | _ => none
def evL (E : Env) (s : St) : List Operand → Option (List V)
 | [] => some []
 | x :: l => match s.ev E x, evL E s l with
  | some v, some vs => some (v :: vs)
  | _, _ => none
def entriesOf (g : G) : V → Option (List (PV × V × Nat))
 | .p .nilmap => some []
 | .map id => match g.objs[id]? with
  | some (.map es _) => some es
  | _ => none
 | _ => none
def optEv (E : Env) (s : St) : Option Operand → Option (Option V)
 | none => some none
 | some x => (s.ev E x).map some
def maxL : V → List V → Option V
 | x, [] => some x
 | .p (.int k a), .p (.int _ b) :: l => maxL (.p (.int k (if b > a then b else a))) l
 | _, _ => none
def minL : V → List V → Option V
 | x, [] => some x
 | .p (.int k a), .p (.int _ b) :: l => minL (.p (.int k (if b < a then b else a))) l
 | _, _ => none
def entryOf (g : G) (it : V) : Option V :=
 match it with
 | .ptr id 0 => match g.objs[id]? with
  | some (.iter (some m) _ seen stepped) => match seen.getLast?, g.objs[m]? with
   | some b, some (.map es clock) => if clock = stepped then
     match es.find? (fun e => e.2.2 == b) with
     | some e => some (.tup [.p e.1, e.2.1])
     | none => none
    else none
   | _, _ => none
  | _ => none
 | _ => none
section
variable (E : Env)
def stepV (s : St) (o : Oper) : Option (V × St) :=
 match o.op with
 | .move x | .assign x => (s.ev E x).map (·, s)
 | .pick c a b => match s.ev E c with
  | some (.p (.bool t)) => (s.ev E (if t then a else b)).map (·, s)
  | _ => none
 | .alloc t => match zeroOf E t with
  | some cs => s.newVar o.dst cs
  | none => none
 | .box _ x => match s.ev E x with
  | some v => s.newVar o.dst (cellsOf v)
  | none => none
 | .build t parts =>
  match E.P.underlying t, zeroOf E t, s.parts E parts.toList with
  | some (.struct fs), some z, some ps => match placesL E fs.toList with
   | some pl => (fillIn (pl[·]?) z ps).map fun cs => (.agg cs, s)
   | none => none
  | _, _, _ => none
 | .buildSlice t len parts =>
  match elemOf E t with
  | some e => match sz E e, zeroOf E e, s.parts E parts.toList with
   | some n, some z, some ps =>
    if n = 0 ∨ z.length ≠ n ∨ len * n > 2 ^ 24 ∨ ¬ z.all one then none else
    (fillIn (fun i => some (i * n, n)) (List.replicate len z).flatten ps).map fun cs =>
     if s.big o.dst then (.arr s.g.objs.length 0 len len n, { s with g := s.g.newObj (.cells cs) }) else (.sl (chunks n len cs) .exact, s)
   | _, _, _ => none
  | none => none
 | .load t a => match s.ev E a with
  | some x => (s.loadV E t x).map (·, s)
  | none => none
 | .store t a x => match s.ev E a, s.ev E x, sz E t with
  | some p, some v, some n => if (cellsOf v).length = n then (s.storeCells p (cellsOf v)).map (V.undef, ·) else none
  | _, _, _ => none
 | .nilCheck x => match s.ev E x with
  | some v => match v with
   | .ptr .. | .ref _ | .loc .. => some (v, s)
   | .fn (.func _) _ => some (v, s)
   | _ => none
  | none => none
 | .binOp op t x y _ => match s.ev E x, s.ev E y with
  | some a, some b => (bin E op t a b).map (.p ·, s)
  | _, _ => none
 | .unOp op _ x => match s.ev E x with
  | some a => (un op a).map (.p ·, s)
  | none => none
 | .convert src dst x => match E.P.underlying src, E.P.underlying dst, s.ev E x with
  | some a, some b, some v => (convT a b v).map (·, s)
  | _, _, _ => none
 | .makeFunc (.func f) first caps =>
  if first.size = 0 then match evL E s caps.toList with
   | some vs => if vs.all one then some (.fn (.func f) vs, s) else none
   | none => none
  else none
 | .makeMap _ none => some (.map s.g.objs.length, { s with g := s.g.newObj (.map [] 0) })
 | .makeSlice t l c =>
  match elemOf E t, s.ev E l, s.ev E c with
  | some e, some (.p (.int .i64 l')), some (.p (.int .i64 c')) =>
   match E.P.info? e, zeroOf E e with
   | some i, some z =>
    if i.size = 0 ∨ z.length ≠ i.size ∨ l' < 0 ∨ l' > c' ∨ (i.bytes : Int) * c' > 2 ^ 48 ∨ c' > 2 ^ 48 ∨ ¬ z.all one then none else
    some (.arr s.g.objs.length 0 l'.toNat c'.toNat i.size, { s with g := s.g.newObj (.cells (List.replicate c'.toNat z).flatten) })
   | _, _ => none
  | _, _, _ => none
 | .slice t x lo hi none => match s.ev E x, optEv E s lo, optEv E s hi with
  | some v, some l, some h => (s.slice E t v l h).map (·, s)
  | _, _, _ => none
 | .fieldAddr t x f => match s.ev E x, fieldOf E t f with
  | some a, some (off, _, _) => (addTo a off).map (·, s)
  | _, _ => none
 | .field t x f => match s.ev E x, fieldOf E t f with
  | some (.agg cs), some (off, n, ag) => match take? cs off n with
   | some r => (mkv ag r).map (·, s)
   | none => none
  | _, _ => none
 | .indexAddr t x i => match s.ev E x, s.ev E i with
  | some v, some (.p (.int _ j)) =>
   if j < 0 then none else
   match E.P.underlying t with
   | some (.slice e) => match sz E e with
    | some n =>
     if n = 0 then none else
     match v with
     | .p (.sl rows) => match rows[j.toNat]? with
      | some r => if r.length = n then some (.ref (r.map .p), s) else none
      | none => none
     | .sl rows _ => match rows[j.toNat]? with
      | some r => if r.length = n then some (.ref r, s) else none
      | none => none
     | .arr id off len _ m => if j < len ∧ m = n then some (.ptr id (off + j.toNat * n), s) else none
     | _ => none
    | none => none
   | some (.array len e) => match sz E e with
    | some n => if j < len then (addTo v (j.toNat * n)).map (·, s) else none
    | none => none
   | _ => none
  | _, _ => none
 | .index t x i => match s.ev E x, s.ev E i with
  | some (.p (.str b)), some (.p (.int _ j)) => match E.P.underlying t with
   | some .string => if 0 ≤ j then match b[j.toNat]? with
     | some c => some (.p (.int .u8 c.toNat), s)
     | none => none
    else none
   | _ => none
  | _, _ => none
 | .lookup t x i ok => match E.P.underlying t, s.ev E x, s.ev E i with
  | some (.map kt et), some m, some (.p k) =>
   match E.P.underlying kt, zeroV E et, entriesOf s.g m with
   | some kd, some zv, some es =>
    if keyOk kd k ∧ es.all (fun e => keyOk kd e.1) then
     match findKey es k with
     | some v => some (if ok then .tup [v, .p (.bool true)] else v, s)
     | none => some (if ok then .tup [zv, .p (.bool false)] else zv, s)
    else none
   | _, _, _ => none
  | _, _, _ => none
 | .mapUpdate t m k x | .insert t m k x => match E.P.underlying t, s.ev E m, s.ev E k, s.ev E x with
  | some (.map kt et), some (.map id), some (.p key), some v =>
   match E.P.underlying kt, s.g.objs[id]? with
   | some kd, some (.map es clock) =>
    if keyOk kd key ∧ (cellsOf v).all one ∧ es.all (fun e => keyOk kd e.1) then
     match findKey es key with
     | some _ => some (.undef, { s with g := s.g.setObj id (.map (setKey es key v) clock) })
     | none => some (.undef, { s with g := s.g.setObj id (.map (es ++ [(key, v, clock)]) (clock + 1)) })
    else none
   | _, _ => none
  | _, _, _, _ => none
 | .range t x => match E.P.underlying t, s.ev E x with
  | some (.map _ _), some (.map m) => match s.g.objs[m]? with
   | some (.map _ clock) => some (.ptr s.g.objs.length 0, { s with g := s.g.newObj (.iter (some m) clock [] clock) })
   | _ => none
  | some (.map _ _), some (.p .nilmap) => some (.ptr s.g.objs.length 0, { s with g := s.g.newObj (.iter none 0 [] 0) })
  | _, _ => none
 | .entry x => match s.ev E x with
  | some it => (entryOf s.g it).map (·, s)
  | none => none
 | .extract x i => match s.ev E x with
  | some (.tup vs) => match vs[i]? with
   | some v => some (v, s)
   | none => none
  | _ => none
 | .call { callee := .builtin .len, args, argTypes } => match evL E s args.toList, argTypes[0]? with
  | some [x], some t => match E.P.underlying t with
   | some d => (lenOf s d x).map fun n => (.p (.int .i64 n), s)
   | none => none
  | _, _ => none
 | .call { callee := .builtin .append, args, argTypes } => match evL E s args.toList, argTypes[0]?, argTypes[1]? with
  | some [x, y], some t, some u => match elemOf E t, E.P.underlying u with
   | some e, some (.slice _) | some e, some .string => s.append E o.dst e x y
   | _, _ => none
  | _, _, _ => none
 | .call { callee := .builtin .clear, args, argTypes } => match evL E s args.toList, argTypes[0]? with
  | some [.arr id off len _ 1], some t => match elemOf E t with
   | some e => match zeroOf E e with
    | some [z] => if len = 0 then none else (s.storeCells (.ptr id off) (List.replicate len z)).map (V.tup [], ·)
    | _ => none
   | none => none
  | _, _ => none
 | .call { callee := .builtin .max, args, .. } => match evL E s args.toList with
  | some (x :: l) => (maxL x l).map (·, s)
  | _ => none
 | .call { callee := .builtin .min, args, .. } => match evL E s args.toList with
  | some (x :: l) => (minL x l).map (·, s)
  | _ => none
 | _ => none
def wants (ops : Array Oper) (s : St) (o : Oper) : Option Bool :=
 match o.guard with
 | none => some true
 | some (j, want) => match (ops[j]?).bind (·.dst) with
  | some d => if d < s.nt then match s.tm d with
    | .p (.bool b) => some (b == want)
    | .undef => some false
    | _ => none
   else none
  | none => some false
def okFn (f : FuncId) : Bool :=
 match E.P.funcs[f]? with
 | some fn => fn.body.isSome && !(fn.name == "runtime.NumGoroutine")
 | none => false
def callOf (s : St) (o : Oper) : Option (FuncId × List V) :=
 match o.op with
 | .call { callee := .value f, args, .. } => match s.ev E f, evL E s args.toList with
  | some (.fn (.func f) caps), some vs => if (vs.flatMap cellsOf).all one && okFn E f then some (f, vs ++ caps) else none
  | _, _ => none
 | _ => none
def nextOf (g : G) (it : V) : Option (List (Option (PV × V × Nat))) :=
 match it with
 | .ptr id 0 => match g.objs[id]? with
  | some (.iter none _ _ _) => some [none]
  | some (.iter (some m) since seen last) => match g.objs[m]? with
   | some (.map es clock) =>
    if !seen.isEmpty && !es.isEmpty && es.all (fun e => last ≤ e.2.2) then none else
    let left := es.filter fun e => !seen.contains e.2.2
    let old := left.filter fun e => e.2.2 < since
    let new := left.filter fun e => since ≤ e.2.2
    some ((if old.isEmpty then [none] else []) ++ (old ++ new).map some)
   | _ => none
  | _ => none
 | _ => none
def afterNext (g : G) (it : V) (c : Option (PV × V × Nat)) : Option (V × G) :=
 match c with
 | none => some (.tup [.p (.bool false)], g)
 | some (k, v, b) => match it with
  | .ptr id 0 => match g.objs[id]? with
   | some (.iter (some m) since seen _) => match g.objs[m]? with
    | some (.map _ clock) => some (.tup [.p (.bool true), .p k, v], g.setObj id (.iter (some m) since (seen ++ [b]) clock))
    | _ => none
   | _ => none
  | _ => none
def resOf (s : St) : List ResultVar → Option (List V)
 | [] => some []
 | .tmp t :: l => match s.tm t, resOf s l with
  | v, some vs => if (cellsOf v).all one then some (v :: vs) else none
  | _, none => none
 | .cell a t :: l => match s.loadV E t (s.tm a), resOf s l with
  | some v, some vs => some (v :: vs)
  | _, _ => none
def pack : List V → V
 | [v] => v
 | vs => .tup vs
def mapO (f : V → Option PV) : List V → Option (List PV)
 | [] => some []
 | v :: l => match f v, mapO f l with
  | some x, some xs => some (x :: xs)
  | _, _ => none
def mapR (f : V → Option PV) : List (List V) → Option (List (List PV))
 | [] => some []
 | r :: l => match mapO f r, mapR f l with
  | some x, some xs => some (x :: xs)
  | _, _ => none
def sealD (g : G) : Nat → V → Option PV
 | 0, _ => none
 | _ + 1, .p x => some x
 | d + 1, .sl rows _ => (mapR (sealD g d) rows).map .sl
 | d + 1, .arr id off len _ n => match g.objs[id]? with
  | some (.cells cs) => if g.wo ≤ id then match take? cs off (len * n) with
    | some ds => (mapR (sealD g d) (chunks n len ds)).map .sl
    | none => none
   else none
  | _ => none
 | _, _ => none
def sealCell (g : G) : V → Option PV
 | .p x => some x
 | v => sealD g 4 v
def sealCells (g : G) : List V → Option (List V)
 | [] => some []
 | v :: l => match sealCell g v, sealCells g l with
  | some x, some xs => some (.p x :: xs)
  | _, _ => none
def sealV (g : G) : V → Option V
 | .agg cs => (sealCells g cs).map .agg
 | v => (sealCell g v).map .p
def sealL (g : G) : List V → Option (List V)
 | [] => some []
 | v :: l => match sealV g v, sealL g l with
  | some x, some xs => some (x :: xs)
  | _, _ => none
def enter (fn : Func) (f : FuncId) (args : List V) (g : G) : St :=
 { nt := fn.ntmps, tm := fun t => args.getD t .undef, rg := fun _ => none, esc := E.esc f, g := { g with wo := g.objs.length, wt := g.toks.length } }
inductive X where
 | normal
 | exit (id : Nat)
 | ret
 deriving DecidableEq
inductive J where
 | code (c : Code) (s : St) (Q : X → St → Prop)
 | ops (ops : Array Oper) (l : List Nat) (s : St) (Q : St → Prop)
 | call (f : FuncId) (args : List V) (g : G) (Q : V → G → Prop)
inductive Ev : J → Prop where
 | skip {s Q} : Q .normal s → Ev (.code .skip s Q)
 | ret {s Q} : Q .ret s → Ev (.code .ret s Q)
 | exit {s Q id} : Q (.exit id) s → Ev (.code (.exit id) s Q)
 | seq {a b s Q} (Q1 : X → St → Prop) : Ev (.code a s Q1) → (∀ s', Q1 .normal s' → Ev (.code b s' Q)) → (∀ e s', e ≠ .normal → Q1 e s' → Q e s') → Ev (.code (.seq a b) s Q)
 | cond {c a b s Q} (t : Bool) : s.ev E c = some (.p (.bool t)) → Ev (.code (if t then a else b) s Q) → Ev (.code (.cond c a b) s Q)
 | block {id b s Q} (Q1 : X → St → Prop) : Ev (.code b s Q1) → (∀ s', Q1 .normal s' → Q .normal s') → (∀ id' s', Q1 (.exit id') s' → if id' = id then Q .normal s' else Q (.exit id') s') →
   (∀ s', Q1 .ret s' → Q .ret s') → Ev (.code (.block id b) s Q)
 | loop {b s Q} (Q1 : X → St → Prop) : Ev (.code b s Q1) → (∀ s', Q1 .normal s' → Ev (.code (.loop b) s' Q)) → (∀ e s', e ≠ .normal → Q1 e s' → Q e s') → Ev (.code (.loop b) s Q)
 | region {id ops s Q} : Ev (.ops ops (List.range ops.size) s (Q .normal)) → Ev (.code (.region id ops false) s Q)
 | regionD {id ops s Q} : (∀ t, Ev (.ops ops (Region.schedule (E.P.follows .mixedOrders) ops t) s (Q .normal))) → Ev (.code (.region id ops true) s Q)
 | nil {ops s Q} : Q s → Ev (.ops ops [] s Q)
 | skipOp {ops i l s Q o s'} : ops[i]? = some o → wants ops s o = some false → s.put o.dst .undef = some s' → Ev (.ops ops l s' Q) → Ev (.ops ops (i :: l) s Q)
 | step {ops i l s Q o v s1 s'} : ops[i]? = some o → wants ops s o = some true → stepV E s o = some (v, s1) → s1.put o.dst v = some s' → Ev (.ops ops l s' Q) → Ev (.ops ops (i :: l) s Q)
 | next {ops i l s Q o it x cs} (sf : Option (PV × V × Nat) → St) : ops[i]? = some o → wants ops s o = some true → o.op = .next x false → s.ev E x = some it → nextOf s.g it = some cs →
   (∀ c, c ∈ cs → ∃ v g, afterNext s.g it c = some (v, g) ∧ St.put { s with g := g } o.dst v = some (sf c)) → (∀ c, c ∈ cs → Ev (.ops ops l (sf c) Q)) → Ev (.ops ops (i :: l) s Q)
 | callOp {ops i l s Q o f args} (Q1 : V → G → Prop) (sf : V → G → St) : ops[i]? = some o → wants ops s o = some true → callOf E s o = some (f, args) → Ev (.call f args s.g Q1) →
   (∀ v g, Q1 v g → St.put { s with g := g } o.dst v = some (sf v g)) → (∀ v g, Q1 v g → Ev (.ops ops l (sf v g) Q)) → Ev (.ops ops (i :: l) s Q)
 | fnKeep {f args g Q fn body} (Q1 : X → St → Prop) : E.P.funcs[f]? = some fn → fn.body = some body → args.length ≤ fn.ntmps → Ev (.code body (enter E fn f args g) Q1) →
   (∀ e s', Q1 e s' → (e = .normal ∨ e = .ret) ∧ ∃ vs, resOf E s' fn.results.toList = some vs ∧ Q (pack vs) { s'.g with wo := min g.wo s'.g.wo, wt := min g.wt s'.g.wt }) → Ev (.call f args g Q)
 | fnClean {f args g Q fn body} (Q1 : X → St → Prop) : E.P.funcs[f]? = some fn → fn.body = some body → args.length ≤ fn.ntmps → Ev (.code body (enter E fn f args g) Q1) →
   (∀ e s', Q1 e s' → (e = .normal ∨ e = .ret) ∧ ∃ vs ws, resOf E s' fn.results.toList = some vs ∧ sealL s'.g vs = some ws ∧ s'.g.wo = g.objs.length ∧ s'.g.wt = g.toks.length ∧ Q (pack ws) g) → Ev (.call f args g Q)
 | prim {f args g Q} : E.prim f args g Q → Ev (.call f args g Q)
end
end Go.Vm
set_option linter.unusedVariables false
namespace Go.Vm
open Go
structure Vw where
 sg : Nat → Option (Array Value)
 rho : Nat → Nat
 kap : Nat → Nat
 kn : Nat → Nat
 osz : Nat → Nat
 toks : List Nat
 nobj : Nat
inductive RepP (sg : Nat → Option (Array Value)) : PV → Value → Prop where
 | int {k n} : RepP sg (.int k n) (.int k n)
 | bool {b} : RepP sg (.bool b) (.bool b)
 | str {s} : RepP sg (.str s) (.string s)
 | flt {k b} : RepP sg (.flt k b) (.float k b)
 | nilsl : RepP sg .nilsl (.slice none 0 0)
 | nilptr : RepP sg .nilptr (.pointer none)
 | nilmap : RepP sg .nilmap (.map none)
 | nilfn : RepP sg .nilfn .nilFunc
 | nilif : RepP sg .nilif .nilIface
 | sl {rows : List (List PV)} {a : Addr} {cap n : Nat} (f : Nat → Nat → Value) (cs : Array Value) : (rows ≠ [] → a.spot = none) → rows.length ≤ cap →
   (∀ r, r ∈ rows → r.length = n) → (rows ≠ [] → sg a.block = some cs) →
   (∀ i j r x, rows[i]? = some r → r[j]? = some x → cs[a.off + (i * n + j)]? = some (f i j)) →
   (∀ i j r x, rows[i]? = some r → r[j]? = some x → RepP sg x (f i j)) → RepP sg (.sl rows) (.slice (some a) rows.length cap)
inductive RepC (v : Vw) : V → Value → Prop where
 | p {x y} : RepP v.sg x y → RepC v (.p x) y
 | sl {rows : List (List V)} {a : Addr} {cap n : Nat} {k : SK} (f : Nat → Nat → Value) (cs : Array Value) : a.spot = none → rows.length ≤ cap →
   (∀ r, r ∈ rows → r.length = n) → (rows ≠ [] → v.sg a.block = some cs) →
   (∀ i j r x, rows[i]? = some r → r[j]? = some x → cs[a.off + (i * n + j)]? = some (f i j)) →
   (∀ i j r x, rows[i]? = some r → r[j]? = some x → RepC v x (f i j)) →
   (k = .exact → cap = rows.length) →
   (∀ t pos m, k = .own t pos m → ∃ q, v.toks[t]? = some q ∧ pos ≤ q ∧ (q = pos → cap = rows.length ∨
    (a.block = v.kap t ∧ ∃ cs', v.sg (v.kap t) = some cs' ∧ a.off + rows.length * m = cs'.size ∧ a.off + cap * m ≤ v.kn t))) →
   RepC v (.sl rows k) (.slice (some a) rows.length cap)
 | arr {id off len cap n c : Nat} {a : Addr} : a.spot = none → id < v.nobj → a.block = v.rho id → (c ≠ 0 → a.off = off ∧ off + c * n ≤ v.osz id) → len ≤ cap → cap ≤ c →
   RepC v (.arr id off len cap n) (.slice (some a) len c)
 | ptr {id off : Nat} : id < v.nobj → RepC v (.ptr id off) (.pointer (some ⟨v.rho id, off, none⟩))
 | map {id : Nat} : id < v.nobj → RepC v (.map id) (.map (some (v.rho id)))
 | fn {f : Fn} {caps : List V} {ys : Array Value} : caps.length = ys.size → (∀ (i : Nat) (x : V) (y : Value), caps[i]? = some x → ys[i]? = some y → RepC v x y) → RepC v (.fn f caps) (.func f #[] ys)
def RepL (v : Vw) (cs : List V) (ys : List Value) : Prop := cs.length = ys.length ∧ ∀ (i : Nat) (x : V) (y : Value), cs[i]? = some x → ys[i]? = some y → RepC v x y
inductive RepA (v : Vw) : V → Value → Prop where
 | cell {x y} : RepC v x y → RepA v x y
 | agg {cs ys} : RepL v cs ys → RepA v (.agg cs) (.agg ys.toArray)
inductive RepV (v : Vw) (lc : Nat → Nat → Option Nat) : V → Value → Prop where
 | a {x y} : RepA v x y → RepV v lc x y
 | ref {row : List V} {a : Addr} (ys : List Value) (cs : Array Value) : a.spot = none → (row ≠ [] → v.sg a.block = some cs) → RepL v row ys →
   (∀ j y, ys[j]? = some y → cs[a.off + j]? = some y) → RepV v lc (.ref row) (.pointer (some a))
 | loc {t g off b : Nat} : lc t g = some b → RepV v lc (.loc t g off) (.pointer (some ⟨b, off, none⟩))
 | tup {vs : List V} {ys : List Value} : vs.length = ys.length → (∀ (i : Nat) (x : V) (y : Value), vs[i]? = some x → ys[i]? = some y → RepA v x y) → RepV v lc (.tup vs) (.tuple ys.toArray)
 | undef : RepV v lc .undef undef
structure Ext (v v' : Vw) : Prop where
 sg : ∀ b cs, v.sg b = some cs → ∃ ds, v'.sg b = some (cs ++ ds)
 obj : v.nobj ≤ v'.nobj
 rho : ∀ i, i < v.nobj → v'.rho i = v.rho i
 osz : ∀ i, i < v.nobj → v'.osz i = v.osz i
 tok : v.toks.length ≤ v'.toks.length
 alive : ∀ k p, k < v.toks.length → v'.toks[k]? = some p → ∃ q, v.toks[k]? = some q ∧ q ≤ p ∧ (q = p → v'.kap k = v.kap k ∧ v'.kn k = v.kn k ∧ v'.sg (v.kap k) = v.sg (v.kap k))
theorem Ext.refl (v : Vw) : Ext v v where
 sg b cs h := ⟨#[], by simpa using h⟩
 obj := Nat.le_refl _
 rho _ _ := rfl
 osz _ _ := rfl
 tok := Nat.le_refl _
 alive k p _ h := ⟨p, h, Nat.le_refl _, fun _ => ⟨rfl, rfl, rfl⟩⟩
theorem Ext.trans {a b c : Vw} (h : Ext a b) (k : Ext b c) : Ext a c where
 sg x cs e := by
  obtain ⟨ds, e1⟩ := h.sg x cs e
  obtain ⟨es, e2⟩ := k.sg x _ e1
  exact ⟨ds ++ es, by rw [e2, Array.append_assoc]⟩
 obj := Nat.le_trans h.obj k.obj
 rho i hi := (k.rho i (Nat.lt_of_lt_of_le hi h.obj)).trans (h.rho i hi)
 osz i hi := (k.osz i (Nat.lt_of_lt_of_le hi h.obj)).trans (h.osz i hi)
 tok := Nat.le_trans h.tok k.tok
 alive i p hi e := by
  obtain ⟨q, e1, l1, s1⟩ := k.alive i p (Nat.lt_of_lt_of_le hi h.tok) e
  obtain ⟨r, e2, l2, s2⟩ := h.alive i q hi e1
  refine ⟨r, e2, by omega, fun hrp => ?_⟩
  obtain ⟨a1, a2, a3⟩ := s1 (by omega)
  obtain ⟨b1, b2, b3⟩ := s2 (by omega)
  exact ⟨a1.trans b1, a2.trans b2, by rw [← b3, ← b1, a3]⟩
theorem getElem?_append_some {cs ds : Array Value} {i : Nat} {y : Value} (h : cs[i]? = some y) : (cs ++ ds)[i]? = some y := by
 obtain ⟨hi, rfl⟩ := Array.getElem?_eq_some_iff.1 h
 rw [Array.getElem?_append_left hi]
 exact h
theorem RepP.ext {s s' : Nat → Option (Array Value)} (hs : ∀ b cs, s b = some cs → ∃ ds, s' b = some (cs ++ ds)) {x : PV} {y : Value} (h : RepP s x y) : RepP s' x y := by
 induction h with
 | int => exact .int
 | bool => exact .bool
 | str => exact .str
 | flt => exact .flt
 | nilsl => exact .nilsl
 | nilptr => exact .nilptr
 | nilmap => exact .nilmap
 | nilfn => exact .nilfn
 | nilif => exact .nilif
 | @sl rows a cap n f cs h1 h2 h3 h4 h5 h6 ih =>
  by_cases hr : rows = []
  ·subst hr
   exact .sl (n := n) f #[] h1 h2 h3 (fun h => absurd rfl h) (fun i j r x hi => by simp at hi) (fun i j r x hi => by simp at hi)
  ·obtain ⟨ds, e⟩ := hs _ _ (h4 hr)
   exact .sl f (cs ++ ds) h1 h2 h3 (fun _ => e) (fun i j r x hi hj => getElem?_append_some (h5 i j r x hi hj)) ih
theorem RepC.ext {v v' : Vw} (hv : Ext v v') {x : V} {y : Value} (h : RepC v x y) : RepC v' x y := by
 induction h with
 | p h => exact .p (h.ext hv.sg)
 | @sl rows a cap n k f cs h1 h2 h3 h4 h5 h6 h7 h8 ih =>
  have h8' : ∀ t pos m, k = .own t pos m → ∃ q, v'.toks[t]? = some q ∧ pos ≤ q ∧ (q = pos → cap = rows.length ∨
    (a.block = v'.kap t ∧ ∃ cs', v'.sg (v'.kap t) = some cs' ∧ a.off + rows.length * m = cs'.size ∧ a.off + cap * m ≤ v'.kn t)) := by
   intro t pos m hk
   obtain ⟨q, hq, hle, hal⟩ := h8 t pos m hk
   have hlt : t < v.toks.length := (List.getElem?_eq_some_iff.1 hq).1
   obtain ⟨p, hp⟩ : ∃ p, v'.toks[t]? = some p := ⟨_, List.getElem?_eq_getElem (Nat.lt_of_lt_of_le hlt hv.tok)⟩
   obtain ⟨q', e1, l1, s1⟩ := hv.alive t p hlt hp
   rw [hq] at e1
   injection e1 with e1
   subst e1
   refine ⟨p, hp, by omega, fun e => ?_⟩
   rcases hal (by omega) with hc | ⟨hb, cs', hsg, hsz, hcap⟩
   ·exact .inl hc
   ·obtain ⟨a1, a2, a3⟩ := s1 (by omega)
    refine .inr ⟨by rw [a1]; exact hb, cs', ?_, hsz, by rw [a2]; exact hcap⟩
    rw [a1, a3]
    exact hsg
  by_cases hr : rows = []
  ·subst hr
   exact .sl (n := n) f #[] h1 h2 h3 (fun h => absurd rfl h) (fun i j r x hi => by simp at hi) (fun i j r x hi => by simp at hi) h7 (by simpa using h8')
  ·obtain ⟨ds, e⟩ := hv.sg _ _ (h4 hr)
   exact .sl f (cs ++ ds) h1 h2 h3 (fun _ => e) (fun i j r x hi hj => getElem?_append_some (h5 i j r x hi hj)) ih h7 h8'
 | arr h1 h2 h3 h4 h5 h6 => exact .arr h1 (Nat.lt_of_lt_of_le h2 hv.obj) (by rw [hv.rho _ h2]; exact h3) (by rw [hv.osz _ h2]; exact h4) h5 h6
 | ptr h => rw [← hv.rho _ h]; exact .ptr (Nat.lt_of_lt_of_le h hv.obj)
 | map h => rw [← hv.rho _ h]; exact .map (Nat.lt_of_lt_of_le h hv.obj)
 | fn h1 h2 ih => exact .fn h1 ih
end Go.Vm
set_option linter.unusedVariables false
namespace Go.Vm
open Go
def Free (fr : Nat × Nat) (n : Nat) : Prop := ∀ i, i < n → ¬ (fr.1 ≤ i ∧ i < fr.2)
inductive RepO (v : Vw) : Ob → Option Obj → Prop where
 | cells {cs ds : List V} {C : Array Value} {e : TypeId} {fr : Nat × Nat} : Free fr C.size → RepL v (cs ++ ds) C.toList → RepO v (.cells cs) (some (.cells C e fr))
 | dead {o : Obj} : RepO v .dead (some o)
 | map {es : List (PV × V × Nat)} {arr : Array MapEntry} {clock : Nat} : es.length = arr.size →
   (∀ (i : Nat) (x : PV × V × Nat) (m : MapEntry), es[i]? = some x → arr[i]? = some m → RepP v.sg x.1 m.key ∧ RepA v x.2.1 m.val ∧ m.born = x.2.2) → RepO v (.map es clock) (some (.map arr clock))
 | iter {m : Option Nat} {since : Nat} {seen : List Nat} {stepped : Nat} : (∀ i, m = some i → i < v.nobj) → RepO v (.iter m since seen stepped) (some (.mapIter (m.map v.rho) since seen.toArray stepped))
theorem take?_more {cs ds r : List V} {off n : Nat} (h : take? cs off n = some r) : take? (cs ++ ds) off n = some r := by
 unfold take? at h ⊢
 split at h
 ·rename_i hle
  rw [if_pos (by simp; omega)]
  rw [← h, List.drop_append_of_le_length (by omega), List.take_append_of_le_length (by simp; omega)]
 ·cases h
theorem put?_more {cs ds vs r : List V} {off : Nat} (h : put? cs off vs = some r) : put? (cs ++ ds) off vs = some (r ++ ds) := by
 unfold put? at h ⊢
 split at h
 ·rename_i hle
  injection h with h
  subst h
  rw [if_pos (by simp; omega), List.take_append_of_le_length (by omega), List.drop_append_of_le_length (by omega)]
  simp
 ·cases h
structure GlobR (v : Vw) (gid : Nat) (row : List V) (w : World) : Prop where
 rep : RepV v (fun _ _ => none) (.ref row) (.pointer (some ⟨gid, 0, none⟩))
 size : ∃ C e fr, w.heap[gid]? = some (.cells C e fr) ∧ C.size = row.length
 sg : ∃ cs, v.sg gid = some cs
structure WR (E : Env) (v : Vw) (g : G) (w : World) : Prop where
 sg : ∀ b cs, v.sg b = some cs → ∃ C e fr, w.heap[b]? = some (.cells C e fr) ∧ ∀ (i : Nat) (y : Value), cs[i]? = some y → C[i]? = some y
 nobj : v.nobj = g.objs.length
 toks : v.toks = g.toks
 obj : ∀ id o, g.objs[id]? = some o → RepO v o w.heap[v.rho id]?
 inj : ∀ i j oi oj, g.objs[i]? = some oi → g.objs[j]? = some oj → oi.live = true → oj.live = true → v.rho i = v.rho j → i = j
 osz : ∀ i, i < v.nobj → ∀ C e fr, w.heap[v.rho i]? = some (.cells C e fr) → C.size = v.osz i
 osg : ∀ i, i < v.nobj → v.sg (v.rho i) = none
 tk : ∀ k, k < v.toks.length → ∃ C e fr cs, w.heap[v.kap k]? = some (.cells C e fr) ∧ Free fr C.size ∧ C.size = v.kn k ∧ v.sg (v.kap k) = some cs
 tinj : ∀ i j, i < v.toks.length → j < v.toks.length → v.kap i = v.kap j → i = j
 glob : ∀ gid row, E.glob gid = some row → GlobR v gid row w
structure FR (v : Vw) (lc : Nat → Nat → Option Nat) (s : St) (a : Act) (w : World) : Prop where
 nt : s.nt = a.tmps.size
 df : a.defers = []
 tm : ∀ t, RepV v lc (s.tm t) (a.tmps.getD t undef)
 rg : ∀ t g cs, s.rg t = some (g, cs) → ∃ b C e fr, lc t g = some b ∧ w.heap[b]? = some (.cells C e fr) ∧ Free fr C.size ∧ RepL v cs C.toList ∧ v.sg b = none ∧ ∀ id, id < v.nobj → v.rho id ≠ b
 rd : ∀ t t' g g' cs cs' b, s.rg t = some (g, cs) → s.rg t' = some (g', cs') → lc t g = some b → lc t' g' = some b → t = t'
 lb : ∀ t g b, lc t g = some b → ∃ g' cs, s.rg t = some (g', cs) ∧ g ≤ g'
structure Tp (w w' : World) : Prop where
 same : w'.tape = w.tape
 more : w.drawn ≤ w'.drawn
theorem Tp.refl (w : World) : Tp w w := ⟨rfl, Nat.le_refl _⟩
theorem Tp.trans {a b c : World} (k : Tp b c) (h : Tp a b) : Tp a c := ⟨k.same.trans h.same, Nat.le_trans h.more k.more⟩
structure Sn (v0 : Vw) (w0 : World) (g0 : G) (v : Vw) (w : World) (g : G) : Prop where
 size : w0.heap.size ≤ w.heap.size
 os : w.os = w0.os
 tape : Tp w0 w
 out : w.output = w0.output
 ext : Ext v0 v
 rho : ∀ i, v0.nobj ≤ i → i < v.nobj → w0.heap.size ≤ v.rho i ∨ ∃ j, g.wo ≤ j ∧ j < v0.nobj ∧ v.rho i = v0.rho j
 kap : ∀ k, v0.toks.length ≤ k → k < v.toks.length → w0.heap.size ≤ v.kap k
 kapo : ∀ k, k < v0.toks.length → v.kap k = v0.kap k ∨ w0.heap.size ≤ v.kap k
 kept : ∀ k, k < g.wt → v.kap k = v0.kap k
 sg : ∀ b, b < w0.heap.size → v0.sg b = none → v.sg b = none
 other : ∀ b, b < w0.heap.size → (∀ i, i < v0.nobj → v0.rho i ≠ b) → (∀ k, k < v0.toks.length → v0.kap k ≠ b) → w.heap[b]? = w0.heap[b]?
 wo : g.wo ≤ g0.objs.length
 wt : g.wt ≤ g0.toks.length
 objs : ∀ i, i < g.wo → g.objs[i]? = g0.objs[i]? ∧ (∀ o, g0.objs[i]? = some o → o.live = true → w.heap[v0.rho i]? = w0.heap[v0.rho i]?)
 toks : ∀ k, k < g.wt → g.toks[k]? = g0.toks[k]? ∧ w.heap[v0.kap k]? = w0.heap[v0.kap k]? ∧ v.sg (v0.kap k) = v0.sg (v0.kap k)
def Hi (w0 : World) (lc : Nat → Nat → Option Nat) : Prop := ∀ t g b, lc t g = some b → w0.heap.size ≤ b
theorem RepL.nil {v : Vw} : RepL v [] [] := ⟨rfl, fun i x y h => by simp at h⟩
theorem RepL.cons {v : Vw} {x : V} {y : Value} {cs : List V} {ys : List Value} (h : RepC v x y) (k : RepL v cs ys) : RepL v (x :: cs) (y :: ys) := by
 refine ⟨by simp [k.1], fun i a b ha hb => ?_⟩
 cases i with
 | zero => simp at ha hb; subst ha hb; exact h
 | succ i => simp at ha hb; exact k.2 i a b ha hb
theorem RepL.head {v : Vw} {x : V} {y : Value} {cs : List V} {ys : List Value} (h : RepL v (x :: cs) (y :: ys)) : RepC v x y := h.2 0 x y rfl rfl
theorem RepL.tail {v : Vw} {x : V} {y : Value} {cs : List V} {ys : List Value} (h : RepL v (x :: cs) (y :: ys)) : RepL v cs ys :=
 ⟨by have := h.1; simpa using this, fun i a b ha hb => h.2 (i + 1) a b (by simpa using ha) (by simpa using hb)⟩
theorem RepL.ext {v v' : Vw} (hv : Ext v v') {cs : List V} {ys : List Value} (h : RepL v cs ys) : RepL v' cs ys := ⟨h.1, fun i x y a b => (h.2 i x y a b).ext hv⟩
theorem RepL.getElem {v : Vw} {cs : List V} {ys : List Value} (h : RepL v cs ys) {i : Nat} {x : V} (hx : cs[i]? = some x) : ∃ y, ys[i]? = some y ∧ RepC v x y := by
 have hi := (List.getElem?_eq_some_iff.1 hx).1
 have hy : ys[i]? = some (ys[i]'(by have := h.1; omega)) := List.getElem?_eq_getElem _
 exact ⟨_, hy, h.2 i x _ hx hy⟩
theorem RepL.take {v : Vw} {cs : List V} {ys : List Value} (h : RepL v cs ys) (n : Nat) : RepL v (cs.take n) (ys.take n) := by
 refine ⟨by simp [h.1], fun i x y hx hy => ?_⟩
 rw [List.getElem?_take] at hx hy
 split at hx
 ·rename_i hi; rw [if_pos hi] at hy; exact h.2 i x y hx hy
 ·cases hx
theorem RepL.drop {v : Vw} {cs : List V} {ys : List Value} (h : RepL v cs ys) (n : Nat) : RepL v (cs.drop n) (ys.drop n) := by
 refine ⟨by simp [h.1], fun i x y hx hy => ?_⟩
 rw [List.getElem?_drop] at hx hy
 exact h.2 _ x y hx hy
theorem RepL.append {v : Vw} {cs ds : List V} {ys zs : List Value} (h : RepL v cs ys) (k : RepL v ds zs) : RepL v (cs ++ ds) (ys ++ zs) := by
 refine ⟨by simp [h.1, k.1], fun i x y hx hy => ?_⟩
 by_cases hi : i < cs.length
 ·rw [List.getElem?_append_left hi] at hx
  rw [List.getElem?_append_left (by have := h.1; omega)] at hy
  exact h.2 i x y hx hy
 ·rw [List.getElem?_append_right (by omega)] at hx
  rw [List.getElem?_append_right (by have := h.1; omega)] at hy
  rw [← h.1] at hy
  exact k.2 _ x y hx hy
theorem RepA.ext {v v' : Vw} (hv : Ext v v') {x : V} {y : Value} (h : RepA v x y) : RepA v' x y := by
 cases h with
 | cell h => exact .cell (h.ext hv)
 | agg h => exact .agg (h.ext hv)
theorem RepV.ext {v v' : Vw} (hv : Ext v v') {lc lc' : Nat → Nat → Option Nat} (hl : ∀ t g b, lc t g = some b → lc' t g = some b) {x : V} {y : Value} (h : RepV v lc x y) : RepV v' lc' x y := by
 cases h with
 | a h => exact .a (h.ext hv)
 | @ref row a ys cs h1 h2 h3 h4 =>
  by_cases hr : row = []
  ·subst hr
   refine .ref ys #[] h1 (fun h => absurd rfl h) (h3.ext hv) (fun j y hy => ?_)
   have : ys = [] := List.eq_nil_of_length_eq_zero h3.1.symm
   subst this
   simp at hy
  ·obtain ⟨ds, e⟩ := hv.sg _ _ (h2 hr)
   exact .ref ys (cs ++ ds) h1 (fun _ => e) (h3.ext hv) (fun j y hy => getElem?_append_some (h4 j y hy))
 | loc h => exact .loc (hl _ _ _ h)
 | tup h1 h2 => exact .tup h1 (fun i x y hx hy => (h2 i x y hx hy).ext hv)
 | undef => exact .undef
theorem RepA.cellsOf {v : Vw} {x : V} {y : Value} (h : RepA v x y) (h1 : ∀ cs, x = .agg cs → True) : RepL v (cellsOf x) y.cells.toList := by
 cases h with
 | cell h =>
  have e1 : Vm.cellsOf x = [x] := by cases h <;> rfl
  have e2 : y.cells = #[y] := by
   cases h with
   | p h => cases h <;> rfl
   | _ => rfl
  rw [e1, e2]
  exact RepL.cons h RepL.nil
 | agg h => simpa [Vm.cellsOf, Value.cells] using h
theorem RepV.toA {v : Vw} {lc : Nat → Nat → Option Nat} {x : V} {y : Value} (h : RepV v lc x y) (h1 : (Vm.cellsOf x).all one = true) : RepA v x y := by
 cases h with
 | a h => exact h
 | ref => simp [Vm.cellsOf, one] at h1
 | loc => simp [Vm.cellsOf, one] at h1
 | tup => simp [Vm.cellsOf, one] at h1
 | undef => simp [Vm.cellsOf, one] at h1
theorem RepC.oneCell {v : Vw} {x : V} {y : Value} (h : RepC v x y) : y.oneCell' = true := by
 cases h with
 | p h => cases h <;> rfl
 | _ => rfl
theorem RepL.oneCell {v : Vw} {cs : List V} {ys : List Value} (h : RepL v cs ys) : ∀ y ∈ ys, y.oneCell' = true := by
 intro y hy
 obtain ⟨i, hi⟩ := List.mem_iff_getElem?.1 hy
 have hlt := (List.getElem?_eq_some_iff.1 hi).1
 have hx : cs[i]? = some (cs[i]'(by have := h.1; omega)) := List.getElem?_eq_getElem _
 exact (h.2 i _ y hx hi).oneCell
theorem cst1_rep {v : Vw} {x : Value} {X : V} (h : cst1 x = some X) : RepC v X x := by
 unfold cst1 at h
 split at h <;> first | (injection h with h; subst h; exact .p (by constructor)) | cases h
theorem cstL_rep {v : Vw} : ∀ {l : List Value} {X : List V}, cstL l = some X → RepL v X l
 | [], X, h => by injection h with h; subst h; exact RepL.nil
 | x :: l, X, h => by
  unfold cstL at h
  cases h1 : cst1 x with
  | none => rw [h1] at h; cases h
  | some y =>
   cases h2 : cstL l with
   | none => rw [h1, h2] at h; cases h
   | some ys =>
    rw [h1, h2] at h
    injection h with h
    subst h
    exact RepL.cons (cst1_rep h1) (cstL_rep h2)
theorem cst_rep {v : Vw} {x : Value} {X : V} (h : cst x = some X) : RepA v X x := by
 unfold cst at h
 split at h
 ·rename_i cs
  cases h1 : cstL cs.toList with
  | none => rw [h1] at h; cases h
  | some ys =>
   rw [h1] at h
   injection h with h
   subst h
   have := RepA.agg (cstL_rep (v := v) h1)
   simpa using this
 ·exact .cell (cst1_rep h)
theorem GlobR.to {v v' : Vw} {gid : Nat} {row : List V} {w w' : World} (h : GlobR v gid row w) (hx : Ext v v') (hh : ∀ C e fr cs, v.sg gid = some cs → w.heap[gid]? = some (.cells C e fr) → ∃ C' e' fr', w'.heap[gid]? = some (.cells C' e' fr') ∧ C'.size = C.size) : GlobR v' gid row w' := by
 obtain ⟨C, e, fr, h1, h2⟩ := h.size
 obtain ⟨cs, h3⟩ := h.sg
 obtain ⟨C', e', fr', h4, h5⟩ := hh C e fr cs h3 h1
 obtain ⟨ds, h6⟩ := hx.sg gid cs h3
 exact ⟨h.rep.ext hx (fun _ _ _ h => h), ⟨C', e', fr', h4, h5.trans h2⟩, _, h6⟩
theorem GlobR.ext {v v' : Vw} {gid : Nat} {row : List V} {w : World} (h : GlobR v gid row w) (hx : Ext v v') : GlobR v' gid row w := h.to hx fun C e fr _ _ h => ⟨C, e, fr, h, rfl⟩
theorem ev_rep {E : Env} {v : Vw} {lc : Nat → Nat → Option Nat} {s : St} {a : Act} {w : World} (hW : WR E v s.g w) (hF : FR v lc s a w) {x : Operand} {X : V} (h : s.ev E x = some X) : RepV v lc X (a.eval x) := by
 cases x with
 | tmp t => injection h with h; subst h; exact hF.tm t
 | const c => exact .a (cst_rep h)
 | global g =>
  simp only [St.ev] at h
  cases hg : E.glob g with
  | none => rw [hg] at h; cases h
  | some row =>
   rw [hg] at h
   injection h with h
   subst h
   exact (hW.glob g row hg).rep.ext (Ext.refl v) (fun t g b h => by cases h)
 | func f =>
  injection h with h
  subst h
  exact .a (.cell (.fn rfl (fun i x y hx => by simp at hx)))
end Go.Vm
set_option linter.unusedVariables false
namespace Go.Vm
open Go
structure Rl (E : Env) (v0 : Vw) (w0 : World) (g0 : G) (v : Vw) (lc : Nat → Nat → Option Nat) (s : St) (a : Act) (w : World) : Prop where
 W : WR E v s.g w
 F : FR v lc s a w
 S : Sn v0 w0 g0 v w s.g
 H : Hi w0 lc
structure HLe (w w' : World) : Prop where
 heap : ∀ (b : Nat) (x : Obj), w.heap[b]? = some x → w'.heap[b]? = some x
 size : w.heap.size ≤ w'.heap.size
 os : w'.os = w.os
 tape : Tp w w'
 out : w'.output = w.output
theorem HLe.refl (w : World) : HLe w w := ⟨fun _ _ h => h, Nat.le_refl _, rfl, Tp.refl _, rfl⟩
theorem HLe.drawn (w : World) (n : Nat) : HLe w { w with drawn := w.drawn + n } := ⟨fun _ _ h => h, Nat.le_refl _, rfl, ⟨rfl, Nat.le_add_right _ _⟩, rfl⟩
theorem HLe.trans {a b c : World} (h : HLe a b) (k : HLe b c) : HLe a c :=
 ⟨fun i x e => k.heap i x (h.heap i x e), Nat.le_trans h.size k.size, k.os.trans h.os, k.tape.trans h.tape, k.out.trans h.out⟩
theorem get_lt {w : World} {b : Nat} {x : Obj} (h : w.heap[b]? = some x) : b < w.heap.size := (Array.getElem?_eq_some_iff.1 h).1
theorem get_push {h : Array Obj} {b : Nat} {x o : Obj} (e : h[b]? = some x) : (h.push o)[b]? = some x := by
 have := (Array.getElem?_eq_some_iff.1 e).1
 rw [Array.getElem?_push_lt this]
 simpa [Array.getElem?_eq_getElem this] using e
theorem HLe.push (w : World) (o : Obj) : HLe w { w with heap := w.heap.push o } :=
 ⟨fun b x h => get_push h, by simp, rfl, ⟨rfl, Nat.le_refl _⟩, rfl⟩
theorem HLe.of_lt {w w' : World} (h : HLe w w') {b : Nat} (hb : b < w.heap.size) : w'.heap[b]? = w.heap[b]? := by
 rw [Array.getElem?_eq_getElem hb]
 exact h.heap b _ (Array.getElem?_eq_getElem hb)
theorem RepO.lt {v : Vw} {o : Ob} {x : Option Obj} (h : RepO v o x) : ∃ y, x = some y := by cases h <;> exact ⟨_, rfl⟩
theorem WR.rho_lt {E : Env} {v : Vw} {g : G} {w : World} (h : WR E v g w) {i : Nat} (hi : i < v.nobj) : v.rho i < w.heap.size := by
 rw [h.nobj] at hi
 obtain ⟨y, e⟩ := (h.obj i _ (List.getElem?_eq_getElem hi)).lt
 exact get_lt e
theorem WR.kap_lt {E : Env} {v : Vw} {g : G} {w : World} (h : WR E v g w) {i : Nat} (hi : i < v.toks.length) : v.kap i < w.heap.size := by
 obtain ⟨C, e, fr, cs, h1, _⟩ := h.tk i hi
 exact get_lt h1
theorem WR.sg_lt {E : Env} {v : Vw} {g : G} {w : World} (h : WR E v g w) {b : Nat} {cs : Array Value} (hb : v.sg b = some cs) : b < w.heap.size := by
 obtain ⟨C, e, fr, h1, _⟩ := h.sg b cs hb
 exact get_lt h1
theorem WR.hle {E : Env} {v : Vw} {g : G} {w w' : World} (h : WR E v g w) (k : HLe w w') : WR E v g w' where
 sg b cs e := by
  obtain ⟨C, el, fr, h1, h2⟩ := h.sg b cs e
  exact ⟨C, el, fr, k.heap _ _ h1, h2⟩
 nobj := h.nobj
 toks := h.toks
 obj id o e := by
  have h1 := h.obj id o e
  have hi : id < v.nobj := by rw [h.nobj]; exact (List.getElem?_eq_some_iff.1 e).1
  rw [k.of_lt (h.rho_lt hi)]
  exact h1
 inj := h.inj
 osz i hi C e fr hc := h.osz i hi C e fr (by rw [← k.of_lt (h.rho_lt hi)]; exact hc)
 osg := h.osg
 tk i hi := by
  obtain ⟨C, e, fr, cs, h1, h2⟩ := h.tk i hi
  exact ⟨C, e, fr, cs, k.heap _ _ h1, h2⟩
 tinj := h.tinj
 glob gid row e := (h.glob gid row e).to (Ext.refl v) fun C el fr _ _ h => ⟨C, el, fr, k.heap _ _ h, rfl⟩
theorem FR.hle {v : Vw} {lc : Nat → Nat → Option Nat} {s : St} {a : Act} {w w' : World} (h : FR v lc s a w) (k : HLe w w') : FR v lc s a w' where
 nt := h.nt
 df := h.df
 tm := h.tm
 rg t g cs e := by
  obtain ⟨b, C, el, fr, h1, h2, h3⟩ := h.rg t g cs e
  exact ⟨b, C, el, fr, h1, k.heap _ _ h2, h3⟩
 rd := h.rd
 lb := h.lb
theorem Sn.hle {E : Env} {v0 : Vw} {w0 : World} {g0 : G} {v : Vw} {w w' : World} {g : G} (h : Sn v0 w0 g0 v w g) (k : HLe w w')
  (ho : ∀ i, i < g.wo → v0.rho i < w.heap.size) (ht : ∀ i, i < g.wt → v0.kap i < w.heap.size) : Sn v0 w0 g0 v w' g where
 size := Nat.le_trans h.size k.size
 os := k.os.trans h.os
 tape := k.tape.trans h.tape
 out := k.out.trans h.out
 ext := h.ext
 rho := h.rho
 kap := h.kap
 kapo := h.kapo
 kept := h.kept
 sg := h.sg
 other b hb h1 h2 := (k.of_lt (Nat.lt_of_lt_of_le hb h.size)).trans (h.other b hb h1 h2)
 wo := h.wo
 wt := h.wt
 objs i hi := ⟨(h.objs i hi).1, fun o e1 e2 => (k.of_lt (ho i hi)).trans ((h.objs i hi).2 o e1 e2)⟩
 toks i hi := ⟨(h.toks i hi).1, (k.of_lt (ht i hi)).trans (h.toks i hi).2.1, (h.toks i hi).2.2⟩
structure Base (v0 : Vw) (w0 : World) (g0 : G) : Prop where
 nobj : v0.nobj = g0.objs.length
 toks : v0.toks = g0.toks
 rho : ∀ i, i < v0.nobj → v0.rho i < w0.heap.size
 kap : ∀ i, i < v0.toks.length → v0.kap i < w0.heap.size
 ksg : ∀ i, i < v0.toks.length → v0.sg (v0.kap i) ≠ none
 rk : ∀ i k, i < v0.nobj → k < v0.toks.length → v0.rho i ≠ v0.kap k
theorem WR.base {E : Env} {v : Vw} {g : G} {w : World} (h : WR E v g w) : Base v w g :=
 ⟨h.nobj, h.toks, fun i hi => h.rho_lt hi, fun i hi => h.kap_lt hi, fun i hi => by obtain ⟨_, _, _, cs, _, _, _, e⟩ := h.tk i hi; rw [e]; simp,
  fun i k hi hk e => by
   obtain ⟨_, _, _, cs, _, _, _, e2⟩ := h.tk k hk
   have := h.osg i hi
   rw [e, e2] at this
   cases this⟩
theorem Rl.hle {E : Env} {v0 : Vw} {w0 : World} {g0 : G} {v : Vw} {lc : Nat → Nat → Option Nat} {s : St} {a : Act} {w w' : World} (B : Base v0 w0 g0) (h : Rl E v0 w0 g0 v lc s a w) (k : HLe w w') : Rl E v0 w0 g0 v lc s a w' where
 W := h.W.hle k
 F := h.F.hle k
 S := h.S.hle (E := E) k (fun i hi => Nat.lt_of_lt_of_le (B.rho i (by rw [B.nobj]; exact Nat.lt_of_lt_of_le hi h.S.wo)) h.S.size)
  (fun i hi => Nat.lt_of_lt_of_le (B.kap i (by rw [B.toks]; exact Nat.lt_of_lt_of_le hi h.S.wt)) h.S.size)
 H := h.H
def Vw.addSg (v : Vw) (b : Nat) (cs : Array Value) : Vw := { v with sg := upd v.sg b (some cs) }
theorem Ext.addSg {E : Env} {v : Vw} {g : G} {w : World} (h : WR E v g w) {b : Nat} (hb : v.sg b = none) (cs : Array Value) : Ext v (v.addSg b cs) where
 sg c ds e := by
  have : c ≠ b := by rintro rfl; rw [hb] at e; cases e
  exact ⟨#[], by simp [Vw.addSg, upd, this, e]⟩
 obj := Nat.le_refl _
 rho _ _ := rfl
 osz _ _ := rfl
 tok := Nat.le_refl _
 alive k p hk e := by
  refine ⟨p, e, Nat.le_refl _, fun _ => ⟨rfl, rfl, ?_⟩⟩
  obtain ⟨_, _, _, cs', _, _, _, e2⟩ := h.tk k hk
  have : v.kap k ≠ b := by intro he; rw [he, hb] at e2; cases e2
  simp [Vw.addSg, upd, this]
theorem RepO.ext {v v' : Vw} (hv : Ext v v') {o : Ob} {x : Option Obj} (h : RepO v o x) : RepO v' o x := by
 cases h with
 | cells h1 h2 => exact .cells h1 (h2.ext hv)
 | dead => exact .dead
 | map h1 h2 => exact .map h1 (fun i x m hx hm => ⟨(h2 i x m hx hm).1.ext hv.sg, (h2 i x m hx hm).2.1.ext hv, (h2 i x m hx hm).2.2⟩)
 | @iter m since seen stepped h =>
  have e : m.map v.rho = m.map v'.rho := by
   cases m with
   | none => rfl
   | some i => simp [hv.rho i (h i rfl)]
  rw [e]
  exact .iter (fun i hi => Nat.lt_of_lt_of_le (h i hi) hv.obj)
theorem WR.addSg {E : Env} {v : Vw} {g : G} {w : World} (h : WR E v g w) {b : Nat} (hb : v.sg b = none) {C cs : Array Value} {e : TypeId} {fr : Nat × Nat} (hc : w.heap[b]? = some (.cells C e fr))
  (hp : ∀ (i : Nat) (y : Value), cs[i]? = some y → C[i]? = some y) (hr : ∀ i, i < v.nobj → v.rho i ≠ b) : WR E (v.addSg b cs) g w where
 sg c ds e := by
  by_cases he : c = b
  ·subst he
   simp [Vw.addSg, upd] at e
   subst e
   exact ⟨C, _, fr, hc, hp⟩
  ·simp [Vw.addSg, upd, he] at e
   exact h.sg c ds e
 nobj := h.nobj
 toks := h.toks
 obj id o e := (h.obj id o e).ext (Ext.addSg h hb cs)
 inj := h.inj
 osz := h.osz
 osg i hi := by
  have := hr i hi
  simp [Vw.addSg, upd, this]
  exact h.osg i hi
 tk k hk := by
  obtain ⟨C', e', fr', cs', h1, h2, h3, h4⟩ := h.tk k hk
  have : v.kap k ≠ b := by intro he; rw [he, hb] at h4; cases h4
  exact ⟨C', e', fr', cs', h1, h2, h3, by simp [Vw.addSg, upd, this, h4]⟩
 tinj := h.tinj
 glob gid row e := (h.glob gid row e).ext (Ext.addSg h hb cs)
theorem FR.ext {v v' : Vw} {lc : Nat → Nat → Option Nat} {s : St} {a : Act} {w : World} (h : FR v lc s a w) (hv : Ext v v')
  (hs : ∀ t g cs b, s.rg t = some (g, cs) → lc t g = some b → v.sg b = none → v'.sg b = none)
  (hr : ∀ t g cs b, s.rg t = some (g, cs) → lc t g = some b → ∀ id, id < v'.nobj → v.nobj ≤ id → v'.rho id ≠ b) : FR v' lc s a w where
 nt := h.nt
 df := h.df
 tm t := (h.tm t).ext hv (fun _ _ _ h => h)
 rg t g cs e := by
  obtain ⟨b, C, el, fr, h1, h2, h3, h4, h5, h6⟩ := h.rg t g cs e
  refine ⟨b, C, el, fr, h1, h2, h3, h4.ext hv, hs t g cs b e h1 h5, fun id hid => ?_⟩
  by_cases hlt : id < v.nobj
  ·rw [hv.rho id hlt]; exact h6 id hlt
  ·exact hr t g cs b e h1 id hid (by omega)
 rd := h.rd
 lb := h.lb
theorem Rl.pushI {E : Env} {v0 : Vw} {w0 : World} {g0 : G} {v : Vw} {lc : Nat → Nat → Option Nat} {s : St} {a : Act} {w : World} (B : Base v0 w0 g0) (h : Rl E v0 w0 g0 v lc s a w)
  (C cs : Array Value) (e : TypeId) (fr : Nat × Nat) (hp : ∀ (i : Nat) (y : Value), cs[i]? = some y → C[i]? = some y) :
  Ext v (v.addSg w.heap.size cs) ∧ Rl E v0 w0 g0 (v.addSg w.heap.size cs) lc s a { w with heap := w.heap.push (.cells C e fr) } := by
 have k : HLe w { w with heap := w.heap.push (.cells C e fr) } := HLe.push w _
 have hn : v.sg w.heap.size = none := by
  cases hs : v.sg w.heap.size with
  | none => rfl
  | some ds => exact absurd (h.W.sg_lt hs) (Nat.lt_irrefl _)
 have hx := Ext.addSg h.W hn cs
 have h1 := h.hle B k
 refine ⟨hx, ⟨h1.W.addSg hn (C := C) (e := e) (fr := fr) (by simp) hp (fun i hi => Nat.ne_of_lt (h.W.rho_lt hi)), ?_, ?_, h.H⟩⟩
 ·refine h1.F.ext hx (fun t g ds b e1 e2 e3 => ?_) (fun t g ds b e1 e2 id hid hle => absurd hid (by simp [Vw.addSg]; omega))
  obtain ⟨b', C', el, fr', q1, q2, _⟩ := h.F.rg t g ds e1
  rw [e2] at q1
  injection q1 with q1
  subst q1
  have := get_lt q2
  have hne : b ≠ w.heap.size := by omega
  simp [Vw.addSg, upd, hne, e3]
 ·have S := h1.S
  exact ⟨S.size, S.os, S.tape, S.out, S.ext.trans hx, S.rho, S.kap, S.kapo, S.kept, fun b hb hb2 => by
   have : b ≠ w.heap.size := by have := h.S.size; omega
   simp [Vw.addSg, upd, this]; exact S.sg b hb hb2, S.other, S.wo, S.wt, S.objs, fun i hi => by
   refine ⟨(S.toks i hi).1, (S.toks i hi).2.1, ?_⟩
   have : v0.kap i ≠ w.heap.size := by
    have := B.kap i (by rw [B.toks]; exact Nat.lt_of_lt_of_le hi h.S.wt)
    have := h.S.size
    omega
   simp [Vw.addSg, upd, this]
   exact (S.toks i hi).2.2⟩
end Go.Vm
set_option linter.unusedVariables false
namespace Go.Vm
open Go
def Vw.addObj (v : Vw) (b : Nat) (n : Nat := 0) : Vw := { v with rho := upd v.rho v.nobj b, osz := upd v.osz v.nobj n, nobj := v.nobj + 1 }
theorem Ext.addObj (v : Vw) (b : Nat) (n : Nat := 0) : Ext v (v.addObj b n) where
 sg c ds e := ⟨#[], by simpa [Vw.addObj] using e⟩
 obj := by simp [Vw.addObj]
 rho i hi := by
  have : i ≠ v.nobj := by omega
  simp [Vw.addObj, upd, this]
 osz i hi := by
  have : i ≠ v.nobj := by omega
  simp [Vw.addObj, upd, this]
 tok := Nat.le_refl _
 alive k p _ e := ⟨p, e, Nat.le_refl _, fun _ => ⟨rfl, rfl, rfl⟩⟩
theorem Rl.pushO {E : Env} {v0 : Vw} {w0 : World} {g0 : G} {v : Vw} {lc : Nat → Nat → Option Nat} {s : St} {a : Act} {w : World} (B : Base v0 w0 g0) (h : Rl E v0 w0 g0 v lc s a w)
  (o : Ob) (O : Obj) (n : Nat) (hsz : ∀ C e fr, O = .cells C e fr → C.size = n) (ho : RepO (v.addObj w.heap.size n) o (some O)) :
  Ext v (v.addObj w.heap.size n) ∧ Rl E v0 w0 g0 (v.addObj w.heap.size n) lc { s with g := s.g.newObj o } a { w with heap := w.heap.push O } := by
 have k : HLe w { w with heap := w.heap.push O } := HLe.push w _
 have hx := Ext.addObj v w.heap.size n
 have h1 := h.hle B k
 have hn : v.nobj = s.g.objs.length := h.W.nobj
 refine ⟨hx, ⟨⟨?_, ?_, ?_, ?_, ?_, ?_, ?_, ?_, ?_, ?_⟩, ?_, ?_, h.H⟩⟩
 ·exact h1.W.sg
 ·simp [Vw.addObj, G.newObj, hn]
 ·exact h1.W.toks
 ·intro id ob e
  by_cases hid : id < s.g.objs.length
  ·have e1 : s.g.objs[id]? = some ob := by simpa [G.newObj, List.getElem?_append_left hid] using e
   rw [hx.rho id (by omega)]
   exact (h1.W.obj id ob e1).ext hx
  ·have hlt := (List.getElem?_eq_some_iff.1 e).1
   simp [G.newObj] at hlt
   have hid' : id = s.g.objs.length := by omega
   subst hid'
   simp [G.newObj] at e
   subst e
   have : (v.addObj w.heap.size n).rho s.g.objs.length = w.heap.size := by simp [Vw.addObj, upd, hn]
   rw [this]
   simpa using ho
 ·intro i j oi oj hi hj hoi hoj e
  have lt : ∀ {k ob}, (s.g.newObj o).objs[k]? = some ob → k < v.nobj + 1 := by
   intro k ob hk
   have := (List.getElem?_eq_some_iff.1 hk).1
   simp [G.newObj] at this
   omega
  have old : ∀ {k ob}, (s.g.newObj o).objs[k]? = some ob → k ≠ v.nobj → s.g.objs[k]? = some ob := by
   intro k ob hk hne
   have := lt hk
   simpa [G.newObj, List.getElem?_append_left (show k < s.g.objs.length by omega)] using hk
  have hli := lt hi
  have hlj := lt hj
  simp only [Vw.addObj] at e
  by_cases h2 : i = v.nobj
  ·by_cases h3 : j = v.nobj
   ·omega
   ·have := h.W.rho_lt (show j < v.nobj by omega)
    simp [upd, h2, h3] at e
    omega
  ·by_cases h3 : j = v.nobj
   ·have := h.W.rho_lt (show i < v.nobj by omega)
    simp [upd, h2, h3] at e
    omega
   ·simp [upd, h2, h3] at e
    exact h.W.inj i j oi oj (old hi h2) (old hj h3) hoi hoj e
 ·intro i hi C el fr hc
  simp only [Vw.addObj] at hi hc ⊢
  by_cases h2 : i = v.nobj
  ·simp [upd, h2] at hc ⊢
   exact hsz C el fr hc
  ·simp only [upd, h2, if_false] at hc ⊢
   exact h1.W.osz i (by omega) C el fr hc
 ·intro i hi
  simp only [Vw.addObj] at hi ⊢
  by_cases h2 : i = v.nobj
  ·simp [upd, h2]
   cases hs : v.sg w.heap.size with
   | none => rfl
   | some ds => exact absurd (h.W.sg_lt hs) (Nat.lt_irrefl _)
  ·simp [upd, h2]
   exact h.W.osg i (by omega)
 ·exact h1.W.tk
 ·exact h1.W.tinj
 ·exact fun gid row e => (h1.W.glob gid row e).ext hx
 ·have F := h1.F.ext hx (fun t g cs b _ _ e => e) (fun t g cs b e1 e2 id hid hle => by
   have : id = v.nobj := by simp [Vw.addObj] at hid; omega
   subst this
   obtain ⟨b', C', el, fr', q1, q2, _⟩ := h.F.rg t g cs e1
   rw [e2] at q1
   injection q1 with q1
   subst q1
   have := get_lt q2
   simp [Vw.addObj, upd]
   omega)
  exact ⟨F.nt, F.df, F.tm, F.rg, F.rd, F.lb⟩
 ·have S := h1.S
  exact ⟨S.size, S.os, S.tape, S.out, S.ext.trans hx, fun i hi hlt => by
   simp only [Vw.addObj] at hlt ⊢
   by_cases h2 : i = v.nobj
   ·simp [upd, h2]; exact .inl h.S.size
   ·simp [upd, h2]; exact S.rho i hi (by omega), S.kap, S.kapo, S.kept, S.sg, S.other, S.wo, S.wt, fun i hi => by
   refine ⟨?_, (S.objs i hi).2⟩
   have h2 := (S.objs i hi).1
   have : i < s.g.objs.length := by
    have hlt : i < g0.objs.length := Nat.lt_of_lt_of_le hi S.wo
    rw [List.getElem?_eq_getElem hlt] at h2
    exact (List.getElem?_eq_some_iff.1 h2).1
   show (s.g.objs ++ [o])[i]? = _
   rw [List.getElem?_append_left this]
   exact h2, S.toks⟩
def addLc (lc : Nat → Nat → Option Nat) (t g b : Nat) : Nat → Nat → Option Nat := fun t' g' => if t' = t ∧ g' = g then some b else lc t' g'
theorem Rl.pushR {E : Env} {v0 : Vw} {w0 : World} {g0 : G} {v : Vw} {lc : Nat → Nat → Option Nat} {s : St} {a : Act} {w : World} (B : Base v0 w0 g0) (h : Rl E v0 w0 g0 v lc s a w)
  (t g : Nat) (cs : List V) (C : Array Value) (e : TypeId) (hg : ∀ g' ds, s.rg t = some (g', ds) → g' < g) (hC : RepL v cs C.toList) :
  (∀ t' g' b, lc t' g' = some b → addLc lc t g w.heap.size t' g' = some b) ∧
  Rl E v0 w0 g0 v (addLc lc t g w.heap.size) { s with rg := upd s.rg t (some (g, cs)) } a { w with heap := w.heap.push (.cells C e) } := by
 have k : HLe w { w with heap := w.heap.push (.cells C e) } := HLe.push w _
 have h1 := h.hle B k
 have hl : ∀ t' g' b, lc t' g' = some b → addLc lc t g w.heap.size t' g' = some b := by
  intro t' g' b e1
  unfold addLc
  split
  ·rename_i hh
   obtain ⟨rfl, rfl⟩ := hh
   obtain ⟨g2, ds, e2, hle⟩ := h.F.lb _ _ _ e1
   exact absurd (hg g2 ds e2) (by omega)
  ·exact e1
 have hblk : ∀ t' g' ds b, s.rg t' = some (g', ds) → lc t' g' = some b → b < w.heap.size := by
  intro t' g' ds b e1 e2
  obtain ⟨b', C', el, fr', q1, q2, _⟩ := h.F.rg t' g' ds e1
  rw [e2] at q1
  injection q1 with q1
  subst q1
  exact get_lt q2
 refine ⟨hl, ⟨h1.W, ⟨h1.F.nt, h1.F.df, fun t' => (h1.F.tm t').ext (Ext.refl v) hl, ?_, ?_, ?_⟩, h1.S, ?_⟩⟩
 ·intro t' g' ds e1
  by_cases ht : t' = t
  ·subst ht
   simp [upd] at e1
   obtain ⟨rfl, rfl⟩ := e1
   refine ⟨w.heap.size, C, e, (0, 0), by simp [addLc], by simp, fun i hi hh => by simp at hh, hC, ?_, fun id hid => Nat.ne_of_lt (h.W.rho_lt hid)⟩
   cases hs : v.sg w.heap.size with
   | none => rfl
   | some ds => exact absurd (h.W.sg_lt hs) (Nat.lt_irrefl _)
  ·simp [upd, ht] at e1
   obtain ⟨b, C', el, fr, q1, q2⟩ := h1.F.rg t' g' ds e1
   exact ⟨b, C', el, fr, hl _ _ _ q1, q2⟩
 ·intro t1 t2 g1 g2 c1 c2 b e1 e2 l1 l2
  by_cases h1' : t1 = t <;> by_cases h2' : t2 = t
  ·rw [h1', h2']
  ·exfalso
   subst h1'
   simp [upd] at e1
   obtain ⟨rfl, rfl⟩ := e1
   simp [upd, h2'] at e2
   simp [addLc] at l1
   simp [addLc, h2'] at l2
   have := hblk _ _ _ _ e2 l2
   omega
  ·exfalso
   subst h2'
   simp [upd] at e2
   obtain ⟨rfl, rfl⟩ := e2
   simp [upd, h1'] at e1
   simp [addLc] at l2
   simp [addLc, h1'] at l1
   have := hblk _ _ _ _ e1 l1
   omega
  ·simp [upd, h1'] at e1
   simp [upd, h2'] at e2
   simp [addLc, h1'] at l1
   simp [addLc, h2'] at l2
   exact h.F.rd t1 t2 g1 g2 c1 c2 b e1 e2 l1 l2
 ·intro t' g' b e1
  by_cases ht : t' = t
  ·subst ht
   refine ⟨g, cs, by simp [upd], ?_⟩
   by_cases hgg : g' = g
   ·omega
   ·simp [addLc, hgg] at e1
    obtain ⟨g2, ds, e2, hle⟩ := h.F.lb _ _ _ e1
    have := hg g2 ds e2
    omega
  ·simp [addLc, ht] at e1
   obtain ⟨g2, ds, e2, hle⟩ := h.F.lb _ _ _ e1
   exact ⟨g2, ds, by simp [upd, ht, e2], hle⟩
 ·intro t' g' b e1
  unfold addLc at e1
  split at e1
  ·injection e1 with e1
   subst e1
   exact h.S.size
  ·exact h.H t' g' b e1
end Go.Vm
set_option linter.unusedVariables false
namespace Go.Vm
open Go
structure Wrote (w w' : World) (b : Nat) (O : Obj) : Prop where
 at_ : w'.heap[b]? = some O
 other : ∀ (c : Nat), c ≠ b → w'.heap[c]? = w.heap[c]?
 size : w'.heap.size = w.heap.size
 os : w'.os = w.os
 tape : Tp w w'
 out : w'.output = w.output
theorem add_addr (b off n : Nat) : (⟨b, off, none⟩ : Addr).add n = ⟨b, off + n, none⟩ := by
 unfold Addr.add
 split
 ·rename_i h; subst h; rfl
 ·rfl
theorem cell_of {w : World} {b : Nat} {C : Array Value} {e : TypeId} {fr : Nat × Nat} (h : w.heap[b]? = some (.cells C e fr)) (i : Nat) : w.cell? ⟨b, i, none⟩ = C[i]? := by
 simp [World.cell?, h]
theorem frozen_of {w : World} {b : Nat} {C : Array Value} {e : TypeId} {fr : Nat × Nat} (h : w.heap[b]? = some (.cells C e fr)) (hf : Free fr C.size) {i : Nat} (hi : i < C.size) : w.frozen? ⟨b, i, none⟩ = false := by
 have := hf i hi
 simp only [World.frozen?, h]
 obtain ⟨lo, hi'⟩ := fr
 simp only [Bool.and_eq_false_iff, decide_eq_false_iff_not] at *
 by_cases h1 : lo ≤ i
 ·exact .inr (fun h2 => this ⟨h1, h2⟩)
 ·exact .inl h1
theorem setCell_wrote {w : World} {b : Nat} {C : Array Value} {e : TypeId} {fr : Nat × Nat} (h : w.heap[b]? = some (.cells C e fr)) (i : Nat) (y : Value) :
  Wrote w (w.setCell ⟨b, i, none⟩ y) b (.cells (C.setIfInBounds i y) e fr) where
 at_ := by simp [World.setCell, Array.getElem?_modify, h]
 other c hc := by
  have : b ≠ c := fun e => hc e.symm
  simp [World.setCell, Array.getElem?_modify, this]
 size := by simp [World.setCell]
 os := rfl
 tape := ⟨rfl, Nat.le_refl _⟩
 out := rfl
theorem Wrote.trans {w w1 w2 : World} {b : Nat} {O1 O2 : Obj} (h : Wrote w w1 b O1) (k : Wrote w1 w2 b O2) : Wrote w w2 b O2 :=
 ⟨k.at_, fun c hc => (k.other c hc).trans (h.other c hc), k.size.trans h.size, k.os.trans h.os, k.tape.trans h.tape, k.out.trans h.out⟩
theorem run_storeCells (P : Program) (b off : Nat) (e : TypeId) (fr : Nat × Nat) : ∀ (ys : List Value) (i : Nat) (C : Array Value) (w : World), w.heap[b]? = some (.cells C e fr) → Free fr C.size →
  off + i + ys.length ≤ C.size → (∀ y ∈ ys, y.oneCell' = true) → ∃ w' C', (storeCells ⟨b, off, none⟩ ys i).run P w = .ok () w' ∧ C'.size = C.size ∧ Wrote w w' b (.cells C' e fr) ∧
   (∀ (j : Nat), C'[j]? = if off + i ≤ j ∧ j < off + i + ys.length then ys[j - (off + i)]? else C[j]?)
 | [], i, C, w, h, hf, hl, h1 => ⟨w, C, rfl, rfl, ⟨h, fun _ _ => rfl, rfl, rfl, Tp.refl _, rfl⟩, fun j => by
   have : ¬ (off + i ≤ j ∧ j < off + i + ([] : List Value).length) := by simp
   rw [if_neg this]⟩
 | y :: ys, i, C, w, h, hf, hl, h1 => by
  simp only [List.length_cons] at hl
  have hy : y.oneCell' = true := h1 y (by simp)
  have hi : off + i < C.size := by omega
  have hc : w.cell? ⟨b, off + i, none⟩ = some C[off + i] := by rw [cell_of h]; exact Array.getElem?_eq_getElem hi
  have hz := frozen_of h hf hi
  have hw := setCell_wrote h (off + i) y
  obtain ⟨w', C', hr, hs, hW, hC⟩ := run_storeCells P b off e fr ys (i + 1) (C.setIfInBounds (off + i) y) (w.setCell ⟨b, off + i, none⟩ y) hw.at_ (by simpa using hf) (by simp; omega) (fun z hz => h1 z (by simp [hz]))
  refine ⟨w', C', ?_, by simpa using hs, hw.trans hW, fun j => ?_⟩
  ·rw [storeCells, Sem.run_bind, add_addr, run_store P w _ y _ hy, hc]
   simp only [hz, Bool.false_eq_true, if_false, Result.andThen_ok]
   exact hr
  ·rw [hC j]
   by_cases hj : off + (i + 1) ≤ j ∧ j < off + (i + 1) + ys.length
   ·rw [if_pos hj, if_pos (by simp; omega)]
    have : j - (off + i) = (j - (off + (i + 1))) + 1 := by omega
    rw [this, List.getElem?_cons_succ]
   ·rw [if_neg hj]
    by_cases h2 : j = off + i
    ·subst h2
     rw [if_pos (by simp)]
     simp [hi]
    ·rw [if_neg (by simp; omega), Array.getElem?_setIfInBounds]
     have : off + i ≠ j := fun e => h2 e.symm
     simp [this]
theorem put_rep {v : Vw} {cs vs cs' : List V} {C C' : Array Value} {ys : List Value} {off : Nat} (hp : put? cs off vs = some cs') (hC : RepL v cs C.toList) (hy : RepL v vs ys) (hs : C'.size = C.size)
  (hc : ∀ (j : Nat), C'[j]? = if off + 0 ≤ j ∧ j < off + 0 + ys.length then ys[j - (off + 0)]? else C[j]?) : RepL v cs' C'.toList ∧ off + ys.length ≤ C.size := by
 unfold put? at hp
 split at hp
 ·rename_i hle
  injection hp with hp
  subst hp
  have hl := hC.1
  have hvl := hy.1
  simp only [Array.length_toList] at hl
  refine ⟨⟨?_, fun i x y hx hyy => ?_⟩, by omega⟩
  ·simp [hs]; omega
  ·rw [Array.getElem?_toList, hc] at hyy
   simp only [Nat.add_zero] at hyy
   by_cases h1 : i < off
   ·rw [if_neg (by omega)] at hyy
    rw [List.getElem?_append_left (by simp; omega), List.getElem?_append_left (by simp; omega), List.getElem?_take, if_pos h1] at hx
    exact hC.2 i x y hx (by rw [Array.getElem?_toList]; exact hyy)
   ·by_cases h2 : i < off + vs.length
    ·rw [if_pos (by omega)] at hyy
     rw [List.getElem?_append_left (by simp; omega), List.getElem?_append_right (by simp; omega)] at hx
     have e : (List.take off cs).length = off := by simp; omega
     rw [e] at hx
     exact hy.2 _ x y hx hyy
    ·rw [if_neg (by omega)] at hyy
     have e : (List.take off cs ++ vs).length = off + vs.length := by simp; omega
     rw [List.getElem?_append_right (by omega), e, List.getElem?_drop] at hx
     have e2 : off + vs.length + (i - (off + vs.length)) = i := by omega
     rw [e2] at hx
     exact hC.2 i x y hx (by rw [Array.getElem?_toList]; exact hyy)
 ·cases hp
theorem WR.wrote {E : Env} {v : Vw} {g : G} {w w' : World} (h : WR E v g w) {b : Nat} {O : Obj} (k : Wrote w w' b O) (hb : v.sg b = none) (hr : ∀ i, i < v.nobj → v.rho i ≠ b) : WR E v g w' where
 sg c ds e := by
  have : c ≠ b := by rintro rfl; rw [hb] at e; cases e
  rw [k.other c this]
  exact h.sg c ds e
 nobj := h.nobj
 toks := h.toks
 obj id o e := by
  have hi : id < v.nobj := by rw [h.nobj]; exact (List.getElem?_eq_some_iff.1 e).1
  rw [k.other _ (hr id hi)]
  exact h.obj id o e
 inj := h.inj
 osz i hi C e fr hc := h.osz i hi C e fr (by rw [← k.other _ (hr i hi)]; exact hc)
 osg := h.osg
 tk i hi := by
  obtain ⟨C, e, fr, cs, h1, h2, h3, h4⟩ := h.tk i hi
  have : v.kap i ≠ b := by intro e; rw [e, hb] at h4; cases h4
  exact ⟨C, e, fr, cs, by rw [k.other _ this]; exact h1, h2, h3, h4⟩
 tinj := h.tinj
 glob gid row e := (h.glob gid row e).to (Ext.refl v) fun C el fr cs h1 h2 => by
  have : gid ≠ b := by rintro rfl; rw [hb] at h1; cases h1
  exact ⟨C, el, fr, by rw [k.other _ this]; exact h2, rfl⟩
theorem Sn.wrote {v0 : Vw} {w0 : World} {g0 : G} {v : Vw} {w w' : World} {g : G} (B : Base v0 w0 g0) (h : Sn v0 w0 g0 v w g) {b : Nat} {O : Obj} (k : Wrote w w' b O) (hb : w0.heap.size ≤ b) : Sn v0 w0 g0 v w' g where
 size := by rw [k.size]; exact h.size
 os := k.os.trans h.os
 tape := k.tape.trans h.tape
 out := k.out.trans h.out
 ext := h.ext
 rho := h.rho
 kap := h.kap
 kapo := h.kapo
 kept := h.kept
 sg := h.sg
 other c hc h1 h2 := (k.other c (by omega)).trans (h.other c hc h1 h2)
 wo := h.wo
 wt := h.wt
 objs i hi := by
  have := B.rho i (by rw [B.nobj]; exact Nat.lt_of_lt_of_le hi h.wo)
  exact ⟨(h.objs i hi).1, fun o e1 e2 => (k.other _ (by omega)).trans ((h.objs i hi).2 o e1 e2)⟩
 toks i hi := by
  have := B.kap i (by rw [B.toks]; exact Nat.lt_of_lt_of_le hi h.wt)
  exact ⟨(h.toks i hi).1, (k.other _ (by omega)).trans (h.toks i hi).2.1, (h.toks i hi).2.2⟩
theorem Rl.storeR {E : Env} {v0 : Vw} {w0 : World} {g0 : G} {v : Vw} {lc : Nat → Nat → Option Nat} {s : St} {a : Act} {w w' : World} (B : Base v0 w0 g0) (h : Rl E v0 w0 g0 v lc s a w)
  {t g b : Nat} {cs cs' : List V} {C' : Array Value} {e : TypeId} {fr : Nat × Nat} (hg : s.rg t = some (g, cs)) (hl : lc t g = some b) (k : Wrote w w' b (.cells C' e fr)) (hf : Free fr C'.size) (hC : RepL v cs' C'.toList) :
  Rl E v0 w0 g0 v lc { s with rg := upd s.rg t (some (g, cs')) } a w' := by
 obtain ⟨b', C, el, fr', q1, q2, q3, q4, q5, q6⟩ := h.F.rg t g cs hg
 rw [hl] at q1
 injection q1 with q1
 subst q1
 refine ⟨h.W.wrote k q5 q6, ⟨h.F.nt, h.F.df, h.F.tm, ?_, ?_, ?_⟩, h.S.wrote B k (h.H t g b hl), h.H⟩
 ·intro t' g' ds e1
  by_cases ht : t' = t
  ·subst ht
   simp [upd] at e1
   obtain ⟨rfl, rfl⟩ := e1
   exact ⟨b, C', e, fr, hl, k.at_, hf, hC, q5, q6⟩
  ·simp [upd, ht] at e1
   obtain ⟨b2, C2, el2, fr2, p1, p2, p3⟩ := h.F.rg t' g' ds e1
   have : b2 ≠ b := by
    rintro rfl
    exact ht (h.F.rd t' t g' g ds cs b2 e1 hg p1 hl)
   exact ⟨b2, C2, el2, fr2, p1, by rw [k.other _ this]; exact p2, p3⟩
 ·intro t1 t2 g1 g2 c1 c2 b3 e1 e2 l1 l2
  have f : ∀ t' g' ds, upd s.rg t (some (g, cs')) t' = some (g', ds) → ∃ ds', s.rg t' = some (g', ds') := by
   intro t' g' ds e1
   by_cases ht : t' = t
   ·subst ht
    simp [upd] at e1
    obtain ⟨rfl, rfl⟩ := e1
    exact ⟨_, hg⟩
   ·simp [upd, ht] at e1
    exact ⟨_, e1⟩
  obtain ⟨d1, e1'⟩ := f _ _ _ e1
  obtain ⟨d2, e2'⟩ := f _ _ _ e2
  exact h.F.rd t1 t2 g1 g2 d1 d2 b3 e1' e2' l1 l2
 ·intro t' g' b3 e1
  obtain ⟨g2, ds, e2, hle⟩ := h.F.lb t' g' b3 e1
  by_cases ht : t' = t
  ·subst ht
   rw [hg] at e2
   injection e2 with e2
   simp only [Prod.mk.injEq] at e2
   obtain ⟨rfl, rfl⟩ := e2
   exact ⟨g, cs', by simp [upd], hle⟩
  ·exact ⟨g2, ds, by simp [upd, ht, e2], hle⟩
theorem Rl.storeO {E : Env} {v0 : Vw} {w0 : World} {g0 : G} {v : Vw} {lc : Nat → Nat → Option Nat} {s : St} {a : Act} {w w' : World} (B : Base v0 w0 g0) (h : Rl E v0 w0 g0 v lc s a w)
  {id : Nat} {o : Ob} {O : Obj} (hid : id < s.g.objs.length) (hlv : ∃ o0, s.g.objs[id]? = some o0 ∧ o0.live = true) (k : Wrote w w' (v.rho id) O)
  (hsz : ∀ C' e fr, O = .cells C' e fr → ∃ C e fr, w.heap[v.rho id]? = some (.cells C e fr) ∧ C'.size = C.size) (ho : RepO v o (some O)) :
  Rl E v0 w0 g0 v lc { s with g := s.g.setObj id o } a w' := by
 have hn : v.nobj = s.g.objs.length := h.W.nobj
 have hid' : id < v.nobj := by omega
 have hsg := h.W.osg id hid'
 have W := h.W
 have S := h.S
 obtain ⟨o0, hlv1, hlv2⟩ := hlv
 have olds : ∀ {i : Nat} {ob : Ob}, (s.g.objs.set id o)[i]? = some ob → ob.live = true → ∃ ob' : Ob, s.g.objs[i]? = some ob' ∧ ob'.live = true := by
  intro i ob e hl
  by_cases hi : i = id
  ·subst hi; exact ⟨o0, hlv1, hlv2⟩
  ·rw [List.getElem?_set_ne (fun h => hi h.symm)] at e; exact ⟨ob, e, hl⟩
 refine ⟨⟨?_, ?_, W.toks, ?_, ?_, ?_, W.osg, ?_, W.tinj, fun gid row e => (W.glob gid row e).to (Ext.refl v) fun C el fr cs h1 h2 => ⟨C, el, fr, by rw [k.other _ (by rintro rfl; rw [hsg] at h1; cases h1)]; exact h2, rfl⟩⟩, ⟨h.F.nt, h.F.df, h.F.tm, ?_, h.F.rd, h.F.lb⟩, ?_, h.H⟩
 ·intro c ds e
  have : c ≠ v.rho id := by rintro rfl; rw [hsg] at e; cases e
  rw [k.other c this]
  exact W.sg c ds e
 ·simp [G.setObj, hn]
 ·intro i ob e
  by_cases hi : i = id
  ·subst hi
   simp [G.setObj, hid] at e
   subst e
   rw [k.at_]
   exact ho
  ·have e1 : s.g.objs[i]? = some ob := by
    simp only [G.setObj] at e
    rw [List.getElem?_set_ne (fun h => hi h.symm)] at e
    exact e
   have hi2 : i < v.nobj := by rw [hn]; exact (List.getElem?_eq_some_iff.1 e1).1
   by_cases hl : ob.live = true
   ·have : v.rho i ≠ v.rho id := fun e => hi (W.inj i id ob o0 e1 hlv1 hl hlv2 e)
    rw [k.other _ this]
    exact W.obj i ob e1
   ·cases ob with
    | dead =>
     obtain ⟨y, hy⟩ : ∃ y, w'.heap[v.rho i]? = some y := by
      have := W.rho_lt hi2
      rw [← k.size] at this
      exact ⟨_, Array.getElem?_eq_getElem this⟩
     rw [hy]
     exact .dead
    | _ => exact absurd rfl hl
 ·intro i j oi oj hi hj hoi hoj e
  obtain ⟨_, q1, q2⟩ := olds hi hoi
  obtain ⟨_, q3, q4⟩ := olds hj hoj
  exact W.inj i j _ _ q1 q3 q2 q4 e
 ·intro i hi C e fr hc
  by_cases hb : v.rho i = v.rho id
  ·rw [hb, k.at_] at hc
   injection hc with hc
   obtain ⟨C0, e0, fr0, h1, h2⟩ := hsz C e fr hc
   rw [h2]
   exact W.osz i hi C0 e0 fr0 (by rw [hb]; exact h1)
  ·exact W.osz i hi C e fr (by rw [← k.other _ hb]; exact hc)
 ·intro i hi
  obtain ⟨C, e, fr, cs, h1, h2, h3, h4⟩ := W.tk i hi
  have : v.kap i ≠ v.rho id := by intro e; rw [e, hsg] at h4; cases h4
  exact ⟨C, e, fr, cs, by rw [k.other _ this]; exact h1, h2, h3, h4⟩
 ·intro t g ds e1
  obtain ⟨b2, C2, el2, fr2, p1, p2, p3, p4, p5, p6⟩ := h.F.rg t g ds e1
  exact ⟨b2, C2, el2, fr2, p1, by rw [k.other _ (fun e => p6 id hid' e.symm)]; exact p2, p3, p4, p5, p6⟩
 ·have hne : ∀ i oi, s.g.objs[i]? = some oi → oi.live = true → i < v0.nobj → i ≠ id → v0.rho i ≠ v.rho id := by
   intro i oi h1 h2 hi hne e
   have h3 := S.ext.rho i hi
   rw [← h3] at e
   exact hne (W.inj i id oi o0 h1 hlv1 h2 hlv2 e)
  have hk : ∀ i, i < v0.toks.length → i < s.g.wt → v0.kap i ≠ v.rho id := by
   intro i hi hiw e
   have h1 := S.kept i hiw
   obtain ⟨_, _, _, cs, _, _, _, h4⟩ := W.tk i (Nat.lt_of_lt_of_le hi S.ext.tok)
   rw [h1, e, hsg] at h4
   cases h4
  refine ⟨by rw [k.size]; exact S.size, k.os.trans S.os, k.tape.trans S.tape, k.out.trans S.out, S.ext, ?_, S.kap, S.kapo, S.kept, S.sg, ?_, ?_, S.wt, ?_, ?_⟩
  ·intro i h1 h2
   rcases S.rho i h1 h2 with q | ⟨j, q1, q2, q3⟩
   ·exact .inl q
   ·exact .inr ⟨j, Nat.le_trans (Nat.min_le_left _ _) q1, q2, q3⟩
  ·intro c hc h1 h2
   have : c ≠ v.rho id := by
    rintro rfl
    by_cases hlt : id < v0.nobj
    ·exact h1 id hlt (S.ext.rho id hlt).symm
    ·rcases S.rho id (by omega) hid' with q | ⟨j, q1, q2, q3⟩
     ·omega
     ·exact h1 j q2 q3.symm
   exact (k.other c this).trans (S.other c hc h1 h2)
  ·show min s.g.wo id ≤ g0.objs.length
   have := S.wo
   omega
  ·intro i hi
   have hi' : i < s.g.wo ∧ i < id := by simpa [G.setObj, Nat.lt_min] using hi
   have h1 := S.objs i hi'.1
   have hlt : i < v0.nobj := by rw [B.nobj]; exact Nat.lt_of_lt_of_le hi'.1 S.wo
   refine ⟨?_, fun o1 e1 e2 => (k.other _ (hne i o1 (by rw [h1.1]; exact e1) e2 hlt (by omega))).trans (h1.2 o1 e1 e2)⟩
   show (s.g.objs.set id o)[i]? = _
   rw [List.getElem?_set_ne (by omega)]
   exact h1.1
  ·intro i hi
   have h1 := S.toks i hi
   have hlt : i < v0.toks.length := by rw [B.toks]; exact Nat.lt_of_lt_of_le hi S.wt
   exact ⟨h1.1, (k.other _ (hk i hlt hi)).trans h1.2.1, h1.2.2⟩
end Go.Vm
