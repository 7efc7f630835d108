/- The abstract machine, 1: its values, blocks, states; what an operation comes to. Definitions only. -/
import Derived.Calls
import Derived.Maps.AppendAt
set_option linter.unusedVariables false
namespace Go.Proofs.Ai
open Go

/-- Frozen data: a scalar, or a slice that nobody writes any more: its elements, each its cells (sz each); a map that nobody writes any more. -/
inductive FV where
  | sc (v : Value)
  | sl (sz : Nat) (xs : List (List FV))
  | mp (es : Array MapEntry) (clock : Nat)
  deriving Inhabited

/-- Abstract values: frozen data; a struct by its cells; an own row whole; an own object (a map, an iterator); a piece of an own row (m elements from o on); a pointer to cell o of a variable; to cell j of element i of a row; to frozen cells; an interface value; a function value; a tuple; anything. -/
inductive AV where
  | fz (f : FV)
  | agg (l : List AV)
  | own (b : Nat)
  | ob (b : Nat)
  | vw (b o m : Nat)
  | ptr (b o : Nat)
  | ep (b i j : Nat)
  | fp (cs : List FV)
  | ifc (t : TypeId) (x : AV)
  | fn (f : Fn) (first captured : List AV)
  | tup (l : List AV)
  | junk
  deriving Inhabited

abbrev AV.sc (v : Value) : AV := .fz (.sc v)

inductive Blk where
  | var (ty : TypeId) (cells : List AV)
  | row (ty : TypeId) (sz : Nat) (els : List (List FV))
  | obj (o : Obj)
  deriving Inhabited

abbrev AHeap := List (Option Blk)

inductive Hint where
  | br (b : Bool)
  | el (x : List FV)
  | ok
  | is (op : BinOp) (v : Value)
  | cut
  deriving Inhabited

def All : List Prop → Prop
  | [] => True
  | p :: r => p ∧ All r

structure St where
  tmps : List AV
  heap : AHeap
  base : Nat
  hints : List Hint
  cond : List Prop

inductive AExit where
  | normal | exit (id : Nat) | ret
  deriving Inhabited

def getT : List AV → Nat → AV
  | [], _ => .junk
  | x :: _, 0 => x
  | _ :: r, n + 1 => getT r n
def setT : List AV → Nat → AV → List AV
  | [], _, _ => []
  | _ :: r, 0, v => v :: r
  | x :: r, n + 1, v => x :: setT r n v
def getH : AHeap → Nat → Option Blk
  | [], _ => none
  | x :: _, 0 => x
  | _ :: r, n + 1 => getH r n
def setH : AHeap → Nat → Option Blk → AHeap
  | [], _, _ => []
  | _ :: r, 0, v => v :: r
  | x :: r, n + 1, v => x :: setH r n v
def putT (ts : List AV) : Option Tmp → AV → List AV
  | some d, v => setT ts d v
  | none, _ => ts

def ofValue : Value → AV
  | .agg cs => if cs.toList.all (·.oneCell') then .agg (cs.toList.map AV.sc) else .junk
  | .tuple _ => .junk
  | v => .sc v
def evalA (ts : List AV) : Operand → AV
  | .tmp t => getT ts t
  | .const v => ofValue v
  | .global _ => .junk
  | .func f => .fn (.func f) [] []

def cellsA : AV → List AV
  | .agg l => l
  | x => [x]
/-- A value of one cell? -/
def one : AV → Bool
  | .agg _ | .tup _ | .junk => false
  | _ => true
def ones (l : List AV) : Bool := l.all one

/-- Cells as frozen data: an own row among them is frozen (and dies as a row). -/
def frozenCells (H : AHeap) : List AV → Option (List FV × List Nat)
  | [] => some ([], [])
  | .fz f :: r => match frozenCells H r with
    | some (fs, ks) => some (f :: fs, ks)
    | none => none
  | .own b :: r => match getH H b, frozenCells H r with
    | some (.row _ sz els), some (fs, ks) => some (.sl sz els :: fs, b :: ks)
    | _, _ => none
  | _ :: _ => none

def elsOf (H : AHeap) : List (List AV) → Option (List (List FV) × List Nat)
  | [] => some ([], [])
  | x :: r => match frozenCells H x, elsOf H r with
    | some (fs, ks), some (els, ks') => some (fs :: els, ks ++ ks')
    | _, _ => none

def szOf (P : Program) (t : TypeId) : Option Nat := (P.info? t).map (·.size)
def aggOf (P : Program) (t : TypeId) : Option Bool :=
  match P.underlying t with
  | some (.struct _) | some (.array _ _) => some true
  | some _ => some false
  | none => none
def zeroOf (P : Program) (t : TypeId) : Option Value := (P.info? t).bind (·.zero)
def zeroF (P : Program) (t : TypeId) : Option (List FV) := (zeroOf P t).map fun v => v.cells.toList.map FV.sc
def fieldsOf (P : Program) (t : TypeId) : Option (List (Nat × TypeId)) :=
  match P.underlying t with
  | some (.struct fs) => some (fs.toList.map fun f => (f.offset, f.type))
  | _ => none
def placesOf (P : Program) (t : TypeId) : Option (List (Nat × Nat)) :=
  match P.underlying t with
  | some (.struct fields) => fields.toList.mapM (fun f => (P.info? f.type).map fun i => (f.offset, i.size))
  | _ => none
def enters (P : Program) (f : FuncId) : Bool := match P.funcs[f]? with
  | some fn => !fn.body.isNone && !(fn.name == "runtime.NumGoroutine")
  | none => false
def elemOf (P : Program) (t : TypeId) : Option TypeId :=
  match P.underlying t with
  | some (.slice e) => some e
  | _ => none

/-- Put cells into a list at a place. -/
def putAt {α : Type} : List α → Nat → List α → List α
  | l, 0, cs => cs ++ l.drop cs.length
  | [], _ + 1, _ => []
  | x :: r, n + 1, cs => x :: putAt r n cs

def fillA (place : Nat → Option (Nat × Nat)) (cells : List AV) : List (Nat × AV) → Option (List AV)
  | [] => some cells
  | (i, v) :: rest =>
    match place i with
    | none => none
    | some (off, size) =>
      if (cellsA v).length = size ∧ ones (cellsA v) = true ∧ off + size ≤ cells.length then fillA place (putAt cells off (cellsA v)) rest else none

/-- Operations on two scalars. -/
def sbin (op : BinOp) : Value → Value → Option Value
  | .int k a, .int k' b =>
    match op with
    | .shl => if 0 ≤ b then some (.int k (k.wrap (a * 2 ^ (min b.toNat k.bits)))) else none
    | .shr => if 0 ≤ b then some (.int k (a.fdiv (2 ^ (min b.toNat k.bits)))) else none
    | _ =>
    if k = k' then
      match op with
      | .and => some (.int k (k.wrap (BitVec.ofInt k.bits a &&& BitVec.ofInt k.bits b).toNat))
      | .or => some (.int k (k.wrap (BitVec.ofInt k.bits a ||| BitVec.ofInt k.bits b).toNat))
      | .add => some (.int k (k.wrap (a + b)))
      | .sub => some (.int k (k.wrap (a - b)))
      | .mul => some (.int k (k.wrap (a * b)))
      | .lss => some (.bool (decide (a < b)))
      | .leq => some (.bool (decide (a ≤ b)))
      | .gtr => some (.bool (decide (a > b)))
      | .geq => some (.bool (decide (a ≥ b)))
      | .eql => some (.bool (a == b))
      | .neq => some (.bool (a != b))
      | _ => none
    else none
  | .string a, .string b =>
    match op with
    | .eql => some (.bool (a.toList == b.toList))
    | .neq => some (.bool (!(a.toList == b.toList)))
    | .lss => some (.bool (Op.bytesLess a.toList b.toList))
    | .leq => some (.bool (Op.bytesLess a.toList b.toList || a.toList == b.toList))
    | .gtr => some (.bool (!(Op.bytesLess a.toList b.toList || a.toList == b.toList)))
    | .geq => some (.bool (!(Op.bytesLess a.toList b.toList)))
    | _ => none
  | .bool a, .bool b =>
    match op with
    | .eql => some (.bool (a == b))
    | .neq => some (.bool (!(a == b)))
    | _ => none
  | _, _ => none

/-- A check: assumed by a hint, or reckoned. -/
def chk (p : Prop) [Decidable p] : List Hint → Option (List Hint × List Prop)
  | .ok :: r => some (r, [p])
  | hs => if p then some (hs, []) else none

/-- What an operation comes to. -/
inductive AR where
  | bad
  | val (v : AV) (hs : List Hint) (c : List Prop)
  | new (B : Blk) (kills : List Nat) (hs : List Hint) (c : List Prop)
  | put (v : AV) (H : AHeap) (hs : List Hint) (c : List Prop)
  | app (b : Nat) (B : Blk) (hs : List Hint) (c : List Prop)
  | call (f : FuncId) (args : List AV)

/-- The value of a new block. -/
def newV (n : Nat) : Blk → AV
  | .var _ _ => .ptr n 0
  | .row _ _ _ => .own n
  | .obj _ => .ob n

def valO (hs : List Hint) : Option AV → AR
  | some v => .val v hs []
  | none => .bad

/-- k cells from place o on: one value. -/
def cut (agg : Bool) (k : Nat) (cs : List AV) : Option AV :=
  if k ≤ cs.length then
    if agg then some (.agg (cs.take k)) else if k = 1 then match cs with
      | x :: _ => some x
      | [] => none
    else none
  else none

def loadA (H : AHeap) (agg : Bool) (k : Nat) (hs : List Hint) : AV → AR
  | .ptr b o => match getH H b with
    | some (.var _ cells) => valO hs (cut agg k (cells.drop o))
    | _ => .bad
  | .ep b i j => match getH H b with
    | some (.row _ _ els) =>
      match hs with
      | .el x :: r => match cut agg k ((x.map AV.fz).drop j) with
        | some v => .val v r [els[i]? = some x]
        | none => .bad
      | _ => match els[i]? with
        | some x => valO hs (cut agg k ((x.map AV.fz).drop j))
        | none => .bad
    | _ => .bad
  | .fp cs => valO hs (cut agg k (cs.map AV.fz))
  | _ => .bad

def storeA (H : AHeap) (cs : List AV) (hs : List Hint) : AV → AR
  | .ptr b o => match getH H b with
    | some (.var ty cells) => if o + cs.length ≤ cells.length ∧ ones cs = true then .put .junk (setH H b (some (.var ty (putAt cells o cs)))) hs [] else .bad
    | _ => .bad
  | .ep b i j => match getH H b, frozenCells [] cs with
    | some (.row ty sz els), some (fs, _) =>
      match hs with
      | .el x :: r => if j + fs.length ≤ x.length ∧ ones cs = true then .put .junk (setH H b (some (.row ty sz (els.set i (putAt x j fs))))) r [els[i]? = some x] else .bad
      | _ => match els[i]? with
        | some x => if j + fs.length ≤ x.length ∧ ones cs = true then .put .junk (setH H b (some (.row ty sz (els.set i (putAt x j fs))))) hs [] else .bad
        | none => .bad
    | _, _ => .bad
  | _ => .bad

def lenA (H : AHeap) : AV → Option Int
  | .fz (.sc (.string s)) => some s.size
  | .fz (.sc (.slice _ 0 _)) => some 0
  | .fz (.sl _ xs) => some xs.length
  | .own b => match getH H b with
    | some (.row _ _ els) => some els.length
    | _ => none
  | .vw b _ m => match getH H b with
    | some (.row _ _ _) => some m
    | _ => none
  | _ => none

/-- The elements of a slice of elements of sz cells. -/
def elsA (H : AHeap) (sz : Nat) : AV → Option (List (List FV))
  | .fz (.sc (.slice _ 0 _)) => some []
  | .fz (.sl sz' xs) => if sz' = sz then some xs else none
  | .own b => match getH H b with
    | some (.row _ sz' els) => if sz' = sz then some els else none
    | _ => none
  | .vw b o m => match getH H b with
    | some (.row _ sz' els) => if sz' = sz then some ((els.drop o).take m) else none
    | _ => none
  | _ => none

def asI : AV → Option Int
  | .fz (.sc (.int _ n)) => some n
  | _ => none

def idxA (H : AHeap) (hs : List Hint) (sz : Nat) (x : AV) (i : Int) : AR :=
  match x with
  | .own b => match getH H b with
    | some (.row _ sz' els) => if sz' = sz then match chk (0 ≤ i ∧ i < (els.length : Int)) hs with
      | some (r, c) => .val (.ep b i.toNat 0) r c
      | none => .bad
      else .bad
    | _ => .bad
  | .fz (.sl sz' xs) =>
    if sz' = sz then
      match hs with
      | .el y :: r => .val (.fp y) r [0 ≤ i ∧ xs[i.toNat]? = some y]
      | _ => if 0 ≤ i then match xs[i.toNat]? with
        | some y => .val (.fp y) hs []
        | none => .bad
        else .bad
    else .bad
  | _ => .bad

def sliceA (H : AHeap) (hs : List Hint) (sz : Nat) (x : AV) (lo hi : Option Int) : AR :=
  match lenA H x with
  | none => .bad
  | some n =>
    let l := lo.getD 0
    let h := hi.getD n
    match chk (0 ≤ l ∧ l ≤ h ∧ h ≤ n) hs with
    | none => .bad
    | some (r, c) =>
      match x with
      | .fz (.sc (.string s)) => .val (.sc (.string (s.extract l.toNat h.toNat))) r c
      | .fz (.sc (.slice none 0 0)) => .val x r c
      | .fz (.sc (.slice _ 0 _)) => .val (.fz (.sl sz [])) r c
      | .fz (.sl sz' xs) => if sz' = sz then .val (.fz (.sl sz ((xs.drop l.toNat).take (h - l).toNat))) r c else .bad
      | .own b => match getH H b with
        | some (.row _ sz' _) => if sz' = sz then .val (.vw b l.toNat (h - l).toNat) r c else .bad
        | _ => .bad
      | _ => .bad

/-- Equality of structs of two texts. -/
def eqCells : List AV → List AV → Option Bool
  | [.fz (.sc (.string a)), .fz (.sc (.string b))], [.fz (.sc (.string c)), .fz (.sc (.string d))] => some (a == c && b == d)
  | _, _ => none

def bytesF : List (List FV) → Option (List Int)
  | [] => some []
  | [.sc (.int .u8 n)] :: r => match bytesF r with
    | some l => some (n :: l)
    | none => none
  | _ :: _ => none

/-- A row of bytes as a text. -/
def bytesS (els : List (List FV)) : ByteArray := ⟨(((bytesF els).getD []).map fun n => UInt8.ofNat n.toNat).toArray⟩

/-- What is given of a program beside it: struct types of two texts that are compared; methods. -/
structure Tab where
  eqs : TypeId → Bool
  meth : TypeId → String → Option FuncId
  /-- Functions whose result, an own row, stays one. -/
  keep : FuncId → Bool
  /-- Maps from structs of two texts to truths. -/
  sets : TypeId → Bool

/-- Entries: from pairs of texts, to 'true' alone. -/
def pairKey : Value → Option (ByteArray × ByteArray)
  | .agg cs => match cs.toList with
    | [.string a, .string b] => some (a, b)
    | _ => none
  | _ => none
def hasKey (es : Array MapEntry) (a b : ByteArray) : Bool := es.toList.any fun e => match pairKey e.key with
  | some (c, d) => a == c && b == d
  | none => false
def SetLike (es : Array MapEntry) : Prop := ∀ e ∈ es.toList, (∃ c d, e.key = .agg #[.string c, .string d]) ∧ e.val = .bool true
def putKey (es : Array MapEntry) (clock : Nat) (a b : ByteArray) : Array MapEntry := if hasKey es a b then es else es.push { key := .agg #[.string a, .string b], val := .bool true, born := clock }
def putClock (es : Array MapEntry) (clock : Nat) (a b : ByteArray) : Nat := if hasKey es a b then clock else clock + 1

/-- Is a slice nil? Where it is known. -/
def nilA (H : AHeap) : AV → Option Bool
  | .fz (.sc (.slice A _ _)) => some A.isNone
  | .fz (.sl _ (_ :: _)) => some false
  | .own b => match getH H b with
    | some (.row _ _ (_ :: _)) => some false
    | _ => none
  | _ => none

def binA (P : Program) (T : Tab) (H : AHeap) (op : BinOp) (t : TypeId) (hs : List Hint) (x y : AV) : AR :=
  match x, y with
  | x, .fz (.sc (.slice none 0 0)) => match op, P.underlying t, nilA H x with
    | .eql, some (.slice _), some b => .val (.sc (.bool b)) hs []
    | .neq, some (.slice _), some b => .val (.sc (.bool !b)) hs []
    | _, _, _ => .bad
  | .fz (.sc a), .fz (.sc b) =>
    match op, a, b with
    | .quo, .int k n, .int k' m => if k = k' then match chk (m ≠ 0) hs with
      | some (r, c) => .val (.sc (.int k (k.wrap (n.tdiv m)))) r c
      | none => .bad
      else .bad
    | .rem, .int k n, .int k' m => if k = k' then match chk (m ≠ 0) hs with
      | some (r, c) => .val (.sc (.int k (n.tmod m))) r c
      | none => .bad
      else .bad
    | .add, .string s, .string u => match chk (s.size + u.size ≤ 4611686018427387904) hs with
      | some (r, c) => .val (.sc (.string (s ++ u))) r c
      | none => .bad
    | .eql, .bool p, .bool q => match P.underlying t with
      | some .bool => .val (.sc (.bool (p == q))) hs []
      | _ => .bad
    | .neq, .bool p, .bool q => match P.underlying t with
      | some .bool => .val (.sc (.bool (!(p == q)))) hs []
      | _ => .bad
    | _, .bool _, .bool _ => .bad
    | _, _, _ => valO hs ((sbin op a b).map AV.sc)
  | .agg l, .agg l' =>
    if T.eqs t then
      match op, eqCells l l' with
      | .eql, some b => .val (.sc (.bool b)) hs []
      | .neq, some b => .val (.sc (.bool (!b))) hs []
      | _, _ => .bad
    else .bad
  | .ifc _ _, .fz (.sc .nilIface) => match op, P.underlying t with
    | .eql, some (.interface _) => .val (.sc (.bool false)) hs []
    | .neq, some (.interface _) => .val (.sc (.bool true)) hs []
    | _, _ => .bad
  | _, _ => .bad

def convA (P : Program) (H : AHeap) (src dst : TypeId) (hs : List Hint) (x : AV) : AR :=
  match P.underlying src, P.underlying dst, x with
  | some (.int _), some (.int k), .fz (.sc (.int _ n)) => .val (.sc (.int k (k.wrap n))) hs []
  | some .string, some .string, .fz (.sc (.string s)) => .val (.sc (.string s)) hs []
  | some (.slice e), some .string, x => match P.underlying e with
    | some (.int .u8) => match elsA H 1 x with
      | some els => match hs with
        | .cut :: r => .val (.sc (.string (bytesS els))) r [(bytesF els).isSome = true]
        | _ => match bytesF els with
          | some l => .val (.sc (.string ⟨(l.map fun n => UInt8.ofNat n.toNat).toArray⟩)) hs []
          | none => .bad
      | none => .bad
    | _ => .bad
  | _, _, _ => .bad

def callA (P : Program) (T : Tab) (ts : List AV) (H : AHeap) (base : Nat) (hs : List Hint) (c : Call) : AR :=
  let args := c.args.toList.map (evalA ts)
  match c.callee with
  | .builtin .len => match c.argTypes.toList, args with
    | [t], [x] => match P.underlying t, lenA H x with
      | some .string, some n => match x with
        | .fz (.sc (.string _)) => .val (.sc (.int .i64 n)) hs []
        | _ => .bad
      | some (.slice _), some n => match x with
        | .fz (.sc (.string _)) => .bad
        | _ => .val (.sc (.int .i64 n)) hs []
      | _, _ => .bad
    | _, _ => .bad
  | .builtin .append => match c.argTypes.toList, args with
    | [t, t'], [x, y] => if t = t' then match elemOf P t with
      | some e => match P.info? e with
        | some i => match i.zero, elsA H i.size y with
          | some z, some ys =>
            if z.cells.size = i.size ∧ 0 < i.size then
              match x with
              | .fz (.sc (.slice none 0 0)) => match chk (ys.length * i.bytes ≤ 140737488355328 ∧ ys.length ≤ 140737488355328) hs with
                | some (r, c) => .new (.row e i.size ys) [] r c
                | none => .bad
              | .own b => match getH H b with
                | some (.row ty sz els) =>
                  if base ≤ b ∧ ty = e ∧ sz = i.size then
                    match chk ((els.length + ys.length) * i.bytes ≤ 140737488355328 ∧ els.length + ys.length ≤ 140737488355328) hs with
                    | some (r, c) => .app b (.row e i.size (els ++ ys)) r c
                    | none => .bad
                  else .bad
                | _ => .bad
              | _ => .bad
            else .bad
          | _, _ => .bad
        | none => .bad
      | none => .bad
      else .bad
    | _, _ => .bad
  | .builtin .copy => match c.argTypes.toList, args with
    | [t, t'], [x, y] => match elemOf P t with
      | some e => match P.info? e, elemOf P t' with
        | some i, some _ => match x, elsA H i.size y with
          | .own b, some ys => match getH H b with
            | some (.row ty sz els) => if sz = i.size then match chk (ys.length = els.length) hs with
              | some (r, c) => .put (.sc (.int .i64 els.length)) (setH H b (some (.row ty sz ys))) r c
              | none => .bad
              else .bad
            | _ => .bad
          | _, _ => .bad
        | _, _ => .bad
      | none => .bad
    | _, _ => .bad
  | .builtin _ => .bad
  | .invoke r m => match evalA ts r with
    | .ifc t x => match T.meth t m with
      | some f => .call f (x :: args)
      | none => .bad
    | _ => .bad
  | .value f => match evalA ts f with
    | .fn (.func k) first cap => .call k (first ++ args ++ cap)
    | _ => .bad

def optI (ts : List AV) : Option Operand → Option (Option Int)
  | none => some none
  | some o => match asI (evalA ts o) with
    | some n => some (some n)
    | none => none

/-- An own row made shorter, in its own place: what else speaks of it is forgotten. -/
def popA (P : Program) (H : AHeap) (base : Nat) (t : TypeId) (x : AV) (l h : Option Int) : List Hint → Option AR
  | .cut :: hs => some (match P.underlying t, x, l, h with
    | some (.slice e), .own b, none, some h => match getH H b with
      | some (.row ty sz els) => if base ≤ b ∧ szOf P e = some sz then match chk (0 ≤ h ∧ h ≤ (els.length : Int)) hs with
        | some (r, c) => .app b (.row ty sz (els.take h.toNat)) r c
        | none => .bad
        else .bad
      | _ => .bad
    | _, _, _, _ => .bad)
  | _ => none

def aop (P : Program) (T : Tab) (ts : List AV) (H : AHeap) (base : Nat) (hs : List Hint) (o : Oper) : AR :=
  let ev := evalA ts
  match o.op with
  | .move x => .val (ev x) hs []
  | .assign x =>
    match x, elemOf P o.type with
    | .const (.slice none 0 0), some e => match szOf P e with
      | some sz => if 0 < sz then .new (.row e sz []) [] hs [] else .bad
      | none => .bad
    | _, _ => .val (ev x) hs []
  | .pick c a b => match ev c with
    | .fz (.sc (.bool v)) => match hs with
      | .br h :: r => .val (ev (if h then a else b)) r [v = h]
      | _ => match v with
        | true => .val (ev a) hs []
        | false => .val (ev b) hs []
    | _ => .bad
  | .alloc e => match zeroOf P e with
    | some z => if z.cells.toList.all (·.oneCell') then .new (.var e (z.cells.toList.map AV.sc)) [] hs [] else .bad
    | none => .bad
  | .box e x => if ones (cellsA (ev x)) then .new (.var e (cellsA (ev x))) [] hs [] else .bad
  | .build t parts => match zeroOf P t, placesOf P t with
    | some z, some places => if z.cells.toList.all (·.oneCell') then
        match fillA (fun i => places[i]?) (z.cells.toList.map AV.sc) (parts.toList.map fun p => (p.1, ev p.2)) with
        | some cs => .val (.agg cs) hs []
        | none => .bad
      else .bad
    | _, _ => .bad
  | .buildSlice t len parts =>
    match elemOf P t with
    | some e => match szOf P e with
      | some sz =>
        match elsOf H (parts.toList.map fun p => cellsA (ev p.2)) with
        | some (els, ks) =>
          if parts.toList.map (·.1) = List.range len ∧ 0 < sz ∧ len * sz ≤ 16777216 ∧ els.all (fun x => x.length == sz) = true ∧ (zeroOf P e).map (·.cells.size) = some sz then
            .new (.row e sz els) ks hs []
          else .bad
        | none => .bad
      | none => .bad
    | none => .bad
  | .load t a => match aggOf P t, szOf P t with
    | some g, some k => loadA H g k hs (ev a)
    | _, _ => .bad
  | .store t a x => match szOf P t with
    | some k => if (cellsA (ev x)).length = k then storeA H (cellsA (ev x)) hs (ev a) else .bad
    | none => .bad
  | .nilCheck x => match ev x with
    | .ptr b o => match getH H b with
      | some (.var _ _) => .val (.ptr b o) hs []
      | _ => .bad
    | .fp cs => .val (.fp cs) hs []
    | _ => .bad
  | .binOp op t x y _ => match hs with
    | .is op' v :: r => if op' = op then (match binA P T H op t r (ev x) (ev y) with
        | .val (.fz (.sc u)) r' c => .val (.sc v) r' ((u = v) :: c)
        | _ => .bad)
      else binA P T H op t hs (ev x) (ev y)
    | _ => binA P T H op t hs (ev x) (ev y)
  | .range t x => match P.underlying t, ev x with
    | some .string, .fz (.sc (.string s)) => .new (.obj (.stringIter s 0)) [] hs []
    | _, _ => .bad
  | .next x str => match ev x with
    | .ob b => match getH H b with
      | some (.obj (.stringIter s pos)) => match str with
        | true => if pos < s.size then
            .put (.tup [.sc (.bool true), .sc (goInt pos), .sc (.int .i32 (Utf8.decode s pos).1)]) (setH H b (some (.obj (.stringIter s (pos + (Utf8.decode s pos).2))))) hs []
          else .val (.tup [.sc (.bool false)]) hs []
        | false => .bad
      | _ => .bad
    | _ => .bad
  | .unOp .not _ x => match ev x with
    | .fz (.sc (.bool b)) => .val (.sc (.bool !b)) hs []
    | _ => .bad
  | .convert src dst x => convA P H src dst hs (ev x)
  | .makeInterface t x => match P.underlying t with
    | some (.interface _) => .bad
    | some _ => .val (.ifc t (ev x)) hs []
    | none => .bad
  | .makeFunc fn first cap => .val (.fn fn (first.toList.map ev) (cap.toList.map ev)) hs []
  | .makeMap t none => if T.sets t then .new (.obj (.map #[] 0)) [] hs [] else .bad
  | .lookup t x i false => match T.sets t, ev x, ev i with
    | true, .ob b, .agg [.fz (.sc (.string k)), .fz (.sc (.string l))] => match getH H b with
      | some (.obj (.map es _)) => .val (.sc (.bool (hasKey es k l))) hs [SetLike es]
      | _ => .bad
    | true, .fz (.mp es _), .agg [.fz (.sc (.string k)), .fz (.sc (.string l))] => .val (.sc (.bool (hasKey es k l))) hs [SetLike es]
    | _, _, _ => .bad
  | .mapUpdate t m k v => match T.sets t, ev m, ev k, ev v with
    | true, .ob b, .agg [.fz (.sc (.string x)), .fz (.sc (.string y))], .fz (.sc (.bool true)) => match getH H b with
      | some (.obj (.map es clock)) => .put .junk (setH H b (some (.obj (.map (putKey es clock x y) (putClock es clock x y))))) hs [SetLike es]
      | _ => .bad
    | _, _, _, _ => .bad
  | .makeSlice t n m => match elemOf P t, ev n, ev m with
    | some e, .fz (.sc (.int .i64 l)), .fz (.sc (.int .i64 l')) => match P.info? e, zeroF P e with
      | some i, some z => if 0 < i.size ∧ z.length = i.size ∧ z.all (fun | .sc v => v.oneCell' | _ => false) = true then
          match chk (l = l' ∧ 0 ≤ l ∧ i.bytes * l.toNat ≤ 140737488355328 ∧ l.toNat ≤ 140737488355328) hs with
          | some (r, c) => .new (.row e i.size (List.replicate l.toNat z)) [] r c
          | none => .bad
        else .bad
      | _, _ => .bad
    | _, _, _ => .bad
  | .slice t x lo hi none => match optI ts lo, optI ts hi with
    | some l, some h => match popA P H base t (ev x) l h hs with
      | some r => r
      | none => match P.underlying t with
        | some .string => match ev x with
          | .fz (.sc (.string s)) => sliceA H hs 0 (.fz (.sc (.string s))) l h
          | _ => .bad
        | some (.slice e) => match szOf P e with
          | some sz => match ev x with
            | .fz (.sc (.string _)) => .bad
            | x => sliceA H hs sz x l h
          | none => .bad
        | _ => .bad
    | _, _ => .bad
  | .fieldAddr t x f => match fieldsOf P t with
    | some fs => match fs[f]? with
      | some (off, ft) => match szOf P ft with
        | some k => if k = 0 then .bad else match ev x with
          | .ptr b o => match getH H b with
            | some _ => .val (.ptr b (o + off)) hs []
            | none => .bad
          | .ep b i j => match getH H b with
            | some _ => .val (.ep b i (j + off)) hs []
            | none => .bad
          | .fp cs => .val (.fp (cs.drop off)) hs []
          | _ => .bad
        | none => .bad
      | none => .bad
    | none => .bad
  | .indexAddr t x i => match elemOf P t, asI (ev i) with
    | some e, some n => match szOf P e with
      | some sz => idxA H hs sz (ev x) n
      | none => .bad
    | _, _ => .bad
  | .index t x i => match P.underlying t, ev x, asI (ev i) with
    | some .string, .fz (.sc (.string s)), some n => match chk (0 ≤ n ∧ n < (s.size : Int)) hs with
      | some (r, c) => .val (.sc (.int .u8 (s.data.toList.getD n.toNat 0).toNat)) r c
      | none => .bad
    | _, _, _ => .bad
  | .typeAssert x xt at_ ok => match P.underlying at_ with
    | some (.interface _) => .bad
    | some _ => match ev x with
      | .ifc t v => if t = at_ then .val (if ok then .tup [v, .sc (.bool true)] else v) hs [] else
          if ok then match zeroOf P at_ with
            | some z => .val (.tup [ofValue z, .sc (.bool false)]) hs []
            | none => .bad
          else .bad
      | _ => .bad
    | none => .bad
  | .extract t i => match ev t with
    | .tup l => valO hs l[i]?
    | _ => .bad
  | .call c => callA P T ts H base hs c
  | _ => .bad

end Go.Proofs.Ai
