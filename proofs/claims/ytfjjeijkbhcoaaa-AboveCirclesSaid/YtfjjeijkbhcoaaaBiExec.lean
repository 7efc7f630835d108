/- The abstract machine, 2: regions (in the text's order, or in any), calls, code. Definitions only. -/
import Derived.Test.YtfjjeijkbhcoaaaBiDef
set_option linter.unusedVariables false
namespace Go.Proofs.Ai
open Go

mutual
/-- Row b's value becomes r; pieces of it and pointers into it are forgotten. -/
def subA (b : Nat) (r : AV) : AV → AV
  | .fz f => .fz f
  | .agg l => .agg (subL b r l)
  | .own b' => if b' = b then r else .own b'
  | .ob b' => .ob b'
  | .vw b' o m => if b' = b then .junk else .vw b' o m
  | .ptr b' o => .ptr b' o
  | .ep b' i j => if b' = b then .junk else .ep b' i j
  | .fp cs => .fp cs
  | .ifc t x => .ifc t (subA b r x)
  | .fn f a c => .fn f (subL b r a) (subL b r c)
  | .tup l => .tup (subL b r l)
  | .junk => .junk
def subL (b : Nat) (r : AV) : List AV → List AV
  | [] => []
  | x :: l => subA b r x :: subL b r l
end
def subB (b : Nat) (r : AV) : Option Blk → Option Blk
  | some (.var ty cells) => some (.var ty (subL b r cells))
  | x => x
def subH (b : Nat) (r : AV) : AHeap → AHeap
  | [] => []
  | x :: l => subB b r x :: subH b r l

mutual
/-- All own blocks that a value speaks of are among p. -/
def refsIn (p : Nat → Bool) : AV → Bool
  | .fz _ | .fp _ | .junk => true
  | .agg l | .tup l => refsInL p l
  | .own b | .ob b | .vw b _ _ | .ptr b _ | .ep b _ _ => p b
  | .ifc _ x => refsIn p x
  | .fn _ a c => refsInL p a && refsInL p c
def refsInL (p : Nat → Bool) : List AV → Bool
  | [] => true
  | x :: l => refsIn p x && refsInL p l
end
def refsInB (p : Nat → Bool) : Option Blk → Bool
  | some (.var _ cells) => refsInL p cells
  | _ => true
def noRefs (x : AV) : Bool := refsIn (fun _ => false) x

/-- A row is frozen: it dies as a row; its value is frozen data from now on. -/
def kill1 (x : List AV × AHeap) (b : Nat) : List AV × AHeap :=
  match getH x.2 b with
  | some (.row _ sz els) => (subL b (.fz (.sl sz els)) x.1, setH (subH b (.fz (.sl sz els)) x.2) b none)
  | _ => x
def killAll (x : List AV × AHeap) : List Nat → List AV × AHeap
  | [] => x
  | b :: r => killAll (kill1 x b) r

structure CallR where
  r : AV
  H : AHeap
  kills : List Nat
  hs : List Hint
  c : List Prop
  quiet : Bool
abbrev CallF := FuncId → List AV → AHeap → List Hint → Option CallR

def wantA (ops : Array Oper) (ts : List AV) (o : Oper) : Option Bool :=
  match o.guard with
  | none => some true
  | some (j, want) => match (ops[j]?).bind (·.dst) with
    | some d => match getT ts d with
      | .fz (.sc (.bool b)) => some (b == want)
      | .tup _ => some false
      | _ => none
    | none => none

/-- One operation in the text's order. -/
def aop1 (P : Program) (T : Tab) (call : CallF) (s : St) (o : Oper) : Option St :=
  match aop P T s.tmps s.heap s.base s.hints o with
  | .val v hs c => some { s with tmps := putT s.tmps o.dst v, hints := hs, cond := c ++ s.cond }
  | .new B ks hs c =>
    let x := killAll (s.tmps, s.heap) ks
    some { s with tmps := putT x.1 o.dst (newV x.2.length B), heap := x.2 ++ [some B], hints := hs, cond := c ++ s.cond }
  | .put v H hs c => some { s with tmps := putT s.tmps o.dst v, heap := H, hints := hs, cond := c ++ s.cond }
  | .app b B hs c => some { s with tmps := putT (subL b .junk s.tmps) o.dst (.own b), heap := setH (subH b .junk s.heap) b (some B), hints := hs, cond := c ++ s.cond }
  | .call f args => match call f args s.heap s.hints with
    | some R =>
      let x := killAll (s.tmps, R.H) R.kills
      some { s with tmps := putT x.1 o.dst R.r, heap := x.2, hints := R.hs, cond := R.c ++ s.cond }
    | none => none
  | .bad => none

def aops (P : Program) (T : Tab) (call : CallF) (ops : Array Oper) : List Oper → St → Option St
  | [], s => some s
  | o :: rest, s =>
    match wantA ops s.tmps o with
    | some true => match aop1 P T call s o with
      | some s' => aops P T call ops rest s'
      | none => none
    | some false => aops P T call ops rest { s with tmps := putT s.tmps o.dst (.tup []) }
    | none => none

/-! ### A region of open order: a front of operations that only read and make, in any order; then a tail in a forced order. -/
def opTmps (o : Oper) : List Tmp := o.op.operands.toList.filterMap fun | .tmp t => some t | _ => none
def looks (ops : Array Oper) (o : Oper) : List Tmp := opTmps o ++ (match o.guard with
  | some (g, _) => ((ops[g]?).bind (·.dst)).toList
  | none => [])
def conflicts (ops : Array Oper) (x y : Oper) : Bool :=
  (match x.dst with | some d => (looks ops y).contains d || y.dst == some d | none => false) ||
  (match y.dst with | some d => (looks ops x).contains d | none => false)
/-- The direct and indirect waits, as bits. -/
def waits (ops : List Oper) : List Nat :=
  (ops.foldl (init := ([] : List Nat)) fun acc o => acc ++ [o.after.toList.foldl (fun s e => if Region.binds .any e then s ||| 2 ^ e.on ||| acc.getD e.on 0 else s) 0])
/-- Where the forced tail begins. -/
def tailFrom (ws : List Nat) : Nat → Nat
  | 0 => 0
  | n + 1 => if ws.getD n 0 % 2 ^ n = 2 ^ n - 1 then tailFrom ws n else n + 1
def drawOK (ops : Array Oper) : Bool :=
  let ws := waits ops.toList
  let n := ops.size
  (List.range n).all fun i =>
    match ops[i]? with
    | some oi => oi.after.toList.all (fun e => e.on < i || !Region.binds .any e) && (match oi.op with | .select .. => false | _ => true) &&
      (List.range i).all fun j => match ops[j]? with
        | some oj => !conflicts ops oi oj || (ws.getD i 0).testBit j
        | none => false
    | none => false

structure Front where
  done : List (Nat × Option Tmp × AV)
  made : List (Nat × Blk)
  hints : List Hint
  cond : List Prop

def tmpsAt (p : Nat → Bool) (ts : List AV) : List (Nat × Option Tmp × AV) → List AV
  | [] => ts
  | (j, d, v) :: r => tmpsAt p (if p j then putT ts d v else ts) r
/-- The named temporaries alone. -/
def maskT (ks : List Tmp) : Nat → List AV → List AV
  | _, [] => []
  | n, x :: r => (if ks.contains n then x else .junk) :: maskT ks (n + 1) r
def heapAt (p : Nat → Bool) (H : AHeap) (made : List (Nat × Blk)) : AHeap := H ++ made.map fun q => if p q.1 then some q.2 else none
def liveIn (H : AHeap) (b : Nat) : Bool := (getH H b).isSome

def front1 (P : Program) (T : Tab) (call : CallF) (ops : Array Oper) (ws : List Nat) (s : St) (F : Front) (i : Nat) (o : Oper) : Option Front :=
  let D := (ws.getD i 0).testBit
  let ts := maskT (looks ops o) 0 (tmpsAt D s.tmps F.done)
  let H := heapAt D s.heap F.made
  match wantA ops ts o with
  | none => none
  | some false => some { F with done := F.done ++ [(i, o.dst, .tup [])] }
  | some true =>
    match aop P T ts H s.base F.hints o with
    | .val v hs c => if refsIn (liveIn H) v then some { F with done := F.done ++ [(i, o.dst, v)], hints := hs, cond := c ++ F.cond } else none
    | .new B [] hs c => if refsInB (liveIn H) (some B) then
        some { done := F.done ++ [(i, o.dst, newV H.length B)], made := F.made ++ [(i, B)], hints := hs, cond := c ++ F.cond } else none
    | .call f args => match call f args H F.hints with
      | some R => if R.quiet && R.kills.isEmpty && noRefs R.r then some { F with done := F.done ++ [(i, o.dst, R.r)], hints := R.hs, cond := R.c ++ F.cond } else none
      | none => none
    | _ => none

def frontRun (P : Program) (T : Tab) (call : CallF) (ops : Array Oper) (ws : List Nat) (s : St) : Nat → List Oper → Front → Option Front
  | _, [], F => some F
  | i, o :: r, F => match front1 P T call ops ws s F i o with
    | some F' => frontRun P T call ops ws s (i + 1) r F'
    | none => none

def adraw (P : Program) (T : Tab) (call : CallF) (ops : Array Oper) (s : St) : Option St :=
  if drawOK ops then
    let ws := waits ops.toList
    let m := tailFrom ws ops.size
    match frontRun P T call ops ws s 0 (ops.toList.take m) { done := [], made := [], hints := s.hints, cond := s.cond } with
    | some F =>
      let all := fun _ => true
      aops P T call ops (ops.toList.drop m) { s with tmps := tmpsAt all s.tmps F.done, heap := heapAt all s.heap F.made, hints := F.hints, cond := F.cond }
    | none => none
  else none

def aexec (P : Program) (T : Tab) (call : CallF) : Nat → Code → St → Option (AExit × St)
  | 0, _, _ => none
  | n + 1, c, s =>
    match c with
    | .skip => some (.normal, s)
    | .region _ ops d => match (if d then adraw P T call ops s else aops P T call ops ops.toList s) with
      | some s' => some (.normal, s')
      | none => none
    | .seq a b => match aexec P T call n a s with
      | some (.normal, s') => aexec P T call n b s'
      | some (.exit i, s') => some (.exit i, s')
      | some (.ret, s') => some (.ret, s')
      | none => none
    | .cond c x y => match evalA s.tmps c with
      | .fz (.sc (.bool b)) =>
        match s.hints with
        | .br h :: hs => aexec P T call n (if h then x else y) { s with hints := hs, cond := (b = h) :: s.cond }
        | _ => match b with
          | true => aexec P T call n x s
          | false => aexec P T call n y s
      | _ => none
    | .block id c => match aexec P T call n c s with
      | some (.exit i, s') => if i = id then some (.normal, s') else some (.exit i, s')
      | some (.normal, s') => some (.normal, s')
      | some (.ret, s') => some (.ret, s')
      | none => none
    | .loop c => match aexec P T call n c s with
      | some (.normal, s') => aexec P T call n (.loop c) s'
      | some (.exit i, s') => some (.exit i, s')
      | some (.ret, s') => some (.ret, s')
      | none => none
    | .exit id => some (.exit id, s)
    | .ret => some (.ret, s)
    | _ => none

/-! ### Calls -/
mutual
/-- As frozen data, out of a heap (nothing dies): 'none' where a pointer, or what is dead, is met. -/
def snap (H : AHeap) : AV → Option AV
  | .fz f => some (.fz f)
  | .own b => match getH H b with
    | some (.row _ sz els) => some (.fz (.sl sz els))
    | _ => none
  | .vw b o m => match getH H b with
    | some (.row _ sz els) => some (.fz (.sl sz ((els.drop o).take m)))
    | _ => none
  | .agg l => match snapL H l with
    | some l' => some (.agg l')
    | none => none
  | .tup l => match snapL H l with
    | some l' => some (.tup l')
    | none => none
  | .ifc t x => match snap H x with
    | some x' => some (.ifc t x')
    | none => none
  | .fn f [] [] => some (.fn f [] [])
  | .fp cs => some (.fp cs)
  | _ => none
def snapL (H : AHeap) : List AV → Option (List AV)
  | [] => some []
  | x :: l => match snap H x, snapL H l with
    | some x', some l' => some (x' :: l')
    | _, _ => none
end
mutual
/-- The own rows that a value speaks of. -/
def rowsOf : AV → List Nat
  | .own b | .vw b _ _ => [b]
  | .agg l | .tup l => rowsOfL l
  | .ifc _ x => rowsOf x
  | _ => []
def rowsOfL : List AV → List Nat
  | [] => []
  | x :: l => rowsOf x ++ rowsOfL l
end
mutual
/-- Nothing in it lies in memory. -/
def scalarA : AV → Bool
  | .fz (.sc _) => true
  | .agg l | .tup l => scalarL l
  | .ifc _ x => scalarA x
  | _ => false
def scalarL : List AV → Bool
  | [] => true
  | x :: l => scalarA x && scalarL l
end

/-- What is known of functions: on frozen arguments; 'true': the result is new memory (or none at all); on what conditions. -/
abbrev PureT := FuncId → List AV → Option (AV × Bool × List Prop)
/-- .. on a whole heap. -/
abbrev HeapT := FuncId → List AV → AHeap → Option (AV × AHeap × List Prop)

/-- A result as frozen data: a new map, too. -/
def snapR (H : AHeap) : AV → Option AV
  | .ob b => match getH H b with
    | some (.obj (.map es c)) => some (.fz (.mp es c))
    | _ => none
  | x => snap H x

def ret1 (P : Program) (s : St) : ResultVar → Option AV
  | .tmp t => some (getT s.tmps t)
  | .cell a t => match aggOf P t, szOf P t with
    | some g, some k => match loadA s.heap g k [] (getT s.tmps a) with
      | .val v _ _ => some v
      | _ => none
    | _, _ => none
def retL (P : Program) (s : St) : List ResultVar → Option (List AV)
  | [] => some []
  | r :: rs => match ret1 P s r, retL P s rs with
    | some x, some l => some (x :: l)
    | _, _ => none
def retOf (P : Program) (fn : Func) (s : St) : Option AV :=
  match retL P s fn.results.toList with
  | some [x] => some x
  | some l => some (.tup l)
  | none => none

/-- Behind a call on a whole heap of N blocks: the result frozen (its rows are new and die), what is new dropped, if nothing old speaks of it. -/
def blank (N : Nat) (H : AHeap) : AHeap := List.replicate N none ++ H.drop N
def trimR (N : Nat) (r : AV) (H : AHeap) : AV × AHeap :=
  let p := fun b => decide (b < N)
  let r' := match snap (blank N H) r with
    | some x => x
    | none => r
  if refsIn p r' && (H.take N).all (refsInB p) then (r', H.take N) else (r, H)

def keptRow (H : AHeap) : AV → Option Blk
  | .own b => match getH H b with
    | some (.row ty sz els) => some (.row ty sz els)
    | _ => none
  | _ => none

def runBody (P : Program) (T : Tab) (call : CallF) (n : Nat) (f : FuncId) (args : List AV) (H : AHeap) (base : Nat) (hs : List Hint) : Option (AV × St) :=
  match P.funcs[f]? with
  | some fn => match fn.body with
    | some c => match aexec P T call n c { tmps := args ++ List.replicate (fn.ntmps - args.length) .junk, heap := H, base, hints := hs, cond := [] } with
      | some (.ret, s') | some (.normal, s') => match retOf P fn s' with
        | some r => some (r, s')
        | none => none
      | _ => none
    | none => none
  | none => none

def acall (P : Program) (T : Tab) (Γ : PureT) (Δ : HeapT) : Nat → CallF
  | 0, _, _, _, _ => none
  | n + 1, f, args, H, hs =>
    if enters P f = false then none else
    match Δ f args H with
    | some (r, H', c) => some { r, H := H', kills := [], hs, c, quiet := false }
    | none =>
      match snapL H args with
      | some as =>
        match Γ f as with
        | some (r, fresh, c) =>
          if fresh || (rowsOfL args).isEmpty || scalarA r then some { r, H, kills := [], hs, c, quiet := true }
          else some { r, H, kills := rowsOfL args, hs, c, quiet := false }
        | none => match runBody P T (acall P T Γ Δ n) (n + 1) f as [] 0 hs with
          | some (r, s') => match (if T.keep f then keptRow s'.heap r else none) with
            | some B => some { r := .own H.length, H := H ++ [some B], kills := rowsOfL args, hs := s'.hints, c := s'.cond, quiet := false }
            | none => match snapR s'.heap r with
              | some r' =>
                if (rowsOfL args).isEmpty || scalarA r' then some { r := r', H, kills := [], hs := s'.hints, c := s'.cond, quiet := true }
                else some { r := r', H, kills := rowsOfL args, hs := s'.hints, c := s'.cond, quiet := false }
              | none => none
          | none => none
      | none => match runBody P T (acall P T Γ Δ n) (n + 1) f args H H.length hs with
        | some (r, s') => some { r := (trimR H.length r s'.heap).1, H := (trimR H.length r s'.heap).2, kills := [], hs := s'.hints, c := s'.cond, quiet := false }
        | none => none

end Go.Proofs.Ai
