/- AE, part 1: a small evaluator over values without memory: what it is. (Program-independent.) -/
import Derived.Orders
import Derived.Below
import Derived.Laws.Append
import Derived.Laws.IdiomCopy
set_option linter.unusedVariables false
namespace Go.AE
open Go Go.RowKit

/-- Where an object of ours lies: its block, where in it it begins, how many elements have room from there on. -/
structure Loc where
  fix : Bool
  has : Bool
  b : Nat
  o : Nat
  cap : Nat
  ver : Nat

/-- Values, what they lead to told with them as far as it can't change any more. -/
inductive AV where
  /-- just this value -/
  | v (x : Value)
  /-- a slice of elements that can't change; ex: its capacity is its length; nn: it isn't nil -/
  | slc (sz : Nat) (ex nn : Bool) (l : List AV)
  /-- a pointer to cells that can't change -/
  | ip (cs : List AV)
  | agg (cs : List AV)
  | tup (vs : List AV)
  /-- n elements of row id as it was in its version ver, from element off on (nil, or without room, where n is 0) -/
  | own (sz id ver off n : Nat)
  /-- a pointer to a cell of variable id -/
  | ptr (id off : Nat)
  /-- a pointer to a cell of an element of row id -/
  | ep (sz id ver idx off : Nat)
  | fn (f : Fn) (first cap : List AV)
  | mp (id : Nat)
  | it (id : Nat)
  /-- whatever -/
  | junk

instance : Inhabited AV := ⟨.junk⟩

/-- The objects that can still change. -/
inductive AO where
  | box (cs : List AV)
  /-- its version, its elements; the first k of them can't change any more -/
  | row (sz ver : Nat) (l : List AV) (k : Nat)
  | map (es : List (Value × AV))
  | siter (s : ByteArray) (pos : Nat)

/-- Is it this row in this version, with so many elements? -/
def rowAt (h : List AO) (sz id ver m : Nat) : Option (List AV × Nat) :=
  match h[id]? with
  | some (.row sz' ver' l k) => if sz = sz' ∧ ver = ver' ∧ m ≤ l.length then some (l, k) else none
  | _ => none

def AV.cells : AV → List AV
  | .agg cs => cs
  | x => [x]
/-- its cells, where they are known -/
def AV.cl : AV → Option (List AV)
  | .agg cs => some cs
  | .v x => if x.oneCell' then some [.v x] else none
  | .junk => none
  | .tup _ => none
  | x => some [x]
def ofVal : Value → AV
  | .agg arr => if arr.all (·.oneCell') then .agg (arr.toList.map .v) else .v (.agg arr)
  | x => .v x

/-- Of one cell: it leads to no object. -/
def AV.free0 : AV → Bool
  | .v _ | .slc .. | .ip _ | .junk => true
  | .fn _ [] [] => true
  | _ => false
def AV.free1 : AV → Bool
  | .agg cs => cs.all AV.free0
  | x => x.free0
def AV.free2 : AV → Bool
  | .tup vs => vs.all AV.free1
  | x => x.free1

/-- What stays as it is once the first n objects alone are told: rows beyond become what they hold. -/
def AV.frz0 (n : Nat) (h : List AO) : AV → Option AV
  | .own sz id ver off m =>
    if id < n then some (.own sz id ver off m)
    else match rowAt h sz id ver (off + m) with
      | some (l, _) => some (.slc sz false false ((l.drop off).take m))
      | none => none
  | .ptr id off => if id < n then some (.ptr id off) else none
  | .ep sz id ver i off => if id < n then some (.ep sz id ver i off) else none
  | .mp id => if id < n then some (.mp id) else none
  | .it id => if id < n then some (.it id) else none
  | .fn f [] [] => some (.fn f [] [])
  | .fn .. | .agg _ | .tup _ => none
  | x => some x
def AV.frz1 (n : Nat) (h : List AO) : AV → Option AV
  | .agg cs => (cs.mapM (AV.frz0 n h)).map .agg
  | .fn f a b => do
    let a ← a.mapM (AV.frz0 n h)
    let b ← b.mapM (AV.frz0 n h)
    pure (.fn f a b)
  | x => x.frz0 n h
def AV.frz2 (n : Nat) (h : List AO) : AV → Option AV
  | .tup vs => (vs.mapM (AV.frz1 n h)).map .tup
  | x => x.frz1 n h

/-- What is handed on as a value: a row of which that part can't change any more. -/
def AV.snap0 (h : List AO) : AV → Option AV
  | .own sz id ver off m =>
    match rowAt h sz id ver (off + m) with
    | some (l, k) => if off + m ≤ k then some (.slc sz false false ((l.drop off).take m)) else none
    | none => none
  | x => if x.free0 then some x else none
/-- It leads to the first n objects alone. -/
def AV.below0 (n : Nat) : AV → Bool
  | .own _ id _ _ _ | .ptr id _ | .ep _ id _ _ _ | .mp id | .it id => decide (id < n)
  | .fn _ [] [] => true
  | .fn .. | .agg _ | .tup _ => false
  | _ => true
def AV.below1 (n : Nat) : AV → Bool
  | .fn _ a b => a.all (AV.below0 n) && b.all (AV.below0 n)
  | x => x.below0 n
def AO.below (n : Nat) : AO → Bool
  | .box cs => cs.all (AV.below1 n)
  | _ => true
def AV.snap1 (h : List AO) : AV → Option AV
  | .agg cs => (cs.mapM (AV.snap0 h)).map .agg
  | x => x.snap0 h

/-- Operands: a variable, what an operation of this region gave, a constant, a function. -/
inductive Opd where
  | var (i : Nat)
  | loc (j : Nat)
  | k (x : Value)
  | fn (f : FuncId)

def getO (vars env : List AV) : Opd → AV
  | .var i => vars.getD i .junk
  | .loc j => env.getD j .junk
  | .k x => ofVal x
  | .fn f => .fn (.func f) [] []

/-- What '==' is asked of. -/
inductive EqK where
  | bool
  | slice
  | pointer

inductive LenK where
  | slice
  | string
  | map

/-- Operations. -/
inductive COp where
  | mov (x : Opd)
  | pick (c a b : Opd)
  | box (x : Opd)
  | build (zero : List Value) (parts : List (Nat × Nat × Opd))
  | bslice (sz : Nat) (zero : List Value) (n : Nat) (parts : List (Nat × Opd))
  | load (agg : Bool) (sz : Nat) (x : Opd)
  | store (sz : Nat) (a x : Opd)
  | nilchk (x : Opd)
  | bin (op : BinOp) (x y : Opd)
  | eqv (k : EqK) (neg : Bool) (x y : Opd)
  | un (op : UnOp) (x : Opd)
  | conv (k : IntKind) (x : Opd)
  | same (x : Opd)
  | mkfn (f : Fn) (first cap : List Opd)
  | mkslice (sz bytes : Nat) (zero : List Value) (l c : Opd)
  | slice (sz : Nat) (x : Opd) (lo hi mx : Option Opd)
  | sslice (x : Opd) (lo hi : Option Opd)
  | fa (off : Nat) (x : Opd)
  | fld (agg : Bool) (off sz : Nat) (x : Opd)
  | ia (sz : Nat) (x i : Opd)
  | ixs (x i : Opd)
  | extract (x : Opd) (i : Nat)
  | call (pure : Bool) (f : FuncId) (args : List Opd)
  | callv (x : Opd) (args : List Opd)
  | append (sz bytes : Nat) (s x : Opd)
  | len (k : LenK) (x : Opd)
  | mkmap
  | lookup (zero : Value) (ok : Bool) (m key : Opd)
  | mapupd (m key x : Opd)
  | range (x : Opd)
  | next (x : Opd)
  | bad

/-- An operation, the variable that it writes, the condition under which it is carried out. What operations of this region gave is told newest first. -/
structure CO where
  op : COp
  wr : Option Nat
  guard : Option (Opd × Bool)

/-- What is agreed ahead of a region: that what a variable (cells of a variable in memory) holds can't change any more; that a nil there is a row without elements. -/
inductive Mark where
  | v (i : Nat)
  | p (i off n : Nat)
  | av (i sz : Nat)
  | ap (i off sz : Nat)

inductive CC where
  | skip
  | region (marks : List Mark) (aps : List (Option Nat × Nat)) (ops : List CO)
  | seq (a b : CC)
  | cond (c : Opd) (x y : CC)
  | block (id : Nat) (b : CC)
  | loop (keep : List Bool) (marks : List Mark) (b : CC)
  | exit (id : Nat)
  | ret

inductive AXit where
  | normal
  | exit (id : Nat)
  | ret

inductive CRes where
  | var (i : Nat)
  | cell (i : Nat) (agg : Bool) (sz : Nat)

structure CFun where
  np : Nat
  nv : Nat
  body : CC
  res : List CRes

abbrev CallF := FuncId → List AV → List AO → Option (AV × List AO)

/-! ### What the operations do -/
def intBin (op : BinOp) (k : IntKind) (a b : Int) : Option AV :=
  match op with
  | .add => some (.v (.int k (k.wrap (a + b))))
  | .sub => some (.v (.int k (k.wrap (a - b))))
  | .mul => some (.v (.int k (k.wrap (a * b))))
  | .quo => if b = 0 then none else some (.v (.int k (k.wrap (a.tdiv b))))
  | .rem => if b = 0 then none else some (.v (.int k (a.tmod b)))
  | .eql => some (.v (.bool (a == b)))
  | .neq => some (.v (.bool (a != b)))
  | .lss => some (.v (.bool (decide (a < b))))
  | .leq => some (.v (.bool (decide (a ≤ b))))
  | .gtr => some (.v (.bool (decide (a > b))))
  | .geq => some (.v (.bool (decide (a ≥ b))))
  | _ => none

def strBin (op : BinOp) (x y : ByteArray) : Option AV :=
  match op with
  | .add => if ((x.size + y.size : Nat) : Int) ≤ 9223372036854775807 then some (.v (.string (x ++ y))) else none
  | .eql => some (.v (.bool (x.toList == y.toList)))
  | .neq => some (.v (.bool !(x.toList == y.toList)))
  | .lss => some (.v (.bool (Op.bytesLess x.toList y.toList)))
  | .leq => some (.v (.bool (Op.bytesLess x.toList y.toList || x.toList == y.toList)))
  | .gtr => some (.v (.bool !(Op.bytesLess x.toList y.toList || x.toList == y.toList)))
  | .geq => some (.v (.bool !(Op.bytesLess x.toList y.toList)))
  | _ => none

def evBin (op : BinOp) : AV → AV → Option AV
  | .v (.int k a), .v (.int k' b) => if k = k' then intBin op k a b else none
  | .v (.string x), .v (.string y) => strBin op x y
  | _, _ => none

/-- '==' of bools, and of a slice, a pointer with nil. -/
def eqNil (h : List AO) : EqK → AV → AV → Option Bool
  | .bool, .v (.bool a), .v (.bool b) => some (a == b)
  | .slice, .v (.slice none 0 0), .v (.slice none 0 0) => some true
  | .slice, .slc _ _ nn l, .v (.slice none 0 0) => if nn || !l.isEmpty then some false else none
  | .slice, .own sz id ver off n, .v (.slice none 0 0) => match rowAt h sz id ver (off + n) with
    | some _ => if 0 < n then some false else none
    | none => none
  | .pointer, .ptr .., .v (.pointer none) => some false
  | .pointer, .ip .., .v (.pointer none) => some false
  | .pointer, .v (.pointer none), .v (.pointer none) => some true
  | _, _, _ => none

def evUn (op : UnOp) : AV → Option AV
  | .v (.int k n) => match op with
    | .neg => some (.v (.int k (k.wrap (0 - n))))
    | _ => none
  | .v (.bool b) => match op with
    | .not => some (.v (.bool !b))
    | _ => none
  | _ => none

/-- cells of a list set from a place on -/
def putAt (cs : List AV) (off : Nat) : List AV → List AV
  | [] => cs
  | x :: r => putAt (cs.set off x) (off + 1) r

def evBuild (vars env : List AV) : List AV → List (Nat × Nat × Opd) → Option (List AV)
  | cs, [] => some cs
  | cs, (off, sz, x) :: r =>
    match (getO vars env x).cl with
    | some xs => if xs.length = sz ∧ off + sz ≤ cs.length then evBuild vars env (putAt cs off xs) r else none
    | none => none

def evElems (vars env : List AV) (h : List AO) (sz : Nat) : List AV → List (Nat × Opd) → Option (List AV)
  | l, [] => some l
  | l, (i, x) :: r =>
    match ((getO vars env x).snap1 h).bind fun y => y.cl.map fun ys => (y, ys) with
    | some (y, ys) => if ys.length = sz ∧ i < l.length then evElems vars env h sz (l.set i y) r else none
    | none => none

def natO (vars env : List AV) (x : Opd) : Option Nat :=
  match getO vars env x with
  | .v (.int _ n) => if 0 ≤ n then some n.toNat else none
  | _ => none

def optN (vars env : List AV) (d : Nat) : Option Opd → Option Nat
  | some x => natO vars env x
  | none => some d

/-- low, high, and (of three) the capacity, of a slice expression -/
def bounds (vars env : List AV) (len : Nat) (top : Nat) (lo hi mx : Option Opd) : Option (Nat × Nat × Option Nat) :=
  match mx with
  | none => match optN vars env len hi, optN vars env 0 lo with
    | some h, some l => if l ≤ h ∧ h ≤ top then some (l, h, none) else none
    | _, _ => none
  | some x => match hi with
    | none => none
    | some y => match natO vars env x, natO vars env y, optN vars env 0 lo with
      | some m, some h, some l => if l ≤ h ∧ h ≤ m ∧ m ≤ top then some (l, h, some m) else none
      | _, _, _ => none

def evSlice (vars env : List AV) (h : List AO) (sz : Nat) (x : AV) (lo hi mx : Option Opd) : Option AV :=
  match x with
  | .v (.slice none 0 0) => do
    let (l, h, m) ← bounds vars env 0 0 lo hi mx
    pure (.v (.slice none 0 0))
  | .slc sz' ex nn xs =>
    if sz' = sz then do
      let (l, h, m) ← bounds vars env xs.length xs.length lo hi mx
      match m with
      | some m => if m = h then pure (.slc sz true nn ((xs.drop l).take (h - l))) else none
      | none => pure (.slc sz (ex && h == xs.length) nn ((xs.drop l).take (h - l)))
    else none
  | .own sz' id ver off n =>
    if sz' = sz then do
      let (xs, k) ← rowAt h sz id ver (off + n)
      let (l, h', m) ← bounds vars env n n lo hi mx
      match m with
      | some _ => none
      | none => pure (.own sz id ver (off + l) (h' - l))
    else none
  | _ => none

def toL (xs : List Value) : List AV := xs.map .v
/-- an element's zero -/
def zeroEl : List Value → AV
  | [z] => .v z
  | zs => .agg (toL zs)

/-- as an element's cells: one that stands for itself, or several -/
def asEl (agg : Bool) (cs : List AV) : Option AV :=
  if agg then some (.agg cs) else match cs with
    | [c] => some c
    | _ => none

def evLoad (h : List AO) (agg : Bool) (sz : Nat) : AV → Option AV
  | .ip cs => if sz ≤ cs.length then asEl agg (cs.take sz) else none
  | .ptr id off => match h[id]? with
    | some (.box cs) => if off + sz ≤ cs.length then asEl agg ((cs.drop off).take sz) else none
    | _ => none
  | .ep sz' id ver i off => match rowAt h sz' id ver (i + 1) with
    | some (l, _) => match l[i]? with
      | some el => if off + sz ≤ el.cells.length then asEl agg ((el.cells.drop off).take sz) else none
      | none => none
    | _ => none
  | _ => none

def AV.isCell : AV → Bool
  | .agg _ => false
  | _ => true
/-- an element of which some cells are turned -/
def putEl (el : AV) (off : Nat) (xs : List AV) : AV :=
  match el with
  | .agg cs => .agg (putAt cs off xs)
  | c => match xs with
    | [x] => x
    | _ => c

def evStore (h : List AO) (sz : Nat) (a x : AV) : Option (List AO) :=
  match a with
  | .ptr id off => match h[id]? with
    | some (.box cs) => match x.cl with
      | some xs => if xs.length = sz ∧ off + sz ≤ cs.length then some (h.set id (.box (putAt cs off xs))) else none
      | none => none
    | _ => none
  | .ep sz' id ver i off => match rowAt h sz' id ver (i + 1) with
    | some (l, k) => match l[i]?, (x.snap1 h).bind AV.cl with
      | some el, some ys => if k ≤ i ∧ ys.length = sz ∧ off + sz ≤ el.cells.length ∧ ys.all AV.isCell = true then some (h.set id (.row sz' ver (l.set i (putEl el off ys)) k)) else none
      | _, _ => none
    | none => none
  | _ => none

/-- the elements behind a slice -/
def elemsOf (h : List AO) (sz : Nat) : AV → Option (List AV)
  | .v (.slice none 0 0) => some []
  | .slc sz' _ _ l => if sz' = sz then some l else none
  | .own sz' id ver off n => if sz' = sz then (rowAt h sz id ver (off + n)).map fun r => (r.1.drop off).take n else none
  | _ => none

/-- 2^47: what no slice's bytes pass -/
def room : Nat := 140737488355328
def fits (n bytes : Nat) : Bool := decide (n ≤ room ∧ n * bytes ≤ room)

def evAppend (h : List AO) (sz bytes : Nat) (s x : AV) : Option (AV × List AO) :=
  match elemsOf h sz x with
  | none => none
  | some ys =>
    match s with
    | .v (.slice none 0 0) =>
      if ys = [] then some (.v (.slice none 0 0), h)
      else if fits ys.length bytes then some (.own sz h.length 0 0 ys.length, h ++ [.row sz 0 ys 0]) else none
    | .slc sz' ex nn l =>
      if sz' = sz then
        if ys = [] then some (.slc sz' ex nn l, h)
        else if ex then
          if fits (l.length + ys.length) bytes then some (.own sz h.length 0 0 (l.length + ys.length), h ++ [.row sz 0 (l ++ ys) 0]) else none
        else none
      else none
    | .own sz' id ver off n =>
      if sz' = sz then
        match rowAt h sz id ver (off + n) with
        | some (l, k) =>
          if k ≤ off + n then
            if ys = [] then some (.own sz' id ver off n, h)
            else if fits (n + ys.length) bytes then
              some (.own sz id (ver + 1) 0 (n + ys.length), h.set id (.row sz (ver + 1) ((l.drop off).take n ++ ys) (k - off)))
            else none
          else none
        | none => none
      else none
    | _ => none

def evLen (h : List AO) : LenK → AV → Option Nat
  | .slice, .v (.slice none 0 0) => some 0
  | .slice, .slc _ _ _ l => some l.length
  | .slice, .own sz id ver off n => (rowAt h sz id ver (off + n)).map fun _ => n
  | .string, .v (.string s) => some s.size
  | .map, .mp id => match h[id]? with
    | some (.map es) => some es.length
    | _ => none
  | _, _ => none

def keyEq : Value → Value → Bool
  | .int k a, .int k' b => k == k' && a == b
  | .string a, .string b => a == b
  | .bool a, .bool b => a == b
  | _, _ => false

def look (k : Value) : List (Value × AV) → Option AV
  | [] => none
  | e :: r => if keyEq k e.1 then some e.2 else look k r
def upd (k : Value) (x : AV) : List (Value × AV) → List (Value × AV)
  | [] => [(k, x)]
  | e :: r => if keyEq k e.1 then (e.1, x) :: r else e :: upd k x r

def isKey : Value → Bool
  | .int .. | .string _ | .bool _ => true
  | _ => false

def evFa (h : List AO) (off : Nat) : AV → Option AV
  | .ptr id o => some (.ptr id (o + off))
  | .ep sz id ver i o => (rowAt h sz id ver (i + 1)).map fun _ => .ep sz id ver i (o + off)
  | .ip cs => some (.ip (cs.drop off))
  | _ => none

def evNil (h : List AO) : AV → Option AV
  | .ptr id off => some (.ptr id off)
  | .ep sz id ver i off => (rowAt h sz id ver (i + 1)).map fun _ => .ep sz id ver i off
  | .ip cs => some (.ip cs)
  | _ => none

def evIa (vars env : List AV) (h : List AO) (sz : Nat) (x i : Opd) : Option AV :=
  match getO vars env x, natO vars env i with
  | .slc sz' _ _ l, some i => match l[i]? with
    | some el => if sz' = sz then some (.ip el.cells) else none
    | none => none
  | .own sz' id ver off n, some i => if sz' = sz ∧ i < n then (rowAt h sz id ver (off + n)).map fun _ => .ep sz id ver (off + i) 0 else none
  | _, _ => none

def evOp (call : CallF) (vars env : List AV) (h : List AO) : COp → Option (AV × List AO)
  | .mov x => some (getO vars env x, h)
  | .pick c a b => match getO vars env c with
    | .v (.bool t) => some (cond t (getO vars env a) (getO vars env b), h)
    | _ => none
  | .box x => (getO vars env x).cl.map fun cs => (.ptr h.length 0, h ++ [.box cs])
  | .build zero parts => (evBuild vars env (toL zero) parts).map fun cs => (.agg cs, h)
  | .bslice sz zero n parts => (evElems vars env h sz (List.replicate n (zeroEl zero)) parts).map fun l => (.slc sz true true l, h)
  | .load agg sz x => (evLoad h agg sz (getO vars env x)).map fun v => (v, h)
  | .store sz a x => (evStore h sz (getO vars env a) (getO vars env x)).map fun h' => (.v (.tuple #[]), h')
  | .nilchk x => (evNil h (getO vars env x)).map fun v => (v, h)
  | .bin op x y => (evBin op (getO vars env x) (getO vars env y)).map fun v => (v, h)
  | .eqv k neg x y => (eqNil h k (getO vars env x) (getO vars env y)).map fun b => (.v (.bool (if neg then !b else b)), h)
  | .un op x => (evUn op (getO vars env x)).map fun v => (v, h)
  | .conv k x => match getO vars env x with
    | .v (.int _ n) => some (.v (.int k (k.wrap n)), h)
    | _ => none
  | .same x => match getO vars env x with
    | .v (.string s) => some (.v (.string s), h)
    | _ => none
  | .mkfn f first cap => some (.fn f (first.map (getO vars env)) (cap.map (getO vars env)), h)
  | .mkslice sz bytes zero l c => match getO vars env l, getO vars env c with
    | .v (.int .i64 n), .v (.int .i64 m) =>
      if 0 ≤ n ∧ n ≤ m ∧ m ≤ 9223372036854775807 ∧ bytes * m ≤ 281474976710656 then
        some (.own sz h.length 0 0 n.toNat, h ++ [.row sz 0 (List.replicate n.toNat (zeroEl zero)) 0])
      else none
    | _, _ => none
  | .slice sz x lo hi mx => (evSlice vars env h sz (getO vars env x) lo hi mx).map fun v => (v, h)
  | .sslice x lo hi => match getO vars env x with
    | .v (.string s) => (bounds vars env s.size s.size lo hi none).map fun (l, hh, _) => (.v (.string (s.extract l hh)), h)
    | _ => none
  | .fa off x => (evFa h off (getO vars env x)).map fun v => (v, h)
  | .fld agg off sz x => match getO vars env x with
    | .agg cs => if off + sz ≤ cs.length then (asEl agg ((cs.drop off).take sz)).map fun v => (v, h) else none
    | _ => none
  | .ia sz x i => (evIa vars env h sz x i).map fun v => (v, h)
  | .ixs x i => match getO vars env x, natO vars env i with
    | .v (.string s), some i => match s[i]? with
      | some b => some (.v (.int .u8 b.toNat), h)
      | none => none
    | _, _ => none
  | .extract x i => match getO vars env x with
    | .tup vs => match vs[i]? with
      | some v => some (v, h)
      | none => none
    | _ => none
  | .call true f args => match (args.map (getO vars env)).mapM (AV.snap1 h) with
    | some as => match call f as [] with
      | some (r, []) => some (r, h)
      | _ => none
    | none => none
  | .call false f args => call f (args.map (getO vars env)) h
  | .callv x args => match getO vars env x with
    | .fn (.func f) first cap => call f (first ++ args.map (getO vars env) ++ cap) h
    | _ => none
  | .append sz bytes s x => evAppend h sz bytes (getO vars env s) (getO vars env x)
  | .len k x => (evLen h k (getO vars env x)).map fun (n : Nat) => (.v (.int .i64 (n : Int)), h)
  | .mkmap => some (.mp h.length, h ++ [.map []])
  | .lookup zero ok m key => match getO vars env m, getO vars env key with
    | .mp id, .v k => match h[id]? with
      | some (.map es) => if isKey k then
          (match look k es with
          | some x => some (if ok then .tup [x, .v (.bool true)] else x, h)
          | none => some (if ok then .tup [.v zero, .v (.bool false)] else .v zero, h)) else none
      | _ => none
    | _, _ => none
  | .mapupd m key x => match getO vars env m, getO vars env key with
    | .mp id, .v k => match h[id]? with
      | some (.map es) => if isKey k && (getO vars env x).free0 then some (.v (.tuple #[]), h.set id (.map (upd k (getO vars env x) es))) else none
      | _ => none
    | _, _ => none
  | .range x => match getO vars env x with
    | .v (.string s) => some (.it h.length, h ++ [.siter s 0])
    | _ => none
  | .next x => match getO vars env x with
    | .it id => match h[id]? with
      | some (.siter s pos) =>
        if pos < s.size then
          some (.tup [.v (.bool true), .v (.int .i64 pos), .v (.int .i32 (Utf8.decode s pos).1)], h.set id (.siter s (pos + (Utf8.decode s pos).2)))
        else some (.tup [.v (.bool false)], h)
      | _ => none
    | _ => none
  | .bad => none

/-! ### Regions, code, calls -/
def setO (vars : List AV) (wr : Option Nat) (v : AV) : List AV :=
  match wr with
  | some i => vars.set i v
  | none => vars

def evOps (call : CallF) : List CO → List AV → List AV → List AO → Option (List AV × List AO)
  | [], vars, _, h => some (vars, h)
  | o :: r, vars, env, h =>
    match o.guard with
    | none => match evOp call vars env h o.op with
      | some (v, h') => evOps call r (setO vars o.wr v) (v :: env) h'
      | none => none
    | some (g, want) => match getO vars env g with
      | .v (.bool b) =>
        if b = want then match evOp call vars env h o.op with
          | some (v, h') => evOps call r (setO vars o.wr v) (v :: env) h'
          | none => none
        else evOps call r (setO vars o.wr (.v undef)) (.v undef :: env) h
      | .v (.tuple _) => evOps call r (setO vars o.wr (.v undef)) (.v undef :: env) h
      | _ => none

/-- from now on the first m elements can't change -/
def raise (h : List AO) (sz id ver m : Nat) : List AO :=
  match rowAt h sz id ver m with
  | some (l, k) => h.set id (.row sz ver l (max k m))
  | none => h
def raise0 (h : List AO) : AV → List AO
  | .own sz id ver off n => raise h sz id ver (off + n)
  | _ => h
def raise1 (h : List AO) : AV → List AO
  | .agg cs => cs.foldl raise0 h
  | x => raise0 h x
def doMark (s : List AV × List AO) : Mark → List AV × List AO
  | .v i => (s.1, raise1 s.2 (s.1.getD i .junk))
  | .p i off n => match s.1.getD i .junk with
    | .ptr id o => match s.2[id]? with
      | some (.box cs) => (s.1, ((cs.drop (o + off)).take n).foldl raise0 s.2)
      | _ => s
    | _ => s
  | .av i sz => match s.1.getD i .junk with
    | .v (.slice none 0 0) => (s.1.set i (.own sz s.2.length 0 0 0), s.2 ++ [.row sz 0 [] 0])
    | _ => s
  | .ap i off sz => match s.1.getD i .junk with
    | .ptr id o => match s.2[id]? with
      | some (.box cs) => match cs[o + off]? with
        | some (.v (.slice none 0 0)) => (s.1, s.2.set id (.box (cs.set (o + off) (.own sz s.2.length 0 0 0))) ++ [.row sz 0 [] 0])
        | _ => s
      | _ => s
    | _ => s

def clr : List Bool → List AV → List AV
  | k :: ks, x :: xs => (bif k then x else .junk) :: clr ks xs
  | _, xs => xs

abbrev CRun := Option (AXit × List AV × List AO)

def loopN (step : List AV → List AO → CRun) (keep : List Bool) : Nat → List AV → List AO → CRun
  | 0, _, _ => none
  | n + 1, vars, h => match step (clr keep vars) h with
    | some (.normal, vars', h') => loopN step keep n vars' h'
    | r => r

/-- asked where a region's order is drawn: two variables lead to different objects; a variable leads to a variable of its own -/
def apB (vars : List AV) : Option Nat × Nat → Bool
  | (none, b) => match vars.getD b .junk with
    | .ptr .. | .ip _ => true
    | _ => false
  | (some a, b) => match vars.getD a .junk, vars.getD b .junk with
    | .ptr i _, .ptr j _ => i != j
    | .ptr .., .ip _ => true
    | _, _ => false

def exec (call : CallF) (fuel : Nat) : CC → List AV → List AO → CRun
  | .skip, vars, h => some (.normal, vars, h)
  | .region marks aps ops, vars, h =>
    if aps.all (apB (marks.foldl doMark (vars, h)).1) = true then
      (evOps call ops (marks.foldl doMark (vars, h)).1 [] (marks.foldl doMark (vars, h)).2).map fun (vars', h') => (.normal, vars', h')
    else none
  | .seq a b, vars, h => match exec call fuel a vars h with
    | some (.normal, vars', h') => exec call fuel b vars' h'
    | r => r
  | .cond c x y, vars, h => match getO vars [] c with
    | .v (.bool b) => cond b (exec call fuel x vars h) (exec call fuel y vars h)
    | _ => none
  | .block id b, vars, h => match exec call fuel b vars h with
    | some (.exit id', vars', h') => some (if id' = id then .normal else .exit id', vars', h')
    | r => r
  | .loop keep marks b, vars, h => loopN (exec call fuel b) keep fuel (marks.foldl doMark (vars, h)).1 (marks.foldl doMark (vars, h)).2
  | .exit id, vars, h => some (.exit id, vars, h)
  | .ret, vars, h => some (.ret, vars, h)

def resOf (vars : List AV) (h : List AO) : CRes → Option AV
  | .var i => some (vars.getD i .junk)
  | .cell i agg sz => evLoad h agg sz (vars.getD i .junk)

def pack : List AV → AV
  | [x] => x
  | xs => .tup xs

/-- behind a body: its results; of its own objects those that nothing is told of any more are gone -/
def leave (n0 : Nat) (f : CFun) : CRun → Option (AV × List AO)
  | some (.normal, vars, h) | some (.ret, vars, h) =>
    match (f.res.mapM (resOf vars h)).bind fun rs => (pack rs).frz2 n0 h with
    | some r => if n0 ≤ h.length ∧ (h.take n0).all (AO.below n0) = true then some (r, h.take n0) else none
    | none => none
  | _ => none

/-- the same, but the row that it hands back stays one -/
def keepRow (n0 : Nat) (h : List AO) : AV → Option (AV × List AO)
  | .own sz id ver off n =>
    if n0 ≤ id then (h[id]?).map fun o => (.own sz n0 ver off n, h.take n0 ++ [o]) else none
  | x => (x.frz1 n0 h).map fun r => (r, h.take n0)
def leaveKeep (n0 : Nat) (f : CFun) : CRun → Option (AV × List AO)
  | some (.normal, vars, h) | some (.ret, vars, h) =>
    if n0 ≤ h.length ∧ (h.take n0).all (AO.below n0) = true then
      match f.res.mapM (resOf vars h) with
      | some [r] => keepRow n0 h r
      | some (r :: rs) => match keepRow n0 h r, rs.mapM (AV.frz1 n0 h) with
        | some (r', h'), some rs' => some (.tup (r' :: rs'), h')
        | _, _ => none
      | _ => none
    else none
  | _ => none

inductive FEntry where
  | code (f : CFun)
  /-- its first result is handed on as a row of the caller's -/
  | keep (f : CFun)
  | oracle (g : List AV → List AO → Option (AV × List AO))

def start (f : CFun) (args : List AV) : List AV := args ++ List.replicate (f.nv - f.np) (.v undef)

/-- A call, of at most n calls within each other, and as many rounds of a loop. -/
def callN (F : FuncId → Option FEntry) : Nat → CallF
  | 0, _, _, _ => none
  | n + 1, f, args, h => match F f with
    | some (.code c) => if args.length = c.np then leave h.length c (exec (callN F n) n c.body (start c args) h) else none
    | some (.keep c) => if args.length = c.np then leaveKeep h.length c (exec (callN F n) n c.body (start c args) h) else none
    | some (.oracle g) => g args h
    | none => none

end Go.AE
