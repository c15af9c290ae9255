/- The evaluator of compiled functions, proved sound: texts put together. -/
import Derived.Orders
import Derived.Below
import Derived.Laws.Append
import Derived.Laws.IdiomCopy
import Derived.IntWalk
import Derived.ArgAppend
import Derived.Laws.AppendOwn
import Derived.Laws.StructEq
/-! AE, part 1: a small evaluator over values without memory: what it is. (Program-independent.) -/
section
set_option linter.unusedVariables false
namespace Go.AE
open Go Go.RowKit

structure Loc where
  fix : Bool
  has : Bool
  b : Nat
  o : Nat
  cap : Nat
  ver : Nat

inductive AV where
  | v (x : Value)
  | slc (sz : Nat) (ex nn : Bool) (l : List AV)
  | ip (cs : List AV)
  | agg (cs : List AV)
  | tup (vs : List AV)
  | own (sz id ver off n : Nat)
  | ptr (id off : Nat)
  | ep (sz id ver idx off : Nat)
  | fn (f : Fn) (first cap : List AV)
  | mp (id : Nat)
  | it (id : Nat)
  | bs (id off n : Nat)
  | junk

instance : Inhabited AV := ⟨.junk⟩

inductive KK where
  | int (k : IntKind)
  | string
  | bool
deriving DecidableEq
def KK.ok : KK → Value → Bool
  | .int k, .int k' _ => decide (k' = k)
  | .string, .string _ => true
  | .bool, .bool _ => true
  | _, _ => false

inductive AO where
  | box (t : TypeId) (cs : List AV)
  | row (t : TypeId) (sz ver : Nat) (l : List AV) (k : Nat)
  | map (kk : KK) (c : Nat) (es : List (Value × AV))
  | siter (s : ByteArray) (pos : Nat)

def rowAt (h : List AO) (sz id ver m : Nat) : Option (List AV × Nat) :=
  match h[id]? with
  | some (.row _ sz' ver' l k) => if sz = sz' ∧ ver = ver' ∧ m ≤ l.length then some (l, k) else none
  | _ => none
def rowT (h : List AO) (id : Nat) : TypeId :=
  match h[id]? with
  | some (.row t _ _ _ _) => t
  | _ => 0

def AV.cells : AV → List AV
  | .agg cs => cs
  | x => [x]
def AV.cl : AV → Option (List AV)
  | .agg cs => some cs
  | .v x => if x.oneCell' then some [.v x] else none
  | .junk => none
  | .tup _ => none
  | x => some [x]
def ofVal : Value → AV
  | .agg arr => if arr.all (·.oneCell') then .agg (arr.toList.map .v) else .v (.agg arr)
  | x => .v x

def AV.free0 : AV → Bool
  | .v _ | .slc .. | .ip _ | .junk => true
  | .fn _ [] [] => true
  | _ => false
def AV.frz0 (n : Nat) (h : List AO) : AV → Option AV
  | .own sz id ver off m =>
    if id < n then some (.own sz id ver off m)
    else match rowAt h sz id ver (off + m) with
      | some (l, _) => some (.slc sz false false ((l.drop off).take m))
      | none => none
  | .ptr id off => if id < n then some (.ptr id off) else none
  | .ep sz id ver i off => if id < n then some (.ep sz id ver i off) else none
  | .mp id => if id < n then some (.mp id) else none
  | .it id => if id < n then some (.it id) else none
  | .bs id off m => if id < n then some (.bs id off m) else none
  | .fn f [] [] => some (.fn f [] [])
  | .fn .. | .agg _ | .tup _ => none
  | x => some x
def AV.frz1 (n : Nat) (h : List AO) : AV → Option AV
  | .agg cs => (cs.mapM (AV.frz0 n h)).map .agg
  | .fn f a b => do
    let a ← a.mapM (AV.frz0 n h)
    let b ← b.mapM (AV.frz0 n h)
    pure (.fn f a b)
  | x => x.frz0 n h
def AV.frz2 (n : Nat) (h : List AO) : AV → Option AV
  | .tup vs => (vs.mapM (AV.frz1 n h)).map .tup
  | x => x.frz1 n h

def AV.snap0 (h : List AO) : AV → Option AV
  | .own sz id ver off m =>
    match rowAt h sz id ver (off + m) with
    | some (l, k) => if off + m ≤ k then some (.slc sz false false ((l.drop off).take m)) else none
    | none => none
  | x => if x.free0 then some x else none
def AV.below0 (n : Nat) : AV → Bool
  | .own _ id _ _ _ | .ptr id _ | .ep _ id _ _ _ | .mp id | .it id | .bs id _ _ => decide (id < n)
  | .fn _ [] [] => true
  | .fn .. | .agg _ | .tup _ => false
  | _ => true
def AV.below1 (n : Nat) : AV → Bool
  | .fn _ a b => a.all (AV.below0 n) && b.all (AV.below0 n)
  | x => x.below0 n
def AO.below (n : Nat) : AO → Bool
  | .box _ cs => cs.all (AV.below1 n)
  | _ => true
def AV.snap1 (h : List AO) : AV → Option AV
  | .agg cs => (cs.mapM (AV.snap0 h)).map .agg
  | x => x.snap0 h

inductive Opd where
  | var (i : Nat)
  | loc (j : Nat)
  | k (x : Value)
  | fn (f : FuncId)

def getO (vars env : List AV) : Opd → AV
  | .var i => vars.getD i .junk
  | .loc j => env.getD j .junk
  | .k x => ofVal x
  | .fn f => .fn (.func f) [] []

inductive FK where
  | i
  | s
  | b
inductive EqK where
  | bool
  | slice
  | pointer
  | flat (ks : List FK)

inductive LenK where
  | slice
  | string
  | map

inductive COp where
  | mov (x : Opd)
  | pick (c a b : Opd)
  | box (t : TypeId) (x : Opd)
  | build (zero : List Value) (parts : List (Nat × Nat × Opd))
  | bslice (sz : Nat) (zero : List Value) (n : Nat) (parts : List (Nat × Opd))
  | brow (t : TypeId) (sz : Nat) (zero : List Value) (n : Nat) (parts : List (Nat × Opd))
  | load (agg : Bool) (sz : Nat) (x : Opd)
  | store (sz : Nat) (a x : Opd)
  | nilchk (x : Opd)
  | bin (op : BinOp) (x y : Opd)
  | eqv (k : EqK) (neg : Bool) (x y : Opd)
  | un (op : UnOp) (x : Opd)
  | mm (mx : Bool) (x y : Opd)
  | conv (k : IntKind) (x : Opd)
  | same (x : Opd)
  | mkfn (f : Fn) (first cap : List Opd)
  | mkslice (t : TypeId) (sz bytes : Nat) (zero : List Value) (l c : Opd)
  | slice (sz : Nat) (x : Opd) (lo hi mx : Option Opd)
  | sslice (x : Opd) (lo hi : Option Opd)
  | aslice (n sz : Nat) (x : Opd) (lo hi : Option Opd)
  | runestr (x : Opd)
  | bstr (x : Opd)
  | fa (off : Nat) (x : Opd)
  | fld (agg : Bool) (off sz : Nat) (x : Opd)
  | ia (sz : Nat) (x i : Opd)
  | iaa (n sz : Nat) (x i : Opd)
  | ixa (n : Nat) (agg : Bool) (sz : Nat) (x i : Opd)
  | ixs (x i : Opd)
  | extract (x : Opd) (i : Nat)
  | call (pure : Bool) (f : FuncId) (args : List Opd)
  | callf (f : FuncId) (args : List Opd)
  | callv (x : Opd) (args : List Opd)
  | append (t : TypeId) (sz bytes : Nat) (s x : Opd)
  | apps (t : TypeId) (bytes : Nat) (s x : Opd)
  | len (k : LenK) (x : Opd)
  | shf (left : Bool) (x y : Opd)
  | mkmap (kk : KK)
  | lookup (kk : KK) (zero : Value) (ok : Bool) (m key : Opd)
  | mapupd (kk : KK) (m key x : Opd)
  | mentry (kk : KK) (zero : Value) (m key : Opd)
  | estore (m n x : Opd)
  | clrmap (m : Opd)
  | clrrow (sz : Nat) (zero : List Value) (x : Opd)
  | range (x : Opd)
  | next (x : Opd)
  | bad

structure CO where
  op : COp
  wr : Option Nat
  guard : Option (Opd × Bool)

inductive Mark where
  | v (i : Nat)
  | p (i off n : Nat)
  | av (i : Nat) (t : TypeId) (sz : Nat)
  | ap (i off : Nat) (t : TypeId) (sz : Nat)

inductive CC where
  | skip
  | region (marks : List Mark) (aps : List (Option Nat × Nat)) (ops : List CO)
  | seq (a b : CC)
  | cond (c : Opd) (x y : CC)
  | block (id : Nat) (b : CC)
  | loop (keep : List Bool) (marks : List Mark) (b : CC)
  | exit (id : Nat)
  | ret

inductive AXit where
  | normal
  | exit (id : Nat)
  | ret

inductive CRes where
  | var (i : Nat)
  | cell (i : Nat) (agg : Bool) (sz : Nat)

structure CFun where
  np : Nat
  nv : Nat
  body : CC
  res : List CRes

abbrev CallF := FuncId → List AV → List AO → Option (AV × List AO)

/-! ### What the operations do -/
def Q79 (op : BinOp) (k : IntKind) (a b : Int) : Option AV :=
  match op with
  | .add => some (.v (.int k (k.wrap (a + b))))
  | .sub => some (.v (.int k (k.wrap (a - b))))
  | .mul => some (.v (.int k (k.wrap (a * b))))
  | .quo => if b = 0 then none else some (.v (.int k (k.wrap (a.tdiv b))))
  | .rem => if b = 0 then none else some (.v (.int k (a.tmod b)))
  | .eql => some (.v (.bool (a == b)))
  | .neq => some (.v (.bool (a != b)))
  | .lss => some (.v (.bool (decide (a < b))))
  | .leq => some (.v (.bool (decide (a ≤ b))))
  | .gtr => some (.v (.bool (decide (a > b))))
  | .geq => some (.v (.bool (decide (a ≥ b))))
  | .and => some (.v (.int k (k.wrap ((BitVec.ofInt k.bits a &&& BitVec.ofInt k.bits b).toNat : Int))))
  | .or => some (.v (.int k (k.wrap ((BitVec.ofInt k.bits a ||| BitVec.ofInt k.bits b).toNat : Int))))
  | .xor => some (.v (.int k (k.wrap ((BitVec.ofInt k.bits a ^^^ BitVec.ofInt k.bits b).toNat : Int))))
  | .andNot => some (.v (.int k (k.wrap ((BitVec.ofInt k.bits a &&& ~~~BitVec.ofInt k.bits b).toNat : Int))))
  | _ => none

def Q80 (op : BinOp) (x y : ByteArray) : Option AV :=
  match op with
  | .add => if ((x.size + y.size : Nat) : Int) ≤ 9223372036854775807 then some (.v (.string (x ++ y))) else none
  | .eql => some (.v (.bool (x.toList == y.toList)))
  | .neq => some (.v (.bool !(x.toList == y.toList)))
  | .lss => some (.v (.bool (Op.bytesLess x.toList y.toList)))
  | .leq => some (.v (.bool (Op.bytesLess x.toList y.toList || x.toList == y.toList)))
  | .gtr => some (.v (.bool !(Op.bytesLess x.toList y.toList || x.toList == y.toList)))
  | .geq => some (.v (.bool !(Op.bytesLess x.toList y.toList)))
  | _ => none

def Q78 (op : BinOp) : AV → AV → Option AV
  | .v (.int k a), .v (.int k' b) => if k = k' then Q79 op k a b else none
  | .v (.string x), .v (.string y) => Q80 op x y
  | _, _ => none

def flatEq : List FK → List AV → List AV → Option Bool
  | [], [], [] => some true
  | .i :: ks, .v (.int k a) :: cs, .v (.int k' b) :: ds => if k = k' then (flatEq ks cs ds).map fun r => a == b && r else none
  | .s :: ks, .v (.string s) :: cs, .v (.string s') :: ds => (flatEq ks cs ds).map fun r => s.toList == s'.toList && r
  | .b :: ks, .v (.bool p) :: cs, .v (.bool q) :: ds => (flatEq ks cs ds).map fun r => p == q && r
  | _, _, _ => none
def eqNil (h : List AO) : EqK → AV → AV → Option Bool
  | .bool, .v (.bool a), .v (.bool b) => some (a == b)
  | .slice, .v (.slice none 0 0), .v (.slice none 0 0) => some true
  | .slice, .slc _ _ nn l, .v (.slice none 0 0) => if nn || !l.isEmpty then some false else none
  | .slice, .own sz id ver off n, .v (.slice none 0 0) => match rowAt h sz id ver (off + n) with
    | some _ => if 0 < n then some false else none
    | none => none
  | .pointer, .ptr .., .v (.pointer none) => some false
  | .pointer, .ip .., .v (.pointer none) => some false
  | .pointer, .v (.pointer none), .v (.pointer none) => some true
  | .flat ks, .agg cs, .agg ds => flatEq ks cs ds
  | _, _, _ => none

def Q81 (op : UnOp) : AV → Option AV
  | .v (.int k n) => match op with
    | .neg => some (.v (.int k (k.wrap (0 - n))))
    | _ => none
  | .v (.bool b) => match op with
    | .not => some (.v (.bool !b))
    | _ => none
  | _ => none

def Q112 (cs : List AV) (off : Nat) : List AV → List AV
  | [] => cs
  | x :: r => Q112 (cs.set off x) (off + 1) r

def evBuild (vars env : List AV) : List AV → List (Nat × Nat × Opd) → Option (List AV)
  | cs, [] => some cs
  | cs, (off, sz, x) :: r =>
    match (getO vars env x).cl with
    | some xs => if xs.length = sz ∧ off + sz ≤ cs.length then evBuild vars env (Q112 cs off xs) r else none
    | none => none

def evElems (vars env : List AV) (h : List AO) (sz : Nat) : List AV → List (Nat × Opd) → Option (List AV)
  | l, [] => some l
  | l, (i, x) :: r =>
    match ((getO vars env x).snap1 h).bind fun y => y.cl.map fun ys => (y, ys) with
    | some (y, ys) => if ys.length = sz ∧ i < l.length then evElems vars env h sz (l.set i y) r else none
    | none => none

def natO (vars env : List AV) (x : Opd) : Option Nat :=
  match getO vars env x with
  | .v (.int _ n) => if 0 ≤ n then some n.toNat else none
  | _ => none

def optN (vars env : List AV) (d : Nat) : Option Opd → Option Nat
  | some x => natO vars env x
  | none => some d

def bounds (vars env : List AV) (len : Nat) (top : Nat) (lo hi mx : Option Opd) : Option (Nat × Nat × Option Nat) :=
  match mx with
  | none => match optN vars env len hi, optN vars env 0 lo with
    | some h, some l => if l ≤ h ∧ h ≤ top then some (l, h, none) else none
    | _, _ => none
  | some x => match hi with
    | none => none
    | some y => match natO vars env x, natO vars env y, optN vars env 0 lo with
      | some m, some h, some l => if l ≤ h ∧ h ≤ m ∧ m ≤ top then some (l, h, some m) else none
      | _, _, _ => none

def evSlice (vars env : List AV) (h : List AO) (sz : Nat) (x : AV) (lo hi mx : Option Opd) : Option AV :=
  match x with
  | .v (.slice none 0 0) => do
    let (l, h, m) ← bounds vars env 0 0 lo hi mx
    pure (.v (.slice none 0 0))
  | .slc sz' ex nn xs =>
    if sz' = sz then do
      let (l, h, m) ← bounds vars env xs.length xs.length lo hi mx
      match m with
      | some m => if m = h then pure (.slc sz true nn ((xs.drop l).take (h - l))) else none
      | none => pure (.slc sz (ex && h == xs.length) nn ((xs.drop l).take (h - l)))
    else none
  | .own sz' id ver off n =>
    if sz' = sz then (match mx with
      | none => (bounds vars env n n lo hi none).map fun r => .own sz id ver (off + r.1) (r.2.1 - r.1)
      | some y => do
        let (xs, k) ← rowAt h sz id ver (off + n)
        let (l, h', m) ← bounds vars env n n lo hi (some y)
        match m with
        | some m => if m = l then pure (.slc sz true false []) else if m = h' ∧ off + m ≤ k then pure (.slc sz true false ((xs.drop (off + l)).take (h' - l))) else none
        | none => none)
    else none
  | _ => none

def evASlice (vars env : List AV) (n sz : Nat) (x : AV) (lo hi : Option Opd) : Option AV :=
  match x with
  | .ptr id off => if sz = 1 then (bounds vars env n n lo hi none).map fun r => .bs id (off + r.1) (r.2.1 - r.1) else none
  | _ => none

def toL (xs : List Value) : List AV := xs.map .v
def zeroEl : List Value → AV
  | [z] => .v z
  | zs => .agg (toL zs)

def Q77 (agg : Bool) (cs : List AV) : Option AV :=
  if agg then some (.agg cs) else match cs with
    | [c] => some c
    | _ => none

def Q76 (h : List AO) (agg : Bool) (sz : Nat) : AV → Option AV
  | .ip cs => if sz ≤ cs.length then Q77 agg (cs.take sz) else none
  | .ptr id off => match h[id]? with
    | some (.box _ cs) => if off + sz ≤ cs.length then Q77 agg ((cs.drop off).take sz) else none
    | _ => none
  | .ep sz' id ver i off => match rowAt h sz' id ver (i + 1) with
    | some (l, _) => match l[i]? with
      | some el => if off + sz ≤ el.cells.length then Q77 agg ((el.cells.drop off).take sz) else none
      | none => none
    | _ => none
  | _ => none

def AV.isCell : AV → Bool
  | .agg _ => false
  | _ => true
def putEl (el : AV) (off : Nat) (xs : List AV) : AV :=
  match el with
  | .agg cs => .agg (Q112 cs off xs)
  | c => match xs with
    | [x] => x
    | _ => c

def Q113 (h : List AO) (sz : Nat) (a x : AV) : Option (List AO) :=
  match a with
  | .ptr id off => match h[id]? with
    | some (.box t cs) => match x.cl with
      | some xs => if xs.length = sz ∧ off + sz ≤ cs.length then some (h.set id (.box t (Q112 cs off xs))) else none
      | none => none
    | _ => none
  | .ep sz' id ver i off => match rowAt h sz' id ver (i + 1) with
    | some (l, k) => match l[i]?, (x.snap1 h).bind AV.cl with
      | some el, some ys => if k ≤ i ∧ ys.length = sz ∧ off + sz ≤ el.cells.length ∧ ys.all AV.isCell = true then some (h.set id (.row (rowT h id) sz' ver (l.set i (putEl el off ys)) k)) else none
      | _, _ => none
    | none => none
  | _ => none

def elemsOf (h : List AO) (sz : Nat) : AV → Option (List AV)
  | .v (.slice none 0 0) => some []
  | .slc sz' _ _ l => if sz' = sz then some l else none
  | .own sz' id ver off n => if sz' = sz then (rowAt h sz id ver (off + n)).map fun r => (r.1.drop off).take n else none
  | _ => none

def room : Nat := 140737488355328
def fits (n bytes : Nat) : Bool := decide (n ≤ room ∧ n * bytes ≤ room)

def evAppendL (h : List AO) (t : TypeId) (sz bytes : Nat) (s : AV) (ys : List AV) : Option (AV × List AO) :=
    match s with
    | .v (.slice none 0 0) =>
      if ys = [] then some (.v (.slice none 0 0), h)
      else if fits ys.length bytes then some (.own sz h.length 0 0 ys.length, h ++ [.row t sz 0 ys 0]) else none
    | .slc sz' ex nn l =>
      if sz' = sz then
        if ys = [] then some (.slc sz' ex nn l, h)
        else if ex then
          if fits (l.length + ys.length) bytes then some (.own sz h.length 0 0 (l.length + ys.length), h ++ [.row t sz 0 (l ++ ys) 0]) else none
        else none
      else none
    | .own sz' id ver off n =>
      if sz' = sz then
        match rowAt h sz id ver (off + n) with
        | some (l, k) =>
          if k ≤ off + n ∧ rowT h id = t then
            if ys = [] then some (.own sz' id ver off n, h)
            else if fits (n + ys.length) bytes then
              some (.own sz id (ver + 1) 0 (n + ys.length), h.set id (.row t sz (ver + 1) ((l.drop off).take n ++ ys) (k - off)))
            else none
          else none
        | none => none
      else none
    | _ => none

def evAppend (h : List AO) (t : TypeId) (sz bytes : Nat) (s x : AV) : Option (AV × List AO) :=
  match elemsOf h sz x with
  | none => none
  | some ys => evAppendL h t sz bytes s ys

def bytesL (s : ByteArray) : List AV := s.data.toList.map fun b => .v (.int .u8 b.toNat)
def evAppS (h : List AO) (t : TypeId) (bytes : Nat) (s x : AV) : Option (AV × List AO) :=
  match x with
  | .v (.string z) => evAppendL h t 1 bytes s (bytesL z)
  | _ => none

def evLen (h : List AO) : LenK → AV → Option Nat
  | .slice, .v (.slice none 0 0) => some 0
  | .slice, .slc _ _ _ l => some l.length
  | .slice, .own sz id ver off n => some n
  | .string, .v (.string s) => some s.size
  | .map, .mp id => match h[id]? with
    | some (.map _ _ es) => some es.length
    | _ => none
  | _, _ => none

def keyEq : Value → Value → Bool
  | .int k a, .int k' b => k == k' && a == b
  | .string a, .string b => a == b
  | .bool a, .bool b => a == b
  | _, _ => false

def look (k : Value) : List (Value × AV) → Option AV
  | [] => none
  | e :: r => if keyEq k e.1 then some e.2 else look k r
def upd (k : Value) (x : AV) : List (Value × AV) → List (Value × AV)
  | [] => [(k, x)]
  | e :: r => if keyEq k e.1 then (e.1, x) :: r else e :: upd k x r

def Q74 (h : List AO) (off : Nat) : AV → Option AV
  | .ptr id o => some (.ptr id (o + off))
  | .ep sz id ver i o => (rowAt h sz id ver (i + 1)).map fun _ => .ep sz id ver i (o + off)
  | .ip cs => some (.ip (cs.drop off))
  | _ => none

def Q75 (h : List AO) : AV → Option AV
  | .ptr id off => some (.ptr id off)
  | .ep sz id ver i off => (rowAt h sz id ver (i + 1)).map fun _ => .ep sz id ver i off
  | .ip cs => some (.ip cs)
  | _ => none

def evIa (vars env : List AV) (h : List AO) (sz : Nat) (x i : Opd) : Option AV :=
  match getO vars env x, natO vars env i with
  | .slc sz' _ _ l, some i => match l[i]? with
    | some el => if sz' = sz then some (.ip el.cells) else none
    | none => none
  | .own sz' id ver off n, some i => if sz' = sz ∧ i < n then (rowAt h sz id ver (off + n)).map fun _ => .ep sz id ver (off + i) 0 else none
  | _, _ => none

def evShf (left : Bool) : AV → AV → Option AV
  | .v (.int k a), .v (.int _ b) => if 0 ≤ b then some (.v (.int k (if left then k.wrap (a * 2 ^ min b.toNat k.bits) else a.fdiv (2 ^ min b.toNat k.bits)))) else none
  | _, _ => none

def byteOf : AV → Option UInt8
  | .v (.int .u8 n) => some (UInt8.ofNat n.toNat)
  | _ => none
def strL (l : List AV) : Option ByteArray := (l.mapM byteOf).map fun bs => ⟨bs.toArray⟩
def evBStr (h : List AO) : AV → Option ByteArray
  | .bs id off n => match h[id]? with
    | some (.box _ cs) => if off + n ≤ cs.length then strL ((cs.drop off).take n) else none
    | _ => none
  | x => (elemsOf h 1 x).bind strL

def evClr (h : List AO) (sz : Nat) (zero : List Value) : AV → Option (List AO)
  | .v (.slice none 0 0) => some h
  | .own sz' id ver off n => if sz' = sz then
      match rowAt h sz id ver (off + n) with
      | some (l, k) => if n = 0 then some h else if k ≤ off then some (h.set id (.row (rowT h id) sz ver (l.take off ++ List.replicate n (zeroEl zero) ++ l.drop (off + n)) k)) else none
      | none => none
    else none
  | _ => none

def evLook (h : List AO) (kk : KK) (zero : Value) (ok : Bool) : AV → AV → Option AV
  | .mp id, .v k => match h[id]? with
    | some (.map kk' _ es) => if kk' = kk ∧ kk.ok k = true then
        (match look k es with
        | some x => some (if ok then .tup [x, .v (.bool true)] else x)
        | none => some (if ok then .tup [.v zero, .v (.bool false)] else .v zero)) else none
    | _ => none
  | _, _ => none
def evUpd (h : List AO) (kk : KK) : AV → AV → AV → Option (List AO)
  | .mp id, .v k, x => match h[id]? with
    | some (.map kk' c es) => match x.snap1 h with
      | some y => if kk' = kk ∧ kk.ok k = true then some (h.set id (.map kk c (upd k y es))) else none
      | none => none
    | _ => none
  | _, _, _ => none
def keyAt (k : Value) : List (Value × AV) → Option (Nat × AV)
  | [] => none
  | e :: r => if keyEq k e.1 then some (0, e.2) else (keyAt k r).map fun p => (p.1 + 1, p.2)
def evEntry (h : List AO) (kk : KK) (zero : Value) : AV → AV → Option (AV × List AO)
  | .mp id, .v k => match h[id]? with
    | some (.map kk' c es) => if kk' = kk ∧ kk.ok k = true then
        (match keyAt k es with
        | some (i, x) => some (.tup [x, .v (.int .i64 ((c + i : Nat) : Int))], h)
        | none => some (.tup [.v zero, .v (.int .i64 ((c + es.length : Nat) : Int))], h.set id (.map kk c (es ++ [(k, .v zero)])))) else none
    | _ => none
  | _, _ => none
def evEStore (h : List AO) : AV → AV → AV → Option (List AO)
  | .mp id, .v (.int .i64 n), x => match h[id]? with
    | some (.map kk c es) => match x.snap1 h with
      | some y => if (c : Int) ≤ n then (match es[n.toNat - c]? with
          | some e => some (h.set id (.map kk c (es.set (n.toNat - c) (e.1, y))))
          | none => none) else none
      | none => none
    | _ => none
  | _, _, _ => none
def evClrM (h : List AO) : AV → Option (List AO)
  | .mp id => match h[id]? with
    | some (.map kk c es) => some (h.set id (.map kk (c + es.length) []))
    | _ => none
  | _ => none
def evNext (h : List AO) : AV → Option (AV × List AO)
  | .it id => match h[id]? with
    | some (.siter s pos) =>
      if pos < s.size then
        some (.tup [.v (.bool true), .v (.int .i64 pos), .v (.int .i32 (Utf8.decode s pos).1)], h.set id (.siter s (pos + (Utf8.decode s pos).2)))
      else some (.tup [.v (.bool false)], h)
    | _ => none
  | _ => none

def raise (h : List AO) (sz id ver m : Nat) : List AO :=
  match rowAt h sz id ver m with
  | some (l, k) => h.set id (.row (rowT h id) sz ver l (max k m))
  | none => h
def raise0 (h : List AO) : AV → List AO
  | .own sz id ver off n => raise h sz id ver (off + n)
  | _ => h
def raise1 (h : List AO) : AV → List AO
  | .agg cs => cs.foldl raise0 h
  | x => raise0 h x

def evOp (call : CallF) (vars env : List AV) (h : List AO) : COp → Option (AV × List AO)
  | .mov x => some (getO vars env x, h)
  | .pick c a b => match getO vars env c with
    | .v (.bool t) => some (cond t (getO vars env a) (getO vars env b), h)
    | _ => none
  | .box t x => (getO vars env x).cl.map fun cs => (.ptr h.length 0, h ++ [.box t cs])
  | .build zero parts => (evBuild vars env (toL zero) parts).map fun cs => (.agg cs, h)
  | .bslice sz zero n parts => (evElems vars env h sz (List.replicate n (zeroEl zero)) parts).map fun l => (.slc sz true true l, h)
  | .brow t sz zero n parts => (evElems vars env h sz (List.replicate n (zeroEl zero)) parts).map fun l => (.own sz h.length 0 0 l.length, h ++ [.row t sz 0 l 0])
  | .load agg sz x => (Q76 h agg sz (getO vars env x)).map fun v => (v, h)
  | .store sz a x => (Q113 h sz (getO vars env a) (getO vars env x)).map fun h' => (.v (.tuple #[]), h')
  | .nilchk x => (Q75 h (getO vars env x)).map fun v => (v, h)
  | .bin op x y => (Q78 op (getO vars env x) (getO vars env y)).map fun v => (v, h)
  | .eqv k neg x y => (eqNil h k (getO vars env x) (getO vars env y)).map fun b => (.v (.bool (if neg then !b else b)), h)
  | .un op x => (Q81 op (getO vars env x)).map fun v => (v, h)
  | .mm mx x y => match getO vars env x, getO vars env y with
    | .v (.int k a), .v (.int _ b) => some (.v (.int k (if mx then (if a < b then b else a) else (if b < a then b else a))), h)
    | _, _ => none
  | .conv k x => match getO vars env x with
    | .v (.int _ n) => some (.v (.int k (k.wrap n)), h)
    | _ => none
  | .same x => match getO vars env x with
    | .v (.string s) => some (.v (.string s), h)
    | _ => none
  | .mkfn f first cap => some (.fn f (first.map (getO vars env)) (cap.map (getO vars env)), h)
  | .mkslice t sz bytes zero l c => match getO vars env l, getO vars env c with
    | .v (.int .i64 n), .v (.int .i64 m) =>
      if 0 ≤ n ∧ n ≤ m ∧ m ≤ 9223372036854775807 ∧ bytes * m ≤ 281474976710656 then
        some (.own sz h.length 0 0 n.toNat, h ++ [.row t sz 0 (List.replicate n.toNat (zeroEl zero)) 0])
      else none
    | _, _ => none
  | .slice sz x lo hi mx => (evSlice vars env h sz (getO vars env x) lo hi mx).map fun v => (v, h)
  | .sslice x lo hi => match getO vars env x with
    | .v (.string s) => (bounds vars env s.size s.size lo hi none).map fun (l, hh, _) => (.v (.string (s.extract l hh)), h)
    | _ => none
  | .aslice n sz x lo hi => (evASlice vars env n sz (getO vars env x) lo hi).map fun v => (v, h)
  | .runestr x => match getO vars env x with
    | .v (.int _ n) => some (.v (.string (Utf8.encode n)), h)
    | _ => none
  | .bstr x => (evBStr h (getO vars env x)).map fun s => (.v (.string s), h)
  | .fa off x => (Q74 h off (getO vars env x)).map fun v => (v, h)
  | .fld agg off sz x => match getO vars env x with
    | .agg cs => if off + sz ≤ cs.length then (Q77 agg ((cs.drop off).take sz)).map fun v => (v, h) else none
    | _ => none
  | .ia sz x i => (evIa vars env h sz x i).map fun v => (v, h)
  | .iaa n sz x i => match getO vars env x, natO vars env i with
    | .ptr id off, some i => if i < n then some (.ptr id (off + i * sz), h) else none
    | .ip cs, some i => if i < n then some (.ip (cs.drop (i * sz)), h) else none
    | _, _ => none
  | .ixa n agg sz x i => match getO vars env x, natO vars env i with
    | .agg cs, some i => if i < n ∧ i * sz + sz ≤ cs.length then (Q77 agg ((cs.drop (i * sz)).take sz)).map fun v => (v, h) else none
    | _, _ => none
  | .ixs x i => match getO vars env x, natO vars env i with
    | .v (.string s), some i => match s[i]? with
      | some b => some (.v (.int .u8 b.toNat), h)
      | none => none
    | _, _ => none
  | .extract x i => match getO vars env x with
    | .tup vs => match vs[i]? with
      | some v => some (v, h)
      | none => none
    | _ => none
  | .call true f args => match (args.map (getO vars env)).mapM (AV.snap1 h) with
    | some as => match call f as [] with
      | some (r, []) => some (r, h)
      | _ => none
    | none => none
  | .call false f args => call f (args.map (getO vars env)) h
  | .callf f args => match (args.map (getO vars env)).mapM (AV.snap1 ((args.map (getO vars env)).foldl raise1 h)) with
    | some as => match call f as [] with
      | some (r, []) => some (r, (args.map (getO vars env)).foldl raise1 h)
      | _ => none
    | none => none
  | .callv x args => match getO vars env x with
    | .fn (.func f) first cap => call f (first ++ args.map (getO vars env) ++ cap) h
    | _ => none
  | .append t sz bytes s x => evAppend h t sz bytes (getO vars env s) (getO vars env x)
  | .apps t bytes s x => evAppS h t bytes (getO vars env s) (getO vars env x)
  | .len k x => (evLen h k (getO vars env x)).map fun (n : Nat) => (.v (.int .i64 (n : Int)), h)
  | .shf l x y => (evShf l (getO vars env x) (getO vars env y)).map fun v => (v, h)
  | .mkmap kk => some (.mp h.length, h ++ [.map kk 0 []])
  | .lookup kk zero ok m key => (evLook h kk zero ok (getO vars env m) (getO vars env key)).map fun v => (v, h)
  | .mapupd kk m key x => (evUpd h kk (getO vars env m) (getO vars env key) (getO vars env x)).map fun h' => (.v (.tuple #[]), h')
  | .mentry kk zero m key => evEntry h kk zero (getO vars env m) (getO vars env key)
  | .estore m n x => (evEStore h (getO vars env m) (getO vars env n) (getO vars env x)).map fun h' => (.v (.tuple #[]), h')
  | .clrmap m => (evClrM h (getO vars env m)).map fun h' => (.v (.tuple #[]), h')
  | .clrrow sz zero x => (evClr h sz zero (getO vars env x)).map fun h' => (.v (.tuple #[]), h')
  | .range x => match getO vars env x with
    | .v (.string s) => some (.it h.length, h ++ [.siter s 0])
    | _ => none
  | .next x => evNext h (getO vars env x)
  | .bad => none

/-! ### Regions, code, calls -/
def setO (vars : List AV) (wr : Option Nat) (v : AV) : List AV :=
  match wr with
  | some i => vars.set i v
  | none => vars

def evOps (call : CallF) : List CO → List AV → List AV → List AO → Option (List AV × List AO)
  | [], vars, _, h => some (vars, h)
  | o :: r, vars, env, h =>
    match o.guard with
    | none => match evOp call vars env h o.op with
      | some (v, h') => evOps call r (setO vars o.wr v) (v :: env) h'
      | none => none
    | some (g, want) => match getO vars env g with
      | .v (.bool b) =>
        if b = want then match evOp call vars env h o.op with
          | some (v, h') => evOps call r (setO vars o.wr v) (v :: env) h'
          | none => none
        else evOps call r (setO vars o.wr (.v undef)) (.v undef :: env) h
      | .v (.tuple _) => evOps call r (setO vars o.wr (.v undef)) (.v undef :: env) h
      | _ => none

def doMark (s : List AV × List AO) : Mark → List AV × List AO
  | .v i => (s.1, raise1 s.2 (s.1.getD i .junk))
  | .p i off n => match s.1.getD i .junk with
    | .ptr id o => match s.2[id]? with
      | some (.box _ cs) => (s.1, ((cs.drop (o + off)).take n).foldl raise0 s.2)
      | _ => s
    | _ => s
  | .av i t sz => match s.1.getD i .junk with
    | .v (.slice none 0 0) => (s.1.set i (.own sz s.2.length 0 0 0), s.2 ++ [.row t sz 0 [] 0])
    | _ => s
  | .ap i off t sz => match s.1.getD i .junk with
    | .ptr id o => match s.2[id]? with
      | some (.box bt cs) => match cs[o + off]? with
        | some (.v (.slice none 0 0)) => (s.1, s.2.set id (.box bt (cs.set (o + off) (.own sz s.2.length 0 0 0))) ++ [.row t sz 0 [] 0])
        | _ => s
      | _ => s
    | _ => s

def clr : List Bool → List AV → List AV
  | k :: ks, x :: xs => (bif k then x else .junk) :: clr ks xs
  | _, xs => xs

abbrev CRun := Option (AXit × List AV × List AO)

def loopN (step : List AV → List AO → CRun) (keep : List Bool) : Nat → List AV → List AO → CRun
  | 0, _, _ => none
  | n + 1, vars, h => match step (clr keep vars) h with
    | some (.normal, vars', h') => loopN step keep n vars' h'
    | r => r

def apB (vars : List AV) : Option Nat × Nat → Bool
  | (none, b) => match vars.getD b .junk with
    | .ptr .. | .ip _ => true
    | _ => false
  | (some a, b) => match vars.getD a .junk, vars.getD b .junk with
    | .ptr i _, .ptr j _ => i != j
    | .ptr .., .ip _ => true
    | _, _ => false

def exec (call : CallF) (fuel : Nat) : CC → List AV → List AO → CRun
  | .skip, vars, h => some (.normal, vars, h)
  | .region marks aps ops, vars, h =>
    if aps.all (apB (marks.foldl doMark (vars, h)).1) = true then
      (evOps call ops (marks.foldl doMark (vars, h)).1 [] (marks.foldl doMark (vars, h)).2).map fun (vars', h') => (.normal, vars', h')
    else none
  | .seq a b, vars, h => match exec call fuel a vars h with
    | some (.normal, vars', h') => exec call fuel b vars' h'
    | r => r
  | .cond c x y, vars, h => match getO vars [] c with
    | .v (.bool b) => cond b (exec call fuel x vars h) (exec call fuel y vars h)
    | _ => none
  | .block id b, vars, h => match exec call fuel b vars h with
    | some (.exit id', vars', h') => some (if id' = id then .normal else .exit id', vars', h')
    | r => r
  | .loop keep marks b, vars, h => loopN (exec call fuel b) keep fuel (marks.foldl doMark (vars, h)).1 (marks.foldl doMark (vars, h)).2
  | .exit id, vars, h => some (.exit id, vars, h)
  | .ret, vars, h => some (.ret, vars, h)

def resOf (vars : List AV) (h : List AO) : CRes → Option AV
  | .var i => some (vars.getD i .junk)
  | .cell i agg sz => Q76 h agg sz (vars.getD i .junk)

def pack : List AV → AV
  | [x] => x
  | xs => .tup xs

def leave (n0 : Nat) (f : CFun) : CRun → Option (AV × List AO)
  | some (.normal, vars, h) | some (.ret, vars, h) =>
    match (f.res.mapM (resOf vars h)).bind fun rs => (pack rs).frz2 n0 h with
    | some r => if n0 ≤ h.length ∧ (h.take n0).all (AO.below n0) = true then some (r, h.take n0) else none
    | none => none
  | _ => none

def leaveKeep (f : CFun) : CRun → Option (AV × List AO)
  | some (.normal, vars, h) | some (.ret, vars, h) => (f.res.mapM (resOf vars h)).map fun rs => (pack rs, h)
  | _ => none

/-! ### Objects told under other numbers -/
def AV.sh0 (n : Nat) : AV → AV
  | .own sz id ver off m => .own sz (n + id) ver off m
  | .ptr id off => .ptr (n + id) off
  | .ep sz id ver i off => .ep sz (n + id) ver i off
  | .mp id => .mp (n + id)
  | .it id => .it (n + id)
  | .bs id off m => .bs (n + id) off m
  | x => x
def AV.ok0 : AV → Bool
  | .fn _ [] [] => true
  | .fn .. | .agg _ | .tup _ => false
  | _ => true
def AV.sh1 (n : Nat) : AV → AV
  | .agg cs => .agg (cs.map (AV.sh0 n))
  | .fn f a b => .fn f (a.map (AV.sh0 n)) (b.map (AV.sh0 n))
  | x => x.sh0 n
def AV.ok1 : AV → Bool
  | .agg cs => cs.all AV.ok0
  | .fn _ a b => a.all AV.ok0 && b.all AV.ok0
  | x => x.ok0
def AV.sh2 (n : Nat) : AV → AV
  | .tup vs => .tup (vs.map (AV.sh1 n))
  | x => x.sh1 n
def AV.ok2 : AV → Bool
  | .tup vs => vs.all AV.ok1
  | x => x.ok1
def AO.sh (n : Nat) : AO → AO
  | .box t cs => .box t (cs.map (AV.sh1 n))
  | x => x
def AO.ok : AO → Bool
  | .box _ cs => cs.all AV.ok1
  | _ => true

inductive FEntry where
  | code (f : CFun)
  | keep (f : CFun)
  | pcode (f : CFun)
  | pkeep (f : CFun)
  | oracle (g : List AV → List AO → Option (AV × List AO))

def start (f : CFun) (args : List AV) : List AV := args ++ List.replicate (f.nv - f.np) (.v undef)

def callN (F : FuncId → Option FEntry) : Nat → CallF
  | 0, _, _, _ => none
  | n + 1, f, args, h => match F f with
    | some (.code c) => if args.length = c.np then leave h.length c (exec (callN F n) n c.body (start c args) h) else none
    | some (.keep c) => if args.length = c.np then leaveKeep c (exec (callN F n) n c.body (start c args) h) else none
    | some (.pcode c) => match args.mapM (AV.snap1 h) with
      | some as => if as.length = c.np then (match leave 0 c (exec (callN F n) n c.body (start c as) []) with
        | some (r, []) => some (r, h)
        | _ => none) else none
      | none => none
    | some (.pkeep c) => match args.mapM (AV.snap1 h) with
      | some as => if as.length = c.np then (match leaveKeep c (exec (callN F n) n c.body (start c as) []) with
        | some (r, k) => if r.ok2 && k.all AO.ok then some (r.sh2 h.length, h ++ k.map (AO.sh h.length)) else none
        | none => none) else none
      | none => none
    | some (.oracle g) => g args h
    | none => none

end Go.AE
end

/-! AE, part 2: what its values and objects mean in a world; that this lasts. -/
section
set_option linter.unusedVariables false
namespace Go.AE
open Go Go.RowKit

abbrev Cells := Nat → Nat → Prop

inductive Rep (I : Cells) (w : World) : List Loc → AV → Value → Prop
  | v (σ : List Loc) (x : Value) : Rep I w σ (.v x) x
  | junk (σ : List Loc) (x : Value) : Rep I w σ .junk x
  | slc (σ : List Loc) (sz : Nat) (ex nn : Bool) (l : List AV) (a : Option Addr) (cap : Nat) (b o : Nat) (g : Nat → Nat → Value)
      (ha : l ≠ [] → a = some ⟨b, o, none⟩) (hn : nn = true → a ≠ none) (hnil : a = none → cap = 0) (hcap : l.length ≤ cap) (hex : ex = true → cap = l.length)
      (hsz : ∀ (j : Nat) (el : AV), l[j]? = some el → el.cells.length = sz)
      (hc : ∀ (j : Nat) (el : AV) (i : Nat) (c : AV), l[j]? = some el → el.cells[i]? = some c → w.cell? ⟨b, o + (j * sz + i), none⟩ = some (g j i))
      (hi : ∀ (j : Nat) (el : AV) (i : Nat) (c : AV), l[j]? = some el → el.cells[i]? = some c → I b (o + (j * sz + i)))
      (h1 : ∀ (j : Nat) (el : AV) (i : Nat) (c : AV), l[j]? = some el → el.cells[i]? = some c → (g j i).oneCell' = true)
      (hr : ∀ (j : Nat) (el : AV) (i : Nat) (c : AV), l[j]? = some el → el.cells[i]? = some c → Rep I w [] c (g j i)) :
      Rep I w σ (.slc sz ex nn l) (.slice a l.length cap)
  | ip (σ : List Loc) (cs : List AV) (b o : Nat) (g : Nat → Value)
      (hc : ∀ (i : Nat) (c : AV), cs[i]? = some c → w.cell? ⟨b, o + i, none⟩ = some (g i))
      (hi : ∀ (i : Nat) (c : AV), cs[i]? = some c → I b (o + i))
      (h1 : ∀ (i : Nat) (c : AV), cs[i]? = some c → (g i).oneCell' = true)
      (hr : ∀ (i : Nat) (c : AV), cs[i]? = some c → Rep I w [] c (g i)) :
      Rep I w σ (.ip cs) (.pointer (some ⟨b, o, none⟩))
  | agg (σ : List Loc) (cs : List AV) (arr : Array Value) (hs : arr.size = cs.length)
      (h1 : ∀ (i : Nat) (c : AV), cs[i]? = some c → (arr.getD i undef).oneCell' = true)
      (hr : ∀ (i : Nat) (c : AV), cs[i]? = some c → Rep I w σ c (arr.getD i undef)) : Rep I w σ (.agg cs) (.agg arr)
  | tup (σ : List Loc) (vs : List AV) (arr : Array Value) (hs : arr.size = vs.length)
      (hr : ∀ (i : Nat) (c : AV), vs[i]? = some c → Rep I w σ c (arr.getD i undef)) : Rep I w σ (.tup vs) (.tuple arr)
  | own (σ : List Loc) (sz id ver off n : Nat) (x : Value) (h1 : ∃ (a : Option Addr) (cap : Nat), x = .slice a n cap ∧ n ≤ cap) (L : Loc) (hL : σ[id]? = some L) (hv : ver ≤ L.ver)
      (h : ver = L.ver → (L.has = true ∧ off + n ≤ L.cap ∧ x = .slice (some ⟨L.b, L.o + off * sz, none⟩) n (L.cap - off)) ∨ (n = 0 ∧ ∃ a, x = .slice a 0 0)) :
      Rep I w σ (.own sz id ver off n) x
  | ptr (σ : List Loc) (id off : Nat) (L : Loc) (hL : σ[id]? = some L) (hf : L.fix = true) : Rep I w σ (.ptr id off) (.pointer (some ⟨L.b, L.o + off, none⟩))
  | ep (σ : List Loc) (sz id ver idx off : Nat) (x : Value) (h1 : x.oneCell' = true) (L : Loc) (hL : σ[id]? = some L) (hv : ver ≤ L.ver)
      (h : ver = L.ver → L.has = true ∧ x = .pointer (some ⟨L.b, L.o + (idx * sz + off), none⟩)) : Rep I w σ (.ep sz id ver idx off) x
  | fn (σ : List Loc) (f : Fn) (p q : List AV) (ap aq : Array Value) (hp : ap.size = p.length) (hq : aq.size = q.length)
      (hpr : ∀ (i : Nat) (c : AV), p[i]? = some c → Rep I w σ c (ap.getD i undef)) (hqr : ∀ (i : Nat) (c : AV), q[i]? = some c → Rep I w σ c (aq.getD i undef)) :
      Rep I w σ (.fn f p q) (.func f ap aq)
  | mp (σ : List Loc) (id : Nat) (L : Loc) (hL : σ[id]? = some L) (hf : L.fix = true) : Rep I w σ (.mp id) (.map (some L.b))
  | it (σ : List Loc) (id : Nat) (L : Loc) (hL : σ[id]? = some L) (hf : L.fix = true) : Rep I w σ (.it id) (.pointer (some ⟨L.b, 0, none⟩))
  | bs (σ : List Loc) (id off n : Nat) (L : Loc) (hL : σ[id]? = some L) (hf : L.fix = true) (o cap : Nat) (ho : n ≠ 0 → o = L.o + off) (hc : n ≤ cap) :
      Rep I w σ (.bs id off n) (.slice (some ⟨L.b, o, none⟩) n cap)

theorem own_one {x : Value} {n : Nat} (h : ∃ (a : Option Addr) (cap : Nat), x = .slice a n cap ∧ n ≤ cap) : x.oneCell' = true := by
  obtain ⟨a, cap, rfl, _⟩ := h; rfl
structure Ext (I : Cells) (w : World) (I' : Cells) (w' : World) : Prop where
  sub : ∀ (b x : Nat), I b x → I' b x
  cell : ∀ (b x : Nat), I b x → w'.cell? ⟨b, x, none⟩ = w.cell? ⟨b, x, none⟩

def Later (σ σ' : List Loc) : Prop := ∀ (id : Nat) (L : Loc), σ[id]? = some L → ∃ L' : Loc, σ'[id]? = some L' ∧ (L' = L ∨ (L.fix = false ∧ L'.fix = false ∧ L.ver < L'.ver))

theorem Later.refl (σ : List Loc) : Later σ σ := fun id L h => ⟨L, h, .inl rfl⟩
theorem Later.trans {a b c : List Loc} (h : Later a b) (k : Later b c) : Later a c := by
  intro id L hL
  obtain ⟨L1, h1, e1⟩ := h id L hL
  obtain ⟨L2, h2, e2⟩ := k id L1 h1
  refine ⟨L2, h2, ?_⟩
  rcases e1 with rfl | ⟨f1, g1, v1⟩
  · exact e2
  · rcases e2 with rfl | ⟨f2, g2, v2⟩
    · exact .inr ⟨f1, g1, v1⟩
    · exact .inr ⟨f1, g2, by omega⟩
theorem Later.nil (σ : List Loc) : Later [] σ := fun id L h => by simp at h
theorem Later.append (σ τ : List Loc) : Later σ (σ ++ τ) := fun id L h => ⟨L, by
  have hl := (List.getElem?_eq_some_iff.1 h).1
  rw [List.getElem?_append_left hl]; exact h, .inl rfl⟩
theorem Later.fixed {σ σ' : List Loc} (h : Later σ σ') {id : Nat} {L : Loc} (hL : σ[id]? = some L) (hf : L.fix = true) : σ'[id]? = some L := by
  obtain ⟨L', h', e⟩ := h id L hL
  rcases e with rfl | ⟨f, _, _⟩
  · exact h'
  · rw [hf] at f; cases f
theorem Later.set {σ : List Loc} {id : Nat} {L L' : Loc} (hL : σ[id]? = some L) (h1 : L.fix = false) (h2 : L'.fix = false) (h3 : L.ver < L'.ver) : Later σ (σ.set id L') := by
  intro j M hM
  by_cases e : id = j
  · subst e
    rw [hL] at hM; cases hM
    exact ⟨L', by rw [List.getElem?_set_self (List.getElem?_eq_some_iff.1 hL).1], .inr ⟨h1, h2, h3⟩⟩
  · exact ⟨M, by rw [List.getElem?_set_ne e]; exact hM, .inl rfl⟩

theorem Ext.refl (I : Cells) (w : World) : Ext I w I w := ⟨fun _ _ h => h, fun _ _ _ => rfl⟩
theorem Ext.trans {I1 I2 I3 : Cells} {w1 w2 w3 : World} (h : Ext I1 w1 I2 w2) (k : Ext I2 w2 I3 w3) : Ext I1 w1 I3 w3 :=
  ⟨fun b x hb => k.sub b x (h.sub b x hb), fun b x hb => (k.cell b x (h.sub b x hb)).trans (h.cell b x hb)⟩

theorem Rep.mono {I : Cells} {w : World} {σ : List Loc} {a : AV} {v : Value} (h : Rep I w σ a v) {I' : Cells} {w' : World} (he : Ext I w I' w') :
    ∀ {σ' : List Loc}, Later σ σ' → Rep I' w' σ' a v := by
  induction h with
  | v σ x => intro σ' hs; exact .v σ' x
  | junk σ x => intro σ' hs; exact .junk σ' x
  | slc σ sz ex nn l a cap b o g ha hn hnil hcap hex hsz hc hi h1 hr ih =>
    intro σ' hs
    exact .slc σ' sz ex nn l a cap b o g ha hn hnil hcap hex hsz (fun j el i c hj hci => (he.cell _ _ (hi j el i c hj hci)).trans (hc j el i c hj hci))
      (fun j el i c hj hci => he.sub _ _ (hi j el i c hj hci)) h1 (fun j el i c hj hci => ih j el i c hj hci (Later.refl _))
  | ip σ cs b o g hc hi h1 hr ih =>
    intro σ' hs
    exact .ip σ' cs b o g (fun i c hci => (he.cell _ _ (hi i c hci)).trans (hc i c hci)) (fun i c hci => he.sub _ _ (hi i c hci)) h1 (fun i c hci => ih i c hci (Later.refl _))
  | agg σ cs arr hs h1 hr ih => intro σ' hl; exact .agg σ' cs arr hs h1 (fun i c hci => ih i c hci hl)
  | tup σ vs arr hs hr ih => intro σ' hl; exact .tup σ' vs arr hs (fun i c hci => ih i c hci hl)
  | own σ sz id ver off n x h1 L hL hv h =>
    intro σ' hs
    obtain ⟨L', h', e⟩ := hs id L hL
    rcases e with rfl | ⟨f, g, k⟩
    · exact .own σ' sz id ver off n x h1 L' h' hv h
    · exact .own σ' sz id ver off n x h1 L' h' (by omega) (fun e => by omega)
  | ptr σ id off L hL hf => intro σ' hs; exact .ptr σ' id off L (hs.fixed hL hf) hf
  | ep σ sz id ver idx off x h1 L hL hv h =>
    intro σ' hs
    obtain ⟨L', h', e⟩ := hs id L hL
    rcases e with rfl | ⟨f, g, k⟩
    · exact .ep σ' sz id ver idx off x h1 L' h' hv h
    · exact .ep σ' sz id ver idx off x h1 L' h' (by omega) (fun e => by omega)
  | fn σ f p q ap aq hp hq hpr hqr ih1 ih2 => intro σ' hl; exact .fn σ' f p q ap aq hp hq (fun i c hci => ih1 i c hci hl) (fun i c hci => ih2 i c hci hl)
  | mp σ id L hL hf => intro σ' hs; exact .mp σ' id L (hs.fixed hL hf) hf
  | it σ id L hL hf => intro σ' hs; exact .it σ' id L (hs.fixed hL hf) hf
  | bs σ id off n L hL hf o cap ho hc => intro σ' hs; exact .bs σ' id off n L (hs.fixed hL hf) hf o cap ho hc

theorem Rep.of_free0 {I : Cells} {w : World} {σ τ : List Loc} {a : AV} {v : Value} (h : Rep I w σ a v) (hf : a.free0 = true) : Rep I w τ a v := by
  cases h with
  | v => exact .v _ _
  | junk => exact .junk _ _
  | slc _ sz ex nn l a cap b o g ha hn hnil hcap hex hsz hc hi h1 hr => exact .slc _ sz ex nn l a cap b o g ha hn hnil hcap hex hsz hc hi h1 hr
  | ip _ cs b o g hc hi h1 hr => exact .ip _ cs b o g hc hi h1 hr
  | fn _ f p q ap aq hp hq hpr hqr =>
    cases p with
    | cons _ _ => simp [AV.free0] at hf
    | nil => cases q with
      | cons _ _ => simp [AV.free0] at hf
      | nil => exact .fn _ f [] [] ap aq hp hq (fun i c h => by simp at h) (fun i c h => by simp at h)
  | agg _ cs arr hs h1 hr => simp [AV.free0] at hf
  | tup _ vs arr hs hr => simp [AV.free0] at hf
  | own _ sz id ver off n x h1 L hL hv h => simp [AV.free0] at hf
  | ptr _ id off L hL hf' => simp [AV.free0] at hf
  | ep _ sz id ver idx off x h1 L hL hv h => simp [AV.free0] at hf
  | mp _ id L hL hf' => simp [AV.free0] at hf
  | it _ id L hL hf' => simp [AV.free0] at hf
  | bs _ id off n L hL hf' o cap ho hc => simp [AV.free0] at hf
/-! ### Objects -/
structure RepRow (I : Cells) (w : World) (L : Loc) (t : TypeId) (sz : Nat) (l : List AV) (k : Nat) : Prop where
  hk : k ≤ l.length
  hsz : ∀ (j : Nat) (el : AV), l[j]? = some el → el.cells.length = sz
  lies : (l = [] ∧ L.has = false ∧ L.cap = 0) ∨ (L.has = true ∧ ∃ arr, w.heap[L.b]? = some (.cells arr t (0, 0)) ∧ L.o + L.cap * sz ≤ arr.size ∧ l.length ≤ L.cap ∧
    (∀ (j : Nat) (el : AV) (i : Nat) (c : AV), l[j]? = some el → el.cells[i]? = some c → (arr.getD (L.o + (j * sz + i)) undef).oneCell' = true) ∧
    (∀ (j : Nat) (el : AV) (i : Nat) (c : AV), l[j]? = some el → el.cells[i]? = some c → Rep I w [] c (arr.getD (L.o + (j * sz + i)) undef)) ∧
    (∀ j i, j < k → i < sz → I L.b (L.o + (j * sz + i))) ∧ (∀ x, L.o + k * sz ≤ x → ¬ I L.b x))

def RepMap (I : Cells) (w : World) (kk : KK) (n : Nat) (es : List (Value × AV)) (entries : Array MapEntry) : Prop :=
  entries.size = es.length ∧ (∀ e ∈ es, kk.ok e.1 = true) ∧ ∀ (i : Nat) (e : Value × AV), es[i]? = some e → ∃ m, entries[i]? = some m ∧ m.key = e.1 ∧ Rep I w [] e.2 m.val ∧ m.born = n + i

structure RepBox (I : Cells) (w : World) (σ : List Loc) (L : Loc) (t : TypeId) (cs : List AV) : Prop where
  o : L.o = 0
  lies : ∃ arr, w.heap[L.b]? = some (.cells arr t (0, 0)) ∧ arr.size = cs.length ∧
    (∀ (i : Nat) (c : AV), cs[i]? = some c → (arr.getD i undef).oneCell' = true) ∧ (∀ (i : Nat) (c : AV), cs[i]? = some c → Rep I w σ c (arr.getD i undef))
  apart : ∀ x, ¬ I L.b x

def RepO (I : Cells) (w : World) (σ : List Loc) (L : Loc) : AO → Prop
  | .box t cs => L.fix = true ∧ L.has = true ∧ RepBox I w σ L t cs
  | .row t sz ver l k => L.fix = false ∧ L.ver = ver ∧ RepRow I w L t sz l k
  | .map kk n es => L.fix = true ∧ L.has = true ∧ ∃ entries, w.heap[L.b]? = some (.map entries (n + es.length)) ∧ RepMap I w kk n es entries
  | .siter s pos => L.fix = true ∧ L.has = true ∧ w.heap[L.b]? = some (.stringIter s pos)

structure Inv (B : Nat) (w0 : World) (I : Cells) (σ : List Loc) (w : World) (h : List AO) : Prop where
  below : Below B w0 w
  base : B ≤ w.heap.size
  len : σ.length = h.length
  obj : ∀ (id : Nat) (o : AO) (L : Loc), h[id]? = some o → σ[id]? = some L → RepO I w σ L o
  mine : ∀ (id : Nat) (L : Loc), σ[id]? = some L → L.has = true → B ≤ L.b ∧ L.b < w.heap.size
  dist : ∀ (i j : Nat) (Li Lj : Loc), σ[i]? = some Li → σ[j]? = some Lj → i ≠ j → Li.has = true → Lj.has = true → Li.b ≠ Lj.b
  imm : ∀ (b x : Nat), I b x → ∃ v, w.cell? ⟨b, x, none⟩ = some v

structure Step (B : Nat) (I : Cells) (σ : List Loc) (w : World) (I' : Cells) (σ' : List Loc) (w' : World) : Prop where
  ext : Ext I w I' w'
  later : Later σ σ'
  new : ∀ (b x : Nat), I' b x → I b x ∨ B ≤ b
  size : w.heap.size ≤ w'.heap.size

theorem Step.refl (B : Nat) (I : Cells) (σ : List Loc) (w : World) : Step B I σ w I σ w := ⟨.refl _ _, .refl _, fun _ _ h => .inl h, Nat.le_refl _⟩
theorem Step.trans {B : Nat} {I1 I2 I3 : Cells} {σ1 σ2 σ3 : List Loc} {w1 w2 w3 : World} (h : Step B I1 σ1 w1 I2 σ2 w2) (k : Step B I2 σ2 w2 I3 σ3 w3) : Step B I1 σ1 w1 I3 σ3 w3 :=
  ⟨h.ext.trans k.ext, h.later.trans k.later, fun b x hb => by
    rcases k.new b x hb with hb | hb
    · exact h.new b x hb
    · exact .inr hb, Nat.le_trans h.size k.size⟩
theorem Rep.step {B : Nat} {I I' : Cells} {σ σ' : List Loc} {w w' : World} {a : AV} {v : Value} (h : Rep I w σ a v) (s : Step B I σ w I' σ' w') : Rep I' w' σ' a v := h.mono s.ext s.later

end Go.AE
end

/-! AE, part 3: what is read. -/
section
set_option linter.unusedVariables false
set_option linter.unusedSimpArgs false
namespace Go.AE
open Go Go.RowKit

structure TI where
  size : Nat
  bytes : Nat
  zero : Value
  desc : TypeDesc

def TI.agg (i : TI) : Bool := match i.desc with
  | .struct _ | .array _ _ => true
  | _ => false

def flatB (P : Program) (fs : Array Field) : Bool := fs.toList.all fun f => f.name != "_" && (match P.underlying f.type with
  | some (.int _) | some .string | some .bool => true
  | _ => false)
structure TIok (P : Program) (t : TypeId) (i : TI) : Prop where
  info : ∃ inf, P.info? t = some inf ∧ inf.size = i.size ∧ inf.bytes = i.bytes ∧ inf.zero = some i.zero
  und : P.underlying t = some i.desc
  eqs : ∀ fs, i.desc = .struct fs → flatB P fs = true → P.stoodInHeld t = false ∧ P.eqGuardType P.depth t = false

section
variable {P : Program} {t : TypeId} {i : TI} {w : World}
theorem TIok.sizeOf (h : TIok P t i) : (sizeOf t).run P w = .ok i.size w := by
  obtain ⟨inf, h1, h2, h3, h4⟩ := h.info
  simp [Go.sizeOf, typeInfo, h1, h2]
theorem TIok.zeroValue (h : TIok P t i) : (zeroValue t).run P w = .ok i.zero w := by
  obtain ⟨inf, h1, h2, h3, h4⟩ := h.info
  simp [Go.zeroValue, typeInfo, h1, h4]
theorem TIok.underlying (h : TIok P t i) : (underlying t).run P w = .ok i.desc w := run_underlying h.und w
theorem TIok.isAgg (h : TIok P t i) : (isAgg t).run P w = .ok i.agg w := by
  simp only [Go.isAgg, Sem.run_bind, h.underlying, Result.andThen_ok, TI.agg]
  cases i.desc <;> rfl
theorem TIok.bytes (h : TIok P t i) {α : Type} (f : Nat → World → Result α) : ((typeInfo t).run P w).andThen (fun x w' => f x.bytes w') = f i.bytes w := by
  obtain ⟨inf, h1, h2, h3, h4⟩ := h.info
  simp [typeInfo, h1, h3]
end

section
variable {P : Program} {B : Nat} {w0 w : World} {I : Cells} {σ : List Loc} {h : List AO}

theorem run_loadVar_rep {t : TypeId} {i : TI} (ht : TIok P t i) {τ : List Loc} (cs : List AV) (b o : Nat) (g : Nat → Value)
    (hc : ∀ (j : Nat) (c : AV), cs[j]? = some c → w.cell? ⟨b, o + j, none⟩ = some (g j))
    (h1 : ∀ (j : Nat) (c : AV), cs[j]? = some c → (g j).oneCell' = true) (hr : ∀ (j : Nat) (c : AV), cs[j]? = some c → Rep I w τ c (g j))
    (hsz : cs.length = i.size) {r : AV} (he : Q77 i.agg cs = some r) :
    ∃ v, (loadVar t ⟨b, o, none⟩).run P w = .ok v w ∧ Rep I w τ r v := by
  unfold Q77 at he
  cases hg : i.agg with
  | true =>
    simp only [hg, if_true, Option.some.injEq] at he
    subst he
    have hl := run_loadCells (P := P) w ⟨b, o, none⟩ i.size g (fun j hj => by
      rw [Addr.add_lit]
      exact hc j _ (List.getElem?_eq_getElem (by omega)))
    refine ⟨.agg ((List.range i.size).map g).toArray, ?_, ?_⟩
    · simp [loadVar, ht.isAgg, ht.sizeOf, hg, hl]
    · refine .agg τ cs _ (by simp [hsz]) (fun j c hj => ?_) (fun j c hj => ?_)
      · have := (List.getElem?_eq_some_iff.1 hj).1
        simpa [hsz ▸ this] using h1 j c hj
      · have := (List.getElem?_eq_some_iff.1 hj).1
        simpa [hsz ▸ this] using hr j c hj
  | false =>
    simp only [hg, Bool.false_eq_true, if_false] at he
    match cs, he with
    | [c], he =>
      cases he
      have h0 := hc 0 r rfl
      simp only [Nat.add_zero] at h0
      exact ⟨g 0, by simp [loadVar, ht.isAgg, hg, h0], hr 0 r rfl⟩

theorem rowAt_eq {sz id ver m : Nat} {l : List AV} {k : Nat} (hr : rowAt h sz id ver m = some (l, k)) : h[id]? = some (.row (rowT h id) sz ver l k) ∧ m ≤ l.length := by
  unfold rowAt at hr
  split at hr
  · rename_i t' sz' ver' l' k' hh
    split at hr
    · rename_i hc
      cases hr
      obtain ⟨rfl, rfl, hm⟩ := hc
      have ht : rowT h id = t' := by simp only [rowT, hh]
      rw [ht]
      exact ⟨hh, hm⟩
    · cases hr
  · cases hr

theorem Inv.loc (hI : Inv B w0 I σ w h) {id : Nat} {o : AO} (ho : h[id]? = some o) : ∃ L, σ[id]? = some L ∧ RepO I w σ L o := by
  have hl := (List.getElem?_eq_some_iff.1 ho).1
  have : id < σ.length := by rw [hI.len]; exact hl
  exact ⟨σ[id], List.getElem?_eq_getElem this, hI.obj id o _ ho (List.getElem?_eq_getElem this)⟩

theorem drop_take_get {α : Type} (l : List α) (off n j : Nat) (x : α) (hx : ((l.drop off).take n)[j]? = some x) : l[off + j]? = some x ∧ j < n := by
  have hj : j < n := by
    have := (List.getElem?_eq_some_iff.1 hx).1
    simp at this; omega
  rw [List.getElem?_take_of_lt hj, List.getElem?_drop] at hx
  exact ⟨hx, hj⟩

theorem Inv.row_cells (hI : Inv B w0 I σ w h) {sz id ver : Nat} {l : List AV} {k : Nat} {L : Loc} {rt : TypeId} (ho : h[id]? = some (.row rt sz ver l k)) (hL : σ[id]? = some L) (hne : l ≠ []) :
    L.has = true ∧ l.length ≤ L.cap ∧ L.ver = ver ∧ L.fix = false ∧ (∀ (j : Nat) (el : AV), l[j]? = some el → el.cells.length = sz) ∧
    ∃ g : Nat → Nat → Value, (∀ (j : Nat) (el : AV) (i : Nat) (c : AV), l[j]? = some el → el.cells[i]? = some c → w.cell? ⟨L.b, L.o + (j * sz + i), none⟩ = some (g j i)) ∧
      (∀ (j : Nat) (el : AV) (i : Nat) (c : AV), l[j]? = some el → el.cells[i]? = some c → (g j i).oneCell' = true) ∧
      (∀ (j : Nat) (el : AV) (i : Nat) (c : AV), l[j]? = some el → el.cells[i]? = some c → Rep I w [] c (g j i)) := by
  obtain ⟨hf, hv, hR⟩ := hI.obj id _ L ho hL
  rcases hR.lies with ⟨h0, _⟩ | ⟨hh, arr, hb, hsz, hlen, h1, hr, _⟩
  · exact absurd h0 hne
  · refine ⟨hh, hlen, hv, hf, hR.hsz, fun j i => arr.getD (L.o + (j * sz + i)) undef, fun j el i c hj hi => ?_, h1, hr⟩
    have hj' := (List.getElem?_eq_some_iff.1 hj).1
    have hi' := (List.getElem?_eq_some_iff.1 hi).1
    rw [hR.hsz j el hj] at hi'
    have : j * sz + i < L.cap * sz := by
      have h3 : (j + 1) * sz ≤ L.cap * sz := Nat.mul_le_mul_right _ (by omega)
      rw [Nat.add_mul] at h3
      omega
    have hlt : L.o + (j * sz + i) < arr.size := by omega
    simp [World.cell?, hb, Array.getD, hlt]

theorem take_get {α : Type} {l : List α} {n j : Nat} {x : α} (hx : (l.take n)[j]? = some x) : l[j]? = some x := by
  have hj : j < n := by
    have := (List.getElem?_eq_some_iff.1 hx).1
    simp at this; omega
  rwa [List.getElem?_take_of_lt hj] at hx

theorem run_load_rep (hI : Inv B w0 I σ w h) {t : TypeId} {i : TI} (ht : TIok P t i) {x : AV} {vx : Value} (hx : Rep I w σ x vx) {r : AV}
    (he : Q76 h i.agg i.size x = some r) : ∃ v, (Instr.loadAt t vx).run P w = .ok v w ∧ Rep I w σ r v := by
  cases hx with
  | ip _ cs b o g hc hi h1 hr =>
    simp only [Q76] at he
    split at he
    · rename_i hsz
      have := run_loadVar_rep (P := P) (I := I) (w := w) ht (τ := σ) (cs.take i.size) b o g
        (fun j c hj => hc j c (take_get hj)) (fun j c hj => h1 j c (take_get hj))
        (fun j c hj => (hr j c (take_get hj)).mono (Ext.refl _ _) (Later.nil _)) (by simp; omega) he
      simpa [Instr.loadAt, Instr.sureAddr] using this
    · cases he
  | ptr _ id off L hL hf =>
    simp only [Q76] at he
    split at he
    · rename_i bt cs hh
      split at he
      · rename_i hsz
        obtain ⟨_, _, ho, ⟨arr, hb, hs, h1, hr⟩, _⟩ := hI.obj id _ L hh hL
        have := run_loadVar_rep (P := P) (I := I) (w := w) ht (τ := σ) ((cs.drop off).take i.size) L.b (L.o + off) (fun j => arr.getD (off + j) undef)
          (fun j c hj => by
            have hj := (drop_take_get cs off _ j c hj).1
            have hlt := (List.getElem?_eq_some_iff.1 hj).1
            have : off + j < arr.size := by omega
            simp [World.cell?, hb, Array.getD, this, ho])
          (fun j c hj => h1 _ c (drop_take_get cs off _ j c hj).1) (fun j c hj => hr _ c (drop_take_get cs off _ j c hj).1) (by simp; omega) he
        simpa [Instr.loadAt, Instr.sureAddr] using this
      · cases he
    · cases he
  | ep _ sz id ver idx off x h1x L hL hv hx =>
    simp only [Q76] at he
    split at he
    · rename_i l k hra
      obtain ⟨hh, hm⟩ := rowAt_eq hra
      split at he
      · rename_i el hel
        split at he
        · rename_i hsz
          have hne : l ≠ [] := by rintro rfl; simp at hel
          obtain ⟨hhas, hcap, hver, hfix, hsz', g, hc, h1, hr⟩ := hI.row_cells hh hL hne
          obtain ⟨_, rfl⟩ := hx hver.symm
          have := run_loadVar_rep (P := P) (I := I) (w := w) ht (τ := σ) ((el.cells.drop off).take i.size) L.b (L.o + (idx * sz + off)) (fun j => g idx (off + j))
            (fun j c hj => by
              have hj := (drop_take_get el.cells off _ j c hj).1
              have := hc idx el (off + j) c hel hj
              rwa [show L.o + (idx * sz + off) + j = L.o + (idx * sz + (off + j)) by omega])
            (fun j c hj => h1 idx el _ c hel (drop_take_get el.cells off _ j c hj).1)
            (fun j c hj => (hr idx el _ c hel (drop_take_get el.cells off _ j c hj).1).mono (Ext.refl _ _) (Later.nil _)) (by simp; omega) he
          simpa [Instr.loadAt, Instr.sureAddr] using this
        · cases he
      · cases he
    · cases he
  | v => simp [Q76] at he
  | junk => simp [Q76] at he
  | slc _ sz ex nn l a cap b o g ha hn hnil hcap hex hsz hc hi h1 hr => simp [Q76] at he
  | agg _ cs arr hs h1 hr => simp [Q76] at he
  | tup _ vs arr hs hr => simp [Q76] at he
  | own _ sz id ver off n x h1x L hL hv h => simp [Q76] at he
  | fn _ f p q ap aq hp hq hpr hqr => simp [Q76] at he
  | mp _ id L hL hf => simp [Q76] at he
  | it _ id L hL hf => simp [Q76] at he
  | bs _ id off n L hL hf o cap ho hc => simp [Q76] at he
end
end Go.AE
end

/-! AE, part 4: how the state goes on when something is made or written. -/
section
set_option linter.unusedVariables false
set_option linter.unusedSimpArgs false
namespace Go.AE
open Go Go.RowKit

section
variable {P : Program} {B : Nat} {w0 w w' : World} {I I' : Cells} {σ σ' : List Loc} {h : List AO}

theorem RepRow.mono {L : Loc} {rt : TypeId} {sz k : Nat} {l : List AV} (hr : RepRow I w L rt sz l k) (he : Ext I w I' w')
    (hb : L.has = true → w'.heap[L.b]? = w.heap[L.b]?) (hn : L.has = true → ∀ x, I' L.b x → I L.b x) : RepRow I' w' L rt sz l k := by
  refine ⟨hr.hk, hr.hsz, ?_⟩
  rcases hr.lies with hl | ⟨hh, arr, h1, h2, h3, h4, h5, h6, h7⟩
  · exact .inl hl
  · exact .inr ⟨hh, arr, (hb hh).trans h1, h2, h3, h4, fun j el i c a b => (h5 j el i c a b).mono he (Later.nil _), fun j i a b => he.sub _ _ (h6 j i a b),
      fun x hx hi => h7 x hx (hn hh x hi)⟩

theorem RepO.mono {L : Loc} {o : AO} (hr : RepO I w σ L o) (he : Ext I w I' w') (hl : Later σ σ')
    (hb : L.has = true → w'.heap[L.b]? = w.heap[L.b]?) (hn : L.has = true → ∀ x, I' L.b x → I L.b x) : RepO I' w' σ' L o := by
  cases o with
  | box bt cs =>
    obtain ⟨h1, h2, h3, ⟨arr, h4, h5, h6, h7⟩, h8⟩ := hr
    exact ⟨h1, h2, h3, ⟨arr, (hb h2).trans h4, h5, h6, fun i c hc => (h7 i c hc).mono he hl⟩, fun x hx => h8 x (hn h2 x hx)⟩
  | row rt sz ver l k => exact ⟨hr.1, hr.2.1, hr.2.2.mono he hb hn⟩
  | map kk c es =>
    obtain ⟨h1, h2, entries, h3, h4, h4', h5⟩ := hr
    refine ⟨h1, h2, entries, (hb h2).trans h3, h4, h4', fun i e hi => ?_⟩
    obtain ⟨m, m1, m2, m3, m4⟩ := h5 i e hi
    exact ⟨m, m1, m2, m3.mono he (Later.nil _), m4⟩
  | siter s pos =>
    obtain ⟨h1, h2, h3⟩ := hr
    exact ⟨h1, h2, (hb h2).trans h3⟩

theorem Inv.same (hI : Inv B w0 I σ w h) (hbel : Below B w w') (he : Ext I w I' w') (himm : ∀ (b x : Nat), I' b x → ∃ v, w'.cell? ⟨b, x, none⟩ = some v)
    (hoth : ∀ (j : Nat) (Lj : Loc), σ[j]? = some Lj → Lj.has = true → w'.heap[Lj.b]? = w.heap[Lj.b]? ∧ ∀ x, I' Lj.b x → I Lj.b x) : Inv B w0 I' σ w' h where
  below := hI.below.trans hbel
  base := Nat.le_trans hI.base hbel.size
  len := hI.len
  obj := fun id o L ho hL => (hI.obj id o L ho hL).mono he (Later.refl _) (fun hh => (hoth id L hL hh).1) (fun hh => (hoth id L hL hh).2)
  mine := fun id L hL hh => ⟨(hI.mine id L hL hh).1, Nat.lt_of_lt_of_le (hI.mine id L hL hh).2 hbel.size⟩
  dist := hI.dist
  imm := himm

theorem Inv.upd (hI : Inv B w0 I σ w h) {id : Nat} {L L' : Loc} {o' : AO} (hid : σ[id]? = some L) (hbel : Below B w w') (he : Ext I w I' w')
    (himm : ∀ (b x : Nat), I' b x → ∃ v, w'.cell? ⟨b, x, none⟩ = some v)
    (hoth : ∀ (j : Nat) (Lj : Loc), j ≠ id → σ[j]? = some Lj → Lj.has = true → w'.heap[Lj.b]? = w.heap[Lj.b]? ∧ ∀ x, I' Lj.b x → I Lj.b x)
    (hlater : L' = L ∨ (L.fix = false ∧ L'.fix = false ∧ L.ver < L'.ver)) (hrep : RepO I' w' (σ.set id L') L' o')
    (hmine : L'.has = true → B ≤ L'.b ∧ L'.b < w'.heap.size ∧ ∀ (j : Nat) (Lj : Loc), j ≠ id → σ[j]? = some Lj → Lj.has = true → Lj.b ≠ L'.b) :
    Inv B w0 I' (σ.set id L') w' (h.set id o') := by
  have hlt := (List.getElem?_eq_some_iff.1 hid).1
  have hla : Later σ (σ.set id L') := by
    rcases hlater with rfl | ⟨h1, h2, h3⟩
    · have : σ.set id L' = σ := by
        apply List.ext_getElem?
        intro j
        by_cases e : id = j
        · subst e; rw [List.getElem?_set_self hlt, hid]
        · rw [List.getElem?_set_ne e]
      rw [this]; exact Later.refl _
    · exact Later.set hid h1 h2 h3
  have hlen : id < h.length := by rw [← hI.len]; exact hlt
  have get : ∀ (j : Nat) (M : Loc), (σ.set id L')[j]? = some M → (j = id ∧ M = L') ∨ (j ≠ id ∧ σ[j]? = some M) := by
    intro j M hM
    by_cases e : id = j
    · subst e; rw [List.getElem?_set_self hlt] at hM; cases hM; exact .inl ⟨rfl, rfl⟩
    · rw [List.getElem?_set_ne e] at hM; exact .inr ⟨fun e' => e e'.symm, hM⟩
  refine ⟨hI.below.trans hbel, Nat.le_trans hI.base hbel.size, by simp [hI.len], ?_, ?_, ?_, himm⟩
  · intro j o M ho hM
    rcases get j M hM with ⟨rfl, rfl⟩ | ⟨hne, hM⟩
    · rw [List.getElem?_set_self hlen] at ho; cases ho; exact hrep
    · rw [List.getElem?_set_ne (fun e => hne e.symm)] at ho
      exact (hI.obj j o M ho hM).mono he hla (fun hh => (hoth j M hne hM hh).1) (fun hh => (hoth j M hne hM hh).2)
  · intro j M hM hh
    rcases get j M hM with ⟨rfl, rfl⟩ | ⟨hne, hM⟩
    · exact ⟨(hmine hh).1, (hmine hh).2.1⟩
    · exact ⟨(hI.mine j M hM hh).1, Nat.lt_of_lt_of_le (hI.mine j M hM hh).2 hbel.size⟩
  · intro i j Li Lj hi hj hne hhi hhj
    rcases get i Li hi with ⟨rfl, rfl⟩ | ⟨hi', hi2⟩ <;> rcases get j Lj hj with ⟨rfl, rfl⟩ | ⟨hj', hj2⟩
    · exact absurd rfl hne
    · exact fun e => (hmine hhi).2.2 j Lj hj' hj2 hhj e.symm
    · exact (hmine hhj).2.2 i Li hi' hi2 hhi
    · exact hI.dist i j Li Lj hi2 hj2 hne hhi hhj

theorem Inv.push (hI : Inv B w0 I σ w h) {L' : Loc} {o' : AO} (hbel : Below B w w') (he : Ext I w I' w')
    (himm : ∀ (b x : Nat), I' b x → ∃ v, w'.cell? ⟨b, x, none⟩ = some v)
    (hoth : ∀ (j : Nat) (Lj : Loc), σ[j]? = some Lj → Lj.has = true → w'.heap[Lj.b]? = w.heap[Lj.b]? ∧ ∀ x, I' Lj.b x → I Lj.b x)
    (hrep : RepO I' w' (σ ++ [L']) L' o')
    (hmine : L'.has = true → B ≤ L'.b ∧ L'.b < w'.heap.size ∧ ∀ (j : Nat) (Lj : Loc), σ[j]? = some Lj → Lj.has = true → Lj.b ≠ L'.b) :
    Inv B w0 I' (σ ++ [L']) w' (h ++ [o']) := by
  have get : ∀ (j : Nat) (M : Loc), (σ ++ [L'])[j]? = some M → (j = σ.length ∧ M = L') ∨ (j < σ.length ∧ σ[j]? = some M) := by
    intro j M hM
    by_cases e : j < σ.length
    · rw [List.getElem?_append_left e] at hM; exact .inr ⟨e, hM⟩
    · rw [List.getElem?_append_right (by omega)] at hM
      have := (List.getElem?_eq_some_iff.1 hM).1
      simp at this
      have e2 : j = σ.length := by omega
      subst e2
      simp at hM
      exact .inl ⟨rfl, hM.symm⟩
  refine ⟨hI.below.trans hbel, Nat.le_trans hI.base hbel.size, by simp [hI.len], ?_, ?_, ?_, himm⟩
  · intro j o M ho hM
    rcases get j M hM with ⟨rfl, rfl⟩ | ⟨hlt, hM⟩
    · rw [hI.len] at ho; simp at ho; subst ho; exact hrep
    · rw [List.getElem?_append_left (by rw [← hI.len]; exact hlt)] at ho
      exact (hI.obj j o M ho hM).mono he (Later.append _ _) (fun hh => (hoth j M hM hh).1) (fun hh => (hoth j M hM hh).2)
  · intro j M hM hh
    rcases get j M hM with ⟨rfl, rfl⟩ | ⟨hlt, hM⟩
    · exact ⟨(hmine hh).1, (hmine hh).2.1⟩
    · exact ⟨(hI.mine j M hM hh).1, Nat.lt_of_lt_of_le (hI.mine j M hM hh).2 hbel.size⟩
  · intro i j Li Lj hi hj hne hhi hhj
    rcases get i Li hi with ⟨rfl, rfl⟩ | ⟨hi', hi2⟩ <;> rcases get j Lj hj with ⟨rfl, rfl⟩ | ⟨hj', hj2⟩
    · exact absurd rfl hne
    · exact fun e => (hmine hhi).2.2 j Lj hj2 hhj e.symm
    · exact (hmine hhj).2.2 i Li hi2 hhi
    · exact hI.dist i j Li Lj hi2 hj2 hne hhi hhj

/-! ### A new block -/
theorem cell_old (o : Obj) {b x : Nat} (hb : b < w.heap.size) : (w.alloc o).cell? ⟨b, x, none⟩ = w.cell? ⟨b, x, none⟩ := World.cell?_alloc_lt (a := ⟨b, x, none⟩) (w := w) (o := o) hb
theorem Inv.imm_lt (hI : Inv B w0 I σ w h) {b x : Nat} (hi : I b x) : b < w.heap.size := by
  obtain ⟨v, hv⟩ := hI.imm b x hi
  exact World.block_lt_of_cell? w (a := ⟨b, x, none⟩) hv
theorem below_new (hB : B ≤ w.heap.size) (o : Obj) : Below B w (w.alloc o) := (Below.refl B w).alloc hB o
theorem heap_new (o : Obj) : (w.alloc o).heap[w.heap.size]? = some o := by
  show (w.heap.push o)[w.heap.size]? = some o
  simp
theorem size_new (o : Obj) : (w.alloc o).heap.size = w.heap.size + 1 := by
  show (w.heap.push o).size = _
  simp

theorem Inv.fresh (hI : Inv B w0 I σ w h) (arr : Array Value) (e : TypeId) :
    Inv B w0 (fun b x => I b x ∨ (b = w.heap.size ∧ x < arr.size)) σ (w.alloc (.cells arr e)) h ∧
    Step B I σ w (fun b x => I b x ∨ (b = w.heap.size ∧ x < arr.size)) σ (w.alloc (.cells arr e)) := by
  have he : Ext I w (fun b x => I b x ∨ (b = w.heap.size ∧ x < arr.size)) (w.alloc (.cells arr e)) :=
    ⟨fun b x hb => .inl hb, fun b x hb => cell_old _ (hI.imm_lt hb)⟩
  refine ⟨hI.same (below_new hI.base _) he ?_ ?_, he, Later.refl _, ?_, by rw [size_new]; omega⟩
  · rintro b x (hb | ⟨rfl, hx⟩)
    · obtain ⟨v, hv⟩ := hI.imm b x hb
      exact ⟨v, by rw [cell_old _ (hI.imm_lt hb)]; exact hv⟩
    · exact ⟨arr[x], by unfold World.cell?; rw [heap_new]; simp [hx]⟩
  · intro j Lj hL hh
    have := (hI.mine j Lj hL hh).2
    refine ⟨Below.heap_alloc w _ _ this, fun x hx => ?_⟩
    rcases hx with hx | ⟨e, _⟩
    · exact hx
    · omega
  · rintro b x (hb | ⟨rfl, _⟩)
    · exact .inl hb
    · exact .inr hI.base

theorem Inv.grow (hI : Inv B w0 I σ w h) (o : Obj) {o' : AO} {L' : Loc} (hLb : L'.has = true → L'.b = w.heap.size)
    (hrep : ∀ he : Ext I w I (w.alloc o), RepO I (w.alloc o) (σ ++ [L']) L' o') :
    Inv B w0 I (σ ++ [L']) (w.alloc o) (h ++ [o']) ∧ Step B I σ w I (σ ++ [L']) (w.alloc o) := by
  have he : Ext I w I (w.alloc o) := ⟨fun b x hb => hb, fun b x hb => cell_old _ (hI.imm_lt hb)⟩
  refine ⟨hI.push (below_new hI.base _) he ?_ ?_ (hrep he) ?_, he, Later.append _ _, fun b x hb => .inl hb, by rw [size_new]; omega⟩
  · intro b x hb
    obtain ⟨v, hv⟩ := hI.imm b x hb
    exact ⟨v, by rw [cell_old _ (hI.imm_lt hb)]; exact hv⟩
  · exact fun j Lj hL hh => ⟨Below.heap_alloc w _ _ (hI.mine j Lj hL hh).2, fun x hx => hx⟩
  · intro hh
    rw [hLb hh, size_new]
    exact ⟨hI.base, by omega, fun j Lj hL hh' => by have := (hI.mine j Lj hL hh').2; omega⟩
end
end Go.AE
end

/-! AE, part 5: operations that read and make. -/
section
set_option linter.unusedVariables false
set_option linter.unusedSimpArgs false
namespace Go.AE
open Go Go.RowKit

def Gives (P : Program) (B : Nat) (w0 : World) (I : Cells) (σ : List Loc) (w : World) (s : Sem Next) (r : AV) (h' : List AO) : Prop :=
  ∃ v w' I' σ', (s.run P w = .ok (.value v) w' ∨ (s.run P w = .ok .skip w' ∧ v = undef)) ∧ Inv B w0 I' σ' w' h' ∧ Step B I σ w I' σ' w' ∧ Rep I' w' σ' r v

section
variable {P : Program} {B : Nat} {w0 w w' : World} {I I' : Cells} {σ σ' : List Loc} {h : List AO}

theorem Gives.same (hI : Inv B w0 I σ w h) {s : Sem Next} {r : AV} {v : Value} (hs : s.run P w = .ok (.value v) w) (hr : Rep I w σ r v) : Gives P B w0 I σ w s r h :=
  ⟨v, w, I, σ, .inl hs, hI, .refl _ _ _ _, hr⟩

theorem Rep.cl {a : AV} {v : Value} (hr : Rep I w σ a v) {cs : List AV} (hc : a.cl = some cs) :
    a.cells = cs ∧ v.cells.size = cs.length ∧ (∀ (i : Nat) (c : AV), cs[i]? = some c → (v.cells.getD i undef).oneCell' = true) ∧ (∀ (i : Nat) (c : AV), cs[i]? = some c → Rep I w σ c (v.cells.getD i undef)) := by
  have one : ∀ {c : AV} {u : Value}, u.oneCell' = true → Rep I w σ c u → [c] = cs → v = u → [c] = cs ∧ v.cells.size = cs.length ∧ (∀ (i : Nat) (c : AV), cs[i]? = some c → (v.cells.getD i undef).oneCell' = true) ∧ (∀ (i : Nat) (c : AV), cs[i]? = some c → Rep I w σ c (v.cells.getD i undef)) := by
    rintro c u hu hrep rfl rfl
    have hcells : v.cells = #[v] := by cases v <;> first | rfl | (simp [Value.oneCell'] at hu)
    refine ⟨rfl, by simp [hcells], ?_, ?_⟩ <;>
    · intro i c' hi
      cases i with
      | zero => simp at hi; subst hi; simpa [hcells] using (by assumption)
      | succ i => simp at hi
  cases hr with
  | v =>
    simp only [AV.cl] at hc
    split at hc
    · rename_i hu; exact one hu (.v _ _) (Option.some.inj hc) rfl
    · cases hc
  | junk => simp [AV.cl] at hc
  | tup _ vs arr hs hr => simp [AV.cl] at hc
  | agg _ cs' arr hs h1 hr =>
    simp only [AV.cl, Option.some.injEq] at hc
    subst hc
    exact ⟨rfl, hs, h1, hr⟩
  | slc _ sz ex nn l a cap b o g ha hn hnil hcap hex hsz hc' hi h1 hr => exact one rfl (.slc _ sz ex nn l a cap b o g ha hn hnil hcap hex hsz hc' hi h1 hr) (Option.some.inj hc) rfl
  | ip _ cs' b o g hc' hi h1 hr => exact one rfl (.ip _ cs' b o g hc' hi h1 hr) (Option.some.inj hc) rfl
  | own _ sz id ver off n x h1x L hL hv hx => exact one (own_one h1x) (.own _ sz id ver off n v h1x L hL hv hx) (Option.some.inj hc) rfl
  | ptr _ id off L hL hf => exact one rfl (.ptr _ id off L hL hf) (Option.some.inj hc) rfl
  | ep _ sz id ver idx off x h1x L hL hv hx => exact one h1x (.ep _ sz id ver idx off v h1x L hL hv hx) (Option.some.inj hc) rfl
  | fn _ f p q ap aq hp hq hpr hqr => exact one rfl (.fn _ f p q ap aq hp hq hpr hqr) (Option.some.inj hc) rfl
  | mp _ id L hL hf => exact one rfl (.mp _ id L hL hf) (Option.some.inj hc) rfl
  | it _ id L hL hf => exact one rfl (.it _ id L hL hf) (Option.some.inj hc) rfl
  | bs _ id off n L hL hf o cap h1 h2 => exact one rfl (.bs _ id off n L hL hf o cap h1 h2) (Option.some.inj hc) rfl

theorem Rep.ofVal (x : Value) : Rep I w σ (ofVal x) x := by
  cases x with
  | agg arr =>
    simp only [AE.ofVal]
    split
    · rename_i ha
      refine .agg σ _ arr (by simp) (fun i c hi => ?_) (fun i c hi => ?_)
      · have hlt := (List.getElem?_eq_some_iff.1 hi).1
        simp at hlt
        have := (Array.all_eq_true.1 ha) i hlt
        simpa [Array.getD, hlt] using this
      · have hlt := (List.getElem?_eq_some_iff.1 hi).1
        simp at hlt
        simp [hlt] at hi
        subst hi
        simpa [Array.getD, hlt] using Rep.v σ arr[i]
    · exact .v σ _
  | _ => exact .v σ _

def OpsOk (I : Cells) (w : World) (σ : List Loc) (vars env : List AV) (ρ : Operand → Value) (m : Tmp → Option Opd) : Prop :=
  ∀ (t : Tmp) (y : Opd), m t = some y → Rep I w σ (getO vars env y) (ρ (.tmp t))
def cO (m : Tmp → Option Opd) : Operand → Option Opd
  | .tmp t => m t
  | .const x => some (.k x)
  | .func f => some (.fn f)
  | .global _ => none
theorem OpsOk.get {vars env : List AV} {a : Act} {m : Tmp → Option Opd} (ho : OpsOk I w σ vars env a.eval m) {x : Operand} {y : Opd} (hx : cO m x = some y) :
    Rep I w σ (getO vars env y) (a.eval x) := by
  cases x with
  | tmp t => exact ho t y hx
  | const v => simp only [cO, Option.some.injEq] at hx; subst hx; exact Rep.ofVal v
  | func f => simp only [cO, Option.some.injEq] at hx; subst hx; exact .fn σ (.func f) [] [] #[] #[] rfl rfl (fun i c h => by simp at h) (fun i c h => by simp at h)
  | global g => simp [cO] at hx

/-! ### A variable in memory -/
theorem gives_box (hI : Inv B w0 I σ w h) {x : AV} {vx : Value} (hx : Rep I w σ x vx) {cs : List AV} (hc : x.cl = some cs) (e : TypeId) :
    Gives P B w0 I σ w (do pure (.value (← Instr.box e vx))) (.ptr h.length 0) (h ++ [.box e cs]) := by
  obtain ⟨_, h1, h2, h3⟩ := hx.cl hc
  have hg := hI.grow (.cells vx.cells e) (o' := .box e cs) (L' := ⟨true, true, w.heap.size, 0, 0, 0⟩) (fun _ => rfl) (fun he =>
    ⟨rfl, rfl, rfl, ⟨vx.cells, heap_new _, h1, h2, fun i c hi => (h3 i c hi).mono he (Later.append _ _)⟩, fun x hx => by
      have := hI.imm_lt hx; simp at this⟩)
  refine ⟨.pointer (some ⟨w.heap.size, 0, none⟩), _, I, _, .inl ?_, hg.1, hg.2, ?_⟩
  · simp [Instr.box, newVar, newRow]
  · have : (σ ++ [(⟨true, true, w.heap.size, 0, 0, 0⟩ : Loc)])[h.length]? = some ⟨true, true, w.heap.size, 0, 0, 0⟩ := by
      rw [← hI.len]; simp
    exact .ptr _ _ _ _ this rfl
end
end Go.AE
end

/-! AE, part 6: structs and slices that are made of parts. -/
section
set_option linter.unusedVariables false
set_option linter.unusedSimpArgs false
namespace Go.AE
open Go Go.RowKit

structure CellsRep (I : Cells) (w : World) (σ : List Loc) (cs : List AV) (arr : Array Value) : Prop where
  size : arr.size = cs.length
  one : ∀ (i : Nat) (c : AV), cs[i]? = some c → (arr.getD i undef).oneCell' = true
  rep : ∀ (i : Nat) (c : AV), cs[i]? = some c → Rep I w σ c (arr.getD i undef)

section
variable {P : Program} {B : Nat} {w0 w w' : World} {I I' : Cells} {σ σ' : List Loc} {h : List AO}

theorem Rep.cells {a : AV} {v : Value} (hr : Rep I w σ a v) {cs : List AV} (hc : a.cl = some cs) : CellsRep I w σ cs v.cells :=
  let ⟨_, h1, h2, h3⟩ := hr.cl hc
  ⟨h1, h2, h3⟩
theorem CellsRep.mono {cs : List AV} {arr : Array Value} (hr : CellsRep I w σ cs arr) (he : Ext I w I' w') (hl : Later σ σ') : CellsRep I' w' σ' cs arr :=
  ⟨hr.size, hr.one, fun i c hi => (hr.rep i c hi).mono he hl⟩
theorem CellsRep.set {cs : List AV} {arr : Array Value} (hr : CellsRep I w σ cs arr) {i : Nat} {x : AV} {v : Value} (hx : Rep I w σ x v) (h1 : v.oneCell' = true) :
    CellsRep I w σ (cs.set i x) (arr.setIfInBounds i v) := by
  have key : ∀ (j : Nat) (c : AV), (cs.set i x)[j]? = some c → (arr.setIfInBounds i v).getD j undef = v ∧ c = x ∨ (arr.setIfInBounds i v).getD j undef = arr.getD j undef ∧ cs[j]? = some c := by
    intro j c hj
    by_cases e : i = j
    · subst e
      have hlt : i < cs.length := by have := (List.getElem?_eq_some_iff.1 hj).1; simpa using this
      rw [List.getElem?_set_self hlt] at hj
      have : i < arr.size := by rw [hr.size]; exact hlt
      exact .inl ⟨by simp [Array.getD, this], (Option.some.inj hj).symm⟩
    · rw [List.getElem?_set_ne e] at hj
      refine .inr ⟨?_, hj⟩
      have h2 : (arr.setIfInBounds i v)[j]? = arr[j]? := Array.getElem?_setIfInBounds_ne e
      rw [Array.getD_eq_getD_getElem?, Array.getD_eq_getD_getElem?, h2]
  refine ⟨by simp [hr.size], fun j c hj => ?_, fun j c hj => ?_⟩
  · rcases key j c hj with ⟨h2, rfl⟩ | ⟨h2, h3⟩
    · rw [h2]; exact h1
    · rw [h2]; exact hr.one j c h3
  · rcases key j c hj with ⟨h2, rfl⟩ | ⟨h2, h3⟩
    · rw [h2]; exact hx
    · rw [h2]; exact hr.rep j c h3

theorem getD_get {arr : Array Value} {i : Nat} {v : Value} (h : arr[i]? = some v) : arr.getD i undef = v := by
  obtain ⟨hl, rfl⟩ := Array.getElem?_eq_some_iff.1 h
  simp [Array.getD, hl]

theorem CellsRep.put {cs : List AV} {arr : Array Value} (hr : CellsRep I w σ cs arr) {xs : List AV} {vs : Array Value} (hx : CellsRep I w σ xs vs) (off : Nat) :
    CellsRep I w σ (Q112 cs off xs) (vs.zipIdx.foldl (fun (cs : Array Value) (p : Value × Nat) => cs.setIfInBounds (off + p.2) p.1) arr) := by
  rw [← Array.foldl_toList, Array.toList_zipIdx]
  obtain ⟨hs, h1, h2⟩ := hx
  have h1' : ∀ (i : Nat) (c : AV), xs[i]? = some c → ∃ v, vs.toList[i]? = some v ∧ v.oneCell' = true ∧ Rep I w σ c v := by
    intro i c hi
    have hlt := (List.getElem?_eq_some_iff.1 hi).1
    have hlt' : i < vs.size := by omega
    have hg : vs[i]? = some vs[i] := Array.getElem?_eq_getElem hlt'
    refine ⟨vs[i], by simp, ?_, ?_⟩
    · rw [← getD_get hg]; exact h1 i c hi
    · rw [← getD_get hg]; exact h2 i c hi
  have hlen : vs.toList.length = xs.length := by simpa using hs
  clear hs h1 h2
  generalize vs.toList = vl at *
  have key : ∀ (xs : List AV) (vl : List Value) (k : Nat) (cs : List AV) (arr : Array Value), CellsRep I w σ cs arr → vl.length = xs.length →
      (∀ (i : Nat) (c : AV), xs[i]? = some c → ∃ v, vl[i]? = some v ∧ v.oneCell' = true ∧ Rep I w σ c v) →
      CellsRep I w σ (Q112 cs (off + k) xs) ((vl.zipIdx k).foldl (fun (cs : Array Value) (p : Value × Nat) => cs.setIfInBounds (off + p.2) p.1) arr) := by
    intro xs
    induction xs with
    | nil => intro vl k cs arr hr hl _; cases vl with
      | nil => exact hr
      | cons _ _ => simp at hl
    | cons x xs ih =>
      intro vl k cs arr hr hl hx
      cases vl with
      | nil => simp at hl
      | cons v vl =>
        obtain ⟨u, hu, h1, h2⟩ := hx 0 x rfl
        simp at hu; subst hu
        simp only [Q112, List.zipIdx_cons, List.foldl_cons]
        exact ih vl (k + 1) _ _ (hr.set h2 h1) (by simpa using hl) (fun i c hi => by simpa using hx (i + 1) c (by simpa using hi))
  exact key xs vl 0 cs arr hr hlen h1'

theorem putAt_length (cs : List AV) (off : Nat) (xs : List AV) : (Q112 cs off xs).length = cs.length := by
  induction xs generalizing cs off with
  | nil => rfl
  | cons x xs ih => simp [Q112, ih]

theorem fill_rep {vars env : List AV} (place : Nat → Option (Nat × Nat)) :
    ∀ (l : List ((Nat × Value) × (Nat × Nat × Opd))) (cs : List AV) (arr : Array Value) (cs' : List AV), CellsRep I w σ cs arr →
      (∀ x ∈ l, place x.1.1 = some (x.2.1, x.2.2.1) ∧ Rep I w σ (getO vars env x.2.2.2) x.1.2) → evBuild vars env cs (l.map (·.2)) = some cs' →
      ∃ arr', Instr.fill place arr (l.map (·.1)) = some arr' ∧ CellsRep I w σ cs' arr' := by
  intro l
  induction l with
  | nil =>
    intro cs arr cs' hr hf he
    simp only [List.map_nil, evBuild, Option.some.injEq] at he
    subst he
    exact ⟨arr, rfl, hr⟩
  | cons p l ih =>
    intro cs arr cs' hr hf he
    obtain ⟨⟨i, v⟩, off, sz, x⟩ := p
    obtain ⟨hp1, hp2⟩ := hf _ (List.mem_cons_self ..)
    simp only [List.map_cons, evBuild] at he
    split at he
    · rename_i xs hcl
      split at he
      · rename_i hc
        have hx := hp2.cells hcl
        obtain ⟨arr', h1, h2⟩ := ih _ _ cs' (hr.put hx off) (fun x hx => hf x (List.mem_cons_of_mem _ hx)) he
        refine ⟨arr', ?_, h2⟩
        simp only at hp1
        simp only [List.map_cons, Instr.fill, hp1]
        have g1 : v.cells.size = xs.length := hx.size
        have g2 := hr.size
        rw [if_neg (by simp; omega)]
        exact h1
      · cases he
    · cases he

theorem CellsRep.ofVals (xs : List Value) (h1 : ∀ x ∈ xs, x.oneCell' = true) : CellsRep I w σ (toL xs) xs.toArray := by
  refine ⟨by simp [toL], fun i c hi => ?_, fun i c hi => ?_⟩
  · have hlt := (List.getElem?_eq_some_iff.1 hi).1
    simp [toL] at hlt
    simpa [Array.getD, hlt] using h1 _ (List.getElem_mem hlt)
  · have hlt := (List.getElem?_eq_some_iff.1 hi).1
    simp [toL] at hlt hi
    obtain ⟨y, hy, rfl⟩ := hi
    have : xs.toArray.getD i undef = y := by
      have := (List.getElem?_eq_some_iff.1 hy).2
      simp [Array.getD, hlt, this]
    rw [this]; exact .v σ y

theorem gives_build (hI : Inv B w0 I σ w h) {vars env : List AV} {t : TypeId} {i : TI} (ht : TIok P t i) {fields : Array Field} (hd : i.desc = .struct fields)
    (h1 : ∀ x ∈ i.zero.cells.toList, x.oneCell' = true)
    (places : List (Nat × Nat)) (hpl : places.length = fields.size) (hpf : ∀ (j : Nat) (f : Field) (q : Nat × Nat), fields[j]? = some f → places[j]? = some q → f.offset = q.1 ∧ ∃ tf, TIok P f.type tf ∧ tf.size = q.2)
    (l : List ((Nat × Value) × (Nat × Nat × Opd))) (hl : ∀ x ∈ l, places[x.1.1]? = some (x.2.1, x.2.2.1) ∧ Rep I w σ (getO vars env x.2.2.2) x.1.2)
    {cs : List AV} (he : evBuild vars env (toL i.zero.cells.toList) (l.map (·.2)) = some cs) :
    Gives P B w0 I σ w (do pure (.value (← Instr.build t (l.map (·.1)).toArray))) (.agg cs) h := by
  have hz := CellsRep.ofVals (I := I) (w := w) (σ := σ) i.zero.cells.toList h1
  obtain ⟨arr', hf, hr⟩ := fill_rep (fun j => places.toArray[j]?) l _ _ cs hz (fun x hx => by simpa using hl x hx) he
  have hm : (fields.mapM fun (f : Field) => (do pure (f.offset, ← sizeOf f.type) : Sem (Nat × Nat))).run P w = .ok places.toArray w := by
    rw [← Array.toArray_toList (xs := fields)]
    rw [List.mapM_toArray]
    simp only [Sem.run_map]
    have key : ∀ (fl : List Field) (pl : List (Nat × Nat)), pl.length = fl.length → (∀ (j : Nat) (f : Field) (q : Nat × Nat), fl[j]? = some f → pl[j]? = some q → f.offset = q.1 ∧ ∃ tf, TIok P f.type tf ∧ tf.size = q.2) →
        (fl.mapM fun (f : Field) => (do pure (f.offset, ← sizeOf f.type) : Sem (Nat × Nat))).run P w = .ok pl w := by
      intro fl
      induction fl with
      | nil => intro pl hpl _; cases pl with
        | nil => rfl
        | cons _ _ => simp at hpl
      | cons f fl ih =>
        intro pl hpl hp
        cases pl with
        | nil => simp at hpl
        | cons q pl =>
          obtain ⟨h1, tf, h2, h3⟩ := hp 0 f q rfl rfl
          have := ih pl (by simpa using hpl) (fun j f q hf hq => hp (j + 1) f q (by simpa using hf) (by simpa using hq))
          simp only [List.mapM_cons, Sem.run_bind, h2.sizeOf, Result.andThen_ok, Sem.run_pure, this, h1, h3]
    rw [key fields.toList places (by simpa using hpl) (fun j f q hf hq => hpf j f q (by simpa using hf) hq)]
    rfl
  refine Gives.same hI (v := .agg arr') ?_ (.agg σ cs arr' hr.size hr.one hr.rep)
  simp only [Instr.build, Sem.run_bind, ht.zeroValue, Result.andThen_ok, ht.underlying, hd, hm]
  rw [Array.toArray_toList] at hf
  simp only [hf, Sem.run_pure, Result.andThen_ok, List.toList_toArray]
theorem gives_buildA (hI : Inv B w0 I σ w h) {vars env : List AV} {t e : TypeId} {i j : TI} (ht : TIok P t i) {n : Nat} (hd : i.desc = .array n e) (hj : TIok P e j)
    (h1 : ∀ x ∈ i.zero.cells.toList, x.oneCell' = true)
    (l : List ((Nat × Value) × (Nat × Nat × Opd))) (hl : ∀ x ∈ l, x.2.1 = x.1.1 * j.size ∧ x.2.2.1 = j.size ∧ Rep I w σ (getO vars env x.2.2.2) x.1.2)
    {cs : List AV} (he : evBuild vars env (toL i.zero.cells.toList) (l.map (·.2)) = some cs) :
    Gives P B w0 I σ w (do pure (.value (← Instr.build t (l.map (·.1)).toArray))) (.agg cs) h := by
  have hz := CellsRep.ofVals (I := I) (w := w) (σ := σ) i.zero.cells.toList h1
  obtain ⟨arr', hf, hr⟩ := fill_rep (fun q => some (q * j.size, j.size)) l _ _ cs hz (fun x hx => by
    obtain ⟨a, b, c⟩ := hl x hx
    exact ⟨by rw [a, b], c⟩) he
  refine Gives.same hI (v := .agg arr') ?_ (.agg σ cs arr' hr.size hr.one hr.rep)
  simp only [Instr.build, Sem.run_bind, ht.zeroValue, Result.andThen_ok, ht.underlying, hd, hj.sizeOf]
  rw [Array.toArray_toList] at hf
  simp only [hf, Sem.run_pure, Result.andThen_ok, List.toList_toArray]
end
end Go.AE
end

/-! AE, part 7: rows that are handed on as values; literals. -/
section
set_option linter.unusedVariables false
set_option linter.unusedSimpArgs false
namespace Go.AE
open Go Go.RowKit

section
variable {P : Program} {B : Nat} {w0 w w' : World} {I I' : Cells} {σ σ' : List Loc} {h : List AO}

theorem take_drop_len {α : Type} {l : List α} {off n : Nat} (h : off + n ≤ l.length) : ((l.drop off).take n).length = n := by simp; omega

theorem Rep.snap0 (hI : Inv B w0 I σ w h) {a y : AV} {v : Value} (hr : Rep I w σ a v) (hs : a.snap0 h = some y) : Rep I w [] y v := by
  cases a with
  | own sz id ver off n =>
    cases hr with | own _ _ _ _ _ _ x h1x L hL hv hx => ?_
    simp only [AV.snap0] at hs
    split at hs
    · rename_i l k hra
      split at hs
      · rename_i hk
        cases hs
        obtain ⟨hh, hm⟩ := rowAt_eq hra
        obtain ⟨hf, hver, hR⟩ := hI.obj id _ L hh hL
        have hlen := take_drop_len (l := l) (off := off) (n := n) hm
        rcases hx hver.symm with ⟨hhas, hcap, rfl⟩ | ⟨rfl, a, rfl⟩
        · by_cases hne : l = []
          · subst hne
            simp at hm
            have hn0 : n = 0 := by omega
            subst hn0
            exact .slc [] sz false false [] (some ⟨L.b, L.o + off * sz, none⟩) (L.cap - off) 0 0 (fun _ _ => undef) (fun e => absurd rfl e) (fun e => by cases e) (fun e => by cases e) (by simp) (fun e => by cases e)
              (fun j el e => by simp at e) (fun j el i c e => by simp at e) (fun j el i c e => by simp at e) (fun j el i c e => by simp at e) (fun j el i c e => by simp at e)
          · obtain ⟨_, _, _, _, hsz, g, hc, h1, hr⟩ := hI.row_cells hh hL hne
            have himm : ∀ j i, j < k → i < sz → I L.b (L.o + (j * sz + i)) := by
              rcases hR.lies with ⟨h0, _⟩ | ⟨_, arr, _, _, _, _, _, h6, _⟩
              · exact absurd h0 hne
              · exact h6
            have key := Rep.slc (I := I) (w := w) [] sz false false ((l.drop off).take n) (some ⟨L.b, L.o + off * sz, none⟩) (L.cap - off) L.b (L.o + off * sz) (fun j i => g (off + j) i) (fun _ => rfl) (fun e => by cases e)
              (fun e => by cases e) (by rw [hlen]; omega) (fun e => by cases e) (fun j el e => hsz _ el (drop_take_get l off n j el e).1)
              (fun j el i c e f => by
                have := hc _ el i c (drop_take_get l off n j el e).1 f
                rwa [show L.o + off * sz + (j * sz + i) = L.o + ((off + j) * sz + i) by rw [Nat.add_mul]; omega])
              (fun j el i c e f => by
                have h2 := drop_take_get l off n j el e
                have hi : i < sz := by
                  have := (List.getElem?_eq_some_iff.1 f).1
                  rwa [hsz _ el h2.1] at this
                have := himm (off + j) i (by omega) hi
                rwa [show L.o + off * sz + (j * sz + i) = L.o + ((off + j) * sz + i) by rw [Nat.add_mul]; omega])
              (fun j el i c e f => h1 _ el i c (drop_take_get l off n j el e).1 f) (fun j el i c e f => hr _ el i c (drop_take_get l off n j el e).1 f)
            rw [hlen] at key
            exact key
        · have : (l.drop off).take 0 = [] := by simp
          rw [this]
          exact .slc [] sz false false [] a 0 0 0 (fun _ _ => undef) (fun e => absurd rfl e) (fun e => by cases e) (fun _ => rfl) (by simp) (fun e => by cases e)
              (fun j el e => by simp at e) (fun j el i c e => by simp at e) (fun j el i c e => by simp at e) (fun j el i c e => by simp at e) (fun j el i c e => by simp at e)
      · cases hs
    · cases hs
  | _ =>
    simp only [AV.snap0] at hs
    split at hs
    · rename_i hf
      cases hs
      exact hr.of_free0 hf
    · cases hs

theorem mapM_get {α β : Type} {f : α → Option β} : ∀ {l : List α} {r : List β}, l.mapM f = some r → r.length = l.length ∧ ∀ (i : Nat) (x : α) (y : β), l[i]? = some x → r[i]? = some y → f x = some y := by
  intro l
  induction l with
  | nil => intro r h; simp at h; subst h; exact ⟨rfl, fun i x y hx => by simp at hx⟩
  | cons a l ih =>
    intro r h
    simp only [List.mapM_cons, Option.bind_eq_bind, Option.bind_eq_some_iff, Option.pure_def, Option.some.injEq] at h
    obtain ⟨b, hb, r', hr', rfl⟩ := h
    obtain ⟨h1, h2⟩ := ih hr'
    refine ⟨by simp [h1], fun i x y hx hy => ?_⟩
    cases i with
    | zero => simp at hx hy; subst hx; subst hy; exact hb
    | succ i => exact h2 i x y (by simpa using hx) (by simpa using hy)
theorem mapM_get' {α β : Type} {f : α → Option β} {l : List α} {r : List β} (h : l.mapM f = some r) {i : Nat} {y : β} (hy : r[i]? = some y) : ∃ x, l[i]? = some x ∧ f x = some y := by
  obtain ⟨h1, h2⟩ := mapM_get h
  have hlt := (List.getElem?_eq_some_iff.1 hy).1
  have hx : l[i]? = some l[i] := List.getElem?_eq_getElem (by omega)
  exact ⟨_, hx, h2 i _ y hx hy⟩

theorem Rep.snap1 (hI : Inv B w0 I σ w h) {a y : AV} {v : Value} (hr : Rep I w σ a v) (hs : a.snap1 h = some y) : Rep I w [] y v := by
  cases a with
  | agg cs =>
    cases hr with | agg _ _ arr hsz h1 hr => ?_
    simp only [AV.snap1, Option.map_eq_some_iff] at hs
    obtain ⟨cs', hm, rfl⟩ := hs
    refine .agg [] cs' arr (by rw [(mapM_get hm).1]; exact hsz) (fun i c hi => ?_) (fun i c hi => ?_)
    · obtain ⟨x, hx, _⟩ := mapM_get' hm hi
      exact h1 i x hx
    · obtain ⟨x, hx, hf⟩ := mapM_get' hm hi
      exact (hr i x hx).snap0 hI hf
  | _ => exact hr.snap0 hI (by simpa [AV.snap1] using hs)

/-! ### Elements in a row of cells -/
structure ElemsRep (I : Cells) (w : World) (sz : Nat) (l : List AV) (arr : Array Value) : Prop where
  size : arr.size = l.length * sz
  cells : ∀ (j : Nat) (el : AV), l[j]? = some el → el.cells.length = sz
  one : ∀ (j : Nat) (el : AV) (i : Nat) (c : AV), l[j]? = some el → el.cells[i]? = some c → (arr.getD (j * sz + i) undef).oneCell' = true
  rep : ∀ (j : Nat) (el : AV) (i : Nat) (c : AV), l[j]? = some el → el.cells[i]? = some c → Rep I w [] c (arr.getD (j * sz + i) undef)

theorem foldl_put (vs : Array Value) (off : Nat) (arr : Array Value) (hle : off + vs.size ≤ arr.size) :
    (vs.zipIdx.foldl (fun (cs : Array Value) (p : Value × Nat) => cs.setIfInBounds (off + p.2) p.1) arr).size = arr.size ∧
    ∀ x, (vs.zipIdx.foldl (fun (cs : Array Value) (p : Value × Nat) => cs.setIfInBounds (off + p.2) p.1) arr).getD x undef = if off ≤ x ∧ x < off + vs.size then vs.getD (x - off) undef else arr.getD x undef := by
  rw [← Array.foldl_toList, Array.toList_zipIdx]
  have key : ∀ (vl : List Value) (k : Nat) (arr : Array Value), off + k + vl.length ≤ arr.size →
      ((vl.zipIdx k).foldl (fun (cs : Array Value) (p : Value × Nat) => cs.setIfInBounds (off + p.2) p.1) arr).size = arr.size ∧
      ∀ x, ((vl.zipIdx k).foldl (fun (cs : Array Value) (p : Value × Nat) => cs.setIfInBounds (off + p.2) p.1) arr).getD x undef = if off + k ≤ x ∧ x < off + k + vl.length then vl.getD (x - (off + k)) undef else arr.getD x undef := by
    intro vl
    induction vl with
    | nil => intro k arr _; exact ⟨rfl, fun x => by simp; intro a b; omega⟩
    | cons v vl ih =>
      intro k arr hle
      simp only [List.length_cons] at hle
      simp only [List.zipIdx_cons, List.foldl_cons]
      obtain ⟨h1, h2⟩ := ih (k + 1) (arr.setIfInBounds (off + k) v) (by simp; omega)
      refine ⟨by rw [h1]; simp, fun x => ?_⟩
      rw [h2 x]
      simp only [List.length_cons]
      by_cases hx : x = off + k
      · subst hx
        rw [if_neg (by omega), if_pos (by omega)]
        simp only [Nat.sub_self, List.getD_cons_zero]
        rw [Array.getD_eq_getD_getElem?, Array.getElem?_setIfInBounds_self_of_lt (by omega)]
        rfl
      · by_cases hc : off + k ≤ x ∧ x < off + k + (vl.length + 1)
        · rw [if_pos (by omega), if_pos hc]
          rw [show x - (off + k) = (x - (off + (k + 1))) + 1 by omega, List.getD_cons_succ]
        · rw [if_neg (by omega), if_neg hc]
          rw [Array.getD_eq_getD_getElem?, Array.getD_eq_getD_getElem?, Array.getElem?_setIfInBounds_ne (by omega)]
  obtain ⟨h1, h2⟩ := key vs.toList 0 arr (by simpa using hle)
  refine ⟨h1, fun x => ?_⟩
  have := h2 x
  simp only [Nat.add_zero, Array.length_toList] at this
  rw [this]
  split
  · rw [Array.getD_eq_getD_getElem?, List.getD_eq_getElem?_getD, Array.getElem?_toList]
  · rfl

theorem ElemsRep.put {sz : Nat} {l : List AV} {arr : Array Value} (hr : ElemsRep I w sz l arr) {y : AV} {ys : List AV} {vs : Array Value} (hy : y.cells = ys) (hl : ys.length = sz)
    (hx : CellsRep I w [] ys vs) {j : Nat} (hj : j < l.length) :
    ElemsRep I w sz (l.set j y) (vs.zipIdx.foldl (fun (cs : Array Value) (p : Value × Nat) => cs.setIfInBounds (j * sz + p.2) p.1) arr) := by
  have hmul : ∀ a b, a < b → a * sz + sz ≤ b * sz := fun a b hab => by
    have := Nat.mul_le_mul_right sz (show a + 1 ≤ b from hab)
    rwa [Nat.add_mul, Nat.one_mul] at this
  have hvs := hx.size
  obtain ⟨h1, h2⟩ := foldl_put vs (j * sz) arr (by rw [hr.size]; have := hmul j l.length hj; omega)
  have get : ∀ (a : Nat) (el : AV), (l.set j y)[a]? = some el → (a = j ∧ el = y) ∨ (a ≠ j ∧ l[a]? = some el) := by
    intro a el he
    by_cases e : j = a
    · subst e; rw [List.getElem?_set_self hj] at he; cases he; exact .inl ⟨rfl, rfl⟩
    · rw [List.getElem?_set_ne e] at he; exact .inr ⟨fun e' => e e'.symm, he⟩
  have hcs : ∀ (a : Nat) (el : AV), (l.set j y)[a]? = some el → el.cells.length = sz := by
    intro a el he
    rcases get a el he with ⟨_, rfl⟩ | ⟨_, he⟩
    · rw [hy]; exact hl
    · exact hr.cells a el he
  have val : ∀ (a : Nat) (el : AV) (i : Nat) (c : AV), (l.set j y)[a]? = some el → el.cells[i]? = some c →
      (a = j ∧ ys[i]? = some c ∧ (vs.zipIdx.foldl (fun (cs : Array Value) (p : Value × Nat) => cs.setIfInBounds (j * sz + p.2) p.1) arr).getD (a * sz + i) undef = vs.getD i undef) ∨
      (l[a]? = some el ∧ (vs.zipIdx.foldl (fun (cs : Array Value) (p : Value × Nat) => cs.setIfInBounds (j * sz + p.2) p.1) arr).getD (a * sz + i) undef = arr.getD (a * sz + i) undef) := by
    intro a el i c he hc
    have hi : i < sz := by rw [← hcs a el he]; exact (List.getElem?_eq_some_iff.1 hc).1
    rcases get a el he with ⟨rfl, rfl⟩ | ⟨hne, he⟩
    · refine .inl ⟨rfl, by rw [← hy]; exact hc, ?_⟩
      rw [h2, if_pos (by omega), Nat.add_sub_cancel_left]
    · refine .inr ⟨he, ?_⟩
      rw [h2, if_neg]
      rintro ⟨p, q⟩
      rcases Nat.lt_or_gt_of_ne hne with hlt | hlt
      · have := hmul a j hlt; omega
      · have := hmul j a hlt; omega
  refine ⟨by rw [h1, hr.size]; simp, hcs, fun a el i c he hc => ?_, fun a el i c he hc => ?_⟩
  · rcases val a el i c he hc with ⟨_, h3, h4⟩ | ⟨h3, h4⟩
    · rw [h4]; exact hx.one i c h3
    · rw [h4]; exact hr.one a el i c h3 hc
  · rcases val a el i c he hc with ⟨_, h3, h4⟩ | ⟨h3, h4⟩
    · rw [h4]; exact hx.rep i c h3
    · rw [h4]; exact hr.rep a el i c h3 hc
end
end Go.AE
end

/-! AE, part 8: literals of slices, make. -/
section
set_option linter.unusedVariables false
set_option linter.unusedSimpArgs false
namespace Go.AE
open Go Go.RowKit

section
variable {P : Program} {B : Nat} {w0 w w' : World} {I I' : Cells} {σ σ' : List Loc} {h : List AO}

theorem zeroEl_cells (zs : List Value) : (zeroEl zs).cells = toL zs := by
  unfold zeroEl
  split <;> rfl

theorem zeroArr (n sz : Nat) (z : Array Value) (hz : n * sz = 0 ∨ z.size = sz) (x : Nat) (hx : x < n * sz) :
    ((Array.range (n * sz)).map (fun i => z[i % z.size]!)).getD x undef = z.getD (x % sz) undef := by
  have hsz : z.size = sz := by rcases hz with h | h <;> omega
  have hpos : 0 < sz := by
    rcases Nat.eq_zero_or_pos sz with h0 | h0
    · rw [h0, Nat.mul_zero] at hx; omega
    · exact h0
  have hlt : x % sz < z.size := by rw [hsz]; exact Nat.mod_lt _ hpos
  rw [Array.getD_eq_getD_getElem?]
  simp [hx, hsz, Array.getD, hlt, getElem!_pos, hsz ▸ hlt]

theorem ElemsRep.zeros (n sz : Nat) (z zv : Array Value) (hz : (n * sz = 0 ∧ z = #[]) ∨ z = zv) (hzv : zv.size = sz) (h1 : ∀ x ∈ zv.toList, x.oneCell' = true) :
    ElemsRep I w sz (List.replicate n (zeroEl zv.toList)) ((Array.range (n * sz)).map (fun i => z[i % z.size]!)) := by
  have get : ∀ (j : Nat) (el : AV), (List.replicate n (zeroEl zv.toList))[j]? = some el → j < n ∧ el = zeroEl zv.toList := by
    intro j el he
    rw [List.getElem?_replicate] at he
    split at he
    · rename_i hj; exact ⟨hj, (Option.some.inj he).symm⟩
    · cases he
  have val : ∀ (j : Nat) (el : AV) (i : Nat) (c : AV), (List.replicate n (zeroEl zv.toList))[j]? = some el → el.cells[i]? = some c →
      ∃ u, ((Array.range (n * sz)).map (fun i => z[i % z.size]!)).getD (j * sz + i) undef = u ∧ u.oneCell' = true ∧ c = .v u := by
    intro j el i c he hc
    obtain ⟨hj, rfl⟩ := get j el he
    rw [zeroEl_cells] at hc
    simp only [toL, List.getElem?_map, Option.map_eq_some_iff] at hc
    obtain ⟨u, hu, rfl⟩ := hc
    have hi : i < sz := by have := (List.getElem?_eq_some_iff.1 hu).1; simp at this; omega
    have hlt : j * sz + i < n * sz := by
      have := Nat.mul_le_mul_right sz (show j + 1 ≤ n from hj)
      rw [Nat.add_mul] at this; omega
    have hzz : z = zv := by
      rcases hz with ⟨h0, _⟩ | h0
      · omega
      · exact h0
    subst hzz
    refine ⟨u, ?_, h1 u (List.mem_of_getElem? hu), rfl⟩
    rw [zeroArr n sz z (.inr hzv) _ hlt]
    have : (j * sz + i) % sz = i := by rw [Nat.mul_comm, Nat.mul_add_mod]; exact Nat.mod_eq_of_lt hi
    rw [this, Array.getD_eq_getD_getElem?, ← Array.getElem?_toList, hu]; rfl
  refine ⟨by simp, fun j el he => ?_, fun j el i c he hc => ?_, fun j el i c he hc => ?_⟩
  · obtain ⟨_, rfl⟩ := get j el he
    rw [zeroEl_cells]; simp [toL, hzv]
  · obtain ⟨u, h2, h3, h4⟩ := val j el i c he hc
    rw [h2]; exact h3
  · obtain ⟨u, h2, h3, h4⟩ := val j el i c he hc
    rw [h2, h4]; exact .v [] u

theorem fillEls (hI : Inv B w0 I σ w h) {vars env : List AV} (sz : Nat) :
    ∀ (l : List ((Nat × Value) × (Nat × Opd))) (els : List AV) (arr : Array Value) (els' : List AV), ElemsRep I w sz els arr →
      (∀ x ∈ l, x.1.1 = x.2.1 ∧ Rep I w σ (getO vars env x.2.2) x.1.2) → evElems vars env h sz els (l.map (·.2)) = some els' →
      ∃ arr', Instr.fill (fun i => some (i * sz, sz)) arr (l.map (·.1)) = some arr' ∧ ElemsRep I w sz els' arr' ∧ els'.length = els.length := by
  intro l
  induction l with
  | nil =>
    intro els arr els' hr hf he
    simp only [List.map_nil, evElems, Option.some.injEq] at he
    subst he
    exact ⟨arr, rfl, hr, rfl⟩
  | cons p l ih =>
    intro els arr els' hr hf he
    obtain ⟨⟨i, v⟩, j, x⟩ := p
    obtain ⟨hp1, hp2⟩ := hf _ (List.mem_cons_self ..)
    simp only at hp1 hp2
    subst hp1
    simp only [List.map_cons, evElems] at he
    split at he
    · rename_i y ys hb
      obtain ⟨y', hs, hcl⟩ := Option.bind_eq_some_iff.1 hb
      obtain ⟨ys', hcl, e⟩ := Option.map_eq_some_iff.1 hcl
      cases e
      split at he
      · rename_i hc
        have hy := hp2.snap1 hI hs
        have hcs := hy.cells hcl
        have hyc := (hy.cl hcl).1
        have hput := hr.put hyc hc.1 hcs hc.2
        obtain ⟨arr', h1, h2, h3⟩ := ih _ _ els' hput (fun x hx => hf x (List.mem_cons_of_mem _ hx)) he
        refine ⟨arr', ?_, h2, by rw [h3]; simp⟩
        simp only [List.map_cons, Instr.fill]
        have g1 : v.cells.size = ys.length := hcs.size
        have g2 := hr.size
        have g3 : i * sz + sz ≤ els.length * sz := by
          have := Nat.mul_le_mul_right sz (show i + 1 ≤ els.length from hc.2)
          rwa [Nat.add_mul, Nat.one_mul] at this
        rw [if_neg (by simp; omega)]
        exact h1
      · cases he
    · cases he

theorem Inv.slice_new (hI : Inv B w0 I σ w h) {sz : Nat} {l : List AV} {arr : Array Value} (hr : ElemsRep I w sz l arr) (e : TypeId) :
    ∃ I', Inv B w0 I' σ (w.alloc (.cells arr e)) h ∧ Step B I σ w I' σ (w.alloc (.cells arr e)) ∧
      Rep I' (w.alloc (.cells arr e)) σ (.slc sz true true l) (.slice (some ⟨w.heap.size, 0, none⟩) l.length l.length) := by
  obtain ⟨h1, h2⟩ := hI.fresh arr e
  refine ⟨_, h1, h2, ?_⟩
  have lt : ∀ (j : Nat) (el : AV) (i : Nat) (c : AV), l[j]? = some el → el.cells[i]? = some c → j * sz + i < arr.size := by
    intro j el i c hj hi
    have hj' := (List.getElem?_eq_some_iff.1 hj).1
    have hi' := (List.getElem?_eq_some_iff.1 hi).1
    rw [hr.cells j el hj] at hi'
    have := Nat.mul_le_mul_right sz (show j + 1 ≤ l.length from hj')
    rw [Nat.add_mul] at this
    rw [hr.size]; omega
  refine .slc σ sz true true l (some ⟨w.heap.size, 0, none⟩) l.length w.heap.size 0 (fun j i => arr.getD (j * sz + i) undef) (fun _ => rfl) (fun _ => by simp) (fun e => by cases e) (Nat.le_refl _) (fun _ => rfl) hr.cells
    (fun j el i c hj hi => ?_) (fun j el i c hj hi => .inr ⟨rfl, by simpa using lt j el i c hj hi⟩) hr.one (fun j el i c hj hi => (hr.rep j el i c hj hi).mono h2.ext (Later.nil _))
  have := lt j el i c hj hi
  unfold World.cell?
  rw [heap_new]
  simp [Array.getD, this]

theorem gives_bslice (hI : Inv B w0 I σ w h) {vars env : List AV} {t e : TypeId} {i : TI} (hu : P.underlying t = some (.slice e)) (ht : TIok P e i)
    (h1 : ∀ x ∈ i.zero.cells.toList, x.oneCell' = true) (hzs : i.zero.cells.size = i.size) (n : Nat) (hn : n * i.size ≤ 2 ^ 24)
    (l : List ((Nat × Value) × (Nat × Opd))) (hl : ∀ x ∈ l, x.1.1 = x.2.1 ∧ Rep I w σ (getO vars env x.2.2) x.1.2)
    {els : List AV} (he : evElems vars env h i.size (List.replicate n (zeroEl i.zero.cells.toList)) (l.map (·.2)) = some els) :
    Gives P B w0 I σ w (do pure (.value (← Instr.buildSlice t n (l.map (·.1)).toArray))) (.slc i.size true true els) h := by
  obtain ⟨z, hz1, hz2⟩ : ∃ z : Array Value, z = (if n * i.size = 0 then #[] else i.zero.cells) ∧ ((n * i.size = 0 ∧ z = #[]) ∨ z = i.zero.cells) := by
    by_cases h0 : n * i.size = 0
    · exact ⟨_, rfl, .inl ⟨h0, by rw [if_pos h0]⟩⟩
    · exact ⟨_, rfl, .inr (by rw [if_neg h0])⟩
  obtain ⟨arr', hf, hr, hlen⟩ := fillEls hI i.size l _ _ _ (ElemsRep.zeros (I := I) (w := w) n i.size z i.zero.cells hz2 hzs h1) hl he
  rw [List.length_replicate] at hlen
  obtain ⟨I', g1, g2, g3⟩ := hI.slice_new hr e
  refine ⟨_, _, I', σ, .inl ?_, g1, g2, g3⟩
  have hno : ¬ (n * i.size > 2 ^ 24) := by omega
  by_cases h0 : n * i.size = 0
  · rw [if_pos h0] at hz1
    subst hz1
    simp only [Instr.buildSlice, Sem.run_bind, run_underlying hu, Result.andThen_ok, ht.sizeOf, if_neg hno, if_pos h0, Sem.run_pure, List.toList_toArray, hf]
    simp [newRow, hlen]
  · rw [if_neg h0] at hz1
    subst hz1
    simp only [Instr.buildSlice, Sem.run_bind, run_underlying hu, Result.andThen_ok, ht.sizeOf, if_neg hno, if_neg h0, Sem.run_pure, ht.zeroValue, List.toList_toArray, hf]
    simp [newRow, hlen]
end
end Go.AE
end

/-! AE, part 9: make, stores. -/
section
set_option linter.unusedVariables false
set_option linter.unusedSimpArgs false
namespace Go.AE
open Go Go.RowKit

section
variable {P : Program} {B : Nat} {w0 w w' : World} {I I' : Cells} {σ σ' : List Loc} {h : List AO}

theorem wrap_i64 {n : Int} (h0 : -9223372036854775808 ≤ n) (h1 : n ≤ 9223372036854775807) : IntKind.i64.wrap n = n := IntWalk.i64_in n ⟨h0, h1⟩

theorem rep_own_new {sz n cap b : Nat} (hn : n ≤ cap) :
    Rep I w (σ ++ [(⟨false, true, b, 0, cap, 0⟩ : Loc)]) (.own sz σ.length 0 0 n) (.slice (some ⟨b, 0, none⟩) n cap) :=
  .own _ sz _ 0 0 n _ ⟨_, _, rfl, hn⟩ ⟨false, true, b, 0, cap, 0⟩ (by simp) (Nat.le_refl _) (fun _ => .inl ⟨rfl, by simpa using hn, by simp⟩)

theorem Inv.row_new (hI : Inv B w0 I σ w h) {sz : Nat} {l : List AV} {arr : Array Value} {cap : Nat} (hsz : cap * sz ≤ arr.size) (hlen : l.length ≤ cap)
    (hc : ∀ (j : Nat) (el : AV), l[j]? = some el → el.cells.length = sz)
    (h1 : ∀ (j : Nat) (el : AV) (i : Nat) (c : AV), l[j]? = some el → el.cells[i]? = some c → (arr.getD (j * sz + i) undef).oneCell' = true)
    (hr : ∀ (j : Nat) (el : AV) (i : Nat) (c : AV), l[j]? = some el → el.cells[i]? = some c → Rep I w [] c (arr.getD (j * sz + i) undef)) (e : TypeId) :
    Inv B w0 I (σ ++ [⟨false, true, w.heap.size, 0, cap, 0⟩]) (w.alloc (.cells arr e)) (h ++ [.row e sz 0 l 0]) ∧
      Step B I σ w I (σ ++ [⟨false, true, w.heap.size, 0, cap, 0⟩]) (w.alloc (.cells arr e)) := by
  refine hI.grow (.cells arr e) (o' := .row e sz 0 l 0) (L' := ⟨false, true, w.heap.size, 0, cap, 0⟩) (fun _ => rfl) (fun he => ⟨rfl, rfl, Nat.zero_le _, hc, .inr ⟨rfl, arr, heap_new _, by simpa using hsz, hlen, ?_, ?_, ?_, ?_⟩⟩)
  · intro j el i c a b; simpa using h1 j el i c a b
  · intro j el i c a b; simpa using (hr j el i c a b).mono he (Later.nil _)
  · intro j i hj; omega
  · intro x _ hx; have := hI.imm_lt hx; simp at this

theorem gives_mkslice (hI : Inv B w0 I σ w h) {t e : TypeId} {i : TI} (hu : P.underlying t = some (.slice e)) (ht : TIok P e i)
    (h1 : ∀ x ∈ i.zero.cells.toList, x.oneCell' = true) (hzs : i.zero.cells.size = i.size) {n m : Int} (h0 : 0 ≤ n) (hnm : n ≤ m) (hm : m ≤ 9223372036854775807) (hb : (i.bytes : Int) * m ≤ 281474976710656) :
    Gives P B w0 I σ w (do pure (.value (← Instr.makeSlice t (.int .i64 n) (.int .i64 m)))) (.own i.size h.length 0 0 n.toNat)
      (h ++ [.row e i.size 0 (List.replicate n.toNat (zeroEl i.zero.cells.toList)) 0]) := by
  obtain ⟨z, hz1, hz2⟩ : ∃ z : Array Value, z = (if m.toNat * i.size = 0 then #[] else i.zero.cells) ∧ ((m.toNat * i.size = 0 ∧ z = #[]) ∨ z = i.zero.cells) := by
    by_cases h0 : m.toNat * i.size = 0
    · exact ⟨_, rfl, .inl ⟨h0, by rw [if_pos h0]⟩⟩
    · exact ⟨_, rfl, .inr (by rw [if_neg h0])⟩
  have hr := ElemsRep.zeros (I := I) (w := w) m.toNat i.size z i.zero.cells hz2 hzs h1
  have tk : ∀ (j : Nat) (el : AV), (List.replicate n.toNat (zeroEl i.zero.cells.toList))[j]? = some el → (List.replicate m.toNat (zeroEl i.zero.cells.toList))[j]? = some el := by
    intro j el hj
    rw [List.getElem?_replicate] at hj ⊢
    split at hj
    · rw [if_pos (by omega)]; exact hj
    · cases hj
  have g := hI.row_new (sz := i.size) (l := List.replicate n.toNat (zeroEl i.zero.cells.toList)) (cap := m.toNat) (Nat.le_of_eq (by rw [hr.size]; simp)) (by simp; omega)
    (fun j el hj => hr.cells j el (tk j el hj)) (fun j el i c hj hc => hr.one j el i c (tk j el hj) hc) (fun j el i c hj hc => hr.rep j el i c (tk j el hj) hc) e
  refine ⟨.slice (some ⟨w.heap.size, 0, none⟩) n.toNat m.toNat, _, I, _, .inl ?_, g.1, g.2, ?_⟩
  · have w1 : IntKind.i64.wrap n = n := wrap_i64 (by omega) (by omega)
    have w2 : IntKind.i64.wrap m = m := wrap_i64 (by omega) (by omega)
    obtain ⟨inf, q1, q2, q3, q4⟩ := ht.info
    have hb' : ¬ (281474976710656 < (inf.bytes : Int) * m) := by rw [q3]; omega
    have a1 : ¬ m < 0 := by omega
    have a2 : ¬ n < 0 := by omega
    have a3 : ¬ m < n := by omega
    by_cases hz0 : m.toNat * i.size = 0
    · rw [if_pos hz0] at hz1; subst hz1
      simp [Instr.makeSlice, run_underlying hu, asInt, asIntOf, typeInfo, q1, q2, w1, w2, hb', a1, a2, a3, Go.sizeOf, Go.zeroValue, q4, hz0, newRow]
    · rw [if_neg hz0] at hz1; subst hz1
      simp [Instr.makeSlice, run_underlying hu, asInt, asIntOf, typeInfo, q1, q2, w1, w2, hb', a1, a2, a3, Go.sizeOf, Go.zeroValue, q4, hz0, newRow]
  · rw [← hI.len]
    exact rep_own_new (by omega)

theorem gives_brow (hI : Inv B w0 I σ w h) {vars env : List AV} {t e : TypeId} {i : TI} (hu : P.underlying t = some (.slice e)) (ht : TIok P e i)
    (h1 : ∀ x ∈ i.zero.cells.toList, x.oneCell' = true) (hzs : i.zero.cells.size = i.size) (n : Nat) (hn : n * i.size ≤ 2 ^ 24)
    (l : List ((Nat × Value) × (Nat × Opd))) (hl : ∀ x ∈ l, x.1.1 = x.2.1 ∧ Rep I w σ (getO vars env x.2.2) x.1.2)
    {els : List AV} (he : evElems vars env h i.size (List.replicate n (zeroEl i.zero.cells.toList)) (l.map (·.2)) = some els) :
    Gives P B w0 I σ w (do pure (.value (← Instr.buildSlice t n (l.map (·.1)).toArray))) (.own i.size h.length 0 0 els.length) (h ++ [.row e i.size 0 els 0]) := by
  obtain ⟨z, hz1, hz2⟩ : ∃ z : Array Value, z = (if n * i.size = 0 then #[] else i.zero.cells) ∧ ((n * i.size = 0 ∧ z = #[]) ∨ z = i.zero.cells) := by
    by_cases h0 : n * i.size = 0
    · exact ⟨_, rfl, .inl ⟨h0, by rw [if_pos h0]⟩⟩
    · exact ⟨_, rfl, .inr (by rw [if_neg h0])⟩
  obtain ⟨arr', hf, hr, hlen⟩ := fillEls hI i.size l _ _ _ (ElemsRep.zeros (I := I) (w := w) n i.size z i.zero.cells hz2 hzs h1) hl he
  rw [List.length_replicate] at hlen
  have g := hI.row_new (sz := i.size) (l := els) (cap := els.length) (arr := arr') (Nat.le_of_eq (by rw [hr.size])) (Nat.le_refl _) (fun j el hj => hr.cells j el hj) (fun j el i c hj hc => hr.one j el i c hj hc) (fun j el i c hj hc => hr.rep j el i c hj hc) e
  refine ⟨.slice (some ⟨w.heap.size, 0, none⟩) els.length els.length, _, I, _, .inl ?_, g.1, g.2, ?_⟩
  · have hno : ¬ (n * i.size > 2 ^ 24) := by omega
    by_cases h0 : n * i.size = 0
    · rw [if_pos h0] at hz1
      subst hz1
      simp only [Instr.buildSlice, Sem.run_bind, run_underlying hu, Result.andThen_ok, ht.sizeOf, if_neg hno, if_pos h0, Sem.run_pure, List.toList_toArray, hf]
      simp [newRow, hlen]
    · rw [if_neg h0] at hz1
      subst hz1
      simp only [Instr.buildSlice, Sem.run_bind, run_underlying hu, Result.andThen_ok, ht.sizeOf, if_neg hno, if_neg h0, Sem.run_pure, ht.zeroValue, List.toList_toArray, hf]
      simp [newRow, hlen]
  · rw [← hI.len]
    exact rep_own_new (Nat.le_refl _)
end
end Go.AE
end

/-! AE, part 10: stores. -/
section
set_option linter.unusedVariables false
set_option linter.unusedSimpArgs false
namespace Go.AE
open Go Go.RowKit

section
variable {P : Program} {B : Nat} {w0 w w' : World} {I I' : Cells} {σ σ' : List Loc} {h : List AO}

theorem CellsRep.ones {xs : List AV} {vs : Array Value} (hc : CellsRep I w σ xs vs) : ∀ x ∈ vs.toList, x.oneCell' = true := by
  intro y hy
  obtain ⟨j, hj⟩ := List.getElem?_of_mem hy
  have hj' : j < xs.length := by
    have := (List.getElem?_eq_some_iff.1 hj).1
    simp at this; rw [← hc.size]; exact this
  have h2 := hc.one j _ (List.getElem?_eq_getElem hj')
  rwa [getD_get (by simpa using hj)] at h2

theorem heap_setCells (b o : Nat) : ∀ (vl : List Value) (k : Nat) (w : World) (arr : Array Value) (t : TypeId), w.heap[b]? = some (.cells arr t (0, 0)) →
    (w.setCells b (o + k) vl).heap[b]? = some (.cells ((vl.zipIdx k).foldl (fun (cs : Array Value) (p : Value × Nat) => cs.setIfInBounds (o + p.2) p.1) arr) t (0, 0)) ∧
    (∀ j, j ≠ b → (w.setCells b (o + k) vl).heap[j]? = w.heap[j]?) ∧ (w.setCells b (o + k) vl).heap.size = w.heap.size ∧
    (w.setCells b (o + k) vl).os = w.os ∧ (w.setCells b (o + k) vl).tape = w.tape ∧ (w.setCells b (o + k) vl).output = w.output := by
  intro vl
  induction vl with
  | nil => intro k w arr t hb; exact ⟨by simpa [World.setCells] using hb, fun j _ => rfl, rfl, rfl, rfl, rfl⟩
  | cons v vl ih =>
    intro k w arr t hb
    have hb' : (w.setCell ⟨b, o + k, none⟩ v).heap[b]? = some (.cells (arr.setIfInBounds (o + k) v) t (0, 0)) := by
      simp [World.setCell, Array.getElem?_modify, hb]
    obtain ⟨h1, h2, h3, h4, h5, h6⟩ := ih (k + 1) (w.setCell ⟨b, o + k, none⟩ v) _ t hb'
    simp only [World.setCells, List.zipIdx_cons, List.foldl_cons]
    rw [show o + k + 1 = o + (k + 1) by omega]
    refine ⟨h1, fun j hj => (h2 j hj).trans (Below.heap_setCell w _ v j hj), h3.trans (by simp [World.setCell]), h4, h5, h6⟩

theorem run_storeVar_ours {t : TypeId} {i : TI} (ht : TIok P t i) {b o : Nat} {v : Value} {arr : Array Value} {e : TypeId} (hb : w.heap[b]? = some (.cells arr e (0, 0)))
    (hs : v.cells.size = i.size) (hle : o + v.cells.size ≤ arr.size) (h1 : ∀ x ∈ v.cells.toList, x.oneCell' = true) (hB : B ≤ b) :
    ∃ w1, (storeVar t ⟨b, o, none⟩ v).run P w = .ok () w1 ∧
      w1.heap[b]? = some (.cells (v.cells.zipIdx.foldl (fun (cs : Array Value) (p : Value × Nat) => cs.setIfInBounds (o + p.2) p.1) arr) e (0, 0)) ∧
      (∀ j, j ≠ b → w1.heap[j]? = w.heap[j]?) ∧ w1.heap.size = w.heap.size ∧ Below B w w1 := by
  have cell : ∀ j, j < v.cells.toList.length → (w.cell? ⟨b, o + j, none⟩).isSome = true := by
    intro j hj
    have : o + j < arr.size := by simp at hj; omega
    simp [World.cell?, hb, this]
  have hst := run_storeCells_cells (P := P) b o v.cells.toList 0 w (by simpa using cell) (fun j hj => by simp [World.frozen?, hb]) h1
  obtain ⟨g1, g2, g3, g4, g5, g6⟩ := heap_setCells b o v.cells.toList 0 w arr e hb
  refine ⟨_, ?_, ?_, g2, g3, g4, g5, g6, Nat.le_of_eq g3.symm, fun j hj => g2 j (by omega)⟩
  · simp only [storeVar, Sem.run_bind, ht.sizeOf, Result.andThen_ok]
    rw [if_neg (by simp [hs])]
    simpa using hst
  · rw [← Array.foldl_toList, Array.toList_zipIdx]; exact g1

theorem ext_ours {b : Nat} (hI : ∀ x, ¬ I b x) (w1 : World) (hoth : ∀ j, j ≠ b → w1.heap[j]? = w.heap[j]?) : Ext I w I w1 :=
  ⟨fun _ _ hx => hx, fun b' x hx => by
    have hne : b' ≠ b := by rintro rfl; exact hI x hx
    exact World.cell?_of_block (a := ⟨b', x, none⟩) (hoth b' hne)⟩

theorem gives_store_box (hI : Inv B w0 I σ w h) {t : TypeId} {i : TI} (ht : TIok P t i) {id off : Nat} {L : Loc} (hL : σ[id]? = some L) {cs xs : List AV}
    {bt : TypeId} (ho : h[id]? = some (.box bt cs)) {x : AV} {vx : Value} (hx : Rep I w σ x vx) (hcl : x.cl = some xs) (hlen : xs.length = i.size) (hle : off + i.size ≤ cs.length) :
    Gives P B w0 I σ w (do Instr.storeAt t (.pointer (some ⟨L.b, L.o + off, none⟩)) vx; pure .skip) (.v undef) (h.set id (.box bt (Q112 cs off xs))) := by
  obtain ⟨hf, hh, hR⟩ := hI.obj id _ L ho hL
  obtain ⟨arr, hb, hs, h1, hr⟩ := hR.lies
  have hcs := hx.cells hcl
  have hBb := hI.mine id L hL hh
  have one := hcs.ones
  obtain ⟨w1, g1, g2, g3, g4, g5⟩ := run_storeVar_ours (P := P) (w := w) (B := B) ht (o := L.o + off) hb (by rw [hcs.size]; exact hlen) (by rw [hcs.size, hR.o]; omega) one hBb.1
  have he : Ext I w I w1 := ext_ours hR.apart w1 g3
  have hput := (CellsRep.put (I := I) (w := w) (σ := σ) ⟨hs, h1, hr⟩ hcs (L.o + off)).mono he (Later.refl _)
  rw [hR.o, Nat.zero_add] at g2 hput
  have hset : σ.set id L = σ := by
    apply List.ext_getElem?
    intro j
    by_cases e : id = j
    · subst e; rw [List.getElem?_set_self (List.getElem?_eq_some_iff.1 hL).1, hL]
    · rw [List.getElem?_set_ne e]
  have hinv := hI.upd hL g5 he (fun b x hx => by obtain ⟨v, hv⟩ := hI.imm b x hx; exact ⟨v, by rw [he.cell b x hx]; exact hv⟩)
    (fun j Lj hj hLj hhj => ⟨g3 _ (hI.dist j id Lj L hLj hL hj hhj hh), fun x hx => hx⟩) (.inl rfl) (o' := .box bt (Q112 cs off xs))
    (by rw [hset]; exact ⟨hf, hh, hR.o, ⟨_, g2, hput.size, hput.one, hput.rep⟩, hR.apart⟩)
    (fun _ => ⟨hBb.1, by rw [g4]; exact hBb.2, fun j Lj hj hLj hhj => hI.dist j id Lj L hLj hL hj hhj hh⟩)
  rw [hset] at hinv
  refine ⟨undef, w1, I, σ, .inr ⟨?_, rfl⟩, hinv, ⟨he, Later.refl _, fun b x hx => .inl hx, Nat.le_of_eq g4.symm⟩, .v _ _⟩
  simp only [Instr.storeAt, Instr.sureAddr, Sem.run_bind, Sem.run_pure, Result.andThen_ok, g1]

theorem putEl_cells {el : AV} {off : Nat} {ys : List AV} (hle : off + ys.length ≤ el.cells.length) (hc : ys.all AV.isCell = true) : (putEl el off ys).cells = Q112 el.cells off ys := by
  cases el with
  | agg cs => rfl
  | _ =>
    simp only [AV.cells, List.length_singleton] at hle
    match ys, hc with
    | [], _ => rfl
    | [y], hc =>
      obtain rfl : off = 0 := by simp at hle; omega
      cases y <;> first | rfl | (simp [AV.isCell] at hc)
    | _ :: _ :: _, _ => simp at hle; omega

theorem putAt_get (cs : List AV) (off : Nat) (ys : List AV) (j : Nat) (c : AV) (hle : off + ys.length ≤ cs.length) (hj : (Q112 cs off ys)[j]? = some c) :
    (off ≤ j ∧ ys[j - off]? = some c) ∨ (¬ (off ≤ j ∧ j < off + ys.length) ∧ cs[j]? = some c) := by
  induction ys generalizing cs off with
  | nil => exact .inr ⟨by simp, hj⟩
  | cons y ys ih =>
    simp only [List.length_cons] at hle
    rcases ih (cs.set off y) (off + 1) (by simp; omega) hj with ⟨h1, h2⟩ | ⟨h1, h2⟩
    · refine .inl ⟨by omega, ?_⟩
      rw [show j - off = (j - (off + 1)) + 1 by omega]; simpa using h2
    · by_cases e : off = j
      · subst e
        rw [List.getElem?_set_self (by omega)] at h2
        exact .inl ⟨Nat.le_refl _, by simpa using h2⟩
      · rw [List.getElem?_set_ne e] at h2
        exact .inr ⟨by simp only [List.length_cons]; omega, h2⟩

theorem gives_store_row (hI : Inv B w0 I σ w h) {t : TypeId} {i : TI} (ht : TIok P t i) {sz id ver idx off : Nat} {L : Loc} (hL : σ[id]? = some L) {l : List AV} {k : Nat}
    {rt : TypeId} (ho : h[id]? = some (.row rt sz ver l k)) {x : AV} {vx : Value} (hx : Rep I w σ x vx) {y el : AV} {ys : List AV} (hsn : x.snap1 h = some y) (hcl : y.cl = some ys) (hel : l[idx]? = some el)
    (hk : k ≤ idx) (hlen : ys.length = i.size) (hle : off + i.size ≤ el.cells.length) (hcell : ys.all AV.isCell = true) :
    Gives P B w0 I σ w (do Instr.storeAt t (.pointer (some ⟨L.b, L.o + (idx * sz + off), none⟩)) vx; pure .skip) (.v undef) (h.set id (.row rt sz ver (l.set idx (putEl el off ys)) k)) := by
  have hne : l ≠ [] := by rintro rfl; simp at hel
  obtain ⟨hf, hver, hR⟩ := hI.obj id _ L ho hL
  rcases hR.lies with ⟨h0, _⟩ | ⟨hh, arr, hb, hasz, hcap, h1, hr, himm, hno⟩
  · exact absurd h0 hne
  have hidx := (List.getElem?_eq_some_iff.1 hel).1
  have helc := hR.hsz idx el hel
  have hcs := (hx.snap1 hI hsn).cells hcl
  have hBb := hI.mine id L hL hh
  have mul : ∀ a b, a < b → a * sz + sz ≤ b * sz := fun a b hab => by
    have := Nat.mul_le_mul_right sz (show a + 1 ≤ b from hab)
    rwa [Nat.add_mul, Nat.one_mul] at this
  have one := hcs.ones
  have hcsz := hcs.size
  have m1 := mul idx L.cap (by omega)
  obtain ⟨w1, g1, g2, g3, g4, g5⟩ := run_storeVar_ours (P := P) (w := w) (B := B) ht (o := L.o + (idx * sz + off)) hb (by rw [hcsz]; exact hlen) (by omega) one hBb.1
  have hko : k * sz ≤ idx * sz := Nat.mul_le_mul_right _ hk
  have he : Ext I w I w1 := by
    refine ⟨fun _ _ hx => hx, fun b' x hx => ?_⟩
    by_cases hne : b' = L.b
    · subst hne
      have hlt : x < L.o + k * sz := by
        rcases Nat.lt_or_ge x (L.o + k * sz) with h2 | h2
        · exact h2
        · exact absurd hx (hno x h2)
      have f2 := (foldl_put vx.cells (L.o + (idx * sz + off)) arr (by omega)).2 x
      have f1 := (foldl_put vx.cells (L.o + (idx * sz + off)) arr (by omega)).1
      rw [if_neg (by omega)] at f2
      unfold World.cell?
      simp only [g2, hb]
      rw [Array.getD_eq_getD_getElem?, Array.getD_eq_getD_getElem?] at f2
      have : x < arr.size := by have := mul k L.cap; rcases Nat.lt_or_ge k L.cap with h3 | h3; · have := mul k L.cap h3; omega
                                · omega
      simp only [Option.isSome_none, Bool.false_eq_true, if_false]
      rw [Array.getElem?_eq_getElem (by rw [f1]; exact this), Array.getElem?_eq_getElem this] at f2 ⊢
      simpa using f2
    · exact World.cell?_of_block (a := ⟨b', x, none⟩) (g3 b' hne)
  have hset : σ.set id L = σ := by
    apply List.ext_getElem?
    intro j
    by_cases e : id = j
    · subst e; rw [List.getElem?_set_self (List.getElem?_eq_some_iff.1 hL).1, hL]
    · rw [List.getElem?_set_ne e]
  obtain ⟨f1, f2⟩ := foldl_put vx.cells (L.o + (idx * sz + off)) arr (by omega)
  have get : ∀ (a : Nat) (b : AV), (l.set idx (putEl el off ys))[a]? = some b → (a = idx ∧ b = putEl el off ys) ∨ (a ≠ idx ∧ l[a]? = some b) := by
    intro a b hb
    by_cases e : idx = a
    · subst e; rw [List.getElem?_set_self hidx] at hb; cases hb; exact .inl ⟨rfl, rfl⟩
    · rw [List.getElem?_set_ne e] at hb; exact .inr ⟨fun e' => e e'.symm, hb⟩
  have pc := putEl_cells (el := el) (off := off) (ys := ys) (by omega) hcell
  have val : ∀ (a : Nat) (b : AV) (q : Nat) (c : AV), (l.set idx (putEl el off ys))[a]? = some b → b.cells[q]? = some c →
      (∃ q', ys[q']? = some c ∧ (vx.cells.zipIdx.foldl (fun (cs : Array Value) (p : Value × Nat) => cs.setIfInBounds (L.o + (idx * sz + off) + p.2) p.1) arr).getD (L.o + (a * sz + q)) undef = vx.cells.getD q' undef) ∨
      (∃ b', l[a]? = some b' ∧ b'.cells[q]? = some c ∧ (vx.cells.zipIdx.foldl (fun (cs : Array Value) (p : Value × Nat) => cs.setIfInBounds (L.o + (idx * sz + off) + p.2) p.1) arr).getD (L.o + (a * sz + q)) undef = arr.getD (L.o + (a * sz + q)) undef) := by
    intro a b q c hb hc
    rcases get a b hb with ⟨rfl, rfl⟩ | ⟨hna, hb⟩
    · rw [pc] at hc
      rcases putAt_get el.cells off ys q c (by omega) hc with ⟨p1, p2⟩ | ⟨p1, p2⟩
      · refine .inl ⟨q - off, p2, ?_⟩
        have := (List.getElem?_eq_some_iff.1 p2).1
        rw [f2, if_pos (by omega)]
        congr 1; omega
      · refine .inr ⟨el, hel, p2, ?_⟩
        rw [f2, if_neg (by omega)]
    · refine .inr ⟨b, hb, hc, ?_⟩
      have hq := (List.getElem?_eq_some_iff.1 hc).1
      rw [hR.hsz a b hb] at hq
      rw [f2, if_neg]
      rintro ⟨p, q⟩
      rcases Nat.lt_or_gt_of_ne hna with hlt | hlt
      · have := mul a idx hlt; omega
      · have := mul idx a hlt; omega
  have hinv := hI.upd hL g5 he (fun b x hx => by obtain ⟨v, hv⟩ := hI.imm b x hx; exact ⟨v, by rw [he.cell b x hx]; exact hv⟩)
    (fun j Lj hj hLj hhj => ⟨g3 _ (hI.dist j id Lj L hLj hL hj hhj hh), fun x hx => hx⟩) (.inl rfl) (o' := .row rt sz ver (l.set idx (putEl el off ys)) k)
    (by
      rw [hset]
      refine ⟨hf, hver, by simpa using hR.hk, ?_, .inr ⟨hh, _, g2, by rw [f1]; exact hasz, by simpa using hcap, ?_, ?_, himm, hno⟩⟩
      · intro a b hb
        rcases get a b hb with ⟨_, rfl⟩ | ⟨_, hb⟩
        · rw [pc, putAt_length]; exact helc
        · exact hR.hsz a b hb
      · intro a b q c hb hc
        rcases val a b q c hb hc with ⟨q', v1, v2⟩ | ⟨b', v1, v2, v3⟩
        · rw [v2]; exact hcs.one q' c v1
        · rw [v3]; exact h1 a b' q c v1 v2
      · intro a b q c hb hc
        rcases val a b q c hb hc with ⟨q', v1, v2⟩ | ⟨b', v1, v2, v3⟩
        · rw [v2]; exact (hcs.rep q' c v1).mono he (Later.nil _)
        · rw [v3]; exact (hr a b' q c v1 v2).mono he (Later.nil _))
    (fun _ => ⟨hBb.1, by rw [g4]; exact hBb.2, fun j Lj hj hLj hhj => hI.dist j id Lj L hLj hL hj hhj hh⟩)
  rw [hset] at hinv
  refine ⟨undef, w1, I, σ, .inr ⟨?_, rfl⟩, hinv, ⟨he, Later.refl _, fun b x hx => .inl hx, Nat.le_of_eq g4.symm⟩, .v _ _⟩
  simp [Instr.storeAt, Instr.sureAddr, g1]
end
end Go.AE
end

/-! AE, part 11: append. -/
section
set_option linter.unusedVariables false
set_option linter.unusedSimpArgs false
namespace Go.AE
open Go Go.RowKit

section
variable {P : Program} {B : Nat} {w0 w w' : World} {I I' : Cells} {σ σ' : List Loc} {h : List AO}

theorem mul_succ_le {a b sz : Nat} (h : a < b) : a * sz + sz ≤ b * sz := by
  have := Nat.mul_le_mul_right sz (show a + 1 ≤ b from h)
  rwa [Nat.add_mul, Nat.one_mul] at this

theorem elems_list {sz : Nat} {l : List AV} (b o : Nat) (g : Nat → Nat → Value) (hsz : ∀ (j : Nat) (el : AV), l[j]? = some el → el.cells.length = sz)
    (hc : ∀ (j : Nat) (el : AV) (i : Nat) (c : AV), l[j]? = some el → el.cells[i]? = some c → w.cell? ⟨b, o + (j * sz + i), none⟩ = some (g j i))
    (h1 : ∀ (j : Nat) (el : AV) (i : Nat) (c : AV), l[j]? = some el → el.cells[i]? = some c → (g j i).oneCell' = true)
    (hr : ∀ (j : Nat) (el : AV) (i : Nat) (c : AV), l[j]? = some el → el.cells[i]? = some c → Rep I w [] c (g j i)) :
    ∃ news : List Value, ElemsRep I w sz l news.toArray ∧ ∀ (j : Nat) (u : Value), news[j]? = some u → w.cell? ⟨b, o + j, none⟩ = some u := by
  refine ⟨(List.range (l.length * sz)).map fun x => g (x / sz) (x % sz), ⟨by simp, hsz, ?_, ?_⟩, ?_⟩
  all_goals try (
    intro j el i c hj hi
    have hj' := (List.getElem?_eq_some_iff.1 hj).1
    have hi' := (List.getElem?_eq_some_iff.1 hi).1
    rw [hsz j el hj] at hi'
    have hlt : j * sz + i < l.length * sz := by have := mul_succ_le (sz := sz) hj'; omega
    have hd : (j * sz + i) / sz = j := by rw [Nat.mul_comm, Nat.mul_add_div (by omega), Nat.div_eq_of_lt hi']; omega
    have hm : (j * sz + i) % sz = i := by rw [Nat.mul_comm, Nat.mul_add_mod]; exact Nat.mod_eq_of_lt hi'
    have : ((List.range (l.length * sz)).map fun x => g (x / sz) (x % sz)).toArray.getD (j * sz + i) undef = g j i := by
      simp [Array.getD, hlt, hd, hm]
    rw [this]
    first | exact h1 j el i c hj hi | exact hr j el i c hj hi)
  intro x u hu
  have hx := (List.getElem?_eq_some_iff.1 hu).1
  simp at hx
  simp [hx] at hu
  subst hu
  have hpos : 0 < sz := by
    rcases Nat.eq_zero_or_pos sz with h0 | h0
    · subst h0; simp at hx
    · exact h0
  have hj : x / sz < l.length := Nat.div_lt_of_lt_mul (by rw [Nat.mul_comm]; exact hx)
  have hi : x % sz < sz := Nat.mod_lt _ hpos
  have hel : l[x / sz]? = some l[x / sz] := List.getElem?_eq_getElem hj
  have hcl : (l[x / sz]).cells[x % sz]? = some _ := List.getElem?_eq_getElem (by rw [hsz _ _ hel]; exact hi)
  have := hc _ _ _ _ hel hcl
  rwa [show x / sz * sz + x % sz = x by rw [Nat.mul_comm]; exact Nat.div_add_mod x sz] at this

theorem Rep.elems (hI : Inv B w0 I σ w h) {x : AV} {vx : Value} (hx : Rep I w σ x vx) {sz : Nat} {ys : List AV} (he : elemsOf h sz x = some ys) :
    ∃ a cap, vx = .slice a ys.length cap ∧ ys.length ≤ cap ∧ (a = none → ys = []) ∧
      ∃ news : List Value, ElemsRep I w sz ys news.toArray ∧ (∀ ad, a = some ad → ∀ (j : Nat) (u : Value), news[j]? = some u → w.cell? (ad.add j) = some u) := by
  have none_ : ElemsRep I w sz [] (([] : List Value).toArray) := ⟨by simp, fun j el e => by simp at e, fun j el i c e => by simp at e, fun j el i c e => by simp at e⟩
  cases hx with
  | v x =>
    simp only [elemsOf] at he
    split at he <;> first | (cases he; done) | skip
    all_goals (rename_i heq; first | (cases heq; cases he; exact ⟨none, 0, rfl, by simp, fun _ => rfl, [], none_, fun ad e => by cases e⟩) | (simp at heq))
  | slc _ sz' ex nn l a cap b o g ha hn hnil hcap hex hsz hc hi h1 hr =>
    simp only [elemsOf] at he
    split at he
    · rename_i e; cases he; subst e
      obtain ⟨news, n1, n2⟩ := elems_list (I := I) (w := w) b o g hsz hc h1 hr
      refine ⟨a, cap, rfl, hcap, fun e => ?_, news, n1, fun ad e j u hu => ?_⟩
      · by_cases hl : ys = []
        · exact hl
        · rw [ha hl] at e; cases e
      · have hl : ys ≠ [] := by
          rintro rfl
          have := n1.size; simp at this
          subst this; simp at hu
        rw [ha hl] at e; cases e
        rw [Addr.add_lit]; exact n2 j u hu
    · cases he
  | own _ sz' id ver off n x h1x L hL hv hx =>
    simp only [elemsOf] at he
    split at he
    · rename_i e; subst e
      obtain ⟨⟨l, k⟩, hra, e2⟩ := Option.map_eq_some_iff.1 he
      simp only at e2
      subst e2
      obtain ⟨hh, hm⟩ := rowAt_eq hra
      obtain ⟨hf, hver, hR⟩ := hI.obj id _ L hh hL
      have hlen := take_drop_len (l := l) (off := off) (n := n) hm
      rcases hx hver.symm with ⟨hhas, hcap, rfl⟩ | ⟨rfl, a, rfl⟩
      · rw [hlen]
        by_cases hne : l = []
        · subst hne
          simp at hm
          have hn0 : n = 0 := by omega
          subst hn0
          exact ⟨_, _, rfl, by omega, (fun e => by cases e), [], by simpa using none_, fun ad e j u hu => by simp at hu⟩
        · obtain ⟨_, _, _, _, hsz, g, hc, h1, hr⟩ := hI.row_cells hh hL hne
          obtain ⟨news, n1, n2⟩ := elems_list (I := I) (w := w) (sz := sz') (l := (l.drop off).take n) L.b (L.o + off * sz') (fun j i => g (off + j) i)
            (fun j el e => hsz _ el (drop_take_get l off n j el e).1)
            (fun j el i c e f => by
              have := hc _ el i c (drop_take_get l off n j el e).1 f
              rwa [show L.o + off * sz' + (j * sz' + i) = L.o + ((off + j) * sz' + i) by rw [Nat.add_mul]; omega])
            (fun j el i c e f => h1 _ el i c (drop_take_get l off n j el e).1 f) (fun j el i c e f => hr _ el i c (drop_take_get l off n j el e).1 f)
          exact ⟨_, _, rfl, by omega, (fun e => by cases e), news, n1, fun ad e j u hu => by cases e; rw [Addr.add_lit]; exact n2 j u hu⟩
      · exact ⟨a, 0, by simp, by simp, fun _ => by simp, [], by simpa using none_, fun ad e j u hu => by simp at hu⟩
    · cases he
  | _ => simp [elemsOf] at he

structure Src (P : Program) (w : World) (t t' ty e : TypeId) (i : TI) (m : Nat) (vx : Value) (news : List Value) : Prop where
  zero : m = 0 → ∀ a n cap, n ≤ cap → (Builtin.append_ #[t, t'] ty #[.slice a n cap, vx]).run P w = .ok (.slice a n cap) w
  nil : 0 < m → m ≤ 140737488355328 → m * i.bytes ≤ 140737488355328 → (Builtin.append_ #[t, t'] ty #[.slice none 0 0, vx]).run P w =
    .ok (.slice (some ⟨w.heap.size, 0, none⟩) m (grownCap w m 0 e)) (w.drew.alloc (.cells (news.toArray ++ Builtin.zeroCells i.zero.cells (grownCap w m 0 e - m)) e))
  grow : 0 < m → ∀ (bd : Addr) (n cap : Nat) (olds : List Value), olds.length = n * i.size → (∀ (j : Nat) (u : Value), olds[j]? = some u → w.cell? (bd.add j) = some u) → cap < n + m → n + m ≤ 140737488355328 → (n + m) * i.bytes ≤ 140737488355328 →
    (Builtin.append_ #[t, t'] ty #[.slice (some bd) n cap, vx]).run P w =
      .ok (.slice (some ⟨w.heap.size, 0, none⟩) (n + m) (grownCap w (n + m) cap e)) (w.drew.alloc (.cells (olds.toArray ++ news.toArray ++ Builtin.zeroCells i.zero.cells (grownCap w (n + m) cap e - (n + m))) e))
  room : 0 < m → ∀ (b off n cap : Nat), n + m ≤ cap → (∀ u ∈ news, u.oneCell' = true) → (∀ j, j < news.length → (w.cell? ⟨b, off + n * i.size + j, none⟩).isSome = true) → (∀ j, j < news.length → w.frozen? ⟨b, off + n * i.size + j, none⟩ = false) →
    (Builtin.append_ #[t, t'] ty #[.slice (some ⟨b, off, none⟩) n cap, vx]).run P w = .ok (.slice (some ⟨b, off, none⟩) (n + m) cap) (w.setCells b (off + n * i.size) news)

theorem run_append_zero {t ty e : TypeId} {i : TI} (hu : P.underlying t = some (.slice e)) (ht : TIok P e i) (a : Option Addr) (n cap : Nat) (hle : n ≤ cap) (a' : Option Addr) (c' : Nat) :
    (Builtin.append_ #[t, t] ty #[.slice a n cap, .slice a' 0 c']).run P w = .ok (.slice a n cap) w := by
  obtain ⟨inf, q1, q2, q3, q4⟩ := ht.info
  cases a <;> cases a' <;>
  simp [Builtin.append_, run_underlying hu, Go.sizeOf, typeInfo, q1, Builtin.lenOf, hle, Builtin.firstCells, loadCells, loadCellsFrom, storeCells]

theorem Src.slice {t ty e : TypeId} {i : TI} (hu : P.underlying t = some (.slice e)) (ht : TIok P e i) {m cx : Nat} {ax : Option Addr} {news : List Value} (hns : news.length = m * i.size) (haxn : 0 < m → ax ≠ none)
    (hnews : ∀ ad, ax = some ad → ∀ (j : Nat) (u : Value), news[j]? = some u → w.cell? (ad.add j) = some u) : Src P w t t ty e i m (.slice ax m cx) news := by
  obtain ⟨inf, q1, q2, q3, q4⟩ := ht.info
  have some_ : 0 < m → ∃ ad, ax = some ad := fun h => by
    cases ax with
    | none => exact absurd rfl (haxn h)
    | some ad => exact ⟨ad, rfl⟩
  refine ⟨fun h0 a n cap hle => ?_, fun hpos f1 f2 => ?_, fun hpos bd n cap olds ho hc hg f1 f2 => ?_, fun hpos b off n cap hr h1 hc hf => ?_⟩
  · subst h0; exact run_append_zero hu ht a n cap hle ax cx
  · obtain ⟨ad, rfl⟩ := some_ hpos
    exact run_append_nil (P := P) w t ty e inf i.zero hu q1 q4 ad m cx news (by rw [q2]; exact hns) (hnews ad rfl) hpos (by omega) (by rw [q3]; omega)
  · obtain ⟨ad, rfl⟩ := some_ hpos
    exact run_append_grow (P := P) w t ty e inf i.zero hu q1 q4 bd n cap olds (by rw [q2]; exact ho) hc ad m cx news (by rw [q2]; exact hns) (hnews ad rfl) hg (by omega) (growslice_fits hg (by rw [q3]; exact f2))
  · obtain ⟨ad, rfl⟩ := some_ hpos
    rw [← q2] at hc hf ⊢
    exact run_append_room_cells (P := P) w t ty e inf hu q1 b off n cap ad m cx news (by rw [q2]; exact hns) (hnews ad rfl) h1 hr hc hf
def strCells (s : ByteArray) : List Value := s.data.toList.map fun b => Value.int .u8 b.toNat
theorem strCells_len (s : ByteArray) : (strCells s).length = s.size := by
  rw [strCells, List.length_map, Array.length_toList]; rfl
theorem run_firstStr (size : Nat) (s : ByteArray) : (Builtin.firstCells size s.size (.string s)).run P w = .ok (strCells s).toArray w := by
  simp [Builtin.firstCells, strCells]
  apply Array.ext'
  simp
theorem Src.string {t u ty e : TypeId} {i : TI} (hu : P.underlying t = some (.slice e)) (hs : P.underlying u = some .string) (ht : TIok P e i) (h1 : i.size = 1) (s : ByteArray) : Src P w t u ty e i s.size (.string s) (strCells s) := by
  obtain ⟨inf, q1, q2, q3, q4⟩ := ht.info
  have hl := strCells_len s
  refine ⟨fun h0 a n cap hle => ?_, fun hpos f1 f2 => ?_, fun hpos bd n cap olds ho hc hg f1 f2 => ?_, fun hpos b off n cap hr h1' hc hf => ?_⟩
  · have hf := run_firstStr (P := P) (w := w) 1 s
    have hn : strCells s = [] := List.eq_nil_of_length_eq_zero (by rw [hl]; exact h0)
    rw [h0, hn] at hf
    cases a <;> simp [Builtin.append_, run_underlying hu, run_underlying hs, Go.sizeOf, typeInfo, q1, q2, h1, Builtin.lenOf, h0, hle, hf, storeCells]
  · have hne : s.size ≠ 0 := by omega
    have f3 : ¬ (9223372036854775807 < (s.size : Int)) := by omega
    have f4 : ¬ (281474976710656 < Builtin.nextslicecap s.size 0 * inf.bytes) := by rw [nextslicecap_zero hpos, q3]; omega
    have hf := run_firstStr (P := P) (w := w.drew) inf.size s
    simp [Builtin.append_, run_underlying hu, run_underlying hs, Go.sizeOf, typeInfo, Go.zeroValue, q1, q4, Builtin.lenOf, hne, f3, f4, Question.forced, run_firstCells_none, hf, newRow, grownCap]
  · have hn : ¬ (n + s.size ≤ cap) := by omega
    have f3 : ¬ (9223372036854775807 < ((n : Int) + (s.size : Int))) := by omega
    have f4 : ¬ (281474976710656 < Builtin.nextslicecap (n + s.size) cap * inf.bytes) := by
      have := growslice_fits (bytes := inf.bytes) hg (by rw [q3]; exact f2)
      omega
    have hf := run_firstStr (P := P) (w := w.drew) inf.size s
    have hfo := run_firstCells_some (P := P) w.drew inf.size n bd n cap olds (by rw [q2]; exact ho) (by simpa using hc)
    simp [Builtin.append_, run_underlying hu, run_underlying hs, Go.sizeOf, typeInfo, Go.zeroValue, q1, q4, Builtin.lenOf, hn, f3, f4, Question.forced, hf, hfo, newRow, grownCap]
    congr 2
    apply Array.ext'
    simp [List.append_assoc]
  · have hf' := run_firstStr (P := P) (w := w) i.size s
    have hst := run_storeCells_cells (P := P) b (off + n * i.size) (strCells s) 0 w (by simpa using hc) (by simpa using hf) h1'
    simp only [Nat.add_zero] at hst
    simp [Builtin.append_, run_underlying hu, run_underlying hs, Go.sizeOf, typeInfo, q1, q2, Builtin.lenOf, hr, hf', Addr.add_lit, hst]
theorem elemsRep_str (s : ByteArray) : ElemsRep I w 1 (bytesL s) (strCells s).toArray := by
  have hl := strCells_len s
  have hlb : (bytesL s).length = s.size := by rw [bytesL, List.length_map, Array.length_toList]; rfl
  have get : ∀ (j : Nat) (el : AV) (i : Nat) (c : AV), (bytesL s)[j]? = some el → el.cells[i]? = some c → i = 0 ∧ ∃ u : Value, (strCells s)[j]? = some u ∧ c = .v u ∧ u.oneCell' = true := by
    intro j el i c hj hi
    simp only [bytesL, List.getElem?_map, Option.map_eq_some_iff] at hj
    obtain ⟨b, hb, rfl⟩ := hj
    cases i with
    | zero =>
      simp [AV.cells] at hi
      exact ⟨rfl, .int .u8 b.toNat, by simp [strCells, hb], hi.symm, rfl⟩
    | succ i => simp [AV.cells] at hi
  refine ⟨by simp [hl, hlb], fun j el hj => ?_, fun j el i c hj hi => ?_, fun j el i c hj hi => ?_⟩
  · simp only [bytesL, List.getElem?_map, Option.map_eq_some_iff] at hj
    obtain ⟨b, hb, rfl⟩ := hj
    rfl
  · obtain ⟨rfl, u, hu, rfl, h1⟩ := get j el i c hj hi
    have hlt := (List.getElem?_eq_some_iff.1 hu).1
    have := (List.getElem?_eq_some_iff.1 hu).2
    simp [Array.getD, hlt, this, h1]
  · obtain ⟨rfl, u, hu, rfl, h1⟩ := get j el i c hj hi
    have hlt := (List.getElem?_eq_some_iff.1 hu).1
    have := (List.getElem?_eq_some_iff.1 hu).2
    simpa [Array.getD, hlt, this] using Rep.v [] u

theorem Inv.drew (hI : Inv B w0 I σ w h) : Inv B w0 I σ w.drew h ∧ Step B I σ w I σ w.drew := by
  have he : Ext I w I w.drew := ⟨fun _ _ hx => hx, fun _ _ _ => rfl⟩
  exact ⟨hI.same ((Below.refl B w).drew) he hI.imm (fun j Lj _ _ => ⟨rfl, fun x hx => hx⟩), he, Later.refl _, fun _ _ hx => .inl hx, Nat.le_refl _⟩

theorem getD_left {a b : Array Value} {x : Nat} (hx : x < a.size) : (a ++ b).getD x undef = a.getD x undef := by
  rw [Array.getD_eq_getD_getElem?, Array.getD_eq_getD_getElem?, Array.getElem?_append_left hx]
theorem getD_right {a b : Array Value} {x : Nat} (hx : a.size ≤ x) : (a ++ b).getD x undef = b.getD (x - a.size) undef := by
  rw [Array.getD_eq_getD_getElem?, Array.getD_eq_getD_getElem?, Array.getElem?_append_right hx]

theorem ElemsRep.two {sz : Nat} {l1 l2 : List AV} {a1 a2 : Array Value} (h1 : ElemsRep I w sz l1 a1) (h2 : ElemsRep I w sz l2 a2) (rest : Array Value) :
    (∀ (j : Nat) (el : AV), (l1 ++ l2)[j]? = some el → el.cells.length = sz) ∧
    (∀ (j : Nat) (el : AV) (i : Nat) (c : AV), (l1 ++ l2)[j]? = some el → el.cells[i]? = some c → ((a1 ++ a2 ++ rest).getD (j * sz + i) undef).oneCell' = true) ∧
    (∀ (j : Nat) (el : AV) (i : Nat) (c : AV), (l1 ++ l2)[j]? = some el → el.cells[i]? = some c → Rep I w [] c ((a1 ++ a2 ++ rest).getD (j * sz + i) undef)) := by
  have get : ∀ (j : Nat) (el : AV), (l1 ++ l2)[j]? = some el → (j < l1.length ∧ l1[j]? = some el) ∨ (l1.length ≤ j ∧ l2[j - l1.length]? = some el) := by
    intro j el hj
    by_cases hlt : j < l1.length
    · rw [List.getElem?_append_left hlt] at hj; exact .inl ⟨hlt, hj⟩
    · rw [List.getElem?_append_right (by omega)] at hj; exact .inr ⟨by omega, hj⟩
  have val : ∀ (j : Nat) (el : AV) (i : Nat) (c : AV), (l1 ++ l2)[j]? = some el → el.cells[i]? = some c →
      (l1[j]? = some el ∧ (a1 ++ a2 ++ rest).getD (j * sz + i) undef = a1.getD (j * sz + i) undef) ∨
      (l2[j - l1.length]? = some el ∧ (a1 ++ a2 ++ rest).getD (j * sz + i) undef = a2.getD ((j - l1.length) * sz + i) undef) := by
    intro j el i c hj hc
    have hi := (List.getElem?_eq_some_iff.1 hc).1
    have s1 := h1.size
    have s2 := h2.size
    rcases get j el hj with ⟨hlt, hj⟩ | ⟨hge, hj⟩
    · rw [h1.cells j el hj] at hi
      have := mul_succ_le (sz := sz) hlt
      refine .inl ⟨hj, ?_⟩
      rw [Array.append_assoc, getD_left (by omega)]
    · have hj' := (List.getElem?_eq_some_iff.1 hj).1
      rw [h2.cells _ el hj] at hi
      have m1 := mul_succ_le (sz := sz) hj'
      have m2 : j * sz = l1.length * sz + (j - l1.length) * sz := by rw [← Nat.add_mul]; congr 1; omega
      refine .inr ⟨hj, ?_⟩
      rw [Array.append_assoc, getD_right (by omega), getD_left (by omega)]
      congr 1; omega
  refine ⟨fun j el hj => ?_, fun j el i c hj hc => ?_, fun j el i c hj hc => ?_⟩
  · rcases get j el hj with ⟨_, hj⟩ | ⟨_, hj⟩
    · exact h1.cells j el hj
    · exact h2.cells _ el hj
  · rcases val j el i c hj hc with ⟨h3, h4⟩ | ⟨h3, h4⟩
    · rw [h4]; exact h1.one j el i c h3 hc
    · rw [h4]; exact h2.one _ el i c h3 hc
  · rcases val j el i c hj hc with ⟨h3, h4⟩ | ⟨h3, h4⟩
    · rw [h4]; exact h1.rep j el i c h3 hc
    · rw [h4]; exact h2.rep _ el i c h3 hc

theorem ElemsRep.mono {sz : Nat} {l : List AV} {arr : Array Value} (hr : ElemsRep I w sz l arr) (he : Ext I w I' w') : ElemsRep I' w' sz l arr :=
  ⟨hr.size, hr.cells, hr.one, fun j el i c a b => (hr.rep j el i c a b).mono he (Later.nil _)⟩
theorem ElemsRep.nil (sz : Nat) : ElemsRep I w sz [] #[] := ⟨by simp, fun j el e => by simp at e, fun j el i c e => by simp at e, fun j el i c e => by simp at e⟩

theorem ElemsRep.ones {sz : Nat} {l : List AV} {news : List Value} (hr : ElemsRep I w sz l news.toArray) : ∀ u ∈ news, u.oneCell' = true := by
  intro u hu
  obtain ⟨x, hx⟩ := List.getElem?_of_mem hu
  have hlt := (List.getElem?_eq_some_iff.1 hx).1
  have hs := hr.size
  simp at hs
  have hpos : 0 < sz := by
    rcases Nat.eq_zero_or_pos sz with h0 | h0
    · subst h0; simp at hs; subst hs; simp at hlt
    · exact h0
  have hj : x / sz < l.length := Nat.div_lt_of_lt_mul (by rw [Nat.mul_comm]; omega)
  have hel : l[x / sz]? = some l[x / sz] := List.getElem?_eq_getElem hj
  have hcl : (l[x / sz]).cells[x % sz]? = some _ := List.getElem?_eq_getElem (by rw [hr.cells _ _ hel]; exact Nat.mod_lt _ hpos)
  have := hr.one _ _ _ _ hel hcl
  rw [show x / sz * sz + x % sz = x by rw [Nat.mul_comm]; exact Nat.div_add_mod x sz] at this
  rwa [getD_get (v := u) (by simpa using hx)] at this

theorem gives_two_new (hI : Inv B w0 I σ w h) {sz : Nat} {l1 l2 : List AV} {olds news : List Value} (h1 : ElemsRep I w sz l1 olds.toArray) (h2 : ElemsRep I w sz l2 news.toArray) {z : Value} (hz : z.cells.size = sz)
    {cap : Nat} (hcap : l1.length + l2.length ≤ cap) (e : TypeId) {s : Sem Next}
    (hs : s.run P w = .ok (.value (.slice (some ⟨w.heap.size, 0, none⟩) (l1.length + l2.length) cap)) (w.drew.alloc (.cells (olds.toArray ++ news.toArray ++ Builtin.zeroCells z.cells (cap - (l1.length + l2.length))) e))) :
    Gives P B w0 I σ w s (.own sz h.length 0 0 (l1.length + l2.length)) (h ++ [.row e sz 0 (l1 ++ l2) 0]) := by
  obtain ⟨hI1, st1⟩ := hI.drew
  obtain ⟨t1, t2, t3⟩ := (h1.mono st1.ext).two (h2.mono st1.ext) (Builtin.zeroCells z.cells (cap - (l1.length + l2.length)))
  have s1 := h1.size
  have s2 := h2.size
  simp only [List.size_toArray] at s1 s2
  obtain ⟨g1, g2⟩ := hI1.row_new (cap := cap) (l := l1 ++ l2) (sz := sz) (by
      simp only [Array.size_append, List.size_toArray, size_zeroCells, hz, s1, s2, ← Nat.add_mul]
      exact Nat.mul_le_mul_right _ (by omega)) (by simp; omega) t1 t2 t3 e
  refine ⟨_, _, I, _, .inl hs, g1, st1.trans g2, ?_⟩
  rw [← hI.len]
  exact rep_own_new hcap
end
end Go.AE
end

/-! AE, part 12: append, all its ways. -/
section
set_option linter.unusedVariables false
set_option linter.unusedSimpArgs false
namespace Go.AE
open Go Go.RowKit

section
variable {P : Program} {B : Nat} {w0 w w' : World} {I I' : Cells} {σ σ' : List Loc} {h : List AO}

theorem gives_two_moved (hI : Inv B w0 I σ w h) {sz id ver k0 : Nat} {l0 : List AV} {L : Loc} {rt : TypeId} (hh : h[id]? = some (.row rt sz ver l0 k0)) (hL : σ[id]? = some L)
    {l1 l2 : List AV} {olds news : List Value} (h1 : ElemsRep I w sz l1 olds.toArray) (h2 : ElemsRep I w sz l2 news.toArray) {z : Value} (hz : z.cells.size = sz)
    {cap : Nat} (hcap : l1.length + l2.length ≤ cap) {k : Nat} (hk : k ≤ l1.length) (e : TypeId) {s : Sem Next}
    (hs : s.run P w = .ok (.value (.slice (some ⟨w.heap.size, 0, none⟩) (l1.length + l2.length) cap)) (w.drew.alloc (.cells (olds.toArray ++ news.toArray ++ Builtin.zeroCells z.cells (cap - (l1.length + l2.length))) e))) :
    Gives P B w0 I σ w s (.own sz id (ver + 1) 0 (l1.length + l2.length)) (h.set id (.row e sz (ver + 1) (l1 ++ l2) k)) := by
  obtain ⟨hf, hver, hR⟩ := hI.obj id _ L hh hL
  obtain ⟨hI1, st1⟩ := hI.drew
  have s1 := h1.size
  have s2 := h2.size
  simp only [List.size_toArray] at s1 s2
  generalize harr : olds.toArray ++ news.toArray ++ Builtin.zeroCells z.cells (cap - (l1.length + l2.length)) = arr at hs
  have hasz : cap * sz = arr.size := by
    rw [← harr]
    simp only [Array.size_append, List.size_toArray, size_zeroCells, hz, s1, s2, ← Nat.add_mul]
    congr 1; omega
  have hkc : k * sz ≤ cap * sz := Nat.mul_le_mul_right _ (by omega)
  have lt := fun {b x : Nat} (hb : I b x) => hI1.imm_lt hb
  have he : Ext I w.drew (fun b x => I b x ∨ (b = w.heap.size ∧ x < k * sz)) (w.drew.alloc (.cells arr e)) := ⟨fun b x hb => .inl hb, fun b x hb => cell_old _ (lt hb)⟩
  obtain ⟨t1, t2, t3⟩ := ((h1.mono st1.ext).mono he).two ((h2.mono st1.ext).mono he) (Builtin.zeroCells z.cells (cap - (l1.length + l2.length)))
  rw [harr] at t2 t3
  have hinv := hI1.upd (id := id) (L' := ⟨false, true, w.heap.size, 0, cap, ver + 1⟩) (o' := .row e sz (ver + 1) (l1 ++ l2) k) hL (below_new hI1.base _) he
    (by
      rintro b x (hb | ⟨rfl, hx⟩)
      · obtain ⟨v, hv⟩ := hI1.imm b x hb
        exact ⟨v, by rw [cell_old _ (lt hb)]; exact hv⟩
      · have : x < arr.size := by omega
        exact ⟨arr[x], by unfold World.cell?; rw [show w.heap.size = w.drew.heap.size from rfl, heap_new]; simp [this]⟩)
    (fun j Lj hj hLj hhj => ⟨Below.heap_alloc w.drew _ _ (hI1.mine j Lj hLj hhj).2, fun x hx => by
      rcases hx with hx | ⟨e, _⟩
      · exact hx
      · have := (hI1.mine j Lj hLj hhj).2
        have e2 : w.drew.heap.size = w.heap.size := rfl
        omega⟩)
    (.inr ⟨hf, rfl, by rw [hver]; exact Nat.lt_succ_self _⟩)
    ⟨rfl, rfl, by simp; omega, t1, .inr ⟨rfl, arr, by
        have := heap_new (w := w.drew) (.cells arr e)
        exact this, by simp [hasz], by simpa using hcap, (by simpa using t2), (by simpa using t3), (fun j i hj hi => .inr ⟨rfl, by
          have := mul_succ_le (sz := sz) hj
          simp only [Nat.zero_add]; omega⟩), (fun x hx hi => by
          rcases hi with hi | ⟨_, hi⟩
          · have := lt hi
            have e2 : w.drew.heap.size = w.heap.size := rfl
            simp only at this; omega
          · simp only [Nat.zero_add] at hx; omega)⟩⟩
    (fun _ => ⟨hI1.base, by
      have := size_new (w := w.drew) (.cells arr e)
      rw [this]; exact Nat.lt_succ_self _, fun j Lj hj hLj hhj => by
      have := (hI1.mine j Lj hLj hhj).2
      have e2 : w.drew.heap.size = w.heap.size := rfl
      simp only; omega⟩)
  have hlt := (List.getElem?_eq_some_iff.1 hL).1
  refine ⟨_, _, _, _, .inl hs, hinv, ⟨st1.ext.trans he, Later.set hL hf rfl (by rw [hver]; exact Nat.lt_succ_self _), ?_, by
      have := size_new (w := w.drew) (.cells arr e)
      rw [this]; exact Nat.le_succ _⟩, ?_⟩
  · rintro b x (hb | ⟨rfl, _⟩)
    · exact .inl hb
    · exact .inr hI.base
  · exact .own _ sz id (ver + 1) 0 _ _ ⟨_, _, rfl, by simpa using hcap⟩ ⟨false, true, w.heap.size, 0, cap, ver + 1⟩ (by rw [List.getElem?_set_self hlt]) (Nat.le_refl _) (fun _ => .inl ⟨rfl, by simpa using hcap, by simp⟩)

theorem gives_append_room (hI : Inv B w0 I σ w h) {t t' ty e : TypeId} {i : TI}
    {id ver off n k : Nat} {l : List AV} {L : Loc} {rt : TypeId} (hh : h[id]? = some (.row rt i.size ver l k)) (hL : σ[id]? = some L) (hm : off + n ≤ l.length) (hk : k ≤ off + n) (hhas : L.has = true) (hLc : off + n ≤ L.cap)
    {ys : List AV} {news : List Value} (hys : ElemsRep I w i.size ys news.toArray) {vx : Value} (src : Src P w t t' ty e i ys.length vx news) (hpos : 0 < ys.length)
    (hroom : n + ys.length ≤ L.cap - off) :
    Gives P B w0 I σ w (do pure (.value (← Builtin.append_ #[t, t'] ty #[.slice (some ⟨L.b, L.o + off * i.size, none⟩) n (L.cap - off), vx])))
      (.own i.size id (ver + 1) 0 (n + ys.length)) (h.set id (.row rt i.size (ver + 1) ((l.drop off).take n ++ ys) (k - off))) := by
  obtain ⟨hf, hver, hR⟩ := hI.obj id _ L hh hL
  rcases hR.lies with ⟨_, h0, _⟩ | ⟨_, arr, hb, hasz, hcap, h1, hr, himm, hno⟩
  · rw [hhas] at h0; cases h0
  have hns := hys.size
  simp only [List.size_toArray] at hns
  have hBb := hI.mine id L hL hhas
  obtain ⟨o2, ho2⟩ : ∃ o2, o2 = L.o + (off + n) * i.size := ⟨_, rfl⟩
  have e1 : L.o + off * i.size + n * i.size = o2 := by rw [ho2, Nat.add_mul]; omega
  have e2 : (off + n) * i.size + ys.length * i.size ≤ L.cap * i.size := by rw [← Nat.add_mul]; exact Nat.mul_le_mul_right _ (by omega)
  have hfit : o2 + news.length ≤ arr.size := by omega
  have hrun := src.room hpos L.b (L.o + off * i.size) n (L.cap - off) hroom hys.ones
    (fun j hj => by
      rw [e1]
      have : o2 + j < arr.size := by omega
      simp [World.cell?, hb, this])
    (fun j hj => by simp [World.frozen?, hb])
  rw [e1] at hrun
  obtain ⟨g1, g2, g3, g4, g5, g6⟩ := heap_setCells L.b o2 news 0 w arr rt hb
  simp only [Nat.add_zero] at g1 g2 g3 g4 g5 g6
  have f := foldl_put news.toArray o2 arr (by simpa using hfit)
  rw [← Array.foldl_toList, Array.toList_zipIdx] at f
  simp only [List.toList_toArray, List.size_toArray] at f
  generalize hA : (news.zipIdx.foldl (fun (cs : Array Value) (p : Value × Nat) => cs.setIfInBounds (o2 + p.2) p.1) arr) = A at f g1
  obtain ⟨f1, f2⟩ := f
  have hkk : k * i.size ≤ (off + n) * i.size := Nat.mul_le_mul_right _ hk
  have he : Ext I w I (w.setCells L.b o2 news) := by
    refine ⟨fun _ _ hx => hx, fun b' x hx => ?_⟩
    by_cases hne : b' = L.b
    · subst hne
      have hlt : x < L.o + k * i.size := by
        rcases Nat.lt_or_ge x (L.o + k * i.size) with h2 | h2
        · exact h2
        · exact absurd hx (hno x h2)
      have f3 := f2 x
      rw [if_neg (by omega)] at f3
      unfold World.cell?
      simp only [g1, hb]
      rw [Array.getD_eq_getD_getElem?, Array.getD_eq_getD_getElem?] at f3
      have : x < arr.size := by omega
      simp only [Option.isSome_none, Bool.false_eq_true, if_false]
      rw [Array.getElem?_eq_getElem (by rw [f1]; exact this), Array.getElem?_eq_getElem this] at f3 ⊢
      simpa using f3
    · exact World.cell?_of_block (a := ⟨b', x, none⟩) (g2 b' hne)
  have hlen := take_drop_len (l := l) (off := off) (n := n) hm
  have get : ∀ (j : Nat) (el : AV), ((l.drop off).take n ++ ys)[j]? = some el → (j < n ∧ l[off + j]? = some el) ∨ (n ≤ j ∧ ys[j - n]? = some el) := by
    intro j el hj
    by_cases hlt : j < n
    · rw [List.getElem?_append_left (by omega)] at hj; exact .inl ⟨hlt, (drop_take_get l off n j el hj).1⟩
    · rw [List.getElem?_append_right (by omega), hlen] at hj; exact .inr ⟨by omega, hj⟩
  have cells : ∀ (j : Nat) (el : AV), ((l.drop off).take n ++ ys)[j]? = some el → el.cells.length = i.size := by
    intro j el hj
    rcases get j el hj with ⟨_, hj⟩ | ⟨_, hj⟩
    · exact hR.hsz _ el hj
    · exact hys.cells _ el hj
  have val : ∀ (j : Nat) (el : AV) (q : Nat) (c : AV), ((l.drop off).take n ++ ys)[j]? = some el → el.cells[q]? = some c →
      (l[off + j]? = some el ∧ A.getD (L.o + off * i.size + (j * i.size + q)) undef = arr.getD (L.o + ((off + j) * i.size + q)) undef) ∨
      (ys[j - n]? = some el ∧ A.getD (L.o + off * i.size + (j * i.size + q)) undef = news.toArray.getD ((j - n) * i.size + q) undef) := by
    intro j el q c hj hc
    have hq := (List.getElem?_eq_some_iff.1 hc).1
    rw [cells j el hj] at hq
    rcases get j el hj with ⟨hlt, hj⟩ | ⟨hge, hj⟩
    · refine .inl ⟨hj, ?_⟩
      have := mul_succ_le (sz := i.size) (show off + j < off + n by omega)
      rw [f2, if_neg (by rw [Nat.add_mul] at this; omega)]
      congr 1; rw [Nat.add_mul]; omega
    · refine .inr ⟨hj, ?_⟩
      have hj' := (List.getElem?_eq_some_iff.1 hj).1
      have m1 := mul_succ_le (sz := i.size) hj'
      have m2 : (off + n) * i.size + (j - n) * i.size = off * i.size + j * i.size := by rw [← Nat.add_mul, ← Nat.add_mul]; congr 1; omega
      rw [f2, if_pos (by omega)]
      rw [Array.getD_eq_getD_getElem?, List.getElem?_toArray, Array.getD_eq_getD_getElem?, List.getElem?_toArray]
      congr 2; omega
  have hinv := hI.upd (id := id) (L' := ⟨false, true, L.b, L.o + off * i.size, L.cap - off, ver + 1⟩) (o' := .row rt i.size (ver + 1) ((l.drop off).take n ++ ys) (k - off)) hL
    ⟨g4, g5, g6, Nat.le_of_eq g3.symm, fun j hj => g2 j (by omega)⟩ he (fun b x hx => by obtain ⟨v, hv⟩ := hI.imm b x hx; exact ⟨v, by rw [he.cell b x hx]; exact hv⟩)
    (fun j Lj hj hLj hhj => ⟨g2 _ (hI.dist j id Lj L hLj hL hj hhj hhas), fun x hx => hx⟩) (.inr ⟨hf, rfl, by rw [hver]; exact Nat.lt_succ_self _⟩)
    ⟨rfl, rfl, by simp only [List.length_append, hlen]; omega, cells, .inr ⟨rfl, A, g1, by
        simp only
        rw [f1]
        have : off * i.size + (L.cap - off) * i.size = L.cap * i.size := by rw [← Nat.add_mul]; congr 1; omega
        omega, by simp only [List.length_append, hlen]; exact hroom,
      (fun j el q c hj hc => by
        simp only
        rcases val j el q c hj hc with ⟨v1, v2⟩ | ⟨v1, v2⟩
        · rw [v2]; exact h1 _ el q c v1 hc
        · rw [v2]; exact hys.one _ el q c v1 hc),
      (fun j el q c hj hc => by
        simp only
        rcases val j el q c hj hc with ⟨v1, v2⟩ | ⟨v1, v2⟩
        · rw [v2]; exact (hr _ el q c v1 hc).mono he (Later.nil _)
        · rw [v2]; exact (hys.rep _ el q c v1 hc).mono he (Later.nil _)),
      (fun j q hj hq => by
        have := himm (off + j) q (by omega) hq
        simp only
        rwa [show L.o + off * i.size + (j * i.size + q) = L.o + ((off + j) * i.size + q) by rw [Nat.add_mul]; omega]),
      (fun x hx => hno x (by
        simp only at hx
        rcases Nat.le_total off k with h3 | h3
        · have : off * i.size + (k - off) * i.size = k * i.size := by rw [← Nat.add_mul]; congr 1; omega
          omega
        · have : k * i.size ≤ off * i.size := Nat.mul_le_mul_right _ h3
          omega))⟩⟩
    (fun _ => ⟨hBb.1, by rw [g3]; exact hBb.2, fun j Lj hj hLj hhj => hI.dist j id Lj L hLj hL hj hhj hhas⟩)
  have hlt := (List.getElem?_eq_some_iff.1 hL).1
  refine ⟨.slice (some ⟨L.b, L.o + off * i.size, none⟩) (n + ys.length) (L.cap - off), _, _, _, .inl ?_, hinv, ⟨he, Later.set hL hf rfl (by rw [hver]; exact Nat.lt_succ_self _), fun b x hx => .inl hx, Nat.le_of_eq g3.symm⟩, ?_⟩
  · simp only [Sem.run_bind, hrun, Result.andThen_ok, Sem.run_pure]
  · exact .own _ _ id (ver + 1) 0 _ _ ⟨_, _, rfl, by simpa using hroom⟩ ⟨false, true, L.b, L.o + off * i.size, L.cap - off, ver + 1⟩ (by rw [List.getElem?_set_self hlt]) (Nat.le_refl _) (fun _ => .inl ⟨rfl, by simpa using hroom, by simp⟩)

theorem fits_iff {n bytes : Nat} (h : fits n bytes = true) : n ≤ 140737488355328 ∧ n * bytes ≤ 140737488355328 := by
  unfold fits room at h
  exact of_decide_eq_true h

theorem gives_appendL (hI : Inv B w0 I σ w h) {t t' ty e : TypeId} {i : TI} (hzs : i.zero.cells.size = i.size)
    {s : AV} {vs vx : Value} {ys : List AV} {news : List Value} (hs : Rep I w σ s vs) (hn1 : ElemsRep I w i.size ys news.toArray) (src : Src P w t t' ty e i ys.length vx news) {r : AV} {h' : List AO} (he : evAppendL h e i.size i.bytes s ys = some (r, h')) :
    Gives P B w0 I σ w (do pure (.value (← Builtin.append_ #[t, t'] ty #[vs, vx]))) r h' := by
  unfold evAppendL at he
  have hns := hn1.size
  simp only [List.size_toArray] at hns
  -- a slice in a new block
  have fresh : ∀ (l1 : List AV) (olds : List Value) (base : Option Addr) (cap : Nat), ElemsRep I w i.size l1 olds.toArray → (base = none → l1 = [] ∧ cap = 0) →
      (∀ ad, base = some ad → ∀ (j : Nat) (u : Value), olds[j]? = some u → w.cell? (ad.add j) = some u) → cap < l1.length + ys.length → fits (l1.length + ys.length) i.bytes = true → ys ≠ [] →
      ∃ cap', l1.length + ys.length ≤ cap' ∧ (do pure (.value (← Builtin.append_ #[t, t'] ty #[.slice base l1.length cap, vx])) : Sem Next).run P w =
        .ok (.value (.slice (some ⟨w.heap.size, 0, none⟩) (l1.length + ys.length) cap')) (w.drew.alloc (.cells (olds.toArray ++ news.toArray ++ Builtin.zeroCells i.zero.cells (cap' - (l1.length + ys.length))) e)) := by
    intro l1 olds base cap h1 hb hcells hgrow hfit hne
    obtain ⟨f1, f2⟩ := fits_iff hfit
    have hpos : 0 < ys.length := List.length_pos_iff.2 hne
    refine ⟨grownCap w (l1.length + ys.length) cap e, grownCap_ge _ _ _ _, ?_⟩
    cases base with
    | none =>
      obtain ⟨rfl, rfl⟩ := hb rfl
      have ho : olds = [] := by have := h1.size; simpa using this
      subst ho
      simp only [List.length_nil, Nat.zero_add] at f1 f2 ⊢
      have := src.nil hpos f1 f2
      simp only [Sem.run_bind, this, Result.andThen_ok, Sem.run_pure]
      simp
    | some bd =>
      have ho := h1.size
      simp only [List.size_toArray] at ho
      have := src.grow hpos bd l1.length cap olds ho (hcells bd rfl) hgrow f1 f2
      simp only [Sem.run_bind, this, Result.andThen_ok, Sem.run_pure]
  cases hs with
  | v x =>
    split at he <;> first | (cases he; done) | skip
    · rename_i heq
      cases heq
      split at he
      · rename_i h0
        cases he; subst h0
        refine Gives.same hI (v := .slice none 0 0) ?_ (.v _ _)
        have := src.zero rfl none 0 0 (Nat.le_refl _)
        simp only [Sem.run_bind, List.length_nil, this, Result.andThen_ok, Sem.run_pure]
      · rename_i hne
        split at he
        · rename_i hfit
          cases he
          obtain ⟨cap', g1, g2⟩ := fresh [] [] none 0 (ElemsRep.nil _) (fun _ => ⟨rfl, rfl⟩) (fun ad e => by cases e) (by have := List.length_pos_iff.2 hne; simpa using this) (by simpa using hfit) hne
          have := gives_two_new hI (ElemsRep.nil i.size) hn1 hzs g1 e g2
          simpa using this
        · cases he
    all_goals (rename_i heq; simp at heq)
  | slc _ sz' ex nn l a cap b o g ha hn hnil hcap hex hsz hc hi h1 hr =>
    simp only at he
    split at he
    · rename_i hsze; subst hsze
      split at he
      · rename_i h0
        cases he; subst h0
        refine Gives.same hI (v := .slice a l.length cap) ?_ (.slc σ i.size ex nn l a cap b o g ha hn hnil hcap hex hsz hc hi h1 hr)
        have := src.zero rfl a l.length cap hcap
        simp only [Sem.run_bind, List.length_nil, this, Result.andThen_ok, Sem.run_pure]
      · rename_i hne
        split at he
        · rename_i hexx
          split at he
          · rename_i hfit
            cases he
            obtain ⟨olds, o1, o2⟩ := elems_list (I := I) (w := w) b o g hsz hc h1 hr
            have hpos := List.length_pos_iff.2 hne
            obtain ⟨cap', g1, g2⟩ := fresh l olds a cap o1 (fun e => by
                have h0 := hnil e
                refine ⟨?_, h0⟩
                by_cases hl : l = []
                · exact hl
                · rw [ha hl] at e; cases e)
              (fun ad e j u hu => by
                have hl : l ≠ [] := by
                  rintro rfl
                  have := o1.size; simp at this
                  subst this; simp at hu
                rw [ha hl] at e; cases e
                rw [Addr.add_lit]; exact o2 j u hu)
              (by have := hex hexx; omega) hfit hne
            exact gives_two_new hI o1 hn1 hzs g1 e g2
          · cases he
        · cases he
    · cases he
  | own _ sz' id ver off n x h1x L hL hv hxo =>
    simp only at he
    split at he
    · rename_i hsze; subst hsze
      split at he
      · rename_i l k hra
        obtain ⟨hh, hm⟩ := rowAt_eq hra
        obtain ⟨hf, hver, hR⟩ := hI.obj id _ L hh hL
        have hlen := take_drop_len (l := l) (off := off) (n := n) hm
        split at he
        · rename_i hk
          obtain ⟨hk, htag⟩ := hk
          split at he
          · rename_i h0
            cases he; subst h0
            rcases hxo hver.symm with ⟨hhas, hcap, rfl⟩ | ⟨rfl, a, rfl⟩
            · refine Gives.same hI (v := .slice (some ⟨L.b, L.o + off * i.size, none⟩) n (L.cap - off)) ?_ (.own σ i.size id ver off n _ h1x L hL hv hxo)
              have := src.zero rfl (some ⟨L.b, L.o + off * i.size, none⟩) n (L.cap - off) (by omega)
              simp only [Sem.run_bind, List.length_nil, this, Result.andThen_ok, Sem.run_pure]
            · refine Gives.same hI (v := .slice a 0 0) ?_ (.own σ i.size id ver off 0 _ h1x L hL hv hxo)
              have := src.zero rfl a 0 0 (by omega)
              simp only [Sem.run_bind, List.length_nil, this, Result.andThen_ok, Sem.run_pure]
          · rename_i hne
            split at he
            · rename_i hfit
              cases he
              have hpos := List.length_pos_iff.2 hne
              have hs0 : Rep I w σ (.own i.size id ver off n) vs := .own σ i.size id ver off n vs h1x L hL hv hxo
              obtain ⟨a0, c0, e0, hc0, hn0, olds, o1, o2⟩ := hs0.elems hI (sz := i.size) (ys := (l.drop off).take n) (by simp [elemsOf, hra])
              rcases hxo hver.symm with ⟨hhas, hcap, rfl⟩ | ⟨rfl, a, rfl⟩
              · by_cases hroom : n + ys.length ≤ L.cap - off
                · rw [htag] at hh
                  exact gives_append_room hI hh hL hm hk hhas hcap hn1 src hpos hroom
                · simp only [Value.slice.injEq] at e0
                  obtain ⟨rfl, e1, rfl⟩ := e0
                  obtain ⟨cap', g1, g2⟩ := fresh _ olds (some ⟨L.b, L.o + off * i.size, none⟩) (L.cap - off) o1 (fun e => by cases e) o2 (by rw [hlen]; omega) (by rw [hlen]; exact hfit) hne
                  have := gives_two_moved hI hh hL o1 hn1 hzs g1 (k := k - off) (by rw [hlen]; omega) e g2
                  rw [hlen] at this
                  exact this
              · simp only [Value.slice.injEq] at e0
                obtain ⟨rfl, e1, rfl⟩ := e0
                have hnil : List.take 0 (List.drop off l) = [] := by simp
                rw [hnil] at o1
                obtain ⟨cap', g1, g2⟩ := fresh [] olds a 0 o1 (fun _ => ⟨rfl, rfl⟩) o2 (by simpa using hpos) (by simpa using hfit) hne
                have := gives_two_moved hI hh hL o1 hn1 hzs g1 (k := k - off) (by simp; omega) e g2
                simpa using this
            · cases he
        · cases he
      · cases he
    · cases he
  | _ => simp at he
theorem gives_append (hI : Inv B w0 I σ w h) {t ty e : TypeId} {i : TI} (hu : P.underlying t = some (.slice e)) (ht : TIok P e i) (hzs : i.zero.cells.size = i.size)
    {s x : AV} {vs vx : Value} (hs : Rep I w σ s vs) (hx : Rep I w σ x vx) {r : AV} {h' : List AO} (he : evAppend h e i.size i.bytes s x = some (r, h')) :
    Gives P B w0 I σ w (do pure (.value (← Builtin.append_ #[t, t] ty #[vs, vx]))) r h' := by
  unfold evAppend at he
  split at he
  · cases he
  rename_i ys hys
  obtain ⟨ax, cx, rfl, hcx, haxn, news, hn1, hn2⟩ := hx.elems hI hys
  have hns := hn1.size
  simp only [List.size_toArray] at hns
  exact gives_appendL hI hzs hs hn1 (Src.slice hu ht hns (fun hp e => by have := haxn e; subst this; simp at hp) hn2) he
theorem gives_apps (hI : Inv B w0 I σ w h) {t u ty e : TypeId} {i : TI} (hu : P.underlying t = some (.slice e)) (hst : P.underlying u = some .string) (ht : TIok P e i) (hzs : i.zero.cells.size = i.size) (h1 : i.size = 1)
    {s x : AV} {vs vx : Value} (hs : Rep I w σ s vs) (hx : Rep I w σ x vx) {r : AV} {h' : List AO} (he : evAppS h e i.bytes s x = some (r, h')) :
    Gives P B w0 I σ w (do pure (.value (← Builtin.append_ #[t, u] ty #[vs, vx]))) r h' := by
  unfold evAppS at he
  split at he
  · rename_i z
    cases hx
    rw [← h1] at he
    have hlb : (bytesL z).length = z.size := by rw [bytesL, List.length_map, Array.length_toList]; rfl
    have hsrc := Src.string (w := w) (ty := ty) hu hst ht h1 z
    rw [← hlb] at hsrc
    exact gives_appendL hI hzs hs (by rw [h1]; exact elemsRep_str z) hsrc he
  · cases he
end
end Go.AE
end

/-! AE, part 13: the other operations. -/
section
set_option linter.unusedVariables false
set_option linter.unusedSimpArgs false
namespace Go.AE
open Go Go.RowKit

section
variable {P : Program} {B : Nat} {w0 w w' : World} {I I' : Cells} {σ σ' : List Loc} {h : List AO}

theorem get_getD {arr : Array Value} {i : Nat} (h : i < arr.size) : ∃ u, arr[i]? = some u ∧ arr.getD i undef = u :=
  ⟨arr[i], Array.getElem?_eq_getElem h, by simp [Array.getD, h]⟩

theorem run_intBin {op : BinOp} {k : IntKind} {a b : Int} {r : AV} (he : Q79 op k a b = some r) (xt : TypeId) (hsh : op ≠ .shl ∧ op ≠ .shr) :
    ∃ v, (binOp op xt (.int k a) (.int k b)).run P w = .ok v w ∧ r = .v v := by
  cases op <;> simp only [Q79] at he
  case and | or | xor | andNot => cases he; exact ⟨_, by simp only [binOp, Op.intBits, ne_eq, not_true, if_false]; rfl, rfl⟩
  all_goals first
    | (cases he; done)
    | (cases he; exact ⟨_, by simp [binOp, Op.intArith, Op.intCmp], rfl⟩)
    | (split at he
       · cases he
       · rename_i hb
         cases he
         exact ⟨_, by simp [binOp, Op.intDiv, hb], rfl⟩)

theorem run_strBin {op : BinOp} {x y : ByteArray} {r : AV} (he : Q80 op x y = some r) (xt : TypeId) :
    ∃ v, (binOp op xt (.string x) (.string y)).run P w = .ok v w ∧ r = .v v := by
  cases op <;> simp only [Q80] at he <;> first
    | (cases he; done)
    | (cases he; exact ⟨_, by simp [binOp, Op.stringOp], rfl⟩)
    | (split at he
       · rename_i hb
         cases he
         have : ¬ (((x.size + y.size : Nat) : Int) > 9223372036854775807) := by omega
         refine ⟨.string (x ++ y), ?_, rfl⟩
         simp only [binOp, Op.stringOp]
         rw [if_neg]
         · rfl
         · simpa [IntKind.max, IntKind.signed, IntKind.bits] using hb
       · cases he)

theorem gives_bin (hI : Inv B w0 I σ w h) {op : BinOp} {x y : AV} {vx vy : Value} (hx : Rep I w σ x vx) (hy : Rep I w σ y vy) {r : AV} (he : Q78 op x y = some r) (xt : TypeId) (ox oy : Operand) :
    Gives P B w0 I σ w (do pure (.value (← do eqGuard op xt ox oy vx vy; binOp op xt vx vy))) r h := by
  unfold Q78 at he
  split at he
  · rename_i k a k' b
    split at he
    · rename_i e; subst e
      cases hx; cases hy
      have hsh : op ≠ .shl ∧ op ≠ .shr := by constructor <;> (rintro rfl; simp [Q79] at he)
      obtain ⟨v, h1, rfl⟩ := run_intBin (P := P) (w := w) he xt hsh
      refine Gives.same hI (v := v) ?_ (.v σ v)
      have hg : (eqGuard op xt ox oy (.int k a) (.int k b)).run P w = .ok () w := by
        unfold eqGuard
        split <;> simp
      simp only [Sem.run_bind, hg, Result.andThen_ok, h1, Sem.run_pure]
    · cases he
  · rename_i a b
    cases hx; cases hy
    obtain ⟨v, h1, rfl⟩ := run_strBin (P := P) (w := w) he xt
    refine Gives.same hI (v := v) ?_ (.v σ v)
    have hg : (eqGuard op xt ox oy (.string a) (.string b)).run P w = .ok () w := by
      unfold eqGuard
      split <;> simp
    simp only [Sem.run_bind, hg, Result.andThen_ok, h1, Sem.run_pure]
  · cases he

theorem gives_un (hI : Inv B w0 I σ w h) {op : UnOp} {x : AV} {vx : Value} (hx : Rep I w σ x vx) {r : AV} (he : Q81 op x = some r) :
    Gives P B w0 I σ w (do pure (.value (← Op.unary op vx))) r h := by
  unfold Q81 at he
  split at he
  · cases hx
    split at he
    · cases he
      exact Gives.same hI (by simp [Op.unary, Op.intArith]) (.v σ _)
    · cases he
  · cases hx
    split at he
    · cases he
      exact Gives.same hI (by simp [Op.unary]) (.v σ _)
    · cases he
  · cases he

def EqK.ok : EqK → TypeDesc → Bool
  | .bool, .bool => true
  | .slice, .slice _ => true
  | .pointer, .pointer _ => true
  | _, _ => false

theorem equal_in (t : TypeId) (x y : Value) : Op.equal t x y = Op.equalIn (9999 + 1) t x y := rfl
theorem run_equal {xt : TypeId} {d : TypeDesc} (hd : P.underlying xt = some d) (x y : Value) (b : Bool)
    (hb : (d = .bool ∧ ∃ p q, x = .bool p ∧ y = .bool q ∧ b = (p == q)) ∨ (∃ e, d = .slice e ∧ ((x = .slice none 0 0 ∧ y = .slice none 0 0 ∧ b = true) ∨ (∃ a n c, x = .slice (some a) n c ∧ y = .slice none 0 0 ∧ b = false))) ∨
      (∃ e, d = .pointer e ∧ ((x = .pointer none ∧ y = .pointer none ∧ b = true) ∨ (∃ a, x = .pointer (some a) ∧ y = .pointer none ∧ b = false)))) :
    (Op.equal xt x y).run P w = .ok b w := by
  rw [equal_in]
  unfold Op.equalIn
  simp only [Sem.run_bind, run_underlying hd w, Result.andThen_ok]
  rcases hb with ⟨rfl, p, q, rfl, rfl, rfl⟩ | ⟨e, rfl, ⟨rfl, rfl, rfl⟩ | ⟨a, n, c, rfl, rfl, rfl⟩⟩ | ⟨e, rfl, ⟨rfl, rfl, rfl⟩ | ⟨a, rfl, rfl, rfl⟩⟩ <;> rfl

theorem run_eqNil (hI : Inv B w0 I σ w h) {k : EqK} {x y : AV} {vx vy : Value} (hx : Rep I w σ x vx) (hy : Rep I w σ y vy) {b : Bool} (he : eqNil h k x y = some b) {xt : TypeId} {d : TypeDesc} (hd : P.underlying xt = some d)
    (hk : k.ok d = true) : (Op.equal xt vx vy).run P w = .ok b w ∧ (∀ ops, (∀ ox oy, (eqGuard ops xt ox oy vx vy).run P w = .ok () w)) ∧ (binOp .eql xt vx vy = (do pure (.bool (← Op.equal xt vx vy)))) ∧ (binOp .neq xt vx vy = (do pure (.bool (!(← Op.equal xt vx vy))))) := by
  have hun := run_underlying hd w
  unfold eqNil at he
  split at he <;> first | (cases he; done) | skip
  · cases hx; cases hy; cases he
    cases d <;> simp [EqK.ok] at hk
    refine ⟨run_equal hd _ _ _ (by first | exact .inl ⟨rfl, _, _, rfl, rfl, rfl⟩ | exact .inr (.inl ⟨_, rfl, .inl ⟨rfl, rfl, rfl⟩⟩) | exact .inr (.inl ⟨_, rfl, .inr ⟨_, _, _, rfl, rfl, rfl⟩⟩) | exact .inr (.inr ⟨_, rfl, .inl ⟨rfl, rfl, rfl⟩⟩) | exact .inr (.inr ⟨_, rfl, .inr ⟨_, rfl, rfl, rfl⟩⟩)), fun ops ox oy => ?_, rfl, rfl⟩
    unfold eqGuard; split <;> simp
  · cases hx; cases hy; cases he
    cases d <;> simp [EqK.ok] at hk
    refine ⟨run_equal hd _ _ _ (by first | exact .inl ⟨rfl, _, _, rfl, rfl, rfl⟩ | exact .inr (.inl ⟨_, rfl, .inl ⟨rfl, rfl, rfl⟩⟩) | exact .inr (.inl ⟨_, rfl, .inr ⟨_, _, _, rfl, rfl, rfl⟩⟩) | exact .inr (.inr ⟨_, rfl, .inl ⟨rfl, rfl, rfl⟩⟩) | exact .inr (.inr ⟨_, rfl, .inr ⟨_, rfl, rfl, rfl⟩⟩)), fun ops ox oy => ?_, rfl, rfl⟩
    unfold eqGuard; split <;> simp
  · cases hy
    cases hx with
    | slc _ sz ex nn l a cap b' o g ha hn hnil hcap hex hsz hc hi h1 hr =>
      split at he
      · rename_i hcond
        cases he
        cases d <;> simp [EqK.ok] at hk
        obtain ⟨ad, rfl⟩ : ∃ ad, a = some ad := by
          cases a with
          | some ad => exact ⟨ad, rfl⟩
          | none =>
            simp only [Bool.or_eq_true, Bool.not_eq_true', List.isEmpty_eq_false_iff] at hcond
            rcases hcond with h0 | h0
            · exact absurd rfl (hn h0)
            · exact absurd (ha h0) (by simp)
        refine ⟨run_equal hd _ _ _ (by first | exact .inl ⟨rfl, _, _, rfl, rfl, rfl⟩ | exact .inr (.inl ⟨_, rfl, .inl ⟨rfl, rfl, rfl⟩⟩) | exact .inr (.inl ⟨_, rfl, .inr ⟨_, _, _, rfl, rfl, rfl⟩⟩) | exact .inr (.inr ⟨_, rfl, .inl ⟨rfl, rfl, rfl⟩⟩) | exact .inr (.inr ⟨_, rfl, .inr ⟨_, rfl, rfl, rfl⟩⟩)), fun ops ox oy => ?_, rfl, rfl⟩
        unfold eqGuard; split <;> simp
      · cases he
  · cases hy
    cases hx with
    | own _ sz id ver off n x h1x L hL hv hxo =>
      split at he
      · rename_i pr hra
        obtain ⟨l, k⟩ := pr
        split at he
        · rename_i hn
          cases he
          cases d <;> simp [EqK.ok] at hk
          obtain ⟨hh, hm⟩ := rowAt_eq hra
          obtain ⟨hf, hver, hR⟩ := hI.obj _ _ L hh hL
          rcases hxo hver.symm with ⟨hhas, hcap, rfl⟩ | ⟨rfl, a, rfl⟩
          · refine ⟨run_equal hd _ _ _ (by first | exact .inl ⟨rfl, _, _, rfl, rfl, rfl⟩ | exact .inr (.inl ⟨_, rfl, .inl ⟨rfl, rfl, rfl⟩⟩) | exact .inr (.inl ⟨_, rfl, .inr ⟨_, _, _, rfl, rfl, rfl⟩⟩) | exact .inr (.inr ⟨_, rfl, .inl ⟨rfl, rfl, rfl⟩⟩) | exact .inr (.inr ⟨_, rfl, .inr ⟨_, rfl, rfl, rfl⟩⟩)), fun ops ox oy => ?_, rfl, rfl⟩
            unfold eqGuard; split <;> simp
          · omega
        · cases he
      · cases he
  · cases hy
    cases hx with
    | ptr _ id off L hL hf =>
      cases he
      cases d <;> simp [EqK.ok] at hk
      refine ⟨run_equal hd _ _ _ (by first | exact .inl ⟨rfl, _, _, rfl, rfl, rfl⟩ | exact .inr (.inl ⟨_, rfl, .inl ⟨rfl, rfl, rfl⟩⟩) | exact .inr (.inl ⟨_, rfl, .inr ⟨_, _, _, rfl, rfl, rfl⟩⟩) | exact .inr (.inr ⟨_, rfl, .inl ⟨rfl, rfl, rfl⟩⟩) | exact .inr (.inr ⟨_, rfl, .inr ⟨_, rfl, rfl, rfl⟩⟩)), fun ops ox oy => ?_, rfl, rfl⟩
      unfold eqGuard; split <;> simp
  · cases hy
    cases hx with
    | ip _ cs b o g hc hi h1 hr =>
      cases he
      cases d <;> simp [EqK.ok] at hk
      refine ⟨run_equal hd _ _ _ (by first | exact .inl ⟨rfl, _, _, rfl, rfl, rfl⟩ | exact .inr (.inl ⟨_, rfl, .inl ⟨rfl, rfl, rfl⟩⟩) | exact .inr (.inl ⟨_, rfl, .inr ⟨_, _, _, rfl, rfl, rfl⟩⟩) | exact .inr (.inr ⟨_, rfl, .inl ⟨rfl, rfl, rfl⟩⟩) | exact .inr (.inr ⟨_, rfl, .inr ⟨_, rfl, rfl, rfl⟩⟩)), fun ops ox oy => ?_, rfl, rfl⟩
      unfold eqGuard; split <;> simp
  · cases hx; cases hy; cases he
    cases d <;> simp [EqK.ok] at hk
    refine ⟨run_equal hd _ _ _ (by first | exact .inl ⟨rfl, _, _, rfl, rfl, rfl⟩ | exact .inr (.inl ⟨_, rfl, .inl ⟨rfl, rfl, rfl⟩⟩) | exact .inr (.inl ⟨_, rfl, .inr ⟨_, _, _, rfl, rfl, rfl⟩⟩) | exact .inr (.inr ⟨_, rfl, .inl ⟨rfl, rfl, rfl⟩⟩) | exact .inr (.inr ⟨_, rfl, .inr ⟨_, rfl, rfl, rfl⟩⟩)), fun ops ox oy => ?_, rfl, rfl⟩
    unfold eqGuard; split <;> simp
  · cases d <;> simp [EqK.ok] at hk

/-! ### '==' of structs -/
def FlatP (P : Program) : List FK → List Field → Nat → Prop
  | [], [], _ => True
  | k :: ks, f :: fs, o => f.name ≠ "_" ∧ f.offset = o ∧ (match k with
    | .i => ∃ q, P.underlying f.type = some (.int q)
    | .s => P.underlying f.type = some .string
    | .b => P.underlying f.type = some .bool) ∧ FlatP P ks fs (o + 1)
  | _, _, _ => False
theorem run_part_flat {t : TypeId} {d : TypeDesc} (hu : P.underlying t = some d) (hd : (match d with | .struct _ | .array _ _ => true | _ => false) = false) {xs : Array Value} {o : Nat} {v : Value} (hv : xs[o]? = some v) : (part t xs o).run P w = .ok v w := by
  cases d <;> simp at hd <;> simp [part, isAgg, run_underlying hu, hv]
theorem flatEq_nil {cs ds : List AV} {b : Bool} (h : flatEq [] cs ds = some b) : b = true := by
  cases cs <;> cases ds <;> simp [flatEq] at h
  exact h
theorem flatEq_i {ks : List FK} {cs ds : List AV} {b : Bool} (h : flatEq (.i :: ks) cs ds = some b) : ∃ k a cs' b' ds' r, cs = .v (.int k a) :: cs' ∧ ds = .v (.int k b') :: ds' ∧ flatEq ks cs' ds' = some r ∧ b = (a == b' && r) := by
  match cs, ds, h with
  | .v (.int k a) :: cs', .v (.int k' b') :: ds', h =>
    simp only [flatEq] at h
    split at h
    · rename_i hk; subst hk
      obtain ⟨r, hr, rfl⟩ := Option.map_eq_some_iff.1 h
      exact ⟨k, a, cs', b', ds', r, rfl, rfl, hr, rfl⟩
    · cases h
theorem flatEq_s {ks : List FK} {cs ds : List AV} {b : Bool} (h : flatEq (.s :: ks) cs ds = some b) : ∃ a cs' b' ds' r, cs = .v (.string a) :: cs' ∧ ds = .v (.string b') :: ds' ∧ flatEq ks cs' ds' = some r ∧ b = (a.toList == b'.toList && r) := by
  match cs, ds, h with
  | .v (.string a) :: cs', .v (.string b') :: ds', h =>
    simp only [flatEq] at h
    obtain ⟨r, hr, rfl⟩ := Option.map_eq_some_iff.1 h
    exact ⟨a, cs', b', ds', r, rfl, rfl, hr, rfl⟩
theorem flatEq_b {ks : List FK} {cs ds : List AV} {b : Bool} (h : flatEq (.b :: ks) cs ds = some b) : ∃ a cs' b' ds' r, cs = .v (.bool a) :: cs' ∧ ds = .v (.bool b') :: ds' ∧ flatEq ks cs' ds' = some r ∧ b = (a == b' && r) := by
  match cs, ds, h with
  | .v (.bool a) :: cs', .v (.bool b') :: ds', h =>
    simp only [flatEq] at h
    obtain ⟨r, hr, rfl⟩ := Option.map_eq_some_iff.1 h
    exact ⟨a, cs', b', ds', r, rfl, rfl, hr, rfl⟩
theorem run_flat {dp : Nat} {xs ys : Array Value} : ∀ (ks : List FK) (fs : List Field) (o : Nat) (cs ds : List AV) (b : Bool), FlatP P ks fs o → flatEq ks cs ds = some b →
    (∀ i x, cs[i]? = some (.v x) → xs[o + i]? = some x) → (∀ i x, ds[i]? = some (.v x) → ys[o + i]? = some x) → (Op.eqFields (dp + 1) xs ys fs).run P w = .ok b w := by
  intro ks
  induction ks with
  | nil =>
    intro fs o cs ds b hf he _ _
    cases fs with
    | cons f fs => exact hf.elim
    | nil => rw [flatEq_nil he]; simp [Op.eqFields]
  | cons k ks ih =>
    intro fs o cs ds b hf he hx hy
    cases fs with
    | nil => exact hf.elim
    | cons f fs =>
      obtain ⟨hn, ho, hk, hfs⟩ := hf
      have step : ∀ (x y : Value) (cs' ds' : List AV) (e r : Bool), cs = .v x :: cs' → ds = .v y :: ds' → (part f.type xs f.offset).run P w = .ok x w → (part f.type ys f.offset).run P w = .ok y w → (Op.equalIn (dp + 1) f.type x y).run P w = .ok e w → flatEq ks cs' ds' = some r → (Op.eqFields (dp + 1) xs ys (f :: fs)).run P w = .ok (e && r) w := by
        intro x y cs' ds' e r h1 h2 p1 p2 p3 hr
        have := ih fs (o + 1) cs' ds' r hfs hr (fun i z hz => by have := hx (i + 1) z (by rw [h1]; exact hz); rwa [show o + (i + 1) = o + 1 + i by omega] at this) (fun i z hz => by have := hy (i + 1) z (by rw [h2]; exact hz); rwa [show o + (i + 1) = o + 1 + i by omega] at this)
        simp only [Op.eqFields, if_pos hn, Sem.run_bind, p1, p2, p3, Result.andThen_ok, Sem.run_ite]
        cases e
        · simp
        · simpa using this
      subst ho
      cases k with
      | i =>
        obtain ⟨q, hq⟩ := hk
        obtain ⟨kk, a, cs', b', ds', r, rfl, rfl, hr, rfl⟩ := flatEq_i he
        exact step _ _ cs' ds' _ r rfl rfl (run_part_flat hq rfl (hx 0 _ rfl)) (run_part_flat hq rfl (hy 0 _ rfl)) (run_equalIn_int w dp f.type kk q a b' hq) hr
      | s =>
        obtain ⟨a, cs', b', ds', r, rfl, rfl, hr, rfl⟩ := flatEq_s he
        exact step _ _ cs' ds' _ r rfl rfl (run_part_flat hk rfl (hx 0 _ rfl)) (run_part_flat hk rfl (hy 0 _ rfl)) (run_equalIn_string w dp f.type a b' hk) hr
      | b =>
        obtain ⟨a, cs', b', ds', r, rfl, rfl, hr, rfl⟩ := flatEq_b he
        exact step _ _ cs' ds' _ r rfl rfl (run_part_flat hk rfl (hx 0 _ rfl)) (run_part_flat hk rfl (hy 0 _ rfl)) (run_equalIn_bool' w dp f.type a b' hk) hr
theorem gives_flat (hI : Inv B w0 I σ w h) {neg : Bool} {cs ds : List AV} {vx vy : Value} (hx : Rep I w σ (.agg cs) vx) (hy : Rep I w σ (.agg ds) vy) {ks : List FK} {b : Bool} (he : flatEq ks cs ds = some b) {xt : TypeId} {fs : Array Field} (hd : P.underlying xt = some (.struct fs))
    (hf : FlatP P ks fs.toList 0) (hp : P.stoodInHeld xt = false) (hg : P.eqGuardType P.depth xt = false) (ox oy : Operand) :
    Gives P B w0 I σ w (do pure (.value (← do eqGuard (if neg then .neq else .eql) xt ox oy vx vy; binOp (if neg then .neq else .eql) xt vx vy))) (.v (.bool (if neg then !b else b))) h := by
  cases hx with
  | agg _ _ xs hs h1 hr =>
  cases hy with
  | agg _ _ ys hs' h1' hr' =>
  have hfo : P.fieldsOf xt = fs := by simp [Program.fieldsOf, hd]
  have get : ∀ {l : List AV} {arr : Array Value}, arr.size = l.length → (∀ i c, l[i]? = some c → Rep I w σ c (arr.getD i undef)) → ∀ i x, l[i]? = some (.v x) → arr[0 + i]? = some x := by
    intro l arr hsz hrr i x hi
    have hlt := (List.getElem?_eq_some_iff.1 hi).1
    obtain ⟨u, hu, hu2⟩ := get_getD (arr := arr) (i := i) (by omega)
    have := hrr i _ hi
    rw [hu2] at this
    cases this
    rw [Nat.zero_add]; exact hu
  have hrun : (Op.equalIn (9998 + 1 + 1) xt (.agg xs) (.agg ys)).run P w = .ok b w := by
    rw [run_equalIn_struct w (9998 + 1) xt xs ys (by rw [hfo]; exact hd) hp, hfo]
    exact run_flat ks fs.toList 0 cs ds b hf he (get hs hr) (get hs' hr')
  refine Gives.same hI ?_ (.v σ _)
  cases neg
  · simp only [Bool.false_eq_true, if_false, Sem.run_bind, run_eqGuard_agg w .eql xt ox oy xs ys hg, Result.andThen_ok, run_eql_struct w xt xs ys]
    rw [show (10000 : Nat) = 9998 + 1 + 1 from rfl, hrun]
    rfl
  · simp only [if_true, Sem.run_bind, run_eqGuard_agg w .neq xt ox oy xs ys hg, Result.andThen_ok, run_neq_struct w xt xs ys]
    rw [show (10000 : Nat) = 9998 + 1 + 1 from rfl, hrun]
    rfl

theorem gives_eqv (hI : Inv B w0 I σ w h) {k : EqK} {neg : Bool} {x y : AV} {vx vy : Value} (hx : Rep I w σ x vx) (hy : Rep I w σ y vy) {b : Bool} (he : eqNil h k x y = some b) {xt : TypeId} {d : TypeDesc} (hd : P.underlying xt = some d)
    (hk : k.ok d = true) (ox oy : Operand) :
    Gives P B w0 I σ w (do pure (.value (← do eqGuard (if neg then .neq else .eql) xt ox oy vx vy; binOp (if neg then .neq else .eql) xt vx vy))) (.v (.bool (if neg then !b else b))) h := by
  obtain ⟨h1, h2, h3, h4⟩ := run_eqNil (P := P) hI hx hy he hd hk
  refine Gives.same hI ?_ (.v σ _)
  cases neg <;> simp [h2, h3, h4, h1]

/-! ### Parts of what is there -/
theorem gives_nilchk (hI : Inv B w0 I σ w h) {x r : AV} {vx : Value} (hx : Rep I w σ x vx) (he : Q75 h x = some r) (o : Oper) (ρ : Operand → Value) (ox : Operand) (hop : o.op = .nilCheck ox) (ho : ρ ox = vx) :
    Gives P B w0 I σ w (execOp ρ o) r h := by
  cases hx with
  | ptr _ id off L hL hf => cases he; exact Gives.same hI (by simp [execOp, hop, ho]) (.ptr σ id off L hL hf)
  | ip _ cs b o g hc hi h1 hr => cases he; exact Gives.same hI (by simp [execOp, hop, ho]) (.ip σ cs b o g hc hi h1 hr)
  | ep _ sz id ver idx off x h1x L hL hv hxo =>
    simp only [Q75, Option.map_eq_some_iff] at he
    obtain ⟨⟨l, k⟩, hra, rfl⟩ := he
    obtain ⟨hh, hm⟩ := rowAt_eq hra
    obtain ⟨hf, hver, hR⟩ := hI.obj id _ L hh hL
    obtain ⟨hhas, rfl⟩ := hxo hver.symm
    exact Gives.same hI (by simp [execOp, hop, ho]) (.ep σ sz id ver idx off _ rfl L hL hv hxo)
  | _ => cases he

theorem gives_fa (hI : Inv B w0 I σ w h) {t : TypeId} {fields : Array Field} (hu : P.underlying t = some (.struct fields)) {fi : Nat} {f : Field} (hf : fields[fi]? = some f) {tf : TI} (htf : TIok P f.type tf) (hsz : tf.size ≠ 0)
    {x : AV} {vx : Value} (hx : Rep I w σ x vx) {r : AV} (he : Q74 h f.offset x = some r) :
    Gives P B w0 I σ w (do pure (.value (← Instr.fieldAt t vx fi))) r h := by
  cases hx with
  | ptr _ id o L hL hfx =>
    cases he
    refine Gives.same hI (v := .pointer (some ⟨L.b, L.o + (o + f.offset), none⟩)) ?_ (.ptr σ id (o + f.offset) L hL hfx)
    simp [Instr.fieldAt, run_underlying hu, hf, Instr.sureAddr, fieldPlace, htf.sizeOf, hsz, Addr.add_lit, Nat.add_assoc]
  | ep _ sz id ver i o x h1x L hL hv hxo =>
    simp only [Q74, Option.map_eq_some_iff] at he
    obtain ⟨⟨l, k⟩, hra, rfl⟩ := he
    obtain ⟨hh, hm⟩ := rowAt_eq hra
    obtain ⟨_, hver, hR⟩ := hI.obj id _ L hh hL
    obtain ⟨hhas, rfl⟩ := hxo hver.symm
    refine Gives.same hI (v := .pointer (some ⟨L.b, L.o + (i * sz + (o + f.offset)), none⟩)) ?_ (.ep σ sz id ver i (o + f.offset) _ rfl L hL hv (fun _ => ⟨hhas, rfl⟩))
    simp [Instr.fieldAt, run_underlying hu, hf, Instr.sureAddr, fieldPlace, htf.sizeOf, hsz, Addr.add_lit, Nat.add_assoc]
  | ip _ cs b o g hc hi h1 hr =>
    cases he
    refine Gives.same hI (v := .pointer (some ⟨b, o + f.offset, none⟩)) ?_ (.ip σ (cs.drop f.offset) b (o + f.offset) (fun i => g (f.offset + i)) ?_ ?_ ?_ ?_)
    · simp [Instr.fieldAt, run_underlying hu, hf, Instr.sureAddr, fieldPlace, htf.sizeOf, hsz, Addr.add_lit]
    all_goals (intro i c hi'; rw [List.getElem?_drop] at hi')
    · rw [Nat.add_assoc]; exact hc _ c hi'
    · rw [Nat.add_assoc]; exact hi _ c hi'
    · exact h1 _ c hi'
    · exact hr _ c hi'
  | _ => cases he

theorem extract_getD (arr : Array Value) (off sz i : Nat) (hi : i < sz) (hle : off + sz ≤ arr.size) : (arr.extract off (off + sz)).getD i undef = arr.getD (off + i) undef := by
  rw [Array.getD_eq_getD_getElem?, Array.getD_eq_getD_getElem?, Array.getElem?_extract]
  rw [if_pos (by omega)]

theorem gives_fld (hI : Inv B w0 I σ w h) {t : TypeId} {fields : Array Field} (hu : P.underlying t = some (.struct fields)) {fi : Nat} {f : Field} (hf : fields[fi]? = some f) {tf : TI} (htf : TIok P f.type tf)
    {cs : List AV} {vx : Value} (hx : Rep I w σ (.agg cs) vx) (hle : f.offset + tf.size ≤ cs.length) {r : AV} (he : Q77 tf.agg ((cs.drop f.offset).take tf.size) = some r) :
    Gives P B w0 I σ w (do pure (.value (← Instr.field t vx fi))) r h := by
  cases hx with
  | agg _ _ arr hs h1 hr =>
    unfold Q77 at he
    cases hg : tf.agg with
    | true =>
      simp only [hg, if_true, Option.some.injEq] at he
      subst he
      refine Gives.same hI (v := .agg (arr.extract f.offset (f.offset + tf.size))) ?_ ?_
      · simp [Instr.field, run_underlying hu, hf, asAgg, part, htf.isAgg, hg, htf.sizeOf]
      · refine .agg σ _ _ (by simp; omega) (fun i c hi => ?_) (fun i c hi => ?_)
        · obtain ⟨g1, g2⟩ := drop_take_get cs f.offset _ i c hi
          rw [extract_getD _ _ _ _ g2 (by omega)]; exact h1 _ c g1
        · obtain ⟨g1, g2⟩ := drop_take_get cs f.offset _ i c hi
          rw [extract_getD _ _ _ _ g2 (by omega)]; exact hr _ c g1
    | false =>
      simp only [hg, Bool.false_eq_true, if_false] at he
      generalize hl : (cs.drop f.offset).take tf.size = l at he
      match l, he with
      | [c], he =>
        cases he
        have h0 : ((cs.drop f.offset).take tf.size)[0]? = some r := by rw [hl]; rfl
        obtain ⟨g1, g2⟩ := drop_take_get cs f.offset _ 0 r h0
        have hlt := (List.getElem?_eq_some_iff.1 g1).1
        simp only [Nat.add_zero] at hlt g1
        obtain ⟨u, hv, hu2⟩ := get_getD (arr := arr) (i := f.offset) (by omega)
        have := hr _ r g1
        rw [hu2] at this
        exact Gives.same hI (v := u) (by simp [Instr.field, run_underlying hu, hf, asAgg, part, htf.isAgg, hg, hv]) this

theorem gives_extract (hI : Inv B w0 I σ w h) {vs : List AV} {vx : Value} (hx : Rep I w σ (.tup vs) vx) {i : Nat} {r : AV} (he : vs[i]? = some r) :
    Gives P B w0 I σ w (do pure (.value (← Instr.extract vx i))) r h := by
  cases hx with
  | tup _ _ arr hs hr =>
    have hlt := (List.getElem?_eq_some_iff.1 he).1
    obtain ⟨u, hv, hu2⟩ := get_getD (arr := arr) (i := i) (by omega)
    have := hr i r he
    rw [hu2] at this
    exact Gives.same hI (v := u) (by simp [Instr.extract, hv]) this

theorem natO_eq {vars env : List AV} {x : Opd} {n : Nat} (hn : natO vars env x = some n) {v : Value} (hx : Rep I w σ (getO vars env x) v) : ∃ k, v = .int k (n : Int) := by
  unfold natO at hn
  split at hn
  · rename_i k m hm
    split at hn
    · cases hn
      rw [hm] at hx
      cases hx
      exact ⟨k, by congr 1; omega⟩
    · cases hn
  · cases hn

theorem gives_ia (hI : Inv B w0 I σ w h) {t e : TypeId} {i : TI} (hu : P.underlying t = some (.slice e)) (ht : TIok P e i) {vars env : List AV} {x j : Opd} {vx vj : Value}
    (hx : Rep I w σ (getO vars env x) vx) (hj : Rep I w σ (getO vars env j) vj) {r : AV} (he : evIa vars env h i.size x j = some r) :
    Gives P B w0 I σ w (do pure (.value (← Instr.indexAt t vx vj))) r h := by
  unfold evIa at he
  split at he
  · rename_i sz' ex nn l jn hgx hgj
    rw [hgx] at hx
    obtain ⟨k, rfl⟩ := natO_eq hgj hj
    split at he
    · rename_i el hel
      split at he
      · rename_i hsz; subst hsz
        cases he
        cases hx with
        | slc _ _ _ _ _ a cap b o g ha hn hnil hcap hex hsz hc hi h1 hr =>
          have hne : l ≠ [] := by rintro rfl; simp at hel
          have hlt := (List.getElem?_eq_some_iff.1 hel).1
          rw [ha hne]
          refine Gives.same hI (v := .pointer (some ⟨b, o + jn * i.size, none⟩)) ?_ (.ip σ el.cells b (o + jn * i.size) (fun q => g jn q) ?_ ?_ ?_ ?_)
          · have h0 : (0 : Int) ≤ (jn : Int) ∧ (jn : Int) < (l.length : Int) := by omega
            simp only [Instr.indexAt, asIntOf, Sem.run_bind, Sem.run_pure, Result.andThen_ok, run_underlying hu, Sem.run_ite, if_pos h0, ht.sizeOf, Addr.add_lit, Int.toNat_natCast]
          · intro q c hq; rw [Nat.add_assoc]; exact hc jn el q c hel hq
          · intro q c hq; rw [Nat.add_assoc]; exact hi jn el q c hel hq
          · intro q c hq; exact h1 jn el q c hel hq
          · intro q c hq; exact hr jn el q c hel hq
      · cases he
    · cases he
  · rename_i sz' id ver off n jn hgx hgj
    rw [hgx] at hx
    obtain ⟨k, rfl⟩ := natO_eq hgj hj
    split at he
    · rename_i hc
      obtain ⟨rfl, hlt⟩ := hc
      simp only [Option.map_eq_some_iff] at he
      obtain ⟨⟨l, k'⟩, hra, rfl⟩ := he
      obtain ⟨hh, hm⟩ := rowAt_eq hra
      cases hx with
      | own _ _ _ _ _ _ x h1x L hL hv hxo =>
        obtain ⟨_, hver, hR⟩ := hI.obj id _ L hh hL
        rcases hxo hver.symm with ⟨hhas, hcap, rfl⟩ | ⟨rfl, a, rfl⟩
        · refine Gives.same hI (v := .pointer (some ⟨L.b, L.o + ((off + jn) * i.size + 0), none⟩)) ?_ (.ep σ i.size id ver (off + jn) 0 _ rfl L hL hv (fun _ => ⟨hhas, rfl⟩))
          have : L.o + off * i.size + jn * i.size = L.o + ((off + jn) * i.size + 0) := by rw [Nat.add_mul]; omega
          have h0 : (0 : Int) ≤ (jn : Int) ∧ (jn : Int) < (n : Int) := by omega
          simp only [Instr.indexAt, asIntOf, Sem.run_bind, Sem.run_pure, Result.andThen_ok, run_underlying hu, Sem.run_ite, if_pos h0, ht.sizeOf, Addr.add_lit, Int.toNat_natCast, this]
        · omega
    · cases he
  · cases he

theorem gives_iaa (hI : Inv B w0 I σ w h) {t e : TypeId} {n : Nat} {i : TI} (hu : P.underlying t = some (.array n e)) (ht : TIok P e i) {vars env : List AV} {x j : Opd} {vx vj : Value}
    (hx : Rep I w σ (getO vars env x) vx) (hj : Rep I w σ (getO vars env j) vj) {r : AV} {h' : List AO} {call : CallF} (he : evOp call vars env h (.iaa n i.size x j) = some (r, h')) :
    Gives P B w0 I σ w (do pure (.value (← Instr.indexAt t vx vj))) r h' := by
  simp only [evOp] at he
  split at he
  · rename_i id o jn hgx hgj
    rw [hgx] at hx
    obtain ⟨k, rfl⟩ := natO_eq hgj hj
    split at he
    · rename_i hlt
      cases he
      cases hx with
      | ptr _ id o L hL hfx =>
        refine Gives.same hI (v := .pointer (some ⟨L.b, L.o + (o + jn * i.size), none⟩)) ?_ (.ptr σ id (o + jn * i.size) L hL hfx)
        have h0 : (0 : Int) ≤ (jn : Int) ∧ (jn : Int) < (n : Int) := by omega
        simp only [Instr.indexAt, Instr.sureAddr, asIntOf, Sem.run_bind, Sem.run_pure, Result.andThen_ok, run_underlying hu, Sem.run_ite, if_pos h0, ht.sizeOf, Addr.add_lit, Int.toNat_natCast, Nat.add_assoc]
    · cases he
  · rename_i cs jn hgx hgj
    rw [hgx] at hx
    obtain ⟨k, rfl⟩ := natO_eq hgj hj
    split at he
    · rename_i hlt
      cases he
      cases hx with
      | ip _ cs b o g hc hi h1 hr =>
        refine Gives.same hI (v := .pointer (some ⟨b, o + jn * i.size, none⟩)) ?_ (.ip σ (cs.drop (jn * i.size)) b (o + jn * i.size) (fun q => g (jn * i.size + q)) ?_ ?_ ?_ ?_)
        · have h0 : (0 : Int) ≤ (jn : Int) ∧ (jn : Int) < (n : Int) := by omega
          simp only [Instr.indexAt, Instr.sureAddr, asIntOf, Sem.run_bind, Sem.run_pure, Result.andThen_ok, run_underlying hu, Sem.run_ite, if_pos h0, ht.sizeOf, Addr.add_lit, Int.toNat_natCast]
        all_goals (intro q c hi'; rw [List.getElem?_drop] at hi')
        · rw [Nat.add_assoc]; exact hc _ c hi'
        · rw [Nat.add_assoc]; exact hi _ c hi'
        · exact h1 _ c hi'
        · exact hr _ c hi'
    · cases he
  · cases he
theorem gives_ixa (hI : Inv B w0 I σ w h) {t e : TypeId} {n : Nat} {i : TI} (hu : P.underlying t = some (.array n e)) (ht : TIok P e i) {vars env : List AV} {x j : Opd} {vx vj : Value}
    (hx : Rep I w σ (getO vars env x) vx) (hj : Rep I w σ (getO vars env j) vj) {r : AV} {h' : List AO} {call : CallF} (he : evOp call vars env h (.ixa n i.agg i.size x j) = some (r, h')) :
    Gives P B w0 I σ w (do pure (.value (← Instr.index t vx vj))) r h' := by
  simp only [evOp] at he
  split at he
  · rename_i cs jn hgx hgj
    rw [hgx] at hx
    obtain ⟨k, rfl⟩ := natO_eq hgj hj
    split at he
    · rename_i hlt
      obtain ⟨v, hv, he⟩ := Option.map_eq_some_iff.1 he
      cases he
      have h0 : (0 : Int) ≤ (jn : Int) ∧ (jn : Int) < (n : Int) := by omega
      cases hx with
      | agg _ _ arr hs h1 hr =>
        unfold Q77 at hv
        cases hg : i.agg with
        | true =>
          simp only [hg, if_true, Option.some.injEq] at hv
          subst hv
          refine Gives.same hI (v := .agg (arr.extract (jn * i.size) (jn * i.size + i.size))) ?_ ?_
          · simp [Instr.index, asIntOf, run_underlying hu, h0, part, ht.isAgg, hg, ht.sizeOf, hlt.1]
          · refine .agg σ _ _ (by simp; omega) (fun q c hi => ?_) (fun q c hi => ?_)
            · obtain ⟨g1, g2⟩ := drop_take_get cs (jn * i.size) _ q c hi
              rw [extract_getD _ _ _ _ g2 (by omega)]; exact h1 _ c g1
            · obtain ⟨g1, g2⟩ := drop_take_get cs (jn * i.size) _ q c hi
              rw [extract_getD _ _ _ _ g2 (by omega)]; exact hr _ c g1
        | false =>
          simp only [hg, Bool.false_eq_true, if_false] at hv
          generalize hl : (cs.drop (jn * i.size)).take i.size = l at hv
          match l, hv with
          | [c], hv =>
            cases hv
            have h0' : ((cs.drop (jn * i.size)).take i.size)[0]? = some r := by rw [hl]; rfl
            obtain ⟨g1, g2⟩ := drop_take_get cs (jn * i.size) _ 0 r h0'
            have hlt' := (List.getElem?_eq_some_iff.1 g1).1
            simp only [Nat.add_zero] at hlt' g1
            obtain ⟨u, hv, hu2⟩ := get_getD (arr := arr) (i := jn * i.size) (by omega)
            have := hr _ r g1
            rw [hu2] at this
            exact Gives.same hI (v := u) (by simp [Instr.index, asIntOf, run_underlying hu, h0, part, ht.isAgg, hg, ht.sizeOf, hv, hlt.1]) this
    · cases he
  · cases he

theorem gives_ixs (hI : Inv B w0 I σ w h) {t : TypeId} (hu : P.underlying t = some .string) {s : ByteArray} {vx : Value} (hx : Rep I w σ (.v (.string s)) vx) {vars env : List AV} {j : Opd} {vj : Value} (hj : Rep I w σ (getO vars env j) vj) {n : Nat} (hn : natO vars env j = some n)
    {b : UInt8} (hb : s[n]? = some b) : Gives P B w0 I σ w (do pure (.value (← Instr.index t vx vj))) (.v (.int .u8 b.toNat)) h := by
  obtain ⟨k, rfl⟩ := natO_eq hn hj
  cases hx
  exact Gives.same hI (by simp [Instr.index, asIntOf, run_underlying hu, hb]) (.v σ _)
end
end Go.AE
end

/-! AE, part 14: conversions, slice expressions, lengths, ranges over strings. -/
section
set_option linter.unusedVariables false
set_option linter.unusedSimpArgs false
namespace Go.AE
open Go Go.RowKit

section
variable {P : Program} {B : Nat} {w0 w w' : World} {I I' : Cells} {σ σ' : List Loc} {h : List AO}

theorem gives_conv (hI : Inv B w0 I σ w h) {src dst : TypeId} {d : TypeDesc} {k : IntKind} (hs : P.underlying src = some d) (hd : P.underlying dst = some (.int k)) {kk : IntKind} {n : Int} {vx : Value} (hx : Rep I w σ (.v (.int kk n)) vx) :
    Gives P B w0 I σ w (do pure (.value (← convert src dst vx))) (.v (.int k (k.wrap n))) h := by
  cases hx
  refine Gives.same hI ?_ (.v σ _)
  simp only [convert, Sem.run_bind, run_underlying hs, run_underlying hd, Result.andThen_ok, Conv.intToInt, Sem.run_pure]

theorem gives_same (hI : Inv B w0 I σ w h) {src dst : TypeId} {d : TypeDesc} (hs : P.underlying src = some d) (hd : P.underlying dst = some .string) {s : ByteArray} {vx : Value} (hx : Rep I w σ (.v (.string s)) vx) :
    Gives P B w0 I σ w (do pure (.value (← convert src dst vx))) (.v (.string s)) h := by
  cases hx
  refine Gives.same hI ?_ (.v σ _)
  cases d <;> simp only [convert, Sem.run_bind, run_underlying hs, run_underlying hd, Result.andThen_ok, Sem.run_pure]

theorem run_bound {vars env : List AV} {x : Opd} {n : Nat} (hn : natO vars env x = some n) {v : Value} (hx : Rep I w σ (getO vars env x) v) {y : Nat} (hy : n ≤ y) (c : BoundsCode) :
    (Instr.sliceBound v y c).run P w = .ok n w := by
  obtain ⟨k, rfl⟩ := natO_eq hn hx
  have h0 : (0 : Int) ≤ (n : Int) ∧ (n : Int) ≤ (y : Int) := by omega
  simp only [Instr.sliceBound, asIntOf, Sem.run_bind, Sem.run_pure, Result.andThen_ok, Sem.run_ite, if_pos h0, Int.toNat_natCast]

def OptOk (I : Cells) (w : World) (σ : List Loc) (vars env : List AV) : Option Opd → Option Value → Prop
  | none, none => True
  | some x, some v => Rep I w σ (getO vars env x) v
  | _, _ => False

theorem run_low {vars env : List AV} {lo : Option Opd} {lov : Option Value} (hlo : OptOk I w σ vars env lo lov) {l y : Nat} (hl : optN vars env 0 lo = some l) (hy : l ≤ y) (c : BoundsCode) :
    (match lov with
      | some v => Instr.sliceBound v y c
      | none => (pure 0 : Sem Nat)).run P w = .ok l w := by
  cases lo with
  | none =>
    cases lov with
    | none => simp only [optN, Option.some.injEq] at hl; subst hl; rfl
    | some v => exact hlo.elim
  | some x =>
    cases lov with
    | none => exact hlo.elim
    | some v => exact run_bound hl hlo hy c

theorem run_bounds {vars env : List AV} {len top cap : Nat} {lo hi mx : Option Opd} {lov hiv mxv : Option Value} (hlo : OptOk I w σ vars env lo lov) (hhi : OptOk I w σ vars env hi hiv) (hmx : OptOk I w σ vars env mx mxv)
    {l hh : Nat} {m : Option Nat} (he : bounds vars env len top lo hi mx = some (l, hh, m)) (htop : top ≤ cap) (isSlice : Bool) :
    (Instr.sliceBounds isSlice len cap lov hiv mxv).run P w = .ok (l, hh, m.getD cap) w ∧ l ≤ hh ∧ hh ≤ m.getD top ∧ m.getD top ≤ top := by
  unfold bounds at he
  split at he
  · cases mxv with
    | some v => exact hmx.elim
    | none =>
      split at he
      · rename_i h' l' e1 e2
        split at he
        · rename_i hc
          simp only [Option.some.injEq, Prod.mk.injEq] at he
          obtain ⟨rfl, rfl, rfl⟩ := he
          refine ⟨?_, hc.1, hc.2, Nat.le_refl _⟩
          have low := run_low (P := P) hlo e2 hc.1 .sliceB
          cases hi with
          | none =>
            cases hiv with
            | some v => exact hhi.elim
            | none =>
              simp only [optN, Option.some.injEq] at e1
              subst e1
              simp only [Instr.sliceBounds, Sem.run_bind, Sem.run_pure, Result.andThen_ok, Option.isSome_none, Bool.false_eq_true, if_false, low, Option.getD_none]
              cases lov with
              | none => simp only [Sem.run_pure, Result.ok.injEq, and_true] at low; subst low; rfl
              | some v => simp only [Sem.run_bind, low, Result.andThen_ok, Sem.run_pure]
          | some x =>
            cases hiv with
            | none => exact hhi.elim
            | some v =>
              have hb := run_bound (P := P) e1 hhi (y := cap) (by omega) (if isSlice then .sliceAcap else .sliceAlen)
              simp only [Instr.sliceBounds, Sem.run_bind, Sem.run_pure, Result.andThen_ok, hb, Option.isSome_none, Bool.false_eq_true, if_false, low, Option.getD_none]
              cases lov with
              | none => simp only [Sem.run_pure, Result.ok.injEq, and_true] at low; subst low; rfl
              | some v => simp only [Sem.run_bind, low, Result.andThen_ok, Sem.run_pure]
        · cases he
      · cases he
  · cases mxv with
    | none => exact hmx.elim
    | some v =>
      split at he
      · cases he
      · cases hiv with
        | none => exact hhi.elim
        | some u =>
          split at he
          · rename_i m' h' l' e0 e1 e2
            split at he
            · rename_i hc
              simp only [Option.some.injEq, Prod.mk.injEq] at he
              obtain ⟨rfl, rfl, rfl⟩ := he
              refine ⟨?_, hc.1, hc.2.1, hc.2.2⟩
              have low := run_low (P := P) hlo e2 hc.1 .slice3C
              have hb := run_bound (P := P) e0 hmx (y := cap) (by omega) (if isSlice then .slice3Acap else .slice3Alen)
              have hb2 := run_bound (P := P) e1 hhi (y := m') hc.2.1 .slice3B
              simp only [Instr.sliceBounds, Sem.run_bind, Sem.run_pure, Result.andThen_ok, hb, hb2, Option.isSome_some, if_true, low, Option.getD_some]
              cases lov with
              | none => simp only [Sem.run_pure, Result.ok.injEq, and_true] at low; subst low; rfl
              | some v => simp only [Sem.run_bind, low, Result.andThen_ok, Sem.run_pure]
            · cases he
          · cases he

theorem take_all_len {α : Type} (xs : List α) (l hh : Nat) (h1 : l ≤ hh) (h2 : hh ≤ xs.length) : ((xs.drop l).take (hh - l)).length = hh - l := by simp; omega

theorem take_drop_len' {α : Type} {l : List α} {off n : Nat} (h : off + n ≤ l.length) : ((l.drop off).take n).length = n := by simp; omega
theorem bounds_top {vars env : List AV} {len cap : Nat} {lo hi mx : Option Opd} {l hh m : Nat} (hb : bounds vars env len cap lo hi mx = some (l, hh, some m)) : m ≤ cap := by
  unfold bounds at hb
  split at hb
  · split at hb
    · split at hb
      · cases hb
      · cases hb
    · cases hb
  · split at hb
    · cases hb
    · split at hb
      · split at hb
        · rename_i hc
          simp only [Option.some.injEq, Prod.mk.injEq] at hb
          obtain ⟨_, _, rfl⟩ := hb
          exact hc.2.2
        · cases hb
      · cases hb

theorem gives_slice (hI : Inv B w0 I σ w h) {t e : TypeId} {i : TI} (hu : P.underlying t = some (.slice e)) (ht : TIok P e i) {vars env : List AV} {x : AV} {vx : Value} (hx : Rep I w σ x vx)
    {lo hi mx : Option Opd} {lov hiv mxv : Option Value} (hlo : OptOk I w σ vars env lo lov) (hhi : OptOk I w σ vars env hi hiv) (hmx : OptOk I w σ vars env mx mxv) {r : AV} (he : evSlice vars env h i.size x lo hi mx = some r) :
    Gives P B w0 I σ w (do pure (.value (← Instr.sliceAt t vx lov hiv mxv))) r h := by
  have hrun : ∀ (a : Option Addr) (len cap l hh m : Nat), (Instr.sliceBounds true len cap lov hiv mxv).run P w = .ok (l, hh, m) w →
      (do pure (.value (← Instr.sliceAt t (.slice a len cap) lov hiv mxv)) : Sem Next).run P w = .ok (.value (.slice (if m = l then a else a.map (·.add (l * i.size))) (hh - l) (m - l))) w := by
    intro a len cap l hh m hb
    simp only [Instr.sliceAt, Sem.run_bind, run_underlying hu, Result.andThen_ok, Instr.slice, hb, ht.sizeOf, Sem.run_pure]
  unfold evSlice at he
  split at he
  · simp only [Option.bind_eq_bind, Option.bind_eq_some_iff] at he
    obtain ⟨⟨l, hh, m⟩, hb, he⟩ := he
    simp only [Option.pure_def, Option.some.injEq] at he
    subst he
    cases hx
    obtain ⟨g1, g2, g3, g4⟩ := run_bounds (P := P) hlo hhi hmx hb (Nat.le_refl _) true
    have hl0 : l = 0 := by omega
    have hh0 : hh = 0 := by omega
    subst hl0; subst hh0
    have hm0 : m.getD 0 = 0 := by omega
    rw [hm0] at g1
    exact Gives.same hI (v := .slice none 0 0) (by rw [hrun _ _ _ _ _ _ g1]; simp) (.v σ _)
  · rename_i sz' ex nn xs
    split at he
    · rename_i hsz; subst hsz
      simp only [Option.bind_eq_bind, Option.bind_eq_some_iff] at he
      obtain ⟨⟨l, hh, m⟩, hb, he⟩ := he
      cases hx with
      | slc _ _ _ _ _ a cap b o g ha hn hnil hcap hex hsz hc hi' h1 hr =>
        obtain ⟨g1, g2, g3, g4⟩ := run_bounds (P := P) hlo hhi hmx hb hcap true
        have hhl : hh ≤ xs.length := by omega
        have hlen := take_all_len xs l hh g2 hhl
        -- the part as a slice, whatever its capacity
        have key : ∀ (cap' m' : Nat) (ex' : Bool), hh ≤ m' → cap' = m' - l → (a = none → m' = 0) → (ex' = true → cap' = hh - l) →
            Rep I w σ (.slc i.size ex' nn ((xs.drop l).take (hh - l))) (.slice (if m' = l then a else a.map (·.add (l * i.size))) (hh - l) cap') := by
          intro cap' m' ex' hm hc' hna hex'
          have r0 := Rep.slc (I := I) (w := w) σ i.size ex' nn ((xs.drop l).take (hh - l)) (if m' = l then a else a.map (·.add (l * i.size))) cap' b (o + l * i.size) (fun j q => g (l + j) q)
            (fun hne => by
              have hlt : l < hh := by
                rcases Nat.lt_or_ge l hh with h1 | h1
                · exact h1
                · exfalso; apply hne; rw [show hh - l = 0 by omega]; simp
              have hxne : xs ≠ [] := by rintro rfl; simp at hhl; omega
              rw [if_neg (by omega), ha hxne]
              simp [Addr.add_lit])
            (fun hnn => by
              have := hn hnn
              split
              · exact this
              · cases a with
                | none => exact absurd rfl this
                | some ad => simp)
            (fun e => by
              have : a = none := by
                split at e
                · exact e
                · simpa using e
              have := hna this
              omega)
            (by rw [hlen]; omega) (by rw [hlen]; exact hex') (fun j el e => hsz _ el (drop_take_get xs l _ j el e).1)
            (fun j el q c e f => by
              have := hc _ el q c (drop_take_get xs l _ j el e).1 f
              rwa [show o + l * i.size + (j * i.size + q) = o + ((l + j) * i.size + q) by rw [Nat.add_mul]; omega])
            (fun j el q c e f => by
              have := hi' _ el q c (drop_take_get xs l _ j el e).1 f
              rwa [show o + l * i.size + (j * i.size + q) = o + ((l + j) * i.size + q) by rw [Nat.add_mul]; omega])
            (fun j el q c e f => h1 _ el q c (drop_take_get xs l _ j el e).1 f) (fun j el q c e f => hr _ el q c (drop_take_get xs l _ j el e).1 f)
          rw [hlen] at r0
          exact r0
        simp only at he
        split at he
        · rename_i m'
          split at he
          · rename_i hmh
            simp only [Option.pure_def, Option.some.injEq] at he
            subst he; subst hmh
            simp only [Option.getD_some] at g1 g3 g4
            refine Gives.same hI (hrun _ _ _ _ _ _ g1) (key (m' - l) m' true (Nat.le_refl _) rfl (fun e => ?_) (fun _ => rfl))
            have := hnil e; omega
          · cases he
        · simp only [Option.pure_def, Option.some.injEq] at he
          subst he
          simp only [Option.getD_none] at g1 g3 g4
          refine Gives.same hI (hrun _ _ _ _ _ _ g1) (key (cap - l) cap _ (by omega) rfl hnil (fun e => ?_))
          simp only [Bool.and_eq_true, beq_iff_eq] at e
          have := hex e.1
          omega
    · cases he
  · rename_i sz' id ver off n
    split at he
    · rename_i hsz; subst hsz
      split at he
      · obtain ⟨⟨l, hh, m⟩, hb, rfl⟩ := Option.map_eq_some_iff.1 he
        simp only
        cases hx with
        | own _ _ _ _ _ _ x h1x L hL hv hxo =>
          obtain ⟨a0, cap0, hxe, hn0⟩ := h1x
          subst hxe
          have hmn : m = none := by
            unfold bounds at hb
            simp only at hb
            split at hb
            · split at hb
              · cases hb; rfl
              · cases hb
            · cases hb
          subst hmn
          obtain ⟨g1, g2, g3, g4⟩ := run_bounds (P := P) hlo hhi hmx hb hn0 true
          simp only [Option.getD_none] at g1 g3 g4
          refine Gives.same hI (hrun _ _ _ _ _ _ g1) (.own σ i.size id ver (off + l) (hh - l) _ ⟨_, _, rfl, by omega⟩ L hL hv (fun hver => ?_))
          rcases hxo hver with ⟨hhas, hcap, hxe⟩ | ⟨rfl, a, hxe⟩
          · simp only [Value.slice.injEq, true_and] at hxe
            obtain ⟨rfl, rfl⟩ := hxe
            by_cases hcl : L.cap - off = l
            · right
              refine ⟨by omega, some ⟨L.b, L.o + off * i.size, none⟩, ?_⟩
              rw [if_pos hcl, show hh - l = 0 by omega, show L.cap - off - l = 0 by omega]
            · left
              refine ⟨hhas, by omega, ?_⟩
              rw [if_neg hcl]
              simp only [Option.map_some, Addr.add_lit]
              rw [show L.o + off * i.size + l * i.size = L.o + (off + l) * i.size by rw [Nat.add_mul]; omega, show L.cap - off - l = L.cap - (off + l) by omega]
          · simp only [Value.slice.injEq, true_and] at hxe
            obtain ⟨rfl, rfl⟩ := hxe
            refine .inr ⟨by omega, a0, ?_⟩
            have hl0 : l = 0 := by omega
            have hh0 : hh = 0 := by omega
            subst hl0; subst hh0
            simp
      simp only [Option.bind_eq_bind, Option.bind_eq_some_iff] at he
      obtain ⟨⟨xs, k⟩, hra, ⟨l, hh, m⟩, hb, he⟩ := he
      obtain ⟨ho, hm⟩ := rowAt_eq hra
      simp only at he
      split at he
      · rename_i m'
        split at he
        · rename_i hml
          subst hml
          simp only [Option.pure_def, Option.some.injEq] at he
          subst he
          cases hx with
          | own _ _ _ _ _ _ x h1x L hL hv hxo =>
            obtain ⟨hf, hver, hR⟩ := hI.obj _ _ L ho hL
            have fin : ∀ (a : Option Addr) (len cap : Nat), n ≤ cap → len = n → vx = Value.slice a len cap → Gives P B w0 I σ w (do pure (.value (← Instr.sliceAt t vx lov hiv mxv))) (.slc i.size true false []) h := by
              rintro a len cap hle rfl rfl
              obtain ⟨g1, g2, g3, g4⟩ := run_bounds (P := P) hlo hhi hmx hb hle true
              simp only [Option.getD_some] at g1 g3 g4
              have hhm : hh = m' := by omega
              subst hhm
              have hr := hrun a len cap hh hh hh g1
              rw [if_pos rfl, Nat.sub_self] at hr
              refine Gives.same hI hr (.slc σ i.size true false [] a 0 0 0 (fun _ _ => undef) (fun e => absurd rfl e) (fun e => by cases e) (fun _ => rfl) (Nat.le_refl _) (fun _ => rfl) ?_ ?_ ?_ ?_ ?_) <;> (intros; simp_all)
            rcases hxo hver.symm with ⟨hhas, hcap, rfl⟩ | ⟨rfl, a, rfl⟩
            · exact fin _ _ _ (by omega) rfl rfl
            · exact fin _ _ _ (Nat.le_refl _) rfl rfl
        · rename_i hml
          split at he
          · rename_i hc2
            obtain ⟨rfl, hk2⟩ := hc2
            simp only [Option.pure_def, Option.some.injEq] at he
            subst he
            cases hx with
            | own _ _ _ _ _ _ x h1x L hL hv hxo =>
              obtain ⟨hf, hver, hR⟩ := hI.obj _ _ L ho hL
              rcases hxo hver.symm with ⟨hhas, hcap, rfl⟩ | ⟨rfl, a, rfl⟩
              · obtain ⟨g1, g2, g3, g4⟩ := run_bounds (P := P) hlo hhi hmx hb (cap := L.cap - off) (by omega) true
                simp only [Option.getD_some] at g1 g3 g4
                have hb4 := bounds_top hb
                have hne : xs ≠ [] := by
                  rintro rfl
                  simp at hm; omega
                obtain ⟨_, _, _, _, hsz, g, hc, h1, hr⟩ := hI.row_cells ho hL hne
                have himm : ∀ j q, j < k → q < i.size → I L.b (L.o + (j * i.size + q)) := by
                  rcases hR.lies with ⟨h0, _⟩ | ⟨_, arr, _, _, _, _, _, h6, _⟩
                  · exact absurd h0 hne
                  · exact h6
                have hlen := take_drop_len' (l := xs) (off := off + l) (n := m' - l) (by omega)
                have key := Rep.slc (I := I) (w := w) σ i.size true false ((xs.drop (off + l)).take (m' - l)) (some ⟨L.b, L.o + (off + l) * i.size, none⟩) (m' - l) L.b (L.o + (off + l) * i.size) (fun j q => g (off + l + j) q) (fun _ => rfl) (fun e => by cases e)
                  (fun e => by cases e) (by rw [hlen]; exact Nat.le_refl _) (fun _ => hlen.symm) (fun j el e => hsz _ el (drop_take_get xs (off + l) (m' - l) j el e).1)
                  (fun j el q c e f => by
                    have := hc _ el q c (drop_take_get xs (off + l) (m' - l) j el e).1 f
                    rwa [show L.o + (off + l) * i.size + (j * i.size + q) = L.o + ((off + l + j) * i.size + q) by rw [Nat.add_mul (off + l) j]; omega])
                  (fun j el q c e f => by
                    have h2 := drop_take_get xs (off + l) (m' - l) j el e
                    have hi : q < i.size := by
                      have := (List.getElem?_eq_some_iff.1 f).1
                      rwa [hsz _ el h2.1] at this
                    have := himm (off + l + j) q (by omega) hi
                    rwa [show L.o + (off + l) * i.size + (j * i.size + q) = L.o + ((off + l + j) * i.size + q) by rw [Nat.add_mul (off + l) j]; omega])
                  (fun j el q c e f => h1 _ el q c (drop_take_get xs (off + l) (m' - l) j el e).1 f) (fun j el q c e f => hr _ el q c (drop_take_get xs (off + l) (m' - l) j el e).1 f)
                rw [hlen] at key
                refine Gives.same hI (hrun _ _ _ _ _ _ g1) ?_
                rw [if_neg hml]
                simp only [Option.map_some, Addr.add_lit]
                rw [show L.o + off * i.size + l * i.size = L.o + (off + l) * i.size by rw [Nat.add_mul]; omega]
                exact key
              · exfalso
                have hb4 := bounds_top hb
                have : l ≤ m' := (run_bounds (P := P) hlo hhi hmx hb (cap := 0) (by omega) true).2.1
                omega
          · cases he
      · cases he
    · cases he
  · cases he
theorem gives_sslice (hI : Inv B w0 I σ w h) {t : TypeId} (hu : P.underlying t = some .string) {vars env : List AV} {s : ByteArray} {vx : Value} (hx : Rep I w σ (.v (.string s)) vx)
    {lo hi : Option Opd} {lov hiv : Option Value} (hlo : OptOk I w σ vars env lo lov) (hhi : OptOk I w σ vars env hi hiv) {l hh : Nat} {m : Option Nat} (he : bounds vars env s.size s.size lo hi none = some (l, hh, m)) :
    Gives P B w0 I σ w (do pure (.value (← Instr.sliceAt t vx lov hiv none))) (.v (.string (s.extract l hh))) h := by
  cases hx
  obtain ⟨g1, g2, g3, g4⟩ := run_bounds (P := P) (mx := none) (mxv := none) hlo hhi trivial he (Nat.le_refl _) false
  refine Gives.same hI ?_ (.v σ _)
  simp only [Instr.sliceAt, Sem.run_bind, run_underlying hu, Result.andThen_ok, Instr.slice, Option.isSome_none, Bool.false_eq_true, if_false, g1, Sem.run_pure]

def LenK.ok : LenK → TypeDesc → Bool
  | .slice, .slice _ => true
  | .string, .string => true
  | .map, .map _ _ => true
  | _, _ => false

theorem gives_mm (hI : Inv B w0 I σ w h) {ats : Array TypeId} {ty : TypeId} {mx : Bool} {k k' : IntKind} {a b : Int} {vx vy : Value} (hx : Rep I w σ (.v (.int k a)) vx) (hy : Rep I w σ (.v (.int k' b)) vy) :
    Gives P B w0 I σ w (do pure (.value (← if mx then Builtin.max_ ats ty #[vx, vy] else Builtin.min_ ats ty #[vx, vy]))) (.v (.int k (if mx then (if a < b then b else a) else (if b < a then b else a)))) h := by
  cases hx
  cases hy
  cases mx
  · exact Gives.same hI (by simp [Builtin.min_, Builtin.min2]) (.v σ _)
  · exact Gives.same hI (by simp [Builtin.max_, Builtin.max2]) (.v σ _)

theorem gives_len (hI : Inv B w0 I σ w h) {t ty : TypeId} {d : TypeDesc} (hu : P.underlying t = some d) {k : LenK} (hk : k.ok d = true) {x : AV} {vx : Value} (hx : Rep I w σ x vx) {n : Nat} (he : evLen h k x = some n) :
    Gives P B w0 I σ w (do pure (.value (← Builtin.len_ #[t] ty #[vx]))) (.v (.int .i64 n)) h := by
  unfold evLen at he
  split at he <;> first | (cases he; done) | skip
  · cases hx; cases he
    cases d <;> simp [LenK.ok] at hk
    exact Gives.same hI (by simp [Builtin.len_, run_underlying hu, goInt]) (.v σ _)
  · cases he
    cases hx with
    | slc _ _ _ _ _ a cap b o g ha hn hnil hcap hex hsz hc hi h1 hr =>
      cases d <;> simp [LenK.ok] at hk
      exact Gives.same hI (by simp [Builtin.len_, run_underlying hu, goInt]) (.v σ _)
  · cases he
    cases hx with
    | own _ _ _ _ _ _ x h1x L hL hv hxo =>
      obtain ⟨a0, cap0, rfl, hn0⟩ := h1x
      cases d <;> simp [LenK.ok] at hk
      exact Gives.same hI (by simp [Builtin.len_, run_underlying hu, goInt]) (.v σ _)
  · cases hx; cases he
    cases d <;> simp [LenK.ok] at hk
    exact Gives.same hI (by simp [Builtin.len_, run_underlying hu, goInt]) (.v σ _)
  · cases hx with
    | mp _ id L hL hf =>
      split at he
      · rename_i es ho
        cases he
        obtain ⟨_, _, entries, hb, hs, _⟩ := hI.obj _ _ L ho hL
        obtain ⟨clock, hclk⟩ : ∃ q, w.heap[L.b]? = some (.map entries q) := ⟨_, hb⟩
        cases d <;> simp [LenK.ok] at hk
        refine Gives.same hI (v := .int .i64 (es.length : Int)) ?_ (.v σ _)
        have : (getObj L.b).run P w = .ok (.map entries clock) w := by simp [getObj, Sem.run, hclk]
        simp [Builtin.len_, run_underlying hu, goInt, this, hs]
      · cases he
end
end Go.AE
end
