/- AE, part 15: operations compiled, and that they do what they are told to. -/
import Derived.Test.YtpgoibncgekflaaAexSmall2
set_option linter.unusedVariables false
set_option linter.unusedSimpArgs false
namespace Go.AE
open Go Go.RowKit

structure Tb where
  ty : TypeId → Option TI
  pureF : FuncId → Bool

def TbOk (P : Program) (T : Tb) : Prop := ∀ t i, T.ty t = some i → TIok P t i

def zok (i : TI) : Bool := i.zero.cells.toList.all (·.oneCell') && i.zero.cells.size == i.size
theorem zok_iff {i : TI} (h : zok i = true) : (∀ x ∈ i.zero.cells.toList, x.oneCell' = true) ∧ i.zero.cells.size = i.size := by
  simp only [zok, Bool.and_eq_true, List.all_eq_true, beq_iff_eq] at h
  exact h

def cOs (m : Tmp → Option Opd) (l : List Operand) : Option (List Opd) := l.mapM (cO m)
def cOo (m : Tmp → Option Opd) : Option Operand → Option (Option Opd)
  | none => some none
  | some x => (cO m x).map some

def placeOf (T : Tb) (f : Field) : Option (Nat × Nat) := (T.ty f.type).map fun i => (f.offset, i.size)

def compBin (T : Tb) (op : BinOp) (xt : TypeId) (x y : Opd) : Option COp :=
  match T.ty xt with
  | some i => match i.desc with
    | .int _ | .string => some (.bin op x y)
    | .bool => match op with
      | .eql => some (.eqv .bool false x y)
      | .neq => some (.eqv .bool true x y)
      | _ => none
    | .slice _ => match op with
      | .eql => some (.eqv .slice false x y)
      | .neq => some (.eqv .slice true x y)
      | _ => none
    | .pointer _ => match op with
      | .eql => some (.eqv .pointer false x y)
      | .neq => some (.eqv .pointer true x y)
      | _ => none
    | _ => none
  | none => none

def compOp (T : Tb) (m : Tmp → Option Opd) (o : Oper) : Option COp :=
  match o.op with
  | .move x | .assign x => (cO m x).map .mov
  | .pick c a b => match cO m c, cO m a, cO m b with
    | some c, some a, some b => some (.pick c a b)
    | _, _, _ => none
  | .alloc e => match T.ty e with
    | some i => some (.box (.k i.zero))
    | none => none
  | .box _ x => (cO m x).map .box
  | .build t parts => match T.ty t with
    | some i => match i.desc with
      | .struct fs => match fs.toList.mapM (placeOf T) with
        | some places => match parts.toList.mapM fun p => (places[p.1]?).bind fun q => (cO m p.2).map fun x => (q.1, q.2, x) with
          | some ps => if zok i then some (.build i.zero.cells.toList ps) else none
          | none => none
        | none => none
      | _ => none
    | none => none
  | .buildSlice t n parts => match T.ty t with
    | some i => match i.desc with
      | .slice e => match T.ty e with
        | some j => match parts.toList.mapM fun p => (cO m p.2).map fun x => (p.1, x) with
          | some ps => if zok j && decide (n * j.size ≤ 2 ^ 24) then some (.bslice j.size j.zero.cells.toList n ps) else none
          | none => none
        | none => none
      | _ => none
    | none => none
  | .load t a => match T.ty t, cO m a with
    | some i, some x => some (.load i.agg i.size x)
    | _, _ => none
  | .store t a x => match T.ty t, cO m a, cO m x with
    | some i, some a, some x => some (.store i.size a x)
    | _, _, _ => none
  | .nilCheck x => (cO m x).map .nilchk
  | .binOp op xt x y _ => match cO m x, cO m y with
    | some x, some y => compBin T op xt x y
    | _, _ => none
  | .unOp op _ x => (cO m x).map (.un op)
  | .convert src dst x => match T.ty src, T.ty dst, cO m x with
    | some i, some j, some x => match j.desc with
      | .int k => some (.conv k x)
      | .string => some (.same x)
      | _ => none
    | _, _, _ => none
  | .makeFunc fn first cap => match cOs m first.toList, cOs m cap.toList with
    | some p, some q => some (.mkfn fn p q)
    | _, _ => none
  | .makeSlice t l c => match T.ty t, cO m l, cO m c with
    | some i, some l, some c => match i.desc with
      | .slice e => match T.ty e with
        | some j => if zok j then some (.mkslice j.size j.bytes j.zero.cells.toList l c) else none
        | none => none
      | _ => none
    | _, _, _ => none
  | .slice t x lo hi mx => match T.ty t, cO m x, cOo m lo, cOo m hi, cOo m mx with
    | some i, some x, some lo, some hi, some mx => match i.desc with
      | .slice e => match T.ty e with
        | some j => some (.slice j.size x lo hi mx)
        | none => none
      | .string => match mx with
        | none => some (.sslice x lo hi)
        | some _ => none
      | _ => none
    | _, _, _, _, _ => none
  | .fieldAddr t x f => match T.ty t, cO m x with
    | some i, some x => match i.desc with
      | .struct fs => match fs[f]? with
        | some fd => match T.ty fd.type with
          | some j => if j.size = 0 then none else some (.fa fd.offset x)
          | none => none
        | none => none
      | _ => none
    | _, _ => none
  | .field t x f => match T.ty t, cO m x with
    | some i, some x => match i.desc with
      | .struct fs => match fs[f]? with
        | some fd => match T.ty fd.type with
          | some j => some (.fld j.agg fd.offset j.size x)
          | none => none
        | none => none
      | _ => none
    | _, _ => none
  | .indexAddr t x i => match T.ty t, cO m x, cO m i with
    | some ti, some x, some i => match ti.desc with
      | .slice e => match T.ty e with
        | some j => some (.ia j.size x i)
        | none => none
      | _ => none
    | _, _, _ => none
  | .index t x i => match T.ty t, cO m x, cO m i with
    | some ti, some x, some i => match ti.desc with
      | .string => some (.ixs x i)
      | _ => none
    | _, _, _ => none
  | .extract x i => (cO m x).map fun x => .extract x i
  | .call c => match c.callee with
    | .value (.func f) => (cOs m c.args.toList).map (.call (T.pureF f) f)
    | .value (.tmp t) => match m t, cOs m c.args.toList with
      | some x, some args => some (.callv x args)
      | _, _ => none
    | .builtin .append => match c.args.toList, c.argTypes.toList with
      | [s, x], [t, t'] => match T.ty t, cO m s, cO m x with
        | some i, some s, some x => if t = t' then match i.desc with
          | .slice e => match T.ty e with
            | some j => if zok j then some (.append j.size j.bytes s x) else none
            | none => none
          | _ => none
          else none
        | _, _, _ => none
      | _, _ => none
    | .builtin .len => match c.args.toList, c.argTypes.toList with
      | [x], [t] => match T.ty t, cO m x with
        | some i, some x => match i.desc with
          | .slice _ => some (.len .slice x)
          | .string => some (.len .string x)
          | .map _ _ => some (.len .map x)
          | _ => none
        | _, _ => none
      | _, _ => none
    | _ => none
  | _ => none

/-- Arguments, one by one. -/
structure ArgsRep (I : Cells) (w : World) (σ : List Loc) (as : List AV) (vals : Array Value) : Prop where
  size : vals.size = as.length
  rep : ∀ (i : Nat) (a : AV), as[i]? = some a → Rep I w σ a (vals.getD i undef)

/-- What a function's call comes to. -/
def Ends (B : Nat) (w0 : World) (I : Cells) (σ : List Loc) (w : World) (r : AV) (h' : List AO) (e : Ending) (w' : World) : Prop :=
  ∃ v I' σ', e = .returned v ∧ Inv B w0 I' σ' w' h' ∧ Step B I σ w I' σ' w' ∧ Rep I' w' σ' r v

structure CallOk (P : Program) (call : CallF) : Prop where
  enter : ∀ f args h r h', call f args h = some (r, h') → ∀ (vals : Array Value) (w : World), (callFunc f vals).run P w = .ok (.enter f vals) w
  calls : ∀ f args h r h', call f args h = some (r, h') → ∀ B w0 I σ w (vals : Array Value), Inv B w0 I σ w h → ArgsRep I w σ args vals → Calls P f vals w (Ends B w0 I σ w r h')
end Go.AE
