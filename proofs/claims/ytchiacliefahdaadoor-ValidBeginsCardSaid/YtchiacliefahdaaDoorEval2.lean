/- The evaluator of compiled functions, proved sound: texts put together. -/
import Derived.Test.YtchiacliefahdaaDoorEval1
import Derived.ChangeArms
import Derived.DataElems
/-! AE, part 15: operations compiled, and that they do what they are told to. -/
section
set_option linter.unusedVariables false
set_option linter.unusedSimpArgs false
namespace Go.AE
open Go Go.RowKit

structure Tb where
  ty : TypeId → Option TI
  pureF : FuncId → Bool
  /-- literals of this type are rows -/
  lit : TypeId → Bool
  /-- what this function is handed can't change from then on -/
  frz : FuncId → Bool

def TbOk (P : Program) (T : Tb) : Prop := ∀ t i, T.ty t = some i → TIok P t i

def zok (i : TI) : Bool := i.zero.cells.toList.all (·.oneCell') && i.zero.cells.size == i.size
theorem zok_iff {i : TI} (h : zok i = true) : (∀ x ∈ i.zero.cells.toList, x.oneCell' = true) ∧ i.zero.cells.size = i.size := by
  simp only [zok, Bool.and_eq_true, List.all_eq_true, beq_iff_eq] at h
  exact h

def cOs (m : Tmp → Option Opd) (l : List Operand) : Option (List Opd) := l.mapM (cO m)
def cOo (m : Tmp → Option Opd) : Option Operand → Option (Option Opd)
  | none => some none
  | some x => (cO m x).map some

def placeOf (T : Tb) (f : Field) : Option (Nat × Nat) := (T.ty f.type).map fun i => (f.offset, i.size)

/-- the fields, from the o-th cell on: each a number, a string, a bool -/
def flatT (T : Tb) : List Field → Nat → Option (List FK)
  | [], _ => some []
  | f :: fs, o => if f.name = "_" ∨ f.offset ≠ o then none else
    match T.ty f.type with
    | some j => match j.desc, flatT T fs (o + 1) with
      | .int _, some ks => some (.i :: ks)
      | .string, some ks => some (.s :: ks)
      | .bool, some ks => some (.b :: ks)
      | _, _ => none
    | none => none
def compBin (T : Tb) (op : BinOp) (xt : TypeId) (x y : Opd) : Option COp :=
  match T.ty xt with
  | some i => match i.desc with
    | .int _ | .string => some (.bin op x y)
    | .bool => match op with
      | .eql => some (.eqv .bool false x y)
      | .neq => some (.eqv .bool true x y)
      | _ => none
    | .slice _ => match op with
      | .eql => some (.eqv .slice false x y)
      | .neq => some (.eqv .slice true x y)
      | _ => none
    | .pointer _ => match op with
      | .eql => some (.eqv .pointer false x y)
      | .neq => some (.eqv .pointer true x y)
      | _ => none
    | .struct fs => match flatT T fs.toList 0 with
      | some ks => match op with
        | .eql => some (.eqv (.flat ks) false x y)
        | .neq => some (.eqv (.flat ks) true x y)
        | _ => none
      | none => none
    | _ => none
  | none => none

/-- a map's keys and its elements -/
def kkOf : TypeDesc → Option KK
  | .int k => some (.int k)
  | .string => some .string
  | .bool => some .bool
  | _ => none
def mapT (T : Tb) (t : TypeId) : Option (KK × TI) := match T.ty t with
  | some i => match i.desc with
    | .map ke el => match T.ty ke, T.ty el with
      | some a, some b => (kkOf a.desc).map fun kk => (kk, b)
      | _, _ => none
    | _ => none
  | none => none
theorem mapT_ok {P : Program} {T : Tb} (hT : TbOk P T) {t : TypeId} {q : KK × TI} (h : mapT T t = some q) : ∃ ke el, P.underlying t = some (.map ke el) ∧ P.underlying ke = some q.1.desc ∧ TIok P el q.2 := by
  unfold mapT at h
  split at h
  · rename_i i hi
    split at h
    · rename_i ke el hd
      split at h
      · rename_i a b ha hb
        obtain ⟨kk, hk, rfl⟩ := Option.map_eq_some_iff.1 h
        refine ⟨ke, el, by rw [← hd]; exact (hT _ _ hi).und, ?_, hT _ _ hb⟩
        have hu := (hT _ _ ha).und
        rw [hu]
        unfold kkOf at hk
        split at hk <;> first | (cases hk; rename_i e; simp [e, KK.desc]; done) | cases hk
      · cases h
    · cases h
  · cases h

def compOp (T : Tb) (m : Tmp → Option Opd) (o : Oper) : Option COp :=
  match o.op with
  | .move x | .assign x => (cO m x).map .mov
  | .pick c a b => match cO m c, cO m a, cO m b with
    | some c, some a, some b => some (.pick c a b)
    | _, _, _ => none
  | .alloc e => match T.ty e with
    | some i => some (.box (.k i.zero))
    | none => none
  | .box _ x => (cO m x).map .box
  | .build t parts => match T.ty t with
    | some i => match i.desc with
      | .struct fs => match fs.toList.mapM (placeOf T) with
        | some places => match parts.toList.mapM fun p => (places[p.1]?).bind fun q => (cO m p.2).map fun x => (q.1, q.2, x) with
          | some ps => if zok i then some (.build i.zero.cells.toList ps) else none
          | none => none
        | none => none
      | .array _ e => match T.ty e with
        | some j => match parts.toList.mapM fun p => (cO m p.2).map fun x => (p.1 * j.size, j.size, x) with
          | some ps => if zok i then some (.build i.zero.cells.toList ps) else none
          | none => none
        | none => none
      | _ => none
    | none => none
  | .buildSlice t n parts => match T.ty t with
    | some i => match i.desc with
      | .slice e => match T.ty e with
        | some j => match parts.toList.mapM fun p => (cO m p.2).map fun x => (p.1, x) with
          | some ps => if zok j && decide (n * j.size ≤ 2 ^ 24) then some (if T.lit t then .brow j.size j.zero.cells.toList n ps else .bslice j.size j.zero.cells.toList n ps) else none
          | none => none
        | none => none
      | _ => none
    | none => none
  | .load t a => match T.ty t, cO m a with
    | some i, some x => some (.load i.agg i.size x)
    | _, _ => none
  | .store t a x => match T.ty t, cO m a, cO m x with
    | some i, some a, some x => some (.store i.size a x)
    | _, _, _ => none
  | .nilCheck x => (cO m x).map .nilchk
  | .binOp op xt x y _ => match cO m x, cO m y with
    | some x, some y => match op with
      | .shl => some (.shf true x y)
      | .shr => some (.shf false x y)
      | op => compBin T op xt x y
    | _, _ => none
  | .makeMap t none => (mapT T t).map fun q => .mkmap q.1
  | .lookup t x k ok => match mapT T t, cO m x, cO m k with
    | some q, some x, some k => some (.lookup q.1 q.2.zero ok x k)
    | _, _, _ => none
  | .mapUpdate t x k y | .insert t x k y => match mapT T t, cO m x, cO m k, cO m y with
    | some q, some x, some k, some y => some (.mapupd q.1 x k y)
    | _, _, _, _ => none
  | .range t x => match T.ty t, cO m x with
    | some i, some x => match i.desc with
      | .string => some (.range x)
      | _ => none
    | _, _ => none
  | .next x true => (cO m x).map .next
  | .panic _ | .makeInterface _ _ => some .bad
  | .unOp op _ x => (cO m x).map (.un op)
  | .convert src dst x => match T.ty src, T.ty dst, cO m x with
    | some i, some j, some x => match j.desc with
      | .int k => some (.conv k x)
      | .string => some (.same x)
      | _ => none
    | _, _, _ => none
  | .makeFunc fn first cap => match cOs m first.toList, cOs m cap.toList with
    | some p, some q => some (.mkfn fn p q)
    | _, _ => none
  | .makeSlice t l c => match T.ty t, cO m l, cO m c with
    | some i, some l, some c => match i.desc with
      | .slice e => match T.ty e with
        | some j => if zok j then some (.mkslice j.size j.bytes j.zero.cells.toList l c) else none
        | none => none
      | _ => none
    | _, _, _ => none
  | .slice t x lo hi mx => match T.ty t, cO m x, cOo m lo, cOo m hi, cOo m mx with
    | some i, some x, some lo, some hi, some mx => match i.desc with
      | .slice e => match T.ty e with
        | some j => some (.slice j.size x lo hi mx)
        | none => none
      | .string => match mx with
        | none => some (.sslice x lo hi)
        | some _ => none
      | _ => none
    | _, _, _, _, _ => none
  | .fieldAddr t x f => match T.ty t, cO m x with
    | some i, some x => match i.desc with
      | .struct fs => match fs[f]? with
        | some fd => match T.ty fd.type with
          | some j => if j.size = 0 then none else some (.fa fd.offset x)
          | none => none
        | none => none
      | _ => none
    | _, _ => none
  | .field t x f => match T.ty t, cO m x with
    | some i, some x => match i.desc with
      | .struct fs => match fs[f]? with
        | some fd => match T.ty fd.type with
          | some j => some (.fld j.agg fd.offset j.size x)
          | none => none
        | none => none
      | _ => none
    | _, _ => none
  | .indexAddr t x i => match T.ty t, cO m x, cO m i with
    | some ti, some x, some i => match ti.desc with
      | .slice e => match T.ty e with
        | some j => some (.ia j.size x i)
        | none => none
      | .array n e => match T.ty e with
        | some j => some (.iaa n j.size x i)
        | none => none
      | _ => none
    | _, _, _ => none
  | .index t x i => match T.ty t, cO m x, cO m i with
    | some ti, some x, some i => match ti.desc with
      | .string => some (.ixs x i)
      | .array n e => match T.ty e with
        | some j => some (.ixa n j.agg j.size x i)
        | none => none
      | _ => none
    | _, _, _ => none
  | .extract x i => (cO m x).map fun x => .extract x i
  | .call c => match c.callee with
    | .value (.func f) => (cOs m c.args.toList).map fun l => bif T.frz f then .callf f l else .call (T.pureF f) f l
    | .value (.tmp t) => match m t, cOs m c.args.toList with
      | some x, some args => some (.callv x args)
      | _, _ => none
    | .builtin .append => match c.args.toList, c.argTypes.toList with
      | [s, x], [t, t'] => match T.ty t, cO m s, cO m x with
        | some i, some s, some x => if t = t' then match i.desc with
          | .slice e => match T.ty e with
            | some j => if zok j then some (.append j.size j.bytes s x) else none
            | none => none
          | _ => none
          else none
        | _, _, _ => none
      | _, _ => none
    | .builtin .clear => match c.args.toList, c.argTypes.toList with
      | [x], [t] => match T.ty t, cO m x with
        | some i, some x => match i.desc with
          | .map _ _ => some (.clrmap x)
          | .slice e => match T.ty e with
            | some j => if zok j then some (.clrrow j.size j.zero.cells.toList x) else none
            | none => none
          | _ => none
        | _, _ => none
      | _, _ => none
    | .builtin .max => match c.args.toList with
      | [x, y] => match cO m x, cO m y with
        | some x, some y => some (.mm true x y)
        | _, _ => none
      | _ => none
    | .builtin .min => match c.args.toList with
      | [x, y] => match cO m x, cO m y with
        | some x, some y => some (.mm false x y)
        | _, _ => none
      | _ => none
    | .builtin .len => match c.args.toList, c.argTypes.toList with
      | [x], [t] => match T.ty t, cO m x with
        | some i, some x => match i.desc with
          | .slice _ => some (.len .slice x)
          | .string => some (.len .string x)
          | .map _ _ => some (.len .map x)
          | _ => none
        | _, _ => none
      | _, _ => none
    | _ => none
  | _ => none

/-- Arguments, one by one. -/
structure ArgsRep (I : Cells) (w : World) (σ : List Loc) (as : List AV) (vals : Array Value) : Prop where
  size : vals.size = as.length
  rep : ∀ (i : Nat) (a : AV), as[i]? = some a → Rep I w σ a (vals.getD i undef)

/-- What a function's call comes to. -/
def Ends (B : Nat) (w0 : World) (I : Cells) (σ : List Loc) (w : World) (r : AV) (h' : List AO) (e : Ending) (w' : World) : Prop :=
  ∃ v I' σ', e = .returned v ∧ Inv B w0 I' σ' w' h' ∧ Step B I σ w I' σ' w' ∧ Rep I' w' σ' r v

structure CallOk (P : Program) (B : Nat) (w0 : World) (call : CallF) : Prop where
  enter : ∀ f args h r h', call f args h = some (r, h') → ∀ (vals : Array Value) (w : World), (callFunc f vals).run P w = .ok (.enter f vals) w
  calls : ∀ f args h r h', call f args h = some (r, h') → ∀ I σ w (vals : Array Value), Inv B w0 I σ w h → ArgsRep I w σ args vals → Calls P f vals w (Ends B w0 I σ w r h')
  /-- of values alone, from where the world stands -/
  pure : ∀ f args r, call f args [] = some (r, []) → ∀ I σ w h (vals : Array Value), Inv B w0 I σ w h → Inv w.heap.size w I [] w [] → ArgsRep I w [] args vals → Calls P f vals w (Ends w.heap.size w I [] w r [])
end Go.AE
end

/-! AE, part 16: an operation does what its compiled form is told to do. -/
section
set_option linter.unusedVariables false
set_option linter.unusedSimpArgs false
namespace Go.AE
open Go Go.RowKit

section
variable {P : Program} {B : Nat} {w0 w w' : World} {I I' : Cells} {σ σ' : List Loc} {h : List AO}

/-- Going on from an operation. -/
def Goes (B : Nat) (w0 : World) (I : Cells) (σ : List Loc) (w : World) (o : Oper) (a : Act) (r : AV) (h' : List AO) (next : Act → World → Prop) : Prop :=
  ∀ v w' I' σ', Inv B w0 I' σ' w' h' → Step B I σ w I' σ' w' → Rep I' w' σ' r v → next (a.put o.dst v) w'

theorem Gives.wp {o : Oper} {a : Act} {r : AV} {h' : List AO} (hg : Gives P B w0 I σ w (execOp a.eval o) r h') {next : Act → World → Prop} {Q : Exit → Act → World → Prop}
    (hn : Goes B w0 I σ w o a r h' next) : Oper.wp P o a w next Q := by
  obtain ⟨v, w', I', σ', hr, h1, h2, h3⟩ := hg
  rcases hr with hr | ⟨hr, rfl⟩
  · simp only [Oper.wp, hr, Oper.upon_value]
    exact hn v w' I' σ' h1 h2 h3
  · simp only [Oper.wp, hr, Oper.upon_skip]
    exact hn _ w' I' σ' h1 h2 h3

theorem ends_wp {o : Oper} {a : Act} {r : AV} {h' : List AO} {f : FuncId} {vals : Array Value} (hrun : (execOp a.eval o).run P w = .ok (.enter f vals) w) (hc : Calls P f vals w (Ends B w0 I σ w r h'))
    {next : Act → World → Prop} {Q : Exit → Act → World → Prop} (hn : Goes B w0 I σ w o a r h' next) : Oper.wp P o a w next Q := by
  simp only [Oper.wp, hrun, Oper.upon_enter]
  refine hc.mono ?_
  rintro e w' ⟨v, I', σ', rfl, h1, h2, h3⟩
  exact hn v w' I' σ' h1 h2 h3

theorem cOs_args {vars env : List AV} {a : Act} {m : Tmp → Option Opd} (ho : OpsOk I w σ vars env a.eval m) {xs : Array Operand} {l : List Opd} (hl : cOs m xs.toList = some l) :
    ArgsRep I w σ (l.map (getO vars env)) (xs.map a.eval) := by
  obtain ⟨h1, h2⟩ := mapM_get hl
  refine ⟨by simp [h1], fun i v hi => ?_⟩
  simp only [List.getElem?_map, Option.map_eq_some_iff] at hi
  obtain ⟨y, hy, rfl⟩ := hi
  obtain ⟨x, hx, hf⟩ := mapM_get' hl hy
  have hx' : xs[i]? = some x := by simpa using hx
  have : (xs.map a.eval)[i]? = some (a.eval x) := by simp [hx']
  rw [getD_get this]
  exact ho.get hf

theorem inv_none (hI : Inv B w0 I σ w h) : Inv w.heap.size w I [] w [] :=
  ⟨Below.refl _ _, Nat.le_refl _, rfl, fun id o L ho => by simp at ho, fun id L hL => by simp at hL, fun i j Li Lj hi => by simp at hi, hI.imm⟩
theorem args_snap (hI : Inv B w0 I σ w h) {as as' : List AV} {vals : Array Value} (ha : ArgsRep I w σ as vals) (hs : as.mapM (AV.snap1 h) = some as') : ArgsRep I w [] as' vals := by
  obtain ⟨h1, h2⟩ := mapM_get hs
  refine ⟨by rw [ha.size, h1], fun i y hy => ?_⟩
  obtain ⟨x, hx, hf⟩ := mapM_get' hs hy
  exact (ha.rep i x hx).snap1 hI hf
theorem ends_conv (hI : Inv B w0 I σ w h) {r : AV} {e : Ending} {w' : World} (he : Ends w.heap.size w I [] w r [] e w') : Ends B w0 I σ w r h e w' := by
  obtain ⟨v, I', σ', rfl, h1, h2, h3⟩ := he
  have hσ : σ' = [] := List.length_eq_zero_iff.1 (by rw [h1.len]; rfl)
  subst hσ
  refine ⟨v, I', σ, rfl, ?_, ⟨h2.ext, Later.refl _, fun b x hb => ?_, h2.size⟩, h3.mono (Ext.refl _ _) (Later.nil _)⟩
  · refine hI.same (h1.below.mono hI.base) h2.ext h1.imm (fun j Lj hL hh => ?_)
    have hlt := (hI.mine j Lj hL hh).2
    refine ⟨h1.below.block _ hlt, fun x hx => ?_⟩
    rcases h2.new _ x hx with hx | hx
    · exact hx
    · omega
  · rcases h2.new b x hb with hb | hb
    · exact .inl hb
    · exact .inr (Nat.le_trans hI.base hb)
/-- A call that is handed values alone. -/
theorem pure_call (hI : Inv B w0 I σ w h) {call : CallF} (hc : CallOk P B w0 call) {f : FuncId} {as as' : List AV} {vals : Array Value} (ha : ArgsRep I w σ as vals) (hs : as.mapM (AV.snap1 h) = some as') {r : AV} (he : call f as' [] = some (r, [])) :
    Calls P f vals w (Ends B w0 I σ w r h) :=
  (hc.pure f as' r he I σ w h vals hI (inv_none hI) (args_snap hI ha hs)).mono (fun e w' he => ends_conv hI he)

theorem places_ok {T : Tb} (hT : TbOk P T) {fs : Array Field} {places : List (Nat × Nat)} (hp : fs.toList.mapM (placeOf T) = some places) :
    places.length = fs.size ∧ ∀ (j : Nat) (f : Field) (q : Nat × Nat), fs[j]? = some f → places[j]? = some q → f.offset = q.1 ∧ ∃ tf, TIok P f.type tf ∧ tf.size = q.2 := by
  obtain ⟨h1, h2⟩ := mapM_get hp
  refine ⟨by simpa using h1, fun j f q hf hq => ?_⟩
  have := h2 j f q (by simpa using hf) hq
  simp only [placeOf, Option.map_eq_some_iff] at this
  obtain ⟨i, hi, rfl⟩ := this
  exact ⟨rfl, i, hT _ _ hi, rfl⟩
end
end Go.AE
end

/-! AE, part 17: the same, operation by operation. -/
section
set_option linter.unusedVariables false
set_option linter.unusedSimpArgs false
namespace Go.AE
open Go Go.RowKit

section
variable {P : Program} {B : Nat} {w0 w w' : World} {I I' : Cells} {σ σ' : List Loc} {h : List AO}

theorem Gives.congr {s s' : Sem Next} {r : AV} {h' : List AO} (hg : Gives P B w0 I σ w s r h') (hs : s.run P w = s'.run P w) : Gives P B w0 I σ w s' r h' := by
  unfold Gives at *
  rw [← hs]
  exact hg

theorem optOk_of {vars env : List AV} {a : Act} {m : Tmp → Option Opd} (ho : OpsOk I w σ vars env a.eval m) {x : Option Operand} {y : Option Opd} (hx : cOo m x = some y) : OptOk I w σ vars env y (x.map a.eval) := by
  cases x with
  | none => simp only [cOo, Option.some.injEq] at hx; subst hx; trivial
  | some x =>
    simp only [cOo, Option.map_eq_some_iff] at hx
    obtain ⟨z, hz, rfl⟩ := hx
    exact ho.get hz

theorem zip_parts {α β : Type} {f : α → Option β} {l : List α} {r : List β} (hm : l.mapM f = some r) : ∃ z : List (α × β), z.map (·.1) = l ∧ z.map (·.2) = r ∧ ∀ p ∈ z, f p.1 = some p.2 := by
  induction l generalizing r with
  | nil => simp at hm; subst hm; exact ⟨[], rfl, rfl, by simp⟩
  | cons a l ih =>
    simp only [List.mapM_cons, Option.bind_eq_bind, Option.bind_eq_some_iff, Option.pure_def, Option.some.injEq] at hm
    obtain ⟨b, hb, r', hr', rfl⟩ := hm
    obtain ⟨z, h1, h2, h3⟩ := ih hr'
    refine ⟨(a, b) :: z, by simp [h1], by simp [h2], fun p hp => ?_⟩
    rcases List.mem_cons.1 hp with rfl | hp
    · exact hb
    · exact h3 p hp

set_option maxHeartbeats 1000000 in
theorem flatT_ok {T : Tb} (hT : TbOk P T) : ∀ (fs : List Field) (o : Nat) (ks : List FK), flatT T fs o = some ks → FlatP P ks fs o ∧ (fs.all fun f => f.name != "_" && (match P.underlying f.type with
    | some (.int _) | some .string | some .bool => true
    | _ => false)) = true := by
  intro fs
  induction fs with
  | nil => intro o ks h; simp only [flatT] at h; cases h; exact ⟨trivial, rfl⟩
  | cons f fs ih =>
    intro o ks h
    simp only [flatT] at h
    split at h
    · cases h
    · rename_i hc
      have h1 : f.name ≠ "_" := fun e => hc (.inl e)
      have h2 : f.offset = o := Classical.byContradiction fun e => hc (.inr e)
      split at h
      · rename_i j hj
        have hu := (hT _ _ hj).und
        split at h
        · rename_i q ks' hd hk
          cases h
          obtain ⟨g1, g2⟩ := ih _ _ hk
          rw [hd] at hu
          exact ⟨⟨h1, h2, ⟨q, hu⟩, g1⟩, by simp only [List.all_cons, g2, hu, Bool.and_true, bne_iff_ne, ne_eq]; exact h1⟩
        · rename_i ks' hd hk
          cases h
          obtain ⟨g1, g2⟩ := ih _ _ hk
          rw [hd] at hu
          exact ⟨⟨h1, h2, hu, g1⟩, by simp only [List.all_cons, g2, hu, Bool.and_true, bne_iff_ne, ne_eq]; exact h1⟩
        · rename_i ks' hd hk
          cases h
          obtain ⟨g1, g2⟩ := ih _ _ hk
          rw [hd] at hu
          exact ⟨⟨h1, h2, hu, g1⟩, by simp only [List.all_cons, g2, hu, Bool.and_true, bne_iff_ne, ne_eq]; exact h1⟩
        · cases h
      · cases h

theorem op_sound (hI : Inv B w0 I σ w h) {T : Tb} (hT : TbOk P T) {m : Tmp → Option Opd} {o : Oper} {c : COp} (hc : compOp T m o = some c) {vars env : List AV} {a : Act} (ho : OpsOk I w σ vars env a.eval m)
    {call : CallF} (hcall : CallOk P B w0 call) {r : AV} {h' : List AO} (he : evOp call vars env h c = some (r, h')) {next : Act → World → Prop} {Q : Exit → Act → World → Prop} (hn : Goes B w0 I σ w o a r h' next) :
    Oper.wp P o a w next Q := by
  obtain ⟨dst, op, type, pos, after, guard⟩ := o
  cases op with
  | move x =>
    simp only [compOp, Option.map_eq_some_iff] at hc
    obtain ⟨y, hy, rfl⟩ := hc
    cases he
    exact (Gives.same hI (v := a.eval x) (by simp [execOp]) (ho.get hy)).wp hn
  | assign x =>
    simp only [compOp, Option.map_eq_some_iff] at hc
    obtain ⟨y, hy, rfl⟩ := hc
    cases he
    exact (Gives.same hI (v := a.eval x) (by simp [execOp]) (ho.get hy)).wp hn
  | pick c x y =>
    simp only [compOp] at hc
    split at hc
    · rename_i c' x' y' h1 h2 h3
      cases hc
      simp only [evOp] at he
      split at he
      · rename_i t ht
        cases he
        have hb := ho.get h1
        rw [ht] at hb
        have hbv : a.eval c = .bool t := by generalize a.eval c = z at hb; cases hb; rfl
        refine (Gives.same hI (v := if t then a.eval x else a.eval y) ?_ ?_).wp hn
        · simp [execOp, hbv, asBool]
        · cases t
          · exact ho.get h3
          · exact ho.get h2
      · cases he
    · cases hc
  | alloc e =>
    simp only [compOp] at hc
    split at hc
    · rename_i i hi
      cases hc
      simp only [evOp, Option.map_eq_some_iff] at he
      obtain ⟨cs, hcl, he⟩ := he
      cases he
      have hz : Rep I w σ (getO vars env (.k i.zero)) i.zero := Rep.ofVal _
      have := gives_box (P := P) hI hz hcl e
      refine Gives.wp (o := ⟨dst, .alloc e, type, pos, after, guard⟩) ?_ hn
      simpa [execOp, Instr.alloc, (hT _ _ hi).zeroValue, Instr.box, Gives] using this
    · cases hc
  | box e x =>
    simp only [compOp, Option.map_eq_some_iff] at hc
    obtain ⟨y, hy, rfl⟩ := hc
    simp only [evOp, Option.map_eq_some_iff] at he
    obtain ⟨cs, hcl, he⟩ := he
    cases he
    exact Gives.wp (o := ⟨dst, .box e x, type, pos, after, guard⟩) (gives_box hI (ho.get hy) hcl e) hn
  | build t parts =>
    simp only [compOp] at hc
    split at hc
    · rename_i i hi
      split at hc
      · rename_i fs hd
        split at hc
        · rename_i places hp
          split at hc
          · rename_i ps hps
            split at hc
            · rename_i hz
              cases hc
              simp only [evOp, Option.map_eq_some_iff] at he
              obtain ⟨cs, hb, he⟩ := he
              cases he
              obtain ⟨z1, z2⟩ := zok_iff hz
              obtain ⟨p1, p2⟩ := places_ok hT hp
              obtain ⟨z, q1, q2, q3⟩ := zip_parts hps
              have hl : ∀ x ∈ z.map (fun p => ((p.1.1, a.eval p.1.2), p.2)), places[x.1.1]? = some (x.2.1, x.2.2.1) ∧ Rep I w σ (getO vars env x.2.2.2) x.1.2 := by
                intro x hx
                obtain ⟨p, hp, rfl⟩ := List.mem_map.1 hx
                have := q3 p hp
                simp only [Option.bind_eq_some_iff, Option.map_eq_some_iff] at this
                obtain ⟨q, hq, y, hy, e⟩ := this
                rw [← e]
                exact ⟨hq, ho.get hy⟩
              have := gives_build (P := P) hI (vars := vars) (env := env) (hT _ _ hi) hd z1 places p1 p2 _ hl (cs := cs) (by rw [List.map_map]; rw [show (fun x : (Nat × Value) × (Nat × Nat × Opd) => x.2) ∘ (fun p : (Nat × Operand) × (Nat × Nat × Opd) => ((p.1.1, a.eval p.1.2), p.2)) = (fun p => p.2) from rfl, q2]; exact hb)
              refine Gives.wp (o := ⟨dst, .build t parts, type, pos, after, guard⟩) ?_ hn
              have e1 : (List.map (fun x : (Nat × Value) × (Nat × Nat × Opd) => x.1) (List.map (fun p : (Nat × Operand) × (Nat × Nat × Opd) => ((p.1.1, a.eval p.1.2), p.2)) z)).toArray = parts.map (fun (i, x) => (i, a.eval x)) := by
                apply Array.ext'
                rw [Array.toList_map, ← q1]
                simp [List.map_map, Function.comp_def]
              rw [e1] at this
              exact this
            · cases hc
          · cases hc
        · cases hc
      · rename_i n e hd
        split at hc
        · rename_i j hj
          split at hc
          · rename_i ps hps
            split at hc
            · rename_i hz
              cases hc
              simp only [evOp, Option.map_eq_some_iff] at he
              obtain ⟨cs, hb, he⟩ := he
              cases he
              obtain ⟨z1, z2⟩ := zok_iff hz
              obtain ⟨z, q1, q2, q3⟩ := zip_parts hps
              have hl : ∀ x ∈ z.map (fun p => ((p.1.1, a.eval p.1.2), p.2)), x.2.1 = x.1.1 * j.size ∧ x.2.2.1 = j.size ∧ Rep I w σ (getO vars env x.2.2.2) x.1.2 := by
                intro x hx
                obtain ⟨p, hp, rfl⟩ := List.mem_map.1 hx
                have := q3 p hp
                simp only [Option.map_eq_some_iff] at this
                obtain ⟨y, hy, e⟩ := this
                rw [← e]
                exact ⟨rfl, rfl, ho.get hy⟩
              have := gives_buildA (P := P) hI (vars := vars) (env := env) (hT _ _ hi) hd (hT _ _ hj) z1 _ hl (cs := cs) (by rw [List.map_map]; rw [show (fun x : (Nat × Value) × (Nat × Nat × Opd) => x.2) ∘ (fun p : (Nat × Operand) × (Nat × Nat × Opd) => ((p.1.1, a.eval p.1.2), p.2)) = (fun p => p.2) from rfl, q2]; exact hb)
              refine Gives.wp (o := ⟨dst, .build t parts, type, pos, after, guard⟩) ?_ hn
              have e1 : (List.map (fun x : (Nat × Value) × (Nat × Nat × Opd) => x.1) (List.map (fun p : (Nat × Operand) × (Nat × Nat × Opd) => ((p.1.1, a.eval p.1.2), p.2)) z)).toArray = parts.map (fun (i, x) => (i, a.eval x)) := by
                apply Array.ext'
                rw [Array.toList_map, ← q1]
                simp [List.map_map, Function.comp_def]
              rw [e1] at this
              exact this
            · cases hc
          · cases hc
        · cases hc
      · cases hc
    · cases hc
  | buildSlice t n parts =>
    simp only [compOp] at hc
    split at hc
    · rename_i i hi
      split at hc
      · rename_i e hd
        split at hc
        · rename_i j hj
          split at hc
          · rename_i ps hps
            split at hc
            · rename_i hz
              simp only [Bool.and_eq_true, decide_eq_true_eq] at hz
              obtain ⟨z1, z2⟩ := zok_iff hz.1
              obtain ⟨z, q1, q2, q3⟩ := zip_parts hps
              have hl : ∀ x ∈ z.map (fun p => ((p.1.1, a.eval p.1.2), p.2)), x.1.1 = x.2.1 ∧ Rep I w σ (getO vars env x.2.2) x.1.2 := by
                intro x hx
                obtain ⟨p, hp, rfl⟩ := List.mem_map.1 hx
                have := q3 p hp
                simp only [Option.map_eq_some_iff] at this
                obtain ⟨y, hy, e⟩ := this
                rw [← e]
                exact ⟨rfl, ho.get hy⟩
              have hu : P.underlying t = some (.slice e) := by rw [← hd]; exact (hT _ _ hi).und
              by_cases hlit : T.lit t = true
              · rw [if_pos hlit] at hc
                cases hc
                simp only [evOp, Option.map_eq_some_iff] at he
                obtain ⟨els, hb, he⟩ := he
                cases he
                have := gives_brow (P := P) hI (vars := vars) (env := env) hu (hT _ _ hj) z1 z2 n hz.2 _ hl (els := els) (by rw [List.map_map]; rw [show (fun x : (Nat × Value) × (Nat × Opd) => x.2) ∘ (fun p : (Nat × Operand) × (Nat × Opd) => ((p.1.1, a.eval p.1.2), p.2)) = (fun p => p.2) from rfl, q2]; exact hb)
                refine Gives.wp (o := ⟨dst, .buildSlice t n parts, type, pos, after, guard⟩) ?_ hn
                have e1 : (List.map (fun x : (Nat × Value) × (Nat × Opd) => x.1) (List.map (fun p : (Nat × Operand) × (Nat × Opd) => ((p.1.1, a.eval p.1.2), p.2)) z)).toArray = parts.map (fun (i, x) => (i, a.eval x)) := by
                  apply Array.ext'
                  rw [Array.toList_map, ← q1]
                  simp [List.map_map, Function.comp_def]
                rw [e1] at this
                exact this
              rw [if_neg hlit] at hc
              cases hc
              simp only [evOp, Option.map_eq_some_iff] at he
              obtain ⟨els, hb, he⟩ := he
              cases he
              have := gives_bslice (P := P) hI (vars := vars) (env := env) hu (hT _ _ hj) z1 z2 n hz.2 _ hl (els := els) (by rw [List.map_map]; rw [show (fun x : (Nat × Value) × (Nat × Opd) => x.2) ∘ (fun p : (Nat × Operand) × (Nat × Opd) => ((p.1.1, a.eval p.1.2), p.2)) = (fun p => p.2) from rfl, q2]; exact hb)
              refine Gives.wp (o := ⟨dst, .buildSlice t n parts, type, pos, after, guard⟩) ?_ hn
              have e1 : (List.map (fun x : (Nat × Value) × (Nat × Opd) => x.1) (List.map (fun p : (Nat × Operand) × (Nat × Opd) => ((p.1.1, a.eval p.1.2), p.2)) z)).toArray = parts.map (fun (i, x) => (i, a.eval x)) := by
                apply Array.ext'
                rw [Array.toList_map, ← q1]
                simp [List.map_map, Function.comp_def]
              rw [e1] at this
              exact this
            · cases hc
          · cases hc
        · cases hc
      · cases hc
    · cases hc
  | load t x =>
    simp only [compOp] at hc
    split at hc
    · rename_i i y hi hy
      cases hc
      simp only [evOp, Option.map_eq_some_iff] at he
      obtain ⟨v, hv, he⟩ := he
      cases he
      obtain ⟨u, h1, h2⟩ := run_load_rep (P := P) hI (hT _ _ hi) (ho.get hy) hv
      exact (Gives.same hI (v := u) (by simp [execOp, h1]) h2).wp hn
    · cases hc
  | store t x y =>
    simp only [compOp] at hc
    split at hc
    · rename_i i x' y' hi hx hy
      cases hc
      simp only [evOp, Option.map_eq_some_iff] at he
      obtain ⟨h2, hs, he⟩ := he
      cases he
      have rx := ho.get hx
      have ry := ho.get hy
      refine Gives.wp (o := ⟨dst, .store t x y, type, pos, after, guard⟩) ?_ hn
      simp only [execOp]
      unfold evStore at hs
      split at hs
      · rename_i id off hx1
        split at hs
        · rename_i cs hh
          split at hs
          · rename_i xs hcl
            split at hs
            · rename_i hle
              cases hs
              rw [hx1] at rx
              generalize a.eval x = vx at rx ⊢
              cases rx with
              | ptr _ _ _ L hL hf => exact gives_store_box hI (hT _ _ hi) hL hh ry hcl hle.1 hle.2
            · cases hs
          · cases hs
        · cases hs
      · rename_i sz' id ver idx off hx1
        split at hs
        · rename_i l k hra
          obtain ⟨hh, hm⟩ := rowAt_eq hra
          split at hs
          · rename_i el ys hel hys
            split at hs
            · rename_i hle
              cases hs
              obtain ⟨y2, hsn, hcl⟩ := Option.bind_eq_some_iff.1 hys
              rw [hx1] at rx
              generalize a.eval x = vx at rx ⊢
              cases rx with
              | ep _ _ _ _ _ _ _ h1x L hL hv hxo =>
                obtain ⟨hf, hver, hR⟩ := hI.obj _ _ L hh hL
                obtain ⟨hhas, rfl⟩ := hxo hver.symm
                exact gives_store_row hI (hT _ _ hi) hL hh ry hsn hcl hel hle.1 hle.2.1 hle.2.2.1 hle.2.2.2
            · cases hs
          · cases hs
        · cases hs
      · cases hs
    · cases hc
  | nilCheck x =>
    simp only [compOp, Option.map_eq_some_iff] at hc
    obtain ⟨y, hy, rfl⟩ := hc
    simp only [evOp, Option.map_eq_some_iff] at he
    obtain ⟨v, hv, he⟩ := he
    cases he
    exact Gives.wp (o := ⟨dst, .nilCheck x, type, pos, after, guard⟩) (gives_nilchk hI (ho.get hy) hv _ a.eval x rfl rfl) hn
  | binOp op xt x y yt =>
    simp only [compOp] at hc
    split at hc
    · rename_i x' y' hx hy
      have shf : ∀ left : Bool, op = (if left then .shl else .shr) → c = .shf left x' y' → Oper.wp P ⟨dst, .binOp op xt x y yt, type, pos, after, guard⟩ a w next Q := by
        rintro left rfl rfl
        simp only [evOp, Option.map_eq_some_iff] at he
        obtain ⟨v, hv, he⟩ := he
        cases he
        refine Gives.wp (o := ⟨dst, .binOp (if left then .shl else .shr) xt x y yt, type, pos, after, guard⟩) ?_ hn
        refine (gives_shf hI (ho.get hx) (ho.get hy) hv xt x y).congr ?_
        simp only [execOp, Sem.run_bind]
        cases (eqGuard (if left = true then BinOp.shl else BinOp.shr) xt x y (a.eval x) (a.eval y)).run P w <;> rfl
      split at hc
      · cases hc; exact shf true rfl rfl
      · cases hc; exact shf false rfl rfl
      refine Gives.wp (o := ⟨dst, .binOp op xt x y yt, type, pos, after, guard⟩) ?_ hn
      have rx := ho.get hx
      have ry := ho.get hy
      simp only [compBin] at hc
      have eqv : ∀ (k : EqK) (neg : Bool) (d : TypeDesc), P.underlying xt = some d → k.ok d = true → c = .eqv k neg x' y' → op = (if neg then .neq else .eql) → Gives P B w0 I σ w (execOp a.eval ⟨dst, .binOp op xt x y yt, type, pos, after, guard⟩) r h' := by
        rintro k neg d hd hk rfl rfl
        simp only [evOp, Option.map_eq_some_iff] at he
        obtain ⟨b, hb, he⟩ := he
        cases he
        refine (gives_eqv hI rx ry hb hd hk x y).congr ?_
        simp only [execOp, Sem.run_bind]
        cases (eqGuard (if neg then BinOp.neq else BinOp.eql) xt x y (a.eval x) (a.eval y)).run P w <;> rfl
      have bin : c = .bin op x' y' → Gives P B w0 I σ w (execOp a.eval ⟨dst, .binOp op xt x y yt, type, pos, after, guard⟩) r h' := by
        rintro rfl
        simp only [evOp, Option.map_eq_some_iff] at he
        obtain ⟨v, hv, he⟩ := he
        cases he
        refine (gives_bin hI rx ry hv xt x y).congr ?_
        simp only [execOp, Sem.run_bind]
        cases (eqGuard op xt x y (a.eval x) (a.eval y)).run P w <;> rfl
      split at hc
      · rename_i i hi
        have hu := (hT _ _ hi).und
        split at hc
        · cases hc; exact bin rfl
        · cases hc; exact bin rfl
        · rename_i hd
          rw [hd] at hu
          split at hc <;> first | (cases hc; done) | skip
          · cases hc; exact eqv .bool false _ hu rfl rfl rfl
          · cases hc; exact eqv .bool true _ hu rfl rfl rfl
        · rename_i e hd
          rw [hd] at hu
          split at hc <;> first | (cases hc; done) | skip
          · cases hc; exact eqv .slice false _ hu rfl rfl rfl
          · cases hc; exact eqv .slice true _ hu rfl rfl rfl
        · rename_i e hd
          rw [hd] at hu
          split at hc <;> first | (cases hc; done) | skip
          · cases hc; exact eqv .pointer false _ hu rfl rfl rfl
          · cases hc; exact eqv .pointer true _ hu rfl rfl rfl
        · rename_i fs hd
          split at hc
          · rename_i ks hks
            obtain ⟨hf1, hf2⟩ := flatT_ok hT _ _ _ hks
            obtain ⟨hp, hg⟩ := (hT _ _ hi).eqs fs hd hf2
            rw [hd] at hu
            have flat : ∀ neg : Bool, c = .eqv (.flat ks) neg x' y' → op = (if neg then .neq else .eql) → Gives P B w0 I σ w (execOp a.eval ⟨dst, .binOp op xt x y yt, type, pos, after, guard⟩) r h' := by
              rintro neg rfl rfl
              simp only [evOp, Option.map_eq_some_iff] at he
              obtain ⟨b, hb, he⟩ := he
              cases he
              generalize getO vars env x' = ax at hb rx
              generalize getO vars env y' = ay at hb ry
              unfold eqNil at hb
              split at hb <;> first | (cases hb; done) | skip
              all_goals first
                | (rename_i e0; cases e0; done)
                | skip
              rename_i ks0 cs ds e0
              cases e0
              refine (gives_flat hI rx ry hb hu hf1 hp hg x y).congr ?_
              simp only [execOp, Sem.run_bind]
              cases (eqGuard (if neg then BinOp.neq else BinOp.eql) xt x y (a.eval x) (a.eval y)).run P w <;> rfl
            split at hc <;> first | (cases hc; done) | skip
            · cases hc; exact flat false rfl rfl
            · cases hc; exact flat true rfl rfl
          · cases hc
        · cases hc
      · cases hc
    · cases hc
  | makeMap t rs =>
    cases rs with
    | some z => simp [compOp] at hc
    | none =>
      simp only [compOp, Option.map_eq_some_iff] at hc
      obtain ⟨q, hq, rfl⟩ := hc
      cases he
      exact Gives.wp (o := ⟨dst, .makeMap t none, type, pos, after, guard⟩) (gives_mkmap hI t q.1) hn
  | lookup t x k ok =>
    simp only [compOp] at hc
    split at hc
    · rename_i q x' k' hq hx hk
      cases hc
      obtain ⟨ke, el, u1, u2, u3⟩ := mapT_ok hT hq
      simp only [evOp, Option.map_eq_some_iff] at he
      obtain ⟨v, hv, he⟩ := he
      cases he
      exact Gives.wp (o := ⟨dst, .lookup t x k ok, type, pos, after, guard⟩) (gives_lookup hI u1 u2 u3 (ho.get hx) (ho.get hk) hv) hn
    · cases hc
  | mapUpdate t x k y =>
    simp only [compOp] at hc
    split at hc
    · rename_i q x' k' y' hq hx hk hy
      cases hc
      obtain ⟨ke, el, u1, u2, u3⟩ := mapT_ok hT hq
      simp only [evOp, Option.map_eq_some_iff] at he
      obtain ⟨v, hv, he⟩ := he
      cases he
      exact Gives.wp (o := ⟨dst, .mapUpdate t x k y, type, pos, after, guard⟩) (gives_mapupd hI u1 u2 (ho.get hx) (ho.get hk) (ho.get hy) hv) hn
    · cases hc
  | insert t x k y =>
    simp only [compOp] at hc
    split at hc
    · rename_i q x' k' y' hq hx hk hy
      cases hc
      obtain ⟨ke, el, u1, u2, u3⟩ := mapT_ok hT hq
      simp only [evOp, Option.map_eq_some_iff] at he
      obtain ⟨v, hv, he⟩ := he
      cases he
      exact Gives.wp (o := ⟨dst, .insert t x k y, type, pos, after, guard⟩) (gives_mapupd hI u1 u2 (ho.get hx) (ho.get hk) (ho.get hy) hv) hn
    · cases hc
  | range t x =>
    simp only [compOp] at hc
    split at hc
    · rename_i i x' hi hx
      split at hc
      · rename_i hd
        cases hc
        have rx := ho.get hx
        simp only [evOp] at he
        split at he
        · rename_i s hs
          cases he
          rw [hs] at rx
          exact Gives.wp (o := ⟨dst, .range t x, type, pos, after, guard⟩) (gives_range hI (by rw [← hd]; exact (hT _ _ hi).und) rx) hn
        · cases he
      · cases hc
    · cases hc
  | next x st =>
    cases st with
    | false => simp [compOp] at hc
    | true =>
      simp only [compOp, Option.map_eq_some_iff] at hc
      obtain ⟨y, hy, rfl⟩ := hc
      simp only [evOp] at he
      exact Gives.wp (o := ⟨dst, .next x true, type, pos, after, guard⟩) (gives_next hI (ho.get hy) he) hn
  | unOp op xt x =>
    simp only [compOp, Option.map_eq_some_iff] at hc
    obtain ⟨y, hy, rfl⟩ := hc
    simp only [evOp, Option.map_eq_some_iff] at he
    obtain ⟨v, hv, he⟩ := he
    cases he
    exact Gives.wp (o := ⟨dst, .unOp op xt x, type, pos, after, guard⟩) (gives_un hI (ho.get hy) hv) hn
  | convert src dt x =>
    simp only [compOp] at hc
    split at hc
    · rename_i i j y hi hj hy
      have ry := ho.get hy
      refine Gives.wp (o := ⟨dst, .convert src dt x, type, pos, after, guard⟩) ?_ hn
      split at hc
      · rename_i k hd
        cases hc
        simp only [evOp] at he
        split at he
        · rename_i kk n hx1
          cases he
          rw [hx1] at ry
          exact gives_conv hI (hT _ _ hi).und (by rw [← hd]; exact (hT _ _ hj).und) ry
        · cases he
      · rename_i hd
        cases hc
        simp only [evOp] at he
        split at he
        · rename_i s hx1
          cases he
          rw [hx1] at ry
          exact gives_same hI (hT _ _ hi).und (by rw [← hd]; exact (hT _ _ hj).und) ry
        · cases he
      · cases hc
    · cases hc
  | makeFunc fn first cap =>
    simp only [compOp] at hc
    split at hc
    · rename_i p q hp hq
      cases hc
      cases he
      have rp := cOs_args ho hp
      have rq := cOs_args ho hq
      exact (Gives.same hI (v := .func fn (first.map a.eval) (cap.map a.eval)) (by simp [execOp, Instr.makeFunc]) (.fn σ fn _ _ _ _ rp.size rq.size rp.rep rq.rep)).wp hn
    · cases hc
  | makeSlice t l cp =>
    simp only [compOp] at hc
    split at hc
    · rename_i i l' c' hi hl hcp
      split at hc
      · rename_i e hd
        split at hc
        · rename_i j hj
          split at hc
          · rename_i hz
            cases hc
            obtain ⟨z1, z2⟩ := zok_iff hz
            have rl := ho.get hl
            have rc := ho.get hcp
            simp only [evOp] at he
            split at he
            · rename_i n mm e1 e2
              split at he
              · rename_i hb
                cases he
                rw [e1] at rl; rw [e2] at rc
                refine Gives.wp (o := ⟨dst, .makeSlice t l cp, type, pos, after, guard⟩) ?_ hn
                simp only [execOp]
                generalize a.eval l = vl at rl ⊢
                generalize a.eval cp = vc at rc ⊢
                cases rl; cases rc
                exact gives_mkslice hI (by rw [← hd]; exact (hT _ _ hi).und) (hT _ _ hj) z1 z2 hb.1 hb.2.1 hb.2.2.1 hb.2.2.2
              · cases he
            · cases he
          · cases hc
        · cases hc
      · cases hc
    · cases hc
  | slice t x lo hi mx =>
    simp only [compOp] at hc
    split at hc
    · rename_i i x' lo' hi' mx' hti hx hlo hhi hmx
      have rx := ho.get hx
      have r1 := optOk_of ho hlo
      have r2 := optOk_of ho hhi
      have r3 := optOk_of ho hmx
      refine Gives.wp (o := ⟨dst, .slice t x lo hi mx, type, pos, after, guard⟩) ?_ hn
      split at hc
      · rename_i e hd
        split at hc
        · rename_i j hj
          cases hc
          simp only [evOp, Option.map_eq_some_iff] at he
          obtain ⟨v, hv, he⟩ := he
          cases he
          exact gives_slice hI (by rw [← hd]; exact (hT _ _ hti).und) (hT _ _ hj) rx r1 r2 r3 hv
        · cases hc
      · rename_i hd
        split at hc
        · cases hc
          have hmn : mx = none := by
            cases mx with
            | none => rfl
            | some z => simp [cOo] at hmx
          subst hmn
          simp only [evOp] at he
          split at he
          · rename_i s hx1
            simp only [Option.map_eq_some_iff] at he
            obtain ⟨⟨l, hh, mm⟩, hb, he⟩ := he
            cases he
            rw [hx1] at rx
            exact gives_sslice hI (by rw [← hd]; exact (hT _ _ hti).und) rx r1 r2 hb
          · cases he
        · cases hc
      · cases hc
    · cases hc
  | fieldAddr t x f =>
    simp only [compOp] at hc
    split at hc
    · rename_i i x' hti hx
      split at hc
      · rename_i fs hd
        split at hc
        · rename_i fd hfd
          split at hc
          · rename_i j hj
            split at hc
            · cases hc
            · rename_i hsz
              cases hc
              simp only [evOp, Option.map_eq_some_iff] at he
              obtain ⟨v, hv, he⟩ := he
              cases he
              exact Gives.wp (o := ⟨dst, .fieldAddr t x f, type, pos, after, guard⟩) (gives_fa hI (by rw [← hd]; exact (hT _ _ hti).und) hfd (hT _ _ hj) hsz (ho.get hx) hv) hn
          · cases hc
        · cases hc
      · cases hc
    · cases hc
  | field t x f =>
    simp only [compOp] at hc
    split at hc
    · rename_i i x' hti hx
      split at hc
      · rename_i fs hd
        split at hc
        · rename_i fd hfd
          split at hc
          · rename_i j hj
            cases hc
            have rx := ho.get hx
            simp only [evOp] at he
            split at he
            · rename_i cs hx1
              split at he
              · rename_i hle
                simp only [Option.map_eq_some_iff] at he
                obtain ⟨v, hv, he⟩ := he
                cases he
                rw [hx1] at rx
                exact Gives.wp (o := ⟨dst, .field t x f, type, pos, after, guard⟩) (gives_fld hI (by rw [← hd]; exact (hT _ _ hti).und) hfd (hT _ _ hj) rx hle hv) hn
              · cases he
            · cases he
          · cases hc
        · cases hc
      · cases hc
    · cases hc
  | indexAddr t x i =>
    simp only [compOp] at hc
    split at hc
    · rename_i ti x' i' hti hx hi
      split at hc
      · rename_i e hd
        split at hc
        · rename_i j hj
          cases hc
          simp only [evOp, Option.map_eq_some_iff] at he
          obtain ⟨v, hv, he⟩ := he
          cases he
          exact Gives.wp (o := ⟨dst, .indexAddr t x i, type, pos, after, guard⟩) (gives_ia hI (by rw [← hd]; exact (hT _ _ hti).und) (hT _ _ hj) (ho.get hx) (ho.get hi) hv) hn
        · cases hc
      · rename_i n e hd
        split at hc
        · rename_i j hj
          cases hc
          exact Gives.wp (o := ⟨dst, .indexAddr t x i, type, pos, after, guard⟩) (gives_iaa hI (by rw [← hd]; exact (hT _ _ hti).und) (hT _ _ hj) (ho.get hx) (ho.get hi) he) hn
        · cases hc
      · cases hc
    · cases hc
  | index t x i =>
    simp only [compOp] at hc
    split at hc
    · rename_i ti x' i' hti hx hi
      split at hc
      · rename_i hd
        cases hc
        have rx := ho.get hx
        simp only [evOp] at he
        split at he
        · rename_i s n hx1 hn1
          split at he
          · rename_i b hb
            cases he
            rw [hx1] at rx
            exact Gives.wp (o := ⟨dst, .index t x i, type, pos, after, guard⟩) (gives_ixs hI (by rw [← hd]; exact (hT _ _ hti).und) rx (ho.get hi) hn1 hb) hn
          · cases he
        · cases he
      · rename_i n e hd
        split at hc
        · rename_i j hj
          cases hc
          exact Gives.wp (o := ⟨dst, .index t x i, type, pos, after, guard⟩) (gives_ixa hI (by rw [← hd]; exact (hT _ _ hti).und) (hT _ _ hj) (ho.get hx) (ho.get hi) he) hn
        · cases hc
      · cases hc
    · cases hc
  | extract x i =>
    simp only [compOp, Option.map_eq_some_iff] at hc
    obtain ⟨y, hy, rfl⟩ := hc
    have ry := ho.get hy
    simp only [evOp] at he
    split at he
    · rename_i vs hx1
      split at he
      · rename_i v hv
        cases he
        rw [hx1] at ry
        exact Gives.wp (o := ⟨dst, .extract x i, type, pos, after, guard⟩) (gives_extract hI ry hv) hn
      · cases he
    · cases he
  | call cl =>
    obtain ⟨callee, args, argTypes⟩ := cl
    simp only [compOp] at hc
    split at hc
    · -- a function
      rename_i f
      simp only [Option.map_eq_some_iff] at hc
      obtain ⟨l, hl, rfl⟩ := hc
      have ra := cOs_args ho hl
      have hrun : ∀ (vals : Array Value), vals = args.map a.eval → (callFunc f vals).run P w = .ok (.enter f vals) w → (execOp a.eval ⟨dst, .call { callee := .value (.func f), args := args, argTypes := argTypes }, type, pos, after, guard⟩).run P w = .ok (.enter f vals) w := by
        rintro vals rfl hr
        simp only [execOp, resolve, Act.eval, Deferred.ofValue, Sem.run_bind, Sem.run_pure, Result.andThen_ok, invoke]
        simpa using hr
      cases hz : T.frz f with
      | true =>
        rw [hz] at he
        simp only [cond_true, evOp] at he
        split at he
        · rename_i as' hs
          split at he
          · rename_i r' hcr
            cases he
            obtain ⟨I1, hI1, s1⟩ := raises_ok (l.map (getO vars env)) hI
            have ra1 : ArgsRep I1 w σ (l.map (getO vars env)) (args.map a.eval) := ⟨ra.size, fun i v hi => (ra.rep i v hi).step s1⟩
            refine ends_wp (I := I) (hrun _ rfl (hcall.enter _ _ _ _ _ hcr _ _)) ((pure_call hI1 hcall ra1 hs hcr).mono ?_) hn
            rintro e w' ⟨v, I', σ', rfl, h1, h2, h3⟩
            exact ⟨v, I', σ', rfl, h1, s1.trans h2, h3⟩
          · cases he
        · cases he
      | false =>
      rw [hz] at he
      simp only [cond_false] at he
      cases hp : T.pureF f with
      | true =>
        rw [hp] at he
        simp only [evOp] at he
        split at he
        · rename_i as' hs
          split at he
          · rename_i r' hcr
            cases he
            exact ends_wp (hrun _ rfl (hcall.enter _ _ _ _ _ hcr _ _)) (pure_call hI hcall ra hs hcr) hn
          · cases he
        · cases he
      | false =>
        rw [hp] at he
        simp only [evOp] at he
        exact ends_wp (hrun _ rfl (hcall.enter _ _ _ _ _ he _ _)) (hcall.calls _ _ _ _ _ he I σ w _ hI ra) hn
    · rename_i t
      split at hc
      · rename_i x' l hx hl
        cases hc
        have ra := cOs_args ho hl
        have rx := ho t x' hx
        simp only [evOp] at he
        split at he
        · rename_i f first cap hx1
          rw [hx1] at rx
          generalize hv : a.eval (.tmp t) = vx at rx
          cases rx with
          | fn _ _ _ _ ap aq hp hq hpr hqr =>
            have hargs : ArgsRep I w σ (first ++ l.map (getO vars env) ++ cap) (ap ++ args.map a.eval ++ aq) := by
              refine ⟨by simp [hp, hq, ← ra.size], fun i v hi => ?_⟩
              have s1 := ra.size
              by_cases h1 : i < first.length
              · rw [List.append_assoc, List.getElem?_append_left h1] at hi
                rw [Array.append_assoc, getD_left (by omega)]
                exact hpr i v hi
              · rw [List.append_assoc, List.getElem?_append_right (by omega)] at hi
                rw [Array.append_assoc, getD_right (by omega)]
                by_cases h2 : i - first.length < (l.map (getO vars env)).length
                · rw [List.getElem?_append_left h2] at hi
                  rw [getD_left (by omega), hp]
                  exact ra.rep _ v hi
                · rw [List.getElem?_append_right (by omega)] at hi
                  rw [getD_right (by omega), hp, s1]
                  exact hqr _ v hi
            have hr := hcall.enter _ _ _ _ _ he (ap ++ args.map a.eval ++ aq) w
            refine ends_wp (f := f) (vals := ap ++ args.map a.eval ++ aq) ?_ (hcall.calls _ _ _ _ _ he I σ w _ hI hargs) hn
            simp only [execOp, resolve, hv, Deferred.ofValue, Sem.run_bind, Sem.run_pure, Result.andThen_ok, invoke]
            simpa using hr
        · cases he
      · cases hc
    · -- append
      split at hc
      · rename_i s x t t' hargs htys
        split at hc
        · rename_i i s' x' hti hs hx
          split at hc
          · rename_i htt
            subst htt
            split at hc
            · rename_i e hd
              split at hc
              · rename_i j hj
                split at hc
                · rename_i hz
                  cases hc
                  obtain ⟨z1, z2⟩ := zok_iff hz
                  simp only [evOp] at he
                  have := gives_append (P := P) (ty := type) hI (by rw [← hd]; exact (hT _ _ hti).und) (hT _ _ hj) z2 (ho.get hs) (ho.get hx) he
                  refine Gives.wp (o := ⟨dst, .call { callee := .builtin .append, args := args, argTypes := argTypes }, type, pos, after, guard⟩) ?_ hn
                  have e1 : args = #[s, x] := Array.ext' hargs
                  have e2 : argTypes = #[t, t] := Array.ext' htys
                  subst e1; subst e2
                  simpa [execOp, resolve, invoke, builtin] using this
                · cases hc
              · cases hc
            · cases hc
          · cases hc
        · cases hc
      · cases hc
    · -- clear
      split at hc
      · rename_i x t hargs htys
        have e1 : args = #[x] := Array.ext' hargs
        have e2 : argTypes = #[t] := Array.ext' htys
        subst e1; subst e2
        split at hc
        · rename_i i x' hti hx
          split at hc
          · rename_i k e hd
            cases hc
            simp only [evOp, Option.map_eq_some_iff] at he
            obtain ⟨h1, hh1, he⟩ := he
            cases he
            have := gives_clrmap (P := P) (ty := type) hI (by rw [← hd]; exact (hT _ _ hti).und) (ho.get hx) hh1
            refine Gives.wp (o := ⟨dst, .call { callee := .builtin .clear, args := #[x], argTypes := #[t] }, type, pos, after, guard⟩) ?_ hn
            simpa [execOp, resolve, invoke, builtin] using this
          · rename_i e hd
            split at hc
            · rename_i j hj
              split at hc
              · rename_i hz
                cases hc
                obtain ⟨z1, z2⟩ := zok_iff hz
                simp only [evOp, Option.map_eq_some_iff] at he
                obtain ⟨h1, hh1, he⟩ := he
                cases he
                have := gives_clrrow (P := P) (ty := type) hI (by rw [← hd]; exact (hT _ _ hti).und) (hT _ _ hj) z1 z2 (ho.get hx) hh1
                refine Gives.wp (o := ⟨dst, .call { callee := .builtin .clear, args := #[x], argTypes := #[t] }, type, pos, after, guard⟩) ?_ hn
                simpa [execOp, resolve, invoke, builtin] using this
              · cases hc
            · cases hc
          · cases hc
        · cases hc
      · cases hc
    · -- max
      split at hc
      · rename_i x y hargs
        split at hc
        · rename_i x' y' hx hy
          cases hc
          simp only [evOp] at he
          split at he
          · rename_i k u k2 v hx1 hy1
            cases he
            have hrx := ho.get hx
            have hry := ho.get hy
            rw [hx1] at hrx
            rw [hy1] at hry
            have := gives_mm (P := P) (ats := argTypes) (ty := type) (mx := true) hI hrx hry
            refine Gives.wp (o := ⟨dst, .call { callee := .builtin .max, args := args, argTypes := argTypes }, type, pos, after, guard⟩) ?_ hn
            have e1 : args = #[x, y] := Array.ext' hargs
            subst e1
            simpa [execOp, resolve, invoke, builtin] using this
          · cases he
        · cases hc
      · cases hc
    · -- min
      split at hc
      · rename_i x y hargs
        split at hc
        · rename_i x' y' hx hy
          cases hc
          simp only [evOp] at he
          split at he
          · rename_i k u k2 v hx1 hy1
            cases he
            have hrx := ho.get hx
            have hry := ho.get hy
            rw [hx1] at hrx
            rw [hy1] at hry
            have := gives_mm (P := P) (ats := argTypes) (ty := type) (mx := false) hI hrx hry
            refine Gives.wp (o := ⟨dst, .call { callee := .builtin .min, args := args, argTypes := argTypes }, type, pos, after, guard⟩) ?_ hn
            have e1 : args = #[x, y] := Array.ext' hargs
            subst e1
            simpa [execOp, resolve, invoke, builtin] using this
          · cases he
        · cases hc
      · cases hc
    · -- len
      split at hc
      · rename_i x t hargs htys
        have e1 : args = #[x] := Array.ext' hargs
        have e2 : argTypes = #[t] := Array.ext' htys
        subst e1; subst e2
        split at hc
        · rename_i i x' hti hx
          have len : ∀ k : LenK, k.ok i.desc = true → c = .len k x' → Oper.wp P ⟨dst, .call { callee := .builtin .len, args := #[x], argTypes := #[t] }, type, pos, after, guard⟩ a w next Q := by
            rintro k hk rfl
            simp only [evOp, Option.map_eq_some_iff] at he
            obtain ⟨n, hn1, he⟩ := he
            cases he
            have := gives_len (P := P) (ty := type) hI (hT _ _ hti).und hk (ho.get hx) hn1
            refine Gives.wp (o := ⟨dst, .call { callee := .builtin .len, args := #[x], argTypes := #[t] }, type, pos, after, guard⟩) ?_ hn
            simpa [execOp, resolve, invoke, builtin] using this
          split at hc <;> first | (cases hc; done) | skip
          · rename_i e hd; cases hc; exact len .slice (by rw [hd]; rfl) rfl
          · rename_i hd; cases hc; exact len .string (by rw [hd]; rfl) rfl
          · rename_i k e hd; cases hc; exact len .map (by rw [hd]; rfl) rfl
        · cases hc
      · cases hc
    · cases hc
  | panic x => simp only [compOp, Option.some.injEq] at hc; subst hc; cases he
  | makeInterface t x => simp only [compOp, Option.some.injEq] at hc; subst hc; cases he
  | _ => simp [compOp] at hc
end
end Go.AE
end

/-! AE, part 18: regions in the order of the text. -/
section
set_option linter.unusedVariables false
set_option linter.unusedSimpArgs false
namespace Go.AE
open Go Go.RowKit

def varOf (vt : List Tmp) (t : Tmp) : Option Nat := vt.findIdx? (· == t)
def mOf (vt : List Tmp) (lm : List (Option Tmp)) (t : Tmp) : Option Opd :=
  match varOf vt t with
  | some i => some (.var i)
  | none => (lm.findIdx? (· == some t)).map .loc

def compGuard (vt : List Tmp) (all : Array Oper) (lm : List (Option Tmp)) : Option (Nat × Bool) → Option (Option (Opd × Bool))
  | none => some none
  | some (g, want) => match (all[g]?).bind (·.dst) with
    | some t => (mOf vt lm t).map fun x => some (x, want)
    | none => none

/-- where an operation's result is told from now on -/
def lmOf (vt : List Tmp) (d : Option Tmp) (lm : List (Option Tmp)) : List (Option Tmp) :=
  (match d.bind (varOf vt) with
    | some _ => none
    | none => d) :: lm

def compOps (T : Tb) (nt : Nat) (vt : List Tmp) (all : Array Oper) : List (Option Tmp) → List Oper → Option (List CO)
  | _, [] => some []
  | lm, o :: r =>
    match compOp T (mOf vt lm) o, compGuard vt all lm o.guard, compOps T nt vt all (lmOf vt o.dst lm) r with
    | some c, some g, some cs => if o.dst.all (fun d => decide (d < nt)) then some (⟨c, o.dst.bind (varOf vt), g⟩ :: cs) else none
    | _, _, _ => none

/-- The variables, as they lie among the temporaries. -/
structure VOk (I : Cells) (w : World) (σ : List Loc) (vt : List Tmp) (nt : Nat) (vars : List AV) (a : Act) : Prop where
  len : vars.length = vt.length
  size : a.tmps.size = nt
  defers : a.defers = []
  nodup : vt.Nodup
  lt : ∀ t ∈ vt, t < nt
  rep : ∀ (i : Nat) (t : Tmp) (v : AV), vt[i]? = some t → vars[i]? = some v → Rep I w σ v (a.tmps.getD t undef)

/-- What operations of this region have given. -/
structure EOk (I : Cells) (w : World) (σ : List Loc) (vt : List Tmp) (lm : List (Option Tmp)) (env : List AV) (a : Act) : Prop where
  len : lm.length = env.length
  rep : ∀ (t : Tmp) (j : Nat), varOf vt t = none → lm.findIdx? (· == some t) = some j → Rep I w σ (env.getD j .junk) (a.tmps.getD t undef)

section
variable {P : Program} {B : Nat} {w0 w w' : World} {I I' : Cells} {σ σ' : List Loc} {h : List AO} {vt : List Tmp} {nt : Nat} {vars env : List AV} {lm : List (Option Tmp)} {a : Act}

theorem VOk.step (hv : VOk I w σ vt nt vars a) (s : Step B I σ w I' σ' w') : VOk I' w' σ' vt nt vars a :=
  ⟨hv.len, hv.size, hv.defers, hv.nodup, hv.lt, fun i t v h1 h2 => (hv.rep i t v h1 h2).step s⟩
theorem EOk.step (he : EOk I w σ vt lm env a) (s : Step B I σ w I' σ' w') : EOk I' w' σ' vt lm env a :=
  ⟨he.len, fun t j h1 h2 => (he.rep t j h1 h2).step s⟩

theorem varOf_eq {t : Tmp} {i : Nat} (h : varOf vt t = some i) : vt[i]? = some t := by
  obtain ⟨hlt, hp, _⟩ := List.findIdx?_eq_some_iff_getElem.1 h
  rw [List.getElem?_eq_getElem hlt]
  simpa using hp
theorem varOf_none {t : Tmp} (h : varOf vt t = none) : t ∉ vt := by
  intro hm
  have := List.findIdx?_eq_none_iff.1 h t hm
  simp at this

theorem ok_ops (hv : VOk I w σ vt nt vars a) (he : EOk I w σ vt lm env a) : OpsOk I w σ vars env a.eval (mOf vt lm) := by
  intro t y hy
  unfold mOf at hy
  split at hy
  · rename_i i hi
    cases hy
    have h1 := varOf_eq hi
    have hlt := (List.getElem?_eq_some_iff.1 h1).1
    have h2 : vars[i]? = some (vars.getD i .junk) := by
      rw [List.getD_eq_getElem?_getD, List.getElem?_eq_getElem (by rw [hv.len]; exact hlt)]; rfl
    exact hv.rep i t _ h1 h2
  · rename_i hn
    obtain ⟨j, hj, rfl⟩ := Option.map_eq_some_iff.1 hy
    exact he.rep t j hn hj

theorem put_getD {d t : Tmp} {v : Value} (hd : d < a.tmps.size) : (a.put (some d) v).tmps.getD t undef = if t = d then v else a.tmps.getD t undef := by
  simp only [Act.put]
  rw [Array.getD_eq_getD_getElem?, Array.getD_eq_getD_getElem?]
  by_cases e : t = d
  · subst e
    rw [Array.getElem?_setIfInBounds_self_of_lt hd, if_pos rfl]; rfl
  · rw [Array.getElem?_setIfInBounds_ne (fun h => e h.symm), if_neg e]

theorem put_ok (hv : VOk I w σ vt nt vars a) (he : EOk I w σ vt lm env a) {d : Option Tmp} (hd : d.all (fun d => decide (d < nt)) = true) {x : AV} {v : Value} (hx : Rep I w σ x v) :
    VOk I w σ vt nt (setO vars (d.bind (varOf vt)) x) (a.put d v) ∧ EOk I w σ vt (lmOf vt d lm) (x :: env) (a.put d v) := by
  cases d with
  | none =>
    refine ⟨hv, by simp [lmOf, he.len], fun t j h1 h2 => ?_⟩
    simp only [lmOf, Option.bind_none, List.findIdx?_cons] at h2
    simp at h2
    obtain ⟨j', hj', rfl⟩ := h2
    exact he.rep t j' h1 (by simpa using hj')
  | some d =>
    simp only [Option.all_some, decide_eq_true_eq] at hd
    have hd' : d < a.tmps.size := by rw [hv.size]; exact hd
    have hsz : (a.put (some d) v).tmps.size = nt := by simp [Act.put, hv.size]
    cases hvar : varOf vt d with
    | some i =>
      have hi := varOf_eq hvar
      simp only [Option.bind_some, hvar, setO, lmOf]
      refine ⟨⟨by simp [hv.len], hsz, hv.defers, hv.nodup, hv.lt, fun k t y h1 h2 => ?_⟩, by simp [he.len], fun t j h1 h2 => ?_⟩
      · rw [put_getD hd']
        by_cases e : i = k
        · subst e
          rw [hi] at h1; cases h1
          rw [List.getElem?_set_self (by rw [hv.len]; exact (List.getElem?_eq_some_iff.1 hi).1)] at h2
          cases h2
          rw [if_pos rfl]; exact hx
        · rw [List.getElem?_set_ne e] at h2
          have hne : t ≠ d := by
            rintro rfl
            obtain ⟨l1, g1⟩ := List.getElem?_eq_some_iff.1 h1
            obtain ⟨l2, g2⟩ := List.getElem?_eq_some_iff.1 hi
            exact e ((List.getElem_inj hv.nodup).1 (g2.trans g1.symm))
          rw [if_neg hne]; exact hv.rep k t y h1 h2
      · have hne : t ≠ d := by rintro rfl; rw [hvar] at h1; cases h1
        rw [put_getD hd', if_neg hne]
        simp only [List.findIdx?_cons] at h2
        simp at h2
        obtain ⟨j', hj', rfl⟩ := h2
        exact he.rep t j' h1 (by simpa using hj')
    | none =>
      simp only [Option.bind_some, hvar, setO, lmOf]
      have hnm := varOf_none hvar
      refine ⟨⟨hv.len, hsz, hv.defers, hv.nodup, hv.lt, fun k t y h1 h2 => ?_⟩, by simp [he.len], fun t j h1 h2 => ?_⟩
      · have hne : t ≠ d := by rintro rfl; exact hnm (List.mem_of_getElem? h1)
        rw [put_getD hd', if_neg hne]; exact hv.rep k t y h1 h2
      · rw [put_getD hd']
        simp only [List.findIdx?_cons] at h2
        by_cases e : t = d
        · subst e
          simp at h2; subst h2
          rw [if_pos rfl]; exact hx
        · rw [if_neg e]
          have : ((some d : Option Tmp) == some t) = false := by simp; exact fun h => e h.symm
          simp only [this] at h2
          simp at h2
          obtain ⟨j', hj', rfl⟩ := h2
          exact he.rep t j' h1 (by simpa using hj')

/-- A region's operations, from number p on, in the order of the text. -/
theorem ops_sound {T : Tb} (hT : TbOk P T) {call : CallF} (hcall : CallOk P B w0 call) {ops : Array Oper} {Q : Exit → Act → World → Prop} :
    ∀ (r : List Oper) (p : Nat) (lm : List (Option Tmp)) (env vars vars' : List AV) (h h' : List AO) (cs : List CO) (I : Cells) (σ : List Loc) (w : World) (a : Act),
      ops.toList.drop p = r → compOps T nt vt ops lm r = some cs → evOps call cs vars env h = some (vars', h') → VOk I w σ vt nt vars a → EOk I w σ vt lm env a → Inv B w0 I σ w h →
      (∀ a' w' I' σ', VOk I' w' σ' vt nt vars' a' → Inv B w0 I' σ' w' h' → Step B I σ w I' σ' w' → Q .normal a' w') → wpOps P ops Q (List.range' p r.length) a w := by
  intro r
  induction r with
  | nil =>
    intro p lm env vars vars' h h' cs I σ w a hr hc he hv hen hI hQ
    simp only [compOps, Option.some.injEq] at hc
    subst hc
    simp only [evOps, Option.some.injEq, Prod.mk.injEq] at he
    obtain ⟨rfl, rfl⟩ := he
    exact hQ a w I σ hv hI (Step.refl _ _ _ _)
  | cons o r ih =>
    intro p lm env vars vars' h h' cs I σ w a hr hc he hv hen hI hQ
    have hop : ops[p]? = some o := by
      have : (ops.toList.drop p)[0]? = some o := by rw [hr]; rfl
      simpa using this
    have hr' : ops.toList.drop (p + 1) = r := by
      rw [← List.tail_drop, hr]; rfl
    simp only [compOps] at hc
    split at hc
    · rename_i c g cs' h1 h2 h3
      split at hc
      · rename_i hd
        cases hc
        simp only [List.length_cons, List.range'_succ, wpOps, hop]
        have hok := ok_ops hv hen
        -- carried out
        have run : ∀ (v : AV) (h2 : List AO), evOp call vars env h c = some (v, h2) → evOps call cs' (setO vars (o.dst.bind (varOf vt)) v) (v :: env) h2 = some (vars', h') →
            Oper.wp P o a w (wpOps P ops Q (List.range' (p + 1) r.length)) Q := by
          intro v h2 hev he2
          refine op_sound hI hT h1 hok hcall hev ?_
          intro u w1 I1 σ1 hI1 st1 hr1
          obtain ⟨g1, g2⟩ := put_ok (hv.step st1) (hen.step st1) hd hr1
          exact ih (p + 1) _ _ _ _ _ _ _ I1 σ1 w1 _ hr' h3 he2 g1 g2 hI1 (fun a' w' I' σ' q1 q2 q3 => hQ a' w' I' σ' q1 q2 (st1.trans q3))
        -- passed over
        have skip : evOps call cs' (setO vars (o.dst.bind (varOf vt)) (.v undef)) (.v undef :: env) h = some (vars', h') → wpOps P ops Q (List.range' (p + 1) r.length) (a.put o.dst undef) w := by
          intro he2
          obtain ⟨g1, g2⟩ := put_ok hv hen hd (Rep.v (I := I) (w := w) σ undef)
          exact ih (p + 1) _ _ _ _ _ _ _ I σ w _ hr' h3 he2 g1 g2 hI hQ
        simp only [evOps] at he
        cases hg : o.guard with
        | none =>
          rw [hg] at h2
          simp only [compGuard, Option.some.injEq] at h2
          subst h2
          simp only at he
          split at he
          · rename_i v h2 hev
            rw [if_pos (by simp [Region.wanted, hg])]
            exact .inl (run v h2 hev he)
          · cases he
        | some gw =>
          obtain ⟨gi, want⟩ := gw
          rw [hg] at h2
          simp only [compGuard] at h2
          split at h2
          · rename_i t ht
            obtain ⟨x, hx, rfl⟩ := Option.map_eq_some_iff.1 h2
            simp only at he
            have hrep := hok t x hx
            have hy : yielded ops a.tmps gi = (match a.tmps.getD t undef with | .bool b => some b | _ => none) := by
              unfold yielded
              rw [ht]
              simp only [Option.bind_some]
              rw [Array.getD_eq_getD_getElem?]
              cases a.tmps[t]? with
              | none => rfl
              | some z => cases z <;> rfl
            split at he
            · rename_i b hb
              rw [hb] at hrep
              have hbv : a.tmps.getD t undef = .bool b := by
                have : a.eval (.tmp t) = a.tmps.getD t undef := rfl
                rw [← this]; generalize a.eval (.tmp t) = z at hrep; cases hrep; rfl
              rw [hbv] at hy
              split at he
              · rename_i hbw
                split at he
                · rename_i v h2 hev
                  rw [if_pos (by simp [Region.wanted, hg, hy, hbw])]
                  exact .inl (run v h2 hev he)
                · cases he
              · rename_i hbw
                rw [if_neg (by simp [Region.wanted, hg, hy, hbw])]
                exact skip he
            · rename_i z hb
              rw [hb] at hrep
              have hbv : a.tmps.getD t undef = .tuple z := by
                have : a.eval (.tmp t) = a.tmps.getD t undef := rfl
                rw [← this]; generalize a.eval (.tmp t) = z at hrep; cases hrep; rfl
              rw [hbv] at hy
              rw [if_neg (by simp [Region.wanted, hg, hy])]
              exact skip he
            · cases he
          · cases h2
      · cases hc
    · cases hc
end
end Go.AE
end

/-! AE, part 19: what is agreed ahead of a region; what is left behind a call. -/
section
set_option linter.unusedVariables false
set_option linter.unusedSimpArgs false
namespace Go.AE
open Go Go.RowKit

section
variable {P : Program} {B : Nat} {w0 w w' : World} {I I' : Cells} {σ σ' : List Loc} {h : List AO} {vt : List Tmp} {nt : Nat} {vars env : List AV} {lm : List (Option Tmp)} {a : Act}

/-- a nil is as good as a row without elements, that lies nowhere yet -/
theorem adopt_ok (hI : Inv B w0 I σ w h) (sz : Nat) : Inv B w0 I (σ ++ [⟨false, false, 0, 0, 0, 0⟩]) w (h ++ [.row sz 0 [] 0]) ∧ Step B I σ w I (σ ++ [⟨false, false, 0, 0, 0, 0⟩]) w ∧
    Rep I w (σ ++ [⟨false, false, 0, 0, 0, 0⟩]) (.own sz h.length 0 0 0) (.slice none 0 0) := by
  refine ⟨hI.push (Below.refl _ _) (Ext.refl _ _) hI.imm (fun j Lj _ _ => ⟨rfl, fun x hx => hx⟩) ⟨rfl, rfl, Nat.le_refl _, fun j el e => by simp at e, .inl ⟨rfl, rfl, rfl⟩⟩ (fun e => by cases e),
    ⟨Ext.refl _ _, Later.append _ _, fun b x hx => .inl hx, Nat.le_refl _⟩, ?_⟩
  exact .own _ sz _ 0 0 0 _ rfl ⟨false, false, 0, 0, 0, 0⟩ (by rw [← hI.len]; simp) (Nat.le_refl _) (fun _ => .inr ⟨rfl, none, rfl⟩)

theorem mark_ok (hI : Inv B w0 I σ w h) (hv : VOk I w σ vt nt vars a) (m : Mark) :
    ∃ I' σ', Inv B w0 I' σ' w (doMark (vars, h) m).2 ∧ Step B I σ w I' σ' w ∧ VOk I' w σ' vt nt (doMark (vars, h) m).1 a := by
  cases m with
  | v i =>
    simp only [doMark]
    obtain ⟨I', h1, h2⟩ := raise1_ok hI (vars.getD i .junk)
    exact ⟨I', σ, h1, h2, hv.step h2⟩
  | p i off n =>
    simp only [doMark]
    split
    · split
      · obtain ⟨I', h1, h2⟩ := raiseL_ok ((List.drop (_ + off) _).take n) hI
        exact ⟨I', σ, h1, h2, hv.step h2⟩
      · exact ⟨I, σ, hI, Step.refl _ _ _ _, hv⟩
    · exact ⟨I, σ, hI, Step.refl _ _ _ _, hv⟩
  | av i sz =>
    simp only [doMark]
    split
    · rename_i hx
      obtain ⟨h1, h2, h3⟩ := adopt_ok hI sz
      refine ⟨I, _, h1, h2, ?_⟩
      have hv' := hv.step h2
      refine ⟨by simp [hv.len], hv.size, hv.defers, hv.nodup, hv.lt, fun j t y g1 g2 => ?_⟩
      by_cases e : i = j
      · subst e
        have hlt : i < vars.length := by rw [hv.len]; exact (List.getElem?_eq_some_iff.1 g1).1
        rw [List.getElem?_set_self hlt] at g2
        cases g2
        have hrep := hv.rep i t _ g1 (List.getElem?_eq_getElem hlt)
        have hxx : vars[i] = .v (.slice none 0 0) := by rw [List.getD_eq_getElem?_getD, List.getElem?_eq_getElem hlt] at hx; exact hx
        rw [hxx] at hrep
        generalize a.tmps.getD t undef = z at hrep ⊢
        cases hrep
        exact h3
      · rw [List.getElem?_set_ne e] at g2
        exact hv'.rep j t y g1 g2
    · exact ⟨I, σ, hI, Step.refl _ _ _ _, hv⟩
  | ap i off sz =>
    simp only [doMark]
    split
    · rename_i id o hx
      split
      · rename_i cs ho
        split
        · rename_i hc
          obtain ⟨h1, h2, h3⟩ := adopt_ok hI sz
          have hid := (List.getElem?_eq_some_iff.1 ho).1
          have ho1 : (h ++ [AO.row sz 0 [] 0])[id]? = some (.box cs) := by rw [List.getElem?_append_left hid]; exact ho
          obtain ⟨L, hL, hf, hhas, hR⟩ := h1.loc ho1
          obtain ⟨arr, t, hb, hs, hone, hrep⟩ := hR.lies
          have hBb := h1.mine id L hL hhas
          have hval : Rep I w (σ ++ [⟨false, false, 0, 0, 0, 0⟩]) (.own sz h.length 0 0 0) (arr.getD (o + off) undef) := by
            have := hrep _ _ hc
            generalize arr.getD (o + off) undef = z at this ⊢
            cases this
            exact h3
          have hinv := h1.upd (id := id) (L' := L) (o' := .box (cs.set (o + off) (.own sz h.length 0 0 0))) (w' := w) hL (Below.refl _ _) (Ext.refl _ _) h1.imm (fun j Lj _ _ _ => ⟨rfl, fun x hx => hx⟩) (.inl rfl)
            (by
              rw [set_same hL]
              refine ⟨hf, hhas, hR.o, ⟨arr, t, hb, by simp [hs], fun j c hj => ?_, fun j c hj => ?_⟩, hR.apart⟩
              · by_cases e : o + off = j
                · subst e
                  exact hone _ _ hc
                · rw [List.getElem?_set_ne e] at hj; exact hone j c hj
              · by_cases e : o + off = j
                · subst e
                  rw [List.getElem?_set_self (List.getElem?_eq_some_iff.1 hc).1] at hj
                  cases hj; exact hval
                · rw [List.getElem?_set_ne e] at hj; exact hrep j c hj)
            (fun _ => ⟨hBb.1, hBb.2, fun j Lj hj hLj hhj => h1.dist j id Lj L hLj hL hj hhj hhas⟩)
          rw [set_same hL, List.set_append_left _ _ hid] at hinv
          exact ⟨I, _, hinv, h2, hv.step h2⟩
        · exact ⟨I, σ, hI, Step.refl _ _ _ _, hv⟩
      · exact ⟨I, σ, hI, Step.refl _ _ _ _, hv⟩
    · exact ⟨I, σ, hI, Step.refl _ _ _ _, hv⟩

theorem marks_ok : ∀ (ms : List Mark) {I : Cells} {σ : List Loc} {h : List AO} {vars : List AV}, Inv B w0 I σ w h → VOk I w σ vt nt vars a →
    ∃ I' σ', Inv B w0 I' σ' w (ms.foldl doMark (vars, h)).2 ∧ Step B I σ w I' σ' w ∧ VOk I' w σ' vt nt (ms.foldl doMark (vars, h)).1 a := by
  intro ms
  induction ms with
  | nil => intro I σ h vars hI hv; exact ⟨I, σ, hI, Step.refl _ _ _ _, hv⟩
  | cons m ms ih =>
    intro I σ h vars hI hv
    obtain ⟨I1, σ1, h1, s1, v1⟩ := mark_ok hI hv m
    obtain ⟨I2, σ2, h2, s2, v2⟩ := ih h1 v1
    exact ⟨I2, σ2, h2, s1.trans s2, v2⟩
end
end Go.AE
end

/-! AE, part 20: what is left behind a call. -/
section
set_option linter.unusedVariables false
set_option linter.unusedSimpArgs false
namespace Go.AE
open Go Go.RowKit

section
variable {P : Program} {B : Nat} {w0 w w' : World} {I I' : Cells} {σ σ' : List Loc} {h : List AO}

theorem take_loc {n id : Nat} {L : Loc} (hL : σ[id]? = some L) (hlt : id < n) : (σ.take n)[id]? = some L := by
  rw [List.getElem?_take_of_lt hlt]; exact hL

theorem Rep.below0 {n : Nat} {x : AV} {v : Value} (hr : Rep I w σ x v) (hb : x.below0 n = true) : Rep I w (σ.take n) x v := by
  cases hr with
  | v => exact .v _ _
  | junk => exact .junk _ _
  | slc _ sz ex nn l a cap b o g ha hn hnil hcap hex hsz hc hi h1 hr => exact .slc _ sz ex nn l a cap b o g ha hn hnil hcap hex hsz hc hi h1 hr
  | ip _ cs b o g hc hi h1 hr => exact .ip _ cs b o g hc hi h1 hr
  | agg _ cs arr hs h1 hr => simp [AV.below0] at hb
  | tup _ vs arr hs hr => simp [AV.below0] at hb
  | own _ sz id ver off n' x h1x L hL hv hx => exact .own _ sz id ver off n' _ h1x L (take_loc hL (by simpa [AV.below0] using hb)) hv hx
  | ptr _ id off L hL hf' => exact .ptr _ id off L (take_loc hL (by simpa [AV.below0] using hb)) hf'
  | ep _ sz id ver idx off x h1x L hL hv hx => exact .ep _ sz id ver idx off _ h1x L (take_loc hL (by simpa [AV.below0] using hb)) hv hx
  | mp _ id L hL hf' => exact .mp _ id L (take_loc hL (by simpa [AV.below0] using hb)) hf'
  | it _ id L hL hf' => exact .it _ id L (take_loc hL (by simpa [AV.below0] using hb)) hf'
  | fn _ f p q ap aq hp hq hpr hqr =>
    cases p with
    | cons _ _ => simp [AV.below0] at hb
    | nil => cases q with
      | cons _ _ => simp [AV.below0] at hb
      | nil => exact .fn _ f [] [] ap aq hp hq (fun i c h => by simp at h) (fun i c h => by simp at h)

theorem Rep.below1 {n : Nat} {x : AV} {v : Value} (hr : Rep I w σ x v) (hb : x.below1 n = true) : Rep I w (σ.take n) x v := by
  cases x with
  | fn f p q =>
    cases hr with
    | fn _ _ _ _ ap aq hp hq hpr hqr =>
      simp only [AV.below1, Bool.and_eq_true, List.all_eq_true] at hb
      exact .fn _ f p q ap aq hp hq (fun i c hc => (hpr i c hc).below0 (hb.1 c (List.mem_of_getElem? hc))) (fun i c hc => (hqr i c hc).below0 (hb.2 c (List.mem_of_getElem? hc)))
  | _ => exact hr.below0 (by simpa [AV.below1] using hb)

/-- What can't change any more once the objects from n on are gone. -/
def Gone (I : Cells) (w : World) (σ : List Loc) (n : Nat) : Cells := fun b x => I b x ∨ (∃ (id : Nat) (L : Loc), n ≤ id ∧ σ[id]? = some L ∧ L.has = true ∧ L.b = b ∧ ∃ v, w.cell? ⟨b, x, none⟩ = some v)

theorem gone_ext (n : Nat) : Ext I w (Gone I w σ n) w := ⟨fun b x h => .inl h, fun _ _ _ => rfl⟩

theorem Inv.leave (hI : Inv B w0 I σ w h) {n : Nat} (hn : n ≤ h.length) (hb : (h.take n).all (AO.below n) = true) : Inv B w0 (Gone I w σ n) (σ.take n) w (h.take n) where
  below := hI.below
  base := hI.base
  len := by simp [hI.len]
  obj := by
    intro id o L ho hL
    have hlt : id < n := by
      have := (List.getElem?_eq_some_iff.1 ho).1
      simp at this; omega
    rw [List.getElem?_take_of_lt hlt] at ho hL
    have hbo : o.below n = true := by
      have := List.all_eq_true.1 hb o (List.mem_of_getElem? (i := id) (by rw [List.getElem?_take_of_lt hlt]; exact ho))
      exact this
    have hr := hI.obj id o L ho hL
    have hno : L.has = true → ∀ x, Gone I w σ n L.b x → I L.b x := by
      rintro hh x (hx | ⟨id', L', h1, h2, h3, h4, _⟩)
      · exact hx
      · exact absurd h4.symm (hI.dist id id' L L' hL h2 (by omega) hh h3)
    cases o with
    | box cs =>
      obtain ⟨h1, h2, h3, ⟨arr, t, h4, h5, h6, h7⟩, h8⟩ := hr
      simp only [AO.below, List.all_eq_true] at hbo
      exact ⟨h1, h2, h3, ⟨arr, t, h4, h5, h6, fun i c hc => ((h7 i c hc).below1 (hbo c (List.mem_of_getElem? hc))).mono (gone_ext n) (Later.refl _)⟩, fun x hx => h8 x (hno h2 x hx)⟩
    | row sz ver l k => exact ⟨hr.1, hr.2.1, hr.2.2.mono (gone_ext n) (fun _ => rfl) hno⟩
    | map kk es =>
      obtain ⟨h1, h2, entries, clock, h3, h4, h4', h5⟩ := hr
      refine ⟨h1, h2, entries, clock, h3, h4, h4', fun i e hi => ?_⟩
      obtain ⟨m, m1, m2, m3⟩ := h5 i e hi
      exact ⟨m, m1, m2, m3.mono (gone_ext n) (Later.refl _)⟩
    | siter s pos => exact hr
  mine := fun id L hL hh => hI.mine id L (by
    have hlt : id < n := by
      have := (List.getElem?_eq_some_iff.1 hL).1
      simp at this; omega
    rwa [List.getElem?_take_of_lt hlt] at hL) hh
  dist := fun i j Li Lj hi hj hne h1 h2 => hI.dist i j Li Lj (take_get hi) (take_get hj) hne h1 h2
  imm := by
    rintro b x (hx | ⟨_, _, _, _, _, _, hv⟩)
    · exact hI.imm b x hx
    · exact hv

theorem gone_step {n : Nat} (hI : Inv B w0 I σ w h) {σ0 : List Loc} {I0 : Cells} {wa : World} (hs : Step B I0 σ0 wa I σ w) (hn : σ0.length = n) : Step B I0 σ0 wa (Gone I w σ n) (σ.take n) w := by
  refine ⟨hs.ext.trans (gone_ext n), fun id L hL => ?_, ?_, hs.size⟩
  · obtain ⟨L', h1, h2⟩ := hs.later id L hL
    have := (List.getElem?_eq_some_iff.1 hL).1
    exact ⟨L', take_loc h1 (by omega), h2⟩
  · rintro b x (hx | ⟨id, L, _, h2, h3, rfl, _⟩)
    · exact hs.new b x hx
    · exact .inr (hI.mine id L h2 h3).1

/-- A row that is gone, as a value. -/
theorem Rep.frz0 (hI : Inv B w0 I σ w h) {n : Nat} {x y : AV} {v : Value} (hr : Rep I w σ x v) (hf : x.frz0 n h = some y) : Rep (Gone I w σ n) w (σ.take n) y v := by
  cases x with
  | own sz id ver off m =>
    simp only [AV.frz0] at hf
    split at hf
    · rename_i hlt
      cases hf
      exact (hr.below0 (by simpa [AV.below0] using hlt)).mono (gone_ext n) (Later.refl _)
    · rename_i hge
      split at hf
      · rename_i l k hra
        cases hf
        obtain ⟨hh, hm⟩ := rowAt_eq hra
        cases hr with
        | own _ _ _ _ _ _ x h1x L hL hv hx =>
          obtain ⟨hfx, hver, hR⟩ := hI.obj id _ L hh hL
          have hlen := take_drop_len (l := l) (off := off) (n := m) hm
          rcases hx hver.symm with ⟨hhas, hcap, rfl⟩ | ⟨rfl, a, rfl⟩
          · by_cases hne : l = []
            · subst hne
              simp at hm
              have hn0 : m = 0 := by omega
              subst hn0
              exact .slc _ sz false false [] (some ⟨L.b, L.o + off * sz, none⟩) (L.cap - off) 0 0 (fun _ _ => undef) (fun e => absurd rfl e) (fun e => by cases e) (fun e => by cases e) (by simp) (fun e => by cases e)
                (fun j el e => by simp at e) (fun j el i c e => by simp at e) (fun j el i c e => by simp at e) (fun j el i c e => by simp at e) (fun j el i c e => by simp at e)
            · obtain ⟨_, _, _, _, hsz, g, hc, h1, hr⟩ := hI.row_cells hh hL hne
              have cell : ∀ (j : Nat) (el : AV) (i : Nat) (c : AV), ((l.drop off).take m)[j]? = some el → el.cells[i]? = some c → w.cell? ⟨L.b, L.o + off * sz + (j * sz + i), none⟩ = some (g (off + j) i) := by
                intro j el i c e f
                have := hc _ el i c (drop_take_get l off m j el e).1 f
                rwa [show L.o + off * sz + (j * sz + i) = L.o + ((off + j) * sz + i) by rw [Nat.add_mul]; omega]
              have key := Rep.slc (I := Gone I w σ n) (w := w) (σ.take n) sz false false ((l.drop off).take m) (some ⟨L.b, L.o + off * sz, none⟩) (L.cap - off) L.b (L.o + off * sz) (fun j i => g (off + j) i) (fun _ => rfl) (fun e => by cases e)
                (fun e => by cases e) (by rw [hlen]; omega) (fun e => by cases e) (fun j el e => hsz _ el (drop_take_get l off m j el e).1) cell
                (fun j el i c e f => .inr ⟨id, L, by omega, hL, hhas, rfl, _, cell j el i c e f⟩)
                (fun j el i c e f => h1 _ el i c (drop_take_get l off m j el e).1 f) (fun j el i c e f => (hr _ el i c (drop_take_get l off m j el e).1 f).mono (gone_ext n) (Later.refl _))
              rw [hlen] at key
              exact key
          · have : (l.drop off).take 0 = [] := by simp
            rw [this]
            exact .slc _ sz false false [] a 0 0 0 (fun _ _ => undef) (fun e => absurd rfl e) (fun e => by cases e) (fun _ => rfl) (by simp) (fun e => by cases e)
                (fun j el e => by simp at e) (fun j el i c e => by simp at e) (fun j el i c e => by simp at e) (fun j el i c e => by simp at e) (fun j el i c e => by simp at e)
      · cases hf
  | ptr id off =>
    simp only [AV.frz0] at hf
    split at hf
    · rename_i hlt; cases hf; exact (hr.below0 (by simpa [AV.below0] using hlt)).mono (gone_ext n) (Later.refl _)
    · cases hf
  | ep sz id ver i off =>
    simp only [AV.frz0] at hf
    split at hf
    · rename_i hlt; cases hf; exact (hr.below0 (by simpa [AV.below0] using hlt)).mono (gone_ext n) (Later.refl _)
    · cases hf
  | mp id =>
    simp only [AV.frz0] at hf
    split at hf
    · rename_i hlt; cases hf; exact (hr.below0 (by simpa [AV.below0] using hlt)).mono (gone_ext n) (Later.refl _)
    · cases hf
  | it id =>
    simp only [AV.frz0] at hf
    split at hf
    · rename_i hlt; cases hf; exact (hr.below0 (by simpa [AV.below0] using hlt)).mono (gone_ext n) (Later.refl _)
    · cases hf
  | fn f p q =>
    cases p with
    | cons _ _ => simp [AV.frz0] at hf
    | nil => cases q with
      | cons _ _ => simp [AV.frz0] at hf
      | nil =>
        simp only [AV.frz0, Option.some.injEq] at hf
        subst hf
        exact (hr.below0 (n := n) (by simp [AV.below0])).mono (gone_ext n) (Later.refl _)
  | agg cs => simp [AV.frz0] at hf
  | tup vs => simp [AV.frz0] at hf
  | v x => simp only [AV.frz0, Option.some.injEq] at hf; subst hf; exact (hr.below0 (n := n) rfl).mono (gone_ext n) (Later.refl _)
  | junk => simp only [AV.frz0, Option.some.injEq] at hf; subst hf; exact .junk _ _
  | slc sz ex nn l => simp only [AV.frz0, Option.some.injEq] at hf; subst hf; exact (hr.below0 (n := n) rfl).mono (gone_ext n) (Later.refl _)
  | ip cs => simp only [AV.frz0, Option.some.injEq] at hf; subst hf; exact (hr.below0 (n := n) rfl).mono (gone_ext n) (Later.refl _)

theorem Rep.frz1 (hI : Inv B w0 I σ w h) {n : Nat} {x y : AV} {v : Value} (hr : Rep I w σ x v) (hf : x.frz1 n h = some y) : Rep (Gone I w σ n) w (σ.take n) y v := by
  cases x with
  | agg cs =>
    simp only [AV.frz1, Option.map_eq_some_iff] at hf
    obtain ⟨cs', hm, rfl⟩ := hf
    cases hr with
    | agg _ _ arr hs h1 hr =>
      refine .agg _ cs' arr (by rw [(mapM_get hm).1]; exact hs) (fun i c hi => ?_) (fun i c hi => ?_)
      · obtain ⟨x, hx, _⟩ := mapM_get' hm hi; exact h1 i x hx
      · obtain ⟨x, hx, hf⟩ := mapM_get' hm hi; exact (hr i x hx).frz0 hI hf
  | fn f p q =>
    simp only [AV.frz1, Option.bind_eq_bind, Option.bind_eq_some_iff, Option.pure_def, Option.some.injEq] at hf
    obtain ⟨p', hp', q', hq', rfl⟩ := hf
    cases hr with
    | fn _ _ _ _ ap aq hp hq hpr hqr =>
      refine .fn _ f p' q' ap aq (by rw [(mapM_get hp').1]; exact hp) (by rw [(mapM_get hq').1]; exact hq) (fun i c hi => ?_) (fun i c hi => ?_)
      · obtain ⟨x, hx, hf⟩ := mapM_get' hp' hi; exact (hpr i x hx).frz0 hI hf
      · obtain ⟨x, hx, hf⟩ := mapM_get' hq' hi; exact (hqr i x hx).frz0 hI hf
  | _ => exact hr.frz0 hI (by simpa [AV.frz1] using hf)

theorem Rep.frz2 (hI : Inv B w0 I σ w h) {n : Nat} {x y : AV} {v : Value} (hr : Rep I w σ x v) (hf : x.frz2 n h = some y) : Rep (Gone I w σ n) w (σ.take n) y v := by
  cases x with
  | tup vs =>
    simp only [AV.frz2, Option.map_eq_some_iff] at hf
    obtain ⟨vs', hm, rfl⟩ := hf
    cases hr with
    | tup _ _ arr hs hr =>
      refine .tup _ vs' arr (by rw [(mapM_get hm).1]; exact hs) (fun i c hi => ?_)
      obtain ⟨x, hx, hf⟩ := mapM_get' hm hi; exact (hr i x hx).frz1 hI hf
  | _ => exact hr.frz1 hI (by simpa [AV.frz2] using hf)
end
end Go.AE
end

/-! AE, part 21: code. -/
section
set_option linter.unusedVariables false
set_option linter.unusedSimpArgs false
namespace Go.AE
open Go Go.RowKit

/-- What to agree on ahead of a region, and ahead of a loop (named by the block around it), which variables a loop goes on with. None of it is asked to be right. -/
structure Hints where
  rm : Nat → List Mark
  ap : Nat → List (Option Nat × Nat)
  lk : Nat → List Bool × List Mark

def AXit.toExit : AXit → Exit
  | .normal => .normal
  | .exit id => .exit id
  | .ret => .ret

section
variable (T : Tb) (nt : Nat) (vt : List Tmp) (H : Hints) (drawOk : List (Option Nat × Nat) → Array Oper → List CO → Bool)
def compCode : Nat → Code → Option CC
  | _, .skip => some .skip
  | _, .label _ => some .skip
  | _, .region id ops draw => match compOps T nt vt ops [] ops.toList with
    | some cs => if !draw || drawOk (H.ap id) ops cs then some (.region (H.rm id) (H.ap id) cs) else none
    | none => none
  | n, .seq a b => match compCode n a, compCode n b with
    | some x, some y => some (.seq x y)
    | _, _ => none
  | n, .cond c a b => match cO (mOf vt []) c, compCode n a, compCode n b with
    | some c, some x, some y => some (.cond c x y)
    | _, _, _ => none
  | _, .block id b => (compCode id b).map (.block id)
  | n, .loop b => (compCode n b).map (.loop (H.lk n).1 (H.lk n).2)
  | _, .exit id => some (.exit id)
  | _, .ret => some .ret
  | _, _ => none
end

section
variable {P : Program} {B : Nat} {w0 w w' : World} {I I' : Cells} {σ σ' : List Loc} {h : List AO} {vt : List Tmp} {nt : Nat} {vars env : List AV} {lm : List (Option Tmp)} {a : Act}

theorem clr_ok (hv : VOk I w σ vt nt vars a) (keep : List Bool) : VOk I w σ vt nt (clr keep vars) a := by
  have len : ∀ (ks : List Bool) (xs : List AV), (clr ks xs).length = xs.length := by
    intro ks
    induction ks with
    | nil => intro xs; cases xs <;> rfl
    | cons k ks ih => intro xs; cases xs with
      | nil => rfl
      | cons x xs => simp [clr, ih]
  have get : ∀ (ks : List Bool) (xs : List AV) (i : Nat) (v : AV), (clr ks xs)[i]? = some v → v = .junk ∨ xs[i]? = some v := by
    intro ks
    induction ks with
    | nil => intro xs i v h; cases xs <;> exact .inr h
    | cons k ks ih =>
      intro xs i v h
      cases xs with
      | nil => exact .inr h
      | cons x xs =>
        cases i with
        | zero =>
          simp only [clr, List.getElem?_cons_zero, Option.some.injEq] at h
          cases k
          · exact .inl h.symm
          · exact .inr (by simpa using h)
        | succ i => simpa using ih xs i v (by simpa [clr] using h)
  refine ⟨by rw [len]; exact hv.len, hv.size, hv.defers, hv.nodup, hv.lt, fun i t v h1 h2 => ?_⟩
  rcases get keep vars i v h2 with rfl | h3
  · exact .junk _ _
  · exact hv.rep i t v h1 h3

/-- A region that draws its order goes on as one in the order of the text: owed where such a region is compiled. -/
def DrawOk (P : Program) (T : Tb) (nt : Nat) (vt : List Tmp) (drawOk : List (Option Nat × Nat) → Array Oper → List CO → Bool) : Prop :=
  ∀ (B : Nat) (w0 : World) (call : CallF), CallOk P B w0 call → ∀ (id : Nat) (ap : List (Option Nat × Nat)) (ops : Array Oper) (cs : List CO), compOps T nt vt ops [] ops.toList = some cs → drawOk ap ops cs = true →
    ∀ (w : World) (I : Cells) (σ : List Loc) (h h' : List AO) (vars vars' : List AV) (a : Act) (Q : Exit → Act → World → Prop), Inv B w0 I σ w h → VOk I w σ vt nt vars a → ap.all (apB vars) = true →
      evOps call cs vars [] h = some (vars', h') → (∀ a' w' I' σ', VOk I' w' σ' vt nt vars' a' → Inv B w0 I' σ' w' h' → Step B I σ w I' σ' w' → Q .normal a' w') → (Code.region id ops true).wp P Q a w

theorem exec_sound {T : Tb} (hT : TbOk P T) {H : Hints} {drawOk : List (Option Nat × Nat) → Array Oper → List CO → Bool} (hD : DrawOk P T nt vt drawOk) {call : CallF} (hcall : CallOk P B w0 call) (fuel : Nat) :
    ∀ (c : Code) (n : Nat) (cc : CC), compCode T nt vt H drawOk n c = some cc → ∀ (vars vars' : List AV) (h h' : List AO) (x : AXit) (I : Cells) (σ : List Loc) (w : World) (a : Act) (Q : Exit → Act → World → Prop),
      exec call fuel cc vars h = some (x, vars', h') → VOk I w σ vt nt vars a → Inv B w0 I σ w h →
      (∀ a' w' I' σ', VOk I' w' σ' vt nt vars' a' → Inv B w0 I' σ' w' h' → Step B I σ w I' σ' w' → Q x.toExit a' w') → c.wp P Q a w := by
  intro c
  induction c with
  | skip =>
    intro n cc hc vars vars' h h' x I σ w a Q he hv hI hQ
    simp only [compCode, Option.some.injEq] at hc
    subst hc
    simp only [exec, Option.some.injEq, Prod.mk.injEq] at he
    obtain ⟨rfl, rfl, rfl⟩ := he
    exact wp_skip (hQ a w I σ hv hI (Step.refl _ _ _ _))
  | label l =>
    intro n cc hc vars vars' h h' x I σ w a Q he hv hI hQ
    simp only [compCode, Option.some.injEq] at hc
    subst hc
    simp only [exec, Option.some.injEq, Prod.mk.injEq] at he
    obtain ⟨rfl, rfl, rfl⟩ := he
    exact wp_label (hQ a w I σ hv hI (Step.refl _ _ _ _))
  | exit id =>
    intro n cc hc vars vars' h h' x I σ w a Q he hv hI hQ
    simp only [compCode, Option.some.injEq] at hc
    subst hc
    simp only [exec, Option.some.injEq, Prod.mk.injEq] at he
    obtain ⟨rfl, rfl, rfl⟩ := he
    exact wp_exit (hQ a w I σ hv hI (Step.refl _ _ _ _))
  | ret =>
    intro n cc hc vars vars' h h' x I σ w a Q he hv hI hQ
    simp only [compCode, Option.some.injEq] at hc
    subst hc
    simp only [exec, Option.some.injEq, Prod.mk.injEq] at he
    obtain ⟨rfl, rfl, rfl⟩ := he
    exact wp_ret (hQ a w I σ hv hI (Step.refl _ _ _ _))
  | region id ops draw =>
    intro n cc hc vars vars' h h' x I σ w a Q he hv hI hQ
    simp only [compCode] at hc
    split at hc
    · rename_i cs hcs
      split at hc
      · rename_i hdr
        cases hc
        simp only [exec] at he
        split at he
        case isFalse => cases he
        rename_i hap
        simp only [Option.map_eq_some_iff] at he
        obtain ⟨⟨v2, h2⟩, hev, he⟩ := he
        cases he
        obtain ⟨I1, σ1, g1, g2, g3⟩ := marks_ok (H.rm id) hI hv
        have fin : ∀ a' w' I' σ', VOk I' w' σ' vt nt v2 a' → Inv B w0 I' σ' w' h2 → Step B I1 σ1 w I' σ' w' → Q .normal a' w' := fun a' w' I' σ' q1 q2 q3 => hQ a' w' I' σ' q1 q2 (g2.trans q3)
        cases draw with
        | false =>
          refine wp_region ?_
          have := ops_sound hT hcall (Q := Q) ops.toList 0 [] [] _ _ _ _ cs I1 σ1 w a (by simp) hcs hev g3 ⟨rfl, fun t j _ hj => by simp at hj⟩ g1 fin
          rw [List.range_eq_range']
          simpa using this
        | true =>
          simp only [Bool.not_true, Bool.false_or] at hdr
          exact hD B w0 call hcall id _ ops cs hcs hdr w I1 σ1 _ _ _ _ a Q g1 g3 hap hev fin
      · cases hc
    · cases hc
  | seq p q ihp ihq =>
    intro n cc hc vars vars' h h' x I σ w a Q he hv hI hQ
    simp only [compCode] at hc
    split at hc
    · rename_i cp cq h1 h2
      cases hc
      refine wp_seq ?_
      simp only [exec] at he
      split at he
      · rename_i v2 h2' hep
        exact ihp n cp h1 _ _ _ _ _ I σ w a _ hep hv hI (fun a1 w1 I1 σ1 q1 q2 q3 => ihq n cq h2 _ _ _ _ _ I1 σ1 w1 a1 Q he q1 q2 (fun a' w' I' σ' r1 r2 r3 => hQ a' w' I' σ' r1 r2 (q3.trans r3)))
      · rename_i hne
        refine ihp n cp h1 _ _ _ _ _ I σ w a _ he hv hI (fun a1 w1 I1 σ1 q1 q2 q3 => ?_)
        cases x with
        | normal => exact absurd he (hne _ _)
        | exit id => exact hQ a1 w1 I1 σ1 q1 q2 q3
        | ret => exact hQ a1 w1 I1 σ1 q1 q2 q3
    · cases hc
  | cond c p q ihp ihq =>
    intro n cc hc vars vars' h h' x I σ w a Q he hv hI hQ
    simp only [compCode] at hc
    split at hc
    · rename_i c' cp cq h0 h1 h2
      cases hc
      simp only [exec] at he
      split at he
      · rename_i b hb
        have hrep := (ok_ops hv (EOk.mk (lm := []) (env := []) rfl (fun t j _ hj => by simp at hj))).get h0
        rw [hb] at hrep
        have hbv : a.eval c = .bool b := by generalize a.eval c = z at hrep; cases hrep; rfl
        refine wp_cond hbv ?_
        cases b
        · exact ihq n cq h2 _ _ _ _ _ I σ w a Q he hv hI hQ
        · exact ihp n cp h1 _ _ _ _ _ I σ w a Q he hv hI hQ
      · cases he
    · cases hc
  | block id p ihp =>
    intro n cc hc vars vars' h h' x I σ w a Q he hv hI hQ
    simp only [compCode, Option.map_eq_some_iff] at hc
    obtain ⟨cp, h1, rfl⟩ := hc
    refine wp_block ?_
    simp only [exec] at he
    split at he
    · rename_i id' v2 h2 hep
      cases he
      refine ihp id cp h1 _ _ _ _ _ I σ w a _ hep hv hI (fun a1 w1 I1 σ1 q1 q2 q3 => ?_)
      simp only [AXit.toExit, Exit.inBlock]
      split
      · rename_i e
        have := hQ a1 w1 I1 σ1 q1 q2 q3
        rwa [if_pos e] at this
      · rename_i e
        have := hQ a1 w1 I1 σ1 q1 q2 q3
        rwa [if_neg e] at this
    · rename_i hne
      refine ihp id cp h1 _ _ _ _ _ I σ w a _ he hv hI (fun a1 w1 I1 σ1 q1 q2 q3 => ?_)
      cases x with
      | normal => exact hQ a1 w1 I1 σ1 q1 q2 q3
      | exit id' => exact absurd he (hne _ _ _)
      | ret => exact hQ a1 w1 I1 σ1 q1 q2 q3
  | loop p ihp =>
    intro n cc hc vars vars' h h' x I σ w a Q he hv hI hQ
    simp only [compCode, Option.map_eq_some_iff] at hc
    obtain ⟨cp, h1, rfl⟩ := hc
    simp only [exec] at he
    obtain ⟨I1, σ1, g1, g2, g3⟩ := marks_ok (H.lk n).2 hI hv
    intro b k cs
    have key : ∀ (m : Nat) (vars : List AV) (h : List AO) (I1 : Cells) (σ1 : List Loc) (w1 : World) (a : Act), loopN (exec call fuel cp) (H.lk n).1 m vars h = some (x, vars', h') → VOk I1 w1 σ1 vt nt vars a → Inv B w0 I1 σ1 w1 h → Step B I σ w I1 σ1 w1 →
        ∃ e a' w', Q e a' w' ∧ Arrives P (lone (b.at a (.code p :: .inLoop p :: k)) cs w1) b k cs e a' w' := by
      intro m
      induction m with
      | zero => intro vars h I1 σ1 w1 a he; simp [loopN] at he
      | succ m ih =>
        intro vars h I1 σ1 w1 a he hv hI hst
        simp only [loopN] at he
        split at he
        · rename_i v2 h2 hep
          have := ihp n cp h1 _ _ _ _ _ I1 σ1 w1 a (Exit.then (fun a' w' => ∃ e a'' w'', Q e a'' w'' ∧ Arrives P (lone (b.at a' (.code p :: .inLoop p :: k)) cs w') b k cs e a'' w'') Q) hep (clr_ok hv _) hI
            (fun a2 w2 I2 σ2 q1 q2 q3 => ih _ _ I2 σ2 w2 a2 he q1 q2 (hst.trans q3))
          obtain ⟨e, a₁, w₁, hq, harr⟩ := this b (.inLoop p :: k) cs
          cases e with
          | normal =>
            obtain ⟨e₂, a₂, w₂, hq₂, harr₂⟩ := hq
            exact ⟨e₂, a₂, w₂, hq₂, .of_steps (Steps.trans harr (.one step_inLoop)) harr₂⟩
          | exit id => exact ⟨_, a₁, w₁, hq, .pass (x := .inLoop p) rfl (fun _ _ => .inl (by simp)) harr⟩
          | goto l => exact ⟨_, a₁, w₁, hq, .pass (x := .inLoop p) rfl (fun _ _ => .inl (by simp)) harr⟩
          | ret => exact ⟨_, a₁, w₁, hq, .pass (x := .inLoop p) rfl (fun _ _ => .inl (by simp)) harr⟩
          | panic ch => exact ⟨_, a₁, w₁, hq, .pass (x := .inLoop p) rfl (fun _ _ => .inl (by simp)) harr⟩
          | outgrown => exact ⟨_, a₁, w₁, hq, .pass (x := .inLoop p) rfl (fun _ _ => .inl (by simp)) harr⟩
        · rename_i hne
          have hxn : x ≠ .normal := by rintro rfl; exact absurd he (hne _ _)
          have := ihp n cp h1 _ _ _ _ _ I1 σ1 w1 a (fun e a' w' => e = x.toExit ∧ Q e a' w') he (clr_ok hv _) hI (fun a2 w2 I2 σ2 q1 q2 q3 => ⟨rfl, hQ a2 w2 I2 σ2 q1 q2 (hst.trans q3)⟩)
          obtain ⟨e, a₁, w₁, ⟨rfl, hq⟩, harr⟩ := this b (.inLoop p :: k) cs
          cases x with
          | normal => exact absurd rfl hxn
          | exit id => exact ⟨_, a₁, w₁, hq, .pass (x := .inLoop p) (e := .exit id) rfl (fun _ _ => .inl (by simp)) harr⟩
          | ret => exact ⟨_, a₁, w₁, hq, .pass (x := .inLoop p) (e := .ret) rfl (fun _ _ => .inl (by simp)) harr⟩
    obtain ⟨e, a', w', hq, harr⟩ := key fuel _ _ I1 σ1 w a he g3 g1 g2
    exact ⟨e, a', w', hq, .of_steps (.one step_loop) harr⟩
  | scope b ih => intro n cc hc; simp [compCode] at hc
  | goto l => intro n cc hc; simp [compCode] at hc
  | rangeFunc f ps as b ih1 ih2 => intro n cc hc; simp [compCode] at hc
  | refuse s => intro n cc hc; simp [compCode] at hc
end
end Go.AE
end

/-! AE, part 23: what operations ask of the objects. -/
section
set_option linter.unusedVariables false
set_option linter.unusedSimpArgs false
namespace Go.AE
open Go Go.RowKit

/-- it may change the objects -/
def COp.isE : COp → Bool
  | .box _ | .mkslice .. | .brow .. | .mkmap _ | .range _ | .append .. | .store .. | .call false _ _ | .callf .. | .callv .. | .mapupd .. | .clrmap _ | .clrrow .. | .next _ => true
  | _ => false
/-- it does nothing to them but put new ones behind -/
def COp.isPush : COp → Bool
  | .box _ | .mkslice .. | .brow .. | .mkmap _ | .range _ => true
  | .append _ _ (.k (.slice none 0 0)) _ => true
  | _ => false
/-- it looks at them -/
def COp.isR : COp → Bool
  | .load .. | .nilchk _ | .eqv .. | .slice .. | .fa .. | .ia .. | .len .. | .call true _ _ | .bslice .. | .lookup .. => true
  | _ => false
/-- what it looks at them through -/
def COp.args : COp → List Opd
  | .load _ _ x | .nilchk x | .slice _ x _ _ _ | .fa _ x | .ia _ x _ | .len _ x | .lookup _ _ _ x _ => [x]
  | .eqv _ _ x y => [x, y]
  | .call true _ l => l
  | .bslice _ _ _ ps => ps.map (·.2)
  | _ => []

def AV.lt0 (n : Nat) : AV → Bool
  | .own _ id _ _ _ | .ptr id _ | .ep _ id _ _ _ | .mp id | .it id => decide (id < n)
  | _ => true
def AV.lt (n : Nat) : AV → Bool
  | .agg cs => cs.all (AV.lt0 n)
  | x => x.lt0 n

section
variable {I : Cells} {w : World} {σ : List Loc} {h h2 : List AO} {vars env : List AV} {call : CallF} {n : Nat}

theorem Rep.lt0 {x : AV} {v : Value} (hr : Rep I w σ x v) : x.lt0 σ.length = true := by
  cases hr <;> simp only [AV.lt0, decide_eq_true_eq] <;> rename_i L _ _ <;> first | rfl | skip
  all_goals (first | exact (List.getElem?_eq_some_iff.1 (by assumption)).1)
theorem Rep.lt {x : AV} {v : Value} (hr : Rep I w σ x v) : x.lt σ.length = true := by
  cases x with
  | agg cs =>
    cases hr with
    | agg _ _ arr hs h1 hr =>
      simp only [AV.lt, List.all_eq_true]
      intro c hc
      obtain ⟨i, hi⟩ := List.getElem?_of_mem hc
      exact (hr i c hi).lt0
  | _ => exact hr.lt0

theorem rowAt_cong {sz id ver m : Nat} (hh : h2[id]? = h[id]?) : rowAt h2 sz id ver m = rowAt h sz id ver m := by
  simp only [rowAt, hh]

/-- Both lists of objects hold the same at the first n places. -/
def Same (n : Nat) (h h2 : List AO) : Prop := ∀ (id : Nat), id < n → h2[id]? = h[id]?
/-- What the one holds the other holds. -/
def More (h h2 : List AO) : Prop := ∀ (id : Nat) (o : AO), h[id]? = some o → h2[id]? = some o

theorem rowAt_more (hm : More h h2) {sz id ver m : Nat} {p : List AV × Nat} (hp : rowAt h sz id ver m = some p) : rowAt h2 sz id ver m = some p := by
  unfold rowAt at hp
  split at hp
  · rename_i a b c d hid
    simp only [rowAt, hm _ _ hid]
    exact hp
  · cases hp

theorem load_same (hs : Same n h h2) {a : Bool} {sz : Nat} {x : AV} (hx : x.lt n = true) : evLoad h2 a sz x = evLoad h a sz x := by
  cases x <;> simp only [evLoad] <;> simp only [AV.lt, AV.lt0, decide_eq_true_eq] at hx
  · rw [hs _ hx]
  · rw [rowAt_cong (hs _ hx)]
theorem load_more (hm : More h h2) {a : Bool} {sz : Nat} {x r : AV} (he : evLoad h a sz x = some r) : evLoad h2 a sz x = some r := by
  cases x <;> simp only [evLoad] at he ⊢ <;> try exact he
  · split at he
    · rename_i hid; rw [hm _ _ hid]; exact he
    · cases he
  · split at he
    · rename_i hid; rw [rowAt_more hm hid]; exact he
    · cases he

theorem snap0_same (hs : Same n h h2) {x : AV} (hx : x.lt0 n = true) : x.snap0 h2 = x.snap0 h := by
  cases x <;> simp only [AV.snap0]
  simp only [AV.lt0, decide_eq_true_eq] at hx
  rw [rowAt_cong (hs _ hx)]
theorem snap0_more (hm : More h h2) {x r : AV} (he : x.snap0 h = some r) : x.snap0 h2 = some r := by
  cases x <;> simp only [AV.snap0] at he ⊢ <;> try exact he
  split at he
  · rename_i hid; rw [rowAt_more hm hid]; exact he
  · cases he
theorem mapM_cong {α β : Type} {f g : α → Option β} {l : List α} (hfg : ∀ x ∈ l, f x = g x) : l.mapM f = l.mapM g := by
  induction l with
  | nil => rfl
  | cons x l ih => simp only [List.mapM_cons, hfg x (by simp), ih (fun y hy => hfg y (by simp [hy]))]
theorem mapM_more {α β : Type} {f g : α → Option β} {l : List α} {r : List β} (hfg : ∀ x y, f x = some y → g x = some y) (he : l.mapM f = some r) : l.mapM g = some r := by
  induction l generalizing r with
  | nil => exact he
  | cons x l ih =>
    simp only [List.mapM_cons, Option.bind_eq_bind, Option.bind_eq_some_iff, Option.pure_def, Option.some.injEq] at he ⊢
    obtain ⟨y, h1, ys, h3, rfl⟩ := he
    exact ⟨y, hfg _ _ h1, ys, ih h3, rfl⟩
theorem snap1_same (hs : Same n h h2) {x : AV} (hx : x.lt n = true) : x.snap1 h2 = x.snap1 h := by
  cases x <;> simp only [AV.snap1] <;> try exact snap0_same hs hx
  rename_i cs
  simp only [AV.lt, List.all_eq_true] at hx
  rw [mapM_cong (fun x hm => snap0_same hs (hx x hm))]
theorem snap1_more (hm : More h h2) {x r : AV} (he : x.snap1 h = some r) : x.snap1 h2 = some r := by
  cases x <;> simp only [AV.snap1] at he ⊢ <;> try exact snap0_more hm he
  rename_i cs
  obtain ⟨a, h1, rfl⟩ := Option.map_eq_some_iff.1 he
  rw [mapM_more (fun x y h => snap0_more hm h) h1]; rfl

theorem elems_same (hs : Same n h h2) {sz : Nat} : ∀ (ps : List (Nat × Opd)) (l : List AV), (∀ p ∈ ps, (getO vars env p.2).lt n = true) → evElems vars env h2 sz l ps = evElems vars env h sz l ps := by
  intro ps
  induction ps with
  | nil => intro l _; rfl
  | cons p ps ih =>
    intro l hl
    obtain ⟨i, x⟩ := p
    have hx : (getO vars env x).snap1 h2 = (getO vars env x).snap1 h := snap1_same hs (hl (i, x) (by simp))
    simp only [evElems, hx]
    split
    · split
      · exact ih _ (fun p hp => hl p (by simp [hp]))
      · rfl
    · rfl
theorem elems_more (hm : More h h2) {sz : Nat} : ∀ (ps : List (Nat × Opd)) (l r : List AV), evElems vars env h sz l ps = some r → evElems vars env h2 sz l ps = some r := by
  intro ps
  induction ps with
  | nil => intro l r he; exact he
  | cons p ps ih =>
    intro l r he
    obtain ⟨i, x⟩ := p
    simp only [evElems] at he ⊢
    cases hx : (getO vars env x).snap1 h with
    | none => simp [hx] at he
    | some y =>
      rw [snap1_more hm hx]
      rw [hx] at he
      simp only [Option.bind_some] at he ⊢
      split at he
      · split at he
        · rename_i hc; rw [if_pos hc]; exact ih _ _ he
        · cases he
      · cases he

theorem len_same (hs : Same n h h2) {k : LenK} {x : AV} (hx : x.lt n = true) : evLen h2 k x = evLen h k x := by
  unfold evLen
  split <;> try rfl
  · simp only [AV.lt, AV.lt0, decide_eq_true_eq] at hx
    rw [rowAt_cong (hs _ hx)]
  · simp only [AV.lt, AV.lt0, decide_eq_true_eq] at hx
    rw [hs _ hx]
theorem map_more {α β : Type} {a b : Option α} {f : α → β} {r : β} (hab : ∀ y, a = some y → b = some y) (he : a.map f = some r) : b.map f = some r := by
  obtain ⟨y, h1, rfl⟩ := Option.map_eq_some_iff.1 he
  rw [hab y h1]; rfl
theorem len_more (hm : More h h2) {k : LenK} {x : AV} {r : Nat} (he : evLen h k x = some r) : evLen h2 k x = some r := by
  unfold evLen at he ⊢
  split at he <;> try exact he
  · exact map_more (fun y hy => rowAt_more hm hy) he
  · split at he
    · rename_i hid; rw [hm _ _ hid]; exact he
    · cases he

theorem nil_same (hs : Same n h h2) {x : AV} (hx : x.lt n = true) : evNil h2 x = evNil h x := by
  cases x <;> simp only [evNil]
  simp only [AV.lt, AV.lt0, decide_eq_true_eq] at hx
  rw [rowAt_cong (hs _ hx)]
theorem nil_more (hm : More h h2) {x r : AV} (he : evNil h x = some r) : evNil h2 x = some r := by
  cases x <;> simp only [evNil] at he ⊢ <;> try exact he
  exact map_more (fun y hy => rowAt_more hm hy) he
theorem fa_same (hs : Same n h h2) {o : Nat} {x : AV} (hx : x.lt n = true) : evFa h2 o x = evFa h o x := by
  cases x <;> simp only [evFa]
  simp only [AV.lt, AV.lt0, decide_eq_true_eq] at hx
  rw [rowAt_cong (hs _ hx)]
theorem fa_more (hm : More h h2) {o : Nat} {x r : AV} (he : evFa h o x = some r) : evFa h2 o x = some r := by
  cases x <;> simp only [evFa] at he ⊢ <;> try exact he
  exact map_more (fun y hy => rowAt_more hm hy) he

theorem eq_same (hs : Same n h h2) {k : EqK} {x y : AV} (hx : x.lt n = true) (hy : y.lt n = true) : eqNil h2 k x y = eqNil h k x y := by
  unfold eqNil
  split <;> try rfl
  simp only [AV.lt, AV.lt0, decide_eq_true_eq] at hx
  rw [rowAt_cong (hs _ hx)]
theorem eq_more (hm : More h h2) {k : EqK} {x y : AV} {b : Bool} (he : eqNil h k x y = some b) : eqNil h2 k x y = some b := by
  unfold eqNil at he ⊢
  split at he <;> try exact he
  split at he
  · rename_i hid
    simp only [rowAt_more hm hid]; exact he
  · cases he

theorem ia_same (hs : Same n h h2) {sz : Nat} {x i : Opd} (hx : (getO vars env x).lt n = true) : evIa vars env h2 sz x i = evIa vars env h sz x i := by
  unfold evIa
  split <;> try rfl
  rename_i hxx _
  rw [hxx] at hx
  simp only [AV.lt, AV.lt0, decide_eq_true_eq] at hx
  rw [rowAt_cong (hs _ hx)]
theorem ia_more (hm : More h h2) {sz : Nat} {x i : Opd} {r : AV} (he : evIa vars env h sz x i = some r) : evIa vars env h2 sz x i = some r := by
  unfold evIa at he ⊢
  split at he <;> try exact he
  split at he
  · rename_i hc
    rw [if_pos hc]
    exact map_more (fun y hy => rowAt_more hm hy) he
  · cases he

theorem slice_same (hs : Same n h h2) {sz : Nat} {x : AV} {lo hi mx : Option Opd} (hx : x.lt n = true) : evSlice vars env h2 sz x lo hi mx = evSlice vars env h sz x lo hi mx := by
  unfold evSlice
  split <;> try rfl
  simp only [AV.lt, AV.lt0, decide_eq_true_eq] at hx
  rw [rowAt_cong (hs _ hx)]
theorem slice_more (hm : More h h2) {sz : Nat} {x r : AV} {lo hi mx : Option Opd} (he : evSlice vars env h sz x lo hi mx = some r) : evSlice vars env h2 sz x lo hi mx = some r := by
  unfold evSlice at he ⊢
  split at he <;> try exact he
  split at he
  · rename_i hc
    rw [if_pos hc]
    simp only [Option.bind_eq_bind, Option.bind_eq_some_iff] at he ⊢
    obtain ⟨p, h1, h2⟩ := he
    exact ⟨p, rowAt_more hm h1, h2⟩
  · cases he

theorem look_same (hs : Same n h h2) {kk : KK} {z : Value} {ok : Bool} {x y : AV} (hx : x.lt n = true) : evLook h2 kk z ok x y = evLook h kk z ok x y := by
  cases x <;> simp only [evLook]
  simp only [AV.lt, AV.lt0, decide_eq_true_eq] at hx
  cases y <;> simp only [evLook]
  rw [hs _ hx]
theorem look_more (hm : More h h2) {kk : KK} {z : Value} {ok : Bool} {x y r : AV} (he : evLook h kk z ok x y = some r) : evLook h2 kk z ok x y = some r := by
  unfold evLook at he ⊢
  split at he
  · split at he
    · rename_i hid
      rw [hm _ _ hid]; exact he
    · cases he
  · cases he

/-- Neither changes the objects nor looks at them. -/
theorem ev_plain {c : COp} {r : AV} {h' : List AO} (hE : c.isE = false) (hR : c.isR = false) (he : evOp call vars env h c = some (r, h')) : h' = h ∧ ∀ g, evOp call vars env g c = some (r, g) := by
  cases c <;> simp only [COp.isE, COp.isR, Bool.true_eq_false] at hE hR <;> simp only [evOp] at he ⊢
  case call p f args => cases p <;> simp at hE hR
  case bad => cases he
  all_goals first
    | (cases he; exact ⟨rfl, fun g => rfl⟩)
    | (obtain ⟨y, h1, h3⟩ := Option.map_eq_some_iff.1 he; cases h3; exact ⟨rfl, fun g => by rw [h1]; rfl⟩)
    | (split at he <;> first | (cases he; exact ⟨rfl, fun g => rfl⟩) | cases he | skip)
  all_goals first
    | (obtain ⟨y, h1, h3⟩ := Option.map_eq_some_iff.1 he; cases h3; exact ⟨rfl, fun g => by rw [h1]; rfl⟩)
    | (split at he <;> first | (cases he; rename_i hc; exact ⟨rfl, fun g => by simp [hc]⟩) | cases he | skip)
  all_goals first
    | (obtain ⟨y, h1, h3⟩ := Option.map_eq_some_iff.1 he; cases h3; rename_i hc; exact ⟨rfl, fun g => by rw [if_pos hc, h1]; rfl⟩)

theorem ev_reads {c : COp} {r : AV} {h' : List AO} (hR : c.isR = true) (he : evOp call vars env h c = some (r, h')) : h' = h := by
  cases c <;> simp only [COp.isR, Bool.false_eq_true] at hR <;> simp only [evOp] at he
  case call p f args =>
    cases p <;> simp at hR
    simp only [evOp] at he
    split at he
    · split at he
      · cases he; rfl
      · cases he
    · cases he
  all_goals (obtain ⟨y, h1, h3⟩ := Option.map_eq_some_iff.1 he; cases h3; rfl)

theorem ev_more (hm : More h h2) {c : COp} {r : AV} (hR : c.isR = true) (he : evOp call vars env h c = some (r, h)) : evOp call vars env h2 c = some (r, h2) := by
  cases c <;> simp only [COp.isR, Bool.false_eq_true] at hR <;> simp only [evOp] at he ⊢
  case call p f args =>
    cases p <;> simp at hR
    simp only [evOp] at he ⊢
    split at he
    · rename_i as has
      rw [mapM_more (fun x y h => snap1_more hm h) has]
      simp only
      split at he
      · rename_i hc; cases he; simp only [hc]
      · cases he
    · cases he
  all_goals (obtain ⟨y, h1, h3⟩ := Option.map_eq_some_iff.1 he; cases h3; refine Option.map_eq_some_iff.2 ⟨_, ?_, rfl⟩)
  · exact elems_more hm _ _ _ h1
  · exact load_more hm h1
  · exact nil_more hm h1
  · exact eq_more hm h1
  · exact slice_more hm h1
  · exact fa_more hm h1
  · exact ia_more hm h1
  · exact len_more hm h1
  · exact look_more hm h1

theorem ev_same (hs : Same n h h2) {c : COp} {r : AV} (hR : c.isR = true) (hx : ∀ x ∈ c.args, (getO vars env x).lt n = true) (he : evOp call vars env h2 c = some (r, h2)) : evOp call vars env h c = some (r, h) := by
  cases c <;> simp only [COp.isR, Bool.false_eq_true] at hR <;> simp only [COp.args, List.mem_singleton, forall_eq, List.mem_cons, List.not_mem_nil, or_false, forall_eq_or_imp] at hx <;> simp only [evOp] at he ⊢
  case call p f args =>
    cases p <;> simp at hR
    simp only [evOp, COp.args] at he hx ⊢
    rw [mapM_cong (f := AV.snap1 h2) (g := AV.snap1 h) (fun x hm => by
      obtain ⟨y, hy, rfl⟩ := List.mem_map.1 hm
      exact snap1_same hs (hx y hy))] at he
    split at he
    · split at he
      · rename_i hc; cases he; simp only [hc]
      · cases he
    · cases he
  all_goals (obtain ⟨y, h1, h3⟩ := Option.map_eq_some_iff.1 he; cases h3; refine Option.map_eq_some_iff.2 ⟨_, ?_, rfl⟩)
  · rw [← elems_same hs _ _ (fun p hp => hx _ (List.mem_map.2 ⟨p, hp, rfl⟩))]; exact h1
  · rw [← load_same hs hx]; exact h1
  · rw [← nil_same hs hx]; exact h1
  · rw [← eq_same hs hx.1 hx.2]; exact h1
  · rw [← slice_same hs hx]; exact h1
  · rw [← fa_same hs hx]; exact h1
  · rw [← ia_same hs hx]; exact h1
  · rw [← len_same hs hx]; exact h1
  · rw [← look_same hs hx]; exact h1

/-- Puts new ones behind. -/
theorem ev_push {c : COp} {r : AV} {h' : List AO} (hp : c.isPush = true) (he : evOp call vars env h c = some (r, h')) : ∃ X, h' = h ++ X := by
  unfold COp.isPush at hp
  split at hp
  · simp only [evOp] at he
    obtain ⟨y, h1, h3⟩ := Option.map_eq_some_iff.1 he
    cases h3; exact ⟨_, rfl⟩
  · simp only [evOp] at he
    split at he
    · split at he
      · cases he; exact ⟨_, rfl⟩
      · cases he
    · cases he
  · simp only [evOp] at he
    obtain ⟨y, h1, h3⟩ := Option.map_eq_some_iff.1 he
    cases h3; exact ⟨_, rfl⟩
  · cases he; exact ⟨_, rfl⟩
  · simp only [evOp] at he
    split at he
    · cases he; exact ⟨_, rfl⟩
    · cases he
  · simp only [evOp, getO, ofVal, evAppend] at he
    split at he
    · cases he
    · split at he
      · cases he; exact ⟨[], by simp⟩
      · split at he
        · cases he; exact ⟨_, rfl⟩
        · cases he
  · cases hp

/-- What append does to them leaves each variable as it is. -/
theorem ev_append {sz bytes : Nat} {s x : Opd} {r : AV} {h' : List AO} (he : evOp call vars env h (.append sz bytes s x) = some (r, h')) :
    (∃ X, h' = h ++ X) ∨ ∃ id sz ver l k sz' ver' l' k', h[id]? = some (.row sz ver l k) ∧ h' = h.set id (.row sz' ver' l' k') := by
  simp only [evOp, evAppend] at he
  split at he
  · cases he
  · split at he
    · split at he
      · cases he; exact .inl ⟨[], by simp⟩
      · split at he
        · cases he; exact .inl ⟨_, rfl⟩
        · cases he
    · split at he
      · split at he
        · cases he; exact .inl ⟨[], by simp⟩
        · split at he
          · split at he
            · cases he; exact .inl ⟨_, rfl⟩
            · cases he
          · cases he
      · cases he
    · split at he
      · split at he
        · rename_i l k hrow
          split at he
          · split at he
            · cases he; exact .inl ⟨[], by simp⟩
            · split at he
              · cases he
                right
                unfold rowAt at hrow
                split at hrow
                · rename_i hid
                  exact ⟨_, _, _, _, _, _, _, _, _, hid, rfl⟩
                · cases hrow
              · cases he
          · cases he
        · cases he
      · cases he
    · cases he

theorem ev_store {sz : Nat} {a x : Opd} {r : AV} {h' : List AO} {id off : Nat} (ha : getO vars env a = .ptr id off) (he : evOp call vars env h (.store sz a x) = some (r, h')) : ∃ o, h' = h.set id o := by
  simp only [evOp] at he
  obtain ⟨y, h1, h3⟩ := Option.map_eq_some_iff.1 he
  cases h3
  rw [ha] at h1
  simp only [evStore] at h1
  split at h1
  · split at h1
    · split at h1
      · cases h1; exact ⟨_, rfl⟩
      · cases h1
    · cases h1
  · cases h1
end
end Go.AE
end

/-! AE, part 24: which order operations may be carried out in, and a region's run told by numbers. -/
section
set_option linter.unusedVariables false
set_option linter.unusedSimpArgs false
namespace Go.AE
open Go Go.RowKit

/-! ### Compiled by what is looked at alone -/
theorem cO_cong {m m' : Tmp → Option Opd} {x : Operand} (h : ∀ t, x = .tmp t → m' t = m t) : cO m' x = cO m x := by
  cases x with
  | tmp t => exact h t rfl
  | _ => rfl
theorem cOs_cong {m m' : Tmp → Option Opd} {l : List Operand} (h : ∀ x ∈ l, cO m' x = cO m x) : cOs m' l = cOs m l := mapM_cong h
theorem cOo_cong {m m' : Tmp → Option Opd} {x : Option Operand} (h : ∀ y, x = some y → cO m' y = cO m y) : cOo m' x = cOo m x := by
  cases x with
  | none => rfl
  | some y => simp only [cOo, h y rfl]

theorem compOp_cong {T : Tb} {m m' : Tmp → Option Opd} {o : Oper} (h : ∀ x ∈ o.op.operands, cO m' x = cO m x) : compOp T m' o = compOp T m o := by
  obtain ⟨dst, op, type, pos, after, guard⟩ := o
  cases op <;> simp only [Op.operands] at h <;> simp only [compOp]
  case build t ps =>
    have : ∀ (f : Nat × Operand → Option (Nat × Nat)), (ps.toList.mapM fun p => (f p).bind fun q => (cO m' p.2).map fun x => (q.1, q.2, x)) = (ps.toList.mapM fun p => (f p).bind fun q => (cO m p.2).map fun x => (q.1, q.2, x)) := by
      intro f
      exact mapM_cong (fun p hp => by rw [h p.2 (by simp; exact ⟨p.1, by simpa using hp⟩)])
    have that : ∀ (f : Nat × Operand → Opd → Nat × Nat × Opd), (ps.toList.mapM fun p => (cO m' p.2).map fun x => f p x) = (ps.toList.mapM fun p => (cO m p.2).map fun x => f p x) := by
      intro f
      exact mapM_cong (fun p hp => by rw [h p.2 (by simp; exact ⟨p.1, by simpa using hp⟩)])
    simp only [this]
    split
    · split
      · rfl
      · split
        · rename_i j hj
          rw [that (fun p x => (p.1 * j.size, j.size, x))]
        · rfl
      · rfl
    · rfl
  case buildSlice t n ps =>
    have : (ps.toList.mapM fun p => (cO m' p.2).map fun x => (p.1, x)) = (ps.toList.mapM fun p => (cO m p.2).map fun x => (p.1, x)) :=
      mapM_cong (fun p hp => by rw [h p.2 (by simp; exact ⟨p.1, by simpa using hp⟩)])
    simp only [this]
  case makeFunc fn first cap =>
    rw [cOs_cong (l := first.toList) (fun x hx => h x (by simp at hx; simp [hx])), cOs_cong (l := cap.toList) (fun x hx => h x (by simp at hx; simp [hx]))]
  case slice t x lo hi mx =>
    rw [h x (by simp), cOo_cong (x := lo) (fun y hy => h y (by simp [hy])), cOo_cong (x := hi) (fun y hy => h y (by simp [hy])), cOo_cong (x := mx) (fun y hy => h y (by simp [hy]))]
  case call c =>
    have ha : ∀ x ∈ c.args, cO m' x = cO m x := fun x hx => h x (by simp [Call.operands, hx])
    have hl := cOs_cong (m := m) (m' := m') (l := c.args.toList) (fun x hx => ha x (by simpa using hx))
    have hg : ∀ x ∈ c.args.toList, cO m' x = cO m x := fun x hx => ha x (by simpa using hx)
    cases hc : c.callee with
    | value f =>
      have hf := h f (by simp [Call.operands, hc])
      cases f with
      | func f => simp only [hl]
      | tmp t => simp only [cO] at hf; simp only [hl, hf]
      | _ => rfl
    | invoke r n => rfl
    | builtin b =>
      cases b <;> try rfl
      · simp only
        split
        · rename_i s x t t' e1 e2
          rw [e1] at hg
          rw [hg s (by simp), hg x (by simp)]
        · rfl
      · simp only
        split
        · rename_i x t e1 e2
          rw [e1] at hg
          rw [hg x (by simp)]
        · rfl
      · simp only
        split
        · rename_i x t e1 e2
          rw [e1] at hg
          rw [hg x (by simp)]
        · rfl
      · simp only
        split
        · rename_i x y e1
          rw [e1] at hg
          rw [hg x (by simp), hg y (by simp)]
        · rfl
      · simp only
        split
        · rename_i x y e1
          rw [e1] at hg
          rw [hg x (by simp), hg y (by simp)]
        · rfl
  case makeMap t rs => cases rs <;> rfl
  case next x st => cases st <;> first | rfl | (simp at h; simp only [h])
  all_goals (first | rfl | (simp at h; simp only [h]; done) | (simp at h; simp only [h.1, h.2]; done) | (simp at h; simp only [h.1, h.2.1, h.2.2]; done))

def Opd.from (m : Tmp → Option Opd) (x : Opd) : Prop := (∃ v, x = .k v) ∨ (∃ f, x = .fn f) ∨ ∃ t, m t = some x
theorem cO_from {m : Tmp → Option Opd} {x : Operand} {y : Opd} (h : cO m x = some y) : y.from m := by
  cases x with
  | tmp t => exact .inr (.inr ⟨t, h⟩)
  | const v => simp only [cO, Option.some.injEq] at h; exact .inl ⟨v, h.symm⟩
  | func f => simp only [cO, Option.some.injEq] at h; exact .inr (.inl ⟨f, h.symm⟩)
  | global g => cases h
theorem mapM_mem {α β : Type} {f : α → Option β} {l : List α} {r : List β} (h : l.mapM f = some r) : ∀ y ∈ r, ∃ x ∈ l, f x = some y := by
  induction l generalizing r with
  | nil => simp at h; subst h; intro y hy; simp at hy
  | cons x l ih =>
    simp only [List.mapM_cons, Option.bind_eq_bind, Option.bind_eq_some_iff, Option.pure_def, Option.some.injEq] at h
    obtain ⟨y, h1, ys, h3, rfl⟩ := h
    intro z hz
    rcases List.mem_cons.1 hz with rfl | hz
    · exact ⟨x, by simp, h1⟩
    · obtain ⟨u, hu, e⟩ := ih h3 z hz
      exact ⟨u, by simp [hu], e⟩

/-- What is looked at through stands for a temporary, or is a constant. -/
theorem compOp_args {T : Tb} {m : Tmp → Option Opd} {o : Oper} {c : COp} (hc : compOp T m o = some c) (hR : c.isR = true) : ∀ x ∈ c.args, x.from m := by
  obtain ⟨dst, op, type, pos, after, guard⟩ := o
  cases op <;> simp only [compOp] at hc <;> try (cases hc; done)
  case buildSlice t n ps =>
    split at hc
    · split at hc
      · split at hc
        · split at hc
          · rename_i ps' hps
            split at hc
            · by_cases hlit : T.lit t = true
              · rw [if_pos hlit] at hc; cases hc; cases hR
              rw [if_neg hlit] at hc
              cases hc
              intro x hx
              simp only [COp.args, List.mem_map] at hx
              obtain ⟨p, hp, rfl⟩ := hx
              obtain ⟨q, hq, e⟩ := mapM_mem hps p hp
              obtain ⟨y, hy, rfl⟩ := Option.map_eq_some_iff.1 e
              exact cO_from hy
            · cases hc
          · cases hc
        · cases hc
      · cases hc
    · cases hc
  case call cl =>
    split at hc
    · obtain ⟨l, hl, rfl⟩ := Option.map_eq_some_iff.1 hc
      intro x hx
      cases hz : T.frz _ with
      | true => rw [hz] at hR; cases hR
      | false =>
      rw [hz] at hx hR
      simp only [cond_false] at hx hR
      cases hp : T.pureF _ <;> rw [hp] at hx hR <;> simp only [COp.isR, COp.args, Bool.false_eq_true] at hR hx
      obtain ⟨q, hq, e⟩ := mapM_mem hl x hx
      exact cO_from e
    · split at hc
      · cases hc; cases hR
      · cases hc
    · split at hc
      · split at hc
        · split at hc
          · split at hc
            · split at hc
              · split at hc
                · cases hc; cases hR
                · cases hc
              · cases hc
            · cases hc
          · cases hc
        · cases hc
      · cases hc
    · split at hc
      · split at hc
        · split at hc
          · cases hc; cases hR
          · split at hc
            · split at hc
              · cases hc; cases hR
              · cases hc
            · cases hc
          · cases hc
        · cases hc
      · cases hc
    · split at hc
      · split at hc
        · cases hc; cases hR
        · cases hc
      · cases hc
    · split at hc
      · split at hc
        · cases hc; cases hR
        · cases hc
      · cases hc
    · split at hc
      · split at hc
        · rename_i hx
          split at hc <;> first | (cases hc; intro x hx'; simp only [COp.args, List.mem_singleton] at hx'; subst hx'; exact cO_from hx) | cases hc
        · cases hc
      · cases hc
    · cases hc
  case binOp op xt x y yt =>
    split at hc
    · rename_i h1 h2
      split at hc
      · cases hc; cases hR
      · cases hc; cases hR
      unfold compBin at hc
      intro z hz
      split at hc
      · split at hc
        all_goals first
          | (cases hc; cases hR; done)
          | (split at hc <;> first
              | (cases hc; simp only [COp.args, List.mem_cons, List.not_mem_nil, or_false] at hz; rcases hz with rfl | rfl <;> first | exact cO_from h1 | exact cO_from h2)
              | cases hc)
          | (split at hc
             · split at hc <;> first
                | (cases hc; simp only [COp.args, List.mem_cons, List.not_mem_nil, or_false] at hz; rcases hz with rfl | rfl <;> first | exact cO_from h1 | exact cO_from h2)
                | cases hc
             · cases hc)
          | cases hc
      · cases hc
    · cases hc
  case panic x => cases hc; cases hR
  case makeInterface t x => cases hc; cases hR
  case makeMap t rs =>
    cases rs with
    | none => obtain ⟨y, hy, rfl⟩ := Option.map_eq_some_iff.1 hc; cases hR
    | some z => cases hc
  case next x st =>
    cases st with
    | true => obtain ⟨y, hy, rfl⟩ := Option.map_eq_some_iff.1 hc; cases hR
    | false => cases hc
  all_goals first
    | (obtain ⟨y, hy, rfl⟩ := Option.map_eq_some_iff.1 hc; first | (cases hR; done) | (intro x hx; simp only [COp.args, List.mem_singleton] at hx; subst hx; exact cO_from hy))
    | (split at hc <;> first | cases hc | skip)
  all_goals try (cases hR; done)
  all_goals first
    | (intro x hx; simp only [COp.args, List.mem_singleton] at hx; subst hx; apply cO_from; assumption)
    | (split at hc <;> first | cases hc | skip)
  all_goals try (cases hR; done)
  all_goals first
    | (intro x hx; simp only [COp.args, List.mem_singleton] at hx; subst hx; apply cO_from; assumption)
    | (split at hc <;> first | cases hc | skip)
  all_goals try (cases hR; done)
  all_goals first
    | (intro x hx; simp only [COp.args, List.mem_singleton] at hx; subst hx; apply cO_from; assumption)
    | (split at hc <;> first | cases hc | skip)
  all_goals try (cases hR; done)
  all_goals first
    | (intro x hx; simp only [COp.args, List.mem_singleton] at hx; subst hx; apply cO_from; assumption)
    | (split at hc <;> first | cases hc | skip)
  all_goals try (cases hR; done)
  all_goals (intro x hx; simp only [COp.args, List.mem_singleton] at hx; subst hx; apply cO_from; assumption)

/-! ### What must have come before -/
def bindsOf (o : Oper) : List Nat := (o.after.toList.filter (Region.binds .any)).map (·.on)
def ancOne (tab : List Nat) (es : List Nat) : Nat := es.foldl (fun m k => m ||| (1 <<< k) ||| tab.getD k 0) 0
def ancGo : List Nat → List Oper → List Nat
  | tab, [] => tab
  | tab, o :: r => ancGo (tab ++ [ancOne tab (bindsOf o)]) r

theorem ancOne_bit {tab : List Nat} {i : Nat} : ∀ (es : List Nat) (m : Nat), (es.foldl (fun m k => m ||| (1 <<< k) ||| tab.getD k 0) m).testBit i = true → m.testBit i = true ∨ ∃ k ∈ es, i = k ∨ (tab.getD k 0).testBit i = true := by
  intro es
  induction es with
  | nil => intro m h; exact .inl h
  | cons k es ih =>
    intro m h
    rcases ih _ h with h | ⟨k', hk, h⟩
    · simp only [Nat.testBit_or, Bool.or_eq_true] at h
      rcases h with (h | h) | h
      · exact .inl h
      · refine .inr ⟨k, by simp, .inl ?_⟩
        rw [Nat.one_shiftLeft, Nat.testBit_two_pow] at h
        simpa [eq_comm] using h
      · exact .inr ⟨k, by simp, .inr h⟩
    · exact .inr ⟨k', by simp [hk], h⟩

theorem ancGo_pre : ∀ (l : List Oper) (tab : List Nat), ∃ r, ancGo tab l = tab ++ r := by
  intro l
  induction l with
  | nil => intro tab; exact ⟨[], by simp [ancGo]⟩
  | cons o l ih =>
    intro tab
    obtain ⟨r, hr⟩ := ih (tab ++ [ancOne tab (bindsOf o)])
    exact ⟨_ :: r, by rw [ancGo, hr, List.append_assoc]; rfl⟩

theorem ancGo_bit : ∀ (l : List Oper) (tab : List Nat) (j : Nat) (o : Oper) (i : Nat), l[j]? = some o → (∀ k ∈ bindsOf o, k < tab.length + j) → ((ancGo tab l).getD (tab.length + j) 0).testBit i = true →
    ∃ k ∈ bindsOf o, i = k ∨ ((ancGo tab l).getD k 0).testBit i = true := by
  intro l
  induction l with
  | nil => intro tab j o i h; simp at h
  | cons x l ih =>
    intro tab j o i h hk hb
    cases j with
    | zero =>
      simp at h; subst h
      obtain ⟨r, hr⟩ := ancGo_pre l (tab ++ [ancOne tab (bindsOf x)])
      simp only [ancGo] at hb ⊢
      rw [hr] at hb ⊢
      have e1 : (tab ++ [ancOne tab (bindsOf x)] ++ r).getD (tab.length + 0) 0 = ancOne tab (bindsOf x) := by
        simp [List.getD_eq_getElem?_getD]
      rw [e1] at hb
      rcases ancOne_bit _ _ hb with h | ⟨k, hkm, h⟩
      · simp at h
      · refine ⟨k, hkm, h.imp id (fun h => ?_)⟩
        have hlt := hk k hkm
        rw [List.append_assoc, List.getD_eq_getElem?_getD, List.getElem?_append_left (by omega), ← List.getD_eq_getElem?_getD]
        exact h
    | succ j =>
      simp only [ancGo] at hb ⊢
      have := ih (tab ++ [ancOne tab (bindsOf x)]) j o i (by simpa using h) (by intro k hkm; have := hk k hkm; simp; omega)
      simp only [List.length_append, List.length_singleton] at this
      rw [show tab.length + 1 + j = tab.length + (j + 1) by omega] at this
      exact this hb
end Go.AE
end

/-! AE, part 25: a region that draws its order ends as one in the order of the text. -/
section
set_option linter.unusedVariables false
set_option linter.unusedSimpArgs false
namespace Go.AE
open Go Go.RowKit

/-! ### A run in the order of the text, by numbers -/
def StepOk (call : CallF) (o : CO) (vars env : List AV) (h : List AO) (r : AV) (h' : List AO) : Prop :=
  match o.guard with
  | none => evOp call vars env h o.op = some (r, h')
  | some (g, want) => (getO vars env g = .v (.bool want) ∧ evOp call vars env h o.op = some (r, h')) ∨
    (((∃ b, getO vars env g = .v (.bool b) ∧ b ≠ want) ∨ ∃ z, getO vars env g = .v (.tuple z)) ∧ r = .v undef ∧ h' = h)

structure Trace (call : CallF) (cs : List CO) (vars env : List AV) (h : List AO) (vars' : List AV) (h' : List AO) (V E : Nat → List AV) (H : Nat → List AO) (R : Nat → AV) : Prop where
  v0 : V 0 = vars
  e0 : E 0 = env
  h0 : H 0 = h
  v1 : V cs.length = vars'
  h1 : H cs.length = h'
  step : ∀ i o, cs[i]? = some o → V (i + 1) = setO (V i) o.wr (R i) ∧ E (i + 1) = R i :: E i ∧ StepOk call o (V i) (E i) (H i) (R i) (H (i + 1))

theorem trace_of {call : CallF} : ∀ (cs : List CO) (vars env : List AV) (h : List AO) (vars' : List AV) (h' : List AO), evOps call cs vars env h = some (vars', h') →
    ∃ V E H R, Trace call cs vars env h vars' h' V E H R := by
  intro cs
  induction cs with
  | nil =>
    intro vars env h vars' h' he
    simp only [evOps, Option.some.injEq, Prod.mk.injEq] at he
    obtain ⟨rfl, rfl⟩ := he
    exact ⟨fun _ => vars, fun _ => env, fun _ => h, fun _ => .junk, rfl, rfl, rfl, rfl, rfl, fun i o hi => by simp at hi⟩
  | cons c cs ih =>
    intro vars env h vars' h' he
    have build : ∀ (r : AV) (h2 : List AO), StepOk call c vars env h r h2 → evOps call cs (setO vars c.wr r) (r :: env) h2 = some (vars', h') → ∃ V E H R, Trace call (c :: cs) vars env h vars' h' V E H R := by
      intro r h2 hs he2
      obtain ⟨V, E, H, R, t⟩ := ih _ _ _ _ _ he2
      refine ⟨fun i => match i with | 0 => vars | i + 1 => V i, fun i => match i with | 0 => env | i + 1 => E i, fun i => match i with | 0 => h | i + 1 => H i, fun i => match i with | 0 => r | i + 1 => R i, rfl, rfl, rfl, t.v1, t.h1, fun i o hi => ?_⟩
      cases i with
      | zero =>
        simp at hi; subst hi
        simp only [t.v0, t.e0, t.h0]
        exact ⟨trivial, trivial, hs⟩
      | succ i => exact t.step i o (by simpa using hi)
    simp only [evOps] at he
    cases hg : c.guard with
    | none =>
      rw [hg] at he
      simp only at he
      split at he
      · rename_i v h2 hev
        exact build v h2 (by simp only [StepOk, hg]; exact hev) he
      · cases he
    | some gw =>
      obtain ⟨g, want⟩ := gw
      rw [hg] at he
      simp only at he
      split at he
      · rename_i b hb
        split at he
        · rename_i hbw
          split at he
          · rename_i v h2 hev
            exact build v h2 (by simp only [StepOk, hg]; exact .inl ⟨by rw [hb, hbw], hev⟩) he
          · cases he
        · rename_i hbw
          exact build _ h (by simp only [StepOk, hg]; exact .inr ⟨.inl ⟨b, hb, hbw⟩, trivial, trivial⟩) he
      · rename_i z hz
        exact build _ h (by simp only [StepOk, hg]; exact .inr ⟨.inr ⟨z, hz⟩, trivial, trivial⟩) he
      · cases he

def lmAt (vt : List Tmp) (ops : Array Oper) : Nat → List (Option Tmp)
  | 0 => []
  | i + 1 => lmOf vt ((ops[i]?).bind (·.dst)) (lmAt vt ops i)

theorem compOps_at {T : Tb} {nt : Nat} {vt : List Tmp} {ops : Array Oper} : ∀ (l : List Oper) (p : Nat) (cs : List CO), ops.toList.drop p = l → compOps T nt vt ops (lmAt vt ops p) l = some cs →
    cs.length = l.length ∧ ∀ i o, l[i]? = some o → ∃ c g, cs[i]? = some ⟨c, o.dst.bind (varOf vt), g⟩ ∧ compOp T (mOf vt (lmAt vt ops (p + i))) o = some c ∧ compGuard vt ops (lmAt vt ops (p + i)) o.guard = some g ∧ o.dst.all (fun d => decide (d < nt)) = true := by
  intro l
  induction l with
  | nil =>
    intro p cs hl hc
    simp only [compOps, Option.some.injEq] at hc
    subst hc
    exact ⟨rfl, fun i o h => by simp at h⟩
  | cons o l ih =>
    intro p cs hl hc
    have hop : ops[p]? = some o := by
      have : (ops.toList.drop p)[0]? = some o := by rw [hl]; rfl
      simpa using this
    have hl' : ops.toList.drop (p + 1) = l := by rw [← List.tail_drop, hl]; rfl
    simp only [compOps] at hc
    split at hc
    · rename_i c g cs' h1 h2 h3
      split at hc
      · rename_i hd
        cases hc
        have h3' : compOps T nt vt ops (lmAt vt ops (p + 1)) l = some cs' := by
          simp only [lmAt, hop, Option.bind_some]; exact h3
        obtain ⟨g1, g2⟩ := ih (p + 1) cs' hl' h3'
        refine ⟨by simp [g1], fun i x hi => ?_⟩
        cases i with
        | zero =>
          simp at hi; subst hi
          exact ⟨c, g, by simp, by simpa using h1, by simpa using h2, hd⟩
        | succ i =>
          obtain ⟨c', g', k1, k2, k3, k4⟩ := g2 i x (by simpa using hi)
          exact ⟨c', g', by simpa using k1, by rw [show p + (i + 1) = p + 1 + i by omega]; exact k2, by rw [show p + (i + 1) = p + 1 + i by omega]; exact k3, k4⟩
      · cases hc
    · cases hc

theorem lmAt_get {vt : List Tmp} {ops : Array Oper} {t : Tmp} : ∀ (i a : Nat), (lmAt vt ops i)[a]? = some (some t) → ∃ d y, d < i ∧ a = i - 1 - d ∧ ops[d]? = some y ∧ y.dst = some t := by
  intro i
  induction i with
  | zero => intro a h; simp [lmAt] at h
  | succ i ih =>
    intro a h
    simp only [lmAt, lmOf] at h
    cases a with
    | zero =>
      simp only [List.getElem?_cons_zero, Option.some.injEq] at h
      cases ho : ops[i]? with
      | none => simp [ho] at h
      | some y =>
        rw [ho] at h
        simp only [Option.bind_some] at h
        split at h
        · cases h
        · exact ⟨i, y, by omega, by omega, ho, h⟩
    | succ a =>
      obtain ⟨d, y, h1, h2, h3, h4⟩ := ih a (by simpa using h)
      exact ⟨d, y, by omega, by omega, h3, h4⟩

/-! ### Which orders do no harm -/
/-- which variable an operand was got from, by moves and the way into a variable's parts alone -/
def baseOf (cs : List CO) : Nat → Nat → Opd → Option Nat
  | 0, _, x => match x with
    | .var b => if cs.all (fun c => c.wr != some b) then some b else none
    | _ => none
  | f + 1, i, x => match x with
    | .var b => if cs.all (fun c => c.wr != some b) then some b else none
    | .loc k => if k < i then match cs[i - 1 - k]? with
        | some ⟨.mov y, _, none⟩ => baseOf cs f (i - 1 - k) y
        | some ⟨.nilchk y, _, none⟩ => baseOf cs f (i - 1 - k) y
        | some ⟨.fa _ y, _, none⟩ => baseOf cs f (i - 1 - k) y
        | _ => none
      else none
    | _ => none
/-- a store, and what is looked at in another variable -/
def lateOk (aps : List (Option Nat × Nat)) (cs : List CO) (e i : Nat) (c d : CO) : Bool := match c.op with
  | .store _ y _ => match baseOf cs cs.length e y with
    | some a => match d.op with
      | .load _ _ x | .fa _ x | .nilchk x => match baseOf cs cs.length i x with
        | some b => aps.contains (some a, b)
        | none => false
      | _ => false
    | none => false
  | _ => false
def exOk (aps : List (Option Nat × Nat)) (cs : List CO) (ie ii : Nat) (e i : CO) : Bool :=
  e.op.isPush || lateOk aps cs ie ii e i || match i.op with
    | .load _ _ (.var b) => cs.all (fun c => c.wr != some b) && (match e.op with
      | .store _ (.var a) _ => cs.all (fun c => c.wr != some a) && aps.contains (some a, b)
      | .append .. => aps.contains (none, b)
      | _ => false)
    | _ => false
def pairOk (aps : List (Option Nat × Nat)) (ops : Array Oper) (cs : List CO) (i j : Nat) (x y : Oper) (c d : CO) : Bool :=
  x.apart ops y && !(c.op.isE && d.op.isE) && (!(c.op.isE && d.op.isR) || exOk aps cs i j c d) && (!(c.op.isR && d.op.isE) || exOk aps cs j i d c)
def drawPair (aps : List (Option Nat × Nat)) (ops : Array Oper) (cs : List CO) (j : Nat) (tj : Nat) (y : Oper) (d : CO) (i : Nat) : Bool :=
  match ops[i]?, cs[i]? with
  | some x, some c => (x.dst == none || x.dst != y.dst) && (tj.testBit i || pairOk aps ops cs i j x y c d)
  | _, _ => false
def drawOk (aps : List (Option Nat × Nat)) (ops : Array Oper) (cs : List CO) : Bool :=
  let t := ancGo [] ops.toList
  (List.range ops.size).all fun j => match ops[j]?, cs[j]? with
    | some y, some d => (bindsOf y).all (fun k => decide (k < j)) && (List.range j).all (drawPair aps ops cs j (t.getD j 0) y d)
    | _, _ => false

structure SF (aps : List (Option Nat × Nat)) (ops : Array Oper) (cs : List CO) (t : List Nat) : Prop where
  back : ∀ (j : Nat) (y : Oper), ops[j]? = some y → ∀ k ∈ bindsOf y, k < j
  pair : ∀ (i j : Nat) (x y : Oper) (c d : CO), i < j → ops[i]? = some x → ops[j]? = some y → cs[i]? = some c → cs[j]? = some d →
    (x.dst = none ∨ x.dst ≠ y.dst) ∧ ((t.getD j 0).testBit i = true ∨ pairOk aps ops cs i j x y c d = true)

theorem sf_of {aps : List (Option Nat × Nat)} {ops : Array Oper} {cs : List CO} (h : drawOk aps ops cs = true) : SF aps ops cs (ancGo [] ops.toList) := by
  have key : ∀ (j : Nat) (y : Oper), ops[j]? = some y → ∃ d, cs[j]? = some d ∧ ((bindsOf y).all (fun k => decide (k < j)) = true ∧ (List.range j).all (drawPair aps ops cs j ((ancGo [] ops.toList).getD j 0) y d) = true) := by
    intro j y hy
    have hlt : j < ops.size := (Array.getElem?_eq_some_iff.1 hy).1
    have := List.all_eq_true.1 h j (by simpa using hlt)
    rw [hy] at this
    split at this
    · rename_i y' d e1 hd
      cases e1
      exact ⟨d, hd, by simpa only [Bool.and_eq_true] using this⟩
    · cases this
  refine ⟨fun j y hy k hk => ?_, fun i j x y c d hij hx hy hc hd => ?_⟩
  · obtain ⟨d, _, h1, _⟩ := key j y hy
    simpa using List.all_eq_true.1 h1 k hk
  · obtain ⟨d', hd', _, h2⟩ := key j y hy
    rw [hd] at hd'; cases hd'
    have := List.all_eq_true.1 h2 i (by simpa using hij)
    simp only [drawPair, hx, hc, Bool.and_eq_true, Bool.or_eq_true, beq_iff_eq, bne_iff_ne, ne_eq] at this
    exact this

section
variable {P : Program} {B : Nat} {w0 w w' : World} {I I' : Cells} {σ σ' : List Loc} {vt : List Tmp} {nt : Nat} {a : Act} {T : Tb} {call : CallF}
  {aps : List (Option Nat × Nat)} {ops : Array Oper} {cs : List CO} {vars0 vars1 : List AV} {h0 h1 : List AO} {V E : Nat → List AV} {H : Nat → List AO} {R : Nat → AV}

/-- A variable that nothing wrote is as it was. -/
theorem Trace.old (t : Trace call cs vars0 [] h0 vars1 h1 V E H R) {k : Nat} : ∀ i, i ≤ cs.length → (∀ j c, j < i → cs[j]? = some c → c.wr ≠ some k) → (V i).getD k .junk = vars0.getD k .junk := by
  intro i
  induction i with
  | zero => intro _ _; rw [t.v0]
  | succ i ih =>
    intro hi hw
    have hc : cs[i]? = some cs[i] := List.getElem?_eq_getElem (by omega)
    rw [(t.step i _ hc).1, ← ih (by omega) (fun j c hj => hw j c (by omega))]
    have := hw i _ (by omega) hc
    unfold setO
    split
    · rename_i k' hk
      rw [List.getD_eq_getElem?_getD, List.getD_eq_getElem?_getD, List.getElem?_set_ne (by rintro rfl; exact this hk)]
    · rfl

theorem Trace.len (t : Trace call cs vars0 [] h0 vars1 h1 V E H R) : ∀ i, i ≤ cs.length → (V i).length = vars0.length := by
  intro i
  induction i with
  | zero => intro _; rw [t.v0]
  | succ i ih =>
    intro hi
    have hc : cs[i]? = some cs[i] := List.getElem?_eq_getElem (by omega)
    rw [(t.step i _ hc).1, ← ih (by omega)]
    unfold setO
    split <;> simp

/-- One that was written holds what was written last. -/
theorem Trace.new (t : Trace call cs vars0 [] h0 vars1 h1 V E H R) {k j : Nat} {c : CO} (hj : cs[j]? = some c) (hw : c.wr = some k) (hk : k < vars0.length) :
    ∀ i, i ≤ cs.length → j < i → (∀ j' c', j < j' → j' < i → cs[j']? = some c' → c'.wr ≠ some k) → (V i).getD k .junk = R j := by
  intro i
  induction i with
  | zero => intro _ h; omega
  | succ i ih =>
    intro hi hji ho
    have hc : cs[i]? = some cs[i] := List.getElem?_eq_getElem (by omega)
    rw [(t.step i _ hc).1]
    by_cases e : j = i
    · subst e
      rw [hc] at hj; cases hj
      simp only [setO, hw]
      rw [List.getD_eq_getElem?_getD, List.getElem?_set_self (by rw [t.len j (by omega)]; exact hk)]; rfl
    · rw [← ih (by omega) (by omega) (fun j' c' h1 h2 => ho j' c' h1 (by omega))]
      have := ho i _ (by omega) (by omega) hc
      unfold setO
      split
      · rename_i k' hk'
        rw [List.getD_eq_getElem?_getD, List.getD_eq_getElem?_getD, List.getElem?_set_ne (by rintro rfl; exact this hk')]
      · rfl

theorem Trace.env (t : Trace call cs vars0 [] h0 vars1 h1 V E H R) : ∀ i, i ≤ cs.length → ∀ d, d < i → (E i).getD (i - 1 - d) .junk = R d := by
  intro i
  induction i with
  | zero => intro _ d h; omega
  | succ i ih =>
    intro hi d hd
    have hc : cs[i]? = some cs[i] := List.getElem?_eq_getElem (by omega)
    rw [(t.step i _ hc).2.1]
    by_cases e : d = i
    · subst e
      rw [show d + 1 - 1 - d = 0 by omega]; rfl
    · have := ih (by omega) d (by omega)
      rw [show i + 1 - 1 - d = (i - 1 - d) + 1 by omega]
      simpa using this

/-- An operation that is no changer leaves the objects. -/
theorem Trace.keep (t : Trace call cs vars0 [] h0 vars1 h1 V E H R) {i : Nat} {c : CO} (hc : cs[i]? = some c) (hE : c.op.isE = false) : H (i + 1) = H i := by
  have hs := (t.step i c hc).2.2
  have ev : ∀ r h', evOp call (V i) (E i) (H i) c.op = some (r, h') → h' = H i := by
    intro r h' he
    cases hR : c.op.isR with
    | true => exact ev_reads hR he
    | false => exact (ev_plain hE hR he).1
  unfold StepOk at hs
  split at hs
  · exact ev _ _ hs
  · rcases hs with ⟨_, hs⟩ | ⟨_, _, hs⟩
    · exact ev _ _ hs
    · exact hs
theorem Trace.const (t : Trace call cs vars0 [] h0 vars1 h1 V E H R) {p : Nat} : ∀ q, p ≤ q → q ≤ cs.length → (∀ i c, p ≤ i → i < q → cs[i]? = some c → c.op.isE = false) → H q = H p := by
  intro q
  induction q with
  | zero => intro h _ _; rw [show p = 0 by omega]
  | succ q ih =>
    intro hpq hq hn
    by_cases e : p = q + 1
    · rw [e]
    · have hc : cs[q]? = some cs[q] := List.getElem?_eq_getElem (by omega)
      rw [t.keep hc (hn q _ (by omega) (by omega) hc)]
      exact ih (by omega) (by omega) (fun i c h1 h2 => hn i c h1 (by omega))

theorem Trace.notw (t : Trace call cs vars0 [] h0 vars1 h1 V E H R) {k : Nat} (hk : cs.all (fun c => c.wr != some k) = true) {p : Nat} (hp : p ≤ cs.length) : (V p).getD k .junk = vars0.getD k .junk := by
  refine t.old p hp (fun j c hj hc => ?_)
  simpa using List.all_eq_true.1 hk c (List.mem_of_getElem? hc)
/-- an operand leads where the variable led that it was got from -/
theorem Trace.base (t : Trace call cs vars0 [] h0 vars1 h1 V E H R) : ∀ (f i : Nat) (x : Opd) (b : Nat), i ≤ cs.length → baseOf cs f i x = some b →
    (∀ id off, vars0.getD b .junk = .ptr id off → ∃ off', getO (V i) (E i) x = .ptr id off') ∧ (∀ z, vars0.getD b .junk = .ip z → ∃ z', getO (V i) (E i) x = .ip z') := by
  have var : ∀ (i b b' : Nat), i ≤ cs.length → (if cs.all (fun c => c.wr != some b) = true then some b else none) = some b' → getO (V i) (E i) (.var b) = vars0.getD b' .junk := by
    intro i b b' hi h
    split at h
    · rename_i hk
      cases h
      exact t.notw hk hi
    · cases h
  intro f
  induction f with
  | zero =>
    intro i x b hi hb
    unfold baseOf at hb
    split at hb
    · rw [var _ _ _ hi hb]; exact ⟨fun id off h => ⟨off, h⟩, fun z h => ⟨z, h⟩⟩
    · cases hb
  | succ f ih =>
    intro i x b hi hb
    unfold baseOf at hb
    split at hb
    · rw [var _ _ _ hi hb]; exact ⟨fun id off h => ⟨off, h⟩, fun z h => ⟨z, h⟩⟩
    · rename_i k
      split at hb
      · rename_i hk
        have hd : i - 1 - k < i := by omega
        have he : getO (V i) (E i) (.loc k) = R (i - 1 - k) := by
          have := t.env i hi (i - 1 - k) hd
          rw [show i - 1 - (i - 1 - k) = k by omega] at this
          exact this
        rw [he]
        split at hb
        · rename_i y wr hc
          have hs := (t.step _ _ hc).2.2
          simp only [StepOk, evOp, Option.some.injEq, Prod.mk.injEq] at hs
          rw [← hs.1]
          exact ih _ _ _ (by omega) hb
        · rename_i y wr hc
          have hs := (t.step _ _ hc).2.2
          simp only [StepOk, evOp] at hs
          obtain ⟨v, g1, g2⟩ := Option.map_eq_some_iff.1 hs
          obtain ⟨i1, i2⟩ := ih _ _ _ (by omega) hb
          refine ⟨fun id off h => ?_, fun z h => ?_⟩
          · obtain ⟨off', h'⟩ := i1 id off h
            rw [h'] at g1
            simp only [evNil, Option.some.injEq] at g1
            exact ⟨off', by rw [← (Prod.mk.inj g2).1, ← g1]⟩
          · obtain ⟨z', h'⟩ := i2 z h
            rw [h'] at g1
            simp only [evNil, Option.some.injEq] at g1
            exact ⟨z', by rw [← (Prod.mk.inj g2).1, ← g1]⟩
        · rename_i o y wr hc
          have hs := (t.step _ _ hc).2.2
          simp only [StepOk, evOp] at hs
          obtain ⟨v, g1, g2⟩ := Option.map_eq_some_iff.1 hs
          obtain ⟨i1, i2⟩ := ih _ _ _ (by omega) hb
          refine ⟨fun id off h => ?_, fun z h => ?_⟩
          · obtain ⟨off', h'⟩ := i1 id off h
            rw [h'] at g1
            simp only [evFa, Option.some.injEq] at g1
            exact ⟨_, by rw [← (Prod.mk.inj g2).1, ← g1]⟩
          · obtain ⟨z', h'⟩ := i2 z h
            rw [h'] at g1
            simp only [evFa, Option.some.injEq] at g1
            exact ⟨_, by rw [← (Prod.mk.inj g2).1, ← g1]⟩
        · cases hb
      · cases hb
    · cases hb
theorem Trace.late (t : Trace call cs vars0 [] h0 vars1 h1 V E H R) (hap : aps.all (apB vars0) = true) {e i : Nat} {c d : CO} (he : cs[e]? = some c) (hi : cs[i]? = some d) (hs : evOp call (V e) (E e) (H e) c.op = some (R e, H (e + 1))) (hx : lateOk aps cs e i c d = true) :
    (H e).length ≤ (H (e + 1)).length ∧ ∀ r, evOp call (V i) (E i) (H (e + 1)) d.op = some (r, H (e + 1)) ↔ evOp call (V i) (E i) (H e) d.op = some (r, H e) := by
  have hlen : e < cs.length := (List.getElem?_eq_some_iff.1 he).1
  have hlen' : i < cs.length := (List.getElem?_eq_some_iff.1 hi).1
  unfold lateOk at hx
  split at hx
  · rename_i ssz y sx hsop
    split at hx
    · rename_i a hba
      have two : ∀ {x : Opd} {b : Nat}, baseOf cs cs.length i x = some b → aps.contains (some a, b) = true →
          ∃ id off, getO (V e) (E e) y = .ptr id off ∧ ((∃ id' off', getO (V i) (E i) x = .ptr id' off' ∧ id ≠ id') ∨ ∃ z, getO (V i) (E i) x = .ip z) := by
        intro x b hbb hc
        have hapb := List.all_eq_true.1 hap _ (List.contains_iff_mem.1 hc)
        simp only [apB] at hapb
        split at hapb
        · rename_i i1 o1 j1 o2 e1 e2
          obtain ⟨q1, g1⟩ := (t.base _ _ _ _ (by omega) hba).1 _ _ e1
          obtain ⟨q2, g2⟩ := (t.base _ _ _ _ (by omega) hbb).1 _ _ e2
          exact ⟨i1, q1, g1, .inl ⟨j1, q2, g2, by simpa using hapb⟩⟩
        · rename_i i1 o1 z e1 e2
          obtain ⟨q1, g1⟩ := (t.base _ _ _ _ (by omega) hba).1 _ _ e1
          obtain ⟨q2, g2⟩ := (t.base _ _ _ _ (by omega) hbb).2 _ e2
          exact ⟨i1, q1, g1, .inr ⟨q2, g2⟩⟩
        · cases hapb
      rw [hsop] at hs
      split at hx
      · rename_i ag sz x hop
        split at hx
        · rename_i b hbb
          obtain ⟨id, off, g1, g2⟩ := two hbb hx
          obtain ⟨o, ho⟩ := ev_store g1 hs
          have hld : evLoad (H (e + 1)) ag sz (getO (V i) (E i) x) = evLoad (H e) ag sz (getO (V i) (E i) x) := by
            rcases g2 with ⟨id', off', g2, hne⟩ | ⟨z, g2⟩
            · rw [g2]
              simp only [evLoad, ho]
              rw [List.getElem?_set_ne hne]
            · rw [g2]; rfl
          refine ⟨by rw [ho]; simp, fun r => ?_⟩
          rw [hop]
          simp only [evOp, hld, Option.map_eq_some_iff, Prod.mk.injEq, and_true]
        · cases hx
      · rename_i off0 x hop
        split at hx
        · rename_i b hbb
          obtain ⟨id, off, g1, g2⟩ := two hbb hx
          obtain ⟨o, ho⟩ := ev_store g1 hs
          have hld : evFa (H (e + 1)) off0 (getO (V i) (E i) x) = evFa (H e) off0 (getO (V i) (E i) x) := by
            rcases g2 with ⟨id', off', g2, hne⟩ | ⟨z, g2⟩ <;> rw [g2] <;> rfl
          refine ⟨by rw [ho]; simp, fun r => ?_⟩
          rw [hop]
          simp only [evOp, hld, Option.map_eq_some_iff, Prod.mk.injEq, and_true]
        · cases hx
      · rename_i x hop
        split at hx
        · rename_i b hbb
          obtain ⟨id, off, g1, g2⟩ := two hbb hx
          obtain ⟨o, ho⟩ := ev_store g1 hs
          have hld : evNil (H (e + 1)) (getO (V i) (E i) x) = evNil (H e) (getO (V i) (E i) x) := by
            rcases g2 with ⟨id', off', g2, hne⟩ | ⟨z, g2⟩ <;> rw [g2] <;> rfl
          refine ⟨by rw [ho]; simp, fun r => ?_⟩
          rw [hop]
          simp only [evOp, hld, Option.map_eq_some_iff, Prod.mk.injEq, and_true]
        · cases hx
      · cases hx
    · cases hx
  · cases hx
/-- What a changer that needn't wait for a reader does to the objects. -/
theorem Trace.change (t : Trace call cs vars0 [] h0 vars1 h1 V E H R) (hap : aps.all (apB vars0) = true) {e i : Nat} {c d : CO} (he : cs[e]? = some c) (hi : cs[i]? = some d) (hR : d.op.isR = true) (hx : exOk aps cs e i c d = true) :
    (H e).length ≤ (H (e + 1)).length ∧
    (∀ n r, n ≤ (H e).length → (∀ x ∈ d.op.args, (getO (V i) (E i) x).lt n = true) → evOp call (V i) (E i) (H (e + 1)) d.op = some (r, H (e + 1)) → evOp call (V i) (E i) (H e) d.op = some (r, H e)) ∧
    (∀ r, evOp call (V i) (E i) (H e) d.op = some (r, H e) → evOp call (V i) (E i) (H (e + 1)) d.op = some (r, H (e + 1))) := by
  have push : (∃ X, H (e + 1) = H e ++ X) → _ := fun ⟨X, hX⟩ =>
    show (H e).length ≤ (H (e + 1)).length ∧
    (∀ n r, n ≤ (H e).length → (∀ x ∈ d.op.args, (getO (V i) (E i) x).lt n = true) → evOp call (V i) (E i) (H (e + 1)) d.op = some (r, H (e + 1)) → evOp call (V i) (E i) (H e) d.op = some (r, H e)) ∧
    (∀ r, evOp call (V i) (E i) (H e) d.op = some (r, H e) → evOp call (V i) (E i) (H (e + 1)) d.op = some (r, H (e + 1))) from
    ⟨by rw [hX]; simp, fun n r hn hlt hev => ev_same (n := n) (fun id hid => by rw [hX, List.getElem?_append_left (by omega)]) hR hlt hev,
      fun r hev => ev_more (fun id o ho => by
        rw [hX, List.getElem?_append_left (List.getElem?_eq_some_iff.1 ho).1]; exact ho) hR hev⟩
  have hs := (t.step e c he).2.2
  have hlen : e < cs.length := (List.getElem?_eq_some_iff.1 he).1
  have hlen' : i < cs.length := (List.getElem?_eq_some_iff.1 hi).1
  have cases2 : H (e + 1) = H e ∨ evOp call (V e) (E e) (H e) c.op = some (R e, H (e + 1)) := by
    unfold StepOk at hs
    split at hs
    · exact .inr hs
    · rcases hs with ⟨_, hs⟩ | ⟨_, _, hs⟩
      · exact .inr hs
      · exact .inl hs
  rcases cases2 with hs | hs
  · exact push ⟨[], by simp [hs]⟩
  unfold exOk at hx
  simp only [Bool.or_eq_true] at hx
  rcases hx with (hx | hx) | hx
  · exact push (ev_push hx hs)
  · obtain ⟨g1, g2⟩ := t.late hap he hi hs hx
    exact ⟨g1, fun n r _ _ => (g2 r).1, fun r => (g2 r).2⟩
  split at hx
  · rename_i ag sz b hop
    simp only [Bool.and_eq_true] at hx
    obtain ⟨hb, hx⟩ := hx
    have notw : ∀ {k : Nat}, cs.all (fun c => c.wr != some k) = true → ∀ p, p ≤ cs.length → (V p).getD k .junk = vars0.getD k .junk := by
      intro k hk p hp
      refine t.old p hp (fun j c hj hc => ?_)
      simpa using List.all_eq_true.1 hk c (List.mem_of_getElem? hc)
    have hvb : getO (V i) (E i) (.var b) = vars0.getD b .junk := notw hb i (by omega)
    split at hx
    · -- a store
      rename_i ssz sa sx hsop
      simp only [Bool.and_eq_true] at hx
      obtain ⟨ha, hx⟩ := hx
      have hva : getO (V e) (E e) (.var sa) = vars0.getD sa .junk := notw ha e (by omega)
      have hapb := List.all_eq_true.1 hap _ (List.contains_iff_mem.1 hx)
      rw [hsop] at hs
      simp only [apB] at hapb
      have hpt : ∃ id off, vars0.getD sa .junk = .ptr id off ∧ (∀ id' off', vars0.getD b .junk = .ptr id' off' → id ≠ id') ∧ ((∃ id' off', vars0.getD b .junk = .ptr id' off') ∨ ∃ z, vars0.getD b .junk = .ip z) := by
        split at hapb
        · rename_i i1 o1 j1 o2 e1 e2
          refine ⟨i1, o1, e1, fun id' off' e3 => ?_, .inl ⟨j1, o2, e2⟩⟩
          rw [e2] at e3; cases e3
          simpa using hapb
        · rename_i i1 o1 z e1 e2
          refine ⟨i1, o1, e1, fun id' off' e3 => ?_, .inr ⟨z, e2⟩⟩
          rw [e2] at e3; cases e3
        · cases hapb
      obtain ⟨id, off, e1, e2, e3⟩ := hpt
      obtain ⟨o, ho⟩ := ev_store (hva.trans e1) hs
      have hld : evLoad (H (e + 1)) ag sz (vars0.getD b .junk) = evLoad (H e) ag sz (vars0.getD b .junk) := by
        rcases e3 with ⟨id', off', e3⟩ | ⟨z, e3⟩
        · rw [e3]
          simp only [evLoad, ho]
          rw [List.getElem?_set_ne (e2 _ _ e3)]
        · rw [e3]; rfl
      refine ⟨by rw [ho]; simp, fun n r _ _ hev => ?_, fun r hev => ?_⟩
      · rw [hop] at hev ⊢
        simp only [evOp, hvb] at hev ⊢
        rw [hld] at hev
        obtain ⟨y, q1, q2⟩ := Option.map_eq_some_iff.1 hev
        cases q2; rw [q1]; rfl
      · rw [hop] at hev ⊢
        simp only [evOp, hvb] at hev ⊢
        rw [hld]
        obtain ⟨y, q1, q2⟩ := Option.map_eq_some_iff.1 hev
        cases q2; rw [q1]; rfl
    · -- an append
      rename_i asz ab as ax hsop
      have hapb := List.all_eq_true.1 hap _ (List.contains_iff_mem.1 hx)
      rw [hsop] at hs
      simp only [apB] at hapb
      rcases ev_append hs with hp | ⟨id, q1, q2, q3, q4, q5, q6, q7, q8, hid, ho⟩
      · exact push hp
      have hlt := (List.getElem?_eq_some_iff.1 hid).1
      split at hapb
      · rename_i id' off' e3
        refine ⟨by rw [ho]; simp, fun n r _ _ hev => ?_, fun r hev => ?_⟩
        · rw [hop] at hev ⊢
          simp only [evOp, hvb] at hev ⊢
          obtain ⟨y, g1, g2⟩ := Option.map_eq_some_iff.1 hev
          cases g2
          rw [e3] at g1 ⊢
          have hne : id ≠ id' := by
            rintro rfl
            simp only [evLoad, ho, List.getElem?_set_self hlt] at g1
            cases g1
          have : evLoad (H e) ag sz (.ptr id' off') = some r := by
            rw [← g1]; simp only [evLoad, ho, List.getElem?_set_ne hne]
          rw [this]; rfl
        · rw [hop] at hev ⊢
          simp only [evOp, hvb] at hev ⊢
          obtain ⟨y, g1, g2⟩ := Option.map_eq_some_iff.1 hev
          cases g2
          rw [e3] at g1 ⊢
          have hne : id ≠ id' := by
            rintro rfl
            simp only [evLoad, hid] at g1
            cases g1
          have : evLoad (H (e + 1)) ag sz (.ptr id' off') = some r := by
            rw [← g1]; simp only [evLoad, ho, List.getElem?_set_ne hne]
          rw [this]; rfl
      · rename_i z e3
        have hld : evLoad (H (e + 1)) ag sz (vars0.getD b .junk) = evLoad (H e) ag sz (vars0.getD b .junk) := by rw [e3]; rfl
        refine ⟨by rw [ho]; simp, fun n r _ _ hev => ?_, fun r hev => ?_⟩
        · rw [hop] at hev ⊢
          simp only [evOp, hvb] at hev ⊢
          rw [hld] at hev
          obtain ⟨y, q1, q2⟩ := Option.map_eq_some_iff.1 hev
          cases q2; rw [q1]; rfl
        · rw [hop] at hev ⊢
          simp only [evOp, hvb] at hev ⊢
          rw [hld]
          obtain ⟨y, q1, q2⟩ := Option.map_eq_some_iff.1 hev
          cases q2; rw [q1]; rfl
      · cases hapb
    · cases hx
  · cases hx
end
end Go.AE
end

/-! AE, part 26: any order. -/
section
set_option linter.unusedVariables false
set_option linter.unusedSimpArgs false
namespace Go.AE
open Go Go.RowKit

structure DInv (B : Nat) (w0 : World) (vt : List Tmp) (nt : Nat) (ops : Array Oper) (cs : List CO) (vars0 : List AV) (H : Nat → List AO) (R : Nat → AV) (S : Array Bool) (a : Act) (w : World) (I : Cells) (σ : List Loc) : Prop where
  size : S.size = ops.size
  down : ∀ (j : Nat) (y : Oper), S.getD j false = true → ops[j]? = some y → ∀ k ∈ bindsOf y, S.getD k false = true
  heap : ∃ q, q ≤ cs.length ∧ Inv B w0 I σ w (H q) ∧ ∀ (e : Nat) (c : CO), cs[e]? = some c → c.op.isE = true → (S.getD e false = true ↔ e < q)
  tsize : a.tmps.size = nt
  defers : a.defers = []
  done : ∀ (j : Nat) (y : Oper) (t : Tmp), ops[j]? = some y → y.dst = some t → S.getD j false = true → Rep I w σ (R j) (a.tmps.getD t undef)
  old : ∀ (k : Nat) (t : Tmp), vt[k]? = some t → (∀ (j : Nat) (y : Oper), ops[j]? = some y → y.dst = some t → S.getD j false = false) → Rep I w σ (vars0.getD k .junk) (a.tmps.getD t undef)

section
variable {P : Program} {B : Nat} {w0 w w' : World} {I I' : Cells} {σ σ' : List Loc} {vt : List Tmp} {nt : Nat} {a : Act} {T : Tb} {call : CallF}
  {aps : List (Option Nat × Nat)} {ops : Array Oper} {cs : List CO} {vars0 vars1 : List AV} {h0 h1 : List AO} {V E : Nat → List AV} {H : Nat → List AO} {R : Nat → AV} {S : Array Bool}

theorem getD_lt {j : Nat} (h : S.getD j false = true) : j < S.size := by
  by_cases hlt : j < S.size
  · exact hlt
  · rw [Array.getD_eq_getD_getElem?, Array.getElem?_eq_none (by omega)] at h; cases h

theorem anc_in (sf : SF aps ops cs (ancGo [] ops.toList)) (hs : S.size = ops.size) (hd : ∀ (j : Nat) (y : Oper), S.getD j false = true → ops[j]? = some y → ∀ k ∈ bindsOf y, S.getD k false = true) :
    ∀ (n j : Nat) (y : Oper), j < n → ops[j]? = some y → (∀ k ∈ bindsOf y, S.getD k false = true) → ∀ i, ((ancGo [] ops.toList).getD j 0).testBit i = true → S.getD i false = true := by
  intro n
  induction n with
  | zero => intro j y h; omega
  | succ n ih =>
    intro j y hj hy hk i hb
    obtain ⟨k, hkm, h⟩ := ancGo_bit ops.toList [] j y i (by simpa using hy) (by simpa using sf.back j y hy) (by simpa using hb)
    rcases h with rfl | h
    · exact hk _ hkm
    · have hkS := hk k hkm
      have hklt := getD_lt hkS
      rw [hs] at hklt
      have hky : ops[k]? = some ops[k] := Array.getElem?_eq_getElem hklt
      have := sf.back j y hy k hkm
      exact ih k _ (by omega) hky (hd k _ hkS hky) i h

theorem set_getD {i j : Nat} (hi : i < S.size) : (S.setIfInBounds i true).getD j false = if j = i then true else S.getD j false := by
  rw [Array.getD_eq_getD_getElem?, Array.getD_eq_getD_getElem?]
  by_cases e : j = i
  · subst e
    rw [Array.getElem?_setIfInBounds_self_of_lt hi, if_pos rfl]; rfl
  · rw [Array.getElem?_setIfInBounds_ne (fun h => e h.symm), if_neg e]

theorem ready_iff {i : Nat} (hs : S.size = ops.size) (hi : i ∈ Region.ready .any ops S) : ∃ o, ops[i]? = some o ∧ i < S.size ∧ S.getD i false = false ∧ ∀ k ∈ bindsOf o, S.getD k false = true := by
  simp only [Region.ready, List.mem_filter, List.mem_range, Bool.and_eq_true, Bool.not_eq_true'] at hi
  obtain ⟨h1, h2, h3⟩ := hi
  have ho : ops[i]? = some ops[i] := Array.getElem?_eq_getElem h1
  refine ⟨_, ho, by omega, ?_, fun k hk => ?_⟩
  · rw [Array.getD_eq_getD_getElem?] at h2 ⊢
    rw [Array.getElem?_eq_getElem (by omega)] at h2 ⊢
    exact h2
  · rw [ho] at h3
    simp only [Option.map_some, Option.getD_some, Array.all_eq_true', Bool.or_eq_true, Bool.not_eq_true'] at h3
    simp only [bindsOf, List.mem_map, List.mem_filter] at hk
    obtain ⟨e, ⟨he1, he2⟩, rfl⟩ := hk
    rcases h3 e (by simpa using he1) with h | h
    · rw [h] at he2; cases he2
    · exact h

theorem apart_at {i j : Nat} {x y : Oper} {c d : CO} (h : pairOk aps ops cs i j x y c d = true) : x.apart ops y = true ∧ ¬ (c.op.isE = true ∧ d.op.isE = true) ∧ (c.op.isE = true → d.op.isR = true → exOk aps cs i j c d = true) ∧ (c.op.isR = true → d.op.isE = true → exOk aps cs j i d c = true) := by
  simp only [pairOk, Bool.and_eq_true, Bool.or_eq_true, Bool.not_eq_true', Bool.and_eq_false_iff] at h
  obtain ⟨⟨⟨h1, h2⟩, h3⟩, h4⟩ := h
  refine ⟨h1, ?_, fun p q => ?_, fun p q => ?_⟩
  · rintro ⟨p, q⟩
    rw [p, q] at h2
    rcases h2 with h2 | h2 <;> cases h2
  · rw [p, q] at h3
    rcases h3 with (h3 | h3) | h3
    · cases h3
    · cases h3
    · exact h3
  · rw [p, q] at h4
    rcases h4 with (h4 | h4) | h4
    · cases h4
    · cases h4
    · exact h4

theorem varOf_some (hn : vt.Nodup) {k : Nat} {t : Tmp} (h : vt[k]? = some t) : varOf vt t = some k := by
  cases hv : varOf vt t with
  | none => exact absurd (List.mem_of_getElem? h) (varOf_none hv)
  | some k' =>
    obtain ⟨l1, e1⟩ := List.getElem?_eq_some_iff.1 h
    obtain ⟨l2, e2⟩ := List.getElem?_eq_some_iff.1 (varOf_eq hv)
    have := (List.getElem_inj hn).1 (e2.trans e1.symm)
    subst this; rfl

set_option maxHeartbeats 1000000 in
theorem draw_step (hT : TbOk P T) (hcall : CallOk P B w0 call) (hnd : vt.Nodup) (hvt : ∀ t ∈ vt, t < nt) (hlen : vars0.length = vt.length) (hc : compOps T nt vt ops [] ops.toList = some cs) (sf : SF aps ops cs (ancGo [] ops.toList))
    (hap : aps.all (apB vars0) = true) (t : Trace call cs vars0 [] h0 vars1 h1 V E H R) (D : DInv B w0 vt nt ops cs vars0 H R S a w I σ) {i : Nat} (hi : i ∈ Region.ready .any ops S)
    {K : Act → World → Prop} {Q : Exit → Act → World → Prop}
    (hK : ∀ a' w' I' σ', DInv B w0 vt nt ops cs vars0 H R (S.setIfInBounds i true) a' w' I' σ' → Step B I σ w I' σ' w' → K a' w') : wpOp P ops Q i K a w := by
  obtain ⟨o, ho, hilt, hiS, hready⟩ := ready_iff D.size hi
  obtain ⟨hclen, hcat⟩ := compOps_at ops.toList 0 cs rfl hc
  have hlist : ∀ (j : Nat) (y : Oper), ops[j]? = some y → ops.toList[j]? = some y := fun j y h => by simpa using h
  have hsz : cs.length = ops.size := by simpa using hclen
  have hSsz := D.size
  have hil : i < ops.size := by omega
  have hic : i < cs.length := by omega
  obtain ⟨c, g, hci, hcomp, hguard, hdlt⟩ := hcat i o (hlist i o ho)
  simp only [Nat.zero_add] at hcomp hguard
  have hcsAt : ∀ (j : Nat) (y : Oper), ops[j]? = some y → ∃ d, cs[j]? = some d ∧ d.wr = y.dst.bind (varOf vt) := fun j y hy => by
    obtain ⟨c', g', q1, _⟩ := hcat j y (hlist j y hy)
    exact ⟨_, q1, rfl⟩
  have inS := anc_in sf D.size D.down
  -- what is ahead of i has been, what is behind has not
  have ahead : ∀ (j : Nat), ((ancGo [] ops.toList).getD i 0).testBit j = true → S.getD j false = true := fun j hb => inS (i + 1) i o (by omega) ho hready j hb
  have behind : ∀ (j : Nat) (y : Oper), ops[j]? = some y → ((ancGo [] ops.toList).getD j 0).testBit i = true → S.getD j false = false := by
    intro j y hy hb
    cases hS : S.getD j false with
    | false => rfl
    | true =>
      have := inS (j + 1) j y (by omega) hy (D.down j y hS hy) i hb
      rw [hiS] at this; cases this
  obtain ⟨q, hq, hI, hqE⟩ := D.heap
  -- operands
  have looks : ∀ (t' : Tmp), t' ∈ o.looksAt ops → ∀ (x : Opd), mOf vt (lmAt vt ops i) t' = some x → Rep I w σ (getO (V i) (E i) x) (a.tmps.getD t' undef) := by
    intro t' ht' x hx
    have writers : ∀ (j : Nat) (y : Oper), ops[j]? = some y → y.dst = some t' → (j < i → S.getD j false = true) ∧ (i < j → S.getD j false = false) := by
      intro j y hy hdst
      obtain ⟨d, hd, _⟩ := hcsAt j y hy
      refine ⟨fun hji => ?_, fun hij => ?_⟩
      · rcases (sf.pair j i y o d _ hji hy ho hd hci).2 with h | h
        · exact ahead j h
        · exact absurd ht' ((Oper.apart_spec (apart_at h).1).1 t' hdst)
      · rcases (sf.pair i j o y _ d hij ho hy hci hd).2 with h | h
        · exact behind j y hy h
        · exact absurd ht' ((Oper.apart_spec (apart_at h).1).2.2 t' hdst)
    unfold mOf at hx
    split at hx
    · rename_i k hk
      cases hx
      have hvk := varOf_eq hk
      have hklt : k < vars0.length := by rw [hlen]; exact (List.getElem?_eq_some_iff.1 hvk).1
      by_cases hw : ∃ (j : Nat) (y : Oper), j < i ∧ ops[j]? = some y ∧ y.dst = some t'
      · obtain ⟨j, y, hji, hy, hdst⟩ := hw
        obtain ⟨d, hd, hwr⟩ := hcsAt j y hy
        have : (V i).getD k .junk = R j := by
          refine t.new hd (by rw [hwr, hdst]; exact hk) hklt i (by omega) hji (fun j' c' h1 h2 hc' hw' => ?_)
          have hj'lt : j' < ops.size := by omega
          have hy' : ops[j']? = some ops[j'] := Array.getElem?_eq_getElem hj'lt
          obtain ⟨d', hd', hwr'⟩ := hcsAt j' _ hy'
          rw [hc'] at hd'; cases hd'
          rw [hwr'] at hw'
          obtain ⟨t2, e1, e2⟩ := Option.bind_eq_some_iff.1 hw'
          have e3 := varOf_eq e2
          rw [hvk] at e3; cases e3
          rcases (sf.pair j j' y _ d _ h1 hy hy' hd hc').1 with h | h
          · rw [hdst] at h; cases h
          · exact h (hdst.trans e1.symm)
        show Rep I w σ ((V i).getD k .junk) _
        rw [this]
        exact D.done j y t' hy hdst ((writers j y hy hdst).1 hji)
      · have : (V i).getD k .junk = vars0.getD k .junk := by
          refine t.old i (by omega) (fun j c' hj hc' hw' => hw ?_)
          have hjlt : j < ops.size := by omega
          have hy' : ops[j]? = some ops[j] := Array.getElem?_eq_getElem hjlt
          obtain ⟨d', hd', hwr'⟩ := hcsAt j _ hy'
          rw [hc'] at hd'; cases hd'
          rw [hwr'] at hw'
          obtain ⟨t2, e1, e2⟩ := Option.bind_eq_some_iff.1 hw'
          have e3 := varOf_eq e2
          rw [hvk] at e3; cases e3
          exact ⟨j, _, hj, hy', e1⟩
        show Rep I w σ ((V i).getD k .junk) _
        rw [this]
        refine D.old k t' hvk (fun j y hy hdst => ?_)
        rcases Nat.lt_trichotomy j i with h | h | h
        · exact absurd ⟨j, y, h, hy, hdst⟩ hw
        · subst h; exact hiS
        · exact (writers j y hy hdst).2 h
    · rename_i hn
      obtain ⟨k, hk, rfl⟩ := Option.map_eq_some_iff.1 hx
      obtain ⟨hklt, hp, _⟩ := List.findIdx?_eq_some_iff_getElem.1 hk
      have hget : (lmAt vt ops i)[k]? = some (some t') := by
        rw [List.getElem?_eq_getElem hklt]; simpa using hp
      obtain ⟨d, y, hdi, rfl, hy, hdst⟩ := lmAt_get i k hget
      show Rep I w σ ((E i).getD (i - 1 - d) .junk) _
      rw [t.env i (by omega) d hdi]
      exact D.done d y t' hy hdst ((writers d y hy hdst).1 hdi)
  -- compiled by what it looks at alone
  let m' : Tmp → Option Opd := fun t' => if t' ∈ o.looksAt ops then mOf vt (lmAt vt ops i) t' else none
  have hcomp' : compOp T m' o = some c := by
    rw [← hcomp]
    refine compOp_cong (fun x hx => cO_cong (fun t' ht' => ?_))
    subst ht'
    have : t' ∈ o.looksAt ops := List.mem_append_left _ (List.mem_filterMap.2 ⟨.tmp t', by simpa using hx, rfl⟩)
    simp only [m', if_pos this]
  have hopsok : OpsOk I w σ (V i) (E i) a.eval m' := by
    intro t' y hy
    simp only [m'] at hy
    split at hy
    · rename_i hmem
      exact looks t' hmem y hy
    · cases hy
  have hargs : c.isR = true → ∀ x ∈ c.args, (getO (V i) (E i) x).lt (H q).length = true := by
    intro hR x hx
    rcases compOp_args hcomp' hR x hx with ⟨v, rfl⟩ | ⟨f, rfl⟩ | ⟨t', ht'⟩
    · simp only [getO, ofVal]
      split
      · split
        · rename_i arr harr
          simp only [AV.lt, List.all_eq_true, List.mem_map]
          rintro _ ⟨z, _, rfl⟩; rfl
        · rfl
      · rfl
    · rfl
    · have := (hopsok t' x ht').lt
      rwa [hI.len] at this
  -- the objects behind it
  have heapTo : ∃ q', q' ≤ cs.length ∧ (∀ (r : AV) (h' : List AO), evOp call (V i) (E i) (H i) c = some (r, h') → h' = H (i + 1) → evOp call (V i) (E i) (H q) c = some (r, H q')) ∧ (H (i + 1) = H i → H q' = H q) ∧
      ∀ (e : Nat) (c : CO), cs[e]? = some c → c.op.isE = true → ((S.setIfInBounds i true).getD e false = true ↔ e < q') := by
    by_cases hE : c.isE = true
    · have hlt : ∀ (e : Nat) (d : CO), cs[e]? = some d → d.op.isE = true → (e < i → S.getD e false = true) ∧ (i < e → S.getD e false = false) := by
        intro e d hd hdE
        have hel : e < ops.size := by have := (List.getElem?_eq_some_iff.1 hd).1; omega
        have hy : ops[e]? = some ops[e] := Array.getElem?_eq_getElem hel
        refine ⟨fun hei => ?_, fun hie => ?_⟩
        · rcases (sf.pair e i _ o d _ hei hy ho hd hci).2 with h | h
          · exact ahead e h
          · exact absurd ⟨hdE, hE⟩ (apart_at h).2.1
        · rcases (sf.pair i e o _ _ d hie ho hy hci hd).2 with h | h
          · exact behind e _ hy h
          · exact absurd ⟨hE, hdE⟩ (apart_at h).2.1
      have hqi : q ≤ i := by
        rcases Nat.lt_or_ge i q with h | h
        · have := (hqE i _ hci hE).2 h
          rw [hiS] at this; cases this
        · exact h
      have hHq : H i = H q := t.const i hqi (by omega) (fun e d h1 h2 hd => by
        cases hdE : d.op.isE with
        | false => rfl
        | true =>
          have := (hqE e d hd hdE).1 ((hlt e d hd hdE).1 h2)
          omega)
      refine ⟨i + 1, by omega, fun r h' he hh => by rw [← hHq, he, hh], fun h => by rw [h, hHq], fun e d hd hdE => ?_⟩
      rw [set_getD hilt]
      rcases Nat.lt_trichotomy e i with h | h | h
      · rw [if_neg (by omega)]
        exact ⟨fun _ => by omega, fun _ => (hlt e d hd hdE).1 h⟩
      · rw [if_pos h]; exact ⟨fun _ => by omega, fun _ => rfl⟩
      · rw [if_neg (by omega), (hlt e d hd hdE).2 h]
        exact ⟨fun h => (by cases h), fun _ => by omega⟩
    · simp only [Bool.not_eq_true] at hE
      refine ⟨q, hq, fun r h' he hh => ?_, fun _ => rfl, fun e d hd hdE => ?_⟩
      · have hkeep : H (i + 1) = H i := t.keep hci hE
        rw [hkeep] at hh
        subst hh
        by_cases hR : c.isR = true
        · have down : q ≤ i → evOp call (V i) (E i) (H q) c = some (r, H q) := by
            intro hqi
            have ch : ∀ (p : Nat) (d : CO), q ≤ p → p < i → cs[p]? = some d → d.op.isE = true → exOk aps cs p i d ⟨c, o.dst.bind (varOf vt), g⟩ = true := by
              intro p d h1 h2 hd hdE
              have hpl : p < ops.size := by omega
              have hy : ops[p]? = some ops[p] := Array.getElem?_eq_getElem hpl
              rcases (sf.pair p i _ o d _ h2 hy ho hd hci).2 with h | h
              · have := (hqE p d hd hdE).1 (ahead p h)
                omega
              · exact (apart_at h).2.2.1 hdE hR
            have lens : ∀ p, q ≤ p → p ≤ i → (H q).length ≤ (H p).length := by
              intro p
              induction p with
              | zero => intro h1 _; rw [show q = 0 by omega]; exact Nat.le_refl _
              | succ p ih =>
                intro h1 h2
                by_cases e : q = p + 1
                · rw [e]; exact Nat.le_refl _
                · have := ih (by omega) (by omega)
                  have hd : cs[p]? = some cs[p] := List.getElem?_eq_getElem (by omega)
                  cases hdE : cs[p].op.isE with
                  | false => rw [t.keep hd hdE]; exact this
                  | true => exact Nat.le_trans this (t.change hap hd hci hR (ch p _ (by omega) (by omega) hd hdE)).1
            have steps : ∀ n p, p + n = i → q ≤ p → evOp call (V i) (E i) (H p) c = some (r, H p) := by
              intro n
              induction n with
              | zero => intro p h1 _; rw [show p = i by omega]; exact he
              | succ n ih =>
                intro p h1 h2
                have hnext := ih (p + 1) (by omega) (by omega)
                have hd : cs[p]? = some cs[p] := List.getElem?_eq_getElem (by omega)
                cases hdE : cs[p].op.isE with
                | false => rw [t.keep hd hdE] at hnext; exact hnext
                | true =>
                  exact (t.change hap hd hci hR (ch p _ (by omega) (by omega) hd hdE)).2.1 (H q).length r (lens p h2 (by omega)) (hargs hR) hnext
            exact steps (i - q) q (by omega) (Nat.le_refl _)
          rcases Nat.le_total q i with hqi | hqi
          · exact down hqi
          · have ch : ∀ (p : Nat) (d : CO), i ≤ p → p < q → cs[p]? = some d → d.op.isE = true → exOk aps cs p i d ⟨c, o.dst.bind (varOf vt), g⟩ = true := by
              intro p d h1 h2 hd hdE
              have hpl : p < ops.size := by omega
              have hy : ops[p]? = some ops[p] := Array.getElem?_eq_getElem hpl
              have hip : i < p := by
                rcases Nat.lt_or_ge i p with h | h
                · exact h
                · have : p = i := by omega
                  subst this
                  rw [hci] at hd; cases hd
                  rw [hE] at hdE; cases hdE
              have hSp := (hqE p d hd hdE).2 h2
              rcases (sf.pair i p o _ _ d hip ho hy hci hd).2 with h | h
              · rw [behind p _ hy h] at hSp; cases hSp
              · exact (apart_at h).2.2.2 hR hdE
            have steps : ∀ p, i ≤ p → p ≤ q → evOp call (V i) (E i) (H p) c = some (r, H p) := by
              intro p
              induction p with
              | zero => intro h1 _; rw [show i = 0 by omega] at he ⊢; exact he
              | succ p ih =>
                intro h1 h2
                by_cases e : i = p + 1
                · rw [← e]; exact he
                · have hprev := ih (by omega) (by omega)
                  have hd : cs[p]? = some cs[p] := List.getElem?_eq_getElem (by omega)
                  cases hdE : cs[p].op.isE with
                  | false => rw [t.keep hd hdE]; exact hprev
                  | true => exact (t.change hap hd hci hR (ch p _ (by omega) (by omega) hd hdE)).2.2 r hprev
            exact steps q hqi (Nat.le_refl _)
        · simp only [Bool.not_eq_true] at hR
          exact (ev_plain hE hR he).2 (H q)
      · rw [set_getD hilt]
        by_cases e : e = i
        · subst e
          rw [hci] at hd; cases hd
          rw [hE] at hdE; cases hdE
        · rw [if_neg e]; exact hqE _ d hd hdE
  obtain ⟨q', hq', hrun, hskip, hqE'⟩ := heapTo
  -- the invariant behind it
  have put : ∀ (v : Value) (w1 : World) (I1 : Cells) (σ1 : List Loc), Inv B w0 I1 σ1 w1 (H q') → Step B I σ w I1 σ1 w1 → Rep I1 w1 σ1 (R i) v → DInv B w0 vt nt ops cs vars0 H R (S.setIfInBounds i true) (a.put o.dst v) w1 I1 σ1 := by
    intro v w1 I1 σ1 hI1 st hr
    have hput : ∀ (t' : Tmp), (o.dst = some t' → (a.put o.dst v).tmps.getD t' undef = v) ∧ (o.dst ≠ some t' → (a.put o.dst v).tmps.getD t' undef = a.tmps.getD t' undef) := by
      intro t'
      cases hdd : o.dst with
      | none => exact ⟨fun h => (by cases h), fun _ => rfl⟩
      | some d =>
        rw [hdd] at hdlt
        simp only [Option.all_some, decide_eq_true_eq] at hdlt
        have hd' : d < a.tmps.size := by rw [D.tsize]; exact hdlt
        refine ⟨fun h => ?_, fun h => ?_⟩
        · cases h; rw [put_getD hd', if_pos rfl]
        · rw [put_getD hd', if_neg (fun e => h (by rw [e]))]
    refine ⟨by simp [D.size], fun j y hj hy k hk => ?_, ⟨q', hq', hI1, hqE'⟩, ?_, ?_, fun j y t' hy hdst hj => ?_, fun k t' hk hn => ?_⟩
    · rw [set_getD hilt] at hj ⊢
      split
      · rfl
      · split at hj
        · rename_i e; subst e
          rw [ho] at hy; cases hy
          exact hready k hk
        · exact D.down j y hj hy k hk
    · cases hdd : o.dst <;> simp [Act.put, D.tsize]
    · cases hdd : o.dst <;> simp [Act.put, D.defers]
    · rw [set_getD hilt] at hj
      split at hj
      · rename_i e; subst e
        rw [ho] at hy; cases hy
        rw [(hput t').1 hdst]; exact hr
      · rename_i e
        have hne : o.dst ≠ some t' := by
          intro h
          obtain ⟨d, hd, _⟩ := hcsAt j y hy
          rcases Nat.lt_or_gt_of_ne e with h' | h'
          · rcases (sf.pair j i y o d _ h' hy ho hd hci).1 with h2 | h2
            · rw [hdst] at h2; cases h2
            · exact h2 (hdst.trans h.symm)
          · rcases (sf.pair i j o y _ d h' ho hy hci hd).1 with h2 | h2
            · rw [h] at h2; cases h2
            · exact h2 (h.trans hdst.symm)
        rw [(hput t').2 hne]
        exact (D.done j y t' hy hdst hj).step st
    · have hne : o.dst ≠ some t' := by
        intro h
        have := hn i o ho h
        rw [set_getD hilt, if_pos rfl] at this; cases this
      rw [(hput t').2 hne]
      refine (D.old k t' hk (fun j y hy hdst => ?_)).step st
      have := hn j y hy hdst
      rw [set_getD hilt] at this
      split at this
      · cases this
      · exact this
  -- carried out, or passed over
  have hst := (t.step i _ hci).2.2
  have run : evOp call (V i) (E i) (H i) c = some (R i, H (i + 1)) → Oper.wp P o a w K Q := by
    intro he
    refine op_sound hI hT hcomp' hopsok hcall (hrun _ _ he rfl) ?_
    intro u w1 I1 σ1 hI1 st1 hr1
    exact hK _ _ _ _ (put u w1 I1 σ1 hI1 st1 hr1) st1
  have skip : R i = .v undef → H (i + 1) = H i → K (a.put o.dst undef) w := by
    intro hr hh
    refine hK _ _ I σ (put undef w I σ ?_ (Step.refl _ _ _ _) ?_) (Step.refl _ _ _ _)
    · rw [hskip hh]; exact hI
    · rw [hr]; exact Rep.v _ _
  unfold wpOp
  rw [ho]
  simp only
  cases hg : o.guard with
  | none =>
    rw [hg] at hguard
    simp only [compGuard, Option.some.injEq] at hguard
    subst hguard
    simp only [StepOk] at hst
    rw [if_pos (by simp [Region.wanted, hg])]
    exact .inl (run hst)
  | some gw =>
    obtain ⟨gi, want⟩ := gw
    rw [hg] at hguard
    simp only [compGuard] at hguard
    split at hguard
    · rename_i t' ht'
      obtain ⟨x, hx, rfl⟩ := Option.map_eq_some_iff.1 hguard
      have hmem : t' ∈ o.looksAt ops := by
        unfold Oper.looksAt
        rw [hg]
        refine List.mem_append_right _ ?_
        simp only [ht', Option.toList_some, List.mem_singleton]
      have hrep := looks t' hmem x hx
      have hy : yielded ops a.tmps gi = (match a.tmps.getD t' undef with | .bool b => some b | _ => none) := by
        unfold yielded
        rw [ht']
        simp only [Option.bind_some]
        rw [Array.getD_eq_getD_getElem?]
        cases a.tmps[t']? with
        | none => rfl
        | some z => cases z <;> rfl
      simp only [StepOk] at hst
      rcases hst with ⟨hb, he⟩ | ⟨hb | hb, hr, hh⟩
      · rw [hb] at hrep
        have hbv : a.tmps.getD t' undef = .bool want := by generalize a.tmps.getD t' undef = z at hrep; cases hrep; rfl
        rw [hbv] at hy
        rw [if_pos (by simp [Region.wanted, hg, hy])]
        exact .inl (run he)
      · obtain ⟨b, hb, hne⟩ := hb
        rw [hb] at hrep
        have hbv : a.tmps.getD t' undef = .bool b := by generalize a.tmps.getD t' undef = z at hrep; cases hrep; rfl
        rw [hbv] at hy
        rw [if_neg (by simp [Region.wanted, hg, hy, hne])]
        exact skip hr hh
      · obtain ⟨z, hb⟩ := hb
        rw [hb] at hrep
        have hbv : a.tmps.getD t' undef = .tuple z := by generalize a.tmps.getD t' undef = z' at hrep; cases hrep; rfl
        rw [hbv] at hy
        rw [if_neg (by simp [Region.wanted, hg, hy])]
        exact skip hr hh
    · cases hguard
end
end Go.AE
end

/-! AE, part 27: regions that draw their order. -/
section
set_option linter.unusedVariables false
set_option linter.unusedSimpArgs false
namespace Go.AE
open Go Go.RowKit

theorem countP_lt {p q : Nat → Bool} : ∀ (l : List Nat), (∀ x ∈ l, q x = true → p x = true) → (∃ x ∈ l, p x = true ∧ q x = false) → l.countP q < l.countP p := by
  intro l
  induction l with
  | nil => rintro _ ⟨x, hx, _⟩; simp at hx
  | cons a l ih =>
    rintro h ⟨x, hx, h1, h2⟩
    have hmono : l.countP q ≤ l.countP p := List.countP_mono_left (fun x hx => h x (by simp [hx]))
    simp only [List.countP_cons]
    rcases List.mem_cons.1 hx with rfl | hx
    · rw [h1, h2]; simp; omega
    · have := ih (fun y hy => h y (by simp [hy])) ⟨x, hx, h1, h2⟩
      have ha := h a (by simp)
      cases hq : q a with
      | false => simp; omega
      | true => rw [ha hq]; simp; omega

def left (n : Nat) (S : Array Bool) : Nat := (List.range n).countP fun j => !S.getD j false

section
variable {P : Program} {B : Nat} {w0 w w' : World} {I I' : Cells} {σ σ' : List Loc} {vt : List Tmp} {nt : Nat} {a : Act} {T : Tb} {call : CallF}
  {aps : List (Option Nat × Nat)} {ops : Array Oper} {cs : List CO} {vars0 vars1 : List AV} {h0 h1 : List AO} {V E : Nat → List AV} {H : Nat → List AO} {R : Nat → AV} {S : Array Bool}

theorem all_of_none (sf : SF aps ops cs (ancGo [] ops.toList)) (hs : S.size = ops.size) (hr : Region.ready .any ops S = []) : ∀ n j, j < n → j < ops.size → S.getD j false = true := by
  intro n
  induction n with
  | zero => intro j h; omega
  | succ n ih =>
    intro j hj hlt
    cases hS : S.getD j false with
    | true => rfl
    | false =>
      exfalso
      have ho : ops[j]? = some ops[j] := Array.getElem?_eq_getElem hlt
      have : j ∈ Region.ready .any ops S := by
        simp only [Region.ready, List.mem_filter, List.mem_range, Bool.and_eq_true, Bool.not_eq_true']
        refine ⟨hlt, ?_, ?_⟩
        · rw [Array.getD_eq_getD_getElem?] at hS ⊢
          rw [Array.getElem?_eq_getElem (by omega)] at hS ⊢
          exact hS
        · rw [ho]
          simp only [Option.map_some, Option.getD_some, Array.all_eq_true', Bool.or_eq_true, Bool.not_eq_true']
          intro e he
          cases hb : Region.binds .any e with
          | false => exact .inl rfl
          | true =>
            have hm : e.on ∈ bindsOf ops[j] := by
              simp only [bindsOf, List.mem_map, List.mem_filter]
              exact ⟨e, ⟨by simpa using he, hb⟩, rfl⟩
            have := sf.back j _ ho _ hm
            exact .inr (ih _ (by omega) (by omega))
      rw [hr] at this; simp at this

theorem draw_end (hnd : vt.Nodup) (hvt : ∀ t ∈ vt, t < nt) (hlen : vars0.length = vt.length) (hc : compOps T nt vt ops [] ops.toList = some cs) (sf : SF aps ops cs (ancGo [] ops.toList))
    (t : Trace call cs vars0 [] h0 vars1 h1 V E H R) (D : DInv B w0 vt nt ops cs vars0 H R S a w I σ) (hall : ∀ j, j < ops.size → S.getD j false = true) :
    VOk I w σ vt nt vars1 a ∧ Inv B w0 I σ w h1 := by
  obtain ⟨hclen, hcat⟩ := compOps_at ops.toList 0 cs rfl hc
  have hsz : cs.length = ops.size := by simpa using hclen
  have hcsAt : ∀ (j : Nat) (y : Oper), ops[j]? = some y → ∃ d, cs[j]? = some d ∧ d.wr = y.dst.bind (varOf vt) := fun j y hy => by
    obtain ⟨c', g', q1, _⟩ := hcat j y (by simpa using hy)
    exact ⟨_, q1, rfl⟩
  obtain ⟨q, hq, hI, hqE⟩ := D.heap
  have hH : h1 = H q := by
    rw [← t.h1]
    refine t.const cs.length hq (Nat.le_refl _) (fun e d he1 he2 hd => ?_)
    cases hdE : d.op.isE with
    | false => rfl
    | true => have := (hqE e d hd hdE).1 (hall e (by omega)); omega
  refine ⟨⟨by rw [← t.v1, t.len _ (Nat.le_refl _), hlen], D.tsize, D.defers, hnd, hvt, fun k t' v hk hv => ?_⟩, by rw [hH]; exact hI⟩
  have hklt : k < vars0.length := by rw [hlen]; exact (List.getElem?_eq_some_iff.1 hk).1
  have hvd : v = (V cs.length).getD k .junk := by rw [t.v1, List.getD_eq_getElem?_getD, hv]; rfl
  rw [hvd]
  by_cases hw : ∃ (j : Nat) (y : Oper), ops[j]? = some y ∧ y.dst = some t'
  · obtain ⟨j, y, hy, hdst⟩ := hw
    have hjlt : j < ops.size := (Array.getElem?_eq_some_iff.1 hy).1
    obtain ⟨d, hd, hwr⟩ := hcsAt j y hy
    have : (V cs.length).getD k .junk = R j := by
      refine t.new hd (by rw [hwr, hdst]; exact varOf_some hnd hk) hklt _ (Nat.le_refl _) (by omega) (fun j' c' g1 g2 hc' hw' => ?_)
      have hy' : ops[j']? = some ops[j'] := Array.getElem?_eq_getElem (by omega)
      obtain ⟨d', hd', hwr'⟩ := hcsAt j' _ hy'
      rw [hc'] at hd'; cases hd'
      rw [hwr'] at hw'
      obtain ⟨t2, e1, e2⟩ := Option.bind_eq_some_iff.1 hw'
      have e3 := varOf_eq e2
      rw [hk] at e3; cases e3
      rcases (sf.pair j j' y _ d _ g1 hy hy' hd hc').1 with h | h
      · rw [hdst] at h; cases h
      · exact h (hdst.trans e1.symm)
    rw [this]
    exact D.done j y t' hy hdst (hall j hjlt)
  · have : (V cs.length).getD k .junk = vars0.getD k .junk := by
      refine t.old _ (Nat.le_refl _) (fun j c' hj hc' hw' => hw ?_)
      have hy' : ops[j]? = some ops[j] := Array.getElem?_eq_getElem (by omega)
      obtain ⟨d', hd', hwr'⟩ := hcsAt j _ hy'
      rw [hc'] at hd'; cases hd'
      rw [hwr'] at hw'
      obtain ⟨t2, e1, e2⟩ := Option.bind_eq_some_iff.1 hw'
      have e3 := varOf_eq e2
      rw [hk] at e3; cases e3
      exact ⟨j, _, hy', e1⟩
    rw [this]
    exact D.old k t' hk (fun j y hy hdst => absurd ⟨j, y, hy, hdst⟩ hw)

theorem draw_any (hT : TbOk P T) (hcall : CallOk P B w0 call) (hnd : vt.Nodup) (hvt : ∀ t ∈ vt, t < nt) (hlen : vars0.length = vt.length) (hc : compOps T nt vt ops [] ops.toList = some cs) (sf : SF aps ops cs (ancGo [] ops.toList))
    (hap : aps.all (apB vars0) = true) (t : Trace call cs vars0 [] h0 vars1 h1 V E H R) {Q : Exit → Act → World → Prop} {I0 : Cells} {σ0 : List Loc} {wa : World}
    (hQ : ∀ a' w' I' σ', VOk I' w' σ' vt nt vars1 a' → Inv B w0 I' σ' w' h1 → Step B I0 σ0 wa I' σ' w' → Q .normal a' w') :
    ∀ (fuel : Nat) (S : Array Bool) (a : Act) (w : World) (I : Cells) (σ : List Loc), DInv B w0 vt nt ops cs vars0 H R S a w I σ → Step B I0 σ0 wa I σ w → left ops.size S ≤ fuel → wpAny P .any ops Q fuel S a w := by
  intro fuel
  induction fuel with
  | zero =>
    intro S a w I σ D st hl
    have hall : ∀ j, j < ops.size → S.getD j false = true := by
      intro j hj
      have h0 : left ops.size S = 0 := by omega
      have := List.countP_eq_zero.1 h0 j (by simpa using hj)
      simpa using this
    refine ⟨?_, ?_⟩
    · rw [List.eq_nil_iff_forall_not_mem]
      intro i hi
      obtain ⟨o, ho, h1, h2, _⟩ := ready_iff D.size hi
      rw [hall i (by rw [← D.size]; exact h1)] at h2; cases h2
    · obtain ⟨q1, q2⟩ := draw_end hnd hvt hlen hc sf t D hall
      exact hQ a w I σ q1 q2 st
  | succ fuel ih =>
    intro S a w I σ D st hl
    refine ⟨fun hr => ?_, fun i hi => ?_⟩
    · obtain ⟨q1, q2⟩ := draw_end hnd hvt hlen hc sf t D (fun j hj => all_of_none sf D.size hr (j + 1) j (by omega) hj)
      exact hQ a w I σ q1 q2 st
    · refine draw_step hT hcall hnd hvt hlen hc sf hap t D hi (fun a' w' I' σ' D' st' => ih _ a' w' I' σ' D' (st.trans st') ?_)
      obtain ⟨o, ho, g1, g2, _⟩ := ready_iff D.size hi
      have : left ops.size (S.setIfInBounds i true) < left ops.size S := by
        refine countP_lt _ (fun x _ hx => ?_) ⟨i, by simpa [D.size] using (show i < ops.size by rw [← D.size]; exact g1), by simp [g2], by rw [set_getD g1, if_pos rfl]; rfl⟩
        rw [set_getD g1] at hx
        split at hx
        · cases hx
        · exact hx
      omega
end

/-- A region whose order the check lets be drawn ends as one in the order of the text. -/
theorem draw_ok {P : Program} (hm : P.follows .mixedOrders = true) {T : Tb} (hT : TbOk P T) (nt : Nat) (vt : List Tmp) : DrawOk P T nt vt drawOk := by
  intro B w0 call hcall id aps ops cs hc hd w I σ h h' vars vars' a Q hI hv hap he hQ
  obtain ⟨V, E, H, R, t⟩ := trace_of cs vars [] h vars' h' he
  have sf := sf_of hd
  refine wp_region_any hm ?_
  have hbel : Below B w { w with drawn := w.drawn + 1 } := ⟨rfl, rfl, rfl, Nat.le_refl _, fun _ _ => rfl⟩
  have hext : Ext I w I { w with drawn := w.drawn + 1 } := ⟨fun b x h => h, fun _ _ _ => rfl⟩
  have hst : Step B I σ w I σ { w with drawn := w.drawn + 1 } := ⟨hext, Later.refl _, fun _ _ h => .inl h, Nat.le_refl _⟩
  have hI2 : Inv B w0 I σ { w with drawn := w.drawn + 1 } h := hI.same hbel hext (fun b x hb => hI.imm b x hb) (fun j Lj _ _ => ⟨rfl, fun _ h => h⟩)
  have hv2 := hv.step hst
  have hS : ∀ j, (Array.replicate ops.size false).getD j false = false := by
    intro j
    rw [Array.getD_eq_getD_getElem?, Array.getElem?_replicate]
    split <;> rfl
  refine draw_any hT hcall hv.nodup hv.lt hv.len hc sf hap t hQ ops.size _ _ _ I σ ?_ hst ?_
  · refine ⟨by simp, fun j y hj => ?_, ⟨0, Nat.zero_le _, by rw [t.h0]; exact hI2, fun e c _ _ => ?_⟩, hv.size, hv.defers, fun j y t' _ _ hj => ?_, fun k t' hk _ => ?_⟩
    · rw [hS] at hj; cases hj
    · rw [hS]; exact ⟨fun h => (by cases h), fun h => absurd h (Nat.not_lt_zero _)⟩
    · rw [hS] at hj; cases hj
    · have hlt : k < vars.length := by rw [hv.len]; exact (List.getElem?_eq_some_iff.1 hk).1
      exact hv2.rep k t' _ hk (by rw [List.getD_eq_getElem?_getD, List.getElem?_eq_getElem hlt]; rfl)
  · have := List.countP_le_length (p := fun j => !(Array.replicate ops.size false).getD j false) (l := List.range ops.size)
    simpa [left] using this
end Go.AE
end

/-! AE, part 22: functions and calls. -/
section
set_option linter.unusedVariables false
set_option linter.unusedSimpArgs false
namespace Go.AE
open Go Go.RowKit

def compRes (T : Tb) (vt : List Tmp) : ResultVar → Option CRes
  | .tmp t => (varOf vt t).map .var
  | .cell t ty => match T.ty ty, varOf vt t with
    | some i, some j => some (.cell j i.agg i.size)
    | _, _ => none

def compFun (T : Tb) (H : Hints) (vt : List Tmp) (fn : Func) : Option CFun :=
  if vt.take (fn.params.size + fn.nfree) = List.range (fn.params.size + fn.nfree) ∧ vt.Nodup ∧ (vt.all fun t => decide (t < fn.ntmps)) = true ∧ (fn.params.size + fn.nfree) ≤ fn.ntmps then
    match fn.body with
    | some c => match compCode T fn.ntmps vt H drawOk 0 c, fn.results.toList.mapM (compRes T vt) with
      | some cc, some rs => some ⟨(fn.params.size + fn.nfree), vt.length, cc, rs⟩
      | _, _ => none
    | none => none
  else none

/-- Hints told by lists. -/
def Hints.of (rm : List (Nat × List Mark)) (ap : List (Nat × List (Option Nat × Nat))) (lk : List (Nat × List Bool × List Mark)) : Hints :=
  ⟨fun id => (rm.lookup id).getD [], fun id => (ap.lookup id).getD [], fun id => (lk.lookup id).getD ([], [])⟩

theorem tiok_of {P : Program} {t : TypeId} {i : TI} (h1 : (P.info? t).map (fun x => (x.size, x.bytes, x.zero)) = some (i.size, i.bytes, some i.zero)) (h2 : P.underlying t = some i.desc)
    (h5 : (match i.desc with
      | .struct fs => !flatB P fs || (!P.stoodInHeld t && !P.eqGuardType P.depth t)
      | _ => true) = true := by kernel_rfl) : TIok P t i := by
  obtain ⟨inf, h3, h4⟩ := Option.map_eq_some_iff.1 h1
  simp only [Prod.mk.injEq] at h4
  refine ⟨⟨inf, h3, h4.1, h4.2.1, h4.2.2⟩, h2, fun fs hfs hb => ?_⟩
  rw [hfs] at h5
  simp only [hb, Bool.not_true, Bool.false_or, Bool.and_eq_true, Bool.not_eq_true'] at h5
  exact h5
theorem tbok_of {P : Program} {l : List (TypeId × TI)} {q : FuncId → Bool} {lits : TypeId → Bool} {z : FuncId → Bool} (h : ∀ p ∈ l, TIok P p.1 p.2) : TbOk P ⟨fun t => l.lookup t, q, lits, z⟩ := by
  intro t i hti
  simp only at hti
  induction l with
  | nil => simp at hti
  | cons p l ih =>
    obtain ⟨a, b⟩ := p
    rw [List.lookup_cons] at hti
    split at hti
    · rename_i e
      cases hti
      have : t = a := by simpa using e
      subst this
      exact h (t, i) (by simp)
    · exact ih (fun p hp => h p (by simp [hp])) hti

/-- A function is compiled to this. -/
structure CodeOk (P : Program) (T : Tb) (f : FuncId) (c : CFun) : Prop where
  ok : ∃ (fn : Func) (H : Hints) (vt : List Tmp), P.funcs[f]? = some fn ∧ compFun T H vt fn = some c ∧ (fn.name == "runtime.NumGoroutine") = false

section
variable {P : Program} {B : Nat} {w0 w w' : World} {I I' : Cells} {σ σ' : List Loc} {h : List AO} {vt : List Tmp} {nt : Nat} {vars env : List AV} {lm : List (Option Tmp)} {a : Act}

theorem enter_of {f : FuncId} {fn : Func} {c : Code} (hf : P.funcs[f]? = some fn) (hb : fn.body = some c) (hn : (fn.name == "runtime.NumGoroutine") = false) (vals : Array Value) (w : World) : (callFunc f vals).run P w = .ok (.enter f vals) w := by
  have hn' : ¬ fn.name = "runtime.NumGoroutine" := by simpa using hn
  simp [callFunc, hf, hb, hn']

/-- The results of a function. -/
theorem results_ok (hI : Inv B w0 I σ w h) (hv : VOk I w σ vt nt vars a) {T : Tb} (hT : TbOk P T) {fn : Func} {cs : List CRes} (hc : fn.results.toList.mapM (compRes T vt) = some cs) {rs : List AV} (hr : cs.mapM (resOf vars h) = some rs) :
    ∃ v, (results fn a.tmps).run P w = .ok v w ∧ Rep I w σ (pack rs) v := by
  have key : ∀ (l : List ResultVar) (cs : List CRes) (rs : List AV), l.mapM (compRes T vt) = some cs → cs.mapM (resOf vars h) = some rs →
      ∃ vs : List Value, (l.mapM fun r => (match r with
        | .tmp t => pure (a.tmps.getD t undef)
        | .cell b t => do loadVar t (← asAddr (a.tmps.getD b undef)) : Sem Value)).run P w = .ok vs w ∧ vs.length = rs.length ∧ ∀ (i : Nat) (r : AV), rs[i]? = some r → ∃ v, vs[i]? = some v ∧ Rep I w σ r v := by
    intro l
    induction l with
    | nil =>
      intro cs rs h1 h2
      simp at h1; subst h1
      simp at h2; subst h2
      exact ⟨[], rfl, rfl, fun i r h => by simp at h⟩
    | cons x l ih =>
      intro cs rs h1 h2
      simp only [List.mapM_cons, Option.bind_eq_bind, Option.bind_eq_some_iff, Option.pure_def, Option.some.injEq] at h1
      obtain ⟨c, hc1, cs', hcs', rfl⟩ := h1
      simp only [List.mapM_cons, Option.bind_eq_bind, Option.bind_eq_some_iff, Option.pure_def, Option.some.injEq] at h2
      obtain ⟨r, hr1, rs', hrs', rfl⟩ := h2
      obtain ⟨vs, g1, g2, g3⟩ := ih cs' rs' hcs' hrs'
      have one : ∃ v, ((match x with
        | .tmp t => pure (a.tmps.getD t undef)
        | .cell b t => do loadVar t (← asAddr (a.tmps.getD b undef)) : Sem Value)).run P w = .ok v w ∧ Rep I w σ r v := by
        cases x with
        | tmp t =>
          simp only [compRes, Option.map_eq_some_iff] at hc1
          obtain ⟨i, hi, rfl⟩ := hc1
          simp only [resOf, Option.some.injEq] at hr1
          subst hr1
          have h1 := varOf_eq hi
          have hlt := (List.getElem?_eq_some_iff.1 h1).1
          have h2 : vars[i]? = some (vars.getD i .junk) := by
            rw [List.getD_eq_getElem?_getD, List.getElem?_eq_getElem (by rw [hv.len]; exact hlt)]; rfl
          exact ⟨_, rfl, hv.rep i t _ h1 h2⟩
        | cell b ty =>
          simp only [compRes] at hc1
          split at hc1
          · rename_i i j hi hj
            cases hc1
            simp only [resOf] at hr1
            have h1 := varOf_eq hj
            have hlt := (List.getElem?_eq_some_iff.1 h1).1
            have h2 : vars[j]? = some (vars.getD j .junk) := by
              rw [List.getD_eq_getElem?_getD, List.getElem?_eq_getElem (by rw [hv.len]; exact hlt)]; rfl
            obtain ⟨v, q1, q2⟩ := run_load_rep (P := P) hI (hT _ _ hi) (hv.rep j b _ h1 h2) hr1
            refine ⟨v, ?_, q2⟩
            have hz : ∀ z : Value, (Instr.loadAt ty z).run P w = .ok v w → (do loadVar ty (← asAddr z) : Sem Value).run P w = .ok v w := by
              intro z q
              cases z with
              | pointer p =>
                cases p with
                | some ad => simpa [Instr.loadAt, Instr.sureAddr, asAddr] using q
                | none => simp [Instr.loadAt, Instr.sureAddr] at q
              | _ => simp [Instr.loadAt, Instr.sureAddr] at q
            exact hz _ q1
          · cases hc1
      obtain ⟨v, q1, q2⟩ := one
      refine ⟨v :: vs, ?_, by simp [g2], fun i r h => ?_⟩
      · simp only [List.mapM_cons, Sem.run_bind, q1, Result.andThen_ok, g1, Sem.run_pure]
      · cases i with
        | zero => simp at h; subst h; exact ⟨v, rfl, q2⟩
        | succ i => simpa using g3 i r (by simpa using h)
  obtain ⟨vs, g1, g2, g3⟩ := key fn.results.toList cs rs hc hr
  have hrun : (results fn a.tmps).run P w = .ok (if hh : vs.toArray.size = 1 then vs.toArray[0] else .tuple vs.toArray) w := by
    unfold results
    rw [← Array.toArray_toList (xs := fn.results), List.mapM_toArray]
    simp only [Sem.run_bind, Sem.run_map, Sem.run_pure]
    exact congrArg (fun r => (Result.andThen (Result.andThen r fun (a : List Value) w' => Result.ok a.toArray w') fun a w' => Result.ok (if h : a.size = 1 then a[0] else Value.tuple a) w')) g1
  refine ⟨_, hrun, ?_⟩
  unfold pack
  split
  · rename_i x
    simp only [List.length_cons, List.length_nil] at g2
    obtain ⟨v, hv1, hv2⟩ := g3 0 x rfl
    have : vs = [v] := by
      match vs, g2, hv1 with
      | [u], _, hv1 => simp at hv1; subst hv1; rfl
    subst this
    exact hv2
  · rename_i hne
    have hlen : ¬ vs.toArray.size = 1 := by
      intro e
      simp only [List.size_toArray] at e
      match rs, hne, g2 with
      | [x], hne, _ => exact hne x rfl
      | [], _, g2 => simp only [List.length_nil] at g2; omega
      | _ :: _ :: _, _, g2 => simp only [List.length_cons] at g2; omega
    rw [dif_neg hlen]
    refine .tup σ rs vs.toArray (by simp [g2]) (fun i r hi => ?_)
    obtain ⟨v, hv1, hv2⟩ := g3 i r hi
    have : vs.toArray[i]? = some v := by simpa using hv1
    rw [getD_get this]; exact hv2

/-- A function's body, from its arguments to its end. -/
theorem body_ok (hm : P.follows .mixedOrders = true) {T : Tb} (hT : TbOk P T) {call : CallF} (hcall : CallOk P B w0 call) {f : FuncId} {c : CFun} (hf : CodeOk P T f c) {args : List AV} {vals : Array Value} (ha : ArgsRep I w σ args vals) (hn : args.length = c.np) (hI : Inv B w0 I σ w h)
    {fuel : Nat} {x : AXit} {vars' : List AV} {h' : List AO} (he : exec call fuel c.body (start c args) h = some (x, vars', h')) (hx : x = .normal ∨ x = .ret) {rs : List AV} (hr : c.res.mapM (resOf vars' h') = some rs) {R : Ending → World → Prop}
    (hR : ∀ v w' I' σ', Inv B w0 I' σ' w' h' → Step B I σ w I' σ' w' → Rep I' w' σ' (pack rs) v → R (.returned v) w') : Calls P f vals w R := by
  obtain ⟨fn, H, vt, h1, h2, h4⟩ := hf.ok
  unfold compFun at h2
  split at h2
  · rename_i hcond
    obtain ⟨c1, c2, c3, c4⟩ := hcond
    split at h2
    · rename_i code hb
      split at h2
      · rename_i cc rs' hcc hrs
        cases h2
        simp only at hn he hr
        have hsz : vals.size = (fn.params.size + fn.nfree) := by rw [ha.size, hn]
        have hvl : vt.length ≥ (fn.params.size + fn.nfree) := by
          have := congrArg List.length c1
          simp at this; omega
        have hv0 : VOk I w σ vt fn.ntmps (start ⟨(fn.params.size + fn.nfree), vt.length, cc, rs'⟩ args) { tmps := vals ++ Array.replicate (fn.ntmps - vals.size) undef, defers := [] } := by
          refine ⟨by simp [start, hn]; omega, by simp [hsz]; omega, rfl, c2, fun t ht => by simpa using List.all_eq_true.1 c3 t ht, fun i t v g1 g2 => ?_⟩
          have par : ∀ j, j < (fn.params.size + fn.nfree) → vt[j]? = some j := by
            intro j hj
            have : (vt.take (fn.params.size + fn.nfree))[j]? = some j := by rw [c1]; simp [hj]
            rwa [List.getElem?_take_of_lt hj] at this
          simp only [start] at g2
          by_cases hi : i < args.length
          · rw [List.getElem?_append_left hi] at g2
            have hti : t = i := by
              have := par i (by omega)
              rw [this] at g1; exact (Option.some.inj g1).symm
            subst hti
            rw [getD_left (by omega)]
            exact ha.rep _ v g2
          · rw [List.getElem?_append_right (by omega), List.getElem?_replicate] at g2
            split at g2
            · cases g2
              have hlt := (List.getElem?_eq_some_iff.1 g1).1
              have htn : (fn.params.size + fn.nfree) ≤ t := by
                rcases Nat.lt_or_ge t (fn.params.size + fn.nfree) with hlt' | hge
                · have g3 := par t hlt'
                  obtain ⟨l1, e1⟩ := List.getElem?_eq_some_iff.1 g1
                  obtain ⟨l2, e2⟩ := List.getElem?_eq_some_iff.1 g3
                  have := (List.getElem_inj c2).1 (e1.trans e2.symm)
                  omega
                · exact hge
              have htl : @LT.lt Nat _ t fn.ntmps := by simpa using List.all_eq_true.1 c3 t (List.mem_of_getElem? g1)
              rw [getD_right (by omega), Array.getD_eq_getD_getElem?]
              have : (Array.replicate (fn.ntmps - vals.size) undef)[t - vals.size]? = some undef := by
                rw [Array.getElem?_replicate, if_pos (by omega)]
              rw [this]
              exact .v _ _
            · cases g2
        refine calls_of_wp h1 hb ?_
        refine exec_sound hT (draw_ok hm hT _ _) hcall fuel code 0 cc hcc _ _ _ _ _ I σ w _ _ he hv0 hI (fun a' w' I' σ' q1 q2 q3 => ?_)
        obtain ⟨v, r1, r2⟩ := results_ok (P := P) q2 q1 hT hrs hr
        rcases hx with rfl | rfl
        · exact ⟨q1.defers, v, r1, hR v w' I' σ' q2 q3 r2⟩
        · exact ⟨q1.defers, v, r1, hR v w' I' σ' q2 q3 r2⟩
      · cases h2
    · cases h2
  · cases h2

theorem CodeOk.enter {T : Tb} {f : FuncId} {c : CFun} (hf : CodeOk P T f c) (vals : Array Value) (w : World) : (callFunc f vals).run P w = .ok (.enter f vals) w := by
  obtain ⟨fn, H, vt, h1, h2, h4⟩ := hf.ok
  unfold compFun at h2
  split at h2
  · split at h2
    · rename_i code hb
      exact enter_of h1 hb h4 vals w
    · cases h2
  · cases h2

/-- What an entry of the table of functions has to be. -/
def EntryOk (P : Program) (T : Tb) (B : Nat) (w0 : World) (f : FuncId) : FEntry → Prop
  | .code c => CodeOk P T f c
  | .keep c => CodeOk P T f c
  | .pcode c => CodeOk P T f c
  | .oracle g => ∀ args h r h', g args h = some (r, h') → (∀ (vals : Array Value) (w : World), (callFunc f vals).run P w = .ok (.enter f vals) w) ∧
      ∀ I σ w (vals : Array Value), Inv B w0 I σ w h → ArgsRep I w σ args vals → Calls P f vals w (Ends B w0 I σ w r h')
/-- an entry that asks nothing of the world -/
theorem oracle_any {P : Program} {T : Tb} {B : Nat} {w0 : World} {f : FuncId} {g : List AV → List AO → Option (AV × List AO)} (hg : ∀ args h r h', g args h = some (r, h') → (∀ (vals : Array Value) (w : World), (callFunc f vals).run P w = .ok (.enter f vals) w) ∧
      ∀ B w0 I σ w (vals : Array Value), Inv B w0 I σ w h → ArgsRep I w σ args vals → Calls P f vals w (Ends B w0 I σ w r h')) : EntryOk P T B w0 f (.oracle g) :=
  fun args h r h' he => ⟨(hg args h r h' he).1, (hg args h r h' he).2 B w0⟩

theorem entries_of {P : Program} {T : Tb} {B : Nat} {w0 : World} {l : List (FuncId × FEntry)} (h : ∀ p ∈ l, EntryOk P T B w0 p.1 p.2) : ∀ f e, l.lookup f = some e → EntryOk P T B w0 f e := by
  intro f e hl
  induction l with
  | nil => simp at hl
  | cons p l ih =>
    obtain ⟨a, b⟩ := p
    rw [List.lookup_cons] at hl
    split at hl
    · rename_i ee
      cases hl
      have : f = a := by simpa using ee
      subst this
      exact h (f, e) (by simp)
    · exact ih (fun p hp => h p (by simp [hp])) hl

theorem leave_cases {n0 : Nat} {c : CFun} {run : CRun} {r : AV} {h' : List AO} (hl : leave n0 c run = some (r, h')) :
    ∃ x vars hh rs, run = some (x, vars, hh) ∧ (x = .normal ∨ x = .ret) ∧ c.res.mapM (resOf vars hh) = some rs ∧ (pack rs).frz2 n0 hh = some r ∧ n0 ≤ hh.length ∧ (hh.take n0).all (AO.below n0) = true ∧ h' = hh.take n0 := by
  have key : ∀ (vars : List AV) (hh : List AO), (match (c.res.mapM (resOf vars hh)).bind fun rs => (pack rs).frz2 n0 hh with
      | some r => if n0 ≤ hh.length ∧ (hh.take n0).all (AO.below n0) = true then some (r, hh.take n0) else none
      | none => none) = some (r, h') → ∃ rs, c.res.mapM (resOf vars hh) = some rs ∧ (pack rs).frz2 n0 hh = some r ∧ n0 ≤ hh.length ∧ (hh.take n0).all (AO.below n0) = true ∧ h' = hh.take n0 := by
    intro vars hh he
    split at he
    · rename_i r' hb
      obtain ⟨rs, h1, h2⟩ := Option.bind_eq_some_iff.1 hb
      split at he
      · rename_i hc
        cases he
        exact ⟨rs, h1, h2, hc.1, hc.2, rfl⟩
      · cases he
    · cases he
  unfold leave at hl
  split at hl
  · rename_i vars hh
    obtain ⟨rs, h1⟩ := key vars hh hl
    exact ⟨.normal, vars, hh, rs, rfl, .inl rfl, h1⟩
  · rename_i vars hh
    obtain ⟨rs, h1⟩ := key vars hh hl
    exact ⟨.ret, vars, hh, rs, rfl, .inr rfl, h1⟩
  · cases hl

theorem keep_cases {c : CFun} {run : CRun} {r : AV} {h' : List AO} (hl : leaveKeep c run = some (r, h')) :
    ∃ x vars hh rs, run = some (x, vars, hh) ∧ (x = .normal ∨ x = .ret) ∧ c.res.mapM (resOf vars hh) = some rs ∧ r = pack rs ∧ h' = hh := by
  unfold leaveKeep at hl
  split at hl
  · rename_i vars hh
    obtain ⟨rs, h1, h2⟩ := Option.map_eq_some_iff.1 hl
    cases h2
    exact ⟨.normal, vars, _, rs, rfl, .inl rfl, h1, rfl, rfl⟩
  · rename_i vars hh
    obtain ⟨rs, h1, h2⟩ := Option.map_eq_some_iff.1 hl
    cases h2
    exact ⟨.ret, vars, _, rs, rfl, .inr rfl, h1, rfl, rfl⟩
  · cases hl

/-- What is known of the worlds in which calls begin, and holds on. -/
def Holds (K : Nat → World → Prop) : Prop := ∀ B w0 I σ w h, K B w0 → Inv B w0 I σ w h → K w.heap.size w

theorem callN_ok (hm : P.follows .mixedOrders = true) {T : Tb} (hT : TbOk P T) {F : FuncId → Option FEntry} {K : Nat → World → Prop} (hKs : Holds K) (hF : ∀ B w0, K B w0 → ∀ f e, F f = some e → EntryOk P T B w0 f e) : ∀ n B w0, K B w0 → CallOk P B w0 (callN F n) := by
  intro n
  induction n with
  | zero => intro B w0 hK; exact ⟨fun f args h r h' he => by simp [callN] at he, fun f args h r h' he => by simp [callN] at he, fun f args r he => by simp [callN] at he⟩
  | succ n ih =>
    have ent : ∀ B w0, K B w0 → ∀ f args h r h', callN F (n + 1) f args h = some (r, h') → ∀ (vals : Array Value) (w : World), (callFunc f vals).run P w = .ok (.enter f vals) w := by
      intro B w0 hK f args h r h' he vals w
      simp only [callN] at he
      split at he
      · rename_i c hf; exact CodeOk.enter (hF B w0 hK f _ hf) vals w
      · rename_i c hf; exact CodeOk.enter (hF B w0 hK f _ hf) vals w
      · rename_i c hf; exact CodeOk.enter (hF B w0 hK f _ hf) vals w
      · rename_i g hf; exact (hF B w0 hK f _ hf args h r h' he).1 vals w
      · cases he
    have cal : ∀ B w0, K B w0 → ∀ f args h r h', callN F (n + 1) f args h = some (r, h') → ∀ I σ w (vals : Array Value), Inv B w0 I σ w h → ArgsRep I w σ args vals → Calls P f vals w (Ends B w0 I σ w r h') := by
      intro B w0 hK f args h r h' he I σ w vals hI ha
      simp only [callN] at he
      split at he
      · rename_i c hf
        split at he
        · rename_i hlen
          obtain ⟨x, vars, hh, rs, e1, e2, e3, e4, e5, e6, rfl⟩ := leave_cases he
          refine body_ok hm hT (ih B w0 hK) (hF B w0 hK f _ hf) ha hlen hI e1 e2 e3 (fun v w' I' σ' q1 q2 q3 => ?_)
          exact ⟨v, _, _, rfl, q1.leave e5 e6, gone_step q1 q2 hI.len, q3.frz2 q1 e4⟩
        · cases he
      · rename_i c hf
        split at he
        · rename_i hlen
          obtain ⟨x, vars, hh, rs, e1, e2, e3, rfl, rfl⟩ := keep_cases he
          exact body_ok hm hT (ih B w0 hK) (hF B w0 hK f _ hf) ha hlen hI e1 e2 e3 (fun v w' I' σ' q1 q2 q3 => ⟨v, _, _, rfl, q1, q2, q3⟩)
        · cases he
      · rename_i c hf
        split at he
        · rename_i as has
          split at he
          · rename_i hlen
            split at he
            · rename_i r' hl
              cases he
              obtain ⟨x, vars, hh, rs, e1, e2, e3, e4, e5, e6, e7⟩ := leave_cases hl
              have hI0 := inv_none hI
              refine (body_ok (R := Ends w.heap.size w I [] w r []) hm hT (ih w.heap.size w (hKs B w0 I σ w h hK hI)) (hF B w0 hK f _ hf) (args_snap hI ha has) hlen hI0 e1 e2 e3 (fun v w' I' σ' q1 q2 q3 => ?_)).mono (fun e w' he => ends_conv hI he)
              have q1' := q1.leave e5 e6
              rw [← e7] at q1'
              exact ⟨v, _, _, rfl, q1', gone_step q1 q2 hI0.len, q3.frz2 q1 e4⟩
            · cases he
          · cases he
        · cases he
      · rename_i g hf
        exact (hF B w0 hK f _ hf args h r h' he).2 I σ w vals hI ha
      · cases he
    intro B w0 hK
    exact ⟨ent B w0 hK, cal B w0 hK, fun f args r he I σ w h vals hI hI0 ha => cal w.heap.size w (hKs B w0 I σ w h hK hI) f args [] r [] he I [] w vals hI0 ha⟩
/-- where nothing need be known -/
theorem holds_true : Holds fun _ _ => True := fun _ _ _ _ _ _ _ _ => trivial
end
end Go.AE
end

/-! AE, part 29: what comes in, read. -/
section
set_option linter.unusedVariables false
set_option linter.unusedSimpArgs false
namespace Go.AE
open Go Go.RowKit

/-- Cells of a type. -/
inductive WT (T : Tb) : TypeId → List AV → Prop
  | bool (t : TypeId) (i : TI) (b : Bool) (ht : T.ty t = some i) (hd : i.desc = .bool) : WT T t [.v (.bool b)]
  | int (t : TypeId) (i : TI) (k : IntKind) (n : Int) (ht : T.ty t = some i) (hd : i.desc = .int k) (hw : (Lit.int k n).wf = true) : WT T t [.v (.int k n)]
  | str (t : TypeId) (i : TI) (s : ByteArray) (ht : T.ty t = some i) (hd : i.desc = .string) (hs : s.size ≤ maxLen) : WT T t [.v (.string s)]
  | nil (t : TypeId) (i : TI) (e : TypeId) (ht : T.ty t = some i) (hd : i.desc = .slice e) : WT T t [.v (.slice none 0 0)]
  | slc (t : TypeId) (i : TI) (e : TypeId) (j : TI) (l : List AV) (ht : T.ty t = some i) (hd : i.desc = .slice e) (he : T.ty e = some j) (hl : l.length ≤ maxLen)
      (hel : ∀ el ∈ l, WT T e el.cells) (has : ∀ el ∈ l, asEl j.agg el.cells = some el) : WT T t [.slc j.size false true l]
  | struct (t : TypeId) (i : TI) (fs : Array Field) (as : List (List AV)) (ht : T.ty t = some i) (hd : i.desc = .struct fs) (hlen : as.length = fs.size)
      (hf : ∀ (k : Nat) (f : Field) (a : List AV), fs[k]? = some f → as[k]? = some a → WT T f.type a) : WT T t as.flatten

def layB (T : Tb) (G : List TypeId) : Nat → List Field → Nat → Bool
  | off, [], total => off == total
  | off, f :: r, total => f.offset == off && G.contains f.type && (match T.ty f.type with
    | some j => layB T G (off + j.size) r total
    | none => false)
def goodB (T : Tb) (G : List TypeId) : Bool := G.all fun t => match T.ty t with
  | some i => (match i.desc with
    | .bool | .int _ | .string => i.size == 1
    | .slice e => i.size == 1 && G.contains e && (match T.ty e with
      | some j => decide (0 < j.size) && (j.agg || j.size == 1)
      | none => false)
    | .struct fs => layB T G 0 fs.toList i.size
    | _ => false)
  | none => false

theorem layB_le {T : Tb} {G : List TypeId} : ∀ {fs : List Field} {off total : Nat}, layB T G off fs total = true → off ≤ total := by
  intro fs
  induction fs with
  | nil => intro off total h; simp [layB] at h; omega
  | cons f r ih =>
    intro off total h
    simp only [layB, Bool.and_eq_true] at h
    obtain ⟨_, h⟩ := h
    split at h
    · have := ih h; omega
    · cases h

/-- All cells that are there. -/
def AllCells (w : World) : Cells := fun b x => ∃ v, w.cell? ⟨b, x, none⟩ = some v

def CellOk (w : World) (a : AV) (v : Value) : Prop := v.oneCell' = true ∧ Rep (AllCells w) w [] a v

section
variable {H : Type} {enc : TypeId × Value → H} {P : Program} {w : World} {spare : Nat → Bool} {held : Bool} {T : Tb} {G : List TypeId}

theorem TIok.cellsOf {t : TypeId} {i : TI} (h : TIok P t i) : P.cellsOf t = i.size := by
  obtain ⟨inf, h1, h2, h3, h4⟩ := h.info
  simp [Program.cellsOf, h1, h2]

theorem cells_some {a : Addr} {n : Nat} {cs : List Value} (h : w.cells? 0 a n = some cs) : cs.length = n ∧ ∀ i, i < n → w.cell? (a.add i) = cs[i]? := (World.cells?_some h).2

theorem trod_rd (hT : TbOk P T) (hG : goodB T G = true) : ∀ (fuel : Nat) (t : TypeId) (cs : List Value) (x : DataW H × List MemPlace), t ∈ G → DataW.trod enc P w 0 spare held fuel t cs = some x →
    ∃ as, WT T t as ∧ as.length = cs.length ∧ (∃ i, T.ty t = some i ∧ as.length = i.size) ∧ ∀ (i : Nat) (a : AV), as[i]? = some a → CellOk w a (cs.getD i undef) := by
  intro fuel
  induction fuel with
  | zero => intro t cs x _ h; simp [DataW.trod] at h
  | succ fuel ih =>
    intro t cs x ht h
    have hg := List.all_eq_true.1 hG t ht
    split at hg
    · rename_i i hti
      have hok := hT _ _ hti
      split at hg
      · rename_i hd
        obtain ⟨b, rfl, _⟩ := DataW.trod_bool (hd ▸ hok.und) h
        refine ⟨_, .bool t i b hti hd, rfl, ⟨i, hti, by simpa using (beq_iff_eq.1 hg).symm⟩, fun k a hk => ?_⟩
        match k, hk with
        | 0, hk => cases hk; exact ⟨rfl, .v _ _⟩
      · rename_i k hd
        obtain ⟨n, rfl, _, hw⟩ := DataW.trod_int (hd ▸ hok.und) h
        refine ⟨_, .int t i k n hti hd hw, rfl, ⟨i, hti, by simpa using (beq_iff_eq.1 hg).symm⟩, fun k a hk => ?_⟩
        match k, hk with
        | 0, hk => cases hk; exact ⟨rfl, .v _ _⟩
      · rename_i hd
        obtain ⟨s, rfl, _, hs⟩ := DataW.trod_string (hd ▸ hok.und) h
        refine ⟨_, .str t i s hti hd hs, rfl, ⟨i, hti, by simpa using (beq_iff_eq.1 hg).symm⟩, fun k a hk => ?_⟩
        match k, hk with
        | 0, hk => cases hk; exact ⟨rfl, .v _ _⟩
      · rename_i e hd
        simp only [Bool.and_eq_true] at hg
        obtain ⟨⟨hsz, he⟩, hj⟩ := hg
        split at hj
        · rename_i j hej
          simp only [Bool.and_eq_true, decide_eq_true_eq] at hj
          obtain ⟨hj0, hj1⟩ := hj
          have hoke := hT _ _ hej
          rcases DataW.trod_slice (hd ▸ hok.und) h with ⟨rfl, _⟩ | ⟨a, len, cap, elems, rest, n, hn, rfl, _, _, hlc, hcm, hel, hat, _, _⟩
          · refine ⟨_, .nil t i e hti hd, rfl, ⟨i, hti, by simpa using (beq_iff_eq.1 hsz).symm⟩, fun k a hk => ?_⟩
            match k, hk with
            | 0, hk => cases hk; exact ⟨rfl, .v _ _⟩
          · cases hn
            rw [hoke.cellsOf] at hat
            -- each element
            have each : ∀ q, q < len → ∃ as, WT T e as ∧ as.length = j.size ∧ ∀ (i : Nat) (c : AV), as[i]? = some c → ∃ v, w.cell? (a.add (q * j.size + i)) = some v ∧ CellOk w c v := by
              intro q hq
              have hq' := hat q hq
              rw [List.getElem?_eq_getElem (by omega), Option.bind_eq_some_iff] at hq'
              obtain ⟨cs, hcs, htr⟩ := hq'
              obtain ⟨c1, c2⟩ := cells_some hcs
              obtain ⟨as, w1, w2, _, w3⟩ := ih e cs _ (List.contains_iff_mem.1 he) htr
              refine ⟨as, w1, by omega, fun i c hi => ?_⟩
              have hlt := (List.getElem?_eq_some_iff.1 hi).1
              refine ⟨cs.getD i undef, ?_, w3 i c hi⟩
              rw [← Addr.add_add, c2 i (by omega), List.getD_eq_getElem?_getD, List.getElem?_eq_getElem (by omega)]
              rfl
            -- all of them
            have all : ∀ m, m ≤ len → ∃ l : List AV, l.length = m ∧ ∀ q el, l[q]? = some el → WT T e el.cells ∧ asEl j.agg el.cells = some el ∧ el.cells.length = j.size ∧
                ∀ (i : Nat) (c : AV), el.cells[i]? = some c → ∃ v, w.cell? (a.add (q * j.size + i)) = some v ∧ CellOk w c v := by
              intro m
              induction m with
              | zero => intro _; exact ⟨[], rfl, fun q el h => by simp at h⟩
              | succ m ihm =>
                intro hm
                obtain ⟨l, l1, l2⟩ := ihm (by omega)
                obtain ⟨as, a1, a2, a3⟩ := each m (by omega)
                have hel : ∃ el : AV, el.cells = as ∧ asEl j.agg as = some el := by
                  cases hag : j.agg with
                  | true => exact ⟨.agg as, rfl, rfl⟩
                  | false =>
                    rw [hag] at hj1
                    simp at hj1
                    match as, a2, a1, a3 with
                    | [c], _, a1, a3 =>
                      refine ⟨c, ?_, rfl⟩
                      obtain ⟨v, _, h1, h2⟩ := a3 0 c rfl
                      cases h2 <;> first | rfl | (simp [Value.oneCell'] at h1)
                    | [], h, _, _ => simp at h; omega
                    | _ :: _ :: _, h, _, _ => simp at h; omega
                obtain ⟨el, e1, e2⟩ := hel
                refine ⟨l ++ [el], by simp [l1], fun q x hx => ?_⟩
                by_cases hq : q < l.length
                · rw [List.getElem?_append_left hq] at hx
                  exact l2 q x hx
                · have : q = m := by
                    have := (List.getElem?_eq_some_iff.1 hx).1
                    simp at this; omega
                  subst this
                  rw [List.getElem?_append_right (by omega), l1] at hx
                  simp at hx
                  subst hx
                  rw [e1]
                  exact ⟨a1, e2, a2, a3⟩
            obtain ⟨l, l1, l2⟩ := all len (Nat.le_refl _)
            refine ⟨[.slc j.size false true l], .slc t i e j l hti hd hej (by omega) (fun el hm => ?_) (fun el hm => ?_), rfl, ⟨i, hti, by simpa using (beq_iff_eq.1 hsz).symm⟩, fun k x hk => ?_⟩
            · obtain ⟨q, hq⟩ := List.getElem?_of_mem hm
              exact (l2 q el hq).1
            · obtain ⟨q, hq⟩ := List.getElem?_of_mem hm
              exact (l2 q el hq).2.1
            · match k, hk with
              | 0, hk =>
                cases hk
                refine ⟨rfl, ?_⟩
                show Rep (AllCells w) w [] (.slc j.size false true l) (.slice (some a) len cap)
                rw [← l1]
                have hspot : l ≠ [] → some a = some ⟨a.block, a.off, none⟩ := by
                  intro hne
                  have h0 : l[0]? = some (l[0]'(List.length_pos_iff.2 hne)) := List.getElem?_eq_getElem _
                  obtain ⟨_, _, p3, p4⟩ := l2 0 _ h0
                  obtain ⟨v, hv, _⟩ := p4 0 _ (List.getElem?_eq_getElem (by omega))
                  simp only [Nat.zero_mul, Nat.add_zero, Addr.add, if_true] at hv
                  cases a with
                  | mk ab ao asp =>
                    cases asp with
                    | none => rfl
                    | some s =>
                      simp only [World.cell?] at hv
                      split at hv <;> simp at hv
                have hadd : ∀ n, l ≠ [] → a.add n = ⟨a.block, a.off + n, none⟩ := by
                  intro n hne
                  have := hspot hne
                  simp only [Option.some.injEq] at this
                  rw [this, Addr.add_lit]
                have ne : ∀ {q : Nat} {el : AV}, l[q]? = some el → l ≠ [] := by rintro q el h rfl; simp at h
                have cellv : ∀ (q : Nat) (el : AV) (i : Nat) (c : AV), l[q]? = some el → el.cells[i]? = some c → ∃ v, w.cell? ⟨a.block, a.off + (q * j.size + i), none⟩ = some v ∧ CellOk w c v := by
                  intro q el i c hq hi
                  obtain ⟨_, _, _, p4⟩ := l2 q el hq
                  obtain ⟨v, hv, hc⟩ := p4 i c hi
                  rw [hadd _ (ne hq)] at hv
                  exact ⟨v, hv, hc⟩
                refine .slc [] j.size false true l (some a) cap a.block a.off (fun q i => (w.cell? ⟨a.block, a.off + (q * j.size + i), none⟩).getD undef) hspot (fun _ h => by cases h) (fun h => by cases h) (by omega) (fun h => by cases h)
                  (fun q el hq => (l2 q el hq).2.2.1) (fun q el i c hq hi => ?_) (fun q el i c hq hi => ?_) (fun q el i c hq hi => ?_) (fun q el i c hq hi => ?_)
                · obtain ⟨v, hv, _⟩ := cellv q el i c hq hi
                  rw [hv]; rfl
                · obtain ⟨v, hv, _⟩ := cellv q el i c hq hi
                  exact ⟨v, hv⟩
                · obtain ⟨v, hv, hc⟩ := cellv q el i c hq hi
                  rw [hv]; exact hc.1
                · obtain ⟨v, hv, hc⟩ := cellv q el i c hq hi
                  rw [hv]; exact hc.2
        · cases hj
      · rename_i fs hd
        obtain ⟨xs, n, hn, _, hcl, hxl, hxs⟩ := DataW.trod_struct (hd ▸ hok.und) h
        cases hn
        rw [hok.cellsOf] at hcl
        have key : ∀ (l : List Field) (off : Nat), layB T G off l i.size = true → (∀ f ∈ l, ∃ x, DataW.trod enc P w 0 spare held fuel f.type ((cs.drop f.offset).take (P.cellsOf f.type)) = some x) →
            ∃ ass : List (List AV), ass.length = l.length ∧ (∀ (k : Nat) (f : Field) (a : List AV), l[k]? = some f → ass[k]? = some a → WT T f.type a) ∧ off + ass.flatten.length = i.size ∧
              ∀ (k : Nat) (a : AV), ass.flatten[k]? = some a → CellOk w a (cs.getD (off + k) undef) := by
          intro l
          induction l with
          | nil =>
            intro off hl _
            simp [layB] at hl
            exact ⟨[], rfl, fun k f a h => by simp at h, by simpa using hl, fun k a h => by simp at h⟩
          | cons f l ihl =>
            intro off hl hx
            simp only [layB, Bool.and_eq_true, beq_iff_eq] at hl
            obtain ⟨⟨hoff, hfg⟩, hl⟩ := hl
            split at hl
            · rename_i j hfj
              obtain ⟨x, hx0⟩ := hx f (by simp)
              have hle := layB_le hl
              rw [(hT _ _ hfj).cellsOf, hoff] at hx0
              obtain ⟨as, a1, a2, _, a3⟩ := ih f.type _ x (List.contains_iff_mem.1 hfg) hx0
              have hal : as.length = j.size := by rw [a2]; simp; omega
              obtain ⟨ass, b1, b2, b3, b4⟩ := ihl (off + j.size) hl (fun g hg => hx g (by simp [hg]))
              refine ⟨as :: ass, by simp [b1], fun k g a hk ha => ?_, by rw [List.flatten_cons, List.length_append]; omega, fun k a hk => ?_⟩
              · cases k with
                | zero => simp at hk ha; subst hk; subst ha; exact a1
                | succ k => exact b2 k g a (by simpa using hk) (by simpa using ha)
              · rw [List.flatten_cons] at hk
                by_cases hlt : k < as.length
                · rw [List.getElem?_append_left hlt] at hk
                  have := a3 k a hk
                  rw [List.getD_eq_getElem?_getD, List.getElem?_take_of_lt (by omega), List.getElem?_drop, ← List.getD_eq_getElem?_getD] at this
                  exact this
                · rw [List.getElem?_append_right (by omega)] at hk
                  have := b4 _ a hk
                  rw [show off + j.size + (k - as.length) = off + k by omega] at this
                  exact this
            · cases hl
        obtain ⟨ass, b1, b2, b3, b4⟩ := key fs.toList 0 hg (fun f hf => by
          obtain ⟨k, hk⟩ := List.getElem?_of_mem hf
          have hk' : fs[k]? = some f := by simpa using hk
          have := hxs k f hk'
          have hlt := (Array.getElem?_eq_some_iff.1 hk').1
          rw [List.getElem?_eq_getElem (by omega)] at this
          exact ⟨_, this⟩)
        refine ⟨ass.flatten, .struct t i fs ass hti hd (by simpa using b1) (fun k f a hk ha => b2 k f a (by simpa using hk) ha), by omega, ⟨i, hti, by omega⟩, fun k a hk => ?_⟩
        simpa using b4 k a hk
      · cases hg
    · cases hg

/-- An argument, read. -/
theorem trod_arg (hT : TbOk P T) (hG : goodB T G = true) {t : TypeId} {i : TI} (ht : t ∈ G) (hti : T.ty t = some i) {r : Reach} {base : Nat} {v : Value} {d : DataW H} {ps : List MemPlace} (hval : Value.okWide P w r base t v)
    (h : DataW.Trod enc P w 0 spare held t v d ps) : ∃ a, WT T t a.cells ∧ asEl i.agg a.cells = some a ∧ Rep (AllCells w) w [] a v := by
  obtain ⟨fuel, h⟩ := h
  obtain ⟨as, w1, w2, ⟨i', hi', w4⟩, w3⟩ := trod_rd hT hG fuel t _ _ ht h
  rw [hti] at hi'; cases hi'
  have hg := List.all_eq_true.1 hG t ht
  rw [hti] at hg
  simp only at hg
  cases hag : i.agg with
  | true =>
    have : ∃ fs, i.desc = .struct fs := by
      unfold TI.agg at hag
      split at hg <;> first | (rename_i hd; rw [hd] at hag; cases hag; done) | (rename_i _ hd; rw [hd] at hag; cases hag; done) | skip
      · rename_i fs hd; exact ⟨fs, hd⟩
      · cases hg
    obtain ⟨fs, hd⟩ := this
    obtain ⟨cs, rfl, hcs⟩ := WideShapes.okWide_struct (hd ▸ (hT _ _ hti).und) hval
    refine ⟨.agg as, w1, rfl, .agg [] as cs (by simpa [Value.cells] using w2.symm) (fun k c hk => ?_) (fun k c hk => ?_)⟩
    · have := (w3 k c hk).1
      simpa [Value.cells] using this
    · have := (w3 k c hk).2
      simpa [Value.cells] using this
  | false =>
    have hv : v.cells = #[v] := by
      split at hg
      · rename_i hd; obtain ⟨b, rfl⟩ := WideShapes.okWide_bool (hd ▸ (hT _ _ hti).und) hval; rfl
      · rename_i k hd; obtain ⟨n, rfl⟩ := WideShapes.okWide_int (hd ▸ (hT _ _ hti).und) hval; rfl
      · rename_i hd; obtain ⟨s, rfl⟩ := WideShapes.okWide_string (hd ▸ (hT _ _ hti).und) hval; rfl
      · rename_i e hd; obtain ⟨a, l, c, rfl⟩ := WideShapes.okWide_slice (hd ▸ (hT _ _ hti).und) hval; rfl
      · rename_i fs hd; unfold TI.agg at hag; rw [hd] at hag; cases hag
      · cases hg
    rw [hv] at w2 w3
    match as, w2, w1, w3 with
    | [c], _, w1, w3 =>
      obtain ⟨h1, h2⟩ := w3 0 c rfl
      have hc : c.cells = [c] := by
        cases c with
        | agg cs =>
          exfalso
          have e : (#[v].toList.getD 0 undef) = v := rfl
          rw [e] at h1 h2
          cases h2; simp [Value.oneCell'] at h1
        | _ => rfl
      exact ⟨c, by rw [hc]; exact w1, by rw [hc]; rfl, h2⟩
end
end Go.AE
end
