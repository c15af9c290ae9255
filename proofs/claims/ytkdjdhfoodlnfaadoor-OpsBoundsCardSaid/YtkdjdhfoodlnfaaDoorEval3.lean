/- The evaluator of compiled functions, proved sound: texts put together. -/
import Derived.Test.YtkdjdhfoodlnfaaDoorEval2
/-! AE, part 31: runs, step by step (rows for simp: what is still to be done is data, so nothing is looked into ahead of its turn). -/
section
set_option linter.unusedVariables false
set_option linter.unusedSimpArgs false
namespace Go.AE
open Go Go.RowKit

structure St where
  vars : List AV
  env : List AV
  h : List AO

def put1 (wr : Option Nat) (vars env : List AV) : Option (AV × List AO) → Option St
  | some (v, h) => some ⟨setO vars wr v, v :: env, h⟩
  | none => none
def pass1 (wr : Option Nat) (vars env : List AV) (h : List AO) : Option St := some ⟨setO vars wr (.v undef), .v undef :: env, h⟩
def pick1 (g : AV) (want : Bool) (y n : Option St) : Option St := match g with
  | .v (.bool b) => if b = want then y else n
  | .v (.tuple _) => n
  | _ => none
def stp (call : CallF) (o : CO) : Option St → Option St
  | some ⟨vars, env, h⟩ => match o.guard with
    | none => put1 o.wr vars env (evOp call vars env h o.op)
    | some (g, want) => pick1 (getO vars env g) want (put1 o.wr vars env (evOp call vars env h o.op)) (pass1 o.wr vars env h)
  | none => none
def run (call : CallF) : List CO → Option St → Option St
  | [], s => s
  | o :: r, s => run call r (stp call o s)
def outS : Option St → Option (List AV × List AO)
  | some ⟨vars, _, h⟩ => some (vars, h)
  | none => none

theorem run_none {call : CallF} : ∀ (cs : List CO), run call cs none = none := by
  intro cs
  induction cs with
  | nil => rfl
  | cons c cs ih => simp only [run, stp, ih]
theorem ops_run {call : CallF} : ∀ (cs : List CO) (vars env : List AV) (h : List AO), evOps call cs vars env h = outS (run call cs (some ⟨vars, env, h⟩)) := by
  intro cs
  induction cs with
  | nil => intro vars env h; rfl
  | cons c cs ih =>
    intro vars env h
    simp only [run, evOps, stp]
    cases hg : c.guard with
    | none =>
      simp only
      cases he : evOp call vars env h c.op with
      | none => simp only [put1, run_none]; rfl
      | some q => obtain ⟨v, h'⟩ := q; simp only [put1]; exact ih _ _ _
    | some gw =>
      obtain ⟨g, want⟩ := gw
      simp only
      have go : (match evOp call vars env h c.op with
          | some (v, h') => evOps call cs (setO vars c.wr v) (v :: env) h'
          | none => none) = outS (run call cs (put1 c.wr vars env (evOp call vars env h c.op))) := by
        cases he : evOp call vars env h c.op with
        | none => simp only [put1, run_none]; rfl
        | some q => obtain ⟨v, h'⟩ := q; simp only [put1]; exact ih _ _ _
      have no : evOps call cs (setO vars c.wr (.v undef)) (.v undef :: env) h = outS (run call cs (pass1 c.wr vars env h)) := ih _ _ _
      cases hv : getO vars env g with
      | v x =>
        cases x with
        | bool b =>
          simp only [pick1]
          by_cases hb : b = want
          · rw [if_pos hb, if_pos hb]; exact go
          · rw [if_neg hb, if_neg hb]; exact no
        | tuple a => exact no
        | _ => simp only [pick1, run_none]; rfl
      | _ => simp only [pick1, run_none]; rfl

section
variable {call : CallF} {vars env : List AV} {h : List AO} {fuel : Nat}
theorem run_nil {s : Option St} : run call [] s = s := rfl
theorem run_cons {o : CO} {r : List CO} {s : Option St} : run call (o :: r) s = run call r (stp call o s) := rfl
theorem stp_plain {op : COp} {wr : Option Nat} : stp call ⟨op, wr, none⟩ (some ⟨vars, env, h⟩) = put1 wr vars env (evOp call vars env h op) := rfl
theorem stp_guard {op : COp} {wr : Option Nat} {g : Opd} {want : Bool} : stp call ⟨op, wr, some (g, want)⟩ (some ⟨vars, env, h⟩) = pick1 (getO vars env g) want (put1 wr vars env (evOp call vars env h op)) (pass1 wr vars env h) := rfl
theorem put_some {wr : Option Nat} {v : AV} : put1 wr vars env (some (v, h)) = some ⟨setO vars wr v, v :: env, h⟩ := rfl
theorem pass_eq {wr : Option Nat} : pass1 wr vars env h = some ⟨setO vars wr (.v undef), .v undef :: env, h⟩ := rfl
theorem pick_tt {y n : Option St} : pick1 (.v (.bool true)) true y n = y := rfl
theorem pick_ff {y n : Option St} : pick1 (.v (.bool false)) false y n = y := rfl
theorem pick_tf {y n : Option St} : pick1 (.v (.bool true)) false y n = n := rfl
theorem pick_ft {y n : Option St} : pick1 (.v (.bool false)) true y n = n := rfl
theorem pick_u {a : Array Value} {w : Bool} {y n : Option St} : pick1 (.v (.tuple a)) w y n = n := rfl
theorem out_some : outS (some ⟨vars, env, h⟩) = some (vars, h) := rfl

/-- behind a region -/
def reg (a : Option St) : CRun := match a with
  | some ⟨v, _, h⟩ => some (.normal, v, h)
  | none => none
theorem reg_some : reg (some ⟨vars, env, h⟩) = some (.normal, vars, h) := rfl
theorem x_region {ops : List CO} : exec call fuel (.region [] [] ops) vars h = reg (run call ops (some ⟨vars, [], h⟩)) := by
  simp only [exec, List.all_nil, if_true, List.foldl_nil, ops_run]
  cases run call ops (some ⟨vars, [], h⟩) <;> rfl
def marked (s : List AV × List AO) : Option St := some ⟨s.1, [], s.2⟩
theorem x_region_m {m : Mark} {ms : List Mark} {ops : List CO} : exec call fuel (.region (m :: ms) [] ops) vars h = reg (run call ops (marked ((m :: ms).foldl doMark (vars, h)))) := by
  simp only [exec, List.all_nil, if_true, ops_run, marked]
  cases run call ops (some ⟨((m :: ms).foldl doMark (vars, h)).1, [], ((m :: ms).foldl doMark (vars, h)).2⟩) <;> rfl
theorem marked_eq : marked (vars, h) = some ⟨vars, [], h⟩ := rfl

def thn (call : CallF) (fuel : Nat) (b : CC) (a : CRun) : CRun := match a with
  | some (.normal, v, h) => exec call fuel b v h
  | r => r
theorem x_seq {a b : CC} : exec call fuel (.seq a b) vars h = thn call fuel b (exec call fuel a vars h) := rfl
theorem thn_normal {b : CC} : thn call fuel b (some (.normal, vars, h)) = exec call fuel b vars h := rfl
theorem thn_exit {b : CC} {id : Nat} : thn call fuel b (some (.exit id, vars, h)) = some (.exit id, vars, h) := rfl
theorem thn_ret {b : CC} : thn call fuel b (some (.ret, vars, h)) = some (.ret, vars, h) := rfl
def cnd (call : CallF) (fuel : Nat) (x y : CC) (vars : List AV) (h : List AO) (g : AV) : CRun := match g with
  | .v (.bool b) => cond b (exec call fuel x vars h) (exec call fuel y vars h)
  | _ => none
theorem x_cond {c : Opd} {x y : CC} : exec call fuel (.cond c x y) vars h = cnd call fuel x y vars h (getO vars [] c) := rfl
theorem cnd_t {x y : CC} : cnd call fuel x y vars h (.v (.bool true)) = exec call fuel x vars h := rfl
theorem cnd_f {x y : CC} : cnd call fuel x y vars h (.v (.bool false)) = exec call fuel y vars h := rfl
def blk (id : Nat) (a : CRun) : CRun := match a with
  | some (.exit id', v, h) => some (if id' = id then .normal else .exit id', v, h)
  | r => r
theorem x_block {id : Nat} {b : CC} : exec call fuel (.block id b) vars h = blk id (exec call fuel b vars h) := rfl
theorem blk_normal {id : Nat} : blk id (some (.normal, vars, h)) = some (.normal, vars, h) := rfl
theorem blk_ret {id : Nat} : blk id (some (.ret, vars, h)) = some (.ret, vars, h) := rfl
theorem blk_exit {id : Nat} : blk id (some (.exit id, vars, h)) = some (.normal, vars, h) := by simp [blk]
theorem blk_other {id id' : Nat} (hn : id' ≠ id) : blk id (some (.exit id', vars, h)) = some (.exit id', vars, h) := by simp [blk, hn]
theorem x_loop {keep : List Bool} {b : CC} : exec call fuel (.loop keep [] b) vars h = loopN (exec call fuel b) keep fuel vars h := rfl
theorem x_exit {id : Nat} : exec call fuel (.exit id) vars h = some (.exit id, vars, h) := rfl
theorem x_ret : exec call fuel .ret vars h = some (.ret, vars, h) := rfl
theorem x_skip : exec call fuel .skip vars h = some (.normal, vars, h) := rfl
theorem loop_normal {keep : List Bool} {b : CC} {n : Nat} {v' : List AV} {h' : List AO} (hs : exec call fuel b (clr keep vars) h = some (.normal, v', h')) : loopN (exec call fuel b) keep (n + 1) vars h = loopN (exec call fuel b) keep n v' h' := by
  simp only [loopN, hs]
theorem loop_exit {keep : List Bool} {b : CC} {n id : Nat} {v' : List AV} {h' : List AO} (hs : exec call fuel b (clr keep vars) h = some (.exit id, v', h')) : loopN (exec call fuel b) keep (n + 1) vars h = some (.exit id, v', h') := by
  simp only [loopN, hs]
theorem loop_ret {keep : List Bool} {b : CC} {n : Nat} {v' : List AV} {h' : List AO} (hs : exec call fuel b (clr keep vars) h = some (.ret, v', h')) : loopN (exec call fuel b) keep (n + 1) vars h = some (.ret, v', h') := by
  simp only [loopN, hs]

/-! ### Values -/
theorem g_var0 {x : AV} {l : List AV} : getO (x :: l) env (.var 0) = x := rfl
theorem g_vars {x : AV} {l : List AV} {n : Nat} : getO (x :: l) env (.var (n + 1)) = getO l env (.var n) := rfl
theorem g_loc0 {x : AV} {e : List AV} : getO vars (x :: e) (.loc 0) = x := rfl
theorem g_locs {x : AV} {e : List AV} {n : Nat} : getO vars (x :: e) (.loc (n + 1)) = getO vars e (.loc n) := rfl
theorem g_int {k : IntKind} {n : Int} : getO vars env (.k (.int k n)) = .v (.int k n) := rfl
theorem g_bool {b : Bool} : getO vars env (.k (.bool b)) = .v (.bool b) := rfl
theorem g_str {s : ByteArray} : getO vars env (.k (.string s)) = .v (.string s) := rfl
theorem g_sl {a : Option Addr} {l c : Nat} : getO vars env (.k (.slice a l c)) = .v (.slice a l c) := rfl
theorem g_agg {a : Array Value} : getO vars env (.k (.agg a)) = ofVal (.agg a) := rfl
theorem s_none {v : AV} : setO vars none v = vars := rfl
theorem s_zero {x v : AV} {l : List AV} : setO (x :: l) (some 0) v = v :: l := rfl
theorem s_succ {x v : AV} {l : List AV} {n : Nat} : setO (x :: l) (some (n + 1)) v = x :: setO l (some n) v := rfl

/-! ### Calls of pure functions -/
def fin (h : List AO) : Option (AV × List AO) → Option (AV × List AO)
  | some (r, []) => some (r, h)
  | _ => none
theorem fin_some {r : AV} : fin h (some (r, [])) = some (r, h) := rfl
def pc0 (call : CallF) (f : FuncId) (h : List AO) : Option (AV × List AO) := fin h (call f [] [])
def pc1 (call : CallF) (f : FuncId) (h : List AO) (a : Option AV) : Option (AV × List AO) := match a with
  | some a => fin h (call f [a] [])
  | none => none
def pc2 (call : CallF) (f : FuncId) (h : List AO) (a b : Option AV) : Option (AV × List AO) := match a, b with
  | some a, some b => fin h (call f [a, b] [])
  | _, _ => none
def pc3 (call : CallF) (f : FuncId) (h : List AO) (a b c : Option AV) : Option (AV × List AO) := match a, b, c with
  | some a, some b, some c => fin h (call f [a, b, c] [])
  | _, _, _ => none
theorem e_call0 {f : FuncId} : evOp call vars env h (.call true f []) = pc0 call f h := by
  simp only [evOp, List.map_nil, List.mapM_nil, Option.pure_def, pc0, fin]
  rfl
theorem e_call1 {f : FuncId} {x : Opd} : evOp call vars env h (.call true f [x]) = pc1 call f h ((getO vars env x).snap1 h) := by
  simp only [evOp, List.map_cons, List.map_nil, List.mapM_cons, List.mapM_nil, Option.pure_def, Option.bind_eq_bind]
  cases (getO vars env x).snap1 h <;> rfl
theorem e_call2 {f : FuncId} {x y : Opd} : evOp call vars env h (.call true f [x, y]) = pc2 call f h ((getO vars env x).snap1 h) ((getO vars env y).snap1 h) := by
  simp only [evOp, List.map_cons, List.map_nil, List.mapM_cons, List.mapM_nil, Option.pure_def, Option.bind_eq_bind]
  cases (getO vars env x).snap1 h <;> cases (getO vars env y).snap1 h <;> rfl
theorem e_call3 {f : FuncId} {x y z : Opd} : evOp call vars env h (.call true f [x, y, z]) = pc3 call f h ((getO vars env x).snap1 h) ((getO vars env y).snap1 h) ((getO vars env z).snap1 h) := by
  simp only [evOp, List.map_cons, List.map_nil, List.mapM_cons, List.mapM_nil, Option.pure_def, Option.bind_eq_bind]
  cases (getO vars env x).snap1 h <;> cases (getO vars env y).snap1 h <;> cases (getO vars env z).snap1 h <;> rfl
theorem pc0_eq {f : FuncId} : pc0 call f h = fin h (call f [] []) := rfl
theorem pc1_some {f : FuncId} {a : AV} : pc1 call f h (some a) = fin h (call f [a] []) := rfl
theorem pc2_some {f : FuncId} {a b : AV} : pc2 call f h (some a) (some b) = fin h (call f [a, b] []) := rfl
theorem pc3_some {f : FuncId} {a b c : AV} : pc3 call f h (some a) (some b) (some c) = fin h (call f [a, b, c] []) := rfl

/-! ### Operations, one by one -/
theorem e_mov {x : Opd} : evOp call vars env h (.mov x) = some (getO vars env x, h) := rfl
def pk (h : List AO) (c a b : AV) : Option (AV × List AO) := match c with
  | .v (.bool t) => some (cond t a b, h)
  | _ => none
theorem e_pick {c a b : Opd} : evOp call vars env h (.pick c a b) = pk h (getO vars env c) (getO vars env a) (getO vars env b) := rfl
theorem pk_t {a b : AV} : pk h (.v (.bool true)) a b = some (a, h) := rfl
theorem pk_f {a b : AV} : pk h (.v (.bool false)) a b = some (b, h) := rfl
def withH (h : List AO) : Option AV → Option (AV × List AO)
  | some v => some (v, h)
  | none => none
theorem withH_some {v : AV} : withH h (some v) = some (v, h) := rfl
theorem map_withH {a : Option AV} : (a.map fun v => (v, h)) = withH h a := by cases a <;> rfl
def bx (h : List AO) : Option (List AV) → Option (AV × List AO)
  | some cs => some (.ptr h.length 0, h ++ [.box cs])
  | none => none
theorem e_box {x : Opd} : evOp call vars env h (.box x) = bx h (getO vars env x).cl := by
  simp only [evOp]; cases (getO vars env x).cl <;> rfl
theorem bx_some {cs : List AV} : bx h (some cs) = some (.ptr h.length 0, h ++ [.box cs]) := rfl
theorem e_load {a : Bool} {sz : Nat} {x : Opd} : evOp call vars env h (.load a sz x) = withH h (evLoad h a sz (getO vars env x)) := map_withH
def stH : Option (List AO) → Option (AV × List AO)
  | some h' => some (.v (.tuple #[]), h')
  | none => none
theorem stH_some {h' : List AO} : stH (some h') = some (.v (.tuple #[]), h') := rfl
theorem e_store {sz : Nat} {a x : Opd} : evOp call vars env h (.store sz a x) = stH (evStore h sz (getO vars env a) (getO vars env x)) := by
  simp only [evOp]; cases evStore h sz (getO vars env a) (getO vars env x) <;> rfl
theorem e_nil {x : Opd} : evOp call vars env h (.nilchk x) = withH h (evNil h (getO vars env x)) := map_withH
theorem e_bin {op : BinOp} {x y : Opd} : evOp call vars env h (.bin op x y) = withH h (evBin op (getO vars env x) (getO vars env y)) := map_withH
def eqH (h : List AO) (neg : Bool) : Option Bool → Option (AV × List AO)
  | some b => some (.v (.bool (if neg then !b else b)), h)
  | none => none
theorem e_eqv {k : EqK} {neg : Bool} {x y : Opd} : evOp call vars env h (.eqv k neg x y) = eqH h neg (eqNil h k (getO vars env x) (getO vars env y)) := by
  simp only [evOp]; cases eqNil h k (getO vars env x) (getO vars env y) <;> rfl
theorem eqH_f {b : Bool} : eqH h false (some b) = some (.v (.bool b), h) := rfl
theorem eqH_t {b : Bool} : eqH h true (some b) = some (.v (.bool !b), h) := rfl
theorem e_un {op : UnOp} {x : Opd} : evOp call vars env h (.un op x) = withH h (evUn op (getO vars env x)) := map_withH
theorem e_fa {o : Nat} {x : Opd} : evOp call vars env h (.fa o x) = withH h (evFa h o (getO vars env x)) := map_withH
theorem e_ia {sz : Nat} {x i : Opd} : evOp call vars env h (.ia sz x i) = withH h (evIa vars env h sz x i) := map_withH
def lnH (h : List AO) : Option Nat → Option (AV × List AO)
  | some n => some (.v (.int .i64 (n : Int)), h)
  | none => none
theorem lnH_some {n : Nat} : lnH h (some n) = some (.v (.int .i64 (n : Int)), h) := rfl
theorem e_len {k : LenK} {x : Opd} : evOp call vars env h (.len k x) = lnH h (evLen h k (getO vars env x)) := by
  simp only [evOp]; cases evLen h k (getO vars env x) <;> rfl
def exH (h : List AO) (i : Nat) : AV → Option (AV × List AO)
  | .tup vs => match vs[i]? with
    | some v => some (v, h)
    | none => none
  | _ => none
theorem e_extract {x : Opd} {i : Nat} : evOp call vars env h (.extract x i) = exH h i (getO vars env x) := rfl
theorem ex_0 {v : AV} {vs : List AV} : exH h 0 (.tup (v :: vs)) = some (v, h) := rfl
theorem ex_1 {u v : AV} {vs : List AV} : exH h 1 (.tup (u :: v :: vs)) = some (v, h) := rfl
/-- an element's pointer -/
def iaV (h : List AO) (sz : Nat) (x : AV) (i : Option Nat) : Option AV := match x, i with
  | .slc sz' _ _ l, some i => match l[i]? with
    | some el => if sz' = sz then some (.ip el.cells) else none
    | none => none
  | .own sz' id ver off n, some i => if sz' = sz ∧ i < n then (rowAt h sz id ver (off + n)).map fun _ => .ep sz id ver (off + i) 0 else none
  | _, _ => none
theorem ia_eq {sz : Nat} {x i : Opd} : evIa vars env h sz x i = iaV h sz (getO vars env x) (natO vars env i) := rfl
def natV : AV → Option Nat
  | .v (.int _ n) => if 0 ≤ n then some n.toNat else none
  | _ => none
/-- an element of an array that is a value -/
def ixaV (n : Nat) (agg : Bool) (sz : Nat) (x : AV) (i : Option Nat) : Option AV := match x, i with
  | .agg cs, some i => if i < n ∧ i * sz + sz ≤ cs.length then asEl agg ((cs.drop (i * sz)).take sz) else none
  | _, _ => none
theorem e_ixa {n : Nat} {agg : Bool} {sz : Nat} {x i : Opd} : evOp call vars env h (.ixa n agg sz x i) = withH h (ixaV n agg sz (getO vars env x) (natO vars env i)) := by
  simp only [evOp, ixaV]
  cases getO vars env x <;> cases natO vars env i <;> first | rfl | skip
  rename_i cs k
  simp only
  by_cases hc : k < n ∧ k * sz + sz ≤ cs.length
  · rw [if_pos hc, if_pos hc]; exact map_withH
  · rw [if_neg hc, if_neg hc]; rfl
theorem nat_eq {x : Opd} : natO vars env x = natV (getO vars env x) := rfl
theorem natV_nat {k : IntKind} {n : Nat} : natV (.v (.int k (n : Int))) = some n := by simp [natV]
theorem iaV_slc {sz : Nat} {ex nn : Bool} {l : List AV} {i : Nat} {el : AV} (he : l[i]? = some el) : iaV h sz (.slc sz ex nn l) (some i) = some (.ip el.cells) := by simp [iaV, he]

theorem len_nil : evLen h .slice (.v (.slice none 0 0)) = some 0 := rfl
theorem len_slc {sz : Nat} {ex nn : Bool} {l : List AV} : evLen h .slice (.slc sz ex nn l) = some l.length := rfl
theorem len_str {s : ByteArray} : evLen h .string (.v (.string s)) = some s.size := rfl

/-! ### A variable made here -/
theorem app_get {x : AO} : (h ++ [x])[h.length]? = some x := by simp
theorem app_set {x y : AO} : (h ++ [x]).set h.length y = h ++ [y] := by simp
theorem st_new {sz : Nat} {cs xs : List AV} {x : AV} (hx : x.cl = some xs) (h1 : xs.length = sz) (h2 : cs.length = sz) : evStore (h ++ [.box cs]) sz (.ptr h.length 0) x = some (h ++ [.box xs]) := by
  have hp : ∀ (xs a b : List AV), a.length + xs.length = b.length → putAt b a.length xs = b.take a.length ++ xs := by
    intro xs
    induction xs with
    | nil => intro a b hl; simp only [putAt, List.append_nil]; rw [List.take_of_length_le (by simp at hl; omega)]
    | cons x xs ih =>
      intro a b hl
      simp only [putAt]
      have := ih (b.take a.length ++ [x]) (b.set a.length x) (by simp at hl ⊢; omega)
      have e : (b.take a.length ++ [x]).length = a.length + 1 := by simp at hl ⊢; omega
      rw [e] at this
      rw [this]
      have hlt : a.length < b.length := by simp at hl; omega
      rw [List.take_add_one, List.getElem?_set_self hlt, List.take_set, List.set_eq_of_length_le (by simp; omega)]
      simp
  have := hp xs [] cs (by simp; omega)
  simp only [List.length_nil, List.take_zero, List.nil_append] at this
  simp only [evStore, app_get, hx, h1, Nat.zero_add, h2, Nat.le_refl, and_self, if_true, app_set, this]
theorem ld_new {a : Bool} {sz : Nat} {cs : List AV} {off : Nat} : evLoad (h ++ [.box cs]) a sz (.ptr h.length off) = if off + sz ≤ cs.length then asEl a ((cs.drop off).take sz) else none := by
  simp only [evLoad, app_get]

def bs1 (h : List AO) (sz : Nat) : Option AV → Option (AV × List AO)
  | some y => match y.cl with
    | some ys => if ys.length = sz then some (.slc sz true true [y], h) else none
    | none => none
  | none => none
theorem e_bslice1 {sz : Nat} {zero : List Value} {x : Opd} : evOp call vars env h (.bslice sz zero 1 [(0, x)]) = bs1 h sz ((getO vars env x).snap1 h) := by
  simp only [evOp, evElems]
  cases hs : (getO vars env x).snap1 h with
  | none => rfl
  | some y =>
    simp only [bs1, Option.bind_some]
    cases hc : y.cl with
    | none => rfl
    | some ys =>
      simp only [Option.map_some, List.length_replicate]
      by_cases hl : ys.length = sz
      · rw [if_pos ⟨hl, by omega⟩, if_pos hl]; rfl
      · rw [if_neg (fun h => hl h.1), if_neg hl]; rfl
theorem bs1_some {sz : Nat} {y : AV} {ys : List AV} (hc : y.cl = some ys) (hl : ys.length = sz) : bs1 h sz (some y) = some (.slc sz true true [y], h) := by
  simp only [bs1, hc, hl, if_true]
def bs2 (h : List AO) (sz : Nat) : Option AV → Option AV → Option (AV × List AO)
  | some a, some b => match a.cl, b.cl with
    | some xs, some ys => if xs.length = sz then if ys.length = sz then some (.slc sz true true [a, b], h) else none else none
    | _, _ => none
  | _, _ => none
theorem e_bslice2 {sz : Nat} {zero : List Value} {x y : Opd} : evOp call vars env h (.bslice sz zero 2 [(0, x), (1, y)]) = bs2 h sz ((getO vars env x).snap1 h) ((getO vars env y).snap1 h) := by
  simp only [evOp, evElems]
  cases hs : (getO vars env x).snap1 h with
  | none => rfl
  | some a =>
    cases hs' : (getO vars env y).snap1 h with
    | none =>
      simp only [bs2, Option.bind_some, Option.bind_none]
      cases hc : a.cl with
      | none => rfl
      | some xs =>
        simp only [Option.map_some]
        split <;> rfl
    | some b =>
      simp only [bs2, Option.bind_some]
      cases hc : a.cl with
      | none => rfl
      | some xs =>
        simp only [Option.map_some]
        cases hc' : b.cl with
        | none =>
          simp only [Option.map_none]
          split <;> rfl
        | some ys =>
          simp only [Option.map_some, List.length_replicate, List.length_set]
          by_cases h1 : xs.length = sz
          · by_cases h2 : ys.length = sz
            · simp [h1, h2]
            · simp [h1, h2]
          · simp [h1]
def bdH (h : List AO) : Option (List AV) → Option (AV × List AO)
  | some cs => some (.agg cs, h)
  | none => none
theorem e_build {zero : List Value} {ps : List (Nat × Nat × Opd)} : evOp call vars env h (.build zero ps) = bdH h (evBuild vars env (toL zero) ps) := by
  simp only [evOp]; cases evBuild vars env (toL zero) ps <;> rfl
theorem bdH_some {cs : List AV} : bdH h (some cs) = some (.agg cs, h) := rfl
def bd1 (vars env : List AV) (cs : List AV) (off sz : Nat) (r : List (Nat × Nat × Opd)) (xs : Option (List AV)) : Option (List AV) := match xs with
  | some xs => if xs.length = sz ∧ off + sz ≤ cs.length then evBuild vars env (putAt cs off xs) r else none
  | none => none
theorem bd_nil {cs : List AV} : evBuild vars env cs [] = some cs := rfl
theorem bd_cons {cs : List AV} {off sz : Nat} {x : Opd} {r : List (Nat × Nat × Opd)} : evBuild vars env cs ((off, sz, x) :: r) = bd1 vars env cs off sz r (getO vars env x).cl := rfl
theorem bd1_some {cs xs : List AV} {off sz : Nat} {r : List (Nat × Nat × Opd)} (h1 : xs.length = sz) (h2 : off + sz ≤ cs.length) : bd1 vars env cs off sz r (some xs) = evBuild vars env (putAt cs off xs) r := by
  simp only [bd1, h1, h2, and_self, if_true]
theorem e_append {sz bytes : Nat} {s x : Opd} : evOp call vars env h (.append sz bytes s x) = evAppend h sz bytes (getO vars env s) (getO vars env x) := rfl
theorem cl_agg {cs : List AV} : (AV.agg cs).cl = some cs := rfl
theorem cl_int {k : IntKind} {n : Int} : (AV.v (.int k n)).cl = some [.v (.int k n)] := rfl
theorem ap_nil {sz bytes : Nat} : evAppend h sz bytes (.v (.slice none 0 0)) (.v (.slice none 0 0)) = some (.v (.slice none 0 0), h) := rfl
theorem ap_empty {sz bytes : Nat} {ex nn : Bool} : evAppend h sz bytes (.v (.slice none 0 0)) (.slc sz ex nn []) = some (.v (.slice none 0 0), h) := by
  simp [evAppend, elemsOf]
theorem ap_new {sz bytes : Nat} {ex nn : Bool} {l : List AV} (hl : l ≠ []) (hf : fits l.length bytes = true) : evAppend h sz bytes (.v (.slice none 0 0)) (.slc sz ex nn l) = some (.own sz h.length 0 0 l.length, h ++ [.row sz 0 l 0]) := by
  simp [evAppend, elemsOf, hl, hf]

/-! ### Leaving -/
def lvf (h : List AO) (v : AV) : Option (AV × List AO) := match v.frz2 0 h with
  | some r => some (r, [])
  | none => none
def lvs (h : List AO) (rs : Option (List AV)) : Option (AV × List AO) := match rs with
  | some rs => lvf h (pack rs)
  | none => none
def lv (rs : List CRes) (r : CRun) : Option (AV × List AO) := match r with
  | some (.normal, vars, h) | some (.ret, vars, h) => lvs h (rs.mapM (resOf vars h))
  | _ => none
theorem leave_lv {c : CFun} {r : CRun} : leave 0 c r = lv c.res r := by
  have key : ∀ (vars : List AV) (h : List AO), (match (c.res.mapM (resOf vars h)).bind fun rs => (pack rs).frz2 0 h with
      | some r => if 0 ≤ h.length ∧ (h.take 0).all (AO.below 0) = true then some (r, h.take 0) else none
      | none => none) = lvs h (c.res.mapM (resOf vars h)) := by
    intro vars h
    cases c.res.mapM (resOf vars h) with
    | none => rfl
    | some rs =>
      simp only [Option.bind_some, lvs, lvf]
      cases (pack rs).frz2 0 h with
      | none => rfl
      | some r => simp
  cases r with
  | none => rfl
  | some q =>
    obtain ⟨x, vars, h⟩ := q
    cases x with
    | normal => exact key _ _
    | ret => exact key _ _
    | exit id => rfl
theorem lv_ret {vars : List AV} {rs : List CRes} : lv rs (some (.ret, vars, h)) = lvs h (rs.mapM (resOf vars h)) := rfl
theorem lv_normal {vars : List AV} {rs : List CRes} : lv rs (some (.normal, vars, h)) = lvs h (rs.mapM (resOf vars h)) := rfl
theorem res1 {vars : List AV} {i : Nat} : lvs h ([CRes.var i].mapM (resOf vars h)) = lvf h (getO vars [] (.var i)) := rfl
def lv2 (h : List AO) (a b : Option AV) : Option (AV × List AO) := match a, b with
  | some a, some b => lvf h (.tup [a, b])
  | _, _ => none
theorem res2 {vars : List AV} {a b : CRes} : lvs h ([a, b].mapM (resOf vars h)) = lv2 h (resOf vars h a) (resOf vars h b) := by
  simp only [List.mapM_cons, List.mapM_nil, Option.pure_def, Option.bind_eq_bind]
  cases resOf vars h a <;> cases resOf vars h b <;> rfl
theorem lv2_some {a b : AV} : lv2 h (some a) (some b) = lvf h (.tup [a, b]) := rfl
theorem res_var {vars : List AV} {i : Nat} : resOf vars h (.var i) = some (getO vars [] (.var i)) := rfl
theorem res_cell {vars : List AV} {i : Nat} {a : Bool} {sz : Nat} : resOf vars h (.cell i a sz) = evLoad h a sz (getO vars [] (.var i)) := rfl
theorem lvf_v {x : Value} : lvf h (.v x) = some (.v x, []) := rfl
theorem lvf_slc {sz : Nat} {ex nn : Bool} {l : List AV} : lvf h (.slc sz ex nn l) = some (.slc sz ex nn l, []) := rfl
/-- A call of a compiled function that is handed nothing to change. -/
theorem callW_pure {F : FuncId → Option FEntry} {f : FuncId} {c : CFun} (hf : F f = some (.code c)) {args : List AV} {r : AV × List AO} (hl : args.length = c.np) (k : Nat) (he : lv c.res (exec (callW F) k c.body (start c args) []) = some r) : callW F f args [] = some r :=
  callW_code hf hl k (by rw [← he]; exact leave_lv)
end
end Go.AE
end

/-! AE, part 32: loops as folds. -/
section
set_option linter.unusedVariables false
set_option linter.unusedSimpArgs false
namespace Go.AE
open Go Go.RowKit

/-- rounds i, i + 1, .. of a loop: each goes on with a new state, or leaves -/
def rounds {σ ρ : Type} (f : Nat → σ → σ ⊕ ρ) : Nat → Nat → σ → σ ⊕ ρ
  | 0, _, s => .inl s
  | d + 1, i, s => match f i s with
    | .inl s' => rounds f d (i + 1) s'
    | .inr r => .inr r

/-- A loop of n rounds, by what one round does. inv: what holds where a round begins (the variables as the loop goes on with them). -/
theorem loop_fold {call : CallF} {K : Nat} {b : CC} {keep : List Bool} {σ ρ : Type} (f : Nat → σ → σ ⊕ ρ) (inv : Nat → σ → List AV → List AO → Prop) (fin : ρ → AXit → List AV → List AO → Prop) (ends : σ → AXit → List AV → List AO → Prop) (n : Nat)
    (step : ∀ i s v h, i < n → inv i s v h → match f i s with
      | .inl s' => ∃ v' h', exec call K b v h = some (.normal, v', h') ∧ inv (i + 1) s' (clr keep v') h'
      | .inr r => ∃ x v' h', exec call K b v h = some (x, v', h') ∧ x ≠ .normal ∧ fin r x v' h')
    (last : ∀ s v h, inv n s v h → ∃ x v' h', exec call K b v h = some (x, v', h') ∧ x ≠ .normal ∧ ends s x v' h') :
    ∀ (d i : Nat) (s : σ) (v : List AV) (h : List AO), i + d = n → inv i s (clr keep v) h → ∃ x v' h', loopN (exec call K b) keep (d + 1) v h = some (x, v', h') ∧ (match rounds f d i s with
      | .inl s' => ends s' x v' h'
      | .inr r => fin r x v' h') := by
  have out : ∀ {m : Nat} {v : List AV} {h : List AO} {x : AXit} {v' : List AV} {h' : List AO}, exec call K b (clr keep v) h = some (x, v', h') → x ≠ .normal → loopN (exec call K b) keep (m + 1) v h = some (x, v', h') := by
    intro m v h x v' h' he hx
    cases x with
    | normal => exact absurd rfl hx
    | exit id => exact loop_exit he
    | ret => exact loop_ret he
  intro d
  induction d with
  | zero =>
    intro i s v h hi hv
    have : i = n := by omega
    subst this
    obtain ⟨x, v', h', h1, h2, h3⟩ := last s _ _ hv
    exact ⟨x, v', h', out h1 h2, h3⟩
  | succ d ih =>
    intro i s v h hi hv
    have hs := step i s _ _ (by omega) hv
    simp only [rounds]
    cases hf : f i s with
    | inl s' =>
      rw [hf] at hs
      obtain ⟨v', h', h1, h2⟩ := hs
      rw [loop_normal h1]
      exact ih (i + 1) s' v' h' (by omega) h2
    | inr r =>
      rw [hf] at hs
      obtain ⟨x, v', h', h1, h2, h3⟩ := hs
      exact ⟨x, v', h', out h1 h2, h3⟩

/-! ### Objects of a caller's, and those made since -/
theorem own_get {h l : List AO} {k : Nat} : (h ++ l)[h.length + k]? = l[k]? := by
  rw [List.getElem?_append_right (by omega)]
  simp
theorem own_get0 {h l : List AO} : (h ++ l)[h.length]? = l[0]? := own_get (k := 0)
theorem own_set {h l : List AO} {k : Nat} {x : AO} : (h ++ l).set (h.length + k) x = h ++ l.set k x := by
  rw [List.set_append_right _ _ (by omega)]
  simp
theorem own_set0 {h l : List AO} {x : AO} : (h ++ l).set h.length x = h ++ l.set 0 x := own_set (k := 0)
theorem his_get {h l : List AO} {id : Nat} {o : AO} (ho : h[id]? = some o) : (h ++ l)[id]? = some o := by
  rw [List.getElem?_append_left (List.getElem?_eq_some_iff.1 ho).1]; exact ho
theorem his_set {h l : List AO} {id : Nat} {x : AO} (hlt : id < h.length) : (h ++ l).set id x = h.set id x ++ l := List.set_append_left _ _ hlt
theorem set_get {h : List AO} {id : Nat} {x : AO} (hlt : id < h.length) : (h.set id x)[id]? = some x := List.getElem?_set_self hlt
end Go.AE
end

/-! AE, part 33: a function's own objects, behind those of its caller. -/
section
set_option linter.unusedVariables false
set_option linter.unusedSimpArgs false
namespace Go.AE
open Go Go.RowKit

def ldAt (l : List AO) (k : Nat) (a : Bool) (sz o : Nat) : Option AV := match l[k]? with
  | some (.box cs) => if o + sz ≤ cs.length then asEl a ((cs.drop o).take sz) else none
  | _ => none
def stAt (l : List AO) (sz k o : Nat) (x : AV) : Option (List AO) := match l[k]? with
  | some (.box cs) => match x.cl with
    | some xs => if xs.length = sz ∧ o + sz ≤ cs.length then some (l.set k (.box (putAt cs o xs))) else none
    | none => none
  | _ => none
def preH (H : List AO) : Option (List AO) → Option (List AO)
  | some l => some (H ++ l)
  | none => none
section
variable {H l : List AO} {B : Nat}
theorem preH_some : preH H (some l) = some (H ++ l) := rfl
theorem obj_get (hB : H.length = B) {k : Nat} : (H ++ l)[B + k]? = l[k]? := by subst hB; exact own_get
theorem obj_set (hB : H.length = B) {k : Nat} {x : AO} : (H ++ l).set (B + k) x = H ++ l.set k x := by subst hB; exact own_set
theorem own_ld (hB : H.length = B) {a : Bool} {sz k o : Nat} : evLoad (H ++ l) a sz (.ptr (B + k) o) = ldAt l k a sz o := by
  simp only [evLoad, obj_get hB, ldAt]
  cases l[k]? with
  | none => rfl
  | some b => cases b <;> rfl
theorem own_ld0 (hB : H.length = B) {a : Bool} {sz o : Nat} : evLoad (H ++ l) a sz (.ptr B o) = ldAt l 0 a sz o := own_ld hB (k := 0)
theorem own_st (hB : H.length = B) {sz k o : Nat} {x : AV} : evStore (H ++ l) sz (.ptr (B + k) o) x = preH H (stAt l sz k o x) := by
  simp only [evStore, obj_get hB, stAt]
  cases l[k]? with
  | none => rfl
  | some b =>
    cases b with
    | box cs =>
      simp only
      cases x.cl with
      | none => rfl
      | some xs => simp only [obj_set hB]; split <;> rfl
    | _ => rfl
theorem own_st0 (hB : H.length = B) {sz o : Nat} {x : AV} : evStore (H ++ l) sz (.ptr B o) x = preH H (stAt l sz 0 o x) := own_st hB (k := 0)
theorem own_bx (hB : H.length = B) {cs : List AV} : bx (H ++ l) (some cs) = some (.ptr (B + l.length) 0, H ++ (l ++ [.box cs])) := by
  simp only [bx, List.length_append, hB, List.append_assoc]
theorem ep_ld {h : List AO} {a : Bool} {sz n o : Nat} {cs : List AV} : evLoad h a sz (.ip cs) = if sz ≤ cs.length then asEl a (cs.take sz) else none := rfl

/-- leaving, behind the objects of a caller -/
def lvo (B : Nat) (H l : List AO) (rs : Option (List AV)) : Option (AV × List AO) := match rs with
  | some rs => match (pack rs).frz2 B (H ++ l) with
    | some r => some (r, H)
    | none => none
  | none => none
theorem leave_own {c : CFun} {vars : List AV} (hB : H.length = B) (hb : H.all (AO.below B) = true) : leave B c (some (.ret, vars, H ++ l)) = lvo B H l (c.res.mapM (resOf vars (H ++ l))) := by
  subst hB
  simp only [leave, lvo]
  cases c.res.mapM (resOf vars (H ++ l)) with
  | none => rfl
  | some rs =>
    simp only [Option.bind_some]
    cases (pack rs).frz2 H.length (H ++ l) with
    | none => rfl
    | some r =>
      have : (H ++ l).take H.length = H := by simp
      simp only [this]
      rw [if_pos ⟨by simp, hb⟩]
theorem own_res1 {vars : List AV} {a : CRes} {x : AV} (h : resOf vars (H ++ l) a = some x) : [a].mapM (resOf vars (H ++ l)) = some [x] := by
  simp [h]
theorem own_res2 {vars : List AV} {a b : CRes} {x y : AV} (h : resOf vars (H ++ l) a = some x) (h' : resOf vars (H ++ l) b = some y) : [a, b].mapM (resOf vars (H ++ l)) = some [x, y] := by
  simp [h, h']
theorem lvo_one {x r : AV} (h : x.frz2 B (H ++ l) = some r) : lvo B H l (some [x]) = some (r, H) := by simp [lvo, pack, h]
theorem lvo_two {x y r s : AV} (h : x.frz1 B (H ++ l) = some r) (h' : y.frz1 B (H ++ l) = some s) : lvo B H l (some [x, y]) = some (.tup [r, s], H) := by
  simp [lvo, pack, AV.frz2, h, h']

theorem callW_own {F : FuncId → Option FEntry} {f : FuncId} {c : CFun} (hf : F f = some (.code c)) {args : List AV} {r : AV × List AO} (hl : args.length = c.np) (k : Nat) (he : leave H.length c (exec (callW F) k c.body (start c args) (H ++ [])) = some r) : callW F f args H = some r :=
  callW_code hf hl k (by rw [List.append_nil] at he; exact he)
theorem cl_nil : (AV.v (.slice none 0 0)).cl = some [.v (.slice none 0 0)] := rfl
theorem cl_str {s : ByteArray} : (AV.v (.string s)).cl = some [.v (.string s)] := rfl
theorem cl_bool {b : Bool} : (AV.v (.bool b)).cl = some [.v (.bool b)] := rfl
theorem cl_slc {sz : Nat} {ex nn : Bool} {l : List AV} : (AV.slc sz ex nn l).cl = some [.slc sz ex nn l] := rfl
theorem cl_own {sz id ver off n : Nat} : (AV.own sz id ver off n).cl = some [.own sz id ver off n] := rfl
/-- max and min -/
def mmH (h : List AO) (mx : Bool) : AV → AV → Option (AV × List AO)
  | .v (.int k a), .v (.int _ b) => some (.v (.int k (if mx then (if a < b then b else a) else (if b < a then b else a))), h)
  | _, _ => none
theorem e_mm {call : CallF} {vars env : List AV} {h : List AO} {mx : Bool} {x y : Opd} : evOp call vars env h (.mm mx x y) = mmH h mx (getO vars env x) (getO vars env y) := by
  simp only [evOp, mmH]
  rfl
theorem mm_max {h : List AO} {k k' : IntKind} {a b : Int} : mmH h true (.v (.int k a)) (.v (.int k' b)) = some (.v (.int k (max a b)), h) := by
  have e : (if a < b then b else a) = max a b := by rw [Int.max_def]; split <;> split <;> omega
  simp only [mmH, if_true, e]
theorem mm_min {h : List AO} {k k' : IntKind} {a b : Int} : mmH h false (.v (.int k a)) (.v (.int k' b)) = some (.v (.int k (min a b)), h) := by
  have e : (if b < a then b else a) = min a b := by rw [Int.min_def]; split <;> split <;> omega
  simp only [mmH, Bool.false_eq_true, if_false, e]
def lvo1 (h : List AO) : Option AV → Option (AV × List AO)
  | some v => lvf h v
  | none => none
theorem res1c {h : List AO} {vars : List AV} {i sz : Nat} {a : Bool} : lvs h ([CRes.cell i a sz].mapM (resOf vars h)) = lvo1 h (evLoad h a sz (getO vars [] (.var i))) := by
  simp only [List.mapM_cons, List.mapM_nil, Option.pure_def, Option.bind_eq_bind, res_cell]
  cases evLoad h a sz (getO vars [] (.var i)) <;> rfl
theorem lvo1_some {h : List AO} {v : AV} : lvo1 h (some v) = lvf h v := rfl
theorem e_callh {call : CallF} {vars env : List AV} {h : List AO} {f : FuncId} {args : List Opd} : evOp call vars env h (.call false f args) = call f (args.map (getO vars env)) h := rfl

theorem below0_mono {n m : Nat} (hle : n ≤ m) : ∀ x : AV, x.below0 n = true → x.below0 m = true := by
  intro x hx
  cases x with
  | fn f a b => cases a <;> cases b <;> simp_all [AV.below0]
  | _ => simp_all [AV.below0] <;> omega
theorem below1_mono {n m : Nat} (hle : n ≤ m) : ∀ x : AV, x.below1 n = true → x.below1 m = true := by
  intro x hx
  cases x with
  | fn f a b =>
    simp only [AV.below1, Bool.and_eq_true, List.all_eq_true] at hx ⊢
    exact ⟨fun y hy => below0_mono hle y (hx.1 y hy), fun y hy => below0_mono hle y (hx.2 y hy)⟩
  | _ => simp only [AV.below1] at hx ⊢; exact below0_mono hle _ hx
theorem below_mono {n m : Nat} (hle : n ≤ m) (o : AO) (h : o.below n = true) : o.below m = true := by
  cases o with
  | box cs => simp only [AO.below, List.all_eq_true] at h ⊢; exact fun y hy => below1_mono hle y (h y hy)
  | _ => rfl
theorem all_below_mono {n m : Nat} (hle : n ≤ m) {H : List AO} (h : H.all (AO.below n) = true) : H.all (AO.below m) = true := by
  simp only [List.all_eq_true] at h ⊢; exact fun y hy => below_mono hle y (h y hy)
end
end Go.AE
end

/-! AE, part 34: slices that are read, slices that are made. -/
section
set_option linter.unusedVariables false
set_option linter.unusedSimpArgs false
namespace Go.AE
open Go Go.RowKit

/-- a slice that is read, with its elements -/
inductive Sl (sz : Nat) : AV → List AV → Prop
  | nil : Sl sz (.v (.slice none 0 0)) []
  | slc (ex nn : Bool) (es : List AV) : Sl sz (.slc sz ex nn es) es
section
variable {sz : Nat} {c : AV} {es : List AV} {h : List AO}
theorem Sl.len (s : Sl sz c es) (h : List AO) : evLen h .slice c = some es.length := by cases s <;> rfl
theorem Sl.ia (s : Sl sz c es) {i : Nat} {e : AV} (he : es[i]? = some e) (h : List AO) : iaV h sz c (some i) = some (.ip e.cells) := by
  cases s with
  | nil => simp at he
  | slc ex nn es => exact iaV_slc he
theorem Sl.snap (s : Sl sz c es) (h : List AO) : c.snap1 h = some c := by cases s <;> rfl
theorem Sl.snap0 (s : Sl sz c es) (h : List AO) : c.snap0 h = some c := by cases s <;> rfl
theorem Sl.elems (s : Sl sz c es) (h : List AO) : elemsOf h sz c = some es := by
  cases s with
  | nil => rfl
  | slc ex nn es => simp [elemsOf]
theorem Sl.frz (s : Sl sz c es) (B : Nat) (h : List AO) : c.frz0 B h = some c := by cases s <;> rfl
theorem Sl.bel (s : Sl sz c es) (B : Nat) : c.below0 B = true := by cases s <;> rfl
theorem Sl.cl (s : Sl sz c es) : c.cl = some [c] := by cases s <;> rfl
theorem Sl.lvf (s : Sl sz c es) (h : List AO) : lvf h c = some (c, []) := by cases s <;> rfl
end

/-- a slice that is being made by append -/
inductive Acc (sz : Nat) (h : List AO) : AV → List AV → Prop
  | nil : Acc sz h (.v (.slice none 0 0)) []
  | own (id ver k : Nat) (es : List AV) (hr : h[id]? = some (.row sz ver es k)) (hk : k ≤ es.length) (hne : es ≠ []) : Acc sz h (.own sz id ver 0 es.length) es
/-- the variables of h are in h', too -/
def Keeps (h h' : List AO) : Prop := h.length ≤ h'.length ∧ ∀ (j : Nat) (cs : List AV), h[j]? = some (.box cs) → h'[j]? = some (.box cs)
section
variable {sz : Nat} {h h' : List AO} {c : AV} {es : List AV}
theorem Keeps.refl (h : List AO) : Keeps h h := ⟨Nat.le_refl _, fun _ _ e => e⟩
theorem Keeps.trans {h'' : List AO} (a : Keeps h h') (b : Keeps h' h'') : Keeps h h'' := ⟨Nat.le_trans a.1 b.1, fun j cs e => b.2 j cs (a.2 j cs e)⟩
theorem Keeps.app (h : List AO) (x : AO) : Keeps h (h ++ [x]) := ⟨by simp, fun j cs e => his_get e⟩
theorem Acc.app (a : Acc sz h c es) (x : AO) : Acc sz (h ++ [x]) c es := by
  cases a with
  | nil => exact .nil
  | own id ver k es hr hk hne => exact .own id ver k es (his_get hr) hk hne
theorem Acc.len (a : Acc sz h c es) : evLen h .slice c = some es.length := by
  cases a with
  | nil => rfl
  | own id ver k es hr hk hne => simp [evLen, rowAt, hr]
theorem Acc.add (a : Acc sz h c es) {bytes : Nat} {x : AV} {ys : List AV} (hx : elemsOf h sz x = some ys) (hf : fits (es.length + ys.length) bytes = true) : ∃ c' h', evAppend h sz bytes c x = some (c', h') ∧ Acc sz h' c' (es ++ ys) ∧ Keeps h h' := by
  cases a with
  | nil =>
    by_cases hys : ys = []
    · subst hys
      exact ⟨_, _, by simp [evAppend, hx], .nil, .refl h⟩
    · refine ⟨.own sz h.length 0 0 ys.length, h ++ [.row sz 0 ys 0], by simp [evAppend, hx, hys, by simpa using hf], ?_, .app _ _⟩
      exact .own h.length 0 0 ys (by simp) (Nat.zero_le _) hys
  | own id ver k es hr hk hne =>
    by_cases hys : ys = []
    · subst hys
      refine ⟨.own sz id ver 0 es.length, h, by simp [evAppend, hx, rowAt, hr, hk], ?_, .refl h⟩
      rw [List.append_nil]
      exact .own id ver k es hr hk hne
    · have hlt : id < h.length := (List.getElem?_eq_some_iff.1 hr).1
      have := Acc.own (sz := sz) (h := h.set id (.row sz (ver + 1) (es ++ ys) k)) id (ver + 1) k (es ++ ys) (by simp [hlt]) (by simp; omega) (by simp [hys])
      rw [List.length_append] at this
      refine ⟨_, h.set id (.row sz (ver + 1) (es ++ ys) k), ?_, this, by simp, ?_⟩
      · simp [evAppend, hx, rowAt, hr, hys, hf, hk]
      · intro j cs e
        by_cases hj : j = id
        · subst hj; rw [hr] at e; cases e
        · rw [List.getElem?_set_ne (Ne.symm hj)]; exact e
theorem Acc.frz0 (a : Acc sz h c es) : ∃ c', c.frz0 0 h = some c' ∧ Sl sz c' es := by
  cases a with
  | nil => exact ⟨_, rfl, .nil⟩
  | own id ver k es hr hk hne => exact ⟨.slc sz false false es, by simp [AV.frz0, rowAt, hr], .slc _ _ _⟩
theorem Acc.lvf (a : Acc sz h c es) : ∃ c', lvf h c = some (c', []) ∧ Sl sz c' es := by
  obtain ⟨c', h1, h2⟩ := a.frz0
  refine ⟨c', ?_, h2⟩
  cases a with
  | nil => simp only [AV.frz0] at h1; cases h1; rfl
  | own id ver k es hr hk hne => simp only [Go.AE.lvf, AV.frz2, AV.frz1, h1]
theorem Acc.cl (a : Acc sz h c es) : c.cl = some [c] := by cases a <;> rfl
/-- what was made is fixed, to be handed on -/
theorem Acc.fix (a : Acc sz h c es) : Acc sz (raise1 h c) c es ∧ Keeps h (raise1 h c) ∧ ∃ c', c.snap1 (raise1 h c) = some c' ∧ Sl sz c' es := by
  cases a with
  | nil => exact ⟨.nil, .refl h, _, rfl, .nil⟩
  | own id ver k es hr hk hne =>
    have hlt : id < h.length := (List.getElem?_eq_some_iff.1 hr).1
    have e : raise1 h (.own sz id ver 0 es.length) = h.set id (.row sz ver es es.length) := by
      simp [raise1, raise0, raise, rowAt, hr, Nat.max_eq_right hk]
    rw [e]
    have hg : (h.set id (.row sz ver es es.length))[id]? = some (.row sz ver es es.length) := by simp [hlt]
    refine ⟨.own id ver es.length es hg (Nat.le_refl _) hne, ⟨by simp, ?_⟩, .slc sz false false es, by simp [AV.snap1, AV.snap0, rowAt, hg], .slc _ _ _⟩
    intro j cs ej
    by_cases hj : j = id
    · subst hj; rw [hr] at ej; cases ej
    · rw [List.getElem?_set_ne (Ne.symm hj)]; exact ej
theorem elems_one {ex nn : Bool} {x : AV} : elemsOf h sz (.slc sz ex nn [x]) = some [x] := by simp [elemsOf]

/-! ### Variables by what they hold -/
theorem bx_ld {id : Nat} {cs : List AV} (hb : h[id]? = some (.box cs)) {a : Bool} {n o : Nat} : evLoad h a n (.ptr id o) = if o + n ≤ cs.length then asEl a ((cs.drop o).take n) else none := by
  simp only [evLoad, hb]
theorem bx_st {id : Nat} {cs xs : List AV} {x : AV} (hb : h[id]? = some (.box cs)) (hx : x.cl = some xs) {n o : Nat} (h1 : xs.length = n) (h2 : o + n ≤ cs.length) : evStore h n (.ptr id o) x = some (h.set id (.box (putAt cs o xs))) := by
  simp only [evStore, hb, hx, h1, h2, and_self, if_true]

/-! ### Rows that are made whole -/
def mkS (h : List AO) (sz bytes : Nat) (zero : List Value) (a b : AV) : Option (AV × List AO) := match a, b with
  | .v (.int .i64 n), .v (.int .i64 m) =>
    if 0 ≤ n ∧ n ≤ m ∧ m ≤ 9223372036854775807 ∧ bytes * m ≤ 281474976710656 then
      some (.own sz h.length 0 0 n.toNat, h ++ [.row sz 0 (List.replicate n.toNat (zeroEl zero)) 0])
    else none
  | _, _ => none
theorem e_mkslice {call : CallF} {vars env : List AV} {bytes : Nat} {zero : List Value} {l c : Opd} : evOp call vars env h (.mkslice sz bytes zero l c) = mkS h sz bytes zero (getO vars env l) (getO vars env c) := by
  simp only [evOp, mkS]
  rfl
theorem mkS_own {H l : List AO} {B : Nat} (hB : H.length = B) {bytes : Nat} {zero : List Value} {n : Nat} (h1 : (n : Int) ≤ 9223372036854775807) (h2 : (bytes : Int) * (n : Int) ≤ 281474976710656) : mkS (H ++ l) sz bytes zero (.v (.int .i64 n)) (.v (.int .i64 n)) = some (.own sz (B + l.length) 0 0 n, H ++ (l ++ [.row sz 0 (List.replicate n (zeroEl zero)) 0])) := by
  subst hB
  simp [mkS, h1, h2]
section
variable {H l : List AO} {B : Nat}
theorem own_row (hB : H.length = B) {k ver m : Nat} {L : List AV} {f : Nat} (hr : l[k]? = some (.row sz ver L f)) (hm : m ≤ L.length) : rowAt (H ++ l) sz (B + k) ver m = some (L, f) := by
  simp only [rowAt, obj_get hB, hr, and_self, true_and, hm, if_true]
theorem own_ia (hB : H.length = B) {k ver n i : Nat} {L : List AV} {f : Nat} (hr : l[k]? = some (.row sz ver L f)) (hm : n ≤ L.length) (hi : i < n) : iaV (H ++ l) sz (.own sz (B + k) ver 0 n) (some i) = some (.ep sz (B + k) ver i 0) := by
  have := own_row (m := n) hB hr hm
  simp only [iaV, hi, and_self, if_true, this, Option.map_some, Nat.zero_add]
theorem own_est (hB : H.length = B) {k ver i : Nat} {L : List AV} {el : List AV} (hr : l[k]? = some (.row sz ver L 0)) (he : L[i]? = some (.agg el)) (hel : el.length = sz) {x : AV} {xs : List AV} (hs : x.snap1 (H ++ l) = some x) (hx : x.cl = some xs) (hn : xs.length = sz) (hc : xs.all AV.isCell = true) :
    evStore (H ++ l) sz (.ep sz (B + k) ver i 0) x = some (H ++ l.set k (.row sz ver (L.set i (.agg xs)) 0)) := by
  have hi : i < L.length := (List.getElem?_eq_some_iff.1 he).1
  have hp : ∀ (xs a b : List AV), a.length + xs.length = b.length → putAt b a.length xs = b.take a.length ++ xs := by
    intro xs
    induction xs with
    | nil => intro a b hl; simp only [putAt, List.append_nil]; rw [List.take_of_length_le (by simp at hl; omega)]
    | cons x xs ih =>
      intro a b hl
      simp only [putAt]
      have := ih (b.take a.length ++ [x]) (b.set a.length x) (by simp at hl ⊢; omega)
      have e : (b.take a.length ++ [x]).length = a.length + 1 := by simp at hl ⊢; omega
      rw [e] at this
      rw [this]
      have hlt : a.length < b.length := by simp at hl; omega
      rw [List.take_add_one, List.getElem?_set_self hlt, List.take_set, List.set_eq_of_length_le (by simp; omega)]
      simp
  have := hp xs [] el (by simp; omega)
  simp only [List.length_nil, List.take_zero, List.nil_append] at this
  simp only [evStore, own_row hB hr hi, he, hs, Option.bind_some, hx, hn, hc, AV.cells, hel, Nat.zero_le, Nat.zero_add, Nat.le_refl, and_self, if_true, putEl, this, obj_set hB]
end
end
end Go.AE
end
