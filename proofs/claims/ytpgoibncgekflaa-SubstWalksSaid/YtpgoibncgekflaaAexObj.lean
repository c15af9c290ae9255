/- AE, part 33: a function's own objects, behind those of its caller. -/
import Derived.Test.YtpgoibncgekflaaAexFold
set_option linter.unusedVariables false
set_option linter.unusedSimpArgs false
namespace Go.AE
open Go Go.RowKit

def ldAt (l : List AO) (k : Nat) (a : Bool) (sz o : Nat) : Option AV := match l[k]? with
  | some (.box cs) => if o + sz ≤ cs.length then asEl a ((cs.drop o).take sz) else none
  | _ => none
def stAt (l : List AO) (sz k o : Nat) (x : AV) : Option (List AO) := match l[k]? with
  | some (.box cs) => match x.cl with
    | some xs => if xs.length = sz ∧ o + sz ≤ cs.length then some (l.set k (.box (putAt cs o xs))) else none
    | none => none
  | _ => none
def preH (H : List AO) : Option (List AO) → Option (List AO)
  | some l => some (H ++ l)
  | none => none
section
variable {H l : List AO} {B : Nat}
theorem preH_some : preH H (some l) = some (H ++ l) := rfl
theorem obj_get (hB : H.length = B) {k : Nat} : (H ++ l)[B + k]? = l[k]? := by subst hB; exact own_get
theorem obj_set (hB : H.length = B) {k : Nat} {x : AO} : (H ++ l).set (B + k) x = H ++ l.set k x := by subst hB; exact own_set
theorem own_ld (hB : H.length = B) {a : Bool} {sz k o : Nat} : evLoad (H ++ l) a sz (.ptr (B + k) o) = ldAt l k a sz o := by
  simp only [evLoad, obj_get hB, ldAt]
  cases l[k]? with
  | none => rfl
  | some b => cases b <;> rfl
theorem own_ld0 (hB : H.length = B) {a : Bool} {sz o : Nat} : evLoad (H ++ l) a sz (.ptr B o) = ldAt l 0 a sz o := own_ld hB (k := 0)
theorem own_st (hB : H.length = B) {sz k o : Nat} {x : AV} : evStore (H ++ l) sz (.ptr (B + k) o) x = preH H (stAt l sz k o x) := by
  simp only [evStore, obj_get hB, stAt]
  cases l[k]? with
  | none => rfl
  | some b =>
    cases b with
    | box cs =>
      simp only
      cases x.cl with
      | none => rfl
      | some xs => simp only [obj_set hB]; split <;> rfl
    | _ => rfl
theorem own_st0 (hB : H.length = B) {sz o : Nat} {x : AV} : evStore (H ++ l) sz (.ptr B o) x = preH H (stAt l sz 0 o x) := own_st hB (k := 0)
theorem own_bx (hB : H.length = B) {cs : List AV} : bx (H ++ l) (some cs) = some (.ptr (B + l.length) 0, H ++ (l ++ [.box cs])) := by
  simp only [bx, List.length_append, hB, List.append_assoc]
theorem ep_ld {h : List AO} {a : Bool} {sz n o : Nat} {cs : List AV} : evLoad h a sz (.ip cs) = if sz ≤ cs.length then asEl a (cs.take sz) else none := rfl

/-- leaving, behind the objects of a caller -/
def lvo (B : Nat) (H l : List AO) (rs : Option (List AV)) : Option (AV × List AO) := match rs with
  | some rs => match (pack rs).frz2 B (H ++ l) with
    | some r => some (r, H)
    | none => none
  | none => none
theorem leave_own {c : CFun} {vars : List AV} (hB : H.length = B) (hb : H.all (AO.below B) = true) : leave B c (some (.ret, vars, H ++ l)) = lvo B H l (c.res.mapM (resOf vars (H ++ l))) := by
  subst hB
  simp only [leave, lvo]
  cases c.res.mapM (resOf vars (H ++ l)) with
  | none => rfl
  | some rs =>
    simp only [Option.bind_some]
    cases (pack rs).frz2 H.length (H ++ l) with
    | none => rfl
    | some r =>
      have : (H ++ l).take H.length = H := by simp
      simp only [this]
      rw [if_pos ⟨by simp, hb⟩]
theorem own_res1 {vars : List AV} {a : CRes} {x : AV} (h : resOf vars (H ++ l) a = some x) : [a].mapM (resOf vars (H ++ l)) = some [x] := by
  simp [h]
theorem own_res2 {vars : List AV} {a b : CRes} {x y : AV} (h : resOf vars (H ++ l) a = some x) (h' : resOf vars (H ++ l) b = some y) : [a, b].mapM (resOf vars (H ++ l)) = some [x, y] := by
  simp [h, h']
theorem lvo_one {x r : AV} (h : x.frz2 B (H ++ l) = some r) : lvo B H l (some [x]) = some (r, H) := by simp [lvo, pack, h]
theorem lvo_two {x y r s : AV} (h : x.frz1 B (H ++ l) = some r) (h' : y.frz1 B (H ++ l) = some s) : lvo B H l (some [x, y]) = some (.tup [r, s], H) := by
  simp [lvo, pack, AV.frz2, h, h']

theorem callW_own {F : FuncId → Option FEntry} {f : FuncId} {c : CFun} (hf : F f = some (.code c)) {args : List AV} {r : AV × List AO} (hl : args.length = c.np) (k : Nat) (he : leave H.length c (exec (callW F) k c.body (start c args) (H ++ [])) = some r) : callW F f args H = some r :=
  callW_code hf hl k (by rw [List.append_nil] at he; exact he)
theorem cl_nil : (AV.v (.slice none 0 0)).cl = some [.v (.slice none 0 0)] := rfl
theorem cl_str {s : ByteArray} : (AV.v (.string s)).cl = some [.v (.string s)] := rfl
theorem cl_bool {b : Bool} : (AV.v (.bool b)).cl = some [.v (.bool b)] := rfl
theorem cl_slc {sz : Nat} {ex nn : Bool} {l : List AV} : (AV.slc sz ex nn l).cl = some [.slc sz ex nn l] := rfl
theorem cl_own {sz id ver off n : Nat} : (AV.own sz id ver off n).cl = some [.own sz id ver off n] := rfl
def lvo1 (h : List AO) : Option AV → Option (AV × List AO)
  | some v => lvf h v
  | none => none
theorem res1c {h : List AO} {vars : List AV} {i sz : Nat} {a : Bool} : lvs h ([CRes.cell i a sz].mapM (resOf vars h)) = lvo1 h (evLoad h a sz (getO vars [] (.var i))) := by
  simp only [List.mapM_cons, List.mapM_nil, Option.pure_def, Option.bind_eq_bind, res_cell]
  cases evLoad h a sz (getO vars [] (.var i)) <;> rfl
theorem lvo1_some {h : List AO} {v : AV} : lvo1 h (some v) = lvf h v := rfl
theorem e_callh {call : CallF} {vars env : List AV} {h : List AO} {f : FuncId} {args : List Opd} : evOp call vars env h (.call false f args) = call f (args.map (getO vars env)) h := rfl

theorem below0_mono {n m : Nat} (hle : n ≤ m) : ∀ x : AV, x.below0 n = true → x.below0 m = true := by
  intro x hx
  cases x with
  | fn f a b => cases a <;> cases b <;> simp_all [AV.below0]
  | _ => simp_all [AV.below0] <;> omega
theorem below1_mono {n m : Nat} (hle : n ≤ m) : ∀ x : AV, x.below1 n = true → x.below1 m = true := by
  intro x hx
  cases x with
  | fn f a b =>
    simp only [AV.below1, Bool.and_eq_true, List.all_eq_true] at hx ⊢
    exact ⟨fun y hy => below0_mono hle y (hx.1 y hy), fun y hy => below0_mono hle y (hx.2 y hy)⟩
  | _ => simp only [AV.below1] at hx ⊢; exact below0_mono hle _ hx
theorem below_mono {n m : Nat} (hle : n ≤ m) (o : AO) (h : o.below n = true) : o.below m = true := by
  cases o with
  | box cs => simp only [AO.below, List.all_eq_true] at h ⊢; exact fun y hy => below1_mono hle y (h y hy)
  | _ => rfl
theorem all_below_mono {n m : Nat} (hle : n ≤ m) {H : List AO} (h : H.all (AO.below n) = true) : H.all (AO.below m) = true := by
  simp only [List.all_eq_true] at h ⊢; exact fun y hy => below_mono hle y (h y hy)
end
end Go.AE
