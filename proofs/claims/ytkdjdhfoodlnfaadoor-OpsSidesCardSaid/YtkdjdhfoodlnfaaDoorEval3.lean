/- The evaluator of compiled functions, proved sound: texts put together. -/
import Derived.Test.YtkdjdhfoodlnfaaDoorEval2
/-! AE, part 33: a function's own objects, behind those of its caller. -/
section
set_option linter.unusedVariables false
set_option linter.unusedSimpArgs false
namespace Go.AE
open Go Go.RowKit

def ldAt (l : List AO) (k : Nat) (a : Bool) (sz o : Nat) : Option AV := match l[k]? with
  | some (.box cs) => if o + sz ≤ cs.length then asEl a ((cs.drop o).take sz) else none
  | _ => none
def stAt (l : List AO) (sz k o : Nat) (x : AV) : Option (List AO) := match l[k]? with
  | some (.box cs) => match x.cl with
    | some xs => if xs.length = sz ∧ o + sz ≤ cs.length then some (l.set k (.box (putAt cs o xs))) else none
    | none => none
  | _ => none
def preH (H : List AO) : Option (List AO) → Option (List AO)
  | some l => some (H ++ l)
  | none => none
section
variable {H l : List AO} {B : Nat}
theorem preH_some : preH H (some l) = some (H ++ l) := rfl
theorem obj_get (hB : H.length = B) {k : Nat} : (H ++ l)[B + k]? = l[k]? := by subst hB; exact own_get
theorem obj_set (hB : H.length = B) {k : Nat} {x : AO} : (H ++ l).set (B + k) x = H ++ l.set k x := by subst hB; exact own_set
theorem own_ld (hB : H.length = B) {a : Bool} {sz k o : Nat} : evLoad (H ++ l) a sz (.ptr (B + k) o) = ldAt l k a sz o := by
  simp only [evLoad, obj_get hB, ldAt]
  cases l[k]? with
  | none => rfl
  | some b => cases b <;> rfl
theorem own_ld0 (hB : H.length = B) {a : Bool} {sz o : Nat} : evLoad (H ++ l) a sz (.ptr B o) = ldAt l 0 a sz o := own_ld hB (k := 0)
theorem own_st (hB : H.length = B) {sz k o : Nat} {x : AV} : evStore (H ++ l) sz (.ptr (B + k) o) x = preH H (stAt l sz k o x) := by
  simp only [evStore, obj_get hB, stAt]
  cases l[k]? with
  | none => rfl
  | some b =>
    cases b with
    | box cs =>
      simp only
      cases x.cl with
      | none => rfl
      | some xs => simp only [obj_set hB]; split <;> rfl
    | _ => rfl
theorem own_st0 (hB : H.length = B) {sz o : Nat} {x : AV} : evStore (H ++ l) sz (.ptr B o) x = preH H (stAt l sz 0 o x) := own_st hB (k := 0)
theorem own_bx (hB : H.length = B) {cs : List AV} : bx (H ++ l) (some cs) = some (.ptr (B + l.length) 0, H ++ (l ++ [.box cs])) := by
  simp only [bx, List.length_append, hB, List.append_assoc]
theorem ep_ld {h : List AO} {a : Bool} {sz n o : Nat} {cs : List AV} : evLoad h a sz (.ip cs) = if sz ≤ cs.length then asEl a (cs.take sz) else none := rfl

/-- leaving, behind the objects of a caller -/
def lvo (B : Nat) (H l : List AO) (rs : Option (List AV)) : Option (AV × List AO) := match rs with
  | some rs => match (pack rs).frz2 B (H ++ l) with
    | some r => some (r, H)
    | none => none
  | none => none
theorem leave_own {c : CFun} {vars : List AV} (hB : H.length = B) (hb : H.all (AO.below B) = true) : leave B c (some (.ret, vars, H ++ l)) = lvo B H l (c.res.mapM (resOf vars (H ++ l))) := by
  subst hB
  simp only [leave, lvo]
  cases c.res.mapM (resOf vars (H ++ l)) with
  | none => rfl
  | some rs =>
    simp only [Option.bind_some]
    cases (pack rs).frz2 H.length (H ++ l) with
    | none => rfl
    | some r =>
      have : (H ++ l).take H.length = H := by simp
      simp only [this]
      rw [if_pos ⟨by simp, hb⟩]
theorem own_res1 {vars : List AV} {a : CRes} {x : AV} (h : resOf vars (H ++ l) a = some x) : [a].mapM (resOf vars (H ++ l)) = some [x] := by
  simp [h]
theorem own_res2 {vars : List AV} {a b : CRes} {x y : AV} (h : resOf vars (H ++ l) a = some x) (h' : resOf vars (H ++ l) b = some y) : [a, b].mapM (resOf vars (H ++ l)) = some [x, y] := by
  simp [h, h']
theorem lvo_one {x r : AV} (h : x.frz2 B (H ++ l) = some r) : lvo B H l (some [x]) = some (r, H) := by simp [lvo, pack, h]
theorem lvo_two {x y r s : AV} (h : x.frz1 B (H ++ l) = some r) (h' : y.frz1 B (H ++ l) = some s) : lvo B H l (some [x, y]) = some (.tup [r, s], H) := by
  simp [lvo, pack, AV.frz2, h, h']

theorem callW_own {F : FuncId → Option FEntry} {f : FuncId} {c : CFun} (hf : F f = some (.code c)) {args : List AV} {r : AV × List AO} (hl : args.length = c.np) (k : Nat) (he : leave H.length c (exec (callW F) k c.body (start c args) (H ++ [])) = some r) : callW F f args H = some r :=
  callW_code hf hl k (by rw [List.append_nil] at he; exact he)
theorem cl_nil : (AV.v (.slice none 0 0)).cl = some [.v (.slice none 0 0)] := rfl
theorem cl_str {s : ByteArray} : (AV.v (.string s)).cl = some [.v (.string s)] := rfl
theorem cl_bool {b : Bool} : (AV.v (.bool b)).cl = some [.v (.bool b)] := rfl
theorem cl_slc {sz : Nat} {ex nn : Bool} {l : List AV} : (AV.slc sz ex nn l).cl = some [.slc sz ex nn l] := rfl
theorem cl_own {sz id ver off n : Nat} : (AV.own sz id ver off n).cl = some [.own sz id ver off n] := rfl
/-- max and min -/
def mmH (h : List AO) (mx : Bool) : AV → AV → Option (AV × List AO)
  | .v (.int k a), .v (.int _ b) => some (.v (.int k (if mx then (if a < b then b else a) else (if b < a then b else a))), h)
  | _, _ => none
theorem e_mm {call : CallF} {vars env : List AV} {h : List AO} {mx : Bool} {x y : Opd} : evOp call vars env h (.mm mx x y) = mmH h mx (getO vars env x) (getO vars env y) := by
  simp only [evOp, mmH]
  rfl
theorem mm_max {h : List AO} {k k' : IntKind} {a b : Int} : mmH h true (.v (.int k a)) (.v (.int k' b)) = some (.v (.int k (max a b)), h) := by
  have e : (if a < b then b else a) = max a b := by rw [Int.max_def]; split <;> split <;> omega
  simp only [mmH, if_true, e]
theorem mm_min {h : List AO} {k k' : IntKind} {a b : Int} : mmH h false (.v (.int k a)) (.v (.int k' b)) = some (.v (.int k (min a b)), h) := by
  have e : (if b < a then b else a) = min a b := by rw [Int.min_def]; split <;> split <;> omega
  simp only [mmH, Bool.false_eq_true, if_false, e]
def lvo1 (h : List AO) : Option AV → Option (AV × List AO)
  | some v => lvf h v
  | none => none
theorem res1c {h : List AO} {vars : List AV} {i sz : Nat} {a : Bool} : lvs h ([CRes.cell i a sz].mapM (resOf vars h)) = lvo1 h (evLoad h a sz (getO vars [] (.var i))) := by
  simp only [List.mapM_cons, List.mapM_nil, Option.pure_def, Option.bind_eq_bind, res_cell]
  cases evLoad h a sz (getO vars [] (.var i)) <;> rfl
theorem lvo1_some {h : List AO} {v : AV} : lvo1 h (some v) = lvf h v := rfl
theorem e_callh {call : CallF} {vars env : List AV} {h : List AO} {f : FuncId} {args : List Opd} : evOp call vars env h (.call false f args) = call f (args.map (getO vars env)) h := rfl

theorem below0_mono {n m : Nat} (hle : n ≤ m) : ∀ x : AV, x.below0 n = true → x.below0 m = true := by
  intro x hx
  cases x with
  | fn f a b => cases a <;> cases b <;> simp_all [AV.below0]
  | _ => simp_all [AV.below0] <;> omega
theorem below1_mono {n m : Nat} (hle : n ≤ m) : ∀ x : AV, x.below1 n = true → x.below1 m = true := by
  intro x hx
  cases x with
  | fn f a b =>
    simp only [AV.below1, Bool.and_eq_true, List.all_eq_true] at hx ⊢
    exact ⟨fun y hy => below0_mono hle y (hx.1 y hy), fun y hy => below0_mono hle y (hx.2 y hy)⟩
  | _ => simp only [AV.below1] at hx ⊢; exact below0_mono hle _ hx
theorem below_mono {n m : Nat} (hle : n ≤ m) (o : AO) (h : o.below n = true) : o.below m = true := by
  cases o with
  | box cs => simp only [AO.below, List.all_eq_true] at h ⊢; exact fun y hy => below1_mono hle y (h y hy)
  | _ => rfl
theorem all_below_mono {n m : Nat} (hle : n ≤ m) {H : List AO} (h : H.all (AO.below n) = true) : H.all (AO.below m) = true := by
  simp only [List.all_eq_true] at h ⊢; exact fun y hy => below_mono hle y (h y hy)
end
end Go.AE
end

/-! AE, part 34: slices that are read, slices that are made. -/
section
set_option linter.unusedVariables false
set_option linter.unusedSimpArgs false
namespace Go.AE
open Go Go.RowKit

/-- a slice that is read, with its elements -/
inductive Sl (sz : Nat) : AV → List AV → Prop
  | nil : Sl sz (.v (.slice none 0 0)) []
  | slc (ex nn : Bool) (es : List AV) : Sl sz (.slc sz ex nn es) es
section
variable {sz : Nat} {c : AV} {es : List AV} {h : List AO}
theorem Sl.len (s : Sl sz c es) (h : List AO) : evLen h .slice c = some es.length := by cases s <;> rfl
theorem Sl.ia (s : Sl sz c es) {i : Nat} {e : AV} (he : es[i]? = some e) (h : List AO) : iaV h sz c (some i) = some (.ip e.cells) := by
  cases s with
  | nil => simp at he
  | slc ex nn es => exact iaV_slc he
theorem Sl.snap (s : Sl sz c es) (h : List AO) : c.snap1 h = some c := by cases s <;> rfl
theorem Sl.snap0 (s : Sl sz c es) (h : List AO) : c.snap0 h = some c := by cases s <;> rfl
theorem Sl.elems (s : Sl sz c es) (h : List AO) : elemsOf h sz c = some es := by
  cases s with
  | nil => rfl
  | slc ex nn es => simp [elemsOf]
theorem Sl.frz (s : Sl sz c es) (B : Nat) (h : List AO) : c.frz0 B h = some c := by cases s <;> rfl
theorem Sl.bel (s : Sl sz c es) (B : Nat) : c.below0 B = true := by cases s <;> rfl
theorem Sl.cl (s : Sl sz c es) : c.cl = some [c] := by cases s <;> rfl
theorem Sl.lvf (s : Sl sz c es) (h : List AO) : lvf h c = some (c, []) := by cases s <;> rfl
end

/-- a slice that is being made by append -/
inductive Acc (sz : Nat) (h : List AO) : AV → List AV → Prop
  | nil : Acc sz h (.v (.slice none 0 0)) []
  | own (id ver k : Nat) (es : List AV) (hr : h[id]? = some (.row sz ver es k)) (hk : k ≤ es.length) (hne : es ≠ []) : Acc sz h (.own sz id ver 0 es.length) es
/-- the variables of h are in h', too -/
def Keeps (h h' : List AO) : Prop := h.length ≤ h'.length ∧ ∀ (j : Nat) (cs : List AV), h[j]? = some (.box cs) → h'[j]? = some (.box cs)
section
variable {sz : Nat} {h h' : List AO} {c : AV} {es : List AV}
theorem Keeps.refl (h : List AO) : Keeps h h := ⟨Nat.le_refl _, fun _ _ e => e⟩
theorem Keeps.trans {h'' : List AO} (a : Keeps h h') (b : Keeps h' h'') : Keeps h h'' := ⟨Nat.le_trans a.1 b.1, fun j cs e => b.2 j cs (a.2 j cs e)⟩
theorem Keeps.app (h : List AO) (x : AO) : Keeps h (h ++ [x]) := ⟨by simp, fun j cs e => his_get e⟩
theorem Acc.app (a : Acc sz h c es) (x : AO) : Acc sz (h ++ [x]) c es := by
  cases a with
  | nil => exact .nil
  | own id ver k es hr hk hne => exact .own id ver k es (his_get hr) hk hne
theorem Acc.len (a : Acc sz h c es) : evLen h .slice c = some es.length := by
  cases a with
  | nil => rfl
  | own id ver k es hr hk hne => simp [evLen, rowAt, hr]
theorem Acc.add (a : Acc sz h c es) {bytes : Nat} {x : AV} {ys : List AV} (hx : elemsOf h sz x = some ys) (hf : fits (es.length + ys.length) bytes = true) : ∃ c' h', evAppend h sz bytes c x = some (c', h') ∧ Acc sz h' c' (es ++ ys) ∧ Keeps h h' := by
  cases a with
  | nil =>
    by_cases hys : ys = []
    · subst hys
      exact ⟨_, _, by simp [evAppend, hx], .nil, .refl h⟩
    · refine ⟨.own sz h.length 0 0 ys.length, h ++ [.row sz 0 ys 0], by simp [evAppend, hx, hys, by simpa using hf], ?_, .app _ _⟩
      exact .own h.length 0 0 ys (by simp) (Nat.zero_le _) hys
  | own id ver k es hr hk hne =>
    by_cases hys : ys = []
    · subst hys
      refine ⟨.own sz id ver 0 es.length, h, by simp [evAppend, hx, rowAt, hr, hk], ?_, .refl h⟩
      rw [List.append_nil]
      exact .own id ver k es hr hk hne
    · have hlt : id < h.length := (List.getElem?_eq_some_iff.1 hr).1
      have := Acc.own (sz := sz) (h := h.set id (.row sz (ver + 1) (es ++ ys) k)) id (ver + 1) k (es ++ ys) (by simp [hlt]) (by simp; omega) (by simp [hys])
      rw [List.length_append] at this
      refine ⟨_, h.set id (.row sz (ver + 1) (es ++ ys) k), ?_, this, by simp, ?_⟩
      · simp [evAppend, hx, rowAt, hr, hys, hf, hk]
      · intro j cs e
        by_cases hj : j = id
        · subst hj; rw [hr] at e; cases e
        · rw [List.getElem?_set_ne (Ne.symm hj)]; exact e
theorem Acc.frz0 (a : Acc sz h c es) : ∃ c', c.frz0 0 h = some c' ∧ Sl sz c' es := by
  cases a with
  | nil => exact ⟨_, rfl, .nil⟩
  | own id ver k es hr hk hne => exact ⟨.slc sz false false es, by simp [AV.frz0, rowAt, hr], .slc _ _ _⟩
theorem Acc.lvf (a : Acc sz h c es) : ∃ c', lvf h c = some (c', []) ∧ Sl sz c' es := by
  obtain ⟨c', h1, h2⟩ := a.frz0
  refine ⟨c', ?_, h2⟩
  cases a with
  | nil => simp only [AV.frz0] at h1; cases h1; rfl
  | own id ver k es hr hk hne => simp only [Go.AE.lvf, AV.frz2, AV.frz1, h1]
theorem Acc.cl (a : Acc sz h c es) : c.cl = some [c] := by cases a <;> rfl
/-- what was made is fixed, to be handed on -/
theorem Acc.fix (a : Acc sz h c es) : Acc sz (raise1 h c) c es ∧ Keeps h (raise1 h c) ∧ ∃ c', c.snap1 (raise1 h c) = some c' ∧ Sl sz c' es := by
  cases a with
  | nil => exact ⟨.nil, .refl h, _, rfl, .nil⟩
  | own id ver k es hr hk hne =>
    have hlt : id < h.length := (List.getElem?_eq_some_iff.1 hr).1
    have e : raise1 h (.own sz id ver 0 es.length) = h.set id (.row sz ver es es.length) := by
      simp [raise1, raise0, raise, rowAt, hr, Nat.max_eq_right hk]
    rw [e]
    have hg : (h.set id (.row sz ver es es.length))[id]? = some (.row sz ver es es.length) := by simp [hlt]
    refine ⟨.own id ver es.length es hg (Nat.le_refl _) hne, ⟨by simp, ?_⟩, .slc sz false false es, by simp [AV.snap1, AV.snap0, rowAt, hg], .slc _ _ _⟩
    intro j cs ej
    by_cases hj : j = id
    · subst hj; rw [hr] at ej; cases ej
    · rw [List.getElem?_set_ne (Ne.symm hj)]; exact ej
theorem elems_one {ex nn : Bool} {x : AV} : elemsOf h sz (.slc sz ex nn [x]) = some [x] := by simp [elemsOf]

/-! ### Variables by what they hold -/
theorem bx_ld {id : Nat} {cs : List AV} (hb : h[id]? = some (.box cs)) {a : Bool} {n o : Nat} : evLoad h a n (.ptr id o) = if o + n ≤ cs.length then asEl a ((cs.drop o).take n) else none := by
  simp only [evLoad, hb]
theorem bx_st {id : Nat} {cs xs : List AV} {x : AV} (hb : h[id]? = some (.box cs)) (hx : x.cl = some xs) {n o : Nat} (h1 : xs.length = n) (h2 : o + n ≤ cs.length) : evStore h n (.ptr id o) x = some (h.set id (.box (putAt cs o xs))) := by
  simp only [evStore, hb, hx, h1, h2, and_self, if_true]

/-! ### Rows that are made whole -/
def mkS (h : List AO) (sz bytes : Nat) (zero : List Value) (a b : AV) : Option (AV × List AO) := match a, b with
  | .v (.int .i64 n), .v (.int .i64 m) =>
    if 0 ≤ n ∧ n ≤ m ∧ m ≤ 9223372036854775807 ∧ bytes * m ≤ 281474976710656 then
      some (.own sz h.length 0 0 n.toNat, h ++ [.row sz 0 (List.replicate n.toNat (zeroEl zero)) 0])
    else none
  | _, _ => none
theorem e_mkslice {call : CallF} {vars env : List AV} {bytes : Nat} {zero : List Value} {l c : Opd} : evOp call vars env h (.mkslice sz bytes zero l c) = mkS h sz bytes zero (getO vars env l) (getO vars env c) := by
  simp only [evOp, mkS]
  rfl
theorem mkS_own {H l : List AO} {B : Nat} (hB : H.length = B) {bytes : Nat} {zero : List Value} {n : Nat} (h1 : (n : Int) ≤ 9223372036854775807) (h2 : (bytes : Int) * (n : Int) ≤ 281474976710656) : mkS (H ++ l) sz bytes zero (.v (.int .i64 n)) (.v (.int .i64 n)) = some (.own sz (B + l.length) 0 0 n, H ++ (l ++ [.row sz 0 (List.replicate n (zeroEl zero)) 0])) := by
  subst hB
  simp [mkS, h1, h2]
section
variable {H l : List AO} {B : Nat}
theorem own_row (hB : H.length = B) {k ver m : Nat} {L : List AV} {f : Nat} (hr : l[k]? = some (.row sz ver L f)) (hm : m ≤ L.length) : rowAt (H ++ l) sz (B + k) ver m = some (L, f) := by
  simp only [rowAt, obj_get hB, hr, and_self, true_and, hm, if_true]
theorem own_ia (hB : H.length = B) {k ver n i : Nat} {L : List AV} {f : Nat} (hr : l[k]? = some (.row sz ver L f)) (hm : n ≤ L.length) (hi : i < n) : iaV (H ++ l) sz (.own sz (B + k) ver 0 n) (some i) = some (.ep sz (B + k) ver i 0) := by
  have := own_row (m := n) hB hr hm
  simp only [iaV, hi, and_self, if_true, this, Option.map_some, Nat.zero_add]
theorem own_est (hB : H.length = B) {k ver i : Nat} {L : List AV} {el : List AV} (hr : l[k]? = some (.row sz ver L 0)) (he : L[i]? = some (.agg el)) (hel : el.length = sz) {x : AV} {xs : List AV} (hs : x.snap1 (H ++ l) = some x) (hx : x.cl = some xs) (hn : xs.length = sz) (hc : xs.all AV.isCell = true) :
    evStore (H ++ l) sz (.ep sz (B + k) ver i 0) x = some (H ++ l.set k (.row sz ver (L.set i (.agg xs)) 0)) := by
  have hi : i < L.length := (List.getElem?_eq_some_iff.1 he).1
  have hp : ∀ (xs a b : List AV), a.length + xs.length = b.length → putAt b a.length xs = b.take a.length ++ xs := by
    intro xs
    induction xs with
    | nil => intro a b hl; simp only [putAt, List.append_nil]; rw [List.take_of_length_le (by simp at hl; omega)]
    | cons x xs ih =>
      intro a b hl
      simp only [putAt]
      have := ih (b.take a.length ++ [x]) (b.set a.length x) (by simp at hl ⊢; omega)
      have e : (b.take a.length ++ [x]).length = a.length + 1 := by simp at hl ⊢; omega
      rw [e] at this
      rw [this]
      have hlt : a.length < b.length := by simp at hl; omega
      rw [List.take_add_one, List.getElem?_set_self hlt, List.take_set, List.set_eq_of_length_le (by simp; omega)]
      simp
  have := hp xs [] el (by simp; omega)
  simp only [List.length_nil, List.take_zero, List.nil_append] at this
  simp only [evStore, own_row hB hr hi, he, hs, Option.bind_some, hx, hn, hc, AV.cells, hel, Nat.zero_le, Nat.zero_add, Nat.le_refl, and_self, if_true, putEl, this, obj_set hB]
end
end
end Go.AE
end
