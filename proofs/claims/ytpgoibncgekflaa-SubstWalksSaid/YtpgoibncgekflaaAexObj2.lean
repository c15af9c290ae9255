/- AE, part 34: slices that are read, slices that are made. -/
import Derived.Test.YtpgoibncgekflaaAexObj
set_option linter.unusedVariables false
set_option linter.unusedSimpArgs false
namespace Go.AE
open Go Go.RowKit

/-- a slice that is read, with its elements -/
inductive Sl (sz : Nat) : AV → List AV → Prop
  | nil : Sl sz (.v (.slice none 0 0)) []
  | slc (ex nn : Bool) (es : List AV) : Sl sz (.slc sz ex nn es) es
section
variable {sz : Nat} {c : AV} {es : List AV} {h : List AO}
theorem Sl.len (s : Sl sz c es) (h : List AO) : evLen h .slice c = some es.length := by cases s <;> rfl
theorem Sl.ia (s : Sl sz c es) {i : Nat} {e : AV} (he : es[i]? = some e) (h : List AO) : iaV h sz c (some i) = some (.ip e.cells) := by
  cases s with
  | nil => simp at he
  | slc ex nn es => exact iaV_slc he
theorem Sl.snap (s : Sl sz c es) (h : List AO) : c.snap1 h = some c := by cases s <;> rfl
theorem Sl.snap0 (s : Sl sz c es) (h : List AO) : c.snap0 h = some c := by cases s <;> rfl
theorem Sl.elems (s : Sl sz c es) (h : List AO) : elemsOf h sz c = some es := by
  cases s with
  | nil => rfl
  | slc ex nn es => simp [elemsOf]
theorem Sl.frz (s : Sl sz c es) (B : Nat) (h : List AO) : c.frz0 B h = some c := by cases s <;> rfl
theorem Sl.bel (s : Sl sz c es) (B : Nat) : c.below0 B = true := by cases s <;> rfl
theorem Sl.cl (s : Sl sz c es) : c.cl = some [c] := by cases s <;> rfl
theorem Sl.lvf (s : Sl sz c es) (h : List AO) : lvf h c = some (c, []) := by cases s <;> rfl
end

/-- a slice that is being made by append -/
inductive Acc (sz : Nat) (h : List AO) : AV → List AV → Prop
  | nil : Acc sz h (.v (.slice none 0 0)) []
  | own (id ver : Nat) (es : List AV) (hr : h[id]? = some (.row sz ver es 0)) (hne : es ≠ []) : Acc sz h (.own sz id ver 0 es.length) es
/-- the variables of h are in h', too -/
def Keeps (h h' : List AO) : Prop := h.length ≤ h'.length ∧ ∀ (j : Nat) (cs : List AV), h[j]? = some (.box cs) → h'[j]? = some (.box cs)
section
variable {sz : Nat} {h h' : List AO} {c : AV} {es : List AV}
theorem Keeps.refl (h : List AO) : Keeps h h := ⟨Nat.le_refl _, fun _ _ e => e⟩
theorem Keeps.trans {h'' : List AO} (a : Keeps h h') (b : Keeps h' h'') : Keeps h h'' := ⟨Nat.le_trans a.1 b.1, fun j cs e => b.2 j cs (a.2 j cs e)⟩
theorem Keeps.app (h : List AO) (x : AO) : Keeps h (h ++ [x]) := ⟨by simp, fun j cs e => his_get e⟩
theorem Acc.app (a : Acc sz h c es) (x : AO) : Acc sz (h ++ [x]) c es := by
  cases a with
  | nil => exact .nil
  | own id ver es hr hne => exact .own id ver es (his_get hr) hne
theorem Acc.len (a : Acc sz h c es) : evLen h .slice c = some es.length := by
  cases a with
  | nil => rfl
  | own id ver es hr hne => simp [evLen, rowAt, hr]
theorem Acc.add (a : Acc sz h c es) {bytes : Nat} {x : AV} {ys : List AV} (hx : elemsOf h sz x = some ys) (hf : fits (es.length + ys.length) bytes = true) : ∃ c' h', evAppend h sz bytes c x = some (c', h') ∧ Acc sz h' c' (es ++ ys) ∧ Keeps h h' := by
  cases a with
  | nil =>
    by_cases hys : ys = []
    · subst hys
      exact ⟨_, _, by simp [evAppend, hx], .nil, .refl h⟩
    · refine ⟨.own sz h.length 0 0 ys.length, h ++ [.row sz 0 ys 0], by simp [evAppend, hx, hys, by simpa using hf], ?_, .app _ _⟩
      exact .own h.length 0 ys (by simp) hys
  | own id ver es hr hne =>
    by_cases hys : ys = []
    · subst hys
      refine ⟨.own sz id ver 0 es.length, h, by simp [evAppend, hx, rowAt, hr], ?_, .refl h⟩
      rw [List.append_nil]
      exact .own id ver es hr hne
    · have hlt : id < h.length := (List.getElem?_eq_some_iff.1 hr).1
      have := Acc.own (sz := sz) (h := h.set id (.row sz (ver + 1) (es ++ ys) 0)) id (ver + 1) (es ++ ys) (by simp [hlt]) (by simp [hys])
      rw [List.length_append] at this
      refine ⟨_, h.set id (.row sz (ver + 1) (es ++ ys) 0), ?_, this, by simp, ?_⟩
      · simp [evAppend, hx, rowAt, hr, hys, hf]
      · intro j cs e
        by_cases hj : j = id
        · subst hj; rw [hr] at e; cases e
        · rw [List.getElem?_set_ne (Ne.symm hj)]; exact e
theorem Acc.frz0 (a : Acc sz h c es) : ∃ c', c.frz0 0 h = some c' ∧ Sl sz c' es := by
  cases a with
  | nil => exact ⟨_, rfl, .nil⟩
  | own id ver es hr hne => exact ⟨.slc sz false false es, by simp [AV.frz0, rowAt, hr], .slc _ _ _⟩
theorem Acc.lvf (a : Acc sz h c es) : ∃ c', lvf h c = some (c', []) ∧ Sl sz c' es := by
  obtain ⟨c', h1, h2⟩ := a.frz0
  refine ⟨c', ?_, h2⟩
  cases a with
  | nil => simp only [AV.frz0] at h1; cases h1; rfl
  | own id ver es hr hne => simp only [Go.AE.lvf, AV.frz2, AV.frz1, h1]
theorem Acc.cl (a : Acc sz h c es) : c.cl = some [c] := by cases a <;> rfl
theorem elems_one {ex nn : Bool} {x : AV} : elemsOf h sz (.slc sz ex nn [x]) = some [x] := by simp [elemsOf]

/-! ### Variables by what they hold -/
theorem bx_ld {id : Nat} {cs : List AV} (hb : h[id]? = some (.box cs)) {a : Bool} {n o : Nat} : evLoad h a n (.ptr id o) = if o + n ≤ cs.length then asEl a ((cs.drop o).take n) else none := by
  simp only [evLoad, hb]
theorem bx_st {id : Nat} {cs xs : List AV} {x : AV} (hb : h[id]? = some (.box cs)) (hx : x.cl = some xs) {n o : Nat} (h1 : xs.length = n) (h2 : o + n ≤ cs.length) : evStore h n (.ptr id o) x = some (h.set id (.box (putAt cs o xs))) := by
  simp only [evStore, hb, hx, h1, h2, and_self, if_true]

/-! ### Rows that are made whole -/
def mkS (h : List AO) (sz bytes : Nat) (zero : List Value) (a b : AV) : Option (AV × List AO) := match a, b with
  | .v (.int .i64 n), .v (.int .i64 m) =>
    if 0 ≤ n ∧ n ≤ m ∧ m ≤ 9223372036854775807 ∧ bytes * m ≤ 281474976710656 then
      some (.own sz h.length 0 0 n.toNat, h ++ [.row sz 0 (List.replicate n.toNat (zeroEl zero)) 0])
    else none
  | _, _ => none
theorem e_mkslice {call : CallF} {vars env : List AV} {bytes : Nat} {zero : List Value} {l c : Opd} : evOp call vars env h (.mkslice sz bytes zero l c) = mkS h sz bytes zero (getO vars env l) (getO vars env c) := by
  simp only [evOp, mkS]
  rfl
theorem mkS_own {H l : List AO} {B : Nat} (hB : H.length = B) {bytes : Nat} {zero : List Value} {n : Nat} (h1 : (n : Int) ≤ 9223372036854775807) (h2 : (bytes : Int) * (n : Int) ≤ 281474976710656) : mkS (H ++ l) sz bytes zero (.v (.int .i64 n)) (.v (.int .i64 n)) = some (.own sz (B + l.length) 0 0 n, H ++ (l ++ [.row sz 0 (List.replicate n (zeroEl zero)) 0])) := by
  subst hB
  simp [mkS, h1, h2]
section
variable {H l : List AO} {B : Nat}
theorem own_row (hB : H.length = B) {k ver m : Nat} {L : List AV} {f : Nat} (hr : l[k]? = some (.row sz ver L f)) (hm : m ≤ L.length) : rowAt (H ++ l) sz (B + k) ver m = some (L, f) := by
  simp only [rowAt, obj_get hB, hr, and_self, true_and, hm, if_true]
theorem own_ia (hB : H.length = B) {k ver n i : Nat} {L : List AV} {f : Nat} (hr : l[k]? = some (.row sz ver L f)) (hm : n ≤ L.length) (hi : i < n) : iaV (H ++ l) sz (.own sz (B + k) ver 0 n) (some i) = some (.ep sz (B + k) ver i 0) := by
  have := own_row (m := n) hB hr hm
  simp only [iaV, hi, and_self, if_true, this, Option.map_some, Nat.zero_add]
theorem own_est (hB : H.length = B) {k ver i : Nat} {L : List AV} {el : List AV} (hr : l[k]? = some (.row sz ver L 0)) (he : L[i]? = some (.agg el)) (hel : el.length = sz) {x : AV} {xs : List AV} (hs : x.snap1 (H ++ l) = some x) (hx : x.cl = some xs) (hn : xs.length = sz) (hc : xs.all AV.isCell = true) :
    evStore (H ++ l) sz (.ep sz (B + k) ver i 0) x = some (H ++ l.set k (.row sz ver (L.set i (.agg xs)) 0)) := by
  have hi : i < L.length := (List.getElem?_eq_some_iff.1 he).1
  have hp : ∀ (xs a b : List AV), a.length + xs.length = b.length → putAt b a.length xs = b.take a.length ++ xs := by
    intro xs
    induction xs with
    | nil => intro a b hl; simp only [putAt, List.append_nil]; rw [List.take_of_length_le (by simp at hl; omega)]
    | cons x xs ih =>
      intro a b hl
      simp only [putAt]
      have := ih (b.take a.length ++ [x]) (b.set a.length x) (by simp at hl ⊢; omega)
      have e : (b.take a.length ++ [x]).length = a.length + 1 := by simp at hl ⊢; omega
      rw [e] at this
      rw [this]
      have hlt : a.length < b.length := by simp at hl; omega
      rw [List.take_add_one, List.getElem?_set_self hlt, List.take_set, List.set_eq_of_length_le (by simp; omega)]
      simp
  have := hp xs [] el (by simp; omega)
  simp only [List.length_nil, List.take_zero, List.nil_append] at this
  simp only [evStore, own_row hB hr hi, he, hs, Option.bind_some, hx, hn, hc, AV.cells, hel, Nat.zero_le, Nat.zero_add, Nat.le_refl, and_self, if_true, putEl, this, obj_set hB]
end
end
end Go.AE
