/- The evaluator of compiled functions, proved sound: texts put together. -/
import Derived.Test.YtkdjdhfoodlnfaaEval3
/-! Maps by what they answer. -/
section
set_option linter.unusedVariables false
set_option linter.unusedSimpArgs false
namespace Go.AE
open Go

section
variable {call : CallF} {vars env : List AV} {h : List AO}
theorem e_mkmap {kk : KK} : evOp call vars env h (.mkmap kk) = some (.mp h.length, h ++ [.map kk 0 []]) := rfl
theorem e_lookup {kk : KK} {z : Value} {ok : Bool} {m k : Opd} : evOp call vars env h (.lookup kk z ok m k) = withH h (evLook h kk z ok (getO vars env m) (getO vars env k)) := map_withH
theorem e_mapupd {kk : KK} {m k x : Opd} : evOp call vars env h (.mapupd kk m k x) = stH (evUpd h kk (getO vars env m) (getO vars env k) (getO vars env x)) := by
  simp only [evOp]; cases evUpd h kk (getO vars env m) (getO vars env k) (getO vars env x) <;> rfl
end
theorem ex_2 {h : List AO} {u v w : AV} {vs : List AV} : exH h 2 (.tup (u :: v :: w :: vs)) = some (w, h) := rfl
def intK (kk : IntKind) (n : Int) : Value := .int kk n
theorem keyEq_int {k : IntKind} {a b : Int} : keyEq (.int k a) (.int k b) = (a == b) := by simp [keyEq]
theorem keyEq_of {k : IntKind} {a : Int} {v : Value} (h : keyEq (.int k a) v = true) : v = .int k a := by
  cases v <;> simp [keyEq] at h
  obtain ⟨rfl, rfl⟩ := h; rfl
theorem look_upd {k : IntKind} {a b : Int} {x : AV} : ∀ es : List (Value × AV), look (.int k b) (upd (.int k a) x es) = if a = b then some x else look (.int k b) es
  | [] => by
    by_cases h : a = b
    · subst h; simp [upd, look, keyEq]
    · have : ¬ b = a := fun e => h e.symm
      simp [upd, look, keyEq, h, this]
  | e :: es => by
    simp only [upd]
    by_cases h1 : keyEq (.int k a) e.1 = true
    · rw [if_pos h1]
      have he := keyEq_of h1
      simp only [look, he, keyEq_int]
      by_cases h : a = b
      · subst h; simp
      · have : ¬ b = a := fun e => h e.symm
        simp [h, this]
    · rw [if_neg h1]
      simp only [look]
      rw [look_upd es]
      by_cases h2 : keyEq (.int k b) e.1 = true
      · rw [if_pos h2, if_pos h2]
        by_cases h : a = b
        · subst h; exact absurd h2 h1
        · rw [if_neg h]
      · rw [if_neg h2, if_neg h2]
def Seen (k : IntKind) (es : List (Value × AV)) (S : List Int) : Prop := ∀ n, look (.int k n) es = if n ∈ S then some (.v (.bool true)) else none
theorem Seen.nil (k : IntKind) : Seen k [] [] := fun n => by simp [look]
theorem Seen.add {k : IntKind} {es : List (Value × AV)} {S : List Int} (h : Seen k es S) (a : Int) : Seen k (upd (.int k a) (.v (.bool true)) es) (a :: S) := by
  intro n
  rw [look_upd, h n]
  by_cases e : a = n
  · subst e; simp
  · have : ¬ n = a := fun x => e x.symm
    simp [e, this]
theorem Seen.of {k : IntKind} {es : List (Value × AV)} {S S' : List Int} (h : Seen k es S) (hS : ∀ n, n ∈ S ↔ n ∈ S') : Seen k es S' := fun n => by
  rw [h n]; simp only [hS n]
theorem Seen.look {k : IntKind} {es : List (Value × AV)} {S : List Int} (h : Seen k es S) {H : List AO} {id : Nat} {mc : Nat} (hm : H[id]? = some (.map (.int k) mc es)) (n : Int) : evLook H (.int k) (.bool false) false (.mp id) (.v (.int k n)) = some (.v (.bool (S.contains n))) := by
  simp only [evLook, hm, KK.ok, decide_true, and_self, if_true, h n]
  by_cases e : n ∈ S <;> simp [e]
theorem upd_map {k : IntKind} {es : List (Value × AV)} {H : List AO} {id : Nat} {mc : Nat} (hm : H[id]? = some (.map (.int k) mc es)) (n : Int) {x y : AV} (hx : x.snap1 H = some y) : evUpd H (.int k) (.mp id) (.v (.int k n)) x = some (H.set id (.map (.int k) mc (upd (.int k n) y es))) := by
  simp only [evUpd, hm, hx, KK.ok, decide_true, and_self, if_true]
end Go.AE
end

/-! What comes in, by its type (the same in each program here). -/
section
set_option linter.unusedVariables false
set_option linter.unusedSimpArgs false
namespace Go.AE
open Go
section
variable {T : Tb} {t : TypeId} {i : TI} {cs : List AV}
theorem wt_int_of {k : IntKind} (h : T.ty t = some i) (hd : i.desc = .int k) (w : WT T t cs) : ∃ n : Int, cs = [.v (.int k n)] ∧ (Lit.int k n).wf = true := by
  cases w with
  | bool _ i' b h' hd' => rw [h] at h'; cases h'; rw [hd] at hd'; cases hd'
  | int _ i' k' n h' hd' hw => rw [h] at h'; cases h'; rw [hd] at hd'; cases hd'; exact ⟨n, rfl, hw⟩
  | str _ i' s h' hd' hs => rw [h] at h'; cases h'; rw [hd] at hd'; cases hd'
  | nil _ i' e h' hd' => rw [h] at h'; cases h'; rw [hd] at hd'; cases hd'
  | slc _ i' e j l h' hd' he hl hel has => rw [h] at h'; cases h'; rw [hd] at hd'; cases hd'
  | struct _ i' fs pts h' hd' hlen hf => rw [h] at h'; cases h'; rw [hd] at hd'; cases hd'
theorem wt_str_of (h : T.ty t = some i) (hd : i.desc = .string) (w : WT T t cs) : ∃ s : ByteArray, cs = [.v (.string s)] ∧ s.size ≤ maxLen := by
  cases w with
  | bool _ i' b h' hd' => rw [h] at h'; cases h'; rw [hd] at hd'; cases hd'
  | int _ i' k' n h' hd' hw => rw [h] at h'; cases h'; rw [hd] at hd'; cases hd'
  | str _ i' s h' hd' hs => exact ⟨s, rfl, hs⟩
  | nil _ i' e h' hd' => rw [h] at h'; cases h'; rw [hd] at hd'; cases hd'
  | slc _ i' e j l h' hd' he hl hel has => rw [h] at h'; cases h'; rw [hd] at hd'; cases hd'
  | struct _ i' fs pts h' hd' hlen hf => rw [h] at h'; cases h'; rw [hd] at hd'; cases hd'
theorem wt_bool_of (h : T.ty t = some i) (hd : i.desc = .bool) (w : WT T t cs) : ∃ b : Bool, cs = [.v (.bool b)] := by
  cases w with
  | bool _ i' b h' hd' => exact ⟨b, rfl⟩
  | int _ i' k' n h' hd' hw => rw [h] at h'; cases h'; rw [hd] at hd'; cases hd'
  | str _ i' s h' hd' hs => rw [h] at h'; cases h'; rw [hd] at hd'; cases hd'
  | nil _ i' e h' hd' => rw [h] at h'; cases h'; rw [hd] at hd'; cases hd'
  | slc _ i' e j l h' hd' he hl hel has => rw [h] at h'; cases h'; rw [hd] at hd'; cases hd'
  | struct _ i' fs pts h' hd' hlen hf => rw [h] at h'; cases h'; rw [hd] at hd'; cases hd'
theorem wt_slice_of {e : TypeId} {j : TI} (h : T.ty t = some i) (hd : i.desc = .slice e) (hj : T.ty e = some j) (w : WT T t cs) :
    cs = [.v (.slice none 0 0)] ∨ ∃ l : List AV, cs = [.slc j.size false true l] ∧ l.length ≤ maxLen ∧ (∀ el ∈ l, WT T e el.cells) ∧ ∀ el ∈ l, Q77 j.agg el.cells = some el := by
  cases w with
  | bool _ i' b h' hd' => rw [h] at h'; cases h'; rw [hd] at hd'; cases hd'
  | int _ i' k' n h' hd' hw => rw [h] at h'; cases h'; rw [hd] at hd'; cases hd'
  | str _ i' s h' hd' hs => rw [h] at h'; cases h'; rw [hd] at hd'; cases hd'
  | nil _ i' e h' hd' => exact .inl rfl
  | slc _ i' e j' l h' hd' he hl hel has =>
    rw [h] at h'; cases h'; rw [hd] at hd'; cases hd'
    rw [hj] at he; cases he
    exact .inr ⟨l, rfl, hl, hel, has⟩
  | struct _ i' fs pts h' hd' hlen hf => rw [h] at h'; cases h'; rw [hd] at hd'; cases hd'
theorem wt_struct_of {fs : Array Field} (h : T.ty t = some i) (hd : i.desc = .struct fs) (w : WT T t cs) :
    ∃ pts : List (List AV), cs = pts.flatten ∧ pts.length = fs.size ∧ ∀ (k : Nat) (f : Field) (a : List AV), fs[k]? = some f → pts[k]? = some a → WT T f.type a := by
  generalize hcs : cs = cs' at w
  cases w with
  | bool _ i' b h' hd' => rw [h] at h'; cases h'; rw [hd] at hd'; cases hd'
  | int _ i' k' n h' hd' hw => rw [h] at h'; cases h'; rw [hd] at hd'; cases hd'
  | str _ i' s h' hd' hs => rw [h] at h'; cases h'; rw [hd] at hd'; cases hd'
  | nil _ i' e h' hd' => rw [h] at h'; cases h'; rw [hd] at hd'; cases hd'
  | slc _ i' e j l h' hd' he hl hel has => rw [h] at h'; cases h'; rw [hd] at hd'; cases hd'
  | struct _ i' fs' pts h' hd' hlen hf => rw [h] at h'; cases h'; rw [hd] at hd'; cases hd'; exact ⟨pts, rfl, hlen, hf⟩
theorem wt_struct2 {f0 f1 : Field} (h : T.ty t = some i) (hd : i.desc = .struct #[f0, f1]) (w : WT T t cs) : ∃ a b, cs = a ++ b ∧ WT T f0.type a ∧ WT T f1.type b := by
  obtain ⟨pts, rfl, hl, hf⟩ := wt_struct_of h hd w
  match pts, hl, hf with
  | [a, b], _, hf => exact ⟨a, b, by simp, hf 0 _ a rfl rfl, hf 1 _ b rfl rfl⟩
theorem wt_struct3 {f0 f1 f2 : Field} (h : T.ty t = some i) (hd : i.desc = .struct #[f0, f1, f2]) (w : WT T t cs) : ∃ a b c, cs = a ++ b ++ c ∧ WT T f0.type a ∧ WT T f1.type b ∧ WT T f2.type c := by
  obtain ⟨pts, rfl, hl, hf⟩ := wt_struct_of h hd w
  match pts, hl, hf with
  | [a, b, c], _, hf => exact ⟨a, b, c, by simp, hf 0 _ a rfl rfl, hf 1 _ b rfl rfl, hf 2 _ c rfl rfl⟩
theorem wt_struct4 {f0 f1 f2 f3 : Field} (h : T.ty t = some i) (hd : i.desc = .struct #[f0, f1, f2, f3]) (w : WT T t cs) : ∃ a b c d, cs = a ++ b ++ c ++ d ∧ WT T f0.type a ∧ WT T f1.type b ∧ WT T f2.type c ∧ WT T f3.type d := by
  obtain ⟨pts, rfl, hl, hf⟩ := wt_struct_of h hd w
  match pts, hl, hf with
  | [a, b, c, d], _, hf => exact ⟨a, b, c, d, by simp, hf 0 _ a rfl rfl, hf 1 _ b rfl rfl, hf 2 _ c rfl rfl, hf 3 _ d rfl rfl⟩
theorem wt_struct5 {f0 f1 f2 f3 f4 : Field} (h : T.ty t = some i) (hd : i.desc = .struct #[f0, f1, f2, f3, f4]) (w : WT T t cs) : ∃ a b c d e, cs = a ++ b ++ c ++ d ++ e ∧ WT T f0.type a ∧ WT T f1.type b ∧ WT T f2.type c ∧ WT T f3.type d ∧ WT T f4.type e := by
  obtain ⟨pts, rfl, hl, hf⟩ := wt_struct_of h hd w
  match pts, hl, hf with
  | [a, b, c, d, e], _, hf => exact ⟨a, b, c, d, e, by simp, hf 0 _ a rfl rfl, hf 1 _ b rfl rfl, hf 2 _ c rfl rfl, hf 3 _ d rfl rfl, hf 4 _ e rfl rfl⟩
theorem one_cell {a c : AV} (h : Q77 false a.cells = some a) (hc : a.cells = [c]) : a = c := by
  rw [hc] at h
  simpa [Q77] using h.symm
theorem agg_cells {a : AV} (h : Q77 true a.cells = some a) : a = .agg a.cells := by
  simp only [Q77, if_true, Option.some.injEq] at h
  exact h.symm
end

structure TmTy (T : Tb) (tI tS tN tT tL : TypeId) : Prop where
  i : ∃ x, T.ty tI = some x ∧ x.desc = .int .i64
  s : ∃ x, T.ty tS = some x ∧ x.desc = .string
  n : ∃ x, T.ty tN = some x ∧ x.desc = .int .i64
  t : ∃ x f0 f1 f2 f3, T.ty tT = some x ∧ x.desc = .struct #[f0, f1, f2, f3] ∧ f0.type = tI ∧ f1.type = tS ∧ f2.type = tN ∧ f3.type = tL ∧ x.size = 4 ∧ x.agg = true
  l : ∃ x, T.ty tL = some x ∧ x.desc = .slice tT
section
variable {T : Tb} {tI tS tN tT tL : TypeId}
theorem all2_of : ∀ {l : List AV}, (∀ el ∈ l, ∃ t, IsT el t) → ∃ ts, All2 l ts
  | [], _ => ⟨[], .nil⟩
  | a :: l, h => by
    obtain ⟨t, ht⟩ := h a (by simp)
    obtain ⟨ts, hts⟩ := all2_of (l := l) (fun el hm => h el (by simp [hm]))
    exact ⟨t :: ts, .cons a t l ts ht hts⟩
theorem TmTy.good (h : TmTy T tI tS tN tT tL) : ∀ {t : TypeId} {cs : List AV}, WT T t cs → (t = tT → ∃ x, IsT (.agg cs) x) ∧ (t = tL → ∃ c l, cs = [c] ∧ IsL c l) := by
  obtain ⟨xt, f0, f1, f2, f3, ht1, ht2, e0, e1, e2, e3, hsz, hag⟩ := h.t
  obtain ⟨xl, hl1, hl2⟩ := h.l
  obtain ⟨xi, hi1, hi2⟩ := h.i
  obtain ⟨xs, hs1, hs2⟩ := h.s
  obtain ⟨xn, hn1, hn2⟩ := h.n
  intro t cs w
  induction w with
  | bool t i b ht hd => exact ⟨(by rintro rfl; rw [ht1] at ht; cases ht; rw [ht2] at hd; cases hd), (by rintro rfl; rw [hl1] at ht; cases ht; rw [hl2] at hd; cases hd)⟩
  | int t i k n ht hd hw => exact ⟨(by rintro rfl; rw [ht1] at ht; cases ht; rw [ht2] at hd; cases hd), (by rintro rfl; rw [hl1] at ht; cases ht; rw [hl2] at hd; cases hd)⟩
  | str t i s ht hd hs => exact ⟨(by rintro rfl; rw [ht1] at ht; cases ht; rw [ht2] at hd; cases hd), (by rintro rfl; rw [hl1] at ht; cases ht; rw [hl2] at hd; cases hd)⟩
  | nil t i e ht hd => exact ⟨(by rintro rfl; rw [ht1] at ht; cases ht; rw [ht2] at hd; cases hd), fun _ => ⟨_, [], rfl, .nil⟩⟩
  | slc t i e j l ht hd he hl hel has ih =>
    refine ⟨(by rintro rfl; rw [ht1] at ht; cases ht; rw [ht2] at hd; cases hd), ?_⟩
    rintro rfl
    rw [hl1] at ht; cases ht; rw [hl2] at hd; cases hd
    rw [ht1] at he; cases he
    obtain ⟨ts, hts⟩ := all2_of (l := l) (fun el hm => by
      obtain ⟨x, hx⟩ := (ih el hm).1 rfl
      have := has el hm
      rw [hag] at this
      rw [← agg_cells this] at hx
      exact ⟨x, hx⟩)
    rw [hsz]
    exact ⟨_, ts, rfl, .slc _ _ _ _ hts hl⟩
  | struct t i fs pts ht hd hlen hf ih =>
    refine ⟨?_, (by rintro rfl; rw [hl1] at ht; cases ht; rw [hl2] at hd; cases hd)⟩
    rintro rfl
    rw [ht1] at ht; cases ht; rw [ht2] at hd; cases hd
    match pts, hlen, hf, ih with
    | [a, b, c, d], _, hf, ih =>
      have w0 := hf 0 f0 a rfl rfl
      have w1 := hf 1 f1 b rfl rfl
      have w2 := hf 2 f2 c rfl rfl
      have w3 := (ih 3 f3 d rfl rfl).2 e3
      rw [e0] at w0; rw [e1] at w1; rw [e2] at w2
      obtain ⟨k, rfl, _⟩ := wt_int_of hi1 hi2 w0
      obtain ⟨s, rfl, _⟩ := wt_str_of hs1 hs2 w1
      obtain ⟨n, rfl, _⟩ := wt_int_of hn1 hn2 w2
      obtain ⟨x, l, rfl, hx⟩ := w3
      exact ⟨_, .mk k s n x l hx⟩
theorem TmTy.term (h : TmTy T tI tS tN tT tL) {cs : List AV} (w : WT T tT cs) : ∃ x, IsT (.agg cs) x := (h.good w).1 rfl
theorem TmTy.terms (h : TmTy T tI tS tN tT tL) {cs : List AV} (w : WT T tL cs) : ∃ c l, cs = [c] ∧ IsL c l := (h.good w).2 rfl
end
end Go.AE
end

/-! Terms as elements of slices: what a round's copy of one gives. -/
section
set_option linter.unusedVariables false
set_option linter.unusedSimpArgs false
namespace Go.AE
open Go
theorem IsT.facts {e : AV} {t : Tm} (ht : IsT e t) : (∀ h : List AO, Q76 h true 4 (.ip e.cells) = some e) ∧ (∀ h : List AO, e.snap1 h = some e) ∧
    (∀ (h : List AO) (bt : TypeId) (a b c d : AV), Q113 (h ++ [.box bt [a, b, c, d]]) 4 (.ptr h.length 0) e = some (h ++ [.box bt e.cells])) ∧
    (∀ (h : List AO) (bt : TypeId), Q76 (h ++ [.box bt e.cells]) true 4 (.ptr h.length 0) = some e) ∧ e.cl = some e.cells :=
  ⟨fun h => ht.load, fun h => ht.snap, fun h bt a b c d => ht.st h _ rfl, fun h bt => ht.ld h, ht.cl.1⟩
theorem snap_int (h : List AO) (k : IntKind) (x : Int) : (AV.v (.int k x)).snap1 h = some (.v (.int k x)) := rfl
theorem snap_str (h : List AO) (x : ByteArray) : (AV.v (.string x)).snap1 h = some (.v (.string x)) := rfl
theorem snap_bool (h : List AO) (x : Bool) : (AV.v (.bool x)).snap1 h = some (.v (.bool x)) := rfl
theorem All2.at : ∀ {es : List AV} {l : List Tm}, All2 es l → ∀ {i : Nat} (h : i < es.length) (h' : i < l.length), IsT es[i] l[i]
  | _, _, .cons a t es ts h hs, 0, _, _ => h
  | _, _, .cons a t es ts h hs, i + 1, h1, h2 => hs.at (i := i) (by simpa using h1) (by simpa using h2)
theorem IsL.mem_size {l : List Tm} {k n : Int} {s : ByteArray} {t : Tm} (h : t ∈ l) : SizeOf.sizeOf t < SizeOf.sizeOf (Tm.mk k s n l) := by
  have h1 := List.sizeOf_lt_of_mem h
  have h2 := Tm.mk.sizeOf_spec k s n l
  omega
end Go.AE
end

/-! Clauses as values of the evaluator; elements of rows. -/
section
set_option linter.unusedVariables false
set_option linter.unusedSimpArgs false
namespace Go.AE
open Go

theorem IsT.elm {a : AV} {t : Tm} (h : IsT a t) : El true 4 a := by
  cases h with
  | mk k s n c l hc =>
    refine ⟨rfl, rfl, fun _ => IsT.snap (.mk k s n c l hc), rfl, ?_, IsT.bel (.mk k s n c l hc)⟩
    cases hc <;> rfl
theorem IsBd.elm {a : AV} {v : Int} {t : Tm} (h : IsBd a v t) : El true 5 a := by
  cases h with
  | mk v cs t h =>
    cases h with
    | mk k s n c l hc => cases hc <;> exact ⟨rfl, rfl, fun _ => rfl, rfl, rfl, rfl⟩
theorem El.ld {agg : Bool} {sz : Nat} {e : AV} (h : El agg sz e) (H : List AO) : Q76 H agg sz (.ip e.cells) = some e := by
  simp only [Q76, h.len, Nat.le_refl, if_true]
  rw [List.take_of_length_le (by rw [h.len]; exact Nat.le_refl _)]
  exact h.el
theorem El.st {bt : TypeId} {agg : Bool} {sz : Nat} {e : AV} (h : El agg sz e) (H : List AO) {z : List AV} (hz : z.length = sz) : Q113 (H ++ [.box bt z]) sz (.ptr H.length 0) e = some (H ++ [.box bt e.cells]) := st_new h.cl h.len hz
theorem El.ldn {bt : TypeId} {agg : Bool} {sz : Nat} {e : AV} (h : El agg sz e) (H : List AO) : Q76 (H ++ [.box bt e.cells]) agg sz (.ptr H.length 0) = some e := by
  rw [ld_new, if_pos (by rw [h.len]; omega), List.drop_zero, List.take_of_length_le (by rw [h.len]; exact Nat.le_refl _)]
  exact h.el

inductive AllR {α : Type} (R : AV → α → Prop) : List AV → List α → Prop
  | nil : AllR R [] []
  | cons (a : AV) (x : α) (es : List AV) (xs : List α) (h : R a x) (hs : AllR R es xs) : AllR R (a :: es) (x :: xs)
section
variable {α : Type} {R : AV → α → Prop}
theorem AllR.length : ∀ {es : List AV} {l : List α}, AllR R es l → es.length = l.length
  | _, _, .nil => rfl
  | _, _, .cons _ _ _ _ _ hs => by simp [hs.length]
theorem AllR.get : ∀ {es : List AV} {l : List α}, AllR R es l → ∀ {i : Nat} {e : AV}, es[i]? = some e → ∃ x, l[i]? = some x ∧ R e x
  | _, _, .nil, i, e, h => by simp at h
  | _, _, .cons a t es ts h hs, i, e, he => by
    cases i with
    | zero => simp at he; subst he; exact ⟨t, rfl, h⟩
    | succ i => exact hs.get (by simpa using he)
theorem AllR.get' : ∀ {es : List AV} {l : List α}, AllR R es l → ∀ {i : Nat} {x : α}, l[i]? = some x → ∃ e, es[i]? = some e ∧ R e x
  | _, _, .nil, i, e, h => by simp at h
  | _, _, .cons a t es ts h hs, i, e, he => by
    cases i with
    | zero => simp at he; subst he; exact ⟨a, rfl, h⟩
    | succ i => exact hs.get' (by simpa using he)
theorem AllR.app : ∀ {es es' : List AV} {l l' : List α}, AllR R es l → AllR R es' l' → AllR R (es ++ es') (l ++ l')
  | _, _, _, _, .nil, h => h
  | _, _, _, _, .cons a t es ts h hs, h' => .cons a t _ _ h (hs.app h')
theorem AllR.one {a : AV} {x : α} (h : R a x) : AllR R [a] [x] := .cons a x [] [] h .nil
theorem AllR.mem : ∀ {es : List AV} {l : List α}, AllR R es l → ∀ e ∈ es, ∃ x ∈ l, R e x
  | _, _, .nil, e, h => by simp at h
  | _, _, .cons a t es ts h hs, e, he => by
    rcases List.mem_cons.1 he with rfl | he
    · exact ⟨t, by simp, h⟩
    · obtain ⟨x, hx, r⟩ := hs.mem e he
      exact ⟨x, by simp [hx], r⟩
theorem allR_of : ∀ {l : List AV}, (∀ el ∈ l, ∃ x, R el x) → ∃ xs, AllR R l xs
  | [], _ => ⟨[], .nil⟩
  | a :: l, h => by
    obtain ⟨t, ht⟩ := h a (by simp)
    obtain ⟨ts, hts⟩ := allR_of (l := l) (fun el hm => h el (by simp [hm]))
    exact ⟨t :: ts, .cons a t l ts ht hts⟩
end

def IsS {α : Type} (sz : Nat) (R : AV → α → Prop) (c : AV) (l : List α) : Prop := ∃ es, Sl sz c es ∧ AllR R es l ∧ es.length ≤ maxLen
def IsI (a : AV) (n : Int) : Prop := a = .v (.int .i64 n)
theorem IsI.elm {a : AV} {n : Int} (h : IsI a n) : El false 1 a := by
  cases h; exact ⟨rfl, rfl, fun _ => rfl, rfl, rfl, rfl⟩
theorem El.int (n : Int) : El false 1 (.v (.int .i64 n)) := ⟨rfl, rfl, fun _ => rfl, rfl, rfl, rfl⟩
theorem El.str (s : ByteArray) : El false 1 (.v (.string s)) := ⟨rfl, rfl, fun _ => rfl, rfl, rfl, rfl⟩

theorem fits_small {n b : Nat} (hn : n ≤ 1000000) (hb : b ≤ 1000) : fits n b = true := by
  have : n * b ≤ 1000000 * 1000 := Nat.mul_le_mul hn hb
  have : room = 140737488355328 := rfl
  simp only [fits, decide_eq_true_eq]; omega
theorem lvf_own {rt : TypeId} {h : List AO} {sz id ver n k : Nat} {l : List AV} (hr : h[id]? = some (.row rt sz ver l k)) (hn : n ≤ l.length) : lvf h (.own sz id ver 0 n) = some (.slc sz false false (l.take n), []) := by
  simp [lvf, AV.frz2, AV.frz1, AV.frz0, row_at hr hn]
def cloneR (rt : TypeId) (sz : Nat) (h : List AO) : List AV → AV × List AO
  | [] => (.slc sz true false [], h)
  | e :: l => (.own sz h.length 0 0 (l.length + 1), h ++ [.row rt sz 0 (e :: l) 0])
theorem clone_call {rt : TypeId} {F' : FuncId → Option FEntry} {f : FuncId} {sz bytes : Nat} (hf : F' f = some (.oracle (cloneG rt sz bytes))) {x : AV} {es : List AV} {h : List AO} (he : elemsOf h sz x = some es) (hfit : fits es.length bytes = true) :
    callW F' f [x] h = some (cloneR rt sz h es) := by
  refine callW_oracle hf ?_
  simp only [cloneG, he]
  cases es with
  | nil => rfl
  | cons e l => simp only [List.length_cons] at hfit; simp only [hfit, if_true, cloneR]

structure Cl where
  hd : Tm
  body : List Tm
  vars : Int
inductive IsCl : AV → Cl → Prop
  | mk (k : Int) (s : ByteArray) (n : Int) (c : AV) (l : List Tm) (hc : IsL c l) (b : AV) (bl : List Tm) (hb : IsL b bl) (vs : Int) : IsCl (.agg [.v (.int .i64 k), .v (.string s), .v (.int .i64 n), c, b, .v (.int .i64 vs)]) ⟨.mk k s n l, bl, vs⟩
theorem IsL.sn {c : AV} {l : List Tm} (h : IsL c l) (H : List AO) : c.snap0 H = some c := by cases h <;> rfl
theorem IsL.len {c : AV} {l : List Tm} (h : IsL c l) (H : List AO) : evLen H .slice c = some l.length := by
  cases h with
  | nil => rfl
  | slc ex nn es l h1 h2 => rw [← h1.length]; rfl
theorem IsCl.elm {a : AV} {x : Cl} (h : IsCl a x) : El true 6 a := by
  cases h with
  | mk k s n c l hc b bl hb vs =>
    cases hc <;> cases hb <;> exact ⟨rfl, rfl, fun _ => rfl, rfl, rfl, rfl⟩
theorem IsB.sl {c : AV} {l : List (Int × Tm)} (h : IsB c l) : ∃ es, Sl 5 c es ∧ AllB es l ∧ es.length ≤ maxLen := by
  cases h with
  | nil => exact ⟨[], .nil, .nil, by simp⟩
  | slc ex nn es l h hb => exact ⟨es, .slc ex nn es, h, hb⟩
theorem AllB.mem : ∀ {es : List AV} {l : List (Int × Tm)}, AllB es l → ∀ e ∈ es, ∃ v t, IsBd e v t
  | _, _, .nil, e, h => by simp at h
  | _, _, .cons a v t es ts h hs, e, he => by
    rcases List.mem_cons.1 he with rfl | he
    · exact ⟨v, t, h⟩
    · exact hs.mem e he
theorem All2.mem : ∀ {es : List AV} {l : List Tm}, All2 es l → ∀ e ∈ es, ∃ t ∈ l, IsT e t
  | _, _, .nil, e, h => by simp at h
  | _, _, .cons a t es ts h hs, e, he => by
    rcases List.mem_cons.1 he with rfl | he
    · exact ⟨t, by simp, h⟩
    · obtain ⟨x, hx, r⟩ := hs.mem e he
      exact ⟨x, by simp [hx], r⟩

/-! ### What comes in -/
section
variable {T : Tb}
theorem wt_ints {t e : TypeId} {i j : TI} (h : T.ty t = some i) (hd : i.desc = .slice e) (hj : T.ty e = some j) (hjd : j.desc = .int .i64) (hsz : j.size = 1) (hag : j.agg = false) {cs : List AV} (w : WT T t cs) : ∃ c l, cs = [c] ∧ IsS 1 IsI c l := by
  rcases wt_slice_of h hd hj w with rfl | ⟨l, rfl, hl, hel, has⟩
  · exact ⟨_, [], rfl, [], .nil, .nil, by simp⟩
  · obtain ⟨xs, hxs⟩ := allR_of (R := IsI) (l := l) (fun el hm => by
      obtain ⟨n, hn, _⟩ := wt_int_of hj hjd (hel el hm)
      have := has el hm
      rw [hag] at this
      exact ⟨n, one_cell this hn⟩)
    rw [hsz]
    exact ⟨_, xs, rfl, l, .slc _ _ _, hxs, hl⟩
theorem wt_bd {tI tS tN tT tL tB : TypeId} (hT : TmTy T tI tS tN tT tL) {i : TI} {f0 f1 : Field} (h : T.ty tB = some i) (hd : i.desc = .struct #[f0, f1]) (h0 : f0.type = tN) (h1 : f1.type = tT) {cs : List AV} (w : WT T tB cs) : ∃ v x, IsBd (.agg cs) v x := by
  obtain ⟨a, b, rfl, w0, w1⟩ := wt_struct2 h hd w
  obtain ⟨xn, hn1, hn2⟩ := hT.n
  rw [h0] at w0; rw [h1] at w1
  obtain ⟨v, rfl, _⟩ := wt_int_of hn1 hn2 w0
  obtain ⟨x, hx⟩ := hT.term w1
  exact ⟨v, x, .mk v b x hx⟩
theorem allB_of : ∀ {l : List AV}, (∀ el ∈ l, ∃ v t, IsBd el v t) → ∃ ts, AllB l ts
  | [], _ => ⟨[], .nil⟩
  | a :: l, h => by
    obtain ⟨v, t, ht⟩ := h a (by simp)
    obtain ⟨ts, hts⟩ := allB_of (l := l) (fun el hm => h el (by simp [hm]))
    exact ⟨(v, t) :: ts, .cons a v t l ts ht hts⟩
theorem wt_binds {tI tS tN tT tL tB tBs : TypeId} (hT : TmTy T tI tS tN tT tL) {i : TI} {f0 f1 : Field} (h : T.ty tB = some i) (hd : i.desc = .struct #[f0, f1]) (h0 : f0.type = tN) (h1 : f1.type = tT) (hsz : i.size = 5) (hag : i.agg = true) {j : TI} (hj : T.ty tBs = some j) (hjd : j.desc = .slice tB) {cs : List AV} (w : WT T tBs cs) : ∃ c l, cs = [c] ∧ IsB c l := by
  rcases wt_slice_of hj hjd h w with rfl | ⟨l, rfl, hl, hel, has⟩
  · exact ⟨_, [], rfl, .nil⟩
  · obtain ⟨xs, hxs⟩ := allB_of (l := l) (fun el hm => by
      obtain ⟨v, x, hx⟩ := wt_bd hT h hd h0 h1 (hel el hm)
      have := has el hm
      rw [hag] at this
      rw [← agg_cells this] at hx
      exact ⟨v, x, hx⟩)
    rw [hsz]
    exact ⟨_, xs, rfl, .slc _ _ _ _ hxs hl⟩
theorem wt_cl {tI tS tN tT tL tC : TypeId} (hT : TmTy T tI tS tN tT tL) {i : TI} {f0 f1 f2 : Field} (h : T.ty tC = some i) (hd : i.desc = .struct #[f0, f1, f2]) (h0 : f0.type = tT) (h1 : f1.type = tL) (h2 : f2.type = tI) {cs : List AV} (w : WT T tC cs) : ∃ x, IsCl (.agg cs) x := by
  obtain ⟨a, b, c, rfl, w0, w1, w2⟩ := wt_struct3 h hd w
  obtain ⟨xi, hi1, hi2⟩ := hT.i
  rw [h0] at w0; rw [h1] at w1; rw [h2] at w2
  obtain ⟨x, hx⟩ := hT.term w0
  obtain ⟨b', bl, rfl, hb⟩ := hT.terms w1
  obtain ⟨v, rfl, _⟩ := wt_int_of hi1 hi2 w2
  cases hx with
  | mk k s n c' l hc => exact ⟨_, .mk k s n c' l hc b' bl hb v⟩
theorem wt_cls {tI tS tN tT tL tC tCs : TypeId} (hT : TmTy T tI tS tN tT tL) {i : TI} {f0 f1 f2 : Field} (h : T.ty tC = some i) (hd : i.desc = .struct #[f0, f1, f2]) (h0 : f0.type = tT) (h1 : f1.type = tL) (h2 : f2.type = tI) (hsz : i.size = 6) (hag : i.agg = true) {j : TI} (hj : T.ty tCs = some j) (hjd : j.desc = .slice tC) {cs : List AV} (w : WT T tCs cs) : ∃ c l, cs = [c] ∧ IsS 6 IsCl c l := by
  rcases wt_slice_of hj hjd h w with rfl | ⟨l, rfl, hl, hel, has⟩
  · exact ⟨_, [], rfl, [], .nil, .nil, by simp⟩
  · obtain ⟨xs, hxs⟩ := allR_of (R := IsCl) (l := l) (fun el hm => by
      obtain ⟨x, hx⟩ := wt_cl hT h hd h0 h1 h2 (hel el hm)
      have := has el hm
      rw [hag] at this
      rw [← agg_cells this] at hx
      exact ⟨x, hx⟩)
    rw [hsz]
    exact ⟨_, xs, rfl, l, .slc _ _ _, hxs, hl⟩
end
end Go.AE
end
