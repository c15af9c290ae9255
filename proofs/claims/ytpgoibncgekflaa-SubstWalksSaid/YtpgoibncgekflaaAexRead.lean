/- AE, part 29: what comes in, read. -/
import Derived.Test.YtpgoibncgekflaaAexCall
import Derived.ChangeArms
import Derived.DataElems
set_option linter.unusedVariables false
set_option linter.unusedSimpArgs false
namespace Go.AE
open Go Go.RowKit

/-- Cells of a type. -/
inductive WT (T : Tb) : TypeId → List AV → Prop
  | bool (t : TypeId) (i : TI) (b : Bool) (ht : T.ty t = some i) (hd : i.desc = .bool) : WT T t [.v (.bool b)]
  | int (t : TypeId) (i : TI) (k : IntKind) (n : Int) (ht : T.ty t = some i) (hd : i.desc = .int k) (hw : (Lit.int k n).wf = true) : WT T t [.v (.int k n)]
  | str (t : TypeId) (i : TI) (s : ByteArray) (ht : T.ty t = some i) (hd : i.desc = .string) (hs : s.size ≤ maxLen) : WT T t [.v (.string s)]
  | nil (t : TypeId) (i : TI) (e : TypeId) (ht : T.ty t = some i) (hd : i.desc = .slice e) : WT T t [.v (.slice none 0 0)]
  | slc (t : TypeId) (i : TI) (e : TypeId) (j : TI) (l : List AV) (ht : T.ty t = some i) (hd : i.desc = .slice e) (he : T.ty e = some j) (hl : l.length ≤ maxLen)
      (hel : ∀ el ∈ l, WT T e el.cells) (has : ∀ el ∈ l, asEl j.agg el.cells = some el) : WT T t [.slc j.size false true l]
  | struct (t : TypeId) (i : TI) (fs : Array Field) (as : List (List AV)) (ht : T.ty t = some i) (hd : i.desc = .struct fs) (hlen : as.length = fs.size)
      (hf : ∀ (k : Nat) (f : Field) (a : List AV), fs[k]? = some f → as[k]? = some a → WT T f.type a) : WT T t as.flatten

def layB (T : Tb) (G : List TypeId) : Nat → List Field → Nat → Bool
  | off, [], total => off == total
  | off, f :: r, total => f.offset == off && G.contains f.type && (match T.ty f.type with
    | some j => layB T G (off + j.size) r total
    | none => false)
def goodB (T : Tb) (G : List TypeId) : Bool := G.all fun t => match T.ty t with
  | some i => (match i.desc with
    | .bool | .int _ | .string => i.size == 1
    | .slice e => i.size == 1 && G.contains e && (match T.ty e with
      | some j => decide (0 < j.size) && (j.agg || j.size == 1)
      | none => false)
    | .struct fs => layB T G 0 fs.toList i.size
    | _ => false)
  | none => false

theorem layB_le {T : Tb} {G : List TypeId} : ∀ {fs : List Field} {off total : Nat}, layB T G off fs total = true → off ≤ total := by
  intro fs
  induction fs with
  | nil => intro off total h; simp [layB] at h; omega
  | cons f r ih =>
    intro off total h
    simp only [layB, Bool.and_eq_true] at h
    obtain ⟨_, h⟩ := h
    split at h
    · have := ih h; omega
    · cases h

/-- All cells that are there. -/
def AllCells (w : World) : Cells := fun b x => ∃ v, w.cell? ⟨b, x, none⟩ = some v

def CellOk (w : World) (a : AV) (v : Value) : Prop := v.oneCell' = true ∧ Rep (AllCells w) w [] a v

section
variable {H : Type} {enc : TypeId × Value → H} {P : Program} {w : World} {spare : Nat → Bool} {held : Bool} {T : Tb} {G : List TypeId}

theorem TIok.cellsOf {t : TypeId} {i : TI} (h : TIok P t i) : P.cellsOf t = i.size := by
  obtain ⟨inf, h1, h2, h3, h4⟩ := h.info
  simp [Program.cellsOf, h1, h2]

theorem cells_some {a : Addr} {n : Nat} {cs : List Value} (h : w.cells? 0 a n = some cs) : cs.length = n ∧ ∀ i, i < n → w.cell? (a.add i) = cs[i]? := (World.cells?_some h).2

theorem trod_rd (hT : TbOk P T) (hG : goodB T G = true) : ∀ (fuel : Nat) (t : TypeId) (cs : List Value) (x : DataW H × List MemPlace), t ∈ G → DataW.trod enc P w 0 spare held fuel t cs = some x →
    ∃ as, WT T t as ∧ as.length = cs.length ∧ (∃ i, T.ty t = some i ∧ as.length = i.size) ∧ ∀ (i : Nat) (a : AV), as[i]? = some a → CellOk w a (cs.getD i undef) := by
  intro fuel
  induction fuel with
  | zero => intro t cs x _ h; simp [DataW.trod] at h
  | succ fuel ih =>
    intro t cs x ht h
    have hg := List.all_eq_true.1 hG t ht
    split at hg
    · rename_i i hti
      have hok := hT _ _ hti
      split at hg
      · rename_i hd
        obtain ⟨b, rfl, _⟩ := DataW.trod_bool (hd ▸ hok.und) h
        refine ⟨_, .bool t i b hti hd, rfl, ⟨i, hti, by simpa using (beq_iff_eq.1 hg).symm⟩, fun k a hk => ?_⟩
        match k, hk with
        | 0, hk => cases hk; exact ⟨rfl, .v _ _⟩
      · rename_i k hd
        obtain ⟨n, rfl, _, hw⟩ := DataW.trod_int (hd ▸ hok.und) h
        refine ⟨_, .int t i k n hti hd hw, rfl, ⟨i, hti, by simpa using (beq_iff_eq.1 hg).symm⟩, fun k a hk => ?_⟩
        match k, hk with
        | 0, hk => cases hk; exact ⟨rfl, .v _ _⟩
      · rename_i hd
        obtain ⟨s, rfl, _, hs⟩ := DataW.trod_string (hd ▸ hok.und) h
        refine ⟨_, .str t i s hti hd hs, rfl, ⟨i, hti, by simpa using (beq_iff_eq.1 hg).symm⟩, fun k a hk => ?_⟩
        match k, hk with
        | 0, hk => cases hk; exact ⟨rfl, .v _ _⟩
      · rename_i e hd
        simp only [Bool.and_eq_true] at hg
        obtain ⟨⟨hsz, he⟩, hj⟩ := hg
        split at hj
        · rename_i j hej
          simp only [Bool.and_eq_true, decide_eq_true_eq] at hj
          obtain ⟨hj0, hj1⟩ := hj
          have hoke := hT _ _ hej
          rcases DataW.trod_slice (hd ▸ hok.und) h with ⟨rfl, _⟩ | ⟨a, len, cap, elems, rest, n, hn, rfl, _, _, hlc, hcm, hel, hat, _, _⟩
          · refine ⟨_, .nil t i e hti hd, rfl, ⟨i, hti, by simpa using (beq_iff_eq.1 hsz).symm⟩, fun k a hk => ?_⟩
            match k, hk with
            | 0, hk => cases hk; exact ⟨rfl, .v _ _⟩
          · cases hn
            rw [hoke.cellsOf] at hat
            -- each element
            have each : ∀ q, q < len → ∃ as, WT T e as ∧ as.length = j.size ∧ ∀ (i : Nat) (c : AV), as[i]? = some c → ∃ v, w.cell? (a.add (q * j.size + i)) = some v ∧ CellOk w c v := by
              intro q hq
              have hq' := hat q hq
              rw [List.getElem?_eq_getElem (by omega), Option.bind_eq_some_iff] at hq'
              obtain ⟨cs, hcs, htr⟩ := hq'
              obtain ⟨c1, c2⟩ := cells_some hcs
              obtain ⟨as, w1, w2, _, w3⟩ := ih e cs _ (List.contains_iff_mem.1 he) htr
              refine ⟨as, w1, by omega, fun i c hi => ?_⟩
              have hlt := (List.getElem?_eq_some_iff.1 hi).1
              refine ⟨cs.getD i undef, ?_, w3 i c hi⟩
              rw [← Addr.add_add, c2 i (by omega), List.getD_eq_getElem?_getD, List.getElem?_eq_getElem (by omega)]
              rfl
            -- all of them
            have all : ∀ m, m ≤ len → ∃ l : List AV, l.length = m ∧ ∀ q el, l[q]? = some el → WT T e el.cells ∧ asEl j.agg el.cells = some el ∧ el.cells.length = j.size ∧
                ∀ (i : Nat) (c : AV), el.cells[i]? = some c → ∃ v, w.cell? (a.add (q * j.size + i)) = some v ∧ CellOk w c v := by
              intro m
              induction m with
              | zero => intro _; exact ⟨[], rfl, fun q el h => by simp at h⟩
              | succ m ihm =>
                intro hm
                obtain ⟨l, l1, l2⟩ := ihm (by omega)
                obtain ⟨as, a1, a2, a3⟩ := each m (by omega)
                have hel : ∃ el : AV, el.cells = as ∧ asEl j.agg as = some el := by
                  cases hag : j.agg with
                  | true => exact ⟨.agg as, rfl, rfl⟩
                  | false =>
                    rw [hag] at hj1
                    simp at hj1
                    match as, a2, a1, a3 with
                    | [c], _, a1, a3 =>
                      refine ⟨c, ?_, rfl⟩
                      obtain ⟨v, _, h1, h2⟩ := a3 0 c rfl
                      cases h2 <;> first | rfl | (simp [Value.oneCell'] at h1)
                    | [], h, _, _ => simp at h; omega
                    | _ :: _ :: _, h, _, _ => simp at h; omega
                obtain ⟨el, e1, e2⟩ := hel
                refine ⟨l ++ [el], by simp [l1], fun q x hx => ?_⟩
                by_cases hq : q < l.length
                · rw [List.getElem?_append_left hq] at hx
                  exact l2 q x hx
                · have : q = m := by
                    have := (List.getElem?_eq_some_iff.1 hx).1
                    simp at this; omega
                  subst this
                  rw [List.getElem?_append_right (by omega), l1] at hx
                  simp at hx
                  subst hx
                  rw [e1]
                  exact ⟨a1, e2, a2, a3⟩
            obtain ⟨l, l1, l2⟩ := all len (Nat.le_refl _)
            refine ⟨[.slc j.size false true l], .slc t i e j l hti hd hej (by omega) (fun el hm => ?_) (fun el hm => ?_), rfl, ⟨i, hti, by simpa using (beq_iff_eq.1 hsz).symm⟩, fun k x hk => ?_⟩
            · obtain ⟨q, hq⟩ := List.getElem?_of_mem hm
              exact (l2 q el hq).1
            · obtain ⟨q, hq⟩ := List.getElem?_of_mem hm
              exact (l2 q el hq).2.1
            · match k, hk with
              | 0, hk =>
                cases hk
                refine ⟨rfl, ?_⟩
                show Rep (AllCells w) w [] (.slc j.size false true l) (.slice (some a) len cap)
                rw [← l1]
                have hspot : l ≠ [] → some a = some ⟨a.block, a.off, none⟩ := by
                  intro hne
                  have h0 : l[0]? = some (l[0]'(List.length_pos_iff.2 hne)) := List.getElem?_eq_getElem _
                  obtain ⟨_, _, p3, p4⟩ := l2 0 _ h0
                  obtain ⟨v, hv, _⟩ := p4 0 _ (List.getElem?_eq_getElem (by omega))
                  simp only [Nat.zero_mul, Nat.add_zero, Addr.add, if_true] at hv
                  cases a with
                  | mk ab ao asp =>
                    cases asp with
                    | none => rfl
                    | some s =>
                      simp only [World.cell?] at hv
                      split at hv <;> simp at hv
                have hadd : ∀ n, l ≠ [] → a.add n = ⟨a.block, a.off + n, none⟩ := by
                  intro n hne
                  have := hspot hne
                  simp only [Option.some.injEq] at this
                  rw [this, Addr.add_lit]
                have ne : ∀ {q : Nat} {el : AV}, l[q]? = some el → l ≠ [] := by rintro q el h rfl; simp at h
                have cellv : ∀ (q : Nat) (el : AV) (i : Nat) (c : AV), l[q]? = some el → el.cells[i]? = some c → ∃ v, w.cell? ⟨a.block, a.off + (q * j.size + i), none⟩ = some v ∧ CellOk w c v := by
                  intro q el i c hq hi
                  obtain ⟨_, _, _, p4⟩ := l2 q el hq
                  obtain ⟨v, hv, hc⟩ := p4 i c hi
                  rw [hadd _ (ne hq)] at hv
                  exact ⟨v, hv, hc⟩
                refine .slc [] j.size false true l (some a) cap a.block a.off (fun q i => (w.cell? ⟨a.block, a.off + (q * j.size + i), none⟩).getD undef) hspot (fun _ h => by cases h) (fun h => by cases h) (by omega) (fun h => by cases h)
                  (fun q el hq => (l2 q el hq).2.2.1) (fun q el i c hq hi => ?_) (fun q el i c hq hi => ?_) (fun q el i c hq hi => ?_) (fun q el i c hq hi => ?_)
                · obtain ⟨v, hv, _⟩ := cellv q el i c hq hi
                  rw [hv]; rfl
                · obtain ⟨v, hv, _⟩ := cellv q el i c hq hi
                  exact ⟨v, hv⟩
                · obtain ⟨v, hv, hc⟩ := cellv q el i c hq hi
                  rw [hv]; exact hc.1
                · obtain ⟨v, hv, hc⟩ := cellv q el i c hq hi
                  rw [hv]; exact hc.2
        · cases hj
      · rename_i fs hd
        obtain ⟨xs, n, hn, _, hcl, hxl, hxs⟩ := DataW.trod_struct (hd ▸ hok.und) h
        cases hn
        rw [hok.cellsOf] at hcl
        have key : ∀ (l : List Field) (off : Nat), layB T G off l i.size = true → (∀ f ∈ l, ∃ x, DataW.trod enc P w 0 spare held fuel f.type ((cs.drop f.offset).take (P.cellsOf f.type)) = some x) →
            ∃ ass : List (List AV), ass.length = l.length ∧ (∀ (k : Nat) (f : Field) (a : List AV), l[k]? = some f → ass[k]? = some a → WT T f.type a) ∧ off + ass.flatten.length = i.size ∧
              ∀ (k : Nat) (a : AV), ass.flatten[k]? = some a → CellOk w a (cs.getD (off + k) undef) := by
          intro l
          induction l with
          | nil =>
            intro off hl _
            simp [layB] at hl
            exact ⟨[], rfl, fun k f a h => by simp at h, by simpa using hl, fun k a h => by simp at h⟩
          | cons f l ihl =>
            intro off hl hx
            simp only [layB, Bool.and_eq_true, beq_iff_eq] at hl
            obtain ⟨⟨hoff, hfg⟩, hl⟩ := hl
            split at hl
            · rename_i j hfj
              obtain ⟨x, hx0⟩ := hx f (by simp)
              have hle := layB_le hl
              rw [(hT _ _ hfj).cellsOf, hoff] at hx0
              obtain ⟨as, a1, a2, _, a3⟩ := ih f.type _ x (List.contains_iff_mem.1 hfg) hx0
              have hal : as.length = j.size := by rw [a2]; simp; omega
              obtain ⟨ass, b1, b2, b3, b4⟩ := ihl (off + j.size) hl (fun g hg => hx g (by simp [hg]))
              refine ⟨as :: ass, by simp [b1], fun k g a hk ha => ?_, by rw [List.flatten_cons, List.length_append]; omega, fun k a hk => ?_⟩
              · cases k with
                | zero => simp at hk ha; subst hk; subst ha; exact a1
                | succ k => exact b2 k g a (by simpa using hk) (by simpa using ha)
              · rw [List.flatten_cons] at hk
                by_cases hlt : k < as.length
                · rw [List.getElem?_append_left hlt] at hk
                  have := a3 k a hk
                  rw [List.getD_eq_getElem?_getD, List.getElem?_take_of_lt (by omega), List.getElem?_drop, ← List.getD_eq_getElem?_getD] at this
                  exact this
                · rw [List.getElem?_append_right (by omega)] at hk
                  have := b4 _ a hk
                  rw [show off + j.size + (k - as.length) = off + k by omega] at this
                  exact this
            · cases hl
        obtain ⟨ass, b1, b2, b3, b4⟩ := key fs.toList 0 hg (fun f hf => by
          obtain ⟨k, hk⟩ := List.getElem?_of_mem hf
          have hk' : fs[k]? = some f := by simpa using hk
          have := hxs k f hk'
          have hlt := (Array.getElem?_eq_some_iff.1 hk').1
          rw [List.getElem?_eq_getElem (by omega)] at this
          exact ⟨_, this⟩)
        refine ⟨ass.flatten, .struct t i fs ass hti hd (by simpa using b1) (fun k f a hk ha => b2 k f a (by simpa using hk) ha), by omega, ⟨i, hti, by omega⟩, fun k a hk => ?_⟩
        simpa using b4 k a hk
      · cases hg
    · cases hg

/-- An argument, read. -/
theorem trod_arg (hT : TbOk P T) (hG : goodB T G = true) {t : TypeId} {i : TI} (ht : t ∈ G) (hti : T.ty t = some i) {r : Reach} {base : Nat} {v : Value} {d : DataW H} {ps : List MemPlace} (hval : Value.okWide P w r base t v)
    (h : DataW.Trod enc P w 0 spare held t v d ps) : ∃ a, WT T t a.cells ∧ asEl i.agg a.cells = some a ∧ Rep (AllCells w) w [] a v := by
  obtain ⟨fuel, h⟩ := h
  obtain ⟨as, w1, w2, ⟨i', hi', w4⟩, w3⟩ := trod_rd hT hG fuel t _ _ ht h
  rw [hti] at hi'; cases hi'
  have hg := List.all_eq_true.1 hG t ht
  rw [hti] at hg
  simp only at hg
  cases hag : i.agg with
  | true =>
    have : ∃ fs, i.desc = .struct fs := by
      unfold TI.agg at hag
      split at hg <;> first | (rename_i hd; rw [hd] at hag; cases hag; done) | (rename_i _ hd; rw [hd] at hag; cases hag; done) | skip
      · rename_i fs hd; exact ⟨fs, hd⟩
      · cases hg
    obtain ⟨fs, hd⟩ := this
    obtain ⟨cs, rfl, hcs⟩ := WideShapes.okWide_struct (hd ▸ (hT _ _ hti).und) hval
    refine ⟨.agg as, w1, rfl, .agg [] as cs (by simpa [Value.cells] using w2.symm) (fun k c hk => ?_) (fun k c hk => ?_)⟩
    · have := (w3 k c hk).1
      simpa [Value.cells] using this
    · have := (w3 k c hk).2
      simpa [Value.cells] using this
  | false =>
    have hv : v.cells = #[v] := by
      split at hg
      · rename_i hd; obtain ⟨b, rfl⟩ := WideShapes.okWide_bool (hd ▸ (hT _ _ hti).und) hval; rfl
      · rename_i k hd; obtain ⟨n, rfl⟩ := WideShapes.okWide_int (hd ▸ (hT _ _ hti).und) hval; rfl
      · rename_i hd; obtain ⟨s, rfl⟩ := WideShapes.okWide_string (hd ▸ (hT _ _ hti).und) hval; rfl
      · rename_i e hd; obtain ⟨a, l, c, rfl⟩ := WideShapes.okWide_slice (hd ▸ (hT _ _ hti).und) hval; rfl
      · rename_i fs hd; unfold TI.agg at hag; rw [hd] at hag; cases hag
      · cases hg
    rw [hv] at w2 w3
    match as, w2, w1, w3 with
    | [c], _, w1, w3 =>
      obtain ⟨h1, h2⟩ := w3 0 c rfl
      have hc : c.cells = [c] := by
        cases c with
        | agg cs =>
          exfalso
          have e : (#[v].toList.getD 0 undef) = v := rfl
          rw [e] at h1 h2
          cases h2; simp [Value.oneCell'] at h1
        | _ => rfl
      exact ⟨c, by rw [hc]; exact w1, by rw [hc]; rfl, h2⟩
end
end Go.AE
