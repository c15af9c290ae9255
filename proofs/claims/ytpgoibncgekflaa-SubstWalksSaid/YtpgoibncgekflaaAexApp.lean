/- AE, part 11: append. -/
import Derived.Test.YtpgoibncgekflaaAexOps6
import Derived.ArgAppend
import Derived.Laws.AppendOwn
set_option linter.unusedVariables false
set_option linter.unusedSimpArgs false
namespace Go.AE
open Go Go.RowKit

section
variable {P : Program} {B : Nat} {w0 w w' : World} {I I' : Cells} {σ σ' : List Loc} {h : List AO}

theorem mul_succ_le {a b sz : Nat} (h : a < b) : a * sz + sz ≤ b * sz := by
  have := Nat.mul_le_mul_right sz (show a + 1 ≤ b from h)
  rwa [Nat.add_mul, Nat.one_mul] at this

/-- Elements that lie somewhere, as one list of cells. -/
theorem elems_list {sz : Nat} {l : List AV} (b o : Nat) (g : Nat → Nat → Value) (hsz : ∀ (j : Nat) (el : AV), l[j]? = some el → el.cells.length = sz)
    (hc : ∀ (j : Nat) (el : AV) (i : Nat) (c : AV), l[j]? = some el → el.cells[i]? = some c → w.cell? ⟨b, o + (j * sz + i), none⟩ = some (g j i))
    (h1 : ∀ (j : Nat) (el : AV) (i : Nat) (c : AV), l[j]? = some el → el.cells[i]? = some c → (g j i).oneCell' = true)
    (hr : ∀ (j : Nat) (el : AV) (i : Nat) (c : AV), l[j]? = some el → el.cells[i]? = some c → Rep I w [] c (g j i)) :
    ∃ news : List Value, ElemsRep I w sz l news.toArray ∧ ∀ (j : Nat) (u : Value), news[j]? = some u → w.cell? ⟨b, o + j, none⟩ = some u := by
  refine ⟨(List.range (l.length * sz)).map fun x => g (x / sz) (x % sz), ⟨by simp, hsz, ?_, ?_⟩, ?_⟩
  all_goals try (
    intro j el i c hj hi
    have hj' := (List.getElem?_eq_some_iff.1 hj).1
    have hi' := (List.getElem?_eq_some_iff.1 hi).1
    rw [hsz j el hj] at hi'
    have hlt : j * sz + i < l.length * sz := by have := mul_succ_le (sz := sz) hj'; omega
    have hd : (j * sz + i) / sz = j := by rw [Nat.mul_comm, Nat.mul_add_div (by omega), Nat.div_eq_of_lt hi']; omega
    have hm : (j * sz + i) % sz = i := by rw [Nat.mul_comm, Nat.mul_add_mod]; exact Nat.mod_eq_of_lt hi'
    have : ((List.range (l.length * sz)).map fun x => g (x / sz) (x % sz)).toArray.getD (j * sz + i) undef = g j i := by
      simp [Array.getD, hlt, hd, hm]
    rw [this]
    first | exact h1 j el i c hj hi | exact hr j el i c hj hi)
  intro x u hu
  have hx := (List.getElem?_eq_some_iff.1 hu).1
  simp at hx
  simp [hx] at hu
  subst hu
  have hpos : 0 < sz := by
    rcases Nat.eq_zero_or_pos sz with h0 | h0
    · subst h0; simp at hx
    · exact h0
  have hj : x / sz < l.length := Nat.div_lt_of_lt_mul (by rw [Nat.mul_comm]; exact hx)
  have hi : x % sz < sz := Nat.mod_lt _ hpos
  have hel : l[x / sz]? = some l[x / sz] := List.getElem?_eq_getElem hj
  have hcl : (l[x / sz]).cells[x % sz]? = some _ := List.getElem?_eq_getElem (by rw [hsz _ _ hel]; exact hi)
  have := hc _ _ _ _ hel hcl
  rwa [show x / sz * sz + x % sz = x by rw [Nat.mul_comm]; exact Nat.div_add_mod x sz] at this

/-- The elements behind a slice, where they lie. -/
theorem Rep.elems (hI : Inv B w0 I σ w h) {x : AV} {vx : Value} (hx : Rep I w σ x vx) {sz : Nat} {ys : List AV} (he : elemsOf h sz x = some ys) :
    ∃ a cap, vx = .slice a ys.length cap ∧ ys.length ≤ cap ∧ (a = none → ys = []) ∧
      ∃ news : List Value, ElemsRep I w sz ys news.toArray ∧ (∀ ad, a = some ad → ∀ (j : Nat) (u : Value), news[j]? = some u → w.cell? (ad.add j) = some u) := by
  have none_ : ElemsRep I w sz [] (([] : List Value).toArray) := ⟨by simp, fun j el e => by simp at e, fun j el i c e => by simp at e, fun j el i c e => by simp at e⟩
  cases hx with
  | v x =>
    simp only [elemsOf] at he
    split at he <;> first | (cases he; done) | skip
    all_goals (rename_i heq; first | (cases heq; cases he; exact ⟨none, 0, rfl, by simp, fun _ => rfl, [], none_, fun ad e => by cases e⟩) | (simp at heq))
  | slc _ sz' ex nn l a cap b o g ha hn hnil hcap hex hsz hc hi h1 hr =>
    simp only [elemsOf] at he
    split at he
    · rename_i e; cases he; subst e
      obtain ⟨news, n1, n2⟩ := elems_list (I := I) (w := w) b o g hsz hc h1 hr
      refine ⟨a, cap, rfl, hcap, fun e => ?_, news, n1, fun ad e j u hu => ?_⟩
      · by_cases hl : ys = []
        · exact hl
        · rw [ha hl] at e; cases e
      · have hl : ys ≠ [] := by
          rintro rfl
          have := n1.size; simp at this
          subst this; simp at hu
        rw [ha hl] at e; cases e
        rw [Addr.add_lit]; exact n2 j u hu
    · cases he
  | own _ sz' id ver off n x h1x L hL hv hx =>
    simp only [elemsOf] at he
    split at he
    · rename_i e; subst e
      obtain ⟨⟨l, k⟩, hra, e2⟩ := Option.map_eq_some_iff.1 he
      simp only at e2
      subst e2
      obtain ⟨hh, hm⟩ := rowAt_eq hra
      obtain ⟨hf, hver, hR⟩ := hI.obj id _ L hh hL
      have hlen := take_drop_len (l := l) (off := off) (n := n) hm
      rcases hx hver.symm with ⟨hhas, hcap, rfl⟩ | ⟨rfl, a, rfl⟩
      · rw [hlen]
        by_cases hne : l = []
        · subst hne
          simp at hm
          have hn0 : n = 0 := by omega
          subst hn0
          exact ⟨_, _, rfl, by omega, (fun e => by cases e), [], by simpa using none_, fun ad e j u hu => by simp at hu⟩
        · obtain ⟨_, _, _, _, hsz, g, hc, h1, hr⟩ := hI.row_cells hh hL hne
          obtain ⟨news, n1, n2⟩ := elems_list (I := I) (w := w) (sz := sz') (l := (l.drop off).take n) L.b (L.o + off * sz') (fun j i => g (off + j) i)
            (fun j el e => hsz _ el (drop_take_get l off n j el e).1)
            (fun j el i c e f => by
              have := hc _ el i c (drop_take_get l off n j el e).1 f
              rwa [show L.o + off * sz' + (j * sz' + i) = L.o + ((off + j) * sz' + i) by rw [Nat.add_mul]; omega])
            (fun j el i c e f => h1 _ el i c (drop_take_get l off n j el e).1 f) (fun j el i c e f => hr _ el i c (drop_take_get l off n j el e).1 f)
          exact ⟨_, _, rfl, by omega, (fun e => by cases e), news, n1, fun ad e j u hu => by cases e; rw [Addr.add_lit]; exact n2 j u hu⟩
      · exact ⟨a, 0, by simp, by simp, fun _ => by simp, [], by simpa using none_, fun ad e j u hu => by simp at hu⟩
    · cases he
  | _ => simp [elemsOf] at he

/-- Nothing is appended. -/
theorem run_append_zero {t ty e : TypeId} {i : TI} (hu : P.underlying t = some (.slice e)) (ht : TIok P e i) (a : Option Addr) (n cap : Nat) (hle : n ≤ cap) (a' : Option Addr) (c' : Nat) :
    (Builtin.append_ #[t, t] ty #[.slice a n cap, .slice a' 0 c']).run P w = .ok (.slice a n cap) w := by
  obtain ⟨inf, q1, q2, q3, q4⟩ := ht.info
  cases a <;> cases a' <;>
  simp [Builtin.append_, run_underlying hu, Go.sizeOf, typeInfo, q1, Builtin.lenOf, hle, Builtin.firstCells, loadCells, loadCellsFrom, storeCells]

theorem Inv.drew (hI : Inv B w0 I σ w h) : Inv B w0 I σ w.drew h ∧ Step B I σ w I σ w.drew := by
  have he : Ext I w I w.drew := ⟨fun _ _ hx => hx, fun _ _ _ => rfl⟩
  exact ⟨hI.same ((Below.refl B w).drew) he hI.imm (fun j Lj _ _ => ⟨rfl, fun x hx => hx⟩), he, Later.refl _, fun _ _ hx => .inl hx, Nat.le_refl _⟩

theorem getD_left {a b : Array Value} {x : Nat} (hx : x < a.size) : (a ++ b).getD x undef = a.getD x undef := by
  rw [Array.getD_eq_getD_getElem?, Array.getD_eq_getD_getElem?, Array.getElem?_append_left hx]
theorem getD_right {a b : Array Value} {x : Nat} (hx : a.size ≤ x) : (a ++ b).getD x undef = b.getD (x - a.size) undef := by
  rw [Array.getD_eq_getD_getElem?, Array.getD_eq_getD_getElem?, Array.getElem?_append_right hx]

/-- Two stretches of elements, one behind the other, and what lies behind them. -/
theorem ElemsRep.two {sz : Nat} {l1 l2 : List AV} {a1 a2 : Array Value} (h1 : ElemsRep I w sz l1 a1) (h2 : ElemsRep I w sz l2 a2) (rest : Array Value) :
    (∀ (j : Nat) (el : AV), (l1 ++ l2)[j]? = some el → el.cells.length = sz) ∧
    (∀ (j : Nat) (el : AV) (i : Nat) (c : AV), (l1 ++ l2)[j]? = some el → el.cells[i]? = some c → ((a1 ++ a2 ++ rest).getD (j * sz + i) undef).oneCell' = true) ∧
    (∀ (j : Nat) (el : AV) (i : Nat) (c : AV), (l1 ++ l2)[j]? = some el → el.cells[i]? = some c → Rep I w [] c ((a1 ++ a2 ++ rest).getD (j * sz + i) undef)) := by
  have get : ∀ (j : Nat) (el : AV), (l1 ++ l2)[j]? = some el → (j < l1.length ∧ l1[j]? = some el) ∨ (l1.length ≤ j ∧ l2[j - l1.length]? = some el) := by
    intro j el hj
    by_cases hlt : j < l1.length
    · rw [List.getElem?_append_left hlt] at hj; exact .inl ⟨hlt, hj⟩
    · rw [List.getElem?_append_right (by omega)] at hj; exact .inr ⟨by omega, hj⟩
  have val : ∀ (j : Nat) (el : AV) (i : Nat) (c : AV), (l1 ++ l2)[j]? = some el → el.cells[i]? = some c →
      (l1[j]? = some el ∧ (a1 ++ a2 ++ rest).getD (j * sz + i) undef = a1.getD (j * sz + i) undef) ∨
      (l2[j - l1.length]? = some el ∧ (a1 ++ a2 ++ rest).getD (j * sz + i) undef = a2.getD ((j - l1.length) * sz + i) undef) := by
    intro j el i c hj hc
    have hi := (List.getElem?_eq_some_iff.1 hc).1
    have s1 := h1.size
    have s2 := h2.size
    rcases get j el hj with ⟨hlt, hj⟩ | ⟨hge, hj⟩
    · rw [h1.cells j el hj] at hi
      have := mul_succ_le (sz := sz) hlt
      refine .inl ⟨hj, ?_⟩
      rw [Array.append_assoc, getD_left (by omega)]
    · have hj' := (List.getElem?_eq_some_iff.1 hj).1
      rw [h2.cells _ el hj] at hi
      have m1 := mul_succ_le (sz := sz) hj'
      have m2 : j * sz = l1.length * sz + (j - l1.length) * sz := by rw [← Nat.add_mul]; congr 1; omega
      refine .inr ⟨hj, ?_⟩
      rw [Array.append_assoc, getD_right (by omega), getD_left (by omega)]
      congr 1; omega
  refine ⟨fun j el hj => ?_, fun j el i c hj hc => ?_, fun j el i c hj hc => ?_⟩
  · rcases get j el hj with ⟨_, hj⟩ | ⟨_, hj⟩
    · exact h1.cells j el hj
    · exact h2.cells _ el hj
  · rcases val j el i c hj hc with ⟨h3, h4⟩ | ⟨h3, h4⟩
    · rw [h4]; exact h1.one j el i c h3 hc
    · rw [h4]; exact h2.one _ el i c h3 hc
  · rcases val j el i c hj hc with ⟨h3, h4⟩ | ⟨h3, h4⟩
    · rw [h4]; exact h1.rep j el i c h3 hc
    · rw [h4]; exact h2.rep _ el i c h3 hc

theorem ElemsRep.mono {sz : Nat} {l : List AV} {arr : Array Value} (hr : ElemsRep I w sz l arr) (he : Ext I w I' w') : ElemsRep I' w' sz l arr :=
  ⟨hr.size, hr.cells, hr.one, fun j el i c a b => (hr.rep j el i c a b).mono he (Later.nil _)⟩
theorem ElemsRep.nil (sz : Nat) : ElemsRep I w sz [] #[] := ⟨by simp, fun j el e => by simp at e, fun j el i c e => by simp at e, fun j el i c e => by simp at e⟩

theorem ElemsRep.ones {sz : Nat} {l : List AV} {news : List Value} (hr : ElemsRep I w sz l news.toArray) : ∀ u ∈ news, u.oneCell' = true := by
  intro u hu
  obtain ⟨x, hx⟩ := List.getElem?_of_mem hu
  have hlt := (List.getElem?_eq_some_iff.1 hx).1
  have hs := hr.size
  simp at hs
  have hpos : 0 < sz := by
    rcases Nat.eq_zero_or_pos sz with h0 | h0
    · subst h0; simp at hs; subst hs; simp at hlt
    · exact h0
  have hj : x / sz < l.length := Nat.div_lt_of_lt_mul (by rw [Nat.mul_comm]; omega)
  have hel : l[x / sz]? = some l[x / sz] := List.getElem?_eq_getElem hj
  have hcl : (l[x / sz]).cells[x % sz]? = some _ := List.getElem?_eq_getElem (by rw [hr.cells _ _ hel]; exact Nat.mod_lt _ hpos)
  have := hr.one _ _ _ _ hel hcl
  rw [show x / sz * sz + x % sz = x by rw [Nat.mul_comm]; exact Nat.div_add_mod x sz] at this
  rwa [getD_get (v := u) (by simpa using hx)] at this

/-- Two stretches in a new block, with room behind them, as a row of our own. -/
theorem gives_two_new (hI : Inv B w0 I σ w h) {sz : Nat} {l1 l2 : List AV} {olds news : List Value} (h1 : ElemsRep I w sz l1 olds.toArray) (h2 : ElemsRep I w sz l2 news.toArray) {z : Value} (hz : z.cells.size = sz)
    {cap : Nat} (hcap : l1.length + l2.length ≤ cap) (e : TypeId) {s : Sem Next}
    (hs : s.run P w = .ok (.value (.slice (some ⟨w.heap.size, 0, none⟩) (l1.length + l2.length) cap)) (w.drew.alloc (.cells (olds.toArray ++ news.toArray ++ Builtin.zeroCells z.cells (cap - (l1.length + l2.length))) e))) :
    Gives P B w0 I σ w s (.own sz h.length 0 0 (l1.length + l2.length)) (h ++ [.row sz 0 (l1 ++ l2) 0]) := by
  obtain ⟨hI1, st1⟩ := hI.drew
  obtain ⟨t1, t2, t3⟩ := (h1.mono st1.ext).two (h2.mono st1.ext) (Builtin.zeroCells z.cells (cap - (l1.length + l2.length)))
  have s1 := h1.size
  have s2 := h2.size
  simp only [List.size_toArray] at s1 s2
  obtain ⟨g1, g2⟩ := hI1.row_new (cap := cap) (l := l1 ++ l2) (sz := sz) (by
      simp only [Array.size_append, List.size_toArray, size_zeroCells, hz, s1, s2, ← Nat.add_mul]
      exact Nat.mul_le_mul_right _ (by omega)) (by simp; omega) t1 t2 t3 e
  refine ⟨_, _, I, _, .inl hs, g1, st1.trans g2, ?_⟩
  rw [← hI.len]
  exact rep_own_new hcap
end
end Go.AE
