/- Texts of this claim, put together. -/
import Derived.RangeFuncNested
import Derived.RangeFuncBound
import Derived.RangeFuncCalls
import Derived.RangeFuncLeaves
import Derived.RangeFuncFrom
import Derived.Laws.Rows
import Derived.KernelRfl
import Derived.Shelf.Abstract
import Derived.WalkKit
import Derived.OwnWalkIn
import Derived.TacticsInMore
import Derived.LoopNIn
import Derived.LoopIn
import Derived.Test.YtchiacliefahdaaProg
import Derived.Test.YtchiacliefahdaaEval2
import Derived.Test.YtchiacliefahdaaEval3
/-! subst.Look walked: a range over slices.Backward. -/
section
namespace Go.Proofs.Ytchiacliefahdaa
open Go Go.RowKit Go.Shelf Go.Proofs
attribute [local go_sem] Oper.semAt_some

def upto {α : Type} (f : Nat → α) (k : Nat) : List α := (List.range k).map f
theorem upto_succ {α : Type} (f : Nat → α) (k : Nat) : upto f (k + 1) = upto f k ++ [f k] := by simp [upto, List.range_succ]
theorem upto_length {α : Type} (f : Nat → α) (k : Nat) : (upto f k).length = k := by simp [upto]

theorem upto_le {α : Type} (f : Nat → α) (k : Nat) : ∀ m, ∃ r, upto f (k + m) = upto f k ++ r
  | 0 => ⟨[], by simp⟩
  | m + 1 => by
    obtain ⟨r, hr⟩ := upto_le f k m
    exact ⟨r ++ [f (k + m)], by rw [← Nat.add_assoc, upto_succ, hr, List.append_assoc]⟩

structure T4 where
  k : Int
  s : ByteArray
  n : Int
  a : Option Addr
  l : Nat
  c : Nat

/-- the cells of an element: the Var, the term -/
def bindV (V : Nat → Int) (C : Nat → T4) (j : Nat) : Value := .agg #[.int .i64 (V j), (.int .i64 (C j).k), (.string (C j).s), (.int .i64 (C j).n), (.slice (C j).a (C j).l (C j).c)]

set_option maxRecDepth 100000 in
set_option maxHeartbeats 4000000 in
theorem back1_in (F : Fence) (n : Nat) (h24 : F.fn 24) (hro : F.round = none) (hn : 1 ≤ n) (l Bs n₀ b off len cap : Nat) (V : Nat → Int) (C : Nat → T4) (hreach : len ≤ 1000000) (hb : b < n₀) (J Jx : List Nat → World → Prop)
    (hY : ∀ pre (x : Nat) W, J pre W → pre.length < len → YieldAt F (n - 1) Try.prog l #[.int .i64 (x : Int), bindV V C x] W fun e W' =>
      (e = .returned (.bool true) ∧ J (pre ++ [x]) W' ∧ Below n₀ W W') ∨ (e = .returned (.bool false) ∧ Jx (pre ++ [x]) W'))
    (W : World) (a : Option Addr) (ha : 0 < len → a = some ⟨b, off, none⟩) (hBs : W.cell? ⟨Bs, 0, none⟩ = some (.slice a len cap)) (hBs' : Bs < n₀)
    (hc : ∀ j, j < len → W.cell? ⟨b, off + j * 5, none⟩ = some (.int .i64 (V j)) ∧ W.cell? ⟨b, off + j * 5 + 1, none⟩ = some ((.int .i64 (C j).k)) ∧ W.cell? ⟨b, off + j * 5 + 2, none⟩ = some ((.string (C j).s)) ∧ W.cell? ⟨b, off + j * 5 + 3, none⟩ = some ((.int .i64 (C j).n)) ∧ W.cell? ⟨b, off + j * 5 + 4, none⟩ = some ((.slice (C j).a (C j).l (C j).c))) (h0 : J [] W) :
    CallsIn F n Try.prog 24 #[.func (.yield l) #[] #[], .pointer (some ⟨Bs, 0, none⟩)] W fun e W' => (∃ v, e = .returned v) ∧
      ((∃ ys, ys = upto (fun j => len - 1 - j) len ∧ J ys W') ∨ (∃ pre, (∃ k, k ≤ len ∧ pre = upto (fun j => len - 1 - j) k) ∧ Jx pre W')) := by
  refine callsIn_of_wp Try.func24 rfl h24 ?_ hro
  simp only [Try.ntmps24, List.size_toArray, List.length_cons, List.length_nil, Nat.reduceAdd, Nat.reduceSub, Array.replicate_succ, Array.replicate_zero, List.push_toArray, List.append_toArray, List.nil_append, List.cons_append]
  gi_wp2
  gi_loopw [3] (fun i wr => ∃ k : Nat, k ≤ len ∧ i = .int .i64 ((len : Int) - 1 - k) ∧ J (upto (fun j => len - 1 - j) k) wr ∧ Below n₀ W wr)
    (fun i _ => (intOf i + 1).toNat)
  case atStart => exact ⟨0, Nat.zero_le _, by simp, h0, Below.refl _ _⟩
  case round =>
    obtain ⟨k, hk, rfl, hJs, hnx⟩ := hrel
    have hBx := (hnx.cell (p := ⟨Bs, 0, none⟩) hBs').trans hBs
    by_cases hlt : k < len
    · obtain rfl := ha (by omega)
      obtain ⟨fn, tmps, assign, body, hy, hR⟩ := hY _ (len - 1 - k) wr hJs (by rw [upto_length]; exact hlt)
      dsimp only [bindV] at hy
      rw [show ((len - 1 - k : Nat) : Int) = (len : Int) - 1 - k by omega] at hy
      obtain ⟨c0, c1, c2, c3, c4⟩ := hc (len - 1 - k) (by omega)
      have d0 := (hnx.cell (p := ⟨b, off + (len - 1 - k) * 5, none⟩) hb).trans c0
      have d1 := (hnx.cell (p := ⟨b, off + (len - 1 - k) * 5 + 1, none⟩) hb).trans c1
      have d2 := (hnx.cell (p := ⟨b, off + (len - 1 - k) * 5 + 2, none⟩) hb).trans c2
      have d3 := (hnx.cell (p := ⟨b, off + (len - 1 - k) * 5 + 3, none⟩) hb).trans c3
      have d4 := (hnx.cell (p := ⟨b, off + (len - 1 - k) * 5 + 4, none⟩) hb).trans c4
      gi_wp2
      refine hR.mono ?_
      rintro e W3 (⟨rfl, hJ3, hk3⟩ | ⟨rfl, hJx3⟩)
      · gi_wp2
        go_roundw
        case rel => exact ⟨k + 1, by omega, by congr 1; omega, by rw [upto_succ]; exact hJ3, hnx.trans hk3⟩
        case measure => simp [intOf]; omega
      · gi_wp2
        refine bodyPost_ret (results_none rfl _ _ _) rfl ?_
        exact ⟨⟨_, rfl⟩, .inr ⟨_, ⟨k + 1, by omega, (upto_succ _ _).symm⟩, hJx3⟩⟩
    · obtain rfl : k = len := by omega
      gi_wp2
      go_end0
      exact ⟨⟨_, rfl⟩, .inl ⟨_, rfl, hJs⟩⟩

set_option maxHeartbeats 1000000 in
theorem back_in (F : Fence) (n : Nat) (h22 : F.fn 22) (hro : F.round = none) (a : Option Addr) (len cap : Nat) (w : World) :
    CallsIn F n Try.prog 22 #[.slice a len cap] w fun e w' => e = .returned (.func (.func 24) #[] #[.pointer (some ⟨w.heap.size, 0, none⟩)]) ∧ w' = w.alloc (.cells #[.slice a len cap] 35) := by
  refine callsIn_of_wp Try.func22 rfl h22 ?_ hro
  simp only [Try.ntmps22, List.size_toArray, List.length_cons, List.length_nil, Nat.reduceAdd, Nat.reduceSub, Array.replicate_succ, Array.replicate_zero, List.push_toArray, List.append_toArray, List.nil_append, List.cons_append]
  gi_wp2
  go_ret
  exact ⟨rfl, rfl⟩

/-- what an element's cells hold -/
def BindsAt (w : World) (b off len : Nat) (V : Nat → Int) (C : Nat → T4) : Prop :=
  ∀ j, j < len → w.cell? ⟨b, off + j * 5, none⟩ = some (.int .i64 (V j)) ∧ w.cell? ⟨b, off + j * 5 + 1, none⟩ = some ((.int .i64 (C j).k)) ∧ w.cell? ⟨b, off + j * 5 + 2, none⟩ = some ((.string (C j).s)) ∧ w.cell? ⟨b, off + j * 5 + 3, none⟩ = some ((.int .i64 (C j).n)) ∧ w.cell? ⟨b, off + j * 5 + 4, none⟩ = some ((.slice (C j).a (C j).l (C j).c))
theorem BindsAt.below {w w' : World} {b off len n : Nat} {V : Nat → Int} {C : Nat → T4} (h : BindsAt w b off len V C) (hb : 0 < len → b < n) (hw : Below n w w') : BindsAt w' b off len V C := by
  intro j hj
  have hb := hb (by omega)
  obtain ⟨h0, h1, h2, h3, h4⟩ := h j hj
  exact ⟨(hw.cell (p := ⟨b, _, none⟩) hb).trans h0, (hw.cell (p := ⟨b, _, none⟩) hb).trans h1, (hw.cell (p := ⟨b, _, none⟩) hb).trans h2, (hw.cell (p := ⟨b, _, none⟩) hb).trans h3, (hw.cell (p := ⟨b, _, none⟩) hb).trans h4⟩

theorem back_stops (F : Fence) (n : Nat) (h24 : F.fn 24) (hro : F.round = none) (hn : 1 ≤ n) (Bs n₀ b off len cap : Nat) (V : Nat → Int) (C : Nat → T4) (hreach : len ≤ 1000000) (a : Option Addr) (ha : 0 < len → a = some ⟨b, off, none⟩) (w : World)
    (hn0 : n₀ ≤ w.heap.size) (hBs : Bs < n₀) (hb : 0 < len → b < n₀) (hc : w.cell? ⟨Bs, 0, none⟩ = some (.slice a len cap)) (hI : BindsAt w b off len V C) :
    SeqStopsK F n Try.prog 24 #[.pointer (some ⟨Bs, 0, none⟩)] (fun x : Nat => #[Value.int .i64 (x : Int), bindV V C x]) (Below n₀) (fun ys => ys = upto (fun j => len - 1 - j) len) (fun pre => ∃ k, k ≤ len ∧ pre = upto (fun j => len - 1 - j) k) len w := fun l J Jx W hW _ _ hY h0 => by
  have hc' := (hW.cell (p := ⟨Bs, 0, none⟩) (by simp; omega)).trans hc
  have hI' := hI.below hb (hW.mono hn0)
  by_cases hlen : 0 < len
  · exact back1_in F n h24 hro hn l Bs n₀ b off len cap V C hreach (hb hlen) J Jx hY W a ha hc' hBs hI' h0
  · obtain rfl : len = 0 := by omega
    refine (back1_in F n h24 hro hn l Bs n₀ 0 0 0 cap V C hreach (by omega) J Jx hY W a (fun h => absurd h (by omega)) hc' hBs (fun j hj => absurd hj (by omega)) h0)

/-- the last one that binds v, of those that are passed -/
def lookOf (V : Nat → Int) (C : Nat → T4) (v : Int) : List Nat → Value
  | [] => .tuple #[.agg #[.int .i64 0, .string ⟨#[]⟩, .int .i64 0, .slice none 0 0], .bool false]
  | j :: r => if V j = v then .tuple #[.agg #[(.int .i64 (C j).k), (.string (C j).s), (.int .i64 (C j).n), (.slice (C j).a (C j).l (C j).c)], .bool true] else lookOf V C v r
theorem lookOf_none {V : Nat → Int} {C : Nat → T4} {v : Int} : ∀ {l : List Nat}, (∀ j ∈ l, V j ≠ v) → lookOf V C v l = .tuple #[.agg #[.int .i64 0, .string ⟨#[]⟩, .int .i64 0, .slice none 0 0], .bool false]
  | [], _ => rfl
  | j :: r, h => by rw [lookOf, if_neg (h j (by simp))]; exact lookOf_none (fun i hi => h i (by simp [hi]))
theorem lookOf_some {V : Nat → Int} {C : Nat → T4} {v : Int} {j : Nat} (hj : V j = v) : ∀ {l r : List Nat}, (∀ j ∈ l, V j ≠ v) → lookOf V C v (l ++ j :: r) = .tuple #[.agg #[(.int .i64 (C j).k), (.string (C j).s), (.int .i64 (C j).n), (.slice (C j).a (C j).l (C j).c)], .bool true]
  | [], _, _ => by simp [lookOf, hj]
  | i :: l, r, h => by rw [List.cons_append, lookOf, if_neg (h i (by simp))]; exact lookOf_some hj (fun i hi => h i (by simp [hi]))

theorem cells_own {β : Type} (B : Nat) (o : Obj) (ho : o.isCells = true) : Own (fun (_ : β) W => W.heap[B]? = some o) := fun s X Y row hs hg hrow =>
  (hg.block B (Array.getElem?_eq_some_iff.1 hs).1 (fun e' => by obtain ⟨o', ho', hc⟩ := hrow B e'.symm; rw [hs] at ho'; cases ho'; rw [ho] at hc; cases hc)).trans hs
theorem heap_below {w : World} {B : Nat} {o o' : Obj} (h : w.heap[B]? = some o) : (w.alloc o').heap[B]? = some o := (Below.heap_alloc w o' B (Array.getElem?_eq_some_iff.1 h).1).trans h

theorem look_results {W : World} {tmps : Array Value} {B1 B2 : Nat} {cs : Array Value} {bv : Value} (h4 : tmps.getD 4 undef = .pointer (some ⟨B1, 0, none⟩)) (h5 : tmps.getD 5 undef = .pointer (some ⟨B2, 0, none⟩))
    (e4 : W.heap[B1]? = some (.cells cs 25)) (hcs : cs.size = 4) (e5 : W.heap[B2]? = some (.cells #[bv] 4)) : (results Try.f19 tmps).run Try.prog W = .ok (.tuple #[.agg cs, bv]) W := by
  have hi : (Try.prog.info? 25).map (·.size) = some 4 := by kernel_rfl
  have l4 := run_loadVar_row W B1 25 25 cs (0, 0) _ e4 Try.underlying25 rfl (by rw [hcs]; exact hi)
  have c5 : W.cell? ⟨B2, 0, none⟩ = some bv := by simp [World.cell?, e5]
  have h4' : tmps[4]?.getD undef = .pointer (some ⟨B1, 0, none⟩) := by simpa using h4
  have h5' : tmps[5]?.getD undef = .pointer (some ⟨B2, 0, none⟩) := by simpa using h5
  have l5 : (loadVar 4 ⟨B2, 0, none⟩).run Try.prog W = .ok bv W := by
    simp [loadVar, isAgg, c5, go_sem]
  simp [results, Try.results19, h4', h5', asAddr, l4, l5]

theorem set_here {W : World} {B i : Nat} {arr : Array Value} {t : TypeId} {u : Value} (h : W.heap[B]? = some (.cells arr t)) : (W.setCell ⟨B, i, none⟩ u).heap[B]? = some (.cells (arr.setIfInBounds i u) t) := by
  obtain ⟨hlt, hk⟩ := Array.getElem?_eq_some_iff.1 h
  show (W.heap.modify B _)[B]? = _
  rw [Array.getElem?_eq_getElem (by rw [Array.size_modify]; exact hlt), Array.getElem_modify_self, hk]
  rfl
theorem set_there {W : World} {B B' i : Nat} {u : Value} (h : B ≠ B') : (W.setCell ⟨B', i, none⟩ u).heap[B]? = W.heap[B]? := by
  show (W.heap.modify B' _)[B]? = _
  rw [Array.getElem?_modify, if_neg (fun e => h e.symm)]

set_option maxRecDepth 100000 in
set_option maxHeartbeats 4000000 in
theorem look_in (F : Fence) (n : Nat) (h19 : F.fn 19) (h22 : F.fn 22) (h24 : F.fn 24) (hro : F.round = none) (hn : 4 ≤ n) (b off len cap : Nat) (V : Nat → Int) (C : Nat → T4) (v : Int) (hreach : len ≤ 1000000) (a : Option Addr) (ha : 0 < len → a = some ⟨b, off, none⟩) (w : World)
    (hb : 0 < len → b < w.heap.size) (hI : BindsAt w b off len V C) :
    CallsIn F n Try.prog 19 #[.slice a len cap, .int .i64 v] w fun e w' => e = .returned (lookOf V C v (upto (fun j => len - 1 - j) len)) ∧ Below w.heap.size w w' := by
  have h1 : 1 ≤ n := by omega
  refine callsIn_of_wp_marks Try.func19 rfl h19 ?_ hro
  simp only [Try.ntmps19, List.size_toArray, List.length_cons, List.length_nil, Nat.reduceAdd, Nat.reduceSub, Array.replicate_succ, Array.replicate_zero, List.push_toArray, List.append_toArray, List.nil_append, List.cons_append]
  gi_wp2_with (gi_at_call 22; refine (back_in F (n - 1) h22 hro _ _ _ _).mono ?_; rintro e w' ⟨rfl, rfl⟩)
  obtain ⟨W0, hW0⟩ : ∃ W0, ((((w.alloc (Obj.cells #[Value.int IntKind.i64 v] 2)).alloc (Obj.cells #[Value.int IntKind.i64 0, Value.string { data := #[] }, Value.int IntKind.i64 0, Value.slice none 0 0] 25)).alloc (Obj.cells #[Value.bool false] 4)).alloc (Obj.cells #[Value.slice a len cap] 35)) = W0 := ⟨_, rfl⟩
  have hsz : W0.heap.size = w.heap.size + 4 := by rw [← hW0]; simp
  have g3 : W0.heap[w.heap.size]? = some (.cells #[.int .i64 v] 2) := by
    rw [← hW0]; exact heap_below (heap_below (heap_below (World.alloc_heap_new w _)))
  have g4 : W0.heap[w.heap.size + 1]? = some (.cells #[.int .i64 0, .string ⟨#[]⟩, .int .i64 0, .slice none 0 0] 25) := by
    rw [← hW0]
    have := World.alloc_heap_new (w.alloc (Obj.cells #[Value.int IntKind.i64 v] 2)) (Obj.cells #[Value.int IntKind.i64 0, Value.string { data := #[] }, Value.int IntKind.i64 0, Value.slice none 0 0] 25)
    rw [World.size_alloc] at this
    exact heap_below (heap_below this)
  have g5 : W0.heap[w.heap.size + 1 + 1]? = some (.cells #[.bool false] 4) := by
    rw [← hW0]
    have := World.alloc_heap_new ((w.alloc (Obj.cells #[Value.int IntKind.i64 v] 2)).alloc (Obj.cells #[Value.int IntKind.i64 0, Value.string { data := #[] }, Value.int IntKind.i64 0, Value.slice none 0 0] 25)) (Obj.cells #[Value.bool false] 4)
    rw [World.size_alloc, World.size_alloc] at this
    exact heap_below this
  have g6 : W0.heap[w.heap.size + 1 + 1 + 1]? = some (.cells #[.slice a len cap] 35) := by
    rw [← hW0]
    have := World.alloc_heap_new (((w.alloc (Obj.cells #[Value.int IntKind.i64 v] 2)).alloc (Obj.cells #[Value.int IntKind.i64 0, Value.string { data := #[] }, Value.int IntKind.i64 0, Value.slice none 0 0] 25)).alloc (Obj.cells #[Value.bool false] 4)) (Obj.cells #[Value.slice a len cap] 35)
    rw [World.size_alloc, World.size_alloc, World.size_alloc] at this
    exact this
  have hB0 : Below w.heap.size w W0 := by
    rw [← hW0]
    exact ((((Below.refl _ w).alloc (Nat.le_refl _) _).alloc (by simp) _).alloc (by simp; omega) _).alloc (by simp; omega) _
  rw [hW0]
  have hs := back_stops F (n - 1) h24 hro (by omega) (w.heap.size + 1 + 1 + 1) W0.heap.size b off len cap V C hreach a ha W0 (Nat.le_refl _) (by omega) (fun h => by have := hb h; omega) (by simp [World.cell?, g6]) (hI.below hb hB0)
  refine wpIn_rangeFunc_ownH hro h1 (gf := 24) (lb := #[.pointer (some ⟨w.heap.size + 1 + 1 + 1, 0, none⟩)]) rfl h24 (enters_of Try.func24 (by kernel_rfl) rfl) hs belowK_t (belowK_b (Nat.le_refl _)) (Below.refl _ _) (fun _ => rfl)
    (fun pre W => W.heap[w.heap.size]? = some (.cells #[.int .i64 v] 2) ∧ W.heap[w.heap.size + 1]? = some (.cells #[.int .i64 0, .string ⟨#[]⟩, .int .i64 0, .slice none 0 0] 25) ∧ W.heap[w.heap.size + 1 + 1]? = some (.cells #[.bool false] 4) ∧ (∀ j ∈ pre, V j ≠ v) ∧ Below W0.heap.size W0 W)
    (fun c pre W => c = .ret ∧ W.heap[w.heap.size + 1 + 1]? = some (.cells #[.bool true] 4) ∧ (∃ pre' j, pre = pre' ++ [j] ∧ (∀ j ∈ pre', V j ≠ v) ∧ V j = v ∧ W.heap[w.heap.size + 1]? = some (.cells #[(.int .i64 (C j).k), (.string (C j).s), (.int .i64 (C j).n), (.slice (C j).a (C j).l (C j).c)] 25)) ∧ Below w.heap.size w W)
    ?hI ?hIx ?h0 
    (fun x a' W => ∃ Bx, W0.heap.size ≤ Bx ∧ W.heap[Bx]? = some (.cells #[.int .i64 (V x), (.int .i64 (C x).k), (.string (C x).s), (.int .i64 (C x).n), (.slice (C x).a (C x).l (C x).c)] 41) ∧ a' = { tmps := #[.slice a len cap, .int .i64 v, undef, .pointer (some ⟨w.heap.size, 0, none⟩), .pointer (some ⟨w.heap.size + 1, 0, none⟩), .pointer (some ⟨w.heap.size + 1 + 1, 0, none⟩), undef, .pointer (some ⟨Bx, 0, none⟩), .slice a len cap, .func (.func 24) #[] #[.pointer (some ⟨w.heap.size + 1 + 1 + 1, 0, none⟩)], .int .i64 x, bindV V C x, undef, undef, undef, undef, undef, undef, undef], defers := [] })
    ?hAx ?assign ?body ?done ?stop
  case h0 => exact ⟨g3, g4, g5, by simp, Below.refl _ _⟩
  case hI =>
    intro s A B row h hg hr
    obtain ⟨e1, e2, e3, e4, e5⟩ := h
    have hr' := fun r e => (hr r e).2
    exact ⟨cells_own _ _ rfl s A B row e1 hg hr', cells_own _ _ rfl s A B row e2 hg hr', cells_own _ _ rfl s A B row e3 hg hr', e4, ownFrom_below (Nat.le_refl _) (Nat.le_refl _) s A B row e5 hg hr⟩
  case hIx =>
    intro c s A B row h hg hr
    obtain ⟨e1, e2, ⟨pre', j, e3, e4, e5, e6⟩, e7⟩ := h
    have hr' := fun r e => (hr r e).2
    exact ⟨e1, cells_own _ _ rfl s A B row e2 hg hr', ⟨pre', j, e3, e4, e5, cells_own _ _ rfl s A B row e6 hg hr'⟩, ownFrom_below (Nat.le_refl _) (by omega) s A B row e7 hg hr⟩
  case hAx =>
    intro x a' s A B row h hg hr
    obtain ⟨Bx, e1, e2, e3⟩ := h
    exact ⟨Bx, e1, cells_own _ _ rfl s A B row e2 hg (fun r e => (hr r e).2), e3⟩
  case assign =>
    rintro l pre x W K hi hK
    simp only [bindV]
    gi_wp2
    obtain ⟨e3, e4, e5, hpre, hB⟩ := hi
    exact hK _ _ ((KeepsOthers.alloc _ _).from _) ((Below.refl _ W).alloc hB.size _) ⟨heap_below e3, heap_below e4, heap_below e5, hpre, hB.alloc hB.size _⟩ ⟨W.heap.size, hB.size, World.alloc_heap_new W _, rfl⟩
  case body =>
    rintro l pre x a' W hl ⟨r, hr⟩ ⟨e3, e4, e5, hpre, hB⟩ ⟨Bx, hBx, eX, rfl⟩ hlt
    have x0 : W.cell? ⟨Bx, 0, none⟩ = some (.int .i64 (V x)) := by simp [World.cell?, eX]
    have x1 : W.cell? ⟨Bx, 1, none⟩ = some (.int .i64 (C x).k) := by simp [World.cell?, eX]
    have x2 : W.cell? ⟨Bx, 2, none⟩ = some (.string (C x).s) := by simp [World.cell?, eX]
    have x3 : W.cell? ⟨Bx, 3, none⟩ = some (.int .i64 (C x).n) := by simp [World.cell?, eX]
    have x4 : W.cell? ⟨Bx, 4, none⟩ = some (.slice (C x).a (C x).l (C x).c) := by simp [World.cell?, eX]
    have v3 : W.cell? ⟨w.heap.size, 0, none⟩ = some (.int .i64 v) := by simp [World.cell?, e3]
    have y0 : W.cell? ⟨w.heap.size + 1, 0, none⟩ = some (.int .i64 0) := by simp [World.cell?, e4]
    have y1 : W.cell? ⟨w.heap.size + 1, 1, none⟩ = some (.string ⟨#[]⟩) := by simp [World.cell?, e4]
    have y2 : W.cell? ⟨w.heap.size + 1, 2, none⟩ = some (.int .i64 0) := by simp [World.cell?, e4]
    have y3 : W.cell? ⟨w.heap.size + 1, 3, none⟩ = some (.slice none 0 0) := by simp [World.cell?, e4]
    have z0 : W.cell? ⟨w.heap.size + 1 + 1, 0, none⟩ = some (.bool false) := by simp [World.cell?, e5]
    have f0 : ∀ i, W.frozen? ⟨w.heap.size + 1, i, none⟩ = false := by intro i; simp [World.frozen?, e4]
    have f1 : W.frozen? ⟨w.heap.size + 1 + 1, 0, none⟩ = false := by simp [World.frozen?, e5]
    have k0 := f0 0
    have k1 := f0 1
    have k2 := f0 2
    have k3 := f0 3
    have hBw : Below w.heap.size w W := hB0.trans (hB.mono (by omega))
    by_cases hv : V x = v
    · gi_wp2
      refine ⟨((((((KeepsOthers.setCell _ _ _).trans (KeepsOthers.setCell _ _ _)).trans (KeepsOthers.setCell _ _ _)).trans (KeepsOthers.setCell _ _ _)).trans (KeepsOthers.setCell _ _ _)).from _), rfl, ?_, ⟨pre, x, rfl, hpre, hv, ?_⟩, ?_⟩
      · rw [set_here (arr := #[.bool false]) (t := 4)]
        · rfl
        · rw [set_there (by omega), set_there (by omega), set_there (by omega), set_there (by omega)]; exact e5
      · rw [set_there (by omega)]
        rw [set_here (set_here (set_here (set_here e4)))]
        rfl
      · exact ((((hBw.setCell (p := ⟨w.heap.size + 1, 0, none⟩) (by simp) _).setCell (p := ⟨w.heap.size + 1, 1, none⟩) (by simp) _).setCell (p := ⟨w.heap.size + 1, 2, none⟩) (by simp) _).setCell (p := ⟨w.heap.size + 1, 3, none⟩) (by simp) _).setCell (p := ⟨w.heap.size + 1 + 1, 0, none⟩) (by simp; omega) _
    · gi_wp2
      refine ⟨(KeepsOthers.refl W).from _, Below.refl _ _, e3, e4, e5, ?_, hB⟩
      intro j hj
      rcases List.mem_append.1 hj with hj | hj
      · exact hpre j hj
      · rw [List.mem_singleton.1 hj]; exact hv
  case done =>
    rintro D xs W hD rfl ⟨e3, e4, e5, hpre, hB⟩ hK
    have y0 : W.cell? ⟨w.heap.size + 1, 0, none⟩ = some (.int .i64 0) := by simp [World.cell?, e4]
    have y1 : W.cell? ⟨w.heap.size + 1, 1, none⟩ = some (.string ⟨#[]⟩) := by simp [World.cell?, e4]
    have y2 : W.cell? ⟨w.heap.size + 1, 2, none⟩ = some (.int .i64 0) := by simp [World.cell?, e4]
    have y3 : W.cell? ⟨w.heap.size + 1, 3, none⟩ = some (.slice none 0 0) := by simp [World.cell?, e4]
    have z0 : W.cell? ⟨w.heap.size + 1 + 1, 0, none⟩ = some (.bool false) := by simp [World.cell?, e5]
    have f0 : ∀ i, W.frozen? ⟨w.heap.size + 1, i, none⟩ = false := by intro i; simp [World.frozen?, e4]
    have f1 : W.frozen? ⟨w.heap.size + 1 + 1, 0, none⟩ = false := by simp [World.frozen?, e5]
    have k0 := f0 0
    have k1 := f0 1
    have k2 := f0 2
    have k3 := f0 3
    have hBw : Below w.heap.size w W := hB0.trans (hB.mono (by omega))
    gi_wp2
    refine ⟨by simp, .inl ⟨_, _, rfl, run_takeDeferred (ds := []) ?_, ?_⟩⟩
    · rw [set_there (by omega), set_there (by omega), set_there (by omega), set_there (by omega), set_there (by omega)]; exact hK
    · refine ⟨_, look_results (B1 := w.heap.size + 1) (B2 := w.heap.size + 1 + 1) (cs := #[.int .i64 0, .string ⟨#[]⟩, .int .i64 0, .slice none 0 0]) (bv := .bool false) rfl rfl ?_ rfl ?_, ?_, ?_⟩
      · rw [World.putObj_heap_other (by omega), set_there (by omega), set_here (set_here (set_here (set_here e4)))]; rfl
      · rw [World.putObj_heap_other (by omega), set_here (arr := #[.bool false])]
        · rfl
        · rw [set_there (by omega), set_there (by omega), set_there (by omega), set_there (by omega)]; exact e5
      · rw [lookOf_none hpre]
      · refine (((((hBw.setCell (p := ⟨w.heap.size + 1, 0, none⟩) (by simp) _).setCell (p := ⟨w.heap.size + 1, 1, none⟩) (by simp) _).setCell (p := ⟨w.heap.size + 1, 2, none⟩) (by simp) _).setCell (p := ⟨w.heap.size + 1, 3, none⟩) (by simp) _).setCell (p := ⟨w.heap.size + 1 + 1, 0, none⟩) (by simp; omega) _).trans (belowK_b (w := w) (Nat.le_refl _) _ D (.deferred (some [])) _ (by omega) ?_ rfl rfl)
        rw [set_there (by omega), set_there (by omega), set_there (by omega), set_there (by omega), set_there (by omega)]; exact hK
  case stop =>
    rintro D c pre W hD ⟨k, hk, rfl⟩ ⟨rfl, e5, ⟨pre', j, hpre, hne, hv, e4⟩, hB⟩ hK
    gi_wp2
    refine ⟨by simp, .inl ⟨_, _, rfl, run_takeDeferred hK, ?_⟩⟩
    refine ⟨_, look_results (B1 := w.heap.size + 1) (B2 := w.heap.size + 1 + 1) rfl rfl ((World.putObj_heap_other (by omega)).trans e4) rfl ((World.putObj_heap_other (by omega)).trans e5), ?_, hB.trans (belowK_b (w := w) (Nat.le_refl _) W D _ _ (by omega) hK rfl rfl)⟩
    obtain ⟨m, rfl⟩ : ∃ m, len = k + m := ⟨len - k, by omega⟩
    obtain ⟨r, hr⟩ := upto_le (fun j => k + m - 1 - j) k m
    rw [hr, hpre, List.append_assoc, List.singleton_append, lookOf_some hv hne]
end Go.Proofs.Ytchiacliefahdaa
end

/-! subst.Look as an oracle. -/
section
set_option linter.unusedVariables false
set_option linter.unusedSimpArgs false
namespace Go.Proofs.Ytchiacliefahdaa
open Go Go.RowKit Go.AE Go.Proofs

def isSl : AV → Bool
  | .slc .. => true
  | .v (.slice _ _ _) => true
  | _ => false
def isB : AV → Bool
  | .agg [.v (.int .i64 _), .v (.int .i64 _), .v (.string _), .v (.int .i64 _), c] => isSl c
  | _ => false
def zeroTerm : AV := .agg [.v (.int .i64 0), .v (.string ⟨#[]⟩), .v (.int .i64 0), .v (.slice none 0 0)]
/-- the first of these that binds n -/
def lookA (n : Int) : List AV → AV
  | [] => .tup [zeroTerm, .v (.bool false)]
  | .agg (.v (.int .i64 v) :: t) :: r => if v = n then .tup [.agg t, .v (.bool true)] else lookA n r
  | _ :: r => lookA n r
def lookG (args : List AV) (h : List AO) : Option (AV × List AO) :=
  match args with
  | [.v (.slice none 0 0), .v (.int .i64 n)] => some (lookA n [], h)
  | [.slc 5 _ _ l, .v (.int .i64 n)] => if l.length ≤ 1000000 ∧ l.all isB = true then some (lookA n l.reverse, h) else none
  | _ => none

section
variable {I : Cells} {w w' : World} {σ : List AE.Loc}

theorem isSl_val {c : AV} {v : Value} (hc : isSl c = true) (hr : Rep I w σ c v) : ∃ a l n, v = .slice a l n := by
  cases c with
  | slc sz ex nn l => cases hr with | slc _ _ _ _ _ a cap b o g => exact ⟨_, _, _, rfl⟩
  | v x =>
    have : v = x := by cases hr; rfl
    subst this
    cases v <;> simp [isSl] at hc
    exact ⟨_, _, _, rfl⟩
  | _ => simp [isSl] at hc

theorem isB_form {el : AV} (h : isB el = true) : ∃ v k s n c, el = .agg [.v (.int .i64 v), .v (.int .i64 k), .v (.string s), .v (.int .i64 n), c] ∧ isSl c = true := by
  unfold isB at h
  split at h
  · exact ⟨_, _, _, _, _, rfl, h⟩
  · cases h

theorem upto_rev (l : List AV) : (upto (fun j => l.length - 1 - j) l.length).map (fun j => l.getD j .junk) = l.reverse := by
  apply List.ext_getElem
  · simp [upto]
  · intro i h1 h2
    simp [upto] at h1 ⊢
    rw [List.getElem?_eq_getElem (by omega)]
    rfl
theorem upto_lt {len : Nat} {j : Nat} (h : j ∈ upto (fun j => len - 1 - j) len) : j < len := by
  simp [upto] at h
  obtain ⟨k, h1, rfl⟩ := h
  omega
end

theorem zeroTerm_rep {I : Cells} {w : World} {σ : List AE.Loc} : Rep I w σ (.tup [zeroTerm, .v (.bool false)]) (.tuple #[.agg #[.int .i64 0, .string ⟨#[]⟩, .int .i64 0, .slice none 0 0], .bool false]) := by
  refine .tup σ _ _ rfl (fun i c hi => ?_)
  match i, hi with
  | 0, hi =>
    cases hi
    refine .agg σ _ _ rfl (fun i c hi => ?_) (fun i c hi => ?_)
    · match i, hi with
      | 0, hi => rfl
      | 1, hi => rfl
      | 2, hi => rfl
      | 3, hi => rfl
    · match i, hi with
      | 0, hi => cases hi; exact .v _ _
      | 1, hi => cases hi; exact .v _ _
      | 2, hi => cases hi; exact .v _ _
      | 3, hi => cases hi; exact .v _ _
  | 1, hi => cases hi; exact .v _ _

theorem look_enter (vals : Array Value) (w : World) : (callFunc 19 vals).run Try.prog w = .ok (.enter 19 vals) w := enters_of Try.func19 (by kernel_rfl) rfl vals w

theorem look_ends {B : Nat} {w0 w : World} {I : Cells} {σ : List AE.Loc} {h : List AO} (hI : AE.Inv B w0 I σ w h) {r : AV} {e : Ending} {v : Value} {w' : World} (he : e = .returned v) (hB : Below w.heap.size w w') (hr : Rep I w σ r v) : AE.Ends B w0 I σ w r h e w' := by
  have hext : Ext I w I w' := ⟨fun _ _ h => h, fun b x hi => hB.cell (p := ⟨b, x, none⟩) (hI.imm_lt hi)⟩
  refine ⟨v, I, σ, he, hI.same (hB.mono hI.base) hext (fun b x hi => by
    obtain ⟨u, hu⟩ := hI.imm b x hi
    exact ⟨u, (hext.cell b x hi).trans hu⟩) (fun j Lj hj hh => ⟨hB.block _ (hI.mine j Lj hj hh).2, fun _ h => h⟩), ⟨hext, Later.refl _, fun _ _ h => .inl h, hB.size⟩, hr.mono hext (Later.refl _)⟩

theorem look_ok : ∀ args h r h', lookG args h = some (r, h') → (∀ (vals : Array Value) (w : World), (callFunc 19 vals).run Try.prog w = .ok (.enter 19 vals) w) ∧
    ∀ B w0 I σ w (vals : Array Value), AE.Inv B w0 I σ w h → ArgsRep I w σ args vals → Calls Try.prog 19 vals w (AE.Ends B w0 I σ w r h') := by
  intro args h r h' hg
  refine ⟨look_enter, fun B w0 I σ w vals hI ha => ?_⟩
  have two : ∀ {x y : AV}, args = [x, y] → ∃ u v, vals = #[u, v] ∧ Rep I w σ x u ∧ Rep I w σ y v := by
    rintro x y rfl
    have hs := ha.size
    obtain ⟨l⟩ := vals
    match l, hs with
    | [u, v], _ => exact ⟨u, v, rfl, ha.rep 0 x rfl, ha.rep 1 y rfl⟩
  unfold lookG at hg
  split at hg
  · rename_i n
    cases hg
    obtain ⟨u, v, rfl, h1, h2⟩ := two rfl
    cases h1; cases h2
    have := look_in Fence.wide 4 trivial trivial trivial rfl (by omega) 0 0 0 0 (fun _ => 0) (fun _ => ⟨0, ⟨#[]⟩, 0, none, 0, 0⟩) n (by omega) none (fun h => absurd h (by omega)) w (fun h => absurd h (by omega)) (fun j hj => absurd hj (by omega))
    refine (callsIn_wide.1 this).mono ?_
    rintro e w' ⟨he, hB⟩
    exact look_ends hI he hB zeroTerm_rep
  · rename_i ex nn l n
    split at hg
    · rename_i hc
      obtain ⟨hlen, hall⟩ := hc
      cases hg
      obtain ⟨u, v, rfl, h1, h2⟩ := two rfl
      cases h2
      cases h1 with
      | slc _ _ _ _ _ a cap b o g haa hn hnil hcap hex hsz hcc hi h1 hr =>
        have hform : ∀ j, j < l.length → ∃ v k s n c, l[j]? = some (.agg [.v (.int .i64 v), .v (.int .i64 k), .v (.string s), .v (.int .i64 n), c]) ∧ isSl c = true := by
          intro j hj
          obtain ⟨v, k, s, n, c, h1, h2⟩ := isB_form (List.all_eq_true.1 hall l[j] (List.getElem_mem hj))
          exact ⟨v, k, s, n, c, by rw [List.getElem?_eq_getElem hj, h1], h2⟩
        have hcell : ∀ j, j < l.length → ∃ v k s n a m c ca, l[j]? = some (.agg [.v (.int .i64 v), .v (.int .i64 k), .v (.string s), .v (.int .i64 n), ca]) ∧
            g j 0 = .int .i64 v ∧ g j 1 = .int .i64 k ∧ g j 2 = .string s ∧ g j 3 = .int .i64 n ∧ g j 4 = .slice a m c ∧ Rep I w [] ca (.slice a m c) := by
          intro j hj
          obtain ⟨v, k, s, n, c, h1, h2⟩ := hform j hj
          have r0 := hr j _ 0 _ h1 rfl
          have r1 := hr j _ 1 _ h1 rfl
          have r2 := hr j _ 2 _ h1 rfl
          have r3 := hr j _ 3 _ h1 rfl
          have r4 := hr j _ 4 c h1 rfl
          obtain ⟨a, m, c', e4⟩ := isSl_val h2 r4
          rw [e4] at r4
          generalize g j 0 = g0 at r0 ⊢
          generalize g j 1 = g1 at r1 ⊢
          generalize g j 2 = g2 at r2 ⊢
          generalize g j 3 = g3 at r3 ⊢
          cases r0; cases r1; cases r2; cases r3
          exact ⟨v, k, s, n, a, m, c', c, h1, rfl, rfl, rfl, rfl, e4, r4⟩
        let V : Nat → Int := fun j => match g j 0 with | .int _ n => n | _ => 0
        let C : Nat → T4 := fun j => match g j 1, g j 2, g j 3, g j 4 with
          | .int _ k, .string s, .int _ n, .slice a m c => ⟨k, s, n, a, m, c⟩
          | _, _, _, _ => ⟨0, ⟨#[]⟩, 0, none, 0, 0⟩
        have hba : BindsAt w b o l.length V C := by
          intro j hj
          obtain ⟨v, k, s, n, a, m, c, ca, e, e0, e1, e2, e3, e4, _⟩ := hcell j hj
          have q : ∀ i c, ([AV.v (.int .i64 v), .v (.int .i64 k), .v (.string s), .v (.int .i64 n), ca] : List AV)[i]? = some c → w.cell? ⟨b, o + (j * 5 + i), none⟩ = some (g j i) := fun i c hi => hcc j _ i c e hi
          have p0 := q 0 _ rfl
          have p1 := q 1 _ rfl
          have p2 := q 2 _ rfl
          have p3 := q 3 _ rfl
          have p4 := q 4 _ rfl
          simp only [V, C, e0, e1, e2, e3, e4]
          rw [e0] at p0; rw [e1] at p1; rw [e2] at p2; rw [e3] at p3; rw [e4] at p4
          exact ⟨p0, p1, p2, p3, p4⟩
        have hbw : 0 < l.length → b < w.heap.size := by
          intro h0
          obtain ⟨v, k, s, n, a, m, c, ca, e, _⟩ := hcell 0 h0
          exact hI.imm_lt (hi 0 _ 0 _ e rfl)
        have := look_in Fence.wide 4 trivial trivial trivial rfl (by omega) b o l.length cap V C n hlen a (fun h => haa (by intro e; rw [e] at h; simp at h)) w hbw hba
        refine (callsIn_wide.1 this).mono ?_
        rintro e w' ⟨he, hB⟩
        refine look_ends hI he hB ?_
        rw [← upto_rev]
        have key : ∀ L : List Nat, (∀ j ∈ L, j < l.length) → Rep I w σ (lookA n (L.map fun j => l.getD j .junk)) (lookOf V C n L) := by
          intro L
          induction L with
          | nil => intro _; exact zeroTerm_rep
          | cons j L ih =>
            intro hL
            obtain ⟨v, k, s, n', a, m, c, ca, e, e0, e1, e2, e3, e4, r4⟩ := hcell j (hL j (by simp))
            have hget : l.getD j .junk = .agg [.v (.int .i64 v), .v (.int .i64 k), .v (.string s), .v (.int .i64 n'), ca] := by rw [List.getD_eq_getElem?_getD, e]; rfl
            have hV : V j = v := by simp only [V, e0]
            have hC : C j = ⟨k, s, n', a, m, c⟩ := by simp only [C, e1, e2, e3, e4]
            rw [List.map_cons, hget, lookA, lookOf, hV, hC]
            split
            · refine .tup σ _ _ rfl (fun i c hi => ?_)
              match i, hi with
              | 0, hi =>
                cases hi
                refine .agg σ _ _ rfl (fun i c hi => ?_) (fun i c hi => ?_)
                · match i, hi with
                  | 0, hi => rfl
                  | 1, hi => rfl
                  | 2, hi => rfl
                  | 3, hi => rfl
                · match i, hi with
                  | 0, hi => cases hi; exact .v _ _
                  | 1, hi => cases hi; exact .v _ _
                  | 2, hi => cases hi; exact .v _ _
                  | 3, hi => cases hi; exact r4.mono (Ext.refl _ _) (Later.nil _)
              | 1, hi => cases hi; exact .v _ _
            · exact ih (fun i hi => hL i (by simp [hi]))
        exact key _ (fun j hj => upto_lt hj)
    · cases hg
  · cases hg
end Go.Proofs.Ytchiacliefahdaa
end

/-! The functions of the program that the laws of layer 17 reach, as the evaluator carries them out, each checked against the loaded program. -/
section
set_option linter.unusedVariables false
set_option maxRecDepth 100000
namespace Go.Proofs.Ytchiacliefahdaa
open Go Go.AE Go.Proofs
def K : Nat → World → Prop := fun _ _ => True
theorem hKs : Holds K := holds_true
theorem mixed0 : Try.prog.follows .mixedOrders = true := by kernel_rfl
def ti2 : TI := ⟨1, 8, (.int .i64 0), (.int .i64)⟩
theorem tiOk2 : TIok Try.prog 2 ti2 := tiok_of (by kernel_rfl) (by kernel_rfl)
def ti3 : TI := ⟨1, 8, (.int .i64 0), (.int .i64)⟩
theorem tiOk3 : TIok Try.prog 3 ti3 := tiok_of (by kernel_rfl) (by kernel_rfl)
def ti9 : TI := ⟨1, 16, (.string ⟨#[]⟩), .string⟩
theorem tiOk9 : TIok Try.prog 9 ti9 := tiok_of (by kernel_rfl) (by kernel_rfl)
def ti22 : TI := ⟨1, 24, (.slice none 0 0), (.slice 32)⟩
theorem tiOk22 : TIok Try.prog 22 ti22 := tiok_of (by kernel_rfl) (by kernel_rfl)
def ti23 : TI := ⟨1, 24, (.slice none 0 0), (.slice 25)⟩
theorem tiOk23 : TIok Try.prog 23 ti23 := tiok_of (by kernel_rfl) (by kernel_rfl)
def ti25 : TI := ⟨4, 56, (.agg #[(.int .i64 0), (.string ⟨#[]⟩), (.int .i64 0), (.slice none 0 0)]), (.struct #[⟨"Kind", 3, 0, false, "", "", 0⟩, ⟨"Name", 9, 1, false, "", "", 8⟩, ⟨"N", 2, 2, false, "", "", 24⟩, ⟨"Args", 23, 3, false, "", "", 32⟩])⟩
theorem tiOk25 : TIok Try.prog 25 ti25 := tiok_of (by kernel_rfl) (by kernel_rfl)
def ti28 : TI := ⟨1, 24, (.slice none 0 0), (.slice 3)⟩
theorem tiOk28 : TIok Try.prog 28 ti28 := tiok_of (by kernel_rfl) (by kernel_rfl)
def ti32 : TI := ⟨6, 88, (.agg #[(.int .i64 0), (.string ⟨#[]⟩), (.int .i64 0), (.slice none 0 0), (.slice none 0 0), (.int .i64 0)]), (.struct #[⟨"Head", 25, 0, false, "", "", 0⟩, ⟨"Body", 23, 4, false, "", "", 56⟩, ⟨"Vars", 3, 5, false, "", "", 80⟩])⟩
theorem tiOk32 : TIok Try.prog 32 ti32 := tiok_of (by kernel_rfl) (by kernel_rfl)
def ti35 : TI := ⟨1, 24, (.slice none 0 0), (.slice 41)⟩
theorem tiOk35 : TIok Try.prog 35 ti35 := tiok_of (by kernel_rfl) (by kernel_rfl)
def ti41 : TI := ⟨5, 64, (.agg #[(.int .i64 0), (.int .i64 0), (.string ⟨#[]⟩), (.int .i64 0), (.slice none 0 0)]), (.struct #[⟨"Var", 2, 0, false, "", "", 0⟩, ⟨"To", 25, 1, false, "", "", 8⟩])⟩
theorem tiOk41 : TIok Try.prog 41 ti41 := tiok_of (by kernel_rfl) (by kernel_rfl)
def ti43 : TI := ⟨1, 8, (.int .i64 0), (.int .i64)⟩
theorem tiOk43 : TIok Try.prog 43 ti43 := tiok_of (by kernel_rfl) (by kernel_rfl)
def ti46 : TI := ⟨1, 8, (.pointer none), (.pointer 3)⟩
theorem tiOk46 : TIok Try.prog 46 ti46 := tiok_of (by kernel_rfl) (by kernel_rfl)
def ti48 : TI := ⟨1, 8, .nilFunc, (.func #[3] #[4] false)⟩
theorem tiOk48 : TIok Try.prog 48 ti48 := tiok_of (by kernel_rfl) (by kernel_rfl)
def ti50 : TI := ⟨5, 80, (.agg #[(.slice none 0 0), (.int .i64 0), (.string ⟨#[]⟩), (.int .i64 0), (.slice none 0 0)]), (.struct #[⟨"p", 22, 0, false, "", "spinney/index", 0⟩, ⟨"t", 25, 1, false, "", "spinney/index", 24⟩])⟩
theorem tiOk50 : TIok Try.prog 50 ti50 := tiok_of (by kernel_rfl) (by kernel_rfl)
def ti60 : TI := ⟨4, 40, (.agg #[(.int .i64 0), (.int .i64 0), (.string ⟨#[]⟩), (.int .i64 0)]), (.struct #[⟨"kind", 3, 0, false, "", "spinney/index", 0⟩, ⟨"arity", 3, 1, false, "", "spinney/index", 8⟩, ⟨"name", 9, 2, false, "", "spinney/index", 16⟩, ⟨"n", 2, 3, false, "", "spinney/index", 32⟩])⟩
theorem tiOk60 : TIok Try.prog 60 ti60 := tiok_of (by kernel_rfl) (by kernel_rfl)
def tys : List (TypeId × TI) := [(2, ti2), (3, ti3), (9, ti9), (22, ti22), (23, ti23), (25, ti25), (28, ti28), (32, ti32), (35, ti35), (41, ti41), (43, ti43), (46, ti46), (48, ti48), (50, ti50), (60, ti60)]
def pures : List FuncId := [3, 4, 5, 6, 7, 8, 9, 10, 11, 12, 13, 17, 18, 21, 23, 19]
def lits : List TypeId := []
def frz : List FuncId := [9]
def T : Tb := ⟨fun t => tys.lookup t, fun f => pures.contains f, fun t => lits.contains t, fun f => frz.contains f⟩
theorem hT : TbOk Try.prog T := tbok_of (fun p hp => by
  simp only [tys, List.mem_cons, List.not_mem_nil, or_false] at hp
  rcases hp with rfl | rfl | rfl | rfl | rfl | rfl | rfl | rfl | rfl | rfl | rfl | rfl | rfl | rfl | rfl
  · exact tiOk2
  · exact tiOk3
  · exact tiOk9
  · exact tiOk22
  · exact tiOk23
  · exact tiOk25
  · exact tiOk28
  · exact tiOk32
  · exact tiOk35
  · exact tiOk41
  · exact tiOk43
  · exact tiOk46
  · exact tiOk48
  · exact tiOk50
  · exact tiOk60)
/-! spinney/spinneylaw17.IndexVars -/
def c3_0 : List CO := [⟨(.box (.var 2)), (some 3), none⟩,
  ⟨(.mov (.k (.bool false))), (some 4), none⟩]
def c3_1 : List CO := [⟨(.call true 5 []), none, none⟩,
  ⟨(.mov (.loc 0)), (some 5), none⟩]
def c3_2 : List CO := [⟨(.mov (.var 0)), none, none⟩,
  ⟨(.load true 4 (.var 3)), none, none⟩,
  ⟨(.bslice 4 [(.int .i64 0), (.string ⟨#[]⟩), (.int .i64 0), (.slice none 0 0)] 1 [(0, (.loc 0))]), none, none⟩,
  ⟨(.call true 6 [(.loc 2), (.k (.slice none 0 0)), (.loc 0)]), (some 12), none⟩]
def c3_3 : List CO := [⟨(.mov (.var 5)), none, none⟩,
  ⟨(.mov (.loc 0)), (some 4), none⟩]
def c3_4 : List CO := [⟨(.mov (.k (.slice none 0 0))), (some 6), none⟩]
def c3_5 : List CO := [⟨(.mov (.var 0)), none, none⟩,
  ⟨(.len .slice (.loc 0)), (some 13), none⟩,
  ⟨(.mov (.k (.int .i64 0))), (some 14), none⟩]
def c3_6 : List CO := [⟨(.bin .lss (.var 14) (.var 13)), (some 15), none⟩]
def c3_7 : List CO := [⟨(.mov (.var 14)), none, none⟩,
  ⟨(.mov (.loc 0)), (some 7), none⟩]
def c3_8 : List CO := [⟨(.mov (.var 6)), none, none⟩,
  ⟨(.mov (.var 7)), none, none⟩,
  ⟨(.bslice 1 [(.int .i64 0)] 1 [(0, (.loc 0))]), none, none⟩,
  ⟨(.append 1 8 (.loc 2) (.loc 0)), none, none⟩,
  ⟨(.mov (.loc 0)), (some 6), none⟩]
def c3_9 : List CO := [⟨(.bin .add (.var 14) (.k (.int .i64 1))), none, none⟩,
  ⟨(.mov (.loc 0)), (some 14), none⟩]
def c3_10 : CC := (.seq (.region [] [] c3_6) (.seq (.cond (.var 15) .skip (.exit 0)) (.seq (.block 1 (.seq (.region [] [] c3_7) (.region [] [] c3_8))) (.region [] [] c3_9))))
def c3_11 : List CO := [⟨(.mov (.var 0)), none, none⟩,
  ⟨(.append 6 88 (.k (.slice none 0 0)) (.loc 0)), none, none⟩,
  ⟨(.mov (.var 1)), none, none⟩,
  ⟨(.call true 8 [(.loc 0)]), none, none⟩,
  ⟨(.load true 4 (.var 3)), none, none⟩,
  ⟨(.bslice 4 [(.int .i64 0), (.string ⟨#[]⟩), (.int .i64 0), (.slice none 0 0)] 2 [(0, (.loc 1)), (1, (.loc 0))]), none, none⟩,
  ⟨(.call true 7 [(.k (.string ⟨#[112]⟩)), (.loc 0)]), none, none⟩,
  ⟨(.build [(.int .i64 0), (.string ⟨#[]⟩), (.int .i64 0), (.slice none 0 0), (.slice none 0 0), (.int .i64 0)] [(0, 4, (.loc 0))]), none, none⟩,
  ⟨(.bslice 6 [(.int .i64 0), (.string ⟨#[]⟩), (.int .i64 0), (.slice none 0 0), (.slice none 0 0), (.int .i64 0)] 1 [(0, (.loc 0))]), none, none⟩,
  ⟨(.append 6 88 (.loc 7) (.loc 0)), none, none⟩,
  ⟨(.mov (.loc 0)), (some 8), none⟩]
def c3_12 : List CO := [⟨(.mov (.var 0)), none, none⟩,
  ⟨(.len .slice (.loc 0)), none, none⟩,
  ⟨(.mov (.loc 0)), (some 9), none⟩]
def c3_13 : List CO := [⟨(.mov (.var 8)), none, none⟩,
  ⟨(.mov (.var 6)), none, none⟩,
  ⟨(.mov (.var 9)), none, none⟩,
  ⟨(.bslice 1 [(.int .i64 0)] 1 [(0, (.loc 0))]), none, none⟩,
  ⟨(.append 1 8 (.loc 2) (.loc 0)), none, none⟩,
  ⟨(.mov (.var 1)), none, none⟩,
  ⟨(.call true 8 [(.loc 0)]), none, none⟩,
  ⟨(.load true 4 (.var 3)), none, none⟩,
  ⟨(.bslice 4 [(.int .i64 0), (.string ⟨#[]⟩), (.int .i64 0), (.slice none 0 0)] 2 [(0, (.loc 1)), (1, (.loc 0))]), none, none⟩,
  ⟨(.call true 7 [(.k (.string ⟨#[112]⟩)), (.loc 0)]), none, none⟩,
  ⟨(.callf 9 [(.loc 9), (.loc 5), (.k (.slice none 0 0)), (.loc 0)]), none, none⟩,
  ⟨(.mov (.loc 0)), (some 10), none⟩]
def c3_14 : List CO := [⟨(.mov (.var 8)), none, none⟩,
  ⟨(.mov (.var 9)), none, none⟩,
  ⟨(.bslice 1 [(.int .i64 0)] 1 [(0, (.loc 0))]), none, none⟩,
  ⟨(.load true 4 (.var 3)), none, none⟩,
  ⟨(.load true 4 (.var 3)), none, none⟩,
  ⟨(.bslice 4 [(.int .i64 0), (.string ⟨#[]⟩), (.int .i64 0), (.slice none 0 0)] 2 [(0, (.loc 1)), (1, (.loc 0))]), none, none⟩,
  ⟨(.call true 7 [(.k (.string ⟨#[112]⟩)), (.loc 0)]), none, none⟩,
  ⟨(.callf 9 [(.loc 6), (.loc 4), (.k (.slice none 0 0)), (.loc 0)]), none, none⟩,
  ⟨(.mov (.loc 0)), (some 11), none⟩]
def c3_15 : List CO := [⟨(.mov (.var 5)), none, none⟩,
  ⟨(.mov (.loc 0)), none, none⟩,
  ⟨(.mov (.var 10)), none, (some ((.loc 0), true))⟩,
  ⟨(.len .slice (.loc 0)), none, (some ((.loc 1), true))⟩,
  ⟨(.mov (.var 9)), none, (some ((.loc 2), true))⟩,
  ⟨(.bin .add (.loc 0) (.k (.int .i64 1))), none, (some ((.loc 3), true))⟩,
  ⟨(.bin .eql (.loc 2) (.loc 0)), none, (some ((.loc 4), true))⟩,
  ⟨(.pick (.loc 5) (.loc 0) (.k (.bool false))), none, none⟩,
  ⟨(.mov (.loc 0)), none, none⟩,
  ⟨(.mov (.var 11)), none, (some ((.loc 0), true))⟩,
  ⟨(.len .slice (.loc 0)), none, (some ((.loc 1), true))⟩,
  ⟨(.bin .eql (.loc 0) (.k (.int .i64 1))), none, (some ((.loc 2), true))⟩,
  ⟨(.pick (.loc 3) (.loc 0) (.k (.bool false))), none, none⟩,
  ⟨(.mov (.loc 0)), none, none⟩,
  ⟨(.mov (.var 11)), none, (some ((.loc 0), true))⟩,
  ⟨(.ia 1 (.loc 0) (.k (.int .i64 0))), none, (some ((.loc 1), true))⟩,
  ⟨(.load false 1 (.loc 0)), none, (some ((.loc 2), true))⟩,
  ⟨(.mov (.var 9)), none, (some ((.loc 3), true))⟩,
  ⟨(.bin .eql (.loc 1) (.loc 0)), none, (some ((.loc 4), true))⟩,
  ⟨(.pick (.loc 5) (.loc 0) (.k (.bool false))), none, none⟩,
  ⟨(.mov (.loc 0)), (some 4), none⟩]
def c3 : CFun := ⟨3, 16, (.seq (.region [] [] c3_0) (.seq (.region [] [] c3_1) (.seq (.seq (.region [] [] c3_2) (.cond (.var 12) (.seq (.region [] [] c3_3) .ret) .skip)) (.seq (.region [] [] c3_4) (.seq (.seq (.region [] [] c3_5) (.block 0 (.loop [true, true, false, true, false, true, true, false, false, false, false, false, false, true, true, false] [] c3_10))) (.seq (.region [] [(none, 3)] c3_11) (.seq (.region [] [] c3_12) (.seq (.region [] [(none, 3)] c3_13) (.seq (.region [] [] c3_14) (.seq (.region [] [] c3_15) .ret)))))))))), [.var 4]⟩
theorem ok3 : CodeOk Try.prog T 3 c3 := ⟨⟨Try.f3, Hints.of [] [(10, [(none, 3)]), (12, [(none, 3)])] [(0, [true, true, false, true, false, true, true, false, false, false, false, false, false, true, true, false], [])], [0, 1, 2, 5, 6, 7, 8, 9, 10, 11, 12, 13, 18, 21, 22, 23], Try.func3, by kernel_rfl, by kernel_rfl⟩⟩

/-! spinney/spinneylaw17.IndexTwice -/
def c4_0 : List CO := [⟨(.box (.var 3)), (some 4), none⟩,
  ⟨(.mov (.k (.bool false))), (some 5), none⟩]
def c4_1 : List CO := [⟨(.call true 5 []), none, none⟩,
  ⟨(.mov (.loc 0)), (some 6), none⟩]
def c4_2 : List CO := [⟨(.mov (.var 0)), none, none⟩,
  ⟨(.mov (.var 2)), none, none⟩,
  ⟨(.load true 4 (.var 4)), none, none⟩,
  ⟨(.bslice 4 [(.int .i64 0), (.string ⟨#[]⟩), (.int .i64 0), (.slice none 0 0)] 1 [(0, (.loc 0))]), none, none⟩,
  ⟨(.call true 6 [(.loc 3), (.loc 2), (.loc 0)]), none, none⟩,
  ⟨(.mov (.loc 0)), none, none⟩,
  ⟨(.mov (.var 1)), none, (some ((.loc 0), false))⟩,
  ⟨(.len .slice (.loc 0)), none, (some ((.loc 1), false))⟩,
  ⟨(.bin .gtr (.loc 0) (.k (.int .i64 1000))), none, (some ((.loc 2), false))⟩,
  ⟨(.pick (.loc 3) (.k (.bool true)) (.loc 0)), (some 10), none⟩]
def c4_3 : List CO := [⟨(.mov (.var 6)), none, none⟩,
  ⟨(.mov (.loc 0)), (some 5), none⟩]
def c4_4 : List CO := [⟨(.mov (.var 0)), none, none⟩,
  ⟨(.mov (.var 1)), none, none⟩,
  ⟨(.mov (.var 2)), none, none⟩,
  ⟨(.load true 4 (.var 4)), none, none⟩,
  ⟨(.callf 9 [(.loc 3), (.loc 2), (.loc 1), (.loc 0)]), none, none⟩,
  ⟨(.mov (.loc 0)), (some 7), none⟩]
def c4_5 : List CO := [⟨(.mov (.k (.int .i64 0))), (some 8), none⟩]
def c4_6 : List CO := [⟨(.mov (.var 7)), (some 11), none⟩,
  ⟨(.len .slice (.var 11)), (some 12), none⟩,
  ⟨(.mov (.k (.int .i64 0))), (some 13), none⟩]
def c4_7 : List CO := [⟨(.bin .lss (.var 13) (.var 12)), (some 14), none⟩]
def c4_8 : List CO := [⟨(.ia 1 (.var 11) (.var 13)), none, none⟩,
  ⟨(.load false 1 (.loc 0)), none, none⟩,
  ⟨(.mov (.loc 0)), (some 9), none⟩]
def c4_9 : List CO := [⟨(.mov (.var 8)), none, none⟩,
  ⟨(.mov (.var 1)), none, none⟩,
  ⟨(.len .slice (.loc 0)), none, none⟩,
  ⟨(.bin .lss (.loc 2) (.loc 0)), none, none⟩,
  ⟨(.mov (.loc 0)), none, none⟩,
  ⟨(.mov (.var 1)), none, (some ((.loc 0), true))⟩,
  ⟨(.mov (.var 8)), none, (some ((.loc 1), true))⟩,
  ⟨(.ia 1 (.loc 1) (.loc 0)), none, (some ((.loc 2), true))⟩,
  ⟨(.load false 1 (.loc 0)), none, (some ((.loc 3), true))⟩,
  ⟨(.mov (.var 9)), none, (some ((.loc 4), true))⟩,
  ⟨(.bin .neq (.loc 1) (.loc 0)), none, (some ((.loc 5), true))⟩,
  ⟨(.pick (.loc 6) (.loc 0) (.k (.bool false))), (some 15), none⟩]
def c4_10 : List CO := [⟨(.mov (.var 8)), none, none⟩,
  ⟨(.bin .add (.loc 0) (.k (.int .i64 1))), none, none⟩,
  ⟨(.mov (.loc 0)), (some 8), none⟩]
def c4_11 : CC := (.seq (.seq (.region [] [] c4_9) (.cond (.var 15) .skip (.exit 2))) (.block 3 (.region [] [] c4_10)))
def c4_12 : List CO := [⟨(.mov (.var 8)), none, none⟩,
  ⟨(.mov (.var 1)), none, none⟩,
  ⟨(.len .slice (.loc 0)), none, none⟩,
  ⟨(.bin .eql (.loc 2) (.loc 0)), (some 16), none⟩]
def c4_13 : List CO := [⟨(.mov (.k (.bool false))), (some 5), none⟩]
def c4_14 : List CO := [⟨(.mov (.var 8)), none, none⟩,
  ⟨(.bin .add (.loc 0) (.k (.int .i64 1))), none, none⟩,
  ⟨(.mov (.loc 0)), (some 8), none⟩]
def c4_15 : List CO := [⟨(.bin .add (.var 13) (.k (.int .i64 1))), none, none⟩,
  ⟨(.mov (.loc 0)), (some 13), none⟩]
def c4_16 : CC := (.seq (.region [] [] c4_7) (.seq (.cond (.var 14) .skip (.exit 0)) (.seq (.block 1 (.seq (.region [] [] c4_8) (.seq (.block 2 (.loop [true, true, true, false, true, false, true, true, true, true, false, true, true, true, false, false, false] [] c4_11)) (.seq (.seq (.region [] [] c4_12) (.cond (.var 16) (.seq (.region [] [] c4_13) .ret) .skip)) (.region [] [] c4_14))))) (.region [] [] c4_15))))
def c4_17 : List CO := [⟨(.mov (.var 6)), none, none⟩,
  ⟨(.mov (.loc 0)), none, none⟩,
  ⟨(.mov (.var 0)), none, (some ((.loc 0), true))⟩,
  ⟨(.mov (.var 7)), none, (some ((.loc 1), true))⟩,
  ⟨(.mov (.var 2)), none, (some ((.loc 2), true))⟩,
  ⟨(.load true 4 (.var 4)), none, (some ((.loc 3), true))⟩,
  ⟨(.callf 9 [(.loc 3), (.loc 2), (.loc 1), (.loc 0)]), none, (some ((.loc 4), true))⟩,
  ⟨(.mov (.var 7)), none, (some ((.loc 5), true))⟩,
  ⟨(.call true 10 [(.loc 1), (.loc 0)]), none, (some ((.loc 6), true))⟩,
  ⟨(.pick (.loc 7) (.loc 0) (.k (.bool false))), none, none⟩,
  ⟨(.mov (.loc 0)), (some 5), none⟩]
def c4 : CFun := ⟨4, 17, (.seq (.region [] [] c4_0) (.seq (.region [] [] c4_1) (.seq (.seq (.region [] [] c4_2) (.cond (.var 10) (.seq (.region [] [] c4_3) .ret) .skip)) (.seq (.region [] [] c4_4) (.seq (.region [] [] c4_5) (.seq (.seq (.region [] [] c4_6) (.block 0 (.loop [true, true, true, false, true, false, true, true, true, false, false, true, true, true, false, false, false] [] c4_16))) (.seq (.region [] [] c4_17) .ret))))))), [.var 5]⟩
theorem ok4 : CodeOk Try.prog T 4 c4 := ⟨⟨Try.f4, Hints.of [] [] [(0, [true, true, true, false, true, false, true, true, true, false, false, true, true, true, false, false, false], []), (2, [true, true, true, false, true, false, true, true, true, true, false, true, true, true, false, false, false], [])], [0, 1, 2, 3, 7, 8, 9, 10, 11, 13, 24, 31, 32, 33, 34, 48, 54], Try.func4, by kernel_rfl, by kernel_rfl⟩⟩

/-! spinney/spinneylaw17.live -/
def c5_0 : List CO := [⟨(.mov (.k (.bool false))), (some 0), none⟩]
def c5_1 : List CO := [⟨(.call true 8 [(.k (.int .i64 0))]), none, none⟩,
  ⟨(.box (.k (.agg #[(.int .i64 0), (.string ⟨#[]⟩), (.int .i64 0), (.slice none 0 0)]))), (some 1), none⟩,
  ⟨(.store 4 (.var 1) (.loc 1)), none, none⟩]
def c5_2 : List CO := [⟨(.call true 11 [(.k (.string ⟨#[97]⟩))]), none, none⟩,
  ⟨(.box (.k (.agg #[(.int .i64 0), (.string ⟨#[]⟩), (.int .i64 0), (.slice none 0 0)]))), (some 2), none⟩,
  ⟨(.store 4 (.var 2) (.loc 1)), none, none⟩]
def c5_3 : List CO := [⟨(.mov (.k (.slice none 0 0))), (some 3), none⟩]
def c5_4 : List CO := [⟨(.call true 12 [(.k (.int .i64 1))]), none, none⟩,
  ⟨(.load true 4 (.var 1)), none, none⟩,
  ⟨(.load true 4 (.var 2)), none, none⟩,
  ⟨(.load true 4 (.var 1)), none, none⟩,
  ⟨(.bslice 4 [(.int .i64 0), (.string ⟨#[]⟩), (.int .i64 0), (.slice none 0 0)] 1 [(0, (.loc 0))]), none, none⟩,
  ⟨(.call true 7 [(.k (.string ⟨#[102]⟩)), (.loc 0)]), none, none⟩,
  ⟨(.bslice 4 [(.int .i64 0), (.string ⟨#[]⟩), (.int .i64 0), (.slice none 0 0)] 4 [(0, (.loc 5)), (1, (.loc 4)), (2, (.loc 3)), (3, (.loc 0))]), (some 6), none⟩,
  ⟨(.len .slice (.var 6)), (some 7), none⟩,
  ⟨(.mov (.k (.int .i64 0))), (some 8), none⟩]
def c5_5 : List CO := [⟨(.bin .lss (.var 8) (.var 7)), (some 9), none⟩]
def c5_6 : List CO := [⟨(.ia 4 (.var 6) (.var 8)), none, none⟩,
  ⟨(.load true 4 (.loc 0)), none, none⟩,
  ⟨(.box (.k (.agg #[(.int .i64 0), (.string ⟨#[]⟩), (.int .i64 0), (.slice none 0 0)]))), (some 4), none⟩,
  ⟨(.store 4 (.var 4) (.loc 1)), none, none⟩]
def c5_7 : List CO := [⟨(.mov (.var 3)), none, none⟩,
  ⟨(.load true 4 (.var 4)), none, none⟩,
  ⟨(.bslice 4 [(.int .i64 0), (.string ⟨#[]⟩), (.int .i64 0), (.slice none 0 0)] 1 [(0, (.loc 0))]), none, none⟩,
  ⟨(.call true 7 [(.k (.string ⟨#[112]⟩)), (.loc 0)]), none, none⟩,
  ⟨(.build [(.int .i64 0), (.string ⟨#[]⟩), (.int .i64 0), (.slice none 0 0), (.slice none 0 0), (.int .i64 0)] [(0, 4, (.loc 0))]), none, none⟩,
  ⟨(.bslice 6 [(.int .i64 0), (.string ⟨#[]⟩), (.int .i64 0), (.slice none 0 0), (.slice none 0 0), (.int .i64 0)] 1 [(0, (.loc 0))]), none, none⟩,
  ⟨(.append 6 88 (.loc 5) (.loc 0)), none, none⟩,
  ⟨(.mov (.loc 0)), (some 3), none⟩]
def c5_8 : List CO := [⟨(.bin .add (.var 8) (.k (.int .i64 1))), none, none⟩,
  ⟨(.mov (.loc 0)), (some 8), none⟩]
def c5_9 : CC := (.seq (.region [] [] c5_5) (.seq (.cond (.var 9) .skip (.exit 0)) (.seq (.block 1 (.seq (.region [] [] c5_6) (.region [] [] c5_7))) (.region [] [] c5_8))))
def c5_10 : List CO := [⟨(.bslice 1 [(.int .i64 0)] 4 [(0, (.k (.int .i64 0))), (1, (.k (.int .i64 1))), (2, (.k (.int .i64 2))), (3, (.k (.int .i64 3)))]), none, none⟩,
  ⟨(.mov (.loc 0)), (some 5), none⟩]
def c5_11 : List CO := [⟨(.mov (.var 3)), none, none⟩,
  ⟨(.mov (.var 5)), none, none⟩,
  ⟨(.load true 4 (.var 2)), none, none⟩,
  ⟨(.bslice 4 [(.int .i64 0), (.string ⟨#[]⟩), (.int .i64 0), (.slice none 0 0)] 1 [(0, (.loc 0))]), none, none⟩,
  ⟨(.call true 7 [(.k (.string ⟨#[112]⟩)), (.loc 0)]), none, none⟩,
  ⟨(.callf 9 [(.loc 4), (.loc 3), (.k (.slice none 0 0)), (.loc 0)]), none, none⟩,
  ⟨(.bslice 1 [(.int .i64 0)] 2 [(0, (.k (.int .i64 1))), (1, (.k (.int .i64 2)))]), none, none⟩,
  ⟨(.call true 10 [(.loc 1), (.loc 0)]), none, none⟩,
  ⟨(.mov (.loc 0)), none, none⟩,
  ⟨(.mov (.var 3)), none, (some ((.loc 0), true))⟩,
  ⟨(.mov (.var 5)), none, (some ((.loc 1), true))⟩,
  ⟨(.load true 4 (.var 2)), none, (some ((.loc 2), true))⟩,
  ⟨(.bslice 4 [(.int .i64 0), (.string ⟨#[]⟩), (.int .i64 0), (.slice none 0 0)] 1 [(0, (.loc 0))]), none, (some ((.loc 3), true))⟩,
  ⟨(.call true 7 [(.k (.string ⟨#[102]⟩)), (.loc 0)]), none, (some ((.loc 4), true))⟩,
  ⟨(.bslice 4 [(.int .i64 0), (.string ⟨#[]⟩), (.int .i64 0), (.slice none 0 0)] 1 [(0, (.loc 0))]), none, (some ((.loc 5), true))⟩,
  ⟨(.call true 7 [(.k (.string ⟨#[112]⟩)), (.loc 0)]), none, (some ((.loc 6), true))⟩,
  ⟨(.callf 9 [(.loc 6), (.loc 5), (.k (.slice none 0 0)), (.loc 0)]), none, (some ((.loc 7), true))⟩,
  ⟨(.bslice 1 [(.int .i64 0)] 2 [(0, (.k (.int .i64 1))), (1, (.k (.int .i64 3)))]), none, (some ((.loc 8), true))⟩,
  ⟨(.call true 10 [(.loc 1), (.loc 0)]), none, (some ((.loc 9), true))⟩,
  ⟨(.pick (.loc 10) (.loc 0) (.k (.bool false))), none, none⟩,
  ⟨(.mov (.loc 0)), none, none⟩,
  ⟨(.mov (.var 3)), none, (some ((.loc 0), true))⟩,
  ⟨(.mov (.var 5)), none, (some ((.loc 1), true))⟩,
  ⟨(.load true 4 (.var 1)), none, (some ((.loc 2), true))⟩,
  ⟨(.bslice 4 [(.int .i64 0), (.string ⟨#[]⟩), (.int .i64 0), (.slice none 0 0)] 1 [(0, (.loc 0))]), none, (some ((.loc 3), true))⟩,
  ⟨(.call true 7 [(.k (.string ⟨#[112]⟩)), (.loc 0)]), none, (some ((.loc 4), true))⟩,
  ⟨(.callf 9 [(.loc 4), (.loc 3), (.k (.slice none 0 0)), (.loc 0)]), none, (some ((.loc 5), true))⟩,
  ⟨(.mov (.var 5)), none, (some ((.loc 6), true))⟩,
  ⟨(.call true 10 [(.loc 1), (.loc 0)]), none, (some ((.loc 7), true))⟩,
  ⟨(.pick (.loc 8) (.loc 0) (.k (.bool false))), none, none⟩,
  ⟨(.mov (.loc 0)), (some 0), none⟩]
def c5 : CFun := ⟨0, 10, (.seq (.region [] [] c5_0) (.seq (.region [] [] c5_1) (.seq (.region [] [] c5_2) (.seq (.region [] [] c5_3) (.seq (.seq (.region [] [] c5_4) (.block 0 (.loop [false, true, true, true, false, false, true, true, true, false] [] c5_9))) (.seq (.region [] [] c5_10) (.seq (.region [] [] c5_11) .ret))))))), [.var 0]⟩
theorem ok5 : CodeOk Try.prog T 5 c5 := ⟨⟨Try.f5, Hints.of [] [] [(0, [false, true, true, true, false, false, true, true, true, false], [])], [0, 1, 2, 3, 5, 6, 15, 16, 17, 18], Try.func5, by kernel_rfl, by kernel_rfl⟩⟩

/-! spinney/spinneylaw17.big -/
def c6_0 : List CO := [⟨(.mov (.k (.bool false))), (some 3), none⟩]
def c6_1 : List CO := [⟨(.mov (.var 0)), none, none⟩,
  ⟨(.len .slice (.loc 0)), none, none⟩,
  ⟨(.bin .gtr (.loc 0) (.k (.int .i64 60))), none, none⟩,
  ⟨(.mov (.loc 0)), none, none⟩,
  ⟨(.mov (.var 1)), none, (some ((.loc 0), false))⟩,
  ⟨(.len .slice (.loc 0)), none, (some ((.loc 1), false))⟩,
  ⟨(.bin .gtr (.loc 0) (.k (.int .i64 60))), none, (some ((.loc 2), false))⟩,
  ⟨(.pick (.loc 3) (.k (.bool true)) (.loc 0)), none, none⟩,
  ⟨(.mov (.loc 0)), none, none⟩,
  ⟨(.mov (.var 2)), none, (some ((.loc 0), false))⟩,
  ⟨(.len .slice (.loc 0)), none, (some ((.loc 1), false))⟩,
  ⟨(.bin .gtr (.loc 0) (.k (.int .i64 60))), none, (some ((.loc 2), false))⟩,
  ⟨(.pick (.loc 3) (.k (.bool true)) (.loc 0)), (some 8), none⟩]
def c6_2 : List CO := [⟨(.mov (.k (.bool true))), (some 3), none⟩]
def c6_3 : List CO := [⟨(.mov (.var 0)), (some 9), none⟩,
  ⟨(.len .slice (.var 9)), (some 10), none⟩,
  ⟨(.mov (.k (.int .i64 0))), (some 11), none⟩]
def c6_4 : List CO := [⟨(.bin .lss (.var 11) (.var 10)), (some 12), none⟩]
def c6_5 : List CO := [⟨(.ia 6 (.var 9) (.var 11)), none, none⟩,
  ⟨(.load true 6 (.loc 0)), none, none⟩,
  ⟨(.box (.k (.agg #[(.int .i64 0), (.string ⟨#[]⟩), (.int .i64 0), (.slice none 0 0), (.slice none 0 0), (.int .i64 0)]))), (some 4), none⟩,
  ⟨(.store 6 (.var 4) (.loc 1)), none, none⟩]
def c6_6 : List CO := [⟨(.fa 0 (.var 4)), none, none⟩,
  ⟨(.load true 4 (.loc 0)), none, none⟩,
  ⟨(.call true 13 [(.loc 0), (.k (.int .i64 200))]), none, none⟩,
  ⟨(.un .not (.loc 0)), none, none⟩,
  ⟨(.mov (.loc 0)), none, none⟩,
  ⟨(.fa 4 (.var 4)), none, (some ((.loc 0), false))⟩,
  ⟨(.load false 1 (.loc 0)), none, (some ((.loc 1), false))⟩,
  ⟨(.len .slice (.loc 0)), none, (some ((.loc 2), false))⟩,
  ⟨(.bin .gtr (.loc 0) (.k (.int .i64 60))), none, (some ((.loc 3), false))⟩,
  ⟨(.pick (.loc 4) (.k (.bool true)) (.loc 0)), (some 13), none⟩]
def c6_7 : List CO := [⟨(.mov (.k (.bool true))), (some 3), none⟩]
def c6_8 : List CO := [⟨(.fa 4 (.var 4)), none, none⟩,
  ⟨(.load false 1 (.loc 0)), (some 14), none⟩,
  ⟨(.len .slice (.var 14)), (some 15), none⟩,
  ⟨(.mov (.k (.int .i64 0))), (some 16), none⟩]
def c6_9 : List CO := [⟨(.bin .lss (.var 16) (.var 15)), (some 17), none⟩]
def c6_10 : List CO := [⟨(.ia 4 (.var 14) (.var 16)), none, none⟩,
  ⟨(.load true 4 (.loc 0)), none, none⟩,
  ⟨(.box (.k (.agg #[(.int .i64 0), (.string ⟨#[]⟩), (.int .i64 0), (.slice none 0 0)]))), (some 5), none⟩,
  ⟨(.store 4 (.var 5) (.loc 1)), none, none⟩]
def c6_11 : List CO := [⟨(.load true 4 (.var 5)), none, none⟩,
  ⟨(.call true 13 [(.loc 0), (.k (.int .i64 200))]), none, none⟩,
  ⟨(.un .not (.loc 0)), (some 18), none⟩]
def c6_12 : List CO := [⟨(.mov (.k (.bool true))), (some 3), none⟩]
def c6_13 : List CO := [⟨(.bin .add (.var 16) (.k (.int .i64 1))), none, none⟩,
  ⟨(.mov (.loc 0)), (some 16), none⟩]
def c6_14 : CC := (.seq (.region [] [] c6_9) (.seq (.cond (.var 17) .skip (.exit 2)) (.seq (.block 3 (.seq (.region [] [] c6_10) (.seq (.region [] [] c6_11) (.cond (.var 18) (.seq (.region [] [] c6_12) .ret) .skip)))) (.region [] [] c6_13))))
def c6_15 : List CO := [⟨(.bin .add (.var 11) (.k (.int .i64 1))), none, none⟩,
  ⟨(.mov (.loc 0)), (some 11), none⟩]
def c6_16 : CC := (.seq (.region [] [] c6_4) (.seq (.cond (.var 12) .skip (.exit 0)) (.seq (.block 1 (.seq (.region [] [] c6_5) (.seq (.seq (.region [] [] c6_6) (.cond (.var 13) (.seq (.region [] [] c6_7) .ret) .skip)) (.seq (.region [] [] c6_8) (.block 2 (.loop [false, true, true, false, false, false, false, false, false, true, true, true, false, false, true, true, true, false, false, false, false, false, false, false, false, false, false, false, false] [] c6_14)))))) (.region [] [] c6_15))))
def c6_17 : List CO := [⟨(.mov (.var 1)), (some 19), none⟩,
  ⟨(.len .slice (.var 19)), (some 20), none⟩,
  ⟨(.mov (.k (.int .i64 0))), (some 21), none⟩]
def c6_18 : List CO := [⟨(.bin .lss (.var 21) (.var 20)), (some 22), none⟩]
def c6_19 : List CO := [⟨(.ia 5 (.var 19) (.var 21)), none, none⟩,
  ⟨(.load true 5 (.loc 0)), none, none⟩,
  ⟨(.box (.k (.agg #[(.int .i64 0), (.int .i64 0), (.string ⟨#[]⟩), (.int .i64 0), (.slice none 0 0)]))), (some 6), none⟩,
  ⟨(.store 5 (.var 6) (.loc 1)), none, none⟩]
def c6_20 : List CO := [⟨(.fa 1 (.var 6)), none, none⟩,
  ⟨(.load true 4 (.loc 0)), none, none⟩,
  ⟨(.call true 13 [(.loc 0), (.k (.int .i64 20))]), none, none⟩,
  ⟨(.un .not (.loc 0)), (some 23), none⟩]
def c6_21 : List CO := [⟨(.mov (.k (.bool true))), (some 3), none⟩]
def c6_22 : List CO := [⟨(.bin .add (.var 21) (.k (.int .i64 1))), none, none⟩,
  ⟨(.mov (.loc 0)), (some 21), none⟩]
def c6_23 : CC := (.seq (.region [] [] c6_18) (.seq (.cond (.var 22) .skip (.exit 4)) (.seq (.block 5 (.seq (.region [] [] c6_19) (.seq (.region [] [] c6_20) (.cond (.var 23) (.seq (.region [] [] c6_21) .ret) .skip)))) (.region [] [] c6_22))))
def c6_24 : List CO := [⟨(.mov (.var 2)), (some 24), none⟩,
  ⟨(.len .slice (.var 24)), (some 25), none⟩,
  ⟨(.mov (.k (.int .i64 0))), (some 26), none⟩]
def c6_25 : List CO := [⟨(.bin .lss (.var 26) (.var 25)), (some 27), none⟩]
def c6_26 : List CO := [⟨(.ia 4 (.var 24) (.var 26)), none, none⟩,
  ⟨(.load true 4 (.loc 0)), none, none⟩,
  ⟨(.box (.k (.agg #[(.int .i64 0), (.string ⟨#[]⟩), (.int .i64 0), (.slice none 0 0)]))), (some 7), none⟩,
  ⟨(.store 4 (.var 7) (.loc 1)), none, none⟩]
def c6_27 : List CO := [⟨(.load true 4 (.var 7)), none, none⟩,
  ⟨(.call true 13 [(.loc 0), (.k (.int .i64 200))]), none, none⟩,
  ⟨(.un .not (.loc 0)), (some 28), none⟩]
def c6_28 : List CO := [⟨(.mov (.k (.bool true))), (some 3), none⟩]
def c6_29 : List CO := [⟨(.bin .add (.var 26) (.k (.int .i64 1))), none, none⟩,
  ⟨(.mov (.loc 0)), (some 26), none⟩]
def c6_30 : CC := (.seq (.region [] [] c6_25) (.seq (.cond (.var 27) .skip (.exit 6)) (.seq (.block 7 (.seq (.region [] [] c6_26) (.seq (.region [] [] c6_27) (.cond (.var 28) (.seq (.region [] [] c6_28) .ret) .skip)))) (.region [] [] c6_29))))
def c6_31 : List CO := [⟨(.mov (.k (.bool false))), (some 3), none⟩]
def c6 : CFun := ⟨3, 29, (.seq (.region [] [] c6_0) (.seq (.seq (.region [] [] c6_1) (.cond (.var 8) (.seq (.region [] [] c6_2) .ret) .skip)) (.seq (.seq (.region [] [] c6_3) (.block 0 (.loop [false, true, true, false, false, false, false, false, false, true, true, true, false, false, false, false, false, false, false, false, false, false, false, false, false, false, false, false, false] [] c6_16))) (.seq (.seq (.region [] [] c6_17) (.block 4 (.loop [false, false, true, false, false, false, false, false, false, false, false, false, false, false, false, false, false, false, false, true, true, true, false, false, false, false, false, false, false] [] c6_23))) (.seq (.seq (.region [] [] c6_24) (.block 6 (.loop [false, false, false, false, false, false, false, false, false, false, false, false, false, false, false, false, false, false, false, false, false, false, false, false, true, true, true, false, false] [] c6_30))) (.seq (.region [] [] c6_31) .ret)))))), [.var 3]⟩
theorem ok6 : CodeOk Try.prog T 6 c6 := ⟨⟨Try.f6, Hints.of [] [] [(0, [false, true, true, false, false, false, false, false, false, true, true, true, false, false, false, false, false, false, false, false, false, false, false, false, false, false, false, false, false], []), (2, [false, true, true, false, false, false, false, false, false, true, true, true, false, false, true, true, true, false, false, false, false, false, false, false, false, false, false, false, false], []), (4, [false, false, true, false, false, false, false, false, false, false, false, false, false, false, false, false, false, false, false, true, true, true, false, false, false, false, false, false, false], []), (6, [false, false, false, false, false, false, false, false, false, false, false, false, false, false, false, false, false, false, false, false, false, false, false, false, true, true, true, false, false], [])], [0, 1, 2, 6, 8, 10, 12, 14, 27, 28, 29, 30, 31, 43, 45, 46, 47, 48, 53, 56, 57, 58, 59, 65, 67, 68, 69, 70, 75], Try.func6, by kernel_rfl, by kernel_rfl⟩⟩

/-! spinney/spinneyref03.Comp1 -/
def c7_0 : List CO := [⟨(.box (.k (.agg #[(.int .i64 0), (.string ⟨#[]⟩), (.int .i64 0), (.slice none 0 0)]))), (some 2), none⟩]
def c7_1 : List CO := [⟨(.mov (.var 0)), none, none⟩,
  ⟨(.mov (.var 1)), none, none⟩,
  ⟨(.build [(.int .i64 0), (.string ⟨#[]⟩), (.int .i64 0), (.slice none 0 0)] [(0, 1, (.k (.int .i64 4))), (1, 1, (.loc 1)), (3, 1, (.loc 0))]), none, none⟩,
  ⟨(.store 4 (.var 2) (.loc 0)), none, none⟩]
def c7 : CFun := ⟨2, 3, (.seq (.region [] [] c7_0) (.seq (.region [] [] c7_1) .ret)), [.cell 2 true 4]⟩
theorem ok7 : CodeOk Try.prog T 7 c7 := ⟨⟨Try.f7, Hints.of [] [] [], [0, 1, 4], Try.func7, by kernel_rfl, by kernel_rfl⟩⟩

/-! spinney/spinneyref03.Var1 -/
def c8_0 : List CO := [⟨(.box (.k (.agg #[(.int .i64 0), (.string ⟨#[]⟩), (.int .i64 0), (.slice none 0 0)]))), (some 1), none⟩]
def c8_1 : List CO := [⟨(.mov (.var 0)), none, none⟩,
  ⟨(.build [(.int .i64 0), (.string ⟨#[]⟩), (.int .i64 0), (.slice none 0 0)] [(0, 1, (.k (.int .i64 1))), (2, 1, (.loc 0))]), none, none⟩,
  ⟨(.store 4 (.var 1) (.loc 0)), none, none⟩]
def c8 : CFun := ⟨1, 2, (.seq (.region [] [] c8_0) (.seq (.region [] [] c8_1) .ret)), [.cell 1 true 4]⟩
theorem ok8 : CodeOk Try.prog T 8 c8 := ⟨⟨Try.f8, Hints.of [] [] [], [0, 2], Try.func8, by kernel_rfl, by kernel_rfl⟩⟩

/-! spinney/index.Keep -/
def c9_0 : List CO := [⟨(.box (.var 3)), (some 4), none⟩,
  ⟨(.mov (.k (.slice none 0 0))), (some 5), none⟩]
def c9_1 : List CO := [⟨(.mov (.var 1)), none, none⟩,
  ⟨(.call false 14 [(.loc 0)]), none, none⟩,
  ⟨(.mov (.loc 0)), (some 1), none⟩]
def c9_2 : List CO := [⟨(.fa 3 (.var 4)), none, none⟩,
  ⟨(.load false 1 (.loc 0)), none, none⟩,
  ⟨(.len .slice (.loc 0)), none, none⟩,
  ⟨(.bin .eql (.loc 0) (.k (.int .i64 0))), (some 9), none⟩]
def c9_3 : List CO := [⟨(.mov (.var 1)), none, none⟩,
  ⟨(.mov (.loc 0)), (some 5), none⟩]
def c9_4 : List CO := [⟨(.box (.k (.int .i64 0))), (some 6), none⟩,
  ⟨(.store 1 (.var 6) (.k (.int .i64 1996))), none, none⟩]
def c9_5 : List CO := [⟨(.mov (.var 2)), none, none⟩,
  ⟨(.fa 3 (.var 4)), none, none⟩,
  ⟨(.load false 1 (.loc 0)), none, none⟩,
  ⟨(.ia 4 (.loc 0) (.k (.int .i64 0))), none, none⟩,
  ⟨(.load true 4 (.loc 0)), none, none⟩,
  ⟨(.call false 15 [(.loc 4), (.loc 0), (.var 6)]), none, none⟩,
  ⟨(.mov (.loc 0)), none, none⟩,
  ⟨(.extract (.loc 0) 0), none, none⟩,
  ⟨(.extract (.loc 1) 1), none, none⟩,
  ⟨(.box (.k (.agg #[(.int .i64 0), (.string ⟨#[]⟩), (.int .i64 0), (.slice none 0 0)]))), (some 7), none⟩,
  ⟨(.store 4 (.var 7) (.loc 2)), none, none⟩,
  ⟨(.mov (.loc 2)), (some 8), none⟩]
def c9_6 : List CO := [⟨(.mov (.var 8)), none, none⟩,
  ⟨(.bin .neq (.loc 0) (.k (.int .i64 0))), (some 10), none⟩]
def c9_7 : List CO := [⟨(.mov (.var 1)), none, none⟩,
  ⟨(.mov (.loc 0)), (some 5), none⟩]
def c9_8 : List CO := [⟨(.mov (.var 1)), none, none⟩,
  ⟨(.mov (.var 0)), none, none⟩,
  ⟨(.load true 4 (.var 7)), none, none⟩,
  ⟨(.build [(.slice none 0 0), (.int .i64 0), (.string ⟨#[]⟩), (.int .i64 0), (.slice none 0 0)] [(0, 1, (.loc 1)), (1, 4, (.loc 0))]), none, none⟩,
  ⟨(.mkfn (.func 17) [(.loc 0)] []), none, none⟩,
  ⟨(.call false 16 [(.loc 4), (.loc 0)]), none, none⟩,
  ⟨(.mov (.loc 0)), (some 5), none⟩]
def c9 : CFun := ⟨4, 11, (.seq (.region [] [] c9_0) (.seq (.region [] [] c9_1) (.seq (.seq (.region [] [] c9_2) (.cond (.var 9) (.seq (.region [] [] c9_3) .ret) .skip)) (.seq (.region [] [] c9_4) (.seq (.region [] [] c9_5) (.seq (.seq (.region [] [] c9_6) (.cond (.var 10) (.seq (.region [] [] c9_7) .ret) .skip)) (.seq (.region [] [] c9_8) .ret))))))), [.var 5]⟩
theorem ok9 : CodeOk Try.prog T 9 c9 := ⟨⟨Try.f9, Hints.of [] [] [], [0, 1, 2, 3, 7, 8, 9, 10, 11, 17, 29], Try.func9, by kernel_rfl, by kernel_rfl⟩⟩

/-! spinney/spinneyref08.SameInts -/
def c10_0 : List CO := [⟨(.mov (.k (.bool false))), (some 2), none⟩]
def c10_1 : List CO := [⟨(.mov (.var 0)), none, none⟩,
  ⟨(.len .slice (.loc 0)), none, none⟩,
  ⟨(.mov (.var 1)), none, none⟩,
  ⟨(.len .slice (.loc 0)), none, none⟩,
  ⟨(.bin .neq (.loc 2) (.loc 0)), (some 4), none⟩]
def c10_2 : List CO := [⟨(.mov (.k (.bool false))), (some 2), none⟩]
def c10_3 : List CO := [⟨(.mov (.var 0)), none, none⟩,
  ⟨(.len .slice (.loc 0)), (some 5), none⟩,
  ⟨(.mov (.k (.int .i64 0))), (some 6), none⟩]
def c10_4 : List CO := [⟨(.bin .lss (.var 6) (.var 5)), (some 7), none⟩]
def c10_5 : List CO := [⟨(.mov (.var 6)), none, none⟩,
  ⟨(.mov (.loc 0)), (some 3), none⟩]
def c10_6 : List CO := [⟨(.mov (.var 0)), none, none⟩,
  ⟨(.mov (.var 3)), none, none⟩,
  ⟨(.ia 1 (.loc 1) (.loc 0)), none, none⟩,
  ⟨(.load false 1 (.loc 0)), none, none⟩,
  ⟨(.mov (.var 1)), none, none⟩,
  ⟨(.mov (.var 3)), none, none⟩,
  ⟨(.ia 1 (.loc 1) (.loc 0)), none, none⟩,
  ⟨(.load false 1 (.loc 0)), none, none⟩,
  ⟨(.bin .neq (.loc 4) (.loc 0)), (some 8), none⟩]
def c10_7 : List CO := [⟨(.mov (.k (.bool false))), (some 2), none⟩]
def c10_8 : List CO := [⟨(.bin .add (.var 6) (.k (.int .i64 1))), none, none⟩,
  ⟨(.mov (.loc 0)), (some 6), none⟩]
def c10_9 : CC := (.seq (.region [] [] c10_4) (.seq (.cond (.var 7) .skip (.exit 0)) (.seq (.block 1 (.seq (.region [] [] c10_5) (.seq (.region [] [] c10_6) (.cond (.var 8) (.seq (.region [] [] c10_7) .ret) .skip)))) (.region [] [] c10_8))))
def c10_10 : List CO := [⟨(.mov (.k (.bool true))), (some 2), none⟩]
def c10 : CFun := ⟨2, 9, (.seq (.region [] [] c10_0) (.seq (.seq (.region [] [] c10_1) (.cond (.var 4) (.seq (.region [] [] c10_2) .ret) .skip)) (.seq (.seq (.region [] [] c10_3) (.block 0 (.loop [true, true, false, false, false, true, true, false, false] [] c10_9))) (.seq (.region [] [] c10_10) .ret)))), [.var 2]⟩
theorem ok10 : CodeOk Try.prog T 10 c10 := ⟨⟨Try.f10, Hints.of [] [] [(0, [true, true, false, false, false, true, true, false, false], [])], [0, 1, 4, 5, 10, 12, 13, 14, 24], Try.func10, by kernel_rfl, by kernel_rfl⟩⟩

/-! spinney/spinneyref03.Atom1 -/
def c11_0 : List CO := [⟨(.box (.k (.agg #[(.int .i64 0), (.string ⟨#[]⟩), (.int .i64 0), (.slice none 0 0)]))), (some 1), none⟩]
def c11_1 : List CO := [⟨(.mov (.var 0)), none, none⟩,
  ⟨(.build [(.int .i64 0), (.string ⟨#[]⟩), (.int .i64 0), (.slice none 0 0)] [(0, 1, (.k (.int .i64 2))), (1, 1, (.loc 0))]), none, none⟩,
  ⟨(.store 4 (.var 1) (.loc 0)), none, none⟩]
def c11 : CFun := ⟨1, 2, (.seq (.region [] [] c11_0) (.seq (.region [] [] c11_1) .ret)), [.cell 1 true 4]⟩
theorem ok11 : CodeOk Try.prog T 11 c11 := ⟨⟨Try.f11, Hints.of [] [] [], [0, 2], Try.func11, by kernel_rfl, by kernel_rfl⟩⟩

/-! spinney/spinneyref03.Int1 -/
def c12_0 : List CO := [⟨(.box (.k (.agg #[(.int .i64 0), (.string ⟨#[]⟩), (.int .i64 0), (.slice none 0 0)]))), (some 1), none⟩]
def c12_1 : List CO := [⟨(.mov (.var 0)), none, none⟩,
  ⟨(.build [(.int .i64 0), (.string ⟨#[]⟩), (.int .i64 0), (.slice none 0 0)] [(0, 1, (.k (.int .i64 3))), (2, 1, (.loc 0))]), none, none⟩,
  ⟨(.store 4 (.var 1) (.loc 0)), none, none⟩]
def c12 : CFun := ⟨1, 2, (.seq (.region [] [] c12_0) (.seq (.region [] [] c12_1) .ret)), [.cell 1 true 4]⟩
theorem ok12 : CodeOk Try.prog T 12 c12 := ⟨⟨Try.f12, Hints.of [] [] [], [0, 2], Try.func12, by kernel_rfl, by kernel_rfl⟩⟩

/-! spinney/spinneyref03.Few -/
def c13_0 : List CO := [⟨(.box (.var 0)), (some 2), none⟩,
  ⟨(.mov (.k (.bool false))), (some 3), none⟩]
def c13_1 : List CO := [⟨(.load true 4 (.var 2)), none, none⟩,
  ⟨(.mov (.var 1)), none, none⟩,
  ⟨(.call true 18 [(.loc 1), (.loc 0)]), none, none⟩,
  ⟨(.bin .geq (.loc 0) (.k (.int .i64 0))), none, none⟩,
  ⟨(.mov (.loc 0)), (some 3), none⟩]
def c13 : CFun := ⟨2, 4, (.seq (.region [] [] c13_0) (.seq (.region [] [] c13_1) .ret)), [.var 3]⟩
theorem ok13 : CodeOk Try.prog T 13 c13 := ⟨⟨Try.f13, Hints.of [] [] [], [0, 1, 2, 4], Try.func13, by kernel_rfl, by kernel_rfl⟩⟩

/-! slices.Clone[[]int,int] -/
def c14_0 : List CO := [⟨(.mov (.k (.slice none 0 0))), (some 1), none⟩]
def c14_1 : List CO := [⟨(.mov (.var 0)), none, none⟩,
  ⟨(.eqv .slice false (.loc 0) (.k (.slice none 0 0))), (some 2), none⟩]
def c14_2 : List CO := [⟨(.mov (.k (.slice none 0 0))), (some 1), none⟩]
def c14_3 : List CO := [⟨(.bslice 1 [(.int .i64 0)] 0 []), none, none⟩,
  ⟨(.mov (.var 0)), none, none⟩,
  ⟨(.append 1 8 (.loc 1) (.loc 0)), none, none⟩,
  ⟨(.mov (.loc 0)), (some 1), none⟩]
def c14 : CFun := ⟨1, 3, (.seq (.region [] [] c14_0) (.seq (.seq (.region [] [] c14_1) (.cond (.var 2) (.seq (.region [] [] c14_2) .ret) .skip)) (.seq (.region [] [] c14_3) .ret))), [.var 1]⟩
theorem ok14 : CodeOk Try.prog T 14 c14 := ⟨⟨Try.f14, Hints.of [] [] [], [0, 2, 4], Try.func14, by kernel_rfl, by kernel_rfl⟩⟩

/-! spinney/subst.Follow -/
def c15_0 : List CO := [⟨(.box (.var 1)), (some 3), none⟩,
  ⟨(.box (.k (.agg #[(.int .i64 0), (.string ⟨#[]⟩), (.int .i64 0), (.slice none 0 0)]))), (some 4), none⟩,
  ⟨(.mov (.k (.int .i64 0))), (some 5), none⟩]
def c15_1 : List CO := [⟨(.fa 0 (.var 3)), none, none⟩,
  ⟨(.load false 1 (.loc 0)), none, none⟩,
  ⟨(.bin .eql (.loc 0) (.k (.int .i64 1))), (some 8), none⟩]
def c15_2 : List CO := [⟨(.mov (.var 0)), none, none⟩,
  ⟨(.fa 2 (.var 3)), none, none⟩,
  ⟨(.load false 1 (.loc 0)), none, none⟩,
  ⟨(.call true 19 [(.loc 2), (.loc 0)]), none, none⟩,
  ⟨(.mov (.loc 0)), none, none⟩,
  ⟨(.extract (.loc 0) 0), none, none⟩,
  ⟨(.extract (.loc 1) 1), none, none⟩,
  ⟨(.box (.k (.agg #[(.int .i64 0), (.string ⟨#[]⟩), (.int .i64 0), (.slice none 0 0)]))), (some 6), none⟩,
  ⟨(.store 4 (.var 6) (.loc 2)), none, none⟩,
  ⟨(.mov (.loc 2)), (some 7), none⟩]
def c15_3 : List CO := [⟨(.mov (.var 7)), none, none⟩,
  ⟨(.un .not (.loc 0)), (some 9), none⟩]
def c15_4 : List CO := [⟨(.load true 4 (.var 3)), none, none⟩,
  ⟨(.store 4 (.var 4) (.loc 0)), none, none⟩,
  ⟨(.mov (.k (.int .i64 0))), (some 5), none⟩]
def c15_5 : List CO := [⟨(.mov (.var 2)), none, none⟩,
  ⟨(.nilchk (.loc 0)), none, none⟩,
  ⟨(.load false 1 (.loc 0)), none, none⟩,
  ⟨(.bin .eql (.loc 0) (.k (.int .i64 0))), (some 10), none⟩]
def c15_6 : List CO := [⟨(.build [(.int .i64 0), (.string ⟨#[]⟩), (.int .i64 0), (.slice none 0 0)] []), none, none⟩,
  ⟨(.store 4 (.var 4) (.loc 0)), none, none⟩,
  ⟨(.mov (.k (.int .i64 140))), (some 5), none⟩]
def c15_7 : List CO := [⟨(.mov (.var 2)), none, none⟩,
  ⟨(.nilchk (.loc 0)), none, none⟩,
  ⟨(.load false 1 (.loc 0)), none, none⟩,
  ⟨(.bin .sub (.loc 0) (.k (.int .i64 1))), none, none⟩,
  ⟨(.nilchk (.loc 3)), none, none⟩,
  ⟨(.store 1 (.loc 0) (.loc 1)), none, none⟩]
def c15_8 : List CO := [⟨(.load true 4 (.var 6)), none, none⟩,
  ⟨(.store 4 (.var 3) (.loc 0)), none, none⟩]
def c15_9 : CC := (.seq (.seq (.region [] [] c15_1) (.cond (.var 8) .skip (.exit 0))) (.block 1 (.seq (.region [] [] c15_2) (.seq (.seq (.region [] [] c15_3) (.cond (.var 9) (.seq (.region [] [] c15_4) .ret) .skip)) (.seq (.seq (.region [] [] c15_5) (.cond (.var 10) (.seq (.region [] [] c15_6) .ret) .skip)) (.seq (.region [] [] c15_7) (.region [] [] c15_8)))))))
def c15_10 : List CO := [⟨(.load true 4 (.var 3)), none, none⟩,
  ⟨(.store 4 (.var 4) (.loc 0)), none, none⟩,
  ⟨(.mov (.k (.int .i64 0))), (some 5), none⟩]
def c15 : CFun := ⟨3, 11, (.seq (.region [] [] c15_0) (.seq (.block 0 (.loop [true, false, true, true, true, false, false, false, false, false, false] [] c15_9)) (.seq (.region [] [] c15_10) .ret))), [.cell 4 true 4, .var 5]⟩
theorem ok15 : CodeOk Try.prog T 15 c15 := ⟨⟨Try.f15, Hints.of [] [] [(0, [true, false, true, true, true, false, false, false, false, false, false], [])], [0, 1, 2, 4, 6, 7, 8, 9, 12, 21, 26], Try.func15, by kernel_rfl, by kernel_rfl⟩⟩

/-! slices.DeleteFunc[[]int,int] -/
def c16_0 : List CO := [⟨(.mov (.k (.slice none 0 0))), (some 2), none⟩]
def c16_1 : List CO := [⟨(.mov (.var 0)), none, none⟩,
  ⟨(.mov (.var 1)), none, none⟩,
  ⟨(.call false 20 [(.loc 1), (.loc 0)]), none, none⟩,
  ⟨(.mov (.loc 0)), (some 3), none⟩]
def c16_2 : List CO := [⟨(.mov (.var 3)), none, none⟩,
  ⟨(.bin .eql (.loc 0) (.k (.int .i64 (-1)))), (some 6), none⟩]
def c16_3 : List CO := [⟨(.mov (.var 0)), none, none⟩,
  ⟨(.mov (.loc 0)), (some 2), none⟩]
def c16_4 : List CO := [⟨(.mov (.var 3)), none, none⟩,
  ⟨(.bin .add (.loc 0) (.k (.int .i64 1))), none, none⟩,
  ⟨(.mov (.loc 0)), (some 4), none⟩]
def c16_5 : List CO := [⟨(.mov (.var 4)), none, none⟩,
  ⟨(.mov (.var 0)), none, none⟩,
  ⟨(.len .slice (.loc 0)), none, none⟩,
  ⟨(.bin .lss (.loc 2) (.loc 0)), (some 7), none⟩]
def c16_6 : List CO := [⟨(.mov (.var 0)), none, none⟩,
  ⟨(.mov (.var 4)), none, none⟩,
  ⟨(.ia 1 (.loc 1) (.loc 0)), none, none⟩,
  ⟨(.load false 1 (.loc 0)), none, none⟩,
  ⟨(.mov (.loc 0)), (some 5), none⟩]
def c16_7 : List CO := [⟨(.mov (.var 1)), none, none⟩,
  ⟨(.mov (.var 5)), none, none⟩,
  ⟨(.callv (.loc 1) [(.loc 0)]), none, none⟩,
  ⟨(.un .not (.loc 0)), (some 8), none⟩]
def c16_8 : List CO := [⟨(.mov (.var 0)), none, none⟩,
  ⟨(.mov (.var 3)), none, none⟩,
  ⟨(.mov (.var 5)), none, none⟩,
  ⟨(.ia 1 (.loc 2) (.loc 1)), none, none⟩,
  ⟨(.store 1 (.loc 0) (.loc 1)), none, none⟩]
def c16_9 : List CO := [⟨(.mov (.var 3)), none, none⟩,
  ⟨(.bin .add (.loc 0) (.k (.int .i64 1))), none, none⟩,
  ⟨(.mov (.loc 0)), (some 3), none⟩]
def c16_10 : List CO := [⟨(.mov (.var 4)), none, none⟩,
  ⟨(.bin .add (.loc 0) (.k (.int .i64 1))), none, none⟩,
  ⟨(.mov (.loc 0)), (some 4), none⟩]
def c16_11 : CC := (.seq (.seq (.region [] [] c16_5) (.cond (.var 7) .skip (.exit 0))) (.seq (.block 1 (.seq (.region [] [] c16_6) (.seq (.region [] [] c16_7) (.cond (.var 8) (.seq (.region [] [] c16_8) (.region [] [] c16_9)) .skip)))) (.region [] [] c16_10)))
def c16_12 : List CO := [⟨(.mov (.var 0)), none, none⟩,
  ⟨(.mov (.var 3)), none, none⟩,
  ⟨(.slice 1 (.loc 1) (some (.loc 0)) none none), none, none⟩,
  ⟨(.clrrow 1 [(.int .i64 0)] (.loc 0)), none, none⟩]
def c16_13 : List CO := [⟨(.mov (.var 0)), none, none⟩,
  ⟨(.mov (.var 3)), none, none⟩,
  ⟨(.slice 1 (.loc 1) none (some (.loc 0)) none), none, none⟩,
  ⟨(.mov (.loc 0)), (some 2), none⟩]
def c16 : CFun := ⟨2, 9, (.seq (.region [] [] c16_0) (.seq (.region [] [] c16_1) (.seq (.seq (.region [] [] c16_2) (.cond (.var 6) (.seq (.region [] [] c16_3) .ret) .skip)) (.seq (.seq (.region [] [] c16_4) (.block 0 (.loop [true, true, false, true, true, false, false, false, false] [] c16_11))) (.seq (.region [] [] c16_12) (.seq (.region [] [] c16_13) .ret)))))), [.var 2]⟩
theorem ok16 : CodeOk Try.prog T 16 c16 := ⟨⟨Try.f16, Hints.of [] [] [(0, [true, true, false, true, true, false, false, false, false], [])], [0, 1, 4, 5, 6, 7, 12, 19, 29], Try.func16, by kernel_rfl, by kernel_rfl⟩⟩

/-! (spinney/index.sieve).drops -/
def c17_0 : List CO := [⟨(.box (.var 0)), (some 2), none⟩,
  ⟨(.mov (.k (.bool false))), (some 3), none⟩]
def c17_1 : List CO := [⟨(.mov (.var 1)), none, none⟩,
  ⟨(.bin .lss (.loc 0) (.k (.int .i64 0))), none, none⟩,
  ⟨(.mov (.loc 0)), none, none⟩,
  ⟨(.mov (.var 1)), none, (some ((.loc 0), false))⟩,
  ⟨(.fa 0 (.var 2)), none, (some ((.loc 1), false))⟩,
  ⟨(.load false 1 (.loc 0)), none, (some ((.loc 2), false))⟩,
  ⟨(.len .slice (.loc 0)), none, (some ((.loc 3), false))⟩,
  ⟨(.bin .geq (.loc 3) (.loc 0)), none, (some ((.loc 4), false))⟩,
  ⟨(.pick (.loc 5) (.k (.bool true)) (.loc 0)), (some 5), none⟩]
def c17_2 : List CO := [⟨(.mov (.k (.bool false))), (some 3), none⟩]
def c17_3 : List CO := [⟨(.fa 0 (.var 2)), none, none⟩,
  ⟨(.load false 1 (.loc 0)), none, none⟩,
  ⟨(.mov (.var 1)), none, none⟩,
  ⟨(.ia 6 (.loc 1) (.loc 0)), none, none⟩,
  ⟨(.fa 0 (.loc 0)), none, none⟩,
  ⟨(.fa 3 (.loc 0)), none, none⟩,
  ⟨(.load false 1 (.loc 0)), none, none⟩,
  ⟨(.mov (.loc 0)), (some 4), none⟩]
def c17_4 : List CO := [⟨(.mov (.var 4)), none, none⟩,
  ⟨(.len .slice (.loc 0)), none, none⟩,
  ⟨(.bin .gtr (.loc 0) (.k (.int .i64 0))), none, none⟩,
  ⟨(.mov (.loc 0)), none, none⟩,
  ⟨(.fa 1 (.var 2)), none, (some ((.loc 0), true))⟩,
  ⟨(.load true 4 (.loc 0)), none, (some ((.loc 1), true))⟩,
  ⟨(.mov (.var 4)), none, (some ((.loc 2), true))⟩,
  ⟨(.ia 4 (.loc 0) (.k (.int .i64 0))), none, (some ((.loc 3), true))⟩,
  ⟨(.load true 4 (.loc 0)), none, (some ((.loc 4), true))⟩,
  ⟨(.call true 21 [(.loc 3), (.loc 0)]), none, (some ((.loc 5), true))⟩,
  ⟨(.pick (.loc 6) (.loc 0) (.k (.bool false))), none, none⟩,
  ⟨(.mov (.loc 0)), (some 3), none⟩]
def c17 : CFun := ⟨2, 6, (.seq (.region [] [] c17_0) (.seq (.seq (.region [] [] c17_1) (.cond (.var 5) (.seq (.region [] [] c17_2) .ret) .skip)) (.seq (.region [] [] c17_3) (.seq (.region [] [] c17_4) .ret)))), [.var 3]⟩
theorem ok17 : CodeOk Try.prog T 17 c17 := ⟨⟨Try.f17, Hints.of [] [] [], [0, 1, 2, 4, 5, 14], Try.func17, by kernel_rfl, by kernel_rfl⟩⟩

/-! spinney/spinneyref03.left -/
def c18_0 : List CO := [⟨(.box (.var 0)), (some 2), none⟩,
  ⟨(.mov (.k (.int .i64 0))), (some 3), none⟩]
def c18_1 : List CO := [⟨(.mov (.var 1)), none, none⟩,
  ⟨(.bin .sub (.loc 0) (.k (.int .i64 1))), none, none⟩,
  ⟨(.mov (.loc 0)), (some 1), none⟩]
def c18_2 : List CO := [⟨(.fa 3 (.var 2)), none, none⟩,
  ⟨(.load false 1 (.loc 0)), (some 5), none⟩,
  ⟨(.len .slice (.var 5)), (some 6), none⟩,
  ⟨(.mov (.k (.int .i64 0))), (some 7), none⟩]
def c18_3 : List CO := [⟨(.bin .lss (.var 7) (.var 6)), (some 8), none⟩]
def c18_4 : List CO := [⟨(.ia 4 (.var 5) (.var 7)), none, none⟩,
  ⟨(.load true 4 (.loc 0)), none, none⟩,
  ⟨(.box (.k (.agg #[(.int .i64 0), (.string ⟨#[]⟩), (.int .i64 0), (.slice none 0 0)]))), (some 4), none⟩,
  ⟨(.store 4 (.var 4) (.loc 1)), none, none⟩]
def c18_5 : List CO := [⟨(.mov (.var 1)), none, none⟩,
  ⟨(.bin .lss (.loc 0) (.k (.int .i64 0))), (some 9), none⟩]
def c18_6 : List CO := [⟨(.mov (.var 1)), none, none⟩,
  ⟨(.mov (.loc 0)), (some 3), none⟩]
def c18_7 : List CO := [⟨(.load true 4 (.var 4)), none, none⟩,
  ⟨(.mov (.var 1)), none, none⟩,
  ⟨(.call true 18 [(.loc 1), (.loc 0)]), none, none⟩,
  ⟨(.mov (.loc 0)), (some 1), none⟩]
def c18_8 : List CO := [⟨(.bin .add (.var 7) (.k (.int .i64 1))), none, none⟩,
  ⟨(.mov (.loc 0)), (some 7), none⟩]
def c18_9 : CC := (.seq (.region [] [] c18_3) (.seq (.cond (.var 8) .skip (.exit 0)) (.seq (.block 1 (.seq (.region [] [] c18_4) (.seq (.seq (.region [] [] c18_5) (.cond (.var 9) (.seq (.region [] [] c18_6) .ret) .skip)) (.region [] [] c18_7)))) (.region [] [] c18_8))))
def c18_10 : List CO := [⟨(.mov (.var 1)), none, none⟩,
  ⟨(.mov (.loc 0)), (some 3), none⟩]
def c18 : CFun := ⟨2, 10, (.seq (.region [] [] c18_0) (.seq (.region [] [] c18_1) (.seq (.seq (.region [] [] c18_2) (.block 0 (.loop [false, true, false, false, false, true, true, true, false, false] [] c18_9))) (.seq (.region [] [] c18_10) .ret)))), [.var 3]⟩
theorem ok18 : CodeOk Try.prog T 18 c18 := ⟨⟨Try.f18, Hints.of [] [] [(0, [false, true, false, false, false, true, true, true, false, false], [])], [0, 1, 2, 4, 6, 10, 11, 12, 13, 17], Try.func18, by kernel_rfl, by kernel_rfl⟩⟩

/-! slices.IndexFunc[[]int,int] -/
def c20_0 : List CO := [⟨(.mov (.k (.int .i64 0))), (some 2), none⟩]
def c20_1 : List CO := [⟨(.mov (.var 0)), none, none⟩,
  ⟨(.len .slice (.loc 0)), (some 4), none⟩,
  ⟨(.mov (.k (.int .i64 0))), (some 5), none⟩]
def c20_2 : List CO := [⟨(.bin .lss (.var 5) (.var 4)), (some 6), none⟩]
def c20_3 : List CO := [⟨(.mov (.var 5)), none, none⟩,
  ⟨(.mov (.loc 0)), (some 3), none⟩]
def c20_4 : List CO := [⟨(.mov (.var 1)), none, none⟩,
  ⟨(.mov (.var 0)), none, none⟩,
  ⟨(.mov (.var 3)), none, none⟩,
  ⟨(.ia 1 (.loc 1) (.loc 0)), none, none⟩,
  ⟨(.load false 1 (.loc 0)), none, none⟩,
  ⟨(.callv (.loc 4) [(.loc 0)]), (some 7), none⟩]
def c20_5 : List CO := [⟨(.mov (.var 3)), none, none⟩,
  ⟨(.mov (.loc 0)), (some 2), none⟩]
def c20_6 : List CO := [⟨(.bin .add (.var 5) (.k (.int .i64 1))), none, none⟩,
  ⟨(.mov (.loc 0)), (some 5), none⟩]
def c20_7 : CC := (.seq (.region [] [] c20_2) (.seq (.cond (.var 6) .skip (.exit 0)) (.seq (.block 1 (.seq (.region [] [] c20_3) (.seq (.region [] [] c20_4) (.cond (.var 7) (.seq (.region [] [] c20_5) .ret) .skip)))) (.region [] [] c20_6))))
def c20_8 : List CO := [⟨(.mov (.k (.int .i64 (-1)))), (some 2), none⟩]
def c20 : CFun := ⟨2, 8, (.seq (.region [] [] c20_0) (.seq (.seq (.region [] [] c20_1) (.block 0 (.loop [true, true, false, false, true, true, false, false] [] c20_7))) (.seq (.region [] [] c20_8) .ret))), [.var 2]⟩
theorem ok20 : CodeOk Try.prog T 20 c20 := ⟨⟨Try.f20, Hints.of [] [] [(0, [true, true, false, false, true, true, false, false], [])], [0, 1, 4, 5, 7, 8, 9, 16], Try.func20, by kernel_rfl, by kernel_rfl⟩⟩

/-! spinney/index.Clash -/
def c21_0 : List CO := [⟨(.box (.var 0)), (some 2), none⟩,
  ⟨(.box (.var 1)), (some 3), none⟩,
  ⟨(.mov (.k (.bool false))), (some 4), none⟩]
def c21_1 : List CO := [⟨(.fa 0 (.var 2)), none, none⟩,
  ⟨(.load false 1 (.loc 0)), none, none⟩,
  ⟨(.bin .neq (.loc 0) (.k (.int .i64 1))), none, none⟩,
  ⟨(.mov (.loc 0)), none, none⟩,
  ⟨(.fa 0 (.var 3)), none, (some ((.loc 0), true))⟩,
  ⟨(.load false 1 (.loc 0)), none, (some ((.loc 1), true))⟩,
  ⟨(.bin .neq (.loc 0) (.k (.int .i64 1))), none, (some ((.loc 2), true))⟩,
  ⟨(.pick (.loc 3) (.loc 0) (.k (.bool false))), none, none⟩,
  ⟨(.mov (.loc 0)), none, none⟩,
  ⟨(.load true 4 (.var 2)), none, (some ((.loc 0), true))⟩,
  ⟨(.call true 23 [(.loc 0)]), none, (some ((.loc 1), true))⟩,
  ⟨(.load true 4 (.var 3)), none, (some ((.loc 2), true))⟩,
  ⟨(.call true 23 [(.loc 0)]), none, (some ((.loc 3), true))⟩,
  ⟨(.eqv (.flat [.i, .i, .s, .i]) true (.loc 2) (.loc 0)), none, (some ((.loc 4), true))⟩,
  ⟨(.pick (.loc 5) (.loc 0) (.k (.bool false))), none, none⟩,
  ⟨(.mov (.loc 0)), (some 4), none⟩]
def c21 : CFun := ⟨2, 5, (.seq (.region [] [] c21_0) (.seq (.region [] [] c21_1) .ret)), [.var 4]⟩
theorem ok21 : CodeOk Try.prog T 21 c21 := ⟨⟨Try.f21, Hints.of [] [] [], [0, 1, 2, 3, 4], Try.func21, by kernel_rfl, by kernel_rfl⟩⟩

/-! spinney/index.of -/
def c23_0 : List CO := [⟨(.box (.var 0)), (some 1), none⟩,
  ⟨(.box (.k (.agg #[(.int .i64 0), (.int .i64 0), (.string ⟨#[]⟩), (.int .i64 0)]))), (some 2), none⟩]
def c23_1 : List CO := [⟨(.fa 0 (.var 1)), none, none⟩,
  ⟨(.load false 1 (.loc 0)), none, none⟩,
  ⟨(.fa 3 (.var 1)), none, none⟩,
  ⟨(.load false 1 (.loc 0)), none, none⟩,
  ⟨(.len .slice (.loc 0)), none, none⟩,
  ⟨(.fa 1 (.var 1)), none, none⟩,
  ⟨(.load false 1 (.loc 0)), none, none⟩,
  ⟨(.fa 2 (.var 1)), none, none⟩,
  ⟨(.load false 1 (.loc 0)), none, none⟩,
  ⟨(.build [(.int .i64 0), (.int .i64 0), (.string ⟨#[]⟩), (.int .i64 0)] [(0, 1, (.loc 7)), (1, 1, (.loc 4)), (2, 1, (.loc 2)), (3, 1, (.loc 0))]), none, none⟩,
  ⟨(.store 4 (.var 2) (.loc 0)), none, none⟩]
def c23 : CFun := ⟨1, 3, (.seq (.region [] [] c23_0) (.seq (.region [] [] c23_1) .ret)), [.cell 2 true 4]⟩
theorem ok23 : CodeOk Try.prog T 23 c23 := ⟨⟨Try.f23, Hints.of [] [] [], [0, 1, 2], Try.func23, by kernel_rfl, by kernel_rfl⟩⟩

def Fl : List (FuncId × FEntry) := [(3, .code c3), (4, .code c4), (5, .code c5), (6, .code c6), (7, .code c7), (8, .code c8), (9, .code c9), (10, .code c10), (11, .code c11), (12, .code c12), (13, .code c13), (14, .oracle (cloneG 1 8)), (15, .code c15), (16, .code c16), (17, .pcode c17), (18, .code c18), (20, .code c20), (21, .pcode c21), (23, .pcode c23)] ++ [(19, .oracle lookG)]
def F (f : FuncId) : Option FEntry := Fl.lookup f
theorem hF : ∀ (B : Nat) (w0 : World), K B w0 → ∀ f e, F f = some e → EntryOk Try.prog T B w0 f e := fun B w0 hK => entries_of (fun p hp => by
  simp only [Fl, List.cons_append, List.nil_append, List.mem_cons, List.not_mem_nil, or_false] at hp
  rcases hp with rfl | rfl | rfl | rfl | rfl | rfl | rfl | rfl | rfl | rfl | rfl | rfl | rfl | rfl | rfl | rfl | rfl | rfl | rfl | rfl
  · exact ok3
  · exact ok4
  · exact ok5
  · exact ok6
  · exact ok7
  · exact ok8
  · exact ok9
  · exact ok10
  · exact ok11
  · exact ok12
  · exact ok13
  · exact clone_entry (zero := [.int .i64 0]) mixed0 hT ok14 B w0
  · exact ok15
  · exact ok16
  · exact ok17
  · exact ok18
  · exact ok20
  · exact ok21
  · exact ok23
  · exact fun args h r h' hg => ⟨(look_ok args h r h' hg).1, (look_ok args h r h' hg).2 _ _⟩)
end Go.Proofs.Ytchiacliefahdaa
end

/-! Functions of this program, walked (as in other programs here). -/
section
set_option linter.unusedVariables false
set_option linter.unusedSimpArgs false
namespace Go.AE.Ytchiacliefahdaa
open Go Go.AE Go.Proofs.Ytchiacliefahdaa

def K46 : List Bool := [false, true, false, false, false, true, true, true, false, false]
def L46 (c : AV) (len i m : Int) : List AV := [.junk, .v (.int .i64 m), .junk, .junk, .junk, c, .v (.int .i64 len), .v (.int .i64 i), .junk, .junk]
theorem left_step {K : Nat} {ex nn : Bool} {es : List AV} {h : List AO} {i : Nat} {e : AV} {t : Tm} {m r : Int} (he : es[i]? = some e) (ht : IsT e t) (hm : 0 ≤ m) (hc : callW F 18 [e, .v (.int .i64 m)] [] = some (.v (.int .i64 r), [])) :
    exec (callW F) K c18_9 (L46 (.slc 4 ex nn es) es.length i m) h = some (.normal, [.junk, .v (.int .i64 r), .junk, .junk, .ptr h.length 0, .slc 4 ex nn es, .v (.int .i64 es.length), .v (.int .i64 (IntKind.i64.wrap (i + 1))), .v (.bool true), .v (.bool false)], h ++ [.box e.cells]) := by
  have hlt : (decide ((i : Int) < (es.length : Int))) = true := by
    have := (List.getElem?_eq_some_iff.1 he).1
    simp; omega
  have hneg : decide (m < 0) = false := by simp; omega
  have q1 : ∀ h, iaV h 4 (.slc 4 ex nn es) (some i) = some (.ip e.cells) := fun h => iaV_slc he
  have q3 : ∀ h : List AO, evLoad h true 4 (.ip e.cells) = some e := fun h => ht.load
  have q5 : ∀ h : List AO, e.snap1 h = some e := fun h => ht.snap
  have q6 : ∀ (h : List AO) (cs : List AV), cs.length = 4 → evStore (h ++ [.box cs]) 4 (.ptr h.length 0) e = some (h ++ [.box e.cells]) := fun h cs hl => st_new ht.cl.1 ht.cl.2 hl
  have q7 : ∀ h : List AO, evLoad (h ++ [.box e.cells]) true 4 (.ptr h.length 0) = some e := fun h => by rw [ld_new, if_pos (by rw [ht.cl.2]; omega), List.drop_zero]; exact ht.asEl
  have q8 : ∀ (h : List AO) (x : Int), (AV.v (.int .i64 x)).snap1 h = some (.v (.int .i64 x)) := fun _ _ => rfl
  have q9 : (ofVal (.agg #[(.int .i64 0), (.string ⟨#[]⟩), (.int .i64 0), (.slice none 0 0)])).cl = some [.v (.int .i64 0), .v (.string ⟨#[]⟩), .v (.int .i64 0), .v (.slice none 0 0)] := by simp [ofVal, AV.cl, Value.oneCell']
  simp only [L46, c18_9, c18_3, c18_4, c18_5, c18_6, c18_7, c18_8, hlt, hneg, q1, q3, q5, q6, q7, q8, q9, g_agg, hc, run_nil, run_cons, stp_plain, stp_guard, put_some, pass_eq, pick_tt, pick_ff, pick_tf, pick_ft, pick_u, reg_some, thn_normal, thn_exit, thn_ret, cnd_t, cnd_f, blk_normal, blk_ret, blk_exit, x_seq, x_region, x_cond, x_block, x_loop, x_ret, x_exit, x_skip, e_mov, e_pick, pk_t, pk_f, withH_some, e_box, bx_some, e_load, e_store, stH_some, e_nil, e_bin, e_eqv, eqH_f, eqH_t, e_un, e_fa, e_ia, ia_eq, nat_eq, natV_nat, e_len, lnH_some, e_extract, ex_0, ex_1, e_call0, e_call1, e_call2, e_call3, pc0_eq, pc1_some, pc2_some, pc3_some, fin_some, g_var0, g_vars, g_loc0, g_locs, g_int, g_bool, g_str, g_sl, s_none, s_zero, s_succ, evFa, evNil, asEl, evBin, intBin, strBin, evUn, len_nil, len_slc, len_str, clr, List.length_nil, List.length_cons, List.getElem?_cons_zero, List.getElem?_cons_succ, Nat.reduceAdd, Nat.zero_add, Nat.add_zero, Nat.reduceLeDiff, Nat.reduceSub, ↓reduceIte, List.drop_succ_cons, List.drop_zero, List.take_succ_cons, List.take_zero, Bool.false_eq_true, List.nil_append, List.cons_append, Bool.not_true, Bool.not_false, cond_true, cond_false, bne, lv_ret, lv_normal, res1, res2, lv2_some, res_var, res_cell, lvf_v, lvf_slc]
theorem left_loop {K : Nat} {ex nn : Bool} {es : List AV} (hmax : es.length ≤ maxLen) :
    ∀ (l : List Tm) (i : Nat) (m : Int) (h : List AO), i + l.length = es.length → All2 (es.drop i) l → (∀ t ∈ l, ∀ (e : AV) (m : Int), IsT e t → callW F 18 [e, .v (.int .i64 m)] [] = some (.v (.int .i64 (fewT t m)), [])) →
      ∃ h', loopN (exec (callW F) K c18_9) K46 (l.length + 1) (L46 (.slc 4 ex nn es) es.length i m) h = some (.exit 0, [.junk, .v (.int .i64 (fewL l m)), .junk, .junk, .junk, .slc 4 ex nn es, .v (.int .i64 es.length), .v (.int .i64 es.length), .v (.bool false), .junk], h') ∨
        ∃ vs, loopN (exec (callW F) K c18_9) K46 (l.length + 1) (L46 (.slc 4 ex nn es) es.length i m) h = some (.ret, vs, h') ∧ getO vs [] (.var 3) = .v (.int .i64 (fewL l m)) := by
  intro l
  induction l with
  | nil =>
    intro i m h hi _ _
    refine ⟨h, .inl (loop_exit ?_)⟩
    have hil : i = es.length := by simpa using hi
    subst hil
    have hlt : decide ((es.length : Int) < (es.length : Int)) = false := by simp
    simp only [K46, L46, fewL, c18_9, c18_3, hlt, run_nil, run_cons, stp_plain, stp_guard, put_some, pass_eq, pick_tt, pick_ff, pick_tf, pick_ft, pick_u, reg_some, thn_normal, thn_exit, thn_ret, cnd_t, cnd_f, blk_normal, blk_ret, blk_exit, x_seq, x_region, x_cond, x_block, x_loop, x_ret, x_exit, x_skip, e_mov, e_pick, pk_t, pk_f, withH_some, e_box, bx_some, e_load, e_store, stH_some, e_nil, e_bin, e_eqv, eqH_f, eqH_t, e_un, e_fa, e_ia, ia_eq, nat_eq, natV_nat, e_len, lnH_some, e_extract, ex_0, ex_1, e_call0, e_call1, e_call2, e_call3, pc0_eq, pc1_some, pc2_some, pc3_some, fin_some, g_var0, g_vars, g_loc0, g_locs, g_int, g_bool, g_str, g_sl, s_none, s_zero, s_succ, AV.cl, evFa, evNil, evLoad, asEl, evBin, intBin, strBin, evUn, len_nil, len_slc, len_str, clr, List.length_nil, List.length_cons, List.getElem?_cons_zero, List.getElem?_cons_succ, Nat.reduceAdd, Nat.zero_add, Nat.add_zero, Nat.reduceLeDiff, Nat.reduceSub, ↓reduceIte, List.drop_succ_cons, List.drop_zero, List.take_succ_cons, List.take_zero, Bool.false_eq_true, List.nil_append, List.cons_append, Bool.not_true, Bool.not_false, cond_true, cond_false, bne, lv_ret, lv_normal, res1, res2, lv2_some, res_var, res_cell, lvf_v, lvf_slc]
  | cons t l ih =>
    intro i m h hi hes hcall
    have hil : i < es.length := by simp at hi; omega
    have he : es[i]? = some (es[i]'hil) := List.getElem?_eq_getElem _
    have hd : es.drop i = es[i] :: es.drop (i + 1) := List.drop_eq_getElem_cons hil
    rw [hd] at hes
    cases hes with
    | cons _ _ _ _ hT hs =>
    by_cases hm : m < 0
    · -- below 0: it leaves
      refine ⟨h ++ [.box (es[i]).cells], .inr ⟨_, loop_ret (v' := [.junk, .v (.int .i64 m), .junk, .v (.int .i64 m), .ptr h.length 0, .slc 4 ex nn es, .v (.int .i64 es.length), .v (.int .i64 i), .v (.bool true), .v (.bool true)]) ?_, ?_⟩⟩
      · have hlt : (decide ((i : Int) < (es.length : Int))) = true := by simp; omega
        have hneg : decide (m < 0) = true := by simpa using hm
        have q1 : ∀ h, iaV h 4 (.slc 4 ex nn es) (some i) = some (.ip (es[i]).cells) := fun h => iaV_slc he
        have q3 : ∀ h : List AO, evLoad h true 4 (.ip (es[i]).cells) = some es[i] := fun h => hT.load
        have q6 : ∀ (h : List AO) (cs : List AV), cs.length = 4 → evStore (h ++ [.box cs]) 4 (.ptr h.length 0) es[i] = some (h ++ [.box (es[i]).cells]) := fun h cs hl => st_new hT.cl.1 hT.cl.2 hl
        have q9 : (ofVal (.agg #[(.int .i64 0), (.string ⟨#[]⟩), (.int .i64 0), (.slice none 0 0)])).cl = some [.v (.int .i64 0), .v (.string ⟨#[]⟩), .v (.int .i64 0), .v (.slice none 0 0)] := by simp [ofVal, AV.cl, Value.oneCell']
        simp only [K46, L46, c18_9, c18_3, c18_4, c18_5, c18_6, hlt, hneg, q1, q3, q6, q9, g_agg, run_nil, run_cons, stp_plain, stp_guard, put_some, pass_eq, pick_tt, pick_ff, pick_tf, pick_ft, pick_u, reg_some, thn_normal, thn_exit, thn_ret, cnd_t, cnd_f, blk_normal, blk_ret, blk_exit, x_seq, x_region, x_cond, x_block, x_loop, x_ret, x_exit, x_skip, e_mov, e_pick, pk_t, pk_f, withH_some, e_box, bx_some, e_load, e_store, stH_some, e_nil, e_bin, e_eqv, eqH_f, eqH_t, e_un, e_fa, e_ia, ia_eq, nat_eq, natV_nat, e_len, lnH_some, e_extract, ex_0, ex_1, e_call0, e_call1, e_call2, e_call3, pc0_eq, pc1_some, pc2_some, pc3_some, fin_some, g_var0, g_vars, g_loc0, g_locs, g_int, g_bool, g_str, g_sl, s_none, s_zero, s_succ, evFa, evNil, asEl, evBin, intBin, strBin, evUn, len_nil, len_slc, len_str, clr, List.length_nil, List.length_cons, List.getElem?_cons_zero, List.getElem?_cons_succ, Nat.reduceAdd, Nat.zero_add, Nat.add_zero, Nat.reduceLeDiff, Nat.reduceSub, ↓reduceIte, List.drop_succ_cons, List.drop_zero, List.take_succ_cons, List.take_zero, Bool.false_eq_true, List.nil_append, List.cons_append, Bool.not_true, Bool.not_false, cond_true, cond_false, bne, lv_ret, lv_normal, res1, res2, lv2_some, res_var, res_cell, lvf_v, lvf_slc]
      · simp only [fewL, if_pos hm, g_vars, g_var0]
    · have st := left_step (K := K) (ex := ex) (nn := nn) (h := h) he hT (by omega) (hcall t (by simp) _ m hT)
      rw [wrap_succ hil hmax] at st
      have e1 : clr K46 (L46 (.slc 4 ex nn es) es.length i m) = L46 (.slc 4 ex nn es) es.length i m := rfl
      rw [show (t :: l).length + 1 = (l.length + 1) + 1 from rfl, loop_normal (by rw [e1]; exact st)]
      obtain ⟨h', hh⟩ := ih (i + 1) (fewT t m) (h ++ [.box (es[i]).cells]) (by simp at hi; omega) hs (fun t ht => hcall t (by simp [ht]))
      refine ⟨h', ?_⟩
      rw [loop_cong (v2 := L46 (.slc 4 ex nn es) es.length ((i + 1 : Nat) : Int) (fewT t m)) (by rfl), fewL, if_neg hm]
      exact hh
theorem left_ok : ∀ (N : Nat) (t : Tm) (a : AV) (m : Int), SizeOf.sizeOf t < N → IsT a t → callW F 18 [a, .v (.int .i64 m)] [] = some (.v (.int .i64 (fewT t m)), []) := by
  intro N
  induction N with
  | zero => intro t a m h; omega
  | succ N ih =>
    intro t a m hN ha
    cases ha with
    | mk k s n c l hc =>
    have h5 := Tm.mk.sizeOf_spec k s n l
    have hcall : ∀ t ∈ l, ∀ (e : AV) (m : Int), IsT e t → callW F 18 [e, .v (.int .i64 m)] [] = some (.v (.int .i64 (fewT t m)), []) := by
      intro t ht e m hT
      have := List.sizeOf_lt_of_mem ht
      exact ih t e m (by omega) hT
    refine callW_pure (c := c18) rfl rfl (l.length + 1) ?_
    rw [fewT]
    cases hc with
    | nil =>
      have hlt : decide ((0 : Int) < 0) = false := by simp
      have hl : ∀ (K : Nat) (vars : List AV) (h : List AO) (m : Int), clr [false, true, false, false, false, true, true, true, false, false] vars = [.junk, .v (.int .i64 m), .junk, .junk, .junk, .v (.slice none 0 0), .v (.int .i64 ((0 : Nat) : Int)), .v (.int .i64 0), .junk, .junk] →
          loopN (exec (callW F) K c18_9) [false, true, false, false, false, true, true, true, false, false] 1 vars h = some (.exit 0, [.junk, .v (.int .i64 m), .junk, .junk, .junk, .v (.slice none 0 0), .v (.int .i64 ((0 : Nat) : Int)), .v (.int .i64 0), .v (.bool false), .junk], h) := by
        intro K vars h m hv
        refine loop_exit (n := 0) ?_
        rw [hv]
        have hlt : decide ((0 : Int) < ((0 : Nat) : Int)) = false := by simp
        simp only [c18_9, c18_3, hlt, run_nil, run_cons, stp_plain, stp_guard, put_some, pass_eq, pick_tt, pick_ff, pick_tf, pick_ft, pick_u, reg_some, thn_normal, thn_exit, thn_ret, cnd_t, cnd_f, blk_normal, blk_ret, blk_exit, x_seq, x_region, x_cond, x_block, x_loop, x_ret, x_exit, x_skip, e_mov, e_pick, pk_t, pk_f, withH_some, e_box, bx_some, e_load, e_store, stH_some, e_nil, e_bin, e_eqv, eqH_f, eqH_t, e_un, e_fa, e_ia, ia_eq, nat_eq, natV_nat, e_len, lnH_some, e_extract, ex_0, ex_1, e_call0, e_call1, e_call2, e_call3, pc0_eq, pc1_some, pc2_some, pc3_some, fin_some, g_var0, g_vars, g_loc0, g_locs, g_int, g_bool, g_str, g_sl, s_none, s_zero, s_succ, AV.cl, evFa, evNil, evLoad, asEl, evBin, intBin, strBin, evUn, len_nil, len_slc, len_str, clr, List.length_nil, List.length_cons, List.getElem?_cons_zero, List.getElem?_cons_succ, Nat.reduceAdd, Nat.zero_add, Nat.add_zero, Nat.reduceLeDiff, Nat.reduceSub, ↓reduceIte, List.drop_succ_cons, List.drop_zero, List.take_succ_cons, List.take_zero, Bool.false_eq_true, List.nil_append, List.cons_append, Bool.not_true, Bool.not_false, cond_true, cond_false, bne, lv_ret, lv_normal, res1, res2, lv2_some, res_var, res_cell, lvf_v, lvf_slc]
      simp only [c18, start, List.replicate, c18_0, c18_1, c18_2, c18_10, fewL, run_nil, run_cons, stp_plain, stp_guard, put_some, pass_eq, pick_tt, pick_ff, pick_tf, pick_ft, pick_u, reg_some, thn_normal, thn_exit, thn_ret, cnd_t, cnd_f, blk_normal, blk_ret, blk_exit, x_seq, x_region, x_cond, x_block, x_loop, x_ret, x_exit, x_skip, e_mov, e_pick, pk_t, pk_f, withH_some, e_box, bx_some, e_load, e_store, stH_some, e_nil, e_bin, e_eqv, eqH_f, eqH_t, e_un, e_fa, e_ia, ia_eq, nat_eq, natV_nat, e_len, lnH_some, e_extract, ex_0, ex_1, e_call0, e_call1, e_call2, e_call3, pc0_eq, pc1_some, pc2_some, pc3_some, fin_some, g_var0, g_vars, g_loc0, g_locs, g_int, g_bool, g_str, g_sl, s_none, s_zero, s_succ, AV.cl, evFa, evNil, evLoad, asEl, evBin, intBin, strBin, evUn, len_nil, len_slc, len_str, clr, List.length_nil, List.length_cons, List.getElem?_cons_zero, List.getElem?_cons_succ, Nat.reduceAdd, Nat.zero_add, Nat.add_zero, Nat.reduceLeDiff, Nat.reduceSub, ↓reduceIte, List.drop_succ_cons, List.drop_zero, List.take_succ_cons, List.take_zero, Bool.false_eq_true, List.nil_append, List.cons_append, Bool.not_true, Bool.not_false, cond_true, cond_false, bne, lv_ret, lv_normal, res1, res2, lv2_some, res_var, res_cell, lvf_v, lvf_slc]
      rw [hl _ _ _ (IntKind.i64.wrap (m - 1)) (by rfl)]
      simp only [run_nil, run_cons, stp_plain, stp_guard, put_some, pass_eq, pick_tt, pick_ff, pick_tf, pick_ft, pick_u, reg_some, thn_normal, thn_exit, thn_ret, cnd_t, cnd_f, blk_normal, blk_ret, blk_exit, x_seq, x_region, x_cond, x_block, x_loop, x_ret, x_exit, x_skip, e_mov, e_pick, pk_t, pk_f, withH_some, e_box, bx_some, e_load, e_store, stH_some, e_nil, e_bin, e_eqv, eqH_f, eqH_t, e_un, e_fa, e_ia, ia_eq, nat_eq, natV_nat, e_len, lnH_some, e_extract, ex_0, ex_1, e_call0, e_call1, e_call2, e_call3, pc0_eq, pc1_some, pc2_some, pc3_some, fin_some, g_var0, g_vars, g_loc0, g_locs, g_int, g_bool, g_str, g_sl, s_none, s_zero, s_succ, AV.cl, evFa, evNil, evLoad, asEl, evBin, intBin, strBin, evUn, len_nil, len_slc, len_str, clr, List.length_nil, List.length_cons, List.getElem?_cons_zero, List.getElem?_cons_succ, Nat.reduceAdd, Nat.zero_add, Nat.add_zero, Nat.reduceLeDiff, Nat.reduceSub, ↓reduceIte, List.drop_succ_cons, List.drop_zero, List.take_succ_cons, List.take_zero, Bool.false_eq_true, List.nil_append, List.cons_append, Bool.not_true, Bool.not_false, cond_true, cond_false, bne, lv_ret, lv_normal, res1, res2, lv2_some, res_var, res_cell, lvf_v, lvf_slc]
    | slc ex nn es l hes hm =>
      have e1 := hes.length
      simp only [c18, start, List.replicate, c18_0, c18_1, c18_2, c18_10, run_nil, run_cons, stp_plain, stp_guard, put_some, pass_eq, pick_tt, pick_ff, pick_tf, pick_ft, pick_u, reg_some, thn_normal, thn_exit, thn_ret, cnd_t, cnd_f, blk_normal, blk_ret, blk_exit, x_seq, x_region, x_cond, x_block, x_loop, x_ret, x_exit, x_skip, e_mov, e_pick, pk_t, pk_f, withH_some, e_box, bx_some, e_load, e_store, stH_some, e_nil, e_bin, e_eqv, eqH_f, eqH_t, e_un, e_fa, e_ia, ia_eq, nat_eq, natV_nat, e_len, lnH_some, e_extract, ex_0, ex_1, e_call0, e_call1, e_call2, e_call3, pc0_eq, pc1_some, pc2_some, pc3_some, fin_some, g_var0, g_vars, g_loc0, g_locs, g_int, g_bool, g_str, g_sl, s_none, s_zero, s_succ, AV.cl, evFa, evNil, evLoad, asEl, evBin, intBin, strBin, evUn, len_nil, len_slc, len_str, clr, List.length_nil, List.length_cons, List.getElem?_cons_zero, List.getElem?_cons_succ, Nat.reduceAdd, Nat.zero_add, Nat.add_zero, Nat.reduceLeDiff, Nat.reduceSub, ↓reduceIte, List.drop_succ_cons, List.drop_zero, List.take_succ_cons, List.take_zero, Bool.false_eq_true, List.nil_append, List.cons_append, Bool.not_true, Bool.not_false, cond_true, cond_false, bne, lv_ret, lv_normal, res1, res2, lv2_some, res_var, res_cell, lvf_v, lvf_slc]
      obtain ⟨h', hh⟩ := left_loop (K := l.length + 1) (ex := ex) (nn := nn) hm l 0 (IntKind.i64.wrap (m - 1)) [.box [.v (.int .i64 k), .v (.string s), .v (.int .i64 n), .slc 4 ex nn es]] (by omega) (by simpa using hes) hcall
      rw [show ([false, true, false, false, false, true, true, true, false, false] : List Bool) = K46 from rfl, loop_cong (v2 := L46 (.slc 4 ex nn es) es.length ((0 : Nat) : Int) (IntKind.i64.wrap (m - 1))) (by rfl)]
      rcases hh with hh | ⟨vs, hh, hv⟩
      · rw [hh]
        simp only [run_nil, run_cons, stp_plain, stp_guard, put_some, pass_eq, pick_tt, pick_ff, pick_tf, pick_ft, pick_u, reg_some, thn_normal, thn_exit, thn_ret, cnd_t, cnd_f, blk_normal, blk_ret, blk_exit, x_seq, x_region, x_cond, x_block, x_loop, x_ret, x_exit, x_skip, e_mov, e_pick, pk_t, pk_f, withH_some, e_box, bx_some, e_load, e_store, stH_some, e_nil, e_bin, e_eqv, eqH_f, eqH_t, e_un, e_fa, e_ia, ia_eq, nat_eq, natV_nat, e_len, lnH_some, e_extract, ex_0, ex_1, e_call0, e_call1, e_call2, e_call3, pc0_eq, pc1_some, pc2_some, pc3_some, fin_some, g_var0, g_vars, g_loc0, g_locs, g_int, g_bool, g_str, g_sl, s_none, s_zero, s_succ, AV.cl, evFa, evNil, evLoad, asEl, evBin, intBin, strBin, evUn, len_nil, len_slc, len_str, clr, List.length_nil, List.length_cons, List.getElem?_cons_zero, List.getElem?_cons_succ, Nat.reduceAdd, Nat.zero_add, Nat.add_zero, Nat.reduceLeDiff, Nat.reduceSub, ↓reduceIte, List.drop_succ_cons, List.drop_zero, List.take_succ_cons, List.take_zero, Bool.false_eq_true, List.nil_append, List.cons_append, Bool.not_true, Bool.not_false, cond_true, cond_false, bne, lv_ret, lv_normal, res1, res2, lv2_some, res_var, res_cell, lvf_v, lvf_slc]
      · rw [hh]
        simp only [hv, run_nil, run_cons, stp_plain, stp_guard, put_some, pass_eq, pick_tt, pick_ff, pick_tf, pick_ft, pick_u, reg_some, thn_normal, thn_exit, thn_ret, cnd_t, cnd_f, blk_normal, blk_ret, blk_exit, x_seq, x_region, x_cond, x_block, x_loop, x_ret, x_exit, x_skip, e_mov, e_pick, pk_t, pk_f, withH_some, e_box, bx_some, e_load, e_store, stH_some, e_nil, e_bin, e_eqv, eqH_f, eqH_t, e_un, e_fa, e_ia, ia_eq, nat_eq, natV_nat, e_len, lnH_some, e_extract, ex_0, ex_1, e_call0, e_call1, e_call2, e_call3, pc0_eq, pc1_some, pc2_some, pc3_some, fin_some, g_var0, g_vars, g_loc0, g_locs, g_int, g_bool, g_str, g_sl, s_none, s_zero, s_succ, AV.cl, evFa, evNil, evLoad, asEl, evBin, intBin, strBin, evUn, len_nil, len_slc, len_str, clr, List.length_nil, List.length_cons, List.getElem?_cons_zero, List.getElem?_cons_succ, Nat.reduceAdd, Nat.zero_add, Nat.add_zero, Nat.reduceLeDiff, Nat.reduceSub, ↓reduceIte, List.drop_succ_cons, List.drop_zero, List.take_succ_cons, List.take_zero, Bool.false_eq_true, List.nil_append, List.cons_append, Bool.not_true, Bool.not_false, cond_true, cond_false, bne, lv_ret, lv_normal, res1, res2, lv2_some, res_var, res_cell, lvf_v, lvf_slc]
theorem few_ok (t : Tm) (a : AV) (m : Int) (ha : IsT a t) : callW F 13 [a, .v (.int .i64 m)] [] = some (.v (.bool (decide (fewT t m ≥ 0))), []) := by
  refine callW_pure (c := c13) rfl rfl 0 ?_
  have q5 : ∀ h : List AO, a.snap1 h = some a := fun h => ha.snap
  have q8 : ∀ (h : List AO) (x : Int), (AV.v (.int .i64 x)).snap1 h = some (.v (.int .i64 x)) := fun _ _ => rfl
  have hc := left_ok _ t a m (Nat.lt_succ_self _) ha
  cases ha
  simp only [c13, start, List.replicate, c13_0, c13_1, q5, q8, hc, run_nil, run_cons, stp_plain, stp_guard, put_some, pass_eq, pick_tt, pick_ff, pick_tf, pick_ft, pick_u, reg_some, thn_normal, thn_exit, thn_ret, cnd_t, cnd_f, blk_normal, blk_ret, blk_exit, x_seq, x_region, x_cond, x_block, x_loop, x_ret, x_exit, x_skip, e_mov, e_pick, pk_t, pk_f, withH_some, e_box, bx_some, e_load, e_store, stH_some, e_nil, e_bin, e_eqv, eqH_f, eqH_t, e_un, e_fa, e_ia, ia_eq, nat_eq, natV_nat, e_len, lnH_some, e_extract, ex_0, ex_1, e_call0, e_call1, e_call2, e_call3, pc0_eq, pc1_some, pc2_some, pc3_some, fin_some, g_var0, g_vars, g_loc0, g_locs, g_int, g_bool, g_str, g_sl, s_none, s_zero, s_succ, AV.cl, evFa, evNil, evLoad, asEl, evBin, intBin, strBin, evUn, len_nil, len_slc, len_str, clr, List.length_nil, List.length_cons, List.getElem?_cons_zero, List.getElem?_cons_succ, Nat.reduceAdd, Nat.zero_add, Nat.add_zero, Nat.reduceLeDiff, Nat.reduceSub, ↓reduceIte, List.drop_succ_cons, List.drop_zero, List.take_succ_cons, List.take_zero, Bool.false_eq_true, List.nil_append, List.cons_append, Bool.not_true, Bool.not_false, cond_true, cond_false, bne, lv_ret, lv_normal, res1, res2, lv2_some, res_var, res_cell, lvf_v, lvf_slc]
theorem allB_isB : ∀ {es : List AV} {l : List (Int × Tm)}, AllB es l → es.all isB = true
  | _, _, .nil => rfl
  | _, _, .cons a v t es bs h hs => by
    rw [List.all_cons, (allB_isB hs), Bool.and_true]
    cases h with
    | mk v cs t ht => cases ht with | mk k s n c l hc => cases hc <;> rfl
theorem look_call {es : List AV} {bs : List (Int × Tm)} (h : AllB es bs) (hl : es.length ≤ 1000000) (ex nn : Bool) (w : Int) : callW F 19 [.slc 5 ex nn es, .v (.int .i64 w)] [] = some (lookA w es.reverse, []) := by
  refine callW_oracle (g := lookG) rfl ?_
  simp only [lookG, if_pos (And.intro hl (allB_isB h))]
theorem look_call_nil (w : Int) : callW F 19 [.v (.slice none 0 0), .v (.int .i64 w)] [] = some (lookA w [], []) :=
  callW_oracle (g := lookG) rfl rfl
end Go.AE.Ytchiacliefahdaa
end

/-! Functions of this program, walked (as in other programs here). -/
section
set_option linter.unusedVariables false
set_option linter.unusedSimpArgs false
namespace Go.AE.Ytchiacliefahdaa
open Go Go.AE Go.Proofs.Ytchiacliefahdaa

theorem look_rel (n : Int) : ∀ {es : List AV} {bs : List (Int × Tm)}, AllB es bs → (lookT bs n = none ∧ lookA n es = .tup [.agg zeroC, .v (.bool false)]) ∨ ∃ t cs, lookT bs n = some t ∧ lookA n es = .tup [.agg cs, .v (.bool true)] ∧ IsT (.agg cs) t
  | _, _, .nil => .inl ⟨rfl, rfl⟩
  | _, _, .cons a v t es ts h hs => by
    cases h with
    | mk v cs t ht =>
      by_cases hv : v = n
      · exact .inr ⟨t, cs, by simp [lookT, hv], by simp [lookA, hv], ht⟩
      · rcases look_rel n hs with ⟨h1, h2⟩ | ⟨t', cs', h1, h2, h3⟩
        · exact .inl ⟨by simp [lookT, hv, h1], by simp [lookA, hv, h2]⟩
        · exact .inr ⟨t', cs', by simp [lookT, hv, h1], by simp [lookA, hv, h2], h3⟩
/-- a counter in a variable of the caller's -/
structure Ctr (h : List AO) (id off : Nat) (ms : List AV) : Prop where
  lt : id < h.length
  le : off + 1 ≤ ms.length
  bel : h.all (AO.below h.length) = true
  mb : ms.all (AV.below1 h.length) = true
def ctr (h : List AO) (id off : Nat) (ms : List AV) (m : Int) : List AO := h.set id (.box (ms.set off (.v (.int .i64 m))))
section
variable {h : List AO} {id off : Nat} {ms : List AV} {m : Int} {l : List AO}
theorem ctr_len : (ctr h id off ms m).length = h.length := by simp [ctr]
theorem Ctr.load (c : Ctr h id off ms) (m : Int) (l : List AO) : evLoad (ctr h id off ms m ++ l) false 1 (.ptr id off) = some (.v (.int .i64 m)) := by
  have h1 : (ctr h id off ms m ++ l)[id]? = some (.box (ms.set off (.v (.int .i64 m)))) := his_get (set_get c.lt)
  have hlt : off < ms.length := by have := c.le; omega
  have h2 : ((ms.set off (.v (.int .i64 m))).drop off).take 1 = [.v (.int .i64 m)] := by
    rw [List.drop_eq_getElem_cons (by simpa using hlt)]
    simp
  have h3 : off + 1 ≤ (ms.set off (AV.v (.int .i64 m))).length := by simpa using c.le
  simp only [evLoad, h1, if_pos h3, h2, asEl, Bool.false_eq_true, if_false]
theorem Ctr.store (c : Ctr h id off ms) (m n : Int) (l : List AO) : evStore (ctr h id off ms m ++ l) 1 (.ptr id off) (.v (.int .i64 n)) = some (ctr h id off ms n ++ l) := by
  have h1 : (ctr h id off ms m ++ l)[id]? = some (.box (ms.set off (.v (.int .i64 m)))) := his_get (set_get c.lt)
  have h3 : off + 1 ≤ (ms.set off (AV.v (.int .i64 m))).length := by simpa using c.le
  simp only [evStore, h1, cl_int, List.length_cons, List.length_nil, Nat.zero_add, h3, and_self, if_true, putAt]
  rw [his_set (by rw [ctr_len]; exact c.lt)]
  simp [ctr]
theorem Ctr.all (c : Ctr h id off ms) (m : Int) : (ctr h id off ms m).all (AO.below h.length) = true := by
  simp only [List.all_eq_true]
  intro o ho
  rcases List.mem_or_eq_of_mem_set ho with h1 | h1
  · have := c.bel; simp only [List.all_eq_true] at this; exact this o h1
  · subst h1
    simp only [AO.below, List.all_eq_true]
    intro x hx
    rcases List.mem_or_eq_of_mem_set hx with h2 | h2
    · have := c.mb; simp only [List.all_eq_true] at this; exact this x h2
    · subst h2; rfl
theorem c_ld {a : Bool} {sz k o : Nat} : evLoad (ctr h id off ms m ++ l) a sz (.ptr (h.length + k) o) = ldAt l k a sz o := own_ld ctr_len
theorem c_ld0 {a : Bool} {sz o : Nat} : evLoad (ctr h id off ms m ++ l) a sz (.ptr h.length o) = ldAt l 0 a sz o := own_ld0 ctr_len
theorem c_st {sz k o : Nat} {x : AV} : evStore (ctr h id off ms m ++ l) sz (.ptr (h.length + k) o) x = preH (ctr h id off ms m) (stAt l sz k o x) := own_st ctr_len
theorem c_st0 {sz o : Nat} {x : AV} : evStore (ctr h id off ms m ++ l) sz (.ptr h.length o) x = preH (ctr h id off ms m) (stAt l sz 0 o x) := own_st0 ctr_len
theorem c_bx {cs : List AV} : bx (ctr h id off ms m ++ l) (some cs) = some (.ptr (h.length + l.length) 0, ctr h id off ms m ++ (l ++ [.box cs])) := own_bx ctr_len
def K31f : List Bool := [true, false, true, true, true, false, false, false, false, false, false]
def L31f (b : AV) (B id off : Nat) : List AV := [b, .junk, .ptr id off, .ptr B 0, .ptr (B + 1) 0, .junk, .junk, .junk, .junk, .junk, .junk]
theorem snapv (h : List AO) (x : Int) : (AV.v (.int .i64 x)).snap1 h = some (.v (.int .i64 x)) := rfl
theorem ptrs (a b c d : Nat) (e : c = a + b) : AV.ptr c d = AV.ptr (a + b) d := by rw [e]
theorem follow_loop (c : Ctr h id off ms) {K : Nat} {b : AV} {es : List AV} {rs : List (Int × Tm)} (hes : AllB es rs) {b' : AV} (hbs : ∀ (m : Int) (l : List AO), b.snap1 (ctr h id off ms m ++ l) = some b') (hlook : ∀ n, callW F 19 [b', .v (.int .i64 n)] [] = some (lookA n es, [])) :
    ∀ (m : Nat), m ≤ 5000 → ∀ (t : Tm) (cs : List AV), IsT (.agg cs) t → ∀ (tail : List AO) (vars : List AV), clr K31f vars = L31f b h.length id off →
    ∃ rc, IsT (.agg rc) (walkT rs m t).1 ∧
      ((∃ o tl x6 x7 x8 x9 x10, loopN (exec (callW F) K c15_9) K31f (m + 1) vars (ctr h id off ms m ++ (.box cs :: .box zeroC :: tail)) = some (.ret, [b, .junk, .ptr id off, .ptr h.length 0, .ptr (h.length + 1) 0, .v (.int .i64 (walkT rs m t).2.1), x6, x7, x8, x9, x10], ctr h id off ms (walkT rs m t).2.2 ++ (o :: .box rc :: tl))) ∨
       ((walkT rs m t).2.1 = 0 ∧ ∃ tl x6 x7 x8 x9 x10, loopN (exec (callW F) K c15_9) K31f (m + 1) vars (ctr h id off ms m ++ (.box cs :: .box zeroC :: tail)) = some (.exit 0, [b, .junk, .ptr id off, .ptr h.length 0, .ptr (h.length + 1) 0, .junk, x6, x7, x8, x9, x10], ctr h id off ms (walkT rs m t).2.2 ++ (.box rc :: .box zeroC :: tl)))) := by
  have stay : ∀ (m : Nat) (t : Tm), bound rs t = none → walkT rs m t = (t, 0, m) := by
    intro m t hb; cases m <;> simp [walkT, hb]
  have none_case : ∀ (m : Nat) (t : Tm) (cs : List AV), IsT (.agg cs) t → bound rs t = none → ∀ (tail : List AO) (vars : List AV), clr K31f vars = L31f b h.length id off →
      ((∃ o tl x6 x7 x8 x9 x10, loopN (exec (callW F) K c15_9) K31f (m + 1) vars (ctr h id off ms m ++ (.box cs :: .box zeroC :: tail)) = some (.ret, [b, .junk, .ptr id off, .ptr h.length 0, .ptr (h.length + 1) 0, .v (.int .i64 0), x6, x7, x8, x9, x10], ctr h id off ms m ++ (o :: .box cs :: tl))) ∨
       (∃ tl x6 x7 x8 x9 x10, loopN (exec (callW F) K c15_9) K31f (m + 1) vars (ctr h id off ms m ++ (.box cs :: .box zeroC :: tail)) = some (.exit 0, [b, .junk, .ptr id off, .ptr h.length 0, .ptr (h.length + 1) 0, .junk, x6, x7, x8, x9, x10], ctr h id off ms m ++ (.box cs :: .box zeroC :: tl)))) := by
    intro m t cs ht hb tail vars hv
    cases ht with
    | mk k s n c' l' hc =>
    by_cases hk : k = 1
    · left
      have h1 : (k == 1) = true := by simpa using hk
      have hl : lookT rs n = none := by simpa [bound, hk] using hb
      have hla := hlook n
      rcases look_rel n hes with ⟨_, h2⟩ | ⟨t', cs', h2, _⟩
      · rw [h2] at hla
        iterate 7 apply Exists.intro
        apply loop_ret
        rw [hv]
        simp only [L31f, zeroC, c15_9, c15_1, c15_2, c15_3, c15_4, h1, hla, hbs, snapv, q9z, c_ld, c_ld0, c_st, c_st0, c_bx, ldAt, stAt, preH_some, List.append_assoc, e_bslice1, e_bslice2, bs1, bs2, e_build, bdH_some, bd_nil, bd_cons, bd1, cl_agg, cl_int, toL, List.map_cons, List.map_nil, putAt, List.set_cons_zero, List.set_cons_succ, and_self, Nat.le_refl, app_get, app_set, g_agg, run_nil, run_cons, stp_plain, stp_guard, put_some, pass_eq, pick_tt, pick_ff, pick_tf, pick_ft, pick_u, reg_some, thn_normal, thn_exit, thn_ret, cnd_t, cnd_f, blk_normal, blk_ret, blk_exit, x_seq, x_region, x_cond, x_block, x_loop, x_ret, x_exit, x_skip, e_mov, e_pick, pk_t, pk_f, withH_some, e_box, e_load, e_store, stH_some, e_nil, e_bin, e_eqv, eqH_f, eqH_t, e_un, e_fa, e_ia, ia_eq, nat_eq, natV_nat, e_len, lnH_some, e_extract, ex_0, ex_1, e_call0, e_call1, e_call2, e_call3, pc0_eq, pc1_some, pc2_some, pc3_some, fin_some, g_var0, g_vars, g_loc0, g_locs, g_int, g_bool, g_str, g_sl, s_none, s_zero, s_succ, cl_nil, cl_str, cl_bool, cl_slc, cl_own, evFa, evNil, asEl, evBin, intBin, strBin, evUn, len_nil, len_slc, len_str, clr, List.length_nil, List.length_cons, List.getElem?_cons_zero, List.getElem?_cons_succ, Nat.reduceAdd, Nat.zero_add, Nat.add_zero, Nat.reduceLeDiff, Nat.reduceSub, ↓reduceIte, List.drop_succ_cons, List.drop_zero, List.take_succ_cons, List.take_zero, Bool.false_eq_true, List.nil_append, List.cons_append, Bool.not_true, Bool.not_false, cond_true, cond_false, bne, lv_ret, lv_normal, res1, res2, lv2_some, res_var, res_cell, lvf_v, lvf_slc, res1c, lvo1_some, e_mm, mm_max, mm_min]
        rfl
      · rw [hl] at h2; cases h2
    · right
      have h1 : (k == 1) = false := by simpa using hk
      iterate 6 apply Exists.intro
      apply loop_exit
      rw [hv]
      simp only [L31f, zeroC, c15_9, c15_1, h1, c_ld, c_ld0, c_st, c_st0, c_bx, ldAt, stAt, preH_some, List.append_assoc, e_bslice1, e_bslice2, bs1, bs2, e_build, bdH_some, bd_nil, bd_cons, bd1, cl_agg, cl_int, toL, List.map_cons, List.map_nil, putAt, List.set_cons_zero, List.set_cons_succ, and_self, Nat.le_refl, app_get, app_set, g_agg, run_nil, run_cons, stp_plain, stp_guard, put_some, pass_eq, pick_tt, pick_ff, pick_tf, pick_ft, pick_u, reg_some, thn_normal, thn_exit, thn_ret, cnd_t, cnd_f, blk_normal, blk_ret, blk_exit, x_seq, x_region, x_cond, x_block, x_loop, x_ret, x_exit, x_skip, e_mov, e_pick, pk_t, pk_f, withH_some, e_box, e_load, e_store, stH_some, e_nil, e_bin, e_eqv, eqH_f, eqH_t, e_un, e_fa, e_ia, ia_eq, nat_eq, natV_nat, e_len, lnH_some, e_extract, ex_0, ex_1, e_call0, e_call1, e_call2, e_call3, pc0_eq, pc1_some, pc2_some, pc3_some, fin_some, g_var0, g_vars, g_loc0, g_locs, g_int, g_bool, g_str, g_sl, s_none, s_zero, s_succ, cl_nil, cl_str, cl_bool, cl_slc, cl_own, evFa, evNil, asEl, evBin, intBin, strBin, evUn, len_nil, len_slc, len_str, clr, List.length_nil, List.length_cons, List.getElem?_cons_zero, List.getElem?_cons_succ, Nat.reduceAdd, Nat.zero_add, Nat.add_zero, Nat.reduceLeDiff, Nat.reduceSub, ↓reduceIte, List.drop_succ_cons, List.drop_zero, List.take_succ_cons, List.take_zero, Bool.false_eq_true, List.nil_append, List.cons_append, Bool.not_true, Bool.not_false, cond_true, cond_false, bne, lv_ret, lv_normal, res1, res2, lv2_some, res_var, res_cell, lvf_v, lvf_slc, res1c, lvo1_some, e_mm, mm_max, mm_min]
      rfl
  have some_case : ∀ (t : Tm) (cs : List AV), IsT (.agg cs) t → ∀ t', bound rs t = some t' → ∃ s n c cs', cs = [.v (.int .i64 1), .v (.string s), .v (.int .i64 n), c] ∧ IsT (.agg cs') t' ∧ callW F 19 [b', .v (.int .i64 n)] [] = some (.tup [.agg cs', .v (.bool true)], []) := by
    intro t cs ht t' hb
    cases ht with
    | mk k s n c' l' hc =>
    by_cases hk : k = 1
    · subst hk
      rcases look_rel n hes with ⟨h2, _⟩ | ⟨t2, cs', h2, h3, h4⟩
      · simp [bound, h2] at hb
      · simp [bound, h2] at hb
        subst hb
        exact ⟨s, n, c', cs', rfl, h4, by rw [hlook n, h3]⟩
    · simp [bound, hk] at hb
  intro m
  induction m with
  | zero =>
    intro _ t cs ht tail vars hv
    cases hb : bound rs t with
    | none =>
      rw [stay 0 t hb]
      refine ⟨cs, ht, ?_⟩
      rcases none_case 0 t cs ht hb tail vars hv with h1 | h1
      · exact .inl h1
      · exact .inr ⟨rfl, h1⟩
    | some t' =>
      obtain ⟨s, n, c', cs', rfl, ht', hla⟩ := some_case t cs ht t' hb
      cases ht' with
      | mk k2 s2 n2 c2 l2 hc2 =>
      have h0 : (((0 : Nat) : Int) == 0) = true := rfl
      have h1 : ((1 : Int) == 1) = true := rfl
      refine ⟨zeroC, by simpa [walkT, hb] using isT_zero, .inl ?_⟩
      simp only [walkT, hb]
      iterate 7 apply Exists.intro
      apply loop_ret
      rw [hv]
      simp only [L31f, zeroC, c15_9, c15_1, c15_2, c15_3, c15_5, c15_6, h0, h1, hla, hbs, snapv, q9z, c.load, c_ld, c_ld0, c_st, c_st0, c_bx, evNil, ldAt, stAt, preH_some, List.append_assoc, e_bslice1, e_bslice2, bs1, bs2, e_build, bdH_some, bd_nil, bd_cons, bd1, cl_agg, cl_int, toL, List.map_cons, List.map_nil, putAt, List.set_cons_zero, List.set_cons_succ, and_self, Nat.le_refl, app_get, app_set, g_agg, run_nil, run_cons, stp_plain, stp_guard, put_some, pass_eq, pick_tt, pick_ff, pick_tf, pick_ft, pick_u, reg_some, thn_normal, thn_exit, thn_ret, cnd_t, cnd_f, blk_normal, blk_ret, blk_exit, x_seq, x_region, x_cond, x_block, x_loop, x_ret, x_exit, x_skip, e_mov, e_pick, pk_t, pk_f, withH_some, e_box, e_load, e_store, stH_some, e_nil, e_bin, e_eqv, eqH_f, eqH_t, e_un, e_fa, e_ia, ia_eq, nat_eq, natV_nat, e_len, lnH_some, e_extract, ex_0, ex_1, e_call0, e_call1, e_call2, e_call3, pc0_eq, pc1_some, pc2_some, pc3_some, fin_some, g_var0, g_vars, g_loc0, g_locs, g_int, g_bool, g_str, g_sl, s_none, s_zero, s_succ, cl_nil, cl_str, cl_bool, cl_slc, cl_own, evFa, evNil, asEl, evBin, intBin, strBin, evUn, len_nil, len_slc, len_str, clr, List.length_nil, List.length_cons, List.getElem?_cons_zero, List.getElem?_cons_succ, Nat.reduceAdd, Nat.zero_add, Nat.add_zero, Nat.reduceLeDiff, Nat.reduceSub, ↓reduceIte, List.drop_succ_cons, List.drop_zero, List.take_succ_cons, List.take_zero, Bool.false_eq_true, List.nil_append, List.cons_append, Bool.not_true, Bool.not_false, cond_true, cond_false, bne, lv_ret, lv_normal, res1, res2, lv2_some, res_var, res_cell, lvf_v, lvf_slc, res1c, lvo1_some, e_mm, mm_max, mm_min]
      rfl
  | succ m ih =>
    intro hm t cs ht tail vars hv
    cases hb : bound rs t with
    | none =>
      rw [stay (m + 1) t hb]
      refine ⟨cs, ht, ?_⟩
      rcases none_case (m + 1) t cs ht hb tail vars hv with h1 | h1
      · exact .inl h1
      · exact .inr ⟨rfl, h1⟩
    | some t' =>
      obtain ⟨s, n, c', cs', rfl, ht', hla⟩ := some_case t cs ht t' hb
      have ht2 := ht'
      have hwalk : walkT rs (m + 1) t = walkT rs m t' := by simp [walkT, hb]
      rw [hwalk]
      cases ht' with
      | mk k2 s2 n2 c2 l2 hc2 =>
      have h0 : (((m + 1 : Nat) : Int) == 0) = false := by simp; omega
      have h1 : ((1 : Int) == 1) = true := rfl
      have hw : IntKind.i64.wrap (((m + 1 : Nat) : Int) - 1) = (m : Int) := by rw [wrap_ok (by omega) (by omega)]; omega
      have st : exec (callW F) K c15_9 (L31f b h.length id off) (ctr h id off ms ((m + 1 : Nat) : Int) ++ (.box [.v (.int .i64 1), .v (.string s), .v (.int .i64 n), c'] :: .box zeroC :: tail)) = some (.normal, [b, .junk, .ptr id off, .ptr h.length 0, .ptr (h.length + 1) 0, .junk, .ptr (h.length + (tail.length + 1 + 1)) 0, .v (.bool true), .v (.bool true), .v (.bool false), .v (.bool false)], ctr h id off ms m ++ (.box [.v (.int .i64 k2), .v (.string s2), .v (.int .i64 n2), c2] :: .box zeroC :: (tail ++ [.box [.v (.int .i64 k2), .v (.string s2), .v (.int .i64 n2), c2]]))) := by
        simp only [L31f, zeroC, c15_9, c15_1, c15_2, c15_3, c15_5, c15_7, c15_8, h0, h1, hw, hla, hbs, snapv, q9z, c.load, c.store, c_ld, c_ld0, c_st, c_st0, c_bx, evNil, ldAt, stAt, preH_some, List.append_assoc, e_bslice1, e_bslice2, bs1, bs2, e_build, bdH_some, bd_nil, bd_cons, bd1, cl_agg, cl_int, toL, List.map_cons, List.map_nil, putAt, List.set_cons_zero, List.set_cons_succ, and_self, Nat.le_refl, app_get, app_set, g_agg, run_nil, run_cons, stp_plain, stp_guard, put_some, pass_eq, pick_tt, pick_ff, pick_tf, pick_ft, pick_u, reg_some, thn_normal, thn_exit, thn_ret, cnd_t, cnd_f, blk_normal, blk_ret, blk_exit, x_seq, x_region, x_cond, x_block, x_loop, x_ret, x_exit, x_skip, e_mov, e_pick, pk_t, pk_f, withH_some, e_box, e_load, e_store, stH_some, e_nil, e_bin, e_eqv, eqH_f, eqH_t, e_un, e_fa, e_ia, ia_eq, nat_eq, natV_nat, e_len, lnH_some, e_extract, ex_0, ex_1, e_call0, e_call1, e_call2, e_call3, pc0_eq, pc1_some, pc2_some, pc3_some, fin_some, g_var0, g_vars, g_loc0, g_locs, g_int, g_bool, g_str, g_sl, s_none, s_zero, s_succ, cl_nil, cl_str, cl_bool, cl_slc, cl_own, evFa, evNil, asEl, evBin, intBin, strBin, evUn, len_nil, len_slc, len_str, clr, List.length_nil, List.length_cons, List.getElem?_cons_zero, List.getElem?_cons_succ, Nat.reduceAdd, Nat.zero_add, Nat.add_zero, Nat.reduceLeDiff, Nat.reduceSub, ↓reduceIte, List.drop_succ_cons, List.drop_zero, List.take_succ_cons, List.take_zero, Bool.false_eq_true, List.nil_append, List.cons_append, Bool.not_true, Bool.not_false, cond_true, cond_false, bne, lv_ret, lv_normal, res1, res2, lv2_some, res_var, res_cell, lvf_v, lvf_slc, res1c, lvo1_some, e_mm, mm_max, mm_min]
      rw [loop_normal (by rw [hv]; exact st)]
      exact ih (by omega) _ _ ht2 _ _ rfl
/-- Follow, with a counter of the caller's -/
theorem follow_ok (c : Ctr h id off ms) {b a : AV} {es : List AV} {rs : List (Int × Tm)} (hes : AllB es rs) {b' : AV} (hbs : ∀ (m : Int) (l : List AO), b.snap1 (ctr h id off ms m ++ l) = some b') (hlook : ∀ n, callW F 19 [b', .v (.int .i64 n)] [] = some (lookA n es, []))
    (m : Nat) (hm : m ≤ 5000) {t : Tm} (ht : IsT a t) : ∃ rc, IsT (.agg rc) (walkT rs m t).1 ∧ callW F 15 [b, a, .ptr id off] (ctr h id off ms m) = some (.tup [.agg rc, .v (.int .i64 (walkT rs m t).2.1)], ctr h id off ms (walkT rs m t).2.2) := by
  obtain ⟨cs, rfl⟩ : ∃ cs, a = .agg cs := by cases ht; exact ⟨_, rfl⟩
  obtain ⟨rc, hrc, hl⟩ := follow_loop (K := 5001) c hes hbs hlook m hm t cs ht [] (L31f b h.length id off) rfl
  refine ⟨rc, hrc, ?_⟩
  have hres : c15.res = [.cell 4 true 4, .var 5] := rfl
  have body : exec (callW F) 5001 c15.body (start c15 [b, .agg cs, .ptr id off]) (ctr h id off ms m ++ []) = thn (callW F) 5001 (.seq (.region [] [] c15_10) .ret) (blk 0 (loopN (exec (callW F) 5001 c15_9) K31f 5001 (L31f b h.length id off) (ctr h id off ms m ++ (.box cs :: .box zeroC :: [])))) := by
    show exec (callW F) 5001 (.seq (.region [] [] c15_0) (.seq (.block 0 (.loop K31f [] c15_9)) (.seq (.region [] [] c15_10) .ret))) _ _ = _
    generalize (CC.seq (.region [] [] c15_10) .ret) = rest
    simp only [c15, start, zeroC, List.replicate, c15_0, q9z, c_bx, preH_some, List.append_assoc, e_bslice1, e_bslice2, bs1, bs2, e_build, bdH_some, bd_nil, bd_cons, bd1, cl_agg, cl_int, toL, List.map_cons, List.map_nil, putAt, List.set_cons_zero, List.set_cons_succ, and_self, Nat.le_refl, app_get, app_set, g_agg, run_nil, run_cons, stp_plain, stp_guard, put_some, pass_eq, pick_tt, pick_ff, pick_tf, pick_ft, pick_u, reg_some, thn_normal, thn_exit, thn_ret, cnd_t, cnd_f, blk_normal, blk_ret, blk_exit, x_seq, x_region, x_cond, x_block, x_loop, x_ret, x_exit, x_skip, e_mov, e_pick, pk_t, pk_f, withH_some, e_box, e_load, e_store, stH_some, e_nil, e_bin, e_eqv, eqH_f, eqH_t, e_un, e_fa, e_ia, ia_eq, nat_eq, natV_nat, e_len, lnH_some, e_extract, ex_0, ex_1, e_call0, e_call1, e_call2, e_call3, pc0_eq, pc1_some, pc2_some, pc3_some, fin_some, g_var0, g_vars, g_loc0, g_locs, g_int, g_bool, g_str, g_sl, s_none, s_zero, s_succ, cl_nil, cl_str, cl_bool, cl_slc, cl_own, evFa, evNil, asEl, evBin, intBin, strBin, evUn, len_nil, len_slc, len_str, clr, List.length_nil, List.length_cons, List.getElem?_cons_zero, List.getElem?_cons_succ, Nat.reduceAdd, Nat.zero_add, Nat.add_zero, Nat.reduceLeDiff, Nat.reduceSub, ↓reduceIte, List.drop_succ_cons, List.drop_zero, List.take_succ_cons, List.take_zero, Bool.false_eq_true, List.nil_append, List.cons_append, Bool.not_true, Bool.not_false, cond_true, cond_false, bne, lv_ret, lv_normal, res1, res2, lv2_some, res_var, res_cell, lvf_v, lvf_slc, res1c, lvo1_some, e_mm, mm_max, mm_min]
    rw [loop_cong (v2 := L31f b h.length id off) (by rfl)]
  refine callW_own (c := c15) rfl rfl 5001 ?_
  rw [body, ctr_len]
  rcases hl with ⟨o, tl, x6, x7, x8, x9, x10, h1⟩ | ⟨h0, tl, x6, x7, x8, x9, x10, h1⟩
  · rw [loop_more h1 (by omega)]
    generalize walkT rs m t = w at hrc ⊢
    obtain ⟨w1, w2, w3⟩ := w
    simp only [blk_ret, thn_ret]
    rw [leave_own ctr_len (c.all _), hres, own_res2 (x := .agg rc) (y := .v (.int .i64 w2)) _ _]
    · exact lvo_two (hrc.frz _ _) rfl
    · cases hrc; simp only [res_cell, c_ld, ldAt, e_bslice1, e_bslice2, bs1, bs2, e_build, bdH_some, bd_nil, bd_cons, bd1, cl_agg, cl_int, toL, List.map_cons, List.map_nil, putAt, List.set_cons_zero, List.set_cons_succ, and_self, Nat.le_refl, app_get, app_set, g_agg, run_nil, run_cons, stp_plain, stp_guard, put_some, pass_eq, pick_tt, pick_ff, pick_tf, pick_ft, pick_u, reg_some, thn_normal, thn_exit, thn_ret, cnd_t, cnd_f, blk_normal, blk_ret, blk_exit, x_seq, x_region, x_cond, x_block, x_loop, x_ret, x_exit, x_skip, e_mov, e_pick, pk_t, pk_f, withH_some, e_box, e_load, e_store, stH_some, e_nil, e_bin, e_eqv, eqH_f, eqH_t, e_un, e_fa, e_ia, ia_eq, nat_eq, natV_nat, e_len, lnH_some, e_extract, ex_0, ex_1, e_call0, e_call1, e_call2, e_call3, pc0_eq, pc1_some, pc2_some, pc3_some, fin_some, g_var0, g_vars, g_loc0, g_locs, g_int, g_bool, g_str, g_sl, s_none, s_zero, s_succ, cl_nil, cl_str, cl_bool, cl_slc, cl_own, evFa, evNil, asEl, evBin, intBin, strBin, evUn, len_nil, len_slc, len_str, clr, List.length_nil, List.length_cons, List.getElem?_cons_zero, List.getElem?_cons_succ, Nat.reduceAdd, Nat.zero_add, Nat.add_zero, Nat.reduceLeDiff, Nat.reduceSub, ↓reduceIte, List.drop_succ_cons, List.drop_zero, List.take_succ_cons, List.take_zero, Bool.false_eq_true, List.nil_append, List.cons_append, Bool.not_true, Bool.not_false, cond_true, cond_false, bne, lv_ret, lv_normal, res1, res2, lv2_some, res_var, res_cell, lvf_v, lvf_slc, res1c, lvo1_some, e_mm, mm_max, mm_min]
    · rfl
  · rw [loop_more h1 (by omega)]
    rw [h0]
    generalize walkT rs m t = w at hrc ⊢
    obtain ⟨w1, w2, w3⟩ := w
    cases hrc
    simp only [blk_exit, thn_normal, zeroC, c15_10, c_ld, c_ld0, c_st, c_st0, ldAt, stAt, preH_some, List.append_assoc, e_bslice1, e_bslice2, bs1, bs2, e_build, bdH_some, bd_nil, bd_cons, bd1, cl_agg, cl_int, toL, List.map_cons, List.map_nil, putAt, List.set_cons_zero, List.set_cons_succ, and_self, Nat.le_refl, app_get, app_set, g_agg, run_nil, run_cons, stp_plain, stp_guard, put_some, pass_eq, pick_tt, pick_ff, pick_tf, pick_ft, pick_u, reg_some, thn_normal, thn_exit, thn_ret, cnd_t, cnd_f, blk_normal, blk_ret, blk_exit, x_seq, x_region, x_cond, x_block, x_loop, x_ret, x_exit, x_skip, e_mov, e_pick, pk_t, pk_f, withH_some, e_box, e_load, e_store, stH_some, e_nil, e_bin, e_eqv, eqH_f, eqH_t, e_un, e_fa, e_ia, ia_eq, nat_eq, natV_nat, e_len, lnH_some, e_extract, ex_0, ex_1, e_call0, e_call1, e_call2, e_call3, pc0_eq, pc1_some, pc2_some, pc3_some, fin_some, g_var0, g_vars, g_loc0, g_locs, g_int, g_bool, g_str, g_sl, s_none, s_zero, s_succ, cl_nil, cl_str, cl_bool, cl_slc, cl_own, evFa, evNil, asEl, evBin, intBin, strBin, evUn, len_nil, len_slc, len_str, clr, List.length_nil, List.length_cons, List.getElem?_cons_zero, List.getElem?_cons_succ, Nat.reduceAdd, Nat.zero_add, Nat.add_zero, Nat.reduceLeDiff, Nat.reduceSub, ↓reduceIte, List.drop_succ_cons, List.drop_zero, List.take_succ_cons, List.take_zero, Bool.false_eq_true, List.nil_append, List.cons_append, Bool.not_true, Bool.not_false, cond_true, cond_false, bne, lv_ret, lv_normal, res1, res2, lv2_some, res_var, res_cell, lvf_v, lvf_slc, res1c, lvo1_some, e_mm, mm_max, mm_min]
    rw [leave_own ctr_len (c.all _), hres, own_res2 (x := .agg _) (y := .v (.int .i64 0)) _ _]
    · exact lvo_two (IsT.frz (.mk _ _ _ _ _ (by assumption)) _ _) rfl
    · simp only [res_cell, c_ld, ldAt, e_bslice1, e_bslice2, bs1, bs2, e_build, bdH_some, bd_nil, bd_cons, bd1, cl_agg, cl_int, toL, List.map_cons, List.map_nil, putAt, List.set_cons_zero, List.set_cons_succ, and_self, Nat.le_refl, app_get, app_set, g_agg, run_nil, run_cons, stp_plain, stp_guard, put_some, pass_eq, pick_tt, pick_ff, pick_tf, pick_ft, pick_u, reg_some, thn_normal, thn_exit, thn_ret, cnd_t, cnd_f, blk_normal, blk_ret, blk_exit, x_seq, x_region, x_cond, x_block, x_loop, x_ret, x_exit, x_skip, e_mov, e_pick, pk_t, pk_f, withH_some, e_box, e_load, e_store, stH_some, e_nil, e_bin, e_eqv, eqH_f, eqH_t, e_un, e_fa, e_ia, ia_eq, nat_eq, natV_nat, e_len, lnH_some, e_extract, ex_0, ex_1, e_call0, e_call1, e_call2, e_call3, pc0_eq, pc1_some, pc2_some, pc3_some, fin_some, g_var0, g_vars, g_loc0, g_locs, g_int, g_bool, g_str, g_sl, s_none, s_zero, s_succ, cl_nil, cl_str, cl_bool, cl_slc, cl_own, evFa, evNil, asEl, evBin, intBin, strBin, evUn, len_nil, len_slc, len_str, clr, List.length_nil, List.length_cons, List.getElem?_cons_zero, List.getElem?_cons_succ, Nat.reduceAdd, Nat.zero_add, Nat.add_zero, Nat.reduceLeDiff, Nat.reduceSub, ↓reduceIte, List.drop_succ_cons, List.drop_zero, List.take_succ_cons, List.take_zero, Bool.false_eq_true, List.nil_append, List.cons_append, Bool.not_true, Bool.not_false, cond_true, cond_false, bne, lv_ret, lv_normal, res1, res2, lv2_some, res_var, res_cell, lvf_v, lvf_slc, res1c, lvo1_some, e_mm, mm_max, mm_min]
    · rfl
end
end Go.AE.Ytchiacliefahdaa
end

/-! Keep, with all that it calls. -/
section
set_option linter.unusedVariables false
set_option linter.unusedSimpArgs false
namespace Go.AE.Ytchiacliefahdaa
open Go Go.AE Go.Proofs.Ytchiacliefahdaa

/-- what one sees of a term -/
def outV (k : Int) (len : Nat) (s : ByteArray) (n : Int) : AV := .agg [.v (.int .i64 k), .v (.int .i64 len), .v (.string s), .v (.int .i64 n)]
theorem of_ok {a : AV} {k n : Int} {s : ByteArray} {l : List Tm} (ha : IsT a (.mk k s n l)) : callW F 23 [a] [] = some (outV k l.length s n, []) := by
  refine callW_pp (c := c23) (vs := [a]) rfl (by simp [ha.snap]) rfl 0 ?_
  cases ha with
  | mk _ _ _ c _ hc =>
    have e1 := hc.len
    have z : (ofVal (.agg #[.int .i64 0, .int .i64 0, .string ⟨#[]⟩, .int .i64 0])).cl = some [.v (.int .i64 0), .v (.int .i64 0), .v (.string ⟨#[]⟩), .v (.int .i64 0)] := by kernel_rfl
    have l0 : ∀ x h, evLoad (.box [.v (.int .i64 k), .v (.string s), .v (.int .i64 n), c] :: h) false 1 (.ptr 0 x) = (match x with | 0 => some (.v (.int .i64 k)) | 1 => some (.v (.string s)) | 2 => some (.v (.int .i64 n)) | 3 => some c | _ => none) := by
      intro x h
      match x with
      | 0 => rfl
      | 1 => rfl
      | 2 => rfl
      | 3 => rfl
      | x + 4 => simp [evLoad]
    have s1 : ∀ (b : AO), evStore [b, .box [.v (.int .i64 0), .v (.int .i64 0), .v (.string ⟨#[]⟩), .v (.int .i64 0)]] 4 (.ptr 1 0) (outV k l.length s n) = some [b, .box [.v (.int .i64 k), .v (.int .i64 l.length), .v (.string s), .v (.int .i64 n)]] := fun _ => rfl
    have l1 : ∀ (b : AO), evLoad [b, .box [.v (.int .i64 k), .v (.int .i64 l.length), .v (.string s), .v (.int .i64 n)]] true 4 (.ptr 1 0) = some (outV k l.length s n) := fun _ => rfl
    have f1 : ∀ h, lvf h (outV k l.length s n) = some (outV k l.length s n, []) := fun _ => rfl
    simp only [outV] at s1 l1 f1 ⊢
    simp only [c23, start, List.replicate, c23_0, c23_1, z, l0, e1, s1, l1, f1, e_build, bdH_some, bd_nil, bd_cons, bd1, cl_agg, cl_int, toL, List.map_cons, List.map_nil, putAt, List.set_cons_zero, List.set_cons_succ, and_self, Nat.le_refl, g_agg, run_nil, run_cons, stp_plain, stp_guard, put_some, pass_eq, pick_tt, pick_ff, pick_tf, pick_ft, pick_u, reg_some, thn_normal, thn_exit, thn_ret, cnd_t, cnd_f, blk_normal, blk_ret, blk_exit, x_seq, x_region, x_cond, x_block, x_loop, x_ret, x_exit, x_skip, e_mov, e_pick, pk_t, pk_f, withH_some, e_box, bx_some, e_load, e_store, stH_some, e_nil, e_bin, e_eqv, eqH_f, eqH_t, e_un, e_fa, e_ia, ia_eq, nat_eq, natV_nat, e_len, lnH_some, e_extract, ex_0, ex_1, e_call0, e_call1, e_call2, e_call3, pc0_eq, pc1_some, pc2_some, pc3_some, fin_some, g_var0, g_vars, g_loc0, g_locs, g_int, g_bool, g_str, g_sl, s_none, s_zero, s_succ, cl_nil, cl_str, cl_bool, cl_slc, cl_own, evFa, evNil, asEl, evBin, intBin, strBin, evUn, len_nil, len_slc, len_str, clr, List.length_nil, List.length_cons, List.getElem?_cons_zero, List.getElem?_cons_succ, Nat.reduceAdd, Nat.zero_add, Nat.add_zero, Nat.reduceLeDiff, Nat.reduceSub, ↓reduceIte, List.drop_succ_cons, List.drop_zero, List.take_succ_cons, List.take_zero, Bool.false_eq_true, List.nil_append, List.cons_append, Bool.not_true, Bool.not_false, cond_true, cond_false, bne, lv_ret, lv_normal, res1, res2, lv2_some, res_var, res_cell, lvf_v, lvf_slc, res1c, lvo1_some, e_mm, mm_max, mm_min]

def clashT : Tm → Tm → Bool
  | .mk k s n l, .mk k' s' n' l' => (k != 1) && ((k' != 1) && !(k == k' && ((l.length : Int) == (l'.length : Int) && (s.toList == s'.toList && (n == n' && true)))))
theorem clash_ok {a b : AV} {t t' : Tm} (ha : IsT a t) (hb : IsT b t') : callW F 21 [a, b] [] = some (.v (.bool (clashT t t')), []) := by
  refine callW_pp (c := c21) (vs := [a, b]) rfl (by simp [ha.snap, hb.snap]) rfl 0 ?_
  have sa := fun h : List AO => ha.snap (h := h)
  have sb := fun h : List AO => hb.snap (h := h)
  obtain ⟨k, s, n, l⟩ := t
  obtain ⟨k', s', n', l'⟩ := t'
  have oa := of_ok ha
  have ob := of_ok hb
  cases ha with
  | mk _ _ _ c _ hc =>
  cases hb with
  | mk _ _ _ c' _ hc' =>
    have l0 : evLoad [.box [.v (.int .i64 k), .v (.string s), .v (.int .i64 n), c], .box [.v (.int .i64 k'), .v (.string s'), .v (.int .i64 n'), c']] false 1 (.ptr 0 0) = some (.v (.int .i64 k)) := rfl
    have l1 : evLoad [.box [.v (.int .i64 k), .v (.string s), .v (.int .i64 n), c], .box [.v (.int .i64 k'), .v (.string s'), .v (.int .i64 n'), c']] false 1 (.ptr 1 0) = some (.v (.int .i64 k')) := rfl
    have l2 : evLoad [.box [.v (.int .i64 k), .v (.string s), .v (.int .i64 n), c], .box [.v (.int .i64 k'), .v (.string s'), .v (.int .i64 n'), c']] true 4 (.ptr 0 0) = some (.agg [.v (.int .i64 k), .v (.string s), .v (.int .i64 n), c]) := rfl
    have l3 : evLoad [.box [.v (.int .i64 k), .v (.string s), .v (.int .i64 n), c], .box [.v (.int .i64 k'), .v (.string s'), .v (.int .i64 n'), c']] true 4 (.ptr 1 0) = some (.agg [.v (.int .i64 k'), .v (.string s'), .v (.int .i64 n'), c']) := rfl
    have e1 : ∀ h, eqNil h (.flat [.i, .i, .s, .i]) (outV k l.length s n) (outV k' l'.length s' n') = some (k == k' && ((l.length : Int) == (l'.length : Int) && (s.toList == s'.toList && (n == n' && true)))) := fun h => by
      simp [eqNil, outV, flatEq]
    cases h1 : (k != 1) with
    | false =>
      simp only [bne] at h1
      simp only [clashT, bne, h1, Bool.false_and, c21, start, List.replicate, c21_0, c21_1, l0, run_nil, run_cons, stp_plain, stp_guard, put_some, pass_eq, pick_tt, pick_ff, pick_tf, pick_ft, pick_u, reg_some, thn_normal, thn_exit, thn_ret, cnd_t, cnd_f, blk_normal, blk_ret, blk_exit, x_seq, x_region, x_cond, x_block, x_loop, x_ret, x_exit, x_skip, e_mov, e_pick, pk_t, pk_f, withH_some, e_box, e_load, e_store, stH_some, e_nil, e_bin, e_eqv, eqH_f, eqH_t, e_un, e_fa, e_ia, ia_eq, nat_eq, natV_nat, e_len, lnH_some, e_extract, ex_0, ex_1, e_call0, e_call1, e_call2, e_call3, pc0_eq, pc1_some, pc2_some, pc3_some, fin_some, g_var0, g_vars, g_loc0, g_locs, g_int, g_bool, g_str, g_sl, s_none, s_zero, s_succ, cl_nil, cl_str, cl_bool, cl_slc, cl_own, evFa, evNil, asEl, evBin, intBin, strBin, evUn, len_nil, len_slc, len_str, clr, List.length_nil, List.length_cons, List.getElem?_cons_zero, List.getElem?_cons_succ, Nat.reduceAdd, Nat.zero_add, Nat.add_zero, Nat.reduceLeDiff, Nat.reduceSub, ↓reduceIte, List.drop_succ_cons, List.drop_zero, List.take_succ_cons, List.take_zero, Bool.false_eq_true, List.nil_append, List.cons_append, Bool.not_true, Bool.not_false, cond_true, cond_false, bne, lv_ret, lv_normal, res1, res2, lv2_some, res_var, res_cell, lvf_v, lvf_slc, res1c, lvo1_some, e_mm, mm_max, mm_min, cl_agg, cl_int, g_agg, e_callv1, cv1_fn, e_slice2, e_clrrow, e_callf2, pick_und, cells_agg, Option.map_some, Option.map_none, bx_some]
    | true =>
      cases h2 : (k' != 1) with
      | false =>
        simp only [bne] at h1 h2
        simp only [clashT, bne, h1, h2, Bool.false_and, Bool.true_and, c21, start, List.replicate, c21_0, c21_1, l0, l1, run_nil, run_cons, stp_plain, stp_guard, put_some, pass_eq, pick_tt, pick_ff, pick_tf, pick_ft, pick_u, reg_some, thn_normal, thn_exit, thn_ret, cnd_t, cnd_f, blk_normal, blk_ret, blk_exit, x_seq, x_region, x_cond, x_block, x_loop, x_ret, x_exit, x_skip, e_mov, e_pick, pk_t, pk_f, withH_some, e_box, e_load, e_store, stH_some, e_nil, e_bin, e_eqv, eqH_f, eqH_t, e_un, e_fa, e_ia, ia_eq, nat_eq, natV_nat, e_len, lnH_some, e_extract, ex_0, ex_1, e_call0, e_call1, e_call2, e_call3, pc0_eq, pc1_some, pc2_some, pc3_some, fin_some, g_var0, g_vars, g_loc0, g_locs, g_int, g_bool, g_str, g_sl, s_none, s_zero, s_succ, cl_nil, cl_str, cl_bool, cl_slc, cl_own, evFa, evNil, asEl, evBin, intBin, strBin, evUn, len_nil, len_slc, len_str, clr, List.length_nil, List.length_cons, List.getElem?_cons_zero, List.getElem?_cons_succ, Nat.reduceAdd, Nat.zero_add, Nat.add_zero, Nat.reduceLeDiff, Nat.reduceSub, ↓reduceIte, List.drop_succ_cons, List.drop_zero, List.take_succ_cons, List.take_zero, Bool.false_eq_true, List.nil_append, List.cons_append, Bool.not_true, Bool.not_false, cond_true, cond_false, bne, lv_ret, lv_normal, res1, res2, lv2_some, res_var, res_cell, lvf_v, lvf_slc, res1c, lvo1_some, e_mm, mm_max, mm_min, cl_agg, cl_int, g_agg, e_callv1, cv1_fn, e_slice2, e_clrrow, e_callf2, pick_und, cells_agg, Option.map_some, Option.map_none, bx_some]
      | true =>
        simp only [bne] at h1 h2
        simp only [clashT, bne, h1, h2, Bool.false_and, Bool.true_and, c21, start, List.replicate, c21_0, c21_1, l0, l1, l2, l3, sa, sb, oa, ob, e1, run_nil, run_cons, stp_plain, stp_guard, put_some, pass_eq, pick_tt, pick_ff, pick_tf, pick_ft, pick_u, reg_some, thn_normal, thn_exit, thn_ret, cnd_t, cnd_f, blk_normal, blk_ret, blk_exit, x_seq, x_region, x_cond, x_block, x_loop, x_ret, x_exit, x_skip, e_mov, e_pick, pk_t, pk_f, withH_some, e_box, e_load, e_store, stH_some, e_nil, e_bin, e_eqv, eqH_f, eqH_t, e_un, e_fa, e_ia, ia_eq, nat_eq, natV_nat, e_len, lnH_some, e_extract, ex_0, ex_1, e_call0, e_call1, e_call2, e_call3, pc0_eq, pc1_some, pc2_some, pc3_some, fin_some, g_var0, g_vars, g_loc0, g_locs, g_int, g_bool, g_str, g_sl, s_none, s_zero, s_succ, cl_nil, cl_str, cl_bool, cl_slc, cl_own, evFa, evNil, asEl, evBin, intBin, strBin, evUn, len_nil, len_slc, len_str, clr, List.length_nil, List.length_cons, List.getElem?_cons_zero, List.getElem?_cons_succ, Nat.reduceAdd, Nat.zero_add, Nat.add_zero, Nat.reduceLeDiff, Nat.reduceSub, ↓reduceIte, List.drop_succ_cons, List.drop_zero, List.take_succ_cons, List.take_zero, Bool.false_eq_true, List.nil_append, List.cons_append, Bool.not_true, Bool.not_false, cond_true, cond_false, bne, lv_ret, lv_normal, res1, res2, lv2_some, res_var, res_cell, lvf_v, lvf_slc, res1c, lvo1_some, e_mm, mm_max, mm_min, cl_agg, cl_int, g_agg, e_callv1, cv1_fn, e_slice2, e_clrrow, e_callf2, pick_und, cells_agg, Option.map_some, Option.map_none, bx_some]
def argsT : Tm → List Tm
  | .mk _ _ _ l => l
def dropsT (p : List Cl) (t : Tm) (i : Int) : Bool :=
  if i < 0 then false else match p[i.toNat]? with
    | none => false
    | some x => match argsT x.hd with
      | [] => false
      | a :: _ => clashT t a
/-- the program, a term -/
def sieveV (p a : AV) : AV := .agg (p :: a.cells)
theorem all2_cons {es : List AV} {a : Tm} {l : List Tm} (h : All2 es (a :: l)) : ∃ e es', es = e :: es' ∧ IsT e a := by
  cases h with
  | cons e _ es' _ h hs => exact ⟨e, es', rfl, h⟩
theorem drops_ok {c a : AV} {p : List Cl} {t : Tm} (hp : IsS 6 IsCl c p) (hm : p.length ≤ 1000000) (ha : IsT a t) (i : Int) : callW F 17 [sieveV c a, .v (.int .i64 i)] [] = some (.v (.bool (dropsT p t i)), []) := by
  obtain ⟨es, hs, hes, hmax⟩ := hp
  have hlen := hes.length
  have sn : (sieveV c a).snap1 [] = some (sieveV c a) := by
    cases ha with
    | mk _ _ _ c' _ hc' => cases hc' <;> cases hs <;> rfl
  refine callW_pp (c := c17) (vs := [sieveV c a, .v (.int .i64 i)]) rfl (by simp [sn]; rfl) rfl 0 ?_
  have e1 := fun h : List AO => hs.len h
  have sa := fun h : List AO => ha.snap (h := h)
  have ha0 := ha
  cases ha with
  | mk k s n c' l hc' =>
    have l0 : ∀ h, evLoad (.box [c, .v (.int .i64 k), .v (.string s), .v (.int .i64 n), c'] :: h) false 1 (.ptr 0 0) = some c := fun _ => rfl
    have l1 : ∀ h, evLoad (.box [c, .v (.int .i64 k), .v (.string s), .v (.int .i64 n), c'] :: h) true 4 (.ptr 0 1) = some (.agg [.v (.int .i64 k), .v (.string s), .v (.int .i64 n), c']) := fun _ => rfl
    cases h1 : decide (i < 0) with
    | true =>
      have hi : i < 0 := of_decide_eq_true h1
      simp only [dropsT, if_pos hi, sieveV, h1, c17, start, List.replicate, c17_0, c17_1, c17_2, run_nil, run_cons, stp_plain, stp_guard, put_some, pass_eq, pick_tt, pick_ff, pick_tf, pick_ft, pick_u, reg_some, thn_normal, thn_exit, thn_ret, cnd_t, cnd_f, blk_normal, blk_ret, blk_exit, x_seq, x_region, x_cond, x_block, x_loop, x_ret, x_exit, x_skip, e_mov, e_pick, pk_t, pk_f, withH_some, e_box, e_load, e_store, stH_some, e_nil, e_bin, e_eqv, eqH_f, eqH_t, e_un, e_fa, e_ia, ia_eq, nat_eq, natV_nat, e_len, lnH_some, e_extract, ex_0, ex_1, e_call0, e_call1, e_call2, e_call3, pc0_eq, pc1_some, pc2_some, pc3_some, fin_some, g_var0, g_vars, g_loc0, g_locs, g_int, g_bool, g_str, g_sl, s_none, s_zero, s_succ, cl_nil, cl_str, cl_bool, cl_slc, cl_own, evFa, evNil, asEl, evBin, intBin, strBin, evUn, len_nil, len_slc, len_str, clr, List.length_nil, List.length_cons, List.getElem?_cons_zero, List.getElem?_cons_succ, Nat.reduceAdd, Nat.zero_add, Nat.add_zero, Nat.reduceLeDiff, Nat.reduceSub, ↓reduceIte, List.drop_succ_cons, List.drop_zero, List.take_succ_cons, List.take_zero, Bool.false_eq_true, List.nil_append, List.cons_append, Bool.not_true, Bool.not_false, cond_true, cond_false, bne, lv_ret, lv_normal, res1, res2, lv2_some, res_var, res_cell, lvf_v, lvf_slc, res1c, lvo1_some, e_mm, mm_max, mm_min, cl_agg, cl_int, g_agg, e_callv1, cv1_fn, e_slice2, e_clrrow, e_callf2, pick_und, cells_agg, Option.map_some, Option.map_none, bx_some]
    | false =>
      have hi : ¬ i < 0 := of_decide_eq_false h1
      obtain ⟨j, rfl⟩ := Int.eq_ofNat_of_zero_le (show 0 ≤ i by omega)
      simp only [dropsT, if_neg hi, Int.toNat_natCast]
      by_cases hj : j < p.length
      · have h2 : decide ((j : Int) ≥ (es.length : Int)) = false := by simp; omega
        obtain ⟨x, hx⟩ : ∃ x, p[j]? = some x := ⟨_, List.getElem?_eq_getElem hj⟩
        obtain ⟨e, he, hex⟩ := hes.get' hx
        have q1 := fun h : List AO => hs.ia he h
        simp only [hx]
        cases hex with
        | mk k2 s2 n2 c2 l2 hc2 b bl hb vs =>
          have l2' : ∀ h, evLoad h false 1 (.ip [c2, b, .v (.int .i64 vs)]) = some c2 := fun _ => rfl
          have e2 := hc2.len
          simp only [argsT]
          cases l2 with
          | nil =>
            have e3 : decide (((0 : Nat) : Int) > 0) = false := rfl
            simp only [sieveV, h1, h2, l0, l1, e1, q1, l2', e2, e3, c17, start, List.replicate, c17_0, c17_1, c17_3, c17_4, run_nil, run_cons, stp_plain, stp_guard, put_some, pass_eq, pick_tt, pick_ff, pick_tf, pick_ft, pick_u, reg_some, thn_normal, thn_exit, thn_ret, cnd_t, cnd_f, blk_normal, blk_ret, blk_exit, x_seq, x_region, x_cond, x_block, x_loop, x_ret, x_exit, x_skip, e_mov, e_pick, pk_t, pk_f, withH_some, e_box, e_load, e_store, stH_some, e_nil, e_bin, e_eqv, eqH_f, eqH_t, e_un, e_fa, e_ia, ia_eq, nat_eq, natV_nat, e_len, lnH_some, e_extract, ex_0, ex_1, e_call0, e_call1, e_call2, e_call3, pc0_eq, pc1_some, pc2_some, pc3_some, fin_some, g_var0, g_vars, g_loc0, g_locs, g_int, g_bool, g_str, g_sl, s_none, s_zero, s_succ, cl_nil, cl_str, cl_bool, cl_slc, cl_own, evFa, evNil, asEl, evBin, intBin, strBin, evUn, len_nil, len_slc, len_str, clr, List.length_nil, List.length_cons, List.getElem?_cons_zero, List.getElem?_cons_succ, Nat.reduceAdd, Nat.zero_add, Nat.add_zero, Nat.reduceLeDiff, Nat.reduceSub, ↓reduceIte, List.drop_succ_cons, List.drop_zero, List.take_succ_cons, List.take_zero, Bool.false_eq_true, List.nil_append, List.cons_append, Bool.not_true, Bool.not_false, cond_true, cond_false, bne, lv_ret, lv_normal, res1, res2, lv2_some, res_var, res_cell, lvf_v, lvf_slc, res1c, lvo1_some, e_mm, mm_max, mm_min, cl_agg, cl_int, g_agg, e_callv1, cv1_fn, e_slice2, e_clrrow, e_callf2, pick_und, cells_agg, Option.map_some, Option.map_none, bx_some]
          | cons a1 l2 =>
            have e3 : decide (((l2.length + 1 : Nat) : Int) > 0) = true := decide_eq_true (by omega)
            obtain ⟨es2, hs2, ha2, _⟩ := hc2.sl
            obtain ⟨e4, es4, rfl, ht4⟩ := all2_cons ha2
            have q2 := fun h : List AO => hs2.ia (i := 0) (e := e4) rfl h
            have q3 := fun h : List AO => ht4.load (h := h)
            have s4 := fun h : List AO => ht4.snap (h := h)
            have cl := clash_ok ha0 ht4
            have z0 : natV (.v (.int .i64 0)) = some 0 := rfl
            simp only [sieveV, h1, h2, l0, l1, e1, q1, l2', e2, e3, q2, q3, s4, sa, cl, z0, c17, start, List.replicate, c17_0, c17_1, c17_3, c17_4, run_nil, run_cons, stp_plain, stp_guard, put_some, pass_eq, pick_tt, pick_ff, pick_tf, pick_ft, pick_u, reg_some, thn_normal, thn_exit, thn_ret, cnd_t, cnd_f, blk_normal, blk_ret, blk_exit, x_seq, x_region, x_cond, x_block, x_loop, x_ret, x_exit, x_skip, e_mov, e_pick, pk_t, pk_f, withH_some, e_box, e_load, e_store, stH_some, e_nil, e_bin, e_eqv, eqH_f, eqH_t, e_un, e_fa, e_ia, ia_eq, nat_eq, natV_nat, e_len, lnH_some, e_extract, ex_0, ex_1, e_call0, e_call1, e_call2, e_call3, pc0_eq, pc1_some, pc2_some, pc3_some, fin_some, g_var0, g_vars, g_loc0, g_locs, g_int, g_bool, g_str, g_sl, s_none, s_zero, s_succ, cl_nil, cl_str, cl_bool, cl_slc, cl_own, evFa, evNil, asEl, evBin, intBin, strBin, evUn, len_nil, len_slc, len_str, clr, List.length_nil, List.length_cons, List.getElem?_cons_zero, List.getElem?_cons_succ, Nat.reduceAdd, Nat.zero_add, Nat.add_zero, Nat.reduceLeDiff, Nat.reduceSub, ↓reduceIte, List.drop_succ_cons, List.drop_zero, List.take_succ_cons, List.take_zero, Bool.false_eq_true, List.nil_append, List.cons_append, Bool.not_true, Bool.not_false, cond_true, cond_false, bne, lv_ret, lv_normal, res1, res2, lv2_some, res_var, res_cell, lvf_v, lvf_slc, res1c, lvo1_some, e_mm, mm_max, mm_min, cl_agg, cl_int, g_agg, e_callv1, cv1_fn, e_slice2, e_clrrow, e_callf2, pick_und, cells_agg, Option.map_some, Option.map_none, bx_some]
      · have h2 : decide ((j : Int) ≥ (es.length : Int)) = true := by simp; omega
        have hn : p[j]? = none := List.getElem?_eq_none (by omega)
        simp only [hn, sieveV, h1, h2, l0, e1, c17, start, List.replicate, c17_0, c17_1, c17_2, run_nil, run_cons, stp_plain, stp_guard, put_some, pass_eq, pick_tt, pick_ff, pick_tf, pick_ft, pick_u, reg_some, thn_normal, thn_exit, thn_ret, cnd_t, cnd_f, blk_normal, blk_ret, blk_exit, x_seq, x_region, x_cond, x_block, x_loop, x_ret, x_exit, x_skip, e_mov, e_pick, pk_t, pk_f, withH_some, e_box, e_load, e_store, stH_some, e_nil, e_bin, e_eqv, eqH_f, eqH_t, e_un, e_fa, e_ia, ia_eq, nat_eq, natV_nat, e_len, lnH_some, e_extract, ex_0, ex_1, e_call0, e_call1, e_call2, e_call3, pc0_eq, pc1_some, pc2_some, pc3_some, fin_some, g_var0, g_vars, g_loc0, g_locs, g_int, g_bool, g_str, g_sl, s_none, s_zero, s_succ, cl_nil, cl_str, cl_bool, cl_slc, cl_own, evFa, evNil, asEl, evBin, intBin, strBin, evUn, len_nil, len_slc, len_str, clr, List.length_nil, List.length_cons, List.getElem?_cons_zero, List.getElem?_cons_succ, Nat.reduceAdd, Nat.zero_add, Nat.add_zero, Nat.reduceLeDiff, Nat.reduceSub, ↓reduceIte, List.drop_succ_cons, List.drop_zero, List.take_succ_cons, List.take_zero, Bool.false_eq_true, List.nil_append, List.cons_append, Bool.not_true, Bool.not_false, cond_true, cond_false, bne, lv_ret, lv_normal, res1, res2, lv2_some, res_var, res_cell, lvf_v, lvf_slc, res1c, lvo1_some, e_mm, mm_max, mm_min, cl_agg, cl_int, g_agg, e_callv1, cv1_fn, e_slice2, e_clrrow, e_callf2, pick_und, cells_agg, Option.map_some, Option.map_none, bx_some]

/-! ### Keep -/
/-- what a filter keeps -/
def keepT (p : List Cl) (t : Tm) (l : List Int) : List Int := l.filter fun i => !dropsT p t i
def intsV (l : List Int) : List AV := l.map fun n => .v (.int .i64 n)
theorem ints_of {es : List AV} {l : List Int} (h : AllR IsI es l) : es = intsV l := by
  induction h with
  | nil => rfl
  | cons a x es xs h hs ih => cases h; simp [intsV, ih]
theorem allR_ints : ∀ l : List Int, AllR IsI (intsV l) l
  | [] => .nil
  | n :: l => .cons _ _ _ _ rfl (allR_ints l)
theorem intsV_len (l : List Int) : (intsV l).length = l.length := by simp [intsV]
/-- the predicate as a function of values -/
def dropsV (p : List Cl) (t : Tm) : AV → Bool
  | .v (.int .i64 i) => dropsT p t i
  | _ => false
theorem filter_ints (p : List Cl) (t : Tm) (l : List Int) : (intsV l).filter (fun x => !dropsV p t x) = intsV (keepT p t l) := by
  induction l with
  | nil => rfl
  | cons n l ih =>
    have hv : dropsV p t (.v (.int .i64 n)) = dropsT p t n := rfl
    have e1 : intsV (n :: l) = .v (.int .i64 n) :: intsV l := rfl
    rw [e1, List.filter_cons, hv, ih]
    by_cases h : dropsT p t n = true
    · simp [keepT, List.filter_cons, h]
    · simp [keepT, List.filter_cons, h, intsV]
theorem delete_ints {c a : AV} {p : List Cl} {t : Tm} (hp : IsS 6 IsCl c p) (hpm : p.length ≤ 1000000) (ha : IsT a t) {H : List AO} (hH : H.all (AO.below H.length) = true) {id ver : Nat} {l : List Int} (hr : H[id]? = some (.row 1 ver (intsV l) 0)) (hm : l.length ≤ maxLen) :
    ∃ L', callW F 16 [.own 1 id ver 0 l.length, .fn (.func 17) [sieveV c a] []] H = some (.own 1 id ver 0 (keepT p t l).length, rowH H id 1 ver L') ∧ L'.length = l.length ∧ L'.take (keepT p t l).length = intsV (keepT p t l) := by
  have hE : ∀ x ∈ intsV l, El false 1 x := by
    intro x hx
    obtain ⟨n, _, rfl⟩ := List.mem_map.1 hx
    exact El.int n
  have sn : ∀ h : List AO, (sieveV c a).snap1 h = some (sieveV c a) := by
    intro h
    obtain ⟨es, hs, _, _⟩ := hp
    cases ha with
    | mk _ _ _ c' _ hc' => cases hc' <;> cases hs <;> rfl
  obtain ⟨L', h1, h2, h3, _⟩ := delete_run (F := F) (f := 16) (fi := 20) (g := 17) (agg := false) (sz := 1) (zero := [.int .i64 0]) (first := [sieveV c a]) (cap := []) (p := dropsV p t) rfl rfl hH hr (by rw [intsV_len]; exact hm) hE (El.int 0) ⟨by kernel_rfl, rfl⟩ (by
    intro e he h _
    obtain ⟨n, _, rfl⟩ := List.mem_map.1 he
    refine callW_any (c := c17) rfl ?_ (drops_ok hp hpm ha n)
    simp [sn]; rfl)
  rw [filter_ints, intsV_len] at h1 h3
  rw [intsV_len] at h1 h2
  exact ⟨L', h1, h2, h3⟩

/-- what Keep computes: the clauses that are kept -/
def keepsT (p : List Cl) (l : List Int) (rs : List (Int × Tm)) (g : Tm) : List Int := match argsT g with
  | [] => l
  | a :: _ => if (walkT rs 1996 a).2.1 = 0 then keepT p (walkT rs 1996 a).1 l else l

theorem keep_ok {c x b a : AV} {p : List Cl} {l : List Int} {bs : List (Int × Tm)} {g : Tm} (hp : IsS 6 IsCl c p) (hpm : p.length ≤ 1000000) (hx : IsS 1 IsI x l) (hl : l.length ≤ 1000000) (hb : IsB b bs) (hbm : bs.length ≤ 100000) (ha : IsT a g) :
    ∃ r, IsS 1 IsI r (keepsT p l bs.reverse g) ∧ callW F 9 [c, x, b, a] [] = some (r, []) := by
  have sc : ∀ h : List AO, c.snap1 h = some c := by
    obtain ⟨es, hs, _, _⟩ := hp; exact fun h => hs.snap h
  obtain ⟨xs, hxs, hxr, hxm⟩ := hx
  have hxe := ints_of hxr
  subst hxe
  have hcl := clone_call (F' := F) (f := 14) (sz := 1) (bytes := 8) rfl (hxs.elems [.box a.cells]) (fits_small (by rw [intsV_len]; exact hl) (by omega))
  obtain ⟨bes, hbes, hlk, hbsn⟩ : ∃ bes, AllB bes bs ∧ (∀ n, callW F 19 [b, .v (.int .i64 n)] [] = some (lookA n bes.reverse, [])) ∧ ∀ h : List AO, b.snap1 h = some b := by
    cases hb with
    | nil => exact ⟨[], .nil, look_call_nil, fun _ => rfl⟩
    | slc ex nn es _ h _ => exact ⟨es, h, look_call h (by rw [h.length]; omega) ex nn, fun _ => rfl⟩
  have hb1 := ha.bel
  have sa := fun h : List AO => ha.snap (h := h)
  cases ha with
  | mk k s n c0 gl hc0 =>
  have e0 := hc0.len
  have l0 : ∀ h, evLoad (.box [.v (.int .i64 k), .v (.string s), .v (.int .i64 n), c0] :: h) false 1 (.ptr 0 3) = some c0 := fun _ => rfl
  have zl : (ofVal (.agg #[.int .i64 0, .string ⟨#[]⟩, .int .i64 0, .slice none 0 0])).cl = some zeroC := q9z
  have i0 : (AV.v (.int .i64 0)).cl = some [.v (.int .i64 0)] := rfl
  simp only [AV.cells] at hcl hb1
  cases l with
  | nil =>
    simp only [intsV, List.map_nil, cloneR] at hcl
    have r0 : IsS 1 IsI (.slc 1 true false []) [] := ⟨[], .slc _ _ _, .nil, by simp⟩
    have kt : keepsT p [] bs.reverse (.mk k s n gl) = [] := by
      unfold keepsT
      split
      · rfl
      · split <;> simp [keepT]
    rw [kt]
    refine ⟨_, r0, callW_pure (c := c9) rfl rfl 0 ?_⟩
    cases gl with
    | nil =>
      have e3 : (((0 : Nat) : Int) == 0) = true := rfl
      simp only [c9, start, List.replicate, c9_0, c9_1, c9_2, c9_3, e_callh, hcl, l0, e0, e3, List.map_cons, List.map_nil, run_nil, run_cons, stp_plain, stp_guard, put_some, pass_eq, pick_tt, pick_ff, pick_tf, pick_ft, pick_u, reg_some, thn_normal, thn_exit, thn_ret, cnd_t, cnd_f, blk_normal, blk_ret, blk_exit, x_seq, x_region, x_cond, x_block, x_loop, x_ret, x_exit, x_skip, e_mov, e_pick, pk_t, pk_f, withH_some, e_box, e_load, e_store, stH_some, e_nil, e_bin, e_eqv, eqH_f, eqH_t, e_un, e_fa, e_ia, ia_eq, nat_eq, natV_nat, e_len, lnH_some, e_extract, ex_0, ex_1, e_call0, e_call1, e_call2, e_call3, pc0_eq, pc1_some, pc2_some, pc3_some, fin_some, g_var0, g_vars, g_loc0, g_locs, g_int, g_bool, g_str, g_sl, s_none, s_zero, s_succ, cl_nil, cl_str, cl_bool, cl_slc, cl_own, evFa, evNil, asEl, evBin, intBin, strBin, evUn, len_nil, len_slc, len_str, clr, List.length_nil, List.length_cons, List.getElem?_cons_zero, List.getElem?_cons_succ, Nat.reduceAdd, Nat.zero_add, Nat.add_zero, Nat.reduceLeDiff, Nat.reduceSub, ↓reduceIte, List.drop_succ_cons, List.drop_zero, List.take_succ_cons, List.take_zero, Bool.false_eq_true, List.nil_append, List.cons_append, Bool.not_true, Bool.not_false, cond_true, cond_false, bne, lv_ret, lv_normal, res1, res2, lv2_some, res_var, res_cell, lvf_v, lvf_slc, res1c, lvo1_some, e_mm, mm_max, mm_min, cl_agg, cl_int, g_agg, e_callv1, cv1_fn, e_slice2, e_clrrow, e_callf2, pick_und, cells_agg, Option.map_some, Option.map_none, bx_some]
    | cons g1 gl =>
      have e3 : (((gl.length + 1 : Nat) : Int) == 0) = false := by simp; omega
      obtain ⟨ges, hgs, hga, _⟩ := hc0.sl
      obtain ⟨e4, es4, rfl, ht4⟩ := all2_cons hga
      have q2 := fun h : List AO => hgs.ia (i := 0) (e := e4) rfl h
      have q3 := fun h : List AO => ht4.load (h := h)
      have z0 : natV (.v (.int .i64 0)) = some 0 := rfl
      have C : Ctr [.box [.v (.int .i64 k), .v (.string s), .v (.int .i64 n), c0], .box [.v (.int .i64 1996)]] 1 0 [.v (.int .i64 1996)] := ⟨by simp, by simp, by
        have := all_below_mono (n := 0) (m := 2) (by omega) (H := [.box [.v (.int .i64 k), .v (.string s), .v (.int .i64 n), c0], .box [.v (.int .i64 1996)]]) (by simp only [List.all_cons, hb1]; rfl)
        exact this, rfl⟩
      obtain ⟨rc, hrc, hf⟩ := follow_ok C hbes.reverse (fun m l => hbsn _) hlk 1996 (by omega) ht4
      have st1 : evStore [.box [.v (.int .i64 k), .v (.string s), .v (.int .i64 n), c0], .box [.v (.int .i64 0)]] 1 (.ptr 1 0) (.v (.int .i64 1996)) = some [.box [.v (.int .i64 k), .v (.string s), .v (.int .i64 n), c0], .box [.v (.int .i64 1996)]] := rfl
      have c96 : ((1996 : Nat) : Int) = 1996 := rfl
      simp only [ctr, List.set_cons_zero, List.set_cons_succ, c96] at hf
      generalize walkT bs.reverse 1996 g1 = w at hrc hf
      obtain ⟨t1, err, m'⟩ := w
      dsimp only at hrc hf
      have st2 : evStore ([.box [.v (.int .i64 k), .v (.string s), .v (.int .i64 n), c0], .box [.v (.int .i64 m')]] ++ [.box zeroC]) 4 (.ptr 2 0) (.agg rc) = some ([.box [.v (.int .i64 k), .v (.string s), .v (.int .i64 n), c0], .box [.v (.int .i64 m')]] ++ [.box rc]) := hrc.st [.box [.v (.int .i64 k), .v (.string s), .v (.int .i64 n), c0], .box [.v (.int .i64 m')]] zeroC rfl
      have ld2 : evLoad ([.box [.v (.int .i64 k), .v (.string s), .v (.int .i64 n), c0], .box [.v (.int .i64 m')]] ++ [.box rc]) true 4 (.ptr 2 0) = some (.agg rc) := hrc.ld [.box [.v (.int .i64 k), .v (.string s), .v (.int .i64 n), c0], .box [.v (.int .i64 m')]]
      simp only [List.cons_append, List.nil_append] at st2 ld2
      cases he : (err != 0) with
      | true =>
        simp only [bne] at he
        simp only [c9, start, List.replicate, c9_0, c9_1, c9_2, c9_4, c9_5, c9_6, c9_7, e_callh, hcl, l0, e0, e3, q2, q3, z0, i0, st1, hf, zl, st2, he, List.map_cons, List.map_nil, run_nil, run_cons, stp_plain, stp_guard, put_some, pass_eq, pick_tt, pick_ff, pick_tf, pick_ft, pick_u, reg_some, thn_normal, thn_exit, thn_ret, cnd_t, cnd_f, blk_normal, blk_ret, blk_exit, x_seq, x_region, x_cond, x_block, x_loop, x_ret, x_exit, x_skip, e_mov, e_pick, pk_t, pk_f, withH_some, e_box, e_load, e_store, stH_some, e_nil, e_bin, e_eqv, eqH_f, eqH_t, e_un, e_fa, e_ia, ia_eq, nat_eq, natV_nat, e_len, lnH_some, e_extract, ex_0, ex_1, e_call0, e_call1, e_call2, e_call3, pc0_eq, pc1_some, pc2_some, pc3_some, fin_some, g_var0, g_vars, g_loc0, g_locs, g_int, g_bool, g_str, g_sl, s_none, s_zero, s_succ, cl_nil, cl_str, cl_bool, cl_slc, cl_own, evFa, evNil, asEl, evBin, intBin, strBin, evUn, len_nil, len_slc, len_str, clr, List.length_nil, List.length_cons, List.getElem?_cons_zero, List.getElem?_cons_succ, Nat.reduceAdd, Nat.zero_add, Nat.add_zero, Nat.reduceLeDiff, Nat.reduceSub, ↓reduceIte, List.drop_succ_cons, List.drop_zero, List.take_succ_cons, List.take_zero, Bool.false_eq_true, List.nil_append, List.cons_append, Bool.not_true, Bool.not_false, cond_true, cond_false, bne, lv_ret, lv_normal, res1, res2, lv2_some, res_var, res_cell, lvf_v, lvf_slc, res1c, lvo1_some, e_mm, mm_max, mm_min, cl_agg, cl_int, g_agg, e_callv1, cv1_fn, e_slice2, e_clrrow, e_callf2, pick_und, cells_agg, Option.map_some, Option.map_none, bx_some]
      | false =>
        simp only [bne] at he
        have hbel : ([.box [.v (.int .i64 k), .v (.string s), .v (.int .i64 n), c0], .box [.v (.int .i64 m')], .box rc] : List AO).all (AO.below ([.box [.v (.int .i64 k), .v (.string s), .v (.int .i64 n), c0], .box [.v (.int .i64 m')], .box rc] : List AO).length) = true := by
          refine all_below_mono (Nat.zero_le _) ?_
          have h2 := hrc.bel
          simp only [AV.cells] at h2
          simp only [List.all_cons, hb1, h2]; rfl
        have hbd : bdH [.box [.v (.int .i64 k), .v (.string s), .v (.int .i64 n), c0], .box [.v (.int .i64 m')], .box rc] (evBuild [] [] [] []) = bdH [.box [.v (.int .i64 k), .v (.string s), .v (.int .i64 n), c0], .box [.v (.int .i64 m')], .box rc] (evBuild [] [] [] []) := rfl
        have hd := delete_none (F := F) (f := 16) (fi := 20) (g := 17) (agg := false) (sz := 1) (zero := [.int .i64 0]) (first := [sieveV c (.agg rc)]) (cap := []) (p := fun _ => false) rfl rfl hbel (s := .slc 1 true false []) (l := []) (Rd.sl (.slc _ _ _) (fun e h => by simp at h)) (by simp) rfl (fun x h => by simp at h) (fun x h => by simp at h)
        have hp5 : ∃ a1 a2 a3 a4, rc = [a1, a2, a3, a4] := by
          cases hrc; exact ⟨_, _, _, _, rfl⟩
        obtain ⟨a1, a2, a3, a4, rfl⟩ := hp5
        have cc : c.cl = some [c] := by
          obtain ⟨es, hs, _, _⟩ := hp; exact hs.cl
        simp only [sieveV, AV.cells] at hd
        simp only [c9, start, List.replicate, c9_0, c9_1, c9_2, c9_4, c9_5, c9_6, c9_8, e_callh, hcl, l0, e0, e3, q2, q3, z0, i0, st1, hf, zl, st2, ld2, he, hd, cc, e_mkfn, e_build, bdH_some, bd_nil, bd_cons, bd1, toL, putAt, and_self, Nat.le_refl, List.set_cons_zero, List.set_cons_succ, List.map_cons, List.map_nil, run_nil, run_cons, stp_plain, stp_guard, put_some, pass_eq, pick_tt, pick_ff, pick_tf, pick_ft, pick_u, reg_some, thn_normal, thn_exit, thn_ret, cnd_t, cnd_f, blk_normal, blk_ret, blk_exit, x_seq, x_region, x_cond, x_block, x_loop, x_ret, x_exit, x_skip, e_mov, e_pick, pk_t, pk_f, withH_some, e_box, e_load, e_store, stH_some, e_nil, e_bin, e_eqv, eqH_f, eqH_t, e_un, e_fa, e_ia, ia_eq, nat_eq, natV_nat, e_len, lnH_some, e_extract, ex_0, ex_1, e_call0, e_call1, e_call2, e_call3, pc0_eq, pc1_some, pc2_some, pc3_some, fin_some, g_var0, g_vars, g_loc0, g_locs, g_int, g_bool, g_str, g_sl, s_none, s_zero, s_succ, cl_nil, cl_str, cl_bool, cl_slc, cl_own, evFa, evNil, asEl, evBin, intBin, strBin, evUn, len_nil, len_slc, len_str, clr, List.length_nil, List.length_cons, List.getElem?_cons_zero, List.getElem?_cons_succ, Nat.reduceAdd, Nat.zero_add, Nat.add_zero, Nat.reduceLeDiff, Nat.reduceSub, ↓reduceIte, List.drop_succ_cons, List.drop_zero, List.take_succ_cons, List.take_zero, Bool.false_eq_true, List.nil_append, List.cons_append, Bool.not_true, Bool.not_false, cond_true, cond_false, bne, lv_ret, lv_normal, res1, res2, lv2_some, res_var, res_cell, lvf_v, lvf_slc, res1c, lvo1_some, e_mm, mm_max, mm_min, cl_agg, cl_int, g_agg, e_callv1, cv1_fn, e_slice2, e_clrrow, e_callf2, pick_und, cells_agg, Option.map_some, Option.map_none, bx_some]
  | cons n1 l1 =>
    have hcl' : callW F 14 [x] [.box [.v (.int .i64 k), .v (.string s), .v (.int .i64 n), c0]] = some (.own 1 1 0 0 (n1 :: l1).length, [.box [.v (.int .i64 k), .v (.string s), .v (.int .i64 n), c0], .row 1 0 (intsV (n1 :: l1)) 0]) := by
      rw [hcl]; simp [cloneR, intsV]
    clear hcl
    generalize (n1 :: l1) = l at *
    have hlm : l.length ≤ maxLen := by have : maxLen = 9223372036854775807 := rfl; omega
    have same : IsS 1 IsI (.slc 1 false false ((intsV l).take l.length)) l := by
      rw [List.take_of_length_le (by rw [intsV_len]; exact Nat.le_refl _)]
      exact ⟨_, .slc _ _ _, allR_ints l, by rw [intsV_len]; exact hlm⟩
    cases gl with
    | nil =>
      have e3 : (((0 : Nat) : Int) == 0) = true := rfl
      refine ⟨_, same, callW_pure (c := c9) rfl rfl 0 ?_⟩
      have lf := lvf_own (h := [.box [.v (.int .i64 k), .v (.string s), .v (.int .i64 n), c0], .row 1 0 (intsV l) 0]) (id := 1) (n := l.length) rfl (by rw [intsV_len]; exact Nat.le_refl _)
      simp only [c9, start, List.replicate, c9_0, c9_1, c9_2, c9_3, e_callh, hcl', l0, e0, e3, lf, List.map_cons, List.map_nil, run_nil, run_cons, stp_plain, stp_guard, put_some, pass_eq, pick_tt, pick_ff, pick_tf, pick_ft, pick_u, reg_some, thn_normal, thn_exit, thn_ret, cnd_t, cnd_f, blk_normal, blk_ret, blk_exit, x_seq, x_region, x_cond, x_block, x_loop, x_ret, x_exit, x_skip, e_mov, e_pick, pk_t, pk_f, withH_some, e_box, e_load, e_store, stH_some, e_nil, e_bin, e_eqv, eqH_f, eqH_t, e_un, e_fa, e_ia, ia_eq, nat_eq, natV_nat, e_len, lnH_some, e_extract, ex_0, ex_1, e_call0, e_call1, e_call2, e_call3, pc0_eq, pc1_some, pc2_some, pc3_some, fin_some, g_var0, g_vars, g_loc0, g_locs, g_int, g_bool, g_str, g_sl, s_none, s_zero, s_succ, cl_nil, cl_str, cl_bool, cl_slc, cl_own, evFa, evNil, asEl, evBin, intBin, strBin, evUn, len_nil, len_slc, len_str, clr, List.length_nil, List.length_cons, List.getElem?_cons_zero, List.getElem?_cons_succ, Nat.reduceAdd, Nat.zero_add, Nat.add_zero, Nat.reduceLeDiff, Nat.reduceSub, ↓reduceIte, List.drop_succ_cons, List.drop_zero, List.take_succ_cons, List.take_zero, Bool.false_eq_true, List.nil_append, List.cons_append, Bool.not_true, Bool.not_false, cond_true, cond_false, bne, lv_ret, lv_normal, res1, res2, lv2_some, res_var, res_cell, lvf_v, lvf_slc, res1c, lvo1_some, e_mm, mm_max, mm_min, cl_agg, cl_int, g_agg, e_callv1, cv1_fn, e_slice2, e_clrrow, e_callf2, pick_und, cells_agg, Option.map_some, Option.map_none, bx_some]
    | cons g1 gl =>
      have e3 : (((gl.length + 1 : Nat) : Int) == 0) = false := by simp; omega
      obtain ⟨ges, hgs, hga, _⟩ := hc0.sl
      obtain ⟨e4, es4, rfl, ht4⟩ := all2_cons hga
      have q2 := fun h : List AO => hgs.ia (i := 0) (e := e4) rfl h
      have q3 := fun h : List AO => ht4.load (h := h)
      have z0 : natV (.v (.int .i64 0)) = some 0 := rfl
      have C : Ctr [.box [.v (.int .i64 k), .v (.string s), .v (.int .i64 n), c0], .row 1 0 (intsV l) 0, .box [.v (.int .i64 1996)]] 2 0 [.v (.int .i64 1996)] := ⟨by simp, by simp, by
        have := all_below_mono (n := 0) (m := 3) (by omega) (H := [.box [.v (.int .i64 k), .v (.string s), .v (.int .i64 n), c0], .row 1 0 (intsV l) 0, .box [.v (.int .i64 1996)]]) (by simp only [List.all_cons, hb1]; rfl)
        exact this, rfl⟩
      obtain ⟨rc, hrc, hf⟩ := follow_ok C hbes.reverse (fun m l => hbsn _) hlk 1996 (by omega) ht4
      have st1 : evStore [.box [.v (.int .i64 k), .v (.string s), .v (.int .i64 n), c0], .row 1 0 (intsV l) 0, .box [.v (.int .i64 0)]] 1 (.ptr 2 0) (.v (.int .i64 1996)) = some [.box [.v (.int .i64 k), .v (.string s), .v (.int .i64 n), c0], .row 1 0 (intsV l) 0, .box [.v (.int .i64 1996)]] := rfl
      have c96 : ((1996 : Nat) : Int) = 1996 := rfl
      simp only [ctr, List.set_cons_zero, List.set_cons_succ, c96] at hf
      have kt : keepsT p l bs.reverse (.mk k s n (g1 :: gl)) = if (walkT bs.reverse 1996 g1).2.1 = 0 then keepT p (walkT bs.reverse 1996 g1).1 l else l := rfl
      rw [kt]
      generalize walkT bs.reverse 1996 g1 = w at hrc hf
      obtain ⟨t1, err, m'⟩ := w
      dsimp only at hrc hf ⊢
      have st2 : evStore ([.box [.v (.int .i64 k), .v (.string s), .v (.int .i64 n), c0], .row 1 0 (intsV l) 0, .box [.v (.int .i64 m')]] ++ [.box zeroC]) 4 (.ptr 3 0) (.agg rc) = some ([.box [.v (.int .i64 k), .v (.string s), .v (.int .i64 n), c0], .row 1 0 (intsV l) 0, .box [.v (.int .i64 m')]] ++ [.box rc]) := hrc.st [.box [.v (.int .i64 k), .v (.string s), .v (.int .i64 n), c0], .row 1 0 (intsV l) 0, .box [.v (.int .i64 m')]] zeroC rfl
      have ld2 : evLoad ([.box [.v (.int .i64 k), .v (.string s), .v (.int .i64 n), c0], .row 1 0 (intsV l) 0, .box [.v (.int .i64 m')]] ++ [.box rc]) true 4 (.ptr 3 0) = some (.agg rc) := hrc.ld [.box [.v (.int .i64 k), .v (.string s), .v (.int .i64 n), c0], .row 1 0 (intsV l) 0, .box [.v (.int .i64 m')]]
      simp only [List.cons_append, List.nil_append] at st2 ld2
      by_cases he0 : err = 0
      · have he : (!(err == 0)) = false := by simp [he0]
        rw [if_pos he0]
        have hbel : ([.box [.v (.int .i64 k), .v (.string s), .v (.int .i64 n), c0], .row 1 0 (intsV l) 0, .box [.v (.int .i64 m')], .box rc] : List AO).all (AO.below ([.box [.v (.int .i64 k), .v (.string s), .v (.int .i64 n), c0], .row 1 0 (intsV l) 0, .box [.v (.int .i64 m')], .box rc] : List AO).length) = true := by
          refine all_below_mono (Nat.zero_le _) ?_
          have h2 := hrc.bel
          simp only [AV.cells] at h2
          simp only [List.all_cons, hb1, h2]; rfl
        obtain ⟨L', hd, hL1, hL2⟩ := delete_ints hp hpm hrc hbel (id := 1) (ver := 0) (l := l) rfl hlm
        have hp5 : ∃ a1 a2 a3 a4, rc = [a1, a2, a3, a4] := by
          cases hrc; exact ⟨_, _, _, _, rfl⟩
        obtain ⟨a1, a2, a3, a4, rfl⟩ := hp5
        have cc : c.cl = some [c] := by
          obtain ⟨es, hs, _, _⟩ := hp; exact hs.cl
        have hkl : (keepT p t1 l).length ≤ l.length := List.length_filter_le _ _
        have lf := lvf_own (h := rowH [.box [.v (.int .i64 k), .v (.string s), .v (.int .i64 n), c0], .row 1 0 (intsV l) 0, .box [.v (.int .i64 m')], .box [a1, a2, a3, a4]] 1 1 0 L') (id := 1) (n := (keepT p t1 l).length) (by simp [rowH]; exact ⟨rfl, rfl, rfl, rfl⟩) (by omega)
        rw [hL2] at lf
        simp only [sieveV, AV.cells] at hd
        refine ⟨.slc 1 false false (intsV (keepT p t1 l)), ⟨_, .slc _ _ _, allR_ints (keepT p t1 l), by rw [intsV_len]; omega⟩, callW_pure (c := c9) rfl rfl 0 ?_⟩
        simp only [c9, start, List.replicate, c9_0, c9_1, c9_2, c9_4, c9_5, c9_6, c9_8, e_callh, hcl', l0, e0, e3, q2, q3, z0, i0, st1, hf, zl, st2, ld2, he, hd, cc, lf, e_mkfn, e_build, bdH_some, bd_nil, bd_cons, bd1, toL, putAt, and_self, Nat.le_refl, List.set_cons_zero, List.set_cons_succ, List.map_cons, List.map_nil, run_nil, run_cons, stp_plain, stp_guard, put_some, pass_eq, pick_tt, pick_ff, pick_tf, pick_ft, pick_u, reg_some, thn_normal, thn_exit, thn_ret, cnd_t, cnd_f, blk_normal, blk_ret, blk_exit, x_seq, x_region, x_cond, x_block, x_loop, x_ret, x_exit, x_skip, e_mov, e_pick, pk_t, pk_f, withH_some, e_box, e_load, e_store, stH_some, e_nil, e_bin, e_eqv, eqH_f, eqH_t, e_un, e_fa, e_ia, ia_eq, nat_eq, natV_nat, e_len, lnH_some, e_extract, ex_0, ex_1, e_call0, e_call1, e_call2, e_call3, pc0_eq, pc1_some, pc2_some, pc3_some, fin_some, g_var0, g_vars, g_loc0, g_locs, g_int, g_bool, g_str, g_sl, s_none, s_zero, s_succ, cl_nil, cl_str, cl_bool, cl_slc, cl_own, evFa, evNil, asEl, evBin, intBin, strBin, evUn, len_nil, len_slc, len_str, clr, List.length_nil, List.length_cons, List.getElem?_cons_zero, List.getElem?_cons_succ, Nat.reduceAdd, Nat.zero_add, Nat.add_zero, Nat.reduceLeDiff, Nat.reduceSub, ↓reduceIte, List.drop_succ_cons, List.drop_zero, List.take_succ_cons, List.take_zero, Bool.false_eq_true, List.nil_append, List.cons_append, Bool.not_true, Bool.not_false, cond_true, cond_false, bne, lv_ret, lv_normal, res1, res2, lv2_some, res_var, res_cell, lvf_v, lvf_slc, res1c, lvo1_some, e_mm, mm_max, mm_min, cl_agg, cl_int, g_agg, e_callv1, cv1_fn, e_slice2, e_clrrow, e_callf2, pick_und, cells_agg, Option.map_some, Option.map_none, bx_some]
      · have he : (!(err == 0)) = true := by simp [he0]
        rw [if_neg he0]
        refine ⟨_, same, callW_pure (c := c9) rfl rfl 0 ?_⟩
        have lf := lvf_own (h := [.box [.v (.int .i64 k), .v (.string s), .v (.int .i64 n), c0], .row 1 0 (intsV l) 0, .box [.v (.int .i64 m')], .box rc]) (id := 1) (n := l.length) rfl (by rw [intsV_len]; exact Nat.le_refl _)
        simp only [c9, start, List.replicate, c9_0, c9_1, c9_2, c9_4, c9_5, c9_6, c9_7, e_callh, hcl', l0, e0, e3, q2, q3, z0, i0, st1, hf, zl, st2, he, lf, List.map_cons, List.map_nil, run_nil, run_cons, stp_plain, stp_guard, put_some, pass_eq, pick_tt, pick_ff, pick_tf, pick_ft, pick_u, reg_some, thn_normal, thn_exit, thn_ret, cnd_t, cnd_f, blk_normal, blk_ret, blk_exit, x_seq, x_region, x_cond, x_block, x_loop, x_ret, x_exit, x_skip, e_mov, e_pick, pk_t, pk_f, withH_some, e_box, e_load, e_store, stH_some, e_nil, e_bin, e_eqv, eqH_f, eqH_t, e_un, e_fa, e_ia, ia_eq, nat_eq, natV_nat, e_len, lnH_some, e_extract, ex_0, ex_1, e_call0, e_call1, e_call2, e_call3, pc0_eq, pc1_some, pc2_some, pc3_some, fin_some, g_var0, g_vars, g_loc0, g_locs, g_int, g_bool, g_str, g_sl, s_none, s_zero, s_succ, cl_nil, cl_str, cl_bool, cl_slc, cl_own, evFa, evNil, asEl, evBin, intBin, strBin, evUn, len_nil, len_slc, len_str, clr, List.length_nil, List.length_cons, List.getElem?_cons_zero, List.getElem?_cons_succ, Nat.reduceAdd, Nat.zero_add, Nat.add_zero, Nat.reduceLeDiff, Nat.reduceSub, ↓reduceIte, List.drop_succ_cons, List.drop_zero, List.take_succ_cons, List.take_zero, Bool.false_eq_true, List.nil_append, List.cons_append, Bool.not_true, Bool.not_false, cond_true, cond_false, bne, lv_ret, lv_normal, res1, res2, lv2_some, res_var, res_cell, lvf_v, lvf_slc, res1c, lvo1_some, e_mm, mm_max, mm_min, cl_agg, cl_int, g_agg, e_callv1, cv1_fn, e_slice2, e_clrrow, e_callf2, pick_und, cells_agg, Option.map_some, Option.map_none, bx_some]
end Go.AE.Ytchiacliefahdaa
end
