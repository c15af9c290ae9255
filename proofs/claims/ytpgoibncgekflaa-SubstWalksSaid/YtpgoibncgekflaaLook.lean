/- subst.Look walked: a range over slices.Backward. -/
import Derived.RangeFuncNested
import Derived.RangeFuncBound
import Derived.RangeFuncCalls
import Derived.RangeFuncLeaves
import Derived.RangeFuncFrom
import Derived.Laws.Rows
import Derived.KernelRfl
import Derived.Shelf.Abstract
import Derived.WalkKit
import Derived.OwnWalkIn
import Derived.TacticsInMore
import Derived.LoopNIn
import Derived.LoopIn
import Derived.Test.YtpgoibncgekflaaProg
namespace Go.Proofs.Ytpgoibncgekflaa
open Go Go.RowKit Go.Shelf Go.Proofs
attribute [local go_sem] Oper.semAt_some

def upto {α : Type} (f : Nat → α) (k : Nat) : List α := (List.range k).map f
theorem upto_succ {α : Type} (f : Nat → α) (k : Nat) : upto f (k + 1) = upto f k ++ [f k] := by simp [upto, List.range_succ]
theorem upto_length {α : Type} (f : Nat → α) (k : Nat) : (upto f k).length = k := by simp [upto]

theorem upto_le {α : Type} (f : Nat → α) (k : Nat) : ∀ m, ∃ r, upto f (k + m) = upto f k ++ r
  | 0 => ⟨[], by simp⟩
  | m + 1 => by
    obtain ⟨r, hr⟩ := upto_le f k m
    exact ⟨r ++ [f (k + m)], by rw [← Nat.add_assoc, upto_succ, hr, List.append_assoc]⟩

structure T4 where
  k : Int
  s : ByteArray
  n : Int
  a : Option Addr
  l : Nat
  c : Nat

/-- the cells of an element: the Var, the term -/
def bindV (V : Nat → Int) (C : Nat → T4) (j : Nat) : Value := .agg #[.int .i64 (V j), (.int .i64 (C j).k), (.string (C j).s), (.int .i64 (C j).n), (.slice (C j).a (C j).l (C j).c)]

set_option maxRecDepth 100000 in
set_option maxHeartbeats 4000000 in
theorem back1_in (F : Fence) (n : Nat) (h48 : F.fn 48) (hro : F.round = none) (hn : 1 ≤ n) (l Bs n₀ b off len cap : Nat) (V : Nat → Int) (C : Nat → T4) (hreach : len ≤ 1000000) (hb : b < n₀) (J Jx : List Nat → World → Prop)
    (hY : ∀ pre (x : Nat) W, J pre W → pre.length < len → YieldAt F (n - 1) Try.prog l #[.int .i64 (x : Int), bindV V C x] W fun e W' =>
      (e = .returned (.bool true) ∧ J (pre ++ [x]) W' ∧ Below n₀ W W') ∨ (e = .returned (.bool false) ∧ Jx (pre ++ [x]) W'))
    (W : World) (a : Option Addr) (ha : 0 < len → a = some ⟨b, off, none⟩) (hBs : W.cell? ⟨Bs, 0, none⟩ = some (.slice a len cap)) (hBs' : Bs < n₀)
    (hc : ∀ j, j < len → W.cell? ⟨b, off + j * 5, none⟩ = some (.int .i64 (V j)) ∧ W.cell? ⟨b, off + j * 5 + 1, none⟩ = some ((.int .i64 (C j).k)) ∧ W.cell? ⟨b, off + j * 5 + 2, none⟩ = some ((.string (C j).s)) ∧ W.cell? ⟨b, off + j * 5 + 3, none⟩ = some ((.int .i64 (C j).n)) ∧ W.cell? ⟨b, off + j * 5 + 4, none⟩ = some ((.slice (C j).a (C j).l (C j).c))) (h0 : J [] W) :
    CallsIn F n Try.prog 48 #[.func (.yield l) #[] #[], .pointer (some ⟨Bs, 0, none⟩)] W fun e W' => (∃ v, e = .returned v) ∧
      ((∃ ys, ys = upto (fun j => len - 1 - j) len ∧ J ys W') ∨ (∃ pre, (∃ k, k ≤ len ∧ pre = upto (fun j => len - 1 - j) k) ∧ Jx pre W')) := by
  refine callsIn_of_wp Try.func48 rfl h48 ?_ hro
  simp only [Try.ntmps48, List.size_toArray, List.length_cons, List.length_nil, Nat.reduceAdd, Nat.reduceSub, Array.replicate_succ, Array.replicate_zero, List.push_toArray, List.append_toArray, List.nil_append, List.cons_append]
  gi_wp2
  gi_loopw [3] (fun i wr => ∃ k : Nat, k ≤ len ∧ i = .int .i64 ((len : Int) - 1 - k) ∧ J (upto (fun j => len - 1 - j) k) wr ∧ Below n₀ W wr)
    (fun i _ => (intOf i + 1).toNat)
  case atStart => exact ⟨0, Nat.zero_le _, by simp, h0, Below.refl _ _⟩
  case round =>
    obtain ⟨k, hk, rfl, hJs, hnx⟩ := hrel
    have hBx := (hnx.cell (p := ⟨Bs, 0, none⟩) hBs').trans hBs
    by_cases hlt : k < len
    · obtain rfl := ha (by omega)
      obtain ⟨fn, tmps, assign, body, hy, hR⟩ := hY _ (len - 1 - k) wr hJs (by rw [upto_length]; exact hlt)
      dsimp only [bindV] at hy
      rw [show ((len - 1 - k : Nat) : Int) = (len : Int) - 1 - k by omega] at hy
      obtain ⟨c0, c1, c2, c3, c4⟩ := hc (len - 1 - k) (by omega)
      have d0 := (hnx.cell (p := ⟨b, off + (len - 1 - k) * 5, none⟩) hb).trans c0
      have d1 := (hnx.cell (p := ⟨b, off + (len - 1 - k) * 5 + 1, none⟩) hb).trans c1
      have d2 := (hnx.cell (p := ⟨b, off + (len - 1 - k) * 5 + 2, none⟩) hb).trans c2
      have d3 := (hnx.cell (p := ⟨b, off + (len - 1 - k) * 5 + 3, none⟩) hb).trans c3
      have d4 := (hnx.cell (p := ⟨b, off + (len - 1 - k) * 5 + 4, none⟩) hb).trans c4
      gi_wp2
      refine hR.mono ?_
      rintro e W3 (⟨rfl, hJ3, hk3⟩ | ⟨rfl, hJx3⟩)
      · gi_wp2
        go_roundw
        case rel => exact ⟨k + 1, by omega, by congr 1; omega, by rw [upto_succ]; exact hJ3, hnx.trans hk3⟩
        case measure => simp [intOf]; omega
      · gi_wp2
        refine bodyPost_ret (results_none rfl _ _ _) rfl ?_
        exact ⟨⟨_, rfl⟩, .inr ⟨_, ⟨k + 1, by omega, (upto_succ _ _).symm⟩, hJx3⟩⟩
    · obtain rfl : k = len := by omega
      gi_wp2
      go_end0
      exact ⟨⟨_, rfl⟩, .inl ⟨_, rfl, hJs⟩⟩

set_option maxHeartbeats 1000000 in
theorem back_in (F : Fence) (n : Nat) (h33 : F.fn 33) (hro : F.round = none) (a : Option Addr) (len cap : Nat) (w : World) :
    CallsIn F n Try.prog 33 #[.slice a len cap] w fun e w' => e = .returned (.func (.func 48) #[] #[.pointer (some ⟨w.heap.size, 0, none⟩)]) ∧ w' = w.alloc (.cells #[.slice a len cap] 22) := by
  refine callsIn_of_wp Try.func33 rfl h33 ?_ hro
  simp only [Try.ntmps33, List.size_toArray, List.length_cons, List.length_nil, Nat.reduceAdd, Nat.reduceSub, Array.replicate_succ, Array.replicate_zero, List.push_toArray, List.append_toArray, List.nil_append, List.cons_append]
  gi_wp2
  go_ret
  exact ⟨rfl, rfl⟩

/-- what an element's cells hold -/
def BindsAt (w : World) (b off len : Nat) (V : Nat → Int) (C : Nat → T4) : Prop :=
  ∀ j, j < len → w.cell? ⟨b, off + j * 5, none⟩ = some (.int .i64 (V j)) ∧ w.cell? ⟨b, off + j * 5 + 1, none⟩ = some ((.int .i64 (C j).k)) ∧ w.cell? ⟨b, off + j * 5 + 2, none⟩ = some ((.string (C j).s)) ∧ w.cell? ⟨b, off + j * 5 + 3, none⟩ = some ((.int .i64 (C j).n)) ∧ w.cell? ⟨b, off + j * 5 + 4, none⟩ = some ((.slice (C j).a (C j).l (C j).c))
theorem BindsAt.below {w w' : World} {b off len n : Nat} {V : Nat → Int} {C : Nat → T4} (h : BindsAt w b off len V C) (hb : 0 < len → b < n) (hw : Below n w w') : BindsAt w' b off len V C := by
  intro j hj
  have hb := hb (by omega)
  obtain ⟨h0, h1, h2, h3, h4⟩ := h j hj
  exact ⟨(hw.cell (p := ⟨b, _, none⟩) hb).trans h0, (hw.cell (p := ⟨b, _, none⟩) hb).trans h1, (hw.cell (p := ⟨b, _, none⟩) hb).trans h2, (hw.cell (p := ⟨b, _, none⟩) hb).trans h3, (hw.cell (p := ⟨b, _, none⟩) hb).trans h4⟩

theorem back_stops (F : Fence) (n : Nat) (h48 : F.fn 48) (hro : F.round = none) (hn : 1 ≤ n) (Bs n₀ b off len cap : Nat) (V : Nat → Int) (C : Nat → T4) (hreach : len ≤ 1000000) (a : Option Addr) (ha : 0 < len → a = some ⟨b, off, none⟩) (w : World)
    (hn0 : n₀ ≤ w.heap.size) (hBs : Bs < n₀) (hb : 0 < len → b < n₀) (hc : w.cell? ⟨Bs, 0, none⟩ = some (.slice a len cap)) (hI : BindsAt w b off len V C) :
    SeqStopsK F n Try.prog 48 #[.pointer (some ⟨Bs, 0, none⟩)] (fun x : Nat => #[Value.int .i64 (x : Int), bindV V C x]) (Below n₀) (fun ys => ys = upto (fun j => len - 1 - j) len) (fun pre => ∃ k, k ≤ len ∧ pre = upto (fun j => len - 1 - j) k) len w := fun l J Jx W hW _ _ hY h0 => by
  have hc' := (hW.cell (p := ⟨Bs, 0, none⟩) (by simp; omega)).trans hc
  have hI' := hI.below hb (hW.mono hn0)
  by_cases hlen : 0 < len
  · exact back1_in F n h48 hro hn l Bs n₀ b off len cap V C hreach (hb hlen) J Jx hY W a ha hc' hBs hI' h0
  · obtain rfl : len = 0 := by omega
    refine (back1_in F n h48 hro hn l Bs n₀ 0 0 0 cap V C hreach (by omega) J Jx hY W a (fun h => absurd h (by omega)) hc' hBs (fun j hj => absurd hj (by omega)) h0)

/-- the last one that binds v, of those that are passed -/
def lookOf (V : Nat → Int) (C : Nat → T4) (v : Int) : List Nat → Value
  | [] => .tuple #[.agg #[.int .i64 0, .string ⟨#[]⟩, .int .i64 0, .slice none 0 0], .bool false]
  | j :: r => if V j = v then .tuple #[.agg #[(.int .i64 (C j).k), (.string (C j).s), (.int .i64 (C j).n), (.slice (C j).a (C j).l (C j).c)], .bool true] else lookOf V C v r
theorem lookOf_none {V : Nat → Int} {C : Nat → T4} {v : Int} : ∀ {l : List Nat}, (∀ j ∈ l, V j ≠ v) → lookOf V C v l = .tuple #[.agg #[.int .i64 0, .string ⟨#[]⟩, .int .i64 0, .slice none 0 0], .bool false]
  | [], _ => rfl
  | j :: r, h => by rw [lookOf, if_neg (h j (by simp))]; exact lookOf_none (fun i hi => h i (by simp [hi]))
theorem lookOf_some {V : Nat → Int} {C : Nat → T4} {v : Int} {j : Nat} (hj : V j = v) : ∀ {l r : List Nat}, (∀ j ∈ l, V j ≠ v) → lookOf V C v (l ++ j :: r) = .tuple #[.agg #[(.int .i64 (C j).k), (.string (C j).s), (.int .i64 (C j).n), (.slice (C j).a (C j).l (C j).c)], .bool true]
  | [], _, _ => by simp [lookOf, hj]
  | i :: l, r, h => by rw [List.cons_append, lookOf, if_neg (h i (by simp))]; exact lookOf_some hj (fun i hi => h i (by simp [hi]))

theorem cells_own {β : Type} (B : Nat) (o : Obj) (ho : o.isCells = true) : Own (fun (_ : β) W => W.heap[B]? = some o) := fun s X Y row hs hg hrow =>
  (hg.block B (Array.getElem?_eq_some_iff.1 hs).1 (fun e' => by obtain ⟨o', ho', hc⟩ := hrow B e'.symm; rw [hs] at ho'; cases ho'; rw [ho] at hc; cases hc)).trans hs
theorem heap_below {w : World} {B : Nat} {o o' : Obj} (h : w.heap[B]? = some o) : (w.alloc o').heap[B]? = some o := (Below.heap_alloc w o' B (Array.getElem?_eq_some_iff.1 h).1).trans h

theorem look_results {W : World} {tmps : Array Value} {B1 B2 : Nat} {cs : Array Value} {bv : Value} (h4 : tmps.getD 4 undef = .pointer (some ⟨B1, 0, none⟩)) (h5 : tmps.getD 5 undef = .pointer (some ⟨B2, 0, none⟩))
    (e4 : W.heap[B1]? = some (.cells cs 25)) (hcs : cs.size = 4) (e5 : W.heap[B2]? = some (.cells #[bv] 4)) : (results Try.f13 tmps).run Try.prog W = .ok (.tuple #[.agg cs, bv]) W := by
  have hi : (Try.prog.info? 25).map (·.size) = some 4 := by kernel_rfl
  have l4 := run_loadVar_row W B1 25 25 cs (0, 0) _ e4 Try.underlying25 rfl (by rw [hcs]; exact hi)
  have c5 : W.cell? ⟨B2, 0, none⟩ = some bv := by simp [World.cell?, e5]
  have h4' : tmps[4]?.getD undef = .pointer (some ⟨B1, 0, none⟩) := by simpa using h4
  have h5' : tmps[5]?.getD undef = .pointer (some ⟨B2, 0, none⟩) := by simpa using h5
  have l5 : (loadVar 4 ⟨B2, 0, none⟩).run Try.prog W = .ok bv W := by
    simp [loadVar, isAgg, c5, go_sem]
  simp [results, Try.results13, h4', h5', asAddr, l4, l5]

theorem set_here {W : World} {B i : Nat} {arr : Array Value} {t : TypeId} {u : Value} (h : W.heap[B]? = some (.cells arr t)) : (W.setCell ⟨B, i, none⟩ u).heap[B]? = some (.cells (arr.setIfInBounds i u) t) := by
  obtain ⟨hlt, hk⟩ := Array.getElem?_eq_some_iff.1 h
  show (W.heap.modify B _)[B]? = _
  rw [Array.getElem?_eq_getElem (by rw [Array.size_modify]; exact hlt), Array.getElem_modify_self, hk]
  rfl
theorem set_there {W : World} {B B' i : Nat} {u : Value} (h : B ≠ B') : (W.setCell ⟨B', i, none⟩ u).heap[B]? = W.heap[B]? := by
  show (W.heap.modify B' _)[B]? = _
  rw [Array.getElem?_modify, if_neg (fun e => h e.symm)]

set_option maxRecDepth 100000 in
set_option maxHeartbeats 4000000 in
theorem look_in (F : Fence) (n : Nat) (h13 : F.fn 13) (h33 : F.fn 33) (h48 : F.fn 48) (hro : F.round = none) (hn : 4 ≤ n) (b off len cap : Nat) (V : Nat → Int) (C : Nat → T4) (v : Int) (hreach : len ≤ 1000000) (a : Option Addr) (ha : 0 < len → a = some ⟨b, off, none⟩) (w : World)
    (hb : 0 < len → b < w.heap.size) (hI : BindsAt w b off len V C) :
    CallsIn F n Try.prog 13 #[.slice a len cap, .int .i64 v] w fun e w' => e = .returned (lookOf V C v (upto (fun j => len - 1 - j) len)) ∧ Below w.heap.size w w' := by
  have h1 : 1 ≤ n := by omega
  refine callsIn_of_wp_marks Try.func13 rfl h13 ?_ hro
  simp only [Try.ntmps13, List.size_toArray, List.length_cons, List.length_nil, Nat.reduceAdd, Nat.reduceSub, Array.replicate_succ, Array.replicate_zero, List.push_toArray, List.append_toArray, List.nil_append, List.cons_append]
  gi_wp2_with (gi_at_call 33; refine (back_in F (n - 1) h33 hro _ _ _ _).mono ?_; rintro e w' ⟨rfl, rfl⟩)
  obtain ⟨W0, hW0⟩ : ∃ W0, ((((w.alloc (Obj.cells #[Value.int IntKind.i64 v] 2)).alloc (Obj.cells #[Value.int IntKind.i64 0, Value.string { data := #[] }, Value.int IntKind.i64 0, Value.slice none 0 0] 25)).alloc (Obj.cells #[Value.bool false] 4)).alloc (Obj.cells #[Value.slice a len cap] 22)) = W0 := ⟨_, rfl⟩
  have hsz : W0.heap.size = w.heap.size + 4 := by rw [← hW0]; simp
  have g3 : W0.heap[w.heap.size]? = some (.cells #[.int .i64 v] 2) := by
    rw [← hW0]; exact heap_below (heap_below (heap_below (World.alloc_heap_new w _)))
  have g4 : W0.heap[w.heap.size + 1]? = some (.cells #[.int .i64 0, .string ⟨#[]⟩, .int .i64 0, .slice none 0 0] 25) := by
    rw [← hW0]
    have := World.alloc_heap_new (w.alloc (Obj.cells #[Value.int IntKind.i64 v] 2)) (Obj.cells #[Value.int IntKind.i64 0, Value.string { data := #[] }, Value.int IntKind.i64 0, Value.slice none 0 0] 25)
    rw [World.size_alloc] at this
    exact heap_below (heap_below this)
  have g5 : W0.heap[w.heap.size + 1 + 1]? = some (.cells #[.bool false] 4) := by
    rw [← hW0]
    have := World.alloc_heap_new ((w.alloc (Obj.cells #[Value.int IntKind.i64 v] 2)).alloc (Obj.cells #[Value.int IntKind.i64 0, Value.string { data := #[] }, Value.int IntKind.i64 0, Value.slice none 0 0] 25)) (Obj.cells #[Value.bool false] 4)
    rw [World.size_alloc, World.size_alloc] at this
    exact heap_below this
  have g6 : W0.heap[w.heap.size + 1 + 1 + 1]? = some (.cells #[.slice a len cap] 22) := by
    rw [← hW0]
    have := World.alloc_heap_new (((w.alloc (Obj.cells #[Value.int IntKind.i64 v] 2)).alloc (Obj.cells #[Value.int IntKind.i64 0, Value.string { data := #[] }, Value.int IntKind.i64 0, Value.slice none 0 0] 25)).alloc (Obj.cells #[Value.bool false] 4)) (Obj.cells #[Value.slice a len cap] 22)
    rw [World.size_alloc, World.size_alloc, World.size_alloc] at this
    exact this
  have hB0 : Below w.heap.size w W0 := by
    rw [← hW0]
    exact ((((Below.refl _ w).alloc (Nat.le_refl _) _).alloc (by simp) _).alloc (by simp; omega) _).alloc (by simp; omega) _
  rw [hW0]
  have hs := back_stops F (n - 1) h48 hro (by omega) (w.heap.size + 1 + 1 + 1) W0.heap.size b off len cap V C hreach a ha W0 (Nat.le_refl _) (by omega) (fun h => by have := hb h; omega) (by simp [World.cell?, g6]) (hI.below hb hB0)
  refine wpIn_rangeFunc_ownH hro h1 (gf := 48) (lb := #[.pointer (some ⟨w.heap.size + 1 + 1 + 1, 0, none⟩)]) rfl h48 (enters_of Try.func48 (by kernel_rfl) rfl) hs belowK_t (belowK_b (Nat.le_refl _)) (Below.refl _ _) (fun _ => rfl)
    (fun pre W => W.heap[w.heap.size]? = some (.cells #[.int .i64 v] 2) ∧ W.heap[w.heap.size + 1]? = some (.cells #[.int .i64 0, .string ⟨#[]⟩, .int .i64 0, .slice none 0 0] 25) ∧ W.heap[w.heap.size + 1 + 1]? = some (.cells #[.bool false] 4) ∧ (∀ j ∈ pre, V j ≠ v) ∧ Below W0.heap.size W0 W)
    (fun c pre W => c = .ret ∧ W.heap[w.heap.size + 1 + 1]? = some (.cells #[.bool true] 4) ∧ (∃ pre' j, pre = pre' ++ [j] ∧ (∀ j ∈ pre', V j ≠ v) ∧ V j = v ∧ W.heap[w.heap.size + 1]? = some (.cells #[(.int .i64 (C j).k), (.string (C j).s), (.int .i64 (C j).n), (.slice (C j).a (C j).l (C j).c)] 25)) ∧ Below w.heap.size w W)
    ?hI ?hIx ?h0 
    (fun x a' W => ∃ Bx, W0.heap.size ≤ Bx ∧ W.heap[Bx]? = some (.cells #[.int .i64 (V x), (.int .i64 (C x).k), (.string (C x).s), (.int .i64 (C x).n), (.slice (C x).a (C x).l (C x).c)] 41) ∧ a' = { tmps := #[.slice a len cap, .int .i64 v, undef, .pointer (some ⟨w.heap.size, 0, none⟩), .pointer (some ⟨w.heap.size + 1, 0, none⟩), .pointer (some ⟨w.heap.size + 1 + 1, 0, none⟩), undef, .pointer (some ⟨Bx, 0, none⟩), .slice a len cap, .func (.func 48) #[] #[.pointer (some ⟨w.heap.size + 1 + 1 + 1, 0, none⟩)], .int .i64 x, bindV V C x, undef, undef, undef, undef, undef, undef, undef], defers := [] })
    ?hAx ?assign ?body ?done ?stop
  case h0 => exact ⟨g3, g4, g5, by simp, Below.refl _ _⟩
  case hI =>
    intro s A B row h hg hr
    obtain ⟨e1, e2, e3, e4, e5⟩ := h
    have hr' := fun r e => (hr r e).2
    exact ⟨cells_own _ _ rfl s A B row e1 hg hr', cells_own _ _ rfl s A B row e2 hg hr', cells_own _ _ rfl s A B row e3 hg hr', e4, ownFrom_below (Nat.le_refl _) (Nat.le_refl _) s A B row e5 hg hr⟩
  case hIx =>
    intro c s A B row h hg hr
    obtain ⟨e1, e2, ⟨pre', j, e3, e4, e5, e6⟩, e7⟩ := h
    have hr' := fun r e => (hr r e).2
    exact ⟨e1, cells_own _ _ rfl s A B row e2 hg hr', ⟨pre', j, e3, e4, e5, cells_own _ _ rfl s A B row e6 hg hr'⟩, ownFrom_below (Nat.le_refl _) (by omega) s A B row e7 hg hr⟩
  case hAx =>
    intro x a' s A B row h hg hr
    obtain ⟨Bx, e1, e2, e3⟩ := h
    exact ⟨Bx, e1, cells_own _ _ rfl s A B row e2 hg (fun r e => (hr r e).2), e3⟩
  case assign =>
    rintro l pre x W K hi hK
    simp only [bindV]
    gi_wp2
    obtain ⟨e3, e4, e5, hpre, hB⟩ := hi
    exact hK _ _ ((KeepsOthers.alloc _ _).from _) ((Below.refl _ W).alloc hB.size _) ⟨heap_below e3, heap_below e4, heap_below e5, hpre, hB.alloc hB.size _⟩ ⟨W.heap.size, hB.size, World.alloc_heap_new W _, rfl⟩
  case body =>
    rintro l pre x a' W hl ⟨r, hr⟩ ⟨e3, e4, e5, hpre, hB⟩ ⟨Bx, hBx, eX, rfl⟩ hlt
    have x0 : W.cell? ⟨Bx, 0, none⟩ = some (.int .i64 (V x)) := by simp [World.cell?, eX]
    have x1 : W.cell? ⟨Bx, 1, none⟩ = some (.int .i64 (C x).k) := by simp [World.cell?, eX]
    have x2 : W.cell? ⟨Bx, 2, none⟩ = some (.string (C x).s) := by simp [World.cell?, eX]
    have x3 : W.cell? ⟨Bx, 3, none⟩ = some (.int .i64 (C x).n) := by simp [World.cell?, eX]
    have x4 : W.cell? ⟨Bx, 4, none⟩ = some (.slice (C x).a (C x).l (C x).c) := by simp [World.cell?, eX]
    have v3 : W.cell? ⟨w.heap.size, 0, none⟩ = some (.int .i64 v) := by simp [World.cell?, e3]
    have y0 : W.cell? ⟨w.heap.size + 1, 0, none⟩ = some (.int .i64 0) := by simp [World.cell?, e4]
    have y1 : W.cell? ⟨w.heap.size + 1, 1, none⟩ = some (.string ⟨#[]⟩) := by simp [World.cell?, e4]
    have y2 : W.cell? ⟨w.heap.size + 1, 2, none⟩ = some (.int .i64 0) := by simp [World.cell?, e4]
    have y3 : W.cell? ⟨w.heap.size + 1, 3, none⟩ = some (.slice none 0 0) := by simp [World.cell?, e4]
    have z0 : W.cell? ⟨w.heap.size + 1 + 1, 0, none⟩ = some (.bool false) := by simp [World.cell?, e5]
    have f0 : ∀ i, W.frozen? ⟨w.heap.size + 1, i, none⟩ = false := by intro i; simp [World.frozen?, e4]
    have f1 : W.frozen? ⟨w.heap.size + 1 + 1, 0, none⟩ = false := by simp [World.frozen?, e5]
    have k0 := f0 0
    have k1 := f0 1
    have k2 := f0 2
    have k3 := f0 3
    have hBw : Below w.heap.size w W := hB0.trans (hB.mono (by omega))
    by_cases hv : V x = v
    · gi_wp2
      refine ⟨((((((KeepsOthers.setCell _ _ _).trans (KeepsOthers.setCell _ _ _)).trans (KeepsOthers.setCell _ _ _)).trans (KeepsOthers.setCell _ _ _)).trans (KeepsOthers.setCell _ _ _)).from _), rfl, ?_, ⟨pre, x, rfl, hpre, hv, ?_⟩, ?_⟩
      · rw [set_here (arr := #[.bool false]) (t := 4)]
        · rfl
        · rw [set_there (by omega), set_there (by omega), set_there (by omega), set_there (by omega)]; exact e5
      · rw [set_there (by omega)]
        rw [set_here (set_here (set_here (set_here e4)))]
        rfl
      · exact ((((hBw.setCell (p := ⟨w.heap.size + 1, 0, none⟩) (by simp) _).setCell (p := ⟨w.heap.size + 1, 1, none⟩) (by simp) _).setCell (p := ⟨w.heap.size + 1, 2, none⟩) (by simp) _).setCell (p := ⟨w.heap.size + 1, 3, none⟩) (by simp) _).setCell (p := ⟨w.heap.size + 1 + 1, 0, none⟩) (by simp; omega) _
    · gi_wp2
      refine ⟨(KeepsOthers.refl W).from _, Below.refl _ _, e3, e4, e5, ?_, hB⟩
      intro j hj
      rcases List.mem_append.1 hj with hj | hj
      · exact hpre j hj
      · rw [List.mem_singleton.1 hj]; exact hv
  case done =>
    rintro D xs W hD rfl ⟨e3, e4, e5, hpre, hB⟩ hK
    have y0 : W.cell? ⟨w.heap.size + 1, 0, none⟩ = some (.int .i64 0) := by simp [World.cell?, e4]
    have y1 : W.cell? ⟨w.heap.size + 1, 1, none⟩ = some (.string ⟨#[]⟩) := by simp [World.cell?, e4]
    have y2 : W.cell? ⟨w.heap.size + 1, 2, none⟩ = some (.int .i64 0) := by simp [World.cell?, e4]
    have y3 : W.cell? ⟨w.heap.size + 1, 3, none⟩ = some (.slice none 0 0) := by simp [World.cell?, e4]
    have z0 : W.cell? ⟨w.heap.size + 1 + 1, 0, none⟩ = some (.bool false) := by simp [World.cell?, e5]
    have f0 : ∀ i, W.frozen? ⟨w.heap.size + 1, i, none⟩ = false := by intro i; simp [World.frozen?, e4]
    have f1 : W.frozen? ⟨w.heap.size + 1 + 1, 0, none⟩ = false := by simp [World.frozen?, e5]
    have k0 := f0 0
    have k1 := f0 1
    have k2 := f0 2
    have k3 := f0 3
    have hBw : Below w.heap.size w W := hB0.trans (hB.mono (by omega))
    gi_wp2
    refine ⟨by simp, .inl ⟨_, _, rfl, run_takeDeferred (ds := []) ?_, ?_⟩⟩
    · rw [set_there (by omega), set_there (by omega), set_there (by omega), set_there (by omega), set_there (by omega)]; exact hK
    · refine ⟨_, look_results (B1 := w.heap.size + 1) (B2 := w.heap.size + 1 + 1) (cs := #[.int .i64 0, .string ⟨#[]⟩, .int .i64 0, .slice none 0 0]) (bv := .bool false) rfl rfl ?_ rfl ?_, ?_, ?_⟩
      · rw [World.putObj_heap_other (by omega), set_there (by omega), set_here (set_here (set_here (set_here e4)))]; rfl
      · rw [World.putObj_heap_other (by omega), set_here (arr := #[.bool false])]
        · rfl
        · rw [set_there (by omega), set_there (by omega), set_there (by omega), set_there (by omega)]; exact e5
      · rw [lookOf_none hpre]
      · refine (((((hBw.setCell (p := ⟨w.heap.size + 1, 0, none⟩) (by simp) _).setCell (p := ⟨w.heap.size + 1, 1, none⟩) (by simp) _).setCell (p := ⟨w.heap.size + 1, 2, none⟩) (by simp) _).setCell (p := ⟨w.heap.size + 1, 3, none⟩) (by simp) _).setCell (p := ⟨w.heap.size + 1 + 1, 0, none⟩) (by simp; omega) _).trans (belowK_b (w := w) (Nat.le_refl _) _ D (.deferred (some [])) _ (by omega) ?_ rfl rfl)
        rw [set_there (by omega), set_there (by omega), set_there (by omega), set_there (by omega), set_there (by omega)]; exact hK
  case stop =>
    rintro D c pre W hD ⟨k, hk, rfl⟩ ⟨rfl, e5, ⟨pre', j, hpre, hne, hv, e4⟩, hB⟩ hK
    gi_wp2
    refine ⟨by simp, .inl ⟨_, _, rfl, run_takeDeferred hK, ?_⟩⟩
    refine ⟨_, look_results (B1 := w.heap.size + 1) (B2 := w.heap.size + 1 + 1) rfl rfl ((World.putObj_heap_other (by omega)).trans e4) rfl ((World.putObj_heap_other (by omega)).trans e5), ?_, hB.trans (belowK_b (w := w) (Nat.le_refl _) W D _ _ (by omega) hK rfl rfl)⟩
    obtain ⟨m, rfl⟩ : ∃ m, len = k + m := ⟨len - k, by omega⟩
    obtain ⟨r, hr⟩ := upto_le (fun j => k + m - 1 - j) k m
    rw [hr, hpre, List.append_assoc, List.singleton_append, lookOf_some hv hne]
end Go.Proofs.Ytpgoibncgekflaa
