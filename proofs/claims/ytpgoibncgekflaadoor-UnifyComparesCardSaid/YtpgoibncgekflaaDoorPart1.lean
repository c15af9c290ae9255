/- Texts of this claim, put together. -/
import Derived.RangeFuncNested
import Derived.RangeFuncBound
import Derived.RangeFuncCalls
import Derived.RangeFuncLeaves
import Derived.RangeFuncFrom
import Derived.Laws.Rows
import Derived.KernelRfl
import Derived.Shelf.Abstract
import Derived.WalkKit
import Derived.OwnWalkIn
import Derived.TacticsInMore
import Derived.LoopNIn
import Derived.LoopIn
import Derived.Test.YtpgoibncgekflaaDoorProg
import Derived.Test.YtpgoibncgekflaaDoorEval2
import Derived.Test.YtpgoibncgekflaaDoorChecked
import Derived.Lib.Strings
import Derived.Lib.Slices
import Derived.Lib.Walk
import Derived.Lib.Bytealg
import Derived.Ground.NamesProg
import Derived.Shelf.Unicode.ValidAny
/-! subst.Look walked: a range over slices.Backward. -/
section
namespace Go.Proofs.YtpgoibncgekflaaDoor
open Go Go.RowKit Go.Shelf Go.Proofs
attribute [local go_sem] Oper.semAt_some

def upto {α : Type} (f : Nat → α) (k : Nat) : List α := (List.range k).map f
theorem upto_succ {α : Type} (f : Nat → α) (k : Nat) : upto f (k + 1) = upto f k ++ [f k] := by simp [upto, List.range_succ]
theorem upto_length {α : Type} (f : Nat → α) (k : Nat) : (upto f k).length = k := by simp [upto]

theorem upto_le {α : Type} (f : Nat → α) (k : Nat) : ∀ m, ∃ r, upto f (k + m) = upto f k ++ r
  | 0 => ⟨[], by simp⟩
  | m + 1 => by
    obtain ⟨r, hr⟩ := upto_le f k m
    exact ⟨r ++ [f (k + m)], by rw [← Nat.add_assoc, upto_succ, hr, List.append_assoc]⟩

structure T4 where
  k : Int
  s : ByteArray
  n : Int
  a : Option Addr
  l : Nat
  c : Nat

/-- the cells of an element: the Var, the term -/
def bindV (V : Nat → Int) (C : Nat → T4) (j : Nat) : Value := .agg #[.int .i64 (V j), (.int .i64 (C j).k), (.string (C j).s), (.int .i64 (C j).n), (.slice (C j).a (C j).l (C j).c)]

set_option maxRecDepth 100000 in
set_option maxHeartbeats 4000000 in
theorem back1_in (F : Fence) (n : Nat) (h73 : F.fn 73) (hro : F.round = none) (hn : 1 ≤ n) (l Bs n₀ b off len cap : Nat) (V : Nat → Int) (C : Nat → T4) (hreach : len ≤ 1000000) (hb : b < n₀) (J Jx : List Nat → World → Prop)
    (hY : ∀ pre (x : Nat) W, J pre W → pre.length < len → YieldAt F (n - 1) Tryd.prog l #[.int .i64 (x : Int), bindV V C x] W fun e W' =>
      (e = .returned (.bool true) ∧ J (pre ++ [x]) W' ∧ Below n₀ W W') ∨ (e = .returned (.bool false) ∧ Jx (pre ++ [x]) W'))
    (W : World) (a : Option Addr) (ha : 0 < len → a = some ⟨b, off, none⟩) (hBs : W.cell? ⟨Bs, 0, none⟩ = some (.slice a len cap)) (hBs' : Bs < n₀)
    (hc : ∀ j, j < len → W.cell? ⟨b, off + j * 5, none⟩ = some (.int .i64 (V j)) ∧ W.cell? ⟨b, off + j * 5 + 1, none⟩ = some ((.int .i64 (C j).k)) ∧ W.cell? ⟨b, off + j * 5 + 2, none⟩ = some ((.string (C j).s)) ∧ W.cell? ⟨b, off + j * 5 + 3, none⟩ = some ((.int .i64 (C j).n)) ∧ W.cell? ⟨b, off + j * 5 + 4, none⟩ = some ((.slice (C j).a (C j).l (C j).c))) (h0 : J [] W) :
    CallsIn F n Tryd.prog 73 #[.func (.yield l) #[] #[], .pointer (some ⟨Bs, 0, none⟩)] W fun e W' => (∃ v, e = .returned v) ∧
      ((∃ ys, ys = upto (fun j => len - 1 - j) len ∧ J ys W') ∨ (∃ pre, (∃ k, k ≤ len ∧ pre = upto (fun j => len - 1 - j) k) ∧ Jx pre W')) := by
  refine callsIn_of_wp Tryd.func73 rfl h73 ?_ hro
  simp only [Tryd.ntmps73, List.size_toArray, List.length_cons, List.length_nil, Nat.reduceAdd, Nat.reduceSub, Array.replicate_succ, Array.replicate_zero, List.push_toArray, List.append_toArray, List.nil_append, List.cons_append]
  gi_wp2
  gi_loopw [3] (fun i wr => ∃ k : Nat, k ≤ len ∧ i = .int .i64 ((len : Int) - 1 - k) ∧ J (upto (fun j => len - 1 - j) k) wr ∧ Below n₀ W wr)
    (fun i _ => (intOf i + 1).toNat)
  case atStart => exact ⟨0, Nat.zero_le _, by simp, h0, Below.refl _ _⟩
  case round =>
    obtain ⟨k, hk, rfl, hJs, hnx⟩ := hrel
    have hBx := (hnx.cell (p := ⟨Bs, 0, none⟩) hBs').trans hBs
    by_cases hlt : k < len
    · obtain rfl := ha (by omega)
      obtain ⟨fn, tmps, assign, body, hy, hR⟩ := hY _ (len - 1 - k) wr hJs (by rw [upto_length]; exact hlt)
      dsimp only [bindV] at hy
      rw [show ((len - 1 - k : Nat) : Int) = (len : Int) - 1 - k by omega] at hy
      obtain ⟨c0, c1, c2, c3, c4⟩ := hc (len - 1 - k) (by omega)
      have d0 := (hnx.cell (p := ⟨b, off + (len - 1 - k) * 5, none⟩) hb).trans c0
      have d1 := (hnx.cell (p := ⟨b, off + (len - 1 - k) * 5 + 1, none⟩) hb).trans c1
      have d2 := (hnx.cell (p := ⟨b, off + (len - 1 - k) * 5 + 2, none⟩) hb).trans c2
      have d3 := (hnx.cell (p := ⟨b, off + (len - 1 - k) * 5 + 3, none⟩) hb).trans c3
      have d4 := (hnx.cell (p := ⟨b, off + (len - 1 - k) * 5 + 4, none⟩) hb).trans c4
      gi_wp2
      refine hR.mono ?_
      rintro e W3 (⟨rfl, hJ3, hk3⟩ | ⟨rfl, hJx3⟩)
      · gi_wp2
        go_roundw
        case rel => exact ⟨k + 1, by omega, by congr 1; omega, by rw [upto_succ]; exact hJ3, hnx.trans hk3⟩
        case measure => simp [intOf]; omega
      · gi_wp2
        refine bodyPost_ret (results_none rfl _ _ _) rfl ?_
        exact ⟨⟨_, rfl⟩, .inr ⟨_, ⟨k + 1, by omega, (upto_succ _ _).symm⟩, hJx3⟩⟩
    · obtain rfl : k = len := by omega
      gi_wp2
      go_end0
      exact ⟨⟨_, rfl⟩, .inl ⟨_, rfl, hJs⟩⟩

set_option maxHeartbeats 1000000 in
theorem back_in (F : Fence) (n : Nat) (h69 : F.fn 69) (hro : F.round = none) (a : Option Addr) (len cap : Nat) (w : World) :
    CallsIn F n Tryd.prog 69 #[.slice a len cap] w fun e w' => e = .returned (.func (.func 73) #[] #[.pointer (some ⟨w.heap.size, 0, none⟩)]) ∧ w' = w.alloc (.cells #[.slice a len cap] 22) := by
  refine callsIn_of_wp Tryd.func69 rfl h69 ?_ hro
  simp only [Tryd.ntmps69, List.size_toArray, List.length_cons, List.length_nil, Nat.reduceAdd, Nat.reduceSub, Array.replicate_succ, Array.replicate_zero, List.push_toArray, List.append_toArray, List.nil_append, List.cons_append]
  gi_wp2
  go_ret
  exact ⟨rfl, rfl⟩

/-- what an element's cells hold -/
def BindsAt (w : World) (b off len : Nat) (V : Nat → Int) (C : Nat → T4) : Prop :=
  ∀ j, j < len → w.cell? ⟨b, off + j * 5, none⟩ = some (.int .i64 (V j)) ∧ w.cell? ⟨b, off + j * 5 + 1, none⟩ = some ((.int .i64 (C j).k)) ∧ w.cell? ⟨b, off + j * 5 + 2, none⟩ = some ((.string (C j).s)) ∧ w.cell? ⟨b, off + j * 5 + 3, none⟩ = some ((.int .i64 (C j).n)) ∧ w.cell? ⟨b, off + j * 5 + 4, none⟩ = some ((.slice (C j).a (C j).l (C j).c))
theorem BindsAt.below {w w' : World} {b off len n : Nat} {V : Nat → Int} {C : Nat → T4} (h : BindsAt w b off len V C) (hb : 0 < len → b < n) (hw : Below n w w') : BindsAt w' b off len V C := by
  intro j hj
  have hb := hb (by omega)
  obtain ⟨h0, h1, h2, h3, h4⟩ := h j hj
  exact ⟨(hw.cell (p := ⟨b, _, none⟩) hb).trans h0, (hw.cell (p := ⟨b, _, none⟩) hb).trans h1, (hw.cell (p := ⟨b, _, none⟩) hb).trans h2, (hw.cell (p := ⟨b, _, none⟩) hb).trans h3, (hw.cell (p := ⟨b, _, none⟩) hb).trans h4⟩

theorem back_stops (F : Fence) (n : Nat) (h73 : F.fn 73) (hro : F.round = none) (hn : 1 ≤ n) (Bs n₀ b off len cap : Nat) (V : Nat → Int) (C : Nat → T4) (hreach : len ≤ 1000000) (a : Option Addr) (ha : 0 < len → a = some ⟨b, off, none⟩) (w : World)
    (hn0 : n₀ ≤ w.heap.size) (hBs : Bs < n₀) (hb : 0 < len → b < n₀) (hc : w.cell? ⟨Bs, 0, none⟩ = some (.slice a len cap)) (hI : BindsAt w b off len V C) :
    SeqStopsK F n Tryd.prog 73 #[.pointer (some ⟨Bs, 0, none⟩)] (fun x : Nat => #[Value.int .i64 (x : Int), bindV V C x]) (Below n₀) (fun ys => ys = upto (fun j => len - 1 - j) len) (fun pre => ∃ k, k ≤ len ∧ pre = upto (fun j => len - 1 - j) k) len w := fun l J Jx W hW _ _ hY h0 => by
  have hc' := (hW.cell (p := ⟨Bs, 0, none⟩) (by simp; omega)).trans hc
  have hI' := hI.below hb (hW.mono hn0)
  by_cases hlen : 0 < len
  · exact back1_in F n h73 hro hn l Bs n₀ b off len cap V C hreach (hb hlen) J Jx hY W a ha hc' hBs hI' h0
  · obtain rfl : len = 0 := by omega
    refine (back1_in F n h73 hro hn l Bs n₀ 0 0 0 cap V C hreach (by omega) J Jx hY W a (fun h => absurd h (by omega)) hc' hBs (fun j hj => absurd hj (by omega)) h0)

/-- the last one that binds v, of those that are passed -/
def lookOf (V : Nat → Int) (C : Nat → T4) (v : Int) : List Nat → Value
  | [] => .tuple #[.agg #[.int .i64 0, .string ⟨#[]⟩, .int .i64 0, .slice none 0 0], .bool false]
  | j :: r => if V j = v then .tuple #[.agg #[(.int .i64 (C j).k), (.string (C j).s), (.int .i64 (C j).n), (.slice (C j).a (C j).l (C j).c)], .bool true] else lookOf V C v r
theorem lookOf_none {V : Nat → Int} {C : Nat → T4} {v : Int} : ∀ {l : List Nat}, (∀ j ∈ l, V j ≠ v) → lookOf V C v l = .tuple #[.agg #[.int .i64 0, .string ⟨#[]⟩, .int .i64 0, .slice none 0 0], .bool false]
  | [], _ => rfl
  | j :: r, h => by rw [lookOf, if_neg (h j (by simp))]; exact lookOf_none (fun i hi => h i (by simp [hi]))
theorem lookOf_some {V : Nat → Int} {C : Nat → T4} {v : Int} {j : Nat} (hj : V j = v) : ∀ {l r : List Nat}, (∀ j ∈ l, V j ≠ v) → lookOf V C v (l ++ j :: r) = .tuple #[.agg #[(.int .i64 (C j).k), (.string (C j).s), (.int .i64 (C j).n), (.slice (C j).a (C j).l (C j).c)], .bool true]
  | [], _, _ => by simp [lookOf, hj]
  | i :: l, r, h => by rw [List.cons_append, lookOf, if_neg (h i (by simp))]; exact lookOf_some hj (fun i hi => h i (by simp [hi]))

theorem cells_own {β : Type} (B : Nat) (o : Obj) (ho : o.isCells = true) : Own (fun (_ : β) W => W.heap[B]? = some o) := fun s X Y row hs hg hrow =>
  (hg.block B (Array.getElem?_eq_some_iff.1 hs).1 (fun e' => by obtain ⟨o', ho', hc⟩ := hrow B e'.symm; rw [hs] at ho'; cases ho'; rw [ho] at hc; cases hc)).trans hs
theorem heap_below {w : World} {B : Nat} {o o' : Obj} (h : w.heap[B]? = some o) : (w.alloc o').heap[B]? = some o := (Below.heap_alloc w o' B (Array.getElem?_eq_some_iff.1 h).1).trans h

theorem look_results {W : World} {tmps : Array Value} {B1 B2 : Nat} {cs : Array Value} {bv : Value} (h4 : tmps.getD 4 undef = .pointer (some ⟨B1, 0, none⟩)) (h5 : tmps.getD 5 undef = .pointer (some ⟨B2, 0, none⟩))
    (e4 : W.heap[B1]? = some (.cells cs 25)) (hcs : cs.size = 4) (e5 : W.heap[B2]? = some (.cells #[bv] 4)) : (results Tryd.f59 tmps).run Tryd.prog W = .ok (.tuple #[.agg cs, bv]) W := by
  have hi : (Tryd.prog.info? 25).map (·.size) = some 4 := by kernel_rfl
  have l4 := run_loadVar_row W B1 25 25 cs (0, 0) _ e4 Tryd.underlying25 rfl (by rw [hcs]; exact hi)
  have c5 : W.cell? ⟨B2, 0, none⟩ = some bv := by simp [World.cell?, e5]
  have h4' : tmps[4]?.getD undef = .pointer (some ⟨B1, 0, none⟩) := by simpa using h4
  have h5' : tmps[5]?.getD undef = .pointer (some ⟨B2, 0, none⟩) := by simpa using h5
  have l5 : (loadVar 4 ⟨B2, 0, none⟩).run Tryd.prog W = .ok bv W := by
    simp [loadVar, isAgg, c5, go_sem]
  simp [results, Tryd.results59, h4', h5', asAddr, l4, l5]

theorem set_here {W : World} {B i : Nat} {arr : Array Value} {t : TypeId} {u : Value} (h : W.heap[B]? = some (.cells arr t)) : (W.setCell ⟨B, i, none⟩ u).heap[B]? = some (.cells (arr.setIfInBounds i u) t) := by
  obtain ⟨hlt, hk⟩ := Array.getElem?_eq_some_iff.1 h
  show (W.heap.modify B _)[B]? = _
  rw [Array.getElem?_eq_getElem (by rw [Array.size_modify]; exact hlt), Array.getElem_modify_self, hk]
  rfl
theorem set_there {W : World} {B B' i : Nat} {u : Value} (h : B ≠ B') : (W.setCell ⟨B', i, none⟩ u).heap[B]? = W.heap[B]? := by
  show (W.heap.modify B' _)[B]? = _
  rw [Array.getElem?_modify, if_neg (fun e => h e.symm)]

set_option maxRecDepth 100000 in
set_option maxHeartbeats 4000000 in
theorem look_in (F : Fence) (n : Nat) (h59 : F.fn 59) (h69 : F.fn 69) (h73 : F.fn 73) (hro : F.round = none) (hn : 4 ≤ n) (b off len cap : Nat) (V : Nat → Int) (C : Nat → T4) (v : Int) (hreach : len ≤ 1000000) (a : Option Addr) (ha : 0 < len → a = some ⟨b, off, none⟩) (w : World)
    (hb : 0 < len → b < w.heap.size) (hI : BindsAt w b off len V C) :
    CallsIn F n Tryd.prog 59 #[.slice a len cap, .int .i64 v] w fun e w' => e = .returned (lookOf V C v (upto (fun j => len - 1 - j) len)) ∧ Below w.heap.size w w' := by
  have h1 : 1 ≤ n := by omega
  refine callsIn_of_wp_marks Tryd.func59 rfl h59 ?_ hro
  simp only [Tryd.ntmps59, List.size_toArray, List.length_cons, List.length_nil, Nat.reduceAdd, Nat.reduceSub, Array.replicate_succ, Array.replicate_zero, List.push_toArray, List.append_toArray, List.nil_append, List.cons_append]
  gi_wp2_with (gi_at_call 69; refine (back_in F (n - 1) h69 hro _ _ _ _).mono ?_; rintro e w' ⟨rfl, rfl⟩)
  obtain ⟨W0, hW0⟩ : ∃ W0, ((((w.alloc (Obj.cells #[Value.int IntKind.i64 v] 2)).alloc (Obj.cells #[Value.int IntKind.i64 0, Value.string { data := #[] }, Value.int IntKind.i64 0, Value.slice none 0 0] 25)).alloc (Obj.cells #[Value.bool false] 4)).alloc (Obj.cells #[Value.slice a len cap] 22)) = W0 := ⟨_, rfl⟩
  have hsz : W0.heap.size = w.heap.size + 4 := by rw [← hW0]; simp
  have g3 : W0.heap[w.heap.size]? = some (.cells #[.int .i64 v] 2) := by
    rw [← hW0]; exact heap_below (heap_below (heap_below (World.alloc_heap_new w _)))
  have g4 : W0.heap[w.heap.size + 1]? = some (.cells #[.int .i64 0, .string ⟨#[]⟩, .int .i64 0, .slice none 0 0] 25) := by
    rw [← hW0]
    have := World.alloc_heap_new (w.alloc (Obj.cells #[Value.int IntKind.i64 v] 2)) (Obj.cells #[Value.int IntKind.i64 0, Value.string { data := #[] }, Value.int IntKind.i64 0, Value.slice none 0 0] 25)
    rw [World.size_alloc] at this
    exact heap_below (heap_below this)
  have g5 : W0.heap[w.heap.size + 1 + 1]? = some (.cells #[.bool false] 4) := by
    rw [← hW0]
    have := World.alloc_heap_new ((w.alloc (Obj.cells #[Value.int IntKind.i64 v] 2)).alloc (Obj.cells #[Value.int IntKind.i64 0, Value.string { data := #[] }, Value.int IntKind.i64 0, Value.slice none 0 0] 25)) (Obj.cells #[Value.bool false] 4)
    rw [World.size_alloc, World.size_alloc] at this
    exact heap_below this
  have g6 : W0.heap[w.heap.size + 1 + 1 + 1]? = some (.cells #[.slice a len cap] 22) := by
    rw [← hW0]
    have := World.alloc_heap_new (((w.alloc (Obj.cells #[Value.int IntKind.i64 v] 2)).alloc (Obj.cells #[Value.int IntKind.i64 0, Value.string { data := #[] }, Value.int IntKind.i64 0, Value.slice none 0 0] 25)).alloc (Obj.cells #[Value.bool false] 4)) (Obj.cells #[Value.slice a len cap] 22)
    rw [World.size_alloc, World.size_alloc, World.size_alloc] at this
    exact this
  have hB0 : Below w.heap.size w W0 := by
    rw [← hW0]
    exact ((((Below.refl _ w).alloc (Nat.le_refl _) _).alloc (by simp) _).alloc (by simp; omega) _).alloc (by simp; omega) _
  rw [hW0]
  have hs := back_stops F (n - 1) h73 hro (by omega) (w.heap.size + 1 + 1 + 1) W0.heap.size b off len cap V C hreach a ha W0 (Nat.le_refl _) (by omega) (fun h => by have := hb h; omega) (by simp [World.cell?, g6]) (hI.below hb hB0)
  refine wpIn_rangeFunc_ownH hro h1 (gf := 73) (lb := #[.pointer (some ⟨w.heap.size + 1 + 1 + 1, 0, none⟩)]) rfl h73 (enters_of Tryd.func73 (by kernel_rfl) rfl) hs belowK_t (belowK_b (Nat.le_refl _)) (Below.refl _ _) (fun _ => rfl)
    (fun pre W => W.heap[w.heap.size]? = some (.cells #[.int .i64 v] 2) ∧ W.heap[w.heap.size + 1]? = some (.cells #[.int .i64 0, .string ⟨#[]⟩, .int .i64 0, .slice none 0 0] 25) ∧ W.heap[w.heap.size + 1 + 1]? = some (.cells #[.bool false] 4) ∧ (∀ j ∈ pre, V j ≠ v) ∧ Below W0.heap.size W0 W)
    (fun c pre W => c = .ret ∧ W.heap[w.heap.size + 1 + 1]? = some (.cells #[.bool true] 4) ∧ (∃ pre' j, pre = pre' ++ [j] ∧ (∀ j ∈ pre', V j ≠ v) ∧ V j = v ∧ W.heap[w.heap.size + 1]? = some (.cells #[(.int .i64 (C j).k), (.string (C j).s), (.int .i64 (C j).n), (.slice (C j).a (C j).l (C j).c)] 25)) ∧ Below w.heap.size w W)
    ?hI ?hIx ?h0 
    (fun x a' W => ∃ Bx, W0.heap.size ≤ Bx ∧ W.heap[Bx]? = some (.cells #[.int .i64 (V x), (.int .i64 (C x).k), (.string (C x).s), (.int .i64 (C x).n), (.slice (C x).a (C x).l (C x).c)] 32) ∧ a' = { tmps := #[.slice a len cap, .int .i64 v, undef, .pointer (some ⟨w.heap.size, 0, none⟩), .pointer (some ⟨w.heap.size + 1, 0, none⟩), .pointer (some ⟨w.heap.size + 1 + 1, 0, none⟩), undef, .pointer (some ⟨Bx, 0, none⟩), .slice a len cap, .func (.func 73) #[] #[.pointer (some ⟨w.heap.size + 1 + 1 + 1, 0, none⟩)], .int .i64 x, bindV V C x, undef, undef, undef, undef, undef, undef, undef], defers := [] })
    ?hAx ?assign ?body ?done ?stop
  case h0 => exact ⟨g3, g4, g5, by simp, Below.refl _ _⟩
  case hI =>
    intro s A B row h hg hr
    obtain ⟨e1, e2, e3, e4, e5⟩ := h
    have hr' := fun r e => (hr r e).2
    exact ⟨cells_own _ _ rfl s A B row e1 hg hr', cells_own _ _ rfl s A B row e2 hg hr', cells_own _ _ rfl s A B row e3 hg hr', e4, ownFrom_below (Nat.le_refl _) (Nat.le_refl _) s A B row e5 hg hr⟩
  case hIx =>
    intro c s A B row h hg hr
    obtain ⟨e1, e2, ⟨pre', j, e3, e4, e5, e6⟩, e7⟩ := h
    have hr' := fun r e => (hr r e).2
    exact ⟨e1, cells_own _ _ rfl s A B row e2 hg hr', ⟨pre', j, e3, e4, e5, cells_own _ _ rfl s A B row e6 hg hr'⟩, ownFrom_below (Nat.le_refl _) (by omega) s A B row e7 hg hr⟩
  case hAx =>
    intro x a' s A B row h hg hr
    obtain ⟨Bx, e1, e2, e3⟩ := h
    exact ⟨Bx, e1, cells_own _ _ rfl s A B row e2 hg (fun r e => (hr r e).2), e3⟩
  case assign =>
    rintro l pre x W K hi hK
    simp only [bindV]
    gi_wp2
    obtain ⟨e3, e4, e5, hpre, hB⟩ := hi
    exact hK _ _ ((KeepsOthers.alloc _ _).from _) ((Below.refl _ W).alloc hB.size _) ⟨heap_below e3, heap_below e4, heap_below e5, hpre, hB.alloc hB.size _⟩ ⟨W.heap.size, hB.size, World.alloc_heap_new W _, rfl⟩
  case body =>
    rintro l pre x a' W hl ⟨r, hr⟩ ⟨e3, e4, e5, hpre, hB⟩ ⟨Bx, hBx, eX, rfl⟩ hlt
    have x0 : W.cell? ⟨Bx, 0, none⟩ = some (.int .i64 (V x)) := by simp [World.cell?, eX]
    have x1 : W.cell? ⟨Bx, 1, none⟩ = some (.int .i64 (C x).k) := by simp [World.cell?, eX]
    have x2 : W.cell? ⟨Bx, 2, none⟩ = some (.string (C x).s) := by simp [World.cell?, eX]
    have x3 : W.cell? ⟨Bx, 3, none⟩ = some (.int .i64 (C x).n) := by simp [World.cell?, eX]
    have x4 : W.cell? ⟨Bx, 4, none⟩ = some (.slice (C x).a (C x).l (C x).c) := by simp [World.cell?, eX]
    have v3 : W.cell? ⟨w.heap.size, 0, none⟩ = some (.int .i64 v) := by simp [World.cell?, e3]
    have y0 : W.cell? ⟨w.heap.size + 1, 0, none⟩ = some (.int .i64 0) := by simp [World.cell?, e4]
    have y1 : W.cell? ⟨w.heap.size + 1, 1, none⟩ = some (.string ⟨#[]⟩) := by simp [World.cell?, e4]
    have y2 : W.cell? ⟨w.heap.size + 1, 2, none⟩ = some (.int .i64 0) := by simp [World.cell?, e4]
    have y3 : W.cell? ⟨w.heap.size + 1, 3, none⟩ = some (.slice none 0 0) := by simp [World.cell?, e4]
    have z0 : W.cell? ⟨w.heap.size + 1 + 1, 0, none⟩ = some (.bool false) := by simp [World.cell?, e5]
    have f0 : ∀ i, W.frozen? ⟨w.heap.size + 1, i, none⟩ = false := by intro i; simp [World.frozen?, e4]
    have f1 : W.frozen? ⟨w.heap.size + 1 + 1, 0, none⟩ = false := by simp [World.frozen?, e5]
    have k0 := f0 0
    have k1 := f0 1
    have k2 := f0 2
    have k3 := f0 3
    have hBw : Below w.heap.size w W := hB0.trans (hB.mono (by omega))
    by_cases hv : V x = v
    · gi_wp2
      refine ⟨((((((KeepsOthers.setCell _ _ _).trans (KeepsOthers.setCell _ _ _)).trans (KeepsOthers.setCell _ _ _)).trans (KeepsOthers.setCell _ _ _)).trans (KeepsOthers.setCell _ _ _)).from _), rfl, ?_, ⟨pre, x, rfl, hpre, hv, ?_⟩, ?_⟩
      · rw [set_here (arr := #[.bool false]) (t := 4)]
        · rfl
        · rw [set_there (by omega), set_there (by omega), set_there (by omega), set_there (by omega)]; exact e5
      · rw [set_there (by omega)]
        rw [set_here (set_here (set_here (set_here e4)))]
        rfl
      · exact ((((hBw.setCell (p := ⟨w.heap.size + 1, 0, none⟩) (by simp) _).setCell (p := ⟨w.heap.size + 1, 1, none⟩) (by simp) _).setCell (p := ⟨w.heap.size + 1, 2, none⟩) (by simp) _).setCell (p := ⟨w.heap.size + 1, 3, none⟩) (by simp) _).setCell (p := ⟨w.heap.size + 1 + 1, 0, none⟩) (by simp; omega) _
    · gi_wp2
      refine ⟨(KeepsOthers.refl W).from _, Below.refl _ _, e3, e4, e5, ?_, hB⟩
      intro j hj
      rcases List.mem_append.1 hj with hj | hj
      · exact hpre j hj
      · rw [List.mem_singleton.1 hj]; exact hv
  case done =>
    rintro D xs W hD rfl ⟨e3, e4, e5, hpre, hB⟩ hK
    have y0 : W.cell? ⟨w.heap.size + 1, 0, none⟩ = some (.int .i64 0) := by simp [World.cell?, e4]
    have y1 : W.cell? ⟨w.heap.size + 1, 1, none⟩ = some (.string ⟨#[]⟩) := by simp [World.cell?, e4]
    have y2 : W.cell? ⟨w.heap.size + 1, 2, none⟩ = some (.int .i64 0) := by simp [World.cell?, e4]
    have y3 : W.cell? ⟨w.heap.size + 1, 3, none⟩ = some (.slice none 0 0) := by simp [World.cell?, e4]
    have z0 : W.cell? ⟨w.heap.size + 1 + 1, 0, none⟩ = some (.bool false) := by simp [World.cell?, e5]
    have f0 : ∀ i, W.frozen? ⟨w.heap.size + 1, i, none⟩ = false := by intro i; simp [World.frozen?, e4]
    have f1 : W.frozen? ⟨w.heap.size + 1 + 1, 0, none⟩ = false := by simp [World.frozen?, e5]
    have k0 := f0 0
    have k1 := f0 1
    have k2 := f0 2
    have k3 := f0 3
    have hBw : Below w.heap.size w W := hB0.trans (hB.mono (by omega))
    gi_wp2
    refine ⟨by simp, .inl ⟨_, _, rfl, run_takeDeferred (ds := []) ?_, ?_⟩⟩
    · rw [set_there (by omega), set_there (by omega), set_there (by omega), set_there (by omega), set_there (by omega)]; exact hK
    · refine ⟨_, look_results (B1 := w.heap.size + 1) (B2 := w.heap.size + 1 + 1) (cs := #[.int .i64 0, .string ⟨#[]⟩, .int .i64 0, .slice none 0 0]) (bv := .bool false) rfl rfl ?_ rfl ?_, ?_, ?_⟩
      · rw [World.putObj_heap_other (by omega), set_there (by omega), set_here (set_here (set_here (set_here e4)))]; rfl
      · rw [World.putObj_heap_other (by omega), set_here (arr := #[.bool false])]
        · rfl
        · rw [set_there (by omega), set_there (by omega), set_there (by omega), set_there (by omega)]; exact e5
      · rw [lookOf_none hpre]
      · refine (((((hBw.setCell (p := ⟨w.heap.size + 1, 0, none⟩) (by simp) _).setCell (p := ⟨w.heap.size + 1, 1, none⟩) (by simp) _).setCell (p := ⟨w.heap.size + 1, 2, none⟩) (by simp) _).setCell (p := ⟨w.heap.size + 1, 3, none⟩) (by simp) _).setCell (p := ⟨w.heap.size + 1 + 1, 0, none⟩) (by simp; omega) _).trans (belowK_b (w := w) (Nat.le_refl _) _ D (.deferred (some [])) _ (by omega) ?_ rfl rfl)
        rw [set_there (by omega), set_there (by omega), set_there (by omega), set_there (by omega), set_there (by omega)]; exact hK
  case stop =>
    rintro D c pre W hD ⟨k, hk, rfl⟩ ⟨rfl, e5, ⟨pre', j, hpre, hne, hv, e4⟩, hB⟩ hK
    gi_wp2
    refine ⟨by simp, .inl ⟨_, _, rfl, run_takeDeferred hK, ?_⟩⟩
    refine ⟨_, look_results (B1 := w.heap.size + 1) (B2 := w.heap.size + 1 + 1) rfl rfl ((World.putObj_heap_other (by omega)).trans e4) rfl ((World.putObj_heap_other (by omega)).trans e5), ?_, hB.trans (belowK_b (w := w) (Nat.le_refl _) W D _ _ (by omega) hK rfl rfl)⟩
    obtain ⟨m, rfl⟩ : ∃ m, len = k + m := ⟨len - k, by omega⟩
    obtain ⟨r, hr⟩ := upto_le (fun j => k + m - 1 - j) k m
    rw [hr, hpre, List.append_assoc, List.singleton_append, lookOf_some hv hne]
end Go.Proofs.YtpgoibncgekflaaDoor
end

/-! subst.Look as an oracle. -/
section
set_option linter.unusedVariables false
set_option linter.unusedSimpArgs false
namespace Go.Proofs.YtpgoibncgekflaaDoor
open Go Go.RowKit Go.AE Go.Proofs

def isSl : AV → Bool
  | .slc .. => true
  | .v (.slice _ _ _) => true
  | _ => false
def isB : AV → Bool
  | .agg [.v (.int .i64 _), .v (.int .i64 _), .v (.string _), .v (.int .i64 _), c] => isSl c
  | _ => false
def zeroTerm : AV := .agg [.v (.int .i64 0), .v (.string ⟨#[]⟩), .v (.int .i64 0), .v (.slice none 0 0)]
/-- the first of these that binds n -/
def lookA (n : Int) : List AV → AV
  | [] => .tup [zeroTerm, .v (.bool false)]
  | .agg (.v (.int .i64 v) :: t) :: r => if v = n then .tup [.agg t, .v (.bool true)] else lookA n r
  | _ :: r => lookA n r
def lookG (args : List AV) (h : List AO) : Option (AV × List AO) :=
  match args with
  | [.v (.slice none 0 0), .v (.int .i64 n)] => some (lookA n [], h)
  | [.slc 5 _ _ l, .v (.int .i64 n)] => if l.length ≤ 1000000 ∧ l.all isB = true then some (lookA n l.reverse, h) else none
  | _ => none

section
variable {I : Cells} {w w' : World} {σ : List AE.Loc}

theorem isSl_val {c : AV} {v : Value} (hc : isSl c = true) (hr : Rep I w σ c v) : ∃ a l n, v = .slice a l n := by
  cases c with
  | slc sz ex nn l => cases hr with | slc _ _ _ _ _ a cap b o g => exact ⟨_, _, _, rfl⟩
  | v x =>
    have : v = x := by cases hr; rfl
    subst this
    cases v <;> simp [isSl] at hc
    exact ⟨_, _, _, rfl⟩
  | _ => simp [isSl] at hc

theorem isB_form {el : AV} (h : isB el = true) : ∃ v k s n c, el = .agg [.v (.int .i64 v), .v (.int .i64 k), .v (.string s), .v (.int .i64 n), c] ∧ isSl c = true := by
  unfold isB at h
  split at h
  · exact ⟨_, _, _, _, _, rfl, h⟩
  · cases h

theorem upto_rev (l : List AV) : (upto (fun j => l.length - 1 - j) l.length).map (fun j => l.getD j .junk) = l.reverse := by
  apply List.ext_getElem
  · simp [upto]
  · intro i h1 h2
    simp [upto] at h1 ⊢
    rw [List.getElem?_eq_getElem (by omega)]
    rfl
theorem upto_lt {len : Nat} {j : Nat} (h : j ∈ upto (fun j => len - 1 - j) len) : j < len := by
  simp [upto] at h
  obtain ⟨k, h1, rfl⟩ := h
  omega
end

theorem zeroTerm_rep {I : Cells} {w : World} {σ : List AE.Loc} : Rep I w σ (.tup [zeroTerm, .v (.bool false)]) (.tuple #[.agg #[.int .i64 0, .string ⟨#[]⟩, .int .i64 0, .slice none 0 0], .bool false]) := by
  refine .tup σ _ _ rfl (fun i c hi => ?_)
  match i, hi with
  | 0, hi =>
    cases hi
    refine .agg σ _ _ rfl (fun i c hi => ?_) (fun i c hi => ?_)
    · match i, hi with
      | 0, hi => rfl
      | 1, hi => rfl
      | 2, hi => rfl
      | 3, hi => rfl
    · match i, hi with
      | 0, hi => cases hi; exact .v _ _
      | 1, hi => cases hi; exact .v _ _
      | 2, hi => cases hi; exact .v _ _
      | 3, hi => cases hi; exact .v _ _
  | 1, hi => cases hi; exact .v _ _

theorem look_enter (vals : Array Value) (w : World) : (callFunc 59 vals).run Tryd.prog w = .ok (.enter 59 vals) w := enters_of Tryd.func59 (by kernel_rfl) rfl vals w

theorem look_ends {B : Nat} {w0 w : World} {I : Cells} {σ : List AE.Loc} {h : List AO} (hI : AE.Inv B w0 I σ w h) {r : AV} {e : Ending} {v : Value} {w' : World} (he : e = .returned v) (hB : Below w.heap.size w w') (hr : Rep I w σ r v) : AE.Ends B w0 I σ w r h e w' := by
  have hext : Ext I w I w' := ⟨fun _ _ h => h, fun b x hi => hB.cell (p := ⟨b, x, none⟩) (hI.imm_lt hi)⟩
  refine ⟨v, I, σ, he, hI.same (hB.mono hI.base) hext (fun b x hi => by
    obtain ⟨u, hu⟩ := hI.imm b x hi
    exact ⟨u, (hext.cell b x hi).trans hu⟩) (fun j Lj hj hh => ⟨hB.block _ (hI.mine j Lj hj hh).2, fun _ h => h⟩), ⟨hext, Later.refl _, fun _ _ h => .inl h, hB.size⟩, hr.mono hext (Later.refl _)⟩

theorem look_ok : ∀ args h r h', lookG args h = some (r, h') → (∀ (vals : Array Value) (w : World), (callFunc 59 vals).run Tryd.prog w = .ok (.enter 59 vals) w) ∧
    ∀ B w0 I σ w (vals : Array Value), AE.Inv B w0 I σ w h → ArgsRep I w σ args vals → Calls Tryd.prog 59 vals w (AE.Ends B w0 I σ w r h') := by
  intro args h r h' hg
  refine ⟨look_enter, fun B w0 I σ w vals hI ha => ?_⟩
  have two : ∀ {x y : AV}, args = [x, y] → ∃ u v, vals = #[u, v] ∧ Rep I w σ x u ∧ Rep I w σ y v := by
    rintro x y rfl
    have hs := ha.size
    obtain ⟨l⟩ := vals
    match l, hs with
    | [u, v], _ => exact ⟨u, v, rfl, ha.rep 0 x rfl, ha.rep 1 y rfl⟩
  unfold lookG at hg
  split at hg
  · rename_i n
    cases hg
    obtain ⟨u, v, rfl, h1, h2⟩ := two rfl
    cases h1; cases h2
    have := look_in Fence.wide 4 trivial trivial trivial rfl (by omega) 0 0 0 0 (fun _ => 0) (fun _ => ⟨0, ⟨#[]⟩, 0, none, 0, 0⟩) n (by omega) none (fun h => absurd h (by omega)) w (fun h => absurd h (by omega)) (fun j hj => absurd hj (by omega))
    refine (callsIn_wide.1 this).mono ?_
    rintro e w' ⟨he, hB⟩
    exact look_ends hI he hB zeroTerm_rep
  · rename_i ex nn l n
    split at hg
    · rename_i hc
      obtain ⟨hlen, hall⟩ := hc
      cases hg
      obtain ⟨u, v, rfl, h1, h2⟩ := two rfl
      cases h2
      cases h1 with
      | slc _ _ _ _ _ a cap b o g haa hn hnil hcap hex hsz hcc hi h1 hr =>
        have hform : ∀ j, j < l.length → ∃ v k s n c, l[j]? = some (.agg [.v (.int .i64 v), .v (.int .i64 k), .v (.string s), .v (.int .i64 n), c]) ∧ isSl c = true := by
          intro j hj
          obtain ⟨v, k, s, n, c, h1, h2⟩ := isB_form (List.all_eq_true.1 hall l[j] (List.getElem_mem hj))
          exact ⟨v, k, s, n, c, by rw [List.getElem?_eq_getElem hj, h1], h2⟩
        have hcell : ∀ j, j < l.length → ∃ v k s n a m c ca, l[j]? = some (.agg [.v (.int .i64 v), .v (.int .i64 k), .v (.string s), .v (.int .i64 n), ca]) ∧
            g j 0 = .int .i64 v ∧ g j 1 = .int .i64 k ∧ g j 2 = .string s ∧ g j 3 = .int .i64 n ∧ g j 4 = .slice a m c ∧ Rep I w [] ca (.slice a m c) := by
          intro j hj
          obtain ⟨v, k, s, n, c, h1, h2⟩ := hform j hj
          have r0 := hr j _ 0 _ h1 rfl
          have r1 := hr j _ 1 _ h1 rfl
          have r2 := hr j _ 2 _ h1 rfl
          have r3 := hr j _ 3 _ h1 rfl
          have r4 := hr j _ 4 c h1 rfl
          obtain ⟨a, m, c', e4⟩ := isSl_val h2 r4
          rw [e4] at r4
          generalize g j 0 = g0 at r0 ⊢
          generalize g j 1 = g1 at r1 ⊢
          generalize g j 2 = g2 at r2 ⊢
          generalize g j 3 = g3 at r3 ⊢
          cases r0; cases r1; cases r2; cases r3
          exact ⟨v, k, s, n, a, m, c', c, h1, rfl, rfl, rfl, rfl, e4, r4⟩
        let V : Nat → Int := fun j => match g j 0 with | .int _ n => n | _ => 0
        let C : Nat → T4 := fun j => match g j 1, g j 2, g j 3, g j 4 with
          | .int _ k, .string s, .int _ n, .slice a m c => ⟨k, s, n, a, m, c⟩
          | _, _, _, _ => ⟨0, ⟨#[]⟩, 0, none, 0, 0⟩
        have hba : BindsAt w b o l.length V C := by
          intro j hj
          obtain ⟨v, k, s, n, a, m, c, ca, e, e0, e1, e2, e3, e4, _⟩ := hcell j hj
          have q : ∀ i c, ([AV.v (.int .i64 v), .v (.int .i64 k), .v (.string s), .v (.int .i64 n), ca] : List AV)[i]? = some c → w.cell? ⟨b, o + (j * 5 + i), none⟩ = some (g j i) := fun i c hi => hcc j _ i c e hi
          have p0 := q 0 _ rfl
          have p1 := q 1 _ rfl
          have p2 := q 2 _ rfl
          have p3 := q 3 _ rfl
          have p4 := q 4 _ rfl
          simp only [V, C, e0, e1, e2, e3, e4]
          rw [e0] at p0; rw [e1] at p1; rw [e2] at p2; rw [e3] at p3; rw [e4] at p4
          exact ⟨p0, p1, p2, p3, p4⟩
        have hbw : 0 < l.length → b < w.heap.size := by
          intro h0
          obtain ⟨v, k, s, n, a, m, c, ca, e, _⟩ := hcell 0 h0
          exact hI.imm_lt (hi 0 _ 0 _ e rfl)
        have := look_in Fence.wide 4 trivial trivial trivial rfl (by omega) b o l.length cap V C n hlen a (fun h => haa (by intro e; rw [e] at h; simp at h)) w hbw hba
        refine (callsIn_wide.1 this).mono ?_
        rintro e w' ⟨he, hB⟩
        refine look_ends hI he hB ?_
        rw [← upto_rev]
        have key : ∀ L : List Nat, (∀ j ∈ L, j < l.length) → Rep I w σ (lookA n (L.map fun j => l.getD j .junk)) (lookOf V C n L) := by
          intro L
          induction L with
          | nil => intro _; exact zeroTerm_rep
          | cons j L ih =>
            intro hL
            obtain ⟨v, k, s, n', a, m, c, ca, e, e0, e1, e2, e3, e4, r4⟩ := hcell j (hL j (by simp))
            have hget : l.getD j .junk = .agg [.v (.int .i64 v), .v (.int .i64 k), .v (.string s), .v (.int .i64 n'), ca] := by rw [List.getD_eq_getElem?_getD, e]; rfl
            have hV : V j = v := by simp only [V, e0]
            have hC : C j = ⟨k, s, n', a, m, c⟩ := by simp only [C, e1, e2, e3, e4]
            rw [List.map_cons, hget, lookA, lookOf, hV, hC]
            split
            · refine .tup σ _ _ rfl (fun i c hi => ?_)
              match i, hi with
              | 0, hi =>
                cases hi
                refine .agg σ _ _ rfl (fun i c hi => ?_) (fun i c hi => ?_)
                · match i, hi with
                  | 0, hi => rfl
                  | 1, hi => rfl
                  | 2, hi => rfl
                  | 3, hi => rfl
                · match i, hi with
                  | 0, hi => cases hi; exact .v _ _
                  | 1, hi => cases hi; exact .v _ _
                  | 2, hi => cases hi; exact .v _ _
                  | 3, hi => cases hi; exact r4.mono (Ext.refl _ _) (Later.nil _)
              | 1, hi => cases hi; exact .v _ _
            · exact ih (fun i hi => hL i (by simp [hi]))
        exact key _ (fun j hj => upto_lt hj)
    · cases hg
  · cases hg
end Go.Proofs.YtpgoibncgekflaaDoor
end

/-! strings.Compare, of any two strings: its contract (laid by the kit's own tool), and the same as an entry of the evaluator's table. -/
section
namespace Go.Proofs

set_option maxHeartbeats 1000000 in
set_option maxRecDepth 100000 in
/-- internal/bytealg.CompareString (what strings.Compare calls): IT RETURNS 'Lib.compareBytes a b'; the world is as it was. -/
theorem Tryd.bytealg_CompareString (a b : ByteArray) (w : World) :
    Calls Tryd.prog 62 #[.string a, .string b] w fun e w' => e = .returned (.int .i64 (Lib.compareBytes a.data.toList b.data.toList)) ∧ w' = w := by
  go_enter Tryd.func62, Tryd.ntmps62
  go_wp2
  rw [run_callFunc_extern Tryd.func71 (by kernel_rfl) (by kernel_rfl) (by kernel_rfl) (e := Extern.BytealgCompare.compare) (by kernel_rfl), Lib.run_compareString]
  simp only [Result.andThen]
  rw [Oper.upon_value]
  go_wp2
  go_ret
  exact ⟨rfl, rfl⟩

set_option maxHeartbeats 1000000 in
/-- strings.Compare: "Compare returns an integer comparing two strings lexicographically. The result will be 0 if a == b, -1 if a < b, and +1 if a > b.": IT RETURNS 'Lib.compareBytes a b'; the world is as it was. -/
theorem Tryd.strings_Compare (a b : ByteArray) (w : World) :
    Calls Tryd.prog 52 #[.string a, .string b] w fun e w' => e = .returned (.int .i64 (Lib.compareBytes a.data.toList b.data.toList)) ∧ w' = w := by
  go_enter Tryd.func52, Tryd.ntmps52
  go_wp2_with (go_at_call 62; refine (Tryd.bytealg_CompareString _ _ _).mono ?_; rintro e w' ⟨rfl, rfl⟩)
  go_ret
  exact ⟨rfl, rfl⟩

end Go.Proofs
namespace Go.Proofs.YtpgoibncgekflaaDoor
open Go Go.RowKit Go.AE Go.Proofs
def cmpG (args : List AV) (h : List AO) : Option (AV × List AO) := match args with
  | [.v (.string a), .v (.string b)] => some (.v (.int .i64 (Lib.compareBytes a.data.toList b.data.toList)), h)
  | _ => none
theorem cmp_enter (vals : Array Value) (w : World) : (callFunc 52 vals).run Tryd.prog w = .ok (.enter 52 vals) w := enters_of Tryd.func52 (by kernel_rfl) rfl vals w
theorem cmp_ok : ∀ args h r h', cmpG args h = some (r, h') → (∀ (vals : Array Value) (w : World), (callFunc 52 vals).run Tryd.prog w = .ok (.enter 52 vals) w) ∧
    ∀ B w0 I σ w (vals : Array Value), AE.Inv B w0 I σ w h → ArgsRep I w σ args vals → Calls Tryd.prog 52 vals w (AE.Ends B w0 I σ w r h') := by
  intro args h r h' hg
  refine ⟨cmp_enter, fun B w0 I σ w vals hI ha => ?_⟩
  unfold cmpG at hg
  split at hg
  · rename_i a b
    cases hg
    have hs := ha.size
    obtain ⟨l⟩ := vals
    match l, hs with
    | [u, v], _ =>
      have h1 := ha.rep 0 _ rfl
      have h2 := ha.rep 1 _ rfl
      cases h1
      cases h2
      refine (Tryd.strings_Compare a b w).mono ?_
      rintro e w' ⟨he, rfl⟩
      exact look_ends hI he (Below.refl _ _) (.v _ _)
  · cases hg
end Go.Proofs.YtpgoibncgekflaaDoor
end

/-! The contract of utf8.ValidString over this program, laid by the kit's own tool in plain words. -/
section
namespace Go.Proofs
open Go.Shelf
def Tryd.laysValid_ren : Go.Shelf.Ren := ⟨fun | 196 => 61 | 259 => 70 | n => n, fun | 9 => 9 | 4 => 4 | 3 => 3 | 5 => 5 | 12 => 12 | 119 => 96 | 0 => 0 | 46 => 100 | 139 => 99 | 138 => 98 | 53 => 102 | n => n, fun | 3 => 0 | 4 => 1 | n => n⟩
theorem Tryd.laysValid : Go.Proofs.Lays.n196 Tryd.prog Tryd.laysValid_ren := {
  mixed := by kernel_rfl
  f196 := Tryd.func61.trans (congrArg some (by kernel_rfl))
  f259 := Tryd.func70.trans (congrArg some (by kernel_rfl))
  t0 := Tryd.underlying0
  a0 := Tryd.isAgg0
  z0 := Tryd.sizeOf0
  v0 := Tryd.zeroValue0
  t3 := Tryd.underlying3
  a3 := Tryd.isAgg3
  z3 := Tryd.sizeOf3
  v3 := Tryd.zeroValue3
  t4 := Tryd.underlying4
  a4 := Tryd.isAgg4
  z4 := Tryd.sizeOf4
  v4 := Tryd.zeroValue4
  t5 := Tryd.underlying5
  a5 := Tryd.isAgg5
  z5 := Tryd.sizeOf5
  v5 := Tryd.zeroValue5
  t9 := Tryd.underlying9
  a9 := Tryd.isAgg9
  z9 := Tryd.sizeOf9
  v9 := Tryd.zeroValue9
  t12 := Tryd.underlying12
  a12 := Tryd.isAgg12
  z12 := Tryd.sizeOf12
  v12 := Tryd.zeroValue12
  t46 := Tryd.underlying100
  a46 := Tryd.isAgg100
  z46 := Tryd.sizeOf100
  v46 := Tryd.zeroValue100
  t53 := Tryd.underlying102
  a53 := Tryd.isAgg102
  z53 := Tryd.sizeOf102
  v53 := Tryd.zeroValue102
  t119 := Tryd.underlying96
  a119 := Tryd.isAgg96
  z119 := Tryd.sizeOf96
  t138 := Tryd.underlying98
  a138 := Tryd.isAgg98
  z138 := Tryd.sizeOf98
  v138 := Tryd.zeroValue98
  t139 := Tryd.underlying99
  a139 := Tryd.isAgg99
  z139 := Tryd.sizeOf99
  v139 := Tryd.zeroValue99
  g3 := by kernel_rfl
  g4 := by kernel_rfl }
end Go.Proofs
end

/-! utf8.ValidString as an entry of the evaluator's table, where the library's two tables lie. -/
section
set_option linter.unusedVariables false
namespace Go.Proofs.YtpgoibncgekflaaDoor
open Go Go.RowKit Go.AE Go.Proofs

/-- the two tables lie in the world in which the call begins -/
def K (B : Nat) (w : World) : Prop := B = w.heap.size ∧ Lib.Utf8Tabs (Tryd.laysValid_ren.g 3) (Tryd.laysValid_ren.g 4) w
theorem hKs : Holds K := fun B w0 I σ w h hK hI => ⟨rfl, Utf8Tabs_below hK.2 (hK.1 ▸ hI.below)⟩

def validG (args : List AV) (h : List AO) : Option (AV × List AO) := match args with
  | [.v (.string s)] => if s.size ≤ 9223372036854775807 then some (.v (.bool (Lib.validD s.data.toList)), h) else none
  | _ => none
theorem valid_enter (vals : Array Value) (w : World) : (callFunc 61 vals).run Tryd.prog w = .ok (.enter 61 vals) w := enters_of Tryd.func61 (by kernel_rfl) rfl vals w
theorem valid_ok {B : Nat} {w0 : World} (hK : K B w0) : ∀ args h r h', validG args h = some (r, h') → (∀ (vals : Array Value) (w : World), (callFunc 61 vals).run Tryd.prog w = .ok (.enter 61 vals) w) ∧
    ∀ I σ w (vals : Array Value), AE.Inv B w0 I σ w h → ArgsRep I w σ args vals → Calls Tryd.prog 61 vals w (AE.Ends B w0 I σ w r h') := by
  intro args h r h' hg
  refine ⟨valid_enter, fun I σ w vals hI ha => ?_⟩
  unfold validG at hg
  split at hg
  · rename_i s
    split at hg
    · rename_i hs
      cases hg
      have hsz := ha.size
      obtain ⟨l⟩ := vals
      match l, hsz with
      | [u], _ =>
        have h1 := ha.rep 0 _ rfl
        cases h1
        have cV : Calls Tryd.prog 61 #[.string s] w _ := Any.utf8_ValidString Tryd.laysValid s w hs (hKs B w0 I σ w h hK hI).2
        refine cV.mono ?_
        rintro e w' ⟨he, hB⟩
        exact look_ends hI he hB (.v _ _)
    · cases hg
  · cases hg
end Go.Proofs.YtpgoibncgekflaaDoor
end

/-! The functions of the program that the laws of this seat reach, as the evaluator carries them out, each checked against the loaded program. -/
section
set_option linter.unusedVariables false
set_option maxRecDepth 100000
namespace Go.Proofs.YtpgoibncgekflaaDoor
open Go Go.AE Go.Proofs
def ti2 : TI := ⟨1, 8, (.int .i64 0), (.int .i64)⟩
theorem tiOk2 : TIok Tryd.prog 2 ti2 := tiok_of (by kernel_rfl) (by kernel_rfl)
def ti3 : TI := ⟨1, 8, (.int .i64 0), (.int .i64)⟩
theorem tiOk3 : TIok Tryd.prog 3 ti3 := tiok_of (by kernel_rfl) (by kernel_rfl)
def ti4 : TI := ⟨1, 1, (.bool false), .bool⟩
theorem tiOk4 : TIok Tryd.prog 4 ti4 := tiok_of (by kernel_rfl) (by kernel_rfl)
def ti9 : TI := ⟨1, 16, (.string ⟨#[]⟩), .string⟩
theorem tiOk9 : TIok Tryd.prog 9 ti9 := tiok_of (by kernel_rfl) (by kernel_rfl)
def ti22 : TI := ⟨1, 24, (.slice none 0 0), (.slice 32)⟩
theorem tiOk22 : TIok Tryd.prog 22 ti22 := tiok_of (by kernel_rfl) (by kernel_rfl)
def ti23 : TI := ⟨1, 24, (.slice none 0 0), (.slice 25)⟩
theorem tiOk23 : TIok Tryd.prog 23 ti23 := tiok_of (by kernel_rfl) (by kernel_rfl)
def ti25 : TI := ⟨4, 56, (.agg #[(.int .i64 0), (.string ⟨#[]⟩), (.int .i64 0), (.slice none 0 0)]), (.struct #[⟨"Kind", 3, 0, false, "", "", 0⟩, ⟨"Name", 9, 1, false, "", "", 8⟩, ⟨"N", 2, 2, false, "", "", 24⟩, ⟨"Args", 23, 3, false, "", "", 32⟩])⟩
theorem tiOk25 : TIok Tryd.prog 25 ti25 := tiok_of (by kernel_rfl) (by kernel_rfl)
def ti29 : TI := ⟨1, 8, (.int .i64 0), (.int .i64)⟩
theorem tiOk29 : TIok Tryd.prog 29 ti29 := tiok_of (by kernel_rfl) (by kernel_rfl)
def ti32 : TI := ⟨5, 64, (.agg #[(.int .i64 0), (.int .i64 0), (.string ⟨#[]⟩), (.int .i64 0), (.slice none 0 0)]), (.struct #[⟨"Var", 2, 0, false, "", "", 0⟩, ⟨"To", 25, 1, false, "", "", 8⟩])⟩
theorem tiOk32 : TIok Tryd.prog 32 ti32 := tiok_of (by kernel_rfl) (by kernel_rfl)
def ti34 : TI := ⟨1, 24, (.slice none 0 0), (.slice 2)⟩
theorem tiOk34 : TIok Tryd.prog 34 ti34 := tiok_of (by kernel_rfl) (by kernel_rfl)
def ti54 : TI := ⟨1, 8, (.pointer none), (.pointer 56)⟩
theorem tiOk54 : TIok Tryd.prog 54 ti54 := tiok_of (by kernel_rfl) (by kernel_rfl)
def ti56 : TI := ⟨3, 40, (.agg #[(.slice none 0 0), (.int .i64 0), (.int .i64 0)]), (.struct #[⟨"b", 22, 0, false, "", "spinney/subst", 0⟩, ⟨"left", 3, 1, false, "", "spinney/subst", 24⟩, ⟨"deep", 3, 2, false, "", "spinney/subst", 32⟩])⟩
theorem tiOk56 : TIok Tryd.prog 56 ti56 := tiok_of (by kernel_rfl) (by kernel_rfl)
def ti58 : TI := ⟨1, 8, (.pointer none), (.pointer 63)⟩
theorem tiOk58 : TIok Tryd.prog 58 ti58 := tiok_of (by kernel_rfl) (by kernel_rfl)
def ti60 : TI := ⟨8, 112, (.agg #[(.int .i64 0), (.string ⟨#[]⟩), (.int .i64 0), (.slice none 0 0), (.int .i64 0), (.string ⟨#[]⟩), (.int .i64 0), (.slice none 0 0)]), (.struct #[⟨"x", 25, 0, false, "", "spinney/unify", 0⟩, ⟨"y", 25, 4, false, "", "spinney/unify", 56⟩])⟩
theorem tiOk60 : TIok Tryd.prog 60 ti60 := tiok_of (by kernel_rfl) (by kernel_rfl)
def ti61 : TI := ⟨1, 24, (.slice none 0 0), (.slice 60)⟩
theorem tiOk61 : TIok Tryd.prog 61 ti61 := tiok_of (by kernel_rfl) (by kernel_rfl)
def ti63 : TI := ⟨3, 56, (.agg #[(.slice none 0 0), (.int .i64 0), (.slice none 0 0)]), (.struct #[⟨"b", 22, 0, false, "", "spinney/unify", 0⟩, ⟨"left", 3, 1, false, "", "spinney/unify", 24⟩, ⟨"todo", 61, 2, false, "", "spinney/unify", 32⟩])⟩
theorem tiOk63 : TIok Tryd.prog 63 ti63 := tiok_of (by kernel_rfl) (by kernel_rfl)
def ti70 : TI := ⟨1, 8, (.pointer none), (.pointer 72)⟩
theorem tiOk70 : TIok Tryd.prog 70 ti70 := tiok_of (by kernel_rfl) (by kernel_rfl)
def ti72 : TI := ⟨1, 8, (.agg #[(.int .i64 0)]), (.struct #[⟨"N", 3, 0, false, "", "", 0⟩])⟩
theorem tiOk72 : TIok Tryd.prog 72 ti72 := tiok_of (by kernel_rfl) (by kernel_rfl)
def ti77 : TI := ⟨1, 8, (.pointer none), (.pointer 3)⟩
theorem tiOk77 : TIok Tryd.prog 77 ti77 := tiok_of (by kernel_rfl) (by kernel_rfl)
def ti86 : TI := ⟨1, 8, .nilFunc, (.func #[2] #[2] false)⟩
theorem tiOk86 : TIok Tryd.prog 86 ti86 := tiok_of (by kernel_rfl) (by kernel_rfl)
def ti89 : TI := ⟨1, 24, (.slice none 0 0), (.slice 3)⟩
theorem tiOk89 : TIok Tryd.prog 89 ti89 := tiok_of (by kernel_rfl) (by kernel_rfl)
def tys : List (TypeId × TI) := [(2, ti2), (3, ti3), (4, ti4), (9, ti9), (22, ti22), (23, ti23), (25, ti25), (29, ti29), (32, ti32), (34, ti34), (54, ti54), (56, ti56), (58, ti58), (60, ti60), (61, ti61), (63, ti63), (70, ti70), (72, ti72), (77, ti77), (86, ti86), (89, ti89)]
def pures : List FuncId := [3, 4, 5, 6, 7, 8, 9, 10, 11, 12, 13, 14, 15, 16, 17, 18, 19, 20, 21, 22, 23, 24, 25, 26, 27, 28, 29, 30, 31, 32, 33, 34, 36, 38, 40, 42, 43, 46, 47, 49, 50, 51, 53, 55, 57, 63, 64, 65, 66, 72, 59, 52, 61]
def lits : List TypeId := [61]
def T : Tb := ⟨fun t => tys.lookup t, fun f => pures.contains f, fun t => lits.contains t⟩
theorem hT : TbOk Tryd.prog T := tbok_of (fun p hp => by
  simp only [tys, List.mem_cons, List.not_mem_nil, or_false] at hp
  rcases hp with rfl | rfl | rfl | rfl | rfl | rfl | rfl | rfl | rfl | rfl | rfl | rfl | rfl | rfl | rfl | rfl | rfl | rfl | rfl | rfl | rfl
  · exact tiOk2
  · exact tiOk3
  · exact tiOk4
  · exact tiOk9
  · exact tiOk22
  · exact tiOk23
  · exact tiOk25
  · exact tiOk29
  · exact tiOk32
  · exact tiOk34
  · exact tiOk54
  · exact tiOk56
  · exact tiOk58
  · exact tiOk60
  · exact tiOk61
  · exact tiOk63
  · exact tiOk70
  · exact tiOk72
  · exact tiOk77
  · exact tiOk86
  · exact tiOk89)
/-! spinney/spinneylaw09.SubstApart -/
def c3_0 : List CO := [⟨(.box (.var 1)), (some 2), none⟩,
  ⟨(.mov (.k (.bool false))), (some 3), none⟩]
def c3_1 : List CO := [⟨(.call true 9 []), none, none⟩,
  ⟨(.mov (.loc 0)), (some 4), none⟩]
def c3_2 : List CO := [⟨(.mov (.var 0)), none, none⟩,
  ⟨(.load true 4 (.var 2)), none, none⟩,
  ⟨(.bslice 4 [(.int .i64 0), (.string ⟨#[]⟩), (.int .i64 0), (.slice none 0 0)] 1 [(0, (.loc 0))]), none, none⟩,
  ⟨(.call true 10 [(.loc 2), (.loc 0)]), none, none⟩,
  ⟨(.mov (.loc 0)), none, none⟩,
  ⟨(.load true 4 (.var 2)), none, (some ((.loc 0), false))⟩,
  ⟨(.call true 11 [(.loc 0), (.k (.int .i64 1900))]), none, (some ((.loc 1), false))⟩,
  ⟨(.un .not (.loc 0)), none, (some ((.loc 2), false))⟩,
  ⟨(.pick (.loc 3) (.k (.bool true)) (.loc 0)), none, none⟩,
  ⟨(.mov (.loc 0)), none, none⟩,
  ⟨(.load true 4 (.var 2)), none, (some ((.loc 0), false))⟩,
  ⟨(.call true 12 [(.loc 0)]), none, (some ((.loc 1), false))⟩,
  ⟨(.bin .neq (.loc 0) (.k (.int .i64 0))), none, (some ((.loc 2), false))⟩,
  ⟨(.pick (.loc 3) (.k (.bool true)) (.loc 0)), (some 9), none⟩]
def c3_3 : List CO := [⟨(.mov (.var 4)), none, none⟩,
  ⟨(.mov (.loc 0)), (some 3), none⟩]
def c3_4 : List CO := [⟨(.mov (.k (.slice none 0 0))), (some 5), none⟩]
def c3_5 : List CO := [⟨(.mov (.var 0)), (some 10), none⟩,
  ⟨(.len .slice (.var 10)), (some 11), none⟩,
  ⟨(.mov (.k (.int .i64 0))), (some 12), none⟩]
def c3_6 : List CO := [⟨(.bin .lss (.var 12) (.var 11)), (some 13), none⟩]
def c3_7 : List CO := [⟨(.ia 5 (.var 10) (.var 12)), none, none⟩,
  ⟨(.load true 5 (.loc 0)), none, none⟩,
  ⟨(.box (.k (.agg #[(.int .i64 0), (.int .i64 0), (.string ⟨#[]⟩), (.int .i64 0), (.slice none 0 0)]))), (some 6), none⟩,
  ⟨(.store 5 (.var 6) (.loc 1)), none, none⟩]
def c3_8 : List CO := [⟨(.load true 4 (.var 2)), none, none⟩,
  ⟨(.call true 14 [(.loc 0)]), none, none⟩,
  ⟨(.fa 0 (.var 6)), none, none⟩,
  ⟨(.load false 1 (.loc 0)), none, none⟩,
  ⟨(.call true 13 [(.loc 2), (.loc 0)]), none, none⟩,
  ⟨(.un .not (.loc 0)), (some 14), none⟩]
def c3_9 : List CO := [⟨(.mov (.var 5)), none, none⟩,
  ⟨(.load true 5 (.var 6)), none, none⟩,
  ⟨(.bslice 5 [(.int .i64 0), (.int .i64 0), (.string ⟨#[]⟩), (.int .i64 0), (.slice none 0 0)] 1 [(0, (.loc 0))]), none, none⟩,
  ⟨(.append 5 64 (.loc 2) (.loc 0)), none, none⟩,
  ⟨(.mov (.loc 0)), (some 5), none⟩]
def c3_10 : List CO := [⟨(.bin .add (.var 12) (.k (.int .i64 1))), none, none⟩,
  ⟨(.mov (.loc 0)), (some 12), none⟩]
def c3_11 : CC := (.seq (.region [] [] c3_6) (.seq (.cond (.var 13) .skip (.exit 0)) (.seq (.block 1 (.seq (.region [] [] c3_7) (.seq (.region [] [] c3_8) (.cond (.var 14) (.region [] [] c3_9) .skip)))) (.region [] [] c3_10))))
def c3_12 : List CO := [⟨(.mov (.var 5)), none, none⟩,
  ⟨(.load true 4 (.var 2)), none, none⟩,
  ⟨(.call true 15 [(.loc 1), (.loc 0)]), none, none⟩,
  ⟨(.mov (.loc 0)), none, none⟩,
  ⟨(.extract (.loc 0) 0), none, none⟩,
  ⟨(.extract (.loc 1) 1), none, none⟩,
  ⟨(.box (.k (.agg #[(.int .i64 0), (.string ⟨#[]⟩), (.int .i64 0), (.slice none 0 0)]))), (some 7), none⟩,
  ⟨(.store 4 (.var 7) (.loc 2)), none, none⟩,
  ⟨(.mov (.loc 2)), (some 8), none⟩]
def c3_13 : List CO := [⟨(.mov (.var 4)), none, none⟩,
  ⟨(.mov (.loc 0)), none, none⟩,
  ⟨(.mov (.var 8)), none, (some ((.loc 0), true))⟩,
  ⟨(.bin .eql (.loc 0) (.k (.int .i64 0))), none, (some ((.loc 1), true))⟩,
  ⟨(.pick (.loc 2) (.loc 0) (.k (.bool false))), none, none⟩,
  ⟨(.mov (.loc 0)), none, none⟩,
  ⟨(.load true 4 (.var 7)), none, (some ((.loc 0), true))⟩,
  ⟨(.load true 4 (.var 2)), none, (some ((.loc 1), true))⟩,
  ⟨(.call true 16 [(.loc 1), (.loc 0)]), none, (some ((.loc 2), true))⟩,
  ⟨(.pick (.loc 3) (.loc 0) (.k (.bool false))), none, none⟩,
  ⟨(.mov (.loc 0)), (some 3), none⟩]
def c3 : CFun := ⟨2, 15, (.seq (.region [] [] c3_0) (.seq (.region [] [] c3_1) (.seq (.seq (.region [] [] c3_2) (.cond (.var 9) (.seq (.region [] [] c3_3) .ret) .skip)) (.seq (.region [] [] c3_4) (.seq (.seq (.region [] [] c3_5) (.block 0 (.loop [false, false, true, false, true, true, false, false, false, false, true, true, true, false, false] [] c3_11))) (.seq (.region [.v 5] [] c3_12) (.seq (.region [] [] c3_13) .ret))))))), [.var 3]⟩
theorem ok3 : CodeOk Tryd.prog T 3 c3 := ⟨⟨Tryd.f3, Hints.of [(11, [.v 5])] [] [(0, [false, false, true, false, true, true, false, false, false, false, true, true, true, false, false], [])], [0, 1, 3, 4, 5, 6, 8, 9, 10, 25, 27, 28, 29, 30, 38], Tryd.func3, by kernel_rfl, by kernel_rfl⟩⟩

/-! spinney/spinneylaw10.UnifyCompares -/
def c4_0 : List CO := [⟨(.box (.var 1)), (some 3), none⟩,
  ⟨(.box (.var 2)), (some 4), none⟩,
  ⟨(.mov (.k (.bool false))), (some 5), none⟩]
def c4_1 : List CO := [⟨(.call true 17 []), none, none⟩,
  ⟨(.mov (.loc 0)), (some 6), none⟩]
def c4_2 : List CO := [⟨(.mov (.var 0)), none, none⟩,
  ⟨(.load true 4 (.var 3)), none, none⟩,
  ⟨(.load true 4 (.var 4)), none, none⟩,
  ⟨(.bslice 4 [(.int .i64 0), (.string ⟨#[]⟩), (.int .i64 0), (.slice none 0 0)] 2 [(0, (.loc 1)), (1, (.loc 0))]), none, none⟩,
  ⟨(.call true 18 [(.loc 3), (.loc 0)]), none, none⟩,
  ⟨(.mov (.loc 0)), none, none⟩,
  ⟨(.mov (.var 0)), none, (some ((.loc 0), false))⟩,
  ⟨(.load true 4 (.var 3)), none, (some ((.loc 1), false))⟩,
  ⟨(.load true 4 (.var 4)), none, (some ((.loc 2), false))⟩,
  ⟨(.bslice 4 [(.int .i64 0), (.string ⟨#[]⟩), (.int .i64 0), (.slice none 0 0)] 2 [(0, (.loc 1)), (1, (.loc 0))]), none, (some ((.loc 3), false))⟩,
  ⟨(.call true 19 [(.loc 3), (.loc 0)]), none, (some ((.loc 4), false))⟩,
  ⟨(.un .not (.loc 0)), none, (some ((.loc 5), false))⟩,
  ⟨(.pick (.loc 6) (.k (.bool true)) (.loc 0)), (some 11), none⟩]
def c4_3 : List CO := [⟨(.mov (.var 6)), none, none⟩,
  ⟨(.mov (.loc 0)), (some 5), none⟩]
def c4_4 : List CO := [⟨(.mov (.var 0)), none, none⟩,
  ⟨(.load true 4 (.var 3)), none, none⟩,
  ⟨(.load true 4 (.var 4)), none, none⟩,
  ⟨(.call true 20 [(.loc 2), (.loc 1), (.loc 0)]), none, none⟩,
  ⟨(.mov (.loc 0)), none, none⟩,
  ⟨(.extract (.loc 0) 0), none, none⟩,
  ⟨(.extract (.loc 1) 1), none, none⟩,
  ⟨(.mov (.loc 1)), (some 7), none⟩,
  ⟨(.mov (.loc 1)), (some 8), none⟩]
def c4_5 : List CO := [⟨(.mov (.var 0)), none, none⟩,
  ⟨(.load true 4 (.var 3)), none, none⟩,
  ⟨(.load true 4 (.var 4)), none, none⟩,
  ⟨(.call true 21 [(.loc 2), (.loc 1), (.loc 0)]), none, none⟩,
  ⟨(.mov (.loc 0)), none, none⟩,
  ⟨(.extract (.loc 0) 0), none, none⟩,
  ⟨(.extract (.loc 1) 1), none, none⟩,
  ⟨(.mov (.loc 1)), (some 9), none⟩,
  ⟨(.mov (.loc 1)), (some 10), none⟩]
def c4_6 : List CO := [⟨(.mov (.var 6)), none, none⟩,
  ⟨(.mov (.loc 0)), none, none⟩,
  ⟨(.mov (.var 7)), none, (some ((.loc 0), true))⟩,
  ⟨(.mov (.var 9)), none, (some ((.loc 1), true))⟩,
  ⟨(.bin .eql (.loc 1) (.loc 0)), none, (some ((.loc 2), true))⟩,
  ⟨(.pick (.loc 3) (.loc 0) (.k (.bool false))), none, none⟩,
  ⟨(.mov (.loc 0)), none, none⟩,
  ⟨(.mov (.var 8)), none, (some ((.loc 0), true))⟩,
  ⟨(.mov (.var 10)), none, (some ((.loc 1), true))⟩,
  ⟨(.bin .eql (.loc 1) (.loc 0)), none, (some ((.loc 2), true))⟩,
  ⟨(.pick (.loc 3) (.loc 0) (.k (.bool false))), none, none⟩,
  ⟨(.mov (.loc 0)), (some 5), none⟩]
def c4 : CFun := ⟨3, 12, (.seq (.region [] [] c4_0) (.seq (.region [] [] c4_1) (.seq (.seq (.region [] [] c4_2) (.cond (.var 11) (.seq (.region [] [] c4_3) .ret) .skip)) (.seq (.region [] [] c4_4) (.seq (.region [] [] c4_5) (.seq (.region [] [] c4_6) .ret)))))), [.var 5]⟩
theorem ok4 : CodeOk Tryd.prog T 4 c4 := ⟨⟨Tryd.f4, Hints.of [] [] [], [0, 1, 2, 4, 5, 6, 7, 8, 9, 10, 11, 25], Tryd.func4, by kernel_rfl, by kernel_rfl⟩⟩

/-! spinney/spinneylaw10.UnifyOne -/
def c5_0 : List CO := [⟨(.box (.var 1)), (some 3), none⟩,
  ⟨(.box (.var 2)), (some 4), none⟩,
  ⟨(.mov (.k (.bool false))), (some 5), none⟩]
def c5_1 : List CO := [⟨(.call true 17 []), none, none⟩,
  ⟨(.mov (.loc 0)), (some 6), none⟩]
def c5_2 : List CO := [⟨(.mov (.var 0)), none, none⟩,
  ⟨(.load true 4 (.var 3)), none, none⟩,
  ⟨(.load true 4 (.var 4)), none, none⟩,
  ⟨(.bslice 4 [(.int .i64 0), (.string ⟨#[]⟩), (.int .i64 0), (.slice none 0 0)] 2 [(0, (.loc 1)), (1, (.loc 0))]), none, none⟩,
  ⟨(.call true 18 [(.loc 3), (.loc 0)]), none, none⟩,
  ⟨(.mov (.loc 0)), none, none⟩,
  ⟨(.mov (.var 0)), none, (some ((.loc 0), false))⟩,
  ⟨(.load true 4 (.var 3)), none, (some ((.loc 1), false))⟩,
  ⟨(.load true 4 (.var 4)), none, (some ((.loc 2), false))⟩,
  ⟨(.bslice 4 [(.int .i64 0), (.string ⟨#[]⟩), (.int .i64 0), (.slice none 0 0)] 2 [(0, (.loc 1)), (1, (.loc 0))]), none, (some ((.loc 3), false))⟩,
  ⟨(.call true 19 [(.loc 3), (.loc 0)]), none, (some ((.loc 4), false))⟩,
  ⟨(.un .not (.loc 0)), none, (some ((.loc 5), false))⟩,
  ⟨(.pick (.loc 6) (.k (.bool true)) (.loc 0)), (some 17), none⟩]
def c5_3 : List CO := [⟨(.mov (.var 6)), none, none⟩,
  ⟨(.mov (.loc 0)), (some 5), none⟩]
def c5_4 : List CO := [⟨(.mov (.var 0)), none, none⟩,
  ⟨(.load true 4 (.var 3)), none, none⟩,
  ⟨(.load true 4 (.var 4)), none, none⟩,
  ⟨(.call true 22 [(.loc 2), (.loc 1), (.loc 0)]), none, none⟩,
  ⟨(.mov (.loc 0)), none, none⟩,
  ⟨(.extract (.loc 0) 0), none, none⟩,
  ⟨(.extract (.loc 1) 1), none, none⟩,
  ⟨(.extract (.loc 2) 2), none, none⟩,
  ⟨(.mov (.loc 2)), (some 7), none⟩,
  ⟨(.mov (.loc 2)), (some 8), none⟩,
  ⟨(.mov (.loc 2)), (some 9), none⟩]
def c5_5 : List CO := [⟨(.mov (.var 8)), none, none⟩,
  ⟨(.un .not (.loc 0)), none, none⟩,
  ⟨(.mov (.loc 0)), none, none⟩,
  ⟨(.mov (.var 9)), none, (some ((.loc 0), false))⟩,
  ⟨(.bin .neq (.loc 0) (.k (.int .i64 0))), none, (some ((.loc 1), false))⟩,
  ⟨(.pick (.loc 2) (.k (.bool true)) (.loc 0)), (some 18), none⟩]
def c5_6 : List CO := [⟨(.mov (.var 6)), none, none⟩,
  ⟨(.mov (.loc 0)), none, none⟩,
  ⟨(.mov (.var 8)), none, (some ((.loc 0), true))⟩,
  ⟨(.un .not (.loc 0)), none, (some ((.loc 1), true))⟩,
  ⟨(.pick (.loc 2) (.loc 0) (.k (.bool false))), none, none⟩,
  ⟨(.mov (.loc 0)), (some 5), none⟩]
def c5_7 : List CO := [⟨(.mov (.var 7)), none, none⟩,
  ⟨(.load true 4 (.var 3)), none, none⟩,
  ⟨(.call true 23 [(.loc 1), (.loc 0)]), none, none⟩,
  ⟨(.mov (.loc 0)), none, none⟩,
  ⟨(.extract (.loc 0) 0), none, none⟩,
  ⟨(.extract (.loc 1) 1), none, none⟩,
  ⟨(.box (.k (.agg #[(.int .i64 0), (.string ⟨#[]⟩), (.int .i64 0), (.slice none 0 0)]))), (some 10), none⟩,
  ⟨(.store 4 (.var 10) (.loc 2)), none, none⟩,
  ⟨(.mov (.loc 2)), (some 11), none⟩]
def c5_8 : List CO := [⟨(.mov (.var 7)), none, none⟩,
  ⟨(.load true 4 (.var 4)), none, none⟩,
  ⟨(.call true 23 [(.loc 1), (.loc 0)]), none, none⟩,
  ⟨(.mov (.loc 0)), none, none⟩,
  ⟨(.extract (.loc 0) 0), none, none⟩,
  ⟨(.extract (.loc 1) 1), none, none⟩,
  ⟨(.box (.k (.agg #[(.int .i64 0), (.string ⟨#[]⟩), (.int .i64 0), (.slice none 0 0)]))), (some 12), none⟩,
  ⟨(.store 4 (.var 12) (.loc 2)), none, none⟩,
  ⟨(.mov (.loc 2)), (some 13), none⟩]
def c5_9 : List CO := [⟨(.mov (.var 11)), none, none⟩,
  ⟨(.bin .neq (.loc 0) (.k (.int .i64 0))), none, none⟩,
  ⟨(.mov (.loc 0)), none, none⟩,
  ⟨(.mov (.var 13)), none, (some ((.loc 0), false))⟩,
  ⟨(.bin .neq (.loc 0) (.k (.int .i64 0))), none, (some ((.loc 1), false))⟩,
  ⟨(.pick (.loc 2) (.k (.bool true)) (.loc 0)), (some 19), none⟩]
def c5_10 : List CO := [⟨(.mov (.var 6)), none, none⟩,
  ⟨(.mov (.loc 0)), (some 5), none⟩]
def c5_11 : List CO := [⟨(.mov (.var 7)), none, none⟩,
  ⟨(.load true 4 (.var 3)), none, none⟩,
  ⟨(.load true 4 (.var 4)), none, none⟩,
  ⟨(.call true 22 [(.loc 2), (.loc 1), (.loc 0)]), none, none⟩,
  ⟨(.mov (.loc 0)), none, none⟩,
  ⟨(.extract (.loc 0) 0), none, none⟩,
  ⟨(.extract (.loc 1) 1), none, none⟩,
  ⟨(.extract (.loc 2) 2), none, none⟩,
  ⟨(.mov (.loc 2)), (some 14), none⟩,
  ⟨(.mov (.loc 2)), (some 15), none⟩,
  ⟨(.mov (.loc 2)), (some 16), none⟩]
def c5_12 : List CO := [⟨(.mov (.var 16)), none, none⟩,
  ⟨(.bin .eql (.loc 0) (.k (.int .i64 140))), (some 20), none⟩]
def c5_13 : List CO := [⟨(.mov (.var 6)), none, none⟩,
  ⟨(.mov (.loc 0)), (some 5), none⟩]
def c5_14 : List CO := [⟨(.mov (.var 6)), none, none⟩,
  ⟨(.mov (.loc 0)), none, none⟩,
  ⟨(.load true 4 (.var 10)), none, (some ((.loc 0), true))⟩,
  ⟨(.load true 4 (.var 12)), none, (some ((.loc 1), true))⟩,
  ⟨(.call true 16 [(.loc 1), (.loc 0)]), none, (some ((.loc 2), true))⟩,
  ⟨(.pick (.loc 3) (.loc 0) (.k (.bool false))), none, none⟩,
  ⟨(.mov (.loc 0)), none, none⟩,
  ⟨(.mov (.var 15)), none, (some ((.loc 0), true))⟩,
  ⟨(.pick (.loc 1) (.loc 0) (.k (.bool false))), none, none⟩,
  ⟨(.mov (.loc 0)), none, none⟩,
  ⟨(.mov (.var 7)), none, (some ((.loc 0), true))⟩,
  ⟨(.mov (.var 14)), none, (some ((.loc 1), true))⟩,
  ⟨(.call true 24 [(.loc 1), (.loc 0)]), none, (some ((.loc 2), true))⟩,
  ⟨(.pick (.loc 3) (.loc 0) (.k (.bool false))), none, none⟩,
  ⟨(.mov (.loc 0)), (some 5), none⟩]
def c5 : CFun := ⟨3, 21, (.seq (.region [] [] c5_0) (.seq (.region [] [] c5_1) (.seq (.seq (.region [] [] c5_2) (.cond (.var 17) (.seq (.region [] [] c5_3) .ret) .skip)) (.seq (.region [] [] c5_4) (.seq (.seq (.region [] [] c5_5) (.cond (.var 18) (.seq (.region [] [] c5_6) .ret) .skip)) (.seq (.region [] [] c5_7) (.seq (.region [] [] c5_8) (.seq (.seq (.region [] [] c5_9) (.cond (.var 19) (.seq (.region [] [] c5_10) .ret) .skip)) (.seq (.region [] [] c5_11) (.seq (.seq (.region [] [] c5_12) (.cond (.var 20) (.seq (.region [] [] c5_13) .ret) .skip)) (.seq (.region [] [] c5_14) .ret))))))))))), [.var 5]⟩
theorem ok5 : CodeOk Tryd.prog T 5 c5 := ⟨⟨Tryd.f5, Hints.of [] [] [], [0, 1, 2, 4, 5, 6, 7, 8, 9, 10, 11, 12, 13, 14, 15, 16, 17, 31, 46, 69, 80], Tryd.func5, by kernel_rfl, by kernel_rfl⟩⟩

/-! spinney/spinneylaw10.UnifyTurns -/
def c6_0 : List CO := [⟨(.box (.var 1)), (some 3), none⟩,
  ⟨(.box (.var 2)), (some 4), none⟩,
  ⟨(.mov (.k (.bool false))), (some 5), none⟩]
def c6_1 : List CO := [⟨(.call true 17 []), none, none⟩,
  ⟨(.mov (.loc 0)), (some 6), none⟩]
def c6_2 : List CO := [⟨(.mov (.var 0)), none, none⟩,
  ⟨(.load true 4 (.var 3)), none, none⟩,
  ⟨(.load true 4 (.var 4)), none, none⟩,
  ⟨(.bslice 4 [(.int .i64 0), (.string ⟨#[]⟩), (.int .i64 0), (.slice none 0 0)] 2 [(0, (.loc 1)), (1, (.loc 0))]), none, none⟩,
  ⟨(.call true 18 [(.loc 3), (.loc 0)]), none, none⟩,
  ⟨(.mov (.loc 0)), none, none⟩,
  ⟨(.mov (.var 0)), none, (some ((.loc 0), false))⟩,
  ⟨(.load true 4 (.var 3)), none, (some ((.loc 1), false))⟩,
  ⟨(.load true 4 (.var 4)), none, (some ((.loc 2), false))⟩,
  ⟨(.bslice 4 [(.int .i64 0), (.string ⟨#[]⟩), (.int .i64 0), (.slice none 0 0)] 2 [(0, (.loc 1)), (1, (.loc 0))]), none, (some ((.loc 3), false))⟩,
  ⟨(.call true 19 [(.loc 3), (.loc 0)]), none, (some ((.loc 4), false))⟩,
  ⟨(.un .not (.loc 0)), none, (some ((.loc 5), false))⟩,
  ⟨(.pick (.loc 6) (.k (.bool true)) (.loc 0)), (some 17), none⟩]
def c6_3 : List CO := [⟨(.mov (.var 6)), none, none⟩,
  ⟨(.mov (.loc 0)), (some 5), none⟩]
def c6_4 : List CO := [⟨(.mov (.var 0)), none, none⟩,
  ⟨(.load true 4 (.var 3)), none, none⟩,
  ⟨(.load true 4 (.var 4)), none, none⟩,
  ⟨(.call true 22 [(.loc 2), (.loc 1), (.loc 0)]), none, none⟩,
  ⟨(.mov (.loc 0)), none, none⟩,
  ⟨(.extract (.loc 0) 0), none, none⟩,
  ⟨(.extract (.loc 1) 1), none, none⟩,
  ⟨(.extract (.loc 2) 2), none, none⟩,
  ⟨(.mov (.loc 2)), (some 7), none⟩,
  ⟨(.mov (.loc 2)), (some 8), none⟩,
  ⟨(.mov (.loc 2)), (some 9), none⟩]
def c6_5 : List CO := [⟨(.mov (.var 0)), none, none⟩,
  ⟨(.load true 4 (.var 4)), none, none⟩,
  ⟨(.load true 4 (.var 3)), none, none⟩,
  ⟨(.call true 22 [(.loc 2), (.loc 1), (.loc 0)]), none, none⟩,
  ⟨(.mov (.loc 0)), none, none⟩,
  ⟨(.extract (.loc 0) 0), none, none⟩,
  ⟨(.extract (.loc 1) 1), none, none⟩,
  ⟨(.extract (.loc 2) 2), none, none⟩,
  ⟨(.mov (.loc 2)), (some 10), none⟩,
  ⟨(.mov (.loc 2)), (some 11), none⟩,
  ⟨(.mov (.loc 2)), (some 12), none⟩]
def c6_6 : List CO := [⟨(.mov (.var 9)), none, none⟩,
  ⟨(.bin .neq (.loc 0) (.k (.int .i64 0))), none, none⟩,
  ⟨(.mov (.loc 0)), none, none⟩,
  ⟨(.mov (.var 12)), none, (some ((.loc 0), false))⟩,
  ⟨(.bin .neq (.loc 0) (.k (.int .i64 0))), none, (some ((.loc 1), false))⟩,
  ⟨(.pick (.loc 2) (.k (.bool true)) (.loc 0)), (some 18), none⟩]
def c6_7 : List CO := [⟨(.mov (.var 6)), none, none⟩,
  ⟨(.mov (.loc 0)), none, none⟩,
  ⟨(.mov (.var 8)), none, (some ((.loc 0), true))⟩,
  ⟨(.mov (.loc 0)), none, (some ((.loc 1), true))⟩,
  ⟨(.mov (.var 9)), none, (some ((.loc 0), true))⟩,
  ⟨(.bin .neq (.loc 0) (.k (.int .i64 0))), none, (some ((.loc 1), true))⟩,
  ⟨(.pick (.loc 2) (.loc 0) (.k (.bool false))), none, (some ((.loc 4), true))⟩,
  ⟨(.un .not (.loc 0)), none, (some ((.loc 5), true))⟩,
  ⟨(.pick (.loc 6) (.loc 0) (.k (.bool false))), none, none⟩,
  ⟨(.mov (.loc 0)), none, none⟩,
  ⟨(.mov (.var 11)), none, (some ((.loc 0), true))⟩,
  ⟨(.mov (.loc 0)), none, (some ((.loc 1), true))⟩,
  ⟨(.mov (.var 12)), none, (some ((.loc 0), true))⟩,
  ⟨(.bin .neq (.loc 0) (.k (.int .i64 0))), none, (some ((.loc 1), true))⟩,
  ⟨(.pick (.loc 2) (.loc 0) (.k (.bool false))), none, (some ((.loc 4), true))⟩,
  ⟨(.un .not (.loc 0)), none, (some ((.loc 5), true))⟩,
  ⟨(.pick (.loc 6) (.loc 0) (.k (.bool false))), none, none⟩,
  ⟨(.mov (.loc 0)), (some 5), none⟩]
def c6_8 : List CO := [⟨(.mov (.var 0)), none, none⟩,
  ⟨(.load true 4 (.var 3)), none, none⟩,
  ⟨(.load true 4 (.var 4)), none, none⟩,
  ⟨(.call true 20 [(.loc 2), (.loc 1), (.loc 0)]), none, none⟩,
  ⟨(.mov (.loc 0)), none, none⟩,
  ⟨(.extract (.loc 0) 0), none, none⟩,
  ⟨(.extract (.loc 1) 1), none, none⟩,
  ⟨(.mov (.loc 1)), (some 13), none⟩,
  ⟨(.mov (.loc 1)), (some 14), none⟩]
def c6_9 : List CO := [⟨(.mov (.var 0)), none, none⟩,
  ⟨(.load true 4 (.var 4)), none, none⟩,
  ⟨(.load true 4 (.var 3)), none, none⟩,
  ⟨(.call true 20 [(.loc 2), (.loc 1), (.loc 0)]), none, none⟩,
  ⟨(.mov (.loc 0)), none, none⟩,
  ⟨(.extract (.loc 0) 0), none, none⟩,
  ⟨(.extract (.loc 1) 1), none, none⟩,
  ⟨(.mov (.loc 1)), (some 15), none⟩,
  ⟨(.mov (.loc 1)), (some 16), none⟩]
def c6_10 : List CO := [⟨(.mov (.var 6)), none, none⟩,
  ⟨(.mov (.loc 0)), none, none⟩,
  ⟨(.mov (.var 8)), none, (some ((.loc 0), true))⟩,
  ⟨(.mov (.var 11)), none, (some ((.loc 1), true))⟩,
  ⟨(.eqv .bool false (.loc 1) (.loc 0)), none, (some ((.loc 2), true))⟩,
  ⟨(.pick (.loc 3) (.loc 0) (.k (.bool false))), none, none⟩,
  ⟨(.mov (.loc 0)), none, none⟩,
  ⟨(.mov (.var 7)), none, (some ((.loc 0), true))⟩,
  ⟨(.len .slice (.loc 0)), none, (some ((.loc 1), true))⟩,
  ⟨(.mov (.var 10)), none, (some ((.loc 2), true))⟩,
  ⟨(.len .slice (.loc 0)), none, (some ((.loc 3), true))⟩,
  ⟨(.bin .eql (.loc 2) (.loc 0)), none, (some ((.loc 4), true))⟩,
  ⟨(.pick (.loc 5) (.loc 0) (.k (.bool false))), none, none⟩,
  ⟨(.mov (.loc 0)), none, none⟩,
  ⟨(.mov (.var 14)), none, (some ((.loc 0), true))⟩,
  ⟨(.bin .neq (.loc 0) (.k (.int .i64 0))), none, (some ((.loc 1), true))⟩,
  ⟨(.mov (.loc 0)), none, (some ((.loc 2), true))⟩,
  ⟨(.mov (.var 16)), none, (some ((.loc 0), false))⟩,
  ⟨(.bin .neq (.loc 0) (.k (.int .i64 0))), none, (some ((.loc 1), false))⟩,
  ⟨(.pick (.loc 2) (.k (.bool true)) (.loc 0)), none, (some ((.loc 5), true))⟩,
  ⟨(.mov (.loc 0)), none, (some ((.loc 6), true))⟩,
  ⟨(.mov (.var 13)), none, (some ((.loc 0), false))⟩,
  ⟨(.mov (.var 15)), none, (some ((.loc 1), false))⟩,
  ⟨(.un .neg (.loc 0)), none, (some ((.loc 2), false))⟩,
  ⟨(.bin .eql (.loc 2) (.loc 0)), none, (some ((.loc 3), false))⟩,
  ⟨(.mov (.loc 0)), none, (some ((.loc 4), false))⟩,
  ⟨(.mov (.var 13)), none, (some ((.loc 0), true))⟩,
  ⟨(.bin .neq (.loc 0) (.k (.int .i64 0))), none, (some ((.loc 1), true))⟩,
  ⟨(.mov (.loc 0)), none, (some ((.loc 2), true))⟩,
  ⟨(.mov (.var 8)), none, (some ((.loc 0), false))⟩,
  ⟨(.mov (.loc 0)), none, (some ((.loc 1), false))⟩,
  ⟨(.mov (.var 7)), none, (some ((.loc 0), true))⟩,
  ⟨(.len .slice (.loc 0)), none, (some ((.loc 1), true))⟩,
  ⟨(.mov (.var 0)), none, (some ((.loc 2), true))⟩,
  ⟨(.len .slice (.loc 0)), none, (some ((.loc 3), true))⟩,
  ⟨(.bin .eql (.loc 2) (.loc 0)), none, (some ((.loc 4), true))⟩,
  ⟨(.pick (.loc 5) (.loc 0) (.k (.bool false))), none, (some ((.loc 7), false))⟩,
  ⟨(.pick (.loc 8) (.k (.bool true)) (.loc 0)), none, (some ((.loc 11), true))⟩,
  ⟨(.pick (.loc 12) (.loc 0) (.k (.bool false))), none, (some ((.loc 17), false))⟩,
  ⟨(.pick (.loc 18) (.k (.bool true)) (.loc 0)), none, (some ((.loc 25), true))⟩,
  ⟨(.pick (.loc 26) (.loc 0) (.k (.bool false))), none, none⟩,
  ⟨(.mov (.loc 0)), (some 5), none⟩]
def c6 : CFun := ⟨3, 19, (.seq (.region [] [] c6_0) (.seq (.region [] [] c6_1) (.seq (.seq (.region [] [] c6_2) (.cond (.var 17) (.seq (.region [] [] c6_3) .ret) .skip)) (.seq (.region [] [] c6_4) (.seq (.region [] [] c6_5) (.seq (.seq (.region [] [] c6_6) (.cond (.var 18) (.seq (.region [] [] c6_7) .ret) .skip)) (.seq (.region [] [] c6_8) (.seq (.region [] [] c6_9) (.seq (.region [] [] c6_10) .ret))))))))), [.var 5]⟩
theorem ok6 : CodeOk Tryd.prog T 6 c6 := ⟨⟨Tryd.f6, Hints.of [] [] [], [0, 1, 2, 4, 5, 6, 7, 8, 9, 10, 11, 12, 13, 14, 15, 16, 17, 31, 54], Tryd.func6, by kernel_rfl, by kernel_rfl⟩⟩

/-! spinney/spinneylaw10.UnifyShifts -/
def c7_0 : List CO := [⟨(.box (.var 1)), (some 4), none⟩,
  ⟨(.box (.var 2)), (some 5), none⟩,
  ⟨(.mov (.k (.bool false))), (some 6), none⟩]
def c7_1 : List CO := [⟨(.call true 17 []), none, none⟩,
  ⟨(.mov (.loc 0)), (some 7), none⟩]
def c7_2 : List CO := [⟨(.mov (.var 0)), none, none⟩,
  ⟨(.load true 4 (.var 4)), none, none⟩,
  ⟨(.load true 4 (.var 5)), none, none⟩,
  ⟨(.bslice 4 [(.int .i64 0), (.string ⟨#[]⟩), (.int .i64 0), (.slice none 0 0)] 2 [(0, (.loc 1)), (1, (.loc 0))]), none, none⟩,
  ⟨(.call true 18 [(.loc 3), (.loc 0)]), (some 21), none⟩]
def c7_3 : List CO := [⟨(.mov (.var 7)), none, none⟩,
  ⟨(.mov (.loc 0)), (some 6), none⟩]
def c7_4 : List CO := [⟨(.mov (.var 3)), none, none⟩,
  ⟨(.mm true (.loc 0) (.k (.int .i64 0))), none, none⟩,
  ⟨(.mm false (.loc 0) (.k (.int .i64 1000000))), none, none⟩,
  ⟨(.mov (.loc 0)), (some 3), none⟩]
def c7_5 : List CO := [⟨(.mov (.k (.slice none 0 0))), (some 8), none⟩]
def c7_6 : List CO := [⟨(.mov (.var 0)), (some 22), none⟩,
  ⟨(.len .slice (.var 22)), (some 23), none⟩,
  ⟨(.mov (.k (.int .i64 0))), (some 24), none⟩]
def c7_7 : List CO := [⟨(.bin .lss (.var 24) (.var 23)), (some 25), none⟩]
def c7_8 : List CO := [⟨(.ia 5 (.var 22) (.var 24)), none, none⟩,
  ⟨(.load true 5 (.loc 0)), none, none⟩,
  ⟨(.box (.k (.agg #[(.int .i64 0), (.int .i64 0), (.string ⟨#[]⟩), (.int .i64 0), (.slice none 0 0)]))), (some 9), none⟩,
  ⟨(.store 5 (.var 9) (.loc 1)), none, none⟩]
def c7_9 : List CO := [⟨(.fa 0 (.var 9)), none, none⟩,
  ⟨(.load false 1 (.loc 0)), none, none⟩,
  ⟨(.bin .gtr (.loc 0) (.k (.int .i64 1000000))), none, none⟩,
  ⟨(.mov (.loc 0)), none, none⟩,
  ⟨(.fa 0 (.var 9)), none, (some ((.loc 0), false))⟩,
  ⟨(.load false 1 (.loc 0)), none, (some ((.loc 1), false))⟩,
  ⟨(.bin .lss (.loc 0) (.k (.int .i64 (-1000000)))), none, (some ((.loc 2), false))⟩,
  ⟨(.pick (.loc 3) (.k (.bool true)) (.loc 0)), (some 26), none⟩]
def c7_10 : List CO := [⟨(.mov (.var 7)), none, none⟩,
  ⟨(.mov (.loc 0)), (some 6), none⟩]
def c7_11 : List CO := [⟨(.mov (.var 8)), none, none⟩,
  ⟨(.fa 0 (.var 9)), none, none⟩,
  ⟨(.load false 1 (.loc 0)), none, none⟩,
  ⟨(.mov (.var 3)), none, none⟩,
  ⟨(.bin .add (.loc 1) (.loc 0)), none, none⟩,
  ⟨(.fa 1 (.var 9)), none, none⟩,
  ⟨(.load true 4 (.loc 0)), none, none⟩,
  ⟨(.mov (.var 3)), none, none⟩,
  ⟨(.call true 25 [(.loc 1), (.loc 0)]), none, none⟩,
  ⟨(.build [(.int .i64 0), (.int .i64 0), (.string ⟨#[]⟩), (.int .i64 0), (.slice none 0 0)] [(0, 1, (.loc 4)), (1, 4, (.loc 0))]), none, none⟩,
  ⟨(.bslice 5 [(.int .i64 0), (.int .i64 0), (.string ⟨#[]⟩), (.int .i64 0), (.slice none 0 0)] 1 [(0, (.loc 0))]), none, none⟩,
  ⟨(.append 5 64 (.loc 10) (.loc 0)), none, none⟩,
  ⟨(.mov (.loc 0)), (some 8), none⟩]
def c7_12 : List CO := [⟨(.bin .add (.var 24) (.k (.int .i64 1))), none, none⟩,
  ⟨(.mov (.loc 0)), (some 24), none⟩]
def c7_13 : CC := (.seq (.region [] [] c7_7) (.seq (.cond (.var 25) .skip (.exit 0)) (.seq (.block 1 (.seq (.region [] [] c7_8) (.seq (.seq (.region [] [] c7_9) (.cond (.var 26) (.seq (.region [] [] c7_10) .ret) .skip)) (.region [] [] c7_11)))) (.region [] [] c7_12))))
def c7_14 : List CO := [⟨(.load true 4 (.var 4)), none, none⟩,
  ⟨(.load true 4 (.var 5)), none, none⟩,
  ⟨(.bslice 4 [(.int .i64 0), (.string ⟨#[]⟩), (.int .i64 0), (.slice none 0 0)] 2 [(0, (.loc 1)), (1, (.loc 0))]), (some 27), none⟩,
  ⟨(.len .slice (.var 27)), (some 28), none⟩,
  ⟨(.mov (.k (.int .i64 0))), (some 29), none⟩]
def c7_15 : List CO := [⟨(.bin .lss (.var 29) (.var 28)), (some 30), none⟩]
def c7_16 : List CO := [⟨(.ia 4 (.var 27) (.var 29)), none, none⟩,
  ⟨(.load true 4 (.loc 0)), none, none⟩,
  ⟨(.box (.k (.agg #[(.int .i64 0), (.string ⟨#[]⟩), (.int .i64 0), (.slice none 0 0)]))), (some 10), none⟩,
  ⟨(.store 4 (.var 10) (.loc 1)), none, none⟩]
def c7_17 : List CO := [⟨(.load true 4 (.var 10)), none, none⟩,
  ⟨(.call true 12 [(.loc 0)]), none, none⟩,
  ⟨(.bin .neq (.loc 0) (.k (.int .i64 0))), (some 31), none⟩]
def c7_18 : List CO := [⟨(.mov (.var 7)), none, none⟩,
  ⟨(.mov (.loc 0)), (some 6), none⟩]
def c7_19 : List CO := [⟨(.load true 4 (.var 10)), none, none⟩,
  ⟨(.call true 14 [(.loc 0)]), (some 32), none⟩,
  ⟨(.len .slice (.var 32)), (some 33), none⟩,
  ⟨(.mov (.k (.int .i64 0))), (some 34), none⟩]
def c7_20 : List CO := [⟨(.bin .lss (.var 34) (.var 33)), (some 35), none⟩]
def c7_21 : List CO := [⟨(.ia 1 (.var 32) (.var 34)), none, none⟩,
  ⟨(.load false 1 (.loc 0)), none, none⟩,
  ⟨(.mov (.loc 0)), (some 11), none⟩]
def c7_22 : List CO := [⟨(.mov (.var 11)), none, none⟩,
  ⟨(.bin .gtr (.loc 0) (.k (.int .i64 1000000))), (some 36), none⟩]
def c7_23 : List CO := [⟨(.mov (.var 7)), none, none⟩,
  ⟨(.mov (.loc 0)), (some 6), none⟩]
def c7_24 : List CO := [⟨(.bin .add (.var 34) (.k (.int .i64 1))), none, none⟩,
  ⟨(.mov (.loc 0)), (some 34), none⟩]
def c7_25 : CC := (.seq (.region [] [] c7_20) (.seq (.cond (.var 35) .skip (.exit 4)) (.seq (.block 5 (.seq (.region [] [] c7_21) (.seq (.region [] [] c7_22) (.cond (.var 36) (.seq (.region [] [] c7_23) .ret) .skip)))) (.region [] [] c7_24))))
def c7_26 : List CO := [⟨(.bin .add (.var 29) (.k (.int .i64 1))), none, none⟩,
  ⟨(.mov (.loc 0)), (some 29), none⟩]
def c7_27 : CC := (.seq (.region [] [] c7_15) (.seq (.cond (.var 30) .skip (.exit 2)) (.seq (.block 3 (.seq (.region [] [] c7_16) (.seq (.seq (.region [] [] c7_17) (.cond (.var 31) (.seq (.region [] [] c7_18) .ret) .skip)) (.seq (.region [] [] c7_19) (.block 4 (.loop [true, false, false, true, true, true, false, true, true, false, false, false, false, false, false, false, false, false, false, false, false, false, false, false, false, false, false, true, true, true, false, false, true, true, true, false, false, false, false, false, false, false, false, false, false, false, false, false, false, false, false] [] c7_25)))))) (.region [] [] c7_26))))
def c7_28 : List CO := [⟨(.mov (.var 0)), (some 37), none⟩,
  ⟨(.len .slice (.var 37)), (some 38), none⟩,
  ⟨(.mov (.k (.int .i64 0))), (some 39), none⟩]
def c7_29 : List CO := [⟨(.bin .lss (.var 39) (.var 38)), (some 40), none⟩]
def c7_30 : List CO := [⟨(.ia 5 (.var 37) (.var 39)), none, none⟩,
  ⟨(.load true 5 (.loc 0)), none, none⟩,
  ⟨(.box (.k (.agg #[(.int .i64 0), (.int .i64 0), (.string ⟨#[]⟩), (.int .i64 0), (.slice none 0 0)]))), (some 12), none⟩,
  ⟨(.store 5 (.var 12) (.loc 1)), none, none⟩]
def c7_31 : List CO := [⟨(.fa 1 (.var 12)), none, none⟩,
  ⟨(.load true 4 (.loc 0)), none, none⟩,
  ⟨(.call true 14 [(.loc 0)]), (some 41), none⟩,
  ⟨(.len .slice (.var 41)), (some 42), none⟩,
  ⟨(.mov (.k (.int .i64 0))), (some 43), none⟩]
def c7_32 : List CO := [⟨(.bin .lss (.var 43) (.var 42)), (some 44), none⟩]
def c7_33 : List CO := [⟨(.ia 1 (.var 41) (.var 43)), none, none⟩,
  ⟨(.load false 1 (.loc 0)), none, none⟩,
  ⟨(.mov (.loc 0)), (some 13), none⟩]
def c7_34 : List CO := [⟨(.mov (.var 13)), none, none⟩,
  ⟨(.bin .gtr (.loc 0) (.k (.int .i64 1000000))), none, none⟩,
  ⟨(.mov (.loc 0)), none, none⟩,
  ⟨(.mov (.var 13)), none, (some ((.loc 0), false))⟩,
  ⟨(.bin .lss (.loc 0) (.k (.int .i64 0))), none, (some ((.loc 1), false))⟩,
  ⟨(.pick (.loc 2) (.k (.bool true)) (.loc 0)), (some 45), none⟩]
def c7_35 : List CO := [⟨(.mov (.var 7)), none, none⟩,
  ⟨(.mov (.loc 0)), (some 6), none⟩]
def c7_36 : List CO := [⟨(.bin .add (.var 43) (.k (.int .i64 1))), none, none⟩,
  ⟨(.mov (.loc 0)), (some 43), none⟩]
def c7_37 : CC := (.seq (.region [] [] c7_32) (.seq (.cond (.var 44) .skip (.exit 8)) (.seq (.block 9 (.seq (.region [] [] c7_33) (.seq (.region [] [] c7_34) (.cond (.var 45) (.seq (.region [] [] c7_35) .ret) .skip)))) (.region [] [] c7_36))))
def c7_38 : List CO := [⟨(.bin .add (.var 39) (.k (.int .i64 1))), none, none⟩,
  ⟨(.mov (.loc 0)), (some 39), none⟩]
def c7_39 : CC := (.seq (.region [] [] c7_29) (.seq (.cond (.var 40) .skip (.exit 6)) (.seq (.block 7 (.seq (.region [] [] c7_30) (.seq (.region [] [] c7_31) (.block 8 (.loop [true, false, false, true, true, true, false, true, true, false, false, false, false, false, false, false, false, false, false, false, false, false, false, false, false, false, false, false, false, false, false, false, false, false, false, false, false, true, true, true, false, true, true, true, false, false, false, false, false, false, false] [] c7_37))))) (.region [] [] c7_38))))
def c7_40 : List CO := [⟨(.mov (.var 0)), none, none⟩,
  ⟨(.load true 4 (.var 4)), none, none⟩,
  ⟨(.load true 4 (.var 5)), none, none⟩,
  ⟨(.call true 22 [(.loc 2), (.loc 1), (.loc 0)]), none, none⟩,
  ⟨(.mov (.loc 0)), none, none⟩,
  ⟨(.extract (.loc 0) 0), none, none⟩,
  ⟨(.extract (.loc 1) 1), none, none⟩,
  ⟨(.extract (.loc 2) 2), none, none⟩,
  ⟨(.mov (.loc 2)), (some 14), none⟩,
  ⟨(.mov (.loc 2)), (some 15), none⟩,
  ⟨(.mov (.loc 2)), (some 16), none⟩]
def c7_41 : List CO := [⟨(.mov (.var 8)), none, none⟩,
  ⟨(.load true 4 (.var 4)), none, none⟩,
  ⟨(.mov (.var 3)), none, none⟩,
  ⟨(.call true 25 [(.loc 1), (.loc 0)]), none, none⟩,
  ⟨(.load true 4 (.var 5)), none, none⟩,
  ⟨(.mov (.var 3)), none, none⟩,
  ⟨(.call true 25 [(.loc 1), (.loc 0)]), none, none⟩,
  ⟨(.call true 22 [(.loc 6), (.loc 3), (.loc 0)]), none, none⟩,
  ⟨(.mov (.loc 0)), none, none⟩,
  ⟨(.extract (.loc 0) 0), none, none⟩,
  ⟨(.extract (.loc 1) 1), none, none⟩,
  ⟨(.extract (.loc 2) 2), none, none⟩,
  ⟨(.mov (.loc 2)), (some 17), none⟩,
  ⟨(.mov (.loc 2)), (some 18), none⟩,
  ⟨(.mov (.loc 2)), (some 19), none⟩]
def c7_42 : List CO := [⟨(.mov (.var 15)), none, none⟩,
  ⟨(.mov (.var 18)), none, none⟩,
  ⟨(.eqv .bool true (.loc 1) (.loc 0)), none, none⟩,
  ⟨(.mov (.loc 0)), none, none⟩,
  ⟨(.mov (.var 16)), none, (some ((.loc 0), false))⟩,
  ⟨(.mov (.var 19)), none, (some ((.loc 1), false))⟩,
  ⟨(.bin .neq (.loc 1) (.loc 0)), none, (some ((.loc 2), false))⟩,
  ⟨(.pick (.loc 3) (.k (.bool true)) (.loc 0)), none, none⟩,
  ⟨(.mov (.loc 0)), none, none⟩,
  ⟨(.mov (.var 14)), none, (some ((.loc 0), false))⟩,
  ⟨(.len .slice (.loc 0)), none, (some ((.loc 1), false))⟩,
  ⟨(.mov (.var 17)), none, (some ((.loc 2), false))⟩,
  ⟨(.len .slice (.loc 0)), none, (some ((.loc 3), false))⟩,
  ⟨(.bin .neq (.loc 2) (.loc 0)), none, (some ((.loc 4), false))⟩,
  ⟨(.pick (.loc 5) (.k (.bool true)) (.loc 0)), (some 46), none⟩]
def c7_43 : List CO := [⟨(.mov (.k (.bool false))), (some 6), none⟩]
def c7_44 : List CO := [⟨(.mov (.var 14)), none, none⟩,
  ⟨(.len .slice (.loc 0)), (some 47), none⟩,
  ⟨(.mov (.k (.int .i64 0))), (some 48), none⟩]
def c7_45 : List CO := [⟨(.bin .lss (.var 48) (.var 47)), (some 49), none⟩]
def c7_46 : List CO := [⟨(.mov (.var 48)), none, none⟩,
  ⟨(.mov (.loc 0)), (some 20), none⟩]
def c7_47 : List CO := [⟨(.mov (.var 17)), none, none⟩,
  ⟨(.mov (.var 20)), none, none⟩,
  ⟨(.ia 5 (.loc 1) (.loc 0)), none, none⟩,
  ⟨(.fa 0 (.loc 0)), none, none⟩,
  ⟨(.load false 1 (.loc 0)), none, none⟩,
  ⟨(.mov (.var 14)), none, none⟩,
  ⟨(.mov (.var 20)), none, none⟩,
  ⟨(.ia 5 (.loc 1) (.loc 0)), none, none⟩,
  ⟨(.fa 0 (.loc 0)), none, none⟩,
  ⟨(.load false 1 (.loc 0)), none, none⟩,
  ⟨(.mov (.var 3)), none, none⟩,
  ⟨(.bin .add (.loc 1) (.loc 0)), none, none⟩,
  ⟨(.bin .neq (.loc 7) (.loc 0)), none, none⟩,
  ⟨(.mov (.loc 0)), none, none⟩,
  ⟨(.mov (.var 17)), none, (some ((.loc 0), false))⟩,
  ⟨(.mov (.var 20)), none, (some ((.loc 1), false))⟩,
  ⟨(.ia 5 (.loc 1) (.loc 0)), none, (some ((.loc 2), false))⟩,
  ⟨(.fa 1 (.loc 0)), none, (some ((.loc 3), false))⟩,
  ⟨(.load true 4 (.loc 0)), none, (some ((.loc 4), false))⟩,
  ⟨(.mov (.var 14)), none, (some ((.loc 5), false))⟩,
  ⟨(.mov (.var 20)), none, (some ((.loc 6), false))⟩,
  ⟨(.ia 5 (.loc 1) (.loc 0)), none, (some ((.loc 7), false))⟩,
  ⟨(.fa 1 (.loc 0)), none, (some ((.loc 8), false))⟩,
  ⟨(.load true 4 (.loc 0)), none, (some ((.loc 9), false))⟩,
  ⟨(.mov (.var 3)), none, (some ((.loc 10), false))⟩,
  ⟨(.call true 25 [(.loc 1), (.loc 0)]), none, (some ((.loc 11), false))⟩,
  ⟨(.call true 16 [(.loc 7), (.loc 0)]), none, (some ((.loc 12), false))⟩,
  ⟨(.un .not (.loc 0)), none, (some ((.loc 13), false))⟩,
  ⟨(.pick (.loc 14) (.k (.bool true)) (.loc 0)), (some 50), none⟩]
def c7_48 : List CO := [⟨(.mov (.k (.bool false))), (some 6), none⟩]
def c7_49 : List CO := [⟨(.bin .add (.var 48) (.k (.int .i64 1))), none, none⟩,
  ⟨(.mov (.loc 0)), (some 48), none⟩]
def c7_50 : CC := (.seq (.region [] [] c7_45) (.seq (.cond (.var 49) .skip (.exit 10)) (.seq (.block 11 (.seq (.region [] [] c7_46) (.seq (.region [] [] c7_47) (.cond (.var 50) (.seq (.region [] [] c7_48) .ret) .skip)))) (.region [] [] c7_49))))
def c7_51 : List CO := [⟨(.mov (.var 7)), none, none⟩,
  ⟨(.mov (.loc 0)), (some 6), none⟩]
def c7 : CFun := ⟨4, 51, (.seq (.region [] [] c7_0) (.seq (.region [] [] c7_1) (.seq (.seq (.region [] [] c7_2) (.cond (.var 21) (.seq (.region [] [] c7_3) .ret) .skip)) (.seq (.region [] [] c7_4) (.seq (.region [] [] c7_5) (.seq (.seq (.region [] [] c7_6) (.block 0 (.loop [true, false, false, true, true, true, false, true, true, false, false, false, false, false, false, false, false, false, false, false, false, false, true, true, true, false, false, false, false, false, false, false, false, false, false, false, false, false, false, false, false, false, false, false, false, false, false, false, false, false, false] [] c7_13))) (.seq (.seq (.region [] [] c7_14) (.block 2 (.loop [true, false, false, true, true, true, false, true, true, false, false, false, false, false, false, false, false, false, false, false, false, false, false, false, false, false, false, true, true, true, false, false, false, false, false, false, false, false, false, false, false, false, false, false, false, false, false, false, false, false, false] [] c7_27))) (.seq (.seq (.region [] [] c7_28) (.block 6 (.loop [true, false, false, true, true, true, false, true, true, false, false, false, false, false, false, false, false, false, false, false, false, false, false, false, false, false, false, false, false, false, false, false, false, false, false, false, false, true, true, true, false, false, false, false, false, false, false, false, false, false, false] [] c7_39))) (.seq (.region [] [] c7_40) (.seq (.region [.v 8] [] c7_41) (.seq (.seq (.region [] [] c7_42) (.cond (.var 46) (.seq (.region [] [] c7_43) .ret) .skip)) (.seq (.seq (.region [] [] c7_44) (.block 10 (.loop [false, false, false, true, false, false, false, true, false, false, false, false, false, false, true, false, false, true, false, false, false, false, false, false, false, false, false, false, false, false, false, false, false, false, false, false, false, false, false, false, false, false, false, false, false, false, false, true, true, false, false] [] c7_50))) (.seq (.region [] [] c7_51) .ret))))))))))))), [.var 6]⟩
theorem ok7 : CodeOk Tryd.prog T 7 c7 := ⟨⟨Tryd.f7, Hints.of [(36, [.v 8])] [] [(0, [true, false, false, true, true, true, false, true, true, false, false, false, false, false, false, false, false, false, false, false, false, false, true, true, true, false, false, false, false, false, false, false, false, false, false, false, false, false, false, false, false, false, false, false, false, false, false, false, false, false, false], []), (2, [true, false, false, true, true, true, false, true, true, false, false, false, false, false, false, false, false, false, false, false, false, false, false, false, false, false, false, true, true, true, false, false, false, false, false, false, false, false, false, false, false, false, false, false, false, false, false, false, false, false, false], []), (4, [true, false, false, true, true, true, false, true, true, false, false, false, false, false, false, false, false, false, false, false, false, false, false, false, false, false, false, true, true, true, false, false, true, true, true, false, false, false, false, false, false, false, false, false, false, false, false, false, false, false, false], []), (6, [true, false, false, true, true, true, false, true, true, false, false, false, false, false, false, false, false, false, false, false, false, false, false, false, false, false, false, false, false, false, false, false, false, false, false, false, false, true, true, true, false, false, false, false, false, false, false, false, false, false, false], []), (8, [true, false, false, true, true, true, false, true, true, false, false, false, false, false, false, false, false, false, false, false, false, false, false, false, false, false, false, false, false, false, false, false, false, false, false, false, false, true, true, true, false, true, true, true, false, false, false, false, false, false, false], []), (10, [false, false, false, true, false, false, false, true, false, false, false, false, false, false, true, false, false, true, false, false, false, false, false, false, false, false, false, false, false, false, false, false, false, false, false, false, false, false, false, false, false, false, false, false, false, false, false, true, true, false, false], [])], [0, 1, 2, 3, 5, 6, 8, 9, 10, 12, 14, 16, 18, 20, 21, 22, 23, 24, 25, 26, 27, 33, 38, 39, 40, 41, 51, 68, 69, 70, 71, 76, 79, 80, 81, 82, 86, 90, 91, 92, 93, 98, 99, 100, 101, 109, 147, 149, 150, 151, 181], Tryd.func7, by kernel_rfl, by kernel_rfl⟩⟩

/-! spinney/spinneylaw10.UnifySelf -/
def c8_0 : List CO := [⟨(.box (.var 1)), (some 2), none⟩,
  ⟨(.mov (.k (.bool false))), (some 3), none⟩]
def c8_1 : List CO := [⟨(.call true 17 []), none, none⟩,
  ⟨(.mov (.loc 0)), (some 4), none⟩]
def c8_2 : List CO := [⟨(.mov (.var 0)), none, none⟩,
  ⟨(.load true 4 (.var 2)), none, none⟩,
  ⟨(.bslice 4 [(.int .i64 0), (.string ⟨#[]⟩), (.int .i64 0), (.slice none 0 0)] 1 [(0, (.loc 0))]), none, none⟩,
  ⟨(.call true 18 [(.loc 2), (.loc 0)]), none, none⟩,
  ⟨(.mov (.loc 0)), none, none⟩,
  ⟨(.mov (.var 0)), none, (some ((.loc 0), false))⟩,
  ⟨(.load true 4 (.var 2)), none, (some ((.loc 1), false))⟩,
  ⟨(.bslice 4 [(.int .i64 0), (.string ⟨#[]⟩), (.int .i64 0), (.slice none 0 0)] 1 [(0, (.loc 0))]), none, (some ((.loc 2), false))⟩,
  ⟨(.call true 19 [(.loc 2), (.loc 0)]), none, (some ((.loc 3), false))⟩,
  ⟨(.un .not (.loc 0)), none, (some ((.loc 4), false))⟩,
  ⟨(.pick (.loc 5) (.k (.bool true)) (.loc 0)), (some 10), none⟩]
def c8_3 : List CO := [⟨(.mov (.var 4)), none, none⟩,
  ⟨(.mov (.loc 0)), (some 3), none⟩]
def c8_4 : List CO := [⟨(.mov (.var 0)), none, none⟩,
  ⟨(.load true 4 (.var 2)), none, none⟩,
  ⟨(.load true 4 (.var 2)), none, none⟩,
  ⟨(.call true 22 [(.loc 2), (.loc 1), (.loc 0)]), none, none⟩,
  ⟨(.mov (.loc 0)), none, none⟩,
  ⟨(.extract (.loc 0) 0), none, none⟩,
  ⟨(.extract (.loc 1) 1), none, none⟩,
  ⟨(.extract (.loc 2) 2), none, none⟩,
  ⟨(.mov (.loc 2)), (some 5), none⟩,
  ⟨(.mov (.loc 2)), (some 6), none⟩,
  ⟨(.mov (.loc 2)), (some 7), none⟩]
def c8_5 : List CO := [⟨(.mov (.var 0)), none, none⟩,
  ⟨(.load true 4 (.var 2)), none, none⟩,
  ⟨(.load true 4 (.var 2)), none, none⟩,
  ⟨(.call true 20 [(.loc 2), (.loc 1), (.loc 0)]), none, none⟩,
  ⟨(.mov (.loc 0)), none, none⟩,
  ⟨(.extract (.loc 0) 0), none, none⟩,
  ⟨(.extract (.loc 1) 1), none, none⟩,
  ⟨(.mov (.loc 1)), (some 8), none⟩,
  ⟨(.mov (.loc 1)), (some 9), none⟩]
def c8_6 : List CO := [⟨(.mov (.var 7)), none, none⟩,
  ⟨(.bin .eql (.loc 0) (.k (.int .i64 140))), none, none⟩,
  ⟨(.mov (.loc 0)), none, none⟩,
  ⟨(.mov (.var 9)), none, (some ((.loc 0), false))⟩,
  ⟨(.bin .eql (.loc 0) (.k (.int .i64 140))), none, (some ((.loc 1), false))⟩,
  ⟨(.pick (.loc 2) (.k (.bool true)) (.loc 0)), (some 11), none⟩]
def c8_7 : List CO := [⟨(.mov (.var 4)), none, none⟩,
  ⟨(.mov (.loc 0)), none, none⟩,
  ⟨(.mov (.var 7)), none, (some ((.loc 0), true))⟩,
  ⟨(.mov (.var 9)), none, (some ((.loc 1), true))⟩,
  ⟨(.bin .eql (.loc 1) (.loc 0)), none, (some ((.loc 2), true))⟩,
  ⟨(.pick (.loc 3) (.loc 0) (.k (.bool false))), none, none⟩,
  ⟨(.mov (.loc 0)), none, none⟩,
  ⟨(.mov (.var 6)), none, (some ((.loc 0), true))⟩,
  ⟨(.un .not (.loc 0)), none, (some ((.loc 1), true))⟩,
  ⟨(.pick (.loc 2) (.loc 0) (.k (.bool false))), none, none⟩,
  ⟨(.mov (.loc 0)), (some 3), none⟩]
def c8_8 : List CO := [⟨(.mov (.var 4)), none, none⟩,
  ⟨(.mov (.loc 0)), none, none⟩,
  ⟨(.mov (.var 7)), none, (some ((.loc 0), true))⟩,
  ⟨(.bin .eql (.loc 0) (.k (.int .i64 0))), none, (some ((.loc 1), true))⟩,
  ⟨(.pick (.loc 2) (.loc 0) (.k (.bool false))), none, none⟩,
  ⟨(.mov (.loc 0)), none, none⟩,
  ⟨(.mov (.var 6)), none, (some ((.loc 0), true))⟩,
  ⟨(.pick (.loc 1) (.loc 0) (.k (.bool false))), none, none⟩,
  ⟨(.mov (.loc 0)), none, none⟩,
  ⟨(.mov (.var 5)), none, (some ((.loc 0), true))⟩,
  ⟨(.mov (.var 0)), none, (some ((.loc 1), true))⟩,
  ⟨(.call true 24 [(.loc 1), (.loc 0)]), none, (some ((.loc 2), true))⟩,
  ⟨(.pick (.loc 3) (.loc 0) (.k (.bool false))), none, none⟩,
  ⟨(.mov (.loc 0)), none, none⟩,
  ⟨(.mov (.var 9)), none, (some ((.loc 0), true))⟩,
  ⟨(.bin .eql (.loc 0) (.k (.int .i64 0))), none, (some ((.loc 1), true))⟩,
  ⟨(.pick (.loc 2) (.loc 0) (.k (.bool false))), none, none⟩,
  ⟨(.mov (.loc 0)), none, none⟩,
  ⟨(.mov (.var 8)), none, (some ((.loc 0), true))⟩,
  ⟨(.bin .eql (.loc 0) (.k (.int .i64 0))), none, (some ((.loc 1), true))⟩,
  ⟨(.pick (.loc 2) (.loc 0) (.k (.bool false))), none, none⟩,
  ⟨(.mov (.loc 0)), (some 3), none⟩]
def c8 : CFun := ⟨2, 12, (.seq (.region [] [] c8_0) (.seq (.region [] [] c8_1) (.seq (.seq (.region [] [] c8_2) (.cond (.var 10) (.seq (.region [] [] c8_3) .ret) .skip)) (.seq (.region [] [] c8_4) (.seq (.region [] [] c8_5) (.seq (.seq (.region [] [] c8_6) (.cond (.var 11) (.seq (.region [] [] c8_7) .ret) .skip)) (.seq (.region [] [] c8_8) .ret))))))), [.var 3]⟩
theorem ok8 : CodeOk Tryd.prog T 8 c8 := ⟨⟨Tryd.f8, Hints.of [] [] [], [0, 1, 3, 4, 5, 6, 7, 8, 9, 10, 22, 44], Tryd.func8, by kernel_rfl, by kernel_rfl⟩⟩

/-! spinney/spinneylaw09.live -/
def c9_0 : List CO := [⟨(.mov (.k (.bool false))), (some 0), none⟩]
def c9_1 : List CO := [⟨(.call true 26 [(.k (.int .i64 0))]), none, none⟩,
  ⟨(.box (.k (.agg #[(.int .i64 0), (.string ⟨#[]⟩), (.int .i64 0), (.slice none 0 0)]))), (some 1), none⟩,
  ⟨(.store 4 (.var 1) (.loc 1)), none, none⟩]
def c9_2 : List CO := [⟨(.call true 26 [(.k (.int .i64 1))]), none, none⟩,
  ⟨(.box (.k (.agg #[(.int .i64 0), (.string ⟨#[]⟩), (.int .i64 0), (.slice none 0 0)]))), (some 2), none⟩,
  ⟨(.store 4 (.var 2) (.loc 1)), none, none⟩]
def c9_3 : List CO := [⟨(.call true 27 [(.k (.string ⟨#[97]⟩))]), none, none⟩,
  ⟨(.box (.k (.agg #[(.int .i64 0), (.string ⟨#[]⟩), (.int .i64 0), (.slice none 0 0)]))), (some 3), none⟩,
  ⟨(.store 4 (.var 3) (.loc 1)), none, none⟩]
def c9_4 : List CO := [⟨(.load true 4 (.var 2)), none, none⟩,
  ⟨(.bslice 4 [(.int .i64 0), (.string ⟨#[]⟩), (.int .i64 0), (.slice none 0 0)] 1 [(0, (.loc 0))]), none, none⟩,
  ⟨(.call true 28 [(.k (.string ⟨#[102]⟩)), (.loc 0)]), none, none⟩,
  ⟨(.build [(.int .i64 0), (.int .i64 0), (.string ⟨#[]⟩), (.int .i64 0), (.slice none 0 0)] [(0, 1, (.k (.int .i64 0))), (1, 4, (.loc 0))]), none, none⟩,
  ⟨(.load true 4 (.var 3)), none, none⟩,
  ⟨(.build [(.int .i64 0), (.int .i64 0), (.string ⟨#[]⟩), (.int .i64 0), (.slice none 0 0)] [(0, 1, (.k (.int .i64 1))), (1, 4, (.loc 0))]), none, none⟩,
  ⟨(.bslice 5 [(.int .i64 0), (.int .i64 0), (.string ⟨#[]⟩), (.int .i64 0), (.slice none 0 0)] 2 [(0, (.loc 2)), (1, (.loc 0))]), none, none⟩,
  ⟨(.mov (.loc 0)), (some 4), none⟩]
def c9_5 : List CO := [⟨(.mov (.var 4)), none, none⟩,
  ⟨(.load true 4 (.var 1)), none, none⟩,
  ⟨(.load true 4 (.var 2)), none, none⟩,
  ⟨(.bslice 4 [(.int .i64 0), (.string ⟨#[]⟩), (.int .i64 0), (.slice none 0 0)] 2 [(0, (.loc 1)), (1, (.loc 0))]), none, none⟩,
  ⟨(.call true 28 [(.k (.string ⟨#[103]⟩)), (.loc 0)]), none, none⟩,
  ⟨(.call true 15 [(.loc 4), (.loc 0)]), none, none⟩,
  ⟨(.mov (.loc 0)), none, none⟩,
  ⟨(.extract (.loc 0) 0), none, none⟩,
  ⟨(.extract (.loc 1) 1), none, none⟩,
  ⟨(.box (.k (.agg #[(.int .i64 0), (.string ⟨#[]⟩), (.int .i64 0), (.slice none 0 0)]))), (some 5), none⟩,
  ⟨(.store 4 (.var 5) (.loc 2)), none, none⟩,
  ⟨(.mov (.loc 2)), (some 6), none⟩]
def c9_6 : List CO := [⟨(.load true 4 (.var 1)), none, none⟩,
  ⟨(.bslice 4 [(.int .i64 0), (.string ⟨#[]⟩), (.int .i64 0), (.slice none 0 0)] 1 [(0, (.loc 0))]), none, none⟩,
  ⟨(.call true 28 [(.k (.string ⟨#[102]⟩)), (.loc 0)]), none, none⟩,
  ⟨(.build [(.int .i64 0), (.int .i64 0), (.string ⟨#[]⟩), (.int .i64 0), (.slice none 0 0)] [(0, 1, (.k (.int .i64 0))), (1, 4, (.loc 0))]), none, none⟩,
  ⟨(.bslice 5 [(.int .i64 0), (.int .i64 0), (.string ⟨#[]⟩), (.int .i64 0), (.slice none 0 0)] 1 [(0, (.loc 0))]), none, none⟩,
  ⟨(.load true 4 (.var 1)), none, none⟩,
  ⟨(.call true 15 [(.loc 1), (.loc 0)]), none, none⟩,
  ⟨(.mov (.loc 0)), none, none⟩,
  ⟨(.extract (.loc 0) 0), none, none⟩,
  ⟨(.extract (.loc 1) 1), none, none⟩,
  ⟨(.box (.k (.agg #[(.int .i64 0), (.string ⟨#[]⟩), (.int .i64 0), (.slice none 0 0)]))), none, none⟩,
  ⟨(.store 4 (.loc 0) (.loc 2)), none, none⟩,
  ⟨(.mov (.loc 2)), (some 7), none⟩]
def c9_7 : List CO := [⟨(.load true 4 (.var 2)), none, none⟩,
  ⟨(.build [(.int .i64 0), (.int .i64 0), (.string ⟨#[]⟩), (.int .i64 0), (.slice none 0 0)] [(0, 1, (.k (.int .i64 0))), (1, 4, (.loc 0))]), none, none⟩,
  ⟨(.load true 4 (.var 1)), none, none⟩,
  ⟨(.build [(.int .i64 0), (.int .i64 0), (.string ⟨#[]⟩), (.int .i64 0), (.slice none 0 0)] [(0, 1, (.k (.int .i64 1))), (1, 4, (.loc 0))]), none, none⟩,
  ⟨(.bslice 5 [(.int .i64 0), (.int .i64 0), (.string ⟨#[]⟩), (.int .i64 0), (.slice none 0 0)] 2 [(0, (.loc 2)), (1, (.loc 0))]), none, none⟩,
  ⟨(.load true 4 (.var 1)), none, none⟩,
  ⟨(.call true 29 [(.loc 1), (.loc 0)]), none, none⟩,
  ⟨(.mov (.loc 0)), none, none⟩,
  ⟨(.extract (.loc 0) 0), none, none⟩,
  ⟨(.extract (.loc 1) 1), none, none⟩,
  ⟨(.box (.k (.agg #[(.int .i64 0), (.string ⟨#[]⟩), (.int .i64 0), (.slice none 0 0)]))), none, none⟩,
  ⟨(.store 4 (.loc 0) (.loc 2)), none, none⟩,
  ⟨(.mov (.loc 2)), (some 8), none⟩]
def c9_8 : List CO := [⟨(.mov (.var 6)), none, none⟩,
  ⟨(.bin .eql (.loc 0) (.k (.int .i64 0))), none, none⟩,
  ⟨(.mov (.loc 0)), none, none⟩,
  ⟨(.load true 4 (.var 5)), none, (some ((.loc 0), true))⟩,
  ⟨(.load true 4 (.var 3)), none, (some ((.loc 1), true))⟩,
  ⟨(.bslice 4 [(.int .i64 0), (.string ⟨#[]⟩), (.int .i64 0), (.slice none 0 0)] 1 [(0, (.loc 0))]), none, (some ((.loc 2), true))⟩,
  ⟨(.call true 28 [(.k (.string ⟨#[102]⟩)), (.loc 0)]), none, (some ((.loc 3), true))⟩,
  ⟨(.load true 4 (.var 3)), none, (some ((.loc 4), true))⟩,
  ⟨(.bslice 4 [(.int .i64 0), (.string ⟨#[]⟩), (.int .i64 0), (.slice none 0 0)] 2 [(0, (.loc 1)), (1, (.loc 0))]), none, (some ((.loc 5), true))⟩,
  ⟨(.call true 28 [(.k (.string ⟨#[103]⟩)), (.loc 0)]), none, (some ((.loc 6), true))⟩,
  ⟨(.call true 16 [(.loc 6), (.loc 0)]), none, (some ((.loc 7), true))⟩,
  ⟨(.pick (.loc 8) (.loc 0) (.k (.bool false))), none, none⟩,
  ⟨(.mov (.loc 0)), none, none⟩,
  ⟨(.mov (.var 7)), none, (some ((.loc 0), true))⟩,
  ⟨(.bin .eql (.loc 0) (.k (.int .i64 3))), none, (some ((.loc 1), true))⟩,
  ⟨(.pick (.loc 2) (.loc 0) (.k (.bool false))), none, none⟩,
  ⟨(.mov (.loc 0)), none, none⟩,
  ⟨(.mov (.var 8)), none, (some ((.loc 0), true))⟩,
  ⟨(.bin .eql (.loc 0) (.k (.int .i64 140))), none, (some ((.loc 1), true))⟩,
  ⟨(.pick (.loc 2) (.loc 0) (.k (.bool false))), none, none⟩,
  ⟨(.mov (.loc 0)), none, none⟩,
  ⟨(.load true 4 (.var 1)), none, (some ((.loc 0), true))⟩,
  ⟨(.call true 30 [(.loc 0), (.k (.int .i64 1))]), none, (some ((.loc 1), true))⟩,
  ⟨(.load true 4 (.var 2)), none, (some ((.loc 2), true))⟩,
  ⟨(.call true 16 [(.loc 1), (.loc 0)]), none, (some ((.loc 3), true))⟩,
  ⟨(.pick (.loc 4) (.loc 0) (.k (.bool false))), none, none⟩,
  ⟨(.mov (.loc 0)), (some 0), none⟩]
def c9 : CFun := ⟨0, 9, (.seq (.region [] [] c9_0) (.seq (.region [] [] c9_1) (.seq (.region [] [] c9_2) (.seq (.region [] [] c9_3) (.seq (.region [] [] c9_4) (.seq (.region [] [] c9_5) (.seq (.region [] [] c9_6) (.seq (.region [] [] c9_7) (.seq (.region [] [] c9_8) .ret))))))))), [.var 0]⟩
theorem ok9 : CodeOk Tryd.prog T 9 c9 := ⟨⟨Tryd.f9, Hints.of [] [] [], [0, 1, 2, 3, 4, 5, 6, 8, 10], Tryd.func9, by kernel_rfl, by kernel_rfl⟩⟩

/-! spinney/spinneylaw09.big -/
def c10_0 : List CO := [⟨(.mov (.k (.bool false))), (some 2), none⟩]
def c10_1 : List CO := [⟨(.mov (.var 0)), none, none⟩,
  ⟨(.len .slice (.loc 0)), none, none⟩,
  ⟨(.bin .gtr (.loc 0) (.k (.int .i64 100))), (some 5), none⟩]
def c10_2 : List CO := [⟨(.mov (.k (.bool true))), (some 2), none⟩]
def c10_3 : List CO := [⟨(.mov (.var 0)), (some 6), none⟩,
  ⟨(.len .slice (.var 6)), (some 7), none⟩,
  ⟨(.mov (.k (.int .i64 0))), (some 8), none⟩]
def c10_4 : List CO := [⟨(.bin .lss (.var 8) (.var 7)), (some 9), none⟩]
def c10_5 : List CO := [⟨(.ia 5 (.var 6) (.var 8)), none, none⟩,
  ⟨(.load true 5 (.loc 0)), none, none⟩,
  ⟨(.box (.k (.agg #[(.int .i64 0), (.int .i64 0), (.string ⟨#[]⟩), (.int .i64 0), (.slice none 0 0)]))), (some 3), none⟩,
  ⟨(.store 5 (.var 3) (.loc 1)), none, none⟩]
def c10_6 : List CO := [⟨(.fa 1 (.var 3)), none, none⟩,
  ⟨(.load true 4 (.loc 0)), none, none⟩,
  ⟨(.call true 11 [(.loc 0), (.k (.int .i64 300))]), none, none⟩,
  ⟨(.un .not (.loc 0)), (some 10), none⟩]
def c10_7 : List CO := [⟨(.mov (.k (.bool true))), (some 2), none⟩]
def c10_8 : List CO := [⟨(.bin .add (.var 8) (.k (.int .i64 1))), none, none⟩,
  ⟨(.mov (.loc 0)), (some 8), none⟩]
def c10_9 : CC := (.seq (.region [] [] c10_4) (.seq (.cond (.var 9) .skip (.exit 0)) (.seq (.block 1 (.seq (.region [] [] c10_5) (.seq (.region [] [] c10_6) (.cond (.var 10) (.seq (.region [] [] c10_7) .ret) .skip)))) (.region [] [] c10_8))))
def c10_10 : List CO := [⟨(.mov (.var 1)), (some 11), none⟩,
  ⟨(.len .slice (.var 11)), (some 12), none⟩,
  ⟨(.mov (.k (.int .i64 0))), (some 13), none⟩]
def c10_11 : List CO := [⟨(.bin .lss (.var 13) (.var 12)), (some 14), none⟩]
def c10_12 : List CO := [⟨(.ia 4 (.var 11) (.var 13)), none, none⟩,
  ⟨(.load true 4 (.loc 0)), none, none⟩,
  ⟨(.box (.k (.agg #[(.int .i64 0), (.string ⟨#[]⟩), (.int .i64 0), (.slice none 0 0)]))), (some 4), none⟩,
  ⟨(.store 4 (.var 4) (.loc 1)), none, none⟩]
def c10_13 : List CO := [⟨(.load true 4 (.var 4)), none, none⟩,
  ⟨(.call true 11 [(.loc 0), (.k (.int .i64 3000))]), none, none⟩,
  ⟨(.un .not (.loc 0)), (some 15), none⟩]
def c10_14 : List CO := [⟨(.mov (.k (.bool true))), (some 2), none⟩]
def c10_15 : List CO := [⟨(.bin .add (.var 13) (.k (.int .i64 1))), none, none⟩,
  ⟨(.mov (.loc 0)), (some 13), none⟩]
def c10_16 : CC := (.seq (.region [] [] c10_11) (.seq (.cond (.var 14) .skip (.exit 2)) (.seq (.block 3 (.seq (.region [] [] c10_12) (.seq (.region [] [] c10_13) (.cond (.var 15) (.seq (.region [] [] c10_14) .ret) .skip)))) (.region [] [] c10_15))))
def c10_17 : List CO := [⟨(.mov (.k (.bool false))), (some 2), none⟩]
def c10 : CFun := ⟨2, 16, (.seq (.region [] [] c10_0) (.seq (.seq (.region [] [] c10_1) (.cond (.var 5) (.seq (.region [] [] c10_2) .ret) .skip)) (.seq (.seq (.region [] [] c10_3) (.block 0 (.loop [false, true, false, false, false, false, true, true, true, false, false, false, false, false, false, false] [] c10_9))) (.seq (.seq (.region [] [] c10_10) (.block 2 (.loop [false, false, false, false, false, false, false, false, false, false, false, true, true, true, false, false] [] c10_16))) (.seq (.region [] [] c10_17) .ret))))), [.var 2]⟩
theorem ok10 : CodeOk Tryd.prog T 10 c10 := ⟨⟨Tryd.f10, Hints.of [] [] [(0, [false, true, false, false, false, false, true, true, true, false, false, false, false, false, false, false], []), (2, [false, false, false, false, false, false, false, false, false, false, false, true, true, true, false, false], [])], [0, 1, 4, 6, 8, 11, 12, 13, 14, 15, 21, 23, 24, 25, 26, 31], Tryd.func10, by kernel_rfl, by kernel_rfl⟩⟩

/-! spinney/spinneyref03.Few -/
def c11_0 : List CO := [⟨(.box (.var 0)), (some 2), none⟩,
  ⟨(.mov (.k (.bool false))), (some 3), none⟩]
def c11_1 : List CO := [⟨(.load true 4 (.var 2)), none, none⟩,
  ⟨(.mov (.var 1)), none, none⟩,
  ⟨(.call true 31 [(.loc 1), (.loc 0)]), none, none⟩,
  ⟨(.bin .geq (.loc 0) (.k (.int .i64 0))), none, none⟩,
  ⟨(.mov (.loc 0)), (some 3), none⟩]
def c11 : CFun := ⟨2, 4, (.seq (.region [] [] c11_0) (.seq (.region [] [] c11_1) .ret)), [.var 3]⟩
theorem ok11 : CodeOk Tryd.prog T 11 c11 := ⟨⟨Tryd.f11, Hints.of [] [] [], [0, 1, 2, 4], Tryd.func11, by kernel_rfl, by kernel_rfl⟩⟩

/-! spinney/spinneyref03.Check -/
def c12_0 : List CO := [⟨(.box (.var 0)), (some 1), none⟩,
  ⟨(.mov (.k (.int .i64 0))), (some 2), none⟩]
def c12_1 : List CO := [⟨(.load true 4 (.var 1)), none, none⟩,
  ⟨(.call true 32 [(.loc 0)]), none, none⟩,
  ⟨(.un .not (.loc 0)), (some 3), none⟩]
def c12_2 : List CO := [⟨(.mov (.k (.int .i64 30))), (some 2), none⟩]
def c12_3 : List CO := [⟨(.load true 4 (.var 1)), none, none⟩,
  ⟨(.call true 33 [(.loc 0)]), none, none⟩,
  ⟨(.bin .gtr (.loc 0) (.k (.int .i64 60))), (some 4), none⟩]
def c12_4 : List CO := [⟨(.mov (.k (.int .i64 3))), (some 2), none⟩]
def c12_5 : List CO := [⟨(.mov (.k (.int .i64 0))), (some 2), none⟩]
def c12 : CFun := ⟨1, 5, (.seq (.region [] [] c12_0) (.seq (.seq (.region [] [] c12_1) (.cond (.var 3) (.seq (.region [] [] c12_2) .ret) .skip)) (.seq (.seq (.region [] [] c12_3) (.cond (.var 4) (.seq (.region [] [] c12_4) .ret) .skip)) (.seq (.region [] [] c12_5) .ret)))), [.var 2]⟩
theorem ok12 : CodeOk Tryd.prog T 12 c12 := ⟨⟨Tryd.f12, Hints.of [] [] [], [0, 1, 2, 5, 8], Tryd.func12, by kernel_rfl, by kernel_rfl⟩⟩

/-! spinney/spinneyref03.Has -/
def c13_0 : List CO := [⟨(.mov (.k (.bool false))), (some 2), none⟩]
def c13_1 : List CO := [⟨(.mov (.var 0)), (some 4), none⟩,
  ⟨(.len .slice (.var 4)), (some 5), none⟩,
  ⟨(.mov (.k (.int .i64 0))), (some 6), none⟩]
def c13_2 : List CO := [⟨(.bin .lss (.var 6) (.var 5)), (some 7), none⟩]
def c13_3 : List CO := [⟨(.ia 1 (.var 4) (.var 6)), none, none⟩,
  ⟨(.load false 1 (.loc 0)), none, none⟩,
  ⟨(.mov (.loc 0)), (some 3), none⟩]
def c13_4 : List CO := [⟨(.mov (.var 3)), none, none⟩,
  ⟨(.mov (.var 1)), none, none⟩,
  ⟨(.bin .eql (.loc 1) (.loc 0)), (some 8), none⟩]
def c13_5 : List CO := [⟨(.mov (.k (.bool true))), (some 2), none⟩]
def c13_6 : List CO := [⟨(.bin .add (.var 6) (.k (.int .i64 1))), none, none⟩,
  ⟨(.mov (.loc 0)), (some 6), none⟩]
def c13_7 : CC := (.seq (.region [] [] c13_2) (.seq (.cond (.var 7) .skip (.exit 0)) (.seq (.block 1 (.seq (.region [] [] c13_3) (.seq (.region [] [] c13_4) (.cond (.var 8) (.seq (.region [] [] c13_5) .ret) .skip)))) (.region [] [] c13_6))))
def c13_8 : List CO := [⟨(.mov (.k (.bool false))), (some 2), none⟩]
def c13 : CFun := ⟨2, 9, (.seq (.region [] [] c13_0) (.seq (.seq (.region [] [] c13_1) (.block 0 (.loop [false, true, false, false, true, true, true, false, false] [] c13_7))) (.seq (.region [] [] c13_8) .ret))), [.var 2]⟩
theorem ok13 : CodeOk Tryd.prog T 13 c13 := ⟨⟨Tryd.f13, Hints.of [] [] [(0, [false, true, false, false, true, true, true, false, false], [])], [0, 1, 4, 6, 7, 8, 9, 10, 15], Tryd.func13, by kernel_rfl, by kernel_rfl⟩⟩

/-! spinney/spinneyref03.Vars -/
def c14_0 : List CO := [⟨(.box (.var 0)), (some 1), none⟩,
  ⟨(.mov (.k (.slice none 0 0))), (some 2), none⟩]
def c14_1 : List CO := [⟨(.mov (.k (.slice none 0 0))), (some 3), none⟩]
def c14_2 : List CO := [⟨(.load true 4 (.var 1)), none, none⟩,
  ⟨(.call true 34 [(.loc 0)]), (some 5), none⟩,
  ⟨(.len .slice (.var 5)), (some 6), none⟩,
  ⟨(.mov (.k (.int .i64 0))), (some 7), none⟩]
def c14_3 : List CO := [⟨(.bin .lss (.var 7) (.var 6)), (some 8), none⟩]
def c14_4 : List CO := [⟨(.ia 1 (.var 5) (.var 7)), none, none⟩,
  ⟨(.load false 1 (.loc 0)), none, none⟩,
  ⟨(.mov (.loc 0)), (some 4), none⟩]
def c14_5 : List CO := [⟨(.mov (.var 3)), none, none⟩,
  ⟨(.mov (.var 4)), none, none⟩,
  ⟨(.call true 13 [(.loc 1), (.loc 0)]), none, none⟩,
  ⟨(.un .not (.loc 0)), (some 9), none⟩]
def c14_6 : List CO := [⟨(.mov (.var 3)), none, none⟩,
  ⟨(.mov (.var 4)), none, none⟩,
  ⟨(.bslice 1 [(.int .i64 0)] 1 [(0, (.loc 0))]), none, none⟩,
  ⟨(.append 1 8 (.loc 2) (.loc 0)), none, none⟩,
  ⟨(.mov (.loc 0)), (some 3), none⟩]
def c14_7 : List CO := [⟨(.bin .add (.var 7) (.k (.int .i64 1))), none, none⟩,
  ⟨(.mov (.loc 0)), (some 7), none⟩]
def c14_8 : CC := (.seq (.region [] [] c14_3) (.seq (.cond (.var 8) .skip (.exit 0)) (.seq (.block 1 (.seq (.region [] [] c14_4) (.seq (.region [.v 3] [] c14_5) (.cond (.var 9) (.region [] [] c14_6) .skip)))) (.region [] [] c14_7))))
def c14_9 : List CO := [⟨(.mov (.var 3)), none, none⟩,
  ⟨(.mov (.loc 0)), (some 2), none⟩]
def c14 : CFun := ⟨1, 10, (.seq (.region [] [] c14_0) (.seq (.region [] [] c14_1) (.seq (.seq (.region [] [] c14_2) (.block 0 (.loop [false, false, false, true, false, true, true, true, false, false] [] c14_8))) (.seq (.region [] [] c14_9) .ret)))), [.var 2]⟩
theorem ok14 : CodeOk Tryd.prog T 14 c14 := ⟨⟨Tryd.f14, Hints.of [(5, [.v 3])] [] [(0, [false, false, false, true, false, true, true, true, false, false], [])], [0, 1, 2, 3, 5, 7, 8, 9, 10, 16], Tryd.func14, by kernel_rfl, by kernel_rfl⟩⟩

/-! spinney/subst.Resolve -/
def c15_0 : List CO := [⟨(.box (.var 1)), (some 2), none⟩,
  ⟨(.box (.k (.agg #[(.int .i64 0), (.string ⟨#[]⟩), (.int .i64 0), (.slice none 0 0)]))), (some 3), none⟩,
  ⟨(.mov (.k (.int .i64 0))), (some 4), none⟩]
def c15_1 : List CO := [⟨(.mov (.var 0)), none, none⟩,
  ⟨(.build [(.slice none 0 0), (.int .i64 0), (.int .i64 0)] [(0, 1, (.loc 0)), (1, 1, (.k (.int .i64 2000)))]), none, none⟩,
  ⟨(.box (.loc 0)), none, none⟩,
  ⟨(.mov (.loc 0)), (some 5), none⟩]
def c15_2 : List CO := [⟨(.mov (.var 5)), none, none⟩,
  ⟨(.load true 4 (.var 2)), none, none⟩,
  ⟨(.call false 35 [(.loc 1), (.loc 0)]), none, none⟩,
  ⟨(.extract (.loc 0) 0), none, none⟩,
  ⟨(.extract (.loc 1) 1), none, none⟩,
  ⟨(.store 4 (.var 3) (.loc 1)), none, none⟩,
  ⟨(.mov (.loc 1)), (some 4), none⟩]
def c15 : CFun := ⟨2, 6, (.seq (.region [] [] c15_0) (.seq (.region [] [] c15_1) (.seq (.region [] [] c15_2) .ret))), [.cell 3 true 4, .var 4]⟩
theorem ok15 : CodeOk Tryd.prog T 15 c15 := ⟨⟨Tryd.f15, Hints.of [] [] [], [0, 1, 3, 4, 5, 6], Tryd.func15, by kernel_rfl, by kernel_rfl⟩⟩

/-! spinney/spinneyref03.Same -/
def c16_0 : List CO := [⟨(.box (.var 0)), (some 2), none⟩,
  ⟨(.box (.var 1)), (some 3), none⟩,
  ⟨(.mov (.k (.bool false))), (some 4), none⟩]
def c16_1 : List CO := [⟨(.fa 0 (.var 2)), none, none⟩,
  ⟨(.load false 1 (.loc 0)), none, none⟩,
  ⟨(.fa 0 (.var 3)), none, none⟩,
  ⟨(.load false 1 (.loc 0)), none, none⟩,
  ⟨(.bin .neq (.loc 2) (.loc 0)), none, none⟩,
  ⟨(.mov (.loc 0)), none, none⟩,
  ⟨(.fa 1 (.var 2)), none, (some ((.loc 0), false))⟩,
  ⟨(.load false 1 (.loc 0)), none, (some ((.loc 1), false))⟩,
  ⟨(.fa 1 (.var 3)), none, (some ((.loc 2), false))⟩,
  ⟨(.load false 1 (.loc 0)), none, (some ((.loc 3), false))⟩,
  ⟨(.bin .neq (.loc 2) (.loc 0)), none, (some ((.loc 4), false))⟩,
  ⟨(.pick (.loc 5) (.k (.bool true)) (.loc 0)), none, none⟩,
  ⟨(.mov (.loc 0)), none, none⟩,
  ⟨(.fa 2 (.var 2)), none, (some ((.loc 0), false))⟩,
  ⟨(.load false 1 (.loc 0)), none, (some ((.loc 1), false))⟩,
  ⟨(.fa 2 (.var 3)), none, (some ((.loc 2), false))⟩,
  ⟨(.load false 1 (.loc 0)), none, (some ((.loc 3), false))⟩,
  ⟨(.bin .neq (.loc 2) (.loc 0)), none, (some ((.loc 4), false))⟩,
  ⟨(.pick (.loc 5) (.k (.bool true)) (.loc 0)), none, none⟩,
  ⟨(.mov (.loc 0)), none, none⟩,
  ⟨(.fa 3 (.var 2)), none, (some ((.loc 0), false))⟩,
  ⟨(.load false 1 (.loc 0)), none, (some ((.loc 1), false))⟩,
  ⟨(.len .slice (.loc 0)), none, (some ((.loc 2), false))⟩,
  ⟨(.fa 3 (.var 3)), none, (some ((.loc 3), false))⟩,
  ⟨(.load false 1 (.loc 0)), none, (some ((.loc 4), false))⟩,
  ⟨(.len .slice (.loc 0)), none, (some ((.loc 5), false))⟩,
  ⟨(.bin .neq (.loc 3) (.loc 0)), none, (some ((.loc 6), false))⟩,
  ⟨(.pick (.loc 7) (.k (.bool true)) (.loc 0)), (some 6), none⟩]
def c16_2 : List CO := [⟨(.mov (.k (.bool false))), (some 4), none⟩]
def c16_3 : List CO := [⟨(.fa 3 (.var 2)), none, none⟩,
  ⟨(.load false 1 (.loc 0)), none, none⟩,
  ⟨(.len .slice (.loc 0)), (some 7), none⟩,
  ⟨(.mov (.k (.int .i64 0))), (some 8), none⟩]
def c16_4 : List CO := [⟨(.bin .lss (.var 8) (.var 7)), (some 9), none⟩]
def c16_5 : List CO := [⟨(.mov (.var 8)), none, none⟩,
  ⟨(.mov (.loc 0)), (some 5), none⟩]
def c16_6 : List CO := [⟨(.fa 3 (.var 2)), none, none⟩,
  ⟨(.load false 1 (.loc 0)), none, none⟩,
  ⟨(.mov (.var 5)), none, none⟩,
  ⟨(.ia 4 (.loc 1) (.loc 0)), none, none⟩,
  ⟨(.load true 4 (.loc 0)), none, none⟩,
  ⟨(.fa 3 (.var 3)), none, none⟩,
  ⟨(.load false 1 (.loc 0)), none, none⟩,
  ⟨(.mov (.var 5)), none, none⟩,
  ⟨(.ia 4 (.loc 1) (.loc 0)), none, none⟩,
  ⟨(.load true 4 (.loc 0)), none, none⟩,
  ⟨(.call true 16 [(.loc 5), (.loc 0)]), none, none⟩,
  ⟨(.un .not (.loc 0)), (some 10), none⟩]
def c16_7 : List CO := [⟨(.mov (.k (.bool false))), (some 4), none⟩]
def c16_8 : List CO := [⟨(.bin .add (.var 8) (.k (.int .i64 1))), none, none⟩,
  ⟨(.mov (.loc 0)), (some 8), none⟩]
def c16_9 : CC := (.seq (.region [] [] c16_4) (.seq (.cond (.var 9) .skip (.exit 0)) (.seq (.block 1 (.seq (.region [] [] c16_5) (.seq (.region [] [] c16_6) (.cond (.var 10) (.seq (.region [] [] c16_7) .ret) .skip)))) (.region [] [] c16_8))))
def c16_10 : List CO := [⟨(.mov (.k (.bool true))), (some 4), none⟩]
def c16 : CFun := ⟨2, 11, (.seq (.region [] [] c16_0) (.seq (.seq (.region [] [] c16_1) (.cond (.var 6) (.seq (.region [] [] c16_2) .ret) .skip)) (.seq (.seq (.region [] [] c16_3) (.block 0 (.loop [false, false, true, true, false, false, false, true, true, false, false] [] c16_9))) (.seq (.region [] [] c16_10) .ret)))), [.var 4]⟩
theorem ok16 : CodeOk Tryd.prog T 16 c16 := ⟨⟨Tryd.f16, Hints.of [] [] [(0, [false, false, true, true, false, false, false, true, true, false, false], [])], [0, 1, 2, 3, 4, 5, 33, 36, 37, 38, 51], Tryd.func16, by kernel_rfl, by kernel_rfl⟩⟩

/-! spinney/spinneylaw10.live -/
def c17_0 : List CO := [⟨(.mov (.k (.bool false))), (some 0), none⟩]
def c17_1 : List CO := [⟨(.call true 26 [(.k (.int .i64 0))]), none, none⟩,
  ⟨(.box (.k (.agg #[(.int .i64 0), (.string ⟨#[]⟩), (.int .i64 0), (.slice none 0 0)]))), (some 1), none⟩,
  ⟨(.store 4 (.var 1) (.loc 1)), none, none⟩]
def c17_2 : List CO := [⟨(.call true 26 [(.k (.int .i64 1))]), none, none⟩,
  ⟨(.box (.k (.agg #[(.int .i64 0), (.string ⟨#[]⟩), (.int .i64 0), (.slice none 0 0)]))), (some 2), none⟩,
  ⟨(.store 4 (.var 2) (.loc 1)), none, none⟩]
def c17_3 : List CO := [⟨(.call true 27 [(.k (.string ⟨#[97]⟩))]), none, none⟩,
  ⟨(.box (.k (.agg #[(.int .i64 0), (.string ⟨#[]⟩), (.int .i64 0), (.slice none 0 0)]))), (some 3), none⟩,
  ⟨(.store 4 (.var 3) (.loc 1)), none, none⟩]
def c17_4 : List CO := [⟨(.load true 4 (.var 1)), none, none⟩,
  ⟨(.call true 27 [(.k (.string ⟨#[98]⟩))]), none, none⟩,
  ⟨(.bslice 4 [(.int .i64 0), (.string ⟨#[]⟩), (.int .i64 0), (.slice none 0 0)] 2 [(0, (.loc 1)), (1, (.loc 0))]), none, none⟩,
  ⟨(.call true 28 [(.k (.string ⟨#[102]⟩)), (.loc 0)]), none, none⟩,
  ⟨(.load true 4 (.var 3)), none, none⟩,
  ⟨(.load true 4 (.var 2)), none, none⟩,
  ⟨(.bslice 4 [(.int .i64 0), (.string ⟨#[]⟩), (.int .i64 0), (.slice none 0 0)] 2 [(0, (.loc 1)), (1, (.loc 0))]), none, none⟩,
  ⟨(.call true 28 [(.k (.string ⟨#[102]⟩)), (.loc 0)]), none, none⟩,
  ⟨(.call true 22 [(.k (.slice none 0 0)), (.loc 4), (.loc 0)]), none, none⟩,
  ⟨(.mov (.loc 0)), none, none⟩,
  ⟨(.extract (.loc 0) 0), none, none⟩,
  ⟨(.extract (.loc 1) 1), none, none⟩,
  ⟨(.extract (.loc 2) 2), none, none⟩,
  ⟨(.mov (.loc 2)), (some 4), none⟩,
  ⟨(.mov (.loc 2)), (some 5), none⟩,
  ⟨(.mov (.loc 2)), (some 6), none⟩]
def c17_5 : List CO := [⟨(.load true 4 (.var 1)), none, none⟩,
  ⟨(.load true 4 (.var 1)), none, none⟩,
  ⟨(.bslice 4 [(.int .i64 0), (.string ⟨#[]⟩), (.int .i64 0), (.slice none 0 0)] 1 [(0, (.loc 0))]), none, none⟩,
  ⟨(.call true 28 [(.k (.string ⟨#[102]⟩)), (.loc 0)]), none, none⟩,
  ⟨(.call true 22 [(.k (.slice none 0 0)), (.loc 3), (.loc 0)]), none, none⟩,
  ⟨(.mov (.loc 0)), none, none⟩,
  ⟨(.extract (.loc 0) 0), none, none⟩,
  ⟨(.extract (.loc 1) 1), none, none⟩,
  ⟨(.extract (.loc 2) 2), none, none⟩,
  ⟨(.mov (.loc 2)), (some 7), none⟩,
  ⟨(.mov (.loc 2)), (some 8), none⟩,
  ⟨(.mov (.loc 2)), (some 9), none⟩]
def c17_6 : List CO := [⟨(.load true 4 (.var 3)), none, none⟩,
  ⟨(.bslice 4 [(.int .i64 0), (.string ⟨#[]⟩), (.int .i64 0), (.slice none 0 0)] 1 [(0, (.loc 0))]), none, none⟩,
  ⟨(.call true 28 [(.k (.string ⟨#[102]⟩)), (.loc 0)]), none, none⟩,
  ⟨(.load true 4 (.var 3)), none, none⟩,
  ⟨(.bslice 4 [(.int .i64 0), (.string ⟨#[]⟩), (.int .i64 0), (.slice none 0 0)] 1 [(0, (.loc 0))]), none, none⟩,
  ⟨(.call true 28 [(.k (.string ⟨#[103]⟩)), (.loc 0)]), none, none⟩,
  ⟨(.call true 22 [(.k (.slice none 0 0)), (.loc 3), (.loc 0)]), none, none⟩,
  ⟨(.mov (.loc 0)), none, none⟩,
  ⟨(.extract (.loc 0) 0), none, none⟩,
  ⟨(.extract (.loc 1) 1), none, none⟩,
  ⟨(.extract (.loc 2) 2), none, none⟩,
  ⟨(.mov (.loc 2)), none, none⟩,
  ⟨(.mov (.loc 2)), (some 10), none⟩,
  ⟨(.mov (.loc 2)), (some 11), none⟩]
def c17_7 : List CO := [⟨(.call true 36 [(.k (.int .i64 1))]), none, none⟩,
  ⟨(.load true 4 (.var 3)), none, none⟩,
  ⟨(.call true 20 [(.k (.slice none 0 0)), (.loc 1), (.loc 0)]), none, none⟩,
  ⟨(.mov (.loc 0)), none, none⟩,
  ⟨(.extract (.loc 0) 0), none, none⟩,
  ⟨(.extract (.loc 1) 1), none, none⟩,
  ⟨(.mov (.loc 1)), (some 12), none⟩,
  ⟨(.mov (.loc 1)), (some 13), none⟩]
def c17_8 : List CO := [⟨(.mov (.var 5)), none, none⟩,
  ⟨(.mov (.loc 0)), none, none⟩,
  ⟨(.mov (.var 6)), none, (some ((.loc 0), true))⟩,
  ⟨(.bin .eql (.loc 0) (.k (.int .i64 0))), none, (some ((.loc 1), true))⟩,
  ⟨(.pick (.loc 2) (.loc 0) (.k (.bool false))), none, none⟩,
  ⟨(.mov (.loc 0)), none, none⟩,
  ⟨(.mov (.var 4)), none, (some ((.loc 0), true))⟩,
  ⟨(.load true 4 (.var 3)), none, (some ((.loc 1), true))⟩,
  ⟨(.build [(.int .i64 0), (.int .i64 0), (.string ⟨#[]⟩), (.int .i64 0), (.slice none 0 0)] [(0, 1, (.k (.int .i64 0))), (1, 4, (.loc 0))]), none, (some ((.loc 2), true))⟩,
  ⟨(.call true 27 [(.k (.string ⟨#[98]⟩))]), none, (some ((.loc 3), true))⟩,
  ⟨(.build [(.int .i64 0), (.int .i64 0), (.string ⟨#[]⟩), (.int .i64 0), (.slice none 0 0)] [(0, 1, (.k (.int .i64 1))), (1, 4, (.loc 0))]), none, (some ((.loc 4), true))⟩,
  ⟨(.bslice 5 [(.int .i64 0), (.int .i64 0), (.string ⟨#[]⟩), (.int .i64 0), (.slice none 0 0)] 2 [(0, (.loc 2)), (1, (.loc 0))]), none, (some ((.loc 5), true))⟩,
  ⟨(.call true 24 [(.loc 5), (.loc 0)]), none, (some ((.loc 6), true))⟩,
  ⟨(.pick (.loc 7) (.loc 0) (.k (.bool false))), none, none⟩,
  ⟨(.mov (.loc 0)), none, none⟩,
  ⟨(.mov (.var 8)), none, (some ((.loc 0), true))⟩,
  ⟨(.pick (.loc 1) (.loc 0) (.k (.bool false))), none, none⟩,
  ⟨(.mov (.loc 0)), none, none⟩,
  ⟨(.mov (.var 9)), none, (some ((.loc 0), true))⟩,
  ⟨(.bin .eql (.loc 0) (.k (.int .i64 0))), none, (some ((.loc 1), true))⟩,
  ⟨(.pick (.loc 2) (.loc 0) (.k (.bool false))), none, none⟩,
  ⟨(.mov (.loc 0)), none, none⟩,
  ⟨(.mov (.var 7)), none, (some ((.loc 0), true))⟩,
  ⟨(.len .slice (.loc 0)), none, (some ((.loc 1), true))⟩,
  ⟨(.bin .eql (.loc 0) (.k (.int .i64 1))), none, (some ((.loc 2), true))⟩,
  ⟨(.pick (.loc 3) (.loc 0) (.k (.bool false))), none, none⟩,
  ⟨(.mov (.loc 0)), none, none⟩,
  ⟨(.mov (.var 10)), none, (some ((.loc 0), true))⟩,
  ⟨(.un .not (.loc 0)), none, (some ((.loc 1), true))⟩,
  ⟨(.pick (.loc 2) (.loc 0) (.k (.bool false))), none, none⟩,
  ⟨(.mov (.loc 0)), none, none⟩,
  ⟨(.mov (.var 11)), none, (some ((.loc 0), true))⟩,
  ⟨(.bin .eql (.loc 0) (.k (.int .i64 0))), none, (some ((.loc 1), true))⟩,
  ⟨(.pick (.loc 2) (.loc 0) (.k (.bool false))), none, none⟩,
  ⟨(.mov (.loc 0)), none, none⟩,
  ⟨(.mov (.var 12)), none, (some ((.loc 0), true))⟩,
  ⟨(.bin .eql (.loc 0) (.k (.int .i64 (-1)))), none, (some ((.loc 1), true))⟩,
  ⟨(.pick (.loc 2) (.loc 0) (.k (.bool false))), none, none⟩,
  ⟨(.mov (.loc 0)), none, none⟩,
  ⟨(.mov (.var 13)), none, (some ((.loc 0), true))⟩,
  ⟨(.bin .eql (.loc 0) (.k (.int .i64 0))), none, (some ((.loc 1), true))⟩,
  ⟨(.pick (.loc 2) (.loc 0) (.k (.bool false))), none, none⟩,
  ⟨(.mov (.loc 0)), (some 0), none⟩]
def c17 : CFun := ⟨0, 14, (.seq (.region [] [] c17_0) (.seq (.region [] [] c17_1) (.seq (.region [] [] c17_2) (.seq (.region [] [] c17_3) (.seq (.region [] [] c17_4) (.seq (.region [] [] c17_5) (.seq (.region [] [] c17_6) (.seq (.region [] [] c17_7) (.seq (.region [] [] c17_8) .ret))))))))), [.var 0]⟩
theorem ok17 : CodeOk Tryd.prog T 17 c17 := ⟨⟨Tryd.f17, Hints.of [] [] [], [0, 1, 2, 3, 4, 5, 6, 7, 8, 9, 11, 12, 13, 14], Tryd.func17, by kernel_rfl, by kernel_rfl⟩⟩

/-! spinney/spinneylaw10.big -/
def c18_0 : List CO := [⟨(.mov (.k (.bool false))), (some 2), none⟩]
def c18_1 : List CO := [⟨(.mov (.var 0)), none, none⟩,
  ⟨(.len .slice (.loc 0)), none, none⟩,
  ⟨(.bin .gtr (.loc 0) (.k (.int .i64 100))), (some 5), none⟩]
def c18_2 : List CO := [⟨(.mov (.k (.bool true))), (some 2), none⟩]
def c18_3 : List CO := [⟨(.mov (.var 0)), (some 6), none⟩,
  ⟨(.len .slice (.var 6)), (some 7), none⟩,
  ⟨(.mov (.k (.int .i64 0))), (some 8), none⟩]
def c18_4 : List CO := [⟨(.bin .lss (.var 8) (.var 7)), (some 9), none⟩]
def c18_5 : List CO := [⟨(.ia 5 (.var 6) (.var 8)), none, none⟩,
  ⟨(.load true 5 (.loc 0)), none, none⟩,
  ⟨(.box (.k (.agg #[(.int .i64 0), (.int .i64 0), (.string ⟨#[]⟩), (.int .i64 0), (.slice none 0 0)]))), (some 3), none⟩,
  ⟨(.store 5 (.var 3) (.loc 1)), none, none⟩]
def c18_6 : List CO := [⟨(.fa 1 (.var 3)), none, none⟩,
  ⟨(.load true 4 (.loc 0)), none, none⟩,
  ⟨(.call true 11 [(.loc 0), (.k (.int .i64 300))]), none, none⟩,
  ⟨(.un .not (.loc 0)), (some 10), none⟩]
def c18_7 : List CO := [⟨(.mov (.k (.bool true))), (some 2), none⟩]
def c18_8 : List CO := [⟨(.bin .add (.var 8) (.k (.int .i64 1))), none, none⟩,
  ⟨(.mov (.loc 0)), (some 8), none⟩]
def c18_9 : CC := (.seq (.region [] [] c18_4) (.seq (.cond (.var 9) .skip (.exit 0)) (.seq (.block 1 (.seq (.region [] [] c18_5) (.seq (.region [] [] c18_6) (.cond (.var 10) (.seq (.region [] [] c18_7) .ret) .skip)))) (.region [] [] c18_8))))
def c18_10 : List CO := [⟨(.mov (.var 1)), (some 11), none⟩,
  ⟨(.len .slice (.var 11)), (some 12), none⟩,
  ⟨(.mov (.k (.int .i64 0))), (some 13), none⟩]
def c18_11 : List CO := [⟨(.bin .lss (.var 13) (.var 12)), (some 14), none⟩]
def c18_12 : List CO := [⟨(.ia 4 (.var 11) (.var 13)), none, none⟩,
  ⟨(.load true 4 (.loc 0)), none, none⟩,
  ⟨(.box (.k (.agg #[(.int .i64 0), (.string ⟨#[]⟩), (.int .i64 0), (.slice none 0 0)]))), (some 4), none⟩,
  ⟨(.store 4 (.var 4) (.loc 1)), none, none⟩]
def c18_13 : List CO := [⟨(.load true 4 (.var 4)), none, none⟩,
  ⟨(.call true 11 [(.loc 0), (.k (.int .i64 3000))]), none, none⟩,
  ⟨(.un .not (.loc 0)), (some 15), none⟩]
def c18_14 : List CO := [⟨(.mov (.k (.bool true))), (some 2), none⟩]
def c18_15 : List CO := [⟨(.bin .add (.var 13) (.k (.int .i64 1))), none, none⟩,
  ⟨(.mov (.loc 0)), (some 13), none⟩]
def c18_16 : CC := (.seq (.region [] [] c18_11) (.seq (.cond (.var 14) .skip (.exit 2)) (.seq (.block 3 (.seq (.region [] [] c18_12) (.seq (.region [] [] c18_13) (.cond (.var 15) (.seq (.region [] [] c18_14) .ret) .skip)))) (.region [] [] c18_15))))
def c18_17 : List CO := [⟨(.mov (.k (.bool false))), (some 2), none⟩]
def c18 : CFun := ⟨2, 16, (.seq (.region [] [] c18_0) (.seq (.seq (.region [] [] c18_1) (.cond (.var 5) (.seq (.region [] [] c18_2) .ret) .skip)) (.seq (.seq (.region [] [] c18_3) (.block 0 (.loop [false, true, false, false, false, false, true, true, true, false, false, false, false, false, false, false] [] c18_9))) (.seq (.seq (.region [] [] c18_10) (.block 2 (.loop [false, false, false, false, false, false, false, false, false, false, false, true, true, true, false, false] [] c18_16))) (.seq (.region [] [] c18_17) .ret))))), [.var 2]⟩
theorem ok18 : CodeOk Tryd.prog T 18 c18 := ⟨⟨Tryd.f18, Hints.of [] [] [(0, [false, true, false, false, false, false, true, true, true, false, false, false, false, false, false, false], []), (2, [false, false, false, false, false, false, false, false, false, false, false, true, true, true, false, false], [])], [0, 1, 4, 6, 8, 11, 12, 13, 14, 15, 21, 23, 24, 25, 26, 31], Tryd.func18, by kernel_rfl, by kernel_rfl⟩⟩

/-! spinney/spinneylaw10.good -/
def c19_0 : List CO := [⟨(.mov (.k (.bool false))), (some 2), none⟩]
def c19_1 : List CO := [⟨(.mov (.var 0)), (some 5), none⟩,
  ⟨(.len .slice (.var 5)), (some 6), none⟩,
  ⟨(.mov (.k (.int .i64 0))), (some 7), none⟩]
def c19_2 : List CO := [⟨(.bin .lss (.var 7) (.var 6)), (some 8), none⟩]
def c19_3 : List CO := [⟨(.ia 5 (.var 5) (.var 7)), none, none⟩,
  ⟨(.load true 5 (.loc 0)), none, none⟩,
  ⟨(.box (.k (.agg #[(.int .i64 0), (.int .i64 0), (.string ⟨#[]⟩), (.int .i64 0), (.slice none 0 0)]))), (some 3), none⟩,
  ⟨(.store 5 (.var 3) (.loc 1)), none, none⟩]
def c19_4 : List CO := [⟨(.fa 1 (.var 3)), none, none⟩,
  ⟨(.load true 4 (.loc 0)), none, none⟩,
  ⟨(.call true 12 [(.loc 0)]), none, none⟩,
  ⟨(.bin .neq (.loc 0) (.k (.int .i64 0))), (some 9), none⟩]
def c19_5 : List CO := [⟨(.mov (.k (.bool false))), (some 2), none⟩]
def c19_6 : List CO := [⟨(.bin .add (.var 7) (.k (.int .i64 1))), none, none⟩,
  ⟨(.mov (.loc 0)), (some 7), none⟩]
def c19_7 : CC := (.seq (.region [] [] c19_2) (.seq (.cond (.var 8) .skip (.exit 0)) (.seq (.block 1 (.seq (.region [] [] c19_3) (.seq (.region [] [] c19_4) (.cond (.var 9) (.seq (.region [] [] c19_5) .ret) .skip)))) (.region [] [] c19_6))))
def c19_8 : List CO := [⟨(.mov (.var 1)), (some 10), none⟩,
  ⟨(.len .slice (.var 10)), (some 11), none⟩,
  ⟨(.mov (.k (.int .i64 0))), (some 12), none⟩]
def c19_9 : List CO := [⟨(.bin .lss (.var 12) (.var 11)), (some 13), none⟩]
def c19_10 : List CO := [⟨(.ia 4 (.var 10) (.var 12)), none, none⟩,
  ⟨(.load true 4 (.loc 0)), none, none⟩,
  ⟨(.box (.k (.agg #[(.int .i64 0), (.string ⟨#[]⟩), (.int .i64 0), (.slice none 0 0)]))), (some 4), none⟩,
  ⟨(.store 4 (.var 4) (.loc 1)), none, none⟩]
def c19_11 : List CO := [⟨(.load true 4 (.var 4)), none, none⟩,
  ⟨(.call true 12 [(.loc 0)]), none, none⟩,
  ⟨(.bin .neq (.loc 0) (.k (.int .i64 0))), (some 14), none⟩]
def c19_12 : List CO := [⟨(.mov (.k (.bool false))), (some 2), none⟩]
def c19_13 : List CO := [⟨(.bin .add (.var 12) (.k (.int .i64 1))), none, none⟩,
  ⟨(.mov (.loc 0)), (some 12), none⟩]
def c19_14 : CC := (.seq (.region [] [] c19_9) (.seq (.cond (.var 13) .skip (.exit 2)) (.seq (.block 3 (.seq (.region [] [] c19_10) (.seq (.region [] [] c19_11) (.cond (.var 14) (.seq (.region [] [] c19_12) .ret) .skip)))) (.region [] [] c19_13))))
def c19_15 : List CO := [⟨(.mov (.k (.bool true))), (some 2), none⟩]
def c19 : CFun := ⟨2, 15, (.seq (.region [] [] c19_0) (.seq (.seq (.region [] [] c19_1) (.block 0 (.loop [false, true, false, false, false, true, true, true, false, false, false, false, false, false, false] [] c19_7))) (.seq (.seq (.region [] [] c19_8) (.block 2 (.loop [false, false, false, false, false, false, false, false, false, false, true, true, true, false, false] [] c19_14))) (.seq (.region [] [] c19_15) .ret)))), [.var 2]⟩
theorem ok19 : CodeOk Tryd.prog T 19 c19 := ⟨⟨Tryd.f19, Hints.of [] [] [(0, [false, true, false, false, false, true, true, true, false, false, false, false, false, false, false], []), (2, [false, false, false, false, false, false, false, false, false, false, true, true, true, false, false], [])], [0, 1, 4, 6, 8, 9, 10, 11, 12, 18, 20, 21, 22, 23, 28], Tryd.func19, by kernel_rfl, by kernel_rfl⟩⟩

/-! spinney/unify.Compare -/
def c20_0 : List CO := [⟨(.box (.var 1)), (some 3), none⟩,
  ⟨(.box (.var 2)), (some 4), none⟩,
  ⟨(.mov (.k (.int .i64 0))), (some 5), none⟩,
  ⟨(.mov (.k (.int .i64 0))), (some 6), none⟩]
def c20_1 : List CO := [⟨(.mov (.var 0)), none, none⟩,
  ⟨(.load true 4 (.var 3)), none, none⟩,
  ⟨(.load true 4 (.var 4)), none, none⟩,
  ⟨(.build [(.int .i64 0), (.string ⟨#[]⟩), (.int .i64 0), (.slice none 0 0), (.int .i64 0), (.string ⟨#[]⟩), (.int .i64 0), (.slice none 0 0)] [(0, 4, (.loc 1)), (4, 4, (.loc 0))]), none, none⟩,
  ⟨(.brow 8 [(.int .i64 0), (.string ⟨#[]⟩), (.int .i64 0), (.slice none 0 0), (.int .i64 0), (.string ⟨#[]⟩), (.int .i64 0), (.slice none 0 0)] 1 [(0, (.loc 0))]), none, none⟩,
  ⟨(.build [(.slice none 0 0), (.int .i64 0), (.slice none 0 0)] [(0, 1, (.loc 4)), (1, 1, (.k (.int .i64 2000))), (2, 1, (.loc 0))]), none, none⟩,
  ⟨(.box (.loc 0)), none, none⟩,
  ⟨(.mov (.loc 0)), (some 7), none⟩]
def c20_2 : List CO := [⟨(.mov (.var 7)), none, none⟩,
  ⟨(.nilchk (.loc 0)), none, none⟩,
  ⟨(.fa 2 (.loc 0)), none, none⟩,
  ⟨(.load false 1 (.loc 0)), none, none⟩,
  ⟨(.len .slice (.loc 0)), none, none⟩,
  ⟨(.bin .gtr (.loc 0) (.k (.int .i64 0))), (some 13), none⟩]
def c20_3 : List CO := [⟨(.mov (.var 7)), none, none⟩,
  ⟨(.call false 37 [(.loc 0)]), none, none⟩,
  ⟨(.mov (.loc 0)), none, none⟩,
  ⟨(.extract (.loc 0) 0), none, none⟩,
  ⟨(.extract (.loc 1) 1), none, none⟩,
  ⟨(.extract (.loc 2) 2), none, none⟩,
  ⟨(.box (.k (.agg #[(.int .i64 0), (.string ⟨#[]⟩), (.int .i64 0), (.slice none 0 0)]))), (some 8), none⟩,
  ⟨(.box (.k (.agg #[(.int .i64 0), (.string ⟨#[]⟩), (.int .i64 0), (.slice none 0 0)]))), (some 9), none⟩,
  ⟨(.store 4 (.var 8) (.loc 4)), none, none⟩,
  ⟨(.store 4 (.var 9) (.loc 4)), none, none⟩,
  ⟨(.mov (.loc 4)), (some 10), none⟩]
def c20_4 : List CO := [⟨(.mov (.var 10)), none, none⟩,
  ⟨(.bin .neq (.loc 0) (.k (.int .i64 0))), (some 14), none⟩]
def c20_5 : List CO := [⟨(.mov (.var 10)), none, none⟩,
  ⟨(.mov (.k (.int .i64 0))), (some 5), none⟩,
  ⟨(.mov (.loc 1)), (some 6), none⟩]
def c20_6 : List CO := [⟨(.fa 0 (.var 8)), none, none⟩,
  ⟨(.load false 1 (.loc 0)), none, none⟩,
  ⟨(.bin .eql (.loc 0) (.k (.int .i64 4))), none, none⟩,
  ⟨(.mov (.loc 0)), none, none⟩,
  ⟨(.fa 0 (.var 9)), none, (some ((.loc 0), true))⟩,
  ⟨(.load false 1 (.loc 0)), none, (some ((.loc 1), true))⟩,
  ⟨(.bin .eql (.loc 0) (.k (.int .i64 4))), none, (some ((.loc 2), true))⟩,
  ⟨(.pick (.loc 3) (.loc 0) (.k (.bool false))), none, none⟩,
  ⟨(.mov (.loc 0)), (some 11), none⟩]
def c20_7 : List CO := [⟨(.mov (.var 11)), none, none⟩,
  ⟨(.mov (.loc 0)), none, none⟩,
  ⟨(.fa 3 (.var 8)), none, (some ((.loc 0), true))⟩,
  ⟨(.load false 1 (.loc 0)), none, (some ((.loc 1), true))⟩,
  ⟨(.len .slice (.loc 0)), none, (some ((.loc 2), true))⟩,
  ⟨(.fa 3 (.var 9)), none, (some ((.loc 3), true))⟩,
  ⟨(.load false 1 (.loc 0)), none, (some ((.loc 4), true))⟩,
  ⟨(.len .slice (.loc 0)), none, (some ((.loc 5), true))⟩,
  ⟨(.call true 38 [(.loc 3), (.loc 0)]), none, (some ((.loc 6), true))⟩,
  ⟨(.bin .eql (.loc 0) (.k (.int .i64 0))), none, (some ((.loc 7), true))⟩,
  ⟨(.pick (.loc 8) (.loc 0) (.k (.bool false))), none, none⟩,
  ⟨(.mov (.loc 0)), none, none⟩,
  ⟨(.fa 1 (.var 8)), none, (some ((.loc 0), true))⟩,
  ⟨(.load false 1 (.loc 0)), none, (some ((.loc 1), true))⟩,
  ⟨(.fa 1 (.var 9)), none, (some ((.loc 2), true))⟩,
  ⟨(.load false 1 (.loc 0)), none, (some ((.loc 3), true))⟩,
  ⟨(.bin .eql (.loc 2) (.loc 0)), none, (some ((.loc 4), true))⟩,
  ⟨(.pick (.loc 5) (.loc 0) (.k (.bool false))), (some 15), none⟩]
def c20_8 : List CO := [⟨(.mov (.var 7)), none, none⟩,
  ⟨(.load true 4 (.var 8)), none, none⟩,
  ⟨(.load true 4 (.var 9)), none, none⟩,
  ⟨(.call false 39 [(.loc 2), (.loc 1), (.loc 0)]), none, none⟩]
def c20_9 : List CO := [⟨(.load true 4 (.var 8)), none, none⟩,
  ⟨(.load true 4 (.var 9)), none, none⟩,
  ⟨(.call true 40 [(.loc 1), (.loc 0)]), none, none⟩,
  ⟨(.mov (.loc 0)), (some 12), none⟩]
def c20_10 : List CO := [⟨(.mov (.var 12)), none, none⟩,
  ⟨(.bin .neq (.loc 0) (.k (.int .i64 0))), (some 16), none⟩]
def c20_11 : List CO := [⟨(.mov (.var 12)), none, none⟩,
  ⟨(.mov (.loc 0)), (some 5), none⟩,
  ⟨(.mov (.k (.int .i64 0))), (some 6), none⟩]
def c20_12 : CC := (.seq (.seq (.region [] [] c20_2) (.cond (.var 13) .skip (.exit 0))) (.block 1 (.seq (.region [] [] c20_3) (.seq (.seq (.region [] [] c20_4) (.cond (.var 14) (.seq (.region [] [] c20_5) .ret) .skip)) (.seq (.region [] [] c20_6) (.seq (.region [] [] c20_7) (.cond (.var 15) (.region [] [] c20_8) (.seq (.region [] [] c20_9) (.seq (.region [] [] c20_10) (.cond (.var 16) (.seq (.region [] [] c20_11) .ret) .skip))))))))))
def c20_13 : List CO := [⟨(.mov (.k (.int .i64 0))), (some 5), none⟩,
  ⟨(.mov (.k (.int .i64 0))), (some 6), none⟩]
def c20 : CFun := ⟨3, 17, (.seq (.region [] [] c20_0) (.seq (.region [] [] c20_1) (.seq (.block 0 (.loop [false, false, false, false, false, false, false, true, false, false, false, false, false, false, false, false, false] [] c20_12)) (.seq (.region [] [] c20_13) .ret)))), [.var 5, .var 6]⟩
theorem ok20 : CodeOk Tryd.prog T 20 c20 := ⟨⟨Tryd.f20, Hints.of [] [] [(0, [false, false, false, false, false, false, false, true, false, false, false, false, false, false, false, false, false], [])], [0, 1, 2, 4, 5, 6, 7, 8, 9, 10, 11, 12, 13, 26, 34, 61, 70], Tryd.func20, by kernel_rfl, by kernel_rfl⟩⟩

/-! spinney/spinneyref10.Compare -/
def c21_0 : List CO := [⟨(.box (.var 1)), (some 3), none⟩,
  ⟨(.box (.var 2)), (some 4), none⟩,
  ⟨(.mov (.k (.int .i64 0))), (some 5), none⟩,
  ⟨(.mov (.k (.int .i64 0))), (some 6), none⟩]
def c21_1 : List CO := [⟨(.build [(.int .i64 0)] []), none, none⟩,
  ⟨(.box (.loc 0)), none, none⟩,
  ⟨(.mov (.var 0)), none, none⟩,
  ⟨(.load true 4 (.var 3)), none, none⟩,
  ⟨(.load true 4 (.var 4)), none, none⟩,
  ⟨(.call false 41 [(.loc 3), (.loc 2), (.loc 1), (.loc 0)]), none, none⟩,
  ⟨(.extract (.loc 0) 0), none, none⟩,
  ⟨(.extract (.loc 1) 1), none, none⟩,
  ⟨(.mov (.loc 1)), (some 5), none⟩,
  ⟨(.mov (.loc 1)), (some 6), none⟩]
def c21 : CFun := ⟨3, 7, (.seq (.region [] [] c21_0) (.seq (.region [] [] c21_1) .ret)), [.var 5, .var 6]⟩
theorem ok21 : CodeOk Tryd.prog T 21 c21 := ⟨⟨Tryd.f21, Hints.of [] [] [], [0, 1, 2, 4, 5, 6, 7], Tryd.func21, by kernel_rfl, by kernel_rfl⟩⟩

/-! spinney/unify.Unify -/
def c22_0 : List CO := [⟨(.box (.var 1)), (some 3), none⟩,
  ⟨(.box (.var 2)), (some 4), none⟩,
  ⟨(.mov (.k (.slice none 0 0))), (some 5), none⟩,
  ⟨(.mov (.k (.bool false))), (some 6), none⟩,
  ⟨(.mov (.k (.int .i64 0))), (some 7), none⟩]
def c22_1 : List CO := [⟨(.mov (.var 0)), none, none⟩,
  ⟨(.mov (.var 0)), none, none⟩,
  ⟨(.len .slice (.loc 0)), none, none⟩,
  ⟨(.mov (.var 0)), none, none⟩,
  ⟨(.len .slice (.loc 0)), none, none⟩,
  ⟨(.slice 5 (.loc 4) none (some (.loc 2)) (some (.loc 0))), none, none⟩,
  ⟨(.load true 4 (.var 3)), none, none⟩,
  ⟨(.load true 4 (.var 4)), none, none⟩,
  ⟨(.build [(.int .i64 0), (.string ⟨#[]⟩), (.int .i64 0), (.slice none 0 0), (.int .i64 0), (.string ⟨#[]⟩), (.int .i64 0), (.slice none 0 0)] [(0, 4, (.loc 1)), (4, 4, (.loc 0))]), none, none⟩,
  ⟨(.brow 8 [(.int .i64 0), (.string ⟨#[]⟩), (.int .i64 0), (.slice none 0 0), (.int .i64 0), (.string ⟨#[]⟩), (.int .i64 0), (.slice none 0 0)] 1 [(0, (.loc 0))]), none, none⟩,
  ⟨(.build [(.slice none 0 0), (.int .i64 0), (.slice none 0 0)] [(0, 1, (.loc 4)), (1, 1, (.k (.int .i64 2000))), (2, 1, (.loc 0))]), none, none⟩,
  ⟨(.box (.loc 0)), none, none⟩,
  ⟨(.mov (.loc 0)), (some 8), none⟩]
def c22_2 : List CO := [⟨(.mov (.var 8)), none, none⟩,
  ⟨(.nilchk (.loc 0)), none, none⟩,
  ⟨(.fa 2 (.loc 0)), none, none⟩,
  ⟨(.load false 1 (.loc 0)), none, none⟩,
  ⟨(.len .slice (.loc 0)), none, none⟩,
  ⟨(.bin .gtr (.loc 0) (.k (.int .i64 0))), (some 14), none⟩]
def c22_3 : List CO := [⟨(.mov (.var 8)), none, none⟩,
  ⟨(.call false 37 [(.loc 0)]), none, none⟩,
  ⟨(.mov (.loc 0)), none, none⟩,
  ⟨(.extract (.loc 0) 0), none, none⟩,
  ⟨(.extract (.loc 1) 1), none, none⟩,
  ⟨(.extract (.loc 2) 2), none, none⟩,
  ⟨(.box (.k (.agg #[(.int .i64 0), (.string ⟨#[]⟩), (.int .i64 0), (.slice none 0 0)]))), (some 9), none⟩,
  ⟨(.box (.k (.agg #[(.int .i64 0), (.string ⟨#[]⟩), (.int .i64 0), (.slice none 0 0)]))), (some 10), none⟩,
  ⟨(.store 4 (.var 9) (.loc 4)), none, none⟩,
  ⟨(.store 4 (.var 10) (.loc 4)), none, none⟩,
  ⟨(.mov (.loc 4)), (some 11), none⟩]
def c22_4 : List CO := [⟨(.mov (.var 11)), none, none⟩,
  ⟨(.bin .neq (.loc 0) (.k (.int .i64 0))), (some 15), none⟩]
def c22_5 : List CO := [⟨(.mov (.var 11)), none, none⟩,
  ⟨(.mov (.k (.slice none 0 0))), (some 5), none⟩,
  ⟨(.mov (.k (.bool false))), (some 6), none⟩,
  ⟨(.mov (.loc 2)), (some 7), none⟩]
def c22_6 : List CO := [⟨(.fa 0 (.var 9)), none, none⟩,
  ⟨(.load false 1 (.loc 0)), none, none⟩,
  ⟨(.bin .eql (.loc 0) (.k (.int .i64 1))), none, none⟩,
  ⟨(.fa 0 (.var 10)), none, none⟩,
  ⟨(.load false 1 (.loc 0)), none, none⟩,
  ⟨(.bin .eql (.loc 0) (.k (.int .i64 1))), none, none⟩,
  ⟨(.mov (.loc 3)), (some 12), none⟩,
  ⟨(.mov (.loc 1)), (some 13), none⟩]
def c22_7 : List CO := [⟨(.mov (.var 12)), none, none⟩,
  ⟨(.mov (.loc 0)), none, none⟩,
  ⟨(.mov (.var 13)), none, (some ((.loc 0), true))⟩,
  ⟨(.pick (.loc 1) (.loc 0) (.k (.bool false))), none, none⟩,
  ⟨(.mov (.loc 0)), none, none⟩,
  ⟨(.fa 2 (.var 9)), none, (some ((.loc 0), true))⟩,
  ⟨(.load false 1 (.loc 0)), none, (some ((.loc 1), true))⟩,
  ⟨(.fa 2 (.var 10)), none, (some ((.loc 2), true))⟩,
  ⟨(.load false 1 (.loc 0)), none, (some ((.loc 3), true))⟩,
  ⟨(.bin .eql (.loc 2) (.loc 0)), none, (some ((.loc 4), true))⟩,
  ⟨(.pick (.loc 5) (.loc 0) (.k (.bool false))), none, none⟩,
  ⟨(.mov (.loc 0)), (some 16), none⟩]
def c22_8 : List CO := [⟨(.mov (.var 12)), none, none⟩,
  ⟨(.mov (.loc 0)), none, none⟩,
  ⟨(.mov (.var 13)), none, (some ((.loc 0), true))⟩,
  ⟨(.un .not (.loc 0)), none, (some ((.loc 1), true))⟩,
  ⟨(.mov (.loc 0)), none, (some ((.loc 2), true))⟩,
  ⟨(.fa 2 (.var 9)), none, (some ((.loc 0), false))⟩,
  ⟨(.load false 1 (.loc 0)), none, (some ((.loc 1), false))⟩,
  ⟨(.fa 2 (.var 10)), none, (some ((.loc 2), false))⟩,
  ⟨(.load false 1 (.loc 0)), none, (some ((.loc 3), false))⟩,
  ⟨(.bin .gtr (.loc 2) (.loc 0)), none, (some ((.loc 4), false))⟩,
  ⟨(.pick (.loc 5) (.k (.bool true)) (.loc 0)), none, (some ((.loc 8), true))⟩,
  ⟨(.pick (.loc 9) (.loc 0) (.k (.bool false))), none, none⟩,
  ⟨(.mov (.loc 0)), (some 17), none⟩]
def c22_9 : List CO := [⟨(.mov (.var 8)), none, none⟩,
  ⟨(.mov (.var 8)), none, none⟩,
  ⟨(.nilchk (.loc 0)), none, none⟩,
  ⟨(.fa 0 (.loc 0)), none, none⟩,
  ⟨(.load false 1 (.loc 0)), none, none⟩,
  ⟨(.fa 2 (.var 9)), none, none⟩,
  ⟨(.load false 1 (.loc 0)), none, none⟩,
  ⟨(.load true 4 (.var 10)), none, none⟩,
  ⟨(.call true 42 [(.loc 0)]), none, none⟩,
  ⟨(.build [(.int .i64 0), (.int .i64 0), (.string ⟨#[]⟩), (.int .i64 0), (.slice none 0 0)] [(0, 1, (.loc 2)), (1, 4, (.loc 0))]), none, none⟩,
  ⟨(.bslice 5 [(.int .i64 0), (.int .i64 0), (.string ⟨#[]⟩), (.int .i64 0), (.slice none 0 0)] 1 [(0, (.loc 0))]), none, none⟩,
  ⟨(.append 5 64 (.loc 6) (.loc 0)), none, none⟩,
  ⟨(.nilchk (.loc 11)), none, none⟩,
  ⟨(.fa 0 (.loc 0)), none, none⟩,
  ⟨(.store 1 (.loc 0) (.loc 2)), none, none⟩]
def c22_10 : List CO := [⟨(.mov (.var 13)), none, none⟩,
  ⟨(.mov (.loc 0)), (some 18), none⟩]
def c22_11 : List CO := [⟨(.mov (.var 8)), none, none⟩,
  ⟨(.mov (.var 8)), none, none⟩,
  ⟨(.nilchk (.loc 0)), none, none⟩,
  ⟨(.fa 0 (.loc 0)), none, none⟩,
  ⟨(.load false 1 (.loc 0)), none, none⟩,
  ⟨(.fa 2 (.var 10)), none, none⟩,
  ⟨(.load false 1 (.loc 0)), none, none⟩,
  ⟨(.load true 4 (.var 9)), none, none⟩,
  ⟨(.call true 42 [(.loc 0)]), none, none⟩,
  ⟨(.build [(.int .i64 0), (.int .i64 0), (.string ⟨#[]⟩), (.int .i64 0), (.slice none 0 0)] [(0, 1, (.loc 2)), (1, 4, (.loc 0))]), none, none⟩,
  ⟨(.bslice 5 [(.int .i64 0), (.int .i64 0), (.string ⟨#[]⟩), (.int .i64 0), (.slice none 0 0)] 1 [(0, (.loc 0))]), none, none⟩,
  ⟨(.append 5 64 (.loc 6) (.loc 0)), none, none⟩,
  ⟨(.nilchk (.loc 11)), none, none⟩,
  ⟨(.fa 0 (.loc 0)), none, none⟩,
  ⟨(.store 1 (.loc 0) (.loc 2)), none, none⟩]
def c22_12 : List CO := [⟨(.fa 0 (.var 9)), none, none⟩,
  ⟨(.load false 1 (.loc 0)), none, none⟩,
  ⟨(.fa 0 (.var 10)), none, none⟩,
  ⟨(.load false 1 (.loc 0)), none, none⟩,
  ⟨(.bin .neq (.loc 2) (.loc 0)), none, none⟩,
  ⟨(.mov (.loc 0)), none, none⟩,
  ⟨(.fa 1 (.var 9)), none, (some ((.loc 0), false))⟩,
  ⟨(.load false 1 (.loc 0)), none, (some ((.loc 1), false))⟩,
  ⟨(.fa 1 (.var 10)), none, (some ((.loc 2), false))⟩,
  ⟨(.load false 1 (.loc 0)), none, (some ((.loc 3), false))⟩,
  ⟨(.bin .neq (.loc 2) (.loc 0)), none, (some ((.loc 4), false))⟩,
  ⟨(.pick (.loc 5) (.k (.bool true)) (.loc 0)), none, none⟩,
  ⟨(.mov (.loc 0)), none, none⟩,
  ⟨(.fa 2 (.var 9)), none, (some ((.loc 0), false))⟩,
  ⟨(.load false 1 (.loc 0)), none, (some ((.loc 1), false))⟩,
  ⟨(.fa 2 (.var 10)), none, (some ((.loc 2), false))⟩,
  ⟨(.load false 1 (.loc 0)), none, (some ((.loc 3), false))⟩,
  ⟨(.bin .neq (.loc 2) (.loc 0)), none, (some ((.loc 4), false))⟩,
  ⟨(.pick (.loc 5) (.k (.bool true)) (.loc 0)), none, none⟩,
  ⟨(.mov (.loc 0)), none, none⟩,
  ⟨(.fa 3 (.var 9)), none, (some ((.loc 0), false))⟩,
  ⟨(.load false 1 (.loc 0)), none, (some ((.loc 1), false))⟩,
  ⟨(.len .slice (.loc 0)), none, (some ((.loc 2), false))⟩,
  ⟨(.fa 3 (.var 10)), none, (some ((.loc 3), false))⟩,
  ⟨(.load false 1 (.loc 0)), none, (some ((.loc 4), false))⟩,
  ⟨(.len .slice (.loc 0)), none, (some ((.loc 5), false))⟩,
  ⟨(.bin .neq (.loc 3) (.loc 0)), none, (some ((.loc 6), false))⟩,
  ⟨(.pick (.loc 7) (.k (.bool true)) (.loc 0)), none, none⟩,
  ⟨(.mov (.loc 0)), (some 19), none⟩]
def c22_13 : List CO := [⟨(.mov (.k (.slice none 0 0))), (some 5), none⟩,
  ⟨(.mov (.k (.bool false))), (some 6), none⟩,
  ⟨(.mov (.k (.int .i64 0))), (some 7), none⟩]
def c22_14 : List CO := [⟨(.mov (.var 8)), none, none⟩,
  ⟨(.load true 4 (.var 9)), none, none⟩,
  ⟨(.load true 4 (.var 10)), none, none⟩,
  ⟨(.call false 39 [(.loc 2), (.loc 1), (.loc 0)]), none, none⟩]
def c22_15 : CC := (.seq (.seq (.region [] [] c22_2) (.cond (.var 14) .skip (.exit 0))) (.block 1 (.seq (.region [.p 8 0 1] [] c22_3) (.seq (.seq (.region [] [] c22_4) (.cond (.var 15) (.seq (.region [] [] c22_5) .ret) .skip)) (.seq (.region [] [] c22_6) (.block 2 (.seq (.region [] [] c22_7) (.cond (.var 16) .skip (.seq (.region [] [] c22_8) (.cond (.var 17) (.region [] [] c22_9) (.seq (.region [] [] c22_10) (.cond (.var 18) (.region [] [] c22_11) (.seq (.region [] [] c22_12) (.cond (.var 19) (.seq (.region [] [] c22_13) .ret) (.region [] [] c22_14)))))))))))))))
def c22_16 : List CO := [⟨(.mov (.var 8)), none, none⟩,
  ⟨(.nilchk (.loc 0)), none, none⟩,
  ⟨(.fa 0 (.loc 0)), none, none⟩,
  ⟨(.load false 1 (.loc 0)), none, none⟩,
  ⟨(.call true 43 [(.loc 0)]), none, none⟩,
  ⟨(.mov (.loc 0)), (some 5), none⟩,
  ⟨(.mov (.k (.bool true))), (some 6), none⟩,
  ⟨(.mov (.k (.int .i64 0))), (some 7), none⟩]
def c22 : CFun := ⟨3, 20, (.seq (.region [] [] c22_0) (.seq (.region [] [] c22_1) (.seq (.block 0 (.loop [false, false, false, false, false, false, false, false, true, false, false, false, false, false, false, false, false, false, false, false] [] c22_15)) (.seq (.region [.p 8 0 1] [] c22_16) .ret)))), [.var 5, .var 6, .var 7]⟩
theorem ok22 : CodeOk Tryd.prog T 22 c22 := ⟨⟨Tryd.f22, Hints.of [(3, [.p 8 0 1]), (15, [.p 8 0 1])] [] [(0, [false, false, false, false, false, false, false, false, true, false, false, false, false, false, false, false, false, false, false, false], [])], [0, 1, 2, 4, 5, 6, 7, 8, 9, 10, 11, 12, 13, 14, 32, 40, 52, 64, 91, 107], Tryd.func22, by kernel_rfl, by kernel_rfl⟩⟩

/-! spinney/spinneyref09.Resolve -/
def c23_0 : List CO := [⟨(.box (.var 1)), (some 2), none⟩,
  ⟨(.box (.k (.agg #[(.int .i64 0), (.string ⟨#[]⟩), (.int .i64 0), (.slice none 0 0)]))), (some 3), none⟩,
  ⟨(.mov (.k (.int .i64 0))), (some 4), none⟩]
def c23_1 : List CO := [⟨(.build [(.int .i64 0)] []), none, none⟩,
  ⟨(.box (.loc 0)), none, none⟩,
  ⟨(.mov (.loc 0)), (some 5), none⟩]
def c23_2 : List CO := [⟨(.mov (.var 5)), none, none⟩,
  ⟨(.mov (.var 0)), none, none⟩,
  ⟨(.load true 4 (.var 2)), none, none⟩,
  ⟨(.call false 44 [(.loc 2), (.loc 1), (.loc 0), (.k (.int .i64 0))]), none, none⟩,
  ⟨(.extract (.loc 0) 0), none, none⟩,
  ⟨(.extract (.loc 1) 1), none, none⟩,
  ⟨(.store 4 (.var 3) (.loc 1)), none, none⟩,
  ⟨(.mov (.loc 1)), (some 4), none⟩]
def c23 : CFun := ⟨2, 6, (.seq (.region [] [] c23_0) (.seq (.region [] [] c23_1) (.seq (.region [] [] c23_2) .ret))), [.cell 3 true 4, .var 4]⟩
theorem ok23 : CodeOk Tryd.prog T 23 c23 := ⟨⟨Tryd.f23, Hints.of [] [] [], [0, 1, 3, 4, 5, 6], Tryd.func23, by kernel_rfl, by kernel_rfl⟩⟩

/-! spinney/spinneyref10.SameBinds -/
def c24_0 : List CO := [⟨(.mov (.k (.bool false))), (some 2), none⟩]
def c24_1 : List CO := [⟨(.mov (.var 0)), none, none⟩,
  ⟨(.len .slice (.loc 0)), none, none⟩,
  ⟨(.mov (.var 1)), none, none⟩,
  ⟨(.len .slice (.loc 0)), none, none⟩,
  ⟨(.bin .neq (.loc 2) (.loc 0)), (some 4), none⟩]
def c24_2 : List CO := [⟨(.mov (.k (.bool false))), (some 2), none⟩]
def c24_3 : List CO := [⟨(.mov (.var 0)), none, none⟩,
  ⟨(.len .slice (.loc 0)), (some 5), none⟩,
  ⟨(.mov (.k (.int .i64 0))), (some 6), none⟩]
def c24_4 : List CO := [⟨(.bin .lss (.var 6) (.var 5)), (some 7), none⟩]
def c24_5 : List CO := [⟨(.mov (.var 6)), none, none⟩,
  ⟨(.mov (.loc 0)), (some 3), none⟩]
def c24_6 : List CO := [⟨(.mov (.var 0)), none, none⟩,
  ⟨(.mov (.var 3)), none, none⟩,
  ⟨(.ia 5 (.loc 1) (.loc 0)), none, none⟩,
  ⟨(.fa 0 (.loc 0)), none, none⟩,
  ⟨(.load false 1 (.loc 0)), none, none⟩,
  ⟨(.mov (.var 1)), none, none⟩,
  ⟨(.mov (.var 3)), none, none⟩,
  ⟨(.ia 5 (.loc 1) (.loc 0)), none, none⟩,
  ⟨(.fa 0 (.loc 0)), none, none⟩,
  ⟨(.load false 1 (.loc 0)), none, none⟩,
  ⟨(.bin .neq (.loc 5) (.loc 0)), none, none⟩,
  ⟨(.mov (.loc 0)), none, none⟩,
  ⟨(.mov (.var 0)), none, (some ((.loc 0), false))⟩,
  ⟨(.mov (.var 3)), none, (some ((.loc 1), false))⟩,
  ⟨(.ia 5 (.loc 1) (.loc 0)), none, (some ((.loc 2), false))⟩,
  ⟨(.fa 1 (.loc 0)), none, (some ((.loc 3), false))⟩,
  ⟨(.load true 4 (.loc 0)), none, (some ((.loc 4), false))⟩,
  ⟨(.mov (.var 1)), none, (some ((.loc 5), false))⟩,
  ⟨(.mov (.var 3)), none, (some ((.loc 6), false))⟩,
  ⟨(.ia 5 (.loc 1) (.loc 0)), none, (some ((.loc 7), false))⟩,
  ⟨(.fa 1 (.loc 0)), none, (some ((.loc 8), false))⟩,
  ⟨(.load true 4 (.loc 0)), none, (some ((.loc 9), false))⟩,
  ⟨(.call true 16 [(.loc 5), (.loc 0)]), none, (some ((.loc 10), false))⟩,
  ⟨(.un .not (.loc 0)), none, (some ((.loc 11), false))⟩,
  ⟨(.pick (.loc 12) (.k (.bool true)) (.loc 0)), (some 8), none⟩]
def c24_7 : List CO := [⟨(.mov (.k (.bool false))), (some 2), none⟩]
def c24_8 : List CO := [⟨(.bin .add (.var 6) (.k (.int .i64 1))), none, none⟩,
  ⟨(.mov (.loc 0)), (some 6), none⟩]
def c24_9 : CC := (.seq (.region [] [] c24_4) (.seq (.cond (.var 7) .skip (.exit 0)) (.seq (.block 1 (.seq (.region [] [] c24_5) (.seq (.region [] [] c24_6) (.cond (.var 8) (.seq (.region [] [] c24_7) .ret) .skip)))) (.region [] [] c24_8))))
def c24_10 : List CO := [⟨(.mov (.k (.bool true))), (some 2), none⟩]
def c24 : CFun := ⟨2, 9, (.seq (.region [] [] c24_0) (.seq (.seq (.region [] [] c24_1) (.cond (.var 4) (.seq (.region [] [] c24_2) .ret) .skip)) (.seq (.seq (.region [] [] c24_3) (.block 0 (.loop [true, true, false, false, false, true, true, false, false] [] c24_9))) (.seq (.region [] [] c24_10) .ret)))), [.var 2]⟩
theorem ok24 : CodeOk Tryd.prog T 24 c24 := ⟨⟨Tryd.f24, Hints.of [] [] [(0, [true, true, false, false, false, true, true, false, false], [])], [0, 1, 4, 5, 10, 12, 13, 14, 40], Tryd.func24, by kernel_rfl, by kernel_rfl⟩⟩

/-! spinney/spinneyref03.Shift -/
def c25_0 : List CO := [⟨(.box (.var 0)), (some 2), none⟩,
  ⟨(.box (.k (.agg #[(.int .i64 0), (.string ⟨#[]⟩), (.int .i64 0), (.slice none 0 0)]))), (some 3), none⟩]
def c25_1 : List CO := [⟨(.fa 0 (.var 2)), none, none⟩,
  ⟨(.load false 1 (.loc 0)), none, none⟩,
  ⟨(.bin .eql (.loc 0) (.k (.int .i64 1))), (some 6), none⟩]
def c25_2 : List CO := [⟨(.fa 2 (.var 2)), none, none⟩,
  ⟨(.load false 1 (.loc 0)), none, none⟩,
  ⟨(.mov (.var 1)), none, none⟩,
  ⟨(.bin .add (.loc 1) (.loc 0)), none, none⟩,
  ⟨(.fa 2 (.var 2)), none, none⟩,
  ⟨(.store 1 (.loc 0) (.loc 1)), none, none⟩]
def c25_3 : List CO := [⟨(.mov (.k (.slice none 0 0))), (some 4), none⟩]
def c25_4 : List CO := [⟨(.fa 3 (.var 2)), none, none⟩,
  ⟨(.load false 1 (.loc 0)), (some 7), none⟩,
  ⟨(.len .slice (.var 7)), (some 8), none⟩,
  ⟨(.mov (.k (.int .i64 0))), (some 9), none⟩]
def c25_5 : List CO := [⟨(.bin .lss (.var 9) (.var 8)), (some 10), none⟩]
def c25_6 : List CO := [⟨(.ia 4 (.var 7) (.var 9)), none, none⟩,
  ⟨(.load true 4 (.loc 0)), none, none⟩,
  ⟨(.box (.k (.agg #[(.int .i64 0), (.string ⟨#[]⟩), (.int .i64 0), (.slice none 0 0)]))), (some 5), none⟩,
  ⟨(.store 4 (.var 5) (.loc 1)), none, none⟩]
def c25_7 : List CO := [⟨(.mov (.var 4)), none, none⟩,
  ⟨(.load true 4 (.var 5)), none, none⟩,
  ⟨(.mov (.var 1)), none, none⟩,
  ⟨(.call true 25 [(.loc 1), (.loc 0)]), none, none⟩,
  ⟨(.bslice 4 [(.int .i64 0), (.string ⟨#[]⟩), (.int .i64 0), (.slice none 0 0)] 1 [(0, (.loc 0))]), none, none⟩,
  ⟨(.append 4 56 (.loc 4) (.loc 0)), none, none⟩,
  ⟨(.mov (.loc 0)), (some 4), none⟩]
def c25_8 : List CO := [⟨(.bin .add (.var 9) (.k (.int .i64 1))), none, none⟩,
  ⟨(.mov (.loc 0)), (some 9), none⟩]
def c25_9 : CC := (.seq (.region [] [] c25_5) (.seq (.cond (.var 10) .skip (.exit 0)) (.seq (.block 1 (.seq (.region [] [] c25_6) (.region [] [] c25_7))) (.region [] [] c25_8))))
def c25_10 : List CO := [⟨(.mov (.var 4)), none, none⟩,
  ⟨(.fa 3 (.var 2)), none, none⟩,
  ⟨(.store 1 (.loc 0) (.loc 1)), none, none⟩]
def c25_11 : List CO := [⟨(.load true 4 (.var 2)), none, none⟩,
  ⟨(.store 4 (.var 3) (.loc 0)), none, none⟩]
def c25 : CFun := ⟨2, 11, (.seq (.region [] [] c25_0) (.seq (.seq (.region [] [] c25_1) (.cond (.var 6) (.region [] [] c25_2) .skip)) (.seq (.region [] [] c25_3) (.seq (.seq (.region [] [] c25_4) (.block 0 (.loop [false, true, true, true, true, false, false, true, true, true, false] [] c25_9))) (.seq (.region [] [] c25_10) (.seq (.region [] [] c25_11) .ret)))))), [.cell 3 true 4]⟩
theorem ok25 : CodeOk Tryd.prog T 25 c25 := ⟨⟨Tryd.f25, Hints.of [] [] [(0, [false, true, true, true, true, false, false, true, true, true, false], [])], [0, 1, 2, 4, 5, 7, 10, 17, 18, 19, 20], Tryd.func25, by kernel_rfl, by kernel_rfl⟩⟩

/-! spinney/spinneyref03.Var1 -/
def c26_0 : List CO := [⟨(.box (.k (.agg #[(.int .i64 0), (.string ⟨#[]⟩), (.int .i64 0), (.slice none 0 0)]))), (some 1), none⟩]
def c26_1 : List CO := [⟨(.mov (.var 0)), none, none⟩,
  ⟨(.build [(.int .i64 0), (.string ⟨#[]⟩), (.int .i64 0), (.slice none 0 0)] [(0, 1, (.k (.int .i64 1))), (2, 1, (.loc 0))]), none, none⟩,
  ⟨(.store 4 (.var 1) (.loc 0)), none, none⟩]
def c26 : CFun := ⟨1, 2, (.seq (.region [] [] c26_0) (.seq (.region [] [] c26_1) .ret)), [.cell 1 true 4]⟩
theorem ok26 : CodeOk Tryd.prog T 26 c26 := ⟨⟨Tryd.f26, Hints.of [] [] [], [0, 2], Tryd.func26, by kernel_rfl, by kernel_rfl⟩⟩

/-! spinney/spinneyref03.Atom1 -/
def c27_0 : List CO := [⟨(.box (.k (.agg #[(.int .i64 0), (.string ⟨#[]⟩), (.int .i64 0), (.slice none 0 0)]))), (some 1), none⟩]
def c27_1 : List CO := [⟨(.mov (.var 0)), none, none⟩,
  ⟨(.build [(.int .i64 0), (.string ⟨#[]⟩), (.int .i64 0), (.slice none 0 0)] [(0, 1, (.k (.int .i64 2))), (1, 1, (.loc 0))]), none, none⟩,
  ⟨(.store 4 (.var 1) (.loc 0)), none, none⟩]
def c27 : CFun := ⟨1, 2, (.seq (.region [] [] c27_0) (.seq (.region [] [] c27_1) .ret)), [.cell 1 true 4]⟩
theorem ok27 : CodeOk Tryd.prog T 27 c27 := ⟨⟨Tryd.f27, Hints.of [] [] [], [0, 2], Tryd.func27, by kernel_rfl, by kernel_rfl⟩⟩

/-! spinney/spinneyref03.Comp1 -/
def c28_0 : List CO := [⟨(.box (.k (.agg #[(.int .i64 0), (.string ⟨#[]⟩), (.int .i64 0), (.slice none 0 0)]))), (some 2), none⟩]
def c28_1 : List CO := [⟨(.mov (.var 0)), none, none⟩,
  ⟨(.mov (.var 1)), none, none⟩,
  ⟨(.build [(.int .i64 0), (.string ⟨#[]⟩), (.int .i64 0), (.slice none 0 0)] [(0, 1, (.k (.int .i64 4))), (1, 1, (.loc 1)), (3, 1, (.loc 0))]), none, none⟩,
  ⟨(.store 4 (.var 2) (.loc 0)), none, none⟩]
def c28 : CFun := ⟨2, 3, (.seq (.region [] [] c28_0) (.seq (.region [] [] c28_1) .ret)), [.cell 2 true 4]⟩
theorem ok28 : CodeOk Tryd.prog T 28 c28 := ⟨⟨Tryd.f28, Hints.of [] [] [], [0, 1, 4], Tryd.func28, by kernel_rfl, by kernel_rfl⟩⟩

/-! spinney/subst.Walk -/
def c29_0 : List CO := [⟨(.box (.var 1)), (some 2), none⟩,
  ⟨(.box (.k (.agg #[(.int .i64 0), (.string ⟨#[]⟩), (.int .i64 0), (.slice none 0 0)]))), (some 3), none⟩,
  ⟨(.mov (.k (.int .i64 0))), (some 4), none⟩]
def c29_1 : List CO := [⟨(.box (.k (.int .i64 0))), (some 5), none⟩,
  ⟨(.store 1 (.var 5) (.k (.int .i64 2000))), none, none⟩]
def c29_2 : List CO := [⟨(.mov (.var 0)), none, none⟩,
  ⟨(.load true 4 (.var 2)), none, none⟩,
  ⟨(.call false 45 [(.loc 1), (.loc 0), (.var 5)]), none, none⟩,
  ⟨(.extract (.loc 0) 0), none, none⟩,
  ⟨(.extract (.loc 1) 1), none, none⟩,
  ⟨(.store 4 (.var 3) (.loc 1)), none, none⟩,
  ⟨(.mov (.loc 1)), (some 4), none⟩]
def c29 : CFun := ⟨2, 6, (.seq (.region [] [] c29_0) (.seq (.region [] [] c29_1) (.seq (.region [] [] c29_2) .ret))), [.cell 3 true 4, .var 4]⟩
theorem ok29 : CodeOk Tryd.prog T 29 c29 := ⟨⟨Tryd.f29, Hints.of [] [] [], [0, 1, 3, 4, 5, 6], Tryd.func29, by kernel_rfl, by kernel_rfl⟩⟩

/-! spinney/subst.Fresh -/
def c30_0 : List CO := [⟨(.box (.var 0)), (some 2), none⟩,
  ⟨(.box (.k (.agg #[(.int .i64 0), (.string ⟨#[]⟩), (.int .i64 0), (.slice none 0 0)]))), (some 3), none⟩]
def c30_1 : List CO := [⟨(.load true 4 (.var 2)), none, none⟩,
  ⟨(.mov (.var 1)), none, none⟩,
  ⟨(.call true 46 [(.loc 1), (.loc 0)]), none, none⟩,
  ⟨(.store 4 (.var 3) (.loc 0)), none, none⟩]
def c30 : CFun := ⟨2, 4, (.seq (.region [] [] c30_0) (.seq (.region [] [] c30_1) .ret)), [.cell 3 true 4]⟩
theorem ok30 : CodeOk Tryd.prog T 30 c30 := ⟨⟨Tryd.f30, Hints.of [] [] [], [0, 1, 2, 4], Tryd.func30, by kernel_rfl, by kernel_rfl⟩⟩

/-! spinney/spinneyref03.left -/
def c31_0 : List CO := [⟨(.box (.var 0)), (some 2), none⟩,
  ⟨(.mov (.k (.int .i64 0))), (some 3), none⟩]
def c31_1 : List CO := [⟨(.mov (.var 1)), none, none⟩,
  ⟨(.bin .sub (.loc 0) (.k (.int .i64 1))), none, none⟩,
  ⟨(.mov (.loc 0)), (some 1), none⟩]
def c31_2 : List CO := [⟨(.fa 3 (.var 2)), none, none⟩,
  ⟨(.load false 1 (.loc 0)), (some 5), none⟩,
  ⟨(.len .slice (.var 5)), (some 6), none⟩,
  ⟨(.mov (.k (.int .i64 0))), (some 7), none⟩]
def c31_3 : List CO := [⟨(.bin .lss (.var 7) (.var 6)), (some 8), none⟩]
def c31_4 : List CO := [⟨(.ia 4 (.var 5) (.var 7)), none, none⟩,
  ⟨(.load true 4 (.loc 0)), none, none⟩,
  ⟨(.box (.k (.agg #[(.int .i64 0), (.string ⟨#[]⟩), (.int .i64 0), (.slice none 0 0)]))), (some 4), none⟩,
  ⟨(.store 4 (.var 4) (.loc 1)), none, none⟩]
def c31_5 : List CO := [⟨(.mov (.var 1)), none, none⟩,
  ⟨(.bin .lss (.loc 0) (.k (.int .i64 0))), (some 9), none⟩]
def c31_6 : List CO := [⟨(.mov (.var 1)), none, none⟩,
  ⟨(.mov (.loc 0)), (some 3), none⟩]
def c31_7 : List CO := [⟨(.load true 4 (.var 4)), none, none⟩,
  ⟨(.mov (.var 1)), none, none⟩,
  ⟨(.call true 31 [(.loc 1), (.loc 0)]), none, none⟩,
  ⟨(.mov (.loc 0)), (some 1), none⟩]
def c31_8 : List CO := [⟨(.bin .add (.var 7) (.k (.int .i64 1))), none, none⟩,
  ⟨(.mov (.loc 0)), (some 7), none⟩]
def c31_9 : CC := (.seq (.region [] [] c31_3) (.seq (.cond (.var 8) .skip (.exit 0)) (.seq (.block 1 (.seq (.region [] [] c31_4) (.seq (.seq (.region [] [] c31_5) (.cond (.var 9) (.seq (.region [] [] c31_6) .ret) .skip)) (.region [] [] c31_7)))) (.region [] [] c31_8))))
def c31_10 : List CO := [⟨(.mov (.var 1)), none, none⟩,
  ⟨(.mov (.loc 0)), (some 3), none⟩]
def c31 : CFun := ⟨2, 10, (.seq (.region [] [] c31_0) (.seq (.region [] [] c31_1) (.seq (.seq (.region [] [] c31_2) (.block 0 (.loop [false, true, false, false, false, true, true, true, false, false] [] c31_9))) (.seq (.region [] [] c31_10) .ret)))), [.var 3]⟩
theorem ok31 : CodeOk Tryd.prog T 31 c31 := ⟨⟨Tryd.f31, Hints.of [] [] [(0, [false, true, false, false, false, true, true, true, false, false], [])], [0, 1, 2, 4, 6, 10, 11, 12, 13, 17], Tryd.func31, by kernel_rfl, by kernel_rfl⟩⟩

/-! spinney/spinneyref03.may -/
def c32_0 : List CO := [⟨(.box (.var 0)), (some 1), none⟩,
  ⟨(.mov (.k (.bool false))), (some 2), none⟩]
def c32_1 : List CO := [⟨(.fa 0 (.var 1)), none, none⟩,
  ⟨(.load false 1 (.loc 0)), (some 4), none⟩]
def c32_2 : List CO := [⟨(.bin .eql (.var 4) (.k (.int .i64 1))), none, none⟩,
  ⟨(.mov (.loc 0)), (some 5), none⟩]
def c32_3 : List CO := [⟨(.fa 2 (.var 1)), none, none⟩,
  ⟨(.load false 1 (.loc 0)), none, none⟩,
  ⟨(.bin .geq (.loc 0) (.k (.int .i64 0))), none, none⟩,
  ⟨(.mov (.loc 0)), none, none⟩,
  ⟨(.fa 1 (.var 1)), none, (some ((.loc 0), true))⟩,
  ⟨(.load false 1 (.loc 0)), none, (some ((.loc 1), true))⟩,
  ⟨(.bin .eql (.loc 0) (.k (.string ⟨#[]⟩))), none, (some ((.loc 2), true))⟩,
  ⟨(.pick (.loc 3) (.loc 0) (.k (.bool false))), none, none⟩,
  ⟨(.mov (.loc 0)), none, none⟩,
  ⟨(.fa 3 (.var 1)), none, (some ((.loc 0), true))⟩,
  ⟨(.load false 1 (.loc 0)), none, (some ((.loc 1), true))⟩,
  ⟨(.len .slice (.loc 0)), none, (some ((.loc 2), true))⟩,
  ⟨(.bin .eql (.loc 0) (.k (.int .i64 0))), none, (some ((.loc 3), true))⟩,
  ⟨(.pick (.loc 4) (.loc 0) (.k (.bool false))), none, none⟩,
  ⟨(.mov (.loc 0)), (some 2), none⟩]
def c32_4 : List CO := [⟨(.bin .eql (.var 4) (.k (.int .i64 2))), none, none⟩,
  ⟨(.mov (.loc 0)), (some 6), none⟩]
def c32_5 : List CO := [⟨(.fa 2 (.var 1)), none, none⟩,
  ⟨(.load false 1 (.loc 0)), none, none⟩,
  ⟨(.bin .eql (.loc 0) (.k (.int .i64 0))), none, none⟩,
  ⟨(.mov (.loc 0)), none, none⟩,
  ⟨(.fa 1 (.var 1)), none, (some ((.loc 0), true))⟩,
  ⟨(.load false 1 (.loc 0)), none, (some ((.loc 1), true))⟩,
  ⟨(.call true 47 [(.loc 0)]), none, (some ((.loc 2), true))⟩,
  ⟨(.pick (.loc 3) (.loc 0) (.k (.bool false))), none, none⟩,
  ⟨(.mov (.loc 0)), none, none⟩,
  ⟨(.fa 3 (.var 1)), none, (some ((.loc 0), true))⟩,
  ⟨(.load false 1 (.loc 0)), none, (some ((.loc 1), true))⟩,
  ⟨(.len .slice (.loc 0)), none, (some ((.loc 2), true))⟩,
  ⟨(.bin .eql (.loc 0) (.k (.int .i64 0))), none, (some ((.loc 3), true))⟩,
  ⟨(.pick (.loc 4) (.loc 0) (.k (.bool false))), none, none⟩,
  ⟨(.mov (.loc 0)), (some 2), none⟩]
def c32_6 : List CO := [⟨(.bin .eql (.var 4) (.k (.int .i64 3))), none, none⟩,
  ⟨(.mov (.loc 0)), (some 7), none⟩]
def c32_7 : List CO := [⟨(.fa 1 (.var 1)), none, none⟩,
  ⟨(.load false 1 (.loc 0)), none, none⟩,
  ⟨(.bin .eql (.loc 0) (.k (.string ⟨#[]⟩))), none, none⟩,
  ⟨(.mov (.loc 0)), none, none⟩,
  ⟨(.fa 3 (.var 1)), none, (some ((.loc 0), true))⟩,
  ⟨(.load false 1 (.loc 0)), none, (some ((.loc 1), true))⟩,
  ⟨(.len .slice (.loc 0)), none, (some ((.loc 2), true))⟩,
  ⟨(.bin .eql (.loc 0) (.k (.int .i64 0))), none, (some ((.loc 3), true))⟩,
  ⟨(.pick (.loc 4) (.loc 0) (.k (.bool false))), none, none⟩,
  ⟨(.mov (.loc 0)), (some 2), none⟩]
def c32_8 : List CO := [⟨(.bin .eql (.var 4) (.k (.int .i64 4))), none, none⟩,
  ⟨(.mov (.loc 0)), (some 8), none⟩]
def c32_9 : List CO := [⟨(.fa 2 (.var 1)), none, none⟩,
  ⟨(.load false 1 (.loc 0)), none, none⟩,
  ⟨(.bin .neq (.loc 0) (.k (.int .i64 0))), none, none⟩,
  ⟨(.mov (.loc 0)), none, none⟩,
  ⟨(.fa 1 (.var 1)), none, (some ((.loc 0), false))⟩,
  ⟨(.load false 1 (.loc 0)), none, (some ((.loc 1), false))⟩,
  ⟨(.call true 47 [(.loc 0)]), none, (some ((.loc 2), false))⟩,
  ⟨(.un .not (.loc 0)), none, (some ((.loc 3), false))⟩,
  ⟨(.pick (.loc 4) (.k (.bool true)) (.loc 0)), none, none⟩,
  ⟨(.mov (.loc 0)), none, none⟩,
  ⟨(.fa 3 (.var 1)), none, (some ((.loc 0), false))⟩,
  ⟨(.load false 1 (.loc 0)), none, (some ((.loc 1), false))⟩,
  ⟨(.len .slice (.loc 0)), none, (some ((.loc 2), false))⟩,
  ⟨(.bin .lss (.loc 0) (.k (.int .i64 1))), none, (some ((.loc 3), false))⟩,
  ⟨(.pick (.loc 4) (.k (.bool true)) (.loc 0)), none, none⟩,
  ⟨(.mov (.loc 0)), none, none⟩,
  ⟨(.fa 3 (.var 1)), none, (some ((.loc 0), false))⟩,
  ⟨(.load false 1 (.loc 0)), none, (some ((.loc 1), false))⟩,
  ⟨(.len .slice (.loc 0)), none, (some ((.loc 2), false))⟩,
  ⟨(.bin .gtr (.loc 0) (.k (.int .i64 16))), none, (some ((.loc 3), false))⟩,
  ⟨(.pick (.loc 4) (.k (.bool true)) (.loc 0)), (some 9), none⟩]
def c32_10 : List CO := [⟨(.mov (.k (.bool false))), (some 2), none⟩]
def c32_11 : List CO := [⟨(.fa 3 (.var 1)), none, none⟩,
  ⟨(.load false 1 (.loc 0)), (some 10), none⟩,
  ⟨(.len .slice (.var 10)), (some 11), none⟩,
  ⟨(.mov (.k (.int .i64 0))), (some 12), none⟩]
def c32_12 : List CO := [⟨(.bin .lss (.var 12) (.var 11)), (some 13), none⟩]
def c32_13 : List CO := [⟨(.ia 4 (.var 10) (.var 12)), none, none⟩,
  ⟨(.load true 4 (.loc 0)), none, none⟩,
  ⟨(.box (.k (.agg #[(.int .i64 0), (.string ⟨#[]⟩), (.int .i64 0), (.slice none 0 0)]))), (some 3), none⟩,
  ⟨(.store 4 (.var 3) (.loc 1)), none, none⟩]
def c32_14 : List CO := [⟨(.load true 4 (.var 3)), none, none⟩,
  ⟨(.call true 32 [(.loc 0)]), none, none⟩,
  ⟨(.un .not (.loc 0)), (some 14), none⟩]
def c32_15 : List CO := [⟨(.mov (.k (.bool false))), (some 2), none⟩]
def c32_16 : List CO := [⟨(.bin .add (.var 12) (.k (.int .i64 1))), none, none⟩,
  ⟨(.mov (.loc 0)), (some 12), none⟩]
def c32_17 : CC := (.seq (.region [] [] c32_12) (.seq (.cond (.var 13) .skip (.exit 1)) (.seq (.block 2 (.seq (.region [] [] c32_13) (.seq (.region [] [] c32_14) (.cond (.var 14) (.seq (.region [] [] c32_15) .ret) .skip)))) (.region [] [] c32_16))))
def c32_18 : List CO := [⟨(.mov (.k (.bool true))), (some 2), none⟩]
def c32_19 : List CO := [⟨(.mov (.k (.bool false))), (some 2), none⟩]
def c32 : CFun := ⟨1, 15, (.seq (.region [] [] c32_0) (.seq (.seq (.region [] [] c32_1) (.block 0 (.seq (.region [] [] c32_2) (.cond (.var 5) (.seq (.region [] [] c32_3) .ret) (.seq (.region [] [] c32_4) (.cond (.var 6) (.seq (.region [] [] c32_5) .ret) (.seq (.region [] [] c32_6) (.cond (.var 7) (.seq (.region [] [] c32_7) .ret) (.seq (.region [] [] c32_8) (.cond (.var 8) (.seq (.seq (.region [] [] c32_9) (.cond (.var 9) (.seq (.region [] [] c32_10) .ret) .skip)) (.seq (.seq (.region [] [] c32_11) (.block 1 (.loop [false, false, false, false, false, false, false, false, false, false, true, true, true, false, false] [] c32_17))) (.seq (.region [] [] c32_18) .ret))) .skip)))))))))) (.seq (.region [] [] c32_19) .ret))), [.var 2]⟩
theorem ok32 : CodeOk Tryd.prog T 32 c32 := ⟨⟨Tryd.f32, Hints.of [] [] [(1, [false, false, false, false, false, false, false, false, false, false, true, true, true, false, false], [])], [0, 1, 2, 4, 6, 7, 23, 39, 50, 72, 74, 75, 76, 77, 82], Tryd.func32, by kernel_rfl, by kernel_rfl⟩⟩

/-! spinney/spinneyref03.Deep -/
def c33_0 : List CO := [⟨(.box (.var 0)), (some 1), none⟩,
  ⟨(.mov (.k (.int .i64 0))), (some 2), none⟩]
def c33_1 : List CO := [⟨(.mov (.k (.int .i64 0))), (some 3), none⟩]
def c33_2 : List CO := [⟨(.fa 3 (.var 1)), none, none⟩,
  ⟨(.load false 1 (.loc 0)), (some 5), none⟩,
  ⟨(.len .slice (.var 5)), (some 6), none⟩,
  ⟨(.mov (.k (.int .i64 0))), (some 7), none⟩]
def c33_3 : List CO := [⟨(.bin .lss (.var 7) (.var 6)), (some 8), none⟩]
def c33_4 : List CO := [⟨(.ia 4 (.var 5) (.var 7)), none, none⟩,
  ⟨(.load true 4 (.loc 0)), none, none⟩,
  ⟨(.box (.k (.agg #[(.int .i64 0), (.string ⟨#[]⟩), (.int .i64 0), (.slice none 0 0)]))), (some 4), none⟩,
  ⟨(.store 4 (.var 4) (.loc 1)), none, none⟩]
def c33_5 : List CO := [⟨(.mov (.var 3)), none, none⟩,
  ⟨(.load true 4 (.var 4)), none, none⟩,
  ⟨(.call true 33 [(.loc 0)]), none, none⟩,
  ⟨(.mm true (.loc 2) (.loc 0)), none, none⟩,
  ⟨(.mov (.loc 0)), (some 3), none⟩]
def c33_6 : List CO := [⟨(.bin .add (.var 7) (.k (.int .i64 1))), none, none⟩,
  ⟨(.mov (.loc 0)), (some 7), none⟩]
def c33_7 : CC := (.seq (.region [] [] c33_3) (.seq (.cond (.var 8) .skip (.exit 0)) (.seq (.block 1 (.seq (.region [] [] c33_4) (.region [] [] c33_5))) (.region [] [] c33_6))))
def c33_8 : List CO := [⟨(.mov (.var 3)), none, none⟩,
  ⟨(.bin .add (.loc 0) (.k (.int .i64 1))), none, none⟩,
  ⟨(.mov (.loc 0)), (some 2), none⟩]
def c33 : CFun := ⟨1, 9, (.seq (.region [] [] c33_0) (.seq (.region [] [] c33_1) (.seq (.seq (.region [] [] c33_2) (.block 0 (.loop [false, false, false, true, false, true, true, true, false] [] c33_7))) (.seq (.region [] [] c33_8) .ret)))), [.var 2]⟩
theorem ok33 : CodeOk Tryd.prog T 33 c33 := ⟨⟨Tryd.f33, Hints.of [] [] [(0, [false, false, false, true, false, true, true, true, false], [])], [0, 1, 2, 3, 5, 7, 8, 9, 10], Tryd.func33, by kernel_rfl, by kernel_rfl⟩⟩

/-! spinney/spinneyref03.places -/
def c34_0 : List CO := [⟨(.box (.var 0)), (some 1), none⟩,
  ⟨(.mov (.k (.slice none 0 0))), (some 2), none⟩]
def c34_1 : List CO := [⟨(.mov (.k (.slice none 0 0))), (some 3), none⟩]
def c34_2 : List CO := [⟨(.fa 0 (.var 1)), none, none⟩,
  ⟨(.load false 1 (.loc 0)), none, none⟩,
  ⟨(.bin .eql (.loc 0) (.k (.int .i64 1))), (some 5), none⟩]
def c34_3 : List CO := [⟨(.mov (.var 3)), none, none⟩,
  ⟨(.fa 2 (.var 1)), none, none⟩,
  ⟨(.load false 1 (.loc 0)), none, none⟩,
  ⟨(.bslice 1 [(.int .i64 0)] 1 [(0, (.loc 0))]), none, none⟩,
  ⟨(.append 1 8 (.loc 3) (.loc 0)), none, none⟩,
  ⟨(.mov (.loc 0)), (some 3), none⟩]
def c34_4 : List CO := [⟨(.fa 3 (.var 1)), none, none⟩,
  ⟨(.load false 1 (.loc 0)), (some 6), none⟩,
  ⟨(.len .slice (.var 6)), (some 7), none⟩,
  ⟨(.mov (.k (.int .i64 0))), (some 8), none⟩]
def c34_5 : List CO := [⟨(.bin .lss (.var 8) (.var 7)), (some 9), none⟩]
def c34_6 : List CO := [⟨(.ia 4 (.var 6) (.var 8)), none, none⟩,
  ⟨(.load true 4 (.loc 0)), none, none⟩,
  ⟨(.box (.k (.agg #[(.int .i64 0), (.string ⟨#[]⟩), (.int .i64 0), (.slice none 0 0)]))), (some 4), none⟩,
  ⟨(.store 4 (.var 4) (.loc 1)), none, none⟩]
def c34_7 : List CO := [⟨(.mov (.var 3)), none, none⟩,
  ⟨(.load true 4 (.var 4)), none, none⟩,
  ⟨(.call true 34 [(.loc 0)]), none, none⟩,
  ⟨(.append 1 8 (.loc 2) (.loc 0)), none, none⟩,
  ⟨(.mov (.loc 0)), (some 3), none⟩]
def c34_8 : List CO := [⟨(.bin .add (.var 8) (.k (.int .i64 1))), none, none⟩,
  ⟨(.mov (.loc 0)), (some 8), none⟩]
def c34_9 : CC := (.seq (.region [] [] c34_5) (.seq (.cond (.var 9) .skip (.exit 0)) (.seq (.block 1 (.seq (.region [] [] c34_6) (.region [] [] c34_7))) (.region [] [] c34_8))))
def c34_10 : List CO := [⟨(.mov (.var 3)), none, none⟩,
  ⟨(.mov (.loc 0)), (some 2), none⟩]
def c34 : CFun := ⟨1, 10, (.seq (.region [] [] c34_0) (.seq (.region [] [] c34_1) (.seq (.seq (.region [] [] c34_2) (.cond (.var 5) (.region [] [] c34_3) .skip)) (.seq (.seq (.region [] [] c34_4) (.block 0 (.loop [false, false, false, true, false, false, true, true, true, false] [] c34_9))) (.seq (.region [] [] c34_10) .ret))))), [.var 2]⟩
theorem ok34 : CodeOk Tryd.prog T 34 c34 := ⟨⟨Tryd.f34, Hints.of [] [] [(0, [false, false, false, true, false, false, true, true, true, false], [])], [0, 1, 2, 3, 5, 8, 15, 16, 17, 18], Tryd.func34, by kernel_rfl, by kernel_rfl⟩⟩

/-! (*spinney/subst.resolver).term -/
def c35_0 : List CO := [⟨(.box (.var 1)), (some 2), none⟩,
  ⟨(.box (.k (.agg #[(.int .i64 0), (.string ⟨#[]⟩), (.int .i64 0), (.slice none 0 0)]))), (some 3), none⟩,
  ⟨(.mov (.k (.int .i64 0))), (some 4), none⟩]
def c35_1 : List CO := [⟨(.mov (.var 0)), none, none⟩,
  ⟨(.nilchk (.loc 0)), none, none⟩,
  ⟨(.fa 0 (.loc 0)), none, none⟩,
  ⟨(.load false 1 (.loc 0)), none, none⟩,
  ⟨(.load true 4 (.var 2)), none, none⟩,
  ⟨(.mov (.var 0)), none, none⟩,
  ⟨(.nilchk (.loc 0)), none, none⟩,
  ⟨(.fa 1 (.loc 0)), none, none⟩,
  ⟨(.call false 48 [(.loc 4), (.loc 3), (.loc 0)]), none, none⟩,
  ⟨(.mov (.loc 0)), none, none⟩,
  ⟨(.extract (.loc 0) 0), none, none⟩,
  ⟨(.extract (.loc 1) 1), none, none⟩,
  ⟨(.store 4 (.var 2) (.loc 1)), none, none⟩,
  ⟨(.mov (.loc 1)), (some 5), none⟩]
def c35_2 : List CO := [⟨(.mov (.var 5)), none, none⟩,
  ⟨(.bin .neq (.loc 0) (.k (.int .i64 0))), none, none⟩,
  ⟨(.mov (.loc 0)), (some 11), none⟩]
def c35_3 : List CO := [⟨(.load true 4 (.var 2)), none, none⟩,
  ⟨(.mov (.var 5)), none, none⟩,
  ⟨(.store 4 (.var 3) (.loc 1)), none, none⟩,
  ⟨(.mov (.loc 1)), (some 4), none⟩]
def c35_4 : List CO := [⟨(.mov (.var 0)), none, none⟩,
  ⟨(.nilchk (.loc 0)), none, none⟩,
  ⟨(.fa 2 (.loc 0)), none, none⟩,
  ⟨(.load false 1 (.loc 0)), none, none⟩,
  ⟨(.bin .eql (.loc 0) (.k (.int .i64 60))), none, none⟩,
  ⟨(.mov (.loc 0)), (some 12), none⟩]
def c35_5 : List CO := [⟨(.build [(.int .i64 0), (.string ⟨#[]⟩), (.int .i64 0), (.slice none 0 0)] []), none, none⟩,
  ⟨(.store 4 (.var 3) (.loc 0)), none, none⟩,
  ⟨(.mov (.k (.int .i64 3))), (some 4), none⟩]
def c35_6 : List CO := [⟨(.mov (.var 0)), none, none⟩,
  ⟨(.nilchk (.loc 0)), none, none⟩,
  ⟨(.fa 2 (.loc 0)), none, none⟩,
  ⟨(.load false 1 (.loc 0)), none, none⟩,
  ⟨(.bin .add (.loc 0) (.k (.int .i64 1))), none, none⟩,
  ⟨(.nilchk (.loc 4)), none, none⟩,
  ⟨(.fa 2 (.loc 0)), none, none⟩,
  ⟨(.store 1 (.loc 0) (.loc 2)), none, none⟩]
def c35_7 : List CO := [⟨(.fa 3 (.var 2)), none, none⟩,
  ⟨(.load false 1 (.loc 0)), none, none⟩,
  ⟨(.len .slice (.loc 0)), none, none⟩,
  ⟨(.mkslice 4 56 [(.int .i64 0), (.string ⟨#[]⟩), (.int .i64 0), (.slice none 0 0)] (.loc 0) (.loc 0)), none, none⟩,
  ⟨(.mov (.loc 0)), (some 6), none⟩]
def c35_8 : List CO := [⟨(.fa 3 (.var 2)), none, none⟩,
  ⟨(.load false 1 (.loc 0)), (some 13), none⟩,
  ⟨(.len .slice (.var 13)), (some 14), none⟩,
  ⟨(.mov (.k (.int .i64 0))), (some 15), none⟩]
def c35_9 : List CO := [⟨(.bin .lss (.var 15) (.var 14)), (some 16), none⟩]
def c35_10 : List CO := [⟨(.mov (.var 15)), none, none⟩,
  ⟨(.ia 4 (.var 13) (.var 15)), none, none⟩,
  ⟨(.load true 4 (.loc 0)), none, none⟩,
  ⟨(.box (.k (.agg #[(.int .i64 0), (.string ⟨#[]⟩), (.int .i64 0), (.slice none 0 0)]))), (some 8), none⟩,
  ⟨(.mov (.loc 3)), (some 7), none⟩,
  ⟨(.store 4 (.var 8) (.loc 2)), none, none⟩]
def c35_11 : List CO := [⟨(.mov (.var 0)), none, none⟩,
  ⟨(.load true 4 (.var 8)), none, none⟩,
  ⟨(.call false 35 [(.loc 1), (.loc 0)]), none, none⟩,
  ⟨(.mov (.loc 0)), none, none⟩,
  ⟨(.extract (.loc 0) 0), none, none⟩,
  ⟨(.extract (.loc 1) 1), none, none⟩,
  ⟨(.box (.k (.agg #[(.int .i64 0), (.string ⟨#[]⟩), (.int .i64 0), (.slice none 0 0)]))), (some 9), none⟩,
  ⟨(.store 4 (.var 9) (.loc 2)), none, none⟩,
  ⟨(.mov (.loc 2)), (some 10), none⟩]
def c35_12 : List CO := [⟨(.mov (.var 10)), none, none⟩,
  ⟨(.bin .neq (.loc 0) (.k (.int .i64 0))), (some 17), none⟩]
def c35_13 : List CO := [⟨(.build [(.int .i64 0), (.string ⟨#[]⟩), (.int .i64 0), (.slice none 0 0)] []), none, none⟩,
  ⟨(.mov (.var 10)), none, none⟩,
  ⟨(.store 4 (.var 3) (.loc 1)), none, none⟩,
  ⟨(.mov (.loc 1)), (some 4), none⟩]
def c35_14 : List CO := [⟨(.mov (.var 6)), none, none⟩,
  ⟨(.mov (.var 7)), none, none⟩,
  ⟨(.load true 4 (.var 9)), none, none⟩,
  ⟨(.ia 4 (.loc 2) (.loc 1)), none, none⟩,
  ⟨(.store 4 (.loc 0) (.loc 1)), none, none⟩]
def c35_15 : List CO := [⟨(.bin .add (.var 15) (.k (.int .i64 1))), none, none⟩,
  ⟨(.mov (.loc 0)), (some 15), none⟩]
def c35_16 : CC := (.seq (.region [] [] c35_9) (.seq (.cond (.var 16) .skip (.exit 1)) (.seq (.block 2 (.seq (.region [] [] c35_10) (.seq (.region [] [] c35_11) (.seq (.seq (.region [] [] c35_12) (.cond (.var 17) (.seq (.region [] [] c35_13) .ret) .skip)) (.region [] [] c35_14))))) (.region [] [] c35_15))))
def c35_17 : List CO := [⟨(.mov (.var 0)), none, none⟩,
  ⟨(.nilchk (.loc 0)), none, none⟩,
  ⟨(.fa 2 (.loc 0)), none, none⟩,
  ⟨(.load false 1 (.loc 0)), none, none⟩,
  ⟨(.bin .sub (.loc 0) (.k (.int .i64 1))), none, none⟩,
  ⟨(.nilchk (.loc 4)), none, none⟩,
  ⟨(.fa 2 (.loc 0)), none, none⟩,
  ⟨(.store 1 (.loc 0) (.loc 2)), none, none⟩]
def c35_18 : List CO := [⟨(.mov (.var 6)), none, none⟩,
  ⟨(.fa 3 (.var 2)), none, none⟩,
  ⟨(.store 1 (.loc 0) (.loc 1)), none, none⟩]
def c35_19 : List CO := [⟨(.load true 4 (.var 2)), none, none⟩,
  ⟨(.store 4 (.var 3) (.loc 0)), none, none⟩,
  ⟨(.mov (.k (.int .i64 0))), (some 4), none⟩]
def c35 : CFun := ⟨2, 18, (.seq (.region [] [] c35_0) (.seq (.region [] [] c35_1) (.seq (.block 0 (.seq (.region [] [] c35_2) (.cond (.var 11) (.seq (.region [] [] c35_3) .ret) (.seq (.region [] [] c35_4) (.cond (.var 12) (.seq (.region [] [] c35_5) .ret) .skip))))) (.seq (.region [] [] c35_6) (.seq (.region [] [] c35_7) (.seq (.seq (.region [] [] c35_8) (.block 1 (.loop [true, false, true, true, false, false, true, false, false, false, false, false, false, true, true, true, false, false] [] c35_16))) (.seq (.region [] [] c35_17) (.seq (.region [] [] c35_18) (.seq (.region [] [] c35_19) .ret))))))))), [.cell 3 true 4, .var 4]⟩
theorem ok35 : CodeOk Tryd.prog T 35 c35 := ⟨⟨Tryd.f35, Hints.of [] [] [(1, [true, false, true, true, false, false, true, false, false, false, false, false, false, true, true, true, false, false], [])], [0, 1, 3, 4, 5, 6, 7, 8, 9, 10, 11, 24, 29, 48, 49, 50, 51, 62], Tryd.func35, by kernel_rfl, by kernel_rfl⟩⟩

/-! spinney/spinneyref03.Int1 -/
def c36_0 : List CO := [⟨(.box (.k (.agg #[(.int .i64 0), (.string ⟨#[]⟩), (.int .i64 0), (.slice none 0 0)]))), (some 1), none⟩]
def c36_1 : List CO := [⟨(.mov (.var 0)), none, none⟩,
  ⟨(.build [(.int .i64 0), (.string ⟨#[]⟩), (.int .i64 0), (.slice none 0 0)] [(0, 1, (.k (.int .i64 3))), (2, 1, (.loc 0))]), none, none⟩,
  ⟨(.store 4 (.var 1) (.loc 0)), none, none⟩]
def c36 : CFun := ⟨1, 2, (.seq (.region [] [] c36_0) (.seq (.region [] [] c36_1) .ret)), [.cell 1 true 4]⟩
theorem ok36 : CodeOk Tryd.prog T 36 c36 := ⟨⟨Tryd.f36, Hints.of [] [] [], [0, 2], Tryd.func36, by kernel_rfl, by kernel_rfl⟩⟩

/-! (*spinney/unify.walker).next -/
def c37_0 : List CO := [⟨(.box (.k (.agg #[(.int .i64 0), (.string ⟨#[]⟩), (.int .i64 0), (.slice none 0 0)]))), (some 1), none⟩,
  ⟨(.box (.k (.agg #[(.int .i64 0), (.string ⟨#[]⟩), (.int .i64 0), (.slice none 0 0)]))), (some 2), none⟩,
  ⟨(.mov (.k (.int .i64 0))), (some 3), none⟩]
def c37_1 : List CO := [⟨(.mov (.var 0)), none, none⟩,
  ⟨(.nilchk (.loc 0)), none, none⟩,
  ⟨(.fa 2 (.loc 0)), none, none⟩,
  ⟨(.load false 1 (.loc 0)), none, none⟩,
  ⟨(.mov (.var 0)), none, none⟩,
  ⟨(.nilchk (.loc 0)), none, none⟩,
  ⟨(.fa 2 (.loc 0)), none, none⟩,
  ⟨(.load false 1 (.loc 0)), none, none⟩,
  ⟨(.len .slice (.loc 0)), none, none⟩,
  ⟨(.bin .sub (.loc 0) (.k (.int .i64 1))), none, none⟩,
  ⟨(.ia 8 (.loc 6) (.loc 0)), none, none⟩,
  ⟨(.load true 8 (.loc 0)), none, none⟩,
  ⟨(.box (.k (.agg #[(.int .i64 0), (.string ⟨#[]⟩), (.int .i64 0), (.slice none 0 0), (.int .i64 0), (.string ⟨#[]⟩), (.int .i64 0), (.slice none 0 0)]))), (some 4), none⟩,
  ⟨(.store 8 (.var 4) (.loc 1)), none, none⟩]
def c37_2 : List CO := [⟨(.mov (.var 0)), none, none⟩,
  ⟨(.mov (.var 0)), none, none⟩,
  ⟨(.nilchk (.loc 0)), none, none⟩,
  ⟨(.fa 2 (.loc 0)), none, none⟩,
  ⟨(.load false 1 (.loc 0)), none, none⟩,
  ⟨(.mov (.var 0)), none, none⟩,
  ⟨(.nilchk (.loc 0)), none, none⟩,
  ⟨(.fa 2 (.loc 0)), none, none⟩,
  ⟨(.load false 1 (.loc 0)), none, none⟩,
  ⟨(.len .slice (.loc 0)), none, none⟩,
  ⟨(.bin .sub (.loc 0) (.k (.int .i64 1))), none, none⟩,
  ⟨(.slice 8 (.loc 6) none (some (.loc 0)) none), none, none⟩,
  ⟨(.nilchk (.loc 11)), none, none⟩,
  ⟨(.fa 2 (.loc 0)), none, none⟩,
  ⟨(.store 1 (.loc 0) (.loc 2)), none, none⟩]
def c37_3 : List CO := [⟨(.mov (.var 0)), none, none⟩,
  ⟨(.nilchk (.loc 0)), none, none⟩,
  ⟨(.fa 0 (.loc 0)), none, none⟩,
  ⟨(.load false 1 (.loc 0)), none, none⟩,
  ⟨(.fa 0 (.var 4)), none, none⟩,
  ⟨(.load true 4 (.loc 0)), none, none⟩,
  ⟨(.mov (.var 0)), none, none⟩,
  ⟨(.nilchk (.loc 0)), none, none⟩,
  ⟨(.fa 1 (.loc 0)), none, none⟩,
  ⟨(.call false 48 [(.loc 5), (.loc 3), (.loc 0)]), none, none⟩,
  ⟨(.mov (.loc 0)), none, none⟩,
  ⟨(.extract (.loc 0) 0), none, none⟩,
  ⟨(.extract (.loc 1) 1), none, none⟩,
  ⟨(.store 4 (.var 1) (.loc 1)), none, none⟩,
  ⟨(.mov (.loc 1)), (some 3), none⟩]
def c37_4 : List CO := [⟨(.mov (.var 3)), none, none⟩,
  ⟨(.bin .eql (.loc 0) (.k (.int .i64 0))), (some 5), none⟩]
def c37_5 : List CO := [⟨(.mov (.var 0)), none, none⟩,
  ⟨(.nilchk (.loc 0)), none, none⟩,
  ⟨(.fa 0 (.loc 0)), none, none⟩,
  ⟨(.load false 1 (.loc 0)), none, none⟩,
  ⟨(.fa 4 (.var 4)), none, none⟩,
  ⟨(.load true 4 (.loc 0)), none, none⟩,
  ⟨(.mov (.var 0)), none, none⟩,
  ⟨(.nilchk (.loc 0)), none, none⟩,
  ⟨(.fa 1 (.loc 0)), none, none⟩,
  ⟨(.call false 48 [(.loc 5), (.loc 3), (.loc 0)]), none, none⟩,
  ⟨(.mov (.loc 0)), none, none⟩,
  ⟨(.extract (.loc 0) 0), none, none⟩,
  ⟨(.extract (.loc 1) 1), none, none⟩,
  ⟨(.store 4 (.var 2) (.loc 1)), none, none⟩,
  ⟨(.mov (.loc 1)), (some 3), none⟩]
def c37_6 : List CO := [⟨(.load true 4 (.var 1)), none, none⟩,
  ⟨(.load true 4 (.var 2)), none, none⟩,
  ⟨(.mov (.var 3)), none, none⟩,
  ⟨(.store 4 (.var 1) (.loc 2)), none, none⟩,
  ⟨(.store 4 (.var 2) (.loc 2)), none, none⟩,
  ⟨(.mov (.loc 2)), (some 3), none⟩]
def c37 : CFun := ⟨1, 6, (.seq (.region [] [] c37_0) (.seq (.region [] [] c37_1) (.seq (.region [] [] c37_2) (.seq (.seq (.region [] [] c37_3) (.seq (.region [] [] c37_4) (.cond (.var 5) (.region [] [] c37_5) .skip))) (.seq (.region [] [((some 1), 2)] c37_6) .ret))))), [.cell 1 true 4, .cell 2 true 4, .var 3]⟩
theorem ok37 : CodeOk Tryd.prog T 37 c37 := ⟨⟨Tryd.f37, Hints.of [] [(6, [((some 1), 2)])] [], [0, 2, 3, 4, 5, 46], Tryd.func37, by kernel_rfl, by kernel_rfl⟩⟩

/-! cmp.Compare[int] -/
def c38_0 : List CO := [⟨(.mov (.k (.int .i64 0))), (some 2), none⟩]
def c38_1 : List CO := [⟨(.mov (.var 0)), none, none⟩,
  ⟨(.call true 49 [(.loc 0)]), none, none⟩,
  ⟨(.mov (.loc 0)), (some 3), none⟩]
def c38_2 : List CO := [⟨(.mov (.var 1)), none, none⟩,
  ⟨(.call true 49 [(.loc 0)]), none, none⟩,
  ⟨(.mov (.loc 0)), (some 4), none⟩]
def c38_3 : List CO := [⟨(.mov (.var 3)), (some 5), none⟩]
def c38_4 : List CO := [⟨(.mov (.var 4)), (some 6), none⟩]
def c38_5 : List CO := [⟨(.mov (.k (.int .i64 0))), (some 2), none⟩]
def c38_6 : List CO := [⟨(.mov (.k (.int .i64 (-1)))), (some 2), none⟩]
def c38_7 : List CO := [⟨(.mov (.var 4)), (some 7), none⟩]
def c38_8 : List CO := [⟨(.mov (.k (.int .i64 1))), (some 2), none⟩]
def c38_9 : List CO := [⟨(.mov (.var 0)), none, none⟩,
  ⟨(.mov (.var 1)), none, none⟩,
  ⟨(.bin .lss (.loc 1) (.loc 0)), (some 8), none⟩]
def c38_10 : List CO := [⟨(.mov (.k (.int .i64 (-1)))), (some 2), none⟩]
def c38_11 : List CO := [⟨(.mov (.var 0)), none, none⟩,
  ⟨(.mov (.var 1)), none, none⟩,
  ⟨(.bin .gtr (.loc 1) (.loc 0)), (some 9), none⟩]
def c38_12 : List CO := [⟨(.mov (.k (.int .i64 1))), (some 2), none⟩]
def c38_13 : List CO := [⟨(.mov (.k (.int .i64 0))), (some 2), none⟩]
def c38 : CFun := ⟨2, 10, (.seq (.region [] [] c38_0) (.seq (.region [] [] c38_1) (.seq (.region [] [] c38_2) (.seq (.seq (.region [] [] c38_3) (.cond (.var 5) (.seq (.seq (.region [] [] c38_4) (.cond (.var 6) (.seq (.region [] [] c38_5) .ret) .skip)) (.seq (.region [] [] c38_6) .ret)) .skip)) (.seq (.seq (.region [] [] c38_7) (.cond (.var 7) (.seq (.region [] [] c38_8) .ret) .skip)) (.seq (.seq (.region [] [] c38_9) (.cond (.var 8) (.seq (.region [] [] c38_10) .ret) .skip)) (.seq (.seq (.region [] [] c38_11) (.cond (.var 9) (.seq (.region [] [] c38_12) .ret) .skip)) (.seq (.region [] [] c38_13) .ret)))))))), [.var 2]⟩
theorem ok38 : CodeOk Tryd.prog T 38 c38 := ⟨⟨Tryd.f38, Hints.of [] [] [], [0, 1, 4, 5, 6, 11, 12, 13, 16, 19], Tryd.func38, by kernel_rfl, by kernel_rfl⟩⟩

/-! (*spinney/unify.walker).within -/
def c39_0 : List CO := [⟨(.box (.var 1)), (some 3), none⟩,
  ⟨(.box (.var 2)), (some 4), none⟩]
def c39_1 : List CO := [⟨(.fa 3 (.var 3)), none, none⟩,
  ⟨(.load false 1 (.loc 0)), none, none⟩,
  ⟨(.len .slice (.loc 0)), none, none⟩,
  ⟨(.bin .sub (.loc 0) (.k (.int .i64 1))), none, none⟩,
  ⟨(.mov (.loc 0)), (some 5), none⟩]
def c39_2 : List CO := [⟨(.mov (.var 5)), none, none⟩,
  ⟨(.bin .geq (.loc 0) (.k (.int .i64 0))), (some 6), none⟩]
def c39_3 : List CO := [⟨(.mov (.var 0)), none, none⟩,
  ⟨(.mov (.var 0)), none, none⟩,
  ⟨(.nilchk (.loc 0)), none, none⟩,
  ⟨(.fa 2 (.loc 0)), none, none⟩,
  ⟨(.load false 1 (.loc 0)), none, none⟩,
  ⟨(.fa 3 (.var 3)), none, none⟩,
  ⟨(.load false 1 (.loc 0)), none, none⟩,
  ⟨(.mov (.var 5)), none, none⟩,
  ⟨(.ia 4 (.loc 1) (.loc 0)), none, none⟩,
  ⟨(.load true 4 (.loc 0)), none, none⟩,
  ⟨(.fa 3 (.var 4)), none, none⟩,
  ⟨(.load false 1 (.loc 0)), none, none⟩,
  ⟨(.mov (.var 5)), none, none⟩,
  ⟨(.ia 4 (.loc 1) (.loc 0)), none, none⟩,
  ⟨(.load true 4 (.loc 0)), none, none⟩,
  ⟨(.build [(.int .i64 0), (.string ⟨#[]⟩), (.int .i64 0), (.slice none 0 0), (.int .i64 0), (.string ⟨#[]⟩), (.int .i64 0), (.slice none 0 0)] [(0, 4, (.loc 5)), (4, 4, (.loc 0))]), none, none⟩,
  ⟨(.brow 8 [(.int .i64 0), (.string ⟨#[]⟩), (.int .i64 0), (.slice none 0 0), (.int .i64 0), (.string ⟨#[]⟩), (.int .i64 0), (.slice none 0 0)] 1 [(0, (.loc 0))]), none, none⟩,
  ⟨(.append 8 112 (.loc 12) (.loc 0)), none, none⟩,
  ⟨(.nilchk (.loc 17)), none, none⟩,
  ⟨(.fa 2 (.loc 0)), none, none⟩,
  ⟨(.store 1 (.loc 0) (.loc 2)), none, none⟩]
def c39_4 : List CO := [⟨(.mov (.var 5)), none, none⟩,
  ⟨(.bin .sub (.loc 0) (.k (.int .i64 1))), none, none⟩,
  ⟨(.mov (.loc 0)), (some 5), none⟩]
def c39_5 : CC := (.seq (.seq (.region [] [] c39_2) (.cond (.var 6) .skip (.exit 0))) (.seq (.block 1 (.region [] [] c39_3)) (.region [] [] c39_4)))
def c39 : CFun := ⟨3, 7, (.seq (.region [] [] c39_0) (.seq (.region [] [] c39_1) (.block 0 (.loop [true, false, false, true, true, true, false] [] c39_5)))), []⟩
theorem ok39 : CodeOk Tryd.prog T 39 c39 := ⟨⟨Tryd.f39, Hints.of [] [] [(0, [true, false, false, true, true, true, false], [])], [0, 1, 2, 4, 5, 6, 12], Tryd.func39, by kernel_rfl, by kernel_rfl⟩⟩

/-! spinney/term.Compare -/
def c40_0 : List CO := [⟨(.box (.var 0)), (some 2), none⟩,
  ⟨(.box (.var 1)), (some 3), none⟩,
  ⟨(.mov (.k (.int .i64 0))), (some 4), none⟩]
def c40_1 : List CO := [⟨(.fa 0 (.var 2)), none, none⟩,
  ⟨(.load false 1 (.loc 0)), none, none⟩,
  ⟨(.call true 51 [(.loc 0)]), none, none⟩,
  ⟨(.fa 0 (.var 3)), none, none⟩,
  ⟨(.load false 1 (.loc 0)), none, none⟩,
  ⟨(.call true 51 [(.loc 0)]), none, none⟩,
  ⟨(.call true 38 [(.loc 3), (.loc 0)]), none, none⟩,
  ⟨(.fa 3 (.var 2)), none, none⟩,
  ⟨(.load false 1 (.loc 0)), none, none⟩,
  ⟨(.len .slice (.loc 0)), none, none⟩,
  ⟨(.fa 3 (.var 3)), none, none⟩,
  ⟨(.load false 1 (.loc 0)), none, none⟩,
  ⟨(.len .slice (.loc 0)), none, none⟩,
  ⟨(.call true 38 [(.loc 3), (.loc 0)]), none, none⟩,
  ⟨(.fa 1 (.var 2)), none, none⟩,
  ⟨(.load false 1 (.loc 0)), none, none⟩,
  ⟨(.fa 1 (.var 3)), none, none⟩,
  ⟨(.load false 1 (.loc 0)), none, none⟩,
  ⟨(.call true 52 [(.loc 2), (.loc 0)]), none, none⟩,
  ⟨(.fa 2 (.var 2)), none, none⟩,
  ⟨(.load false 1 (.loc 0)), none, none⟩,
  ⟨(.fa 2 (.var 3)), none, none⟩,
  ⟨(.load false 1 (.loc 0)), none, none⟩,
  ⟨(.call true 53 [(.loc 2), (.loc 0)]), none, none⟩,
  ⟨(.bslice 1 [(.int .i64 0)] 4 [(0, (.loc 17)), (1, (.loc 10)), (2, (.loc 5)), (3, (.loc 0))]), none, none⟩,
  ⟨(.call true 50 [(.loc 0)]), none, none⟩,
  ⟨(.mov (.loc 0)), (some 5), none⟩]
def c40_2 : List CO := [⟨(.mov (.k (.int .i64 0))), (some 6), none⟩]
def c40_3 : List CO := [⟨(.mov (.var 5)), none, none⟩,
  ⟨(.bin .eql (.loc 0) (.k (.int .i64 0))), none, none⟩,
  ⟨(.mov (.loc 0)), none, none⟩,
  ⟨(.mov (.var 6)), none, (some ((.loc 0), true))⟩,
  ⟨(.fa 3 (.var 2)), none, (some ((.loc 1), true))⟩,
  ⟨(.load false 1 (.loc 0)), none, (some ((.loc 2), true))⟩,
  ⟨(.len .slice (.loc 0)), none, (some ((.loc 3), true))⟩,
  ⟨(.bin .lss (.loc 3) (.loc 0)), none, (some ((.loc 4), true))⟩,
  ⟨(.pick (.loc 5) (.loc 0) (.k (.bool false))), (some 7), none⟩]
def c40_4 : List CO := [⟨(.fa 3 (.var 2)), none, none⟩,
  ⟨(.load false 1 (.loc 0)), none, none⟩,
  ⟨(.mov (.var 6)), none, none⟩,
  ⟨(.ia 4 (.loc 1) (.loc 0)), none, none⟩,
  ⟨(.load true 4 (.loc 0)), none, none⟩,
  ⟨(.fa 3 (.var 3)), none, none⟩,
  ⟨(.load false 1 (.loc 0)), none, none⟩,
  ⟨(.mov (.var 6)), none, none⟩,
  ⟨(.ia 4 (.loc 1) (.loc 0)), none, none⟩,
  ⟨(.load true 4 (.loc 0)), none, none⟩,
  ⟨(.call true 40 [(.loc 5), (.loc 0)]), none, none⟩,
  ⟨(.mov (.loc 0)), (some 5), none⟩]
def c40_5 : List CO := [⟨(.mov (.var 6)), none, none⟩,
  ⟨(.bin .add (.loc 0) (.k (.int .i64 1))), none, none⟩,
  ⟨(.mov (.loc 0)), (some 6), none⟩]
def c40_6 : CC := (.seq (.seq (.region [] [] c40_3) (.cond (.var 7) .skip (.exit 0))) (.seq (.block 1 (.region [] [] c40_4)) (.region [] [] c40_5)))
def c40_7 : List CO := [⟨(.mov (.var 5)), none, none⟩,
  ⟨(.mov (.loc 0)), (some 4), none⟩]
def c40 : CFun := ⟨2, 8, (.seq (.region [] [] c40_0) (.seq (.region [] [] c40_1) (.seq (.seq (.region [] [] c40_2) (.block 0 (.loop [false, false, true, true, false, true, true, false] [] c40_6))) (.seq (.region [] [] c40_7) .ret)))), [.var 4]⟩
theorem ok40 : CodeOk Tryd.prog T 40 c40 := ⟨⟨Tryd.f40, Hints.of [] [] [(0, [false, false, true, true, false, true, true, false], [])], [0, 1, 2, 3, 4, 5, 6, 41], Tryd.func40, by kernel_rfl, by kernel_rfl⟩⟩

/-! spinney/spinneyref10.compare -/
def c41_0 : List CO := [⟨(.box (.var 2)), (some 4), none⟩,
  ⟨(.box (.var 3)), (some 5), none⟩,
  ⟨(.mov (.k (.int .i64 0))), (some 6), none⟩,
  ⟨(.mov (.k (.int .i64 0))), (some 7), none⟩]
def c41_1 : List CO := [⟨(.mov (.var 0)), none, none⟩,
  ⟨(.mov (.var 1)), none, none⟩,
  ⟨(.load true 4 (.var 4)), none, none⟩,
  ⟨(.load true 4 (.var 5)), none, none⟩,
  ⟨(.call false 54 [(.loc 3), (.loc 2), (.loc 1), (.loc 0)]), none, none⟩,
  ⟨(.mov (.loc 0)), none, none⟩,
  ⟨(.extract (.loc 0) 0), none, none⟩,
  ⟨(.extract (.loc 1) 1), none, none⟩,
  ⟨(.extract (.loc 2) 2), none, none⟩,
  ⟨(.store 4 (.var 4) (.loc 2)), none, none⟩,
  ⟨(.store 4 (.var 5) (.loc 2)), none, none⟩,
  ⟨(.mov (.loc 2)), (some 8), none⟩]
def c41_2 : List CO := [⟨(.mov (.var 8)), none, none⟩,
  ⟨(.bin .neq (.loc 0) (.k (.int .i64 0))), (some 12), none⟩]
def c41_3 : List CO := [⟨(.mov (.var 8)), none, none⟩,
  ⟨(.mov (.k (.int .i64 0))), (some 6), none⟩,
  ⟨(.mov (.loc 1)), (some 7), none⟩]
def c41_4 : List CO := [⟨(.fa 0 (.var 4)), none, none⟩,
  ⟨(.load false 1 (.loc 0)), none, none⟩,
  ⟨(.bin .neq (.loc 0) (.k (.int .i64 4))), none, none⟩,
  ⟨(.mov (.loc 0)), none, none⟩,
  ⟨(.fa 0 (.var 5)), none, (some ((.loc 0), false))⟩,
  ⟨(.load false 1 (.loc 0)), none, (some ((.loc 1), false))⟩,
  ⟨(.bin .neq (.loc 0) (.k (.int .i64 4))), none, (some ((.loc 2), false))⟩,
  ⟨(.pick (.loc 3) (.k (.bool true)) (.loc 0)), none, none⟩,
  ⟨(.mov (.loc 0)), none, none⟩,
  ⟨(.fa 1 (.var 4)), none, (some ((.loc 0), false))⟩,
  ⟨(.load false 1 (.loc 0)), none, (some ((.loc 1), false))⟩,
  ⟨(.fa 1 (.var 5)), none, (some ((.loc 2), false))⟩,
  ⟨(.load false 1 (.loc 0)), none, (some ((.loc 3), false))⟩,
  ⟨(.bin .neq (.loc 2) (.loc 0)), none, (some ((.loc 4), false))⟩,
  ⟨(.pick (.loc 5) (.k (.bool true)) (.loc 0)), none, none⟩,
  ⟨(.mov (.loc 0)), none, none⟩,
  ⟨(.fa 3 (.var 4)), none, (some ((.loc 0), false))⟩,
  ⟨(.load false 1 (.loc 0)), none, (some ((.loc 1), false))⟩,
  ⟨(.len .slice (.loc 0)), none, (some ((.loc 2), false))⟩,
  ⟨(.fa 3 (.var 5)), none, (some ((.loc 3), false))⟩,
  ⟨(.load false 1 (.loc 0)), none, (some ((.loc 4), false))⟩,
  ⟨(.len .slice (.loc 0)), none, (some ((.loc 5), false))⟩,
  ⟨(.bin .neq (.loc 3) (.loc 0)), none, (some ((.loc 6), false))⟩,
  ⟨(.pick (.loc 7) (.k (.bool true)) (.loc 0)), (some 13), none⟩]
def c41_5 : List CO := [⟨(.load true 4 (.var 4)), none, none⟩,
  ⟨(.load true 4 (.var 5)), none, none⟩,
  ⟨(.call true 55 [(.loc 1), (.loc 0)]), none, none⟩,
  ⟨(.mov (.loc 0)), (some 6), none⟩,
  ⟨(.mov (.k (.int .i64 0))), (some 7), none⟩]
def c41_6 : List CO := [⟨(.fa 3 (.var 4)), none, none⟩,
  ⟨(.load false 1 (.loc 0)), none, none⟩,
  ⟨(.len .slice (.loc 0)), (some 14), none⟩,
  ⟨(.mov (.k (.int .i64 0))), (some 15), none⟩]
def c41_7 : List CO := [⟨(.bin .lss (.var 15) (.var 14)), (some 16), none⟩]
def c41_8 : List CO := [⟨(.mov (.var 15)), none, none⟩,
  ⟨(.mov (.loc 0)), (some 9), none⟩]
def c41_9 : List CO := [⟨(.mov (.var 0)), none, none⟩,
  ⟨(.mov (.var 1)), none, none⟩,
  ⟨(.fa 3 (.var 4)), none, none⟩,
  ⟨(.load false 1 (.loc 0)), none, none⟩,
  ⟨(.mov (.var 9)), none, none⟩,
  ⟨(.ia 4 (.loc 1) (.loc 0)), none, none⟩,
  ⟨(.load true 4 (.loc 0)), none, none⟩,
  ⟨(.fa 3 (.var 5)), none, none⟩,
  ⟨(.load false 1 (.loc 0)), none, none⟩,
  ⟨(.mov (.var 9)), none, none⟩,
  ⟨(.ia 4 (.loc 1) (.loc 0)), none, none⟩,
  ⟨(.load true 4 (.loc 0)), none, none⟩,
  ⟨(.call false 41 [(.loc 11), (.loc 10), (.loc 5), (.loc 0)]), none, none⟩,
  ⟨(.mov (.loc 0)), none, none⟩,
  ⟨(.extract (.loc 0) 0), none, none⟩,
  ⟨(.extract (.loc 1) 1), none, none⟩,
  ⟨(.mov (.loc 1)), (some 10), none⟩,
  ⟨(.mov (.loc 1)), (some 11), none⟩]
def c41_10 : List CO := [⟨(.mov (.var 11)), none, none⟩,
  ⟨(.bin .neq (.loc 0) (.k (.int .i64 0))), none, none⟩,
  ⟨(.mov (.loc 0)), none, none⟩,
  ⟨(.mov (.var 10)), none, (some ((.loc 0), false))⟩,
  ⟨(.bin .neq (.loc 0) (.k (.int .i64 0))), none, (some ((.loc 1), false))⟩,
  ⟨(.pick (.loc 2) (.k (.bool true)) (.loc 0)), (some 17), none⟩]
def c41_11 : List CO := [⟨(.mov (.var 10)), none, none⟩,
  ⟨(.mov (.var 11)), none, none⟩,
  ⟨(.mov (.loc 1)), (some 6), none⟩,
  ⟨(.mov (.loc 1)), (some 7), none⟩]
def c41_12 : List CO := [⟨(.bin .add (.var 15) (.k (.int .i64 1))), none, none⟩,
  ⟨(.mov (.loc 0)), (some 15), none⟩]
def c41_13 : CC := (.seq (.region [] [] c41_7) (.seq (.cond (.var 16) .skip (.exit 0)) (.seq (.block 1 (.seq (.region [] [] c41_8) (.seq (.region [] [] c41_9) (.seq (.region [] [] c41_10) (.cond (.var 17) (.seq (.region [] [] c41_11) .ret) .skip))))) (.region [] [] c41_12))))
def c41_14 : List CO := [⟨(.mov (.k (.int .i64 0))), (some 6), none⟩,
  ⟨(.mov (.k (.int .i64 0))), (some 7), none⟩]
def c41 : CFun := ⟨4, 18, (.seq (.region [] [] c41_0) (.seq (.region [] [] c41_1) (.seq (.seq (.region [] [] c41_2) (.cond (.var 12) (.seq (.region [] [] c41_3) .ret) .skip)) (.seq (.seq (.region [] [] c41_4) (.cond (.var 13) (.seq (.region [] [] c41_5) .ret) .skip)) (.seq (.seq (.region [] [] c41_6) (.block 0 (.loop [true, true, false, false, true, true, false, false, false, false, false, false, false, false, true, true, false, false] [] c41_13))) (.seq (.region [] [] c41_14) .ret)))))), [.var 6, .var 7]⟩
theorem ok41 : CodeOk Tryd.prog T 41 c41 := ⟨⟨Tryd.f41, Hints.of [] [] [(0, [true, true, false, false, true, true, false, false, false, false, false, false, false, false, true, true, false, false], [])], [0, 1, 2, 3, 6, 7, 8, 9, 10, 11, 12, 13, 24, 49, 55, 56, 57, 80], Tryd.func41, by kernel_rfl, by kernel_rfl⟩⟩

/-! spinney/term.Copy -/
def c42_0 : List CO := [⟨(.box (.var 0)), (some 1), none⟩,
  ⟨(.box (.k (.agg #[(.int .i64 0), (.string ⟨#[]⟩), (.int .i64 0), (.slice none 0 0)]))), (some 2), none⟩]
def c42_1 : List CO := [⟨(.load true 4 (.var 1)), none, none⟩,
  ⟨(.call false 56 [(.loc 0), (.fn 57)]), none, none⟩,
  ⟨(.store 4 (.var 2) (.loc 0)), none, none⟩]
def c42 : CFun := ⟨1, 3, (.seq (.region [] [] c42_0) (.seq (.region [] [] c42_1) .ret)), [.cell 2 true 4]⟩
theorem ok42 : CodeOk Tryd.prog T 42 c42 := ⟨⟨Tryd.f42, Hints.of [] [] [], [0, 1, 2], Tryd.func42, by kernel_rfl, by kernel_rfl⟩⟩

/-! slices.Clone[[]spinney/api.Bind,spinney/api.Bind] -/
def c43_0 : List CO := [⟨(.mov (.k (.slice none 0 0))), (some 1), none⟩]
def c43_1 : List CO := [⟨(.mov (.var 0)), none, none⟩,
  ⟨(.eqv .slice false (.loc 0) (.k (.slice none 0 0))), (some 2), none⟩]
def c43_2 : List CO := [⟨(.mov (.k (.slice none 0 0))), (some 1), none⟩]
def c43_3 : List CO := [⟨(.bslice 5 [(.int .i64 0), (.int .i64 0), (.string ⟨#[]⟩), (.int .i64 0), (.slice none 0 0)] 0 []), none, none⟩,
  ⟨(.mov (.var 0)), none, none⟩,
  ⟨(.append 5 64 (.loc 1) (.loc 0)), none, none⟩,
  ⟨(.mov (.loc 0)), (some 1), none⟩]
def c43 : CFun := ⟨1, 3, (.seq (.region [] [] c43_0) (.seq (.seq (.region [] [] c43_1) (.cond (.var 2) (.seq (.region [] [] c43_2) .ret) .skip)) (.seq (.region [] [] c43_3) .ret))), [.var 1]⟩
theorem ok43 : CodeOk Tryd.prog T 43 c43 := ⟨⟨Tryd.f43, Hints.of [] [] [], [0, 2, 4], Tryd.func43, by kernel_rfl, by kernel_rfl⟩⟩

/-! (*spinney/spinneyref09.Meter).resolve -/
def c44_0 : List CO := [⟨(.box (.var 2)), (some 4), none⟩,
  ⟨(.box (.k (.agg #[(.int .i64 0), (.string ⟨#[]⟩), (.int .i64 0), (.slice none 0 0)]))), (some 5), none⟩,
  ⟨(.mov (.k (.int .i64 0))), (some 6), none⟩]
def c44_1 : List CO := [⟨(.mov (.var 0)), none, none⟩,
  ⟨(.mov (.var 1)), none, none⟩,
  ⟨(.load true 4 (.var 4)), none, none⟩,
  ⟨(.call false 58 [(.loc 2), (.loc 1), (.loc 0)]), none, none⟩,
  ⟨(.mov (.loc 0)), none, none⟩,
  ⟨(.extract (.loc 0) 0), none, none⟩,
  ⟨(.extract (.loc 1) 1), none, none⟩,
  ⟨(.store 4 (.var 4) (.loc 1)), none, none⟩,
  ⟨(.mov (.loc 1)), (some 7), none⟩]
def c44_2 : List CO := [⟨(.mov (.var 7)), none, none⟩,
  ⟨(.bin .neq (.loc 0) (.k (.int .i64 0))), (some 12), none⟩]
def c44_3 : List CO := [⟨(.build [(.int .i64 0), (.string ⟨#[]⟩), (.int .i64 0), (.slice none 0 0)] []), none, none⟩,
  ⟨(.mov (.var 7)), none, none⟩,
  ⟨(.store 4 (.var 5) (.loc 1)), none, none⟩,
  ⟨(.mov (.loc 1)), (some 6), none⟩]
def c44_4 : List CO := [⟨(.mov (.var 3)), none, none⟩,
  ⟨(.bin .geq (.loc 0) (.k (.int .i64 60))), (some 13), none⟩]
def c44_5 : List CO := [⟨(.build [(.int .i64 0), (.string ⟨#[]⟩), (.int .i64 0), (.slice none 0 0)] []), none, none⟩,
  ⟨(.store 4 (.var 5) (.loc 0)), none, none⟩,
  ⟨(.mov (.k (.int .i64 3))), (some 6), none⟩]
def c44_6 : List CO := [⟨(.mov (.k (.slice none 0 0))), (some 8), none⟩]
def c44_7 : List CO := [⟨(.fa 3 (.var 4)), none, none⟩,
  ⟨(.load false 1 (.loc 0)), (some 14), none⟩,
  ⟨(.len .slice (.var 14)), (some 15), none⟩,
  ⟨(.mov (.k (.int .i64 0))), (some 16), none⟩]
def c44_8 : List CO := [⟨(.bin .lss (.var 16) (.var 15)), (some 17), none⟩]
def c44_9 : List CO := [⟨(.ia 4 (.var 14) (.var 16)), none, none⟩,
  ⟨(.load true 4 (.loc 0)), none, none⟩,
  ⟨(.box (.k (.agg #[(.int .i64 0), (.string ⟨#[]⟩), (.int .i64 0), (.slice none 0 0)]))), (some 9), none⟩,
  ⟨(.store 4 (.var 9) (.loc 1)), none, none⟩]
def c44_10 : List CO := [⟨(.mov (.var 0)), none, none⟩,
  ⟨(.mov (.var 1)), none, none⟩,
  ⟨(.load true 4 (.var 9)), none, none⟩,
  ⟨(.mov (.var 3)), none, none⟩,
  ⟨(.bin .add (.loc 0) (.k (.int .i64 1))), none, none⟩,
  ⟨(.call false 44 [(.loc 4), (.loc 3), (.loc 2), (.loc 0)]), none, none⟩,
  ⟨(.mov (.loc 0)), none, none⟩,
  ⟨(.extract (.loc 0) 0), none, none⟩,
  ⟨(.extract (.loc 1) 1), none, none⟩,
  ⟨(.box (.k (.agg #[(.int .i64 0), (.string ⟨#[]⟩), (.int .i64 0), (.slice none 0 0)]))), (some 10), none⟩,
  ⟨(.store 4 (.var 10) (.loc 2)), none, none⟩,
  ⟨(.mov (.loc 2)), (some 11), none⟩]
def c44_11 : List CO := [⟨(.mov (.var 11)), none, none⟩,
  ⟨(.bin .neq (.loc 0) (.k (.int .i64 0))), (some 18), none⟩]
def c44_12 : List CO := [⟨(.build [(.int .i64 0), (.string ⟨#[]⟩), (.int .i64 0), (.slice none 0 0)] []), none, none⟩,
  ⟨(.mov (.var 11)), none, none⟩,
  ⟨(.store 4 (.var 5) (.loc 1)), none, none⟩,
  ⟨(.mov (.loc 1)), (some 6), none⟩]
def c44_13 : List CO := [⟨(.mov (.var 8)), none, none⟩,
  ⟨(.load true 4 (.var 10)), none, none⟩,
  ⟨(.bslice 4 [(.int .i64 0), (.string ⟨#[]⟩), (.int .i64 0), (.slice none 0 0)] 1 [(0, (.loc 0))]), none, none⟩,
  ⟨(.append 4 56 (.loc 2) (.loc 0)), none, none⟩,
  ⟨(.mov (.loc 0)), (some 8), none⟩]
def c44_14 : List CO := [⟨(.bin .add (.var 16) (.k (.int .i64 1))), none, none⟩,
  ⟨(.mov (.loc 0)), (some 16), none⟩]
def c44_15 : CC := (.seq (.region [] [] c44_8) (.seq (.cond (.var 17) .skip (.exit 0)) (.seq (.block 1 (.seq (.region [] [] c44_9) (.seq (.region [] [] c44_10) (.seq (.seq (.region [] [] c44_11) (.cond (.var 18) (.seq (.region [] [] c44_12) .ret) .skip)) (.region [] [] c44_13))))) (.region [] [] c44_14))))
def c44_16 : List CO := [⟨(.mov (.var 8)), none, none⟩,
  ⟨(.fa 3 (.var 4)), none, none⟩,
  ⟨(.store 1 (.loc 0) (.loc 1)), none, none⟩]
def c44_17 : List CO := [⟨(.load true 4 (.var 4)), none, none⟩,
  ⟨(.store 4 (.var 5) (.loc 0)), none, none⟩,
  ⟨(.mov (.k (.int .i64 0))), (some 6), none⟩]
def c44 : CFun := ⟨4, 19, (.seq (.region [] [] c44_0) (.seq (.region [] [] c44_1) (.seq (.seq (.region [] [] c44_2) (.cond (.var 12) (.seq (.region [] [] c44_3) .ret) .skip)) (.seq (.seq (.region [] [] c44_4) (.cond (.var 13) (.seq (.region [] [] c44_5) .ret) .skip)) (.seq (.region [] [] c44_6) (.seq (.seq (.region [] [] c44_7) (.block 0 (.loop [true, true, false, true, true, true, false, false, true, false, false, false, false, false, true, true, true, false, false] [] c44_15))) (.seq (.region [] [] c44_16) (.seq (.region [] [] c44_17) .ret)))))))), [.cell 5 true 4, .var 6]⟩
theorem ok44 : CodeOk Tryd.prog T 44 c44 := ⟨⟨Tryd.f44, Hints.of [] [] [(0, [true, true, false, true, true, true, false, false, true, false, false, false, false, false, true, true, true, false, false], [])], [0, 1, 2, 3, 6, 8, 9, 10, 11, 13, 14, 15, 24, 28, 31, 32, 33, 34, 47], Tryd.func44, by kernel_rfl, by kernel_rfl⟩⟩

/-! spinney/subst.Follow -/
def c45_0 : List CO := [⟨(.box (.var 1)), (some 3), none⟩,
  ⟨(.box (.k (.agg #[(.int .i64 0), (.string ⟨#[]⟩), (.int .i64 0), (.slice none 0 0)]))), (some 4), none⟩,
  ⟨(.mov (.k (.int .i64 0))), (some 5), none⟩]
def c45_1 : List CO := [⟨(.fa 0 (.var 3)), none, none⟩,
  ⟨(.load false 1 (.loc 0)), none, none⟩,
  ⟨(.bin .eql (.loc 0) (.k (.int .i64 1))), (some 8), none⟩]
def c45_2 : List CO := [⟨(.mov (.var 0)), none, none⟩,
  ⟨(.fa 2 (.var 3)), none, none⟩,
  ⟨(.load false 1 (.loc 0)), none, none⟩,
  ⟨(.call true 59 [(.loc 2), (.loc 0)]), none, none⟩,
  ⟨(.mov (.loc 0)), none, none⟩,
  ⟨(.extract (.loc 0) 0), none, none⟩,
  ⟨(.extract (.loc 1) 1), none, none⟩,
  ⟨(.box (.k (.agg #[(.int .i64 0), (.string ⟨#[]⟩), (.int .i64 0), (.slice none 0 0)]))), (some 6), none⟩,
  ⟨(.store 4 (.var 6) (.loc 2)), none, none⟩,
  ⟨(.mov (.loc 2)), (some 7), none⟩]
def c45_3 : List CO := [⟨(.mov (.var 7)), none, none⟩,
  ⟨(.un .not (.loc 0)), (some 9), none⟩]
def c45_4 : List CO := [⟨(.load true 4 (.var 3)), none, none⟩,
  ⟨(.store 4 (.var 4) (.loc 0)), none, none⟩,
  ⟨(.mov (.k (.int .i64 0))), (some 5), none⟩]
def c45_5 : List CO := [⟨(.mov (.var 2)), none, none⟩,
  ⟨(.nilchk (.loc 0)), none, none⟩,
  ⟨(.load false 1 (.loc 0)), none, none⟩,
  ⟨(.bin .eql (.loc 0) (.k (.int .i64 0))), (some 10), none⟩]
def c45_6 : List CO := [⟨(.build [(.int .i64 0), (.string ⟨#[]⟩), (.int .i64 0), (.slice none 0 0)] []), none, none⟩,
  ⟨(.store 4 (.var 4) (.loc 0)), none, none⟩,
  ⟨(.mov (.k (.int .i64 140))), (some 5), none⟩]
def c45_7 : List CO := [⟨(.mov (.var 2)), none, none⟩,
  ⟨(.nilchk (.loc 0)), none, none⟩,
  ⟨(.load false 1 (.loc 0)), none, none⟩,
  ⟨(.bin .sub (.loc 0) (.k (.int .i64 1))), none, none⟩,
  ⟨(.nilchk (.loc 3)), none, none⟩,
  ⟨(.store 1 (.loc 0) (.loc 1)), none, none⟩]
def c45_8 : List CO := [⟨(.load true 4 (.var 6)), none, none⟩,
  ⟨(.store 4 (.var 3) (.loc 0)), none, none⟩]
def c45_9 : CC := (.seq (.seq (.region [] [] c45_1) (.cond (.var 8) .skip (.exit 0))) (.block 1 (.seq (.region [] [] c45_2) (.seq (.seq (.region [] [] c45_3) (.cond (.var 9) (.seq (.region [] [] c45_4) .ret) .skip)) (.seq (.seq (.region [] [] c45_5) (.cond (.var 10) (.seq (.region [] [] c45_6) .ret) .skip)) (.seq (.region [] [] c45_7) (.region [] [] c45_8)))))))
def c45_10 : List CO := [⟨(.load true 4 (.var 3)), none, none⟩,
  ⟨(.store 4 (.var 4) (.loc 0)), none, none⟩,
  ⟨(.mov (.k (.int .i64 0))), (some 5), none⟩]
def c45 : CFun := ⟨3, 11, (.seq (.region [] [] c45_0) (.seq (.block 0 (.loop [true, false, true, true, true, false, false, false, false, false, false] [] c45_9)) (.seq (.region [] [] c45_10) .ret))), [.cell 4 true 4, .var 5]⟩
theorem ok45 : CodeOk Tryd.prog T 45 c45 := ⟨⟨Tryd.f45, Hints.of [] [] [(0, [true, false, true, true, true, false, false, false, false, false, false], [])], [0, 1, 2, 4, 6, 7, 8, 9, 12, 21, 26], Tryd.func45, by kernel_rfl, by kernel_rfl⟩⟩

/-! spinney/term.Shift -/
def c46_0 : List CO := [⟨(.box (.var 0)), (some 2), none⟩,
  ⟨(.box (.var 1)), (some 3), none⟩,
  ⟨(.box (.k (.agg #[(.int .i64 0), (.string ⟨#[]⟩), (.int .i64 0), (.slice none 0 0)]))), (some 4), none⟩]
def c46_1 : List CO := [⟨(.load true 4 (.var 2)), none, none⟩,
  ⟨(.mkfn (.func 60) [] [(.var 3)]), none, none⟩,
  ⟨(.call false 56 [(.loc 1), (.loc 0)]), none, none⟩,
  ⟨(.store 4 (.var 4) (.loc 0)), none, none⟩]
def c46 : CFun := ⟨2, 5, (.seq (.region [] [] c46_0) (.seq (.region [] [] c46_1) .ret)), [.cell 4 true 4]⟩
theorem ok46 : CodeOk Tryd.prog T 46 c46 := ⟨⟨Tryd.f46, Hints.of [] [] [], [0, 1, 2, 3, 4], Tryd.func46, by kernel_rfl, by kernel_rfl⟩⟩

/-! spinney/spinneyref02.Check -/
def c47_0 : List CO := [⟨(.mov (.k (.bool false))), (some 1), none⟩]
def c47_1 : List CO := [⟨(.mov (.var 0)), none, none⟩,
  ⟨(.len .string (.loc 0)), none, none⟩,
  ⟨(.bin .leq (.loc 0) (.k (.int .i64 255))), none, none⟩,
  ⟨(.mov (.loc 0)), none, none⟩,
  ⟨(.mov (.var 0)), none, (some ((.loc 0), true))⟩,
  ⟨(.call true 61 [(.loc 0)]), none, (some ((.loc 1), true))⟩,
  ⟨(.pick (.loc 2) (.loc 0) (.k (.bool false))), none, none⟩,
  ⟨(.mov (.loc 0)), (some 1), none⟩]
def c47 : CFun := ⟨1, 2, (.seq (.region [] [] c47_0) (.seq (.region [] [] c47_1) .ret)), [.var 1]⟩
theorem ok47 : CodeOk Tryd.prog T 47 c47 := ⟨⟨Tryd.f47, Hints.of [] [] [], [0, 2], Tryd.func47, by kernel_rfl, by kernel_rfl⟩⟩

/-! spinney/subst.Meet -/
def c48_0 : List CO := [⟨(.box (.var 1)), (some 3), none⟩,
  ⟨(.box (.k (.agg #[(.int .i64 0), (.string ⟨#[]⟩), (.int .i64 0), (.slice none 0 0)]))), (some 4), none⟩,
  ⟨(.mov (.k (.int .i64 0))), (some 5), none⟩]
def c48_1 : List CO := [⟨(.mov (.var 2)), none, none⟩,
  ⟨(.nilchk (.loc 0)), none, none⟩,
  ⟨(.load false 1 (.loc 0)), none, none⟩,
  ⟨(.bin .eql (.loc 0) (.k (.int .i64 0))), (some 6), none⟩]
def c48_2 : List CO := [⟨(.build [(.int .i64 0), (.string ⟨#[]⟩), (.int .i64 0), (.slice none 0 0)] []), none, none⟩,
  ⟨(.store 4 (.var 4) (.loc 0)), none, none⟩,
  ⟨(.mov (.k (.int .i64 140))), (some 5), none⟩]
def c48_3 : List CO := [⟨(.mov (.var 2)), none, none⟩,
  ⟨(.nilchk (.loc 0)), none, none⟩,
  ⟨(.load false 1 (.loc 0)), none, none⟩,
  ⟨(.bin .sub (.loc 0) (.k (.int .i64 1))), none, none⟩,
  ⟨(.nilchk (.loc 3)), none, none⟩,
  ⟨(.store 1 (.loc 0) (.loc 1)), none, none⟩]
def c48_4 : List CO := [⟨(.mov (.var 0)), none, none⟩,
  ⟨(.load true 4 (.var 3)), none, none⟩,
  ⟨(.mov (.var 2)), none, none⟩,
  ⟨(.call false 45 [(.loc 2), (.loc 1), (.loc 0)]), none, none⟩,
  ⟨(.extract (.loc 0) 0), none, none⟩,
  ⟨(.extract (.loc 1) 1), none, none⟩,
  ⟨(.store 4 (.var 4) (.loc 1)), none, none⟩,
  ⟨(.mov (.loc 1)), (some 5), none⟩]
def c48 : CFun := ⟨3, 7, (.seq (.region [] [] c48_0) (.seq (.seq (.region [] [] c48_1) (.cond (.var 6) (.seq (.region [] [] c48_2) .ret) .skip)) (.seq (.region [] [] c48_3) (.seq (.region [] [] c48_4) .ret)))), [.cell 4 true 4, .var 5]⟩
theorem ok48 : CodeOk Tryd.prog T 48 c48 := ⟨⟨Tryd.f48, Hints.of [] [] [], [0, 1, 2, 4, 6, 7, 11], Tryd.func48, by kernel_rfl, by kernel_rfl⟩⟩

/-! cmp.isNaN[int] -/
def c49_0 : List CO := [⟨(.mov (.k (.bool false))), (some 1), none⟩]
def c49_1 : List CO := [⟨(.mov (.var 0)), none, none⟩,
  ⟨(.mov (.var 0)), none, none⟩,
  ⟨(.bin .neq (.loc 1) (.loc 0)), none, none⟩,
  ⟨(.mov (.loc 0)), (some 1), none⟩]
def c49 : CFun := ⟨1, 2, (.seq (.region [] [] c49_0) (.seq (.region [] [] c49_1) .ret)), [.var 1]⟩
theorem ok49 : CodeOk Tryd.prog T 49 c49 := ⟨⟨Tryd.f49, Hints.of [] [] [], [0, 2], Tryd.func49, by kernel_rfl, by kernel_rfl⟩⟩

/-! cmp.Or[int] -/
def c50_0 : List CO := [⟨(.mov (.k (.int .i64 0))), (some 1), none⟩]
def c50_1 : List CO := [⟨(.mov (.k (.int .i64 0))), (some 2), none⟩]
def c50_2 : List CO := [⟨(.mov (.var 0)), (some 4), none⟩,
  ⟨(.len .slice (.var 4)), (some 5), none⟩,
  ⟨(.mov (.k (.int .i64 0))), (some 6), none⟩]
def c50_3 : List CO := [⟨(.bin .lss (.var 6) (.var 5)), (some 7), none⟩]
def c50_4 : List CO := [⟨(.ia 1 (.var 4) (.var 6)), none, none⟩,
  ⟨(.load false 1 (.loc 0)), none, none⟩,
  ⟨(.mov (.loc 0)), (some 3), none⟩]
def c50_5 : List CO := [⟨(.mov (.var 3)), none, none⟩,
  ⟨(.mov (.var 2)), none, none⟩,
  ⟨(.bin .neq (.loc 1) (.loc 0)), (some 8), none⟩]
def c50_6 : List CO := [⟨(.mov (.var 3)), none, none⟩,
  ⟨(.mov (.loc 0)), (some 1), none⟩]
def c50_7 : List CO := [⟨(.bin .add (.var 6) (.k (.int .i64 1))), none, none⟩,
  ⟨(.mov (.loc 0)), (some 6), none⟩]
def c50_8 : CC := (.seq (.region [] [] c50_3) (.seq (.cond (.var 7) .skip (.exit 0)) (.seq (.block 1 (.seq (.region [] [] c50_4) (.seq (.region [] [] c50_5) (.cond (.var 8) (.seq (.region [] [] c50_6) .ret) .skip)))) (.region [] [] c50_7))))
def c50_9 : List CO := [⟨(.mov (.var 2)), none, none⟩,
  ⟨(.mov (.loc 0)), (some 1), none⟩]
def c50 : CFun := ⟨1, 9, (.seq (.region [] [] c50_0) (.seq (.region [] [] c50_1) (.seq (.seq (.region [] [] c50_2) (.block 0 (.loop [false, false, true, false, true, true, true, false, false] [] c50_8))) (.seq (.region [] [] c50_9) .ret)))), [.var 1]⟩
theorem ok50 : CodeOk Tryd.prog T 50 c50 := ⟨⟨Tryd.f50, Hints.of [] [] [(0, [false, false, true, false, true, true, true, false, false], [])], [0, 2, 3, 5, 6, 7, 8, 9, 14], Tryd.func50, by kernel_rfl, by kernel_rfl⟩⟩

/-! spinney/term.order -/
def c51_0 : List CO := [⟨(.mov (.k (.int .i64 0))), (some 1), none⟩]
def c51_1 : List CO := [⟨(.mov (.var 0)), (some 2), none⟩]
def c51_2 : List CO := [⟨(.bin .eql (.var 2) (.k (.int .i64 1))), none, none⟩,
  ⟨(.mov (.loc 0)), (some 3), none⟩]
def c51_3 : List CO := [⟨(.mov (.k (.int .i64 (-2)))), (some 1), none⟩]
def c51_4 : List CO := [⟨(.bin .eql (.var 2) (.k (.int .i64 3))), none, none⟩,
  ⟨(.mov (.loc 0)), (some 4), none⟩]
def c51_5 : List CO := [⟨(.mov (.k (.int .i64 (-1)))), (some 1), none⟩]
def c51_6 : List CO := [⟨(.bin .eql (.var 2) (.k (.int .i64 2))), none, none⟩,
  ⟨(.mov (.loc 0)), (some 5), none⟩]
def c51_7 : List CO := [⟨(.mov (.k (.int .i64 0))), (some 1), none⟩]
def c51_8 : List CO := [⟨(.mov (.k (.int .i64 1))), (some 1), none⟩]
def c51 : CFun := ⟨1, 6, (.seq (.region [] [] c51_0) (.seq (.seq (.region [] [] c51_1) (.block 0 (.seq (.region [] [] c51_2) (.cond (.var 3) (.seq (.region [] [] c51_3) .ret) (.seq (.region [] [] c51_4) (.cond (.var 4) (.seq (.region [] [] c51_5) .ret) (.seq (.region [] [] c51_6) (.cond (.var 5) (.seq (.region [] [] c51_7) .ret) .skip)))))))) (.seq (.region [] [] c51_8) .ret))), [.var 1]⟩
theorem ok51 : CodeOk Tryd.prog T 51 c51 := ⟨⟨Tryd.f51, Hints.of [] [] [], [0, 2, 3, 4, 6, 8], Tryd.func51, by kernel_rfl, by kernel_rfl⟩⟩

/-! cmp.Compare[int64] -/
def c53_0 : List CO := [⟨(.mov (.k (.int .i64 0))), (some 2), none⟩]
def c53_1 : List CO := [⟨(.mov (.var 0)), none, none⟩,
  ⟨(.call true 63 [(.loc 0)]), none, none⟩,
  ⟨(.mov (.loc 0)), (some 3), none⟩]
def c53_2 : List CO := [⟨(.mov (.var 1)), none, none⟩,
  ⟨(.call true 63 [(.loc 0)]), none, none⟩,
  ⟨(.mov (.loc 0)), (some 4), none⟩]
def c53_3 : List CO := [⟨(.mov (.var 3)), (some 5), none⟩]
def c53_4 : List CO := [⟨(.mov (.var 4)), (some 6), none⟩]
def c53_5 : List CO := [⟨(.mov (.k (.int .i64 0))), (some 2), none⟩]
def c53_6 : List CO := [⟨(.mov (.k (.int .i64 (-1)))), (some 2), none⟩]
def c53_7 : List CO := [⟨(.mov (.var 4)), (some 7), none⟩]
def c53_8 : List CO := [⟨(.mov (.k (.int .i64 1))), (some 2), none⟩]
def c53_9 : List CO := [⟨(.mov (.var 0)), none, none⟩,
  ⟨(.mov (.var 1)), none, none⟩,
  ⟨(.bin .lss (.loc 1) (.loc 0)), (some 8), none⟩]
def c53_10 : List CO := [⟨(.mov (.k (.int .i64 (-1)))), (some 2), none⟩]
def c53_11 : List CO := [⟨(.mov (.var 0)), none, none⟩,
  ⟨(.mov (.var 1)), none, none⟩,
  ⟨(.bin .gtr (.loc 1) (.loc 0)), (some 9), none⟩]
def c53_12 : List CO := [⟨(.mov (.k (.int .i64 1))), (some 2), none⟩]
def c53_13 : List CO := [⟨(.mov (.k (.int .i64 0))), (some 2), none⟩]
def c53 : CFun := ⟨2, 10, (.seq (.region [] [] c53_0) (.seq (.region [] [] c53_1) (.seq (.region [] [] c53_2) (.seq (.seq (.region [] [] c53_3) (.cond (.var 5) (.seq (.seq (.region [] [] c53_4) (.cond (.var 6) (.seq (.region [] [] c53_5) .ret) .skip)) (.seq (.region [] [] c53_6) .ret)) .skip)) (.seq (.seq (.region [] [] c53_7) (.cond (.var 7) (.seq (.region [] [] c53_8) .ret) .skip)) (.seq (.seq (.region [] [] c53_9) (.cond (.var 8) (.seq (.region [] [] c53_10) .ret) .skip)) (.seq (.seq (.region [] [] c53_11) (.cond (.var 9) (.seq (.region [] [] c53_12) .ret) .skip)) (.seq (.region [] [] c53_13) .ret)))))))), [.var 2]⟩
theorem ok53 : CodeOk Tryd.prog T 53 c53 := ⟨⟨Tryd.f53, Hints.of [] [] [], [0, 1, 4, 5, 6, 11, 12, 13, 16, 19], Tryd.func53, by kernel_rfl, by kernel_rfl⟩⟩

/-! spinney/spinneyref10.both -/
def c54_0 : List CO := [⟨(.box (.var 2)), (some 4), none⟩,
  ⟨(.box (.var 3)), (some 5), none⟩,
  ⟨(.box (.k (.agg #[(.int .i64 0), (.string ⟨#[]⟩), (.int .i64 0), (.slice none 0 0)]))), (some 6), none⟩,
  ⟨(.box (.k (.agg #[(.int .i64 0), (.string ⟨#[]⟩), (.int .i64 0), (.slice none 0 0)]))), (some 7), none⟩,
  ⟨(.mov (.k (.int .i64 0))), (some 8), none⟩]
def c54_1 : List CO := [⟨(.mov (.var 0)), none, none⟩,
  ⟨(.mov (.var 1)), none, none⟩,
  ⟨(.load true 4 (.var 4)), none, none⟩,
  ⟨(.call false 58 [(.loc 2), (.loc 1), (.loc 0)]), none, none⟩,
  ⟨(.mov (.loc 0)), none, none⟩,
  ⟨(.extract (.loc 0) 0), none, none⟩,
  ⟨(.extract (.loc 1) 1), none, none⟩,
  ⟨(.store 4 (.var 4) (.loc 1)), none, none⟩,
  ⟨(.mov (.loc 1)), (some 9), none⟩]
def c54_2 : List CO := [⟨(.mov (.var 9)), none, none⟩,
  ⟨(.bin .neq (.loc 0) (.k (.int .i64 0))), (some 10), none⟩]
def c54_3 : List CO := [⟨(.load true 4 (.var 4)), none, none⟩,
  ⟨(.load true 4 (.var 5)), none, none⟩,
  ⟨(.mov (.var 9)), none, none⟩,
  ⟨(.store 4 (.var 6) (.loc 2)), none, none⟩,
  ⟨(.store 4 (.var 7) (.loc 2)), none, none⟩,
  ⟨(.mov (.loc 2)), (some 8), none⟩]
def c54_4 : List CO := [⟨(.mov (.var 0)), none, none⟩,
  ⟨(.mov (.var 1)), none, none⟩,
  ⟨(.load true 4 (.var 5)), none, none⟩,
  ⟨(.call false 58 [(.loc 2), (.loc 1), (.loc 0)]), none, none⟩,
  ⟨(.mov (.loc 0)), none, none⟩,
  ⟨(.extract (.loc 0) 0), none, none⟩,
  ⟨(.extract (.loc 1) 1), none, none⟩,
  ⟨(.store 4 (.var 5) (.loc 1)), none, none⟩,
  ⟨(.mov (.loc 1)), (some 9), none⟩]
def c54_5 : List CO := [⟨(.load true 4 (.var 4)), none, none⟩,
  ⟨(.load true 4 (.var 5)), none, none⟩,
  ⟨(.mov (.var 9)), none, none⟩,
  ⟨(.store 4 (.var 6) (.loc 2)), none, none⟩,
  ⟨(.store 4 (.var 7) (.loc 2)), none, none⟩,
  ⟨(.mov (.loc 2)), (some 8), none⟩]
def c54 : CFun := ⟨4, 11, (.seq (.region [] [] c54_0) (.seq (.region [] [] c54_1) (.seq (.seq (.region [] [] c54_2) (.cond (.var 10) (.seq (.region [] [((some 6), 5)] c54_3) .ret) .skip)) (.seq (.region [] [] c54_4) (.seq (.region [] [((some 6), 5)] c54_5) .ret))))), [.cell 6 true 4, .cell 7 true 4, .var 8]⟩
theorem ok54 : CodeOk Tryd.prog T 54 c54 := ⟨⟨Tryd.f54, Hints.of [] [(3, [((some 6), 5)]), (5, [((some 6), 5)])] [], [0, 1, 2, 3, 6, 7, 8, 9, 10, 11, 20], Tryd.func54, by kernel_rfl, by kernel_rfl⟩⟩

/-! spinney/spinneyref03.Compare -/
def c55_0 : List CO := [⟨(.box (.var 0)), (some 2), none⟩,
  ⟨(.box (.var 1)), (some 3), none⟩,
  ⟨(.mov (.k (.int .i64 0))), (some 4), none⟩]
def c55_1 : List CO := [⟨(.fa 0 (.var 2)), none, none⟩,
  ⟨(.load false 1 (.loc 0)), none, none⟩,
  ⟨(.fa 0 (.var 3)), none, none⟩,
  ⟨(.load false 1 (.loc 0)), none, none⟩,
  ⟨(.bin .neq (.loc 2) (.loc 0)), (some 8), none⟩]
def c55_2 : List CO := [⟨(.fa 0 (.var 2)), none, none⟩,
  ⟨(.load false 1 (.loc 0)), none, none⟩,
  ⟨(.call true 65 [(.loc 0)]), none, none⟩,
  ⟨(.fa 0 (.var 3)), none, none⟩,
  ⟨(.load false 1 (.loc 0)), none, none⟩,
  ⟨(.call true 65 [(.loc 0)]), none, none⟩,
  ⟨(.call true 64 [(.loc 3), (.loc 0)]), none, none⟩,
  ⟨(.mov (.loc 0)), (some 4), none⟩]
def c55_3 : List CO := [⟨(.fa 0 (.var 2)), none, none⟩,
  ⟨(.load false 1 (.loc 0)), (some 9), none⟩]
def c55_4 : List CO := [⟨(.bin .eql (.var 9) (.k (.int .i64 1))), none, none⟩,
  ⟨(.mov (.loc 0)), (some 10), none⟩]
def c55_5 : List CO := [⟨(.bin .eql (.var 9) (.k (.int .i64 3))), none, none⟩,
  ⟨(.mov (.loc 0)), (some 10), none⟩]
def c55_6 : List CO := [⟨(.fa 2 (.var 2)), none, none⟩,
  ⟨(.load false 1 (.loc 0)), none, none⟩,
  ⟨(.fa 2 (.var 3)), none, none⟩,
  ⟨(.load false 1 (.loc 0)), none, none⟩,
  ⟨(.call true 64 [(.loc 2), (.loc 0)]), none, none⟩,
  ⟨(.mov (.loc 0)), (some 4), none⟩]
def c55_7 : List CO := [⟨(.bin .eql (.var 9) (.k (.int .i64 2))), none, none⟩,
  ⟨(.mov (.loc 0)), (some 11), none⟩]
def c55_8 : List CO := [⟨(.fa 1 (.var 2)), none, none⟩,
  ⟨(.load false 1 (.loc 0)), none, none⟩,
  ⟨(.fa 1 (.var 3)), none, none⟩,
  ⟨(.load false 1 (.loc 0)), none, none⟩,
  ⟨(.call true 66 [(.loc 2), (.loc 0)]), none, none⟩,
  ⟨(.mov (.loc 0)), (some 4), none⟩]
def c55_9 : List CO := [⟨(.fa 3 (.var 2)), none, none⟩,
  ⟨(.load false 1 (.loc 0)), none, none⟩,
  ⟨(.len .slice (.loc 0)), none, none⟩,
  ⟨(.fa 3 (.var 3)), none, none⟩,
  ⟨(.load false 1 (.loc 0)), none, none⟩,
  ⟨(.len .slice (.loc 0)), none, none⟩,
  ⟨(.bin .neq (.loc 3) (.loc 0)), (some 12), none⟩]
def c55_10 : List CO := [⟨(.fa 3 (.var 2)), none, none⟩,
  ⟨(.load false 1 (.loc 0)), none, none⟩,
  ⟨(.len .slice (.loc 0)), none, none⟩,
  ⟨(.fa 3 (.var 3)), none, none⟩,
  ⟨(.load false 1 (.loc 0)), none, none⟩,
  ⟨(.len .slice (.loc 0)), none, none⟩,
  ⟨(.call true 64 [(.loc 3), (.loc 0)]), none, none⟩,
  ⟨(.mov (.loc 0)), (some 4), none⟩]
def c55_11 : List CO := [⟨(.fa 1 (.var 2)), none, none⟩,
  ⟨(.load false 1 (.loc 0)), none, none⟩,
  ⟨(.fa 1 (.var 3)), none, none⟩,
  ⟨(.load false 1 (.loc 0)), none, none⟩,
  ⟨(.call true 66 [(.loc 2), (.loc 0)]), none, none⟩,
  ⟨(.mov (.loc 0)), (some 5), none⟩]
def c55_12 : List CO := [⟨(.mov (.var 5)), none, none⟩,
  ⟨(.bin .neq (.loc 0) (.k (.int .i64 0))), (some 13), none⟩]
def c55_13 : List CO := [⟨(.mov (.var 5)), none, none⟩,
  ⟨(.mov (.loc 0)), (some 4), none⟩]
def c55_14 : List CO := [⟨(.fa 3 (.var 2)), none, none⟩,
  ⟨(.load false 1 (.loc 0)), none, none⟩,
  ⟨(.len .slice (.loc 0)), (some 14), none⟩,
  ⟨(.mov (.k (.int .i64 0))), (some 15), none⟩]
def c55_15 : List CO := [⟨(.bin .lss (.var 15) (.var 14)), (some 16), none⟩]
def c55_16 : List CO := [⟨(.mov (.var 15)), none, none⟩,
  ⟨(.mov (.loc 0)), (some 6), none⟩]
def c55_17 : List CO := [⟨(.fa 3 (.var 2)), none, none⟩,
  ⟨(.load false 1 (.loc 0)), none, none⟩,
  ⟨(.mov (.var 6)), none, none⟩,
  ⟨(.ia 4 (.loc 1) (.loc 0)), none, none⟩,
  ⟨(.load true 4 (.loc 0)), none, none⟩,
  ⟨(.fa 3 (.var 3)), none, none⟩,
  ⟨(.load false 1 (.loc 0)), none, none⟩,
  ⟨(.mov (.var 6)), none, none⟩,
  ⟨(.ia 4 (.loc 1) (.loc 0)), none, none⟩,
  ⟨(.load true 4 (.loc 0)), none, none⟩,
  ⟨(.call true 55 [(.loc 5), (.loc 0)]), none, none⟩,
  ⟨(.mov (.loc 0)), (some 7), none⟩]
def c55_18 : List CO := [⟨(.mov (.var 7)), none, none⟩,
  ⟨(.bin .neq (.loc 0) (.k (.int .i64 0))), (some 17), none⟩]
def c55_19 : List CO := [⟨(.mov (.var 7)), none, none⟩,
  ⟨(.mov (.loc 0)), (some 4), none⟩]
def c55_20 : List CO := [⟨(.bin .add (.var 15) (.k (.int .i64 1))), none, none⟩,
  ⟨(.mov (.loc 0)), (some 15), none⟩]
def c55_21 : CC := (.seq (.region [] [] c55_15) (.seq (.cond (.var 16) .skip (.exit 1)) (.seq (.block 2 (.seq (.region [] [] c55_16) (.seq (.region [] [] c55_17) (.seq (.region [] [] c55_18) (.cond (.var 17) (.seq (.region [] [] c55_19) .ret) .skip))))) (.region [] [] c55_20))))
def c55_22 : List CO := [⟨(.mov (.k (.int .i64 0))), (some 4), none⟩]
def c55 : CFun := ⟨2, 18, (.seq (.region [] [] c55_0) (.seq (.seq (.region [] [] c55_1) (.cond (.var 8) (.seq (.region [] [] c55_2) .ret) .skip)) (.seq (.seq (.region [] [] c55_3) (.block 0 (.seq (.seq (.region [] [] c55_4) (.cond (.var 10) .skip (.region [] [] c55_5))) (.cond (.var 10) (.seq (.region [] [] c55_6) .ret) (.seq (.region [] [] c55_7) (.cond (.var 11) (.seq (.region [] [] c55_8) .ret) .skip)))))) (.seq (.seq (.region [] [] c55_9) (.cond (.var 12) (.seq (.region [] [] c55_10) .ret) .skip)) (.seq (.seq (.region [] [] c55_11) (.seq (.region [] [] c55_12) (.cond (.var 13) (.seq (.region [] [] c55_13) .ret) .skip))) (.seq (.seq (.region [] [] c55_14) (.block 1 (.loop [false, false, true, true, false, false, false, false, false, false, false, false, false, false, true, true, false, false] [] c55_21))) (.seq (.region [] [] c55_22) .ret))))))), [.var 4]⟩
theorem ok55 : CodeOk Tryd.prog T 55 c55 := ⟨⟨Tryd.f55, Hints.of [] [] [(1, [false, false, true, true, false, false, false, false, false, false, false, false, false, false, true, true, false, false], [])], [0, 1, 2, 3, 4, 5, 6, 7, 12, 21, 22, 30, 43, 57, 61, 62, 63, 77], Tryd.func55, by kernel_rfl, by kernel_rfl⟩⟩

/-! spinney/term.each -/
def c56_0 : List CO := [⟨(.box (.var 0)), (some 2), none⟩,
  ⟨(.box (.k (.agg #[(.int .i64 0), (.string ⟨#[]⟩), (.int .i64 0), (.slice none 0 0)]))), (some 3), none⟩]
def c56_1 : List CO := [⟨(.fa 0 (.var 2)), none, none⟩,
  ⟨(.load false 1 (.loc 0)), none, none⟩,
  ⟨(.bin .eql (.loc 0) (.k (.int .i64 1))), (some 7), none⟩]
def c56_2 : List CO := [⟨(.mov (.var 1)), none, none⟩,
  ⟨(.fa 2 (.var 2)), none, none⟩,
  ⟨(.load false 1 (.loc 0)), none, none⟩,
  ⟨(.callv (.loc 2) [(.loc 0)]), none, none⟩,
  ⟨(.fa 2 (.var 2)), none, none⟩,
  ⟨(.store 1 (.loc 0) (.loc 1)), none, none⟩]
def c56_3 : List CO := [⟨(.fa 3 (.var 2)), none, none⟩,
  ⟨(.load false 1 (.loc 0)), none, none⟩,
  ⟨(.len .slice (.loc 0)), none, none⟩,
  ⟨(.bin .eql (.loc 0) (.k (.int .i64 0))), (some 8), none⟩]
def c56_4 : List CO := [⟨(.fa 3 (.var 2)), none, none⟩,
  ⟨(.store 1 (.loc 0) (.k (.slice none 0 0))), none, none⟩]
def c56_5 : List CO := [⟨(.load true 4 (.var 2)), none, none⟩,
  ⟨(.store 4 (.var 3) (.loc 0)), none, none⟩]
def c56_6 : List CO := [⟨(.fa 3 (.var 2)), none, none⟩,
  ⟨(.load false 1 (.loc 0)), none, none⟩,
  ⟨(.len .slice (.loc 0)), none, none⟩,
  ⟨(.mkslice 4 56 [(.int .i64 0), (.string ⟨#[]⟩), (.int .i64 0), (.slice none 0 0)] (.loc 0) (.loc 0)), none, none⟩,
  ⟨(.mov (.loc 0)), (some 4), none⟩]
def c56_7 : List CO := [⟨(.fa 3 (.var 2)), none, none⟩,
  ⟨(.load false 1 (.loc 0)), (some 9), none⟩,
  ⟨(.len .slice (.var 9)), (some 10), none⟩,
  ⟨(.mov (.k (.int .i64 0))), (some 11), none⟩]
def c56_8 : List CO := [⟨(.bin .lss (.var 11) (.var 10)), (some 12), none⟩]
def c56_9 : List CO := [⟨(.mov (.var 11)), none, none⟩,
  ⟨(.ia 4 (.var 9) (.var 11)), none, none⟩,
  ⟨(.load true 4 (.loc 0)), none, none⟩,
  ⟨(.box (.k (.agg #[(.int .i64 0), (.string ⟨#[]⟩), (.int .i64 0), (.slice none 0 0)]))), (some 6), none⟩,
  ⟨(.mov (.loc 3)), (some 5), none⟩,
  ⟨(.store 4 (.var 6) (.loc 2)), none, none⟩]
def c56_10 : List CO := [⟨(.mov (.var 4)), none, none⟩,
  ⟨(.mov (.var 5)), none, none⟩,
  ⟨(.load true 4 (.var 6)), none, none⟩,
  ⟨(.mov (.var 1)), none, none⟩,
  ⟨(.call false 56 [(.loc 1), (.loc 0)]), none, none⟩,
  ⟨(.ia 4 (.loc 4) (.loc 3)), none, none⟩,
  ⟨(.store 4 (.loc 0) (.loc 1)), none, none⟩]
def c56_11 : List CO := [⟨(.bin .add (.var 11) (.k (.int .i64 1))), none, none⟩,
  ⟨(.mov (.loc 0)), (some 11), none⟩]
def c56_12 : CC := (.seq (.region [] [] c56_8) (.seq (.cond (.var 12) .skip (.exit 0)) (.seq (.block 1 (.seq (.region [] [] c56_9) (.region [] [] c56_10))) (.region [] [] c56_11))))
def c56_13 : List CO := [⟨(.mov (.var 4)), none, none⟩,
  ⟨(.fa 3 (.var 2)), none, none⟩,
  ⟨(.store 1 (.loc 0) (.loc 1)), none, none⟩]
def c56_14 : List CO := [⟨(.load true 4 (.var 2)), none, none⟩,
  ⟨(.store 4 (.var 3) (.loc 0)), none, none⟩]
def c56 : CFun := ⟨2, 13, (.seq (.region [] [] c56_0) (.seq (.seq (.region [] [] c56_1) (.cond (.var 7) (.region [] [] c56_2) .skip)) (.seq (.seq (.region [] [] c56_3) (.cond (.var 8) (.seq (.region [] [] c56_4) (.seq (.region [] [] c56_5) .ret)) .skip)) (.seq (.region [] [] c56_6) (.seq (.seq (.region [] [] c56_7) (.block 0 (.loop [false, true, true, true, true, false, false, false, false, true, true, true, false] [] c56_12))) (.seq (.region [] [] c56_13) (.seq (.region [] [] c56_14) .ret))))))), [.cell 3 true 4]⟩
theorem ok56 : CodeOk Tryd.prog T 56 c56 := ⟨⟨Tryd.f56, Hints.of [] [] [(0, [false, true, true, true, true, false, false, false, false, true, true, true, false], [])], [0, 1, 2, 4, 5, 6, 7, 10, 19, 27, 28, 29, 30], Tryd.func56, by kernel_rfl, by kernel_rfl⟩⟩

/-! spinney/term.Copy$1 -/
def c57_0 : List CO := [⟨(.mov (.k (.int .i64 0))), (some 1), none⟩]
def c57_1 : List CO := [⟨(.mov (.var 0)), none, none⟩,
  ⟨(.mov (.loc 0)), (some 1), none⟩]
def c57 : CFun := ⟨1, 2, (.seq (.region [] [] c57_0) (.seq (.region [] [] c57_1) .ret)), [.var 1]⟩
theorem ok57 : CodeOk Tryd.prog T 57 c57 := ⟨⟨Tryd.f57, Hints.of [] [] [], [0, 2], Tryd.func57, by kernel_rfl, by kernel_rfl⟩⟩

/-! (*spinney/spinneyref09.Meter).Meet -/
def c58_0 : List CO := [⟨(.box (.var 2)), (some 3), none⟩,
  ⟨(.box (.k (.agg #[(.int .i64 0), (.string ⟨#[]⟩), (.int .i64 0), (.slice none 0 0)]))), (some 4), none⟩,
  ⟨(.mov (.k (.int .i64 0))), (some 5), none⟩]
def c58_1 : List CO := [⟨(.mov (.var 0)), none, none⟩,
  ⟨(.call false 67 [(.loc 0)]), none, none⟩,
  ⟨(.un .not (.loc 0)), (some 6), none⟩]
def c58_2 : List CO := [⟨(.build [(.int .i64 0), (.string ⟨#[]⟩), (.int .i64 0), (.slice none 0 0)] []), none, none⟩,
  ⟨(.store 4 (.var 4) (.loc 0)), none, none⟩,
  ⟨(.mov (.k (.int .i64 140))), (some 5), none⟩]
def c58_3 : List CO := [⟨(.mov (.var 0)), none, none⟩,
  ⟨(.mov (.var 1)), none, none⟩,
  ⟨(.load true 4 (.var 3)), none, none⟩,
  ⟨(.call false 68 [(.loc 2), (.loc 1), (.loc 0)]), none, none⟩,
  ⟨(.extract (.loc 0) 0), none, none⟩,
  ⟨(.extract (.loc 1) 1), none, none⟩,
  ⟨(.store 4 (.var 4) (.loc 1)), none, none⟩,
  ⟨(.mov (.loc 1)), (some 5), none⟩]
def c58 : CFun := ⟨3, 7, (.seq (.region [] [] c58_0) (.seq (.seq (.region [] [] c58_1) (.cond (.var 6) (.seq (.region [] [] c58_2) .ret) .skip)) (.seq (.region [] [] c58_3) .ret))), [.cell 4 true 4, .var 5]⟩
theorem ok58 : CodeOk Tryd.prog T 58 c58 := ⟨⟨Tryd.f58, Hints.of [] [] [], [0, 1, 2, 5, 6, 7, 10], Tryd.func58, by kernel_rfl, by kernel_rfl⟩⟩

/-! spinney/term.Shift$1 -/
def c60_0 : List CO := [⟨(.mov (.k (.int .i64 0))), (some 2), none⟩]
def c60_1 : List CO := [⟨(.mov (.var 0)), none, none⟩,
  ⟨(.load false 1 (.var 1)), none, none⟩,
  ⟨(.bin .add (.loc 1) (.loc 0)), none, none⟩,
  ⟨(.mov (.loc 0)), (some 2), none⟩]
def c60 : CFun := ⟨2, 3, (.seq (.region [] [] c60_0) (.seq (.region [] [] c60_1) .ret)), [.var 2]⟩
theorem ok60 : CodeOk Tryd.prog T 60 c60 := ⟨⟨Tryd.f60, Hints.of [] [] [], [0, 1, 3], Tryd.func60, by kernel_rfl, by kernel_rfl⟩⟩

/-! cmp.isNaN[int64] -/
def c63_0 : List CO := [⟨(.mov (.k (.bool false))), (some 1), none⟩]
def c63_1 : List CO := [⟨(.mov (.var 0)), none, none⟩,
  ⟨(.mov (.var 0)), none, none⟩,
  ⟨(.bin .neq (.loc 1) (.loc 0)), none, none⟩,
  ⟨(.mov (.loc 0)), (some 1), none⟩]
def c63 : CFun := ⟨1, 2, (.seq (.region [] [] c63_0) (.seq (.region [] [] c63_1) .ret)), [.var 1]⟩
theorem ok63 : CodeOk Tryd.prog T 63 c63 := ⟨⟨Tryd.f63, Hints.of [] [] [], [0, 2], Tryd.func63, by kernel_rfl, by kernel_rfl⟩⟩

/-! spinney/spinneyref01.Cmp -/
def c64_0 : List CO := [⟨(.mov (.k (.int .i64 0))), (some 2), none⟩]
def c64_1 : List CO := [⟨(.mov (.var 0)), none, none⟩,
  ⟨(.mov (.var 1)), none, none⟩,
  ⟨(.bin .lss (.loc 1) (.loc 0)), none, none⟩,
  ⟨(.mov (.loc 0)), (some 3), none⟩]
def c64_2 : List CO := [⟨(.mov (.k (.int .i64 (-1)))), (some 2), none⟩]
def c64_3 : List CO := [⟨(.mov (.var 0)), none, none⟩,
  ⟨(.mov (.var 1)), none, none⟩,
  ⟨(.bin .gtr (.loc 1) (.loc 0)), none, none⟩,
  ⟨(.mov (.loc 0)), (some 4), none⟩]
def c64_4 : List CO := [⟨(.mov (.k (.int .i64 1))), (some 2), none⟩]
def c64_5 : List CO := [⟨(.mov (.k (.int .i64 0))), (some 2), none⟩]
def c64 : CFun := ⟨2, 5, (.seq (.region [] [] c64_0) (.seq (.block 0 (.seq (.region [] [] c64_1) (.cond (.var 3) (.seq (.region [] [] c64_2) .ret) (.seq (.region [] [] c64_3) (.cond (.var 4) (.seq (.region [] [] c64_4) .ret) .skip))))) (.seq (.region [] [] c64_5) .ret))), [.var 2]⟩
theorem ok64 : CodeOk Tryd.prog T 64 c64 := ⟨⟨Tryd.f64, Hints.of [] [] [], [0, 1, 4, 5, 9], Tryd.func64, by kernel_rfl, by kernel_rfl⟩⟩

/-! spinney/spinneyref03.rank -/
def c65_0 : List CO := [⟨(.mov (.k (.int .i64 0))), (some 1), none⟩]
def c65_1 : List CO := [⟨(.mov (.var 0)), (some 2), none⟩]
def c65_2 : List CO := [⟨(.bin .eql (.var 2) (.k (.int .i64 1))), none, none⟩,
  ⟨(.mov (.loc 0)), (some 3), none⟩]
def c65_3 : List CO := [⟨(.mov (.k (.int .i64 0))), (some 1), none⟩]
def c65_4 : List CO := [⟨(.bin .eql (.var 2) (.k (.int .i64 3))), none, none⟩,
  ⟨(.mov (.loc 0)), (some 4), none⟩]
def c65_5 : List CO := [⟨(.mov (.k (.int .i64 1))), (some 1), none⟩]
def c65_6 : List CO := [⟨(.bin .eql (.var 2) (.k (.int .i64 2))), none, none⟩,
  ⟨(.mov (.loc 0)), (some 5), none⟩]
def c65_7 : List CO := [⟨(.mov (.k (.int .i64 2))), (some 1), none⟩]
def c65_8 : List CO := [⟨(.mov (.k (.int .i64 3))), (some 1), none⟩]
def c65 : CFun := ⟨1, 6, (.seq (.region [] [] c65_0) (.seq (.seq (.region [] [] c65_1) (.block 0 (.seq (.region [] [] c65_2) (.cond (.var 3) (.seq (.region [] [] c65_3) .ret) (.seq (.region [] [] c65_4) (.cond (.var 4) (.seq (.region [] [] c65_5) .ret) (.seq (.region [] [] c65_6) (.cond (.var 5) (.seq (.region [] [] c65_7) .ret) .skip)))))))) (.seq (.region [] [] c65_8) .ret))), [.var 1]⟩
theorem ok65 : CodeOk Tryd.prog T 65 c65 := ⟨⟨Tryd.f65, Hints.of [] [] [], [0, 2, 3, 4, 6, 8], Tryd.func65, by kernel_rfl, by kernel_rfl⟩⟩

/-! spinney/spinneyref03.text -/
def c66_0 : List CO := [⟨(.mov (.k (.int .i64 0))), (some 2), none⟩]
def c66_1 : List CO := [⟨(.mov (.var 0)), none, none⟩,
  ⟨(.mov (.var 1)), none, none⟩,
  ⟨(.bin .lss (.loc 1) (.loc 0)), none, none⟩,
  ⟨(.mov (.loc 0)), (some 3), none⟩]
def c66_2 : List CO := [⟨(.mov (.k (.int .i64 (-1)))), (some 2), none⟩]
def c66_3 : List CO := [⟨(.mov (.var 0)), none, none⟩,
  ⟨(.mov (.var 1)), none, none⟩,
  ⟨(.bin .gtr (.loc 1) (.loc 0)), none, none⟩,
  ⟨(.mov (.loc 0)), (some 4), none⟩]
def c66_4 : List CO := [⟨(.mov (.k (.int .i64 1))), (some 2), none⟩]
def c66_5 : List CO := [⟨(.mov (.k (.int .i64 0))), (some 2), none⟩]
def c66 : CFun := ⟨2, 5, (.seq (.region [] [] c66_0) (.seq (.block 0 (.seq (.region [] [] c66_1) (.cond (.var 3) (.seq (.region [] [] c66_2) .ret) (.seq (.region [] [] c66_3) (.cond (.var 4) (.seq (.region [] [] c66_4) .ret) .skip))))) (.seq (.region [] [] c66_5) .ret))), [.var 2]⟩
theorem ok66 : CodeOk Tryd.prog T 66 c66 := ⟨⟨Tryd.f66, Hints.of [] [] [], [0, 1, 4, 5, 9], Tryd.func66, by kernel_rfl, by kernel_rfl⟩⟩

/-! (*spinney/spinneyref09.Meter).spend -/
def c67_0 : List CO := [⟨(.mov (.k (.bool false))), (some 1), none⟩]
def c67_1 : List CO := [⟨(.mov (.var 0)), none, none⟩,
  ⟨(.nilchk (.loc 0)), none, none⟩,
  ⟨(.fa 0 (.loc 0)), none, none⟩,
  ⟨(.load false 1 (.loc 0)), none, none⟩,
  ⟨(.bin .add (.loc 0) (.k (.int .i64 1))), none, none⟩,
  ⟨(.nilchk (.loc 4)), none, none⟩,
  ⟨(.fa 0 (.loc 0)), none, none⟩,
  ⟨(.store 1 (.loc 0) (.loc 2)), none, none⟩]
def c67_2 : List CO := [⟨(.mov (.var 0)), none, none⟩,
  ⟨(.nilchk (.loc 0)), none, none⟩,
  ⟨(.fa 0 (.loc 0)), none, none⟩,
  ⟨(.load false 1 (.loc 0)), none, none⟩,
  ⟨(.bin .leq (.loc 0) (.k (.int .i64 2000))), none, none⟩,
  ⟨(.mov (.loc 0)), (some 1), none⟩]
def c67 : CFun := ⟨1, 2, (.seq (.region [] [] c67_0) (.seq (.region [] [] c67_1) (.seq (.region [] [] c67_2) .ret))), [.var 1]⟩
theorem ok67 : CodeOk Tryd.prog T 67 c67 := ⟨⟨Tryd.f67, Hints.of [] [] [], [0, 2], Tryd.func67, by kernel_rfl, by kernel_rfl⟩⟩

/-! (*spinney/spinneyref09.Meter).Walk -/
def c68_0 : List CO := [⟨(.box (.var 2)), (some 3), none⟩,
  ⟨(.box (.k (.agg #[(.int .i64 0), (.string ⟨#[]⟩), (.int .i64 0), (.slice none 0 0)]))), (some 4), none⟩,
  ⟨(.mov (.k (.int .i64 0))), (some 5), none⟩]
def c68_1 : List CO := [⟨(.fa 0 (.var 3)), none, none⟩,
  ⟨(.load false 1 (.loc 0)), none, none⟩,
  ⟨(.bin .eql (.loc 0) (.k (.int .i64 1))), (some 8), none⟩]
def c68_2 : List CO := [⟨(.mov (.var 1)), none, none⟩,
  ⟨(.fa 2 (.var 3)), none, none⟩,
  ⟨(.load false 1 (.loc 0)), none, none⟩,
  ⟨(.call true 72 [(.loc 2), (.loc 0)]), none, none⟩,
  ⟨(.mov (.loc 0)), none, none⟩,
  ⟨(.extract (.loc 0) 0), none, none⟩,
  ⟨(.extract (.loc 1) 1), none, none⟩,
  ⟨(.box (.k (.agg #[(.int .i64 0), (.string ⟨#[]⟩), (.int .i64 0), (.slice none 0 0)]))), (some 6), none⟩,
  ⟨(.store 4 (.var 6) (.loc 2)), none, none⟩,
  ⟨(.mov (.loc 2)), (some 7), none⟩]
def c68_3 : List CO := [⟨(.mov (.var 7)), none, none⟩,
  ⟨(.un .not (.loc 0)), (some 9), none⟩]
def c68_4 : List CO := [⟨(.mov (.var 0)), none, none⟩,
  ⟨(.call false 67 [(.loc 0)]), none, none⟩,
  ⟨(.un .not (.loc 0)), (some 10), none⟩]
def c68_5 : List CO := [⟨(.build [(.int .i64 0), (.string ⟨#[]⟩), (.int .i64 0), (.slice none 0 0)] []), none, none⟩,
  ⟨(.store 4 (.var 4) (.loc 0)), none, none⟩,
  ⟨(.mov (.k (.int .i64 140))), (some 5), none⟩]
def c68_6 : List CO := [⟨(.load true 4 (.var 6)), none, none⟩,
  ⟨(.store 4 (.var 3) (.loc 0)), none, none⟩]
def c68_7 : CC := (.seq (.seq (.region [] [] c68_1) (.cond (.var 8) .skip (.exit 0))) (.block 1 (.seq (.region [] [] c68_2) (.seq (.seq (.region [] [] c68_3) (.cond (.var 9) (.exit 0) .skip)) (.seq (.seq (.region [] [] c68_4) (.cond (.var 10) (.seq (.region [] [] c68_5) .ret) .skip)) (.region [] [] c68_6))))))
def c68_8 : List CO := [⟨(.load true 4 (.var 3)), none, none⟩,
  ⟨(.store 4 (.var 4) (.loc 0)), none, none⟩,
  ⟨(.mov (.k (.int .i64 0))), (some 5), none⟩]
def c68 : CFun := ⟨3, 11, (.seq (.region [] [] c68_0) (.seq (.block 0 (.loop [true, true, false, true, true, false, false, false, false, false, false] [] c68_7)) (.seq (.region [] [] c68_8) .ret))), [.cell 4 true 4, .var 5]⟩
theorem ok68 : CodeOk Tryd.prog T 68 c68 := ⟨⟨Tryd.f68, Hints.of [] [] [(0, [true, true, false, true, true, false, false, false, false, false, false], [])], [0, 1, 2, 5, 6, 7, 8, 9, 12, 21, 24], Tryd.func68, by kernel_rfl, by kernel_rfl⟩⟩

/-! spinney/spinneyref09.Look -/
def c72_0 : List CO := [⟨(.box (.k (.agg #[(.int .i64 0), (.string ⟨#[]⟩), (.int .i64 0), (.slice none 0 0)]))), (some 2), none⟩,
  ⟨(.mov (.k (.bool false))), (some 3), none⟩]
def c72_1 : List CO := [⟨(.mov (.var 0)), none, none⟩,
  ⟨(.len .slice (.loc 0)), none, none⟩,
  ⟨(.bin .sub (.loc 0) (.k (.int .i64 1))), none, none⟩,
  ⟨(.mov (.loc 0)), (some 4), none⟩]
def c72_2 : List CO := [⟨(.mov (.var 4)), none, none⟩,
  ⟨(.bin .geq (.loc 0) (.k (.int .i64 0))), (some 5), none⟩]
def c72_3 : List CO := [⟨(.mov (.var 0)), none, none⟩,
  ⟨(.mov (.var 4)), none, none⟩,
  ⟨(.ia 5 (.loc 1) (.loc 0)), none, none⟩,
  ⟨(.fa 0 (.loc 0)), none, none⟩,
  ⟨(.load false 1 (.loc 0)), none, none⟩,
  ⟨(.mov (.var 1)), none, none⟩,
  ⟨(.bin .eql (.loc 1) (.loc 0)), (some 6), none⟩]
def c72_4 : List CO := [⟨(.mov (.var 0)), none, none⟩,
  ⟨(.mov (.var 4)), none, none⟩,
  ⟨(.ia 5 (.loc 1) (.loc 0)), none, none⟩,
  ⟨(.fa 1 (.loc 0)), none, none⟩,
  ⟨(.load true 4 (.loc 0)), none, none⟩,
  ⟨(.store 4 (.var 2) (.loc 0)), none, none⟩,
  ⟨(.mov (.k (.bool true))), (some 3), none⟩]
def c72_5 : List CO := [⟨(.mov (.var 4)), none, none⟩,
  ⟨(.bin .sub (.loc 0) (.k (.int .i64 1))), none, none⟩,
  ⟨(.mov (.loc 0)), (some 4), none⟩]
def c72_6 : CC := (.seq (.seq (.region [] [] c72_2) (.cond (.var 5) .skip (.exit 0))) (.seq (.block 1 (.seq (.region [] [] c72_3) (.cond (.var 6) (.seq (.region [] [] c72_4) .ret) .skip))) (.region [] [] c72_5)))
def c72_7 : List CO := [⟨(.build [(.int .i64 0), (.string ⟨#[]⟩), (.int .i64 0), (.slice none 0 0)] []), none, none⟩,
  ⟨(.store 4 (.var 2) (.loc 0)), none, none⟩,
  ⟨(.mov (.k (.bool false))), (some 3), none⟩]
def c72 : CFun := ⟨2, 7, (.seq (.region [] [] c72_0) (.seq (.seq (.region [] [] c72_1) (.block 0 (.loop [true, true, true, false, true, false, false] [] c72_6))) (.seq (.region [] [] c72_7) .ret))), [.cell 2 true 4, .var 3]⟩
theorem ok72 : CodeOk Tryd.prog T 72 c72 := ⟨⟨Tryd.f72, Hints.of [] [] [(0, [true, true, true, false, true, false, false], [])], [0, 1, 4, 5, 6, 11, 20], Tryd.func72, by kernel_rfl, by kernel_rfl⟩⟩

def Fl : List (FuncId × FEntry) := [(3, .code c3), (4, .code c4), (5, .code c5), (6, .code c6), (7, .code c7), (8, .code c8), (9, .code c9), (10, .code c10), (11, .code c11), (12, .code c12), (13, .code c13), (14, .code c14), (15, .code c15), (16, .code c16), (17, .code c17), (18, .code c18), (19, .code c19), (20, .code c20), (21, .code c21), (22, .code c22), (23, .code c23), (24, .code c24), (25, .code c25), (26, .code c26), (27, .code c27), (28, .code c28), (29, .code c29), (30, .code c30), (31, .code c31), (32, .code c32), (33, .code c33), (34, .code c34), (35, .code c35), (36, .code c36), (37, .code c37), (38, .code c38), (39, .code c39), (40, .code c40), (41, .code c41), (42, .code c42), (43, .code c43), (44, .code c44), (45, .code c45), (46, .code c46), (47, .code c47), (48, .code c48), (49, .code c49), (50, .code c50), (51, .code c51), (53, .code c53), (54, .code c54), (55, .code c55), (56, .code c56), (57, .code c57), (58, .code c58), (60, .code c60), (63, .code c63), (64, .code c64), (65, .code c65), (66, .code c66), (67, .code c67), (68, .code c68), (72, .code c72)] ++ [(59, .oracle lookG), (52, .oracle cmpG), (61, .oracle validG)]
def F (f : FuncId) : Option FEntry := Fl.lookup f
theorem hF : ∀ (B : Nat) (w0 : World), K B w0 → ∀ f e, F f = some e → EntryOk Tryd.prog T B w0 f e := fun B w0 hK => entries_of (fun p hp => by
  simp only [Fl, List.cons_append, List.nil_append, List.mem_cons, List.not_mem_nil, or_false] at hp
  rcases hp with rfl | rfl | rfl | rfl | rfl | rfl | rfl | rfl | rfl | rfl | rfl | rfl | rfl | rfl | rfl | rfl | rfl | rfl | rfl | rfl | rfl | rfl | rfl | rfl | rfl | rfl | rfl | rfl | rfl | rfl | rfl | rfl | rfl | rfl | rfl | rfl | rfl | rfl | rfl | rfl | rfl | rfl | rfl | rfl | rfl | rfl | rfl | rfl | rfl | rfl | rfl | rfl | rfl | rfl | rfl | rfl | rfl | rfl | rfl | rfl | rfl | rfl | rfl | rfl | rfl | rfl
  · exact ok3
  · exact ok4
  · exact ok5
  · exact ok6
  · exact ok7
  · exact ok8
  · exact ok9
  · exact ok10
  · exact ok11
  · exact ok12
  · exact ok13
  · exact ok14
  · exact ok15
  · exact ok16
  · exact ok17
  · exact ok18
  · exact ok19
  · exact ok20
  · exact ok21
  · exact ok22
  · exact ok23
  · exact ok24
  · exact ok25
  · exact ok26
  · exact ok27
  · exact ok28
  · exact ok29
  · exact ok30
  · exact ok31
  · exact ok32
  · exact ok33
  · exact ok34
  · exact ok35
  · exact ok36
  · exact ok37
  · exact ok38
  · exact ok39
  · exact ok40
  · exact ok41
  · exact ok42
  · exact ok43
  · exact ok44
  · exact ok45
  · exact ok46
  · exact ok47
  · exact ok48
  · exact ok49
  · exact ok50
  · exact ok51
  · exact ok53
  · exact ok54
  · exact ok55
  · exact ok56
  · exact ok57
  · exact ok58
  · exact ok60
  · exact ok63
  · exact ok64
  · exact ok65
  · exact ok66
  · exact ok67
  · exact ok68
  · exact ok72
  · exact oracle_any look_ok
  · exact oracle_any cmp_ok
  · exact valid_ok hK)
end Go.Proofs.YtpgoibncgekflaaDoor
end
