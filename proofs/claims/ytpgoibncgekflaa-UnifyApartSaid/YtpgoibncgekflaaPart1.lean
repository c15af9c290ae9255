/- Texts of this claim, put together. -/
import Derived.RangeFuncNested
import Derived.RangeFuncBound
import Derived.RangeFuncCalls
import Derived.RangeFuncLeaves
import Derived.RangeFuncFrom
import Derived.Laws.Rows
import Derived.KernelRfl
import Derived.Shelf.Abstract
import Derived.WalkKit
import Derived.OwnWalkIn
import Derived.TacticsInMore
import Derived.LoopNIn
import Derived.LoopIn
import Derived.Test.YtpgoibncgekflaaProg
import Derived.Test.YtpgoibncgekflaaEval2
import Derived.Test.YtpgoibncgekflaaChecked
import Derived.Lib.Strings
import Derived.Lib.Slices
import Derived.Lib.Walk
import Derived.Lib.Bytealg
import Derived.Test.YtpgoibncgekflaaEval3
/-! subst.Look walked: a range over slices.Backward. -/
section
namespace Go.Proofs.Ytpgoibncgekflaa
open Go Go.RowKit Go.Shelf Go.Proofs
attribute [local go_sem] Oper.semAt_some

def upto {α : Type} (f : Nat → α) (k : Nat) : List α := (List.range k).map f
theorem upto_succ {α : Type} (f : Nat → α) (k : Nat) : upto f (k + 1) = upto f k ++ [f k] := by simp [upto, List.range_succ]
theorem upto_length {α : Type} (f : Nat → α) (k : Nat) : (upto f k).length = k := by simp [upto]

theorem upto_le {α : Type} (f : Nat → α) (k : Nat) : ∀ m, ∃ r, upto f (k + m) = upto f k ++ r
  | 0 => ⟨[], by simp⟩
  | m + 1 => by
    obtain ⟨r, hr⟩ := upto_le f k m
    exact ⟨r ++ [f (k + m)], by rw [← Nat.add_assoc, upto_succ, hr, List.append_assoc]⟩

structure T4 where
  k : Int
  s : ByteArray
  n : Int
  a : Option Addr
  l : Nat
  c : Nat

/-- the cells of an element: the Var, the term -/
def bindV (V : Nat → Int) (C : Nat → T4) (j : Nat) : Value := .agg #[.int .i64 (V j), (.int .i64 (C j).k), (.string (C j).s), (.int .i64 (C j).n), (.slice (C j).a (C j).l (C j).c)]

set_option maxRecDepth 100000 in
set_option maxHeartbeats 4000000 in
theorem back1_in (F : Fence) (n : Nat) (h48 : F.fn 48) (hro : F.round = none) (hn : 1 ≤ n) (l Bs n₀ b off len cap : Nat) (V : Nat → Int) (C : Nat → T4) (hreach : len ≤ 1000000) (hb : b < n₀) (J Jx : List Nat → World → Prop)
    (hY : ∀ pre (x : Nat) W, J pre W → pre.length < len → YieldAt F (n - 1) Try.prog l #[.int .i64 (x : Int), bindV V C x] W fun e W' =>
      (e = .returned (.bool true) ∧ J (pre ++ [x]) W' ∧ Below n₀ W W') ∨ (e = .returned (.bool false) ∧ Jx (pre ++ [x]) W'))
    (W : World) (a : Option Addr) (ha : 0 < len → a = some ⟨b, off, none⟩) (hBs : W.cell? ⟨Bs, 0, none⟩ = some (.slice a len cap)) (hBs' : Bs < n₀)
    (hc : ∀ j, j < len → W.cell? ⟨b, off + j * 5, none⟩ = some (.int .i64 (V j)) ∧ W.cell? ⟨b, off + j * 5 + 1, none⟩ = some ((.int .i64 (C j).k)) ∧ W.cell? ⟨b, off + j * 5 + 2, none⟩ = some ((.string (C j).s)) ∧ W.cell? ⟨b, off + j * 5 + 3, none⟩ = some ((.int .i64 (C j).n)) ∧ W.cell? ⟨b, off + j * 5 + 4, none⟩ = some ((.slice (C j).a (C j).l (C j).c))) (h0 : J [] W) :
    CallsIn F n Try.prog 48 #[.func (.yield l) #[] #[], .pointer (some ⟨Bs, 0, none⟩)] W fun e W' => (∃ v, e = .returned v) ∧
      ((∃ ys, ys = upto (fun j => len - 1 - j) len ∧ J ys W') ∨ (∃ pre, (∃ k, k ≤ len ∧ pre = upto (fun j => len - 1 - j) k) ∧ Jx pre W')) := by
  refine callsIn_of_wp Try.func48 rfl h48 ?_ hro
  simp only [Try.ntmps48, List.size_toArray, List.length_cons, List.length_nil, Nat.reduceAdd, Nat.reduceSub, Array.replicate_succ, Array.replicate_zero, List.push_toArray, List.append_toArray, List.nil_append, List.cons_append]
  gi_wp2
  gi_loopw [3] (fun i wr => ∃ k : Nat, k ≤ len ∧ i = .int .i64 ((len : Int) - 1 - k) ∧ J (upto (fun j => len - 1 - j) k) wr ∧ Below n₀ W wr)
    (fun i _ => (intOf i + 1).toNat)
  case atStart => exact ⟨0, Nat.zero_le _, by simp, h0, Below.refl _ _⟩
  case round =>
    obtain ⟨k, hk, rfl, hJs, hnx⟩ := hrel
    have hBx := (hnx.cell (p := ⟨Bs, 0, none⟩) hBs').trans hBs
    by_cases hlt : k < len
    · obtain rfl := ha (by omega)
      obtain ⟨fn, tmps, assign, body, hy, hR⟩ := hY _ (len - 1 - k) wr hJs (by rw [upto_length]; exact hlt)
      dsimp only [bindV] at hy
      rw [show ((len - 1 - k : Nat) : Int) = (len : Int) - 1 - k by omega] at hy
      obtain ⟨c0, c1, c2, c3, c4⟩ := hc (len - 1 - k) (by omega)
      have d0 := (hnx.cell (p := ⟨b, off + (len - 1 - k) * 5, none⟩) hb).trans c0
      have d1 := (hnx.cell (p := ⟨b, off + (len - 1 - k) * 5 + 1, none⟩) hb).trans c1
      have d2 := (hnx.cell (p := ⟨b, off + (len - 1 - k) * 5 + 2, none⟩) hb).trans c2
      have d3 := (hnx.cell (p := ⟨b, off + (len - 1 - k) * 5 + 3, none⟩) hb).trans c3
      have d4 := (hnx.cell (p := ⟨b, off + (len - 1 - k) * 5 + 4, none⟩) hb).trans c4
      gi_wp2
      refine hR.mono ?_
      rintro e W3 (⟨rfl, hJ3, hk3⟩ | ⟨rfl, hJx3⟩)
      · gi_wp2
        go_roundw
        case rel => exact ⟨k + 1, by omega, by congr 1; omega, by rw [upto_succ]; exact hJ3, hnx.trans hk3⟩
        case measure => simp [intOf]; omega
      · gi_wp2
        refine bodyPost_ret (results_none rfl _ _ _) rfl ?_
        exact ⟨⟨_, rfl⟩, .inr ⟨_, ⟨k + 1, by omega, (upto_succ _ _).symm⟩, hJx3⟩⟩
    · obtain rfl : k = len := by omega
      gi_wp2
      go_end0
      exact ⟨⟨_, rfl⟩, .inl ⟨_, rfl, hJs⟩⟩

set_option maxHeartbeats 1000000 in
theorem back_in (F : Fence) (n : Nat) (h33 : F.fn 33) (hro : F.round = none) (a : Option Addr) (len cap : Nat) (w : World) :
    CallsIn F n Try.prog 33 #[.slice a len cap] w fun e w' => e = .returned (.func (.func 48) #[] #[.pointer (some ⟨w.heap.size, 0, none⟩)]) ∧ w' = w.alloc (.cells #[.slice a len cap] 22) := by
  refine callsIn_of_wp Try.func33 rfl h33 ?_ hro
  simp only [Try.ntmps33, List.size_toArray, List.length_cons, List.length_nil, Nat.reduceAdd, Nat.reduceSub, Array.replicate_succ, Array.replicate_zero, List.push_toArray, List.append_toArray, List.nil_append, List.cons_append]
  gi_wp2
  go_ret
  exact ⟨rfl, rfl⟩

/-- what an element's cells hold -/
def BindsAt (w : World) (b off len : Nat) (V : Nat → Int) (C : Nat → T4) : Prop :=
  ∀ j, j < len → w.cell? ⟨b, off + j * 5, none⟩ = some (.int .i64 (V j)) ∧ w.cell? ⟨b, off + j * 5 + 1, none⟩ = some ((.int .i64 (C j).k)) ∧ w.cell? ⟨b, off + j * 5 + 2, none⟩ = some ((.string (C j).s)) ∧ w.cell? ⟨b, off + j * 5 + 3, none⟩ = some ((.int .i64 (C j).n)) ∧ w.cell? ⟨b, off + j * 5 + 4, none⟩ = some ((.slice (C j).a (C j).l (C j).c))
theorem BindsAt.below {w w' : World} {b off len n : Nat} {V : Nat → Int} {C : Nat → T4} (h : BindsAt w b off len V C) (hb : 0 < len → b < n) (hw : Below n w w') : BindsAt w' b off len V C := by
  intro j hj
  have hb := hb (by omega)
  obtain ⟨h0, h1, h2, h3, h4⟩ := h j hj
  exact ⟨(hw.cell (p := ⟨b, _, none⟩) hb).trans h0, (hw.cell (p := ⟨b, _, none⟩) hb).trans h1, (hw.cell (p := ⟨b, _, none⟩) hb).trans h2, (hw.cell (p := ⟨b, _, none⟩) hb).trans h3, (hw.cell (p := ⟨b, _, none⟩) hb).trans h4⟩

theorem back_stops (F : Fence) (n : Nat) (h48 : F.fn 48) (hro : F.round = none) (hn : 1 ≤ n) (Bs n₀ b off len cap : Nat) (V : Nat → Int) (C : Nat → T4) (hreach : len ≤ 1000000) (a : Option Addr) (ha : 0 < len → a = some ⟨b, off, none⟩) (w : World)
    (hn0 : n₀ ≤ w.heap.size) (hBs : Bs < n₀) (hb : 0 < len → b < n₀) (hc : w.cell? ⟨Bs, 0, none⟩ = some (.slice a len cap)) (hI : BindsAt w b off len V C) :
    SeqStopsK F n Try.prog 48 #[.pointer (some ⟨Bs, 0, none⟩)] (fun x : Nat => #[Value.int .i64 (x : Int), bindV V C x]) (Below n₀) (fun ys => ys = upto (fun j => len - 1 - j) len) (fun pre => ∃ k, k ≤ len ∧ pre = upto (fun j => len - 1 - j) k) len w := fun l J Jx W hW _ _ hY h0 => by
  have hc' := (hW.cell (p := ⟨Bs, 0, none⟩) (by simp; omega)).trans hc
  have hI' := hI.below hb (hW.mono hn0)
  by_cases hlen : 0 < len
  · exact back1_in F n h48 hro hn l Bs n₀ b off len cap V C hreach (hb hlen) J Jx hY W a ha hc' hBs hI' h0
  · obtain rfl : len = 0 := by omega
    refine (back1_in F n h48 hro hn l Bs n₀ 0 0 0 cap V C hreach (by omega) J Jx hY W a (fun h => absurd h (by omega)) hc' hBs (fun j hj => absurd hj (by omega)) h0)

/-- the last one that binds v, of those that are passed -/
def lookOf (V : Nat → Int) (C : Nat → T4) (v : Int) : List Nat → Value
  | [] => .tuple #[.agg #[.int .i64 0, .string ⟨#[]⟩, .int .i64 0, .slice none 0 0], .bool false]
  | j :: r => if V j = v then .tuple #[.agg #[(.int .i64 (C j).k), (.string (C j).s), (.int .i64 (C j).n), (.slice (C j).a (C j).l (C j).c)], .bool true] else lookOf V C v r
theorem lookOf_none {V : Nat → Int} {C : Nat → T4} {v : Int} : ∀ {l : List Nat}, (∀ j ∈ l, V j ≠ v) → lookOf V C v l = .tuple #[.agg #[.int .i64 0, .string ⟨#[]⟩, .int .i64 0, .slice none 0 0], .bool false]
  | [], _ => rfl
  | j :: r, h => by rw [lookOf, if_neg (h j (by simp))]; exact lookOf_none (fun i hi => h i (by simp [hi]))
theorem lookOf_some {V : Nat → Int} {C : Nat → T4} {v : Int} {j : Nat} (hj : V j = v) : ∀ {l r : List Nat}, (∀ j ∈ l, V j ≠ v) → lookOf V C v (l ++ j :: r) = .tuple #[.agg #[(.int .i64 (C j).k), (.string (C j).s), (.int .i64 (C j).n), (.slice (C j).a (C j).l (C j).c)], .bool true]
  | [], _, _ => by simp [lookOf, hj]
  | i :: l, r, h => by rw [List.cons_append, lookOf, if_neg (h i (by simp))]; exact lookOf_some hj (fun i hi => h i (by simp [hi]))

theorem cells_own {β : Type} (B : Nat) (o : Obj) (ho : o.isCells = true) : Own (fun (_ : β) W => W.heap[B]? = some o) := fun s X Y row hs hg hrow =>
  (hg.block B (Array.getElem?_eq_some_iff.1 hs).1 (fun e' => by obtain ⟨o', ho', hc⟩ := hrow B e'.symm; rw [hs] at ho'; cases ho'; rw [ho] at hc; cases hc)).trans hs
theorem heap_below {w : World} {B : Nat} {o o' : Obj} (h : w.heap[B]? = some o) : (w.alloc o').heap[B]? = some o := (Below.heap_alloc w o' B (Array.getElem?_eq_some_iff.1 h).1).trans h

theorem look_results {W : World} {tmps : Array Value} {B1 B2 : Nat} {cs : Array Value} {bv : Value} (h4 : tmps.getD 4 undef = .pointer (some ⟨B1, 0, none⟩)) (h5 : tmps.getD 5 undef = .pointer (some ⟨B2, 0, none⟩))
    (e4 : W.heap[B1]? = some (.cells cs 25)) (hcs : cs.size = 4) (e5 : W.heap[B2]? = some (.cells #[bv] 4)) : (results Try.f13 tmps).run Try.prog W = .ok (.tuple #[.agg cs, bv]) W := by
  have hi : (Try.prog.info? 25).map (·.size) = some 4 := by kernel_rfl
  have l4 := run_loadVar_row W B1 25 25 cs (0, 0) _ e4 Try.underlying25 rfl (by rw [hcs]; exact hi)
  have c5 : W.cell? ⟨B2, 0, none⟩ = some bv := by simp [World.cell?, e5]
  have h4' : tmps[4]?.getD undef = .pointer (some ⟨B1, 0, none⟩) := by simpa using h4
  have h5' : tmps[5]?.getD undef = .pointer (some ⟨B2, 0, none⟩) := by simpa using h5
  have l5 : (loadVar 4 ⟨B2, 0, none⟩).run Try.prog W = .ok bv W := by
    simp [loadVar, isAgg, c5, go_sem]
  simp [results, Try.results13, h4', h5', asAddr, l4, l5]

theorem set_here {W : World} {B i : Nat} {arr : Array Value} {t : TypeId} {u : Value} (h : W.heap[B]? = some (.cells arr t)) : (W.setCell ⟨B, i, none⟩ u).heap[B]? = some (.cells (arr.setIfInBounds i u) t) := by
  obtain ⟨hlt, hk⟩ := Array.getElem?_eq_some_iff.1 h
  show (W.heap.modify B _)[B]? = _
  rw [Array.getElem?_eq_getElem (by rw [Array.size_modify]; exact hlt), Array.getElem_modify_self, hk]
  rfl
theorem set_there {W : World} {B B' i : Nat} {u : Value} (h : B ≠ B') : (W.setCell ⟨B', i, none⟩ u).heap[B]? = W.heap[B]? := by
  show (W.heap.modify B' _)[B]? = _
  rw [Array.getElem?_modify, if_neg (fun e => h e.symm)]

set_option maxRecDepth 100000 in
set_option maxHeartbeats 4000000 in
theorem look_in (F : Fence) (n : Nat) (h13 : F.fn 13) (h33 : F.fn 33) (h48 : F.fn 48) (hro : F.round = none) (hn : 4 ≤ n) (b off len cap : Nat) (V : Nat → Int) (C : Nat → T4) (v : Int) (hreach : len ≤ 1000000) (a : Option Addr) (ha : 0 < len → a = some ⟨b, off, none⟩) (w : World)
    (hb : 0 < len → b < w.heap.size) (hI : BindsAt w b off len V C) :
    CallsIn F n Try.prog 13 #[.slice a len cap, .int .i64 v] w fun e w' => e = .returned (lookOf V C v (upto (fun j => len - 1 - j) len)) ∧ Below w.heap.size w w' := by
  have h1 : 1 ≤ n := by omega
  refine callsIn_of_wp_marks Try.func13 rfl h13 ?_ hro
  simp only [Try.ntmps13, List.size_toArray, List.length_cons, List.length_nil, Nat.reduceAdd, Nat.reduceSub, Array.replicate_succ, Array.replicate_zero, List.push_toArray, List.append_toArray, List.nil_append, List.cons_append]
  gi_wp2_with (gi_at_call 33; refine (back_in F (n - 1) h33 hro _ _ _ _).mono ?_; rintro e w' ⟨rfl, rfl⟩)
  obtain ⟨W0, hW0⟩ : ∃ W0, ((((w.alloc (Obj.cells #[Value.int IntKind.i64 v] 2)).alloc (Obj.cells #[Value.int IntKind.i64 0, Value.string { data := #[] }, Value.int IntKind.i64 0, Value.slice none 0 0] 25)).alloc (Obj.cells #[Value.bool false] 4)).alloc (Obj.cells #[Value.slice a len cap] 22)) = W0 := ⟨_, rfl⟩
  have hsz : W0.heap.size = w.heap.size + 4 := by rw [← hW0]; simp
  have g3 : W0.heap[w.heap.size]? = some (.cells #[.int .i64 v] 2) := by
    rw [← hW0]; exact heap_below (heap_below (heap_below (World.alloc_heap_new w _)))
  have g4 : W0.heap[w.heap.size + 1]? = some (.cells #[.int .i64 0, .string ⟨#[]⟩, .int .i64 0, .slice none 0 0] 25) := by
    rw [← hW0]
    have := World.alloc_heap_new (w.alloc (Obj.cells #[Value.int IntKind.i64 v] 2)) (Obj.cells #[Value.int IntKind.i64 0, Value.string { data := #[] }, Value.int IntKind.i64 0, Value.slice none 0 0] 25)
    rw [World.size_alloc] at this
    exact heap_below (heap_below this)
  have g5 : W0.heap[w.heap.size + 1 + 1]? = some (.cells #[.bool false] 4) := by
    rw [← hW0]
    have := World.alloc_heap_new ((w.alloc (Obj.cells #[Value.int IntKind.i64 v] 2)).alloc (Obj.cells #[Value.int IntKind.i64 0, Value.string { data := #[] }, Value.int IntKind.i64 0, Value.slice none 0 0] 25)) (Obj.cells #[Value.bool false] 4)
    rw [World.size_alloc, World.size_alloc] at this
    exact heap_below this
  have g6 : W0.heap[w.heap.size + 1 + 1 + 1]? = some (.cells #[.slice a len cap] 22) := by
    rw [← hW0]
    have := World.alloc_heap_new (((w.alloc (Obj.cells #[Value.int IntKind.i64 v] 2)).alloc (Obj.cells #[Value.int IntKind.i64 0, Value.string { data := #[] }, Value.int IntKind.i64 0, Value.slice none 0 0] 25)).alloc (Obj.cells #[Value.bool false] 4)) (Obj.cells #[Value.slice a len cap] 22)
    rw [World.size_alloc, World.size_alloc, World.size_alloc] at this
    exact this
  have hB0 : Below w.heap.size w W0 := by
    rw [← hW0]
    exact ((((Below.refl _ w).alloc (Nat.le_refl _) _).alloc (by simp) _).alloc (by simp; omega) _).alloc (by simp; omega) _
  rw [hW0]
  have hs := back_stops F (n - 1) h48 hro (by omega) (w.heap.size + 1 + 1 + 1) W0.heap.size b off len cap V C hreach a ha W0 (Nat.le_refl _) (by omega) (fun h => by have := hb h; omega) (by simp [World.cell?, g6]) (hI.below hb hB0)
  refine wpIn_rangeFunc_ownH hro h1 (gf := 48) (lb := #[.pointer (some ⟨w.heap.size + 1 + 1 + 1, 0, none⟩)]) rfl h48 (enters_of Try.func48 (by kernel_rfl) rfl) hs belowK_t (belowK_b (Nat.le_refl _)) (Below.refl _ _) (fun _ => rfl)
    (fun pre W => W.heap[w.heap.size]? = some (.cells #[.int .i64 v] 2) ∧ W.heap[w.heap.size + 1]? = some (.cells #[.int .i64 0, .string ⟨#[]⟩, .int .i64 0, .slice none 0 0] 25) ∧ W.heap[w.heap.size + 1 + 1]? = some (.cells #[.bool false] 4) ∧ (∀ j ∈ pre, V j ≠ v) ∧ Below W0.heap.size W0 W)
    (fun c pre W => c = .ret ∧ W.heap[w.heap.size + 1 + 1]? = some (.cells #[.bool true] 4) ∧ (∃ pre' j, pre = pre' ++ [j] ∧ (∀ j ∈ pre', V j ≠ v) ∧ V j = v ∧ W.heap[w.heap.size + 1]? = some (.cells #[(.int .i64 (C j).k), (.string (C j).s), (.int .i64 (C j).n), (.slice (C j).a (C j).l (C j).c)] 25)) ∧ Below w.heap.size w W)
    ?hI ?hIx ?h0 
    (fun x a' W => ∃ Bx, W0.heap.size ≤ Bx ∧ W.heap[Bx]? = some (.cells #[.int .i64 (V x), (.int .i64 (C x).k), (.string (C x).s), (.int .i64 (C x).n), (.slice (C x).a (C x).l (C x).c)] 41) ∧ a' = { tmps := #[.slice a len cap, .int .i64 v, undef, .pointer (some ⟨w.heap.size, 0, none⟩), .pointer (some ⟨w.heap.size + 1, 0, none⟩), .pointer (some ⟨w.heap.size + 1 + 1, 0, none⟩), undef, .pointer (some ⟨Bx, 0, none⟩), .slice a len cap, .func (.func 48) #[] #[.pointer (some ⟨w.heap.size + 1 + 1 + 1, 0, none⟩)], .int .i64 x, bindV V C x, undef, undef, undef, undef, undef, undef, undef], defers := [] })
    ?hAx ?assign ?body ?done ?stop
  case h0 => exact ⟨g3, g4, g5, by simp, Below.refl _ _⟩
  case hI =>
    intro s A B row h hg hr
    obtain ⟨e1, e2, e3, e4, e5⟩ := h
    have hr' := fun r e => (hr r e).2
    exact ⟨cells_own _ _ rfl s A B row e1 hg hr', cells_own _ _ rfl s A B row e2 hg hr', cells_own _ _ rfl s A B row e3 hg hr', e4, ownFrom_below (Nat.le_refl _) (Nat.le_refl _) s A B row e5 hg hr⟩
  case hIx =>
    intro c s A B row h hg hr
    obtain ⟨e1, e2, ⟨pre', j, e3, e4, e5, e6⟩, e7⟩ := h
    have hr' := fun r e => (hr r e).2
    exact ⟨e1, cells_own _ _ rfl s A B row e2 hg hr', ⟨pre', j, e3, e4, e5, cells_own _ _ rfl s A B row e6 hg hr'⟩, ownFrom_below (Nat.le_refl _) (by omega) s A B row e7 hg hr⟩
  case hAx =>
    intro x a' s A B row h hg hr
    obtain ⟨Bx, e1, e2, e3⟩ := h
    exact ⟨Bx, e1, cells_own _ _ rfl s A B row e2 hg (fun r e => (hr r e).2), e3⟩
  case assign =>
    rintro l pre x W K hi hK
    simp only [bindV]
    gi_wp2
    obtain ⟨e3, e4, e5, hpre, hB⟩ := hi
    exact hK _ _ ((KeepsOthers.alloc _ _).from _) ((Below.refl _ W).alloc hB.size _) ⟨heap_below e3, heap_below e4, heap_below e5, hpre, hB.alloc hB.size _⟩ ⟨W.heap.size, hB.size, World.alloc_heap_new W _, rfl⟩
  case body =>
    rintro l pre x a' W hl ⟨r, hr⟩ ⟨e3, e4, e5, hpre, hB⟩ ⟨Bx, hBx, eX, rfl⟩ hlt
    have x0 : W.cell? ⟨Bx, 0, none⟩ = some (.int .i64 (V x)) := by simp [World.cell?, eX]
    have x1 : W.cell? ⟨Bx, 1, none⟩ = some (.int .i64 (C x).k) := by simp [World.cell?, eX]
    have x2 : W.cell? ⟨Bx, 2, none⟩ = some (.string (C x).s) := by simp [World.cell?, eX]
    have x3 : W.cell? ⟨Bx, 3, none⟩ = some (.int .i64 (C x).n) := by simp [World.cell?, eX]
    have x4 : W.cell? ⟨Bx, 4, none⟩ = some (.slice (C x).a (C x).l (C x).c) := by simp [World.cell?, eX]
    have v3 : W.cell? ⟨w.heap.size, 0, none⟩ = some (.int .i64 v) := by simp [World.cell?, e3]
    have y0 : W.cell? ⟨w.heap.size + 1, 0, none⟩ = some (.int .i64 0) := by simp [World.cell?, e4]
    have y1 : W.cell? ⟨w.heap.size + 1, 1, none⟩ = some (.string ⟨#[]⟩) := by simp [World.cell?, e4]
    have y2 : W.cell? ⟨w.heap.size + 1, 2, none⟩ = some (.int .i64 0) := by simp [World.cell?, e4]
    have y3 : W.cell? ⟨w.heap.size + 1, 3, none⟩ = some (.slice none 0 0) := by simp [World.cell?, e4]
    have z0 : W.cell? ⟨w.heap.size + 1 + 1, 0, none⟩ = some (.bool false) := by simp [World.cell?, e5]
    have f0 : ∀ i, W.frozen? ⟨w.heap.size + 1, i, none⟩ = false := by intro i; simp [World.frozen?, e4]
    have f1 : W.frozen? ⟨w.heap.size + 1 + 1, 0, none⟩ = false := by simp [World.frozen?, e5]
    have k0 := f0 0
    have k1 := f0 1
    have k2 := f0 2
    have k3 := f0 3
    have hBw : Below w.heap.size w W := hB0.trans (hB.mono (by omega))
    by_cases hv : V x = v
    · gi_wp2
      refine ⟨((((((KeepsOthers.setCell _ _ _).trans (KeepsOthers.setCell _ _ _)).trans (KeepsOthers.setCell _ _ _)).trans (KeepsOthers.setCell _ _ _)).trans (KeepsOthers.setCell _ _ _)).from _), rfl, ?_, ⟨pre, x, rfl, hpre, hv, ?_⟩, ?_⟩
      · rw [set_here (arr := #[.bool false]) (t := 4)]
        · rfl
        · rw [set_there (by omega), set_there (by omega), set_there (by omega), set_there (by omega)]; exact e5
      · rw [set_there (by omega)]
        rw [set_here (set_here (set_here (set_here e4)))]
        rfl
      · exact ((((hBw.setCell (p := ⟨w.heap.size + 1, 0, none⟩) (by simp) _).setCell (p := ⟨w.heap.size + 1, 1, none⟩) (by simp) _).setCell (p := ⟨w.heap.size + 1, 2, none⟩) (by simp) _).setCell (p := ⟨w.heap.size + 1, 3, none⟩) (by simp) _).setCell (p := ⟨w.heap.size + 1 + 1, 0, none⟩) (by simp; omega) _
    · gi_wp2
      refine ⟨(KeepsOthers.refl W).from _, Below.refl _ _, e3, e4, e5, ?_, hB⟩
      intro j hj
      rcases List.mem_append.1 hj with hj | hj
      · exact hpre j hj
      · rw [List.mem_singleton.1 hj]; exact hv
  case done =>
    rintro D xs W hD rfl ⟨e3, e4, e5, hpre, hB⟩ hK
    have y0 : W.cell? ⟨w.heap.size + 1, 0, none⟩ = some (.int .i64 0) := by simp [World.cell?, e4]
    have y1 : W.cell? ⟨w.heap.size + 1, 1, none⟩ = some (.string ⟨#[]⟩) := by simp [World.cell?, e4]
    have y2 : W.cell? ⟨w.heap.size + 1, 2, none⟩ = some (.int .i64 0) := by simp [World.cell?, e4]
    have y3 : W.cell? ⟨w.heap.size + 1, 3, none⟩ = some (.slice none 0 0) := by simp [World.cell?, e4]
    have z0 : W.cell? ⟨w.heap.size + 1 + 1, 0, none⟩ = some (.bool false) := by simp [World.cell?, e5]
    have f0 : ∀ i, W.frozen? ⟨w.heap.size + 1, i, none⟩ = false := by intro i; simp [World.frozen?, e4]
    have f1 : W.frozen? ⟨w.heap.size + 1 + 1, 0, none⟩ = false := by simp [World.frozen?, e5]
    have k0 := f0 0
    have k1 := f0 1
    have k2 := f0 2
    have k3 := f0 3
    have hBw : Below w.heap.size w W := hB0.trans (hB.mono (by omega))
    gi_wp2
    refine ⟨by simp, .inl ⟨_, _, rfl, run_takeDeferred (ds := []) ?_, ?_⟩⟩
    · rw [set_there (by omega), set_there (by omega), set_there (by omega), set_there (by omega), set_there (by omega)]; exact hK
    · refine ⟨_, look_results (B1 := w.heap.size + 1) (B2 := w.heap.size + 1 + 1) (cs := #[.int .i64 0, .string ⟨#[]⟩, .int .i64 0, .slice none 0 0]) (bv := .bool false) rfl rfl ?_ rfl ?_, ?_, ?_⟩
      · rw [World.putObj_heap_other (by omega), set_there (by omega), set_here (set_here (set_here (set_here e4)))]; rfl
      · rw [World.putObj_heap_other (by omega), set_here (arr := #[.bool false])]
        · rfl
        · rw [set_there (by omega), set_there (by omega), set_there (by omega), set_there (by omega)]; exact e5
      · rw [lookOf_none hpre]
      · refine (((((hBw.setCell (p := ⟨w.heap.size + 1, 0, none⟩) (by simp) _).setCell (p := ⟨w.heap.size + 1, 1, none⟩) (by simp) _).setCell (p := ⟨w.heap.size + 1, 2, none⟩) (by simp) _).setCell (p := ⟨w.heap.size + 1, 3, none⟩) (by simp) _).setCell (p := ⟨w.heap.size + 1 + 1, 0, none⟩) (by simp; omega) _).trans (belowK_b (w := w) (Nat.le_refl _) _ D (.deferred (some [])) _ (by omega) ?_ rfl rfl)
        rw [set_there (by omega), set_there (by omega), set_there (by omega), set_there (by omega), set_there (by omega)]; exact hK
  case stop =>
    rintro D c pre W hD ⟨k, hk, rfl⟩ ⟨rfl, e5, ⟨pre', j, hpre, hne, hv, e4⟩, hB⟩ hK
    gi_wp2
    refine ⟨by simp, .inl ⟨_, _, rfl, run_takeDeferred hK, ?_⟩⟩
    refine ⟨_, look_results (B1 := w.heap.size + 1) (B2 := w.heap.size + 1 + 1) rfl rfl ((World.putObj_heap_other (by omega)).trans e4) rfl ((World.putObj_heap_other (by omega)).trans e5), ?_, hB.trans (belowK_b (w := w) (Nat.le_refl _) W D _ _ (by omega) hK rfl rfl)⟩
    obtain ⟨m, rfl⟩ : ∃ m, len = k + m := ⟨len - k, by omega⟩
    obtain ⟨r, hr⟩ := upto_le (fun j => k + m - 1 - j) k m
    rw [hr, hpre, List.append_assoc, List.singleton_append, lookOf_some hv hne]
end Go.Proofs.Ytpgoibncgekflaa
end

/-! subst.Look as an oracle. -/
section
set_option linter.unusedVariables false
set_option linter.unusedSimpArgs false
namespace Go.Proofs.Ytpgoibncgekflaa
open Go Go.RowKit Go.AE Go.Proofs

def isSl : AV → Bool
  | .slc .. => true
  | .v (.slice _ _ _) => true
  | _ => false
def isB : AV → Bool
  | .agg [.v (.int .i64 _), .v (.int .i64 _), .v (.string _), .v (.int .i64 _), c] => isSl c
  | _ => false
def zeroTerm : AV := .agg [.v (.int .i64 0), .v (.string ⟨#[]⟩), .v (.int .i64 0), .v (.slice none 0 0)]
/-- the first of these that binds n -/
def lookA (n : Int) : List AV → AV
  | [] => .tup [zeroTerm, .v (.bool false)]
  | .agg (.v (.int .i64 v) :: t) :: r => if v = n then .tup [.agg t, .v (.bool true)] else lookA n r
  | _ :: r => lookA n r
def lookG (args : List AV) (h : List AO) : Option (AV × List AO) :=
  match args with
  | [.v (.slice none 0 0), .v (.int .i64 n)] => some (lookA n [], h)
  | [.slc 5 _ _ l, .v (.int .i64 n)] => if l.length ≤ 1000000 ∧ l.all isB = true then some (lookA n l.reverse, h) else none
  | _ => none

section
variable {I : Cells} {w w' : World} {σ : List AE.Loc}

theorem isSl_val {c : AV} {v : Value} (hc : isSl c = true) (hr : Rep I w σ c v) : ∃ a l n, v = .slice a l n := by
  cases c with
  | slc sz ex nn l => cases hr with | slc _ _ _ _ _ a cap b o g => exact ⟨_, _, _, rfl⟩
  | v x =>
    have : v = x := by cases hr; rfl
    subst this
    cases v <;> simp [isSl] at hc
    exact ⟨_, _, _, rfl⟩
  | _ => simp [isSl] at hc

theorem isB_form {el : AV} (h : isB el = true) : ∃ v k s n c, el = .agg [.v (.int .i64 v), .v (.int .i64 k), .v (.string s), .v (.int .i64 n), c] ∧ isSl c = true := by
  unfold isB at h
  split at h
  · exact ⟨_, _, _, _, _, rfl, h⟩
  · cases h

theorem upto_rev (l : List AV) : (upto (fun j => l.length - 1 - j) l.length).map (fun j => l.getD j .junk) = l.reverse := by
  apply List.ext_getElem
  · simp [upto]
  · intro i h1 h2
    simp [upto] at h1 ⊢
    rw [List.getElem?_eq_getElem (by omega)]
    rfl
theorem upto_lt {len : Nat} {j : Nat} (h : j ∈ upto (fun j => len - 1 - j) len) : j < len := by
  simp [upto] at h
  obtain ⟨k, h1, rfl⟩ := h
  omega
end

theorem zeroTerm_rep {I : Cells} {w : World} {σ : List AE.Loc} : Rep I w σ (.tup [zeroTerm, .v (.bool false)]) (.tuple #[.agg #[.int .i64 0, .string ⟨#[]⟩, .int .i64 0, .slice none 0 0], .bool false]) := by
  refine .tup σ _ _ rfl (fun i c hi => ?_)
  match i, hi with
  | 0, hi =>
    cases hi
    refine .agg σ _ _ rfl (fun i c hi => ?_) (fun i c hi => ?_)
    · match i, hi with
      | 0, hi => rfl
      | 1, hi => rfl
      | 2, hi => rfl
      | 3, hi => rfl
    · match i, hi with
      | 0, hi => cases hi; exact .v _ _
      | 1, hi => cases hi; exact .v _ _
      | 2, hi => cases hi; exact .v _ _
      | 3, hi => cases hi; exact .v _ _
  | 1, hi => cases hi; exact .v _ _

theorem look_enter (vals : Array Value) (w : World) : (callFunc 13 vals).run Try.prog w = .ok (.enter 13 vals) w := enters_of Try.func13 (by kernel_rfl) rfl vals w

theorem look_ends {B : Nat} {w0 w : World} {I : Cells} {σ : List AE.Loc} {h : List AO} (hI : AE.Inv B w0 I σ w h) {r : AV} {e : Ending} {v : Value} {w' : World} (he : e = .returned v) (hB : Below w.heap.size w w') (hr : Rep I w σ r v) : AE.Ends B w0 I σ w r h e w' := by
  have hext : Ext I w I w' := ⟨fun _ _ h => h, fun b x hi => hB.cell (p := ⟨b, x, none⟩) (hI.imm_lt hi)⟩
  refine ⟨v, I, σ, he, hI.same (hB.mono hI.base) hext (fun b x hi => by
    obtain ⟨u, hu⟩ := hI.imm b x hi
    exact ⟨u, (hext.cell b x hi).trans hu⟩) (fun j Lj hj hh => ⟨hB.block _ (hI.mine j Lj hj hh).2, fun _ h => h⟩), ⟨hext, Later.refl _, fun _ _ h => .inl h, hB.size⟩, hr.mono hext (Later.refl _)⟩

theorem look_ok : ∀ args h r h', lookG args h = some (r, h') → (∀ (vals : Array Value) (w : World), (callFunc 13 vals).run Try.prog w = .ok (.enter 13 vals) w) ∧
    ∀ B w0 I σ w (vals : Array Value), AE.Inv B w0 I σ w h → ArgsRep I w σ args vals → Calls Try.prog 13 vals w (AE.Ends B w0 I σ w r h') := by
  intro args h r h' hg
  refine ⟨look_enter, fun B w0 I σ w vals hI ha => ?_⟩
  have two : ∀ {x y : AV}, args = [x, y] → ∃ u v, vals = #[u, v] ∧ Rep I w σ x u ∧ Rep I w σ y v := by
    rintro x y rfl
    have hs := ha.size
    obtain ⟨l⟩ := vals
    match l, hs with
    | [u, v], _ => exact ⟨u, v, rfl, ha.rep 0 x rfl, ha.rep 1 y rfl⟩
  unfold lookG at hg
  split at hg
  · rename_i n
    cases hg
    obtain ⟨u, v, rfl, h1, h2⟩ := two rfl
    cases h1; cases h2
    have := look_in Fence.wide 4 trivial trivial trivial rfl (by omega) 0 0 0 0 (fun _ => 0) (fun _ => ⟨0, ⟨#[]⟩, 0, none, 0, 0⟩) n (by omega) none (fun h => absurd h (by omega)) w (fun h => absurd h (by omega)) (fun j hj => absurd hj (by omega))
    refine (callsIn_wide.1 this).mono ?_
    rintro e w' ⟨he, hB⟩
    exact look_ends hI he hB zeroTerm_rep
  · rename_i ex nn l n
    split at hg
    · rename_i hc
      obtain ⟨hlen, hall⟩ := hc
      cases hg
      obtain ⟨u, v, rfl, h1, h2⟩ := two rfl
      cases h2
      cases h1 with
      | slc _ _ _ _ _ a cap b o g haa hn hnil hcap hex hsz hcc hi h1 hr =>
        have hform : ∀ j, j < l.length → ∃ v k s n c, l[j]? = some (.agg [.v (.int .i64 v), .v (.int .i64 k), .v (.string s), .v (.int .i64 n), c]) ∧ isSl c = true := by
          intro j hj
          obtain ⟨v, k, s, n, c, h1, h2⟩ := isB_form (List.all_eq_true.1 hall l[j] (List.getElem_mem hj))
          exact ⟨v, k, s, n, c, by rw [List.getElem?_eq_getElem hj, h1], h2⟩
        have hcell : ∀ j, j < l.length → ∃ v k s n a m c ca, l[j]? = some (.agg [.v (.int .i64 v), .v (.int .i64 k), .v (.string s), .v (.int .i64 n), ca]) ∧
            g j 0 = .int .i64 v ∧ g j 1 = .int .i64 k ∧ g j 2 = .string s ∧ g j 3 = .int .i64 n ∧ g j 4 = .slice a m c ∧ Rep I w [] ca (.slice a m c) := by
          intro j hj
          obtain ⟨v, k, s, n, c, h1, h2⟩ := hform j hj
          have r0 := hr j _ 0 _ h1 rfl
          have r1 := hr j _ 1 _ h1 rfl
          have r2 := hr j _ 2 _ h1 rfl
          have r3 := hr j _ 3 _ h1 rfl
          have r4 := hr j _ 4 c h1 rfl
          obtain ⟨a, m, c', e4⟩ := isSl_val h2 r4
          rw [e4] at r4
          generalize g j 0 = g0 at r0 ⊢
          generalize g j 1 = g1 at r1 ⊢
          generalize g j 2 = g2 at r2 ⊢
          generalize g j 3 = g3 at r3 ⊢
          cases r0; cases r1; cases r2; cases r3
          exact ⟨v, k, s, n, a, m, c', c, h1, rfl, rfl, rfl, rfl, e4, r4⟩
        let V : Nat → Int := fun j => match g j 0 with | .int _ n => n | _ => 0
        let C : Nat → T4 := fun j => match g j 1, g j 2, g j 3, g j 4 with
          | .int _ k, .string s, .int _ n, .slice a m c => ⟨k, s, n, a, m, c⟩
          | _, _, _, _ => ⟨0, ⟨#[]⟩, 0, none, 0, 0⟩
        have hba : BindsAt w b o l.length V C := by
          intro j hj
          obtain ⟨v, k, s, n, a, m, c, ca, e, e0, e1, e2, e3, e4, _⟩ := hcell j hj
          have q : ∀ i c, ([AV.v (.int .i64 v), .v (.int .i64 k), .v (.string s), .v (.int .i64 n), ca] : List AV)[i]? = some c → w.cell? ⟨b, o + (j * 5 + i), none⟩ = some (g j i) := fun i c hi => hcc j _ i c e hi
          have p0 := q 0 _ rfl
          have p1 := q 1 _ rfl
          have p2 := q 2 _ rfl
          have p3 := q 3 _ rfl
          have p4 := q 4 _ rfl
          simp only [V, C, e0, e1, e2, e3, e4]
          rw [e0] at p0; rw [e1] at p1; rw [e2] at p2; rw [e3] at p3; rw [e4] at p4
          exact ⟨p0, p1, p2, p3, p4⟩
        have hbw : 0 < l.length → b < w.heap.size := by
          intro h0
          obtain ⟨v, k, s, n, a, m, c, ca, e, _⟩ := hcell 0 h0
          exact hI.imm_lt (hi 0 _ 0 _ e rfl)
        have := look_in Fence.wide 4 trivial trivial trivial rfl (by omega) b o l.length cap V C n hlen a (fun h => haa (by intro e; rw [e] at h; simp at h)) w hbw hba
        refine (callsIn_wide.1 this).mono ?_
        rintro e w' ⟨he, hB⟩
        refine look_ends hI he hB ?_
        rw [← upto_rev]
        have key : ∀ L : List Nat, (∀ j ∈ L, j < l.length) → Rep I w σ (lookA n (L.map fun j => l.getD j .junk)) (lookOf V C n L) := by
          intro L
          induction L with
          | nil => intro _; exact zeroTerm_rep
          | cons j L ih =>
            intro hL
            obtain ⟨v, k, s, n', a, m, c, ca, e, e0, e1, e2, e3, e4, r4⟩ := hcell j (hL j (by simp))
            have hget : l.getD j .junk = .agg [.v (.int .i64 v), .v (.int .i64 k), .v (.string s), .v (.int .i64 n'), ca] := by rw [List.getD_eq_getElem?_getD, e]; rfl
            have hV : V j = v := by simp only [V, e0]
            have hC : C j = ⟨k, s, n', a, m, c⟩ := by simp only [C, e1, e2, e3, e4]
            rw [List.map_cons, hget, lookA, lookOf, hV, hC]
            split
            · refine .tup σ _ _ rfl (fun i c hi => ?_)
              match i, hi with
              | 0, hi =>
                cases hi
                refine .agg σ _ _ rfl (fun i c hi => ?_) (fun i c hi => ?_)
                · match i, hi with
                  | 0, hi => rfl
                  | 1, hi => rfl
                  | 2, hi => rfl
                  | 3, hi => rfl
                · match i, hi with
                  | 0, hi => cases hi; exact .v _ _
                  | 1, hi => cases hi; exact .v _ _
                  | 2, hi => cases hi; exact .v _ _
                  | 3, hi => cases hi; exact r4.mono (Ext.refl _ _) (Later.nil _)
              | 1, hi => cases hi; exact .v _ _
            · exact ih (fun i hi => hL i (by simp [hi]))
        exact key _ (fun j hj => upto_lt hj)
    · cases hg
  · cases hg
end Go.Proofs.Ytpgoibncgekflaa
end

/-! strings.Compare, of any two strings: its contract (laid by the kit's own tool), and the same as an entry of the evaluator's table. -/
section
namespace Go.Proofs

set_option maxHeartbeats 1000000 in
set_option maxRecDepth 100000 in
/-- internal/bytealg.CompareString (what strings.Compare calls): IT RETURNS 'Lib.compareBytes a b'; the world is as it was. -/
theorem Try.bytealg_CompareString (a b : ByteArray) (w : World) :
    Calls Try.prog 62 #[.string a, .string b] w fun e w' => e = .returned (.int .i64 (Lib.compareBytes a.data.toList b.data.toList)) ∧ w' = w := by
  go_enter Try.func62, Try.ntmps62
  go_wp2
  rw [run_callFunc_extern Try.func64 (by kernel_rfl) (by kernel_rfl) (by kernel_rfl) (e := Extern.BytealgCompare.compare) (by kernel_rfl), Lib.run_compareString]
  simp only [Result.andThen]
  rw [Oper.upon_value]
  go_wp2
  go_ret
  exact ⟨rfl, rfl⟩

set_option maxHeartbeats 1000000 in
/-- strings.Compare: "Compare returns an integer comparing two strings lexicographically. The result will be 0 if a == b, -1 if a < b, and +1 if a > b.": IT RETURNS 'Lib.compareBytes a b'; the world is as it was. -/
theorem Try.strings_Compare (a b : ByteArray) (w : World) :
    Calls Try.prog 59 #[.string a, .string b] w fun e w' => e = .returned (.int .i64 (Lib.compareBytes a.data.toList b.data.toList)) ∧ w' = w := by
  go_enter Try.func59, Try.ntmps59
  go_wp2_with (go_at_call 62; refine (Try.bytealg_CompareString _ _ _).mono ?_; rintro e w' ⟨rfl, rfl⟩)
  go_ret
  exact ⟨rfl, rfl⟩

end Go.Proofs
namespace Go.Proofs.Ytpgoibncgekflaa
open Go Go.RowKit Go.AE Go.Proofs
def cmpG (args : List AV) (h : List AO) : Option (AV × List AO) := match args with
  | [.v (.string a), .v (.string b)] => some (.v (.int .i64 (Lib.compareBytes a.data.toList b.data.toList)), h)
  | _ => none
theorem cmp_enter (vals : Array Value) (w : World) : (callFunc 59 vals).run Try.prog w = .ok (.enter 59 vals) w := enters_of Try.func59 (by kernel_rfl) rfl vals w
theorem cmp_ok : ∀ args h r h', cmpG args h = some (r, h') → (∀ (vals : Array Value) (w : World), (callFunc 59 vals).run Try.prog w = .ok (.enter 59 vals) w) ∧
    ∀ B w0 I σ w (vals : Array Value), AE.Inv B w0 I σ w h → ArgsRep I w σ args vals → Calls Try.prog 59 vals w (AE.Ends B w0 I σ w r h') := by
  intro args h r h' hg
  refine ⟨cmp_enter, fun B w0 I σ w vals hI ha => ?_⟩
  unfold cmpG at hg
  split at hg
  · rename_i a b
    cases hg
    have hs := ha.size
    obtain ⟨l⟩ := vals
    match l, hs with
    | [u, v], _ =>
      have h1 := ha.rep 0 _ rfl
      have h2 := ha.rep 1 _ rfl
      cases h1
      cases h2
      refine (Try.strings_Compare a b w).mono ?_
      rintro e w' ⟨he, rfl⟩
      exact look_ends hI he (Below.refl _ _) (.v _ _)
  · cases hg
end Go.Proofs.Ytpgoibncgekflaa
end

/-! The functions of the program that the laws of layers 9 and 10 reach, as the evaluator carries them out, each checked against the loaded program. -/
section
set_option linter.unusedVariables false
set_option maxRecDepth 100000
namespace Go.Proofs.Ytpgoibncgekflaa
open Go Go.AE Go.Proofs
def K : Nat → World → Prop := fun _ _ => True
theorem hKs : Holds K := holds_true
def ti2 : TI := ⟨1, 8, (.int .i64 0), (.int .i64)⟩
theorem tiOk2 : TIok Try.prog 2 ti2 := tiok_of (by kernel_rfl) (by kernel_rfl)
def ti3 : TI := ⟨1, 8, (.int .i64 0), (.int .i64)⟩
theorem tiOk3 : TIok Try.prog 3 ti3 := tiok_of (by kernel_rfl) (by kernel_rfl)
def ti4 : TI := ⟨1, 1, (.bool false), .bool⟩
theorem tiOk4 : TIok Try.prog 4 ti4 := tiok_of (by kernel_rfl) (by kernel_rfl)
def ti9 : TI := ⟨1, 16, (.string ⟨#[]⟩), .string⟩
theorem tiOk9 : TIok Try.prog 9 ti9 := tiok_of (by kernel_rfl) (by kernel_rfl)
def ti22 : TI := ⟨1, 24, (.slice none 0 0), (.slice 41)⟩
theorem tiOk22 : TIok Try.prog 22 ti22 := tiok_of (by kernel_rfl) (by kernel_rfl)
def ti23 : TI := ⟨1, 24, (.slice none 0 0), (.slice 25)⟩
theorem tiOk23 : TIok Try.prog 23 ti23 := tiok_of (by kernel_rfl) (by kernel_rfl)
def ti25 : TI := ⟨4, 56, (.agg #[(.int .i64 0), (.string ⟨#[]⟩), (.int .i64 0), (.slice none 0 0)]), (.struct #[⟨"Kind", 3, 0, false, "", "", 0⟩, ⟨"Name", 9, 1, false, "", "", 8⟩, ⟨"N", 2, 2, false, "", "", 24⟩, ⟨"Args", 23, 3, false, "", "", 32⟩])⟩
theorem tiOk25 : TIok Try.prog 25 ti25 := tiok_of (by kernel_rfl) (by kernel_rfl)
def ti28 : TI := ⟨1, 8, (.int .i64 0), (.int .i64)⟩
theorem tiOk28 : TIok Try.prog 28 ti28 := tiok_of (by kernel_rfl) (by kernel_rfl)
def ti36 : TI := ⟨1, 24, (.slice none 0 0), (.slice 2)⟩
theorem tiOk36 : TIok Try.prog 36 ti36 := tiok_of (by kernel_rfl) (by kernel_rfl)
def ti41 : TI := ⟨5, 64, (.agg #[(.int .i64 0), (.int .i64 0), (.string ⟨#[]⟩), (.int .i64 0), (.slice none 0 0)]), (.struct #[⟨"Var", 2, 0, false, "", "", 0⟩, ⟨"To", 25, 1, false, "", "", 8⟩])⟩
theorem tiOk41 : TIok Try.prog 41 ti41 := tiok_of (by kernel_rfl) (by kernel_rfl)
def ti48 : TI := ⟨1, 8, (.map none), (.map 2 4)⟩
theorem tiOk48 : TIok Try.prog 48 ti48 := tiok_of (by kernel_rfl) (by kernel_rfl)
def ti54 : TI := ⟨1, 8, (.pointer none), (.pointer 3)⟩
theorem tiOk54 : TIok Try.prog 54 ti54 := tiok_of (by kernel_rfl) (by kernel_rfl)
def ti55 : TI := ⟨1, 8, (.pointer none), (.pointer 57)⟩
theorem tiOk55 : TIok Try.prog 55 ti55 := tiok_of (by kernel_rfl) (by kernel_rfl)
def ti57 : TI := ⟨1, 8, (.agg #[(.int .i64 0)]), (.struct #[⟨"N", 3, 0, false, "", "", 0⟩])⟩
theorem tiOk57 : TIok Try.prog 57 ti57 := tiok_of (by kernel_rfl) (by kernel_rfl)
def ti61 : TI := ⟨1, 8, (.pointer none), (.pointer 63)⟩
theorem tiOk61 : TIok Try.prog 61 ti61 := tiok_of (by kernel_rfl) (by kernel_rfl)
def ti63 : TI := ⟨3, 40, (.agg #[(.slice none 0 0), (.int .i64 0), (.int .i64 0)]), (.struct #[⟨"b", 22, 0, false, "", "spinney/subst", 0⟩, ⟨"left", 3, 1, false, "", "spinney/subst", 24⟩, ⟨"deep", 3, 2, false, "", "spinney/subst", 32⟩])⟩
theorem tiOk63 : TIok Try.prog 63 ti63 := tiok_of (by kernel_rfl) (by kernel_rfl)
def ti68 : TI := ⟨1, 8, (.pointer none), (.pointer 73)⟩
theorem tiOk68 : TIok Try.prog 68 ti68 := tiok_of (by kernel_rfl) (by kernel_rfl)
def ti70 : TI := ⟨8, 112, (.agg #[(.int .i64 0), (.string ⟨#[]⟩), (.int .i64 0), (.slice none 0 0), (.int .i64 0), (.string ⟨#[]⟩), (.int .i64 0), (.slice none 0 0)]), (.struct #[⟨"x", 25, 0, false, "", "spinney/unify", 0⟩, ⟨"y", 25, 4, false, "", "spinney/unify", 56⟩])⟩
theorem tiOk70 : TIok Try.prog 70 ti70 := tiok_of (by kernel_rfl) (by kernel_rfl)
def ti71 : TI := ⟨1, 24, (.slice none 0 0), (.slice 70)⟩
theorem tiOk71 : TIok Try.prog 71 ti71 := tiok_of (by kernel_rfl) (by kernel_rfl)
def ti73 : TI := ⟨3, 56, (.agg #[(.slice none 0 0), (.int .i64 0), (.slice none 0 0)]), (.struct #[⟨"b", 22, 0, false, "", "spinney/unify", 0⟩, ⟨"left", 3, 1, false, "", "spinney/unify", 24⟩, ⟨"todo", 71, 2, false, "", "spinney/unify", 32⟩])⟩
theorem tiOk73 : TIok Try.prog 73 ti73 := tiok_of (by kernel_rfl) (by kernel_rfl)
def ti82 : TI := ⟨1, 8, .nilFunc, (.func #[2] #[2] false)⟩
theorem tiOk82 : TIok Try.prog 82 ti82 := tiok_of (by kernel_rfl) (by kernel_rfl)
def ti91 : TI := ⟨1, 24, (.slice none 0 0), (.slice 3)⟩
theorem tiOk91 : TIok Try.prog 91 ti91 := tiok_of (by kernel_rfl) (by kernel_rfl)
def tys : List (TypeId × TI) := [(2, ti2), (3, ti3), (4, ti4), (9, ti9), (22, ti22), (23, ti23), (25, ti25), (28, ti28), (36, ti36), (41, ti41), (48, ti48), (54, ti54), (55, ti55), (57, ti57), (61, ti61), (63, ti63), (68, ti68), (70, ti70), (71, ti71), (73, ti73), (82, ti82), (91, ti91)]
def pures : List FuncId := [3, 4, 5, 6, 7, 8, 9, 10, 11, 12, 14, 15, 16, 17, 18, 19, 20, 21, 22, 23, 24, 25, 26, 27, 28, 29, 30, 34, 35, 37, 38, 39, 40, 42, 44, 46, 52, 53, 54, 56, 57, 58, 60, 63, 13, 59]
def lits : List TypeId := [71]
def frz : List FuncId := []
def T : Tb := ⟨fun t => tys.lookup t, fun f => pures.contains f, fun t => lits.contains t, fun f => frz.contains f⟩
theorem hT : TbOk Try.prog T := tbok_of (fun p hp => by
  simp only [tys, List.mem_cons, List.not_mem_nil, or_false] at hp
  rcases hp with rfl | rfl | rfl | rfl | rfl | rfl | rfl | rfl | rfl | rfl | rfl | rfl | rfl | rfl | rfl | rfl | rfl | rfl | rfl | rfl | rfl | rfl
  · exact tiOk2
  · exact tiOk3
  · exact tiOk4
  · exact tiOk9
  · exact tiOk22
  · exact tiOk23
  · exact tiOk25
  · exact tiOk28
  · exact tiOk36
  · exact tiOk41
  · exact tiOk48
  · exact tiOk54
  · exact tiOk55
  · exact tiOk57
  · exact tiOk61
  · exact tiOk63
  · exact tiOk68
  · exact tiOk70
  · exact tiOk71
  · exact tiOk73
  · exact tiOk82
  · exact tiOk91)
/-! spinney/spinneylaw09.SubstWalks -/
def c3_0 : List CO := [⟨(.box (.var 1)), (some 3), none⟩,
  ⟨(.mov (.k (.bool false))), (some 4), none⟩]
def c3_1 : List CO := [⟨(.call true 9 []), none, none⟩,
  ⟨(.mov (.loc 0)), (some 5), none⟩]
def c3_2 : List CO := [⟨(.mov (.var 0)), none, none⟩,
  ⟨(.load true 4 (.var 3)), none, none⟩,
  ⟨(.bslice 4 [(.int .i64 0), (.string ⟨#[]⟩), (.int .i64 0), (.slice none 0 0)] 1 [(0, (.loc 0))]), none, none⟩,
  ⟨(.call true 10 [(.loc 2), (.loc 0)]), (some 14), none⟩]
def c3_3 : List CO := [⟨(.mov (.var 5)), none, none⟩,
  ⟨(.mov (.loc 0)), (some 4), none⟩]
def c3_4 : List CO := [⟨(.mov (.var 0)), none, none⟩,
  ⟨(.load true 4 (.var 3)), none, none⟩,
  ⟨(.call true 11 [(.loc 1), (.loc 0)]), none, none⟩,
  ⟨(.mov (.loc 0)), none, none⟩,
  ⟨(.extract (.loc 0) 0), none, none⟩,
  ⟨(.extract (.loc 1) 1), none, none⟩,
  ⟨(.box (.k (.agg #[(.int .i64 0), (.string ⟨#[]⟩), (.int .i64 0), (.slice none 0 0)]))), (some 6), none⟩,
  ⟨(.store 4 (.var 6) (.loc 2)), none, none⟩,
  ⟨(.mov (.loc 2)), (some 7), none⟩]
def c3_5 : List CO := [⟨(.mov (.var 0)), none, none⟩,
  ⟨(.load true 4 (.var 3)), none, none⟩,
  ⟨(.call true 12 [(.loc 1), (.loc 0)]), none, none⟩,
  ⟨(.mov (.loc 0)), none, none⟩,
  ⟨(.extract (.loc 0) 0), none, none⟩,
  ⟨(.extract (.loc 1) 1), none, none⟩,
  ⟨(.box (.k (.agg #[(.int .i64 0), (.string ⟨#[]⟩), (.int .i64 0), (.slice none 0 0)]))), (some 8), none⟩,
  ⟨(.store 4 (.var 8) (.loc 2)), none, none⟩,
  ⟨(.mov (.loc 2)), (some 9), none⟩]
def c3_6 : List CO := [⟨(.mov (.var 0)), none, none⟩,
  ⟨(.fa 2 (.var 3)), none, none⟩,
  ⟨(.load false 1 (.loc 0)), none, none⟩,
  ⟨(.call true 13 [(.loc 2), (.loc 0)]), none, none⟩,
  ⟨(.mov (.loc 0)), none, none⟩,
  ⟨(.extract (.loc 0) 0), none, none⟩,
  ⟨(.extract (.loc 1) 1), none, none⟩,
  ⟨(.box (.k (.agg #[(.int .i64 0), (.string ⟨#[]⟩), (.int .i64 0), (.slice none 0 0)]))), (some 10), none⟩,
  ⟨(.store 4 (.var 10) (.loc 2)), none, none⟩,
  ⟨(.mov (.loc 2)), (some 11), none⟩]
def c3_7 : List CO := [⟨(.mov (.var 0)), none, none⟩,
  ⟨(.fa 2 (.var 3)), none, none⟩,
  ⟨(.load false 1 (.loc 0)), none, none⟩,
  ⟨(.call true 14 [(.loc 2), (.loc 0)]), none, none⟩,
  ⟨(.mov (.loc 0)), none, none⟩,
  ⟨(.extract (.loc 0) 0), none, none⟩,
  ⟨(.extract (.loc 1) 1), none, none⟩,
  ⟨(.box (.k (.agg #[(.int .i64 0), (.string ⟨#[]⟩), (.int .i64 0), (.slice none 0 0)]))), (some 12), none⟩,
  ⟨(.store 4 (.var 12) (.loc 2)), none, none⟩,
  ⟨(.mov (.loc 2)), (some 13), none⟩]
def c3_8 : List CO := [⟨(.mov (.var 5)), none, none⟩,
  ⟨(.mov (.loc 0)), none, none⟩,
  ⟨(.load true 4 (.var 6)), none, (some ((.loc 0), true))⟩,
  ⟨(.load true 4 (.var 8)), none, (some ((.loc 1), true))⟩,
  ⟨(.call true 15 [(.loc 1), (.loc 0)]), none, (some ((.loc 2), true))⟩,
  ⟨(.pick (.loc 3) (.loc 0) (.k (.bool false))), none, none⟩,
  ⟨(.mov (.loc 0)), none, none⟩,
  ⟨(.mov (.var 7)), none, (some ((.loc 0), true))⟩,
  ⟨(.mov (.var 9)), none, (some ((.loc 1), true))⟩,
  ⟨(.bin .eql (.loc 1) (.loc 0)), none, (some ((.loc 2), true))⟩,
  ⟨(.pick (.loc 3) (.loc 0) (.k (.bool false))), none, none⟩,
  ⟨(.mov (.loc 0)), none, none⟩,
  ⟨(.load true 4 (.var 10)), none, (some ((.loc 0), true))⟩,
  ⟨(.load true 4 (.var 12)), none, (some ((.loc 1), true))⟩,
  ⟨(.call true 15 [(.loc 1), (.loc 0)]), none, (some ((.loc 2), true))⟩,
  ⟨(.pick (.loc 3) (.loc 0) (.k (.bool false))), none, none⟩,
  ⟨(.mov (.loc 0)), none, none⟩,
  ⟨(.mov (.var 11)), none, (some ((.loc 0), true))⟩,
  ⟨(.mov (.var 13)), none, (some ((.loc 1), true))⟩,
  ⟨(.eqv .bool false (.loc 1) (.loc 0)), none, (some ((.loc 2), true))⟩,
  ⟨(.pick (.loc 3) (.loc 0) (.k (.bool false))), none, none⟩,
  ⟨(.mov (.loc 0)), none, none⟩,
  ⟨(.load true 4 (.var 3)), none, (some ((.loc 0), true))⟩,
  ⟨(.mov (.var 2)), none, (some ((.loc 1), true))⟩,
  ⟨(.call true 16 [(.loc 1), (.loc 0)]), none, (some ((.loc 2), true))⟩,
  ⟨(.load true 4 (.var 3)), none, (some ((.loc 3), true))⟩,
  ⟨(.mov (.var 2)), none, (some ((.loc 4), true))⟩,
  ⟨(.call true 17 [(.loc 1), (.loc 0)]), none, (some ((.loc 5), true))⟩,
  ⟨(.call true 15 [(.loc 3), (.loc 0)]), none, (some ((.loc 6), true))⟩,
  ⟨(.pick (.loc 7) (.loc 0) (.k (.bool false))), none, none⟩,
  ⟨(.mov (.loc 0)), (some 4), none⟩]
def c3 : CFun := ⟨3, 15, (.seq (.region [] [] c3_0) (.seq (.region [] [] c3_1) (.seq (.seq (.region [] [] c3_2) (.cond (.var 14) (.seq (.region [] [] c3_3) .ret) .skip)) (.seq (.region [] [] c3_4) (.seq (.region [] [] c3_5) (.seq (.region [] [] c3_6) (.seq (.region [] [] c3_7) (.seq (.region [] [] c3_8) .ret)))))))), [.var 4]⟩
theorem ok3 : CodeOk Try.prog T 3 c3 := ⟨⟨Try.f3, Hints.of [] [] [], [0, 1, 2, 4, 6, 7, 8, 9, 10, 11, 12, 13, 14, 15, 20], Try.func3, by kernel_rfl, by kernel_rfl⟩⟩

/-! spinney/spinneylaw09.SubstTwice -/
def c4_0 : List CO := [⟨(.box (.var 1)), (some 2), none⟩,
  ⟨(.mov (.k (.bool false))), (some 3), none⟩]
def c4_1 : List CO := [⟨(.call true 9 []), none, none⟩,
  ⟨(.mov (.loc 0)), (some 4), none⟩]
def c4_2 : List CO := [⟨(.mov (.var 0)), none, none⟩,
  ⟨(.load true 4 (.var 2)), none, none⟩,
  ⟨(.bslice 4 [(.int .i64 0), (.string ⟨#[]⟩), (.int .i64 0), (.slice none 0 0)] 1 [(0, (.loc 0))]), none, none⟩,
  ⟨(.call true 10 [(.loc 2), (.loc 0)]), (some 11), none⟩]
def c4_3 : List CO := [⟨(.mov (.var 4)), none, none⟩,
  ⟨(.mov (.loc 0)), (some 3), none⟩]
def c4_4 : List CO := [⟨(.mov (.var 0)), none, none⟩,
  ⟨(.load true 4 (.var 2)), none, none⟩,
  ⟨(.call true 18 [(.loc 1), (.loc 0)]), none, none⟩,
  ⟨(.mov (.loc 0)), none, none⟩,
  ⟨(.extract (.loc 0) 0), none, none⟩,
  ⟨(.extract (.loc 1) 1), none, none⟩,
  ⟨(.box (.k (.agg #[(.int .i64 0), (.string ⟨#[]⟩), (.int .i64 0), (.slice none 0 0)]))), (some 5), none⟩,
  ⟨(.store 4 (.var 5) (.loc 2)), none, none⟩,
  ⟨(.mov (.loc 2)), (some 6), none⟩]
def c4_5 : List CO := [⟨(.mov (.var 6)), none, none⟩,
  ⟨(.bin .neq (.loc 0) (.k (.int .i64 0))), (some 12), none⟩]
def c4_6 : List CO := [⟨(.mov (.var 4)), none, none⟩,
  ⟨(.mov (.loc 0)), none, none⟩,
  ⟨(.fa 0 (.var 5)), none, (some ((.loc 0), true))⟩,
  ⟨(.load false 1 (.loc 0)), none, (some ((.loc 1), true))⟩,
  ⟨(.bin .eql (.loc 0) (.k (.int .i64 0))), none, (some ((.loc 2), true))⟩,
  ⟨(.pick (.loc 3) (.loc 0) (.k (.bool false))), none, none⟩,
  ⟨(.mov (.loc 0)), (some 3), none⟩]
def c4_7 : List CO := [⟨(.load true 4 (.var 5)), none, none⟩,
  ⟨(.call true 19 [(.loc 0)]), (some 13), none⟩,
  ⟨(.len .slice (.var 13)), (some 14), none⟩,
  ⟨(.mov (.k (.int .i64 0))), (some 15), none⟩]
def c4_8 : List CO := [⟨(.bin .lss (.var 15) (.var 14)), (some 16), none⟩]
def c4_9 : List CO := [⟨(.ia 1 (.var 13) (.var 15)), none, none⟩,
  ⟨(.load false 1 (.loc 0)), none, none⟩,
  ⟨(.mov (.loc 0)), (some 7), none⟩]
def c4_10 : List CO := [⟨(.mov (.var 0)), none, none⟩,
  ⟨(.mov (.var 7)), none, none⟩,
  ⟨(.call true 13 [(.loc 1), (.loc 0)]), none, none⟩,
  ⟨(.mov (.loc 0)), none, none⟩,
  ⟨(.extract (.loc 0) 0), none, none⟩,
  ⟨(.extract (.loc 1) 1), none, none⟩,
  ⟨(.box (.k (.agg #[(.int .i64 0), (.string ⟨#[]⟩), (.int .i64 0), (.slice none 0 0)]))), none, none⟩,
  ⟨(.store 4 (.loc 0) (.loc 2)), none, none⟩,
  ⟨(.mov (.loc 2)), (some 8), none⟩]
def c4_11 : List CO := [⟨(.mov (.var 8)), none, none⟩,
  ⟨(.mov (.loc 0)), none, none⟩,
  ⟨(.load true 4 (.var 5)), none, (some ((.loc 0), true))⟩,
  ⟨(.call true 20 [(.loc 0)]), none, (some ((.loc 1), true))⟩,
  ⟨(.pick (.loc 2) (.loc 0) (.k (.bool false))), (some 17), none⟩]
def c4_12 : List CO := [⟨(.mov (.k (.bool false))), (some 3), none⟩]
def c4_13 : List CO := [⟨(.bin .add (.var 15) (.k (.int .i64 1))), none, none⟩,
  ⟨(.mov (.loc 0)), (some 15), none⟩]
def c4_14 : CC := (.seq (.region [] [] c4_8) (.seq (.cond (.var 16) .skip (.exit 0)) (.seq (.block 1 (.seq (.region [] [] c4_9) (.seq (.region [] [] c4_10) (.seq (.region [] [] c4_11) (.cond (.var 17) (.seq (.region [] [] c4_12) .ret) .skip))))) (.region [] [] c4_13))))
def c4_15 : List CO := [⟨(.load true 4 (.var 5)), none, none⟩,
  ⟨(.call true 18 [(.k (.slice none 0 0)), (.loc 0)]), none, none⟩,
  ⟨(.mov (.loc 0)), none, none⟩,
  ⟨(.extract (.loc 0) 0), none, none⟩,
  ⟨(.extract (.loc 1) 1), none, none⟩,
  ⟨(.box (.k (.agg #[(.int .i64 0), (.string ⟨#[]⟩), (.int .i64 0), (.slice none 0 0)]))), (some 9), none⟩,
  ⟨(.store 4 (.var 9) (.loc 2)), none, none⟩,
  ⟨(.mov (.loc 2)), (some 10), none⟩]
def c4_16 : List CO := [⟨(.mov (.var 4)), none, none⟩,
  ⟨(.mov (.loc 0)), none, none⟩,
  ⟨(.mov (.var 10)), none, (some ((.loc 0), true))⟩,
  ⟨(.bin .eql (.loc 0) (.k (.int .i64 0))), none, (some ((.loc 1), true))⟩,
  ⟨(.pick (.loc 2) (.loc 0) (.k (.bool false))), none, none⟩,
  ⟨(.mov (.loc 0)), none, none⟩,
  ⟨(.load true 4 (.var 5)), none, (some ((.loc 0), true))⟩,
  ⟨(.load true 4 (.var 9)), none, (some ((.loc 1), true))⟩,
  ⟨(.call true 15 [(.loc 1), (.loc 0)]), none, (some ((.loc 2), true))⟩,
  ⟨(.pick (.loc 3) (.loc 0) (.k (.bool false))), none, none⟩,
  ⟨(.mov (.loc 0)), (some 3), none⟩]
def c4 : CFun := ⟨2, 18, (.seq (.region [] [] c4_0) (.seq (.region [] [] c4_1) (.seq (.seq (.region [] [] c4_2) (.cond (.var 11) (.seq (.region [] [] c4_3) .ret) .skip)) (.seq (.region [] [] c4_4) (.seq (.seq (.region [] [] c4_5) (.cond (.var 12) (.seq (.region [] [] c4_6) .ret) .skip)) (.seq (.seq (.region [] [] c4_7) (.block 0 (.loop [true, false, false, false, true, true, false, false, false, false, false, false, false, true, true, true, false, false] [] c4_14))) (.seq (.region [] [] c4_15) (.seq (.region [] [] c4_16) .ret)))))))), [.var 3]⟩
theorem ok4 : CodeOk Try.prog T 4 c4 := ⟨⟨Try.f4, Hints.of [] [] [(0, [true, false, false, false, true, true, false, false, false, false, false, false, false, true, true, true, false, false], [])], [0, 1, 3, 4, 5, 6, 7, 9, 11, 12, 13, 18, 27, 35, 36, 37, 38, 51], Try.func4, by kernel_rfl, by kernel_rfl⟩⟩

/-! spinney/spinneylaw09.SubstOrder -/
def c5_0 : List CO := [⟨(.box (.var 3)), (some 4), none⟩,
  ⟨(.mov (.k (.bool false))), (some 5), none⟩]
def c5_1 : List CO := [⟨(.call true 9 []), none, none⟩,
  ⟨(.mov (.loc 0)), (some 6), none⟩]
def c5_2 : List CO := [⟨(.mov (.var 0)), none, none⟩,
  ⟨(.load true 4 (.var 4)), none, none⟩,
  ⟨(.bslice 4 [(.int .i64 0), (.string ⟨#[]⟩), (.int .i64 0), (.slice none 0 0)] 1 [(0, (.loc 0))]), none, none⟩,
  ⟨(.call true 10 [(.loc 2), (.loc 0)]), (some 14), none⟩]
def c5_3 : List CO := [⟨(.mov (.var 6)), none, none⟩,
  ⟨(.mov (.loc 0)), (some 5), none⟩]
def c5_4 : List CO := [⟨(.mov (.var 0)), none, none⟩,
  ⟨(.append 5 64 (.k (.slice none 0 0)) (.loc 0)), none, none⟩,
  ⟨(.mov (.var 1)), none, none⟩,
  ⟨(.load true 4 (.var 4)), none, none⟩,
  ⟨(.build [(.int .i64 0), (.int .i64 0), (.string ⟨#[]⟩), (.int .i64 0), (.slice none 0 0)] [(0, 1, (.loc 1)), (1, 4, (.loc 0))]), none, none⟩,
  ⟨(.bslice 5 [(.int .i64 0), (.int .i64 0), (.string ⟨#[]⟩), (.int .i64 0), (.slice none 0 0)] 1 [(0, (.loc 0))]), none, none⟩,
  ⟨(.append 5 64 (.loc 4) (.loc 0)), none, none⟩,
  ⟨(.mov (.loc 0)), (some 7), none⟩]
def c5_5 : List CO := [⟨(.mov (.var 7)), none, none⟩,
  ⟨(.mov (.var 1)), none, none⟩,
  ⟨(.call true 13 [(.loc 1), (.loc 0)]), none, none⟩,
  ⟨(.mov (.loc 0)), none, none⟩,
  ⟨(.extract (.loc 0) 0), none, none⟩,
  ⟨(.extract (.loc 1) 1), none, none⟩,
  ⟨(.box (.k (.agg #[(.int .i64 0), (.string ⟨#[]⟩), (.int .i64 0), (.slice none 0 0)]))), (some 8), none⟩,
  ⟨(.store 4 (.var 8) (.loc 2)), none, none⟩,
  ⟨(.mov (.loc 2)), (some 9), none⟩]
def c5_6 : List CO := [⟨(.mov (.var 7)), none, none⟩,
  ⟨(.mov (.var 2)), none, none⟩,
  ⟨(.call true 13 [(.loc 1), (.loc 0)]), none, none⟩,
  ⟨(.mov (.loc 0)), none, none⟩,
  ⟨(.extract (.loc 0) 0), none, none⟩,
  ⟨(.extract (.loc 1) 1), none, none⟩,
  ⟨(.box (.k (.agg #[(.int .i64 0), (.string ⟨#[]⟩), (.int .i64 0), (.slice none 0 0)]))), (some 10), none⟩,
  ⟨(.store 4 (.var 10) (.loc 2)), none, none⟩,
  ⟨(.mov (.loc 2)), (some 11), none⟩]
def c5_7 : List CO := [⟨(.mov (.var 0)), none, none⟩,
  ⟨(.mov (.var 2)), none, none⟩,
  ⟨(.call true 13 [(.loc 1), (.loc 0)]), none, none⟩,
  ⟨(.mov (.loc 0)), none, none⟩,
  ⟨(.extract (.loc 0) 0), none, none⟩,
  ⟨(.extract (.loc 1) 1), none, none⟩,
  ⟨(.box (.k (.agg #[(.int .i64 0), (.string ⟨#[]⟩), (.int .i64 0), (.slice none 0 0)]))), (some 12), none⟩,
  ⟨(.store 4 (.var 12) (.loc 2)), none, none⟩,
  ⟨(.mov (.loc 2)), (some 13), none⟩]
def c5_8 : List CO := [⟨(.mov (.var 6)), none, none⟩,
  ⟨(.mov (.loc 0)), none, none⟩,
  ⟨(.mov (.var 9)), none, (some ((.loc 0), true))⟩,
  ⟨(.pick (.loc 1) (.loc 0) (.k (.bool false))), none, none⟩,
  ⟨(.mov (.loc 0)), none, none⟩,
  ⟨(.load true 4 (.var 8)), none, (some ((.loc 0), true))⟩,
  ⟨(.load true 4 (.var 4)), none, (some ((.loc 1), true))⟩,
  ⟨(.call true 15 [(.loc 1), (.loc 0)]), none, (some ((.loc 2), true))⟩,
  ⟨(.pick (.loc 3) (.loc 0) (.k (.bool false))), none, none⟩,
  ⟨(.mov (.loc 0)), none, none⟩,
  ⟨(.mov (.var 2)), none, (some ((.loc 0), true))⟩,
  ⟨(.mov (.var 1)), none, (some ((.loc 1), true))⟩,
  ⟨(.bin .eql (.loc 1) (.loc 0)), none, (some ((.loc 2), true))⟩,
  ⟨(.mov (.loc 0)), none, (some ((.loc 3), true))⟩,
  ⟨(.load true 4 (.var 10)), none, (some ((.loc 0), false))⟩,
  ⟨(.load true 4 (.var 12)), none, (some ((.loc 1), false))⟩,
  ⟨(.call true 15 [(.loc 1), (.loc 0)]), none, (some ((.loc 2), false))⟩,
  ⟨(.mov (.loc 0)), none, (some ((.loc 3), false))⟩,
  ⟨(.mov (.var 11)), none, (some ((.loc 0), true))⟩,
  ⟨(.mov (.var 13)), none, (some ((.loc 1), true))⟩,
  ⟨(.eqv .bool false (.loc 1) (.loc 0)), none, (some ((.loc 2), true))⟩,
  ⟨(.pick (.loc 3) (.loc 0) (.k (.bool false))), none, (some ((.loc 7), false))⟩,
  ⟨(.pick (.loc 8) (.k (.bool true)) (.loc 0)), none, (some ((.loc 12), true))⟩,
  ⟨(.pick (.loc 13) (.loc 0) (.k (.bool false))), none, none⟩,
  ⟨(.mov (.loc 0)), (some 5), none⟩]
def c5 : CFun := ⟨4, 15, (.seq (.region [] [] c5_0) (.seq (.region [] [] c5_1) (.seq (.seq (.region [] [] c5_2) (.cond (.var 14) (.seq (.region [] [] c5_3) .ret) .skip)) (.seq (.region [] [] c5_4) (.seq (.region [.v 7] [] c5_5) (.seq (.region [] [] c5_6) (.seq (.region [] [] c5_7) (.seq (.region [] [] c5_8) .ret)))))))), [.var 5]⟩
theorem ok5 : CodeOk Try.prog T 5 c5 := ⟨⟨Try.f5, Hints.of [(5, [.v 7])] [] [], [0, 1, 2, 3, 7, 8, 9, 10, 11, 12, 13, 14, 15, 16, 21], Try.func5, by kernel_rfl, by kernel_rfl⟩⟩

/-! spinney/spinneylaw09.SubstShifts -/
def c6_0 : List CO := [⟨(.box (.var 1)), (some 3), none⟩,
  ⟨(.mov (.k (.bool false))), (some 4), none⟩]
def c6_1 : List CO := [⟨(.call true 9 []), none, none⟩,
  ⟨(.mov (.loc 0)), (some 5), none⟩]
def c6_2 : List CO := [⟨(.mov (.var 0)), none, none⟩,
  ⟨(.load true 4 (.var 3)), none, none⟩,
  ⟨(.bslice 4 [(.int .i64 0), (.string ⟨#[]⟩), (.int .i64 0), (.slice none 0 0)] 1 [(0, (.loc 0))]), none, none⟩,
  ⟨(.call true 10 [(.loc 2), (.loc 0)]), (some 12), none⟩]
def c6_3 : List CO := [⟨(.mov (.var 5)), none, none⟩,
  ⟨(.mov (.loc 0)), (some 4), none⟩]
def c6_4 : List CO := [⟨(.mov (.var 2)), none, none⟩,
  ⟨(.mm true (.loc 0) (.k (.int .i64 0))), none, none⟩,
  ⟨(.mm false (.loc 0) (.k (.int .i64 1000000))), none, none⟩,
  ⟨(.mov (.loc 0)), (some 2), none⟩]
def c6_5 : List CO := [⟨(.mov (.k (.slice none 0 0))), (some 6), none⟩]
def c6_6 : List CO := [⟨(.mov (.var 0)), (some 13), none⟩,
  ⟨(.len .slice (.var 13)), (some 14), none⟩,
  ⟨(.mov (.k (.int .i64 0))), (some 15), none⟩]
def c6_7 : List CO := [⟨(.bin .lss (.var 15) (.var 14)), (some 16), none⟩]
def c6_8 : List CO := [⟨(.ia 5 (.var 13) (.var 15)), none, none⟩,
  ⟨(.load true 5 (.loc 0)), none, none⟩,
  ⟨(.box (.k (.agg #[(.int .i64 0), (.int .i64 0), (.string ⟨#[]⟩), (.int .i64 0), (.slice none 0 0)]))), (some 7), none⟩,
  ⟨(.store 5 (.var 7) (.loc 1)), none, none⟩]
def c6_9 : List CO := [⟨(.fa 0 (.var 7)), none, none⟩,
  ⟨(.load false 1 (.loc 0)), none, none⟩,
  ⟨(.bin .gtr (.loc 0) (.k (.int .i64 1000000))), none, none⟩,
  ⟨(.mov (.loc 0)), none, none⟩,
  ⟨(.fa 0 (.var 7)), none, (some ((.loc 0), false))⟩,
  ⟨(.load false 1 (.loc 0)), none, (some ((.loc 1), false))⟩,
  ⟨(.bin .lss (.loc 0) (.k (.int .i64 (-1000000)))), none, (some ((.loc 2), false))⟩,
  ⟨(.pick (.loc 3) (.k (.bool true)) (.loc 0)), (some 17), none⟩]
def c6_10 : List CO := [⟨(.mov (.var 5)), none, none⟩,
  ⟨(.mov (.loc 0)), (some 4), none⟩]
def c6_11 : List CO := [⟨(.mov (.var 6)), none, none⟩,
  ⟨(.fa 0 (.var 7)), none, none⟩,
  ⟨(.load false 1 (.loc 0)), none, none⟩,
  ⟨(.mov (.var 2)), none, none⟩,
  ⟨(.bin .add (.loc 1) (.loc 0)), none, none⟩,
  ⟨(.fa 1 (.var 7)), none, none⟩,
  ⟨(.load true 4 (.loc 0)), none, none⟩,
  ⟨(.mov (.var 2)), none, none⟩,
  ⟨(.call true 16 [(.loc 1), (.loc 0)]), none, none⟩,
  ⟨(.build [(.int .i64 0), (.int .i64 0), (.string ⟨#[]⟩), (.int .i64 0), (.slice none 0 0)] [(0, 1, (.loc 4)), (1, 4, (.loc 0))]), none, none⟩,
  ⟨(.bslice 5 [(.int .i64 0), (.int .i64 0), (.string ⟨#[]⟩), (.int .i64 0), (.slice none 0 0)] 1 [(0, (.loc 0))]), none, none⟩,
  ⟨(.append 5 64 (.loc 10) (.loc 0)), none, none⟩,
  ⟨(.mov (.loc 0)), (some 6), none⟩]
def c6_12 : List CO := [⟨(.bin .add (.var 15) (.k (.int .i64 1))), none, none⟩,
  ⟨(.mov (.loc 0)), (some 15), none⟩]
def c6_13 : CC := (.seq (.region [] [] c6_7) (.seq (.cond (.var 16) .skip (.exit 0)) (.seq (.block 1 (.seq (.region [] [] c6_8) (.seq (.seq (.region [] [] c6_9) (.cond (.var 17) (.seq (.region [] [] c6_10) .ret) .skip)) (.region [] [] c6_11)))) (.region [] [] c6_12))))
def c6_14 : List CO := [⟨(.mov (.var 0)), none, none⟩,
  ⟨(.load true 4 (.var 3)), none, none⟩,
  ⟨(.call true 18 [(.loc 1), (.loc 0)]), none, none⟩,
  ⟨(.mov (.loc 0)), none, none⟩,
  ⟨(.extract (.loc 0) 0), none, none⟩,
  ⟨(.extract (.loc 1) 1), none, none⟩,
  ⟨(.box (.k (.agg #[(.int .i64 0), (.string ⟨#[]⟩), (.int .i64 0), (.slice none 0 0)]))), (some 8), none⟩,
  ⟨(.store 4 (.var 8) (.loc 2)), none, none⟩,
  ⟨(.mov (.loc 2)), (some 9), none⟩]
def c6_15 : List CO := [⟨(.mov (.var 6)), none, none⟩,
  ⟨(.load true 4 (.var 3)), none, none⟩,
  ⟨(.mov (.var 2)), none, none⟩,
  ⟨(.call true 16 [(.loc 1), (.loc 0)]), none, none⟩,
  ⟨(.call true 18 [(.loc 3), (.loc 0)]), none, none⟩,
  ⟨(.mov (.loc 0)), none, none⟩,
  ⟨(.extract (.loc 0) 0), none, none⟩,
  ⟨(.extract (.loc 1) 1), none, none⟩,
  ⟨(.box (.k (.agg #[(.int .i64 0), (.string ⟨#[]⟩), (.int .i64 0), (.slice none 0 0)]))), (some 10), none⟩,
  ⟨(.store 4 (.var 10) (.loc 2)), none, none⟩,
  ⟨(.mov (.loc 2)), (some 11), none⟩]
def c6_16 : List CO := [⟨(.mov (.var 5)), none, none⟩,
  ⟨(.mov (.loc 0)), none, none⟩,
  ⟨(.mov (.var 9)), none, (some ((.loc 0), true))⟩,
  ⟨(.mov (.var 11)), none, (some ((.loc 1), true))⟩,
  ⟨(.bin .eql (.loc 1) (.loc 0)), none, (some ((.loc 2), true))⟩,
  ⟨(.pick (.loc 3) (.loc 0) (.k (.bool false))), none, none⟩,
  ⟨(.mov (.loc 0)), none, none⟩,
  ⟨(.mov (.var 9)), none, (some ((.loc 0), true))⟩,
  ⟨(.bin .neq (.loc 0) (.k (.int .i64 0))), none, (some ((.loc 1), true))⟩,
  ⟨(.mov (.loc 0)), none, (some ((.loc 2), true))⟩,
  ⟨(.load true 4 (.var 8)), none, (some ((.loc 0), false))⟩,
  ⟨(.mov (.var 2)), none, (some ((.loc 1), false))⟩,
  ⟨(.call true 16 [(.loc 1), (.loc 0)]), none, (some ((.loc 2), false))⟩,
  ⟨(.load true 4 (.var 10)), none, (some ((.loc 3), false))⟩,
  ⟨(.call true 15 [(.loc 1), (.loc 0)]), none, (some ((.loc 4), false))⟩,
  ⟨(.pick (.loc 5) (.k (.bool true)) (.loc 0)), none, (some ((.loc 8), true))⟩,
  ⟨(.pick (.loc 9) (.loc 0) (.k (.bool false))), none, none⟩,
  ⟨(.mov (.loc 0)), (some 4), none⟩]
def c6 : CFun := ⟨3, 18, (.seq (.region [] [] c6_0) (.seq (.region [] [] c6_1) (.seq (.seq (.region [] [] c6_2) (.cond (.var 12) (.seq (.region [] [] c6_3) .ret) .skip)) (.seq (.region [] [] c6_4) (.seq (.region [] [] c6_5) (.seq (.seq (.region [] [] c6_6) (.block 0 (.loop [true, false, true, true, false, true, true, false, false, false, false, false, false, true, true, true, false, false] [] c6_13))) (.seq (.region [] [] c6_14) (.seq (.region [.v 6] [] c6_15) (.seq (.region [] [] c6_16) .ret))))))))), [.var 4]⟩
theorem ok6 : CodeOk Try.prog T 6 c6 := ⟨⟨Try.f6, Hints.of [(14, [.v 6])] [] [(0, [true, false, true, true, false, true, true, false, false, false, false, false, false, true, true, true, false, false], [])], [0, 1, 2, 4, 6, 7, 8, 10, 11, 12, 13, 14, 19, 24, 25, 26, 27, 37], Try.func6, by kernel_rfl, by kernel_rfl⟩⟩

/-! spinney/spinneylaw10.UnifyMakes -/
def c7_0 : List CO := [⟨(.box (.var 1)), (some 3), none⟩,
  ⟨(.box (.var 2)), (some 4), none⟩,
  ⟨(.mov (.k (.bool false))), (some 5), none⟩]
def c7_1 : List CO := [⟨(.call true 21 []), none, none⟩,
  ⟨(.mov (.loc 0)), (some 6), none⟩]
def c7_2 : List CO := [⟨(.mov (.var 0)), none, none⟩,
  ⟨(.load true 4 (.var 3)), none, none⟩,
  ⟨(.load true 4 (.var 4)), none, none⟩,
  ⟨(.bslice 4 [(.int .i64 0), (.string ⟨#[]⟩), (.int .i64 0), (.slice none 0 0)] 2 [(0, (.loc 1)), (1, (.loc 0))]), none, none⟩,
  ⟨(.call true 22 [(.loc 3), (.loc 0)]), (some 16), none⟩]
def c7_3 : List CO := [⟨(.mov (.var 6)), none, none⟩,
  ⟨(.mov (.loc 0)), (some 5), none⟩]
def c7_4 : List CO := [⟨(.mov (.var 0)), none, none⟩,
  ⟨(.append 5 64 (.k (.slice none 0 0)) (.loc 0)), none, none⟩,
  ⟨(.mov (.loc 0)), (some 7), none⟩]
def c7_5 : List CO := [⟨(.mov (.var 7)), none, none⟩,
  ⟨(.load true 4 (.var 3)), none, none⟩,
  ⟨(.call true 24 [(.loc 0)]), none, none⟩,
  ⟨(.load true 4 (.var 4)), none, none⟩,
  ⟨(.call true 24 [(.loc 0)]), none, none⟩,
  ⟨(.call true 23 [(.loc 4), (.loc 2), (.loc 0)]), none, none⟩,
  ⟨(.mov (.loc 0)), none, none⟩,
  ⟨(.extract (.loc 0) 0), none, none⟩,
  ⟨(.extract (.loc 1) 1), none, none⟩,
  ⟨(.extract (.loc 2) 2), none, none⟩,
  ⟨(.mov (.loc 2)), (some 8), none⟩,
  ⟨(.mov (.loc 2)), (some 9), none⟩,
  ⟨(.mov (.loc 2)), (some 10), none⟩]
def c7_6 : List CO := [⟨(.mov (.var 0)), none, none⟩,
  ⟨(.load true 4 (.var 3)), none, none⟩,
  ⟨(.load true 4 (.var 4)), none, none⟩,
  ⟨(.call true 25 [(.loc 2), (.loc 1), (.loc 0)]), none, none⟩,
  ⟨(.mov (.loc 0)), none, none⟩,
  ⟨(.extract (.loc 0) 0), none, none⟩,
  ⟨(.extract (.loc 1) 1), none, none⟩,
  ⟨(.extract (.loc 2) 2), none, none⟩,
  ⟨(.mov (.loc 2)), (some 11), none⟩,
  ⟨(.mov (.loc 2)), (some 12), none⟩,
  ⟨(.mov (.loc 2)), (some 13), none⟩]
def c7_7 : List CO := [⟨(.mov (.var 8)), none, none⟩,
  ⟨(.mov (.var 11)), none, none⟩,
  ⟨(.call true 26 [(.loc 1), (.loc 0)]), none, none⟩,
  ⟨(.mov (.loc 0)), none, none⟩,
  ⟨(.mov (.var 9)), none, (some ((.loc 0), true))⟩,
  ⟨(.mov (.var 12)), none, (some ((.loc 1), true))⟩,
  ⟨(.eqv .bool false (.loc 1) (.loc 0)), none, (some ((.loc 2), true))⟩,
  ⟨(.pick (.loc 3) (.loc 0) (.k (.bool false))), none, none⟩,
  ⟨(.mov (.loc 0)), none, none⟩,
  ⟨(.mov (.var 10)), none, (some ((.loc 0), true))⟩,
  ⟨(.mov (.var 13)), none, (some ((.loc 1), true))⟩,
  ⟨(.bin .eql (.loc 1) (.loc 0)), none, (some ((.loc 2), true))⟩,
  ⟨(.pick (.loc 3) (.loc 0) (.k (.bool false))), none, none⟩,
  ⟨(.mov (.loc 0)), (some 14), none⟩]
def c7_8 : List CO := [⟨(.mov (.var 8)), none, none⟩,
  ⟨(.len .slice (.loc 0)), (some 17), none⟩,
  ⟨(.mov (.k (.int .i64 0))), (some 18), none⟩]
def c7_9 : List CO := [⟨(.bin .lss (.var 18) (.var 17)), (some 19), none⟩]
def c7_10 : List CO := [⟨(.mov (.var 18)), none, none⟩,
  ⟨(.mov (.loc 0)), (some 15), none⟩]
def c7_11 : List CO := [⟨(.mov (.var 8)), none, none⟩,
  ⟨(.mov (.var 15)), none, none⟩,
  ⟨(.ia 5 (.loc 1) (.loc 0)), none, none⟩,
  ⟨(.fa 0 (.loc 0)), none, none⟩,
  ⟨(.store 1 (.loc 0) (.k (.int .i64 (-7)))), none, none⟩]
def c7_12 : List CO := [⟨(.bin .add (.var 18) (.k (.int .i64 1))), none, none⟩,
  ⟨(.mov (.loc 0)), (some 18), none⟩]
def c7_13 : CC := (.seq (.region [] [] c7_9) (.seq (.cond (.var 19) .skip (.exit 0)) (.seq (.block 1 (.seq (.region [] [] c7_10) (.region [] [] c7_11))) (.region [] [] c7_12))))
def c7_14 : List CO := [⟨(.mov (.var 6)), none, none⟩,
  ⟨(.mov (.loc 0)), none, none⟩,
  ⟨(.mov (.var 14)), none, (some ((.loc 0), true))⟩,
  ⟨(.pick (.loc 1) (.loc 0) (.k (.bool false))), none, none⟩,
  ⟨(.mov (.loc 0)), none, none⟩,
  ⟨(.mov (.var 7)), none, (some ((.loc 0), true))⟩,
  ⟨(.mov (.var 0)), none, (some ((.loc 1), true))⟩,
  ⟨(.call true 26 [(.loc 1), (.loc 0)]), none, (some ((.loc 2), true))⟩,
  ⟨(.pick (.loc 3) (.loc 0) (.k (.bool false))), none, none⟩,
  ⟨(.mov (.loc 0)), (some 5), none⟩]
def c7 : CFun := ⟨3, 20, (.seq (.region [] [] c7_0) (.seq (.region [] [] c7_1) (.seq (.seq (.region [] [] c7_2) (.cond (.var 16) (.seq (.region [] [] c7_3) .ret) .skip)) (.seq (.region [] [] c7_4) (.seq (.region [] [] c7_5) (.seq (.region [] [] c7_6) (.seq (.region [] [] c7_7) (.seq (.seq (.region [] [] c7_8) (.block 0 (.loop [true, false, false, false, false, false, true, true, true, false, false, false, false, false, true, false, false, true, true, false] [] c7_13))) (.seq (.region [] [] c7_14) .ret))))))))), [.var 5]⟩
theorem ok7 : CodeOk Try.prog T 7 c7 := ⟨⟨Try.f7, Hints.of [] [] [(0, [true, false, false, false, false, false, true, true, true, false, false, false, false, false, true, false, false, true, true, false], [])], [0, 1, 2, 4, 5, 6, 7, 8, 9, 10, 11, 12, 13, 14, 15, 16, 22, 58, 59, 60], Try.func7, by kernel_rfl, by kernel_rfl⟩⟩

/-! spinney/spinneylaw10.UnifyApart -/
def c8_0 : List CO := [⟨(.box (.var 1)), (some 3), none⟩,
  ⟨(.box (.var 2)), (some 4), none⟩,
  ⟨(.mov (.k (.bool false))), (some 5), none⟩]
def c8_1 : List CO := [⟨(.call true 21 []), none, none⟩,
  ⟨(.mov (.loc 0)), (some 6), none⟩]
def c8_2 : List CO := [⟨(.mov (.var 0)), none, none⟩,
  ⟨(.load true 4 (.var 3)), none, none⟩,
  ⟨(.load true 4 (.var 4)), none, none⟩,
  ⟨(.bslice 4 [(.int .i64 0), (.string ⟨#[]⟩), (.int .i64 0), (.slice none 0 0)] 2 [(0, (.loc 1)), (1, (.loc 0))]), none, none⟩,
  ⟨(.call true 22 [(.loc 3), (.loc 0)]), (some 12), none⟩]
def c8_3 : List CO := [⟨(.mov (.var 6)), none, none⟩,
  ⟨(.mov (.loc 0)), (some 5), none⟩]
def c8_4 : List CO := [⟨(.mov (.var 0)), none, none⟩,
  ⟨(.load true 4 (.var 3)), none, none⟩,
  ⟨(.load true 4 (.var 4)), none, none⟩,
  ⟨(.call true 23 [(.loc 2), (.loc 1), (.loc 0)]), none, none⟩,
  ⟨(.mov (.loc 0)), none, none⟩,
  ⟨(.extract (.loc 0) 0), none, none⟩,
  ⟨(.extract (.loc 1) 1), none, none⟩,
  ⟨(.extract (.loc 2) 2), none, none⟩,
  ⟨(.mov (.loc 2)), (some 7), none⟩,
  ⟨(.mov (.loc 2)), (some 8), none⟩,
  ⟨(.mov (.loc 2)), none, none⟩]
def c8_5 : List CO := [⟨(.mov (.var 8)), none, none⟩,
  ⟨(.un .not (.loc 0)), (some 13), none⟩]
def c8_6 : List CO := [⟨(.mov (.var 6)), none, none⟩,
  ⟨(.mov (.loc 0)), none, none⟩,
  ⟨(.mov (.var 7)), none, (some ((.loc 0), true))⟩,
  ⟨(.len .slice (.loc 0)), none, (some ((.loc 1), true))⟩,
  ⟨(.bin .eql (.loc 0) (.k (.int .i64 0))), none, (some ((.loc 2), true))⟩,
  ⟨(.pick (.loc 3) (.loc 0) (.k (.bool false))), none, none⟩,
  ⟨(.mov (.loc 0)), (some 5), none⟩]
def c8_7 : List CO := [⟨(.mov (.var 7)), none, none⟩,
  ⟨(.len .slice (.loc 0)), none, none⟩,
  ⟨(.mov (.var 0)), none, none⟩,
  ⟨(.len .slice (.loc 0)), none, none⟩,
  ⟨(.bin .lss (.loc 2) (.loc 0)), none, none⟩,
  ⟨(.mov (.loc 0)), none, none⟩,
  ⟨(.mov (.var 7)), none, (some ((.loc 0), false))⟩,
  ⟨(.mov (.var 0)), none, (some ((.loc 1), false))⟩,
  ⟨(.len .slice (.loc 0)), none, (some ((.loc 2), false))⟩,
  ⟨(.slice 5 (.loc 2) none (some (.loc 0)) none), none, (some ((.loc 3), false))⟩,
  ⟨(.mov (.var 0)), none, (some ((.loc 4), false))⟩,
  ⟨(.call true 26 [(.loc 1), (.loc 0)]), none, (some ((.loc 5), false))⟩,
  ⟨(.un .not (.loc 0)), none, (some ((.loc 6), false))⟩,
  ⟨(.pick (.loc 7) (.k (.bool true)) (.loc 0)), (some 14), none⟩]
def c8_8 : List CO := [⟨(.mov (.k (.bool false))), (some 5), none⟩]
def c8_9 : List CO := [⟨(.mkmap (.int .i64)), none, none⟩,
  ⟨(.mov (.loc 0)), (some 9), none⟩]
def c8_10 : List CO := [⟨(.mov (.var 7)), (some 15), none⟩,
  ⟨(.len .slice (.var 15)), (some 16), none⟩,
  ⟨(.mov (.k (.int .i64 0))), (some 17), none⟩]
def c8_11 : List CO := [⟨(.bin .lss (.var 17) (.var 16)), (some 18), none⟩]
def c8_12 : List CO := [⟨(.mov (.var 17)), none, none⟩,
  ⟨(.ia 5 (.var 15) (.var 17)), none, none⟩,
  ⟨(.load true 5 (.loc 0)), none, none⟩,
  ⟨(.box (.k (.agg #[(.int .i64 0), (.int .i64 0), (.string ⟨#[]⟩), (.int .i64 0), (.slice none 0 0)]))), (some 11), none⟩,
  ⟨(.mov (.loc 3)), (some 10), none⟩,
  ⟨(.store 5 (.var 11) (.loc 2)), none, none⟩]
def c8_13 : List CO := [⟨(.mov (.var 10)), none, none⟩,
  ⟨(.mov (.var 0)), none, none⟩,
  ⟨(.len .slice (.loc 0)), none, none⟩,
  ⟨(.bin .geq (.loc 2) (.loc 0)), none, none⟩,
  ⟨(.mov (.loc 0)), none, none⟩,
  ⟨(.mov (.var 9)), none, (some ((.loc 0), true))⟩,
  ⟨(.fa 0 (.var 11)), none, (some ((.loc 1), true))⟩,
  ⟨(.load false 1 (.loc 0)), none, (some ((.loc 2), true))⟩,
  ⟨(.lookup (.int .i64) (.bool false) false (.loc 2) (.loc 0)), none, (some ((.loc 3), true))⟩,
  ⟨(.pick (.loc 4) (.loc 0) (.k (.bool false))), (some 19), none⟩]
def c8_14 : List CO := [⟨(.mov (.k (.bool false))), (some 5), none⟩]
def c8_15 : List CO := [⟨(.mov (.var 9)), none, none⟩,
  ⟨(.fa 0 (.var 11)), none, none⟩,
  ⟨(.load false 1 (.loc 0)), none, none⟩,
  ⟨(.mapupd (.int .i64) (.loc 2) (.loc 0) (.k (.bool true))), none, none⟩]
def c8_16 : List CO := [⟨(.bin .add (.var 17) (.k (.int .i64 1))), none, none⟩,
  ⟨(.mov (.loc 0)), (some 17), none⟩]
def c8_17 : CC := (.seq (.region [] [] c8_11) (.seq (.cond (.var 18) .skip (.exit 0)) (.seq (.block 1 (.seq (.region [] [] c8_12) (.seq (.seq (.region [] [] c8_13) (.cond (.var 19) (.seq (.region [] [] c8_14) .ret) .skip)) (.region [] [] c8_15)))) (.region [] [] c8_16))))
def c8_18 : List CO := [⟨(.mov (.var 6)), none, none⟩,
  ⟨(.mov (.loc 0)), (some 5), none⟩]
def c8 : CFun := ⟨3, 20, (.seq (.region [] [] c8_0) (.seq (.region [] [] c8_1) (.seq (.seq (.region [] [] c8_2) (.cond (.var 12) (.seq (.region [] [] c8_3) .ret) .skip)) (.seq (.region [] [] c8_4) (.seq (.seq (.region [] [] c8_5) (.cond (.var 13) (.seq (.region [] [] c8_6) .ret) .skip)) (.seq (.seq (.region [] [] c8_7) (.cond (.var 14) (.seq (.region [] [] c8_8) .ret) .skip)) (.seq (.region [] [] c8_9) (.seq (.seq (.region [] [] c8_10) (.block 0 (.loop [true, false, false, false, false, false, true, false, false, true, false, false, false, false, false, true, true, true, false, false] [] c8_17))) (.seq (.region [] [] c8_18) .ret))))))))), [.var 5]⟩
theorem ok8 : CodeOk Try.prog T 8 c8 := ⟨⟨Try.f8, Hints.of [] [] [(0, [true, false, false, false, false, false, true, false, false, true, false, false, false, false, false, true, true, true, false, false], [])], [0, 1, 2, 4, 5, 6, 7, 8, 9, 11, 12, 13, 19, 30, 50, 52, 53, 54, 55, 68], Try.func8, by kernel_rfl, by kernel_rfl⟩⟩

/-! spinney/spinneylaw09.live -/
def c9_0 : List CO := [⟨(.mov (.k (.bool false))), (some 0), none⟩]
def c9_1 : List CO := [⟨(.call true 27 [(.k (.int .i64 0))]), none, none⟩,
  ⟨(.box (.k (.agg #[(.int .i64 0), (.string ⟨#[]⟩), (.int .i64 0), (.slice none 0 0)]))), (some 1), none⟩,
  ⟨(.store 4 (.var 1) (.loc 1)), none, none⟩]
def c9_2 : List CO := [⟨(.call true 27 [(.k (.int .i64 1))]), none, none⟩,
  ⟨(.box (.k (.agg #[(.int .i64 0), (.string ⟨#[]⟩), (.int .i64 0), (.slice none 0 0)]))), (some 2), none⟩,
  ⟨(.store 4 (.var 2) (.loc 1)), none, none⟩]
def c9_3 : List CO := [⟨(.call true 28 [(.k (.string ⟨#[97]⟩))]), none, none⟩,
  ⟨(.box (.k (.agg #[(.int .i64 0), (.string ⟨#[]⟩), (.int .i64 0), (.slice none 0 0)]))), (some 3), none⟩,
  ⟨(.store 4 (.var 3) (.loc 1)), none, none⟩]
def c9_4 : List CO := [⟨(.load true 4 (.var 2)), none, none⟩,
  ⟨(.bslice 4 [(.int .i64 0), (.string ⟨#[]⟩), (.int .i64 0), (.slice none 0 0)] 1 [(0, (.loc 0))]), none, none⟩,
  ⟨(.call true 29 [(.k (.string ⟨#[102]⟩)), (.loc 0)]), none, none⟩,
  ⟨(.build [(.int .i64 0), (.int .i64 0), (.string ⟨#[]⟩), (.int .i64 0), (.slice none 0 0)] [(0, 1, (.k (.int .i64 0))), (1, 4, (.loc 0))]), none, none⟩,
  ⟨(.load true 4 (.var 3)), none, none⟩,
  ⟨(.build [(.int .i64 0), (.int .i64 0), (.string ⟨#[]⟩), (.int .i64 0), (.slice none 0 0)] [(0, 1, (.k (.int .i64 1))), (1, 4, (.loc 0))]), none, none⟩,
  ⟨(.bslice 5 [(.int .i64 0), (.int .i64 0), (.string ⟨#[]⟩), (.int .i64 0), (.slice none 0 0)] 2 [(0, (.loc 2)), (1, (.loc 0))]), none, none⟩,
  ⟨(.mov (.loc 0)), (some 4), none⟩]
def c9_5 : List CO := [⟨(.mov (.var 4)), none, none⟩,
  ⟨(.load true 4 (.var 1)), none, none⟩,
  ⟨(.load true 4 (.var 2)), none, none⟩,
  ⟨(.bslice 4 [(.int .i64 0), (.string ⟨#[]⟩), (.int .i64 0), (.slice none 0 0)] 2 [(0, (.loc 1)), (1, (.loc 0))]), none, none⟩,
  ⟨(.call true 29 [(.k (.string ⟨#[103]⟩)), (.loc 0)]), none, none⟩,
  ⟨(.call true 18 [(.loc 4), (.loc 0)]), none, none⟩,
  ⟨(.mov (.loc 0)), none, none⟩,
  ⟨(.extract (.loc 0) 0), none, none⟩,
  ⟨(.extract (.loc 1) 1), none, none⟩,
  ⟨(.box (.k (.agg #[(.int .i64 0), (.string ⟨#[]⟩), (.int .i64 0), (.slice none 0 0)]))), (some 5), none⟩,
  ⟨(.store 4 (.var 5) (.loc 2)), none, none⟩,
  ⟨(.mov (.loc 2)), (some 6), none⟩]
def c9_6 : List CO := [⟨(.load true 4 (.var 1)), none, none⟩,
  ⟨(.bslice 4 [(.int .i64 0), (.string ⟨#[]⟩), (.int .i64 0), (.slice none 0 0)] 1 [(0, (.loc 0))]), none, none⟩,
  ⟨(.call true 29 [(.k (.string ⟨#[102]⟩)), (.loc 0)]), none, none⟩,
  ⟨(.build [(.int .i64 0), (.int .i64 0), (.string ⟨#[]⟩), (.int .i64 0), (.slice none 0 0)] [(0, 1, (.k (.int .i64 0))), (1, 4, (.loc 0))]), none, none⟩,
  ⟨(.bslice 5 [(.int .i64 0), (.int .i64 0), (.string ⟨#[]⟩), (.int .i64 0), (.slice none 0 0)] 1 [(0, (.loc 0))]), none, none⟩,
  ⟨(.load true 4 (.var 1)), none, none⟩,
  ⟨(.call true 18 [(.loc 1), (.loc 0)]), none, none⟩,
  ⟨(.mov (.loc 0)), none, none⟩,
  ⟨(.extract (.loc 0) 0), none, none⟩,
  ⟨(.extract (.loc 1) 1), none, none⟩,
  ⟨(.box (.k (.agg #[(.int .i64 0), (.string ⟨#[]⟩), (.int .i64 0), (.slice none 0 0)]))), none, none⟩,
  ⟨(.store 4 (.loc 0) (.loc 2)), none, none⟩,
  ⟨(.mov (.loc 2)), (some 7), none⟩]
def c9_7 : List CO := [⟨(.load true 4 (.var 2)), none, none⟩,
  ⟨(.build [(.int .i64 0), (.int .i64 0), (.string ⟨#[]⟩), (.int .i64 0), (.slice none 0 0)] [(0, 1, (.k (.int .i64 0))), (1, 4, (.loc 0))]), none, none⟩,
  ⟨(.load true 4 (.var 1)), none, none⟩,
  ⟨(.build [(.int .i64 0), (.int .i64 0), (.string ⟨#[]⟩), (.int .i64 0), (.slice none 0 0)] [(0, 1, (.k (.int .i64 1))), (1, 4, (.loc 0))]), none, none⟩,
  ⟨(.bslice 5 [(.int .i64 0), (.int .i64 0), (.string ⟨#[]⟩), (.int .i64 0), (.slice none 0 0)] 2 [(0, (.loc 2)), (1, (.loc 0))]), none, none⟩,
  ⟨(.load true 4 (.var 1)), none, none⟩,
  ⟨(.call true 11 [(.loc 1), (.loc 0)]), none, none⟩,
  ⟨(.mov (.loc 0)), none, none⟩,
  ⟨(.extract (.loc 0) 0), none, none⟩,
  ⟨(.extract (.loc 1) 1), none, none⟩,
  ⟨(.box (.k (.agg #[(.int .i64 0), (.string ⟨#[]⟩), (.int .i64 0), (.slice none 0 0)]))), none, none⟩,
  ⟨(.store 4 (.loc 0) (.loc 2)), none, none⟩,
  ⟨(.mov (.loc 2)), (some 8), none⟩]
def c9_8 : List CO := [⟨(.mov (.var 6)), none, none⟩,
  ⟨(.bin .eql (.loc 0) (.k (.int .i64 0))), none, none⟩,
  ⟨(.mov (.loc 0)), none, none⟩,
  ⟨(.load true 4 (.var 5)), none, (some ((.loc 0), true))⟩,
  ⟨(.load true 4 (.var 3)), none, (some ((.loc 1), true))⟩,
  ⟨(.bslice 4 [(.int .i64 0), (.string ⟨#[]⟩), (.int .i64 0), (.slice none 0 0)] 1 [(0, (.loc 0))]), none, (some ((.loc 2), true))⟩,
  ⟨(.call true 29 [(.k (.string ⟨#[102]⟩)), (.loc 0)]), none, (some ((.loc 3), true))⟩,
  ⟨(.load true 4 (.var 3)), none, (some ((.loc 4), true))⟩,
  ⟨(.bslice 4 [(.int .i64 0), (.string ⟨#[]⟩), (.int .i64 0), (.slice none 0 0)] 2 [(0, (.loc 1)), (1, (.loc 0))]), none, (some ((.loc 5), true))⟩,
  ⟨(.call true 29 [(.k (.string ⟨#[103]⟩)), (.loc 0)]), none, (some ((.loc 6), true))⟩,
  ⟨(.call true 15 [(.loc 6), (.loc 0)]), none, (some ((.loc 7), true))⟩,
  ⟨(.pick (.loc 8) (.loc 0) (.k (.bool false))), none, none⟩,
  ⟨(.mov (.loc 0)), none, none⟩,
  ⟨(.mov (.var 7)), none, (some ((.loc 0), true))⟩,
  ⟨(.bin .eql (.loc 0) (.k (.int .i64 3))), none, (some ((.loc 1), true))⟩,
  ⟨(.pick (.loc 2) (.loc 0) (.k (.bool false))), none, none⟩,
  ⟨(.mov (.loc 0)), none, none⟩,
  ⟨(.mov (.var 8)), none, (some ((.loc 0), true))⟩,
  ⟨(.bin .eql (.loc 0) (.k (.int .i64 140))), none, (some ((.loc 1), true))⟩,
  ⟨(.pick (.loc 2) (.loc 0) (.k (.bool false))), none, none⟩,
  ⟨(.mov (.loc 0)), none, none⟩,
  ⟨(.load true 4 (.var 1)), none, (some ((.loc 0), true))⟩,
  ⟨(.call true 16 [(.loc 0), (.k (.int .i64 1))]), none, (some ((.loc 1), true))⟩,
  ⟨(.load true 4 (.var 2)), none, (some ((.loc 2), true))⟩,
  ⟨(.call true 15 [(.loc 1), (.loc 0)]), none, (some ((.loc 3), true))⟩,
  ⟨(.pick (.loc 4) (.loc 0) (.k (.bool false))), none, none⟩,
  ⟨(.mov (.loc 0)), (some 0), none⟩]
def c9 : CFun := ⟨0, 9, (.seq (.region [] [] c9_0) (.seq (.region [] [] c9_1) (.seq (.region [] [] c9_2) (.seq (.region [] [] c9_3) (.seq (.region [] [] c9_4) (.seq (.region [] [] c9_5) (.seq (.region [] [] c9_6) (.seq (.region [] [] c9_7) (.seq (.region [] [] c9_8) .ret))))))))), [.var 0]⟩
theorem ok9 : CodeOk Try.prog T 9 c9 := ⟨⟨Try.f9, Hints.of [] [] [], [0, 1, 2, 3, 4, 5, 6, 8, 10], Try.func9, by kernel_rfl, by kernel_rfl⟩⟩

/-! spinney/spinneylaw09.big -/
def c10_0 : List CO := [⟨(.mov (.k (.bool false))), (some 2), none⟩]
def c10_1 : List CO := [⟨(.mov (.var 0)), none, none⟩,
  ⟨(.len .slice (.loc 0)), none, none⟩,
  ⟨(.bin .gtr (.loc 0) (.k (.int .i64 100))), (some 5), none⟩]
def c10_2 : List CO := [⟨(.mov (.k (.bool true))), (some 2), none⟩]
def c10_3 : List CO := [⟨(.mov (.var 0)), (some 6), none⟩,
  ⟨(.len .slice (.var 6)), (some 7), none⟩,
  ⟨(.mov (.k (.int .i64 0))), (some 8), none⟩]
def c10_4 : List CO := [⟨(.bin .lss (.var 8) (.var 7)), (some 9), none⟩]
def c10_5 : List CO := [⟨(.ia 5 (.var 6) (.var 8)), none, none⟩,
  ⟨(.load true 5 (.loc 0)), none, none⟩,
  ⟨(.box (.k (.agg #[(.int .i64 0), (.int .i64 0), (.string ⟨#[]⟩), (.int .i64 0), (.slice none 0 0)]))), (some 3), none⟩,
  ⟨(.store 5 (.var 3) (.loc 1)), none, none⟩]
def c10_6 : List CO := [⟨(.fa 1 (.var 3)), none, none⟩,
  ⟨(.load true 4 (.loc 0)), none, none⟩,
  ⟨(.call true 30 [(.loc 0), (.k (.int .i64 300))]), none, none⟩,
  ⟨(.un .not (.loc 0)), (some 10), none⟩]
def c10_7 : List CO := [⟨(.mov (.k (.bool true))), (some 2), none⟩]
def c10_8 : List CO := [⟨(.bin .add (.var 8) (.k (.int .i64 1))), none, none⟩,
  ⟨(.mov (.loc 0)), (some 8), none⟩]
def c10_9 : CC := (.seq (.region [] [] c10_4) (.seq (.cond (.var 9) .skip (.exit 0)) (.seq (.block 1 (.seq (.region [] [] c10_5) (.seq (.region [] [] c10_6) (.cond (.var 10) (.seq (.region [] [] c10_7) .ret) .skip)))) (.region [] [] c10_8))))
def c10_10 : List CO := [⟨(.mov (.var 1)), (some 11), none⟩,
  ⟨(.len .slice (.var 11)), (some 12), none⟩,
  ⟨(.mov (.k (.int .i64 0))), (some 13), none⟩]
def c10_11 : List CO := [⟨(.bin .lss (.var 13) (.var 12)), (some 14), none⟩]
def c10_12 : List CO := [⟨(.ia 4 (.var 11) (.var 13)), none, none⟩,
  ⟨(.load true 4 (.loc 0)), none, none⟩,
  ⟨(.box (.k (.agg #[(.int .i64 0), (.string ⟨#[]⟩), (.int .i64 0), (.slice none 0 0)]))), (some 4), none⟩,
  ⟨(.store 4 (.var 4) (.loc 1)), none, none⟩]
def c10_13 : List CO := [⟨(.load true 4 (.var 4)), none, none⟩,
  ⟨(.call true 30 [(.loc 0), (.k (.int .i64 3000))]), none, none⟩,
  ⟨(.un .not (.loc 0)), (some 15), none⟩]
def c10_14 : List CO := [⟨(.mov (.k (.bool true))), (some 2), none⟩]
def c10_15 : List CO := [⟨(.bin .add (.var 13) (.k (.int .i64 1))), none, none⟩,
  ⟨(.mov (.loc 0)), (some 13), none⟩]
def c10_16 : CC := (.seq (.region [] [] c10_11) (.seq (.cond (.var 14) .skip (.exit 2)) (.seq (.block 3 (.seq (.region [] [] c10_12) (.seq (.region [] [] c10_13) (.cond (.var 15) (.seq (.region [] [] c10_14) .ret) .skip)))) (.region [] [] c10_15))))
def c10_17 : List CO := [⟨(.mov (.k (.bool false))), (some 2), none⟩]
def c10 : CFun := ⟨2, 16, (.seq (.region [] [] c10_0) (.seq (.seq (.region [] [] c10_1) (.cond (.var 5) (.seq (.region [] [] c10_2) .ret) .skip)) (.seq (.seq (.region [] [] c10_3) (.block 0 (.loop [false, true, false, false, false, false, true, true, true, false, false, false, false, false, false, false] [] c10_9))) (.seq (.seq (.region [] [] c10_10) (.block 2 (.loop [false, false, false, false, false, false, false, false, false, false, false, true, true, true, false, false] [] c10_16))) (.seq (.region [] [] c10_17) .ret))))), [.var 2]⟩
theorem ok10 : CodeOk Try.prog T 10 c10 := ⟨⟨Try.f10, Hints.of [] [] [(0, [false, true, false, false, false, false, true, true, true, false, false, false, false, false, false, false], []), (2, [false, false, false, false, false, false, false, false, false, false, false, true, true, true, false, false], [])], [0, 1, 4, 6, 8, 11, 12, 13, 14, 15, 21, 23, 24, 25, 26, 31], Try.func10, by kernel_rfl, by kernel_rfl⟩⟩

/-! spinney/subst.Walk -/
def c11_0 : List CO := [⟨(.box (.var 1)), (some 2), none⟩,
  ⟨(.box (.k (.agg #[(.int .i64 0), (.string ⟨#[]⟩), (.int .i64 0), (.slice none 0 0)]))), (some 3), none⟩,
  ⟨(.mov (.k (.int .i64 0))), (some 4), none⟩]
def c11_1 : List CO := [⟨(.box (.k (.int .i64 0))), (some 5), none⟩,
  ⟨(.store 1 (.var 5) (.k (.int .i64 2000))), none, none⟩]
def c11_2 : List CO := [⟨(.mov (.var 0)), none, none⟩,
  ⟨(.load true 4 (.var 2)), none, none⟩,
  ⟨(.call false 31 [(.loc 1), (.loc 0), (.var 5)]), none, none⟩,
  ⟨(.extract (.loc 0) 0), none, none⟩,
  ⟨(.extract (.loc 1) 1), none, none⟩,
  ⟨(.store 4 (.var 3) (.loc 1)), none, none⟩,
  ⟨(.mov (.loc 1)), (some 4), none⟩]
def c11 : CFun := ⟨2, 6, (.seq (.region [] [] c11_0) (.seq (.region [] [] c11_1) (.seq (.region [] [] c11_2) .ret))), [.cell 3 true 4, .var 4]⟩
theorem ok11 : CodeOk Try.prog T 11 c11 := ⟨⟨Try.f11, Hints.of [] [] [], [0, 1, 3, 4, 5, 6], Try.func11, by kernel_rfl, by kernel_rfl⟩⟩

/-! spinney/spinneyref09.Walk -/
def c12_0 : List CO := [⟨(.box (.var 1)), (some 2), none⟩,
  ⟨(.box (.k (.agg #[(.int .i64 0), (.string ⟨#[]⟩), (.int .i64 0), (.slice none 0 0)]))), (some 3), none⟩,
  ⟨(.mov (.k (.int .i64 0))), (some 4), none⟩]
def c12_1 : List CO := [⟨(.build [(.int .i64 0)] []), none, none⟩,
  ⟨(.box (.loc 0)), none, none⟩,
  ⟨(.mov (.loc 0)), (some 5), none⟩]
def c12_2 : List CO := [⟨(.mov (.var 5)), none, none⟩,
  ⟨(.mov (.var 0)), none, none⟩,
  ⟨(.load true 4 (.var 2)), none, none⟩,
  ⟨(.call false 32 [(.loc 2), (.loc 1), (.loc 0)]), none, none⟩,
  ⟨(.extract (.loc 0) 0), none, none⟩,
  ⟨(.extract (.loc 1) 1), none, none⟩,
  ⟨(.store 4 (.var 3) (.loc 1)), none, none⟩,
  ⟨(.mov (.loc 1)), (some 4), none⟩]
def c12 : CFun := ⟨2, 6, (.seq (.region [] [] c12_0) (.seq (.region [] [] c12_1) (.seq (.region [] [] c12_2) .ret))), [.cell 3 true 4, .var 4]⟩
theorem ok12 : CodeOk Try.prog T 12 c12 := ⟨⟨Try.f12, Hints.of [] [] [], [0, 1, 3, 4, 5, 6], Try.func12, by kernel_rfl, by kernel_rfl⟩⟩

/-! spinney/spinneyref09.Look -/
def c14_0 : List CO := [⟨(.box (.k (.agg #[(.int .i64 0), (.string ⟨#[]⟩), (.int .i64 0), (.slice none 0 0)]))), (some 2), none⟩,
  ⟨(.mov (.k (.bool false))), (some 3), none⟩]
def c14_1 : List CO := [⟨(.mov (.var 0)), none, none⟩,
  ⟨(.len .slice (.loc 0)), none, none⟩,
  ⟨(.bin .sub (.loc 0) (.k (.int .i64 1))), none, none⟩,
  ⟨(.mov (.loc 0)), (some 4), none⟩]
def c14_2 : List CO := [⟨(.mov (.var 4)), none, none⟩,
  ⟨(.bin .geq (.loc 0) (.k (.int .i64 0))), (some 5), none⟩]
def c14_3 : List CO := [⟨(.mov (.var 0)), none, none⟩,
  ⟨(.mov (.var 4)), none, none⟩,
  ⟨(.ia 5 (.loc 1) (.loc 0)), none, none⟩,
  ⟨(.fa 0 (.loc 0)), none, none⟩,
  ⟨(.load false 1 (.loc 0)), none, none⟩,
  ⟨(.mov (.var 1)), none, none⟩,
  ⟨(.bin .eql (.loc 1) (.loc 0)), (some 6), none⟩]
def c14_4 : List CO := [⟨(.mov (.var 0)), none, none⟩,
  ⟨(.mov (.var 4)), none, none⟩,
  ⟨(.ia 5 (.loc 1) (.loc 0)), none, none⟩,
  ⟨(.fa 1 (.loc 0)), none, none⟩,
  ⟨(.load true 4 (.loc 0)), none, none⟩,
  ⟨(.store 4 (.var 2) (.loc 0)), none, none⟩,
  ⟨(.mov (.k (.bool true))), (some 3), none⟩]
def c14_5 : List CO := [⟨(.mov (.var 4)), none, none⟩,
  ⟨(.bin .sub (.loc 0) (.k (.int .i64 1))), none, none⟩,
  ⟨(.mov (.loc 0)), (some 4), none⟩]
def c14_6 : CC := (.seq (.seq (.region [] [] c14_2) (.cond (.var 5) .skip (.exit 0))) (.seq (.block 1 (.seq (.region [] [] c14_3) (.cond (.var 6) (.seq (.region [] [] c14_4) .ret) .skip))) (.region [] [] c14_5)))
def c14_7 : List CO := [⟨(.build [(.int .i64 0), (.string ⟨#[]⟩), (.int .i64 0), (.slice none 0 0)] []), none, none⟩,
  ⟨(.store 4 (.var 2) (.loc 0)), none, none⟩,
  ⟨(.mov (.k (.bool false))), (some 3), none⟩]
def c14 : CFun := ⟨2, 7, (.seq (.region [] [] c14_0) (.seq (.seq (.region [] [] c14_1) (.block 0 (.loop [true, true, true, false, true, false, false] [] c14_6))) (.seq (.region [] [] c14_7) .ret))), [.cell 2 true 4, .var 3]⟩
theorem ok14 : CodeOk Try.prog T 14 c14 := ⟨⟨Try.f14, Hints.of [] [] [(0, [true, true, true, false, true, false, false], [])], [0, 1, 4, 5, 6, 11, 20], Try.func14, by kernel_rfl, by kernel_rfl⟩⟩

/-! spinney/spinneyref03.Same -/
def c15_0 : List CO := [⟨(.box (.var 0)), (some 2), none⟩,
  ⟨(.box (.var 1)), (some 3), none⟩,
  ⟨(.mov (.k (.bool false))), (some 4), none⟩]
def c15_1 : List CO := [⟨(.fa 0 (.var 2)), none, none⟩,
  ⟨(.load false 1 (.loc 0)), none, none⟩,
  ⟨(.fa 0 (.var 3)), none, none⟩,
  ⟨(.load false 1 (.loc 0)), none, none⟩,
  ⟨(.bin .neq (.loc 2) (.loc 0)), none, none⟩,
  ⟨(.mov (.loc 0)), none, none⟩,
  ⟨(.fa 1 (.var 2)), none, (some ((.loc 0), false))⟩,
  ⟨(.load false 1 (.loc 0)), none, (some ((.loc 1), false))⟩,
  ⟨(.fa 1 (.var 3)), none, (some ((.loc 2), false))⟩,
  ⟨(.load false 1 (.loc 0)), none, (some ((.loc 3), false))⟩,
  ⟨(.bin .neq (.loc 2) (.loc 0)), none, (some ((.loc 4), false))⟩,
  ⟨(.pick (.loc 5) (.k (.bool true)) (.loc 0)), none, none⟩,
  ⟨(.mov (.loc 0)), none, none⟩,
  ⟨(.fa 2 (.var 2)), none, (some ((.loc 0), false))⟩,
  ⟨(.load false 1 (.loc 0)), none, (some ((.loc 1), false))⟩,
  ⟨(.fa 2 (.var 3)), none, (some ((.loc 2), false))⟩,
  ⟨(.load false 1 (.loc 0)), none, (some ((.loc 3), false))⟩,
  ⟨(.bin .neq (.loc 2) (.loc 0)), none, (some ((.loc 4), false))⟩,
  ⟨(.pick (.loc 5) (.k (.bool true)) (.loc 0)), none, none⟩,
  ⟨(.mov (.loc 0)), none, none⟩,
  ⟨(.fa 3 (.var 2)), none, (some ((.loc 0), false))⟩,
  ⟨(.load false 1 (.loc 0)), none, (some ((.loc 1), false))⟩,
  ⟨(.len .slice (.loc 0)), none, (some ((.loc 2), false))⟩,
  ⟨(.fa 3 (.var 3)), none, (some ((.loc 3), false))⟩,
  ⟨(.load false 1 (.loc 0)), none, (some ((.loc 4), false))⟩,
  ⟨(.len .slice (.loc 0)), none, (some ((.loc 5), false))⟩,
  ⟨(.bin .neq (.loc 3) (.loc 0)), none, (some ((.loc 6), false))⟩,
  ⟨(.pick (.loc 7) (.k (.bool true)) (.loc 0)), (some 6), none⟩]
def c15_2 : List CO := [⟨(.mov (.k (.bool false))), (some 4), none⟩]
def c15_3 : List CO := [⟨(.fa 3 (.var 2)), none, none⟩,
  ⟨(.load false 1 (.loc 0)), none, none⟩,
  ⟨(.len .slice (.loc 0)), (some 7), none⟩,
  ⟨(.mov (.k (.int .i64 0))), (some 8), none⟩]
def c15_4 : List CO := [⟨(.bin .lss (.var 8) (.var 7)), (some 9), none⟩]
def c15_5 : List CO := [⟨(.mov (.var 8)), none, none⟩,
  ⟨(.mov (.loc 0)), (some 5), none⟩]
def c15_6 : List CO := [⟨(.fa 3 (.var 2)), none, none⟩,
  ⟨(.load false 1 (.loc 0)), none, none⟩,
  ⟨(.mov (.var 5)), none, none⟩,
  ⟨(.ia 4 (.loc 1) (.loc 0)), none, none⟩,
  ⟨(.load true 4 (.loc 0)), none, none⟩,
  ⟨(.fa 3 (.var 3)), none, none⟩,
  ⟨(.load false 1 (.loc 0)), none, none⟩,
  ⟨(.mov (.var 5)), none, none⟩,
  ⟨(.ia 4 (.loc 1) (.loc 0)), none, none⟩,
  ⟨(.load true 4 (.loc 0)), none, none⟩,
  ⟨(.call true 15 [(.loc 5), (.loc 0)]), none, none⟩,
  ⟨(.un .not (.loc 0)), (some 10), none⟩]
def c15_7 : List CO := [⟨(.mov (.k (.bool false))), (some 4), none⟩]
def c15_8 : List CO := [⟨(.bin .add (.var 8) (.k (.int .i64 1))), none, none⟩,
  ⟨(.mov (.loc 0)), (some 8), none⟩]
def c15_9 : CC := (.seq (.region [] [] c15_4) (.seq (.cond (.var 9) .skip (.exit 0)) (.seq (.block 1 (.seq (.region [] [] c15_5) (.seq (.region [] [] c15_6) (.cond (.var 10) (.seq (.region [] [] c15_7) .ret) .skip)))) (.region [] [] c15_8))))
def c15_10 : List CO := [⟨(.mov (.k (.bool true))), (some 4), none⟩]
def c15 : CFun := ⟨2, 11, (.seq (.region [] [] c15_0) (.seq (.seq (.region [] [] c15_1) (.cond (.var 6) (.seq (.region [] [] c15_2) .ret) .skip)) (.seq (.seq (.region [] [] c15_3) (.block 0 (.loop [false, false, true, true, false, false, false, true, true, false, false] [] c15_9))) (.seq (.region [] [] c15_10) .ret)))), [.var 4]⟩
theorem ok15 : CodeOk Try.prog T 15 c15 := ⟨⟨Try.f15, Hints.of [] [] [(0, [false, false, true, true, false, false, false, true, true, false, false], [])], [0, 1, 2, 3, 4, 5, 33, 36, 37, 38, 51], Try.func15, by kernel_rfl, by kernel_rfl⟩⟩

/-! spinney/subst.Fresh -/
def c16_0 : List CO := [⟨(.box (.var 0)), (some 2), none⟩,
  ⟨(.box (.k (.agg #[(.int .i64 0), (.string ⟨#[]⟩), (.int .i64 0), (.slice none 0 0)]))), (some 3), none⟩]
def c16_1 : List CO := [⟨(.load true 4 (.var 2)), none, none⟩,
  ⟨(.mov (.var 1)), none, none⟩,
  ⟨(.call true 34 [(.loc 1), (.loc 0)]), none, none⟩,
  ⟨(.store 4 (.var 3) (.loc 0)), none, none⟩]
def c16 : CFun := ⟨2, 4, (.seq (.region [] [] c16_0) (.seq (.region [] [] c16_1) .ret)), [.cell 3 true 4]⟩
theorem ok16 : CodeOk Try.prog T 16 c16 := ⟨⟨Try.f16, Hints.of [] [] [], [0, 1, 2, 4], Try.func16, by kernel_rfl, by kernel_rfl⟩⟩

/-! spinney/spinneyref09.Fresh -/
def c17_0 : List CO := [⟨(.box (.var 0)), (some 2), none⟩,
  ⟨(.box (.k (.agg #[(.int .i64 0), (.string ⟨#[]⟩), (.int .i64 0), (.slice none 0 0)]))), (some 3), none⟩]
def c17_1 : List CO := [⟨(.load true 4 (.var 2)), none, none⟩,
  ⟨(.mov (.var 1)), none, none⟩,
  ⟨(.call true 35 [(.loc 1), (.loc 0)]), none, none⟩,
  ⟨(.store 4 (.var 3) (.loc 0)), none, none⟩]
def c17 : CFun := ⟨2, 4, (.seq (.region [] [] c17_0) (.seq (.region [] [] c17_1) .ret)), [.cell 3 true 4]⟩
theorem ok17 : CodeOk Try.prog T 17 c17 := ⟨⟨Try.f17, Hints.of [] [] [], [0, 1, 2, 4], Try.func17, by kernel_rfl, by kernel_rfl⟩⟩

/-! spinney/subst.Resolve -/
def c18_0 : List CO := [⟨(.box (.var 1)), (some 2), none⟩,
  ⟨(.box (.k (.agg #[(.int .i64 0), (.string ⟨#[]⟩), (.int .i64 0), (.slice none 0 0)]))), (some 3), none⟩,
  ⟨(.mov (.k (.int .i64 0))), (some 4), none⟩]
def c18_1 : List CO := [⟨(.mov (.var 0)), none, none⟩,
  ⟨(.build [(.slice none 0 0), (.int .i64 0), (.int .i64 0)] [(0, 1, (.loc 0)), (1, 1, (.k (.int .i64 2000)))]), none, none⟩,
  ⟨(.box (.loc 0)), none, none⟩,
  ⟨(.mov (.loc 0)), (some 5), none⟩]
def c18_2 : List CO := [⟨(.mov (.var 5)), none, none⟩,
  ⟨(.load true 4 (.var 2)), none, none⟩,
  ⟨(.call false 36 [(.loc 1), (.loc 0)]), none, none⟩,
  ⟨(.extract (.loc 0) 0), none, none⟩,
  ⟨(.extract (.loc 1) 1), none, none⟩,
  ⟨(.store 4 (.var 3) (.loc 1)), none, none⟩,
  ⟨(.mov (.loc 1)), (some 4), none⟩]
def c18 : CFun := ⟨2, 6, (.seq (.region [] [] c18_0) (.seq (.region [] [] c18_1) (.seq (.region [] [] c18_2) .ret))), [.cell 3 true 4, .var 4]⟩
theorem ok18 : CodeOk Try.prog T 18 c18 := ⟨⟨Try.f18, Hints.of [] [] [], [0, 1, 3, 4, 5, 6], Try.func18, by kernel_rfl, by kernel_rfl⟩⟩

/-! spinney/spinneyref03.Vars -/
def c19_0 : List CO := [⟨(.box (.var 0)), (some 1), none⟩,
  ⟨(.mov (.k (.slice none 0 0))), (some 2), none⟩]
def c19_1 : List CO := [⟨(.mov (.k (.slice none 0 0))), (some 3), none⟩]
def c19_2 : List CO := [⟨(.load true 4 (.var 1)), none, none⟩,
  ⟨(.call true 37 [(.loc 0)]), (some 5), none⟩,
  ⟨(.len .slice (.var 5)), (some 6), none⟩,
  ⟨(.mov (.k (.int .i64 0))), (some 7), none⟩]
def c19_3 : List CO := [⟨(.bin .lss (.var 7) (.var 6)), (some 8), none⟩]
def c19_4 : List CO := [⟨(.ia 1 (.var 5) (.var 7)), none, none⟩,
  ⟨(.load false 1 (.loc 0)), none, none⟩,
  ⟨(.mov (.loc 0)), (some 4), none⟩]
def c19_5 : List CO := [⟨(.mov (.var 3)), none, none⟩,
  ⟨(.mov (.var 4)), none, none⟩,
  ⟨(.call true 38 [(.loc 1), (.loc 0)]), none, none⟩,
  ⟨(.un .not (.loc 0)), (some 9), none⟩]
def c19_6 : List CO := [⟨(.mov (.var 3)), none, none⟩,
  ⟨(.mov (.var 4)), none, none⟩,
  ⟨(.bslice 1 [(.int .i64 0)] 1 [(0, (.loc 0))]), none, none⟩,
  ⟨(.append 1 8 (.loc 2) (.loc 0)), none, none⟩,
  ⟨(.mov (.loc 0)), (some 3), none⟩]
def c19_7 : List CO := [⟨(.bin .add (.var 7) (.k (.int .i64 1))), none, none⟩,
  ⟨(.mov (.loc 0)), (some 7), none⟩]
def c19_8 : CC := (.seq (.region [] [] c19_3) (.seq (.cond (.var 8) .skip (.exit 0)) (.seq (.block 1 (.seq (.region [] [] c19_4) (.seq (.region [.v 3] [] c19_5) (.cond (.var 9) (.region [] [] c19_6) .skip)))) (.region [] [] c19_7))))
def c19_9 : List CO := [⟨(.mov (.var 3)), none, none⟩,
  ⟨(.mov (.loc 0)), (some 2), none⟩]
def c19 : CFun := ⟨1, 10, (.seq (.region [] [] c19_0) (.seq (.region [] [] c19_1) (.seq (.seq (.region [] [] c19_2) (.block 0 (.loop [false, false, false, true, false, true, true, true, false, false] [] c19_8))) (.seq (.region [] [] c19_9) .ret)))), [.var 2]⟩
theorem ok19 : CodeOk Try.prog T 19 c19 := ⟨⟨Try.f19, Hints.of [(5, [.v 3])] [] [(0, [false, false, false, true, false, true, true, true, false, false], [])], [0, 1, 2, 3, 5, 7, 8, 9, 10, 16], Try.func19, by kernel_rfl, by kernel_rfl⟩⟩

/-! spinney/spinneylaw09.noArgs -/
def c20_0 : List CO := [⟨(.box (.var 0)), (some 1), none⟩,
  ⟨(.mov (.k (.bool false))), (some 2), none⟩]
def c20_1 : List CO := [⟨(.fa 0 (.var 1)), none, none⟩,
  ⟨(.load false 1 (.loc 0)), none, none⟩,
  ⟨(.bin .eql (.loc 0) (.k (.int .i64 1))), none, none⟩,
  ⟨(.mov (.loc 0)), none, none⟩,
  ⟨(.fa 3 (.var 1)), none, (some ((.loc 0), true))⟩,
  ⟨(.load false 1 (.loc 0)), none, (some ((.loc 1), true))⟩,
  ⟨(.len .slice (.loc 0)), none, (some ((.loc 2), true))⟩,
  ⟨(.bin .gtr (.loc 0) (.k (.int .i64 0))), none, (some ((.loc 3), true))⟩,
  ⟨(.pick (.loc 4) (.loc 0) (.k (.bool false))), (some 4), none⟩]
def c20_2 : List CO := [⟨(.mov (.k (.bool false))), (some 2), none⟩]
def c20_3 : List CO := [⟨(.fa 3 (.var 1)), none, none⟩,
  ⟨(.load false 1 (.loc 0)), (some 5), none⟩,
  ⟨(.len .slice (.var 5)), (some 6), none⟩,
  ⟨(.mov (.k (.int .i64 0))), (some 7), none⟩]
def c20_4 : List CO := [⟨(.bin .lss (.var 7) (.var 6)), (some 8), none⟩]
def c20_5 : List CO := [⟨(.ia 4 (.var 5) (.var 7)), none, none⟩,
  ⟨(.load true 4 (.loc 0)), none, none⟩,
  ⟨(.box (.k (.agg #[(.int .i64 0), (.string ⟨#[]⟩), (.int .i64 0), (.slice none 0 0)]))), (some 3), none⟩,
  ⟨(.store 4 (.var 3) (.loc 1)), none, none⟩]
def c20_6 : List CO := [⟨(.load true 4 (.var 3)), none, none⟩,
  ⟨(.call true 20 [(.loc 0)]), none, none⟩,
  ⟨(.un .not (.loc 0)), (some 9), none⟩]
def c20_7 : List CO := [⟨(.mov (.k (.bool false))), (some 2), none⟩]
def c20_8 : List CO := [⟨(.bin .add (.var 7) (.k (.int .i64 1))), none, none⟩,
  ⟨(.mov (.loc 0)), (some 7), none⟩]
def c20_9 : CC := (.seq (.region [] [] c20_4) (.seq (.cond (.var 8) .skip (.exit 0)) (.seq (.block 1 (.seq (.region [] [] c20_5) (.seq (.region [] [] c20_6) (.cond (.var 9) (.seq (.region [] [] c20_7) .ret) .skip)))) (.region [] [] c20_8))))
def c20_10 : List CO := [⟨(.mov (.k (.bool true))), (some 2), none⟩]
def c20 : CFun := ⟨1, 10, (.seq (.region [] [] c20_0) (.seq (.seq (.region [] [] c20_1) (.cond (.var 4) (.seq (.region [] [] c20_2) .ret) .skip)) (.seq (.seq (.region [] [] c20_3) (.block 0 (.loop [false, false, false, false, false, true, true, true, false, false] [] c20_9))) (.seq (.region [] [] c20_10) .ret)))), [.var 2]⟩
theorem ok20 : CodeOk Try.prog T 20 c20 := ⟨⟨Try.f20, Hints.of [] [] [(0, [false, false, false, false, false, true, true, true, false, false], [])], [0, 1, 2, 4, 13, 15, 16, 17, 18, 23], Try.func20, by kernel_rfl, by kernel_rfl⟩⟩

/-! spinney/spinneylaw10.live -/
def c21_0 : List CO := [⟨(.mov (.k (.bool false))), (some 0), none⟩]
def c21_1 : List CO := [⟨(.call true 27 [(.k (.int .i64 0))]), none, none⟩,
  ⟨(.box (.k (.agg #[(.int .i64 0), (.string ⟨#[]⟩), (.int .i64 0), (.slice none 0 0)]))), (some 1), none⟩,
  ⟨(.store 4 (.var 1) (.loc 1)), none, none⟩]
def c21_2 : List CO := [⟨(.call true 27 [(.k (.int .i64 1))]), none, none⟩,
  ⟨(.box (.k (.agg #[(.int .i64 0), (.string ⟨#[]⟩), (.int .i64 0), (.slice none 0 0)]))), (some 2), none⟩,
  ⟨(.store 4 (.var 2) (.loc 1)), none, none⟩]
def c21_3 : List CO := [⟨(.call true 28 [(.k (.string ⟨#[97]⟩))]), none, none⟩,
  ⟨(.box (.k (.agg #[(.int .i64 0), (.string ⟨#[]⟩), (.int .i64 0), (.slice none 0 0)]))), (some 3), none⟩,
  ⟨(.store 4 (.var 3) (.loc 1)), none, none⟩]
def c21_4 : List CO := [⟨(.load true 4 (.var 1)), none, none⟩,
  ⟨(.call true 28 [(.k (.string ⟨#[98]⟩))]), none, none⟩,
  ⟨(.bslice 4 [(.int .i64 0), (.string ⟨#[]⟩), (.int .i64 0), (.slice none 0 0)] 2 [(0, (.loc 1)), (1, (.loc 0))]), none, none⟩,
  ⟨(.call true 29 [(.k (.string ⟨#[102]⟩)), (.loc 0)]), none, none⟩,
  ⟨(.load true 4 (.var 3)), none, none⟩,
  ⟨(.load true 4 (.var 2)), none, none⟩,
  ⟨(.bslice 4 [(.int .i64 0), (.string ⟨#[]⟩), (.int .i64 0), (.slice none 0 0)] 2 [(0, (.loc 1)), (1, (.loc 0))]), none, none⟩,
  ⟨(.call true 29 [(.k (.string ⟨#[102]⟩)), (.loc 0)]), none, none⟩,
  ⟨(.call true 23 [(.k (.slice none 0 0)), (.loc 4), (.loc 0)]), none, none⟩,
  ⟨(.mov (.loc 0)), none, none⟩,
  ⟨(.extract (.loc 0) 0), none, none⟩,
  ⟨(.extract (.loc 1) 1), none, none⟩,
  ⟨(.extract (.loc 2) 2), none, none⟩,
  ⟨(.mov (.loc 2)), (some 4), none⟩,
  ⟨(.mov (.loc 2)), (some 5), none⟩,
  ⟨(.mov (.loc 2)), (some 6), none⟩]
def c21_5 : List CO := [⟨(.load true 4 (.var 1)), none, none⟩,
  ⟨(.load true 4 (.var 1)), none, none⟩,
  ⟨(.bslice 4 [(.int .i64 0), (.string ⟨#[]⟩), (.int .i64 0), (.slice none 0 0)] 1 [(0, (.loc 0))]), none, none⟩,
  ⟨(.call true 29 [(.k (.string ⟨#[102]⟩)), (.loc 0)]), none, none⟩,
  ⟨(.call true 23 [(.k (.slice none 0 0)), (.loc 3), (.loc 0)]), none, none⟩,
  ⟨(.mov (.loc 0)), none, none⟩,
  ⟨(.extract (.loc 0) 0), none, none⟩,
  ⟨(.extract (.loc 1) 1), none, none⟩,
  ⟨(.extract (.loc 2) 2), none, none⟩,
  ⟨(.mov (.loc 2)), (some 7), none⟩,
  ⟨(.mov (.loc 2)), (some 8), none⟩,
  ⟨(.mov (.loc 2)), (some 9), none⟩]
def c21_6 : List CO := [⟨(.load true 4 (.var 3)), none, none⟩,
  ⟨(.bslice 4 [(.int .i64 0), (.string ⟨#[]⟩), (.int .i64 0), (.slice none 0 0)] 1 [(0, (.loc 0))]), none, none⟩,
  ⟨(.call true 29 [(.k (.string ⟨#[102]⟩)), (.loc 0)]), none, none⟩,
  ⟨(.load true 4 (.var 3)), none, none⟩,
  ⟨(.bslice 4 [(.int .i64 0), (.string ⟨#[]⟩), (.int .i64 0), (.slice none 0 0)] 1 [(0, (.loc 0))]), none, none⟩,
  ⟨(.call true 29 [(.k (.string ⟨#[103]⟩)), (.loc 0)]), none, none⟩,
  ⟨(.call true 23 [(.k (.slice none 0 0)), (.loc 3), (.loc 0)]), none, none⟩,
  ⟨(.mov (.loc 0)), none, none⟩,
  ⟨(.extract (.loc 0) 0), none, none⟩,
  ⟨(.extract (.loc 1) 1), none, none⟩,
  ⟨(.extract (.loc 2) 2), none, none⟩,
  ⟨(.mov (.loc 2)), none, none⟩,
  ⟨(.mov (.loc 2)), (some 10), none⟩,
  ⟨(.mov (.loc 2)), (some 11), none⟩]
def c21_7 : List CO := [⟨(.call true 40 [(.k (.int .i64 1))]), none, none⟩,
  ⟨(.load true 4 (.var 3)), none, none⟩,
  ⟨(.call true 39 [(.k (.slice none 0 0)), (.loc 1), (.loc 0)]), none, none⟩,
  ⟨(.mov (.loc 0)), none, none⟩,
  ⟨(.extract (.loc 0) 0), none, none⟩,
  ⟨(.extract (.loc 1) 1), none, none⟩,
  ⟨(.mov (.loc 1)), (some 12), none⟩,
  ⟨(.mov (.loc 1)), (some 13), none⟩]
def c21_8 : List CO := [⟨(.mov (.var 5)), none, none⟩,
  ⟨(.mov (.loc 0)), none, none⟩,
  ⟨(.mov (.var 6)), none, (some ((.loc 0), true))⟩,
  ⟨(.bin .eql (.loc 0) (.k (.int .i64 0))), none, (some ((.loc 1), true))⟩,
  ⟨(.pick (.loc 2) (.loc 0) (.k (.bool false))), none, none⟩,
  ⟨(.mov (.loc 0)), none, none⟩,
  ⟨(.mov (.var 4)), none, (some ((.loc 0), true))⟩,
  ⟨(.load true 4 (.var 3)), none, (some ((.loc 1), true))⟩,
  ⟨(.build [(.int .i64 0), (.int .i64 0), (.string ⟨#[]⟩), (.int .i64 0), (.slice none 0 0)] [(0, 1, (.k (.int .i64 0))), (1, 4, (.loc 0))]), none, (some ((.loc 2), true))⟩,
  ⟨(.call true 28 [(.k (.string ⟨#[98]⟩))]), none, (some ((.loc 3), true))⟩,
  ⟨(.build [(.int .i64 0), (.int .i64 0), (.string ⟨#[]⟩), (.int .i64 0), (.slice none 0 0)] [(0, 1, (.k (.int .i64 1))), (1, 4, (.loc 0))]), none, (some ((.loc 4), true))⟩,
  ⟨(.bslice 5 [(.int .i64 0), (.int .i64 0), (.string ⟨#[]⟩), (.int .i64 0), (.slice none 0 0)] 2 [(0, (.loc 2)), (1, (.loc 0))]), none, (some ((.loc 5), true))⟩,
  ⟨(.call true 26 [(.loc 5), (.loc 0)]), none, (some ((.loc 6), true))⟩,
  ⟨(.pick (.loc 7) (.loc 0) (.k (.bool false))), none, none⟩,
  ⟨(.mov (.loc 0)), none, none⟩,
  ⟨(.mov (.var 8)), none, (some ((.loc 0), true))⟩,
  ⟨(.pick (.loc 1) (.loc 0) (.k (.bool false))), none, none⟩,
  ⟨(.mov (.loc 0)), none, none⟩,
  ⟨(.mov (.var 9)), none, (some ((.loc 0), true))⟩,
  ⟨(.bin .eql (.loc 0) (.k (.int .i64 0))), none, (some ((.loc 1), true))⟩,
  ⟨(.pick (.loc 2) (.loc 0) (.k (.bool false))), none, none⟩,
  ⟨(.mov (.loc 0)), none, none⟩,
  ⟨(.mov (.var 7)), none, (some ((.loc 0), true))⟩,
  ⟨(.len .slice (.loc 0)), none, (some ((.loc 1), true))⟩,
  ⟨(.bin .eql (.loc 0) (.k (.int .i64 1))), none, (some ((.loc 2), true))⟩,
  ⟨(.pick (.loc 3) (.loc 0) (.k (.bool false))), none, none⟩,
  ⟨(.mov (.loc 0)), none, none⟩,
  ⟨(.mov (.var 10)), none, (some ((.loc 0), true))⟩,
  ⟨(.un .not (.loc 0)), none, (some ((.loc 1), true))⟩,
  ⟨(.pick (.loc 2) (.loc 0) (.k (.bool false))), none, none⟩,
  ⟨(.mov (.loc 0)), none, none⟩,
  ⟨(.mov (.var 11)), none, (some ((.loc 0), true))⟩,
  ⟨(.bin .eql (.loc 0) (.k (.int .i64 0))), none, (some ((.loc 1), true))⟩,
  ⟨(.pick (.loc 2) (.loc 0) (.k (.bool false))), none, none⟩,
  ⟨(.mov (.loc 0)), none, none⟩,
  ⟨(.mov (.var 12)), none, (some ((.loc 0), true))⟩,
  ⟨(.bin .eql (.loc 0) (.k (.int .i64 (-1)))), none, (some ((.loc 1), true))⟩,
  ⟨(.pick (.loc 2) (.loc 0) (.k (.bool false))), none, none⟩,
  ⟨(.mov (.loc 0)), none, none⟩,
  ⟨(.mov (.var 13)), none, (some ((.loc 0), true))⟩,
  ⟨(.bin .eql (.loc 0) (.k (.int .i64 0))), none, (some ((.loc 1), true))⟩,
  ⟨(.pick (.loc 2) (.loc 0) (.k (.bool false))), none, none⟩,
  ⟨(.mov (.loc 0)), (some 0), none⟩]
def c21 : CFun := ⟨0, 14, (.seq (.region [] [] c21_0) (.seq (.region [] [] c21_1) (.seq (.region [] [] c21_2) (.seq (.region [] [] c21_3) (.seq (.region [] [] c21_4) (.seq (.region [] [] c21_5) (.seq (.region [] [] c21_6) (.seq (.region [] [] c21_7) (.seq (.region [] [] c21_8) .ret))))))))), [.var 0]⟩
theorem ok21 : CodeOk Try.prog T 21 c21 := ⟨⟨Try.f21, Hints.of [] [] [], [0, 1, 2, 3, 4, 5, 6, 7, 8, 9, 11, 12, 13, 14], Try.func21, by kernel_rfl, by kernel_rfl⟩⟩

/-! spinney/spinneylaw10.big -/
def c22_0 : List CO := [⟨(.mov (.k (.bool false))), (some 2), none⟩]
def c22_1 : List CO := [⟨(.mov (.var 0)), none, none⟩,
  ⟨(.len .slice (.loc 0)), none, none⟩,
  ⟨(.bin .gtr (.loc 0) (.k (.int .i64 100))), (some 5), none⟩]
def c22_2 : List CO := [⟨(.mov (.k (.bool true))), (some 2), none⟩]
def c22_3 : List CO := [⟨(.mov (.var 0)), (some 6), none⟩,
  ⟨(.len .slice (.var 6)), (some 7), none⟩,
  ⟨(.mov (.k (.int .i64 0))), (some 8), none⟩]
def c22_4 : List CO := [⟨(.bin .lss (.var 8) (.var 7)), (some 9), none⟩]
def c22_5 : List CO := [⟨(.ia 5 (.var 6) (.var 8)), none, none⟩,
  ⟨(.load true 5 (.loc 0)), none, none⟩,
  ⟨(.box (.k (.agg #[(.int .i64 0), (.int .i64 0), (.string ⟨#[]⟩), (.int .i64 0), (.slice none 0 0)]))), (some 3), none⟩,
  ⟨(.store 5 (.var 3) (.loc 1)), none, none⟩]
def c22_6 : List CO := [⟨(.fa 1 (.var 3)), none, none⟩,
  ⟨(.load true 4 (.loc 0)), none, none⟩,
  ⟨(.call true 30 [(.loc 0), (.k (.int .i64 300))]), none, none⟩,
  ⟨(.un .not (.loc 0)), (some 10), none⟩]
def c22_7 : List CO := [⟨(.mov (.k (.bool true))), (some 2), none⟩]
def c22_8 : List CO := [⟨(.bin .add (.var 8) (.k (.int .i64 1))), none, none⟩,
  ⟨(.mov (.loc 0)), (some 8), none⟩]
def c22_9 : CC := (.seq (.region [] [] c22_4) (.seq (.cond (.var 9) .skip (.exit 0)) (.seq (.block 1 (.seq (.region [] [] c22_5) (.seq (.region [] [] c22_6) (.cond (.var 10) (.seq (.region [] [] c22_7) .ret) .skip)))) (.region [] [] c22_8))))
def c22_10 : List CO := [⟨(.mov (.var 1)), (some 11), none⟩,
  ⟨(.len .slice (.var 11)), (some 12), none⟩,
  ⟨(.mov (.k (.int .i64 0))), (some 13), none⟩]
def c22_11 : List CO := [⟨(.bin .lss (.var 13) (.var 12)), (some 14), none⟩]
def c22_12 : List CO := [⟨(.ia 4 (.var 11) (.var 13)), none, none⟩,
  ⟨(.load true 4 (.loc 0)), none, none⟩,
  ⟨(.box (.k (.agg #[(.int .i64 0), (.string ⟨#[]⟩), (.int .i64 0), (.slice none 0 0)]))), (some 4), none⟩,
  ⟨(.store 4 (.var 4) (.loc 1)), none, none⟩]
def c22_13 : List CO := [⟨(.load true 4 (.var 4)), none, none⟩,
  ⟨(.call true 30 [(.loc 0), (.k (.int .i64 3000))]), none, none⟩,
  ⟨(.un .not (.loc 0)), (some 15), none⟩]
def c22_14 : List CO := [⟨(.mov (.k (.bool true))), (some 2), none⟩]
def c22_15 : List CO := [⟨(.bin .add (.var 13) (.k (.int .i64 1))), none, none⟩,
  ⟨(.mov (.loc 0)), (some 13), none⟩]
def c22_16 : CC := (.seq (.region [] [] c22_11) (.seq (.cond (.var 14) .skip (.exit 2)) (.seq (.block 3 (.seq (.region [] [] c22_12) (.seq (.region [] [] c22_13) (.cond (.var 15) (.seq (.region [] [] c22_14) .ret) .skip)))) (.region [] [] c22_15))))
def c22_17 : List CO := [⟨(.mov (.k (.bool false))), (some 2), none⟩]
def c22 : CFun := ⟨2, 16, (.seq (.region [] [] c22_0) (.seq (.seq (.region [] [] c22_1) (.cond (.var 5) (.seq (.region [] [] c22_2) .ret) .skip)) (.seq (.seq (.region [] [] c22_3) (.block 0 (.loop [false, true, false, false, false, false, true, true, true, false, false, false, false, false, false, false] [] c22_9))) (.seq (.seq (.region [] [] c22_10) (.block 2 (.loop [false, false, false, false, false, false, false, false, false, false, false, true, true, true, false, false] [] c22_16))) (.seq (.region [] [] c22_17) .ret))))), [.var 2]⟩
theorem ok22 : CodeOk Try.prog T 22 c22 := ⟨⟨Try.f22, Hints.of [] [] [(0, [false, true, false, false, false, false, true, true, true, false, false, false, false, false, false, false], []), (2, [false, false, false, false, false, false, false, false, false, false, false, true, true, true, false, false], [])], [0, 1, 4, 6, 8, 11, 12, 13, 14, 15, 21, 23, 24, 25, 26, 31], Try.func22, by kernel_rfl, by kernel_rfl⟩⟩

/-! spinney/unify.Unify -/
def c23_0 : List CO := [⟨(.box (.var 1)), (some 3), none⟩,
  ⟨(.box (.var 2)), (some 4), none⟩,
  ⟨(.mov (.k (.slice none 0 0))), (some 5), none⟩,
  ⟨(.mov (.k (.bool false))), (some 6), none⟩,
  ⟨(.mov (.k (.int .i64 0))), (some 7), none⟩]
def c23_1 : List CO := [⟨(.mov (.var 0)), none, none⟩,
  ⟨(.mov (.var 0)), none, none⟩,
  ⟨(.len .slice (.loc 0)), none, none⟩,
  ⟨(.mov (.var 0)), none, none⟩,
  ⟨(.len .slice (.loc 0)), none, none⟩,
  ⟨(.slice 5 (.loc 4) none (some (.loc 2)) (some (.loc 0))), none, none⟩,
  ⟨(.load true 4 (.var 3)), none, none⟩,
  ⟨(.load true 4 (.var 4)), none, none⟩,
  ⟨(.build [(.int .i64 0), (.string ⟨#[]⟩), (.int .i64 0), (.slice none 0 0), (.int .i64 0), (.string ⟨#[]⟩), (.int .i64 0), (.slice none 0 0)] [(0, 4, (.loc 1)), (4, 4, (.loc 0))]), none, none⟩,
  ⟨(.brow 8 [(.int .i64 0), (.string ⟨#[]⟩), (.int .i64 0), (.slice none 0 0), (.int .i64 0), (.string ⟨#[]⟩), (.int .i64 0), (.slice none 0 0)] 1 [(0, (.loc 0))]), none, none⟩,
  ⟨(.build [(.slice none 0 0), (.int .i64 0), (.slice none 0 0)] [(0, 1, (.loc 4)), (1, 1, (.k (.int .i64 2000))), (2, 1, (.loc 0))]), none, none⟩,
  ⟨(.box (.loc 0)), none, none⟩,
  ⟨(.mov (.loc 0)), (some 8), none⟩]
def c23_2 : List CO := [⟨(.mov (.var 8)), none, none⟩,
  ⟨(.nilchk (.loc 0)), none, none⟩,
  ⟨(.fa 2 (.loc 0)), none, none⟩,
  ⟨(.load false 1 (.loc 0)), none, none⟩,
  ⟨(.len .slice (.loc 0)), none, none⟩,
  ⟨(.bin .gtr (.loc 0) (.k (.int .i64 0))), (some 14), none⟩]
def c23_3 : List CO := [⟨(.mov (.var 8)), none, none⟩,
  ⟨(.call false 41 [(.loc 0)]), none, none⟩,
  ⟨(.mov (.loc 0)), none, none⟩,
  ⟨(.extract (.loc 0) 0), none, none⟩,
  ⟨(.extract (.loc 1) 1), none, none⟩,
  ⟨(.extract (.loc 2) 2), none, none⟩,
  ⟨(.box (.k (.agg #[(.int .i64 0), (.string ⟨#[]⟩), (.int .i64 0), (.slice none 0 0)]))), (some 9), none⟩,
  ⟨(.box (.k (.agg #[(.int .i64 0), (.string ⟨#[]⟩), (.int .i64 0), (.slice none 0 0)]))), (some 10), none⟩,
  ⟨(.store 4 (.var 9) (.loc 4)), none, none⟩,
  ⟨(.store 4 (.var 10) (.loc 4)), none, none⟩,
  ⟨(.mov (.loc 4)), (some 11), none⟩]
def c23_4 : List CO := [⟨(.mov (.var 11)), none, none⟩,
  ⟨(.bin .neq (.loc 0) (.k (.int .i64 0))), (some 15), none⟩]
def c23_5 : List CO := [⟨(.mov (.var 11)), none, none⟩,
  ⟨(.mov (.k (.slice none 0 0))), (some 5), none⟩,
  ⟨(.mov (.k (.bool false))), (some 6), none⟩,
  ⟨(.mov (.loc 2)), (some 7), none⟩]
def c23_6 : List CO := [⟨(.fa 0 (.var 9)), none, none⟩,
  ⟨(.load false 1 (.loc 0)), none, none⟩,
  ⟨(.bin .eql (.loc 0) (.k (.int .i64 1))), none, none⟩,
  ⟨(.fa 0 (.var 10)), none, none⟩,
  ⟨(.load false 1 (.loc 0)), none, none⟩,
  ⟨(.bin .eql (.loc 0) (.k (.int .i64 1))), none, none⟩,
  ⟨(.mov (.loc 3)), (some 12), none⟩,
  ⟨(.mov (.loc 1)), (some 13), none⟩]
def c23_7 : List CO := [⟨(.mov (.var 12)), none, none⟩,
  ⟨(.mov (.loc 0)), none, none⟩,
  ⟨(.mov (.var 13)), none, (some ((.loc 0), true))⟩,
  ⟨(.pick (.loc 1) (.loc 0) (.k (.bool false))), none, none⟩,
  ⟨(.mov (.loc 0)), none, none⟩,
  ⟨(.fa 2 (.var 9)), none, (some ((.loc 0), true))⟩,
  ⟨(.load false 1 (.loc 0)), none, (some ((.loc 1), true))⟩,
  ⟨(.fa 2 (.var 10)), none, (some ((.loc 2), true))⟩,
  ⟨(.load false 1 (.loc 0)), none, (some ((.loc 3), true))⟩,
  ⟨(.bin .eql (.loc 2) (.loc 0)), none, (some ((.loc 4), true))⟩,
  ⟨(.pick (.loc 5) (.loc 0) (.k (.bool false))), none, none⟩,
  ⟨(.mov (.loc 0)), (some 16), none⟩]
def c23_8 : List CO := [⟨(.mov (.var 12)), none, none⟩,
  ⟨(.mov (.loc 0)), none, none⟩,
  ⟨(.mov (.var 13)), none, (some ((.loc 0), true))⟩,
  ⟨(.un .not (.loc 0)), none, (some ((.loc 1), true))⟩,
  ⟨(.mov (.loc 0)), none, (some ((.loc 2), true))⟩,
  ⟨(.fa 2 (.var 9)), none, (some ((.loc 0), false))⟩,
  ⟨(.load false 1 (.loc 0)), none, (some ((.loc 1), false))⟩,
  ⟨(.fa 2 (.var 10)), none, (some ((.loc 2), false))⟩,
  ⟨(.load false 1 (.loc 0)), none, (some ((.loc 3), false))⟩,
  ⟨(.bin .gtr (.loc 2) (.loc 0)), none, (some ((.loc 4), false))⟩,
  ⟨(.pick (.loc 5) (.k (.bool true)) (.loc 0)), none, (some ((.loc 8), true))⟩,
  ⟨(.pick (.loc 9) (.loc 0) (.k (.bool false))), none, none⟩,
  ⟨(.mov (.loc 0)), (some 17), none⟩]
def c23_9 : List CO := [⟨(.mov (.var 8)), none, none⟩,
  ⟨(.mov (.var 8)), none, none⟩,
  ⟨(.nilchk (.loc 0)), none, none⟩,
  ⟨(.fa 0 (.loc 0)), none, none⟩,
  ⟨(.load false 1 (.loc 0)), none, none⟩,
  ⟨(.fa 2 (.var 9)), none, none⟩,
  ⟨(.load false 1 (.loc 0)), none, none⟩,
  ⟨(.load true 4 (.var 10)), none, none⟩,
  ⟨(.call true 42 [(.loc 0)]), none, none⟩,
  ⟨(.build [(.int .i64 0), (.int .i64 0), (.string ⟨#[]⟩), (.int .i64 0), (.slice none 0 0)] [(0, 1, (.loc 2)), (1, 4, (.loc 0))]), none, none⟩,
  ⟨(.bslice 5 [(.int .i64 0), (.int .i64 0), (.string ⟨#[]⟩), (.int .i64 0), (.slice none 0 0)] 1 [(0, (.loc 0))]), none, none⟩,
  ⟨(.append 5 64 (.loc 6) (.loc 0)), none, none⟩,
  ⟨(.nilchk (.loc 11)), none, none⟩,
  ⟨(.fa 0 (.loc 0)), none, none⟩,
  ⟨(.store 1 (.loc 0) (.loc 2)), none, none⟩]
def c23_10 : List CO := [⟨(.mov (.var 13)), none, none⟩,
  ⟨(.mov (.loc 0)), (some 18), none⟩]
def c23_11 : List CO := [⟨(.mov (.var 8)), none, none⟩,
  ⟨(.mov (.var 8)), none, none⟩,
  ⟨(.nilchk (.loc 0)), none, none⟩,
  ⟨(.fa 0 (.loc 0)), none, none⟩,
  ⟨(.load false 1 (.loc 0)), none, none⟩,
  ⟨(.fa 2 (.var 10)), none, none⟩,
  ⟨(.load false 1 (.loc 0)), none, none⟩,
  ⟨(.load true 4 (.var 9)), none, none⟩,
  ⟨(.call true 42 [(.loc 0)]), none, none⟩,
  ⟨(.build [(.int .i64 0), (.int .i64 0), (.string ⟨#[]⟩), (.int .i64 0), (.slice none 0 0)] [(0, 1, (.loc 2)), (1, 4, (.loc 0))]), none, none⟩,
  ⟨(.bslice 5 [(.int .i64 0), (.int .i64 0), (.string ⟨#[]⟩), (.int .i64 0), (.slice none 0 0)] 1 [(0, (.loc 0))]), none, none⟩,
  ⟨(.append 5 64 (.loc 6) (.loc 0)), none, none⟩,
  ⟨(.nilchk (.loc 11)), none, none⟩,
  ⟨(.fa 0 (.loc 0)), none, none⟩,
  ⟨(.store 1 (.loc 0) (.loc 2)), none, none⟩]
def c23_12 : List CO := [⟨(.fa 0 (.var 9)), none, none⟩,
  ⟨(.load false 1 (.loc 0)), none, none⟩,
  ⟨(.fa 0 (.var 10)), none, none⟩,
  ⟨(.load false 1 (.loc 0)), none, none⟩,
  ⟨(.bin .neq (.loc 2) (.loc 0)), none, none⟩,
  ⟨(.mov (.loc 0)), none, none⟩,
  ⟨(.fa 1 (.var 9)), none, (some ((.loc 0), false))⟩,
  ⟨(.load false 1 (.loc 0)), none, (some ((.loc 1), false))⟩,
  ⟨(.fa 1 (.var 10)), none, (some ((.loc 2), false))⟩,
  ⟨(.load false 1 (.loc 0)), none, (some ((.loc 3), false))⟩,
  ⟨(.bin .neq (.loc 2) (.loc 0)), none, (some ((.loc 4), false))⟩,
  ⟨(.pick (.loc 5) (.k (.bool true)) (.loc 0)), none, none⟩,
  ⟨(.mov (.loc 0)), none, none⟩,
  ⟨(.fa 2 (.var 9)), none, (some ((.loc 0), false))⟩,
  ⟨(.load false 1 (.loc 0)), none, (some ((.loc 1), false))⟩,
  ⟨(.fa 2 (.var 10)), none, (some ((.loc 2), false))⟩,
  ⟨(.load false 1 (.loc 0)), none, (some ((.loc 3), false))⟩,
  ⟨(.bin .neq (.loc 2) (.loc 0)), none, (some ((.loc 4), false))⟩,
  ⟨(.pick (.loc 5) (.k (.bool true)) (.loc 0)), none, none⟩,
  ⟨(.mov (.loc 0)), none, none⟩,
  ⟨(.fa 3 (.var 9)), none, (some ((.loc 0), false))⟩,
  ⟨(.load false 1 (.loc 0)), none, (some ((.loc 1), false))⟩,
  ⟨(.len .slice (.loc 0)), none, (some ((.loc 2), false))⟩,
  ⟨(.fa 3 (.var 10)), none, (some ((.loc 3), false))⟩,
  ⟨(.load false 1 (.loc 0)), none, (some ((.loc 4), false))⟩,
  ⟨(.len .slice (.loc 0)), none, (some ((.loc 5), false))⟩,
  ⟨(.bin .neq (.loc 3) (.loc 0)), none, (some ((.loc 6), false))⟩,
  ⟨(.pick (.loc 7) (.k (.bool true)) (.loc 0)), none, none⟩,
  ⟨(.mov (.loc 0)), (some 19), none⟩]
def c23_13 : List CO := [⟨(.mov (.k (.slice none 0 0))), (some 5), none⟩,
  ⟨(.mov (.k (.bool false))), (some 6), none⟩,
  ⟨(.mov (.k (.int .i64 0))), (some 7), none⟩]
def c23_14 : List CO := [⟨(.mov (.var 8)), none, none⟩,
  ⟨(.load true 4 (.var 9)), none, none⟩,
  ⟨(.load true 4 (.var 10)), none, none⟩,
  ⟨(.call false 43 [(.loc 2), (.loc 1), (.loc 0)]), none, none⟩]
def c23_15 : CC := (.seq (.seq (.region [] [] c23_2) (.cond (.var 14) .skip (.exit 0))) (.block 1 (.seq (.region [.p 8 0 1] [] c23_3) (.seq (.seq (.region [] [] c23_4) (.cond (.var 15) (.seq (.region [] [] c23_5) .ret) .skip)) (.seq (.region [] [] c23_6) (.block 2 (.seq (.region [] [] c23_7) (.cond (.var 16) .skip (.seq (.region [] [] c23_8) (.cond (.var 17) (.region [] [] c23_9) (.seq (.region [] [] c23_10) (.cond (.var 18) (.region [] [] c23_11) (.seq (.region [] [] c23_12) (.cond (.var 19) (.seq (.region [] [] c23_13) .ret) (.region [] [] c23_14)))))))))))))))
def c23_16 : List CO := [⟨(.mov (.var 8)), none, none⟩,
  ⟨(.nilchk (.loc 0)), none, none⟩,
  ⟨(.fa 0 (.loc 0)), none, none⟩,
  ⟨(.load false 1 (.loc 0)), none, none⟩,
  ⟨(.call true 44 [(.loc 0)]), none, none⟩,
  ⟨(.mov (.loc 0)), (some 5), none⟩,
  ⟨(.mov (.k (.bool true))), (some 6), none⟩,
  ⟨(.mov (.k (.int .i64 0))), (some 7), none⟩]
def c23 : CFun := ⟨3, 20, (.seq (.region [] [] c23_0) (.seq (.region [] [] c23_1) (.seq (.block 0 (.loop [false, false, false, false, false, false, false, false, true, false, false, false, false, false, false, false, false, false, false, false] [] c23_15)) (.seq (.region [.p 8 0 1] [] c23_16) .ret)))), [.var 5, .var 6, .var 7]⟩
theorem ok23 : CodeOk Try.prog T 23 c23 := ⟨⟨Try.f23, Hints.of [(3, [.p 8 0 1]), (15, [.p 8 0 1])] [] [(0, [false, false, false, false, false, false, false, false, true, false, false, false, false, false, false, false, false, false, false, false], [])], [0, 1, 2, 4, 5, 6, 7, 8, 9, 10, 11, 12, 13, 14, 32, 40, 52, 64, 91, 107], Try.func23, by kernel_rfl, by kernel_rfl⟩⟩

/-! spinney/spinneyref03.Copy -/
def c24_0 : List CO := [⟨(.box (.var 0)), (some 1), none⟩,
  ⟨(.box (.k (.agg #[(.int .i64 0), (.string ⟨#[]⟩), (.int .i64 0), (.slice none 0 0)]))), (some 2), none⟩]
def c24_1 : List CO := [⟨(.load true 4 (.var 1)), none, none⟩,
  ⟨(.call true 35 [(.loc 0), (.k (.int .i64 0))]), none, none⟩,
  ⟨(.store 4 (.var 2) (.loc 0)), none, none⟩]
def c24 : CFun := ⟨1, 3, (.seq (.region [] [] c24_0) (.seq (.region [] [] c24_1) .ret)), [.cell 2 true 4]⟩
theorem ok24 : CodeOk Try.prog T 24 c24 := ⟨⟨Try.f24, Hints.of [] [] [], [0, 1, 2], Try.func24, by kernel_rfl, by kernel_rfl⟩⟩

/-! spinney/spinneyref10.Unify -/
def c25_0 : List CO := [⟨(.box (.var 1)), (some 3), none⟩,
  ⟨(.box (.var 2)), (some 4), none⟩,
  ⟨(.mov (.k (.slice none 0 0))), (some 5), none⟩,
  ⟨(.mov (.k (.bool false))), (some 6), none⟩,
  ⟨(.mov (.k (.int .i64 0))), (some 7), none⟩]
def c25_1 : List CO := [⟨(.build [(.int .i64 0)] []), none, none⟩,
  ⟨(.box (.loc 0)), none, none⟩,
  ⟨(.mov (.var 0)), none, none⟩,
  ⟨(.load true 4 (.var 3)), none, none⟩,
  ⟨(.load true 4 (.var 4)), none, none⟩,
  ⟨(.call false 45 [(.loc 3), (.loc 2), (.loc 1), (.loc 0)]), none, none⟩,
  ⟨(.extract (.loc 0) 0), none, none⟩,
  ⟨(.extract (.loc 1) 1), none, none⟩,
  ⟨(.extract (.loc 2) 2), none, none⟩,
  ⟨(.mov (.loc 2)), (some 5), none⟩,
  ⟨(.mov (.loc 2)), (some 6), none⟩,
  ⟨(.mov (.loc 2)), (some 7), none⟩]
def c25 : CFun := ⟨3, 8, (.seq (.region [] [] c25_0) (.seq (.region [] [] c25_1) .ret)), [.var 5, .var 6, .var 7]⟩
theorem ok25 : CodeOk Try.prog T 25 c25 := ⟨⟨Try.f25, Hints.of [] [] [], [0, 1, 2, 4, 5, 6, 7, 8], Try.func25, by kernel_rfl, by kernel_rfl⟩⟩

/-! spinney/spinneyref10.SameBinds -/
def c26_0 : List CO := [⟨(.mov (.k (.bool false))), (some 2), none⟩]
def c26_1 : List CO := [⟨(.mov (.var 0)), none, none⟩,
  ⟨(.len .slice (.loc 0)), none, none⟩,
  ⟨(.mov (.var 1)), none, none⟩,
  ⟨(.len .slice (.loc 0)), none, none⟩,
  ⟨(.bin .neq (.loc 2) (.loc 0)), (some 4), none⟩]
def c26_2 : List CO := [⟨(.mov (.k (.bool false))), (some 2), none⟩]
def c26_3 : List CO := [⟨(.mov (.var 0)), none, none⟩,
  ⟨(.len .slice (.loc 0)), (some 5), none⟩,
  ⟨(.mov (.k (.int .i64 0))), (some 6), none⟩]
def c26_4 : List CO := [⟨(.bin .lss (.var 6) (.var 5)), (some 7), none⟩]
def c26_5 : List CO := [⟨(.mov (.var 6)), none, none⟩,
  ⟨(.mov (.loc 0)), (some 3), none⟩]
def c26_6 : List CO := [⟨(.mov (.var 0)), none, none⟩,
  ⟨(.mov (.var 3)), none, none⟩,
  ⟨(.ia 5 (.loc 1) (.loc 0)), none, none⟩,
  ⟨(.fa 0 (.loc 0)), none, none⟩,
  ⟨(.load false 1 (.loc 0)), none, none⟩,
  ⟨(.mov (.var 1)), none, none⟩,
  ⟨(.mov (.var 3)), none, none⟩,
  ⟨(.ia 5 (.loc 1) (.loc 0)), none, none⟩,
  ⟨(.fa 0 (.loc 0)), none, none⟩,
  ⟨(.load false 1 (.loc 0)), none, none⟩,
  ⟨(.bin .neq (.loc 5) (.loc 0)), none, none⟩,
  ⟨(.mov (.loc 0)), none, none⟩,
  ⟨(.mov (.var 0)), none, (some ((.loc 0), false))⟩,
  ⟨(.mov (.var 3)), none, (some ((.loc 1), false))⟩,
  ⟨(.ia 5 (.loc 1) (.loc 0)), none, (some ((.loc 2), false))⟩,
  ⟨(.fa 1 (.loc 0)), none, (some ((.loc 3), false))⟩,
  ⟨(.load true 4 (.loc 0)), none, (some ((.loc 4), false))⟩,
  ⟨(.mov (.var 1)), none, (some ((.loc 5), false))⟩,
  ⟨(.mov (.var 3)), none, (some ((.loc 6), false))⟩,
  ⟨(.ia 5 (.loc 1) (.loc 0)), none, (some ((.loc 7), false))⟩,
  ⟨(.fa 1 (.loc 0)), none, (some ((.loc 8), false))⟩,
  ⟨(.load true 4 (.loc 0)), none, (some ((.loc 9), false))⟩,
  ⟨(.call true 15 [(.loc 5), (.loc 0)]), none, (some ((.loc 10), false))⟩,
  ⟨(.un .not (.loc 0)), none, (some ((.loc 11), false))⟩,
  ⟨(.pick (.loc 12) (.k (.bool true)) (.loc 0)), (some 8), none⟩]
def c26_7 : List CO := [⟨(.mov (.k (.bool false))), (some 2), none⟩]
def c26_8 : List CO := [⟨(.bin .add (.var 6) (.k (.int .i64 1))), none, none⟩,
  ⟨(.mov (.loc 0)), (some 6), none⟩]
def c26_9 : CC := (.seq (.region [] [] c26_4) (.seq (.cond (.var 7) .skip (.exit 0)) (.seq (.block 1 (.seq (.region [] [] c26_5) (.seq (.region [] [] c26_6) (.cond (.var 8) (.seq (.region [] [] c26_7) .ret) .skip)))) (.region [] [] c26_8))))
def c26_10 : List CO := [⟨(.mov (.k (.bool true))), (some 2), none⟩]
def c26 : CFun := ⟨2, 9, (.seq (.region [] [] c26_0) (.seq (.seq (.region [] [] c26_1) (.cond (.var 4) (.seq (.region [] [] c26_2) .ret) .skip)) (.seq (.seq (.region [] [] c26_3) (.block 0 (.loop [true, true, false, false, false, true, true, false, false] [] c26_9))) (.seq (.region [] [] c26_10) .ret)))), [.var 2]⟩
theorem ok26 : CodeOk Try.prog T 26 c26 := ⟨⟨Try.f26, Hints.of [] [] [(0, [true, true, false, false, false, true, true, false, false], [])], [0, 1, 4, 5, 10, 12, 13, 14, 40], Try.func26, by kernel_rfl, by kernel_rfl⟩⟩

/-! spinney/spinneyref03.Var1 -/
def c27_0 : List CO := [⟨(.box (.k (.agg #[(.int .i64 0), (.string ⟨#[]⟩), (.int .i64 0), (.slice none 0 0)]))), (some 1), none⟩]
def c27_1 : List CO := [⟨(.mov (.var 0)), none, none⟩,
  ⟨(.build [(.int .i64 0), (.string ⟨#[]⟩), (.int .i64 0), (.slice none 0 0)] [(0, 1, (.k (.int .i64 1))), (2, 1, (.loc 0))]), none, none⟩,
  ⟨(.store 4 (.var 1) (.loc 0)), none, none⟩]
def c27 : CFun := ⟨1, 2, (.seq (.region [] [] c27_0) (.seq (.region [] [] c27_1) .ret)), [.cell 1 true 4]⟩
theorem ok27 : CodeOk Try.prog T 27 c27 := ⟨⟨Try.f27, Hints.of [] [] [], [0, 2], Try.func27, by kernel_rfl, by kernel_rfl⟩⟩

/-! spinney/spinneyref03.Atom1 -/
def c28_0 : List CO := [⟨(.box (.k (.agg #[(.int .i64 0), (.string ⟨#[]⟩), (.int .i64 0), (.slice none 0 0)]))), (some 1), none⟩]
def c28_1 : List CO := [⟨(.mov (.var 0)), none, none⟩,
  ⟨(.build [(.int .i64 0), (.string ⟨#[]⟩), (.int .i64 0), (.slice none 0 0)] [(0, 1, (.k (.int .i64 2))), (1, 1, (.loc 0))]), none, none⟩,
  ⟨(.store 4 (.var 1) (.loc 0)), none, none⟩]
def c28 : CFun := ⟨1, 2, (.seq (.region [] [] c28_0) (.seq (.region [] [] c28_1) .ret)), [.cell 1 true 4]⟩
theorem ok28 : CodeOk Try.prog T 28 c28 := ⟨⟨Try.f28, Hints.of [] [] [], [0, 2], Try.func28, by kernel_rfl, by kernel_rfl⟩⟩

/-! spinney/spinneyref03.Comp1 -/
def c29_0 : List CO := [⟨(.box (.k (.agg #[(.int .i64 0), (.string ⟨#[]⟩), (.int .i64 0), (.slice none 0 0)]))), (some 2), none⟩]
def c29_1 : List CO := [⟨(.mov (.var 0)), none, none⟩,
  ⟨(.mov (.var 1)), none, none⟩,
  ⟨(.build [(.int .i64 0), (.string ⟨#[]⟩), (.int .i64 0), (.slice none 0 0)] [(0, 1, (.k (.int .i64 4))), (1, 1, (.loc 1)), (3, 1, (.loc 0))]), none, none⟩,
  ⟨(.store 4 (.var 2) (.loc 0)), none, none⟩]
def c29 : CFun := ⟨2, 3, (.seq (.region [] [] c29_0) (.seq (.region [] [] c29_1) .ret)), [.cell 2 true 4]⟩
theorem ok29 : CodeOk Try.prog T 29 c29 := ⟨⟨Try.f29, Hints.of [] [] [], [0, 1, 4], Try.func29, by kernel_rfl, by kernel_rfl⟩⟩

/-! spinney/spinneyref03.Few -/
def c30_0 : List CO := [⟨(.box (.var 0)), (some 2), none⟩,
  ⟨(.mov (.k (.bool false))), (some 3), none⟩]
def c30_1 : List CO := [⟨(.load true 4 (.var 2)), none, none⟩,
  ⟨(.mov (.var 1)), none, none⟩,
  ⟨(.call true 46 [(.loc 1), (.loc 0)]), none, none⟩,
  ⟨(.bin .geq (.loc 0) (.k (.int .i64 0))), none, none⟩,
  ⟨(.mov (.loc 0)), (some 3), none⟩]
def c30 : CFun := ⟨2, 4, (.seq (.region [] [] c30_0) (.seq (.region [] [] c30_1) .ret)), [.var 3]⟩
theorem ok30 : CodeOk Try.prog T 30 c30 := ⟨⟨Try.f30, Hints.of [] [] [], [0, 1, 2, 4], Try.func30, by kernel_rfl, by kernel_rfl⟩⟩

/-! spinney/subst.Follow -/
def c31_0 : List CO := [⟨(.box (.var 1)), (some 3), none⟩,
  ⟨(.box (.k (.agg #[(.int .i64 0), (.string ⟨#[]⟩), (.int .i64 0), (.slice none 0 0)]))), (some 4), none⟩,
  ⟨(.mov (.k (.int .i64 0))), (some 5), none⟩]
def c31_1 : List CO := [⟨(.fa 0 (.var 3)), none, none⟩,
  ⟨(.load false 1 (.loc 0)), none, none⟩,
  ⟨(.bin .eql (.loc 0) (.k (.int .i64 1))), (some 8), none⟩]
def c31_2 : List CO := [⟨(.mov (.var 0)), none, none⟩,
  ⟨(.fa 2 (.var 3)), none, none⟩,
  ⟨(.load false 1 (.loc 0)), none, none⟩,
  ⟨(.call true 13 [(.loc 2), (.loc 0)]), none, none⟩,
  ⟨(.mov (.loc 0)), none, none⟩,
  ⟨(.extract (.loc 0) 0), none, none⟩,
  ⟨(.extract (.loc 1) 1), none, none⟩,
  ⟨(.box (.k (.agg #[(.int .i64 0), (.string ⟨#[]⟩), (.int .i64 0), (.slice none 0 0)]))), (some 6), none⟩,
  ⟨(.store 4 (.var 6) (.loc 2)), none, none⟩,
  ⟨(.mov (.loc 2)), (some 7), none⟩]
def c31_3 : List CO := [⟨(.mov (.var 7)), none, none⟩,
  ⟨(.un .not (.loc 0)), (some 9), none⟩]
def c31_4 : List CO := [⟨(.load true 4 (.var 3)), none, none⟩,
  ⟨(.store 4 (.var 4) (.loc 0)), none, none⟩,
  ⟨(.mov (.k (.int .i64 0))), (some 5), none⟩]
def c31_5 : List CO := [⟨(.mov (.var 2)), none, none⟩,
  ⟨(.nilchk (.loc 0)), none, none⟩,
  ⟨(.load false 1 (.loc 0)), none, none⟩,
  ⟨(.bin .eql (.loc 0) (.k (.int .i64 0))), (some 10), none⟩]
def c31_6 : List CO := [⟨(.build [(.int .i64 0), (.string ⟨#[]⟩), (.int .i64 0), (.slice none 0 0)] []), none, none⟩,
  ⟨(.store 4 (.var 4) (.loc 0)), none, none⟩,
  ⟨(.mov (.k (.int .i64 140))), (some 5), none⟩]
def c31_7 : List CO := [⟨(.mov (.var 2)), none, none⟩,
  ⟨(.nilchk (.loc 0)), none, none⟩,
  ⟨(.load false 1 (.loc 0)), none, none⟩,
  ⟨(.bin .sub (.loc 0) (.k (.int .i64 1))), none, none⟩,
  ⟨(.nilchk (.loc 3)), none, none⟩,
  ⟨(.store 1 (.loc 0) (.loc 1)), none, none⟩]
def c31_8 : List CO := [⟨(.load true 4 (.var 6)), none, none⟩,
  ⟨(.store 4 (.var 3) (.loc 0)), none, none⟩]
def c31_9 : CC := (.seq (.seq (.region [] [] c31_1) (.cond (.var 8) .skip (.exit 0))) (.block 1 (.seq (.region [] [] c31_2) (.seq (.seq (.region [] [] c31_3) (.cond (.var 9) (.seq (.region [] [] c31_4) .ret) .skip)) (.seq (.seq (.region [] [] c31_5) (.cond (.var 10) (.seq (.region [] [] c31_6) .ret) .skip)) (.seq (.region [] [] c31_7) (.region [] [] c31_8)))))))
def c31_10 : List CO := [⟨(.load true 4 (.var 3)), none, none⟩,
  ⟨(.store 4 (.var 4) (.loc 0)), none, none⟩,
  ⟨(.mov (.k (.int .i64 0))), (some 5), none⟩]
def c31 : CFun := ⟨3, 11, (.seq (.region [] [] c31_0) (.seq (.block 0 (.loop [true, false, true, true, true, false, false, false, false, false, false] [] c31_9)) (.seq (.region [] [] c31_10) .ret))), [.cell 4 true 4, .var 5]⟩
theorem ok31 : CodeOk Try.prog T 31 c31 := ⟨⟨Try.f31, Hints.of [] [] [(0, [true, false, true, true, true, false, false, false, false, false, false], [])], [0, 1, 2, 4, 6, 7, 8, 9, 12, 21, 26], Try.func31, by kernel_rfl, by kernel_rfl⟩⟩

/-! (*spinney/spinneyref09.Meter).Walk -/
def c32_0 : List CO := [⟨(.box (.var 2)), (some 3), none⟩,
  ⟨(.box (.k (.agg #[(.int .i64 0), (.string ⟨#[]⟩), (.int .i64 0), (.slice none 0 0)]))), (some 4), none⟩,
  ⟨(.mov (.k (.int .i64 0))), (some 5), none⟩]
def c32_1 : List CO := [⟨(.fa 0 (.var 3)), none, none⟩,
  ⟨(.load false 1 (.loc 0)), none, none⟩,
  ⟨(.bin .eql (.loc 0) (.k (.int .i64 1))), (some 8), none⟩]
def c32_2 : List CO := [⟨(.mov (.var 1)), none, none⟩,
  ⟨(.fa 2 (.var 3)), none, none⟩,
  ⟨(.load false 1 (.loc 0)), none, none⟩,
  ⟨(.call true 14 [(.loc 2), (.loc 0)]), none, none⟩,
  ⟨(.mov (.loc 0)), none, none⟩,
  ⟨(.extract (.loc 0) 0), none, none⟩,
  ⟨(.extract (.loc 1) 1), none, none⟩,
  ⟨(.box (.k (.agg #[(.int .i64 0), (.string ⟨#[]⟩), (.int .i64 0), (.slice none 0 0)]))), (some 6), none⟩,
  ⟨(.store 4 (.var 6) (.loc 2)), none, none⟩,
  ⟨(.mov (.loc 2)), (some 7), none⟩]
def c32_3 : List CO := [⟨(.mov (.var 7)), none, none⟩,
  ⟨(.un .not (.loc 0)), (some 9), none⟩]
def c32_4 : List CO := [⟨(.mov (.var 0)), none, none⟩,
  ⟨(.call false 47 [(.loc 0)]), none, none⟩,
  ⟨(.un .not (.loc 0)), (some 10), none⟩]
def c32_5 : List CO := [⟨(.build [(.int .i64 0), (.string ⟨#[]⟩), (.int .i64 0), (.slice none 0 0)] []), none, none⟩,
  ⟨(.store 4 (.var 4) (.loc 0)), none, none⟩,
  ⟨(.mov (.k (.int .i64 140))), (some 5), none⟩]
def c32_6 : List CO := [⟨(.load true 4 (.var 6)), none, none⟩,
  ⟨(.store 4 (.var 3) (.loc 0)), none, none⟩]
def c32_7 : CC := (.seq (.seq (.region [] [] c32_1) (.cond (.var 8) .skip (.exit 0))) (.block 1 (.seq (.region [] [] c32_2) (.seq (.seq (.region [] [] c32_3) (.cond (.var 9) (.exit 0) .skip)) (.seq (.seq (.region [] [] c32_4) (.cond (.var 10) (.seq (.region [] [] c32_5) .ret) .skip)) (.region [] [] c32_6))))))
def c32_8 : List CO := [⟨(.load true 4 (.var 3)), none, none⟩,
  ⟨(.store 4 (.var 4) (.loc 0)), none, none⟩,
  ⟨(.mov (.k (.int .i64 0))), (some 5), none⟩]
def c32 : CFun := ⟨3, 11, (.seq (.region [] [] c32_0) (.seq (.block 0 (.loop [true, true, false, true, true, false, false, false, false, false, false] [] c32_7)) (.seq (.region [] [] c32_8) .ret))), [.cell 4 true 4, .var 5]⟩
theorem ok32 : CodeOk Try.prog T 32 c32 := ⟨⟨Try.f32, Hints.of [] [] [(0, [true, true, false, true, true, false, false, false, false, false, false], [])], [0, 1, 2, 5, 6, 7, 8, 9, 12, 21, 24], Try.func32, by kernel_rfl, by kernel_rfl⟩⟩

/-! spinney/term.Shift -/
def c34_0 : List CO := [⟨(.box (.var 0)), (some 2), none⟩,
  ⟨(.box (.var 1)), (some 3), none⟩,
  ⟨(.box (.k (.agg #[(.int .i64 0), (.string ⟨#[]⟩), (.int .i64 0), (.slice none 0 0)]))), (some 4), none⟩]
def c34_1 : List CO := [⟨(.load true 4 (.var 2)), none, none⟩,
  ⟨(.mkfn (.func 50) [] [(.var 3)]), none, none⟩,
  ⟨(.call false 49 [(.loc 1), (.loc 0)]), none, none⟩,
  ⟨(.store 4 (.var 4) (.loc 0)), none, none⟩]
def c34 : CFun := ⟨2, 5, (.seq (.region [] [] c34_0) (.seq (.region [] [] c34_1) .ret)), [.cell 4 true 4]⟩
theorem ok34 : CodeOk Try.prog T 34 c34 := ⟨⟨Try.f34, Hints.of [] [] [], [0, 1, 2, 3, 4], Try.func34, by kernel_rfl, by kernel_rfl⟩⟩

/-! spinney/spinneyref03.Shift -/
def c35_0 : List CO := [⟨(.box (.var 0)), (some 2), none⟩,
  ⟨(.box (.k (.agg #[(.int .i64 0), (.string ⟨#[]⟩), (.int .i64 0), (.slice none 0 0)]))), (some 3), none⟩]
def c35_1 : List CO := [⟨(.fa 0 (.var 2)), none, none⟩,
  ⟨(.load false 1 (.loc 0)), none, none⟩,
  ⟨(.bin .eql (.loc 0) (.k (.int .i64 1))), (some 6), none⟩]
def c35_2 : List CO := [⟨(.fa 2 (.var 2)), none, none⟩,
  ⟨(.load false 1 (.loc 0)), none, none⟩,
  ⟨(.mov (.var 1)), none, none⟩,
  ⟨(.bin .add (.loc 1) (.loc 0)), none, none⟩,
  ⟨(.fa 2 (.var 2)), none, none⟩,
  ⟨(.store 1 (.loc 0) (.loc 1)), none, none⟩]
def c35_3 : List CO := [⟨(.mov (.k (.slice none 0 0))), (some 4), none⟩]
def c35_4 : List CO := [⟨(.fa 3 (.var 2)), none, none⟩,
  ⟨(.load false 1 (.loc 0)), (some 7), none⟩,
  ⟨(.len .slice (.var 7)), (some 8), none⟩,
  ⟨(.mov (.k (.int .i64 0))), (some 9), none⟩]
def c35_5 : List CO := [⟨(.bin .lss (.var 9) (.var 8)), (some 10), none⟩]
def c35_6 : List CO := [⟨(.ia 4 (.var 7) (.var 9)), none, none⟩,
  ⟨(.load true 4 (.loc 0)), none, none⟩,
  ⟨(.box (.k (.agg #[(.int .i64 0), (.string ⟨#[]⟩), (.int .i64 0), (.slice none 0 0)]))), (some 5), none⟩,
  ⟨(.store 4 (.var 5) (.loc 1)), none, none⟩]
def c35_7 : List CO := [⟨(.mov (.var 4)), none, none⟩,
  ⟨(.load true 4 (.var 5)), none, none⟩,
  ⟨(.mov (.var 1)), none, none⟩,
  ⟨(.call true 35 [(.loc 1), (.loc 0)]), none, none⟩,
  ⟨(.bslice 4 [(.int .i64 0), (.string ⟨#[]⟩), (.int .i64 0), (.slice none 0 0)] 1 [(0, (.loc 0))]), none, none⟩,
  ⟨(.append 4 56 (.loc 4) (.loc 0)), none, none⟩,
  ⟨(.mov (.loc 0)), (some 4), none⟩]
def c35_8 : List CO := [⟨(.bin .add (.var 9) (.k (.int .i64 1))), none, none⟩,
  ⟨(.mov (.loc 0)), (some 9), none⟩]
def c35_9 : CC := (.seq (.region [] [] c35_5) (.seq (.cond (.var 10) .skip (.exit 0)) (.seq (.block 1 (.seq (.region [] [] c35_6) (.region [] [] c35_7))) (.region [] [] c35_8))))
def c35_10 : List CO := [⟨(.mov (.var 4)), none, none⟩,
  ⟨(.fa 3 (.var 2)), none, none⟩,
  ⟨(.store 1 (.loc 0) (.loc 1)), none, none⟩]
def c35_11 : List CO := [⟨(.load true 4 (.var 2)), none, none⟩,
  ⟨(.store 4 (.var 3) (.loc 0)), none, none⟩]
def c35 : CFun := ⟨2, 11, (.seq (.region [] [] c35_0) (.seq (.seq (.region [] [] c35_1) (.cond (.var 6) (.region [] [] c35_2) .skip)) (.seq (.region [] [] c35_3) (.seq (.seq (.region [] [] c35_4) (.block 0 (.loop [false, true, true, true, true, false, false, true, true, true, false] [] c35_9))) (.seq (.region [] [] c35_10) (.seq (.region [] [] c35_11) .ret)))))), [.cell 3 true 4]⟩
theorem ok35 : CodeOk Try.prog T 35 c35 := ⟨⟨Try.f35, Hints.of [] [] [(0, [false, true, true, true, true, false, false, true, true, true, false], [])], [0, 1, 2, 4, 5, 7, 10, 17, 18, 19, 20], Try.func35, by kernel_rfl, by kernel_rfl⟩⟩

/-! (*spinney/subst.resolver).term -/
def c36_0 : List CO := [⟨(.box (.var 1)), (some 2), none⟩,
  ⟨(.box (.k (.agg #[(.int .i64 0), (.string ⟨#[]⟩), (.int .i64 0), (.slice none 0 0)]))), (some 3), none⟩,
  ⟨(.mov (.k (.int .i64 0))), (some 4), none⟩]
def c36_1 : List CO := [⟨(.mov (.var 0)), none, none⟩,
  ⟨(.nilchk (.loc 0)), none, none⟩,
  ⟨(.fa 0 (.loc 0)), none, none⟩,
  ⟨(.load false 1 (.loc 0)), none, none⟩,
  ⟨(.load true 4 (.var 2)), none, none⟩,
  ⟨(.mov (.var 0)), none, none⟩,
  ⟨(.nilchk (.loc 0)), none, none⟩,
  ⟨(.fa 1 (.loc 0)), none, none⟩,
  ⟨(.call false 51 [(.loc 4), (.loc 3), (.loc 0)]), none, none⟩,
  ⟨(.mov (.loc 0)), none, none⟩,
  ⟨(.extract (.loc 0) 0), none, none⟩,
  ⟨(.extract (.loc 1) 1), none, none⟩,
  ⟨(.store 4 (.var 2) (.loc 1)), none, none⟩,
  ⟨(.mov (.loc 1)), (some 5), none⟩]
def c36_2 : List CO := [⟨(.mov (.var 5)), none, none⟩,
  ⟨(.bin .neq (.loc 0) (.k (.int .i64 0))), none, none⟩,
  ⟨(.mov (.loc 0)), (some 11), none⟩]
def c36_3 : List CO := [⟨(.load true 4 (.var 2)), none, none⟩,
  ⟨(.mov (.var 5)), none, none⟩,
  ⟨(.store 4 (.var 3) (.loc 1)), none, none⟩,
  ⟨(.mov (.loc 1)), (some 4), none⟩]
def c36_4 : List CO := [⟨(.mov (.var 0)), none, none⟩,
  ⟨(.nilchk (.loc 0)), none, none⟩,
  ⟨(.fa 2 (.loc 0)), none, none⟩,
  ⟨(.load false 1 (.loc 0)), none, none⟩,
  ⟨(.bin .eql (.loc 0) (.k (.int .i64 60))), none, none⟩,
  ⟨(.mov (.loc 0)), (some 12), none⟩]
def c36_5 : List CO := [⟨(.build [(.int .i64 0), (.string ⟨#[]⟩), (.int .i64 0), (.slice none 0 0)] []), none, none⟩,
  ⟨(.store 4 (.var 3) (.loc 0)), none, none⟩,
  ⟨(.mov (.k (.int .i64 3))), (some 4), none⟩]
def c36_6 : List CO := [⟨(.mov (.var 0)), none, none⟩,
  ⟨(.nilchk (.loc 0)), none, none⟩,
  ⟨(.fa 2 (.loc 0)), none, none⟩,
  ⟨(.load false 1 (.loc 0)), none, none⟩,
  ⟨(.bin .add (.loc 0) (.k (.int .i64 1))), none, none⟩,
  ⟨(.nilchk (.loc 4)), none, none⟩,
  ⟨(.fa 2 (.loc 0)), none, none⟩,
  ⟨(.store 1 (.loc 0) (.loc 2)), none, none⟩]
def c36_7 : List CO := [⟨(.fa 3 (.var 2)), none, none⟩,
  ⟨(.load false 1 (.loc 0)), none, none⟩,
  ⟨(.len .slice (.loc 0)), none, none⟩,
  ⟨(.mkslice 4 56 [(.int .i64 0), (.string ⟨#[]⟩), (.int .i64 0), (.slice none 0 0)] (.loc 0) (.loc 0)), none, none⟩,
  ⟨(.mov (.loc 0)), (some 6), none⟩]
def c36_8 : List CO := [⟨(.fa 3 (.var 2)), none, none⟩,
  ⟨(.load false 1 (.loc 0)), (some 13), none⟩,
  ⟨(.len .slice (.var 13)), (some 14), none⟩,
  ⟨(.mov (.k (.int .i64 0))), (some 15), none⟩]
def c36_9 : List CO := [⟨(.bin .lss (.var 15) (.var 14)), (some 16), none⟩]
def c36_10 : List CO := [⟨(.mov (.var 15)), none, none⟩,
  ⟨(.ia 4 (.var 13) (.var 15)), none, none⟩,
  ⟨(.load true 4 (.loc 0)), none, none⟩,
  ⟨(.box (.k (.agg #[(.int .i64 0), (.string ⟨#[]⟩), (.int .i64 0), (.slice none 0 0)]))), (some 8), none⟩,
  ⟨(.mov (.loc 3)), (some 7), none⟩,
  ⟨(.store 4 (.var 8) (.loc 2)), none, none⟩]
def c36_11 : List CO := [⟨(.mov (.var 0)), none, none⟩,
  ⟨(.load true 4 (.var 8)), none, none⟩,
  ⟨(.call false 36 [(.loc 1), (.loc 0)]), none, none⟩,
  ⟨(.mov (.loc 0)), none, none⟩,
  ⟨(.extract (.loc 0) 0), none, none⟩,
  ⟨(.extract (.loc 1) 1), none, none⟩,
  ⟨(.box (.k (.agg #[(.int .i64 0), (.string ⟨#[]⟩), (.int .i64 0), (.slice none 0 0)]))), (some 9), none⟩,
  ⟨(.store 4 (.var 9) (.loc 2)), none, none⟩,
  ⟨(.mov (.loc 2)), (some 10), none⟩]
def c36_12 : List CO := [⟨(.mov (.var 10)), none, none⟩,
  ⟨(.bin .neq (.loc 0) (.k (.int .i64 0))), (some 17), none⟩]
def c36_13 : List CO := [⟨(.build [(.int .i64 0), (.string ⟨#[]⟩), (.int .i64 0), (.slice none 0 0)] []), none, none⟩,
  ⟨(.mov (.var 10)), none, none⟩,
  ⟨(.store 4 (.var 3) (.loc 1)), none, none⟩,
  ⟨(.mov (.loc 1)), (some 4), none⟩]
def c36_14 : List CO := [⟨(.mov (.var 6)), none, none⟩,
  ⟨(.mov (.var 7)), none, none⟩,
  ⟨(.load true 4 (.var 9)), none, none⟩,
  ⟨(.ia 4 (.loc 2) (.loc 1)), none, none⟩,
  ⟨(.store 4 (.loc 0) (.loc 1)), none, none⟩]
def c36_15 : List CO := [⟨(.bin .add (.var 15) (.k (.int .i64 1))), none, none⟩,
  ⟨(.mov (.loc 0)), (some 15), none⟩]
def c36_16 : CC := (.seq (.region [] [] c36_9) (.seq (.cond (.var 16) .skip (.exit 1)) (.seq (.block 2 (.seq (.region [] [] c36_10) (.seq (.region [] [] c36_11) (.seq (.seq (.region [] [] c36_12) (.cond (.var 17) (.seq (.region [] [] c36_13) .ret) .skip)) (.region [] [] c36_14))))) (.region [] [] c36_15))))
def c36_17 : List CO := [⟨(.mov (.var 0)), none, none⟩,
  ⟨(.nilchk (.loc 0)), none, none⟩,
  ⟨(.fa 2 (.loc 0)), none, none⟩,
  ⟨(.load false 1 (.loc 0)), none, none⟩,
  ⟨(.bin .sub (.loc 0) (.k (.int .i64 1))), none, none⟩,
  ⟨(.nilchk (.loc 4)), none, none⟩,
  ⟨(.fa 2 (.loc 0)), none, none⟩,
  ⟨(.store 1 (.loc 0) (.loc 2)), none, none⟩]
def c36_18 : List CO := [⟨(.mov (.var 6)), none, none⟩,
  ⟨(.fa 3 (.var 2)), none, none⟩,
  ⟨(.store 1 (.loc 0) (.loc 1)), none, none⟩]
def c36_19 : List CO := [⟨(.load true 4 (.var 2)), none, none⟩,
  ⟨(.store 4 (.var 3) (.loc 0)), none, none⟩,
  ⟨(.mov (.k (.int .i64 0))), (some 4), none⟩]
def c36 : CFun := ⟨2, 18, (.seq (.region [] [] c36_0) (.seq (.region [] [] c36_1) (.seq (.block 0 (.seq (.region [] [] c36_2) (.cond (.var 11) (.seq (.region [] [] c36_3) .ret) (.seq (.region [] [] c36_4) (.cond (.var 12) (.seq (.region [] [] c36_5) .ret) .skip))))) (.seq (.region [] [] c36_6) (.seq (.region [] [] c36_7) (.seq (.seq (.region [] [] c36_8) (.block 1 (.loop [true, false, true, true, false, false, true, false, false, false, false, false, false, true, true, true, false, false] [] c36_16))) (.seq (.region [] [] c36_17) (.seq (.region [] [] c36_18) (.seq (.region [] [] c36_19) .ret))))))))), [.cell 3 true 4, .var 4]⟩
theorem ok36 : CodeOk Try.prog T 36 c36 := ⟨⟨Try.f36, Hints.of [] [] [(1, [true, false, true, true, false, false, true, false, false, false, false, false, false, true, true, true, false, false], [])], [0, 1, 3, 4, 5, 6, 7, 8, 9, 10, 11, 24, 29, 48, 49, 50, 51, 62], Try.func36, by kernel_rfl, by kernel_rfl⟩⟩

/-! spinney/spinneyref03.places -/
def c37_0 : List CO := [⟨(.box (.var 0)), (some 1), none⟩,
  ⟨(.mov (.k (.slice none 0 0))), (some 2), none⟩]
def c37_1 : List CO := [⟨(.mov (.k (.slice none 0 0))), (some 3), none⟩]
def c37_2 : List CO := [⟨(.fa 0 (.var 1)), none, none⟩,
  ⟨(.load false 1 (.loc 0)), none, none⟩,
  ⟨(.bin .eql (.loc 0) (.k (.int .i64 1))), (some 5), none⟩]
def c37_3 : List CO := [⟨(.mov (.var 3)), none, none⟩,
  ⟨(.fa 2 (.var 1)), none, none⟩,
  ⟨(.load false 1 (.loc 0)), none, none⟩,
  ⟨(.bslice 1 [(.int .i64 0)] 1 [(0, (.loc 0))]), none, none⟩,
  ⟨(.append 1 8 (.loc 3) (.loc 0)), none, none⟩,
  ⟨(.mov (.loc 0)), (some 3), none⟩]
def c37_4 : List CO := [⟨(.fa 3 (.var 1)), none, none⟩,
  ⟨(.load false 1 (.loc 0)), (some 6), none⟩,
  ⟨(.len .slice (.var 6)), (some 7), none⟩,
  ⟨(.mov (.k (.int .i64 0))), (some 8), none⟩]
def c37_5 : List CO := [⟨(.bin .lss (.var 8) (.var 7)), (some 9), none⟩]
def c37_6 : List CO := [⟨(.ia 4 (.var 6) (.var 8)), none, none⟩,
  ⟨(.load true 4 (.loc 0)), none, none⟩,
  ⟨(.box (.k (.agg #[(.int .i64 0), (.string ⟨#[]⟩), (.int .i64 0), (.slice none 0 0)]))), (some 4), none⟩,
  ⟨(.store 4 (.var 4) (.loc 1)), none, none⟩]
def c37_7 : List CO := [⟨(.mov (.var 3)), none, none⟩,
  ⟨(.load true 4 (.var 4)), none, none⟩,
  ⟨(.call true 37 [(.loc 0)]), none, none⟩,
  ⟨(.append 1 8 (.loc 2) (.loc 0)), none, none⟩,
  ⟨(.mov (.loc 0)), (some 3), none⟩]
def c37_8 : List CO := [⟨(.bin .add (.var 8) (.k (.int .i64 1))), none, none⟩,
  ⟨(.mov (.loc 0)), (some 8), none⟩]
def c37_9 : CC := (.seq (.region [] [] c37_5) (.seq (.cond (.var 9) .skip (.exit 0)) (.seq (.block 1 (.seq (.region [] [] c37_6) (.region [] [] c37_7))) (.region [] [] c37_8))))
def c37_10 : List CO := [⟨(.mov (.var 3)), none, none⟩,
  ⟨(.mov (.loc 0)), (some 2), none⟩]
def c37 : CFun := ⟨1, 10, (.seq (.region [] [] c37_0) (.seq (.region [] [] c37_1) (.seq (.seq (.region [] [] c37_2) (.cond (.var 5) (.region [] [] c37_3) .skip)) (.seq (.seq (.region [] [] c37_4) (.block 0 (.loop [false, false, false, true, false, false, true, true, true, false] [] c37_9))) (.seq (.region [] [] c37_10) .ret))))), [.var 2]⟩
theorem ok37 : CodeOk Try.prog T 37 c37 := ⟨⟨Try.f37, Hints.of [] [] [(0, [false, false, false, true, false, false, true, true, true, false], [])], [0, 1, 2, 3, 5, 8, 15, 16, 17, 18], Try.func37, by kernel_rfl, by kernel_rfl⟩⟩

/-! spinney/spinneyref03.Has -/
def c38_0 : List CO := [⟨(.mov (.k (.bool false))), (some 2), none⟩]
def c38_1 : List CO := [⟨(.mov (.var 0)), (some 4), none⟩,
  ⟨(.len .slice (.var 4)), (some 5), none⟩,
  ⟨(.mov (.k (.int .i64 0))), (some 6), none⟩]
def c38_2 : List CO := [⟨(.bin .lss (.var 6) (.var 5)), (some 7), none⟩]
def c38_3 : List CO := [⟨(.ia 1 (.var 4) (.var 6)), none, none⟩,
  ⟨(.load false 1 (.loc 0)), none, none⟩,
  ⟨(.mov (.loc 0)), (some 3), none⟩]
def c38_4 : List CO := [⟨(.mov (.var 3)), none, none⟩,
  ⟨(.mov (.var 1)), none, none⟩,
  ⟨(.bin .eql (.loc 1) (.loc 0)), (some 8), none⟩]
def c38_5 : List CO := [⟨(.mov (.k (.bool true))), (some 2), none⟩]
def c38_6 : List CO := [⟨(.bin .add (.var 6) (.k (.int .i64 1))), none, none⟩,
  ⟨(.mov (.loc 0)), (some 6), none⟩]
def c38_7 : CC := (.seq (.region [] [] c38_2) (.seq (.cond (.var 7) .skip (.exit 0)) (.seq (.block 1 (.seq (.region [] [] c38_3) (.seq (.region [] [] c38_4) (.cond (.var 8) (.seq (.region [] [] c38_5) .ret) .skip)))) (.region [] [] c38_6))))
def c38_8 : List CO := [⟨(.mov (.k (.bool false))), (some 2), none⟩]
def c38 : CFun := ⟨2, 9, (.seq (.region [] [] c38_0) (.seq (.seq (.region [] [] c38_1) (.block 0 (.loop [false, true, false, false, true, true, true, false, false] [] c38_7))) (.seq (.region [] [] c38_8) .ret))), [.var 2]⟩
theorem ok38 : CodeOk Try.prog T 38 c38 := ⟨⟨Try.f38, Hints.of [] [] [(0, [false, true, false, false, true, true, true, false, false], [])], [0, 1, 4, 6, 7, 8, 9, 10, 15], Try.func38, by kernel_rfl, by kernel_rfl⟩⟩

/-! spinney/unify.Compare -/
def c39_0 : List CO := [⟨(.box (.var 1)), (some 3), none⟩,
  ⟨(.box (.var 2)), (some 4), none⟩,
  ⟨(.mov (.k (.int .i64 0))), (some 5), none⟩,
  ⟨(.mov (.k (.int .i64 0))), (some 6), none⟩]
def c39_1 : List CO := [⟨(.mov (.var 0)), none, none⟩,
  ⟨(.load true 4 (.var 3)), none, none⟩,
  ⟨(.load true 4 (.var 4)), none, none⟩,
  ⟨(.build [(.int .i64 0), (.string ⟨#[]⟩), (.int .i64 0), (.slice none 0 0), (.int .i64 0), (.string ⟨#[]⟩), (.int .i64 0), (.slice none 0 0)] [(0, 4, (.loc 1)), (4, 4, (.loc 0))]), none, none⟩,
  ⟨(.brow 8 [(.int .i64 0), (.string ⟨#[]⟩), (.int .i64 0), (.slice none 0 0), (.int .i64 0), (.string ⟨#[]⟩), (.int .i64 0), (.slice none 0 0)] 1 [(0, (.loc 0))]), none, none⟩,
  ⟨(.build [(.slice none 0 0), (.int .i64 0), (.slice none 0 0)] [(0, 1, (.loc 4)), (1, 1, (.k (.int .i64 2000))), (2, 1, (.loc 0))]), none, none⟩,
  ⟨(.box (.loc 0)), none, none⟩,
  ⟨(.mov (.loc 0)), (some 7), none⟩]
def c39_2 : List CO := [⟨(.mov (.var 7)), none, none⟩,
  ⟨(.nilchk (.loc 0)), none, none⟩,
  ⟨(.fa 2 (.loc 0)), none, none⟩,
  ⟨(.load false 1 (.loc 0)), none, none⟩,
  ⟨(.len .slice (.loc 0)), none, none⟩,
  ⟨(.bin .gtr (.loc 0) (.k (.int .i64 0))), (some 13), none⟩]
def c39_3 : List CO := [⟨(.mov (.var 7)), none, none⟩,
  ⟨(.call false 41 [(.loc 0)]), none, none⟩,
  ⟨(.mov (.loc 0)), none, none⟩,
  ⟨(.extract (.loc 0) 0), none, none⟩,
  ⟨(.extract (.loc 1) 1), none, none⟩,
  ⟨(.extract (.loc 2) 2), none, none⟩,
  ⟨(.box (.k (.agg #[(.int .i64 0), (.string ⟨#[]⟩), (.int .i64 0), (.slice none 0 0)]))), (some 8), none⟩,
  ⟨(.box (.k (.agg #[(.int .i64 0), (.string ⟨#[]⟩), (.int .i64 0), (.slice none 0 0)]))), (some 9), none⟩,
  ⟨(.store 4 (.var 8) (.loc 4)), none, none⟩,
  ⟨(.store 4 (.var 9) (.loc 4)), none, none⟩,
  ⟨(.mov (.loc 4)), (some 10), none⟩]
def c39_4 : List CO := [⟨(.mov (.var 10)), none, none⟩,
  ⟨(.bin .neq (.loc 0) (.k (.int .i64 0))), (some 14), none⟩]
def c39_5 : List CO := [⟨(.mov (.var 10)), none, none⟩,
  ⟨(.mov (.k (.int .i64 0))), (some 5), none⟩,
  ⟨(.mov (.loc 1)), (some 6), none⟩]
def c39_6 : List CO := [⟨(.fa 0 (.var 8)), none, none⟩,
  ⟨(.load false 1 (.loc 0)), none, none⟩,
  ⟨(.bin .eql (.loc 0) (.k (.int .i64 4))), none, none⟩,
  ⟨(.mov (.loc 0)), none, none⟩,
  ⟨(.fa 0 (.var 9)), none, (some ((.loc 0), true))⟩,
  ⟨(.load false 1 (.loc 0)), none, (some ((.loc 1), true))⟩,
  ⟨(.bin .eql (.loc 0) (.k (.int .i64 4))), none, (some ((.loc 2), true))⟩,
  ⟨(.pick (.loc 3) (.loc 0) (.k (.bool false))), none, none⟩,
  ⟨(.mov (.loc 0)), (some 11), none⟩]
def c39_7 : List CO := [⟨(.mov (.var 11)), none, none⟩,
  ⟨(.mov (.loc 0)), none, none⟩,
  ⟨(.fa 3 (.var 8)), none, (some ((.loc 0), true))⟩,
  ⟨(.load false 1 (.loc 0)), none, (some ((.loc 1), true))⟩,
  ⟨(.len .slice (.loc 0)), none, (some ((.loc 2), true))⟩,
  ⟨(.fa 3 (.var 9)), none, (some ((.loc 3), true))⟩,
  ⟨(.load false 1 (.loc 0)), none, (some ((.loc 4), true))⟩,
  ⟨(.len .slice (.loc 0)), none, (some ((.loc 5), true))⟩,
  ⟨(.call true 52 [(.loc 3), (.loc 0)]), none, (some ((.loc 6), true))⟩,
  ⟨(.bin .eql (.loc 0) (.k (.int .i64 0))), none, (some ((.loc 7), true))⟩,
  ⟨(.pick (.loc 8) (.loc 0) (.k (.bool false))), none, none⟩,
  ⟨(.mov (.loc 0)), none, none⟩,
  ⟨(.fa 1 (.var 8)), none, (some ((.loc 0), true))⟩,
  ⟨(.load false 1 (.loc 0)), none, (some ((.loc 1), true))⟩,
  ⟨(.fa 1 (.var 9)), none, (some ((.loc 2), true))⟩,
  ⟨(.load false 1 (.loc 0)), none, (some ((.loc 3), true))⟩,
  ⟨(.bin .eql (.loc 2) (.loc 0)), none, (some ((.loc 4), true))⟩,
  ⟨(.pick (.loc 5) (.loc 0) (.k (.bool false))), (some 15), none⟩]
def c39_8 : List CO := [⟨(.mov (.var 7)), none, none⟩,
  ⟨(.load true 4 (.var 8)), none, none⟩,
  ⟨(.load true 4 (.var 9)), none, none⟩,
  ⟨(.call false 43 [(.loc 2), (.loc 1), (.loc 0)]), none, none⟩]
def c39_9 : List CO := [⟨(.load true 4 (.var 8)), none, none⟩,
  ⟨(.load true 4 (.var 9)), none, none⟩,
  ⟨(.call true 53 [(.loc 1), (.loc 0)]), none, none⟩,
  ⟨(.mov (.loc 0)), (some 12), none⟩]
def c39_10 : List CO := [⟨(.mov (.var 12)), none, none⟩,
  ⟨(.bin .neq (.loc 0) (.k (.int .i64 0))), (some 16), none⟩]
def c39_11 : List CO := [⟨(.mov (.var 12)), none, none⟩,
  ⟨(.mov (.loc 0)), (some 5), none⟩,
  ⟨(.mov (.k (.int .i64 0))), (some 6), none⟩]
def c39_12 : CC := (.seq (.seq (.region [] [] c39_2) (.cond (.var 13) .skip (.exit 0))) (.block 1 (.seq (.region [] [] c39_3) (.seq (.seq (.region [] [] c39_4) (.cond (.var 14) (.seq (.region [] [] c39_5) .ret) .skip)) (.seq (.region [] [] c39_6) (.seq (.region [] [] c39_7) (.cond (.var 15) (.region [] [] c39_8) (.seq (.region [] [] c39_9) (.seq (.region [] [] c39_10) (.cond (.var 16) (.seq (.region [] [] c39_11) .ret) .skip))))))))))
def c39_13 : List CO := [⟨(.mov (.k (.int .i64 0))), (some 5), none⟩,
  ⟨(.mov (.k (.int .i64 0))), (some 6), none⟩]
def c39 : CFun := ⟨3, 17, (.seq (.region [] [] c39_0) (.seq (.region [] [] c39_1) (.seq (.block 0 (.loop [false, false, false, false, false, false, false, true, false, false, false, false, false, false, false, false, false] [] c39_12)) (.seq (.region [] [] c39_13) .ret)))), [.var 5, .var 6]⟩
theorem ok39 : CodeOk Try.prog T 39 c39 := ⟨⟨Try.f39, Hints.of [] [] [(0, [false, false, false, false, false, false, false, true, false, false, false, false, false, false, false, false, false], [])], [0, 1, 2, 4, 5, 6, 7, 8, 9, 10, 11, 12, 13, 26, 34, 61, 70], Try.func39, by kernel_rfl, by kernel_rfl⟩⟩

/-! spinney/spinneyref03.Int1 -/
def c40_0 : List CO := [⟨(.box (.k (.agg #[(.int .i64 0), (.string ⟨#[]⟩), (.int .i64 0), (.slice none 0 0)]))), (some 1), none⟩]
def c40_1 : List CO := [⟨(.mov (.var 0)), none, none⟩,
  ⟨(.build [(.int .i64 0), (.string ⟨#[]⟩), (.int .i64 0), (.slice none 0 0)] [(0, 1, (.k (.int .i64 3))), (2, 1, (.loc 0))]), none, none⟩,
  ⟨(.store 4 (.var 1) (.loc 0)), none, none⟩]
def c40 : CFun := ⟨1, 2, (.seq (.region [] [] c40_0) (.seq (.region [] [] c40_1) .ret)), [.cell 1 true 4]⟩
theorem ok40 : CodeOk Try.prog T 40 c40 := ⟨⟨Try.f40, Hints.of [] [] [], [0, 2], Try.func40, by kernel_rfl, by kernel_rfl⟩⟩

/-! (*spinney/unify.walker).next -/
def c41_0 : List CO := [⟨(.box (.k (.agg #[(.int .i64 0), (.string ⟨#[]⟩), (.int .i64 0), (.slice none 0 0)]))), (some 1), none⟩,
  ⟨(.box (.k (.agg #[(.int .i64 0), (.string ⟨#[]⟩), (.int .i64 0), (.slice none 0 0)]))), (some 2), none⟩,
  ⟨(.mov (.k (.int .i64 0))), (some 3), none⟩]
def c41_1 : List CO := [⟨(.mov (.var 0)), none, none⟩,
  ⟨(.nilchk (.loc 0)), none, none⟩,
  ⟨(.fa 2 (.loc 0)), none, none⟩,
  ⟨(.load false 1 (.loc 0)), none, none⟩,
  ⟨(.mov (.var 0)), none, none⟩,
  ⟨(.nilchk (.loc 0)), none, none⟩,
  ⟨(.fa 2 (.loc 0)), none, none⟩,
  ⟨(.load false 1 (.loc 0)), none, none⟩,
  ⟨(.len .slice (.loc 0)), none, none⟩,
  ⟨(.bin .sub (.loc 0) (.k (.int .i64 1))), none, none⟩,
  ⟨(.ia 8 (.loc 6) (.loc 0)), none, none⟩,
  ⟨(.load true 8 (.loc 0)), none, none⟩,
  ⟨(.box (.k (.agg #[(.int .i64 0), (.string ⟨#[]⟩), (.int .i64 0), (.slice none 0 0), (.int .i64 0), (.string ⟨#[]⟩), (.int .i64 0), (.slice none 0 0)]))), (some 4), none⟩,
  ⟨(.store 8 (.var 4) (.loc 1)), none, none⟩]
def c41_2 : List CO := [⟨(.mov (.var 0)), none, none⟩,
  ⟨(.mov (.var 0)), none, none⟩,
  ⟨(.nilchk (.loc 0)), none, none⟩,
  ⟨(.fa 2 (.loc 0)), none, none⟩,
  ⟨(.load false 1 (.loc 0)), none, none⟩,
  ⟨(.mov (.var 0)), none, none⟩,
  ⟨(.nilchk (.loc 0)), none, none⟩,
  ⟨(.fa 2 (.loc 0)), none, none⟩,
  ⟨(.load false 1 (.loc 0)), none, none⟩,
  ⟨(.len .slice (.loc 0)), none, none⟩,
  ⟨(.bin .sub (.loc 0) (.k (.int .i64 1))), none, none⟩,
  ⟨(.slice 8 (.loc 6) none (some (.loc 0)) none), none, none⟩,
  ⟨(.nilchk (.loc 11)), none, none⟩,
  ⟨(.fa 2 (.loc 0)), none, none⟩,
  ⟨(.store 1 (.loc 0) (.loc 2)), none, none⟩]
def c41_3 : List CO := [⟨(.mov (.var 0)), none, none⟩,
  ⟨(.nilchk (.loc 0)), none, none⟩,
  ⟨(.fa 0 (.loc 0)), none, none⟩,
  ⟨(.load false 1 (.loc 0)), none, none⟩,
  ⟨(.fa 0 (.var 4)), none, none⟩,
  ⟨(.load true 4 (.loc 0)), none, none⟩,
  ⟨(.mov (.var 0)), none, none⟩,
  ⟨(.nilchk (.loc 0)), none, none⟩,
  ⟨(.fa 1 (.loc 0)), none, none⟩,
  ⟨(.call false 51 [(.loc 5), (.loc 3), (.loc 0)]), none, none⟩,
  ⟨(.mov (.loc 0)), none, none⟩,
  ⟨(.extract (.loc 0) 0), none, none⟩,
  ⟨(.extract (.loc 1) 1), none, none⟩,
  ⟨(.store 4 (.var 1) (.loc 1)), none, none⟩,
  ⟨(.mov (.loc 1)), (some 3), none⟩]
def c41_4 : List CO := [⟨(.mov (.var 3)), none, none⟩,
  ⟨(.bin .eql (.loc 0) (.k (.int .i64 0))), (some 5), none⟩]
def c41_5 : List CO := [⟨(.mov (.var 0)), none, none⟩,
  ⟨(.nilchk (.loc 0)), none, none⟩,
  ⟨(.fa 0 (.loc 0)), none, none⟩,
  ⟨(.load false 1 (.loc 0)), none, none⟩,
  ⟨(.fa 4 (.var 4)), none, none⟩,
  ⟨(.load true 4 (.loc 0)), none, none⟩,
  ⟨(.mov (.var 0)), none, none⟩,
  ⟨(.nilchk (.loc 0)), none, none⟩,
  ⟨(.fa 1 (.loc 0)), none, none⟩,
  ⟨(.call false 51 [(.loc 5), (.loc 3), (.loc 0)]), none, none⟩,
  ⟨(.mov (.loc 0)), none, none⟩,
  ⟨(.extract (.loc 0) 0), none, none⟩,
  ⟨(.extract (.loc 1) 1), none, none⟩,
  ⟨(.store 4 (.var 2) (.loc 1)), none, none⟩,
  ⟨(.mov (.loc 1)), (some 3), none⟩]
def c41_6 : List CO := [⟨(.load true 4 (.var 1)), none, none⟩,
  ⟨(.load true 4 (.var 2)), none, none⟩,
  ⟨(.mov (.var 3)), none, none⟩,
  ⟨(.store 4 (.var 1) (.loc 2)), none, none⟩,
  ⟨(.store 4 (.var 2) (.loc 2)), none, none⟩,
  ⟨(.mov (.loc 2)), (some 3), none⟩]
def c41 : CFun := ⟨1, 6, (.seq (.region [] [] c41_0) (.seq (.region [] [] c41_1) (.seq (.region [] [] c41_2) (.seq (.seq (.region [] [] c41_3) (.seq (.region [] [] c41_4) (.cond (.var 5) (.region [] [] c41_5) .skip))) (.seq (.region [] [((some 1), 2)] c41_6) .ret))))), [.cell 1 true 4, .cell 2 true 4, .var 3]⟩
theorem ok41 : CodeOk Try.prog T 41 c41 := ⟨⟨Try.f41, Hints.of [] [(6, [((some 1), 2)])] [], [0, 2, 3, 4, 5, 46], Try.func41, by kernel_rfl, by kernel_rfl⟩⟩

/-! spinney/term.Copy -/
def c42_0 : List CO := [⟨(.box (.var 0)), (some 1), none⟩,
  ⟨(.box (.k (.agg #[(.int .i64 0), (.string ⟨#[]⟩), (.int .i64 0), (.slice none 0 0)]))), (some 2), none⟩]
def c42_1 : List CO := [⟨(.load true 4 (.var 1)), none, none⟩,
  ⟨(.call false 49 [(.loc 0), (.fn 54)]), none, none⟩,
  ⟨(.store 4 (.var 2) (.loc 0)), none, none⟩]
def c42 : CFun := ⟨1, 3, (.seq (.region [] [] c42_0) (.seq (.region [] [] c42_1) .ret)), [.cell 2 true 4]⟩
theorem ok42 : CodeOk Try.prog T 42 c42 := ⟨⟨Try.f42, Hints.of [] [] [], [0, 1, 2], Try.func42, by kernel_rfl, by kernel_rfl⟩⟩

/-! (*spinney/unify.walker).within -/
def c43_0 : List CO := [⟨(.box (.var 1)), (some 3), none⟩,
  ⟨(.box (.var 2)), (some 4), none⟩]
def c43_1 : List CO := [⟨(.fa 3 (.var 3)), none, none⟩,
  ⟨(.load false 1 (.loc 0)), none, none⟩,
  ⟨(.len .slice (.loc 0)), none, none⟩,
  ⟨(.bin .sub (.loc 0) (.k (.int .i64 1))), none, none⟩,
  ⟨(.mov (.loc 0)), (some 5), none⟩]
def c43_2 : List CO := [⟨(.mov (.var 5)), none, none⟩,
  ⟨(.bin .geq (.loc 0) (.k (.int .i64 0))), (some 6), none⟩]
def c43_3 : List CO := [⟨(.mov (.var 0)), none, none⟩,
  ⟨(.mov (.var 0)), none, none⟩,
  ⟨(.nilchk (.loc 0)), none, none⟩,
  ⟨(.fa 2 (.loc 0)), none, none⟩,
  ⟨(.load false 1 (.loc 0)), none, none⟩,
  ⟨(.fa 3 (.var 3)), none, none⟩,
  ⟨(.load false 1 (.loc 0)), none, none⟩,
  ⟨(.mov (.var 5)), none, none⟩,
  ⟨(.ia 4 (.loc 1) (.loc 0)), none, none⟩,
  ⟨(.load true 4 (.loc 0)), none, none⟩,
  ⟨(.fa 3 (.var 4)), none, none⟩,
  ⟨(.load false 1 (.loc 0)), none, none⟩,
  ⟨(.mov (.var 5)), none, none⟩,
  ⟨(.ia 4 (.loc 1) (.loc 0)), none, none⟩,
  ⟨(.load true 4 (.loc 0)), none, none⟩,
  ⟨(.build [(.int .i64 0), (.string ⟨#[]⟩), (.int .i64 0), (.slice none 0 0), (.int .i64 0), (.string ⟨#[]⟩), (.int .i64 0), (.slice none 0 0)] [(0, 4, (.loc 5)), (4, 4, (.loc 0))]), none, none⟩,
  ⟨(.brow 8 [(.int .i64 0), (.string ⟨#[]⟩), (.int .i64 0), (.slice none 0 0), (.int .i64 0), (.string ⟨#[]⟩), (.int .i64 0), (.slice none 0 0)] 1 [(0, (.loc 0))]), none, none⟩,
  ⟨(.append 8 112 (.loc 12) (.loc 0)), none, none⟩,
  ⟨(.nilchk (.loc 17)), none, none⟩,
  ⟨(.fa 2 (.loc 0)), none, none⟩,
  ⟨(.store 1 (.loc 0) (.loc 2)), none, none⟩]
def c43_4 : List CO := [⟨(.mov (.var 5)), none, none⟩,
  ⟨(.bin .sub (.loc 0) (.k (.int .i64 1))), none, none⟩,
  ⟨(.mov (.loc 0)), (some 5), none⟩]
def c43_5 : CC := (.seq (.seq (.region [] [] c43_2) (.cond (.var 6) .skip (.exit 0))) (.seq (.block 1 (.region [] [] c43_3)) (.region [] [] c43_4)))
def c43 : CFun := ⟨3, 7, (.seq (.region [] [] c43_0) (.seq (.region [] [] c43_1) (.block 0 (.loop [true, false, false, true, true, true, false] [] c43_5)))), []⟩
theorem ok43 : CodeOk Try.prog T 43 c43 := ⟨⟨Try.f43, Hints.of [] [] [(0, [true, false, false, true, true, true, false], [])], [0, 1, 2, 4, 5, 6, 12], Try.func43, by kernel_rfl, by kernel_rfl⟩⟩

/-! slices.Clone[[]spinney/api.Bind,spinney/api.Bind] -/
def c44_0 : List CO := [⟨(.mov (.k (.slice none 0 0))), (some 1), none⟩]
def c44_1 : List CO := [⟨(.mov (.var 0)), none, none⟩,
  ⟨(.eqv .slice false (.loc 0) (.k (.slice none 0 0))), (some 2), none⟩]
def c44_2 : List CO := [⟨(.mov (.k (.slice none 0 0))), (some 1), none⟩]
def c44_3 : List CO := [⟨(.bslice 5 [(.int .i64 0), (.int .i64 0), (.string ⟨#[]⟩), (.int .i64 0), (.slice none 0 0)] 0 []), none, none⟩,
  ⟨(.mov (.var 0)), none, none⟩,
  ⟨(.append 5 64 (.loc 1) (.loc 0)), none, none⟩,
  ⟨(.mov (.loc 0)), (some 1), none⟩]
def c44 : CFun := ⟨1, 3, (.seq (.region [] [] c44_0) (.seq (.seq (.region [] [] c44_1) (.cond (.var 2) (.seq (.region [] [] c44_2) .ret) .skip)) (.seq (.region [] [] c44_3) .ret))), [.var 1]⟩
theorem ok44 : CodeOk Try.prog T 44 c44 := ⟨⟨Try.f44, Hints.of [] [] [], [0, 2, 4], Try.func44, by kernel_rfl, by kernel_rfl⟩⟩

/-! spinney/spinneyref10.unify -/
def c45_0 : List CO := [⟨(.box (.var 2)), (some 4), none⟩,
  ⟨(.box (.var 3)), (some 5), none⟩,
  ⟨(.mov (.k (.slice none 0 0))), (some 6), none⟩,
  ⟨(.mov (.k (.bool false))), (some 7), none⟩,
  ⟨(.mov (.k (.int .i64 0))), (some 8), none⟩]
def c45_1 : List CO := [⟨(.mov (.var 0)), none, none⟩,
  ⟨(.mov (.var 1)), none, none⟩,
  ⟨(.load true 4 (.var 4)), none, none⟩,
  ⟨(.load true 4 (.var 5)), none, none⟩,
  ⟨(.call false 55 [(.loc 3), (.loc 2), (.loc 1), (.loc 0)]), none, none⟩,
  ⟨(.mov (.loc 0)), none, none⟩,
  ⟨(.extract (.loc 0) 0), none, none⟩,
  ⟨(.extract (.loc 1) 1), none, none⟩,
  ⟨(.extract (.loc 2) 2), none, none⟩,
  ⟨(.store 4 (.var 4) (.loc 2)), none, none⟩,
  ⟨(.store 4 (.var 5) (.loc 2)), none, none⟩,
  ⟨(.mov (.loc 2)), (some 9), none⟩]
def c45_2 : List CO := [⟨(.mov (.var 9)), none, none⟩,
  ⟨(.bin .neq (.loc 0) (.k (.int .i64 0))), (some 14), none⟩]
def c45_3 : List CO := [⟨(.mov (.var 9)), none, none⟩,
  ⟨(.mov (.k (.slice none 0 0))), (some 6), none⟩,
  ⟨(.mov (.k (.bool false))), (some 7), none⟩,
  ⟨(.mov (.loc 2)), (some 8), none⟩]
def c45_4 : List CO := [⟨(.fa 0 (.var 4)), none, none⟩,
  ⟨(.load false 1 (.loc 0)), none, none⟩,
  ⟨(.bin .eql (.loc 0) (.k (.int .i64 1))), none, none⟩,
  ⟨(.mov (.loc 0)), none, none⟩,
  ⟨(.fa 0 (.var 5)), none, (some ((.loc 0), true))⟩,
  ⟨(.load false 1 (.loc 0)), none, (some ((.loc 1), true))⟩,
  ⟨(.bin .eql (.loc 0) (.k (.int .i64 1))), none, (some ((.loc 2), true))⟩,
  ⟨(.pick (.loc 3) (.loc 0) (.k (.bool false))), none, none⟩,
  ⟨(.mov (.loc 0)), none, none⟩,
  ⟨(.fa 2 (.var 4)), none, (some ((.loc 0), true))⟩,
  ⟨(.load false 1 (.loc 0)), none, (some ((.loc 1), true))⟩,
  ⟨(.fa 2 (.var 5)), none, (some ((.loc 2), true))⟩,
  ⟨(.load false 1 (.loc 0)), none, (some ((.loc 3), true))⟩,
  ⟨(.bin .eql (.loc 2) (.loc 0)), none, (some ((.loc 4), true))⟩,
  ⟨(.pick (.loc 5) (.loc 0) (.k (.bool false))), (some 15), none⟩]
def c45_5 : List CO := [⟨(.mov (.var 1)), none, none⟩,
  ⟨(.mov (.loc 0)), (some 6), none⟩,
  ⟨(.mov (.k (.bool true))), (some 7), none⟩,
  ⟨(.mov (.k (.int .i64 0))), (some 8), none⟩]
def c45_6 : List CO := [⟨(.fa 0 (.var 5)), none, none⟩,
  ⟨(.load false 1 (.loc 0)), none, none⟩,
  ⟨(.bin .eql (.loc 0) (.k (.int .i64 1))), none, none⟩,
  ⟨(.mov (.loc 0)), none, none⟩,
  ⟨(.fa 0 (.var 4)), none, (some ((.loc 0), true))⟩,
  ⟨(.load false 1 (.loc 0)), none, (some ((.loc 1), true))⟩,
  ⟨(.bin .neq (.loc 0) (.k (.int .i64 1))), none, (some ((.loc 2), true))⟩,
  ⟨(.mov (.loc 0)), none, (some ((.loc 3), true))⟩,
  ⟨(.fa 2 (.var 4)), none, (some ((.loc 0), false))⟩,
  ⟨(.load false 1 (.loc 0)), none, (some ((.loc 1), false))⟩,
  ⟨(.fa 2 (.var 5)), none, (some ((.loc 2), false))⟩,
  ⟨(.load false 1 (.loc 0)), none, (some ((.loc 3), false))⟩,
  ⟨(.bin .lss (.loc 2) (.loc 0)), none, (some ((.loc 4), false))⟩,
  ⟨(.pick (.loc 5) (.k (.bool true)) (.loc 0)), none, (some ((.loc 9), true))⟩,
  ⟨(.pick (.loc 10) (.loc 0) (.k (.bool false))), (some 16), none⟩]
def c45_7 : List CO := [⟨(.load true 4 (.var 5)), none, none⟩,
  ⟨(.load true 4 (.var 4)), none, none⟩,
  ⟨(.store 4 (.var 4) (.loc 1)), none, none⟩,
  ⟨(.store 4 (.var 5) (.loc 1)), none, none⟩]
def c45_8 : List CO := [⟨(.fa 0 (.var 4)), none, none⟩,
  ⟨(.load false 1 (.loc 0)), none, none⟩,
  ⟨(.bin .eql (.loc 0) (.k (.int .i64 1))), (some 17), none⟩]
def c45_9 : List CO := [⟨(.mov (.var 1)), none, none⟩,
  ⟨(.append 5 64 (.k (.slice none 0 0)) (.loc 0)), none, none⟩,
  ⟨(.fa 2 (.var 4)), none, none⟩,
  ⟨(.load false 1 (.loc 0)), none, none⟩,
  ⟨(.load true 4 (.var 5)), none, none⟩,
  ⟨(.build [(.int .i64 0), (.int .i64 0), (.string ⟨#[]⟩), (.int .i64 0), (.slice none 0 0)] [(0, 1, (.loc 1)), (1, 4, (.loc 0))]), none, none⟩,
  ⟨(.bslice 5 [(.int .i64 0), (.int .i64 0), (.string ⟨#[]⟩), (.int .i64 0), (.slice none 0 0)] 1 [(0, (.loc 0))]), none, none⟩,
  ⟨(.append 5 64 (.loc 5) (.loc 0)), none, none⟩,
  ⟨(.mov (.loc 0)), (some 6), none⟩,
  ⟨(.mov (.k (.bool true))), (some 7), none⟩,
  ⟨(.mov (.k (.int .i64 0))), (some 8), none⟩]
def c45_10 : List CO := [⟨(.fa 0 (.var 4)), none, none⟩,
  ⟨(.load false 1 (.loc 0)), none, none⟩,
  ⟨(.fa 0 (.var 5)), none, none⟩,
  ⟨(.load false 1 (.loc 0)), none, none⟩,
  ⟨(.bin .neq (.loc 2) (.loc 0)), none, none⟩,
  ⟨(.mov (.loc 0)), none, none⟩,
  ⟨(.fa 1 (.var 4)), none, (some ((.loc 0), false))⟩,
  ⟨(.load false 1 (.loc 0)), none, (some ((.loc 1), false))⟩,
  ⟨(.fa 1 (.var 5)), none, (some ((.loc 2), false))⟩,
  ⟨(.load false 1 (.loc 0)), none, (some ((.loc 3), false))⟩,
  ⟨(.bin .neq (.loc 2) (.loc 0)), none, (some ((.loc 4), false))⟩,
  ⟨(.pick (.loc 5) (.k (.bool true)) (.loc 0)), none, none⟩,
  ⟨(.mov (.loc 0)), none, none⟩,
  ⟨(.fa 2 (.var 4)), none, (some ((.loc 0), false))⟩,
  ⟨(.load false 1 (.loc 0)), none, (some ((.loc 1), false))⟩,
  ⟨(.fa 2 (.var 5)), none, (some ((.loc 2), false))⟩,
  ⟨(.load false 1 (.loc 0)), none, (some ((.loc 3), false))⟩,
  ⟨(.bin .neq (.loc 2) (.loc 0)), none, (some ((.loc 4), false))⟩,
  ⟨(.pick (.loc 5) (.k (.bool true)) (.loc 0)), none, none⟩,
  ⟨(.mov (.loc 0)), none, none⟩,
  ⟨(.fa 3 (.var 4)), none, (some ((.loc 0), false))⟩,
  ⟨(.load false 1 (.loc 0)), none, (some ((.loc 1), false))⟩,
  ⟨(.len .slice (.loc 0)), none, (some ((.loc 2), false))⟩,
  ⟨(.fa 3 (.var 5)), none, (some ((.loc 3), false))⟩,
  ⟨(.load false 1 (.loc 0)), none, (some ((.loc 4), false))⟩,
  ⟨(.len .slice (.loc 0)), none, (some ((.loc 5), false))⟩,
  ⟨(.bin .neq (.loc 3) (.loc 0)), none, (some ((.loc 6), false))⟩,
  ⟨(.pick (.loc 7) (.k (.bool true)) (.loc 0)), (some 18), none⟩]
def c45_11 : List CO := [⟨(.mov (.k (.slice none 0 0))), (some 6), none⟩,
  ⟨(.mov (.k (.bool false))), (some 7), none⟩,
  ⟨(.mov (.k (.int .i64 0))), (some 8), none⟩]
def c45_12 : List CO := [⟨(.fa 3 (.var 4)), none, none⟩,
  ⟨(.load false 1 (.loc 0)), none, none⟩,
  ⟨(.len .slice (.loc 0)), (some 19), none⟩,
  ⟨(.mov (.k (.int .i64 0))), (some 20), none⟩]
def c45_13 : List CO := [⟨(.bin .lss (.var 20) (.var 19)), (some 21), none⟩]
def c45_14 : List CO := [⟨(.mov (.var 20)), none, none⟩,
  ⟨(.mov (.loc 0)), (some 10), none⟩]
def c45_15 : List CO := [⟨(.mov (.var 0)), none, none⟩,
  ⟨(.mov (.var 1)), none, none⟩,
  ⟨(.fa 3 (.var 4)), none, none⟩,
  ⟨(.load false 1 (.loc 0)), none, none⟩,
  ⟨(.mov (.var 10)), none, none⟩,
  ⟨(.ia 4 (.loc 1) (.loc 0)), none, none⟩,
  ⟨(.load true 4 (.loc 0)), none, none⟩,
  ⟨(.fa 3 (.var 5)), none, none⟩,
  ⟨(.load false 1 (.loc 0)), none, none⟩,
  ⟨(.mov (.var 10)), none, none⟩,
  ⟨(.ia 4 (.loc 1) (.loc 0)), none, none⟩,
  ⟨(.load true 4 (.loc 0)), none, none⟩,
  ⟨(.call false 45 [(.loc 11), (.loc 10), (.loc 5), (.loc 0)]), none, none⟩,
  ⟨(.mov (.loc 0)), none, none⟩,
  ⟨(.extract (.loc 0) 0), none, none⟩,
  ⟨(.extract (.loc 1) 1), none, none⟩,
  ⟨(.extract (.loc 2) 2), none, none⟩,
  ⟨(.mov (.loc 2)), (some 11), none⟩,
  ⟨(.mov (.loc 2)), (some 12), none⟩,
  ⟨(.mov (.loc 2)), (some 13), none⟩]
def c45_16 : List CO := [⟨(.mov (.var 12)), none, none⟩,
  ⟨(.un .not (.loc 0)), (some 22), none⟩]
def c45_17 : List CO := [⟨(.mov (.var 13)), none, none⟩,
  ⟨(.mov (.k (.slice none 0 0))), (some 6), none⟩,
  ⟨(.mov (.k (.bool false))), (some 7), none⟩,
  ⟨(.mov (.loc 2)), (some 8), none⟩]
def c45_18 : List CO := [⟨(.mov (.var 11)), none, none⟩,
  ⟨(.mov (.loc 0)), (some 1), none⟩]
def c45_19 : List CO := [⟨(.bin .add (.var 20) (.k (.int .i64 1))), none, none⟩,
  ⟨(.mov (.loc 0)), (some 20), none⟩]
def c45_20 : CC := (.seq (.region [] [] c45_13) (.seq (.cond (.var 21) .skip (.exit 0)) (.seq (.block 1 (.seq (.region [] [] c45_14) (.seq (.region [] [] c45_15) (.seq (.seq (.region [] [] c45_16) (.cond (.var 22) (.seq (.region [] [] c45_17) .ret) .skip)) (.region [] [] c45_18))))) (.region [] [] c45_19))))
def c45_21 : List CO := [⟨(.mov (.var 1)), none, none⟩,
  ⟨(.mov (.loc 0)), (some 6), none⟩,
  ⟨(.mov (.k (.bool true))), (some 7), none⟩,
  ⟨(.mov (.k (.int .i64 0))), (some 8), none⟩]
def c45 : CFun := ⟨4, 23, (.seq (.region [] [] c45_0) (.seq (.region [] [] c45_1) (.seq (.seq (.region [] [] c45_2) (.cond (.var 14) (.seq (.region [] [] c45_3) .ret) .skip)) (.seq (.seq (.region [] [] c45_4) (.cond (.var 15) (.seq (.region [] [] c45_5) .ret) .skip)) (.seq (.seq (.region [] [] c45_6) (.cond (.var 16) (.region [] [] c45_7) .skip)) (.seq (.seq (.region [] [] c45_8) (.cond (.var 17) (.seq (.region [] [] c45_9) .ret) .skip)) (.seq (.seq (.region [] [] c45_10) (.cond (.var 18) (.seq (.region [] [] c45_11) .ret) .skip)) (.seq (.seq (.region [] [] c45_12) (.block 0 (.loop [true, true, false, false, true, true, false, false, false, false, false, false, false, false, false, false, false, false, false, true, true, false, false] [] c45_20))) (.seq (.region [] [] c45_21) .ret))))))))), [.var 6, .var 7, .var 8]⟩
theorem ok45 : CodeOk Try.prog T 45 c45 := ⟨⟨Try.f45, Hints.of [] [] [(0, [true, true, false, false, true, true, false, false, false, false, false, false, false, false, false, false, false, false, false, true, true, false, false], [])], [0, 1, 2, 3, 6, 7, 8, 9, 10, 11, 12, 13, 14, 15, 26, 42, 58, 63, 99, 102, 103, 104, 124], Try.func45, by kernel_rfl, by kernel_rfl⟩⟩

/-! spinney/spinneyref03.left -/
def c46_0 : List CO := [⟨(.box (.var 0)), (some 2), none⟩,
  ⟨(.mov (.k (.int .i64 0))), (some 3), none⟩]
def c46_1 : List CO := [⟨(.mov (.var 1)), none, none⟩,
  ⟨(.bin .sub (.loc 0) (.k (.int .i64 1))), none, none⟩,
  ⟨(.mov (.loc 0)), (some 1), none⟩]
def c46_2 : List CO := [⟨(.fa 3 (.var 2)), none, none⟩,
  ⟨(.load false 1 (.loc 0)), (some 5), none⟩,
  ⟨(.len .slice (.var 5)), (some 6), none⟩,
  ⟨(.mov (.k (.int .i64 0))), (some 7), none⟩]
def c46_3 : List CO := [⟨(.bin .lss (.var 7) (.var 6)), (some 8), none⟩]
def c46_4 : List CO := [⟨(.ia 4 (.var 5) (.var 7)), none, none⟩,
  ⟨(.load true 4 (.loc 0)), none, none⟩,
  ⟨(.box (.k (.agg #[(.int .i64 0), (.string ⟨#[]⟩), (.int .i64 0), (.slice none 0 0)]))), (some 4), none⟩,
  ⟨(.store 4 (.var 4) (.loc 1)), none, none⟩]
def c46_5 : List CO := [⟨(.mov (.var 1)), none, none⟩,
  ⟨(.bin .lss (.loc 0) (.k (.int .i64 0))), (some 9), none⟩]
def c46_6 : List CO := [⟨(.mov (.var 1)), none, none⟩,
  ⟨(.mov (.loc 0)), (some 3), none⟩]
def c46_7 : List CO := [⟨(.load true 4 (.var 4)), none, none⟩,
  ⟨(.mov (.var 1)), none, none⟩,
  ⟨(.call true 46 [(.loc 1), (.loc 0)]), none, none⟩,
  ⟨(.mov (.loc 0)), (some 1), none⟩]
def c46_8 : List CO := [⟨(.bin .add (.var 7) (.k (.int .i64 1))), none, none⟩,
  ⟨(.mov (.loc 0)), (some 7), none⟩]
def c46_9 : CC := (.seq (.region [] [] c46_3) (.seq (.cond (.var 8) .skip (.exit 0)) (.seq (.block 1 (.seq (.region [] [] c46_4) (.seq (.seq (.region [] [] c46_5) (.cond (.var 9) (.seq (.region [] [] c46_6) .ret) .skip)) (.region [] [] c46_7)))) (.region [] [] c46_8))))
def c46_10 : List CO := [⟨(.mov (.var 1)), none, none⟩,
  ⟨(.mov (.loc 0)), (some 3), none⟩]
def c46 : CFun := ⟨2, 10, (.seq (.region [] [] c46_0) (.seq (.region [] [] c46_1) (.seq (.seq (.region [] [] c46_2) (.block 0 (.loop [false, true, false, false, false, true, true, true, false, false] [] c46_9))) (.seq (.region [] [] c46_10) .ret)))), [.var 3]⟩
theorem ok46 : CodeOk Try.prog T 46 c46 := ⟨⟨Try.f46, Hints.of [] [] [(0, [false, true, false, false, false, true, true, true, false, false], [])], [0, 1, 2, 4, 6, 10, 11, 12, 13, 17], Try.func46, by kernel_rfl, by kernel_rfl⟩⟩

/-! (*spinney/spinneyref09.Meter).spend -/
def c47_0 : List CO := [⟨(.mov (.k (.bool false))), (some 1), none⟩]
def c47_1 : List CO := [⟨(.mov (.var 0)), none, none⟩,
  ⟨(.nilchk (.loc 0)), none, none⟩,
  ⟨(.fa 0 (.loc 0)), none, none⟩,
  ⟨(.load false 1 (.loc 0)), none, none⟩,
  ⟨(.bin .add (.loc 0) (.k (.int .i64 1))), none, none⟩,
  ⟨(.nilchk (.loc 4)), none, none⟩,
  ⟨(.fa 0 (.loc 0)), none, none⟩,
  ⟨(.store 1 (.loc 0) (.loc 2)), none, none⟩]
def c47_2 : List CO := [⟨(.mov (.var 0)), none, none⟩,
  ⟨(.nilchk (.loc 0)), none, none⟩,
  ⟨(.fa 0 (.loc 0)), none, none⟩,
  ⟨(.load false 1 (.loc 0)), none, none⟩,
  ⟨(.bin .leq (.loc 0) (.k (.int .i64 2000))), none, none⟩,
  ⟨(.mov (.loc 0)), (some 1), none⟩]
def c47 : CFun := ⟨1, 2, (.seq (.region [] [] c47_0) (.seq (.region [] [] c47_1) (.seq (.region [] [] c47_2) .ret))), [.var 1]⟩
theorem ok47 : CodeOk Try.prog T 47 c47 := ⟨⟨Try.f47, Hints.of [] [] [], [0, 2], Try.func47, by kernel_rfl, by kernel_rfl⟩⟩

/-! spinney/term.each -/
def c49_0 : List CO := [⟨(.box (.var 0)), (some 2), none⟩,
  ⟨(.box (.k (.agg #[(.int .i64 0), (.string ⟨#[]⟩), (.int .i64 0), (.slice none 0 0)]))), (some 3), none⟩]
def c49_1 : List CO := [⟨(.fa 0 (.var 2)), none, none⟩,
  ⟨(.load false 1 (.loc 0)), none, none⟩,
  ⟨(.bin .eql (.loc 0) (.k (.int .i64 1))), (some 7), none⟩]
def c49_2 : List CO := [⟨(.mov (.var 1)), none, none⟩,
  ⟨(.fa 2 (.var 2)), none, none⟩,
  ⟨(.load false 1 (.loc 0)), none, none⟩,
  ⟨(.callv (.loc 2) [(.loc 0)]), none, none⟩,
  ⟨(.fa 2 (.var 2)), none, none⟩,
  ⟨(.store 1 (.loc 0) (.loc 1)), none, none⟩]
def c49_3 : List CO := [⟨(.fa 3 (.var 2)), none, none⟩,
  ⟨(.load false 1 (.loc 0)), none, none⟩,
  ⟨(.len .slice (.loc 0)), none, none⟩,
  ⟨(.bin .eql (.loc 0) (.k (.int .i64 0))), (some 8), none⟩]
def c49_4 : List CO := [⟨(.fa 3 (.var 2)), none, none⟩,
  ⟨(.store 1 (.loc 0) (.k (.slice none 0 0))), none, none⟩]
def c49_5 : List CO := [⟨(.load true 4 (.var 2)), none, none⟩,
  ⟨(.store 4 (.var 3) (.loc 0)), none, none⟩]
def c49_6 : List CO := [⟨(.fa 3 (.var 2)), none, none⟩,
  ⟨(.load false 1 (.loc 0)), none, none⟩,
  ⟨(.len .slice (.loc 0)), none, none⟩,
  ⟨(.mkslice 4 56 [(.int .i64 0), (.string ⟨#[]⟩), (.int .i64 0), (.slice none 0 0)] (.loc 0) (.loc 0)), none, none⟩,
  ⟨(.mov (.loc 0)), (some 4), none⟩]
def c49_7 : List CO := [⟨(.fa 3 (.var 2)), none, none⟩,
  ⟨(.load false 1 (.loc 0)), (some 9), none⟩,
  ⟨(.len .slice (.var 9)), (some 10), none⟩,
  ⟨(.mov (.k (.int .i64 0))), (some 11), none⟩]
def c49_8 : List CO := [⟨(.bin .lss (.var 11) (.var 10)), (some 12), none⟩]
def c49_9 : List CO := [⟨(.mov (.var 11)), none, none⟩,
  ⟨(.ia 4 (.var 9) (.var 11)), none, none⟩,
  ⟨(.load true 4 (.loc 0)), none, none⟩,
  ⟨(.box (.k (.agg #[(.int .i64 0), (.string ⟨#[]⟩), (.int .i64 0), (.slice none 0 0)]))), (some 6), none⟩,
  ⟨(.mov (.loc 3)), (some 5), none⟩,
  ⟨(.store 4 (.var 6) (.loc 2)), none, none⟩]
def c49_10 : List CO := [⟨(.mov (.var 4)), none, none⟩,
  ⟨(.mov (.var 5)), none, none⟩,
  ⟨(.load true 4 (.var 6)), none, none⟩,
  ⟨(.mov (.var 1)), none, none⟩,
  ⟨(.call false 49 [(.loc 1), (.loc 0)]), none, none⟩,
  ⟨(.ia 4 (.loc 4) (.loc 3)), none, none⟩,
  ⟨(.store 4 (.loc 0) (.loc 1)), none, none⟩]
def c49_11 : List CO := [⟨(.bin .add (.var 11) (.k (.int .i64 1))), none, none⟩,
  ⟨(.mov (.loc 0)), (some 11), none⟩]
def c49_12 : CC := (.seq (.region [] [] c49_8) (.seq (.cond (.var 12) .skip (.exit 0)) (.seq (.block 1 (.seq (.region [] [] c49_9) (.region [] [] c49_10))) (.region [] [] c49_11))))
def c49_13 : List CO := [⟨(.mov (.var 4)), none, none⟩,
  ⟨(.fa 3 (.var 2)), none, none⟩,
  ⟨(.store 1 (.loc 0) (.loc 1)), none, none⟩]
def c49_14 : List CO := [⟨(.load true 4 (.var 2)), none, none⟩,
  ⟨(.store 4 (.var 3) (.loc 0)), none, none⟩]
def c49 : CFun := ⟨2, 13, (.seq (.region [] [] c49_0) (.seq (.seq (.region [] [] c49_1) (.cond (.var 7) (.region [] [] c49_2) .skip)) (.seq (.seq (.region [] [] c49_3) (.cond (.var 8) (.seq (.region [] [] c49_4) (.seq (.region [] [] c49_5) .ret)) .skip)) (.seq (.region [] [] c49_6) (.seq (.seq (.region [] [] c49_7) (.block 0 (.loop [false, true, true, true, true, false, false, false, false, true, true, true, false] [] c49_12))) (.seq (.region [] [] c49_13) (.seq (.region [] [] c49_14) .ret))))))), [.cell 3 true 4]⟩
theorem ok49 : CodeOk Try.prog T 49 c49 := ⟨⟨Try.f49, Hints.of [] [] [(0, [false, true, true, true, true, false, false, false, false, true, true, true, false], [])], [0, 1, 2, 4, 5, 6, 7, 10, 19, 27, 28, 29, 30], Try.func49, by kernel_rfl, by kernel_rfl⟩⟩

/-! spinney/term.Shift$1 -/
def c50_0 : List CO := [⟨(.mov (.k (.int .i64 0))), (some 2), none⟩]
def c50_1 : List CO := [⟨(.mov (.var 0)), none, none⟩,
  ⟨(.load false 1 (.var 1)), none, none⟩,
  ⟨(.bin .add (.loc 1) (.loc 0)), none, none⟩,
  ⟨(.mov (.loc 0)), (some 2), none⟩]
def c50 : CFun := ⟨2, 3, (.seq (.region [] [] c50_0) (.seq (.region [] [] c50_1) .ret)), [.var 2]⟩
theorem ok50 : CodeOk Try.prog T 50 c50 := ⟨⟨Try.f50, Hints.of [] [] [], [0, 1, 3], Try.func50, by kernel_rfl, by kernel_rfl⟩⟩

/-! spinney/subst.Meet -/
def c51_0 : List CO := [⟨(.box (.var 1)), (some 3), none⟩,
  ⟨(.box (.k (.agg #[(.int .i64 0), (.string ⟨#[]⟩), (.int .i64 0), (.slice none 0 0)]))), (some 4), none⟩,
  ⟨(.mov (.k (.int .i64 0))), (some 5), none⟩]
def c51_1 : List CO := [⟨(.mov (.var 2)), none, none⟩,
  ⟨(.nilchk (.loc 0)), none, none⟩,
  ⟨(.load false 1 (.loc 0)), none, none⟩,
  ⟨(.bin .eql (.loc 0) (.k (.int .i64 0))), (some 6), none⟩]
def c51_2 : List CO := [⟨(.build [(.int .i64 0), (.string ⟨#[]⟩), (.int .i64 0), (.slice none 0 0)] []), none, none⟩,
  ⟨(.store 4 (.var 4) (.loc 0)), none, none⟩,
  ⟨(.mov (.k (.int .i64 140))), (some 5), none⟩]
def c51_3 : List CO := [⟨(.mov (.var 2)), none, none⟩,
  ⟨(.nilchk (.loc 0)), none, none⟩,
  ⟨(.load false 1 (.loc 0)), none, none⟩,
  ⟨(.bin .sub (.loc 0) (.k (.int .i64 1))), none, none⟩,
  ⟨(.nilchk (.loc 3)), none, none⟩,
  ⟨(.store 1 (.loc 0) (.loc 1)), none, none⟩]
def c51_4 : List CO := [⟨(.mov (.var 0)), none, none⟩,
  ⟨(.load true 4 (.var 3)), none, none⟩,
  ⟨(.mov (.var 2)), none, none⟩,
  ⟨(.call false 31 [(.loc 2), (.loc 1), (.loc 0)]), none, none⟩,
  ⟨(.extract (.loc 0) 0), none, none⟩,
  ⟨(.extract (.loc 1) 1), none, none⟩,
  ⟨(.store 4 (.var 4) (.loc 1)), none, none⟩,
  ⟨(.mov (.loc 1)), (some 5), none⟩]
def c51 : CFun := ⟨3, 7, (.seq (.region [] [] c51_0) (.seq (.seq (.region [] [] c51_1) (.cond (.var 6) (.seq (.region [] [] c51_2) .ret) .skip)) (.seq (.region [] [] c51_3) (.seq (.region [] [] c51_4) .ret)))), [.cell 4 true 4, .var 5]⟩
theorem ok51 : CodeOk Try.prog T 51 c51 := ⟨⟨Try.f51, Hints.of [] [] [], [0, 1, 2, 4, 6, 7, 11], Try.func51, by kernel_rfl, by kernel_rfl⟩⟩

/-! cmp.Compare[int] -/
def c52_0 : List CO := [⟨(.mov (.k (.int .i64 0))), (some 2), none⟩]
def c52_1 : List CO := [⟨(.mov (.var 0)), none, none⟩,
  ⟨(.call true 56 [(.loc 0)]), none, none⟩,
  ⟨(.mov (.loc 0)), (some 3), none⟩]
def c52_2 : List CO := [⟨(.mov (.var 1)), none, none⟩,
  ⟨(.call true 56 [(.loc 0)]), none, none⟩,
  ⟨(.mov (.loc 0)), (some 4), none⟩]
def c52_3 : List CO := [⟨(.mov (.var 3)), (some 5), none⟩]
def c52_4 : List CO := [⟨(.mov (.var 4)), (some 6), none⟩]
def c52_5 : List CO := [⟨(.mov (.k (.int .i64 0))), (some 2), none⟩]
def c52_6 : List CO := [⟨(.mov (.k (.int .i64 (-1)))), (some 2), none⟩]
def c52_7 : List CO := [⟨(.mov (.var 4)), (some 7), none⟩]
def c52_8 : List CO := [⟨(.mov (.k (.int .i64 1))), (some 2), none⟩]
def c52_9 : List CO := [⟨(.mov (.var 0)), none, none⟩,
  ⟨(.mov (.var 1)), none, none⟩,
  ⟨(.bin .lss (.loc 1) (.loc 0)), (some 8), none⟩]
def c52_10 : List CO := [⟨(.mov (.k (.int .i64 (-1)))), (some 2), none⟩]
def c52_11 : List CO := [⟨(.mov (.var 0)), none, none⟩,
  ⟨(.mov (.var 1)), none, none⟩,
  ⟨(.bin .gtr (.loc 1) (.loc 0)), (some 9), none⟩]
def c52_12 : List CO := [⟨(.mov (.k (.int .i64 1))), (some 2), none⟩]
def c52_13 : List CO := [⟨(.mov (.k (.int .i64 0))), (some 2), none⟩]
def c52 : CFun := ⟨2, 10, (.seq (.region [] [] c52_0) (.seq (.region [] [] c52_1) (.seq (.region [] [] c52_2) (.seq (.seq (.region [] [] c52_3) (.cond (.var 5) (.seq (.seq (.region [] [] c52_4) (.cond (.var 6) (.seq (.region [] [] c52_5) .ret) .skip)) (.seq (.region [] [] c52_6) .ret)) .skip)) (.seq (.seq (.region [] [] c52_7) (.cond (.var 7) (.seq (.region [] [] c52_8) .ret) .skip)) (.seq (.seq (.region [] [] c52_9) (.cond (.var 8) (.seq (.region [] [] c52_10) .ret) .skip)) (.seq (.seq (.region [] [] c52_11) (.cond (.var 9) (.seq (.region [] [] c52_12) .ret) .skip)) (.seq (.region [] [] c52_13) .ret)))))))), [.var 2]⟩
theorem ok52 : CodeOk Try.prog T 52 c52 := ⟨⟨Try.f52, Hints.of [] [] [], [0, 1, 4, 5, 6, 11, 12, 13, 16, 19], Try.func52, by kernel_rfl, by kernel_rfl⟩⟩

/-! spinney/term.Compare -/
def c53_0 : List CO := [⟨(.box (.var 0)), (some 2), none⟩,
  ⟨(.box (.var 1)), (some 3), none⟩,
  ⟨(.mov (.k (.int .i64 0))), (some 4), none⟩]
def c53_1 : List CO := [⟨(.fa 0 (.var 2)), none, none⟩,
  ⟨(.load false 1 (.loc 0)), none, none⟩,
  ⟨(.call true 58 [(.loc 0)]), none, none⟩,
  ⟨(.fa 0 (.var 3)), none, none⟩,
  ⟨(.load false 1 (.loc 0)), none, none⟩,
  ⟨(.call true 58 [(.loc 0)]), none, none⟩,
  ⟨(.call true 52 [(.loc 3), (.loc 0)]), none, none⟩,
  ⟨(.fa 3 (.var 2)), none, none⟩,
  ⟨(.load false 1 (.loc 0)), none, none⟩,
  ⟨(.len .slice (.loc 0)), none, none⟩,
  ⟨(.fa 3 (.var 3)), none, none⟩,
  ⟨(.load false 1 (.loc 0)), none, none⟩,
  ⟨(.len .slice (.loc 0)), none, none⟩,
  ⟨(.call true 52 [(.loc 3), (.loc 0)]), none, none⟩,
  ⟨(.fa 1 (.var 2)), none, none⟩,
  ⟨(.load false 1 (.loc 0)), none, none⟩,
  ⟨(.fa 1 (.var 3)), none, none⟩,
  ⟨(.load false 1 (.loc 0)), none, none⟩,
  ⟨(.call true 59 [(.loc 2), (.loc 0)]), none, none⟩,
  ⟨(.fa 2 (.var 2)), none, none⟩,
  ⟨(.load false 1 (.loc 0)), none, none⟩,
  ⟨(.fa 2 (.var 3)), none, none⟩,
  ⟨(.load false 1 (.loc 0)), none, none⟩,
  ⟨(.call true 60 [(.loc 2), (.loc 0)]), none, none⟩,
  ⟨(.bslice 1 [(.int .i64 0)] 4 [(0, (.loc 17)), (1, (.loc 10)), (2, (.loc 5)), (3, (.loc 0))]), none, none⟩,
  ⟨(.call true 57 [(.loc 0)]), none, none⟩,
  ⟨(.mov (.loc 0)), (some 5), none⟩]
def c53_2 : List CO := [⟨(.mov (.k (.int .i64 0))), (some 6), none⟩]
def c53_3 : List CO := [⟨(.mov (.var 5)), none, none⟩,
  ⟨(.bin .eql (.loc 0) (.k (.int .i64 0))), none, none⟩,
  ⟨(.mov (.loc 0)), none, none⟩,
  ⟨(.mov (.var 6)), none, (some ((.loc 0), true))⟩,
  ⟨(.fa 3 (.var 2)), none, (some ((.loc 1), true))⟩,
  ⟨(.load false 1 (.loc 0)), none, (some ((.loc 2), true))⟩,
  ⟨(.len .slice (.loc 0)), none, (some ((.loc 3), true))⟩,
  ⟨(.bin .lss (.loc 3) (.loc 0)), none, (some ((.loc 4), true))⟩,
  ⟨(.pick (.loc 5) (.loc 0) (.k (.bool false))), (some 7), none⟩]
def c53_4 : List CO := [⟨(.fa 3 (.var 2)), none, none⟩,
  ⟨(.load false 1 (.loc 0)), none, none⟩,
  ⟨(.mov (.var 6)), none, none⟩,
  ⟨(.ia 4 (.loc 1) (.loc 0)), none, none⟩,
  ⟨(.load true 4 (.loc 0)), none, none⟩,
  ⟨(.fa 3 (.var 3)), none, none⟩,
  ⟨(.load false 1 (.loc 0)), none, none⟩,
  ⟨(.mov (.var 6)), none, none⟩,
  ⟨(.ia 4 (.loc 1) (.loc 0)), none, none⟩,
  ⟨(.load true 4 (.loc 0)), none, none⟩,
  ⟨(.call true 53 [(.loc 5), (.loc 0)]), none, none⟩,
  ⟨(.mov (.loc 0)), (some 5), none⟩]
def c53_5 : List CO := [⟨(.mov (.var 6)), none, none⟩,
  ⟨(.bin .add (.loc 0) (.k (.int .i64 1))), none, none⟩,
  ⟨(.mov (.loc 0)), (some 6), none⟩]
def c53_6 : CC := (.seq (.seq (.region [] [] c53_3) (.cond (.var 7) .skip (.exit 0))) (.seq (.block 1 (.region [] [] c53_4)) (.region [] [] c53_5)))
def c53_7 : List CO := [⟨(.mov (.var 5)), none, none⟩,
  ⟨(.mov (.loc 0)), (some 4), none⟩]
def c53 : CFun := ⟨2, 8, (.seq (.region [] [] c53_0) (.seq (.region [] [] c53_1) (.seq (.seq (.region [] [] c53_2) (.block 0 (.loop [false, false, true, true, false, true, true, false] [] c53_6))) (.seq (.region [] [] c53_7) .ret)))), [.var 4]⟩
theorem ok53 : CodeOk Try.prog T 53 c53 := ⟨⟨Try.f53, Hints.of [] [] [(0, [false, false, true, true, false, true, true, false], [])], [0, 1, 2, 3, 4, 5, 6, 41], Try.func53, by kernel_rfl, by kernel_rfl⟩⟩

/-! spinney/term.Copy$1 -/
def c54_0 : List CO := [⟨(.mov (.k (.int .i64 0))), (some 1), none⟩]
def c54_1 : List CO := [⟨(.mov (.var 0)), none, none⟩,
  ⟨(.mov (.loc 0)), (some 1), none⟩]
def c54 : CFun := ⟨1, 2, (.seq (.region [] [] c54_0) (.seq (.region [] [] c54_1) .ret)), [.var 1]⟩
theorem ok54 : CodeOk Try.prog T 54 c54 := ⟨⟨Try.f54, Hints.of [] [] [], [0, 2], Try.func54, by kernel_rfl, by kernel_rfl⟩⟩

/-! spinney/spinneyref10.both -/
def c55_0 : List CO := [⟨(.box (.var 2)), (some 4), none⟩,
  ⟨(.box (.var 3)), (some 5), none⟩,
  ⟨(.box (.k (.agg #[(.int .i64 0), (.string ⟨#[]⟩), (.int .i64 0), (.slice none 0 0)]))), (some 6), none⟩,
  ⟨(.box (.k (.agg #[(.int .i64 0), (.string ⟨#[]⟩), (.int .i64 0), (.slice none 0 0)]))), (some 7), none⟩,
  ⟨(.mov (.k (.int .i64 0))), (some 8), none⟩]
def c55_1 : List CO := [⟨(.mov (.var 0)), none, none⟩,
  ⟨(.mov (.var 1)), none, none⟩,
  ⟨(.load true 4 (.var 4)), none, none⟩,
  ⟨(.call false 61 [(.loc 2), (.loc 1), (.loc 0)]), none, none⟩,
  ⟨(.mov (.loc 0)), none, none⟩,
  ⟨(.extract (.loc 0) 0), none, none⟩,
  ⟨(.extract (.loc 1) 1), none, none⟩,
  ⟨(.store 4 (.var 4) (.loc 1)), none, none⟩,
  ⟨(.mov (.loc 1)), (some 9), none⟩]
def c55_2 : List CO := [⟨(.mov (.var 9)), none, none⟩,
  ⟨(.bin .neq (.loc 0) (.k (.int .i64 0))), (some 10), none⟩]
def c55_3 : List CO := [⟨(.load true 4 (.var 4)), none, none⟩,
  ⟨(.load true 4 (.var 5)), none, none⟩,
  ⟨(.mov (.var 9)), none, none⟩,
  ⟨(.store 4 (.var 6) (.loc 2)), none, none⟩,
  ⟨(.store 4 (.var 7) (.loc 2)), none, none⟩,
  ⟨(.mov (.loc 2)), (some 8), none⟩]
def c55_4 : List CO := [⟨(.mov (.var 0)), none, none⟩,
  ⟨(.mov (.var 1)), none, none⟩,
  ⟨(.load true 4 (.var 5)), none, none⟩,
  ⟨(.call false 61 [(.loc 2), (.loc 1), (.loc 0)]), none, none⟩,
  ⟨(.mov (.loc 0)), none, none⟩,
  ⟨(.extract (.loc 0) 0), none, none⟩,
  ⟨(.extract (.loc 1) 1), none, none⟩,
  ⟨(.store 4 (.var 5) (.loc 1)), none, none⟩,
  ⟨(.mov (.loc 1)), (some 9), none⟩]
def c55_5 : List CO := [⟨(.load true 4 (.var 4)), none, none⟩,
  ⟨(.load true 4 (.var 5)), none, none⟩,
  ⟨(.mov (.var 9)), none, none⟩,
  ⟨(.store 4 (.var 6) (.loc 2)), none, none⟩,
  ⟨(.store 4 (.var 7) (.loc 2)), none, none⟩,
  ⟨(.mov (.loc 2)), (some 8), none⟩]
def c55 : CFun := ⟨4, 11, (.seq (.region [] [] c55_0) (.seq (.region [] [] c55_1) (.seq (.seq (.region [] [] c55_2) (.cond (.var 10) (.seq (.region [] [((some 6), 5)] c55_3) .ret) .skip)) (.seq (.region [] [] c55_4) (.seq (.region [] [((some 6), 5)] c55_5) .ret))))), [.cell 6 true 4, .cell 7 true 4, .var 8]⟩
theorem ok55 : CodeOk Try.prog T 55 c55 := ⟨⟨Try.f55, Hints.of [] [(3, [((some 6), 5)]), (5, [((some 6), 5)])] [], [0, 1, 2, 3, 6, 7, 8, 9, 10, 11, 20], Try.func55, by kernel_rfl, by kernel_rfl⟩⟩

/-! cmp.isNaN[int] -/
def c56_0 : List CO := [⟨(.mov (.k (.bool false))), (some 1), none⟩]
def c56_1 : List CO := [⟨(.mov (.var 0)), none, none⟩,
  ⟨(.mov (.var 0)), none, none⟩,
  ⟨(.bin .neq (.loc 1) (.loc 0)), none, none⟩,
  ⟨(.mov (.loc 0)), (some 1), none⟩]
def c56 : CFun := ⟨1, 2, (.seq (.region [] [] c56_0) (.seq (.region [] [] c56_1) .ret)), [.var 1]⟩
theorem ok56 : CodeOk Try.prog T 56 c56 := ⟨⟨Try.f56, Hints.of [] [] [], [0, 2], Try.func56, by kernel_rfl, by kernel_rfl⟩⟩

/-! cmp.Or[int] -/
def c57_0 : List CO := [⟨(.mov (.k (.int .i64 0))), (some 1), none⟩]
def c57_1 : List CO := [⟨(.mov (.k (.int .i64 0))), (some 2), none⟩]
def c57_2 : List CO := [⟨(.mov (.var 0)), (some 4), none⟩,
  ⟨(.len .slice (.var 4)), (some 5), none⟩,
  ⟨(.mov (.k (.int .i64 0))), (some 6), none⟩]
def c57_3 : List CO := [⟨(.bin .lss (.var 6) (.var 5)), (some 7), none⟩]
def c57_4 : List CO := [⟨(.ia 1 (.var 4) (.var 6)), none, none⟩,
  ⟨(.load false 1 (.loc 0)), none, none⟩,
  ⟨(.mov (.loc 0)), (some 3), none⟩]
def c57_5 : List CO := [⟨(.mov (.var 3)), none, none⟩,
  ⟨(.mov (.var 2)), none, none⟩,
  ⟨(.bin .neq (.loc 1) (.loc 0)), (some 8), none⟩]
def c57_6 : List CO := [⟨(.mov (.var 3)), none, none⟩,
  ⟨(.mov (.loc 0)), (some 1), none⟩]
def c57_7 : List CO := [⟨(.bin .add (.var 6) (.k (.int .i64 1))), none, none⟩,
  ⟨(.mov (.loc 0)), (some 6), none⟩]
def c57_8 : CC := (.seq (.region [] [] c57_3) (.seq (.cond (.var 7) .skip (.exit 0)) (.seq (.block 1 (.seq (.region [] [] c57_4) (.seq (.region [] [] c57_5) (.cond (.var 8) (.seq (.region [] [] c57_6) .ret) .skip)))) (.region [] [] c57_7))))
def c57_9 : List CO := [⟨(.mov (.var 2)), none, none⟩,
  ⟨(.mov (.loc 0)), (some 1), none⟩]
def c57 : CFun := ⟨1, 9, (.seq (.region [] [] c57_0) (.seq (.region [] [] c57_1) (.seq (.seq (.region [] [] c57_2) (.block 0 (.loop [false, false, true, false, true, true, true, false, false] [] c57_8))) (.seq (.region [] [] c57_9) .ret)))), [.var 1]⟩
theorem ok57 : CodeOk Try.prog T 57 c57 := ⟨⟨Try.f57, Hints.of [] [] [(0, [false, false, true, false, true, true, true, false, false], [])], [0, 2, 3, 5, 6, 7, 8, 9, 14], Try.func57, by kernel_rfl, by kernel_rfl⟩⟩

/-! spinney/term.order -/
def c58_0 : List CO := [⟨(.mov (.k (.int .i64 0))), (some 1), none⟩]
def c58_1 : List CO := [⟨(.mov (.var 0)), (some 2), none⟩]
def c58_2 : List CO := [⟨(.bin .eql (.var 2) (.k (.int .i64 1))), none, none⟩,
  ⟨(.mov (.loc 0)), (some 3), none⟩]
def c58_3 : List CO := [⟨(.mov (.k (.int .i64 (-2)))), (some 1), none⟩]
def c58_4 : List CO := [⟨(.bin .eql (.var 2) (.k (.int .i64 3))), none, none⟩,
  ⟨(.mov (.loc 0)), (some 4), none⟩]
def c58_5 : List CO := [⟨(.mov (.k (.int .i64 (-1)))), (some 1), none⟩]
def c58_6 : List CO := [⟨(.bin .eql (.var 2) (.k (.int .i64 2))), none, none⟩,
  ⟨(.mov (.loc 0)), (some 5), none⟩]
def c58_7 : List CO := [⟨(.mov (.k (.int .i64 0))), (some 1), none⟩]
def c58_8 : List CO := [⟨(.mov (.k (.int .i64 1))), (some 1), none⟩]
def c58 : CFun := ⟨1, 6, (.seq (.region [] [] c58_0) (.seq (.seq (.region [] [] c58_1) (.block 0 (.seq (.region [] [] c58_2) (.cond (.var 3) (.seq (.region [] [] c58_3) .ret) (.seq (.region [] [] c58_4) (.cond (.var 4) (.seq (.region [] [] c58_5) .ret) (.seq (.region [] [] c58_6) (.cond (.var 5) (.seq (.region [] [] c58_7) .ret) .skip)))))))) (.seq (.region [] [] c58_8) .ret))), [.var 1]⟩
theorem ok58 : CodeOk Try.prog T 58 c58 := ⟨⟨Try.f58, Hints.of [] [] [], [0, 2, 3, 4, 6, 8], Try.func58, by kernel_rfl, by kernel_rfl⟩⟩

/-! cmp.Compare[int64] -/
def c60_0 : List CO := [⟨(.mov (.k (.int .i64 0))), (some 2), none⟩]
def c60_1 : List CO := [⟨(.mov (.var 0)), none, none⟩,
  ⟨(.call true 63 [(.loc 0)]), none, none⟩,
  ⟨(.mov (.loc 0)), (some 3), none⟩]
def c60_2 : List CO := [⟨(.mov (.var 1)), none, none⟩,
  ⟨(.call true 63 [(.loc 0)]), none, none⟩,
  ⟨(.mov (.loc 0)), (some 4), none⟩]
def c60_3 : List CO := [⟨(.mov (.var 3)), (some 5), none⟩]
def c60_4 : List CO := [⟨(.mov (.var 4)), (some 6), none⟩]
def c60_5 : List CO := [⟨(.mov (.k (.int .i64 0))), (some 2), none⟩]
def c60_6 : List CO := [⟨(.mov (.k (.int .i64 (-1)))), (some 2), none⟩]
def c60_7 : List CO := [⟨(.mov (.var 4)), (some 7), none⟩]
def c60_8 : List CO := [⟨(.mov (.k (.int .i64 1))), (some 2), none⟩]
def c60_9 : List CO := [⟨(.mov (.var 0)), none, none⟩,
  ⟨(.mov (.var 1)), none, none⟩,
  ⟨(.bin .lss (.loc 1) (.loc 0)), (some 8), none⟩]
def c60_10 : List CO := [⟨(.mov (.k (.int .i64 (-1)))), (some 2), none⟩]
def c60_11 : List CO := [⟨(.mov (.var 0)), none, none⟩,
  ⟨(.mov (.var 1)), none, none⟩,
  ⟨(.bin .gtr (.loc 1) (.loc 0)), (some 9), none⟩]
def c60_12 : List CO := [⟨(.mov (.k (.int .i64 1))), (some 2), none⟩]
def c60_13 : List CO := [⟨(.mov (.k (.int .i64 0))), (some 2), none⟩]
def c60 : CFun := ⟨2, 10, (.seq (.region [] [] c60_0) (.seq (.region [] [] c60_1) (.seq (.region [] [] c60_2) (.seq (.seq (.region [] [] c60_3) (.cond (.var 5) (.seq (.seq (.region [] [] c60_4) (.cond (.var 6) (.seq (.region [] [] c60_5) .ret) .skip)) (.seq (.region [] [] c60_6) .ret)) .skip)) (.seq (.seq (.region [] [] c60_7) (.cond (.var 7) (.seq (.region [] [] c60_8) .ret) .skip)) (.seq (.seq (.region [] [] c60_9) (.cond (.var 8) (.seq (.region [] [] c60_10) .ret) .skip)) (.seq (.seq (.region [] [] c60_11) (.cond (.var 9) (.seq (.region [] [] c60_12) .ret) .skip)) (.seq (.region [] [] c60_13) .ret)))))))), [.var 2]⟩
theorem ok60 : CodeOk Try.prog T 60 c60 := ⟨⟨Try.f60, Hints.of [] [] [], [0, 1, 4, 5, 6, 11, 12, 13, 16, 19], Try.func60, by kernel_rfl, by kernel_rfl⟩⟩

/-! (*spinney/spinneyref09.Meter).Meet -/
def c61_0 : List CO := [⟨(.box (.var 2)), (some 3), none⟩,
  ⟨(.box (.k (.agg #[(.int .i64 0), (.string ⟨#[]⟩), (.int .i64 0), (.slice none 0 0)]))), (some 4), none⟩,
  ⟨(.mov (.k (.int .i64 0))), (some 5), none⟩]
def c61_1 : List CO := [⟨(.mov (.var 0)), none, none⟩,
  ⟨(.call false 47 [(.loc 0)]), none, none⟩,
  ⟨(.un .not (.loc 0)), (some 6), none⟩]
def c61_2 : List CO := [⟨(.build [(.int .i64 0), (.string ⟨#[]⟩), (.int .i64 0), (.slice none 0 0)] []), none, none⟩,
  ⟨(.store 4 (.var 4) (.loc 0)), none, none⟩,
  ⟨(.mov (.k (.int .i64 140))), (some 5), none⟩]
def c61_3 : List CO := [⟨(.mov (.var 0)), none, none⟩,
  ⟨(.mov (.var 1)), none, none⟩,
  ⟨(.load true 4 (.var 3)), none, none⟩,
  ⟨(.call false 32 [(.loc 2), (.loc 1), (.loc 0)]), none, none⟩,
  ⟨(.extract (.loc 0) 0), none, none⟩,
  ⟨(.extract (.loc 1) 1), none, none⟩,
  ⟨(.store 4 (.var 4) (.loc 1)), none, none⟩,
  ⟨(.mov (.loc 1)), (some 5), none⟩]
def c61 : CFun := ⟨3, 7, (.seq (.region [] [] c61_0) (.seq (.seq (.region [] [] c61_1) (.cond (.var 6) (.seq (.region [] [] c61_2) .ret) .skip)) (.seq (.region [] [] c61_3) .ret))), [.cell 4 true 4, .var 5]⟩
theorem ok61 : CodeOk Try.prog T 61 c61 := ⟨⟨Try.f61, Hints.of [] [] [], [0, 1, 2, 5, 6, 7, 10], Try.func61, by kernel_rfl, by kernel_rfl⟩⟩

/-! cmp.isNaN[int64] -/
def c63_0 : List CO := [⟨(.mov (.k (.bool false))), (some 1), none⟩]
def c63_1 : List CO := [⟨(.mov (.var 0)), none, none⟩,
  ⟨(.mov (.var 0)), none, none⟩,
  ⟨(.bin .neq (.loc 1) (.loc 0)), none, none⟩,
  ⟨(.mov (.loc 0)), (some 1), none⟩]
def c63 : CFun := ⟨1, 2, (.seq (.region [] [] c63_0) (.seq (.region [] [] c63_1) .ret)), [.var 1]⟩
theorem ok63 : CodeOk Try.prog T 63 c63 := ⟨⟨Try.f63, Hints.of [] [] [], [0, 2], Try.func63, by kernel_rfl, by kernel_rfl⟩⟩

def Fl : List (FuncId × FEntry) := [(3, .code c3), (4, .code c4), (5, .code c5), (6, .code c6), (7, .code c7), (8, .code c8), (9, .code c9), (10, .code c10), (11, .code c11), (12, .code c12), (14, .code c14), (15, .code c15), (16, .code c16), (17, .code c17), (18, .code c18), (19, .code c19), (20, .code c20), (21, .code c21), (22, .code c22), (23, .code c23), (24, .code c24), (25, .code c25), (26, .code c26), (27, .code c27), (28, .code c28), (29, .code c29), (30, .code c30), (31, .code c31), (32, .code c32), (34, .code c34), (35, .code c35), (36, .code c36), (37, .code c37), (38, .code c38), (39, .code c39), (40, .code c40), (41, .code c41), (42, .code c42), (43, .code c43), (44, .code c44), (45, .code c45), (46, .code c46), (47, .code c47), (49, .code c49), (50, .code c50), (51, .code c51), (52, .code c52), (53, .code c53), (54, .code c54), (55, .code c55), (56, .code c56), (57, .code c57), (58, .code c58), (60, .code c60), (61, .code c61), (63, .code c63)] ++ [(13, .oracle lookG), (59, .oracle cmpG)]
def F (f : FuncId) : Option FEntry := Fl.lookup f
theorem hF : ∀ (B : Nat) (w0 : World), K B w0 → ∀ f e, F f = some e → EntryOk Try.prog T B w0 f e := fun B w0 hK => entries_of (fun p hp => by
  simp only [Fl, List.cons_append, List.nil_append, List.mem_cons, List.not_mem_nil, or_false] at hp
  rcases hp with rfl | rfl | rfl | rfl | rfl | rfl | rfl | rfl | rfl | rfl | rfl | rfl | rfl | rfl | rfl | rfl | rfl | rfl | rfl | rfl | rfl | rfl | rfl | rfl | rfl | rfl | rfl | rfl | rfl | rfl | rfl | rfl | rfl | rfl | rfl | rfl | rfl | rfl | rfl | rfl | rfl | rfl | rfl | rfl | rfl | rfl | rfl | rfl | rfl | rfl | rfl | rfl | rfl | rfl | rfl | rfl | rfl | rfl
  · exact ok3
  · exact ok4
  · exact ok5
  · exact ok6
  · exact ok7
  · exact ok8
  · exact ok9
  · exact ok10
  · exact ok11
  · exact ok12
  · exact ok14
  · exact ok15
  · exact ok16
  · exact ok17
  · exact ok18
  · exact ok19
  · exact ok20
  · exact ok21
  · exact ok22
  · exact ok23
  · exact ok24
  · exact ok25
  · exact ok26
  · exact ok27
  · exact ok28
  · exact ok29
  · exact ok30
  · exact ok31
  · exact ok32
  · exact ok34
  · exact ok35
  · exact ok36
  · exact ok37
  · exact ok38
  · exact ok39
  · exact ok40
  · exact ok41
  · exact ok42
  · exact ok43
  · exact ok44
  · exact ok45
  · exact ok46
  · exact ok47
  · exact ok49
  · exact ok50
  · exact ok51
  · exact ok52
  · exact ok53
  · exact ok54
  · exact ok55
  · exact ok56
  · exact ok57
  · exact ok58
  · exact ok60
  · exact ok61
  · exact ok63
  · exact oracle_any look_ok
  · exact oracle_any cmp_ok)
end Go.Proofs.Ytpgoibncgekflaa
end

/-! Terms; Same. -/
section
set_option linter.unusedVariables false
set_option linter.unusedSimpArgs false
namespace Go.AE.Ytpgoibncgekflaa
open Go Go.AE Go.Proofs.Ytpgoibncgekflaa

inductive Tm where
  | mk (k : Int) (s : ByteArray) (n : Int) (l : List Tm)

mutual
inductive IsT : AV → Tm → Prop
  | mk (k : Int) (s : ByteArray) (n : Int) (c : AV) (l : List Tm) (h : IsL c l) : IsT (.agg [.v (.int .i64 k), .v (.string s), .v (.int .i64 n), c]) (.mk k s n l)
inductive IsL : AV → List Tm → Prop
  | nil : IsL (.v (.slice none 0 0)) []
  | slc (ex nn : Bool) (es : List AV) (l : List Tm) (h : All2 es l) (hb : es.length ≤ maxLen) : IsL (.slc 4 ex nn es) l
inductive All2 : List AV → List Tm → Prop
  | nil : All2 [] []
  | cons (a : AV) (t : Tm) (es : List AV) (ts : List Tm) (h : IsT a t) (hs : All2 es ts) : All2 (a :: es) (t :: ts)
end

theorem All2.length : ∀ {es : List AV} {l : List Tm}, All2 es l → es.length = l.length
  | _, _, .nil => rfl
  | _, _, .cons _ _ _ _ _ hs => by simp [hs.length]
theorem All2.get : ∀ {es : List AV} {l : List Tm}, All2 es l → ∀ {i : Nat} {e : AV}, es[i]? = some e → ∃ t, l[i]? = some t ∧ IsT e t
  | _, _, .nil, i, e, h => by simp at h
  | _, _, .cons a t es ts h hs, i, e, he => by
    cases i with
    | zero => simp at he; subst he; exact ⟨t, rfl, h⟩
    | succ i => exact hs.get (by simpa using he)

mutual
def same : Tm → Tm → Bool
  | .mk k s n l, .mk k' s' n' l' => k == k' && s.toList == s'.toList && n == n' && l.length == l'.length && sameL l l'
def sameL : List Tm → List Tm → Bool
  | [], _ => true
  | _, [] => true
  | a :: l, b :: l' => same a b && sameL l l'
end

noncomputable abbrev W : CallF := callW F


theorem IsT.snap {h : List AO} {a : AV} {t : Tm} (ht : IsT a t) : a.snap1 h = some a := by
  cases ht with
  | mk k s n c l hc => cases hc <;> rfl
theorem IsT.load {h : List AO} {a : AV} {t : Tm} (ht : IsT a t) : evLoad h true 4 (.ip a.cells) = some a := by
  cases ht with
  | mk k s n c l hc => rfl

def hp2 (a b : AV) : List AO := [.box a.cells, .box b.cells]

/-- what the loop of Same meets -/
def L15 (len i : Int) : List AV := [.junk, .junk, .ptr 0 0, .ptr 1 0, .junk, .junk, .junk, .v (.int .i64 len), .v (.int .i64 i), .junk, .junk]
def K15 : List Bool := [false, false, true, true, false, false, false, true, true, false, false]

theorem same_step {K : Nat} {a b : AV} {k k' n n' : Int} {s s' : ByteArray} {ex nn ex' nn' : Bool} {es es' : List AV} (ha : a = .agg [.v (.int .i64 k), .v (.string s), .v (.int .i64 n), .slc 4 ex nn es]) (hb : b = .agg [.v (.int .i64 k'), .v (.string s'), .v (.int .i64 n'), .slc 4 ex' nn' es'])
    {i : Nat} {e e' : AV} {t t' : Tm} (he : es[i]? = some e) (he' : es'[i]? = some e') (ht : IsT e t) (ht' : IsT e' t') {r : Bool} (hc : W 15 [e, e'] [] = some (.v (.bool r), [])) :
    exec W K c15_9 (L15 es.length i) (hp2 a b) = some (if r then .normal else .ret, [.junk, .junk, .ptr 0 0, .ptr 1 0, if r then .junk else .v (.bool false), .v (.int .i64 i), .junk, .v (.int .i64 es.length), .v (.int .i64 (if r then IntKind.i64.wrap (i + 1) else i)), .v (.bool true), .v (.bool !r)], hp2 a b) := by
  have hlt : (decide ((i : Int) < (es.length : Int))) = true := by
    have := (List.getElem?_eq_some_iff.1 he).1
    simp; omega
  have q5 : ∀ h : List AO, e.snap1 h = some e := fun h => ht.snap
  have q6 : ∀ h : List AO, e'.snap1 h = some e' := fun h => ht'.snap
  subst ha hb
  have hc' : callW F 15 [e, e'] [] = some (.v (.bool r), []) := hc
  cases ht
  cases ht'
  have q1 : ∀ h, iaV h 4 (.slc 4 ex nn es) (some i) = _ := fun h => iaV_slc he
  have q2 : ∀ h, iaV h 4 (.slc 4 ex' nn' es') (some i) = _ := fun h => iaV_slc he'
  cases r
  · simp only [L15, hp2, AV.cells, c15_9, c15_4, c15_5, c15_6, c15_7, c15_8, hlt, q1, q2, q5, q6, hc', run_nil, run_cons, stp_plain, stp_guard, put_some, pass_eq, pick_tt, pick_ff, pick_tf, pick_ft, pick_u, reg_some, thn_normal, thn_exit, thn_ret, cnd_t, cnd_f, blk_normal, blk_ret, blk_exit, x_seq, x_region, x_cond, x_block, x_loop, x_ret, x_exit, x_skip, e_mov, e_pick, pk_t, pk_f, withH_some, e_box, bx_some, e_load, e_store, stH_some, e_nil, e_bin, e_eqv, eqH_f, eqH_t, e_un, e_fa, e_ia, ia_eq, nat_eq, natV_nat, e_len, lnH_some, e_extract, ex_0, ex_1, e_call0, e_call1, e_call2, e_call3, pc0_eq, pc1_some, pc2_some, pc3_some, fin_some, g_var0, g_vars, g_loc0, g_locs, g_int, g_bool, g_str, g_sl, s_none, s_zero, s_succ, AV.cl, evFa, evNil, evLoad, asEl, evBin, intBin, strBin, evUn, len_nil, len_slc, len_str, clr, List.length_nil, List.length_cons, List.getElem?_cons_zero, List.getElem?_cons_succ, Nat.reduceAdd, Nat.zero_add, Nat.add_zero, Nat.reduceLeDiff, Nat.reduceSub, ↓reduceIte, List.drop_succ_cons, List.drop_zero, List.take_succ_cons, List.take_zero, Bool.false_eq_true, List.nil_append, List.cons_append, Bool.not_true, Bool.not_false, cond_true, cond_false, bne]
  · simp only [L15, hp2, AV.cells, c15_9, c15_4, c15_5, c15_6, c15_7, c15_8, hlt, q1, q2, q5, q6, hc', run_nil, run_cons, stp_plain, stp_guard, put_some, pass_eq, pick_tt, pick_ff, pick_tf, pick_ft, pick_u, reg_some, thn_normal, thn_exit, thn_ret, cnd_t, cnd_f, blk_normal, blk_ret, blk_exit, x_seq, x_region, x_cond, x_block, x_loop, x_ret, x_exit, x_skip, e_mov, e_pick, pk_t, pk_f, withH_some, e_box, bx_some, e_load, e_store, stH_some, e_nil, e_bin, e_eqv, eqH_f, eqH_t, e_un, e_fa, e_ia, ia_eq, nat_eq, natV_nat, e_len, lnH_some, e_extract, ex_0, ex_1, e_call0, e_call1, e_call2, e_call3, pc0_eq, pc1_some, pc2_some, pc3_some, fin_some, g_var0, g_vars, g_loc0, g_locs, g_int, g_bool, g_str, g_sl, s_none, s_zero, s_succ, AV.cl, evFa, evNil, evLoad, asEl, evBin, intBin, strBin, evUn, len_nil, len_slc, len_str, clr, List.length_nil, List.length_cons, List.getElem?_cons_zero, List.getElem?_cons_succ, Nat.reduceAdd, Nat.zero_add, Nat.add_zero, Nat.reduceLeDiff, Nat.reduceSub, ↓reduceIte, List.drop_succ_cons, List.drop_zero, List.take_succ_cons, List.take_zero, Bool.false_eq_true, List.nil_append, List.cons_append, Bool.not_true, Bool.not_false, cond_true, cond_false, bne]

theorem wrap_ok {n : Int} (h0 : 0 ≤ n) (h1 : n ≤ 9223372036854775807) : IntKind.i64.wrap n = n := IntWalk.i64_in (by omega) (by omega)

theorem same_loop {K : Nat} {a b : AV} {k k' n n' : Int} {s s' : ByteArray} {ex nn ex' nn' : Bool} {es es' : List AV} (ha : a = .agg [.v (.int .i64 k), .v (.string s), .v (.int .i64 n), .slc 4 ex nn es]) (hb : b = .agg [.v (.int .i64 k'), .v (.string s'), .v (.int .i64 n'), .slc 4 ex' nn' es'])
    (hlen : es.length = es'.length) (hmax : es.length ≤ maxLen) (R : Nat → Bool) (hall : ∀ (i : Nat) (e e' : AV), es[i]? = some e → es'[i]? = some e' → ∃ t t', IsT e t ∧ IsT e' t' ∧ W 15 [e, e'] [] = some (.v (.bool (R i)), [])) :
    ∀ (d i : Nat), i + d = es.length → ∀ (vars : List AV), clr K15 vars = L15 es.length i →
      loopN (exec W K c15_9) K15 (d + 1) vars (hp2 a b) = some (.exit 0, [.junk, .junk, .ptr 0 0, .ptr 1 0, .junk, .junk, .junk, .v (.int .i64 es.length), .v (.int .i64 es.length), .v (.bool false), .junk], hp2 a b) ∧ (∀ j, i ≤ j → j < es.length → R j = true) ∨
      ∃ j : Nat, loopN (exec W K c15_9) K15 (d + 1) vars (hp2 a b) = some (.ret, [.junk, .junk, .ptr 0 0, .ptr 1 0, .v (.bool false), .v (.int .i64 j), .junk, .v (.int .i64 es.length), .v (.int .i64 j), .v (.bool true), .v (.bool true)], hp2 a b) ∧ j < es.length ∧ R j = false := by
  intro d
  induction d with
  | zero =>
    intro i hi vars hv
    left
    have hil : i = es.length := by omega
    subst hil
    refine ⟨?_, fun j h1 h2 => by omega⟩
    refine loop_exit ?_
    rw [hv]
    have hlt : decide ((es.length : Int) < (es.length : Int)) = false := by simp
    simp only [L15, c15_9, c15_4, hlt, run_nil, run_cons, stp_plain, stp_guard, put_some, pass_eq, pick_tt, pick_ff, pick_tf, pick_ft, pick_u, reg_some, thn_normal, thn_exit, thn_ret, cnd_t, cnd_f, blk_normal, blk_ret, blk_exit, x_seq, x_region, x_cond, x_block, x_loop, x_ret, x_exit, x_skip, e_mov, e_pick, pk_t, pk_f, withH_some, e_box, bx_some, e_load, e_store, stH_some, e_nil, e_bin, e_eqv, eqH_f, eqH_t, e_un, e_fa, e_ia, ia_eq, nat_eq, natV_nat, e_len, lnH_some, e_extract, ex_0, ex_1, e_call0, e_call1, e_call2, e_call3, pc0_eq, pc1_some, pc2_some, pc3_some, fin_some, g_var0, g_vars, g_loc0, g_locs, g_int, g_bool, g_str, g_sl, s_none, s_zero, s_succ, AV.cl, evFa, evNil, evLoad, asEl, evBin, intBin, strBin, evUn, len_nil, len_slc, len_str, clr, List.length_nil, List.length_cons, List.getElem?_cons_zero, List.getElem?_cons_succ, Nat.reduceAdd, Nat.zero_add, Nat.add_zero, Nat.reduceLeDiff, Nat.reduceSub, ↓reduceIte, List.drop_succ_cons, List.drop_zero, List.take_succ_cons, List.take_zero, Bool.false_eq_true, List.nil_append, List.cons_append, Bool.not_true, Bool.not_false, cond_true, cond_false, bne]
  | succ d ih =>
    intro i hi vars hv
    have he : es[i]? = some (es[i]'(by omega)) := List.getElem?_eq_getElem _
    have he' : es'[i]? = some (es'[i]'(by omega)) := List.getElem?_eq_getElem _
    obtain ⟨t, t', ht, ht', hc⟩ := hall i _ _ he he'
    have st := same_step (K := K) ha hb he he' ht ht' hc
    cases hR : R i with
    | false =>
      right
      rw [hR] at st
      refine ⟨i, ?_, by omega, hR⟩
      refine loop_ret ?_
      rw [hv]; exact st
    | true =>
      rw [hR] at st
      have hw : IntKind.i64.wrap ((i : Int) + 1) = ((i + 1 : Nat) : Int) := by
        rw [wrap_ok (by omega) (by have : maxLen = 9223372036854775807 := rfl; omega)]; simp
      simp only [if_true, hw] at st
      rw [loop_normal (by rw [hv]; exact st)]
      rcases ih (i + 1) (by omega) [.junk, .junk, .ptr 0 0, .ptr 1 0, .junk, .v (.int .i64 i), .junk, .v (.int .i64 es.length), .v (.int .i64 ((i + 1 : Nat) : Int)), .v (.bool true), .v (.bool !true)] rfl with ⟨h1, h2⟩ | ⟨j, h1, h2, h3⟩
      · left
        refine ⟨h1, fun j hj1 hj2 => ?_⟩
        rcases Nat.lt_or_ge i j with h | h
        · exact h2 j h hj2
        · rw [show j = i by omega]; exact hR
      · exact .inr ⟨j, h1, h2, h3⟩

mutual
theorem sameL_iff : ∀ (l l' : List Tm), sameL l l' = true ↔ ∀ (i : Nat) (t t' : Tm), l[i]? = some t → l'[i]? = some t' → same t t' = true
  | [], l' => by simp [sameL]
  | a :: l, [] => by simp [sameL]
  | a :: l, b :: l' => by
    rw [sameL, Bool.and_eq_true, sameL_iff l l']
    constructor
    · rintro ⟨h1, h2⟩ i t t' e e'
      cases i with
      | zero => simp at e e'; subst e; subst e'; exact h1
      | succ i => exact h2 i t t' (by simpa using e) (by simpa using e')
    · intro h
      exact ⟨h 0 a b rfl rfl, fun i t t' e e' => h (i + 1) t t' (by simpa using e) (by simpa using e')⟩
end

theorem same_ok : ∀ (N : Nat) (t t' : Tm) (a b : AV), SizeOf.sizeOf t < N → IsT a t → IsT b t' → W 15 [a, b] [] = some (.v (.bool (same t t')), []) := by
  intro N
  induction N with
  | zero => intro t t' a b h; omega
  | succ N ih =>
    intro t t' a b hN ha hb
    cases ha with
    | mk k s n c l hc =>
    cases hb with
    | mk k' s' n' c' l' hc' =>
    have len1 : ∀ h, evLen h .slice c = some l.length := by
      intro h; cases hc with
      | nil => rfl
      | slc ex nn es l h1 h2 => rw [← h1.length]; rfl
    have len2 : ∀ h, evLen h .slice c' = some l'.length := by
      intro h; cases hc' with
      | nil => rfl
      | slc ex nn es l h1 h2 => rw [← h1.length]; rfl
    rw [same]
    cases h1 : (k == k') with
    | false =>
      refine callW_pure (c := c15) rfl rfl 0 ?_
      simp only [c15, start, List.replicate, c15_0, c15_1, c15_2, h1, Bool.false_and, run_nil, run_cons, stp_plain, stp_guard, put_some, pass_eq, pick_tt, pick_ff, pick_tf, pick_ft, pick_u, reg_some, thn_normal, thn_exit, thn_ret, cnd_t, cnd_f, blk_normal, blk_ret, blk_exit, x_seq, x_region, x_cond, x_block, x_loop, x_ret, x_exit, x_skip, e_mov, e_pick, pk_t, pk_f, withH_some, e_box, bx_some, e_load, e_store, stH_some, e_nil, e_bin, e_eqv, eqH_f, eqH_t, e_un, e_fa, e_ia, ia_eq, nat_eq, natV_nat, e_len, lnH_some, e_extract, ex_0, ex_1, e_call0, e_call1, e_call2, e_call3, pc0_eq, pc1_some, pc2_some, pc3_some, fin_some, g_var0, g_vars, g_loc0, g_locs, g_int, g_bool, g_str, g_sl, s_none, s_zero, s_succ, AV.cl, evFa, evNil, evLoad, asEl, evBin, intBin, strBin, evUn, len_nil, len_slc, len_str, clr, List.length_nil, List.length_cons, List.getElem?_cons_zero, List.getElem?_cons_succ, Nat.reduceAdd, Nat.zero_add, Nat.add_zero, Nat.reduceLeDiff, Nat.reduceSub, ↓reduceIte, List.drop_succ_cons, List.drop_zero, List.take_succ_cons, List.take_zero, Bool.false_eq_true, List.nil_append, List.cons_append, Bool.not_true, Bool.not_false, cond_true, cond_false, bne, lv_ret, lv_normal, res1, res2, lv2_some, res_var, res_cell, lvf_v, lvf_slc]
    | true =>
    cases h2 : (s.toList == s'.toList) with
    | false =>
      refine callW_pure (c := c15) rfl rfl 0 ?_
      simp only [c15, start, List.replicate, c15_0, c15_1, c15_2, h1, h2, Bool.false_and, Bool.true_and, run_nil, run_cons, stp_plain, stp_guard, put_some, pass_eq, pick_tt, pick_ff, pick_tf, pick_ft, pick_u, reg_some, thn_normal, thn_exit, thn_ret, cnd_t, cnd_f, blk_normal, blk_ret, blk_exit, x_seq, x_region, x_cond, x_block, x_loop, x_ret, x_exit, x_skip, e_mov, e_pick, pk_t, pk_f, withH_some, e_box, bx_some, e_load, e_store, stH_some, e_nil, e_bin, e_eqv, eqH_f, eqH_t, e_un, e_fa, e_ia, ia_eq, nat_eq, natV_nat, e_len, lnH_some, e_extract, ex_0, ex_1, e_call0, e_call1, e_call2, e_call3, pc0_eq, pc1_some, pc2_some, pc3_some, fin_some, g_var0, g_vars, g_loc0, g_locs, g_int, g_bool, g_str, g_sl, s_none, s_zero, s_succ, AV.cl, evFa, evNil, evLoad, asEl, evBin, intBin, strBin, evUn, len_nil, len_slc, len_str, clr, List.length_nil, List.length_cons, List.getElem?_cons_zero, List.getElem?_cons_succ, Nat.reduceAdd, Nat.zero_add, Nat.add_zero, Nat.reduceLeDiff, Nat.reduceSub, ↓reduceIte, List.drop_succ_cons, List.drop_zero, List.take_succ_cons, List.take_zero, Bool.false_eq_true, List.nil_append, List.cons_append, Bool.not_true, Bool.not_false, cond_true, cond_false, bne, lv_ret, lv_normal, res1, res2, lv2_some, res_var, res_cell, lvf_v, lvf_slc]
    | true =>
    cases h3 : (n == n') with
    | false =>
      refine callW_pure (c := c15) rfl rfl 0 ?_
      simp only [c15, start, List.replicate, c15_0, c15_1, c15_2, h1, h2, h3, Bool.false_and, Bool.true_and, run_nil, run_cons, stp_plain, stp_guard, put_some, pass_eq, pick_tt, pick_ff, pick_tf, pick_ft, pick_u, reg_some, thn_normal, thn_exit, thn_ret, cnd_t, cnd_f, blk_normal, blk_ret, blk_exit, x_seq, x_region, x_cond, x_block, x_loop, x_ret, x_exit, x_skip, e_mov, e_pick, pk_t, pk_f, withH_some, e_box, bx_some, e_load, e_store, stH_some, e_nil, e_bin, e_eqv, eqH_f, eqH_t, e_un, e_fa, e_ia, ia_eq, nat_eq, natV_nat, e_len, lnH_some, e_extract, ex_0, ex_1, e_call0, e_call1, e_call2, e_call3, pc0_eq, pc1_some, pc2_some, pc3_some, fin_some, g_var0, g_vars, g_loc0, g_locs, g_int, g_bool, g_str, g_sl, s_none, s_zero, s_succ, AV.cl, evFa, evNil, evLoad, asEl, evBin, intBin, strBin, evUn, len_nil, len_slc, len_str, clr, List.length_nil, List.length_cons, List.getElem?_cons_zero, List.getElem?_cons_succ, Nat.reduceAdd, Nat.zero_add, Nat.add_zero, Nat.reduceLeDiff, Nat.reduceSub, ↓reduceIte, List.drop_succ_cons, List.drop_zero, List.take_succ_cons, List.take_zero, Bool.false_eq_true, List.nil_append, List.cons_append, Bool.not_true, Bool.not_false, cond_true, cond_false, bne, lv_ret, lv_normal, res1, res2, lv2_some, res_var, res_cell, lvf_v, lvf_slc]
    | true =>
    cases h4 : (l.length == l'.length) with
    | false =>
      have h4' : ((l.length : Int) == (l'.length : Int)) = false := by have := h4; simp at this ⊢; omega
      refine callW_pure (c := c15) rfl rfl 0 ?_
      simp only [c15, start, List.replicate, c15_0, c15_1, c15_2, h1, h2, h3, h4', len1, len2, Bool.false_and, Bool.true_and, run_nil, run_cons, stp_plain, stp_guard, put_some, pass_eq, pick_tt, pick_ff, pick_tf, pick_ft, pick_u, reg_some, thn_normal, thn_exit, thn_ret, cnd_t, cnd_f, blk_normal, blk_ret, blk_exit, x_seq, x_region, x_cond, x_block, x_loop, x_ret, x_exit, x_skip, e_mov, e_pick, pk_t, pk_f, withH_some, e_box, bx_some, e_load, e_store, stH_some, e_nil, e_bin, e_eqv, eqH_f, eqH_t, e_un, e_fa, e_ia, ia_eq, nat_eq, natV_nat, e_len, lnH_some, e_extract, ex_0, ex_1, e_call0, e_call1, e_call2, e_call3, pc0_eq, pc1_some, pc2_some, pc3_some, fin_some, g_var0, g_vars, g_loc0, g_locs, g_int, g_bool, g_str, g_sl, s_none, s_zero, s_succ, AV.cl, evFa, evNil, evLoad, asEl, evBin, intBin, strBin, evUn, len_nil, len_slc, len_str, clr, List.length_nil, List.length_cons, List.getElem?_cons_zero, List.getElem?_cons_succ, Nat.reduceAdd, Nat.zero_add, Nat.add_zero, Nat.reduceLeDiff, Nat.reduceSub, ↓reduceIte, List.drop_succ_cons, List.drop_zero, List.take_succ_cons, List.take_zero, Bool.false_eq_true, List.nil_append, List.cons_append, Bool.not_true, Bool.not_false, cond_true, cond_false, bne, lv_ret, lv_normal, res1, res2, lv2_some, res_var, res_cell, lvf_v, lvf_slc]
    | true =>
      have h4n : l.length = l'.length := by simpa using h4
      have h4' : ((l.length : Int) == (l'.length : Int)) = true := by simp [h4n]
      refine callW_pure (c := c15) rfl rfl (l.length + 1) ?_
      rcases Nat.eq_zero_or_pos l.length with h0 | h0
      · have e0 : ((l.length : Nat) : Int) = 0 := by omega
        have h40 : ((0 : Int) == (l'.length : Int)) = true := by simp; omega
        have hl : ∀ (K : Nat) (vars : List AV) (h : List AO), clr [false, false, true, true, false, false, false, true, true, false, false] vars = [.junk, .junk, .ptr 0 0, .ptr 1 0, .junk, .junk, .junk, .v (.int .i64 0), .v (.int .i64 0), .junk, .junk] →
            loopN (exec (callW F) K c15_9) [false, false, true, true, false, false, false, true, true, false, false] 1 vars h = some (.exit 0, [.junk, .junk, .ptr 0 0, .ptr 1 0, .junk, .junk, .junk, .v (.int .i64 0), .v (.int .i64 0), .v (.bool false), .junk], h) := by
          intro K vars h hv
          refine loop_exit (n := 0) ?_
          rw [hv]
          have hlt : decide ((0 : Int) < 0) = false := by simp
          simp only [c15_9, c15_4, hlt, run_nil, run_cons, stp_plain, stp_guard, put_some, pass_eq, pick_tt, pick_ff, pick_tf, pick_ft, pick_u, reg_some, thn_normal, thn_exit, thn_ret, cnd_t, cnd_f, blk_normal, blk_ret, blk_exit, x_seq, x_region, x_cond, x_block, x_loop, x_ret, x_exit, x_skip, e_mov, e_pick, pk_t, pk_f, withH_some, e_box, bx_some, e_load, e_store, stH_some, e_nil, e_bin, e_eqv, eqH_f, eqH_t, e_un, e_fa, e_ia, ia_eq, nat_eq, natV_nat, e_len, lnH_some, e_extract, ex_0, ex_1, e_call0, e_call1, e_call2, e_call3, pc0_eq, pc1_some, pc2_some, pc3_some, fin_some, g_var0, g_vars, g_loc0, g_locs, g_int, g_bool, g_str, g_sl, s_none, s_zero, s_succ, AV.cl, evFa, evNil, evLoad, asEl, evBin, intBin, strBin, evUn, len_nil, len_slc, len_str, clr, List.length_nil, List.length_cons, List.getElem?_cons_zero, List.getElem?_cons_succ, Nat.reduceAdd, Nat.zero_add, Nat.add_zero, Nat.reduceLeDiff, Nat.reduceSub, ↓reduceIte, List.drop_succ_cons, List.drop_zero, List.take_succ_cons, List.take_zero, Bool.false_eq_true, List.nil_append, List.cons_append, Bool.not_true, Bool.not_false, cond_true, cond_false, bne, lv_ret, lv_normal, res1, res2, lv2_some, res_var, res_cell, lvf_v, lvf_slc]
        have hs : sameL l l' = true := by
          have : l = [] := List.length_eq_zero_iff.1 h0
          subst this; simp [sameL]
        rw [h0, hs]
        simp only [c15, start, List.replicate, c15_0, c15_1, c15_2, c15_3, c15_10, h1, h2, h3, h40, len1, len2, e0, Bool.false_and, Bool.true_and, run_nil, run_cons, stp_plain, stp_guard, put_some, pass_eq, pick_tt, pick_ff, pick_tf, pick_ft, pick_u, reg_some, thn_normal, thn_exit, thn_ret, cnd_t, cnd_f, blk_normal, blk_ret, blk_exit, x_seq, x_region, x_cond, x_block, x_loop, x_ret, x_exit, x_skip, e_mov, e_pick, pk_t, pk_f, withH_some, e_box, bx_some, e_load, e_store, stH_some, e_nil, e_bin, e_eqv, eqH_f, eqH_t, e_un, e_fa, e_ia, ia_eq, nat_eq, natV_nat, e_len, lnH_some, e_extract, ex_0, ex_1, e_call0, e_call1, e_call2, e_call3, pc0_eq, pc1_some, pc2_some, pc3_some, fin_some, g_var0, g_vars, g_loc0, g_locs, g_int, g_bool, g_str, g_sl, s_none, s_zero, s_succ, AV.cl, evFa, evNil, evLoad, asEl, evBin, intBin, strBin, evUn, len_nil, len_slc, len_str, clr, List.length_nil, List.length_cons, List.getElem?_cons_zero, List.getElem?_cons_succ, Nat.reduceAdd, Nat.zero_add, Nat.add_zero, Nat.reduceLeDiff, Nat.reduceSub, ↓reduceIte, List.drop_succ_cons, List.drop_zero, List.take_succ_cons, List.take_zero, Bool.false_eq_true, List.nil_append, List.cons_append, Bool.not_true, Bool.not_false, cond_true, cond_false, bne, lv_ret, lv_normal, res1, res2, lv2_some, res_var, res_cell, lvf_v, lvf_slc]
        rw [hl 1 _ _ (by rfl)]
        simp only [run_nil, run_cons, stp_plain, stp_guard, put_some, pass_eq, pick_tt, pick_ff, pick_tf, pick_ft, pick_u, reg_some, thn_normal, thn_exit, thn_ret, cnd_t, cnd_f, blk_normal, blk_ret, blk_exit, x_seq, x_region, x_cond, x_block, x_loop, x_ret, x_exit, x_skip, e_mov, e_pick, pk_t, pk_f, withH_some, e_box, bx_some, e_load, e_store, stH_some, e_nil, e_bin, e_eqv, eqH_f, eqH_t, e_un, e_fa, e_ia, ia_eq, nat_eq, natV_nat, e_len, lnH_some, e_extract, ex_0, ex_1, e_call0, e_call1, e_call2, e_call3, pc0_eq, pc1_some, pc2_some, pc3_some, fin_some, g_var0, g_vars, g_loc0, g_locs, g_int, g_bool, g_str, g_sl, s_none, s_zero, s_succ, AV.cl, evFa, evNil, evLoad, asEl, evBin, intBin, strBin, evUn, len_nil, len_slc, len_str, clr, List.length_nil, List.length_cons, List.getElem?_cons_zero, List.getElem?_cons_succ, Nat.reduceAdd, Nat.zero_add, Nat.add_zero, Nat.reduceLeDiff, Nat.reduceSub, ↓reduceIte, List.drop_succ_cons, List.drop_zero, List.take_succ_cons, List.take_zero, Bool.false_eq_true, List.nil_append, List.cons_append, Bool.not_true, Bool.not_false, cond_true, cond_false, bne, lv_ret, lv_normal, res1, res2, lv2_some, res_var, res_cell, lvf_v, lvf_slc]
      · cases hc with
        | nil => simp at h0
        | slc ex nn es l hes hm =>
        cases hc' with
        | nil => exact absurd h4n (by simp only [List.length_nil]; omega)
        | slc ex' nn' es' l' hes' hm' =>
        have e1 := hes.length
        have e2 := hes'.length
        let R : Nat → Bool := fun i => match l[i]?, l'[i]? with
          | some t, some t' => same t t'
          | _, _ => true
        have hall : ∀ (i : Nat) (e e' : AV), es[i]? = some e → es'[i]? = some e' → ∃ t t', IsT e t ∧ IsT e' t' ∧ W 15 [e, e'] [] = some (.v (.bool (R i)), []) := by
          intro i e e' he he'
          obtain ⟨t, ht, hT⟩ := hes.get he
          obtain ⟨t', ht', hT'⟩ := hes'.get he'
          refine ⟨t, t', hT, hT', ?_⟩
          have hR : R i = same t t' := by simp only [R, ht, ht']
          rw [hR]
          refine ih t t' e e' ?_ hT hT'
          have := List.sizeOf_lt_of_mem (List.mem_of_getElem? ht)
          have h5 := Tm.mk.sizeOf_spec k s n l
          omega
        have hmain := same_loop (K := l.length + 1) (a := .agg [.v (.int .i64 k), .v (.string s), .v (.int .i64 n), .slc 4 ex nn es]) (b := .agg [.v (.int .i64 k'), .v (.string s'), .v (.int .i64 n'), .slc 4 ex' nn' es']) rfl rfl (by omega) hm R hall l.length 0 (by omega)
        have hsame : (∀ j, 0 ≤ j → j < es.length → R j = true) → sameL l l' = true := by
          intro h
          rw [sameL_iff]
          intro i t t' ht ht'
          have := h i (Nat.zero_le _) (by rw [e1]; exact (List.getElem?_eq_some_iff.1 ht).1)
          simpa only [R, ht, ht'] using this
        have hdiff : ∀ j, j < es.length → R j = false → sameL l l' = false := by
          intro j hj hR
          cases hq : sameL l l' with
          | false => rfl
          | true =>
            rw [sameL_iff] at hq
            have g1 : l[j]? = some (l[j]'(by omega)) := List.getElem?_eq_getElem _
            have g2 : l'[j]? = some (l'[j]'(by omega)) := List.getElem?_eq_getElem _
            have := hq j _ _ g1 g2
            simp only [R, g1, g2] at hR
            rw [this] at hR; cases hR
        have hv0 : ∀ vars : List AV, clr [false, false, true, true, false, false, false, true, true, false, false] vars = [.junk, .junk, .ptr 0 0, .ptr 1 0, .junk, .junk, .junk, .v (.int .i64 l.length), .v (.int .i64 0), .junk, .junk] → clr K15 vars = L15 es.length (0 : Nat) := by
          intro vars h
          rw [K15, h, e1]; rfl
        by_cases hA : ∀ j, 0 ≤ j → j < es.length → R j = true
        · have hl : ∀ (vars : List AV), clr [false, false, true, true, false, false, false, true, true, false, false] vars = [.junk, .junk, .ptr 0 0, .ptr 1 0, .junk, .junk, .junk, .v (.int .i64 l.length), .v (.int .i64 0), .junk, .junk] →
              loopN (exec (callW F) (l.length + 1) c15_9) [false, false, true, true, false, false, false, true, true, false, false] (l.length + 1) vars [.box [.v (.int .i64 k), .v (.string s), .v (.int .i64 n), .slc 4 ex nn es], .box [.v (.int .i64 k'), .v (.string s'), .v (.int .i64 n'), .slc 4 ex' nn' es']] = some (.exit 0, [.junk, .junk, .ptr 0 0, .ptr 1 0, .junk, .junk, .junk, .v (.int .i64 es.length), .v (.int .i64 es.length), .v (.bool false), .junk], [.box [.v (.int .i64 k), .v (.string s), .v (.int .i64 n), .slc 4 ex nn es], .box [.v (.int .i64 k'), .v (.string s'), .v (.int .i64 n'), .slc 4 ex' nn' es']]) := by
            intro vars hv
            rcases hmain vars (hv0 vars hv) with ⟨h, _⟩ | ⟨j, _, hj, hR⟩
            · exact h
            · rw [hA j (Nat.zero_le _) hj] at hR; cases hR
          rw [hsame hA]
          simp only [c15, start, List.replicate, c15_0, c15_1, c15_2, c15_3, c15_10, h1, h2, h3, h4', len1, len2, Bool.false_and, Bool.true_and, run_nil, run_cons, stp_plain, stp_guard, put_some, pass_eq, pick_tt, pick_ff, pick_tf, pick_ft, pick_u, reg_some, thn_normal, thn_exit, thn_ret, cnd_t, cnd_f, blk_normal, blk_ret, blk_exit, x_seq, x_region, x_cond, x_block, x_loop, x_ret, x_exit, x_skip, e_mov, e_pick, pk_t, pk_f, withH_some, e_box, bx_some, e_load, e_store, stH_some, e_nil, e_bin, e_eqv, eqH_f, eqH_t, e_un, e_fa, e_ia, ia_eq, nat_eq, natV_nat, e_len, lnH_some, e_extract, ex_0, ex_1, e_call0, e_call1, e_call2, e_call3, pc0_eq, pc1_some, pc2_some, pc3_some, fin_some, g_var0, g_vars, g_loc0, g_locs, g_int, g_bool, g_str, g_sl, s_none, s_zero, s_succ, AV.cl, evFa, evNil, evLoad, asEl, evBin, intBin, strBin, evUn, len_nil, len_slc, len_str, clr, List.length_nil, List.length_cons, List.getElem?_cons_zero, List.getElem?_cons_succ, Nat.reduceAdd, Nat.zero_add, Nat.add_zero, Nat.reduceLeDiff, Nat.reduceSub, ↓reduceIte, List.drop_succ_cons, List.drop_zero, List.take_succ_cons, List.take_zero, Bool.false_eq_true, List.nil_append, List.cons_append, Bool.not_true, Bool.not_false, cond_true, cond_false, bne, lv_ret, lv_normal, res1, res2, lv2_some, res_var, res_cell, lvf_v, lvf_slc]
          rw [hl _ (by rfl)]
          simp only [run_nil, run_cons, stp_plain, stp_guard, put_some, pass_eq, pick_tt, pick_ff, pick_tf, pick_ft, pick_u, reg_some, thn_normal, thn_exit, thn_ret, cnd_t, cnd_f, blk_normal, blk_ret, blk_exit, x_seq, x_region, x_cond, x_block, x_loop, x_ret, x_exit, x_skip, e_mov, e_pick, pk_t, pk_f, withH_some, e_box, bx_some, e_load, e_store, stH_some, e_nil, e_bin, e_eqv, eqH_f, eqH_t, e_un, e_fa, e_ia, ia_eq, nat_eq, natV_nat, e_len, lnH_some, e_extract, ex_0, ex_1, e_call0, e_call1, e_call2, e_call3, pc0_eq, pc1_some, pc2_some, pc3_some, fin_some, g_var0, g_vars, g_loc0, g_locs, g_int, g_bool, g_str, g_sl, s_none, s_zero, s_succ, AV.cl, evFa, evNil, evLoad, asEl, evBin, intBin, strBin, evUn, len_nil, len_slc, len_str, clr, List.length_nil, List.length_cons, List.getElem?_cons_zero, List.getElem?_cons_succ, Nat.reduceAdd, Nat.zero_add, Nat.add_zero, Nat.reduceLeDiff, Nat.reduceSub, ↓reduceIte, List.drop_succ_cons, List.drop_zero, List.take_succ_cons, List.take_zero, Bool.false_eq_true, List.nil_append, List.cons_append, Bool.not_true, Bool.not_false, cond_true, cond_false, bne, lv_ret, lv_normal, res1, res2, lv2_some, res_var, res_cell, lvf_v, lvf_slc]
        · have : ∃ j, j < es.length ∧ R j = false := by
            refine Classical.byContradiction (fun hn => hA (fun j _ hj => ?_))
            cases hR : R j with
            | true => rfl
            | false => exact absurd ⟨j, hj, hR⟩ hn
          obtain ⟨j0, hj0, hR0⟩ := this
          have hl : ∃ j : Nat, ∀ (vars : List AV), clr [false, false, true, true, false, false, false, true, true, false, false] vars = [.junk, .junk, .ptr 0 0, .ptr 1 0, .junk, .junk, .junk, .v (.int .i64 l.length), .v (.int .i64 0), .junk, .junk] →
              loopN (exec (callW F) (l.length + 1) c15_9) [false, false, true, true, false, false, false, true, true, false, false] (l.length + 1) vars [.box [.v (.int .i64 k), .v (.string s), .v (.int .i64 n), .slc 4 ex nn es], .box [.v (.int .i64 k'), .v (.string s'), .v (.int .i64 n'), .slc 4 ex' nn' es']] = some (.ret, [.junk, .junk, .ptr 0 0, .ptr 1 0, .v (.bool false), .v (.int .i64 j), .junk, .v (.int .i64 es.length), .v (.int .i64 j), .v (.bool true), .v (.bool true)], [.box [.v (.int .i64 k), .v (.string s), .v (.int .i64 n), .slc 4 ex nn es], .box [.v (.int .i64 k'), .v (.string s'), .v (.int .i64 n'), .slc 4 ex' nn' es']]) := by
            have hmain' : ∀ vars, clr K15 vars = L15 es.length (0 : Nat) → ∃ j : Nat, loopN (exec W (l.length + 1) c15_9) K15 (l.length + 1) vars (hp2 (.agg [.v (.int .i64 k), .v (.string s), .v (.int .i64 n), .slc 4 ex nn es]) (.agg [.v (.int .i64 k'), .v (.string s'), .v (.int .i64 n'), .slc 4 ex' nn' es'])) = some (.ret, [.junk, .junk, .ptr 0 0, .ptr 1 0, .v (.bool false), .v (.int .i64 j), .junk, .v (.int .i64 es.length), .v (.int .i64 j), .v (.bool true), .v (.bool true)], (hp2 (.agg [.v (.int .i64 k), .v (.string s), .v (.int .i64 n), .slc 4 ex nn es]) (.agg [.v (.int .i64 k'), .v (.string s'), .v (.int .i64 n'), .slc 4 ex' nn' es']))) := fun vars hv => by
              rcases hmain vars hv with ⟨_, h⟩ | ⟨j, h, _, _⟩
              · rw [h j0 (Nat.zero_le _) hj0] at hR0; cases hR0
              · exact ⟨j, h⟩
            obtain ⟨j, hj⟩ := hmain' (L15 es.length (0 : Nat)) rfl
            refine ⟨j, fun vars hv => ?_⟩
            have hcl := hv0 vars hv
            have hsame2 : ∀ (m : Nat) (v1 v2 : List AV) (h : List AO), clr K15 v1 = clr K15 v2 → loopN (exec W (l.length + 1) c15_9) K15 (m + 1) v1 h = loopN (exec W (l.length + 1) c15_9) K15 (m + 1) v2 h := by
              intro m v1 v2 h e
              simp only [loopN, e]
            rw [show loopN (exec (callW F) (l.length + 1) c15_9) [false, false, true, true, false, false, false, true, true, false, false] (l.length + 1) vars _ = _ from hsame2 l.length vars (L15 es.length (0 : Nat)) _ (by rw [hcl]; rfl)]
            exact hj
          obtain ⟨j, hl⟩ := hl
          rw [hdiff j0 hj0 hR0]
          simp only [c15, start, List.replicate, c15_0, c15_1, c15_2, c15_3, c15_10, h1, h2, h3, h4', len1, len2, Bool.false_and, Bool.true_and, run_nil, run_cons, stp_plain, stp_guard, put_some, pass_eq, pick_tt, pick_ff, pick_tf, pick_ft, pick_u, reg_some, thn_normal, thn_exit, thn_ret, cnd_t, cnd_f, blk_normal, blk_ret, blk_exit, x_seq, x_region, x_cond, x_block, x_loop, x_ret, x_exit, x_skip, e_mov, e_pick, pk_t, pk_f, withH_some, e_box, bx_some, e_load, e_store, stH_some, e_nil, e_bin, e_eqv, eqH_f, eqH_t, e_un, e_fa, e_ia, ia_eq, nat_eq, natV_nat, e_len, lnH_some, e_extract, ex_0, ex_1, e_call0, e_call1, e_call2, e_call3, pc0_eq, pc1_some, pc2_some, pc3_some, fin_some, g_var0, g_vars, g_loc0, g_locs, g_int, g_bool, g_str, g_sl, s_none, s_zero, s_succ, AV.cl, evFa, evNil, evLoad, asEl, evBin, intBin, strBin, evUn, len_nil, len_slc, len_str, clr, List.length_nil, List.length_cons, List.getElem?_cons_zero, List.getElem?_cons_succ, Nat.reduceAdd, Nat.zero_add, Nat.add_zero, Nat.reduceLeDiff, Nat.reduceSub, ↓reduceIte, List.drop_succ_cons, List.drop_zero, List.take_succ_cons, List.take_zero, Bool.false_eq_true, List.nil_append, List.cons_append, Bool.not_true, Bool.not_false, cond_true, cond_false, bne, lv_ret, lv_normal, res1, res2, lv2_some, res_var, res_cell, lvf_v, lvf_slc]
          rw [hl _ (by rfl)]
          simp only [run_nil, run_cons, stp_plain, stp_guard, put_some, pass_eq, pick_tt, pick_ff, pick_tf, pick_ft, pick_u, reg_some, thn_normal, thn_exit, thn_ret, cnd_t, cnd_f, blk_normal, blk_ret, blk_exit, x_seq, x_region, x_cond, x_block, x_loop, x_ret, x_exit, x_skip, e_mov, e_pick, pk_t, pk_f, withH_some, e_box, bx_some, e_load, e_store, stH_some, e_nil, e_bin, e_eqv, eqH_f, eqH_t, e_un, e_fa, e_ia, ia_eq, nat_eq, natV_nat, e_len, lnH_some, e_extract, ex_0, ex_1, e_call0, e_call1, e_call2, e_call3, pc0_eq, pc1_some, pc2_some, pc3_some, fin_some, g_var0, g_vars, g_loc0, g_locs, g_int, g_bool, g_str, g_sl, s_none, s_zero, s_succ, AV.cl, evFa, evNil, evLoad, asEl, evBin, intBin, strBin, evUn, len_nil, len_slc, len_str, clr, List.length_nil, List.length_cons, List.getElem?_cons_zero, List.getElem?_cons_succ, Nat.reduceAdd, Nat.zero_add, Nat.add_zero, Nat.reduceLeDiff, Nat.reduceSub, ↓reduceIte, List.drop_succ_cons, List.drop_zero, List.take_succ_cons, List.take_zero, Bool.false_eq_true, List.nil_append, List.cons_append, Bool.not_true, Bool.not_false, cond_true, cond_false, bne, lv_ret, lv_normal, res1, res2, lv2_some, res_var, res_cell, lvf_v, lvf_slc]
end Go.AE.Ytpgoibncgekflaa
end
